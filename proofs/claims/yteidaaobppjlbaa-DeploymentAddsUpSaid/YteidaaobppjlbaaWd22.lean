/- Rollouts. -/
import Derived.Test.YteidaaobppjlbaaWd21
set_option linter.unusedVariables false
set_option linter.unusedSimpArgs false
namespace Go.Proofs.YteidaaobppjlbaaV
open Go.RowKit
/-- The slots in which a change is in effect, in front of the changes behind it. -/
def effI (c : Chg) (rest : List Chg) : Int × Int := if nextAt c rest ≤ c.slot then (0, 0) else (c.slot, nextAt c rest)
structure Rol where
  id : Int
  svc : ByteArray
  ver : ByteArray
  lo : Int
  hi : Int
def Rol.enc (r : Rol) : D := .agg [.int .i64 r.id, .str r.svc, .str r.ver, .int .i64 r.lo, .int .i64 r.hi]
def rolL : List Chg → List Rol
  | [] => []
  | c :: r => if c.kind = 1 ∧ ¬ effI c r = (0, 0) then ⟨c.id, c.svc, c.ver, (effI c r).1, (effI c r).2⟩ :: rolL r else rolL r
theorem effD_eq (l : List Chg) (i : Nat) (c : Chg) : effD l i c = ivD (effI c (l.drop (i + 1))).1 (effI c (l.drop (i + 1))).2 := by
  unfold effD effI; split <;> rfl
set_option maxRecDepth 100000 in
theorem rollouts_run (A : D) (l : List Chg) (hl : l.length < 1000) (hA : elsOf (.d A) = some (l.map Chg.enc)) : run CC 20 [.d A] [] = some (.d (.sl ((rolL l).map Rol.enc)), []) := by
  refine run_code (s := s20 0) rfl rfl rfl (by kernel_rfl) ?_
  simp [s20, TK.agg, constAV, evalAV, eqCells, EK.has, EK.hasAll, vecEls, elsR, AV.toD, toDs, AV.cells, AV.one, joinD, TyI.zeroD, OpR.of, binIntF, binStrF, AV.isPtr, ptrNil, slNil, mpNil, nilE, eqF, negF, posF, binF, pelF, pvLoad, pelSet, pvStore, boxLoad, epLoad, loadF, boxStore, storeF, fieldAddrF, fieldF, epOf, indexAddrF, byteF, indexF, mapLen, lenF, cutF, sliceF, isSl, slice3F, fillF, arrFs, buildF, partsX, landV, buildSliceF, roomB, appVec, appendF, mmFrom, mmF, max2', min2', clearVec, clearF, convF, unF, pickF, nilChkF, extF, ptrsOf, callF, makeSliceF, sameKs, sameD, kindIs, plainFs, keyOk, mapOb, mapEs, okV, lookF, lookupF, putE, putS, mapPut, mapUpdateF, mapDel, deleteF, mapAll, rangeM, rangeF, overV, hitV, nextO, nextF, entryM, entryO, entryF, itOids, builtinF, capsOf, allocF, boxF, convertF, makeFuncF, makeMapF, makeMapH, opF, reach, reachOf, AObj.live, closedB, nodupB, packO, packL, packX, backN, backG, backO, obL, backE, frzX, frzO, AV.vids, frzL, landC, sameObs, landR, touchF, D.cells, D.decEq, D.decEqs, AV.decEq, AV.decEqs, AObj.decEq, AV.oids0, AV.oids, AObj.oids, renG, renP, AV.ren0, AV.ren, envGet, envPut, envKeep, obGet, setEff, putV, St.put, stepS, keyChk, chkD, accD, Ex.block, AV.under, AObj.under, laysOf, roomFor, mkvO, frzG, szOk, killO, usedBy, tidyS, ghost, ghostE, normSt, resOf, allSome, one0, resultsF, finL, finishL, finish, endF, startEnv, chkC, backX, comeC, wpn_nil, wpn_seq, wpn_loop, wpn_seq_exit, wpn_loop_exit, wpn_seq_ret, wpn_loop_ret, wpn_block, wpn_post, wpk_skip, wpk_exit, wpk_ret, wpk_reg, wpk_seq, wpk_condT, wpk_block, wpk_loop, wpk_pre, wpk_post, wop_nil, wop_cons, wop_guard, St.know, envSet, cond_d, cond_bool, cond_int, cond_str, endE, endQ, freeB, disj, pushT, bitsW, int_beq, int_bne, eqS_def, tbE, fuelL_eq, ann0_lays, ann0_dd, ann0_ro, elsOf_dsl, elsOf_dnils, toNat_succ, nn_succ, pos_succ, one_succ, rng1, rng2, rng3, rng4, rng5, rng6, rng7, rng8, List.idxOf_cons, T3, T4, T5, T9, T22, T26, T27, T30, T32, T34, T37, T39, T45, T46, T47, T48, T50, T52, T54, T56, T59, T61, T64, T66, T72, T73, T78, T99, T101, T103, T104, T107, T110, T113, T116, T154, T169, T171, T194, CT, hA]
  refine wlp_inv (S := fun p : List Chg × List Chg × List Rol => ⟨[(0, .d A), (3, .vs 0 0 5 0 p.2.2.length), (7, .d A), (8, .d (.int .i64 l.length)), (9, .d (.int .i64 p.1.length))], [.vec 0 true false 39 5 (p.2.2.map Rol.enc)]⟩) (m := fun p => p.2.1.length) (Inv := fun p => p.1 ++ p.2.1 = l ∧ p.2.2 ++ rolL p.2.1 = rolL l ∧ p.2.2.length ≤ p.1.length) ?_ ([], l, []) ⟨rfl, rfl, Nat.le_refl _⟩
  rintro ⟨pre, suf, o⟩ ⟨hps, ho, hle⟩ ih
  rw [e20_1]
  simp only at hps ho hle ⊢
  rw [← ho] at ih ⊢
  have htk : (o.map Rol.enc).take o.length = o.map Rol.enc := List.take_of_length_le (by simp)
  cases suf with
  | nil =>
    have hn : l.length = pre.length := by rw [← hps]; simp
    simp [c20_1, TK.agg, constAV, evalAV, eqCells, EK.has, EK.hasAll, vecEls, elsR, AV.toD, toDs, AV.cells, AV.one, joinD, TyI.zeroD, OpR.of, binIntF, binStrF, AV.isPtr, ptrNil, slNil, mpNil, nilE, eqF, negF, posF, binF, pelF, pvLoad, pelSet, pvStore, boxLoad, epLoad, loadF, boxStore, storeF, fieldAddrF, fieldF, epOf, indexAddrF, byteF, indexF, mapLen, lenF, cutF, sliceF, isSl, slice3F, fillF, arrFs, buildF, partsX, landV, buildSliceF, roomB, appVec, appendF, mmFrom, mmF, max2', min2', clearVec, clearF, convF, unF, pickF, nilChkF, extF, ptrsOf, callF, makeSliceF, sameKs, sameD, kindIs, plainFs, keyOk, mapOb, mapEs, okV, lookF, lookupF, putE, putS, mapPut, mapUpdateF, mapDel, deleteF, mapAll, rangeM, rangeF, overV, hitV, nextO, nextF, entryM, entryO, entryF, itOids, builtinF, capsOf, allocF, boxF, convertF, makeFuncF, makeMapF, makeMapH, opF, reach, reachOf, AObj.live, closedB, nodupB, packO, packL, packX, backN, backG, backO, obL, backE, frzX, frzO, AV.vids, frzL, landC, sameObs, landR, touchF, D.cells, D.decEq, D.decEqs, AV.decEq, AV.decEqs, AObj.decEq, AV.oids0, AV.oids, AObj.oids, renG, renP, AV.ren0, AV.ren, envGet, envPut, envKeep, obGet, setEff, putV, St.put, stepS, keyChk, chkD, accD, Ex.block, AV.under, AObj.under, laysOf, roomFor, mkvO, frzG, szOk, killO, usedBy, tidyS, ghost, ghostE, normSt, resOf, allSome, one0, resultsF, finL, finishL, finish, endF, startEnv, chkC, backX, comeC, wpn_nil, wpn_seq, wpn_loop, wpn_seq_exit, wpn_loop_exit, wpn_seq_ret, wpn_loop_ret, wpn_block, wpn_post, wpk_skip, wpk_exit, wpk_ret, wpk_reg, wpk_seq, wpk_condT, wpk_block, wpk_loop, wpk_pre, wpk_post, wop_nil, wop_cons, wop_guard, St.know, envSet, cond_d, cond_bool, cond_int, cond_str, endE, endQ, freeB, disj, pushT, bitsW, int_beq, int_bne, eqS_def, tbE, fuelL_eq, ann0_lays, ann0_dd, ann0_ro, elsOf_dsl, elsOf_dnils, toNat_succ, nn_succ, pos_succ, one_succ, rng1, rng2, rng3, rng4, rng5, rng6, rng7, rng8, List.idxOf_cons, T3, T4, T5, T9, T22, T26, T27, T30, T32, T34, T37, T39, T45, T46, T47, T48, T50, T52, T54, T56, T59, T61, T64, T66, T72, T73, T78, T99, T101, T103, T104, T107, T110, T113, T116, T154, T169, T171, T194, CT, rolL, hn, htk]
  | cons c suf =>
    have hn : l.length = pre.length + (suf.length + 1) := by rw [← hps]; simp
    have hps' : pre ++ c :: suf = l := hps
    have hw : IntKind.i64.wrap ((pre.length : Int) + 1) = (pre.length : Int) + 1 := wrap64 (by omega) (by omega)
    have hyg : l[pre.length]? = some c := by rw [← hps]; simp
    have hy : (l.map Chg.enc)[pre.length]? = some c.enc := by rw [List.getElem?_map, hyg]; rfl
    have hlt : pre.length < l.length := by omega
    have hpg : l[pre.length] = c := (List.getElem?_eq_some_iff.1 hyg).2
    have hdrop : l.drop (pre.length + 1) = suf := by rw [← hps]; simp [List.drop_append]
    have hef := effect_run A l pre.length c hyg hl hA
    rw [effD_eq, hdrop] at hef
    have hE : eqCells [.int .i64 (effI c suf).1, .int .i64 (effI c suf).2] [.int .i64 0, .int .i64 0] = some (decide (effI c suf = (0, 0))) := by
      simp [eqCells, int_beq, Prod.ext_iff]
    have r1 : (o.length + 1) * 56 ≤ 140737488355328 := by omega
    have r2 : o.length + 1 ≤ 9223372036854775807 := by omega
    have ih1 := ih (pre ++ [c], suf, o)
    have ih2 := ih (pre ++ [c], suf, o ++ [⟨c.id, c.svc, c.ver, (effI c suf).1, (effI c suf).2⟩])
    simp only [Chg.enc] at hy
    simp only [ivD] at hef
    simp at ih1 ih2
    have hz : szAll 5 [Rol.enc ⟨c.id, c.svc, c.ver, (effI c suf).1, (effI c suf).2⟩] = true := by simp [szAll, Rol.enc, D.cells]
    simp only [Rol.enc] at hz
    have hrol : rolL (c :: suf) = if c.kind = 1 ∧ ¬ effI c suf = (0, 0) then ⟨c.id, c.svc, c.ver, (effI c suf).1, (effI c suf).2⟩ :: rolL suf else rolL suf := rfl
    generalize effI c suf = ei at *
    simp [c20_1, TK.agg, constAV, evalAV, EK.has, EK.hasAll, vecEls, elsR, AV.toD, toDs, AV.cells, AV.one, joinD, TyI.zeroD, OpR.of, binIntF, binStrF, AV.isPtr, ptrNil, slNil, mpNil, nilE, eqF, negF, posF, binF, pelF, pvLoad, pelSet, pvStore, boxLoad, epLoad, loadF, boxStore, storeF, fieldAddrF, fieldF, epOf, indexAddrF, byteF, indexF, mapLen, lenF, cutF, sliceF, isSl, slice3F, fillF, arrFs, buildF, partsX, landV, buildSliceF, roomB, appVec, appendF, mmFrom, mmF, max2', min2', clearVec, clearF, convF, unF, pickF, nilChkF, extF, ptrsOf, callF, makeSliceF, sameKs, sameD, kindIs, plainFs, keyOk, mapOb, mapEs, okV, lookF, lookupF, putE, putS, mapPut, mapUpdateF, mapDel, deleteF, mapAll, rangeM, rangeF, overV, hitV, nextO, nextF, entryM, entryO, entryF, itOids, builtinF, capsOf, allocF, boxF, convertF, makeFuncF, makeMapF, makeMapH, opF, reach, reachOf, AObj.live, closedB, nodupB, packO, packL, packX, backN, backG, backO, obL, backE, frzX, frzO, AV.vids, frzL, landC, sameObs, landR, touchF, D.cells, D.decEq, D.decEqs, AV.decEq, AV.decEqs, AObj.decEq, AV.oids0, AV.oids, AObj.oids, renG, renP, AV.ren0, AV.ren, envGet, envPut, envKeep, obGet, setEff, putV, St.put, stepS, keyChk, chkD, accD, Ex.block, AV.under, AObj.under, laysOf, roomFor, mkvO, frzG, szOk, killO, usedBy, tidyS, ghost, ghostE, normSt, resOf, allSome, one0, resultsF, finL, finishL, finish, endF, startEnv, chkC, backX, comeC, wpn_nil, wpn_seq, wpn_loop, wpn_seq_exit, wpn_loop_exit, wpn_seq_ret, wpn_loop_ret, wpn_block, wpn_post, wpk_skip, wpk_exit, wpk_ret, wpk_reg, wpk_seq, wpk_condT, wpk_block, wpk_loop, wpk_pre, wpk_post, wop_nil, wop_cons, wop_guard, St.know, envSet, cond_d, cond_bool, cond_int, cond_str, endE, endQ, freeB, disj, pushT, bitsW, int_beq, int_bne, eqS_def, tbE, fuelL_eq, ann0_lays, ann0_dd, ann0_ro, elsOf_dsl, elsOf_dnils, toNat_succ, nn_succ, pos_succ, one_succ, rng1, rng2, rng3, rng4, rng5, rng6, rng7, rng8, List.idxOf_cons, T3, T4, T5, T9, T22, T26, T27, T30, T32, T34, T37, T39, T45, T46, T47, T48, T50, T52, T54, T56, T59, T61, T64, T66, T72, T73, T78, T99, T101, T103, T104, T107, T110, T113, T116, T154, T169, T171, T194, CT, CQ, QQ, Chg.enc, hA, hy, hlt, hpg, hw, hef, hE, htk, r1, r2, hz]
    refine ifI (fun hk => ifI (fun he => ?_) fun he => ?_) fun hk => ?_
    · exact ih1 hps' (by rw [hrol, if_neg (by simp [he])]) (by omega)
    · exact ih2 hps' (by rw [hrol, if_pos ⟨hk, he⟩]) (by omega)
    · exact ih1 hps' (by rw [hrol, if_neg (by simp [hk])]) (by omega)
end Go.Proofs.YteidaaobppjlbaaV
