/- Changes: the described list of changes. -/
import Derived.Test.YteidaaobppjlbaaWd19
set_option linter.unusedVariables false
set_option linter.unusedSimpArgs false
namespace Go.Proofs.YteidaaobppjlbaaV
open Go.RowKit
def decL : Nat → List Stp → List Chg
  | _, [] => []
  | i, x :: r => x.chg ((i : Int) + 1) :: decL (i + 1) r
theorem decL_app (x : Stp) : ∀ (pre : List Stp) (i : Nat), decL i (pre ++ [x]) = decL i pre ++ [x.chg (((i + pre.length : Nat) : Int) + 1)]
  | [], i => by simp [decL]
  | y :: pre, i => by
    simp only [List.cons_append, decL, decL_app x pre (i + 1), List.length_cons]
    rw [show i + 1 + pre.length = i + (pre.length + 1) by omega]
theorem decL_len : ∀ (l : List Stp) (i : Nat), (decL i l).length = l.length
  | [], i => rfl
  | x :: l, i => by simp [decL, decL_len l (i + 1)]
/-- The changes that steps describe. -/
def changesC (l : List Stp) : List Chg := sortC (decL 0 (l.take 12))
set_option maxRecDepth 100000 in
theorem changes_run' (A : D) (l : List Stp) (hok : ∀ x ∈ l, x.ok) (hA : elsOf (.d A) = some (l.map Stp.enc)) : ∃ B : D, (elsOf (.d B) = some ((changesC l).map Chg.enc) ∧ B ≠ .sl []) ∧ run CC 19 [.d A] [] = some (.d B, []) := by
  obtain ⟨B, hB, hs⟩ := sorted_run' (.sl ((decL 0 (l.take 12)).map Chg.enc)) (decL 0 (l.take 12)) (by rw [decL_len]; simp; omega) rfl
  refine ⟨B, hB, ?_⟩
  refine run_code (s := s19 0) rfl rfl rfl (by kernel_rfl) ?_
  simp [s19, TK.agg, constAV, evalAV, eqCells, EK.has, EK.hasAll, vecEls, elsR, AV.toD, toDs, AV.cells, AV.one, joinD, TyI.zeroD, OpR.of, binIntF, binStrF, AV.isPtr, ptrNil, slNil, mpNil, nilE, eqF, negF, posF, binF, pelF, pvLoad, pelSet, pvStore, boxLoad, epLoad, loadF, boxStore, storeF, fieldAddrF, fieldF, epOf, indexAddrF, byteF, indexF, mapLen, lenF, cutF, sliceF, isSl, slice3F, fillF, arrFs, buildF, partsX, landV, buildSliceF, roomB, appVec, appendF, mmFrom, mmF, max2', min2', clearVec, clearF, convF, unF, pickF, nilChkF, extF, ptrsOf, callF, makeSliceF, sameKs, sameD, kindIs, plainFs, keyOk, mapOb, mapEs, okV, lookF, lookupF, putE, putS, mapPut, mapUpdateF, mapDel, deleteF, mapAll, rangeM, rangeF, overV, hitV, nextO, nextF, entryM, entryO, entryF, itOids, builtinF, capsOf, allocF, boxF, bytesL, bytesF, byteTy, strTy, convertF, makeFuncF, makeMapF, makeMapH, opF, reach, reachOf, AObj.live, closedB, nodupB, packO, packL, packX, backN, backG, backO, obL, backE, frzX, frzO, AV.vids, frzL, landC, sameObs, landR, touchF, D.cells, D.decEq, D.decEqs, AV.decEq, AV.decEqs, AObj.decEq, AV.oids0, AV.oids, AObj.oids, renG, renP, AV.ren0, AV.ren, envGet, envPut, envKeep, obGet, setEff, putV, St.put, stepS, keyChk, chkD, accD, Ex.block, AV.under, AObj.under, laysOf, roomFor, mkvO, frzG, szOk, killO, usedBy, tidyS, ghost, ghostE, normSt, resOf, allSome, one0, resultsF, finL, finishL, finish, endF, startEnv, chkC, backX, comeC, wpn_nil, wpn_seq, wpn_loop, wpn_seq_exit, wpn_loop_exit, wpn_seq_ret, wpn_loop_ret, wpn_block, wpn_post, wpk_skip, wpk_exit, wpk_ret, wpk_reg, wpk_seq, wpk_condT, wpk_block, wpk_loop, wpk_pre, wpk_post, wop_nil, wop_cons, wop_guard, St.know, envSet, cond_d, cond_bool, cond_int, cond_str, endE, endQ, freeB, disj, pushT, bitsW, int_beq, int_bne, eqS_def, tbE, fuelL_eq, ann0_lays, ann0_dd, ann0_ro, elsOf_dsl, elsOf_dnils, toNat_succ, nn_succ, pos_succ, one_succ, rng1, rng2, rng3, rng4, rng5, rng6, rng7, rng8, List.idxOf_cons, T3, T4, T5, T9, T22, T26, T27, T30, T32, T37, T39, T54, T66, T73, T83, T86, T99, T110, T114, T116, T141, T148, T150, CT, hA]
  refine wlp_inv (S := fun p : List Stp × List Stp => ⟨[(0, .d A), (3, .vs 0 0 6 0 p.1.length), (4, .d (.int .i64 p.1.length))], [.vec 0 true false 26 6 ((decL 0 p.1).map Chg.enc)]⟩) (m := fun p => p.2.length) (Inv := fun p => p.1 ++ p.2 = l.take 12) ?_ ([], l.take 12) rfl
  rintro ⟨pre, suf⟩ hps ih
  rw [e19_1]
  simp only at hps ⊢
  have hlen : pre.length + suf.length = min 12 l.length := by rw [← List.length_append, hps, List.length_take]
  have hdl := decL_len pre 0
  have htk : ((decL 0 pre).map Chg.enc).take pre.length = (decL 0 pre).map Chg.enc := List.take_of_length_le (by simp [hdl])
  cases suf with
  | nil =>
    simp at hps hlen
    rw [← hps] at hs
    by_cases h1 : pre.length < l.length
    · have h2 : ¬ pre.length < 12 := by omega
      have h2' : ¬ (pre.length : Int) < 12 := by omega
      simp [c19_1, TK.agg, constAV, evalAV, eqCells, EK.has, EK.hasAll, vecEls, elsR, AV.toD, toDs, AV.cells, AV.one, joinD, TyI.zeroD, OpR.of, binIntF, binStrF, AV.isPtr, ptrNil, slNil, mpNil, nilE, eqF, negF, posF, binF, pelF, pvLoad, pelSet, pvStore, boxLoad, epLoad, loadF, boxStore, storeF, fieldAddrF, fieldF, epOf, indexAddrF, byteF, indexF, mapLen, lenF, cutF, sliceF, isSl, slice3F, fillF, arrFs, buildF, partsX, landV, buildSliceF, roomB, appVec, appendF, mmFrom, mmF, max2', min2', clearVec, clearF, convF, unF, pickF, nilChkF, extF, ptrsOf, callF, makeSliceF, sameKs, sameD, kindIs, plainFs, keyOk, mapOb, mapEs, okV, lookF, lookupF, putE, putS, mapPut, mapUpdateF, mapDel, deleteF, mapAll, rangeM, rangeF, overV, hitV, nextO, nextF, entryM, entryO, entryF, itOids, builtinF, capsOf, allocF, boxF, bytesL, bytesF, byteTy, strTy, convertF, makeFuncF, makeMapF, makeMapH, opF, reach, reachOf, AObj.live, closedB, nodupB, packO, packL, packX, backN, backG, backO, obL, backE, frzX, frzO, AV.vids, frzL, landC, sameObs, landR, touchF, D.cells, D.decEq, D.decEqs, AV.decEq, AV.decEqs, AObj.decEq, AV.oids0, AV.oids, AObj.oids, renG, renP, AV.ren0, AV.ren, envGet, envPut, envKeep, obGet, setEff, putV, St.put, stepS, keyChk, chkD, accD, Ex.block, AV.under, AObj.under, laysOf, roomFor, mkvO, frzG, szOk, killO, usedBy, tidyS, ghost, ghostE, normSt, resOf, allSome, one0, resultsF, finL, finishL, finish, endF, startEnv, chkC, backX, comeC, wpn_nil, wpn_seq, wpn_loop, wpn_seq_exit, wpn_loop_exit, wpn_seq_ret, wpn_loop_ret, wpn_block, wpn_post, wpk_skip, wpk_exit, wpk_ret, wpk_reg, wpk_seq, wpk_condT, wpk_block, wpk_loop, wpk_pre, wpk_post, wop_nil, wop_cons, wop_guard, St.know, envSet, cond_d, cond_bool, cond_int, cond_str, endE, endQ, freeB, disj, pushT, bitsW, int_beq, int_bne, eqS_def, tbE, fuelL_eq, ann0_lays, ann0_dd, ann0_ro, elsOf_dsl, elsOf_dnils, toNat_succ, nn_succ, pos_succ, one_succ, rng1, rng2, rng3, rng4, rng5, rng6, rng7, rng8, List.idxOf_cons, T3, T4, T5, T9, T22, T26, T27, T30, T32, T37, T39, T54, T66, T73, T83, T86, T99, T110, T114, T116, T141, T148, T150, CT, hA, h1, h2, h2', htk, hs, hdl]
    · simp [c19_1, TK.agg, constAV, evalAV, eqCells, EK.has, EK.hasAll, vecEls, elsR, AV.toD, toDs, AV.cells, AV.one, joinD, TyI.zeroD, OpR.of, binIntF, binStrF, AV.isPtr, ptrNil, slNil, mpNil, nilE, eqF, negF, posF, binF, pelF, pvLoad, pelSet, pvStore, boxLoad, epLoad, loadF, boxStore, storeF, fieldAddrF, fieldF, epOf, indexAddrF, byteF, indexF, mapLen, lenF, cutF, sliceF, isSl, slice3F, fillF, arrFs, buildF, partsX, landV, buildSliceF, roomB, appVec, appendF, mmFrom, mmF, max2', min2', clearVec, clearF, convF, unF, pickF, nilChkF, extF, ptrsOf, callF, makeSliceF, sameKs, sameD, kindIs, plainFs, keyOk, mapOb, mapEs, okV, lookF, lookupF, putE, putS, mapPut, mapUpdateF, mapDel, deleteF, mapAll, rangeM, rangeF, overV, hitV, nextO, nextF, entryM, entryO, entryF, itOids, builtinF, capsOf, allocF, boxF, bytesL, bytesF, byteTy, strTy, convertF, makeFuncF, makeMapF, makeMapH, opF, reach, reachOf, AObj.live, closedB, nodupB, packO, packL, packX, backN, backG, backO, obL, backE, frzX, frzO, AV.vids, frzL, landC, sameObs, landR, touchF, D.cells, D.decEq, D.decEqs, AV.decEq, AV.decEqs, AObj.decEq, AV.oids0, AV.oids, AObj.oids, renG, renP, AV.ren0, AV.ren, envGet, envPut, envKeep, obGet, setEff, putV, St.put, stepS, keyChk, chkD, accD, Ex.block, AV.under, AObj.under, laysOf, roomFor, mkvO, frzG, szOk, killO, usedBy, tidyS, ghost, ghostE, normSt, resOf, allSome, one0, resultsF, finL, finishL, finish, endF, startEnv, chkC, backX, comeC, wpn_nil, wpn_seq, wpn_loop, wpn_seq_exit, wpn_loop_exit, wpn_seq_ret, wpn_loop_ret, wpn_block, wpn_post, wpk_skip, wpk_exit, wpk_ret, wpk_reg, wpk_seq, wpk_condT, wpk_block, wpk_loop, wpk_pre, wpk_post, wop_nil, wop_cons, wop_guard, St.know, envSet, cond_d, cond_bool, cond_int, cond_str, endE, endQ, freeB, disj, pushT, bitsW, int_beq, int_bne, eqS_def, tbE, fuelL_eq, ann0_lays, ann0_dd, ann0_ro, elsOf_dsl, elsOf_dnils, toNat_succ, nn_succ, pos_succ, one_succ, rng1, rng2, rng3, rng4, rng5, rng6, rng7, rng8, List.idxOf_cons, T3, T4, T5, T9, T22, T26, T27, T30, T32, T37, T39, T54, T66, T73, T83, T86, T99, T110, T114, T116, T141, T148, T150, CT, hA, h1, htk, hs, hdl]
  | cons x suf =>
    simp at hlen
    have h1 : pre.length < l.length := by omega
    have h2' : (pre.length : Int) < 12 := by omega
    have hget : l[pre.length]? = some x := by
      have : (l.take 12)[pre.length]? = some x := by rw [← hps]; simp
      rw [List.getElem?_take] at this
      split at this
      · exact this
      · cases this
    have hx : (l.map Stp.enc)[pre.length]? = some x.enc := by rw [List.getElem?_map, hget]; rfl
    have hxg : l[pre.length] = x := (List.getElem?_eq_some_iff.1 hget).2
    have hw : IntKind.i64.wrap ((pre.length : Int) + 1) = (pre.length : Int) + 1 := wrap64 (by omega) (by omega)
    have hch := change_run x ((pre.length : Int) + 1) (hok x (List.mem_of_getElem? hget))
    have happ := decL_app x pre 0
    rw [Nat.zero_add] at happ
    have ih := ih (pre ++ [x], suf) (by simpa using hps) (by simp)
    simp only [happ] at ih
    simp at ih
    generalize hc : x.chg ((pre.length : Int) + 1) = c at hch ih
    have hz : szAll 6 [c.enc] = true := by simp [szAll, Chg.enc, D.cells]
    have r1 : (pre.length + 1) * 72 ≤ 140737488355328 := by omega
    have r2 : pre.length + 1 ≤ 9223372036854775807 := by omega
    simp only [Stp.enc] at hx hch
    simp only [Chg.enc] at hch hz
    simp [c19_1, TK.agg, constAV, evalAV, eqCells, EK.has, EK.hasAll, vecEls, elsR, AV.toD, toDs, AV.cells, AV.one, joinD, TyI.zeroD, OpR.of, binIntF, binStrF, AV.isPtr, ptrNil, slNil, mpNil, nilE, eqF, negF, posF, binF, pelF, pvLoad, pelSet, pvStore, boxLoad, epLoad, loadF, boxStore, storeF, fieldAddrF, fieldF, epOf, indexAddrF, byteF, indexF, mapLen, lenF, cutF, sliceF, isSl, slice3F, fillF, arrFs, buildF, partsX, landV, buildSliceF, roomB, appVec, appendF, mmFrom, mmF, max2', min2', clearVec, clearF, convF, unF, pickF, nilChkF, extF, ptrsOf, callF, makeSliceF, sameKs, sameD, kindIs, plainFs, keyOk, mapOb, mapEs, okV, lookF, lookupF, putE, putS, mapPut, mapUpdateF, mapDel, deleteF, mapAll, rangeM, rangeF, overV, hitV, nextO, nextF, entryM, entryO, entryF, itOids, builtinF, capsOf, allocF, boxF, bytesL, bytesF, byteTy, strTy, convertF, makeFuncF, makeMapF, makeMapH, opF, reach, reachOf, AObj.live, closedB, nodupB, packO, packL, packX, backN, backG, backO, obL, backE, frzX, frzO, AV.vids, frzL, landC, sameObs, landR, touchF, D.cells, D.decEq, D.decEqs, AV.decEq, AV.decEqs, AObj.decEq, AV.oids0, AV.oids, AObj.oids, renG, renP, AV.ren0, AV.ren, envGet, envPut, envKeep, obGet, setEff, putV, St.put, stepS, keyChk, chkD, accD, Ex.block, AV.under, AObj.under, laysOf, roomFor, mkvO, frzG, szOk, killO, usedBy, tidyS, ghost, ghostE, normSt, resOf, allSome, one0, resultsF, finL, finishL, finish, endF, startEnv, chkC, backX, comeC, wpn_nil, wpn_seq, wpn_loop, wpn_seq_exit, wpn_loop_exit, wpn_seq_ret, wpn_loop_ret, wpn_block, wpn_post, wpk_skip, wpk_exit, wpk_ret, wpk_reg, wpk_seq, wpk_condT, wpk_block, wpk_loop, wpk_pre, wpk_post, wop_nil, wop_cons, wop_guard, St.know, envSet, cond_d, cond_bool, cond_int, cond_str, endE, endQ, freeB, disj, pushT, bitsW, int_beq, int_bne, eqS_def, tbE, fuelL_eq, ann0_lays, ann0_dd, ann0_ro, elsOf_dsl, elsOf_dnils, toNat_succ, nn_succ, pos_succ, one_succ, rng1, rng2, rng3, rng4, rng5, rng6, rng7, rng8, List.idxOf_cons, T3, T4, T5, T9, T22, T26, T27, T30, T32, T37, T39, T54, T66, T73, T83, T86, T99, T110, T114, T116, T141, T148, T150, CT, Stp.enc, hA, h1, h2', hx, hxg, hw, hch, hz, r1, r2, htk, hdl]
    exact ih
theorem changes_run (A : D) (l : List Stp) (hok : ∀ x ∈ l, x.ok) (hA : elsOf (.d A) = some (l.map Stp.enc)) : ∃ B : D, elsOf (.d B) = some ((changesC l).map Chg.enc) ∧ run CC 19 [.d A] [] = some (.d B, []) := by
  obtain ⟨B, ⟨h1, _⟩, h2⟩ := changes_run' A l hok hA
  exact ⟨B, h1, h2⟩
end Go.Proofs.YteidaaobppjlbaaV
