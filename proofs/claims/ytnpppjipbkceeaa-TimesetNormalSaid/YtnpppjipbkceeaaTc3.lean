/- Intervals in order, joined. -/
import Derived.Test.YtnpppjipbkceeaaTc2
set_option linter.unusedVariables false
set_option linter.unusedSimpArgs false
namespace Go.Proofs.YtnpppjipbkceeaaV
open Go.RowKit
/-- What has been joined, backward; what is to come. -/
def jr : List Iv → List Iv → List Iv
  | o, [] => o.reverse
  | [], c :: r => if c.2 ≤ c.1 then jr [] r else jr [c] r
  | d :: o, c :: r => if c.2 ≤ c.1 then jr (d :: o) r else if c.1 ≤ d.2 then jr ((d.1, if c.2 > d.2 then c.2 else d.2) :: o) r else jr (c :: d :: o) r
theorem jr_len : ∀ (r o : List Iv), (jr o r).length ≤ o.length + r.length
  | [], o => by simp [jr]
  | c :: r, [] => by
    have h1 := jr_len r []
    have h2 := jr_len r [c]
    simp only [jr]
    simp only [List.length_cons, List.length_nil] at h1 h2 ⊢
    split <;> omega
  | c :: r, d :: o => by
    have h1 := jr_len r (d :: o)
    have h2 := jr_len r ((d.1, if c.2 > d.2 then c.2 else d.2) :: o)
    have h3 := jr_len r (c :: d :: o)
    simp only [jr]
    simp only [List.length_cons] at h1 h2 h3 ⊢
    by_cases e1 : c.2 ≤ c.1
    · rw [if_pos e1]; omega
    · rw [if_neg e1]
      by_cases e2 : c.1 ≤ d.2
      · rw [if_pos e2]; omega
      · rw [if_neg e2]; omega
theorem rev_at (d : Iv) (o : List Iv) : (((d :: o).reverse).map iD)[o.length]? = some (iD d) ∧ ((d :: o).reverse)[o.length]? = some d ∧ o.length < (d :: o).reverse.length ∧ (d :: o).reverse.length = o.length + 1 ∧ ∀ x : Iv, (((d :: o).reverse).map iD).set o.length (iD x) = ((x :: o).reverse).map iD := by
  refine ⟨by simp, by simp, by simp, by simp, fun x => ?_⟩
  rw [← List.map_set]
  congr 1
  simp [List.set_append_right]
set_option maxRecDepth 100000 in
set_option maxHeartbeats 1000000 in
theorem joined53_run (A : D) (l : List Iv) (hl : l.length < 1000000) (hA : elsOf (.d A) = some (l.map iD)) : run CC 53 [.d A] [] = some (.d (.sl ((jr [] l).map iD)), []) := by
  refine run_code (s := s53 0) rfl rfl rfl (by kernel_rfl) ?_
  simp [s53, TK.agg, constAV, evalAV, eqCells, EK.has, EK.hasAll, vecEls, elsR, AV.toD, toDs, AV.cells, AV.one, joinD, TyI.zeroD, OpR.of, binIntF, binStrF, AV.isPtr, ptrNil, slNil, mpNil, nilE, eqF, negF, posF, binF, pelF, pvLoad, pelSet, pvStore, boxLoad, epLoad, loadF, boxStore, storeF, fieldAddrF, fieldF, epOf, indexAddrF, byteF, indexF, mapLen, lenF, cutF, sliceF, isSl, slice3F, fillF, arrFs, buildF, partsX, landV, buildSliceF, roomB, appVec, appendF, mmFrom, mmF, max2', min2', clearVec, clearF, convF, unF, pickF, nilChkF, extF, ptrsOf, callF, makeSliceF, sameKs, sameD, kindIs, plainFs, keyOk, mapOb, mapEs, okV, lookF, lookupF, putE, putS, mapPut, mapUpdateF, mapDel, deleteF, mapAll, rangeM, rangeF, overV, hitV, nextO, nextF, entryM, entryO, entryF, itOids, builtinF, capsOf, allocF, boxF, bytesL, bytesF, byteTy, strTy, convertF, makeFuncF, makeMapF, makeMapH, opF, reach, reachOf, AObj.live, closedB, nodupB, packO, packL, packX, backN, backG, backO, obL, backE, frzX, frzO, AV.vids, frzL, landC, sameObs, landR, touchF, bitsW, D.cells, D.decEq, D.decEqs, AV.decEq, AV.decEqs, AObj.decEq, AV.oids0, AV.oids, AObj.oids, renG, renP, AV.ren0, AV.ren, envGet, envPut, envKeep, obGet, setEff, putV, St.put, stepS, keyChk, chkD, accD, Ex.block, AV.under, AObj.under, laysOf, roomFor, mkvO, frzG, szOk, killO, usedBy, tidyS, ghost, ghostE, normSt, resOf, allSome, one0, resultsF, finL, finishL, finish, endF, startEnv, chkC, backX, comeC, AV.flat0, rngC, loopO, layL, endLp, busyL, idleL, noRng, rndSt, rndEnd, wpn_nil, wpn_seq, wpn_loop, wpn_seq_exit, wpn_loop_exit, wpn_seq_ret, wpn_loop_ret, wpn_block, wpn_post, wpk_skip, wpk_exit, wpk_ret, wpk_reg, wpk_seq, wpk_condT, wpk_block, wpk_loop, wpk_pre, wpk_post, wop_nil, wop_cons, wop_guard, St.know, envSet, cond_d, cond_bool, cond_int, cond_str, endE, endQ, freeB, disj, pushT, bitsW, int_beq, int_bne, eqS_def, tbE, fuelL_eq, ann0_lays, ann0_dd, ann0_ro, elsOf_dsl, elsOf_dnils, toNat_succ, nn_succ, pos_succ, one_succ, rng1, rng2, rng3, rng4, rng5, rng6, rng7, rng8, List.idxOf_cons, wpk_rng, rndK, rndE, T2, T3, T4, T5, T6, T8, T9, T23, T33, T38, T45, T62, T76, T85, T92, T94, T95, CT, hA]
  refine wlp_inv (S := fun p : List Iv × List Iv × List Iv => ⟨[(3, .vs 0 0 2 0 p.2.2.length), (7, .d A), (8, .d (.int .i64 l.length)), (9, .d (.int .i64 p.1.length))], [.vec 0 true false 33 2 (p.2.2.reverse.map iD)]⟩) (m := fun p => p.2.1.length) (Inv := fun p => p.1 ++ p.2.1 = l ∧ p.2.2.length ≤ p.1.length ∧ jr p.2.2 p.2.1 = jr [] l) ?_ ([], l, []) ⟨rfl, by simp, rfl⟩
  rintro ⟨pre, suf, o⟩ ⟨hps, hol, h2⟩ ih
  rw [e53_1]
  simp only at h2 hps hol ⊢
  rw [← h2] at ih ⊢
  clear h2
  have htk : (o.reverse.map iD).take o.length = o.reverse.map iD := by rw [List.take_of_length_le]; simp
  cases suf with
  | nil =>
    have hn := endL hps
    simp only [jr]
    generalize hE : o.reverse.map iD = E at *
    simp [c53_1, TK.agg, constAV, evalAV, eqCells, EK.has, EK.hasAll, vecEls, elsR, AV.toD, toDs, AV.cells, AV.one, joinD, TyI.zeroD, OpR.of, binIntF, binStrF, AV.isPtr, ptrNil, slNil, mpNil, nilE, eqF, negF, posF, binF, pelF, pvLoad, pelSet, pvStore, boxLoad, epLoad, loadF, boxStore, storeF, fieldAddrF, fieldF, epOf, indexAddrF, byteF, indexF, mapLen, lenF, cutF, sliceF, isSl, slice3F, fillF, arrFs, buildF, partsX, landV, buildSliceF, roomB, appVec, appendF, mmFrom, mmF, max2', min2', clearVec, clearF, convF, unF, pickF, nilChkF, extF, ptrsOf, callF, makeSliceF, sameKs, sameD, kindIs, plainFs, keyOk, mapOb, mapEs, okV, lookF, lookupF, putE, putS, mapPut, mapUpdateF, mapDel, deleteF, mapAll, rangeM, rangeF, overV, hitV, nextO, nextF, entryM, entryO, entryF, itOids, builtinF, capsOf, allocF, boxF, bytesL, bytesF, byteTy, strTy, convertF, makeFuncF, makeMapF, makeMapH, opF, reach, reachOf, AObj.live, closedB, nodupB, packO, packL, packX, backN, backG, backO, obL, backE, frzX, frzO, AV.vids, frzL, landC, sameObs, landR, touchF, bitsW, D.cells, D.decEq, D.decEqs, AV.decEq, AV.decEqs, AObj.decEq, AV.oids0, AV.oids, AObj.oids, renG, renP, AV.ren0, AV.ren, envGet, envPut, envKeep, obGet, setEff, putV, St.put, stepS, keyChk, chkD, accD, Ex.block, AV.under, AObj.under, laysOf, roomFor, mkvO, frzG, szOk, killO, usedBy, tidyS, ghost, ghostE, normSt, resOf, allSome, one0, resultsF, finL, finishL, finish, endF, startEnv, chkC, backX, comeC, AV.flat0, rngC, loopO, layL, endLp, busyL, idleL, noRng, rndSt, rndEnd, wpn_nil, wpn_seq, wpn_loop, wpn_seq_exit, wpn_loop_exit, wpn_seq_ret, wpn_loop_ret, wpn_block, wpn_post, wpk_skip, wpk_exit, wpk_ret, wpk_reg, wpk_seq, wpk_condT, wpk_block, wpk_loop, wpk_pre, wpk_post, wop_nil, wop_cons, wop_guard, St.know, envSet, cond_d, cond_bool, cond_int, cond_str, endE, endQ, freeB, disj, pushT, bitsW, int_beq, int_bne, eqS_def, tbE, fuelL_eq, ann0_lays, ann0_dd, ann0_ro, elsOf_dsl, elsOf_dnils, toNat_succ, nn_succ, pos_succ, one_succ, rng1, rng2, rng3, rng4, rng5, rng6, rng7, rng8, List.idxOf_cons, wpk_rng, rndK, rndE, T2, T3, T4, T5, T6, T8, T9, T23, T33, T38, T45, T62, T76, T85, T92, T94, T95, CT, hA, hn, htk]
  | cons c suf =>
    obtain ⟨k1, k2, k3, k4, k5, k6⟩ := atL iD hps (by omega)
    have kg := getL k5 k4
    simp only [iD] at k3
    have r1 : (o.length + 1) * 16 ≤ 140737488355328 := by omega
    have r2 : o.length + 1 ≤ 9223372036854775807 := by omega
    have hz : szAll 2 [iD c] = true := by simp [szAll, D.cells, iD]
    by_cases e1 : c.2 ≤ c.1
    · have ih := ih (pre ++ [c], suf, o)
      have hj : jr o (c :: suf) = jr o suf := by cases o <;> simp [jr, e1]
      rw [hj] at ih ⊢
      generalize hE : o.reverse.map iD = E at *
      simp at ih
      simp [c53_1, TK.agg, constAV, evalAV, eqCells, EK.has, EK.hasAll, vecEls, elsR, AV.toD, toDs, AV.cells, AV.one, joinD, TyI.zeroD, OpR.of, binIntF, binStrF, AV.isPtr, ptrNil, slNil, mpNil, nilE, eqF, negF, posF, binF, pelF, pvLoad, pelSet, pvStore, boxLoad, epLoad, loadF, boxStore, storeF, fieldAddrF, fieldF, epOf, indexAddrF, byteF, indexF, mapLen, lenF, cutF, sliceF, isSl, slice3F, fillF, arrFs, buildF, partsX, landV, buildSliceF, roomB, appVec, appendF, mmFrom, mmF, max2', min2', clearVec, clearF, convF, unF, pickF, nilChkF, extF, ptrsOf, callF, makeSliceF, sameKs, sameD, kindIs, plainFs, keyOk, mapOb, mapEs, okV, lookF, lookupF, putE, putS, mapPut, mapUpdateF, mapDel, deleteF, mapAll, rangeM, rangeF, overV, hitV, nextO, nextF, entryM, entryO, entryF, itOids, builtinF, capsOf, allocF, boxF, bytesL, bytesF, byteTy, strTy, convertF, makeFuncF, makeMapF, makeMapH, opF, reach, reachOf, AObj.live, closedB, nodupB, packO, packL, packX, backN, backG, backO, obL, backE, frzX, frzO, AV.vids, frzL, landC, sameObs, landR, touchF, bitsW, D.cells, D.decEq, D.decEqs, AV.decEq, AV.decEqs, AObj.decEq, AV.oids0, AV.oids, AObj.oids, renG, renP, AV.ren0, AV.ren, envGet, envPut, envKeep, obGet, setEff, putV, St.put, stepS, keyChk, chkD, accD, Ex.block, AV.under, AObj.under, laysOf, roomFor, mkvO, frzG, szOk, killO, usedBy, tidyS, ghost, ghostE, normSt, resOf, allSome, one0, resultsF, finL, finishL, finish, endF, startEnv, chkC, backX, comeC, AV.flat0, rngC, loopO, layL, endLp, busyL, idleL, noRng, rndSt, rndEnd, wpn_nil, wpn_seq, wpn_loop, wpn_seq_exit, wpn_loop_exit, wpn_seq_ret, wpn_loop_ret, wpn_block, wpn_post, wpk_skip, wpk_exit, wpk_ret, wpk_reg, wpk_seq, wpk_condT, wpk_block, wpk_loop, wpk_pre, wpk_post, wop_nil, wop_cons, wop_guard, St.know, envSet, cond_d, cond_bool, cond_int, cond_str, endE, endQ, freeB, disj, pushT, bitsW, int_beq, int_bne, eqS_def, tbE, fuelL_eq, ann0_lays, ann0_dd, ann0_ro, elsOf_dsl, elsOf_dnils, toNat_succ, nn_succ, pos_succ, one_succ, rng1, rng2, rng3, rng4, rng5, rng6, rng7, rng8, List.idxOf_cons, wpk_rng, rndK, rndE, T2, T3, T4, T5, T6, T8, T9, T23, T33, T38, T45, T62, T76, T85, T92, T94, T95, CT, hA, iD, k2, k3, k4, k5, kg, e1, htk]
      exact ih hps (by omega)
    · cases o with
      | nil =>
        have ih := ih (pre ++ [c], suf, [c])
        simp [jr, e1] at ih
        simp [jr, c53_1, TK.agg, constAV, evalAV, eqCells, EK.has, EK.hasAll, vecEls, elsR, AV.toD, toDs, AV.cells, AV.one, joinD, TyI.zeroD, OpR.of, binIntF, binStrF, AV.isPtr, ptrNil, slNil, mpNil, nilE, eqF, negF, posF, binF, pelF, pvLoad, pelSet, pvStore, boxLoad, epLoad, loadF, boxStore, storeF, fieldAddrF, fieldF, epOf, indexAddrF, byteF, indexF, mapLen, lenF, cutF, sliceF, isSl, slice3F, fillF, arrFs, buildF, partsX, landV, buildSliceF, roomB, appVec, appendF, mmFrom, mmF, max2', min2', clearVec, clearF, convF, unF, pickF, nilChkF, extF, ptrsOf, callF, makeSliceF, sameKs, sameD, kindIs, plainFs, keyOk, mapOb, mapEs, okV, lookF, lookupF, putE, putS, mapPut, mapUpdateF, mapDel, deleteF, mapAll, rangeM, rangeF, overV, hitV, nextO, nextF, entryM, entryO, entryF, itOids, builtinF, capsOf, allocF, boxF, bytesL, bytesF, byteTy, strTy, convertF, makeFuncF, makeMapF, makeMapH, opF, reach, reachOf, AObj.live, closedB, nodupB, packO, packL, packX, backN, backG, backO, obL, backE, frzX, frzO, AV.vids, frzL, landC, sameObs, landR, touchF, bitsW, D.cells, D.decEq, D.decEqs, AV.decEq, AV.decEqs, AObj.decEq, AV.oids0, AV.oids, AObj.oids, renG, renP, AV.ren0, AV.ren, envGet, envPut, envKeep, obGet, setEff, putV, St.put, stepS, keyChk, chkD, accD, Ex.block, AV.under, AObj.under, laysOf, roomFor, mkvO, frzG, szOk, killO, usedBy, tidyS, ghost, ghostE, normSt, resOf, allSome, one0, resultsF, finL, finishL, finish, endF, startEnv, chkC, backX, comeC, AV.flat0, rngC, loopO, layL, endLp, busyL, idleL, noRng, rndSt, rndEnd, wpn_nil, wpn_seq, wpn_loop, wpn_seq_exit, wpn_loop_exit, wpn_seq_ret, wpn_loop_ret, wpn_block, wpn_post, wpk_skip, wpk_exit, wpk_ret, wpk_reg, wpk_seq, wpk_condT, wpk_block, wpk_loop, wpk_pre, wpk_post, wop_nil, wop_cons, wop_guard, St.know, envSet, cond_d, cond_bool, cond_int, cond_str, endE, endQ, freeB, disj, pushT, bitsW, int_beq, int_bne, eqS_def, tbE, fuelL_eq, ann0_lays, ann0_dd, ann0_ro, elsOf_dsl, elsOf_dnils, toNat_succ, nn_succ, pos_succ, one_succ, rng1, rng2, rng3, rng4, rng5, rng6, rng7, rng8, List.idxOf_cons, wpk_rng, rndK, rndE, T2, T3, T4, T5, T6, T8, T9, T23, T33, T38, T45, T62, T76, T85, T92, T94, T95, CT, hA, iD, k2, k3, k4, k5, kg, e1, htk, szAll]
        simp [iD] at ih
        exact ih hps
      | cons d o =>
        obtain ⟨a1, a2, a3, a4, a5⟩ := rev_at d o
        have ag := getL a2 a3
        have w1 : IntKind.i64.wrap ((o.length : Int) + 1 - 1) = (o.length : Int) := by rw [Int.add_sub_cancel]; exact wrap64 (by simp at hol; omega) (by simp at hol; omega)
        have p4 : (o.length : Int) < (o.length : Int) + 1 := by omega
        have w2 : IntKind.i64.wrap (o.length : Int) = (o.length : Int) := wrap64 (by omega) (by simp at hol; omega)
        by_cases e2 : c.1 ≤ d.2
        · have ih := ih (pre ++ [c], suf, (d.1, if c.2 > d.2 then c.2 else d.2) :: o)
          have a5 := a5 (d.1, if c.2 > d.2 then c.2 else d.2)
          simp only [jr, if_neg e1, if_pos e2] at ih ⊢
          rw [← a5] at ih
          simp only [List.length_cons] at ih hol htk ⊢
          have hlen : ((d :: o).reverse.map iD).length = o.length + 1 := by simp
          generalize hE : (d :: o).reverse.map iD = E at *
          simp only [iD] at a1 ih
          have a1' : E[o.length] = .agg [.int .i64 d.1, .int .i64 d.2] := by rw [List.getElem?_eq_some_iff] at a1; exact a1.2
          simp [c53_1, TK.agg, constAV, evalAV, eqCells, EK.has, EK.hasAll, vecEls, elsR, AV.toD, toDs, AV.cells, AV.one, joinD, TyI.zeroD, OpR.of, binIntF, binStrF, AV.isPtr, ptrNil, slNil, mpNil, nilE, eqF, negF, posF, binF, pelF, pvLoad, pelSet, pvStore, boxLoad, epLoad, loadF, boxStore, storeF, fieldAddrF, fieldF, epOf, indexAddrF, byteF, indexF, mapLen, lenF, cutF, sliceF, isSl, slice3F, fillF, arrFs, buildF, partsX, landV, buildSliceF, roomB, appVec, appendF, mmFrom, mmF, max2', min2', clearVec, clearF, convF, unF, pickF, nilChkF, extF, ptrsOf, callF, makeSliceF, sameKs, sameD, kindIs, plainFs, keyOk, mapOb, mapEs, okV, lookF, lookupF, putE, putS, mapPut, mapUpdateF, mapDel, deleteF, mapAll, rangeM, rangeF, overV, hitV, nextO, nextF, entryM, entryO, entryF, itOids, builtinF, capsOf, allocF, boxF, bytesL, bytesF, byteTy, strTy, convertF, makeFuncF, makeMapF, makeMapH, opF, reach, reachOf, AObj.live, closedB, nodupB, packO, packL, packX, backN, backG, backO, obL, backE, frzX, frzO, AV.vids, frzL, landC, sameObs, landR, touchF, bitsW, D.cells, D.decEq, D.decEqs, AV.decEq, AV.decEqs, AObj.decEq, AV.oids0, AV.oids, AObj.oids, renG, renP, AV.ren0, AV.ren, envGet, envPut, envKeep, obGet, setEff, putV, St.put, stepS, keyChk, chkD, accD, Ex.block, AV.under, AObj.under, laysOf, roomFor, mkvO, frzG, szOk, killO, usedBy, tidyS, ghost, ghostE, normSt, resOf, allSome, one0, resultsF, finL, finishL, finish, endF, startEnv, chkC, backX, comeC, AV.flat0, rngC, loopO, layL, endLp, busyL, idleL, noRng, rndSt, rndEnd, wpn_nil, wpn_seq, wpn_loop, wpn_seq_exit, wpn_loop_exit, wpn_seq_ret, wpn_loop_ret, wpn_block, wpn_post, wpk_skip, wpk_exit, wpk_ret, wpk_reg, wpk_seq, wpk_condT, wpk_block, wpk_loop, wpk_pre, wpk_post, wop_nil, wop_cons, wop_guard, St.know, envSet, cond_d, cond_bool, cond_int, cond_str, endE, endQ, freeB, disj, pushT, bitsW, int_beq, int_bne, eqS_def, tbE, fuelL_eq, ann0_lays, ann0_dd, ann0_ro, elsOf_dsl, elsOf_dnils, toNat_succ, nn_succ, pos_succ, one_succ, rng1, rng2, rng3, rng4, rng5, rng6, rng7, rng8, List.idxOf_cons, wpk_rng, rndK, rndE, T2, T3, T4, T5, T6, T8, T9, T23, T33, T38, T45, T62, T76, T85, T92, T94, T95, CT, hA, iD, k2, k3, k4, k5, kg, e1, e2, htk, a1, a1', w1, w2, p4, hlen]
          simp at ih
          exact ih hps (by omega)
        · have ih := ih (pre ++ [c], suf, c :: d :: o)
          simp only [jr, if_neg e1, if_neg e2] at ih ⊢
          simp only [List.length_cons] at ih hol htk r1 r2 ⊢
          have hlen : ((d :: o).reverse.map iD).length = o.length + 1 := by simp
          have hap : (c :: d :: o).reverse.map iD = (d :: o).reverse.map iD ++ [iD c] := by simp
          rw [hap] at ih
          generalize hE : (d :: o).reverse.map iD = E at *
          simp only [iD] at a1 ih hz
          have a1' : E[o.length] = .agg [.int .i64 d.1, .int .i64 d.2] := by rw [List.getElem?_eq_some_iff] at a1; exact a1.2
          have hlt : ¬ (c.1 ≤ d.2) := e2
          simp [c53_1, TK.agg, constAV, evalAV, eqCells, EK.has, EK.hasAll, vecEls, elsR, AV.toD, toDs, AV.cells, AV.one, joinD, TyI.zeroD, OpR.of, binIntF, binStrF, AV.isPtr, ptrNil, slNil, mpNil, nilE, eqF, negF, posF, binF, pelF, pvLoad, pelSet, pvStore, boxLoad, epLoad, loadF, boxStore, storeF, fieldAddrF, fieldF, epOf, indexAddrF, byteF, indexF, mapLen, lenF, cutF, sliceF, isSl, slice3F, fillF, arrFs, buildF, partsX, landV, buildSliceF, roomB, appVec, appendF, mmFrom, mmF, max2', min2', clearVec, clearF, convF, unF, pickF, nilChkF, extF, ptrsOf, callF, makeSliceF, sameKs, sameD, kindIs, plainFs, keyOk, mapOb, mapEs, okV, lookF, lookupF, putE, putS, mapPut, mapUpdateF, mapDel, deleteF, mapAll, rangeM, rangeF, overV, hitV, nextO, nextF, entryM, entryO, entryF, itOids, builtinF, capsOf, allocF, boxF, bytesL, bytesF, byteTy, strTy, convertF, makeFuncF, makeMapF, makeMapH, opF, reach, reachOf, AObj.live, closedB, nodupB, packO, packL, packX, backN, backG, backO, obL, backE, frzX, frzO, AV.vids, frzL, landC, sameObs, landR, touchF, bitsW, D.cells, D.decEq, D.decEqs, AV.decEq, AV.decEqs, AObj.decEq, AV.oids0, AV.oids, AObj.oids, renG, renP, AV.ren0, AV.ren, envGet, envPut, envKeep, obGet, setEff, putV, St.put, stepS, keyChk, chkD, accD, Ex.block, AV.under, AObj.under, laysOf, roomFor, mkvO, frzG, szOk, killO, usedBy, tidyS, ghost, ghostE, normSt, resOf, allSome, one0, resultsF, finL, finishL, finish, endF, startEnv, chkC, backX, comeC, AV.flat0, rngC, loopO, layL, endLp, busyL, idleL, noRng, rndSt, rndEnd, wpn_nil, wpn_seq, wpn_loop, wpn_seq_exit, wpn_loop_exit, wpn_seq_ret, wpn_loop_ret, wpn_block, wpn_post, wpk_skip, wpk_exit, wpk_ret, wpk_reg, wpk_seq, wpk_condT, wpk_block, wpk_loop, wpk_pre, wpk_post, wop_nil, wop_cons, wop_guard, St.know, envSet, cond_d, cond_bool, cond_int, cond_str, endE, endQ, freeB, disj, pushT, bitsW, int_beq, int_bne, eqS_def, tbE, fuelL_eq, ann0_lays, ann0_dd, ann0_ro, elsOf_dsl, elsOf_dnils, toNat_succ, nn_succ, pos_succ, one_succ, rng1, rng2, rng3, rng4, rng5, rng6, rng7, rng8, List.idxOf_cons, wpk_rng, rndK, rndE, T2, T3, T4, T5, T6, T8, T9, T23, T33, T38, T45, T62, T76, T85, T92, T94, T95, CT, hA, iD, k2, k3, k4, k5, kg, e1, e2, htk, a1, a1', w1, w2, p4, hlen, hz, r1, r2]
          simp at ih
          exact ih hps (by omega)
end Go.Proofs.YtnpppjipbkceeaaV
