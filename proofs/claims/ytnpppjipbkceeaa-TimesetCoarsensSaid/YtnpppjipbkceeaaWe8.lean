/- The law TimesetCoarsens: the walk. -/
import Derived.Test.YtnpppjipbkceeaaWe3
import Derived.Test.YtnpppjipbkceeaaTm9
set_option linter.unusedVariables false
set_option linter.unusedSimpArgs false
namespace Go.Proofs.YtnpppjipbkceeaaV
open Go.RowKit
theorem eq_own (a : List Iv) (ha : a.length < 1000000) : run CC 15 [.d (.sl (a.map iD)), .d (.sl (a.map iD))] [] = some (.d (.bool true), []) := by
  simpa only [decide_true] using equal15_run (.sl (a.map iD)) (.sl (a.map iD)) a a ha rfl rfl
theorem u64_nn (n : Int) : 0 ≤ IntKind.u64.wrap n ∧ IntKind.u64.wrap n < 18446744073709551616 := by
  simp [IntKind.wrap, IntKind.bits, IntKind.signed]; omega
/-- a size from 1 to 30 -/
def szI (n : Int) : Int := 1 + Int.tmod (IntKind.u64.wrap n) 30
theorem szI_ok (n : Int) : 0 ≤ Int.tmod (IntKind.u64.wrap n) 30 ∧ Int.tmod (IntKind.u64.wrap n) 30 < 30 ∧ IntKind.u64.wrap (Int.tmod (IntKind.u64.wrap n) 30) = Int.tmod (IntKind.u64.wrap n) 30 ∧ IntKind.i64.wrap (Int.tmod (IntKind.u64.wrap n) 30) = Int.tmod (IntKind.u64.wrap n) 30 ∧ IntKind.i64.wrap (1 + Int.tmod (IntKind.u64.wrap n) 30) = szI n := by
  have h := u64_nn n
  have r1 := Int.tmod_nonneg (b := 30) (a := IntKind.u64.wrap n) h.1
  have r2 := Int.tmod_lt_of_pos (b := 30) (IntKind.u64.wrap n) (by omega)
  refine ⟨r1, r2, ?_, wrap64 (by omega) (by omega), wrap64 (by omega) (by omega)⟩
  generalize Int.tmod (IntKind.u64.wrap n) 30 = r at *
  simp [IntKind.wrap, IntKind.bits, IntKind.signed]; omega
set_option maxRecDepth 100000 in
set_option maxHeartbeats 4000000 in
theorem law8_run (A B : D) (l m : List Sp) (s0 s1 s2 : Int) (hl : l.length < 4611686018427387904) (hm : m.length < 4611686018427387904) (hA : elsOf (.d A) = some (l.map sD)) (hB : elsOf (.d B) = some (m.map sD)) (hl1 : ∀ s ∈ l, Sp.ok s) (hm1 : ∀ s ∈ m, Sp.ok s) : run CC 8 [.d A, .d B, .d (.agg [.int .i64 s0, .int .i64 s1, .int .i64 s2])] [] = some (.d (.bool true), []) := by
  refine run_code (s := s8 0) rfl rfl rfl (by kernel_rfl) ?_
  have a0 := set13_run A l hl hA hl1
  have b0 := set13_run B m hm hB hm1
  have la := setI_len l
  have lb := setI_len m
  have na := setI_norm l
  have nb := setI_norm m
  have wa := setI_within hl1
  have wb := setI_within hm1
  generalize setI l = a at *
  generalize setI m = b at *
  obtain ⟨x1, x2, x3, x4, x5⟩ := szI_ok s0
  obtain ⟨y1, y2, y3, y4, y5⟩ := szI_ok s1
  have hx : 1 ≤ szI s0 ∧ szI s0 ≤ 30 := by unfold szI; omega
  have hy : 1 ≤ szI s1 ∧ szI s1 ≤ 30 := by unfold szI; omega
  generalize szI s0 = x at *
  generalize szI s1 = y at *
  have hxy : 1 ≤ x * y := by
    have : 1 * 1 ≤ x * y := Int.mul_le_mul hx.1 hy.1 (by omega) (by omega)
    omega
  have hxy2 : x * y ≤ 900 := by
    have : x * y ≤ 30 * 30 := Int.mul_le_mul hx.2 hy.2 (by omega) (by omega)
    omega
  have wxy : IntKind.i64.wrap (x * y) = x * y := wrap64 (by omega) (by omega)
  obtain ⟨wu, _, _⟩ := alg_len na nb wa wb
  have nu := (cmb_spec (fun x y => x || y) rfl na nb).1
  have lu := cmb_len (fun x y => x || y) rfl na nb
  have u1 := union16_run (.sl (a.map iD)) (.sl (b.map iD)) a b (by omega) (by omega) rfl rfl
  have ba := bnd_within na wa
  have bb := bnd_within nb wb
  have bu := bnd_within nu wu
  obtain ⟨ca1, ca2, ca3⟩ := cr_spec hx.1 na
  obtain ⟨cb1, cb2, cb3⟩ := cr_spec hx.1 nb
  have bc := bnd_within ca1 (cr_within hx.1 na wa)
  have l1 := cr_len x a
  have l2 := cr_len x b
  have l3 := cr_len x (cmb (fun x y => x || y) a b)
  have l4 := cr_len (x * y) a
  have k1 := coarsen28_run (.sl (a.map iD)) a x hx.1 (by omega) (by omega) ba rfl
  have k2 := coarsen28_run (.sl (b.map iD)) b x hx.1 (by omega) (by omega) bb rfl
  have k3 := coarsen28_run (.sl ((cmb (fun x y => x || y) a b).map iD)) _ x hx.1 (by omega) (by omega) bu rfl
  have k4 := coarsen28_run (.sl ((crI x a).map iD)) (crI x a) y hy.1 (by omega) (by omega) bc rfl
  have k5 := coarsen28_run (.sl (a.map iD)) a (x * y) hxy (by omega) (by omega) ba rfl
  have k6 := coarsen29_run (.sl (a.map iD)) a x hx.1 (by omega) (by omega) ba rfl
  have m1 := cr_or hx.1 na nb
  have m2 := cr_mul hx.1 hy.1 hxy na
  have u2 := union16_run (.sl ((crI x a).map iD)) (.sl ((crI x b).map iD)) (crI x a) (crI x b) (by omega) (by omega) rfl rfl
  rw [m1] at u2
  change run CC 28 _ _ = some (.tup [.d (.sl ((crI x a).map iD)), _], []) at k1
  change run CC 28 _ _ = some (.tup [.d (.sl ((crI x b).map iD)), _], []) at k2
  change run CC 28 _ _ = some (.tup [.d (.sl ((crI x (cmb (fun x y => x || y) a b)).map iD)), _], []) at k3
  change run CC 28 _ _ = some (.tup [.d (.sl ((crI y (crI x a)).map iD)), _], []) at k4
  change run CC 28 _ _ = some (.tup [.d (.sl ((crI (x * y) a).map iD)), _], []) at k5
  rw [m2] at k4
  rw [ca3] at k6
  have e1 := eq_own (crI x a) (by omega)
  have e2 := eq_own (crI x (cmb (fun x y => x || y) a b)) (by omega)
  have e3 := eq_own (crI (x * y) a) (by omega)
  by_cases h2 : 1 ≤ s2 ∧ s2 ≤ 1125899906842624
  · have k7 := coarsen28_run (.sl (a.map iD)) a s2 h2.1 h2.2 (by omega) ba rfl
    have k8 := coarsen29_run (.sl (a.map iD)) a s2 h2.1 h2.2 (by omega) ba rfl
    rw [(cr_spec h2.1 na).2.2] at k8
    change run CC 28 _ _ = some (.tup [.d (.sl ((crI s2 a).map iD)), _], []) at k7
    have l5 := cr_len s2 a
    have e4 := eq_own (crI s2 a) (by omega)
    have g1 : ¬ s2 < 1 := by omega
    have g2 : ¬ 1125899906842624 < s2 := by omega
    generalize (crI s2 a).map iD = E1 at *
    generalize (crI x (cmb (fun x y => x || y) a b)).map iD = E2 at *
    generalize (crI (x * y) a).map iD = E3 at *
    generalize (crI x a).map iD = E4 at *
    generalize (crI x b).map iD = E5 at *
    generalize (cmb (fun x y => x || y) a b).map iD = E6 at *
    generalize a.map iD = E7 at *
    generalize b.map iD = E8 at *
    simp [s8, TK.agg, constAV, evalAV, eqCells, EK.has, EK.hasAll, vecEls, elsR, AV.toD, toDs, AV.cells, AV.one, joinD, TyI.zeroD, OpR.of, binIntF, binStrF, AV.isPtr, ptrNil, slNil, mpNil, nilE, eqF, negF, posF, binF, pelF, pvLoad, pelSet, pvStore, boxLoad, epLoad, loadF, boxStore, storeF, fieldAddrF, fieldF, epOf, indexAddrF, byteF, indexF, mapLen, lenF, cutF, sliceF, isSl, slice3F, fillF, arrFs, buildF, partsX, landV, buildSliceF, roomB, appVec, appendF, mmFrom, mmF, max2', min2', clearVec, clearF, convF, unF, pickF, nilChkF, extF, ptrsOf, callF, makeSliceF, sameKs, sameD, kindIs, plainFs, keyOk, mapOb, mapEs, okV, lookF, lookupF, putE, putS, mapPut, mapUpdateF, mapDel, deleteF, mapAll, rangeM, rangeF, overV, hitV, nextO, nextF, entryM, entryO, entryF, itOids, builtinF, capsOf, allocF, boxF, bytesL, bytesF, byteTy, strTy, convertF, makeFuncF, makeMapF, makeMapH, opF, reach, reachOf, AObj.live, closedB, nodupB, packO, packL, packX, backN, backG, backO, obL, backE, frzX, frzO, AV.vids, frzL, landC, sameObs, landR, touchF, bitsW, D.cells, D.decEq, D.decEqs, AV.decEq, AV.decEqs, AObj.decEq, AV.oids0, AV.oids, AObj.oids, renG, renP, AV.ren0, AV.ren, envGet, envPut, envKeep, obGet, setEff, putV, St.put, stepS, keyChk, chkD, accD, Ex.block, AV.under, AObj.under, laysOf, roomFor, mkvO, frzG, szOk, killO, usedBy, tidyS, ghost, ghostE, normSt, resOf, allSome, one0, resultsF, finL, finishL, finish, endF, startEnv, chkC, backX, comeC, AV.flat0, rngC, loopO, layL, endLp, busyL, idleL, noRng, rndSt, rndEnd, wpn_nil, wpn_seq, wpn_loop, wpn_seq_exit, wpn_loop_exit, wpn_seq_ret, wpn_loop_ret, wpn_block, wpn_post, wpk_skip, wpk_exit, wpk_ret, wpk_reg, wpk_seq, wpk_condT, wpk_block, wpk_loop, wpk_pre, wpk_post, wop_nil, wop_cons, wop_guard, St.know, envSet, cond_d, cond_bool, cond_int, cond_str, endE, endQ, freeB, disj, pushT, bitsW, int_beq, int_bne, eqS_def, tbE, fuelL_eq, ann0_lays, ann0_dd, ann0_ro, elsOf_dsl, elsOf_dnils, toNat_succ, nn_succ, pos_succ, one_succ, rng1, rng2, rng3, rng4, rng5, rng6, rng7, rng8, List.idxOf_cons, wpk_rng, rndK, rndE, T2, T3, T4, T5, T6, T8, T9, T22, T23, T33, T38, T44, T45, T58, T60, T62, T63, T76, T85, T92, T94, CT, a0, b0, known_run, x3, x4, x5, y3, y4, y5, wxy, u1, u2, k1, k2, k3, k4, k5, k6, k7, k8, e1, e2, e3, e4, g1, g2]
  · have k7 := coarsen28_bad (.sl (a.map iD)) s2 h2
    generalize (crI x (cmb (fun x y => x || y) a b)).map iD = E2 at *
    generalize (crI (x * y) a).map iD = E3 at *
    generalize (crI x a).map iD = E4 at *
    generalize (crI x b).map iD = E5 at *
    generalize (cmb (fun x y => x || y) a b).map iD = E6 at *
    generalize a.map iD = E7 at *
    generalize b.map iD = E8 at *
    by_cases g1 : s2 < 1
    · simp [s8, TK.agg, constAV, evalAV, eqCells, EK.has, EK.hasAll, vecEls, elsR, AV.toD, toDs, AV.cells, AV.one, joinD, TyI.zeroD, OpR.of, binIntF, binStrF, AV.isPtr, ptrNil, slNil, mpNil, nilE, eqF, negF, posF, binF, pelF, pvLoad, pelSet, pvStore, boxLoad, epLoad, loadF, boxStore, storeF, fieldAddrF, fieldF, epOf, indexAddrF, byteF, indexF, mapLen, lenF, cutF, sliceF, isSl, slice3F, fillF, arrFs, buildF, partsX, landV, buildSliceF, roomB, appVec, appendF, mmFrom, mmF, max2', min2', clearVec, clearF, convF, unF, pickF, nilChkF, extF, ptrsOf, callF, makeSliceF, sameKs, sameD, kindIs, plainFs, keyOk, mapOb, mapEs, okV, lookF, lookupF, putE, putS, mapPut, mapUpdateF, mapDel, deleteF, mapAll, rangeM, rangeF, overV, hitV, nextO, nextF, entryM, entryO, entryF, itOids, builtinF, capsOf, allocF, boxF, bytesL, bytesF, byteTy, strTy, convertF, makeFuncF, makeMapF, makeMapH, opF, reach, reachOf, AObj.live, closedB, nodupB, packO, packL, packX, backN, backG, backO, obL, backE, frzX, frzO, AV.vids, frzL, landC, sameObs, landR, touchF, bitsW, D.cells, D.decEq, D.decEqs, AV.decEq, AV.decEqs, AObj.decEq, AV.oids0, AV.oids, AObj.oids, renG, renP, AV.ren0, AV.ren, envGet, envPut, envKeep, obGet, setEff, putV, St.put, stepS, keyChk, chkD, accD, Ex.block, AV.under, AObj.under, laysOf, roomFor, mkvO, frzG, szOk, killO, usedBy, tidyS, ghost, ghostE, normSt, resOf, allSome, one0, resultsF, finL, finishL, finish, endF, startEnv, chkC, backX, comeC, AV.flat0, rngC, loopO, layL, endLp, busyL, idleL, noRng, rndSt, rndEnd, wpn_nil, wpn_seq, wpn_loop, wpn_seq_exit, wpn_loop_exit, wpn_seq_ret, wpn_loop_ret, wpn_block, wpn_post, wpk_skip, wpk_exit, wpk_ret, wpk_reg, wpk_seq, wpk_condT, wpk_block, wpk_loop, wpk_pre, wpk_post, wop_nil, wop_cons, wop_guard, St.know, envSet, cond_d, cond_bool, cond_int, cond_str, endE, endQ, freeB, disj, pushT, bitsW, int_beq, int_bne, eqS_def, tbE, fuelL_eq, ann0_lays, ann0_dd, ann0_ro, elsOf_dsl, elsOf_dnils, toNat_succ, nn_succ, pos_succ, one_succ, rng1, rng2, rng3, rng4, rng5, rng6, rng7, rng8, List.idxOf_cons, wpk_rng, rndK, rndE, T2, T3, T4, T5, T6, T8, T9, T22, T23, T33, T38, T44, T45, T58, T60, T62, T63, T76, T85, T92, T94, CT, a0, b0, known_run, x3, x4, x5, y3, y4, y5, wxy, u1, u2, k1, k2, k3, k4, k5, k6, k7, e1, e2, e3, g1]
    · have g2 : 1125899906842624 < s2 := by omega
      simp [s8, TK.agg, constAV, evalAV, eqCells, EK.has, EK.hasAll, vecEls, elsR, AV.toD, toDs, AV.cells, AV.one, joinD, TyI.zeroD, OpR.of, binIntF, binStrF, AV.isPtr, ptrNil, slNil, mpNil, nilE, eqF, negF, posF, binF, pelF, pvLoad, pelSet, pvStore, boxLoad, epLoad, loadF, boxStore, storeF, fieldAddrF, fieldF, epOf, indexAddrF, byteF, indexF, mapLen, lenF, cutF, sliceF, isSl, slice3F, fillF, arrFs, buildF, partsX, landV, buildSliceF, roomB, appVec, appendF, mmFrom, mmF, max2', min2', clearVec, clearF, convF, unF, pickF, nilChkF, extF, ptrsOf, callF, makeSliceF, sameKs, sameD, kindIs, plainFs, keyOk, mapOb, mapEs, okV, lookF, lookupF, putE, putS, mapPut, mapUpdateF, mapDel, deleteF, mapAll, rangeM, rangeF, overV, hitV, nextO, nextF, entryM, entryO, entryF, itOids, builtinF, capsOf, allocF, boxF, bytesL, bytesF, byteTy, strTy, convertF, makeFuncF, makeMapF, makeMapH, opF, reach, reachOf, AObj.live, closedB, nodupB, packO, packL, packX, backN, backG, backO, obL, backE, frzX, frzO, AV.vids, frzL, landC, sameObs, landR, touchF, bitsW, D.cells, D.decEq, D.decEqs, AV.decEq, AV.decEqs, AObj.decEq, AV.oids0, AV.oids, AObj.oids, renG, renP, AV.ren0, AV.ren, envGet, envPut, envKeep, obGet, setEff, putV, St.put, stepS, keyChk, chkD, accD, Ex.block, AV.under, AObj.under, laysOf, roomFor, mkvO, frzG, szOk, killO, usedBy, tidyS, ghost, ghostE, normSt, resOf, allSome, one0, resultsF, finL, finishL, finish, endF, startEnv, chkC, backX, comeC, AV.flat0, rngC, loopO, layL, endLp, busyL, idleL, noRng, rndSt, rndEnd, wpn_nil, wpn_seq, wpn_loop, wpn_seq_exit, wpn_loop_exit, wpn_seq_ret, wpn_loop_ret, wpn_block, wpn_post, wpk_skip, wpk_exit, wpk_ret, wpk_reg, wpk_seq, wpk_condT, wpk_block, wpk_loop, wpk_pre, wpk_post, wop_nil, wop_cons, wop_guard, St.know, envSet, cond_d, cond_bool, cond_int, cond_str, endE, endQ, freeB, disj, pushT, bitsW, int_beq, int_bne, eqS_def, tbE, fuelL_eq, ann0_lays, ann0_dd, ann0_ro, elsOf_dsl, elsOf_dnils, toNat_succ, nn_succ, pos_succ, one_succ, rng1, rng2, rng3, rng4, rng5, rng6, rng7, rng8, List.idxOf_cons, wpk_rng, rndK, rndE, T2, T3, T4, T5, T6, T8, T9, T22, T23, T33, T38, T44, T45, T58, T60, T62, T63, T76, T85, T92, T94, CT, a0, b0, known_run, x3, x4, x5, y3, y4, y5, wxy, u1, u2, k1, k2, k3, k4, k5, k6, k7, e1, e2, e3, g1, g2]
end Go.Proofs.YtnpppjipbkceeaaV
