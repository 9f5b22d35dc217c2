/- The law TimesetCounts: the walk. -/
import Derived.Test.YtnpppjipbkceeaaWe3
import Derived.Test.YtnpppjipbkceeaaTc15
set_option linter.unusedVariables false
set_option linter.unusedSimpArgs false
namespace Go.Proofs.YtnpppjipbkceeaaV
open Go.RowKit
set_option maxRecDepth 100000 in
theorem law10_run (A : D) (l : List Sp) (n : Int) (hn : n < 9223372036854775808) (hl : l.length < 4611686018427387904) (hA : elsOf (.d A) = some (l.map sD)) (hl1 : ∀ s ∈ l, Sp.ok s) : run CC 10 [.d A, .d (.int .i64 n)] [] = some (.d (.bool true), []) := by
  refine run_code (s := s10 0) rfl rfl rfl (by kernel_rfl) ?_
  have a0 := set13_run A l hl hA hl1
  have la := setI_len l
  have na := setI_norm l
  have hw := within_at na (setI_within hl1)
  have hb := bnd_within na (setI_within hl1)
  generalize setI l = a at *
  have k1 := length20_run (.sl (a.map iD)) a (by omega) hb rfl
  have k2 := len34_run (.sl (a.map iD)) a (by omega) hb (fun p hp => by have := hw p hp; omega) rfl
  have k3 := rank35_run (.sl (a.map iD)) a n (by omega) hb na rfl
  have k4 := rank36_run (.sl (a.map iD)) a n (by omega) hb rfl
  have b1 := lenI_bnd hb
  by_cases h0 : n < 0
  · have k5 := nth37_neg (.sl (a.map iD)) a n h0
    simp [s10, TK.agg, constAV, evalAV, eqCells, EK.has, EK.hasAll, vecEls, elsR, AV.toD, toDs, AV.cells, AV.one, joinD, TyI.zeroD, OpR.of, binIntF, binStrF, AV.isPtr, ptrNil, slNil, mpNil, nilE, eqF, negF, posF, binF, pelF, pvLoad, pelSet, pvStore, boxLoad, epLoad, loadF, boxStore, storeF, fieldAddrF, fieldF, epOf, indexAddrF, byteF, indexF, mapLen, lenF, cutF, sliceF, isSl, slice3F, fillF, arrFs, buildF, partsX, landV, buildSliceF, roomB, appVec, appendF, mmFrom, mmF, max2', min2', clearVec, clearF, convF, unF, pickF, nilChkF, extF, ptrsOf, callF, makeSliceF, sameKs, sameD, kindIs, plainFs, keyOk, mapOb, mapEs, okV, lookF, lookupF, putE, putS, mapPut, mapUpdateF, mapDel, deleteF, mapAll, rangeM, rangeF, overV, hitV, nextO, nextF, entryM, entryO, entryF, itOids, builtinF, capsOf, allocF, boxF, bytesL, bytesF, byteTy, strTy, convertF, makeFuncF, makeMapF, makeMapH, opF, reach, reachOf, AObj.live, closedB, nodupB, packO, packL, packX, backN, backG, backO, obL, backE, frzX, frzO, AV.vids, frzL, landC, sameObs, landR, touchF, bitsW, D.cells, D.decEq, D.decEqs, AV.decEq, AV.decEqs, AObj.decEq, AV.oids0, AV.oids, AObj.oids, renG, renP, AV.ren0, AV.ren, envGet, envPut, envKeep, obGet, setEff, putV, St.put, stepS, keyChk, chkD, accD, Ex.block, AV.under, AObj.under, laysOf, roomFor, mkvO, frzG, szOk, killO, usedBy, tidyS, ghost, ghostE, normSt, resOf, allSome, one0, resultsF, finL, finishL, finish, endF, startEnv, chkC, backX, comeC, AV.flat0, rngC, loopO, layL, endLp, busyL, idleL, noRng, rndSt, rndEnd, wpn_nil, wpn_seq, wpn_loop, wpn_seq_exit, wpn_loop_exit, wpn_seq_ret, wpn_loop_ret, wpn_block, wpn_post, wpk_skip, wpk_exit, wpk_ret, wpk_reg, wpk_seq, wpk_condT, wpk_block, wpk_loop, wpk_pre, wpk_post, wop_nil, wop_cons, wop_guard, St.know, envSet, cond_d, cond_bool, cond_int, cond_str, endE, endQ, freeB, disj, pushT, bitsW, int_beq, int_bne, eqS_def, tbE, fuelL_eq, ann0_lays, ann0_dd, ann0_ro, elsOf_dsl, elsOf_dnils, toNat_succ, nn_succ, pos_succ, one_succ, rng1, rng2, rng3, rng4, rng5, rng6, rng7, rng8, List.idxOf_cons, wpk_rng, rndK, rndE, T2, T3, T4, T5, T6, T8, T9, T22, T23, T33, T38, T44, T45, T58, T60, T62, T63, T76, T85, T92, T94, CT, a0, known_run, k1, k2, k3, k4, k5, h0]
  by_cases hh : lenI a ≤ n
  · have h1 := nth_out a n na hh
    have k5 := nth37_run (.sl (a.map iD)) a n (by omega) hn (by omega) hb na rfl
    rw [h1] at k5
    simp [s10, TK.agg, constAV, evalAV, eqCells, EK.has, EK.hasAll, vecEls, elsR, AV.toD, toDs, AV.cells, AV.one, joinD, TyI.zeroD, OpR.of, binIntF, binStrF, AV.isPtr, ptrNil, slNil, mpNil, nilE, eqF, negF, posF, binF, pelF, pvLoad, pelSet, pvStore, boxLoad, epLoad, loadF, boxStore, storeF, fieldAddrF, fieldF, epOf, indexAddrF, byteF, indexF, mapLen, lenF, cutF, sliceF, isSl, slice3F, fillF, arrFs, buildF, partsX, landV, buildSliceF, roomB, appVec, appendF, mmFrom, mmF, max2', min2', clearVec, clearF, convF, unF, pickF, nilChkF, extF, ptrsOf, callF, makeSliceF, sameKs, sameD, kindIs, plainFs, keyOk, mapOb, mapEs, okV, lookF, lookupF, putE, putS, mapPut, mapUpdateF, mapDel, deleteF, mapAll, rangeM, rangeF, overV, hitV, nextO, nextF, entryM, entryO, entryF, itOids, builtinF, capsOf, allocF, boxF, bytesL, bytesF, byteTy, strTy, convertF, makeFuncF, makeMapF, makeMapH, opF, reach, reachOf, AObj.live, closedB, nodupB, packO, packL, packX, backN, backG, backO, obL, backE, frzX, frzO, AV.vids, frzL, landC, sameObs, landR, touchF, bitsW, D.cells, D.decEq, D.decEqs, AV.decEq, AV.decEqs, AObj.decEq, AV.oids0, AV.oids, AObj.oids, renG, renP, AV.ren0, AV.ren, envGet, envPut, envKeep, obGet, setEff, putV, St.put, stepS, keyChk, chkD, accD, Ex.block, AV.under, AObj.under, laysOf, roomFor, mkvO, frzG, szOk, killO, usedBy, tidyS, ghost, ghostE, normSt, resOf, allSome, one0, resultsF, finL, finishL, finish, endF, startEnv, chkC, backX, comeC, AV.flat0, rngC, loopO, layL, endLp, busyL, idleL, noRng, rndSt, rndEnd, wpn_nil, wpn_seq, wpn_loop, wpn_seq_exit, wpn_loop_exit, wpn_seq_ret, wpn_loop_ret, wpn_block, wpn_post, wpk_skip, wpk_exit, wpk_ret, wpk_reg, wpk_seq, wpk_condT, wpk_block, wpk_loop, wpk_pre, wpk_post, wop_nil, wop_cons, wop_guard, St.know, envSet, cond_d, cond_bool, cond_int, cond_str, endE, endQ, freeB, disj, pushT, bitsW, int_beq, int_bne, eqS_def, tbE, fuelL_eq, ann0_lays, ann0_dd, ann0_ro, elsOf_dsl, elsOf_dnils, toNat_succ, nn_succ, pos_succ, one_succ, rng1, rng2, rng3, rng4, rng5, rng6, rng7, rng8, List.idxOf_cons, wpk_rng, rndK, rndE, T2, T3, T4, T5, T6, T8, T9, T22, T23, T33, T38, T44, T45, T58, T60, T62, T63, T76, T85, T92, T94, CT, a0, known_run, k1, k2, k3, k4, k5, h0, hh]
  · have k5 := nth37_run (.sl (a.map iD)) a n (by omega) (by omega) (by omega) hb na rfl
    obtain ⟨m1, m2, m3⟩ := nth_in a n na (by omega) (by omega)
    rw [← hasB_iff] at m2
    generalize nthI n a = X at *
    obtain ⟨x, is⟩ := X
    simp only at m1 m2 m3 k5
    subst m1
    have k6 := has38_run (.sl (a.map iD)) a x (by omega) rfl
    have k7 := rank35_run (.sl (a.map iD)) a x (by omega) hb na rfl
    have k8 := rank36_run (.sl (a.map iD)) a x (by omega) hb rfl
    rw [m2] at k6
    rw [m3] at k7 k8
    simp [s10, TK.agg, constAV, evalAV, eqCells, EK.has, EK.hasAll, vecEls, elsR, AV.toD, toDs, AV.cells, AV.one, joinD, TyI.zeroD, OpR.of, binIntF, binStrF, AV.isPtr, ptrNil, slNil, mpNil, nilE, eqF, negF, posF, binF, pelF, pvLoad, pelSet, pvStore, boxLoad, epLoad, loadF, boxStore, storeF, fieldAddrF, fieldF, epOf, indexAddrF, byteF, indexF, mapLen, lenF, cutF, sliceF, isSl, slice3F, fillF, arrFs, buildF, partsX, landV, buildSliceF, roomB, appVec, appendF, mmFrom, mmF, max2', min2', clearVec, clearF, convF, unF, pickF, nilChkF, extF, ptrsOf, callF, makeSliceF, sameKs, sameD, kindIs, plainFs, keyOk, mapOb, mapEs, okV, lookF, lookupF, putE, putS, mapPut, mapUpdateF, mapDel, deleteF, mapAll, rangeM, rangeF, overV, hitV, nextO, nextF, entryM, entryO, entryF, itOids, builtinF, capsOf, allocF, boxF, bytesL, bytesF, byteTy, strTy, convertF, makeFuncF, makeMapF, makeMapH, opF, reach, reachOf, AObj.live, closedB, nodupB, packO, packL, packX, backN, backG, backO, obL, backE, frzX, frzO, AV.vids, frzL, landC, sameObs, landR, touchF, bitsW, D.cells, D.decEq, D.decEqs, AV.decEq, AV.decEqs, AObj.decEq, AV.oids0, AV.oids, AObj.oids, renG, renP, AV.ren0, AV.ren, envGet, envPut, envKeep, obGet, setEff, putV, St.put, stepS, keyChk, chkD, accD, Ex.block, AV.under, AObj.under, laysOf, roomFor, mkvO, frzG, szOk, killO, usedBy, tidyS, ghost, ghostE, normSt, resOf, allSome, one0, resultsF, finL, finishL, finish, endF, startEnv, chkC, backX, comeC, AV.flat0, rngC, loopO, layL, endLp, busyL, idleL, noRng, rndSt, rndEnd, wpn_nil, wpn_seq, wpn_loop, wpn_seq_exit, wpn_loop_exit, wpn_seq_ret, wpn_loop_ret, wpn_block, wpn_post, wpk_skip, wpk_exit, wpk_ret, wpk_reg, wpk_seq, wpk_condT, wpk_block, wpk_loop, wpk_pre, wpk_post, wop_nil, wop_cons, wop_guard, St.know, envSet, cond_d, cond_bool, cond_int, cond_str, endE, endQ, freeB, disj, pushT, bitsW, int_beq, int_bne, eqS_def, tbE, fuelL_eq, ann0_lays, ann0_dd, ann0_ro, elsOf_dsl, elsOf_dnils, toNat_succ, nn_succ, pos_succ, one_succ, rng1, rng2, rng3, rng4, rng5, rng6, rng7, rng8, List.idxOf_cons, wpk_rng, rndK, rndE, T2, T3, T4, T5, T6, T8, T9, T22, T23, T33, T38, T44, T45, T58, T60, T62, T63, T76, T85, T92, T94, CT, a0, known_run, k1, k2, k3, k4, k5, k6, k7, k8, h0, hh]
end Go.Proofs.YtnpppjipbkceeaaV
