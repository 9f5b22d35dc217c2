/- The law TimesetHulls: the walk. -/
import Derived.Test.YtnpppjipbkceeaaWe3
import Derived.Test.YtnpppjipbkceeaaTc16
set_option linter.unusedVariables false
set_option linter.unusedSimpArgs false
namespace Go.Proofs.YtnpppjipbkceeaaV
open Go.RowKit
set_option maxRecDepth 100000 in
set_option maxHeartbeats 1000000 in
theorem law5_run (A : D) (l : List Sp) (hl : l.length < 4611686018427387904) (hA : elsOf (.d A) = some (l.map sD)) (hl1 : ∀ s ∈ l, Sp.ok s) : run CC 5 [.d A] [] = some (.d (.bool true), []) := by
  refine run_code (s := s5 0) rfl rfl rfl (by kernel_rfl) ?_
  have a0 := set13_run A l hl hA hl1
  have la := setI_len l
  have na := setI_norm l
  generalize setI l = a at *
  match a, a0, la, na with
  | [], a0, la, na =>
    have h1 := hull21_nil (.sl []) rfl
    have h2 := gaps22_nil (.sl []) rfl
    have h3 := gaps23_run (.sl []) [] (by simp) rfl
    have h4 := equal15_run (.sl []) (.sl []) [] [] (by simp) rfl rfl
    simp only [List.map_nil, gpI, decide_true, iD] at a0 h1 h3 h4
    simp [s5, TK.agg, constAV, evalAV, eqCells, EK.has, EK.hasAll, vecEls, elsR, AV.toD, toDs, AV.cells, AV.one, joinD, TyI.zeroD, OpR.of, binIntF, binStrF, AV.isPtr, ptrNil, slNil, mpNil, nilE, eqF, negF, posF, binF, pelF, pvLoad, pelSet, pvStore, boxLoad, epLoad, loadF, boxStore, storeF, fieldAddrF, fieldF, epOf, indexAddrF, byteF, indexF, mapLen, lenF, cutF, sliceF, isSl, slice3F, fillF, arrFs, buildF, partsX, landV, buildSliceF, roomB, appVec, appendF, mmFrom, mmF, max2', min2', clearVec, clearF, convF, unF, pickF, nilChkF, extF, ptrsOf, callF, makeSliceF, sameKs, sameD, kindIs, plainFs, keyOk, mapOb, mapEs, okV, lookF, lookupF, putE, putS, mapPut, mapUpdateF, mapDel, deleteF, mapAll, rangeM, rangeF, overV, hitV, nextO, nextF, entryM, entryO, entryF, itOids, builtinF, capsOf, allocF, boxF, bytesL, bytesF, byteTy, strTy, convertF, makeFuncF, makeMapF, makeMapH, opF, reach, reachOf, AObj.live, closedB, nodupB, packO, packL, packX, backN, backG, backO, obL, backE, frzX, frzO, AV.vids, frzL, landC, sameObs, landR, touchF, bitsW, D.cells, D.decEq, D.decEqs, AV.decEq, AV.decEqs, AObj.decEq, AV.oids0, AV.oids, AObj.oids, renG, renP, AV.ren0, AV.ren, envGet, envPut, envKeep, obGet, setEff, putV, St.put, stepS, keyChk, chkD, accD, Ex.block, AV.under, AObj.under, laysOf, roomFor, mkvO, frzG, szOk, killO, usedBy, tidyS, ghost, ghostE, normSt, resOf, allSome, one0, resultsF, finL, finishL, finish, endF, startEnv, chkC, backX, comeC, AV.flat0, rngC, loopO, layL, endLp, busyL, idleL, noRng, rndSt, rndEnd, wpn_nil, wpn_seq, wpn_loop, wpn_seq_exit, wpn_loop_exit, wpn_seq_ret, wpn_loop_ret, wpn_block, wpn_post, wpk_skip, wpk_exit, wpk_ret, wpk_reg, wpk_seq, wpk_condT, wpk_block, wpk_loop, wpk_pre, wpk_post, wop_nil, wop_cons, wop_guard, St.know, envSet, cond_d, cond_bool, cond_int, cond_str, endE, endQ, freeB, disj, pushT, bitsW, int_beq, int_bne, eqS_def, tbE, fuelL_eq, ann0_lays, ann0_dd, ann0_ro, elsOf_dsl, elsOf_dnils, toNat_succ, nn_succ, pos_succ, one_succ, rng1, rng2, rng3, rng4, rng5, rng6, rng7, rng8, List.idxOf_cons, wpk_rng, rndK, rndE, T2, T3, T4, T5, T6, T8, T9, T22, T23, T33, T38, T44, T45, T58, T60, T62, T63, T76, T85, T92, T94, CT, a0, known_run, h1, h2, h3, h4, QQ, CQ]
  | p :: r, a0, la, na =>
    obtain ⟨b, hb⟩ : ∃ b, (p :: r)[r.length]? = some b := ⟨(p :: r)[r.length]'(by simp), List.getElem?_eq_getElem (by simp)⟩
    have h1 := hull21_cons (.sl ((p :: r).map iD)) (p :: r) p b (by omega) rfl rfl (by simpa using hb)
    have h2 := gaps22_cons (.sl ((p :: r).map iD)) p b r (by omega) rfl na hb
    have h3 := gaps23_run (.sl ((p :: r).map iD)) (p :: r) (by omega) rfl
    have gl := gpI_len (p :: r)
    have h5 := union16_run (.sl ((p :: r).map iD)) (.sl ((gpI (p :: r)).map iD)) (p :: r) (gpI (p :: r)) (by omega) (by omega) rfl rfl
    rw [(gaps_cmb na hb).2] at h5
    generalize gpI (p :: r) = g at *
    have h4 := equal15_run (.sl (g.map iD)) (.sl (g.map iD)) g g (by omega) rfl rfl
    have h6 := equal15_run (.sl [iD (p.1, b.2)]) (.sl [iD (p.1, b.2)]) [(p.1, b.2)] [(p.1, b.2)] (by simp) rfl rfl
    have hb' : (p :: r)[(p :: r).length - 1]? = some b := by simpa using hb
    have h0 : (p :: r)[0]? = some p := rfl
    have hp : 0 < (p :: r).length := by simp
    clear hb
    generalize p :: r = a at *
    obtain ⟨j1, j2, j3⟩ := atN iD hb' (by omega)
    obtain ⟨i1, i2, i3⟩ := atN iD h0 (by omega)
    have jg := getL hb' j1
    have ig := getL h0 i1
    have w1 : IntKind.i64.wrap ((a.length : Int) - 1) = ((a.length - 1 : Nat) : Int) := by rw [wrap64 (by omega) (by omega)]; omega
    simp only [decide_true, List.map_cons, List.map_nil, iD] at a0 h1 h2 h3 h4 h5 h6 j3 i3
    have hp' : (0 : Int) < a.length := by omega
    have hne : ¬ a = [] := by rintro rfl; simp at hp
    generalize g.map iD = G at *
    simp [s5, TK.agg, constAV, evalAV, eqCells, EK.has, EK.hasAll, vecEls, elsR, AV.toD, toDs, AV.cells, AV.one, joinD, TyI.zeroD, OpR.of, binIntF, binStrF, AV.isPtr, ptrNil, slNil, mpNil, nilE, eqF, negF, posF, binF, pelF, pvLoad, pelSet, pvStore, boxLoad, epLoad, loadF, boxStore, storeF, fieldAddrF, fieldF, epOf, indexAddrF, byteF, indexF, mapLen, lenF, cutF, sliceF, isSl, slice3F, fillF, arrFs, buildF, partsX, landV, buildSliceF, roomB, appVec, appendF, mmFrom, mmF, max2', min2', clearVec, clearF, convF, unF, pickF, nilChkF, extF, ptrsOf, callF, makeSliceF, sameKs, sameD, kindIs, plainFs, keyOk, mapOb, mapEs, okV, lookF, lookupF, putE, putS, mapPut, mapUpdateF, mapDel, deleteF, mapAll, rangeM, rangeF, overV, hitV, nextO, nextF, entryM, entryO, entryF, itOids, builtinF, capsOf, allocF, boxF, bytesL, bytesF, byteTy, strTy, convertF, makeFuncF, makeMapF, makeMapH, opF, reach, reachOf, AObj.live, closedB, nodupB, packO, packL, packX, backN, backG, backO, obL, backE, frzX, frzO, AV.vids, frzL, landC, sameObs, landR, touchF, bitsW, D.cells, D.decEq, D.decEqs, AV.decEq, AV.decEqs, AObj.decEq, AV.oids0, AV.oids, AObj.oids, renG, renP, AV.ren0, AV.ren, envGet, envPut, envKeep, obGet, setEff, putV, St.put, stepS, keyChk, chkD, accD, Ex.block, AV.under, AObj.under, laysOf, roomFor, mkvO, frzG, szOk, killO, usedBy, tidyS, ghost, ghostE, normSt, resOf, allSome, one0, resultsF, finL, finishL, finish, endF, startEnv, chkC, backX, comeC, AV.flat0, rngC, loopO, layL, endLp, busyL, idleL, noRng, rndSt, rndEnd, wpn_nil, wpn_seq, wpn_loop, wpn_seq_exit, wpn_loop_exit, wpn_seq_ret, wpn_loop_ret, wpn_block, wpn_post, wpk_skip, wpk_exit, wpk_ret, wpk_reg, wpk_seq, wpk_condT, wpk_block, wpk_loop, wpk_pre, wpk_post, wop_nil, wop_cons, wop_guard, St.know, envSet, cond_d, cond_bool, cond_int, cond_str, endE, endQ, freeB, disj, pushT, bitsW, int_beq, int_bne, eqS_def, tbE, fuelL_eq, ann0_lays, ann0_dd, ann0_ro, elsOf_dsl, elsOf_dnils, toNat_succ, nn_succ, pos_succ, one_succ, rng1, rng2, rng3, rng4, rng5, rng6, rng7, rng8, List.idxOf_cons, wpk_rng, rndK, rndE, T2, T3, T4, T5, T6, T8, T9, T22, T23, T33, T38, T44, T45, T58, T60, T62, T63, T76, T85, T92, T94, CT, a0, known_run, h1, h2, h3, h4, h5, h6, j1, j3, jg, i1, i3, ig, hb', h0, hp, hp', hne, w1, szAll, D.cells, QQ, CQ, iD]
end Go.Proofs.YtnpppjipbkceeaaV
