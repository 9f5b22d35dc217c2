/- known; Set. -/
import Derived.Test.YtnpppjipbkceeaaTc4
set_option linter.unusedVariables false
set_option linter.unusedSimpArgs false
namespace Go.Proofs.YtnpppjipbkceeaaV
open Go.RowKit
theorem known_run : run CC 14 [] [] = some (.d (.bool true), []) := run_of_go 400 (by kernel_rfl)
abbrev Sp := Int × Int
def sD (p : Sp) : D := .agg [.int .i16 p.1, .int .u8 p.2]
def Sp.ok (p : Sp) : Prop := -32768 ≤ p.1 ∧ p.1 ≤ 32767 ∧ 0 ≤ p.2 ∧ p.2 < 256
def spI (s : Sp) : Iv := (Int.tmod s.1 200, Int.tmod s.1 200 + Int.tmod s.2 40)
def setI (l : List Sp) : List Iv := ofI ((l.take 10).map spI)
theorem tmod200 (n : Int) : -200 < Int.tmod n 200 ∧ Int.tmod n 200 < 200 := by
  rcases Int.le_total 0 n with h | h
  · have h1 := Int.tmod_nonneg (b := 200) h
    have h2 := Int.tmod_lt_of_pos n (b := 200) (by omega)
    omega
  · have h1 := Int.tmod_nonneg (b := 200) (a := -n) (by omega)
    have h2 := Int.tmod_lt_of_pos (-n) (b := 200) (by omega)
    rw [Int.neg_tmod] at h1 h2
    omega
theorem spI_bnd {s : Sp} (h : Sp.ok s) : -200 < (spI s).1 ∧ (spI s).1 < 200 ∧ (spI s).1 ≤ (spI s).2 ∧ (spI s).2 < 240 := by
  obtain ⟨h1, h2, h3, h4⟩ := h
  have t1 := tmod200 s.1
  have t2 := tmodP (n := 40) h3 (by omega)
  simp only [spI]; omega
set_option maxRecDepth 100000 in
set_option maxHeartbeats 1000000 in
theorem set13_run (A : D) (l : List Sp) (hl : l.length < 4611686018427387904) (hA : elsOf (.d A) = some (l.map sD)) (hok : ∀ s ∈ l, Sp.ok s) : run CC 13 [.d A] [] = some (.d (.sl ((setI l).map iD)), []) := by
  refine run_code (s := s13 0) rfl rfl rfl (by kernel_rfl) ?_
  simp [s13, TK.agg, constAV, evalAV, eqCells, EK.has, EK.hasAll, vecEls, elsR, AV.toD, toDs, AV.cells, AV.one, joinD, TyI.zeroD, OpR.of, binIntF, binStrF, AV.isPtr, ptrNil, slNil, mpNil, nilE, eqF, negF, posF, binF, pelF, pvLoad, pelSet, pvStore, boxLoad, epLoad, loadF, boxStore, storeF, fieldAddrF, fieldF, epOf, indexAddrF, byteF, indexF, mapLen, lenF, cutF, sliceF, isSl, slice3F, fillF, arrFs, buildF, partsX, landV, buildSliceF, roomB, appVec, appendF, mmFrom, mmF, max2', min2', clearVec, clearF, convF, unF, pickF, nilChkF, extF, ptrsOf, callF, makeSliceF, sameKs, sameD, kindIs, plainFs, keyOk, mapOb, mapEs, okV, lookF, lookupF, putE, putS, mapPut, mapUpdateF, mapDel, deleteF, mapAll, rangeM, rangeF, overV, hitV, nextO, nextF, entryM, entryO, entryF, itOids, builtinF, capsOf, allocF, boxF, bytesL, bytesF, byteTy, strTy, convertF, makeFuncF, makeMapF, makeMapH, opF, reach, reachOf, AObj.live, closedB, nodupB, packO, packL, packX, backN, backG, backO, obL, backE, frzX, frzO, AV.vids, frzL, landC, sameObs, landR, touchF, bitsW, D.cells, D.decEq, D.decEqs, AV.decEq, AV.decEqs, AObj.decEq, AV.oids0, AV.oids, AObj.oids, renG, renP, AV.ren0, AV.ren, envGet, envPut, envKeep, obGet, setEff, putV, St.put, stepS, keyChk, chkD, accD, Ex.block, AV.under, AObj.under, laysOf, roomFor, mkvO, frzG, szOk, killO, usedBy, tidyS, ghost, ghostE, normSt, resOf, allSome, one0, resultsF, finL, finishL, finish, endF, startEnv, chkC, backX, comeC, AV.flat0, rngC, loopO, layL, endLp, busyL, idleL, noRng, rndSt, rndEnd, wpn_nil, wpn_seq, wpn_loop, wpn_seq_exit, wpn_loop_exit, wpn_seq_ret, wpn_loop_ret, wpn_block, wpn_post, wpk_skip, wpk_exit, wpk_ret, wpk_reg, wpk_seq, wpk_condT, wpk_block, wpk_loop, wpk_pre, wpk_post, wop_nil, wop_cons, wop_guard, St.know, envSet, cond_d, cond_bool, cond_int, cond_str, endE, endQ, freeB, disj, pushT, bitsW, int_beq, int_bne, eqS_def, tbE, fuelL_eq, ann0_lays, ann0_dd, ann0_ro, elsOf_dsl, elsOf_dnils, toNat_succ, nn_succ, pos_succ, one_succ, rng1, rng2, rng3, rng4, rng5, rng6, rng7, rng8, List.idxOf_cons, wpk_rng, rndK, rndE, T2, T3, T4, T5, T6, T8, T9, T22, T23, T33, T38, T44, T45, T58, T60, T62, T63, T76, T85, T92, T94, CT, hA]
  refine wlp_inv (S := fun p : List Sp × List Sp × List Iv => ⟨[(0, .d A), (3, .vs 0 0 2 0 p.2.2.length), (4, .d (.int .i64 p.1.length))], [.vec 0 true false 33 2 (p.2.2.map iD)]⟩) (m := fun p => p.2.1.length) (Inv := fun p => p.1 ++ p.2.1 = l ∧ p.2.2.length = p.1.length ∧ p.1.length ≤ 10 ∧ p.2.2 = p.1.map spI) ?_ ([], l, []) ⟨rfl, by simp, by simp, by simp⟩
  rintro ⟨pre, suf, o⟩ ⟨hps, hol, h10, ho⟩ ih
  rw [e13_1]
  simp only at hps hol h10 ho ⊢
  have htk : (o.map iD).take o.length = o.map iD := takeM _ _
  have fin : l.take 10 = pre → setI l = ofI o := fun h => by unfold setI; rw [h, ho]
  have h47 := of47_run (.sl (o.map iD)) o (by omega) rfl
  cases suf with
  | nil =>
    have hn := endL hps
    rw [fin (by rw [← hps, List.append_nil]; exact List.take_of_length_le h10)]
    generalize o.map iD = E at *
    simp [c13_1, TK.agg, constAV, evalAV, eqCells, EK.has, EK.hasAll, vecEls, elsR, AV.toD, toDs, AV.cells, AV.one, joinD, TyI.zeroD, OpR.of, binIntF, binStrF, AV.isPtr, ptrNil, slNil, mpNil, nilE, eqF, negF, posF, binF, pelF, pvLoad, pelSet, pvStore, boxLoad, epLoad, loadF, boxStore, storeF, fieldAddrF, fieldF, epOf, indexAddrF, byteF, indexF, mapLen, lenF, cutF, sliceF, isSl, slice3F, fillF, arrFs, buildF, partsX, landV, buildSliceF, roomB, appVec, appendF, mmFrom, mmF, max2', min2', clearVec, clearF, convF, unF, pickF, nilChkF, extF, ptrsOf, callF, makeSliceF, sameKs, sameD, kindIs, plainFs, keyOk, mapOb, mapEs, okV, lookF, lookupF, putE, putS, mapPut, mapUpdateF, mapDel, deleteF, mapAll, rangeM, rangeF, overV, hitV, nextO, nextF, entryM, entryO, entryF, itOids, builtinF, capsOf, allocF, boxF, bytesL, bytesF, byteTy, strTy, convertF, makeFuncF, makeMapF, makeMapH, opF, reach, reachOf, AObj.live, closedB, nodupB, packO, packL, packX, backN, backG, backO, obL, backE, frzX, frzO, AV.vids, frzL, landC, sameObs, landR, touchF, bitsW, D.cells, D.decEq, D.decEqs, AV.decEq, AV.decEqs, AObj.decEq, AV.oids0, AV.oids, AObj.oids, renG, renP, AV.ren0, AV.ren, envGet, envPut, envKeep, obGet, setEff, putV, St.put, stepS, keyChk, chkD, accD, Ex.block, AV.under, AObj.under, laysOf, roomFor, mkvO, frzG, szOk, killO, usedBy, tidyS, ghost, ghostE, normSt, resOf, allSome, one0, resultsF, finL, finishL, finish, endF, startEnv, chkC, backX, comeC, AV.flat0, rngC, loopO, layL, endLp, busyL, idleL, noRng, rndSt, rndEnd, wpn_nil, wpn_seq, wpn_loop, wpn_seq_exit, wpn_loop_exit, wpn_seq_ret, wpn_loop_ret, wpn_block, wpn_post, wpk_skip, wpk_exit, wpk_ret, wpk_reg, wpk_seq, wpk_condT, wpk_block, wpk_loop, wpk_pre, wpk_post, wop_nil, wop_cons, wop_guard, St.know, envSet, cond_d, cond_bool, cond_int, cond_str, endE, endQ, freeB, disj, pushT, bitsW, int_beq, int_bne, eqS_def, tbE, fuelL_eq, ann0_lays, ann0_dd, ann0_ro, elsOf_dsl, elsOf_dnils, toNat_succ, nn_succ, pos_succ, one_succ, rng1, rng2, rng3, rng4, rng5, rng6, rng7, rng8, List.idxOf_cons, wpk_rng, rndK, rndE, T2, T3, T4, T5, T6, T8, T9, T22, T23, T33, T38, T44, T45, T58, T60, T62, T63, T76, T85, T92, T94, CT, hA, hn, htk, h47]
  | cons c suf =>
    obtain ⟨k1, k2, k3, k4, k5, k6⟩ := atL sD hps (by omega)
    have kg := getL k5 k4
    simp only [sD] at k3
    by_cases e1 : pre.length = 10
    · rw [fin (by rw [← hps]; simp [e1])]
      have g1 : ¬ ((pre.length : Int) < 10) := by omega
      generalize o.map iD = E at *
      simp [c13_1, TK.agg, constAV, evalAV, eqCells, EK.has, EK.hasAll, vecEls, elsR, AV.toD, toDs, AV.cells, AV.one, joinD, TyI.zeroD, OpR.of, binIntF, binStrF, AV.isPtr, ptrNil, slNil, mpNil, nilE, eqF, negF, posF, binF, pelF, pvLoad, pelSet, pvStore, boxLoad, epLoad, loadF, boxStore, storeF, fieldAddrF, fieldF, epOf, indexAddrF, byteF, indexF, mapLen, lenF, cutF, sliceF, isSl, slice3F, fillF, arrFs, buildF, partsX, landV, buildSliceF, roomB, appVec, appendF, mmFrom, mmF, max2', min2', clearVec, clearF, convF, unF, pickF, nilChkF, extF, ptrsOf, callF, makeSliceF, sameKs, sameD, kindIs, plainFs, keyOk, mapOb, mapEs, okV, lookF, lookupF, putE, putS, mapPut, mapUpdateF, mapDel, deleteF, mapAll, rangeM, rangeF, overV, hitV, nextO, nextF, entryM, entryO, entryF, itOids, builtinF, capsOf, allocF, boxF, bytesL, bytesF, byteTy, strTy, convertF, makeFuncF, makeMapF, makeMapH, opF, reach, reachOf, AObj.live, closedB, nodupB, packO, packL, packX, backN, backG, backO, obL, backE, frzX, frzO, AV.vids, frzL, landC, sameObs, landR, touchF, bitsW, D.cells, D.decEq, D.decEqs, AV.decEq, AV.decEqs, AObj.decEq, AV.oids0, AV.oids, AObj.oids, renG, renP, AV.ren0, AV.ren, envGet, envPut, envKeep, obGet, setEff, putV, St.put, stepS, keyChk, chkD, accD, Ex.block, AV.under, AObj.under, laysOf, roomFor, mkvO, frzG, szOk, killO, usedBy, tidyS, ghost, ghostE, normSt, resOf, allSome, one0, resultsF, finL, finishL, finish, endF, startEnv, chkC, backX, comeC, AV.flat0, rngC, loopO, layL, endLp, busyL, idleL, noRng, rndSt, rndEnd, wpn_nil, wpn_seq, wpn_loop, wpn_seq_exit, wpn_loop_exit, wpn_seq_ret, wpn_loop_ret, wpn_block, wpn_post, wpk_skip, wpk_exit, wpk_ret, wpk_reg, wpk_seq, wpk_condT, wpk_block, wpk_loop, wpk_pre, wpk_post, wop_nil, wop_cons, wop_guard, St.know, envSet, cond_d, cond_bool, cond_int, cond_str, endE, endQ, freeB, disj, pushT, bitsW, int_beq, int_bne, eqS_def, tbE, fuelL_eq, ann0_lays, ann0_dd, ann0_ro, elsOf_dsl, elsOf_dnils, toNat_succ, nn_succ, pos_succ, one_succ, rng1, rng2, rng3, rng4, rng5, rng6, rng7, rng8, List.idxOf_cons, wpk_rng, rndK, rndE, T2, T3, T4, T5, T6, T8, T9, T22, T23, T33, T38, T44, T45, T58, T60, T62, T63, T76, T85, T92, T94, CT, hA, sD, k2, k3, k4, k5, kg, htk, h47, g1]
    · have g1 : ((pre.length : Int) < 10) := by omega
      have hc := hok c (List.mem_of_getElem? k5)
      have hb := spI_bnd hc
      obtain ⟨c1, c2, c3, c4⟩ := hc
      have t1 := tmod200 c.1
      have t2 := tmodP (n := 40) c3 (by omega)
      have w1 : IntKind.i64.wrap (Int.tmod c.1 200) = Int.tmod c.1 200 := wrap64 (by omega) (by omega)
      have w2 : IntKind.i64.wrap (Int.tmod c.2 40) = Int.tmod c.2 40 := wrap64 (by omega) (by omega)
      have w3 : IntKind.i64.wrap (Int.tmod c.1 200 + Int.tmod c.2 40) = Int.tmod c.1 200 + Int.tmod c.2 40 := wrap64 (by omega) (by omega)
      have r1 : (o.length + 1) * 16 ≤ 140737488355328 := by omega
      have r2 : o.length + 1 ≤ 9223372036854775807 := by omega
      have hz : szAll 2 [D.agg [.int .i64 (Int.tmod c.1 200), .int .i64 (Int.tmod c.1 200 + Int.tmod c.2 40)]] = true := rfl
      have ih := ih (pre ++ [c], suf, o ++ [spI c])
      have hm2 : (o ++ [spI c]).map iD = o.map iD ++ [.agg [.int .i64 (Int.tmod c.1 200), .int .i64 (Int.tmod c.1 200 + Int.tmod c.2 40)]] := by simp [iD, spI]
      simp only [hm2] at ih
      have ih := ih ⟨by simpa using hps, by simp [hol], by simp; omega, by simp [ho]⟩ (by simp)
      clear fin h47
      generalize o.map iD = E at *
      simp at ih
      simp [c13_1, TK.agg, constAV, evalAV, eqCells, EK.has, EK.hasAll, vecEls, elsR, AV.toD, toDs, AV.cells, AV.one, joinD, TyI.zeroD, OpR.of, binIntF, binStrF, AV.isPtr, ptrNil, slNil, mpNil, nilE, eqF, negF, posF, binF, pelF, pvLoad, pelSet, pvStore, boxLoad, epLoad, loadF, boxStore, storeF, fieldAddrF, fieldF, epOf, indexAddrF, byteF, indexF, mapLen, lenF, cutF, sliceF, isSl, slice3F, fillF, arrFs, buildF, partsX, landV, buildSliceF, roomB, appVec, appendF, mmFrom, mmF, max2', min2', clearVec, clearF, convF, unF, pickF, nilChkF, extF, ptrsOf, callF, makeSliceF, sameKs, sameD, kindIs, plainFs, keyOk, mapOb, mapEs, okV, lookF, lookupF, putE, putS, mapPut, mapUpdateF, mapDel, deleteF, mapAll, rangeM, rangeF, overV, hitV, nextO, nextF, entryM, entryO, entryF, itOids, builtinF, capsOf, allocF, boxF, bytesL, bytesF, byteTy, strTy, convertF, makeFuncF, makeMapF, makeMapH, opF, reach, reachOf, AObj.live, closedB, nodupB, packO, packL, packX, backN, backG, backO, obL, backE, frzX, frzO, AV.vids, frzL, landC, sameObs, landR, touchF, bitsW, D.cells, D.decEq, D.decEqs, AV.decEq, AV.decEqs, AObj.decEq, AV.oids0, AV.oids, AObj.oids, renG, renP, AV.ren0, AV.ren, envGet, envPut, envKeep, obGet, setEff, putV, St.put, stepS, keyChk, chkD, accD, Ex.block, AV.under, AObj.under, laysOf, roomFor, mkvO, frzG, szOk, killO, usedBy, tidyS, ghost, ghostE, normSt, resOf, allSome, one0, resultsF, finL, finishL, finish, endF, startEnv, chkC, backX, comeC, AV.flat0, rngC, loopO, layL, endLp, busyL, idleL, noRng, rndSt, rndEnd, wpn_nil, wpn_seq, wpn_loop, wpn_seq_exit, wpn_loop_exit, wpn_seq_ret, wpn_loop_ret, wpn_block, wpn_post, wpk_skip, wpk_exit, wpk_ret, wpk_reg, wpk_seq, wpk_condT, wpk_block, wpk_loop, wpk_pre, wpk_post, wop_nil, wop_cons, wop_guard, St.know, envSet, cond_d, cond_bool, cond_int, cond_str, endE, endQ, freeB, disj, pushT, bitsW, int_beq, int_bne, eqS_def, tbE, fuelL_eq, ann0_lays, ann0_dd, ann0_ro, elsOf_dsl, elsOf_dnils, toNat_succ, nn_succ, pos_succ, one_succ, rng1, rng2, rng3, rng4, rng5, rng6, rng7, rng8, List.idxOf_cons, wpk_rng, rndK, rndE, T2, T3, T4, T5, T6, T8, T9, T22, T23, T33, T38, T44, T45, T58, T60, T62, T63, T76, T85, T92, T94, CT, hA, sD, k2, k3, k4, k5, kg, htk, g1, w1, w2, w3, r1, r2, hz]
      exact ih
end Go.Proofs.YtnpppjipbkceeaaV
