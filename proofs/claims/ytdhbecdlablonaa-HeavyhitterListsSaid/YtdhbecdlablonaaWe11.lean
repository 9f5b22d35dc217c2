/- The law HeavyhitterLists: the walk. -/
import Derived.Test.YtdhbecdlablonaaWc22s
set_option linter.unusedVariables false
set_option linter.unusedSimpArgs false
namespace Go.Proofs.YtdhbecdlablonaaV
open Go.RowKit
theorem mostI_8' (n : Int) : 1 ≤ mostI n ∧ mostI n ≤ 8 := by unfold mostI; omega
theorem key_run1 (k : Nat) (h : k < 26) : run CC 20 [.d (.agg [.int .u8 k, .int .u8 0])] [] = some (.d (.str (keyB k)), []) := key_run ⟨k, 0⟩ ⟨⟨by simp only; omega, by simp only; omega⟩, by simp, by simp⟩
theorem leastT_mem {l : List Ctr} (h : keysNe strK l) {n : Int} {p : Ctr} : p ∈ leastC n (topC l) ↔ p ∈ l ∧ n ≤ p.2 := by
  obtain ⟨t1, t2⟩ := topC_ok h
  rw [least_filter t1, List.mem_filter]
  constructor
  · rintro ⟨h1, h2⟩; exact ⟨t2.subset h1, by simpa using h2⟩
  · rintro ⟨h1, h2⟩; exact ⟨t2.symm.subset h1, by simpa using h2⟩
theorem leastT_len {l : List Ctr} (h : keysNe strK l) (n : Int) : (leastC n (topC l)).length ≤ l.length := by
  obtain ⟨t1, t2⟩ := topC_ok h
  rw [least_filter t1, ← t2.length_eq]
  exact List.length_filter_le _ _
set_option maxRecDepth 100000 in
set_option maxHeartbeats 4000000 in
theorem loop11_1 (A : D) (l : List It) (hok : ∀ x ∈ l, x.ok) (hA : elsOf (.d A) = some (l.map It.enc)) (s : Sm) (hs : okS s) (w : Int) (hw : s.lost < w) (hb : ∀ q, cntC q s.cs ≤ exC q (l.take 60) ∧ exC q (l.take 60) ≤ cntC q s.cs + s.lost) (ks : List Fr) (K : Ex → St → Prop)
    (hnext : wpn CC .norm ⟨[], [.dead]⟩ ks K) :
    wlp CC (s11_1 0) ⟨[(1, .d A), (2, .d (.int .i64 w)), (8, .d (.sl (csD (leastC w (topC s.cs))))), (9, .d (.sl (csD (leastC (w - s.lost) (topC s.cs))))), (11, .d (.int .i64 0))], [.dead]⟩ (.block 0 :: .post (.tidy [] 0 1) :: .post (.tidy [] 0 1) :: ks) K := by
  have hkn := srt_ne hs.srt
  have hg1 := leastT_len hkn w
  have hg2 := leastT_len hkn (w - s.lost)
  have hsl := hs.short
  refine wlp_inv (S := fun k : Nat => ⟨[(1, .d A), (2, .d (.int .i64 w)), (8, .d (.sl (csD (leastC w (topC s.cs))))), (9, .d (.sl (csD (leastC (w - s.lost) (topC s.cs))))), (11, .d (.int .i64 k))], [.dead]⟩) (m := fun k => 26 - k) (Inv := fun k => k ≤ 26) ?_ 0 (by omega)
  rintro k hk ih
  rw [e11_1]
  by_cases h : k < 26
  · have q1 : (k : Int) < 26 := by omega
    have w1 : IntKind.u8.wrap (k : Int) = k := wrap_u8 (by omega) (by omega)
    have w2 : IntKind.i64.wrap ((k : Int) + 1) = (k : Int) + 1 := wrap64 (by omega) (by omega)
    have hkey := key_run1 k h
    have hex := exact_run A l (keyB k) hok hA
    obtain ⟨b1, b2⟩ := hb (keyB k)
    have hcg := count_run (.sl (csD (leastC w (topC s.cs)))) (leastC w (topC s.cs)) (by omega) rfl (keyB k)
    have hcp := count_run (.sl (csD (leastC (w - s.lost) (topC s.cs)))) (leastC (w - s.lost) (topC s.cs)) (by omega) rfl (keyB k)
    have hlo := hs.lost
    have c1 : w ≤ exC (keyB k) (l.take 60) → ¬ cntC (keyB k) (leastC (w - s.lost) (topC s.cs)) = 0 := fun hw2 => by
      have hc : cntC (keyB k) s.cs ≠ 0 := by omega
      have hm := cnt_mem hc
      have hin : (keyB k, cntC (keyB k) s.cs) ∈ leastC (w - s.lost) (topC s.cs) := (leastT_mem hkn).2 ⟨hm, by simp only; omega⟩
      have := (cnt_pos (k := keyB k) (l := leastC (w - s.lost) (topC s.cs)) fun p hp => hs.pos p ((leastT_mem hkn).1 hp).1).2.2 ⟨_, hin, rfl⟩
      omega
    have c2 : ¬ w ≤ exC (keyB k) (l.take 60) → ¬ 0 < cntC (keyB k) (leastC w (topC s.cs)) := fun hw2 h0 => by
      have hm := cnt_mem (k := keyB k) (l := leastC w (topC s.cs)) (by omega)
      obtain ⟨m1, m2⟩ := (leastT_mem hkn).1 hm
      have := mem_cnt hs.srt m1
      simp only at this m2
      omega
    have ih := ih (k + 1) (by omega) (by omega)
    simp at ih
    generalize exC (keyB k) (l.take 60) = ex at *
    generalize cntC (keyB k) (leastC w (topC s.cs)) = cg at *
    generalize cntC (keyB k) (leastC (w - s.lost) (topC s.cs)) = cp at *
    generalize csD (leastC w (topC s.cs)) = G at *
    generalize csD (leastC (w - s.lost) (topC s.cs)) = P at *
    by_cases e : w ≤ ex
    · have c1 := c1 e
      simp [c11_1, TK.agg, constAV, evalAV, eqCells, EK.has, EK.hasAll, vecEls, elsR, AV.toD, toDs, AV.cells, AV.one, joinD, TyI.zeroD, OpR.of, binIntF, binStrF, AV.isPtr, ptrNil, slNil, mpNil, nilE, eqF, negF, posF, binF, pelF, pvLoad, pelSet, pvStore, boxLoad, epLoad, loadF, boxStore, storeF, fieldAddrF, fieldF, epOf, indexAddrF, byteF, indexF, mapLen, lenF, cutF, sliceF, isSl, slice3F, fillF, arrFs, buildF, partsX, landV, buildSliceF, roomB, appVec, appendF, mmFrom, mmF, max2', min2', clearVec, clearF, convF, unF, pickF, nilChkF, extF, ptrsOf, callF, makeSliceF, sameKs, sameD, kindIs, plainFs, keyOk, mapOb, mapEs, okV, lookF, lookupF, putE, putS, mapPut, mapUpdateF, mapDel, deleteF, mapAll, rangeM, rangeF, overV, hitV, nextO, nextF, entryM, entryO, entryF, itOids, builtinF, capsOf, allocF, boxF, bytesL, bytesF, byteTy, strTy, convertF, makeFuncF, makeMapF, makeMapH, opF, reach, reachOf, AObj.live, closedB, nodupB, packO, packL, packX, backN, backG, backO, obL, backE, frzX, frzO, AV.vids, frzL, landC, sameObs, landR, touchF, D.cells, D.decEq, D.decEqs, AV.decEq, AV.decEqs, AObj.decEq, AV.oids0, AV.oids, AObj.oids, renG, renP, AV.ren0, AV.ren, envGet, envPut, envKeep, obGet, setEff, putV, St.put, stepS, keyChk, chkD, accD, Ex.block, AV.under, AObj.under, laysOf, roomFor, mkvO, frzG, szOk, killO, usedBy, tidyS, ghost, ghostE, normSt, resOf, allSome, one0, resultsF, finL, finishL, finish, endF, startEnv, chkC, backX, comeC, wpn_nil, wpn_seq, wpn_loop, wpn_seq_exit, wpn_loop_exit, wpn_seq_ret, wpn_loop_ret, wpn_block, wpn_post, wpk_skip, wpk_exit, wpk_ret, wpk_reg, wpk_seq, wpk_condT, wpk_block, wpk_loop, wpk_pre, wpk_post, wop_nil, wop_cons, wop_guard, St.know, envSet, cond_d, cond_bool, cond_int, cond_str, endE, endQ, freeB, disj, pushT, bitsW, int_beq, int_bne, eqS_def, tbE, fuelL_eq, ann0_lays, ann0_dd, ann0_ro, elsOf_dsl, elsOf_dnils, toNat_succ, nn_succ, pos_succ, one_succ, rng1, rng2, rng3, rng4, rng5, rng6, rng7, rng8, List.idxOf_cons, T3, T4, T5, T9, T22, T25, T26, T28, T29, T36, T41, T47, T56, T69, T74, T78, T85, T90, T98, CT, q1, w1, w2, hkey, hex, hcp, hcg, e, c1]
      exact ih
    · have c2 := c2 e
      have e2 : ex < w := by omega
      simp [c11_1, TK.agg, constAV, evalAV, eqCells, EK.has, EK.hasAll, vecEls, elsR, AV.toD, toDs, AV.cells, AV.one, joinD, TyI.zeroD, OpR.of, binIntF, binStrF, AV.isPtr, ptrNil, slNil, mpNil, nilE, eqF, negF, posF, binF, pelF, pvLoad, pelSet, pvStore, boxLoad, epLoad, loadF, boxStore, storeF, fieldAddrF, fieldF, epOf, indexAddrF, byteF, indexF, mapLen, lenF, cutF, sliceF, isSl, slice3F, fillF, arrFs, buildF, partsX, landV, buildSliceF, roomB, appVec, appendF, mmFrom, mmF, max2', min2', clearVec, clearF, convF, unF, pickF, nilChkF, extF, ptrsOf, callF, makeSliceF, sameKs, sameD, kindIs, plainFs, keyOk, mapOb, mapEs, okV, lookF, lookupF, putE, putS, mapPut, mapUpdateF, mapDel, deleteF, mapAll, rangeM, rangeF, overV, hitV, nextO, nextF, entryM, entryO, entryF, itOids, builtinF, capsOf, allocF, boxF, bytesL, bytesF, byteTy, strTy, convertF, makeFuncF, makeMapF, makeMapH, opF, reach, reachOf, AObj.live, closedB, nodupB, packO, packL, packX, backN, backG, backO, obL, backE, frzX, frzO, AV.vids, frzL, landC, sameObs, landR, touchF, D.cells, D.decEq, D.decEqs, AV.decEq, AV.decEqs, AObj.decEq, AV.oids0, AV.oids, AObj.oids, renG, renP, AV.ren0, AV.ren, envGet, envPut, envKeep, obGet, setEff, putV, St.put, stepS, keyChk, chkD, accD, Ex.block, AV.under, AObj.under, laysOf, roomFor, mkvO, frzG, szOk, killO, usedBy, tidyS, ghost, ghostE, normSt, resOf, allSome, one0, resultsF, finL, finishL, finish, endF, startEnv, chkC, backX, comeC, wpn_nil, wpn_seq, wpn_loop, wpn_seq_exit, wpn_loop_exit, wpn_seq_ret, wpn_loop_ret, wpn_block, wpn_post, wpk_skip, wpk_exit, wpk_ret, wpk_reg, wpk_seq, wpk_condT, wpk_block, wpk_loop, wpk_pre, wpk_post, wop_nil, wop_cons, wop_guard, St.know, envSet, cond_d, cond_bool, cond_int, cond_str, endE, endQ, freeB, disj, pushT, bitsW, int_beq, int_bne, eqS_def, tbE, fuelL_eq, ann0_lays, ann0_dd, ann0_ro, elsOf_dsl, elsOf_dnils, toNat_succ, nn_succ, pos_succ, one_succ, rng1, rng2, rng3, rng4, rng5, rng6, rng7, rng8, List.idxOf_cons, T3, T4, T5, T9, T22, T25, T26, T28, T29, T36, T41, T47, T56, T69, T74, T78, T85, T90, T98, CT, q1, w1, w2, hkey, hex, hcp, hcg, e, e2, c2]
      exact ih
  · have q1 : ¬ (k : Int) < 26 := by omega
    simp [c11_1, TK.agg, constAV, evalAV, eqCells, EK.has, EK.hasAll, vecEls, elsR, AV.toD, toDs, AV.cells, AV.one, joinD, TyI.zeroD, OpR.of, binIntF, binStrF, AV.isPtr, ptrNil, slNil, mpNil, nilE, eqF, negF, posF, binF, pelF, pvLoad, pelSet, pvStore, boxLoad, epLoad, loadF, boxStore, storeF, fieldAddrF, fieldF, epOf, indexAddrF, byteF, indexF, mapLen, lenF, cutF, sliceF, isSl, slice3F, fillF, arrFs, buildF, partsX, landV, buildSliceF, roomB, appVec, appendF, mmFrom, mmF, max2', min2', clearVec, clearF, convF, unF, pickF, nilChkF, extF, ptrsOf, callF, makeSliceF, sameKs, sameD, kindIs, plainFs, keyOk, mapOb, mapEs, okV, lookF, lookupF, putE, putS, mapPut, mapUpdateF, mapDel, deleteF, mapAll, rangeM, rangeF, overV, hitV, nextO, nextF, entryM, entryO, entryF, itOids, builtinF, capsOf, allocF, boxF, bytesL, bytesF, byteTy, strTy, convertF, makeFuncF, makeMapF, makeMapH, opF, reach, reachOf, AObj.live, closedB, nodupB, packO, packL, packX, backN, backG, backO, obL, backE, frzX, frzO, AV.vids, frzL, landC, sameObs, landR, touchF, D.cells, D.decEq, D.decEqs, AV.decEq, AV.decEqs, AObj.decEq, AV.oids0, AV.oids, AObj.oids, renG, renP, AV.ren0, AV.ren, envGet, envPut, envKeep, obGet, setEff, putV, St.put, stepS, keyChk, chkD, accD, Ex.block, AV.under, AObj.under, laysOf, roomFor, mkvO, frzG, szOk, killO, usedBy, tidyS, ghost, ghostE, normSt, resOf, allSome, one0, resultsF, finL, finishL, finish, endF, startEnv, chkC, backX, comeC, wpn_nil, wpn_seq, wpn_loop, wpn_seq_exit, wpn_loop_exit, wpn_seq_ret, wpn_loop_ret, wpn_block, wpn_post, wpk_skip, wpk_exit, wpk_ret, wpk_reg, wpk_seq, wpk_condT, wpk_block, wpk_loop, wpk_pre, wpk_post, wop_nil, wop_cons, wop_guard, St.know, envSet, cond_d, cond_bool, cond_int, cond_str, endE, endQ, freeB, disj, pushT, bitsW, int_beq, int_bne, eqS_def, tbE, fuelL_eq, ann0_lays, ann0_dd, ann0_ro, elsOf_dsl, elsOf_dnils, toNat_succ, nn_succ, pos_succ, one_succ, rng1, rng2, rng3, rng4, rng5, rng6, rng7, rng8, List.idxOf_cons, T3, T4, T5, T9, T22, T25, T26, T28, T29, T36, T41, T47, T56, T69, T74, T78, T85, T90, T98, CT, q1]
    exact hnext
set_option maxRecDepth 100000 in
set_option maxHeartbeats 4000000 in
theorem law11_run (n : Int) (hn : 0 ≤ n ∧ n < 256) (A : D) (l : List It) (hok : ∀ x ∈ l, x.ok) (hA : elsOf (.d A) = some (l.map It.enc)) (w : Int) (hwr : -9223372036854775808 ≤ w ∧ w < 9223372036854775808) : run CC 11 [.d (.int .u8 n), .d A, .d (.int .i64 w)] [] = some (.d (.bool true), []) := by
  refine run_code (s := s11 0) rfl rfl rfl (by kernel_rfl) ?_
  have hm := most_run n hn
  have hm8 := mostI_8' n
  obtain ⟨X, hX, hst⟩ := stream_run (mostI n) A l hok hA
  obtain ⟨hs, hmo, _, htt, hb⟩ := str_ok (mostI n) (mostI_ok n) l
  obtain ⟨a1, a2, a3⟩ := slF hX
  simp only [AV.one, AV.cells, D.cells] at a1 a2 a3
  generalize strS (mostI n) l = s at *
  have hlen := hs.len
  have h12 : s.cs.length ≤ 12 := by omega
  have hkn := srt_ne hs.srt
  have hg := guar_run s X hX h12 hkn w
  have htp := topP_run s X hX h12 hkn
  rw [least_all hs.pos fun p hp => (topC_ok hkn).2.subset hp] at htp
  obtain ⟨T, hT, htr⟩ := top_run X s.cs (by omega) hX
  obtain ⟨L1, hL1, hlr⟩ := least_run X s.cs (by omega) hX w
  have hll := leastT_len hkn w
  have htl : (topC s.cs).length = s.cs.length := (topC_ok hkn).2.length_eq
  have hs1 := same_run (.sl (csD (leastC w (topC s.cs)))) L1 (leastC w (topC s.cs)) (leastC w (topC s.cs)) (by omega) rfl hL1
  have hs2 := same_run (.sl (csD (topC s.cs))) T (topC s.cs) (topC s.cs) (by omega) rfl hT
  rw [decide_eq_true rfl] at hs1 hs2
  have hlo := hs.lost
  have hlt := hs.lostLe
  simp only [smD] at hst hg htp
  by_cases hw : w ≤ s.lost
  · have hp := poss_bad s X hX w hw
    simp only [smD] at hp
    simp [s11, TK.agg, constAV, evalAV, eqCells, EK.has, EK.hasAll, vecEls, elsR, AV.toD, toDs, AV.cells, AV.one, joinD, TyI.zeroD, OpR.of, binIntF, binStrF, AV.isPtr, ptrNil, slNil, mpNil, nilE, eqF, negF, posF, binF, pelF, pvLoad, pelSet, pvStore, boxLoad, epLoad, loadF, boxStore, storeF, fieldAddrF, fieldF, epOf, indexAddrF, byteF, indexF, mapLen, lenF, cutF, sliceF, isSl, slice3F, fillF, arrFs, buildF, partsX, landV, buildSliceF, roomB, appVec, appendF, mmFrom, mmF, max2', min2', clearVec, clearF, convF, unF, pickF, nilChkF, extF, ptrsOf, callF, makeSliceF, sameKs, sameD, kindIs, plainFs, keyOk, mapOb, mapEs, okV, lookF, lookupF, putE, putS, mapPut, mapUpdateF, mapDel, deleteF, mapAll, rangeM, rangeF, overV, hitV, nextO, nextF, entryM, entryO, entryF, itOids, builtinF, capsOf, allocF, boxF, bytesL, bytesF, byteTy, strTy, convertF, makeFuncF, makeMapF, makeMapH, opF, reach, reachOf, AObj.live, closedB, nodupB, packO, packL, packX, backN, backG, backO, obL, backE, frzX, frzO, AV.vids, frzL, landC, sameObs, landR, touchF, D.cells, D.decEq, D.decEqs, AV.decEq, AV.decEqs, AObj.decEq, AV.oids0, AV.oids, AObj.oids, renG, renP, AV.ren0, AV.ren, envGet, envPut, envKeep, obGet, setEff, putV, St.put, stepS, keyChk, chkD, accD, Ex.block, AV.under, AObj.under, laysOf, roomFor, mkvO, frzG, szOk, killO, usedBy, tidyS, ghost, ghostE, normSt, resOf, allSome, one0, resultsF, finL, finishL, finish, endF, startEnv, chkC, backX, comeC, wpn_nil, wpn_seq, wpn_loop, wpn_seq_exit, wpn_loop_exit, wpn_seq_ret, wpn_loop_ret, wpn_block, wpn_post, wpk_skip, wpk_exit, wpk_ret, wpk_reg, wpk_seq, wpk_condT, wpk_block, wpk_loop, wpk_pre, wpk_post, wop_nil, wop_cons, wop_guard, St.know, envSet, cond_d, cond_bool, cond_int, cond_str, endE, endQ, freeB, disj, pushT, bitsW, int_beq, int_bne, eqS_def, tbE, fuelL_eq, ann0_lays, ann0_dd, ann0_ro, elsOf_dsl, elsOf_dnils, toNat_succ, nn_succ, pos_succ, one_succ, rng1, rng2, rng3, rng4, rng5, rng6, rng7, rng8, List.idxOf_cons, T3, T4, T5, T9, T22, T25, T26, T28, T29, T36, T41, T47, T56, T69, T74, T78, T85, T90, T98, CT, known_run, hm, hst, hg, hp, htp, htr, hlr, hs1, hs2, a1, a2, a3, hw]
  · have hw2 : s.lost < w := by omega
    have ww : IntKind.i64.wrap (w - s.lost) = w - s.lost := wrap64 (by omega) (by omega)
    have hp := poss_run s X hX h12 hkn w hw ww
    obtain ⟨L2, hL2, hlr2⟩ := least_run X s.cs (by omega) hX (w - s.lost)
    have hll2 := leastT_len hkn (w - s.lost)
    have hs3 := same_run (.sl (csD (leastC (w - s.lost) (topC s.cs)))) L2 (leastC (w - s.lost) (topC s.cs)) (leastC (w - s.lost) (topC s.cs)) (by omega) rfl hL2
    rw [decide_eq_true rfl] at hs3
    have hloop := loop11_1 A l hok hA s hs w hw2 hb
    simp only [smD] at hp
    generalize csD (leastC w (topC s.cs)) = G at *
    generalize csD (leastC (w - s.lost) (topC s.cs)) = P at *
    generalize csD (topC s.cs) = TT0 at *
    simp [s11, TK.agg, constAV, evalAV, eqCells, EK.has, EK.hasAll, vecEls, elsR, AV.toD, toDs, AV.cells, AV.one, joinD, TyI.zeroD, OpR.of, binIntF, binStrF, AV.isPtr, ptrNil, slNil, mpNil, nilE, eqF, negF, posF, binF, pelF, pvLoad, pelSet, pvStore, boxLoad, epLoad, loadF, boxStore, storeF, fieldAddrF, fieldF, epOf, indexAddrF, byteF, indexF, mapLen, lenF, cutF, sliceF, isSl, slice3F, fillF, arrFs, buildF, partsX, landV, buildSliceF, roomB, appVec, appendF, mmFrom, mmF, max2', min2', clearVec, clearF, convF, unF, pickF, nilChkF, extF, ptrsOf, callF, makeSliceF, sameKs, sameD, kindIs, plainFs, keyOk, mapOb, mapEs, okV, lookF, lookupF, putE, putS, mapPut, mapUpdateF, mapDel, deleteF, mapAll, rangeM, rangeF, overV, hitV, nextO, nextF, entryM, entryO, entryF, itOids, builtinF, capsOf, allocF, boxF, bytesL, bytesF, byteTy, strTy, convertF, makeFuncF, makeMapF, makeMapH, opF, reach, reachOf, AObj.live, closedB, nodupB, packO, packL, packX, backN, backG, backO, obL, backE, frzX, frzO, AV.vids, frzL, landC, sameObs, landR, touchF, D.cells, D.decEq, D.decEqs, AV.decEq, AV.decEqs, AObj.decEq, AV.oids0, AV.oids, AObj.oids, renG, renP, AV.ren0, AV.ren, envGet, envPut, envKeep, obGet, setEff, putV, St.put, stepS, keyChk, chkD, accD, Ex.block, AV.under, AObj.under, laysOf, roomFor, mkvO, frzG, szOk, killO, usedBy, tidyS, ghost, ghostE, normSt, resOf, allSome, one0, resultsF, finL, finishL, finish, endF, startEnv, chkC, backX, comeC, wpn_nil, wpn_seq, wpn_loop, wpn_seq_exit, wpn_loop_exit, wpn_seq_ret, wpn_loop_ret, wpn_block, wpn_post, wpk_skip, wpk_exit, wpk_ret, wpk_reg, wpk_seq, wpk_condT, wpk_block, wpk_loop, wpk_pre, wpk_post, wop_nil, wop_cons, wop_guard, St.know, envSet, cond_d, cond_bool, cond_int, cond_str, endE, endQ, freeB, disj, pushT, bitsW, int_beq, int_bne, eqS_def, tbE, fuelL_eq, ann0_lays, ann0_dd, ann0_ro, elsOf_dsl, elsOf_dnils, toNat_succ, nn_succ, pos_succ, one_succ, rng1, rng2, rng3, rng4, rng5, rng6, rng7, rng8, List.idxOf_cons, T3, T4, T5, T9, T22, T25, T26, T28, T29, T36, T41, T47, T56, T69, T74, T78, T85, T90, T98, CT, known_run, hm, hst, hg, hp, htp, htr, hlr, hlr2, hs1, hs2, hs3, a1, a2, a3, hw, hw2, ww]
    refine hloop _ _ ?_
    simp [TK.agg, constAV, evalAV, eqCells, EK.has, EK.hasAll, vecEls, elsR, AV.toD, toDs, AV.cells, AV.one, joinD, TyI.zeroD, OpR.of, binIntF, binStrF, AV.isPtr, ptrNil, slNil, mpNil, nilE, eqF, negF, posF, binF, pelF, pvLoad, pelSet, pvStore, boxLoad, epLoad, loadF, boxStore, storeF, fieldAddrF, fieldF, epOf, indexAddrF, byteF, indexF, mapLen, lenF, cutF, sliceF, isSl, slice3F, fillF, arrFs, buildF, partsX, landV, buildSliceF, roomB, appVec, appendF, mmFrom, mmF, max2', min2', clearVec, clearF, convF, unF, pickF, nilChkF, extF, ptrsOf, callF, makeSliceF, sameKs, sameD, kindIs, plainFs, keyOk, mapOb, mapEs, okV, lookF, lookupF, putE, putS, mapPut, mapUpdateF, mapDel, deleteF, mapAll, rangeM, rangeF, overV, hitV, nextO, nextF, entryM, entryO, entryF, itOids, builtinF, capsOf, allocF, boxF, bytesL, bytesF, byteTy, strTy, convertF, makeFuncF, makeMapF, makeMapH, opF, reach, reachOf, AObj.live, closedB, nodupB, packO, packL, packX, backN, backG, backO, obL, backE, frzX, frzO, AV.vids, frzL, landC, sameObs, landR, touchF, D.cells, D.decEq, D.decEqs, AV.decEq, AV.decEqs, AObj.decEq, AV.oids0, AV.oids, AObj.oids, renG, renP, AV.ren0, AV.ren, envGet, envPut, envKeep, obGet, setEff, putV, St.put, stepS, keyChk, chkD, accD, Ex.block, AV.under, AObj.under, laysOf, roomFor, mkvO, frzG, szOk, killO, usedBy, tidyS, ghost, ghostE, normSt, resOf, allSome, one0, resultsF, finL, finishL, finish, endF, startEnv, chkC, backX, comeC, wpn_nil, wpn_seq, wpn_loop, wpn_seq_exit, wpn_loop_exit, wpn_seq_ret, wpn_loop_ret, wpn_block, wpn_post, wpk_skip, wpk_exit, wpk_ret, wpk_reg, wpk_seq, wpk_condT, wpk_block, wpk_loop, wpk_pre, wpk_post, wop_nil, wop_cons, wop_guard, St.know, envSet, cond_d, cond_bool, cond_int, cond_str, endE, endQ, freeB, disj, pushT, bitsW, int_beq, int_bne, eqS_def, tbE, fuelL_eq, ann0_lays, ann0_dd, ann0_ro, elsOf_dsl, elsOf_dnils, toNat_succ, nn_succ, pos_succ, one_succ, rng1, rng2, rng3, rng4, rng5, rng6, rng7, rng8, List.idxOf_cons, T3, T4, T5, T9, T22, T25, T26, T28, T29, T36, T41, T47, T56, T69, T74, T78, T85, T90, T98, CT]
end Go.Proofs.YtdhbecdlablonaaV
