/- The law HeavyhitterAdds: the walk. -/
import Derived.Test.YtdhbecdlablonaaWc22p
import Derived.Test.YtdhbecdlablonaaWc22j
import Derived.Test.YtdhbecdlablonaaWe7a
set_option linter.unusedVariables false
set_option linter.unusedSimpArgs false
namespace Go.Proofs.YtdhbecdlablonaaV
open Go.RowKit
theorem sumC_app (c : Ctr) : ∀ l, sumC (l ++ [c]) = sumC l + c.2
  | [] => by simp [sumC]
  | p :: l => by simp only [List.cons_append, sumC, sumC_app c l]; omega
theorem chkL_ok {s : Sm} (h : okS s) : ∀ suf pre : List Ctr, pre ++ suf = s.cs → chkL s.tot pre (sumC pre) suf = .inr (sumC s.cs)
  | [], pre, e => by rw [List.append_nil] at e; rw [← e]; rfl
  | c :: suf, pre, e => by
    have hm : c ∈ s.cs := by rw [← e]; simp
    have h1 := h.nm c hm
    have h2 := h.pos c hm
    have h3 := h.le c hm
    have h4 := h.tot
    have hb : badK pre c = false := by
      unfold badK
      cases hq : pre.getLast? with
      | none => rfl
      | some p =>
        have hp : p ∈ pre := List.mem_of_getLast? hq
        have hs := h.srt
        rw [← e] at hs
        have := (List.pairwise_append.1 hs).2.2 p hp c (by simp)
        simp [lessS_asym this, lessS_ne' this]
    have hsum : sumC (pre ++ [c]) ≤ sumC s.cs := by
      have hp2 : ∀ l m : List Ctr, (∀ p ∈ m, 1 ≤ p.2) → sumC l ≤ sumC (l ++ m) := by
        intro l m hm
        induction l with
        | nil => simp [sumC]; exact (sum_le hm).1
        | cons p l ih => simp only [List.cons_append, sumC]; omega
      have := hp2 (pre ++ [c]) suf fun p hp => h.pos p (by rw [← e]; simp [hp])
      rw [show pre ++ [c] ++ suf = s.cs by simpa using e] at this
      exact this
    have h0 : 0 ≤ sumC pre := (sum_le fun p hp => h.pos p (by rw [← e]; simp [hp])).1
    have hl := h.lostLe
    have hw : IntKind.i64.wrap (sumC pre + c.2) = sumC (pre ++ [c]) := by rw [sumC_app] at hsum ⊢; exact wrap64 (by omega) (by omega)
    have n1 : ¬ c.2 < 1 := by omega
    have n2 : ¬ s.tot < c.2 := by omega
    simp only [chkL, h1, hb, n1, n2, hw]
    simp
    exact chkL_ok h suf (pre ++ [c]) (by simpa using e)
theorem chk_ok {s : Sm} (h : okS s) : chkS s = 0 := by
  have h1 := h.most
  have h2 := h.tot
  have h3 := h.lost
  have h4 := h.len
  have h5 := h.lostLe
  have h6 := h.sum
  have h7 := (sum_le h.pos).1
  have w1 : IntKind.i64.wrap (s.most + 1) = s.most + 1 := wrap64 (by omega) (by omega)
  have h8 : 0 ≤ s.lost * (s.most + 1) := Int.mul_nonneg h3 (by omega)
  have w2 : IntKind.i64.wrap (s.lost * (s.most + 1)) = s.lost * (s.most + 1) := wrap64 (by omega) (by omega)
  have w3 : IntKind.i64.wrap (sumC s.cs + s.lost * (s.most + 1)) = sumC s.cs + s.lost * (s.most + 1) := wrap64 (by omega) (by omega)
  have hL := chkL_ok h s.cs [] rfl
  simp only [sumC] at hL
  unfold chkS
  rw [if_neg (by omega), if_neg (by omega), if_neg (by omega), if_neg (by omega), if_neg (by omega), if_neg (by omega), hL]
  show chkT s (sumC s.cs) = 0
  unfold chkT
  rw [w1, w2, w3]
  rw [if_neg (by omega), if_neg (by omega)]
theorem and7 (a : Int) : ∃ b : Int, IntKind.i64.wrap (((a % 2 ^ IntKind.i64.bits).toNat &&& 7 % 2 ^ IntKind.i64.bits : Nat) : Int) = b ∧ 0 ≤ b ∧ b ≤ 7 := by
  have h : ((a % 2 ^ IntKind.i64.bits).toNat &&& 7 % 2 ^ IntKind.i64.bits) ≤ 7 := Nat.le_trans Nat.and_le_right (by decide)
  exact ⟨_, wrap64 (by omega) (by omega), by omega, by omega⟩
set_option maxRecDepth 100000 in
set_option maxHeartbeats 4000000 in
theorem law10_run (A : D) (l : List It) (hok : ∀ x ∈ l, x.ok) (hA : elsOf (.d A) = some (l.map It.enc)) (key : ByteArray) (w n : Int) (hwr : -9223372036854775808 ≤ w ∧ w < 9223372036854775808) : run CC 10 [.d A, .d (.str key), .d (.agg [.int .i64 w, .int .i64 n])] [] = some (.d (.bool true), []) := by
  refine run_code (s := s10 0) rfl rfl rfl (by kernel_rfl) ?_
  by_cases hk : (80 : Int) < key.size
  · simp [s10, TK.agg, constAV, evalAV, eqCells, EK.has, EK.hasAll, vecEls, elsR, AV.toD, toDs, AV.cells, AV.one, joinD, TyI.zeroD, OpR.of, binIntF, binStrF, AV.isPtr, ptrNil, slNil, mpNil, nilE, eqF, negF, posF, binF, pelF, pvLoad, pelSet, pvStore, boxLoad, epLoad, loadF, boxStore, storeF, fieldAddrF, fieldF, epOf, indexAddrF, byteF, indexF, mapLen, lenF, cutF, sliceF, isSl, slice3F, fillF, arrFs, buildF, partsX, landV, buildSliceF, roomB, appVec, appendF, mmFrom, mmF, max2', min2', clearVec, clearF, convF, unF, pickF, nilChkF, extF, ptrsOf, callF, makeSliceF, sameKs, sameD, kindIs, plainFs, keyOk, mapOb, mapEs, okV, lookF, lookupF, putE, putS, mapPut, mapUpdateF, mapDel, deleteF, mapAll, rangeM, rangeF, overV, hitV, nextO, nextF, entryM, entryO, entryF, itOids, builtinF, capsOf, allocF, boxF, bytesL, bytesF, byteTy, strTy, convertF, makeFuncF, makeMapF, makeMapH, opF, reach, reachOf, AObj.live, closedB, nodupB, packO, packL, packX, backN, backG, backO, obL, backE, frzX, frzO, AV.vids, frzL, landC, sameObs, landR, touchF, D.cells, D.decEq, D.decEqs, AV.decEq, AV.decEqs, AObj.decEq, AV.oids0, AV.oids, AObj.oids, renG, renP, AV.ren0, AV.ren, envGet, envPut, envKeep, obGet, setEff, putV, St.put, stepS, keyChk, chkD, accD, Ex.block, AV.under, AObj.under, laysOf, roomFor, mkvO, frzG, szOk, killO, usedBy, tidyS, ghost, ghostE, normSt, resOf, allSome, one0, resultsF, finL, finishL, finish, endF, startEnv, chkC, backX, comeC, wpn_nil, wpn_seq, wpn_loop, wpn_seq_exit, wpn_loop_exit, wpn_seq_ret, wpn_loop_ret, wpn_block, wpn_post, wpk_skip, wpk_exit, wpk_ret, wpk_reg, wpk_seq, wpk_condT, wpk_block, wpk_loop, wpk_pre, wpk_post, wop_nil, wop_cons, wop_guard, St.know, envSet, cond_d, cond_bool, cond_int, cond_str, endE, endQ, freeB, disj, pushT, bitsW, int_beq, int_bne, eqS_def, tbE, fuelL_eq, ann0_lays, ann0_dd, ann0_ro, elsOf_dsl, elsOf_dnils, toNat_succ, nn_succ, pos_succ, one_succ, rng1, rng2, rng3, rng4, rng5, rng6, rng7, rng8, List.idxOf_cons, T3, T4, T5, T9, T22, T25, T26, T28, T29, T36, T41, T47, T56, T69, T74, T78, T85, T90, T98, CT, known_run, hk]
  obtain ⟨b, hb, hb1, hb2⟩ := and7 n
  have w1 : IntKind.i64.wrap (1 + b) = 1 + b := wrap64 (by omega) (by omega)
  obtain ⟨X, hX, hst⟩ := stream_run (1 + b) A l hok hA
  obtain ⟨hs, hmo, _, htt, _⟩ := str_ok (1 + b) (by omega) l
  obtain ⟨a1, a2, a3⟩ := slF hX
  simp only [AV.one, AV.cells, D.cells] at a1 a2 a3
  have hn := isName_run key
  generalize strS (1 + b) l = s at *
  have ht0 := hs.tot
  have hbad := fun e => addP_bad s X hX key w e
  have heq0 := equal_run ⟨0, 0, 0, []⟩ ⟨0, 0, 0, []⟩ .nils .nils (by simp) rfl rfl
  rw [decide_eq_true rfl] at heq0
  by_cases h1 : isName key = false
  · have hbad := hbad 11 (by rw [if_pos h1]) (by decide)
    simp only [smD] at hbad hst heq0
    simp [s10, TK.agg, constAV, evalAV, eqCells, EK.has, EK.hasAll, vecEls, elsR, AV.toD, toDs, AV.cells, AV.one, joinD, TyI.zeroD, OpR.of, binIntF, binStrF, AV.isPtr, ptrNil, slNil, mpNil, nilE, eqF, negF, posF, binF, pelF, pvLoad, pelSet, pvStore, boxLoad, epLoad, loadF, boxStore, storeF, fieldAddrF, fieldF, epOf, indexAddrF, byteF, indexF, mapLen, lenF, cutF, sliceF, isSl, slice3F, fillF, arrFs, buildF, partsX, landV, buildSliceF, roomB, appVec, appendF, mmFrom, mmF, max2', min2', clearVec, clearF, convF, unF, pickF, nilChkF, extF, ptrsOf, callF, makeSliceF, sameKs, sameD, kindIs, plainFs, keyOk, mapOb, mapEs, okV, lookF, lookupF, putE, putS, mapPut, mapUpdateF, mapDel, deleteF, mapAll, rangeM, rangeF, overV, hitV, nextO, nextF, entryM, entryO, entryF, itOids, builtinF, capsOf, allocF, boxF, bytesL, bytesF, byteTy, strTy, convertF, makeFuncF, makeMapF, makeMapH, opF, reach, reachOf, AObj.live, closedB, nodupB, packO, packL, packX, backN, backG, backO, obL, backE, frzX, frzO, AV.vids, frzL, landC, sameObs, landR, touchF, D.cells, D.decEq, D.decEqs, AV.decEq, AV.decEqs, AObj.decEq, AV.oids0, AV.oids, AObj.oids, renG, renP, AV.ren0, AV.ren, envGet, envPut, envKeep, obGet, setEff, putV, St.put, stepS, keyChk, chkD, accD, Ex.block, AV.under, AObj.under, laysOf, roomFor, mkvO, frzG, szOk, killO, usedBy, tidyS, ghost, ghostE, normSt, resOf, allSome, one0, resultsF, finL, finishL, finish, endF, startEnv, chkC, backX, comeC, wpn_nil, wpn_seq, wpn_loop, wpn_seq_exit, wpn_loop_exit, wpn_seq_ret, wpn_loop_ret, wpn_block, wpn_post, wpk_skip, wpk_exit, wpk_ret, wpk_reg, wpk_seq, wpk_condT, wpk_block, wpk_loop, wpk_pre, wpk_post, wop_nil, wop_cons, wop_guard, St.know, envSet, cond_d, cond_bool, cond_int, cond_str, endE, endQ, freeB, disj, pushT, bitsW, int_beq, int_bne, eqS_def, tbE, fuelL_eq, ann0_lays, ann0_dd, ann0_ro, elsOf_dsl, elsOf_dnils, toNat_succ, nn_succ, pos_succ, one_succ, rng1, rng2, rng3, rng4, rng5, rng6, rng7, rng8, List.idxOf_cons, T3, T4, T5, T9, T22, T25, T26, T28, T29, T36, T41, T47, T56, T69, T74, T78, T85, T90, T98, CT, known_run, hk, hb, w1, hst, hbad, a1, a2, a3, hn, h1, heq0]
  by_cases h2 : w < 1
  · have hbad := hbad 2 (by rw [if_neg h1, if_pos h2]) (by decide)
    replace h1 : isName key = true := by simpa using h1
    simp only [smD] at hbad hst heq0
    simp [s10, TK.agg, constAV, evalAV, eqCells, EK.has, EK.hasAll, vecEls, elsR, AV.toD, toDs, AV.cells, AV.one, joinD, TyI.zeroD, OpR.of, binIntF, binStrF, AV.isPtr, ptrNil, slNil, mpNil, nilE, eqF, negF, posF, binF, pelF, pvLoad, pelSet, pvStore, boxLoad, epLoad, loadF, boxStore, storeF, fieldAddrF, fieldF, epOf, indexAddrF, byteF, indexF, mapLen, lenF, cutF, sliceF, isSl, slice3F, fillF, arrFs, buildF, partsX, landV, buildSliceF, roomB, appVec, appendF, mmFrom, mmF, max2', min2', clearVec, clearF, convF, unF, pickF, nilChkF, extF, ptrsOf, callF, makeSliceF, sameKs, sameD, kindIs, plainFs, keyOk, mapOb, mapEs, okV, lookF, lookupF, putE, putS, mapPut, mapUpdateF, mapDel, deleteF, mapAll, rangeM, rangeF, overV, hitV, nextO, nextF, entryM, entryO, entryF, itOids, builtinF, capsOf, allocF, boxF, bytesL, bytesF, byteTy, strTy, convertF, makeFuncF, makeMapF, makeMapH, opF, reach, reachOf, AObj.live, closedB, nodupB, packO, packL, packX, backN, backG, backO, obL, backE, frzX, frzO, AV.vids, frzL, landC, sameObs, landR, touchF, D.cells, D.decEq, D.decEqs, AV.decEq, AV.decEqs, AObj.decEq, AV.oids0, AV.oids, AObj.oids, renG, renP, AV.ren0, AV.ren, envGet, envPut, envKeep, obGet, setEff, putV, St.put, stepS, keyChk, chkD, accD, Ex.block, AV.under, AObj.under, laysOf, roomFor, mkvO, frzG, szOk, killO, usedBy, tidyS, ghost, ghostE, normSt, resOf, allSome, one0, resultsF, finL, finishL, finish, endF, startEnv, chkC, backX, comeC, wpn_nil, wpn_seq, wpn_loop, wpn_seq_exit, wpn_loop_exit, wpn_seq_ret, wpn_loop_ret, wpn_block, wpn_post, wpk_skip, wpk_exit, wpk_ret, wpk_reg, wpk_seq, wpk_condT, wpk_block, wpk_loop, wpk_pre, wpk_post, wop_nil, wop_cons, wop_guard, St.know, envSet, cond_d, cond_bool, cond_int, cond_str, endE, endQ, freeB, disj, pushT, bitsW, int_beq, int_bne, eqS_def, tbE, fuelL_eq, ann0_lays, ann0_dd, ann0_ro, elsOf_dsl, elsOf_dnils, toNat_succ, nn_succ, pos_succ, one_succ, rng1, rng2, rng3, rng4, rng5, rng6, rng7, rng8, List.idxOf_cons, T3, T4, T5, T9, T22, T25, T26, T28, T29, T36, T41, T47, T56, T69, T74, T78, T85, T90, T98, CT, known_run, hk, hb, w1, hst, hbad, a1, a2, a3, hn, h1, h2, heq0]
  by_cases h3 : 1099511627776 < w
  · have hbad := hbad 2 (by rw [if_neg h1, if_neg h2, if_pos h3]) (by decide)
    replace h1 : isName key = true := by simpa using h1
    simp only [smD] at hbad hst heq0
    simp [s10, TK.agg, constAV, evalAV, eqCells, EK.has, EK.hasAll, vecEls, elsR, AV.toD, toDs, AV.cells, AV.one, joinD, TyI.zeroD, OpR.of, binIntF, binStrF, AV.isPtr, ptrNil, slNil, mpNil, nilE, eqF, negF, posF, binF, pelF, pvLoad, pelSet, pvStore, boxLoad, epLoad, loadF, boxStore, storeF, fieldAddrF, fieldF, epOf, indexAddrF, byteF, indexF, mapLen, lenF, cutF, sliceF, isSl, slice3F, fillF, arrFs, buildF, partsX, landV, buildSliceF, roomB, appVec, appendF, mmFrom, mmF, max2', min2', clearVec, clearF, convF, unF, pickF, nilChkF, extF, ptrsOf, callF, makeSliceF, sameKs, sameD, kindIs, plainFs, keyOk, mapOb, mapEs, okV, lookF, lookupF, putE, putS, mapPut, mapUpdateF, mapDel, deleteF, mapAll, rangeM, rangeF, overV, hitV, nextO, nextF, entryM, entryO, entryF, itOids, builtinF, capsOf, allocF, boxF, bytesL, bytesF, byteTy, strTy, convertF, makeFuncF, makeMapF, makeMapH, opF, reach, reachOf, AObj.live, closedB, nodupB, packO, packL, packX, backN, backG, backO, obL, backE, frzX, frzO, AV.vids, frzL, landC, sameObs, landR, touchF, D.cells, D.decEq, D.decEqs, AV.decEq, AV.decEqs, AObj.decEq, AV.oids0, AV.oids, AObj.oids, renG, renP, AV.ren0, AV.ren, envGet, envPut, envKeep, obGet, setEff, putV, St.put, stepS, keyChk, chkD, accD, Ex.block, AV.under, AObj.under, laysOf, roomFor, mkvO, frzG, szOk, killO, usedBy, tidyS, ghost, ghostE, normSt, resOf, allSome, one0, resultsF, finL, finishL, finish, endF, startEnv, chkC, backX, comeC, wpn_nil, wpn_seq, wpn_loop, wpn_seq_exit, wpn_loop_exit, wpn_seq_ret, wpn_loop_ret, wpn_block, wpn_post, wpk_skip, wpk_exit, wpk_ret, wpk_reg, wpk_seq, wpk_condT, wpk_block, wpk_loop, wpk_pre, wpk_post, wop_nil, wop_cons, wop_guard, St.know, envSet, cond_d, cond_bool, cond_int, cond_str, endE, endQ, freeB, disj, pushT, bitsW, int_beq, int_bne, eqS_def, tbE, fuelL_eq, ann0_lays, ann0_dd, ann0_ro, elsOf_dsl, elsOf_dnils, toNat_succ, nn_succ, pos_succ, one_succ, rng1, rng2, rng3, rng4, rng5, rng6, rng7, rng8, List.idxOf_cons, T3, T4, T5, T9, T22, T25, T26, T28, T29, T36, T41, T47, T56, T69, T74, T78, T85, T90, T98, CT, known_run, hk, hb, w1, hst, hbad, a1, a2, a3, hn, h1, h2, h3, heq0]
  replace h1 : isName key = true := by simpa using h1
  have hadd := addP_run hs (by omega) X hX h1 (by omega : 1 ≤ w) (by omega) (by omega)
  have hadm := add_run s X hs.short hX key w
  obtain ⟨hs2, _⟩ := add_ok hs h1 (by omega : 1 ≤ w) (by omega)
  generalize addS s key w = t at *
  have heq := equal_run t t (.sl (csD t.cs)) (.sl (csD t.cs)) (by have := hs2.short; omega) rfl rfl
  rw [decide_eq_true rfl] at heq
  have hchk := checkP_run t (.sl (csD t.cs)) hs2.short rfl
  rw [chk_ok hs2] at hchk
  simp only [smD] at hst hadd hadm heq hchk
  simp [s10, TK.agg, constAV, evalAV, eqCells, EK.has, EK.hasAll, vecEls, elsR, AV.toD, toDs, AV.cells, AV.one, joinD, TyI.zeroD, OpR.of, binIntF, binStrF, AV.isPtr, ptrNil, slNil, mpNil, nilE, eqF, negF, posF, binF, pelF, pvLoad, pelSet, pvStore, boxLoad, epLoad, loadF, boxStore, storeF, fieldAddrF, fieldF, epOf, indexAddrF, byteF, indexF, mapLen, lenF, cutF, sliceF, isSl, slice3F, fillF, arrFs, buildF, partsX, landV, buildSliceF, roomB, appVec, appendF, mmFrom, mmF, max2', min2', clearVec, clearF, convF, unF, pickF, nilChkF, extF, ptrsOf, callF, makeSliceF, sameKs, sameD, kindIs, plainFs, keyOk, mapOb, mapEs, okV, lookF, lookupF, putE, putS, mapPut, mapUpdateF, mapDel, deleteF, mapAll, rangeM, rangeF, overV, hitV, nextO, nextF, entryM, entryO, entryF, itOids, builtinF, capsOf, allocF, boxF, bytesL, bytesF, byteTy, strTy, convertF, makeFuncF, makeMapF, makeMapH, opF, reach, reachOf, AObj.live, closedB, nodupB, packO, packL, packX, backN, backG, backO, obL, backE, frzX, frzO, AV.vids, frzL, landC, sameObs, landR, touchF, D.cells, D.decEq, D.decEqs, AV.decEq, AV.decEqs, AObj.decEq, AV.oids0, AV.oids, AObj.oids, renG, renP, AV.ren0, AV.ren, envGet, envPut, envKeep, obGet, setEff, putV, St.put, stepS, keyChk, chkD, accD, Ex.block, AV.under, AObj.under, laysOf, roomFor, mkvO, frzG, szOk, killO, usedBy, tidyS, ghost, ghostE, normSt, resOf, allSome, one0, resultsF, finL, finishL, finish, endF, startEnv, chkC, backX, comeC, wpn_nil, wpn_seq, wpn_loop, wpn_seq_exit, wpn_loop_exit, wpn_seq_ret, wpn_loop_ret, wpn_block, wpn_post, wpk_skip, wpk_exit, wpk_ret, wpk_reg, wpk_seq, wpk_condT, wpk_block, wpk_loop, wpk_pre, wpk_post, wop_nil, wop_cons, wop_guard, St.know, envSet, cond_d, cond_bool, cond_int, cond_str, endE, endQ, freeB, disj, pushT, bitsW, int_beq, int_bne, eqS_def, tbE, fuelL_eq, ann0_lays, ann0_dd, ann0_ro, elsOf_dsl, elsOf_dnils, toNat_succ, nn_succ, pos_succ, one_succ, rng1, rng2, rng3, rng4, rng5, rng6, rng7, rng8, List.idxOf_cons, T3, T4, T5, T9, T22, T25, T26, T28, T29, T36, T41, T47, T56, T69, T74, T78, T85, T90, T98, CT, known_run, hk, hb, w1, hst, hadd, hadm, heq, hchk, a1, a2, a3, hn, h1, h2, h3]
end Go.Proofs.YtdhbecdlablonaaV
