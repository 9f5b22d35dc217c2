/- The law HeavyhitterStreams: the walk. -/
import Derived.Test.YtdhbecdlablonaaWe10
set_option linter.unusedVariables false
set_option linter.unusedSimpArgs false
namespace Go.Proofs.YtdhbecdlablonaaV
open Go.RowKit
theorem mostI_8 (n : Int) : 1 ≤ mostI n ∧ mostI n ≤ 8 := by unfold mostI; omega
theorem sumW_app (x : It) : ∀ l, sumW (l ++ [x]) = sumW l + wtI x.w
  | [] => by simp [sumW]
  | y :: l => by simp only [List.cons_append, sumW, sumW_app x l]; omega
def stX (n : Int) (p : List It) : D := if p = [] then .nils else .sl (csD (stS (emS n) p).cs)
theorem stX_els (n : Int) (p : List It) : elsOf (.d (stX n p)) = some (csD (stS (emS n) p).cs) := by
  unfold stX
  split
  · rename_i h; subst h; rfl
  · rfl
theorem st_ok' {n : Int} (hn : 1 ≤ n ∧ n ≤ 256) {l pre suf : List It} (h : pre ++ suf = l.take 60) : okS (stS (emS n) pre) ∧ (stS (emS n) pre).most = n ∧ (stS (emS n) pre).tot = sumW pre ∧ (stS (emS n) pre).tot ≤ 1920 ∧ pre.length ≤ 60 := by
  have hlen := lenT h
  have hs := sumW_le pre
  obtain ⟨a1, a2, a3, _⟩ := st_ok pre (emS n) (em_ok hn) (by simp [emS]; omega)
  have e1 : (emS n).tot = 0 := rfl
  exact ⟨a1, a2, by omega, by omega, by omega⟩
theorem key_run0 (k : Nat) (h : k < 26) : run CC 20 [.d (.agg [.int .u8 k, .int .u8 0])] [] = some (.d (.str (keyB k)), []) := key_run ⟨k, 0⟩ ⟨⟨by simp only; omega, by simp only; omega⟩, by simp, by simp⟩
set_option maxRecDepth 100000 in
set_option maxHeartbeats 4000000 in
theorem loop4_2 (n : Int) (hn : 0 ≤ n ∧ n < 256) (A : D) (l : List It) (hok : ∀ x ∈ l, x.ok) (hA : elsOf (.d A) = some (l.map It.enc)) (s : Sm) (X : D) (hX : elsOf (.d X) = some (csD s.cs)) (hs : okS s) (hm : s.most = mostI n) (hb : ∀ q, cntC q s.cs ≤ exC q (l.take 60) ∧ exC q (l.take 60) ≤ cntC q s.cs + s.lost) (ks : List Fr) (K : Ex → St → Prop)
    (hnext : wpn CC .norm ⟨[], [.dead]⟩ ks K) :
    wlp CC (s4_2 0) ⟨[(0, .d (.int .u8 n)), (1, .d A), (5, .ptr 0 0), (7, .d (.int .i64 s.tot)), (9, .d (.int .i64 0))], [.box [.d (.int .i64 s.most), .d (.int .i64 s.tot), .d (.int .i64 s.lost), .d X]]⟩ (.block 2 :: .post (.tidy [] 0 1) :: .post (.tidy [] 0 1) :: ks) K := by
  obtain ⟨a1, a2, a3⟩ := slF hX
  simp only [AV.one, AV.cells, D.cells] at a1 a2 a3
  refine wlp_inv (S := fun k : Nat => ⟨[(0, .d (.int .u8 n)), (1, .d A), (5, .ptr 0 0), (7, .d (.int .i64 s.tot)), (9, .d (.int .i64 k))], [.box [.d (.int .i64 s.most), .d (.int .i64 s.tot), .d (.int .i64 s.lost), .d X]]⟩) (m := fun k => 26 - k) (Inv := fun k => k ≤ 26) ?_ 0 (by omega)
  rintro k hk ih
  rw [e4_2]
  by_cases h : k < 26
  · have q1 : (k : Int) < 26 := by omega
    have w1 : IntKind.u8.wrap (k : Int) = k := wrap_u8 (by omega) (by omega)
    have w2 : IntKind.i64.wrap ((k : Int) + 1) = (k : Int) + 1 := wrap64 (by omega) (by omega)
    have hkey := key_run0 k h
    have hex := exact_run A l (keyB k) hok hA
    have hbo := bounds_run s X hs.short hs.srt hX hs.small (keyB k)
    rw [hs.hi] at hbo
    have hmr := most_run n hn
    rw [← hm] at hmr
    obtain ⟨b1, b2⟩ := hb (keyB k)
    have b3 := exC_le (keyB k) (l.take 60)
    have b4 : ((l.take 60).length : Int) ≤ 60 := by simp; omega
    have b5 := hs.most
    have b6 := (cnt_pos (k := keyB k) hs.pos).1
    have b7 := hs.sum
    have b8 := (sum_le hs.pos).1
    have b9 := mostI_8 n
    have w3 : IntKind.i64.wrap (s.most + 1) = s.most + 1 := wrap64 (by omega) (by omega)
    have m0 : 0 ≤ exC (keyB k) (l.take 60) * (s.most + 1) := Int.mul_nonneg b3.1 (by omega)
    have m1 : exC (keyB k) (l.take 60) * (s.most + 1) ≤ 1920 * 9 := Int.mul_le_mul (by omega) (by omega) (by omega) (by omega)
    have w4 : IntKind.i64.wrap (exC (keyB k) (l.take 60) * (s.most + 1)) = exC (keyB k) (l.take 60) * (s.most + 1) := wrap64 (by omega) (by omega)
    have c3 : cntC (keyB k) s.cs = 0 → ¬ s.tot < exC (keyB k) (l.take 60) * (s.most + 1) := fun e => by
      have : exC (keyB k) (l.take 60) * (s.most + 1) ≤ s.lost * (s.most + 1) := Int.mul_le_mul_of_nonneg_right (by omega) (by omega)
      omega
    have ih := ih (k + 1) (by omega) (by omega)
    simp at ih
    generalize exC (keyB k) (l.take 60) = ex at *
    generalize cntC (keyB k) s.cs = ct at *
    have c1 : ¬ ex < ct := by omega
    have c2 : ¬ ct + s.lost < ex := by omega
    simp only [smD] at hbo
    by_cases e : ct = 0
    · have c3 := c3 e
      simp [c4_2, TK.agg, constAV, evalAV, eqCells, EK.has, EK.hasAll, vecEls, elsR, AV.toD, toDs, AV.cells, AV.one, joinD, TyI.zeroD, OpR.of, binIntF, binStrF, AV.isPtr, ptrNil, slNil, mpNil, nilE, eqF, negF, posF, binF, pelF, pvLoad, pelSet, pvStore, boxLoad, epLoad, loadF, boxStore, storeF, fieldAddrF, fieldF, epOf, indexAddrF, byteF, indexF, mapLen, lenF, cutF, sliceF, isSl, slice3F, fillF, arrFs, buildF, partsX, landV, buildSliceF, roomB, appVec, appendF, mmFrom, mmF, max2', min2', clearVec, clearF, convF, unF, pickF, nilChkF, extF, ptrsOf, callF, makeSliceF, sameKs, sameD, kindIs, plainFs, keyOk, mapOb, mapEs, okV, lookF, lookupF, putE, putS, mapPut, mapUpdateF, mapDel, deleteF, mapAll, rangeM, rangeF, overV, hitV, nextO, nextF, entryM, entryO, entryF, itOids, builtinF, capsOf, allocF, boxF, bytesL, bytesF, byteTy, strTy, convertF, makeFuncF, makeMapF, makeMapH, opF, reach, reachOf, AObj.live, closedB, nodupB, packO, packL, packX, backN, backG, backO, obL, backE, frzX, frzO, AV.vids, frzL, landC, sameObs, landR, touchF, D.cells, D.decEq, D.decEqs, AV.decEq, AV.decEqs, AObj.decEq, AV.oids0, AV.oids, AObj.oids, renG, renP, AV.ren0, AV.ren, envGet, envPut, envKeep, obGet, setEff, putV, St.put, stepS, keyChk, chkD, accD, Ex.block, AV.under, AObj.under, laysOf, roomFor, mkvO, frzG, szOk, killO, usedBy, tidyS, ghost, ghostE, normSt, resOf, allSome, one0, resultsF, finL, finishL, finish, endF, startEnv, chkC, backX, comeC, wpn_nil, wpn_seq, wpn_loop, wpn_seq_exit, wpn_loop_exit, wpn_seq_ret, wpn_loop_ret, wpn_block, wpn_post, wpk_skip, wpk_exit, wpk_ret, wpk_reg, wpk_seq, wpk_condT, wpk_block, wpk_loop, wpk_pre, wpk_post, wop_nil, wop_cons, wop_guard, St.know, envSet, cond_d, cond_bool, cond_int, cond_str, endE, endQ, freeB, disj, pushT, bitsW, int_beq, int_bne, eqS_def, tbE, fuelL_eq, ann0_lays, ann0_dd, ann0_ro, elsOf_dsl, elsOf_dnils, toNat_succ, nn_succ, pos_succ, one_succ, rng1, rng2, rng3, rng4, rng5, rng6, rng7, rng8, List.idxOf_cons, T3, T4, T5, T9, T22, T25, T26, T28, T29, T36, T41, T47, T56, T69, T74, T78, T85, T90, T98, CT, q1, w1, w2, hkey, hex, hbo, hmr, w3, w4, c1, c2, c3, a1, a2, a3]
      exact ih
    · simp [c4_2, TK.agg, constAV, evalAV, eqCells, EK.has, EK.hasAll, vecEls, elsR, AV.toD, toDs, AV.cells, AV.one, joinD, TyI.zeroD, OpR.of, binIntF, binStrF, AV.isPtr, ptrNil, slNil, mpNil, nilE, eqF, negF, posF, binF, pelF, pvLoad, pelSet, pvStore, boxLoad, epLoad, loadF, boxStore, storeF, fieldAddrF, fieldF, epOf, indexAddrF, byteF, indexF, mapLen, lenF, cutF, sliceF, isSl, slice3F, fillF, arrFs, buildF, partsX, landV, buildSliceF, roomB, appVec, appendF, mmFrom, mmF, max2', min2', clearVec, clearF, convF, unF, pickF, nilChkF, extF, ptrsOf, callF, makeSliceF, sameKs, sameD, kindIs, plainFs, keyOk, mapOb, mapEs, okV, lookF, lookupF, putE, putS, mapPut, mapUpdateF, mapDel, deleteF, mapAll, rangeM, rangeF, overV, hitV, nextO, nextF, entryM, entryO, entryF, itOids, builtinF, capsOf, allocF, boxF, bytesL, bytesF, byteTy, strTy, convertF, makeFuncF, makeMapF, makeMapH, opF, reach, reachOf, AObj.live, closedB, nodupB, packO, packL, packX, backN, backG, backO, obL, backE, frzX, frzO, AV.vids, frzL, landC, sameObs, landR, touchF, D.cells, D.decEq, D.decEqs, AV.decEq, AV.decEqs, AObj.decEq, AV.oids0, AV.oids, AObj.oids, renG, renP, AV.ren0, AV.ren, envGet, envPut, envKeep, obGet, setEff, putV, St.put, stepS, keyChk, chkD, accD, Ex.block, AV.under, AObj.under, laysOf, roomFor, mkvO, frzG, szOk, killO, usedBy, tidyS, ghost, ghostE, normSt, resOf, allSome, one0, resultsF, finL, finishL, finish, endF, startEnv, chkC, backX, comeC, wpn_nil, wpn_seq, wpn_loop, wpn_seq_exit, wpn_loop_exit, wpn_seq_ret, wpn_loop_ret, wpn_block, wpn_post, wpk_skip, wpk_exit, wpk_ret, wpk_reg, wpk_seq, wpk_condT, wpk_block, wpk_loop, wpk_pre, wpk_post, wop_nil, wop_cons, wop_guard, St.know, envSet, cond_d, cond_bool, cond_int, cond_str, endE, endQ, freeB, disj, pushT, bitsW, int_beq, int_bne, eqS_def, tbE, fuelL_eq, ann0_lays, ann0_dd, ann0_ro, elsOf_dsl, elsOf_dnils, toNat_succ, nn_succ, pos_succ, one_succ, rng1, rng2, rng3, rng4, rng5, rng6, rng7, rng8, List.idxOf_cons, T3, T4, T5, T9, T22, T25, T26, T28, T29, T36, T41, T47, T56, T69, T74, T78, T85, T90, T98, CT, q1, w1, w2, hkey, hex, hbo, hmr, w3, w4, c1, c2, e, a1, a2, a3]
      exact ih
  · have q1 : ¬ (k : Int) < 26 := by omega
    simp [c4_2, TK.agg, constAV, evalAV, eqCells, EK.has, EK.hasAll, vecEls, elsR, AV.toD, toDs, AV.cells, AV.one, joinD, TyI.zeroD, OpR.of, binIntF, binStrF, AV.isPtr, ptrNil, slNil, mpNil, nilE, eqF, negF, posF, binF, pelF, pvLoad, pelSet, pvStore, boxLoad, epLoad, loadF, boxStore, storeF, fieldAddrF, fieldF, epOf, indexAddrF, byteF, indexF, mapLen, lenF, cutF, sliceF, isSl, slice3F, fillF, arrFs, buildF, partsX, landV, buildSliceF, roomB, appVec, appendF, mmFrom, mmF, max2', min2', clearVec, clearF, convF, unF, pickF, nilChkF, extF, ptrsOf, callF, makeSliceF, sameKs, sameD, kindIs, plainFs, keyOk, mapOb, mapEs, okV, lookF, lookupF, putE, putS, mapPut, mapUpdateF, mapDel, deleteF, mapAll, rangeM, rangeF, overV, hitV, nextO, nextF, entryM, entryO, entryF, itOids, builtinF, capsOf, allocF, boxF, bytesL, bytesF, byteTy, strTy, convertF, makeFuncF, makeMapF, makeMapH, opF, reach, reachOf, AObj.live, closedB, nodupB, packO, packL, packX, backN, backG, backO, obL, backE, frzX, frzO, AV.vids, frzL, landC, sameObs, landR, touchF, D.cells, D.decEq, D.decEqs, AV.decEq, AV.decEqs, AObj.decEq, AV.oids0, AV.oids, AObj.oids, renG, renP, AV.ren0, AV.ren, envGet, envPut, envKeep, obGet, setEff, putV, St.put, stepS, keyChk, chkD, accD, Ex.block, AV.under, AObj.under, laysOf, roomFor, mkvO, frzG, szOk, killO, usedBy, tidyS, ghost, ghostE, normSt, resOf, allSome, one0, resultsF, finL, finishL, finish, endF, startEnv, chkC, backX, comeC, wpn_nil, wpn_seq, wpn_loop, wpn_seq_exit, wpn_loop_exit, wpn_seq_ret, wpn_loop_ret, wpn_block, wpn_post, wpk_skip, wpk_exit, wpk_ret, wpk_reg, wpk_seq, wpk_condT, wpk_block, wpk_loop, wpk_pre, wpk_post, wop_nil, wop_cons, wop_guard, St.know, envSet, cond_d, cond_bool, cond_int, cond_str, endE, endQ, freeB, disj, pushT, bitsW, int_beq, int_bne, eqS_def, tbE, fuelL_eq, ann0_lays, ann0_dd, ann0_ro, elsOf_dsl, elsOf_dnils, toNat_succ, nn_succ, pos_succ, one_succ, rng1, rng2, rng3, rng4, rng5, rng6, rng7, rng8, List.idxOf_cons, T3, T4, T5, T9, T22, T25, T26, T28, T29, T36, T41, T47, T56, T69, T74, T78, T85, T90, T98, CT, q1, a1, a2, a3]
    exact hnext
set_option maxRecDepth 100000 in
set_option maxHeartbeats 4000000 in
theorem law4_run (n : Int) (hn : 0 ≤ n ∧ n < 256) (A : D) (l : List It) (hok : ∀ x ∈ l, x.ok) (hA : elsOf (.d A) = some (l.map It.enc)) : run CC 4 [.d (.int .u8 n), .d A] [] = some (.d (.bool true), []) := by
  refine run_code (s := s4 0) rfl rfl rfl (by kernel_rfl) ?_
  have hm := most_run n hn
  have hm8 := mostI_8 n
  have hmo := mostI_ok n
  have hnew := new_run (mostI n) hmo
  simp only [smD] at hnew
  simp [s4, TK.agg, constAV, evalAV, eqCells, EK.has, EK.hasAll, vecEls, elsR, AV.toD, toDs, AV.cells, AV.one, joinD, TyI.zeroD, OpR.of, binIntF, binStrF, AV.isPtr, ptrNil, slNil, mpNil, nilE, eqF, negF, posF, binF, pelF, pvLoad, pelSet, pvStore, boxLoad, epLoad, loadF, boxStore, storeF, fieldAddrF, fieldF, epOf, indexAddrF, byteF, indexF, mapLen, lenF, cutF, sliceF, isSl, slice3F, fillF, arrFs, buildF, partsX, landV, buildSliceF, roomB, appVec, appendF, mmFrom, mmF, max2', min2', clearVec, clearF, convF, unF, pickF, nilChkF, extF, ptrsOf, callF, makeSliceF, sameKs, sameD, kindIs, plainFs, keyOk, mapOb, mapEs, okV, lookF, lookupF, putE, putS, mapPut, mapUpdateF, mapDel, deleteF, mapAll, rangeM, rangeF, overV, hitV, nextO, nextF, entryM, entryO, entryF, itOids, builtinF, capsOf, allocF, boxF, bytesL, bytesF, byteTy, strTy, convertF, makeFuncF, makeMapF, makeMapH, opF, reach, reachOf, AObj.live, closedB, nodupB, packO, packL, packX, backN, backG, backO, obL, backE, frzX, frzO, AV.vids, frzL, landC, sameObs, landR, touchF, D.cells, D.decEq, D.decEqs, AV.decEq, AV.decEqs, AObj.decEq, AV.oids0, AV.oids, AObj.oids, renG, renP, AV.ren0, AV.ren, envGet, envPut, envKeep, obGet, setEff, putV, St.put, stepS, keyChk, chkD, accD, Ex.block, AV.under, AObj.under, laysOf, roomFor, mkvO, frzG, szOk, killO, usedBy, tidyS, ghost, ghostE, normSt, resOf, allSome, one0, resultsF, finL, finishL, finish, endF, startEnv, chkC, backX, comeC, wpn_nil, wpn_seq, wpn_loop, wpn_seq_exit, wpn_loop_exit, wpn_seq_ret, wpn_loop_ret, wpn_block, wpn_post, wpk_skip, wpk_exit, wpk_ret, wpk_reg, wpk_seq, wpk_condT, wpk_block, wpk_loop, wpk_pre, wpk_post, wop_nil, wop_cons, wop_guard, St.know, envSet, cond_d, cond_bool, cond_int, cond_str, endE, endQ, freeB, disj, pushT, bitsW, int_beq, int_bne, eqS_def, tbE, fuelL_eq, ann0_lays, ann0_dd, ann0_ro, elsOf_dsl, elsOf_dnils, toNat_succ, nn_succ, pos_succ, one_succ, rng1, rng2, rng3, rng4, rng5, rng6, rng7, rng8, List.idxOf_cons, T3, T4, T5, T9, T22, T25, T26, T28, T29, T36, T41, T47, T56, T69, T74, T78, T85, T90, T98, CT, known_run, hm, hnew]
  refine wlp_inv (S := fun p : List It × List It => ⟨[(0, .d (.int .u8 n)), (1, .d A), (5, .ptr 0 0), (6, .d (.int .i64 0)), (7, .d (.int .i64 (sumW p.1))), (8, .d (.int .i64 p.1.length))], [.box [.d (.int .i64 (stS (emS (mostI n)) p.1).most), .d (.int .i64 (stS (emS (mostI n)) p.1).tot), .d (.int .i64 (stS (emS (mostI n)) p.1).lost), .d (stX (mostI n) p.1)]]⟩) (m := fun p => p.2.length) (Inv := fun p => p.1 ++ p.2 = l.take 60) ?_ ([], l.take 60) rfl
  rintro ⟨pre, suf⟩ hps ih
  rw [e4_1]
  simp only at hps ⊢
  obtain ⟨hs, hmost, htot, ht19, hl60⟩ := st_ok' hmo hps
  have hX := stX_els (mostI n) pre
  obtain ⟨a1, a2, a3⟩ := slF hX
  simp only [AV.one, AV.cells, D.cells] at a1 a2 a3
  cases suf with
  | nil =>
    have he := endT hps
    rw [List.append_nil] at hps
    obtain ⟨_, _, _, _, hb⟩ := str_ok (mostI n) hmo l
    unfold strS at hb
    rw [← hps] at hb
    have hlost := hs.lostLe
    have hsum := hs.sum
    have hsc := (sum_le hs.pos).1
    have hl0 := hs.lost
    generalize hss : stS (emS (mostI n)) pre = s at *
    have w3 : IntKind.i64.wrap (mostI n + 1) = mostI n + 1 := wrap64 (by omega) (by omega)
    rw [hmost] at hsum
    have m0 : 0 ≤ s.lost * (mostI n + 1) := Int.mul_nonneg hl0 (by omega)
    have w4 : IntKind.i64.wrap (s.lost * (mostI n + 1)) = s.lost * (mostI n + 1) := wrap64 (by omega) (by omega)
    have c1 : ¬ s.tot < s.lost * (mostI n + 1) := by omega
    have hloop := loop4_2 n hn A l hok hA s (stX (mostI n) pre) hX hs hmost (by rw [← hps]; exact hb)
    rw [← htot]
    by_cases h1 : pre.length < l.length
    · have h2' : ¬ (pre.length : Int) < 60 := by omega
      simp [c4_1, TK.agg, constAV, evalAV, eqCells, EK.has, EK.hasAll, vecEls, elsR, AV.toD, toDs, AV.cells, AV.one, joinD, TyI.zeroD, OpR.of, binIntF, binStrF, AV.isPtr, ptrNil, slNil, mpNil, nilE, eqF, negF, posF, binF, pelF, pvLoad, pelSet, pvStore, boxLoad, epLoad, loadF, boxStore, storeF, fieldAddrF, fieldF, epOf, indexAddrF, byteF, indexF, mapLen, lenF, cutF, sliceF, isSl, slice3F, fillF, arrFs, buildF, partsX, landV, buildSliceF, roomB, appVec, appendF, mmFrom, mmF, max2', min2', clearVec, clearF, convF, unF, pickF, nilChkF, extF, ptrsOf, callF, makeSliceF, sameKs, sameD, kindIs, plainFs, keyOk, mapOb, mapEs, okV, lookF, lookupF, putE, putS, mapPut, mapUpdateF, mapDel, deleteF, mapAll, rangeM, rangeF, overV, hitV, nextO, nextF, entryM, entryO, entryF, itOids, builtinF, capsOf, allocF, boxF, bytesL, bytesF, byteTy, strTy, convertF, makeFuncF, makeMapF, makeMapH, opF, reach, reachOf, AObj.live, closedB, nodupB, packO, packL, packX, backN, backG, backO, obL, backE, frzX, frzO, AV.vids, frzL, landC, sameObs, landR, touchF, D.cells, D.decEq, D.decEqs, AV.decEq, AV.decEqs, AObj.decEq, AV.oids0, AV.oids, AObj.oids, renG, renP, AV.ren0, AV.ren, envGet, envPut, envKeep, obGet, setEff, putV, St.put, stepS, keyChk, chkD, accD, Ex.block, AV.under, AObj.under, laysOf, roomFor, mkvO, frzG, szOk, killO, usedBy, tidyS, ghost, ghostE, normSt, resOf, allSome, one0, resultsF, finL, finishL, finish, endF, startEnv, chkC, backX, comeC, wpn_nil, wpn_seq, wpn_loop, wpn_seq_exit, wpn_loop_exit, wpn_seq_ret, wpn_loop_ret, wpn_block, wpn_post, wpk_skip, wpk_exit, wpk_ret, wpk_reg, wpk_seq, wpk_condT, wpk_block, wpk_loop, wpk_pre, wpk_post, wop_nil, wop_cons, wop_guard, St.know, envSet, cond_d, cond_bool, cond_int, cond_str, endE, endQ, freeB, disj, pushT, bitsW, int_beq, int_bne, eqS_def, tbE, fuelL_eq, ann0_lays, ann0_dd, ann0_ro, elsOf_dsl, elsOf_dnils, toNat_succ, nn_succ, pos_succ, one_succ, rng1, rng2, rng3, rng4, rng5, rng6, rng7, rng8, List.idxOf_cons, T3, T4, T5, T9, T22, T25, T26, T28, T29, T36, T41, T47, T56, T69, T74, T78, T85, T90, T98, CT, hA, a1, a2, a3, h1, h2', hm, w3, w4, c1]
      refine hloop _ _ ?_
      simp [TK.agg, constAV, evalAV, eqCells, EK.has, EK.hasAll, vecEls, elsR, AV.toD, toDs, AV.cells, AV.one, joinD, TyI.zeroD, OpR.of, binIntF, binStrF, AV.isPtr, ptrNil, slNil, mpNil, nilE, eqF, negF, posF, binF, pelF, pvLoad, pelSet, pvStore, boxLoad, epLoad, loadF, boxStore, storeF, fieldAddrF, fieldF, epOf, indexAddrF, byteF, indexF, mapLen, lenF, cutF, sliceF, isSl, slice3F, fillF, arrFs, buildF, partsX, landV, buildSliceF, roomB, appVec, appendF, mmFrom, mmF, max2', min2', clearVec, clearF, convF, unF, pickF, nilChkF, extF, ptrsOf, callF, makeSliceF, sameKs, sameD, kindIs, plainFs, keyOk, mapOb, mapEs, okV, lookF, lookupF, putE, putS, mapPut, mapUpdateF, mapDel, deleteF, mapAll, rangeM, rangeF, overV, hitV, nextO, nextF, entryM, entryO, entryF, itOids, builtinF, capsOf, allocF, boxF, bytesL, bytesF, byteTy, strTy, convertF, makeFuncF, makeMapF, makeMapH, opF, reach, reachOf, AObj.live, closedB, nodupB, packO, packL, packX, backN, backG, backO, obL, backE, frzX, frzO, AV.vids, frzL, landC, sameObs, landR, touchF, D.cells, D.decEq, D.decEqs, AV.decEq, AV.decEqs, AObj.decEq, AV.oids0, AV.oids, AObj.oids, renG, renP, AV.ren0, AV.ren, envGet, envPut, envKeep, obGet, setEff, putV, St.put, stepS, keyChk, chkD, accD, Ex.block, AV.under, AObj.under, laysOf, roomFor, mkvO, frzG, szOk, killO, usedBy, tidyS, ghost, ghostE, normSt, resOf, allSome, one0, resultsF, finL, finishL, finish, endF, startEnv, chkC, backX, comeC, wpn_nil, wpn_seq, wpn_loop, wpn_seq_exit, wpn_loop_exit, wpn_seq_ret, wpn_loop_ret, wpn_block, wpn_post, wpk_skip, wpk_exit, wpk_ret, wpk_reg, wpk_seq, wpk_condT, wpk_block, wpk_loop, wpk_pre, wpk_post, wop_nil, wop_cons, wop_guard, St.know, envSet, cond_d, cond_bool, cond_int, cond_str, endE, endQ, freeB, disj, pushT, bitsW, int_beq, int_bne, eqS_def, tbE, fuelL_eq, ann0_lays, ann0_dd, ann0_ro, elsOf_dsl, elsOf_dnils, toNat_succ, nn_succ, pos_succ, one_succ, rng1, rng2, rng3, rng4, rng5, rng6, rng7, rng8, List.idxOf_cons, T3, T4, T5, T9, T22, T25, T26, T28, T29, T36, T41, T47, T56, T69, T74, T78, T85, T90, T98, CT]
    · simp [c4_1, TK.agg, constAV, evalAV, eqCells, EK.has, EK.hasAll, vecEls, elsR, AV.toD, toDs, AV.cells, AV.one, joinD, TyI.zeroD, OpR.of, binIntF, binStrF, AV.isPtr, ptrNil, slNil, mpNil, nilE, eqF, negF, posF, binF, pelF, pvLoad, pelSet, pvStore, boxLoad, epLoad, loadF, boxStore, storeF, fieldAddrF, fieldF, epOf, indexAddrF, byteF, indexF, mapLen, lenF, cutF, sliceF, isSl, slice3F, fillF, arrFs, buildF, partsX, landV, buildSliceF, roomB, appVec, appendF, mmFrom, mmF, max2', min2', clearVec, clearF, convF, unF, pickF, nilChkF, extF, ptrsOf, callF, makeSliceF, sameKs, sameD, kindIs, plainFs, keyOk, mapOb, mapEs, okV, lookF, lookupF, putE, putS, mapPut, mapUpdateF, mapDel, deleteF, mapAll, rangeM, rangeF, overV, hitV, nextO, nextF, entryM, entryO, entryF, itOids, builtinF, capsOf, allocF, boxF, bytesL, bytesF, byteTy, strTy, convertF, makeFuncF, makeMapF, makeMapH, opF, reach, reachOf, AObj.live, closedB, nodupB, packO, packL, packX, backN, backG, backO, obL, backE, frzX, frzO, AV.vids, frzL, landC, sameObs, landR, touchF, D.cells, D.decEq, D.decEqs, AV.decEq, AV.decEqs, AObj.decEq, AV.oids0, AV.oids, AObj.oids, renG, renP, AV.ren0, AV.ren, envGet, envPut, envKeep, obGet, setEff, putV, St.put, stepS, keyChk, chkD, accD, Ex.block, AV.under, AObj.under, laysOf, roomFor, mkvO, frzG, szOk, killO, usedBy, tidyS, ghost, ghostE, normSt, resOf, allSome, one0, resultsF, finL, finishL, finish, endF, startEnv, chkC, backX, comeC, wpn_nil, wpn_seq, wpn_loop, wpn_seq_exit, wpn_loop_exit, wpn_seq_ret, wpn_loop_ret, wpn_block, wpn_post, wpk_skip, wpk_exit, wpk_ret, wpk_reg, wpk_seq, wpk_condT, wpk_block, wpk_loop, wpk_pre, wpk_post, wop_nil, wop_cons, wop_guard, St.know, envSet, cond_d, cond_bool, cond_int, cond_str, endE, endQ, freeB, disj, pushT, bitsW, int_beq, int_bne, eqS_def, tbE, fuelL_eq, ann0_lays, ann0_dd, ann0_ro, elsOf_dsl, elsOf_dnils, toNat_succ, nn_succ, pos_succ, one_succ, rng1, rng2, rng3, rng4, rng5, rng6, rng7, rng8, List.idxOf_cons, T3, T4, T5, T9, T22, T25, T26, T28, T29, T36, T41, T47, T56, T69, T74, T78, T85, T90, T98, CT, hA, a1, a2, a3, h1, hm, w3, w4, c1]
      refine hloop _ _ ?_
      simp [TK.agg, constAV, evalAV, eqCells, EK.has, EK.hasAll, vecEls, elsR, AV.toD, toDs, AV.cells, AV.one, joinD, TyI.zeroD, OpR.of, binIntF, binStrF, AV.isPtr, ptrNil, slNil, mpNil, nilE, eqF, negF, posF, binF, pelF, pvLoad, pelSet, pvStore, boxLoad, epLoad, loadF, boxStore, storeF, fieldAddrF, fieldF, epOf, indexAddrF, byteF, indexF, mapLen, lenF, cutF, sliceF, isSl, slice3F, fillF, arrFs, buildF, partsX, landV, buildSliceF, roomB, appVec, appendF, mmFrom, mmF, max2', min2', clearVec, clearF, convF, unF, pickF, nilChkF, extF, ptrsOf, callF, makeSliceF, sameKs, sameD, kindIs, plainFs, keyOk, mapOb, mapEs, okV, lookF, lookupF, putE, putS, mapPut, mapUpdateF, mapDel, deleteF, mapAll, rangeM, rangeF, overV, hitV, nextO, nextF, entryM, entryO, entryF, itOids, builtinF, capsOf, allocF, boxF, bytesL, bytesF, byteTy, strTy, convertF, makeFuncF, makeMapF, makeMapH, opF, reach, reachOf, AObj.live, closedB, nodupB, packO, packL, packX, backN, backG, backO, obL, backE, frzX, frzO, AV.vids, frzL, landC, sameObs, landR, touchF, D.cells, D.decEq, D.decEqs, AV.decEq, AV.decEqs, AObj.decEq, AV.oids0, AV.oids, AObj.oids, renG, renP, AV.ren0, AV.ren, envGet, envPut, envKeep, obGet, setEff, putV, St.put, stepS, keyChk, chkD, accD, Ex.block, AV.under, AObj.under, laysOf, roomFor, mkvO, frzG, szOk, killO, usedBy, tidyS, ghost, ghostE, normSt, resOf, allSome, one0, resultsF, finL, finishL, finish, endF, startEnv, chkC, backX, comeC, wpn_nil, wpn_seq, wpn_loop, wpn_seq_exit, wpn_loop_exit, wpn_seq_ret, wpn_loop_ret, wpn_block, wpn_post, wpk_skip, wpk_exit, wpk_ret, wpk_reg, wpk_seq, wpk_condT, wpk_block, wpk_loop, wpk_pre, wpk_post, wop_nil, wop_cons, wop_guard, St.know, envSet, cond_d, cond_bool, cond_int, cond_str, endE, endQ, freeB, disj, pushT, bitsW, int_beq, int_bne, eqS_def, tbE, fuelL_eq, ann0_lays, ann0_dd, ann0_ro, elsOf_dsl, elsOf_dnils, toNat_succ, nn_succ, pos_succ, one_succ, rng1, rng2, rng3, rng4, rng5, rng6, rng7, rng8, List.idxOf_cons, T3, T4, T5, T9, T22, T25, T26, T28, T29, T36, T41, T47, T56, T69, T74, T78, T85, T90, T98, CT]
  | cons x suf =>
    obtain ⟨k1, k2, k3, k4, k5, k6⟩ := atT It.enc hps (by omega)
    have kg := getL k5 k4
    have hx := hok x (List.mem_of_getElem? k5)
    have hk := key_run x hx
    have hw := weight_run x hx
    have hwl := wtI_le x.w
    have hadd := addP_run hs (by omega) (stX (mostI n) pre) hX (key_name x.k) hwl.1 (by omega) (by omega)
    have ih := ih (pre ++ [x], suf) (by simpa using hps) (by simp)
    have hne : stX (mostI n) (pre ++ [x]) = .sl (csD (addS (stS (emS (mostI n)) pre) (keyB x.k) (wtI x.w)).cs) := by
      unfold stX
      rw [if_neg (by simp), stS_app]
    simp only [stS_app, hne, sumW_app] at ih
    have hsw := sumW_le pre
    have w5 : IntKind.i64.wrap (sumW pre + wtI x.w) = sumW pre + wtI x.w := wrap64 (by omega) (by omega)
    have k1 : (pre.length : Int) < 60 := k1
    generalize hs1 : stS (emS (mostI n)) pre = s at *
    generalize hs2 : addS s (keyB x.k) (wtI x.w) = s2 at *
    generalize stX (mostI n) pre = Y at *
    simp at ih
    simp only [smD] at hadd
    simp only [It.enc] at k3 hk hw
    simp [c4_1, TK.agg, constAV, evalAV, eqCells, EK.has, EK.hasAll, vecEls, elsR, AV.toD, toDs, AV.cells, AV.one, joinD, TyI.zeroD, OpR.of, binIntF, binStrF, AV.isPtr, ptrNil, slNil, mpNil, nilE, eqF, negF, posF, binF, pelF, pvLoad, pelSet, pvStore, boxLoad, epLoad, loadF, boxStore, storeF, fieldAddrF, fieldF, epOf, indexAddrF, byteF, indexF, mapLen, lenF, cutF, sliceF, isSl, slice3F, fillF, arrFs, buildF, partsX, landV, buildSliceF, roomB, appVec, appendF, mmFrom, mmF, max2', min2', clearVec, clearF, convF, unF, pickF, nilChkF, extF, ptrsOf, callF, makeSliceF, sameKs, sameD, kindIs, plainFs, keyOk, mapOb, mapEs, okV, lookF, lookupF, putE, putS, mapPut, mapUpdateF, mapDel, deleteF, mapAll, rangeM, rangeF, overV, hitV, nextO, nextF, entryM, entryO, entryF, itOids, builtinF, capsOf, allocF, boxF, bytesL, bytesF, byteTy, strTy, convertF, makeFuncF, makeMapF, makeMapH, opF, reach, reachOf, AObj.live, closedB, nodupB, packO, packL, packX, backN, backG, backO, obL, backE, frzX, frzO, AV.vids, frzL, landC, sameObs, landR, touchF, D.cells, D.decEq, D.decEqs, AV.decEq, AV.decEqs, AObj.decEq, AV.oids0, AV.oids, AObj.oids, renG, renP, AV.ren0, AV.ren, envGet, envPut, envKeep, obGet, setEff, putV, St.put, stepS, keyChk, chkD, accD, Ex.block, AV.under, AObj.under, laysOf, roomFor, mkvO, frzG, szOk, killO, usedBy, tidyS, ghost, ghostE, normSt, resOf, allSome, one0, resultsF, finL, finishL, finish, endF, startEnv, chkC, backX, comeC, wpn_nil, wpn_seq, wpn_loop, wpn_seq_exit, wpn_loop_exit, wpn_seq_ret, wpn_loop_ret, wpn_block, wpn_post, wpk_skip, wpk_exit, wpk_ret, wpk_reg, wpk_seq, wpk_condT, wpk_block, wpk_loop, wpk_pre, wpk_post, wop_nil, wop_cons, wop_guard, St.know, envSet, cond_d, cond_bool, cond_int, cond_str, endE, endQ, freeB, disj, pushT, bitsW, int_beq, int_bne, eqS_def, tbE, fuelL_eq, ann0_lays, ann0_dd, ann0_ro, elsOf_dsl, elsOf_dnils, toNat_succ, nn_succ, pos_succ, one_succ, rng1, rng2, rng3, rng4, rng5, rng6, rng7, rng8, List.idxOf_cons, T3, T4, T5, T9, T22, T25, T26, T28, T29, T36, T41, T47, T56, T69, T74, T78, T85, T90, T98, CT, hA, a1, a2, a3, It.enc, k1, k2, k3, k4, k5, kg, hk, hw, hadd, w5]
    exact ih
end Go.Proofs.YtdhbecdlablonaaV
