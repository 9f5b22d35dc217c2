/- The burn rate over a window. -/
import Derived.Test.YtpooehcjchkbkaaWc49f
set_option linter.unusedVariables false
set_option linter.unusedSimpArgs false
namespace Go.Proofs.YtpooehcjchkbkaaV
open Go.RowKit
def sE : List (Int × Int) → Int
  | [] => 0
  | a :: l => a.1 + sE l
def sT : List (Int × Int) → Int
  | [] => 0
  | a :: l => a.2 + sT l
/-- Permitted samples. -/
def okH (l : List (Int × Int)) : Prop := ∀ a ∈ l, 0 ≤ a.1 ∧ a.1 ≤ a.2
theorem okH_le : ∀ (l : List (Int × Int)), okH l → 0 ≤ sE l ∧ sE l ≤ sT l
  | [], _ => by simp [sE, sT]
  | a :: l, h => by
    have h1 := okH_le l fun x hx => h x (by simp [hx])
    have h2 := h a (by simp)
    simp only [sE, sT]; omega
theorem sT_drop (l : List (Int × Int)) (h : okH l) (k : Nat) : sT (l.drop k) ≤ sT l := by
  induction l generalizing k with
  | nil => simp
  | cons a l ih =>
    have h1 : okH l := fun x hx => h x (by simp [hx])
    have h2 := h a (by simp)
    cases k with
    | zero => simp
    | succ k => have := ih h1 k; simp only [sT, List.drop_succ_cons]; omega
theorem okH_drop {l : List (Int × Int)} (h : okH l) (k : Nat) : okH (l.drop k) := fun a ha => h a (List.mem_of_mem_drop ha)
def winH (h : List (Int × Int)) (w : Nat) : List (Int × Int) := h.drop (h.length - w)
def rateI (g : Int) (h : List (Int × Int)) (w : Nat) : Int := burnI (sE (winH h w)) (sT (winH h w)) g
theorem win_okB {g : Int} {h : List (Int × Int)} (hg : 0 ≤ g ∧ g < 1000000) (ho : okH h) (ht : sT h ≤ 4294967296) (w : Nat) : okB (sE (winH h w)) (sT (winH h w)) g := by
  have h1 := okH_le _ (okH_drop ho (h.length - w))
  have h2 := sT_drop h ho (h.length - w)
  unfold winH
  refine ⟨hg.1, hg.2, ?_, ?_, h1.1, h1.2⟩ <;> omega
def samO (p : Int × Int) : AObj := .box (sam p)
theorem winH_succ (h : List (Int × Int)) (k : Nat) (hk : k < h.length) : winH h (k + 1) = histF h (h.length - 1 - k) :: winH h k := by
  unfold winH histF
  have h1 : h.length - (k + 1) < h.length := by omega
  have h2 : h.length - 1 - k = h.length - (k + 1) := by omega
  rw [h2, List.drop_eq_getElem_cons h1, List.getElem?_eq_getElem h1]
  have h3 : h.length - (k + 1) + 1 = h.length - k := by omega
  rw [h3]; rfl
set_option maxRecDepth 100000 in
theorem loop48_1 (M : Mon) (c : Nat) (hc : c ≤ M.hist.length) (hs : M.seen = M.hist.length) (hl : M.hist.length ≤ 256) (ho : okH M.hist) (ht : sT M.hist ≤ 4294967296) (ks : List Fr) (K : Ex → St → Prop)
    (hnext : wpn CC .norm ⟨[(0, .ptr 0 0), (5, .ptr 1 0)], [.box (monL M), samO (sE (winH M.hist c), sT (winH M.hist c))]⟩ ks K) :
    wlp CC (s48_1 1) ⟨[(0, .ptr 0 0), (5, .ptr 1 0), (13, .d (.int .i64 c)), (14, .d (.int .i64 0))], [.box (monL M), samO (0, 0)]⟩ (.block 0 :: .post (.tidy [0, 5] 1 2) :: ks) K := by
  have h0 : winH M.hist 0 = [] := by simp [winH]
  show wlp CC (s48_1 1) ⟨[(0, .ptr 0 0), (5, .ptr 1 0), (13, .d (.int .i64 c)), (14, .d (.int .i64 ((0 : Nat) : Int)))], [.box (monL M), samO (sE [], sT [])]⟩ (.block 0 :: .post (.tidy [0, 5] 1 2) :: ks) K
  rw [← h0]
  refine wlp_inv (S := fun p : Nat => ⟨[(0, .ptr 0 0), (5, .ptr 1 0), (13, .d (.int .i64 c)), (14, .d (.int .i64 p))], [.box (monL M), samO (sE (winH M.hist p), sT (winH M.hist p))]⟩) (m := fun p => c - p)
    (Inv := fun p => p ≤ c) ?_ 0 (by omega)
  intro k hk ih
  rw [e48_1]
  by_cases q : k < c
  · have ih := ih (k + 1) (by omega) (by omega)
    have hx := winH_succ M.hist k (by omega)
    rw [hx] at ih
    have h1 := okH_le _ (okH_drop ho (M.hist.length - (k + 1)))
    have h2 := sT_drop M.hist ho (M.hist.length - (k + 1))
    change 0 ≤ sE (winH M.hist (k + 1)) ∧ sE (winH M.hist (k + 1)) ≤ sT (winH M.hist (k + 1)) at h1
    change sT (winH M.hist (k + 1)) ≤ _ at h2
    rw [hx] at h1 h2
    simp only [sE, sT] at h1 h2 ih
    have h3 := okH_le _ (okH_drop ho (M.hist.length - k))
    change 0 ≤ sE (winH M.hist k) ∧ sE (winH M.hist k) ≤ sT (winH M.hist k) at h3
    generalize hz : histF M.hist (M.hist.length - 1 - k) = z at *
    have w1 : IntKind.i64.wrap (sE (winH M.hist k) + z.1) = z.1 + sE (winH M.hist k) := by rw [wrap64 (by omega) (by omega)]; omega
    have w2 : IntKind.i64.wrap (sT (winH M.hist k) + z.2) = z.2 + sT (winH M.hist k) := by rw [wrap64 (by omega) (by omega)]; omega
    have w3 : IntKind.i64.wrap ((M.hist.length : Int) - 1) = (M.hist.length : Int) - 1 := wrap64 (by omega) (by omega)
    have w4 : IntKind.i64.wrap ((M.hist.length : Int) - 1 - k) = (M.hist.length - 1 - k : Nat) := by rw [wrap64 (by omega) (by omega)]; omega
    have w5 : ((M.hist.length - 1 - k : Nat) : Int).tmod 256 = (M.hist.length - 1 - k : Nat) := by rw [Int.tmod_eq_of_lt] <;> omega
    have w6 : IntKind.i64.wrap ((M.hist.length - 1 - k : Nat) : Int) = (M.hist.length - 1 - k : Nat) := wrap64 (by omega) (by omega)
    have w7 : IntKind.i64.wrap ((k : Int) + 1) = (k : Int) + 1 := wrap64 (by omega) (by omega)
    have ml := mon_at M (M.hist.length - 1 - k) _ rfl (by omega)
    rw [hz] at ml
    generalize hj : M.hist.length - 1 - k = j at *
    have hj2 : (j : Int) < 256 := by omega
    have hj3 : j * 4 ≤ 1023 := by omega
    have hj4 : 8 + j * 4 + 4 ≤ 1035 := by omega
    simp [c48_1, TK.agg, constAV, evalAV, eqCells, EK.has, EK.hasAll, vecEls, elsR, AV.toD, toDs, AV.cells, AV.one, joinD, TyI.zeroD, OpR.of, binIntF, binStrF, AV.isPtr, ptrNil, slNil, mpNil, nilE, eqF, negF, posF, binF, pelF, pvLoad, pelSet, pvStore, boxLoad, epLoad, loadF, boxStore, storeF, fieldAddrF, fieldF, epOf, indexAddrF, byteF, indexF, mapLen, lenF, cutF, sliceF, sliceN, sliceX, isSl, slice3F, fillF, fillV, arrFs, buildF, partsX, landV, buildSliceF, roomB, appVec, appendF, appMkF, capF, mmFrom, mmF, max2', min2', clearVec, clearF, convF, unF, pickF, nilChkF, extF, ptrsOf, callF, makeSliceF, sameKs, sameD, kindIs, plainFs, keyOk, mapOb, mapEs, okV, lookF, lookupF, putE, putS, mapPut, mapUpdateF, mapDel, deleteF, mapAll, rangeM, rangeF, overV, hitV, nextO, nextF, entryM, entryO, entryF, itOids, builtinF, capsOf, allocF, boxF, bytesL, bytesF, byteTy, strTy, convertF, makeFuncF, mapNew, makeMapF, makeMapH, opF, reach, reachOf, AObj.live, closedB, nodupB, packO, packL, packX, backN, backG, backO, obL, backE, frzX, frzO, AV.vids, frzL, landC, sameObs, landR, touchF, bitsW, D.cells, D.decEq, D.decEqs, AV.decEq, AV.decEqs, AObj.decEq, AV.oids0, AV.oids, AObj.oids, renG, renP, AV.ren0, AV.ren, envGet, envPut, envKeep, obGet, setEff, putV, St.put, stepS, keyChk, chkD, accD, Ex.block, AV.under, AObj.under, laysOf, roomFor, mkvO, frzG, szOk, killO, usedBy, tidyS, canL, canS, ghost, ghostE, normSt, resOf, allSome, one0, resultsF, finL, finishL, finish, endF, startEnv, chkC, backX, comeC, AV.flat0, rngC, loopO, layL, endLp, busyL, idleL, noRng, rndSt, rndEnd, wpn_nil, wpn_seq, wpn_loop, wpn_seq_exit, wpn_loop_exit, wpn_seq_ret, wpn_loop_ret, wpn_block, wpn_post, wpk_skip, wpk_exit, wpk_ret, wpk_reg, wpk_seq, wpk_condT, wpk_block, wpk_loop, wpk_pre, wpk_post, wop_nil, wop_cons, wop_guard, St.know, envSet, cond_d, cond_bool, cond_int, cond_str, endE, endQ, freeB, disj, pushT, bitsW, int_beq, int_bne, eqS_def, tbE, fuelL_eq, ann0_lays, ann0_dd, ann0_ro, elsOf_dsl, elsOf_dnils, toNat_succ, nn_succ, pos_succ, one_succ, rng1, rng2, rng3, rng4, rng5, rng6, rng7, rng8, List.idxOf_cons, wpk_rng, rndK, rndE, T3, T4, T5, T9, T23, T25, T27, T32, T33, T35, T39, T50, T52, T57, T59, T64, T65, T66, T70, T71, T77, T81, T83, T88, T89, T91, T95, T97, T99, T100, T112, CT, monL_len, mon_e1032, mon_oids, mon_ren, samO, sam, hs, q, w1, w2, w3, w4, w5, w6, w7, ml, hj2, hj3, hj4]
    simp [samO, sam] at ih
    exact ih
  · have : k = c := by omega
    subst this
    simp [c48_1, TK.agg, constAV, evalAV, eqCells, EK.has, EK.hasAll, vecEls, elsR, AV.toD, toDs, AV.cells, AV.one, joinD, TyI.zeroD, OpR.of, binIntF, binStrF, AV.isPtr, ptrNil, slNil, mpNil, nilE, eqF, negF, posF, binF, pelF, pvLoad, pelSet, pvStore, boxLoad, epLoad, loadF, boxStore, storeF, fieldAddrF, fieldF, epOf, indexAddrF, byteF, indexF, mapLen, lenF, cutF, sliceF, sliceN, sliceX, isSl, slice3F, fillF, fillV, arrFs, buildF, partsX, landV, buildSliceF, roomB, appVec, appendF, appMkF, capF, mmFrom, mmF, max2', min2', clearVec, clearF, convF, unF, pickF, nilChkF, extF, ptrsOf, callF, makeSliceF, sameKs, sameD, kindIs, plainFs, keyOk, mapOb, mapEs, okV, lookF, lookupF, putE, putS, mapPut, mapUpdateF, mapDel, deleteF, mapAll, rangeM, rangeF, overV, hitV, nextO, nextF, entryM, entryO, entryF, itOids, builtinF, capsOf, allocF, boxF, bytesL, bytesF, byteTy, strTy, convertF, makeFuncF, mapNew, makeMapF, makeMapH, opF, reach, reachOf, AObj.live, closedB, nodupB, packO, packL, packX, backN, backG, backO, obL, backE, frzX, frzO, AV.vids, frzL, landC, sameObs, landR, touchF, bitsW, D.cells, D.decEq, D.decEqs, AV.decEq, AV.decEqs, AObj.decEq, AV.oids0, AV.oids, AObj.oids, renG, renP, AV.ren0, AV.ren, envGet, envPut, envKeep, obGet, setEff, putV, St.put, stepS, keyChk, chkD, accD, Ex.block, AV.under, AObj.under, laysOf, roomFor, mkvO, frzG, szOk, killO, usedBy, tidyS, canL, canS, ghost, ghostE, normSt, resOf, allSome, one0, resultsF, finL, finishL, finish, endF, startEnv, chkC, backX, comeC, AV.flat0, rngC, loopO, layL, endLp, busyL, idleL, noRng, rndSt, rndEnd, wpn_nil, wpn_seq, wpn_loop, wpn_seq_exit, wpn_loop_exit, wpn_seq_ret, wpn_loop_ret, wpn_block, wpn_post, wpk_skip, wpk_exit, wpk_ret, wpk_reg, wpk_seq, wpk_condT, wpk_block, wpk_loop, wpk_pre, wpk_post, wop_nil, wop_cons, wop_guard, St.know, envSet, cond_d, cond_bool, cond_int, cond_str, endE, endQ, freeB, disj, pushT, bitsW, int_beq, int_bne, eqS_def, tbE, fuelL_eq, ann0_lays, ann0_dd, ann0_ro, elsOf_dsl, elsOf_dnils, toNat_succ, nn_succ, pos_succ, one_succ, rng1, rng2, rng3, rng4, rng5, rng6, rng7, rng8, List.idxOf_cons, wpk_rng, rndK, rndE, T3, T4, T5, T9, T23, T25, T27, T32, T33, T35, T39, T50, T52, T57, T59, T64, T65, T66, T70, T71, T77, T81, T83, T88, T89, T91, T95, T97, T99, T100, T112, CT, monL_len, mon_oids, mon_ren, samO, sam]
    exact hnext
set_option maxRecDepth 100000 in
theorem rate48_run (M : Mon) (w : Nat) (hw : w ≤ 256) (hs : M.seen = M.hist.length) (hl : M.hist.length ≤ 256) (hg : 0 ≤ M.rul.target ∧ M.rul.target < 1000000) (ho : okH M.hist) (ht : sT M.hist ≤ 4294967296) :
    run CC 48 [.ptr 0 0, .d (.int .i64 w)] [.box (monL M)] = some (.d (.int .i64 (rateI M.rul.target M.hist w)), [.box (monL M)]) := by
  refine run_code (s := s48 1) rfl rfl rfl (by kernel_rfl) ?_
  have hm : (if M.hist.length < w then (M.hist.length : Int) else w) = ((min w M.hist.length : Nat) : Int) := by
    by_cases q : M.hist.length < w
    · rw [if_pos q]; omega
    · rw [if_neg q]; omega
  have hwin : winH M.hist (min w M.hist.length) = winH M.hist w := by
    unfold winH; congr 1; omega
  simp [s48, TK.agg, constAV, evalAV, eqCells, EK.has, EK.hasAll, vecEls, elsR, AV.toD, toDs, AV.cells, AV.one, joinD, TyI.zeroD, OpR.of, binIntF, binStrF, AV.isPtr, ptrNil, slNil, mpNil, nilE, eqF, negF, posF, binF, pelF, pvLoad, pelSet, pvStore, boxLoad, epLoad, loadF, boxStore, storeF, fieldAddrF, fieldF, epOf, indexAddrF, byteF, indexF, mapLen, lenF, cutF, sliceF, sliceN, sliceX, isSl, slice3F, fillF, fillV, arrFs, buildF, partsX, landV, buildSliceF, roomB, appVec, appendF, appMkF, capF, mmFrom, mmF, max2', min2', clearVec, clearF, convF, unF, pickF, nilChkF, extF, ptrsOf, callF, makeSliceF, sameKs, sameD, kindIs, plainFs, keyOk, mapOb, mapEs, okV, lookF, lookupF, putE, putS, mapPut, mapUpdateF, mapDel, deleteF, mapAll, rangeM, rangeF, overV, hitV, nextO, nextF, entryM, entryO, entryF, itOids, builtinF, capsOf, allocF, boxF, bytesL, bytesF, byteTy, strTy, convertF, makeFuncF, mapNew, makeMapF, makeMapH, opF, reach, reachOf, AObj.live, closedB, nodupB, packO, packL, packX, backN, backG, backO, obL, backE, frzX, frzO, AV.vids, frzL, landC, sameObs, landR, touchF, bitsW, D.cells, D.decEq, D.decEqs, AV.decEq, AV.decEqs, AObj.decEq, AV.oids0, AV.oids, AObj.oids, renG, renP, AV.ren0, AV.ren, envGet, envPut, envKeep, obGet, setEff, putV, St.put, stepS, keyChk, chkD, accD, Ex.block, AV.under, AObj.under, laysOf, roomFor, mkvO, frzG, szOk, killO, usedBy, tidyS, canL, canS, ghost, ghostE, normSt, resOf, allSome, one0, resultsF, finL, finishL, finish, endF, startEnv, chkC, backX, comeC, AV.flat0, rngC, loopO, layL, endLp, busyL, idleL, noRng, rndSt, rndEnd, wpn_nil, wpn_seq, wpn_loop, wpn_seq_exit, wpn_loop_exit, wpn_seq_ret, wpn_loop_ret, wpn_block, wpn_post, wpk_skip, wpk_exit, wpk_ret, wpk_reg, wpk_seq, wpk_condT, wpk_block, wpk_loop, wpk_pre, wpk_post, wop_nil, wop_cons, wop_guard, St.know, envSet, cond_d, cond_bool, cond_int, cond_str, endE, endQ, freeB, disj, pushT, bitsW, int_beq, int_bne, eqS_def, tbE, fuelL_eq, ann0_lays, ann0_dd, ann0_ro, elsOf_dsl, elsOf_dnils, toNat_succ, nn_succ, pos_succ, one_succ, rng1, rng2, rng3, rng4, rng5, rng6, rng7, rng8, List.idxOf_cons, wpk_rng, rndK, rndE, T3, T4, T5, T9, T23, T25, T27, T32, T33, T35, T39, T50, T52, T57, T59, T64, T65, T66, T70, T71, T77, T81, T83, T88, T89, T91, T95, T97, T99, T100, T112, CT, monL_len, mon_e1032, mon_oids, mon_ren, hs]
  rw [hm]
  refine loop48_1 M (min w M.hist.length) (by omega) hs hl ho ht _ _ ?_
  rw [hwin]
  have hb := burn40_run _ _ _ (win_okB hg ho ht w)
  simp [TK.agg, constAV, evalAV, eqCells, EK.has, EK.hasAll, vecEls, elsR, AV.toD, toDs, AV.cells, AV.one, joinD, TyI.zeroD, OpR.of, binIntF, binStrF, AV.isPtr, ptrNil, slNil, mpNil, nilE, eqF, negF, posF, binF, pelF, pvLoad, pelSet, pvStore, boxLoad, epLoad, loadF, boxStore, storeF, fieldAddrF, fieldF, epOf, indexAddrF, byteF, indexF, mapLen, lenF, cutF, sliceF, sliceN, sliceX, isSl, slice3F, fillF, fillV, arrFs, buildF, partsX, landV, buildSliceF, roomB, appVec, appendF, appMkF, capF, mmFrom, mmF, max2', min2', clearVec, clearF, convF, unF, pickF, nilChkF, extF, ptrsOf, callF, makeSliceF, sameKs, sameD, kindIs, plainFs, keyOk, mapOb, mapEs, okV, lookF, lookupF, putE, putS, mapPut, mapUpdateF, mapDel, deleteF, mapAll, rangeM, rangeF, overV, hitV, nextO, nextF, entryM, entryO, entryF, itOids, builtinF, capsOf, allocF, boxF, bytesL, bytesF, byteTy, strTy, convertF, makeFuncF, mapNew, makeMapF, makeMapH, opF, reach, reachOf, AObj.live, closedB, nodupB, packO, packL, packX, backN, backG, backO, obL, backE, frzX, frzO, AV.vids, frzL, landC, sameObs, landR, touchF, bitsW, D.cells, D.decEq, D.decEqs, AV.decEq, AV.decEqs, AObj.decEq, AV.oids0, AV.oids, AObj.oids, renG, renP, AV.ren0, AV.ren, envGet, envPut, envKeep, obGet, setEff, putV, St.put, stepS, keyChk, chkD, accD, Ex.block, AV.under, AObj.under, laysOf, roomFor, mkvO, frzG, szOk, killO, usedBy, tidyS, canL, canS, ghost, ghostE, normSt, resOf, allSome, one0, resultsF, finL, finishL, finish, endF, startEnv, chkC, backX, comeC, AV.flat0, rngC, loopO, layL, endLp, busyL, idleL, noRng, rndSt, rndEnd, wpn_nil, wpn_seq, wpn_loop, wpn_seq_exit, wpn_loop_exit, wpn_seq_ret, wpn_loop_ret, wpn_block, wpn_post, wpk_skip, wpk_exit, wpk_ret, wpk_reg, wpk_seq, wpk_condT, wpk_block, wpk_loop, wpk_pre, wpk_post, wop_nil, wop_cons, wop_guard, St.know, envSet, cond_d, cond_bool, cond_int, cond_str, endE, endQ, freeB, disj, pushT, bitsW, int_beq, int_bne, eqS_def, tbE, fuelL_eq, ann0_lays, ann0_dd, ann0_ro, elsOf_dsl, elsOf_dnils, toNat_succ, nn_succ, pos_succ, one_succ, rng1, rng2, rng3, rng4, rng5, rng6, rng7, rng8, List.idxOf_cons, wpk_rng, rndK, rndE, T3, T4, T5, T9, T23, T25, T27, T32, T33, T35, T39, T50, T52, T57, T59, T64, T65, T66, T70, T71, T77, T81, T83, T88, T89, T91, T95, T97, T99, T100, T112, CT, monL_len, mon_e3, mon_oids, mon_ren, samO, sam, hb, rateI]
end Go.Proofs.YtpooehcjchkbkaaV
