/- The states of the definition. -/
import Derived.Test.YtpooehcjchkbkaaWc49j
set_option linter.unusedVariables false
set_option linter.unusedSimpArgs false
namespace Go.Proofs.YtpooehcjchkbkaaV
open Go.RowKit
theorem sE_app : ∀ (l m : List (Int × Int)), sE (l ++ m) = sE l + sE m
  | [], m => by simp [sE]
  | a :: l, m => by simp [sE, sE_app l m]; omega
set_option maxRecDepth 100000 in
/-- The rate of a window that ends behind 'pre'. -/
theorem rate39_run (A B : D) (L pre suf : List (Int × Int)) (hL : pre ++ suf = L) (w : Nat) (g : Int) (hw : 1 ≤ w ∧ w ≤ 256) (hp : pre ≠ []) (hA : elsOf (.d A) = some (L.map fun p => D.int .i64 p.1)) (hB : elsOf (.d B) = some (L.map fun p => D.int .i64 p.2)) (hl : L.length ≤ 1024) (ho : okH pre) (ht : sT pre ≤ 4294967296) (hg : 0 ≤ g ∧ g < 1000000) (i : Int) (hi : i + 1 = pre.length) :
    run CC 39 [.d A, .d B, .d (.int .i64 i), .d (.int .i64 w), .d (.int .i64 g)] [] = some (.d (.int .i64 (rateI g pre w)), []) := by
  refine run_code (s := s39 0) rfl rfl rfl (by kernel_rfl) ?_
  have hpl : pre.length ≤ 1024 := by rw [← hL] at hl; simp at hl; omega
  have hpos : 1 ≤ pre.length := List.length_pos_iff.2 hp
  have hb := burn25_run _ _ _ (win_okB hg ho ht w)
  have w1 : IntKind.i64.wrap (i - w) = i - w := wrap64 (by omega) (by omega)
  have w2 : IntKind.i64.wrap (i - w + 1) = i - w + 1 := wrap64 (by omega) (by omega)
  have hm : max2' 0 (i - w + 1) = ((pre.length - w : Nat) : Int) := by
    simp only [max2']
    split <;> omega
  simp only [max2', gt_iff_lt] at hm
  simp [s39, TK.agg, constAV, evalAV, eqCells, EK.has, EK.hasAll, vecEls, elsR, AV.toD, toDs, AV.cells, AV.one, joinD, TyI.zeroD, OpR.of, binIntF, binStrF, AV.isPtr, ptrNil, slNil, mpNil, nilE, eqF, negF, posF, binF, pelF, pvLoad, pelSet, pvStore, boxLoad, epLoad, loadF, boxStore, storeF, fieldAddrF, fieldF, epOf, indexAddrF, byteF, indexF, mapLen, lenF, cutF, sliceF, isSl, slice3F, fillF, arrFs, buildF, partsX, landV, buildSliceF, roomB, appVec, appendF, mmFrom, mmF, max2', min2', clearVec, clearF, builtinF, convF, unF, pickF, nilChkF, extF, ptrsOf, callF, makeSliceF, sameD, keyOk, mapOb, mapEs, okV, lookF, lookupF, putE, mapPut, mapUpdateF, capsOf, allocF, boxF, convertF, makeFuncF, makeMapF, opF, reach, reachOf, AObj.live, closedB, nodupB, packO, packL, packX, backN, backG, backO, obL, backE, frzX, frzO, AV.vids, frzL, landC, sameObs, landR, touchF, D.cells, D.decEq, D.decEqs, AV.decEq, AV.decEqs, AObj.decEq, AV.oids0, AV.oids, AObj.oids, renG, renP, AV.ren0, AV.ren, envGet, envPut, envKeep, obGet, setEff, putV, St.put, stepS, keyChk, chkD, accD, Ex.block, AV.under, AObj.under, laysOf, roomFor, mkvO, frzG, szOk, killO, usedBy, tidyS, ghost, ghostE, normSt, resOf, allSome, one0, resultsF, finL, finishL, finish, endF, startEnv, chkC, backX, comeC, wpn_nil, wpn_seq, wpn_loop, wpn_seq_exit, wpn_loop_exit, wpn_seq_ret, wpn_loop_ret, wpn_block, wpn_post, wpk_skip, wpk_exit, wpk_ret, wpk_reg, wpk_seq, wpk_condT, wpk_block, wpk_loop, wpk_pre, wpk_post, wop_nil, wop_cons, wop_guard, St.know, envSet, cond_d, cond_bool, cond_int, cond_str, endE, endQ, freeB, disj, pushT, bitsW, int_beq, int_bne, eqS_def, Nat.testBit_eq_decide_div_mod_eq, fuelL_eq, ann0_lays, ann0_dd, ann0_ro, elsOf_dsl, elsOf_dnils, toNat_succ, nn_succ, pos_succ, one_succ, rng1, rng2, rng3, rng4, rng5, rng6, rng7, rng8, List.idxOf_cons, T3, T4, T5, T9, T23, T25, T27, T32, T33, T35, T39, T50, T52, T57, T59, T64, T65, T66, T70, T71, T77, T81, T83, T88, T89, T91, T95, T97, T99, T100, T112, CT, w1, w2]
  rw [hm]
  have hd : pre.take (pre.length - w) ++ winH pre w = pre := List.take_append_drop _ _
  have hk : (pre.take (pre.length - w)).length = pre.length - w := by simp
  refine wlp_inv (S := fun p : List (Int × Int) × List (Int × Int) => ⟨[(0, .d A), (1, .d B), (2, .d (.int .i64 i)), (4, .d (.int .i64 g)), (11, .d (.int .i64 (sE p.1))), (12, .d (.int .i64 (sT p.1))), (13, .d (.int .i64 (pre.length - w + p.1.length : Nat)))], []⟩) (m := fun p => p.2.length) (Inv := fun p => p.1 ++ p.2 = winH pre w) ?_ ([], winH pre w) rfl
  rintro ⟨p1, s1⟩ g1 ih
  rw [e39_1]
  simp only at g1 ⊢
  have hlw : pre.length - w + (p1.length + s1.length) = pre.length := by
    have h := congrArg List.length hd
    rw [List.length_append, hk, ← g1, List.length_append] at h
    exact h
  cases s1 with
  | nil =>
    rw [List.append_nil] at g1
    subst g1
    have hn : i < ((pre.length - w + (winH pre w).length : Nat) : Int) := by simp at hlw; omega
    have hn' : ¬ ((pre.length - w + (winH pre w).length : Nat) : Int) ≤ i := by omega
    generalize pre.length - w + (winH pre w).length = n at *
    simp [c39_1, TK.agg, constAV, evalAV, eqCells, EK.has, EK.hasAll, vecEls, elsR, AV.toD, toDs, AV.cells, AV.one, joinD, TyI.zeroD, OpR.of, binIntF, binStrF, AV.isPtr, ptrNil, slNil, mpNil, nilE, eqF, negF, posF, binF, pelF, pvLoad, pelSet, pvStore, boxLoad, epLoad, loadF, boxStore, storeF, fieldAddrF, fieldF, epOf, indexAddrF, byteF, indexF, mapLen, lenF, cutF, sliceF, isSl, slice3F, fillF, arrFs, buildF, partsX, landV, buildSliceF, roomB, appVec, appendF, mmFrom, mmF, max2', min2', clearVec, clearF, builtinF, convF, unF, pickF, nilChkF, extF, ptrsOf, callF, makeSliceF, sameD, keyOk, mapOb, mapEs, okV, lookF, lookupF, putE, mapPut, mapUpdateF, capsOf, allocF, boxF, convertF, makeFuncF, makeMapF, opF, reach, reachOf, AObj.live, closedB, nodupB, packO, packL, packX, backN, backG, backO, obL, backE, frzX, frzO, AV.vids, frzL, landC, sameObs, landR, touchF, D.cells, D.decEq, D.decEqs, AV.decEq, AV.decEqs, AObj.decEq, AV.oids0, AV.oids, AObj.oids, renG, renP, AV.ren0, AV.ren, envGet, envPut, envKeep, obGet, setEff, putV, St.put, stepS, keyChk, chkD, accD, Ex.block, AV.under, AObj.under, laysOf, roomFor, mkvO, frzG, szOk, killO, usedBy, tidyS, ghost, ghostE, normSt, resOf, allSome, one0, resultsF, finL, finishL, finish, endF, startEnv, chkC, backX, comeC, wpn_nil, wpn_seq, wpn_loop, wpn_seq_exit, wpn_loop_exit, wpn_seq_ret, wpn_loop_ret, wpn_block, wpn_post, wpk_skip, wpk_exit, wpk_ret, wpk_reg, wpk_seq, wpk_condT, wpk_block, wpk_loop, wpk_pre, wpk_post, wop_nil, wop_cons, wop_guard, St.know, envSet, cond_d, cond_bool, cond_int, cond_str, endE, endQ, freeB, disj, pushT, bitsW, int_beq, int_bne, eqS_def, Nat.testBit_eq_decide_div_mod_eq, fuelL_eq, ann0_lays, ann0_dd, ann0_ro, elsOf_dsl, elsOf_dnils, toNat_succ, nn_succ, pos_succ, one_succ, rng1, rng2, rng3, rng4, rng5, rng6, rng7, rng8, List.idxOf_cons, T3, T4, T5, T9, T23, T25, T27, T32, T33, T35, T39, T50, T52, T57, T59, T64, T65, T66, T70, T71, T77, T81, T83, T88, T89, T91, T95, T97, T99, T100, T112, CT, hn, hn', hb, rateI]
  | cons x s1 =>
    have e1 : (pre.take (pre.length - w) ++ p1) ++ x :: (s1 ++ suf) = L := by
      rw [← hL, List.append_assoc, show p1 ++ x :: (s1 ++ suf) = (p1 ++ x :: s1) ++ suf by simp, g1, ← List.append_assoc, hd]
    have en : (pre.take (pre.length - w) ++ p1).length = pre.length - w + p1.length := by rw [List.length_append, hk]
    obtain ⟨k1, k2, k3, k4, k5, k6⟩ := atL (fun p : Int × Int => D.int .i64 p.1) e1 (by omega)
    have kg := getL k5 k4
    obtain ⟨j1, j2, j3, j4, j5, j6⟩ := atL (fun p : Int × Int => D.int .i64 p.2) e1 (by omega)
    have jg := getL j5 j4
    simp only [en] at k2 k3 k4 k5 kg j3 j4 j5 jg
    have ih := ih (p1 ++ [x], s1) (by simpa using g1) (by simp)
    have hq : ((pre.length - w + p1.length : Nat) : Int) ≤ i := by simp at hlw; omega
    have hq' : ¬ i < ((pre.length - w + p1.length : Nat) : Int) := by omega
    have hle := okH_le (p1 ++ [x]) (fun a ha => ho a (by rw [← hd, ← g1]; simp at ha ⊢; grind))
    have hle0 := okH_le p1 (fun a ha => ho a (by rw [← hd, ← g1]; simp [ha]))
    have hle1 := okH_le (x :: s1) (fun a ha => ho a (by rw [← hd, ← g1]; simp at ha ⊢; grind))
    have hle2 := sT_drop pre ho (pre.length - w)
    change sT (winH pre w) ≤ _ at hle2
    have hle3 := sT_app p1 (x :: s1)
    rw [g1] at hle3
    have hle4 := okH_le s1 (fun a ha => ho a (by rw [← hd, ← g1]; simp [ha]))
    have hx := ho x (by rw [← hd, ← g1]; simp)
    simp only [sE_app, sT_app, sE, sT, Int.add_zero] at hle ih hle1 hle3
    have w3 : IntKind.i64.wrap (sE p1 + x.1) = sE p1 + x.1 := wrap64 (by omega) (by omega)
    have w4 : IntKind.i64.wrap (sT p1 + x.2) = sT p1 + x.2 := wrap64 (by omega) (by omega)
    have hnn : pre.length - w + (p1 ++ [x]).length = pre.length - w + p1.length + 1 := by simp; omega
    simp only [hnn] at ih
    generalize pre.length - w + p1.length = n at *
    simp at ih
    simp [c39_1, TK.agg, constAV, evalAV, eqCells, EK.has, EK.hasAll, vecEls, elsR, AV.toD, toDs, AV.cells, AV.one, joinD, TyI.zeroD, OpR.of, binIntF, binStrF, AV.isPtr, ptrNil, slNil, mpNil, nilE, eqF, negF, posF, binF, pelF, pvLoad, pelSet, pvStore, boxLoad, epLoad, loadF, boxStore, storeF, fieldAddrF, fieldF, epOf, indexAddrF, byteF, indexF, mapLen, lenF, cutF, sliceF, isSl, slice3F, fillF, arrFs, buildF, partsX, landV, buildSliceF, roomB, appVec, appendF, mmFrom, mmF, max2', min2', clearVec, clearF, builtinF, convF, unF, pickF, nilChkF, extF, ptrsOf, callF, makeSliceF, sameD, keyOk, mapOb, mapEs, okV, lookF, lookupF, putE, mapPut, mapUpdateF, capsOf, allocF, boxF, convertF, makeFuncF, makeMapF, opF, reach, reachOf, AObj.live, closedB, nodupB, packO, packL, packX, backN, backG, backO, obL, backE, frzX, frzO, AV.vids, frzL, landC, sameObs, landR, touchF, D.cells, D.decEq, D.decEqs, AV.decEq, AV.decEqs, AObj.decEq, AV.oids0, AV.oids, AObj.oids, renG, renP, AV.ren0, AV.ren, envGet, envPut, envKeep, obGet, setEff, putV, St.put, stepS, keyChk, chkD, accD, Ex.block, AV.under, AObj.under, laysOf, roomFor, mkvO, frzG, szOk, killO, usedBy, tidyS, ghost, ghostE, normSt, resOf, allSome, one0, resultsF, finL, finishL, finish, endF, startEnv, chkC, backX, comeC, wpn_nil, wpn_seq, wpn_loop, wpn_seq_exit, wpn_loop_exit, wpn_seq_ret, wpn_loop_ret, wpn_block, wpn_post, wpk_skip, wpk_exit, wpk_ret, wpk_reg, wpk_seq, wpk_condT, wpk_block, wpk_loop, wpk_pre, wpk_post, wop_nil, wop_cons, wop_guard, St.know, envSet, cond_d, cond_bool, cond_int, cond_str, endE, endQ, freeB, disj, pushT, bitsW, int_beq, int_bne, eqS_def, Nat.testBit_eq_decide_div_mod_eq, fuelL_eq, ann0_lays, ann0_dd, ann0_ro, elsOf_dsl, elsOf_dnils, toNat_succ, nn_succ, pos_succ, one_succ, rng1, rng2, rng3, rng4, rng5, rng6, rng7, rng8, List.idxOf_cons, T3, T4, T5, T9, T23, T25, T27, T32, T33, T35, T39, T50, T52, T57, T59, T64, T65, T66, T70, T71, T77, T81, T83, T88, T89, T91, T95, T97, T99, T100, T112, CT, hA, hB, k2, k3, k4, k5, kg, j3, j4, j5, jg, w3, w4, hq, hq']
    trace_state
    exact ih
end Go.Proofs.YtpooehcjchkbkaaV
