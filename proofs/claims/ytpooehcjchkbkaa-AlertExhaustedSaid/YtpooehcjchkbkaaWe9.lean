/- The law AlertExhausted. -/
import Derived.Test.YtpooehcjchkbkaaWc49r
import Derived.Test.YtpooehcjchkbkaaWe3
set_option linter.unusedVariables false
set_option linter.unusedSimpArgs false
namespace Go.Proofs.YtpooehcjchkbkaaV
open Go.RowKit
def fsL (f b : Int) : Nat → Int → Int → List Int → Int
  | _, _, fi, [] => fi
  | i, s, fi, e :: l => fsL f b (i + 1) (s + e) (if b < s + e ∧ fi < 0 then f + i else fi) l
theorem fsL_pos (f b : Int) : ∀ (l : List Int) (i : Nat) (s fi : Int), 0 ≤ fi → fsL f b i s fi l = fi
  | [], _, _, _, _ => rfl
  | e :: l, i, s, fi, h => by
    rw [fsL, if_neg (by omega)]
    exact fsL_pos f b l _ _ _ h
theorem fsL_exh (f b : Int) (hf : 0 ≤ f) : ∀ (l : List Int) (i : Nat) (s : Int), fsL f b i s (-1) l = if (exhR f b i s l).2 = true then (exhR f b i s l).1 else -1
  | [], _, _ => rfl
  | e :: l, i, s => by
    rw [fsL, exhR]
    by_cases q : b < s + e
    · rw [if_pos ⟨q, by omega⟩, if_pos q, fsL_pos f b l _ _ _ (by omega)]; rfl
    · rw [if_neg (by omega), if_neg q]
      exact fsL_exh f b hf l (i + 1) (s + e)
theorem exh_facts (f b : Int) (hf : 0 ≤ f) : ∀ (l : List Int) (i : Nat) (s : Int), (∀ x ∈ l, badV x = false) → ((exhR f b i s l).2 = true → 0 ≤ (exhR f b i s l).1 ∧ b < s + sumL l) ∧ ((exhR f b i s l).2 = false → (exhR f b i s l).1 = 0)
  | [], _, _, _ => by simp [exhR]
  | e :: l, i, s, h => by
    rw [exhR]
    have hs := sumL_ge l fun x hx => h x (by simp [hx])
    by_cases q : b < s + e
    · rw [if_pos q]
      refine ⟨fun _ => ⟨by simp only; omega, by simp only [sumL]; omega⟩, fun h => by simp at h⟩
    · rw [if_neg q]
      have ih := exh_facts f b hf l (i + 1) (s + e) fun x hx => h x (by simp [hx])
      refine ⟨fun h => ⟨(ih.1 h).1, by have := (ih.1 h).2; simp only [sumL]; omega⟩, ih.2⟩
/-- More errors than the budget: the burn rate is at least 1000. -/
theorem burn_big (e t g : Int) (hg : 0 ≤ g ∧ g < 1000000) (ht : 0 ≤ t ∧ t ≤ 4294967296) (he : e ≤ t) (h : budI t g < e) : 999 < burnI e t g := by
  obtain ⟨m1, m2, m3⟩ := mul_bd ht.1 ht.2 (show 1 ≤ 1000000 - g by omega) (by omega)
  unfold budI at h
  rw [Int.tdiv_eq_ediv_of_nonneg m1] at h
  have h0 : t ≠ 0 := by
    intro h0; subst h0
    simp at h
    omega
  have hp : 0 < t * (1000000 - g) := by omega
  unfold burnI
  rw [if_neg h0]
  have hep : 0 ≤ e := by
    have := Int.ediv_nonneg m1 (show (0 : Int) ≤ 1000000 by omega)
    omega
  rw [Int.tdiv_eq_ediv_of_nonneg (by omega)]
  have h2 : t * (1000000 - g) < e * 1000000 := by
    generalize t * (1000000 - g) = m at *
    omega
  have : 1000 ≤ e * 1000000000 / (t * (1000000 - g)) := by
    rw [Int.le_ediv_iff_mul_le hp]
    generalize t * (1000000 - g) = m at *
    omega
  omega
theorem sum_le : ∀ (l : List (Int × Int)), sumL (errL l) ≤ sumL (trfL l)
  | [] => Int.le_refl _
  | a :: l => by
    have ih := sum_le l
    simp only [errL, trfL] at ih
    simp only [errL, trfL, List.map_cons, sumL]
    split <;> omega
abbrev bxS9 (m f : Int) (E : List Int) : AObj := .box [.d (.str apiB), .d (.str ⟨#[]⟩), .d (.int .i64 m), .d (.int .i64 0), .d (.int .i64 0), .d (.int .i64 f), .d (.sl (E.map (D.int .i64)))]
set_option maxRecDepth 100000 in
theorem loop9_1 (g f u : Int) (v : Bool) (E T : List Int) (hl : T.length ≤ 16) (hb : ∀ x ∈ T, badV x = false) (ks : List Fr) (K : Ex → St → Prop)
    (hnext : wpn CC .norm ⟨[(1, .d (.int .i64 g)), (5, .ptr 1 0), (7, .d (.int .i64 u)), (8, .d (.bool v)), (9, .d (.int .i64 0)), (10, .d (.int .i64 (sumL T))), (11, .d (.int .i64 0)), (12, .d (.int .i64 (-1)))], [.dead, bxS9 2 f E, .dead]⟩ ks K) :
    wlp CC (s9_1 0) ⟨[(1, .d (.int .i64 g)), (5, .ptr 1 0), (6, .ptr 2 0), (7, .d (.int .i64 u)), (8, .d (.bool v)), (9, .d (.int .i64 0)), (10, .d (.int .i64 0)), (11, .d (.int .i64 0)), (12, .d (.int .i64 (-1))), (13, .d (.int .i64 0))], [.dead, bxS9 2 f E, bxS9 1 f T]⟩ (.block 0 :: .post (.tidy [1, 5, 7, 8, 9, 10, 11, 12] 0 3) :: ks) K := by
  refine wlp_inv (S := fun p : List Int × List Int => ⟨[(1, .d (.int .i64 g)), (5, .ptr 1 0), (6, .ptr 2 0), (7, .d (.int .i64 u)), (8, .d (.bool v)), (9, .d (.int .i64 0)), (10, .d (.int .i64 (sumL p.1))), (11, .d (.int .i64 0)), (12, .d (.int .i64 (-1))), (13, .d (.int .i64 p.1.length))], [.dead, bxS9 2 f E, bxS9 1 f T]⟩) (m := fun p => p.2.length)
    (Inv := fun p => p.1 ++ p.2 = T) ?_ ([], T) rfl
  rintro ⟨p1, s1⟩ g1 ih
  rw [e9_1]
  simp only at g1 ⊢
  cases s1 with
  | nil =>
    have hn := endL g1
    rw [List.append_nil] at g1
    subst g1
    simp [c9_1, TK.agg, constAV, evalAV, eqCells, EK.has, EK.hasAll, vecEls, elsR, AV.toD, toDs, AV.cells, AV.one, joinD, TyI.zeroD, OpR.of, binIntF, binStrF, AV.isPtr, ptrNil, slNil, mpNil, nilE, eqF, negF, posF, binF, pelF, pvLoad, pelSet, pvStore, boxLoad, epLoad, loadF, boxStore, storeF, fieldAddrF, fieldF, epOf, indexAddrF, byteF, indexF, mapLen, lenF, cutF, sliceF, isSl, slice3F, fillF, arrFs, buildF, partsX, landV, buildSliceF, roomB, appVec, appendF, mmFrom, mmF, max2', min2', clearVec, clearF, builtinF, convF, unF, pickF, nilChkF, extF, ptrsOf, callF, makeSliceF, sameD, keyOk, mapOb, mapEs, okV, lookF, lookupF, putE, mapPut, mapUpdateF, capsOf, allocF, boxF, convertF, makeFuncF, makeMapF, opF, reach, reachOf, AObj.live, closedB, nodupB, packO, packL, packX, backN, backG, backO, obL, backE, frzX, frzO, AV.vids, frzL, landC, sameObs, landR, touchF, D.cells, D.decEq, D.decEqs, AV.decEq, AV.decEqs, AObj.decEq, AV.oids0, AV.oids, AObj.oids, renG, renP, AV.ren0, AV.ren, envGet, envPut, envKeep, obGet, setEff, putV, St.put, stepS, keyChk, chkD, accD, Ex.block, AV.under, AObj.under, laysOf, roomFor, mkvO, frzG, szOk, killO, usedBy, tidyS, ghost, ghostE, normSt, resOf, allSome, one0, resultsF, finL, finishL, finish, endF, startEnv, chkC, backX, comeC, wpn_nil, wpn_seq, wpn_loop, wpn_seq_exit, wpn_loop_exit, wpn_seq_ret, wpn_loop_ret, wpn_block, wpn_post, wpk_skip, wpk_exit, wpk_ret, wpk_reg, wpk_seq, wpk_condT, wpk_block, wpk_loop, wpk_pre, wpk_post, wop_nil, wop_cons, wop_guard, St.know, envSet, cond_d, cond_bool, cond_int, cond_str, endE, endQ, freeB, disj, pushT, bitsW, int_beq, int_bne, eqS_def, Nat.testBit_eq_decide_div_mod_eq, fuelL_eq, ann0_lays, ann0_dd, ann0_ro, elsOf_dsl, elsOf_dnils, toNat_succ, nn_succ, pos_succ, one_succ, rng1, rng2, rng3, rng4, rng5, rng6, rng7, rng8, List.idxOf_cons, T3, T4, T5, T9, T23, T25, T27, T32, T33, T35, T39, T50, T52, T57, T59, T64, T65, T66, T70, T71, T77, T81, T83, T88, T89, T91, T95, T97, T99, T100, T112, CT]
    exact hnext
  | cons x s1 =>
    obtain ⟨k1, k2, k3, k4, k5, k6⟩ := atL (D.int .i64) g1 (by omega)
    have kg := getL k5 k4
    have hx := hb x (List.mem_of_getElem? k5)
    simp [badV] at hx
    have hp := sumL_ge p1 fun z hz => hb z (by rw [← g1]; simp [hz])
    have hw : IntKind.i64.wrap (sumL p1 + x) = sumL p1 + x := wrap64 (by omega) (by omega)
    have hsum : sumL (p1 ++ [x]) = sumL p1 + x := by rw [sumL_app]; simp [sumL]
    have ih := ih (p1 ++ [x], s1) (by simpa using g1) (by simp)
    simp [hsum] at ih
    simp [c9_1, TK.agg, constAV, evalAV, eqCells, EK.has, EK.hasAll, vecEls, elsR, AV.toD, toDs, AV.cells, AV.one, joinD, TyI.zeroD, OpR.of, binIntF, binStrF, AV.isPtr, ptrNil, slNil, mpNil, nilE, eqF, negF, posF, binF, pelF, pvLoad, pelSet, pvStore, boxLoad, epLoad, loadF, boxStore, storeF, fieldAddrF, fieldF, epOf, indexAddrF, byteF, indexF, mapLen, lenF, cutF, sliceF, isSl, slice3F, fillF, arrFs, buildF, partsX, landV, buildSliceF, roomB, appVec, appendF, mmFrom, mmF, max2', min2', clearVec, clearF, builtinF, convF, unF, pickF, nilChkF, extF, ptrsOf, callF, makeSliceF, sameD, keyOk, mapOb, mapEs, okV, lookF, lookupF, putE, mapPut, mapUpdateF, capsOf, allocF, boxF, convertF, makeFuncF, makeMapF, opF, reach, reachOf, AObj.live, closedB, nodupB, packO, packL, packX, backN, backG, backO, obL, backE, frzX, frzO, AV.vids, frzL, landC, sameObs, landR, touchF, D.cells, D.decEq, D.decEqs, AV.decEq, AV.decEqs, AObj.decEq, AV.oids0, AV.oids, AObj.oids, renG, renP, AV.ren0, AV.ren, envGet, envPut, envKeep, obGet, setEff, putV, St.put, stepS, keyChk, chkD, accD, Ex.block, AV.under, AObj.under, laysOf, roomFor, mkvO, frzG, szOk, killO, usedBy, tidyS, ghost, ghostE, normSt, resOf, allSome, one0, resultsF, finL, finishL, finish, endF, startEnv, chkC, backX, comeC, wpn_nil, wpn_seq, wpn_loop, wpn_seq_exit, wpn_loop_exit, wpn_seq_ret, wpn_loop_ret, wpn_block, wpn_post, wpk_skip, wpk_exit, wpk_ret, wpk_reg, wpk_seq, wpk_condT, wpk_block, wpk_loop, wpk_pre, wpk_post, wop_nil, wop_cons, wop_guard, St.know, envSet, cond_d, cond_bool, cond_int, cond_str, endE, endQ, freeB, disj, pushT, bitsW, int_beq, int_bne, eqS_def, Nat.testBit_eq_decide_div_mod_eq, fuelL_eq, ann0_lays, ann0_dd, ann0_ro, elsOf_dsl, elsOf_dnils, toNat_succ, nn_succ, pos_succ, one_succ, rng1, rng2, rng3, rng4, rng5, rng6, rng7, rng8, List.idxOf_cons, T3, T4, T5, T9, T23, T25, T27, T32, T33, T35, T39, T50, T52, T57, T59, T64, T65, T66, T70, T71, T77, T81, T83, T88, T89, T91, T95, T97, T99, T100, T112, CT, k2, k3, k4, k5, kg, hw]
    exact ih
set_option maxRecDepth 100000 in
theorem loop9_2 (g f u a b : Int) (v : Bool) (E : List Int) (hl : E.length ≤ 16) (hf : 0 ≤ f ∧ f ≤ 1000000) (hb : ∀ x ∈ E, badV x = false) (w1 : IntKind.i64.wrap (1000000 - g) = 1000000 - g) (w2 : IntKind.i64.wrap (a * (1000000 - g)) = a * (1000000 - g)) (w3 : IntKind.i64.wrap ((a * (1000000 - g)).tdiv 1000000) = b) (ks : List Fr) (K : Ex → St → Prop)
    (hnext : wpn CC .norm ⟨[(1, .d (.int .i64 g)), (7, .d (.int .i64 u)), (8, .d (.bool v)), (9, .d (.int .i64 0)), (10, .d (.int .i64 a)), (11, .d (.int .i64 (sumL E))), (12, .d (.int .i64 (fsL f b 0 0 (-1) E)))], [.dead, .dead, .dead]⟩ ks K) :
    wlp CC (s9_2 0) ⟨[(1, .d (.int .i64 g)), (5, .ptr 1 0), (7, .d (.int .i64 u)), (8, .d (.bool v)), (9, .d (.int .i64 0)), (10, .d (.int .i64 a)), (11, .d (.int .i64 0)), (12, .d (.int .i64 (-1))), (14, .d (.int .i64 0))], [.dead, bxS9 2 f E, .dead]⟩ (.block 2 :: .post (.tidy [1, 7, 8, 9, 10, 11, 12] 0 3) :: ks) K := by
  refine wlp_inv (S := fun p : List Int × List Int × Int => ⟨[(1, .d (.int .i64 g)), (5, .ptr 1 0), (7, .d (.int .i64 u)), (8, .d (.bool v)), (9, .d (.int .i64 0)), (10, .d (.int .i64 a)), (11, .d (.int .i64 (sumL p.1))), (12, .d (.int .i64 p.2.2)), (14, .d (.int .i64 p.1.length))], [.dead, bxS9 2 f E, .dead]⟩) (m := fun p => p.2.1.length)
    (Inv := fun p => p.1 ++ p.2.1 = E ∧ fsL f b p.1.length (sumL p.1) p.2.2 p.2.1 = fsL f b 0 0 (-1) E) ?_ ([], E, -1) ⟨rfl, rfl⟩
  rintro ⟨p1, s1, fi⟩ ⟨g1, g2⟩ ih
  rw [e9_2]
  simp only at g1 g2 ⊢
  cases s1 with
  | nil =>
    have hn := endL g1
    rw [List.append_nil] at g1
    subst g1
    rw [← g2] at hnext
    simp only [fsL] at hnext
    simp [c9_2, TK.agg, constAV, evalAV, eqCells, EK.has, EK.hasAll, vecEls, elsR, AV.toD, toDs, AV.cells, AV.one, joinD, TyI.zeroD, OpR.of, binIntF, binStrF, AV.isPtr, ptrNil, slNil, mpNil, nilE, eqF, negF, posF, binF, pelF, pvLoad, pelSet, pvStore, boxLoad, epLoad, loadF, boxStore, storeF, fieldAddrF, fieldF, epOf, indexAddrF, byteF, indexF, mapLen, lenF, cutF, sliceF, isSl, slice3F, fillF, arrFs, buildF, partsX, landV, buildSliceF, roomB, appVec, appendF, mmFrom, mmF, max2', min2', clearVec, clearF, builtinF, convF, unF, pickF, nilChkF, extF, ptrsOf, callF, makeSliceF, sameD, keyOk, mapOb, mapEs, okV, lookF, lookupF, putE, mapPut, mapUpdateF, capsOf, allocF, boxF, convertF, makeFuncF, makeMapF, opF, reach, reachOf, AObj.live, closedB, nodupB, packO, packL, packX, backN, backG, backO, obL, backE, frzX, frzO, AV.vids, frzL, landC, sameObs, landR, touchF, D.cells, D.decEq, D.decEqs, AV.decEq, AV.decEqs, AObj.decEq, AV.oids0, AV.oids, AObj.oids, renG, renP, AV.ren0, AV.ren, envGet, envPut, envKeep, obGet, setEff, putV, St.put, stepS, keyChk, chkD, accD, Ex.block, AV.under, AObj.under, laysOf, roomFor, mkvO, frzG, szOk, killO, usedBy, tidyS, ghost, ghostE, normSt, resOf, allSome, one0, resultsF, finL, finishL, finish, endF, startEnv, chkC, backX, comeC, wpn_nil, wpn_seq, wpn_loop, wpn_seq_exit, wpn_loop_exit, wpn_seq_ret, wpn_loop_ret, wpn_block, wpn_post, wpk_skip, wpk_exit, wpk_ret, wpk_reg, wpk_seq, wpk_condT, wpk_block, wpk_loop, wpk_pre, wpk_post, wop_nil, wop_cons, wop_guard, St.know, envSet, cond_d, cond_bool, cond_int, cond_str, endE, endQ, freeB, disj, pushT, bitsW, int_beq, int_bne, eqS_def, Nat.testBit_eq_decide_div_mod_eq, fuelL_eq, ann0_lays, ann0_dd, ann0_ro, elsOf_dsl, elsOf_dnils, toNat_succ, nn_succ, pos_succ, one_succ, rng1, rng2, rng3, rng4, rng5, rng6, rng7, rng8, List.idxOf_cons, T3, T4, T5, T9, T23, T25, T27, T32, T33, T35, T39, T50, T52, T57, T59, T64, T65, T66, T70, T71, T77, T81, T83, T88, T89, T91, T95, T97, T99, T100, T112, CT]
    exact hnext
  | cons x s1 =>
    obtain ⟨k1, k2, k3, k4, k5, k6⟩ := atL (D.int .i64) g1 (by omega)
    have kg := getL k5 k4
    have hx := hb x (List.mem_of_getElem? k5)
    simp [badV] at hx
    have hp := sumL_ge p1 fun z hz => hb z (by rw [← g1]; simp [hz])
    have hw : IntKind.i64.wrap (sumL p1 + x) = sumL p1 + x := wrap64 (by omega) (by omega)
    have hw2 : IntKind.i64.wrap (f + p1.length) = f + p1.length := wrap64 (by omega) (by omega)
    have hsum : sumL (p1 ++ [x]) = sumL p1 + x := by rw [sumL_app]; simp [sumL]
    simp only [fsL] at g2
    by_cases q : b < sumL p1 + x
    · by_cases q2 : fi < 0
      · have ih := ih (p1 ++ [x], s1, f + p1.length) ⟨by simpa using g1, by rw [if_pos ⟨q, q2⟩] at g2; simpa [hsum] using g2⟩ (by simp)
        simp [hsum] at ih
        simp [c9_2, TK.agg, constAV, evalAV, eqCells, EK.has, EK.hasAll, vecEls, elsR, AV.toD, toDs, AV.cells, AV.one, joinD, TyI.zeroD, OpR.of, binIntF, binStrF, AV.isPtr, ptrNil, slNil, mpNil, nilE, eqF, negF, posF, binF, pelF, pvLoad, pelSet, pvStore, boxLoad, epLoad, loadF, boxStore, storeF, fieldAddrF, fieldF, epOf, indexAddrF, byteF, indexF, mapLen, lenF, cutF, sliceF, isSl, slice3F, fillF, arrFs, buildF, partsX, landV, buildSliceF, roomB, appVec, appendF, mmFrom, mmF, max2', min2', clearVec, clearF, builtinF, convF, unF, pickF, nilChkF, extF, ptrsOf, callF, makeSliceF, sameD, keyOk, mapOb, mapEs, okV, lookF, lookupF, putE, mapPut, mapUpdateF, capsOf, allocF, boxF, convertF, makeFuncF, makeMapF, opF, reach, reachOf, AObj.live, closedB, nodupB, packO, packL, packX, backN, backG, backO, obL, backE, frzX, frzO, AV.vids, frzL, landC, sameObs, landR, touchF, D.cells, D.decEq, D.decEqs, AV.decEq, AV.decEqs, AObj.decEq, AV.oids0, AV.oids, AObj.oids, renG, renP, AV.ren0, AV.ren, envGet, envPut, envKeep, obGet, setEff, putV, St.put, stepS, keyChk, chkD, accD, Ex.block, AV.under, AObj.under, laysOf, roomFor, mkvO, frzG, szOk, killO, usedBy, tidyS, ghost, ghostE, normSt, resOf, allSome, one0, resultsF, finL, finishL, finish, endF, startEnv, chkC, backX, comeC, wpn_nil, wpn_seq, wpn_loop, wpn_seq_exit, wpn_loop_exit, wpn_seq_ret, wpn_loop_ret, wpn_block, wpn_post, wpk_skip, wpk_exit, wpk_ret, wpk_reg, wpk_seq, wpk_condT, wpk_block, wpk_loop, wpk_pre, wpk_post, wop_nil, wop_cons, wop_guard, St.know, envSet, cond_d, cond_bool, cond_int, cond_str, endE, endQ, freeB, disj, pushT, bitsW, int_beq, int_bne, eqS_def, Nat.testBit_eq_decide_div_mod_eq, fuelL_eq, ann0_lays, ann0_dd, ann0_ro, elsOf_dsl, elsOf_dnils, toNat_succ, nn_succ, pos_succ, one_succ, rng1, rng2, rng3, rng4, rng5, rng6, rng7, rng8, List.idxOf_cons, T3, T4, T5, T9, T23, T25, T27, T32, T33, T35, T39, T50, T52, T57, T59, T64, T65, T66, T70, T71, T77, T81, T83, T88, T89, T91, T95, T97, T99, T100, T112, CT, k2, k3, k4, k5, kg, hw, hw2, w1, w2, w3, q, q2]
        exact ih
      · have ih := ih (p1 ++ [x], s1, fi) ⟨by simpa using g1, by rw [if_neg (fun h => q2 h.2)] at g2; simpa [hsum] using g2⟩ (by simp)
        simp [hsum] at ih
        simp [c9_2, TK.agg, constAV, evalAV, eqCells, EK.has, EK.hasAll, vecEls, elsR, AV.toD, toDs, AV.cells, AV.one, joinD, TyI.zeroD, OpR.of, binIntF, binStrF, AV.isPtr, ptrNil, slNil, mpNil, nilE, eqF, negF, posF, binF, pelF, pvLoad, pelSet, pvStore, boxLoad, epLoad, loadF, boxStore, storeF, fieldAddrF, fieldF, epOf, indexAddrF, byteF, indexF, mapLen, lenF, cutF, sliceF, isSl, slice3F, fillF, arrFs, buildF, partsX, landV, buildSliceF, roomB, appVec, appendF, mmFrom, mmF, max2', min2', clearVec, clearF, builtinF, convF, unF, pickF, nilChkF, extF, ptrsOf, callF, makeSliceF, sameD, keyOk, mapOb, mapEs, okV, lookF, lookupF, putE, mapPut, mapUpdateF, capsOf, allocF, boxF, convertF, makeFuncF, makeMapF, opF, reach, reachOf, AObj.live, closedB, nodupB, packO, packL, packX, backN, backG, backO, obL, backE, frzX, frzO, AV.vids, frzL, landC, sameObs, landR, touchF, D.cells, D.decEq, D.decEqs, AV.decEq, AV.decEqs, AObj.decEq, AV.oids0, AV.oids, AObj.oids, renG, renP, AV.ren0, AV.ren, envGet, envPut, envKeep, obGet, setEff, putV, St.put, stepS, keyChk, chkD, accD, Ex.block, AV.under, AObj.under, laysOf, roomFor, mkvO, frzG, szOk, killO, usedBy, tidyS, ghost, ghostE, normSt, resOf, allSome, one0, resultsF, finL, finishL, finish, endF, startEnv, chkC, backX, comeC, wpn_nil, wpn_seq, wpn_loop, wpn_seq_exit, wpn_loop_exit, wpn_seq_ret, wpn_loop_ret, wpn_block, wpn_post, wpk_skip, wpk_exit, wpk_ret, wpk_reg, wpk_seq, wpk_condT, wpk_block, wpk_loop, wpk_pre, wpk_post, wop_nil, wop_cons, wop_guard, St.know, envSet, cond_d, cond_bool, cond_int, cond_str, endE, endQ, freeB, disj, pushT, bitsW, int_beq, int_bne, eqS_def, Nat.testBit_eq_decide_div_mod_eq, fuelL_eq, ann0_lays, ann0_dd, ann0_ro, elsOf_dsl, elsOf_dnils, toNat_succ, nn_succ, pos_succ, one_succ, rng1, rng2, rng3, rng4, rng5, rng6, rng7, rng8, List.idxOf_cons, T3, T4, T5, T9, T23, T25, T27, T32, T33, T35, T39, T50, T52, T57, T59, T64, T65, T66, T70, T71, T77, T81, T83, T88, T89, T91, T95, T97, T99, T100, T112, CT, k2, k3, k4, k5, kg, hw, hw2, w1, w2, w3, q, q2]
        exact ih
    · have ih := ih (p1 ++ [x], s1, fi) ⟨by simpa using g1, by rw [if_neg (fun h => q h.1)] at g2; simpa [hsum] using g2⟩ (by simp)
      simp [hsum] at ih
      simp [c9_2, TK.agg, constAV, evalAV, eqCells, EK.has, EK.hasAll, vecEls, elsR, AV.toD, toDs, AV.cells, AV.one, joinD, TyI.zeroD, OpR.of, binIntF, binStrF, AV.isPtr, ptrNil, slNil, mpNil, nilE, eqF, negF, posF, binF, pelF, pvLoad, pelSet, pvStore, boxLoad, epLoad, loadF, boxStore, storeF, fieldAddrF, fieldF, epOf, indexAddrF, byteF, indexF, mapLen, lenF, cutF, sliceF, isSl, slice3F, fillF, arrFs, buildF, partsX, landV, buildSliceF, roomB, appVec, appendF, mmFrom, mmF, max2', min2', clearVec, clearF, builtinF, convF, unF, pickF, nilChkF, extF, ptrsOf, callF, makeSliceF, sameD, keyOk, mapOb, mapEs, okV, lookF, lookupF, putE, mapPut, mapUpdateF, capsOf, allocF, boxF, convertF, makeFuncF, makeMapF, opF, reach, reachOf, AObj.live, closedB, nodupB, packO, packL, packX, backN, backG, backO, obL, backE, frzX, frzO, AV.vids, frzL, landC, sameObs, landR, touchF, D.cells, D.decEq, D.decEqs, AV.decEq, AV.decEqs, AObj.decEq, AV.oids0, AV.oids, AObj.oids, renG, renP, AV.ren0, AV.ren, envGet, envPut, envKeep, obGet, setEff, putV, St.put, stepS, keyChk, chkD, accD, Ex.block, AV.under, AObj.under, laysOf, roomFor, mkvO, frzG, szOk, killO, usedBy, tidyS, ghost, ghostE, normSt, resOf, allSome, one0, resultsF, finL, finishL, finish, endF, startEnv, chkC, backX, comeC, wpn_nil, wpn_seq, wpn_loop, wpn_seq_exit, wpn_loop_exit, wpn_seq_ret, wpn_loop_ret, wpn_block, wpn_post, wpk_skip, wpk_exit, wpk_ret, wpk_reg, wpk_seq, wpk_condT, wpk_block, wpk_loop, wpk_pre, wpk_post, wop_nil, wop_cons, wop_guard, St.know, envSet, cond_d, cond_bool, cond_int, cond_str, endE, endQ, freeB, disj, pushT, bitsW, int_beq, int_bne, eqS_def, Nat.testBit_eq_decide_div_mod_eq, fuelL_eq, ann0_lays, ann0_dd, ann0_ro, elsOf_dsl, elsOf_dnils, toNat_succ, nn_succ, pos_succ, one_succ, rng1, rng2, rng3, rng4, rng5, rng6, rng7, rng8, List.idxOf_cons, T3, T4, T5, T9, T23, T25, T27, T32, T33, T35, T39, T50, T52, T57, T59, T64, T65, T66, T70, T71, T77, T81, T83, T88, T89, T91, T95, T97, T99, T100, T112, CT, k2, k3, k4, k5, kg, hw, hw2, w1, w2, w3, q]
      exact ih
theorem lim0_ok : (⟨0, 0, 0, 0, 0⟩ : Lim).ok := ⟨⟨by decide, by decide⟩, ⟨by decide, by decide⟩, ⟨by decide, by decide⟩, ⟨by decide, by decide⟩, ⟨by decide, by decide⟩⟩
set_option maxRecDepth 100000 in
set_option maxHeartbeats 4000000 in
theorem law9_run (y : Loa) (hy : y.ok) (g : Int) : run CC 9 [.d y.enc, .d (.int .i64 g)] [] = some (.d (.bool true), []) := by
  refine run_code (s := s9 0) rfl rfl rfl (by kernel_rfl) ?_
  have h := loa_inp lim0_ok hy
  have hi := input26_run y hy
  obtain ⟨a1, a2, a3⟩ := slF hy.sl
  simp only [AV.one, AV.cells, D.cells] at a1 a2 a3
  simp only [Loa.err, Loa.trf, Loa.enc] at hi ⊢
  have hf := h.frm
  generalize y.slots.take 16 = l at *
  generalize y.frm = f at *
  by_cases hg : 0 ≤ g ∧ g < 1000000
  · have hx := exh_run h g hg
    have hb1 : ∀ z ∈ errL l, badV z = false := by simpa using errL_bad l h.ok
    have hb2 : ∀ z ∈ trfL l, badV z = false := by simpa using trfL_bad l h.ok
    have hs := trfL_sum l h.ok
    have hs0 := sumL_ge (trfL l) hb2
    have hs1 := sumL_ge (errL l) hb1
    have hl := h.len
    have hle1 : (errL l).length ≤ 16 := by rw [errL_len]; exact hl
    have hle2 : (trfL l).length ≤ 16 := by rw [trfL_len]; exact hl
    have het := sum_le l
    have hef := exh_facts f (budI (sumL (trfL l)) g) hf.1 (errL l) 0 0 hb1
    have hfs := fsL_exh f (budI (sumL (trfL l)) g) hf.1 (errL l) 0 0
    have hbig := burn_big (sumL (errL l)) (sumL (trfL l)) g hg ⟨hs0.1, by omega⟩ het
    have h25 := burn25_run (sumL (errL l)) (sumL (trfL l)) g ⟨hg.1, hg.2, hs0.1, by omega, hs1.1, het⟩
    obtain ⟨m1, m2, m3⟩ := mul_bd hs0.1 (show sumL (trfL l) ≤ 4294967296 by omega) (show 1 ≤ 1000000 - g by omega) (by omega)
    obtain ⟨d1, d2⟩ := tdiv_bd (a := sumL (trfL l) * (1000000 - g)) (b := 1000000) (by omega) (by omega)
    have hbd : (sumL (trfL l) * (1000000 - g)).tdiv 1000000 = budI (sumL (trfL l)) g := rfl
    rw [hbd] at d1 d2
    generalize hE : errL l = E at *
    generalize hT : trfL l = T at *
    generalize hb : budI (sumL T) g = b at *
    simp only [Loa.enc, Ser.enc, serM] at hi hx
    have g1 : ¬ g < 0 := by omega
    have g2 : ¬ 999999 < g := by omega
    simp [s9, TK.agg, constAV, evalAV, eqCells, EK.has, EK.hasAll, vecEls, elsR, AV.toD, toDs, AV.cells, AV.one, joinD, TyI.zeroD, OpR.of, binIntF, binStrF, AV.isPtr, ptrNil, slNil, mpNil, nilE, eqF, negF, posF, binF, pelF, pvLoad, pelSet, pvStore, boxLoad, epLoad, loadF, boxStore, storeF, fieldAddrF, fieldF, epOf, indexAddrF, byteF, indexF, mapLen, lenF, cutF, sliceF, isSl, slice3F, fillF, arrFs, buildF, partsX, landV, buildSliceF, roomB, appVec, appendF, mmFrom, mmF, max2', min2', clearVec, clearF, builtinF, convF, unF, pickF, nilChkF, extF, ptrsOf, callF, makeSliceF, sameD, keyOk, mapOb, mapEs, okV, lookF, lookupF, putE, mapPut, mapUpdateF, capsOf, allocF, boxF, convertF, makeFuncF, makeMapF, opF, reach, reachOf, AObj.live, closedB, nodupB, packO, packL, packX, backN, backG, backO, obL, backE, frzX, frzO, AV.vids, frzL, landC, sameObs, landR, touchF, D.cells, D.decEq, D.decEqs, AV.decEq, AV.decEqs, AObj.decEq, AV.oids0, AV.oids, AObj.oids, renG, renP, AV.ren0, AV.ren, envGet, envPut, envKeep, obGet, setEff, putV, St.put, stepS, keyChk, chkD, accD, Ex.block, AV.under, AObj.under, laysOf, roomFor, mkvO, frzG, szOk, killO, usedBy, tidyS, ghost, ghostE, normSt, resOf, allSome, one0, resultsF, finL, finishL, finish, endF, startEnv, chkC, backX, comeC, wpn_nil, wpn_seq, wpn_loop, wpn_seq_exit, wpn_loop_exit, wpn_seq_ret, wpn_loop_ret, wpn_block, wpn_post, wpk_skip, wpk_exit, wpk_ret, wpk_reg, wpk_seq, wpk_condT, wpk_block, wpk_loop, wpk_pre, wpk_post, wop_nil, wop_cons, wop_guard, St.know, envSet, cond_d, cond_bool, cond_int, cond_str, endE, endQ, freeB, disj, pushT, bitsW, int_beq, int_bne, eqS_def, Nat.testBit_eq_decide_div_mod_eq, fuelL_eq, ann0_lays, ann0_dd, ann0_ro, elsOf_dsl, elsOf_dnils, toNat_succ, nn_succ, pos_succ, one_succ, rng1, rng2, rng3, rng4, rng5, rng6, rng7, rng8, List.idxOf_cons, T3, T4, T5, T9, T23, T25, T27, T32, T33, T35, T39, T50, T52, T57, T59, T64, T65, T66, T70, T71, T77, T81, T83, T88, T89, T91, T95, T97, T99, T100, T112, CT, known_run, Loa.enc, hi, hx, a1, a2, a3, g1, g2]
    have w1 : IntKind.i64.wrap (1000000 - g) = 1000000 - g := wrap64 (by omega) (by omega)
    have w2 : IntKind.i64.wrap (sumL T * (1000000 - g)) = sumL T * (1000000 - g) := wrap64 (by omega) (by omega)
    have w3 : IntKind.i64.wrap ((sumL T * (1000000 - g)).tdiv 1000000) = b := by rw [hbd]; exact wrap64 (by omega) (by omega)
    refine loop9_1 g f _ _ E T hle2 hb2 _ _ ?_
    simp [TK.agg, constAV, evalAV, eqCells, EK.has, EK.hasAll, vecEls, elsR, AV.toD, toDs, AV.cells, AV.one, joinD, TyI.zeroD, OpR.of, binIntF, binStrF, AV.isPtr, ptrNil, slNil, mpNil, nilE, eqF, negF, posF, binF, pelF, pvLoad, pelSet, pvStore, boxLoad, epLoad, loadF, boxStore, storeF, fieldAddrF, fieldF, epOf, indexAddrF, byteF, indexF, mapLen, lenF, cutF, sliceF, isSl, slice3F, fillF, arrFs, buildF, partsX, landV, buildSliceF, roomB, appVec, appendF, mmFrom, mmF, max2', min2', clearVec, clearF, builtinF, convF, unF, pickF, nilChkF, extF, ptrsOf, callF, makeSliceF, sameD, keyOk, mapOb, mapEs, okV, lookF, lookupF, putE, mapPut, mapUpdateF, capsOf, allocF, boxF, convertF, makeFuncF, makeMapF, opF, reach, reachOf, AObj.live, closedB, nodupB, packO, packL, packX, backN, backG, backO, obL, backE, frzX, frzO, AV.vids, frzL, landC, sameObs, landR, touchF, D.cells, D.decEq, D.decEqs, AV.decEq, AV.decEqs, AObj.decEq, AV.oids0, AV.oids, AObj.oids, renG, renP, AV.ren0, AV.ren, envGet, envPut, envKeep, obGet, setEff, putV, St.put, stepS, keyChk, chkD, accD, Ex.block, AV.under, AObj.under, laysOf, roomFor, mkvO, frzG, szOk, killO, usedBy, tidyS, ghost, ghostE, normSt, resOf, allSome, one0, resultsF, finL, finishL, finish, endF, startEnv, chkC, backX, comeC, wpn_nil, wpn_seq, wpn_loop, wpn_seq_exit, wpn_loop_exit, wpn_seq_ret, wpn_loop_ret, wpn_block, wpn_post, wpk_skip, wpk_exit, wpk_ret, wpk_reg, wpk_seq, wpk_condT, wpk_block, wpk_loop, wpk_pre, wpk_post, wop_nil, wop_cons, wop_guard, St.know, envSet, cond_d, cond_bool, cond_int, cond_str, endE, endQ, freeB, disj, pushT, bitsW, int_beq, int_bne, eqS_def, Nat.testBit_eq_decide_div_mod_eq, fuelL_eq, ann0_lays, ann0_dd, ann0_ro, elsOf_dsl, elsOf_dnils, toNat_succ, nn_succ, pos_succ, one_succ, rng1, rng2, rng3, rng4, rng5, rng6, rng7, rng8, List.idxOf_cons, T3, T4, T5, T9, T23, T25, T27, T32, T33, T35, T39, T50, T52, T57, T59, T64, T65, T66, T70, T71, T77, T81, T83, T88, T89, T91, T95, T97, T99, T100, T112, CT]
    refine loop9_2 g f _ (sumL T) b _ E hle1 hf hb1 w1 w2 w3 _ _ ?_
    rw [hfs]
    obtain ⟨ef1, ef2⟩ := hef
    generalize (exhR f b 0 0 E).1 = u at *
    generalize (exhR f b 0 0 E).2 = v at *
    cases v with
    | true =>
      obtain ⟨u1, u2⟩ := ef1 rfl
      have hbig := hbig (by omega)
      simp [TK.agg, constAV, evalAV, eqCells, EK.has, EK.hasAll, vecEls, elsR, AV.toD, toDs, AV.cells, AV.one, joinD, TyI.zeroD, OpR.of, binIntF, binStrF, AV.isPtr, ptrNil, slNil, mpNil, nilE, eqF, negF, posF, binF, pelF, pvLoad, pelSet, pvStore, boxLoad, epLoad, loadF, boxStore, storeF, fieldAddrF, fieldF, epOf, indexAddrF, byteF, indexF, mapLen, lenF, cutF, sliceF, isSl, slice3F, fillF, arrFs, buildF, partsX, landV, buildSliceF, roomB, appVec, appendF, mmFrom, mmF, max2', min2', clearVec, clearF, builtinF, convF, unF, pickF, nilChkF, extF, ptrsOf, callF, makeSliceF, sameD, keyOk, mapOb, mapEs, okV, lookF, lookupF, putE, mapPut, mapUpdateF, capsOf, allocF, boxF, convertF, makeFuncF, makeMapF, opF, reach, reachOf, AObj.live, closedB, nodupB, packO, packL, packX, backN, backG, backO, obL, backE, frzX, frzO, AV.vids, frzL, landC, sameObs, landR, touchF, D.cells, D.decEq, D.decEqs, AV.decEq, AV.decEqs, AObj.decEq, AV.oids0, AV.oids, AObj.oids, renG, renP, AV.ren0, AV.ren, envGet, envPut, envKeep, obGet, setEff, putV, St.put, stepS, keyChk, chkD, accD, Ex.block, AV.under, AObj.under, laysOf, roomFor, mkvO, frzG, szOk, killO, usedBy, tidyS, ghost, ghostE, normSt, resOf, allSome, one0, resultsF, finL, finishL, finish, endF, startEnv, chkC, backX, comeC, wpn_nil, wpn_seq, wpn_loop, wpn_seq_exit, wpn_loop_exit, wpn_seq_ret, wpn_loop_ret, wpn_block, wpn_post, wpk_skip, wpk_exit, wpk_ret, wpk_reg, wpk_seq, wpk_condT, wpk_block, wpk_loop, wpk_pre, wpk_post, wop_nil, wop_cons, wop_guard, St.know, envSet, cond_d, cond_bool, cond_int, cond_str, endE, endQ, freeB, disj, pushT, bitsW, int_beq, int_bne, eqS_def, Nat.testBit_eq_decide_div_mod_eq, fuelL_eq, ann0_lays, ann0_dd, ann0_ro, elsOf_dsl, elsOf_dnils, toNat_succ, nn_succ, pos_succ, one_succ, rng1, rng2, rng3, rng4, rng5, rng6, rng7, rng8, List.idxOf_cons, T3, T4, T5, T9, T23, T25, T27, T32, T33, T35, T39, T50, T52, T57, T59, T64, T65, T66, T70, T71, T77, T81, T83, T88, T89, T91, T95, T97, T99, T100, T112, CT, u1, h25, hbig]
    | false =>
      have u1 := ef2 rfl
      simp [TK.agg, constAV, evalAV, eqCells, EK.has, EK.hasAll, vecEls, elsR, AV.toD, toDs, AV.cells, AV.one, joinD, TyI.zeroD, OpR.of, binIntF, binStrF, AV.isPtr, ptrNil, slNil, mpNil, nilE, eqF, negF, posF, binF, pelF, pvLoad, pelSet, pvStore, boxLoad, epLoad, loadF, boxStore, storeF, fieldAddrF, fieldF, epOf, indexAddrF, byteF, indexF, mapLen, lenF, cutF, sliceF, isSl, slice3F, fillF, arrFs, buildF, partsX, landV, buildSliceF, roomB, appVec, appendF, mmFrom, mmF, max2', min2', clearVec, clearF, builtinF, convF, unF, pickF, nilChkF, extF, ptrsOf, callF, makeSliceF, sameD, keyOk, mapOb, mapEs, okV, lookF, lookupF, putE, mapPut, mapUpdateF, capsOf, allocF, boxF, convertF, makeFuncF, makeMapF, opF, reach, reachOf, AObj.live, closedB, nodupB, packO, packL, packX, backN, backG, backO, obL, backE, frzX, frzO, AV.vids, frzL, landC, sameObs, landR, touchF, D.cells, D.decEq, D.decEqs, AV.decEq, AV.decEqs, AObj.decEq, AV.oids0, AV.oids, AObj.oids, renG, renP, AV.ren0, AV.ren, envGet, envPut, envKeep, obGet, setEff, putV, St.put, stepS, keyChk, chkD, accD, Ex.block, AV.under, AObj.under, laysOf, roomFor, mkvO, frzG, szOk, killO, usedBy, tidyS, ghost, ghostE, normSt, resOf, allSome, one0, resultsF, finL, finishL, finish, endF, startEnv, chkC, backX, comeC, wpn_nil, wpn_seq, wpn_loop, wpn_seq_exit, wpn_loop_exit, wpn_seq_ret, wpn_loop_ret, wpn_block, wpn_post, wpk_skip, wpk_exit, wpk_ret, wpk_reg, wpk_seq, wpk_condT, wpk_block, wpk_loop, wpk_pre, wpk_post, wop_nil, wop_cons, wop_guard, St.know, envSet, cond_d, cond_bool, cond_int, cond_str, endE, endQ, freeB, disj, pushT, bitsW, int_beq, int_bne, eqS_def, Nat.testBit_eq_decide_div_mod_eq, fuelL_eq, ann0_lays, ann0_dd, ann0_ro, elsOf_dsl, elsOf_dnils, toNat_succ, nn_succ, pos_succ, one_succ, rng1, rng2, rng3, rng4, rng5, rng6, rng7, rng8, List.idxOf_cons, T3, T4, T5, T9, T23, T25, T27, T32, T33, T35, T39, T50, T52, T57, T59, T64, T65, T66, T70, T71, T77, T81, T83, T88, T89, T91, T95, T97, T99, T100, T112, CT, u1]
  · have hx := exh_bad (serM 2 f (errL l)) (serM 1 f (trfL l)) rfl rfl g hg
    simp only [Loa.enc, Ser.enc, serM] at hi hx
    by_cases g1 : g < 0
    · simp [s9, TK.agg, constAV, evalAV, eqCells, EK.has, EK.hasAll, vecEls, elsR, AV.toD, toDs, AV.cells, AV.one, joinD, TyI.zeroD, OpR.of, binIntF, binStrF, AV.isPtr, ptrNil, slNil, mpNil, nilE, eqF, negF, posF, binF, pelF, pvLoad, pelSet, pvStore, boxLoad, epLoad, loadF, boxStore, storeF, fieldAddrF, fieldF, epOf, indexAddrF, byteF, indexF, mapLen, lenF, cutF, sliceF, isSl, slice3F, fillF, arrFs, buildF, partsX, landV, buildSliceF, roomB, appVec, appendF, mmFrom, mmF, max2', min2', clearVec, clearF, builtinF, convF, unF, pickF, nilChkF, extF, ptrsOf, callF, makeSliceF, sameD, keyOk, mapOb, mapEs, okV, lookF, lookupF, putE, mapPut, mapUpdateF, capsOf, allocF, boxF, convertF, makeFuncF, makeMapF, opF, reach, reachOf, AObj.live, closedB, nodupB, packO, packL, packX, backN, backG, backO, obL, backE, frzX, frzO, AV.vids, frzL, landC, sameObs, landR, touchF, D.cells, D.decEq, D.decEqs, AV.decEq, AV.decEqs, AObj.decEq, AV.oids0, AV.oids, AObj.oids, renG, renP, AV.ren0, AV.ren, envGet, envPut, envKeep, obGet, setEff, putV, St.put, stepS, keyChk, chkD, accD, Ex.block, AV.under, AObj.under, laysOf, roomFor, mkvO, frzG, szOk, killO, usedBy, tidyS, ghost, ghostE, normSt, resOf, allSome, one0, resultsF, finL, finishL, finish, endF, startEnv, chkC, backX, comeC, wpn_nil, wpn_seq, wpn_loop, wpn_seq_exit, wpn_loop_exit, wpn_seq_ret, wpn_loop_ret, wpn_block, wpn_post, wpk_skip, wpk_exit, wpk_ret, wpk_reg, wpk_seq, wpk_condT, wpk_block, wpk_loop, wpk_pre, wpk_post, wop_nil, wop_cons, wop_guard, St.know, envSet, cond_d, cond_bool, cond_int, cond_str, endE, endQ, freeB, disj, pushT, bitsW, int_beq, int_bne, eqS_def, Nat.testBit_eq_decide_div_mod_eq, fuelL_eq, ann0_lays, ann0_dd, ann0_ro, elsOf_dsl, elsOf_dnils, toNat_succ, nn_succ, pos_succ, one_succ, rng1, rng2, rng3, rng4, rng5, rng6, rng7, rng8, List.idxOf_cons, T3, T4, T5, T9, T23, T25, T27, T32, T33, T35, T39, T50, T52, T57, T59, T64, T65, T66, T70, T71, T77, T81, T83, T88, T89, T91, T95, T97, T99, T100, T112, CT, known_run, Loa.enc, hi, hx, a1, a2, a3, g1]
    · have g2 : 999999 < g := by omega
      simp [s9, TK.agg, constAV, evalAV, eqCells, EK.has, EK.hasAll, vecEls, elsR, AV.toD, toDs, AV.cells, AV.one, joinD, TyI.zeroD, OpR.of, binIntF, binStrF, AV.isPtr, ptrNil, slNil, mpNil, nilE, eqF, negF, posF, binF, pelF, pvLoad, pelSet, pvStore, boxLoad, epLoad, loadF, boxStore, storeF, fieldAddrF, fieldF, epOf, indexAddrF, byteF, indexF, mapLen, lenF, cutF, sliceF, isSl, slice3F, fillF, arrFs, buildF, partsX, landV, buildSliceF, roomB, appVec, appendF, mmFrom, mmF, max2', min2', clearVec, clearF, builtinF, convF, unF, pickF, nilChkF, extF, ptrsOf, callF, makeSliceF, sameD, keyOk, mapOb, mapEs, okV, lookF, lookupF, putE, mapPut, mapUpdateF, capsOf, allocF, boxF, convertF, makeFuncF, makeMapF, opF, reach, reachOf, AObj.live, closedB, nodupB, packO, packL, packX, backN, backG, backO, obL, backE, frzX, frzO, AV.vids, frzL, landC, sameObs, landR, touchF, D.cells, D.decEq, D.decEqs, AV.decEq, AV.decEqs, AObj.decEq, AV.oids0, AV.oids, AObj.oids, renG, renP, AV.ren0, AV.ren, envGet, envPut, envKeep, obGet, setEff, putV, St.put, stepS, keyChk, chkD, accD, Ex.block, AV.under, AObj.under, laysOf, roomFor, mkvO, frzG, szOk, killO, usedBy, tidyS, ghost, ghostE, normSt, resOf, allSome, one0, resultsF, finL, finishL, finish, endF, startEnv, chkC, backX, comeC, wpn_nil, wpn_seq, wpn_loop, wpn_seq_exit, wpn_loop_exit, wpn_seq_ret, wpn_loop_ret, wpn_block, wpn_post, wpk_skip, wpk_exit, wpk_ret, wpk_reg, wpk_seq, wpk_condT, wpk_block, wpk_loop, wpk_pre, wpk_post, wop_nil, wop_cons, wop_guard, St.know, envSet, cond_d, cond_bool, cond_int, cond_str, endE, endQ, freeB, disj, pushT, bitsW, int_beq, int_bne, eqS_def, Nat.testBit_eq_decide_div_mod_eq, fuelL_eq, ann0_lays, ann0_dd, ann0_ro, elsOf_dsl, elsOf_dnils, toNat_succ, nn_succ, pos_succ, one_succ, rng1, rng2, rng3, rng4, rng5, rng6, rng7, rng8, List.idxOf_cons, T3, T4, T5, T9, T23, T25, T27, T32, T33, T35, T39, T50, T52, T57, T59, T64, T65, T66, T70, T71, T77, T81, T83, T88, T89, T91, T95, T97, T99, T100, T112, CT, known_run, Loa.enc, hi, hx, a1, a2, a3, g1, g2]
end Go.Proofs.YtpooehcjchkbkaaV
