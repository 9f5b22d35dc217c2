/- SortFunc of at most 12 pairs. -/
import Derived.Test.YteidaaobppjlbaaWg1
set_option linter.unusedVariables false
set_option linter.unusedSimpArgs false
namespace Go.Proofs.YteidaaobppjlbaaV
open Go.RowKit
theorem bits_run : ∀ n : Nat, n < 17 → ∃ v : Int, run CC 77 [.d (.int .u64 n)] [] = some (.d (.int .i64 v), [])
  | 0, _ => ⟨0, run_of_go 60 (by kernel_rfl)⟩
  | 1, _ => ⟨1, run_of_go 60 (by kernel_rfl)⟩
  | 2, _ => ⟨2, run_of_go 60 (by kernel_rfl)⟩
  | 3, _ => ⟨2, run_of_go 60 (by kernel_rfl)⟩
  | 4, _ => ⟨3, run_of_go 60 (by kernel_rfl)⟩
  | 5, _ => ⟨3, run_of_go 60 (by kernel_rfl)⟩
  | 6, _ => ⟨3, run_of_go 60 (by kernel_rfl)⟩
  | 7, _ => ⟨3, run_of_go 60 (by kernel_rfl)⟩
  | 8, _ => ⟨4, run_of_go 60 (by kernel_rfl)⟩
  | 9, _ => ⟨4, run_of_go 60 (by kernel_rfl)⟩
  | 10, _ => ⟨4, run_of_go 60 (by kernel_rfl)⟩
  | 11, _ => ⟨4, run_of_go 60 (by kernel_rfl)⟩
  | 12, _ => ⟨4, run_of_go 60 (by kernel_rfl)⟩
  | 13, _ => ⟨4, run_of_go 60 (by kernel_rfl)⟩
  | 14, _ => ⟨4, run_of_go 60 (by kernel_rfl)⟩
  | 15, _ => ⟨4, run_of_go 60 (by kernel_rfl)⟩
  | 16, _ => ⟨5, run_of_go 60 (by kernel_rfl)⟩
  | n + 17, h => by omega
section
variable (g : Nat) (cmp : Pr → Pr → Int) (hg : ∀ a b, run CC g [.d (pE a), .d (pE b)] [] = some (.d (.int .i64 (cmp a b)), []))
include hg
set_option maxRecDepth 100000 in
set_option maxHeartbeats 2000000 in
theorem pdq76_small (L : List Pr) (hn : L.length ≤ 12) (lim : Int) : run CC 76 [.vs 0 0 2 0 L.length, .d (.int .i64 0), .d (.int .i64 L.length), .d (.int .i64 lim), .fn g [] []] [.vec 0 false false 86 2 (psD L)] = some (.tup [], [.vec 0 false false 86 2 (psD (isortV cmp [] L))]) := by
  refine run_code (s := s76 1) rfl rfl rfl (by kernel_rfl) ?_
  have hi := ins85_run g cmp hg L (by omega)
  have hle : (L.length : Int) ≤ 12 := by omega
  have w1 : IntKind.i64.wrap (L.length : Int) = (L.length : Int) := wrap64 (by omega) (by omega)
  generalize L.length = n at *
  simp [s76, TK.agg, constAV, evalAV, eqCells, EK.has, EK.hasAll, vecEls, elsR, AV.toD, toDs, AV.cells, AV.one, joinD, TyI.zeroD, OpR.of, binIntF, binStrF, AV.isPtr, ptrNil, slNil, mpNil, nilE, eqF, negF, posF, binF, pelF, pvLoad, pelSet, pvStore, boxLoad, epLoad, loadF, boxStore, storeF, fieldAddrF, fieldF, epOf, indexAddrF, byteF, indexF, mapLen, lenF, cutF, sliceF, isSl, slice3F, fillF, arrFs, buildF, partsX, landV, buildSliceF, roomB, appVec, appendF, mmFrom, mmF, max2', min2', clearVec, clearF, convF, unF, pickF, nilChkF, extF, ptrsOf, callF, makeSliceF, sameKs, sameD, kindIs, plainFs, keyOk, mapOb, mapEs, okV, lookF, lookupF, putE, putS, mapPut, mapUpdateF, mapDel, deleteF, mapAll, rangeM, rangeF, overV, hitV, nextO, nextF, entryM, entryO, entryF, itOids, builtinF, capsOf, allocF, boxF, bytesL, bytesF, byteTy, strTy, convertF, makeFuncF, makeMapF, makeMapH, opF, reach, reachOf, AObj.live, closedB, nodupB, packO, packL, packX, backN, backG, backO, obL, backE, frzX, frzO, AV.vids, frzL, landC, sameObs, landR, touchF, D.cells, D.decEq, D.decEqs, AV.decEq, AV.decEqs, AObj.decEq, AV.oids0, AV.oids, AObj.oids, renG, renP, AV.ren0, AV.ren, envGet, envPut, envKeep, obGet, setEff, putV, St.put, stepS, keyChk, chkD, accD, Ex.block, AV.under, AObj.under, laysOf, roomFor, mkvO, frzG, szOk, killO, usedBy, tidyS, ghost, ghostE, normSt, resOf, allSome, one0, resultsF, finL, finishL, finish, endF, startEnv, chkC, backX, comeC, wpn_nil, wpn_seq, wpn_loop, wpn_seq_exit, wpn_loop_exit, wpn_seq_ret, wpn_loop_ret, wpn_block, wpn_post, wpk_skip, wpk_exit, wpk_ret, wpk_reg, wpk_seq, wpk_condT, wpk_block, wpk_loop, wpk_pre, wpk_post, wop_nil, wop_cons, wop_guard, St.know, envSet, cond_d, cond_bool, cond_int, cond_str, endE, endQ, freeB, disj, pushT, bitsW, int_beq, int_bne, eqS_def, tbE, fuelL_eq, ann0_lays, ann0_dd, ann0_ro, elsOf_dsl, elsOf_dnils, toNat_succ, nn_succ, pos_succ, one_succ, rng1, rng2, rng3, rng4, rng5, rng6, rng7, rng8, List.idxOf_cons, T3, T4, T5, T9, T22, T26, T27, T30, T32, T37, T39, T54, T66, T73, T83, T86, T99, T110, T114, T116, T141, T148, T150, CT]
  refine wlp_inv (S := fun _ : Unit => ⟨[(0, .vs 0 0 2 0 n), (1, .d (.int .i64 0)), (2, .d (.int .i64 n)), (3, .d (.int .i64 lim)), (4, .fn g [] []), (10, .d (.bool true)), (11, .d (.bool true))], [.vec 0 false false 86 2 (psD L)]⟩) (m := fun _ => 0) (Inv := fun _ => True) ?_ () trivial
  rintro _ - ih
  rw [e76_1]
  simp [c76_1, TK.agg, constAV, evalAV, eqCells, EK.has, EK.hasAll, vecEls, elsR, AV.toD, toDs, AV.cells, AV.one, joinD, TyI.zeroD, OpR.of, binIntF, binStrF, AV.isPtr, ptrNil, slNil, mpNil, nilE, eqF, negF, posF, binF, pelF, pvLoad, pelSet, pvStore, boxLoad, epLoad, loadF, boxStore, storeF, fieldAddrF, fieldF, epOf, indexAddrF, byteF, indexF, mapLen, lenF, cutF, sliceF, isSl, slice3F, fillF, arrFs, buildF, partsX, landV, buildSliceF, roomB, appVec, appendF, mmFrom, mmF, max2', min2', clearVec, clearF, convF, unF, pickF, nilChkF, extF, ptrsOf, callF, makeSliceF, sameKs, sameD, kindIs, plainFs, keyOk, mapOb, mapEs, okV, lookF, lookupF, putE, putS, mapPut, mapUpdateF, mapDel, deleteF, mapAll, rangeM, rangeF, overV, hitV, nextO, nextF, entryM, entryO, entryF, itOids, builtinF, capsOf, allocF, boxF, bytesL, bytesF, byteTy, strTy, convertF, makeFuncF, makeMapF, makeMapH, opF, reach, reachOf, AObj.live, closedB, nodupB, packO, packL, packX, backN, backG, backO, obL, backE, frzX, frzO, AV.vids, frzL, landC, sameObs, landR, touchF, D.cells, D.decEq, D.decEqs, AV.decEq, AV.decEqs, AObj.decEq, AV.oids0, AV.oids, AObj.oids, renG, renP, AV.ren0, AV.ren, envGet, envPut, envKeep, obGet, setEff, putV, St.put, stepS, keyChk, chkD, accD, Ex.block, AV.under, AObj.under, laysOf, roomFor, mkvO, frzG, szOk, killO, usedBy, tidyS, ghost, ghostE, normSt, resOf, allSome, one0, resultsF, finL, finishL, finish, endF, startEnv, chkC, backX, comeC, wpn_nil, wpn_seq, wpn_loop, wpn_seq_exit, wpn_loop_exit, wpn_seq_ret, wpn_loop_ret, wpn_block, wpn_post, wpk_skip, wpk_exit, wpk_ret, wpk_reg, wpk_seq, wpk_condT, wpk_block, wpk_loop, wpk_pre, wpk_post, wop_nil, wop_cons, wop_guard, St.know, envSet, cond_d, cond_bool, cond_int, cond_str, endE, endQ, freeB, disj, pushT, bitsW, int_beq, int_bne, eqS_def, tbE, fuelL_eq, ann0_lays, ann0_dd, ann0_ro, elsOf_dsl, elsOf_dnils, toNat_succ, nn_succ, pos_succ, one_succ, rng1, rng2, rng3, rng4, rng5, rng6, rng7, rng8, List.idxOf_cons, T3, T4, T5, T9, T22, T26, T27, T30, T32, T37, T39, T54, T66, T73, T83, T86, T99, T110, T114, T116, T141, T148, T150, CT, w1, hle, hi]
set_option maxRecDepth 100000 in
set_option maxHeartbeats 2000000 in
theorem sort59_run (L : List Pr) (hn : L.length ≤ 12) : run CC 59 [.vs 0 0 2 0 L.length, .fn g [] []] [.vec 0 false false 86 2 (psD L)] = some (.tup [], [.vec 0 false false 86 2 (psD (isortV cmp [] L))]) := by
  refine run_code (s := s59 1) rfl rfl rfl (by kernel_rfl) ?_
  obtain ⟨v, hv⟩ := bits_run L.length (by omega)
  have hp := pdq76_small g cmp hg L hn v
  have w1 : IntKind.u64.wrap (L.length : Int) = (L.length : Int) := by
    simp [IntKind.wrap, IntKind.bits, IntKind.signed]; omega
  have w2 : IntKind.i64.wrap (L.length : Int) = (L.length : Int) := wrap64 (by omega) (by omega)
  simp [s59, TK.agg, constAV, evalAV, eqCells, EK.has, EK.hasAll, vecEls, elsR, AV.toD, toDs, AV.cells, AV.one, joinD, TyI.zeroD, OpR.of, binIntF, binStrF, AV.isPtr, ptrNil, slNil, mpNil, nilE, eqF, negF, posF, binF, pelF, pvLoad, pelSet, pvStore, boxLoad, epLoad, loadF, boxStore, storeF, fieldAddrF, fieldF, epOf, indexAddrF, byteF, indexF, mapLen, lenF, cutF, sliceF, isSl, slice3F, fillF, arrFs, buildF, partsX, landV, buildSliceF, roomB, appVec, appendF, mmFrom, mmF, max2', min2', clearVec, clearF, convF, unF, pickF, nilChkF, extF, ptrsOf, callF, makeSliceF, sameKs, sameD, kindIs, plainFs, keyOk, mapOb, mapEs, okV, lookF, lookupF, putE, putS, mapPut, mapUpdateF, mapDel, deleteF, mapAll, rangeM, rangeF, overV, hitV, nextO, nextF, entryM, entryO, entryF, itOids, builtinF, capsOf, allocF, boxF, bytesL, bytesF, byteTy, strTy, convertF, makeFuncF, makeMapF, makeMapH, opF, reach, reachOf, AObj.live, closedB, nodupB, packO, packL, packX, backN, backG, backO, obL, backE, frzX, frzO, AV.vids, frzL, landC, sameObs, landR, touchF, D.cells, D.decEq, D.decEqs, AV.decEq, AV.decEqs, AObj.decEq, AV.oids0, AV.oids, AObj.oids, renG, renP, AV.ren0, AV.ren, envGet, envPut, envKeep, obGet, setEff, putV, St.put, stepS, keyChk, chkD, accD, Ex.block, AV.under, AObj.under, laysOf, roomFor, mkvO, frzG, szOk, killO, usedBy, tidyS, ghost, ghostE, normSt, resOf, allSome, one0, resultsF, finL, finishL, finish, endF, startEnv, chkC, backX, comeC, wpn_nil, wpn_seq, wpn_loop, wpn_seq_exit, wpn_loop_exit, wpn_seq_ret, wpn_loop_ret, wpn_block, wpn_post, wpk_skip, wpk_exit, wpk_ret, wpk_reg, wpk_seq, wpk_condT, wpk_block, wpk_loop, wpk_pre, wpk_post, wop_nil, wop_cons, wop_guard, St.know, envSet, cond_d, cond_bool, cond_int, cond_str, endE, endQ, freeB, disj, pushT, bitsW, int_beq, int_bne, eqS_def, tbE, fuelL_eq, ann0_lays, ann0_dd, ann0_ro, elsOf_dsl, elsOf_dnils, toNat_succ, nn_succ, pos_succ, one_succ, rng1, rng2, rng3, rng4, rng5, rng6, rng7, rng8, List.idxOf_cons, T3, T4, T5, T9, T22, T26, T27, T30, T32, T37, T39, T54, T66, T73, T83, T86, T99, T110, T114, T116, T141, T148, T150, CT, w1, w2, hv, hp]
end
theorem insV_perm {α : Type} (cmp : α → α → Int) (y : α) : ∀ r : List α, (insV cmp y r).Perm (y :: r)
  | [] => List.Perm.refl _
  | x :: r => by
    unfold insV
    split
    · exact ((insV_perm cmp y r).cons x).trans (List.Perm.swap y x r)
    · exact List.Perm.refl _
theorem isortV_perm {α : Type} (cmp : α → α → Int) : ∀ suf r : List α, (isortV cmp r suf).Perm (r ++ suf)
  | [], r => by simp only [isortV, List.append_nil]; exact List.reverse_perm r
  | y :: suf, r => by
    have h1 := isortV_perm cmp suf (insV cmp y r)
    have h2 := (insV_perm cmp y r).append_right suf
    refine h1.trans (h2.trans ?_)
    exact (List.perm_middle (l₁ := r) (a := y) (l₂ := suf)).symm
theorem bless_tri : ∀ (a b : List UInt8), (Op.bytesLess a b = true ∧ Op.bytesLess b a = false ∧ a ≠ b) ∨ (Op.bytesLess a b = false ∧ Op.bytesLess b a = true ∧ a ≠ b) ∨ (Op.bytesLess a b = false ∧ Op.bytesLess b a = false ∧ a = b)
  | [], [] => by simp [Op.bytesLess]
  | [], y :: b => by simp [Op.bytesLess]
  | x :: a, [] => by simp [Op.bytesLess]
  | x :: a, y :: b => by
    have ih := bless_tri a b
    simp only [Op.bytesLess]
    rcases Nat.lt_trichotomy x.toNat y.toNat with h | h | h
    · have h1 : x < y := h
      have h2 : ¬ y < x := fun h' => by have : y.toNat < x.toNat := h'; omega
      have h3 : x ≠ y := fun e => by subst e; omega
      have h4 : ¬ y = x := fun e => h3 e.symm
      simp [h1, h2, h3, h4]
    · have e : x = y := UInt8.toNat.inj h
      subst e
      have h2 : ¬ x < x := fun h' => by have : x.toNat < x.toNat := h'; omega
      simpa [h2] using ih
    · have h1 : y < x := h
      have h2 : ¬ x < y := fun h' => by have : x.toNat < y.toNat := h'; omega
      have h3 : x ≠ y := fun e => by subst e; omega
      simp [h1, h2, h3]
theorem bless_trans : ∀ (a b c : List UInt8), Op.bytesLess a b = true → Op.bytesLess b c = true → Op.bytesLess a c = true
  | _, _, [], _, h => by simp [Op.bytesLess] at h
  | _, [], z :: c, h, _ => by simp [Op.bytesLess] at h
  | [], y :: b, z :: c, _, _ => by simp [Op.bytesLess]
  | x :: a, y :: b, z :: c, h1, h2 => by
    simp only [Op.bytesLess, Bool.or_eq_true, decide_eq_true_eq, Bool.and_eq_true, beq_iff_eq] at h1 h2 ⊢
    rcases h1 with h1 | ⟨rfl, h1⟩
    · rcases h2 with h2 | ⟨rfl, h2⟩
      · left
        have a1 : x.toNat < y.toNat := h1
        have a2 : y.toNat < z.toNat := h2
        show x.toNat < z.toNat
        omega
      · exact .inl h1
    · rcases h2 with h2 | ⟨rfl, h2⟩
      · exact .inl h2
      · exact .inr ⟨rfl, bless_trans a b c h1 h2⟩
theorem lessS_trans {a b c : ByteArray} (h1 : lessS a b = true) (h2 : lessS b c = true) : lessS a c = true := bless_trans _ _ _ h1 h2
theorem lessS_irr (a : ByteArray) : lessS a a = false := by
  rcases bless_tri a.toList a.toList with ⟨_, _, h⟩ | ⟨_, _, h⟩ | ⟨h, _, _⟩
  · exact absurd rfl h
  · exact absurd rfl h
  · exact h
theorem lessS_asym {a b : ByteArray} (h : lessS a b = true) : lessS b a = false := by
  cases h2 : lessS b a with
  | false => rfl
  | true => have := lessS_trans h h2; rw [lessS_irr] at this; cases this
theorem lessS_ne {a b : ByteArray} (h : lessS a b = true) : eqS a b = false := by
  cases h2 : eqS a b with
  | false => rfl
  | true => rw [(eqS_iff a b).1 h2, lessS_irr] at h; cases h
theorem eqS_comm (a b : ByteArray) : eqS a b = eqS b a := by
  cases h : eqS b a with
  | true => rw [(eqS_iff b a).1 h, eqS_self]
  | false =>
    cases h2 : eqS a b with
    | false => rfl
    | true => rw [(eqS_iff a b).1 h2, eqS_self] at h; cases h
theorem lessS_ne' {a b : ByteArray} (h : lessS a b = true) : eqS b a = false := by rw [eqS_comm]; exact lessS_ne h
theorem lessS_tri {a b : ByteArray} (h1 : lessS a b = false) (h2 : eqS a b = false) : lessS b a = true := by
  rcases bless_tri a.toList b.toList with ⟨h, _, _⟩ | ⟨_, h, _⟩ | ⟨_, _, h⟩
  · exact absurd (show lessS a b = true from h) (by simp [h1])
  · exact h
  · exfalso
    have : eqS a b = true := by unfold eqS; simp [h]
    rw [h2] at this; cases this
theorem cmpS_lt (a b : ByteArray) : cmpS a b < 0 ↔ lessS a b = true := by
  unfold cmpS
  cases h : lessS a b with
  | true => simp
  | false => simp; split <;> simp
/-- In order of the services, then of the targets. -/
def plt (a b : Pr) : Prop := lessS a.1 b.1 = true ∨ (a.1 = b.1 ∧ lessS a.2 b.2 = true)
def pcmp (a b : Pr) : Int := firstNZ [cmpS a.1 b.1, cmpS a.2 b.2]
theorem cmpS_zero (a b : ByteArray) : cmpS a b = 0 ↔ a = b := by
  unfold cmpS
  cases h : lessS a b with
  | true => simp; intro e; subst e; rw [lessS_irr] at h; cases h
  | false =>
    cases h2 : eqS a b with
    | true => simp; exact (eqS_iff a b).1 h2
    | false => simp; intro e; subst e; rw [eqS_self] at h2; cases h2
theorem pcmp_lt (a b : Pr) : pcmp a b < 0 ↔ plt a b := by
  have h1 := cmpS_lt a.1 b.1
  have h2 := cmpS_lt a.2 b.2
  have h3 := cmpS_zero a.1 b.1
  have h4 := cmpS_zero a.2 b.2
  unfold pcmp plt firstNZ
  by_cases e : cmpS a.1 b.1 = 0
  · have e2 := h3.1 e
    have e3 : lessS a.1 b.1 = false := by rw [e2, lessS_irr]
    rw [if_pos e]
    by_cases e4 : cmpS a.2 b.2 = 0
    · have e5 : lessS a.2 b.2 = false := by rw [h4.1 e4, lessS_irr]
      show (if cmpS a.2 b.2 = 0 then firstNZ [] else cmpS a.2 b.2) < 0 ↔ _
      rw [if_pos e4]
      simp [firstNZ, e3, e5]
    · show (if cmpS a.2 b.2 = 0 then firstNZ [] else cmpS a.2 b.2) < 0 ↔ _
      rw [if_neg e4, h2]
      simp [e2, lessS_irr]
  · rw [if_neg e]
    have e2 : ¬ a.1 = b.1 := fun h => e (h3.2 h)
    simp [e2, h1]
theorem plt_trans {a b c : Pr} (h1 : plt a b) (h2 : plt b c) : plt a c := by
  unfold plt at *
  rcases h1 with h1 | ⟨h1, k1⟩ <;> rcases h2 with h2 | ⟨h2, k2⟩
  · exact .inl (lessS_trans h1 h2)
  · exact .inl (by rw [← h2]; exact h1)
  · exact .inl (by rw [h1]; exact h2)
  · exact .inr ⟨h1.trans h2, lessS_trans k1 k2⟩
theorem plt_asym {a b : Pr} (h1 : plt a b) (h2 : plt b a) : False := by
  unfold plt at *
  rcases h1 with h1 | ⟨h1, k1⟩ <;> rcases h2 with h2 | ⟨h2, k2⟩
  · rw [lessS_asym h1] at h2; cases h2
  · rw [h2, lessS_irr] at h1; cases h1
  · rw [h1, lessS_irr] at h2; cases h2
  · rw [lessS_asym k1] at k2; cases k2
theorem plt_tot {a b : Pr} (h : a ≠ b) : plt a b ∨ plt b a := by
  unfold plt
  cases h1 : lessS a.1 b.1 with
  | true => exact .inl (.inl rfl)
  | false =>
    cases h2 : eqS a.1 b.1 with
    | false => exact .inr (.inl (lessS_tri h1 h2))
    | true =>
      have e := (eqS_iff _ _).1 h2
      cases h3 : lessS a.2 b.2 with
      | true => exact .inl (.inr ⟨e, rfl⟩)
      | false =>
        refine .inr (.inr ⟨e.symm, lessS_tri h3 ?_⟩)
        cases h4 : eqS a.2 b.2 with
        | false => rfl
        | true => exact absurd (Prod.ext e ((eqS_iff _ _).1 h4)) h
theorem insV_psrt {y : Pr} : ∀ {r : List Pr}, r.Pairwise (fun p q => plt q p) → (∀ p ∈ r, p ≠ y) → (insV pcmp y r).Pairwise (fun p q => plt q p)
  | [], _, _ => by simp [insV]
  | x :: r, h, hne => by
    have h' := List.pairwise_cons.1 h
    unfold insV
    split
    · rename_i hc
      have hl := (pcmp_lt _ _).1 hc
      refine List.pairwise_cons.2 ⟨fun p hp => ?_, insV_psrt h'.2 fun p hp => hne p (by simp [hp])⟩
      rcases List.mem_cons.1 ((insV_perm pcmp y r).subset hp) with rfl | hp
      · exact hl
      · exact h'.1 p hp
    · rename_i hc
      have hl : plt x y := (plt_tot (hne x (by simp))).resolve_right fun h => hc ((pcmp_lt _ _).2 h)
      refine List.pairwise_cons.2 ⟨fun p hp => ?_, h⟩
      rcases List.mem_cons.1 hp with rfl | hp
      · exact hl
      · exact plt_trans (h'.1 p hp) hl
theorem isortV_psrt : ∀ {suf r : List Pr}, r.Pairwise (fun p q => plt q p) → (r ++ suf).Nodup → (isortV pcmp r suf).Pairwise plt
  | [], r, h, _ => by simp only [isortV]; exact List.pairwise_reverse.2 h
  | y :: suf, r, h, hne => by
    simp only [isortV]
    have h1 := List.pairwise_append.1 hne
    refine isortV_psrt (insV_psrt h fun p hp => h1.2.2 p hp y (by simp)) ?_
    have hp := ((insV_perm pcmp y r).append_right suf).trans (List.perm_middle (l₁ := r) (a := y) (l₂ := suf)).symm
    exact hp.symm.pairwise hne fun h => Ne.symm h
theorem sort_pairs {L l : List Pr} (hp : L.Perm l) (hl : l.Pairwise plt) : isortV pcmp [] L = l := by
  have hne : L.Nodup := by
    have : l.Nodup := hl.imp fun {a b} h e => by subst e; exact plt_asym h h
    exact hp.symm.pairwise this fun h => Ne.symm h
  refine List.Perm.eq_of_pairwise (le := plt) (fun x y _ _ h1 h2 => (plt_asym h1 h2).elim) (isortV_psrt List.Pairwise.nil (by simpa using hne)) hl ?_
  exact (isortV_perm pcmp L []).trans hp
set_option maxRecDepth 100000 in
theorem cmp60_run (a b : Pr) : run CC 60 [.d (pE a), .d (pE b)] [] = some (.d (.int .i64 (pcmp a b)), []) := by
  refine run_code (s := s60 0) rfl rfl rfl (by kernel_rfl) ?_
  have h1 := cmpS_run a.1 b.1
  have h2 := cmpS_run a.2 b.2
  have h3 := or_run [cmpS a.1 b.1, cmpS a.2 b.2] (.sl ([cmpS a.1 b.1, cmpS a.2 b.2].map (D.int .i64))) (by simp) rfl
  simp only [List.map_cons, List.map_nil] at h3
  simp [s60, pE, TK.agg, constAV, evalAV, eqCells, EK.has, EK.hasAll, vecEls, elsR, AV.toD, toDs, AV.cells, AV.one, joinD, TyI.zeroD, OpR.of, binIntF, binStrF, AV.isPtr, ptrNil, slNil, mpNil, nilE, eqF, negF, posF, binF, pelF, pvLoad, pelSet, pvStore, boxLoad, epLoad, loadF, boxStore, storeF, fieldAddrF, fieldF, epOf, indexAddrF, byteF, indexF, mapLen, lenF, cutF, sliceF, isSl, slice3F, fillF, arrFs, buildF, partsX, landV, buildSliceF, roomB, appVec, appendF, mmFrom, mmF, max2', min2', clearVec, clearF, convF, unF, pickF, nilChkF, extF, ptrsOf, callF, makeSliceF, sameKs, sameD, kindIs, plainFs, keyOk, mapOb, mapEs, okV, lookF, lookupF, putE, putS, mapPut, mapUpdateF, mapDel, deleteF, mapAll, rangeM, rangeF, overV, hitV, nextO, nextF, entryM, entryO, entryF, itOids, builtinF, capsOf, allocF, boxF, bytesL, bytesF, byteTy, strTy, convertF, makeFuncF, makeMapF, makeMapH, opF, reach, reachOf, AObj.live, closedB, nodupB, packO, packL, packX, backN, backG, backO, obL, backE, frzX, frzO, AV.vids, frzL, landC, sameObs, landR, touchF, D.cells, D.decEq, D.decEqs, AV.decEq, AV.decEqs, AObj.decEq, AV.oids0, AV.oids, AObj.oids, renG, renP, AV.ren0, AV.ren, envGet, envPut, envKeep, obGet, setEff, putV, St.put, stepS, keyChk, chkD, accD, Ex.block, AV.under, AObj.under, laysOf, roomFor, mkvO, frzG, szOk, killO, usedBy, tidyS, ghost, ghostE, normSt, resOf, allSome, one0, resultsF, finL, finishL, finish, endF, startEnv, chkC, backX, comeC, wpn_nil, wpn_seq, wpn_loop, wpn_seq_exit, wpn_loop_exit, wpn_seq_ret, wpn_loop_ret, wpn_block, wpn_post, wpk_skip, wpk_exit, wpk_ret, wpk_reg, wpk_seq, wpk_condT, wpk_block, wpk_loop, wpk_pre, wpk_post, wop_nil, wop_cons, wop_guard, St.know, envSet, cond_d, cond_bool, cond_int, cond_str, endE, endQ, freeB, disj, pushT, bitsW, int_beq, int_bne, eqS_def, tbE, fuelL_eq, ann0_lays, ann0_dd, ann0_ro, elsOf_dsl, elsOf_dnils, toNat_succ, nn_succ, pos_succ, one_succ, rng1, rng2, rng3, rng4, rng5, rng6, rng7, rng8, List.idxOf_cons, T3, T4, T5, T9, T22, T26, T27, T30, T32, T37, T39, T54, T66, T73, T83, T86, T99, T110, T114, T116, T141, T148, T150, CT, h1, h2, h3, pcmp]
end Go.Proofs.YteidaaobppjlbaaV
