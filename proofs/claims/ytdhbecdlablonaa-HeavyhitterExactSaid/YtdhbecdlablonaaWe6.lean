/- The law HeavyhitterExact: eight keys at most: nothing is lost; the walk. -/
import Derived.Test.YtdhbecdlablonaaWe4
set_option linter.unusedVariables false
set_option linter.unusedSimpArgs false
namespace Go.Proofs.YtdhbecdlablonaaV
open Go.RowKit
theorem nodup_len : ∀ (l m : List Nat), l.Nodup → l ⊆ m → l.length ≤ m.length
  | [], m, _, _ => Nat.zero_le _
  | a :: l, m, hn, hs => by
    have hn' := List.nodup_cons.1 hn
    have ha : a ∈ m := hs (by simp)
    have := nodup_len l (m.erase a) hn'.2 fun x hx => (List.mem_erase_of_ne (fun (e : x = a) => hn'.1 (e ▸ hx))).2 (hs (by simp [hx]))
    rw [List.length_erase_of_mem ha] at this
    have hp : 0 < m.length := List.length_pos_of_mem ha
    simp only [List.length_cons]; omega
def keyI (b : ByteArray) : Nat := (b.data.toList.getD 1 0).toNat - 97
theorem keyI_keyB {j : Nat} (h : j < 26) : keyI (keyB j) = j := by
  have e : (((j : Int) % 26).toNat) = j := by omega
  unfold keyI keyB
  rw [e]
  have : ∀ n : Fin 26, ((⟨#[107, UInt8.ofNat (97 + n.1)]⟩ : ByteArray).data.toList.getD 1 0).toNat - 97 = n.1 := by decide +kernel
  exact this ⟨j, h⟩
theorem keyB_inj {i j : Nat} (hi : i < 26) (hj : j < 26) (h : keyB i = keyB j) : i = j := by
  rw [← keyI_keyB hi, ← keyI_keyB hj, h]
def in8 (l : List Ctr) : Prop := ∀ p ∈ l, ∃ j : Nat, j < 8 ∧ p.1 = keyB j
theorem few8 {l : List Ctr} (hs : srt l) (h8 : in8 l) {j : Nat} (hj : j < 8) (hno : ∀ p ∈ l, p.1 ≠ keyB j) : l.length < 8 := by
  have hn : (l.map fun p => keyI p.1).Nodup := by
    refine List.pairwise_map.2 (List.Pairwise.imp_of_mem (fun {p q} hp hq hlt => ?_) hs)
    intro e
    obtain ⟨a, ha, e1⟩ := h8 p hp
    obtain ⟨b, hb, e2⟩ := h8 q hq
    rw [e1, e2, keyI_keyB (by omega), keyI_keyB (by omega)] at e
    rw [e1, e2, e, lessS_irr] at hlt
    cases hlt
  have := nodup_len _ ((List.range 8).erase j) hn fun x hx => by
    obtain ⟨p, hp, rfl⟩ := List.mem_map.1 hx
    obtain ⟨a, ha, e1⟩ := h8 p hp
    have hk : keyI p.1 = a := by rw [e1, keyI_keyB (by omega)]
    rw [hk]
    refine (List.mem_erase_of_ne fun e => ?_).2 (by simp; exact ha)
    subst e
    exact hno p hp e1
  rw [List.length_erase_of_mem (by simp; exact hj)] at this
  simp at this
  omega
def mk8 (x : It) : It := ⟨x.k % 8, x.w⟩
theorem exact_st : ∀ (l : List It) (s : Sm), okS s → s.most = 8 → s.tot + sumW l ≤ 1125899906842624 → in8 s.cs → s.lost = 0 → (∀ x ∈ l, x.ok) →
    (stS s (l.map mk8)).lost = 0 ∧ ∀ q, cntC q (stS s (l.map mk8)).cs = cntC q s.cs + exC q (l.map mk8)
  | [], s, h, _, _, _, hl, _ => ⟨hl, fun q => by simp [stS, exC]⟩
  | x :: l, s, h, hm, ht, h8, hl, hok => by
    simp only [sumW] at ht
    have hw := wtI_le x.w
    have hsw := sumW_le l
    obtain ⟨⟨x1, x2⟩, _⟩ := hok x (by simp)
    obtain ⟨j, hj⟩ : ∃ j : Nat, x.k % 8 = j := ⟨(x.k % 8).toNat, by omega⟩
    have hj8 : j < 8 := by omega
    obtain ⟨a1, a2, a3, a4, a5, a6, a7⟩ := add_ok h (key_name (x.k % 8)) hw.1 (by omega)
    have hup : s.up (keyB (x.k % 8)) (wtI x.w) := by
      by_cases hc : 0 < cntC (keyB (x.k % 8)) s.cs
      · exact .inl hc
      · right
        rw [hm]
        have := few8 h.srt h8 hj8 fun p hp e => hc ((cnt_pos h.pos).2.2 ⟨p, hp, by rw [hj]; exact e⟩)
        omega
    obtain ⟨b1, b2⟩ := a7 hup
    have h8' : in8 (addS s (keyB (x.k % 8)) (wtI x.w)).cs := by
      unfold addS
      rw [if_pos hup]
      intro p hp
      rcases put_key hp with e | ⟨q, hq, e⟩
      · exact ⟨j, hj8, by rw [e, hj]⟩
      · rw [← e]; exact h8 q hq
    obtain ⟨c1, c2⟩ := exact_st l _ a1 (by omega) (by omega) h8' (by omega) fun y hy => hok y (by simp [hy])
    refine ⟨c1, fun q => ?_⟩
    have e1 := c2 q
    have e2 := b2 q
    show cntC q (stS (addS s (keyB (x.k % 8)) (wtI x.w)) (l.map mk8)).cs = cntC q s.cs + ((if eqS (keyB (x.k % 8)) q = true then wtI x.w else 0) + exC q (l.map mk8))
    by_cases e : q = keyB (x.k % 8)
    · subst e; simp [eqS_self] at e2 ⊢; omega
    · have e3 : ¬ eqS (keyB (x.k % 8)) q = true := fun he => e ((eqS_iff _ _).1 he).symm
      simp [e] at e2; simp [e3]; omega
theorem exC_append (q : ByteArray) : ∀ a b : List It, exC q (a ++ b) = exC q a + exC q b
  | [], b => by simp [exC]
  | x :: a, b => by simp only [List.cons_append, exC, exC_append q a b]; omega
def rot (r : Nat) (l : List It) : List It := l.drop r ++ l.take r
theorem rot_get (l : List It) (by' i : Nat) (hi : i < l.length) : (rot (by' % l.length) l)[i]? = l[(i + by') % l.length]? := by
  have hr : by' % l.length < l.length := Nat.mod_lt _ (by omega)
  have he : (i + by') % l.length = (i + by' % l.length) % l.length := by simp [Nat.add_mod]
  rw [he]
  generalize by' % l.length = r at *
  unfold rot
  by_cases h : i + r < l.length
  · rw [Nat.mod_eq_of_lt h, List.getElem?_append_left (by simp; omega), List.getElem?_drop, Nat.add_comm]
  · have hm : (i + r) % l.length = i + r - l.length := by
      rw [Nat.mod_eq_sub_mod (by omega), Nat.mod_eq_of_lt (by omega)]
    rw [hm, List.getElem?_append_right (by simp; omega), List.getElem?_take, if_pos (by simp; omega)]
    congr 1
    simp; omega
/-- What the law adds up. -/
def w8 (k : Int) : List It → Int
  | [] => 0
  | x :: l => (if x.k % 8 = k then wtI x.w else 0) + w8 k l
theorem w8_app (k : Int) (x : It) : ∀ l, w8 k (l ++ [x]) = w8 k l + if x.k % 8 = k then wtI x.w else 0
  | [] => by simp [w8]
  | y :: l => by simp only [List.cons_append, w8, w8_app k x l]; omega
theorem w8_le (k : Int) : ∀ l, 0 ≤ w8 k l ∧ w8 k l ≤ 32 * l.length
  | [] => by simp [w8]
  | y :: l => by
    have := w8_le k l
    have := wtI_le y.w
    simp only [w8, List.length_cons]; split <;> omega
theorem w8_ex {k : Nat} (hk : k < 8) : ∀ l : List It, (∀ x ∈ l, x.ok) → w8 k l = exC (keyB k) (l.map mk8)
  | [], _ => rfl
  | x :: l, h => by
    have ih := w8_ex hk l fun y hy => h y (by simp [hy])
    obtain ⟨⟨x1, x2⟩, _⟩ := h x (by simp)
    obtain ⟨j, hj⟩ : ∃ j : Nat, x.k % 8 = j := ⟨(x.k % 8).toNat, by omega⟩
    show (if x.k % 8 = k then wtI x.w else 0) + w8 k l = (if eqS (keyB (x.k % 8)) (keyB k) = true then wtI x.w else 0) + exC (keyB k) (l.map mk8)
    rw [ih, hj]
    by_cases e : j = k
    · subst e; simp [eqS_self]
    · have e1 : ¬ (j : Int) = k := by omega
      have e2 : ¬ eqS (keyB j) (keyB k) = true := fun he => e (keyB_inj (by omega) (by omega) ((eqS_iff _ _).1 he))
      simp [e1, e2]
theorem sumW_append : ∀ a b : List It, sumW (a ++ b) = sumW a + sumW b
  | [], b => by simp [sumW]
  | x :: a, b => by simp only [List.cons_append, sumW, sumW_append a b]; omega
theorem sumW_mk8 : ∀ l : List It, sumW (l.map mk8) = sumW l
  | [] => rfl
  | x :: l => by
    show wtI x.w + sumW (l.map mk8) = wtI x.w + sumW l
    rw [sumW_mk8 l]
set_option maxRecDepth 100000 in
set_option maxHeartbeats 4000000 in
theorem loop6_3 (A : D) (l : List It) (hl : l.length ≤ 60) (hok : ∀ x ∈ l, x.ok) (hA : elsOf (.d A) = some (l.map It.enc)) (s : Sm) (X : D) (hX : elsOf (.d X) = some (csD s.cs)) (k : Int) (ks : List Fr) (K : Ex → St → Prop)
    (hnext : wpn CC .norm ⟨[(0, .d A), (5, .ptr 0 0), (9, .d (.int .i64 k)), (10, .d (.int .i64 (w8 k l)))], [.box [.d (.int .i64 s.most), .d (.int .i64 s.tot), .d (.int .i64 s.lost), .d X]]⟩ ks K) :
    wlp CC (s6_3 0) ⟨[(0, .d A), (5, .ptr 0 0), (9, .d (.int .i64 k)), (10, .d (.int .i64 0)), (11, .d (.int .i64 0))], [.box [.d (.int .i64 s.most), .d (.int .i64 s.tot), .d (.int .i64 s.lost), .d X]]⟩ (.block 4 :: .post (.tidy [0, 5, 9, 10] 0 1) :: .post (.tidy [0, 5, 9, 10] 0 1) :: ks) K := by
  obtain ⟨a1, a2, a3⟩ := slF hX
  simp only [AV.one, AV.cells, D.cells] at a1 a2 a3
  refine wlp_inv (S := fun p : List It × List It => ⟨[(0, .d A), (5, .ptr 0 0), (9, .d (.int .i64 k)), (10, .d (.int .i64 (w8 k p.1))), (11, .d (.int .i64 p.1.length))], [.box [.d (.int .i64 s.most), .d (.int .i64 s.tot), .d (.int .i64 s.lost), .d X]]⟩) (m := fun p => p.2.length) (Inv := fun p => p.1 ++ p.2 = l) ?_ ([], l) rfl
  rintro ⟨pre, suf⟩ hps ih
  rw [e6_3]
  simp only at hps ⊢
  cases suf with
  | nil =>
    have hn := endL hps
    rw [List.append_nil] at hps
    subst hps
    simp [c6_3, TK.agg, constAV, evalAV, eqCells, EK.has, EK.hasAll, vecEls, elsR, AV.toD, toDs, AV.cells, AV.one, joinD, TyI.zeroD, OpR.of, binIntF, binStrF, AV.isPtr, ptrNil, slNil, mpNil, nilE, eqF, negF, posF, binF, pelF, pvLoad, pelSet, pvStore, boxLoad, epLoad, loadF, boxStore, storeF, fieldAddrF, fieldF, epOf, indexAddrF, byteF, indexF, mapLen, lenF, cutF, sliceF, isSl, slice3F, fillF, arrFs, buildF, partsX, landV, buildSliceF, roomB, appVec, appendF, mmFrom, mmF, max2', min2', clearVec, clearF, convF, unF, pickF, nilChkF, extF, ptrsOf, callF, makeSliceF, sameKs, sameD, kindIs, plainFs, keyOk, mapOb, mapEs, okV, lookF, lookupF, putE, putS, mapPut, mapUpdateF, mapDel, deleteF, mapAll, rangeM, rangeF, overV, hitV, nextO, nextF, entryM, entryO, entryF, itOids, builtinF, capsOf, allocF, boxF, bytesL, bytesF, byteTy, strTy, convertF, makeFuncF, makeMapF, makeMapH, opF, reach, reachOf, AObj.live, closedB, nodupB, packO, packL, packX, backN, backG, backO, obL, backE, frzX, frzO, AV.vids, frzL, landC, sameObs, landR, touchF, D.cells, D.decEq, D.decEqs, AV.decEq, AV.decEqs, AObj.decEq, AV.oids0, AV.oids, AObj.oids, renG, renP, AV.ren0, AV.ren, envGet, envPut, envKeep, obGet, setEff, putV, St.put, stepS, keyChk, chkD, accD, Ex.block, AV.under, AObj.under, laysOf, roomFor, mkvO, frzG, szOk, killO, usedBy, tidyS, ghost, ghostE, normSt, resOf, allSome, one0, resultsF, finL, finishL, finish, endF, startEnv, chkC, backX, comeC, wpn_nil, wpn_seq, wpn_loop, wpn_seq_exit, wpn_loop_exit, wpn_seq_ret, wpn_loop_ret, wpn_block, wpn_post, wpk_skip, wpk_exit, wpk_ret, wpk_reg, wpk_seq, wpk_condT, wpk_block, wpk_loop, wpk_pre, wpk_post, wop_nil, wop_cons, wop_guard, St.know, envSet, cond_d, cond_bool, cond_int, cond_str, endE, endQ, freeB, disj, pushT, bitsW, int_beq, int_bne, eqS_def, tbE, fuelL_eq, ann0_lays, ann0_dd, ann0_ro, elsOf_dsl, elsOf_dnils, toNat_succ, nn_succ, pos_succ, one_succ, rng1, rng2, rng3, rng4, rng5, rng6, rng7, rng8, List.idxOf_cons, T3, T4, T5, T9, T22, T25, T26, T28, T29, T36, T41, T47, T56, T69, T74, T78, T85, T90, T98, CT, hA, hn, a1, a2, a3]
    exact hnext
  | cons x suf =>
    obtain ⟨k1, k2, k3, k4, k5, k6⟩ := atL It.enc hps (by omega)
    have kg := getL k5 k4
    have hx := hok x (List.mem_of_getElem? k5)
    have hw := weight_run x hx
    have hle := w8_le k pre
    have hwl := wtI_le x.w
    have hk := Int.tmod_eq_emod_of_nonneg hx.1.1 (b := 8)
    have w1 : IntKind.u8.wrap (x.k % 8) = x.k % 8 := wrap_u8 (by omega) (by omega)
    have w3 : IntKind.i64.wrap (x.k % 8) = x.k % 8 := wrap64 (by omega) (by omega)
    have wr : IntKind.i64.wrap (w8 k pre + wtI x.w) = w8 k pre + wtI x.w := wrap64 (by omega) (by omega)
    have ih := ih (pre ++ [x], suf) (by simpa using hps) (by simp)
    simp only [w8_app] at ih
    simp only [It.enc] at k3 hw
    by_cases e : x.k % 8 = k
    · simp [e] at ih
      rw [e] at w1 w3 hk
      simp [c6_3, TK.agg, constAV, evalAV, eqCells, EK.has, EK.hasAll, vecEls, elsR, AV.toD, toDs, AV.cells, AV.one, joinD, TyI.zeroD, OpR.of, binIntF, binStrF, AV.isPtr, ptrNil, slNil, mpNil, nilE, eqF, negF, posF, binF, pelF, pvLoad, pelSet, pvStore, boxLoad, epLoad, loadF, boxStore, storeF, fieldAddrF, fieldF, epOf, indexAddrF, byteF, indexF, mapLen, lenF, cutF, sliceF, isSl, slice3F, fillF, arrFs, buildF, partsX, landV, buildSliceF, roomB, appVec, appendF, mmFrom, mmF, max2', min2', clearVec, clearF, convF, unF, pickF, nilChkF, extF, ptrsOf, callF, makeSliceF, sameKs, sameD, kindIs, plainFs, keyOk, mapOb, mapEs, okV, lookF, lookupF, putE, putS, mapPut, mapUpdateF, mapDel, deleteF, mapAll, rangeM, rangeF, overV, hitV, nextO, nextF, entryM, entryO, entryF, itOids, builtinF, capsOf, allocF, boxF, bytesL, bytesF, byteTy, strTy, convertF, makeFuncF, makeMapF, makeMapH, opF, reach, reachOf, AObj.live, closedB, nodupB, packO, packL, packX, backN, backG, backO, obL, backE, frzX, frzO, AV.vids, frzL, landC, sameObs, landR, touchF, D.cells, D.decEq, D.decEqs, AV.decEq, AV.decEqs, AObj.decEq, AV.oids0, AV.oids, AObj.oids, renG, renP, AV.ren0, AV.ren, envGet, envPut, envKeep, obGet, setEff, putV, St.put, stepS, keyChk, chkD, accD, Ex.block, AV.under, AObj.under, laysOf, roomFor, mkvO, frzG, szOk, killO, usedBy, tidyS, ghost, ghostE, normSt, resOf, allSome, one0, resultsF, finL, finishL, finish, endF, startEnv, chkC, backX, comeC, wpn_nil, wpn_seq, wpn_loop, wpn_seq_exit, wpn_loop_exit, wpn_seq_ret, wpn_loop_ret, wpn_block, wpn_post, wpk_skip, wpk_exit, wpk_ret, wpk_reg, wpk_seq, wpk_condT, wpk_block, wpk_loop, wpk_pre, wpk_post, wop_nil, wop_cons, wop_guard, St.know, envSet, cond_d, cond_bool, cond_int, cond_str, endE, endQ, freeB, disj, pushT, bitsW, int_beq, int_bne, eqS_def, tbE, fuelL_eq, ann0_lays, ann0_dd, ann0_ro, elsOf_dsl, elsOf_dnils, toNat_succ, nn_succ, pos_succ, one_succ, rng1, rng2, rng3, rng4, rng5, rng6, rng7, rng8, List.idxOf_cons, T3, T4, T5, T9, T22, T25, T26, T28, T29, T36, T41, T47, T56, T69, T74, T78, T85, T90, T98, CT, hA, It.enc, a1, a2, a3, k2, k3, k4, k5, kg, hw, hk, w1, w3, wr]
      exact ih
    · simp [e] at ih
      simp [c6_3, TK.agg, constAV, evalAV, eqCells, EK.has, EK.hasAll, vecEls, elsR, AV.toD, toDs, AV.cells, AV.one, joinD, TyI.zeroD, OpR.of, binIntF, binStrF, AV.isPtr, ptrNil, slNil, mpNil, nilE, eqF, negF, posF, binF, pelF, pvLoad, pelSet, pvStore, boxLoad, epLoad, loadF, boxStore, storeF, fieldAddrF, fieldF, epOf, indexAddrF, byteF, indexF, mapLen, lenF, cutF, sliceF, isSl, slice3F, fillF, arrFs, buildF, partsX, landV, buildSliceF, roomB, appVec, appendF, mmFrom, mmF, max2', min2', clearVec, clearF, convF, unF, pickF, nilChkF, extF, ptrsOf, callF, makeSliceF, sameKs, sameD, kindIs, plainFs, keyOk, mapOb, mapEs, okV, lookF, lookupF, putE, putS, mapPut, mapUpdateF, mapDel, deleteF, mapAll, rangeM, rangeF, overV, hitV, nextO, nextF, entryM, entryO, entryF, itOids, builtinF, capsOf, allocF, boxF, bytesL, bytesF, byteTy, strTy, convertF, makeFuncF, makeMapF, makeMapH, opF, reach, reachOf, AObj.live, closedB, nodupB, packO, packL, packX, backN, backG, backO, obL, backE, frzX, frzO, AV.vids, frzL, landC, sameObs, landR, touchF, D.cells, D.decEq, D.decEqs, AV.decEq, AV.decEqs, AObj.decEq, AV.oids0, AV.oids, AObj.oids, renG, renP, AV.ren0, AV.ren, envGet, envPut, envKeep, obGet, setEff, putV, St.put, stepS, keyChk, chkD, accD, Ex.block, AV.under, AObj.under, laysOf, roomFor, mkvO, frzG, szOk, killO, usedBy, tidyS, ghost, ghostE, normSt, resOf, allSome, one0, resultsF, finL, finishL, finish, endF, startEnv, chkC, backX, comeC, wpn_nil, wpn_seq, wpn_loop, wpn_seq_exit, wpn_loop_exit, wpn_seq_ret, wpn_loop_ret, wpn_block, wpn_post, wpk_skip, wpk_exit, wpk_ret, wpk_reg, wpk_seq, wpk_condT, wpk_block, wpk_loop, wpk_pre, wpk_post, wop_nil, wop_cons, wop_guard, St.know, envSet, cond_d, cond_bool, cond_int, cond_str, endE, endQ, freeB, disj, pushT, bitsW, int_beq, int_bne, eqS_def, tbE, fuelL_eq, ann0_lays, ann0_dd, ann0_ro, elsOf_dsl, elsOf_dnils, toNat_succ, nn_succ, pos_succ, one_succ, rng1, rng2, rng3, rng4, rng5, rng6, rng7, rng8, List.idxOf_cons, T3, T4, T5, T9, T22, T25, T26, T28, T29, T36, T41, T47, T56, T69, T74, T78, T85, T90, T98, CT, hA, It.enc, a1, a2, a3, k2, k3, k4, k5, kg, hk, w1, w3, e]
      exact ih
set_option maxRecDepth 100000 in
set_option maxHeartbeats 4000000 in
theorem loop6_2 (A : D) (l : List It) (hl : l.length ≤ 60) (hok : ∀ x ∈ l, x.ok) (hA : elsOf (.d A) = some (l.map It.enc)) (s : Sm) (X : D) (hX : elsOf (.d X) = some (csD s.cs)) (hs : okS s) (hlo : s.lost = 0) (hb : ∀ k : Nat, k < 8 → cntC (keyB k) s.cs = w8 k l) (ks : List Fr) (K : Ex → St → Prop)
    (hnext : wpn CC .norm ⟨[], [.dead]⟩ ks K) :
    wlp CC (s6_2 0) ⟨[(0, .d A), (5, .ptr 0 0), (9, .d (.int .i64 0))], [.box [.d (.int .i64 s.most), .d (.int .i64 s.tot), .d (.int .i64 s.lost), .d X]]⟩ (.block 2 :: .post (.tidy [] 0 1) :: .post (.tidy [] 0 1) :: ks) K := by
  obtain ⟨a1, a2, a3⟩ := slF hX
  simp only [AV.one, AV.cells, D.cells] at a1 a2 a3
  refine wlp_inv (S := fun k : Nat => ⟨[(0, .d A), (5, .ptr 0 0), (9, .d (.int .i64 k))], [.box [.d (.int .i64 s.most), .d (.int .i64 s.tot), .d (.int .i64 s.lost), .d X]]⟩) (m := fun k => 8 - k) (Inv := fun k => k ≤ 8) ?_ 0 (by omega)
  rintro k hk ih
  rw [e6_2]
  by_cases h : k < 8
  · have q1 : (k : Int) < 8 := by omega
    have w1 : IntKind.u8.wrap (k : Int) = k := wrap_u8 (by omega) (by omega)
    have w2 : IntKind.i64.wrap ((k : Int) + 1) = (k : Int) + 1 := wrap64 (by omega) (by omega)
    have hkey := key_run0 k (by omega)
    have hbo := bounds_run s X hs.short hs.srt hX hs.small (keyB k)
    rw [hs.hi, hlo, hb k h, Int.add_zero] at hbo
    have ih := ih (k + 1) (by omega) (by omega)
    simp at ih
    simp only [smD, hlo] at hbo
    rw [hlo] at ih ⊢
    simp [c6_2, TK.agg, constAV, evalAV, eqCells, EK.has, EK.hasAll, vecEls, elsR, AV.toD, toDs, AV.cells, AV.one, joinD, TyI.zeroD, OpR.of, binIntF, binStrF, AV.isPtr, ptrNil, slNil, mpNil, nilE, eqF, negF, posF, binF, pelF, pvLoad, pelSet, pvStore, boxLoad, epLoad, loadF, boxStore, storeF, fieldAddrF, fieldF, epOf, indexAddrF, byteF, indexF, mapLen, lenF, cutF, sliceF, isSl, slice3F, fillF, arrFs, buildF, partsX, landV, buildSliceF, roomB, appVec, appendF, mmFrom, mmF, max2', min2', clearVec, clearF, convF, unF, pickF, nilChkF, extF, ptrsOf, callF, makeSliceF, sameKs, sameD, kindIs, plainFs, keyOk, mapOb, mapEs, okV, lookF, lookupF, putE, putS, mapPut, mapUpdateF, mapDel, deleteF, mapAll, rangeM, rangeF, overV, hitV, nextO, nextF, entryM, entryO, entryF, itOids, builtinF, capsOf, allocF, boxF, bytesL, bytesF, byteTy, strTy, convertF, makeFuncF, makeMapF, makeMapH, opF, reach, reachOf, AObj.live, closedB, nodupB, packO, packL, packX, backN, backG, backO, obL, backE, frzX, frzO, AV.vids, frzL, landC, sameObs, landR, touchF, D.cells, D.decEq, D.decEqs, AV.decEq, AV.decEqs, AObj.decEq, AV.oids0, AV.oids, AObj.oids, renG, renP, AV.ren0, AV.ren, envGet, envPut, envKeep, obGet, setEff, putV, St.put, stepS, keyChk, chkD, accD, Ex.block, AV.under, AObj.under, laysOf, roomFor, mkvO, frzG, szOk, killO, usedBy, tidyS, ghost, ghostE, normSt, resOf, allSome, one0, resultsF, finL, finishL, finish, endF, startEnv, chkC, backX, comeC, wpn_nil, wpn_seq, wpn_loop, wpn_seq_exit, wpn_loop_exit, wpn_seq_ret, wpn_loop_ret, wpn_block, wpn_post, wpk_skip, wpk_exit, wpk_ret, wpk_reg, wpk_seq, wpk_condT, wpk_block, wpk_loop, wpk_pre, wpk_post, wop_nil, wop_cons, wop_guard, St.know, envSet, cond_d, cond_bool, cond_int, cond_str, endE, endQ, freeB, disj, pushT, bitsW, int_beq, int_bne, eqS_def, tbE, fuelL_eq, ann0_lays, ann0_dd, ann0_ro, elsOf_dsl, elsOf_dnils, toNat_succ, nn_succ, pos_succ, one_succ, rng1, rng2, rng3, rng4, rng5, rng6, rng7, rng8, List.idxOf_cons, T3, T4, T5, T9, T22, T25, T26, T28, T29, T36, T41, T47, T56, T69, T74, T78, T85, T90, T98, CT, q1]
    have hl3 := loop6_3 A l hl hok hA s X hX k
    rw [hlo] at hl3
    refine hl3 _ _ ?_
    generalize w8 k l = ww at *
    simp [TK.agg, constAV, evalAV, eqCells, EK.has, EK.hasAll, vecEls, elsR, AV.toD, toDs, AV.cells, AV.one, joinD, TyI.zeroD, OpR.of, binIntF, binStrF, AV.isPtr, ptrNil, slNil, mpNil, nilE, eqF, negF, posF, binF, pelF, pvLoad, pelSet, pvStore, boxLoad, epLoad, loadF, boxStore, storeF, fieldAddrF, fieldF, epOf, indexAddrF, byteF, indexF, mapLen, lenF, cutF, sliceF, isSl, slice3F, fillF, arrFs, buildF, partsX, landV, buildSliceF, roomB, appVec, appendF, mmFrom, mmF, max2', min2', clearVec, clearF, convF, unF, pickF, nilChkF, extF, ptrsOf, callF, makeSliceF, sameKs, sameD, kindIs, plainFs, keyOk, mapOb, mapEs, okV, lookF, lookupF, putE, putS, mapPut, mapUpdateF, mapDel, deleteF, mapAll, rangeM, rangeF, overV, hitV, nextO, nextF, entryM, entryO, entryF, itOids, builtinF, capsOf, allocF, boxF, bytesL, bytesF, byteTy, strTy, convertF, makeFuncF, makeMapF, makeMapH, opF, reach, reachOf, AObj.live, closedB, nodupB, packO, packL, packX, backN, backG, backO, obL, backE, frzX, frzO, AV.vids, frzL, landC, sameObs, landR, touchF, D.cells, D.decEq, D.decEqs, AV.decEq, AV.decEqs, AObj.decEq, AV.oids0, AV.oids, AObj.oids, renG, renP, AV.ren0, AV.ren, envGet, envPut, envKeep, obGet, setEff, putV, St.put, stepS, keyChk, chkD, accD, Ex.block, AV.under, AObj.under, laysOf, roomFor, mkvO, frzG, szOk, killO, usedBy, tidyS, ghost, ghostE, normSt, resOf, allSome, one0, resultsF, finL, finishL, finish, endF, startEnv, chkC, backX, comeC, wpn_nil, wpn_seq, wpn_loop, wpn_seq_exit, wpn_loop_exit, wpn_seq_ret, wpn_loop_ret, wpn_block, wpn_post, wpk_skip, wpk_exit, wpk_ret, wpk_reg, wpk_seq, wpk_condT, wpk_block, wpk_loop, wpk_pre, wpk_post, wop_nil, wop_cons, wop_guard, St.know, envSet, cond_d, cond_bool, cond_int, cond_str, endE, endQ, freeB, disj, pushT, bitsW, int_beq, int_bne, eqS_def, tbE, fuelL_eq, ann0_lays, ann0_dd, ann0_ro, elsOf_dsl, elsOf_dnils, toNat_succ, nn_succ, pos_succ, one_succ, rng1, rng2, rng3, rng4, rng5, rng6, rng7, rng8, List.idxOf_cons, T3, T4, T5, T9, T22, T25, T26, T28, T29, T36, T41, T47, T56, T69, T74, T78, T85, T90, T98, CT, w1, w2, hkey, hbo, a1, a2, a3]
    exact ih
  · have q1 : ¬ (k : Int) < 8 := by omega
    simp [c6_2, TK.agg, constAV, evalAV, eqCells, EK.has, EK.hasAll, vecEls, elsR, AV.toD, toDs, AV.cells, AV.one, joinD, TyI.zeroD, OpR.of, binIntF, binStrF, AV.isPtr, ptrNil, slNil, mpNil, nilE, eqF, negF, posF, binF, pelF, pvLoad, pelSet, pvStore, boxLoad, epLoad, loadF, boxStore, storeF, fieldAddrF, fieldF, epOf, indexAddrF, byteF, indexF, mapLen, lenF, cutF, sliceF, isSl, slice3F, fillF, arrFs, buildF, partsX, landV, buildSliceF, roomB, appVec, appendF, mmFrom, mmF, max2', min2', clearVec, clearF, convF, unF, pickF, nilChkF, extF, ptrsOf, callF, makeSliceF, sameKs, sameD, kindIs, plainFs, keyOk, mapOb, mapEs, okV, lookF, lookupF, putE, putS, mapPut, mapUpdateF, mapDel, deleteF, mapAll, rangeM, rangeF, overV, hitV, nextO, nextF, entryM, entryO, entryF, itOids, builtinF, capsOf, allocF, boxF, bytesL, bytesF, byteTy, strTy, convertF, makeFuncF, makeMapF, makeMapH, opF, reach, reachOf, AObj.live, closedB, nodupB, packO, packL, packX, backN, backG, backO, obL, backE, frzX, frzO, AV.vids, frzL, landC, sameObs, landR, touchF, D.cells, D.decEq, D.decEqs, AV.decEq, AV.decEqs, AObj.decEq, AV.oids0, AV.oids, AObj.oids, renG, renP, AV.ren0, AV.ren, envGet, envPut, envKeep, obGet, setEff, putV, St.put, stepS, keyChk, chkD, accD, Ex.block, AV.under, AObj.under, laysOf, roomFor, mkvO, frzG, szOk, killO, usedBy, tidyS, ghost, ghostE, normSt, resOf, allSome, one0, resultsF, finL, finishL, finish, endF, startEnv, chkC, backX, comeC, wpn_nil, wpn_seq, wpn_loop, wpn_seq_exit, wpn_loop_exit, wpn_seq_ret, wpn_loop_ret, wpn_block, wpn_post, wpk_skip, wpk_exit, wpk_ret, wpk_reg, wpk_seq, wpk_condT, wpk_block, wpk_loop, wpk_pre, wpk_post, wop_nil, wop_cons, wop_guard, St.know, envSet, cond_d, cond_bool, cond_int, cond_str, endE, endQ, freeB, disj, pushT, bitsW, int_beq, int_bne, eqS_def, tbE, fuelL_eq, ann0_lays, ann0_dd, ann0_ro, elsOf_dsl, elsOf_dnils, toNat_succ, nn_succ, pos_succ, one_succ, rng1, rng2, rng3, rng4, rng5, rng6, rng7, rng8, List.idxOf_cons, T3, T4, T5, T9, T22, T25, T26, T28, T29, T36, T41, T47, T56, T69, T74, T78, T85, T90, T98, CT, q1, a1, a2, a3]
    exact hnext
set_option maxRecDepth 100000 in
set_option maxHeartbeats 4000000 in
theorem law6_run (A : D) (l : List It) (hok : ∀ x ∈ l, x.ok) (hA : elsOf (.d A) = some (l.map It.enc)) (n : Int) (hn : 0 ≤ n ∧ n < 256) : run CC 6 [.d A, .d (.int .u8 n)] [] = some (.d (.bool true), []) := by
  refine run_code (s := s6 0) rfl rfl rfl (by kernel_rfl) ?_
  by_cases hl : (60 : Int) < l.length
  · simp [s6, TK.agg, constAV, evalAV, eqCells, EK.has, EK.hasAll, vecEls, elsR, AV.toD, toDs, AV.cells, AV.one, joinD, TyI.zeroD, OpR.of, binIntF, binStrF, AV.isPtr, ptrNil, slNil, mpNil, nilE, eqF, negF, posF, binF, pelF, pvLoad, pelSet, pvStore, boxLoad, epLoad, loadF, boxStore, storeF, fieldAddrF, fieldF, epOf, indexAddrF, byteF, indexF, mapLen, lenF, cutF, sliceF, isSl, slice3F, fillF, arrFs, buildF, partsX, landV, buildSliceF, roomB, appVec, appendF, mmFrom, mmF, max2', min2', clearVec, clearF, convF, unF, pickF, nilChkF, extF, ptrsOf, callF, makeSliceF, sameKs, sameD, kindIs, plainFs, keyOk, mapOb, mapEs, okV, lookF, lookupF, putE, putS, mapPut, mapUpdateF, mapDel, deleteF, mapAll, rangeM, rangeF, overV, hitV, nextO, nextF, entryM, entryO, entryF, itOids, builtinF, capsOf, allocF, boxF, bytesL, bytesF, byteTy, strTy, convertF, makeFuncF, makeMapF, makeMapH, opF, reach, reachOf, AObj.live, closedB, nodupB, packO, packL, packX, backN, backG, backO, obL, backE, frzX, frzO, AV.vids, frzL, landC, sameObs, landR, touchF, D.cells, D.decEq, D.decEqs, AV.decEq, AV.decEqs, AObj.decEq, AV.oids0, AV.oids, AObj.oids, renG, renP, AV.ren0, AV.ren, envGet, envPut, envKeep, obGet, setEff, putV, St.put, stepS, keyChk, chkD, accD, Ex.block, AV.under, AObj.under, laysOf, roomFor, mkvO, frzG, szOk, killO, usedBy, tidyS, ghost, ghostE, normSt, resOf, allSome, one0, resultsF, finL, finishL, finish, endF, startEnv, chkC, backX, comeC, wpn_nil, wpn_seq, wpn_loop, wpn_seq_exit, wpn_loop_exit, wpn_seq_ret, wpn_loop_ret, wpn_block, wpn_post, wpk_skip, wpk_exit, wpk_ret, wpk_reg, wpk_seq, wpk_condT, wpk_block, wpk_loop, wpk_pre, wpk_post, wop_nil, wop_cons, wop_guard, St.know, envSet, cond_d, cond_bool, cond_int, cond_str, endE, endQ, freeB, disj, pushT, bitsW, int_beq, int_bne, eqS_def, tbE, fuelL_eq, ann0_lays, ann0_dd, ann0_ro, elsOf_dsl, elsOf_dnils, toNat_succ, nn_succ, pos_succ, one_succ, rng1, rng2, rng3, rng4, rng5, rng6, rng7, rng8, List.idxOf_cons, T3, T4, T5, T9, T22, T25, T26, T28, T29, T36, T41, T47, T56, T69, T74, T78, T85, T90, T98, CT, known_run, hA, hl]
  have hnew := new_run 8 (by omega)
  simp only [smD] at hnew
  obtain ⟨b, rfl⟩ : ∃ b : Nat, n = b := ⟨n.toNat, by omega⟩
  simp [s6, TK.agg, constAV, evalAV, eqCells, EK.has, EK.hasAll, vecEls, elsR, AV.toD, toDs, AV.cells, AV.one, joinD, TyI.zeroD, OpR.of, binIntF, binStrF, AV.isPtr, ptrNil, slNil, mpNil, nilE, eqF, negF, posF, binF, pelF, pvLoad, pelSet, pvStore, boxLoad, epLoad, loadF, boxStore, storeF, fieldAddrF, fieldF, epOf, indexAddrF, byteF, indexF, mapLen, lenF, cutF, sliceF, isSl, slice3F, fillF, arrFs, buildF, partsX, landV, buildSliceF, roomB, appVec, appendF, mmFrom, mmF, max2', min2', clearVec, clearF, convF, unF, pickF, nilChkF, extF, ptrsOf, callF, makeSliceF, sameKs, sameD, kindIs, plainFs, keyOk, mapOb, mapEs, okV, lookF, lookupF, putE, putS, mapPut, mapUpdateF, mapDel, deleteF, mapAll, rangeM, rangeF, overV, hitV, nextO, nextF, entryM, entryO, entryF, itOids, builtinF, capsOf, allocF, boxF, bytesL, bytesF, byteTy, strTy, convertF, makeFuncF, makeMapF, makeMapH, opF, reach, reachOf, AObj.live, closedB, nodupB, packO, packL, packX, backN, backG, backO, obL, backE, frzX, frzO, AV.vids, frzL, landC, sameObs, landR, touchF, D.cells, D.decEq, D.decEqs, AV.decEq, AV.decEqs, AObj.decEq, AV.oids0, AV.oids, AObj.oids, renG, renP, AV.ren0, AV.ren, envGet, envPut, envKeep, obGet, setEff, putV, St.put, stepS, keyChk, chkD, accD, Ex.block, AV.under, AObj.under, laysOf, roomFor, mkvO, frzG, szOk, killO, usedBy, tidyS, ghost, ghostE, normSt, resOf, allSome, one0, resultsF, finL, finishL, finish, endF, startEnv, chkC, backX, comeC, wpn_nil, wpn_seq, wpn_loop, wpn_seq_exit, wpn_loop_exit, wpn_seq_ret, wpn_loop_ret, wpn_block, wpn_post, wpk_skip, wpk_exit, wpk_ret, wpk_reg, wpk_seq, wpk_condT, wpk_block, wpk_loop, wpk_pre, wpk_post, wop_nil, wop_cons, wop_guard, St.know, envSet, cond_d, cond_bool, cond_int, cond_str, endE, endQ, freeB, disj, pushT, bitsW, int_beq, int_bne, eqS_def, tbE, fuelL_eq, ann0_lays, ann0_dd, ann0_ro, elsOf_dsl, elsOf_dnils, toNat_succ, nn_succ, pos_succ, one_succ, rng1, rng2, rng3, rng4, rng5, rng6, rng7, rng8, List.idxOf_cons, T3, T4, T5, T9, T22, T25, T26, T28, T29, T36, T41, T47, T56, T69, T74, T78, T85, T90, T98, CT, known_run, hA, hl, hnew]
  refine wlp_inv (S := fun p : List It × List It => ⟨[(0, .d A), (1, .d (.int .u8 b)), (5, .ptr 0 0), (6, .d (.int .i64 0)), (7, .d (.int .i64 p.1.length))], [.box [.d (.int .i64 (stS (emS 8) (p.1.map mk8)).most), .d (.int .i64 (stS (emS 8) (p.1.map mk8)).tot), .d (.int .i64 (stS (emS 8) (p.1.map mk8)).lost), .d (stX 8 (p.1.map mk8))]]⟩) (m := fun p => p.2.length) (Inv := fun p => p.1 ++ p.2 = rot (b % l.length) l) ?_ ([], rot (b % l.length) l) rfl
  rintro ⟨pre, suf⟩ hps ih
  rw [e6_1]
  simp only at hps ⊢
  have hX := stX_els 8 (pre.map mk8)
  obtain ⟨a1, a2, a3⟩ := slF hX
  simp only [AV.one, AV.cells, D.cells] at a1 a2 a3
  have hrl : (rot (b % l.length) l).length = l.length := by simp [rot]; omega
  have hlen : pre.length + suf.length = l.length := by rw [← hrl, ← hps]; simp
  have hsw := sumW_le (pre.map mk8)
  simp only [List.length_map] at hsw
  obtain ⟨hs, hmost, htot, _⟩ := st_ok (pre.map mk8) (emS 8) (em_ok (by omega)) (by simp [emS]; omega)
  have e0 : (emS 8).tot = 0 := rfl
  cases suf with
  | nil =>
    rw [List.append_nil] at hps
    simp at hlen
    have hrok : ∀ x ∈ pre, x.ok := fun x hx => by
      rw [hps] at hx
      rcases List.mem_append.1 hx with hx | hx
      · exact hok x (List.mem_of_mem_drop hx)
      · exact hok x (List.mem_of_mem_take hx)
    obtain ⟨d1, d2⟩ := exact_st pre (emS 8) (em_ok (by omega)) rfl (by rw [sumW_mk8] at hsw; simp [emS]; omega) (by simp [in8, emS]) rfl hrok
    have hcnt : ∀ k : Nat, k < 8 → cntC (keyB k) (stS (emS 8) (pre.map mk8)).cs = w8 k l := fun k hk => by
      rw [d2, w8_ex hk l hok, hps]
      unfold rot
      have e1 : cntC (keyB k) (emS 8).cs = 0 := rfl
      rw [e1, List.map_append, exC_append, Int.zero_add]
      have e2 : l.map mk8 = (l.take (b % l.length)).map mk8 ++ (l.drop (b % l.length)).map mk8 := by rw [← List.map_append, List.take_append_drop]
      rw [e2, exC_append]; omega
    generalize stX 8 (pre.map mk8) = X at *
    generalize stS (emS 8) (pre.map mk8) = s at *
    have hq : ¬ pre.length < l.length := by omega
    have hloop := loop6_2 A l (by omega) hok hA s X hX hs d1 hcnt
    rw [d1] at hloop ⊢
    simp [c6_1, TK.agg, constAV, evalAV, eqCells, EK.has, EK.hasAll, vecEls, elsR, AV.toD, toDs, AV.cells, AV.one, joinD, TyI.zeroD, OpR.of, binIntF, binStrF, AV.isPtr, ptrNil, slNil, mpNil, nilE, eqF, negF, posF, binF, pelF, pvLoad, pelSet, pvStore, boxLoad, epLoad, loadF, boxStore, storeF, fieldAddrF, fieldF, epOf, indexAddrF, byteF, indexF, mapLen, lenF, cutF, sliceF, isSl, slice3F, fillF, arrFs, buildF, partsX, landV, buildSliceF, roomB, appVec, appendF, mmFrom, mmF, max2', min2', clearVec, clearF, convF, unF, pickF, nilChkF, extF, ptrsOf, callF, makeSliceF, sameKs, sameD, kindIs, plainFs, keyOk, mapOb, mapEs, okV, lookF, lookupF, putE, putS, mapPut, mapUpdateF, mapDel, deleteF, mapAll, rangeM, rangeF, overV, hitV, nextO, nextF, entryM, entryO, entryF, itOids, builtinF, capsOf, allocF, boxF, bytesL, bytesF, byteTy, strTy, convertF, makeFuncF, makeMapF, makeMapH, opF, reach, reachOf, AObj.live, closedB, nodupB, packO, packL, packX, backN, backG, backO, obL, backE, frzX, frzO, AV.vids, frzL, landC, sameObs, landR, touchF, D.cells, D.decEq, D.decEqs, AV.decEq, AV.decEqs, AObj.decEq, AV.oids0, AV.oids, AObj.oids, renG, renP, AV.ren0, AV.ren, envGet, envPut, envKeep, obGet, setEff, putV, St.put, stepS, keyChk, chkD, accD, Ex.block, AV.under, AObj.under, laysOf, roomFor, mkvO, frzG, szOk, killO, usedBy, tidyS, ghost, ghostE, normSt, resOf, allSome, one0, resultsF, finL, finishL, finish, endF, startEnv, chkC, backX, comeC, wpn_nil, wpn_seq, wpn_loop, wpn_seq_exit, wpn_loop_exit, wpn_seq_ret, wpn_loop_ret, wpn_block, wpn_post, wpk_skip, wpk_exit, wpk_ret, wpk_reg, wpk_seq, wpk_condT, wpk_block, wpk_loop, wpk_pre, wpk_post, wop_nil, wop_cons, wop_guard, St.know, envSet, cond_d, cond_bool, cond_int, cond_str, endE, endQ, freeB, disj, pushT, bitsW, int_beq, int_bne, eqS_def, tbE, fuelL_eq, ann0_lays, ann0_dd, ann0_ro, elsOf_dsl, elsOf_dnils, toNat_succ, nn_succ, pos_succ, one_succ, rng1, rng2, rng3, rng4, rng5, rng6, rng7, rng8, List.idxOf_cons, T3, T4, T5, T9, T22, T25, T26, T28, T29, T36, T41, T47, T56, T69, T74, T78, T85, T90, T98, CT, hA, hq, a1, a2, a3]
    refine hloop _ _ ?_
    simp [TK.agg, constAV, evalAV, eqCells, EK.has, EK.hasAll, vecEls, elsR, AV.toD, toDs, AV.cells, AV.one, joinD, TyI.zeroD, OpR.of, binIntF, binStrF, AV.isPtr, ptrNil, slNil, mpNil, nilE, eqF, negF, posF, binF, pelF, pvLoad, pelSet, pvStore, boxLoad, epLoad, loadF, boxStore, storeF, fieldAddrF, fieldF, epOf, indexAddrF, byteF, indexF, mapLen, lenF, cutF, sliceF, isSl, slice3F, fillF, arrFs, buildF, partsX, landV, buildSliceF, roomB, appVec, appendF, mmFrom, mmF, max2', min2', clearVec, clearF, convF, unF, pickF, nilChkF, extF, ptrsOf, callF, makeSliceF, sameKs, sameD, kindIs, plainFs, keyOk, mapOb, mapEs, okV, lookF, lookupF, putE, putS, mapPut, mapUpdateF, mapDel, deleteF, mapAll, rangeM, rangeF, overV, hitV, nextO, nextF, entryM, entryO, entryF, itOids, builtinF, capsOf, allocF, boxF, bytesL, bytesF, byteTy, strTy, convertF, makeFuncF, makeMapF, makeMapH, opF, reach, reachOf, AObj.live, closedB, nodupB, packO, packL, packX, backN, backG, backO, obL, backE, frzX, frzO, AV.vids, frzL, landC, sameObs, landR, touchF, D.cells, D.decEq, D.decEqs, AV.decEq, AV.decEqs, AObj.decEq, AV.oids0, AV.oids, AObj.oids, renG, renP, AV.ren0, AV.ren, envGet, envPut, envKeep, obGet, setEff, putV, St.put, stepS, keyChk, chkD, accD, Ex.block, AV.under, AObj.under, laysOf, roomFor, mkvO, frzG, szOk, killO, usedBy, tidyS, ghost, ghostE, normSt, resOf, allSome, one0, resultsF, finL, finishL, finish, endF, startEnv, chkC, backX, comeC, wpn_nil, wpn_seq, wpn_loop, wpn_seq_exit, wpn_loop_exit, wpn_seq_ret, wpn_loop_ret, wpn_block, wpn_post, wpk_skip, wpk_exit, wpk_ret, wpk_reg, wpk_seq, wpk_condT, wpk_block, wpk_loop, wpk_pre, wpk_post, wop_nil, wop_cons, wop_guard, St.know, envSet, cond_d, cond_bool, cond_int, cond_str, endE, endQ, freeB, disj, pushT, bitsW, int_beq, int_bne, eqS_def, tbE, fuelL_eq, ann0_lays, ann0_dd, ann0_ro, elsOf_dsl, elsOf_dnils, toNat_succ, nn_succ, pos_succ, one_succ, rng1, rng2, rng3, rng4, rng5, rng6, rng7, rng8, List.idxOf_cons, T3, T4, T5, T9, T22, T25, T26, T28, T29, T36, T41, T47, T56, T69, T74, T78, T85, T90, T98, CT]
  | cons x suf =>
    simp only [List.length_cons] at hlen
    have hpl : pre.length < l.length := by omega
    have hget : l[(pre.length + b) % l.length]? = some x := by
      rw [← rot_get l b pre.length hpl, ← hps]; simp
    have hmlt : (pre.length + b) % l.length < l.length := Nat.mod_lt _ (by omega)
    have hgm : (l.map It.enc)[(pre.length + b) % l.length]? = some x.enc := by rw [List.getElem?_map, hget]; rfl
    have hgg := getL hget hmlt
    have hx := hok x (List.mem_of_getElem? hget)
    have hx8 : (mk8 x).ok := ⟨by simp only [mk8]; omega, hx.2⟩
    have hk := key_run (mk8 x) hx8
    have hw := weight_run (mk8 x) hx8
    have hwl := wtI_le x.w
    have hadd := addP_run hs (by rw [hmost]; simp [emS]) (stX 8 (pre.map mk8)) hX (key_name (mk8 x).k) (wtI_le (mk8 x).w).1 (by have := wtI_le (mk8 x).w; omega) (by have := wtI_le (mk8 x).w; omega)
    have ih := ih (pre ++ [x], suf) (by simpa using hps) (by simp)
    have hmap : (pre ++ [x]).map mk8 = pre.map mk8 ++ [mk8 x] := by simp
    have hne : stX 8 (pre.map mk8 ++ [mk8 x]) = .sl (csD (addS (stS (emS 8) (pre.map mk8)) (keyB (mk8 x).k) (wtI (mk8 x).w)).cs) := by
      unfold stX
      rw [if_neg (by simp), stS_app]
    simp only [hmap, stS_app, hne] at ih
    have w2 : IntKind.i64.wrap ((pre.length : Int) + 1) = (pre.length : Int) + 1 := wrap64 (by omega) (by omega)
    have w3 : IntKind.i64.wrap (b : Int) = b := wrap64 (by omega) (by omega)
    have w4 : IntKind.i64.wrap ((pre.length : Int) + b) = (pre.length : Int) + b := wrap64 (by omega) (by omega)
    have w5 : IntKind.u8.wrap (x.k % 8) = x.k % 8 := wrap_u8 (by omega) (by omega)
    have hkm := Int.tmod_eq_emod_of_nonneg hx.1.1 (b := 8)
    have hmod : ((pre.length : Int) + b).tmod l.length = ((pre.length + b) % l.length : Nat) := by
      rw [Int.tmod_eq_emod_of_nonneg (by omega)]
      simp
    have w6 : IntKind.i64.wrap ((((pre.length + b) % l.length : Nat) : Int)) = (((pre.length + b) % l.length : Nat) : Int) := wrap64 (by omega) (by omega)
    have hz : ¬ (l.length : Int) = 0 := by omega
    have hz2 : ¬ l.length = 0 := by omega
    have hz3 : l ≠ [] := by intro e; rw [e] at hpl; simp at hpl
    generalize hii : (pre.length + b) % l.length = ii at *
    generalize hs1 : stS (emS 8) (pre.map mk8) = s at *
    simp only [mk8] at hk hw hadd ih
    generalize hs2 : addS s (keyB (x.k % 8)) (wtI x.w) = s2 at *
    generalize stX 8 (pre.map mk8) = Y at *
    simp at ih
    simp only [smD] at hadd
    simp only [It.enc] at hgm hk hw
    simp [c6_1, TK.agg, constAV, evalAV, eqCells, EK.has, EK.hasAll, vecEls, elsR, AV.toD, toDs, AV.cells, AV.one, joinD, TyI.zeroD, OpR.of, binIntF, binStrF, AV.isPtr, ptrNil, slNil, mpNil, nilE, eqF, negF, posF, binF, pelF, pvLoad, pelSet, pvStore, boxLoad, epLoad, loadF, boxStore, storeF, fieldAddrF, fieldF, epOf, indexAddrF, byteF, indexF, mapLen, lenF, cutF, sliceF, isSl, slice3F, fillF, arrFs, buildF, partsX, landV, buildSliceF, roomB, appVec, appendF, mmFrom, mmF, max2', min2', clearVec, clearF, convF, unF, pickF, nilChkF, extF, ptrsOf, callF, makeSliceF, sameKs, sameD, kindIs, plainFs, keyOk, mapOb, mapEs, okV, lookF, lookupF, putE, putS, mapPut, mapUpdateF, mapDel, deleteF, mapAll, rangeM, rangeF, overV, hitV, nextO, nextF, entryM, entryO, entryF, itOids, builtinF, capsOf, allocF, boxF, bytesL, bytesF, byteTy, strTy, convertF, makeFuncF, makeMapF, makeMapH, opF, reach, reachOf, AObj.live, closedB, nodupB, packO, packL, packX, backN, backG, backO, obL, backE, frzX, frzO, AV.vids, frzL, landC, sameObs, landR, touchF, D.cells, D.decEq, D.decEqs, AV.decEq, AV.decEqs, AObj.decEq, AV.oids0, AV.oids, AObj.oids, renG, renP, AV.ren0, AV.ren, envGet, envPut, envKeep, obGet, setEff, putV, St.put, stepS, keyChk, chkD, accD, Ex.block, AV.under, AObj.under, laysOf, roomFor, mkvO, frzG, szOk, killO, usedBy, tidyS, ghost, ghostE, normSt, resOf, allSome, one0, resultsF, finL, finishL, finish, endF, startEnv, chkC, backX, comeC, wpn_nil, wpn_seq, wpn_loop, wpn_seq_exit, wpn_loop_exit, wpn_seq_ret, wpn_loop_ret, wpn_block, wpn_post, wpk_skip, wpk_exit, wpk_ret, wpk_reg, wpk_seq, wpk_condT, wpk_block, wpk_loop, wpk_pre, wpk_post, wop_nil, wop_cons, wop_guard, St.know, envSet, cond_d, cond_bool, cond_int, cond_str, endE, endQ, freeB, disj, pushT, bitsW, int_beq, int_bne, eqS_def, tbE, fuelL_eq, ann0_lays, ann0_dd, ann0_ro, elsOf_dsl, elsOf_dnils, toNat_succ, nn_succ, pos_succ, one_succ, rng1, rng2, rng3, rng4, rng5, rng6, rng7, rng8, List.idxOf_cons, T3, T4, T5, T9, T22, T25, T26, T28, T29, T36, T41, T47, T56, T69, T74, T78, T85, T90, T98, CT, hA, a1, a2, a3, It.enc, hpl, w2, w3, w4, w5, w6, hmod, hz, hz2, hz3, hmlt, hgm, hget, hgg, hkm, hk, hw, hadd]
    exact ih
end Go.Proofs.YtdhbecdlablonaaV
