/- Counters by decreasing counts: atLeast and its fellows. -/
import Derived.Test.YtdhbecdlablonaaWc22l
import Derived.Test.YtdhbecdlablonaaWe7a
set_option linter.unusedVariables false
set_option linter.unusedSimpArgs false
namespace Go.Proofs.YtdhbecdlablonaaV
open Go.RowKit
/-- Ahead: a greater count, or the same and a smaller key. -/
def tlt (a b : Ctr) : Prop := b.2 < a.2 ∨ (a.2 = b.2 ∧ lessS a.1 b.1 = true)
instance (a b : Ctr) : Decidable (tlt a b) := inferInstanceAs (Decidable (_ ∨ _))
def tcmp (a b : Ctr) : Int := firstNZ [cmpI b.2 a.2, cmpS a.1 b.1]
theorem tcmp_lt (a b : Ctr) : tcmp a b < 0 ↔ tlt a b := by
  unfold tcmp tlt firstNZ
  by_cases h1 : b.2 < a.2
  · simp [cmpI, h1]
  · by_cases h2 : a.2 < b.2
    · have h3 : ¬ a.2 = b.2 := by omega
      simp [cmpI, h1, h2, h3]
    · have h3 : a.2 = b.2 := by omega
      have := cmpS_lt a.1 b.1
      by_cases h4 : cmpS a.1 b.1 = 0
      · simp [cmpI, h3, h4, firstNZ]
        rw [h4] at this
        simpa using this
      · simp [cmpI, h3, h4, firstNZ]
        exact this
theorem tlt_trans {a b c : Ctr} (h1 : tlt a b) (h2 : tlt b c) : tlt a c := by
  unfold tlt at *
  rcases h1 with h1 | ⟨h1, k1⟩ <;> rcases h2 with h2 | ⟨h2, k2⟩
  · left; omega
  · left; omega
  · left; omega
  · right; exact ⟨by omega, lessS_trans k1 k2⟩
theorem tlt_asym {a b : Ctr} (h1 : tlt a b) (h2 : tlt b a) : False := by
  unfold tlt at *
  rcases h1 with h1 | ⟨h1, k1⟩ <;> rcases h2 with h2 | ⟨h2, k2⟩
  · omega
  · omega
  · omega
  · rw [lessS_asym k1] at k2; cases k2
theorem tlt_tot {a b : Ctr} (h : eqS a.1 b.1 = false) : tlt a b ∨ tlt b a := by
  unfold tlt
  by_cases h1 : b.2 < a.2
  · exact .inl (.inl h1)
  · by_cases h2 : a.2 < b.2
    · exact .inr (.inl h2)
    · cases h3 : lessS a.1 b.1 with
      | true => exact .inl (.inr ⟨by omega, rfl⟩)
      | false => exact .inr (.inr ⟨by omega, lessS_tri h3 h⟩)
theorem insV_tsrt {y : Ctr} : ∀ {r : List Ctr}, r.Pairwise (fun p q => tlt q p) → (∀ p ∈ r, eqS p.1 y.1 = false) → (insV tcmp y r).Pairwise (fun p q => tlt q p)
  | [], _, _ => by simp [insV]
  | x :: r, h, hne => by
    have h' := List.pairwise_cons.1 h
    unfold insV
    split
    · rename_i hc
      have hl := (tcmp_lt _ _).1 hc
      refine List.pairwise_cons.2 ⟨fun p hp => ?_, insV_tsrt h'.2 fun p hp => hne p (by simp [hp])⟩
      rcases List.mem_cons.1 ((insV_perm tcmp y r).subset hp) with rfl | hp
      · exact hl
      · exact h'.1 p hp
    · rename_i hc
      have hl : tlt x y := (tlt_tot (hne x (by simp))).resolve_right fun h => hc ((tcmp_lt _ _).2 h)
      refine List.pairwise_cons.2 ⟨fun p hp => ?_, h⟩
      rcases List.mem_cons.1 hp with rfl | hp
      · exact hl
      · exact tlt_trans (h'.1 p hp) hl
theorem isortV_tsrt : ∀ {suf r : List Ctr}, r.Pairwise (fun p q => tlt q p) → keysNe strK (r ++ suf) → (isortV tcmp r suf).Pairwise tlt
  | [], r, h, _ => by simp only [isortV]; exact List.pairwise_reverse.2 h
  | y :: suf, r, h, hne => by
    simp only [isortV]
    have h1 := List.pairwise_append.1 hne
    refine isortV_tsrt (insV_tsrt h fun p hp => h1.2.2 p hp y (by simp)) ?_
    have hp := ((insV_perm tcmp y r).append_right suf).trans (List.perm_middle (l₁ := r) (a := y) (l₂ := suf)).symm
    refine hp.symm.pairwise hne fun {a b} hab => ?_
    show eqS b.1 a.1 = false
    rw [eqS_comm]; exact hab
theorem tsrt_unique {a b : List Ctr} (hp : a.Perm b) (ha : a.Pairwise tlt) (hb : b.Pairwise tlt) : a = b := by
  refine List.Perm.eq_of_pairwise (le := tlt) (fun x y _ _ h1 h2 => ?_) ha hb hp
  exact (tlt_asym h1 h2).elim
def insT (c : Ctr) : List Ctr → List Ctr
  | [] => [c]
  | p :: r => if tlt p c then p :: insT c r else c :: p :: r
def topR : List Ctr → List Ctr → List Ctr
  | out, [] => out
  | out, c :: l => topR (insT c out) l
def topC (l : List Ctr) : List Ctr := topR [] l
theorem insT_perm (c : Ctr) : ∀ out : List Ctr, (insT c out).Perm (c :: out)
  | [] => List.Perm.refl _
  | p :: r => by
    unfold insT
    split
    · exact ((insT_perm c r).cons p).trans (List.Perm.swap c p r)
    · exact List.Perm.refl _
theorem insT_srt {c : Ctr} : ∀ {out : List Ctr}, out.Pairwise tlt → (∀ p ∈ out, eqS p.1 c.1 = false) → (insT c out).Pairwise tlt
  | [], _, _ => by simp [insT]
  | p :: r, h, hne => by
    have h' := List.pairwise_cons.1 h
    unfold insT
    split
    · rename_i hl
      refine List.pairwise_cons.2 ⟨fun q hq => ?_, insT_srt h'.2 fun q hq => hne q (by simp [hq])⟩
      rcases List.mem_cons.1 ((insT_perm c r).subset hq) with rfl | hq
      · exact hl
      · exact h'.1 q hq
    · rename_i hl
      have hg := (tlt_tot (hne p (by simp))).resolve_left hl
      refine List.pairwise_cons.2 ⟨fun q hq => ?_, h⟩
      rcases List.mem_cons.1 hq with rfl | hq
      · exact hg
      · exact tlt_trans hg (h'.1 q hq)
theorem topR_ok : ∀ {l out : List Ctr}, out.Pairwise tlt → keysNe strK (out ++ l) → (topR out l).Pairwise tlt ∧ (topR out l).Perm (out ++ l)
  | [], out, h, _ => ⟨h, by simp [topR]⟩
  | c :: l, out, h, hne => by
    simp only [topR]
    have h1 := List.pairwise_append.1 hne
    have hp := ((insT_perm c out).append_right l).trans (List.perm_middle (l₁ := out) (a := c) (l₂ := l)).symm
    obtain ⟨r1, r2⟩ := topR_ok (l := l) (insT_srt h fun p hp => h1.2.2 p hp c (by simp)) (by
      refine hp.symm.pairwise hne fun {a b} hab => ?_
      show eqS b.1 a.1 = false
      rw [eqS_comm]; exact hab)
    exact ⟨r1, r2.trans hp⟩
theorem topC_ok {l : List Ctr} (h : keysNe strK l) : (topC l).Pairwise tlt ∧ (topC l).Perm l := by
  have := topR_ok (l := l) (out := []) List.Pairwise.nil (by simpa using h)
  simpa [topC] using this
def leastC (n : Int) : List Ctr → List Ctr
  | [] => []
  | p :: l => if p.2 < n then [] else p :: leastC n l
theorem least_filter {n : Int} : ∀ {l : List Ctr}, l.Pairwise tlt → leastC n l = l.filter fun p => decide (n ≤ p.2)
  | [], _ => rfl
  | p :: l, h => by
    have h' := List.pairwise_cons.1 h
    unfold leastC
    split
    · rename_i hn
      symm
      rw [List.filter_eq_nil_iff]
      intro q hq
      have : q.2 < n := by
        rcases List.mem_cons.1 hq with rfl | hq
        · exact hn
        · rcases h'.1 q hq with h | ⟨h, _⟩ <;> omega
      simp; omega
    · rename_i hn
      rw [List.filter_cons, if_pos (by simp; omega), least_filter h'.2]
theorem atLeast_eq {l : List Ctr} (h : keysNe strK l) (n : Int) : isortV tcmp [] (l.filter fun p => decide (n ≤ p.2)) = leastC n (topC l) := by
  obtain ⟨t1, t2⟩ := topC_ok h
  have hs : keysNe strK (l.filter fun p => decide (n ≤ p.2)) := h.sublist List.filter_sublist
  rw [least_filter t1]
  refine tsrt_unique ?_ (isortV_tsrt List.Pairwise.nil (by simpa using hs)) (t1.sublist List.filter_sublist)
  exact (isortV_perm tcmp _ []).trans (t2.symm.filter _)
theorem least_all {l : List Ctr} (h : ∀ p ∈ l, 1 ≤ p.2) : ∀ {m : List Ctr}, (∀ p ∈ m, p ∈ l) → leastC 0 m = m
  | [], _ => rfl
  | p :: m, hm => by
    have h1 := h p (hm p (by simp))
    have ih := least_all h (m := m) fun q hq => hm q (by simp [hq])
    unfold leastC
    rw [if_neg (by omega), ih]
set_option maxRecDepth 100000 in
theorem cmp55_run (a b : Ctr) : run CC 55 [.d (cE a), .d (cE b)] [] = some (.d (.int .i64 (tcmp a b)), []) := by
  refine run_code (s := s55 0) rfl rfl rfl (by kernel_rfl) ?_
  have h1 := cmpI_run b.2 a.2
  have h2 := cmpS_run a.1 b.1
  have h3 := or_run [cmpI b.2 a.2, cmpS a.1 b.1] (.sl ([cmpI b.2 a.2, cmpS a.1 b.1].map (D.int .i64))) (by simp) rfl
  simp only [List.map_cons, List.map_nil] at h3
  simp [s55, cE, TK.agg, constAV, evalAV, eqCells, EK.has, EK.hasAll, vecEls, elsR, AV.toD, toDs, AV.cells, AV.one, joinD, TyI.zeroD, OpR.of, binIntF, binStrF, AV.isPtr, ptrNil, slNil, mpNil, nilE, eqF, negF, posF, binF, pelF, pvLoad, pelSet, pvStore, boxLoad, epLoad, loadF, boxStore, storeF, fieldAddrF, fieldF, epOf, indexAddrF, byteF, indexF, mapLen, lenF, cutF, sliceF, isSl, slice3F, fillF, arrFs, buildF, partsX, landV, buildSliceF, roomB, appVec, appendF, mmFrom, mmF, max2', min2', clearVec, clearF, convF, unF, pickF, nilChkF, extF, ptrsOf, callF, makeSliceF, sameKs, sameD, kindIs, plainFs, keyOk, mapOb, mapEs, okV, lookF, lookupF, putE, putS, mapPut, mapUpdateF, mapDel, deleteF, mapAll, rangeM, rangeF, overV, hitV, nextO, nextF, entryM, entryO, entryF, itOids, builtinF, capsOf, allocF, boxF, bytesL, bytesF, byteTy, strTy, convertF, makeFuncF, makeMapF, makeMapH, opF, reach, reachOf, AObj.live, closedB, nodupB, packO, packL, packX, backN, backG, backO, obL, backE, frzX, frzO, AV.vids, frzL, landC, sameObs, landR, touchF, D.cells, D.decEq, D.decEqs, AV.decEq, AV.decEqs, AObj.decEq, AV.oids0, AV.oids, AObj.oids, renG, renP, AV.ren0, AV.ren, envGet, envPut, envKeep, obGet, setEff, putV, St.put, stepS, keyChk, chkD, accD, Ex.block, AV.under, AObj.under, laysOf, roomFor, mkvO, frzG, szOk, killO, usedBy, tidyS, ghost, ghostE, normSt, resOf, allSome, one0, resultsF, finL, finishL, finish, endF, startEnv, chkC, backX, comeC, wpn_nil, wpn_seq, wpn_loop, wpn_seq_exit, wpn_loop_exit, wpn_seq_ret, wpn_loop_ret, wpn_block, wpn_post, wpk_skip, wpk_exit, wpk_ret, wpk_reg, wpk_seq, wpk_condT, wpk_block, wpk_loop, wpk_pre, wpk_post, wop_nil, wop_cons, wop_guard, St.know, envSet, cond_d, cond_bool, cond_int, cond_str, endE, endQ, freeB, disj, pushT, bitsW, int_beq, int_bne, eqS_def, tbE, fuelL_eq, ann0_lays, ann0_dd, ann0_ro, elsOf_dsl, elsOf_dnils, toNat_succ, nn_succ, pos_succ, one_succ, rng1, rng2, rng3, rng4, rng5, rng6, rng7, rng8, List.idxOf_cons, T3, T4, T5, T9, T22, T25, T26, T28, T29, T36, T41, T47, T56, T69, T74, T78, T85, T90, T98, CT, h1, h2, h3, tcmp]
theorem filt_app (n : Int) (c : Ctr) (l : List Ctr) : (l ++ [c]).filter (fun p => decide (n ≤ p.2)) = l.filter (fun p => decide (n ≤ p.2)) ++ if n ≤ c.2 then [c] else [] := by
  rw [List.filter_append]
  congr 1
  by_cases h : n ≤ c.2
  · rw [if_pos h, List.filter_eq_self.2 fun p hp => by rw [List.mem_singleton.1 hp]; exact decide_eq_true h]
  · rw [if_neg h, List.filter_eq_nil_iff.2 fun p hp => by rw [List.mem_singleton.1 hp]; simpa using h]
set_option maxRecDepth 100000 in
set_option maxHeartbeats 2000000 in
theorem atLeast_run (s : Sm) (X : D) (hX : elsOf (.d X) = some (csD s.cs)) (hl : s.cs.length ≤ 12) (hk : keysNe strK s.cs) (n : Int) : run CC 48 [.d (smD s X), .d (.int .i64 n)] [] = some (.d (.sl (csD (leastC n (topC s.cs)))), []) := by
  refine run_code (s := s48 0) rfl rfl rfl (by kernel_rfl) ?_
  obtain ⟨a1, a2, a3⟩ := slF hX
  simp only [AV.one, AV.cells, D.cells] at a1 a2 a3
  rw [← atLeast_eq hk]
  simp [s48, smD, TK.agg, constAV, evalAV, eqCells, EK.has, EK.hasAll, vecEls, elsR, AV.toD, toDs, AV.cells, AV.one, joinD, TyI.zeroD, OpR.of, binIntF, binStrF, AV.isPtr, ptrNil, slNil, mpNil, nilE, eqF, negF, posF, binF, pelF, pvLoad, pelSet, pvStore, boxLoad, epLoad, loadF, boxStore, storeF, fieldAddrF, fieldF, epOf, indexAddrF, byteF, indexF, mapLen, lenF, cutF, sliceF, isSl, slice3F, fillF, arrFs, buildF, partsX, landV, buildSliceF, roomB, appVec, appendF, mmFrom, mmF, max2', min2', clearVec, clearF, convF, unF, pickF, nilChkF, extF, ptrsOf, callF, makeSliceF, sameKs, sameD, kindIs, plainFs, keyOk, mapOb, mapEs, okV, lookF, lookupF, putE, putS, mapPut, mapUpdateF, mapDel, deleteF, mapAll, rangeM, rangeF, overV, hitV, nextO, nextF, entryM, entryO, entryF, itOids, builtinF, capsOf, allocF, boxF, bytesL, bytesF, byteTy, strTy, convertF, makeFuncF, makeMapF, makeMapH, opF, reach, reachOf, AObj.live, closedB, nodupB, packO, packL, packX, backN, backG, backO, obL, backE, frzX, frzO, AV.vids, frzL, landC, sameObs, landR, touchF, D.cells, D.decEq, D.decEqs, AV.decEq, AV.decEqs, AObj.decEq, AV.oids0, AV.oids, AObj.oids, renG, renP, AV.ren0, AV.ren, envGet, envPut, envKeep, obGet, setEff, putV, St.put, stepS, keyChk, chkD, accD, Ex.block, AV.under, AObj.under, laysOf, roomFor, mkvO, frzG, szOk, killO, usedBy, tidyS, ghost, ghostE, normSt, resOf, allSome, one0, resultsF, finL, finishL, finish, endF, startEnv, chkC, backX, comeC, wpn_nil, wpn_seq, wpn_loop, wpn_seq_exit, wpn_loop_exit, wpn_seq_ret, wpn_loop_ret, wpn_block, wpn_post, wpk_skip, wpk_exit, wpk_ret, wpk_reg, wpk_seq, wpk_condT, wpk_block, wpk_loop, wpk_pre, wpk_post, wop_nil, wop_cons, wop_guard, St.know, envSet, cond_d, cond_bool, cond_int, cond_str, endE, endQ, freeB, disj, pushT, bitsW, int_beq, int_bne, eqS_def, tbE, fuelL_eq, ann0_lays, ann0_dd, ann0_ro, elsOf_dsl, elsOf_dnils, toNat_succ, nn_succ, pos_succ, one_succ, rng1, rng2, rng3, rng4, rng5, rng6, rng7, rng8, List.idxOf_cons, T3, T4, T5, T9, T22, T25, T26, T28, T29, T36, T41, T47, T56, T69, T74, T78, T85, T90, T98, CT, a1, a2, a3, hX]
  refine wlp_inv (S := fun p : List Ctr × List Ctr => ⟨[(1, .d (.int .i64 n)), (5, .vs 1 0 2 0 (p.1.filter fun p => decide (n ≤ p.2)).length), (9, .d X), (10, .d (.int .i64 s.cs.length)), (11, .d (.int .i64 p.1.length))], [.dead, .vec 0 true false 25 2 (csD (p.1.filter fun p => decide (n ≤ p.2)))]⟩) (m := fun p => p.2.length) (Inv := fun p => p.1 ++ p.2 = s.cs) ?_ ([], s.cs) rfl
  rintro ⟨pre, suf⟩ hp ih
  rw [e48_1]
  simp only at hp ⊢
  have hlen : s.cs.length = pre.length + suf.length := by rw [← hp]; simp
  have hle := List.length_filter_le (fun p : Ctr => decide (n ≤ p.2)) pre
  cases suf with
  | nil =>
    have hn := endL hp
    rw [List.append_nil] at hp
    rw [← hp]
    have hs := sort49_run 55 tcmp cmp55_run (pre.filter fun p => decide (n ≤ p.2)) (by omega)
    have hil : (isortV tcmp [] (pre.filter fun p => decide (n ≤ p.2))).length = (pre.filter fun p => decide (n ≤ p.2)).length := by rw [isortV_len]; simp
    generalize isortV tcmp [] (pre.filter fun p => decide (n ≤ p.2)) = R at *
    generalize (pre.filter fun p => decide (n ≤ p.2)) = P at *
    have htk : (csD P).take P.length = csD P := List.take_of_length_le (by simp)
    have htk2 : (csD R).take P.length = csD R := List.take_of_length_le (by simp [hil])
    simp [c48_1, TK.agg, constAV, evalAV, eqCells, EK.has, EK.hasAll, vecEls, elsR, AV.toD, toDs, AV.cells, AV.one, joinD, TyI.zeroD, OpR.of, binIntF, binStrF, AV.isPtr, ptrNil, slNil, mpNil, nilE, eqF, negF, posF, binF, pelF, pvLoad, pelSet, pvStore, boxLoad, epLoad, loadF, boxStore, storeF, fieldAddrF, fieldF, epOf, indexAddrF, byteF, indexF, mapLen, lenF, cutF, sliceF, isSl, slice3F, fillF, arrFs, buildF, partsX, landV, buildSliceF, roomB, appVec, appendF, mmFrom, mmF, max2', min2', clearVec, clearF, convF, unF, pickF, nilChkF, extF, ptrsOf, callF, makeSliceF, sameKs, sameD, kindIs, plainFs, keyOk, mapOb, mapEs, okV, lookF, lookupF, putE, putS, mapPut, mapUpdateF, mapDel, deleteF, mapAll, rangeM, rangeF, overV, hitV, nextO, nextF, entryM, entryO, entryF, itOids, builtinF, capsOf, allocF, boxF, bytesL, bytesF, byteTy, strTy, convertF, makeFuncF, makeMapF, makeMapH, opF, reach, reachOf, AObj.live, closedB, nodupB, packO, packL, packX, backN, backG, backO, obL, backE, frzX, frzO, AV.vids, frzL, landC, sameObs, landR, touchF, D.cells, D.decEq, D.decEqs, AV.decEq, AV.decEqs, AObj.decEq, AV.oids0, AV.oids, AObj.oids, renG, renP, AV.ren0, AV.ren, envGet, envPut, envKeep, obGet, setEff, putV, St.put, stepS, keyChk, chkD, accD, Ex.block, AV.under, AObj.under, laysOf, roomFor, mkvO, frzG, szOk, killO, usedBy, tidyS, ghost, ghostE, normSt, resOf, allSome, one0, resultsF, finL, finishL, finish, endF, startEnv, chkC, backX, comeC, wpn_nil, wpn_seq, wpn_loop, wpn_seq_exit, wpn_loop_exit, wpn_seq_ret, wpn_loop_ret, wpn_block, wpn_post, wpk_skip, wpk_exit, wpk_ret, wpk_reg, wpk_seq, wpk_condT, wpk_block, wpk_loop, wpk_pre, wpk_post, wop_nil, wop_cons, wop_guard, St.know, envSet, cond_d, cond_bool, cond_int, cond_str, endE, endQ, freeB, disj, pushT, bitsW, int_beq, int_bne, eqS_def, tbE, fuelL_eq, ann0_lays, ann0_dd, ann0_ro, elsOf_dsl, elsOf_dnils, toNat_succ, nn_succ, pos_succ, one_succ, rng1, rng2, rng3, rng4, rng5, rng6, rng7, rng8, List.idxOf_cons, T3, T4, T5, T9, T22, T25, T26, T28, T29, T36, T41, T47, T56, T69, T74, T78, T85, T90, T98, CT, hn, htk, hs, htk2]
  | cons c suf =>
    obtain ⟨k1, k2, k3, k4, k5, k6⟩ := atL cE hp (by omega)
    have kg := getL k5 k4
    simp only [cE] at k3
    have ih := ih (pre ++ [c], suf) (by simpa using hp) (by simp)
    simp only [filt_app] at ih
    generalize (pre.filter fun p => decide (n ≤ p.2)) = P at *
    have htk : (csD P).take P.length = csD P := List.take_of_length_le (by simp)
    by_cases he : n ≤ c.2
    · have s1 : szAll 2 [D.agg [.str c.1, .int .i64 c.2]] = true := rfl
      have r1 : (P.length + 1) * 24 ≤ 140737488355328 := by omega
      have r2 : P.length + 1 ≤ 9223372036854775807 := by omega
      have r3 : P.length ≤ 9223372036854775806 := by omega
      simp [he, cE] at ih
      simp [c48_1, TK.agg, constAV, evalAV, eqCells, EK.has, EK.hasAll, vecEls, elsR, AV.toD, toDs, AV.cells, AV.one, joinD, TyI.zeroD, OpR.of, binIntF, binStrF, AV.isPtr, ptrNil, slNil, mpNil, nilE, eqF, negF, posF, binF, pelF, pvLoad, pelSet, pvStore, boxLoad, epLoad, loadF, boxStore, storeF, fieldAddrF, fieldF, epOf, indexAddrF, byteF, indexF, mapLen, lenF, cutF, sliceF, isSl, slice3F, fillF, arrFs, buildF, partsX, landV, buildSliceF, roomB, appVec, appendF, mmFrom, mmF, max2', min2', clearVec, clearF, convF, unF, pickF, nilChkF, extF, ptrsOf, callF, makeSliceF, sameKs, sameD, kindIs, plainFs, keyOk, mapOb, mapEs, okV, lookF, lookupF, putE, putS, mapPut, mapUpdateF, mapDel, deleteF, mapAll, rangeM, rangeF, overV, hitV, nextO, nextF, entryM, entryO, entryF, itOids, builtinF, capsOf, allocF, boxF, bytesL, bytesF, byteTy, strTy, convertF, makeFuncF, makeMapF, makeMapH, opF, reach, reachOf, AObj.live, closedB, nodupB, packO, packL, packX, backN, backG, backO, obL, backE, frzX, frzO, AV.vids, frzL, landC, sameObs, landR, touchF, D.cells, D.decEq, D.decEqs, AV.decEq, AV.decEqs, AObj.decEq, AV.oids0, AV.oids, AObj.oids, renG, renP, AV.ren0, AV.ren, envGet, envPut, envKeep, obGet, setEff, putV, St.put, stepS, keyChk, chkD, accD, Ex.block, AV.under, AObj.under, laysOf, roomFor, mkvO, frzG, szOk, killO, usedBy, tidyS, ghost, ghostE, normSt, resOf, allSome, one0, resultsF, finL, finishL, finish, endF, startEnv, chkC, backX, comeC, wpn_nil, wpn_seq, wpn_loop, wpn_seq_exit, wpn_loop_exit, wpn_seq_ret, wpn_loop_ret, wpn_block, wpn_post, wpk_skip, wpk_exit, wpk_ret, wpk_reg, wpk_seq, wpk_condT, wpk_block, wpk_loop, wpk_pre, wpk_post, wop_nil, wop_cons, wop_guard, St.know, envSet, cond_d, cond_bool, cond_int, cond_str, endE, endQ, freeB, disj, pushT, bitsW, int_beq, int_bne, eqS_def, tbE, fuelL_eq, ann0_lays, ann0_dd, ann0_ro, elsOf_dsl, elsOf_dnils, toNat_succ, nn_succ, pos_succ, one_succ, rng1, rng2, rng3, rng4, rng5, rng6, rng7, rng8, List.idxOf_cons, T3, T4, T5, T9, T22, T25, T26, T28, T29, T36, T41, T47, T56, T69, T74, T78, T85, T90, T98, CT, hX, k2, k3, k4, k5, kg, he, cE, s1, htk, r1, r2, r3]
      exact ih
    · simp [he] at ih
      have he2 : c.2 < n := by omega
      simp [c48_1, TK.agg, constAV, evalAV, eqCells, EK.has, EK.hasAll, vecEls, elsR, AV.toD, toDs, AV.cells, AV.one, joinD, TyI.zeroD, OpR.of, binIntF, binStrF, AV.isPtr, ptrNil, slNil, mpNil, nilE, eqF, negF, posF, binF, pelF, pvLoad, pelSet, pvStore, boxLoad, epLoad, loadF, boxStore, storeF, fieldAddrF, fieldF, epOf, indexAddrF, byteF, indexF, mapLen, lenF, cutF, sliceF, isSl, slice3F, fillF, arrFs, buildF, partsX, landV, buildSliceF, roomB, appVec, appendF, mmFrom, mmF, max2', min2', clearVec, clearF, convF, unF, pickF, nilChkF, extF, ptrsOf, callF, makeSliceF, sameKs, sameD, kindIs, plainFs, keyOk, mapOb, mapEs, okV, lookF, lookupF, putE, putS, mapPut, mapUpdateF, mapDel, deleteF, mapAll, rangeM, rangeF, overV, hitV, nextO, nextF, entryM, entryO, entryF, itOids, builtinF, capsOf, allocF, boxF, bytesL, bytesF, byteTy, strTy, convertF, makeFuncF, makeMapF, makeMapH, opF, reach, reachOf, AObj.live, closedB, nodupB, packO, packL, packX, backN, backG, backO, obL, backE, frzX, frzO, AV.vids, frzL, landC, sameObs, landR, touchF, D.cells, D.decEq, D.decEqs, AV.decEq, AV.decEqs, AObj.decEq, AV.oids0, AV.oids, AObj.oids, renG, renP, AV.ren0, AV.ren, envGet, envPut, envKeep, obGet, setEff, putV, St.put, stepS, keyChk, chkD, accD, Ex.block, AV.under, AObj.under, laysOf, roomFor, mkvO, frzG, szOk, killO, usedBy, tidyS, ghost, ghostE, normSt, resOf, allSome, one0, resultsF, finL, finishL, finish, endF, startEnv, chkC, backX, comeC, wpn_nil, wpn_seq, wpn_loop, wpn_seq_exit, wpn_loop_exit, wpn_seq_ret, wpn_loop_ret, wpn_block, wpn_post, wpk_skip, wpk_exit, wpk_ret, wpk_reg, wpk_seq, wpk_condT, wpk_block, wpk_loop, wpk_pre, wpk_post, wop_nil, wop_cons, wop_guard, St.know, envSet, cond_d, cond_bool, cond_int, cond_str, endE, endQ, freeB, disj, pushT, bitsW, int_beq, int_bne, eqS_def, tbE, fuelL_eq, ann0_lays, ann0_dd, ann0_ro, elsOf_dsl, elsOf_dnils, toNat_succ, nn_succ, pos_succ, one_succ, rng1, rng2, rng3, rng4, rng5, rng6, rng7, rng8, List.idxOf_cons, T3, T4, T5, T9, T22, T25, T26, T28, T29, T36, T41, T47, T56, T69, T74, T78, T85, T90, T98, CT, hX, k2, k3, k4, k5, kg, he, he2, cE, htk]
      exact ih
theorem guar_run (s : Sm) (X : D) (hX : elsOf (.d X) = some (csD s.cs)) (hl : s.cs.length ≤ 12) (hk : keysNe strK s.cs) (n : Int) : run CC 30 [.d (smD s X), .d (.int .i64 n)] [] = some (.d (.sl (csD (leastC n (topC s.cs)))), []) := by
  refine run_code (s := s30 0) rfl rfl rfl (by kernel_rfl) ?_
  obtain ⟨a1, a2, a3⟩ := slF hX
  simp only [AV.one, AV.cells, D.cells] at a1 a2 a3
  have h := atLeast_run s X hX hl hk n
  simp only [smD] at h
  simp [s30, smD, TK.agg, constAV, evalAV, eqCells, EK.has, EK.hasAll, vecEls, elsR, AV.toD, toDs, AV.cells, AV.one, joinD, TyI.zeroD, OpR.of, binIntF, binStrF, AV.isPtr, ptrNil, slNil, mpNil, nilE, eqF, negF, posF, binF, pelF, pvLoad, pelSet, pvStore, boxLoad, epLoad, loadF, boxStore, storeF, fieldAddrF, fieldF, epOf, indexAddrF, byteF, indexF, mapLen, lenF, cutF, sliceF, isSl, slice3F, fillF, arrFs, buildF, partsX, landV, buildSliceF, roomB, appVec, appendF, mmFrom, mmF, max2', min2', clearVec, clearF, convF, unF, pickF, nilChkF, extF, ptrsOf, callF, makeSliceF, sameKs, sameD, kindIs, plainFs, keyOk, mapOb, mapEs, okV, lookF, lookupF, putE, putS, mapPut, mapUpdateF, mapDel, deleteF, mapAll, rangeM, rangeF, overV, hitV, nextO, nextF, entryM, entryO, entryF, itOids, builtinF, capsOf, allocF, boxF, bytesL, bytesF, byteTy, strTy, convertF, makeFuncF, makeMapF, makeMapH, opF, reach, reachOf, AObj.live, closedB, nodupB, packO, packL, packX, backN, backG, backO, obL, backE, frzX, frzO, AV.vids, frzL, landC, sameObs, landR, touchF, D.cells, D.decEq, D.decEqs, AV.decEq, AV.decEqs, AObj.decEq, AV.oids0, AV.oids, AObj.oids, renG, renP, AV.ren0, AV.ren, envGet, envPut, envKeep, obGet, setEff, putV, St.put, stepS, keyChk, chkD, accD, Ex.block, AV.under, AObj.under, laysOf, roomFor, mkvO, frzG, szOk, killO, usedBy, tidyS, ghost, ghostE, normSt, resOf, allSome, one0, resultsF, finL, finishL, finish, endF, startEnv, chkC, backX, comeC, wpn_nil, wpn_seq, wpn_loop, wpn_seq_exit, wpn_loop_exit, wpn_seq_ret, wpn_loop_ret, wpn_block, wpn_post, wpk_skip, wpk_exit, wpk_ret, wpk_reg, wpk_seq, wpk_condT, wpk_block, wpk_loop, wpk_pre, wpk_post, wop_nil, wop_cons, wop_guard, St.know, envSet, cond_d, cond_bool, cond_int, cond_str, endE, endQ, freeB, disj, pushT, bitsW, int_beq, int_bne, eqS_def, tbE, fuelL_eq, ann0_lays, ann0_dd, ann0_ro, elsOf_dsl, elsOf_dnils, toNat_succ, nn_succ, pos_succ, one_succ, rng1, rng2, rng3, rng4, rng5, rng6, rng7, rng8, List.idxOf_cons, T3, T4, T5, T9, T22, T25, T26, T28, T29, T36, T41, T47, T56, T69, T74, T78, T85, T90, T98, CT, a1, a2, a3, h]
theorem topP_run (s : Sm) (X : D) (hX : elsOf (.d X) = some (csD s.cs)) (hl : s.cs.length ≤ 12) (hk : keysNe strK s.cs) : run CC 34 [.d (smD s X)] [] = some (.d (.sl (csD (leastC 0 (topC s.cs)))), []) := by
  refine run_code (s := s34 0) rfl rfl rfl (by kernel_rfl) ?_
  obtain ⟨a1, a2, a3⟩ := slF hX
  simp only [AV.one, AV.cells, D.cells] at a1 a2 a3
  have h := atLeast_run s X hX hl hk 0
  simp only [smD] at h
  simp [s34, smD, TK.agg, constAV, evalAV, eqCells, EK.has, EK.hasAll, vecEls, elsR, AV.toD, toDs, AV.cells, AV.one, joinD, TyI.zeroD, OpR.of, binIntF, binStrF, AV.isPtr, ptrNil, slNil, mpNil, nilE, eqF, negF, posF, binF, pelF, pvLoad, pelSet, pvStore, boxLoad, epLoad, loadF, boxStore, storeF, fieldAddrF, fieldF, epOf, indexAddrF, byteF, indexF, mapLen, lenF, cutF, sliceF, isSl, slice3F, fillF, arrFs, buildF, partsX, landV, buildSliceF, roomB, appVec, appendF, mmFrom, mmF, max2', min2', clearVec, clearF, convF, unF, pickF, nilChkF, extF, ptrsOf, callF, makeSliceF, sameKs, sameD, kindIs, plainFs, keyOk, mapOb, mapEs, okV, lookF, lookupF, putE, putS, mapPut, mapUpdateF, mapDel, deleteF, mapAll, rangeM, rangeF, overV, hitV, nextO, nextF, entryM, entryO, entryF, itOids, builtinF, capsOf, allocF, boxF, bytesL, bytesF, byteTy, strTy, convertF, makeFuncF, makeMapF, makeMapH, opF, reach, reachOf, AObj.live, closedB, nodupB, packO, packL, packX, backN, backG, backO, obL, backE, frzX, frzO, AV.vids, frzL, landC, sameObs, landR, touchF, D.cells, D.decEq, D.decEqs, AV.decEq, AV.decEqs, AObj.decEq, AV.oids0, AV.oids, AObj.oids, renG, renP, AV.ren0, AV.ren, envGet, envPut, envKeep, obGet, setEff, putV, St.put, stepS, keyChk, chkD, accD, Ex.block, AV.under, AObj.under, laysOf, roomFor, mkvO, frzG, szOk, killO, usedBy, tidyS, ghost, ghostE, normSt, resOf, allSome, one0, resultsF, finL, finishL, finish, endF, startEnv, chkC, backX, comeC, wpn_nil, wpn_seq, wpn_loop, wpn_seq_exit, wpn_loop_exit, wpn_seq_ret, wpn_loop_ret, wpn_block, wpn_post, wpk_skip, wpk_exit, wpk_ret, wpk_reg, wpk_seq, wpk_condT, wpk_block, wpk_loop, wpk_pre, wpk_post, wop_nil, wop_cons, wop_guard, St.know, envSet, cond_d, cond_bool, cond_int, cond_str, endE, endQ, freeB, disj, pushT, bitsW, int_beq, int_bne, eqS_def, tbE, fuelL_eq, ann0_lays, ann0_dd, ann0_ro, elsOf_dsl, elsOf_dnils, toNat_succ, nn_succ, pos_succ, one_succ, rng1, rng2, rng3, rng4, rng5, rng6, rng7, rng8, List.idxOf_cons, T3, T4, T5, T9, T22, T25, T26, T28, T29, T36, T41, T47, T56, T69, T74, T78, T85, T90, T98, CT, a1, a2, a3, h]
theorem poss_bad (s : Sm) (X : D) (hX : elsOf (.d X) = some (csD s.cs)) (n : Int) (h : n ≤ s.lost) : run CC 31 [.d (smD s X), .d (.int .i64 n)] [] = some (.tup [.d .nils, .d (.int .i64 23)], []) := by
  refine run_code (s := s31 0) rfl rfl rfl (by kernel_rfl) ?_
  obtain ⟨a1, a2, a3⟩ := slF hX
  simp only [AV.one, AV.cells, D.cells] at a1 a2 a3
  simp [s31, smD, TK.agg, constAV, evalAV, eqCells, EK.has, EK.hasAll, vecEls, elsR, AV.toD, toDs, AV.cells, AV.one, joinD, TyI.zeroD, OpR.of, binIntF, binStrF, AV.isPtr, ptrNil, slNil, mpNil, nilE, eqF, negF, posF, binF, pelF, pvLoad, pelSet, pvStore, boxLoad, epLoad, loadF, boxStore, storeF, fieldAddrF, fieldF, epOf, indexAddrF, byteF, indexF, mapLen, lenF, cutF, sliceF, isSl, slice3F, fillF, arrFs, buildF, partsX, landV, buildSliceF, roomB, appVec, appendF, mmFrom, mmF, max2', min2', clearVec, clearF, convF, unF, pickF, nilChkF, extF, ptrsOf, callF, makeSliceF, sameKs, sameD, kindIs, plainFs, keyOk, mapOb, mapEs, okV, lookF, lookupF, putE, putS, mapPut, mapUpdateF, mapDel, deleteF, mapAll, rangeM, rangeF, overV, hitV, nextO, nextF, entryM, entryO, entryF, itOids, builtinF, capsOf, allocF, boxF, bytesL, bytesF, byteTy, strTy, convertF, makeFuncF, makeMapF, makeMapH, opF, reach, reachOf, AObj.live, closedB, nodupB, packO, packL, packX, backN, backG, backO, obL, backE, frzX, frzO, AV.vids, frzL, landC, sameObs, landR, touchF, D.cells, D.decEq, D.decEqs, AV.decEq, AV.decEqs, AObj.decEq, AV.oids0, AV.oids, AObj.oids, renG, renP, AV.ren0, AV.ren, envGet, envPut, envKeep, obGet, setEff, putV, St.put, stepS, keyChk, chkD, accD, Ex.block, AV.under, AObj.under, laysOf, roomFor, mkvO, frzG, szOk, killO, usedBy, tidyS, ghost, ghostE, normSt, resOf, allSome, one0, resultsF, finL, finishL, finish, endF, startEnv, chkC, backX, comeC, wpn_nil, wpn_seq, wpn_loop, wpn_seq_exit, wpn_loop_exit, wpn_seq_ret, wpn_loop_ret, wpn_block, wpn_post, wpk_skip, wpk_exit, wpk_ret, wpk_reg, wpk_seq, wpk_condT, wpk_block, wpk_loop, wpk_pre, wpk_post, wop_nil, wop_cons, wop_guard, St.know, envSet, cond_d, cond_bool, cond_int, cond_str, endE, endQ, freeB, disj, pushT, bitsW, int_beq, int_bne, eqS_def, tbE, fuelL_eq, ann0_lays, ann0_dd, ann0_ro, elsOf_dsl, elsOf_dnils, toNat_succ, nn_succ, pos_succ, one_succ, rng1, rng2, rng3, rng4, rng5, rng6, rng7, rng8, List.idxOf_cons, T3, T4, T5, T9, T22, T25, T26, T28, T29, T36, T41, T47, T56, T69, T74, T78, T85, T90, T98, CT, a1, a2, a3, h]
theorem poss_run (s : Sm) (X : D) (hX : elsOf (.d X) = some (csD s.cs)) (hl : s.cs.length ≤ 12) (hk : keysNe strK s.cs) (n : Int) (h : ¬ n ≤ s.lost) (hw : IntKind.i64.wrap (n - s.lost) = n - s.lost) : run CC 31 [.d (smD s X), .d (.int .i64 n)] [] = some (.tup [.d (.sl (csD (leastC (n - s.lost) (topC s.cs)))), .d (.int .i64 0)], []) := by
  refine run_code (s := s31 0) rfl rfl rfl (by kernel_rfl) ?_
  obtain ⟨a1, a2, a3⟩ := slF hX
  simp only [AV.one, AV.cells, D.cells] at a1 a2 a3
  have ha := atLeast_run s X hX hl hk (n - s.lost)
  simp only [smD] at ha
  have h2 : s.lost < n := by omega
  simp [s31, smD, TK.agg, constAV, evalAV, eqCells, EK.has, EK.hasAll, vecEls, elsR, AV.toD, toDs, AV.cells, AV.one, joinD, TyI.zeroD, OpR.of, binIntF, binStrF, AV.isPtr, ptrNil, slNil, mpNil, nilE, eqF, negF, posF, binF, pelF, pvLoad, pelSet, pvStore, boxLoad, epLoad, loadF, boxStore, storeF, fieldAddrF, fieldF, epOf, indexAddrF, byteF, indexF, mapLen, lenF, cutF, sliceF, isSl, slice3F, fillF, arrFs, buildF, partsX, landV, buildSliceF, roomB, appVec, appendF, mmFrom, mmF, max2', min2', clearVec, clearF, convF, unF, pickF, nilChkF, extF, ptrsOf, callF, makeSliceF, sameKs, sameD, kindIs, plainFs, keyOk, mapOb, mapEs, okV, lookF, lookupF, putE, putS, mapPut, mapUpdateF, mapDel, deleteF, mapAll, rangeM, rangeF, overV, hitV, nextO, nextF, entryM, entryO, entryF, itOids, builtinF, capsOf, allocF, boxF, bytesL, bytesF, byteTy, strTy, convertF, makeFuncF, makeMapF, makeMapH, opF, reach, reachOf, AObj.live, closedB, nodupB, packO, packL, packX, backN, backG, backO, obL, backE, frzX, frzO, AV.vids, frzL, landC, sameObs, landR, touchF, D.cells, D.decEq, D.decEqs, AV.decEq, AV.decEqs, AObj.decEq, AV.oids0, AV.oids, AObj.oids, renG, renP, AV.ren0, AV.ren, envGet, envPut, envKeep, obGet, setEff, putV, St.put, stepS, keyChk, chkD, accD, Ex.block, AV.under, AObj.under, laysOf, roomFor, mkvO, frzG, szOk, killO, usedBy, tidyS, ghost, ghostE, normSt, resOf, allSome, one0, resultsF, finL, finishL, finish, endF, startEnv, chkC, backX, comeC, wpn_nil, wpn_seq, wpn_loop, wpn_seq_exit, wpn_loop_exit, wpn_seq_ret, wpn_loop_ret, wpn_block, wpn_post, wpk_skip, wpk_exit, wpk_ret, wpk_reg, wpk_seq, wpk_condT, wpk_block, wpk_loop, wpk_pre, wpk_post, wop_nil, wop_cons, wop_guard, St.know, envSet, cond_d, cond_bool, cond_int, cond_str, endE, endQ, freeB, disj, pushT, bitsW, int_beq, int_bne, eqS_def, tbE, fuelL_eq, ann0_lays, ann0_dd, ann0_ro, elsOf_dsl, elsOf_dnils, toNat_succ, nn_succ, pos_succ, one_succ, rng1, rng2, rng3, rng4, rng5, rng6, rng7, rng8, List.idxOf_cons, T3, T4, T5, T9, T22, T25, T26, T28, T29, T36, T41, T47, T56, T69, T74, T78, T85, T90, T98, CT, a1, a2, a3, h, h2, hw, ha]
end Go.Proofs.YtdhbecdlablonaaV
