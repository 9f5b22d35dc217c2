/- Counters by decreasing counts: atLeast and its fellows. -/
import Derived.Test.YtdhbecdlablonaaWc22l
import Derived.Test.YtdhbecdlablonaaWe7a
set_option linter.unusedVariables false
set_option linter.unusedSimpArgs false
namespace Go.Proofs.YtdhbecdlablonaaV
open Go.RowKit
/-- Ahead: a greater count, or the same and a smaller key. -/
def tlt (a b : Ctr) : Prop := b.2 < a.2 ∨ (a.2 = b.2 ∧ lessS a.1 b.1 = true)
instance (a b : Ctr) : Decidable (tlt a b) := inferInstanceAs (Decidable (_ ∨ _))
def tcmp (a b : Ctr) : Int := firstNZ [cmpI b.2 a.2, cmpS a.1 b.1]
theorem tcmp_lt (a b : Ctr) : tcmp a b < 0 ↔ tlt a b := by
  unfold tcmp tlt firstNZ
  by_cases h1 : b.2 < a.2
  · simp [cmpI, h1]
  · by_cases h2 : a.2 < b.2
    · have h3 : ¬ a.2 = b.2 := by omega
      simp [cmpI, h1, h2, h3]
    · have h3 : a.2 = b.2 := by omega
      have := cmpS_lt a.1 b.1
      by_cases h4 : cmpS a.1 b.1 = 0
      · simp [cmpI, h3, h4, firstNZ]
        rw [h4] at this
        simpa using this
      · simp [cmpI, h3, h4, firstNZ]
        exact this
theorem tlt_trans {a b c : Ctr} (h1 : tlt a b) (h2 : tlt b c) : tlt a c := by
  unfold tlt at *
  rcases h1 with h1 | ⟨h1, k1⟩ <;> rcases h2 with h2 | ⟨h2, k2⟩
  · left; omega
  · left; omega
  · left; omega
  · right; exact ⟨by omega, lessS_trans k1 k2⟩
theorem tlt_asym {a b : Ctr} (h1 : tlt a b) (h2 : tlt b a) : False := by
  unfold tlt at *
  rcases h1 with h1 | ⟨h1, k1⟩ <;> rcases h2 with h2 | ⟨h2, k2⟩
  · omega
  · omega
  · omega
  · rw [lessS_asym k1] at k2; cases k2
theorem tlt_tot {a b : Ctr} (h : eqS a.1 b.1 = false) : tlt a b ∨ tlt b a := by
  unfold tlt
  by_cases h1 : b.2 < a.2
  · exact .inl (.inl h1)
  · by_cases h2 : a.2 < b.2
    · exact .inr (.inl h2)
    · cases h3 : lessS a.1 b.1 with
      | true => exact .inl (.inr ⟨by omega, rfl⟩)
      | false => exact .inr (.inr ⟨by omega, lessS_tri h3 h⟩)
theorem insV_tsrt {y : Ctr} : ∀ {r : List Ctr}, r.Pairwise (fun p q => tlt q p) → (∀ p ∈ r, eqS p.1 y.1 = false) → (insV tcmp y r).Pairwise (fun p q => tlt q p)
  | [], _, _ => by simp [insV]
  | x :: r, h, hne => by
    have h' := List.pairwise_cons.1 h
    unfold insV
    split
    · rename_i hc
      have hl := (tcmp_lt _ _).1 hc
      refine List.pairwise_cons.2 ⟨fun p hp => ?_, insV_tsrt h'.2 fun p hp => hne p (by simp [hp])⟩
      rcases List.mem_cons.1 ((insV_perm tcmp y r).subset hp) with rfl | hp
      · exact hl
      · exact h'.1 p hp
    · rename_i hc
      have hl : tlt x y := (tlt_tot (hne x (by simp))).resolve_right fun h => hc ((tcmp_lt _ _).2 h)
      refine List.pairwise_cons.2 ⟨fun p hp => ?_, h⟩
      rcases List.mem_cons.1 hp with rfl | hp
      · exact hl
      · exact tlt_trans (h'.1 p hp) hl
theorem isortV_tsrt : ∀ {suf r : List Ctr}, r.Pairwise (fun p q => tlt q p) → keysNe strK (r ++ suf) → (isortV tcmp r suf).Pairwise tlt
  | [], r, h, _ => by simp only [isortV]; exact List.pairwise_reverse.2 h
  | y :: suf, r, h, hne => by
    simp only [isortV]
    have h1 := List.pairwise_append.1 hne
    refine isortV_tsrt (insV_tsrt h fun p hp => h1.2.2 p hp y (by simp)) ?_
    have hp := ((insV_perm tcmp y r).append_right suf).trans (List.perm_middle (l₁ := r) (a := y) (l₂ := suf)).symm
    refine hp.symm.pairwise hne fun {a b} hab => ?_
    show eqS b.1 a.1 = false
    rw [eqS_comm]; exact hab
theorem tsrt_unique {a b : List Ctr} (hp : a.Perm b) (ha : a.Pairwise tlt) (hb : b.Pairwise tlt) : a = b := by
  refine List.Perm.eq_of_pairwise (le := tlt) (fun x y _ _ h1 h2 => ?_) ha hb hp
  exact (tlt_asym h1 h2).elim
def insT (c : Ctr) : List Ctr → List Ctr
  | [] => [c]
  | p :: r => if tlt p c then p :: insT c r else c :: p :: r
def topR : List Ctr → List Ctr → List Ctr
  | out, [] => out
  | out, c :: l => topR (insT c out) l
def topC (l : List Ctr) : List Ctr := topR [] l
theorem insT_perm (c : Ctr) : ∀ out : List Ctr, (insT c out).Perm (c :: out)
  | [] => List.Perm.refl _
  | p :: r => by
    unfold insT
    split
    · exact ((insT_perm c r).cons p).trans (List.Perm.swap c p r)
    · exact List.Perm.refl _
theorem insT_srt {c : Ctr} : ∀ {out : List Ctr}, out.Pairwise tlt → (∀ p ∈ out, eqS p.1 c.1 = false) → (insT c out).Pairwise tlt
  | [], _, _ => by simp [insT]
  | p :: r, h, hne => by
    have h' := List.pairwise_cons.1 h
    unfold insT
    split
    · rename_i hl
      refine List.pairwise_cons.2 ⟨fun q hq => ?_, insT_srt h'.2 fun q hq => hne q (by simp [hq])⟩
      rcases List.mem_cons.1 ((insT_perm c r).subset hq) with rfl | hq
      · exact hl
      · exact h'.1 q hq
    · rename_i hl
      have hg := (tlt_tot (hne p (by simp))).resolve_left hl
      refine List.pairwise_cons.2 ⟨fun q hq => ?_, h⟩
      rcases List.mem_cons.1 hq with rfl | hq
      · exact hg
      · exact tlt_trans hg (h'.1 q hq)
theorem topR_ok : ∀ {l out : List Ctr}, out.Pairwise tlt → keysNe strK (out ++ l) → (topR out l).Pairwise tlt ∧ (topR out l).Perm (out ++ l)
  | [], out, h, _ => ⟨h, by simp [topR]⟩
  | c :: l, out, h, hne => by
    simp only [topR]
    have h1 := List.pairwise_append.1 hne
    have hp := ((insT_perm c out).append_right l).trans (List.perm_middle (l₁ := out) (a := c) (l₂ := l)).symm
    obtain ⟨r1, r2⟩ := topR_ok (l := l) (insT_srt h fun p hp => h1.2.2 p hp c (by simp)) (by
      refine hp.symm.pairwise hne fun {a b} hab => ?_
      show eqS b.1 a.1 = false
      rw [eqS_comm]; exact hab)
    exact ⟨r1, r2.trans hp⟩
theorem topC_ok {l : List Ctr} (h : keysNe strK l) : (topC l).Pairwise tlt ∧ (topC l).Perm l := by
  have := topR_ok (l := l) (out := []) List.Pairwise.nil (by simpa using h)
  simpa [topC] using this
def leastC (n : Int) : List Ctr → List Ctr
  | [] => []
  | p :: l => if p.2 < n then [] else p :: leastC n l
theorem least_filter {n : Int} : ∀ {l : List Ctr}, l.Pairwise tlt → leastC n l = l.filter fun p => decide (n ≤ p.2)
  | [], _ => rfl
  | p :: l, h => by
    have h' := List.pairwise_cons.1 h
    unfold leastC
    split
    · rename_i hn
      symm
      rw [List.filter_eq_nil_iff]
      intro q hq
      have : q.2 < n := by
        rcases List.mem_cons.1 hq with rfl | hq
        · exact hn
        · rcases h'.1 q hq with h | ⟨h, _⟩ <;> omega
      simp; omega
    · rename_i hn
      rw [List.filter_cons, if_pos (by simp; omega), least_filter h'.2]
theorem atLeast_eq {l : List Ctr} (h : keysNe strK l) (n : Int) : isortV tcmp [] (l.filter fun p => decide (n ≤ p.2)) = leastC n (topC l) := by
  obtain ⟨t1, t2⟩ := topC_ok h
  have hs : keysNe strK (l.filter fun p => decide (n ≤ p.2)) := h.sublist List.filter_sublist
  rw [least_filter t1]
  refine tsrt_unique ?_ (isortV_tsrt List.Pairwise.nil (by simpa using hs)) (t1.sublist List.filter_sublist)
  exact (isortV_perm tcmp _ []).trans (t2.symm.filter _)
theorem least_all {l : List Ctr} (h : ∀ p ∈ l, 1 ≤ p.2) : ∀ {m : List Ctr}, (∀ p ∈ m, p ∈ l) → leastC 0 m = m
  | [], _ => rfl
  | p :: m, hm => by
    have h1 := h p (hm p (by simp))
    have ih := least_all h (m := m) fun q hq => hm q (by simp [hq])
    unfold leastC
    rw [if_neg (by omega), ih]
end Go.Proofs.YtdhbecdlablonaaV
