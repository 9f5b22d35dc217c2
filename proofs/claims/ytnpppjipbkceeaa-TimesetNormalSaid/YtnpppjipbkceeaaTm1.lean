/- Sets of integers as lists of intervals: normal lists are told by their elements. -/
import Derived.Test.YtnpppjipbkceeaaTc4
set_option linter.unusedVariables false
set_option linter.unusedSimpArgs false
namespace Go.Proofs.YtnpppjipbkceeaaV
def memI (l : List Iv) (x : Int) : Prop := ∃ p ∈ l, p.1 ≤ x ∧ x < p.2
theorem memI_nil (x : Int) : memI [] x ↔ False := by simp [memI]
theorem memI_cons (p : Iv) (l : List Iv) (x : Int) : memI (p :: l) x ↔ (p.1 ≤ x ∧ x < p.2) ∨ memI l x := by simp [memI]
theorem memI_app (l m : List Iv) (x : Int) : memI (l ++ m) x ↔ memI l x ∨ memI m x := by
  induction l with
  | nil => simp [memI_nil]
  | cons p l ih => simp [memI_cons, ih, or_assoc]
theorem memI_rev (l : List Iv) (x : Int) : memI l.reverse x ↔ memI l x := by simp [memI]
theorem hasB_iff (l : List Iv) (x : Int) : hasB l x = true ↔ memI l x := by simp [hasB, memI]
structure NormI (l : List Iv) : Prop where
  ne : ∀ p ∈ l, p.1 < p.2
  gap : l.Pairwise fun p q => p.2 < q.1
theorem NormI.nil : NormI [] := ⟨by simp, List.Pairwise.nil⟩
theorem NormI.tail {p : Iv} {l : List Iv} (h : NormI (p :: l)) : NormI l := ⟨fun q hq => h.ne q (by simp [hq]), (List.pairwise_cons.1 h.gap).2⟩
theorem NormI.lo {p : Iv} {l : List Iv} (h : NormI (p :: l)) {x : Int} (hx : memI l x) : p.2 < x := by
  obtain ⟨q, hq, h1, h2⟩ := hx
  have := (List.pairwise_cons.1 h.gap).1 q hq
  omega
theorem norm_ext : ∀ {s t : List Iv}, NormI s → NormI t → (∀ x, memI s x ↔ memI t x) → s = t
  | [], [], _, _, _ => rfl
  | [], q :: t, _, ht, h => by
    have := ht.ne q (by simp)
    have := (h q.1).2 ((memI_cons _ _ _).2 (.inl ⟨Int.le_refl _, this⟩))
    simp [memI_nil] at this
  | p :: s, [], hs, _, h => by
    have := hs.ne p (by simp)
    have := (h p.1).1 ((memI_cons _ _ _).2 (.inl ⟨Int.le_refl _, this⟩))
    simp [memI_nil] at this
  | p :: s, q :: t, hs, ht, h => by
    have hp := hs.ne p (by simp)
    have hq := ht.ne q (by simp)
    have in_s : ∀ x, p.1 ≤ x → x < p.2 → memI (p :: s) x := fun x h1 h2 => (memI_cons _ _ _).2 (.inl ⟨h1, h2⟩)
    have in_t : ∀ x, q.1 ≤ x → x < q.2 → memI (q :: t) x := fun x h1 h2 => (memI_cons _ _ _).2 (.inl ⟨h1, h2⟩)
    have lo_s : ∀ x, memI (p :: s) x → p.1 ≤ x ∧ (x < p.2 ∨ p.2 < x) := fun x hx => by
      rcases (memI_cons _ _ _).1 hx with hx | hx
      · exact ⟨hx.1, .inl hx.2⟩
      · have := hs.lo hx; exact ⟨by omega, .inr this⟩
    have lo_t : ∀ x, memI (q :: t) x → q.1 ≤ x ∧ (x < q.2 ∨ q.2 < x) := fun x hx => by
      rcases (memI_cons _ _ _).1 hx with hx | hx
      · exact ⟨hx.1, .inl hx.2⟩
      · have := ht.lo hx; exact ⟨by omega, .inr this⟩
    have e1 : p.1 = q.1 := by
      have a1 := (lo_t p.1 ((h _).1 (in_s p.1 (by omega) hp))).1
      have a2 := (lo_s q.1 ((h _).2 (in_t q.1 (by omega) hq))).1
      omega
    have e2 : p.2 = q.2 := by
      rcases Int.lt_trichotomy p.2 q.2 with hlt | he | hlt
      · have := (lo_s p.2 ((h _).2 (in_t p.2 (by omega) hlt))).2; omega
      · exact he
      · have := (lo_t q.2 ((h _).1 (in_s q.2 (by omega) hlt))).2; omega
    have e : p = q := Prod.ext e1 e2
    subst e
    rw [norm_ext hs.tail ht.tail fun x => ?_]
    constructor
    · intro hx
      have := hs.lo hx
      rcases (memI_cons _ _ _).1 ((h x).1 ((memI_cons _ _ _).2 (.inr hx))) with hx' | hx'
      · omega
      · exact hx'
    · intro hx
      have := ht.lo hx
      rcases (memI_cons _ _ _).1 ((h x).2 ((memI_cons _ _ _).2 (.inr hx))) with hx' | hx'
      · omega
      · exact hx'
theorem mr_jr : ∀ (r o : List Iv), (∀ p ∈ r, p.1 < p.2) → mr o r = jr o r
  | [], o, _ => by cases o <;> rfl
  | c :: r, [], h => by
    have hc := h c (by simp)
    simp only [mr, jr]
    rw [if_neg (by omega), mr_jr r [c] fun p hp => h p (by simp [hp])]
  | c :: r, d :: o, h => by
    have hc := h c (by simp)
    have hr := fun p (hp : p ∈ r) => h p (List.mem_cons_of_mem _ hp)
    simp only [mr, jr]
    rw [if_neg (by omega : ¬ c.2 ≤ c.1)]
    split
    · exact mr_jr r _ hr
    · exact mr_jr r _ hr
theorem ofI_jr (l : List Iv) : ofI l = jr [] (srtI [] l) := mr_jr _ _ (nonE_srt (by simp))
def ordI (l : List Iv) : Prop := l.Pairwise fun p q => p.1 ≤ q.1
theorem jr_spec : ∀ (r o : List Iv), ordI r → o.Pairwise (fun p q => q.2 < p.1) → (∀ p ∈ o, p.1 < p.2) → (∀ d ∈ o.head?, ∀ c ∈ r, d.1 ≤ c.1) → NormI (jr o r) ∧ ∀ x, memI (jr o r) x ↔ memI o x ∨ memI r x
  | [], o, _, h2, h3, _ => by
    simp only [jr]
    exact ⟨⟨fun p hp => h3 p (by simpa using hp), by rw [List.pairwise_reverse]; exact h2⟩, fun x => by simp [memI_rev, memI_nil]⟩
  | c :: r, [], h1, h2, h3, h4 => by
    have h1' := List.pairwise_cons.1 h1
    simp only [jr]
    by_cases hc : c.2 ≤ c.1
    · rw [if_pos hc]
      obtain ⟨a, b⟩ := jr_spec r [] h1'.2 List.Pairwise.nil (by simp) (by simp)
      refine ⟨a, fun x => ?_⟩
      rw [b, memI_cons, memI_nil]
      constructor
      · rintro (h | h)
        · exact h.elim
        · exact .inr (.inr h)
      · rintro (h | h | h)
        · exact h.elim
        · omega
        · exact .inr h
    · rw [if_neg hc]
      obtain ⟨a, b⟩ := jr_spec r [c] h1'.2 (List.pairwise_singleton _ _) (by simp; omega) (by simpa using h1'.1)
      refine ⟨a, fun x => ?_⟩
      rw [b]
      simp [memI_cons, memI_nil]
  | c :: r, d :: o, h1, h2, h3, h4 => by
    have h1' := List.pairwise_cons.1 h1
    have h2' := List.pairwise_cons.1 h2
    have hd := h3 d (by simp)
    have hdc := h4 d (by simp) c (by simp)
    have hdr := fun q (hq : q ∈ r) => h4 d (by simp) q (List.mem_cons_of_mem _ hq)
    simp only [jr]
    by_cases hc : c.2 ≤ c.1
    · rw [if_pos hc]
      obtain ⟨a, b⟩ := jr_spec r (d :: o) h1'.2 h2 h3 (by simpa using hdr)
      refine ⟨a, fun x => ?_⟩
      rw [b, memI_cons c]
      constructor
      · rintro (h | h)
        · exact .inl h
        · exact .inr (.inr h)
      · rintro (h | h | h)
        · exact .inl h
        · omega
        · exact .inr h
    · rw [if_neg hc]
      by_cases hj : c.1 ≤ d.2
      · rw [if_pos hj]
        have hm : ∀ x, (d.1 ≤ x ∧ x < (if c.2 > d.2 then c.2 else d.2)) ↔ (d.1 ≤ x ∧ x < d.2) ∨ (c.1 ≤ x ∧ x < c.2) := fun x => by split <;> omega
        obtain ⟨a, b⟩ := jr_spec r ((d.1, if c.2 > d.2 then c.2 else d.2) :: o) h1'.2 (List.pairwise_cons.2 ⟨h2'.1, h2'.2⟩) (fun p hp => by
          rcases List.mem_cons.1 hp with rfl | hp
          · simp only; split <;> omega
          · exact h3 p (by simp [hp])) (by simpa using hdr)
        refine ⟨a, fun x => ?_⟩
        rw [b, memI_cons, memI_cons, memI_cons]
        simp only [hm]
        constructor
        · rintro (((h | h) | h) | h)
          · exact .inl (.inl h)
          · exact .inr (.inl h)
          · exact .inl (.inr h)
          · exact .inr (.inr h)
        · rintro ((h | h) | (h | h))
          · exact .inl (.inl (.inl h))
          · exact .inl (.inr h)
          · exact .inl (.inl (.inr h))
          · exact .inr h
      · rw [if_neg hj]
        obtain ⟨a, b⟩ := jr_spec r (c :: d :: o) h1'.2 (List.pairwise_cons.2 ⟨fun p hp => by
          rcases List.mem_cons.1 hp with rfl | hp
          · omega
          · have := h2'.1 p hp; omega, h2⟩) (fun p hp => by
          rcases List.mem_cons.1 hp with rfl | hp
          · omega
          · exact h3 p hp) (by simpa using h1'.1)
        refine ⟨a, fun x => ?_⟩
        rw [b, memI_cons c, memI_cons c]
        constructor
        · rintro ((h | h) | h)
          · exact .inr (.inl h)
          · exact .inl h
          · exact .inr (.inr h)
        · rintro (h | h | h)
          · exact .inl (.inr h)
          · exact .inl (.inl h)
          · exact .inr h
theorem posI_take {c : Iv} {s : List Iv} (hs : ordI s) : ∀ k, k ≤ s.length → (∀ p ∈ s.drop k, c.1 ≤ p.1) → (∀ p ∈ s.take (posI c s k), p.1 ≤ c.1) ∧ ∀ p ∈ s.drop (posI c s k), c.1 ≤ p.1
  | 0, _, h => ⟨by simp [posI], h⟩
  | k + 1, hk, h => by
    have hlt : k < s.length := by omega
    have hx : s[k]? = some s[k] := List.getElem?_eq_getElem hlt
    simp only [posI, hx]
    by_cases h1 : c.1 < s[k].1
    · rw [if_pos h1]
      refine posI_take hs k (by omega) fun p hp => ?_
      rw [List.drop_eq_getElem_cons hlt] at hp
      rcases List.mem_cons.1 hp with rfl | hp
      · omega
      · exact h p hp
    · rw [if_neg h1]
      refine ⟨fun p hp => ?_, h⟩
      rw [List.take_add_one, hx] at hp
      simp only [Option.toList_some, List.mem_append, List.mem_singleton] at hp
      rcases hp with hp | rfl
      · have hs' := hs
        unfold ordI at hs'
        rw [← List.take_append_drop k s, List.pairwise_append] at hs'
        have := hs'.2.2 p hp s[k] (by rw [List.drop_eq_getElem_cons hlt]; exact List.mem_cons_self)
        omega
      · omega
theorem insI_ord {c : Iv} {s : List Iv} (hs : ordI s) : ordI (insI c s) ∧ ∀ x, memI (insI c s) x ↔ (c.1 ≤ x ∧ x < c.2) ∨ memI s x := by
  obtain ⟨h1, h2⟩ := posI_take (c := c) hs s.length (Nat.le_refl _) (by simp)
  unfold insI
  generalize posI c s s.length = k at *
  have hs' := hs
  unfold ordI at hs' ⊢
  rw [← List.take_append_drop k s, List.pairwise_append] at hs'
  refine ⟨List.pairwise_append.2 ⟨hs'.1, List.pairwise_cons.2 ⟨h2, hs'.2.1⟩, fun p hp q hq => ?_⟩, fun x => ?_⟩
  · rcases List.mem_cons.1 hq with rfl | hq
    · exact h1 p hp
    · exact hs'.2.2 p hp q hq
  · rw [memI_app, memI_cons]
    conv => rhs; rw [← List.take_append_drop k s, memI_app]
    constructor
    · rintro (h | h | h)
      · exact .inr (.inl h)
      · exact .inl h
      · exact .inr (.inr h)
    · rintro (h | h | h)
      · exact .inr (.inl h)
      · exact .inl h
      · exact .inr (.inr h)
theorem srtI_spec : ∀ (l s : List Iv), ordI s → ordI (srtI s l) ∧ ∀ x, memI (srtI s l) x ↔ memI s x ∨ memI l x
  | [], s, h => ⟨h, fun x => by simp [srtI, memI_nil]⟩
  | c :: l, s, h => by
    simp only [srtI]
    by_cases hc : c.2 ≤ c.1
    · rw [if_pos hc]
      obtain ⟨a, b⟩ := srtI_spec l s h
      refine ⟨a, fun x => ?_⟩
      rw [b, memI_cons]
      constructor
      · rintro (h | h)
        · exact .inl h
        · exact .inr (.inr h)
      · rintro (h | h | h)
        · exact .inl h
        · omega
        · exact .inr h
    · rw [if_neg hc]
      obtain ⟨i1, i2⟩ := insI_ord (c := c) h
      obtain ⟨a, b⟩ := srtI_spec l _ i1
      refine ⟨a, fun x => ?_⟩
      rw [b, i2, memI_cons]
      constructor
      · rintro ((h | h) | h)
        · exact .inr (.inl h)
        · exact .inl h
        · exact .inr (.inr h)
      · rintro (h | h | h)
        · exact .inl (.inr h)
        · exact .inl (.inl h)
        · exact .inr h
theorem ofI_norm (l : List Iv) : NormI (ofI l) ∧ ∀ x, memI (ofI l) x ↔ memI l x := by
  rw [ofI_jr]
  obtain ⟨a, b⟩ := srtI_spec l [] List.Pairwise.nil
  obtain ⟨c, d⟩ := jr_spec (srtI [] l) [] a List.Pairwise.nil (by simp) (by simp)
  exact ⟨c, fun x => by rw [d, b]; simp [memI_nil]⟩
theorem joined_norm {l : List Iv} (h : ordI l) : NormI (jr [] l) ∧ ∀ x, memI (jr [] l) x ↔ memI l x := by
  obtain ⟨c, d⟩ := jr_spec l [] h List.Pairwise.nil (by simp) (by simp)
  exact ⟨c, fun x => by rw [d]; simp [memI_nil]⟩
end Go.Proofs.YtnpppjipbkceeaaV
