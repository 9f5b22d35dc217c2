/- What combine computes, and what the reference's Combine computes: the same sets. -/
import Derived.Test.YtnpppjipbkceeaaTm1
import Derived.Test.YtnpppjipbkceeaaTc11
set_option linter.unusedVariables false
set_option linter.unusedSimpArgs false
namespace Go.Proofs.YtnpppjipbkceeaaV
/-- What holds at x: the value behind the last edge up to x. -/
def valE (f : Bool → Bool → Bool) : Bool → List (Int × Bool × Bool) → Int → Bool
  | v, [], _ => v
  | v, e :: r, x => if e.1 ≤ x then valE f (f e.2.1 e.2.2) r x else v
def lastV (f : Bool → Bool → Bool) : Bool → List (Int × Bool × Bool) → Bool
  | v, [] => v
  | _, e :: r => lastV f (f e.2.1 e.2.2) r
def ordE (E : List (Int × Bool × Bool)) : Prop := E.Pairwise fun p q => p.1 < q.1
theorem valE_lo {f : Bool → Bool → Bool} {v : Bool} {E : List (Int × Bool × Bool)} {x : Int} (h : ∀ e ∈ E, x < e.1) : valE f v E x = v := by
  cases E with
  | nil => rfl
  | cons e r =>
    have := h e (by simp)
    simp only [valE]
    rw [if_neg (by omega)]
theorem norm_snoc {l : List Iv} {p : Iv} (h : NormI l) (hp : p.1 < p.2) (hl : ∀ q ∈ l, q.2 < p.1) : NormI (l ++ [p]) :=
  ⟨fun q hq => by
    rcases List.mem_append.1 hq with hq | hq
    · exact h.ne q hq
    · simp at hq; subst hq; exact hp, List.pairwise_append.2 ⟨h.gap, List.pairwise_singleton _ _, fun q hq r hr => by simp at hr; subst hr; exact hl q hq⟩⟩
theorem steps_spec (f : Bool → Bool → Bool) : ∀ (E : List (Int × Bool × Bool)) (s : Cs), ordE E → lastV f s.op E = false → NormI s.o → (s.op = true → (∀ q ∈ s.o, q.2 < s.fr) ∧ ∀ e ∈ E, s.fr < e.1) → (s.op = false → ∀ q ∈ s.o, ∀ e ∈ E, q.2 < e.1) →
    NormI (Cs.steps f s E).o ∧ ∀ x, memI (Cs.steps f s E).o x ↔ memI s.o x ∨ ((s.op = true → s.fr ≤ x) ∧ valE f s.op E x = true)
  | [], s, _, hl, hn, _, _ => by
    simp only [lastV] at hl
    simp only [Cs.steps, valE]
    exact ⟨hn, fun x => by simp [hl]⟩
  | e :: E, s, hE, hl, hn, h1, h2 => by
    obtain ⟨hE1, hE2⟩ := List.pairwise_cons.1 hE
    obtain ⟨o, fr, op, mv⟩ := s
    obtain ⟨at_, bx, by_⟩ := e
    simp only [Cs.steps, lastV, valE] at hl ⊢
    simp only at hn h1 h2 hE1
    cases hf : f bx by_ <;> cases op
    · -- closed, stays closed
      have hs : Cs.step f ⟨o, fr, false, mv⟩ at_ bx by_ = ⟨o, fr, false, mv⟩ := by simp [Cs.step, hf]
      rw [hs]
      rw [hf] at hl
      obtain ⟨a, b⟩ := steps_spec f E ⟨o, fr, false, mv⟩ hE2 hl hn (by simp) (fun _ q hq e he => h2 rfl q hq e (by simp [he]))
      refine ⟨a, fun x => ?_⟩
      rw [b]
      simp only [Bool.false_eq_true, false_implies, true_and]
      by_cases hx : at_ ≤ x
      · rw [if_pos hx]
      · rw [if_neg hx, valE_lo fun e he => by have := hE1 e he; omega]
    · -- open: closes
      have hs : Cs.step f ⟨o, fr, true, mv⟩ at_ bx by_ = ⟨o ++ [(fr, at_)], fr, false, true⟩ := by simp [Cs.step, hf]
      rw [hs]
      rw [hf] at hl
      obtain ⟨g1, g2⟩ := h1 rfl
      have hlt := g2 (at_, bx, by_) (by simp)
      simp only at hlt
      obtain ⟨a, b⟩ := steps_spec f E ⟨o ++ [(fr, at_)], fr, false, true⟩ hE2 hl (norm_snoc hn hlt g1) (by simp) (fun _ q hq e he => by
        rcases List.mem_append.1 hq with hq | hq
        · have := g1 q hq; have := g2 e (by simp [he]); omega
        · simp at hq; subst hq; exact hE1 e he)
      refine ⟨a, fun x => ?_⟩
      rw [b, memI_app, memI_cons, memI_nil]
      simp only [Bool.false_eq_true, false_implies, true_and, true_implies, or_false]
      by_cases hx : at_ ≤ x
      · rw [if_pos hx]
        constructor
        · rintro ((h | h) | h)
          · exact .inl h
          · omega
          · exact .inr ⟨by omega, h⟩
        · rintro (h | h)
          · exact .inl (.inl h)
          · exact .inr h.2
      · rw [if_neg hx, valE_lo (v := false) fun e he => by have := hE1 e he; omega]
        constructor
        · rintro ((h | h) | h)
          · exact .inl h
          · exact .inr ⟨h.1, rfl⟩
          · cases h
        · rintro (h | h)
          · exact .inl (.inl h)
          · exact .inl (.inr ⟨h.1, by omega⟩)
    · -- closed: opens
      have hs : Cs.step f ⟨o, fr, false, mv⟩ at_ bx by_ = ⟨o, at_, true, mv⟩ := by simp [Cs.step, hf]
      rw [hs]
      rw [hf] at hl
      obtain ⟨a, b⟩ := steps_spec f E ⟨o, at_, true, mv⟩ hE2 hl hn (fun _ => ⟨fun q hq => h2 rfl q hq (at_, bx, by_) (by simp), fun e he => hE1 e he⟩) (by simp)
      refine ⟨a, fun x => ?_⟩
      rw [b]
      simp only [Bool.false_eq_true, false_implies, true_and, true_implies]
      by_cases hx : at_ ≤ x
      · rw [if_pos hx]; simp [hx]
      · rw [if_neg hx]; simp [hx]
    · -- open, stays open
      have hs : Cs.step f ⟨o, fr, true, mv⟩ at_ bx by_ = ⟨o, fr, true, mv⟩ := by simp [Cs.step, hf]
      rw [hs]
      rw [hf] at hl
      obtain ⟨g1, g2⟩ := h1 rfl
      obtain ⟨a, b⟩ := steps_spec f E ⟨o, fr, true, mv⟩ hE2 hl hn (fun _ => ⟨g1, fun e he => g2 e (by simp [he])⟩) (by simp)
      refine ⟨a, fun x => ?_⟩
      rw [b]
      simp only [true_implies]
      by_cases hx : at_ ≤ x
      · rw [if_pos hx]
      · rw [if_neg hx, valE_lo fun e he => by have := hE1 e he; omega]
/-- Within, by how many bounds lie at or below x. -/
def inP : Bool → List Int → Int → Bool
  | p, [], _ => p
  | p, y :: r, x => if y ≤ x then inP (!p) r x else p
def tog : Bool → List Int → Bool
  | p, [] => p
  | p, _ :: r => tog (!p) r
def ordZ (l : List Int) : Prop := l.Pairwise (· < ·)
theorem inP_lo {p : Bool} {l : List Int} {x : Int} (h : ∀ y ∈ l, x < y) : inP p l x = p := by
  cases l with
  | nil => rfl
  | cons y r =>
    have := h y (by simp)
    simp only [inP]
    rw [if_neg (by omega)]
theorem eds_spec (f : Bool → Bool → Bool) (n : Nat) : ∀ (pa pb : Bool) (xs ys : List Int), xs.length + ys.length = n → ordZ xs → ordZ ys →
    ordE (eds pa pb xs ys) ∧ (∀ e ∈ eds pa pb xs ys, e.1 ∈ xs ∨ e.1 ∈ ys) ∧ (∀ x, valE f (f pa pb) (eds pa pb xs ys) x = f (inP pa xs x) (inP pb ys x)) ∧ lastV f (f pa pb) (eds pa pb xs ys) = f (tog pa xs) (tog pb ys) := by
  induction n using Nat.strongRecOn with
  | ind n ih =>
    intro pa pb xs ys hn hx hy
    match xs, ys, hn, hx, hy with
    | [], [], _, _, _ => simp [eds, ordE, valE, inP, lastV, tog]
    | x :: xs, [], hn, hx, hy =>
      obtain ⟨x1, x2⟩ := List.pairwise_cons.1 hx
      obtain ⟨a, b, c, d⟩ := ih (xs.length + ([] : List Int).length) (by simp at hn ⊢; omega) (!pa) pb xs [] rfl x2 hy
      simp only [eds]
      refine ⟨List.pairwise_cons.2 ⟨fun e he => ?_, a⟩, fun e he => ?_, fun z => ?_, ?_⟩
      · rcases b e he with h | h
        · exact x1 _ h
        · cases h
      · rcases List.mem_cons.1 he with rfl | he
        · exact .inl (by simp)
        · rcases b e he with h | h
          · exact .inl (by simp [h])
          · cases h
      · simp only [valE, inP] at c ⊢
        by_cases hz : x ≤ z
        · rw [if_pos hz, if_pos hz]; exact c z
        · rw [if_neg hz, if_neg hz]
      · simp only [lastV, tog] at d ⊢; exact d
    | [], y :: ys, hn, hx, hy =>
      obtain ⟨y1, y2⟩ := List.pairwise_cons.1 hy
      obtain ⟨a, b, c, d⟩ := ih (([] : List Int).length + ys.length) (by simp at hn ⊢; omega) pa (!pb) [] ys rfl hx y2
      simp only [eds]
      refine ⟨List.pairwise_cons.2 ⟨fun e he => ?_, a⟩, fun e he => ?_, fun z => ?_, ?_⟩
      · rcases b e he with h | h
        · cases h
        · exact y1 _ h
      · rcases List.mem_cons.1 he with rfl | he
        · exact .inr (by simp)
        · rcases b e he with h | h
          · cases h
          · exact .inr (by simp [h])
      · simp only [valE, inP] at c ⊢
        by_cases hz : y ≤ z
        · rw [if_pos hz, if_pos hz]; exact c z
        · rw [if_neg hz, if_neg hz]
      · simp only [lastV, tog] at d ⊢; exact d
    | x :: xs, y :: ys, hn, hx, hy =>
      obtain ⟨x1, x2⟩ := List.pairwise_cons.1 hx
      obtain ⟨y1, y2⟩ := List.pairwise_cons.1 hy
      simp only [eds]
      by_cases h1 : y < x
      · rw [if_pos h1]
        obtain ⟨a, b, c, d⟩ := ih ((x :: xs).length + ys.length) (by simp at hn ⊢; omega) pa (!pb) (x :: xs) ys rfl hx y2
        refine ⟨List.pairwise_cons.2 ⟨fun e he => ?_, a⟩, fun e he => ?_, fun z => ?_, ?_⟩
        · rcases b e he with h | h
          · rcases List.mem_cons.1 h with h | h
            · simp only; omega
            · have := x1 _ h; simp only; omega
          · exact y1 _ h
        · rcases List.mem_cons.1 he with rfl | he
          · exact .inr (by simp)
          · rcases b e he with h | h
            · exact .inl h
            · exact .inr (by simp [h])
        · simp only [valE]
          by_cases hz : y ≤ z
          · rw [if_pos hz, c z]; simp only [inP, if_pos hz]
          · rw [if_neg hz]
            have hz2 : ¬ x ≤ z := by omega
            simp only [inP, if_neg hz, if_neg hz2]
        · simp only [lastV, tog] at d ⊢; exact d
      · rw [if_neg h1]
        by_cases h2 : x < y
        · rw [if_pos h2]
          obtain ⟨a, b, c, d⟩ := ih (xs.length + (y :: ys).length) (by simp at hn ⊢; omega) (!pa) pb xs (y :: ys) rfl x2 hy
          refine ⟨List.pairwise_cons.2 ⟨fun e he => ?_, a⟩, fun e he => ?_, fun z => ?_, ?_⟩
          · rcases b e he with h | h
            · exact x1 _ h
            · rcases List.mem_cons.1 h with h | h
              · simp only; omega
              · have := y1 _ h; simp only; omega
          · rcases List.mem_cons.1 he with rfl | he
            · exact .inl (by simp)
            · rcases b e he with h | h
              · exact .inl (by simp [h])
              · exact .inr h
          · simp only [valE]
            by_cases hz : x ≤ z
            · rw [if_pos hz, c z]; simp only [inP, if_pos hz]
            · rw [if_neg hz]
              have hz2 : ¬ y ≤ z := by omega
              simp only [inP, if_neg hz, if_neg hz2]
          · simp only [lastV, tog] at d ⊢; exact d
        · rw [if_neg h2]
          obtain rfl : x = y := by omega
          obtain ⟨a, b, c, d⟩ := ih (xs.length + ys.length) (by simp at hn ⊢; omega) (!pa) (!pb) xs ys rfl x2 y2
          refine ⟨List.pairwise_cons.2 ⟨fun e he => ?_, a⟩, fun e he => ?_, fun z => ?_, ?_⟩
          · rcases b e he with h | h
            · exact x1 _ h
            · exact y1 _ h
          · rcases List.mem_cons.1 he with rfl | he
            · exact .inl (by simp)
            · rcases b e he with h | h
              · exact .inl (by simp [h])
              · exact .inr (by simp [h])
          · simp only [valE]
            by_cases hz : x ≤ z
            · rw [if_pos hz, c z]; simp only [inP, if_pos hz]
            · rw [if_neg hz]; simp only [inP, if_neg hz]
          · simp only [lastV, tog] at d ⊢; exact d
theorem bdL_ord : ∀ {l : List Iv}, NormI l → ordZ (bdL l) ∧ ∀ y ∈ bdL l, ∃ p ∈ l, y = p.1 ∨ y = p.2
  | [], _ => ⟨List.Pairwise.nil, by simp [bdL]⟩
  | p :: l, h => by
    obtain ⟨a, b⟩ := bdL_ord h.tail
    have hp := h.ne p (by simp)
    have hg := (List.pairwise_cons.1 h.gap).1
    have hlo : ∀ y ∈ bdL l, p.2 < y := fun y hy => by
      obtain ⟨q, hq, hy⟩ := b y hy
      have h1 := hg q hq
      have h2 := h.ne q (by simp [hq])
      rcases hy with rfl | rfl <;> omega
    simp only [bdL]
    refine ⟨List.pairwise_cons.2 ⟨fun y hy => ?_, List.pairwise_cons.2 ⟨hlo, a⟩⟩, fun y hy => ?_⟩
    · rcases List.mem_cons.1 hy with rfl | hy
      · exact hp
      · have := hlo y hy; omega
    · rcases List.mem_cons.1 hy with rfl | hy
      · exact ⟨p, by simp, .inl rfl⟩
      · rcases List.mem_cons.1 hy with rfl | hy
        · exact ⟨p, by simp, .inr rfl⟩
        · obtain ⟨q, hq, hy⟩ := b y hy
          exact ⟨q, by simp [hq], hy⟩
theorem inP_mem : ∀ {l : List Iv}, NormI l → ∀ x, inP false (bdL l) x = true ↔ memI l x
  | [], _, x => by simp [bdL, inP, memI_nil]
  | p :: l, h, x => by
    have ih := inP_mem h.tail x
    have hp := h.ne p (by simp)
    simp only [bdL, inP, memI_cons]
    by_cases h1 : p.1 ≤ x
    · rw [if_pos h1]
      by_cases h2 : p.2 ≤ x
      · rw [if_pos h2]
        simp only [Bool.not_false, Bool.not_true]
        rw [ih]
        constructor
        · exact .inr
        · rintro (h | h)
          · omega
          · exact h
      · rw [if_neg h2]
        simp only [Bool.not_false, true_iff]
        exact .inl ⟨h1, by omega⟩
    · rw [if_neg h1]
      simp only [Bool.false_eq_true, false_iff, not_or]
      exact ⟨by omega, fun hm => by have := h.lo hm; omega⟩
theorem tog_even : ∀ l : List Iv, ∀ p, tog p (bdL l) = p
  | [], _ => rfl
  | q :: l, p => by simp [bdL, tog, tog_even l]
theorem cmb_spec (f : Bool → Bool → Bool) (hf : f false false = false) {a b : List Iv} (ha : NormI a) (hb : NormI b) : NormI (cmb f a b) ∧ ∀ x, memI (cmb f a b) x ↔ f (hasB a x) (hasB b x) = true := by
  obtain ⟨e1, e2, e3, e4⟩ := eds_spec f _ false false (bdL a) (bdL b) rfl (bdL_ord ha).1 (bdL_ord hb).1
  rw [hf, tog_even, tog_even, hf] at e4
  obtain ⟨s1, s2⟩ := steps_spec f (eds false false (bdL a) (bdL b)) ⟨[], 0, false, false⟩ e1 e4 NormI.nil (by simp) (by simp)
  refine ⟨s1, fun x => ?_⟩
  unfold cmb
  rw [s2]
  simp only [memI_nil, false_or, Bool.false_eq_true, false_implies, true_and]
  have h3 := e3 x
  rw [hf] at h3
  rw [h3]
  have ea : inP false (bdL a) x = hasB a x := by
    rw [Bool.eq_iff_iff, inP_mem ha, hasB_iff]
  have eb : inP false (bdL b) x = hasB b x := by
    rw [Bool.eq_iff_iff, inP_mem hb, hasB_iff]
  rw [ea, eb]
end Go.Proofs.YtnpppjipbkceeaaV
