/- Whom the leases serve: plain. -/
import Derived.Test.YtdgpipoffcajgaaQg2
set_option linter.unusedVariables false
set_option linter.unusedSimpArgs false
namespace Go.Proofs.YtdgpipoffcajgaaV
open Go.RowKit
/-- The best of a list: it is there, and ahead of it all have a greater rank; behind it none has a less one. -/
theorem bst_spec (srv : Int) : ∀ (b : Iv) (l : List Iv), ∃ pre post, b :: l = pre ++ bst srv b l :: post ∧ (∀ x ∈ pre, rk srv (bst srv b l).1 < rk srv x.1) ∧ (∀ x ∈ post, rk srv (bst srv b l).1 ≤ rk srv x.1)
  | b, [] => ⟨[], [], rfl, fun x h => (by cases h), fun x h => (by cases h)⟩
  | b, y :: l => by
    obtain ⟨pre, post, h1, h2, h3⟩ := bst_spec srv (if rk srv y.1 < rk srv b.1 then y else b) l
    have hb : bst srv b (y :: l) = bst srv (if rk srv y.1 < rk srv b.1 then y else b) l := rfl
    rw [hb]
    by_cases hc : rk srv y.1 < rk srv b.1
    · rw [if_pos hc] at h1 h2 h3 ⊢
      refine ⟨b :: pre, post, by rw [h1]; rfl, fun x hx => ?_, h3⟩
      rcases List.mem_cons.1 hx with rfl | hx
      · have : rk srv (bst srv y l).1 ≤ rk srv y.1 := by
          have hm : y ∈ pre ++ bst srv y l :: post := by rw [← h1]; simp
          rcases List.mem_append.1 hm with h | h
          · have := h2 y h; omega
          · rcases List.mem_cons.1 h with h | h
            · rw [← h]; exact Int.le_refl _
            · exact h3 y h
        omega
      · exact h2 x hx
    · rw [if_neg hc] at h1 h2 h3 ⊢
      cases pre with
      | nil =>
        simp only [List.nil_append, List.cons.injEq] at h1
        obtain ⟨e1, e2⟩ := h1
        refine ⟨[], y :: post, by rw [← e1, e2]; rfl, fun x h => (by cases h), fun x hx => ?_⟩
        rcases List.mem_cons.1 hx with rfl | hx
        · rw [← e1]; omega
        · exact h3 x hx
      | cons z pre =>
        simp only [List.cons_append, List.cons.injEq] at h1
        obtain ⟨e1, e2⟩ := h1
        refine ⟨b :: y :: pre, post, congrArg (fun t => b :: y :: t) e2, fun x hx => ?_, h3⟩
        have hbb := h2 z (by simp)
        rw [← e1] at hbb
        rcases List.mem_cons.1 hx with rfl | hx
        · exact hbb
        · rcases List.mem_cons.1 hx with rfl | hx
          · omega
          · exact h2 x (by simp [hx])
theorem nextI_spec {srv : Int} {l : List Iv} {x : Iv} (h : nextI srv l = some x) : ∃ pre post, l = pre ++ x :: post ∧ (∀ y ∈ pre, rk srv x.1 < rk srv y.1) ∧ (∀ y ∈ post, rk srv x.1 ≤ rk srv y.1) := by
  cases l with
  | nil => cases h
  | cons b l =>
    injection h with h
    subst h
    exact bst_spec srv b l
theorem nextI_le {srv : Int} {l : List Iv} {x : Iv} (h : nextI srv l = some x) : ∀ y ∈ l, rk srv x.1 ≤ rk srv y.1 := by
  obtain ⟨pre, post, rfl, h1, h2⟩ := nextI_spec h
  intro y hy
  rcases List.mem_append.1 hy with hy | hy
  · have := h1 y hy; omega
  · rcases List.mem_cons.1 hy with rfl | hy
    · exact Int.le_refl _
    · exact h2 y hy
/-- The order of the agents does not hang on how far the leases have come. -/
theorem rk_turn (s0 s a b : Int) (ha : 1 ≤ a ∧ a ≤ 100) (hb : 1 ≤ b ∧ b ≤ 100) (hs : 1 ≤ s ∧ s ≤ 100) (h1 : rk s0 s < rk s0 a) (h2 : rk s a ≥ rk s b) : rk s0 s < rk s0 b ∧ rk s0 b ≤ rk s0 a := by
  unfold rk at h1 h2 ⊢
  split at h1 <;> split at h1 <;> split at h2 <;> split at h2 <;> constructor <;> split <;> (try split) <;> omega
end Go.Proofs.YtdgpipoffcajgaaV
