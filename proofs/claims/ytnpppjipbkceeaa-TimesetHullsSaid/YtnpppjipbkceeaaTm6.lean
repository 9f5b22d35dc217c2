/- The gaps of a set, and its hull. -/
import Derived.Test.YtnpppjipbkceeaaTm4
set_option linter.unusedVariables false
set_option linter.unusedSimpArgs false
namespace Go.Proofs.YtnpppjipbkceeaaV
open Go.RowKit
def gpI : List Iv → List Iv
  | p :: q :: r => (p.2, q.1) :: gpI (q :: r)
  | _ => []
theorem gpI_len : ∀ l : List Iv, (gpI l).length ≤ l.length
  | [] => by simp [gpI]
  | [p] => by simp [gpI]
  | p :: q :: r => by
    have := gpI_len (q :: r)
    simp only [gpI, List.length_cons] at this ⊢; omega
theorem gp_spec : ∀ (r : List Iv) (p b : Iv), NormI (p :: r) → (p :: r)[r.length]? = some b →
    NormI (gpI (p :: r)) ∧ (∀ g ∈ gpI (p :: r), p.2 ≤ g.1) ∧ p.2 ≤ b.2 ∧ (∀ x, memI (p :: r) x → p.1 ≤ x ∧ x < b.2) ∧ ∀ x, memI (gpI (p :: r)) x ↔ (p.1 ≤ x ∧ x < b.2) ∧ ¬ memI (p :: r) x
  | [], p, b, hn, hb => by
    simp at hb; subst hb
    refine ⟨NormI.nil, by simp [gpI], Int.le_refl _, fun x hx => by simpa [memI] using hx, fun x => ?_⟩
    simp [gpI, memI]
  | q :: r, p, b, hn, hb => by
    obtain ⟨h1, h2, h3, h4, h5⟩ := gp_spec r q b hn.tail (by simpa using hb)
    have g1 := (List.pairwise_cons.1 hn.gap).1 q (by simp)
    have g2 := hn.ne p (by simp)
    have g3 := hn.ne q (by simp)
    refine ⟨⟨fun g hg => ?_, ?_⟩, fun g hg => ?_, by omega, fun x hx => ?_, fun x => ?_⟩
    · simp only [gpI, List.mem_cons] at hg
      rcases hg with rfl | hg
      · exact g1
      · exact h1.ne g hg
    · simp only [gpI]
      refine List.pairwise_cons.2 ⟨fun g hg => ?_, h1.gap⟩
      have := h2 g hg
      simp only; omega
    · simp only [gpI, List.mem_cons] at hg
      rcases hg with rfl | hg
      · exact Int.le_refl _
      · have := h2 g hg; omega
    · rcases (memI_cons _ _ _).1 hx with hx | hx
      · omega
      · have := h4 x hx; omega
    · simp only [gpI]
      rw [memI_cons, h5, memI_cons p]
      constructor
      · rintro (h | ⟨h, h'⟩)
        · exact ⟨by simp only at h; omega, fun h' => by
            simp only at h
            rcases h' with h' | h'
            · omega
            · have := h4 x h'; omega⟩
        · exact ⟨by omega, fun h'' => by
            rcases h'' with h'' | h''
            · omega
            · exact h' h''⟩
      · rintro ⟨h, h'⟩
        by_cases e : x < q.1
        · left
          have : ¬ (p.1 ≤ x ∧ x < p.2) := fun h'' => h' (.inl h'')
          simp only; omega
        · exact .inr ⟨by omega, fun h'' => h' (.inr h'')⟩
theorem gaps_cmb {p b : Iv} {r : List Iv} (hn : NormI (p :: r)) (hb : (p :: r)[r.length]? = some b) : cmb (fun x y => x && !y) [(p.1, b.2)] (p :: r) = gpI (p :: r) ∧ cmb (fun x y => x || y) (p :: r) (gpI (p :: r)) = [(p.1, b.2)] := by
  obtain ⟨h1, h2, h3, h4, h5⟩ := gp_spec r p b hn hb
  have g2 := hn.ne p (by simp)
  have hh : NormI [(p.1, b.2)] := ⟨by simp; omega, by simp⟩
  obtain ⟨c1, c2⟩ := cmb_spec (fun x y => x && !y) rfl hh hn
  obtain ⟨d1, d2⟩ := cmb_spec (fun x y => x || y) rfl hn h1
  refine ⟨norm_ext c1 h1 fun x => ?_, norm_ext d1 hh fun x => ?_⟩
  · rw [c2, h5, Bool.and_eq_true, Bool.not_eq_true', ← Bool.not_eq_true, hasB_iff, hasB_iff]
    simp [memI]
  · rw [d2, Bool.or_eq_true, hasB_iff, hasB_iff, h5, memI_cons (p.1, b.2), memI_nil]
    constructor
    · rintro (h | h)
      · exact .inl (h4 x h)
      · exact .inl h.1
    · rintro (h | h)
      · by_cases e : memI (p :: r) x
        · exact .inl e
        · exact .inr ⟨h, e⟩
      · exact h.elim
end Go.Proofs.YtnpppjipbkceeaaV
