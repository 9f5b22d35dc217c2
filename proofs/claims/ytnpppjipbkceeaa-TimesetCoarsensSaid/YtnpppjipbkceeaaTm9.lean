/- Coarsened sets. -/
import Derived.Test.YtnpppjipbkceeaaTm8
import Derived.Test.YtnpppjipbkceeaaTc21
set_option linter.unusedVariables false
set_option linter.unusedSimpArgs false
namespace Go.Proofs.YtnpppjipbkceeaaV
open Go.RowKit
theorem cell_iv {a b s c : Int} (hs : 1 ≤ s) (hab : a < b) : (a / s ≤ c ∧ c < (b - 1) / s + 1) ↔ ∃ x, (a ≤ x ∧ x < b) ∧ x / s = c := by
  have hs0 : 0 < s := by omega
  constructor
  · rintro ⟨h1, h2⟩
    by_cases e : a / s = c
    · exact ⟨a, ⟨by omega, hab⟩, e⟩
    · refine ⟨c * s, ⟨?_, ?_⟩, Int.mul_ediv_cancel c (by omega)⟩
      · have h3 : a / s < c := by omega
        have := (Int.ediv_lt_iff_lt_mul hs0).1 h3
        omega
      · have h3 : c ≤ (b - 1) / s := by omega
        have := (Int.le_ediv_iff_mul_le hs0).1 h3
        omega
  · rintro ⟨x, ⟨h1, h2⟩, rfl⟩
    have h3 := Int.ediv_le_ediv hs0 h1
    have h4 := Int.ediv_le_ediv hs0 (show x ≤ b - 1 by omega)
    omega
theorem mem_cl {s : Int} (hs : 1 ≤ s) {l : List Iv} (hne : ∀ p ∈ l, p.1 < p.2) (c : Int) : memI (clL s l) c ↔ ∃ x, memI l x ∧ x / s = c := by
  unfold clL
  constructor
  · rintro ⟨p, hp, h1, h2⟩
    obtain ⟨q, hq, rfl⟩ := List.mem_map.1 hp
    obtain ⟨x, hx, e⟩ := (cell_iv hs (hne q hq)).1 ⟨h1, h2⟩
    exact ⟨x, ⟨q, hq, hx.1, hx.2⟩, e⟩
  · rintro ⟨x, ⟨q, hq, h1, h2⟩, e⟩
    obtain ⟨g1, g2⟩ := (cell_iv hs (hne q hq)).2 ⟨x, ⟨h1, h2⟩, e⟩
    exact ⟨_, List.mem_map.2 ⟨q, hq, rfl⟩, g1, g2⟩
theorem norm_ordC {l : List Iv} (hn : NormI l) : ordI l := List.Pairwise.imp_of_mem (fun {p q} hp hq h => by have := hn.ne p hp; omega) hn.gap
theorem cl_ord {s : Int} (hs : 1 ≤ s) {l : List Iv} (hn : NormI l) : ordI (clL s l) := by
  have h := norm_ordC hn
  unfold ordI clL at *
  rw [List.pairwise_map]
  exact h.imp fun {p q} h => Int.ediv_le_ediv (by omega) h
/-- the cells with elements -/
def crI (s : Int) (l : List Iv) : List Iv := jr [] (clL s l)
theorem cr_spec {s : Int} (hs : 1 ≤ s) {l : List Iv} (hn : NormI l) : NormI (crI s l) ∧ (∀ c, memI (crI s l) c ↔ ∃ x, memI l x ∧ x / s = c) ∧ ofI (clL s l) = crI s l := by
  obtain ⟨a1, a2⟩ := joined_norm (cl_ord hs hn)
  obtain ⟨b1, b2⟩ := ofI_norm (clL s l)
  exact ⟨a1, fun c => by unfold crI; rw [a2, mem_cl hs hn.ne], norm_ext b1 a1 fun c => by unfold crI; rw [a2, b2]⟩
theorem cr_or {s : Int} (hs : 1 ≤ s) {a b : List Iv} (ha : NormI a) (hb : NormI b) : cmb (fun x y => x || y) (crI s a) (crI s b) = crI s (cmb (fun x y => x || y) a b) := by
  have n3 := (cmb_spec (fun x y => x || y) rfl ha hb).1
  obtain ⟨a1, a2, _⟩ := cr_spec hs ha
  obtain ⟨b1, b2, _⟩ := cr_spec hs hb
  obtain ⟨c1, c2, _⟩ := cr_spec hs n3
  refine norm_ext (cmb_spec _ rfl a1 b1).1 c1 fun x => ?_
  rw [(cmb_spec _ rfl a1 b1).2, c2, Bool.or_eq_true, hasB_iff, hasB_iff, a2, b2]
  constructor
  · rintro (⟨z, h, e⟩ | ⟨z, h, e⟩)
    · exact ⟨z, by rw [(cmb_spec _ rfl ha hb).2, Bool.or_eq_true, hasB_iff, hasB_iff]; exact .inl h, e⟩
    · exact ⟨z, by rw [(cmb_spec _ rfl ha hb).2, Bool.or_eq_true, hasB_iff, hasB_iff]; exact .inr h, e⟩
  · rintro ⟨z, h, e⟩
    rw [(cmb_spec _ rfl ha hb).2, Bool.or_eq_true, hasB_iff, hasB_iff] at h
    rcases h with h | h
    · exact .inl ⟨z, h, e⟩
    · exact .inr ⟨z, h, e⟩
theorem cr_mul {s t : Int} (hs : 1 ≤ s) (ht : 1 ≤ t) (hst : 1 ≤ s * t) {a : List Iv} (ha : NormI a) : crI t (crI s a) = crI (s * t) a := by
  obtain ⟨a1, a2, _⟩ := cr_spec hs ha
  obtain ⟨b1, b2, _⟩ := cr_spec ht a1
  obtain ⟨c1, c2, _⟩ := cr_spec hst ha
  refine norm_ext b1 c1 fun x => ?_
  rw [b2, c2]
  constructor
  · rintro ⟨w, hw, e⟩
    rw [a2] at hw
    obtain ⟨z, hz, rfl⟩ := hw
    exact ⟨z, hz, by rw [← e, Int.ediv_ediv_of_nonneg (by omega)]⟩
  · rintro ⟨z, hz, e⟩
    exact ⟨z / s, by rw [a2]; exact ⟨z, hz, rfl⟩, by rw [← e, Int.ediv_ediv_of_nonneg (by omega)]⟩
theorem cr_len (s : Int) (l : List Iv) : (crI s l).length ≤ l.length := by
  have := jr_len (clL s l) []
  simpa [crI, clL] using this
theorem cr_within {s : Int} (hs : 1 ≤ s) {l : List Iv} (hn : NormI l) (hw : within (-200) 240 l) : within (-200) 240 (crI s l) := fun c hc => by
  obtain ⟨x, hx, rfl⟩ := ((cr_spec hs hn).2.1 c).1 hc
  have := hw x hx
  have h1 : -200 ≤ x / s := Int.le_ediv_of_mul_le (by omega) (by omega)
  have h2 : x / s ≤ 239 := Int.ediv_le_of_le_mul (by omega) (by omega)
  omega
end Go.Proofs.YtnpppjipbkceeaaV
