/- Bounds of the decoded sets. -/
import Derived.Test.YtnpppjipbkceeaaTm3
import Derived.Test.YtnpppjipbkceeaaTc12
set_option linter.unusedVariables false
set_option linter.unusedSimpArgs false
namespace Go.Proofs.YtnpppjipbkceeaaV
open Go.RowKit
/-- the members lie from a on and before b -/
def within (a b : Int) (l : List Iv) : Prop := ∀ x, memI l x → a ≤ x ∧ x < b
theorem within_at {a b : Int} {l : List Iv} (hn : NormI l) (h : within a b l) : ∀ p ∈ l, a ≤ p.1 ∧ p.1 < p.2 ∧ p.2 ≤ b := fun p hp => by
  have h1 := hn.ne p hp
  have h2 := h p.1 ⟨p, hp, by omega, by omega⟩
  have h3 := h (p.2 - 1) ⟨p, hp, by omega, by omega⟩
  omega
theorem setI_within {l : List Sp} (hok : ∀ s ∈ l, Sp.ok s) : within (-200) 240 (setI l) := fun x hx => by
  rw [setI, (ofI_norm _).2] at hx
  obtain ⟨p, hp, h1, h2⟩ := hx
  obtain ⟨s, hs, rfl⟩ := List.mem_map.1 hp
  have := spI_bnd (hok s (List.mem_of_mem_take hs))
  omega
theorem bnd_within {l : List Iv} (hn : NormI l) (h : within (-200) 240 l) : bnd l := fun p hp => by
  have := within_at hn h p hp
  omega
end Go.Proofs.YtnpppjipbkceeaaV
