/- The order of changes is antisymmetric; the two checks agree. -/
import Derived.Test.YteidaaobppjlbaaWc47c
set_option linter.unusedVariables false
set_option linter.unusedSimpArgs false
namespace Go.Proofs.YteidaaobppjlbaaV
open Go.RowKit
theorem bless_tri : ∀ (a b : List UInt8), (Op.bytesLess a b = true ∧ Op.bytesLess b a = false ∧ a ≠ b) ∨ (Op.bytesLess a b = false ∧ Op.bytesLess b a = true ∧ a ≠ b) ∨ (Op.bytesLess a b = false ∧ Op.bytesLess b a = false ∧ a = b)
  | [], [] => by simp [Op.bytesLess]
  | [], y :: b => by simp [Op.bytesLess]
  | x :: a, [] => by simp [Op.bytesLess]
  | x :: a, y :: b => by
    have ih := bless_tri a b
    simp only [Op.bytesLess]
    rcases Nat.lt_trichotomy x.toNat y.toNat with h | h | h
    · have h1 : x < y := h
      have h2 : ¬ y < x := fun h' => by have : y.toNat < x.toNat := h'; omega
      have h3 : x ≠ y := fun e => by subst e; omega
      have h4 : ¬ y = x := fun e => h3 e.symm
      simp [h1, h2, h3, h4]
    · have e : x = y := UInt8.toNat.inj h
      subst e
      have h2 : ¬ x < x := fun h' => by have : x.toNat < x.toNat := h'; omega
      simpa [h2] using ih
    · have h1 : y < x := h
      have h2 : ¬ x < y := fun h' => by have : x.toNat < y.toNat := h'; omega
      have h3 : x ≠ y := fun e => by subst e; omega
      simp [h1, h2, h3]
theorem cmpS_neg (a b : ByteArray) : cmpS b a = - cmpS a b := by
  have h := bless_tri a.toList b.toList
  unfold cmpS lessS eqS
  rcases h with ⟨h1, h2, h3⟩ | ⟨h1, h2, h3⟩ | ⟨h1, h2, h3⟩
  · have h4 : ¬ b.toList = a.toList := fun e => h3 e.symm
    simp [h1, h2, h4]
  · simp [h1, h2, h3]
  · simp only [h1, h2]; simp [h3]
theorem cmpI_neg (a b : Int) : cmpI b a = - cmpI a b := by
  unfold cmpI; split <;> split <;> first | omega | simp_all <;> omega
theorem firstNZ_neg : ∀ l : List Int, firstNZ (l.map fun x => -x) = - firstNZ l
  | [] => rfl
  | x :: l => by
    simp only [List.map_cons, firstNZ, firstNZ_neg l]
    by_cases h : x = 0
    · simp [h]
    · rw [if_neg (by omega), if_neg h]
theorem cmp_neg (a b : Chg) : b.cmp a = - a.cmp b := by
  unfold Chg.cmp
  rw [← firstNZ_neg]
  simp only [Chg.cmps, List.map_cons, List.map_nil, cmpI_neg a.slot, cmpI_neg a.id, cmpI_neg a.kind, cmpS_neg a.svc, cmpS_neg a.tgt, cmpS_neg a.ver]
theorem chk_eq : ∀ (suf pre : List Chg), chkL pre suf = chkM pre suf
  | [], pre => rfl
  | c :: suf, pre => by
    have h : (pre.getLast?.any fun p => decide (c.cmp p < 0)) = (pre.getLast?.any fun p => decide (0 < p.cmp c)) := by
      cases pre.getLast? with
      | none => rfl
      | some p =>
        simp only [Option.any_some, cmp_neg p c]
        rw [decide_eq_decide]; omega
    simp only [chkL, chkM, h, chk_eq suf]
end Go.Proofs.YteidaaobppjlbaaV
