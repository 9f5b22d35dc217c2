/- append(append(append([]T{}, out[:k]...), x), out[k:]...): the facts that the interpreter asks for. -/
import Derived.Test.YteidaaobppjlbaaVx29
set_option linter.unusedVariables false
set_option linter.unusedSimpArgs false
namespace Go.Proofs.YteidaaobppjlbaaV
open Go.RowKit
theorem szAll_map {α : Type} (enc : α → D) (sz : Nat) (hsz : ∀ x, (enc x).cells.length = sz) (L : List α) : szAll sz (L.map enc) = true := by
  rw [szAll_iff]; intro y hy
  obtain ⟨q, _, rfl⟩ := List.mem_map.1 hy
  exact hsz q
theorem szAll_take {sz : Nat} {L : List D} (k : Nat) (h : szAll sz L = true) : szAll sz (L.take k) = true := by
  rw [szAll_iff] at h ⊢; exact fun y hy => h y (List.mem_of_mem_take hy)
theorem szAll_drop {sz : Nat} {L : List D} (k : Nat) (h : szAll sz L = true) : szAll sz (L.drop k) = true := by
  rw [szAll_iff] at h ⊢; exact fun y hy => h y (List.mem_of_mem_drop hy)
theorem szAll_one {sz : Nat} {e : D} (h : e.cells.length = sz) : szAll sz [e] = true := by simp [szAll, h]
theorem insM {α : Type} (enc : α → D) (sz : Nat) (hsz : ∀ x, (enc x).cells.length = sz) (L : List α) (e : D) (he : e.cells.length = sz) (k : Nat) (hk : k ≤ L.length) (bytes : Nat) (hb : (L.length + 1) * bytes ≤ 140737488355328) (hl : L.length + 1 ≤ 9223372036854775807) :
    (szAll sz (L.map enc) = true ∧ szAll sz ((L.map enc).take k) = true ∧ szAll sz ((L.map enc).drop k) = true ∧ szAll sz [e] = true) ∧ min k L.length = k ∧
    ((L.map enc).take L.length = L.map enc ∧ ((L.map enc).take k).take k = (L.map enc).take k ∧ ((L.map enc).take k ++ [e]).take (k + 1) = (L.map enc).take k ++ [e] ∧ ((L.map enc).take k ++ e :: (L.map enc).drop k).take (k + 1 + (L.length - k)) = (L.map enc).take k ++ e :: (L.map enc).drop k) ∧
    (k * bytes ≤ 140737488355328 ∧ (k + 1) * bytes ≤ 140737488355328 ∧ (k + 1 + (L.length - k)) * bytes ≤ 140737488355328) ∧ (k ≤ 9223372036854775807 ∧ k + 1 ≤ 9223372036854775807 ∧ k + 1 + (L.length - k) ≤ 9223372036854775807) ∧ ((k : Int) ≤ L.length ∧ (0 : Int) ≤ k) := by
  have h0 := szAll_map enc sz hsz L
  have hm : ∀ j, j ≤ L.length + 1 → j * bytes ≤ 140737488355328 := fun j hj => Nat.le_trans (Nat.mul_le_mul_right _ hj) hb
  refine ⟨⟨h0, szAll_take _ h0, szAll_drop _ h0, szAll_one he⟩, by omega, ⟨takeM _ _, by rw [List.take_take, Nat.min_self], List.take_of_length_le (by simp; omega), List.take_of_length_le (by simp; omega)⟩, ⟨hm _ (by omega), hm _ (by omega), hm _ (by omega)⟩, ⟨by omega, by omega, by omega⟩, by omega, by omega⟩
end Go.Proofs.YteidaaobppjlbaaV
