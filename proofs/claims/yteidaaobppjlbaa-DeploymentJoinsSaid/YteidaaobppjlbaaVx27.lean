/- Helpers for loops over a list: what stands at an index. -/
import Derived.Test.YteidaaobppjlbaaVx26
set_option linter.unusedVariables false
set_option linter.unusedSimpArgs false
namespace Go.Proofs.YteidaaobppjlbaaV
open Go.RowKit
theorem atL {α : Type} (enc : α → D) {l pre suf : List α} {c : α} (h : pre ++ c :: suf = l) (hl : l.length < 4611686018427387904) :
    l.length = pre.length + (suf.length + 1) ∧ IntKind.i64.wrap ((pre.length : Int) + 1) = (pre.length : Int) + 1 ∧ (l.map enc)[pre.length]? = some (enc c) ∧ pre.length < l.length ∧ l[pre.length]? = some c ∧ l.drop (pre.length + 1) = suf := by
  subst h
  refine ⟨by simp, wrap64 (by omega) (by simp at hl; omega), by simp, by simp, by simp, by simp [List.drop_append]⟩
theorem getL {α : Type} {l : List α} {i : Nat} {c : α} (h : l[i]? = some c) (h' : i < l.length) : l[i] = c := (List.getElem?_eq_some_iff.1 h).2
theorem endL {α : Type} {l pre : List α} (h : pre ++ [] = l) : l.length = pre.length := by rw [← h]; simp
theorem atN {α : Type} (enc : α → D) {l : List α} {i : Nat} {c : α} (h : l[i]? = some c) (hl : l.length < 4611686018427387904) :
    i < l.length ∧ IntKind.i64.wrap ((i : Int) + 1) = (i : Int) + 1 ∧ (l.map enc)[i]? = some (enc c) := by
  have h1 : i < l.length := (List.getElem?_eq_some_iff.1 h).1
  exact ⟨h1, wrap64 (by omega) (by omega), by rw [List.getElem?_map, h]; rfl⟩
theorem takeM {α β : Type} (f : α → β) (l : List α) : (l.map f).take l.length = l.map f := List.take_of_length_le (by simp)
end Go.Proofs.YteidaaobppjlbaaV
