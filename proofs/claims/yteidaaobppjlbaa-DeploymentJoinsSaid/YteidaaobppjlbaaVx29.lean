/- Slices that are data lie in one cell. -/
import Derived.Test.YteidaaobppjlbaaVx28
import Derived.Test.YteidaaobppjlbaaVx27
set_option linter.unusedVariables false
set_option linter.unusedSimpArgs false
namespace Go.Proofs.YteidaaobppjlbaaV
open Go.RowKit
theorem slF {x : D} {els : List D} (h : elsOf (.d x) = some els) : AV.one (.d x) = true ∧ AV.cells (.d x) = [.d x] ∧ D.cells x = [x] := by
  cases x <;> first | (simp [elsOf] at h; done) | exact ⟨rfl, rfl, rfl⟩
theorem tmodP {a n : Int} (h : 0 ≤ a) (hn : 0 < n) : 0 ≤ a.tmod n ∧ a.tmod n < n := ⟨Int.tmod_nonneg _ h, Int.tmod_lt_of_pos _ hn⟩
theorem tmod_get {α : Type} {a n : Int} (h : 0 ≤ a) (hn : 0 < n) (l : List α) (hl : l.length = n.toNat) : ∃ x ∈ l, l[(a.tmod n).toNat]? = some x := by
  have := tmodP h hn
  have hlt : (a.tmod n).toNat < l.length := by omega
  exact ⟨_, List.getElem_mem hlt, List.getElem?_eq_getElem hlt⟩
theorem wrap_u8 {n : Int} (h : 0 ≤ n) (h' : n < 256) : IntKind.u8.wrap n = n := by
  simp [IntKind.wrap, IntKind.bits, IntKind.signed]; omega
theorem wrap_pos {n : Int} (h : 0 ≤ n) (h' : n < 9223372036854775808) : IntKind.i64.wrap n = n := wrap64 (by omega) h'
/-- A result that is told in part. -/
theorem runX {C : Pg} {f : FuncId} {xs : List AV} {obs : List AObj} {α : Type} {F : α → AV} {o : List AObj} {P : α → Prop} (h : ∃ y obs', run C f xs obs = some (y, obs') ∧ (∃ x, P x ∧ y = F x) ∧ obs' = o) : ∃ x, P x ∧ run C f xs obs = some (F x, o) := by
  obtain ⟨y, obs', h1, ⟨x, hx, rfl⟩, rfl⟩ := h
  exact ⟨x, hx, h1⟩
end Go.Proofs.YteidaaobppjlbaaV
