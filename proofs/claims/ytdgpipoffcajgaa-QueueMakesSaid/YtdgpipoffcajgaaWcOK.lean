/- The program's functions and types are those of the interpreter's; arguments opened. -/
import Derived.Test.YtdgpipoffcajgaaVC
import Derived.Test.YtdgpipoffcajgaaWcAA
set_option linter.unusedVariables false
set_option linter.unusedSimpArgs false
namespace Go.Proofs.YtdgpipoffcajgaaV
open Go.RowKit
theorem CC_ok : PgOk Try.prog CC where
  T := TT_ok
  Q := fun t ks h => by
    have h' : QQ t = some ks := h
    unfold QQ at h'
    split at h'
    all_goals first
      | (cases h'; done)
      | (injection h' with h'; subst h'; exact eqOk_nest 3 (by omega) (by kernel_rfl) (by kernel_rfl))
  A := AA_ok
  X := fun _ _ _ _ _ h => by cases h
  mo := by kernel_rfl
  L := LT_ok
theorem own : ownKnob Try.prog.godebug = none := by kernel_rfl
theorem laidOut : laidOutB Try.prog = true := by kernel_rfl
theorem sl_of {n : Nat} {t e : TypeId} {s b : Nat} {z : List AV} (ht : TT.get t = some ⟨.slice e, s, b, z⟩) {c : D} (h : CellOk TT (n + 1) t [c]) : ∃ ls, elsOf (.d c) = some ls := by
  simp only [CellOk, ht] at h
  rcases h with h | ⟨els, ie, h, _⟩
  · injection h with h; subst h; exact ⟨[], rfl⟩
  · injection h with h; subst h; exact ⟨els, rfl⟩
theorem int_of {n : Nat} {c : D} (h : CellOk TT (n + 1) 3 [c]) : ∃ x : Int, c = .int .i64 x ∧ (Lit.int .i64 x).wf = true := by
  simp only [CellOk, T3] at h
  obtain ⟨x, h, hw⟩ := h
  injection h with h
  exact ⟨x, h, hw⟩
theorem frag_of {n : Nat} {d : D} (h : ValOk TT (n + 4) 25 d) : ∃ (a s : Int) (S X : D) (ls lx : List D), d = .agg [.int .i64 a, .int .i64 s, S, X] ∧ elsOf (.d S) = some ls ∧ elsOf (.d X) = some lx := by
  obtain ⟨i, cs, hi, rfl, hl, hc⟩ := h
  rw [T25] at hi
  injection hi with hi; subst hi
  rw [CellOk, T25] at hc
  obtain ⟨h1, h2⟩ := hc
  match cs, h1 with
  | [a, b, c, d], _ =>
    obtain ⟨x, rfl, _⟩ := int_of (h2 (0, 3, 1) (by simp))
    obtain ⟨y, rfl, _⟩ := int_of (h2 (1, 3, 1) (by simp))
    obtain ⟨ls, hs⟩ := sl_of T22 (h2 (2, 22, 1) (by simp))
    obtain ⟨lx, hx⟩ := sl_of T23 (h2 (3, 23, 1) (by simp))
    exact ⟨x, y, c, d, ls, lx, rfl, hs, hx⟩
theorem lim_of {n : Nat} {d : D} (h : ValOk TT (n + 4) 46 d) : ∃ a b c : Int, d = .agg [.int .i64 a, .int .i64 b, .int .i64 c] ∧ (Lit.int .i64 a).wf = true ∧ (Lit.int .i64 b).wf = true ∧ (Lit.int .i64 c).wf = true := by
  obtain ⟨i, cs, hi, rfl, hl, hc⟩ := h
  rw [T46] at hi
  injection hi with hi; subst hi
  rw [CellOk, T46] at hc
  obtain ⟨h1, h2⟩ := hc
  match cs, h1 with
  | [a, b, c], _ =>
    obtain ⟨x, rfl, hx⟩ := int_of (h2 (0, 3, 1) (by simp))
    obtain ⟨y, rfl, hy⟩ := int_of (h2 (1, 3, 1) (by simp))
    obtain ⟨z, rfl, hz⟩ := int_of (h2 (2, 3, 1) (by simp))
    exact ⟨x, y, z, rfl, hx, hy, hz⟩
end Go.Proofs.YtdgpipoffcajgaaV
