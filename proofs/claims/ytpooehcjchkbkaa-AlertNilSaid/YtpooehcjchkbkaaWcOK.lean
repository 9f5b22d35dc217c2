/- The program's functions and types are those of the interpreter's; rules and their descriptions out of an argument. -/
import Derived.Test.YtpooehcjchkbkaaVC
import Derived.Test.YtpooehcjchkbkaaWc49a
set_option linter.unusedVariables false
set_option linter.unusedSimpArgs false
namespace Go.Proofs.YtpooehcjchkbkaaV
open Go.RowKit
theorem CC_ok : PgOk Try.prog CC where
  T := TT_ok
  Q := fun t ks h => by
    have h' : QQ t = some ks := h
    unfold QQ at h'
    split at h'
    all_goals first
      | (cases h'; done)
      | (injection h' with h'; subst h'; exact eqOk_nest 3 (by omega) (by kernel_rfl) (by kernel_rfl))
  A := AA_ok
  X := fun _ _ _ _ _ h => by cases h
  mo := by kernel_rfl
theorem own : ownKnob Try.prog.godebug = none := by kernel_rfl
theorem laidOut : laidOutB Try.prog = true := by kernel_rfl
theorem rul_of {n : Nat} {cs : List D} (h : CellOk TT (n + 2) 23 cs) : ∃ r : Rul, D.agg cs = r.enc := by
  simp only [CellOk, T23] at h
  obtain ⟨h1, h2⟩ := h
  match cs, h1 with
  | [a, b, c, d, e, f, g, i], _ =>
    simp [T3, T9] at h2
    obtain ⟨⟨x1, rfl, _⟩, ⟨x2, rfl, _⟩, ⟨x3, rfl, _⟩, ⟨x4, rfl, _⟩, ⟨x5, rfl, _⟩, ⟨x6, rfl, _⟩, ⟨x7, rfl, _⟩, ⟨x8, rfl, _⟩⟩ := h2
    exact ⟨⟨x1, x2, x3, x4, x5, x6, x7, x8⟩, rfl⟩
theorem lim_of {n : Nat} {cs : List D} (h : CellOk TT (n + 2) 25 cs) : ∃ r : Lim, D.agg cs = r.enc ∧ r.ok := by
  simp only [CellOk, T25] at h
  obtain ⟨h1, h2⟩ := h
  match cs, h1 with
  | [a, b, c, d, e], _ =>
    simp [T5] at h2
    obtain ⟨⟨x1, rfl, w1⟩, ⟨x2, rfl, w2⟩, ⟨x3, rfl, w3⟩, ⟨x4, rfl, w4⟩, ⟨x5, rfl, w5⟩⟩ := h2
    exact ⟨⟨x1, x2, x3, x4, x5⟩, rfl, ⟨wf_u8 w1, wf_u8 w2, wf_u8 w3, wf_u8 w4, wf_u8 w5⟩⟩
theorem valRul {n : Nat} {d : D} (h : ValOk TT (n + 2) 23 d) : ∃ r : Rul, d = r.enc := by
  obtain ⟨i, cs, hi, rfl, hl, h⟩ := h
  rw [T23] at hi; injection hi with hi; subst hi
  exact rul_of h
theorem valLim {n : Nat} {d : D} (h : ValOk TT (n + 2) 25 d) : ∃ r : Lim, d = r.enc ∧ r.ok := by
  obtain ⟨i, cs, hi, rfl, hl, h⟩ := h
  rw [T25] at hi; injection hi with hi; subst hi
  exact lim_of h
end Go.Proofs.YtpooehcjchkbkaaV
