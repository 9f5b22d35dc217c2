/- The program's functions and types are those of the interpreter's; rules and their descriptions out of an argument. -/
import Derived.Test.YtpooehcjchkbkaaVC
import Derived.Test.YtpooehcjchkbkaaWp4
set_option linter.unusedVariables false
set_option linter.unusedSimpArgs false
namespace Go.Proofs.YtpooehcjchkbkaaV
open Go.RowKit
theorem CC_ok : PgOk Try.prog CC where
  T := TT_ok
  Q := fun t ks h => by
    have h' : QQ t = some ks := h
    unfold QQ at h'
    split at h'
    all_goals first
      | (cases h'; done)
      | (injection h' with h'; subst h'; exact eqOk_nest 3 (by omega) (by kernel_rfl) (by kernel_rfl))
  A := AA_ok
  X := fun _ _ _ _ _ h => by cases h
  mo := by kernel_rfl
  L := LT_ok
theorem own : ownKnob Try.prog.godebug = none := by kernel_rfl
theorem laidOut : laidOutB Try.prog = true := by kernel_rfl
theorem rul_of {n : Nat} {cs : List D} (h : CellOk TT (n + 2) 23 cs) : ∃ r : Rul, D.agg cs = r.enc := by
  simp only [CellOk, T23] at h
  obtain ⟨h1, h2⟩ := h
  match cs, h1 with
  | [a, b, c, d, e, f, g, i], _ =>
    simp [T3, T9] at h2
    obtain ⟨⟨x1, rfl, _⟩, ⟨x2, rfl, _⟩, ⟨x3, rfl, _⟩, ⟨x4, rfl, _⟩, ⟨x5, rfl, _⟩, ⟨x6, rfl, _⟩, ⟨x7, rfl, _⟩, ⟨x8, rfl, _⟩⟩ := h2
    exact ⟨⟨x1, x2, x3, x4, x5, x6, x7, x8⟩, rfl⟩
theorem smp_of {n : Nat} {cs : List D} (h : CellOk TT (n + 2) 70 cs) : ∃ s : Smp, D.agg cs = s.d ∧ True := by
  simp only [CellOk, T70] at h
  obtain ⟨h1, h2⟩ := h
  match cs, h1 with
  | [a, b, c, d], _ =>
    simp [T3, T9] at h2
    obtain ⟨⟨x1, rfl, _⟩, ⟨x2, rfl, _⟩, ⟨x3, rfl, _⟩, ⟨x4, rfl, _⟩⟩ := h2
    exact ⟨⟨x1, x2, x3, x4⟩, rfl, trivial⟩
theorem valRuls {n : Nat} {d : D} (h : ValOk TT (n + 3) 64 d) : ∃ l : List Rul, elsOf (.d d) = some (l.map Rul.enc) := by
  obtain ⟨l, h1, _⟩ := valList (n := n + 2) T64 T23 Rul.enc (fun _ => True) (fun cs _ h => by
    obtain ⟨r, hr⟩ := rul_of h
    exact ⟨r, hr, trivial⟩) h
  exact ⟨l, h1⟩
theorem valSmps {n : Nat} {d : D} (h : ValOk TT (n + 3) 65 d) : ∃ l : List Smp, elsOf (.d d) = some (l.map Smp.d) := by
  obtain ⟨l, h1, _⟩ := valList (n := n + 2) T65 T70 Smp.d (fun _ => True) (fun cs _ h => smp_of h) h
  exact ⟨l, h1⟩
end Go.Proofs.YtpooehcjchkbkaaV
