/- The program's functions and types are those of the interpreter's; sizes and operations out of an argument. -/
import Derived.Test.YtdgpipoffcajgaaVC
import Derived.Test.YtdgpipoffcajgaaQk1
set_option linter.unusedVariables false
set_option linter.unusedSimpArgs false
namespace Go.Proofs.YtdgpipoffcajgaaV
open Go.RowKit
theorem CC_ok : PgOk Try.prog CC where
  T := TT_ok
  Q := fun t ks h => by
    have h' : QQ t = some ks := h
    unfold QQ at h'
    split at h'
    all_goals first
      | (cases h'; done)
      | (injection h' with h'; subst h'; exact eqOk_nest 3 (by omega) (by kernel_rfl) (by kernel_rfl))
  A := AA_ok
  X := fun _ _ _ _ _ h => by cases h
  mo := by kernel_rfl
  L := LT_ok
theorem own0 : ownKnob Try.prog.godebug = none := by kernel_rfl
theorem laidOut : laidOutB Try.prog = true := by kernel_rfl
theorem nat_u8 {m : Int} (h : (Lit.int .u8 m).wf = true) : ∃ n : Nat, m = n ∧ n < 256 := by
  have := wf_u8 h
  exact ⟨m.toNat, by omega, by omega⟩
theorem opr_of {n : Nat} {cs : List D} (h : CellOk TT (n + 2) 57 cs) : ∃ x : Opr, D.agg cs = x.d ∧ True := by
  simp only [CellOk, T57] at h
  obtain ⟨h1, h2⟩ := h
  match cs, h1 with
  | [a, b, c], _ =>
    simp [T5] at h2
    obtain ⟨⟨x1, rfl, w1⟩, ⟨x2, rfl, w2⟩, ⟨x3, rfl, w3⟩⟩ := h2
    obtain ⟨n1, rfl, g1⟩ := nat_u8 w1
    obtain ⟨n2, rfl, g2⟩ := nat_u8 w2
    obtain ⟨n3, rfl, g3⟩ := nat_u8 w3
    exact ⟨⟨n1, n2, n3, g1, g2, g3⟩, rfl, trivial⟩
theorem ops_of {n : Nat} {d : D} (h : ValOk TT (n + 3) 54 d) : d = .nils ∨ ∃ l : List Opr, d = .sl (l.map Opr.d) := by
  obtain ⟨l, h1, h2, h3, h4⟩ := valList (n := n + 2) T54 T57 Opr.d (fun _ => True) (fun cs _ h => opr_of h) h
  cases d with
  | nils => exact .inl rfl
  | sl els => injection h1 with h1; exact .inr ⟨l, by rw [h1]⟩
  | _ => cases h1
theorem opsE_of {n : Nat} {d : D} (h : ValOk TT (n + 3) 54 d) : ∃ l : List Opr, elsOf (.d d) = some (l.map Opr.d) := by
  rcases ops_of h with rfl | ⟨l, rfl⟩
  · exact ⟨[], rfl⟩
  · exact ⟨l, rfl⟩
theorem size_of {n : Nat} {d : D} (h : ValOk TT (n + 4) 32 d) : ∃ a b c : Nat, d = .agg [.int .u8 a, .int .u8 b, .int .u8 c] := by
  obtain ⟨i, cs, hi, rfl, hl, hc⟩ := h
  rw [T32] at hi
  injection hi with hi; subst hi
  simp only [CellOk, T32] at hc
  obtain ⟨h1, h2⟩ := hc
  match cs, h1 with
  | [a, b, c], _ =>
    simp [T5] at h2
    obtain ⟨⟨x1, rfl, w1⟩, ⟨x2, rfl, w2⟩, ⟨x3, rfl, w3⟩⟩ := h2
    obtain ⟨n1, rfl, g1⟩ := nat_u8 w1
    obtain ⟨n2, rfl, g2⟩ := nat_u8 w2
    obtain ⟨n3, rfl, g3⟩ := nat_u8 w3
    exact ⟨n1, n2, n3, rfl⟩
end Go.Proofs.YtdgpipoffcajgaaV
