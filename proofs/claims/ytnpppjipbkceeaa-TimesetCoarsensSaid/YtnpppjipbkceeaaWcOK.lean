/- The program's functions and types are those of the interpreter's; arguments opened. -/
import Derived.Test.YtnpppjipbkceeaaVC
import Derived.Test.YtnpppjipbkceeaaTc12
set_option linter.unusedVariables false
set_option linter.unusedSimpArgs false
namespace Go.Proofs.YtnpppjipbkceeaaV
open Go.RowKit
theorem CC_ok : PgOk Try.prog CC where
  T := TT_ok
  Q := fun t ks h => by
    have h' : QQ t = some ks := h
    unfold QQ at h'
    split at h'
    all_goals first
      | (cases h'; done)
      | (injection h' with h'; subst h'; exact eqOk_nest 3 (by omega) (by kernel_rfl) (by kernel_rfl))
  A := AA_ok
  X := fun _ _ _ _ _ h => by cases h
  mo := by kernel_rfl
  L := LT_ok
theorem wf_i16 {m : Int} (h : (Lit.int .i16 m).wf = true) : -32768 ≤ m ∧ m ≤ 32767 := by
  simp [Lit.wf, IntKind.min, IntKind.max, IntKind.bits, IntKind.signed] at h; omega
theorem sp_of {n : Nat} {ie : TyI} (hie : TT.get 60 = some ie) {cs : List D} (hl : cs.length = ie.size) (h : CellOk TT (n + 2) 60 cs) : ∃ x : Sp, mkD ie cs = sD x ∧ Sp.ok x := by
  rw [T60] at hie
  injection hie with hie; subst hie
  simp only [CellOk, T60] at h
  obtain ⟨h1, h2⟩ := h
  match cs, h1 with
  | [a, b], _ =>
    simp [T5, T58] at h2
    obtain ⟨⟨x1, rfl, w1⟩, x2, rfl, w2⟩ := h2
    have a1 := wf_i16 w1
    have a2 := wf_u8 w2
    exact ⟨(x1, x2), rfl, a1.1, a1.2, a2.1, a2.2⟩
theorem sps_of {n : Nat} {d : D} (h : ValOk TT (n + 3) 22 d) : ∃ l : List Sp, elsOf (.d d) = some (l.map sD) ∧ l.length < 4611686018427387904 ∧ ∀ x ∈ l, Sp.ok x := by
  obtain ⟨l, h1, h2, h3, h4⟩ := valList (n := n + 2) T22 T60 sD Sp.ok (fun cs hl hc => sp_of T60 hl hc) h
  exact ⟨l, h1, by simp at h2; omega, h4⟩
theorem own : ownKnob Try.prog.godebug = none := by kernel_rfl
theorem laidOut : laidOutB Try.prog = true := by kernel_rfl
end Go.Proofs.YtnpppjipbkceeaaV
