/- The program's functions and types are those of the interpreter's; changes out of an argument. -/
import Derived.Test.YteidaaobppjlbaaVC
import Derived.Test.YteidaaobppjlbaaWc47a
set_option linter.unusedVariables false
set_option linter.unusedSimpArgs false
namespace Go.Proofs.YteidaaobppjlbaaV
open Go.RowKit
theorem CC_ok : PgOk Try.prog CC where
  T := TT_ok
  Q := fun t ks h => by
    have h' : QQ t = some ks := h
    unfold QQ at h'
    split at h'
    all_goals first
      | (cases h'; done)
      | (injection h' with h'; subst h'; exact eqOk_nest 3 (by omega) (by kernel_rfl) (by kernel_rfl))
  A := AA_ok
  X := fun _ _ _ _ _ h => by cases h
  mo := by kernel_rfl
  L := LT_ok
theorem own : ownKnob Try.prog.godebug = none := by kernel_rfl
theorem laidOut : laidOutB Try.prog = true := by kernel_rfl
theorem chg_of {n : Nat} {ie : TyI} (hie : TT.get 26 = some ie) {cs : List D} (hl : cs.length = ie.size) (h : CellOk TT (n + 2) 26 cs) : ∃ c : Chg, mkD ie cs = c.enc ∧ True := by
  rw [T26] at hie
  injection hie with hie; subst hie
  simp only [CellOk, T26] at h
  obtain ⟨h1, h2⟩ := h
  match cs, h1 with
  | [a, b, c, d, e, f], _ =>
    simp [T3, T9] at h2
    obtain ⟨⟨x1, rfl, _⟩, ⟨x2, rfl, _⟩, ⟨x3, rfl, _⟩, ⟨x4, rfl, _⟩, ⟨x5, rfl, _⟩, ⟨x6, rfl, _⟩⟩ := h2
    exact ⟨⟨x1, x2, x3, x4, x5, x6⟩, rfl, trivial⟩
theorem chgs_of {n : Nat} {d : D} (h : ValOk TT (n + 3) 22 d) : ∃ l : List Chg, elsOf (.d d) = some (l.map Chg.enc) ∧ l.length < 4611686018427387904 := by
  obtain ⟨l, h1, h2, h3, h4⟩ := valList (n := n + 2) T22 T26 Chg.enc (fun _ => True) (fun cs hl hc => chg_of T26 hl hc) h
  exact ⟨l, h1, by simp at h2; omega⟩
end Go.Proofs.YteidaaobppjlbaaV
