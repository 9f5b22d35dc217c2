/- The program's functions and types are those of the interpreter's; items, pairs and summaries out of an argument. -/
import Derived.Test.YtdhbecdlablonaaVC
import Derived.Test.YtdhbecdlablonaaWc22e
set_option linter.unusedVariables false
set_option linter.unusedSimpArgs false
namespace Go.Proofs.YtdhbecdlablonaaV
open Go.RowKit
theorem CC_ok : PgOk Try.prog CC where
  T := TT_ok
  Q := fun t ks h => by
    have h' : QQ t = some ks := h
    unfold QQ at h'
    split at h'
    all_goals first
      | (cases h'; done)
      | (injection h' with h'; subst h'; exact eqOk_nest 3 (by omega) (by kernel_rfl) (by kernel_rfl))
  A := AA_ok
  X := fun _ _ _ _ _ h => by cases h
  mo := by kernel_rfl
  L := LT_ok
theorem own : ownKnob Try.prog.godebug = none := by kernel_rfl
theorem laidOut : laidOutB Try.prog = true := by kernel_rfl
theorem it_of {n : Nat} {cs : List D} (h : CellOk TT (n + 2) 41 cs) : ∃ x : It, D.agg cs = x.enc ∧ x.ok := by
  simp only [CellOk, T41] at h
  obtain ⟨h1, h2⟩ := h
  match cs, h1 with
  | [a, b], _ =>
    simp [T5] at h2
    obtain ⟨⟨x1, rfl, w1⟩, ⟨x2, rfl, w2⟩⟩ := h2
    exact ⟨⟨x1, x2⟩, rfl, wf_u8 w1, wf_u8 w2⟩
theorem valIts {n : Nat} {d : D} (h : ValOk TT (n + 3) 36 d) : ∃ l : List It, elsOf (.d d) = some (l.map It.enc) ∧ (∀ x ∈ l, x.ok) ∧ l.length < 4611686018427387904 := by
  obtain ⟨l, h1, h2, h3, h4⟩ := valList (n := n + 2) T36 T41 It.enc It.ok (fun cs _ h => it_of h) h
  refine ⟨l, h1, h4, ?_⟩
  simp only at h2; omega
theorem ctr_of {n : Nat} {cs : List D} (h : CellOk TT (n + 2) 25 cs) : ∃ x : Ctr, D.agg cs = cE x ∧ (-9223372036854775808 ≤ x.2 ∧ x.2 < 9223372036854775808) := by
  simp only [CellOk, T25] at h
  obtain ⟨h1, h2⟩ := h
  match cs, h1 with
  | [a, b], _ =>
    simp [T9, T3] at h2
    obtain ⟨⟨x1, rfl, w1⟩, ⟨x2, rfl, w2⟩⟩ := h2
    exact ⟨⟨x1, x2⟩, rfl, wf_i64 w2⟩
theorem valSm {n : Nat} {d : D} (h : ValOk TT (n + 4) 28 d) : ∃ (s : Sm) (X : D), d = smD s X ∧ elsOf (.d X) = some (csD s.cs) := by
  obtain ⟨i, cs, hi, rfl, hl, h⟩ := h
  rw [T28] at hi; injection hi with hi; subst hi
  rw [CellOk, T28] at h
  simp only at h
  obtain ⟨h1, h2⟩ := h
  match cs, h1 with
  | [a, b, c, d], _ =>
    have q0 := h2 (0, 3, 1) (by simp)
    have q1 := h2 (1, 3, 1) (by simp)
    have q2 := h2 (2, 3, 1) (by simp)
    have q3 := h2 (3, 26, 1) (by simp)
    obtain ⟨dd, l, e1, e2, e3, e4, e5⟩ := cellList T26 T25 cE (fun p => (-9223372036854775808 ≤ p.2 ∧ p.2 < 9223372036854775808)) (fun cs _ h => ctr_of h) q3
    simp at e1
    subst e1
    simp [CellOk, T3] at q0 q1 q2
    obtain ⟨x0, rfl, w0⟩ := q0
    obtain ⟨x1, rfl, w1⟩ := q1
    obtain ⟨x2, rfl, w2⟩ := q2
    exact ⟨⟨x0, x1, x2, l⟩, d, rfl, e2⟩
theorem valU82 {n : Nat} {d : D} (h : ValOk TT (n + 2) 47 d) : ∃ a b : Int, d = .agg [.int .u8 a, .int .u8 b] ∧ (0 ≤ a ∧ a < 256) ∧ (0 ≤ b ∧ b < 256) := by
  obtain ⟨i, cs, hi, rfl, hl, h⟩ := h
  rw [T47] at hi; injection hi with hi; subst hi
  rw [CellOk, T47] at h
  simp only at h
  obtain ⟨h1, ie, hie, h2⟩ := h
  rw [T5] at hie; injection hie with hie; subst hie
  match cs, h1 with
  | [a, b], _ =>
    have q0 := h2 0 (by omega)
    have q1 := h2 1 (by omega)
    simp [CellOk, T5] at q0 q1
    obtain ⟨x0, rfl, w0⟩ := q0
    obtain ⟨x1, rfl, w1⟩ := q1
    exact ⟨x0, x1, rfl, wf_u8 w0, wf_u8 w1⟩
end Go.Proofs.YtdhbecdlablonaaV
