/- The program's functions and types are those of the interpreter's; steps out of an argument. -/
import Derived.Test.YteidaaobppjlbaaVC
import Derived.Test.YteidaaobppjlbaaWd19
set_option linter.unusedVariables false
set_option linter.unusedSimpArgs false
namespace Go.Proofs.YteidaaobppjlbaaV
open Go.RowKit
theorem CC_ok : PgOk Try.prog CC where
  T := TT_ok
  Q := fun t ks h => by
    have h' : QQ t = some ks := h
    unfold QQ at h'
    split at h'
    all_goals first
      | (cases h'; done)
      | (injection h' with h'; subst h'; exact eqOk_nest 3 (by omega) (by kernel_rfl) (by kernel_rfl))
  A := AA_ok
  X := fun _ _ _ _ _ h => by cases h
  mo := by kernel_rfl
theorem u8_ok {m : Int} (h : (Lit.int .u8 m).wf = true) : 0 ≤ m ∧ m < 256 := by
  simp [Lit.wf, IntKind.min, IntKind.max, IntKind.bits, IntKind.signed] at h; omega
theorem stp_of {n : Nat} {cs : List D} (h : CellOk TT (n + 2) 99 cs) : ∃ x : Stp, cs = [.int .u8 x.kind, .int .u8 x.slot, .int .u8 x.svc, .int .u8 x.tgt, .int .u8 x.ver] ∧ x.ok := by
  simp only [CellOk, T99] at h
  obtain ⟨h1, h2⟩ := h
  match cs, h1 with
  | [a, b, c, d, e], _ =>
    simp [T5] at h2
    obtain ⟨⟨x1, rfl, w1⟩, ⟨x2, rfl, w2⟩, ⟨x3, rfl, w3⟩, ⟨x4, rfl, w4⟩, ⟨x5, rfl, w5⟩⟩ := h2
    exact ⟨⟨x1, x2, x3, x4, x5⟩, rfl, u8_ok w1, u8_ok w2, u8_ok w3, u8_ok w4, u8_ok w5⟩
theorem stps_of {n : Nat} {d : D} (h : ValOk TT (n + 3) 30 d) : ∃ l : List Stp, elsOf (.d d) = some (l.map Stp.enc) ∧ ∀ x ∈ l, x.ok := by
  obtain ⟨i, cs, hi, rfl, hl, hc⟩ := h
  rw [T30] at hi
  injection hi with hi; subst hi
  simp only [CellOk, T30] at hc
  rcases hc with rfl | ⟨els, ie, rfl, hie, _, _, h⟩
  · exact ⟨[], rfl, by simp⟩
  · rw [T99] at hie
    injection hie with hie; subst hie
    have : ∀ els : List D, (∀ el ∈ els, ∃ x : Stp, el = x.enc ∧ x.ok) → ∃ l : List Stp, els = l.map Stp.enc ∧ ∀ x ∈ l, x.ok := by
      intro els
      induction els with
      | nil => exact fun _ => ⟨[], rfl, by simp⟩
      | cons e els ih =>
        intro h
        obtain ⟨x, rfl, hx⟩ := h e (by simp)
        obtain ⟨l, rfl, hl⟩ := ih fun el hel => h el (by simp [hel])
        exact ⟨x :: l, rfl, fun y hy => by rcases List.mem_cons.1 hy with rfl | hy; exact hx; exact hl y hy⟩
    obtain ⟨l, rfl, hok⟩ := this els fun el hel => by
      obtain ⟨cs, h1, h2, h3, h4⟩ := h el hel
      obtain ⟨x, rfl, hx⟩ := stp_of h4
      exact ⟨x, h1, hx⟩
    exact ⟨l, rfl, hok⟩
theorem own : ownKnob Try.prog.godebug = none := by kernel_rfl
theorem laidOut : laidOutB Try.prog = true := by kernel_rfl
end Go.Proofs.YteidaaobppjlbaaV
