/- AlertInputs: for every input the call returns true, and each argument reads behind the call as it read before. No conditions. -/
import Derived.Test.YtpooehcjchkbkaaRows
import Derived.Test.YtpooehcjchkbkaaWcOK
import Derived.Test.YtpooehcjchkbkaaWe4
set_option linter.unusedVariables false
set_option linter.unusedSimpArgs false
namespace Go.Proofs.YtpooehcjchkbkaaV
open Go.RowKit Go.Proofs.Ytpooehcjchkbkaa
theorem ser_of {n : Nat} {cs : List D} (h : CellOk TT (n + 4) 35 cs) : ∃ s : Ser, D.agg cs = s.enc ∧ s.ok ∧ s.svc.size ≤ 140737488351232 ∧ s.op.size ≤ 140737488351232 := by
  rw [CellOk, T35] at h
  simp only at h
  obtain ⟨h1, h2⟩ := h
  match cs, h1 with
  | [a, b, c, d, e, f, g], _ =>
    have q0 := h2 (0, 9, 1) (by simp)
    have q1 := h2 (1, 9, 1) (by simp)
    have q2 := h2 (2, 3, 1) (by simp)
    have q3 := h2 (3, 32, 2) (by simp)
    have q4 := h2 (5, 3, 1) (by simp)
    have q5 := h2 (6, 33, 1) (by simp)
    obtain ⟨dd, l, e1, e2, e3, e4, e5⟩ := cellList T33 T3 (D.int .i64) (fun _ => True) (fun cs _ h => by
      simp [CellOk, T3] at h
      obtain ⟨m, rfl, _⟩ := h
      exact ⟨m, rfl, trivial⟩) q5
    simp at e1
    subst e1
    simp [CellOk, T3, T9, T32] at q0 q1 q2 q3 q4
    obtain ⟨x0, rfl, w0⟩ := q0
    obtain ⟨x1, rfl, w1⟩ := q1
    obtain ⟨x2, rfl, w2⟩ := q2
    obtain ⟨⟨x3, rfl, w3⟩, ⟨x4, rfl, w4⟩⟩ := q3
    obtain ⟨x5, rfl, w5⟩ := q4
    exact ⟨⟨x0, x1, x2, x3, x4, x5, g, l⟩, rfl, ⟨isI64_ok w3, isI64_ok w4, isI64_ok w5, e2, by show l.length < 4611686018427387904; simp only at e3; omega⟩, w0, w1⟩
theorem valSer {n : Nat} {d : D} (h : ValOk TT (n + 4) 35 d) : ∃ s : Ser, d = s.enc ∧ s.ok ∧ s.svc.size ≤ 140737488351232 ∧ s.op.size ≤ 140737488351232 := by
  obtain ⟨i, cs, hi, rfl, hl, h⟩ := h
  rw [T35] at hi; injection hi with hi; subst hi
  exact ser_of h
theorem law4_good : ∀ ds, DsOk TT 4 [25, 35, 35] ds → Good Try.prog 4 (ds.map AV.d) [] (.d (.bool true)) []
  | [], h => h.elim
  | [_], h => h.2.elim
  | [_, _], h => h.2.2.elim
  | _ :: _ :: _ :: _ :: _, h => h.2.2.2.elim
  | [d1, d2, d3], ⟨h1, h2, h3, _⟩ => by
    obtain ⟨x, rfl, hx⟩ := valLim h1
    obtain ⟨a, rfl, ha, sa, oa⟩ := valSer h2
    obtain ⟨b, rfl, hb, sb, ob⟩ := valSer h3
    exact run_good CC_ok (law4_run x hx a b ha hb sa sb oa ob)
set_option maxRecDepth 100000 in
theorem lifted4 (os : Os) (started : os.Started) (H : Type) (enc : TypeId × Value → H) :
    ReturnsInHanded {} Try.checked os 4 .any (Rows.alertInputsSpec.pre6 enc Try.prog Try.f4 Rows.alertInputsRow.domain false) (Rows.alertInputsSpec.post enc Try.prog Try.f4 false true false false) := by
  refine returnsInHanded_of_change_sized (C := Try.checked) own started (by kernel_rfl) Try.func4
    (ChangeSpec.witness6 (enc := enc) (C := Try.checked) false ⟨#[], #[.agg #[.int .u8 0, .int .u8 0, .int .u8 0, .int .u8 0, .int .u8 0], .agg #[.string ⟨#[]⟩, .string ⟨#[]⟩, .int .i64 0, .int .i64 0, .int .i64 0, .int .i64 0, .slice none 0 0], .agg #[.string ⟨#[]⟩, .string ⟨#[]⟩, .int .i64 0, .int .i64 0, .int .i64 0, .int .i64 0, .slice none 0 0]], []⟩ 8 (by kernel_rfl) (by kernel_rfl) (by kernel_rfl) (by kernel_rfl)) ?_
  intro W base args ds gs before hval0 hW hcnd hsz0 _
  exact law_contract (T := TT) (n := 4) (ts := [25, 35, 35]) (rt := 4) TT_ok (by kernel_rfl) (by kernel_rfl) laidOut (by kernel_rfl) (by kernel_rfl) ((TT_ok.ok T4).bool rfl) rfl (fun ds hds => by
    match ds, hds with
    | [_, _, _], _ => rfl) law4_good W base args ds gs before hval0 hW hsz0
set_option maxRecDepth 100000 in
theorem over4 : Rows.alertInputsRow.holds Try.pinned (OpenSpec.ofChange Rows.alertInputsSpec) :=
  OpenClaim.holds_of_wide 4 Try.f4 rfl rfl rfl rfl rfl rfl rfl ⟨rfl, rfl, rfl, rfl, rfl⟩ rfl rfl rfl rfl rfl (by kernel_rfl) Try.func4 (by kernel_rfl)
    (of_decide_eq_true (by kernel_rfl)) (by unfold Func.isWrapper; first | (rw [if_pos (by decide +kernel)]; kernel_rfl) | (rw [if_neg (by decide +kernel)]; exact ⟨rfl, rfl⟩))
    (fun os started H enc _ => lifted4 os started H enc)
end Go.Proofs.YtpooehcjchkbkaaV
namespace Go.Proofs.Ytpooehcjchkbkaa
/-- The row. -/
theorem alertInputs_holds : Rows.AlertInputsSaid := Go.Proofs.YtpooehcjchkbkaaV.over4
end Go.Proofs.Ytpooehcjchkbkaa
