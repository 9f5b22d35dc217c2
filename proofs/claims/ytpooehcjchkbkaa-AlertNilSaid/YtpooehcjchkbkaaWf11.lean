/- AlertNil: for every input the call returns true, and each argument reads behind the call as it read before. No conditions. -/
import Derived.Test.YtpooehcjchkbkaaRows
import Derived.Test.YtpooehcjchkbkaaWcOK
import Derived.Test.YtpooehcjchkbkaaWe11
set_option linter.unusedVariables false
set_option linter.unusedSimpArgs false
namespace Go.Proofs.YtpooehcjchkbkaaV
open Go.RowKit Go.Proofs.Ytpooehcjchkbkaa
theorem smp_of {n : Nat} {cs : List D} (h : CellOk TT (n + 2) 70 cs) : ∃ s : Smp, D.agg cs = s.enc := by
  simp only [CellOk, T70] at h
  obtain ⟨h1, h2⟩ := h
  match cs, h1 with
  | [a, b, c, d], _ =>
    simp [T3, T9] at h2
    obtain ⟨⟨x1, rfl, _⟩, ⟨x2, rfl, _⟩, ⟨x3, rfl, _⟩, ⟨x4, rfl, _⟩⟩ := h2
    exact ⟨⟨x1, x2, x3, x4⟩, rfl⟩
theorem valSmp {n : Nat} {d : D} (h : ValOk TT (n + 2) 70 d) : ∃ s : Smp, d = s.enc := by
  obtain ⟨i, cs, hi, rfl, hl, h⟩ := h
  rw [T70] at hi; injection hi with hi; subst hi
  exact smp_of h
theorem law11_good : ∀ ds, DsOk TT 4 [9, 70] ds → Good Try.prog 11 (ds.map AV.d) [] (.d (.bool true)) []
  | [], h => h.elim
  | [_], h => h.2.elim
  | _ :: _ :: _ :: _, h => h.2.2.elim
  | [d1, d2], ⟨h1, h2, _⟩ => by
    obtain ⟨n, rfl, _⟩ := valStr T9 h1
    obtain ⟨s, rfl⟩ := valSmp h2
    exact run_good CC_ok (law11_run n s)
set_option maxRecDepth 100000 in
theorem lifted11 (os : Os) (started : os.Started) (H : Type) (enc : TypeId × Value → H) :
    ReturnsInHanded {} Try.checked os 11 .any (Rows.alertNilSpec.pre6 enc Try.prog Try.f11 Rows.alertNilRow.domain false) (Rows.alertNilSpec.post enc Try.prog Try.f11 false true false false) := by
  refine returnsInHanded_of_change_sized (C := Try.checked) own started (by kernel_rfl) Try.func11
    (ChangeSpec.witness6 (enc := enc) (C := Try.checked) false ⟨#[], #[.string ⟨#[]⟩, .agg #[.string ⟨#[]⟩, .string ⟨#[]⟩, .int .i64 0, .int .i64 0]], []⟩ 8 (by kernel_rfl) (by kernel_rfl) (by kernel_rfl) (by kernel_rfl)) ?_
  intro W base args ds gs before hval0 hW hcnd hsz0 _
  exact law_contract (T := TT) (n := 4) (ts := [9, 70]) (rt := 4) TT_ok (by kernel_rfl) (by kernel_rfl) laidOut (by kernel_rfl) (by kernel_rfl) ((TT_ok.ok T4).bool rfl) rfl (fun ds hds => by
    match ds, hds with
    | [_, _], _ => rfl) law11_good W base args ds gs before hval0 hW hsz0
set_option maxRecDepth 100000 in
theorem over11 : Rows.alertNilRow.holds Try.pinned (OpenSpec.ofChange Rows.alertNilSpec) :=
  OpenClaim.holds_of_wide 11 Try.f11 rfl rfl rfl rfl rfl rfl rfl ⟨rfl, rfl, rfl, rfl, rfl⟩ rfl rfl rfl rfl rfl (by kernel_rfl) Try.func11 (by kernel_rfl)
    (of_decide_eq_true (by kernel_rfl)) (by unfold Func.isWrapper; first | (rw [if_pos (by decide +kernel)]; kernel_rfl) | (rw [if_neg (by decide +kernel)]; exact ⟨rfl, rfl⟩))
    (fun os started H enc _ => lifted11 os started H enc)
end Go.Proofs.YtpooehcjchkbkaaV
namespace Go.Proofs.Ytpooehcjchkbkaa
/-- The row. -/
theorem alertNil_holds : Rows.AlertNilSaid := Go.Proofs.YtpooehcjchkbkaaV.over11
end Go.Proofs.Ytpooehcjchkbkaa
