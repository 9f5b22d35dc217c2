/- AlertRefuses: for every input the call returns true, and each argument reads behind the call as it read before. No conditions. -/
import Derived.Test.YtpooehcjchkbkaaRows
import Derived.Test.YtpooehcjchkbkaaWe10
import Derived.Test.YtpooehcjchkbkaaWcOK
set_option linter.unusedVariables false
set_option linter.unusedSimpArgs false
namespace Go.Proofs.YtpooehcjchkbkaaV
open Go.RowKit Go.Proofs.Ytpooehcjchkbkaa
theorem law10_good : ∀ ds, DsOk TT 4 [64, 3, 65] ds → Good Try.prog 10 (ds.map AV.d) [] (.d (.bool true)) []
  | [], h => h.elim
  | [_], h => h.2.elim
  | [_, _], h => h.2.2.elim
  | _ :: _ :: _ :: _ :: _, h => h.2.2.2.elim
  | [d1, d2, d3], ⟨h1, h2, h3, _⟩ => by
    obtain ⟨rs, hrs⟩ := valRuls h1
    obtain ⟨n, rfl, hn⟩ := valInt T3 h2
    obtain ⟨l, hl⟩ := valSmps h3
    exact run_good CC_ok (law10_run d1 rs hrs n d3 l hl)
set_option maxRecDepth 100000 in
theorem lifted10 (os : Os) (started : os.Started) (H : Type) (enc : TypeId × Value → H) :
    ReturnsInHanded {} Try.checked os 10 .any (Rows.alertRefusesSpec.pre6 enc Try.prog Try.f10 Rows.alertRefusesRow.domain false) (Rows.alertRefusesSpec.post enc Try.prog Try.f10 false true false false) := by
  refine returnsInHanded_of_change_sized (C := Try.checked) own started (by kernel_rfl) Try.func10
    (ChangeSpec.witness6 (enc := enc) (C := Try.checked) false ⟨#[], #[.slice none 0 0, .int .i64 0, .slice none 0 0], []⟩ 8 (by kernel_rfl) (by kernel_rfl) (by kernel_rfl) (by kernel_rfl)) ?_
  intro W base args ds gs before hval0 hW hcnd hsz0 _
  exact law_contract (T := TT) (n := 4) (ts := [64, 3, 65]) (rt := 4) TT_ok (by kernel_rfl) (by kernel_rfl) laidOut (by kernel_rfl) (by kernel_rfl) ((TT_ok.ok T4).bool rfl) rfl (fun ds hds => by
    match ds, hds with
    | [_, _, _], _ => rfl) law10_good W base args ds gs before hval0 hW hsz0
set_option maxRecDepth 100000 in
theorem over10 : Rows.alertRefusesRow.holds Try.pinned (OpenSpec.ofChange Rows.alertRefusesSpec) :=
  OpenClaim.holds_of_wide 10 Try.f10 rfl rfl rfl rfl rfl rfl rfl ⟨rfl, rfl, rfl, rfl, rfl⟩ rfl rfl rfl rfl rfl (by kernel_rfl) Try.func10 (by kernel_rfl)
    (of_decide_eq_true (by kernel_rfl)) (by unfold Func.isWrapper; first | (rw [if_pos (by decide +kernel)]; kernel_rfl) | (rw [if_neg (by decide +kernel)]; exact ⟨rfl, rfl⟩))
    (fun os started H enc _ => lifted10 os started H enc)
end Go.Proofs.YtpooehcjchkbkaaV
namespace Go.Proofs.Ytpooehcjchkbkaa
/-- The row. -/
theorem alertRefuses_holds : Rows.AlertRefusesSaid := Go.Proofs.YtpooehcjchkbkaaV.over10
end Go.Proofs.Ytpooehcjchkbkaa
