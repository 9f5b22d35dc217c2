/- TimesetHulls: for every input the call returns true, and each argument reads behind the call as it read before. No conditions. -/
import Derived.Test.YtnpppjipbkceeaaRows
import Derived.Test.YtnpppjipbkceeaaWcOK
import Derived.Test.YtnpppjipbkceeaaWe5
set_option linter.unusedVariables false
set_option linter.unusedSimpArgs false
namespace Go.Proofs.YtnpppjipbkceeaaV
open Go.RowKit Go.Proofs.Ytnpppjipbkceeaa
theorem law5_good : ∀ ds, DsOk TT 6 [22] ds → Good Try.prog 5 (ds.map AV.d) [] (.d (.bool true)) []
  | [], h => h.elim
  | _ :: _ :: _, h => h.2.elim
  | [d1], ⟨h1, _⟩ => by
    obtain ⟨l, hl, hn, hok⟩ := sps_of h1
    exact run_good CC_ok (law5_run d1 l hn hl hok)
set_option maxRecDepth 100000 in
theorem lifted5 (os : Os) (started : os.Started) (H : Type) (enc : TypeId × Value → H) :
    ReturnsInHanded {} Try.checked os 5 .any (Rows.timesetHullsSpec.pre6 enc Try.prog Try.f5 Rows.timesetHullsRow.domain false) (Rows.timesetHullsSpec.post enc Try.prog Try.f5 false true false false) := by
  refine returnsInHanded_of_change_sized (C := Try.checked) own started (by kernel_rfl) Try.func5
    (ChangeSpec.witness6 (enc := enc) (C := Try.checked) false ⟨#[], #[.slice none 0 0], []⟩ 8 (by kernel_rfl) (by kernel_rfl) (by kernel_rfl) (by kernel_rfl)) ?_
  intro W base args ds gs before hval0 hW hcnd hsz0 _
  exact law_contract (T := TT) (n := 6) (ts := [22]) (rt := 4) TT_ok (by kernel_rfl) (by kernel_rfl) laidOut (by kernel_rfl) (by kernel_rfl) ((TT_ok.ok T4).bool rfl) rfl (fun ds hds => by
    match ds, hds with
    | [_], _ => rfl) law5_good W base args ds gs before hval0 hW hsz0
set_option maxRecDepth 100000 in
theorem over5 : Rows.timesetHullsRow.holds Try.pinned (OpenSpec.ofChange Rows.timesetHullsSpec) :=
  OpenClaim.holds_of_wide 5 Try.f5 rfl rfl rfl rfl rfl rfl rfl ⟨rfl, rfl, rfl, rfl, rfl⟩ rfl rfl rfl rfl rfl (by kernel_rfl) Try.func5 (by kernel_rfl)
    (of_decide_eq_true (by kernel_rfl)) (by unfold Func.isWrapper; first | (rw [if_pos (by decide +kernel)]; kernel_rfl) | (rw [if_neg (by decide +kernel)]; exact ⟨rfl, rfl⟩))
    (fun os started H enc _ => lifted5 os started H enc)
end Go.Proofs.YtnpppjipbkceeaaV
namespace Go.Proofs.Ytnpppjipbkceeaa
/-- The row. -/
theorem timesetHulls_holds : Rows.TimesetHullsSaid := Go.Proofs.YtnpppjipbkceeaaV.over5
end Go.Proofs.Ytnpppjipbkceeaa
