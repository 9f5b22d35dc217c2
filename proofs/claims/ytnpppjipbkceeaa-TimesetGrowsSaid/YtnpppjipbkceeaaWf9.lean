/- TimesetGrows: for every input the call returns true, and each argument reads behind the call as it read before. No conditions. -/
import Derived.Test.YtnpppjipbkceeaaRows
import Derived.Test.YtnpppjipbkceeaaWcOK
import Derived.Test.YtnpppjipbkceeaaWe9
set_option linter.unusedVariables false
set_option linter.unusedSimpArgs false
namespace Go.Proofs.YtnpppjipbkceeaaV
open Go.RowKit Go.Proofs.Ytnpppjipbkceeaa
theorem law9_good : ∀ ds, DsOk TT 6 [22, 3, 3] ds → Good Try.prog 9 (ds.map AV.d) [] (.d (.bool true)) []
  | [], h => h.elim
  | [_], h => h.2.elim
  | [_, _], h => h.2.2.elim
  | _ :: _ :: _ :: _ :: _, h => h.2.2.2.elim
  | [d1, d2, d3], ⟨h1, h2, h3, _⟩ => by
    obtain ⟨l, hl, hn, hok⟩ := sps_of h1
    obtain ⟨x, rfl, h0⟩ := valInt T3 h2
    obtain ⟨y, rfl, h0⟩ := valInt T3 h3
    exact run_good CC_ok (law9_run d1 l x y hn hl hok)
set_option maxRecDepth 100000 in
theorem lifted9 (os : Os) (started : os.Started) (H : Type) (enc : TypeId × Value → H) :
    ReturnsInHanded {} Try.checked os 9 .any (Rows.timesetGrowsSpec.pre6 enc Try.prog Try.f9 Rows.timesetGrowsRow.domain false) (Rows.timesetGrowsSpec.post enc Try.prog Try.f9 false true false false) := by
  refine returnsInHanded_of_change_sized (C := Try.checked) own started (by kernel_rfl) Try.func9
    (ChangeSpec.witness6 (enc := enc) (C := Try.checked) false ⟨#[], #[.slice none 0 0, .int .i64 0, .int .i64 0], []⟩ 8 (by kernel_rfl) (by kernel_rfl) (by kernel_rfl) (by kernel_rfl)) ?_
  intro W base args ds gs before hval0 hW hcnd hsz0 _
  exact law_contract (T := TT) (n := 6) (ts := [22, 3, 3]) (rt := 4) TT_ok (by kernel_rfl) (by kernel_rfl) laidOut (by kernel_rfl) (by kernel_rfl) ((TT_ok.ok T4).bool rfl) rfl (fun ds hds => by
    match ds, hds with
    | [_, _, _], _ => rfl) law9_good W base args ds gs before hval0 hW hsz0
set_option maxRecDepth 100000 in
theorem over9 : Rows.timesetGrowsRow.holds Try.pinned (OpenSpec.ofChange Rows.timesetGrowsSpec) :=
  OpenClaim.holds_of_wide 9 Try.f9 rfl rfl rfl rfl rfl rfl rfl ⟨rfl, rfl, rfl, rfl, rfl⟩ rfl rfl rfl rfl rfl (by kernel_rfl) Try.func9 (by kernel_rfl)
    (of_decide_eq_true (by kernel_rfl)) (by unfold Func.isWrapper; first | (rw [if_pos (by decide +kernel)]; kernel_rfl) | (rw [if_neg (by decide +kernel)]; exact ⟨rfl, rfl⟩))
    (fun os started H enc _ => lifted9 os started H enc)
end Go.Proofs.YtnpppjipbkceeaaV
namespace Go.Proofs.Ytnpppjipbkceeaa
/-- The row. -/
theorem timesetGrows_holds : Rows.TimesetGrowsSaid := Go.Proofs.YtnpppjipbkceeaaV.over9
end Go.Proofs.Ytnpppjipbkceeaa
