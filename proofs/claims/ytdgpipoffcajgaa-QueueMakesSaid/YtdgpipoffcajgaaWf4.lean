/- QueueMakes: for every input the call returns true, and each argument reads behind the call as it read before. No conditions. -/
import Derived.Test.YtdgpipoffcajgaaRows
import Derived.Test.YtdgpipoffcajgaaWcOK
import Derived.Test.YtdgpipoffcajgaaQb4
set_option linter.unusedVariables false
set_option linter.unusedSimpArgs false
namespace Go.Proofs.YtdgpipoffcajgaaV
open Go.RowKit Go.Proofs.Ytdgpipoffcajgaa
theorem law4_good : ∀ ds, DsOk TT 10 [46] ds → Good Try.prog 4 (ds.map AV.d) [] (.d (.bool true)) []
  | [], h => h.elim
  | _ :: _ :: _, h => h.2.elim
  | [d1], ⟨h1, _⟩ => by
    obtain ⟨a, b, c, rfl, _⟩ := lim_of h1
    exact run_good CC_ok (law4_run a b c)
set_option maxRecDepth 100000 in
theorem lifted4 (os : Os) (started : os.Started) (H : Type) (enc : TypeId × Value → H) :
    ReturnsInHanded {} Try.checked os 4 .any (Rows.queueMakesSpec.pre6 enc Try.prog Try.f4 Rows.queueMakesRow.domain false) (Rows.queueMakesSpec.post enc Try.prog Try.f4 false true false false) := by
  refine returnsInHanded_of_change_sized (C := Try.checked) own started (by kernel_rfl) Try.func4
    (ChangeSpec.witness6 (enc := enc) (C := Try.checked) false ⟨#[], #[.agg #[.int .i64 0, .int .i64 0, .int .i64 0]], []⟩ 8 (by kernel_rfl) (by kernel_rfl) (by kernel_rfl) (by kernel_rfl)) ?_
  intro W base args ds gs before hval0 hW hcnd hsz0 _
  exact law_contract (T := TT) (n := 10) (ts := [46]) (rt := 4) TT_ok (by kernel_rfl) (by kernel_rfl) laidOut (by kernel_rfl) (by kernel_rfl) ((TT_ok.ok T4).bool rfl) rfl (fun ds hds => by
    match ds, hds with
    | [_], _ => rfl) law4_good W base args ds gs before hval0 hW hsz0
set_option maxRecDepth 100000 in
theorem over4 : Rows.queueMakesRow.holds Try.pinned (OpenSpec.ofChange Rows.queueMakesSpec) :=
  OpenClaim.holds_of_wide 4 Try.f4 rfl rfl rfl rfl rfl rfl rfl ⟨rfl, rfl, rfl, rfl, rfl⟩ rfl rfl rfl rfl rfl (by kernel_rfl) Try.func4 (by kernel_rfl)
    (of_decide_eq_true (by kernel_rfl)) (by unfold Func.isWrapper; first | (rw [if_pos (by decide +kernel)]; kernel_rfl) | (rw [if_neg (by decide +kernel)]; exact ⟨rfl, rfl⟩))
    (fun os started H enc _ => lifted4 os started H enc)
end Go.Proofs.YtdgpipoffcajgaaV
namespace Go.Proofs.Ytdgpipoffcajgaa
/-- The row. -/
theorem queueMakes_holds : Rows.QueueMakesSaid := Go.Proofs.YtdgpipoffcajgaaV.over4
end Go.Proofs.Ytdgpipoffcajgaa
