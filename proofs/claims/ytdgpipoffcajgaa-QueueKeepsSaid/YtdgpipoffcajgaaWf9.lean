/- QueueKeeps: for every input the call returns true, and each argument reads behind the call as it read before. No conditions. -/
import Derived.Test.YtdgpipoffcajgaaRows
import Derived.Test.YtdgpipoffcajgaaQk5
import Derived.Test.YtdgpipoffcajgaaWcOK
set_option linter.unusedVariables false
set_option linter.unusedSimpArgs false
namespace Go.Proofs.YtdgpipoffcajgaaV
open Go.RowKit Go.Proofs.Ytdgpipoffcajgaa
theorem law9_good : ∀ ds, DsOk TT 10 [32, 54] ds → Good Try.prog 9 (ds.map AV.d) [] (.d (.bool true)) []
  | [], h => h.elim
  | [_], h => h.2.elim
  | _ :: _ :: _ :: _, h => h.2.2.elim
  | [d1, d2], ⟨h1, h2, _⟩ => by
    obtain ⟨a, b, c, rfl⟩ := size_of h1
    obtain ⟨l, hl⟩ := opsE_of h2
    exact run_good CC_ok (law9_run a b c d2 l hl)
set_option maxRecDepth 100000 in
theorem lifted9 (os : Os) (started : os.Started) (H : Type) (enc : TypeId × Value → H) :
    ReturnsInHanded {} Try.checked os 9 .any (Rows.queueKeepsSpec.pre6 enc Try.prog Try.f9 Rows.queueKeepsRow.domain false) (Rows.queueKeepsSpec.post enc Try.prog Try.f9 false true false false) := by
  refine returnsInHanded_of_change_sized (C := Try.checked) own0 started (by kernel_rfl) Try.func9
    (ChangeSpec.witness6 (enc := enc) (C := Try.checked) false ⟨#[], #[.agg #[.int .u8 0, .int .u8 0, .int .u8 0], .slice none 0 0], []⟩ 8 (by kernel_rfl) (by kernel_rfl) (by kernel_rfl) (by kernel_rfl)) ?_
  intro W base args ds gs before hval0 hW hcnd hsz0 _
  exact law_contract (T := TT) (n := 10) (ts := [32, 54]) (rt := 4) TT_ok (by kernel_rfl) (by kernel_rfl) laidOut (by kernel_rfl) (by kernel_rfl) ((TT_ok.ok T4).bool rfl) rfl (fun ds hds => by
    match ds, hds with
    | [_, _], _ => rfl) law9_good W base args ds gs before hval0 hW hsz0
set_option maxRecDepth 100000 in
theorem over9 : Rows.queueKeepsRow.holds Try.pinned (OpenSpec.ofChange Rows.queueKeepsSpec) :=
  OpenClaim.holds_of_wide 9 Try.f9 rfl rfl rfl rfl rfl rfl rfl ⟨rfl, rfl, rfl, rfl, rfl⟩ rfl rfl rfl rfl rfl (by kernel_rfl) Try.func9 (by kernel_rfl)
    (of_decide_eq_true (by kernel_rfl)) (by unfold Func.isWrapper; first | (rw [if_pos (by decide +kernel)]; kernel_rfl) | (rw [if_neg (by decide +kernel)]; exact ⟨rfl, rfl⟩))
    (fun os started H enc _ => lifted9 os started H enc)
end Go.Proofs.YtdgpipoffcajgaaV
namespace Go.Proofs.Ytdgpipoffcajgaa
/-- The row. -/
theorem queueKeeps_holds : Rows.QueueKeepsSaid := Go.Proofs.YtdgpipoffcajgaaV.over9
end Go.Proofs.Ytdgpipoffcajgaa
