/- HeavyhitterMerges: for every input the call returns true, and each argument reads behind the call as it read before. No conditions. -/
import Derived.Test.YtdhbecdlablonaaRows
import Derived.Test.YtdhbecdlablonaaWe12
import Derived.Test.YtdhbecdlablonaaWcOK
set_option linter.unusedVariables false
set_option linter.unusedSimpArgs false
namespace Go.Proofs.YtdhbecdlablonaaV
open Go.RowKit Go.Proofs.Ytdhbecdlablonaa
theorem law12_good : ∀ ds, DsOk TT 4 [47, 36, 36] ds → Good Try.prog 12 (ds.map AV.d) [] (.d (.bool true)) []
  | [], h => h.elim
  | [_], h => h.2.elim
  | [_, _], h => h.2.2.elim
  | _ :: _ :: _ :: _ :: _, h => h.2.2.2.elim
  | [d1, d2, d3], ⟨h1, h2, h3, _⟩ => by
    obtain ⟨a, b, rfl, ha, hb⟩ := valU82 h1
    obtain ⟨l, hl, hok, _⟩ := valIts h2
    obtain ⟨m, hm, hok2, _⟩ := valIts h3
    exact run_good CC_ok (law12_run a b ha hb d2 d3 l m hok hok2 hl hm)
set_option maxRecDepth 100000 in
theorem lifted12 (os : Os) (started : os.Started) (H : Type) (enc : TypeId × Value → H) :
    ReturnsInHanded {} Try.checked os 12 .any (Rows.heavyhitterMergesSpec.pre6 enc Try.prog Try.f12 Rows.heavyhitterMergesRow.domain false) (Rows.heavyhitterMergesSpec.post enc Try.prog Try.f12 false true false false) := by
  refine returnsInHanded_of_change_sized (C := Try.checked) own started (by kernel_rfl) Try.func12
    (ChangeSpec.witness6 (enc := enc) (C := Try.checked) false ⟨#[], #[.agg #[.int .u8 0, .int .u8 0], .slice none 0 0, .slice none 0 0], []⟩ 8 (by kernel_rfl) (by kernel_rfl) (by kernel_rfl) (by kernel_rfl)) ?_
  intro W base args ds gs before hval0 hW hcnd hsz0 _
  exact law_contract (T := TT) (n := 4) (ts := [47, 36, 36]) (rt := 4) TT_ok (by kernel_rfl) (by kernel_rfl) laidOut (by kernel_rfl) (by kernel_rfl) ((TT_ok.ok T4).bool rfl) rfl (fun ds hds => by
    match ds, hds with
    | [_, _, _], _ => rfl) law12_good W base args ds gs before hval0 hW hsz0
set_option maxRecDepth 100000 in
theorem over12 : Rows.heavyhitterMergesRow.holds Try.pinned (OpenSpec.ofChange Rows.heavyhitterMergesSpec) :=
  OpenClaim.holds_of_wide 12 Try.f12 rfl rfl rfl rfl rfl rfl rfl ⟨rfl, rfl, rfl, rfl, rfl⟩ rfl rfl rfl rfl rfl (by kernel_rfl) Try.func12 (by kernel_rfl)
    (of_decide_eq_true (by kernel_rfl)) (by unfold Func.isWrapper; first | (rw [if_pos (by decide +kernel)]; kernel_rfl) | (rw [if_neg (by decide +kernel)]; exact ⟨rfl, rfl⟩))
    (fun os started H enc _ => lifted12 os started H enc)
end Go.Proofs.YtdhbecdlablonaaV
namespace Go.Proofs.Ytdhbecdlablonaa
/-- The row. -/
theorem heavyhitterMerges_holds : Rows.HeavyhitterMergesSaid := Go.Proofs.YtdhbecdlablonaaV.over12
end Go.Proofs.Ytdhbecdlablonaa
