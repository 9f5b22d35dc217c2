/- TimesetAlgebra: for every input the call returns true, and each argument reads behind the call as it read before. No conditions. -/
import Derived.Test.YtnpppjipbkceeaaRows
import Derived.Test.YtnpppjipbkceeaaWcOK
import Derived.Test.YtnpppjipbkceeaaWe4
set_option linter.unusedVariables false
set_option linter.unusedSimpArgs false
namespace Go.Proofs.YtnpppjipbkceeaaV
open Go.RowKit Go.Proofs.Ytnpppjipbkceeaa
theorem law4_good : ∀ ds, DsOk TT 6 [22, 22, 22] ds → Good Try.prog 4 (ds.map AV.d) [] (.d (.bool true)) []
  | [], h => h.elim
  | [_], h => h.2.elim
  | [_, _], h => h.2.2.elim
  | _ :: _ :: _ :: _ :: _, h => h.2.2.2.elim
  | [d1, d2, d3], ⟨h1, h2, h3, _⟩ => by
    obtain ⟨l, hl, hn, hok⟩ := sps_of h1
    obtain ⟨m, hl2, hn2, hok2⟩ := sps_of h2
    obtain ⟨n, hl3, hn3, hok3⟩ := sps_of h3
    exact run_good CC_ok (law4_run d1 d2 d3 l m n hn hn2 hn3 hl hl2 hl3 hok hok2 hok3)
set_option maxRecDepth 100000 in
theorem lifted4 (os : Os) (started : os.Started) (H : Type) (enc : TypeId × Value → H) :
    ReturnsInHanded {} Try.checked os 4 .any (Rows.timesetAlgebraSpec.pre6 enc Try.prog Try.f4 Rows.timesetAlgebraRow.domain false) (Rows.timesetAlgebraSpec.post enc Try.prog Try.f4 false true false false) := by
  refine returnsInHanded_of_change_sized (C := Try.checked) own started (by kernel_rfl) Try.func4
    (ChangeSpec.witness6 (enc := enc) (C := Try.checked) false ⟨#[], #[.slice none 0 0, .slice none 0 0, .slice none 0 0], []⟩ 8 (by kernel_rfl) (by kernel_rfl) (by kernel_rfl) (by kernel_rfl)) ?_
  intro W base args ds gs before hval0 hW hcnd hsz0 _
  exact law_contract (T := TT) (n := 6) (ts := [22, 22, 22]) (rt := 4) TT_ok (by kernel_rfl) (by kernel_rfl) laidOut (by kernel_rfl) (by kernel_rfl) ((TT_ok.ok T4).bool rfl) rfl (fun ds hds => by
    match ds, hds with
    | [_, _, _], _ => rfl) law4_good W base args ds gs before hval0 hW hsz0
set_option maxRecDepth 100000 in
theorem over4 : Rows.timesetAlgebraRow.holds Try.pinned (OpenSpec.ofChange Rows.timesetAlgebraSpec) :=
  OpenClaim.holds_of_wide 4 Try.f4 rfl rfl rfl rfl rfl rfl rfl ⟨rfl, rfl, rfl, rfl, rfl⟩ rfl rfl rfl rfl rfl (by kernel_rfl) Try.func4 (by kernel_rfl)
    (of_decide_eq_true (by kernel_rfl)) (by unfold Func.isWrapper; first | (rw [if_pos (by decide +kernel)]; kernel_rfl) | (rw [if_neg (by decide +kernel)]; exact ⟨rfl, rfl⟩))
    (fun os started H enc _ => lifted4 os started H enc)
end Go.Proofs.YtnpppjipbkceeaaV
namespace Go.Proofs.Ytnpppjipbkceeaa
/-- The row. -/
theorem timesetAlgebra_holds : Rows.TimesetAlgebraSaid := Go.Proofs.YtnpppjipbkceeaaV.over4
end Go.Proofs.Ytnpppjipbkceeaa
