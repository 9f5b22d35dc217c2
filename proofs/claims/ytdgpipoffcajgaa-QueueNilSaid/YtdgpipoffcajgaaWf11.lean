/- QueueNil: for every input the call returns true, and each argument reads behind the call as it read before. No conditions. -/
import Derived.Test.YtdgpipoffcajgaaRows
import Derived.Test.YtdgpipoffcajgaaWcOK
import Derived.Test.YtdgpipoffcajgaaQb11
set_option linter.unusedVariables false
set_option linter.unusedSimpArgs false
namespace Go.Proofs.YtdgpipoffcajgaaV
open Go.RowKit Go.Proofs.Ytdgpipoffcajgaa
theorem law11_good : ∀ ds, DsOk TT 10 [25, 3] ds → Good Try.prog 11 (ds.map AV.d) [] (.d (.bool true)) []
  | [], h => h.elim
  | [_], h => h.2.elim
  | _ :: _ :: _ :: _, h => h.2.2.elim
  | [d1, d2], ⟨h1, h2, _⟩ => by
    obtain ⟨a, s, S, X, ls, lx, rfl, hs, hx⟩ := frag_of h1
    obtain ⟨m, rfl, h0⟩ := valInt T3 h2
    exact run_good CC_ok (law11_run a s m S X ls lx hs hx)
set_option maxRecDepth 100000 in
theorem lifted11 (os : Os) (started : os.Started) (H : Type) (enc : TypeId × Value → H) :
    ReturnsInHanded {} Try.checked os 11 .any (Rows.queueNilSpec.pre6 enc Try.prog Try.f11 Rows.queueNilRow.domain false) (Rows.queueNilSpec.post enc Try.prog Try.f11 false true false false) := by
  refine returnsInHanded_of_change_sized (C := Try.checked) own started (by kernel_rfl) Try.func11
    (ChangeSpec.witness6 (enc := enc) (C := Try.checked) false ⟨#[], #[.agg #[.int .i64 0, .int .i64 0, .slice none 0 0, .slice none 0 0], .int .i64 0], []⟩ 8 (by kernel_rfl) (by kernel_rfl) (by kernel_rfl) (by kernel_rfl)) ?_
  intro W base args ds gs before hval0 hW hcnd hsz0 _
  exact law_contract (T := TT) (n := 10) (ts := [25, 3]) (rt := 4) TT_ok (by kernel_rfl) (by kernel_rfl) laidOut (by kernel_rfl) (by kernel_rfl) ((TT_ok.ok T4).bool rfl) rfl (fun ds hds => by
    match ds, hds with
    | [_, _], _ => rfl) law11_good W base args ds gs before hval0 hW hsz0
set_option maxRecDepth 100000 in
theorem over11 : Rows.queueNilRow.holds Try.pinned (OpenSpec.ofChange Rows.queueNilSpec) :=
  OpenClaim.holds_of_wide 11 Try.f11 rfl rfl rfl rfl rfl rfl rfl ⟨rfl, rfl, rfl, rfl, rfl⟩ rfl rfl rfl rfl rfl (by kernel_rfl) Try.func11 (by kernel_rfl)
    (of_decide_eq_true (by kernel_rfl)) (by unfold Func.isWrapper; first | (rw [if_pos (by decide +kernel)]; kernel_rfl) | (rw [if_neg (by decide +kernel)]; exact ⟨rfl, rfl⟩))
    (fun os started H enc _ => lifted11 os started H enc)
end Go.Proofs.YtdgpipoffcajgaaV
namespace Go.Proofs.Ytdgpipoffcajgaa
/-- The row. -/
theorem queueNil_holds : Rows.QueueNilSaid := Go.Proofs.YtdgpipoffcajgaaV.over11
end Go.Proofs.Ytdgpipoffcajgaa
