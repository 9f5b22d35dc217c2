/- DeploymentWindows: for every input the call returns true, and each argument reads behind the call as it read before. No conditions. -/
import Derived.Test.YteidaaobppjlbaaRows
import Derived.Test.YteidaaobppjlbaaWcOK
import Derived.Test.YteidaaobppjlbaaVC
import Derived.Test.YteidaaobppjlbaaWe9
set_option linter.unusedVariables false
set_option linter.unusedSimpArgs false
namespace Go.Proofs.YteidaaobppjlbaaV
open Go.RowKit Go.Proofs.Yteidaaobppjlbaa
theorem law9_good : ∀ ds, DsOk TT 4 [30, 37, 78] ds → Good Try.prog 9 (ds.map AV.d) [] (.d (.bool true)) []
  | [], h => h.elim
  | [_], h => h.2.elim
  | [_, _], h => h.2.2.elim
  | _ :: _ :: _ :: _ :: _, h => h.2.2.2.elim
  | [d1, d2, d3], ⟨h1, h2, h3, _⟩ => by
    obtain ⟨l, hl, hok⟩ := stps_of h1
    obtain ⟨i, cs, hi, rfl, hlen, hc⟩ := h2
    rw [T37] at hi; injection hi with hi; subst hi
    obtain ⟨j, es, hj, rfl, hlen2, he⟩ := h3
    rw [T78] at hj; injection hj with hj; subst hj
    simp only [CellOk, T37] at hc
    obtain ⟨k1, k2⟩ := hc
    match cs, k1 with
    | [a, b], _ =>
      simp [T3] at k2
      obtain ⟨⟨x1, rfl, _⟩, x2, rfl, _⟩ := k2
      simp only [CellOk, T78] at he
      obtain ⟨m1, ie, hie, m2⟩ := he
      rw [T3] at hie; injection hie with hie; subst hie
      match es, m1 with
      | [c, d], _ =>
        have r1 := m2 0 (by omega)
        have r2 := m2 1 (by omega)
        simp [T3] at r1 r2
        obtain ⟨y1, rfl, _⟩ := r1
        obtain ⟨y2, rfl, _⟩ := r2
        exact run_good CC_ok (law9_run d1 l x1 x2 y1 y2 hok hl)
set_option maxRecDepth 100000 in
theorem lifted9 (os : Os) (started : os.Started) (H : Type) (enc : TypeId × Value → H) :
    ReturnsInHanded {} Try.checked os 9 .any (Rows.deploymentWindowsSpec.pre6 enc Try.prog Try.f9 Rows.deploymentWindowsRow.domain false) (Rows.deploymentWindowsSpec.post enc Try.prog Try.f9 false true false false) := by
  refine returnsInHanded_of_change_sized (C := Try.checked) own started (by kernel_rfl) Try.func9
    (ChangeSpec.witness6 (enc := enc) (C := Try.checked) false ⟨#[], #[.slice none 0 0, .agg #[.int .i64 0, .int .i64 0], .agg #[.int .i64 0, .int .i64 0]], []⟩ 8 (by kernel_rfl) (by kernel_rfl) (by kernel_rfl) (by kernel_rfl)) ?_
  intro W base args ds gs before hval0 hW hcnd hsz0 _
  exact law_contract (T := TT) (n := 4) (ts := [30, 37, 78]) (rt := 4) TT_ok (by kernel_rfl) (by kernel_rfl) laidOut (by kernel_rfl) (by kernel_rfl) ((TT_ok.ok T4).bool rfl) rfl (fun ds hds => by
    match ds, hds with
    | [_, _, _], _ => rfl) law9_good W base args ds gs before hval0 hW hsz0
set_option maxRecDepth 100000 in
theorem over9 : Rows.deploymentWindowsRow.holds Try.pinned (OpenSpec.ofChange Rows.deploymentWindowsSpec) :=
  OpenClaim.holds_of_wide 9 Try.f9 rfl rfl rfl rfl rfl rfl rfl ⟨rfl, rfl, rfl, rfl, rfl⟩ rfl rfl rfl rfl rfl (by kernel_rfl) Try.func9 (by kernel_rfl)
    (of_decide_eq_true (by kernel_rfl)) (by unfold Func.isWrapper; first | (rw [if_pos (by decide +kernel)]; kernel_rfl) | (rw [if_neg (by decide +kernel)]; exact ⟨rfl, rfl⟩))
    (fun os started H enc _ => lifted9 os started H enc)
end Go.Proofs.YteidaaobppjlbaaV
namespace Go.Proofs.Yteidaaobppjlbaa
/-- The row. -/
theorem deploymentWindows_holds : Rows.DeploymentWindowsSaid := Go.Proofs.YteidaaobppjlbaaV.over9
end Go.Proofs.Yteidaaobppjlbaa
