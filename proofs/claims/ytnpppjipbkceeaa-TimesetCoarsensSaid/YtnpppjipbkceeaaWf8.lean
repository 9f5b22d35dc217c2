/- TimesetCoarsens: for every input the call returns true, and each argument reads behind the call as it read before. No conditions. -/
import Derived.Test.YtnpppjipbkceeaaRows
import Derived.Test.YtnpppjipbkceeaaWcOK
import Derived.Test.YtnpppjipbkceeaaWe8
set_option linter.unusedVariables false
set_option linter.unusedSimpArgs false
namespace Go.Proofs.YtnpppjipbkceeaaV
open Go.RowKit Go.Proofs.Ytnpppjipbkceeaa
theorem cell_int {n : Nat} {ds : List D} (h : CellOk TT (n + 1) 3 ds) : ∃ m, ds = [.int .i64 m] := by
  simp [CellOk, T3] at h
  obtain ⟨m, rfl, _⟩ := h
  exact ⟨m, rfl⟩
theorem arr_of {n : Nat} {d : D} (h : ValOk TT (n + 3) 44 d) : ∃ a b c : Int, d = .agg [.int .i64 a, .int .i64 b, .int .i64 c] := by
  obtain ⟨i, cs, hi, rfl, hlen, hc⟩ := h
  rw [T44] at hi
  injection hi with hi; subst hi
  simp only [CellOk, T44] at hc
  obtain ⟨h1, ie, h2, h3⟩ := hc
  rw [T3] at h2
  injection h2 with h2; subst h2
  match cs, h1 with
  | [x, y, z], _ =>
    obtain ⟨a, ha⟩ := cell_int (n := n + 1) (h3 0 (by omega))
    obtain ⟨b, hb⟩ := cell_int (n := n + 1) (h3 1 (by omega))
    obtain ⟨c, hc⟩ := cell_int (n := n + 1) (h3 2 (by omega))
    simp at ha hb hc
    exact ⟨a, b, c, by rw [ha, hb, hc]; rfl⟩
theorem law8_good : ∀ ds, DsOk TT 6 [22, 22, 44] ds → Good Try.prog 8 (ds.map AV.d) [] (.d (.bool true)) []
  | [], h => h.elim
  | [_], h => h.2.elim
  | [_, _], h => h.2.2.elim
  | _ :: _ :: _ :: _ :: _, h => h.2.2.2.elim
  | [d1, d2, d3], ⟨h1, h2, h3, _⟩ => by
    obtain ⟨l, hl, hn, hok⟩ := sps_of h1
    obtain ⟨m, hl2, hn2, hok2⟩ := sps_of h2
    obtain ⟨a, b, c, rfl⟩ := arr_of h3
    exact run_good CC_ok (law8_run d1 d2 l m a b c hn hn2 hl hl2 hok hok2)
set_option maxRecDepth 100000 in
theorem lifted8 (os : Os) (started : os.Started) (H : Type) (enc : TypeId × Value → H) :
    ReturnsInHanded {} Try.checked os 8 .any (Rows.timesetCoarsensSpec.pre6 enc Try.prog Try.f8 Rows.timesetCoarsensRow.domain false) (Rows.timesetCoarsensSpec.post enc Try.prog Try.f8 false true false false) := by
  refine returnsInHanded_of_change_sized (C := Try.checked) own started (by kernel_rfl) Try.func8
    (ChangeSpec.witness6 (enc := enc) (C := Try.checked) false ⟨#[], #[.slice none 0 0, .slice none 0 0, .agg #[.int .i64 0, .int .i64 0, .int .i64 0]], []⟩ 8 (by kernel_rfl) (by kernel_rfl) (by kernel_rfl) (by kernel_rfl)) ?_
  intro W base args ds gs before hval0 hW hcnd hsz0 _
  exact law_contract (T := TT) (n := 6) (ts := [22, 22, 44]) (rt := 4) TT_ok (by kernel_rfl) (by kernel_rfl) laidOut (by kernel_rfl) (by kernel_rfl) ((TT_ok.ok T4).bool rfl) rfl (fun ds hds => by
    match ds, hds with
    | [_, _, _], _ => rfl) law8_good W base args ds gs before hval0 hW hsz0
set_option maxRecDepth 100000 in
theorem over8 : Rows.timesetCoarsensRow.holds Try.pinned (OpenSpec.ofChange Rows.timesetCoarsensSpec) :=
  OpenClaim.holds_of_wide 8 Try.f8 rfl rfl rfl rfl rfl rfl rfl ⟨rfl, rfl, rfl, rfl, rfl⟩ rfl rfl rfl rfl rfl (by kernel_rfl) Try.func8 (by kernel_rfl)
    (of_decide_eq_true (by kernel_rfl)) (by unfold Func.isWrapper; first | (rw [if_pos (by decide +kernel)]; kernel_rfl) | (rw [if_neg (by decide +kernel)]; exact ⟨rfl, rfl⟩))
    (fun os started H enc _ => lifted8 os started H enc)
end Go.Proofs.YtnpppjipbkceeaaV
namespace Go.Proofs.Ytnpppjipbkceeaa
/-- The row. -/
theorem timesetCoarsens_holds : Rows.TimesetCoarsensSaid := Go.Proofs.YtnpppjipbkceeaaV.over8
end Go.Proofs.Ytnpppjipbkceeaa
