/- AlertEpisodes: for every input the call returns true, and each argument reads behind the call as it read before. No conditions. -/
import Derived.Test.YtpooehcjchkbkaaRows
import Derived.Test.YtpooehcjchkbkaaWcOK
import Derived.Test.YtpooehcjchkbkaaWe7
set_option linter.unusedVariables false
set_option linter.unusedSimpArgs false
namespace Go.Proofs.YtpooehcjchkbkaaV
open Go.RowKit Go.Proofs.Ytpooehcjchkbkaa
theorem pair_of {n : Nat} {cs : List D} (h : CellOk TT (n + 2) 59 cs) : ∃ p : Int × Int, D.agg cs = encP p ∧ (isU8 p.1 ∧ isU8 p.2) := by
  rw [CellOk, T59] at h
  simp only at h
  obtain ⟨h1, ie, hie, h2⟩ := h
  rw [T5] at hie; injection hie with hie; subst hie
  match cs, h1 with
  | [a, b], _ =>
    have q0 := h2 0 (by omega)
    have q1 := h2 1 (by omega)
    simp [CellOk, T5] at q0 q1
    obtain ⟨x0, rfl, w0⟩ := q0
    obtain ⟨x1, rfl, w1⟩ := q1
    exact ⟨(x0, x1), rfl, wf_u8 w0, wf_u8 w1⟩
theorem valLoa {n : Nat} {d : D} (h : ValOk TT (n + 4) 52 d) : ∃ y : Loa, d = y.enc ∧ y.ok := by
  obtain ⟨i, cs, hi, rfl, hl, h⟩ := h
  rw [T52] at hi; injection hi with hi; subst hi
  rw [CellOk, T52] at h
  simp only at h
  obtain ⟨h1, h2⟩ := h
  match cs, h1 with
  | [a, b], _ =>
    have q0 := h2 (0, 5, 1) (by simp)
    have q1 := h2 (1, 50, 1) (by simp)
    obtain ⟨dd, l, e1, e2, e3, e4, e5⟩ := cellList T50 T59 encP (fun p => isU8 p.1 ∧ isU8 p.2) (fun cs _ h => pair_of h) q1
    simp at e1
    subst e1
    simp [CellOk, T5] at q0
    obtain ⟨x0, rfl, w0⟩ := q0
    exact ⟨⟨x0, b, l⟩, rfl, ⟨wf_u8 w0, e2, by show l.length < 4611686018427387904; simp only at e3; omega, e5⟩⟩
theorem law7_good : ∀ ds, DsOk TT 4 [25, 52, 5] ds → Good Try.prog 7 (ds.map AV.d) [] (.d (.bool true)) []
  | [], h => h.elim
  | [_], h => h.2.elim
  | [_, _], h => h.2.2.elim
  | _ :: _ :: _ :: _ :: _, h => h.2.2.2.elim
  | [d1, d2, d3], ⟨h1, h2, h3, _⟩ => by
    obtain ⟨x, rfl, hx⟩ := valLim h1
    obtain ⟨y, rfl, hy⟩ := valLoa h2
    obtain ⟨b, rfl, hb⟩ := valInt T5 h3
    exact run_good CC_ok (law7_run x hx y hy b (wf_u8 hb))
set_option maxRecDepth 100000 in
theorem lifted7 (os : Os) (started : os.Started) (H : Type) (enc : TypeId × Value → H) :
    ReturnsInHanded {} Try.checked os 7 .any (Rows.alertEpisodesSpec.pre6 enc Try.prog Try.f7 Rows.alertEpisodesRow.domain false) (Rows.alertEpisodesSpec.post enc Try.prog Try.f7 false true false false) := by
  refine returnsInHanded_of_change_sized (C := Try.checked) own started (by kernel_rfl) Try.func7
    (ChangeSpec.witness6 (enc := enc) (C := Try.checked) false ⟨#[], #[.agg #[.int .u8 0, .int .u8 0, .int .u8 0, .int .u8 0, .int .u8 0], .agg #[.int .u8 0, .slice none 0 0], .int .u8 0], []⟩ 8 (by kernel_rfl) (by kernel_rfl) (by kernel_rfl) (by kernel_rfl)) ?_
  intro W base args ds gs before hval0 hW hcnd hsz0 _
  exact law_contract (T := TT) (n := 4) (ts := [25, 52, 5]) (rt := 4) TT_ok (by kernel_rfl) (by kernel_rfl) laidOut (by kernel_rfl) (by kernel_rfl) ((TT_ok.ok T4).bool rfl) rfl (fun ds hds => by
    match ds, hds with
    | [_, _, _], _ => rfl) law7_good W base args ds gs before hval0 hW hsz0
set_option maxRecDepth 100000 in
theorem over7 : Rows.alertEpisodesRow.holds Try.pinned (OpenSpec.ofChange Rows.alertEpisodesSpec) :=
  OpenClaim.holds_of_wide 7 Try.f7 rfl rfl rfl rfl rfl rfl rfl ⟨rfl, rfl, rfl, rfl, rfl⟩ rfl rfl rfl rfl rfl (by kernel_rfl) Try.func7 (by kernel_rfl)
    (of_decide_eq_true (by kernel_rfl)) (by unfold Func.isWrapper; first | (rw [if_pos (by decide +kernel)]; kernel_rfl) | (rw [if_neg (by decide +kernel)]; exact ⟨rfl, rfl⟩))
    (fun os started H enc _ => lifted7 os started H enc)
end Go.Proofs.YtpooehcjchkbkaaV
namespace Go.Proofs.Ytpooehcjchkbkaa
/-- The row. -/
theorem alertEpisodes_holds : Rows.AlertEpisodesSaid := Go.Proofs.YtpooehcjchkbkaaV.over7
end Go.Proofs.Ytpooehcjchkbkaa
