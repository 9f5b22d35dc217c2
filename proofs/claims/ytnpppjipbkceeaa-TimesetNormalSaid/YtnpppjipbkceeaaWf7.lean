/- TimesetNormal: for every input the call returns true, and each argument reads behind the call as it read before. No conditions. -/
import Derived.Test.YtnpppjipbkceeaaRows
import Derived.Test.YtnpppjipbkceeaaWcOK
import Derived.Test.YtnpppjipbkceeaaWe7
set_option linter.unusedVariables false
set_option linter.unusedSimpArgs false
namespace Go.Proofs.YtnpppjipbkceeaaV
open Go.RowKit Go.Proofs.Ytnpppjipbkceeaa
theorem iv_of {n : Nat} {ie : TyI} (hie : TT.get 33 = some ie) {cs : List D} (hl : cs.length = ie.size) (h : CellOk TT (n + 2) 33 cs) : ∃ x : Iv, mkD ie cs = iD x ∧ True := by
  rw [T33] at hie
  injection hie with hie; subst hie
  simp only [CellOk, T33] at h
  obtain ⟨h1, h2⟩ := h
  match cs, h1 with
  | [a, b], _ =>
    simp [T3] at h2
    obtain ⟨⟨x1, rfl, w1⟩, x2, rfl, w2⟩ := h2
    exact ⟨(x1, x2), rfl, trivial⟩
theorem ivs_of {n : Nat} {d : D} (h : ValOk TT (n + 3) 23 d) : ∃ l : List Iv, elsOf (.d d) = some (l.map iD) ∧ l.length < 4611686018427387904 := by
  obtain ⟨l, h1, h2, h3, h4⟩ := valList (n := n + 2) T23 T33 iD (fun _ => True) (fun cs hl hc => iv_of T33 hl hc) h
  exact ⟨l, h1, by simp at h2; omega⟩
theorem law7_good : ∀ ds, DsOk TT 6 [23] ds → Good Try.prog 7 (ds.map AV.d) [] (.d (.bool true)) []
  | [], h => h.elim
  | _ :: _ :: _, h => h.2.elim
  | [d1], ⟨h1, _⟩ => by
    obtain ⟨l, hl, hn⟩ := ivs_of h1
    exact run_good CC_ok (law7_run d1 l hn hl)
set_option maxRecDepth 100000 in
theorem lifted7 (os : Os) (started : os.Started) (H : Type) (enc : TypeId × Value → H) :
    ReturnsInHanded {} Try.checked os 7 .any (Rows.timesetNormalSpec.pre6 enc Try.prog Try.f7 Rows.timesetNormalRow.domain false) (Rows.timesetNormalSpec.post enc Try.prog Try.f7 false true false false) := by
  refine returnsInHanded_of_change_sized (C := Try.checked) own started (by kernel_rfl) Try.func7
    (ChangeSpec.witness6 (enc := enc) (C := Try.checked) false ⟨#[], #[.slice none 0 0], []⟩ 8 (by kernel_rfl) (by kernel_rfl) (by kernel_rfl) (by kernel_rfl)) ?_
  intro W base args ds gs before hval0 hW hcnd hsz0 _
  exact law_contract (T := TT) (n := 6) (ts := [23]) (rt := 4) TT_ok (by kernel_rfl) (by kernel_rfl) laidOut (by kernel_rfl) (by kernel_rfl) ((TT_ok.ok T4).bool rfl) rfl (fun ds hds => by
    match ds, hds with
    | [_], _ => rfl) law7_good W base args ds gs before hval0 hW hsz0
set_option maxRecDepth 100000 in
theorem over7 : Rows.timesetNormalRow.holds Try.pinned (OpenSpec.ofChange Rows.timesetNormalSpec) :=
  OpenClaim.holds_of_wide 7 Try.f7 rfl rfl rfl rfl rfl rfl rfl ⟨rfl, rfl, rfl, rfl, rfl⟩ rfl rfl rfl rfl rfl (by kernel_rfl) Try.func7 (by kernel_rfl)
    (of_decide_eq_true (by kernel_rfl)) (by unfold Func.isWrapper; first | (rw [if_pos (by decide +kernel)]; kernel_rfl) | (rw [if_neg (by decide +kernel)]; exact ⟨rfl, rfl⟩))
    (fun os started H enc _ => lifted7 os started H enc)
end Go.Proofs.YtnpppjipbkceeaaV
namespace Go.Proofs.Ytnpppjipbkceeaa
/-- The row. -/
theorem timesetNormal_holds : Rows.TimesetNormalSaid := Go.Proofs.YtnpppjipbkceeaaV.over7
end Go.Proofs.Ytnpppjipbkceeaa
