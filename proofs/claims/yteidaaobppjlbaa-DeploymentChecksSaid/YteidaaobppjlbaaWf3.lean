/- DeploymentChecks: for every input the call returns true, and each argument reads behind the call as it read before. No conditions. -/
import Derived.Test.YteidaaobppjlbaaRows
import Derived.Test.YteidaaobppjlbaaVx23
import Derived.Test.YteidaaobppjlbaaVx24
import Derived.Test.YteidaaobppjlbaaWe3
set_option linter.unusedVariables false
set_option linter.unusedSimpArgs false
namespace Go.Proofs.YteidaaobppjlbaaV
open Go.RowKit Go.Proofs.Yteidaaobppjlbaa
theorem CC_ok : PgOk Try.prog CC where
  T := TT_ok
  Q := fun t ks h => by
    have h' : QQ t = some ks := h
    unfold QQ at h'
    split at h'
    · injection h' with h'; subst h'; exact eqOk_flat (by kernel_rfl)
    · injection h' with h'; subst h'; exact eqOk_flat (by kernel_rfl)
    · injection h' with h'; subst h'; exact eqOk_flat (by kernel_rfl)
    · cases h'
  A := AA_ok
  X := fun _ _ _ _ _ h => by cases h
  mo := by kernel_rfl
theorem chg_of {n : Nat} {cs : List D} (h : CellOk TT (n + 2) 26 cs) : ∃ c : Chg, cs = [.int .i64 c.id, .int .i64 c.kind, .int .i64 c.slot, .str c.svc, .str c.tgt, .str c.ver] := by
  simp only [CellOk, T26] at h
  obtain ⟨h1, h2⟩ := h
  match cs, h1 with
  | [a, b, c, d, e, f], _ =>
    simp [T3, T9] at h2
    obtain ⟨⟨x1, rfl, _⟩, ⟨x2, rfl, _⟩, ⟨x3, rfl, _⟩, ⟨x4, rfl, _⟩, ⟨x5, rfl, _⟩, ⟨x6, rfl, _⟩⟩ := h2
    exact ⟨⟨x1, x2, x3, x4, x5, x6⟩, rfl⟩
theorem chgs_of {n : Nat} {d : D} (h : ValOk TT (n + 3) 22 d) : ∃ l : List Chg, elsOf (.d d) = some (l.map Chg.enc) := by
  obtain ⟨i, cs, hi, rfl, hl, hc⟩ := h
  rw [T22] at hi
  injection hi with hi; subst hi
  simp only [CellOk, T22] at hc
  rcases hc with rfl | ⟨els, ie, rfl, hie, _, _, h⟩
  · exact ⟨[], rfl⟩
  · rw [T26] at hie
    injection hie with hie; subst hie
    have : ∀ els : List D, (∀ el ∈ els, ∃ c : Chg, el = c.enc) → ∃ l : List Chg, els = l.map Chg.enc := by
      intro els
      induction els with
      | nil => exact fun _ => ⟨[], rfl⟩
      | cons e els ih =>
        intro h
        obtain ⟨c, rfl⟩ := h e (by simp)
        obtain ⟨l, rfl⟩ := ih fun el hel => h el (by simp [hel])
        exact ⟨c :: l, rfl⟩
    obtain ⟨l, rfl⟩ := this els fun el hel => by
      obtain ⟨cs, h1, h2, h3, h4⟩ := h el hel
      obtain ⟨c, rfl⟩ := chg_of h4
      exact ⟨c, h1⟩
    exact ⟨l, rfl⟩
theorem law3_good : ∀ ds, DsOk TT 4 [22, 5] ds → Good Try.prog 3 (ds.map AV.d) [] (.d (.bool true)) []
  | [], h => h.elim
  | [_], h => h.2.elim
  | _ :: _ :: _ :: _, h => h.2.2.elim
  | [d1, d2], ⟨h1, h2, _⟩ => by
    obtain ⟨l, hl⟩ := chgs_of h1
    obtain ⟨i, cs, hi, rfl, hlen, hc⟩ := h2
    rw [T5] at hi
    injection hi with hi; subst hi
    simp only [CellOk, T5] at hc
    obtain ⟨m, rfl, hm⟩ := hc
    have hm' : 0 ≤ m ∧ m < 256 := by simp [Lit.wf, IntKind.min, IntKind.max, IntKind.bits, IntKind.signed] at hm; omega
    exact run_good CC_ok (law3_run d1 l m hm'.1 hm'.2 hl)
theorem own : ownKnob Try.prog.godebug = none := by kernel_rfl
theorem laidOut : laidOutB Try.prog = true := by kernel_rfl
set_option maxRecDepth 100000 in
theorem lifted3 (os : Os) (started : os.Started) (H : Type) (enc : TypeId × Value → H) :
    ReturnsInHanded {} Try.checked os 3 .any (Rows.deploymentChecksSpec.pre6 enc Try.prog Try.f3 Rows.deploymentChecksRow.domain false) (Rows.deploymentChecksSpec.post enc Try.prog Try.f3 false true false false) := by
  refine returnsInHanded_of_change_sized (C := Try.checked) own started (by kernel_rfl) Try.func3
    (ChangeSpec.witness6 (enc := enc) (C := Try.checked) false ⟨#[], #[.slice none 0 0, .int .u8 0], []⟩ 8 (by kernel_rfl) (by kernel_rfl) (by kernel_rfl) (by kernel_rfl)) ?_
  intro W base args ds gs before hval0 hW hcnd hsz0 _
  exact law_contract (T := TT) (n := 4) (ts := [22, 5]) (rt := 4) TT_ok (by kernel_rfl) (by kernel_rfl) laidOut (by kernel_rfl) (by kernel_rfl) ((TT_ok.ok T4).bool rfl) rfl (fun ds hds => by
    match ds, hds with
    | [_, _], _ => rfl) law3_good W base args ds gs before hval0 hW hsz0
set_option maxRecDepth 100000 in
theorem over3 : Rows.deploymentChecksRow.holds Try.pinned (OpenSpec.ofChange Rows.deploymentChecksSpec) :=
  OpenClaim.holds_of_wide 3 Try.f3 rfl rfl rfl rfl rfl rfl rfl ⟨rfl, rfl, rfl, rfl, rfl⟩ rfl rfl rfl rfl rfl (by kernel_rfl) Try.func3 (by kernel_rfl)
    (of_decide_eq_true (by kernel_rfl)) (by unfold Func.isWrapper; first | (rw [if_pos (by decide +kernel)]; kernel_rfl) | (rw [if_neg (by decide +kernel)]; exact ⟨rfl, rfl⟩))
    (fun os started H enc _ => lifted3 os started H enc)
end Go.Proofs.YteidaaobppjlbaaV
namespace Go.Proofs.Yteidaaobppjlbaa
/-- The row. -/
theorem deploymentChecks_holds : Rows.DeploymentChecksSaid := Go.Proofs.YteidaaobppjlbaaV.over3
end Go.Proofs.Yteidaaobppjlbaa
