/- HeavyhitterParts: for every input the call returns true, and each argument reads behind the call as it read before. No conditions. -/
import Derived.Test.YtdhbecdlablonaaRows
import Derived.Test.YtdhbecdlablonaaWe5
import Derived.Test.YtdhbecdlablonaaWcOK
set_option linter.unusedVariables false
set_option linter.unusedSimpArgs false
namespace Go.Proofs.YtdhbecdlablonaaV
open Go.RowKit Go.Proofs.Ytdhbecdlablonaa
theorem szIts {n : Nat} {d : D} (h : ValOk TT (n + 3) 36 d) : ∃ l : List It, elsOf (.d d) = some (l.map It.enc) ∧ (∀ x ∈ l, x.ok) ∧ l.length < 4611686018427387904 := valIts h
theorem law5_good : ∀ ds, DsOk TT 4 [5, 36, 47] ds → Good Try.prog 5 (ds.map AV.d) [] (.d (.bool true)) []
  | [], h => h.elim
  | [_], h => h.2.elim
  | [_, _], h => h.2.2.elim
  | _ :: _ :: _ :: _ :: _, h => h.2.2.2.elim
  | [d1, d2, d3], ⟨h1, h2, h3, _⟩ => by
    obtain ⟨n, rfl, hn⟩ := valInt T5 h1
    obtain ⟨l, hl, hok, hlen⟩ := valIts h2
    obtain ⟨a, b, rfl, ha, hb⟩ := valU82 h3
    obtain ⟨a', rfl⟩ : ∃ x : Nat, a = x := ⟨a.toNat, by omega⟩
    obtain ⟨b', rfl⟩ : ∃ x : Nat, b = x := ⟨b.toNat, by omega⟩
    exact run_good CC_ok (law5_run n (wf_u8 hn) d2 l hok hl a' b' (by omega) (by omega) (szAll_map It.enc 2 (fun _ => rfl) l) hlen)
set_option maxRecDepth 100000 in
theorem lifted5 (os : Os) (started : os.Started) (H : Type) (enc : TypeId × Value → H) :
    ReturnsInHanded {} Try.checked os 5 .any (Rows.heavyhitterPartsSpec.pre6 enc Try.prog Try.f5 Rows.heavyhitterPartsRow.domain false) (Rows.heavyhitterPartsSpec.post enc Try.prog Try.f5 false true false false) := by
  refine returnsInHanded_of_change_sized (C := Try.checked) own started (by kernel_rfl) Try.func5
    (ChangeSpec.witness6 (enc := enc) (C := Try.checked) false ⟨#[], #[.int .u8 0, .slice none 0 0, .agg #[.int .u8 0, .int .u8 0]], []⟩ 8 (by kernel_rfl) (by kernel_rfl) (by kernel_rfl) (by kernel_rfl)) ?_
  intro W base args ds gs before hval0 hW hcnd hsz0 _
  exact law_contract (T := TT) (n := 4) (ts := [5, 36, 47]) (rt := 4) TT_ok (by kernel_rfl) (by kernel_rfl) laidOut (by kernel_rfl) (by kernel_rfl) ((TT_ok.ok T4).bool rfl) rfl (fun ds hds => by
    match ds, hds with
    | [_, _, _], _ => rfl) law5_good W base args ds gs before hval0 hW hsz0
set_option maxRecDepth 100000 in
theorem over5 : Rows.heavyhitterPartsRow.holds Try.pinned (OpenSpec.ofChange Rows.heavyhitterPartsSpec) :=
  OpenClaim.holds_of_wide 5 Try.f5 rfl rfl rfl rfl rfl rfl rfl ⟨rfl, rfl, rfl, rfl, rfl⟩ rfl rfl rfl rfl rfl (by kernel_rfl) Try.func5 (by kernel_rfl)
    (of_decide_eq_true (by kernel_rfl)) (by unfold Func.isWrapper; first | (rw [if_pos (by decide +kernel)]; kernel_rfl) | (rw [if_neg (by decide +kernel)]; exact ⟨rfl, rfl⟩))
    (fun os started H enc _ => lifted5 os started H enc)
end Go.Proofs.YtdhbecdlablonaaV
namespace Go.Proofs.Ytdhbecdlablonaa
/-- The row. -/
theorem heavyhitterParts_holds : Rows.HeavyhitterPartsSaid := Go.Proofs.YtdhbecdlablonaaV.over5
end Go.Proofs.Ytdhbecdlablonaa
