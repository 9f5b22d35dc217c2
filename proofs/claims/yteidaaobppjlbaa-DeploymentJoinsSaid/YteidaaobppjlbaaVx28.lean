/- Arguments, opened: numbers, strings, bools, lists. -/
import Derived.Test.YteidaaobppjlbaaVx23
set_option linter.unusedVariables false
set_option linter.unusedSimpArgs false
namespace Go.Proofs.YteidaaobppjlbaaV
open Go.RowKit
theorem valInt {T : Tbl} {n : Nat} {t : TypeId} {k : IntKind} {sz b : Nat} {z : List AV} (hT : T.get t = some ⟨.int k, sz, b, z⟩) {d : D} (h : ValOk T (n + 1) t d) : ∃ m, d = .int k m ∧ (Lit.int k m).wf = true := by
  obtain ⟨i, cs, hi, rfl, hlen, hc⟩ := h
  rw [hT] at hi
  injection hi with hi; subst hi
  simp only [CellOk, hT] at hc
  obtain ⟨m, rfl, hm⟩ := hc
  exact ⟨m, rfl, hm⟩
theorem valStr {T : Tbl} {n : Nat} {t : TypeId} {sz b : Nat} {z : List AV} (hT : T.get t = some ⟨.str, sz, b, z⟩) {d : D} (h : ValOk T (n + 1) t d) : ∃ s, d = .str s ∧ s.size ≤ 140737488351232 := by
  obtain ⟨i, cs, hi, rfl, hlen, hc⟩ := h
  rw [hT] at hi
  injection hi with hi; subst hi
  simp only [CellOk, hT] at hc
  obtain ⟨m, rfl, hm⟩ := hc
  exact ⟨m, rfl, hm⟩
theorem valBool {T : Tbl} {n : Nat} {t : TypeId} {sz b : Nat} {z : List AV} (hT : T.get t = some ⟨.bool, sz, b, z⟩) {d : D} (h : ValOk T (n + 1) t d) : ∃ s, d = .bool s := by
  obtain ⟨i, cs, hi, rfl, hlen, hc⟩ := h
  rw [hT] at hi
  injection hi with hi; subst hi
  simp only [CellOk, hT] at hc
  obtain ⟨m, rfl⟩ := hc
  exact ⟨m, rfl⟩
theorem wf_u8 {m : Int} (h : (Lit.int .u8 m).wf = true) : 0 ≤ m ∧ m < 256 := by
  simp [Lit.wf, IntKind.min, IntKind.max, IntKind.bits, IntKind.signed] at h; omega
theorem wf_i64 {m : Int} (h : (Lit.int .i64 m).wf = true) : -9223372036854775808 ≤ m ∧ m < 9223372036854775808 := by
  simp [Lit.wf, IntKind.min, IntKind.max, IntKind.bits, IntKind.signed] at h; omega
theorem wf_i8 {m : Int} (h : (Lit.int .i8 m).wf = true) : -128 ≤ m ∧ m < 128 := by
  simp [Lit.wf, IntKind.min, IntKind.max, IntKind.bits, IntKind.signed] at h; omega
/-- A slice's elements, opened by what opens an element. -/
theorem openList {α : Type} (enc : α → D) (P : α → Prop) : ∀ els : List D, (∀ el ∈ els, ∃ x, el = enc x ∧ P x) → ∃ l : List α, els = l.map enc ∧ ∀ x ∈ l, P x
  | [], _ => ⟨[], rfl, by simp⟩
  | e :: els, h => by
    obtain ⟨x, rfl, hx⟩ := h e (by simp)
    obtain ⟨l, rfl, hl⟩ := openList enc P els fun el hel => h el (by simp [hel])
    exact ⟨x :: l, rfl, fun y hy => by rcases List.mem_cons.1 hy with rfl | hy; exact hx; exact hl y hy⟩
theorem cellList {T : Tbl} {n : Nat} {t e : TypeId} {ie : TyI} {sz b : Nat} {z : List AV} (hT : T.get t = some ⟨.slice e, sz, b, z⟩) (he : T.get e = some ie) {α : Type} (enc : α → D) (P : α → Prop)
    (hx : ∀ cs, cs.length = ie.size → CellOk T n e cs → ∃ x, mkD ie cs = enc x ∧ P x) {cs : List D} (h : CellOk T (n + 1) t cs) : ∃ (d : D) (l : List α), cs = [d] ∧ elsOf (.d d) = some (l.map enc) ∧ l.length * ie.bytes ≤ 140737488351232 ∧ l.length ≤ 9223372036854775807 ∧ ∀ x ∈ l, P x := by
  simp only [CellOk, hT] at h
  rcases h with rfl | ⟨els, ie', rfl, hie, hby, hlen, h⟩
  · exact ⟨_, [], rfl, rfl, by simp, by simp, by simp⟩
  · rw [he] at hie
    injection hie with hie; subst hie
    obtain ⟨l, rfl, hl⟩ := openList enc P els fun el hel => by
      obtain ⟨cs, h1, h2, h3, h4⟩ := h el hel
      rw [h1]
      exact hx cs h3 h4
    exact ⟨_, l, rfl, rfl, by simpa using hby, by simpa using hlen, hl⟩
theorem valList {T : Tbl} {n : Nat} {t e : TypeId} {ie : TyI} {sz b : Nat} {z : List AV} (hT : T.get t = some ⟨.slice e, sz, b, z⟩) (he : T.get e = some ie) {α : Type} (enc : α → D) (P : α → Prop)
    (hx : ∀ cs, cs.length = ie.size → CellOk T n e cs → ∃ x, mkD ie cs = enc x ∧ P x) {d : D} (h : ValOk T (n + 1) t d) : ∃ l : List α, elsOf (.d d) = some (l.map enc) ∧ l.length * ie.bytes ≤ 140737488351232 ∧ l.length ≤ 9223372036854775807 ∧ ∀ x ∈ l, P x := by
  obtain ⟨i, cs, hi, rfl, hlen, hc⟩ := h
  obtain ⟨d, l, rfl, h1, h2, h3, h4⟩ := cellList hT he enc P hx hc
  rw [hT] at hi
  injection hi with hi; subst hi
  exact ⟨l, h1, h2, h3, h4⟩
end Go.Proofs.YteidaaobppjlbaaV
