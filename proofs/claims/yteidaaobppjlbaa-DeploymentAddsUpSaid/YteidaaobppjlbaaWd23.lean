/- What the described lists of changes are like. -/
import Derived.Test.YteidaaobppjlbaaWd22
import Derived.Test.YteidaaobppjlbaaWd3
set_option linter.unusedVariables false
set_option linter.unusedSimpArgs false
namespace Go.Proofs.YteidaaobppjlbaaV
open Go.RowKit
theorem cmp_slot (p c : Chg) : (p.cmp c < 0 → p.slot ≤ c.slot) ∧ (¬ p.cmp c < 0 → c.slot ≤ p.slot) := by
  unfold Chg.cmp Chg.cmps
  simp only [firstNZ]
  by_cases h1 : p.slot < c.slot
  · have e : cmpI p.slot c.slot = -1 := by simp [cmpI, h1]
    simp [e]; omega
  · by_cases h2 : c.slot < p.slot
    · have e : cmpI p.slot c.slot = 1 := by simp [cmpI, h1, h2]
      simp [e]; omega
    · have e : p.slot = c.slot := by omega
      exact ⟨fun _ => by omega, fun _ => by omega⟩
/-- Slots do not fall. -/
def slotsUp (l : List Chg) : Prop := l.Pairwise fun a b => a.slot ≤ b.slot
theorem ins_mem {c x : Chg} {o : List Chg} (h : x ∈ insC c o) : x = c ∨ x ∈ o := by
  unfold insC at h
  split at h
  · split at h
    · exact .inr h
    · rcases List.mem_append.1 h with h | h
      · exact .inr (List.mem_of_mem_take h)
      · rcases List.mem_cons.1 h with h | h
        · exact .inl h
        · exact .inr (List.mem_of_mem_drop h)
  · rcases List.mem_append.1 h with h | h
    · exact .inr h
    · exact .inl (by simpa using h)
theorem take_pos (c : Chg) : ∀ (o : List Chg), ∀ p ∈ o.take (posC c o), p.slot ≤ c.slot
  | [], p, h => by simp at h
  | q :: r, p, h => by
    simp only [posC] at h
    split at h
    · rename_i hq
      simp only [List.take_succ_cons, List.mem_cons] at h
      rcases h with rfl | h
      · exact (cmp_slot p c).1 hq
      · exact take_pos c r p h
    · simp at h
theorem drop_pos (c : Chg) : ∀ (o : List Chg), slotsUp o → ∀ p ∈ o.drop (posC c o), c.slot ≤ p.slot
  | [], _, p, h => by simp at h
  | q :: r, hs, p, h => by
    have hs' := List.pairwise_cons.1 hs
    simp only [posC] at h
    split at h
    · simp only [List.drop_succ_cons] at h
      exact drop_pos c r hs'.2 p h
    · rename_i hq
      have hqc := (cmp_slot q c).2 hq
      simp only [List.drop_zero, List.mem_cons] at h
      rcases h with rfl | h
      · exact hqc
      · have := hs'.1 p h; omega
theorem ins_up {c : Chg} {o : List Chg} (h : slotsUp o) : slotsUp (insC c o) := by
  have key : slotsUp (o.take (posC c o) ++ c :: o.drop (posC c o)) := by
    refine List.pairwise_append.2 ⟨h.sublist (List.take_sublist _ _), List.pairwise_cons.2 ⟨drop_pos c o h, h.sublist (List.drop_sublist _ _)⟩, fun a ha b hb => ?_⟩
    have h1 := take_pos c o a ha
    rcases List.mem_cons.1 hb with rfl | hb
    · exact h1
    · have := drop_pos c o h b hb; omega
  unfold insC
  split
  · split
    · exact h
    · exact key
  · rename_i hn
    have : o.length ≤ posC c o := by simpa using hn
    rw [List.take_of_length_le this, List.drop_eq_nil_of_le this] at key
    exact key
theorem sort_up (l : List Chg) : slotsUp (sortC l) ∧ ∀ x ∈ sortC l, x ∈ l := by
  have : ∀ (l o : List Chg), slotsUp o → slotsUp (l.foldl (fun out c => insC c out) o) ∧ ∀ x ∈ l.foldl (fun out c => insC c out) o, x ∈ l ∨ x ∈ o := by
    intro l
    induction l with
    | nil => exact fun o h => ⟨h, fun x hx => .inr hx⟩
    | cons c l ih =>
      intro o h
      obtain ⟨h1, h2⟩ := ih (insC c o) (ins_up h)
      refine ⟨h1, fun x hx => ?_⟩
      rcases h2 x hx with h3 | h3
      · exact .inl (by simp [h3])
      · rcases ins_mem h3 with rfl | h4
        · exact .inl (by simp)
        · exact .inr h4
  obtain ⟨h1, h2⟩ := this l [] List.Pairwise.nil
  exact ⟨h1, fun x hx => by rcases h2 x hx with h | h; exact h; cases h⟩
end Go.Proofs.YteidaaobppjlbaaV
