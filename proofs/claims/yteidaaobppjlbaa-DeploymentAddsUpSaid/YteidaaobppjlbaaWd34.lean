/- The described lists: ids, lengths. -/
import Derived.Test.YteidaaobppjlbaaWd31
import Derived.Test.YteidaaobppjlbaaWd23
set_option linter.unusedVariables false
set_option linter.unusedSimpArgs false
namespace Go.Proofs.YteidaaobppjlbaaV
open Go.RowKit
/-- No two have the same id. -/
def idsNe (l : List Chg) : Prop := l.Pairwise fun a b => a.id ≠ b.id
theorem ins_ne {c : Chg} {o : List Chg} (h : idsNe o) (hc : ∀ p ∈ o, p.id ≠ c.id) : idsNe (insC c o) := by
  have key : idsNe (o.take (posC c o) ++ c :: o.drop (posC c o)) := by
    refine List.pairwise_append.2 ⟨h.sublist (List.take_sublist _ _), List.pairwise_cons.2 ⟨fun b hb => ?_, h.sublist (List.drop_sublist _ _)⟩, fun a ha b hb => ?_⟩
    · exact fun e => hc b (List.mem_of_mem_drop hb) e.symm
    · rcases List.mem_cons.1 hb with rfl | hb
      · exact hc a (List.mem_of_mem_take ha)
      · have h2 : idsNe (o.take (posC c o) ++ o.drop (posC c o)) := by rw [List.take_append_drop]; exact h
        exact (List.pairwise_append.1 h2).2.2 a ha b hb
  unfold insC
  split
  · split
    · exact h
    · exact key
  · rename_i hn
    have : o.length ≤ posC c o := by simpa using hn
    rw [List.take_of_length_le this, List.drop_eq_nil_of_le this] at key
    exact key
theorem sort_ne (l : List Chg) (h : idsNe l) : idsNe (sortC l) := by
  have : ∀ (l o : List Chg), idsNe l → idsNe o → (∀ p ∈ o, ∀ c ∈ l, p.id ≠ c.id) → idsNe (l.foldl (fun out c => insC c out) o) := by
    intro l
    induction l with
    | nil => exact fun o _ h _ => h
    | cons c l ih =>
      intro o hl ho hh
      have hl' := List.pairwise_cons.1 hl
      refine ih (insC c o) hl'.2 (ins_ne ho fun p hp => hh p hp c (by simp)) fun p hp q hq => ?_
      rcases ins_mem hp with rfl | hp
      · exact hl'.1 q hq
      · exact hh p hp q (by simp [hq])
  exact this l [] h List.Pairwise.nil (by simp)
theorem decL_id : ∀ (l : List Stp) (i : Nat) (c : Chg), c ∈ decL i l → (i : Int) + 1 ≤ c.id
  | [], i, c, h => by simp [decL] at h
  | x :: l, i, c, h => by
    simp only [decL, List.mem_cons] at h
    rcases h with rfl | h
    · simp [Stp.chg]
    · have := decL_id l (i + 1) c h; omega
theorem decL_ne : ∀ (l : List Stp) (i : Nat), idsNe (decL i l)
  | [], i => List.Pairwise.nil
  | x :: l, i => by
    refine List.pairwise_cons.2 ⟨fun b hb => ?_, decL_ne l (i + 1)⟩
    have := decL_id l (i + 1) b hb
    simp [Stp.chg]; omega
theorem changes_ne (l : List Stp) : idsNe (changesC l) := sort_ne _ (decL_ne _ _)
theorem changes_len (l : List Stp) : (changesC l).length ≤ 12 := by
  have h1 := sortC_len (decL 0 (l.take 12))
  have h2 := decL_len (l.take 12) 0
  have h3 : (l.take 12).length ≤ 12 := by simp; omega
  unfold changesC; omega
def anyId (n : Int) : List Chg → Bool
  | [] => false
  | c :: r => decide (c.id = n) || anyId n r
theorem anyId_app (n : Int) (c : Chg) : ∀ l, anyId n (l ++ [c]) = (anyId n l || decide (c.id = n))
  | [] => by simp [anyId]
  | p :: r => by simp [anyId, anyId_app n c r, Bool.or_assoc]
theorem anyId_false {n : Int} : ∀ {l : List Chg}, anyId n l = false → ∀ c ∈ l, c.id ≠ n
  | p :: r, h, c, hc => by
    simp [anyId] at h
    rcases List.mem_cons.1 hc with rfl | hc
    · exact h.1
    · exact anyId_false h.2 c hc
theorem anyId_true {n : Int} : ∀ {l : List Chg}, anyId n l = true → ∃ pre c suf, l = pre ++ c :: suf ∧ c.id = n ∧ ∀ p ∈ pre, p.id ≠ n
  | p :: r, h => by
    by_cases hp : p.id = n
    · exact ⟨[], p, r, rfl, hp, by simp⟩
    · have hr : anyId n r = true := by simpa [anyId, hp] using h
      obtain ⟨pre, c, suf, h1, h2, h3⟩ := anyId_true hr
      exact ⟨p :: pre, c, suf, by rw [h1]; rfl, h2, fun q hq => by rcases List.mem_cons.1 hq with rfl | hq; exact hp; exact h3 q hq⟩
theorem rolL_len : ∀ l : List Chg, (rolL l).length ≤ l.length
  | [] => Nat.le_refl _
  | c :: r => by
    have := rolL_len r
    simp only [rolL]; split <;> simp <;> omega
end Go.Proofs.YteidaaobppjlbaaV
