/- Ranges over a map of counts: counters, lower. -/
import Derived.Test.YtdhbecdlablonaaWc22l
set_option linter.unusedVariables false
set_option linter.unusedSimpArgs false
namespace Go.Proofs.YtdhbecdlablonaaV
open Go.RowKit
abbrev SC2 := Nat × Ctr
def dE (p : SC2) : Nat × D × D := (p.1, .str p.2.1, .int .i64 p.2.2)
def stA (m : List Ctr) : List SC2 := (List.range m.length).zip m
theorem stEs_dE : ∀ L : List SC2, stEs (mapSI (L.map (·.2))) (L.map (·.1)) = L.map dE
  | [] => rfl
  | p :: L => by
    have := stEs_dE L
    simp only [mapD, List.map_cons, stEs] at this ⊢
    rw [this]; rfl
theorem stA_snd (m : List Ctr) : (stA m).map (·.2) = m := List.map_snd_zip (by simp)
theorem stA_fst (m : List Ctr) : (stA m).map (·.1) = List.range m.length := List.map_fst_zip (by simp)
theorem mapSI_len (m : List Ctr) : (mapSI m).length = m.length := by simp [mapD]
theorem allE_dE (m : List Ctr) : allE (mapSI m) = (stA m).map dE := by
  have := stEs_dE (stA m)
  rw [stA_snd, stA_fst] at this
  unfold allE
  rw [mapSI_len, this]
theorem leftE_dE (seen : List Nat) (L : List SC2) : leftE seen (L.map dE) = (L.filter fun p => !seen.contains p.1).map dE := by
  unfold leftE
  rw [List.filter_map]
  rfl
theorem stA_nodup (m : List Ctr) : (stA m).Pairwise fun p q => p.1 ≠ q.1 := by
  have h : ((stA m).map (·.1)).Nodup := by rw [stA_fst]; exact List.nodup_range
  exact (List.pairwise_map.1 h)
theorem stA_lt {m : List Ctr} {p : SC2} (h : p ∈ stA m) : p.1 < m.length ∧ p.2 ∈ m := by
  have h1 : p.1 ∈ (stA m).map (·.1) := List.mem_map.2 ⟨p, h, rfl⟩
  have h2 : p.2 ∈ (stA m).map (·.2) := List.mem_map.2 ⟨p, h, rfl⟩
  rw [stA_fst] at h1; rw [stA_snd] at h2
  exact ⟨by simpa using h1, h2⟩
def keepL (seen : List Nat) (m : List Ctr) : List SC2 := (stA m).filter fun p => !(seen.contains p.1 && decide (p.2.2 ≤ 0))
def objM (seen : List Nat) (m : List Ctr) : AObj := if keepL seen m = stA m then .map (mapSI m) else .mapd (mapSI ((keepL seen m).map (·.2))) ((keepL seen m).map (·.1)) (mapSI m).length
theorem objM_all (seen : List Nat) (m : List Ctr) : mapAll (objM seen m) = some ((keepL seen m).map dE, (mapSI m).length) := by
  unfold objM
  split
  · rename_i h
    rw [h, ← allE_dE]; rfl
  · rw [← stEs_dE]; rfl
theorem keep_sub {seen : List Nat} {m : List Ctr} {p : SC2} (h : p ∈ keepL seen m) : p ∈ stA m := (List.mem_filter.1 h).1
theorem keep_left (seen : List Nat) (m : List Ctr) : (keepL seen m).filter (fun p => !seen.contains p.1) = (stA m).filter fun p => !seen.contains p.1 := by
  unfold keepL
  rw [List.filter_filter]
  congr 1
  funext p
  cases seen.contains p.1 <;> simp
theorem keep_split {seen : List Nat} {m : List Ctr} {q : SC2} (hq : q ∈ stA m) (hs : q.1 ∉ seen) : ∃ pre post, keepL seen m = pre ++ q :: post ∧ (∀ p ∈ pre, p.1 ≠ q.1) ∧ (∀ p ∈ post, p.1 ≠ q.1) := by
  have hk : q ∈ keepL seen m := List.mem_filter.2 ⟨hq, by simp [hs]⟩
  obtain ⟨pre, post, h⟩ := List.append_of_mem hk
  refine ⟨pre, post, h, ?_⟩
  have hn : (keepL seen m).Pairwise fun p q => p.1 ≠ q.1 := (stA_nodup m).sublist List.filter_sublist
  rw [h] at hn
  have h1 := List.pairwise_append.1 hn
  have h2 := List.pairwise_cons.1 h1.2.1
  exact ⟨fun p hp => h1.2.2 p hp q (by simp), fun p hp => (h2.1 p hp).symm⟩
theorem keep_snoc (seen : List Nat) (b : Nat) (m : List Ctr) : keepL (seen ++ [b]) m = (keepL seen m).filter fun p => !(decide (p.1 = b) && decide (p.2.2 ≤ 0)) := by
  unfold keepL
  rw [List.filter_filter]
  congr 1
  funext p
  simp only [List.contains_eq_mem, List.mem_append, List.mem_singleton]
  by_cases h1 : p.1 ∈ seen <;> by_cases h2 : p.1 = b <;> by_cases h3 : p.2.2 ≤ 0 <;> simp [h1, h2, h3]
theorem keep_pos {seen : List Nat} {m : List Ctr} {q : SC2} (hq : q ∈ stA m) (h : 0 < q.2.2) : keepL (seen ++ [q.1]) m = keepL seen m := by
  rw [keep_snoc]
  refine List.filter_eq_self.2 fun p hp => ?_
  by_cases e : p.1 = q.1
  · have : p = q := by
      have hn := stA_nodup m
      have hp := keep_sub hp
      have key : ∀ L : List SC2, L.Pairwise (fun p q => p.1 ≠ q.1) → p ∈ L → q ∈ L → p = q := by
        intro L
        induction L with
        | nil => intro _ h; cases h
        | cons x L ih =>
          intro hL h1 h2
          have hL := List.pairwise_cons.1 hL
          rcases List.mem_cons.1 h1 with h1 | h1
          · rcases List.mem_cons.1 h2 with h2 | h2
            · exact h1.trans h2.symm
            · exact absurd e (by rw [h1]; exact hL.1 q h2)
          · rcases List.mem_cons.1 h2 with h2 | h2
            · exact absurd e.symm (by rw [h2]; exact hL.1 p h1)
            · exact ih hL.2 h1 h2
      exact key _ hn hp hq
    subst this
    have : ¬ p.2.2 ≤ 0 := by omega
    simp [this]
  · simp [e]
theorem keep_del {seen : List Nat} {m : List Ctr} {q : SC2} {pre post : List SC2} (hk : keepL seen m = pre ++ q :: post) (h1 : ∀ p ∈ pre, p.1 ≠ q.1) (h2 : ∀ p ∈ post, p.1 ≠ q.1) (h : q.2.2 ≤ 0) : keepL (seen ++ [q.1]) m = pre ++ post ∧ keepL (seen ++ [q.1]) m ≠ stA m := by
  have e : keepL (seen ++ [q.1]) m = pre ++ post := by
    rw [keep_snoc, hk, List.filter_append, List.filter_cons]
    simp only [h, decide_true, Bool.and_self, Bool.not_true, Bool.false_eq_true, if_false]
    rw [List.filter_eq_self.2 fun p hp => by simp [h1 p hp], List.filter_eq_self.2 fun p hp => by simp [h2 p hp]]
  refine ⟨e, fun h => ?_⟩
  have hl := congrArg List.length e
  rw [h] at hl
  have : (keepL seen m).length ≤ (stA m).length := List.length_filter_le _ _
  rw [hk] at this
  simp at this hl
  omega
theorem idx_split {k : ByteArray} {v : Int} : ∀ {pre post : List Ctr}, (∀ p ∈ pre, eqS k p.1 = false) → idxP strK k (pre ++ (k, v) :: post) = pre.length ∧ lookP strK k (pre ++ (k, v) :: post) = some v
  | [], post, _ => by
    have : strK.eqb k k = true := eqS_self k
    simp [idxP, lookP, this]
  | (q, u) :: pre, post, h => by
    have h0 : strK.eqb k q = false := h (q, u) (by simp)
    obtain ⟨i1, i2⟩ := idx_split (v := v) (pre := pre) (post := post) fun p hp => h p (List.mem_cons_of_mem _ hp)
    simp [idxP, lookP, h0, i1, i2]
theorem erase_mid {α : Type} (pre post : List α) (x : α) : (pre ++ x :: post).eraseIdx pre.length = pre ++ post := by
  rw [List.eraseIdx_append_of_length_le (Nat.le_refl _)]; simp
theorem keysNe_mem {m : List Ctr} (h : keysNe strK m) {p q : Ctr} (hp : p ∈ m) (hq : q ∈ m) (e : p.1 = q.1) : p = q := by
  have h1 := look_mem strK h hp
  have h2 := look_mem strK h hq
  rw [e] at h1
  rw [h1] at h2
  injection h2 with h2
  exact Prod.ext e h2
theorem keep_keys {seen : List Nat} {m : List Ctr} (hne : keysNe strK m) : keysNe strK ((keepL seen m).map (·.2)) := by
  have : ((keepL seen m).map (·.2)).Sublist m := by
    have h := (List.filter_sublist (l := stA m) (p := fun p => !(seen.contains p.1 && decide (p.2.2 ≤ 0)))).map (·.2)
    rw [stA_snd] at h
    exact h
  exact hne.sublist this
/-- An entry with a count that is not above 0 goes. -/
theorem objM_del {seen : List Nat} {m : List Ctr} {q : SC2} (hq : q ∈ stA m) (hs : q.1 ∉ seen) (hne : keysNe strK m) (h : q.2.2 ≤ 0) : mapDel (.str q.2.1) 0 (objM seen m) = .val (.tup []) [(0, .mapd (mapSI ((keepL (seen ++ [q.1]) m).map (·.2))) ((keepL (seen ++ [q.1]) m).map (·.1)) (mapSI m).length)] := by
  obtain ⟨pre, post, hk, h1, h2⟩ := keep_split hq hs
  obtain ⟨e1, e2⟩ := keep_del hk h1 h2 h
  have hkk := keep_keys (seen := seen) hne
  rw [hk, List.map_append, List.map_cons] at hkk
  have hp := (List.pairwise_append.1 hkk).2.2
  have hi := idx_split (k := q.2.1) (v := q.2.2) (pre := pre.map (·.2)) (post := post.map (·.2)) fun p hp' => by
    have := hp p hp' q.2 (by simp)
    rw [eqS_comm]; exact this
  have hfd : findD (.str q.2.1) (mapSI ((keepL seen m).map (·.2))) 0 = some (some (pre.length, .int .i64 q.2.2)) := by
    have := findD_look strK (D.int .i64) q.2.1 ((keepL seen m).map (·.2)) 0
    rw [hk, List.map_append, List.map_cons, hi.2, hi.1] at this
    rw [hk, List.map_append, List.map_cons]
    simp only [Option.map_some, List.length_map, Nat.zero_add] at this
    exact this
  have er1 : (mapSI ((keepL seen m).map (·.2))).eraseIdx pre.length = mapSI ((keepL (seen ++ [q.1]) m).map (·.2)) := by
    rw [hk, e1]
    have := erase_mid (mapSI (pre.map (·.2))) (mapSI (post.map (·.2))) (strK.f q.2.1, D.int .i64 q.2.2)
    rw [mapSI_len, List.length_map] at this
    simp only [List.map_append, List.map_cons]
    rw [show mapSI (pre.map (·.2) ++ q.2 :: post.map (·.2)) = mapSI (pre.map (·.2)) ++ (strK.f q.2.1, D.int .i64 q.2.2) :: mapSI (post.map (·.2)) by simp [mapD], this]
    simp [mapD]
  have er2 : ((keepL seen m).map (·.1)).eraseIdx pre.length = (keepL (seen ++ [q.1]) m).map (·.1) := by
    rw [hk, e1]
    simp only [List.map_append, List.map_cons]
    have := erase_mid (pre.map (·.1)) (post.map (·.1)) q.1
    simp only [List.length_map] at this
    exact this
  unfold objM
  split
  · rename_i heq
    have hm : (keepL seen m).map (·.2) = m := by rw [heq, stA_snd]
    have hr : (keepL seen m).map (·.1) = List.range (mapSI m).length := by rw [heq, stA_fst, mapSI_len]
    rw [hm] at hfd er1
    rw [hr] at er2
    simp only [mapDel, hfd, er1, er2]
  · simp only [mapDel, hfd, er1, er2]
def endLs (m : List Ctr) : List SC2 := (stA m).filter fun p => decide (0 < p.2.2)
def finM (m : List Ctr) : AObj := if endLs m = stA m then .map (mapSI m) else .mapd (mapSI ((endLs m).map (·.2))) ((endLs m).map (·.1)) (mapSI m).length
theorem keep_end {seen : List Nat} {m : List Ctr} (h : leftE seen ((keepL seen m).map dE) = []) : keepL seen m = endLs m ∧ ∀ p ∈ stA m, p.1 ∈ seen := by
  rw [leftE_dE, keep_left] at h
  have h0 : (stA m).filter (fun p => !seen.contains p.1) = [] := by simpa using h
  have h1 : ∀ p ∈ stA m, p.1 ∈ seen := fun p hp => by
    have := List.filter_eq_nil_iff.1 h0 p hp
    simpa using this
  refine ⟨?_, h1⟩
  unfold keepL endLs
  refine List.filter_congr fun p hp => ?_
  have := h1 p hp
  by_cases e : p.2.2 ≤ 0
  · have e2 : ¬ 0 < p.2.2 := by omega
    simp [this, e, e2]
  · have e2 : 0 < p.2.2 := by omega
    simp [e, e2]
def posL (m : List Ctr) : List Ctr := m.filter fun p => decide (0 < p.2)
/-- What is still to come. -/
def restL (seen : List Nat) (m : List Ctr) : List Ctr := ((stA m).filter fun p => !seen.contains p.1 && decide (0 < p.2.2)).map (·.2)
theorem rest_nil (m : List Ctr) : restL [] m = posL m := by
  unfold restL posL
  have : (stA m).filter (fun p => !([] : List Nat).contains p.1 && decide (0 < p.2.2)) = (stA m).filter ((fun p : Ctr => decide (0 < p.2)) ∘ (·.2)) := by congr 1
  rw [this, ← List.filter_map, stA_snd]
theorem rest_end {seen : List Nat} {m : List Ctr} (h : ∀ p ∈ stA m, p.1 ∈ seen) : restL seen m = [] := by
  unfold restL
  rw [List.filter_eq_nil_iff.2 fun p hp => by simp [h p hp]]
  rfl
theorem rest_step {seen : List Nat} {m : List Ctr} {q : SC2} (hq : q ∈ stA m) (hs : q.1 ∉ seen) : (restL seen m).Perm (if 0 < q.2.2 then q.2 :: restL (seen ++ [q.1]) m else restL (seen ++ [q.1]) m) := by
  obtain ⟨pre, post, h⟩ := List.append_of_mem hq
  have hn := stA_nodup m
  unfold restL
  rw [h] at hn ⊢
  have h1 := List.pairwise_append.1 hn
  have h2 := List.pairwise_cons.1 h1.2.1
  have e1 : ∀ L : List SC2, (∀ p ∈ L, p.1 ≠ q.1) → L.filter (fun p => !(seen ++ [q.1]).contains p.1 && decide (0 < p.2.2)) = L.filter fun p => !seen.contains p.1 && decide (0 < p.2.2) := fun L hL => List.filter_congr fun p hp => by
    simp [hL p hp]
  simp only [List.filter_append, List.filter_cons]
  rw [e1 pre fun p hp => h1.2.2 p hp q (by simp), e1 post fun p hp => (h2.1 p hp).symm]
  by_cases hv : 0 < q.2.2
  · simp [hv, hs]
  · simp [hv]
end Go.Proofs.YtdhbecdlablonaaV
