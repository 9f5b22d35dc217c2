/- The map of what was accepted: plain parts. -/
import Derived.Test.YtdgpipoffcajgaaQk1
set_option linter.unusedVariables false
set_option linter.unusedSimpArgs false
namespace Go.Proofs.YtdgpipoffcajgaaV
open Go.RowKit
abbrev mK (m : List (Iv × Bool)) : List (D × D) := mapD idK D.bool m
theorem mK_find (x : Iv) (m : List (Iv × Bool)) : findD (.agg [.int .i64 x.1, .int .i64 x.2]) (mK m) 0 = some ((lookP idK x m).map fun v => (0 + idxP idK x m, D.bool v)) := findD_look idK D.bool x m 0
theorem mK_put (x : Iv) (v : Bool) (m : List (Iv × Bool)) : putE (.agg [.int .i64 x.1, .int .i64 x.2]) (.bool v) (mK m) (findD (.agg [.int .i64 x.1, .int .i64 x.2]) (mK m) 0) = some (mK (putP idK x v m)) := putE_put idK D.bool x v m
theorem eqbK (a b : Iv) : idK.eqb a b = true ↔ a = b := idK.eq a b
theorem putP_len (x : Iv) (v : Bool) : ∀ (m : List (Iv × Bool)), (putP idK x v m).length = if (lookP idK x m).isSome = true then m.length else m.length + 1
  | [] => by simp [putP, lookP]
  | (q, u) :: r => by
    have ih := putP_len x v r
    unfold putP lookP
    by_cases h : idK.eqb x q = true
    · simp [h]
    · simp only [h, Bool.false_eq_true, if_false, List.length_cons, ih]
      split <;> rfl
theorem stm_put {m : List (Iv × Bool)} {bs : List Nat} {ck : Nat} (h : Stm bs ck m.length) (x : Iv) (v : Bool) : Stm (putS ck bs (findD (.agg [.int .i64 x.1, .int .i64 x.2]) (mK m) 0)).1 (putS ck bs (findD (.agg [.int .i64 x.1, .int .i64 x.2]) (mK m) 0)).2 (putP idK x v m).length := by
  rw [mK_find, putP_len]
  cases hl : lookP idK x m with
  | none => simpa [putS] using stm_snoc h
  | some u => simpa [putS] using h
/-- The map and the queue. -/
structure kI (Q : Qs) (m : List (Iv × Bool)) (bs : List Nat) (ck : Nat) : Prop where
  wl : Q.wl
  st : Stm bs ck m.length
  ne : keysNe idK m
  look : ∀ x, lookP idK x m = some true ↔ x ∈ Q.es.map Ent.iv
theorem kI_same {Q Q2 : Qs} {m : List (Iv × Bool)} {bs : List Nat} {ck : Nat} (h : kI Q m bs ck) (hw : Q2.wl) (he : Q2.es.map Ent.iv = Q.es.map Ent.iv) : kI Q2 m bs ck := ⟨hw, h.st, h.ne, fun x => by rw [he]; exact h.look x⟩
theorem kI_put {Q Q2 : Qs} {m : List (Iv × Bool)} {bs : List Nat} {ck : Nat} (h : kI Q m bs ck) (hw : Q2.wl) (x : Iv) (v : Bool) (he : ∀ y, y ∈ Q2.es.map Ent.iv ↔ if y = x then v = true else y ∈ Q.es.map Ent.iv) :
    kI Q2 (putP idK x v m) (putS ck bs (findD (.agg [.int .i64 x.1, .int .i64 x.2]) (mK m) 0)).1 (putS ck bs (findD (.agg [.int .i64 x.1, .int .i64 x.2]) (mK m) 0)).2 := by
  refine ⟨hw, stm_put h.st x v, put_keys idK h.ne, fun y => ?_⟩
  rw [look_put, he]
  by_cases c : y = x
  · rw [if_pos ((eqbK _ _).2 c), if_pos c]; simp
  · rw [if_neg (fun h => c ((eqbK _ _).1 h)), if_neg c]
    exact h.look y
theorem rel_ids (Q : Qs) (n : Int) : (relQ Q n).es.map Ent.iv = Q.es.map Ent.iv := by
  show (Q.es.map (relE n)).map Ent.iv = _
  rw [List.map_map]
  exact List.map_congr_left fun e _ => (relE_iv n e).1
theorem exp_ids : ∀ (l : List Tck) (Q : Qs), (expQ Q l).es.map Ent.iv = Q.es.map Ent.iv
  | [], Q => rfl
  | t :: l, Q => by
    show (expQ (relQ Q t.n) l).es.map Ent.iv = _
    rw [exp_ids l, rel_ids]
theorem lea_ids {Q : Qs} {pre post : List Ent} {e : Ent} (hs : Q.es = pre ++ e :: post) (now : Int) : (Q.lea pre e post now).es.map Ent.iv = Q.es.map Ent.iv := by
  show (pre ++ e.t (Q.iss + 1) :: post).map Ent.iv = _
  rw [hs, List.map_append, List.map_append]
  rfl
theorem exp_keep : ∀ (l : List Tck) (p : Qs), (expQ p l).arr = p.arr ∧ (expQ p l).iss = p.iss ∧ (expQ p l).now = p.now
  | [], p => ⟨rfl, rfl, rfl⟩
  | t :: l, p => exp_keep l (relQ p t.n)
/-- All that is there: what waits, and what is leased. -/
def allI (Q : Qs) : List Iv := wts Q.es ++ Q.ts.map fun t => (t.a, t.s)
theorem ids_nd {Q : Qs} (h : Q.wl) : (Q.es.map Ent.iv).Nodup := List.pairwise_map.2 h.es.ids
theorem all_nd {Q : Qs} (h : Q.wl) : (allI Q).Nodup := by
  refine List.nodup_append.2 ⟨(ids_nd h).sublist (List.Sublist.map _ List.filter_sublist), ?_, ?_⟩
  · refine List.pairwise_map.2 (List.Pairwise.imp_of_mem (fun {x y} hx hy hxy hne => ?_) h.asc)
    obtain ⟨e, he, h1, h2, h3⟩ := h.tk x hx
    obtain ⟨f, hf, g1, g2, g3⟩ := h.tk y hy
    injection hne with q1 q2
    have := ids_unique h.es.ids he hf (by simp only [Ent.iv]; rw [h1, h2, g1, g2, q1, q2])
    rw [this] at h3
    omega
  · intro a ha b hb hab
    subst hab
    obtain ⟨e, he, hea⟩ := List.mem_map.1 ha
    obtain ⟨h1, h2⟩ := List.mem_filter.1 he
    obtain ⟨t, ht, hta⟩ := List.mem_map.1 hb
    obtain ⟨f, hf, g1, g2, g3⟩ := h.tk t ht
    have : e = f := ids_unique h.es.ids h1 hf (by rw [hea, ← hta]; simp only [Ent.iv]; rw [g1, g2])
    subst this
    have := (h.tn t ht).1
    simp at h2
    omega
theorem all_mem {Q : Qs} (h : Q.wl) (x : Iv) : x ∈ allI Q ↔ x ∈ Q.es.map Ent.iv := by
  constructor
  · intro hx
    rcases List.mem_append.1 hx with hx | hx
    · obtain ⟨e, he, rfl⟩ := List.mem_map.1 hx
      exact List.mem_map.2 ⟨e, (List.mem_filter.1 he).1, rfl⟩
    · obtain ⟨t, ht, rfl⟩ := List.mem_map.1 hx
      obtain ⟨e, he, h1, h2, -⟩ := h.tk t ht
      exact List.mem_map.2 ⟨e, he, by simp only [Ent.iv]; rw [h1, h2]⟩
  · intro hx
    obtain ⟨e, he, rfl⟩ := List.mem_map.1 hx
    by_cases hz : e.tk = 0
    · exact List.mem_append.2 (.inl (List.mem_map.2 ⟨e, List.mem_filter.2 ⟨he, by simpa using hz⟩, rfl⟩))
    · obtain ⟨t, ht, -, t2, t3⟩ := h.kt e he hz
      exact List.mem_append.2 (.inr (List.mem_map.2 ⟨t, ht, by simp only [Ent.iv]; rw [t2, t3]⟩))
theorem nd_len {α : Type} [DecidableEq α] {l m : List α} (h1 : l.Nodup) (h2 : m.Nodup) (h : ∀ x, x ∈ l ↔ x ∈ m) : l.length = m.length :=
  Nat.le_antisymm (nodup_le h1 fun x hx => (h x).1 hx) (nodup_le h2 fun x hx => (h x).2 hx)
theorem all_len {Q : Qs} (h : Q.wl) : (allI Q).length = Q.es.length := by
  have := nd_len (all_nd h) (ids_nd h) (all_mem h)
  simpa using this
/-- How many are there by the map. -/
def cntK (m : List (Iv × Bool)) : Nat := (m.filter (·.2)).length
theorem cnt_len {Q : Qs} {m : List (Iv × Bool)} {bs : List Nat} {ck : Nat} (h : kI Q m bs ck) : cntK m = Q.es.length := by
  have hn : (m.map (·.1)).Nodup := by
    refine List.pairwise_map.2 (List.Pairwise.imp (fun {x y} hxy he => ?_) h.ne)
    have := (eqbK x.1 y.1).2 he
    rw [this] at hxy; cases hxy
  have hn2 : ((m.filter (·.2)).map (·.1)).Nodup := hn.sublist (List.Sublist.map _ List.filter_sublist)
  have := nd_len hn2 (ids_nd h.wl) fun x => by
    rw [← h.look x]
    constructor
    · intro hx
      obtain ⟨p, hp, rfl⟩ := List.mem_map.1 hx
      obtain ⟨h1, h2⟩ := List.mem_filter.1 hp
      rw [look_mem idK h.ne h1, h2]
    · intro hx
      exact List.mem_map.2 ⟨(x, true), List.mem_filter.2 ⟨mem_look idK hx, rfl⟩, rfl⟩
  simpa [cntK] using this
end Go.Proofs.YtdgpipoffcajgaaV
