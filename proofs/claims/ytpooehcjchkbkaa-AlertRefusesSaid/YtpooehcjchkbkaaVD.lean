/- The interpreter over plain data and objects, its laws: part VD. -/
import Derived.Test.YtpooehcjchkbkaaVC
/- Ranges over maps: what is left, round by round; keys that are all different. -/
set_option linter.unusedVariables false
set_option linter.unusedSimpArgs false
namespace Go.Proofs.YtpooehcjchkbkaaV
open Go.RowKit
abbrev allE (es : List (D × D)) : List (Nat × D × D) := stEs es (List.range es.length)
theorem stEs_len : ∀ (es : List (D × D)) (bs : List Nat), es.length = bs.length → (stEs es bs).length = es.length
  | [], [], _ => rfl
  | [], _ :: _, h => by simp at h
  | _ :: _, [], h => by simp at h
  | p :: es, b :: bs, h => by simp [stEs, stEs_len es bs (by simpa using h)]
theorem stEs_fst : ∀ (es : List (D × D)) (bs : List Nat), es.length = bs.length → (stEs es bs).map (·.1) = bs
  | [], [], _ => rfl
  | [], _ :: _, h => by simp at h
  | _ :: _, [], h => by simp at h
  | p :: es, b :: bs, h => by simp [stEs, stEs_fst es bs (by simpa using h)]
theorem stEs_snd : ∀ (es : List (D × D)) (bs : List Nat), es.length = bs.length → (stEs es bs).map (·.2) = es
  | [], [], _ => rfl
  | [], _ :: _, h => by simp at h
  | _ :: _, [], h => by simp at h
  | p :: es, b :: bs, h => by simp [stEs, stEs_snd es bs (by simpa using h)]
theorem allE_fst (es : List (D × D)) : (allE es).map (·.1) = List.range es.length := stEs_fst _ _ (by simp)
theorem allE_snd (es : List (D × D)) : (allE es).map (·.2) = es := stEs_snd _ _ (by simp)
theorem allE_len (es : List (D × D)) : (allE es).length = es.length := stEs_len _ _ (by simp)
theorem allE_mem {es : List (D × D)} {p : Nat × D × D} (h : p ∈ allE es) : p.1 < es.length ∧ p.2 ∈ es := by
  have h1 : p.1 ∈ (allE es).map (·.1) := List.mem_map.2 ⟨p, h, rfl⟩
  have h2 : p.2 ∈ (allE es).map (·.2) := List.mem_map.2 ⟨p, h, rfl⟩
  rw [allE_fst] at h1
  rw [allE_snd] at h2
  exact ⟨by simpa using h1, h2⟩
theorem leftE_nil (l : List (Nat × D × D)) : leftE [] l = l := by simp [leftE]
theorem leftE_mem {seen : List Nat} {l : List (Nat × D × D)} {p : Nat × D × D} (h : p ∈ leftE seen l) : p ∈ l ∧ p.1 ∉ seen := by
  simp only [leftE, List.mem_filter, Bool.not_eq_true', List.contains_eq_mem, decide_eq_false_iff_not] at h
  exact h
theorem mem_leftE {seen : List Nat} {l : List (Nat × D × D)} {p : Nat × D × D} (h : p ∈ l) (hs : p.1 ∉ seen) : p ∈ leftE seen l := by
  simp only [leftE, List.mem_filter, Bool.not_eq_true', List.contains_eq_mem, decide_eq_false_iff_not]
  exact ⟨h, hs⟩
theorem leftE_snoc (seen : List Nat) (b : Nat) (l : List (Nat × D × D)) : leftE (seen ++ [b]) l = (leftE seen l).filter fun p => decide (p.1 ≠ b) := by
  simp only [leftE, List.filter_filter]
  congr 1
  funext p
  simp only [List.contains_eq_mem, List.mem_append, List.mem_singleton]
  by_cases h1 : p.1 ∈ seen <;> by_cases h2 : p.1 = b <;> simp [h1, h2]
theorem leftE_lt {seen : List Nat} {l : List (Nat × D × D)} {p : Nat × D × D} (h : p ∈ leftE seen l) : (leftE (seen ++ [p.1]) l).length < (leftE seen l).length := by
  rw [leftE_snoc]
  rcases Nat.lt_or_ge ((leftE seen l).filter fun q => decide (q.1 ≠ p.1)).length (leftE seen l).length with h1 | h1
  · exact h1
  · exfalso
    have := List.filter_eq_self.1 (List.Sublist.eq_of_length_le List.filter_sublist h1) p h
    simp at this
theorem nextM_map (o m : Nat) (es : List (D × D)) (seen : List Nat) : nextM o m es.length seen es.length (some (stEs es (List.range es.length), es.length)) = nextL o m es.length seen es.length (leftE seen (allE es)) := by
  unfold nextM
  have h : nextOk es.length seen es.length (allE es) = true := by
    unfold nextOk
    rw [Bool.and_eq_true, List.all_eq_true]
    refine ⟨fun p hp => by simpa using (allE_mem hp).1, ?_⟩
    cases hl : allE es with
    | nil => simp
    | cons p r =>
      have := (allE_mem (es := es) (p := p) (by rw [hl]; simp)).1
      simp [this]
  show (if nextOk es.length seen es.length (allE es) = true then _ else _) = _
  rw [if_pos h]
theorem entryL_get : ∀ {l : List (Nat × D × D)} {p : Nat × D × D}, (l.map (·.1)).Nodup → p ∈ l → entryL p.1 l = some (.tup [.d p.2.1, .d p.2.2])
  | q :: l, p, hn, hp => by
    obtain ⟨b, k, v⟩ := q
    simp only [List.map_cons, List.nodup_cons] at hn
    unfold entryL
    rcases List.mem_cons.1 hp with rfl | hp
    · simp
    · have hne : b ≠ p.1 := fun e => hn.1 (e ▸ List.mem_map.2 ⟨p, hp, rfl⟩)
      rw [if_neg hne]
      exact entryL_get hn.2 hp
theorem entry_all {es : List (D × D)} {p : Nat × D × D} (h : p ∈ allE es) : entryL p.1 (stEs es (List.range es.length)) = some (.tup [.d p.2.1, .d p.2.2]) :=
  entryL_get (by rw [allE_fst]; exact List.nodup_range) h
theorem nextL_nil (o m since : Nat) (seen : List Nat) (ck : Nat) : nextL o m since seen ck [] = .val overV [] := rfl
theorem nextL_cons (o m since : Nat) (seen : List Nat) (ck : Nat) (p : Nat × D × D) (l : List (Nat × D × D)) : nextL o m since seen ck (p :: l) = .alts ((p :: l).map fun p => (hitV p, [(o, .iter (some m) since (seen ++ [p.1]) ck)])) := rfl
theorem nextOk_map (es : List (D × D)) (seen : List Nat) : nextOk es.length seen es.length (allE es) = true := by
  unfold nextOk
  rw [Bool.and_eq_true, List.all_eq_true]
  refine ⟨fun p hp => by simpa using (allE_mem hp).1, ?_⟩
  cases hl : allE es with
  | nil => simp
  | cons p r =>
    have := (allE_mem (es := es) (p := p) (by rw [hl]; simp)).1
    simp [this]
theorem wop_next {C : Pg} {i nid : Nat} {acc : Acc} {dst : Option Nat} {x : Operand} {an : Ann} {r : List SOp} {st : St} {ks : List Fr} {K : Ex → St → Prop} {o m since last ck : Nat} {seen : List Nat} {l : List (Nat × D × D)} (hx : evalAV (envGet st.env) x = .it o) (ho : obGet st.obs o = .iter (some m) since seen last)
    (hm : mapAll (obGet st.obs m) = some (l, ck)) (hok : nextOk since seen last l = true) (h0 : leftE seen l = [] → wop C none (i + 1) (nid + an.lays) acc r (st.put dst overV []) ks K)
    (h1 : ∀ p ∈ leftE seen l, wop C none (i + 1) (nid + an.lays) acc r (st.put dst (hitV p) [(o, .iter (some m) since (seen ++ [p.1]) ck)]) ks K) : wop C none i nid acc (⟨dst, .next x false, none, an⟩ :: r) st ks K := by
  rw [wop_cons]
  have hop : opF C.T C.Q an (.next x false) (evalAV (envGet st.env)) (obGet st.obs) nid = nextL o m since seen ck (leftE seen l) := by
    simp only [opF, nextF, hx, nextO, ho, nextM, hm, hok, if_true]
  rw [hop]
  cases hl : leftE seen l with
  | nil =>
    rw [nextL_nil]
    simp only
    have : (keyChk [] (nid + an.lays) && chkD none i ⟨dst, .next x false, none, an⟩ st [] acc) = true := rfl
    rw [if_pos this]
    exact h0 hl
  | cons p r =>
    rw [nextL_cons]
    refine ⟨rfl, fun q hq => ?_⟩
    obtain ⟨p', hp', rfl⟩ := List.mem_map.1 hq
    exact h1 p' (by rw [hl]; exact hp')
section
variable {α β : Type} (E : KeyEnc α) (g : β → D)
def keysNe (m : List (α × β)) : Prop := m.Pairwise fun a b => E.eqb a.1 b.1 = false
theorem put_mem {k : α} {v : β} {p : α × β} : ∀ {m : List (α × β)}, p ∈ putP E k v m → p = (k, v) ∨ p ∈ m
  | [], h => by simp [putP] at h; exact .inl h
  | (q, u) :: r, h => by
    unfold putP at h
    split at h
    · rcases List.mem_cons.1 h with h | h
      · exact .inl h
      · exact .inr (by simp [h])
    · rcases List.mem_cons.1 h with h | h
      · exact .inr (by simp [h])
      · rcases put_mem h with h | h
        · exact .inl h
        · exact .inr (by simp [h])
theorem put_keys {k : α} {v : β} : ∀ {m : List (α × β)}, keysNe E m → keysNe E (putP E k v m)
  | [], _ => by simp [putP, keysNe]
  | (q, u) :: r, h => by
    have h' := List.pairwise_cons.1 h
    unfold putP
    split
    · rename_i hk
      have e : k = q := (E.eq k q).1 hk
      subst e
      exact List.pairwise_cons.2 ⟨fun p hp => h'.1 p hp, h'.2⟩
    · rename_i hk
      refine List.pairwise_cons.2 ⟨fun p hp => ?_, put_keys h'.2⟩
      rcases put_mem E hp with rfl | hp
      · cases hq : E.eqb q k with
        | false => rfl
        | true => exact absurd ((E.eq k q).2 ((E.eq q k).1 hq).symm) hk
      · exact h'.1 p hp
theorem look_mem {p : α × β} : ∀ {m : List (α × β)}, keysNe E m → p ∈ m → lookP E p.1 m = some p.2
  | (q, u) :: r, h, hp => by
    have h' := List.pairwise_cons.1 h
    unfold lookP
    rcases List.mem_cons.1 hp with rfl | hp
    · simp [(E.eq q q).2 rfl]
    · have : E.eqb p.1 q = false := by
        cases hq : E.eqb p.1 q with
        | false => rfl
        | true =>
          have e := (E.eq p.1 q).1 hq
          have := h'.1 p hp
          simp only at this
          rw [e, (E.eq q q).2 rfl] at this; cases this
      rw [this]
      exact look_mem h'.2 hp
theorem mem_look {k : α} {v : β} : ∀ {m : List (α × β)}, lookP E k m = some v → (k, v) ∈ m
  | (q, u) :: r, h => by
    unfold lookP at h
    split at h
    · rename_i hk
      injection h with h
      rw [(E.eq k q).1 hk, h]; simp
    · exact List.mem_cons_of_mem _ (mem_look h)
theorem mapD_mem {m : List (α × β)} {kd vd : D} (h : (kd, vd) ∈ mapD E g m) : ∃ p ∈ m, kd = E.f p.1 ∧ vd = g p.2 := by
  obtain ⟨p, hp, e⟩ := List.mem_map.1 h
  injection e with e1 e2
  exact ⟨p, hp, e1.symm, e2.symm⟩
theorem lookF_get (k : α) (m : List (α × β)) (z : β) : lookF false (some (g z)) (findD (E.f k) (mapD E g m) 0) = some (.d (g ((lookP E k m).getD z))) := by
  rw [findD_look]
  cases lookP E k m <;> rfl
end
end Go.Proofs.YtpooehcjchkbkaaV
