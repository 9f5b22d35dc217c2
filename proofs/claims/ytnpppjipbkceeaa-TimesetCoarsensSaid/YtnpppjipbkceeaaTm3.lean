/- The reference's Combine gives the set; so both are the same. -/
import Derived.Test.YtnpppjipbkceeaaTm2
set_option linter.unusedVariables false
set_option linter.unusedSimpArgs false
namespace Go.Proofs.YtnpppjipbkceeaaV
theorem posN_split (n : Int) : ∀ {l : List Int}, ordZ l → (∀ y ∈ l.take (posN n l), y < n) ∧ ∀ y ∈ l.drop (posN n l), n ≤ y
  | [], _ => by simp [posN]
  | x :: r, h => by
    obtain ⟨h1, h2⟩ := List.pairwise_cons.1 h
    obtain ⟨a, b⟩ := posN_split n h2
    simp only [posN]
    by_cases hx : x < n
    · rw [if_pos hx]
      refine ⟨fun y hy => ?_, fun y hy => b y (by simpa using hy)⟩
      simp only [List.take_succ_cons, List.mem_cons] at hy
      rcases hy with rfl | hy
      · exact hx
      · exact a y hy
    · rw [if_neg hx]
      refine ⟨by simp, fun y hy => ?_⟩
      simp only [List.drop_zero, List.mem_cons] at hy
      rcases hy with rfl | hy
      · omega
      · have := h1 y hy; omega
theorem insB_spec (n : Int) {l : List Int} (h : ordZ l) : ordZ (insB n l) ∧ ∀ y, y ∈ insB n l ↔ y = n ∨ y ∈ l := by
  obtain ⟨a, b⟩ := posN_split n h
  unfold insB
  by_cases hx : l[posN n l]? = some n
  · rw [if_pos hx]
    exact ⟨h, fun y => ⟨.inr, by rintro (rfl | hy); exact List.mem_of_getElem? hx; exact hy⟩⟩
  · rw [if_neg hx]
    have b' : ∀ y ∈ l.drop (posN n l), n < y := fun y hy => by
      have h1 := b y hy
      rcases Int.lt_or_eq_of_le h1 with h2 | h2
      · exact h2
      · exfalso
        subst h2
        obtain ⟨j, hj⟩ := List.mem_iff_getElem?.1 hy
        cases hd : l.drop (posN n l) with
        | nil => rw [hd] at hy; cases hy
        | cons z r =>
          have hz : l[posN n l]? = some z := by
            have := congrArg (·[0]?) hd
            simpa using this
          have hz1 := b z (by rw [hd]; simp)
          have hzn : z ≠ n := fun e => hx (by rw [hz, e])
          rw [hd] at hy
          rcases List.mem_cons.1 hy with e | hy
          · exact hzn e.symm
          · have hh := h
            unfold ordZ at hh
            rw [← List.take_append_drop (posN n l) l, List.pairwise_append, hd] at hh
            have := (List.pairwise_cons.1 hh.2.1).1 n hy
            omega
    generalize posN n l = k at *
    have hh := h
    unfold ordZ at hh ⊢
    rw [← List.take_append_drop k l, List.pairwise_append] at hh
    refine ⟨List.pairwise_append.2 ⟨hh.1, List.pairwise_cons.2 ⟨b', hh.2.1⟩, fun p hp q hq => ?_⟩, fun y => ?_⟩
    · rcases List.mem_cons.1 hq with rfl | hq
      · exact a p hp
      · exact hh.2.2 p hp q hq
    · rw [List.mem_append, List.mem_cons]
      conv => rhs; rw [← List.take_append_drop k l, List.mem_append]
      constructor
      · rintro (h | h | h)
        · exact .inr (.inl h)
        · exact .inl h
        · exact .inr (.inr h)
      · rintro (h | h | h)
        · exact .inr (.inl h)
        · exact .inl h
        · exact .inr (.inr h)
theorem bnI_spec : ∀ (r : List Int) {s : List Int}, ordZ s → ordZ (bnI s r) ∧ ∀ y, y ∈ bnI s r ↔ y ∈ s ∨ y ∈ r
  | [], s, h => ⟨h, fun y => by simp [bnI]⟩
  | n :: r, s, h => by
    obtain ⟨a, b⟩ := insB_spec n h
    obtain ⟨c, d⟩ := bnI_spec r a
    simp only [bnI]
    refine ⟨c, fun y => ?_⟩
    rw [d, b, List.mem_cons]
    constructor
    · rintro ((h | h) | h)
      · exact .inr (.inl h)
      · exact .inl h
      · exact .inr (.inr h)
    · rintro (h | h | h)
      · exact .inl (.inr h)
      · exact .inl (.inl h)
      · exact .inr h
theorem bdL_app (a b : List Iv) : bdL (a ++ b) = bdL a ++ bdL b := by
  induction a with
  | nil => rfl
  | cons p a ih => simp [bdL, ih]
theorem bdL_mem {l : List Iv} {p : Iv} (h : p ∈ l) : p.1 ∈ bdL l ∧ p.2 ∈ bdL l := by
  induction l with
  | nil => cases h
  | cons q l ih =>
    rcases List.mem_cons.1 h with rfl | h
    · simp [bdL]
    · obtain ⟨a, b⟩ := ih h; simp [bdL, a, b]
/-- Between two bounds nothing changes. -/
theorem has_const {l : List Iv} {y x : Int} (hyx : y ≤ x) (h : ∀ z ∈ bdL l, ¬ (y < z ∧ z ≤ x)) : hasB l x = hasB l y := by
  rw [Bool.eq_iff_iff, hasB_iff, hasB_iff]
  constructor
  · rintro ⟨p, hp, h1, h2⟩
    obtain ⟨b1, b2⟩ := bdL_mem hp
    have := h _ b1
    exact ⟨p, hp, by omega, by omega⟩
  · rintro ⟨p, hp, h1, h2⟩
    obtain ⟨b1, b2⟩ := bdL_mem hp
    have := h _ b2
    exact ⟨p, hp, by omega, by omega⟩
theorem has_out {l : List Iv} {x : Int} (h : (∀ z ∈ bdL l, x < z) ∨ ∀ z ∈ bdL l, z ≤ x) : hasB l x = false := by
  cases hb : hasB l x with
  | false => rfl
  | true =>
    obtain ⟨p, hp, h1, h2⟩ := (hasB_iff _ _).1 hb
    obtain ⟨b1, b2⟩ := bdL_mem hp
    rcases h with h | h
    · have := h _ b1; omega
    · have := h _ b2; omega
theorem rcL_spec (f : Bool → Bool → Bool) (hf : f false false = false) (a b : List Iv) : ∀ (l : List Int), ordZ l → (∀ z, z ∈ bdL a ∨ z ∈ bdL b → (∃ y ∈ l, y = z) ∨ ∀ y ∈ l, z < y) → ∀ x, (∀ y ∈ l.head?, y ≤ x) → (l = [] → False) →
    (memI (rcL f a b l) x ↔ f (hasB a x) (hasB b x) = true)
  | [], _, _, _, _, hne => (hne rfl).elim
  | [y], _, hz, x, hx, _ => by
    have hy : y ≤ x := hx y (by simp)
    have out : ∀ z, z ∈ bdL a ∨ z ∈ bdL b → z ≤ x := fun z h => by
      rcases hz z h with ⟨w, hw, rfl⟩ | h
      · simp at hw; omega
      · have := h y (by simp); omega
    rw [has_out (.inr fun z h => out z (.inl h)), has_out (.inr fun z h => out z (.inr h)), hf]
    simp [rcL, memI_nil]
  | y :: z :: r, ho, hz, x, hx, _ => by
    obtain ⟨o1, o2⟩ := List.pairwise_cons.1 ho
    have hy : y ≤ x := hx y (by simp)
    have hyz := o1 z (by simp)
    have o3 := (List.pairwise_cons.1 o2).1
    by_cases hxz : z ≤ x
    · have ih := rcL_spec f hf a b (z :: r) o2 (fun w hw => by
        rcases hz w hw with ⟨v, hv, rfl⟩ | h
        · rcases List.mem_cons.1 hv with rfl | hv
          · exact .inr fun u hu => by
              rcases List.mem_cons.1 hu with rfl | hu
              · exact hyz
              · have := o3 u hu; omega
          · exact .inl ⟨v, hv, rfl⟩
        · exact .inr fun u hu => h u (by simp [hu])) x (by simpa using hxz) (by simp)
      simp only [rcL]
      split
      · rw [memI_cons, ih]
        constructor
        · rintro (h | h)
          · omega
          · exact h
        · exact .inr
      · exact ih
    · have hlt : ∀ p ∈ rcL f a b (z :: r), z ≤ p.1 := by
        have : ∀ (l : List Int), ordZ l → ∀ p ∈ rcL f a b l, ∀ m, (∀ u ∈ l, m ≤ u) → m ≤ p.1 := by
          intro l
          induction l with
          | nil => intro _ p hp; simp [rcL] at hp
          | cons u l ih =>
            intro hl p hp m hm
            cases l with
            | nil => simp [rcL] at hp
            | cons v l =>
              simp only [rcL] at hp
              split at hp
              · rcases List.mem_cons.1 hp with rfl | hp
                · exact hm u (by simp)
                · exact ih (List.pairwise_cons.1 hl).2 p hp m fun w hw => hm w (by simp [hw])
              · exact ih (List.pairwise_cons.1 hl).2 p hp m fun w hw => hm w (by simp [hw])
        exact fun p hp => this _ o2 p hp z fun u hu => by
          rcases List.mem_cons.1 hu with rfl | hu
          · omega
          · have := o3 u hu; omega
      have hno : ¬ memI (rcL f a b (z :: r)) x := fun ⟨p, hp, h1, h2⟩ => by have := hlt p hp; omega
      have hc : ∀ w, w ∈ bdL a ∨ w ∈ bdL b → ¬ (y < w ∧ w ≤ x) := fun w hw hh => by
        rcases hz w hw with ⟨v, hv, rfl⟩ | h
        · rcases List.mem_cons.1 hv with rfl | hv
          · omega
          · rcases List.mem_cons.1 hv with rfl | hv
            · omega
            · have := o3 v hv; omega
        · have := h y (by simp); omega
      rw [has_const hy fun w hw => hc w (.inl hw), has_const hy fun w hw => hc w (.inr hw)]
      simp only [rcL]
      split
      · rename_i hv
        rw [memI_cons]
        simp only [hv, iff_true]
        exact .inl ⟨hy, by omega⟩
      · rename_i hv
        simp only [hno, false_iff]
        exact hv
theorem rcL_lo (f : Bool → Bool → Bool) (a b : List Iv) : ∀ (l : List Int), ordZ l → ∀ p ∈ rcL f a b l, ∀ m, (∀ u ∈ l, m ≤ u) → m ≤ p.1
  | [], _, p, hp, _, _ => by simp [rcL] at hp
  | [u], _, p, hp, _, _ => by simp [rcL] at hp
  | u :: v :: l, hl, p, hp, m, hm => by
    simp only [rcL] at hp
    split at hp
    · rcases List.mem_cons.1 hp with rfl | hp
      · exact hm u (by simp)
      · exact rcL_lo f a b (v :: l) (List.pairwise_cons.1 hl).2 p hp m fun w hw => hm w (by simp only [List.mem_cons] at hw ⊢; exact .inr hw)
    · exact rcL_lo f a b (v :: l) (List.pairwise_cons.1 hl).2 p hp m fun w hw => hm w (by simp only [List.mem_cons] at hw ⊢; exact .inr hw)
theorem refC_spec (f : Bool → Bool → Bool) (hf : f false false = false) (a b : List Iv) : NormI (refC f a b) ∧ ∀ x, memI (refC f a b) x ↔ f (hasB a x) (hasB b x) = true := by
  unfold refC
  obtain ⟨n1, n2⟩ := ofI_norm (rcL f a b (bnI [] (bdL (a ++ b))))
  refine ⟨n1, fun x => ?_⟩
  rw [n2]
  obtain ⟨o1, o2⟩ := bnI_spec (bdL (a ++ b)) (s := []) List.Pairwise.nil
  have o3 : ∀ z, z ∈ bdL a ∨ z ∈ bdL b → z ∈ bnI [] (bdL (a ++ b)) := fun z h => by
    rw [o2, bdL_app, List.mem_append]; exact .inr h
  generalize bnI [] (bdL (a ++ b)) = l at *
  cases l with
  | nil =>
    have e : ∀ z, z ∈ bdL a ∨ z ∈ bdL b → x < z := fun z h => by have := o3 z h; cases this
    rw [has_out (.inl fun z h => e z (.inl h)), has_out (.inl fun z h => e z (.inr h)), hf]
    simp [rcL, memI_nil]
  | cons y r =>
    by_cases hy : y ≤ x
    · exact rcL_spec f hf a b (y :: r) o1 (fun z h => .inl ⟨z, o3 z h, rfl⟩) x (by simpa using hy) (by simp)
    · have lo : ∀ u ∈ y :: r, y ≤ u := fun u hu => by
        rcases List.mem_cons.1 hu with rfl | hu
        · omega
        · have := (List.pairwise_cons.1 o1).1 u hu; omega
      have e : ∀ z, z ∈ bdL a ∨ z ∈ bdL b → x < z := fun z h => by have := lo z (o3 z h); omega
      rw [has_out (.inl fun z h => e z (.inl h)), has_out (.inl fun z h => e z (.inr h)), hf]
      simp only [Bool.false_eq_true, iff_false]
      rintro ⟨p, hp, h1, h2⟩
      have := rcL_lo f a b (y :: r) o1 p hp y lo
      omega
/-- The program's and the reference's. -/
theorem cmb_refC (f : Bool → Bool → Bool) (hf : f false false = false) {a b : List Iv} (ha : NormI a) (hb : NormI b) : cmb f a b = refC f a b := by
  obtain ⟨h1, h2⟩ := cmb_spec f hf ha hb
  obtain ⟨h3, h4⟩ := refC_spec f hf a b
  exact norm_ext h1 h3 fun x => by rw [h2, h4]
end Go.Proofs.YtnpppjipbkceeaaV
