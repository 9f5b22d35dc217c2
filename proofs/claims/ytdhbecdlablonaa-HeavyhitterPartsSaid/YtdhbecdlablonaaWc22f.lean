/- Plain: the order of strings; what put, less and add leave. -/
import Derived.Test.YtdhbecdlablonaaWc22e
import Derived.Test.YtdhbecdlablonaaVC
import Derived.Test.YtdhbecdlablonaaVD
set_option linter.unusedVariables false
set_option linter.unusedSimpArgs false
namespace Go.Proofs.YtdhbecdlablonaaV
open Go.RowKit
theorem bless_tri : ∀ (a b : List UInt8), (Op.bytesLess a b = true ∧ Op.bytesLess b a = false ∧ a ≠ b) ∨ (Op.bytesLess a b = false ∧ Op.bytesLess b a = true ∧ a ≠ b) ∨ (Op.bytesLess a b = false ∧ Op.bytesLess b a = false ∧ a = b)
  | [], [] => by simp [Op.bytesLess]
  | [], y :: b => by simp [Op.bytesLess]
  | x :: a, [] => by simp [Op.bytesLess]
  | x :: a, y :: b => by
    have ih := bless_tri a b
    simp only [Op.bytesLess]
    rcases Nat.lt_trichotomy x.toNat y.toNat with h | h | h
    · have h1 : x < y := h
      have h2 : ¬ y < x := fun h' => by have : y.toNat < x.toNat := h'; omega
      have h3 : x ≠ y := fun e => by subst e; omega
      have h4 : ¬ y = x := fun e => h3 e.symm
      simp [h1, h2, h3, h4]
    · have e : x = y := UInt8.toNat.inj h
      subst e
      have h2 : ¬ x < x := fun h' => by have : x.toNat < x.toNat := h'; omega
      simpa [h2] using ih
    · have h1 : y < x := h
      have h2 : ¬ x < y := fun h' => by have : x.toNat < y.toNat := h'; omega
      have h3 : x ≠ y := fun e => by subst e; omega
      simp [h1, h2, h3]
theorem bless_trans : ∀ (a b c : List UInt8), Op.bytesLess a b = true → Op.bytesLess b c = true → Op.bytesLess a c = true
  | _, _, [], _, h => by simp [Op.bytesLess] at h
  | _, [], z :: c, h, _ => by simp [Op.bytesLess] at h
  | [], y :: b, z :: c, _, _ => by simp [Op.bytesLess]
  | x :: a, y :: b, z :: c, h1, h2 => by
    simp only [Op.bytesLess, Bool.or_eq_true, decide_eq_true_eq, Bool.and_eq_true, beq_iff_eq] at h1 h2 ⊢
    rcases h1 with h1 | ⟨rfl, h1⟩
    · rcases h2 with h2 | ⟨rfl, h2⟩
      · left
        have a1 : x.toNat < y.toNat := h1
        have a2 : y.toNat < z.toNat := h2
        show x.toNat < z.toNat
        omega
      · exact .inl h1
    · rcases h2 with h2 | ⟨rfl, h2⟩
      · exact .inl h2
      · exact .inr ⟨rfl, bless_trans a b c h1 h2⟩
theorem lessS_trans {a b c : ByteArray} (h1 : lessS a b = true) (h2 : lessS b c = true) : lessS a c = true := bless_trans _ _ _ h1 h2
theorem lessS_irr (a : ByteArray) : lessS a a = false := by
  rcases bless_tri a.toList a.toList with ⟨_, _, h⟩ | ⟨_, _, h⟩ | ⟨h, _, _⟩
  · exact absurd rfl h
  · exact absurd rfl h
  · exact h
theorem lessS_asym {a b : ByteArray} (h : lessS a b = true) : lessS b a = false := by
  cases h2 : lessS b a with
  | false => rfl
  | true => have := lessS_trans h h2; rw [lessS_irr] at this; cases this
theorem lessS_ne {a b : ByteArray} (h : lessS a b = true) : eqS a b = false := by
  cases h2 : eqS a b with
  | false => rfl
  | true => rw [(eqS_iff a b).1 h2, lessS_irr] at h; cases h
theorem eqS_comm (a b : ByteArray) : eqS a b = eqS b a := by
  cases h : eqS b a with
  | true => rw [(eqS_iff b a).1 h, eqS_self]
  | false =>
    cases h2 : eqS a b with
    | false => rfl
    | true => rw [(eqS_iff a b).1 h2, eqS_self] at h; cases h
theorem lessS_ne' {a b : ByteArray} (h : lessS a b = true) : eqS b a = false := by rw [eqS_comm]; exact lessS_ne h
theorem lessS_tri {a b : ByteArray} (h1 : lessS a b = false) (h2 : eqS a b = false) : lessS b a = true := by
  rcases bless_tri a.toList b.toList with ⟨h, _, _⟩ | ⟨_, h, _⟩ | ⟨_, _, h⟩
  · exact absurd (show lessS a b = true from h) (by simp [h1])
  · exact h
  · exfalso
    have : eqS a b = true := by unfold eqS; simp [h]
    rw [h2] at this; cases this
/-- In order of the keys. -/
def srt (l : List Ctr) : Prop := l.Pairwise fun p q => lessS p.1 q.1 = true
theorem srt_ne {l : List Ctr} (h : srt l) : keysNe strK l := h.imp fun h => lessS_ne h
theorem cnt_none {k : ByteArray} : ∀ {l : List Ctr}, (∀ p ∈ l, eqS p.1 k = false) → cntC k l = 0
  | [], _ => rfl
  | p :: l, h => by
    have := cnt_none (k := k) (l := l) fun q hq => h q (List.mem_cons_of_mem _ hq)
    simp [cntC, h p (by simp), this]
theorem cnt_mem {k : ByteArray} : ∀ {l : List Ctr}, cntC k l ≠ 0 → (k, cntC k l) ∈ l
  | [], h => absurd rfl h
  | p :: l, h => by
    simp only [cntC] at h ⊢
    split
    · rename_i he; rw [← (eqS_iff _ _).1 he]; simp
    · rename_i he; rw [if_neg he] at h; exact List.mem_cons_of_mem _ (cnt_mem h)
theorem mem_cnt {p : Ctr} : ∀ {l : List Ctr}, srt l → p ∈ l → cntC p.1 l = p.2
  | q :: l, hs, hp => by
    have hs' := List.pairwise_cons.1 hs
    rcases List.mem_cons.1 hp with rfl | hp
    · simp [cntC, eqS_self]
    · simp [cntC, lessS_ne (hs'.1 p hp), mem_cnt hs'.2 hp]
theorem look_cnt (k : ByteArray) : ∀ l : List Ctr, (lookP strK k l).getD 0 = cntC k l
  | [] => rfl
  | (q, v) :: l => by
    have e : strK.eqb k q = eqS q k := eqS_comm k q
    simp only [lookP, cntC, e]
    split
    · rfl
    · exact look_cnt k l
theorem put_key {k : ByteArray} {n : Int} {p : Ctr} : ∀ {l : List Ctr}, p ∈ putC k n l → p.1 = k ∨ ∃ q ∈ l, q.1 = p.1
  | [], h => by simp [putC] at h; subst h; exact .inl rfl
  | q :: l, h => by
    unfold putC at h
    split at h
    · rcases List.mem_cons.1 h with rfl | h
      · exact .inr ⟨_, by simp, rfl⟩
      · rcases put_key h with h | ⟨r, hr, e⟩
        · exact .inl h
        · exact .inr ⟨r, by simp [hr], e⟩
    · split at h
      · rcases List.mem_cons.1 h with rfl | h
        · exact .inr ⟨q, by simp, rfl⟩
        · exact .inr ⟨p, by simp [h], rfl⟩
      · rcases List.mem_cons.1 h with rfl | h
        · exact .inl rfl
        · exact .inr ⟨p, h, rfl⟩
theorem put_srt {k : ByteArray} {n : Int} : ∀ {l : List Ctr}, srt l → srt (putC k n l)
  | [], _ => by simp [putC, srt]
  | q :: l, h => by
    have h' := List.pairwise_cons.1 h
    unfold putC
    split
    · rename_i hq
      refine List.pairwise_cons.2 ⟨fun p hp => ?_, put_srt h'.2⟩
      rcases put_key hp with e | ⟨r, hr, e⟩
      · rw [e]; exact hq
      · rw [← e]; exact h'.1 r hr
    · rename_i hq
      split
      · exact List.pairwise_cons.2 ⟨h'.1, h'.2⟩
      · rename_i he
        have hk := lessS_tri (by simpa using hq) (by simpa using he)
        refine List.pairwise_cons.2 ⟨fun p hp => ?_, h⟩
        rcases List.mem_cons.1 hp with rfl | hp
        · exact hk
        · exact lessS_trans hk (h'.1 p hp)
theorem less_key {d : Int} {p : Ctr} : ∀ {l : List Ctr}, p ∈ lessC d l → ∃ q ∈ l, q.1 = p.1 ∧ d < q.2 ∧ p.2 = IntKind.i64.wrap (q.2 - d)
  | q :: l, h => by
    unfold lessC at h
    split at h
    · rcases List.mem_cons.1 h with rfl | h
      · rename_i hd; exact ⟨q, by simp, rfl, hd, rfl⟩
      · obtain ⟨r, hr, e⟩ := less_key h; exact ⟨r, by simp [hr], e⟩
    · obtain ⟨r, hr, e⟩ := less_key h; exact ⟨r, by simp [hr], e⟩
theorem less_srt {d : Int} : ∀ {l : List Ctr}, srt l → srt (lessC d l)
  | [], _ => by simp [lessC, srt]
  | q :: l, h => by
    have h' := List.pairwise_cons.1 h
    unfold lessC
    split
    · refine List.pairwise_cons.2 ⟨fun p hp => ?_, less_srt h'.2⟩
      obtain ⟨r, hr, e, _⟩ := less_key hp
      rw [← e]; exact h'.1 r hr
    · exact less_srt h'.2
theorem cnt_put {k : ByteArray} {n : Int} (q : ByteArray) : ∀ {l : List Ctr}, srt l → (∀ p ∈ l, IntKind.i64.wrap (p.2 + n) = p.2 + n) → cntC q (putC k n l) = cntC q l + if q = k then n else 0
  | [], _, _ => by
    simp only [putC, cntC]
    by_cases h : q = k
    · subst h; simp [eqS_self]
    · have : ¬ eqS k q = true := fun e => h ((eqS_iff _ _).1 e).symm
      simp [h, this]
  | p :: l, hs, hw => by
    have hs' := List.pairwise_cons.1 hs
    have ih := cnt_put (k := k) (n := n) q hs'.2 fun p hp => hw p (by simp [hp])
    have hw0 := hw p (by simp)
    unfold putC
    split
    · rename_i hl
      simp only [cntC, ih]
      by_cases he : eqS p.1 q = true
      · have hq := (eqS_iff _ _).1 he
        have : ¬ q = k := by rintro rfl; rw [hq, lessS_irr] at hl; cases hl
        simp [he, this]
      · simp [he]
    · rename_i hl
      split
      · rename_i he
        have hk := (eqS_iff _ _).1 he
        simp only [cntC, hw0]
        by_cases hq : eqS p.1 q = true
        · have := (eqS_iff _ _).1 hq
          rw [← this, hk, if_pos rfl]; simp [eqS_self]
        · have : ¬ q = k := by rintro rfl; exact hq he
          simp [hq, this]
      · rename_i he
        have hk := lessS_tri (by simpa using hl) (by simpa using he)
        have h0 : cntC k (p :: l) = 0 := cnt_none fun r hr => by
          rcases List.mem_cons.1 hr with rfl | hr
          · simpa using he
          · exact lessS_ne' (lessS_trans hk (hs'.1 r hr))
        by_cases hq : q = k
        · subst hq
          rw [h0]
          simp [cntC, eqS_self]
        · have : ¬ eqS k q = true := fun e => hq ((eqS_iff _ _).1 e).symm
          simp [hq, cntC, this]
theorem cnt_less {d : Int} (hd : 0 ≤ d) (q : ByteArray) : ∀ {l : List Ctr}, srt l → (∀ p ∈ l, IntKind.i64.wrap (p.2 - d) = p.2 - d) → cntC q (lessC d l) = if d < cntC q l then cntC q l - d else 0
  | [], _, _ => by
    have : ¬ d < 0 := by omega
    simp [lessC, cntC, this]
  | p :: l, hs, hw => by
    have hs' := List.pairwise_cons.1 hs
    have ih := cnt_less (d := d) hd q hs'.2 fun p hp => hw p (List.mem_cons_of_mem _ hp)
    have hw0 := hw p (by simp)
    by_cases he : eqS p.1 q = true
    · have hq := (eqS_iff _ _).1 he
      have hn : ∀ r ∈ lessC d l, eqS r.1 q = false := fun r hr => by
        obtain ⟨s, hs2, e, _⟩ := less_key hr
        rw [← e, ← hq]; exact lessS_ne' (hs'.1 s hs2)
      have hc : cntC q (p :: l) = p.2 := by simp [cntC, he]
      rw [hc]
      unfold lessC
      by_cases h2 : d < p.2
      · rw [if_pos h2, if_pos h2]
        simp [cntC, he, hw0]
      · rw [if_neg h2, if_neg h2, cnt_none hn]
    · have hh : cntC q (lessC d (p :: l)) = cntC q (lessC d l) := by
        simp only [lessC]; split <;> first | rfl | simp [cntC, he]
      have hc : cntC q (p :: l) = cntC q l := by simp [cntC, he]
      rw [hh, ih, hc]
def sumC : List Ctr → Int
  | [] => 0
  | p :: l => p.2 + sumC l
theorem sum_put {k : ByteArray} {n : Int} : ∀ {l : List Ctr}, (∀ p ∈ l, IntKind.i64.wrap (p.2 + n) = p.2 + n) → sumC (putC k n l) = sumC l + n
  | [], _ => by simp [putC, sumC]
  | p :: l, hw => by
    have ih := sum_put (k := k) (n := n) fun p hp => hw p (List.mem_cons_of_mem _ hp)
    have hw0 := hw p (by simp)
    unfold putC
    split
    · simp only [sumC, ih]; omega
    · split
      · simp only [sumC, hw0]; omega
      · simp only [sumC]; omega
theorem put_in {k : ByteArray} {n : Int} : ∀ {l : List Ctr}, srt l → (∃ p ∈ l, p.1 = k) → (putC k n l).length = l.length
  | p :: l, hs, h => by
    have hs' := List.pairwise_cons.1 hs
    unfold putC
    split
    · rename_i hl
      obtain ⟨q, hq, e⟩ := h
      rcases List.mem_cons.1 hq with rfl | hq
      · rw [e, lessS_irr] at hl; cases hl
      · simp [put_in (n := n) hs'.2 ⟨q, hq, e⟩]
    · split
      · rfl
      · rename_i hl he
        exfalso
        have hk := lessS_tri (by simpa using hl) (by simpa using he)
        obtain ⟨q, hq, e⟩ := h
        rcases List.mem_cons.1 hq with rfl | hq
        · rw [e, lessS_irr] at hk; cases hk
        · have := lessS_trans hk (hs'.1 q hq)
          rw [e, lessS_irr] at this; cases this
theorem minC_le : ∀ (l : List Ctr) (d : Int), minC d l ≤ d ∧ (∀ p ∈ l, minC d l ≤ p.2) ∧ (minC d l = d ∨ ∃ p ∈ l, minC d l = p.2)
  | [], d => by simp [minC]
  | p :: l, d => by
    have hm : ∃ e, e = (if p.2 < d then p.2 else d) ∧ e ≤ d ∧ e ≤ p.2 ∧ (e = d ∨ e = p.2) := by
      refine ⟨_, rfl, ?_⟩
      by_cases h : p.2 < d
      · rw [if_pos h]; omega
      · rw [if_neg h]; omega
    obtain ⟨e, he, h4, h5, h6⟩ := hm
    obtain ⟨h1, h2, h3⟩ := minC_le l e
    simp only [minC, ← he]
    refine ⟨by omega, fun q hq => ?_, ?_⟩
    · rcases List.mem_cons.1 hq with rfl | hq
      · omega
      · exact h2 q hq
    · rcases h3 with h3 | ⟨q, hq, h3⟩
      · rcases h6 with h6 | h6
        · exact .inl (by omega)
        · exact .inr ⟨p, by simp, by omega⟩
      · exact .inr ⟨q, by simp [hq], h3⟩
theorem sum_less {d : Int} : ∀ {l : List Ctr}, (∀ p ∈ l, d ≤ p.2 ∧ IntKind.i64.wrap (p.2 - d) = p.2 - d) → sumC (lessC d l) = sumC l - d * l.length
  | [], _ => by simp [lessC, sumC]
  | p :: l, h => by
    have ih := sum_less (d := d) fun p hp => h p (List.mem_cons_of_mem _ hp)
    have h0 := h p (by simp)
    have e : d * ((l.length : Int) + 1) = d * l.length + d := by rw [Int.mul_add, Int.mul_one]
    unfold lessC
    split
    · simp only [sumC, ih, h0.2, List.length_cons, Int.natCast_add, Int.natCast_one, e]; omega
    · simp only [sumC, ih, List.length_cons, Int.natCast_add, Int.natCast_one, e]; omega
theorem less_len {d : Int} : ∀ {l : List Ctr}, (∃ p ∈ l, p.2 ≤ d) → (lessC d l).length < l.length
  | p :: l, h => by
    have h1 := lessC_len d l
    obtain ⟨q, hq, e⟩ := h
    unfold lessC
    rcases List.mem_cons.1 hq with rfl | hq
    · rw [if_neg (by omega)]; simp only [List.length_cons]; omega
    · have h2 := less_len (d := d) ⟨q, hq, e⟩
      split <;> simp only [List.length_cons] <;> omega
theorem sum_le : ∀ {l : List Ctr}, (∀ p ∈ l, 1 ≤ p.2) → 0 ≤ sumC l ∧ ∀ p ∈ l, p.2 ≤ sumC l
  | [], _ => by simp [sumC]
  | p :: l, h => by
    obtain ⟨h1, h2⟩ := sum_le fun q hq => h q (List.mem_cons_of_mem _ hq)
    have h0 := h p (by simp)
    simp only [sumC]
    refine ⟨by omega, fun q hq => ?_⟩
    rcases List.mem_cons.1 hq with rfl | hq
    · omega
    · have := h2 q hq; omega
end Go.Proofs.YtdhbecdlablonaaV
