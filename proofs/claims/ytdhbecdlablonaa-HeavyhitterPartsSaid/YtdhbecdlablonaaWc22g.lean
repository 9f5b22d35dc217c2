/- Plain: the invariant of summaries. -/
import Derived.Test.YtdhbecdlablonaaWc22f
set_option linter.unusedVariables false
set_option linter.unusedSimpArgs false
namespace Go.Proofs.YtdhbecdlablonaaV
open Go.RowKit
structure okS (s : Sm) : Prop where
  most : 1 ≤ s.most ∧ s.most ≤ 256
  tot : 0 ≤ s.tot ∧ s.tot ≤ 1125899906842624
  lost : 0 ≤ s.lost
  len : (s.cs.length : Int) ≤ s.most
  srt : srt s.cs
  nm : ∀ p ∈ s.cs, isName p.1 = true
  pos : ∀ p ∈ s.cs, 1 ≤ p.2
  sum : sumC s.cs + s.lost * (s.most + 1) ≤ s.tot
theorem okS.lostLe {s : Sm} (h : okS s) : s.lost ≤ s.tot ∧ sumC s.cs ≤ s.tot := by
  have h1 := (sum_le h.pos).1
  have h2 := h.sum
  have h3 := h.lost
  have h4 : s.lost * 1 ≤ s.lost * (s.most + 1) := Int.mul_le_mul_of_nonneg_left (by have := h.most; omega) h3
  omega
theorem okS.le {s : Sm} (h : okS s) : ∀ p ∈ s.cs, p.2 ≤ s.tot := fun p hp => by
  have h1 := (sum_le h.pos).2 p hp
  have := h.lostLe
  omega
theorem put_mem2 {k : ByteArray} {n : Int} {p : Ctr} : ∀ {l : List Ctr}, (∀ p ∈ l, IntKind.i64.wrap (p.2 + n) = p.2 + n) → p ∈ putC k n l → p = (k, n) ∨ p ∈ l ∨ ∃ q ∈ l, p = (q.1, q.2 + n)
  | [], _, h => by simp [putC] at h; exact .inl h
  | q :: l, hw, h => by
    have hw0 := hw q (by simp)
    unfold putC at h
    split at h
    · rcases List.mem_cons.1 h with rfl | h
      · exact .inr (.inl (by simp))
      · rcases put_mem2 (fun p hp => hw p (List.mem_cons_of_mem _ hp)) h with h | h | ⟨r, hr, e⟩
        · exact .inl h
        · exact .inr (.inl (by simp [h]))
        · exact .inr (.inr ⟨r, by simp [hr], e⟩)
    · split at h
      · rcases List.mem_cons.1 h with rfl | h
        · exact .inr (.inr ⟨q, by simp, by rw [hw0]⟩)
        · exact .inr (.inl (by simp [h]))
      · rcases List.mem_cons.1 h with rfl | h
        · exact .inl rfl
        · exact .inr (.inl h)
theorem cnt_pos {k : ByteArray} {l : List Ctr} (hp : ∀ p ∈ l, 1 ≤ p.2) : 0 ≤ cntC k l ∧ (0 < cntC k l ↔ ∃ p ∈ l, p.1 = k) := by
  by_cases h : cntC k l = 0
  · refine ⟨by omega, fun h2 => by omega, fun ⟨p, h1, h2⟩ => ?_⟩
    exfalso
    have : ∀ l : List Ctr, (∀ p ∈ l, 1 ≤ p.2) → p ∈ l → 0 < cntC k l := by
      intro l
      induction l with
      | nil => intro _ h; cases h
      | cons q l ih =>
        intro hp h
        simp only [cntC]
        split
        · have := hp q (by simp); omega
        · rename_i hq
          rcases List.mem_cons.1 h with rfl | h
          · rw [h2, eqS_self] at hq; exact absurd rfl hq
          · exact ih (fun r hr => hp r (by simp [hr])) h
    have := this l hp h1
    omega
  · have := cnt_mem h
    have h2 := hp _ this
    exact ⟨by simp only at h2; omega, fun _ => ⟨_, this, rfl⟩, fun _ => by simp only at h2; omega⟩
/-- What add does, told plainly. -/
theorem add_ok {s : Sm} (h : okS s) {k : ByteArray} {w : Int} (hk : isName k = true) (hw : 1 ≤ w) (ht : s.tot + w ≤ 1125899906842624) :
    okS (addS s k w) ∧ (addS s k w).most = s.most ∧ (addS s k w).tot = s.tot + w ∧ s.lost ≤ (addS s k w).lost ∧
    (∀ q, cntC q (addS s k w).cs ≤ cntC q s.cs + (if q = k then w else 0)) ∧
    (∀ q, cntC q s.cs + (if q = k then w else 0) ≤ cntC q (addS s k w).cs + ((addS s k w).lost - s.lost)) ∧
    (s.up k w → (addS s k w).lost = s.lost ∧ (∀ q, cntC q (addS s k w).cs = cntC q s.cs + (if q = k then w else 0))) := by
  have h1 := h.tot
  have h2 := h.lostLe
  have h3 := h.le
  have hl := h.lost
  have hm := h.most
  have hsum := h.sum
  have wt : IntKind.i64.wrap (s.tot + w) = s.tot + w := wrap64 (by omega) (by omega)
  have ww : ∀ p ∈ s.cs, IntKind.i64.wrap (p.2 + w) = p.2 + w := fun p hp => by
    have a := h3 p hp; have b := h.pos p hp
    exact wrap64 (by omega) (by omega)
  by_cases hu : s.up k w
  · have he : addS s k w = ⟨s.most, s.tot + w, s.lost, putC k w s.cs⟩ := by unfold addS; rw [if_pos hu, wt]
    rw [he]
    refine ⟨⟨hm, ⟨by simp only; omega, ht⟩, hl, ?_, put_srt h.srt, ?_, ?_, ?_⟩, rfl, rfl, by simp only; omega, fun q => ?_, fun q => ?_, fun _ => ⟨rfl, fun q => cnt_put q h.srt ww⟩⟩
    · simp only
      rcases hu with hu | hu
      · rw [put_in h.srt ((cnt_pos h.pos).2.1 hu)]; exact h.len
      · have := putC_len k w s.cs; omega
    · intro p hp
      rcases put_key hp with e | ⟨q, hq, e⟩
      · rw [e]; exact hk
      · rw [← e]; exact h.nm q hq
    · intro p hp
      rcases put_mem2 ww hp with rfl | hp | ⟨q, hq, rfl⟩
      · exact hw
      · exact h.pos p hp
      · have := h.pos q hq; simp only; omega
    · simp only [sum_put ww]; omega
    · simp only [cnt_put q h.srt ww]; omega
    · simp only [cnt_put q h.srt ww]; omega
  · obtain ⟨m1, m2, m3⟩ := minC_le s.cs w
    unfold addS
    rw [if_neg hu, wt]
    have hu1 : ¬ 0 < cntC k s.cs := fun h => hu (.inl h)
    have hu2 : ¬ (s.cs.length : Int) < s.most := fun h => hu (.inr h)
    have hlen : (s.cs.length : Int) = s.most := by have := h.len; omega
    have hcp := cnt_pos (k := k) h.pos
    have hc0 : cntC k s.cs = 0 := by have := hcp.1; omega
    have hno : ¬ ∃ p ∈ s.cs, p.1 = k := fun q => hu1 (hcp.2.2 q)
    generalize hd : minC w s.cs = d at *
    have hd1 : 1 ≤ d := by
      rcases m3 with e | ⟨p, hp, e⟩
      · omega
      · have := h.pos p hp; omega
    have wl : IntKind.i64.wrap (s.lost + d) = s.lost + d := wrap64 (by omega) (by omega)
    have wd : ∀ p ∈ s.cs, IntKind.i64.wrap (p.2 - d) = p.2 - d := fun p hp => by
      have a := h3 p hp; have b := h.pos p hp
      exact wrap64 (by omega) (by omega)
    have wwd : IntKind.i64.wrap (w - d) = w - d := wrap64 (by omega) (by omega)
    rw [wl, wwd]
    have hsl := sum_less (d := d) (l := s.cs) fun p hp => ⟨m2 p hp, wd p hp⟩
    rw [hlen] at hsl
    have hexp : (s.lost + d) * (s.most + 1) = s.lost * (s.most + 1) + d * s.most + d := by
      rw [Int.add_mul, Int.mul_add d, Int.mul_one]; omega
    have hL : ∀ p ∈ lessC d s.cs, 1 ≤ p.2 ∧ p.2 + w ≤ s.tot + w := fun p hp => by
      obtain ⟨q, hq, e1, e2, e3⟩ := less_key hp
      rw [wd q hq] at e3
      have := h3 q hq
      omega
    have hsr := less_srt (d := d) h.srt
    have hcl : ∀ q, cntC q (lessC d s.cs) = if d < cntC q s.cs then cntC q s.cs - d else 0 := fun q => cnt_less (by omega) q h.srt wd
    have hcm : ∀ q, 0 < cntC q s.cs → d ≤ cntC q s.cs := fun q hq => m2 _ (cnt_mem (by omega))
    have hcq : ∀ q, 0 ≤ cntC q s.cs := fun q => (cnt_pos h.pos).1
    have hnm : ∀ p ∈ lessC d s.cs, isName p.1 = true := fun p hp => by
      obtain ⟨q, hq, e1, e2, e3⟩ := less_key hp
      rw [← e1]; exact h.nm q hq
    by_cases hdw : d < w
    · rw [if_pos hdw]
      have wp : ∀ p ∈ lessC d s.cs, IntKind.i64.wrap (p.2 + (w - d)) = p.2 + (w - d) := fun p hp => by
        have := hL p hp
        exact wrap64 (by omega) (by omega)
      have hcp2 : ∀ q, cntC q (putC k (w - d) (lessC d s.cs)) = (if d < cntC q s.cs then cntC q s.cs - d else 0) + if q = k then w - d else 0 := fun q => by rw [cnt_put q hsr wp, hcl]
      refine ⟨⟨hm, ⟨by simp only; omega, ht⟩, by simp only; omega, ?_, put_srt hsr, ?_, ?_, ?_⟩, rfl, rfl, by simp only; omega, fun q => ?_, fun q => ?_, fun q => absurd q hu⟩
      · simp only
        rcases m3 with e | ⟨p, hp, e⟩
        · omega
        · have a := less_len (d := d) ⟨p, hp, by omega⟩
          have b := putC_len k (w - d) (lessC d s.cs)
          omega
      · intro p hp
        rcases put_key hp with e | ⟨q, hq, e⟩
        · rw [e]; exact hk
        · rw [← e]; exact hnm q hq
      · intro p hp
        rcases put_mem2 wp hp with rfl | hp | ⟨q, hq, rfl⟩
        · simp only; omega
        · exact (hL p hp).1
        · have := hL q hq; simp only; omega
      · simp only [sum_put wp, hsl]; omega
      · simp only [hcp2]
        have := hcq q
        split <;> split <;> omega
      · simp only [hcp2]
        have a := hcm q
        have b := hcq q
        by_cases e : q = k
        · subst e; rw [hc0]; simp; omega
        · simp only [e, if_false]
          split <;> omega
    · rw [if_neg hdw]
      have hdw2 : d = w := by omega
      refine ⟨⟨hm, ⟨by simp only; omega, ht⟩, by simp only; omega, ?_, hsr, hnm, fun p hp => (hL p hp).1, ?_⟩, rfl, rfl, by simp only; omega, fun q => ?_, fun q => ?_, fun q => absurd q hu⟩
      · simp only; have := lessC_len d s.cs; omega
      · simp only [hsl]; omega
      · simp only [hcl]
        have := hcq q
        split <;> split <;> omega
      · simp only [hcl]
        have a := hcm q
        have b := hcq q
        by_cases e : q = k
        · subst e; rw [hc0]; simp; omega
        · simp only [e, if_false]
          split <;> omega
theorem em_ok {n : Int} (h : 1 ≤ n ∧ n ≤ 256) : okS (emS n) :=
  ⟨h, by simp [emS], by simp [emS], by simp [emS]; omega, by simp [emS, srt], by simp [emS], by simp [emS], by simp [emS, sumC]⟩
def sumW : List It → Int
  | [] => 0
  | x :: l => wtI x.w + sumW l
theorem sumW_le : ∀ l, 0 ≤ sumW l ∧ sumW l ≤ 32 * l.length
  | [] => by simp [sumW]
  | x :: l => by
    have := sumW_le l
    have := wtI_le x.w
    simp only [sumW, List.length_cons]; omega
theorem key_name (k : Int) : isName (keyB k) = true := by
  have h : (k % 26).toNat < 26 := by omega
  unfold keyB
  generalize (k % 26).toNat = n at h
  have : ∀ n : Fin 26, isName ⟨#[107, UInt8.ofNat (97 + n.1)]⟩ = true := by decide +kernel
  exact this ⟨n, h⟩
theorem st_ok : ∀ (l : List It) (s : Sm), okS s → s.tot + sumW l ≤ 1125899906842624 → okS (stS s l) ∧ (stS s l).most = s.most ∧ (stS s l).tot = s.tot + sumW l ∧ s.lost ≤ (stS s l).lost ∧
    (∀ q, cntC q (stS s l).cs ≤ cntC q s.cs + exC q l) ∧ (∀ q, cntC q s.cs + exC q l ≤ cntC q (stS s l).cs + ((stS s l).lost - s.lost))
  | [], s, h, _ => ⟨h, rfl, by simp [stS, sumW], Int.le_refl _, fun q => by simp [stS, exC], fun q => by simp [stS, exC]⟩
  | x :: l, s, h, ht => by
    simp only [sumW] at ht
    have hw := wtI_le x.w
    have hsw := sumW_le l
    obtain ⟨a1, a2, a3, a4, a5, a6, _⟩ := add_ok h (key_name x.k) hw.1 (by omega)
    obtain ⟨b1, b2, b3, b4, b5, b6⟩ := st_ok l _ a1 (by omega)
    simp only [stS, sumW, exC]
    refine ⟨b1, by omega, by omega, by omega, fun q => ?_, fun q => ?_⟩
    · have h1 := a5 q; have h2 := b5 q
      by_cases e : q = keyB x.k
      · subst e; simp [eqS_self] at h1 ⊢; omega
      · have e2 : ¬ eqS (keyB x.k) q = true := fun he => e ((eqS_iff _ _).1 he).symm
        simp [e] at h1; simp [e2]; omega
    · have h1 := a6 q; have h2 := b6 q
      by_cases e : q = keyB x.k
      · subst e; simp [eqS_self] at h1 ⊢; omega
      · have e2 : ¬ eqS (keyB x.k) q = true := fun he => e ((eqS_iff _ _).1 he).symm
        simp [e] at h1; simp [e2]; omega
theorem str_ok (n : Int) (h : 1 ≤ n ∧ n ≤ 256) (l : List It) : okS (strS n l) ∧ (strS n l).most = n ∧ (strS n l).tot = sumW (l.take 60) ∧ (strS n l).tot ≤ 1920 ∧ (∀ q, cntC q (strS n l).cs ≤ exC q (l.take 60) ∧ exC q (l.take 60) ≤ cntC q (strS n l).cs + (strS n l).lost) := by
  have hs := sumW_le (l.take 60)
  have hl : ((l.take 60).length : Int) ≤ 60 := by simp; omega
  obtain ⟨a1, a2, a3, a4, a5, a6⟩ := st_ok (l.take 60) (emS n) (em_ok h) (by simp [emS]; omega)
  have e1 : (emS n).tot = 0 := rfl
  have e2 : (emS n).lost = 0 := rfl
  have e3 : ∀ q, cntC q (emS n).cs = 0 := fun q => rfl
  refine ⟨a1, a2, by unfold strS; omega, by unfold strS; omega, fun q => ?_⟩
  have := a5 q; have := a6 q; have := e3 q
  unfold strS
  omega
end Go.Proofs.YtdhbecdlablonaaV
