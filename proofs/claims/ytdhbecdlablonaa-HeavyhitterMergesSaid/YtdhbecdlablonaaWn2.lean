/- Merging: the summary that Merge gives; plain. -/
import Derived.Test.YtdhbecdlablonaaWn1
set_option linter.unusedVariables false
set_option linter.unusedSimpArgs false
namespace Go.Proofs.YtdhbecdlablonaaV
open Go.RowKit
/-- By how much all counts fall. -/
def cutD (M : Int) (L : List Ctr) : Int := if (L.length : Int) ≤ M then 0 else ((topC L).map (·.2)).getD M.toNat 0
def mrgS (a b : Sm) : Sm := ⟨a.most, a.tot + b.tot, a.lost + b.lost + cutD a.most (putA a.cs b.cs), lessC (cutD a.most (putA a.cs b.cs)) (putA a.cs b.cs)⟩
theorem less_zero : ∀ {l : List Ctr}, (∀ p ∈ l, 1 ≤ p.2 ∧ p.2 ≤ 9000000000000000000) → lessC 0 l = l
  | [], _ => rfl
  | p :: l, h => by
    obtain ⟨h1, h2⟩ := h p (by simp)
    have ih := less_zero (l := l) fun q hq => h q (by simp [hq])
    rw [show lessC 0 (p :: l) = if 0 < p.2 then (p.1, IntKind.i64.wrap (p.2 - 0)) :: lessC 0 l else lessC 0 l from rfl, if_pos (by omega), ih, Int.sub_zero]
    have w : IntKind.i64.wrap p.2 = p.2 := wrap64 (by omega) (by omega)
    rw [w]
structure cutOk (M : Int) (L : List Ctr) (d : Int) : Prop where
  d0 : 0 ≤ d
  le : d ≤ sumC L
  len : ((lessC d L).length : Int) ≤ M
  sum : sumC (lessC d L) + d * (M + 1) ≤ sumC L
theorem cut_ok {M : Int} {L : List Ctr} {B : Int} (hM : 1 ≤ M) (h : gd B L) (hB : B ≤ 9000000000000000000) : cutOk M L (cutD M L) := by
  have hsm : ∀ p ∈ L, 1 ≤ p.2 ∧ p.2 ≤ 9000000000000000000 := fun p hp => ⟨h.pos p hp, by have := h.le p hp; omega⟩
  unfold cutD
  by_cases hf : (L.length : Int) ≤ M
  · rw [if_pos hf]
    have hz := less_zero hsm
    refine ⟨Int.le_refl _, (sum_le h.pos).1, by rw [hz]; exact hf, by rw [hz]; omega⟩
  · rw [if_neg hf]
    obtain ⟨t1, t2⟩ := topC_ok (srt_ne h.s)
    have hD := top_desc t1
    have hpm : ((topC L).map (·.2)).Perm (L.map (·.2)) := t2.map _
    have hlen : ((topC L).map (·.2)).length = L.length := by rw [hpm.length_eq, List.length_map]
    generalize (topC L).map (·.2) = D at *
    have hMD : M.toNat < D.length := by omega
    have hget : D.getD M.toNat 0 = D[M.toNat] := by rw [List.getD_eq_getElem?_getD, List.getElem?_eq_getElem hMD]; rfl
    rw [hget]
    have hab := desc_above hD hMD
    have hfr := desc_from hD hMD
    have hmem : D[M.toNat] ∈ L.map (·.2) := hpm.mem_iff.1 (List.getElem_mem hMD)
    obtain ⟨p, hp, hpd⟩ := List.mem_map.1 hmem
    have hd1 : 1 ≤ D[M.toNat] := by rw [← hpd]; exact h.pos p hp
    have hds : D[M.toNat] ≤ sumC L := by rw [← hpd]; exact (sum_le h.pos).2 p hp
    have e1 : (D.filter fun x => decide (D[M.toNat] < x)).length = (L.filter fun p => decide (D[M.toNat] < p.2)).length := by
      rw [(hpm.filter _).length_eq, List.filter_map, List.length_map]; rfl
    have e2 : (D.filter fun x => decide (D[M.toNat] ≤ x)).length = (L.filter fun p => decide (D[M.toNat] ≤ p.2)).length := by
      rw [(hpm.filter _).length_eq, List.filter_map, List.length_map]; rfl
    rw [e1] at hab
    rw [e2] at hfr
    generalize D[M.toNat] = d at *
    refine ⟨by omega, hds, ?_, ?_⟩
    · rw [less_eq, List.length_map]; omega
    · have := sum_cut (d := d) (by omega) hsm
      have hmul : d * (M + 1) ≤ d * ((L.filter fun p => decide (d ≤ p.2)).length : Int) := Int.mul_le_mul_of_nonneg_left (by omega) (by omega)
      omega
theorem ok_gd {s : Sm} (h : okS s) : gd s.tot s.cs := ⟨h.srt, h.nm, h.pos, h.lostLe.2⟩
theorem less_mem {d : Int} {l : List Ctr} {p : Ctr} (hd : 0 ≤ d) (h : ∀ q ∈ l, 1 ≤ q.2 ∧ q.2 ≤ 9000000000000000000) (hp : p ∈ lessC d l) : ∃ q ∈ l, q.1 = p.1 ∧ p.2 = q.2 - d ∧ d < q.2 := by
  obtain ⟨q, hq, h1, h2, h3⟩ := less_key hp
  have := h q hq
  have w : IntKind.i64.wrap (q.2 - d) = q.2 - d := wrap64 (by omega) (by omega)
  exact ⟨q, hq, h1, by rw [h3, w], h2⟩
theorem mrgS_ok {a b : Sm} (ha : okS a) (hb : okS b) (hm : a.most = b.most) (ht : a.tot + b.tot ≤ 1125899906842624) :
    okS (mrgS a b) ∧ a.lost + b.lost ≤ (mrgS a b).lost ∧ ∀ q, cntC q (mrgS a b).cs ≤ cntC q a.cs + cntC q b.cs ∧ cntC q a.cs + cntC q b.cs + (a.lost + b.lost) ≤ cntC q (mrgS a b).cs + (mrgS a b).lost := by
  have hbs := hb.lostLe
  have has := ha.lostLe
  have hat := ha.tot
  have hbt := hb.tot
  have hsum0 := (sum_le hb.pos).1
  have hB : a.tot + sumC b.cs ≤ 9000000000000000000 := by omega
  obtain ⟨g1, g2⟩ := putA_gd (ok_gd ha) hb.nm hb.pos hB
  have hcn := fun q => putA_cnt q (ok_gd ha) hb.srt hb.nm hb.pos hB
  have hc := cut_ok ha.most.1 g1 hB
  have hsm : ∀ p ∈ putA a.cs b.cs, 1 ≤ p.2 ∧ p.2 ≤ 9000000000000000000 := fun p hp => ⟨g1.pos p hp, by have := g1.le p hp; omega⟩
  have hM := ha.most
  unfold mrgS
  generalize hL : putA a.cs b.cs = L at *
  generalize hd : cutD a.most L = d at *
  have hal := ha.lost
  have hbl := hb.lost
  have hcd := hc.d0
  have hcl := hc.le
  have hcs := hc.sum
  have h1 := ha.sum
  have h2 := hb.sum
  rw [← hm] at h2
  refine ⟨⟨hM, ?_, ?_, hc.len, less_srt g1.s, fun p hp => ?_, fun p hp => ?_, ?_⟩, ?_, fun q => ?_⟩
  · exact ⟨by show 0 ≤ a.tot + b.tot; omega, ht⟩
  · show 0 ≤ a.lost + b.lost + d; omega
  · obtain ⟨q, hq, e1, -⟩ := less_mem hcd hsm hp
    rw [← e1]; exact g1.nm q hq
  · obtain ⟨q, hq, -, e1, e2⟩ := less_mem hcd hsm hp
    omega
  · show sumC (lessC d L) + (a.lost + b.lost + d) * (a.most + 1) ≤ a.tot + b.tot
    rw [Int.add_mul, Int.add_mul]
    omega
  · show a.lost + b.lost ≤ a.lost + b.lost + d; omega
  · have hw : ∀ p ∈ L, IntKind.i64.wrap (p.2 - d) = p.2 - d := fun p hp => by
      have := hsm p hp
      exact wrap64 (by omega) (by omega)
    have hcl2 := cnt_less hcd q g1.s hw
    have hq := hcn q
    have hq0 := (cnt_pos (k := q) g1.pos).1
    show cntC q (lessC d L) ≤ _ ∧ _ ≤ cntC q (lessC d L) + (a.lost + b.lost + d)
    rw [hcl2, ← hq]
    split <;> omega
theorem putA_comm {a b : Sm} (ha : okS a) (hb : okS b) (ht : a.tot + b.tot ≤ 1125899906842624) : putA a.cs b.cs = putA b.cs a.cs := by
  have hbs := hb.lostLe
  have has := ha.lostLe
  have h0 := (sum_le hb.pos).1
  have h1 := (sum_le ha.pos).1
  have hB : a.tot + sumC b.cs ≤ 9000000000000000000 := by omega
  have hB' : b.tot + sumC a.cs ≤ 9000000000000000000 := by omega
  obtain ⟨g1, -⟩ := putA_gd (ok_gd ha) hb.nm hb.pos hB
  obtain ⟨g2, -⟩ := putA_gd (ok_gd hb) ha.nm ha.pos hB'
  exact srt_ext g1.s g2.s g1.pos g2.pos fun k => by
    rw [putA_cnt k (ok_gd ha) hb.srt hb.nm hb.pos hB, putA_cnt k (ok_gd hb) ha.srt ha.nm ha.pos hB']
    omega
theorem mrgS_comm {a b : Sm} (ha : okS a) (hb : okS b) (hm : a.most = b.most) (ht : a.tot + b.tot ≤ 1125899906842624) : mrgS a b = mrgS b a := by
  unfold mrgS
  rw [putA_comm ha hb ht, hm, Int.add_comm a.tot, Int.add_comm a.lost]
end Go.Proofs.YtdhbecdlablonaaV
