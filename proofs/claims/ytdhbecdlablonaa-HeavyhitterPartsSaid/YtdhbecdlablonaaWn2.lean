/- Merging: plain; the summary that Merge gives. -/
import Derived.Test.YtdhbecdlablonaaWc22q
import Derived.Test.YtdhbecdlablonaaWc22s
set_option linter.unusedVariables false
set_option linter.unusedSimpArgs false
namespace Go.Proofs.YtdhbecdlablonaaV
open Go.RowKit
/-- Good counters, of a bounded sum. -/
structure gd (B : Int) (l : List Ctr) : Prop where
  s : srt l
  nm : ∀ p ∈ l, isName p.1 = true
  pos : ∀ p ∈ l, 1 ≤ p.2
  sum : sumC l ≤ B
theorem gd.le {B : Int} {l : List Ctr} (h : gd B l) : ∀ p ∈ l, p.2 ≤ B := fun p hp => by
  have := (sum_le h.pos).2 p hp
  have := h.sum
  omega
theorem gd.wr {B : Int} {l : List Ctr} (h : gd B l) {n : Int} (hn : 0 ≤ n) (hB : B + n ≤ 9000000000000000000) : ∀ p ∈ l, IntKind.i64.wrap (p.2 + n) = p.2 + n := fun p hp => by
  have := h.le p hp
  have := h.pos p hp
  exact wrap64 (by omega) (by omega)
theorem put_gd {B : Int} {l : List Ctr} (h : gd B l) {k : ByteArray} {n : Int} (hk : isName k = true) (hn : 1 ≤ n) (hB : B + n ≤ 9000000000000000000) : gd (B + n) (putC k n l) where
  s := put_srt h.s
  nm := fun p hp => by
    rcases put_mem2 (h.wr (by omega) hB) hp with rfl | hp | ⟨q, hq, rfl⟩
    · exact hk
    · exact h.nm p hp
    · exact h.nm q hq
  pos := fun p hp => by
    rcases put_mem2 (h.wr (by omega) hB) hp with rfl | hp | ⟨q, hq, rfl⟩
    · exact hn
    · exact h.pos p hp
    · have := h.pos q hq; simp only; omega
  sum := by rw [sum_put (h.wr (by omega) hB)]; have := h.sum; omega
/-- All of one list put into another. -/
def putA (l : List Ctr) : List Ctr → List Ctr
  | [] => l
  | c :: r => putA (putC c.1 c.2 l) r
theorem putA_app (c : Ctr) : ∀ (r l : List Ctr), putA l (r ++ [c]) = putC c.1 c.2 (putA l r)
  | [], l => rfl
  | x :: r, l => putA_app c r _
theorem putA_gd : ∀ {r l : List Ctr} {B : Int}, gd B l → (∀ p ∈ r, isName p.1 = true) → (∀ p ∈ r, 1 ≤ p.2) → B + sumC r ≤ 9000000000000000000 → gd (B + sumC r) (putA l r) ∧ sumC (putA l r) = sumC l + sumC r
  | [], l, B, h, _, _, _ => by simp only [putA, sumC, Int.add_zero]; exact ⟨h, trivial⟩
  | c :: r, l, B, h, hn, hp, hB => by
    have hs := (sum_le (l := r) fun p hp' => hp p (by simp [hp'])).1
    have hc := hp c (by simp)
    simp only [sumC] at hB ⊢
    have h1 := put_gd h (k := c.1) (n := c.2) (hn c (by simp)) hc (by omega)
    obtain ⟨h2, h3⟩ := putA_gd (r := r) h1 (fun p hp' => hn p (by simp [hp'])) (fun p hp' => hp p (by simp [hp'])) (by omega)
    rw [sum_put (h.wr (by omega) (by omega))] at h3
    refine ⟨?_, ?_⟩
    · have : B + (c.2 + sumC r) = B + c.2 + sumC r := by omega
      rw [this]; exact h2
    · show sumC (putA (putC c.1 c.2 l) r) = _
      omega
theorem putA_cnt (q : ByteArray) : ∀ {r l : List Ctr} {B : Int}, gd B l → srt r → (∀ p ∈ r, isName p.1 = true) → (∀ p ∈ r, 1 ≤ p.2) → B + sumC r ≤ 9000000000000000000 → cntC q (putA l r) = cntC q l + cntC q r
  | [], l, B, h, _, _, _, _ => by simp [putA, cntC]
  | c :: r, l, B, h, hr, hn, hp, hB => by
    have hr' := List.pairwise_cons.1 hr
    have hs := (sum_le (l := r) fun p hp' => hp p (by simp [hp'])).1
    have hc := hp c (by simp)
    simp only [sumC] at hB
    have h1 := put_gd h (k := c.1) (n := c.2) (hn c (by simp)) hc (by omega)
    have ih := putA_cnt q (r := r) h1 hr'.2 (fun p hp' => hn p (by simp [hp'])) (fun p hp' => hp p (by simp [hp'])) (by omega)
    show cntC q (putA (putC c.1 c.2 l) r) = _
    rw [ih, cnt_put q h.s (h.wr (by omega) (by omega))]
    simp only [cntC]
    by_cases e : q = c.1
    · subst e
      rw [cnt_none fun p hp => lessS_ne' (hr'.1 p hp)]
      simp [eqS_self]
    · have e2 : ¬ eqS c.1 q = true := fun he => e ((eqS_iff _ _).1 he).symm
      simp [e, e2]
theorem nd_keys {m : List Ctr} (h : keysNe strK m) : m.Nodup := h.imp fun {x y} hxy he => by
  subst he
  have : strK.eqb x.1 x.1 = true := (strK.eq _ _).2 rfl
  rw [this] at hxy; cases hxy
theorem mem_iff_cnt {l : List Ctr} (hl : srt l) (hp : ∀ p ∈ l, 1 ≤ p.2) (p : Ctr) (h1 : 1 ≤ p.2) : p ∈ l ↔ cntC p.1 l = p.2 := by
  constructor
  · exact fun h => mem_cnt hl h
  · intro h
    have := cnt_mem (k := p.1) (l := l) (by omega)
    rw [h] at this
    exact this
theorem perm_get {m l : List Ctr} (hm : keysNe strK m) (hl : srt l) (pm : ∀ p ∈ m, 1 ≤ p.2) (pl : ∀ p ∈ l, 1 ≤ p.2) (h : ∀ k, getM m k = cntC k l) : m.Perm l := by
  refine (List.perm_ext_iff_of_nodup (nd_keys hm) (nd_keys (srt_ne hl))).2 fun p => ?_
  constructor
  · intro hp
    have h1 := look_mem strK hm hp
    have h2 := h p.1
    unfold getM at h2
    rw [h1] at h2
    exact (mem_iff_cnt hl pl p (pm p hp)).2 h2.symm
  · intro hp
    have h1 := (mem_iff_cnt hl pl p (pl p hp)).1 hp
    have h2 := h p.1
    have h3 := pl p hp
    rw [h1] at h2
    unfold getM at h2
    cases hk : lookP strK p.1 m with
    | none => rw [hk] at h2; simp at h2; omega
    | some v =>
      rw [hk] at h2
      have := mem_look strK hk
      simp at h2
      rw [h2] at this
      exact this
theorem srt_ext {a b : List Ctr} (ha : srt a) (hb : srt b) (pa : ∀ p ∈ a, 1 ≤ p.2) (pb : ∀ p ∈ b, 1 ≤ p.2) (h : ∀ k, cntC k a = cntC k b) : a = b := by
  have hp : a.Perm b := (List.perm_ext_iff_of_nodup (nd_keys (srt_ne ha)) (nd_keys (srt_ne hb))).2 fun p => by
    constructor
    · intro hp; exact (mem_iff_cnt hb pb p (pa p hp)).2 (by rw [← h]; exact mem_cnt ha hp)
    · intro hp; exact (mem_iff_cnt ha pa p (pb p hp)).2 (by rw [h]; exact mem_cnt hb hp)
  exact hp.eq_of_pairwise (fun x y _ _ h1 h2 => by have := lessS_asym h1; rw [this] at h2; cases h2) ha hb
theorem mrg_pos : ∀ (l m : List Ctr), (∀ p ∈ m, 1 ≤ p.2) → (∀ p ∈ l, 1 ≤ p.2) → ∀ p ∈ mrg m l, 1 ≤ p.2
  | [], m, hm, _ => hm
  | c :: l, m, hm, hl => by
    refine mrg_pos l _ (fun p hp => ?_) fun p hp => hl p (by simp [hp])
    rcases put_mem strK hp with rfl | hp
    · have h1 := hl c (by simp)
      have : 0 ≤ getM m c.1 := by
        unfold getM
        cases hk : lookP strK c.1 m with
        | none => simp
        | some v => have := hm _ (mem_look strK hk); simp at this ⊢; omega
      simp only; omega
    · exact hm p hp
theorem mrg_perm {a b : List Ctr} {B : Int} (ha : gd B a) (hb : srt b) (nb : ∀ p ∈ b, isName p.1 = true) (pb : ∀ p ∈ b, 1 ≤ p.2) (hB : B + sumC b ≤ 9000000000000000000) : (mrg a b).Perm (putA a b) := by
  obtain ⟨h1, -⟩ := putA_gd ha nb pb hB
  refine perm_get (mrg_keys _ _ (srt_ne ha.s)) h1.s (mrg_pos _ _ ha.pos pb) h1.pos fun k => ?_
  rw [mrg_get k _ _ hb, putA_cnt k ha hb nb pb hB]
  congr 1
  unfold getM
  exact look_cnt k a
theorem less_eq (d : Int) : ∀ l : List Ctr, lessC d l = (l.filter fun p => decide (d < p.2)).map fun p => (p.1, IntKind.i64.wrap (p.2 - d))
  | [] => rfl
  | p :: l => by
    have ih := less_eq d l
    rw [show lessC d (p :: l) = if d < p.2 then (p.1, IntKind.i64.wrap (p.2 - d)) :: lessC d l else lessC d l from rfl, ih]
    by_cases h : d < p.2 <;> simp [h]
theorem less_perm {d : Int} {l m : List Ctr} (h : l.Perm m) : (lessC d l).Perm (lessC d m) := by
  rw [less_eq, less_eq]
  exact (h.filter _).map _
/-! decreasing lists -/
def desc (l : List Int) : Prop := l.Pairwise fun p q => q ≤ p
theorem desc_unique {a b : List Int} (hp : a.Perm b) (ha : desc a) (hb : desc b) : a = b := hp.eq_of_pairwise (fun x y _ _ h1 h2 => by have : y ≤ x := h1; have : x ≤ y := h2; omega) ha hb
theorem top_desc {l : List Ctr} (h : l.Pairwise tlt) : desc (l.map (·.2)) := List.pairwise_map.2 (h.imp fun {p q} h => by rcases h with h | h <;> omega)
theorem desc_above {D : List Int} (h : desc D) {M : Nat} (hM : M < D.length) : (D.filter fun x => decide (D[M] < x)).length ≤ M := by
  have e : ∀ P : Int → Bool, D.filter P = (D.take M).filter P ++ (D.drop M).filter P := fun P => by rw [← List.filter_append, List.take_append_drop]
  have hd : (D.drop M).filter (fun x => decide (D[M] < x)) = [] := List.filter_eq_nil_iff.2 fun x hx => by
    obtain ⟨i, hi, rfl⟩ := List.getElem_of_mem hx
    rw [List.getElem_drop]
    rw [List.length_drop] at hi
    cases i with
    | zero => simp
    | succ i =>
      have := List.pairwise_iff_getElem.1 h M (M + (i + 1)) hM (by omega) (by omega)
      simpa using this
  have h2 : D.filter (fun x => decide (D[M] < x)) = (D.take M).filter fun x => decide (D[M] < x) := by
    rw [e, hd, List.append_nil]
  rw [h2]
  refine Nat.le_trans (List.length_filter_le _ _) ?_
  rw [List.length_take]; omega
theorem desc_from {D : List Int} (h : desc D) {M : Nat} (hM : M < D.length) : M + 1 ≤ (D.filter fun x => decide (D[M] ≤ x)).length := by
  have e : ∀ P : Int → Bool, D.filter P = (D.take (M + 1)).filter P ++ (D.drop (M + 1)).filter P := fun P => by rw [← List.filter_append, List.take_append_drop]
  have hd : (D.take (M + 1)).filter (fun x => decide (D[M] ≤ x)) = D.take (M + 1) := List.filter_eq_self.2 fun x hx => by
    obtain ⟨i, hi, rfl⟩ := List.getElem_of_mem hx
    rw [List.getElem_take]
    rw [List.length_take] at hi
    by_cases c : i = M
    · subst c; simp
    · have := List.pairwise_iff_getElem.1 h i M (by omega) hM (by omega)
      simpa using this
  rw [e, List.length_append, hd, List.length_take]
  omega
theorem sum_cut {d : Int} (hd : 0 ≤ d) : ∀ {l : List Ctr}, (∀ p ∈ l, 1 ≤ p.2 ∧ p.2 ≤ 9000000000000000000) → sumC (lessC d l) + d * ((l.filter fun p => decide (d ≤ p.2)).length : Int) ≤ sumC l
  | [], _ => by simp [lessC, sumC]
  | p :: l, h => by
    have ih := sum_cut hd (l := l) fun q hq => h q (by simp [hq])
    obtain ⟨h1, h2⟩ := h p (by simp)
    rw [show lessC d (p :: l) = if d < p.2 then (p.1, IntKind.i64.wrap (p.2 - d)) :: lessC d l else lessC d l from rfl]
    by_cases c : d < p.2
    · have w : IntKind.i64.wrap (p.2 - d) = p.2 - d := wrap64 (by omega) (by omega)
      have c2 : d ≤ p.2 := by omega
      rw [if_pos c, List.filter_cons_of_pos (by simpa using c2), List.length_cons, w]
      simp only [sumC]
      rw [Int.natCast_add, Int.mul_add]
      omega
    · rw [if_neg c]
      by_cases c2 : d ≤ p.2
      · rw [List.filter_cons_of_pos (by simpa using c2), List.length_cons, Int.natCast_add, Int.mul_add]
        simp only [sumC]
        omega
      · rw [List.filter_cons_of_neg (by simpa using c2)]
        simp only [sumC]
        omega
/-- By how much all counts fall. -/
def cutD (M : Int) (L : List Ctr) : Int := if (L.length : Int) ≤ M then 0 else ((topC L).map (·.2)).getD M.toNat 0
def mrgS (a b : Sm) : Sm := ⟨a.most, a.tot + b.tot, a.lost + b.lost + cutD a.most (putA a.cs b.cs), lessC (cutD a.most (putA a.cs b.cs)) (putA a.cs b.cs)⟩
theorem less_zero : ∀ {l : List Ctr}, (∀ p ∈ l, 1 ≤ p.2 ∧ p.2 ≤ 9000000000000000000) → lessC 0 l = l
  | [], _ => rfl
  | p :: l, h => by
    obtain ⟨h1, h2⟩ := h p (by simp)
    have ih := less_zero (l := l) fun q hq => h q (by simp [hq])
    rw [show lessC 0 (p :: l) = if 0 < p.2 then (p.1, IntKind.i64.wrap (p.2 - 0)) :: lessC 0 l else lessC 0 l from rfl, if_pos (by omega), ih, Int.sub_zero]
    have w : IntKind.i64.wrap p.2 = p.2 := wrap64 (by omega) (by omega)
    rw [w]
structure cutOk (M : Int) (L : List Ctr) (d : Int) : Prop where
  d0 : 0 ≤ d
  le : d ≤ sumC L
  len : ((lessC d L).length : Int) ≤ M
  sum : sumC (lessC d L) + d * (M + 1) ≤ sumC L
theorem cut_ok {M : Int} {L : List Ctr} {B : Int} (hM : 1 ≤ M) (h : gd B L) (hB : B ≤ 9000000000000000000) : cutOk M L (cutD M L) := by
  have hsm : ∀ p ∈ L, 1 ≤ p.2 ∧ p.2 ≤ 9000000000000000000 := fun p hp => ⟨h.pos p hp, by have := h.le p hp; omega⟩
  unfold cutD
  by_cases hf : (L.length : Int) ≤ M
  · rw [if_pos hf]
    have hz := less_zero hsm
    refine ⟨Int.le_refl _, (sum_le h.pos).1, by rw [hz]; exact hf, by rw [hz]; omega⟩
  · rw [if_neg hf]
    obtain ⟨t1, t2⟩ := topC_ok (srt_ne h.s)
    have hD := top_desc t1
    have hpm : ((topC L).map (·.2)).Perm (L.map (·.2)) := t2.map _
    have hlen : ((topC L).map (·.2)).length = L.length := by rw [hpm.length_eq, List.length_map]
    generalize (topC L).map (·.2) = D at *
    have hMD : M.toNat < D.length := by omega
    have hget : D.getD M.toNat 0 = D[M.toNat] := by rw [List.getD_eq_getElem?_getD, List.getElem?_eq_getElem hMD]; rfl
    rw [hget]
    have hab := desc_above hD hMD
    have hfr := desc_from hD hMD
    have hmem : D[M.toNat] ∈ L.map (·.2) := hpm.mem_iff.1 (List.getElem_mem hMD)
    obtain ⟨p, hp, hpd⟩ := List.mem_map.1 hmem
    have hd1 : 1 ≤ D[M.toNat] := by rw [← hpd]; exact h.pos p hp
    have hds : D[M.toNat] ≤ sumC L := by rw [← hpd]; exact (sum_le h.pos).2 p hp
    have e1 : (D.filter fun x => decide (D[M.toNat] < x)).length = (L.filter fun p => decide (D[M.toNat] < p.2)).length := by
      rw [(hpm.filter _).length_eq, List.filter_map, List.length_map]; rfl
    have e2 : (D.filter fun x => decide (D[M.toNat] ≤ x)).length = (L.filter fun p => decide (D[M.toNat] ≤ p.2)).length := by
      rw [(hpm.filter _).length_eq, List.filter_map, List.length_map]; rfl
    rw [e1] at hab
    rw [e2] at hfr
    generalize D[M.toNat] = d at *
    refine ⟨by omega, hds, ?_, ?_⟩
    · rw [less_eq, List.length_map]; omega
    · have := sum_cut (d := d) (by omega) hsm
      have hmul : d * (M + 1) ≤ d * ((L.filter fun p => decide (d ≤ p.2)).length : Int) := Int.mul_le_mul_of_nonneg_left (by omega) (by omega)
      omega
theorem ok_gd {s : Sm} (h : okS s) : gd s.tot s.cs := ⟨h.srt, h.nm, h.pos, h.lostLe.2⟩
theorem less_mem {d : Int} {l : List Ctr} {p : Ctr} (hd : 0 ≤ d) (h : ∀ q ∈ l, 1 ≤ q.2 ∧ q.2 ≤ 9000000000000000000) (hp : p ∈ lessC d l) : ∃ q ∈ l, q.1 = p.1 ∧ p.2 = q.2 - d ∧ d < q.2 := by
  obtain ⟨q, hq, h1, h2, h3⟩ := less_key hp
  have := h q hq
  have w : IntKind.i64.wrap (q.2 - d) = q.2 - d := wrap64 (by omega) (by omega)
  exact ⟨q, hq, h1, by rw [h3, w], h2⟩
theorem mrgS_ok {a b : Sm} (ha : okS a) (hb : okS b) (hm : a.most = b.most) (ht : a.tot + b.tot ≤ 1125899906842624) :
    okS (mrgS a b) ∧ a.lost + b.lost ≤ (mrgS a b).lost ∧ ∀ q, cntC q (mrgS a b).cs ≤ cntC q a.cs + cntC q b.cs ∧ cntC q a.cs + cntC q b.cs + (a.lost + b.lost) ≤ cntC q (mrgS a b).cs + (mrgS a b).lost := by
  have hbs := hb.lostLe
  have has := ha.lostLe
  have hat := ha.tot
  have hbt := hb.tot
  have hsum0 := (sum_le hb.pos).1
  have hB : a.tot + sumC b.cs ≤ 9000000000000000000 := by omega
  obtain ⟨g1, g2⟩ := putA_gd (ok_gd ha) hb.nm hb.pos hB
  have hcn := fun q => putA_cnt q (ok_gd ha) hb.srt hb.nm hb.pos hB
  have hc := cut_ok ha.most.1 g1 hB
  have hsm : ∀ p ∈ putA a.cs b.cs, 1 ≤ p.2 ∧ p.2 ≤ 9000000000000000000 := fun p hp => ⟨g1.pos p hp, by have := g1.le p hp; omega⟩
  have hM := ha.most
  unfold mrgS
  generalize hL : putA a.cs b.cs = L at *
  generalize hd : cutD a.most L = d at *
  have hal := ha.lost
  have hbl := hb.lost
  have hcd := hc.d0
  have hcl := hc.le
  have hcs := hc.sum
  have h1 := ha.sum
  have h2 := hb.sum
  rw [← hm] at h2
  refine ⟨⟨hM, ?_, ?_, hc.len, less_srt g1.s, fun p hp => ?_, fun p hp => ?_, ?_⟩, ?_, fun q => ?_⟩
  · exact ⟨by show 0 ≤ a.tot + b.tot; omega, ht⟩
  · show 0 ≤ a.lost + b.lost + d; omega
  · obtain ⟨q, hq, e1, -⟩ := less_mem hcd hsm hp
    rw [← e1]; exact g1.nm q hq
  · obtain ⟨q, hq, -, e1, e2⟩ := less_mem hcd hsm hp
    omega
  · show sumC (lessC d L) + (a.lost + b.lost + d) * (a.most + 1) ≤ a.tot + b.tot
    rw [Int.add_mul, Int.add_mul]
    omega
  · show a.lost + b.lost ≤ a.lost + b.lost + d; omega
  · have hw : ∀ p ∈ L, IntKind.i64.wrap (p.2 - d) = p.2 - d := fun p hp => by
      have := hsm p hp
      exact wrap64 (by omega) (by omega)
    have hcl2 := cnt_less hcd q g1.s hw
    have hq := hcn q
    have hq0 := (cnt_pos (k := q) g1.pos).1
    show cntC q (lessC d L) ≤ _ ∧ _ ≤ cntC q (lessC d L) + (a.lost + b.lost + d)
    rw [hcl2, ← hq]
    split <;> omega
theorem putA_comm {a b : Sm} (ha : okS a) (hb : okS b) (ht : a.tot + b.tot ≤ 1125899906842624) : putA a.cs b.cs = putA b.cs a.cs := by
  have hbs := hb.lostLe
  have has := ha.lostLe
  have h0 := (sum_le hb.pos).1
  have h1 := (sum_le ha.pos).1
  have hB : a.tot + sumC b.cs ≤ 9000000000000000000 := by omega
  have hB' : b.tot + sumC a.cs ≤ 9000000000000000000 := by omega
  obtain ⟨g1, -⟩ := putA_gd (ok_gd ha) hb.nm hb.pos hB
  obtain ⟨g2, -⟩ := putA_gd (ok_gd hb) ha.nm ha.pos hB'
  exact srt_ext g1.s g2.s g1.pos g2.pos fun k => by
    rw [putA_cnt k (ok_gd ha) hb.srt hb.nm hb.pos hB, putA_cnt k (ok_gd hb) ha.srt ha.nm ha.pos hB']
    omega
theorem mrgS_comm {a b : Sm} (ha : okS a) (hb : okS b) (hm : a.most = b.most) (ht : a.tot + b.tot ≤ 1125899906842624) : mrgS a b = mrgS b a := by
  unfold mrgS
  rw [putA_comm ha hb ht, hm, Int.add_comm a.tot, Int.add_comm a.lost]
end Go.Proofs.YtdhbecdlablonaaV
