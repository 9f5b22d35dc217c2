/- The objects that come back from a call. -/
import Derived.Test.YteidaaobppjlbaaVx10
set_option linter.unusedVariables false
set_option linter.unusedSimpArgs false
namespace Go.Proofs.YteidaaobppjlbaaV
open Go.RowKit

theorem upds_append (f : Nat → AObj) : ∀ (a b : List (Nat × AObj)), upds f (a ++ b) = upds (upds f a) b
  | [], b => rfl
  | (i, x) :: a, b => upds_append (upd f i x) a b
theorem upds_map (f : Nat → AObj) (h : Nat → Nat) (x : Nat → AObj) : ∀ m, (∀ i j, i < m → j < m → h i = h j → i = j) → (∀ i, i < m → upds f ((List.range m).map fun i => (h i, x i)) (h i) = x i) ∧ ∀ o, (∀ i, i < m → h i ≠ o) → upds f ((List.range m).map fun i => (h i, x i)) o = f o
  | 0, _ => ⟨fun i hi => absurd hi (Nat.not_lt_zero i), fun o _ => rfl⟩
  | m + 1, hinj => by
    obtain ⟨h1, h2⟩ := upds_map f h x m fun i j hi hj => hinj i j (by omega) (by omega)
    rw [List.range_succ, List.map_append, List.map_cons, List.map_nil, upds_append]
    refine ⟨fun i hi => ?_, fun o ho => ?_⟩
    · show upd _ (h m) (x m) (h i) = x i
      by_cases e : i = m
      · subst e; exact upd_same _ _ _
      · rw [upd_ne _ _ fun e' => e (hinj i m hi (by omega) e')]
        exact h1 i (by omega)
    · show upd _ (h m) (x m) o = f o
      rw [upd_ne _ _ fun e => ho m (by omega) e.symm]
      exact h2 o fun i hi => ho i (by omega)

/-- Which of the call's objects bears the name o here. -/
def bi (L : List Nat) (nid m o : Nat) : Option Nat := if o ∈ L then some (L.idxOf o) else if nid ≤ o ∧ o < nid + (m - L.length) then some (L.length + (o - nid)) else none
theorem bi_back {L : List Nat} {nid m i : Nat} (hn : L.Nodup) (hf : ∀ j, j < m - L.length → nid + j ∉ L) (hi : i < m) : bi L nid m (backN L nid i) = some i := by
  unfold bi backN
  by_cases h : i < L.length
  · have e := idx_lN hn h
    have hm := lN_mem h
    unfold lN at e hm
    rw [if_pos h, if_pos hm, e]
  · rw [if_neg h, if_neg (hf _ (by omega)), if_pos (by omega)]
    congr 1; omega
theorem back_bi {L : List Nat} {nid m i o : Nat} (hm : L.length ≤ m) (h : bi L nid m o = some i) : backN L nid i = o ∧ i < m := by
  unfold bi at h
  split at h
  · rename_i ho
    injection h with h; subst h
    obtain ⟨h1, h2⟩ := lN_idx ho
    unfold backN
    rw [if_pos h1]
    exact ⟨h2, by omega⟩
  · split at h <;> first | (cases h; done) | skip
    injection h with h; subst h
    unfold backN
    rw [if_neg (by omega)]
    omega

section
variable {P : Program} {c : Ctx} {Z : Zst} {nt : Nat} {s : SS} {a : Act} {w : World} {I : Nat → Nat → Prop} {μ : Nat → Nat} {ν : Nat → Value}

theorem backO_live {f : Nat → Nat} {ob' : Nat → AObj} {gn : Nat → Nat} {g : Nat} {old x : AObj} (h : x ≠ .dead) : backO f ob' gn g old x ≠ .dead := by
  cases x <;> simp [backO] at h ⊢
theorem blk_back (μ' : Nat → Nat) (ν' : Nat → Value) {μ2 : Nat → Nat} {ν2 : Nat → Value} {o i : Nat} (f : Nat → Nat) (ob' : Nat → AObj) (gn : Nat → Nat) (g : Nat) (old x : AObj) (h1 : μ2 o = μ' i) (h2 : ν2 o = ν' i) : blkOf μ2 ν2 o (backO f ob' gn g old x) = blkOf μ' ν' i x := by
  cases x <;> simp [blkOf, backO, h1, h2]

theorem back_rel (hr : Rel P Z nt s a w I μ ν) {L : List Nat} (hcl : Closed s.ob L) (hn : L.Nodup) {nid : Nat} {obs' : List AObj} (hm : L.length ≤ obs'.length) (hfr : ∀ j, j < obs'.length - L.length → nid + j < s.n ∧ s.ob (nid + j) = .dead)
    {w' : World} {I' : Nat → Nat → Prop} {μ' : Nat → Nat} {ν' : Nat → Value} {N : Nat → Prop} (hN : ∀ b, N b ↔ ∃ o ∈ L, blkOf μ ν o (s.ob o) = some b) (h1 : StoR P (fun b => N b ∨ w.heap.size ≤ b) (obL obs') obs'.length w' I' μ' ν')
    (hI : ∀ b o, I b o → I' b o ∧ w'.cell? ⟨b, o, none⟩ = w.cell? ⟨b, o, none⟩) (hI' : ∀ b o, I' b o → I b o ∨ N b ∨ w.heap.size ≤ b) (hk : Keep N w w')
    (hg : GoesZ (obL (packL L s.ob false)) (obL obs') (fun i => μ (lN L i)) μ' (fun i => ν (lN L i)) ν') :
    (∃ μ2 ν2, Rel P Z nt { s with ob := upds s.ob (backE s.ob L nid obs') } a w' I' μ2 ν2 ∧ ∀ i, i < obs'.length → Leads (backN L nid) (backG s.ob (obL obs') L) (obL obs') (upds s.ob (backE s.ob L nid obs')) μ' μ2 ν' ν2 i) ∧ ∀ p ∈ backE s.ob L nid obs', upds s.ob (backE s.ob L nid obs') p.1 = p.2 ∧ ((∃ j, j < obs'.length - L.length ∧ p.1 = nid + j) ∨ s.ob p.1 ≠ .dead) := by
  have hlive : ∀ o ∈ L, s.ob o ≠ .dead := fun o ho h => by have := hcl.live o ho; rw [h] at this; cases this
  have hf : ∀ j, j < obs'.length - L.length → nid + j ∉ L := fun j hj h => hlive _ h (hfr j hj).2
  have bib := fun {i : Nat} (hi : i < obs'.length) => bi_back (nid := nid) hn hf hi
  have hinj : ∀ i j, i < obs'.length → j < obs'.length → backN L nid i = backN L nid j → i = j := fun i j hi hj e => by
    have h1 := bib hi
    rw [e, bib hj] at h1
    injection h1 with h1; exact h1.symm
  obtain ⟨u1, u2⟩ := upds_map s.ob (backN L nid) (fun i => backO (backN L nid) (obL obs') (backG s.ob (obL obs') L) (backG s.ob (obL obs') L i) (if i < L.length then s.ob (L.getD i 0) else .dead) (obL obs' i)) obs'.length hinj
  change (∀ i, i < obs'.length → upds s.ob (backE s.ob L nid obs') (backN L nid i) = _) at u1
  change (∀ o, (∀ i, i < obs'.length → backN L nid i ≠ o) → upds s.ob (backE s.ob L nid obs') o = s.ob o) at u2
  have hkeys : ∀ p ∈ backE s.ob L nid obs', upds s.ob (backE s.ob L nid obs') p.1 = p.2 ∧ ((∃ j, j < obs'.length - L.length ∧ p.1 = nid + j) ∨ s.ob p.1 ≠ .dead) := by
    intro p hp
    obtain ⟨i, hi, rfl⟩ := List.mem_map.1 hp
    rw [List.mem_range] at hi
    refine ⟨u1 i hi, ?_⟩
    show (∃ j, j < obs'.length - L.length ∧ backN L nid i = nid + j) ∨ s.ob (backN L nid i) ≠ .dead
    unfold backN
    split
    · rename_i h; exact .inr (hlive _ (lN_mem h))
    · exact .inl ⟨i - L.length, by omega, rfl⟩
  refine ⟨?_, hkeys⟩
  clear hkeys
  generalize hob2 : upds s.ob (backE s.ob L nid obs') = ob2 at *
  let μ2 : Nat → Nat := fun o => match bi L nid obs'.length o with | some i => μ' i | none => μ o
  let ν2 : Nat → Value := fun o => match bi L nid obs'.length o with | some i => ν' i | none => ν o
  have m1 : ∀ i, i < obs'.length → μ2 (backN L nid i) = μ' i ∧ ν2 (backN L nid i) = ν' i := fun i hi => by simp only [μ2, ν2, bib hi, and_self]
  have m2 : ∀ o, bi L nid obs'.length o = none → μ2 o = μ o ∧ ν2 o = ν o := fun o ho => by simp only [μ2, ν2, ho, and_self]
  have u2' : ∀ o, bi L nid obs'.length o = none → ob2 o = s.ob o := fun o ho => u2 o fun i hi e => by rw [← e, bib hi] at ho; cases ho
  have hleads : ∀ i, i < obs'.length → Leads (backN L nid) (backG s.ob (obL obs') L) (obL obs') ob2 μ' μ2 ν' ν2 i := fun i hi => by
    refine ⟨(m1 i hi).1, (m1 i hi).2, fun hd => ?_, fun g mv fz e sz els ho => ?_⟩
    · rw [u1 i hi]; exact backO_live hd
    · rw [u1 i hi, ho]; exact ⟨_, fz, rfl⟩
  have hNn : ∀ b, N b → Z.new b ∧ b < w.heap.size := fun b hb => by
    obtain ⟨o, ho, hb⟩ := (hN b).1 hb
    have := hr.blk_lt hb
    exact ⟨this.2, this.1⟩
  have hgo : Goes s.ob ob2 μ μ2 ν ν2 := by
    refine ⟨fun o ho => ?_, fun o g mv fz e sz els ho => ?_⟩
    · cases hb : bi L nid obs'.length o with
      | none => rw [u2' o hb]; exact ⟨ho, (m2 o hb).1⟩
      | some i =>
        obtain ⟨e, hi⟩ := back_bi hm hb
        have hiL : i < L.length := by
          rcases Nat.lt_or_ge i L.length with h | h
          · exact h
          · exfalso
            unfold backN at e
            rw [if_neg (by omega)] at e
            exact ho (by rw [← e]; exact (hfr _ (by omega)).2)
        have eo : lN L i = o := by unfold backN at e; rw [if_pos hiL] at e; exact e
        have hp : obL (packL L s.ob false) i ≠ .dead := by rw [packL_get hiL, eo]; exact packO_live ho
        obtain ⟨g1, g2⟩ := hg.live i hp
        rw [← e, u1 i hi]
        refine ⟨backO_live g1, ?_⟩
        rw [(m1 i hi).1, g2, eo, e]
    · cases hb : bi L nid obs'.length o with
      | none => rw [u2' o hb]; exact ⟨g, mv, fz, els, ho, Nat.le_refl _, id, fun _ => ⟨(m2 o hb).2, rfl⟩⟩
      | some i =>
        obtain ⟨e', hi⟩ := back_bi hm hb
        have hiL : i < L.length := by
          rcases Nat.lt_or_ge i L.length with h | h
          · exact h
          · exfalso
            unfold backN at e'
            rw [if_neg (by omega)] at e'
            have := (hfr _ (by omega : i - L.length < obs'.length - L.length)).2
            rw [e', ho] at this; cases this
        have eo : lN L i = o := by unfold backN at e'; rw [if_pos hiL] at e'; exact e'
        have hp : obL (packL L s.ob false) i = .vec 0 false fz e sz els := by rw [packL_get hiL, eo, ho]; simp [packO]
        obtain ⟨g1, mv1, fz1, els1, k1, k2⟩ := hg.vec i _ _ _ _ _ _ hp
        have hbg : backG s.ob (obL obs') L i = if mv1 then g + 1 else g := by
          unfold backG
          rw [k1]
          have : s.ob (L.getD i 0) = .vec g mv fz e sz els := by
            have : L.getD i 0 = o := eo
            rw [this]; exact ho
          rw [this]
          simp [hiL]
        have hob : ob2 o = .vec (if mv1 then g + 1 else g) (mv || mv1) fz1 e sz els1 := by
          rw [← e', u1 i hi, k1, hbg]
          have : s.ob (L.getD i 0) = .vec g mv fz e sz els := by
            have : L.getD i 0 = o := eo
            rw [this]; exact ho
          simp only [backO, hiL, if_true, this]
        refine ⟨_, _, fz1, els1, hob, by split <;> omega, fun h => by simp [h], fun h => ?_⟩
        have hmv : mv1 = false := by
          cases mv1 with
          | false => rfl
          | true =>
            rcases h with h | h
            · simp at h
            · simp at h
        obtain ⟨q1, q2⟩ := k2 hmv
        refine ⟨?_, q2⟩
        rw [← e', (m1 i hi).2, q1, e', eo]
  have hout : ∀ o b, bi L nid obs'.length o = none → blkOf μ ν o (s.ob o) = some b → b < w.heap.size ∧ ¬ N b := fun o b ho hb => by
    refine ⟨(hr.blk_lt hb).1, fun hNb => ?_⟩
    obtain ⟨o', ho', hb'⟩ := (hN b).1 hNb
    have : o' ≠ o := by
      rintro rfl
      simp [bi, ho'] at ho
    exact hr.sep o' o b this hb' hb
  have hin : ∀ i b, i < obs'.length → blkOf μ' ν' i (obL obs' i) = some b → N b ∨ w.heap.size ≤ b := fun i b hi hb => (h1.blk_lt hb).2
  refine ⟨μ2, ν2, ?_, hleads⟩
  have hkeep : Keep Z.N Z.w w' := hr.keep hk fun b _ hb => (hNn b hb).1
  have hnew : ∀ b, N b ∨ w.heap.size ≤ b → Z.new b := fun b hb => by
    rcases hb with hb | hb
    · exact (hNn b hb).1
    · exact new_above hr hb
  exact {
    nd := hr.nd
    size := hr.size
    ts := fun i => (hr.ts i).mono hI hgo (hr.sc i)
    sc := fun i => (hr.sc i).mono hgo
    os := fun o => by
      show ObR P Z.new w' I' μ2 ν2 ob2 o (ob2 o)
      cases hb : bi L nid obs'.length o with
      | none =>
        rw [u2' o hb]
        exact (hr.os o).grow hI hgo (u2' o hb) fun b hbk => ⟨hk.block b (hout o b hb hbk).1 (hout o b hb hbk).2, fun off hh => by
          rcases hI' b off hh with h | h | h
          · exact h
          · exact absurd h (hout o b hb hbk).2
          · have := (hout o b hb hbk).1; omega⟩
      | some i =>
        obtain ⟨e', hi⟩ := back_bi hm hb
        rw [← e', u1 i hi]
        refine ObR.ren (f := backN L nid) (gn := backG s.ob (obL obs') L) (ob2 := ob2) (μ2 := μ2) (ν2 := ν2) (h1.os i) (.inl (m1 i hi).1) (fun _ _ _ _ _ _ _ => (m1 i hi).2) (fun _ _ => (m1 i hi).1) (fun _ _ => (m1 i hi).1) (fun cs hcs cc hcc q hq => ?_) (fun b hb => hnew b (hin i b hi hb)) ?_
        · have hos := h1.os i
          rw [hcs] at hos
          obtain ⟨_, _, _, _, _, h5, _⟩ := hos
          exact hleads q (obL_lt (sc0_live (h5 cc hcc) q hq))
        · have hos := h1.os i
          generalize obL obs' i = x at hos
          cases x with
          | dead => exact .inr (.inr (.inr rfl))
          | box cs => exact .inl ⟨cs, rfl, rfl⟩
          | vec g mv fz e sz els => exact .inr (.inl ⟨g, mv, fz, e, sz, els, _, _, rfl, rfl⟩)
          | map es => exact .inr (.inr (.inl ⟨es, rfl, rfl⟩))
          | iter q l => exact hos.elim
    dd := fun o ho => by
      show ob2 o = .dead
      cases hb : bi L nid obs'.length o with
      | none => rw [u2' o hb]; exact hr.dd o ho
      | some i =>
        exfalso
        obtain ⟨e', hi⟩ := back_bi hm hb
        rcases Nat.lt_or_ge i L.length with h | h
        · have : o ∈ L := by rw [← e']; unfold backN; rw [if_pos h]; exact lN_mem h
          exact hlive o this (hr.dd o ho)
        · unfold backN at e'
          rw [if_neg (by omega)] at e'
          have := (hfr (i - L.length) (by omega)).1
          have ho' : s.n ≤ o := ho
          omega
    sep := fun o1 o2 b hne hb1 hb2 => by
      have hb1' : blkOf μ2 ν2 o1 (ob2 o1) = some b := hb1
      have hb2' : blkOf μ2 ν2 o2 (ob2 o2) = some b := hb2
      have none_case : ∀ o, bi L nid obs'.length o = none → blkOf μ2 ν2 o (ob2 o) = some b → blkOf μ ν o (s.ob o) = some b := fun o ho hbk => by
        rw [u2' o ho] at hbk
        obtain ⟨q1, q2⟩ := m2 o ho
        rw [← hbk]
        generalize s.ob o = x
        cases x <;> simp [blkOf, q1, q2]
      have some_case : ∀ o i, bi L nid obs'.length o = some i → blkOf μ2 ν2 o (ob2 o) = some b → blkOf μ' ν' i (obL obs' i) = some b ∧ i < obs'.length := fun o i ho hbk => by
        obtain ⟨e', hi⟩ := back_bi hm ho
        rw [← e', u1 i hi, blk_back μ' ν' _ _ _ _ _ _ (m1 i hi).1 (m1 i hi).2] at hbk
        exact ⟨hbk, hi⟩
      cases q1 : bi L nid obs'.length o1 with
      | none =>
        have r1 := none_case o1 q1 hb1'
        cases q2 : bi L nid obs'.length o2 with
        | none => exact hr.sep o1 o2 b hne r1 (none_case o2 q2 hb2')
        | some j =>
          obtain ⟨r2, hj⟩ := some_case o2 j q2 hb2'
          rcases hin j b hj r2 with h | h
          · exact (hout o1 b q1 r1).2 h
          · have := (hout o1 b q1 r1).1; omega
      | some i =>
        obtain ⟨r1, hi⟩ := some_case o1 i q1 hb1'
        cases q2 : bi L nid obs'.length o2 with
        | none =>
          have r2 := none_case o2 q2 hb2'
          rcases hin i b hi r1 with h | h
          · exact (hout o2 b q2 r2).2 h
          · have := (hout o2 b q2 r2).1; omega
        | some j =>
          obtain ⟨r2, hj⟩ := some_case o2 j q2 hb2'
          refine h1.sep i j b (fun e => hne ?_) r1 r2
          rw [← (back_bi hm q1).1, ← (back_bi hm q2).1, e]
    i2 := h1.i2
    bel := hkeep
    i0 := fun b o hi => ⟨(hI b o (hr.i0 b o hi).1).1, (hI b o (hr.i0 b o hi).1).2.trans (hr.i0 b o hi).2⟩
    i00 := hr.i00
    i1 := fun b o hi => by
      rcases hI' b o hi with h | h
      · exact hr.i1 b o h
      · exact .inr (hnew b h)
    go := hr.go.goes hgo }
end

end Go.Proofs.YteidaaobppjlbaaV
