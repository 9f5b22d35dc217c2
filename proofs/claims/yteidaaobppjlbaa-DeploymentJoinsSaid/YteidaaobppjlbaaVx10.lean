/- Stores under other names; slices that nobody writes any more. -/
import Derived.Test.YteidaaobppjlbaaVx9
set_option linter.unusedVariables false
set_option linter.unusedSimpArgs false
namespace Go.Proofs.YteidaaobppjlbaaV
open Go.RowKit

theorem sc0_live {ob : Nat → AObj} {x : AV} (h : x.sc0 ob) : ∀ o ∈ x.oids0, ob o ≠ .dead := by
  intro o ho
  cases x with
  | ptr q k => simp [AV.oids0] at ho; subst ho; exact h
  | mp q => simp [AV.oids0] at ho; subst ho; exact h
  | it q => simp [AV.oids0] at ho; subst ho; exact h
  | vs q g sz lo hi => simp [AV.oids0] at ho; subst ho; obtain ⟨g', mv, fz, e, sz', els, h1, _⟩ := h; rw [h1]; simp
  | pv q g j sz sub => simp [AV.oids0] at ho; subst ho; obtain ⟨g', mv, fz, e, sz', els, h1, _⟩ := h; rw [h1]; simp
  | fn g a b =>
    simp only [AV.oids0, List.mem_append, List.mem_map] at ho
    rcases ho with ⟨c, hc, rfl⟩ | ⟨c, hc, rfl⟩
    · exact h c (List.mem_append_left _ hc)
    · exact h c (List.mem_append_right _ hc)
  | _ => simp [AV.oids0] at ho
theorem sc_cases (x : AV) : (∃ l, x = .tup l) ∨ ((∀ ob, x.sc ob = x.sc0 ob) ∧ x.oids = x.oids0) := by
  cases x <;> first | exact .inl ⟨_, rfl⟩ | exact .inr ⟨fun _ => rfl, rfl⟩
theorem sc_live {ob : Nat → AObj} {x : AV} (h : x.sc ob) : ∀ o ∈ x.oids, ob o ≠ .dead := by
  intro o ho
  rcases sc_cases x with ⟨l, rfl⟩ | ⟨h1, h2⟩
  · simp only [AV.oids, List.mem_flatMap] at ho
    obtain ⟨y, hy, ho⟩ := ho
    exact sc0_live (h y hy) o ho
  · rw [h1] at h; rw [h2] at ho
    exact sc0_live h o ho
theorem obL_lt {l : List AObj} {i : Nat} (h : obL l i ≠ .dead) : i < l.length := by
  rcases Nat.lt_or_ge i l.length with hl | hl
  · exact hl
  · exact absurd (by simp [obL, List.getD_eq_getElem?_getD, List.getElem?_eq_none hl]) h

/-! ### The objects of a list, under the names 0, 1, .. -/
def lN (L : List Nat) (i : Nat) : Nat := L.getD i 0
theorem lN_idx {L : List Nat} {o : Nat} (h : o ∈ L) : L.idxOf o < L.length ∧ lN L (L.idxOf o) = o := by
  have hl : L.idxOf o < L.length := List.idxOf_lt_length_iff.2 h
  refine ⟨hl, ?_⟩
  unfold lN
  rw [List.getD_eq_getElem?_getD, List.getElem?_eq_getElem hl]
  simp
theorem nodupB_ok : ∀ {L : List Nat}, nodupB L = true → L.Nodup
  | [], _ => List.nodup_nil
  | x :: r, h => by
    simp only [nodupB, Bool.and_eq_true, Bool.not_eq_true', List.contains_eq_mem, decide_eq_false_iff_not] at h
    exact List.nodup_cons.2 ⟨h.1, nodupB_ok h.2⟩
theorem idx_lN {L : List Nat} (hn : L.Nodup) {i : Nat} (h : i < L.length) : L.idxOf (lN L i) = i := by
  unfold lN
  rw [List.getD_eq_getElem?_getD, List.getElem?_eq_getElem h]
  exact List.Nodup.idxOf_getElem hn i h
theorem lN_mem {L : List Nat} {i : Nat} (h : i < L.length) : lN L i ∈ L := by
  unfold lN
  rw [List.getD_eq_getElem?_getD, List.getElem?_eq_getElem h]
  exact List.getElem_mem h
theorem packL_get {L : List Nat} {ob : Nat → AObj} {keep : Bool} {i : Nat} (h : i < L.length) : obL (packL L ob keep) i = packO (fun q => L.idxOf q) ob keep (ob (lN L i)) := by
  unfold obL packL lN
  rw [List.getD_eq_getElem?_getD, List.getElem?_map, List.getElem?_eq_getElem h, List.getD_eq_getElem?_getD, List.getElem?_eq_getElem h]
  rfl
theorem packO_live {f : Nat → Nat} {ob : Nat → AObj} {keep : Bool} {x : AObj} (h : x ≠ .dead) : packO f ob keep x ≠ .dead := by
  cases x <;> simp [packO] at h ⊢
theorem leads_pack {L : List Nat} {ob : Nat → AObj} {keep : Bool} {μ : Nat → Nat} {ν : Nat → Value} {o : Nat} (h : o ∈ L) :
    Leads (fun q => L.idxOf q) (fun _ => 0) ob (obL (packL L ob keep)) μ (fun i => μ (lN L i)) ν (fun i => ν (lN L i)) o := by
  obtain ⟨hl, he⟩ := lN_idx h
  refine ⟨by simp only [he], by simp only [he], fun hd => ?_, fun g mv fz e sz els hob => ?_⟩
  · rw [packL_get hl, he]; exact packO_live hd
  · rw [packL_get hl, he, hob]; exact ⟨keep && mv, fz, rfl⟩
theorem blk_pack {L : List Nat} {ob : Nat → AObj} {keep : Bool} {μ : Nat → Nat} {ν : Nat → Value} (f : Nat → Nat) (i : Nat) (x : AObj) : blkOf (fun i => μ (lN L i)) (fun i => ν (lN L i)) i (packO f ob keep x) = blkOf μ ν (lN L i) x := by
  cases x <;> rfl

structure Closed (ob : Nat → AObj) (L : List Nat) : Prop where
  live : ∀ o ∈ L, (ob o).live = true
  ids : ∀ o ∈ L, ∀ q ∈ (ob o).oids, q ∈ L
theorem closedB_ok {ob : Nat → AObj} {L : List Nat} {xs : List AV} (h : closedB ob L xs = true) : Closed ob L ∧ ∀ x ∈ xs, ∀ q ∈ x.oids, q ∈ L := by
  simp only [closedB, Bool.and_eq_true, List.all_eq_true, List.contains_eq_mem, decide_eq_true_eq] at h
  exact ⟨⟨fun o ho => (h.1 o ho).1, fun o ho => (h.1 o ho).2⟩, h.2⟩

section
variable {P : Program} {w : World} {I : Nat → Nat → Prop}

theorem VecR.newN {N N' : Nat → Prop} {v : Value} {fz : Bool} {e : TypeId} {sz : Nat} {els : List D} {xs : List Value} (h : VecR P N w I v fz e sz els xs) (hN : ∀ b, v.ownBlock = some b → N' b) : VecR P N' w I v fz e sz els xs :=
  { h with new := hN }
/-- An object under another name. -/
theorem ObR.ren {N N' : Nat → Prop} {f gn : Nat → Nat} {ob ob2 : Nat → AObj} {μ μ2 : Nat → Nat} {ν ν2 : Nat → Value} {o : Nat} {x : AObj} (h : ObR P N w I μ ν ob o (ob o)) (hm : μ2 (f o) = μ o ∨ blkOf μ ν o (ob o) = none) (hv : ∀ g mv fz e sz els, ob o = .vec g mv fz e sz els → ν2 (f o) = ν o)
    (hμ : ∀ cs, ob o = .box cs → μ2 (f o) = μ o) (hμm : ∀ es, ob o = .map es → μ2 (f o) = μ o)
    (hl : ∀ cs, ob o = .box cs → ∀ c ∈ cs, ∀ q ∈ c.oids0, Leads f gn ob ob2 μ μ2 ν ν2 q) (hN : ∀ b, blkOf μ ν o (ob o) = some b → N' b)
    (hx : (∃ cs, ob o = .box cs ∧ x = .box (cs.map (AV.ren0 f ob gn))) ∨ (∃ g mv fz e sz els g' mv', ob o = .vec g mv fz e sz els ∧ x = .vec g' mv' fz e sz els) ∨ (∃ es, ob o = .map es ∧ x = .map es) ∨ x = .dead) : ObR P N' w I μ2 ν2 ob2 (f o) x := by
  rcases hx with ⟨cs, hob, rfl⟩ | ⟨g, mv, fz, e, sz, els, g', mv', hob, rfl⟩ | ⟨es, hob, rfl⟩ | rfl
  · have hl := hl cs hob
    have e := hμ cs hob
    rw [hob] at h hN
    obtain ⟨vs, t, h1, h3, h4, h5, h6, h7, h8⟩ := h
    have key : ∀ (i : Nat) (c : AV) (v : Value), cs[i]? = some c → vs[i]? = some v → VR w I μ2 ν2 ob2 (c.ren0 f ob gn) v ∧ (c.ren0 f ob gn).sc0 ob2 := fun i c v hc hv =>
      (h4 i c v hc hv).ren0 (h5 c (List.mem_of_getElem? hc)) (hl c (List.mem_of_getElem? hc))
    refine ⟨vs, t, by rw [e]; exact h1, by simpa using h3, fun i c v hc hv => ?_, fun c hc => ?_, h6, fun off => by rw [e]; exact h7 off, by rw [e]; exact hN _ rfl⟩
    · rw [List.getElem?_map] at hc
      obtain ⟨y, hy, rfl⟩ := Option.map_eq_some_iff.1 hc
      exact (key i y v hy hv).1
    · obtain ⟨y, hy, rfl⟩ := List.mem_map.1 hc
      obtain ⟨i, hi⟩ := List.mem_iff_getElem?.1 hy
      have hlt : i < vs.length := by rw [← h3]; exact (List.getElem?_eq_some_iff.1 hi).1
      exact (key i y _ hi (List.getElem?_eq_getElem hlt)).2
  · have hν := hv _ _ _ _ _ _ hob
    rw [hob] at h hN
    obtain ⟨xs, hvr⟩ := h
    exact ⟨xs, by rw [hν]; exact hvr.newN hN⟩
  · have e := hμm es hob
    rw [hob] at h hN
    obtain ⟨ents, clock, h1, h2, h3, h4, h5⟩ := h
    exact ⟨ents, clock, by rw [e]; exact h1, h2, by rw [e]; exact hN _ rfl, h4, h5⟩
  · trivial

/-- A part of a store that leads nowhere else is a store. -/
theorem pack_sto {N : Nat → Prop} {ob : Nat → AObj} {n : Nat} {μ : Nat → Nat} {ν : Nat → Value} {L : List Nat} (h : StoR P N ob n w I μ ν) (hc : Closed ob L) (hn : L.Nodup) (keep : Bool) (N' : Nat → Prop) (hN : ∀ o ∈ L, ∀ b, blkOf μ ν o (ob o) = some b → N' b) :
    StoR P N' (obL (packL L ob keep)) L.length w I (fun i => μ (lN L i)) (fun i => ν (lN L i)) := by
  have hlen : (packL L ob keep).length = L.length := by simp [packL]
  have hdead : ∀ i, L.length ≤ i → obL (packL L ob keep) i = .dead := fun i hi => by
    unfold obL
    rw [List.getD_eq_getElem?_getD, List.getElem?_eq_none (by omega)]; rfl
  refine ⟨fun i => ?_, hdead, fun i j b hij h1 h2 => ?_, h.i2⟩
  · rcases Nat.lt_or_ge i L.length with hi | hi
    · have hm := lN_mem hi
      rw [packL_get hi]
      have := ObR.ren (N' := N') (f := fun q => L.idxOf q) (gn := fun _ => 0) (ob2 := obL (packL L ob keep)) (μ2 := fun i => μ (lN L i)) (ν2 := fun i => ν (lN L i)) (x := packO (fun q => L.idxOf q) ob keep (ob (lN L i))) (h.os (lN L i)) (by simp [idx_lN hn hi]) (by simp [idx_lN hn hi]) (by simp [idx_lN hn hi]) (by simp [idx_lN hn hi])
        (fun cs hob c hcm q hq => leads_pack (hc.ids _ hm q (by rw [hob]; simp only [AObj.oids, List.mem_flatMap]; exact ⟨c, hcm, hq⟩))) (hN _ hm) ?_
      · simpa [idx_lN hn hi] using this
      · have hl := hc.live _ hm
        generalize ob (lN L i) = x at hl ⊢
        cases x with
        | dead => simp [AObj.live] at hl
        | box cs => exact .inl ⟨cs, rfl, rfl⟩
        | vec g mv fz e sz els => exact .inr (.inl ⟨g, mv, fz, e, sz, els, 0, keep && mv, rfl, rfl⟩)
        | map es => exact .inr (.inr (.inl ⟨es, rfl, rfl⟩))
        | iter m l => simp [AObj.live] at hl
    · rw [hdead i hi]; trivial
  · rcases Nat.lt_or_ge i L.length with hi | hi
    · rcases Nat.lt_or_ge j L.length with hj | hj
      · rw [packL_get hi, blk_pack] at h1
        rw [packL_get hj, blk_pack] at h2
        refine h.sep (lN L i) (lN L j) b (fun e => hij ?_) h1 h2
        rw [← idx_lN hn hi, ← idx_lN hn hj, e]
      · rw [hdead j hj] at h2; cases h2
    · rw [hdead i hi] at h1; cases h1
end

section
variable {P : Program} {c : Ctx} {Z : Zst} {nt : Nat} {s : SS} {a : Act} {w : World} {I : Nat → Nat → Prop} {μ : Nat → Nat} {ν : Nat → Value}

theorem upd_self {α : Type} (f : Nat → α) (i : Nat) {x : α} (h : f i = x) : upd f i x = f := by
  funext k; simp only [upd]; split
  · rename_i e; subst e; exact h.symm
  · rfl
/-- A slice that nobody writes any more. -/
theorem freeze1 (hr : Rel P Z nt s a w I μ ν) {o g : Nat} {mv fz : Bool} {e : TypeId} {sz : Nat} {els : List D} (hob : s.ob o = .vec g mv fz e sz els) : ∃ I', (∀ b off, I b off → I' b off) ∧ Rel P Z nt { s with ob := upd s.ob o (.vec g mv true e sz els) } a w I' μ ν := by
  cases fz with
  | true => exact ⟨I, fun _ _ h => h, by rw [upd_self _ _ hob]; exact hr⟩
  | false =>
  have ho := hr.os o
  rw [hob] at ho
  obtain ⟨xs, hv⟩ := ho
  have hlive : s.ob o ≠ .dead := by rw [hob]; simp
  let I' : Nat → Nat → Prop := fun b off => I b off ∨ (ν o).ownBlock = some b ∧ off < els.length * sz
  have hI : ∀ b off, I b off → I' b off ∧ w.cell? ⟨b, off, none⟩ = w.cell? ⟨b, off, none⟩ := fun b off h => ⟨.inl h, rfl⟩
  refine ⟨I', fun b off h => .inl h, ?_⟩
  refine hr.turn (hr.lt_n hlive) hI (goes_upd hlive (by simp) fun g2 mv2 fz2 e2 sz2 els2 h2 => ?_) (fun o' b hne hb => ⟨rfl, fun off hh => ?_⟩) (fun o' hne => rfl) ⟨xs, ?_⟩ (fun o' b hne hb => ?_) hr.bel (fun b off h => ?_) (fun b off h => ?_)
  · rw [hob] at h2
    injection h2 with e1 e2 e3 e4 e5 e6
    subst e1; subst e2; subst e4; subst e5; subst e6
    exact ⟨true, els, rfl, rfl⟩
  · rcases hh with hh | ⟨hh, _⟩
    · exact hh
    · exact absurd hb (hr.sep o o' _ (Ne.symm hne) (by rw [hob]; exact hh))
  · exact { info := hv.info, pos := hv.pos, own := hv.own, size := hv.size, rd := fun j d u hd hu => (hv.rd j d u hd hu).mono hI, one := hv.one, new := hv.new
            spare := fun b hb off hoff hi => by
              rcases hi with hi | ⟨_, hi⟩
              · exact hv.spare b hb off hoff hi
              · omega
            free := fun h => by cases h
            froz := fun _ b hb off hoff => .inr ⟨hb, hoff⟩ }
  · intro e
    exact hr.sep o o' b (Ne.symm hne) (by rw [hob]; exact e) hb
  · rcases h with h | ⟨h, _⟩
    · exact .inl h
    · exact .inr (hv.new b h)
  · rcases h with h | ⟨h, _⟩
    · exact hr.i2 b off h
    · exact (hv.own.lt b h).2

/-- A part of such a slice is a datum. -/
theorem view_VRd {N : Nat → Prop} {v0 v : Value} {e : TypeId} {sz lo hi : Nat} {els : List D} {xs : List Value} (hv : VecR P N w I v0 true e sz els xs) (h1 : lo ≤ hi) (h2 : hi ≤ els.length) (h : viewOk v0 lo hi sz v) : VRd w I (.sl ((els.take hi).drop lo)) v := by
  obtain ⟨A0, n0, c0, A', e1, e2, e3, e4, e5⟩ := h
  have hlen : ((els.take hi).drop lo).length = hi - lo := by rw [List.length_drop, List.length_take]; omega
  rw [e2, ← hlen]
  by_cases h0 : hi - lo = 0
  · have : (els.take hi).drop lo = [] := List.eq_nil_of_length_eq_zero (by omega)
    rw [this]
    exact .sl _ _ _ 0 0 0 (fun _ => undef) (by simp) (by simp) (by simp) (by simp) (by simp [D.flat])
  · obtain ⟨b, hb, hcv, hcell⟩ := hv.blk (by omega)
    have hA : A' = some ⟨b, lo * sz, none⟩ := by
      rw [e5 (by omega)]
      rcases hv.own.2 with ⟨q, h1⟩ | ⟨b', cap, cur, q, _⟩
      · omega
      · rw [q] at e1 hb
        injection e1 with e1 _ _
        simp only [Value.ownBlock, Option.some.injEq] at hb
        subst hb
        rw [← e1]
        simp [Addr.add_lit]
    have hxl := hv.own.1
    have hle : lo * sz + (hi - lo) * sz ≤ els.length * sz := by
      rw [← Nat.add_mul]
      exact Nat.mul_le_mul_right _ (by omega)
    refine .sl _ _ _ sz b (lo * sz) (fun j => xs.getD (lo * sz + j) undef) (by omega) (fun el hel => hv.size el (List.mem_of_mem_take (List.mem_of_mem_drop hel))) (fun _ => hA) (fun j hj => ?_) (fun j d hj => ?_)
    · rw [hlen] at hj
      have hlt : lo * sz + j < xs.length := by omega
      have hx : xs[lo * sz + j]? = some (xs.getD (lo * sz + j) undef) := by rw [List.getD_eq_getElem?_getD, List.getElem?_eq_getElem hlt]; rfl
      exact ⟨hcell _ _ hx, hv.froz rfl b hb _ (by omega), hv.one _ (List.mem_of_getElem? hx)⟩
    · have hj' := flat_cut hv.size (by omega) hj
      have hlt : lo * sz + j < xs.length := by
        have := (List.getElem?_eq_some_iff.1 hj').1
        rw [length_flat hv.size] at this
        omega
      exact hv.rd _ d _ hj' (by rw [List.getD_eq_getElem?_getD, List.getElem?_eq_getElem hlt]; rfl)
end

end Go.Proofs.YteidaaobppjlbaaV
