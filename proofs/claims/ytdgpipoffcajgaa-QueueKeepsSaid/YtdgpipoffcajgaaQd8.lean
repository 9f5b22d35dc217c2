/- The queue's invariant; Release and Expire. -/
import Derived.Test.YtdgpipoffcajgaaQd7
set_option linter.unusedVariables false
set_option linter.unusedSimpArgs false
namespace Go.Proofs.YtdgpipoffcajgaaV
open Go.RowKit
attribute [local simp] TK.agg constAV evalAV EK.has EK.hasAll vecEls elsR AV.toD toDs AV.cells AV.one joinD TyI.zeroD OpR.of binIntF binStrF AV.isPtr ptrNil slNil mpNil nilE eqF negF posF binF pelF pvLoad pelSet pvStore boxLoad epLoad loadF boxStore storeF fieldAddrF fieldF epOf indexAddrF byteF indexF mapLen lenF cutF sliceF sliceN sliceX isSl slice3F fillF fillV arrFs buildF partsX landV buildSliceF roomB appVec appendF appMkF capF mmFrom mmF max2' min2' clearVec clearF convF unF pickF nilChkF extF ptrsOf callF makeSliceF sameKs sameD kindIs plainFs keyOk mapOb mapEs okV lookF lookupF putE putS mapPut mapUpdateF mapDel deleteF mapAll rangeM rangeF overV hitV nextO nextF entryM entryO entryF itOids builtinF capsOf allocF boxF bytesL bytesF byteTy strTy convertF makeFuncF mapNew makeMapF makeMapH opF reach reachOf AObj.live closedB nodupB packO packL packX backN backG backO obL backE frzX frzO AV.vids frzL landC sameObs landR touchF bitsW D.cells D.decEq D.decEqs AV.decEq AV.decEqs AObj.decEq AV.oids0 AV.oids AObj.oids renG renP AV.ren0 AV.ren envGet envPut envKeep obGet setEff putV St.put stepS keyChk chkD accD Ex.block AV.under AObj.under laysOf roomFor mkvO frzG szOk killO usedBy tidyS canL canS ghost ghostE normSt resOf allSome one0 resultsF finL finishL finish endF startEnv chkC backX comeC AV.flat0 rngC loopO layL endLp busyL idleL noRng rndSt rndEnd wpn_nil wpn_seq wpn_loop wpn_seq_exit wpn_loop_exit wpn_seq_ret wpn_loop_ret wpn_block wpn_post wpk_skip wpk_exit wpk_ret wpk_reg wpk_seq wpk_condT wpk_block wpk_loop wpk_pre wpk_post wop_nil wop_cons wop_guard St.know envSet cond_d cond_bool cond_int cond_str endE endQ freeB disj pushT bitsW int_beq int_bne eqS_def tbE fuelL_eq ann0_lays ann0_dd ann0_ro elsOf_dsl elsOf_dnils toNat_succ nn_succ pos_succ one_succ rng1 rng2 rng3 rng4 rng5 rng6 rng7 rng8 List.idxOf_cons wpk_rng rndK rndE
/-- The invariant of a queue with limits of the laws: at most 12 entries, small numbers. -/
structure Qs.wf (q : Qs) : Prop where
  eb : Stm q.bs q.ck q.es.length
  tb : Stm q.cs q.dk q.ts.length
  es : esOk q.es
  asc : q.ts.Pairwise fun x y => x.n < y.n
  fr : frA q.es
  rng : ∀ e ∈ q.es, inR e.a e.s
  tk : ∀ t ∈ q.ts, ∃ e ∈ q.es, e.a = t.a ∧ e.s = t.s ∧ e.tk = t.n
  kt : ∀ e ∈ q.es, e.tk ≠ 0 → ∃ t ∈ q.ts, t.n = e.tk ∧ t.a = e.a ∧ t.s = e.s
  tn : ∀ t ∈ q.ts, 1 ≤ t.n ∧ t.n ≤ q.iss
  ar : ∀ e ∈ q.es, e.arr < q.arr
  i0 : 0 ≤ q.iss ∧ q.iss < 900000
  a0 : 0 ≤ q.arr ∧ q.arr < 900000
  n0 : -1000 ≤ q.now ∧ q.now < 1000000000
  l0 : 1 ≤ q.la ∧ q.la ≤ 12 ∧ 1 ≤ q.lb ∧ q.lb ≤ 12 ∧ 1 ≤ q.lc ∧ q.lc ≤ 100
theorem len_unique {l : List Tck} (h : l.Pairwise fun x y => x.n < y.n) {x y : Tck} (hx : x ∈ l) (hy : y ∈ l) (e : x.n = y.n) : x = y := by
  induction l with
  | nil => cases hx
  | cons a l ih =>
    have h' := List.pairwise_cons.1 h
    rcases List.mem_cons.1 hx with rfl | hx'
    · rcases List.mem_cons.1 hy with rfl | hy'
      · rfl
      · have := h'.1 y hy'; omega
    · rcases List.mem_cons.1 hy with rfl | hy'
      · have := h'.1 x hx'; omega
      · exact ih h'.2 hx' hy'
theorem ids_unique {l : List Ent} (h : idsNe l) {x y : Ent} (hx : x ∈ l) (hy : y ∈ l) (e : x.iv = y.iv) : x = y := by
  induction l with
  | nil => cases hx
  | cons a l ih =>
    have h' := List.pairwise_cons.1 h
    rcases List.mem_cons.1 hx with rfl | hx'
    · rcases List.mem_cons.1 hy with rfl | hy'
      · rfl
      · exact absurd e (h'.1 y hy')
    · rcases List.mem_cons.1 hy with rfl | hy'
      · exact absurd e.symm (h'.1 x hx')
      · exact ih h'.2 hx' hy'
theorem nodup_le {α : Type} [DecidableEq α] : ∀ {l m : List α}, l.Nodup → (∀ x ∈ l, x ∈ m) → l.length ≤ m.length
  | [], m, _, _ => Nat.zero_le _
  | x :: l, m, hn, hs => by
    obtain ⟨h1, h2⟩ := List.nodup_cons.1 hn
    have hx := hs x (by simp)
    have ih := nodup_le (l := l) (m := m.erase x) h2 fun y hy => (List.mem_erase_of_ne (by rintro rfl; exact h1 hy)).2 (hs y (by simp [hy]))
    rw [List.length_erase_of_mem hx] at ih
    have := List.length_pos_of_mem hx
    simp only [List.length_cons]
    omega
theorem Qs.wf.tle {q : Qs} (h : q.wf) : q.ts.length ≤ q.es.length := by
  have hm : (q.ts.map fun t => (t.a, t.s)).Nodup := by
    refine List.pairwise_map.2 (List.Pairwise.imp_of_mem (fun {x y} hx hy hxy hne => ?_) h.asc)
    obtain ⟨e, he, h1, h2, h3⟩ := h.tk x hx
    obtain ⟨f, hf, g1, g2, g3⟩ := h.tk y hy
    injection hne with q1 q2
    have := ids_unique h.es.ids he hf (by simp only [Ent.iv]; rw [h1, h2, g1, g2, q1, q2])
    rw [this] at h3
    omega
  have hs : ∀ x ∈ q.ts.map fun t => (t.a, t.s), x ∈ q.es.map Ent.iv := by
    intro x hx
    obtain ⟨t, ht, rfl⟩ := List.mem_map.1 hx
    obtain ⟨e, he, h1, h2, h3⟩ := h.tk t ht
    exact List.mem_map.2 ⟨e, he, by simp only [Ent.iv, h1, h2]⟩
  simpa using nodup_le hm hs
theorem Qs.wf.ok {q : Qs} (h : q.wf) : q.ok := ⟨h.eb, h.tb, by have := h.es.le; omega, by have := h.tle; have := h.es.le; omega⟩
theorem Qs.wf.tso {q : Qs} (h : q.wf) : tsOk q.ts := ⟨h.asc, by have := h.tle; have := h.es.le; omega⟩
theorem Qs.wf.lim {q : Qs} (h : q.wf) : limOk q := by have := h.l0; exact ⟨by omega, by omega, by omega, by omega⟩
/-- The entry of a ticket. -/
theorem Qs.wf.ent {q : Qs} (h : q.wf) {t : Tck} (ht : t ∈ q.ts) : ∃ pre e post, q.es = pre ++ e :: post ∧ t.a = e.a ∧ t.s = e.s ∧ e.tk = t.n ∧ (∀ x ∈ pre, x.tk ≠ t.n) ∧ (∀ x ∈ post, x.tk ≠ t.n) := by
  obtain ⟨e, he, h1, h2, h3⟩ := h.tk t ht
  obtain ⟨pre, post, hs⟩ := List.append_of_mem he
  have key : ∀ x ∈ q.es, x.tk = t.n → x = e := fun x hx hxt => by
    have htn := h.tn t ht
    obtain ⟨u, hu, u1, u2, u3⟩ := h.kt x hx (by omega)
    have e1 := len_unique h.asc hu ht (by omega)
    subst e1
    exact ids_unique h.es.ids hx he (by simp only [Ent.iv]; rw [h1, h2, u2, u3])
  have hids := h.es.ids
  rw [hs] at hids
  obtain ⟨p1, p2, p3⟩ := List.pairwise_append.1 hids
  have p4 := List.pairwise_cons.1 p2
  refine ⟨pre, e, post, hs, h1.symm, h2.symm, h3, fun x hx hxt => ?_, fun x hx hxt => ?_⟩
  · have := key x (by rw [hs]; simp [hx]) hxt
    exact p3 x hx e (by simp) (by rw [this])
  · have := key x (by rw [hs]; simp [hx]) hxt
    exact p4.1 x hx (by rw [this])
theorem tsplit {ts : List Tck} (h : ts.Pairwise fun x y => x.n < y.n) {t : Tck} (ht : t ∈ ts) : ∃ tpre tpost, ts = tpre ++ t :: tpost ∧ (∀ x ∈ tpre, x.n ≠ t.n) ∧ (∀ x ∈ tpost, x.n ≠ t.n) := by
  obtain ⟨tpre, tpost, hs⟩ := List.append_of_mem ht
  rw [hs] at h
  obtain ⟨p1, p2, p3⟩ := List.pairwise_append.1 h
  have p4 := List.pairwise_cons.1 p2
  exact ⟨tpre, tpost, hs, fun x hx => by have := p3 x hx t (by simp); omega, fun x hx => by have := p4.1 x hx; omega⟩
/-- Behind a Release of ticket n. -/
def relE (n : Int) (e : Ent) : Ent := if e.tk = n then e.t 0 else e
def relQ (q : Qs) (n : Int) : Qs := { q with es := q.es.map (relE n), ts := q.ts.filter (fun t => decide (t.n ≠ n)), cs := q.cs.eraseIdx (q.ts.findIdx fun t => decide (t.n = n)) }
theorem map_rel {pre post : List Ent} {e : Ent} {n : Int} (h : e.tk = n) (h1 : ∀ x ∈ pre, x.tk ≠ n) (h2 : ∀ x ∈ post, x.tk ≠ n) : (pre ++ e :: post).map (relE n) = pre ++ e.t 0 :: post := by
  have k : ∀ l : List Ent, (∀ x ∈ l, x.tk ≠ n) → l.map (relE n) = l := fun l hl => by
    conv => rhs; rw [← List.map_id l]
    exact List.map_congr_left fun x hx => by simp [relE, hl x hx]
  rw [List.map_append, List.map_cons, k pre h1, k post h2]
  simp [relE, h]
theorem filter_rel {tpre tpost : List Tck} {t : Tck} (h1 : ∀ x ∈ tpre, x.n ≠ t.n) (h2 : ∀ x ∈ tpost, x.n ≠ t.n) : (tpre ++ t :: tpost).filter (fun x => decide (x.n ≠ t.n)) = tpre ++ tpost := by
  rw [List.filter_append, List.filter_cons_of_neg (by simp)]
  rw [List.filter_eq_self.2 fun x hx => by simpa using h1 x hx, List.filter_eq_self.2 fun x hx => by simpa using h2 x hx]
theorem find_rel : ∀ {tpre tpost : List Tck} {t : Tck}, (∀ x ∈ tpre, x.n ≠ t.n) → (tpre ++ t :: tpost).findIdx (fun x => decide (x.n = t.n)) = tpre.length
  | [], tpost, t, _ => by simp [List.findIdx_cons]
  | x :: tpre, tpost, t, h => by
    have ih := find_rel (tpre := tpre) (tpost := tpost) (t := t) fun y hy => h y (by simp [hy])
    have hx := h x (by simp)
    simp [List.findIdx_cons, hx, ih]
theorem relQ_eq {q : Qs} {pre post : List Ent} {e : Ent} {tpre tpost : List Tck} {t : Tck} (hs : q.es = pre ++ e :: post) (h3 : e.tk = t.n) (h1 : ∀ x ∈ pre, x.tk ≠ t.n) (h2 : ∀ x ∈ post, x.tk ≠ t.n) (ht : q.ts = tpre ++ t :: tpost) (g1 : ∀ x ∈ tpre, x.n ≠ t.n) (g2 : ∀ x ∈ tpost, x.n ≠ t.n) : relQ q t.n = q.rel pre e post tpre tpost := by
  unfold relQ Qs.rel
  rw [hs, ht, map_rel h3 h1 h2, filter_rel g1 g2, find_rel g1]
theorem relQ_run {q : Qs} (h : q.wf) {t : Tck} (ht : t ∈ q.ts) : run CC 29 [.ptr 0 0, .d (.int .i64 t.n)] q.obs = some (.d (.int .i64 0), (relQ q t.n).obs) := by
  obtain ⟨pre, e, post, hs, h1, h2, h3, h4, h5⟩ := h.ent ht
  obtain ⟨tpre, tpost, hts, g1, g2⟩ := tsplit h.asc ht
  rw [relQ_eq hs h3 h4 h5 hts g1 g2]
  exact release29_ok q h.es.ids h.fr.frs h.asc pre post e hs tpre tpost t hts ⟨h1, h2⟩
theorem stm_erase {bs : List Nat} {ck n : Nat} (h : Stm bs ck n) {i : Nat} (hi : i < n) : Stm (bs.eraseIdx i) ck (n - 1) := by
  refine ⟨?_, ?_, fun b hb => h.lt b (List.mem_of_mem_eraseIdx hb)⟩
  · rw [List.length_eraseIdx_of_lt (by rw [h.len]; exact hi), h.len]
  · exact h.nd.sublist (List.eraseIdx_sublist bs i)
theorem esOk_map {es : List Ent} (h : esOk es) (g : Ent → Ent) (g1 : ∀ e, (g e).iv = e.iv) (g2 : ∀ e, (g e).arr = e.arr) (g3 : ∀ e, (g e).S = e.S ∧ (g e).X = e.X) : esOk (es.map g) where
  ids := List.pairwise_map.2 (h.ids.imp fun {x y} hxy => by rw [g1, g1]; exact hxy)
  asc := List.pairwise_map.2 (h.asc.imp fun {x y} hxy => by rw [g2, g2]; exact hxy)
  le := by rw [List.length_map]; exact h.le
  fr := fun e he => by
    obtain ⟨x, hx, rfl⟩ := List.mem_map.1 he
    rw [(g3 x).1, (g3 x).2]
    exact h.fr x hx
theorem relE_iv (n : Int) (e : Ent) : (relE n e).iv = e.iv ∧ (relE n e).arr = e.arr ∧ (relE n e).S = e.S ∧ (relE n e).X = e.X ∧ (relE n e).a = e.a ∧ (relE n e).s = e.s ∧ (relE n e).tk = if e.tk = n then 0 else e.tk := by
  unfold relE
  by_cases h : e.tk = n
  · rw [if_pos h, if_pos h]; exact ⟨rfl, rfl, rfl, rfl, rfl, rfl, rfl⟩
  · rw [if_neg h, if_neg h]; exact ⟨rfl, rfl, rfl, rfl, rfl, rfl, rfl⟩
theorem relQ_wf {q : Qs} (h : q.wf) {t : Tck} (ht : t ∈ q.ts) : (relQ q t.n).wf := by
  obtain ⟨tpre, tpost, hts, g1, g2⟩ := tsplit h.asc ht
  have htl : (q.ts.filter fun x => decide (x.n ≠ t.n)).length = q.ts.length - 1 := by rw [hts, filter_rel g1 g2]; simp
  have hE := fun e => relE_iv t.n e
  refine ⟨?_, ?_, ?_, ?_, ?_, ?_, ?_, ?_, ?_, ?_, h.i0, h.a0, h.n0, h.l0⟩
  · simpa [relQ] using h.eb
  · show Stm (q.cs.eraseIdx _) q.dk (q.ts.filter _).length
    rw [htl]
    refine stm_erase h.tb ?_
    rw [hts, find_rel g1]
    simp
  · exact esOk_map h.es _ (fun e => (hE e).1) (fun e => (hE e).2.1) fun e => ⟨(hE e).2.2.1, (hE e).2.2.2.1⟩
  · exact h.asc.filter _
  · intro e he
    obtain ⟨x, hx, rfl⟩ := List.mem_map.1 he
    rw [(hE x).2.2.1, (hE x).2.2.2.1]
    exact h.fr x hx
  · intro e he
    obtain ⟨x, hx, rfl⟩ := List.mem_map.1 he
    rw [(hE x).2.2.2.2.1, (hE x).2.2.2.2.2.1]
    exact h.rng x hx
  · intro u hu
    obtain ⟨hu1, hu2⟩ := List.mem_filter.1 hu
    obtain ⟨e, he, e1, e2, e3⟩ := h.tk u hu1
    refine ⟨relE t.n e, List.mem_map.2 ⟨e, he, rfl⟩, ?_⟩
    rw [(hE e).2.2.2.2.1, (hE e).2.2.2.2.2.1, (hE e).2.2.2.2.2.2]
    have : u.n ≠ t.n := by simpa using hu2
    exact ⟨e1, e2, by rw [if_neg (by omega)]; exact e3⟩
  · intro e he hne
    obtain ⟨x, hx, rfl⟩ := List.mem_map.1 he
    rw [(hE x).2.2.2.2.2.2] at hne ⊢
    rw [(hE x).2.2.2.2.1, (hE x).2.2.2.2.2.1]
    by_cases hxt : x.tk = t.n
    · rw [if_pos hxt] at hne; exact absurd rfl hne
    · rw [if_neg hxt] at hne ⊢
      obtain ⟨u, hu, u1, u2, u3⟩ := h.kt x hx hne
      exact ⟨u, List.mem_filter.2 ⟨hu, by simp; omega⟩, u1, u2, u3⟩
  · exact fun u hu => h.tn u (List.mem_filter.1 hu).1
  · intro e he
    obtain ⟨x, hx, rfl⟩ := List.mem_map.1 he
    rw [(hE x).2.1]
    exact h.ar x hx
/-- Behind an Expire. -/
def expQ (q : Qs) (l : List Tck) : Qs := l.foldl (fun q t => relQ q t.n) q
theorem expQ_wf : ∀ {l : List Tck} {q : Qs}, q.wf → (l.Pairwise fun x y => x.n < y.n) → (∀ t ∈ l, t ∈ q.ts) → (expQ q l).wf
  | [], q, h, _, _ => h
  | t :: l, q, h, ha, hl => by
    obtain ⟨a1, a2⟩ := List.pairwise_cons.1 ha
    show (expQ (relQ q t.n) l).wf
    exact expQ_wf (relQ_wf h (hl t (by simp))) a2 fun u hu => List.mem_filter.2 ⟨hl u (by simp [hu]), by have := a1 u hu; simp; omega⟩
end Go.Proofs.YtdgpipoffcajgaaV
