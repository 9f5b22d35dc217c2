/- The model: expire. -/
import Derived.Test.YtdgpipoffcajgaaQe3
set_option linter.unusedVariables false
set_option linter.unusedSimpArgs false
namespace Go.Proofs.YtdgpipoffcajgaaV
open Go.RowKit
attribute [local simp] TK.agg constAV evalAV EK.has EK.hasAll vecEls elsR AV.toD toDs AV.cells AV.one joinD TyI.zeroD OpR.of binIntF binStrF AV.isPtr ptrNil slNil mpNil nilE eqF negF posF binF pelF pvLoad pelSet pvStore boxLoad epLoad loadF boxStore storeF fieldAddrF fieldF epOf indexAddrF byteF indexF mapLen lenF cutF sliceF sliceN sliceX isSl slice3F fillF fillV arrFs buildF partsX landV buildSliceF roomB appVec appendF appMkF capF mmFrom mmF max2' min2' clearVec clearF convF unF pickF nilChkF extF ptrsOf callF makeSliceF sameKs sameD kindIs plainFs keyOk mapOb mapEs okV lookF lookupF putE putS mapPut mapUpdateF mapDel deleteF mapAll rangeM rangeF overV hitV nextO nextF entryM entryO entryF itOids builtinF capsOf allocF boxF bytesL bytesF byteTy strTy convertF makeFuncF mapNew makeMapF makeMapH opF reach reachOf AObj.live closedB nodupB packO packL packX backN backG backO obL backE frzX frzO AV.vids frzL landC sameObs landR touchF bitsW D.cells D.decEq D.decEqs AV.decEq AV.decEqs AObj.decEq AV.oids0 AV.oids AObj.oids renG renP AV.ren0 AV.ren envGet envPut envKeep obGet setEff putV St.put stepS keyChk chkD accD Ex.block AV.under AObj.under laysOf roomFor mkvO frzG szOk killO usedBy tidyS canL canS ghost ghostE normSt resOf allSome one0 resultsF finL finishL finish endF startEnv chkC backX comeC AV.flat0 rngC loopO layL endLp busyL idleL noRng rndSt rndEnd wpn_nil wpn_seq wpn_loop wpn_seq_exit wpn_loop_exit wpn_seq_ret wpn_loop_ret wpn_block wpn_post wpk_skip wpk_exit wpk_ret wpk_reg wpk_seq wpk_condT wpk_block wpk_loop wpk_pre wpk_post wop_nil wop_cons wop_guard St.know envSet cond_d cond_bool cond_int cond_str endE endQ freeB disj pushT bitsW int_beq int_bne eqS_def tbE fuelL_eq ann0_lays ann0_dd ann0_ro elsOf_dsl elsOf_dnils toNat_succ nn_succ pos_succ one_succ rng1 rng2 rng3 rng4 rng5 rng6 rng7 rng8 List.idxOf_cons wpk_rng rndK rndE
/-- The queue's objects, its box at place k. -/
abbrev Qs.obk (q : Qs) (k : Nat) : List AObj := [.box [.d (.int .i64 q.la), .d (.int .i64 q.lb), .d (.int .i64 q.lc), .mp (k + 1), .mp (k + 2), .d (.int .i64 q.arr), .d (.int .i64 q.iss), .d (.int .i64 q.srv), .d (.int .i64 q.now)], .mapd (q.es.map Ent.p) q.bs q.ck, .mapd (q.ts.map Tck.p) q.cs q.dk]
def clr (n now : Int) (e : Me) : Me := if e.t.n < n ∧ ¬ now < e.t.u then { e with t := zT } else e
theorem clr_fr {es : List Me} (h : frM es) (n now : Int) : frM (es.map (clr n now)) := by
  intro e he
  obtain ⟨x, hx, rfl⟩ := List.mem_map.1 he
  obtain ⟨l1, l2, h1, h2⟩ := h x hx
  refine ⟨l1, l2, ?_⟩
  unfold clr
  split
  · exact ⟨h1, h2⟩
  · exact ⟨h1, h2⟩
theorem fndM_none {n : Int} : ∀ {es : List Me} {i : Nat}, (∀ e ∈ es, e.t.n ≠ n) → fndM n es i = -1
  | [], i, h => rfl
  | e :: es, i, h => by
    rw [fndM, if_neg (h e (by simp))]
    exact fndM_none fun x hx => h x (by simp [hx])
theorem fndM_at {n : Int} : ∀ {es : List Me} {i j : Nat} (hj : j < es.length), es[j].t.n = n → (∀ k (hk : k < es.length), k < j → es[k].t.n ≠ n) → fndM n es i = ((i + j : Nat) : Int)
  | [], i, j, hj, _, _ => absurd hj (by simp)
  | e :: es, i, 0, hj, h1, h2 => by
    rw [fndM, if_pos (by simpa using h1)]; simp
  | e :: es, i, j + 1, hj, h1, h2 => by
    have h3 := h2 0 (by simp) (by omega)
    rw [fndM, if_neg (by simpa using h3)]
    rw [fndM_at (es := es) (i := i + 1) (j := j) (by simpa using hj) (by simpa using h1) fun k hk hkj => by have := h2 (k + 1) (by simp only [List.length_cons]; omega) (by omega); rw [List.getElem_cons_succ] at this; exact this]
    congr 1
    omega
/-- The model's tickets: those of the list, each at one entry. -/
structure tkM (es : List Me) (ts : List Tck) (nx : Int) : Prop where
  z : ∀ e ∈ es, e.t.n = 0 → e.t = zT
  m : ∀ e ∈ es, e.t.n ≠ 0 → e.t ∈ ts
  i : ∀ t ∈ ts, ∃ e ∈ es, e.t = t
  u : es.Pairwise fun x y => x.t.n ≠ 0 → x.t.n ≠ y.t.n
  a : ts.Pairwise fun x y => x.n < y.n
  b : ∀ t ∈ ts, 1 ≤ t.n ∧ t.n < nx
theorem filt_step (P : Tck → Prop) [DecidablePred P] (n : Int) : ∀ {ts : List Tck}, (ts.Pairwise fun x y => x.n < y.n) → ts.filter (fun t => decide (t.n < n + 1 ∧ P t)) = ts.filter (fun t => decide (t.n < n ∧ P t)) ++ ts.filter (fun t => decide (t.n = n ∧ P t))
  | [], _ => rfl
  | t :: ts, h => by
    obtain ⟨h1, h2⟩ := List.pairwise_cons.1 h
    have ih := filt_step P n h2
    by_cases h3 : t.n < n
    · have q1 : t.n < n + 1 := by omega
      have q2 : ¬ t.n = n := by omega
      simp only [List.filter_cons, ih, h3, q1, q2, true_and, false_and, decide_false, Bool.false_eq_true, if_false]
      split <;> simp
    · have hz : ts.filter (fun t => decide (t.n < n ∧ P t)) = [] := List.filter_eq_nil_iff.2 fun x hx => by
        have := h1 x hx
        simp; intro hh; omega
      rw [hz] at ih
      by_cases h4 : t.n = n
      · have q1 : t.n < n + 1 := by omega
        simp only [List.filter_cons, ih, hz, h3, q1, h4, true_and, false_and, decide_false, Bool.false_eq_true, if_false, List.nil_append]
        have q2 : n < n + 1 := by omega
        by_cases hP : P t <;> simp [hP, q2]
      · have q1 : ¬ t.n < n + 1 := by omega
        simp only [List.filter_cons, ih, hz, h3, q1, h4, true_and, false_and, decide_false, Bool.false_eq_true, if_false, List.nil_append]
theorem filt_one (P : Tck → Prop) [DecidablePred P] {ts : List Tck} (h : ts.Pairwise fun x y => x.n < y.n) {t : Tck} (ht : t ∈ ts) : ts.filter (fun x => decide (x.n = t.n ∧ P x)) = if P t then [t] else [] := by
  obtain ⟨tpre, tpost, hs, g1, g2⟩ := tsplit h ht
  rw [hs, List.filter_append, List.filter_cons]
  have e1 : tpre.filter (fun x => decide (x.n = t.n ∧ P x)) = [] := List.filter_eq_nil_iff.2 fun x hx => by have := g1 x hx; simp [this]
  have e2 : tpost.filter (fun x => decide (x.n = t.n ∧ P x)) = [] := List.filter_eq_nil_iff.2 fun x hx => by have := g2 x hx; simp [this]
  rw [e1, e2]
  by_cases hP : P t <;> simp [hP]
theorem filt_no (P : Tck → Prop) [DecidablePred P] {n : Int} {ts : List Tck} (h : ∀ t ∈ ts, t.n ≠ n) : ts.filter (fun x => decide (x.n = n ∧ P x)) = [] :=
  List.filter_eq_nil_iff.2 fun x hx => by have := h x hx; simp [this]
/-- One round of the model's loop, at number n. -/
theorem exp_step {es : List Me} {ts : List Tck} {nx : Int} (h : tkM es ts nx) (now n : Int) (hn : 1 ≤ n) :
    (fndM n (es.map (clr n now)) 0 = -1 ∧ es.map (clr (n + 1) now) = es.map (clr n now) ∧ (∀ t ∈ ts, t.n ≠ n)) ∨
    ∃ j, ∃ hj : j < es.length, fndM n (es.map (clr n now)) 0 = (j : Int) ∧ es[j].t.n = n ∧ es[j].t ∈ ts ∧ clr n now es[j] = es[j] ∧ (now < es[j].t.u → es.map (clr (n + 1) now) = es.map (clr n now)) ∧ (¬ now < es[j].t.u → es.map (clr (n + 1) now) = (es.map (clr n now)).set j { es[j] with t := zT }) := by
  have hc : ∀ e ∈ es, e.t.n ≠ n → clr (n + 1) now e = clr n now e := fun e he hne => by
    unfold clr
    by_cases h1 : e.t.n < n
    · have : e.t.n < n + 1 := by omega
      simp [h1, this]
    · have : ¬ e.t.n < n + 1 := by omega
      simp [h1, this]
  have hcn : ∀ e ∈ es, e.t.n ≠ n → (clr n now e).t.n ≠ n := fun e he hne => by
    unfold clr
    split
    · simp; omega
    · exact hne
  by_cases ht : ∃ t ∈ ts, t.n = n
  · obtain ⟨t, ht, htn⟩ := ht
    obtain ⟨e, he, het⟩ := h.i t ht
    obtain ⟨j, hj, rfl⟩ := List.getElem_of_mem he
    have hne : ∀ k (hk : k < es.length), k ≠ j → es[k].t.n ≠ n := fun k hk hkj => by
      rcases Nat.lt_or_gt_of_ne hkj with h1 | h1
      · intro hkn
        have := List.pairwise_iff_getElem.1 h.u k j hk hj h1 (by omega)
        rw [het, htn] at this
        exact this hkn
      · have := List.pairwise_iff_getElem.1 h.u j k hj hk h1 (by rw [het]; omega)
        rw [het, htn] at this
        exact fun e => this e.symm
    have hcj : clr n now es[j] = es[j] := by
      unfold clr
      rw [if_neg (by rw [het]; omega)]
    refine .inr ⟨j, hj, ?_, by rw [het, htn], by rw [het]; exact ht, hcj, fun hu => ?_, fun hu => ?_⟩
    · rw [fndM_at (j := j) (by simpa using hj) (by simp [hcj, het, htn]) fun k hk hkj => by
        have hk' : k < es.length := by simpa using hk
        simpa using hcn es[k] (List.getElem_mem hk') (hne k hk' (by omega))]
      simp
    · refine List.ext_getElem (by simp) fun k hk1 hk2 => ?_
      have hk' : k < es.length := by simpa using hk1
      simp only [List.getElem_map]
      by_cases hkj : k = j
      · subst hkj
        unfold clr
        simp [hu]
      · exact hc _ (List.getElem_mem hk') (hne k hk' hkj)
    · refine List.ext_getElem (by simp) fun k hk1 hk2 => ?_
      have hk' : k < es.length := by simpa using hk1
      by_cases hkj : k = j
      · subst hkj
        have : es[k].t.n < n + 1 := by rw [het]; omega
        simp [clr, hu, this]
      · rw [List.getElem_set_ne (by omega)]
        simp only [List.getElem_map]
        exact hc _ (List.getElem_mem hk') (hne k hk' hkj)
  · have hno : ∀ t ∈ ts, t.n ≠ n := fun t h1 h2 => ht ⟨t, h1, h2⟩
    have hne : ∀ e ∈ es, e.t.n ≠ n := fun e he hen => hno _ (h.m e he (by omega)) hen
    refine .inl ⟨fndM_none fun e he => ?_, List.map_congr_left fun e he => hc e he (hne e he), hno⟩
    obtain ⟨x, hx, rfl⟩ := List.mem_map.1 he
    exact hcn x hx (hne x hx)
theorem keep_filt (now nx : Int) {ts : List Tck} (h : ∀ t ∈ ts, t.n < nx) : ts.filter (fun t => decide (t.n < nx ∧ ¬ now < t.u)) = keepT now ts := by
  unfold keepT
  exact List.filter_congr fun t ht => by simp [h t ht]
/-- The model behind an expire. -/
def Ms.exp (m : Ms) (now : Int) : Ms := { m with es := m.es.map (clr m.nx now), nw := now }
def Wn (ts : List Tck) (n now : Int) : List Tck := ts.filter (fun t => decide (t.n < n ∧ ¬ now < t.u))
end Go.Proofs.YtdgpipoffcajgaaV
