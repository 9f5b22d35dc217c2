/- The model: credit, find, offer. -/
import Derived.Test.YtdgpipoffcajgaaQd9
set_option linter.unusedVariables false
set_option linter.unusedSimpArgs false
namespace Go.Proofs.YtdgpipoffcajgaaV
open Go.RowKit
attribute [local simp] TK.agg constAV evalAV EK.has EK.hasAll vecEls elsR AV.toD toDs AV.cells AV.one joinD TyI.zeroD OpR.of binIntF binStrF AV.isPtr ptrNil slNil mpNil nilE eqF negF posF binF pelF pvLoad pelSet pvStore boxLoad epLoad loadF boxStore storeF fieldAddrF fieldF epOf indexAddrF byteF indexF mapLen lenF cutF sliceF sliceN sliceX isSl slice3F fillF fillV arrFs buildF partsX landV buildSliceF roomB appVec appendF appMkF capF mmFrom mmF max2' min2' clearVec clearF convF unF pickF nilChkF extF ptrsOf callF makeSliceF sameKs sameD kindIs plainFs keyOk mapOb mapEs okV lookF lookupF putE putS mapPut mapUpdateF mapDel deleteF mapAll rangeM rangeF overV hitV nextO nextF entryM entryO entryF itOids builtinF capsOf allocF boxF bytesL bytesF byteTy strTy convertF makeFuncF mapNew makeMapF makeMapH opF reach reachOf AObj.live closedB nodupB packO packL packX backN backG backO obL backE frzX frzO AV.vids frzL landC sameObs landR touchF bitsW D.cells D.decEq D.decEqs AV.decEq AV.decEqs AObj.decEq AV.oids0 AV.oids AObj.oids renG renP AV.ren0 AV.ren envGet envPut envKeep obGet setEff putV St.put stepS keyChk chkD accD Ex.block AV.under AObj.under laysOf roomFor mkvO frzG szOk killO usedBy tidyS canL canS ghost ghostE normSt resOf allSome one0 resultsF finL finishL finish endF startEnv chkC backX comeC AV.flat0 rngC loopO layL endLp busyL idleL noRng rndSt rndEnd wpn_nil wpn_seq wpn_loop wpn_seq_exit wpn_loop_exit wpn_seq_ret wpn_loop_ret wpn_block wpn_post wpk_skip wpk_exit wpk_ret wpk_reg wpk_seq wpk_condT wpk_block wpk_loop wpk_pre wpk_post wop_nil wop_cons wop_guard St.know envSet cond_d cond_bool cond_int cond_str endE endQ freeB disj pushT bitsW int_beq int_bne eqS_def tbE fuelL_eq ann0_lays ann0_dd ann0_ro elsOf_dsl elsOf_dnils toNat_succ nn_succ pos_succ one_succ rng1 rng2 rng3 rng4 rng5 rng6 rng7 rng8 List.idxOf_cons wpk_rng rndK rndE
/-- An entry of the model. -/
structure Me where
  a : Int
  s : Int
  S : D
  X : D
  t : Tck
def Me.d (e : Me) : D := .agg [.int .i64 e.a, .int .i64 e.s, e.S, e.X, .int .i64 e.t.n, .int .i64 e.t.a, .int .i64 e.t.s, .int .i64 e.t.u]
structure Ms where
  la : Int
  lb : Int
  lc : Int
  es : List Me
  nx : Int
  sv : Int
  nw : Int
abbrev Ms.obs (m : Ms) : List AObj := [.box [.d (.int .i64 m.la), .d (.int .i64 m.lb), .d (.int .i64 m.lc), .vs 1 0 8 0 m.es.length, .d (.int .i64 m.nx), .d (.int .i64 m.sv), .d (.int .i64 m.nw)], .vec 0 false false 101 8 (m.es.map Me.d)]
def frM (es : List Me) : Prop := ∀ e ∈ es, ∃ l1 l2, e.S = .sl l1 ∧ e.X = .sl l2
theorem me_get {es : List Me} (h : frM es) {i : Nat} (hi : i < es.length) : ∃ l1 l2, es[i].S = .sl l1 ∧ es[i].X = .sl l2 ∧ (es.map Me.d)[i]? = some (.agg [.int .i64 es[i].a, .int .i64 es[i].s, .sl l1, .sl l2, .int .i64 es[i].t.n, .int .i64 es[i].t.a, .int .i64 es[i].t.s, .int .i64 es[i].t.u]) := by
  obtain ⟨l1, l2, h1, h2⟩ := h es[i] (List.getElem_mem hi)
  refine ⟨l1, l2, h1, h2, ?_⟩
  rw [List.getElem?_map, List.getElem?_eq_getElem hi, ← h1, ← h2]
  rfl
def ownM (a : Int) (es : List Me) : Nat := (es.filter fun e => decide (e.a = a)).length
def crm (m : Ms) (a : Int) : Int := min2' (m.la - m.es.length) (m.lb - ownM a m.es)
theorem ownM_le (a : Int) (es : List Me) : ownM a es ≤ es.length := List.length_filter_le _ _
theorem ownM_take (a : Int) (es : List Me) {i : Nat} (hi : i < es.length) : ownM a (es.take (i + 1)) = ownM a (es.take i) + if es[i].a = a then 1 else 0 := by
  unfold ownM
  rw [List.take_succ_eq_append_getElem hi, List.filter_append, List.length_append]
  by_cases h : es[i].a = a <;> simp [h]
set_option maxRecDepth 100000 in
set_option maxHeartbeats 4000000 in
theorem credit42_run (m : Ms) (hf : frM m.es) (hl : m.es.length ≤ 13) (a : Int) (hb : -1000 ≤ m.la ∧ m.la ≤ 1000 ∧ -1000 ≤ m.lb ∧ m.lb ≤ 1000) : run CC 42 [.ptr 0 0, .d (.int .i64 a)] m.obs = some (.d (.int .i64 (crm m a)), m.obs) := by
  have hg := fun i hi => me_get hf (i := i) hi
  have ho := fun i hi => ownM_take a m.es (i := i) hi
  have ho0 : ownM a (m.es.take 0) = 0 := rfl
  have hol := ownM_le a m.es
  have hll : (m.es.map Me.d).length = m.es.length := by simp
  simp only [Ms.obs]
  generalize hE : m.es.map Me.d = E at *
  refine run_code (s := s42 2) rfl rfl rfl (by kernel_rfl) ?_
  simp [s42, eqCells, T3, T4, T5, T9, T22, T23, T25, T27, T28, T32, T34, T38, T40, T46, T49, T51, T54, T57, T65, T66, T72, T74, T76, T77, T79, T81, T87, T89, T90, T92, T101, T107, T109, T119, T125, T128, T130, T133, T140, T148, T150, T151, CT, CQ, QQ]
  refine wlp_inv2 (S := fun i : Nat => ⟨[(0, .ptr 0 0), (1, .d (.int .i64 a)), (5, .d (.int .i64 (ownM a (m.es.take i)))), (11, .vs 1 0 8 0 m.es.length), (12, .d (.int .i64 m.es.length)), (13, .d (.int .i64 i))], [.box [.d (.int .i64 m.la), .d (.int .i64 m.lb), .d (.int .i64 m.lc), .vs 1 0 8 0 m.es.length, .d (.int .i64 m.nx), .d (.int .i64 m.sv), .d (.int .i64 m.nw)], .vec 0 false false 101 8 E]⟩) (m := fun i => m.es.length - i) (Inv := fun i => i ≤ m.es.length) ?_ 0 (Nat.zero_le _) (by simp only [ho0]; rfl)
  rintro i hi ih
  rw [e42_1]
  by_cases hlt : i < m.es.length
  · obtain ⟨l1, l2, -, -, hx⟩ := hg i hlt
    have hEi : i < E.length := by omega
    have hEe := (List.getElem?_eq_some_iff.1 hx).2
    have w1 : IntKind.i64.wrap ((i : Int) + 1) = (i : Int) + 1 := wrap64 (by omega) (by omega)
    have p1 : (i : Int) < m.es.length := by omega
    have ih2 := ih (i + 1) (by omega) (by omega)
    have hot := ho i hlt
    have hob : ownM a (m.es.take i) ≤ i := by have := ownM_le a (m.es.take i); rw [List.length_take] at this; omega
    clear ih hg ho
    rw [hot] at ih2
    generalize ownM a (m.es.take i) = k at *
    have w2 : IntKind.i64.wrap ((k : Int) + 1) = (k : Int) + 1 := wrap64 (by omega) (by omega)
    generalize m.es[i] = y at *
    by_cases hc : y.a = a
    · rw [if_pos hc] at ih2
      simp at ih2
      simp [c42_1, eqCells, T3, T4, T5, T9, T22, T23, T25, T27, T28, T32, T34, T38, T40, T46, T49, T51, T54, T57, T65, T66, T72, T74, T76, T77, T79, T81, T87, T89, T90, T92, T101, T107, T109, T119, T125, T128, T130, T133, T140, T148, T150, T151, CT, hll, hx, hEi, hEe, hc, p1, w1, w2, hlt]
      exact ih2
    · rw [if_neg hc] at ih2
      simp at ih2
      simp [c42_1, eqCells, T3, T4, T5, T9, T22, T23, T25, T27, T28, T32, T34, T38, T40, T46, T49, T51, T54, T57, T65, T66, T72, T74, T76, T77, T79, T81, T87, T89, T90, T92, T101, T107, T109, T119, T125, T128, T130, T133, T140, T148, T150, T151, CT, hll, hx, hEi, hEe, hc, p1, w1, w2, hlt]
      exact ih2
  · have e : i = m.es.length := by omega
    rw [e, List.take_length]
    clear ih hg ho
    have w1 : IntKind.i64.wrap (m.la - (m.es.length : Int)) = m.la - m.es.length := wrap64 (by omega) (by omega)
    have w2 : IntKind.i64.wrap (m.lb - (ownM a m.es : Int)) = m.lb - ownM a m.es := wrap64 (by omega) (by omega)
    simp [c42_1, eqCells, T3, T4, T5, T9, T22, T23, T25, T27, T28, T32, T34, T38, T40, T46, T49, T51, T54, T57, T65, T66, T72, T74, T76, T77, T79, T81, T87, T89, T90, T92, T101, T107, T109, T119, T125, T128, T130, T133, T140, T148, T150, T151, CT, hll, crm, w1, w2]
/-- The index of a ticket's entry. -/
def fndM (n : Int) : List Me → Nat → Int
  | [], _ => -1
  | e :: l, i => if e.t.n = n then (i : Int) else fndM n l (i + 1)
set_option maxRecDepth 100000 in
set_option maxHeartbeats 4000000 in
theorem find46_run (m : Ms) (hf : frM m.es) (hl : m.es.length ≤ 13) (n : Int) : run CC 46 [.ptr 0 0, .d (.int .i64 n)] m.obs = some (.d (.int .i64 (fndM n m.es 0)), m.obs) := by
  have hg := fun i hi => me_get hf (i := i) hi
  have hll : (m.es.map Me.d).length = m.es.length := by simp
  have hfd : ∀ i (hi : i < m.es.length), fndM n (m.es.drop i) i = if m.es[i].t.n = n then (i : Int) else fndM n (m.es.drop (i + 1)) (i + 1) := fun i hi => by
    rw [List.drop_eq_getElem_cons hi]; rfl
  have hf0 : fndM n (m.es.drop m.es.length) m.es.length = -1 := by rw [List.drop_length]; rfl
  obtain ⟨R, hR⟩ : ∃ R, R = fndM n m.es 0 := ⟨_, rfl⟩
  rw [← hR]
  simp only [Ms.obs]
  generalize hE : m.es.map Me.d = E at *
  refine run_code (s := s46 2) rfl rfl rfl (by kernel_rfl) ?_
  simp [s46, eqCells, T3, T4, T5, T9, T22, T23, T25, T27, T28, T32, T34, T38, T40, T46, T49, T51, T54, T57, T65, T66, T72, T74, T76, T77, T79, T81, T87, T89, T90, T92, T101, T107, T109, T119, T125, T128, T130, T133, T140, T148, T150, T151, CT, CQ, QQ]
  refine wlp_inv (S := fun i : Nat => ⟨[(1, .d (.int .i64 n)), (10, .vs 1 0 8 0 m.es.length), (11, .d (.int .i64 m.es.length)), (12, .d (.int .i64 i))], [.box [.d (.int .i64 m.la), .d (.int .i64 m.lb), .d (.int .i64 m.lc), .vs 1 0 8 0 m.es.length, .d (.int .i64 m.nx), .d (.int .i64 m.sv), .d (.int .i64 m.nw)], .vec 0 false false 101 8 E]⟩) (m := fun i => m.es.length - i) (Inv := fun i => i ≤ m.es.length ∧ fndM n (m.es.drop i) i = R) ?_ 0 ⟨Nat.zero_le _, hR.symm⟩
  rintro i ⟨hi, hm⟩ ih
  rw [e46_1]
  by_cases hlt : i < m.es.length
  · obtain ⟨l1, l2, -, -, hx⟩ := hg i hlt
    have hEi : i < E.length := by omega
    have hEe := (List.getElem?_eq_some_iff.1 hx).2
    have w1 : IntKind.i64.wrap ((i : Int) + 1) = (i : Int) + 1 := wrap64 (by omega) (by omega)
    have p1 : (i : Int) < m.es.length := by omega
    have hh := hfd i hlt
    rw [hm] at hh
    by_cases hc : m.es[i].t.n = n
    · rw [if_pos hc] at hh
      clear ih hg hfd
      generalize m.es[i] = y at *
      simp [c46_1, eqCells, T3, T4, T5, T9, T22, T23, T25, T27, T28, T32, T34, T38, T40, T46, T49, T51, T54, T57, T65, T66, T72, T74, T76, T77, T79, T81, T87, T89, T90, T92, T101, T107, T109, T119, T125, T128, T130, T133, T140, T148, T150, T151, CT, hll, hx, hEi, hEe, hc, p1, w1, hlt, hh]
    · rw [if_neg hc] at hh
      have ih2 := ih (i + 1) ⟨by omega, hh.symm⟩ (by omega)
      clear ih hg hfd
      generalize m.es[i] = y at *
      simp at ih2
      simp [c46_1, eqCells, T3, T4, T5, T9, T22, T23, T25, T27, T28, T32, T34, T38, T40, T46, T49, T51, T54, T57, T65, T66, T72, T74, T76, T77, T79, T81, T87, T89, T90, T92, T101, T107, T109, T119, T125, T128, T130, T133, T140, T148, T150, T151, CT, hll, hx, hEi, hEe, hc, p1, w1, hlt]
      exact ih2
  · have e : i = m.es.length := by omega
    subst e
    rw [hf0] at hm
    clear ih hg hfd
    simp [c46_1, eqCells, T3, T4, T5, T9, T22, T23, T25, T27, T28, T32, T34, T38, T40, T46, T49, T51, T54, T57, T65, T66, T72, T74, T76, T77, T79, T81, T87, T89, T90, T92, T101, T107, T109, T119, T125, T128, T130, T133, T140, T148, T150, T151, CT, hll, ← hm]
end Go.Proofs.YtdgpipoffcajgaaV
