/- The model: lease. -/
import Derived.Test.YtdgpipoffcajgaaQe2
set_option linter.unusedVariables false
set_option linter.unusedSimpArgs false
namespace Go.Proofs.YtdgpipoffcajgaaV
open Go.RowKit
attribute [local simp] TK.agg constAV evalAV EK.has EK.hasAll vecEls elsR AV.toD toDs AV.cells AV.one joinD TyI.zeroD OpR.of binIntF binStrF AV.isPtr ptrNil slNil mpNil nilE eqF negF posF binF pelF pvLoad pelSet pvStore boxLoad epLoad loadF boxStore storeF fieldAddrF fieldF epOf indexAddrF byteF indexF mapLen lenF cutF sliceF sliceN sliceX isSl slice3F fillF fillV arrFs buildF partsX landV buildSliceF roomB appVec appendF appMkF capF mmFrom mmF max2' min2' clearVec clearF convF unF pickF nilChkF extF ptrsOf callF makeSliceF sameKs sameD kindIs plainFs keyOk mapOb mapEs okV lookF lookupF putE putS mapPut mapUpdateF mapDel deleteF mapAll rangeM rangeF overV hitV nextO nextF entryM entryO entryF itOids builtinF capsOf allocF boxF bytesL bytesF byteTy strTy convertF makeFuncF mapNew makeMapF makeMapH opF reach reachOf AObj.live closedB nodupB packO packL packX backN backG backO obL backE frzX frzO AV.vids frzL landC sameObs landR touchF bitsW D.cells D.decEq D.decEqs AV.decEq AV.decEqs AObj.decEq AV.oids0 AV.oids AObj.oids renG renP AV.ren0 AV.ren envGet envPut envKeep obGet setEff putV St.put stepS keyChk chkD accD Ex.block AV.under AObj.under laysOf roomFor mkvO frzG szOk killO usedBy tidyS canL canS ghost ghostE normSt resOf allSome one0 resultsF finL finishL finish endF startEnv chkC backX comeC AV.flat0 rngC loopO layL endLp busyL idleL noRng rndSt rndEnd wpn_nil wpn_seq wpn_loop wpn_seq_exit wpn_loop_exit wpn_seq_ret wpn_loop_ret wpn_block wpn_post wpk_skip wpk_exit wpk_ret wpk_reg wpk_seq wpk_condT wpk_block wpk_loop wpk_pre wpk_post wop_nil wop_cons wop_guard St.know envSet cond_d cond_bool cond_int cond_str endE endQ freeB disj pushT bitsW int_beq int_bne eqS_def tbE fuelL_eq ann0_lays ann0_dd ann0_ro elsOf_dsl elsOf_dnils toNat_succ nn_succ pos_succ one_succ rng1 rng2 rng3 rng4 rng5 rng6 rng7 rng8 List.idxOf_cons wpk_rng rndK rndE
def rkM (srv a : Int) : Int := if srv < a then a else a + 100
theorem rk_rkM (srv a b : Int) (ha : 1 ≤ a ∧ a ≤ 100) (hb : 1 ≤ b ∧ b ≤ 100) : rk srv a < rk srv b ↔ rkM srv a < rkM srv b := by
  unfold rk rkM
  by_cases h1 : srv < a <;> by_cases h2 : srv < b <;> simp only [h1, h2, if_true, if_false] <;> omega
theorem rank64_run (la lb lc nx sv nw : Int) (E : List D) (n : Nat) (a : Int) (ha : 1 ≤ a ∧ a ≤ 100) :
    run CC 64 [.d (.int .i64 a), .ptr 0 0] [.box [.ptr 1 0], .box [.d (.int .i64 la), .d (.int .i64 lb), .d (.int .i64 lc), .vs 2 0 8 0 n, .d (.int .i64 nx), .d (.int .i64 sv), .d (.int .i64 nw)], .vec 0 false false 101 8 E]
      = some (.d (.int .i64 (rkM sv a)), [.box [.ptr 1 0], .box [.d (.int .i64 la), .d (.int .i64 lb), .d (.int .i64 lc), .vs 2 0 8 0 n, .d (.int .i64 nx), .d (.int .i64 sv), .d (.int .i64 nw)], .vec 0 false false 101 8 E]) := by
  refine run_code (s := s64 3) rfl rfl rfl (by kernel_rfl) ?_
  unfold rkM
  by_cases h : sv < a
  · simp [s64, eqCells, T3, T4, T5, T9, T22, T23, T25, T27, T28, T32, T34, T38, T40, T46, T49, T51, T54, T57, T65, T66, T72, T74, T76, T77, T79, T81, T87, T89, T90, T92, T101, T107, T109, T119, T125, T128, T130, T133, T140, T148, T150, T151, CT, h]
  · have w1 : IntKind.i64.wrap (a + 100) = a + 100 := wrap64 (by omega) (by omega)
    simp [s64, eqCells, T3, T4, T5, T9, T22, T23, T25, T27, T28, T32, T34, T38, T40, T46, T49, T51, T54, T57, T65, T66, T72, T74, T76, T77, T79, T81, T87, T89, T90, T92, T101, T107, T109, T119, T125, T128, T130, T133, T140, T148, T150, T151, CT, h, w1]
def Me.iv (e : Me) : Iv := (e.a, e.s)
def wtsM (es : List Me) : List Iv := (es.filter fun e => decide (e.t.n = 0)).map Me.iv
theorem bst_snoc (srv : Int) (x : Iv) : ∀ (b : Iv) (l : List Iv), bst srv b (l ++ [x]) = if rk srv x.1 < rk srv (bst srv b l).1 then x else bst srv b l
  | b, [] => rfl
  | b, y :: l => by
    show bst srv _ (l ++ [x]) = _
    rw [bst_snoc srv x _ l]
    rfl
theorem nextI_snoc (srv : Int) (l : List Iv) (x : Iv) : nextI srv (l ++ [x]) = some (match nextI srv l with | none => x | some b => if rk srv x.1 < rk srv b.1 then x else b) := by
  cases l with
  | nil => rfl
  | cons y l => simp only [List.cons_append, nextI, bst_snoc]
theorem wtsM_take (es : List Me) {i : Nat} (hi : i < es.length) : wtsM (es.take (i + 1)) = wtsM (es.take i) ++ if es[i].t.n = 0 then [es[i].iv] else [] := by
  unfold wtsM
  rw [List.take_succ_eq_append_getElem hi, List.filter_append, List.map_append]
  by_cases h : es[i].t.n = 0 <;> simp [h]
def bI : Option Nat → Int
  | none => -1
  | some j => j
theorem lease44_time (m : Ms) (now : Int) (h : now < m.nw) : run CC 44 [.ptr 0 0, .d (.int .i64 now)] m.obs = some (.tup [.d (.int .i64 (-1)), .d (.int .i64 32)], m.obs) := by
  simp only [Ms.obs]
  generalize m.es.map Me.d = E at *
  refine run_code (s := s44 2) rfl rfl rfl (by kernel_rfl) ?_
  simp [s44, eqCells, T3, T4, T5, T9, T22, T23, T25, T27, T28, T32, T34, T38, T40, T46, T49, T51, T54, T57, T65, T66, T72, T74, T76, T77, T79, T81, T87, T89, T90, T92, T101, T107, T109, T119, T125, T128, T130, T133, T140, T148, T150, T151, CT, CQ, QQ, h]
def Ms.lea (m : Ms) (pre : List Me) (e : Me) (post : List Me) (now : Int) : Ms := { m with es := pre ++ { e with t := ⟨m.nx, e.a, e.s, now + m.lc⟩ } :: post, nx := m.nx + 1, sv := e.a, nw := now }
set_option maxRecDepth 100000 in
set_option maxHeartbeats 8000000 in
theorem lease44_gen (m : Ms) (hf : frM m.es) (hl : m.es.length ≤ 13) (hr : ∀ e ∈ m.es, 1 ≤ e.a ∧ e.a ≤ 100) (now : Int) (h : ¬ now < m.nw) (hnw : -1000 ≤ now ∧ now < 1000000000) (hlc : 0 ≤ m.lc ∧ m.lc ≤ 1000) (hnx : 0 ≤ m.nx ∧ m.nx < 1000000) (R : Int × Int) (F : List AObj)
    (h1 : nextI m.sv (wtsM m.es) = none → R = (-1, 7) ∧ F = m.obs)
    (h2 : ∀ j (hj : j < m.es.length), m.es[j].t.n = 0 → nextI m.sv (wtsM m.es) = some m.es[j].iv → R = ((j : Int), 0) ∧ F = [.box [.d (.int .i64 m.la), .d (.int .i64 m.lb), .d (.int .i64 m.lc), .vs 1 0 8 0 m.es.length, .d (.int .i64 (m.nx + 1)), .d (.int .i64 m.es[j].a), .d (.int .i64 now)], .vec 0 false false 101 8 ((m.es.map Me.d).set j (.agg [.int .i64 m.es[j].a, .int .i64 m.es[j].s, m.es[j].S, m.es[j].X, .int .i64 m.nx, .int .i64 m.es[j].a, .int .i64 m.es[j].s, .int .i64 (now + m.lc)]))]) :
    run CC 44 [.ptr 0 0, .d (.int .i64 now)] m.obs = some (.tup [.d (.int .i64 R.1), .d (.int .i64 R.2)], F) := by
  have hg := fun i hi => me_get hf (i := i) hi
  have hll : (m.es.map Me.d).length = m.es.length := by simp
  have hw := fun i hi => wtsM_take m.es (i := i) hi
  have hk := fun n a ha => rank64_run m.la m.lb m.lc m.nx m.sv m.nw (m.es.map Me.d) n a ha
  have hra := fun i (hi : i < m.es.length) => hr m.es[i] (List.getElem_mem hi)
  simp only [Ms.obs] at h1 ⊢
  generalize hE : m.es.map Me.d = E at *
  refine run_code (s := s44 2) rfl rfl rfl (by kernel_rfl) ?_
  simp [s44, eqCells, T3, T4, T5, T9, T22, T23, T25, T27, T28, T32, T34, T38, T40, T46, T49, T51, T54, T57, T65, T66, T72, T74, T76, T77, T79, T81, T87, T89, T90, T92, T101, T107, T109, T119, T125, T128, T130, T133, T140, T148, T150, T151, CT, CQ, QQ, h]
  refine wlp_inv (S := fun p : Nat × Option Nat => ⟨[(1, .d (.int .i64 now)), (2, .ptr 2 0), (6, .d (.int .i64 (bI p.2))), (7, .fn 64 [] [(2, 0)]), (21, .vs 1 0 8 0 m.es.length), (22, .d (.int .i64 m.es.length)), (23, .d (.int .i64 p.1))], [.box [.d (.int .i64 m.la), .d (.int .i64 m.lb), .d (.int .i64 m.lc), .vs 1 0 8 0 m.es.length, .d (.int .i64 m.nx), .d (.int .i64 m.sv), .d (.int .i64 m.nw)], .vec 0 false false 101 8 E, .box [.ptr 0 0]]⟩) (m := fun p => m.es.length - p.1) (Inv := fun p => p.1 ≤ m.es.length ∧ (p.2 = none → nextI m.sv (wtsM (m.es.take p.1)) = none) ∧ ∀ j, p.2 = some j → ∃ hj : j < m.es.length, j < p.1 ∧ m.es[j].t.n = 0 ∧ nextI m.sv (wtsM (m.es.take p.1)) = some m.es[j].iv) ?_ (0, none) ⟨Nat.zero_le _, fun _ => rfl, fun j hj => by cases hj⟩
  rintro ⟨i, b⟩ ⟨hi, hb1, hb2⟩ ih
  rw [e44_1]
  simp only at hi hb1 hb2 ⊢
  by_cases hlt : i < m.es.length
  · obtain ⟨l1, l2, -, -, hx⟩ := hg i hlt
    have hEi : i < E.length := by omega
    have hEe := (List.getElem?_eq_some_iff.1 hx).2
    have w1 : IntKind.i64.wrap ((i : Int) + 1) = (i : Int) + 1 := wrap64 (by omega) (by omega)
    have p1 : (i : Int) < m.es.length := by omega
    have hwi := hw i hlt
    have hri := hra i hlt
    have hki := hk m.es.length m.es[i].a hri
    by_cases hc : m.es[i].t.n = 0
    · rw [if_pos hc] at hwi
      have hns := nextI_snoc m.sv (wtsM (m.es.take i)) m.es[i].iv
      rw [← hwi] at hns
      cases b with
      | none =>
        rw [hb1 rfl] at hns
        have ih2 := ih (i + 1, some i) ⟨by simp only; omega, fun h => (by cases h), fun j hj => by injection hj with hj; subst hj; exact ⟨hlt, by simp only; omega, hc, hns⟩⟩ (by simp only; omega)
        clear ih hg hw hra hk h1 h2
        generalize m.es[i] = y at *
        simp [bI] at ih2 ⊢
        simp [c44_1, eqCells, T3, T4, T5, T9, T22, T23, T25, T27, T28, T32, T34, T38, T40, T46, T49, T51, T54, T57, T65, T66, T72, T74, T76, T77, T79, T81, T87, T89, T90, T92, T101, T107, T109, T119, T125, T128, T130, T133, T140, T148, T150, T151, CT, CQ, QQ, hll, hx, hEi, hEe, hc, p1, w1, hlt]
        exact ih2
      | some j =>
        obtain ⟨hj, hji, hjn, hjx⟩ := hb2 j rfl
        rw [hjx] at hns
        simp only at hns
        obtain ⟨k1, k2, -, -, hy⟩ := hg j hj
        have hEj : j < E.length := by omega
        have hEf := (List.getElem?_eq_some_iff.1 hy).2
        have hrj := hra j hj
        have hkj := hk m.es.length m.es[j].a hrj
        have p2 : (j : Int) < m.es.length := by omega
        have p3 : ¬ (j : Int) < 0 := by omega
        have hcmp := rk_rkM m.sv m.es[i].a m.es[j].a hri hrj
        by_cases hlss : rkM m.sv m.es[i].a < rkM m.sv m.es[j].a
        · rw [if_pos (show rk m.sv m.es[i].iv.1 < rk m.sv m.es[j].iv.1 from hcmp.2 hlss)] at hns
          have ih2 := ih (i + 1, some i) ⟨by simp only; omega, fun h => (by cases h), fun j hj => by injection hj with hj; subst hj; exact ⟨hlt, by simp only; omega, hc, hns⟩⟩ (by simp only; omega)
          clear ih hg hw hra hk h1 h2 hb1 hb2 hns hcmp hjx
          generalize m.es[i] = y at *
          generalize m.es[j] = u at *
          simp [bI] at ih2 ⊢
          simp [c44_1, eqCells, T3, T4, T5, T9, T22, T23, T25, T27, T28, T32, T34, T38, T40, T46, T49, T51, T54, T57, T65, T66, T72, T74, T76, T77, T79, T81, T87, T89, T90, T92, T101, T107, T109, T119, T125, T128, T130, T133, T140, T148, T150, T151, CT, CQ, QQ, hll, hx, hEi, hEe, hc, p1, w1, hlt, hy, hEj, hEf, hj, p2, p3, hki, hkj, hlss]
          exact ih2
        · rw [if_neg (show ¬ rk m.sv m.es[i].iv.1 < rk m.sv m.es[j].iv.1 from fun h => hlss (hcmp.1 h))] at hns
          have ih2 := ih (i + 1, some j) ⟨by simp only; omega, fun h => (by cases h), fun j' hj' => by injection hj' with hj'; subst hj'; exact ⟨hj, by simp only; omega, hjn, hns⟩⟩ (by simp only; omega)
          clear ih hg hw hra hk h1 h2 hb1 hb2 hns hcmp hjx
          generalize m.es[i] = y at *
          generalize m.es[j] = u at *
          simp [bI] at ih2 ⊢
          simp [c44_1, eqCells, T3, T4, T5, T9, T22, T23, T25, T27, T28, T32, T34, T38, T40, T46, T49, T51, T54, T57, T65, T66, T72, T74, T76, T77, T79, T81, T87, T89, T90, T92, T101, T107, T109, T119, T125, T128, T130, T133, T140, T148, T150, T151, CT, CQ, QQ, hll, hx, hEi, hEe, hc, p1, w1, hlt, hy, hEj, hEf, hj, p2, p3, hki, hkj, hlss]
          exact ih2
    · rw [if_neg hc, List.append_nil] at hwi
      have ih2 := ih (i + 1, b) ⟨by simp only; omega, fun h => by simp only; rw [hwi]; exact hb1 h, fun j hj => by
        obtain ⟨q1, q2, q3, q4⟩ := hb2 j hj
        exact ⟨q1, by simp only; omega, q3, by simp only; rw [hwi]; exact q4⟩⟩ (by simp only; omega)
      clear ih hg hw hra hk h1 h2 hb1 hb2
      generalize m.es[i] = y at *
      generalize bI b = bb at *
      simp at ih2
      simp [c44_1, eqCells, T3, T4, T5, T9, T22, T23, T25, T27, T28, T32, T34, T38, T40, T46, T49, T51, T54, T57, T65, T66, T72, T74, T76, T77, T79, T81, T87, T89, T90, T92, T101, T107, T109, T119, T125, T128, T130, T133, T140, T148, T150, T151, CT, CQ, QQ, hll, hx, hEi, hEe, hc, p1, w1, hlt]
      exact ih2
  · have e : i = m.es.length := by omega
    subst e
    rw [List.take_length] at hb1 hb2
    cases b with
    | none =>
      obtain ⟨rfl, rfl⟩ := h1 (hb1 rfl)
      clear ih hg hw hra hk h2 hb1 hb2
      simp [c44_1, eqCells, T3, T4, T5, T9, T22, T23, T25, T27, T28, T32, T34, T38, T40, T46, T49, T51, T54, T57, T65, T66, T72, T74, T76, T77, T79, T81, T87, T89, T90, T92, T101, T107, T109, T119, T125, T128, T130, T133, T140, T148, T150, T151, CT, CQ, QQ, hll, bI]
    | some j =>
      obtain ⟨hj, hji, hjn, hjx⟩ := hb2 j rfl
      obtain ⟨rfl, rfl⟩ := h2 j hj hjn hjx
      obtain ⟨k1, k2, e1, e2, hy⟩ := hg j hj
      have hEj : j < E.length := by omega
      have hEf := (List.getElem?_eq_some_iff.1 hy).2
      have p2 : (j : Int) < m.es.length := by omega
      have p3 : ¬ (j : Int) < 0 := by omega
      have w2 : IntKind.i64.wrap (m.nx + 1) = m.nx + 1 := wrap64 (by omega) (by omega)
      have w3 : IntKind.i64.wrap (now + m.lc) = now + m.lc := wrap64 (by omega) (by omega)
      rw [e1, e2]
      clear ih hg hw hra hk h1 h2 hb1 hb2 hjx e1 e2
      generalize m.es[j] = u at *
      simp [c44_1, eqCells, T3, T4, T5, T9, T22, T23, T25, T27, T28, T32, T34, T38, T40, T46, T49, T51, T54, T57, T65, T66, T72, T74, T76, T77, T79, T81, T87, T89, T90, T92, T101, T107, T109, T119, T125, T128, T130, T133, T140, T148, T150, T151, CT, CQ, QQ, hll, bI, hy, hEj, hEf, hj, p2, p3, w2, w3]
end Go.Proofs.YtdgpipoffcajgaaV
