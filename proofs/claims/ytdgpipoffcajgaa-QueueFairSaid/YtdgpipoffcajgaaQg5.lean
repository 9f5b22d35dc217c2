/- The law QueueFair: the walk. -/
import Derived.Test.YtdgpipoffcajgaaQg4
set_option linter.unusedVariables false
set_option linter.unusedSimpArgs false
namespace Go.Proofs.YtdgpipoffcajgaaV
open Go.RowKit
attribute [local simp] TK.agg constAV evalAV EK.has EK.hasAll vecEls elsR AV.toD toDs AV.cells AV.one joinD TyI.zeroD OpR.of binIntF binStrF AV.isPtr ptrNil slNil mpNil nilE eqF negF posF binF pelF pvLoad pelSet pvStore boxLoad epLoad loadF boxStore storeF fieldAddrF fieldF epOf indexAddrF byteF indexF mapLen lenF cutF sliceF sliceN sliceX isSl slice3F fillF fillV arrFs buildF partsX landV buildSliceF roomB appVec appendF appMkF capF mmFrom mmF max2' min2' clearVec clearF convF unF pickF nilChkF extF ptrsOf callF makeSliceF sameKs sameD kindIs plainFs keyOk mapOb mapEs okV lookF lookupF putE putS mapPut mapUpdateF mapDel deleteF mapAll rangeM rangeF overV hitV nextO nextF entryM entryO entryF itOids builtinF capsOf allocF boxF bytesL bytesF byteTy strTy convertF makeFuncF mapNew makeMapF makeMapH opF reach reachOf AObj.live closedB nodupB packO packL packX backN backG backO obL backE frzX frzO AV.vids frzL landC sameObs landR touchF bitsW D.cells D.decEq D.decEqs AV.decEq AV.decEqs AObj.decEq AV.oids0 AV.oids AObj.oids renG renP AV.ren0 AV.ren envGet envPut envKeep obGet setEff putV St.put stepS keyChk chkD accD Ex.block AV.under AObj.under laysOf roomFor mkvO frzG szOk killO usedBy tidyS canL canS ghost ghostE normSt resOf allSome one0 resultsF finL finishL finish endF startEnv chkC backX comeC AV.flat0 rngC loopO layL endLp busyL idleL noRng rndSt rndEnd wpn_nil wpn_seq wpn_loop wpn_seq_exit wpn_loop_exit wpn_seq_ret wpn_loop_ret wpn_block wpn_post wpk_skip wpk_exit wpk_ret wpk_reg wpk_seq wpk_condT wpk_block wpk_loop wpk_pre wpk_post wop_nil wop_cons wop_guard St.know envSet cond_d cond_bool cond_int cond_str endE endQ freeB disj pushT bitsW int_beq int_bne eqS_def tbE fuelL_eq ann0_lays ann0_dd ann0_ro elsOf_dsl elsOf_dnils toNat_succ nn_succ pos_succ one_succ rng1 rng2 rng3 rng4 rng5 rng6 rng7 rng8 List.idxOf_cons wpk_rng rndK rndE
/-- The map of the agents that wait. -/
structure agM (W : List Iv) (m : List (Int × Bool)) : Prop where
  ne : keysNe (intK .i64) m
  mem : ∀ a, a ∈ m.map (·.1) ↔ ∃ x ∈ W, x.1 = a
  all : ∀ p ∈ m, p.2 = true
theorem agM_put {W : List Iv} {m : List (Int × Bool)} (h : agM W m) (x : Iv) : agM (W ++ [x]) (putP (intK .i64) x.1 true m) where
  ne := put_keys (intK .i64) h.ne
  mem := fun a => by
    rw [putP_fst, h.mem]
    constructor
    · rintro (rfl | ⟨y, hy, rfl⟩)
      · exact ⟨x, by simp, rfl⟩
      · exact ⟨y, by simp [hy], rfl⟩
    · rintro ⟨y, hy, rfl⟩
      rcases List.mem_append.1 hy with hy | hy
      · exact .inr ⟨y, hy, rfl⟩
      · simp at hy; subst hy; exact .inl rfl
  all := fun p hp => by
    rcases put_mem (intK .i64) hp with rfl | hp
    · rfl
    · exact h.all p hp
theorem agM_fair {Q : Qs} (h : Q.wl) (hi : Q.iss ≤ 100) {m : List (Int × Bool)} (hm : agM (wts Q.es) m) : fairI Q.srv (m.map (·.1)) m.length Q 0 m := by
  have hr : ∀ a ∈ m.map (·.1), 1 ≤ a := fun a ha => by
    obtain ⟨x, hx, rfl⟩ := (hm.mem a).1 ha
    obtain ⟨e, he, rfl⟩ := List.mem_map.1 hx
    exact (h.rng e (List.mem_filter.1 he).1).a1
  have hlen : m.length ≤ 12 := by
    have hs : ∀ a ∈ m.map (·.1), a ∈ (wts Q.es).map (·.1) := fun a ha => by
      obtain ⟨x, hx, rfl⟩ := (hm.mem a).1 ha
      exact List.mem_map.2 ⟨x, hx, rfl⟩
    have h1 := nodup_le (fst_nodup hm.ne) hs
    rw [List.length_map, List.length_map] at h1
    have h2 : (wts Q.es).length ≤ Q.es.length := by unfold wts idsW; rw [List.length_map]; exact List.length_filter_le _ _
    have := h.es.le
    omega
  refine ⟨h, by omega, .inl ⟨rfl, rfl⟩, fun x hx => (hm.mem _).2 ⟨x, hx, rfl⟩, fun a ha _ => (hm.mem a).1 ha, ?_, hm.ne, fun a ha => ?_⟩
  · rw [List.filter_eq_self.2 fun a ha => by simpa using rk_pos _ a (hr a ha)]
    simp
  · obtain ⟨p, hp, rfl⟩ := List.mem_map.1 ha
    rw [look_mem (intK .i64) hm.ne hp, hm.all p hp]
    have := rk_pos Q.srv p.1 (hr _ ha)
    simp [this]
set_option maxRecDepth 100000 in
set_option maxHeartbeats 16000000 in
theorem law8_run (a b c : Nat) (O : D) (ops : List Opr) (hO : elsOf (.d O) = some (ops.map Opr.d)) : run CC 8 [.d (.agg [.int .u8 a, .int .u8 b, .int .u8 c]), .d O] [] = some (.d (.bool true), []) := by
  have hb := begin13_run a b c
  have hk := known_run
  have hwl := q00_wl a b c
  have hbd := q00_bd (zA a) (zB a b) (zC c)
  have hol : (ops.map Opr.d).length = ops.length := by simp
  have hog := fun i hi => opr_get ops (i := i) hi
  unfold begO at hb
  refine run_code (s := s8 0) rfl rfl rfl (by kernel_rfl) ?_
  by_cases hbig : 25 < ops.length
  · generalize ops.map Opr.d = OO at *
    have hbi : (25 : Int) < ops.length := by omega
    simp [s8, eqCells, T3, T4, T5, T9, T22, T23, T25, T27, T28, T32, T34, T38, T40, T46, T49, T51, T54, T57, T65, T66, T72, T74, T76, T77, T79, T81, T87, T89, T90, T92, T101, T107, T109, T119, T125, T128, T130, T133, T140, T148, T150, T151, CT, CQ, QQ, hk, hol, hbi, hO]
  have hbi : ¬ (25 : Int) < ops.length := by omega
  generalize zA a = A at *
  generalize zB a b = B at *
  generalize zC c = C at *
  generalize hOO : ops.map Opr.d = OO at *
  simp [s8, eqCells, T3, T4, T5, T9, T22, T23, T25, T27, T28, T32, T34, T38, T40, T46, T49, T51, T54, T57, T65, T66, T72, T74, T76, T77, T79, T81, T87, T89, T90, T92, T101, T107, T109, T119, T125, T128, T130, T133, T140, T148, T150, T151, CT, CQ, QQ, hk, hol, hbi, hb, hO]
  refine wlp_inv2 (S := fun p : Nat × Qs => ⟨[(5, .ptr 0 0), (6, .ptr 3 0), (31, .d O), (32, .d (.int .i64 ops.length)), (33, .d (.int .i64 p.1))], p.2.obk 0 ++ [.box [.d (.int .i64 p.2.mod.la), .d (.int .i64 p.2.mod.lb), .d (.int .i64 p.2.mod.lc), .vs 4 0 8 0 p.2.mod.es.length, .d (.int .i64 p.2.mod.nx), .d (.int .i64 p.2.mod.sv), .d (.int .i64 p.2.mod.nw)], .vec 0 true false 101 8 (p.2.mod.es.map Me.d), .dead]⟩) (m := fun p => ops.length - p.1) (Inv := fun p => p.1 ≤ ops.length ∧ p.2.wl ∧ p.2.bd p.1) ?_ (0, q00 A B C) ⟨Nat.zero_le _, hwl, hbd⟩ (by simp only [q00, Qs.mod, Qs.obk]; rfl)
  rintro ⟨i, q⟩ ⟨hi, hq, hqb⟩ ih
  rw [e8_1]
  simp only at hi hq hqb ⊢
  by_cases hlt : i < ops.length
  · obtain ⟨O2, q2, hdo, hr⟩ := do24_run q hq i hqb (by omega) ops[i].k ops[i].A ops[i].B ops[i].hA ops[i].hB
    have ih2 := ih (i + 1, q2) ⟨by simp only; omega, hr.wl, hr.bd⟩ (by simp only; omega)
    have hx := hog i hlt
    have hOi : i < OO.length := by omega
    have hEe := (List.getElem?_eq_some_iff.1 hx).2
    have w1 : IntKind.i64.wrap ((i : Int) + 1) = (i : Int) + 1 := wrap64 (by omega) (by omega)
    have p1 : (i : Int) < ops.length := by omega
    have hst := hr.st
    clear ih hog hr hb hk
    generalize ops[i].k = x1 at *
    generalize ops[i].A = x2 at *
    generalize ops[i].B = x3 at *
    simp only [Qs.st, Qs.stm, Qs.sta, Qs.obk, Qs.obs, Ms.obs, Ms.obm, List.cons_append, List.nil_append] at hdo hst ih2 ⊢
    generalize q2.mod = m2 at *
    generalize q.mod = m at *
    generalize q.es.map Ent.p = M1 at *
    generalize q.ts.map Tck.p = M2 at *
    generalize q2.es.map Ent.p = M3 at *
    generalize q2.ts.map Tck.p = M4 at *
    generalize m.es.map Me.d = E at *
    generalize m2.es.map Me.d = E2 at *
    try simp at ih2
    rcases hst with rfl | rfl | ⟨E3, rfl⟩
    · simp [c8_1, eqCells, T3, T4, T5, T9, T22, T23, T25, T27, T28, T32, T34, T38, T40, T46, T49, T51, T54, T57, T65, T66, T72, T74, T76, T77, T79, T81, T87, T89, T90, T92, T101, T107, T109, T119, T125, T128, T130, T133, T140, T148, T150, T151, CT, CQ, QQ, hx, hOi, hEe, hdo, p1, w1, hlt, hO]
      exact ih2
    · simp [c8_1, eqCells, T3, T4, T5, T9, T22, T23, T25, T27, T28, T32, T34, T38, T40, T46, T49, T51, T54, T57, T65, T66, T72, T74, T76, T77, T79, T81, T87, T89, T90, T92, T101, T107, T109, T119, T125, T128, T130, T133, T140, T148, T150, T151, CT, CQ, QQ, hx, hOi, hEe, hdo, p1, w1, hlt, hO]
      exact ih2
    · simp [c8_1, eqCells, T3, T4, T5, T9, T22, T23, T25, T27, T28, T32, T34, T38, T40, T46, T49, T51, T54, T57, T65, T66, T72, T74, T76, T77, T79, T81, T87, T89, T90, T92, T101, T107, T109, T119, T125, T128, T130, T133, T140, T148, T150, T151, CT, CQ, QQ, hx, hOi, hEe, hdo, p1, w1, hlt, hO]
      exact ih2
  have e : i = ops.length := by omega
  subst e
  have h21 := waiting21_run q hq.ok hq.es
  have hwl12 : (wts q.es).length ≤ 12 := by
    have := hq.es.le
    unfold wts idsW
    rw [List.length_map]
    exact Nat.le_trans (List.length_filter_le _ _) this
  have hWl : ((wts q.es).map iD).length = (wts q.es).length := by simp
  have hwg : ∀ j (hj : j < (wts q.es).length), ((wts q.es).map iD)[j]? = some (.agg [.int .i64 (wts q.es)[j].1, .int .i64 (wts q.es)[j].2]) := fun j hj => by simp [hj, iD]
  have hfair := fun m hm => agM_fair hq (by have := hqb.iss; omega) (m := m) hm
  clear ih hog hb hk
  generalize q.mod = m at *
  generalize m.es.map Me.d = E at *
  obtain ⟨W, hW⟩ : ∃ W, W = wts q.es := ⟨_, rfl⟩
  rw [← hW] at h21 hwl12 hWl hwg hfair
  generalize hWD : W.map iD = WD at *
  simp only [Qs.obk, Qs.obs] at h21 ⊢
  simp [c8_1, eqCells, T3, T4, T5, T9, T22, T23, T25, T27, T28, T32, T34, T38, T40, T46, T49, T51, T54, T57, T65, T66, T72, T74, T76, T77, T79, T81, T87, T89, T90, T92, T101, T107, T109, T119, T125, T128, T130, T133, T140, T148, T150, T151, CT, CQ, QQ, h21, hWl, hO]
  refine wlp_inv2 (S := fun p : Nat × List (Int × Bool) => ⟨[(5, .ptr 0 0), (9, .mp 6), (44, .d (.sl WD)), (45, .d (.int .i64 W.length)), (46, .d (.int .i64 p.1))], q.obk 0 ++ [.dead, .dead, .dead, .map (mB p.2)]⟩) (m := fun p => W.length - p.1) (Inv := fun p => p.1 ≤ W.length ∧ agM (W.take p.1) p.2) ?_ (0, []) ⟨Nat.zero_le _, ⟨List.Pairwise.nil, fun a => by simp, fun p h => by cases h⟩⟩ (by simp only [Qs.obk]; rfl)
  rintro ⟨j, mm⟩ ⟨hj, hmm⟩ ih
  rw [e8_2]
  simp only at hj hmm ⊢
  by_cases hlt : j < W.length
  · have hx := hwg j hlt
    have hput := mB_put W[j].1 true mm
    have hmp := agM_put hmm W[j]
    rw [← List.take_succ_eq_append_getElem hlt] at hmp
    have ih2 := ih (j + 1, putP (intK .i64) W[j].1 true mm) ⟨by simp only; omega, hmp⟩ (by simp only; omega)
    have w1 : IntKind.i64.wrap ((j : Int) + 1) = (j : Int) + 1 := wrap64 (by omega) (by omega)
    have p1 : (j : Int) < W.length := by omega
    have hEe := (List.getElem?_eq_some_iff.1 hx).2
    have hWj : j < WD.length := by omega
    clear ih hwg hfair hmp hmm
    generalize W[j] = y at *
    simp only [Qs.obk] at ih2 ⊢
    generalize mB (putP (intK .i64) y.1 true mm) = MM2 at *
    generalize mB mm = MM at *
    try simp at ih2
    simp [c8_2, eqCells, T3, T4, T5, T9, T22, T23, T25, T27, T28, T32, T34, T38, T40, T46, T49, T51, T54, T57, T65, T66, T72, T74, T76, T77, T79, T81, T87, T89, T90, T92, T101, T107, T109, T119, T125, T128, T130, T133, T140, T148, T150, T151, CT, CQ, QQ, hx, hEe, w1, p1, hlt, hWj, hWl, hput, -putE]
    exact ih2
  have e : j = W.length := by omega
  subst e
  rw [List.take_length] at hmm
  have hfI := hfair mm hmm
  have hLn := fst_nodup hmm.ne
  have hLr : ∀ x ∈ mm.map (·.1), 1 ≤ x ∧ x ≤ 100 := fun x hx => by
    obtain ⟨y, hy, rfl⟩ := (hmm.mem x).1 hx
    rw [hW] at hy
    obtain ⟨e, he, rfl⟩ := List.mem_map.1 hy
    have hem := (List.mem_filter.1 he).1
    exact ⟨(hq.rng e hem).a1, hq.sm e hem⟩
  have hmml : (mB mm).length = mm.length := by simp [mB, mapD]
  clear ih hfair hwg
  generalize mm.map (·.1) = L at *
  generalize hn0 : mm.length = n0 at *
  generalize q.srv = s0 at *
  generalize hMM : mB mm = MM at *
  simp only [Qs.obk] at ⊢
  simp [c8_2, eqCells, T3, T4, T5, T9, T22, T23, T25, T27, T28, T32, T34, T38, T40, T46, T49, T51, T54, T57, T65, T66, T72, T74, T76, T77, T79, T81, T87, T89, T90, T92, T101, T107, T109, T119, T125, T128, T130, T133, T140, T148, T150, T151, CT, CQ, QQ, hmml]
  refine wlp_inv2 (S := fun p : Nat × Qs × Int × List (Int × Bool) => ⟨[(5, .ptr 0 0), (9, .mp 6), (12, .d (.int .i64 p.1))], p.2.1.obk 0 ++ [.dead, .dead, .dead, .map (mB p.2.2.2)]⟩) (m := fun p => p.1) (Inv := fun p => p.1 ≤ n0 ∧ fairI s0 L p.1 p.2.1 p.2.2.1 p.2.2.2) ?_ (n0, q, 0, mm) ⟨Nat.le_refl _, hfI⟩ (by simp only [Qs.obk, hMM]; rfl)
  rintro ⟨n, Q, th, m2⟩ ⟨hn, hI⟩ ih
  rw [e8_3]
  simp only at hn hI ⊢
  cases n with
  | zero =>
    clear ih
    simp only [Qs.obk] at ⊢
    generalize Q.es.map Ent.p = M1 at *
    generalize Q.ts.map Tck.p = M2 at *
    generalize mB m2 = MB at *
    simp [c8_3, eqCells, T3, T4, T5, T9, T22, T23, T25, T27, T28, T32, T34, T38, T40, T46, T49, T51, T54, T57, T65, T66, T72, T74, T76, T77, T79, T81, T87, T89, T90, T92, T101, T107, T109, T119, T125, T128, T130, T133, T140, T148, T150, T151, CT, CQ, QQ]
  | succ n =>
    obtain ⟨pre, e, post, hs, htk, hnx, heL, hlk, hI2⟩ := fair_next hLn hLr hI
    have ih2 := ih (n, Q.lea pre e post Q.now, rk s0 e.a, putP (intK .i64) e.a false m2) ⟨by simp only; omega, hI2⟩ (by simp only; omega)
    have h20 := now20_run Q
    have hQ := hI.wl
    have hn0' := hQ.n0
    have hl0 := hQ.l0
    have hi0 := hI.iss
    have h17 := lease17_ok Q hQ.ok hQ.es hQ.rng hQ.fr Q.now (by omega) (by omega) pre post e hs hnx (by omega) (by omega) ⟨hQ.i0.1, by omega⟩ fun t ht => (hQ.tn t ht).2
    obtain ⟨SA, SB, hS, hX⟩ := hQ.fr e (by rw [hs]; simp)
    have hfd := mB_find e.a m2
    have hput := mB_put e.a false m2
    rw [hlk] at hfd
    simp only [Option.map_some] at hfd
    rw [hfd] at hput
    simp only [Nat.zero_add] at hfd hput
    have hQi := hQ.i0.1
    have w1 : IntKind.i64.wrap ((n : Int) + 1 - 1) = (n : Int) := by rw [Int.add_sub_cancel]; exact wrap64 (by omega) (by omega)
    have w2 : IntKind.i64.wrap (n : Int) = (n : Int) := wrap64 (by omega) (by omega)
    have p1 : (0 : Int) < (n : Int) + 1 := by omega
    clear ih hI hI2 hlk
    simp only [Tck.d, Ent.f, hS, hX] at h17
    generalize Q.lea pre e post Q.now = Q2 at *
    simp only [Qs.obk, Qs.obs] at h17 h20 ih2 ⊢
    generalize Q.es.map Ent.p = M1 at *
    generalize Q.ts.map Tck.p = M2 at *
    generalize Q2.es.map Ent.p = M3 at *
    generalize Q2.ts.map Tck.p = M4 at *
    generalize mB (putP (intK .i64) e.a false m2) = MB2 at *
    generalize mB m2 = MB at *
    generalize spD SA SB = S at *
    generalize exD SA = X at *
    try simp at ih2
    simp [c8_3, eqCells, T3, T4, T5, T9, T22, T23, T25, T27, T28, T32, T34, T38, T40, T46, T49, T51, T54, T57, T65, T66, T72, T74, T76, T77, T79, T81, T87, T89, T90, T92, T101, T107, T109, T119, T125, T128, T130, T133, T140, T148, T150, T151, CT, CQ, QQ, h20, h17, hfd, hput, w1, w2, p1, -putE]
    exact ih2
end Go.Proofs.YtdgpipoffcajgaaV
