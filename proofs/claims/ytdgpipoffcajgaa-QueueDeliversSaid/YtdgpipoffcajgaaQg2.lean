/- The law QueueCredits: the walk. -/
import Derived.Test.YtdgpipoffcajgaaQg1
set_option linter.unusedVariables false
set_option linter.unusedSimpArgs false
namespace Go.Proofs.YtdgpipoffcajgaaV
open Go.RowKit
attribute [local simp] TK.agg constAV evalAV EK.has EK.hasAll vecEls elsR AV.toD toDs AV.cells AV.one joinD TyI.zeroD OpR.of binIntF binStrF AV.isPtr ptrNil slNil mpNil nilE eqF negF posF binF pelF pvLoad pelSet pvStore boxLoad epLoad loadF boxStore storeF fieldAddrF fieldF epOf indexAddrF byteF indexF mapLen lenF cutF sliceF sliceN sliceX isSl slice3F fillF fillV arrFs buildF partsX landV buildSliceF roomB appVec appendF appMkF capF mmFrom mmF max2' min2' clearVec clearF convF unF pickF nilChkF extF ptrsOf callF makeSliceF sameKs sameD kindIs plainFs keyOk mapOb mapEs okV lookF lookupF putE putS mapPut mapUpdateF mapDel deleteF mapAll rangeM rangeF overV hitV nextO nextF entryM entryO entryF itOids builtinF capsOf allocF boxF bytesL bytesF byteTy strTy convertF makeFuncF mapNew makeMapF makeMapH opF reach reachOf AObj.live closedB nodupB packO packL packX backN backG backO obL backE frzX frzO AV.vids frzL landC sameObs landR touchF bitsW D.cells D.decEq D.decEqs AV.decEq AV.decEqs AObj.decEq AV.oids0 AV.oids AObj.oids renG renP AV.ren0 AV.ren envGet envPut envKeep obGet setEff putV St.put stepS keyChk chkD accD Ex.block AV.under AObj.under laysOf roomFor mkvO frzG szOk killO usedBy tidyS canL canS ghost ghostE normSt resOf allSome one0 resultsF finL finishL finish endF startEnv chkC backX comeC AV.flat0 rngC loopO layL endLp busyL idleL noRng rndSt rndEnd wpn_nil wpn_seq wpn_loop wpn_seq_exit wpn_loop_exit wpn_seq_ret wpn_loop_ret wpn_block wpn_post wpk_skip wpk_exit wpk_ret wpk_reg wpk_seq wpk_condT wpk_block wpk_loop wpk_pre wpk_post wop_nil wop_cons wop_guard St.know envSet cond_d cond_bool cond_int cond_str endE endQ freeB disj pushT bitsW int_beq int_bne eqS_def tbE fuelL_eq ann0_lays ann0_dd ann0_ro elsOf_dsl elsOf_dnils toNat_succ nn_succ pos_succ one_succ rng1 rng2 rng3 rng4 rng5 rng6 rng7 rng8 List.idxOf_cons wpk_rng rndK rndE
/-- While new fragments are offered. -/
structure Qs.cr (q : Qs) (a : Int) (s : Int) (n : Nat) : Prop where
  ok : q.ok
  lim : limOk q
  new : ∀ e ∈ q.es, e.a = a → e.s < s
  crd : crd q a = n
  arr : 0 ≤ q.arr
  arl : q.arr + n < 2000
  len : q.es.length + n < 100
theorem cr_any {q : Qs} {a s : Int} {n : Nat} (h : q.cr a s n) : q.es.any (fun e => decide (e.iv = (a, s))) = false := List.any_eq_false.2 fun e he => by
  simp only [decide_eq_true_eq]
  intro hv
  injection hv with h1 h2
  have := h.new e he h1
  omega
theorem cr_add {q : Qs} {a s : Int} {n : Nat} (h : q.cr a s (n + 1)) (ha : perm a) : (q.add a s .nils .nils).cr a (s + 1) n := by
  have hc := h.crd
  have hl := h.len
  refine ⟨⟨?_, h.ok.tb, ?_, h.ok.tl⟩, h.lim, ?_, ?_, ?_, ?_, ?_⟩
  · have := stm_snoc h.ok.eb
    simpa [Qs.add] using this
  · show (q.es ++ [_]).length < 1000
    simp; omega
  · intro e he hea
    rcases List.mem_append.1 he with h1 | h1
    · have := h.new e h1 hea; omega
    · simp at h1; subst h1; show s < s + 1; omega
  · unfold Go.Proofs.YtdgpipoffcajgaaV.crd at hc ⊢
    rw [if_pos ha] at hc ⊢
    rw [own_add, if_pos rfl]
    have e1 : (q.add a s .nils .nils).la = q.la := rfl
    have e2 : (q.add a s .nils .nils).lb = q.lb := rfl
    have e3 : (q.add a s .nils .nils).es.length = q.es.length + 1 := by simp [Qs.add]
    rw [e1, e2, e3]
    unfold max2' min2' at hc ⊢
    omega
  · have := h.arr; show 0 ≤ q.arr + 1; omega
  · have := h.arl; show q.arr + 1 + n < 2000; omega
  · show (q.es ++ [_]).length + n < 100
    simp; omega
theorem cr_own {q : Qs} {a s : Int} {n : Nat} (h : q.cr a s n) (ha : perm a) : n ≤ 100 := by have := h.len; omega
set_option maxRecDepth 100000 in
set_option maxHeartbeats 16000000 in
theorem law5_run (a b c : Nat) (O : D) (ops : List Opr) (hO : elsOf (.d O) = some (ops.map Opr.d)) (ag : Nat) (hag : ag < 256) : run CC 5 [.d (.agg [.int .u8 a, .int .u8 b, .int .u8 c]), .d O, .d (.int .u8 ag)] [] = some (.d (.bool true), []) := by
  have hb := begin13_run a b c
  have h23 := limits23_run a b c
  have hk := known_run
  have hwl := q00_wl a b c
  have hbd := q00_bd (zA a) (zB a b) (zC c)
  have hA6 : zA a ≤ 6 := by have b1 : a % 6 < 6 := Nat.mod_lt _ (by omega); unfold zA; omega
  have hol : (ops.map Opr.d).length = ops.length := by simp
  have hog := fun i hi => opr_get ops (i := i) hi
  have hr4 := rem_nat ag 4
  have hb4 : ag % 4 < 4 := Nat.mod_lt _ (by omega)
  obtain ⟨a4, ha4⟩ : ∃ a4, a4 = ag % 4 := ⟨_, rfl⟩
  rw [← ha4] at hr4 hb4
  simp only [Int.cast_ofNat_Int] at hr4
  have wa : IntKind.i64.wrap (a4 : Int) = a4 := wrap64 (by omega) (by omega)
  have wb : IntKind.i64.wrap (1 + (a4 : Int)) = 1 + a4 := wrap64 (by omega) (by omega)
  have hpm : perm (1 + (a4 : Int)) := ⟨by omega, by omega⟩
  unfold begO at hb
  refine run_code (s := s5 0) rfl rfl rfl (by kernel_rfl) ?_
  by_cases hbig : 25 < ops.length
  · generalize ops.map Opr.d = OO at *
    have hbi : (25 : Int) < ops.length := by omega
    simp [s5, eqCells, T3, T4, T5, T9, T22, T23, T25, T27, T28, T32, T34, T38, T40, T46, T49, T51, T54, T57, T65, T66, T72, T74, T76, T77, T79, T81, T87, T89, T90, T92, T101, T107, T109, T119, T125, T128, T130, T133, T140, T148, T150, T151, CT, CQ, QQ, hk, hol, hbi, hO]
  have hbi : ¬ (25 : Int) < ops.length := by omega
  generalize zA a = A at *
  generalize zB a b = B at *
  generalize zC c = C at *
  generalize hOO : ops.map Opr.d = OO at *
  simp [s5, eqCells, T3, T4, T5, T9, T22, T23, T25, T27, T28, T32, T34, T38, T40, T46, T49, T51, T54, T57, T65, T66, T72, T74, T76, T77, T79, T81, T87, T89, T90, T92, T101, T107, T109, T119, T125, T128, T130, T133, T140, T148, T150, T151, CT, CQ, QQ, hk, hol, hbi, hb, h23, hO]
  refine wlp_inv2 (S := fun p : Nat × Qs => ⟨[(2, .d (.int .u8 ag)), (7, .ptr 0 0), (8, .ptr 3 0), (9, .ptr 5 0), (32, .d O), (33, .d (.int .i64 ops.length)), (34, .d (.int .i64 p.1))], p.2.obk 0 ++ [.box [.d (.int .i64 p.2.mod.la), .d (.int .i64 p.2.mod.lb), .d (.int .i64 p.2.mod.lc), .vs 4 0 8 0 p.2.mod.es.length, .d (.int .i64 p.2.mod.nx), .d (.int .i64 p.2.mod.sv), .d (.int .i64 p.2.mod.nw)], .vec 0 true false 101 8 (p.2.mod.es.map Me.d), .box [.d (.int .i64 A), .d (.int .i64 B), .d (.int .i64 C)], .dead]⟩) (m := fun p => ops.length - p.1) (Inv := fun p => p.1 ≤ ops.length ∧ p.2.wl ∧ p.2.bd p.1 ∧ p.2.la = A) ?_ (0, q00 A B C) ⟨Nat.zero_le _, hwl, hbd, rfl⟩ (by simp only [q00, Qs.mod, Qs.obk]; rfl)
  rintro ⟨i, q⟩ ⟨hi, hq, hqb, hqA⟩ ih
  rw [e5_1]
  simp only at hi hq hqb hqA ⊢
  by_cases hlt : i < ops.length
  · obtain ⟨O2, q2, hdo, hr⟩ := do24_run q hq i hqb (by omega) ops[i].k ops[i].A ops[i].B ops[i].hA ops[i].hB
    have h16 := len16_run q2
    have htot := hr.wl.tot
    rw [hr.la, hqA] at htot
    have htot2 : ¬ A < (q2.es.length : Int) := by omega
    have ih2 := ih (i + 1, q2) ⟨by simp only; omega, hr.wl, hr.bd, by simp only; rw [hr.la, hqA]⟩ (by simp only; omega)
    have hx := hog i hlt
    have hOi : i < OO.length := by omega
    have hEe := (List.getElem?_eq_some_iff.1 hx).2
    have w1 : IntKind.i64.wrap ((i : Int) + 1) = (i : Int) + 1 := wrap64 (by omega) (by omega)
    have p1 : (i : Int) < ops.length := by omega
    have hst := hr.st
    clear ih hog hr hb hk
    generalize ops[i].k = x1 at *
    generalize ops[i].A = x2 at *
    generalize ops[i].B = x3 at *
    simp only [Qs.st, Qs.stm, Qs.sta, Qs.obk, Qs.obs, Ms.obs, Ms.obm, List.cons_append, List.nil_append] at hdo hst h16 ih2 ⊢
    generalize q2.mod = m2 at *
    generalize q.mod = m at *
    generalize q.es.map Ent.p = M1 at *
    generalize q.ts.map Tck.p = M2 at *
    generalize q2.es.map Ent.p = M3 at *
    generalize q2.ts.map Tck.p = M4 at *
    generalize m.es.map Me.d = E at *
    generalize m2.es.map Me.d = E2 at *
    try simp at ih2
    rcases hst with rfl | rfl | ⟨E3, rfl⟩
    · simp [c5_1, eqCells, T3, T4, T5, T9, T22, T23, T25, T27, T28, T32, T34, T38, T40, T46, T49, T51, T54, T57, T65, T66, T72, T74, T76, T77, T79, T81, T87, T89, T90, T92, T101, T107, T109, T119, T125, T128, T130, T133, T140, T148, T150, T151, CT, CQ, QQ, hx, hOi, hEe, hdo, h16, p1, w1, hlt, htot2, hO]
      exact ih2
    · simp [c5_1, eqCells, T3, T4, T5, T9, T22, T23, T25, T27, T28, T32, T34, T38, T40, T46, T49, T51, T54, T57, T65, T66, T72, T74, T76, T77, T79, T81, T87, T89, T90, T92, T101, T107, T109, T119, T125, T128, T130, T133, T140, T148, T150, T151, CT, CQ, QQ, hx, hOi, hEe, hdo, h16, p1, w1, hlt, htot2, hO]
      exact ih2
    · simp [c5_1, eqCells, T3, T4, T5, T9, T22, T23, T25, T27, T28, T32, T34, T38, T40, T46, T49, T51, T54, T57, T65, T66, T72, T74, T76, T77, T79, T81, T87, T89, T90, T92, T101, T107, T109, T119, T125, T128, T130, T133, T140, T148, T150, T151, CT, CQ, QQ, hx, hOi, hEe, hdo, h16, p1, w1, hlt, htot2, hO]
      exact ih2
  have e : i = ops.length := by omega
  subst e
  have h14 := credit14_run q hq.ok (1 + a4) hq.lim
  have hcn : 0 ≤ crd q (1 + a4) ∧ crd q (1 + a4) ≤ 6 := by
    have := hq.tot
    have := hq.per (1 + a4)
    unfold Go.Proofs.YtdgpipoffcajgaaV.crd
    rw [if_pos hpm]
    unfold max2' min2'
    omega
  obtain ⟨n, hn⟩ : ∃ n : Nat, crd q (1 + a4) = n := ⟨(crd q (1 + a4)).toNat, by omega⟩
  have hlen := hq.es.le
  have hcr : q.cr (1 + a4) 1000 n := ⟨hq.ok, hq.lim, fun e he _ => hq.ss e he, hn, hq.a0.1, by have := hqb.arr; omega, by omega⟩
  rw [hn] at h14 hcn
  clear ih hog hb hk
  have wn : IntKind.i64.wrap (n : Int) = n := wrap64 (by omega) (by omega)
  generalize q.mod = m at *
  generalize m.es.map Me.d = E at *
  simp only [Qs.obk, Qs.obs] at h14 ⊢
  simp [c5_1, eqCells, T3, T4, T5, T9, T22, T23, T25, T27, T28, T32, T34, T38, T40, T46, T49, T51, T54, T57, T65, T66, T72, T74, T76, T77, T79, T81, T87, T89, T90, T92, T101, T107, T109, T119, T125, T128, T130, T133, T140, T148, T150, T151, CT, CQ, QQ, hr4, wa, wb, h14, hO]
  refine wlp_inv2 (S := fun p : Nat × Qs => ⟨[(7, .ptr 0 0), (12, .d (.int .i64 (1 + a4))), (13, .d (.int .i64 n)), (14, .d (.int .i64 p.1))], p.2.obk 0 ++ [.dead, .dead, .dead, .dead]⟩) (m := fun p => n - p.1) (Inv := fun p => p.1 ≤ n ∧ p.2.cr (1 + a4) (1000 + p.1) (n - p.1)) ?_ (0, q) ⟨Nat.zero_le _, hcr⟩ (by simp only [Qs.obk]; rfl)
  rintro ⟨j, Q⟩ ⟨hj, hQ⟩ ih
  rw [e5_2]
  simp only at hj hQ ⊢
  by_cases hlt : j < n
  · obtain ⟨k, hk⟩ : ∃ k, n - j = k + 1 := ⟨n - j - 1, by omega⟩
    rw [hk] at hQ
    have h15 := offer15_ok Q hQ.ok hQ.lim (1 + a4) (1000 + j) .nils .nils ⟨by omega, by omega, by omega, by omega⟩ (.inl ⟨rfl, rfl⟩) (cr_any hQ) (by rw [hQ.crd]; omega) (copied34_nil _ _) ⟨hQ.arr, by have := hQ.arl; omega⟩
    have hQ2 := cr_add hQ hpm
    have ih2 := ih (j + 1, Q.add (1 + a4) (1000 + j) .nils .nils) ⟨by simp only; omega, by
      simp only
      have e1 : n - (j + 1) = k := by omega
      have e2 : (1000 : Int) + ((j + 1 : Nat) : Int) = 1000 + j + 1 := by omega
      rw [e1, e2]; exact hQ2⟩ (by simp only; omega)
    have w1 : IntKind.i64.wrap ((j : Int) + 1) = (j : Int) + 1 := wrap64 (by omega) (by omega)
    have w2 : IntKind.i64.wrap (1000 + (j : Int)) = 1000 + j := wrap64 (by omega) (by omega)
    have p1 : (j : Int) < n := by omega
    have p2 : ¬ (6 : Int) < n := by omega
    clear ih
    generalize Q.add (1 + a4) (1000 + j) .nils .nils = Q2 at *
    simp only [Qs.obk, Qs.obs] at h15 ih2 ⊢
    generalize Q.es.map Ent.p = M1 at *
    generalize Q.ts.map Tck.p = M2 at *
    generalize Q2.es.map Ent.p = M3 at *
    generalize Q2.ts.map Tck.p = M4 at *
    try simp at ih2
    simp [c5_2, eqCells, T3, T4, T5, T9, T22, T23, T25, T27, T28, T32, T34, T38, T40, T46, T49, T51, T54, T57, T65, T66, T72, T74, T76, T77, T79, T81, T87, T89, T90, T92, T101, T107, T109, T119, T125, T128, T130, T133, T140, T148, T150, T151, CT, CQ, QQ, h15, w1, w2, p1, p2, hlt]
    exact ih2
  · have e : j = n := by omega
    subst e
    rw [Nat.sub_self] at hQ
    have hcz : crd Q (1 + a4) = 0 := hQ.crd
    have hQ' : Q.cr (1 + a4) 2000 0 := ⟨hQ.ok, hQ.lim, fun e he h => by have := hQ.new e he h; omega, hcz, hQ.arr, hQ.arl, hQ.len⟩
    have h14 := credit14_run Q hQ.ok (1 + a4) hQ.lim
    have h15 := offer15_full Q hQ.ok hQ.lim (1 + a4) 2000 .nils .nils ⟨by omega, by omega, by omega, by omega⟩ (.inl ⟨rfl, rfl⟩) (cr_any hQ') hcz
    rw [hcz] at h14
    clear ih
    simp only [Qs.obk, Qs.obs] at h14 h15 ⊢
    generalize Q.es.map Ent.p = M1 at *
    generalize Q.ts.map Tck.p = M2 at *
    simp [c5_2, eqCells, T3, T4, T5, T9, T22, T23, T25, T27, T28, T32, T34, T38, T40, T46, T49, T51, T54, T57, T65, T66, T72, T74, T76, T77, T79, T81, T87, T89, T90, T92, T101, T107, T109, T119, T125, T128, T130, T133, T140, T148, T150, T151, CT, CQ, QQ, h14, h15]
end Go.Proofs.YtdgpipoffcajgaaV
