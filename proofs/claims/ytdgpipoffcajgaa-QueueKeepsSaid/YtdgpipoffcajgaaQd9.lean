/- Expire. -/
import Derived.Test.YtdgpipoffcajgaaQd8
set_option linter.unusedVariables false
set_option linter.unusedSimpArgs false
namespace Go.Proofs.YtdgpipoffcajgaaV
open Go.RowKit
attribute [local simp] TK.agg constAV evalAV EK.has EK.hasAll vecEls elsR AV.toD toDs AV.cells AV.one joinD TyI.zeroD OpR.of binIntF binStrF AV.isPtr ptrNil slNil mpNil nilE eqF negF posF binF pelF pvLoad pelSet pvStore boxLoad epLoad loadF boxStore storeF fieldAddrF fieldF epOf indexAddrF byteF indexF mapLen lenF cutF sliceF sliceN sliceX isSl slice3F fillF fillV arrFs buildF partsX landV buildSliceF roomB appVec appendF appMkF capF mmFrom mmF max2' min2' clearVec clearF convF unF pickF nilChkF extF ptrsOf callF makeSliceF sameKs sameD kindIs plainFs keyOk mapOb mapEs okV lookF lookupF putE putS mapPut mapUpdateF mapDel deleteF mapAll rangeM rangeF overV hitV nextO nextF entryM entryO entryF itOids builtinF capsOf allocF boxF bytesL bytesF byteTy strTy convertF makeFuncF mapNew makeMapF makeMapH opF reach reachOf AObj.live closedB nodupB packO packL packX backN backG backO obL backE frzX frzO AV.vids frzL landC sameObs landR touchF bitsW D.cells D.decEq D.decEqs AV.decEq AV.decEqs AObj.decEq AV.oids0 AV.oids AObj.oids renG renP AV.ren0 AV.ren envGet envPut envKeep obGet setEff putV St.put stepS keyChk chkD accD Ex.block AV.under AObj.under laysOf roomFor mkvO frzG szOk killO usedBy tidyS canL canS ghost ghostE normSt resOf allSome one0 resultsF finL finishL finish endF startEnv chkC backX comeC AV.flat0 rngC loopO layL endLp busyL idleL noRng rndSt rndEnd wpn_nil wpn_seq wpn_loop wpn_seq_exit wpn_loop_exit wpn_seq_ret wpn_loop_ret wpn_block wpn_post wpk_skip wpk_exit wpk_ret wpk_reg wpk_seq wpk_condT wpk_block wpk_loop wpk_pre wpk_post wop_nil wop_cons wop_guard St.know envSet cond_d cond_bool cond_int cond_str endE endQ freeB disj pushT bitsW int_beq int_bne eqS_def tbE fuelL_eq ann0_lays ann0_dd ann0_ro elsOf_dsl elsOf_dnils toNat_succ nn_succ pos_succ one_succ rng1 rng2 rng3 rng4 rng5 rng6 rng7 rng8 List.idxOf_cons wpk_rng rndK rndE
set_option maxRecDepth 100000 in
set_option maxHeartbeats 4000000 in
theorem expire26_time (q : Qs) (now : Int) (h : now < q.now) : run CC 26 [.ptr 0 0, .d (.int .i64 now)] q.obs = some (.tup [.d .nils, .d (.int .i64 32)], q.obs) := by
  simp only [Qs.obs]
  generalize q.es.map Ent.p = M1 at *
  generalize q.ts.map Tck.p = M2 at *
  refine run_code (s := s26 3) rfl rfl rfl (by kernel_rfl) ?_
  simp [s26, eqCells, T3, T4, T5, T9, T22, T23, T25, T27, T32, T34, T38, T40, T46, T49, T51, T54, T57, T66, T72, T74, T76, T77, T79, T81, T87, T89, T90, T92, T101, T107, T109, T119, T125, T128, T130, T133, T140, T148, T150, T151, CT, CQ, QQ, h]
def Qs.nw (q : Qs) (now : Int) : Qs := { q with now := now }
theorem nw_wf {q : Qs} (h : q.wf) {now : Int} (hn : -1000 ≤ now ∧ now < 1000000000) : (q.nw now).wf := ⟨h.eb, h.tb, h.es, h.asc, h.fr, h.rng, h.tk, h.kt, h.tn, h.ar, h.i0, h.a0, hn, h.l0⟩
theorem expQ_snoc (q : Qs) (l : List Tck) (t : Tck) : expQ q (l ++ [t]) = relQ (expQ q l) t.n := by unfold expQ; rw [List.foldl_append]; rfl
theorem expQ_ts : ∀ (l : List Tck) (q : Qs) (u : Tck), u ∈ q.ts → (∀ t ∈ l, t.n ≠ u.n) → u ∈ (expQ q l).ts
  | [], q, u, h, _ => h
  | t :: l, q, u, h, hl => expQ_ts l (relQ q t.n) u (List.mem_filter.2 ⟨h, by have := hl t (by simp); simp; omega⟩) fun x hx => hl x (by simp [hx])
set_option maxRecDepth 100000 in
set_option maxHeartbeats 8000000 in
theorem expire26_ok (q : Qs) (hq : q.wf) (now : Int) (h : ¬ now < q.now) (hn : now < 1000000000) : run CC 26 [.ptr 0 0, .d (.int .i64 now)] q.obs = some (.tup [.d (.sl ((keepT now q.ts).map Tck.d)), .d (.int .i64 0)], (expQ (q.nw now) (keepT now q.ts)).obs) := by
  have hwf := nw_wf hq (now := now) ⟨by have := hq.n0; omega, hn⟩
  have hL := leased22_run (q.nw now) hwf.ok hwf.tso
  have hle : q.ts.length ≤ 12 := hwf.tso.le
  have hD := del47_run now q.ts hle
  have h3 : ¬ 1099511627776 < now := by omega
  have hkn : (keepT now q.ts).length ≤ q.ts.length := List.length_filter_le _ _
  have hasc : (keepT now q.ts).Pairwise fun x y => x.n < y.n := hq.asc.filter _
  have hsub : ∀ t ∈ keepT now q.ts, t ∈ q.ts := fun t ht => (List.mem_filter.1 ht).1
  have hmm : (keepT now q.ts ++ List.replicate (q.ts.length - (keepT now q.ts).length) zT).map Tck.d = (keepT now q.ts).map Tck.d ++ (List.replicate (q.ts.length - (keepT now q.ts).length) zT).map Tck.d := List.map_append
  rw [hmm] at hD
  obtain ⟨Kd, hKd⟩ : ∃ Kd, Kd = (keepT now q.ts).map Tck.d := ⟨_, rfl⟩
  obtain ⟨kf, hkf⟩ : ∃ kf, kf = (keepT now q.ts).length := ⟨_, rfl⟩
  have hKl : Kd.length = kf := by rw [hKd, hkf]; simp
  obtain ⟨R, hR⟩ : ∃ R, R = expQ (q.nw now) (keepT now q.ts) := ⟨_, rfl⟩
  rw [← hKd, ← hkf] at hD
  rw [← hKd, ← hR]
  have hVl : (Kd ++ (List.replicate (q.ts.length - kf) zT).map Tck.d).length = q.ts.length := by simp; omega
  have hVt : (Kd ++ (List.replicate (q.ts.length - kf) zT).map Tck.d).take kf = Kd := by rw [← hKl]; simp
  have hget : ∀ i (hi : i < (keepT now q.ts).length), (Kd ++ (List.replicate (q.ts.length - kf) zT).map Tck.d)[i]? = some (.agg [.int .i64 (keepT now q.ts)[i].n, .int .i64 (keepT now q.ts)[i].a, .int .i64 (keepT now q.ts)[i].s, .int .i64 (keepT now q.ts)[i].u]) := fun i hi => by
    rw [List.getElem?_append_left (by rw [hKl, hkf]; exact hi), hKd]
    exact tck_get _ hi
  generalize Kd ++ (List.replicate (q.ts.length - kf) zT).map Tck.d = V at *
  have hst : (expQ (q.nw now) ((keepT now q.ts).take 0)).obs = (q.nw now).obs := rfl
  simp only [Qs.obs, Qs.nw] at hL hst ⊢
  generalize hM1 : q.es.map Ent.p = M1 at *
  generalize hM2 : q.ts.map Tck.p = M2 at *
  generalize hM3 : q.ts.map Tck.d = M3 at *
  generalize hnn : q.ts.length = n at *
  have hMl : M3.length = n := by rw [← hM3, ← hnn]; simp
  refine run_code (s := s26 3) rfl rfl rfl (by kernel_rfl) ?_
  simp [s26, eqCells, T3, T4, T5, T9, T22, T23, T25, T27, T32, T34, T38, T40, T46, T49, T51, T54, T57, T66, T72, T74, T76, T77, T79, T81, T87, T89, T90, T92, T101, T107, T109, T119, T125, T128, T130, T133, T140, T148, T150, T151, CT, CQ, QQ, h, h3, hL, hMl, hD]
  refine wlp_inv2 (S := fun i : Nat => ⟨[(0, .ptr 0 0), (6, .vs 4 0 4 0 kf), (29, .vs 4 0 4 0 kf), (30, .d (.int .i64 kf)), (31, .d (.int .i64 i))], (expQ (q.nw now) ((keepT now q.ts).take i)).obs ++ [.dead, .vec 0 true false 40 4 V]⟩) (m := fun i => kf - i) (Inv := fun i => i ≤ kf) ?_ 0 (Nat.zero_le _) (by simp only [List.take_zero, expQ, List.foldl_nil, Qs.nw, Qs.obs, hM1, hM2]; rfl)
  rintro i hi ih
  rw [e26_1]
  by_cases hlt : i < kf
  · have hik : i < (keepT now q.ts).length := by omega
    have hsp := List.take_succ_eq_append_getElem hik
    have hx := hget i hik
    have hmem : (keepT now q.ts)[i] ∈ q.ts := hsub _ (List.getElem_mem hik)
    have hbef : ∀ t ∈ (keepT now q.ts).take i, t.n ≠ ((keepT now q.ts)[i]).n := fun t ht => by
      obtain ⟨j, hj, rfl⟩ := List.getElem_of_mem ht
      rw [List.length_take] at hj
      rw [List.getElem_take]
      have := List.pairwise_iff_getElem.1 hasc j i (by omega) hik (by omega)
      omega
    have hQw := expQ_wf (l := (keepT now q.ts).take i) hwf (hasc.sublist (List.take_sublist _ _)) fun t ht => hsub t (List.mem_of_mem_take ht)
    have hQt := expQ_ts ((keepT now q.ts).take i) (q.nw now) _ hmem hbef
    have hrun := relQ_run hQw hQt
    have ih2 := ih (i + 1) (by omega) (by omega)
    rw [hsp, expQ_snoc] at ih2
    generalize expQ (q.nw now) ((keepT now q.ts).take i) = Q at *
    generalize (keepT now q.ts)[i] = y at *
    have w1 : IntKind.i64.wrap ((i : Int) + 1) = (i : Int) + 1 := wrap64 (by omega) (by omega)
    have p1 : (i : Int) < kf := by omega
    have hVi : i < V.length := by omega
    have hVe : V[i] = .agg [.int .i64 y.n, .int .i64 y.a, .int .i64 y.s, .int .i64 y.u] := (List.getElem?_eq_some_iff.1 hx).2
    have hkn2 : kf ≤ V.length := by omega
    clear ih hget hst hL hD hmem hbef
    generalize relQ Q y.n = Q2 at *
    simp only [Qs.obs] at hrun ih2 ⊢
    generalize Q.es.map Ent.p = N1 at *
    generalize Q.ts.map Tck.p = N2 at *
    generalize Q2.es.map Ent.p = N3 at *
    generalize Q2.ts.map Tck.p = N4 at *
    simp at ih2
    simp [c26_1, eqCells, T3, T4, T5, T9, T22, T23, T25, T27, T32, T34, T38, T40, T46, T49, T51, T54, T57, T66, T72, T74, T76, T77, T79, T81, T87, T89, T90, T92, T101, T107, T109, T119, T125, T128, T130, T133, T140, T148, T150, T151, CT, hx, hVi, hVe, hrun, p1, w1, hlt, hkn2]
    exact ih2
  · have e : i = kf := by omega
    subst e
    have htk : (keepT now q.ts).take i = keepT now q.ts := List.take_of_length_le (by omega)
    rw [htk, ← hR]
    have hVn : i ≤ n := by omega
    clear ih hget hst hL hD
    simp only [Qs.obs]
    generalize R.es.map Ent.p = N1 at *
    generalize R.ts.map Tck.p = N2 at *
    simp [c26_1, eqCells, T3, T4, T5, T9, T22, T23, T25, T27, T32, T34, T38, T40, T46, T49, T51, T54, T57, T66, T72, T74, T76, T77, T79, T81, T87, T89, T90, T92, T101, T107, T109, T119, T125, T128, T130, T133, T140, T148, T150, T151, CT, hVt, hVl, hVn]
end Go.Proofs.YtdgpipoffcajgaaV
