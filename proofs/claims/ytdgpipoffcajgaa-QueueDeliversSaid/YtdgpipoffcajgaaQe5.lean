/- The model: expire runs. -/
import Derived.Test.YtdgpipoffcajgaaQe4
set_option linter.unusedVariables false
set_option linter.unusedSimpArgs false
namespace Go.Proofs.YtdgpipoffcajgaaV
open Go.RowKit
attribute [local simp] TK.agg constAV evalAV EK.has EK.hasAll vecEls elsR AV.toD toDs AV.cells AV.one joinD TyI.zeroD OpR.of binIntF binStrF AV.isPtr ptrNil slNil mpNil nilE eqF negF posF binF pelF pvLoad pelSet pvStore boxLoad epLoad loadF boxStore storeF fieldAddrF fieldF epOf indexAddrF byteF indexF mapLen lenF cutF sliceF sliceN sliceX isSl slice3F fillF fillV arrFs buildF partsX landV buildSliceF roomB appVec appendF appMkF capF mmFrom mmF max2' min2' clearVec clearF convF unF pickF nilChkF extF ptrsOf callF makeSliceF sameKs sameD kindIs plainFs keyOk mapOb mapEs okV lookF lookupF putE putS mapPut mapUpdateF mapDel deleteF mapAll rangeM rangeF overV hitV nextO nextF entryM entryO entryF itOids builtinF capsOf allocF boxF bytesL bytesF byteTy strTy convertF makeFuncF mapNew makeMapF makeMapH opF reach reachOf AObj.live closedB nodupB packO packL packX backN backG backO obL backE frzX frzO AV.vids frzL landC sameObs landR touchF bitsW D.cells D.decEq D.decEqs AV.decEq AV.decEqs AObj.decEq AV.oids0 AV.oids AObj.oids renG renP AV.ren0 AV.ren envGet envPut envKeep obGet setEff putV St.put stepS keyChk chkD accD Ex.block AV.under AObj.under laysOf roomFor mkvO frzG szOk killO usedBy tidyS canL canS ghost ghostE normSt resOf allSome one0 resultsF finL finishL finish endF startEnv chkC backX comeC AV.flat0 rngC loopO layL endLp busyL idleL noRng rndSt rndEnd wpn_nil wpn_seq wpn_loop wpn_seq_exit wpn_loop_exit wpn_seq_ret wpn_loop_ret wpn_block wpn_post wpk_skip wpk_exit wpk_ret wpk_reg wpk_seq wpk_condT wpk_block wpk_loop wpk_pre wpk_post wop_nil wop_cons wop_guard St.know envSet cond_d cond_bool cond_int cond_str endE endQ freeB disj pushT bitsW int_beq int_bne eqS_def tbE fuelL_eq ann0_lays ann0_dd ann0_ro elsOf_dsl elsOf_dnils toNat_succ nn_succ pos_succ one_succ rng1 rng2 rng3 rng4 rng5 rng6 rng7 rng8 List.idxOf_cons wpk_rng rndK rndE
set_option maxRecDepth 100000 in
set_option maxHeartbeats 8000000 in
theorem expire45_time (m : Ms) (q : Qs) (now : Int) (h : now < q.now) (h2 : now < m.nw) : run CC 45 [.ptr 0 0, .ptr 2 0, .d (.int .i64 now)] (m.obs ++ q.obk 2) = some (.d (.bool true), m.obs ++ q.obk 2) := by
  have hq := expire26_time q now h
  simp only [Qs.obs, Qs.obk, Ms.obs, List.cons_append, List.nil_append] at hq ⊢
  generalize m.es.map Me.d = E at *
  generalize q.es.map Ent.p = M1 at *
  generalize q.ts.map Tck.p = M2 at *
  refine run_code (s := s45 5) rfl rfl rfl (by kernel_rfl) ?_
  simp [s45, eqCells, T3, T4, T5, T9, T22, T23, T25, T27, T28, T32, T34, T38, T40, T46, T49, T51, T54, T57, T65, T66, T72, T74, T76, T77, T79, T81, T87, T89, T90, T92, T101, T107, T109, T119, T125, T128, T130, T133, T140, T148, T150, T151, CT, CQ, QQ, h2, hq]
theorem Wn_step {ts : List Tck} (h : ts.Pairwise fun x y => x.n < y.n) (n now : Int) : Wn ts (n + 1) now = Wn ts n now ++ ts.filter (fun t => decide (t.n = n ∧ ¬ now < t.u)) := filt_step (fun t => ¬ now < t.u) n h
set_option maxRecDepth 100000 in
set_option maxHeartbeats 8000000 in
theorem expire45_ok (m : Ms) (q Q2 : Qs) (ts : List Tck) (now : Int) (hq : run CC 26 [.ptr 0 0, .d (.int .i64 now)] q.obs = some (.tup [.d (.sl ((keepT now ts).map Tck.d)), .d (.int .i64 0)], Q2.obs)) (h2 : ¬ now < m.nw) (ht : tkM m.es ts m.nx) (hf : frM m.es) (hl : m.es.length ≤ 12) (htl : ts.length ≤ 12) (hnx : 1 ≤ m.nx ∧ m.nx < 1000000) :
    run CC 45 [.ptr 0 0, .ptr 2 0, .d (.int .i64 now)] (m.obs ++ q.obk 2) = some (.d (.bool true), (m.exp now).obs ++ Q2.obk 2) := by
  have hWk : Wn ts m.nx now = keepT now ts := keep_filt now m.nx fun t h => (ht.b t h).2
  have hW1 : Wn ts 1 now = [] := List.filter_eq_nil_iff.2 fun t h => by have := (ht.b t h).1; simp; intro hh; omega
  have hE1 : m.es.map (clr 1 now) = m.es := by
    conv => rhs; rw [← List.map_id m.es]
    refine List.map_congr_left fun e he => ?_
    unfold clr
    by_cases hz : e.t.n = 0
    · have := ht.z e he hz
      obtain ⟨a, s, S, X, t⟩ := e
      simp only at this
      subst this
      simp
    · rw [if_neg (by have := (ht.b _ (ht.m e he hz)).1; omega)]; rfl
  have hstep := fun n hn => exp_step ht now n hn
  have hWs := fun n => Wn_step ht.a n now
  have hfind := fun n k => find46_run { m with es := m.es.map (clr n now), nw := now } (clr_fr hf n now) (by simp; omega) k
  have hg := fun n i hi => me_get (clr_fr hf n now) (i := i) hi
  have hlen : ∀ n, (m.es.map (clr n now)).length = m.es.length := fun n => by simp
  have hkl : (keepT now ts).length ≤ 12 := Nat.le_trans (List.length_filter_le _ _) htl
  have hWl : ∀ n, (Wn ts n now).length ≤ 12 := fun n => Nat.le_trans (List.length_filter_le _ _) htl
  simp only [Qs.obs, Qs.obk, Ms.obs, Ms.exp, List.cons_append, List.nil_append, hlen] at hq hfind ⊢
  obtain ⟨EF, hEF⟩ : ∃ EF, EF = (m.es.map (clr m.nx now)).map Me.d := ⟨_, rfl⟩
  rw [← hEF]
  generalize q.es.map Ent.p = M1 at *
  generalize q.ts.map Tck.p = M2 at *
  generalize Q2.es.map Ent.p = M3 at *
  generalize Q2.ts.map Tck.p = M4 at *
  refine run_code (s := s45 5) rfl rfl rfl (by kernel_rfl) ?_
  simp [s45, eqCells, T3, T4, T5, T9, T22, T23, T25, T27, T28, T32, T34, T38, T40, T46, T49, T51, T54, T57, T65, T66, T72, T74, T76, T77, T79, T81, T87, T89, T90, T92, T101, T107, T109, T119, T125, T128, T130, T133, T140, T148, T150, T151, CT, CQ, QQ, h2, hq]
  refine wlp_inv2 (S := fun n : Nat => ⟨[(0, .ptr 0 0), (2, .d (.int .i64 now)), (7, .d (.sl ((keepT now ts).map Tck.d))), (8, .d (.int .i64 0)), (9, .vs 5 0 4 0 (Wn ts n now).length), (10, .d (.int .i64 n))], [.box [.d (.int .i64 m.la), .d (.int .i64 m.lb), .d (.int .i64 m.lc), .vs 1 0 8 0 m.es.length, .d (.int .i64 m.nx), .d (.int .i64 m.sv), .d (.int .i64 now)], .vec 0 false false 101 8 ((m.es.map (clr n now)).map Me.d), .box [.d (.int .i64 Q2.la), .d (.int .i64 Q2.lb), .d (.int .i64 Q2.lc), .mp 3, .mp 4, .d (.int .i64 Q2.arr), .d (.int .i64 Q2.iss), .d (.int .i64 Q2.srv), .d (.int .i64 Q2.now)], .mapd M3 Q2.bs Q2.ck, .mapd M4 Q2.cs Q2.dk, .vec 0 true false 40 4 ((Wn ts n now).map Tck.d)]⟩) (m := fun n => m.nx.toNat - n) (Inv := fun n => 1 ≤ n ∧ (n : Int) ≤ m.nx) ?_ 1 ⟨Nat.le_refl _, by omega⟩ (by simp only [Int.natCast_one, hE1, hW1]; rfl)
  rintro n ⟨hn1, hn2⟩ ih
  rw [e45_1]
  by_cases hlt : (n : Int) < m.nx
  · have ih2 := ih (n + 1) ⟨by omega, by omega⟩ (by omega)
    have hfn := hfind n n
    have w1 : IntKind.i64.wrap ((n : Int) + 1) = (n : Int) + 1 := wrap64 (by omega) (by omega)
    have hws := hWs n
    have hwl := hWl n
    rw [Int.natCast_add, Int.natCast_one] at ih2
    rcases hstep n (by omega) with ⟨s1, s2, s3⟩ | ⟨j, hj, s1, s2, s3, s4, s5, s6⟩
    · rw [filt_no _ s3, List.append_nil] at hws
      rw [s2, hws] at ih2
      rw [s1] at hfn
      clear ih hg hstep hWs hWl hWk hW1 hE1 hfind s1 s2 hws
      generalize (m.es.map (clr n now)).map Me.d = E at *
      generalize (Wn ts n now).map Tck.d = W at *
      generalize (keepT now ts).map Tck.d = KK at *
      try simp at ih2
      simp [c45_1, eqCells, T3, T4, T5, T9, T22, T23, T25, T27, T28, T32, T34, T38, T40, T46, T49, T51, T54, T57, T65, T66, T72, T74, T76, T77, T79, T81, T87, T89, T90, T92, T101, T107, T109, T119, T125, T128, T130, T133, T140, T148, T150, T151, CT, CQ, QQ, hlt, hfn, w1]
      exact ih2
    · have hgj := hg n j (by simpa using hj)
      obtain ⟨l1, l2, -, -, hx⟩ := hgj
      have hee : (m.es.map (clr n now))[j]'(by simpa using hj) = m.es[j] := by simp [s4]
      rw [hee] at hx
      have hfo := filt_one (fun t => ¬ now < t.u) ht.a s3
      rw [s2] at hfo
      rw [hfo] at hws
      rw [s1] at hfn
      have p2 : (j : Int) < m.es.length := by omega
      have p3 : ¬ (j : Int) < 0 := by omega
      by_cases hu : now < m.es[j].t.u
      · have hu2 : ¬ m.es[j].t.u ≤ now := by omega
        rw [if_neg (by simpa using hu), List.append_nil] at hws
        rw [s5 hu, hws] at ih2
        have hEl : ((m.es.map (clr n now)).map Me.d).length = m.es.length := by simp
        have hEe := (List.getElem?_eq_some_iff.1 hx).2
        clear ih hg hstep hWs hWl hWk hW1 hE1 hfind s1 s5 s6 hws hfo hee s3 s4 s2
        generalize m.es[j] = y at *
        generalize (m.es.map (clr n now)).map Me.d = E at *
        have hEj : j < E.length := by omega
        generalize (Wn ts n now).map Tck.d = W at *
        generalize (keepT now ts).map Tck.d = KK at *
        try simp at ih2
        simp [c45_1, eqCells, T3, T4, T5, T9, T22, T23, T25, T27, T28, T32, T34, T38, T40, T46, T49, T51, T54, T57, T65, T66, T72, T74, T76, T77, T79, T81, T87, T89, T90, T92, T101, T107, T109, T119, T125, T128, T130, T133, T140, T148, T150, T151, CT, CQ, QQ, hlt, hfn, w1, hx, hEe, hEl, hj, p2, p3, hu, hu2, hEj]
        exact ih2
      · have hu2 : m.es[j].t.u ≤ now := by omega
        rw [if_pos (by simpa using hu)] at hws
        rw [s6 hu, hws] at ih2
        have hEl : ((m.es.map (clr n now)).map Me.d).length = m.es.length := by simp
        have hEe := (List.getElem?_eq_some_iff.1 hx).2
        have hset : (((m.es.map (clr n now)).set j { m.es[j] with t := zT }).map Me.d) = ((m.es.map (clr n now)).map Me.d).set j (.agg [.int .i64 m.es[j].a, .int .i64 m.es[j].s, .sl l1, .sl l2, .int .i64 0, .int .i64 0, .int .i64 0, .int .i64 0]) := by
          rw [List.map_set]
          congr 1
          have hx' := hx
          rw [List.getElem?_map, List.getElem?_eq_getElem (by simpa using hj), hee] at hx'
          simp only [Option.map_some, Me.d, Option.some.injEq, D.agg.injEq, List.cons.injEq] at hx'
          obtain ⟨-, -, q1, q2, -⟩ := hx'
          simp only [Me.d, q1, q2]
        have hmm : (Wn ts n now ++ [m.es[j].t]).map Tck.d = (Wn ts n now).map Tck.d ++ [.agg [.int .i64 m.es[j].t.n, .int .i64 m.es[j].t.a, .int .i64 m.es[j].t.s, .int .i64 m.es[j].t.u]] := by simp [Tck.d]
        have r1 : ((Wn ts n now).length + 1) * 32 ≤ 140737488355328 := by omega
        have r2 : (Wn ts n now).length + 1 ≤ 9223372036854775807 := by omega
        have hz : szAll 4 [D.agg [.int .i64 m.es[j].t.n, .int .i64 m.es[j].t.a, .int .i64 m.es[j].t.s, .int .i64 m.es[j].t.u]] = true := rfl
        have htk : ((Wn ts n now).map Tck.d).take (Wn ts n now).length = (Wn ts n now).map Tck.d := takeM _ _
        have hWW : ((Wn ts n now).map Tck.d).length = (Wn ts n now).length := by simp
        rw [hset, hmm] at ih2
        simp only [List.length_append, List.length_cons, List.length_nil, Nat.zero_add] at ih2
        clear ih hg hstep hWs hWk hW1 hE1 hfind s1 s5 s6 hws hfo hee s3 s4 s2 hset hmm hWl
        generalize m.es[j] = y at *
        generalize (m.es.map (clr n now)).map Me.d = E at *
        have hEj : j < E.length := by omega
        generalize (Wn ts n now).map Tck.d = W at *
        generalize (Wn ts n now).length = k at *
        generalize (keepT now ts).map Tck.d = KK at *
        try simp at ih2
        simp [c45_1, eqCells, T3, T4, T5, T9, T22, T23, T25, T27, T28, T32, T34, T38, T40, T46, T49, T51, T54, T57, T65, T66, T72, T74, T76, T77, T79, T81, T87, T89, T90, T92, T101, T107, T109, T119, T125, T128, T130, T133, T140, T148, T150, T151, CT, CQ, QQ, hlt, hfn, w1, hx, hEe, hEl, hj, p2, p3, hu, hu2, hEj, r1, r2, hz, htk, hWW]
        exact ih2
  · have e : (n : Int) = m.nx := by omega
    rw [e, hWk, ← hEF]
    have hKl : ((keepT now ts).map Tck.d).length = (keepT now ts).length := by simp
    have htg : ∀ i, i < (keepT now ts).length → ∃ y : Tck, ((keepT now ts).map Tck.d)[i]? = some (.agg [.int .i64 y.n, .int .i64 y.a, .int .i64 y.s, .int .i64 y.u]) := fun i hi => ⟨_, tck_get (keepT now ts) (i := i) hi⟩
    clear ih hg hstep hWs hWk hW1 hE1 hfind hWl
    clear hEF
    generalize EF = E at *
    generalize hKK : (keepT now ts).map Tck.d = KK at *
    generalize hkk : (keepT now ts).length = k at *
    have q1 : ¬ m.nx < m.nx := by omega
    simp [c45_1, eqCells, T3, T4, T5, T9, T22, T23, T25, T27, T28, T32, T34, T38, T40, T46, T49, T51, T54, T57, T65, T66, T72, T74, T76, T77, T79, T81, T87, T89, T90, T92, T101, T107, T109, T119, T125, T128, T130, T133, T140, T148, T150, T151, CT, CQ, QQ, hlt, hKl]
    refine wlp_inv (S := fun i : Nat => ⟨[(7, .d (.sl KK)), (9, .vs 5 0 4 0 k), (91, .d (.int .i64 k)), (92, .d (.int .i64 i))], [.box [.d (.int .i64 m.la), .d (.int .i64 m.lb), .d (.int .i64 m.lc), .vs 1 0 8 0 m.es.length, .d (.int .i64 m.nx), .d (.int .i64 m.sv), .d (.int .i64 now)], .vec 0 false false 101 8 E, .box [.d (.int .i64 Q2.la), .d (.int .i64 Q2.lb), .d (.int .i64 Q2.lc), .mp 3, .mp 4, .d (.int .i64 Q2.arr), .d (.int .i64 Q2.iss), .d (.int .i64 Q2.srv), .d (.int .i64 Q2.now)], .mapd M3 Q2.bs Q2.ck, .mapd M4 Q2.cs Q2.dk, .vec 0 true false 40 4 KK]⟩) (m := fun i => k - i) (Inv := fun i => i ≤ k) ?_ 0 (Nat.zero_le _)
    rintro i hi ih
    rw [e45_2]
    by_cases hlt : i < k
    · obtain ⟨y, hx⟩ := htg i hlt
      have ih2 := ih (i + 1) (by omega) (by omega)
      have w1 : IntKind.i64.wrap ((i : Int) + 1) = (i : Int) + 1 := wrap64 (by omega) (by omega)
      have p1 : (i : Int) < k := by omega
      have hKi : i < KK.length := by omega
      have hEe := (List.getElem?_eq_some_iff.1 hx).2
      clear ih htg
      try simp at ih2
      simp [c45_2, eqCells, T3, T4, T5, T9, T22, T23, T25, T27, T28, T32, T34, T38, T40, T46, T49, T51, T54, T57, T65, T66, T72, T74, T76, T77, T79, T81, T87, T89, T90, T92, T101, T107, T109, T119, T125, T128, T130, T133, T140, T148, T150, T151, CT, CQ, QQ, hKl, hx, hEe, w1, p1, hlt, hKi]
      exact ih2
    · have e : i = k := by omega
      subst e
      clear ih htg
      simp [c45_2, eqCells, T3, T4, T5, T9, T22, T23, T25, T27, T28, T32, T34, T38, T40, T46, T49, T51, T54, T57, T65, T66, T72, T74, T76, T77, T79, T81, T87, T89, T90, T92, T101, T107, T109, T119, T125, T128, T130, T133, T140, T148, T150, T151, CT, CQ, QQ, hKl]
end Go.Proofs.YtdgpipoffcajgaaV
