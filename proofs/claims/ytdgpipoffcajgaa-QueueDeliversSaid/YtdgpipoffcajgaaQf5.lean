/- agrees: the queue is in the state of its model. -/
import Derived.Test.YtdgpipoffcajgaaQf4
set_option linter.unusedVariables false
set_option linter.unusedSimpArgs false
namespace Go.Proofs.YtdgpipoffcajgaaV
open Go.RowKit
attribute [local simp] TK.agg constAV evalAV EK.has EK.hasAll vecEls elsR AV.toD toDs AV.cells AV.one joinD TyI.zeroD OpR.of binIntF binStrF AV.isPtr ptrNil slNil mpNil nilE eqF negF posF binF pelF pvLoad pelSet pvStore boxLoad epLoad loadF boxStore storeF fieldAddrF fieldF epOf indexAddrF byteF indexF mapLen lenF cutF sliceF sliceN sliceX isSl slice3F fillF fillV arrFs buildF partsX landV buildSliceF roomB appVec appendF appMkF capF mmFrom mmF max2' min2' clearVec clearF convF unF pickF nilChkF extF ptrsOf callF makeSliceF sameKs sameD kindIs plainFs keyOk mapOb mapEs okV lookF lookupF putE putS mapPut mapUpdateF mapDel deleteF mapAll rangeM rangeF overV hitV nextO nextF entryM entryO entryF itOids builtinF capsOf allocF boxF bytesL bytesF byteTy strTy convertF makeFuncF mapNew makeMapF makeMapH opF reach reachOf AObj.live closedB nodupB packO packL packX backN backG backO obL backE frzX frzO AV.vids frzL landC sameObs landR touchF bitsW D.cells D.decEq D.decEqs AV.decEq AV.decEqs AObj.decEq AV.oids0 AV.oids AObj.oids renG renP AV.ren0 AV.ren envGet envPut envKeep obGet setEff putV St.put stepS keyChk chkD accD Ex.block AV.under AObj.under laysOf roomFor mkvO frzG szOk killO usedBy tidyS canL canS ghost ghostE normSt resOf allSome one0 resultsF finL finishL finish endF startEnv chkC backX comeC AV.flat0 rngC loopO layL endLp busyL idleL noRng rndSt rndEnd wpn_nil wpn_seq wpn_loop wpn_seq_exit wpn_loop_exit wpn_seq_ret wpn_loop_ret wpn_block wpn_post wpk_skip wpk_exit wpk_ret wpk_reg wpk_seq wpk_condT wpk_block wpk_loop wpk_pre wpk_post wop_nil wop_cons wop_guard St.know envSet cond_d cond_bool cond_int cond_str endE endQ freeB disj pushT bitsW int_beq int_bne eqS_def tbE fuelL_eq ann0_lays ann0_dd ann0_ro elsOf_dsl elsOf_dnils toNat_succ nn_succ pos_succ one_succ rng1 rng2 rng3 rng4 rng5 rng6 rng7 rng8 List.idxOf_cons wpk_rng rndK rndE
def Ln (ts : List Tck) (n : Int) : List Tck := ts.filter (fun t => decide (t.n < n))
theorem Ln_step {ts : List Tck} (h : ts.Pairwise fun x y => x.n < y.n) (n : Int) : Ln ts (n + 1) = Ln ts n ++ ts.filter (fun t => decide (t.n = n)) := by
  have := filt_step (fun _ => True) n h
  simpa [Ln] using this
theorem Ln_all {ts : List Tck} {n : Int} (h : ∀ t ∈ ts, t.n < n) : Ln ts n = ts := List.filter_eq_self.2 fun t ht => by simpa using h t ht
theorem iv_get (l : List Iv) {i : Nat} (h : i < l.length) : ∃ y : Iv, (l.map iD)[i]? = some (.agg [.int .i64 y.1, .int .i64 y.2]) := ⟨l[i], by simp [h, iD]⟩
theorem tk_get (l : List Tck) {i : Nat} (h : i < l.length) : ∃ y : Tck, (l.map Tck.d)[i]? = some (.agg [.int .i64 y.n, .int .i64 y.a, .int .i64 y.s, .int .i64 y.u]) := ⟨_, tck_get l h⟩
set_option maxRecDepth 100000 in
set_option maxHeartbeats 16000000 in
theorem agrees25_run (q : Qs) (h : q.wl) (hi : q.iss < 100000) : run CC 25 [.ptr 0 0, .ptr 2 0] q.st = some (.d (.bool true), q.st) := by
  have hlen := h.es.le
  have htl := h.towf.tso.le
  have hfr := mod_fr h.towf
  have hml := mod_len q
  have hg := fun i hi => me_get hfr (i := i) hi
  have hw := fun i hi => wtsM_take q.mod.es (i := i) hi
  have hwa := mod_wts h.towf
  have h21 := waiting21_run q h.ok h.es
  have h22 := leased22_run q h.ok h.towf.tso
  have h16 := len16_run q
  have h20 := now20_run q
  have hfd := fun n => find46_run q.mod hfr (by omega) n
  have hwl : ∀ i, (wtsM (q.mod.es.take i)).length ≤ 12 := fun i => by
    unfold wtsM
    rw [List.length_map]
    refine Nat.le_trans (List.length_filter_le _ _) ?_
    rw [List.length_take]; omega
  have hLl : ∀ n, (Ln q.ts n).length ≤ 12 := fun n => Nat.le_trans (List.length_filter_le _ _) htl
  have hnx1 : 1 ≤ q.mod.nx := by show 1 ≤ q.iss + 1; have := h.i0; omega
  have hnx2 : q.mod.nx < 1000000 := by show q.iss + 1 < 1000000; omega
  have hlt : ∀ n : Int, 1 ≤ n → (fndM n q.mod.es 0 = -1 ∧ Ln q.ts (n + 1) = Ln q.ts n) ∨ ∃ j, ∃ hj : j < q.mod.es.length, fndM n q.mod.es 0 = (j : Int) ∧ Ln q.ts (n + 1) = Ln q.ts n ++ [q.mod.es[j].t] := fun n hn => by
    have hs := Ln_step h.asc n
    by_cases ht : ∃ t ∈ q.ts, t.n = n
    · obtain ⟨t, ht, rfl⟩ := ht
      obtain ⟨pre, e, post, hsp, h1, h2, h3, h4, h5⟩ := h.towf.ent ht
      have hf := fnd_ticket h ht hsp h3 h4
      have hj : pre.length < q.mod.es.length := by rw [hml, hsp]; simp
      have hfo := filt_one (fun _ => True) h.asc ht
      simp only [and_true, if_true] at hfo
      rw [hfo] at hs
      have he : q.mod.es[pre.length].t = t := by
        have e1 : q.mod.es[pre.length] = modE q.ts q.es[pre.length] := by simp [Qs.mod]
        have e2 : q.es[pre.length]'(by rw [hsp]; simp) = e := by simp [hsp]
        rw [e1, e2]
        show tkf q.ts e.tk = t
        rw [h3, tkf_mem h.asc ht]
      exact .inr ⟨pre.length, hj, hf, by rw [hs, he]⟩
    · have hno : ∀ t ∈ q.ts, t.n ≠ n := fun t h1 h2 => ht ⟨t, h1, h2⟩
      have hfo := filt_no (fun _ => True) hno
      simp only [and_true] at hfo
      rw [hfo, List.append_nil] at hs
      exact .inl ⟨fnd_no h (by omega) hno, hs⟩
  have hLa : Ln q.ts q.mod.nx = q.ts := Ln_all fun t ht => by show t.n < q.iss + 1; have := (h.tn t ht).2; omega
  have hL1 : Ln q.ts 1 = [] := List.filter_eq_nil_iff.2 fun t ht => by have := (h.tn t ht).1; simp; omega
  have hwg : ∀ i, i < (wts q.es).length → _ := fun i hi => iv_get (wts q.es) hi
  have htg : ∀ i, i < q.ts.length → _ := fun i hi => tk_get q.ts hi
  have hnow : q.mod.nw = q.now := rfl
  have hwz : (wtsM (q.mod.es.take 0)) = [] := rfl
  clear hnow
  simp only [Qs.st, Qs.obs, Qs.obk, Ms.obs, List.cons_append, List.nil_append] at h21 h22 h16 h20 hfd ⊢
  have hWl : ((wts q.es).map iD).length = (wts q.es).length := by simp
  have hwl0 : (wts q.es).length ≤ 12 := by have := hwl q.mod.es.length; rw [List.take_length, hwa] at this; exact this
  have hTl : (q.ts.map Tck.d).length = q.ts.length := by simp
  have hEl : (q.mod.es.map Me.d).length = q.mod.es.length := by simp
  rw [← hml] at h16
  generalize hM1 : q.es.map Ent.p = M1 at *
  generalize hM2 : q.ts.map Tck.p = M2 at *
  have hnwq : q.now = q.mod.nw := rfl
  rw [hnwq] at h20 h21 h22 h16 ⊢
  generalize hE : q.mod.es.map Me.d = E at *
  refine run_code (s := s25 5) rfl rfl rfl (by kernel_rfl) ?_
  simp [s25, eqCells, T3, T4, T5, T9, T22, T23, T25, T27, T28, T32, T34, T38, T40, T46, T49, T51, T54, T57, T65, T66, T72, T74, T76, T77, T79, T81, T87, T89, T90, T92, T101, T107, T109, T119, T125, T128, T130, T133, T140, T148, T150, T151, CT, CQ, QQ]
  refine wlp_inv2 (S := fun i : Nat => ⟨[(0, .ptr 0 0), (1, .ptr 2 0), (5, .vs 5 0 2 0 (wtsM (q.mod.es.take i)).length), (6, .vs 6 0 4 0 0), (18, .vs 1 0 8 0 q.mod.es.length), (19, .d (.int .i64 q.mod.es.length)), (20, .d (.int .i64 i))], [.box [.d (.int .i64 q.mod.la), .d (.int .i64 q.mod.lb), .d (.int .i64 q.mod.lc), .vs 1 0 8 0 q.mod.es.length, .d (.int .i64 q.mod.nx), .d (.int .i64 q.mod.sv), .d (.int .i64 q.mod.nw)], .vec 0 false false 101 8 E, .box [.d (.int .i64 q.la), .d (.int .i64 q.lb), .d (.int .i64 q.lc), .mp 3, .mp 4, .d (.int .i64 q.arr), .d (.int .i64 q.iss), .d (.int .i64 q.srv), .d (.int .i64 q.mod.nw)], .mapd M1 q.bs q.ck, .mapd M2 q.cs q.dk, .vec 0 true false 38 2 ((wtsM (q.mod.es.take i)).map iD), .vec 0 true false 40 4 []]⟩) (m := fun i => q.mod.es.length - i) (Inv := fun i => i ≤ q.mod.es.length) ?_ 0 (Nat.zero_le _) (by simp only [hwz]; rfl)
  rintro i hi ih
  rw [e25_1]
  by_cases hlti : i < q.mod.es.length
  · obtain ⟨l1, l2, -, -, hx⟩ := hg i hlti
    have hEi : i < E.length := by omega
    have hEe := (List.getElem?_eq_some_iff.1 hx).2
    have w1 : IntKind.i64.wrap ((i : Int) + 1) = (i : Int) + 1 := wrap64 (by omega) (by omega)
    have p1 : (i : Int) < q.mod.es.length := by omega
    have hwi := hw i hlti
    have ih2 := ih (i + 1) (by omega) (by omega)
    have hwi12 := hwl i
    have htk : ((wtsM (q.mod.es.take i)).map iD).take (wtsM (q.mod.es.take i)).length = (wtsM (q.mod.es.take i)).map iD := takeM _ _
    have hWW : ((wtsM (q.mod.es.take i)).map iD).length = (wtsM (q.mod.es.take i)).length := by simp
    have r1 : ((wtsM (q.mod.es.take i)).length + 1) * 16 ≤ 140737488355328 := by omega
    have r2 : (wtsM (q.mod.es.take i)).length + 1 ≤ 9223372036854775807 := by omega
    by_cases hc : q.mod.es[i].t.n = 0
    · rw [if_pos hc] at hwi
      have hmm : (wtsM (q.mod.es.take i) ++ [q.mod.es[i].iv]).map iD = (wtsM (q.mod.es.take i)).map iD ++ [.agg [.int .i64 q.mod.es[i].a, .int .i64 q.mod.es[i].s]] := by simp [iD, Me.iv]
      rw [hwi, hmm] at ih2
      have hz : szAll 2 [D.agg [.int .i64 q.mod.es[i].a, .int .i64 q.mod.es[i].s]] = true := rfl
      simp only [List.length_append, List.length_cons, List.length_nil, Nat.zero_add] at ih2
      clear ih hg hw hwa h21 h22 h16 h20 hfd hwl hLl hlt hLa hL1 hwg htg hwi hmm
      generalize q.mod.es[i] = y at *
      generalize (wtsM (q.mod.es.take i)).map iD = W at *
      generalize (wtsM (q.mod.es.take i)).length = k at *
      try simp at ih2
      simp [c25_1, eqCells, T3, T4, T5, T9, T22, T23, T25, T27, T28, T32, T34, T38, T40, T46, T49, T51, T54, T57, T65, T66, T72, T74, T76, T77, T79, T81, T87, T89, T90, T92, T101, T107, T109, T119, T125, T128, T130, T133, T140, T148, T150, T151, CT, CQ, QQ, hx, hEi, hEe, hEl, hc, p1, w1, hlti, htk, hWW, r1, r2, hz]
      exact ih2
    · rw [if_neg hc, List.append_nil] at hwi
      rw [hwi] at ih2
      clear ih hg hw hwa h21 h22 h16 h20 hfd hwl hLl hlt hLa hL1 hwg htg hwi
      generalize q.mod.es[i] = y at *
      generalize (wtsM (q.mod.es.take i)).map iD = W at *
      generalize (wtsM (q.mod.es.take i)).length = k at *
      try simp at ih2
      simp [c25_1, eqCells, T3, T4, T5, T9, T22, T23, T25, T27, T28, T32, T34, T38, T40, T46, T49, T51, T54, T57, T65, T66, T72, T74, T76, T77, T79, T81, T87, T89, T90, T92, T101, T107, T109, T119, T125, T128, T130, T133, T140, T148, T150, T151, CT, CQ, QQ, hx, hEi, hEe, hEl, hc, p1, w1, hlti]
      exact ih2
  have ei : i = q.mod.es.length := by omega
  subst ei
  rw [List.take_length, hwa]
  have hwt := takeM iD (wts q.es)
  generalize hW : (wts q.es).map iD = W at *
  generalize hk : (wts q.es).length = k at *
  clear ih
  simp [c25_1, eqCells, T3, T4, T5, T9, T22, T23, T25, T27, T28, T32, T34, T38, T40, T46, T49, T51, T54, T57, T65, T66, T72, T74, T76, T77, T79, T81, T87, T89, T90, T92, T101, T107, T109, T119, T125, T128, T130, T133, T140, T148, T150, T151, CT, CQ, QQ]
  refine wlp_inv2 (S := fun n : Nat => ⟨[(0, .ptr 0 0), (1, .ptr 2 0), (5, .vs 5 0 2 0 k), (6, .vs 6 0 4 0 (Ln q.ts n).length), (9, .d (.int .i64 n))], [.box [.d (.int .i64 q.mod.la), .d (.int .i64 q.mod.lb), .d (.int .i64 q.mod.lc), .vs 1 0 8 0 q.mod.es.length, .d (.int .i64 q.mod.nx), .d (.int .i64 q.mod.sv), .d (.int .i64 q.mod.nw)], .vec 0 false false 101 8 E, .box [.d (.int .i64 q.la), .d (.int .i64 q.lb), .d (.int .i64 q.lc), .mp 3, .mp 4, .d (.int .i64 q.arr), .d (.int .i64 q.iss), .d (.int .i64 q.srv), .d (.int .i64 q.mod.nw)], .mapd M1 q.bs q.ck, .mapd M2 q.cs q.dk, .vec 0 true false 38 2 W, .vec 0 true false 40 4 ((Ln q.ts n).map Tck.d)]⟩) (m := fun n => q.mod.nx.toNat - n) (Inv := fun n => 1 ≤ n ∧ (n : Int) ≤ q.mod.nx) ?_ 1 ⟨Nat.le_refl _, by omega⟩ (by simp only [Int.natCast_one, hL1]; rfl)
  rintro n ⟨hn1, hn2⟩ ih
  rw [e25_2]
  by_cases hltn : (n : Int) < q.mod.nx
  · have ih2 := ih (n + 1) ⟨by omega, by omega⟩ (by omega)
    have hfn := hfd n
    have w1 : IntKind.i64.wrap ((n : Int) + 1) = (n : Int) + 1 := wrap64 (by omega) (by omega)
    rw [Int.natCast_add, Int.natCast_one] at ih2
    have hLn := hLl n
    have htk : ((Ln q.ts n).map Tck.d).take (Ln q.ts n).length = (Ln q.ts n).map Tck.d := takeM _ _
    have hWW : ((Ln q.ts n).map Tck.d).length = (Ln q.ts n).length := by simp
    have r1 : ((Ln q.ts n).length + 1) * 32 ≤ 140737488355328 := by omega
    have r2 : (Ln q.ts n).length + 1 ≤ 9223372036854775807 := by omega
    rcases hlt n (by omega) with ⟨s1, s2⟩ | ⟨j, hj, s1, s2⟩
    · rw [s2] at ih2
      rw [s1] at hfn
      clear ih hg hw hwa h21 h22 h16 h20 hfd hwl hLl hlt hLa hL1 hwg htg
      generalize (Ln q.ts n).map Tck.d = L at *
      generalize (Ln q.ts n).length = ll at *
      try simp at ih2
      simp [c25_2, eqCells, T3, T4, T5, T9, T22, T23, T25, T27, T28, T32, T34, T38, T40, T46, T49, T51, T54, T57, T65, T66, T72, T74, T76, T77, T79, T81, T87, T89, T90, T92, T101, T107, T109, T119, T125, T128, T130, T133, T140, T148, T150, T151, CT, CQ, QQ, hltn, hfn, w1]
      exact ih2
    · obtain ⟨l1, l2, -, -, hx⟩ := hg j hj
      have hEi : j < E.length := by omega
      have hEe := (List.getElem?_eq_some_iff.1 hx).2
      have p2 : (j : Int) < q.mod.es.length := by omega
      have p3 : ¬ (j : Int) < 0 := by omega
      have hmm : (Ln q.ts n ++ [q.mod.es[j].t]).map Tck.d = (Ln q.ts n).map Tck.d ++ [.agg [.int .i64 q.mod.es[j].t.n, .int .i64 q.mod.es[j].t.a, .int .i64 q.mod.es[j].t.s, .int .i64 q.mod.es[j].t.u]] := by simp [Tck.d]
      have hz : szAll 4 [D.agg [.int .i64 q.mod.es[j].t.n, .int .i64 q.mod.es[j].t.a, .int .i64 q.mod.es[j].t.s, .int .i64 q.mod.es[j].t.u]] = true := rfl
      rw [s2, hmm] at ih2
      rw [s1] at hfn
      simp only [List.length_append, List.length_cons, List.length_nil, Nat.zero_add] at ih2
      clear ih hg hw hwa h21 h22 h16 h20 hfd hwl hLl hlt hLa hL1 hwg htg hmm
      generalize q.mod.es[j] = y at *
      generalize (Ln q.ts n).map Tck.d = L at *
      generalize (Ln q.ts n).length = ll at *
      try simp at ih2
      simp [c25_2, eqCells, T3, T4, T5, T9, T22, T23, T25, T27, T28, T32, T34, T38, T40, T46, T49, T51, T54, T57, T65, T66, T72, T74, T76, T77, T79, T81, T87, T89, T90, T92, T101, T107, T109, T119, T125, T128, T130, T133, T140, T148, T150, T151, CT, CQ, QQ, hltn, hfn, w1, hx, hEi, hEe, hEl, hj, p2, p3, htk, hWW, r1, r2, hz]
      exact ih2
  have en : (n : Int) = q.mod.nx := by omega
  rw [en, hLa]
  have htt := takeM Tck.d q.ts
  generalize hT : q.ts.map Tck.d = T at *
  generalize htn : q.ts.length = tn at *
  clear ih hg hw hfd hwl hLl hlt hLa hL1
  have q1 : ¬ q.mod.nx < q.mod.nx := by omega
  simp [c25_2, eqCells, T3, T4, T5, T9, T22, T23, T25, T27, T28, T32, T34, T38, T40, T46, T49, T51, T54, T57, T65, T66, T72, T74, T76, T77, T79, T81, T87, T89, T90, T92, T101, T107, T109, T119, T125, T128, T130, T133, T140, T148, T150, T151, CT, CQ, QQ, List.lookup, h21, h22, h16, h20, hWl, hTl, htt, hwt]
  refine wlp_inv (S := fun i : Nat => ⟨[(5, .vs 5 0 2 0 k), (6, .vs 6 0 4 0 tn), (11, .d (.sl W)), (12, .d (.sl T)), (99, .d (.int .i64 k)), (100, .d (.int .i64 i))], [.box [.d (.int .i64 q.mod.la), .d (.int .i64 q.mod.lb), .d (.int .i64 q.mod.lc), .vs 1 0 8 0 q.mod.es.length, .d (.int .i64 q.mod.nx), .d (.int .i64 q.mod.sv), .d (.int .i64 q.mod.nw)], .vec 0 false false 101 8 E, .box [.d (.int .i64 q.la), .d (.int .i64 q.lb), .d (.int .i64 q.lc), .mp 3, .mp 4, .d (.int .i64 q.arr), .d (.int .i64 q.iss), .d (.int .i64 q.srv), .d (.int .i64 q.mod.nw)], .mapd M1 q.bs q.ck, .mapd M2 q.cs q.dk, .vec 0 true false 38 2 W, .vec 0 true false 40 4 T, .dead]⟩) (m := fun i => k - i) (Inv := fun i => i ≤ k) ?_ 0 (Nat.zero_le _)
  rintro i hi ih
  rw [e25_3]
  by_cases hlt3 : i < k
  · obtain ⟨y, hx⟩ := hwg i hlt3
    have ih2 := ih (i + 1) (by omega) (by omega)
    have w1 : IntKind.i64.wrap ((i : Int) + 1) = (i : Int) + 1 := wrap64 (by omega) (by omega)
    have p1 : (i : Int) < k := by omega
    have hEe := (List.getElem?_eq_some_iff.1 hx).2
    have hWi : i < W.length := by omega
    clear ih hwg htg
    try simp at ih2
    simp [c25_3, eqCells, T3, T4, T5, T9, T22, T23, T25, T27, T28, T32, T34, T38, T40, T46, T49, T51, T54, T57, T65, T66, T72, T74, T76, T77, T79, T81, T87, T89, T90, T92, T101, T107, T109, T119, T125, T128, T130, T133, T140, T148, T150, T151, CT, CQ, QQ, hx, hEe, w1, p1, hlt3, hWl, hWi]
    exact ih2
  have ei : i = k := by omega
  subst ei
  clear ih hwg
  simp [c25_3, eqCells, T3, T4, T5, T9, T22, T23, T25, T27, T28, T32, T34, T38, T40, T46, T49, T51, T54, T57, T65, T66, T72, T74, T76, T77, T79, T81, T87, T89, T90, T92, T101, T107, T109, T119, T125, T128, T130, T133, T140, T148, T150, T151, CT, CQ, QQ, hTl]
  refine wlp_inv (S := fun i : Nat => ⟨[(6, .vs 6 0 4 0 tn), (12, .d (.sl T)), (114, .d (.int .i64 tn)), (115, .d (.int .i64 i))], [.box [.d (.int .i64 q.mod.la), .d (.int .i64 q.mod.lb), .d (.int .i64 q.mod.lc), .vs 1 0 8 0 q.mod.es.length, .d (.int .i64 q.mod.nx), .d (.int .i64 q.mod.sv), .d (.int .i64 q.mod.nw)], .vec 0 false false 101 8 E, .box [.d (.int .i64 q.la), .d (.int .i64 q.lb), .d (.int .i64 q.lc), .mp 3, .mp 4, .d (.int .i64 q.arr), .d (.int .i64 q.iss), .d (.int .i64 q.srv), .d (.int .i64 q.mod.nw)], .mapd M1 q.bs q.ck, .mapd M2 q.cs q.dk, .dead, .vec 0 true false 40 4 T, .dead]⟩) (m := fun i => tn - i) (Inv := fun i => i ≤ tn) ?_ 0 (Nat.zero_le _)
  rintro j hj ih
  rw [e25_4]
  by_cases hlt4 : j < tn
  · obtain ⟨y, hx⟩ := htg j hlt4
    have ih2 := ih (j + 1) (by omega) (by omega)
    have w1 : IntKind.i64.wrap ((j : Int) + 1) = (j : Int) + 1 := wrap64 (by omega) (by omega)
    have p1 : (j : Int) < tn := by omega
    have hEe := (List.getElem?_eq_some_iff.1 hx).2
    have hTi : j < T.length := by omega
    clear ih htg
    try simp at ih2
    simp [c25_4, eqCells, T3, T4, T5, T9, T22, T23, T25, T27, T28, T32, T34, T38, T40, T46, T49, T51, T54, T57, T65, T66, T72, T74, T76, T77, T79, T81, T87, T89, T90, T92, T101, T107, T109, T119, T125, T128, T130, T133, T140, T148, T150, T151, CT, CQ, QQ, hx, hEe, w1, p1, hlt4, hTl, hTi]
    exact ih2
  have ej : j = tn := by omega
  subst ej
  clear ih htg
  simp [c25_4, eqCells, T3, T4, T5, T9, T22, T23, T25, T27, T28, T32, T34, T38, T40, T46, T49, T51, T54, T57, T65, T66, T72, T74, T76, T77, T79, T81, T87, T89, T90, T92, T101, T107, T109, T119, T125, T128, T130, T133, T140, T148, T150, T151, CT, CQ, QQ, hTl]
end Go.Proofs.YtdgpipoffcajgaaV
