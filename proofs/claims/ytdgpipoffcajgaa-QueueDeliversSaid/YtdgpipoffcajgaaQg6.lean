/- The law QueueDelivers: plain parts and the walk. -/
import Derived.Test.YtdgpipoffcajgaaQg3
set_option linter.unusedVariables false
set_option linter.unusedSimpArgs false
namespace Go.Proofs.YtdgpipoffcajgaaV
open Go.RowKit
attribute [local simp] TK.agg constAV evalAV EK.has EK.hasAll vecEls elsR AV.toD toDs AV.cells AV.one joinD TyI.zeroD OpR.of binIntF binStrF AV.isPtr ptrNil slNil mpNil nilE eqF negF posF binF pelF pvLoad pelSet pvStore boxLoad epLoad loadF boxStore storeF fieldAddrF fieldF epOf indexAddrF byteF indexF mapLen lenF cutF sliceF sliceN sliceX isSl slice3F fillF fillV arrFs buildF partsX landV buildSliceF roomB appVec appendF appMkF capF mmFrom mmF max2' min2' clearVec clearF convF unF pickF nilChkF extF ptrsOf callF makeSliceF sameKs sameD kindIs plainFs keyOk mapOb mapEs okV lookF lookupF putE putS mapPut mapUpdateF mapDel deleteF mapAll rangeM rangeF overV hitV nextO nextF entryM entryO entryF itOids builtinF capsOf allocF boxF bytesL bytesF byteTy strTy convertF makeFuncF mapNew makeMapF makeMapH opF reach reachOf AObj.live closedB nodupB packO packL packX backN backG backO obL backE frzX frzO AV.vids frzL landC sameObs landR touchF bitsW D.cells D.decEq D.decEqs AV.decEq AV.decEqs AObj.decEq AV.oids0 AV.oids AObj.oids renG renP AV.ren0 AV.ren envGet envPut envKeep obGet setEff putV St.put stepS keyChk chkD accD Ex.block AV.under AObj.under laysOf roomFor mkvO frzG szOk killO usedBy tidyS canL canS ghost ghostE normSt resOf allSome one0 resultsF finL finishL finish endF startEnv chkC backX comeC AV.flat0 rngC loopO layL endLp busyL idleL noRng rndSt rndEnd wpn_nil wpn_seq wpn_loop wpn_seq_exit wpn_loop_exit wpn_seq_ret wpn_loop_ret wpn_block wpn_post wpk_skip wpk_exit wpk_ret wpk_reg wpk_seq wpk_condT wpk_block wpk_loop wpk_pre wpk_post wop_nil wop_cons wop_guard St.know envSet cond_d cond_bool cond_int cond_str endE endQ freeB disj pushT bitsW int_beq int_bne eqS_def tbE fuelL_eq ann0_lays ann0_dd ann0_ro elsOf_dsl elsOf_dnils toNat_succ nn_succ pos_succ one_succ rng1 rng2 rng3 rng4 rng5 rng6 rng7 rng8 List.idxOf_cons wpk_rng rndK rndE
theorem expQ_ts_sub : ∀ (l : List Tck) (p : Qs) (u : Tck), u ∈ (expQ p l).ts → u ∈ p.ts ∧ ∀ t ∈ l, u.n ≠ t.n
  | [], p, u, h => ⟨h, fun t ht => by cases ht⟩
  | t :: l, p, u, h => by
    obtain ⟨h1, h2⟩ := expQ_ts_sub l (relQ p t.n) u h
    obtain ⟨h3, h4⟩ := List.mem_filter.1 h1
    refine ⟨h3, fun x hx => ?_⟩
    rcases List.mem_cons.1 hx with rfl | hx
    · simpa using h4
    · exact h2 x hx
theorem expQ_all (p : Qs) : (expQ p p.ts).ts = [] := by
  cases h : (expQ p p.ts).ts with
  | nil => rfl
  | cons u l =>
    obtain ⟨h1, h2⟩ := expQ_ts_sub p.ts p u (by rw [h]; simp)
    exact absurd rfl (h2 u h1)
theorem tk_zero {q : Qs} (h : q.wl) (ht : q.ts = []) : ∀ e ∈ q.es, e.tk = 0 := fun e he => by
  by_cases hz : e.tk = 0
  · exact hz
  · obtain ⟨t, h1, -⟩ := h.kt e he hz
    rw [ht] at h1; cases h1
theorem wts_all {q : Qs} (h : q.wl) (ht : q.ts = []) : wts q.es = q.es.map Ent.iv := by
  unfold wts idsW
  rw [List.filter_eq_self.2 fun e he => by simpa using tk_zero h ht e he]
/-- While what is left is delivered. -/
structure dlvI (C en : Int) (left : List Iv) (Q : Qs) : Prop where
  wl : Q.wl
  iss : Q.iss + left.length ≤ 200
  ts : Q.ts = []
  es : Q.es.map Ent.iv = left
  now : Q.now ≤ en
  lc : Q.lc = C
theorem dlv_next {C en : Int} {left : List Iv} {Q : Qs} (h : dlvI C en left Q) (hne : left ≠ []) (hen : 0 ≤ en ∧ en < 1000000) :
    ∃ pre e post, Q.es = pre ++ e :: post ∧ e.tk = 0 ∧ nextI Q.srv (wts Q.es) = some e.iv ∧ (∀ x ∈ pre, x.a ≠ e.a) ∧ left = pre.map Ent.iv ++ e.iv :: post.map Ent.iv ∧ dlvI C en (pre.map Ent.iv ++ post.map Ent.iv) ((Q.lea pre e post en).ack pre post [] []) := by
  have hw := wts_all h.wl h.ts
  cases hnx : nextI Q.srv (wts Q.es) with
  | none =>
    have := nextI_none hnx
    rw [hw, h.es] at this
    exact absurd this hne
  | some x =>
    obtain ⟨p1, p2, h1, h2, -⟩ := nextI_spec hnx
    rw [hw] at h1
    obtain ⟨pre, l2, hs, e1, e2⟩ := List.map_eq_append_iff.1 h1
    obtain ⟨e, post, rfl, rfl, e3⟩ := List.map_eq_cons_iff.1 e2
    have htk : e.tk = 0 := tk_zero h.wl h.ts e (by rw [hs]; simp)
    have hi := h.iss
    have hn := h.wl.n0
    have hl := lea_wl h.wl hs htk (now := en) ⟨by omega, by omega⟩ (by omega) h.now
    have hpz : ∀ x ∈ pre, x.tk ≠ Q.iss + 1 := fun x hx => by
      have := tk_zero h.wl h.ts x (by rw [hs]; simp [hx])
      have := h.wl.i0; omega
    have hqz : ∀ x ∈ post, x.tk ≠ Q.iss + 1 := fun x hx => by
      have := tk_zero h.wl h.ts x (by rw [hs]; simp [hx])
      have := h.wl.i0; omega
    have ha := ack_wl (q := Q.lea pre e post en) (pre := pre) (post := post) (e := e.t (Q.iss + 1)) (tpre := []) (tpost := []) (t := ⟨Q.iss + 1, e.a, e.s, en + Q.lc⟩) hl rfl (by show Q.ts ++ [_] = _; rw [h.ts]) rfl hpz hqz (fun x hx => by cases hx) fun x hx => by cases hx
    have hle : left = pre.map Ent.iv ++ e.iv :: post.map Ent.iv := by rw [← h.es, hs, List.map_append, List.map_cons]
    refine ⟨pre, e, post, hs, htk, rfl, fun x hx he => ?_, hle, ha, ?_, rfl, ?_, Int.le_refl _, h.lc⟩
    · have := h2 x.iv (by rw [← e1]; exact List.mem_map.2 ⟨x, hx, rfl⟩)
      have hh : x.iv.1 = e.iv.1 := he
      rw [hh] at this
      omega
    · rw [hle] at hi
      show Q.iss + 1 + _ ≤ 200
      simp at hi ⊢
      omega
    · show (pre ++ post).map Ent.iv = _
      rw [List.map_append]
theorem iD_get' (l : List Iv) {j : Nat} (hj : j < l.length) : (l.map iD)[j]? = some (.agg [.int .i64 l[j].1, .int .i64 l[j].2]) := by simp [hj, iD]
set_option maxRecDepth 100000 in
set_option maxHeartbeats 4000000 in
theorem loop7_3 (left : List Iv) (hll : left.length ≤ 100) (J : Nat) (hJ : J < left.length) (ag : Int) (hbef : ∀ j (hj : j < left.length), j < J → left[j].1 ≠ ag) (hat : left[J].1 = ag) (a b c : D) (Q : Qs) (sq : Int) (S X : D) (t1 t2 t3 t4 : Int) (en nn : Int) (ks : List Fr) (K : Ex → St → Prop)
    (hnext : wpn CC .norm ⟨[(2, .ptr 0 0), (5, .ptr 1 0), (9, .d (.int .i64 en)), (12, .d (.sl (left.map iD))), (13, .d (.int .i64 nn)), (14, .ptr 7 0), (17, .d (.int .i64 J))], [.box [.d a, .d b, .d c]] ++ Q.obk 1 ++ [.dead, .dead, .dead, .box [.d (.int .i64 t1), .d (.int .i64 t2), .d (.int .i64 t3), .d (.int .i64 t4)], .dead]⟩ ks K) :
    wlp CC (s7_3 0) ⟨[(2, .ptr 0 0), (5, .ptr 1 0), (9, .d (.int .i64 en)), (12, .d (.sl (left.map iD))), (13, .d (.int .i64 nn)), (14, .ptr 7 0), (15, .ptr 8 0), (17, .d (.int .i64 (-1))), (18, .d (.int .i64 0))], [.box [.d a, .d b, .d c]] ++ Q.obk 1 ++ [.dead, .dead, .dead, .box [.d (.int .i64 t1), .d (.int .i64 t2), .d (.int .i64 t3), .d (.int .i64 t4)], .box [.d (.int .i64 ag), .d (.int .i64 sq), .d S, .d X]]⟩ (.block 4 :: .post (.tidy [2, 5, 9, 12, 13, 14, 17] 0 9) :: .post (.tidy [2, 5, 9, 12, 13, 14, 17] 0 9) :: ks) K := by
  have hg := fun j hj => iD_get' left (j := j) hj
  have hl : (left.map iD).length = left.length := by simp
  generalize hE : left.map iD = E at *
  simp only [Qs.obk] at hnext ⊢
  generalize Q.es.map Ent.p = M1 at *
  generalize Q.ts.map Tck.p = M2 at *
  simp at hnext
  refine wlp_inv2 (S := fun p : Nat × Bool => ⟨[(2, .ptr 0 0), (5, .ptr 1 0), (9, .d (.int .i64 en)), (12, .d (.sl E)), (13, .d (.int .i64 nn)), (14, .ptr 7 0), (15, .ptr 8 0), (17, .d (.int .i64 (if p.2 = true then (J : Int) else -1))), (18, .d (.int .i64 p.1))], [.box [.d a, .d b, .d c], .box [.d (.int .i64 Q.la), .d (.int .i64 Q.lb), .d (.int .i64 Q.lc), .mp 2, .mp 3, .d (.int .i64 Q.arr), .d (.int .i64 Q.iss), .d (.int .i64 Q.srv), .d (.int .i64 Q.now)], .mapd M1 Q.bs Q.ck, .mapd M2 Q.cs Q.dk, .dead, .dead, .dead, .box [.d (.int .i64 t1), .d (.int .i64 t2), .d (.int .i64 t3), .d (.int .i64 t4)], .box [.d (.int .i64 ag), .d (.int .i64 sq), .d S, .d X]]⟩) (m := fun p => left.length - p.1) (Inv := fun p => (p.1 ≤ J ∧ p.2 = false) ∨ (p.1 = J + 1 ∧ p.2 = true)) ?_ (0, false) (.inl ⟨Nat.zero_le _, rfl⟩) rfl
  rintro ⟨i, f⟩ hinv ih
  rw [e7_3]
  simp only at hinv ⊢
  have w1 : IntKind.i64.wrap ((i : Int) + 1) = (i : Int) + 1 := wrap64 (by omega) (by omega)
  rcases hinv with ⟨hi, rfl⟩ | ⟨rfl, rfl⟩
  · have hlt : i < left.length := by omega
    have hx := hg i hlt
    have hEe := (List.getElem?_eq_some_iff.1 hx).2
    have p1 : (i : Int) < left.length := by omega
    have hEi : i < E.length := by omega
    by_cases hc : i = J
    · subst hc
      have ih2 := ih (i + 1, true) (.inr ⟨rfl, rfl⟩) (by simp only; omega)
      clear ih hg hbef
      generalize left[i] = y at *
      simp at ih2
      simp [c7_3, eqCells, T3, T4, T5, T9, T22, T23, T25, T27, T28, T32, T34, T38, T40, T46, T49, T51, T54, T57, T65, T66, T72, T74, T76, T77, T79, T81, T87, T89, T90, T92, T101, T107, T109, T119, T125, T128, T130, T133, T140, T148, T150, T151, CT, CQ, QQ, hl, hx, hEe, hEi, p1, w1, hlt, hat]
      exact ih2
    · have ih2 := ih (i + 1, false) (.inl ⟨by simp only; omega, rfl⟩) (by simp only; omega)
      have hne := hbef i hlt (by omega)
      clear ih hg hbef hat
      generalize left[i] = y at *
      simp at ih2
      simp [c7_3, eqCells, T3, T4, T5, T9, T22, T23, T25, T27, T28, T32, T34, T38, T40, T46, T49, T51, T54, T57, T65, T66, T72, T74, T76, T77, T79, T81, T87, T89, T90, T92, T101, T107, T109, T119, T125, T128, T130, T133, T140, T148, T150, T151, CT, CQ, QQ, hl, hx, hEe, hEi, p1, w1, hlt, hne]
      exact ih2
  · clear ih hg hbef
    have p3 : ¬ (J : Int) < 0 := by omega
    by_cases p2 : (J : Int) + 1 < left.length
    · simp [c7_3, eqCells, T3, T4, T5, T9, T22, T23, T25, T27, T28, T32, T34, T38, T40, T46, T49, T51, T54, T57, T65, T66, T72, T74, T76, T77, T79, T81, T87, T89, T90, T92, T101, T107, T109, T119, T125, T128, T130, T133, T140, T148, T150, T151, CT, CQ, QQ, hl, p2, p3]
      exact hnext
    · simp [c7_3, eqCells, T3, T4, T5, T9, T22, T23, T25, T27, T28, T32, T34, T38, T40, T46, T49, T51, T54, T57, T65, T66, T72, T74, T76, T77, T79, T81, T87, T89, T90, T92, T101, T107, T109, T119, T125, T128, T130, T133, T140, T148, T150, T151, CT, CQ, QQ, hl, p2, p3]
      exact hnext
end Go.Proofs.YtdgpipoffcajgaaV
