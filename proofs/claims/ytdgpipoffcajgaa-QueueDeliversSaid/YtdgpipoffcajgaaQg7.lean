/- The law QueueDelivers: the walk. -/
import Derived.Test.YtdgpipoffcajgaaQg6
set_option linter.unusedVariables false
set_option linter.unusedSimpArgs false
namespace Go.Proofs.YtdgpipoffcajgaaV
open Go.RowKit
attribute [local simp] TK.agg constAV evalAV EK.has EK.hasAll vecEls elsR AV.toD toDs AV.cells AV.one joinD TyI.zeroD OpR.of binIntF binStrF AV.isPtr ptrNil slNil mpNil nilE eqF negF posF binF pelF pvLoad pelSet pvStore boxLoad epLoad loadF boxStore storeF fieldAddrF fieldF epOf indexAddrF byteF indexF mapLen lenF cutF sliceF sliceN sliceX isSl slice3F fillF fillV arrFs buildF partsX landV buildSliceF roomB appVec appendF appMkF capF mmFrom mmF max2' min2' clearVec clearF convF unF pickF nilChkF extF ptrsOf callF makeSliceF sameKs sameD kindIs plainFs keyOk mapOb mapEs okV lookF lookupF putE putS mapPut mapUpdateF mapDel deleteF mapAll rangeM rangeF overV hitV nextO nextF entryM entryO entryF itOids builtinF capsOf allocF boxF bytesL bytesF byteTy strTy convertF makeFuncF mapNew makeMapF makeMapH opF reach reachOf AObj.live closedB nodupB packO packL packX backN backG backO obL backE frzX frzO AV.vids frzL landC sameObs landR touchF bitsW D.cells D.decEq D.decEqs AV.decEq AV.decEqs AObj.decEq AV.oids0 AV.oids AObj.oids renG renP AV.ren0 AV.ren envGet envPut envKeep obGet setEff putV St.put stepS keyChk chkD accD Ex.block AV.under AObj.under laysOf roomFor mkvO frzG szOk killO usedBy tidyS canL canS ghost ghostE normSt resOf allSome one0 resultsF finL finishL finish endF startEnv chkC backX comeC AV.flat0 rngC loopO layL endLp busyL idleL noRng rndSt rndEnd wpn_nil wpn_seq wpn_loop wpn_seq_exit wpn_loop_exit wpn_seq_ret wpn_loop_ret wpn_block wpn_post wpk_skip wpk_exit wpk_ret wpk_reg wpk_seq wpk_condT wpk_block wpk_loop wpk_pre wpk_post wop_nil wop_cons wop_guard St.know envSet cond_d cond_bool cond_int cond_str endE endQ freeB disj pushT bitsW int_beq int_bne eqS_def tbE fuelL_eq ann0_lays ann0_dd ann0_ro elsOf_dsl elsOf_dnils toNat_succ nn_succ pos_succ one_succ rng1 rng2 rng3 rng4 rng5 rng6 rng7 rng8 List.idxOf_cons wpk_rng rndK rndE
theorem get_at (A : List Iv) (x : Iv) (B : List Iv) : (A ++ x :: B)[A.length]'(by simp) = x := by simp
set_option maxRecDepth 100000 in
set_option maxHeartbeats 16000000 in
theorem loop7_2 (A B C en : Int) (a b c : Nat) (h23 : run CC 23 [.d (.agg [.int .u8 a, .int .u8 b, .int .u8 c])] [] = some (.d (.agg [.int .i64 A, .int .i64 B, .int .i64 C]), [])) (hen : 0 ≤ en ∧ en < 1000000) (Q0 : Qs) (left0 : List Iv) (h0 : dlvI C en left0 Q0) (hl0 : left0.length ≤ 100) (ks : List Fr) (K : Ex → St → Prop)
    (hnext : ∀ Q : Qs, dlvI C en [] Q → wpn CC .norm ⟨[(5, .ptr 1 0), (9, .d (.int .i64 en)), (12, .d (.sl []))], [.dead] ++ Q.obk 1 ++ [.dead, .dead, .dead]⟩ ks K) :
    wlp CC (s7_2 0) ⟨[(2, .ptr 0 0), (5, .ptr 1 0), (9, .d (.int .i64 en)), (12, .d (.sl (left0.map iD))), (13, .d (.int .i64 left0.length))], [.box [.d (.int .u8 a), .d (.int .u8 b), .d (.int .u8 c)]] ++ Q0.obk 1 ++ [.dead, .dead, .dead]⟩ (.block 2 :: .post (.tidy [5, 9, 12] 0 7) :: .post (.tidy [5, 9, 12] 0 7) :: ks) K := by
  refine wlp_inv2 (S := fun p : List Iv × Qs => ⟨[(2, .ptr 0 0), (5, .ptr 1 0), (9, .d (.int .i64 en)), (12, .d (.sl (p.1.map iD))), (13, .d (.int .i64 p.1.length))], [.box [.d (.int .u8 a), .d (.int .u8 b), .d (.int .u8 c)]] ++ p.2.obk 1 ++ [.dead, .dead, .dead]⟩) (m := fun p => p.1.length) (Inv := fun p => p.1.length ≤ 100 ∧ dlvI C en p.1 p.2) ?_ (left0, Q0) ⟨hl0, h0⟩ rfl
  rintro ⟨left, Q⟩ ⟨hl, hI⟩ ih
  rw [e7_2]
  simp only at hl hI ⊢
  cases left with
  | nil =>
    have hn := hnext Q hI
    clear ih hnext
    simp only [Qs.obk] at hn ⊢
    generalize Q.es.map Ent.p = M1 at *
    generalize Q.ts.map Tck.p = M2 at *
    simp at hn
    simp [c7_2, eqCells, T3, T4, T5, T9, T22, T23, T25, T27, T28, T32, T34, T38, T40, T46, T49, T51, T54, T57, T65, T66, T72, T74, T76, T77, T79, T81, T87, T89, T90, T92, T101, T107, T109, T119, T125, T128, T130, T133, T140, T148, T150, T151, CT, CQ, QQ]
    exact hn
  | cons x0 tl =>
    obtain ⟨pre, e, post, hs, htk, hnx, hag, hle, hI2⟩ := dlv_next hI (by simp) hen
    have hW := hI.wl
    have hiss := hI.iss
    have hi0 := hW.i0
    have hlc := hI.lc
    have hnow := hI.now
    have hll0 := hW.l0
    obtain ⟨SA, SB, hS, hX⟩ := hW.fr e (by rw [hs]; simp)
    have h17 := lease17_ok Q hW.ok hW.es hW.rng hW.fr en (by omega) (by omega) pre post e hs hnx (by omega) (by omega) ⟨hW.i0.1, by omega⟩ fun t ht => (hW.tn t ht).2
    have hn0 := hW.n0
    have hlw := lea_wl hW hs htk (now := en) ⟨by omega, by omega⟩ (by omega) hI.now
    have h27 := ack27_ok (Q.lea pre e post en) hlw.es.ids hlw.asc pre post (e.t (Q.iss + 1)) rfl [] [] ⟨Q.iss + 1, e.a, e.s, en + Q.lc⟩ (by show Q.ts ++ [_] = _; rw [hI.ts]) ⟨rfl, rfl⟩
    obtain ⟨N, hN⟩ : ∃ N, N = pre.length + (post.length + 1) := ⟨_, rfl⟩
    have hlen : (x0 :: tl).length = N := by rw [hN, hle]; simp
    have hJ : pre.length < (x0 :: tl).length := by omega
    have hJl : (x0 :: tl)[pre.length]'hJ = e.iv := by
      have : ∀ (l : List Iv) (h : pre.length < l.length), l = pre.map Ent.iv ++ e.iv :: post.map Ent.iv → l[pre.length] = e.iv := fun l h e' => by subst e'; simp
      exact this _ _ hle
    have h73 := fun (sq : Int) (S X : D) (t1 t2 t3 t4 nn : Int) (ks : List Fr) (K : Ex → St → Prop) => loop7_3 (x0 :: tl) hl pre.length hJ e.a (fun j hj hjp => by
      have : ∀ (l : List Iv) (h : j < l.length), l = pre.map Ent.iv ++ e.iv :: post.map Ent.iv → l[j] = (pre[j]).iv := fun l h e' => by subst e'; simp [hjp]
      rw [this _ _ hle]
      exact hag _ (List.getElem_mem hjp)) (by rw [hJl]; rfl) (.int .u8 a) (.int .u8 b) (.int .u8 c) ((Q.lea pre e post en).ack pre post [] []) sq S X t1 t2 t3 t4 en nn ks K
    have hl2 : (pre.map Ent.iv ++ post.map Ent.iv).length = pre.length + post.length := by simp
    have ih2 := ih (pre.map Ent.iv ++ post.map Ent.iv, (Q.lea pre e post en).ack pre post [] []) ⟨by simp only; omega, hI2⟩ (by simp only; omega)
    have hgJ : ((x0 :: tl).map iD)[pre.length]? = some (.agg [.int .i64 e.a, .int .i64 e.s]) := by
      rw [iD_get' _ hJ, hJl]; rfl
    have htd : ((x0 :: tl).map iD).take pre.length ++ ((x0 :: tl).map iD).drop (pre.length + 1) = (pre.map Ent.iv ++ post.map Ent.iv).map iD := by
      rw [hle, List.map_append, List.map_cons]
      have := take_mid ((pre.map Ent.iv).map iD) (iD e.iv) ((post.map Ent.iv).map iD) (n := pre.length) (by simp)
      rw [this, List.map_append]
    have hz1 : szAll 2 (((x0 :: tl).map iD).take pre.length) = true := by rw [← List.map_take]; exact sz_iD _
    have hz2 : szAll 2 (((x0 :: tl).map iD).drop (pre.length + 1)) = true := by rw [← List.map_drop]; exact sz_iD _
    have hz0 : szAll 2 ((x0 :: tl).map iD) = true := sz_iD _
    have htl : (((x0 :: tl).map iD).take pre.length).length = pre.length := by simp at hlen ⊢; omega
    have hdl : (((x0 :: tl).map iD).drop (pre.length + 1)).length = post.length := by simp at hlen ⊢; omega
    have hEl : ((x0 :: tl).map iD).length = N := by rw [List.length_map, hlen]
    have w1 : IntKind.i64.wrap ((N : Int) - 1) = ((pre.length + post.length : Nat) : Int) := by
      rw [wrap64 (by omega) (by omega)]; omega
    have w2 : IntKind.i64.wrap ((pre.length : Int) + 1) = ((pre.length + 1 : Nat) : Int) := by rw [wrap64 (by omega) (by omega)]; omega
    have w3 : IntKind.i64.wrap (en + C) = en + Q.lc := by rw [hlc]; exact wrap64 (by omega) (by omega)
    simp only [Tck.d, Ent.f, hS, hX] at h17
    clear ih hnext h0 hag hs hnx hI hI2 hlw hle
    generalize (Q.lea pre e post en).ack pre post [] [] = Q3 at *
    generalize Q.lea pre e post en = Q2 at *
    generalize (pre.map Ent.iv ++ post.map Ent.iv).map iD = E2 at *
    simp only [hlen, hl2] at h73 ih2 ⊢
    generalize (x0 :: tl).map iD = E at *
    generalize hpl : pre.length = J at *
    generalize hql : post.length = R at *
    obtain ⟨hJ1, hJ2⟩ := List.getElem?_eq_some_iff.1 hgJ
    have p1' : (0 : Int) < (N : Int) := by omega
    have p2 : ¬ (J : Int) < 0 := by omega
    have p3 : (J : Int) ≤ (N : Int) := by omega
    have p4 : ((J + 1 : Nat) : Int) ≤ (N : Int) := by omega
    have p5 : J ≤ N := by omega
    have p6 : (J : Int) < (N : Int) := by omega
    have p7 : J + 1 ≤ N := by omega
    have p8 : J < N := by omega
    have r1 : J * 16 ≤ 140737488355328 := by omega
    have r2 : J ≤ 9223372036854775807 := by omega
    have r3 : (J + R) * 16 ≤ 140737488355328 := by omega
    have r4 : J + R ≤ 9223372036854775807 := by omega
    have p10 : 0 < N := by omega
    have n3 : N - (J + 1) = R := by omega
    have p9 : (J : Int) + 1 ≤ N := by omega
    have n4 : ((J : Int) + 1).toNat = J + 1 := by omega
    have hE2l : E2.length ≤ J + R := by rw [← htd, List.length_append]; omega
    have tt : List.take (J + R) (List.take J (List.take J E) ++ List.drop (J + 1) E) = E2 := by rw [List.take_take, Nat.min_self, htd]; exact List.take_of_length_le hE2l
    have hEt : E.take N = E := List.take_of_length_le (by omega)
    simp only [Qs.obk, Qs.obs] at h17 h27 h73 ih2 ⊢
    generalize Q.es.map Ent.p = M1 at *
    generalize Q.ts.map Tck.p = M2 at *
    generalize Q2.es.map Ent.p = M3 at *
    generalize Q2.ts.map Tck.p = M4 at *
    generalize Q3.es.map Ent.p = M5 at *
    generalize Q3.ts.map Tck.p = M6 at *
    generalize spD SA SB = S at *
    generalize exD SA = X at *
    generalize ((J + R : Nat) : Int) = n2 at *
    simp at ih2 h73
    simp [c7_2, eqCells, T3, T4, T5, T9, T22, T23, T25, T27, T28, T32, T34, T38, T40, T46, T49, T51, T54, T57, T65, T66, T72, T74, T76, T77, T79, T81, T87, T89, T90, T92, T101, T107, T109, T119, T125, T128, T130, T133, T140, T148, T150, T151, CT, CQ, QQ, h17, h27, h23, w1, w3, p1', p10]
    refine h73 _ _ _ _ _ _ _ _ _ _ ?_
    simp [eqCells, T3, T4, T5, T9, T22, T23, T25, T27, T28, T32, T34, T38, T40, T46, T49, T51, T54, T57, T65, T66, T72, T74, T76, T77, T79, T81, T87, T89, T90, T92, T101, T107, T109, T119, T125, T128, T130, T133, T140, T148, T150, T151, CT, CQ, QQ, hgJ, hJ1, hJ2, hEl, w1, w2, p2, p3, p4, p5, p6, p7, p8, hz0, hz1, hz2, htl, hdl, r1, r2, r3, r4, htd, hEt, tt, n3, p9, n4]
    exact ih2
set_option maxRecDepth 100000 in
set_option maxHeartbeats 16000000 in
theorem law7_run (a b c : Nat) (O : D) (ops : List Opr) (hO : elsOf (.d O) = some (ops.map Opr.d)) : run CC 7 [.d (.agg [.int .u8 a, .int .u8 b, .int .u8 c]), .d O] [] = some (.d (.bool true), []) := by
  have hb := begin13_run a b c
  have h23 := limits23_run a b c
  have hk := known_run
  have hwl := q00_wl a b c
  have hbd := q00_bd (zA a) (zB a b) (zC c)
  have hC8 : zC c ≤ 8 := by have b1 : c % 8 < 8 := Nat.mod_lt _ (by omega); unfold zC; omega
  have hol : (ops.map Opr.d).length = ops.length := by simp
  have hog := fun i hi => opr_get ops (i := i) hi
  unfold begO at hb
  refine run_code (s := s7 0) rfl rfl rfl (by kernel_rfl) ?_
  by_cases hbig : 25 < ops.length
  · generalize ops.map Opr.d = OO at *
    have hbi : (25 : Int) < ops.length := by omega
    simp [s7, eqCells, T3, T4, T5, T9, T22, T23, T25, T27, T28, T32, T34, T38, T40, T46, T49, T51, T54, T57, T65, T66, T72, T74, T76, T77, T79, T81, T87, T89, T90, T92, T101, T107, T109, T119, T125, T128, T130, T133, T140, T148, T150, T151, CT, CQ, QQ, hk, hol, hbi, hO]
  have hbi : ¬ (25 : Int) < ops.length := by omega
  generalize zA a = A at *
  generalize zB a b = B at *
  generalize zC c = C at *
  generalize hOO : ops.map Opr.d = OO at *
  simp [s7, eqCells, T3, T4, T5, T9, T22, T23, T25, T27, T28, T32, T34, T38, T40, T46, T49, T51, T54, T57, T65, T66, T72, T74, T76, T77, T79, T81, T87, T89, T90, T92, T101, T107, T109, T119, T125, T128, T130, T133, T140, T148, T150, T151, CT, CQ, QQ, hk, hol, hbi, hb, hO]
  refine wlp_inv2 (S := fun p : Nat × Qs => ⟨[(2, .ptr 0 0), (5, .ptr 1 0), (6, .ptr 4 0), (37, .d O), (38, .d (.int .i64 ops.length)), (39, .d (.int .i64 p.1))], [.box [.d (.int .u8 a), .d (.int .u8 b), .d (.int .u8 c)]] ++ p.2.obk 1 ++ [.box [.d (.int .i64 p.2.mod.la), .d (.int .i64 p.2.mod.lb), .d (.int .i64 p.2.mod.lc), .vs 5 0 8 0 p.2.mod.es.length, .d (.int .i64 p.2.mod.nx), .d (.int .i64 p.2.mod.sv), .d (.int .i64 p.2.mod.nw)], .vec 0 true false 101 8 (p.2.mod.es.map Me.d)]⟩) (m := fun p => ops.length - p.1) (Inv := fun p => p.1 ≤ ops.length ∧ p.2.wl ∧ p.2.bd p.1 ∧ p.2.lc = C) ?_ (0, q00 A B C) ⟨Nat.zero_le _, hwl, hbd, rfl⟩ (by simp only [q00, Qs.mod, Qs.obk]; rfl)
  rintro ⟨i, q⟩ ⟨hi, hq, hqb, hqc⟩ ih
  rw [e7_1]
  simp only at hi hq hqb hqc ⊢
  by_cases hlt : i < ops.length
  · obtain ⟨O2, q2, hdo, hr⟩ := do24_run q hq i hqb (by omega) ops[i].k ops[i].A ops[i].B ops[i].hA ops[i].hB
    have ih2 := ih (i + 1, q2) ⟨by simp only; omega, hr.wl, hr.bd, by simp only; rw [hr.lc, hqc]⟩ (by simp only; omega)
    have hx := hog i hlt
    have hOi : i < OO.length := by omega
    have hEe := (List.getElem?_eq_some_iff.1 hx).2
    have w1 : IntKind.i64.wrap ((i : Int) + 1) = (i : Int) + 1 := wrap64 (by omega) (by omega)
    have p1 : (i : Int) < ops.length := by omega
    have hst := hr.st
    clear ih hog hr hb hk
    generalize ops[i].k = x1 at *
    generalize ops[i].A = x2 at *
    generalize ops[i].B = x3 at *
    simp only [Qs.st, Qs.stm, Qs.sta, Qs.obk, Qs.obs, Ms.obs, Ms.obm, List.cons_append, List.nil_append] at hdo hst ih2 ⊢
    generalize q2.mod = m2 at *
    generalize q.mod = m at *
    generalize q.es.map Ent.p = M1 at *
    generalize q.ts.map Tck.p = M2 at *
    generalize q2.es.map Ent.p = M3 at *
    generalize q2.ts.map Tck.p = M4 at *
    generalize m.es.map Me.d = E at *
    generalize m2.es.map Me.d = E2 at *
    try simp at ih2
    rcases hst with rfl | rfl | ⟨E3, rfl⟩
    · simp [c7_1, eqCells, T3, T4, T5, T9, T22, T23, T25, T27, T28, T32, T34, T38, T40, T46, T49, T51, T54, T57, T65, T66, T72, T74, T76, T77, T79, T81, T87, T89, T90, T92, T101, T107, T109, T119, T125, T128, T130, T133, T140, T148, T150, T151, CT, CQ, QQ, hx, hOi, hEe, hdo, p1, w1, hlt, hO]
      exact ih2
    · simp [c7_1, eqCells, T3, T4, T5, T9, T22, T23, T25, T27, T28, T32, T34, T38, T40, T46, T49, T51, T54, T57, T65, T66, T72, T74, T76, T77, T79, T81, T87, T89, T90, T92, T101, T107, T109, T119, T125, T128, T130, T133, T140, T148, T150, T151, CT, CQ, QQ, hx, hOi, hEe, hdo, p1, w1, hlt, hO]
      exact ih2
    · simp [c7_1, eqCells, T3, T4, T5, T9, T22, T23, T25, T27, T28, T32, T34, T38, T40, T46, T49, T51, T54, T57, T65, T66, T72, T74, T76, T77, T79, T81, T87, T89, T90, T92, T101, T107, T109, T119, T125, T128, T130, T133, T140, T148, T150, T151, CT, CQ, QQ, hx, hOi, hEe, hdo, p1, w1, hlt, hO]
      exact ih2
  have e : i = ops.length := by omega
  subst e
  have hn0 := hqb.n0
  have hn1 := hqb.now
  have hiss := hqb.iss
  obtain ⟨en, hen⟩ : ∃ en, en = q.now + 100 := ⟨_, rfl⟩
  have hlt : ¬ en < q.now := by omega
  have h26 := expire26_ok q hq.towf en hlt (by omega)
  have hall : keepT en q.ts = q.ts := List.filter_eq_self.2 fun t ht => by
    have := hq.tu t ht
    simp; omega
  rw [hall] at h26
  have hwQ := exp_wl (l := q.ts) (nw_wl hq (now := en) (by omega) (by omega)) hq.asc fun t ht => ht
  have htQ : (expQ (q.nw en) q.ts).ts = [] := expQ_all (q.nw en)
  have key : ∀ (l : List Tck) (p : Qs), (expQ p l).iss = p.iss ∧ (expQ p l).now = p.now ∧ (expQ p l).lc = p.lc := by
    intro l
    induction l with
    | nil => exact fun p => ⟨rfl, rfl, rfl⟩
    | cons t l ih => exact fun p => ih (relQ p t.n)
  obtain ⟨k1, k2, k3⟩ := key q.ts (q.nw en)
  generalize expQ (q.nw en) q.ts = Q at *
  have hW := wts_all hwQ htQ
  have hQl := hwQ.es.le
  have hI : dlvI C en (wts Q.es) Q := ⟨hwQ, by rw [hW, List.length_map, k1]; show q.iss + _ ≤ 200; omega, htQ, hW.symm, by rw [k2]; exact Int.le_refl _, by rw [k3]; exact hqc⟩
  have h20 := now20_run q
  have h21 := waiting21_run Q hwQ.ok hwQ.es
  have h22 := leased22_run Q hwQ.ok hwQ.towf.tso
  have h72 := fun ks K => loop7_2 A B C en a b c h23 (by omega) Q (wts Q.es) hI (by rw [hW, List.length_map]; omega) ks K
  have wen : IntKind.i64.wrap (q.now + 100) = en := by rw [hen]; exact wrap64 (by omega) (by omega)
  have hWl : ((wts Q.es).map iD).length = (wts Q.es).length := by simp
  rw [htQ] at h22
  clear ih hog hb hk hW hI key
  generalize q.mod = m at *
  generalize m.es.map Me.d = E at *
  generalize (wts Q.es).map iD = WD at *
  generalize (wts Q.es).length = wl at *
  generalize q.ts.map Tck.d = TD at *
  simp only [Qs.obk, Qs.obs, htQ, List.map_nil, List.length_nil] at h20 h21 h22 h26 h72 ⊢
  generalize q.es.map Ent.p = M1 at *
  generalize q.ts.map Tck.p = M2 at *
  generalize Q.es.map Ent.p = M3 at *
  simp at h72
  simp [c7_1, eqCells, T3, T4, T5, T9, T22, T23, T25, T27, T28, T32, T34, T38, T40, T46, T49, T51, T54, T57, T65, T66, T72, T74, T76, T77, T79, T81, T87, T89, T90, T92, T101, T107, T109, T119, T125, T128, T130, T133, T140, T148, T150, T151, CT, CQ, QQ, List.lookup, h20, h21, h22, h26, wen, hWl, hO]
  refine h72 _ _ ?_
  intro Q3 hQ3
  have h17 := lease17_empty Q3 hQ3.wl.ok hQ3.wl.es hQ3.wl.rng en (by have := hQ3.now; omega) (by omega) (by rw [wts_all hQ3.wl hQ3.ts, hQ3.es])
  have h16 := len16_run Q3
  have hle : Q3.es.length = 0 := by have := congrArg List.length hQ3.es; simpa using this
  rw [hle] at h16
  unfold noL nilF at h17
  simp only [Qs.obk, Qs.obs] at h16 h17 ⊢
  clear h72
  generalize Q3.es.map Ent.p = M5 at *
  generalize Q3.ts.map Tck.p = M6 at *
  simp [eqCells, T3, T4, T5, T9, T22, T23, T25, T27, T28, T32, T34, T38, T40, T46, T49, T51, T54, T57, T65, T66, T72, T74, T76, T77, T79, T81, T87, T89, T90, T92, T101, T107, T109, T119, T125, T128, T130, T133, T140, T148, T150, T151, CT, CQ, QQ, h17, h16]
end Go.Proofs.YtdgpipoffcajgaaV
