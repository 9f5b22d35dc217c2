/- The law QueueKeeps: the end, and the whole. -/
import Derived.Test.YtdgpipoffcajgaaQk4
set_option linter.unusedVariables false
set_option linter.unusedSimpArgs false
namespace Go.Proofs.YtdgpipoffcajgaaV
open Go.RowKit
attribute [local simp] TK.agg constAV evalAV EK.has EK.hasAll vecEls elsR AV.toD toDs AV.cells AV.one joinD TyI.zeroD OpR.of binIntF binStrF AV.isPtr ptrNil slNil mpNil nilE eqF negF posF binF pelF pvLoad pelSet pvStore boxLoad epLoad loadF boxStore storeF fieldAddrF fieldF epOf indexAddrF byteF indexF mapLen lenF cutF sliceF sliceN sliceX isSl slice3F fillF fillV arrFs buildF partsX landV buildSliceF roomB appVec appendF appMkF capF mmFrom mmF max2' min2' clearVec clearF convF unF pickF nilChkF extF ptrsOf callF makeSliceF sameKs sameD kindIs plainFs keyOk mapOb mapEs okV lookF lookupF putE putS mapPut mapUpdateF mapDel deleteF mapAll rangeM rangeF overV hitV nextO nextF entryM entryO entryF itOids builtinF capsOf allocF boxF bytesL bytesF byteTy strTy convertF makeFuncF mapNew makeMapF makeMapH opF reach reachOf AObj.live closedB nodupB packO packL packX backN backG backO obL backE frzX frzO AV.vids frzL landC sameObs landR touchF bitsW D.cells D.decEq D.decEqs AV.decEq AV.decEqs AObj.decEq AV.oids0 AV.oids AObj.oids renG renP AV.ren0 AV.ren envGet envPut envKeep obGet setEff putV St.put stepS keyChk chkD accD Ex.block AV.under AObj.under laysOf roomFor mkvO frzG szOk killO usedBy tidyS canL canS ghost ghostE normSt resOf allSome one0 resultsF finL finishL finish endF startEnv chkC backX comeC AV.flat0 rngC loopO layL endLp busyL idleL noRng rndSt rndEnd wpn_nil wpn_seq wpn_loop wpn_seq_exit wpn_loop_exit wpn_seq_ret wpn_loop_ret wpn_block wpn_post wpk_skip wpk_exit wpk_ret wpk_reg wpk_seq wpk_condT wpk_block wpk_loop wpk_pre wpk_post wop_nil wop_cons wop_guard St.know envSet cond_d cond_bool cond_int cond_str endE endQ freeB disj pushT bitsW int_beq int_bne eqS_def tbE fuelL_eq ann0_lays ann0_dd ann0_ro elsOf_dsl elsOf_dnils toNat_succ nn_succ pos_succ one_succ rng1 rng2 rng3 rng4 rng5 rng6 rng7 rng8 List.idxOf_cons wpk_rng rndK rndE
def tI (t : Tck) : Iv := (t.a, t.s)
def isT (p : D × D) : Nat := match p.2 with
  | .bool true => 1
  | _ => 0
theorem cnt_sum : ∀ m : List (Iv × Bool), ((mK m).map isT).sum = cntK m
  | [] => rfl
  | (x, b) :: m => by
    have ih := cnt_sum m
    unfold cntK at ih ⊢
    simp only [mK, mapD, List.map_cons, List.sum_cons] at ih ⊢
    rw [ih]
    cases b <;> simp [isT]; omega
theorem isT_le (p : D × D) : isT p ≤ 1 := by unfold isT; split <;> simp
theorem id_get (l : List Iv) {j : Nat} (hj : j < l.length) : (l.map iD)[j]? = some (.agg [.int .i64 l[j].1, .int .i64 l[j].2]) := by simp [hj, iD]
set_option maxRecDepth 100000 in
set_option maxHeartbeats 16000000 in
theorem end9 (Q : Qs) (m : List (Iv × Bool)) (bs : List Nat) (ck : Nat) (h : kI Q m bs ck) (nn : Nat) (hnn : nn = cntK m) (ks : List Fr) (K : Ex → St → Prop)
    (hnext : wpn CC .norm ⟨[(5, .ptr 1 0), (13, .vs 6 0 2 0 (allI Q).length), (16, .d (.int .i64 nn))], [.dead] ++ Q.obk 1 ++ [.dead, .dead, .vec 0 true false 38 2 ((allI Q).map iD), .dead, .dead, .dead]⟩ ks K) :
    wlp CC (s9_5 0) ⟨[(5, .ptr 1 0), (7, .mp 5), (13, .vs 6 0 2 0 (allI Q).length), (16, .d (.int .i64 nn)), (19, .mp 9), (144, .vs 6 0 2 0 (allI Q).length), (145, .d (.int .i64 (allI Q).length)), (146, .d (.int .i64 0))], [.dead] ++ Q.obk 1 ++ [.dead, .mapd (mK m) bs ck, .vec 0 true false 38 2 ((allI Q).map iD), .dead, .dead, .mapd [] [] 0]⟩ (.block 9 :: .post (.tidy [5, 13, 16] 0 10) :: .post (.tidy [5, 13, 16] 0 10) :: ks) K := by
  have hnd := all_nd h.wl
  have hin : ∀ x ∈ allI Q, lookP idK x m = some true := fun x hx => (h.look x).2 ((all_mem h.wl x).1 hx)
  have hal : (allI Q).length ≤ 12 := by rw [all_len h.wl]; exact h.wl.es.le
  have hg := fun j hj => id_get (allI Q) (j := j) hj
  have hWl : ((allI Q).map iD).length = (allI Q).length := by simp
  have hf : ∀ x ∈ allI Q, findD (.agg [.int .i64 x.1, .int .i64 x.2]) (mK m) 0 = some (some (idxP idK x m, D.bool true)) := fun x hx => by rw [mK_find, hin x hx]; simp
  generalize hWW : (allI Q).map iD = WW at *
  generalize allI Q = W at *
  simp only [Qs.obk] at hnext ⊢
  generalize Q.es.map Ent.p = M1 at *
  generalize Q.ts.map Tck.p = M2 at *
  generalize mK m = MM at *
  simp at hnext
  refine wlp_inv2 (S := fun p : Nat × List (Iv × Bool) × List Nat × Nat => ⟨[(5, .ptr 1 0), (7, .mp 5), (13, .vs 6 0 2 0 W.length), (16, .d (.int .i64 nn)), (19, .mp 9), (144, .vs 6 0 2 0 W.length), (145, .d (.int .i64 W.length)), (146, .d (.int .i64 p.1))], [.dead, .box [.d (.int .i64 Q.la), .d (.int .i64 Q.lb), .d (.int .i64 Q.lc), .mp 2, .mp 3, .d (.int .i64 Q.arr), .d (.int .i64 Q.iss), .d (.int .i64 Q.srv), .d (.int .i64 Q.now)], .mapd M1 Q.bs Q.ck, .mapd M2 Q.cs Q.dk, .dead, .mapd MM bs ck, .vec 0 true false 38 2 WW, .dead, .dead, .mapd (mK p.2.1) p.2.2.1 p.2.2.2]⟩) (m := fun p => W.length - p.1) (Inv := fun p => p.1 ≤ W.length ∧ ∀ x, (lookP idK x p.2.1).isSome = true ↔ x ∈ W.take p.1) ?_ (0, [], [], 0) ⟨Nat.zero_le _, fun x => by simp [lookP]⟩ rfl
  rintro ⟨j, s, sb, sk⟩ ⟨hj, hs⟩ ih
  rw [e9_5]
  simp only at hj hs ⊢
  by_cases hlt : j < W.length
  · have hx := hg j hlt
    have hEe := (List.getElem?_eq_some_iff.1 hx).2
    have hWj : j < WW.length := by omega
    have w1 : IntKind.i64.wrap ((j : Int) + 1) = (j : Int) + 1 := wrap64 (by omega) (by omega)
    have p1 : (j : Int) < W.length := by omega
    have hmem : W[j] ∈ W := List.getElem_mem hlt
    have hnj : W[j] ∉ W.take j := fun hm => by
      obtain ⟨i, hi, he⟩ := List.getElem_of_mem hm
      rw [List.length_take] at hi
      rw [List.getElem_take] at he
      have := List.pairwise_iff_getElem.1 hnd i j (by omega) hlt (by omega)
      exact this he
    have hno : lookP idK W[j] s = none := by
      cases hl : lookP idK W[j] s with
      | none => rfl
      | some v => exact absurd ((hs _).1 (by rw [hl]; rfl)) hnj
    have hfs := mK_find W[j] s
    rw [hno] at hfs
    simp only [Option.map_none] at hfs
    have hfm := hf _ hmem
    have hput := mK_put W[j] true s
    rw [hfs] at hput
    have ih2 := ih (j + 1, putP idK W[j] true s, sb ++ [sk], sk + 1) ⟨by simp only; omega, fun x => by
      simp only
      rw [look_put, List.take_succ_eq_append_getElem hlt, List.mem_append]
      by_cases c : x = W[j]
      · rw [if_pos ((eqbK _ _).2 c)]; simp [c]
      · rw [if_neg (fun h => c ((eqbK _ _).1 h)), hs x]; simp [c]⟩ (by simp only; omega)
    clear ih hg hf hin hnd hs hnext hno hnj hmem
    generalize W[j] = y at *
    generalize mK (putP idK y true s) = S2 at *
    generalize mK s = S1 at *
    generalize W.length = wl at *
    try simp at ih2
    simp [c9_5, eqCells, T3, T4, T5, T9, T22, T23, T25, T27, T32, T34, T38, T40, T46, T49, T51, T54, T57, T66, T72, T74, T76, T77, T79, T81, T87, T89, T90, T92, T101, T107, T109, T119, T125, T128, T130, T133, T140, T148, T150, T151, CT, CQ, QQ, hx, hEe, hWj, hWl, p1, w1, hlt, hfs, hfm, hput, -putE, putS]
    exact ih2
  · have e : j = W.length := by omega
    subst e
    clear ih hg hf hin
    generalize mK s = S1 at *
    generalize W.length = wl at *
    simp [c9_5, eqCells, T3, T4, T5, T9, T22, T23, T25, T27, T32, T34, T38, T40, T46, T49, T51, T54, T57, T66, T72, T74, T76, T77, T79, T81, T87, T89, T90, T92, T101, T107, T109, T119, T125, T128, T130, T133, T140, T148, T150, T151, CT, CQ, QQ]
    exact hnext
set_option maxRecDepth 100000 in
set_option maxHeartbeats 16000000 in
theorem law9_run (a b c : Nat) (O : D) (ops : List Opr) (hO : elsOf (.d O) = some (ops.map Opr.d)) : run CC 9 [.d (.agg [.int .u8 a, .int .u8 b, .int .u8 c]), .d O] [] = some (.d (.bool true), []) := by
  have hb := begin13_run a b c
  have hk := known_run
  have hwl := q00_wl a b c
  have hbd := q00_bd (zA a) (zB a b) (zC c)
  have hol : (ops.map Opr.d).length = ops.length := by simp
  unfold begO at hb
  refine run_code (s := s9 0) rfl rfl rfl (by kernel_rfl) ?_
  by_cases hbig : 25 < ops.length
  · generalize ops.map Opr.d = OO at *
    have hbi : (25 : Int) < ops.length := by omega
    simp [s9, eqCells, T3, T4, T5, T9, T22, T23, T25, T27, T32, T34, T38, T40, T46, T49, T51, T54, T57, T66, T72, T74, T76, T77, T79, T81, T87, T89, T90, T92, T101, T107, T109, T119, T125, T128, T130, T133, T140, T148, T150, T151, CT, CQ, QQ, hk, hol, hbi, hO]
  have hbi : ¬ (25 : Int) < ops.length := by omega
  have hround := fun i hi Q m bs ck h hb ks K => k9_round O ops hO (by omega) i hi Q m bs ck h hb ks K
  generalize zA a = A at *
  generalize zB a b = B at *
  generalize zC c = C at *
  generalize hOO : ops.map Opr.d = OO at *
  simp [s9, eqCells, T3, T4, T5, T9, T22, T23, T25, T27, T32, T34, T38, T40, T46, T49, T51, T54, T57, T66, T72, T74, T76, T77, T79, T81, T87, T89, T90, T92, T101, T107, T109, T119, T125, T128, T130, T133, T140, T148, T150, T151, CT, CQ, QQ, hk, hol, hbi, hb, hO]
  refine wlp_inv2 (S := fun p : Nat × Qs × List (Iv × Bool) × List Nat × Nat => S9 O ops.length p.1 p.2.1 p.2.2.1 p.2.2.2.1 p.2.2.2.2) (m := fun p => ops.length - p.1) (Inv := fun p => p.1 ≤ ops.length ∧ kI p.2.1 p.2.2.1 p.2.2.2.1 p.2.2.2.2 ∧ p.2.1.bd p.1) ?_ (0, q00 A B C, [], [], 0) ⟨Nat.zero_le _, ⟨hwl, ⟨rfl, List.nodup_nil, fun b h => by cases h⟩, List.Pairwise.nil, fun x => by simp [lookP, q00]⟩, hbd⟩ (by simp only [q00, S9, ob9, Qs.obk]; rfl)
  rintro ⟨i, Q, m, bs, ck⟩ ⟨hi, hI, hQb⟩ ih
  rw [e9_1]
  simp only at hi hI hQb ⊢
  by_cases hlt : i < ops.length
  · obtain ⟨Q2, m2, bs2, ck2, k1, k2, k3⟩ := hround i hlt Q m bs ck hI hQb _ _
    exact k3 (ih (i + 1, Q2, m2, bs2, ck2) ⟨by simp only; omega, k1, k2⟩ (by simp only; omega))
  have e : i = ops.length := by omega
  subst e
  clear ih hround hb hk
  have hw := hI.wl
  have h21 := waiting21_run Q hw.ok hw.es
  have h22 := leased22_run Q hw.ok hw.towf.tso
  have h16 := len16_run Q
  have htl := hw.towf.tso.le
  have htg := fun j hj => tck_get Q.ts (i := j) hj
  have hal := all_len hw
  have hcl := cnt_len hI
  have hel := hw.es.le
  have hTl : (Q.ts.map Tck.d).length = Q.ts.length := by simp
  have htt := takeM Tck.d Q.ts
  have hstm : Stm bs ck (mK m).length := by have := hI.st; simpa [mK, mapD] using this
  have hend := fun ks K => end9 Q m bs ck hI (cntK m) rfl ks K
  obtain ⟨W, hW⟩ : ∃ W, W = wts Q.es := ⟨_, rfl⟩
  have hallW : allI Q = W ++ Q.ts.map tI := by rw [hW]; rfl
  rw [← hW] at h21
  have hWl : W.length ≤ 12 := by
    have := congrArg List.length hallW
    rw [hal, List.length_append] at this
    omega
  have hal2 : (allI Q).length = W.length + Q.ts.length := by rw [hallW]; simp
  have hfst := stEs_fst (mK m) bs hstm.len.symm
  have hsnd := stEs_snd (mK m) bs hstm.len.symm
  have hnd : ((stEs (mK m) bs).map (·.1)).Nodup := by rw [hfst]; exact hstm.nd
  have hsum : sumN isT (stEs (mK m) bs) = cntK m := by rw [sumN_st _ _ _ hstm.len.symm, cnt_sum]
  have hok := fun seen => stm_ok hstm seen
  have hent := fun p hp => stm_entry hstm (p := p) hp
  have hval : ∀ p ∈ stEs (mK m) bs, ∃ x b, p.2 = (iD x, D.bool b) := fun p hp => by
    have : p.2 ∈ (stEs (mK m) bs).map (·.2) := List.mem_map.2 ⟨p, hp, rfl⟩
    rw [hsnd] at this
    obtain ⟨q, hq, he⟩ := List.mem_map.1 this
    exact ⟨q.1, q.2, he.symm⟩
  rw [hal2, hallW, List.map_append] at hend
  rw [hcl] at hsum hend
  generalize hn : Q.es.length = nE at *
  have hsW : (W ++ Q.ts.map tI).length = W.length + Q.ts.length := by simp
  clear hI hstm hfst hsnd
  generalize hTD : Q.ts.map Tck.d = TD at *
  obtain ⟨T, hT⟩ : ∃ T, T = Q.ts := ⟨_, rfl⟩
  rw [← hT] at h22 htl htg hTl htt hend hal2 hsW
  obtain ⟨vl, hvl⟩ : ∃ v, W.length + T.length = v := ⟨_, rfl⟩
  rw [hvl] at hend hal2
  generalize hWD : W.map iD = WD at *
  obtain ⟨V, hV⟩ : ∃ V, WD ++ (T.map tI).map iD = V := ⟨_, rfl⟩
  rw [hV] at hend
  have hWDl : WD.length = W.length := by rw [← hWD]; simp
  have hs0 : T.length ≤ 12 := htl
  simp only [S9, ob9, Qs.obk, Qs.obs, List.cons_append, List.nil_append] at h16 h21 h22 hend ⊢
  generalize Q.es.map Ent.p = M1 at *
  generalize Q.ts.map Tck.p = M2 at *
  generalize mK m = MM at *
  simp at hend
  simp [c9_1, eqCells, T3, T4, T5, T9, T22, T23, T25, T27, T32, T34, T38, T40, T46, T49, T51, T54, T57, T66, T72, T74, T76, T77, T79, T81, T87, T89, T90, T92, T101, T107, T109, T119, T125, T128, T130, T133, T140, T148, T150, T151, CT, CQ, QQ, List.lookup, h21, h22, hTl, htt, hWDl]
  refine wlp_inv2 (S := fun j : Nat => ⟨[(5, .ptr 1 0), (7, .mp 5), (13, .vs 6 0 2 0 (W.length + j)), (122, .d (.sl TD)), (123, .d (.int .i64 T.length)), (124, .d (.int .i64 j))], [.dead, .box [.d (.int .i64 Q.la), .d (.int .i64 Q.lb), .d (.int .i64 Q.lc), .mp 2, .mp 3, .d (.int .i64 Q.arr), .d (.int .i64 Q.iss), .d (.int .i64 Q.srv), .d (.int .i64 Q.now)], .mapd M1 Q.bs Q.ck, .mapd M2 Q.cs Q.dk, .dead, .mapd MM bs ck, .vec 0 true false 38 2 (WD ++ ((T.take j).map tI).map iD), .dead]⟩) (m := fun j => T.length - j) (Inv := fun j => j ≤ T.length) ?_ 0 (Nat.zero_le _) (by simp only [List.take_zero, List.map_nil, List.append_nil, Nat.add_zero]; rfl)
  rintro j hj ih
  rw [e9_3]
  by_cases hlt : j < T.length
  · have hx := htg j hlt
    have hEe := (List.getElem?_eq_some_iff.1 hx).2
    have hTj : j < TD.length := by omega
    have w1 : IntKind.i64.wrap ((j : Int) + 1) = (j : Int) + 1 := wrap64 (by omega) (by omega)
    have p1 : (j : Int) < T.length := by omega
    have htk : WD ++ ((T.take (j + 1)).map tI).map iD = (WD ++ ((T.take j).map tI).map iD) ++ [.agg [.int .i64 T[j].a, .int .i64 T[j].s]] := by
      rw [List.take_succ_eq_append_getElem hlt, List.map_append, List.map_append, ← List.append_assoc]; rfl
    have ih2 := ih (j + 1) (by omega) (by omega)
    rw [htk, ← Nat.add_assoc] at ih2
    have hll : (WD ++ ((T.take j).map tI).map iD).length = W.length + j := by simp; omega
    have htl2 : (WD ++ ((T.take j).map tI).map iD).take (W.length + j) = WD ++ ((T.take j).map tI).map iD := List.take_of_length_le (by omega)
    have hz : szAll 2 [D.agg [.int .i64 T[j].a, .int .i64 T[j].s]] = true := rfl
    have r1 : (W.length + j + 1) * 16 ≤ 140737488355328 := by omega
    have r2 : W.length + j + 1 ≤ 9223372036854775807 := by omega
    clear ih hend htk htg hok hent hval hsum
    generalize T[j] = y at *
    generalize WD ++ ((T.take j).map tI).map iD = V at *
    generalize W.length + j = vl at *
    try simp at ih2
    simp [c9_3, eqCells, T3, T4, T5, T9, T22, T23, T25, T27, T32, T34, T38, T40, T46, T49, T51, T54, T57, T66, T72, T74, T76, T77, T79, T81, T87, T89, T90, T92, T101, T107, T109, T119, T125, T128, T130, T133, T140, T148, T150, T151, CT, CQ, QQ, hx, hEe, hTj, hTl, p1, w1, hlt, hll, htl2, hz, r1, r2]
    exact ih2
  have e : j = T.length := by omega
  subst e
  rw [List.take_length]
  clear ih htg
  rw [hV]
  rw [hvl]
  simp [c9_3, eqCells, T3, T4, T5, T9, T22, T23, T25, T27, T32, T34, T38, T40, T46, T49, T51, T54, T57, T66, T72, T74, T76, T77, T79, T81, T87, T89, T90, T92, T101, T107, T109, T119, T125, T128, T130, T133, T140, T148, T150, T151, CT, CQ, QQ]
  refine wlp_inv2 (S := fun p : List Nat × Nat => ⟨[(5, .ptr 1 0), (7, .mp 5), (13, .vs 6 0 2 0 vl), (16, .d (.int .i64 p.2)), (135, .it 8)], [.dead, .box [.d (.int .i64 Q.la), .d (.int .i64 Q.lb), .d (.int .i64 Q.lc), .mp 2, .mp 3, .d (.int .i64 Q.arr), .d (.int .i64 Q.iss), .d (.int .i64 Q.srv), .d (.int .i64 Q.now)], .mapd M1 Q.bs Q.ck, .mapd M2 Q.cs Q.dk, .dead, .mapd MM bs ck, .vec 0 true false 38 2 V, .dead, .iter (some 5) ck p.1 ck]⟩) (m := fun p => (leftE p.1 (stEs MM bs)).length) (Inv := fun p => p.2 + sumN isT (leftE p.1 (stEs MM bs)) = nE) ?_ ([], 0) (by simp only [leftE_nil, hsum]; omega) rfl
  rintro ⟨seen, n⟩ hinv ih
  rw [e9_4]
  unfold c9_4
  rw [wpk_post, wpk_seq, wpk_reg]
  simp only at hinv ⊢
  refine wop_next (o := 8) (m := 5) (since := ck) (last := ck) (ck := ck) (seen := seen) (l := stEs MM bs) rfl rfl rfl (hok seen) (fun h0 => ?_) fun p hp' => ?_
  · rw [h0] at hinv
    simp only [sumN, Nat.add_zero] at hinv
    subst hinv
    clear ih hok hent hval hsum
    simp [eqCells, T3, T4, T5, T9, T22, T23, T25, T27, T32, T34, T38, T40, T46, T49, T51, T54, T57, T66, T72, T74, T76, T77, T79, T81, T87, T89, T90, T92, T101, T107, T109, T119, T125, T128, T130, T133, T140, T148, T150, T151, CT, CQ, QQ]
    refine hend _ _ ?_
    have hvn : (vl : Int) = n := by omega
    simp [eqCells, T3, T4, T5, T9, T22, T23, T25, T27, T32, T34, T38, T40, T46, T49, T51, T54, T57, T66, T72, T74, T76, T77, T79, T81, T87, T89, T90, T92, T101, T107, T109, T119, T125, T128, T130, T133, T140, T148, T150, T151, CT, CQ, QQ, h16, hvn]
  · have hm := leftE_mem hp'
    have hen := hent p hm.1
    obtain ⟨x, b, hxb⟩ := hval p hm.1
    have hs := sumN_left isT hnd hp'
    have ih1 := fun n' h => ih (seen ++ [p.1], n') h (leftE_lt hp')
    obtain ⟨bb, pr⟩ := p
    simp only at hxb hs hen ih1
    subst hxb
    cases b with
    | true =>
      have hf : isT (iD x, D.bool true) = 1 := rfl
      rw [hf] at hs
      have hle := sumN_le isT isT_le (leftE (seen ++ [bb]) (stEs MM bs))
      have w1 : IntKind.i64.wrap ((n : Int) + 1) = ((n + 1 : Nat) : Int) := by rw [wrap64 (by omega) (by omega)]; omega
      have ih2 := ih1 (n + 1) (by omega)
      clear ih ih1 hend hok hent hval hsum
      simp only [iD] at hen
      generalize hn1 : n + 1 = n1 at *
      try simp at ih2
      simp [eqCells, T3, T4, T5, T9, T22, T23, T25, T27, T32, T34, T38, T40, T46, T49, T51, T54, T57, T66, T72, T74, T76, T77, T79, T81, T87, T89, T90, T92, T101, T107, T109, T119, T125, T128, T130, T133, T140, T148, T150, T151, CT, CQ, QQ, iD, hen, w1]
      exact ih2
    | false =>
      have hf : isT (iD x, D.bool false) = 0 := rfl
      rw [hf] at hs
      have ih2 := ih1 n (by omega)
      clear ih ih1 hend hok hent hval hsum
      simp only [iD] at hen
      try simp at ih2
      simp [eqCells, T3, T4, T5, T9, T22, T23, T25, T27, T32, T34, T38, T40, T46, T49, T51, T54, T57, T66, T72, T74, T76, T77, T79, T81, T87, T89, T90, T92, T101, T107, T109, T119, T125, T128, T130, T133, T140, T148, T150, T151, CT, CQ, QQ, iD, hen]
      exact ih2
end Go.Proofs.YtdgpipoffcajgaaV
