/- do: Release, Expire, tickets that are not there. -/
import Derived.Test.YtdgpipoffcajgaaQf2
set_option linter.unusedVariables false
set_option linter.unusedSimpArgs false
namespace Go.Proofs.YtdgpipoffcajgaaV
open Go.RowKit
attribute [local simp] TK.agg constAV evalAV EK.has EK.hasAll vecEls elsR AV.toD toDs AV.cells AV.one joinD TyI.zeroD OpR.of binIntF binStrF AV.isPtr ptrNil slNil mpNil nilE eqF negF posF binF pelF pvLoad pelSet pvStore boxLoad epLoad loadF boxStore storeF fieldAddrF fieldF epOf indexAddrF byteF indexF mapLen lenF cutF sliceF sliceN sliceX isSl slice3F fillF fillV arrFs buildF partsX landV buildSliceF roomB appVec appendF appMkF capF mmFrom mmF max2' min2' clearVec clearF convF unF pickF nilChkF extF ptrsOf callF makeSliceF sameKs sameD kindIs plainFs keyOk mapOb mapEs okV lookF lookupF putE putS mapPut mapUpdateF mapDel deleteF mapAll rangeM rangeF overV hitV nextO nextF entryM entryO entryF itOids builtinF capsOf allocF boxF bytesL bytesF byteTy strTy convertF makeFuncF mapNew makeMapF makeMapH opF reach reachOf AObj.live closedB nodupB packO packL packX backN backG backO obL backE frzX frzO AV.vids frzL landC sameObs landR touchF bitsW D.cells D.decEq D.decEqs AV.decEq AV.decEqs AObj.decEq AV.oids0 AV.oids AObj.oids renG renP AV.ren0 AV.ren envGet envPut envKeep obGet setEff putV St.put stepS keyChk chkD accD Ex.block AV.under AObj.under laysOf roomFor mkvO frzG szOk killO usedBy tidyS canL canS ghost ghostE normSt resOf allSome one0 resultsF finL finishL finish endF startEnv chkC backX comeC AV.flat0 rngC loopO layL endLp busyL idleL noRng rndSt rndEnd wpn_nil wpn_seq wpn_loop wpn_seq_exit wpn_loop_exit wpn_seq_ret wpn_loop_ret wpn_block wpn_post wpk_skip wpk_exit wpk_ret wpk_reg wpk_seq wpk_condT wpk_block wpk_loop wpk_pre wpk_post wop_nil wop_cons wop_guard St.know envSet cond_d cond_bool cond_int cond_str endE endQ freeB disj pushT bitsW int_beq int_bne eqS_def tbE fuelL_eq ann0_lays ann0_dd ann0_ro elsOf_dsl elsOf_dnils toNat_succ nn_succ pos_succ one_succ rng1 rng2 rng3 rng4 rng5 rng6 rng7 rng8 List.idxOf_cons wpk_rng rndK rndE
set_option maxRecDepth 100000 in
set_option maxHeartbeats 8000000 in
theorem do24_none (q : Qs) (k A B : Nat) (hk : k % 5 = 2 ∨ k % 5 = 3) (hA : A < 256) (hB : B < 256) (hq : 0 ≤ q.now ∧ q.now < 1000000)
    (hfd : run CC 46 [.ptr 0 0, .d (.int .i64 (1 + ((A % 10 : Nat) : Int)))] q.mod.obs = some (.d (.int .i64 (-1)), q.mod.obs))
    (h27 : run CC 27 [.ptr 0 0, .d (.int .i64 (1 + ((A % 10 : Nat) : Int)))] q.obs = some (.d (.int .i64 10), q.obs))
    (h29 : run CC 29 [.ptr 0 0, .d (.int .i64 (1 + ((A % 10 : Nat) : Int)))] q.obs = some (.d (.int .i64 10), q.obs)) :
    run CC 24 [.ptr 0 0, .ptr 2 0, .d (.agg [.int .u8 k, .int .u8 A, .int .u8 B])] q.st = some (.d (.bool true), q.st) := by
  have hk5 := rem_nat k 5
  have hA4 := rem_nat A 4
  have hA10 := rem_nat A 10
  have b1 : A % 4 < 4 := Nat.mod_lt _ (by omega)
  have b2 : A % 10 < 10 := Nat.mod_lt _ (by omega)
  have hnw : q.mod.nw = q.now := rfl
  rw [← hnw] at hq
  simp only [Int.cast_ofNat_Int] at hk5 hA4 hA10
  generalize A % 4 = a4 at *
  generalize A % 10 = a10 at *
  have w0 : IntKind.i64.wrap (a4 : Int) = a4 := wrap64 (by omega) (by omega)
  have w1 : IntKind.i64.wrap (q.mod.nw + (a4 : Int)) = q.mod.nw + a4 := wrap64 (by omega) (by omega)
  have w2 : IntKind.i64.wrap (q.mod.nw - 1) = q.mod.nw - 1 := wrap64 (by omega) (by omega)
  have w3 : IntKind.i64.wrap (a10 : Int) = a10 := wrap64 (by omega) (by omega)
  have w4 : IntKind.i64.wrap (1 + (a10 : Int)) = 1 + a10 := wrap64 (by omega) (by omega)
  simp only [Qs.st, Qs.stm, Qs.sta, Qs.obs, Qs.obk, Ms.obs, Ms.obm, List.cons_append, List.nil_append] at hfd h27 h29 ⊢
  clear hnw
  generalize q.mod = m at *
  generalize q.es.map Ent.p = M1 at *
  generalize q.ts.map Tck.p = M2 at *
  generalize m.es.map Me.d = E at *
  refine run_code (s := s24 5) rfl rfl rfl (by kernel_rfl) ?_
  rcases hk with hk | hk
  · rw [hk] at hk5
    clear h29
    simp only [Int.cast_ofNat_Int] at hk5
    by_cases hB255 : (B : Int) = 255
    · simp [s24, eqCells, T3, T4, T5, T9, T22, T23, T25, T27, T28, T32, T34, T38, T40, T46, T49, T51, T54, T57, T65, T66, T72, T74, T76, T77, T79, T81, T87, T89, T90, T92, T101, T107, T109, T119, T125, T128, T130, T133, T140, T148, T150, T151, CT, CQ, QQ, hk5, hA4, hA10, w0, w1, w2, w3, w4, hB255, hfd, h27]
    · simp [s24, eqCells, T3, T4, T5, T9, T22, T23, T25, T27, T28, T32, T34, T38, T40, T46, T49, T51, T54, T57, T65, T66, T72, T74, T76, T77, T79, T81, T87, T89, T90, T92, T101, T107, T109, T119, T125, T128, T130, T133, T140, T148, T150, T151, CT, CQ, QQ, hk5, hA4, hA10, w0, w1, w2, w3, w4, hB255, hfd, h27]
  · rw [hk] at hk5
    clear h27
    simp only [Int.cast_ofNat_Int] at hk5
    by_cases hB255 : (B : Int) = 255
    · simp [s24, eqCells, T3, T4, T5, T9, T22, T23, T25, T27, T28, T32, T34, T38, T40, T46, T49, T51, T54, T57, T65, T66, T72, T74, T76, T77, T79, T81, T87, T89, T90, T92, T101, T107, T109, T119, T125, T128, T130, T133, T140, T148, T150, T151, CT, CQ, QQ, hk5, hA4, hA10, w0, w1, w2, w3, w4, hB255, hfd, h29]
    · simp [s24, eqCells, T3, T4, T5, T9, T22, T23, T25, T27, T28, T32, T34, T38, T40, T46, T49, T51, T54, T57, T65, T66, T72, T74, T76, T77, T79, T81, T87, T89, T90, T92, T101, T107, T109, T119, T125, T128, T130, T133, T140, T148, T150, T151, CT, CQ, QQ, hk5, hA4, hA10, w0, w1, w2, w3, w4, hB255, hfd, h29]
set_option maxRecDepth 100000 in
set_option maxHeartbeats 8000000 in
theorem do24_rel (q q2 : Qs) (J : Nat) (k A B : Nat) (hk : k % 5 = 3) (hA : A < 256) (hB : B < 256) (hq : 0 ≤ q.now ∧ q.now < 1000000) (hl : q.es.length ≤ 12)
    (hfd : run CC 46 [.ptr 0 0, .d (.int .i64 (1 + ((A % 10 : Nat) : Int)))] q.mod.obs = some (.d (.int .i64 J), q.mod.obs)) (hJ : J < q.es.length) (ea es : Int) (S X : List D) (t1 t2 t3 t4 : Int)
    (hx : (q.mod.es.map Me.d)[J]? = some (.agg [.int .i64 ea, .int .i64 es, .sl S, .sl X, .int .i64 t1, .int .i64 t2, .int .i64 t3, .int .i64 t4]))
    (h29 : run CC 29 [.ptr 0 0, .d (.int .i64 (1 + ((A % 10 : Nat) : Int)))] q.obs = some (.d (.int .i64 0), q2.obs))
    (hm2 : q2.mod.obs = [.box [.d (.int .i64 q.mod.la), .d (.int .i64 q.mod.lb), .d (.int .i64 q.mod.lc), .vs 1 0 8 0 q.mod.es.length, .d (.int .i64 q.mod.nx), .d (.int .i64 q.mod.sv), .d (.int .i64 q.mod.nw)], .vec 0 false false 101 8 ((q.mod.es.map Me.d).set J (.agg [.int .i64 ea, .int .i64 es, .sl S, .sl X, .int .i64 0, .int .i64 0, .int .i64 0, .int .i64 0]))]) :
    run CC 24 [.ptr 0 0, .ptr 2 0, .d (.agg [.int .u8 k, .int .u8 A, .int .u8 B])] q.st = some (.d (.bool true), q2.st) := by
  have hk5 := rem_nat k 5
  have hA4 := rem_nat A 4
  have hA10 := rem_nat A 10
  rw [hk] at hk5
  have b1 : A % 4 < 4 := Nat.mod_lt _ (by omega)
  have b2 : A % 10 < 10 := Nat.mod_lt _ (by omega)
  have hnw : q.mod.nw = q.now := rfl
  rw [← hnw] at hq
  simp only [Int.cast_ofNat_Int] at hk5 hA4 hA10
  generalize A % 4 = a4 at *
  generalize A % 10 = a10 at *
  have w0 : IntKind.i64.wrap (a4 : Int) = a4 := wrap64 (by omega) (by omega)
  have w1 : IntKind.i64.wrap (q.mod.nw + (a4 : Int)) = q.mod.nw + a4 := wrap64 (by omega) (by omega)
  have w2 : IntKind.i64.wrap (q.mod.nw - 1) = q.mod.nw - 1 := wrap64 (by omega) (by omega)
  have w3 : IntKind.i64.wrap (a10 : Int) = a10 := wrap64 (by omega) (by omega)
  have w4 : IntKind.i64.wrap (1 + (a10 : Int)) = 1 + a10 := wrap64 (by omega) (by omega)
  have p1 : ¬ (J : Int) < 0 := by omega
  have hle : q.mod.es.length = q.es.length := mod_len q
  have p2 : (J : Int) < q.mod.es.length := by omega
  have pJ : J < q.mod.es.length := by omega
  have hEl : (q.mod.es.map Me.d).length = q.mod.es.length := by simp
  simp only [Qs.st] at ⊢
  rw [hm2]
  simp only [Qs.st, Qs.stm, Qs.sta, Qs.obs, Qs.obk, Ms.obs, Ms.obm, List.cons_append, List.nil_append] at hfd h29 ⊢
  clear hnw hm2
  generalize q.mod = m at *
  generalize q.es.map Ent.p = M1 at *
  generalize q.ts.map Tck.p = M2 at *
  generalize q2.es.map Ent.p = M3 at *
  generalize q2.ts.map Tck.p = M4 at *
  generalize m.es.map Me.d = E at *
  obtain ⟨hJ1, hJ2⟩ := List.getElem?_eq_some_iff.1 hx
  refine run_code (s := s24 5) rfl rfl rfl (by kernel_rfl) ?_
  by_cases hB255 : (B : Int) = 255
  · simp [s24, eqCells, T3, T4, T5, T9, T22, T23, T25, T27, T28, T32, T34, T38, T40, T46, T49, T51, T54, T57, T65, T66, T72, T74, T76, T77, T79, T81, T87, T89, T90, T92, T101, T107, T109, T119, T125, T128, T130, T133, T140, T148, T150, T151, CT, CQ, QQ, hk5, hA4, hA10, w0, w1, w2, w3, w4, hB255, hfd, h29, hx, hJ1, hJ2, p1, p2, pJ, hEl]
  · simp [s24, eqCells, T3, T4, T5, T9, T22, T23, T25, T27, T28, T32, T34, T38, T40, T46, T49, T51, T54, T57, T65, T66, T72, T74, T76, T77, T79, T81, T87, T89, T90, T92, T101, T107, T109, T119, T125, T128, T130, T133, T140, T148, T150, T151, CT, CQ, QQ, hk5, hA4, hA10, w0, w1, w2, w3, w4, hB255, hfd, h29, hx, hJ1, hJ2, p1, p2, pJ, hEl]
set_option maxRecDepth 100000 in
set_option maxHeartbeats 8000000 in
theorem do24_exp (q q2 : Qs) (now : Int) (k A B : Nat) (hk : k % 5 = 4) (hA : A < 256) (hB : B < 256) (hq : 0 ≤ q.now ∧ q.now < 1000000) (hn : now = if B = 255 then q.now - 1 else q.now + ((A % 12 : Nat) : Int))
    (h45 : run CC 45 [.ptr 0 0, .ptr 2 0, .d (.int .i64 now)] (q.mod.obs ++ q.obk 2) = some (.d (.bool true), q2.mod.obs ++ q2.obk 2)) :
    run CC 24 [.ptr 0 0, .ptr 2 0, .d (.agg [.int .u8 k, .int .u8 A, .int .u8 B])] q.st = some (.d (.bool true), q2.st) := by
  have hk5 := rem_nat k 5
  have hA4 := rem_nat A 4
  have hA12 := rem_nat A 12
  rw [hk] at hk5
  have b1 : A % 4 < 4 := Nat.mod_lt _ (by omega)
  have b2 : A % 12 < 12 := Nat.mod_lt _ (by omega)
  have hnw : q.mod.nw = q.now := rfl
  rw [← hnw] at hq hn
  simp only [Int.cast_ofNat_Int] at hk5 hA4 hA12
  generalize A % 4 = a4 at *
  generalize A % 12 = a12 at *
  have w0 : IntKind.i64.wrap (a4 : Int) = a4 := wrap64 (by omega) (by omega)
  have w1 : IntKind.i64.wrap (q.mod.nw + (a4 : Int)) = q.mod.nw + a4 := wrap64 (by omega) (by omega)
  have w2 : IntKind.i64.wrap (q.mod.nw - 1) = q.mod.nw - 1 := wrap64 (by omega) (by omega)
  have w3 : IntKind.i64.wrap (a12 : Int) = a12 := wrap64 (by omega) (by omega)
  have w4 : IntKind.i64.wrap (q.mod.nw + (a12 : Int)) = q.mod.nw + a12 := wrap64 (by omega) (by omega)
  simp only [Qs.st, Qs.stm, Qs.obs, Qs.obk, Ms.obs, Ms.obm, List.cons_append, List.nil_append] at h45 ⊢
  clear hnw
  generalize q.mod = m at *
  generalize q2.mod = m2 at *
  generalize q.es.map Ent.p = M1 at *
  generalize q.ts.map Tck.p = M2 at *
  generalize q2.es.map Ent.p = M3 at *
  generalize q2.ts.map Tck.p = M4 at *
  generalize m.es.map Me.d = E at *
  generalize m2.es.map Me.d = E2 at *
  refine run_code (s := s24 5) rfl rfl rfl (by kernel_rfl) ?_
  by_cases hB255 : B = 255
  · subst hB255
    rw [if_pos rfl] at hn
    subst hn
    simp [s24, eqCells, T3, T4, T5, T9, T22, T23, T25, T27, T28, T32, T34, T38, T40, T46, T49, T51, T54, T57, T65, T66, T72, T74, T76, T77, T79, T81, T87, T89, T90, T92, T101, T107, T109, T119, T125, T128, T130, T133, T140, T148, T150, T151, CT, CQ, QQ, hk5, hA4, hA12, w0, w1, w2, w3, w4, h45]
  · rw [if_neg hB255] at hn
    subst hn
    have hB' : ¬ (B : Int) = 255 := by omega
    simp [s24, eqCells, T3, T4, T5, T9, T22, T23, T25, T27, T28, T32, T34, T38, T40, T46, T49, T51, T54, T57, T65, T66, T72, T74, T76, T77, T79, T81, T87, T89, T90, T92, T101, T107, T109, T119, T125, T128, T130, T133, T140, T148, T150, T151, CT, CQ, QQ, hk5, hA4, hA12, w0, w1, w2, w3, w4, h45, hB']
end Go.Proofs.YtdgpipoffcajgaaV
