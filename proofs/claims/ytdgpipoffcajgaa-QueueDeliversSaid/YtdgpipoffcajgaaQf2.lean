/- do: Ack, Release, Expire. -/
import Derived.Test.YtdgpipoffcajgaaQf1
set_option linter.unusedVariables false
set_option linter.unusedSimpArgs false
namespace Go.Proofs.YtdgpipoffcajgaaV
open Go.RowKit
attribute [local simp] TK.agg constAV evalAV EK.has EK.hasAll vecEls elsR AV.toD toDs AV.cells AV.one joinD TyI.zeroD OpR.of binIntF binStrF AV.isPtr ptrNil slNil mpNil nilE eqF negF posF binF pelF pvLoad pelSet pvStore boxLoad epLoad loadF boxStore storeF fieldAddrF fieldF epOf indexAddrF byteF indexF mapLen lenF cutF sliceF sliceN sliceX isSl slice3F fillF fillV arrFs buildF partsX landV buildSliceF roomB appVec appendF appMkF capF mmFrom mmF max2' min2' clearVec clearF convF unF pickF nilChkF extF ptrsOf callF makeSliceF sameKs sameD kindIs plainFs keyOk mapOb mapEs okV lookF lookupF putE putS mapPut mapUpdateF mapDel deleteF mapAll rangeM rangeF overV hitV nextO nextF entryM entryO entryF itOids builtinF capsOf allocF boxF bytesL bytesF byteTy strTy convertF makeFuncF mapNew makeMapF makeMapH opF reach reachOf AObj.live closedB nodupB packO packL packX backN backG backO obL backE frzX frzO AV.vids frzL landC sameObs landR touchF bitsW D.cells D.decEq D.decEqs AV.decEq AV.decEqs AObj.decEq AV.oids0 AV.oids AObj.oids renG renP AV.ren0 AV.ren envGet envPut envKeep obGet setEff putV St.put stepS keyChk chkD accD Ex.block AV.under AObj.under laysOf roomFor mkvO frzG szOk killO usedBy tidyS canL canS ghost ghostE normSt resOf allSome one0 resultsF finL finishL finish endF startEnv chkC backX comeC AV.flat0 rngC loopO layL endLp busyL idleL noRng rndSt rndEnd wpn_nil wpn_seq wpn_loop wpn_seq_exit wpn_loop_exit wpn_seq_ret wpn_loop_ret wpn_block wpn_post wpk_skip wpk_exit wpk_ret wpk_reg wpk_seq wpk_condT wpk_block wpk_loop wpk_pre wpk_post wop_nil wop_cons wop_guard St.know envSet cond_d cond_bool cond_int cond_str endE endQ freeB disj pushT bitsW int_beq int_bne eqS_def tbE fuelL_eq ann0_lays ann0_dd ann0_ro elsOf_dsl elsOf_dnils toNat_succ nn_succ pos_succ one_succ rng1 rng2 rng3 rng4 rng5 rng6 rng7 rng8 List.idxOf_cons wpk_rng rndK rndE
/-- Behind an Ack: the model's list is a new one. -/
abbrev Qs.sta (q : Qs) (E : List D) : List AObj := [.box [.d (.int .i64 q.mod.la), .d (.int .i64 q.mod.lb), .d (.int .i64 q.mod.lc), .vs 5 0 8 0 q.mod.es.length, .d (.int .i64 q.mod.nx), .d (.int .i64 q.mod.sv), .d (.int .i64 q.mod.nw)], .vec 0 false false 101 8 E] ++ q.obk 2 ++ [.vec 0 true false 101 8 (q.mod.es.map Me.d)]
set_option maxRecDepth 100000 in
set_option maxHeartbeats 8000000 in
theorem do24_ack (q q2 : Qs) (J : Nat) (k A B : Nat) (hk : k % 5 = 2) (hA : A < 256) (hB : B < 256) (hq : 0 ≤ q.now ∧ q.now < 1000000) (hl : q.es.length ≤ 12)
    (hfd : run CC 46 [.ptr 0 0, .d (.int .i64 (1 + ((A % 10 : Nat) : Int)))] q.mod.obs = some (.d (.int .i64 J), q.mod.obs)) (hJ : J < q.es.length)
    (h27 : run CC 27 [.ptr 0 0, .d (.int .i64 (1 + ((A % 10 : Nat) : Int)))] q.obs = some (.d (.int .i64 0), q2.obs))
    (hm2 : q2.mod = { q.mod with es := q.mod.es.take J ++ q.mod.es.drop (J + 1) }) :
    run CC 24 [.ptr 0 0, .ptr 2 0, .d (.agg [.int .u8 k, .int .u8 A, .int .u8 B])] q.st = some (.d (.bool true), q2.sta (q.mod.es.map Me.d)) := by
  have hk5 := rem_nat k 5
  have hA4 := rem_nat A 4
  have hA10 := rem_nat A 10
  rw [hk] at hk5
  have b1 : A % 4 < 4 := Nat.mod_lt _ (by omega)
  have b2 : A % 10 < 10 := Nat.mod_lt _ (by omega)
  have hnw : q.mod.nw = q.now := rfl
  rw [← hnw] at hq
  simp only [Int.cast_ofNat_Int] at hk5 hA4 hA10
  generalize A % 4 = a4 at *
  generalize A % 10 = a10 at *
  have w0 : IntKind.i64.wrap (a4 : Int) = a4 := wrap64 (by omega) (by omega)
  have w1 : IntKind.i64.wrap (q.mod.nw + (a4 : Int)) = q.mod.nw + a4 := wrap64 (by omega) (by omega)
  have w2 : IntKind.i64.wrap (q.mod.nw - 1) = q.mod.nw - 1 := wrap64 (by omega) (by omega)
  have w3 : IntKind.i64.wrap (a10 : Int) = a10 := wrap64 (by omega) (by omega)
  have w4 : IntKind.i64.wrap (1 + (a10 : Int)) = 1 + a10 := wrap64 (by omega) (by omega)
  have w5 : IntKind.i64.wrap ((J : Int) + 1) = (J : Int) + 1 := wrap64 (by omega) (by omega)
  have p1 : ¬ (J : Int) < 0 := by omega
  have hle : q.mod.es.length = q.es.length := mod_len q
  have p2 : (J : Int) ≤ q.mod.es.length := by omega
  have p3 : (J : Int) + 1 ≤ q.mod.es.length := by omega
  have pJ : J ≤ q.mod.es.length := by omega
  have hE2 : (q.mod.es.take J ++ q.mod.es.drop (J + 1)).map Me.d = (q.mod.es.map Me.d).take J ++ (q.mod.es.map Me.d).drop (J + 1) := by rw [List.map_append, List.map_take, List.map_drop]
  have hl2 : (q.mod.es.take J ++ q.mod.es.drop (J + 1)).length = q.mod.es.length - 1 := by simp; omega
  have hEl : (q.mod.es.map Me.d).length = q.mod.es.length := by simp
  have hz1 : szAll 8 ((q.mod.es.map Me.d).take J) = true := by rw [← List.map_take]; exact szAll_map Me.d 8 (fun _ => rfl) _
  have hz2 : szAll 8 ((q.mod.es.map Me.d).drop (J + 1)) = true := by rw [← List.map_drop]; exact szAll_map Me.d 8 (fun _ => rfl) _
  have htl : ((q.mod.es.map Me.d).take J).length = J := by simp; omega
  have hdl : ((q.mod.es.map Me.d).drop (J + 1)).length = q.mod.es.length - (J + 1) := by simp
  simp only [Qs.st, Qs.stm, Qs.sta, Qs.obs, Qs.obk, Ms.obs, Ms.obm, List.cons_append, List.nil_append] at hfd h27 ⊢
  rw [hm2]
  dsimp only
  rw [hE2, hl2]
  clear hnw hE2 hl2 hm2
  generalize q.mod = m at *
  generalize q.es.map Ent.p = M1 at *
  generalize q.ts.map Tck.p = M2 at *
  generalize q2.es.map Ent.p = M3 at *
  generalize q2.ts.map Tck.p = M4 at *
  generalize m.es.map Me.d = E at *
  have htk : E.take m.es.length = E := List.take_of_length_le (by omega)
  have htk2 : (E.take m.es.length).drop (J + 1) = E.drop (J + 1) := by rw [htk]
  have r1 : J * 96 ≤ 140737488355328 := by omega
  have r2 : J ≤ 9223372036854775807 := by omega
  have r3 : (J + (m.es.length - (J + 1))) * 96 ≤ 140737488355328 := by omega
  have r4 : J + (m.es.length - (J + 1)) ≤ 9223372036854775807 := by omega
  have r5 : (m.es.length - 1) * 96 ≤ 140737488355328 := by omega
  have r6 : m.es.length ≤ 9223372036854775808 := by omega
  have tt : List.take J (List.take J E) = List.take J E := by rw [List.take_take, Nat.min_self]
  have n1 : J + (m.es.length - (J + 1)) = m.es.length - 1 := by omega
  have n2 : ((J : Int) + 1).toNat = J + 1 := by omega
  refine run_code (s := s24 5) rfl rfl rfl (by kernel_rfl) ?_
  by_cases hB255 : (B : Int) = 255
  · simp [s24, eqCells, T3, T4, T5, T9, T22, T23, T25, T27, T28, T32, T34, T38, T40, T46, T49, T51, T54, T57, T65, T66, T72, T74, T76, T77, T79, T81, T87, T89, T90, T92, T101, T107, T109, T119, T125, T128, T130, T133, T140, T148, T150, T151, CT, CQ, QQ, hk5, hA4, hA10, w0, w1, w2, w3, w4, w5, hB255, hfd, h27, p1, p2, p3, pJ, hEl, hz1, hz2, htl, hdl, htk, htk2, r1, r2, r3, r4, r5, r6, tt, n1, n2]
  · simp [s24, eqCells, T3, T4, T5, T9, T22, T23, T25, T27, T28, T32, T34, T38, T40, T46, T49, T51, T54, T57, T65, T66, T72, T74, T76, T77, T79, T81, T87, T89, T90, T92, T101, T107, T109, T119, T125, T128, T130, T133, T140, T148, T150, T151, CT, CQ, QQ, hk5, hA4, hA10, w0, w1, w2, w3, w4, w5, hB255, hfd, h27, p1, p2, p3, pJ, hEl, hz1, hz2, htl, hdl, htk, htk2, r1, r2, r3, r4, r5, r6, tt, n1, n2]
end Go.Proofs.YtdgpipoffcajgaaV
