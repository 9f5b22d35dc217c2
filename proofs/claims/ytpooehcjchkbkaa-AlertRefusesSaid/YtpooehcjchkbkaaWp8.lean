/- Clone; a clone's methods. -/
import Derived.Test.YtpooehcjchkbkaaWp7
set_option linter.unusedVariables false
set_option linter.unusedSimpArgs false
namespace Go.Proofs.YtpooehcjchkbkaaV
open Go.RowKit
attribute [local simp] TK.agg constAV evalAV EK.has EK.hasAll vecEls elsR AV.toD toDs AV.cells AV.one joinD TyI.zeroD OpR.of binIntF binStrF AV.isPtr ptrNil slNil mpNil nilE eqF negF posF binF pelF pvLoad pelSet pvStore boxLoad epLoad loadF boxStore storeF fieldAddrF fieldF epOf indexAddrF byteF indexF mapLen lenF cutF sliceF sliceN sliceX isSl slice3F fillF fillV arrFs buildF partsX landV buildSliceF roomB appVec appendF appMkF capF mmFrom mmF max2' min2' clearVec clearF convF unF pickF nilChkF extF ptrsOf callF makeSliceF sameKs sameD kindIs plainFs keyOk mapOb mapEs okV lookF lookupF putE putS mapPut mapUpdateF mapDel deleteF mapAll rangeM rangeF overV hitV nextO nextF entryM entryO entryF itOids builtinF capsOf allocF boxF bytesL bytesF byteTy strTy convertF makeFuncF mapNew makeMapF makeMapH opF reach reachOf AObj.live closedB nodupB packO packL packX backN backG backO obL backE frzX frzO AV.vids frzL landC sameObs landR touchF bitsW D.cells D.decEq D.decEqs AV.decEq AV.decEqs AObj.decEq AV.oids0 AV.oids AObj.oids renG renP AV.ren0 AV.ren envGet envPut envKeep obGet setEff putV St.put stepS keyChk chkD accD Ex.block AV.under AObj.under laysOf roomFor mkvO frzG szOk killO usedBy tidyS canL canS ghost ghostE normSt resOf allSome one0 resultsF finL finishL finish endF startEnv chkC backX comeC AV.flat0 rngC loopO layL endLp busyL idleL noRng rndSt rndEnd wpn_nil wpn_seq wpn_loop wpn_seq_exit wpn_loop_exit wpn_seq_ret wpn_loop_ret wpn_block wpn_post wpk_skip wpk_exit wpk_ret wpk_reg wpk_seq wpk_condT wpk_block wpk_loop wpk_pre wpk_post wop_nil wop_cons wop_guard St.know envSet cond_d cond_bool cond_int cond_str endE endQ freeB disj pushT bitsW int_beq int_bne eqS_def tbE fuelL_eq ann0_lays ann0_dd ann0_ro elsOf_dsl elsOf_dnils toNat_succ nn_succ pos_succ one_succ rng1 rng2 rng3 rng4 rng5 rng6 rng7 rng8 List.idxOf_cons wpk_rng rndK rndE
theorem md_drop (M : Mon) : (monD M).drop 1034 = [.int .i64 M.state] := by
  have h := md_g1034 M
  have hl := md_len M
  have hlt : 1034 < (monD M).length := by omega
  rw [List.drop_eq_getElem_cons hlt, md_e h hlt, List.drop_eq_nil_of_le (by omega)]
theorem sz_mon (Ms : List Mon) : szAll 1035 (monLs Ms) = true := szAll_iff.2 fun y hy => by
  obtain ⟨M, _, rfl⟩ := List.mem_map.1 hy
  exact md_len M
set_option maxRecDepth 100000 in
set_option maxHeartbeats 4000000 in
theorem clone43_run (Ms : List Mon) (h0 : 0 < Ms.length) (hn : Ms.length < 1000) : run CC 43 [.vs 0 0 1035 0 Ms.length] [.vec 0 false false 91 1035 (monLs Ms)] = some (.d (.sl (monLs Ms)), [.vec 0 false false 91 1035 (monLs Ms)]) := by
  have hz := sz_mon Ms
  have hll : (monLs Ms).length = Ms.length := by simp
  have htk : (monLs Ms).take Ms.length = monLs Ms := List.take_of_length_le (by omega)
  have r1 : Ms.length * 12400 ≤ 140737488355328 := by omega
  have r2 : Ms.length ≤ 9223372036854775807 := by omega
  generalize monLs Ms = L at *
  refine run_code (s := s43 1) rfl rfl rfl (by kernel_rfl) ?_
  simp [s43, eqCells, T3, T4, T5, T9, T23, T25, T27, T32, T33, T35, T39, T50, T52, T57, T59, T64, T65, T66, T70, T71, T77, T81, T83, T88, T89, T91, T95, T97, T99, T100, T112, CT, h0, hz, hll, htk, r1, r2]
set_option maxRecDepth 100000 in
set_option maxHeartbeats 4000000 in
theorem clone33_run (Ms : List Mon) (h0 : 0 < Ms.length) (hn : Ms.length < 1000) (slot : Int) : run CC 33 [.ptr 0 0] (engO Ms slot) = some (.ptr 2 0, engO Ms slot ++ [.box [.d (.sl (monLs Ms)), .d (.int .i64 slot)]]) := by
  have h := clone43_run Ms h0 hn
  unfold engO
  generalize monLs Ms = L at *
  refine run_code (s := s33 2) rfl rfl rfl (by kernel_rfl) ?_
  simp [s33, eqCells, T3, T4, T5, T9, T23, T25, T27, T32, T33, T35, T39, T50, T52, T57, T59, T64, T65, T66, T70, T71, T77, T81, T83, T88, T89, T91, T95, T97, T99, T100, T112, CT, h]
set_option maxRecDepth 100000 in
set_option maxHeartbeats 4000000 in
theorem firing32_none (Ms : List Mon) (hn : Ms.length < 1000) (hq : ∀ M ∈ Ms, M.state ≠ 2) (slot : Int) : run CC 32 [.ptr 0 0] [.box [.d (.sl (monLs Ms)), .d (.int .i64 slot)]] = some (.d (.sl []), [.box [.d (.sl (monLs Ms)), .d (.int .i64 slot)]]) := by
  have hg := fun i hi => mon_at2 (Ms := Ms) (i := i) hi
  have hll : (monLs Ms).length = Ms.length := by simp
  generalize hL : monLs Ms = L at *
  refine run_code (s := s32 1) rfl rfl rfl (by kernel_rfl) ?_
  simp [s32, eqCells, T3, T4, T5, T9, T23, T25, T27, T32, T33, T35, T39, T50, T52, T57, T59, T64, T65, T66, T70, T71, T77, T81, T83, T88, T89, T91, T95, T97, T99, T100, T112, CT, hll]
  refine wlp_inv (S := fun j : Nat => ⟨[(0, .ptr 0 0), (3, .vs 1 0 1 0 0), (11, .d (.int .i64 Ms.length)), (12, .d (.int .i64 j))], [.box [.d (.sl L), .d (.int .i64 slot)], .vec 0 true false 9 1 []]⟩) (m := fun j => Ms.length - j) (Inv := fun j => j ≤ Ms.length) ?_ 0 (Nat.zero_le _)
  rintro j hj ih
  rw [e32_1]
  by_cases hlt : j < Ms.length
  · have hx := hg j hlt
    have hEj : j < L.length := by omega
    have hEe := (List.getElem?_eq_some_iff.1 hx).2
    have w1 : IntKind.i64.wrap ((j : Int) + 1) = (j : Int) + 1 := wrap64 (by omega) (by omega)
    have p1 : (j : Int) < Ms.length := by omega
    have k1 := md_drop Ms[j]
    have ml := md_len Ms[j]
    have hc := hq _ (List.getElem_mem hlt)
    have ih2 := ih (j + 1) (by omega) (by omega)
    clear ih hg hq
    generalize Ms[j] = M at *
    try simp at ih2
    simp [c32_1, eqCells, T3, T4, T5, T9, T23, T25, T27, T32, T33, T35, T39, T50, T52, T57, T59, T64, T65, T66, T70, T71, T77, T81, T83, T88, T89, T91, T95, T97, T99, T100, T112, CT, hx, hEj, hEe, p1, w1, hlt, hll, k1, ml, hc]
    exact ih2
  · have e : j = Ms.length := by omega
    subst e
    clear ih hg hq
    simp [c32_1, eqCells, T3, T4, T5, T9, T23, T25, T27, T32, T33, T35, T39, T50, T52, T57, T59, T64, T65, T66, T70, T71, T77, T81, T83, T88, T89, T91, T95, T97, T99, T100, T112, CT]
end Go.Proofs.YtpooehcjchkbkaaV
