/- Collect, SortFunc, SortedFunc. -/
import Derived.Test.YteidaaobppjlbaaPm21
set_option linter.unusedVariables false
set_option linter.unusedSimpArgs false
namespace Go.Proofs.YteidaaobppjlbaaV.Pd
open Go.RowKit
attribute [local simp] TK.agg constAV evalAV EK.has EK.hasAll vecEls elsR AV.toD toDs AV.cells AV.one joinD TyI.zeroD OpR.of binIntF binStrF AV.isPtr ptrNil slNil mpNil nilE eqF negF posF binF pelF pvLoad pelSet pvStore boxLoad epLoad loadF boxStore storeF fieldAddrF fieldF epOf indexAddrF byteF indexF mapLen lenF cutF sliceF sliceN sliceX isSl slice3F fillF arrFs buildF partsX landV buildSliceF roomB appVec appendF appMkF capF mmFrom mmF max2' min2' clearVec clearF convF unF pickF nilChkF extF ptrsOf callF makeSliceF sameKs sameD kindIs plainFs keyOk mapOb mapEs okV lookF lookupF putE putS mapPut mapUpdateF mapDel deleteF mapAll rangeM rangeF overV hitV nextO nextF entryM entryO entryF itOids builtinF capsOf allocF boxF bytesL bytesF byteTy strTy convertF makeFuncF makeMapF makeMapH opF reach reachOf AObj.live closedB nodupB packO packL packX backN backG backO obL backE frzX frzO AV.vids frzL landC sameObs landR touchF bitsW D.cells D.decEq D.decEqs AV.decEq AV.decEqs AObj.decEq AV.oids0 AV.oids AObj.oids renG renP AV.ren0 AV.ren envGet envPut envKeep obGet setEff putV St.put stepS keyChk chkD accD Ex.block AV.under AObj.under laysOf roomFor mkvO frzG szOk killO usedBy tidyS ghost ghostE normSt resOf allSome one0 resultsF finL finishL finish endF startEnv chkC backX comeC AV.flat0 rngC loopO layL endLp busyL idleL noRng rndSt rndEnd wpn_nil wpn_seq wpn_loop wpn_seq_exit wpn_loop_exit wpn_seq_ret wpn_loop_ret wpn_block wpn_post wpk_skip wpk_exit wpk_ret wpk_reg wpk_seq wpk_condT wpk_block wpk_loop wpk_pre wpk_post wop_nil wop_cons wop_guard St.know envSet cond_d cond_bool cond_int cond_str endE endQ freeB disj pushT bitsW int_beq int_bne eqS_def tbE fuelL_eq ann0_lays ann0_dd ann0_ro elsOf_dsl elsOf_dnils toNat_succ nn_succ pos_succ one_succ rng1 rng2 rng3 rng4 rng5 rng6 rng7 rng8 List.idxOf_cons wpk_rng rndK rndE
set_option maxRecDepth 100000 in
set_option maxHeartbeats 4000000 in
theorem app79_run (A : D) (l : List Chg) (hl : l.length < 100000) (hA : elsOf (.d A) = some (l.map Chg.enc)) :
    run CC 95 [.d .nils, .fn 80 [] [(0, 0)]] [.box [.d A]] = some (.vs 1 0 6 0 l.length, [.box [.d A], .vec 0 true false 26 6 (l.map Chg.enc)]) := by
  refine run_code (s := s95 1) rfl rfl rfl (by kernel_rfl) ?_
  have hv := vals73_run A l hl hA
  have htk : (l.map Chg.enc).take l.length = l.map Chg.enc := takeM _ _
  have hml : (l.map Chg.enc).length = l.length := by simp
  simp only [cos, List.map_nil, List.length_nil, List.cons_append, List.nil_append] at hv
  generalize l.map Chg.enc = E at *
  generalize l.length = n at *
  generalize l.isEmpty = e at *
  cases e
  all_goals simp [s95, eqCells, T2, T3, T4, T5, T6, T8, T9, T22, T26, T27, T30, T32, T37, T39, T54, T66, T73, T99, T110, T116, T135, T141, T148, T150, T157, CT, hv, htk, hml]
set_option maxRecDepth 100000 in
theorem coll71_run (A : D) (l : List Chg) (hl : l.length < 100000) (hA : elsOf (.d A) = some (l.map Chg.enc)) :
    run CC 78 [.fn 80 [] [(0, 0)]] [.box [.d A]] = some (.vs 1 0 6 0 l.length, [.box [.d A], .vec 0 true false 26 6 (l.map Chg.enc)]) := by
  refine run_code (s := s78 1) rfl rfl rfl (by kernel_rfl) ?_
  have hv := app79_run A l hl hA
  have htk : (l.map Chg.enc).take l.length = l.map Chg.enc := takeM _ _
  have hml : (l.map Chg.enc).length = l.length := by simp
  generalize l.map Chg.enc = E at *
  generalize l.length = n at *
  simp [s78, eqCells, T2, T3, T4, T5, T6, T8, T9, T22, T26, T27, T30, T32, T37, T39, T54, T66, T73, T99, T110, T116, T135, T141, T148, T150, T157, CT, hv, htk, hml]
theorem vals59_run (A : D) (hA : AV.one (.d A) = true) (hA' : AV.cells (.d A) = [.d A]) : run CC 63 [.d A] [] = some (.fn 80 [] [(0, 0)], [.box [.d A]]) := by
  refine run_code (s := s63 0) rfl rfl rfl (by kernel_rfl) ?_
  simp only [AV.one, AV.cells] at hA hA'
  simp [s63, eqCells, T2, T3, T4, T5, T6, T8, T9, T22, T26, T27, T30, T32, T37, T39, T54, T66, T73, T99, T110, T116, T135, T141, T148, T150, T157, CT, hA, hA']
end Go.Proofs.YteidaaobppjlbaaV.Pd
