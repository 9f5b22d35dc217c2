/- The law QueueNil: the walk. -/
import Derived.Test.YtdgpipoffcajgaaQa1
set_option linter.unusedVariables false
set_option linter.unusedSimpArgs false
namespace Go.Proofs.YtdgpipoffcajgaaV
open Go.RowKit
attribute [local simp] TK.agg constAV evalAV EK.has EK.hasAll vecEls elsR AV.toD toDs AV.cells AV.one joinD TyI.zeroD OpR.of binIntF binStrF AV.isPtr ptrNil slNil mpNil nilE eqF negF posF binF pelF pvLoad pelSet pvStore boxLoad epLoad loadF boxStore storeF fieldAddrF fieldF epOf indexAddrF byteF indexF mapLen lenF cutF sliceF sliceN sliceX isSl slice3F fillF fillV arrFs buildF partsX landV buildSliceF roomB appVec appendF appMkF capF mmFrom mmF max2' min2' clearVec clearF convF unF pickF nilChkF extF ptrsOf callF makeSliceF sameKs sameD kindIs plainFs keyOk mapOb mapEs okV lookF lookupF putE putS mapPut mapUpdateF mapDel deleteF mapAll rangeM rangeF overV hitV nextO nextF entryM entryO entryF itOids builtinF capsOf allocF boxF bytesL bytesF byteTy strTy convertF makeFuncF makeMapF makeMapH opF reach reachOf AObj.live closedB nodupB packO packL packX backN backG backO obL backE frzX frzO AV.vids frzL landC sameObs landR touchF bitsW D.cells D.decEq D.decEqs AV.decEq AV.decEqs AObj.decEq AV.oids0 AV.oids AObj.oids renG renP AV.ren0 AV.ren envGet envPut envKeep obGet setEff putV St.put stepS keyChk chkD accD Ex.block AV.under AObj.under laysOf roomFor mkvO frzG szOk killO usedBy tidyS ghost ghostE normSt resOf allSome one0 resultsF finL finishL finish endF startEnv chkC backX comeC AV.flat0 rngC loopO layL endLp busyL idleL noRng rndSt rndEnd wpn_nil wpn_seq wpn_loop wpn_seq_exit wpn_loop_exit wpn_seq_ret wpn_loop_ret wpn_block wpn_post wpk_skip wpk_exit wpk_ret wpk_reg wpk_seq wpk_condT wpk_block wpk_loop wpk_pre wpk_post wop_nil wop_cons wop_guard St.know envSet cond_d cond_bool cond_int cond_str endE endQ freeB disj pushT bitsW int_beq int_bne eqS_def tbE fuelL_eq ann0_lays ann0_dd ann0_ro elsOf_dsl elsOf_dnils toNat_succ nn_succ pos_succ one_succ rng1 rng2 rng3 rng4 rng5 rng6 rng7 rng8 List.idxOf_cons wpk_rng rndK rndE
set_option maxRecDepth 100000 in
set_option maxHeartbeats 4000000 in
theorem law11_run (a s n : Int) (S X : D) (ls lx : List D) (hS : elsOf (.d S) = some ls) (hX : elsOf (.d X) = some lx) : run CC 11 [.d (.agg [.int .i64 a, .int .i64 s, S, X]), .d (.int .i64 n)] [] = some (.d (.bool true), []) := by
  refine run_code (s := s11 0) rfl rfl rfl (by kernel_rfl) ?_
  obtain ⟨s1, s2, s3⟩ := slF hS
  obtain ⟨x1, x2, x3⟩ := slF hX
  have ho := offer_nil a s S X s1 x1
  simp only [AV.one] at s1 x1
  by_cases c1 : (5 : Int) < ls.length
  · simp [s11, eqCells, T3, T4, T5, T9, T22, T23, T25, T27, T28, T32, T34, T38, T40, T46, T49, T51, T72, T74, T76, T77, T79, T81, T87, T89, T90, T92, T101, T107, T109, T119, T125, T128, T130, T133, T140, T148, T150, T151, CT, s1, x1, hS, hX, known_run, c1]
  by_cases c2 : (5 : Int) < lx.length
  · simp [s11, eqCells, T3, T4, T5, T9, T22, T23, T25, T27, T28, T32, T34, T38, T40, T46, T49, T51, T72, T74, T76, T77, T79, T81, T87, T89, T90, T92, T101, T107, T109, T119, T125, T128, T130, T133, T140, T148, T150, T151, CT, s1, x1, hS, hX, known_run, c1, c2]
  have h1 := lease_nil n
  have h2 := expire_nil n
  have h3 := ack_nil n
  have h4 := release_nil n
  have h5 := credit_nil n
  have h6 := same_zero
  have w0 : IntKind.i64.wrap 0 = 0 := by decide
  simp only [zT, zF] at h1 h6
  simp [s11, eqCells, T3, T4, T5, T9, T22, T23, T25, T27, T28, T32, T34, T38, T40, T46, T49, T51, T72, T74, T76, T77, T79, T81, T87, T89, T90, T92, T101, T107, T109, T119, T125, T128, T130, T133, T140, T148, T150, T151, CT, CQ, QQ, s1, x1, hS, hX, known_run, c1, c2, h1, h2, begin0_run, h6, ho, h3, h4, h5, len_nil, now_nil, waiting_nil, leased_nil, clone_nil, equal_nils, equal_nil1, equal_nil2, w0]
end Go.Proofs.YtdgpipoffcajgaaV
