/- known; begin; the methods of a nil queue. -/
import Derived.Test.YtdgpipoffcajgaaWcAA
import Derived.Test.YtdgpipoffcajgaaVD
set_option linter.unusedVariables false
set_option linter.unusedSimpArgs false
namespace Go.Proofs.YtdgpipoffcajgaaV
open Go.RowKit
attribute [local simp] TK.agg constAV evalAV EK.has EK.hasAll vecEls elsR AV.toD toDs AV.cells AV.one joinD TyI.zeroD OpR.of binIntF binStrF AV.isPtr ptrNil slNil mpNil nilE eqF negF posF binF pelF pvLoad pelSet pvStore boxLoad epLoad loadF boxStore storeF fieldAddrF fieldF epOf indexAddrF byteF indexF mapLen lenF cutF sliceF sliceN sliceX isSl slice3F fillF fillV arrFs buildF partsX landV buildSliceF roomB appVec appendF appMkF capF mmFrom mmF max2' min2' clearVec clearF convF unF pickF nilChkF extF ptrsOf callF makeSliceF sameKs sameD kindIs plainFs keyOk mapOb mapEs okV lookF lookupF putE putS mapPut mapUpdateF mapDel deleteF mapAll rangeM rangeF overV hitV nextO nextF entryM entryO entryF itOids builtinF capsOf allocF boxF bytesL bytesF byteTy strTy convertF makeFuncF makeMapF makeMapH opF reach reachOf AObj.live closedB nodupB packO packL packX backN backG backO obL backE frzX frzO AV.vids frzL landC sameObs landR touchF bitsW D.cells D.decEq D.decEqs AV.decEq AV.decEqs AObj.decEq AV.oids0 AV.oids AObj.oids renG renP AV.ren0 AV.ren envGet envPut envKeep obGet setEff putV St.put stepS keyChk chkD accD Ex.block AV.under AObj.under laysOf roomFor mkvO frzG szOk killO usedBy tidyS ghost ghostE normSt resOf allSome one0 resultsF finL finishL finish endF startEnv chkC backX comeC AV.flat0 rngC loopO layL endLp busyL idleL noRng rndSt rndEnd wpn_nil wpn_seq wpn_loop wpn_seq_exit wpn_loop_exit wpn_seq_ret wpn_loop_ret wpn_block wpn_post wpk_skip wpk_exit wpk_ret wpk_reg wpk_seq wpk_condT wpk_block wpk_loop wpk_pre wpk_post wop_nil wop_cons wop_guard St.know envSet cond_d cond_bool cond_int cond_str endE endQ freeB disj pushT bitsW int_beq int_bne eqS_def tbE fuelL_eq ann0_lays ann0_dd ann0_ro elsOf_dsl elsOf_dnils toNat_succ nn_succ pos_succ one_succ rng1 rng2 rng3 rng4 rng5 rng6 rng7 rng8 List.idxOf_cons wpk_rng rndK rndE
theorem known_run : run CC 12 [] [] = some (.d (.bool true), []) := run_of_go 3000 (by kernel_rfl)
def zF : D := .agg [.int .i64 0, .int .i64 0, .nils, .nils]
def zT : D := .agg [.int .i64 0, .int .i64 0, .int .i64 0, .int .i64 0]
theorem begin0_run : run CC 13 [.d (.agg [.int .u8 0, .int .u8 0, .int .u8 0])] [] = some (.tup [.ptr 0 0, .ptr 3 0], [.box [.d (.int .i64 1), .d (.int .i64 1), .d (.int .i64 1), .mp 1, .mp 2, .d (.int .i64 0), .d (.int .i64 0), .d (.int .i64 0), .d (.int .i64 0)], .map [], .map [], .box [.d (.int .i64 1), .d (.int .i64 1), .d (.int .i64 1), .d .nils, .d (.int .i64 1), .d (.int .i64 0), .d (.int .i64 0)]]) := run_of_go 500 (by kernel_rfl)
set_option maxRecDepth 100000 in
theorem lease_nil (n : Int) : run CC 17 [.nilp, .d (.int .i64 n)] [] = some (.tup [.d zT, .d zF, .d (.int .i64 1)], []) := by
  refine run_code (s := s17 0) rfl rfl rfl (by kernel_rfl) ?_
  simp [s17, zT, zF, eqCells, T3, T4, T5, T9, T22, T23, T25, T27, T28, T32, T34, T38, T40, T46, T49, T51, T72, T74, T76, T77, T79, T81, T87, T89, T90, T92, T101, T107, T109, T119, T125, T128, T130, T133, T140, T148, T150, T151, CT]
set_option maxRecDepth 100000 in
theorem expire_nil (n : Int) : run CC 26 [.nilp, .d (.int .i64 n)] [] = some (.tup [.d .nils, .d (.int .i64 1)], []) := by
  refine run_code (s := s26 0) rfl rfl rfl (by kernel_rfl) ?_
  simp [s26, eqCells, T3, T4, T5, T9, T22, T23, T25, T27, T28, T32, T34, T38, T40, T46, T49, T51, T72, T74, T76, T77, T79, T81, T87, T89, T90, T92, T101, T107, T109, T119, T125, T128, T130, T133, T140, T148, T150, T151, CT]
set_option maxRecDepth 100000 in
theorem offer_nil (a s : Int) (S X : D) (hS : AV.one (.d S) = true) (hX : AV.one (.d X) = true) : run CC 15 [.nilp, .d (.agg [.int .i64 a, .int .i64 s, S, X])] [] = some (.d (.int .i64 1), []) := by
  refine run_code (s := s15 0) rfl rfl rfl (by kernel_rfl) ?_
  simp only [AV.one] at hS hX
  simp [s15, eqCells, T3, T4, T5, T9, T22, T23, T25, T27, T28, T32, T34, T38, T40, T46, T49, T51, T72, T74, T76, T77, T79, T81, T87, T89, T90, T92, T101, T107, T109, T119, T125, T128, T130, T133, T140, T148, T150, T151, CT, hS, hX]
set_option maxRecDepth 100000 in
theorem ack_nil (n : Int) : run CC 27 [.nilp, .d (.int .i64 n)] [] = some (.d (.int .i64 1), []) := by
  refine run_code (s := s27 0) rfl rfl rfl (by kernel_rfl) ?_
  simp [s27, eqCells, T3, T4, T5, T9, T22, T23, T25, T27, T28, T32, T34, T38, T40, T46, T49, T51, T72, T74, T76, T77, T79, T81, T87, T89, T90, T92, T101, T107, T109, T119, T125, T128, T130, T133, T140, T148, T150, T151, CT]
set_option maxRecDepth 100000 in
theorem release_nil (n : Int) : run CC 29 [.nilp, .d (.int .i64 n)] [] = some (.d (.int .i64 1), []) := by
  refine run_code (s := s29 0) rfl rfl rfl (by kernel_rfl) ?_
  simp [s29, eqCells, T3, T4, T5, T9, T22, T23, T25, T27, T28, T32, T34, T38, T40, T46, T49, T51, T72, T74, T76, T77, T79, T81, T87, T89, T90, T92, T101, T107, T109, T119, T125, T128, T130, T133, T140, T148, T150, T151, CT]
set_option maxRecDepth 100000 in
theorem credit_nil (n : Int) : run CC 14 [.nilp, .d (.int .i64 n)] [] = some (.d (.int .i64 0), []) := by
  refine run_code (s := s14 0) rfl rfl rfl (by kernel_rfl) ?_
  simp [s14, eqCells, T3, T4, T5, T9, T22, T23, T25, T27, T28, T32, T34, T38, T40, T46, T49, T51, T72, T74, T76, T77, T79, T81, T87, T89, T90, T92, T101, T107, T109, T119, T125, T128, T130, T133, T140, T148, T150, T151, CT]
theorem len_nil : run CC 16 [.nilp] [] = some (.d (.int .i64 0), []) := run_of_go 200 (by kernel_rfl)
theorem now_nil : run CC 20 [.nilp] [] = some (.d (.int .i64 0), []) := run_of_go 200 (by kernel_rfl)
theorem waiting_nil : run CC 21 [.nilp] [] = some (.d .nils, []) := run_of_go 200 (by kernel_rfl)
theorem leased_nil : run CC 22 [.nilp] [] = some (.d .nils, []) := run_of_go 200 (by kernel_rfl)
theorem clone_nil : run CC 30 [.nilp] [] = some (.nilp, []) := run_of_go 200 (by kernel_rfl)
theorem equal_nils : run CC 31 [.nilp, .nilp] [] = some (.d (.bool true), []) := run_of_go 200 (by kernel_rfl)
abbrev q0 : List AObj := [.box [.d (.int .i64 1), .d (.int .i64 1), .d (.int .i64 1), .mp 1, .mp 2, .d (.int .i64 0), .d (.int .i64 0), .d (.int .i64 0), .d (.int .i64 0)], .map [], .map []]
theorem equal_nil1 : run CC 31 [.nilp, .ptr 0 0] q0 = some (.d (.bool false), q0) := run_of_go 300 (by kernel_rfl)
theorem equal_nil2 : run CC 31 [.ptr 0 0, .nilp] q0 = some (.d (.bool false), q0) := run_of_go 300 (by kernel_rfl)
theorem same_zero : run CC 18 [.d zF, .d zF] [] = some (.d (.bool true), []) := run_of_go 500 (by kernel_rfl)
end Go.Proofs.YtdgpipoffcajgaaV
