/- Observe: too late; what New's monitors are like. -/
import Derived.Test.YtpooehcjchkbkaaWp8
set_option linter.unusedVariables false
set_option linter.unusedSimpArgs false
namespace Go.Proofs.YtpooehcjchkbkaaV
open Go.RowKit
attribute [local simp] TK.agg constAV evalAV EK.has EK.hasAll vecEls elsR AV.toD toDs AV.cells AV.one joinD TyI.zeroD OpR.of binIntF binStrF AV.isPtr ptrNil slNil mpNil nilE eqF negF posF binF pelF pvLoad pelSet pvStore boxLoad epLoad loadF boxStore storeF fieldAddrF fieldF epOf indexAddrF byteF indexF mapLen lenF cutF sliceF sliceN sliceX isSl slice3F fillF fillV arrFs buildF partsX landV buildSliceF roomB appVec appendF appMkF capF mmFrom mmF max2' min2' clearVec clearF convF unF pickF nilChkF extF ptrsOf callF makeSliceF sameKs sameD kindIs plainFs keyOk mapOb mapEs okV lookF lookupF putE putS mapPut mapUpdateF mapDel deleteF mapAll rangeM rangeF overV hitV nextO nextF entryM entryO entryF itOids builtinF capsOf allocF boxF bytesL bytesF byteTy strTy convertF makeFuncF mapNew makeMapF makeMapH opF reach reachOf AObj.live closedB nodupB packO packL packX backN backG backO obL backE frzX frzO AV.vids frzL landC sameObs landR touchF bitsW D.cells D.decEq D.decEqs AV.decEq AV.decEqs AObj.decEq AV.oids0 AV.oids AObj.oids renG renP AV.ren0 AV.ren envGet envPut envKeep obGet setEff putV St.put stepS keyChk chkD accD Ex.block AV.under AObj.under laysOf roomFor mkvO frzG szOk killO usedBy tidyS canL canS ghost ghostE normSt resOf allSome one0 resultsF finL finishL finish endF startEnv chkC backX comeC AV.flat0 rngC loopO layL endLp busyL idleL noRng rndSt rndEnd wpn_nil wpn_seq wpn_loop wpn_seq_exit wpn_loop_exit wpn_seq_ret wpn_loop_ret wpn_block wpn_post wpk_skip wpk_exit wpk_ret wpk_reg wpk_seq wpk_condT wpk_block wpk_loop wpk_pre wpk_post wop_nil wop_cons wop_guard St.know envSet cond_d cond_bool cond_int cond_str endE endQ freeB disj pushT bitsW int_beq int_bne eqS_def tbE fuelL_eq ann0_lays ann0_dd ann0_ro elsOf_dsl elsOf_dnils toNat_succ nn_succ pos_succ one_succ rng1 rng2 rng3 rng4 rng5 rng6 rng7 rng8 List.idxOf_cons wpk_rng rndK rndE
theorem chk_rg {r : Rul} (h : r.chk = 0) : r.rg := by
  unfold Rul.chk at h
  split at h
  · cases h
  · split at h
    · assumption
    · cases h
theorem new_gd {r : Rul} (h : r.chk = 0) : (Mon.new r).gd := ⟨⟨chk_rg h, rfl, ⟨Int.le_refl _, Int.le_refl _⟩⟩, by simp [Mon.new], fun a ha => by simp [Mon.new] at ha, by simp [Mon.new, sT]⟩
theorem step_inv {M : Mon} (h : M.inv) (l : List Smp) : (stepM l M).inv := obs_inv h _ _
theorem step_gd1 {r : Rul} (h : r.chk = 0) {l : List Smp} (hl : ∀ s ∈ l, s.ok) : (stepM l (Mon.new r)).gd := by
  obtain ⟨o1, o2, o3, o4⟩ := smpOf_ok (M := Mon.new r) hl
  have hh : (stepM l (Mon.new r)).hist = [((smpOf (Mon.new r) l).e, (smpOf (Mon.new r) l).t)] := by unfold stepM; rw [obs_hist]; rfl
  refine ⟨step_inv (new_gd h).inv l, by rw [hh]; simp, fun a ha => ?_, by rw [hh]; simp only [sT]; omega⟩
  rw [hh] at ha
  simp at ha
  subst ha
  exact ⟨o3, o4⟩
set_option maxRecDepth 100000 in
set_option maxHeartbeats 4000000 in
theorem obs29_late (n : Nat) (slot : Int) (hs : 1048576 < slot) (L : List D) : run CC 29 [.ptr 0 0, .d .nils] [.box [.vs 1 0 1035 0 n, .d (.int .i64 slot)], .vec 0 false false 91 1035 L] = some (.tup [.d .nils, .d (.int .i64 32)], [.box [.vs 1 0 1035 0 n, .d (.int .i64 slot)], .vec 0 false false 91 1035 L]) := by
  refine run_code (s := s29 2) rfl rfl rfl (by kernel_rfl) ?_
  simp [s29, eqCells, T3, T4, T5, T9, T23, T25, T27, T32, T33, T35, T39, T50, T52, T57, T59, T64, T65, T66, T70, T71, T77, T81, T83, T88, T89, T91, T95, T97, T99, T100, T112, CT]
  rw [wlp_eq, e29_1]
  simp [c29_1, eqCells, T3, T4, T5, T9, T23, T25, T27, T32, T33, T35, T39, T50, T52, T57, T59, T64, T65, T66, T70, T71, T77, T81, T83, T88, T89, T91, T95, T97, T99, T100, T112, CT, hs]
end Go.Proofs.YtpooehcjchkbkaaV
