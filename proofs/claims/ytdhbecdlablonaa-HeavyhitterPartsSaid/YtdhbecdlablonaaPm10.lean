/- partitionEqual. -/
import Derived.Test.YtdhbecdlablonaaPm9
set_option linter.unusedVariables false
set_option linter.unusedSimpArgs false
namespace Go.Proofs.YtdhbecdlablonaaV.Pd
open Go.RowKit
attribute [local simp] TK.agg constAV evalAV EK.has EK.hasAll vecEls elsR AV.toD toDs AV.cells AV.one joinD TyI.zeroD OpR.of binIntF binStrF AV.isPtr ptrNil slNil mpNil nilE eqF negF posF binF pelF pvLoad pelSet pvStore boxLoad epLoad loadF boxStore storeF fieldAddrF fieldF epOf indexAddrF byteF indexF mapLen lenF cutF sliceF sliceN sliceX isSl slice3F fillF fillV arrFs buildF partsX landV buildSliceF roomB appVec appendF appMkF capF mmFrom mmF max2' min2' clearVec clearF convF unF pickF nilChkF extF ptrsOf callF makeSliceF sameKs sameD kindIs plainFs keyOk mapOb mapEs okV lookF lookupF putE putS mapPut mapUpdateF mapDel deleteF mapAll rangeM rangeF overV hitV nextO nextF entryM entryO entryF itOids builtinF capsOf allocF boxF bytesL bytesF byteTy strTy convertF makeFuncF mapNew makeMapF makeMapH opF reach reachOf AObj.live closedB nodupB packO packL packX backN backG backO obL backE frzX frzO AV.vids frzL landC sameObs landR touchF bitsW D.cells D.decEq D.decEqs AV.decEq AV.decEqs AObj.decEq AV.oids0 AV.oids AObj.oids renG renP AV.ren0 AV.ren envGet envPut envKeep obGet setEff putV St.put stepS keyChk chkD accD Ex.block AV.under AObj.under laysOf roomFor mkvO frzG szOk killO usedBy tidyS canL canS ghost ghostE normSt resOf allSome one0 resultsF finL finishL finish endF startEnv chkC backX comeC AV.flat0 rngC loopO layL endLp busyL idleL noRng rndSt rndEnd wpn_nil wpn_seq wpn_loop wpn_seq_exit wpn_loop_exit wpn_seq_ret wpn_loop_ret wpn_block wpn_post wpk_skip wpk_exit wpk_ret wpk_reg wpk_seq wpk_condT wpk_block wpk_loop wpk_pre wpk_post wop_nil wop_cons wop_guard St.know envSet cond_d cond_bool cond_int cond_str endE endQ freeB disj pushT bitsW int_beq int_bne eqS_def tbE fuelL_eq ann0_lays ann0_dd ann0_ro elsOf_dsl elsOf_dnils toNat_succ nn_succ pos_succ one_succ rng1 rng2 rng3 rng4 rng5 rng6 rng7 rng8 List.idxOf_cons wpk_rng rndK rndE
section
variable (g : Nat) (hne : g ≠ 1000000007) (cmp : Int → Int → Int) (hg : ∀ a b : Int, run CC g [.d (.int .i64 a), .d (.int .i64 b)] [] = some (.d (.int .i64 (cmp a b)), []))
include hne hg
set_option maxRecDepth 100000 in
set_option maxHeartbeats 4000000 in
theorem eq88_run (d : Array Int) (n a b p : Nat) (hd : d.size = n) (hn : n < 900) (hap : a ≤ p) (hpb : p < b) (hb : b ≤ n) :
    run CC 65 [.vs 0 0 1 0 n, .d (.int .i64 a), .d (.int .i64 b), .d (.int .i64 p), .fn g [] []] [vI d] = some (.d (.int .i64 (Go.Sort.partitionEqual (ltC cmp) d a b p).1), [vI (Go.Sort.partitionEqual (ltC cmp) d a b p).2]) := by
  refine run_code (s := s65 1) rfl rfl rfl (by kernel_rfl) ?_
  obtain ⟨⟨g1, g2⟩, ⟨l1, l2, l3, gg1, gg2, gg3⟩, g3, hl, q1, q2⟩ := swF hd (show a < n by omega) (show p < n by omega) (by omega)
  have hsw := eD_swp d a p
  have hss := swp_size d a p
  have pa : a < n := by omega
  have pp : p < n := by omega
  have w1 : IntKind.i64.wrap ((a : Int) + 1) = ((a + 1 : Nat) : Int) := by rw [wrap64 (by omega) (by omega)]; omega
  have w2 : IntKind.i64.wrap ((b : Int) - 1) = ((b - 1 : Nat) : Int) := by rw [wrap64 (by omega) (by omega)]; omega
  have L1 := loop88_1 g hne cmp hg n a (by omega) pa (a + 1) (b - 1) (Go.Sort.swp d a p) (by rw [hss, hd]) ⟨by omega, by omega⟩ (by omega)
  unfold Go.Sort.partitionEqual
  generalize Go.Sort.partEqLoop (ltC cmp) a (a + 1) (b - 1) (Go.Sort.swp d a p) = r at *
  obtain ⟨m, f⟩ := r
  simp only [vI] at L1 ⊢
  simp [s65, eqCells, T3, T4, T5, T9, T22, T25, T26, T28, T29, T36, T41, T47, T69, T74, T78, T85, T90, T98, T104, CT, hne, g1, g2, g3, gg1, gg2, gg3, l1, l2, hl, q1, q2, pa, pp, w1, w2]
  rw [← hsw]
  refine L1 _ _ fun hf hm => ?_
  generalize eD f = F at *
  simp [eqCells, T3, T4, T5, T9, T22, T25, T26, T28, T29, T36, T41, T47, T69, T74, T78, T85, T90, T98, T104, CT]
end
end Go.Proofs.YtdhbecdlablonaaV.Pd
