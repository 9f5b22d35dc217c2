/- most; what is known of good summaries. -/
import Derived.Test.YtdhbecdlablonaaWc22h
set_option linter.unusedVariables false
set_option linter.unusedSimpArgs false
namespace Go.Proofs.YtdhbecdlablonaaV
open Go.RowKit
attribute [local simp] TK.agg constAV evalAV EK.has EK.hasAll vecEls elsR AV.toD toDs AV.cells AV.one joinD TyI.zeroD OpR.of binIntF binStrF AV.isPtr ptrNil slNil mpNil nilE eqF negF posF binF pelF pvLoad pelSet pvStore boxLoad epLoad loadF boxStore storeF fieldAddrF fieldF epOf indexAddrF byteF indexF mapLen lenF cutF sliceF sliceN sliceX isSl slice3F fillF fillV arrFs buildF partsX landV buildSliceF roomB appVec appendF appMkF capF mmFrom mmF max2' min2' clearVec clearF convF unF pickF nilChkF extF ptrsOf callF makeSliceF sameKs sameD kindIs plainFs keyOk mapOb mapEs okV lookF lookupF putE putS mapPut mapUpdateF mapDel deleteF mapAll rangeM rangeF overV hitV nextO nextF entryM entryO entryF itOids builtinF capsOf allocF boxF bytesL bytesF byteTy strTy convertF makeFuncF mapNew makeMapF makeMapH opF reach reachOf AObj.live closedB nodupB packO packL packX backN backG backO obL backE frzX frzO AV.vids frzL landC sameObs landR touchF bitsW D.cells D.decEq D.decEqs AV.decEq AV.decEqs AObj.decEq AV.oids0 AV.oids AObj.oids renG renP AV.ren0 AV.ren envGet envPut envKeep obGet setEff putV St.put stepS keyChk chkD accD Ex.block AV.under AObj.under laysOf roomFor mkvO frzG szOk killO usedBy tidyS canL canS ghost ghostE normSt resOf allSome one0 resultsF finL finishL finish endF startEnv chkC backX comeC AV.flat0 rngC loopO layL endLp busyL idleL noRng rndSt rndEnd wpn_nil wpn_seq wpn_loop wpn_seq_exit wpn_loop_exit wpn_seq_ret wpn_loop_ret wpn_block wpn_post wpk_skip wpk_exit wpk_ret wpk_reg wpk_seq wpk_condT wpk_block wpk_loop wpk_pre wpk_post wop_nil wop_cons wop_guard St.know envSet cond_d cond_bool cond_int cond_str endE endQ freeB disj pushT bitsW int_beq int_bne eqS_def tbE fuelL_eq ann0_lays ann0_dd ann0_ro elsOf_dsl elsOf_dnils toNat_succ nn_succ pos_succ one_succ rng1 rng2 rng3 rng4 rng5 rng6 rng7 rng8 List.idxOf_cons wpk_rng rndK rndE
def mostI (n : Int) : Int := 1 + n % 8
theorem mostI_ok (n : Int) : 1 ≤ mostI n ∧ mostI n ≤ 256 := by unfold mostI; omega
theorem most_run (n : Int) (h : 0 ≤ n ∧ n < 256) : run CC 19 [.d (.int .u8 n)] [] = some (.d (.int .i64 (mostI n)), []) := by
  refine run_code (s := s19 0) rfl rfl rfl (by kernel_rfl) ?_
  have hk := Int.tmod_eq_emod_of_nonneg h.1 (b := 8)
  have w1 : IntKind.u8.wrap (n % 8) = n % 8 := wrap_u8 (by omega) (by omega)
  have w3 : IntKind.i64.wrap (n % 8) = n % 8 := wrap64 (by omega) (by omega)
  have w2 : IntKind.i64.wrap (1 + n % 8) = 1 + n % 8 := wrap64 (by omega) (by omega)
  simp [s19, eqCells, T3, T4, T5, T9, T22, T25, T26, T28, T29, T36, T41, T47, T69, T74, T78, T85, T90, T98, T104, CT, hk, w1, w2, w3, mostI]
theorem okS.small {s : Sm} (h : okS s) : ∀ p ∈ s.cs, -1125899906842624 ≤ p.2 ∧ p.2 ≤ 1125899906842624 := fun p hp => by
  have := h.le p hp; have := h.pos p hp; have := h.tot; omega
theorem okS.short {s : Sm} (h : okS s) : s.cs.length < 900 := by
  have := h.len; have := h.most; omega
theorem cnt_le {s : Sm} (h : okS s) (k : ByteArray) : 0 ≤ cntC k s.cs ∧ cntC k s.cs ≤ s.tot := by
  have h1 := (cnt_pos (k := k) h.pos).1
  by_cases h0 : cntC k s.cs = 0
  · have := h.tot; omega
  · have := h.le _ (cnt_mem h0)
    exact ⟨h1, this⟩
theorem okS.hi {s : Sm} (h : okS s) (k : ByteArray) : IntKind.i64.wrap (cntC k s.cs + s.lost) = cntC k s.cs + s.lost := by
  have := h.lostLe; have := cnt_le h k; have := h.tot; have := h.lost
  exact wrap64 (by omega) (by omega)
end Go.Proofs.YtdhbecdlablonaaV
