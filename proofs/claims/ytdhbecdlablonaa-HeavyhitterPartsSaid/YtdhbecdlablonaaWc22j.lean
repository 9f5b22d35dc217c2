/- Check: the package's. -/
import Derived.Test.YtdhbecdlablonaaWc22i
set_option linter.unusedVariables false
set_option linter.unusedSimpArgs false
namespace Go.Proofs.YtdhbecdlablonaaV
open Go.RowKit
attribute [local simp] TK.agg constAV evalAV EK.has EK.hasAll vecEls elsR AV.toD toDs AV.cells AV.one joinD TyI.zeroD OpR.of binIntF binStrF AV.isPtr ptrNil slNil mpNil nilE eqF negF posF binF pelF pvLoad pelSet pvStore boxLoad epLoad loadF boxStore storeF fieldAddrF fieldF epOf indexAddrF byteF indexF mapLen lenF cutF sliceF sliceN sliceX isSl slice3F fillF fillV arrFs buildF partsX landV buildSliceF roomB appVec appendF appMkF capF mmFrom mmF max2' min2' clearVec clearF convF unF pickF nilChkF extF ptrsOf callF makeSliceF sameKs sameD kindIs plainFs keyOk mapOb mapEs okV lookF lookupF putE putS mapPut mapUpdateF mapDel deleteF mapAll rangeM rangeF overV hitV nextO nextF entryM entryO entryF itOids builtinF capsOf allocF boxF bytesL bytesF byteTy strTy convertF makeFuncF mapNew makeMapF makeMapH opF reach reachOf AObj.live closedB nodupB packO packL packX backN backG backO obL backE frzX frzO AV.vids frzL landC sameObs landR touchF bitsW D.cells D.decEq D.decEqs AV.decEq AV.decEqs AObj.decEq AV.oids0 AV.oids AObj.oids renG renP AV.ren0 AV.ren envGet envPut envKeep obGet setEff putV St.put stepS keyChk chkD accD Ex.block AV.under AObj.under laysOf roomFor mkvO frzG szOk killO usedBy tidyS canL canS ghost ghostE normSt resOf allSome one0 resultsF finL finishL finish endF startEnv chkC backX comeC AV.flat0 rngC loopO layL endLp busyL idleL noRng rndSt rndEnd wpn_nil wpn_seq wpn_loop wpn_seq_exit wpn_loop_exit wpn_seq_ret wpn_loop_ret wpn_block wpn_post wpk_skip wpk_exit wpk_ret wpk_reg wpk_seq wpk_condT wpk_block wpk_loop wpk_pre wpk_post wop_nil wop_cons wop_guard St.know envSet cond_d cond_bool cond_int cond_str endE endQ freeB disj pushT bitsW int_beq int_bne eqS_def tbE fuelL_eq ann0_lays ann0_dd ann0_ro elsOf_dsl elsOf_dnils toNat_succ nn_succ pos_succ one_succ rng1 rng2 rng3 rng4 rng5 rng6 rng7 rng8 List.idxOf_cons wpk_rng rndK rndE
set_option maxRecDepth 100000 in
set_option maxHeartbeats 4000000 in
theorem checkP_run (s : Sm) (X : D) (hl : s.cs.length < 900) (hX : elsOf (.d X) = some (csD s.cs)) : run CC 27 [.d (smD s X)] [] = some (.d (.int .i64 (chkS s)), []) := by
  refine run_code (s := s27 0) rfl rfl rfl (by kernel_rfl) ?_
  obtain ⟨a1, a2, a3⟩ := slF hX
  simp only [AV.one, AV.cells, D.cells] at a1 a2 a3
  unfold chkS
  by_cases h1 : s.most < 1
  · simp [s27, smD, eqCells, T3, T4, T5, T9, T22, T25, T26, T28, T29, T36, T41, T47, T69, T74, T78, T85, T90, T98, T104, CT, a1, a2, a3, hX, h1]
  by_cases h2 : 256 < s.most
  · simp [s27, smD, eqCells, T3, T4, T5, T9, T22, T25, T26, T28, T29, T36, T41, T47, T69, T74, T78, T85, T90, T98, T104, CT, a1, a2, a3, hX, h1, h2]
  by_cases h3 : s.tot < 0
  · simp [s27, smD, eqCells, T3, T4, T5, T9, T22, T25, T26, T28, T29, T36, T41, T47, T69, T74, T78, T85, T90, T98, T104, CT, a1, a2, a3, hX, h1, h2, h3]
  by_cases h4 : 1125899906842624 < s.tot
  · simp [s27, smD, eqCells, T3, T4, T5, T9, T22, T25, T26, T28, T29, T36, T41, T47, T69, T74, T78, T85, T90, T98, T104, CT, a1, a2, a3, hX, h1, h2, h3, h4]
  by_cases h5 : s.lost < 0
  · simp [s27, smD, eqCells, T3, T4, T5, T9, T22, T25, T26, T28, T29, T36, T41, T47, T69, T74, T78, T85, T90, T98, T104, CT, a1, a2, a3, hX, h1, h2, h3, h4, h5]
  by_cases h6 : s.most < s.cs.length
  · simp [s27, smD, eqCells, T3, T4, T5, T9, T22, T25, T26, T28, T29, T36, T41, T47, T69, T74, T78, T85, T90, T98, T104, CT, a1, a2, a3, hX, h1, h2, h3, h4, h5, h6]
  simp [s27, smD, eqCells, T3, T4, T5, T9, T22, T25, T26, T28, T29, T36, T41, T47, T69, T74, T78, T85, T90, T98, T104, CT, a1, a2, a3, hX, h1, h2, h3, h4, h5, h6]
  refine wlp_inv (S := fun p : List Ctr × List Ctr × Int => ⟨[(1, .ptr 0 0), (3, .d (.int .i64 p.2.2)), (38, .d X), (39, .d (.int .i64 s.cs.length)), (40, .d (.int .i64 p.1.length))], [.box [.d (.int .i64 s.most), .d (.int .i64 s.tot), .d (.int .i64 s.lost), .d X]]⟩) (m := fun p => p.2.1.length) (Inv := fun p => p.1 ++ p.2.1 = s.cs ∧ chkL s.tot p.1 p.2.2 p.2.1 = chkL s.tot [] 0 s.cs) ?_ ([], s.cs, 0) ⟨rfl, rfl⟩
  rintro ⟨pre, suf, sum⟩ ⟨hp, hm⟩ ih
  rw [e27_1]
  simp only at hp hm ⊢
  rw [← hm] at ih ⊢
  cases suf with
  | nil =>
    have hn := endL hp
    by_cases g1 : s.tot < s.lost
    · simp [c27_1, eqCells, T3, T4, T5, T9, T22, T25, T26, T28, T29, T36, T41, T47, T69, T74, T78, T85, T90, T98, T104, CT, a1, a2, a3, hX, hn, chkL, chkF, chkT, g1]
    · by_cases g2 : s.tot < IntKind.i64.wrap (sum + IntKind.i64.wrap (s.lost * IntKind.i64.wrap (s.most + 1)))
      · simp [c27_1, eqCells, T3, T4, T5, T9, T22, T25, T26, T28, T29, T36, T41, T47, T69, T74, T78, T85, T90, T98, T104, CT, a1, a2, a3, hX, hn, chkL, chkF, chkT, g1, g2]
      · simp [c27_1, eqCells, T3, T4, T5, T9, T22, T25, T26, T28, T29, T36, T41, T47, T69, T74, T78, T85, T90, T98, T104, CT, a1, a2, a3, hX, hn, chkL, chkF, chkT, g1, g2]
  | cons c suf =>
    obtain ⟨k1, k2, k3, k4, k5, k6⟩ := atL cE hp (by omega)
    have kg := getL k5 k4
    simp only [cE] at k3
    have hin := isName_run c.1
    by_cases q1 : isName c.1 = false
    · simp [c27_1, eqCells, T3, T4, T5, T9, T22, T25, T26, T28, T29, T36, T41, T47, T69, T74, T78, T85, T90, T98, T104, CT, a1, a2, a3, hX, k2, k3, k4, k5, kg, cE, hin, q1, chkL, chkF]
    replace q1 : isName c.1 = true := by simpa using q1
    have ih := ih (pre ++ [c], suf, IntKind.i64.wrap (sum + c.2))
    rcases List.eq_nil_or_concat pre with rfl | ⟨q, p, hpq⟩
    · have hb : badK [] c = false := rfl
      simp only [List.length_nil, Int.natCast_zero, Int.ofNat_zero] at k2 k3 k4 k5 kg
      by_cases q3 : c.2 < 1
      · simp [c27_1, eqCells, T3, T4, T5, T9, T22, T25, T26, T28, T29, T36, T41, T47, T69, T74, T78, T85, T90, T98, T104, CT, a1, a2, a3, hX, k2, k3, k4, k5, kg, cE, hin, q1, chkL, chkF, hb, q3]
      by_cases q4 : s.tot < c.2
      · simp [c27_1, eqCells, T3, T4, T5, T9, T22, T25, T26, T28, T29, T36, T41, T47, T69, T74, T78, T85, T90, T98, T104, CT, a1, a2, a3, hX, k2, k3, k4, k5, kg, cE, hin, q1, chkL, chkF, hb, q3, q4]
      have ih := ih ⟨by simpa using hp, by simp [chkL, q1, hb, q3, q4]⟩ (by simp)
      simp at ih
      simp [c27_1, eqCells, T3, T4, T5, T9, T22, T25, T26, T28, T29, T36, T41, T47, T69, T74, T78, T85, T90, T98, T104, CT, a1, a2, a3, hX, k2, k3, k4, k5, kg, cE, hin, q1, hb, q3, q4]
      exact ih
    · rw [List.concat_eq_append] at hpq
      obtain ⟨j1, j2, j3, j4⟩ := getD_last hp hpq (by omega)
      have jg := getL j2 j4
      simp only [cE] at j1
      have hpos : 0 < pre.length := by omega
      have wj : IntKind.i64.wrap ((pre.length : Int) - 1) = (pre.length : Int) - 1 := wrap64 (by omega) (by omega)
      have tj : ((pre.length : Int) - 1).toNat = pre.length - 1 := by omega
      have pj : (1 : Int) ≤ pre.length := by omega
      have lj : (pre.length : Int) - 1 < s.cs.length := by omega
      have hbe : badK pre c = (lessS c.1 p.1 || eqS c.1 p.1) := by unfold badK; rw [hpq]; simp
      by_cases q2 : badK pre c = true
      · rw [hbe] at q2
        simp at q2
        simp [c27_1, eqCells, T3, T4, T5, T9, T22, T25, T26, T28, T29, T36, T41, T47, T69, T74, T78, T85, T90, T98, T104, CT, a1, a2, a3, hX, k2, k3, k4, k5, kg, cE, hin, q1, chkL, chkF, hbe, q2, j1, j2, j3, j4, jg, hpos, wj, tj, pj, lj]
      replace q2 : badK pre c = false := by simpa using q2
      have q2' := q2
      rw [hbe] at q2'
      simp at q2'
      by_cases q3 : c.2 < 1
      · simp [c27_1, eqCells, T3, T4, T5, T9, T22, T25, T26, T28, T29, T36, T41, T47, T69, T74, T78, T85, T90, T98, T104, CT, a1, a2, a3, hX, k2, k3, k4, k5, kg, cE, hin, q1, chkL, chkF, q2, q2', j1, j2, j3, j4, jg, hpos, wj, tj, pj, lj, q3]
      by_cases q4 : s.tot < c.2
      · simp [c27_1, eqCells, T3, T4, T5, T9, T22, T25, T26, T28, T29, T36, T41, T47, T69, T74, T78, T85, T90, T98, T104, CT, a1, a2, a3, hX, k2, k3, k4, k5, kg, cE, hin, q1, chkL, chkF, q2, q2', j1, j2, j3, j4, jg, hpos, wj, tj, pj, lj, q3, q4]
      have ih := ih ⟨by simpa using hp, by simp [chkL, q1, q2, q3, q4]⟩ (by simp)
      simp at ih
      simp [c27_1, eqCells, T3, T4, T5, T9, T22, T25, T26, T28, T29, T36, T41, T47, T69, T74, T78, T85, T90, T98, T104, CT, a1, a2, a3, hX, k2, k3, k4, k5, kg, cE, hin, q1, q2', j1, j2, j3, j4, jg, hpos, wj, tj, pj, lj, q3, q4]
      exact ih
end Go.Proofs.YtdhbecdlablonaaV
