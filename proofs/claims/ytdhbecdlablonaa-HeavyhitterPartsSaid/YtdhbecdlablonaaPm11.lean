/- The scan of partialInsertionSort. -/
import Derived.Test.YtdhbecdlablonaaPm10
set_option linter.unusedVariables false
set_option linter.unusedSimpArgs false
namespace Go.Proofs.YtdhbecdlablonaaV.Pd
open Go.RowKit
attribute [local simp] TK.agg constAV evalAV EK.has EK.hasAll vecEls elsR AV.toD toDs AV.cells AV.one joinD TyI.zeroD OpR.of binIntF binStrF AV.isPtr ptrNil slNil mpNil nilE eqF negF posF binF pelF pvLoad pelSet pvStore boxLoad epLoad loadF boxStore storeF fieldAddrF fieldF epOf indexAddrF byteF indexF mapLen lenF cutF sliceF sliceN sliceX isSl slice3F fillF fillV arrFs buildF partsX landV buildSliceF roomB appVec appendF appMkF capF mmFrom mmF max2' min2' clearVec clearF convF unF pickF nilChkF extF ptrsOf callF makeSliceF sameKs sameD kindIs plainFs keyOk mapOb mapEs okV lookF lookupF putE putS mapPut mapUpdateF mapDel deleteF mapAll rangeM rangeF overV hitV nextO nextF entryM entryO entryF itOids builtinF capsOf allocF boxF bytesL bytesF byteTy strTy convertF makeFuncF mapNew makeMapF makeMapH opF reach reachOf AObj.live closedB nodupB packO packL packX backN backG backO obL backE frzX frzO AV.vids frzL landC sameObs landR touchF bitsW D.cells D.decEq D.decEqs AV.decEq AV.decEqs AObj.decEq AV.oids0 AV.oids AObj.oids renG renP AV.ren0 AV.ren envGet envPut envKeep obGet setEff putV St.put stepS keyChk chkD accD Ex.block AV.under AObj.under laysOf roomFor mkvO frzG szOk killO usedBy tidyS canL canS ghost ghostE normSt resOf allSome one0 resultsF finL finishL finish endF startEnv chkC backX comeC AV.flat0 rngC loopO layL endLp busyL idleL noRng rndSt rndEnd wpn_nil wpn_seq wpn_loop wpn_seq_exit wpn_loop_exit wpn_seq_ret wpn_loop_ret wpn_block wpn_post wpk_skip wpk_exit wpk_ret wpk_reg wpk_seq wpk_condT wpk_block wpk_loop wpk_pre wpk_post wop_nil wop_cons wop_guard St.know envSet cond_d cond_bool cond_int cond_str endE endQ freeB disj pushT bitsW int_beq int_bne eqS_def tbE fuelL_eq ann0_lays ann0_dd ann0_ro elsOf_dsl elsOf_dnils toNat_succ nn_succ pos_succ one_succ rng1 rng2 rng3 rng4 rng5 rng6 rng7 rng8 List.idxOf_cons wpk_rng rndK rndE
section
variable (g : Nat) (hne : g ≠ 1000000007) (cmp : Int → Int → Int) (hg : ∀ a b : Int, run CC g [.d (.int .i64 a), .d (.int .i64 b)] [] = some (.d (.int .i64 (cmp a b)), []))
include hne hg
set_option maxRecDepth 100000 in
set_option maxHeartbeats 2000000 in
theorem loop87_2 (d : Array Int) (n a b q : Nat) (hd : d.size = n) (hn : n < 1000) (hb : b ≤ n) (i : Nat) (hi : 0 < i ∧ i < 1000) (ks : List Fr) (K : Ex → St → Prop)
    (hnext : wpn CC .norm ⟨[(0, .vs 0 0 1 0 n), (1, .d (.int .i64 a)), (2, .d (.int .i64 b)), (3, .fn g [] []), (9, .d (.int .i64 (Go.Sort.scanSorted (ltC cmp) d b i))), (10, .d (.int .i64 q))], [vI d]⟩ ks K) :
    wlp CC (s64_2 1) ⟨[(0, .vs 0 0 1 0 n), (1, .d (.int .i64 a)), (2, .d (.int .i64 b)), (3, .fn g [] []), (9, .d (.int .i64 i)), (10, .d (.int .i64 q))], [vI d]⟩ (.block 2 :: .post (.tidy [0, 1, 2, 3, 9, 10] 1 1) :: ks) K := by
  refine wlp_inv (S := fun i : Nat => ⟨[(0, .vs 0 0 1 0 n), (1, .d (.int .i64 a)), (2, .d (.int .i64 b)), (3, .fn g [] []), (9, .d (.int .i64 i)), (10, .d (.int .i64 q))], [vI d]⟩) (m := fun i => b - i) (Inv := fun i' => (0 < i' ∧ i' < 1001) ∧ Go.Sort.scanSorted (ltC cmp) d b i' = Go.Sort.scanSorted (ltC cmp) d b i) ?_ i ⟨by omega, rfl⟩
  rintro i ⟨hi, hm⟩ ih
  rw [e64_2]
  rw [← hm] at hnext ih
  by_cases h : i < b
  · obtain ⟨k, rfl⟩ : ∃ k, i = k + 1 := ⟨i - 1, by omega⟩
    have g1 := eD_get (d := d) (i := k + 1) (by omega)
    have g2 := eD_get (d := d) (i := k) (by omega)
    have l1 : k + 1 < (eD d).length := by rw [eD_len]; omega
    have l2 : k < (eD d).length := by rw [eD_len]; omega
    have gg1 := eD_at (d := d) (i := k + 1) (by omega) l1
    have gg2 := eD_at (d := d) (i := k) (by omega) l2
    have hl : (eD d).length = n := by rw [eD_len, hd]
    have hc := hg d[k + 1]! d[k]!
    have w1 : IntKind.i64.wrap (((k + 1 : Nat) : Int) - 1) = (k : Int) := by rw [wrap64 (by omega) (by omega)]; omega
    have w2 : IntKind.i64.wrap (((k + 1 : Nat) : Int) + 1) = ((k + 1 + 1 : Nat) : Int) := by rw [wrap64 (by omega) (by omega)]; omega
    have p1 : ((k + 1 : Nat) : Int) < b := by omega
    have p2 : ((k + 1 : Nat) : Int) < n := by omega
    have p3 : k + 1 < n := by omega
    have p4 : (k : Int) < n := by omega
    have p5 : k < n := by omega
    by_cases hlt : cmp d[k + 1]! d[k]! < 0
    · have ho : Go.Sort.scanSorted (ltC cmp) d b (k + 1) = k + 1 := by
        rw [Go.Sort.scanSorted, if_neg (by simp [ltC, hlt])]
      rw [ho] at hnext
      simp only [vI] at hnext ⊢
      generalize eD d = E at *
      generalize d[k + 1]! = x at *
      generalize d[k]! = y at *
      generalize hk1 : k + 1 = k1 at *
      simp [c64_2, eqCells, T3, T4, T5, T9, T22, T25, T26, T28, T29, T36, T41, T47, T69, T74, T78, T85, T90, T98, T104, CT, hne, p1, h, g1, g2, gg1, gg2, l1, l2, hl, p2, p3, p4, p5, hc, hlt, w1]
      exact hnext
    · have ho : Go.Sort.scanSorted (ltC cmp) d b (k + 1) = Go.Sort.scanSorted (ltC cmp) d b (k + 1 + 1) := by
        rw [Go.Sort.scanSorted, if_pos (by simp [ltC, h]; omega)]
      have ih2 := ih (k + 1 + 1) ⟨by omega, ho.symm⟩ (by omega)
      clear ih
      simp only [vI] at ih2 ⊢
      generalize eD d = E at *
      generalize d[k + 1]! = x at *
      generalize d[k]! = y at *
      generalize hk2 : k + 1 + 1 = k2 at *
      generalize hk1 : k + 1 = k1 at *
      have hlt2 : 0 ≤ cmp x y := by omega
      simp [c64_2, eqCells, T3, T4, T5, T9, T22, T25, T26, T28, T29, T36, T41, T47, T69, T74, T78, T85, T90, T98, T104, CT, hne, p1, h, g1, g2, gg1, gg2, l1, l2, hl, p2, p3, p4, p5, hc, hlt, hlt2, w1, w2]
      exact ih2
  · have ho : Go.Sort.scanSorted (ltC cmp) d b i = i := by
      rw [Go.Sort.scanSorted, if_neg (by simp [h])]
    have p1 : ¬ (i : Int) < b := by omega
    rw [ho] at hnext
    simp only [vI] at hnext ⊢
    generalize eD d = E at *
    simp [c64_2, eqCells, T3, T4, T5, T9, T22, T25, T26, T28, T29, T36, T41, T47, T69, T74, T78, T85, T90, T98, T104, CT, hne, p1, h]
    exact hnext
set_option maxRecDepth 100000 in
set_option maxHeartbeats 4000000 in
theorem pins87_run (d : Array Int) (n a b : Nat) (hd : d.size = n) (hn : n < 900) (hab : a < b) (hb : b ≤ n) (h50 : b - a < 50) :
    run CC 64 [.vs 0 0 1 0 n, .d (.int .i64 a), .d (.int .i64 b), .fn g [] []] [vI d] = some (.d (.bool (Go.Sort.partialInsertionSort (ltC cmp) d a b).2), [vI (Go.Sort.partialInsertionSort (ltC cmp) d a b).1]) := by
  refine run_code (s := s64 1) rfl rfl rfl (by kernel_rfl) ?_
  have w1 : IntKind.i64.wrap ((a : Int) + 1) = ((a + 1 : Nat) : Int) := by rw [wrap64 (by omega) (by omega)]; omega
  have w2 : IntKind.i64.wrap ((b : Int) - a) = ((b - a : Nat) : Int) := by rw [wrap64 (by omega) (by omega)]; omega
  have L := loop87_2 g hne cmp hg d n a b 0 hd (by omega) hb (a + 1) (by omega)
  have hp : Go.Sort.partialInsertionSort (ltC cmp) d a b = if Go.Sort.scanSorted (ltC cmp) d b (a + 1) = b then (d, true) else (d, false) := by
    unfold Go.Sort.partialInsertionSort
    rw [Go.Sort.partialIns]
    simp only
    rw [if_pos h50]
  rw [hp]
  generalize Go.Sort.scanSorted (ltC cmp) d b (a + 1) = s at *
  have p50 : ((b - a : Nat) : Int) < 50 := by omega
  have hz : ((0 : Nat) : Int) = 0 := rfl
  rw [hz] at L
  generalize hbm : b - a = ba at *
  generalize ha1 : a + 1 = a1 at *
  simp only [vI] at L ⊢
  simp [s64, eqCells, T3, T4, T5, T9, T22, T25, T26, T28, T29, T36, T41, T47, T69, T74, T78, T85, T90, T98, T104, CT, hne, w1]
  refine wlp_inv (S := fun _ : Unit => ⟨[(0, .vs 0 0 1 0 n), (1, .d (.int .i64 a)), (2, .d (.int .i64 b)), (3, .fn g [] []), (9, .d (.int .i64 a1)), (10, .d (.int .i64 0))], [.vec 0 false false 3 1 (eD d)]⟩) (m := fun _ => 0) (Inv := fun _ => True) ?_ () trivial
  rintro _ - ih
  clear ih
  rw [e64_1]
  generalize hE : eD d = E at *
  simp [c64_1, eqCells, T3, T4, T5, T9, T22, T25, T26, T28, T29, T36, T41, T47, T69, T74, T78, T85, T90, T98, T104, CT]
  refine L _ _ ?_
  by_cases h : s = b
  · subst h
    simp [eqCells, T3, T4, T5, T9, T22, T25, T26, T28, T29, T36, T41, T47, T69, T74, T78, T85, T90, T98, T104, CT]
    exact hE.symm
  · have h' : ¬ (s : Int) = b := by omega
    simp [eqCells, T3, T4, T5, T9, T22, T25, T26, T28, T29, T36, T41, T47, T69, T74, T78, T85, T90, T98, T104, CT, hne, h, h', w2, p50]
    exact hE.symm
end
end Go.Proofs.YtdhbecdlablonaaV.Pd
