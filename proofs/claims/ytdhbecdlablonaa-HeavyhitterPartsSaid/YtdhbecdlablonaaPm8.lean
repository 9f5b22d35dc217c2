/- The scans of partitionEqual. -/
import Derived.Test.YtdhbecdlablonaaPm7
set_option linter.unusedVariables false
set_option linter.unusedSimpArgs false
namespace Go.Proofs.YtdhbecdlablonaaV.Pd
open Go.RowKit
attribute [local simp] TK.agg constAV evalAV EK.has EK.hasAll vecEls elsR AV.toD toDs AV.cells AV.one joinD TyI.zeroD OpR.of binIntF binStrF AV.isPtr ptrNil slNil mpNil nilE eqF negF posF binF pelF pvLoad pelSet pvStore boxLoad epLoad loadF boxStore storeF fieldAddrF fieldF epOf indexAddrF byteF indexF mapLen lenF cutF sliceF sliceN sliceX isSl slice3F fillF fillV arrFs buildF partsX landV buildSliceF roomB appVec appendF appMkF capF mmFrom mmF max2' min2' clearVec clearF convF unF pickF nilChkF extF ptrsOf callF makeSliceF sameKs sameD kindIs plainFs keyOk mapOb mapEs okV lookF lookupF putE putS mapPut mapUpdateF mapDel deleteF mapAll rangeM rangeF overV hitV nextO nextF entryM entryO entryF itOids builtinF capsOf allocF boxF bytesL bytesF byteTy strTy convertF makeFuncF mapNew makeMapF makeMapH opF reach reachOf AObj.live closedB nodupB packO packL packX backN backG backO obL backE frzX frzO AV.vids frzL landC sameObs landR touchF bitsW D.cells D.decEq D.decEqs AV.decEq AV.decEqs AObj.decEq AV.oids0 AV.oids AObj.oids renG renP AV.ren0 AV.ren envGet envPut envKeep obGet setEff putV St.put stepS keyChk chkD accD Ex.block AV.under AObj.under laysOf roomFor mkvO frzG szOk killO usedBy tidyS canL canS ghost ghostE normSt resOf allSome one0 resultsF finL finishL finish endF startEnv chkC backX comeC AV.flat0 rngC loopO layL endLp busyL idleL noRng rndSt rndEnd wpn_nil wpn_seq wpn_loop wpn_seq_exit wpn_loop_exit wpn_seq_ret wpn_loop_ret wpn_block wpn_post wpk_skip wpk_exit wpk_ret wpk_reg wpk_seq wpk_condT wpk_block wpk_loop wpk_pre wpk_post wop_nil wop_cons wop_guard St.know envSet cond_d cond_bool cond_int cond_str endE endQ freeB disj pushT bitsW int_beq int_bne eqS_def tbE fuelL_eq ann0_lays ann0_dd ann0_ro elsOf_dsl elsOf_dnils toNat_succ nn_succ pos_succ one_succ rng1 rng2 rng3 rng4 rng5 rng6 rng7 rng8 List.idxOf_cons wpk_rng rndK rndE
section
variable (g : Nat) (hne : g ≠ 1000000007) (cmp : Int → Int → Int) (hg : ∀ a b : Int, run CC g [.d (.int .i64 a), .d (.int .i64 b)] [] = some (.d (.int .i64 (cmp a b)), []))
include hne hg
set_option maxRecDepth 100000 in
set_option maxHeartbeats 2000000 in
theorem loop88_2 (d : Array Int) (n a j : Nat) (hd : d.size = n) (hn : n < 1000) (ha : a < n) (hj : j < n) (i : Nat) (hi : i < 1000) (ks : List Fr) (K : Ex → St → Prop)
    (hnext : wpn CC .norm ⟨[(0, .vs 0 0 1 0 n), (1, .d (.int .i64 a)), (4, .fn g [] []), (11, .d (.int .i64 (Go.Sort.scanUp (fun x => !ltC cmp d[a]! x) d j i))), (12, .d (.int .i64 j))], [vI d]⟩ ks K) :
    wlp CC (s65_2 1) ⟨[(0, .vs 0 0 1 0 n), (1, .d (.int .i64 a)), (4, .fn g [] []), (11, .d (.int .i64 i)), (12, .d (.int .i64 j))], [vI d]⟩ (.block 2 :: .post (.tidy [0, 1, 4, 11, 12] 1 1) :: ks) K := by
  refine wlp_inv (S := fun i : Nat => ⟨[(0, .vs 0 0 1 0 n), (1, .d (.int .i64 a)), (4, .fn g [] []), (11, .d (.int .i64 i)), (12, .d (.int .i64 j))], [vI d]⟩) (m := fun i => j + 1 - i) (Inv := fun i' => i' < 1001 ∧ Go.Sort.scanUp (fun x => !ltC cmp d[a]! x) d j i' = Go.Sort.scanUp (fun x => !ltC cmp d[a]! x) d j i) ?_ i ⟨by omega, rfl⟩
  rintro i ⟨hi, hm⟩ ih
  rw [e65_2]
  rw [← hm] at hnext ih
  have g2 := eD_get (d := d) (i := a) (by omega)
  have l2 : a < (eD d).length := by rw [eD_len]; omega
  have gg2 := eD_at (d := d) (i := a) (by omega) l2
  have hl : (eD d).length = n := by rw [eD_len, hd]
  have pa : (a : Int) < n := by omega
  by_cases h : i ≤ j
  · have g1 := eD_get (d := d) (i := i) (by omega)
    have l1 : i < (eD d).length := by rw [eD_len]; omega
    have gg1 := eD_at (d := d) (i := i) (by omega) l1
    have p1 : (i : Int) ≤ j := by omega
    have p2 : (i : Int) < n := by omega
    have p3 : i < n := by omega
    have hc := hg d[a]! d[i]!
    by_cases hlt : ¬ cmp d[a]! d[i]! < 0
    · have ho : Go.Sort.scanUp (fun x => !ltC cmp d[a]! x) d j i = Go.Sort.scanUp (fun x => !ltC cmp d[a]! x) d j (i + 1) := by
        rw [Go.Sort.scanUp, if_pos (by simp [ltC, h]; omega)]
      have w1 : IntKind.i64.wrap ((i : Int) + 1) = ((i + 1 : Nat) : Int) := by rw [wrap64 (by omega) (by omega)]; omega
      have ih := ih (i + 1) ⟨by omega, ho.symm⟩ (by omega)
      simp only [vI] at ih ⊢
      generalize eD d = E at *
      generalize d[i]! = x at *
      generalize d[a]! = y at *
      generalize hi1 : i + 1 = i1 at *
      have hlt2 : 0 ≤ cmp y x := by omega
      simp [c65_2, eqCells, T3, T4, T5, T9, T22, T25, T26, T28, T29, T36, T41, T47, T69, T74, T78, T85, T90, T98, T104, CT, hne, p1, h, g1, g2, gg1, gg2, l1, l2, hl, pa, ha, p2, p3, hc, hlt, hlt2, w1]
      exact ih
    · have ho : Go.Sort.scanUp (fun x => !ltC cmp d[a]! x) d j i = i := by
        rw [Go.Sort.scanUp, if_neg (by simp [ltC]; intro; omega)]
      rw [ho] at hnext
      simp only [vI] at hnext ⊢
      generalize eD d = E at *
      generalize d[i]! = x at *
      generalize d[a]! = y at *
      have hlt2 : cmp y x < 0 := by omega
      simp [c65_2, eqCells, T3, T4, T5, T9, T22, T25, T26, T28, T29, T36, T41, T47, T69, T74, T78, T85, T90, T98, T104, CT, hne, p1, h, g1, g2, gg1, gg2, l1, l2, hl, pa, ha, p2, p3, hc, hlt2]
      exact hnext
  · have ho : Go.Sort.scanUp (fun x => !ltC cmp d[a]! x) d j i = i := by
      rw [Go.Sort.scanUp, if_neg (by simp [h])]
    have p1 : ¬ (i : Int) ≤ j := by omega
    rw [ho] at hnext
    simp only [vI] at hnext ⊢
    generalize eD d = E at *
    simp [c65_2, eqCells, T3, T4, T5, T9, T22, T25, T26, T28, T29, T36, T41, T47, T69, T74, T78, T85, T90, T98, T104, CT, hne, p1, h]
    exact hnext
set_option maxRecDepth 100000 in
set_option maxHeartbeats 2000000 in
theorem loop88_3 (d : Array Int) (n a i : Nat) (hd : d.size = n) (hn : n < 1000) (ha : a < n) (hi : 0 < i ∧ i < 1001) (j : Nat) (hj : j < n) (ks : List Fr) (K : Ex → St → Prop)
    (hnext : wpn CC .norm ⟨[(0, .vs 0 0 1 0 n), (1, .d (.int .i64 a)), (4, .fn g [] []), (11, .d (.int .i64 i)), (12, .d (.int .i64 (Go.Sort.scanDown (fun x => ltC cmp d[a]! x) d i j)))], [vI d]⟩ ks K) :
    wlp CC (s65_3 1) ⟨[(0, .vs 0 0 1 0 n), (1, .d (.int .i64 a)), (4, .fn g [] []), (11, .d (.int .i64 i)), (12, .d (.int .i64 j))], [vI d]⟩ (.block 4 :: .post (.tidy [0, 1, 4, 11, 12] 1 1) :: ks) K := by
  refine wlp_inv (S := fun j : Nat => ⟨[(0, .vs 0 0 1 0 n), (1, .d (.int .i64 a)), (4, .fn g [] []), (11, .d (.int .i64 i)), (12, .d (.int .i64 j))], [vI d]⟩) (m := fun j => j) (Inv := fun j' => j' < n ∧ Go.Sort.scanDown (fun x => ltC cmp d[a]! x) d i j' = Go.Sort.scanDown (fun x => ltC cmp d[a]! x) d i j) ?_ j ⟨hj, rfl⟩
  rintro j ⟨hj, hm⟩ ih
  rw [e65_3]
  rw [← hm] at hnext ih
  have g2 := eD_get (d := d) (i := a) (by omega)
  have l2 : a < (eD d).length := by rw [eD_len]; omega
  have gg2 := eD_at (d := d) (i := a) (by omega) l2
  have hl : (eD d).length = n := by rw [eD_len, hd]
  have pa : (a : Int) < n := by omega
  by_cases h : i ≤ j
  · obtain ⟨k, rfl⟩ : ∃ k, j = k + 1 := ⟨j - 1, by omega⟩
    have g1 := eD_get (d := d) (i := k + 1) (by omega)
    have l1 : k + 1 < (eD d).length := by rw [eD_len]; omega
    have gg1 := eD_at (d := d) (i := k + 1) (by omega) l1
    have p1 : (i : Int) ≤ ((k + 1 : Nat) : Int) := by omega
    have p2 : ((k + 1 : Nat) : Int) < n := by omega
    have hc := hg d[a]! d[k + 1]!
    have w1 : IntKind.i64.wrap (((k + 1 : Nat) : Int) - 1) = (k : Int) := by rw [wrap64 (by omega) (by omega)]; omega
    by_cases hlt : ¬ cmp d[a]! d[k + 1]! < 0
    · have ho : Go.Sort.scanDown (fun x => ltC cmp d[a]! x) d i (k + 1) = k + 1 := by
        rw [Go.Sort.scanDown, if_neg (by simp [ltC]; intro; omega)]
      rw [ho] at hnext
      simp only [vI] at hnext ⊢
      generalize eD d = E at *
      generalize d[k + 1]! = x at *
      generalize d[a]! = y at *
      generalize hk1 : k + 1 = k1 at *
      have hlt2 : 0 ≤ cmp y x := by omega
      simp [c65_3, eqCells, T3, T4, T5, T9, T22, T25, T26, T28, T29, T36, T41, T47, T69, T74, T78, T85, T90, T98, T104, CT, hne, p1, h, g1, g2, gg1, gg2, l1, l2, hl, pa, ha, p2, hj, hc, hlt, hlt2]
      exact hnext
    · have ho : Go.Sort.scanDown (fun x => ltC cmp d[a]! x) d i (k + 1) = Go.Sort.scanDown (fun x => ltC cmp d[a]! x) d i k := by
        rw [Go.Sort.scanDown, if_pos (by simp [ltC]; omega)]
      have ih2 := ih k ⟨by omega, ho.symm⟩ (by omega)
      clear ih
      simp only [vI] at ih2 ⊢
      generalize eD d = E at *
      generalize d[k + 1]! = x at *
      generalize d[a]! = y at *
      generalize hk1 : k + 1 = k1 at *
      have hlt2 : cmp y x < 0 := by omega
      simp [c65_3, eqCells, T3, T4, T5, T9, T22, T25, T26, T28, T29, T36, T41, T47, T69, T74, T78, T85, T90, T98, T104, CT, hne, p1, h, g1, g2, gg1, gg2, l1, l2, hl, pa, ha, p2, hj, hc, hlt2, w1]
      exact ih2
  · have ho : Go.Sort.scanDown (fun x => ltC cmp d[a]! x) d i j = j := by
      cases j with
      | zero => rfl
      | succ k => rw [Go.Sort.scanDown, if_neg (by simp; intro; omega)]
    have p1 : ¬ (i : Int) ≤ j := by omega
    rw [ho] at hnext
    simp only [vI] at hnext ⊢
    generalize eD d = E at *
    simp [c65_3, eqCells, T3, T4, T5, T9, T22, T25, T26, T28, T29, T36, T41, T47, T69, T74, T78, T85, T90, T98, T104, CT, hne, p1, h]
    exact hnext
end
end Go.Proofs.YtdhbecdlablonaaV.Pd
