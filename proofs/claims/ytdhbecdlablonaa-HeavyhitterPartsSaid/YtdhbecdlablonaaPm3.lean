/- Insertion sort of a part. -/
import Derived.Test.YtdhbecdlablonaaPm2
set_option linter.unusedVariables false
set_option linter.unusedSimpArgs false
namespace Go.Proofs.YtdhbecdlablonaaV.Pd
open Go.RowKit
attribute [local simp] TK.agg constAV evalAV EK.has EK.hasAll vecEls elsR AV.toD toDs AV.cells AV.one joinD TyI.zeroD OpR.of binIntF binStrF AV.isPtr ptrNil slNil mpNil nilE eqF negF posF binF pelF pvLoad pelSet pvStore boxLoad epLoad loadF boxStore storeF fieldAddrF fieldF epOf indexAddrF byteF indexF mapLen lenF cutF sliceF sliceN sliceX isSl slice3F fillF fillV arrFs buildF partsX landV buildSliceF roomB appVec appendF appMkF capF mmFrom mmF max2' min2' clearVec clearF convF unF pickF nilChkF extF ptrsOf callF makeSliceF sameKs sameD kindIs plainFs keyOk mapOb mapEs okV lookF lookupF putE putS mapPut mapUpdateF mapDel deleteF mapAll rangeM rangeF overV hitV nextO nextF entryM entryO entryF itOids builtinF capsOf allocF boxF bytesL bytesF byteTy strTy convertF makeFuncF mapNew makeMapF makeMapH opF reach reachOf AObj.live closedB nodupB packO packL packX backN backG backO obL backE frzX frzO AV.vids frzL landC sameObs landR touchF bitsW D.cells D.decEq D.decEqs AV.decEq AV.decEqs AObj.decEq AV.oids0 AV.oids AObj.oids renG renP AV.ren0 AV.ren envGet envPut envKeep obGet setEff putV St.put stepS keyChk chkD accD Ex.block AV.under AObj.under laysOf roomFor mkvO frzG szOk killO usedBy tidyS canL canS ghost ghostE normSt resOf allSome one0 resultsF finL finishL finish endF startEnv chkC backX comeC AV.flat0 rngC loopO layL endLp busyL idleL noRng rndSt rndEnd wpn_nil wpn_seq wpn_loop wpn_seq_exit wpn_loop_exit wpn_seq_ret wpn_loop_ret wpn_block wpn_post wpk_skip wpk_exit wpk_ret wpk_reg wpk_seq wpk_condT wpk_block wpk_loop wpk_pre wpk_post wop_nil wop_cons wop_guard St.know envSet cond_d cond_bool cond_int cond_str endE endQ freeB disj pushT bitsW int_beq int_bne eqS_def tbE fuelL_eq ann0_lays ann0_dd ann0_ro elsOf_dsl elsOf_dnils toNat_succ nn_succ pos_succ one_succ rng1 rng2 rng3 rng4 rng5 rng6 rng7 rng8 List.idxOf_cons wpk_rng rndK rndE
theorem swp_size (d : Array Int) (i j : Nat) : (Go.Sort.swp d i j).size = d.size := by simp [Go.Sort.swp]
theorem eD_swp (d : Array Int) (i j : Nat) : eD (Go.Sort.swp d i j) = ((eD d).set i (.int .i64 d[j]!)).set j (.int .i64 d[i]!) := by
  unfold Go.Sort.swp eD
  rw [Array.toList_setIfInBounds, Array.toList_setIfInBounds, List.map_set, List.map_set]
  rfl
theorem insInner_size (lt : Int → Int → Bool) (a : Nat) : ∀ (j : Nat) (d : Array Int), (Go.Sort.insInner lt a j d).size = d.size
  | 0, d => rfl
  | j + 1, d => by
    unfold Go.Sort.insInner
    split
    · rw [insInner_size lt a j, swp_size]
    · rfl
section
variable (g : Nat) (hne : g ≠ 1000000007) (cmp : Int → Int → Int) (hg : ∀ a b : Int, run CC g [.d (.int .i64 a), .d (.int .i64 b)] [] = some (.d (.int .i64 (cmp a b)), []))
include hne hg
set_option maxRecDepth 100000 in
set_option maxHeartbeats 2000000 in
theorem loop82_2 (n a b i : Nat) (hn : n < 1000) (j : Nat) (d : Array Int) (hd : d.size = n) (hj : j < n) (ks : List Fr) (K : Ex → St → Prop)
    (hnext : wpn CC .norm ⟨[(0, .vs 0 0 1 0 n), (1, .d (.int .i64 a)), (2, .d (.int .i64 b)), (3, .fn g [] []), (8, .d (.int .i64 i))], [.vec 0 false false 3 1 (eD (Go.Sort.insInner (ltC cmp) a j d))]⟩ ks K) :
    wlp CC (s59_2 1) ⟨[(0, .vs 0 0 1 0 n), (1, .d (.int .i64 a)), (2, .d (.int .i64 b)), (3, .fn g [] []), (8, .d (.int .i64 i)), (9, .d (.int .i64 j))], [.vec 0 false false 3 1 (eD d)]⟩ (.block 2 :: .post (.tidy [0, 1, 2, 3, 8] 1 1) :: ks) K := by
  refine wlp_inv (S := fun p : Nat × Array Int => ⟨[(0, .vs 0 0 1 0 n), (1, .d (.int .i64 a)), (2, .d (.int .i64 b)), (3, .fn g [] []), (8, .d (.int .i64 i)), (9, .d (.int .i64 p.1))], [.vec 0 false false 3 1 (eD p.2)]⟩) (m := fun p => p.1) (Inv := fun p => p.2.size = n ∧ p.1 < n ∧ Go.Sort.insInner (ltC cmp) a p.1 p.2 = Go.Sort.insInner (ltC cmp) a j d) ?_ (j, d) ⟨hd, hj, rfl⟩
  rintro ⟨j, d⟩ ⟨hd, hj, hm⟩ ih
  rw [e59_2]
  simp only at hd hj hm ⊢
  rw [← hm] at hnext ih
  cases j with
  | zero =>
    have pa : ¬ (a : Int) < 0 := by omega
    simp only [Go.Sort.insInner] at hnext
    generalize eD d = E at *
    simp [c59_2, eqCells, T3, T4, T5, T9, T22, T25, T26, T28, T29, T36, T41, T47, T69, T74, T78, T85, T90, T98, T104, CT, hne, pa]
    exact hnext
  | succ j =>
    by_cases ha : a < j + 1
    · have w1 : IntKind.i64.wrap ((j : Int) + 1 - 1) = (j : Int) := by rw [Int.add_sub_cancel]; exact wrap64 (by omega) (by omega)
      have w2 : IntKind.i64.wrap (j : Int) = (j : Int) := wrap64 (by omega) (by omega)
      have g1 := eD_get (d := d) (i := j + 1) (by omega)
      have g2 := eD_get (d := d) (i := j) (by omega)
      have l1 : j + 1 < (eD d).length := by rw [eD_len]; omega
      have l2 : j < (eD d).length := by rw [eD_len]; omega
      have gg1 := eD_at (d := d) (i := j + 1) (by omega) l1
      have gg2 := eD_at (d := d) (i := j) (by omega) l2
      have hsw := eD_swp d (j + 1) j
      have hss := swp_size d (j + 1) j
      have hl : (eD d).length = n := by rw [eD_len, hd]
      have hcmp := hg d[j + 1]! d[j]!
      have pa : (a : Int) < (j : Int) + 1 := by omega
      have p2 : j < n := by omega
      have p3 : (j : Int) + 1 < n := by omega
      have p4 : (j : Int) < n := by omega
      have g3 : ((eD d).set (j + 1) (.int .i64 d[j]!))[j]? = some (.int .i64 d[j]!) := by rw [List.getElem?_set_ne (by omega), g2]
      by_cases hc : cmp d[j + 1]! d[j]! < 0
      · have he : Go.Sort.insInner (ltC cmp) a (j + 1) d = Go.Sort.insInner (ltC cmp) a j (Go.Sort.swp d (j + 1) j) := by
          rw [Go.Sort.insInner, if_pos (by simp [ltC, hc, ha])]
        have ih := ih (j, Go.Sort.swp d (j + 1) j) ⟨by simp only [hss, hd], p2, he.symm⟩ (by simp)
        simp only [hsw] at ih
        generalize eD d = E at *
        generalize d[j + 1]! = y at *
        generalize d[j]! = x at *
        simp [c59_2, eqCells, T3, T4, T5, T9, T22, T25, T26, T28, T29, T36, T41, T47, T69, T74, T78, T85, T90, T98, T104, CT, hne, g1, g2, g3, gg1, gg2, l1, l2, hl, w1, w2, hcmp, hc, pa, hj, p2, p3, p4, ha]
        exact ih
      · have he : Go.Sort.insInner (ltC cmp) a (j + 1) d = d := by
          rw [Go.Sort.insInner, if_neg (by simp [ltC, hc])]
        rw [he] at hnext
        generalize eD d = E at *
        generalize d[j + 1]! = y at *
        generalize d[j]! = x at *
        simp [c59_2, eqCells, T3, T4, T5, T9, T22, T25, T26, T28, T29, T36, T41, T47, T69, T74, T78, T85, T90, T98, T104, CT, hne, g1, g2, gg1, gg2, l1, l2, hl, w1, w2, hcmp, hc, pa, hj, p2, p3, p4, ha]
        exact hnext
    · have he : Go.Sort.insInner (ltC cmp) a (j + 1) d = d := by
        rw [Go.Sort.insInner, if_neg (by simp [ha])]
      have pa : ¬ (a : Int) < (j : Int) + 1 := by omega
      rw [he] at hnext
      generalize eD d = E at *
      simp [c59_2, eqCells, T3, T4, T5, T9, T22, T25, T26, T28, T29, T36, T41, T47, T69, T74, T78, T85, T90, T98, T104, CT, hne, pa, ha]
      exact hnext
set_option maxRecDepth 100000 in
set_option maxHeartbeats 2000000 in
theorem ins82_run (d : Array Int) (n a b : Nat) (hd : d.size = n) (hn : n < 1000) (ha : a ≤ n) (hb : b ≤ n) : run CC 59 [.vs 0 0 1 0 n, .d (.int .i64 a), .d (.int .i64 b), .fn g [] []] [vI d] = some (.tup [], [vI (Go.Sort.insertionSort (ltC cmp) d a b)]) := by
  refine run_code (s := s59 1) rfl rfl rfl (by kernel_rfl) ?_
  have w0 : IntKind.i64.wrap ((a : Int) + 1) = (a : Int) + 1 := wrap64 (by omega) (by omega)
  unfold Go.Sort.insertionSort
  simp [s59, eqCells, T3, T4, T5, T9, T22, T25, T26, T28, T29, T36, T41, T47, T69, T74, T78, T85, T90, T98, T104, CT, hne, w0]
  refine wlp_inv (S := fun p : Nat × Array Int => ⟨[(0, .vs 0 0 1 0 n), (1, .d (.int .i64 a)), (2, .d (.int .i64 b)), (3, .fn g [] []), (8, .d (.int .i64 p.1))], [.vec 0 false false 3 1 (eD p.2)]⟩) (m := fun p => b - p.1) (Inv := fun p => p.2.size = n ∧ Go.Sort.insOuter (ltC cmp) a b p.1 p.2 = Go.Sort.insOuter (ltC cmp) a b (a + 1) d) ?_ (a + 1, d) ⟨hd, rfl⟩
  rintro ⟨i, e⟩ ⟨he, hm⟩ ih
  rw [e59_1]
  simp only at he hm ⊢
  rw [← hm] at ih ⊢
  by_cases h : i < b
  · have ho : Go.Sort.insOuter (ltC cmp) a b i e = Go.Sort.insOuter (ltC cmp) a b (i + 1) (Go.Sort.insInner (ltC cmp) a i e) := by rw [Go.Sort.insOuter, if_pos h]
    have hsz := insInner_size (ltC cmp) a i e
    have ih := ih (i + 1, Go.Sort.insInner (ltC cmp) a i e) ⟨by simp only [hsz, he], ho.symm⟩ (by simp only; omega)
    have hin := loop82_2 g hne cmp hg n a b i hn i e he (by omega)
    have w1 : IntKind.i64.wrap ((i : Int) + 1) = (i : Int) + 1 := wrap64 (by omega) (by omega)
    have p1 : (i : Int) < b := by omega
    simp only [vI] at ih ⊢
    generalize Go.Sort.insOuter (ltC cmp) a b i e = R at *
    simp at ih
    simp [c59_1, eqCells, T3, T4, T5, T9, T22, T25, T26, T28, T29, T36, T41, T47, T69, T74, T78, T85, T90, T98, T104, CT, hne, p1, h]
    refine hin _ _ ?_
    generalize Go.Sort.insInner (ltC cmp) a i e = F at *
    simp [eqCells, T3, T4, T5, T9, T22, T25, T26, T28, T29, T36, T41, T47, T69, T74, T78, T85, T90, T98, T104, CT, hne, w1]
    exact ih
  · have ho : Go.Sort.insOuter (ltC cmp) a b i e = e := by rw [Go.Sort.insOuter, if_neg h]
    have p1 : ¬ (i : Int) < b := by omega
    rw [ho]
    simp [c59_1, eqCells, T3, T4, T5, T9, T22, T25, T26, T28, T29, T36, T41, T47, T69, T74, T78, T85, T90, T98, T104, CT, hne, p1, h]
end
end Go.Proofs.YtdhbecdlablonaaV.Pd
