/- heapSort. -/
import Derived.Test.YtdhbecdlablonaaPm15
set_option linter.unusedVariables false
set_option linter.unusedSimpArgs false
namespace Go.Proofs.YtdhbecdlablonaaV.Pd
open Go.RowKit
attribute [local simp] TK.agg constAV evalAV EK.has EK.hasAll vecEls elsR AV.toD toDs AV.cells AV.one joinD TyI.zeroD OpR.of binIntF binStrF AV.isPtr ptrNil slNil mpNil nilE eqF negF posF binF pelF pvLoad pelSet pvStore boxLoad epLoad loadF boxStore storeF fieldAddrF fieldF epOf indexAddrF byteF indexF mapLen lenF cutF sliceF sliceN sliceX isSl slice3F fillF fillV arrFs buildF partsX landV buildSliceF roomB appVec appendF appMkF capF mmFrom mmF max2' min2' clearVec clearF convF unF pickF nilChkF extF ptrsOf callF makeSliceF sameKs sameD kindIs plainFs keyOk mapOb mapEs okV lookF lookupF putE putS mapPut mapUpdateF mapDel deleteF mapAll rangeM rangeF overV hitV nextO nextF entryM entryO entryF itOids builtinF capsOf allocF boxF bytesL bytesF byteTy strTy convertF makeFuncF mapNew makeMapF makeMapH opF reach reachOf AObj.live closedB nodupB packO packL packX backN backG backO obL backE frzX frzO AV.vids frzL landC sameObs landR touchF bitsW D.cells D.decEq D.decEqs AV.decEq AV.decEqs AObj.decEq AV.oids0 AV.oids AObj.oids renG renP AV.ren0 AV.ren envGet envPut envKeep obGet setEff putV St.put stepS keyChk chkD accD Ex.block AV.under AObj.under laysOf roomFor mkvO frzG szOk killO usedBy tidyS canL canS ghost ghostE normSt resOf allSome one0 resultsF finL finishL finish endF startEnv chkC backX comeC AV.flat0 rngC loopO layL endLp busyL idleL noRng rndSt rndEnd wpn_nil wpn_seq wpn_loop wpn_seq_exit wpn_loop_exit wpn_seq_ret wpn_loop_ret wpn_block wpn_post wpk_skip wpk_exit wpk_ret wpk_reg wpk_seq wpk_condT wpk_block wpk_loop wpk_pre wpk_post wop_nil wop_cons wop_guard St.know envSet cond_d cond_bool cond_int cond_str endE endQ freeB disj pushT bitsW int_beq int_bne eqS_def tbE fuelL_eq ann0_lays ann0_dd ann0_ro elsOf_dsl elsOf_dnils toNat_succ nn_succ pos_succ one_succ rng1 rng2 rng3 rng4 rng5 rng6 rng7 rng8 List.idxOf_cons wpk_rng rndK rndE
section
variable (g : Nat) (hne : g ≠ 1000000007) (cmp : Int → Int → Int) (hg : ∀ a b : Int, run CC g [.d (.int .i64 a), .d (.int .i64 b)] [] = some (.d (.int .i64 (cmp a b)), []))
include hne hg
set_option maxRecDepth 100000 in
set_option maxHeartbeats 4000000 in
theorem loop83_1 (n f hi : Nat) (hn : n < 400) (hf : f + hi ≤ n) (k : Nat) (hk : k < 400) (d : Array Int) (hd : d.size = n) (ks : List Fr) (K : Ex → St → Prop)
    (hnext : (Go.Sort.heapBuild (ltC cmp) hi f k d).size = n → wpn CC .norm ⟨[(0, .vs 0 0 1 0 n), (3, .fn g [] []), (8, .d (.int .i64 f)), (9, .d (.int .i64 0)), (10, .d (.int .i64 hi))], [vI (Go.Sort.heapBuild (ltC cmp) hi f k d)]⟩ ks K) :
    wlp CC (s60_1 1) ⟨[(0, .vs 0 0 1 0 n), (3, .fn g [] []), (8, .d (.int .i64 f)), (9, .d (.int .i64 0)), (10, .d (.int .i64 hi)), (11, .d (.int .i64 ((k : Int) - 1)))], [vI d]⟩ (.block 0 :: .post (.tidy [0, 3, 8, 9, 10] 1 1) :: ks) K := by
  refine wlp_inv (S := fun p : Nat × Array Int => ⟨[(0, .vs 0 0 1 0 n), (3, .fn g [] []), (8, .d (.int .i64 f)), (9, .d (.int .i64 0)), (10, .d (.int .i64 hi)), (11, .d (.int .i64 ((p.1 : Int) - 1)))], [vI p.2]⟩) (m := fun p => p.1) (Inv := fun p => p.2.size = n ∧ p.1 < 400 ∧ Go.Sort.heapBuild (ltC cmp) hi f p.1 p.2 = Go.Sort.heapBuild (ltC cmp) hi f k d) ?_ (k, d) ⟨hd, hk, rfl⟩
  rintro ⟨k, e⟩ ⟨he, hk, hm⟩ ih
  rw [e60_1]
  simp only at he hk hm ⊢
  rw [← hm] at hnext
  cases k with
  | zero =>
    have hnext := hnext he
    simp only [Go.Sort.heapBuild] at hnext
    have p1 : ¬ (0 : Int) ≤ ((0 : Nat) : Int) - 1 := by omega
    simp only [vI] at hnext ⊢
    generalize eD e = E at *
    simp [c60_1, eqCells, T3, T4, T5, T9, T22, T25, T26, T28, T29, T36, T41, T47, T69, T74, T78, T85, T90, T98, T104, CT, hne, p1]
    exact hnext
  | succ k =>
    have hz := siftDown_size (ltC cmp) hi f _ k e (Nat.le_refl _)
    have hs := sift92_run g hne cmp hg e n k hi f he hn hf (by omega)
    have ih2 := ih (k, Go.Sort.siftDown (ltC cmp) hi f k e) ⟨by simp only [hz, he], by simp only; omega, hm⟩ (by simp only; omega)
    clear ih
    have p1 : (0 : Int) ≤ (k : Int) := by omega
    have w1 : ((k + 1 : Nat) : Int) - 1 = (k : Int) := by omega
    have w2 : IntKind.i64.wrap ((k : Int) - 1) = (k : Int) - 1 := wrap64 (by omega) (by omega)
    rw [w1]
    simp only [vI] at hs ih2 ⊢
    generalize eD (Go.Sort.siftDown (ltC cmp) hi f k e) = F at *
    generalize eD e = E at *
    simp [c60_1, eqCells, T3, T4, T5, T9, T22, T25, T26, T28, T29, T36, T41, T47, T69, T74, T78, T85, T90, T98, T104, CT, hne, p1, hs, w2]
    exact ih2
set_option maxRecDepth 100000 in
set_option maxHeartbeats 4000000 in
theorem loop83_2 (n f : Nat) (hn : n < 400) (k : Nat) (hk : f + k ≤ n) (d : Array Int) (hd : d.size = n) (ks : List Fr) (K : Ex → St → Prop)
    (hnext : wpn CC .norm ⟨[], [vI (Go.Sort.heapPop (ltC cmp) f k d)]⟩ ks K) :
    wlp CC (s60_2 1) ⟨[(0, .vs 0 0 1 0 n), (3, .fn g [] []), (8, .d (.int .i64 f)), (9, .d (.int .i64 0)), (12, .d (.int .i64 ((k : Int) - 1)))], [vI d]⟩ (.block 2 :: .post (.tidy [] 1 1) :: ks) K := by
  refine wlp_inv (S := fun p : Nat × Array Int => ⟨[(0, .vs 0 0 1 0 n), (3, .fn g [] []), (8, .d (.int .i64 f)), (9, .d (.int .i64 0)), (12, .d (.int .i64 ((p.1 : Int) - 1)))], [vI p.2]⟩) (m := fun p => p.1) (Inv := fun p => p.2.size = n ∧ f + p.1 ≤ n ∧ Go.Sort.heapPop (ltC cmp) f p.1 p.2 = Go.Sort.heapPop (ltC cmp) f k d) ?_ (k, d) ⟨hd, hk, rfl⟩
  rintro ⟨k, e⟩ ⟨he, hk, hm⟩ ih
  rw [e60_2]
  simp only at he hk hm ⊢
  rw [← hm] at hnext
  cases k with
  | zero =>
    simp only [Go.Sort.heapPop] at hnext
    have p1 : ¬ (0 : Int) ≤ ((0 : Nat) : Int) - 1 := by omega
    simp only [vI] at hnext ⊢
    generalize eD e = E at *
    simp [c60_2, eqCells, T3, T4, T5, T9, T22, T25, T26, T28, T29, T36, T41, T47, T69, T74, T78, T85, T90, T98, T104, CT, hne, p1]
    exact hnext
  | succ k =>
    have i0 : f < n := by omega
    have i1 : f + k < n := by omega
    obtain ⟨⟨g0, g1⟩, ⟨l0, l1, l2, gg0, gg1, gg2⟩, g3, hl, q1, q2⟩ := swF he i0 i1 (by omega)
    have hsw := eD_swp e f (f + k)
    have hss := swp_size e f (f + k)
    have hz := siftDown_size (ltC cmp) k f _ 0 (Go.Sort.swp e f (f + k)) (Nat.le_refl _)
    have hs := sift92_run g hne cmp hg (Go.Sort.swp e f (f + k)) n 0 k f (by rw [hss, he]) hn (by omega) (by omega)
    have ih2 := ih (k, Go.Sort.siftDown (ltC cmp) k f 0 (Go.Sort.swp e f (f + k))) ⟨by simp only [hz, hss, he], by simp only; omega, hm⟩ (by simp only; omega)
    clear ih
    have p1 : (0 : Int) ≤ (k : Int) := by omega
    have w1 : ((k + 1 : Nat) : Int) - 1 = (k : Int) := by omega
    have w2 : IntKind.i64.wrap ((k : Int) - 1) = (k : Int) - 1 := wrap64 (by omega) (by omega)
    have w3 : IntKind.i64.wrap ((f : Int) + (k : Int)) = ((f + k : Nat) : Int) := by rw [wrap64 (by omega) (by omega)]; omega
    rw [w1]
    simp only [vI] at hs ih2 ⊢
    simp only [hsw] at hs
    generalize eD (Go.Sort.siftDown (ltC cmp) k f 0 (Go.Sort.swp e f (f + k))) = F at *
    generalize eD e = E at *
    generalize e[f]! = x at *
    generalize e[f + k]! = y at *
    generalize f + k = j at *
    simp at hs
    simp [c60_2, eqCells, T3, T4, T5, T9, T22, T25, T26, T28, T29, T36, T41, T47, T69, T74, T78, T85, T90, T98, T104, CT, hne, p1, g0, g1, l0, l1, l2, gg0, gg1, gg2, g3, hl, i0, i1, q1, q2, hs, w2, w3]
    exact ih2
set_option maxRecDepth 100000 in
set_option maxHeartbeats 4000000 in
theorem heap83_run (d : Array Int) (n a b : Nat) (hd : d.size = n) (hn : n < 400) (hab : a < b) (hb : b ≤ n) :
    run CC 60 [.vs 0 0 1 0 n, .d (.int .i64 a), .d (.int .i64 b), .fn g [] []] [vI d] = some (.tup [], [vI (Go.Sort.heapSort (ltC cmp) d a b)]) := by
  refine run_code (s := s60 1) rfl rfl rfl (by kernel_rfl) ?_
  have w1 : IntKind.i64.wrap ((b : Int) - a) = ((b - a : Nat) : Int) := by rw [wrap64 (by omega) (by omega)]; omega
  unfold Go.Sort.heapSort
  have hf : a + (b - a) ≤ n := by omega
  have h0 : 0 < b - a := by omega
  generalize hh : b - a = hi at *
  have w2 : IntKind.i64.wrap ((hi : Int) - 1) = (hi : Int) - 1 := wrap64 (by omega) (by omega)
  have w3 : IntKind.i64.wrap (((hi : Int) - 1).tdiv 2) = (((hi - 1) / 2 + 1 : Nat) : Int) - 1 := by
    have : (hi : Int) - 1 = ((hi - 1 : Nat) : Int) := by omega
    rw [this, Int.tdiv_eq_ediv_of_nonneg (by omega), wrap64 (by omega) (by omega)]; omega
  have w4 : ((hi : Int) - 1).tdiv 2 = (((hi - 1) / 2 + 1 : Nat) : Int) - 1 := by
    have : (hi : Int) - 1 = ((hi - 1 : Nat) : Int) := by omega
    rw [this, Int.tdiv_eq_ediv_of_nonneg (by omega)]; omega
  have L1 := loop83_1 g hne cmp hg n a hi hn hf ((hi - 1) / 2 + 1) (by omega) d hd
  have hk0 : (hi - 1) / 2 + 1 < 400 := by omega
  generalize (hi - 1) / 2 + 1 = k0 at *
  have w5 : IntKind.i64.wrap ((k0 : Int) - 1) = (k0 : Int) - 1 := wrap64 (by omega) (by omega)
  simp only [vI] at L1 ⊢
  simp [s60, eqCells, T3, T4, T5, T9, T22, T25, T26, T28, T29, T36, T41, T47, T69, T74, T78, T85, T90, T98, T104, CT, hne, w1, w2, w3, w4, w5]
  refine L1 _ _ fun hz => ?_
  have L2 := loop83_2 g hne cmp hg n a hn hi hf (Go.Sort.heapBuild (ltC cmp) hi a k0 d) hz
  simp only [vI] at L2
  simp [eqCells, T3, T4, T5, T9, T22, T25, T26, T28, T29, T36, T41, T47, T69, T74, T78, T85, T90, T98, T104, CT, hne, w2]
  refine L2 _ _ ?_
  generalize eD (Go.Sort.heapPop (ltC cmp) a hi (Go.Sort.heapBuild (ltC cmp) hi a k0 d)) = F at *
  simp [eqCells, T3, T4, T5, T9, T22, T25, T26, T28, T29, T36, T41, T47, T69, T74, T78, T85, T90, T98, T104, CT]
end
end Go.Proofs.YtdhbecdlablonaaV.Pd
