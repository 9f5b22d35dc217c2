/- siftDown. -/
import Derived.Test.YtdhbecdlablonaaPm14
set_option linter.unusedVariables false
set_option linter.unusedSimpArgs false
namespace Go.Proofs.YtdhbecdlablonaaV.Pd
open Go.RowKit
attribute [local simp] TK.agg constAV evalAV EK.has EK.hasAll vecEls elsR AV.toD toDs AV.cells AV.one joinD TyI.zeroD OpR.of binIntF binStrF AV.isPtr ptrNil slNil mpNil nilE eqF negF posF binF pelF pvLoad pelSet pvStore boxLoad epLoad loadF boxStore storeF fieldAddrF fieldF epOf indexAddrF byteF indexF mapLen lenF cutF sliceF sliceN sliceX isSl slice3F fillF fillV arrFs buildF partsX landV buildSliceF roomB appVec appendF appMkF capF mmFrom mmF max2' min2' clearVec clearF convF unF pickF nilChkF extF ptrsOf callF makeSliceF sameKs sameD kindIs plainFs keyOk mapOb mapEs okV lookF lookupF putE putS mapPut mapUpdateF mapDel deleteF mapAll rangeM rangeF overV hitV nextO nextF entryM entryO entryF itOids builtinF capsOf allocF boxF bytesL bytesF byteTy strTy convertF makeFuncF mapNew makeMapF makeMapH opF reach reachOf AObj.live closedB nodupB packO packL packX backN backG backO obL backE frzX frzO AV.vids frzL landC sameObs landR touchF bitsW D.cells D.decEq D.decEqs AV.decEq AV.decEqs AObj.decEq AV.oids0 AV.oids AObj.oids renG renP AV.ren0 AV.ren envGet envPut envKeep obGet setEff putV St.put stepS keyChk chkD accD Ex.block AV.under AObj.under laysOf roomFor mkvO frzG szOk killO usedBy tidyS canL canS ghost ghostE normSt resOf allSome one0 resultsF finL finishL finish endF startEnv chkC backX comeC AV.flat0 rngC loopO layL endLp busyL idleL noRng rndSt rndEnd wpn_nil wpn_seq wpn_loop wpn_seq_exit wpn_loop_exit wpn_seq_ret wpn_loop_ret wpn_block wpn_post wpk_skip wpk_exit wpk_ret wpk_reg wpk_seq wpk_condT wpk_block wpk_loop wpk_pre wpk_post wop_nil wop_cons wop_guard St.know envSet cond_d cond_bool cond_int cond_str endE endQ freeB disj pushT bitsW int_beq int_bne eqS_def tbE fuelL_eq ann0_lays ann0_dd ann0_ro elsOf_dsl elsOf_dnils toNat_succ nn_succ pos_succ one_succ rng1 rng2 rng3 rng4 rng5 rng6 rng7 rng8 List.idxOf_cons wpk_rng rndK rndE
theorem siftDown_child (lt : Int → Int → Bool) (hi f r ch : Nat) (d : Array Int) (h : ¬ 2 * r + 1 ≥ hi)
    (hch : (2 * r + 1 + 1 < hi ∧ lt d[f + (2 * r + 1)]! d[f + (2 * r + 1) + 1]! = true ∧ ch = 2 * r + 1 + 1) ∨ ((2 * r + 1 + 1 < hi → lt d[f + (2 * r + 1)]! d[f + (2 * r + 1) + 1]! = false) ∧ ch = 2 * r + 1)) :
    Go.Sort.siftDown lt hi f r d = if lt d[f + r]! d[f + ch]! then Go.Sort.siftDown lt hi f ch (Go.Sort.swp d (f + r) (f + ch)) else d := by
  rw [Go.Sort.siftDown, dif_neg h]
  rcases hch with ⟨h1, h2, rfl⟩ | ⟨h1, rfl⟩
  · rw [if_pos (by simp [h1, h2])]
    have e : 2 * r + 1 + 1 = 2 * r + 2 := by omega
    rw [e] at h1 ⊢
    cases hc : lt d[f + r]! d[f + (2 * r + 2)]! <;> simp [h1]
  · rw [if_neg (by simp; exact h1)]
    cases hc : lt d[f + r]! d[f + (2 * r + 1)]! <;> simp
theorem siftDown_size (lt : Int → Int → Bool) (hi f : Nat) : ∀ (k r : Nat) (d : Array Int), hi - r ≤ k → (Go.Sort.siftDown lt hi f r d).size = d.size
  | k, r, d, h => by
    by_cases h1 : 2 * r + 1 ≥ hi
    · rw [Go.Sort.siftDown, dif_pos h1]
    · obtain ⟨k, rfl⟩ : ∃ j, k = j + 1 := ⟨k - 1, by omega⟩
      by_cases h2 : 2 * r + 1 + 1 < hi ∧ lt d[f + (2 * r + 1)]! d[f + (2 * r + 1) + 1]! = true
      · rw [siftDown_child lt hi f r _ d h1 (.inl ⟨h2.1, h2.2, rfl⟩)]
        split
        · rw [siftDown_size lt hi f k _ _ (by omega), swp_size]
        · rfl
      · rw [siftDown_child lt hi f r _ d h1 (.inr ⟨fun h3 => by cases hc : lt d[f + (2 * r + 1)]! d[f + (2 * r + 1) + 1]! with | false => rfl | true => exact absurd ⟨h3, hc⟩ h2, rfl⟩)]
        split
        · rw [siftDown_size lt hi f k _ _ (by omega), swp_size]
        · rfl
section
variable (g : Nat) (hne : g ≠ 1000000007) (cmp : Int → Int → Int) (hg : ∀ a b : Int, run CC g [.d (.int .i64 a), .d (.int .i64 b)] [] = some (.d (.int .i64 (cmp a b)), []))
include hne hg
set_option maxRecDepth 100000 in
set_option maxHeartbeats 4000000 in
theorem sift92_run (d : Array Int) (n r hi f : Nat) (hd : d.size = n) (hn : n < 400) (hf : f + hi ≤ n) (hr : r < 400) :
    run CC 77 [.vs 0 0 1 0 n, .d (.int .i64 r), .d (.int .i64 hi), .d (.int .i64 f), .fn g [] []] [vI d] = some (.tup [], [vI (Go.Sort.siftDown (ltC cmp) hi f r d)]) := by
  refine run_code (s := s77 1) rfl rfl rfl (by kernel_rfl) ?_
  simp [s77, eqCells, T3, T4, T5, T9, T22, T25, T26, T28, T29, T36, T41, T47, T69, T74, T78, T85, T90, T98, T104, CT, hne]
  refine wlp_inv (S := fun p : Nat × Array Int => ⟨[(0, .vs 0 0 1 0 n), (2, .d (.int .i64 hi)), (3, .d (.int .i64 f)), (4, .fn g [] []), (10, .d (.int .i64 p.1))], [vI p.2]⟩) (m := fun p => hi - p.1) (Inv := fun p => p.2.size = n ∧ p.1 < 400 ∧ Go.Sort.siftDown (ltC cmp) hi f p.1 p.2 = Go.Sort.siftDown (ltC cmp) hi f r d) ?_ (r, d) ⟨hd, hr, rfl⟩
  rintro ⟨r, e⟩ ⟨he, hr, hm⟩ ih
  rw [e77_1]
  simp only at he hr hm ⊢
  rw [← hm]
  have w1 : IntKind.i64.wrap (2 * (r : Int)) = ((2 * r : Nat) : Int) := by rw [wrap64 (by omega) (by omega)]; omega
  have w2 : IntKind.i64.wrap (((2 * r : Nat) : Int) + 1) = ((2 * r + 1 : Nat) : Int) := by rw [wrap64 (by omega) (by omega)]; omega
  have w3 : IntKind.i64.wrap (((2 * r + 1 : Nat) : Int) + 1) = ((2 * r + 1 + 1 : Nat) : Int) := by rw [wrap64 (by omega) (by omega)]; omega
  have w4 : IntKind.i64.wrap ((f : Int) + ((2 * r + 1 : Nat) : Int)) = ((f + (2 * r + 1) : Nat) : Int) := by rw [wrap64 (by omega) (by omega)]; omega
  have w5 : IntKind.i64.wrap (((f + (2 * r + 1) : Nat) : Int) + 1) = ((f + (2 * r + 1) + 1 : Nat) : Int) := by rw [wrap64 (by omega) (by omega)]; omega
  have w6 : IntKind.i64.wrap ((f : Int) + ((2 * r + 1 + 1 : Nat) : Int)) = ((f + (2 * r + 1) + 1 : Nat) : Int) := by rw [wrap64 (by omega) (by omega)]; omega
  have w7 : IntKind.i64.wrap ((f : Int) + (r : Int)) = ((f + r : Nat) : Int) := by rw [wrap64 (by omega) (by omega)]; omega
  by_cases h : 2 * r + 1 ≥ hi
  · have hs : Go.Sort.siftDown (ltC cmp) hi f r e = e := by rw [Go.Sort.siftDown, dif_pos h]
    rw [hs]
    have p1 : (hi : Int) ≤ ((2 * r + 1 : Nat) : Int) := by omega
    simp only [vI]
    generalize eD e = E at *
    generalize h2r : 2 * r = r2 at *
    generalize h2c : r2 + 1 = c1 at *
    simp [c77_1, eqCells, T3, T4, T5, T9, T22, T25, T26, T28, T29, T36, T41, T47, T69, T74, T78, T85, T90, T98, T104, CT, hne, w1, w2, p1, h]
  have p1 : ¬ (hi : Int) ≤ ((2 * r + 1 : Nat) : Int) := by omega
  have i0 : f + r < n := by omega
  have i1 : f + (2 * r + 1) < n := by omega
  obtain ⟨⟨g0, g1⟩, ⟨l0, l1, l2, gg0, gg1, gg2⟩, g3, hl, q1, q2⟩ := swF he i0 i1 (by omega)
  by_cases h2 : 2 * r + 1 + 1 < hi
  · have i2 : f + (2 * r + 1) + 1 < n := by omega
    have p2 : ((2 * r + 1 + 1 : Nat) : Int) < hi := by omega
    obtain ⟨⟨_, k1⟩, ⟨_, m1, m2, _, kk1, kk2⟩, k3, _, _, q3⟩ := swF he i0 i2 (by omega)
    have hc := hg e[f + (2 * r + 1)]! e[f + (2 * r + 1) + 1]!
    by_cases hlt : cmp e[f + (2 * r + 1)]! e[f + (2 * r + 1) + 1]! < 0
    · have ho := siftDown_child (ltC cmp) hi f r _ e h (.inl ⟨h2, by simp [ltC, hlt], rfl⟩)
      have e2 : f + (2 * r + 1 + 1) = f + (2 * r + 1) + 1 := by omega
      rw [e2] at ho
      have hc2 := hg e[f + r]! e[f + (2 * r + 1) + 1]!
      by_cases hlt2 : cmp e[f + r]! e[f + (2 * r + 1) + 1]! < 0
      · rw [if_pos (by simp [ltC, hlt2])] at ho
        have ih2 := ih (2 * r + 1 + 1, Go.Sort.swp e (f + r) (f + (2 * r + 1) + 1)) ⟨by simp only [swp_size, he], by simp only; omega, ho.symm.trans hm⟩ (by simp only; omega)
        clear ih
        rw [ho] 
        have hsw := eD_swp e (f + r) (f + (2 * r + 1) + 1)
        rw [ho] at hm
        rw [← hm] at ih2
        simp only [vI] at ih2 ⊢
        simp only [hsw] at ih2
        generalize eD e = E at *
        generalize e[f + r]! = x at *
        generalize e[f + (2 * r + 1)]! = y at *
        generalize e[f + (2 * r + 1) + 1]! = z at *
        generalize eD (Go.Sort.siftDown (ltC cmp) hi f (2 * r + 1 + 1) (Go.Sort.swp e (f + r) (f + (2 * r + 1) + 1))) = RR at *
        generalize h2r : 2 * r = r2 at *
        generalize h2c : r2 + 1 = c1 at *
        generalize h2d : c1 + 1 = c2 at *
        generalize hj0 : f + r = j0 at *
        generalize hj1 : f + c1 = j1 at *
        generalize hj2 : j1 + 1 = j2 at *
        simp [c77_1, eqCells, T3, T4, T5, T9, T22, T25, T26, T28, T29, T36, T41, T47, T69, T74, T78, T85, T90, T98, T104, CT, hne, w1, w2, w3, w4, w5, w6, w7, p1, p2, h, h2, g0, g1, k1, gg0, gg1, kk1, kk2, l0, l1, m1, m2, k3, hl, i0, i1, i2, q1, q2, q3, hc, hlt, hc2, hlt2]
        exact ih2
      · rw [if_neg (by simp [ltC, hlt2])] at ho
        rw [ho]
        simp only [vI]
        generalize eD e = E at *
        generalize e[f + r]! = x at *
        generalize e[f + (2 * r + 1)]! = y at *
        generalize e[f + (2 * r + 1) + 1]! = z at *
        generalize h2r : 2 * r = r2 at *
        generalize h2c : r2 + 1 = c1 at *
        generalize h2d : c1 + 1 = c2 at *
        generalize hj0 : f + r = j0 at *
        generalize hj1 : f + c1 = j1 at *
        generalize hj2 : j1 + 1 = j2 at *
        simp [c77_1, eqCells, T3, T4, T5, T9, T22, T25, T26, T28, T29, T36, T41, T47, T69, T74, T78, T85, T90, T98, T104, CT, hne, w1, w2, w3, w4, w5, w6, w7, p1, p2, h, h2, g0, g1, k1, gg0, gg1, kk1, kk2, l0, l1, m1, m2, k3, hl, i0, i1, i2, q1, q2, q3, hc, hlt, hc2, hlt2]
    · have ho := siftDown_child (ltC cmp) hi f r _ e h (.inr ⟨fun _ => by simp [ltC]; omega, rfl⟩)
      have hc2 := hg e[f + r]! e[f + (2 * r + 1)]!
      by_cases hlt2 : cmp e[f + r]! e[f + (2 * r + 1)]! < 0
      · rw [if_pos (by simp [ltC, hlt2])] at ho
        have ih2 := ih (2 * r + 1, Go.Sort.swp e (f + r) (f + (2 * r + 1))) ⟨by simp only [swp_size, he], by simp only; omega, ho.symm.trans hm⟩ (by simp only; omega)
        clear ih
        rw [ho]
        have hsw := eD_swp e (f + r) (f + (2 * r + 1))
        rw [ho] at hm
        rw [← hm] at ih2
        simp only [vI] at ih2 ⊢
        simp only [hsw] at ih2
        generalize eD e = E at *
        generalize e[f + r]! = x at *
        generalize e[f + (2 * r + 1)]! = y at *
        generalize e[f + (2 * r + 1) + 1]! = z at *
        generalize eD (Go.Sort.siftDown (ltC cmp) hi f (2 * r + 1) (Go.Sort.swp e (f + r) (f + (2 * r + 1)))) = RR at *
        generalize h2r : 2 * r = r2 at *
        generalize h2c : r2 + 1 = c1 at *
        generalize h2d : c1 + 1 = c2 at *
        generalize hj0 : f + r = j0 at *
        generalize hj1 : f + c1 = j1 at *
        generalize hj2 : j1 + 1 = j2 at *
        simp [c77_1, eqCells, T3, T4, T5, T9, T22, T25, T26, T28, T29, T36, T41, T47, T69, T74, T78, T85, T90, T98, T104, CT, hne, w1, w2, w3, w4, w5, w6, w7, p1, p2, h, h2, g0, g1, k1, gg0, gg1, gg2, kk1, kk2, l0, l1, l2, m1, m2, g3, hl, i0, i1, i2, q1, q2, q3, hc, hlt, hc2, hlt2]
        exact ih2
      · rw [if_neg (by simp [ltC, hlt2])] at ho
        rw [ho]
        simp only [vI]
        generalize eD e = E at *
        generalize e[f + r]! = x at *
        generalize e[f + (2 * r + 1)]! = y at *
        generalize e[f + (2 * r + 1) + 1]! = z at *
        generalize h2r : 2 * r = r2 at *
        generalize h2c : r2 + 1 = c1 at *
        generalize h2d : c1 + 1 = c2 at *
        generalize hj0 : f + r = j0 at *
        generalize hj1 : f + c1 = j1 at *
        generalize hj2 : j1 + 1 = j2 at *
        simp [c77_1, eqCells, T3, T4, T5, T9, T22, T25, T26, T28, T29, T36, T41, T47, T69, T74, T78, T85, T90, T98, T104, CT, hne, w1, w2, w3, w4, w5, w6, w7, p1, p2, h, h2, g0, g1, k1, gg0, gg1, gg2, kk1, kk2, l0, l1, l2, m1, m2, g3, hl, i0, i1, i2, q1, q2, q3, hc, hlt, hc2, hlt2]
  · have p2 : ¬ ((2 * r + 1 + 1 : Nat) : Int) < hi := by omega
    have ho := siftDown_child (ltC cmp) hi f r _ e h (.inr ⟨fun h3 => absurd h3 h2, rfl⟩)
    have hc2 := hg e[f + r]! e[f + (2 * r + 1)]!
    by_cases hlt2 : cmp e[f + r]! e[f + (2 * r + 1)]! < 0
    · rw [if_pos (by simp [ltC, hlt2])] at ho
      have ih2 := ih (2 * r + 1, Go.Sort.swp e (f + r) (f + (2 * r + 1))) ⟨by simp only [swp_size, he], by simp only; omega, ho.symm.trans hm⟩ (by simp only; omega)
      clear ih
      rw [ho]
      have hsw := eD_swp e (f + r) (f + (2 * r + 1))
      rw [ho] at hm
      rw [← hm] at ih2
      simp only [vI] at ih2 ⊢
      simp only [hsw] at ih2
      generalize eD e = E at *
      generalize e[f + r]! = x at *
      generalize e[f + (2 * r + 1)]! = y at *
      generalize eD (Go.Sort.siftDown (ltC cmp) hi f (2 * r + 1) (Go.Sort.swp e (f + r) (f + (2 * r + 1)))) = RR at *
      generalize h2r : 2 * r = r2 at *
      generalize h2c : r2 + 1 = c1 at *
      generalize h2d : c1 + 1 = c2 at *
      generalize hj0 : f + r = j0 at *
      generalize hj1 : f + c1 = j1 at *
      simp [c77_1, eqCells, T3, T4, T5, T9, T22, T25, T26, T28, T29, T36, T41, T47, T69, T74, T78, T85, T90, T98, T104, CT, hne, w1, w2, w3, w4, w7, p1, p2, h, h2, g0, g1, gg0, gg1, gg2, l0, l1, l2, g3, hl, i0, i1, q1, q2, hc2, hlt2]
      exact ih2
    · rw [if_neg (by simp [ltC, hlt2])] at ho
      rw [ho]
      simp only [vI]
      generalize eD e = E at *
      generalize e[f + r]! = x at *
      generalize e[f + (2 * r + 1)]! = y at *
      generalize h2r : 2 * r = r2 at *
      generalize h2c : r2 + 1 = c1 at *
      generalize h2d : c1 + 1 = c2 at *
      generalize hj0 : f + r = j0 at *
      generalize hj1 : f + c1 = j1 at *
      simp [c77_1, eqCells, T3, T4, T5, T9, T22, T25, T26, T28, T29, T36, T41, T47, T69, T74, T78, T85, T90, T98, T104, CT, hne, w1, w2, w3, w4, w7, p1, p2, h, h2, g0, g1, gg0, gg1, gg2, l0, l1, l2, g3, hl, i0, i1, q1, q2, hc2, hlt2]
end
end Go.Proofs.YtdhbecdlablonaaV.Pd
