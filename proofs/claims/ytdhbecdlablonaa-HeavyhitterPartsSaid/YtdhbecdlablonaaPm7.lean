/- partition. -/
import Derived.Test.YtdhbecdlablonaaPm6
set_option linter.unusedVariables false
set_option linter.unusedSimpArgs false
namespace Go.Proofs.YtdhbecdlablonaaV.Pd
open Go.RowKit
attribute [local simp] TK.agg constAV evalAV EK.has EK.hasAll vecEls elsR AV.toD toDs AV.cells AV.one joinD TyI.zeroD OpR.of binIntF binStrF AV.isPtr ptrNil slNil mpNil nilE eqF negF posF binF pelF pvLoad pelSet pvStore boxLoad epLoad loadF boxStore storeF fieldAddrF fieldF epOf indexAddrF byteF indexF mapLen lenF cutF sliceF sliceN sliceX isSl slice3F fillF fillV arrFs buildF partsX landV buildSliceF roomB appVec appendF appMkF capF mmFrom mmF max2' min2' clearVec clearF convF unF pickF nilChkF extF ptrsOf callF makeSliceF sameKs sameD kindIs plainFs keyOk mapOb mapEs okV lookF lookupF putE putS mapPut mapUpdateF mapDel deleteF mapAll rangeM rangeF overV hitV nextO nextF entryM entryO entryF itOids builtinF capsOf allocF boxF bytesL bytesF byteTy strTy convertF makeFuncF mapNew makeMapF makeMapH opF reach reachOf AObj.live closedB nodupB packO packL packX backN backG backO obL backE frzX frzO AV.vids frzL landC sameObs landR touchF bitsW D.cells D.decEq D.decEqs AV.decEq AV.decEqs AObj.decEq AV.oids0 AV.oids AObj.oids renG renP AV.ren0 AV.ren envGet envPut envKeep obGet setEff putV St.put stepS keyChk chkD accD Ex.block AV.under AObj.under laysOf roomFor mkvO frzG szOk killO usedBy tidyS canL canS ghost ghostE normSt resOf allSome one0 resultsF finL finishL finish endF startEnv chkC backX comeC AV.flat0 rngC loopO layL endLp busyL idleL noRng rndSt rndEnd wpn_nil wpn_seq wpn_loop wpn_seq_exit wpn_loop_exit wpn_seq_ret wpn_loop_ret wpn_block wpn_post wpk_skip wpk_exit wpk_ret wpk_reg wpk_seq wpk_condT wpk_block wpk_loop wpk_pre wpk_post wop_nil wop_cons wop_guard St.know envSet cond_d cond_bool cond_int cond_str endE endQ freeB disj pushT bitsW int_beq int_bne eqS_def tbE fuelL_eq ann0_lays ann0_dd ann0_ro elsOf_dsl elsOf_dnils toNat_succ nn_succ pos_succ one_succ rng1 rng2 rng3 rng4 rng5 rng6 rng7 rng8 List.idxOf_cons wpk_rng rndK rndE
/-- What the swap of places i and j reads and writes. -/
theorem swF {e : Array Int} {n i j : Nat} (he : e.size = n) (hi : i < n) (hj : j < n) (hn : n < 1000) : ((eD e)[i]? = some (.int .i64 e[i]!) ∧ (eD e)[j]? = some (.int .i64 e[j]!)) ∧ (∃ (l1 : i < (eD e).length) (l2 : j < (eD e).length) (l3 : j < ((eD e).set i (.int .i64 e[j]!)).length), (eD e)[i] = .int .i64 e[i]! ∧ (eD e)[j] = .int .i64 e[j]! ∧ ((eD e).set i (.int .i64 e[j]!))[j] = .int .i64 e[j]!) ∧ ((eD e).set i (.int .i64 e[j]!))[j]? = some (.int .i64 e[j]!) ∧ (eD e).length = n ∧ ((i : Int) < n ∧ (j : Int) < n) := by
  have g1 := eD_get (d := e) (i := i) (by omega)
  have g2 := eD_get (d := e) (i := j) (by omega)
  have l1 : i < (eD e).length := by rw [eD_len]; omega
  have l2 : j < (eD e).length := by rw [eD_len]; omega
  have g3 : ((eD e).set i (.int .i64 e[j]!))[j]? = some (.int .i64 e[j]!) := by
    by_cases q : i = j
    · subst q; rw [List.getElem?_set_self l1]
    · rw [List.getElem?_set_ne (by omega), g2]
  have l3 : j < ((eD e).set i (.int .i64 e[j]!)).length := by rw [List.length_set]; exact l2
  exact ⟨⟨g1, g2⟩, ⟨l1, l2, l3, (List.getElem?_eq_some_iff.1 g1).2, (List.getElem?_eq_some_iff.1 g2).2, (List.getElem?_eq_some_iff.1 g3).2⟩, g3, by rw [eD_len, he], by omega, by omega⟩
section
variable (g : Nat) (hne : g ≠ 1000000007) (cmp : Int → Int → Int) (hg : ∀ a b : Int, run CC g [.d (.int .i64 a), .d (.int .i64 b)] [] = some (.d (.int .i64 (cmp a b)), []))
include hne hg
set_option maxRecDepth 100000 in
set_option maxHeartbeats 4000000 in
theorem part89_run (d : Array Int) (n a b p : Nat) (hd : d.size = n) (hn : n < 900) (hap : a ≤ p) (hpb : p < b) (hb : b ≤ n) :
    run CC 66 [.vs 0 0 1 0 n, .d (.int .i64 a), .d (.int .i64 b), .d (.int .i64 p), .fn g [] []] [vI d] = some (.tup [.d (.int .i64 (Go.Sort.partition (ltC cmp) d a b p).1), .d (.bool (Go.Sort.partition (ltC cmp) d a b p).2.1)], [vI (Go.Sort.partition (ltC cmp) d a b p).2.2]) := by
  refine run_code (s := s66 1) rfl rfl rfl (by kernel_rfl) ?_
  obtain ⟨⟨g1, g2⟩, ⟨l1, l2, l3, gg1, gg2, gg3⟩, g3, hl, q1, q2⟩ := swF hd (show a < n by omega) (show p < n by omega) (by omega)
  have hsw := eD_swp d a p
  have hss := swp_size d a p
  have pa : a < n := by omega
  have pp : p < n := by omega
  have w1 : IntKind.i64.wrap ((a : Int) + 1) = ((a + 1 : Nat) : Int) := by rw [wrap64 (by omega) (by omega)]; omega
  have w2 : IntKind.i64.wrap ((b : Int) - 1) = ((b - 1 : Nat) : Int) := by rw [wrap64 (by omega) (by omega)]; omega
  have L1 := loop89_1 g hne cmp hg (Go.Sort.swp d a p) n a (b - 1) (by rw [hss, hd]) (by omega) pa (by omega) (a + 1) (by omega)
  have h1 := scanUp_le (fun x => ltC cmp x (Go.Sort.swp d a p)[a]!) (Go.Sort.swp d a p) (b - 1) _ (a + 1) rfl
  have L2 := loop89_2 g hne cmp hg (Go.Sort.swp d a p) n a (Go.Sort.scanUp (fun x => ltC cmp x (Go.Sort.swp d a p)[a]!) (Go.Sort.swp d a p) (b - 1) (a + 1)) (by rw [hss, hd]) (by omega) pa ⟨by omega, by omega⟩ (b - 1) (by omega)
  have h2 := scanDown_le (fun x => !ltC cmp x (Go.Sort.swp d a p)[a]!) (Go.Sort.swp d a p) (Go.Sort.scanUp (fun x => ltC cmp x (Go.Sort.swp d a p)[a]!) (Go.Sort.swp d a p) (b - 1) (a + 1)) (b - 1)
  unfold Go.Sort.partition
  simp only
  generalize Go.Sort.scanDown (fun x => !ltC cmp x (Go.Sort.swp d a p)[a]!) (Go.Sort.swp d a p) (Go.Sort.scanUp (fun x => ltC cmp x (Go.Sort.swp d a p)[a]!) (Go.Sort.swp d a p) (b - 1) (a + 1)) (b - 1) = j at *
  generalize Go.Sort.scanUp (fun x => ltC cmp x (Go.Sort.swp d a p)[a]!) (Go.Sort.swp d a p) (b - 1) (a + 1) = i at *
  generalize he : Go.Sort.swp d a p = e at *
  have hes : e.size = n := by rw [hss, hd]
  simp only [vI] at L1 L2 ⊢
  simp [s66, eqCells, T3, T4, T5, T9, T22, T25, T26, T28, T29, T36, T41, T47, T69, T74, T78, T85, T90, T98, T104, CT, hne, g1, g2, g3, gg1, gg2, gg3, l1, l2, hl, q1, q2, pa, pp, w1, w2]
  rw [← hsw]
  refine L1 _ _ ?_
  clear L1 g1 g2 g3 gg1 gg2 gg3 l1 l2 l3 hl hsw w1 w2
  simp [eqCells, T3, T4, T5, T9, T22, T25, T26, T28, T29, T36, T41, T47, T69, T74, T78, T85, T90, T98, T104, CT]
  refine L2 _ _ ?_
  clear L2
  have hjn : j < n := by omega
  by_cases h : j < i
  · obtain ⟨⟨g1, g2⟩, ⟨l1, l2, l3, gg1, gg2, gg3⟩, g3, hl, q3, q4⟩ := swF hes hjn pa (by omega)
    have hsw2 := eD_swp e j a
    have p1 : (j : Int) < i := by omega
    rw [if_pos h]
    simp only
    rw [hsw2]
    generalize eD e = E at *
    generalize e[j]! = x at *
    generalize e[a]! = y at *
    simp [eqCells, T3, T4, T5, T9, T22, T25, T26, T28, T29, T36, T41, T47, T69, T74, T78, T85, T90, T98, T104, CT, hne, p1, h, g1, g2, g3, gg1, gg2, gg3, l1, l2, hl, q3, q4, pa, hjn]
  · have hin : i < n := by omega
    obtain ⟨⟨g1, g2⟩, ⟨l1, l2, l3, gg1, gg2, gg3⟩, g3, hl, q3, q4⟩ := swF hes hin hjn (by omega)
    have hsw2 := eD_swp e i j
    have hss2 := swp_size e i j
    have p1 : ¬ (j : Int) < i := by omega
    have h'' : i ≤ j := by omega
    have w1 : IntKind.i64.wrap ((i : Int) + 1) = ((i + 1 : Nat) : Int) := by rw [wrap64 (by omega) (by omega)]; omega
    have w2 : IntKind.i64.wrap ((j : Int) - 1) = ((j - 1 : Nat) : Int) := by rw [wrap64 (by omega) (by omega)]; omega
    have L3 := loop89_3 g hne cmp hg n a (by omega) pa (i + 1) (j - 1) (Go.Sort.swp e i j) (by rw [hss2, hes]) ⟨by omega, by omega⟩ (by omega)
    rw [if_neg h]
    simp only
    generalize Go.Sort.partLoop (ltC cmp) a (i + 1) (j - 1) (Go.Sort.swp e i j) = r at *
    obtain ⟨m, f⟩ := r
    simp only [vI, hsw2] at L3 ⊢
    generalize eD e = E at *
    generalize e[i]! = x at *
    generalize e[j]! = y at *
    generalize hi1 : i + 1 = i3 at *
    generalize hj1 : j - 1 = j3 at *
    simp [eqCells, T3, T4, T5, T9, T22, T25, T26, T28, T29, T36, T41, T47, T69, T74, T78, T85, T90, T98, T104, CT, hne, p1, h, h'', g1, g2, g3, gg1, gg2, gg3, l1, l2, hl, q3, q4, hin, hjn, w1, w2]
    refine L3 _ _ fun hf hm => ?_
    obtain ⟨⟨k1, k2⟩, ⟨m1, m2, m3, kk1, kk2, kk3⟩, k3, kl, u3, u4⟩ := swF hf hm pa (by omega)
    have hsw3 := eD_swp f m a
    rw [hsw3]
    clear g1 g2 g3 gg1 gg2 gg3 l1 l2 l3 hl
    generalize eD f = F at *
    generalize f[m]! = u at *
    generalize f[a]! = v at *
    simp [eqCells, T3, T4, T5, T9, T22, T25, T26, T28, T29, T36, T41, T47, T69, T74, T78, T85, T90, T98, T104, CT, hne, k1, k2, k3, kk1, kk2, kk3, m1, m2, kl, u3, u4, hm, pa]
end
end Go.Proofs.YtdhbecdlablonaaV.Pd
