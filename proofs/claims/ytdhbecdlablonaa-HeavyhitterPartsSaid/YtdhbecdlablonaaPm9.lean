/- partitionEqual's great loop. -/
import Derived.Test.YtdhbecdlablonaaPm8
set_option linter.unusedVariables false
set_option linter.unusedSimpArgs false
namespace Go.Proofs.YtdhbecdlablonaaV.Pd
open Go.RowKit
attribute [local simp] TK.agg constAV evalAV EK.has EK.hasAll vecEls elsR AV.toD toDs AV.cells AV.one joinD TyI.zeroD OpR.of binIntF binStrF AV.isPtr ptrNil slNil mpNil nilE eqF negF posF binF pelF pvLoad pelSet pvStore boxLoad epLoad loadF boxStore storeF fieldAddrF fieldF epOf indexAddrF byteF indexF mapLen lenF cutF sliceF sliceN sliceX isSl slice3F fillF fillV arrFs buildF partsX landV buildSliceF roomB appVec appendF appMkF capF mmFrom mmF max2' min2' clearVec clearF convF unF pickF nilChkF extF ptrsOf callF makeSliceF sameKs sameD kindIs plainFs keyOk mapOb mapEs okV lookF lookupF putE putS mapPut mapUpdateF mapDel deleteF mapAll rangeM rangeF overV hitV nextO nextF entryM entryO entryF itOids builtinF capsOf allocF boxF bytesL bytesF byteTy strTy convertF makeFuncF mapNew makeMapF makeMapH opF reach reachOf AObj.live closedB nodupB packO packL packX backN backG backO obL backE frzX frzO AV.vids frzL landC sameObs landR touchF bitsW D.cells D.decEq D.decEqs AV.decEq AV.decEqs AObj.decEq AV.oids0 AV.oids AObj.oids renG renP AV.ren0 AV.ren envGet envPut envKeep obGet setEff putV St.put stepS keyChk chkD accD Ex.block AV.under AObj.under laysOf roomFor mkvO frzG szOk killO usedBy tidyS canL canS ghost ghostE normSt resOf allSome one0 resultsF finL finishL finish endF startEnv chkC backX comeC AV.flat0 rngC loopO layL endLp busyL idleL noRng rndSt rndEnd wpn_nil wpn_seq wpn_loop wpn_seq_exit wpn_loop_exit wpn_seq_ret wpn_loop_ret wpn_block wpn_post wpk_skip wpk_exit wpk_ret wpk_reg wpk_seq wpk_condT wpk_block wpk_loop wpk_pre wpk_post wop_nil wop_cons wop_guard St.know envSet cond_d cond_bool cond_int cond_str endE endQ freeB disj pushT bitsW int_beq int_bne eqS_def tbE fuelL_eq ann0_lays ann0_dd ann0_ro elsOf_dsl elsOf_dnils toNat_succ nn_succ pos_succ one_succ rng1 rng2 rng3 rng4 rng5 rng6 rng7 rng8 List.idxOf_cons wpk_rng rndK rndE
theorem partEqLoop_eq (lt : Int → Int → Bool) (a i j : Nat) (d : Array Int) : Go.Sort.partEqLoop lt a i j d =
    if Go.Sort.scanUp (fun x => !lt d[a]! x) d j i > Go.Sort.scanDown (fun x => lt d[a]! x) d (Go.Sort.scanUp (fun x => !lt d[a]! x) d j i) j then (Go.Sort.scanUp (fun x => !lt d[a]! x) d j i, d)
    else Go.Sort.partEqLoop lt a (Go.Sort.scanUp (fun x => !lt d[a]! x) d j i + 1) (Go.Sort.scanDown (fun x => lt d[a]! x) d (Go.Sort.scanUp (fun x => !lt d[a]! x) d j i) j - 1) (Go.Sort.swp d (Go.Sort.scanUp (fun x => !lt d[a]! x) d j i) (Go.Sort.scanDown (fun x => lt d[a]! x) d (Go.Sort.scanUp (fun x => !lt d[a]! x) d j i) j)) := by
  have h1 := scanUp_le (fun x => !lt d[a]! x) d j _ i rfl
  have h2 := scanDown_le (fun x => lt d[a]! x) d (Go.Sort.scanUp (fun x => !lt d[a]! x) d j i) j
  rw [Go.Sort.partEqLoop]
  split
  · rfl
  · rw [dif_pos (by omega)]
section
variable (g : Nat) (hne : g ≠ 1000000007) (cmp : Int → Int → Int) (hg : ∀ a b : Int, run CC g [.d (.int .i64 a), .d (.int .i64 b)] [] = some (.d (.int .i64 (cmp a b)), []))
include hne hg
set_option maxRecDepth 100000 in
set_option maxHeartbeats 4000000 in
theorem loop88_1 (n a : Nat) (hn : n < 1000) (ha : a < n) (i j : Nat) (d : Array Int) (hd : d.size = n) (hi : 0 < i ∧ i < 1000) (hj : j < n) (ks : List Fr) (K : Ex → St → Prop)
    (hnext : (Go.Sort.partEqLoop (ltC cmp) a i j d).2.size = n → (Go.Sort.partEqLoop (ltC cmp) a i j d).1 < 1000 → wpn CC .norm ⟨[(11, .d (.int .i64 (Go.Sort.partEqLoop (ltC cmp) a i j d).1))], [vI (Go.Sort.partEqLoop (ltC cmp) a i j d).2]⟩ ks K) :
    wlp CC (s65_1 1) ⟨[(0, .vs 0 0 1 0 n), (1, .d (.int .i64 a)), (4, .fn g [] []), (11, .d (.int .i64 i)), (12, .d (.int .i64 j))], [vI d]⟩ (.block 0 :: .post (.tidy [11] 1 1) :: ks) K := by
  refine wlp_inv (S := fun p : Nat × Nat × Array Int => ⟨[(0, .vs 0 0 1 0 n), (1, .d (.int .i64 a)), (4, .fn g [] []), (11, .d (.int .i64 p.1)), (12, .d (.int .i64 p.2.1))], [vI p.2.2]⟩) (m := fun p => p.2.1 + 1 - p.1) (Inv := fun p => p.2.2.size = n ∧ (0 < p.1 ∧ p.1 < 1000) ∧ p.2.1 < n ∧ Go.Sort.partEqLoop (ltC cmp) a p.1 p.2.1 p.2.2 = Go.Sort.partEqLoop (ltC cmp) a i j d) ?_ (i, j, d) ⟨hd, by simp only; omega, hj, rfl⟩
  rintro ⟨i, j, e⟩ ⟨he, hi, hj, hm⟩ ih
  rw [e65_1]
  simp only at he hi hj hm ⊢
  rw [← hm] at hnext ih
  have heq := partEqLoop_eq (ltC cmp) a i j e
  have h1 := scanUp_le (fun x => !ltC cmp e[a]! x) e j _ i rfl
  have h2 := scanDown_le (fun x => ltC cmp e[a]! x) e (Go.Sort.scanUp (fun x => !ltC cmp e[a]! x) e j i) j
  simp [c65_1, eqCells, T3, T4, T5, T9, T22, T25, T26, T28, T29, T36, T41, T47, T69, T74, T78, T85, T90, T98, T104, CT]
  refine loop88_2 g hne cmp hg e n a j he hn ha hj i (by omega) _ _ ?_
  have l5 := loop88_3 g hne cmp hg e n a (Go.Sort.scanUp (fun x => !ltC cmp e[a]! x) e j i) he hn ha ⟨by omega, by omega⟩ j hj
  generalize Go.Sort.scanUp (fun x => !ltC cmp e[a]! x) e j i = i2 at *
  simp only [vI] at l5 ⊢
  simp [eqCells, T3, T4, T5, T9, T22, T25, T26, T28, T29, T36, T41, T47, T69, T74, T78, T85, T90, T98, T104, CT]
  refine l5 _ _ ?_
  generalize Go.Sort.scanDown (fun x => ltC cmp e[a]! x) e i2 j = j2 at *
  by_cases h : i2 > j2
  · rw [if_pos h] at heq
    rw [heq] at hnext
    have hnext := hnext he (by simp only; omega)
    have p1 : (j2 : Int) < i2 := by omega
    simp only [vI] at hnext
    generalize eD e = E at *
    simp [eqCells, T3, T4, T5, T9, T22, T25, T26, T28, T29, T36, T41, T47, T69, T74, T78, T85, T90, T98, T104, CT, hne, p1, h]
    exact hnext
  · rw [if_neg h] at heq
    have hss := swp_size e i2 j2
    have ih2 := ih (i2 + 1, j2 - 1, Go.Sort.swp e i2 j2) ⟨by simp only [hss, he], by simp only; omega, by simp only; omega, heq.symm⟩ (by simp only; omega)
    clear ih l5
    have w1 : IntKind.i64.wrap ((i2 : Int) + 1) = ((i2 + 1 : Nat) : Int) := by rw [wrap64 (by omega) (by omega)]; omega
    have w2 : IntKind.i64.wrap ((j2 : Int) - 1) = ((j2 - 1 : Nat) : Int) := by rw [wrap64 (by omega) (by omega)]; omega
    have g1 := eD_get (d := e) (i := i2) (by omega)
    have g2 := eD_get (d := e) (i := j2) (by omega)
    have l1 : i2 < (eD e).length := by rw [eD_len]; omega
    have l2 : j2 < (eD e).length := by rw [eD_len]; omega
    have gg1 := eD_at (d := e) (i := i2) (by omega) l1
    have gg2 := eD_at (d := e) (i := j2) (by omega) l2
    have hl : (eD e).length = n := by rw [eD_len, he]
    have hsw := eD_swp e i2 j2
    have g3 : ((eD e).set i2 (.int .i64 e[j2]!))[j2]? = some (.int .i64 e[j2]!) := by
      by_cases q : i2 = j2
      · subst q; rw [List.getElem?_set_self l1]
      · rw [List.getElem?_set_ne (by omega), g2]
    have l3 : j2 < ((eD e).set i2 (.int .i64 e[j2]!)).length := by rw [List.length_set]; exact l2
    have gg3 : ((eD e).set i2 (.int .i64 e[j2]!))[j2]'l3 = .int .i64 e[j2]! := (List.getElem?_eq_some_iff.1 g3).2
    have p1 : ¬ (j2 : Int) < i2 := by omega
    have p2 : (i2 : Int) < n := by omega
    have p3 : (j2 : Int) < n := by omega
    have p4 : i2 < n := by omega
    have p5 : j2 < n := by omega
    have h' : ¬ j2 < i2 := h
    have h'' : i2 ≤ j2 := by omega
    simp only [hsw] at ih2
    simp only [vI] at ih2 ⊢
    generalize eD e = E at *
    generalize e[i2]! = x at *
    generalize e[j2]! = y at *
    generalize hi1 : i2 + 1 = i3 at *
    generalize hj1 : j2 - 1 = j3 at *
    simp only [hsw] at ih2
    simp [eqCells, T3, T4, T5, T9, T22, T25, T26, T28, T29, T36, T41, T47, T69, T74, T78, T85, T90, T98, T104, CT, hne, p1, h', h'', g1, g2, g3, gg1, gg2, gg3, l1, l2, hl, p2, p3, p4, p5, w1, w2]
    exact ih2
end
end Go.Proofs.YtdhbecdlablonaaV.Pd
