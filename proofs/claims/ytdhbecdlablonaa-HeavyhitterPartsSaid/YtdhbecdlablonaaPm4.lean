/- reverseRange; the scans of partition. -/
import Derived.Test.YtdhbecdlablonaaPm3
set_option linter.unusedVariables false
set_option linter.unusedSimpArgs false
namespace Go.Proofs.YtdhbecdlablonaaV.Pd
open Go.RowKit
attribute [local simp] TK.agg constAV evalAV EK.has EK.hasAll vecEls elsR AV.toD toDs AV.cells AV.one joinD TyI.zeroD OpR.of binIntF binStrF AV.isPtr ptrNil slNil mpNil nilE eqF negF posF binF pelF pvLoad pelSet pvStore boxLoad epLoad loadF boxStore storeF fieldAddrF fieldF epOf indexAddrF byteF indexF mapLen lenF cutF sliceF sliceN sliceX isSl slice3F fillF fillV arrFs buildF partsX landV buildSliceF roomB appVec appendF appMkF capF mmFrom mmF max2' min2' clearVec clearF convF unF pickF nilChkF extF ptrsOf callF makeSliceF sameKs sameD kindIs plainFs keyOk mapOb mapEs okV lookF lookupF putE putS mapPut mapUpdateF mapDel deleteF mapAll rangeM rangeF overV hitV nextO nextF entryM entryO entryF itOids builtinF capsOf allocF boxF bytesL bytesF byteTy strTy convertF makeFuncF mapNew makeMapF makeMapH opF reach reachOf AObj.live closedB nodupB packO packL packX backN backG backO obL backE frzX frzO AV.vids frzL landC sameObs landR touchF bitsW D.cells D.decEq D.decEqs AV.decEq AV.decEqs AObj.decEq AV.oids0 AV.oids AObj.oids renG renP AV.ren0 AV.ren envGet envPut envKeep obGet setEff putV St.put stepS keyChk chkD accD Ex.block AV.under AObj.under laysOf roomFor mkvO frzG szOk killO usedBy tidyS canL canS ghost ghostE normSt resOf allSome one0 resultsF finL finishL finish endF startEnv chkC backX comeC AV.flat0 rngC loopO layL endLp busyL idleL noRng rndSt rndEnd wpn_nil wpn_seq wpn_loop wpn_seq_exit wpn_loop_exit wpn_seq_ret wpn_loop_ret wpn_block wpn_post wpk_skip wpk_exit wpk_ret wpk_reg wpk_seq wpk_condT wpk_block wpk_loop wpk_pre wpk_post wop_nil wop_cons wop_guard St.know envSet cond_d cond_bool cond_int cond_str endE endQ freeB disj pushT bitsW int_beq int_bne eqS_def tbE fuelL_eq ann0_lays ann0_dd ann0_ro elsOf_dsl elsOf_dnils toNat_succ nn_succ pos_succ one_succ rng1 rng2 rng3 rng4 rng5 rng6 rng7 rng8 List.idxOf_cons wpk_rng rndK rndE
set_option maxRecDepth 100000 in
set_option maxHeartbeats 2000000 in
theorem rev86_run (d : Array Int) (n a b g : Nat) (hd : d.size = n) (hn : n < 1000) (hab : a < b) (hb : b ≤ n) : run CC 63 [.vs 0 0 1 0 n, .d (.int .i64 a), .d (.int .i64 b), .fn g [] []] [vI d] = some (.tup [], [vI (Go.Sort.reverseRange d a b)]) := by
  refine run_code (s := s63 1) rfl rfl rfl (by kernel_rfl) ?_
  have w0 : IntKind.i64.wrap ((b : Int) - 1) = ((b - 1 : Nat) : Int) := by rw [wrap64 (by omega) (by omega)]; omega
  unfold Go.Sort.reverseRange
  generalize hb1 : b - 1 = b1 at *
  simp [s63, eqCells, T3, T4, T5, T9, T22, T25, T26, T28, T29, T36, T41, T47, T69, T74, T78, T85, T90, T98, T104, CT, w0]
  refine wlp_inv (S := fun p : Nat × Nat × Array Int => ⟨[(0, .vs 0 0 1 0 n), (8, .d (.int .i64 p.1)), (9, .d (.int .i64 p.2.1))], [.vec 0 false false 3 1 (eD p.2.2)]⟩) (m := fun p => p.2.1 - p.1) (Inv := fun p => p.2.2.size = n ∧ p.2.1 < n ∧ Go.Sort.reverseLoop p.1 p.2.1 p.2.2 = Go.Sort.reverseLoop a b1 d) ?_ (a, b1, d) ⟨hd, by simp only; omega, rfl⟩
  rintro ⟨i, j, e⟩ ⟨he, hj, hm⟩ ih
  rw [e63_1]
  simp only at he hj hm ⊢
  rw [← hm] at ih ⊢
  by_cases h : i < j
  · have ho : Go.Sort.reverseLoop i j e = Go.Sort.reverseLoop (i + 1) (j - 1) (Go.Sort.swp e i j) := by rw [Go.Sort.reverseLoop, if_pos h]
    have hss := swp_size e i j
    have ih := ih (i + 1, j - 1, Go.Sort.swp e i j) ⟨by simp only [hss, he], by simp only; omega, ho.symm⟩ (by simp only; omega)
    have w1 : IntKind.i64.wrap ((i : Int) + 1) = ((i + 1 : Nat) : Int) := by rw [wrap64 (by omega) (by omega)]; omega
    have w2 : IntKind.i64.wrap ((j : Int) - 1) = ((j - 1 : Nat) : Int) := by rw [wrap64 (by omega) (by omega)]; omega
    have g1 := eD_get (d := e) (i := i) (by omega)
    have g2 := eD_get (d := e) (i := j) (by omega)
    have l1 : i < (eD e).length := by rw [eD_len]; omega
    have l2 : j < (eD e).length := by rw [eD_len]; omega
    have gg1 := eD_at (d := e) (i := i) (by omega) l1
    have gg2 := eD_at (d := e) (i := j) (by omega) l2
    have hl : (eD e).length = n := by rw [eD_len, he]
    have hsw := eD_swp e i j
    have g3 : ((eD e).set i (.int .i64 e[j]!))[j]? = some (.int .i64 e[j]!) := by rw [List.getElem?_set_ne (by omega), g2]
    have l3 : j < ((eD e).set i (.int .i64 e[j]!)).length := by rw [List.length_set]; exact l2
    have gg3 : ((eD e).set i (.int .i64 e[j]!))[j]'l3 = .int .i64 e[j]! := (List.getElem?_eq_some_iff.1 g3).2
    have p1 : (i : Int) < j := by omega
    have p2 : (i : Int) < n := by omega
    have p3 : (j : Int) < n := by omega
    have p4 : i < n := by omega
    simp only [hsw] at ih
    simp only [vI] at ih ⊢
    generalize Go.Sort.reverseLoop i j e = R at *
    generalize eD e = E at *
    generalize e[i]! = x at *
    generalize e[j]! = y at *
    generalize hi1 : i + 1 = i1 at *
    generalize hj1 : j - 1 = j1 at *
    simp [c63_1, eqCells, T3, T4, T5, T9, T22, T25, T26, T28, T29, T36, T41, T47, T69, T74, T78, T85, T90, T98, T104, CT, p1, h, g1, g2, g3, gg1, gg2, gg3, l1, l2, hl, p2, p3, p4, hj, w1, w2]
    exact ih
  · have ho : Go.Sort.reverseLoop i j e = e := by rw [Go.Sort.reverseLoop, if_neg h]
    have p1 : ¬ (i : Int) < j := by omega
    rw [ho]
    simp only [vI]
    generalize eD e = E at *
    simp [c63_1, eqCells, T3, T4, T5, T9, T22, T25, T26, T28, T29, T36, T41, T47, T69, T74, T78, T85, T90, T98, T104, CT, p1, h]
end Go.Proofs.YtdhbecdlablonaaV.Pd
