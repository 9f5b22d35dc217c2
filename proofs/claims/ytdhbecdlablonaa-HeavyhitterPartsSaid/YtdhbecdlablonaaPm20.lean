/- SortFunc. -/
import Derived.Test.YtdhbecdlablonaaPm19
set_option linter.unusedVariables false
set_option linter.unusedSimpArgs false
namespace Go.Proofs.YtdhbecdlablonaaV.Pd
open Go.RowKit
attribute [local simp] TK.agg constAV evalAV EK.has EK.hasAll vecEls elsR AV.toD toDs AV.cells AV.one joinD TyI.zeroD OpR.of binIntF binStrF AV.isPtr ptrNil slNil mpNil nilE eqF negF posF binF pelF pvLoad pelSet pvStore boxLoad epLoad loadF boxStore storeF fieldAddrF fieldF epOf indexAddrF byteF indexF mapLen lenF cutF sliceF sliceN sliceX isSl slice3F fillF fillV arrFs buildF partsX landV buildSliceF roomB appVec appendF appMkF capF mmFrom mmF max2' min2' clearVec clearF convF unF pickF nilChkF extF ptrsOf callF makeSliceF sameKs sameD kindIs plainFs keyOk mapOb mapEs okV lookF lookupF putE putS mapPut mapUpdateF mapDel deleteF mapAll rangeM rangeF overV hitV nextO nextF entryM entryO entryF itOids builtinF capsOf allocF boxF bytesL bytesF byteTy strTy convertF makeFuncF mapNew makeMapF makeMapH opF reach reachOf AObj.live closedB nodupB packO packL packX backN backG backO obL backE frzX frzO AV.vids frzL landC sameObs landR touchF bitsW D.cells D.decEq D.decEqs AV.decEq AV.decEqs AObj.decEq AV.oids0 AV.oids AObj.oids renG renP AV.ren0 AV.ren envGet envPut envKeep obGet setEff putV St.put stepS keyChk chkD accD Ex.block AV.under AObj.under laysOf roomFor mkvO frzG szOk killO usedBy tidyS canL canS ghost ghostE normSt resOf allSome one0 resultsF finL finishL finish endF startEnv chkC backX comeC AV.flat0 rngC loopO layL endLp busyL idleL noRng rndSt rndEnd wpn_nil wpn_seq wpn_loop wpn_seq_exit wpn_loop_exit wpn_seq_ret wpn_loop_ret wpn_block wpn_post wpk_skip wpk_exit wpk_ret wpk_reg wpk_seq wpk_condT wpk_block wpk_loop wpk_pre wpk_post wop_nil wop_cons wop_guard St.know envSet cond_d cond_bool cond_int cond_str endE endQ freeB disj pushT bitsW int_beq int_bne eqS_def tbE fuelL_eq ann0_lays ann0_dd ann0_ro elsOf_dsl elsOf_dnils toNat_succ nn_succ pos_succ one_succ rng1 rng2 rng3 rng4 rng5 rng6 rng7 rng8 List.idxOf_cons wpk_rng rndK rndE
theorem len81_run (n : Nat) (h : n ≤ 24) : ∃ b : Nat, b < 100 ∧ run CC 53 [.d (.int .u64 n)] [] = some (.d (.int .i64 b), []) := by
  have : n = 0 ∨ n = 1 ∨ n = 2 ∨ n = 3 ∨ n = 4 ∨ n = 5 ∨ n = 6 ∨ n = 7 ∨ n = 8 ∨ n = 9 ∨ n = 10 ∨ n = 11 ∨ n = 12 ∨ n = 13 ∨ n = 14 ∨ n = 15 ∨ n = 16 ∨ n = 17 ∨ n = 18 ∨ n = 19 ∨ n = 20 ∨ n = 21 ∨ n = 22 ∨ n = 23 ∨ n = 24 := by omega
  rcases this with rfl | rfl | rfl | rfl | rfl | rfl | rfl | rfl | rfl | rfl | rfl | rfl | rfl | rfl | rfl | rfl | rfl | rfl | rfl | rfl | rfl | rfl | rfl | rfl | rfl
  · exact ⟨0, by decide, run_of_go 100 (by kernel_rfl)⟩
  · exact ⟨1, by decide, run_of_go 100 (by kernel_rfl)⟩
  iterate 2 · exact ⟨2, by decide, run_of_go 100 (by kernel_rfl)⟩
  iterate 4 · exact ⟨3, by decide, run_of_go 100 (by kernel_rfl)⟩
  iterate 8 · exact ⟨4, by decide, run_of_go 100 (by kernel_rfl)⟩
  iterate 9 · exact ⟨5, by decide, run_of_go 100 (by kernel_rfl)⟩
set_option maxRecDepth 100000 in
theorem sort72_run (l : List Int) (hl : l.length ≤ 24) (cmp : Int → Int → Int) (g : Nat) (hne : g ≠ 1000000007) (hg : ∀ a b : Int, run CC g [.d (.int .i64 a), .d (.int .i64 b)] [] = some (.d (.int .i64 (cmp a b)), [])) (hS : Go.Sort.SWO (ltC cmp)) :
    ∃ m : List Int, run CC 41 [.vs 0 0 1 0 l.length, .fn g [] []] [.vec 0 false false 3 1 (l.map zD)] = some (.tup [], [.vec 0 false false 3 1 (m.map zD)]) ∧ m.Perm l ∧ m.Pairwise fun p q => cmp q p < 0 → False := by
  obtain ⟨b, hb, hlen⟩ := len81_run l.length hl
  obtain ⟨y, obs', hrun, rfl, e, rfl, hp, hs⟩ := pdq80_run g hne cmp hg hS l.length hl l.length 0 l.length b l.toArray (by omega) (by omega) (Nat.le_refl _) (by simp) hb (.inl rfl)
  have hsz : e.size = l.length := by rw [hp.1]; simp
  refine ⟨e.toList, run_code (s := s41 1) rfl rfl rfl (by kernel_rfl) ?_, ?_, ?_⟩
  · simp only [vI, eD, List.toList_toArray] at hrun
    have w1 : IntKind.u64.wrap (l.length : Int) = l.length := by simp [IntKind.wrap, IntKind.bits, IntKind.signed]; omega
    generalize e.toList.map zD = F at *
    generalize l.map zD = E at *
    generalize l.length = n at *
    simp at hrun
    simp [s41, eqCells, T3, T4, T5, T9, T22, T25, T26, T28, T29, T36, T41, T47, T69, T74, T78, T85, T90, T98, T104, CT, hne, hlen, hrun, w1]
  · have h := hp.2.2
    have e1 : (e.extract 0 l.length).toList = e.toList := by simp [← hsz]
    have e2 : (l.toArray.extract 0 l.length).toList = l := by simp
    rw [e1, e2] at h
    exact h
  · rw [List.pairwise_iff_getElem]
    intro i j hi hj hij hc
    have hi' : i < e.size := by simpa using hi
    have hj' : j < e.size := by simpa using hj
    have := hs i j (by omega) hij (by omega)
    simp [ltC, hi', hj'] at this
    simp at hc
    omega
end Go.Proofs.YtdhbecdlablonaaV.Pd
