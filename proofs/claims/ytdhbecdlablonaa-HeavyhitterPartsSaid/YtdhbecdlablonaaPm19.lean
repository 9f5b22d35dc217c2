/- pdqsort, whole: it gives some ordered permutation. -/
import Derived.Test.YtdhbecdlablonaaPm18
set_option linter.unusedVariables false
set_option linter.unusedSimpArgs false
namespace Go.Proofs.YtdhbecdlablonaaV.Pd
open Go.RowKit Go.Sort
attribute [local simp] TK.agg constAV evalAV EK.has EK.hasAll vecEls elsR AV.toD toDs AV.cells AV.one joinD TyI.zeroD OpR.of binIntF binStrF AV.isPtr ptrNil slNil mpNil nilE eqF negF posF binF pelF pvLoad pelSet pvStore boxLoad epLoad loadF boxStore storeF fieldAddrF fieldF epOf indexAddrF byteF indexF mapLen lenF cutF sliceF sliceN sliceX isSl slice3F fillF fillV arrFs buildF partsX landV buildSliceF roomB appVec appendF appMkF capF mmFrom mmF max2' min2' clearVec clearF convF unF pickF nilChkF extF ptrsOf callF makeSliceF sameKs sameD kindIs plainFs keyOk mapOb mapEs okV lookF lookupF putE putS mapPut mapUpdateF mapDel deleteF mapAll rangeM rangeF overV hitV nextO nextF entryM entryO entryF itOids builtinF capsOf allocF boxF bytesL bytesF byteTy strTy convertF makeFuncF mapNew makeMapF makeMapH opF reach reachOf AObj.live closedB nodupB packO packL packX backN backG backO obL backE frzX frzO AV.vids frzL landC sameObs landR touchF bitsW D.cells D.decEq D.decEqs AV.decEq AV.decEqs AObj.decEq AV.oids0 AV.oids AObj.oids renG renP AV.ren0 AV.ren envGet envPut envKeep obGet setEff putV St.put stepS keyChk chkD accD Ex.block AV.under AObj.under laysOf roomFor mkvO frzG szOk killO usedBy tidyS canL canS ghost ghostE normSt resOf allSome one0 resultsF finL finishL finish endF startEnv chkC backX comeC AV.flat0 rngC loopO layL endLp busyL idleL noRng rndSt rndEnd wpn_nil wpn_seq wpn_loop wpn_seq_exit wpn_loop_exit wpn_seq_ret wpn_loop_ret wpn_block wpn_post wpk_skip wpk_exit wpk_ret wpk_reg wpk_seq wpk_condT wpk_block wpk_loop wpk_pre wpk_post wop_nil wop_cons wop_guard St.know envSet cond_d cond_bool cond_int cond_str endE endQ freeB disj pushT bitsW int_beq int_bne eqS_def tbE fuelL_eq ann0_lays ann0_dd ann0_ro elsOf_dsl elsOf_dnils toNat_succ nn_succ pos_succ one_succ rng1 rng2 rng3 rng4 rng5 rng6 rng7 rng8 List.idxOf_cons wpk_rng rndK rndE
section
variable (g : Nat) (hne : g ≠ 1000000007) (cmp : Int → Int → Int) (hg : ∀ a b : Int, run CC g [.d (.int .i64 a), .d (.int .i64 b)] [] = some (.d (.int .i64 (cmp a b)), [])) (hS : SWO (ltC cmp))
include hne hg hS
set_option maxRecDepth 100000 in
set_option maxHeartbeats 4000000 in
theorem tail48 (n a b lim len : Nat) (wb wp : Bool) (hn : n < 50) (h12 : 12 < b - a) (hb : b ≤ n) (hlen : len = b - a) (d : Array Int) (hd : d.size = n) (hB : Below (ltC cmp) a b d) (ks : List Fr) (K : Ex → St → Prop)
    (HR : ∀ (a' b' : Nat) (e : Array Int), b' - a' < b - a → a' ≤ b' → b' ≤ n → e.size = n → Below (ltC cmp) a' b' e → ∃ y obs', run CC 52 [.vs 0 0 1 0 n, .d (.int .i64 a'), .d (.int .i64 b'), .d (.int .i64 lim), .fn g [] []] [vI e] = some (y, obs') ∧ y = .tup [] ∧ ∃ e', obs' = [vI e'] ∧ PermIn a' b' e e' ∧ SortedIn (ltC cmp) a' b' e')
    (hret : ∀ env e, PermIn a b d e → SortedIn (ltC cmp) a b e → wpn CC .ret ⟨env, [vI e]⟩ ks K)
    (hnext : ∀ (a' b' : Nat) (wb wp : Bool) (e : Array Int), a' ≤ b' → b' ≤ n → b' - a' < b - a → e.size = n → Below (ltC cmp) a' b' e → (∀ R, PermIn a' b' e R → SortedIn (ltC cmp) a' b' R → PermIn a b d R ∧ SortedIn (ltC cmp) a b R) → wpn CC .norm ⟨[(0, .vs 0 0 1 0 n), (1, .d (.int .i64 a')), (2, .d (.int .i64 b')), (3, .d (.int .i64 lim)), (4, .fn g [] []), (10, .d (.bool wb)), (11, .d (.bool wp))], [vI e]⟩ ks K) :
    wpk CC (t52_48 1) ⟨[(0, .vs 0 0 1 0 n), (1, .d (.int .i64 a)), (2, .d (.int .i64 b)), (3, .d (.int .i64 lim)), (4, .fn g [] []), (10, .d (.bool wb)), (11, .d (.bool wp)), (12, .d (.int .i64 len))], [vI d]⟩ (.block 1 :: .post (.tidy [0, 1, 2, 3, 4, 10, 11] 1 1) :: ks) K := by
  have hp := pivot_run g hne cmp hg d n a b hd hn (by omega) hb (by omega)
  have hh := pivot_hint (ltC cmp) d a b (by omega) (by omega)
  have hc := choosePivot_holds (ltC cmp) d a b (by omega)
  generalize Go.Sort.choosePivot (ltC cmp) d a b = r at *
  obtain ⟨p, hint⟩ := r
  simp only at hp hh hc
  have T := fun hint => tail68 g hne cmp hg hS n a b lim len p hint wb wp hn hc.1 hc.2 hb hlen d hd hB ks K HR hret hnext
  clear HR hret hnext
  rcases hh with rfl | rfl
  · have T1 := T 1
    clear T
    simp only [vI] at hp T1 ⊢
    generalize eD d = E at *
    simp at T1
    simp [t52_48, eqCells, T3, T4, T5, T9, T22, T25, T26, T28, T29, T36, T41, T47, T69, T74, T78, T85, T90, T98, T104, CT, hne, hp]
    exact T1
  · have T1 := T 0
    clear T
    simp only [vI] at hp T1 ⊢
    generalize eD d = E at *
    simp at T1
    simp [t52_48, eqCells, T3, T4, T5, T9, T22, T25, T26, T28, T29, T36, T41, T47, T69, T74, T78, T85, T90, T98, T104, CT, hne, hp]
    exact T1
set_option maxRecDepth 100000 in
set_option maxHeartbeats 4000000 in
theorem pdq80_run (n : Nat) (hn : n ≤ 24) (N : Nat) : ∀ (a b lim : Nat) (d : Array Int), b - a ≤ N → a ≤ b → b ≤ n → d.size = n → lim < 100 → Below (ltC cmp) a b d →
    ∃ y obs', run CC 52 [.vs 0 0 1 0 n, .d (.int .i64 a), .d (.int .i64 b), .d (.int .i64 lim), .fn g [] []] [vI d] = some (y, obs') ∧ y = .tup [] ∧ ∃ e, obs' = [vI e] ∧ PermIn a b d e ∧ SortedIn (ltC cmp) a b e := by
  induction N using Nat.strongRecOn with
  | ind N IH =>
  intro a b lim d hN hab hb hd hlim hB
  refine run_codeQ (s := s52 1) rfl rfl rfl (by kernel_rfl) ?_
  simp [s52, eqCells, T3, T4, T5, T9, T22, T25, T26, T28, T29, T36, T41, T47, T69, T74, T78, T85, T90, T98, T104, CT, hne]
  refine wlp_inv (S := fun p : Nat × Nat × Nat × Bool × Bool × Array Int => ⟨[(0, .vs 0 0 1 0 n), (1, .d (.int .i64 p.1)), (2, .d (.int .i64 p.2.1)), (3, .d (.int .i64 p.2.2.1)), (4, .fn g [] []), (10, .d (.bool p.2.2.2.1)), (11, .d (.bool p.2.2.2.2.1))], [vI p.2.2.2.2.2]⟩) (m := fun p => p.2.1 - p.1) (Inv := fun p => p.1 ≤ p.2.1 ∧ p.2.1 ≤ n ∧ p.2.1 - p.1 ≤ N ∧ p.2.2.1 < 100 ∧ p.2.2.2.2.2.size = n ∧ Below (ltC cmp) p.1 p.2.1 p.2.2.2.2.2 ∧ ∀ R, PermIn p.1 p.2.1 p.2.2.2.2.2 R → SortedIn (ltC cmp) p.1 p.2.1 R → PermIn a b d R ∧ SortedIn (ltC cmp) a b R) ?_ (a, b, lim, true, true, d) ⟨hab, hb, hN, hlim, hd, hB, fun R h1 h2 => ⟨h1, h2⟩⟩
  clear hN hab hb hd hlim hB
  rintro ⟨a', b', lim', wb, wp, e⟩ ⟨hab, hb, hN, hlim, hd, hB, hfin⟩ ih
  rw [e52_1]
  simp only at hab hb hN hlim hd hB hfin ih ⊢
  have w1 : IntKind.i64.wrap ((b' : Int) - a') = ((b' - a' : Nat) : Int) := by rw [wrap64 (by omega) (by omega)]; omega
  by_cases h12 : b' - a' ≤ 12
  · have hi := ins82_run g hne cmp hg e n a' b' hd (by omega) (by omega) hb
    have hs := insertionSort_holds (lt := ltC cmp) hS e a' b' hab (by omega)
    have hf := hfin _ hs.1 hs.2
    clear ih hs hfin
    have p1 : ((b' - a' : Nat) : Int) ≤ 12 := by omega
    simp only [vI] at hi ⊢
    generalize Go.Sort.insertionSort (ltC cmp) e a' b' = f at *
    generalize b' - a' = len at *
    generalize hE : eD f = F at *
    generalize eD e = E at *
    simp [c52_1, eqCells, T3, T4, T5, T9, T22, T25, T26, T28, T29, T36, T41, T47, T69, T74, T78, T85, T90, T98, T104, CT, hne, w1, p1, h12, hi]
    exact ⟨f, hE.symm, hf⟩
  have p1 : ¬ ((b' - a' : Nat) : Int) ≤ 12 := by omega
  by_cases h0 : lim' = 0
  · have hi := heap83_run g hne cmp hg e n a' b' hd (by omega) (by omega) hb
    have hs := heapSort_holds (lt := ltC cmp) hS e a' b' hab (by omega)
    have hf := hfin _ hs.1 hs.2
    clear ih hs hfin
    subst h0
    simp only [vI] at hi ⊢
    generalize Go.Sort.heapSort (ltC cmp) e a' b' = f at *
    generalize b' - a' = len at *
    generalize hE : eD f = F at *
    generalize eD e = E at *
    simp [c52_1, eqCells, T3, T4, T5, T9, T22, T25, T26, T28, T29, T36, T41, T47, T69, T74, T78, T85, T90, T98, T104, CT, hne, w1, p1, h12, hi]
    exact ⟨f, hE.symm, hf⟩
  have p0 : ¬ (lim' : Int) = 0 := by omega
  have T : ∀ (lim2 : Nat) (d1 : Array Int), lim2 < 100 → PermIn a' b' e d1 → wpk CC (t52_48 1) ⟨[(0, .vs 0 0 1 0 n), (1, .d (.int .i64 a')), (2, .d (.int .i64 b')), (3, .d (.int .i64 lim2)), (4, .fn g [] []), (10, .d (.bool wb)), (11, .d (.bool wp)), (12, .d (.int .i64 (b' - a' : Nat)))], [vI d1]⟩ (.block 1 :: .post (.tidy [0, 1, 2, 3, 4, 10, 11] 1 1) :: [.loop (s52_1 1), .block 0, .post (.tidy [] 1 1)]) (endQ CC.T [] 1 fun y obs' => y = .tup [] ∧ ∃ e, obs' = [vI e] ∧ PermIn a b d e ∧ SortedIn (ltC cmp) a b e) := by
    intro lim2 d1 hl2 hp1
    have hz : d1.size = n := by rw [hp1.1]; exact hd
    refine tail48 g hne cmp hg hS n a' b' lim2 (b' - a') wb wp (by omega) (by omega) hb rfl d1 hz (hB.perm (by omega) hp1) _ _ ?_ ?_ ?_
    · intro a2 b2 e2 hlt h1 h2 h3 h4
      exact IH (b2 - a2) (by omega) a2 b2 lim2 e2 (by omega) h1 h2 h3 hl2 h4
    · intro env e2 h1 h2
      have hf := hfin e2 (permIn_trans _ _ _ _ _ hp1 h1) h2
      clear ih
      simp only [vI]
      generalize hE : eD e2 = F at *
      simp [eqCells, T3, T4, T5, T9, T22, T25, T26, T28, T29, T36, T41, T47, T69, T74, T78, T85, T90, T98, T104, CT]
      exact ⟨e2, hE.symm, hf⟩
    · intro a2 b2 wb2 wp2 e2 h1 h2 h3 h4 h5 h6
      have := ih (a2, b2, lim2, wb2, wp2, e2) ⟨h1, h2, by simp only; omega, hl2, h4, h5, fun R hR hs => hfin R (permIn_trans _ _ _ _ _ hp1 (h6 R hR hs).1) (h6 R hR hs).2⟩ (by simp only; omega)
      clear ih
      simp only [vI] at this ⊢
      generalize eD e2 = F at *
      simp [eqCells, T3, T4, T5, T9, T22, T25, T26, T28, T29, T36, T41, T47, T69, T74, T78, T85, T90, T98, T104, CT]
      exact this
  clear ih IH
  cases wb with
  | true =>
    have T1 := T lim' e hlim (permIn_refl _ _ _)
    clear T hfin
    simp only [vI] at T1 ⊢
    generalize b' - a' = len at *
    generalize eD e = E at *
    simp [c52_1, eqCells, T3, T4, T5, T9, T22, T25, T26, T28, T29, T36, T41, T47, T69, T74, T78, T85, T90, T98, T104, CT, hne, w1, p1, h12, p0, h0]
    exact T1
  | false =>
    obtain ⟨y, obs', hrun, rfl, f, rfl, hpf⟩ := brk84_run g e n a' b' hd (by omega) hb (by omega) (by omega)
    have T1 := T (lim' - 1) f (by omega) hpf
    have w2 : IntKind.i64.wrap ((lim' : Int) - 1) = ((lim' - 1 : Nat) : Int) := by rw [wrap64 (by omega) (by omega)]; omega
    clear T hfin
    simp only [vI] at T1 hrun ⊢
    generalize b' - a' = len at *
    generalize eD e = E at *
    generalize eD f = F at *
    generalize lim' - 1 = lim2 at *
    simp [c52_1, eqCells, T3, T4, T5, T9, T22, T25, T26, T28, T29, T36, T41, T47, T69, T74, T78, T85, T90, T98, T104, CT, hne, w1, p1, h12, p0, h0, hrun, w2]
    exact T1
end
end Go.Proofs.YtdhbecdlablonaaV.Pd
