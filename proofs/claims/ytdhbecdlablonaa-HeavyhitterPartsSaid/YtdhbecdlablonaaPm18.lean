/- pdqsort: its round from the test for equal elements, and from partialInsertionSort. -/
import Derived.Test.YtdhbecdlablonaaPm17
set_option linter.unusedVariables false
set_option linter.unusedSimpArgs false
namespace Go.Proofs.YtdhbecdlablonaaV.Pd
open Go.RowKit Go.Sort
attribute [local simp] TK.agg constAV evalAV EK.has EK.hasAll vecEls elsR AV.toD toDs AV.cells AV.one joinD TyI.zeroD OpR.of binIntF binStrF AV.isPtr ptrNil slNil mpNil nilE eqF negF posF binF pelF pvLoad pelSet pvStore boxLoad epLoad loadF boxStore storeF fieldAddrF fieldF epOf indexAddrF byteF indexF mapLen lenF cutF sliceF sliceN sliceX isSl slice3F fillF fillV arrFs buildF partsX landV buildSliceF roomB appVec appendF appMkF capF mmFrom mmF max2' min2' clearVec clearF convF unF pickF nilChkF extF ptrsOf callF makeSliceF sameKs sameD kindIs plainFs keyOk mapOb mapEs okV lookF lookupF putE putS mapPut mapUpdateF mapDel deleteF mapAll rangeM rangeF overV hitV nextO nextF entryM entryO entryF itOids builtinF capsOf allocF boxF bytesL bytesF byteTy strTy convertF makeFuncF mapNew makeMapF makeMapH opF reach reachOf AObj.live closedB nodupB packO packL packX backN backG backO obL backE frzX frzO AV.vids frzL landC sameObs landR touchF bitsW D.cells D.decEq D.decEqs AV.decEq AV.decEqs AObj.decEq AV.oids0 AV.oids AObj.oids renG renP AV.ren0 AV.ren envGet envPut envKeep obGet setEff putV St.put stepS keyChk chkD accD Ex.block AV.under AObj.under laysOf roomFor mkvO frzG szOk killO usedBy tidyS canL canS ghost ghostE normSt resOf allSome one0 resultsF finL finishL finish endF startEnv chkC backX comeC AV.flat0 rngC loopO layL endLp busyL idleL noRng rndSt rndEnd wpn_nil wpn_seq wpn_loop wpn_seq_exit wpn_loop_exit wpn_seq_ret wpn_loop_ret wpn_block wpn_post wpk_skip wpk_exit wpk_ret wpk_reg wpk_seq wpk_condT wpk_block wpk_loop wpk_pre wpk_post wop_nil wop_cons wop_guard St.know envSet cond_d cond_bool cond_int cond_str endE endQ freeB disj pushT bitsW int_beq int_bne eqS_def tbE fuelL_eq ann0_lays ann0_dd ann0_ro elsOf_dsl elsOf_dnils toNat_succ nn_succ pos_succ one_succ rng1 rng2 rng3 rng4 rng5 rng6 rng7 rng8 List.idxOf_cons wpk_rng rndK rndE
section
variable (g : Nat) (hne : g ≠ 1000000007) (cmp : Int → Int → Int) (hg : ∀ a b : Int, run CC g [.d (.int .i64 a), .d (.int .i64 b)] [] = some (.d (.int .i64 (cmp a b)), [])) (hS : SWO (ltC cmp))
include hne hg hS
set_option maxRecDepth 100000 in
set_option maxHeartbeats 4000000 in
theorem tail81 (n a b lim len p : Nat) (wb wp : Bool) (hn : n < 50) (hap : a ≤ p) (hpb : p < b) (hb : b ≤ n) (hlen : len = b - a) (d : Array Int) (hd : d.size = n) (hB : Below (ltC cmp) a b d) (ks : List Fr) (K : Ex → St → Prop)
    (HR : ∀ (a' b' : Nat) (e : Array Int), b' - a' < b - a → a' ≤ b' → b' ≤ n → e.size = n → Below (ltC cmp) a' b' e → ∃ y obs', run CC 52 [.vs 0 0 1 0 n, .d (.int .i64 a'), .d (.int .i64 b'), .d (.int .i64 lim), .fn g [] []] [vI e] = some (y, obs') ∧ y = .tup [] ∧ ∃ e', obs' = [vI e'] ∧ PermIn a' b' e e' ∧ SortedIn (ltC cmp) a' b' e')
    (hnext : ∀ (a' b' : Nat) (wb wp : Bool) (e : Array Int), a' ≤ b' → b' ≤ n → b' - a' < b - a → e.size = n → Below (ltC cmp) a' b' e → (∀ R, PermIn a' b' e R → SortedIn (ltC cmp) a' b' R → PermIn a b d R ∧ SortedIn (ltC cmp) a b R) → wpn CC .norm ⟨[(0, .vs 0 0 1 0 n), (1, .d (.int .i64 a')), (2, .d (.int .i64 b')), (3, .d (.int .i64 lim)), (4, .fn g [] []), (10, .d (.bool wb)), (11, .d (.bool wp))], [vI e]⟩ ks K) :
    wpk CC (t52_81 1) ⟨[(0, .vs 0 0 1 0 n), (1, .d (.int .i64 a)), (2, .d (.int .i64 b)), (3, .d (.int .i64 lim)), (4, .fn g [] []), (10, .d (.bool wb)), (11, .d (.bool wp)), (12, .d (.int .i64 len)), (13, .d (.int .i64 p))], [vI d]⟩ (.block 1 :: .post (.tidy [0, 1, 2, 3, 4, 10, 11] 1 1) :: ks) K := by
  have T := tail106 g hne cmp hg hS n a b lim len p hn hap hpb hb hlen d hd hB ks K HR hnext
  clear HR
  by_cases h0 : a = 0
  · have p0 : ¬ (0 : Int) < (a : Int) := by omega
    have p0n : ¬ 0 < a := by omega
    clear hnext
    simp only [vI] at T ⊢
    generalize eD d = E at *
    simp [t52_81, eqCells, T3, T4, T5, T9, T22, T25, T26, T28, T29, T36, T41, T47, T69, T74, T78, T85, T90, T98, T104, CT, hne, p0, p0n]
    exact T
  have p0 : (0 : Int) < (a : Int) := by omega
  have p0n : 0 < a := by omega
  have w1 : IntKind.i64.wrap ((a : Int) - 1) = ((a - 1 : Nat) : Int) := by rw [wrap64 (by omega) (by omega)]; omega
  have i0 : a - 1 < n := by omega
  have i1 : p < n := by omega
  have i0' : ((a - 1 : Nat) : Int) < n := by omega
  have i1' : (p : Int) < n := by omega
  have g0 := eD_get (d := d) (i := a - 1) (by omega)
  have g1 := eD_get (d := d) (i := p) (by omega)
  have l0 : a - 1 < (eD d).length := by rw [eD_len]; omega
  have l1 : p < (eD d).length := by rw [eD_len]; omega
  have gg0 := eD_at (d := d) (i := a - 1) (by omega) l0
  have gg1 := eD_at (d := d) (i := p) (by omega) l1
  have hl : (eD d).length = n := by rw [eD_len, hd]
  have hc := hg d[a - 1]! d[p]!
  by_cases hlt : cmp d[a - 1]! d[p]! < 0
  · clear hnext
    simp only [vI] at T ⊢
    generalize eD d = E at *
    generalize d[a - 1]! = x at *
    generalize d[p]! = y at *
    generalize a - 1 = a1 at *
    simp [t52_81, eqCells, T3, T4, T5, T9, T22, T25, T26, T28, T29, T36, T41, T47, T69, T74, T78, T85, T90, T98, T104, CT, hne, p0, p0n, w1, i0, i1, i0', i1', g0, g1, l0, l1, gg0, gg1, hl, hc, hlt]
    exact T
  · clear T
    have he := eq88_run g hne cmp hg d n a b p hd (by omega) hap hpb hb
    have hR := round_eq hS (partitionEqual_holds _) (by omega : 0 < a) hap hpb (by omega : b ≤ d.size) hB (by simp [ltC, hlt]) (mid := (Go.Sort.partitionEqual (ltC cmp) d a b p).1) (d4 := (Go.Sort.partitionEqual (ltC cmp) d a b p).2) rfl
    generalize Go.Sort.partitionEqual (ltC cmp) d a b p = r at *
    obtain ⟨mid, e⟩ := r
    simp only at he hR
    obtain ⟨h1, h2, h3, h4, h5⟩ := hR
    have nx := hnext mid b wb wp e h2 hb (by omega) (by omega) h4 h5
    have hlt2 : 0 ≤ cmp d[a - 1]! d[p]! := by omega
    simp only [vI] at he nx ⊢
    generalize eD e = E' at *
    generalize eD d = E at *
    generalize d[a - 1]! = x at *
    generalize d[p]! = y at *
    generalize a - 1 = a1 at *
    simp [t52_81, eqCells, T3, T4, T5, T9, T22, T25, T26, T28, T29, T36, T41, T47, T69, T74, T78, T85, T90, T98, T104, CT, hne, p0, p0n, w1, i0, i1, i0', i1', g0, g1, l0, l1, gg0, gg1, hl, hc, hlt, hlt2, he]
    exact nx
set_option maxRecDepth 100000 in
set_option maxHeartbeats 4000000 in
theorem tail68 (n a b lim len p hint : Nat) (wb wp : Bool) (hn : n < 50) (hap : a ≤ p) (hpb : p < b) (hb : b ≤ n) (hlen : len = b - a) (d : Array Int) (hd : d.size = n) (hB : Below (ltC cmp) a b d) (ks : List Fr) (K : Ex → St → Prop)
    (HR : ∀ (a' b' : Nat) (e : Array Int), b' - a' < b - a → a' ≤ b' → b' ≤ n → e.size = n → Below (ltC cmp) a' b' e → ∃ y obs', run CC 52 [.vs 0 0 1 0 n, .d (.int .i64 a'), .d (.int .i64 b'), .d (.int .i64 lim), .fn g [] []] [vI e] = some (y, obs') ∧ y = .tup [] ∧ ∃ e', obs' = [vI e'] ∧ PermIn a' b' e e' ∧ SortedIn (ltC cmp) a' b' e')
    (hret : ∀ env e, PermIn a b d e → SortedIn (ltC cmp) a b e → wpn CC .ret ⟨env, [vI e]⟩ ks K)
    (hnext : ∀ (a' b' : Nat) (wb wp : Bool) (e : Array Int), a' ≤ b' → b' ≤ n → b' - a' < b - a → e.size = n → Below (ltC cmp) a' b' e → (∀ R, PermIn a' b' e R → SortedIn (ltC cmp) a' b' R → PermIn a b d R ∧ SortedIn (ltC cmp) a b R) → wpn CC .norm ⟨[(0, .vs 0 0 1 0 n), (1, .d (.int .i64 a')), (2, .d (.int .i64 b')), (3, .d (.int .i64 lim)), (4, .fn g [] []), (10, .d (.bool wb)), (11, .d (.bool wp))], [vI e]⟩ ks K) :
    wpk CC (t52_68 1) ⟨[(0, .vs 0 0 1 0 n), (1, .d (.int .i64 a)), (2, .d (.int .i64 b)), (3, .d (.int .i64 lim)), (4, .fn g [] []), (10, .d (.bool wb)), (11, .d (.bool wp)), (12, .d (.int .i64 len)), (13, .d (.int .i64 p)), (14, .d (.int .i64 hint))], [vI d]⟩ (.block 1 :: .post (.tidy [0, 1, 2, 3, 4, 10, 11] 1 1) :: ks) K := by
  have T := tail81 g hne cmp hg hS n a b lim len p wb wp hn hap hpb hb hlen d hd hB ks K HR hnext
  have hp := pins87_run g hne cmp hg d n a b hd (by omega) (by omega) hb (by omega)
  have hpp := partialInsertionSort_holds (lt := ltC cmp) hS d a b (by omega) (by omega) hB
  have hfix : (Go.Sort.partialInsertionSort (ltC cmp) d a b).1 = d := by
    unfold Go.Sort.partialInsertionSort
    rw [Go.Sort.partialIns]
    simp only
    rw [if_pos (show b - a < 50 by omega)]
    split <;> rfl
  generalize Go.Sort.partialInsertionSort (ltC cmp) d a b = r at *
  obtain ⟨e, ok⟩ := r
  simp only at hp hpp hfix
  subst hfix
  clear HR hnext
  have h1 : (hint : Int) = 1 ↔ hint = 1 := by omega
  cases ok with
  | true =>
    have hr := fun env => hret env e hpp.1 (hpp.2 rfl)
    clear hret hpp
    simp only [vI] at hp T hr ⊢
    generalize eD e = E at *
    cases wb <;> cases wp <;> by_cases hh : (hint : Int) = 1
    all_goals simp [t52_68, eqCells, T3, T4, T5, T9, T22, T25, T26, T28, T29, T36, T41, T47, T69, T74, T78, T85, T90, T98, T104, CT, hne, hh, hp]
    all_goals first | exact hr _ | exact T
  | false =>
    clear hret hpp
    simp only [vI] at hp T ⊢
    generalize eD e = E at *
    cases wb <;> cases wp <;> by_cases hh : (hint : Int) = 1
    all_goals simp [t52_68, eqCells, T3, T4, T5, T9, T22, T25, T26, T28, T29, T36, T41, T47, T69, T74, T78, T85, T90, T98, T104, CT, hne, hh, hp]
    all_goals exact T
end
end Go.Proofs.YtdhbecdlablonaaV.Pd
