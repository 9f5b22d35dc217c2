/- pdqsort: its round from the end. -/
import Derived.Test.YtdhbecdlablonaaPm16
import Derived.Sort.LotD3
import Derived.Sort.LotB
import Derived.Sort.LotA
import Derived.Sort.LotC
set_option linter.unusedVariables false
set_option linter.unusedSimpArgs false
namespace Go.Proofs.YtdhbecdlablonaaV.Pd
open Go.RowKit Go.Sort
attribute [local simp] TK.agg constAV evalAV EK.has EK.hasAll vecEls elsR AV.toD toDs AV.cells AV.one joinD TyI.zeroD OpR.of binIntF binStrF AV.isPtr ptrNil slNil mpNil nilE eqF negF posF binF pelF pvLoad pelSet pvStore boxLoad epLoad loadF boxStore storeF fieldAddrF fieldF epOf indexAddrF byteF indexF mapLen lenF cutF sliceF sliceN sliceX isSl slice3F fillF fillV arrFs buildF partsX landV buildSliceF roomB appVec appendF appMkF capF mmFrom mmF max2' min2' clearVec clearF convF unF pickF nilChkF extF ptrsOf callF makeSliceF sameKs sameD kindIs plainFs keyOk mapOb mapEs okV lookF lookupF putE putS mapPut mapUpdateF mapDel deleteF mapAll rangeM rangeF overV hitV nextO nextF entryM entryO entryF itOids builtinF capsOf allocF boxF bytesL bytesF byteTy strTy convertF makeFuncF mapNew makeMapF makeMapH opF reach reachOf AObj.live closedB nodupB packO packL packX backN backG backO obL backE frzX frzO AV.vids frzL landC sameObs landR touchF bitsW D.cells D.decEq D.decEqs AV.decEq AV.decEqs AObj.decEq AV.oids0 AV.oids AObj.oids renG renP AV.ren0 AV.ren envGet envPut envKeep obGet setEff putV St.put stepS keyChk chkD accD Ex.block AV.under AObj.under laysOf roomFor mkvO frzG szOk killO usedBy tidyS canL canS ghost ghostE normSt resOf allSome one0 resultsF finL finishL finish endF startEnv chkC backX comeC AV.flat0 rngC loopO layL endLp busyL idleL noRng rndSt rndEnd wpn_nil wpn_seq wpn_loop wpn_seq_exit wpn_loop_exit wpn_seq_ret wpn_loop_ret wpn_block wpn_post wpk_skip wpk_exit wpk_ret wpk_reg wpk_seq wpk_condT wpk_block wpk_loop wpk_pre wpk_post wop_nil wop_cons wop_guard St.know envSet cond_d cond_bool cond_int cond_str endE endQ freeB disj pushT bitsW int_beq int_bne eqS_def tbE fuelL_eq ann0_lays ann0_dd ann0_ro elsOf_dsl elsOf_dnils toNat_succ nn_succ pos_succ one_succ rng1 rng2 rng3 rng4 rng5 rng6 rng7 rng8 List.idxOf_cons wpk_rng rndK rndE
theorem pivot_hint (lt : Int → Int → Bool) (d : Array Int) (a b : Nat) (h8 : 8 ≤ b - a) (h50 : b - a < 50) : (Go.Sort.choosePivot lt d a b).2 = .increasing ∨ (Go.Sort.choosePivot lt d a b).2 = .unknown := by
  have hm : (Go.Sort.median lt d (a + (b - a) / 4 * 1) (a + (b - a) / 4 * 2) (a + (b - a) / 4 * 3) 0).2 ≤ 0 + 3 := by
    unfold Go.Sort.median
    have o : ∀ (x y s : Nat), (Go.Sort.order2 lt d x y s).2.2 ≤ s + 1 := fun x y s => by unfold Go.Sort.order2; split <;> simp
    simp only
    have k1 := o (a + (b - a) / 4 * 1) (a + (b - a) / 4 * 2) 0
    generalize Go.Sort.order2 lt d (a + (b - a) / 4 * 1) (a + (b - a) / 4 * 2) 0 = q1 at *
    have k2 := o q1.2.1 (a + (b - a) / 4 * 3) q1.2.2
    generalize Go.Sort.order2 lt d q1.2.1 (a + (b - a) / 4 * 3) q1.2.2 = q2 at *
    have k3 := o q1.1 q2.1 q2.2.2
    generalize Go.Sort.order2 lt d q1.1 q2.1 q2.2.2 = q3 at *
    omega
  have hcp : Go.Sort.choosePivot lt d a b = ((Go.Sort.median lt d (a + (b - a) / 4 * 1) (a + (b - a) / 4 * 2) (a + (b - a) / 4 * 3) 0).1, if (Go.Sort.median lt d (a + (b - a) / 4 * 1) (a + (b - a) / 4 * 2) (a + (b - a) / 4 * 3) 0).2 = 0 then .increasing else if (Go.Sort.median lt d (a + (b - a) / 4 * 1) (a + (b - a) / 4 * 2) (a + (b - a) / 4 * 3) 0).2 = 12 then .decreasing else .unknown) := by
    unfold Go.Sort.choosePivot
    simp only
    rw [if_pos (show b - a ≥ 8 from h8), if_neg (show ¬ b - a ≥ 50 by omega)]
  rw [hcp]
  generalize Go.Sort.median lt d (a + (b - a) / 4 * 1) (a + (b - a) / 4 * 2) (a + (b - a) / 4 * 3) 0 = r at *
  by_cases h0 : r.2 = 0
  · simp [h0]
  · have h12 : ¬ r.2 = 12 := by omega
    simp [h0, h12]
section
variable (g : Nat) (hne : g ≠ 1000000007) (cmp : Int → Int → Int) (hg : ∀ a b : Int, run CC g [.d (.int .i64 a), .d (.int .i64 b)] [] = some (.d (.int .i64 (cmp a b)), [])) (hS : SWO (ltC cmp))
include hne hg hS
set_option maxRecDepth 100000 in
set_option maxHeartbeats 4000000 in
theorem tail106 (n a b lim len p : Nat) (hn : n < 50) (hap : a ≤ p) (hpb : p < b) (hb : b ≤ n) (hlen : len = b - a) (d : Array Int) (hd : d.size = n) (hB : Below (ltC cmp) a b d) (ks : List Fr) (K : Ex → St → Prop)
    (HR : ∀ (a' b' : Nat) (e : Array Int), b' - a' < b - a → a' ≤ b' → b' ≤ n → e.size = n → Below (ltC cmp) a' b' e → ∃ y obs', run CC 52 [.vs 0 0 1 0 n, .d (.int .i64 a'), .d (.int .i64 b'), .d (.int .i64 lim), .fn g [] []] [vI e] = some (y, obs') ∧ y = .tup [] ∧ ∃ e', obs' = [vI e'] ∧ PermIn a' b' e e' ∧ SortedIn (ltC cmp) a' b' e')
    (hnext : ∀ (a' b' : Nat) (wb wp : Bool) (e : Array Int), a' ≤ b' → b' ≤ n → b' - a' < b - a → e.size = n → Below (ltC cmp) a' b' e → (∀ R, PermIn a' b' e R → SortedIn (ltC cmp) a' b' R → PermIn a b d R ∧ SortedIn (ltC cmp) a b R) → wpn CC .norm ⟨[(0, .vs 0 0 1 0 n), (1, .d (.int .i64 a')), (2, .d (.int .i64 b')), (3, .d (.int .i64 lim)), (4, .fn g [] []), (10, .d (.bool wb)), (11, .d (.bool wp))], [vI e]⟩ ks K) :
    wpk CC (t52_106 1) ⟨[(0, .vs 0 0 1 0 n), (1, .d (.int .i64 a)), (2, .d (.int .i64 b)), (3, .d (.int .i64 lim)), (4, .fn g [] []), (12, .d (.int .i64 len)), (13, .d (.int .i64 p))], [vI d]⟩ (.block 1 :: .post (.tidy [0, 1, 2, 3, 4, 10, 11] 1 1) :: ks) K := by
  have hp := part89_run g hne cmp hg d n a b p hd (by omega) hap hpb hb
  have hR := round_part hS (partition_holds _) hap hpb (by omega : b ≤ d.size) hB (mid := (Go.Sort.partition (ltC cmp) d a b p).1) (ap := (Go.Sort.partition (ltC cmp) d a b p).2.1) (d4 := (Go.Sort.partition (ltC cmp) d a b p).2.2) rfl
  generalize (Go.Sort.partition (ltC cmp) d a b p) = r at *
  obtain ⟨mid, ap, e⟩ := r
  simp only at hp hR
  obtain ⟨h1, h2, h3, hBa, hBr, hl, hr⟩ := hR
  have w1 : IntKind.i64.wrap ((mid : Int) - a) = ((mid - a : Nat) : Int) := by rw [wrap64 (by omega) (by omega)]; omega
  have w2 : IntKind.i64.wrap ((b : Int) - mid) = ((b - mid : Nat) : Int) := by rw [wrap64 (by omega) (by omega)]; omega
  have q8 : ((len : Nat) : Int).tdiv 8 = ((len / 8 : Nat) : Int) := by rw [Int.tdiv_eq_ediv_of_nonneg (by omega)]; simp
  have w3 : IntKind.i64.wrap (((len / 8 : Nat) : Int)) = ((len / 8 : Nat) : Int) := wrap64 (by omega) (by omega)
  have w4 : IntKind.i64.wrap ((mid : Int) + 1) = ((mid + 1 : Nat) : Int) := by rw [wrap64 (by omega) (by omega)]; omega
  generalize len / 8 = l8 at *
  by_cases hlt : mid - a < b - mid
  · obtain ⟨y, obs', hrun, rfl, e', rfl, hpe, hse⟩ := HR a mid e (by omega) h1 (by omega) (by omega) hBa
    obtain ⟨hB', hfin⟩ := hl e' hpe hse
    have nx := fun wb wp => hnext (mid + 1) b wb wp e' (by omega) hb (by omega) (by rw [hpe.1]; omega) hB' hfin
    have plt : ((mid - a : Nat) : Int) < ((b - mid : Nat) : Int) := by omega
    generalize mid - a = x1 at *
    generalize b - mid = x2 at *
    simp only [vI] at hp hrun nx ⊢
    generalize eD e' = E' at *
    generalize eD e = E at *
    generalize eD d = D0 at *
    generalize mid + 1 = mid1 at *
    simp [t52_106, eqCells, T3, T4, T5, T9, T22, T25, T26, T28, T29, T36, T41, T47, T69, T74, T78, T85, T90, T98, T104, CT, hne, hp, w1, w2, q8, w3, plt, hrun, w4, hlt]
    exact nx _ _
  · obtain ⟨y, obs', hrun, rfl, e', rfl, hpe, hse⟩ := HR (mid + 1) b e (by omega) (by omega) hb (by omega) hBr
    obtain ⟨hB', hfin⟩ := hr e' hpe hse
    have nx := fun wb wp => hnext a mid wb wp e' (by omega) (by omega) (by omega) (by rw [hpe.1]; omega) hB' hfin
    have plt : ¬ ((mid - a : Nat) : Int) < ((b - mid : Nat) : Int) := by omega
    generalize mid - a = x1 at *
    generalize b - mid = x2 at *
    simp only [vI] at hp hrun nx ⊢
    generalize eD e' = E' at *
    generalize eD e = E at *
    generalize eD d = D0 at *
    generalize mid + 1 = mid1 at *
    simp [t52_106, eqCells, T3, T4, T5, T9, T22, T25, T26, T28, T29, T36, T41, T47, T69, T74, T78, T85, T90, T98, T104, CT, hne, hp, w1, w2, q8, w3, plt, hrun, w4, hlt]
    exact nx _ _
end
end Go.Proofs.YtdhbecdlablonaaV.Pd
