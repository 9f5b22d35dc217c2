/- median, choosePivot. -/
import Derived.Test.YtdhbecdlablonaaPm1
set_option linter.unusedVariables false
set_option linter.unusedSimpArgs false
namespace Go.Proofs.YtdhbecdlablonaaV.Pd
open Go.RowKit
attribute [local simp] TK.agg constAV evalAV EK.has EK.hasAll vecEls elsR AV.toD toDs AV.cells AV.one joinD TyI.zeroD OpR.of binIntF binStrF AV.isPtr ptrNil slNil mpNil nilE eqF negF posF binF pelF pvLoad pelSet pvStore boxLoad epLoad loadF boxStore storeF fieldAddrF fieldF epOf indexAddrF byteF indexF mapLen lenF cutF sliceF sliceN sliceX isSl slice3F fillF fillV arrFs buildF partsX landV buildSliceF roomB appVec appendF appMkF capF mmFrom mmF max2' min2' clearVec clearF convF unF pickF nilChkF extF ptrsOf callF makeSliceF sameKs sameD kindIs plainFs keyOk mapOb mapEs okV lookF lookupF putE putS mapPut mapUpdateF mapDel deleteF mapAll rangeM rangeF overV hitV nextO nextF entryM entryO entryF itOids builtinF capsOf allocF boxF bytesL bytesF byteTy strTy convertF makeFuncF mapNew makeMapF makeMapH opF reach reachOf AObj.live closedB nodupB packO packL packX backN backG backO obL backE frzX frzO AV.vids frzL landC sameObs landR touchF bitsW D.cells D.decEq D.decEqs AV.decEq AV.decEqs AObj.decEq AV.oids0 AV.oids AObj.oids renG renP AV.ren0 AV.ren envGet envPut envKeep obGet setEff putV St.put stepS keyChk chkD accD Ex.block AV.under AObj.under laysOf roomFor mkvO frzG szOk killO usedBy tidyS canL canS ghost ghostE normSt resOf allSome one0 resultsF finL finishL finish endF startEnv chkC backX comeC AV.flat0 rngC loopO layL endLp busyL idleL noRng rndSt rndEnd wpn_nil wpn_seq wpn_loop wpn_seq_exit wpn_loop_exit wpn_seq_ret wpn_loop_ret wpn_block wpn_post wpk_skip wpk_exit wpk_ret wpk_reg wpk_seq wpk_condT wpk_block wpk_loop wpk_pre wpk_post wop_nil wop_cons wop_guard St.know envSet cond_d cond_bool cond_int cond_str endE endQ freeB disj pushT bitsW int_beq int_bne eqS_def tbE fuelL_eq ann0_lays ann0_dd ann0_ro elsOf_dsl elsOf_dnils toNat_succ nn_succ pos_succ one_succ rng1 rng2 rng3 rng4 rng5 rng6 rng7 rng8 List.idxOf_cons wpk_rng rndK rndE
theorem order2_lt {lt : Int → Int → Bool} {d : Array Int} {n a b sw : Nat} (ha : a < n) (hb : b < n) : (Go.Sort.order2 lt d a b sw).1 < n ∧ (Go.Sort.order2 lt d a b sw).2.1 < n ∧ (Go.Sort.order2 lt d a b sw).2.2 ≤ sw + 1 := by
  unfold Go.Sort.order2
  split
  · exact ⟨hb, ha, Nat.le_refl _⟩
  · exact ⟨ha, hb, Nat.le_succ _⟩
theorem median_lt {lt : Int → Int → Bool} {d : Array Int} {n a b c sw : Nat} (ha : a < n) (hb : b < n) (hc : c < n) : (Go.Sort.median lt d a b c sw).1 < n ∧ (Go.Sort.median lt d a b c sw).2 ≤ sw + 3 := by
  unfold Go.Sort.median
  obtain ⟨h1, h2, h3⟩ := order2_lt (lt := lt) (d := d) (sw := sw) ha hb
  simp only
  generalize Go.Sort.order2 lt d a b sw = r1 at *
  obtain ⟨k1, k2, k3⟩ := order2_lt (lt := lt) (d := d) (sw := r1.2.2) h2 hc
  generalize Go.Sort.order2 lt d r1.2.1 c r1.2.2 = r2 at *
  obtain ⟨j1, j2, j3⟩ := order2_lt (lt := lt) (d := d) (sw := r2.2.2) h1 k1
  exact ⟨j2, by omega⟩
section
variable (g : Nat) (hne : g ≠ 1000000007) (cmp : Int → Int → Int) (hg : ∀ a b : Int, run CC g [.d (.int .i64 a), .d (.int .i64 b)] [] = some (.d (.int .i64 (cmp a b)), []))
include hne hg
set_option maxRecDepth 100000 in
set_option maxHeartbeats 2000000 in
theorem median_run (d : Array Int) (n a b c sw : Nat) (hn : d.size = n) (hn2 : n < 1000) (ha : a < n) (hb : b < n) (hc : c < n) (hsw : sw < 900) :
    run CC 81 [.vs 0 0 1 0 n, .d (.int .i64 a), .d (.int .i64 b), .d (.int .i64 c), .ptr 1 0, .fn g [] []] [vI d, .box [.d (.int .i64 sw)]] = some (.d (.int .i64 (Go.Sort.median (ltC cmp) d a b c sw).1), [vI d, .box [.d (.int .i64 (Go.Sort.median (ltC cmp) d a b c sw).2)]]) := by
  refine run_code (s := s81 2) rfl rfl rfl (by kernel_rfl) ?_
  obtain ⟨h1, h2, h3⟩ := order2_lt (lt := ltC cmp) (d := d) (sw := sw) ha hb
  have r1 := order2_run g hne cmp hg d n a b sw hn hn2 ha hb (by omega)
  unfold Go.Sort.median
  simp only
  generalize Go.Sort.order2 (ltC cmp) d a b sw = q1 at *
  obtain ⟨k1, k2, k3⟩ := order2_lt (lt := ltC cmp) (d := d) (sw := q1.2.2) h2 hc
  have r2 := order2_run g hne cmp hg d n q1.2.1 c q1.2.2 hn hn2 h2 hc (by omega)
  generalize Go.Sort.order2 (ltC cmp) d q1.2.1 c q1.2.2 = q2 at *
  have r3 := order2_run g hne cmp hg d n q1.1 q2.1 q2.2.2 hn hn2 h1 k1 (by omega)
  generalize Go.Sort.order2 (ltC cmp) d q1.1 q2.1 q2.2.2 = q3 at *
  simp only [vI] at r1 r2 r3 ⊢
  generalize eD d = E at *
  simp [s81, eqCells, T3, T4, T5, T9, T22, T25, T26, T28, T29, T36, T41, T47, T69, T74, T78, T85, T90, T98, T104, CT, hne, r1, r2, r3]
set_option maxRecDepth 100000 in
set_option maxHeartbeats 2000000 in
theorem pivot_run (d : Array Int) (n a b : Nat) (hn : d.size = n) (hn2 : n < 50) (hab : a < b) (hb : b ≤ n) (h8 : 8 ≤ b - a) :
    run CC 62 [.vs 0 0 1 0 n, .d (.int .i64 a), .d (.int .i64 b), .fn g [] []] [vI d] = some (.tup [.d (.int .i64 (Go.Sort.choosePivot (ltC cmp) d a b).1), .d (.int .i64 (match (Go.Sort.choosePivot (ltC cmp) d a b).2 with | .unknown => 0 | .increasing => 1 | .decreasing => 2))], [vI d]) := by
  refine run_code (s := s62 1) rfl rfl rfl (by kernel_rfl) ?_
  have w1 : IntKind.i64.wrap ((b : Int) - a) = ((b - a : Nat) : Int) := by rw [wrap64 (by omega) (by omega)]; omega
  generalize hl : b - a = l at *
  have q4 : ((l : Nat) : Int).tdiv 4 = ((l / 4 : Nat) : Int) := by rw [Int.tdiv_eq_ediv_of_nonneg (by omega)]; simp
  have i1 : a + l / 4 * 1 < n := by omega
  have i2 : a + l / 4 * 2 < n := by omega
  have i3 : a + l / 4 * 3 < n := by omega
  have hm := median_run g hne cmp hg d n (a + l / 4 * 1) (a + l / 4 * 2) (a + l / 4 * 3) 0 hn (by omega) i1 i2 i3 (by omega)
  obtain ⟨m1, m2⟩ := median_lt (lt := ltC cmp) (d := d) (n := n) (sw := 0) i1 i2 i3
  have hcp : Go.Sort.choosePivot (ltC cmp) d a b = ((Go.Sort.median (ltC cmp) d (a + l / 4 * 1) (a + l / 4 * 2) (a + l / 4 * 3) 0).1, if (Go.Sort.median (ltC cmp) d (a + l / 4 * 1) (a + l / 4 * 2) (a + l / 4 * 3) 0).2 = 0 then .increasing else if (Go.Sort.median (ltC cmp) d (a + l / 4 * 1) (a + l / 4 * 2) (a + l / 4 * 3) 0).2 = 12 then .decreasing else .unknown) := by
    unfold Go.Sort.choosePivot
    simp only [hl]
    rw [if_pos (by omega), if_neg (by omega)]
  rw [hcp]
  generalize l / 4 = p at *
  have wp : IntKind.i64.wrap (p : Int) = p := wrap64 (by omega) (by omega)
  have wp1 : IntKind.i64.wrap ((a : Int) + p) = ((a + p * 1 : Nat) : Int) := by rw [wrap64 (by omega) (by omega)]; omega
  have wp2 : IntKind.i64.wrap ((p : Int) * 2) = (p : Int) * 2 := wrap64 (by omega) (by omega)
  have wp22 : IntKind.i64.wrap ((a : Int) + p * 2) = ((a + p * 2 : Nat) : Int) := by rw [wrap64 (by omega) (by omega)]; omega
  have wp3 : IntKind.i64.wrap ((p : Int) * 3) = (p : Int) * 3 := wrap64 (by omega) (by omega)
  have wp32 : IntKind.i64.wrap ((a : Int) + p * 3) = ((a + p * 3 : Nat) : Int) := by rw [wrap64 (by omega) (by omega)]; omega
  generalize hj1 : a + p * 1 = j1 at *
  generalize hj2 : a + p * 2 = j2 at *
  generalize hj3 : a + p * 3 = j3 at *
  generalize Go.Sort.median (ltC cmp) d j1 j2 j3 0 = r at *
  obtain ⟨rm, rs⟩ := r
  have l8 : (8 : Int) ≤ l := by omega
  have l50 : (l : Int) < 50 := by omega
  have l50' : ¬ (50 : Int) ≤ l := by omega
  simp only at m2
  have e12 : ¬ rs = 12 := by omega
  have e12' : ¬ (rs : Int) = 12 := by omega
  simp only [vI] at hm ⊢
  have hz : ((0 : Nat) : Int) = 0 := rfl
  rw [hz] at hm
  generalize eD d = E at *
  by_cases e0 : rs = 0
  · subst e0
    simp [s62, eqCells, T3, T4, T5, T9, T22, T25, T26, T28, T29, T36, T41, T47, T69, T74, T78, T85, T90, T98, T104, CT, hne, w1, q4, wp, wp1, wp2, wp22, wp3, wp32, l8, l50, l50', hm]
  · have e0' : ¬ (rs : Int) = 0 := by omega
    simp [s62, eqCells, T3, T4, T5, T9, T22, T25, T26, T28, T29, T36, T41, T47, T69, T74, T78, T85, T90, T98, T104, CT, hne, w1, q4, wp, wp1, wp2, wp22, wp3, wp32, l8, l50, l50', hm, e0, e0', e12, e12']
end
end Go.Proofs.YtdhbecdlablonaaV.Pd
