/- breakPatterns: some permutation. -/
import Derived.Test.YtdhbecdlablonaaPm13
import Derived.Sort.Lot0
set_option linter.unusedVariables false
set_option linter.unusedSimpArgs false
namespace Go.Proofs.YtdhbecdlablonaaV.Pd
open Go.RowKit
attribute [local simp] TK.agg constAV evalAV EK.has EK.hasAll vecEls elsR AV.toD toDs AV.cells AV.one joinD TyI.zeroD OpR.of binIntF binStrF AV.isPtr ptrNil slNil mpNil nilE eqF negF posF binF pelF pvLoad pelSet pvStore boxLoad epLoad loadF boxStore storeF fieldAddrF fieldF epOf indexAddrF byteF indexF mapLen lenF cutF sliceF sliceN sliceX isSl slice3F fillF fillV arrFs buildF partsX landV buildSliceF roomB appVec appendF appMkF capF mmFrom mmF max2' min2' clearVec clearF convF unF pickF nilChkF extF ptrsOf callF makeSliceF sameKs sameD kindIs plainFs keyOk mapOb mapEs okV lookF lookupF putE putS mapPut mapUpdateF mapDel deleteF mapAll rangeM rangeF overV hitV nextO nextF entryM entryO entryF itOids builtinF capsOf allocF boxF bytesL bytesF byteTy strTy convertF makeFuncF mapNew makeMapF makeMapH opF reach reachOf AObj.live closedB nodupB packO packL packX backN backG backO obL backE frzX frzO AV.vids frzL landC sameObs landR touchF bitsW D.cells D.decEq D.decEqs AV.decEq AV.decEqs AObj.decEq AV.oids0 AV.oids AObj.oids renG renP AV.ren0 AV.ren envGet envPut envKeep obGet setEff putV St.put stepS keyChk chkD accD Ex.block AV.under AObj.under laysOf roomFor mkvO frzG szOk killO usedBy tidyS canL canS ghost ghostE normSt resOf allSome one0 resultsF finL finishL finish endF startEnv chkC backX comeC AV.flat0 rngC loopO layL endLp busyL idleL noRng rndSt rndEnd wpn_nil wpn_seq wpn_loop wpn_seq_exit wpn_loop_exit wpn_seq_ret wpn_loop_ret wpn_block wpn_post wpk_skip wpk_exit wpk_ret wpk_reg wpk_seq wpk_condT wpk_block wpk_loop wpk_pre wpk_post wop_nil wop_cons wop_guard St.know envSet cond_d cond_bool cond_int cond_str endE endQ freeB disj pushT bitsW int_beq int_bne eqS_def tbE fuelL_eq ann0_lays ann0_dd ann0_ro elsOf_dsl elsOf_dnils toNat_succ nn_succ pos_succ one_succ rng1 rng2 rng3 rng4 rng5 rng6 rng7 rng8 List.idxOf_cons wpk_rng rndK rndE
section
variable (g : Nat)
set_option maxRecDepth 100000 in
set_option maxHeartbeats 2000000 in
theorem brk84_run (d : Array Int) (n a b : Nat) (hd : d.size = n) (hn : n < 900) (hb : b ≤ n) (h8 : a + 8 ≤ b) (h20 : b ≤ a + 24) :
    ∃ y obs', run CC 61 [.vs 0 0 1 0 n, .d (.int .i64 a), .d (.int .i64 b), .fn g [] []] [vI d] = some (y, obs') ∧ y = .tup [] ∧ ∃ e : Array Int, obs' = [vI e] ∧ Go.Sort.PermIn a b d e := by
  refine run_codeQ (s := s61 1) rfl rfl rfl (by kernel_rfl) ?_
  have w1 : IntKind.i64.wrap ((b : Int) - a) = ((b - a : Nat) : Int) := by rw [wrap64 (by omega) (by omega)]; omega
  generalize hL : b - a = L at *
  have np := np93_run L (by omega) (by omega)
  have hm : (if (L : Int) < 16 then (16 : Int) else 32) = 16 ∨ (if (L : Int) < 16 then (16 : Int) else 32) = 32 := by split <;> simp
  have hm2 : (if (L : Int) < 16 then (16 : Int) else 32) ≤ 2 * L := by split <;> omega
  generalize (if (L : Int) < 16 then (16 : Int) else 32) = m at *
  have q4 : ((L : Nat) : Int).tdiv 4 = ((L / 4 : Nat) : Int) := by rw [Int.tdiv_eq_ediv_of_nonneg (by omega)]; simp
  have l8 : (8 : Int) ≤ L := by omega
  have x1 : IntKind.u64.wrap (L : Int) = L := by simp [IntKind.wrap, IntKind.bits, IntKind.signed]; omega
  have hp4 : L / 4 ≤ 6 ∧ 2 ≤ L / 4 ∧ L / 4 * 4 ≤ L := by omega
  generalize L / 4 = p at *
  have wp : IntKind.i64.wrap (p : Int) = p := wrap64 (by omega) (by omega)
  have wp2 : IntKind.i64.wrap ((p : Int) * 2) = (p : Int) * 2 := wrap64 (by omega) (by omega)
  have wp3 : IntKind.i64.wrap ((a : Int) + p * 2) = (a : Int) + p * 2 := wrap64 (by omega) (by omega)
  have wp4 : IntKind.i64.wrap ((a : Int) + p * 2 - 1) = ((a + p * 2 - 1 : Nat) : Int) := by rw [wrap64 (by omega) (by omega)]; omega
  simp [s61, eqCells, T3, T4, T5, T9, T22, T25, T26, T28, T29, T36, T41, T47, T69, T74, T78, T85, T90, T98, T104, CT, w1, l8, q4, wp, wp2, wp3, wp4, x1, np]
  have hap : a + p * 2 + 1 < b := by omega
  refine wlp_inv (S := fun q : Nat × Array Int × Int => ⟨[(0, .vs 0 0 1 0 n), (1, .d (.int .i64 a)), (8, .d (.int .i64 L)), (9, .ptr 1 0), (10, .d (.int .u64 m)), (11, .d (.int .i64 q.1))], [vI q.2.1, .box [.d (.int .u64 q.2.2)]]⟩) (m := fun q => a + p * 2 + 2 - q.1) (Inv := fun q => q.2.1.size = n ∧ Go.Sort.PermIn a b d q.2.1 ∧ a ≤ q.1 ∧ q.1 ≤ a + p * 2 + 2) ?_ (a + p * 2 - 1, d, L) ⟨hd, Go.Sort.permIn_refl _ _ _, by omega, by omega⟩
  rintro ⟨i, e, r⟩ ⟨he, hpe, hi1, hi2⟩ ih
  rw [e61_1]
  simp only at he hpe hi1 hi2 ⊢
  have wp5 : IntKind.i64.wrap ((a : Int) + p * 2 + 1) = (a : Int) + p * 2 + 1 := wrap64 (by omega) (by omega)
  by_cases hx : i ≤ a + p * 2 + 1
  rotate_left
  · have hx' : ¬ ((i : Int) ≤ (a : Int) + p * 2 + 1) := by omega
    simp only [vI]
    generalize hE : eD e = E at *
    simp [c61_1, eqCells, T3, T4, T5, T9, T22, T25, T26, T28, T29, T36, T41, T47, T69, T74, T78, T85, T90, T98, T104, CT, q4, wp, wp2, wp3, wp5, hx']
    exact ⟨e, hE.symm, hpe⟩
  have hx' : (i : Int) ≤ (a : Int) + p * 2 + 1 := by omega
  have xr := xor94_run r
  obtain ⟨o1, o2⟩ := rnd_in (xorE r) m hm
  obtain ⟨o, ho⟩ : ∃ o : Nat, rnd (xorE r) m = (o : Int) := ⟨(rnd (xorE r) m).toNat, by omega⟩
  rw [ho] at o1 o2
  unfold rnd at ho
  have wm : IntKind.u64.wrap (m - 1) = m - 1 := by rcases hm with rfl | rfl <;> decide
  have key : ∀ k : Nat, k < L → wlp CC (s61_1 1) ⟨[(0, .vs 0 0 1 0 n), (1, .d (.int .i64 a)), (8, .d (.int .i64 L)), (9, .ptr 1 0), (10, .d (.int .u64 m)), (11, .d (.int .i64 ((i : Int) + 1)))], [.vec 0 false false 3 1 (((eD e).set i (.int .i64 e[a + k]!)).set (a + k) (.int .i64 e[i]!)), .box [.d (.int .u64 (xorE r))]]⟩ [.block 0, .post (.tidy [] 1 2)] (endQ TT [] 1 fun y obs' => y = .tup [] ∧ ∃ e, obs' = [vI e] ∧ Go.Sort.PermIn a b d e) := fun k hk => by
    have h := ih (i + 1, Go.Sort.swp e i (a + k), xorE r) ⟨by rw [swp_size]; exact he, Go.Sort.permIn_trans _ _ _ _ _ hpe (Go.Sort.swp_permIn _ _ _ _ _ (by omega) (by omega) (by omega) (by omega) (by omega)), by simp only; omega, by simp only; omega⟩ (by simp only; omega)
    simp only [vI, eD_swp, Int.natCast_add, Int.natCast_one] at h
    exact h
  have wi : IntKind.i64.wrap ((i : Int) + 1) = (i : Int) + 1 := wrap64 (by omega) (by omega)
  by_cases hc : (L : Int) ≤ o
  · have kk := key (o - L) (by omega)
    obtain ⟨⟨g1, g2⟩, ⟨l1, l2, l3, gg1, gg2, gg3⟩, g3, hl, q1, q2⟩ := swF he (show i < n by omega) (show a + (o - L) < n by omega) (by omega)
    have y1 : IntKind.i64.wrap ((o : Int) - L) = ((o - L : Nat) : Int) := by rw [wrap64 (by omega) (by omega)]; omega
    have y2 : IntKind.i64.wrap ((a : Int) + ((o - L : Nat) : Int)) = ((a + (o - L) : Nat) : Int) := by rw [wrap64 (by omega) (by omega)]; omega
    clear key ih
    simp only [vI]
    generalize a + (o - L) = j at *
    generalize hE : eD e = E at *
    simp [c61_1, eqCells, T3, T4, T5, T9, T22, T25, T26, T28, T29, T36, T41, T47, T69, T74, T78, T85, T90, T98, T104, CT, q4, wp, wp2, wp3, wp5, hx', xr, wm, ho, hc, y1, y2, wi, g1, g2, g3, gg1, gg2, gg3, l1, l2, l3, hl, q1, q2]
    exact kk
  · have kk := key o (by omega)
    obtain ⟨⟨g1, g2⟩, ⟨l1, l2, l3, gg1, gg2, gg3⟩, g3, hl, q1, q2⟩ := swF he (show i < n by omega) (show a + o < n by omega) (by omega)
    have y2 : IntKind.i64.wrap ((a : Int) + o) = ((a + o : Nat) : Int) := by rw [wrap64 (by omega) (by omega)]; omega
    clear key ih
    simp only [vI]
    generalize a + o = j at *
    generalize hE : eD e = E at *
    simp [c61_1, eqCells, T3, T4, T5, T9, T22, T25, T26, T28, T29, T36, T41, T47, T69, T74, T78, T85, T90, T98, T104, CT, q4, wp, wp2, wp3, wp5, hx', xr, wm, ho, hc, y2, wi, g1, g2, g3, gg1, gg2, gg3, l1, l2, l3, hl, q1, q2]
    exact kk
end
end Go.Proofs.YtdhbecdlablonaaV.Pd
