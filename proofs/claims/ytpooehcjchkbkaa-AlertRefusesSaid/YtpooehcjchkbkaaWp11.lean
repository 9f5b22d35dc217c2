/- The law AlertRefuses: the loop over the samples. -/
import Derived.Test.YtpooehcjchkbkaaWp10
set_option linter.unusedVariables false
set_option linter.unusedSimpArgs false
namespace Go.Proofs.YtpooehcjchkbkaaV
open Go.RowKit
attribute [local simp] TK.agg constAV evalAV EK.has EK.hasAll vecEls elsR AV.toD toDs AV.cells AV.one joinD TyI.zeroD OpR.of binIntF binStrF AV.isPtr ptrNil slNil mpNil nilE eqF negF posF binF pelF pvLoad pelSet pvStore boxLoad epLoad loadF boxStore storeF fieldAddrF fieldF epOf indexAddrF byteF indexF mapLen lenF cutF sliceF sliceN sliceX isSl slice3F fillF fillV arrFs buildF partsX landV buildSliceF roomB appVec appendF appMkF capF mmFrom mmF max2' min2' clearVec clearF convF unF pickF nilChkF extF ptrsOf callF makeSliceF sameKs sameD kindIs plainFs keyOk mapOb mapEs okV lookF lookupF putE putS mapPut mapUpdateF mapDel deleteF mapAll rangeM rangeF overV hitV nextO nextF entryM entryO entryF itOids builtinF capsOf allocF boxF bytesL bytesF byteTy strTy convertF makeFuncF mapNew makeMapF makeMapH opF reach reachOf AObj.live closedB nodupB packO packL packX backN backG backO obL backE frzX frzO AV.vids frzL landC sameObs landR touchF bitsW D.cells D.decEq D.decEqs AV.decEq AV.decEqs AObj.decEq AV.oids0 AV.oids AObj.oids renG renP AV.ren0 AV.ren envGet envPut envKeep obGet setEff putV St.put stepS keyChk chkD accD Ex.block AV.under AObj.under laysOf roomFor mkvO frzG szOk killO usedBy tidyS canL canS ghost ghostE normSt resOf allSome one0 resultsF finL finishL finish endF startEnv chkC backX comeC AV.flat0 rngC loopO layL endLp busyL idleL noRng rndSt rndEnd wpn_nil wpn_seq wpn_loop wpn_seq_exit wpn_loop_exit wpn_seq_ret wpn_loop_ret wpn_block wpn_post wpk_skip wpk_exit wpk_ret wpk_reg wpk_seq wpk_condT wpk_block wpk_loop wpk_pre wpk_post wop_nil wop_cons wop_guard St.know envSet cond_d cond_bool cond_int cond_str endE endQ freeB disj pushT bitsW int_beq int_bne eqS_def tbE fuelL_eq ann0_lays ann0_dd ann0_ro elsOf_dsl elsOf_dnils toNat_succ nn_succ pos_succ one_succ rng1 rng2 rng3 rng4 rng5 rng6 rng7 rng8 List.idxOf_cons wpk_rng rndK rndE
/-- What is wanted behind the samples. -/
def wOk4 (l : List Smp) (w : Int) : Prop := (w = 0 ∧ ∀ s ∈ l, s.ok) ∨ (w = 2 ∧ ∃ s ∈ l, ¬ s.ok)
set_option maxRecDepth 100000 in
set_option maxHeartbeats 16000000 in
theorem loop10_4 (B : D) (l : List Smp) (hB : elsOf (.d B) = some (l.map Smp.d)) (hl4 : l.length ≤ 4) (frm : Int) (n : Nat) (ML : List D) (ks : List Fr) (K : Ex → St → Prop)
    (hnext : ∀ w, wOk4 l w → wpn CC .norm ⟨[(1, .d (.int .i64 frm)), (2, .d B), (11, .ptr 0 0), (15, .d (.int .i64 w))], [.box [.vs 1 0 1035 0 n, .d (.int .i64 frm)], .vec 0 true false 91 1035 ML, .dead]⟩ ks K) :
    wlp CC (s10_4 0) ⟨[(1, .d (.int .i64 frm)), (2, .d B), (11, .ptr 0 0), (15, .d (.int .i64 0)), (16, .d (.int .i64 0))], [.box [.vs 1 0 1035 0 n, .d (.int .i64 frm)], .vec 0 true false 91 1035 ML, .dead]⟩ (.block 6 :: .post (.tidy [1, 2, 11, 15] 0 3) :: .post (.tidy [1, 2, 11, 15] 0 3) :: ks) K := by
  have hll : (l.map Smp.d).length = l.length := by simp
  have hg := fun j hj => smp_get l (j := j) hj
  generalize l.map Smp.d = E at *
  refine wlp_inv2 (S := fun p : Nat × Int => ⟨[(1, .d (.int .i64 frm)), (2, .d B), (11, .ptr 0 0), (15, .d (.int .i64 p.2)), (16, .d (.int .i64 p.1))], [.box [.vs 1 0 1035 0 n, .d (.int .i64 frm)], .vec 0 true false 91 1035 ML, .dead]⟩) (m := fun p => l.length - p.1) (Inv := fun p => p.1 ≤ l.length ∧ ((p.2 = 0 ∧ ∀ i (hi : i < l.length), i < p.1 → (l[i]).ok) ∨ (p.2 = 2 ∧ ∃ s ∈ l, ¬ s.ok))) ?_ (0, 0) ⟨Nat.zero_le _, .inl ⟨rfl, fun i hi h => absurd h (by simp)⟩⟩ rfl
  rintro ⟨i, w⟩ ⟨hi, hw⟩ ih
  rw [e10_4]
  simp only at hi hw ⊢
  by_cases hlt : i < l.length
  · have hx := hg i hlt
    have hEi : i < E.length := by omega
    have hEe := (List.getElem?_eq_some_iff.1 hx).2
    have w1 : IntKind.i64.wrap ((i : Int) + 1) = (i : Int) + 1 := wrap64 (by omega) (by omega)
    have p1 : (i : Int) < l.length := by omega
    by_cases hok : (l[i]).ok
    · have ih2 := ih (i + 1, w) ⟨by simp only; omega, by
        rcases hw with ⟨h, h2⟩ | h
        · refine .inl ⟨h, fun j hj hji => ?_⟩
          rcases Nat.lt_succ_iff_lt_or_eq.1 hji with h3 | h3
          · exact h2 j hj h3
          · subst h3; exact hok
        · exact .inr h⟩ (by simp only; omega)
      clear ih hg hw hnext
      generalize l[i] = y at *
      simp only [Smp.d] at hx hEe
      obtain ⟨o1, o2, o3, o4⟩ := hok
      have n1 : ¬ y.t < 0 := by omega
      have n2 : ¬ 1048576 < y.t := by omega
      have n3 : ¬ y.e < 0 := by omega
      have n4 : ¬ y.t < y.e := by omega
      try simp at ih2
      simp [c10_4, eqCells, T3, T4, T5, T9, T23, T25, T27, T32, T33, T35, T39, T50, T52, T57, T59, T64, T65, T66, T70, T71, T77, T81, T83, T88, T89, T91, T95, T97, T99, T100, T112, CT, hB, hll, hx, hEi, hEe, p1, w1, hlt, n1, n2, n3, n4]
      exact ih2
    · have ih2 := ih (i + 1, 2) ⟨by simp only; omega, .inr ⟨rfl, _, List.getElem_mem hlt, hok⟩⟩ (by simp only; omega)
      clear ih hg hw hnext
      generalize l[i] = y at *
      simp only [Smp.d] at hx hEe
      try simp at ih2
      by_cases n1 : y.t < 0
      · simp [c10_4, eqCells, T3, T4, T5, T9, T23, T25, T27, T32, T33, T35, T39, T50, T52, T57, T59, T64, T65, T66, T70, T71, T77, T81, T83, T88, T89, T91, T95, T97, T99, T100, T112, CT, hB, hll, hx, hEi, hEe, p1, w1, hlt, n1]
        exact ih2
      by_cases n2 : 1048576 < y.t
      · simp [c10_4, eqCells, T3, T4, T5, T9, T23, T25, T27, T32, T33, T35, T39, T50, T52, T57, T59, T64, T65, T66, T70, T71, T77, T81, T83, T88, T89, T91, T95, T97, T99, T100, T112, CT, hB, hll, hx, hEi, hEe, p1, w1, hlt, n1, n2]
        exact ih2
      by_cases n3 : y.e < 0
      · simp [c10_4, eqCells, T3, T4, T5, T9, T23, T25, T27, T32, T33, T35, T39, T50, T52, T57, T59, T64, T65, T66, T70, T71, T77, T81, T83, T88, T89, T91, T95, T97, T99, T100, T112, CT, hB, hll, hx, hEi, hEe, p1, w1, hlt, n1, n2, n3]
        exact ih2
      have n4 : y.t < y.e := by unfold Smp.ok at hok; omega
      simp [c10_4, eqCells, T3, T4, T5, T9, T23, T25, T27, T32, T33, T35, T39, T50, T52, T57, T59, T64, T65, T66, T70, T71, T77, T81, T83, T88, T89, T91, T95, T97, T99, T100, T112, CT, hB, hll, hx, hEi, hEe, p1, w1, hlt, n1, n2, n3, n4]
      exact ih2
  have hW : wOk4 l w := by
    rcases hw with ⟨rfl, h⟩ | h
    · refine .inl ⟨rfl, fun s hs => ?_⟩
      obtain ⟨j, hj, rfl⟩ := List.getElem_of_mem hs
      exact h j hj (by omega)
    · exact .inr h
  have hn2 := hnext w hW
  clear ih hg hw hnext
  have p1 : ¬ (i : Int) < l.length := by omega
  simp [c10_4, eqCells, T3, T4, T5, T9, T23, T25, T27, T32, T33, T35, T39, T50, T52, T57, T59, T64, T65, T66, T70, T71, T77, T81, T83, T88, T89, T91, T95, T97, T99, T100, T112, CT, hB, hll, p1]
  exact hn2
end Go.Proofs.YtpooehcjchkbkaaV
