/- top and least: the model's. -/
import Derived.Test.YtdhbecdlablonaaWc22r
set_option linter.unusedVariables false
set_option linter.unusedSimpArgs false
namespace Go.Proofs.YtdhbecdlablonaaV
open Go.RowKit
attribute [local simp] TK.agg constAV evalAV EK.has EK.hasAll vecEls elsR AV.toD toDs AV.cells AV.one joinD TyI.zeroD OpR.of binIntF binStrF AV.isPtr ptrNil slNil mpNil nilE eqF negF posF binF pelF pvLoad pelSet pvStore boxLoad epLoad loadF boxStore storeF fieldAddrF fieldF epOf indexAddrF byteF indexF mapLen lenF cutF sliceF sliceN sliceX isSl slice3F fillF fillV arrFs buildF partsX landV buildSliceF roomB appVec appendF appMkF capF mmFrom mmF max2' min2' clearVec clearF convF unF pickF nilChkF extF ptrsOf callF makeSliceF sameKs sameD kindIs plainFs keyOk mapOb mapEs okV lookF lookupF putE putS mapPut mapUpdateF mapDel deleteF mapAll rangeM rangeF overV hitV nextO nextF entryM entryO entryF itOids builtinF capsOf allocF boxF bytesL bytesF byteTy strTy convertF makeFuncF mapNew makeMapF makeMapH opF reach reachOf AObj.live closedB nodupB packO packL packX backN backG backO obL backE frzX frzO AV.vids frzL landC sameObs landR touchF bitsW D.cells D.decEq D.decEqs AV.decEq AV.decEqs AObj.decEq AV.oids0 AV.oids AObj.oids renG renP AV.ren0 AV.ren envGet envPut envKeep obGet setEff putV St.put stepS keyChk chkD accD Ex.block AV.under AObj.under laysOf roomFor mkvO frzG szOk killO usedBy tidyS canL canS ghost ghostE normSt resOf allSome one0 resultsF finL finishL finish endF startEnv chkC backX comeC AV.flat0 rngC loopO layL endLp busyL idleL noRng rndSt rndEnd wpn_nil wpn_seq wpn_loop wpn_seq_exit wpn_loop_exit wpn_seq_ret wpn_loop_ret wpn_block wpn_post wpk_skip wpk_exit wpk_ret wpk_reg wpk_seq wpk_condT wpk_block wpk_loop wpk_pre wpk_post wop_nil wop_cons wop_guard St.know envSet cond_d cond_bool cond_int cond_str endE endQ freeB disj pushT bitsW int_beq int_bne eqS_def tbE fuelL_eq ann0_lays ann0_dd ann0_ro elsOf_dsl elsOf_dnils toNat_succ nn_succ pos_succ one_succ rng1 rng2 rng3 rng4 rng5 rng6 rng7 rng8 List.idxOf_cons wpk_rng rndK rndE
def aheadL (c : Ctr) (l : List Ctr) : Prop := ∀ p ∈ l, tlt p c
theorem insT_pre (c : Ctr) (suf : List Ctr) : ∀ pre, aheadL c pre → insT c (pre ++ suf) = pre ++ insT c suf
  | [], _ => rfl
  | p :: pre, h => by
    have ih := insT_pre c suf pre fun q hq => h q (by simp [hq])
    simp only [List.cons_append, insT, if_pos (h p (by simp)), ih]
set_option maxRecDepth 100000 in
set_option maxHeartbeats 2000000 in
theorem loop35_2 (A O : D) (l out : List Ctr) (hl : l.length < 1000) (ho : out.length < 1000) (hA : elsOf (.d A) = some (csD l)) (hO : elsOf (.d O) = some (csD out)) (i : Nat) (c : Ctr) (hi : l[i]? = some c) (ks : List Fr) (K : Ex → St → Prop)
    (hnext : ∀ pre suf, pre ++ suf = out → aheadL c pre → (∀ p r, suf = p :: r → ¬ tlt p c) → wpn CC .norm ⟨[(0, .d A), (3, .d O), (4, .d (.int .i64 i)), (5, .d (.int .i64 pre.length))], []⟩ ks K) :
    wlp CC (s35_2 0) ⟨[(0, .d A), (3, .d O), (4, .d (.int .i64 i)), (5, .d (.int .i64 0))], []⟩ (.block 2 :: .post (.tidy [0, 3, 4, 5] 0 0) :: ks) K := by
  refine wlp_inv (S := fun p : List Ctr × List Ctr => ⟨[(0, .d A), (3, .d O), (4, .d (.int .i64 i)), (5, .d (.int .i64 p.1.length))], []⟩) (m := fun p => p.2.length) (Inv := fun p => p.1 ++ p.2 = out ∧ aheadL c p.1) ?_ ([], out) ⟨rfl, by simp [aheadL]⟩
  rintro ⟨pre, suf⟩ ⟨hp, h2⟩ ih
  rw [e35_2]
  simp only at hp h2 ⊢
  have hnext := hnext pre suf hp h2
  obtain ⟨i1, i2, i3⟩ := atN cE hi (by omega)
  have ig := getL hi i1
  simp only [cE] at i3
  cases suf with
  | nil =>
    have hn := endL hp
    have hnext := hnext (by simp)
    simp [c35_2, eqCells, T3, T4, T5, T9, T22, T25, T26, T28, T29, T36, T41, T47, T69, T74, T78, T85, T90, T98, T104, CT, hO, hn]
    exact hnext
  | cons p suf =>
    obtain ⟨k1, k2, k3, k4, k5, k6⟩ := atL cE hp (by omega)
    have kg := getL k5 k4
    simp only [cE] at k3
    by_cases ht : tlt p c
    · have ih := ih (pre ++ [p], suf) ⟨by simpa using hp, fun q hq => by
        rcases List.mem_append.1 hq with hq | hq
        · exact h2 q hq
        · simp at hq; subst hq; exact ht⟩ (by simp)
      simp at ih
      unfold tlt at ht
      by_cases h1 : c.2 < p.2
      · simp [c35_2, eqCells, T3, T4, T5, T9, T22, T25, T26, T28, T29, T36, T41, T47, T69, T74, T78, T85, T90, T98, T104, CT, hA, hO, i1, i2, i3, ig, k2, k3, k4, k5, kg, h1, cE]
        exact ih
      · obtain ⟨h3, h4⟩ := ht.resolve_left h1
        rw [h3] at k3
        have kg2 : out[pre.length] = (p.1, c.2) := by rw [kg, ← h3]
        simp [c35_2, eqCells, T3, T4, T5, T9, T22, T25, T26, T28, T29, T36, T41, T47, T69, T74, T78, T85, T90, T98, T104, CT, hA, hO, i1, i2, i3, ig, k2, k3, k4, k5, kg2, h4, cE]
        exact ih
    · have hnext := hnext (by rintro q r h; injection h with h; subst h; exact ht)
      unfold tlt at ht
      have h1 : ¬ c.2 < p.2 := fun h => ht (.inl h)
      by_cases h3 : p.2 = c.2
      · have h4 : lessS p.1 c.1 = false := by
          cases h : lessS p.1 c.1 with
          | false => rfl
          | true => exact absurd (.inr ⟨h3, h⟩) ht
        rw [h3] at k3
        have kg2 : out[pre.length] = (p.1, c.2) := by rw [kg, ← h3]
        simp [c35_2, eqCells, T3, T4, T5, T9, T22, T25, T26, T28, T29, T36, T41, T47, T69, T74, T78, T85, T90, T98, T104, CT, hA, hO, i1, i2, i3, ig, k2, k3, k4, k5, kg2, h4, cE]
        exact hnext
      · simp [c35_2, eqCells, T3, T4, T5, T9, T22, T25, T26, T28, T29, T36, T41, T47, T69, T74, T78, T85, T90, T98, T104, CT, hA, hO, i1, i2, i3, ig, k2, k3, k4, k5, kg, h1, h3, cE]
        exact hnext
theorem topR_len : ∀ (l out : List Ctr), (topR out l).length = out.length + l.length
  | [], out => by simp [topR]
  | c :: l, out => by
    have h1 := topR_len l (insT c out)
    have h2 := (insT_perm c out).length_eq
    simp only [topR, List.length_cons] at *; omega
set_option maxRecDepth 100000 in
set_option maxHeartbeats 4000000 in
theorem top_run (A : D) (l : List Ctr) (hl : l.length < 500) (hA : elsOf (.d A) = some (csD l)) : ∃ X, elsOf (.d X) = some (csD (topC l)) ∧ run CC 35 [.d A] [] = some (.d X, []) := by
  refine ⟨if l = [] then .nils else .sl (csD (topC l)), ?_, ?_⟩
  · split
    · rename_i h; subst h; rfl
    · rfl
  refine run_code (s := s35 0) rfl rfl rfl (by kernel_rfl) ?_
  simp [s35, eqCells, T3, T4, T5, T9, T22, T25, T26, T28, T29, T36, T41, T47, T69, T74, T78, T85, T90, T98, T104, CT]
  refine wlp_inv (S := fun p : List Ctr × List Ctr × List Ctr => ⟨[(0, .d A), (3, .d (if p.1 = [] then .nils else .sl (csD p.2.2))), (4, .d (.int .i64 p.1.length))], []⟩) (m := fun p => p.2.1.length) (Inv := fun p => p.1 ++ p.2.1 = l ∧ topR p.2.2 p.2.1 = topC l ∧ p.2.2.length = p.1.length) ?_ ([], l, []) ⟨rfl, rfl, rfl⟩
  rintro ⟨pre, suf, out⟩ ⟨hp, hm, hol⟩ ih
  rw [e35_1]
  simp only at hp hm hol ⊢
  have hO : elsOf (.d (if pre = [] then .nils else .sl (csD out))) = some (csD out) := by
    split
    · rename_i h; subst h
      have : out = [] := List.length_eq_zero_iff.1 (by simpa using hol)
      rw [this]; rfl
    · rfl
  cases suf with
  | nil =>
    have hn := endL hp
    rw [List.append_nil] at hp
    simp only [topR] at hm
    rw [hm, hp] at hO ⊢
    generalize (if l = [] then D.nils else D.sl (csD (topC l))) = O at *
    obtain ⟨o1, o2, o3⟩ := slF hO
    simp only [AV.one, AV.cells, D.cells] at o1 o2 o3
    simp [c35_1, eqCells, T3, T4, T5, T9, T22, T25, T26, T28, T29, T36, T41, T47, T69, T74, T78, T85, T90, T98, T104, CT, hA, hn, o1, o2, o3]
  | cons c suf =>
    obtain ⟨k1, k2, k3, k4, k5, k6⟩ := atL cE hp (by omega)
    have kg := getL k5 k4
    simp only [cE] at k3
    have hne : pre ++ [c] ≠ [] := by simp
    have hil := (insT_perm c out).length_eq
    have ih := ih (pre ++ [c], suf, insT c out) ⟨by simpa using hp, by simpa [topR] using hm, by simp; simpa [hol] using hil⟩ (by simp)
    simp at ih
    generalize (if pre = [] then D.nils else D.sl (csD out)) = O at *
    simp [c35_1, eqCells, T3, T4, T5, T9, T22, T25, T26, T28, T29, T36, T41, T47, T69, T74, T78, T85, T90, T98, T104, CT, hA, k4]
    refine loop35_2 A O l out (by omega) (by omega) hA hO pre.length c k5 _ _ fun p2 s2 hps h1 h2 => ?_
    have hins : insT c out = p2 ++ c :: s2 := by
      rw [← hps, insT_pre c s2 p2 h1]
      congr 1
      cases s2 with
      | nil => rfl
      | cons q r => rw [insT, if_neg (h2 q r rfl)]
    rw [hins] at ih
    have ht : (csD out).take p2.length = csD p2 := by rw [← hps]; simp [csD]
    have hd : (csD out).drop p2.length = csD s2 := by rw [← hps]; simp [csD]
    have z1 := szAll_map cE 2 cE_cells out
    have z6 : (csD out).take out.length = csD out := List.take_of_length_le (by simp)
    have s0 : szAll 2 [] = true := rfl
    have s1 : szAll 2 [D.agg [.str c.1, .int .i64 c.2]] = true := rfl
    have sz2 := szAll_map cE 2 cE_cells s2
    have sz3 := szAll_map cE 2 cE_cells p2
    have s4 : szAll 2 (D.agg [.str c.1, .int .i64 c.2] :: csD s2) = true := by rw [szAll_iff] at sz2 ⊢; intro y hy; exact (List.mem_cons.1 hy).elim (fun h => h ▸ rfl) (sz2 y)
    have hlen : out.length = p2.length + s2.length := by rw [← hps]; simp
    have hol5 : out.length ≤ 500 := by have := congrArg List.length hp; simp at this; omega
    have hpl : (p2.length : Int) ≤ out.length := by omega
    have tk2 : (D.agg [.str c.1, .int .i64 c.2] :: csD s2).take (s2.length + 1) = D.agg [.str c.1, .int .i64 c.2] :: csD s2 := List.take_of_length_le (by simp)
    have n0 : p2.length ≤ out.length := by omega
    have n1 : 1 + (out.length - p2.length) = s2.length + 1 := by omega
    have n2 : out.length - p2.length = s2.length := by omega
    have q1 : (1 + s2.length) * 24 ≤ 140737488355328 := by omega
    have q2 : 1 + s2.length ≤ 9223372036854775807 := by omega
    have q3 : (p2.length + (1 + s2.length)) * 24 ≤ 140737488355328 := by omega
    have q4 : p2.length + (1 + s2.length) ≤ 9223372036854775807 := by omega
    have tk3 : (D.agg [.str c.1, .int .i64 c.2] :: csD s2).take (1 + s2.length) = D.agg [.str c.1, .int .i64 c.2] :: csD s2 := List.take_of_length_le (by simp; omega)
    have r1 : (s2.length + 1) * 24 ≤ 140737488355328 := by omega
    have r2 : s2.length + 1 ≤ 9223372036854775807 := by omega
    have r3 : (p2.length + (s2.length + 1)) * 24 ≤ 140737488355328 := by omega
    have r4 : p2.length + (s2.length + 1) ≤ 9223372036854775807 := by omega
    simp [cE] at ih
    simp [eqCells, T3, T4, T5, T9, T22, T25, T26, T28, T29, T36, T41, T47, T69, T74, T78, T85, T90, T98, T104, CT, hA, hO, k2, k3, k4, k5, kg, s1, z1, z6, ht, hd, sz2, sz3, s4, tk2, n0, n1, n2, r1, r2, r3, r4, q1, q2, q3, q4, tk3, cE]
    exact ih
end Go.Proofs.YtdhbecdlablonaaV
