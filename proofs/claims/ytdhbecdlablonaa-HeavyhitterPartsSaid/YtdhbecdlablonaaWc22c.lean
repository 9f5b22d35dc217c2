/- less, same, equal. -/
import Derived.Test.YtdhbecdlablonaaWc22b
set_option linter.unusedVariables false
set_option linter.unusedSimpArgs false
namespace Go.Proofs.YtdhbecdlablonaaV
open Go.RowKit
attribute [local simp] TK.agg constAV evalAV EK.has EK.hasAll vecEls elsR AV.toD toDs AV.cells AV.one joinD TyI.zeroD OpR.of binIntF binStrF AV.isPtr ptrNil slNil mpNil nilE eqF negF posF binF pelF pvLoad pelSet pvStore boxLoad epLoad loadF boxStore storeF fieldAddrF fieldF epOf indexAddrF byteF indexF mapLen lenF cutF sliceF sliceN sliceX isSl slice3F fillF fillV arrFs buildF partsX landV buildSliceF roomB appVec appendF appMkF capF mmFrom mmF max2' min2' clearVec clearF convF unF pickF nilChkF extF ptrsOf callF makeSliceF sameKs sameD kindIs plainFs keyOk mapOb mapEs okV lookF lookupF putE putS mapPut mapUpdateF mapDel deleteF mapAll rangeM rangeF overV hitV nextO nextF entryM entryO entryF itOids builtinF capsOf allocF boxF bytesL bytesF byteTy strTy convertF makeFuncF mapNew makeMapF makeMapH opF reach reachOf AObj.live closedB nodupB packO packL packX backN backG backO obL backE frzX frzO AV.vids frzL landC sameObs landR touchF bitsW D.cells D.decEq D.decEqs AV.decEq AV.decEqs AObj.decEq AV.oids0 AV.oids AObj.oids renG renP AV.ren0 AV.ren envGet envPut envKeep obGet setEff putV St.put stepS keyChk chkD accD Ex.block AV.under AObj.under laysOf roomFor mkvO frzG szOk killO usedBy tidyS canL canS ghost ghostE normSt resOf allSome one0 resultsF finL finishL finish endF startEnv chkC backX comeC AV.flat0 rngC loopO layL endLp busyL idleL noRng rndSt rndEnd wpn_nil wpn_seq wpn_loop wpn_seq_exit wpn_loop_exit wpn_seq_ret wpn_loop_ret wpn_block wpn_post wpk_skip wpk_exit wpk_ret wpk_reg wpk_seq wpk_condT wpk_block wpk_loop wpk_pre wpk_post wop_nil wop_cons wop_guard St.know envSet cond_d cond_bool cond_int cond_str endE endQ freeB disj pushT bitsW int_beq int_bne eqS_def tbE fuelL_eq ann0_lays ann0_dd ann0_ro elsOf_dsl elsOf_dnils toNat_succ nn_succ pos_succ one_succ rng1 rng2 rng3 rng4 rng5 rng6 rng7 rng8 List.idxOf_cons wpk_rng rndK rndE
def lessC (d : Int) : List Ctr → List Ctr
  | [] => []
  | p :: l => if d < p.2 then (p.1, IntKind.i64.wrap (p.2 - d)) :: lessC d l else lessC d l
theorem lessC_len (d : Int) : ∀ l, (lessC d l).length ≤ l.length
  | [] => Nat.le_refl _
  | p :: l => by have := lessC_len d l; simp only [lessC, List.length_cons]; split <;> (try simp only [List.length_cons]) <;> omega
theorem lessC_app (d : Int) (c : Ctr) : ∀ l, lessC d (l ++ [c]) = lessC d l ++ if d < c.2 then [(c.1, IntKind.i64.wrap (c.2 - d))] else []
  | [] => by simp [lessC]
  | p :: l => by
    have := lessC_app d c l
    simp only [List.cons_append, lessC, this]
    split <;> rfl
set_option maxRecDepth 100000 in
set_option maxHeartbeats 1000000 in
theorem less_run (A : D) (l : List Ctr) (hl : l.length < 1000) (hA : elsOf (.d A) = some (csD l)) (d : Int) : run CC 45 [.d A, .d (.int .i64 d)] [] = some (.d (.sl (csD (lessC d l))), []) := by
  refine run_code (s := s45 0) rfl rfl rfl (by kernel_rfl) ?_
  simp [s45, eqCells, T3, T4, T5, T9, T22, T25, T26, T28, T29, T36, T41, T47, T69, T74, T78, T85, T90, T98, T104, CT]
  refine wlp_inv (S := fun p : List Ctr × List Ctr => ⟨[(0, .d A), (1, .d (.int .i64 d)), (5, .vs 0 0 2 0 (lessC d p.1).length), (6, .d (.int .i64 p.1.length))], [.vec 0 true false 25 2 (csD (lessC d p.1))]⟩) (m := fun p => p.2.length) (Inv := fun p => p.1 ++ p.2 = l) ?_ ([], l) rfl
  rintro ⟨pre, suf⟩ hp ih
  rw [e45_1]
  simp only at hp ⊢
  have hlen : l.length = pre.length + suf.length := by rw [← hp]; simp
  have hle := lessC_len d pre
  have htk : (csD (lessC d pre)).take (lessC d pre).length = csD (lessC d pre) := List.take_of_length_le (by simp)
  cases suf with
  | nil =>
    have hn := endL hp
    rw [List.append_nil] at hp
    subst hp
    simp [c45_1, eqCells, T3, T4, T5, T9, T22, T25, T26, T28, T29, T36, T41, T47, T69, T74, T78, T85, T90, T98, T104, CT, hA, hn, htk]
  | cons c suf =>
    obtain ⟨k1, k2, k3, k4, k5, k6⟩ := atL cE hp (by omega)
    have kg := getL k5 k4
    simp only [cE] at k3
    have ih := ih (pre ++ [c], suf) (by simpa using hp) (by simp)
    simp only [lessC_app] at ih
    by_cases he : d < c.2
    · have s1 : szAll 2 [D.agg [.str c.1, .int .i64 (IntKind.i64.wrap (c.2 - d))]] = true := rfl
      have r1 : ((lessC d pre).length + 1) * 24 ≤ 140737488355328 := by omega
      have r2 : (lessC d pre).length + 1 ≤ 9223372036854775807 := by omega
      have r3 : (lessC d pre).length ≤ 9223372036854775806 := by omega
      simp [he, cE] at ih
      generalize lessC d pre = P at *
      simp [c45_1, eqCells, T3, T4, T5, T9, T22, T25, T26, T28, T29, T36, T41, T47, T69, T74, T78, T85, T90, T98, T104, CT, hA, k2, k3, k4, k5, kg, he, cE, s1, htk, r1, r2, r3]
      exact ih
    · simp [he] at ih
      simp [c45_1, eqCells, T3, T4, T5, T9, T22, T25, T26, T28, T29, T36, T41, T47, T69, T74, T78, T85, T90, T98, T104, CT, hA, k2, k3, k4, k5, kg, he, cE, htk]
      exact ih
theorem cE_inj : ∀ {a b : Ctr}, cE a = cE b → a = b := by
  rintro ⟨a, x⟩ ⟨b, y⟩ h
  simp only [cE] at h
  injection h with h; injection h with h1 h; injection h with h2
  injection h1 with h1; injection h2 with _ h2
  rw [h1, h2]
def sameC : List Ctr → List Ctr → Bool
  | [], [] => true
  | p :: a, q :: b => (eqS p.1 q.1 && decide (p.2 = q.2)) && sameC a b
  | _, _ => false
theorem sameC_iff : ∀ a b : List Ctr, sameC a b = true ↔ a = b
  | [], [] => by simp [sameC]
  | [], _ :: _ => by simp [sameC]
  | _ :: _, [] => by simp [sameC]
  | (k, n) :: a, (q, m) :: b => by
    simp only [sameC, Bool.and_eq_true, eqS_iff, decide_eq_true_eq, sameC_iff a b, List.cons.injEq, Prod.mk.injEq]
set_option maxRecDepth 100000 in
set_option maxHeartbeats 1000000 in
theorem same_run (A B : D) (a b : List Ctr) (ha : a.length < 1000) (hA : elsOf (.d A) = some (csD a)) (hB : elsOf (.d B) = some (csD b)) : run CC 32 [.d A, .d B] [] = some (.d (.bool (decide (a = b))), []) := by
  refine run_code (s := s32 0) rfl rfl rfl (by kernel_rfl) ?_
  by_cases hl : a.length = b.length
  · simp [s32, eqCells, T3, T4, T5, T9, T22, T25, T26, T28, T29, T36, T41, T47, T69, T74, T78, T85, T90, T98, T104, CT, hA, hB, hl]
    refine wlp_inv (S := fun p : List Ctr × List Ctr × List Ctr × List Ctr => ⟨[(0, .d A), (1, .d B), (5, .d (.int .i64 p.1.length))], []⟩) (m := fun p => p.2.1.length) (Inv := fun p => p.1 ++ p.2.1 = a ∧ p.2.2.1 ++ p.2.2.2 = b ∧ p.1 = p.2.2.1) ?_ ([], a, [], b) ⟨rfl, rfl, rfl⟩
    rintro ⟨pre, suf, pre2, suf2⟩ ⟨hp, hp2, hpp⟩ ih
    rw [e32_1]
    simp only at hp hp2 hpp ⊢
    subst hpp
    cases suf with
    | nil =>
      have hn := endL hp
      have hs2 : suf2 = [] := by
        have h2 : b.length = pre.length + suf2.length := by rw [← hp2]; simp
        exact List.length_eq_zero_iff.1 (by omega)
      subst hs2
      have hab : a = b := by rw [← hp, ← hp2]
      rw [decide_eq_true hab]
      simp [c32_1, eqCells, T3, T4, T5, T9, T22, T25, T26, T28, T29, T36, T41, T47, T69, T74, T78, T85, T90, T98, T104, CT, hA, hn]
    | cons c suf =>
      obtain ⟨k1, k2, k3, k4, k5, k6⟩ := atL cE hp (by omega)
      have kg := getL k5 k4
      cases suf2 with
      | nil => exfalso; rw [← hp, ← hp2] at hl; simp at hl
      | cons q suf2 =>
        obtain ⟨j1, j2, j3, j4, j5, j6⟩ := atL cE hp2 (by omega)
        have jg := getL j5 j4
        simp only [cE] at k3 j3
        by_cases he : c = q
        · subst he
          have ih := ih (pre ++ [c], suf, pre ++ [c], suf2) ⟨by simpa using hp, by simpa using hp2, rfl⟩ (by simp)
          simp at ih
          simp [c32_1, eqCells, T3, T4, T5, T9, T22, T25, T26, T28, T29, T36, T41, T47, T69, T74, T78, T85, T90, T98, T104, CT, CQ, QQ, hA, hB, k2, k3, k4, k5, kg, j3, j4, j5, jg, cE, eqS_self]
          exact ih
        · have hab : a ≠ b := by
            intro h; rw [← hp, ← hp2] at h; simp at h; exact he h.1
          have hq : ¬ (eqS c.1 q.1 = true ∧ c.2 = q.2) := by
            rintro ⟨h1, h2⟩; exact he (Prod.ext ((eqS_iff _ _).1 h1) h2)
          have hq : (eqS c.1 q.1 && decide (c.2 = q.2)) = false := by
            cases h1 : eqS c.1 q.1 with
            | false => rfl
            | true => simp; exact fun h2 => hq ⟨h1, h2⟩
          rw [decide_eq_false hab]
          simp [c32_1, eqCells, T3, T4, T5, T9, T22, T25, T26, T28, T29, T36, T41, T47, T69, T74, T78, T85, T90, T98, T104, CT, CQ, QQ, hA, hB, k2, k3, k4, k5, kg, j3, j4, j5, jg, cE]
          simp at hq
          intro h1 h2; exact absurd h2 (hq h1)
  · have hab : a ≠ b := fun h => hl (by rw [h])
    have hl2 : ¬ (a.length : Int) = b.length := fun h => hl (Int.ofNat.inj h)
    simp [s32, eqCells, T3, T4, T5, T9, T22, T25, T26, T28, T29, T36, T41, T47, T69, T74, T78, T85, T90, T98, T104, CT, hA, hB, hab, hl2]
structure Sm where
  (most tot lost : Int)
  cs : List Ctr
deriving DecidableEq
def smD (s : Sm) (X : D) : D := .agg [.int .i64 s.most, .int .i64 s.tot, .int .i64 s.lost, X]
set_option maxRecDepth 100000 in
theorem equal_run (s t : Sm) (X Y : D) (hs : s.cs.length < 1000) (hX : elsOf (.d X) = some (csD s.cs)) (hY : elsOf (.d Y) = some (csD t.cs)) : run CC 16 [.d (smD s X), .d (smD t Y)] [] = some (.d (.bool (decide (s = t))), []) := by
  refine run_code (s := s16 0) rfl rfl rfl (by kernel_rfl) ?_
  have hr := same_run X Y s.cs t.cs hs hX hY
  obtain ⟨a1, a2, a3⟩ := slF hX
  simp only [AV.one, AV.cells, D.cells] at a1 a2 a3
  obtain ⟨b1, b2, b3⟩ := slF hY
  simp only [AV.one, AV.cells, D.cells] at b1 b2 b3
  obtain ⟨m, t1, l1, cs⟩ := s
  obtain ⟨m2, t2, l2, cs2⟩ := t
  simp only at hr
  simp [s16, smD, eqCells, T3, T4, T5, T9, T22, T25, T26, T28, T29, T36, T41, T47, T69, T74, T78, T85, T90, T98, T104, CT, a1, a2, a3, b1, b2, b3, hr]
  by_cases h1 : m = m2 <;> by_cases h2 : t1 = t2 <;> by_cases h3 : l1 = l2 <;> simp [h1, h2, h3]
end Go.Proofs.YtdhbecdlablonaaV
