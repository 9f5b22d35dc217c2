/- Counters in order: count, put, less, same. -/
import Derived.Test.YtdhbecdlablonaaWc22a
set_option linter.unusedVariables false
set_option linter.unusedSimpArgs false
namespace Go.Proofs.YtdhbecdlablonaaV
open Go.RowKit
attribute [local simp] TK.agg constAV evalAV EK.has EK.hasAll vecEls elsR AV.toD toDs AV.cells AV.one joinD TyI.zeroD OpR.of binIntF binStrF AV.isPtr ptrNil slNil mpNil nilE eqF negF posF binF pelF pvLoad pelSet pvStore boxLoad epLoad loadF boxStore storeF fieldAddrF fieldF epOf indexAddrF byteF indexF mapLen lenF cutF sliceF sliceN sliceX isSl slice3F fillF fillV arrFs buildF partsX landV buildSliceF roomB appVec appendF appMkF capF mmFrom mmF max2' min2' clearVec clearF convF unF pickF nilChkF extF ptrsOf callF makeSliceF sameKs sameD kindIs plainFs keyOk mapOb mapEs okV lookF lookupF putE putS mapPut mapUpdateF mapDel deleteF mapAll rangeM rangeF overV hitV nextO nextF entryM entryO entryF itOids builtinF capsOf allocF boxF bytesL bytesF byteTy strTy convertF makeFuncF mapNew makeMapF makeMapH opF reach reachOf AObj.live closedB nodupB packO packL packX backN backG backO obL backE frzX frzO AV.vids frzL landC sameObs landR touchF bitsW D.cells D.decEq D.decEqs AV.decEq AV.decEqs AObj.decEq AV.oids0 AV.oids AObj.oids renG renP AV.ren0 AV.ren envGet envPut envKeep obGet setEff putV St.put stepS keyChk chkD accD Ex.block AV.under AObj.under laysOf roomFor mkvO frzG szOk killO usedBy tidyS canL canS ghost ghostE normSt resOf allSome one0 resultsF finL finishL finish endF startEnv chkC backX comeC AV.flat0 rngC loopO layL endLp busyL idleL noRng rndSt rndEnd wpn_nil wpn_seq wpn_loop wpn_seq_exit wpn_loop_exit wpn_seq_ret wpn_loop_ret wpn_block wpn_post wpk_skip wpk_exit wpk_ret wpk_reg wpk_seq wpk_condT wpk_block wpk_loop wpk_pre wpk_post wop_nil wop_cons wop_guard St.know envSet cond_d cond_bool cond_int cond_str endE endQ freeB disj pushT bitsW int_beq int_bne eqS_def tbE fuelL_eq ann0_lays ann0_dd ann0_ro elsOf_dsl elsOf_dnils toNat_succ nn_succ pos_succ one_succ rng1 rng2 rng3 rng4 rng5 rng6 rng7 rng8 List.idxOf_cons wpk_rng rndK rndE
abbrev Ctr := ByteArray × Int
def cE (p : Ctr) : D := .agg [.str p.1, .int .i64 p.2]
abbrev csD (l : List Ctr) : List D := l.map cE
theorem cE_cells (p : Ctr) : (cE p).cells.length = 2 := rfl
def cntC (k : ByteArray) : List Ctr → Int
  | [] => 0
  | p :: l => if eqS p.1 k = true then p.2 else cntC k l
theorem count_run (A : D) (l : List Ctr) (hl : l.length < 1000) (hA : elsOf (.d A) = some (csD l)) (k : ByteArray) : run CC 25 [.d A, .d (.str k)] [] = some (.d (.int .i64 (cntC k l)), []) := by
  refine run_code (s := s25 0) rfl rfl rfl (by kernel_rfl) ?_
  simp [s25, eqCells, T3, T4, T5, T9, T22, T25, T26, T28, T29, T36, T41, T47, T69, T74, T78, T85, T90, T98, T104, CT]
  refine wlp_inv (S := fun p : List Ctr × List Ctr => ⟨[(0, .d A), (1, .d (.str k)), (5, .d (.int .i64 p.1.length))], []⟩) (m := fun p => p.2.length) (Inv := fun p => p.1 ++ p.2 = l ∧ cntC k p.2 = cntC k l) ?_ ([], l) ⟨rfl, rfl⟩
  rintro ⟨pre, suf⟩ ⟨hp, h2⟩ ih
  rw [e25_1]
  simp only at hp h2 ⊢
  cases suf with
  | nil =>
    have hn := endL hp
    simp [c25_1, eqCells, T3, T4, T5, T9, T22, T25, T26, T28, T29, T36, T41, T47, T69, T74, T78, T85, T90, T98, T104, CT, hA, hn, ← h2, cntC]
  | cons c suf =>
    obtain ⟨k1, k2, k3, k4, k5, k6⟩ := atL cE hp (by omega)
    have kg := getL k5 k4
    simp only [cE] at k3
    have ih := ih (pre ++ [c], suf)
    by_cases he : eqS c.1 k = true
    · simp [cntC, he] at h2
      simp [c25_1, eqCells, T3, T4, T5, T9, T22, T25, T26, T28, T29, T36, T41, T47, T69, T74, T78, T85, T90, T98, T104, CT, hA, k2, k3, k4, k5, kg, he, cE, h2]
    · simp [cntC, he] at h2
      have ih := ih ⟨by simpa using hp, h2⟩ (by simp)
      simp at ih
      simp [c25_1, eqCells, T3, T4, T5, T9, T22, T25, T26, T28, T29, T36, T41, T47, T69, T74, T78, T85, T90, T98, T104, CT, hA, k2, k3, k4, k5, kg, he, cE]
      exact ih
def lessAll (k : ByteArray) (l : List Ctr) : Prop := ∀ p ∈ l, lessS p.1 k = true
def putC (k : ByteArray) (n : Int) : List Ctr → List Ctr
  | [] => [(k, n)]
  | p :: l => if lessS p.1 k = true then p :: putC k n l else if eqS p.1 k = true then (p.1, IntKind.i64.wrap (p.2 + n)) :: l else (k, n) :: p :: l
theorem putC_pre (k : ByteArray) (n : Int) (suf : List Ctr) : ∀ pre, lessAll k pre → putC k n (pre ++ suf) = pre ++ putC k n suf
  | [], _ => rfl
  | p :: pre, h => by
    simp [putC, h p (by simp), putC_pre k n suf pre fun q hq => h q (by simp [hq])]
set_option maxRecDepth 100000 in
theorem loop44_1 (A : D) (l : List Ctr) (hl : l.length < 1000) (hA : elsOf (.d A) = some (csD l)) (k : ByteArray) (n : Int) (ks : List Fr) (K : Ex → St → Prop)
    (hnext : ∀ pre suf, pre ++ suf = l → lessAll k pre → (∀ p r, suf = p :: r → lessS p.1 k = false) → wpn CC .norm ⟨[(0, .d A), (1, .d (.str k)), (2, .d (.int .i64 n)), (7, .d (.int .i64 pre.length))], []⟩ ks K) :
    wlp CC (s44_1 0) ⟨[(0, .d A), (1, .d (.str k)), (2, .d (.int .i64 n)), (7, .d (.int .i64 0))], []⟩ (.block 0 :: .post (.tidy [0, 1, 2, 7] 0 0) :: ks) K := by
  refine wlp_inv (S := fun p : List Ctr × List Ctr => ⟨[(0, .d A), (1, .d (.str k)), (2, .d (.int .i64 n)), (7, .d (.int .i64 p.1.length))], []⟩) (m := fun p => p.2.length) (Inv := fun p => p.1 ++ p.2 = l ∧ lessAll k p.1) ?_ ([], l) ⟨rfl, by simp [lessAll]⟩
  rintro ⟨pre, suf⟩ ⟨hp, h2⟩ ih
  rw [e44_1]
  simp only at hp h2 ⊢
  have hnext := hnext pre suf hp h2
  cases suf with
  | nil =>
    have hn := endL hp
    have hnext := hnext (by simp)
    simp [c44_1, eqCells, T3, T4, T5, T9, T22, T25, T26, T28, T29, T36, T41, T47, T69, T74, T78, T85, T90, T98, T104, CT, hA, hn]
    exact hnext
  | cons c suf =>
    obtain ⟨k1, k2, k3, k4, k5, k6⟩ := atL cE hp (by omega)
    have kg := getL k5 k4
    simp only [cE] at k3
    cases hc : lessS c.1 k with
    | true =>
      have ih := ih (pre ++ [c], suf) ⟨by simpa using hp, fun q hq => by
        rcases List.mem_append.1 hq with hq | hq
        · exact h2 q hq
        · simp at hq; subst hq; exact hc⟩ (by simp)
      simp at ih
      simp [c44_1, eqCells, T3, T4, T5, T9, T22, T25, T26, T28, T29, T36, T41, T47, T69, T74, T78, T85, T90, T98, T104, CT, hA, k2, k3, k4, k5, kg, hc, cE]
      exact ih
    | false =>
      have hnext := hnext (by rintro p r h; injection h with h; subst h; exact hc)
      simp [c44_1, eqCells, T3, T4, T5, T9, T22, T25, T26, T28, T29, T36, T41, T47, T69, T74, T78, T85, T90, T98, T104, CT, hA, k2, k3, k4, k5, kg, hc, cE]
      exact hnext
set_option maxRecDepth 100000 in
set_option maxHeartbeats 1000000 in
theorem put_run (A : D) (l : List Ctr) (hl : l.length < 1000) (hA : elsOf (.d A) = some (csD l)) (k : ByteArray) (n : Int) : run CC 44 [.d A, .d (.str k), .d (.int .i64 n)] [] = some (.d (.sl (csD (putC k n l))), []) := by
  refine run_code (s := s44 0) rfl rfl rfl (by kernel_rfl) ?_
  simp [s44, eqCells, T3, T4, T5, T9, T22, T25, T26, T28, T29, T36, T41, T47, T69, T74, T78, T85, T90, T98, T104, CT]
  refine loop44_1 A l hl hA k n _ _ fun pre suf hp h1 h2 => ?_
  have hpc := putC_pre k n suf pre h1
  rw [hp] at hpc
  rw [hpc]
  have hs := szAll_map cE 2 cE_cells l
  obtain ⟨⟨z1, z2, z3, z4⟩, z5, ⟨z6, z7, z8, z9⟩, ⟨z10, z11, z12⟩, ⟨z13, z14, z15⟩, z16, z17⟩ := insM cE 2 cE_cells l (cE (k, n)) rfl pre.length (by rw [← hp]; simp) 24 (by omega) (by omega)
  have ht : (csD l).take pre.length = csD pre := by rw [← hp]; simp [csD]
  have hd : (csD l).drop pre.length = csD suf := by rw [← hp]; simp [csD]
  have s0 : szAll 2 [] = true := rfl
  have s1 : szAll 2 [D.agg [.str k, .int .i64 n]] = true := rfl
  have s2 := szAll_map cE 2 cE_cells suf
  have s3 := szAll_map cE 2 cE_cells pre
  simp only [cE] at z9
  rw [ht, hd] at z9
  have s4 : szAll 2 (D.agg [.str k, .int .i64 n] :: csD suf) = true := by rw [szAll_iff] at s2 ⊢; intro y hy; exact (List.mem_cons.1 hy).elim (fun h => h ▸ rfl) (s2 y)
  have hlen : l.length = pre.length + suf.length := by rw [← hp]; simp
  have hpl : (pre.length : Int) ≤ l.length := by omega
  have tk2 : (D.agg [.str k, .int .i64 n] :: csD suf).take (suf.length + 1) = D.agg [.str k, .int .i64 n] :: csD suf := List.take_of_length_le (by simp)
  have n0 : pre.length ≤ l.length := by omega
  have n1 : 1 + (l.length - pre.length) = suf.length + 1 := by omega
  have n2 : l.length - pre.length = suf.length := by omega
  have q1 : (1 + suf.length) * 24 ≤ 140737488355328 := by omega
  have q2 : 1 + suf.length ≤ 9223372036854775807 := by omega
  have q3 : (pre.length + (1 + suf.length)) * 24 ≤ 140737488355328 := by omega
  have q4 : pre.length + (1 + suf.length) ≤ 9223372036854775807 := by omega
  have tk3 : (D.agg [.str k, .int .i64 n] :: csD suf).take (1 + suf.length) = D.agg [.str k, .int .i64 n] :: csD suf := List.take_of_length_le (by simp; omega)
  have r1 : (suf.length + 1) * 24 ≤ 140737488355328 := by omega
  have r2 : suf.length + 1 ≤ 9223372036854775807 := by omega
  have r3 : (pre.length + (suf.length + 1)) * 24 ≤ 140737488355328 := by omega
  have r4 : pre.length + (suf.length + 1) ≤ 9223372036854775807 := by omega
  rcases Classical.em (∃ c r, suf = c :: r ∧ eqS c.1 k = true) with ⟨c, r, rfl, he⟩ | hne
  · obtain ⟨k1, k2, k3, k4, k5, k6⟩ := atL cE hp (by omega)
    have kg := getL k5 k4
    simp only [cE] at k3
    have hc := h2 c r rfl
    have x1 : l.length * 24 ≤ 140737488355328 := by omega
    have x2 : l.length ≤ 9223372036854775807 := by omega
    have hset : (csD l).set pre.length (D.agg [.str c.1, .int .i64 (IntKind.i64.wrap (c.2 + n))]) = csD (pre ++ (c.1, IntKind.i64.wrap (c.2 + n)) :: r) := by
      rw [← hp]; simp [csD, cE]
    have hput : putC k n (c :: r) = (c.1, IntKind.i64.wrap (c.2 + n)) :: r := by simp [putC, hc, he]
    have z9 : (csD (pre ++ (c.1, IntKind.i64.wrap (c.2 + n)) :: r)).take l.length = csD (pre ++ (c.1, IntKind.i64.wrap (c.2 + n)) :: r) := List.take_of_length_le (by simp [← hp])
    rw [hput]
    generalize pre ++ (c.1, IntKind.i64.wrap (c.2 + n)) :: r = R at hset z9 ⊢
    simp [eqCells, T3, T4, T5, T9, T22, T25, T26, T28, T29, T36, T41, T47, T69, T74, T78, T85, T90, T98, T104, CT, hA, k2, k3, k4, k5, kg, he, s0, z1, z6, z9, x1, x2, hset, cE]
  · have hpn : putC k n suf = (k, n) :: suf := by
      cases suf with
      | nil => rfl
      | cons c r =>
        have he : ¬ eqS c.1 k = true := fun h => hne ⟨c, r, rfl, h⟩
        simp [putC, h2 c r rfl, he]
    rw [hpn]
    rcases Classical.em (∃ c r, suf = c :: r) with ⟨c, r, hs⟩ | hs
    · rw [hs] at hp
      obtain ⟨k1, k2, k3, k4, k5, k6⟩ := atL cE hp (by omega)
      have kg := getL k5 k4
      simp only [cE] at k3
      have hc := h2 c r hs
      have he : eqS c.1 k = false := by
        cases h : eqS c.1 k with
        | false => rfl
        | true => exact absurd ⟨c, r, hs, h⟩ hne
      simp [eqCells, T3, T4, T5, T9, T22, T25, T26, T28, T29, T36, T41, T47, T69, T74, T78, T85, T90, T98, T104, CT, hA, k2, k3, k4, k5, kg, hc, he, s1, z1, z6, ht, hd, s2, s3, s4, tk2, n0, n1, n2, r1, r2, r3, r4, q1, q2, q3, q4, tk3, cE]
    · have hlt : (pre.length < l.length) = False := by
        cases suf with
        | nil => simp [hlen]
        | cons c r => exact absurd ⟨c, r, rfl⟩ hs
      simp [eqCells, T3, T4, T5, T9, T22, T25, T26, T28, T29, T36, T41, T47, T69, T74, T78, T85, T90, T98, T104, CT, hA, hlt, s1, z1, z6, ht, hd, s2, s3, s4, tk2, n0, n1, n2, r1, r2, r3, r4, q1, q2, q3, q4, tk3, cE]
end Go.Proofs.YtdhbecdlablonaaV
