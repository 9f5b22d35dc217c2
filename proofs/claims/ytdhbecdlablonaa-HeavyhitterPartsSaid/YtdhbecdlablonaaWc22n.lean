/- counters, lower: the walk. -/
import Derived.Test.YtdhbecdlablonaaWc22m
set_option linter.unusedVariables false
set_option linter.unusedSimpArgs false
namespace Go.Proofs.YtdhbecdlablonaaV
open Go.RowKit
attribute [local simp] TK.agg constAV evalAV EK.has EK.hasAll vecEls elsR AV.toD toDs AV.cells AV.one joinD TyI.zeroD OpR.of binIntF binStrF AV.isPtr ptrNil slNil mpNil nilE eqF negF posF binF pelF pvLoad pelSet pvStore boxLoad epLoad loadF boxStore storeF fieldAddrF fieldF epOf indexAddrF byteF indexF mapLen lenF cutF sliceF sliceN sliceX isSl slice3F fillF fillV arrFs buildF partsX landV buildSliceF roomB appVec appendF appMkF capF mmFrom mmF max2' min2' clearVec clearF convF unF pickF nilChkF extF ptrsOf callF makeSliceF sameKs sameD kindIs plainFs keyOk mapOb mapEs okV lookF lookupF putE putS mapPut mapUpdateF mapDel deleteF mapAll rangeM rangeF overV hitV nextO nextF entryM entryO entryF itOids builtinF capsOf allocF boxF bytesL bytesF byteTy strTy convertF makeFuncF mapNew makeMapF makeMapH opF reach reachOf AObj.live closedB nodupB packO packL packX backN backG backO obL backE frzX frzO AV.vids frzL landC sameObs landR touchF bitsW D.cells D.decEq D.decEqs AV.decEq AV.decEqs AObj.decEq AV.oids0 AV.oids AObj.oids renG renP AV.ren0 AV.ren envGet envPut envKeep obGet setEff putV St.put stepS keyChk chkD accD Ex.block AV.under AObj.under laysOf roomFor mkvO frzG szOk killO usedBy tidyS canL canS ghost ghostE normSt resOf allSome one0 resultsF finL finishL finish endF startEnv chkC backX comeC AV.flat0 rngC loopO layL endLp busyL idleL noRng rndSt rndEnd wpn_nil wpn_seq wpn_loop wpn_seq_exit wpn_loop_exit wpn_seq_ret wpn_loop_ret wpn_block wpn_post wpk_skip wpk_exit wpk_ret wpk_reg wpk_seq wpk_condT wpk_block wpk_loop wpk_pre wpk_post wop_nil wop_cons wop_guard St.know envSet cond_d cond_bool cond_int cond_str endE endQ freeB disj pushT bitsW int_beq int_bne eqS_def tbE fuelL_eq ann0_lays ann0_dd ann0_ro elsOf_dsl elsOf_dnils toNat_succ nn_succ pos_succ one_succ rng1 rng2 rng3 rng4 rng5 rng6 rng7 rng8 List.idxOf_cons wpk_rng rndK rndE
theorem dE_mem {L : List SC2} {seen : List Nat} {p : Nat × D × D} (h : p ∈ leftE seen (L.map dE)) : ∃ q ∈ L, p = dE q ∧ q.1 ∉ seen := by
  obtain ⟨h1, h2⟩ := leftE_mem h
  obtain ⟨q, hq, rfl⟩ := List.mem_map.1 h1
  exact ⟨q, hq, rfl, h2⟩
theorem keep_ok (seen : List Nat) (m : List Ctr) : nextOk (mapSI m).length seen (mapSI m).length ((keepL seen m).map dE) = true := by
  unfold nextOk
  have h : ∀ p ∈ (keepL seen m).map dE, p.1 < (mapSI m).length := fun p hp => by
    obtain ⟨q, hq, rfl⟩ := List.mem_map.1 hp
    rw [mapSI_len]
    exact (stA_lt (keep_sub hq)).1
  rw [Bool.and_eq_true, List.all_eq_true]
  refine ⟨fun p hp => by simpa using h p hp, ?_⟩
  cases hl : (keepL seen m).map dE with
  | nil => simp
  | cons p r =>
    have := h p (by rw [hl]; simp)
    simp [this]
theorem entry_dE {L : List SC2} (hn : L.Pairwise fun p q => p.1 ≠ q.1) {q : SC2} (hq : q ∈ L) : entryL q.1 (L.map dE) = some (.tup [.d (.str q.2.1), .d (.int .i64 q.2.2)]) := by
  refine entryL_get (p := dE q) ?_ (List.mem_map.2 ⟨q, hq, rfl⟩)
  rw [List.map_map]
  exact List.pairwise_map.2 (hn.imp fun h => h)
theorem keep_leftE (seen : List Nat) (m : List Ctr) : leftE seen ((keepL seen m).map dE) = leftE seen ((stA m).map dE) := by rw [leftE_dE, keep_left, ← leftE_dE]
set_option maxRecDepth 100000 in
set_option maxHeartbeats 4000000 in
theorem counters_run (m l : List Ctr) (hne : keysNe strK m) (hp : (posL m).Perm l) (hl : srt l) (hlen : l.length ≤ 12) : run CC 40 [.mp 0] [.map (mapSI m)] = some (.d (.sl (csD l)), [finM m]) := by
  refine run_code (s := s40 1) rfl rfl rfl (by kernel_rfl) ?_
  simp [s40, eqCells, T3, T4, T5, T9, T22, T25, T26, T28, T29, T36, T41, T47, T69, T74, T78, T85, T90, T98, T104, CT]
  have hobj0 : AObj.map (mapSI m) = objM [] m := by
    unfold objM
    rw [if_pos]
    unfold keepL
    exact List.filter_eq_self.2 fun p _ => by simp
  rw [hobj0]
  refine wlp_inv (S := fun p : List Nat × List Ctr => ⟨[(0, .mp 0), (3, .vs 1 0 2 0 p.2.length), (7, .it 2)], [objM p.1 m, .vec 0 true false 25 2 (csD p.2), .iter (some 0) (mapSI m).length p.1 (mapSI m).length]⟩) (m := fun p => (leftE p.1 ((keepL p.1 m).map dE)).length) (Inv := fun p => (p.2 ++ restL p.1 m).Perm l) ?_ ([], []) (by simp only [List.nil_append]; rw [rest_nil]; exact hp)
  rintro ⟨seen, out⟩ hinv ih
  rw [e40_1]
  simp only at hinv ⊢
  have htk : (csD out).take out.length = csD out := List.take_of_length_le (by simp)
  have hol : out.length ≤ 12 := by have := hinv.length_eq; simp at this; omega
  unfold c40_1
  rw [wpk_post, wpk_seq, wpk_reg]
  refine wop_next (o := 2) (m := 0) (since := (mapSI m).length) (last := (mapSI m).length) (ck := (mapSI m).length) (seen := seen) (l := (keepL seen m).map dE) rfl rfl (objM_all seen m) (keep_ok seen m) (fun h => ?_) fun p hp => ?_
  · obtain ⟨k1, k2⟩ := keep_end h
    rw [rest_end k2, List.append_nil] at hinv
    have hs := sort49_run 50 (by decide) kcmp cmp50_run out hol
    rw [sort_to hinv hl] at hs
    have hfin : objM seen m = finM m := by unfold objM finM; rw [k1]
    rw [hfin]
    have hlo : l.length = out.length := hinv.length_eq.symm
    have htl : (csD l).take out.length = csD l := List.take_of_length_le (by simp; omega)
    unfold finM
    split <;> simp [eqCells, T3, T4, T5, T9, T22, T25, T26, T28, T29, T36, T41, T47, T69, T74, T78, T85, T90, T98, T104, CT, htk, hs, htl]
  · obtain ⟨q, hq, rfl, hs⟩ := dE_mem hp
    have hqA := keep_sub hq
    have hmeas : (leftE (seen ++ [q.1]) ((keepL (seen ++ [q.1]) m).map dE)).length < (leftE seen ((keepL seen m).map dE)).length := by
      rw [keep_leftE] at hp ⊢
      rw [keep_leftE]
      exact leftE_lt hp
    have ih := fun out' h => ih (seen ++ [q.1], out') h hmeas
    have hr := rest_step hqA hs
    have hen : entryL q.1 ((keepL seen m).map dE) = some (.tup [.d (.str q.2.1), .d (.int .i64 q.2.2)]) := entry_dE ((stA_nodup m).sublist List.filter_sublist) hq
    by_cases hv : 0 < q.2.2
    · rw [if_pos hv] at hr
      have ih := ih (out ++ [q.2]) (by
        refine List.Perm.trans ?_ hinv
        simp only [List.append_assoc, List.singleton_append]
        exact hr.symm.append_left out)
      have hv2 : ¬ q.2.2 ≤ 0 := by omega
      have hobj : objM (seen ++ [q.1]) m = objM seen m := by unfold objM; rw [keep_pos hqA hv]
      simp only [hobj] at ih
      have s1 : szAll 2 [D.agg [.str q.2.1, .int .i64 q.2.2]] = true := rfl
      have r1 : (out.length + 1) * 24 ≤ 140737488355328 := by omega
      have r2 : out.length + 1 ≤ 9223372036854775807 := by omega
      have r3 : out.length ≤ 9223372036854775806 := by omega
      simp [cE] at ih
      unfold objM at ih ⊢
      split
      · rename_i heq
        rw [if_pos heq] at ih
        rw [heq, ← allE_dE] at hen
        simp [eqCells, T3, T4, T5, T9, T22, T25, T26, T28, T29, T36, T41, T47, T69, T74, T78, T85, T90, T98, T104, CT, dE, hen, hv2, htk, s1, r1, r2, r3]
        exact ih
      · rename_i heq
        rw [if_neg heq] at ih
        rw [← stEs_dE] at hen
        simp [eqCells, T3, T4, T5, T9, T22, T25, T26, T28, T29, T36, T41, T47, T69, T74, T78, T85, T90, T98, T104, CT, dE, hen, hv2, htk, s1, r1, r2, r3]
        exact ih
    · rw [if_neg hv] at hr
      have hv2 : q.2.2 ≤ 0 := by omega
      have ih := ih out ((hr.symm.append_left out).trans hinv)
      have hdel := objM_del hqA hs hne hv2
      obtain ⟨pre, post, hk, h1, h2⟩ := keep_split hqA hs
      have hne2 := (keep_del hk h1 h2 hv2).2
      have hobj : objM (seen ++ [q.1]) m = .mapd (mapSI ((keepL (seen ++ [q.1]) m).map (·.2))) ((keepL (seen ++ [q.1]) m).map (·.1)) (mapSI m).length := by unfold objM; rw [if_neg hne2]
      simp only [hobj] at ih
      clear hk h1 h2 hne2 hobj
      unfold objM at hdel ⊢
      split
      · rename_i heq
        rw [if_pos heq] at hdel
        rw [heq, ← allE_dE] at hen
        simp [eqCells, T3, T4, T5, T9, T22, T25, T26, T28, T29, T36, T41, T47, T69, T74, T78, T85, T90, T98, T104, CT, dE, hen, hv2, htk, hdel, -mapDel]
        exact ih
      · rename_i heq
        rw [if_neg heq] at hdel
        rw [← stEs_dE] at hen
        simp [eqCells, T3, T4, T5, T9, T22, T25, T26, T28, T29, T36, T41, T47, T69, T74, T78, T85, T90, T98, T104, CT, dE, hen, hv2, htk, hdel, -mapDel]
        exact ih
end Go.Proofs.YtdhbecdlablonaaV
