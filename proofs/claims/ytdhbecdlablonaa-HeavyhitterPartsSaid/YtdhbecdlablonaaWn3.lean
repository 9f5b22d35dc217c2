/- Merge: where something must go; the walk. -/
import Derived.Test.YtdhbecdlablonaaWn2
import Derived.Test.YtdhbecdlablonaaPm20
set_option linter.unusedVariables false
set_option linter.unusedSimpArgs false
namespace Go.Proofs.YtdhbecdlablonaaV
open Go.RowKit
attribute [local simp] TK.agg constAV evalAV EK.has EK.hasAll vecEls elsR AV.toD toDs AV.cells AV.one joinD TyI.zeroD OpR.of binIntF binStrF AV.isPtr ptrNil slNil mpNil nilE eqF negF posF binF pelF pvLoad pelSet pvStore boxLoad epLoad loadF boxStore storeF fieldAddrF fieldF epOf indexAddrF byteF indexF mapLen lenF cutF sliceF sliceN sliceX isSl slice3F fillF fillV arrFs buildF partsX landV buildSliceF roomB appVec appendF appMkF capF mmFrom mmF max2' min2' clearVec clearF convF unF pickF nilChkF extF ptrsOf callF makeSliceF sameKs sameD kindIs plainFs keyOk mapOb mapEs okV lookF lookupF putE putS mapPut mapUpdateF mapDel deleteF mapAll rangeM rangeF overV hitV nextO nextF entryM entryO entryF itOids builtinF capsOf allocF boxF bytesL bytesF byteTy strTy convertF makeFuncF mapNew makeMapF makeMapH opF reach reachOf AObj.live closedB nodupB packO packL packX backN backG backO obL backE frzX frzO AV.vids frzL landC sameObs landR touchF bitsW D.cells D.decEq D.decEqs AV.decEq AV.decEqs AObj.decEq AV.oids0 AV.oids AObj.oids renG renP AV.ren0 AV.ren envGet envPut envKeep obGet setEff putV St.put stepS keyChk chkD accD Ex.block AV.under AObj.under laysOf roomFor mkvO frzG szOk killO usedBy tidyS canL canS ghost ghostE normSt resOf allSome one0 resultsF finL finishL finish endF startEnv chkC backX comeC AV.flat0 rngC loopO layL endLp busyL idleL noRng rndSt rndEnd wpn_nil wpn_seq wpn_loop wpn_seq_exit wpn_loop_exit wpn_seq_ret wpn_loop_ret wpn_block wpn_post wpk_skip wpk_exit wpk_ret wpk_reg wpk_seq wpk_condT wpk_block wpk_loop wpk_pre wpk_post wop_nil wop_cons wop_guard St.know envSet cond_d cond_bool cond_int cond_str endE endQ freeB disj pushT bitsW int_beq int_bne eqS_def tbE fuelL_eq ann0_lays ann0_dd ann0_ro elsOf_dsl elsOf_dnils toNat_succ nn_succ pos_succ one_succ rng1 rng2 rng3 rng4 rng5 rng6 rng7 rng8 List.idxOf_cons wpk_rng rndK rndE
theorem perm_filterN : ∀ {l : List (Nat × D × D)} {p : Nat × D × D}, (l.map (·.1)).Nodup → p ∈ l → l.Perm (p :: l.filter fun q => decide (q.1 ≠ p.1))
  | q :: l, p, hn, hp => by
    simp only [List.map_cons, List.nodup_cons] at hn
    rcases List.mem_cons.1 hp with rfl | hp
    · have : (l.filter fun q => decide (q.1 ≠ p.1)) = l := List.filter_eq_self.2 fun q hq => by
        have : q.1 ≠ p.1 := fun e => hn.1 (e ▸ List.mem_map.2 ⟨q, hq, rfl⟩)
        simp [this]
      rw [List.filter_cons_of_neg (by simp), this]
    · have hne : q.1 ≠ p.1 := fun e => hn.1 (e ▸ List.mem_map.2 ⟨p, hp, rfl⟩)
      rw [List.filter_cons_of_pos (by simpa using hne)]
      exact ((perm_filterN hn.2 hp).cons q).trans (List.Perm.swap p q _)
theorem perm_leftN {l : List (Nat × D × D)} (hn : (l.map (·.1)).Nodup) {seen : List Nat} {p : Nat × D × D} (hp : p ∈ leftE seen l) : (leftE seen l).Perm (p :: leftE (seen ++ [p.1]) l) := by
  rw [leftE_snoc]
  exact perm_filterN (hn.sublist (List.Sublist.map _ List.filter_sublist)) hp
def vN (p : Nat × D × D) : Int := match p.2.2 with
  | .int _ v => v
  | _ => 0
theorem allE_vN (m : List Ctr) : (allE (mapSI m)).map vN = m.map (·.2) := by
  rw [allE_dE, List.map_map]
  have h : (stA m).map (vN ∘ dE) = ((stA m).map (·.2)).map (·.2) := by rw [List.map_map]; rfl
  rw [h, stA_snd]
def dcmp (a b : Int) : Int := cmpI b a
theorem dcmp_run (a b : Int) : run CC 42 [.d (.int .i64 a), .d (.int .i64 b)] [] = some (.d (.int .i64 (dcmp a b)), []) := by
  refine run_code (s := s42 0) rfl rfl rfl (by kernel_rfl) ?_
  have h := cmpI_run b a
  unfold dcmp
  simp [s42, eqCells, T3, T4, T5, T9, T22, T25, T26, T28, T29, T36, T41, T47, T69, T74, T78, T85, T90, T98, T104, CT, h]
theorem dcmp_lt (a b : Int) : dcmp a b < 0 ↔ b < a := by
  unfold dcmp cmpI
  by_cases h : b < a
  · simp [h]
  · by_cases h2 : a < b <;> simp [h, h2]
theorem swoD : Go.Sort.SWO (Pd.ltC dcmp) where
  irrefl x := by simp [Pd.ltC, dcmp_lt]
  trans x y z h1 h2 := by simp [Pd.ltC, dcmp_lt] at *; omega
  ntrans x y z h1 h2 := by simp [Pd.ltC, dcmp_lt] at *; omega
set_option maxRecDepth 100000 in
set_option maxHeartbeats 4000000 in
theorem loop15_2 (m : List Ctr) (hm : m.length ≤ 24) (a b c : Int) (ks : List Fr) (K : Ex → St → Prop)
    (hnext : ∀ out : List Int, out.Perm (m.map (·.2)) → wpn CC .norm ⟨[(4, .ptr 2 0), (6, .ptr 3 0), (7, .mp 4), (10, .vs 5 0 1 0 out.length)], [.dead, .dead, .box [.d (.int .i64 0), .d (.int .i64 0), .d (.int .i64 0), .d .nils], .box [.d (.int .i64 a), .d (.int .i64 b), .d (.int .i64 c), .d .nils], .map (mapSI m), .vec 0 true false 3 1 (out.map Pd.zD), .dead]⟩ ks K) :
    wlp CC (s15_2 0) ⟨[(4, .ptr 2 0), (6, .ptr 3 0), (7, .mp 4), (10, .vs 5 0 1 0 0), (65, .it 6)], [.dead, .dead, .box [.d (.int .i64 0), .d (.int .i64 0), .d (.int .i64 0), .d .nils], .box [.d (.int .i64 a), .d (.int .i64 b), .d (.int .i64 c), .d .nils], .map (mapSI m), .vec 0 true false 3 1 [], .iter (some 4) (mapSI m).length [] (mapSI m).length]⟩ (.block 3 :: .post (.tidy [4, 6, 7, 10] 0 7) :: .post (.tidy [4, 6, 7, 10] 0 7) :: ks) K := by
  have hnd : ((allE (mapSI m)).map (·.1)).Nodup := by rw [allE_fst]; exact List.nodup_range
  refine wlp_inv (S := fun p : List Nat × List Int => ⟨[(4, .ptr 2 0), (6, .ptr 3 0), (7, .mp 4), (10, .vs 5 0 1 0 p.2.length), (65, .it 6)], [.dead, .dead, .box [.d (.int .i64 0), .d (.int .i64 0), .d (.int .i64 0), .d .nils], .box [.d (.int .i64 a), .d (.int .i64 b), .d (.int .i64 c), .d .nils], .map (mapSI m), .vec 0 true false 3 1 (p.2.map Pd.zD), .iter (some 4) (mapSI m).length p.1 (mapSI m).length]⟩) (m := fun p => (leftE p.1 (allE (mapSI m))).length) (Inv := fun p => (p.2 ++ (leftE p.1 (allE (mapSI m))).map vN).Perm (m.map (·.2))) ?_ ([], []) (by simp only [leftE_nil, List.nil_append]; rw [allE_vN])
  rintro ⟨seen, out⟩ hinv ih
  rw [e15_2]
  unfold c15_2
  simp only at hinv ⊢
  rw [wpk_post, wpk_seq, wpk_post, wpk_reg]
  have hol : out.length ≤ 24 := by
    have := hinv.length_eq
    rw [List.length_append, List.length_map, List.length_map] at this
    omega
  refine wop_next (o := 6) (m := 4) (since := (mapSI m).length) (last := (mapSI m).length) (ck := (mapSI m).length) (seen := seen) (l := allE (mapSI m)) rfl rfl rfl (nextOk_map _ _) (fun h => ?_) fun p hp => ?_
  · rw [h] at hinv
    simp only [List.map_nil, List.append_nil] at hinv
    have hn := hnext out hinv
    clear hnext ih
    generalize mapSI m = MM at *
    generalize out.map Pd.zD = E at *
    generalize out.length = n at *
    try simp at hn
    simp [eqCells, T3, T4, T5, T9, T22, T25, T26, T28, T29, T36, T41, T47, T69, T74, T78, T85, T90, T98, T104, CT]
    exact hn
  · have hp' := hp
    rw [allE_dE] at hp'
    obtain ⟨q, hq, rfl, hs⟩ := dE_mem hp'
    have hen : entryL q.1 (allE (mapSI m)) = some (.tup [.d (.str q.2.1), .d (.int .i64 q.2.2)]) := entry_all (leftE_mem hp).1
    have hpl := (perm_leftN hnd hp).map vN
    have hv : vN (dE q) = q.2.2 := rfl
    rw [List.map_cons, hv] at hpl
    have hinv2 := (List.Perm.append_left out hpl).symm.trans hinv
    have ih2 := ih (seen ++ [q.1], out ++ [q.2.2]) (by rw [List.append_assoc]; exact hinv2) (leftE_lt hp)
    have hmm : (out ++ [q.2.2]).map Pd.zD = out.map Pd.zD ++ [.int .i64 q.2.2] := by simp [Pd.zD]
    have htl : (out.map Pd.zD).take out.length = out.map Pd.zD := List.take_of_length_le (by simp)
    have hll : (out.map Pd.zD).length = out.length := by simp
    have r1 : (out.length + 1) * 8 ≤ 140737488355328 := by omega
    have r2 : out.length + 1 ≤ 9223372036854775807 := by omega
    have hz : szAll 1 [D.int .i64 q.2.2] = true := rfl
    simp only [hmm, List.length_append, List.length_cons, List.length_nil, Nat.zero_add] at ih2
    unfold allE at hen
    clear ih hnext hinv hinv2 hpl hp' hp
    generalize mapSI m = MM at *
    generalize out.map Pd.zD = E at *
    generalize out.length = n at *
    try simp at ih2
    simp [eqCells, T3, T4, T5, T9, T22, T25, T26, T28, T29, T36, T41, T47, T69, T74, T78, T85, T90, T98, T104, CT, dE, hen, r1, r2, hz, htl, hll]
    exact ih2
end Go.Proofs.YtdhbecdlablonaaV
