/- lower; Add. -/
import Derived.Test.YtdhbecdlablonaaWc22n
set_option linter.unusedVariables false
set_option linter.unusedSimpArgs false
namespace Go.Proofs.YtdhbecdlablonaaV
open Go.RowKit
attribute [local simp] TK.agg constAV evalAV EK.has EK.hasAll vecEls elsR AV.toD toDs AV.cells AV.one joinD TyI.zeroD OpR.of binIntF binStrF AV.isPtr ptrNil slNil mpNil nilE eqF negF posF binF pelF pvLoad pelSet pvStore boxLoad epLoad loadF boxStore storeF fieldAddrF fieldF epOf indexAddrF byteF indexF mapLen lenF cutF sliceF sliceN sliceX isSl slice3F fillF fillV arrFs buildF partsX landV buildSliceF roomB appVec appendF appMkF capF mmFrom mmF max2' min2' clearVec clearF convF unF pickF nilChkF extF ptrsOf callF makeSliceF sameKs sameD kindIs plainFs keyOk mapOb mapEs okV lookF lookupF putE putS mapPut mapUpdateF mapDel deleteF mapAll rangeM rangeF overV hitV nextO nextF entryM entryO entryF itOids builtinF capsOf allocF boxF bytesL bytesF byteTy strTy convertF makeFuncF mapNew makeMapF makeMapH opF reach reachOf AObj.live closedB nodupB packO packL packX backN backG backO obL backE frzX frzO AV.vids frzL landC sameObs landR touchF bitsW D.cells D.decEq D.decEqs AV.decEq AV.decEqs AObj.decEq AV.oids0 AV.oids AObj.oids renG renP AV.ren0 AV.ren envGet envPut envKeep obGet setEff putV St.put stepS keyChk chkD accD Ex.block AV.under AObj.under laysOf roomFor mkvO frzG szOk killO usedBy tidyS canL canS ghost ghostE normSt resOf allSome one0 resultsF finL finishL finish endF startEnv chkC backX comeC AV.flat0 rngC loopO layL endLp busyL idleL noRng rndSt rndEnd wpn_nil wpn_seq wpn_loop wpn_seq_exit wpn_loop_exit wpn_seq_ret wpn_loop_ret wpn_block wpn_post wpk_skip wpk_exit wpk_ret wpk_reg wpk_seq wpk_condT wpk_block wpk_loop wpk_pre wpk_post wop_nil wop_cons wop_guard St.know envSet cond_d cond_bool cond_int cond_str endE endQ freeB disj pushT bitsW int_beq int_bne eqS_def tbE fuelL_eq ann0_lays ann0_dd ann0_ro elsOf_dsl elsOf_dnils toNat_succ nn_succ pos_succ one_succ rng1 rng2 rng3 rng4 rng5 rng6 rng7 rng8 List.idxOf_cons wpk_rng rndK rndE
def lowF (seen : List Nat) (d : Int) (p : SC2) : Ctr := if p.1 ∈ seen then (p.2.1, IntKind.i64.wrap (p.2.2 - d)) else p.2
def lowS (seen : List Nat) (d : Int) (m : List Ctr) : List Ctr := (stA m).map (lowF seen d)
def lowA (d : Int) (m : List Ctr) : List Ctr := m.map fun p => (p.1, IntKind.i64.wrap (p.2 - d))
theorem lowS_nil (d : Int) (m : List Ctr) : lowS [] d m = m := by
  unfold lowS
  rw [show (stA m).map (lowF [] d) = (stA m).map (·.2) from List.map_congr_left fun p _ => by simp [lowF], stA_snd]
theorem lowS_all {seen : List Nat} {d : Int} {m : List Ctr} (h : ∀ p ∈ stA m, p.1 ∈ seen) : lowS seen d m = lowA d m := by
  unfold lowS lowA
  conv => rhs; rw [← stA_snd m]
  rw [List.map_map]
  exact List.map_congr_left fun p hp => by simp [lowF, h p hp]
theorem lowS_len (seen : List Nat) (d : Int) (m : List Ctr) : (lowS seen d m).length = m.length := by simp [lowS, stA]
theorem stA_low (seen : List Nat) (d : Int) (m : List Ctr) : stA (lowS seen d m) = (stA m).map fun p => (p.1, lowF seen d p) := by
  have h : ∀ L : List SC2, (L.map (·.1)).zip (L.map (lowF seen d)) = L.map fun p => (p.1, lowF seen d p) := by
    intro L
    induction L with
    | nil => rfl
    | cons p L ih => simp [ih]
  have := h (stA m)
  rw [stA_fst] at this
  unfold stA at this ⊢
  rw [lowS_len]
  exact this
theorem put_mid {k : ByteArray} {v v' : Int} : ∀ {pre post : List Ctr}, (∀ p ∈ pre, eqS k p.1 = false) → putP strK k v' (pre ++ (k, v) :: post) = pre ++ (k, v') :: post
  | [], post, _ => by
    have : strK.eqb k k = true := eqS_self k
    simp [putP, this]
  | (q, u) :: pre, post, h => by
    have h0 : strK.eqb k q = false := h (q, u) (by simp)
    have ih := put_mid (v := v) (v' := v') (pre := pre) (post := post) fun p hp => h p (List.mem_cons_of_mem _ hp)
    simp [putP, h0, ih]
theorem low_step {seen : List Nat} {d : Int} {m : List Ctr} {q : SC2} (hne : keysNe strK m) (hq : q ∈ stA m) (hs : q.1 ∉ seen) :
    lookP strK q.2.1 (lowS seen d m) = some q.2.2 ∧ putP strK q.2.1 (IntKind.i64.wrap (q.2.2 - d)) (lowS seen d m) = lowS (seen ++ [q.1]) d m := by
  obtain ⟨pre, post, h⟩ := List.append_of_mem hq
  have hn := stA_nodup m
  have hm := stA_snd m
  rw [h] at hn hm
  have h1 := List.pairwise_append.1 hn
  have h2 := List.pairwise_cons.1 h1.2.1
  rw [← hm, List.map_append, List.map_cons] at hne
  have hp := (List.pairwise_append.1 hne).2.2
  have hpre : ∀ p ∈ pre.map (lowF seen d), eqS q.2.1 p.1 = false := fun p hp' => by
    obtain ⟨r, hr, rfl⟩ := List.mem_map.1 hp'
    have := hp r.2 (List.mem_map.2 ⟨r, hr, rfl⟩) q.2 (by simp)
    have e : (lowF seen d r).1 = r.2.1 := by unfold lowF; split <;> rfl
    rw [e, eqS_comm]; exact this
  have e0 : lowS seen d m = pre.map (lowF seen d) ++ (q.2.1, q.2.2) :: post.map (lowF seen d) := by
    unfold lowS
    rw [h, List.map_append, List.map_cons]
    simp [lowF, hs]
  have e1 : lowS (seen ++ [q.1]) d m = pre.map (lowF seen d) ++ (q.2.1, IntKind.i64.wrap (q.2.2 - d)) :: post.map (lowF seen d) := by
    have c : ∀ L : List SC2, (∀ p ∈ L, p.1 ≠ q.1) → L.map (lowF (seen ++ [q.1]) d) = L.map (lowF seen d) := fun L hL => List.map_congr_left fun p hp => by
      simp [lowF, hL p hp]
    unfold lowS
    rw [h, List.map_append, List.map_cons, c pre fun p hp => h1.2.2 p hp q (by simp), c post fun p hp => (h2.1 p hp).symm]
    simp [lowF]
  rw [e0, e1]
  exact ⟨(idx_split hpre).2, put_mid hpre⟩
set_option maxRecDepth 100000 in
set_option maxHeartbeats 4000000 in
theorem lower_run (m : List Ctr) (d : Int) (hne : keysNe strK m) : run CC 39 [.mp 0, .d (.int .i64 d)] [.map (mapSI m)] = some (.tup [], [.map (mapSI (lowA d m))]) := by
  refine run_code (s := s39 1) rfl rfl rfl (by kernel_rfl) ?_
  simp [s39, eqCells, T3, T4, T5, T9, T22, T25, T26, T28, T29, T36, T41, T47, T69, T74, T78, T85, T90, T98, T104, CT]
  refine wlp_inv (S := fun p : List Nat => ⟨[(0, .mp 0), (1, .d (.int .i64 d)), (6, .it 1)], [.map (mapSI (lowS p d m)), .iter (some 0) (mapSI m).length p (mapSI m).length]⟩) (m := fun p => (leftE p ((stA m).map dE)).length) (Inv := fun p => True) ?_ [] trivial |> fun h => by rw [lowS_nil] at h; exact h
  rintro seen - ih
  rw [e39_1]
  have hL : (mapSI (lowS seen d m)).length = (mapSI m).length := by rw [mapSI_len, mapSI_len, lowS_len]
  have hall : allE (mapSI (lowS seen d m)) = (stA m).map fun p => dE (p.1, lowF seen d p) := by rw [allE_dE, stA_low, List.map_map]; rfl
  have hok := nextOk_map (mapSI (lowS seen d m)) seen
  rw [hL] at hok
  have hleft : ∀ p ∈ leftE seen (allE (mapSI (lowS seen d m))), ∃ q ∈ stA m, p = dE q ∧ q.1 ∉ seen := fun p hp => by
    obtain ⟨h1, h2⟩ := leftE_mem hp
    rw [hall] at h1
    obtain ⟨q, hq, rfl⟩ := List.mem_map.1 h1
    refine ⟨q, hq, ?_, h2⟩
    have h2 : q.1 ∉ seen := h2
    simp [lowF, h2]
  unfold c39_1
  rw [wpk_post, wpk_seq, wpk_reg]
  refine wop_next (o := 1) (m := 0) (since := (mapSI m).length) (last := (mapSI m).length) (ck := (mapSI m).length) (seen := seen) (l := allE (mapSI (lowS seen d m))) rfl rfl (by show some (allE (mapSI (lowS seen d m)), (mapSI (lowS seen d m)).length) = _; rw [hL]) hok (fun h => ?_) fun p hp => ?_
  · have hend : ∀ p ∈ stA m, p.1 ∈ seen := fun p hp => by
      by_cases hs : p.1 ∈ seen
      · exact hs
      · have : dE (p.1, lowF seen d p) ∈ leftE seen (allE (mapSI (lowS seen d m))) := mem_leftE (by rw [hall]; exact List.mem_map.2 ⟨p, hp, rfl⟩) hs
        rw [h] at this; cases this
    rw [lowS_all hend]
    simp [eqCells, T3, T4, T5, T9, T22, T25, T26, T28, T29, T36, T41, T47, T69, T74, T78, T85, T90, T98, T104, CT]
  · obtain ⟨q, hq, rfl, hs⟩ := hleft p hp
    have hen : entryL q.1 (allE (mapSI (lowS seen d m))) = some (.tup [.d (.str q.2.1), .d (.int .i64 q.2.2)]) := entry_all (leftE_mem hp).1
    obtain ⟨g1, g2⟩ := low_step (d := d) hne hq hs
    have hlook := lookF_get strK (D.int .i64) q.2.1 (lowS seen d m) 0
    rw [g1] at hlook
    have hput := putE_put strK (D.int .i64) q.2.1 (IntKind.i64.wrap (q.2.2 - d)) (lowS seen d m)
    rw [g2] at hput
    have hmem : dE q ∈ leftE seen ((stA m).map dE) := mem_leftE (List.mem_map.2 ⟨q, hq, rfl⟩) hs
    have ih := ih (seen ++ [q.1]) trivial (leftE_lt hmem)
    change lookF false (some (D.int .i64 0)) (findD (.str q.2.1) (mapSI (lowS seen d m)) 0) = some (.d (.int .i64 q.2.2)) at hlook
    change putE (.str q.2.1) (.int .i64 (IntKind.i64.wrap (q.2.2 - d))) (mapSI (lowS seen d m)) (findD (.str q.2.1) (mapSI (lowS seen d m)) 0) = some (mapSI (lowS (seen ++ [q.1]) d m)) at hput
    unfold allE at hen
    rw [hL] at hen
    simp [eqCells, T3, T4, T5, T9, T22, T25, T26, T28, T29, T36, T41, T47, T69, T74, T78, T85, T90, T98, T104, CT, dE, hen, hlook, hput, hL, -putE, -lookF]
    exact ih
end Go.Proofs.YtdhbecdlablonaaV
