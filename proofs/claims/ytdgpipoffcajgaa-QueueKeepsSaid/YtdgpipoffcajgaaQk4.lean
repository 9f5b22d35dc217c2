/- The law QueueKeeps: all operations. -/
import Derived.Test.YtdgpipoffcajgaaQk3
set_option linter.unusedVariables false
set_option linter.unusedSimpArgs false
namespace Go.Proofs.YtdgpipoffcajgaaV
open Go.RowKit
attribute [local simp] TK.agg constAV evalAV EK.has EK.hasAll vecEls elsR AV.toD toDs AV.cells AV.one joinD TyI.zeroD OpR.of binIntF binStrF AV.isPtr ptrNil slNil mpNil nilE eqF negF posF binF pelF pvLoad pelSet pvStore boxLoad epLoad loadF boxStore storeF fieldAddrF fieldF epOf indexAddrF byteF indexF mapLen lenF cutF sliceF sliceN sliceX isSl slice3F fillF fillV arrFs buildF partsX landV buildSliceF roomB appVec appendF appMkF capF mmFrom mmF max2' min2' clearVec clearF convF unF pickF nilChkF extF ptrsOf callF makeSliceF sameKs sameD kindIs plainFs keyOk mapOb mapEs okV lookF lookupF putE putS mapPut mapUpdateF mapDel deleteF mapAll rangeM rangeF overV hitV nextO nextF entryM entryO entryF itOids builtinF capsOf allocF boxF bytesL bytesF byteTy strTy convertF makeFuncF mapNew makeMapF makeMapH opF reach reachOf AObj.live closedB nodupB packO packL packX backN backG backO obL backE frzX frzO AV.vids frzL landC sameObs landR touchF bitsW D.cells D.decEq D.decEqs AV.decEq AV.decEqs AObj.decEq AV.oids0 AV.oids AObj.oids renG renP AV.ren0 AV.ren envGet envPut envKeep obGet setEff putV St.put stepS keyChk chkD accD Ex.block AV.under AObj.under laysOf roomFor mkvO frzG szOk killO usedBy tidyS canL canS ghost ghostE normSt resOf allSome one0 resultsF finL finishL finish endF startEnv chkC backX comeC AV.flat0 rngC loopO layL endLp busyL idleL noRng rndSt rndEnd wpn_nil wpn_seq wpn_loop wpn_seq_exit wpn_loop_exit wpn_seq_ret wpn_loop_ret wpn_block wpn_post wpk_skip wpk_exit wpk_ret wpk_reg wpk_seq wpk_condT wpk_block wpk_loop wpk_pre wpk_post wop_nil wop_cons wop_guard St.know envSet cond_d cond_bool cond_int cond_str endE endQ freeB disj pushT bitsW int_beq int_bne eqS_def tbE fuelL_eq ann0_lays ann0_dd ann0_ro elsOf_dsl elsOf_dnils toNat_succ nn_succ pos_succ one_succ rng1 rng2 rng3 rng4 rng5 rng6 rng7 rng8 List.idxOf_cons wpk_rng rndK rndE
theorem bd_next {Q Q2 : Qs} {i : Nat} (h : Q.bd i) (hi : i < 100) (h1 : Q2.arr ≤ Q.arr + 1) (h2 : Q2.iss ≤ Q.iss + 1) (h3 : Q.now ≤ Q2.now) (h4 : Q2.now ≤ Q.now + 11) : Q2.bd (i + 1) :=
  ⟨by have := h.arr; omega, by have := h.iss; omega, by have := h.n0; omega, by have := h.now; omega, by omega⟩
theorem k9_round (O : D) (ops : List Opr) (hO : elsOf (.d O) = some (ops.map Opr.d)) (hn : ops.length ≤ 25) (i : Nat) (hi : i < ops.length) (Q : Qs) (m : List (Iv × Bool)) (bs : List Nat) (ck : Nat) (h : kI Q m bs ck) (hb : Q.bd i) (ks : List Fr) (K : Ex → St → Prop) :
    ∃ Q2 m2 bs2 ck2, kI Q2 m2 bs2 ck2 ∧ Q2.bd (i + 1) ∧ (wlp CC (s9_1 0) (S9 O ops.length (i + 1) Q2 m2 bs2 ck2) ks K → wpk CC (c9_1 0) (S9 O ops.length i Q m bs ck) (.loop (s9_1 0) :: ks) K) := by
  have hx := opr_get ops hi
  have hl : (ops.map Opr.d).length = ops.length := by simp
  have hA := ops[i].hA
  have hB := ops[i].hB
  generalize ops[i].k = k at *
  generalize ops[i].A = A at *
  generalize ops[i].B = B at *
  have hw := h.wl
  have hb1 := hb.arr
  have hb2 := hb.iss
  have hb3 := hb.n0
  have hb4 := hb.now
  have hl0 := hw.l0
  have hk5 : k % 5 < 5 := Nat.mod_lt _ (by omega)
  rcases (by omega : k % 5 = 0 ∨ k % 5 = 1 ∨ k % 5 = 2 ∨ k % 5 = 3 ∨ k % 5 = 4) with hk | hk | hk | hk | hk
  · obtain ⟨a, ea⟩ : ∃ a : Int, a = 1 + ((A % 4 : Nat) : Int) := ⟨_, rfl⟩
    obtain ⟨s, es⟩ : ∃ s : Int, s = ((B % 8 : Nat) : Int) := ⟨_, rfl⟩
    have b1 : A % 4 < 4 := Nat.mod_lt _ (by omega)
    have b2 : B % 8 < 8 := Nat.mod_lt _ (by omega)
    have h15 := offer15_run Q hw.ok hw.lim hw.es.ids hw.fr.frs a s (.sl (spD A B)) (.sl (exD A)) ⟨by omega, by omega, by omega, by omega⟩ (.inr ⟨_, _, rfl, rfl⟩) (copied34_fr a s A B) ⟨hw.a0.1, by omega⟩
    by_cases hof : offR Q a s = 0
    · have hxx : Q.es.any (fun e => decide (e.iv = (a, s))) = false := by
        cases hx : Q.es.any (fun e => decide (e.iv = (a, s))) with
        | false => rfl
        | true => unfold offR at hof; rw [hx] at hof; simp at hof
      have hc : crd Q a ≠ 0 := fun hc => by unfold offR at hof; rw [hxx, hc] at hof; simp at hof
      have hq2 : offQ Q a s (.sl (spD A B)) (.sl (exD A)) = Q.add a s (.sl (spD A B)) (.sl (exD A)) := by unfold offQ; rw [if_pos hof]
      have hwl := add_wl (A := A) (B := B) hw (a := a) (s := s) ⟨by omega, by omega⟩ ⟨by omega, by omega⟩ hxx hc (by omega)
      refine ⟨offQ Q a s (.sl (spD A B)) (.sl (exD A)), putP idK (a, s) true m, _, _, ?_, ?_, fun hnext => k9_offer O _ hO ops.length hn hl i hi k A B hx Q m bs ck ks K hA hB hk a s ea es h15 _ _ (putS ck bs (findD (.agg [.int .i64 a, .int .i64 s]) (mK m) 0)).1 (putS ck bs (findD (.agg [.int .i64 a, .int .i64 s]) (mK m) 0)).2 rfl (fun _ => ⟨rfl, rfl⟩) (fun hne => absurd hof hne) hnext⟩
      · rw [hq2]
        refine kI_put h hwl (a, s) true fun y => ?_
        show y ∈ (Q.es ++ [_]).map Ent.iv ↔ _
        rw [List.map_append]
        by_cases c : y = (a, s)
        · subst c; simp [Ent.iv]
        · rw [if_neg c]; simp [Ent.iv, c]
      · rw [hq2]
        exact bd_next hb (by omega) (Int.le_refl _) (by show Q.iss ≤ Q.iss + 1; omega) (Int.le_refl _) (by show Q.now ≤ Q.now + 11; omega)
    · have hq2 : offQ Q a s (.sl (spD A B)) (.sl (exD A)) = Q := by unfold offQ; rw [if_neg hof]
      refine ⟨offQ Q a s (.sl (spD A B)) (.sl (exD A)), m, bs, ck, by rw [hq2]; exact h, ?_, fun hnext => k9_offer O _ hO ops.length hn hl i hi k A B hx Q m bs ck ks K hA hB hk a s ea es h15 _ _ _ _ rfl (fun h0 => absurd h0 hof) (fun _ => ⟨rfl, rfl, rfl⟩) hnext⟩
      rw [hq2]
      exact bd_next hb (by omega) (by omega) (by omega) (Int.le_refl _) (by omega)
  · obtain ⟨now, hnow⟩ : ∃ now : Int, now = Q.now + ((A % 4 : Nat) : Int) := ⟨_, rfl⟩
    have b1 : A % 4 < 4 := Nat.mod_lt _ (by omega)
    have hlt : ¬ now < Q.now := by omega
    cases hnx : nextI Q.srv (wts Q.es) with
    | none =>
      have h17 := lease17_empty Q hw.ok hw.es hw.rng now hlt (by omega) (nextI_none hnx)
      unfold noL at h17
      exact ⟨Q, m, bs, ck, h, bd_next hb (by omega) (by omega) (by omega) (Int.le_refl _) (by omega), fun hnext => k9_lease O _ hO ops.length hn hl i hi k A B hx Q m bs ck ks K hk now hnow ⟨hb3, by omega⟩ _ _ _ _ h17 hnext⟩
    | some x =>
      obtain ⟨pre, e, post, hs, htk, rfl⟩ := nextI_split hnx
      have h17 := lease17_ok Q hw.ok hw.es hw.rng hw.fr now hlt (by omega) pre post e hs hnx (by omega) (by omega) ⟨hw.i0.1, by omega⟩ fun t ht => (hw.tn t ht).2
      exact ⟨_, m, bs, ck, kI_same h (lea_wl hw hs htk (by omega) (by omega) (by omega)) (lea_ids hs now), bd_next hb (by omega) (by show Q.arr ≤ Q.arr + 1; omega) (Int.le_refl _) (by show Q.now ≤ now; omega) (by show now ≤ Q.now + 11; omega), fun hnext => k9_lease O _ hO ops.length hn hl i hi k A B hx Q m bs ck ks K hk now hnow ⟨hb3, by omega⟩ _ _ _ _ h17 hnext⟩
  · obtain ⟨N, hN⟩ : ∃ N : Int, N = 1 + ((A % 10 : Nat) : Int) := ⟨_, rfl⟩
    have h22 := leased22_run Q hw.ok hw.towf.tso
    have htl := hw.towf.tso.le
    by_cases ht : ∃ t ∈ Q.ts, t.n = N
    · obtain ⟨t, ht, htn⟩ := ht
      obtain ⟨pre, e, post, hs, h1, h2, h3, h4, h5⟩ := hw.towf.ent ht
      obtain ⟨tpre, tpost, hts, g1, g2⟩ := tsplit hw.asc ht
      have h27 := ack27_ok Q hw.es.ids hw.asc pre post e hs tpre tpost t hts ⟨h1, h2⟩
      rw [htn] at h27
      have hJ : tpre.length < Q.ts.length := by rw [hts]; simp
      have hgJ : Q.ts[tpre.length] = t := by simp [hts]
      have hne : ∀ j (hj : j < Q.ts.length), j ≠ tpre.length → Q.ts[j].n ≠ N := fun j hj hjn => by
        rcases Nat.lt_or_gt_of_ne hjn with h6 | h6
        · have := List.pairwise_iff_getElem.1 hw.asc j tpre.length hj hJ h6
          rw [hgJ] at this; omega
        · have := List.pairwise_iff_getElem.1 hw.asc tpre.length j hJ hj h6
          rw [hgJ] at this; omega
      have hids := hw.es.ids
      rw [hs] at hids
      obtain ⟨m1, m2⟩ := ids_mid hids
      refine ⟨Q.ack pre post tpre tpost, putP idK (e.a, e.s) false m, _, _, ?_, ?_, fun hnext => k9_ack O _ hO ops.length hn hl i hi k A B hx Q m bs ck ks K hk h22 htl tpre.length N hN hne (fun _ => by rw [hgJ, htn]) (e.a, e.s) (fun _ => by rw [hgJ, h1, h2]) _ _ (putS ck bs (findD (.agg [.int .i64 e.a, .int .i64 e.s]) (mK m) 0)).1 (putS ck bs (findD (.agg [.int .i64 e.a, .int .i64 e.s]) (mK m) 0)).2 (fun _ => h27) rfl rfl (by simp only [afI, hJ, decide_true, if_true]; exact hnext)⟩
      · refine kI_put h (ack_wl hw hs hts h3 h4 h5 g1 g2) (e.a, e.s) false fun y => ?_
        show y ∈ (pre ++ post).map Ent.iv ↔ _
        rw [hs, List.map_append, List.map_append, List.map_cons]
        by_cases c : y = (e.a, e.s)
        · subst c
          rw [if_pos rfl]
          constructor
          · intro hy
            rcases List.mem_append.1 hy with hy | hy
            · obtain ⟨z, hz, hze⟩ := List.mem_map.1 hy
              exact absurd hze (m1 z hz)
            · obtain ⟨z, hz, hze⟩ := List.mem_map.1 hy
              exact absurd hze.symm (m2 z hz)
          · intro hf; cases hf
        · rw [if_neg c]
          have c' : y ≠ e.iv := c
          simp [c']
      · exact bd_next hb (by omega) (by show Q.arr ≤ Q.arr + 1; omega) (by show Q.iss ≤ Q.iss + 1; omega) (Int.le_refl _) (by show Q.now ≤ Q.now + 11; omega)
    · refine ⟨Q, m, bs, ck, h, bd_next hb (by omega) (by omega) (by omega) (Int.le_refl _) (by omega), fun hnext => k9_ack O _ hO ops.length hn hl i hi k A B hx Q m bs ck ks K hk h22 htl Q.ts.length N hN (fun j hj _ hjn => ht ⟨_, List.getElem_mem hj, hjn⟩) (fun hj => absurd hj (by omega)) (0, 0) (fun hj => absurd hj (by omega)) Q (putP idK (0, 0) false m) (putS ck bs (findD (.agg [.int .i64 0, .int .i64 0]) (mK m) 0)).1 (putS ck bs (findD (.agg [.int .i64 0, .int .i64 0]) (mK m) 0)).2 (fun hj => absurd hj (by omega)) rfl rfl (by simp only [afI, Nat.lt_irrefl, decide_false, Bool.false_eq_true, if_false]; exact hnext)⟩
  · by_cases ht : ∃ t ∈ Q.ts, t.n = 1 + ((A % 10 : Nat) : Int)
    · obtain ⟨t, ht, htn⟩ := ht
      have h29 := relQ_run hw.towf ht
      rw [htn] at h29
      refine ⟨relQ Q (1 + ((A % 10 : Nat) : Int)), m, bs, ck, kI_same h (by rw [← htn]; exact rel_wl hw ht) (rel_ids Q _), bd_next hb (by omega) (by show Q.arr ≤ Q.arr + 1; omega) (by show Q.iss ≤ Q.iss + 1; omega) (Int.le_refl _) (by show Q.now ≤ Q.now + 11; omega), fun hnext => k9_rel O _ hO ops.length hn hl i hi k A B hx Q m bs ck ks K hk _ _ h29 hnext⟩
    · have h29 := release29_none Q (1 + ((A % 10 : Nat) : Int)) fun t h1 h2 => ht ⟨t, h1, h2⟩
      exact ⟨Q, m, bs, ck, h, bd_next hb (by omega) (by omega) (by omega) (Int.le_refl _) (by omega), fun hnext => k9_rel O _ hO ops.length hn hl i hi k A B hx Q m bs ck ks K hk _ _ h29 hnext⟩
  · obtain ⟨now, hnow⟩ : ∃ now : Int, now = Q.now + ((A % 12 : Nat) : Int) := ⟨_, rfl⟩
    have b1 : A % 12 < 12 := Nat.mod_lt _ (by omega)
    have hlt : ¬ now < Q.now := by omega
    have h26 := expire26_ok Q hw.towf now hlt (by omega)
    obtain ⟨k1, k2, k3⟩ := exp_keep (keepT now Q.ts) (Q.nw now)
    refine ⟨expQ (Q.nw now) (keepT now Q.ts), m, bs, ck, kI_same h (exp_wl (l := keepT now Q.ts) (nw_wl hw (now := now) (by omega) (by omega)) (hw.asc.filter _) fun t ht => (List.mem_filter.1 ht).1) (exp_ids _ _), bd_next hb (by omega) ?_ ?_ ?_ ?_, fun hnext => k9_exp O _ hO ops.length hn hl i hi k A B hx Q m bs ck ks K hk now hnow ⟨hb3, by omega⟩ _ _ _ h26 hnext⟩
    · rw [k1]; show Q.arr ≤ Q.arr + 1; omega
    · rw [k2]; show Q.iss ≤ Q.iss + 1; omega
    · rw [k3]; show Q.now ≤ now; omega
    · rw [k3]; show now ≤ Q.now + 11; omega
end Go.Proofs.YtdgpipoffcajgaaV
