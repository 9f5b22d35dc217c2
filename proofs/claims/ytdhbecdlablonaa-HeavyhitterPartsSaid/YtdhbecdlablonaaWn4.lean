/- Merge gives the merged summary; the walk. -/
import Derived.Test.YtdhbecdlablonaaWn3
set_option linter.unusedVariables false
set_option linter.unusedSimpArgs false
namespace Go.Proofs.YtdhbecdlablonaaV
open Go.RowKit
attribute [local simp] TK.agg constAV evalAV EK.has EK.hasAll vecEls elsR AV.toD toDs AV.cells AV.one joinD TyI.zeroD OpR.of binIntF binStrF AV.isPtr ptrNil slNil mpNil nilE eqF negF posF binF pelF pvLoad pelSet pvStore boxLoad epLoad loadF boxStore storeF fieldAddrF fieldF epOf indexAddrF byteF indexF mapLen lenF cutF sliceF sliceN sliceX isSl slice3F fillF fillV arrFs buildF partsX landV buildSliceF roomB appVec appendF appMkF capF mmFrom mmF max2' min2' clearVec clearF convF unF pickF nilChkF extF ptrsOf callF makeSliceF sameKs sameD kindIs plainFs keyOk mapOb mapEs okV lookF lookupF putE putS mapPut mapUpdateF mapDel deleteF mapAll rangeM rangeF overV hitV nextO nextF entryM entryO entryF itOids builtinF capsOf allocF boxF bytesL bytesF byteTy strTy convertF makeFuncF mapNew makeMapF makeMapH opF reach reachOf AObj.live closedB nodupB packO packL packX backN backG backO obL backE frzX frzO AV.vids frzL landC sameObs landR touchF bitsW D.cells D.decEq D.decEqs AV.decEq AV.decEqs AObj.decEq AV.oids0 AV.oids AObj.oids renG renP AV.ren0 AV.ren envGet envPut envKeep obGet setEff putV St.put stepS keyChk chkD accD Ex.block AV.under AObj.under laysOf roomFor mkvO frzG szOk killO usedBy tidyS canL canS ghost ghostE normSt resOf allSome one0 resultsF finL finishL finish endF startEnv chkC backX comeC AV.flat0 rngC loopO layL endLp busyL idleL noRng rndSt rndEnd wpn_nil wpn_seq wpn_loop wpn_seq_exit wpn_loop_exit wpn_seq_ret wpn_loop_ret wpn_block wpn_post wpk_skip wpk_exit wpk_ret wpk_reg wpk_seq wpk_condT wpk_block wpk_loop wpk_pre wpk_post wop_nil wop_cons wop_guard St.know envSet cond_d cond_bool cond_int cond_str endE endQ freeB disj pushT bitsW int_beq int_bne eqS_def tbE fuelL_eq ann0_lays ann0_dd ann0_ro elsOf_dsl elsOf_dnils toNat_succ nn_succ pos_succ one_succ rng1 rng2 rng3 rng4 rng5 rng6 rng7 rng8 List.idxOf_cons wpk_rng rndK rndE
theorem mrg_wr {a b : Sm} (ha : okS a) (hb : okS b) (ht : a.tot + b.tot ≤ 1125899906842624) : ∀ pre c suf, pre ++ c :: suf = b.cs → IntKind.i64.wrap (getM (mrg a.cs pre) c.1 + c.2) = getM (mrg a.cs pre) c.1 + c.2 := by
  intro pre c suf hs
  have hbs := hb.lostLe
  have has := ha.lostLe
  have hat := ha.tot
  have hbt := hb.tot
  have hsrt := hb.srt
  rw [← hs] at hsrt
  obtain ⟨s1, s2, s3⟩ := List.pairwise_append.1 hsrt
  have hc := (sum_le hb.pos).2 c (by rw [← hs]; simp)
  have hc1 := hb.pos c (by rw [← hs]; simp)
  rw [mrg_get c.1 pre _ s1, cnt_none fun p hp => lessS_ne (s3 p hp c (by simp))]
  have hg : getM a.cs c.1 = cntC c.1 a.cs := look_cnt c.1 a.cs
  rw [hg]
  have h0 := (cnt_pos (k := c.1) ha.pos).1
  have h1 : cntC c.1 a.cs ≤ a.tot := by
    by_cases hz : cntC c.1 a.cs = 0
    · omega
    · have := ha.le _ (cnt_mem hz); simpa using this
  exact wrap64 (by omega) (by omega)
set_option maxRecDepth 100000 in
set_option maxHeartbeats 4000000 in
theorem merge_cut (a b : Sm) (X Y : D) (hX : elsOf (.d X) = some (csD a.cs)) (hY : elsOf (.d Y) = some (csD b.cs)) (ha : srt a.cs) (hal : a.cs.length < 900) (hbl : b.cs.length < 900) (has : ∀ p ∈ a.cs, -1125899906842624 ≤ p.2 ∧ p.2 ≤ 1125899906842624)
    (hm : a.most = b.most) (hM : 1 ≤ a.most ∧ a.most ≤ 256) (ht : IntKind.i64.wrap (a.tot + b.tot) = a.tot + b.tot ∧ a.tot + b.tot ≤ 1125899906842624) (hw : ∀ pre c suf, pre ++ c :: suf = b.cs → IntKind.i64.wrap (getM (mrg a.cs pre) c.1 + c.2) = getM (mrg a.cs pre) c.1 + c.2)
    (L : List Ctr) (hp : (mrg a.cs b.cs).Perm L) (hLs : srt L) (h24 : L.length ≤ 24) (hcut : ¬ (L.length : Int) ≤ a.most) (hLw : ∀ p ∈ L, 1 ≤ p.2 ∧ p.2 ≤ 9000000000000000000) (hl12 : (lessC (cutD a.most L) L).length ≤ 12) (hlo : IntKind.i64.wrap (IntKind.i64.wrap (a.lost + b.lost) + cutD a.most L) = a.lost + b.lost + cutD a.most L) (hd0 : 0 ≤ cutD a.most L ∧ cutD a.most L ≤ 1125899906842624) :
    run CC 15 [.d (smD a X), .d (smD b Y)] [] = some (.tup [.d (smD ⟨a.most, a.tot + b.tot, a.lost + b.lost + cutD a.most L, lessC (cutD a.most L) L⟩ (.sl (csD (lessC (cutD a.most L) L)))), .d (.int .i64 0)], []) := by
  refine run_code (s := s15 0) rfl rfl rfl (by kernel_rfl) ?_
  obtain ⟨a1, a2, a3⟩ := slF hX
  simp only [AV.one, AV.cells, D.cells] at a1 a2 a3
  obtain ⟨b1, b2, b3⟩ := slF hY
  simp only [AV.one, AV.cells, D.cells] at b1 b2 b3
  have hc := counts_run a X hal ha hX has
  have hk := mrg_keys b.cs a.cs (srt_ne ha)
  have hlow := lower_run (mrg a.cs b.cs) (cutD a.most L) hk
  have hMw : ∀ p ∈ mrg a.cs b.cs, IntKind.i64.wrap (p.2 - cutD a.most L) = p.2 - cutD a.most L := fun p hpm => by
    have := hLw p (hp.mem_iff.1 hpm)
    exact wrap64 (by omega) (by omega)
  have hcn := counters_run (lowA (cutD a.most L) (mrg a.cs b.cs)) (lessC (cutD a.most L) L) (low_keys hk) (by rw [pos_low hMw]; exact less_perm hp) (less_srt hLs) hl12
  have ht2 : ¬ 1125899906842624 < a.tot + b.tot := by omega
  have hML : (mrg a.cs b.cs).length = L.length := hp.length_eq
  have hf2 : a.most < ((mapSI (mrg a.cs b.cs)).length : Int) := by rw [mapSI_len, hML]; omega
  simp only [smD] at hc
  simp [s15, smD, eqCells, T3, T4, T5, T9, T22, T25, T26, T28, T29, T36, T41, T47, T69, T74, T78, T85, T90, T98, T104, CT, a1, a2, a3, b1, b2, b3, hX, hY, ← hm, ht.1, ht2, hc]
  refine loop15_1 a.cs b Y hbl hY hw ⟨a.most, a.tot + b.tot, IntKind.i64.wrap (a.lost + b.lost), []⟩ _ _ ?_
  have h2 := fun ks K => loop15_2 (mrg a.cs b.cs) (by omega) a.most (a.tot + b.tot) (IntKind.i64.wrap (a.lost + b.lost)) ks K
  have hpc : ((mrg a.cs b.cs).map (·.2)).Perm (L.map (·.2)) := hp.map _
  have hcd : cutD a.most L = ((topC L).map (·.2)).getD a.most.toNat 0 := by unfold cutD; rw [if_neg hcut]
  obtain ⟨t1, t2⟩ := topC_ok (srt_ne hLs)
  have hD := top_desc t1
  have hpm : ((topC L).map (·.2)).Perm (L.map (·.2)) := t2.map _
  have hlD : ((topC L).map (·.2)).length = L.length := by rw [hpm.length_eq, List.length_map]
  generalize (topC L).map (·.2) = D at *
  generalize cutD a.most L = d at *
  generalize mrg a.cs b.cs = M at *
  simp [eqCells, T3, T4, T5, T9, T22, T25, T26, T28, T29, T36, T41, T47, T69, T74, T78, T85, T90, T98, T104, CT, hf2]
  refine h2 _ _ fun out hout => ?_
  clear h2
  have hol : out.length = L.length := by rw [hout.length_eq, List.length_map, hML]
  obtain ⟨e, hrun, he1, he2⟩ := Pd.sort72_run out (by omega) dcmp 42 (by decide) dcmp_run swoD
  have hed : desc e := he2.imp fun {p q} h => by
    have : ¬ dcmp q p < 0 := h
    rw [dcmp_lt] at this
    show q ≤ p
    omega
  have heD : e = D := desc_unique ((he1.trans hout).trans (hpc.trans hpm.symm)) hed hD
  subst heD
  have hMe : a.most.toNat < e.length := by omega
  have hge : (e.map Pd.zD)[a.most.toNat]? = some (.int .i64 d) := by
    rw [List.getElem?_map, List.getElem?_eq_getElem hMe, hcd, List.getD_eq_getElem?_getD, List.getElem?_eq_getElem hMe]
    rfl
  obtain ⟨hg1, hg2⟩ := List.getElem?_eq_some_iff.1 hge
  have q1 : 0 ≤ a.most := by omega
  have q2 : a.most < (out.length : Int) := by omega
  clear hcd hout hpc hpm he1 he2 hed hD hge t1 t2 hlD
  generalize e.map Pd.zD = E2 at *
  generalize out.map Pd.zD = E1 at *
  generalize out.length = n at *
  generalize mapSI M = MM at *
  generalize mapSI (lowA d M) = M2 at *
  generalize finM (lowA d M) = F at *
  generalize csD (lessC d L) = CS at *
  have hge : E2[a.most.toNat]? = some (.int .i64 d) := List.getElem?_eq_some_iff.2 ⟨hg1, hg2⟩
  simp [eqCells, T3, T4, T5, T9, T22, T25, T26, T28, T29, T36, T41, T47, T69, T74, T78, T85, T90, T98, T104, CT, hrun, hge, hg1, hg2, q1, q2, hlow, hcn, hlo]
theorem merge_run {a b : Sm} (ha : okS a) (hb : okS b) (h12 : a.most ≤ 12) (hm : a.most = b.most) (ht : a.tot + b.tot ≤ 1125899906842624) (X Y : D) (hX : elsOf (.d X) = some (csD a.cs)) (hY : elsOf (.d Y) = some (csD b.cs)) :
    run CC 15 [.d (smD a X), .d (smD b Y)] [] = some (.tup [.d (smD (mrgS a b) (.sl (csD (mrgS a b).cs))), .d (.int .i64 0)], []) := by
  have hbs := hb.lostLe
  have has := ha.lostLe
  have hat := ha.tot
  have hbt := hb.tot
  have hal := ha.lost
  have hbl := hb.lost
  have hsb := (sum_le hb.pos).1
  have hsa := (sum_le ha.pos).1
  have hB : a.tot + sumC b.cs ≤ 9000000000000000000 := by omega
  obtain ⟨g1, g2⟩ := putA_gd (ok_gd ha) hb.nm hb.pos hB
  have hpm := mrg_perm (ok_gd ha) hb.srt hb.nm hb.pos hB
  have hc := cut_ok ha.most.1 g1 hB
  have hla := ha.len
  have hlb := hb.len
  have hml := mrg_len b.cs a.cs
  have hpl := hpm.length_eq
  have hsm : ∀ p ∈ putA a.cs b.cs, 1 ≤ p.2 ∧ p.2 ≤ 9000000000000000000 := fun p hp => ⟨g1.pos p hp, by have := g1.le p hp; omega⟩
  have hwt : IntKind.i64.wrap (a.tot + b.tot) = a.tot + b.tot := wrap64 (by omega) (by omega)
  have hsA : ∀ p ∈ a.cs, -1125899906842624 ≤ p.2 ∧ p.2 ≤ 1125899906842624 := fun p hp => by
    have := ha.le p hp
    have := ha.pos p hp
    omega
  have hM := ha.most
  by_cases hf : ((putA a.cs b.cs).length : Int) ≤ a.most
  · have hd : cutD a.most (putA a.cs b.cs) = 0 := by unfold cutD; rw [if_pos hf]
    have hz := less_zero hsm
    have hwl : IntKind.i64.wrap (a.lost + b.lost) = a.lost + b.lost := wrap64 (by omega) (by omega)
    have hmp := mrg_pos b.cs a.cs ha.pos hb.pos
    have := merge_fit a b X Y hX hY ha.srt (by omega) (by omega) hsA hm ⟨hwt, ht⟩ (mrg_wr ha hb ht) (by omega) (putA a.cs b.cs) (by rw [posL_all hmp]; exact hpm) g1.s (by omega)
    rw [this]
    unfold mrgS
    rw [hd, hz, hwl, Int.add_zero]
  · have hwl : IntKind.i64.wrap (a.lost + b.lost) = a.lost + b.lost := wrap64 (by omega) (by omega)
    have hlen := hc.len
    have hd0 := hc.d0
    have hdl := hc.le
    exact merge_cut a b X Y hX hY ha.srt (by omega) (by omega) hsA hm hM ⟨hwt, ht⟩ (mrg_wr ha hb ht) (putA a.cs b.cs) hpm g1.s (by omega) hf hsm (by omega) (by rw [hwl]; exact wrap64 (by omega) (by omega)) ⟨hd0, by omega⟩
end Go.Proofs.YtdhbecdlablonaaV
