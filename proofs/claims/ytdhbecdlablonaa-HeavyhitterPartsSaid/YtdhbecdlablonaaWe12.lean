/- The law HeavyhitterMerges: the walk. -/
import Derived.Test.YtdhbecdlablonaaWn6
set_option linter.unusedVariables false
set_option linter.unusedSimpArgs false
namespace Go.Proofs.YtdhbecdlablonaaV
open Go.RowKit
attribute [local simp] TK.agg constAV evalAV EK.has EK.hasAll vecEls elsR AV.toD toDs AV.cells AV.one joinD TyI.zeroD OpR.of binIntF binStrF AV.isPtr ptrNil slNil mpNil nilE eqF negF posF binF pelF pvLoad pelSet pvStore boxLoad epLoad loadF boxStore storeF fieldAddrF fieldF epOf indexAddrF byteF indexF mapLen lenF cutF sliceF sliceN sliceX isSl slice3F fillF fillV arrFs buildF partsX landV buildSliceF roomB appVec appendF appMkF capF mmFrom mmF max2' min2' clearVec clearF convF unF pickF nilChkF extF ptrsOf callF makeSliceF sameKs sameD kindIs plainFs keyOk mapOb mapEs okV lookF lookupF putE putS mapPut mapUpdateF mapDel deleteF mapAll rangeM rangeF overV hitV nextO nextF entryM entryO entryF itOids builtinF capsOf allocF boxF bytesL bytesF byteTy strTy convertF makeFuncF mapNew makeMapF makeMapH opF reach reachOf AObj.live closedB nodupB packO packL packX backN backG backO obL backE frzX frzO AV.vids frzL landC sameObs landR touchF bitsW D.cells D.decEq D.decEqs AV.decEq AV.decEqs AObj.decEq AV.oids0 AV.oids AObj.oids renG renP AV.ren0 AV.ren envGet envPut envKeep obGet setEff putV St.put stepS keyChk chkD accD Ex.block AV.under AObj.under laysOf roomFor mkvO frzG szOk killO usedBy tidyS canL canS ghost ghostE normSt resOf allSome one0 resultsF finL finishL finish endF startEnv chkC backX comeC AV.flat0 rngC loopO layL endLp busyL idleL noRng rndSt rndEnd wpn_nil wpn_seq wpn_loop wpn_seq_exit wpn_loop_exit wpn_seq_ret wpn_loop_ret wpn_block wpn_post wpk_skip wpk_exit wpk_ret wpk_reg wpk_seq wpk_condT wpk_block wpk_loop wpk_pre wpk_post wop_nil wop_cons wop_guard St.know envSet cond_d cond_bool cond_int cond_str endE endQ freeB disj pushT bitsW int_beq int_bne eqS_def tbE fuelL_eq ann0_lays ann0_dd ann0_ro elsOf_dsl elsOf_dnils toNat_succ nn_succ pos_succ one_succ rng1 rng2 rng3 rng4 rng5 rng6 rng7 rng8 List.idxOf_cons wpk_rng rndK rndE
theorem mostI_12 (n : Int) : mostI n ≤ 12 := by unfold mostI; omega
theorem keyK_run (k : Nat) (h : k < 26) : run CC 20 [.d (.agg [.int .u8 k, .int .u8 0])] [] = some (.d (.str (keyB k)), []) := key_run ⟨k, 0⟩ ⟨⟨by simp only; omega, by simp only; omega⟩, by simp, by simp⟩
set_option maxRecDepth 100000 in
set_option maxHeartbeats 4000000 in
theorem loop12_1 (A B : D) (l m : List It) (hok : ∀ x ∈ l, x.ok) (hok2 : ∀ x ∈ m, x.ok) (hA : elsOf (.d A) = some (l.map It.enc)) (hB : elsOf (.d B) = some (m.map It.enc)) (s : Sm) (X : D) (hX : elsOf (.d X) = some (csD s.cs)) (hs : okS s) (hb : ∀ q, cntC q s.cs ≤ exC q (l.take 60) + exC q (m.take 60) ∧ exC q (l.take 60) + exC q (m.take 60) ≤ cntC q s.cs + s.lost) (ks : List Fr) (K : Ex → St → Prop)
    (hnext : wpn CC .norm ⟨[], [.dead, .dead, .dead, .dead, .dead]⟩ ks K) :
    wlp CC (s12_1 0) ⟨[(1, .d A), (2, .d B), (9, .ptr 3 0), (13, .d (.int .i64 0))], [.dead, .dead, .dead, .box [.d (.int .i64 s.most), .d (.int .i64 s.tot), .d (.int .i64 s.lost), .d X], .dead]⟩ (.block 0 :: .post (.tidy [] 0 5) :: .post (.tidy [] 0 5) :: ks) K := by
  obtain ⟨a1, a2, a3⟩ := slF hX
  simp only [AV.one, AV.cells, D.cells] at a1 a2 a3
  refine wlp_inv (S := fun k : Nat => ⟨[(1, .d A), (2, .d B), (9, .ptr 3 0), (13, .d (.int .i64 k))], [.dead, .dead, .dead, .box [.d (.int .i64 s.most), .d (.int .i64 s.tot), .d (.int .i64 s.lost), .d X], .dead]⟩) (m := fun k => 26 - k) (Inv := fun k => k ≤ 26) ?_ 0 (by omega)
  rintro k hk ih
  rw [e12_1]
  by_cases h : k < 26
  · have q1 : (k : Int) < 26 := by omega
    have w1 : IntKind.u8.wrap (k : Int) = k := wrap_u8 (by omega) (by omega)
    have w2 : IntKind.i64.wrap ((k : Int) + 1) = (k : Int) + 1 := wrap64 (by omega) (by omega)
    have hkey := keyK_run k h
    have hex := exact_run A l (keyB k) hok hA
    have hex2 := exact_run B m (keyB k) hok2 hB
    have hbo := bounds_run s X hs.short hs.srt hX hs.small (keyB k)
    rw [hs.hi] at hbo
    obtain ⟨b1, b2⟩ := hb (keyB k)
    have b3 := exC_le (keyB k) (l.take 60)
    have b4 : ((l.take 60).length : Int) ≤ 60 := by simp; omega
    have b5 := exC_le (keyB k) (m.take 60)
    have b6 : ((m.take 60).length : Int) ≤ 60 := by simp; omega
    have ih := ih (k + 1) (by omega) (by omega)
    simp at ih
    have w3 : IntKind.i64.wrap (exC (keyB k) (l.take 60) + exC (keyB k) (m.take 60)) = exC (keyB k) (l.take 60) + exC (keyB k) (m.take 60) := wrap64 (by omega) (by omega)
    generalize exC (keyB k) (l.take 60) = ex at *
    generalize exC (keyB k) (m.take 60) = ey at *
    generalize cntC (keyB k) s.cs = ct at *
    have c1 : ¬ ex + ey < ct := by omega
    have c2 : ¬ ct + s.lost < ex + ey := by omega
    simp only [smD] at hbo
    simp [c12_1, eqCells, T3, T4, T5, T9, T22, T25, T26, T28, T29, T36, T41, T47, T69, T74, T78, T85, T90, T98, T104, CT, q1, w1, w2, hkey, hex, hex2, hbo, w3, c1, c2, a1, a2, a3]
    exact ih
  · have q1 : ¬ (k : Int) < 26 := by omega
    simp [c12_1, eqCells, T3, T4, T5, T9, T22, T25, T26, T28, T29, T36, T41, T47, T69, T74, T78, T85, T90, T98, T104, CT, q1, a1, a2, a3]
    exact hnext
theorem addS_most (s : Sm) (k : ByteArray) (w : Int) : (addS s k w).most = s.most := by
  unfold addS
  split <;> rfl
set_option maxRecDepth 100000 in
set_option maxHeartbeats 8000000 in
theorem law12_run (n0 n1 : Int) (hn0 : 0 ≤ n0 ∧ n0 < 256) (hn1 : 0 ≤ n1 ∧ n1 < 256) (A B : D) (l m : List It) (hok : ∀ x ∈ l, x.ok) (hok2 : ∀ x ∈ m, x.ok) (hA : elsOf (.d A) = some (l.map It.enc)) (hB : elsOf (.d B) = some (m.map It.enc)) : run CC 12 [.d (.agg [.int .u8 n0, .int .u8 n1]), .d A, .d B] [] = some (.d (.bool true), []) := by
  refine run_code (s := s12 0) rfl rfl rfl (by kernel_rfl) ?_
  have hm0 := most_run n0 hn0
  have hm1 := most_run n1 hn1
  obtain ⟨X, hX, hst⟩ := stream_run (mostI n0) A l hok hA
  obtain ⟨Y, hY, hst2⟩ := stream_run (mostI n1) B m hok2 hB
  obtain ⟨hs, hmo, -, htt, hbo⟩ := str_ok (mostI n0) (mostI_ok n0) l
  obtain ⟨hs2, hmo2, -, htt2, hbo2⟩ := str_ok (mostI n1) (mostI_ok n1) m
  obtain ⟨a1, a2, a3⟩ := slF hX
  simp only [AV.one, AV.cells, D.cells] at a1 a2 a3
  obtain ⟨b1, b2, b3⟩ := slF hY
  simp only [AV.one, AV.cells, D.cells] at b1 b2 b3
  have hm12 := mostI_12 n0
  generalize strS (mostI n0) l = s at *
  generalize strS (mostI n1) m = t at *
  have ht0 := hs.tot
  have ht1 := hs2.tot
  by_cases hmm : s.most = t.most
  · have hT : s.tot + t.tot ≤ 1125899906842624 := by omega
    have h15 := merge_run hs hs2 (by omega) hmm hT X Y hX hY
    have h15' := merge_run hs2 hs (by omega) hmm.symm (by omega) Y X hY hX
    rw [← mrgS_comm hs hs2 hmm hT] at h15'
    have h36 := merge36_run hs hs2 (by omega) hmm hT X Y hX hY
    obtain ⟨hz, hzl, hzb⟩ := mrgS_ok hs hs2 hmm hT
    have h16 := equal_run (mrgS s t) (mrgS s t) (.sl (csD (mrgS s t).cs)) (.sl (csD (mrgS s t).cs)) (by have := hz.short; omega) rfl rfl
    have h27 := checkP_run (mrgS s t) (.sl (csD (mrgS s t).cs)) hz.short rfl
    rw [chk_ok hz] at h27
    have hloop := fun ks K => loop12_1 A B l m hok hok2 hA hB (mrgS s t) (.sl (csD (mrgS s t).cs)) rfl hz (fun q => by
      have h1 := hzb q
      have h2 := hbo q
      have h3 := hbo2 q
      omega) ks K
    simp only [decide_true] at h16
    clear hzb hbo hbo2 hz hzl
    generalize mrgS s t = z at *
    simp only [smD] at h15 h15' h36 h16 h27 hst hst2
    rw [hmm] at h15 h15' h36
    generalize csD z.cs = ZC at *
    simp [s12, eqCells, T3, T4, T5, T9, T22, T25, T26, T28, T29, T36, T41, T47, T69, T74, T78, T85, T90, T98, T104, CT, known_run, hm0, hm1, hst, hst2, a1, a2, a3, b1, b2, b3, hmm, h15, h15', h36, h16, h27]
    refine hloop _ _ ?_
    simp [eqCells, T3, T4, T5, T9, T22, T25, T26, T28, T29, T36, T41, T47, T69, T74, T78, T85, T90, T98, T104, CT]
  · have h15 := merge_bad s t X Y hX hY 3 (by unfold mrgE; rw [if_pos hmm]) (by decide)
    have h15' := merge_bad t s Y X hY hX 3 (by unfold mrgE; rw [if_pos (fun h => hmm h.symm)]) (by decide)
    have h16 := equal_run ⟨0, 0, 0, []⟩ ⟨0, 0, 0, []⟩ .nils .nils (by simp) rfl rfl
    simp only [decide_true] at h16
    simp only [smD] at h15 h15' h16 hst hst2
    simp [s12, eqCells, T3, T4, T5, T9, T22, T25, T26, T28, T29, T36, T41, T47, T69, T74, T78, T85, T90, T98, T104, CT, known_run, hm0, hm1, hst, hst2, a1, a2, a3, b1, b2, b3, hmm, h15, h15', h16]
end Go.Proofs.YtdhbecdlablonaaV
