/- Merge: where nothing must go; its errors. -/
import Derived.Test.YtdhbecdlablonaaWc22p
set_option linter.unusedVariables false
set_option linter.unusedSimpArgs false
namespace Go.Proofs.YtdhbecdlablonaaV
open Go.RowKit
attribute [local simp] TK.agg constAV evalAV EK.has EK.hasAll vecEls elsR AV.toD toDs AV.cells AV.one joinD TyI.zeroD OpR.of binIntF binStrF AV.isPtr ptrNil slNil mpNil nilE eqF negF posF binF pelF pvLoad pelSet pvStore boxLoad epLoad loadF boxStore storeF fieldAddrF fieldF epOf indexAddrF byteF indexF mapLen lenF cutF sliceF sliceN sliceX isSl slice3F fillF fillV arrFs buildF partsX landV buildSliceF roomB appVec appendF appMkF capF mmFrom mmF max2' min2' clearVec clearF convF unF pickF nilChkF extF ptrsOf callF makeSliceF sameKs sameD kindIs plainFs keyOk mapOb mapEs okV lookF lookupF putE putS mapPut mapUpdateF mapDel deleteF mapAll rangeM rangeF overV hitV nextO nextF entryM entryO entryF itOids builtinF capsOf allocF boxF bytesL bytesF byteTy strTy convertF makeFuncF mapNew makeMapF makeMapH opF reach reachOf AObj.live closedB nodupB packO packL packX backN backG backO obL backE frzX frzO AV.vids frzL landC sameObs landR touchF bitsW D.cells D.decEq D.decEqs AV.decEq AV.decEqs AObj.decEq AV.oids0 AV.oids AObj.oids renG renP AV.ren0 AV.ren envGet envPut envKeep obGet setEff putV St.put stepS keyChk chkD accD Ex.block AV.under AObj.under laysOf roomFor mkvO frzG szOk killO usedBy tidyS canL canS ghost ghostE normSt resOf allSome one0 resultsF finL finishL finish endF startEnv chkC backX comeC AV.flat0 rngC loopO layL endLp busyL idleL noRng rndSt rndEnd wpn_nil wpn_seq wpn_loop wpn_seq_exit wpn_loop_exit wpn_seq_ret wpn_loop_ret wpn_block wpn_post wpk_skip wpk_exit wpk_ret wpk_reg wpk_seq wpk_condT wpk_block wpk_loop wpk_pre wpk_post wop_nil wop_cons wop_guard St.know envSet cond_d cond_bool cond_int cond_str endE endQ freeB disj pushT bitsW int_beq int_bne eqS_def tbE fuelL_eq ann0_lays ann0_dd ann0_ro elsOf_dsl elsOf_dnils toNat_succ nn_succ pos_succ one_succ rng1 rng2 rng3 rng4 rng5 rng6 rng7 rng8 List.idxOf_cons wpk_rng rndK rndE
abbrev getM (m : List Ctr) (k : ByteArray) : Int := (lookP strK k m).getD 0
theorem getM_put (m : List Ctr) (k s : ByteArray) (v : Int) : getM (putP strK k v m) s = if s = k then v else getM m s := by
  unfold getM
  rw [look_put]
  by_cases h : s = k
  · subst h; simp [strK, eqS_self]
  · have : ¬ strK.eqb s k = true := fun q => h ((strK.eq s k).1 q)
    simp [h, this]
def mrg (m : List Ctr) : List Ctr → List Ctr
  | [] => m
  | c :: l => mrg (putP strK c.1 (getM m c.1 + c.2) m) l
theorem mrg_app (c : Ctr) : ∀ (l m : List Ctr), mrg m (l ++ [c]) = putP strK c.1 (getM (mrg m l) c.1 + c.2) (mrg m l)
  | [], m => rfl
  | p :: l, m => mrg_app c l _
theorem mrg_get (k : ByteArray) : ∀ (l m : List Ctr), srt l → getM (mrg m l) k = getM m k + cntC k l
  | [], m, _ => by simp [mrg, cntC]
  | c :: l, m, h => by
    have h' := List.pairwise_cons.1 h
    simp only [mrg, cntC]
    rw [mrg_get k l _ h'.2, getM_put]
    by_cases e : k = c.1
    · subst e
      rw [cnt_none fun p hp => lessS_ne' (h'.1 p hp)]
      simp [eqS_self]
    · have e2 : ¬ eqS c.1 k = true := fun he => e ((eqS_iff _ _).1 he).symm
      simp [e, e2]
theorem mrg_keys : ∀ (l m : List Ctr), keysNe strK m → keysNe strK (mrg m l)
  | [], m, h => h
  | c :: l, m, h => mrg_keys l _ (put_keys strK h)
theorem mrg_len : ∀ (l m : List Ctr), (mrg m l).length ≤ m.length + l.length
  | [], m => by simp [mrg]
  | c :: l, m => by
    have h1 := mrg_len l (putP strK c.1 (getM m c.1 + c.2) m)
    have h2 : ∀ (k : ByteArray) (v : Int) (m : List Ctr), (putP strK k v m).length ≤ m.length + 1 := by
      intro k v m
      induction m with
      | nil => simp [putP]
      | cons p m ih => simp only [putP]; split <;> simp only [List.length_cons] <;> omega
    have := h2 c.1 (getM m c.1 + c.2) m
    simp only [mrg, List.length_cons]; omega
set_option maxRecDepth 100000 in
set_option maxHeartbeats 4000000 in
theorem loop15_1 (m0 : List Ctr) (s : Sm) (Y : D) (hl : s.cs.length < 900) (hY : elsOf (.d Y) = some (csD s.cs)) (hw : ∀ pre c suf, pre ++ c :: suf = s.cs → IntKind.i64.wrap (getM (mrg m0 pre) c.1 + c.2) = getM (mrg m0 pre) c.1 + c.2) (t : Sm) (ks : List Fr) (K : Ex → St → Prop)
    (hnext : wpn CC .norm ⟨[(4, .ptr 2 0), (6, .ptr 3 0), (7, .mp 4)], [.dead, .dead, .box [.d (.int .i64 0), .d (.int .i64 0), .d (.int .i64 0), .d .nils], .box [.d (.int .i64 t.most), .d (.int .i64 t.tot), .d (.int .i64 t.lost), .d .nils], .map (mapSI (mrg m0 s.cs))]⟩ ks K) :
    wlp CC (s15_1 0) ⟨[(4, .ptr 2 0), (6, .ptr 3 0), (7, .mp 4), (45, .d Y), (46, .d (.int .i64 s.cs.length)), (47, .d (.int .i64 0))], [.dead, .dead, .box [.d (.int .i64 0), .d (.int .i64 0), .d (.int .i64 0), .d .nils], .box [.d (.int .i64 t.most), .d (.int .i64 t.tot), .d (.int .i64 t.lost), .d .nils], .map (mapSI m0)]⟩ (.block 1 :: .post (.tidy [4, 6, 7] 0 5) :: .post (.tidy [4, 6, 7] 0 5) :: ks) K := by
  refine wlp_inv (S := fun p : List Ctr × List Ctr => ⟨[(4, .ptr 2 0), (6, .ptr 3 0), (7, .mp 4), (45, .d Y), (46, .d (.int .i64 s.cs.length)), (47, .d (.int .i64 p.1.length))], [.dead, .dead, .box [.d (.int .i64 0), .d (.int .i64 0), .d (.int .i64 0), .d .nils], .box [.d (.int .i64 t.most), .d (.int .i64 t.tot), .d (.int .i64 t.lost), .d .nils], .map (mapSI (mrg m0 p.1))]⟩) (m := fun p => p.2.length) (Inv := fun p => p.1 ++ p.2 = s.cs) ?_ ([], s.cs) rfl
  rintro ⟨pre, suf⟩ hps ih
  rw [e15_1]
  simp only at hps ⊢
  cases suf with
  | nil =>
    have hn := endL hps
    rw [List.append_nil] at hps
    rw [← hps] at hnext
    simp [c15_1, eqCells, T3, T4, T5, T9, T22, T25, T26, T28, T29, T36, T41, T47, T69, T74, T78, T85, T90, T98, T104, CT, hn]
    exact hnext
  | cons c suf =>
    obtain ⟨k1, k2, k3, k4, k5, k6⟩ := atL cE hps (by omega)
    have kg := getL k5 k4
    simp only [cE] at k3
    have hw := hw pre c suf hps
    have hlook := lookF_get strK (D.int .i64) c.1 (mrg m0 pre) 0
    have hput := putE_put strK (D.int .i64) c.1 (getM (mrg m0 pre) c.1 + c.2) (mrg m0 pre)
    rw [← mrg_app] at hput
    have ih := ih (pre ++ [c], suf) (by simpa using hps) (by simp)
    simp at ih
    change lookF false (some (D.int .i64 0)) (findD (.str c.1) (mapSI (mrg m0 pre)) 0) = some (.d (.int .i64 (getM (mrg m0 pre) c.1))) at hlook
    change putE (.str c.1) (.int .i64 (getM (mrg m0 pre) c.1 + c.2)) (mapSI (mrg m0 pre)) (findD (.str c.1) (mapSI (mrg m0 pre)) 0) = some (mapSI (mrg m0 (pre ++ [c]))) at hput
    generalize hg : getM (mrg m0 pre) c.1 = gv at *
    generalize mrg m0 (pre ++ [c]) = M2 at *
    generalize mrg m0 pre = M1 at *
    simp [c15_1, eqCells, T3, T4, T5, T9, T22, T25, T26, T28, T29, T36, T41, T47, T69, T74, T78, T85, T90, T98, T104, CT, hY, k2, k3, k4, k5, kg, cE, hlook, hput, hw, -putE, -lookF]
    exact ih
def mrgE (a b : Sm) : Int := if a.most ≠ b.most then 3 else if 1125899906842624 < IntKind.i64.wrap (a.tot + b.tot) then 20 else 0
set_option maxRecDepth 100000 in
set_option maxHeartbeats 4000000 in
theorem merge_bad (a b : Sm) (X Y : D) (hX : elsOf (.d X) = some (csD a.cs)) (hY : elsOf (.d Y) = some (csD b.cs)) (e : Int) (he : e = mrgE a b) (h0 : e ≠ 0) : run CC 15 [.d (smD a X), .d (smD b Y)] [] = some (.tup [.d (smD ⟨0, 0, 0, []⟩ .nils), .d (.int .i64 e)], []) := by
  refine run_code (s := s15 0) rfl rfl rfl (by kernel_rfl) ?_
  obtain ⟨a1, a2, a3⟩ := slF hX
  simp only [AV.one, AV.cells, D.cells] at a1 a2 a3
  obtain ⟨b1, b2, b3⟩ := slF hY
  simp only [AV.one, AV.cells, D.cells] at b1 b2 b3
  unfold mrgE at he
  by_cases h1 : a.most = b.most
  · rw [if_neg (by simp [h1])] at he
    by_cases h2 : 1125899906842624 < IntKind.i64.wrap (a.tot + b.tot)
    · rw [if_pos h2] at he
      subst he
      simp [s15, smD, eqCells, T3, T4, T5, T9, T22, T25, T26, T28, T29, T36, T41, T47, T69, T74, T78, T85, T90, T98, T104, CT, a1, a2, a3, b1, b2, b3, hX, hY, h1, h2]
    · rw [if_neg h2] at he; exact absurd he h0
  · rw [if_pos h1] at he
    subst he
    simp [s15, smD, eqCells, T3, T4, T5, T9, T22, T25, T26, T28, T29, T36, T41, T47, T69, T74, T78, T85, T90, T98, T104, CT, a1, a2, a3, b1, b2, b3, hX, hY, h1]
set_option maxRecDepth 100000 in
set_option maxHeartbeats 4000000 in
/-- Nothing must go. -/
theorem merge_fit (a b : Sm) (X Y : D) (hX : elsOf (.d X) = some (csD a.cs)) (hY : elsOf (.d Y) = some (csD b.cs)) (ha : srt a.cs) (hal : a.cs.length < 900) (hbl : b.cs.length < 900) (has : ∀ p ∈ a.cs, -1125899906842624 ≤ p.2 ∧ p.2 ≤ 1125899906842624)
    (hm : a.most = b.most) (ht : IntKind.i64.wrap (a.tot + b.tot) = a.tot + b.tot ∧ a.tot + b.tot ≤ 1125899906842624) (hw : ∀ pre c suf, pre ++ c :: suf = b.cs → IntKind.i64.wrap (getM (mrg a.cs pre) c.1 + c.2) = getM (mrg a.cs pre) c.1 + c.2)
    (hfit : ((mrg a.cs b.cs).length : Int) ≤ a.most) (l : List Ctr) (hp : (posL (mrg a.cs b.cs)).Perm l) (hl : srt l) (hl12 : l.length ≤ 12) :
    run CC 15 [.d (smD a X), .d (smD b Y)] [] = some (.tup [.d (smD ⟨a.most, a.tot + b.tot, IntKind.i64.wrap (a.lost + b.lost), l⟩ (.sl (csD l))), .d (.int .i64 0)], []) := by
  refine run_code (s := s15 0) rfl rfl rfl (by kernel_rfl) ?_
  obtain ⟨a1, a2, a3⟩ := slF hX
  simp only [AV.one, AV.cells, D.cells] at a1 a2 a3
  obtain ⟨b1, b2, b3⟩ := slF hY
  simp only [AV.one, AV.cells, D.cells] at b1 b2 b3
  have hc := counts_run a X hal ha hX has
  have hcn := counters_run (mrg a.cs b.cs) l (mrg_keys _ _ (srt_ne ha)) hp hl hl12
  have ht2 : ¬ 1125899906842624 < a.tot + b.tot := by omega
  have hf2 : ¬ a.most < ((mapSI (mrg a.cs b.cs)).length : Int) := by rw [mapSI_len]; omega
  simp only [smD] at hc
  simp [s15, smD, eqCells, T3, T4, T5, T9, T22, T25, T26, T28, T29, T36, T41, T47, T69, T74, T78, T85, T90, T98, T104, CT, a1, a2, a3, b1, b2, b3, hX, hY, ← hm, ht.1, ht2, hc]
  refine loop15_1 a.cs b Y hbl hY hw ⟨a.most, a.tot + b.tot, IntKind.i64.wrap (a.lost + b.lost), []⟩ _ _ ?_
  generalize mrg a.cs b.cs = M at *
  simp [eqCells, T3, T4, T5, T9, T22, T25, T26, T28, T29, T36, T41, T47, T69, T74, T78, T85, T90, T98, T104, CT, hf2, hcn]
end Go.Proofs.YtdhbecdlablonaaV
