/- The law DeploymentSorts: the walk. -/
import Derived.Test.YteidaaobppjlbaaWs5
set_option linter.unusedVariables false
set_option linter.unusedSimpArgs false
namespace Go.Proofs.YteidaaobppjlbaaV
open Go.RowKit
attribute [local simp] TK.agg constAV evalAV EK.has EK.hasAll vecEls elsR AV.toD toDs AV.cells AV.one joinD TyI.zeroD OpR.of binIntF binStrF AV.isPtr ptrNil slNil mpNil nilE eqF negF posF binF pelF pvLoad pelSet pvStore boxLoad epLoad loadF boxStore storeF fieldAddrF fieldF epOf indexAddrF byteF indexF mapLen lenF cutF sliceF sliceN sliceX isSl slice3F fillF arrFs buildF partsX landV buildSliceF roomB appVec appendF appMkF capF mmFrom mmF max2' min2' clearVec clearF convF unF pickF nilChkF extF ptrsOf callF makeSliceF sameKs sameD kindIs plainFs keyOk mapOb mapEs okV lookF lookupF putE putS mapPut mapUpdateF mapDel deleteF mapAll rangeM rangeF overV hitV nextO nextF entryM entryO entryF itOids builtinF capsOf allocF boxF bytesL bytesF byteTy strTy convertF makeFuncF makeMapF makeMapH opF reach reachOf AObj.live closedB nodupB packO packL packX backN backG backO obL backE frzX frzO AV.vids frzL landC sameObs landR touchF bitsW D.cells D.decEq D.decEqs AV.decEq AV.decEqs AObj.decEq AV.oids0 AV.oids AObj.oids renG renP AV.ren0 AV.ren envGet envPut envKeep obGet setEff putV St.put stepS keyChk chkD accD Ex.block AV.under AObj.under laysOf roomFor mkvO frzG szOk killO usedBy tidyS ghost ghostE normSt resOf allSome one0 resultsF finL finishL finish endF startEnv chkC backX comeC AV.flat0 rngC loopO layL endLp busyL idleL noRng rndSt rndEnd wpn_nil wpn_seq wpn_loop wpn_seq_exit wpn_loop_exit wpn_seq_ret wpn_loop_ret wpn_block wpn_post wpk_skip wpk_exit wpk_ret wpk_reg wpk_seq wpk_condT wpk_block wpk_loop wpk_pre wpk_post wop_nil wop_cons wop_guard St.know envSet cond_d cond_bool cond_int cond_str endE endQ freeB disj pushT bitsW int_beq int_bne eqS_def tbE fuelL_eq ann0_lays ann0_dd ann0_ro elsOf_dsl elsOf_dnils toNat_succ nn_succ pos_succ one_succ rng1 rng2 rng3 rng4 rng5 rng6 rng7 rng8 List.idxOf_cons wpk_rng rndK rndE
set_option maxRecDepth 100000 in
theorem same33_run (A B : D) (L : List Chg) (hl : L.length < 1000) (hA : elsOf (.d A) = some (L.map Chg.enc)) (hB : elsOf (.d B) = some (L.map Chg.enc)) : run CC 33 [.d A, .d B] [] = some (.d (.bool true), []) := by
  refine run_code (s := s33 0) rfl rfl rfl (by kernel_rfl) ?_
  simp [s33, eqCells, T2, T3, T4, T5, T6, T8, T9, T22, T26, T27, T30, T32, T37, T39, T54, T66, T73, T99, T110, T116, T135, T141, T148, T150, T157, CT, hA, hB]
  refine wlp_inv (S := fun p : List Chg × List Chg => ⟨[(0, .d A), (1, .d B), (5, .d (.int .i64 p.1.length))], []⟩) (m := fun p => p.2.length) (Inv := fun p => p.1 ++ p.2 = L) ?_ ([], L) rfl
  rintro ⟨pre, suf⟩ hps ih
  rw [e33_1]
  simp only at hps ⊢
  cases suf with
  | nil =>
    have h := endL hps
    simp [c33_1, eqCells, T2, T3, T4, T5, T6, T8, T9, T22, T26, T27, T30, T32, T37, T39, T54, T66, T73, T99, T110, T116, T135, T141, T148, T150, T157, CT, hA, h]
  | cons c suf =>
    obtain ⟨k1, k2, k3, k4, k5, k6⟩ := atL Chg.enc hps (by omega)
    have kg := getL k5 k4
    have ih := ih (pre ++ [c], suf) (by simpa using hps) (by simp)
    simp at ih
    have hE := eqc c c
    rw [(same_iff c c).2 rfl] at hE
    simp only [Chg.enc] at k3
    simp [c33_1, T2, T3, T4, T5, T6, T8, T9, T22, T26, T27, T30, T32, T37, T39, T54, T66, T73, T99, T110, T116, T135, T141, T148, T150, T157, CT, CQ, QQ, Chg.enc, hA, hB, k2, k3, k4, k5, kg, hE]
    exact ih
set_option maxRecDepth 100000 in
set_option maxHeartbeats 4000000 in
theorem law12_run (A B : D) (la lb : List Chg) (ha : la.length < 4611686018427387904) (hb : lb.length < 4611686018427387904) (hA : elsOf (.d A) = some (la.map Chg.enc)) (hB : elsOf (.d B) = some (lb.map Chg.enc)) : run CC 12 [.d A, .d B] [] = some (.d (.bool true), []) := by
  refine run_code (s := s12 0) rfl rfl rfl (by kernel_rfl) ?_
  by_cases ha12 : (12 : Int) < la.length
  · simp [s12, eqCells, T2, T3, T4, T5, T6, T8, T9, T22, T26, T27, T30, T32, T37, T39, T54, T66, T73, T99, T110, T116, T135, T141, T148, T150, T157, CT, hA, known_run, ha12]
  by_cases hb12 : (12 : Int) < lb.length
  · simp [s12, eqCells, T2, T3, T4, T5, T6, T8, T9, T22, T26, T27, T30, T32, T37, T39, T54, T66, T73, T99, T110, T116, T135, T141, T148, T150, T157, CT, hA, hB, known_run, ha12, hb12]
  have hs := sort37_run A la (by omega) hA
  have hm := merge38_run A B la lb (by omega) (by omega) hA hB
  obtain ⟨X, ⟨hX, hX0⟩, hsx⟩ := sorted_run' A la (by omega) hA
  obtain ⟨Y, ⟨hY, hY0⟩, hsy⟩ := sorted_runv (la ++ lb) (la.length + lb.length) (by simp) (by omega)
  have lX := sortC_len la
  have lY := sortC_len (la ++ lb)
  rw [List.length_append] at lY
  have kX := check18_run X (sortC la) (by omega) hX
  have kY := check18_run Y (sortC (la ++ lb)) (by omega) hY
  rw [if_neg (by omega), ← chk_eq] at kX kY
  have q1 := same33_run (.sl ((sortC la).map Chg.enc)) X (sortC la) (by omega) rfl hX
  have q2 := same33_run (.sl ((sortC (la ++ lb)).map Chg.enc)) Y (sortC (la ++ lb)) (by omega) rfl hY
  have q0 := same33_run .nils .nils [] (by simp) rfl rfl
  unfold srtR at hs
  unfold mrgR at hm
  have hlam : (la.map Chg.enc).length = la.length := by simp
  have hlbm : (lb.map Chg.enc).length = lb.length := by simp
  have z1 : szAll 6 (la.map Chg.enc) = true := by simp [szAll, Chg.enc, D.cells]
  have z2 : szAll 6 (lb.map Chg.enc) = true := by simp [szAll, Chg.enc, D.cells]
  have r1 : la.length * 72 ≤ 140737488355328 := by omega
  have r2 : la.length ≤ 9223372036854775807 := by omega
  have r3 : (la.length + lb.length) * 72 ≤ 140737488355328 := by omega
  have r4 : la.length + lb.length ≤ 9223372036854775807 := by omega
  have t1 : (la.map Chg.enc).take la.length = la.map Chg.enc := takeM _ _
  have t2 : (la.map Chg.enc ++ lb.map Chg.enc).take (la.length + lb.length) = la.map Chg.enc ++ lb.map Chg.enc := List.take_of_length_le (by simp)
  rw [List.map_append] at hsy
  generalize chkL [] (sortC la) = e at *
  generalize chkL [] (sortC (la ++ lb)) = f at *
  generalize (sortC la).map Chg.enc = G at *
  generalize (sortC (la ++ lb)).map Chg.enc = H at *
  generalize la.map Chg.enc = EA at *
  generalize lb.map Chg.enc = EB at *
  generalize la.length = na at *
  generalize lb.length = nb at *
  by_cases he : e = 0
  · subst he
    rw [if_pos rfl] at hs
    by_cases hf : f = 0
    · subst hf
      rw [if_pos rfl] at hm
      simp [s12, eqCells, T2, T3, T4, T5, T6, T8, T9, T22, T26, T27, T30, T32, T37, T39, T54, T66, T73, T99, T110, T116, T135, T141, T148, T150, T157, CT, hA, hB, known_run, ha12, hb12, hs, hm, hsx, hsy, kX, kY, q0, q1, q2, hlam, hlbm, z1, z2, r1, r2, r3, r4, t1, t2]
    · rw [if_neg hf] at hm
      by_cases h9 : f = 9
      · subst h9
        simp [s12, eqCells, T2, T3, T4, T5, T6, T8, T9, T22, T26, T27, T30, T32, T37, T39, T54, T66, T73, T99, T110, T116, T135, T141, T148, T150, T157, CT, hA, hB, known_run, ha12, hb12, hs, hm, hsx, hsy, kX, kY, q0, q1, q2, hlam, hlbm, z1, z2, r1, r2, r3, r4, t1, t2]
      · rw [if_neg h9] at hm
        simp [s12, eqCells, T2, T3, T4, T5, T6, T8, T9, T22, T26, T27, T30, T32, T37, T39, T54, T66, T73, T99, T110, T116, T135, T141, T148, T150, T157, CT, hA, hB, known_run, ha12, hb12, hs, hm, hsx, hsy, kX, kY, q0, q1, q2, hlam, hlbm, z1, z2, r1, r2, r3, r4, t1, t2, hf, h9]
  · rw [if_neg he] at hs
    by_cases hf : f = 0
    · subst hf
      rw [if_pos rfl] at hm
      simp [s12, eqCells, T2, T3, T4, T5, T6, T8, T9, T22, T26, T27, T30, T32, T37, T39, T54, T66, T73, T99, T110, T116, T135, T141, T148, T150, T157, CT, hA, hB, known_run, ha12, hb12, hs, hm, hsx, hsy, kX, kY, q0, q1, q2, hlam, hlbm, z1, z2, r1, r2, r3, r4, t1, t2, he]
    · rw [if_neg hf] at hm
      by_cases h9 : f = 9
      · subst h9
        simp [s12, eqCells, T2, T3, T4, T5, T6, T8, T9, T22, T26, T27, T30, T32, T37, T39, T54, T66, T73, T99, T110, T116, T135, T141, T148, T150, T157, CT, hA, hB, known_run, ha12, hb12, hs, hm, hsx, hsy, kX, kY, q0, q1, q2, hlam, hlbm, z1, z2, r1, r2, r3, r4, t1, t2, he]
      · rw [if_neg h9] at hm
        simp [s12, eqCells, T2, T3, T4, T5, T6, T8, T9, T22, T26, T27, T30, T32, T37, T39, T54, T66, T73, T99, T110, T116, T135, T141, T148, T150, T157, CT, hA, hB, known_run, ha12, hb12, hs, hm, hsx, hsy, kX, kY, q0, q1, q2, hlam, hlbm, z1, z2, r1, r2, r3, r4, t1, t2, he, hf, h9]
end Go.Proofs.YteidaaobppjlbaaV
