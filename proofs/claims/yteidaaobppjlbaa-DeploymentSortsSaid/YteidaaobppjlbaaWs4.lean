/- Concat of two lists; Merge. -/
import Derived.Test.YteidaaobppjlbaaWs3
set_option linter.unusedVariables false
set_option linter.unusedSimpArgs false
namespace Go.Proofs.YteidaaobppjlbaaV
open Go.RowKit
attribute [local simp] TK.agg constAV evalAV EK.has EK.hasAll vecEls elsR AV.toD toDs AV.cells AV.one joinD TyI.zeroD OpR.of binIntF binStrF AV.isPtr ptrNil slNil mpNil nilE eqF negF posF binF pelF pvLoad pelSet pvStore boxLoad epLoad loadF boxStore storeF fieldAddrF fieldF epOf indexAddrF byteF indexF mapLen lenF cutF sliceF sliceN sliceX isSl slice3F fillF arrFs buildF partsX landV buildSliceF roomB appVec appendF appMkF capF mmFrom mmF max2' min2' clearVec clearF convF unF pickF nilChkF extF ptrsOf callF makeSliceF sameKs sameD kindIs plainFs keyOk mapOb mapEs okV lookF lookupF putE putS mapPut mapUpdateF mapDel deleteF mapAll rangeM rangeF overV hitV nextO nextF entryM entryO entryF itOids builtinF capsOf allocF boxF bytesL bytesF byteTy strTy convertF makeFuncF makeMapF makeMapH opF reach reachOf AObj.live closedB nodupB packO packL packX backN backG backO obL backE frzX frzO AV.vids frzL landC sameObs landR touchF bitsW D.cells D.decEq D.decEqs AV.decEq AV.decEqs AObj.decEq AV.oids0 AV.oids AObj.oids renG renP AV.ren0 AV.ren envGet envPut envKeep obGet setEff putV St.put stepS keyChk chkD accD Ex.block AV.under AObj.under laysOf roomFor mkvO frzG szOk killO usedBy tidyS ghost ghostE normSt resOf allSome one0 resultsF finL finishL finish endF startEnv chkC backX comeC AV.flat0 rngC loopO layL endLp busyL idleL noRng rndSt rndEnd wpn_nil wpn_seq wpn_loop wpn_seq_exit wpn_loop_exit wpn_seq_ret wpn_loop_ret wpn_block wpn_post wpk_skip wpk_exit wpk_ret wpk_reg wpk_seq wpk_condT wpk_block wpk_loop wpk_pre wpk_post wop_nil wop_cons wop_guard St.know envSet cond_d cond_bool cond_int cond_str endE endQ freeB disj pushT bitsW int_beq int_bne eqS_def tbE fuelL_eq ann0_lays ann0_dd ann0_ro elsOf_dsl elsOf_dnils toNat_succ nn_succ pos_succ one_succ rng1 rng2 rng3 rng4 rng5 rng6 rng7 rng8 List.idxOf_cons wpk_rng rndK rndE
def zC : D := .agg [.int .i64 0, .int .i64 0, .int .i64 0, .str ⟨#[]⟩, .str ⟨#[]⟩, .str ⟨#[]⟩]
theorem grow81_zero : run CC 81 [.d .nils, .d (.int .i64 0)] [] = some (.d .nils, []) := by
  exact run_of_go 200 (by kernel_rfl)
set_option maxRecDepth 100000 in
theorem grow81_run (n : Nat) (h0 : 0 < n) (hn : n < 1000) : run CC 81 [.d .nils, .d (.int .i64 n)] [] = some (.vs 0 0 6 0 0, [.vec 0 true false 26 6 (List.replicate n zC)]) := by
  refine run_code (s := s81 0) rfl rfl rfl (by kernel_rfl) ?_
  have h1 : ¬ (n : Int) < 0 := by omega
  have w : IntKind.i64.wrap (n : Int) = n := wrap64 (by omega) (by omega)
  have w0 : IntKind.i64.wrap 0 = 0 := by decide
  have h2 : (0 : Int) < n := by omega
  have h3 : (n : Int) ≤ 1099511627776 := by omega
  have h4 : n * 72 ≤ 140737488355328 := by omega
  unfold zC
  simp [s81, eqCells, T2, T3, T4, T5, T6, T8, T9, T22, T26, T27, T30, T32, T37, T39, T54, T66, T73, T99, T110, T116, T135, T141, T148, T150, T157, CT, w0, h1, w, h2, h0, h3, h4]
set_option maxRecDepth 100000 in
set_option maxHeartbeats 4000000 in
theorem concat64_run (A B : D) (la lb : List Chg) (ha : la.length ≤ 24) (hb : lb.length ≤ 24) (hA : elsOf (.d A) = some (la.map Chg.enc)) (hB : elsOf (.d B) = some (lb.map Chg.enc)) : run CC 64 [.d (.sl [A, B])] [] = some (.d (.sl ((la ++ lb).map Chg.enc)), []) := by
  refine run_code (s := s64 0) rfl rfl rfl (by kernel_rfl) ?_
  obtain ⟨a1, a2, a3⟩ := slF hA
  obtain ⟨b1, b2, b3⟩ := slF hB
  simp only [D.cells] at a3 b3
  have hla : (la.map Chg.enc).length = la.length := by simp
  have hlb : (lb.map Chg.enc).length = lb.length := by simp
  have hza : szAll 6 (la.map Chg.enc) = true := by simp [szAll, Chg.enc, D.cells]
  have hzb : szAll 6 (lb.map Chg.enc) = true := by simp [szAll, Chg.enc, D.cells]
  have hm : (la ++ lb).map Chg.enc = la.map Chg.enc ++ lb.map Chg.enc := by simp
  rw [hm]
  generalize la.map Chg.enc = EA at *
  generalize lb.map Chg.enc = EB at *
  generalize la.length = na at *
  generalize lb.length = nb at *
  have w1 : IntKind.i64.wrap ((na : Int)) = (na : Int) := wrap64 (by omega) (by omega)
  have w2 : IntKind.i64.wrap ((na : Int) + nb) = (na : Int) + nb := wrap64 (by omega) (by omega)
  have x1 : IntKind.i64.wrap 1 = 1 := by decide
  have x2 : IntKind.i64.wrap 2 = 2 := by decide
  have p1 : ¬ (na : Int) < 0 := by omega
  have p2 : ¬ (na : Int) + nb < 0 := by omega
  simp [s64, eqCells, T2, T3, T4, T5, T6, T8, T9, T22, T26, T27, T30, T32, T37, T39, T54, T66, T73, T99, T110, T116, T135, T141, T148, T150, T157, CT]
  refine wlp_inv (S := fun i : Nat => ⟨[(0, .d (.sl [A, B])), (3, .d (.int .i64 (if i = 0 then 0 else if i = 1 then (na : Int) else (na : Int) + nb))), (9, .d (.sl [A, B])), (10, .d (.int .i64 2)), (11, .d (.int .i64 i))], []⟩) (m := fun i => 2 - i) (Inv := fun i => i = 0 ∨ i = 1 ∨ i = 2) ?_ 0 (.inl rfl)
  rintro i hi ih
  rw [e64_1]
  rcases hi with rfl | rfl | rfl
  · have ih := ih 1 (by simp) (by simp)
    simp at ih
    simp [c64_1, eqCells, T2, T3, T4, T5, T6, T8, T9, T22, T26, T27, T30, T32, T37, T39, T54, T66, T73, T99, T110, T116, T135, T141, T148, T150, T157, CT, x1, x2, a3, b3, hA, hla, w1, p1]
    exact ih
  · have ih := ih 2 (by simp) (by simp)
    simp at ih
    simp [c64_1, eqCells, T2, T3, T4, T5, T6, T8, T9, T22, T26, T27, T30, T32, T37, T39, T54, T66, T73, T99, T110, T116, T135, T141, T148, T150, T157, CT, x1, x2, a3, b3, hB, hlb, w2, p2]
    exact ih
  · clear ih
    by_cases h0 : na + nb = 0
    · have e1 : na = 0 := by omega
      have e2 : nb = 0 := by omega
      subst e1; subst e2
      have f1 : EA = [] := List.eq_nil_of_length_eq_zero hla
      have f2 : EB = [] := List.eq_nil_of_length_eq_zero hlb
      subst f1; subst f2
      simp [c64_1, eqCells, T2, T3, T4, T5, T6, T8, T9, T22, T26, T27, T30, T32, T37, T39, T54, T66, T73, T99, T110, T116, T135, T141, T148, T150, T157, CT, grow81_zero]
      refine wlp_inv (S := fun i : Nat => ⟨[(6, .vs 1 0 6 0 0), (25, .d (.sl [A, B])), (26, .d (.int .i64 2)), (27, .d (.int .i64 i))], [.dead, .vec 0 true false 26 6 []]⟩) (m := fun i => 2 - i) (Inv := fun i => i = 0 ∨ i = 1 ∨ i = 2) ?_ 0 (.inl rfl)
      rintro i hi ih
      rw [e64_2]
      rcases hi with rfl | rfl | rfl
      · have ih := ih 1 (by simp) (by simp)
        simp [c64_2, eqCells, T2, T3, T4, T5, T6, T8, T9, T22, T26, T27, T30, T32, T37, T39, T54, T66, T73, T99, T110, T116, T135, T141, T148, T150, T157, CT, x1, x2, a3, b3, hA, hza]
        exact ih
      · have ih := ih 2 (by simp) (by simp)
        simp [c64_2, eqCells, T2, T3, T4, T5, T6, T8, T9, T22, T26, T27, T30, T32, T37, T39, T54, T66, T73, T99, T110, T116, T135, T141, T148, T150, T157, CT, x1, x2, a3, b3, hB, hzb]
        exact ih
      · simp [c64_2, eqCells, T2, T3, T4, T5, T6, T8, T9, T22, T26, T27, T30, T32, T37, T39, T54, T66, T73, T99, T110, T116, T135, T141, T148, T150, T157, CT]
    · have g := grow81_run (na + nb) (by omega) (by omega)
      simp only [Int.natCast_add] at g
      simp [c64_1, eqCells, T2, T3, T4, T5, T6, T8, T9, T22, T26, T27, T30, T32, T37, T39, T54, T66, T73, T99, T110, T116, T135, T141, T148, T150, T157, CT, g]
      have r1 : na * 72 ≤ 140737488355328 := by omega
      have r2 : na ≤ 9223372036854775807 := by omega
      have r3 : (na + nb) * 72 ≤ 140737488355328 := by omega
      have r4 : na + nb ≤ 9223372036854775807 := by omega
      have t1 : EA.take na = EA := List.take_of_length_le (by omega)
      have t2 : (EA ++ EB).take (na + nb) = EA ++ EB := List.take_of_length_le (by simp; omega)
      generalize List.replicate (na + nb) zC = R at *
      refine wlp_inv (S := fun i : Nat => ⟨[(6, .vs 0 0 6 0 (if i = 0 then 0 else if i = 1 then na else na + nb)), (25, .d (.sl [A, B])), (26, .d (.int .i64 2)), (27, .d (.int .i64 i))], [.vec 0 true false 26 6 (if i = 0 then R else if i = 1 then EA else EA ++ EB), .dead]⟩) (m := fun i => 2 - i) (Inv := fun i => i = 0 ∨ i = 1 ∨ i = 2) ?_ 0 (.inl rfl)
      rintro i hi ih
      rw [e64_2]
      rcases hi with rfl | rfl | rfl
      · have ih := ih 1 (by simp) (by simp)
        simp at ih
        simp [c64_2, eqCells, T2, T3, T4, T5, T6, T8, T9, T22, T26, T27, T30, T32, T37, T39, T54, T66, T73, T99, T110, T116, T135, T141, T148, T150, T157, CT, x1, x2, a3, b3, hA, hza, hla, r1, r2]
        exact ih
      · have ih := ih 2 (by simp) (by simp)
        simp at ih
        simp [c64_2, eqCells, T2, T3, T4, T5, T6, T8, T9, T22, T26, T27, T30, T32, T37, T39, T54, T66, T73, T99, T110, T116, T135, T141, T148, T150, T157, CT, x1, x2, a3, b3, hB, hzb, hlb, r3, r4, t1, hla]
        exact ih
      · simp [c64_2, eqCells, T2, T3, T4, T5, T6, T8, T9, T22, T26, T27, T30, T32, T37, T39, T54, T66, T73, T99, T110, T116, T135, T141, T148, T150, T157, CT, t2]
/-- What Merge gives. -/
def mrgR (l : List Chg) : List AV := if chkL [] (sortC l) = 0 then [.d (.sl ((sortC l).map Chg.enc)), .d (.int .i64 0)] else [.d .nils, .d (.int .i64 (if chkL [] (sortC l) = 9 then 17 else chkL [] (sortC l)))]
set_option maxRecDepth 100000 in
set_option maxHeartbeats 4000000 in
theorem merge38_run (A B : D) (la lb : List Chg) (ha : la.length ≤ 12) (hb : lb.length ≤ 12) (hA : elsOf (.d A) = some (la.map Chg.enc)) (hB : elsOf (.d B) = some (lb.map Chg.enc)) : run CC 38 [.d A, .d B] [] = some (.tup (mrgR (la ++ lb)), []) := by
  refine run_code (s := s38 0) rfl rfl rfl (by kernel_rfl) ?_
  obtain ⟨a1, a2, a3⟩ := slF hA
  obtain ⟨b1, b2, b3⟩ := slF hB
  simp only [D.cells] at a3 b3
  have hc := concat64_run A B la lb (by omega) (by omega) hA hB
  have hs := sort37_run (.sl ((la ++ lb).map Chg.enc)) (la ++ lb) (by simp; omega) rfl
  unfold srtR at hs
  unfold mrgR
  generalize (sortC (la ++ lb)).map Chg.enc = G at *
  generalize (la ++ lb).map Chg.enc = E at *
  generalize chkL [] (sortC (la ++ lb)) = e at *
  by_cases he : e = 0
  · subst he
    simp at hs
    simp [s38, eqCells, T2, T3, T4, T5, T6, T8, T9, T22, T26, T27, T30, T32, T37, T39, T54, T66, T73, T99, T110, T116, T135, T141, T148, T150, T157, CT, hc, hs, a3, b3]
  · rw [if_neg he] at hs
    by_cases h9 : e = 9
    · simp [s38, eqCells, T2, T3, T4, T5, T6, T8, T9, T22, T26, T27, T30, T32, T37, T39, T54, T66, T73, T99, T110, T116, T135, T141, T148, T150, T157, CT, hc, hs, he, h9, a3, b3]
    · simp [s38, eqCells, T2, T3, T4, T5, T6, T8, T9, T22, T26, T27, T30, T32, T37, T39, T54, T66, T73, T99, T110, T116, T135, T141, T148, T150, T157, CT, hc, hs, he, h9, a3, b3]
end Go.Proofs.YteidaaobppjlbaaV
