/- The law DeploymentTiles. -/
import Derived.Test.YteidaaobppjlbaaWd25
set_option linter.unusedVariables false
set_option linter.unusedSimpArgs false
namespace Go.Proofs.YteidaaobppjlbaaV
open Go.RowKit
theorem rolL_len : ∀ l : List Chg, (rolL l).length ≤ l.length
  | [] => Nat.le_refl _
  | c :: r => by
    have := rolL_len r
    simp only [rolL]; split <;> simp <;> omega
theorem decL_mem : ∀ (l : List Stp) (i : Nat) (c : Chg), c ∈ decL i l → ∃ x ∈ l, ∃ j, c = x.chg j
  | [], i, c, h => by simp [decL] at h
  | x :: l, i, c, h => by
    simp only [decL, List.mem_cons] at h
    rcases h with rfl | h
    · exact ⟨x, by simp, _, rfl⟩
    · obtain ⟨y, h1, h2⟩ := decL_mem l (i + 1) c h
      exact ⟨y, by simp [h1], h2⟩
theorem changes_wf (l : List Stp) (hok : ∀ x ∈ l, x.ok) : ∀ c ∈ changesC l, wfC c := by
  intro c hc
  obtain ⟨x, hx, j, rfl⟩ := decL_mem _ _ c ((sort_up _).2 c hc)
  obtain ⟨_, ⟨a0, _⟩, _⟩ := hok x (List.mem_of_mem_take hx)
  have := tmod_lt a0 (n := 64) (by omega)
  refine ⟨by show x.slot.tmod 64 ≤ 63; omega, fun hk => ?_⟩
  have hk' : 1 + x.kind.tmod 3 = 1 := hk
  simp [Stp.chg, hk']
set_option maxRecDepth 100000 in
theorem law4_run (A : D) (l : List Stp) (hok : ∀ x ∈ l, x.ok) (hA : elsOf (.d A) = some (l.map Stp.enc)) : run CC 4 [.d A] [] = some (.d (.bool true), []) := by
  refine run_code (s := s4 0) rfl rfl rfl (by kernel_rfl) ?_
  obtain ⟨B, hB, hs⟩ := changes_run A l hok hA
  have hlen : (changesC l).length ≤ 12 := by
    have h1 := sortC_len (decL 0 (l.take 12))
    have h2 := decL_len (l.take 12) 0
    have h3 : (l.take 12).length ≤ 12 := by simp; omega
    unfold changesC; omega
  have hr := rollouts_run B (changesC l) (by omega) hB
  simp [s4, TK.agg, constAV, evalAV, eqCells, EK.has, EK.hasAll, vecEls, elsR, AV.toD, toDs, AV.cells, AV.one, joinD, TyI.zeroD, OpR.of, binIntF, binStrF, eqF, negF, posF, binF, pelF, pvLoad, pelSet, pvStore, boxLoad, epLoad, loadF, boxStore, storeF, fieldAddrF, fieldF, epOf, indexAddrF, byteF, indexF, mapLen, lenF, cutF, sliceF, fillF, buildF, partsX, landV, buildSliceF, roomB, appVec, appendF, mmFrom, mmF, max2', min2', builtinF, convF, unF, pickF, nilChkF, extF, ptrsOf, callF, makeSliceF, sameD, keyOk, mapOb, mapEs, okV, lookF, lookupF, putE, mapPut, mapUpdateF, capsOf, allocF, boxF, convertF, makeFuncF, makeMapF, opF, reach, reachOf, AObj.live, closedB, nodupB, packO, packL, packX, backN, backG, backO, obL, backE, frzX, frzO, AV.vids, frzL, landC, touchF, D.cells, AV.oids0, AV.oids, AObj.oids, renG, renP, AV.ren0, AV.ren, envGet, envPut, envKeep, obGet, setEff, putV, St.put, stepS, keyChk, chkD, accD, Ex.block, AV.under, AObj.under, laysOf, roomFor, mkvO, frzG, szOk, killO, usedBy, tidyS, ghost, ghostE, normSt, resOf, allSome, one0, resultsF, finL, finishL, finish, endF, startEnv, chkC, backX, comeC, wpn_nil, wpn_seq, wpn_loop, wpn_seq_exit, wpn_loop_exit, wpn_seq_ret, wpn_loop_ret, wpn_block, wpn_post, wpk_skip, wpk_exit, wpk_ret, wpk_reg, wpk_seq, wpk_condT, wpk_block, wpk_loop, wpk_pre, wpk_post, wop_nil, wop_cons, wop_guard, St.know, envSet, cond_d, cond_bool, cond_int, cond_str, endE, endQ, freeB, disj, pushT, bitsW, int_beq, int_bne, eqS_def, Nat.testBit_eq_decide_div_mod_eq, fuelL_eq, ann0_lays, ann0_dd, elsOf_dsl, elsOf_dnils, toNat_succ, nn_succ, pos_succ, one_succ, T3, T4, T5, T9, T22, T26, T27, T30, T32, T34, T37, T39, T54, T66, T73, T99, T116, CT, hA, hs, hr]
  have hT : ∃ M, tilesF [] (rolL (changesC l)) = some M ∧ ∀ c ∈ changesC l, c.kind = 1 → lookP strK c.svc M = some 1048577 := by
    obtain ⟨M, h1, h2, _⟩ := tiles_main (changesC l) [] (sort_up _).1 (changes_wf l hok) (fun s v h => by cases h)
    exact ⟨M, h1, h2⟩
  obtain ⟨M, hM1, hM2⟩ := hT
  refine loop4_1 B _ (by have := rolL_len (changesC l); omega) M hM1 _ _ ?_
  simp [TK.agg, constAV, evalAV, eqCells, EK.has, EK.hasAll, vecEls, elsR, AV.toD, toDs, AV.cells, AV.one, joinD, TyI.zeroD, OpR.of, binIntF, binStrF, eqF, negF, posF, binF, pelF, pvLoad, pelSet, pvStore, boxLoad, epLoad, loadF, boxStore, storeF, fieldAddrF, fieldF, epOf, indexAddrF, byteF, indexF, mapLen, lenF, cutF, sliceF, fillF, buildF, partsX, landV, buildSliceF, roomB, appVec, appendF, mmFrom, mmF, max2', min2', builtinF, convF, unF, pickF, nilChkF, extF, ptrsOf, callF, makeSliceF, sameD, keyOk, mapOb, mapEs, okV, lookF, lookupF, putE, mapPut, mapUpdateF, capsOf, allocF, boxF, convertF, makeFuncF, makeMapF, opF, reach, reachOf, AObj.live, closedB, nodupB, packO, packL, packX, backN, backG, backO, obL, backE, frzX, frzO, AV.vids, frzL, landC, touchF, D.cells, AV.oids0, AV.oids, AObj.oids, renG, renP, AV.ren0, AV.ren, envGet, envPut, envKeep, obGet, setEff, putV, St.put, stepS, keyChk, chkD, accD, Ex.block, AV.under, AObj.under, laysOf, roomFor, mkvO, frzG, szOk, killO, usedBy, tidyS, ghost, ghostE, normSt, resOf, allSome, one0, resultsF, finL, finishL, finish, endF, startEnv, chkC, backX, comeC, wpn_nil, wpn_seq, wpn_loop, wpn_seq_exit, wpn_loop_exit, wpn_seq_ret, wpn_loop_ret, wpn_block, wpn_post, wpk_skip, wpk_exit, wpk_ret, wpk_reg, wpk_seq, wpk_condT, wpk_block, wpk_loop, wpk_pre, wpk_post, wop_nil, wop_cons, wop_guard, St.know, envSet, cond_d, cond_bool, cond_int, cond_str, endE, endQ, freeB, disj, pushT, bitsW, int_beq, int_bne, eqS_def, Nat.testBit_eq_decide_div_mod_eq, fuelL_eq, ann0_lays, ann0_dd, elsOf_dsl, elsOf_dnils, toNat_succ, nn_succ, pos_succ, one_succ, T3, T4, T5, T9, T22, T26, T27, T30, T32, T34, T37, T39, T54, T66, T73, T99, T116, CT]
  refine loop4_2 B _ (by omega) hB M hM2 _ _ ?_
  simp [TK.agg, constAV, evalAV, eqCells, EK.has, EK.hasAll, vecEls, elsR, AV.toD, toDs, AV.cells, AV.one, joinD, TyI.zeroD, OpR.of, binIntF, binStrF, eqF, negF, posF, binF, pelF, pvLoad, pelSet, pvStore, boxLoad, epLoad, loadF, boxStore, storeF, fieldAddrF, fieldF, epOf, indexAddrF, byteF, indexF, mapLen, lenF, cutF, sliceF, fillF, buildF, partsX, landV, buildSliceF, roomB, appVec, appendF, mmFrom, mmF, max2', min2', builtinF, convF, unF, pickF, nilChkF, extF, ptrsOf, callF, makeSliceF, sameD, keyOk, mapOb, mapEs, okV, lookF, lookupF, putE, mapPut, mapUpdateF, capsOf, allocF, boxF, convertF, makeFuncF, makeMapF, opF, reach, reachOf, AObj.live, closedB, nodupB, packO, packL, packX, backN, backG, backO, obL, backE, frzX, frzO, AV.vids, frzL, landC, touchF, D.cells, AV.oids0, AV.oids, AObj.oids, renG, renP, AV.ren0, AV.ren, envGet, envPut, envKeep, obGet, setEff, putV, St.put, stepS, keyChk, chkD, accD, Ex.block, AV.under, AObj.under, laysOf, roomFor, mkvO, frzG, szOk, killO, usedBy, tidyS, ghost, ghostE, normSt, resOf, allSome, one0, resultsF, finL, finishL, finish, endF, startEnv, chkC, backX, comeC, wpn_nil, wpn_seq, wpn_loop, wpn_seq_exit, wpn_loop_exit, wpn_seq_ret, wpn_loop_ret, wpn_block, wpn_post, wpk_skip, wpk_exit, wpk_ret, wpk_reg, wpk_seq, wpk_condT, wpk_block, wpk_loop, wpk_pre, wpk_post, wop_nil, wop_cons, wop_guard, St.know, envSet, cond_d, cond_bool, cond_int, cond_str, endE, endQ, freeB, disj, pushT, bitsW, int_beq, int_bne, eqS_def, Nat.testBit_eq_decide_div_mod_eq, fuelL_eq, ann0_lays, ann0_dd, elsOf_dsl, elsOf_dnils, toNat_succ, nn_succ, pos_succ, one_succ, T3, T4, T5, T9, T22, T26, T27, T30, T32, T34, T37, T39, T54, T66, T73, T99, T116, CT, known_run]
end Go.Proofs.YteidaaobppjlbaaV
