/- The states of a series. -/
import Derived.Test.YtpooehcjchkbkaaWc49h
set_option linter.unusedVariables false
set_option linter.unusedSimpArgs false
namespace Go.Proofs.YtpooehcjchkbkaaV
open Go.RowKit
def Mon.sts : Mon → List (Int × Int) → List Int
  | _, [] => []
  | M, p :: l => (M.obs p.1 p.2).state :: (M.obs p.1 p.2).sts l
def Mon.fin : Mon → List (Int × Int) → Mon
  | M, [] => M
  | M, p :: l => (M.obs p.1 p.2).fin l
theorem fin_app : ∀ (l : List (Int × Int)) (M : Mon) (a : Int × Int), M.fin (l ++ [a]) = (M.fin l).obs a.1 a.2
  | [], M, a => rfl
  | b :: l, M, a => fin_app l (M.obs b.1 b.2) a
theorem sts_app : ∀ (l : List (Int × Int)) (M : Mon) (a : Int × Int), M.sts (l ++ [a]) = M.sts l ++ [((M.fin l).obs a.1 a.2).state]
  | [], M, a => rfl
  | b :: l, M, a => by simp only [List.cons_append, Mon.sts, Mon.fin, sts_app l]
theorem sts_len : ∀ (l : List (Int × Int)) (M : Mon), (M.sts l).length = l.length
  | [], M => rfl
  | b :: l, M => by simp [Mon.sts, sts_len l]
structure Mon.inv (M : Mon) : Prop where
  rg : M.rul.rg
  seen : M.seen = M.hist.length
  held : 0 ≤ M.held ∧ M.held ≤ M.hist.length
theorem obs_rul (M : Mon) (e t : Int) : (M.obs e t).rul = M.rul := by unfold Mon.obs; split <;> rfl
theorem obs_hist (M : Mon) (e t : Int) : (M.obs e t).hist = M.hist ++ [(e, t)] := by unfold Mon.obs; split <;> rfl
theorem obs_inv {M : Mon} (h : M.inv) (e t : Int) : (M.obs e t).inv := by
  obtain ⟨h1, h2, h3, h4⟩ := h
  refine ⟨by rw [obs_rul]; exact h1, ?_, ?_⟩
  · rw [obs_hist]; unfold Mon.obs; split <;> simp [h2]
  · rw [obs_hist]; unfold Mon.obs; split <;> simp <;> omega
theorem fin_hist : ∀ (l : List (Int × Int)) (M : Mon), (M.fin l).hist = M.hist ++ l
  | [], M => by simp [Mon.fin]
  | b :: l, M => by rw [Mon.fin, fin_hist l, obs_hist]; simp
theorem fin_inv : ∀ (l : List (Int × Int)) {M : Mon}, M.inv → (M.fin l).inv
  | [], M, h => h
  | b :: l, M, h => fin_inv l (obs_inv h b.1 b.2)
theorem sT_app : ∀ (l m : List (Int × Int)), sT (l ++ m) = sT l + sT m
  | [], m => by simp [sT]
  | a :: l, m => by simp [sT, sT_app l m]; omega
set_option maxRecDepth 100000 in
theorem eval37_run (A B : D) (l : List (Int × Int)) (M : Mon) (hM : M.inv) (hA : elsOf (.d A) = some (l.map fun p => D.int .i64 p.1)) (hB : elsOf (.d B) = some (l.map fun p => D.int .i64 p.2)) (hl : M.hist.length + l.length ≤ 256) (ho : okH (M.hist ++ l)) (ht : sT (M.hist ++ l) ≤ 4294967296) :
    run CC 37 [.d A, .d B, .fn 38 [(0, 0)] []] [.box (monL M)] = some (.d (.sl ((M.sts l).map (D.int .i64))), [.box (monL (M.fin l))]) := by
  refine run_code (s := s37 1) rfl rfl rfl (by kernel_rfl) ?_
  obtain ⟨a1, a2, a3⟩ := slF hA
  obtain ⟨b1, b2, b3⟩ := slF hB
  simp only [AV.one, AV.cells, D.cells] at a1 a2 a3 b1 b2 b3
  simp [s37, TK.agg, constAV, evalAV, eqCells, EK.has, EK.hasAll, vecEls, elsR, AV.toD, toDs, AV.cells, AV.one, joinD, TyI.zeroD, OpR.of, binIntF, binStrF, AV.isPtr, ptrNil, slNil, mpNil, nilE, eqF, negF, posF, binF, pelF, pvLoad, pelSet, pvStore, boxLoad, epLoad, loadF, boxStore, storeF, fieldAddrF, fieldF, epOf, indexAddrF, byteF, indexF, mapLen, lenF, cutF, sliceF, sliceN, sliceX, isSl, slice3F, fillF, fillV, arrFs, buildF, partsX, landV, buildSliceF, roomB, appVec, appendF, appMkF, capF, mmFrom, mmF, max2', min2', clearVec, clearF, convF, unF, pickF, nilChkF, extF, ptrsOf, callF, makeSliceF, sameKs, sameD, kindIs, plainFs, keyOk, mapOb, mapEs, okV, lookF, lookupF, putE, putS, mapPut, mapUpdateF, mapDel, deleteF, mapAll, rangeM, rangeF, overV, hitV, nextO, nextF, entryM, entryO, entryF, itOids, builtinF, capsOf, allocF, boxF, bytesL, bytesF, byteTy, strTy, convertF, makeFuncF, mapNew, makeMapF, makeMapH, opF, reach, reachOf, AObj.live, closedB, nodupB, packO, packL, packX, backN, backG, backO, obL, backE, frzX, frzO, AV.vids, frzL, landC, sameObs, landR, touchF, bitsW, D.cells, D.decEq, D.decEqs, AV.decEq, AV.decEqs, AObj.decEq, AV.oids0, AV.oids, AObj.oids, renG, renP, AV.ren0, AV.ren, envGet, envPut, envKeep, obGet, setEff, putV, St.put, stepS, keyChk, chkD, accD, Ex.block, AV.under, AObj.under, laysOf, roomFor, mkvO, frzG, szOk, killO, usedBy, tidyS, canL, canS, ghost, ghostE, normSt, resOf, allSome, one0, resultsF, finL, finishL, finish, endF, startEnv, chkC, backX, comeC, AV.flat0, rngC, loopO, layL, endLp, busyL, idleL, noRng, rndSt, rndEnd, wpn_nil, wpn_seq, wpn_loop, wpn_seq_exit, wpn_loop_exit, wpn_seq_ret, wpn_loop_ret, wpn_block, wpn_post, wpk_skip, wpk_exit, wpk_ret, wpk_reg, wpk_seq, wpk_condT, wpk_block, wpk_loop, wpk_pre, wpk_post, wop_nil, wop_cons, wop_guard, St.know, envSet, cond_d, cond_bool, cond_int, cond_str, endE, endQ, freeB, disj, pushT, bitsW, int_beq, int_bne, eqS_def, tbE, fuelL_eq, ann0_lays, ann0_dd, ann0_ro, elsOf_dsl, elsOf_dnils, toNat_succ, nn_succ, pos_succ, one_succ, rng1, rng2, rng3, rng4, rng5, rng6, rng7, rng8, List.idxOf_cons, wpk_rng, rndK, rndE, T3, T4, T5, T9, T23, T25, T27, T32, T33, T35, T39, T50, T52, T57, T59, T64, T65, T66, T70, T71, T77, T81, T83, T88, T89, T91, T95, T97, T99, T100, T112, CT, hA, hB, a1, a2, a3, b1, b2, b3, mon_oids, mon_ren, monL_len]
  refine wlp_inv (S := fun p : List (Int × Int) × List (Int × Int) => ⟨[(0, .d A), (1, .d B), (2, .fn 38 [(0, 0)] []), (7, .vs 1 0 1 0 p.1.length), (10, .d (.int .i64 l.length)), (11, .d (.int .i64 p.1.length))], [.box (monL (M.fin p.1)), .vec 0 true false 3 1 ((M.sts p.1).map (D.int .i64))]⟩) (m := fun p => p.2.length) (Inv := fun p => p.1 ++ p.2 = l) ?_ ([], l) rfl
  rintro ⟨p1, s1⟩ g1 ih
  rw [e37_1]
  simp only at g1 ⊢
  have hsl := sts_len p1 M
  have htk : ((M.sts p1).map (D.int .i64)).take p1.length = (M.sts p1).map (D.int .i64) := List.take_of_length_le (by simp [hsl])
  cases s1 with
  | nil =>
    have hn := endL g1
    rw [List.append_nil] at g1
    subst g1
    simp [c37_1, TK.agg, constAV, evalAV, eqCells, EK.has, EK.hasAll, vecEls, elsR, AV.toD, toDs, AV.cells, AV.one, joinD, TyI.zeroD, OpR.of, binIntF, binStrF, AV.isPtr, ptrNil, slNil, mpNil, nilE, eqF, negF, posF, binF, pelF, pvLoad, pelSet, pvStore, boxLoad, epLoad, loadF, boxStore, storeF, fieldAddrF, fieldF, epOf, indexAddrF, byteF, indexF, mapLen, lenF, cutF, sliceF, sliceN, sliceX, isSl, slice3F, fillF, fillV, arrFs, buildF, partsX, landV, buildSliceF, roomB, appVec, appendF, appMkF, capF, mmFrom, mmF, max2', min2', clearVec, clearF, convF, unF, pickF, nilChkF, extF, ptrsOf, callF, makeSliceF, sameKs, sameD, kindIs, plainFs, keyOk, mapOb, mapEs, okV, lookF, lookupF, putE, putS, mapPut, mapUpdateF, mapDel, deleteF, mapAll, rangeM, rangeF, overV, hitV, nextO, nextF, entryM, entryO, entryF, itOids, builtinF, capsOf, allocF, boxF, bytesL, bytesF, byteTy, strTy, convertF, makeFuncF, mapNew, makeMapF, makeMapH, opF, reach, reachOf, AObj.live, closedB, nodupB, packO, packL, packX, backN, backG, backO, obL, backE, frzX, frzO, AV.vids, frzL, landC, sameObs, landR, touchF, bitsW, D.cells, D.decEq, D.decEqs, AV.decEq, AV.decEqs, AObj.decEq, AV.oids0, AV.oids, AObj.oids, renG, renP, AV.ren0, AV.ren, envGet, envPut, envKeep, obGet, setEff, putV, St.put, stepS, keyChk, chkD, accD, Ex.block, AV.under, AObj.under, laysOf, roomFor, mkvO, frzG, szOk, killO, usedBy, tidyS, canL, canS, ghost, ghostE, normSt, resOf, allSome, one0, resultsF, finL, finishL, finish, endF, startEnv, chkC, backX, comeC, AV.flat0, rngC, loopO, layL, endLp, busyL, idleL, noRng, rndSt, rndEnd, wpn_nil, wpn_seq, wpn_loop, wpn_seq_exit, wpn_loop_exit, wpn_seq_ret, wpn_loop_ret, wpn_block, wpn_post, wpk_skip, wpk_exit, wpk_ret, wpk_reg, wpk_seq, wpk_condT, wpk_block, wpk_loop, wpk_pre, wpk_post, wop_nil, wop_cons, wop_guard, St.know, envSet, cond_d, cond_bool, cond_int, cond_str, endE, endQ, freeB, disj, pushT, bitsW, int_beq, int_bne, eqS_def, tbE, fuelL_eq, ann0_lays, ann0_dd, ann0_ro, elsOf_dsl, elsOf_dnils, toNat_succ, nn_succ, pos_succ, one_succ, rng1, rng2, rng3, rng4, rng5, rng6, rng7, rng8, List.idxOf_cons, wpk_rng, rndK, rndE, T3, T4, T5, T9, T23, T25, T27, T32, T33, T35, T39, T50, T52, T57, T59, T64, T65, T66, T70, T71, T77, T81, T83, T88, T89, T91, T95, T97, T99, T100, T112, CT, htk, hsl, mon_oids, mon_ren, monL_len]
  | cons x s1 =>
    obtain ⟨k1, k2, k3, k4, k5, k6⟩ := atL (fun p : Int × Int => D.int .i64 p.1) g1 (by omega)
    have kg := getL k5 k4
    obtain ⟨j1, j2, j3, j4, j5, j6⟩ := atL (fun p : Int × Int => D.int .i64 p.2) g1 (by omega)
    have jg := getL j5 j4
    have hi := fin_inv p1 hM
    have hh := fin_hist p1 M
    have e1 : M.hist ++ l = M.hist ++ p1 ++ [x] ++ s1 := by rw [← g1]; simp
    have e2 : l.length = p1.length + 1 + s1.length := by rw [← g1]; simp; omega
    have h1 : okH (M.hist ++ p1 ++ [x]) := fun a ha => ho a (by rw [e1]; exact List.mem_append_left _ ha)
    have h2 : sT (M.hist ++ p1 ++ [x]) ≤ 4294967296 := by
      have h3 := sT_app (M.hist ++ p1 ++ [x]) s1
      have h4 := okH_le s1 fun a ha => ho a (by rw [e1]; exact List.mem_append_right _ ha)
      rw [e1] at ht
      omega
    have hr := obs38_run (M.fin p1) x.1 x.2 hi.rg hi.seen (by rw [hh]; simp; omega) hi.held (by rw [hh]; exact h1) (by rw [hh]; exact h2)
    have ih := ih (p1 ++ [x], s1) (by simpa using g1) (by simp)
    simp only [fin_app, sts_app] at ih
    simp at ih
    have r1 : (p1.length + 1) * 8 ≤ 140737488355328 := by omega
    have r2 : p1.length ≤ 9223372036854775806 := by omega
    have sz : szAll 1 [D.int .i64 ((M.fin p1).obs x.1 x.2).state] = true := rfl
    simp [c37_1, TK.agg, constAV, evalAV, eqCells, EK.has, EK.hasAll, vecEls, elsR, AV.toD, toDs, AV.cells, AV.one, joinD, TyI.zeroD, OpR.of, binIntF, binStrF, AV.isPtr, ptrNil, slNil, mpNil, nilE, eqF, negF, posF, binF, pelF, pvLoad, pelSet, pvStore, boxLoad, epLoad, loadF, boxStore, storeF, fieldAddrF, fieldF, epOf, indexAddrF, byteF, indexF, mapLen, lenF, cutF, sliceF, sliceN, sliceX, isSl, slice3F, fillF, fillV, arrFs, buildF, partsX, landV, buildSliceF, roomB, appVec, appendF, appMkF, capF, mmFrom, mmF, max2', min2', clearVec, clearF, convF, unF, pickF, nilChkF, extF, ptrsOf, callF, makeSliceF, sameKs, sameD, kindIs, plainFs, keyOk, mapOb, mapEs, okV, lookF, lookupF, putE, putS, mapPut, mapUpdateF, mapDel, deleteF, mapAll, rangeM, rangeF, overV, hitV, nextO, nextF, entryM, entryO, entryF, itOids, builtinF, capsOf, allocF, boxF, bytesL, bytesF, byteTy, strTy, convertF, makeFuncF, mapNew, makeMapF, makeMapH, opF, reach, reachOf, AObj.live, closedB, nodupB, packO, packL, packX, backN, backG, backO, obL, backE, frzX, frzO, AV.vids, frzL, landC, sameObs, landR, touchF, bitsW, D.cells, D.decEq, D.decEqs, AV.decEq, AV.decEqs, AObj.decEq, AV.oids0, AV.oids, AObj.oids, renG, renP, AV.ren0, AV.ren, envGet, envPut, envKeep, obGet, setEff, putV, St.put, stepS, keyChk, chkD, accD, Ex.block, AV.under, AObj.under, laysOf, roomFor, mkvO, frzG, szOk, killO, usedBy, tidyS, canL, canS, ghost, ghostE, normSt, resOf, allSome, one0, resultsF, finL, finishL, finish, endF, startEnv, chkC, backX, comeC, AV.flat0, rngC, loopO, layL, endLp, busyL, idleL, noRng, rndSt, rndEnd, wpn_nil, wpn_seq, wpn_loop, wpn_seq_exit, wpn_loop_exit, wpn_seq_ret, wpn_loop_ret, wpn_block, wpn_post, wpk_skip, wpk_exit, wpk_ret, wpk_reg, wpk_seq, wpk_condT, wpk_block, wpk_loop, wpk_pre, wpk_post, wop_nil, wop_cons, wop_guard, St.know, envSet, cond_d, cond_bool, cond_int, cond_str, endE, endQ, freeB, disj, pushT, bitsW, int_beq, int_bne, eqS_def, tbE, fuelL_eq, ann0_lays, ann0_dd, ann0_ro, elsOf_dsl, elsOf_dnils, toNat_succ, nn_succ, pos_succ, one_succ, rng1, rng2, rng3, rng4, rng5, rng6, rng7, rng8, List.idxOf_cons, wpk_rng, rndK, rndE, T3, T4, T5, T9, T23, T25, T27, T32, T33, T35, T39, T50, T52, T57, T59, T64, T65, T66, T70, T71, T77, T81, T83, T88, T89, T91, T95, T97, T99, T100, T112, CT, hA, hB, a1, a2, a3, b1, b2, b3, htk, hsl, mon_oids, mon_ren, monL_len, k2, k3, k4, k5, kg, j3, j4, j5, jg, hr, r1, r2, sz]
    exact ih
end Go.Proofs.YtpooehcjchkbkaaV
