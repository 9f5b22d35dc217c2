/- The law DeploymentCalls: the walk. -/
import Derived.Test.YteidaaobppjlbaaWg4
set_option linter.unusedVariables false
set_option linter.unusedSimpArgs false
namespace Go.Proofs.YteidaaobppjlbaaV
open Go.RowKit
def NLs : List D := [.str ⟨#[97, 112, 105]⟩, .str ⟨#[99, 97, 99, 104, 101]⟩, .str ⟨#[100, 98]⟩, .str ⟨#[119, 101, 98]⟩]
theorem NLs_get {p : Nat} (h : p < 4) : NLs[p]? = some (.str (nmI p)) := by
  have : p = 0 ∨ p = 1 ∨ p = 2 ∨ p = 3 := by omega
  rcases this with rfl | rfl | rfl | rfl <;> rfl
theorem P16_get {i : Nat} (h : i < 16) : P16[i]? = some (prI i) := by unfold P16; simp [h]
theorem P16_take {i : Nat} (h : i < 16) : P16.take (i + 1) = P16.take i ++ [prI i] := by
  have hl : i < P16.length := by simp [P16]; exact h
  have hg := (List.getElem?_eq_some_iff.1 (P16_get h)).2
  rw [List.take_add_one]
  simp [P16_get h]
theorem changes_len12 (l : List Stp) : (changesC l).length ≤ 12 := by
  unfold changesC
  have h1 := sortC_len (decL 0 (l.take 12))
  rw [decL_len] at h1
  simp at h1
  omega
def ctI (a : Int) (L : List Chg) (i : Nat) : List Pr := (P16.take i).filter fun s => decide (cntD a s L % 2 = 1)
theorem ctI_le (a : Int) (L : List Chg) (i : Nat) : (ctI a L i).length ≤ 16 := by
  have h1 := List.length_filter_le (fun s => decide (cntD a s L % 2 = 1)) (P16.take i)
  have h2 : (P16.take i).length ≤ 16 := by simp [P16]; omega
  unfold ctI; omega
theorem ctI_odd {a : Int} {L : List Chg} {i : Nat} (h : i < 16) (ho : cntD a (prI i) L % 2 = 1) : ctI a L (i + 1) = ctI a L i ++ [prI i] ∧ (oddL a L)[(ctI a L i).length]? = some (prI i) := by
  unfold ctI oddL
  rw [P16_take h]
  constructor
  · have e : [prI i].filter (fun s => decide (cntD a s L % 2 = 1)) = [prI i] := by simp [ho]
    rw [List.filter_append, e]
  · have e : P16 = P16.take i ++ (prI i :: P16.drop (i + 1)) := by
      have := List.take_append_drop (i + 1) P16
      rw [P16_take h] at this
      simpa using this.symm
    conv => lhs; arg 1; rw [e]
    rw [List.filter_append, List.filter_cons, if_pos (decide_eq_true ho)]
    simp
theorem ctI_even {a : Int} {L : List Chg} {i : Nat} (h : i < 16) (ho : ¬ cntD a (prI i) L % 2 = 1) : ctI a L (i + 1) = ctI a L i := by
  unfold ctI
  have e : [prI i].filter (fun s => decide (cntD a s L % 2 = 1)) = [] := by
    rw [List.filter_cons, if_neg (by simpa using ho)]; rfl
  rw [P16_take h, List.filter_append, e, List.append_nil]
theorem ctI_all (a : Int) (L : List Chg) : ctI a L 16 = oddL a L := by
  unfold ctI oddL
  rw [List.take_of_length_le (by simp [P16])]
set_option maxRecDepth 100000 in
set_option maxHeartbeats 4000000 in
theorem loop11_1 (a : Int) (B : D) (L : List Chg) (hL : L.length ≤ 12) (hB : elsOf (.d B) = some (L.map Chg.enc)) (ks : List Fr) (K : Ex → St → Prop)
    (hnext : wpn CC .norm ⟨[(7, .d (.sl (psD (oddL a L)))), (8, .d (.int .i64 (oddL a L).length))], [.dead]⟩ ks K) :
    wlp CC (s11_1 0) ⟨[(1, .d (.int .i64 a)), (5, .d B), (6, .d (.sl NLs)), (7, .d (.sl (psD (oddL a L)))), (8, .d (.int .i64 0)), (9, .d (.int .i64 0))], [.dead]⟩ (.block 0 :: .post (.tidy [7, 8] 0 1) :: .post (.tidy [7, 8] 0 1) :: ks) K := by
  refine wlp_inv (S := fun i : Nat => ⟨[(1, .d (.int .i64 a)), (5, .d B), (6, .d (.sl NLs)), (7, .d (.sl (psD (oddL a L)))), (8, .d (.int .i64 (ctI a L i).length)), (9, .d (.int .i64 i))], [.dead]⟩) (m := fun i => 16 - i) (Inv := fun i => i ≤ 16) ?_ 0 (by omega)
  rintro i hi ih
  rw [e11_1]
  have hle := ctI_le a L i
  by_cases h : i < 16
  · have q1 : (i : Int) < 16 := by omega
    have hd : (i : Int).tdiv 4 = ((i / 4 : Nat) : Int) := by rw [Int.tdiv_eq_ediv_of_nonneg (by omega)]; simp
    have hr : (i : Int).tmod 4 = ((i % 4 : Nat) : Int) := by rw [Int.tmod_eq_emod_of_nonneg (by omega)]; simp
    have hp := NLs_get (p := i / 4) (by omega)
    have hq := NLs_get (p := i % 4) (by omega)
    have pl : i / 4 < NLs.length := (List.getElem?_eq_some_iff.1 hp).1
    have pg := (List.getElem?_eq_some_iff.1 hp).2
    have ql : i % 4 < NLs.length := (List.getElem?_eq_some_iff.1 hq).1
    have qg := (List.getElem?_eq_some_iff.1 hq).2
    have wp : IntKind.i64.wrap ((i / 4 : Nat) : Int) = ((i / 4 : Nat) : Int) := wrap64 (by omega) (by omega)
    have wq : IntKind.i64.wrap ((i % 4 : Nat) : Int) = ((i % 4 : Nat) : Int) := wrap64 (by omega) (by omega)
    have w2 : IntKind.i64.wrap ((i : Int) + 1) = (i : Int) + 1 := wrap64 (by omega) (by omega)
    have hcl := cntD_le a (prI i) L
    have ih := ih (i + 1) (by omega) (by omega)
    have hloop := loop11_2 a B (.sl NLs) (.sl (psD (oddL a L))) L hL hB NLs rfl (i / 4) (i % 4) i hp hq (by omega) (by omega) hd hr (ctI a L i).length
    simp [c11_1, TK.agg, constAV, evalAV, eqCells, EK.has, EK.hasAll, vecEls, elsR, AV.toD, toDs, AV.cells, AV.one, joinD, TyI.zeroD, OpR.of, binIntF, binStrF, AV.isPtr, ptrNil, slNil, mpNil, nilE, eqF, negF, posF, binF, pelF, pvLoad, pelSet, pvStore, boxLoad, epLoad, loadF, boxStore, storeF, fieldAddrF, fieldF, epOf, indexAddrF, byteF, indexF, mapLen, lenF, cutF, sliceF, isSl, slice3F, fillF, arrFs, buildF, partsX, landV, buildSliceF, roomB, appVec, appendF, mmFrom, mmF, max2', min2', clearVec, clearF, convF, unF, pickF, nilChkF, extF, ptrsOf, callF, makeSliceF, sameKs, sameD, kindIs, plainFs, keyOk, mapOb, mapEs, okV, lookF, lookupF, putE, putS, mapPut, mapUpdateF, mapDel, deleteF, mapAll, rangeM, rangeF, overV, hitV, nextO, nextF, entryM, entryO, entryF, itOids, builtinF, capsOf, allocF, boxF, bytesL, bytesF, byteTy, strTy, convertF, makeFuncF, makeMapF, makeMapH, opF, reach, reachOf, AObj.live, closedB, nodupB, packO, packL, packX, backN, backG, backO, obL, backE, frzX, frzO, AV.vids, frzL, landC, sameObs, landR, touchF, D.cells, D.decEq, D.decEqs, AV.decEq, AV.decEqs, AObj.decEq, AV.oids0, AV.oids, AObj.oids, renG, renP, AV.ren0, AV.ren, envGet, envPut, envKeep, obGet, setEff, putV, St.put, stepS, keyChk, chkD, accD, Ex.block, AV.under, AObj.under, laysOf, roomFor, mkvO, frzG, szOk, killO, usedBy, tidyS, ghost, ghostE, normSt, resOf, allSome, one0, resultsF, finL, finishL, finish, endF, startEnv, chkC, backX, comeC, wpn_nil, wpn_seq, wpn_loop, wpn_seq_exit, wpn_loop_exit, wpn_seq_ret, wpn_loop_ret, wpn_block, wpn_post, wpk_skip, wpk_exit, wpk_ret, wpk_reg, wpk_seq, wpk_condT, wpk_block, wpk_loop, wpk_pre, wpk_post, wop_nil, wop_cons, wop_guard, St.know, envSet, cond_d, cond_bool, cond_int, cond_str, endE, endQ, freeB, disj, pushT, bitsW, int_beq, int_bne, eqS_def, tbE, fuelL_eq, ann0_lays, ann0_dd, ann0_ro, elsOf_dsl, elsOf_dnils, toNat_succ, nn_succ, pos_succ, one_succ, rng1, rng2, rng3, rng4, rng5, rng6, rng7, rng8, List.idxOf_cons, T3, T4, T5, T9, T22, T26, T27, T30, T32, T37, T39, T54, T66, T73, T83, T86, T99, T110, T114, T116, T141, T148, T150, CT, q1]
    refine hloop _ _ ?_
    have hm := Int.tmod_eq_emod_of_nonneg hcl.1 (b := 2)
    have hpr : prI i = (nmI (i / 4), nmI (i % 4)) := rfl
    by_cases ho : cntD a (prI i) L % 2 = 1
    · obtain ⟨o1, o2⟩ := ctI_odd h ho
      have o3 := (List.getElem?_eq_some_iff.1 o2).1
      have o4 : (oddL a L)[(ctI a L i).length]'o3 = (nmI (i / 4), nmI (i % 4)) := (List.getElem?_eq_some_iff.1 o2).2
      have o5 : (psD (oddL a L))[(ctI a L i).length]? = some (.agg [.str (nmI (i / 4)), .str (nmI (i % 4))]) := by rw [List.getElem?_map, o2]; rfl
      have w3 : IntKind.i64.wrap ((ctI a L i).length + 1 : Int) = (ctI a L i).length + 1 := wrap64 (by omega) (by omega)
      have w4 : IntKind.i64.wrap 1 = 1 := rfl
      rw [o1] at ih
      simp at ih
      rw [ho] at hm
      rw [hpr] at hm
      generalize (ctI a L i).length = n at *
      generalize i / 4 = p at *
      generalize i % 4 = q at *
      simp [TK.agg, constAV, evalAV, eqCells, EK.has, EK.hasAll, vecEls, elsR, AV.toD, toDs, AV.cells, AV.one, joinD, TyI.zeroD, OpR.of, binIntF, binStrF, AV.isPtr, ptrNil, slNil, mpNil, nilE, eqF, negF, posF, binF, pelF, pvLoad, pelSet, pvStore, boxLoad, epLoad, loadF, boxStore, storeF, fieldAddrF, fieldF, epOf, indexAddrF, byteF, indexF, mapLen, lenF, cutF, sliceF, isSl, slice3F, fillF, arrFs, buildF, partsX, landV, buildSliceF, roomB, appVec, appendF, mmFrom, mmF, max2', min2', clearVec, clearF, convF, unF, pickF, nilChkF, extF, ptrsOf, callF, makeSliceF, sameKs, sameD, kindIs, plainFs, keyOk, mapOb, mapEs, okV, lookF, lookupF, putE, putS, mapPut, mapUpdateF, mapDel, deleteF, mapAll, rangeM, rangeF, overV, hitV, nextO, nextF, entryM, entryO, entryF, itOids, builtinF, capsOf, allocF, boxF, bytesL, bytesF, byteTy, strTy, convertF, makeFuncF, makeMapF, makeMapH, opF, reach, reachOf, AObj.live, closedB, nodupB, packO, packL, packX, backN, backG, backO, obL, backE, frzX, frzO, AV.vids, frzL, landC, sameObs, landR, touchF, D.cells, D.decEq, D.decEqs, AV.decEq, AV.decEqs, AObj.decEq, AV.oids0, AV.oids, AObj.oids, renG, renP, AV.ren0, AV.ren, envGet, envPut, envKeep, obGet, setEff, putV, St.put, stepS, keyChk, chkD, accD, Ex.block, AV.under, AObj.under, laysOf, roomFor, mkvO, frzG, szOk, killO, usedBy, tidyS, ghost, ghostE, normSt, resOf, allSome, one0, resultsF, finL, finishL, finish, endF, startEnv, chkC, backX, comeC, wpn_nil, wpn_seq, wpn_loop, wpn_seq_exit, wpn_loop_exit, wpn_seq_ret, wpn_loop_ret, wpn_block, wpn_post, wpk_skip, wpk_exit, wpk_ret, wpk_reg, wpk_seq, wpk_condT, wpk_block, wpk_loop, wpk_pre, wpk_post, wop_nil, wop_cons, wop_guard, St.know, envSet, cond_d, cond_bool, cond_int, cond_str, endE, endQ, freeB, disj, pushT, bitsW, int_beq, int_bne, eqS_def, tbE, fuelL_eq, ann0_lays, ann0_dd, ann0_ro, elsOf_dsl, elsOf_dnils, toNat_succ, nn_succ, pos_succ, one_succ, rng1, rng2, rng3, rng4, rng5, rng6, rng7, rng8, List.idxOf_cons, T3, T4, T5, T9, T22, T26, T27, T30, T32, T37, T39, T54, T66, T73, T83, T86, T99, T110, T114, T116, T141, T148, T150, CT, CQ, QQ, hm, w4, hd, hr, wp, wq, hp, hq, pl, ql, pg, qg, w2, o3, o4, o5, w3, eqS_self, pE]
      exact ih
    · have o1 := ctI_even h ho
      have w4 : IntKind.i64.wrap 0 = 0 := rfl
      have hm0 : (cntD a (prI i) L).tmod 2 = 0 := by rw [hm]; omega
      rw [o1] at ih
      simp at ih
      rw [hpr] at hm0
      simp [TK.agg, constAV, evalAV, eqCells, EK.has, EK.hasAll, vecEls, elsR, AV.toD, toDs, AV.cells, AV.one, joinD, TyI.zeroD, OpR.of, binIntF, binStrF, AV.isPtr, ptrNil, slNil, mpNil, nilE, eqF, negF, posF, binF, pelF, pvLoad, pelSet, pvStore, boxLoad, epLoad, loadF, boxStore, storeF, fieldAddrF, fieldF, epOf, indexAddrF, byteF, indexF, mapLen, lenF, cutF, sliceF, isSl, slice3F, fillF, arrFs, buildF, partsX, landV, buildSliceF, roomB, appVec, appendF, mmFrom, mmF, max2', min2', clearVec, clearF, convF, unF, pickF, nilChkF, extF, ptrsOf, callF, makeSliceF, sameKs, sameD, kindIs, plainFs, keyOk, mapOb, mapEs, okV, lookF, lookupF, putE, putS, mapPut, mapUpdateF, mapDel, deleteF, mapAll, rangeM, rangeF, overV, hitV, nextO, nextF, entryM, entryO, entryF, itOids, builtinF, capsOf, allocF, boxF, bytesL, bytesF, byteTy, strTy, convertF, makeFuncF, makeMapF, makeMapH, opF, reach, reachOf, AObj.live, closedB, nodupB, packO, packL, packX, backN, backG, backO, obL, backE, frzX, frzO, AV.vids, frzL, landC, sameObs, landR, touchF, D.cells, D.decEq, D.decEqs, AV.decEq, AV.decEqs, AObj.decEq, AV.oids0, AV.oids, AObj.oids, renG, renP, AV.ren0, AV.ren, envGet, envPut, envKeep, obGet, setEff, putV, St.put, stepS, keyChk, chkD, accD, Ex.block, AV.under, AObj.under, laysOf, roomFor, mkvO, frzG, szOk, killO, usedBy, tidyS, ghost, ghostE, normSt, resOf, allSome, one0, resultsF, finL, finishL, finish, endF, startEnv, chkC, backX, comeC, wpn_nil, wpn_seq, wpn_loop, wpn_seq_exit, wpn_loop_exit, wpn_seq_ret, wpn_loop_ret, wpn_block, wpn_post, wpk_skip, wpk_exit, wpk_ret, wpk_reg, wpk_seq, wpk_condT, wpk_block, wpk_loop, wpk_pre, wpk_post, wop_nil, wop_cons, wop_guard, St.know, envSet, cond_d, cond_bool, cond_int, cond_str, endE, endQ, freeB, disj, pushT, bitsW, int_beq, int_bne, eqS_def, tbE, fuelL_eq, ann0_lays, ann0_dd, ann0_ro, elsOf_dsl, elsOf_dnils, toNat_succ, nn_succ, pos_succ, one_succ, rng1, rng2, rng3, rng4, rng5, rng6, rng7, rng8, List.idxOf_cons, T3, T4, T5, T9, T22, T26, T27, T30, T32, T37, T39, T54, T66, T73, T83, T86, T99, T110, T114, T116, T141, T148, T150, CT, hm0, w4, w2]
      exact ih
  · have q1 : ¬ (i : Int) < 16 := by omega
    have e : i = 16 := by omega
    subst e
    rw [ctI_all]
    simp [c11_1, TK.agg, constAV, evalAV, eqCells, EK.has, EK.hasAll, vecEls, elsR, AV.toD, toDs, AV.cells, AV.one, joinD, TyI.zeroD, OpR.of, binIntF, binStrF, AV.isPtr, ptrNil, slNil, mpNil, nilE, eqF, negF, posF, binF, pelF, pvLoad, pelSet, pvStore, boxLoad, epLoad, loadF, boxStore, storeF, fieldAddrF, fieldF, epOf, indexAddrF, byteF, indexF, mapLen, lenF, cutF, sliceF, isSl, slice3F, fillF, arrFs, buildF, partsX, landV, buildSliceF, roomB, appVec, appendF, mmFrom, mmF, max2', min2', clearVec, clearF, convF, unF, pickF, nilChkF, extF, ptrsOf, callF, makeSliceF, sameKs, sameD, kindIs, plainFs, keyOk, mapOb, mapEs, okV, lookF, lookupF, putE, putS, mapPut, mapUpdateF, mapDel, deleteF, mapAll, rangeM, rangeF, overV, hitV, nextO, nextF, entryM, entryO, entryF, itOids, builtinF, capsOf, allocF, boxF, bytesL, bytesF, byteTy, strTy, convertF, makeFuncF, makeMapF, makeMapH, opF, reach, reachOf, AObj.live, closedB, nodupB, packO, packL, packX, backN, backG, backO, obL, backE, frzX, frzO, AV.vids, frzL, landC, sameObs, landR, touchF, D.cells, D.decEq, D.decEqs, AV.decEq, AV.decEqs, AObj.decEq, AV.oids0, AV.oids, AObj.oids, renG, renP, AV.ren0, AV.ren, envGet, envPut, envKeep, obGet, setEff, putV, St.put, stepS, keyChk, chkD, accD, Ex.block, AV.under, AObj.under, laysOf, roomFor, mkvO, frzG, szOk, killO, usedBy, tidyS, ghost, ghostE, normSt, resOf, allSome, one0, resultsF, finL, finishL, finish, endF, startEnv, chkC, backX, comeC, wpn_nil, wpn_seq, wpn_loop, wpn_seq_exit, wpn_loop_exit, wpn_seq_ret, wpn_loop_ret, wpn_block, wpn_post, wpk_skip, wpk_exit, wpk_ret, wpk_reg, wpk_seq, wpk_condT, wpk_block, wpk_loop, wpk_pre, wpk_post, wop_nil, wop_cons, wop_guard, St.know, envSet, cond_d, cond_bool, cond_int, cond_str, endE, endQ, freeB, disj, pushT, bitsW, int_beq, int_bne, eqS_def, tbE, fuelL_eq, ann0_lays, ann0_dd, ann0_ro, elsOf_dsl, elsOf_dnils, toNat_succ, nn_succ, pos_succ, one_succ, rng1, rng2, rng3, rng4, rng5, rng6, rng7, rng8, List.idxOf_cons, T3, T4, T5, T9, T22, T26, T27, T30, T32, T37, T39, T54, T66, T73, T83, T86, T99, T110, T114, T116, T141, T148, T150, CT]
    exact hnext
set_option maxRecDepth 100000 in
set_option maxHeartbeats 4000000 in
theorem law11_run (A : D) (l : List Stp) (hok : ∀ x ∈ l, x.ok) (hA : elsOf (.d A) = some (l.map Stp.enc)) (a : Int) : run CC 11 [.d A, .d (.int .i64 a)] [] = some (.d (.bool true), []) := by
  refine run_code (s := s11 0) rfl rfl rfl (by kernel_rfl) ?_
  obtain ⟨B, hB, hch⟩ := changes_run A l hok hA
  have hlen := changes_len12 l
  have hto := true_odd a l
  have htl := trueL_len (togs a [] (changesC l))
  have htg := togs_len a (changesC l) []
  simp only [List.length_nil, Nat.zero_add] at htg
  have hol : (oddL a (changesC l)).length ≤ 12 := by rw [← hto.length_eq]; omega
  have hca := calls_run B (changesC l) hlen hB a (oddL a (changesC l)) hto (P16_srt.sublist List.filter_sublist) hol
  have hloop := loop11_1 a B (changesC l) hlen hB
  generalize changesC l = L at *
  simp only [NLs] at hloop
  simp [s11, TK.agg, constAV, evalAV, eqCells, EK.has, EK.hasAll, vecEls, elsR, AV.toD, toDs, AV.cells, AV.one, joinD, TyI.zeroD, OpR.of, binIntF, binStrF, AV.isPtr, ptrNil, slNil, mpNil, nilE, eqF, negF, posF, binF, pelF, pvLoad, pelSet, pvStore, boxLoad, epLoad, loadF, boxStore, storeF, fieldAddrF, fieldF, epOf, indexAddrF, byteF, indexF, mapLen, lenF, cutF, sliceF, isSl, slice3F, fillF, arrFs, buildF, partsX, landV, buildSliceF, roomB, appVec, appendF, mmFrom, mmF, max2', min2', clearVec, clearF, convF, unF, pickF, nilChkF, extF, ptrsOf, callF, makeSliceF, sameKs, sameD, kindIs, plainFs, keyOk, mapOb, mapEs, okV, lookF, lookupF, putE, putS, mapPut, mapUpdateF, mapDel, deleteF, mapAll, rangeM, rangeF, overV, hitV, nextO, nextF, entryM, entryO, entryF, itOids, builtinF, capsOf, allocF, boxF, bytesL, bytesF, byteTy, strTy, convertF, makeFuncF, makeMapF, makeMapH, opF, reach, reachOf, AObj.live, closedB, nodupB, packO, packL, packX, backN, backG, backO, obL, backE, frzX, frzO, AV.vids, frzL, landC, sameObs, landR, touchF, D.cells, D.decEq, D.decEqs, AV.decEq, AV.decEqs, AObj.decEq, AV.oids0, AV.oids, AObj.oids, renG, renP, AV.ren0, AV.ren, envGet, envPut, envKeep, obGet, setEff, putV, St.put, stepS, keyChk, chkD, accD, Ex.block, AV.under, AObj.under, laysOf, roomFor, mkvO, frzG, szOk, killO, usedBy, tidyS, ghost, ghostE, normSt, resOf, allSome, one0, resultsF, finL, finishL, finish, endF, startEnv, chkC, backX, comeC, wpn_nil, wpn_seq, wpn_loop, wpn_seq_exit, wpn_loop_exit, wpn_seq_ret, wpn_loop_ret, wpn_block, wpn_post, wpk_skip, wpk_exit, wpk_ret, wpk_reg, wpk_seq, wpk_condT, wpk_block, wpk_loop, wpk_pre, wpk_post, wop_nil, wop_cons, wop_guard, St.know, envSet, cond_d, cond_bool, cond_int, cond_str, endE, endQ, freeB, disj, pushT, bitsW, int_beq, int_bne, eqS_def, tbE, fuelL_eq, ann0_lays, ann0_dd, ann0_ro, elsOf_dsl, elsOf_dnils, toNat_succ, nn_succ, pos_succ, one_succ, rng1, rng2, rng3, rng4, rng5, rng6, rng7, rng8, List.idxOf_cons, T3, T4, T5, T9, T22, T26, T27, T30, T32, T37, T39, T54, T66, T73, T83, T86, T99, T110, T114, T116, T141, T148, T150, CT, hch, hca]
  refine hloop _ _ ?_
  generalize oddL a L = O at *
  simp [TK.agg, constAV, evalAV, eqCells, EK.has, EK.hasAll, vecEls, elsR, AV.toD, toDs, AV.cells, AV.one, joinD, TyI.zeroD, OpR.of, binIntF, binStrF, AV.isPtr, ptrNil, slNil, mpNil, nilE, eqF, negF, posF, binF, pelF, pvLoad, pelSet, pvStore, boxLoad, epLoad, loadF, boxStore, storeF, fieldAddrF, fieldF, epOf, indexAddrF, byteF, indexF, mapLen, lenF, cutF, sliceF, isSl, slice3F, fillF, arrFs, buildF, partsX, landV, buildSliceF, roomB, appVec, appendF, mmFrom, mmF, max2', min2', clearVec, clearF, convF, unF, pickF, nilChkF, extF, ptrsOf, callF, makeSliceF, sameKs, sameD, kindIs, plainFs, keyOk, mapOb, mapEs, okV, lookF, lookupF, putE, putS, mapPut, mapUpdateF, mapDel, deleteF, mapAll, rangeM, rangeF, overV, hitV, nextO, nextF, entryM, entryO, entryF, itOids, builtinF, capsOf, allocF, boxF, bytesL, bytesF, byteTy, strTy, convertF, makeFuncF, makeMapF, makeMapH, opF, reach, reachOf, AObj.live, closedB, nodupB, packO, packL, packX, backN, backG, backO, obL, backE, frzX, frzO, AV.vids, frzL, landC, sameObs, landR, touchF, D.cells, D.decEq, D.decEqs, AV.decEq, AV.decEqs, AObj.decEq, AV.oids0, AV.oids, AObj.oids, renG, renP, AV.ren0, AV.ren, envGet, envPut, envKeep, obGet, setEff, putV, St.put, stepS, keyChk, chkD, accD, Ex.block, AV.under, AObj.under, laysOf, roomFor, mkvO, frzG, szOk, killO, usedBy, tidyS, ghost, ghostE, normSt, resOf, allSome, one0, resultsF, finL, finishL, finish, endF, startEnv, chkC, backX, comeC, wpn_nil, wpn_seq, wpn_loop, wpn_seq_exit, wpn_loop_exit, wpn_seq_ret, wpn_loop_ret, wpn_block, wpn_post, wpk_skip, wpk_exit, wpk_ret, wpk_reg, wpk_seq, wpk_condT, wpk_block, wpk_loop, wpk_pre, wpk_post, wop_nil, wop_cons, wop_guard, St.know, envSet, cond_d, cond_bool, cond_int, cond_str, endE, endQ, freeB, disj, pushT, bitsW, int_beq, int_bne, eqS_def, tbE, fuelL_eq, ann0_lays, ann0_dd, ann0_ro, elsOf_dsl, elsOf_dnils, toNat_succ, nn_succ, pos_succ, one_succ, rng1, rng2, rng3, rng4, rng5, rng6, rng7, rng8, List.idxOf_cons, T3, T4, T5, T9, T22, T26, T27, T30, T32, T37, T39, T54, T66, T73, T83, T86, T99, T110, T114, T116, T141, T148, T150, CT, known_run]
end Go.Proofs.YteidaaobppjlbaaV
