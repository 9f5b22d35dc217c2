/- The reference's normal list. -/
import Derived.Test.YtnpppjipbkceeaaTc3
set_option linter.unusedVariables false
set_option linter.unusedSimpArgs false
namespace Go.Proofs.YtnpppjipbkceeaaV
open Go.RowKit
def posI (c : Iv) (s : List Iv) : Nat → Nat
  | 0 => 0
  | k + 1 => match s[k]? with
    | some x => if c.1 < x.1 then posI c s k else k + 1
    | none => k + 1
theorem posI_le (c : Iv) (s : List Iv) : ∀ k, posI c s k ≤ k
  | 0 => Nat.le_refl _
  | k + 1 => by
    have := posI_le c s k
    simp only [posI]
    split
    · split <;> omega
    · omega
def insI (c : Iv) (s : List Iv) : List Iv := s.take (posI c s s.length) ++ c :: s.drop (posI c s s.length)
theorem insI_len (c : Iv) (s : List Iv) : (insI c s).length = s.length + 1 := by
  have := posI_le c s s.length
  simp [insI]; omega
def srtI : List Iv → List Iv → List Iv
  | s, [] => s
  | s, c :: r => if c.2 ≤ c.1 then srtI s r else srtI (insI c s) r
theorem srtI_len : ∀ (r s : List Iv), (srtI s r).length ≤ s.length + r.length
  | [], s => by simp [srtI]
  | c :: r, s => by
    have h1 := srtI_len r s
    have h2 := srtI_len r (insI c s)
    rw [insI_len] at h2
    simp only [srtI, List.length_cons]
    split <;> omega
/-- Nonempty ones, joined. -/
def mr : List Iv → List Iv → List Iv
  | o, [] => o.reverse
  | [], c :: r => mr [c] r
  | d :: o, c :: r => if c.1 ≤ d.2 then mr ((d.1, if c.2 > d.2 then c.2 else d.2) :: o) r else mr (c :: d :: o) r
def ofI (l : List Iv) : List Iv := mr [] (srtI [] l)
set_option maxRecDepth 100000 in
set_option maxHeartbeats 1000000 in
theorem loop47_2 (A S : D) (l s : List Iv) (hl : l.length < 1000000) (hs : s.length < 1000000) (hA : elsOf (.d A) = some (l.map iD)) (hS : elsOf (.d S) = some (s.map iD)) (i : Nat) (c : Iv) (hi : l[i]? = some c) (ks : List Fr) (K : Ex → St → Prop)
    (hnext : wpn CC .norm ⟨[(0, .d A), (3, .d S), (4, .d (.int .i64 i)), (5, .d (.int .i64 (posI c s s.length)))], []⟩ ks K) :
    wlp CC (s47_2 0) ⟨[(0, .d A), (3, .d S), (4, .d (.int .i64 i)), (5, .d (.int .i64 s.length))], []⟩ (.block 2 :: .post (.tidy [0, 3, 4, 5] 0 0) :: ks) K := by
  refine wlp_inv (S := fun p : Nat => ⟨[(0, .d A), (3, .d S), (4, .d (.int .i64 i)), (5, .d (.int .i64 p))], []⟩) (m := fun p => p) (Inv := fun p => p ≤ s.length ∧ posI c s p = posI c s s.length) ?_ s.length ⟨Nat.le_refl _, rfl⟩
  rintro p ⟨h1, h2⟩ ih
  rw [e47_2]
  rw [← h2] at ih hnext
  cases p with
  | zero =>
    simp [posI] at hnext
    simp [c47_2, TK.agg, constAV, evalAV, eqCells, EK.has, EK.hasAll, vecEls, elsR, AV.toD, toDs, AV.cells, AV.one, joinD, TyI.zeroD, OpR.of, binIntF, binStrF, AV.isPtr, ptrNil, slNil, mpNil, nilE, eqF, negF, posF, binF, pelF, pvLoad, pelSet, pvStore, boxLoad, epLoad, loadF, boxStore, storeF, fieldAddrF, fieldF, epOf, indexAddrF, byteF, indexF, mapLen, lenF, cutF, sliceF, isSl, slice3F, fillF, arrFs, buildF, partsX, landV, buildSliceF, roomB, appVec, appendF, mmFrom, mmF, max2', min2', clearVec, clearF, convF, unF, pickF, nilChkF, extF, ptrsOf, callF, makeSliceF, sameKs, sameD, kindIs, plainFs, keyOk, mapOb, mapEs, okV, lookF, lookupF, putE, putS, mapPut, mapUpdateF, mapDel, deleteF, mapAll, rangeM, rangeF, overV, hitV, nextO, nextF, entryM, entryO, entryF, itOids, builtinF, capsOf, allocF, boxF, bytesL, bytesF, byteTy, strTy, convertF, makeFuncF, makeMapF, makeMapH, opF, reach, reachOf, AObj.live, closedB, nodupB, packO, packL, packX, backN, backG, backO, obL, backE, frzX, frzO, AV.vids, frzL, landC, sameObs, landR, touchF, bitsW, D.cells, D.decEq, D.decEqs, AV.decEq, AV.decEqs, AObj.decEq, AV.oids0, AV.oids, AObj.oids, renG, renP, AV.ren0, AV.ren, envGet, envPut, envKeep, obGet, setEff, putV, St.put, stepS, keyChk, chkD, accD, Ex.block, AV.under, AObj.under, laysOf, roomFor, mkvO, frzG, szOk, killO, usedBy, tidyS, ghost, ghostE, normSt, resOf, allSome, one0, resultsF, finL, finishL, finish, endF, startEnv, chkC, backX, comeC, AV.flat0, rngC, loopO, layL, endLp, busyL, idleL, noRng, rndSt, rndEnd, wpn_nil, wpn_seq, wpn_loop, wpn_seq_exit, wpn_loop_exit, wpn_seq_ret, wpn_loop_ret, wpn_block, wpn_post, wpk_skip, wpk_exit, wpk_ret, wpk_reg, wpk_seq, wpk_condT, wpk_block, wpk_loop, wpk_pre, wpk_post, wop_nil, wop_cons, wop_guard, St.know, envSet, cond_d, cond_bool, cond_int, cond_str, endE, endQ, freeB, disj, pushT, bitsW, int_beq, int_bne, eqS_def, tbE, fuelL_eq, ann0_lays, ann0_dd, ann0_ro, elsOf_dsl, elsOf_dnils, toNat_succ, nn_succ, pos_succ, one_succ, rng1, rng2, rng3, rng4, rng5, rng6, rng7, rng8, List.idxOf_cons, wpk_rng, rndK, rndE, T2, T3, T4, T5, T6, T8, T9, T23, T33, T38, T45, T62, T76, T85, T92, T94, T95, CT, hA, hS]
    exact hnext
  | succ k =>
    obtain ⟨x, hx⟩ : ∃ x, s[k]? = some x := ⟨s[k], List.getElem?_eq_getElem (by omega)⟩
    obtain ⟨k1, k2, k3⟩ := atN iD hx (by omega)
    obtain ⟨j1, j2, j3⟩ := atN iD hi (by omega)
    have kg := getL hx k1
    have jg := getL hi j1
    simp only [iD] at k3 j3
    have w1 : IntKind.i64.wrap ((k : Int) + 1 - 1) = (k : Int) := by rw [Int.add_sub_cancel]; exact wrap64 (by omega) (by omega)
    have w2 : IntKind.i64.wrap (k : Int) = (k : Int) := wrap64 (by omega) (by omega)
    by_cases e1 : c.1 < x.1
    · have ih := ih k
      simp [posI, hx, e1] at ih
      simp [c47_2, TK.agg, constAV, evalAV, eqCells, EK.has, EK.hasAll, vecEls, elsR, AV.toD, toDs, AV.cells, AV.one, joinD, TyI.zeroD, OpR.of, binIntF, binStrF, AV.isPtr, ptrNil, slNil, mpNil, nilE, eqF, negF, posF, binF, pelF, pvLoad, pelSet, pvStore, boxLoad, epLoad, loadF, boxStore, storeF, fieldAddrF, fieldF, epOf, indexAddrF, byteF, indexF, mapLen, lenF, cutF, sliceF, isSl, slice3F, fillF, arrFs, buildF, partsX, landV, buildSliceF, roomB, appVec, appendF, mmFrom, mmF, max2', min2', clearVec, clearF, convF, unF, pickF, nilChkF, extF, ptrsOf, callF, makeSliceF, sameKs, sameD, kindIs, plainFs, keyOk, mapOb, mapEs, okV, lookF, lookupF, putE, putS, mapPut, mapUpdateF, mapDel, deleteF, mapAll, rangeM, rangeF, overV, hitV, nextO, nextF, entryM, entryO, entryF, itOids, builtinF, capsOf, allocF, boxF, bytesL, bytesF, byteTy, strTy, convertF, makeFuncF, makeMapF, makeMapH, opF, reach, reachOf, AObj.live, closedB, nodupB, packO, packL, packX, backN, backG, backO, obL, backE, frzX, frzO, AV.vids, frzL, landC, sameObs, landR, touchF, bitsW, D.cells, D.decEq, D.decEqs, AV.decEq, AV.decEqs, AObj.decEq, AV.oids0, AV.oids, AObj.oids, renG, renP, AV.ren0, AV.ren, envGet, envPut, envKeep, obGet, setEff, putV, St.put, stepS, keyChk, chkD, accD, Ex.block, AV.under, AObj.under, laysOf, roomFor, mkvO, frzG, szOk, killO, usedBy, tidyS, ghost, ghostE, normSt, resOf, allSome, one0, resultsF, finL, finishL, finish, endF, startEnv, chkC, backX, comeC, AV.flat0, rngC, loopO, layL, endLp, busyL, idleL, noRng, rndSt, rndEnd, wpn_nil, wpn_seq, wpn_loop, wpn_seq_exit, wpn_loop_exit, wpn_seq_ret, wpn_loop_ret, wpn_block, wpn_post, wpk_skip, wpk_exit, wpk_ret, wpk_reg, wpk_seq, wpk_condT, wpk_block, wpk_loop, wpk_pre, wpk_post, wop_nil, wop_cons, wop_guard, St.know, envSet, cond_d, cond_bool, cond_int, cond_str, endE, endQ, freeB, disj, pushT, bitsW, int_beq, int_bne, eqS_def, tbE, fuelL_eq, ann0_lays, ann0_dd, ann0_ro, elsOf_dsl, elsOf_dnils, toNat_succ, nn_succ, pos_succ, one_succ, rng1, rng2, rng3, rng4, rng5, rng6, rng7, rng8, List.idxOf_cons, wpk_rng, rndK, rndE, T2, T3, T4, T5, T6, T8, T9, T23, T33, T38, T45, T62, T76, T85, T92, T94, T95, CT, hA, hS, iD, k1, k3, j1, j3, kg, jg, hx, hi, w1, w2, e1]
      exact ih (by omega)
    · simp [posI, hx, e1] at hnext
      simp [c47_2, TK.agg, constAV, evalAV, eqCells, EK.has, EK.hasAll, vecEls, elsR, AV.toD, toDs, AV.cells, AV.one, joinD, TyI.zeroD, OpR.of, binIntF, binStrF, AV.isPtr, ptrNil, slNil, mpNil, nilE, eqF, negF, posF, binF, pelF, pvLoad, pelSet, pvStore, boxLoad, epLoad, loadF, boxStore, storeF, fieldAddrF, fieldF, epOf, indexAddrF, byteF, indexF, mapLen, lenF, cutF, sliceF, isSl, slice3F, fillF, arrFs, buildF, partsX, landV, buildSliceF, roomB, appVec, appendF, mmFrom, mmF, max2', min2', clearVec, clearF, convF, unF, pickF, nilChkF, extF, ptrsOf, callF, makeSliceF, sameKs, sameD, kindIs, plainFs, keyOk, mapOb, mapEs, okV, lookF, lookupF, putE, putS, mapPut, mapUpdateF, mapDel, deleteF, mapAll, rangeM, rangeF, overV, hitV, nextO, nextF, entryM, entryO, entryF, itOids, builtinF, capsOf, allocF, boxF, bytesL, bytesF, byteTy, strTy, convertF, makeFuncF, makeMapF, makeMapH, opF, reach, reachOf, AObj.live, closedB, nodupB, packO, packL, packX, backN, backG, backO, obL, backE, frzX, frzO, AV.vids, frzL, landC, sameObs, landR, touchF, bitsW, D.cells, D.decEq, D.decEqs, AV.decEq, AV.decEqs, AObj.decEq, AV.oids0, AV.oids, AObj.oids, renG, renP, AV.ren0, AV.ren, envGet, envPut, envKeep, obGet, setEff, putV, St.put, stepS, keyChk, chkD, accD, Ex.block, AV.under, AObj.under, laysOf, roomFor, mkvO, frzG, szOk, killO, usedBy, tidyS, ghost, ghostE, normSt, resOf, allSome, one0, resultsF, finL, finishL, finish, endF, startEnv, chkC, backX, comeC, AV.flat0, rngC, loopO, layL, endLp, busyL, idleL, noRng, rndSt, rndEnd, wpn_nil, wpn_seq, wpn_loop, wpn_seq_exit, wpn_loop_exit, wpn_seq_ret, wpn_loop_ret, wpn_block, wpn_post, wpk_skip, wpk_exit, wpk_ret, wpk_reg, wpk_seq, wpk_condT, wpk_block, wpk_loop, wpk_pre, wpk_post, wop_nil, wop_cons, wop_guard, St.know, envSet, cond_d, cond_bool, cond_int, cond_str, endE, endQ, freeB, disj, pushT, bitsW, int_beq, int_bne, eqS_def, tbE, fuelL_eq, ann0_lays, ann0_dd, ann0_ro, elsOf_dsl, elsOf_dnils, toNat_succ, nn_succ, pos_succ, one_succ, rng1, rng2, rng3, rng4, rng5, rng6, rng7, rng8, List.idxOf_cons, wpk_rng, rndK, rndE, T2, T3, T4, T5, T6, T8, T9, T23, T33, T38, T45, T62, T76, T85, T92, T94, T95, CT, hA, hS, iD, k1, k3, j1, j3, kg, jg, hx, hi, w1, w2, e1]
      exact hnext
theorem nonE_srt {l : List Iv} : ∀ {s : List Iv}, (∀ p ∈ s, p.1 < p.2) → ∀ p ∈ srtI s l, p.1 < p.2 := by
  induction l with
  | nil => exact fun h => h
  | cons c r ih =>
    intro s h
    simp only [srtI]
    split
    · exact ih h
    · refine ih fun p hp => ?_
      simp only [insI, List.mem_append, List.mem_cons] at hp
      rcases hp with hp | rfl | hp
      · exact h p (List.mem_of_mem_take hp)
      · omega
      · exact h p (List.mem_of_mem_drop hp)
theorem mr_len : ∀ (r o : List Iv), (mr o r).length ≤ o.length + r.length
  | [], o => by simp [mr]
  | c :: r, [] => by
    have h2 := mr_len r [c]
    simp only [List.length_cons, List.length_nil, mr] at h2 ⊢
    omega
  | c :: r, d :: o => by
    have h2 := mr_len r ((d.1, if c.2 > d.2 then c.2 else d.2) :: o)
    have h3 := mr_len r (c :: d :: o)
    simp only [mr]
    simp only [List.length_cons] at h2 h3 ⊢
    by_cases e2 : c.1 ≤ d.2
    · rw [if_pos e2]; omega
    · rw [if_neg e2]; omega
theorem ofI_len (l : List Iv) : (ofI l).length ≤ l.length := by
  have h1 := mr_len (srtI [] l) []
  have h2 := srtI_len l []
  simp at h1 h2
  unfold ofI; omega
set_option maxRecDepth 100000 in
set_option maxHeartbeats 1000000 in
theorem loop47_3 (S : D) (s : List Iv) (hs : s.length < 1000000) (hS : elsOf (.d S) = some (s.map iD)) (ks : List Fr) (K : Ex → St → Prop)
    (hnext : wpn CC .norm ⟨[(6, .vs 0 0 2 0 (mr [] s).length)], [.vec 0 true false 33 2 ((mr [] s).map iD)]⟩ ks K) :
    wlp CC (s47_3 0) ⟨[(3, .d S), (6, .vs 0 0 2 0 0), (7, .d (.int .i64 0))], [.vec 0 true false 33 2 []]⟩ (.block 4 :: .post (.tidy [6] 0 1) :: ks) K := by
  refine wlp_inv (S := fun p : List Iv × List Iv × List Iv => ⟨[(3, .d S), (6, .vs 0 0 2 0 p.2.2.length), (7, .d (.int .i64 p.1.length))], [.vec 0 true false 33 2 (p.2.2.reverse.map iD)]⟩) (m := fun p => p.2.1.length) (Inv := fun p => p.1 ++ p.2.1 = s ∧ p.2.2.length ≤ p.1.length ∧ mr p.2.2 p.2.1 = mr [] s) ?_ ([], s, []) ⟨rfl, by simp, rfl⟩
  rintro ⟨pre, suf, o⟩ ⟨hps, hol, h2⟩ ih
  rw [e47_3]
  simp only at h2 hps hol ⊢
  rw [← h2] at ih hnext
  clear h2
  have htk : (o.reverse.map iD).take o.length = o.reverse.map iD := by rw [List.take_of_length_le]; simp
  cases suf with
  | nil =>
    have hn := endL hps
    simp only [mr, List.length_reverse] at hnext
    generalize hE : o.reverse.map iD = E at *
    simp [c47_3, TK.agg, constAV, evalAV, eqCells, EK.has, EK.hasAll, vecEls, elsR, AV.toD, toDs, AV.cells, AV.one, joinD, TyI.zeroD, OpR.of, binIntF, binStrF, AV.isPtr, ptrNil, slNil, mpNil, nilE, eqF, negF, posF, binF, pelF, pvLoad, pelSet, pvStore, boxLoad, epLoad, loadF, boxStore, storeF, fieldAddrF, fieldF, epOf, indexAddrF, byteF, indexF, mapLen, lenF, cutF, sliceF, isSl, slice3F, fillF, arrFs, buildF, partsX, landV, buildSliceF, roomB, appVec, appendF, mmFrom, mmF, max2', min2', clearVec, clearF, convF, unF, pickF, nilChkF, extF, ptrsOf, callF, makeSliceF, sameKs, sameD, kindIs, plainFs, keyOk, mapOb, mapEs, okV, lookF, lookupF, putE, putS, mapPut, mapUpdateF, mapDel, deleteF, mapAll, rangeM, rangeF, overV, hitV, nextO, nextF, entryM, entryO, entryF, itOids, builtinF, capsOf, allocF, boxF, bytesL, bytesF, byteTy, strTy, convertF, makeFuncF, makeMapF, makeMapH, opF, reach, reachOf, AObj.live, closedB, nodupB, packO, packL, packX, backN, backG, backO, obL, backE, frzX, frzO, AV.vids, frzL, landC, sameObs, landR, touchF, bitsW, D.cells, D.decEq, D.decEqs, AV.decEq, AV.decEqs, AObj.decEq, AV.oids0, AV.oids, AObj.oids, renG, renP, AV.ren0, AV.ren, envGet, envPut, envKeep, obGet, setEff, putV, St.put, stepS, keyChk, chkD, accD, Ex.block, AV.under, AObj.under, laysOf, roomFor, mkvO, frzG, szOk, killO, usedBy, tidyS, ghost, ghostE, normSt, resOf, allSome, one0, resultsF, finL, finishL, finish, endF, startEnv, chkC, backX, comeC, AV.flat0, rngC, loopO, layL, endLp, busyL, idleL, noRng, rndSt, rndEnd, wpn_nil, wpn_seq, wpn_loop, wpn_seq_exit, wpn_loop_exit, wpn_seq_ret, wpn_loop_ret, wpn_block, wpn_post, wpk_skip, wpk_exit, wpk_ret, wpk_reg, wpk_seq, wpk_condT, wpk_block, wpk_loop, wpk_pre, wpk_post, wop_nil, wop_cons, wop_guard, St.know, envSet, cond_d, cond_bool, cond_int, cond_str, endE, endQ, freeB, disj, pushT, bitsW, int_beq, int_bne, eqS_def, tbE, fuelL_eq, ann0_lays, ann0_dd, ann0_ro, elsOf_dsl, elsOf_dnils, toNat_succ, nn_succ, pos_succ, one_succ, rng1, rng2, rng3, rng4, rng5, rng6, rng7, rng8, List.idxOf_cons, wpk_rng, rndK, rndE, T2, T3, T4, T5, T6, T8, T9, T23, T33, T38, T45, T62, T76, T85, T92, T94, T95, CT, hS, hn, htk]
    exact hnext
  | cons c suf =>
    obtain ⟨k1, k2, k3, k4, k5, k6⟩ := atL iD hps (by omega)
    have kg := getL k5 k4
    simp only [iD] at k3
    have r1 : (o.length + 1) * 16 ≤ 140737488355328 := by omega
    have r2 : o.length + 1 ≤ 9223372036854775807 := by omega
    have hz : szAll 2 [iD c] = true := by simp [szAll, D.cells, iD]
    cases o with
    | nil =>
      have ih := ih (pre ++ [c], suf, [c])
      simp [mr] at ih
      have wm : IntKind.i64.wrap (-1) = -1 := rfl
      simp [c47_3, TK.agg, constAV, evalAV, eqCells, EK.has, EK.hasAll, vecEls, elsR, AV.toD, toDs, AV.cells, AV.one, joinD, TyI.zeroD, OpR.of, binIntF, binStrF, AV.isPtr, ptrNil, slNil, mpNil, nilE, eqF, negF, posF, binF, pelF, pvLoad, pelSet, pvStore, boxLoad, epLoad, loadF, boxStore, storeF, fieldAddrF, fieldF, epOf, indexAddrF, byteF, indexF, mapLen, lenF, cutF, sliceF, isSl, slice3F, fillF, arrFs, buildF, partsX, landV, buildSliceF, roomB, appVec, appendF, mmFrom, mmF, max2', min2', clearVec, clearF, convF, unF, pickF, nilChkF, extF, ptrsOf, callF, makeSliceF, sameKs, sameD, kindIs, plainFs, keyOk, mapOb, mapEs, okV, lookF, lookupF, putE, putS, mapPut, mapUpdateF, mapDel, deleteF, mapAll, rangeM, rangeF, overV, hitV, nextO, nextF, entryM, entryO, entryF, itOids, builtinF, capsOf, allocF, boxF, bytesL, bytesF, byteTy, strTy, convertF, makeFuncF, makeMapF, makeMapH, opF, reach, reachOf, AObj.live, closedB, nodupB, packO, packL, packX, backN, backG, backO, obL, backE, frzX, frzO, AV.vids, frzL, landC, sameObs, landR, touchF, bitsW, D.cells, D.decEq, D.decEqs, AV.decEq, AV.decEqs, AObj.decEq, AV.oids0, AV.oids, AObj.oids, renG, renP, AV.ren0, AV.ren, envGet, envPut, envKeep, obGet, setEff, putV, St.put, stepS, keyChk, chkD, accD, Ex.block, AV.under, AObj.under, laysOf, roomFor, mkvO, frzG, szOk, killO, usedBy, tidyS, ghost, ghostE, normSt, resOf, allSome, one0, resultsF, finL, finishL, finish, endF, startEnv, chkC, backX, comeC, AV.flat0, rngC, loopO, layL, endLp, busyL, idleL, noRng, rndSt, rndEnd, wpn_nil, wpn_seq, wpn_loop, wpn_seq_exit, wpn_loop_exit, wpn_seq_ret, wpn_loop_ret, wpn_block, wpn_post, wpk_skip, wpk_exit, wpk_ret, wpk_reg, wpk_seq, wpk_condT, wpk_block, wpk_loop, wpk_pre, wpk_post, wop_nil, wop_cons, wop_guard, St.know, envSet, cond_d, cond_bool, cond_int, cond_str, endE, endQ, freeB, disj, pushT, bitsW, int_beq, int_bne, eqS_def, tbE, fuelL_eq, ann0_lays, ann0_dd, ann0_ro, elsOf_dsl, elsOf_dnils, toNat_succ, nn_succ, pos_succ, one_succ, rng1, rng2, rng3, rng4, rng5, rng6, rng7, rng8, List.idxOf_cons, wpk_rng, rndK, rndE, T2, T3, T4, T5, T6, T8, T9, T23, T33, T38, T45, T62, T76, T85, T92, T94, T95, CT, hS, iD, k2, k3, k4, k5, kg, htk, szAll, wm]
      simp [iD] at ih
      exact ih hps
    | cons d o =>
      obtain ⟨a1, a2, a3, a4, a5⟩ := rev_at d o
      have ag := getL a2 a3
      have w1 : IntKind.i64.wrap ((o.length : Int) + 1 - 1) = (o.length : Int) := by rw [Int.add_sub_cancel]; exact wrap64 (by simp at hol; omega) (by simp at hol; omega)
      have p4 : (o.length : Int) < (o.length : Int) + 1 := by omega
      have w2 : IntKind.i64.wrap (o.length : Int) = (o.length : Int) := wrap64 (by omega) (by simp at hol; omega)
      by_cases e2 : c.1 ≤ d.2
      · have ih := ih (pre ++ [c], suf, (d.1, if c.2 > d.2 then c.2 else d.2) :: o)
        have a5 := a5 (d.1, if c.2 > d.2 then c.2 else d.2)
        simp only [mr, if_pos e2] at ih
        rw [← a5] at ih
        simp only [List.length_cons] at ih hol htk ⊢
        have hlen : ((d :: o).reverse.map iD).length = o.length + 1 := by simp
        generalize hE : (d :: o).reverse.map iD = E at *
        simp only [iD] at a1 ih
        have a1' : E[o.length] = .agg [.int .i64 d.1, .int .i64 d.2] := by rw [List.getElem?_eq_some_iff] at a1; exact a1.2
        simp [c47_3, TK.agg, constAV, evalAV, eqCells, EK.has, EK.hasAll, vecEls, elsR, AV.toD, toDs, AV.cells, AV.one, joinD, TyI.zeroD, OpR.of, binIntF, binStrF, AV.isPtr, ptrNil, slNil, mpNil, nilE, eqF, negF, posF, binF, pelF, pvLoad, pelSet, pvStore, boxLoad, epLoad, loadF, boxStore, storeF, fieldAddrF, fieldF, epOf, indexAddrF, byteF, indexF, mapLen, lenF, cutF, sliceF, isSl, slice3F, fillF, arrFs, buildF, partsX, landV, buildSliceF, roomB, appVec, appendF, mmFrom, mmF, max2', min2', clearVec, clearF, convF, unF, pickF, nilChkF, extF, ptrsOf, callF, makeSliceF, sameKs, sameD, kindIs, plainFs, keyOk, mapOb, mapEs, okV, lookF, lookupF, putE, putS, mapPut, mapUpdateF, mapDel, deleteF, mapAll, rangeM, rangeF, overV, hitV, nextO, nextF, entryM, entryO, entryF, itOids, builtinF, capsOf, allocF, boxF, bytesL, bytesF, byteTy, strTy, convertF, makeFuncF, makeMapF, makeMapH, opF, reach, reachOf, AObj.live, closedB, nodupB, packO, packL, packX, backN, backG, backO, obL, backE, frzX, frzO, AV.vids, frzL, landC, sameObs, landR, touchF, bitsW, D.cells, D.decEq, D.decEqs, AV.decEq, AV.decEqs, AObj.decEq, AV.oids0, AV.oids, AObj.oids, renG, renP, AV.ren0, AV.ren, envGet, envPut, envKeep, obGet, setEff, putV, St.put, stepS, keyChk, chkD, accD, Ex.block, AV.under, AObj.under, laysOf, roomFor, mkvO, frzG, szOk, killO, usedBy, tidyS, ghost, ghostE, normSt, resOf, allSome, one0, resultsF, finL, finishL, finish, endF, startEnv, chkC, backX, comeC, AV.flat0, rngC, loopO, layL, endLp, busyL, idleL, noRng, rndSt, rndEnd, wpn_nil, wpn_seq, wpn_loop, wpn_seq_exit, wpn_loop_exit, wpn_seq_ret, wpn_loop_ret, wpn_block, wpn_post, wpk_skip, wpk_exit, wpk_ret, wpk_reg, wpk_seq, wpk_condT, wpk_block, wpk_loop, wpk_pre, wpk_post, wop_nil, wop_cons, wop_guard, St.know, envSet, cond_d, cond_bool, cond_int, cond_str, endE, endQ, freeB, disj, pushT, bitsW, int_beq, int_bne, eqS_def, tbE, fuelL_eq, ann0_lays, ann0_dd, ann0_ro, elsOf_dsl, elsOf_dnils, toNat_succ, nn_succ, pos_succ, one_succ, rng1, rng2, rng3, rng4, rng5, rng6, rng7, rng8, List.idxOf_cons, wpk_rng, rndK, rndE, T2, T3, T4, T5, T6, T8, T9, T23, T33, T38, T45, T62, T76, T85, T92, T94, T95, CT, hS, iD, k2, k3, k4, k5, kg, e2, htk, a1, a1', w1, w2, p4, hlen]
        simp at ih
        exact ih hps (by omega)
      · have ih := ih (pre ++ [c], suf, c :: d :: o)
        simp only [mr, if_neg e2] at ih
        simp only [List.length_cons] at ih hol htk r1 r2 ⊢
        have hlen : ((d :: o).reverse.map iD).length = o.length + 1 := by simp
        have hap : (c :: d :: o).reverse.map iD = (d :: o).reverse.map iD ++ [iD c] := by simp
        rw [hap] at ih
        generalize hE : (d :: o).reverse.map iD = E at *
        simp only [iD] at a1 ih hz
        have a1' : E[o.length] = .agg [.int .i64 d.1, .int .i64 d.2] := by rw [List.getElem?_eq_some_iff] at a1; exact a1.2
        simp [c47_3, TK.agg, constAV, evalAV, eqCells, EK.has, EK.hasAll, vecEls, elsR, AV.toD, toDs, AV.cells, AV.one, joinD, TyI.zeroD, OpR.of, binIntF, binStrF, AV.isPtr, ptrNil, slNil, mpNil, nilE, eqF, negF, posF, binF, pelF, pvLoad, pelSet, pvStore, boxLoad, epLoad, loadF, boxStore, storeF, fieldAddrF, fieldF, epOf, indexAddrF, byteF, indexF, mapLen, lenF, cutF, sliceF, isSl, slice3F, fillF, arrFs, buildF, partsX, landV, buildSliceF, roomB, appVec, appendF, mmFrom, mmF, max2', min2', clearVec, clearF, convF, unF, pickF, nilChkF, extF, ptrsOf, callF, makeSliceF, sameKs, sameD, kindIs, plainFs, keyOk, mapOb, mapEs, okV, lookF, lookupF, putE, putS, mapPut, mapUpdateF, mapDel, deleteF, mapAll, rangeM, rangeF, overV, hitV, nextO, nextF, entryM, entryO, entryF, itOids, builtinF, capsOf, allocF, boxF, bytesL, bytesF, byteTy, strTy, convertF, makeFuncF, makeMapF, makeMapH, opF, reach, reachOf, AObj.live, closedB, nodupB, packO, packL, packX, backN, backG, backO, obL, backE, frzX, frzO, AV.vids, frzL, landC, sameObs, landR, touchF, bitsW, D.cells, D.decEq, D.decEqs, AV.decEq, AV.decEqs, AObj.decEq, AV.oids0, AV.oids, AObj.oids, renG, renP, AV.ren0, AV.ren, envGet, envPut, envKeep, obGet, setEff, putV, St.put, stepS, keyChk, chkD, accD, Ex.block, AV.under, AObj.under, laysOf, roomFor, mkvO, frzG, szOk, killO, usedBy, tidyS, ghost, ghostE, normSt, resOf, allSome, one0, resultsF, finL, finishL, finish, endF, startEnv, chkC, backX, comeC, AV.flat0, rngC, loopO, layL, endLp, busyL, idleL, noRng, rndSt, rndEnd, wpn_nil, wpn_seq, wpn_loop, wpn_seq_exit, wpn_loop_exit, wpn_seq_ret, wpn_loop_ret, wpn_block, wpn_post, wpk_skip, wpk_exit, wpk_ret, wpk_reg, wpk_seq, wpk_condT, wpk_block, wpk_loop, wpk_pre, wpk_post, wop_nil, wop_cons, wop_guard, St.know, envSet, cond_d, cond_bool, cond_int, cond_str, endE, endQ, freeB, disj, pushT, bitsW, int_beq, int_bne, eqS_def, tbE, fuelL_eq, ann0_lays, ann0_dd, ann0_ro, elsOf_dsl, elsOf_dnils, toNat_succ, nn_succ, pos_succ, one_succ, rng1, rng2, rng3, rng4, rng5, rng6, rng7, rng8, List.idxOf_cons, wpk_rng, rndK, rndE, T2, T3, T4, T5, T6, T8, T9, T23, T33, T38, T45, T62, T76, T85, T92, T94, T95, CT, hS, iD, k2, k3, k4, k5, kg, e2, htk, a1, a1', w1, w2, p4, hlen, hz, r1, r2]
        simp at ih
        exact ih hps (by omega)
set_option maxRecDepth 100000 in
set_option maxHeartbeats 1000000 in
theorem of47_run (A : D) (l : List Iv) (hl : l.length < 100000) (hA : elsOf (.d A) = some (l.map iD)) : run CC 47 [.d A] [] = some (.d (.sl ((ofI l).map iD)), []) := by
  refine run_code (s := s47 0) rfl rfl rfl (by kernel_rfl) ?_
  simp [s47, TK.agg, constAV, evalAV, eqCells, EK.has, EK.hasAll, vecEls, elsR, AV.toD, toDs, AV.cells, AV.one, joinD, TyI.zeroD, OpR.of, binIntF, binStrF, AV.isPtr, ptrNil, slNil, mpNil, nilE, eqF, negF, posF, binF, pelF, pvLoad, pelSet, pvStore, boxLoad, epLoad, loadF, boxStore, storeF, fieldAddrF, fieldF, epOf, indexAddrF, byteF, indexF, mapLen, lenF, cutF, sliceF, isSl, slice3F, fillF, arrFs, buildF, partsX, landV, buildSliceF, roomB, appVec, appendF, mmFrom, mmF, max2', min2', clearVec, clearF, convF, unF, pickF, nilChkF, extF, ptrsOf, callF, makeSliceF, sameKs, sameD, kindIs, plainFs, keyOk, mapOb, mapEs, okV, lookF, lookupF, putE, putS, mapPut, mapUpdateF, mapDel, deleteF, mapAll, rangeM, rangeF, overV, hitV, nextO, nextF, entryM, entryO, entryF, itOids, builtinF, capsOf, allocF, boxF, bytesL, bytesF, byteTy, strTy, convertF, makeFuncF, makeMapF, makeMapH, opF, reach, reachOf, AObj.live, closedB, nodupB, packO, packL, packX, backN, backG, backO, obL, backE, frzX, frzO, AV.vids, frzL, landC, sameObs, landR, touchF, bitsW, D.cells, D.decEq, D.decEqs, AV.decEq, AV.decEqs, AObj.decEq, AV.oids0, AV.oids, AObj.oids, renG, renP, AV.ren0, AV.ren, envGet, envPut, envKeep, obGet, setEff, putV, St.put, stepS, keyChk, chkD, accD, Ex.block, AV.under, AObj.under, laysOf, roomFor, mkvO, frzG, szOk, killO, usedBy, tidyS, ghost, ghostE, normSt, resOf, allSome, one0, resultsF, finL, finishL, finish, endF, startEnv, chkC, backX, comeC, AV.flat0, rngC, loopO, layL, endLp, busyL, idleL, noRng, rndSt, rndEnd, wpn_nil, wpn_seq, wpn_loop, wpn_seq_exit, wpn_loop_exit, wpn_seq_ret, wpn_loop_ret, wpn_block, wpn_post, wpk_skip, wpk_exit, wpk_ret, wpk_reg, wpk_seq, wpk_condT, wpk_block, wpk_loop, wpk_pre, wpk_post, wop_nil, wop_cons, wop_guard, St.know, envSet, cond_d, cond_bool, cond_int, cond_str, endE, endQ, freeB, disj, pushT, bitsW, int_beq, int_bne, eqS_def, tbE, fuelL_eq, ann0_lays, ann0_dd, ann0_ro, elsOf_dsl, elsOf_dnils, toNat_succ, nn_succ, pos_succ, one_succ, rng1, rng2, rng3, rng4, rng5, rng6, rng7, rng8, List.idxOf_cons, wpk_rng, rndK, rndE, T2, T3, T4, T5, T6, T8, T9, T23, T33, T38, T45, T62, T76, T85, T92, T94, T95, CT, hA]
  refine wlp_inv (S := fun p : List Iv × List Iv × D × List Iv => ⟨[(0, .d A), (3, .d p.2.2.1), (4, .d (.int .i64 p.1.length))], []⟩) (m := fun p => p.2.1.length) (Inv := fun p => p.1 ++ p.2.1 = l ∧ elsOf (.d p.2.2.1) = some (p.2.2.2.map iD) ∧ p.2.2.2.length ≤ p.1.length ∧ srtI p.2.2.2 p.2.1 = srtI [] l) ?_ ([], l, .nils, []) ⟨rfl, rfl, by simp, rfl⟩
  rintro ⟨pre, suf, S, s⟩ ⟨hps, hS, hsl, h2⟩ ih
  rw [e47_1]
  simp only at h2 hps hS hsl ⊢
  unfold ofI at ih ⊢
  rw [← h2] at ih ⊢
  clear h2
  cases suf with
  | nil =>
    have hn := endL hps
    simp [c47_1, TK.agg, constAV, evalAV, eqCells, EK.has, EK.hasAll, vecEls, elsR, AV.toD, toDs, AV.cells, AV.one, joinD, TyI.zeroD, OpR.of, binIntF, binStrF, AV.isPtr, ptrNil, slNil, mpNil, nilE, eqF, negF, posF, binF, pelF, pvLoad, pelSet, pvStore, boxLoad, epLoad, loadF, boxStore, storeF, fieldAddrF, fieldF, epOf, indexAddrF, byteF, indexF, mapLen, lenF, cutF, sliceF, isSl, slice3F, fillF, arrFs, buildF, partsX, landV, buildSliceF, roomB, appVec, appendF, mmFrom, mmF, max2', min2', clearVec, clearF, convF, unF, pickF, nilChkF, extF, ptrsOf, callF, makeSliceF, sameKs, sameD, kindIs, plainFs, keyOk, mapOb, mapEs, okV, lookF, lookupF, putE, putS, mapPut, mapUpdateF, mapDel, deleteF, mapAll, rangeM, rangeF, overV, hitV, nextO, nextF, entryM, entryO, entryF, itOids, builtinF, capsOf, allocF, boxF, bytesL, bytesF, byteTy, strTy, convertF, makeFuncF, makeMapF, makeMapH, opF, reach, reachOf, AObj.live, closedB, nodupB, packO, packL, packX, backN, backG, backO, obL, backE, frzX, frzO, AV.vids, frzL, landC, sameObs, landR, touchF, bitsW, D.cells, D.decEq, D.decEqs, AV.decEq, AV.decEqs, AObj.decEq, AV.oids0, AV.oids, AObj.oids, renG, renP, AV.ren0, AV.ren, envGet, envPut, envKeep, obGet, setEff, putV, St.put, stepS, keyChk, chkD, accD, Ex.block, AV.under, AObj.under, laysOf, roomFor, mkvO, frzG, szOk, killO, usedBy, tidyS, ghost, ghostE, normSt, resOf, allSome, one0, resultsF, finL, finishL, finish, endF, startEnv, chkC, backX, comeC, AV.flat0, rngC, loopO, layL, endLp, busyL, idleL, noRng, rndSt, rndEnd, wpn_nil, wpn_seq, wpn_loop, wpn_seq_exit, wpn_loop_exit, wpn_seq_ret, wpn_loop_ret, wpn_block, wpn_post, wpk_skip, wpk_exit, wpk_ret, wpk_reg, wpk_seq, wpk_condT, wpk_block, wpk_loop, wpk_pre, wpk_post, wop_nil, wop_cons, wop_guard, St.know, envSet, cond_d, cond_bool, cond_int, cond_str, endE, endQ, freeB, disj, pushT, bitsW, int_beq, int_bne, eqS_def, tbE, fuelL_eq, ann0_lays, ann0_dd, ann0_ro, elsOf_dsl, elsOf_dnils, toNat_succ, nn_succ, pos_succ, one_succ, rng1, rng2, rng3, rng4, rng5, rng6, rng7, rng8, List.idxOf_cons, wpk_rng, rndK, rndE, T2, T3, T4, T5, T6, T8, T9, T23, T33, T38, T45, T62, T76, T85, T92, T94, T95, CT, hA, hn, srtI]
    refine loop47_3 S s (by omega) hS _ _ ?_
    have htk : ((mr [] s).map iD).take (mr [] s).length = (mr [] s).map iD := takeM _ _
    generalize mr [] s = M at *
    simp [TK.agg, constAV, evalAV, eqCells, EK.has, EK.hasAll, vecEls, elsR, AV.toD, toDs, AV.cells, AV.one, joinD, TyI.zeroD, OpR.of, binIntF, binStrF, AV.isPtr, ptrNil, slNil, mpNil, nilE, eqF, negF, posF, binF, pelF, pvLoad, pelSet, pvStore, boxLoad, epLoad, loadF, boxStore, storeF, fieldAddrF, fieldF, epOf, indexAddrF, byteF, indexF, mapLen, lenF, cutF, sliceF, isSl, slice3F, fillF, arrFs, buildF, partsX, landV, buildSliceF, roomB, appVec, appendF, mmFrom, mmF, max2', min2', clearVec, clearF, convF, unF, pickF, nilChkF, extF, ptrsOf, callF, makeSliceF, sameKs, sameD, kindIs, plainFs, keyOk, mapOb, mapEs, okV, lookF, lookupF, putE, putS, mapPut, mapUpdateF, mapDel, deleteF, mapAll, rangeM, rangeF, overV, hitV, nextO, nextF, entryM, entryO, entryF, itOids, builtinF, capsOf, allocF, boxF, bytesL, bytesF, byteTy, strTy, convertF, makeFuncF, makeMapF, makeMapH, opF, reach, reachOf, AObj.live, closedB, nodupB, packO, packL, packX, backN, backG, backO, obL, backE, frzX, frzO, AV.vids, frzL, landC, sameObs, landR, touchF, bitsW, D.cells, D.decEq, D.decEqs, AV.decEq, AV.decEqs, AObj.decEq, AV.oids0, AV.oids, AObj.oids, renG, renP, AV.ren0, AV.ren, envGet, envPut, envKeep, obGet, setEff, putV, St.put, stepS, keyChk, chkD, accD, Ex.block, AV.under, AObj.under, laysOf, roomFor, mkvO, frzG, szOk, killO, usedBy, tidyS, ghost, ghostE, normSt, resOf, allSome, one0, resultsF, finL, finishL, finish, endF, startEnv, chkC, backX, comeC, AV.flat0, rngC, loopO, layL, endLp, busyL, idleL, noRng, rndSt, rndEnd, wpn_nil, wpn_seq, wpn_loop, wpn_seq_exit, wpn_loop_exit, wpn_seq_ret, wpn_loop_ret, wpn_block, wpn_post, wpk_skip, wpk_exit, wpk_ret, wpk_reg, wpk_seq, wpk_condT, wpk_block, wpk_loop, wpk_pre, wpk_post, wop_nil, wop_cons, wop_guard, St.know, envSet, cond_d, cond_bool, cond_int, cond_str, endE, endQ, freeB, disj, pushT, bitsW, int_beq, int_bne, eqS_def, tbE, fuelL_eq, ann0_lays, ann0_dd, ann0_ro, elsOf_dsl, elsOf_dnils, toNat_succ, nn_succ, pos_succ, one_succ, rng1, rng2, rng3, rng4, rng5, rng6, rng7, rng8, List.idxOf_cons, wpk_rng, rndK, rndE, T2, T3, T4, T5, T6, T8, T9, T23, T33, T38, T45, T62, T76, T85, T92, T94, T95, CT, htk]
  | cons c suf =>
    obtain ⟨k1, k2, k3, k4, k5, k6⟩ := atL iD hps (by omega)
    have kg := getL k5 k4
    have k3' := k3
    simp only [iD] at k3
    by_cases e1 : c.2 ≤ c.1
    · have ih := ih (pre ++ [c], suf, S, s)
      simp [srtI, e1] at ih ⊢
      simp [c47_1, TK.agg, constAV, evalAV, eqCells, EK.has, EK.hasAll, vecEls, elsR, AV.toD, toDs, AV.cells, AV.one, joinD, TyI.zeroD, OpR.of, binIntF, binStrF, AV.isPtr, ptrNil, slNil, mpNil, nilE, eqF, negF, posF, binF, pelF, pvLoad, pelSet, pvStore, boxLoad, epLoad, loadF, boxStore, storeF, fieldAddrF, fieldF, epOf, indexAddrF, byteF, indexF, mapLen, lenF, cutF, sliceF, isSl, slice3F, fillF, arrFs, buildF, partsX, landV, buildSliceF, roomB, appVec, appendF, mmFrom, mmF, max2', min2', clearVec, clearF, convF, unF, pickF, nilChkF, extF, ptrsOf, callF, makeSliceF, sameKs, sameD, kindIs, plainFs, keyOk, mapOb, mapEs, okV, lookF, lookupF, putE, putS, mapPut, mapUpdateF, mapDel, deleteF, mapAll, rangeM, rangeF, overV, hitV, nextO, nextF, entryM, entryO, entryF, itOids, builtinF, capsOf, allocF, boxF, bytesL, bytesF, byteTy, strTy, convertF, makeFuncF, makeMapF, makeMapH, opF, reach, reachOf, AObj.live, closedB, nodupB, packO, packL, packX, backN, backG, backO, obL, backE, frzX, frzO, AV.vids, frzL, landC, sameObs, landR, touchF, bitsW, D.cells, D.decEq, D.decEqs, AV.decEq, AV.decEqs, AObj.decEq, AV.oids0, AV.oids, AObj.oids, renG, renP, AV.ren0, AV.ren, envGet, envPut, envKeep, obGet, setEff, putV, St.put, stepS, keyChk, chkD, accD, Ex.block, AV.under, AObj.under, laysOf, roomFor, mkvO, frzG, szOk, killO, usedBy, tidyS, ghost, ghostE, normSt, resOf, allSome, one0, resultsF, finL, finishL, finish, endF, startEnv, chkC, backX, comeC, AV.flat0, rngC, loopO, layL, endLp, busyL, idleL, noRng, rndSt, rndEnd, wpn_nil, wpn_seq, wpn_loop, wpn_seq_exit, wpn_loop_exit, wpn_seq_ret, wpn_loop_ret, wpn_block, wpn_post, wpk_skip, wpk_exit, wpk_ret, wpk_reg, wpk_seq, wpk_condT, wpk_block, wpk_loop, wpk_pre, wpk_post, wop_nil, wop_cons, wop_guard, St.know, envSet, cond_d, cond_bool, cond_int, cond_str, endE, endQ, freeB, disj, pushT, bitsW, int_beq, int_bne, eqS_def, tbE, fuelL_eq, ann0_lays, ann0_dd, ann0_ro, elsOf_dsl, elsOf_dnils, toNat_succ, nn_succ, pos_succ, one_succ, rng1, rng2, rng3, rng4, rng5, rng6, rng7, rng8, List.idxOf_cons, wpk_rng, rndK, rndE, T2, T3, T4, T5, T6, T8, T9, T23, T33, T38, T45, T62, T76, T85, T92, T94, T95, CT, hA, hS, iD, k2, k3, k4, k5, kg, e1]
      exact ih hps hS (by omega)
    · simp only [srtI, if_neg e1] at ih ⊢
      simp [c47_1, TK.agg, constAV, evalAV, eqCells, EK.has, EK.hasAll, vecEls, elsR, AV.toD, toDs, AV.cells, AV.one, joinD, TyI.zeroD, OpR.of, binIntF, binStrF, AV.isPtr, ptrNil, slNil, mpNil, nilE, eqF, negF, posF, binF, pelF, pvLoad, pelSet, pvStore, boxLoad, epLoad, loadF, boxStore, storeF, fieldAddrF, fieldF, epOf, indexAddrF, byteF, indexF, mapLen, lenF, cutF, sliceF, isSl, slice3F, fillF, arrFs, buildF, partsX, landV, buildSliceF, roomB, appVec, appendF, mmFrom, mmF, max2', min2', clearVec, clearF, convF, unF, pickF, nilChkF, extF, ptrsOf, callF, makeSliceF, sameKs, sameD, kindIs, plainFs, keyOk, mapOb, mapEs, okV, lookF, lookupF, putE, putS, mapPut, mapUpdateF, mapDel, deleteF, mapAll, rangeM, rangeF, overV, hitV, nextO, nextF, entryM, entryO, entryF, itOids, builtinF, capsOf, allocF, boxF, bytesL, bytesF, byteTy, strTy, convertF, makeFuncF, makeMapF, makeMapH, opF, reach, reachOf, AObj.live, closedB, nodupB, packO, packL, packX, backN, backG, backO, obL, backE, frzX, frzO, AV.vids, frzL, landC, sameObs, landR, touchF, bitsW, D.cells, D.decEq, D.decEqs, AV.decEq, AV.decEqs, AObj.decEq, AV.oids0, AV.oids, AObj.oids, renG, renP, AV.ren0, AV.ren, envGet, envPut, envKeep, obGet, setEff, putV, St.put, stepS, keyChk, chkD, accD, Ex.block, AV.under, AObj.under, laysOf, roomFor, mkvO, frzG, szOk, killO, usedBy, tidyS, ghost, ghostE, normSt, resOf, allSome, one0, resultsF, finL, finishL, finish, endF, startEnv, chkC, backX, comeC, AV.flat0, rngC, loopO, layL, endLp, busyL, idleL, noRng, rndSt, rndEnd, wpn_nil, wpn_seq, wpn_loop, wpn_seq_exit, wpn_loop_exit, wpn_seq_ret, wpn_loop_ret, wpn_block, wpn_post, wpk_skip, wpk_exit, wpk_ret, wpk_reg, wpk_seq, wpk_condT, wpk_block, wpk_loop, wpk_pre, wpk_post, wop_nil, wop_cons, wop_guard, St.know, envSet, cond_d, cond_bool, cond_int, cond_str, endE, endQ, freeB, disj, pushT, bitsW, int_beq, int_bne, eqS_def, tbE, fuelL_eq, ann0_lays, ann0_dd, ann0_ro, elsOf_dsl, elsOf_dnils, toNat_succ, nn_succ, pos_succ, one_succ, rng1, rng2, rng3, rng4, rng5, rng6, rng7, rng8, List.idxOf_cons, wpk_rng, rndK, rndE, T2, T3, T4, T5, T6, T8, T9, T23, T33, T38, T45, T62, T76, T85, T92, T94, T95, CT, hA, hS, iD, k2, k3, k4, k5, kg, e1]
      refine loop47_2 A S l s (by omega) (by omega) hA hS pre.length c k5 _ _ ?_
      obtain ⟨⟨z1, z2, z3, z4⟩, z5, ⟨z6, z7, z8, z9⟩, ⟨z10, z11, z12⟩, ⟨z13, z14, z15⟩, z16, z17⟩ := insM iD 2 iD_len s (iD c) rfl (posI c s s.length) (posI_le _ _ _) 16 (by omega) (by omega)
      have ih := ih (pre ++ [c], suf, .sl ((s.map iD).take (posI c s s.length) ++ iD c :: (s.map iD).drop (posI c s s.length)), insI c s)
      have hil := insI_len c s
      have hie : (insI c s).map iD = (s.map iD).take (posI c s s.length) ++ iD c :: (s.map iD).drop (posI c s s.length) := by simp [insI]
      simp only [elsOf] at ih
      rw [hie] at ih
      have hpl := posI_le c s s.length
      generalize posI c s s.length = k at *
      simp only [iD] at z4 z8 z9
      simp [TK.agg, constAV, evalAV, eqCells, EK.has, EK.hasAll, vecEls, elsR, AV.toD, toDs, AV.cells, AV.one, joinD, TyI.zeroD, OpR.of, binIntF, binStrF, AV.isPtr, ptrNil, slNil, mpNil, nilE, eqF, negF, posF, binF, pelF, pvLoad, pelSet, pvStore, boxLoad, epLoad, loadF, boxStore, storeF, fieldAddrF, fieldF, epOf, indexAddrF, byteF, indexF, mapLen, lenF, cutF, sliceF, isSl, slice3F, fillF, arrFs, buildF, partsX, landV, buildSliceF, roomB, appVec, appendF, mmFrom, mmF, max2', min2', clearVec, clearF, convF, unF, pickF, nilChkF, extF, ptrsOf, callF, makeSliceF, sameKs, sameD, kindIs, plainFs, keyOk, mapOb, mapEs, okV, lookF, lookupF, putE, putS, mapPut, mapUpdateF, mapDel, deleteF, mapAll, rangeM, rangeF, overV, hitV, nextO, nextF, entryM, entryO, entryF, itOids, builtinF, capsOf, allocF, boxF, bytesL, bytesF, byteTy, strTy, convertF, makeFuncF, makeMapF, makeMapH, opF, reach, reachOf, AObj.live, closedB, nodupB, packO, packL, packX, backN, backG, backO, obL, backE, frzX, frzO, AV.vids, frzL, landC, sameObs, landR, touchF, bitsW, D.cells, D.decEq, D.decEqs, AV.decEq, AV.decEqs, AObj.decEq, AV.oids0, AV.oids, AObj.oids, renG, renP, AV.ren0, AV.ren, envGet, envPut, envKeep, obGet, setEff, putV, St.put, stepS, keyChk, chkD, accD, Ex.block, AV.under, AObj.under, laysOf, roomFor, mkvO, frzG, szOk, killO, usedBy, tidyS, ghost, ghostE, normSt, resOf, allSome, one0, resultsF, finL, finishL, finish, endF, startEnv, chkC, backX, comeC, AV.flat0, rngC, loopO, layL, endLp, busyL, idleL, noRng, rndSt, rndEnd, wpn_nil, wpn_seq, wpn_loop, wpn_seq_exit, wpn_loop_exit, wpn_seq_ret, wpn_loop_ret, wpn_block, wpn_post, wpk_skip, wpk_exit, wpk_ret, wpk_reg, wpk_seq, wpk_condT, wpk_block, wpk_loop, wpk_pre, wpk_post, wop_nil, wop_cons, wop_guard, St.know, envSet, cond_d, cond_bool, cond_int, cond_str, endE, endQ, freeB, disj, pushT, bitsW, int_beq, int_bne, eqS_def, tbE, fuelL_eq, ann0_lays, ann0_dd, ann0_ro, elsOf_dsl, elsOf_dnils, toNat_succ, nn_succ, pos_succ, one_succ, rng1, rng2, rng3, rng4, rng5, rng6, rng7, rng8, List.idxOf_cons, wpk_rng, rndK, rndE, T2, T3, T4, T5, T6, T8, T9, T23, T33, T38, T45, T62, T76, T85, T92, T94, T95, CT, hA, hS, iD, k2, k3, k4, k5, kg, z1, z2, z3, z4, z5, z6, z7, z8, z9, z10, z11, z12, z13, z14, z15, z16, z17, hpl]
      simp [iD] at ih
      exact ih hps (by omega)
end Go.Proofs.YtnpppjipbkceeaaV
