/- The edges of two lists, and combine. -/
import Derived.Test.YtnpppjipbkceeaaTc5
set_option linter.unusedVariables false
set_option linter.unusedSimpArgs false
namespace Go.Proofs.YtnpppjipbkceeaaV
open Go.RowKit
def bdL : List Iv → List Int
  | [] => []
  | p :: r => p.1 :: p.2 :: bdL r
theorem bdL_len : ∀ l : List Iv, (bdL l).length = 2 * l.length
  | [] => rfl
  | p :: r => by simp [bdL, bdL_len r]; omega
theorem bdL_get : ∀ (l : List Iv) (i : Nat) (x : Int), (bdL l)[i]? = some x → ∃ p, l[i / 2]? = some p ∧ x = (if i % 2 = 0 then p.1 else p.2)
  | [], i, x, h => by simp [bdL] at h
  | p :: r, 0, x, h => by simp [bdL] at h; exact ⟨p, rfl, by simp [h]⟩
  | p :: r, 1, x, h => by simp [bdL] at h; exact ⟨p, rfl, by simp [h]⟩
  | p :: r, i + 2, x, h => by
    simp only [bdL, List.getElem?_cons_succ] at h
    obtain ⟨q, h1, h2⟩ := bdL_get r i x h
    refine ⟨q, ?_, ?_⟩
    · rw [show (i + 2) / 2 = i / 2 + 1 by omega]; simpa using h1
    · rw [show (i + 2) % 2 = i % 2 by omega]; exact h2
theorem tmod2 (n : Nat) : Int.tmod (n : Int) 2 = ((n % 2 : Nat) : Int) := rfl
theorem tdiv2 (n : Nat) : Int.tdiv (n : Int) 2 = ((n / 2 : Nat) : Int) := rfl
theorem wmul2 {n : Nat} (h : n < 1000000) : IntKind.i64.wrap (2 * (n : Int)) = 2 * (n : Int) := wrap64 (by omega) (by omega)
theorem wnat {n : Nat} (h : n < 4611686018427387904) : IntKind.i64.wrap (n : Int) = (n : Int) := wrap64 (by omega) (by omega)
set_option maxRecDepth 100000 in
theorem bound78_end (A : D) (l : List Iv) (i : Nat) (hl : l.length < 100000) (hA : elsOf (.d A) = some (l.map iD)) (hi : (bdL l).length = i) : run CC 78 [.d A, .d (.int .i64 i)] [] = some (.tup [.d (.int .i64 0), .d (.bool false)], []) := by
  refine run_code (s := s78 0) rfl rfl rfl (by kernel_rfl) ?_
  rw [bdL_len] at hi
  have e : (i : Int) = 2 * (l.length : Int) := by omega
  have w := wmul2 (n := l.length) (by omega)
  simp [s78, TK.agg, constAV, evalAV, eqCells, EK.has, EK.hasAll, vecEls, elsR, AV.toD, toDs, AV.cells, AV.one, joinD, TyI.zeroD, OpR.of, binIntF, binStrF, AV.isPtr, ptrNil, slNil, mpNil, nilE, eqF, negF, posF, binF, pelF, pvLoad, pelSet, pvStore, boxLoad, epLoad, loadF, boxStore, storeF, fieldAddrF, fieldF, epOf, indexAddrF, byteF, indexF, mapLen, lenF, cutF, sliceF, isSl, slice3F, fillF, arrFs, buildF, partsX, landV, buildSliceF, roomB, appVec, appendF, mmFrom, mmF, max2', min2', clearVec, clearF, convF, unF, pickF, nilChkF, extF, ptrsOf, callF, makeSliceF, sameKs, sameD, kindIs, plainFs, keyOk, mapOb, mapEs, okV, lookF, lookupF, putE, putS, mapPut, mapUpdateF, mapDel, deleteF, mapAll, rangeM, rangeF, overV, hitV, nextO, nextF, entryM, entryO, entryF, itOids, builtinF, capsOf, allocF, boxF, bytesL, bytesF, byteTy, strTy, convertF, makeFuncF, makeMapF, makeMapH, opF, reach, reachOf, AObj.live, closedB, nodupB, packO, packL, packX, backN, backG, backO, obL, backE, frzX, frzO, AV.vids, frzL, landC, sameObs, landR, touchF, bitsW, D.cells, D.decEq, D.decEqs, AV.decEq, AV.decEqs, AObj.decEq, AV.oids0, AV.oids, AObj.oids, renG, renP, AV.ren0, AV.ren, envGet, envPut, envKeep, obGet, setEff, putV, St.put, stepS, keyChk, chkD, accD, Ex.block, AV.under, AObj.under, laysOf, roomFor, mkvO, frzG, szOk, killO, usedBy, tidyS, ghost, ghostE, normSt, resOf, allSome, one0, resultsF, finL, finishL, finish, endF, startEnv, chkC, backX, comeC, AV.flat0, rngC, loopO, layL, endLp, busyL, idleL, noRng, rndSt, rndEnd, wpn_nil, wpn_seq, wpn_loop, wpn_seq_exit, wpn_loop_exit, wpn_seq_ret, wpn_loop_ret, wpn_block, wpn_post, wpk_skip, wpk_exit, wpk_ret, wpk_reg, wpk_seq, wpk_condT, wpk_block, wpk_loop, wpk_pre, wpk_post, wop_nil, wop_cons, wop_guard, St.know, envSet, cond_d, cond_bool, cond_int, cond_str, endE, endQ, freeB, disj, pushT, bitsW, int_beq, int_bne, eqS_def, tbE, fuelL_eq, ann0_lays, ann0_dd, ann0_ro, elsOf_dsl, elsOf_dnils, toNat_succ, nn_succ, pos_succ, one_succ, rng1, rng2, rng3, rng4, rng5, rng6, rng7, rng8, List.idxOf_cons, wpk_rng, rndK, rndE, T2, T3, T4, T5, T6, T8, T9, T22, T23, T33, T38, T44, T45, T58, T60, T62, T63, T76, T85, T92, T94, CT, hA, w, e]
set_option maxRecDepth 100000 in
theorem bound78_run (A : D) (l : List Iv) (i : Nat) (x : Int) (hl : l.length < 100000) (hA : elsOf (.d A) = some (l.map iD)) (hi : (bdL l)[i]? = some x) : run CC 78 [.d A, .d (.int .i64 i)] [] = some (.tup [.d (.int .i64 x), .d (.bool true)], []) := by
  refine run_code (s := s78 0) rfl rfl rfl (by kernel_rfl) ?_
  obtain ⟨p, hp, hx⟩ := bdL_get l i x hi
  have hlt := (List.getElem?_eq_some_iff.1 hi).1
  rw [bdL_len] at hlt
  have e : ¬ (i : Int) = 2 * (l.length : Int) := by omega
  have w := wmul2 (n := l.length) (by omega)
  obtain ⟨k1, k2, k3⟩ := atN iD hp (by omega)
  have kg := getL hp k1
  have wd : IntKind.i64.wrap (((i / 2 : Nat) : Int)) = ((i / 2 : Nat) : Int) := wnat (by omega)
  simp only [iD] at k3
  by_cases h0 : i % 2 = 0
  · have h1 : ((i % 2 : Nat) : Int) = 0 := by omega
    rw [if_pos h0] at hx
    generalize hj : i / 2 = j at *
    generalize hq : i % 2 = q at *
    have t1 : Int.tmod (i : Int) 2 = 0 := by rw [tmod2, hq]; omega
    have t2 : Int.tdiv (i : Int) 2 = (j : Int) := by rw [tdiv2, hj]
    subst hx
    simp [s78, TK.agg, constAV, evalAV, eqCells, EK.has, EK.hasAll, vecEls, elsR, AV.toD, toDs, AV.cells, AV.one, joinD, TyI.zeroD, OpR.of, binIntF, binStrF, AV.isPtr, ptrNil, slNil, mpNil, nilE, eqF, negF, posF, binF, pelF, pvLoad, pelSet, pvStore, boxLoad, epLoad, loadF, boxStore, storeF, fieldAddrF, fieldF, epOf, indexAddrF, byteF, indexF, mapLen, lenF, cutF, sliceF, isSl, slice3F, fillF, arrFs, buildF, partsX, landV, buildSliceF, roomB, appVec, appendF, mmFrom, mmF, max2', min2', clearVec, clearF, convF, unF, pickF, nilChkF, extF, ptrsOf, callF, makeSliceF, sameKs, sameD, kindIs, plainFs, keyOk, mapOb, mapEs, okV, lookF, lookupF, putE, putS, mapPut, mapUpdateF, mapDel, deleteF, mapAll, rangeM, rangeF, overV, hitV, nextO, nextF, entryM, entryO, entryF, itOids, builtinF, capsOf, allocF, boxF, bytesL, bytesF, byteTy, strTy, convertF, makeFuncF, makeMapF, makeMapH, opF, reach, reachOf, AObj.live, closedB, nodupB, packO, packL, packX, backN, backG, backO, obL, backE, frzX, frzO, AV.vids, frzL, landC, sameObs, landR, touchF, bitsW, D.cells, D.decEq, D.decEqs, AV.decEq, AV.decEqs, AObj.decEq, AV.oids0, AV.oids, AObj.oids, renG, renP, AV.ren0, AV.ren, envGet, envPut, envKeep, obGet, setEff, putV, St.put, stepS, keyChk, chkD, accD, Ex.block, AV.under, AObj.under, laysOf, roomFor, mkvO, frzG, szOk, killO, usedBy, tidyS, ghost, ghostE, normSt, resOf, allSome, one0, resultsF, finL, finishL, finish, endF, startEnv, chkC, backX, comeC, AV.flat0, rngC, loopO, layL, endLp, busyL, idleL, noRng, rndSt, rndEnd, wpn_nil, wpn_seq, wpn_loop, wpn_seq_exit, wpn_loop_exit, wpn_seq_ret, wpn_loop_ret, wpn_block, wpn_post, wpk_skip, wpk_exit, wpk_ret, wpk_reg, wpk_seq, wpk_condT, wpk_block, wpk_loop, wpk_pre, wpk_post, wop_nil, wop_cons, wop_guard, St.know, envSet, cond_d, cond_bool, cond_int, cond_str, endE, endQ, freeB, disj, pushT, bitsW, int_beq, int_bne, eqS_def, tbE, fuelL_eq, ann0_lays, ann0_dd, ann0_ro, elsOf_dsl, elsOf_dnils, toNat_succ, nn_succ, pos_succ, one_succ, rng1, rng2, rng3, rng4, rng5, rng6, rng7, rng8, List.idxOf_cons, wpk_rng, rndK, rndE, T2, T3, T4, T5, T6, T8, T9, T22, T23, T33, T38, T44, T45, T58, T60, T62, T63, T76, T85, T92, T94, CT, hA, iD, w, e, t1, t2, wd, k1, k3, kg, hp]
  · rw [if_neg h0] at hx
    have h1 : i % 2 = 1 := by omega
    generalize hj : i / 2 = j at *
    have t1 : Int.tmod (i : Int) 2 = 1 := by rw [tmod2, h1]; rfl
    have t2 : Int.tdiv (i : Int) 2 = (j : Int) := by rw [tdiv2, hj]
    subst hx
    simp [s78, TK.agg, constAV, evalAV, eqCells, EK.has, EK.hasAll, vecEls, elsR, AV.toD, toDs, AV.cells, AV.one, joinD, TyI.zeroD, OpR.of, binIntF, binStrF, AV.isPtr, ptrNil, slNil, mpNil, nilE, eqF, negF, posF, binF, pelF, pvLoad, pelSet, pvStore, boxLoad, epLoad, loadF, boxStore, storeF, fieldAddrF, fieldF, epOf, indexAddrF, byteF, indexF, mapLen, lenF, cutF, sliceF, isSl, slice3F, fillF, arrFs, buildF, partsX, landV, buildSliceF, roomB, appVec, appendF, mmFrom, mmF, max2', min2', clearVec, clearF, convF, unF, pickF, nilChkF, extF, ptrsOf, callF, makeSliceF, sameKs, sameD, kindIs, plainFs, keyOk, mapOb, mapEs, okV, lookF, lookupF, putE, putS, mapPut, mapUpdateF, mapDel, deleteF, mapAll, rangeM, rangeF, overV, hitV, nextO, nextF, entryM, entryO, entryF, itOids, builtinF, capsOf, allocF, boxF, bytesL, bytesF, byteTy, strTy, convertF, makeFuncF, makeMapF, makeMapH, opF, reach, reachOf, AObj.live, closedB, nodupB, packO, packL, packX, backN, backG, backO, obL, backE, frzX, frzO, AV.vids, frzL, landC, sameObs, landR, touchF, bitsW, D.cells, D.decEq, D.decEqs, AV.decEq, AV.decEqs, AObj.decEq, AV.oids0, AV.oids, AObj.oids, renG, renP, AV.ren0, AV.ren, envGet, envPut, envKeep, obGet, setEff, putV, St.put, stepS, keyChk, chkD, accD, Ex.block, AV.under, AObj.under, laysOf, roomFor, mkvO, frzG, szOk, killO, usedBy, tidyS, ghost, ghostE, normSt, resOf, allSome, one0, resultsF, finL, finishL, finish, endF, startEnv, chkC, backX, comeC, AV.flat0, rngC, loopO, layL, endLp, busyL, idleL, noRng, rndSt, rndEnd, wpn_nil, wpn_seq, wpn_loop, wpn_seq_exit, wpn_loop_exit, wpn_seq_ret, wpn_loop_ret, wpn_block, wpn_post, wpk_skip, wpk_exit, wpk_ret, wpk_reg, wpk_seq, wpk_condT, wpk_block, wpk_loop, wpk_pre, wpk_post, wop_nil, wop_cons, wop_guard, St.know, envSet, cond_d, cond_bool, cond_int, cond_str, endE, endQ, freeB, disj, pushT, bitsW, int_beq, int_bne, eqS_def, tbE, fuelL_eq, ann0_lays, ann0_dd, ann0_ro, elsOf_dsl, elsOf_dnils, toNat_succ, nn_succ, pos_succ, one_succ, rng1, rng2, rng3, rng4, rng5, rng6, rng7, rng8, List.idxOf_cons, wpk_rng, rndK, rndE, T2, T3, T4, T5, T6, T8, T9, T22, T23, T33, T38, T44, T45, T58, T60, T62, T63, T76, T85, T92, T94, CT, hA, iD, w, e, t1, t2, wd, k1, k3, kg, hp]
def par (n : Nat) : Bool := decide (n % 2 = 1)
theorem par_succ (n : Nat) : par (n + 1) = !par n := by
  unfold par
  by_cases h : n % 2 = 1
  · have : (n + 1) % 2 = 0 := by omega
    simp [h, this]
  · have : (n + 1) % 2 = 1 := by omega
    have h2 : n % 2 = 0 := by omega
    simp [h2, this]
theorem tmod_par (n : Nat) : (Int.tmod (n : Int) 2 = 1) = (par n = true) := by
  rw [tmod2]; unfold par; simp only [eq_iff_iff, decide_eq_true_eq]; omega
theorem tmod_par1 (n : Nat) : (Int.tmod ((n : Int) + 1) 2 = 1) = (par n = false) := by
  have := tmod_par (n + 1)
  rw [par_succ] at this
  rw [show ((n : Int) + 1) = ((n + 1 : Nat) : Int) by simp, this]
  simp
/-- The edges to come: of the first list's bounds, of the second's; whether within. -/
def eds : Bool → Bool → List Int → List Int → List (Int × Bool × Bool)
  | pa, pb, x :: xs, y :: ys => if y < x then (y, pa, !pb) :: eds pa (!pb) (x :: xs) ys else if x < y then (x, !pa, pb) :: eds (!pa) pb xs (y :: ys) else (x, !pa, !pb) :: eds (!pa) (!pb) xs ys
  | pa, pb, x :: xs, [] => (x, !pa, pb) :: eds (!pa) pb xs []
  | pa, pb, [], y :: ys => (y, pa, !pb) :: eds pa (!pb) [] ys
  | _, _, [], [] => []
termination_by _ _ xs ys => xs.length + ys.length
def Cs.steps (f : Bool → Bool → Bool) : Cs → List (Int × Bool × Bool) → Cs
  | s, [] => s
  | s, e :: r => Cs.steps f (s.step f e.1 e.2.1 e.2.2) r
/-- The step of what has been appended to. -/
theorem step_mv (f : Bool → Bool → Bool) (s : Cs) (a : Int) (x y : Bool) : s.step f a x y = { Cs.step f ⟨s.o, s.fr, s.op, false⟩ a x y with mv := s.mv || (Cs.step f ⟨s.o, s.fr, s.op, false⟩ a x y).mv } := by
  obtain ⟨o, fr, op, mv⟩ := s
  cases hf : f x y <;> cases op <;> simp [Cs.step, hf]
end Go.Proofs.YtnpppjipbkceeaaV
