/- The law DeploymentChecks. -/
import Derived.Test.YteidaaobppjlbaaWc47c
set_option linter.unusedVariables false
set_option linter.unusedSimpArgs false
namespace Go.Proofs.YteidaaobppjlbaaV
open Go.RowKit
set_option maxRecDepth 100000 in
theorem loop3_1 (A : D) (l : List Chg) (m : Int) (hl : l.length ≤ 20) (hA : elsOf (.d A) = some (l.map Chg.enc)) (ks : List Fr) (K : Ex → St → Prop) (hnext : wpn CC .norm ⟨[(0, .d A), (1, .d (.int .u8 m))], []⟩ ks K) :
    wlp CC (s3_1 0) ⟨[(0, .d A), (1, .d (.int .u8 m)), (5, .d (.int .i64 1))], []⟩ (.block 0 :: .post (.tidy [0, 1] 0 0) :: ks) K := by
  refine wlp_inv (S := fun j : Nat => ⟨[(0, .d A), (1, .d (.int .u8 m)), (5, .d (.int .i64 ((j : Int) + 1)))], []⟩) (m := fun j => l.length - j) (Inv := fun j => j ≤ l.length) ?_ 0 (by simp)
  rintro j hj ih
  rw [e3_1]
  by_cases hlt : j + 1 < l.length
  · have hw : IntKind.i64.wrap ((j : Int) + 1 + 1) = (j : Int) + 1 + 1 := wrap64 (by omega) (by omega)
    have hm : IntKind.i64.wrap (j : Int) = (j : Int) := wrap64 (by omega) (by omega)
    have hx : (l.map Chg.enc)[j]? = some (l[j]).enc := by rw [List.getElem?_map, List.getElem?_eq_getElem (by omega)]; rfl
    have hy : (l.map Chg.enc)[j + 1]? = some (l[j + 1]).enc := by simp [hlt]
    have c1 := compare_run l[j] l[j + 1]
    have c2 := compare_run l[j + 1] l[j]
    have c3 := compare16_run l[j] l[j + 1]
    have c4 := compare16_run l[j + 1] l[j]
    have ih := ih (j + 1) (by omega) (by omega)
    have hlt' : (j : Int) + 1 < l.length := by omega
    simp only [Chg.enc] at hx hy c1 c2 c3 c4
    simp at ih
    simp [c3_1, TK.agg, constAV, evalAV, eqCells, EK.has, EK.hasAll, vecEls, elsR, AV.toD, toDs, AV.cells, AV.one, joinD, TyI.zeroD, OpR.of, binIntF, binStrF, AV.isPtr, ptrNil, slNil, mpNil, nilE, eqF, negF, posF, binF, pelF, pvLoad, pelSet, pvStore, boxLoad, epLoad, loadF, boxStore, storeF, fieldAddrF, fieldF, epOf, indexAddrF, byteF, indexF, mapLen, lenF, cutF, sliceF, isSl, slice3F, fillF, arrFs, buildF, partsX, landV, buildSliceF, roomB, appVec, appendF, mmFrom, mmF, max2', min2', clearVec, clearF, convF, unF, pickF, nilChkF, extF, ptrsOf, callF, makeSliceF, sameKs, sameD, kindIs, plainFs, keyOk, mapOb, mapEs, okV, lookF, lookupF, putE, putS, mapPut, mapUpdateF, mapDel, deleteF, mapAll, rangeM, rangeF, overV, hitV, nextO, nextF, entryM, entryO, entryF, itOids, builtinF, capsOf, allocF, boxF, convertF, makeFuncF, makeMapF, makeMapH, opF, reach, reachOf, AObj.live, closedB, nodupB, packO, packL, packX, backN, backG, backO, obL, backE, frzX, frzO, AV.vids, frzL, landC, sameObs, landR, touchF, D.cells, D.decEq, D.decEqs, AV.decEq, AV.decEqs, AObj.decEq, AV.oids0, AV.oids, AObj.oids, renG, renP, AV.ren0, AV.ren, envGet, envPut, envKeep, obGet, setEff, putV, St.put, stepS, keyChk, chkD, accD, Ex.block, AV.under, AObj.under, laysOf, roomFor, mkvO, frzG, szOk, killO, usedBy, tidyS, ghost, ghostE, normSt, resOf, allSome, one0, resultsF, finL, finishL, finish, endF, startEnv, chkC, backX, comeC, wpn_nil, wpn_seq, wpn_loop, wpn_seq_exit, wpn_loop_exit, wpn_seq_ret, wpn_loop_ret, wpn_block, wpn_post, wpk_skip, wpk_exit, wpk_ret, wpk_reg, wpk_seq, wpk_condT, wpk_block, wpk_loop, wpk_pre, wpk_post, wop_nil, wop_cons, wop_guard, St.know, envSet, cond_d, cond_bool, cond_int, cond_str, endE, endQ, freeB, disj, pushT, bitsW, int_beq, int_bne, eqS_def, tbE, fuelL_eq, ann0_lays, ann0_dd, ann0_ro, elsOf_dsl, elsOf_dnils, toNat_succ, nn_succ, pos_succ, one_succ, rng1, rng2, rng3, rng4, rng5, rng6, rng7, rng8, List.idxOf_cons, T3, T4, T5, T9, T22, T26, T27, T30, T32, T34, T37, T39, T45, T46, T47, T48, T50, T52, T54, T56, T59, T61, T64, T66, T72, T73, T78, T99, T101, T103, T104, T107, T110, T113, T116, T154, T169, T171, T194, CT, hA, hx, hy, hw, hm, hlt', c1, c2, c3, c4]
    exact ih
  · have hlt' : ¬ (j : Int) + 1 < l.length := by omega
    simp [c3_1, TK.agg, constAV, evalAV, eqCells, EK.has, EK.hasAll, vecEls, elsR, AV.toD, toDs, AV.cells, AV.one, joinD, TyI.zeroD, OpR.of, binIntF, binStrF, AV.isPtr, ptrNil, slNil, mpNil, nilE, eqF, negF, posF, binF, pelF, pvLoad, pelSet, pvStore, boxLoad, epLoad, loadF, boxStore, storeF, fieldAddrF, fieldF, epOf, indexAddrF, byteF, indexF, mapLen, lenF, cutF, sliceF, isSl, slice3F, fillF, arrFs, buildF, partsX, landV, buildSliceF, roomB, appVec, appendF, mmFrom, mmF, max2', min2', clearVec, clearF, convF, unF, pickF, nilChkF, extF, ptrsOf, callF, makeSliceF, sameKs, sameD, kindIs, plainFs, keyOk, mapOb, mapEs, okV, lookF, lookupF, putE, putS, mapPut, mapUpdateF, mapDel, deleteF, mapAll, rangeM, rangeF, overV, hitV, nextO, nextF, entryM, entryO, entryF, itOids, builtinF, capsOf, allocF, boxF, convertF, makeFuncF, makeMapF, makeMapH, opF, reach, reachOf, AObj.live, closedB, nodupB, packO, packL, packX, backN, backG, backO, obL, backE, frzX, frzO, AV.vids, frzL, landC, sameObs, landR, touchF, D.cells, D.decEq, D.decEqs, AV.decEq, AV.decEqs, AObj.decEq, AV.oids0, AV.oids, AObj.oids, renG, renP, AV.ren0, AV.ren, envGet, envPut, envKeep, obGet, setEff, putV, St.put, stepS, keyChk, chkD, accD, Ex.block, AV.under, AObj.under, laysOf, roomFor, mkvO, frzG, szOk, killO, usedBy, tidyS, ghost, ghostE, normSt, resOf, allSome, one0, resultsF, finL, finishL, finish, endF, startEnv, chkC, backX, comeC, wpn_nil, wpn_seq, wpn_loop, wpn_seq_exit, wpn_loop_exit, wpn_seq_ret, wpn_loop_ret, wpn_block, wpn_post, wpk_skip, wpk_exit, wpk_ret, wpk_reg, wpk_seq, wpk_condT, wpk_block, wpk_loop, wpk_pre, wpk_post, wop_nil, wop_cons, wop_guard, St.know, envSet, cond_d, cond_bool, cond_int, cond_str, endE, endQ, freeB, disj, pushT, bitsW, int_beq, int_bne, eqS_def, tbE, fuelL_eq, ann0_lays, ann0_dd, ann0_ro, elsOf_dsl, elsOf_dnils, toNat_succ, nn_succ, pos_succ, one_succ, rng1, rng2, rng3, rng4, rng5, rng6, rng7, rng8, List.idxOf_cons, T3, T4, T5, T9, T22, T26, T27, T30, T32, T34, T37, T39, T45, T46, T47, T48, T50, T52, T54, T56, T59, T61, T64, T66, T72, T73, T78, T99, T101, T103, T104, T107, T110, T113, T116, T154, T169, T171, T194, CT, hA, hlt']
    exact hnext
def mkC (i : Nat) : Chg := ⟨(i : Int) + 1, 2, i, ⟨#[115]⟩, ⟨#[116]⟩, ⟨#[]⟩⟩
def zC : D := .agg [.int .i64 0, .int .i64 0, .int .i64 0, .str ⟨#[]⟩, .str ⟨#[]⟩, .str ⟨#[]⟩]
def els3 (n k : Nat) : List D := (List.range k).map (fun i => (mkC i).enc) ++ List.replicate (n - k) zC
theorem els3_len (n k : Nat) (h : k ≤ n) : (els3 n k).length = n := by simp [els3]; omega
theorem els3_get (n k : Nat) (h : k < n) : (els3 n k)[k]? = some zC := by
  unfold els3
  rw [List.getElem?_append_right (by simp), List.getElem?_replicate, if_pos]
  simp only [List.length_map, List.length_range]; omega
theorem els3_set (n k : Nat) (h : k < n) : (els3 n k).set k (mkC k).enc = els3 n (k + 1) := by
  unfold els3
  rw [List.set_append_right (h := by simp)]
  have : n - k = (n - (k + 1)) + 1 := by omega
  rw [this, List.replicate_succ]
  simp [List.range_succ]
set_option maxRecDepth 100000 in
theorem loop3_2 (A : D) (n : Nat) (hn : n < 1000) (ks : List Fr) (K : Ex → St → Prop) (hnext : wpn CC .norm ⟨[(0, .d A), (6, .d (.int .i64 n)), (7, .vs 0 0 6 0 n)], [.vec 0 true false 26 6 (els3 n n)]⟩ ks K) :
    wlp CC (s3_2 0) ⟨[(0, .d A), (6, .d (.int .i64 n)), (7, .vs 0 0 6 0 n), (8, .d (.int .i64 0))], [.vec 0 true false 26 6 (els3 n 0)]⟩ (.block 2 :: .post (.tidy [0, 6, 7] 0 1) :: ks) K := by
  refine wlp_inv (S := fun k : Nat => ⟨[(0, .d A), (6, .d (.int .i64 n)), (7, .vs 0 0 6 0 n), (8, .d (.int .i64 k))], [.vec 0 true false 26 6 (els3 n k)]⟩) (m := fun k => n - k) (Inv := fun k => k ≤ n) ?_ 0 (by simp)
  rintro k hk ih
  rw [e3_2]
  by_cases hlt : k < n
  · have hw : IntKind.i64.wrap ((k : Int) + 1) = (k : Int) + 1 := wrap64 (by omega) (by omega)
    have hx := els3_get n k hlt
    have hs := els3_set n k hlt
    have hlen := els3_len n k hk
    have ih := ih (k + 1) (by omega) (by omega)
    simp only [mkC, Chg.enc, zC] at hx hs
    obtain ⟨_, hx'⟩ := List.getElem?_eq_some_iff.1 hx
    simp at ih
    simp [c3_2, TK.agg, constAV, evalAV, eqCells, EK.has, EK.hasAll, vecEls, elsR, AV.toD, toDs, AV.cells, AV.one, joinD, TyI.zeroD, OpR.of, binIntF, binStrF, AV.isPtr, ptrNil, slNil, mpNil, nilE, eqF, negF, posF, binF, pelF, pvLoad, pelSet, pvStore, boxLoad, epLoad, loadF, boxStore, storeF, fieldAddrF, fieldF, epOf, indexAddrF, byteF, indexF, mapLen, lenF, cutF, sliceF, isSl, slice3F, fillF, arrFs, buildF, partsX, landV, buildSliceF, roomB, appVec, appendF, mmFrom, mmF, max2', min2', clearVec, clearF, convF, unF, pickF, nilChkF, extF, ptrsOf, callF, makeSliceF, sameKs, sameD, kindIs, plainFs, keyOk, mapOb, mapEs, okV, lookF, lookupF, putE, putS, mapPut, mapUpdateF, mapDel, deleteF, mapAll, rangeM, rangeF, overV, hitV, nextO, nextF, entryM, entryO, entryF, itOids, builtinF, capsOf, allocF, boxF, convertF, makeFuncF, makeMapF, makeMapH, opF, reach, reachOf, AObj.live, closedB, nodupB, packO, packL, packX, backN, backG, backO, obL, backE, frzX, frzO, AV.vids, frzL, landC, sameObs, landR, touchF, D.cells, D.decEq, D.decEqs, AV.decEq, AV.decEqs, AObj.decEq, AV.oids0, AV.oids, AObj.oids, renG, renP, AV.ren0, AV.ren, envGet, envPut, envKeep, obGet, setEff, putV, St.put, stepS, keyChk, chkD, accD, Ex.block, AV.under, AObj.under, laysOf, roomFor, mkvO, frzG, szOk, killO, usedBy, tidyS, ghost, ghostE, normSt, resOf, allSome, one0, resultsF, finL, finishL, finish, endF, startEnv, chkC, backX, comeC, wpn_nil, wpn_seq, wpn_loop, wpn_seq_exit, wpn_loop_exit, wpn_seq_ret, wpn_loop_ret, wpn_block, wpn_post, wpk_skip, wpk_exit, wpk_ret, wpk_reg, wpk_seq, wpk_condT, wpk_block, wpk_loop, wpk_pre, wpk_post, wop_nil, wop_cons, wop_guard, St.know, envSet, cond_d, cond_bool, cond_int, cond_str, endE, endQ, freeB, disj, pushT, bitsW, int_beq, int_bne, eqS_def, tbE, fuelL_eq, ann0_lays, ann0_dd, ann0_ro, elsOf_dsl, elsOf_dnils, toNat_succ, nn_succ, pos_succ, one_succ, rng1, rng2, rng3, rng4, rng5, rng6, rng7, rng8, List.idxOf_cons, T3, T4, T5, T9, T22, T26, T27, T30, T32, T34, T37, T39, T45, T46, T47, T48, T50, T52, T54, T56, T59, T61, T64, T66, T72, T73, T78, T99, T101, T103, T104, T107, T110, T113, T116, T154, T169, T171, T194, CT, hx', hw, hlt, hlen, hs]
    exact ih
  · have : k = n := by omega
    subst this
    simp [c3_2, TK.agg, constAV, evalAV, eqCells, EK.has, EK.hasAll, vecEls, elsR, AV.toD, toDs, AV.cells, AV.one, joinD, TyI.zeroD, OpR.of, binIntF, binStrF, AV.isPtr, ptrNil, slNil, mpNil, nilE, eqF, negF, posF, binF, pelF, pvLoad, pelSet, pvStore, boxLoad, epLoad, loadF, boxStore, storeF, fieldAddrF, fieldF, epOf, indexAddrF, byteF, indexF, mapLen, lenF, cutF, sliceF, isSl, slice3F, fillF, arrFs, buildF, partsX, landV, buildSliceF, roomB, appVec, appendF, mmFrom, mmF, max2', min2', clearVec, clearF, convF, unF, pickF, nilChkF, extF, ptrsOf, callF, makeSliceF, sameKs, sameD, kindIs, plainFs, keyOk, mapOb, mapEs, okV, lookF, lookupF, putE, putS, mapPut, mapUpdateF, mapDel, deleteF, mapAll, rangeM, rangeF, overV, hitV, nextO, nextF, entryM, entryO, entryF, itOids, builtinF, capsOf, allocF, boxF, convertF, makeFuncF, makeMapF, makeMapH, opF, reach, reachOf, AObj.live, closedB, nodupB, packO, packL, packX, backN, backG, backO, obL, backE, frzX, frzO, AV.vids, frzL, landC, sameObs, landR, touchF, D.cells, D.decEq, D.decEqs, AV.decEq, AV.decEqs, AObj.decEq, AV.oids0, AV.oids, AObj.oids, renG, renP, AV.ren0, AV.ren, envGet, envPut, envKeep, obGet, setEff, putV, St.put, stepS, keyChk, chkD, accD, Ex.block, AV.under, AObj.under, laysOf, roomFor, mkvO, frzG, szOk, killO, usedBy, tidyS, ghost, ghostE, normSt, resOf, allSome, one0, resultsF, finL, finishL, finish, endF, startEnv, chkC, backX, comeC, wpn_nil, wpn_seq, wpn_loop, wpn_seq_exit, wpn_loop_exit, wpn_seq_ret, wpn_loop_ret, wpn_block, wpn_post, wpk_skip, wpk_exit, wpk_ret, wpk_reg, wpk_seq, wpk_condT, wpk_block, wpk_loop, wpk_pre, wpk_post, wop_nil, wop_cons, wop_guard, St.know, envSet, cond_d, cond_bool, cond_int, cond_str, endE, endQ, freeB, disj, pushT, bitsW, int_beq, int_bne, eqS_def, tbE, fuelL_eq, ann0_lays, ann0_dd, ann0_ro, elsOf_dsl, elsOf_dnils, toNat_succ, nn_succ, pos_succ, one_succ, rng1, rng2, rng3, rng4, rng5, rng6, rng7, rng8, List.idxOf_cons, T3, T4, T5, T9, T22, T26, T27, T30, T32, T34, T37, T39, T45, T46, T47, T48, T50, T52, T54, T56, T59, T61, T64, T66, T72, T73, T78, T99, T101, T103, T104, T107, T110, T113, T116, T154, T169, T171, T194, CT]
    exact hnext
theorem els3_full (n : Nat) : els3 n n = ((List.range n).map mkC).map Chg.enc := by simp [els3]
theorem bless_tri : ∀ (a b : List UInt8), (Op.bytesLess a b = true ∧ Op.bytesLess b a = false ∧ a ≠ b) ∨ (Op.bytesLess a b = false ∧ Op.bytesLess b a = true ∧ a ≠ b) ∨ (Op.bytesLess a b = false ∧ Op.bytesLess b a = false ∧ a = b)
  | [], [] => by simp [Op.bytesLess]
  | [], y :: b => by simp [Op.bytesLess]
  | x :: a, [] => by simp [Op.bytesLess]
  | x :: a, y :: b => by
    have ih := bless_tri a b
    simp only [Op.bytesLess]
    rcases Nat.lt_trichotomy x.toNat y.toNat with h | h | h
    · have h1 : x < y := h
      have h2 : ¬ y < x := fun h' => by have : y.toNat < x.toNat := h'; omega
      have h3 : x ≠ y := fun e => by subst e; omega
      have h4 : ¬ y = x := fun e => h3 e.symm
      simp [h1, h2, h3, h4]
    · have e : x = y := UInt8.toNat.inj h
      subst e
      have h2 : ¬ x < x := fun h' => by have : x.toNat < x.toNat := h'; omega
      simpa [h2] using ih
    · have h1 : y < x := h
      have h2 : ¬ x < y := fun h' => by have : x.toNat < y.toNat := h'; omega
      have h3 : x ≠ y := fun e => by subst e; omega
      simp [h1, h2, h3]
theorem cmpS_neg (a b : ByteArray) : cmpS b a = - cmpS a b := by
  have h := bless_tri a.toList b.toList
  unfold cmpS lessS eqS
  rcases h with ⟨h1, h2, h3⟩ | ⟨h1, h2, h3⟩ | ⟨h1, h2, h3⟩
  · have h4 : ¬ b.toList = a.toList := fun e => h3 e.symm
    simp [h1, h2, h4]
  · simp [h1, h2, h3]
  · simp only [h1, h2]; simp [h3]
theorem cmpI_neg (a b : Int) : cmpI b a = - cmpI a b := by
  unfold cmpI; split <;> split <;> first | omega | simp_all <;> omega
theorem firstNZ_neg : ∀ l : List Int, firstNZ (l.map fun x => -x) = - firstNZ l
  | [] => rfl
  | x :: l => by
    simp only [List.map_cons, firstNZ, firstNZ_neg l]
    by_cases h : x = 0
    · simp [h]
    · rw [if_neg (by omega), if_neg h]
theorem cmp_neg (a b : Chg) : b.cmp a = - a.cmp b := by
  unfold Chg.cmp
  rw [← firstNZ_neg]
  simp only [Chg.cmps, List.map_cons, List.map_nil, cmpI_neg a.slot, cmpI_neg a.id, cmpI_neg a.kind, cmpS_neg a.svc, cmpS_neg a.tgt, cmpS_neg a.ver]
theorem chk_eq : ∀ (suf pre : List Chg), chkL pre suf = chkM pre suf
  | [], pre => rfl
  | c :: suf, pre => by
    have h : (pre.getLast?.any fun p => decide (c.cmp p < 0)) = (pre.getLast?.any fun p => decide (0 < p.cmp c)) := by
      cases pre.getLast? with
      | none => rfl
      | some p =>
        simp only [Option.any_some, cmp_neg p c]
        rw [decide_eq_decide]; omega
    simp only [chkL, chkM, h, chk_eq suf]
end Go.Proofs.YteidaaobppjlbaaV
