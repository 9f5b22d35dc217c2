/- Changes: the described lists of changes. -/
import Derived.Test.YteidaaobppjlbaaWc47c
set_option linter.unusedVariables false
set_option linter.unusedSimpArgs false
namespace Go.Proofs.YteidaaobppjlbaaV
open Go.RowKit
structure Stp where
  kind : Int
  slot : Int
  svc : Int
  tgt : Int
  ver : Int
def Stp.enc (x : Stp) : D := .agg [.int .u8 x.kind, .int .u8 x.slot, .int .u8 x.svc, .int .u8 x.tgt, .int .u8 x.ver]
def Stp.ok (x : Stp) : Prop := (0 ≤ x.kind ∧ x.kind < 256) ∧ (0 ≤ x.slot ∧ x.slot < 256) ∧ (0 ≤ x.svc ∧ x.svc < 256) ∧ (0 ≤ x.tgt ∧ x.tgt < 256) ∧ (0 ≤ x.ver ∧ x.ver < 256)
def nm (s : Int) : ByteArray := if s.tmod 4 = 0 then ⟨#[97, 112, 105]⟩ else if s.tmod 4 = 1 then ⟨#[100, 98]⟩ else if s.tmod 4 = 2 then ⟨#[119, 101, 98]⟩ else ⟨#[99, 97, 99, 104, 101]⟩
def vr (s : Int) : ByteArray := if s.tmod 3 = 0 then ⟨#[118, 49]⟩ else if s.tmod 3 = 1 then ⟨#[118, 50]⟩ else ⟨#[118, 51]⟩
theorem tmod_lt {s : Int} (h : 0 ≤ s) {n : Int} (hn : 0 < n) : 0 ≤ s.tmod n ∧ s.tmod n < n := ⟨Int.tmod_nonneg n h, Int.tmod_lt_of_pos s hn⟩
theorem nm_get {s : Int} (h : 0 ≤ s) : ([.str ⟨#[97, 112, 105]⟩, .str ⟨#[100, 98]⟩, .str ⟨#[119, 101, 98]⟩, .str ⟨#[99, 97, 99, 104, 101]⟩] : List D)[(s.tmod 4).toNat]? = some (.str (nm s)) := by
  have h2 := tmod_lt h (n := 4) (by omega)
  unfold nm
  generalize s.tmod 4 = q at h2
  have : q = 0 ∨ q = 1 ∨ q = 2 ∨ q = 3 := by omega
  rcases this with rfl | rfl | rfl | rfl <;> simp
theorem vr_get {s : Int} (h : 0 ≤ s) : ([.str ⟨#[118, 49]⟩, .str ⟨#[118, 50]⟩, .str ⟨#[118, 51]⟩] : List D)[(s.tmod 3).toNat]? = some (.str (vr s)) := by
  have h2 := tmod_lt h (n := 3) (by omega)
  unfold vr
  generalize s.tmod 3 = q at h2
  have : q = 0 ∨ q = 1 ∨ q = 2 := by omega
  rcases this with rfl | rfl | rfl <;> simp
/-- The change that a step describes. -/
def Stp.chg (x : Stp) (i : Int) : Chg := ⟨i, 1 + x.kind.tmod 3, x.slot.tmod 64, nm x.svc, if 1 + x.kind.tmod 3 = 1 then ⟨#[]⟩ else nm x.tgt, if 1 + x.kind.tmod 3 = 1 then vr x.ver else ⟨#[]⟩⟩
set_option maxRecDepth 100000 in
theorem change_run (x : Stp) (i : Int) (hx : x.ok) : run CC 47 [.d x.enc, .d (.int .i64 i)] [] = some (.d (x.chg i).enc, []) := by
  refine run_code (s := s47 0) rfl rfl rfl (by kernel_rfl) ?_
  obtain ⟨⟨k0, _⟩, ⟨a0, _⟩, ⟨s0, _⟩, ⟨t0, _⟩, ⟨v0, _⟩⟩ := hx
  have k1 := tmod_lt k0 (n := 3) (by omega)
  have a1 := tmod_lt a0 (n := 64) (by omega)
  have s1 := (tmod_lt s0 (n := 4) (by omega)).1
  have t1 := (tmod_lt t0 (n := 4) (by omega)).1
  have v1 := (tmod_lt v0 (n := 3) (by omega)).1
  have w1 : IntKind.i64.wrap (x.kind.tmod 3) = x.kind.tmod 3 := wrap64 (by omega) (by omega)
  have w2 : IntKind.i64.wrap (1 + x.kind.tmod 3) = 1 + x.kind.tmod 3 := wrap64 (by omega) (by omega)
  have w3 : IntKind.i64.wrap (x.slot.tmod 64) = x.slot.tmod 64 := wrap64 (by omega) (by omega)
  have w4 : IntKind.i64.wrap 1 = 1 := wrap64 (by omega) (by omega)
  by_cases hk : 1 + x.kind.tmod 3 = 1
  · simp [s47, Stp.enc, TK.agg, constAV, evalAV, eqCells, EK.has, EK.hasAll, vecEls, elsR, AV.toD, toDs, AV.cells, AV.one, joinD, TyI.zeroD, OpR.of, binIntF, binStrF, AV.isPtr, ptrNil, slNil, mpNil, nilE, eqF, negF, posF, binF, pelF, pvLoad, pelSet, pvStore, boxLoad, epLoad, loadF, boxStore, storeF, fieldAddrF, fieldF, epOf, indexAddrF, byteF, indexF, mapLen, lenF, cutF, sliceF, sliceN, sliceX, isSl, slice3F, fillF, arrFs, buildF, partsX, landV, buildSliceF, roomB, appVec, appendF, appMkF, capF, mmFrom, mmF, max2', min2', clearVec, clearF, convF, unF, pickF, nilChkF, extF, ptrsOf, callF, makeSliceF, sameKs, sameD, kindIs, plainFs, keyOk, mapOb, mapEs, okV, lookF, lookupF, putE, putS, mapPut, mapUpdateF, mapDel, deleteF, mapAll, rangeM, rangeF, overV, hitV, nextO, nextF, entryM, entryO, entryF, itOids, builtinF, capsOf, allocF, boxF, bytesL, bytesF, byteTy, strTy, convertF, makeFuncF, makeMapF, makeMapH, opF, reach, reachOf, AObj.live, closedB, nodupB, packO, packL, packX, backN, backG, backO, obL, backE, frzX, frzO, AV.vids, frzL, landC, sameObs, landR, touchF, bitsW, D.cells, D.decEq, D.decEqs, AV.decEq, AV.decEqs, AObj.decEq, AV.oids0, AV.oids, AObj.oids, renG, renP, AV.ren0, AV.ren, envGet, envPut, envKeep, obGet, setEff, putV, St.put, stepS, keyChk, chkD, accD, Ex.block, AV.under, AObj.under, laysOf, roomFor, mkvO, frzG, szOk, killO, usedBy, tidyS, ghost, ghostE, normSt, resOf, allSome, one0, resultsF, finL, finishL, finish, endF, startEnv, chkC, backX, comeC, AV.flat0, rngC, loopO, layL, endLp, busyL, idleL, noRng, rndSt, rndEnd, wpn_nil, wpn_seq, wpn_loop, wpn_seq_exit, wpn_loop_exit, wpn_seq_ret, wpn_loop_ret, wpn_block, wpn_post, wpk_skip, wpk_exit, wpk_ret, wpk_reg, wpk_seq, wpk_condT, wpk_block, wpk_loop, wpk_pre, wpk_post, wop_nil, wop_cons, wop_guard, St.know, envSet, cond_d, cond_bool, cond_int, cond_str, endE, endQ, freeB, disj, pushT, bitsW, int_beq, int_bne, eqS_def, tbE, fuelL_eq, ann0_lays, ann0_dd, ann0_ro, elsOf_dsl, elsOf_dnils, toNat_succ, nn_succ, pos_succ, one_succ, rng1, rng2, rng3, rng4, rng5, rng6, rng7, rng8, List.idxOf_cons, wpk_rng, rndK, rndE, T2, T3, T4, T5, T6, T8, T9, T22, T26, T27, T30, T32, T37, T39, T54, T66, T73, T99, T110, T116, T135, T141, T148, T150, T157, CT, w1, w2, w3, w4, s1, t1, v1, nm_get s0, nm_get t0, vr_get v0, Stp.chg, Chg.enc, hk]
  · simp [s47, Stp.enc, TK.agg, constAV, evalAV, eqCells, EK.has, EK.hasAll, vecEls, elsR, AV.toD, toDs, AV.cells, AV.one, joinD, TyI.zeroD, OpR.of, binIntF, binStrF, AV.isPtr, ptrNil, slNil, mpNil, nilE, eqF, negF, posF, binF, pelF, pvLoad, pelSet, pvStore, boxLoad, epLoad, loadF, boxStore, storeF, fieldAddrF, fieldF, epOf, indexAddrF, byteF, indexF, mapLen, lenF, cutF, sliceF, sliceN, sliceX, isSl, slice3F, fillF, arrFs, buildF, partsX, landV, buildSliceF, roomB, appVec, appendF, appMkF, capF, mmFrom, mmF, max2', min2', clearVec, clearF, convF, unF, pickF, nilChkF, extF, ptrsOf, callF, makeSliceF, sameKs, sameD, kindIs, plainFs, keyOk, mapOb, mapEs, okV, lookF, lookupF, putE, putS, mapPut, mapUpdateF, mapDel, deleteF, mapAll, rangeM, rangeF, overV, hitV, nextO, nextF, entryM, entryO, entryF, itOids, builtinF, capsOf, allocF, boxF, bytesL, bytesF, byteTy, strTy, convertF, makeFuncF, makeMapF, makeMapH, opF, reach, reachOf, AObj.live, closedB, nodupB, packO, packL, packX, backN, backG, backO, obL, backE, frzX, frzO, AV.vids, frzL, landC, sameObs, landR, touchF, bitsW, D.cells, D.decEq, D.decEqs, AV.decEq, AV.decEqs, AObj.decEq, AV.oids0, AV.oids, AObj.oids, renG, renP, AV.ren0, AV.ren, envGet, envPut, envKeep, obGet, setEff, putV, St.put, stepS, keyChk, chkD, accD, Ex.block, AV.under, AObj.under, laysOf, roomFor, mkvO, frzG, szOk, killO, usedBy, tidyS, ghost, ghostE, normSt, resOf, allSome, one0, resultsF, finL, finishL, finish, endF, startEnv, chkC, backX, comeC, AV.flat0, rngC, loopO, layL, endLp, busyL, idleL, noRng, rndSt, rndEnd, wpn_nil, wpn_seq, wpn_loop, wpn_seq_exit, wpn_loop_exit, wpn_seq_ret, wpn_loop_ret, wpn_block, wpn_post, wpk_skip, wpk_exit, wpk_ret, wpk_reg, wpk_seq, wpk_condT, wpk_block, wpk_loop, wpk_pre, wpk_post, wop_nil, wop_cons, wop_guard, St.know, envSet, cond_d, cond_bool, cond_int, cond_str, endE, endQ, freeB, disj, pushT, bitsW, int_beq, int_bne, eqS_def, tbE, fuelL_eq, ann0_lays, ann0_dd, ann0_ro, elsOf_dsl, elsOf_dnils, toNat_succ, nn_succ, pos_succ, one_succ, rng1, rng2, rng3, rng4, rng5, rng6, rng7, rng8, List.idxOf_cons, wpk_rng, rndK, rndE, T2, T3, T4, T5, T6, T8, T9, T22, T26, T27, T30, T32, T37, T39, T54, T66, T73, T99, T110, T116, T135, T141, T148, T150, T157, CT, w1, w2, w3, w4, s1, t1, v1, nm_get s0, nm_get t0, vr_get v0, Stp.chg, Chg.enc, hk]
def Chg.same (p c : Chg) : Bool := decide (p.id = c.id) && (decide (p.kind = c.kind) && (decide (p.slot = c.slot) && (eqS p.svc c.svc && (eqS p.tgt c.tgt && eqS p.ver c.ver))))
/-- Where a change belongs in a list in order. -/
def posC (c : Chg) : List Chg → Nat
  | [] => 0
  | p :: r => if p.cmp c < 0 then posC c r + 1 else 0
theorem posC_le (c : Chg) : ∀ o : List Chg, posC c o ≤ o.length
  | [] => Nat.le_refl _
  | p :: r => by
    have := posC_le c r
    simp only [posC]; split <;> simp <;> omega
theorem posC_lt (c : Chg) : ∀ (o : List Chg) (k : Nat) (h : k < o.length), k < posC c o → (o[k]).cmp c < 0
  | p :: r, 0, _, h => by
    simp only [posC] at h
    split at h
    · assumption
    · omega
  | p :: r, k + 1, hk, h => by
    simp only [posC] at h
    split at h
    · simpa using posC_lt c r k (by simpa using hk) (by omega)
    · omega
theorem posC_at (c : Chg) : ∀ (o : List Chg) (h : posC c o < o.length), ¬ (o[posC c o]).cmp c < 0
  | p :: r, h => by
    simp only [posC] at h ⊢
    split
    · rename_i h1
      simp only [h1, if_true] at h
      simpa using posC_at c r (by simpa using h)
    · rename_i h1; simpa using h1
def insC (c : Chg) (o : List Chg) : List Chg := match o[posC c o]? with
  | some p => if p.same c = true then o else o.take (posC c o) ++ c :: o.drop (posC c o)
  | none => o ++ [c]
def sortC (l : List Chg) : List Chg := l.foldl (fun out c => insC c out) []
set_option maxRecDepth 100000 in
theorem loop39_2 (A B : D) (l o : List Chg) (i : Nat) (c : Chg) (hi : l[i]? = some c) (ho : o.length < 1000) (hA : elsOf (.d A) = some (l.map Chg.enc)) (hB : elsOf (.d B) = some (o.map Chg.enc)) (ks : List Fr) (K : Ex → St → Prop)
    (hnext : wpn CC .norm ⟨[(0, .d A), (3, .d B), (4, .d (.int .i64 i)), (5, .d (.int .i64 (posC c o)))], []⟩ ks K) :
    wlp CC (s39_2 0) ⟨[(0, .d A), (3, .d B), (4, .d (.int .i64 i)), (5, .d (.int .i64 0))], []⟩ (.block 2 :: .post (.tidy [0, 3, 4, 5] 0 0) :: ks) K := by
  refine wlp_inv (S := fun k : Nat => ⟨[(0, .d A), (3, .d B), (4, .d (.int .i64 i)), (5, .d (.int .i64 k))], []⟩) (m := fun k => o.length - k) (Inv := fun k => k ≤ posC c o) ?_ 0 (by simp)
  rintro k hk ih
  rw [e39_2]
  have hle := posC_le c o
  have hx : (l.map Chg.enc)[i]? = some c.enc := by rw [List.getElem?_map, hi]; rfl
  by_cases hlt : k < o.length
  · have hw : IntKind.i64.wrap ((k : Int) + 1) = (k : Int) + 1 := wrap64 (by omega) (by omega)
    have hy : (o.map Chg.enc)[k]? = some (o[k]).enc := by simp [hlt]
    have hcmp := compare16_run o[k] c
    simp only [Chg.enc] at hx hy hcmp
    by_cases hq : k < posC c o
    · have h1 := posC_lt c o k hlt hq
      have ih := ih (k + 1) (by omega) (by omega)
      simp at ih
      simp [c39_2, TK.agg, constAV, evalAV, eqCells, EK.has, EK.hasAll, vecEls, elsR, AV.toD, toDs, AV.cells, AV.one, joinD, TyI.zeroD, OpR.of, binIntF, binStrF, AV.isPtr, ptrNil, slNil, mpNil, nilE, eqF, negF, posF, binF, pelF, pvLoad, pelSet, pvStore, boxLoad, epLoad, loadF, boxStore, storeF, fieldAddrF, fieldF, epOf, indexAddrF, byteF, indexF, mapLen, lenF, cutF, sliceF, sliceN, sliceX, isSl, slice3F, fillF, arrFs, buildF, partsX, landV, buildSliceF, roomB, appVec, appendF, appMkF, capF, mmFrom, mmF, max2', min2', clearVec, clearF, convF, unF, pickF, nilChkF, extF, ptrsOf, callF, makeSliceF, sameKs, sameD, kindIs, plainFs, keyOk, mapOb, mapEs, okV, lookF, lookupF, putE, putS, mapPut, mapUpdateF, mapDel, deleteF, mapAll, rangeM, rangeF, overV, hitV, nextO, nextF, entryM, entryO, entryF, itOids, builtinF, capsOf, allocF, boxF, bytesL, bytesF, byteTy, strTy, convertF, makeFuncF, makeMapF, makeMapH, opF, reach, reachOf, AObj.live, closedB, nodupB, packO, packL, packX, backN, backG, backO, obL, backE, frzX, frzO, AV.vids, frzL, landC, sameObs, landR, touchF, bitsW, D.cells, D.decEq, D.decEqs, AV.decEq, AV.decEqs, AObj.decEq, AV.oids0, AV.oids, AObj.oids, renG, renP, AV.ren0, AV.ren, envGet, envPut, envKeep, obGet, setEff, putV, St.put, stepS, keyChk, chkD, accD, Ex.block, AV.under, AObj.under, laysOf, roomFor, mkvO, frzG, szOk, killO, usedBy, tidyS, ghost, ghostE, normSt, resOf, allSome, one0, resultsF, finL, finishL, finish, endF, startEnv, chkC, backX, comeC, AV.flat0, rngC, loopO, layL, endLp, busyL, idleL, noRng, rndSt, rndEnd, wpn_nil, wpn_seq, wpn_loop, wpn_seq_exit, wpn_loop_exit, wpn_seq_ret, wpn_loop_ret, wpn_block, wpn_post, wpk_skip, wpk_exit, wpk_ret, wpk_reg, wpk_seq, wpk_condT, wpk_block, wpk_loop, wpk_pre, wpk_post, wop_nil, wop_cons, wop_guard, St.know, envSet, cond_d, cond_bool, cond_int, cond_str, endE, endQ, freeB, disj, pushT, bitsW, int_beq, int_bne, eqS_def, tbE, fuelL_eq, ann0_lays, ann0_dd, ann0_ro, elsOf_dsl, elsOf_dnils, toNat_succ, nn_succ, pos_succ, one_succ, rng1, rng2, rng3, rng4, rng5, rng6, rng7, rng8, List.idxOf_cons, wpk_rng, rndK, rndE, T2, T3, T4, T5, T6, T8, T9, T22, T26, T27, T30, T32, T37, T39, T54, T66, T73, T99, T110, T116, T135, T141, T148, T150, T157, CT, Chg.enc, hA, hB, hx, hy, hw, hlt, hcmp, h1]
      exact ih
    · have e : k = posC c o := by omega
      subst e
      have h1 := posC_at c o hlt
      simp [c39_2, TK.agg, constAV, evalAV, eqCells, EK.has, EK.hasAll, vecEls, elsR, AV.toD, toDs, AV.cells, AV.one, joinD, TyI.zeroD, OpR.of, binIntF, binStrF, AV.isPtr, ptrNil, slNil, mpNil, nilE, eqF, negF, posF, binF, pelF, pvLoad, pelSet, pvStore, boxLoad, epLoad, loadF, boxStore, storeF, fieldAddrF, fieldF, epOf, indexAddrF, byteF, indexF, mapLen, lenF, cutF, sliceF, sliceN, sliceX, isSl, slice3F, fillF, arrFs, buildF, partsX, landV, buildSliceF, roomB, appVec, appendF, appMkF, capF, mmFrom, mmF, max2', min2', clearVec, clearF, convF, unF, pickF, nilChkF, extF, ptrsOf, callF, makeSliceF, sameKs, sameD, kindIs, plainFs, keyOk, mapOb, mapEs, okV, lookF, lookupF, putE, putS, mapPut, mapUpdateF, mapDel, deleteF, mapAll, rangeM, rangeF, overV, hitV, nextO, nextF, entryM, entryO, entryF, itOids, builtinF, capsOf, allocF, boxF, bytesL, bytesF, byteTy, strTy, convertF, makeFuncF, makeMapF, makeMapH, opF, reach, reachOf, AObj.live, closedB, nodupB, packO, packL, packX, backN, backG, backO, obL, backE, frzX, frzO, AV.vids, frzL, landC, sameObs, landR, touchF, bitsW, D.cells, D.decEq, D.decEqs, AV.decEq, AV.decEqs, AObj.decEq, AV.oids0, AV.oids, AObj.oids, renG, renP, AV.ren0, AV.ren, envGet, envPut, envKeep, obGet, setEff, putV, St.put, stepS, keyChk, chkD, accD, Ex.block, AV.under, AObj.under, laysOf, roomFor, mkvO, frzG, szOk, killO, usedBy, tidyS, ghost, ghostE, normSt, resOf, allSome, one0, resultsF, finL, finishL, finish, endF, startEnv, chkC, backX, comeC, AV.flat0, rngC, loopO, layL, endLp, busyL, idleL, noRng, rndSt, rndEnd, wpn_nil, wpn_seq, wpn_loop, wpn_seq_exit, wpn_loop_exit, wpn_seq_ret, wpn_loop_ret, wpn_block, wpn_post, wpk_skip, wpk_exit, wpk_ret, wpk_reg, wpk_seq, wpk_condT, wpk_block, wpk_loop, wpk_pre, wpk_post, wop_nil, wop_cons, wop_guard, St.know, envSet, cond_d, cond_bool, cond_int, cond_str, endE, endQ, freeB, disj, pushT, bitsW, int_beq, int_bne, eqS_def, tbE, fuelL_eq, ann0_lays, ann0_dd, ann0_ro, elsOf_dsl, elsOf_dnils, toNat_succ, nn_succ, pos_succ, one_succ, rng1, rng2, rng3, rng4, rng5, rng6, rng7, rng8, List.idxOf_cons, wpk_rng, rndK, rndE, T2, T3, T4, T5, T6, T8, T9, T22, T26, T27, T30, T32, T37, T39, T54, T66, T73, T99, T110, T116, T135, T141, T148, T150, T157, CT, Chg.enc, hA, hB, hx, hy, hw, hlt, hcmp, h1]
      exact hnext
  · have e : k = posC c o := by omega
    subst e
    simp [c39_2, TK.agg, constAV, evalAV, eqCells, EK.has, EK.hasAll, vecEls, elsR, AV.toD, toDs, AV.cells, AV.one, joinD, TyI.zeroD, OpR.of, binIntF, binStrF, AV.isPtr, ptrNil, slNil, mpNil, nilE, eqF, negF, posF, binF, pelF, pvLoad, pelSet, pvStore, boxLoad, epLoad, loadF, boxStore, storeF, fieldAddrF, fieldF, epOf, indexAddrF, byteF, indexF, mapLen, lenF, cutF, sliceF, sliceN, sliceX, isSl, slice3F, fillF, arrFs, buildF, partsX, landV, buildSliceF, roomB, appVec, appendF, appMkF, capF, mmFrom, mmF, max2', min2', clearVec, clearF, convF, unF, pickF, nilChkF, extF, ptrsOf, callF, makeSliceF, sameKs, sameD, kindIs, plainFs, keyOk, mapOb, mapEs, okV, lookF, lookupF, putE, putS, mapPut, mapUpdateF, mapDel, deleteF, mapAll, rangeM, rangeF, overV, hitV, nextO, nextF, entryM, entryO, entryF, itOids, builtinF, capsOf, allocF, boxF, bytesL, bytesF, byteTy, strTy, convertF, makeFuncF, makeMapF, makeMapH, opF, reach, reachOf, AObj.live, closedB, nodupB, packO, packL, packX, backN, backG, backO, obL, backE, frzX, frzO, AV.vids, frzL, landC, sameObs, landR, touchF, bitsW, D.cells, D.decEq, D.decEqs, AV.decEq, AV.decEqs, AObj.decEq, AV.oids0, AV.oids, AObj.oids, renG, renP, AV.ren0, AV.ren, envGet, envPut, envKeep, obGet, setEff, putV, St.put, stepS, keyChk, chkD, accD, Ex.block, AV.under, AObj.under, laysOf, roomFor, mkvO, frzG, szOk, killO, usedBy, tidyS, ghost, ghostE, normSt, resOf, allSome, one0, resultsF, finL, finishL, finish, endF, startEnv, chkC, backX, comeC, AV.flat0, rngC, loopO, layL, endLp, busyL, idleL, noRng, rndSt, rndEnd, wpn_nil, wpn_seq, wpn_loop, wpn_seq_exit, wpn_loop_exit, wpn_seq_ret, wpn_loop_ret, wpn_block, wpn_post, wpk_skip, wpk_exit, wpk_ret, wpk_reg, wpk_seq, wpk_condT, wpk_block, wpk_loop, wpk_pre, wpk_post, wop_nil, wop_cons, wop_guard, St.know, envSet, cond_d, cond_bool, cond_int, cond_str, endE, endQ, freeB, disj, pushT, bitsW, int_beq, int_bne, eqS_def, tbE, fuelL_eq, ann0_lays, ann0_dd, ann0_ro, elsOf_dsl, elsOf_dnils, toNat_succ, nn_succ, pos_succ, one_succ, rng1, rng2, rng3, rng4, rng5, rng6, rng7, rng8, List.idxOf_cons, wpk_rng, rndK, rndE, T2, T3, T4, T5, T6, T8, T9, T22, T26, T27, T30, T32, T37, T39, T54, T66, T73, T99, T110, T116, T135, T141, T148, T150, T157, CT, hA, hB, hlt]
    exact hnext
theorem insC_len (c : Chg) (o : List Chg) : (insC c o).length ≤ o.length + 1 := by
  unfold insC
  have := posC_le c o
  split
  · split <;> simp <;> omega
  · simp
theorem sortC_len (l : List Chg) : (sortC l).length ≤ l.length := by
  have : ∀ (l o : List Chg), (l.foldl (fun out c => insC c out) o).length ≤ o.length + l.length := by
    intro l
    induction l with
    | nil => intro o; simp
    | cons c l ih =>
      intro o
      have h1 := ih (insC c o)
      have h2 := insC_len c o
      simp only [List.foldl_cons, List.length_cons]; omega
  have := this l []
  simpa [sortC] using this
set_option maxRecDepth 100000 in
theorem sorted_run' (A : D) (l : List Chg) (hl : l.length < 1000) (hA : elsOf (.d A) = some (l.map Chg.enc)) : ∃ B : D, (elsOf (.d B) = some ((sortC l).map Chg.enc) ∧ B ≠ .sl []) ∧ run CC 39 [.d A] [] = some (.d B, []) := by
  suffices h : ∃ y obs', run CC 39 [.d A] [] = some (y, obs') ∧ ∃ B : D, (elsOf (.d B) = some ((sortC l).map Chg.enc) ∧ B ≠ .sl []) ∧ y = .d B ∧ obs' = [] by
    obtain ⟨y, obs', h1, B, h2, rfl, rfl⟩ := h
    exact ⟨B, h2, h1⟩
  refine run_codeQ (s := s39 0) rfl rfl rfl (by kernel_rfl) ?_
  simp [s39, TK.agg, constAV, evalAV, eqCells, EK.has, EK.hasAll, vecEls, elsR, AV.toD, toDs, AV.cells, AV.one, joinD, TyI.zeroD, OpR.of, binIntF, binStrF, AV.isPtr, ptrNil, slNil, mpNil, nilE, eqF, negF, posF, binF, pelF, pvLoad, pelSet, pvStore, boxLoad, epLoad, loadF, boxStore, storeF, fieldAddrF, fieldF, epOf, indexAddrF, byteF, indexF, mapLen, lenF, cutF, sliceF, sliceN, sliceX, isSl, slice3F, fillF, arrFs, buildF, partsX, landV, buildSliceF, roomB, appVec, appendF, appMkF, capF, mmFrom, mmF, max2', min2', clearVec, clearF, convF, unF, pickF, nilChkF, extF, ptrsOf, callF, makeSliceF, sameKs, sameD, kindIs, plainFs, keyOk, mapOb, mapEs, okV, lookF, lookupF, putE, putS, mapPut, mapUpdateF, mapDel, deleteF, mapAll, rangeM, rangeF, overV, hitV, nextO, nextF, entryM, entryO, entryF, itOids, builtinF, capsOf, allocF, boxF, bytesL, bytesF, byteTy, strTy, convertF, makeFuncF, makeMapF, makeMapH, opF, reach, reachOf, AObj.live, closedB, nodupB, packO, packL, packX, backN, backG, backO, obL, backE, frzX, frzO, AV.vids, frzL, landC, sameObs, landR, touchF, bitsW, D.cells, D.decEq, D.decEqs, AV.decEq, AV.decEqs, AObj.decEq, AV.oids0, AV.oids, AObj.oids, renG, renP, AV.ren0, AV.ren, envGet, envPut, envKeep, obGet, setEff, putV, St.put, stepS, keyChk, chkD, accD, Ex.block, AV.under, AObj.under, laysOf, roomFor, mkvO, frzG, szOk, killO, usedBy, tidyS, ghost, ghostE, normSt, resOf, allSome, one0, resultsF, finL, finishL, finish, endF, startEnv, chkC, backX, comeC, AV.flat0, rngC, loopO, layL, endLp, busyL, idleL, noRng, rndSt, rndEnd, wpn_nil, wpn_seq, wpn_loop, wpn_seq_exit, wpn_loop_exit, wpn_seq_ret, wpn_loop_ret, wpn_block, wpn_post, wpk_skip, wpk_exit, wpk_ret, wpk_reg, wpk_seq, wpk_condT, wpk_block, wpk_loop, wpk_pre, wpk_post, wop_nil, wop_cons, wop_guard, St.know, envSet, cond_d, cond_bool, cond_int, cond_str, endE, endQ, freeB, disj, pushT, bitsW, int_beq, int_bne, eqS_def, tbE, fuelL_eq, ann0_lays, ann0_dd, ann0_ro, elsOf_dsl, elsOf_dnils, toNat_succ, nn_succ, pos_succ, one_succ, rng1, rng2, rng3, rng4, rng5, rng6, rng7, rng8, List.idxOf_cons, wpk_rng, rndK, rndE, T2, T3, T4, T5, T6, T8, T9, T22, T26, T27, T30, T32, T37, T39, T54, T66, T73, T99, T110, T116, T135, T141, T148, T150, T157, CT, hA]
  refine wlp_inv (S := fun p : List Chg × List Chg × D => ⟨[(0, .d A), (3, .d p.2.2), (4, .d (.int .i64 p.1.length))], []⟩) (m := fun p => p.2.1.length) (Inv := fun p => p.1 ++ p.2.1 = l ∧ elsOf (.d p.2.2) = some ((sortC p.1).map Chg.enc) ∧ p.2.2 ≠ .sl []) ?_ ([], l, .nils) ⟨rfl, rfl, by simp⟩
  rintro ⟨pre, suf, B⟩ ⟨rfl, hB, hBn⟩ ih
  rw [e39_1]
  simp only at hB hBn ⊢
  cases suf with
  | nil =>
    simp at hA ⊢
    simp [c39_1, TK.agg, constAV, evalAV, eqCells, EK.has, EK.hasAll, vecEls, elsR, AV.toD, toDs, AV.cells, AV.one, joinD, TyI.zeroD, OpR.of, binIntF, binStrF, AV.isPtr, ptrNil, slNil, mpNil, nilE, eqF, negF, posF, binF, pelF, pvLoad, pelSet, pvStore, boxLoad, epLoad, loadF, boxStore, storeF, fieldAddrF, fieldF, epOf, indexAddrF, byteF, indexF, mapLen, lenF, cutF, sliceF, sliceN, sliceX, isSl, slice3F, fillF, arrFs, buildF, partsX, landV, buildSliceF, roomB, appVec, appendF, appMkF, capF, mmFrom, mmF, max2', min2', clearVec, clearF, convF, unF, pickF, nilChkF, extF, ptrsOf, callF, makeSliceF, sameKs, sameD, kindIs, plainFs, keyOk, mapOb, mapEs, okV, lookF, lookupF, putE, putS, mapPut, mapUpdateF, mapDel, deleteF, mapAll, rangeM, rangeF, overV, hitV, nextO, nextF, entryM, entryO, entryF, itOids, builtinF, capsOf, allocF, boxF, bytesL, bytesF, byteTy, strTy, convertF, makeFuncF, makeMapF, makeMapH, opF, reach, reachOf, AObj.live, closedB, nodupB, packO, packL, packX, backN, backG, backO, obL, backE, frzX, frzO, AV.vids, frzL, landC, sameObs, landR, touchF, bitsW, D.cells, D.decEq, D.decEqs, AV.decEq, AV.decEqs, AObj.decEq, AV.oids0, AV.oids, AObj.oids, renG, renP, AV.ren0, AV.ren, envGet, envPut, envKeep, obGet, setEff, putV, St.put, stepS, keyChk, chkD, accD, Ex.block, AV.under, AObj.under, laysOf, roomFor, mkvO, frzG, szOk, killO, usedBy, tidyS, ghost, ghostE, normSt, resOf, allSome, one0, resultsF, finL, finishL, finish, endF, startEnv, chkC, backX, comeC, AV.flat0, rngC, loopO, layL, endLp, busyL, idleL, noRng, rndSt, rndEnd, wpn_nil, wpn_seq, wpn_loop, wpn_seq_exit, wpn_loop_exit, wpn_seq_ret, wpn_loop_ret, wpn_block, wpn_post, wpk_skip, wpk_exit, wpk_ret, wpk_reg, wpk_seq, wpk_condT, wpk_block, wpk_loop, wpk_pre, wpk_post, wop_nil, wop_cons, wop_guard, St.know, envSet, cond_d, cond_bool, cond_int, cond_str, endE, endQ, freeB, disj, pushT, bitsW, int_beq, int_bne, eqS_def, tbE, fuelL_eq, ann0_lays, ann0_dd, ann0_ro, elsOf_dsl, elsOf_dnils, toNat_succ, nn_succ, pos_succ, one_succ, rng1, rng2, rng3, rng4, rng5, rng6, rng7, rng8, List.idxOf_cons, wpk_rng, rndK, rndE, T2, T3, T4, T5, T6, T8, T9, T22, T26, T27, T30, T32, T37, T39, T54, T66, T73, T99, T110, T116, T135, T141, T148, T150, T157, CT, hA, hB, hBn]
  | cons c suf =>
    have hol := sortC_len pre
    have hl' : pre.length + (suf.length + 1) < 1000 := by simpa using hl
    have hw : IntKind.i64.wrap ((pre.length : Int) + 1) = (pre.length : Int) + 1 := wrap64 (by omega) (by omega)
    have hlt : (pre.length : Int) < (pre ++ c :: suf).length := by simp; omega
    have hget : (pre ++ c :: suf)[pre.length]? = some c := by simp
    have hs : sortC (pre ++ [c]) = insC c (sortC pre) := by simp [sortC]
    generalize hL : pre ++ c :: suf = L at *
    have ih := fun B' => ih (pre ++ [c], suf, B')
    simp only [hs] at ih
    generalize sortC pre = o at *
    simp [c39_1, TK.agg, constAV, evalAV, eqCells, EK.has, EK.hasAll, vecEls, elsR, AV.toD, toDs, AV.cells, AV.one, joinD, TyI.zeroD, OpR.of, binIntF, binStrF, AV.isPtr, ptrNil, slNil, mpNil, nilE, eqF, negF, posF, binF, pelF, pvLoad, pelSet, pvStore, boxLoad, epLoad, loadF, boxStore, storeF, fieldAddrF, fieldF, epOf, indexAddrF, byteF, indexF, mapLen, lenF, cutF, sliceF, sliceN, sliceX, isSl, slice3F, fillF, arrFs, buildF, partsX, landV, buildSliceF, roomB, appVec, appendF, appMkF, capF, mmFrom, mmF, max2', min2', clearVec, clearF, convF, unF, pickF, nilChkF, extF, ptrsOf, callF, makeSliceF, sameKs, sameD, kindIs, plainFs, keyOk, mapOb, mapEs, okV, lookF, lookupF, putE, putS, mapPut, mapUpdateF, mapDel, deleteF, mapAll, rangeM, rangeF, overV, hitV, nextO, nextF, entryM, entryO, entryF, itOids, builtinF, capsOf, allocF, boxF, bytesL, bytesF, byteTy, strTy, convertF, makeFuncF, makeMapF, makeMapH, opF, reach, reachOf, AObj.live, closedB, nodupB, packO, packL, packX, backN, backG, backO, obL, backE, frzX, frzO, AV.vids, frzL, landC, sameObs, landR, touchF, bitsW, D.cells, D.decEq, D.decEqs, AV.decEq, AV.decEqs, AObj.decEq, AV.oids0, AV.oids, AObj.oids, renG, renP, AV.ren0, AV.ren, envGet, envPut, envKeep, obGet, setEff, putV, St.put, stepS, keyChk, chkD, accD, Ex.block, AV.under, AObj.under, laysOf, roomFor, mkvO, frzG, szOk, killO, usedBy, tidyS, ghost, ghostE, normSt, resOf, allSome, one0, resultsF, finL, finishL, finish, endF, startEnv, chkC, backX, comeC, AV.flat0, rngC, loopO, layL, endLp, busyL, idleL, noRng, rndSt, rndEnd, wpn_nil, wpn_seq, wpn_loop, wpn_seq_exit, wpn_loop_exit, wpn_seq_ret, wpn_loop_ret, wpn_block, wpn_post, wpk_skip, wpk_exit, wpk_ret, wpk_reg, wpk_seq, wpk_condT, wpk_block, wpk_loop, wpk_pre, wpk_post, wop_nil, wop_cons, wop_guard, St.know, envSet, cond_d, cond_bool, cond_int, cond_str, endE, endQ, freeB, disj, pushT, bitsW, int_beq, int_bne, eqS_def, tbE, fuelL_eq, ann0_lays, ann0_dd, ann0_ro, elsOf_dsl, elsOf_dnils, toNat_succ, nn_succ, pos_succ, one_succ, rng1, rng2, rng3, rng4, rng5, rng6, rng7, rng8, List.idxOf_cons, wpk_rng, rndK, rndE, T2, T3, T4, T5, T6, T8, T9, T22, T26, T27, T30, T32, T37, T39, T54, T66, T73, T99, T110, T116, T135, T141, T148, T150, T157, CT, hA, hlt]
    refine loop39_2 A B L o pre.length c hget (by omega) hA hB _ _ ?_
    have hx : (L.map Chg.enc)[pre.length]? = some c.enc := by rw [List.getElem?_map, hget]; rfl
    have hple := posC_le c o
    by_cases hk : posC c o < o.length
    · have hy : (o.map Chg.enc)[posC c o]? = some (o[posC c o]).enc := by simp [hk]
      have hi : insC c o = if (o[posC c o]).same c = true then o else o.take (posC c o) ++ c :: o.drop (posC c o) := by simp [insC, hk]
      have hneN : ¬ posC c o = o.length := by omega
      have hne : ¬ ((posC c o : Nat) : Int) = (o.length : Int) := by omega
      generalize hp : o[posC c o] = p at *
      have hE : eqCells [.int .i64 p.id, .int .i64 p.kind, .int .i64 p.slot, .str p.svc, .str p.tgt, .str p.ver] [.int .i64 c.id, .int .i64 c.kind, .int .i64 c.slot, .str c.svc, .str c.tgt, .str c.ver] = some (p.same c) := by
        simp [eqCells, Chg.same, eqS_def, int_beq]
      by_cases hsm : p.same c = true
      · rw [if_pos hsm] at hi
        rw [hi] at ih
        have ih := ih B ⟨by rw [← hL]; simp, hB, hBn⟩ (by simp)
        simp at ih
        simp only [Chg.enc] at hx hy
        simp [TK.agg, constAV, evalAV, EK.has, EK.hasAll, vecEls, elsR, AV.toD, toDs, AV.cells, AV.one, joinD, TyI.zeroD, OpR.of, binIntF, binStrF, AV.isPtr, ptrNil, slNil, mpNil, nilE, eqF, negF, posF, binF, pelF, pvLoad, pelSet, pvStore, boxLoad, epLoad, loadF, boxStore, storeF, fieldAddrF, fieldF, epOf, indexAddrF, byteF, indexF, mapLen, lenF, cutF, sliceF, sliceN, sliceX, isSl, slice3F, fillF, arrFs, buildF, partsX, landV, buildSliceF, roomB, appVec, appendF, appMkF, capF, mmFrom, mmF, max2', min2', clearVec, clearF, convF, unF, pickF, nilChkF, extF, ptrsOf, callF, makeSliceF, sameKs, sameD, kindIs, plainFs, keyOk, mapOb, mapEs, okV, lookF, lookupF, putE, putS, mapPut, mapUpdateF, mapDel, deleteF, mapAll, rangeM, rangeF, overV, hitV, nextO, nextF, entryM, entryO, entryF, itOids, builtinF, capsOf, allocF, boxF, bytesL, bytesF, byteTy, strTy, convertF, makeFuncF, makeMapF, makeMapH, opF, reach, reachOf, AObj.live, closedB, nodupB, packO, packL, packX, backN, backG, backO, obL, backE, frzX, frzO, AV.vids, frzL, landC, sameObs, landR, touchF, bitsW, D.cells, D.decEq, D.decEqs, AV.decEq, AV.decEqs, AObj.decEq, AV.oids0, AV.oids, AObj.oids, renG, renP, AV.ren0, AV.ren, envGet, envPut, envKeep, obGet, setEff, putV, St.put, stepS, keyChk, chkD, accD, Ex.block, AV.under, AObj.under, laysOf, roomFor, mkvO, frzG, szOk, killO, usedBy, tidyS, ghost, ghostE, normSt, resOf, allSome, one0, resultsF, finL, finishL, finish, endF, startEnv, chkC, backX, comeC, AV.flat0, rngC, loopO, layL, endLp, busyL, idleL, noRng, rndSt, rndEnd, wpn_nil, wpn_seq, wpn_loop, wpn_seq_exit, wpn_loop_exit, wpn_seq_ret, wpn_loop_ret, wpn_block, wpn_post, wpk_skip, wpk_exit, wpk_ret, wpk_reg, wpk_seq, wpk_condT, wpk_block, wpk_loop, wpk_pre, wpk_post, wop_nil, wop_cons, wop_guard, St.know, envSet, cond_d, cond_bool, cond_int, cond_str, endE, endQ, freeB, disj, pushT, bitsW, int_beq, int_bne, eqS_def, tbE, fuelL_eq, ann0_lays, ann0_dd, ann0_ro, elsOf_dsl, elsOf_dnils, toNat_succ, nn_succ, pos_succ, one_succ, rng1, rng2, rng3, rng4, rng5, rng6, rng7, rng8, List.idxOf_cons, wpk_rng, rndK, rndE, T2, T3, T4, T5, T6, T8, T9, T22, T26, T27, T30, T32, T37, T39, T54, T66, T73, T99, T110, T116, T135, T141, T148, T150, T157, CT, CQ, QQ, Chg.enc, hA, hB, hx, hy, hw, hne, hneN, hE, hsm, hk, hp]
        exact ih
      · rw [if_neg hsm] at hi
        generalize posC c o = k at *
        have hz1 : szAll 6 ((o.map Chg.enc).take k) = true := by
          rw [szAll_iff]; intro y hy'
          obtain ⟨q, _, rfl⟩ := List.mem_map.1 (List.mem_of_mem_take hy')
          rfl
        have hz2 : szAll 6 [c.enc] = true := by simp [szAll, Chg.enc, D.cells]
        have hz3 : szAll 6 ((o.map Chg.enc).drop k) = true := by
          rw [szAll_iff]; intro y hy'
          obtain ⟨q, _, rfl⟩ := List.mem_map.1 (List.mem_of_mem_drop hy')
          rfl
        have ih := ih (.sl ((o.map Chg.enc).take k ++ c.enc :: (o.map Chg.enc).drop k)) ⟨by rw [← hL]; simp, by simp [elsOf, hi], by simp⟩ (by simp)
        have r1 : k * 72 ≤ 140737488355328 := by omega
        have r2 : k ≤ 9223372036854775807 := by omega
        have r3 : (k + 1) * 72 ≤ 140737488355328 := by omega
        have r4 : k + 1 ≤ 9223372036854775807 := by omega
        have hmin : min k o.length = k := by omega
        have hz0 : szAll 6 (o.map Chg.enc) = true := by simp [szAll, Chg.enc, D.cells]
        have htk0 : (o.map Chg.enc).take o.length = o.map Chg.enc := List.take_of_length_le (by simp)
        have htk1 : ((o.map Chg.enc).take k).take k = (o.map Chg.enc).take k := by rw [List.take_take, Nat.min_self]
        have htk2 : ((o.map Chg.enc).take k ++ [D.agg [.int .i64 c.id, .int .i64 c.kind, .int .i64 c.slot, .str c.svc, .str c.tgt, .str c.ver]]).take (k + 1) = (o.map Chg.enc).take k ++ [D.agg [.int .i64 c.id, .int .i64 c.kind, .int .i64 c.slot, .str c.svc, .str c.tgt, .str c.ver]] := List.take_of_length_le (by simp; omega)
        have htk3 : ((o.map Chg.enc).take k ++ D.agg [.int .i64 c.id, .int .i64 c.kind, .int .i64 c.slot, .str c.svc, .str c.tgt, .str c.ver] :: (o.map Chg.enc).drop k).take (k + 1 + (o.length - k)) = (o.map Chg.enc).take k ++ D.agg [.int .i64 c.id, .int .i64 c.kind, .int .i64 c.slot, .str c.svc, .str c.tgt, .str c.ver] :: (o.map Chg.enc).drop k := List.take_of_length_le (by simp; omega)
        have r5 : (k + 1 + (o.length - k)) * 72 ≤ 140737488355328 := by omega
        have r6 : k + 1 + (o.length - k) ≤ 9223372036854775807 := by omega
        simp only [Chg.enc] at hx hy hz2 hE
        simp at ih
        simp only [Chg.enc] at ih
        simp [TK.agg, constAV, evalAV, EK.has, EK.hasAll, vecEls, elsR, AV.toD, toDs, AV.cells, AV.one, joinD, TyI.zeroD, OpR.of, binIntF, binStrF, AV.isPtr, ptrNil, slNil, mpNil, nilE, eqF, negF, posF, binF, pelF, pvLoad, pelSet, pvStore, boxLoad, epLoad, loadF, boxStore, storeF, fieldAddrF, fieldF, epOf, indexAddrF, byteF, indexF, mapLen, lenF, cutF, sliceF, sliceN, sliceX, isSl, slice3F, fillF, arrFs, buildF, partsX, landV, buildSliceF, roomB, appVec, appendF, appMkF, capF, mmFrom, mmF, max2', min2', clearVec, clearF, convF, unF, pickF, nilChkF, extF, ptrsOf, callF, makeSliceF, sameKs, sameD, kindIs, plainFs, keyOk, mapOb, mapEs, okV, lookF, lookupF, putE, putS, mapPut, mapUpdateF, mapDel, deleteF, mapAll, rangeM, rangeF, overV, hitV, nextO, nextF, entryM, entryO, entryF, itOids, builtinF, capsOf, allocF, boxF, bytesL, bytesF, byteTy, strTy, convertF, makeFuncF, makeMapF, makeMapH, opF, reach, reachOf, AObj.live, closedB, nodupB, packO, packL, packX, backN, backG, backO, obL, backE, frzX, frzO, AV.vids, frzL, landC, sameObs, landR, touchF, bitsW, D.cells, D.decEq, D.decEqs, AV.decEq, AV.decEqs, AObj.decEq, AV.oids0, AV.oids, AObj.oids, renG, renP, AV.ren0, AV.ren, envGet, envPut, envKeep, obGet, setEff, putV, St.put, stepS, keyChk, chkD, accD, Ex.block, AV.under, AObj.under, laysOf, roomFor, mkvO, frzG, szOk, killO, usedBy, tidyS, ghost, ghostE, normSt, resOf, allSome, one0, resultsF, finL, finishL, finish, endF, startEnv, chkC, backX, comeC, AV.flat0, rngC, loopO, layL, endLp, busyL, idleL, noRng, rndSt, rndEnd, wpn_nil, wpn_seq, wpn_loop, wpn_seq_exit, wpn_loop_exit, wpn_seq_ret, wpn_loop_ret, wpn_block, wpn_post, wpk_skip, wpk_exit, wpk_ret, wpk_reg, wpk_seq, wpk_condT, wpk_block, wpk_loop, wpk_pre, wpk_post, wop_nil, wop_cons, wop_guard, St.know, envSet, cond_d, cond_bool, cond_int, cond_str, endE, endQ, freeB, disj, pushT, bitsW, int_beq, int_bne, eqS_def, tbE, fuelL_eq, ann0_lays, ann0_dd, ann0_ro, elsOf_dsl, elsOf_dnils, toNat_succ, nn_succ, pos_succ, one_succ, rng1, rng2, rng3, rng4, rng5, rng6, rng7, rng8, List.idxOf_cons, wpk_rng, rndK, rndE, T2, T3, T4, T5, T6, T8, T9, T22, T26, T27, T30, T32, T37, T39, T54, T66, T73, T99, T110, T116, T135, T141, T148, T150, T157, CT, CQ, QQ, Chg.enc, hA, hB, hx, hy, hw, hne, hneN, hE, hsm, hk, hp, hz1, hz2, hz3, r1, r2, r3, r4, r5, r6, hmin, hple, hz0, htk0, htk1, htk2, htk3]
        exact ih
    · have e : posC c o = o.length := by omega
      have hi : insC c o = o ++ [c] := by simp [insC, e]
      have hz1 : szAll 6 (o.map Chg.enc) = true := by simp [szAll, Chg.enc, D.cells]
      have hz2 : szAll 6 [c.enc] = true := by simp [szAll, Chg.enc, D.cells]
      simp only [hi] at ih
      simp only [Chg.enc] at hx hz2
      have r1 : o.length * 72 ≤ 140737488355328 := by omega
      have r2 : o.length ≤ 9223372036854775807 := by omega
      have r3 : (o.length + 1) * 72 ≤ 140737488355328 := by omega
      have r4 : o.length + 1 ≤ 9223372036854775807 := by omega
      have htk : (o.map Chg.enc).take o.length = o.map Chg.enc := List.take_of_length_le (by simp)
      have hdr : (o.map Chg.enc).drop o.length = [] := List.drop_eq_nil_of_le (by simp)
      have hz3 : szAll 6 [] = true := rfl
      have htk2 : (o.map Chg.enc ++ [D.agg [.int .i64 c.id, .int .i64 c.kind, .int .i64 c.slot, .str c.svc, .str c.tgt, .str c.ver]]).take (o.length + 1) = o.map Chg.enc ++ [D.agg [.int .i64 c.id, .int .i64 c.kind, .int .i64 c.slot, .str c.svc, .str c.tgt, .str c.ver]] := List.take_of_length_le (by simp)
      have ih := ih (.sl (o.map Chg.enc ++ [c.enc])) ⟨by rw [← hL]; simp, by simp [elsOf], by simp⟩ (by simp)
      simp [Chg.enc] at ih
      simp [TK.agg, constAV, evalAV, eqCells, EK.has, EK.hasAll, vecEls, elsR, AV.toD, toDs, AV.cells, AV.one, joinD, TyI.zeroD, OpR.of, binIntF, binStrF, AV.isPtr, ptrNil, slNil, mpNil, nilE, eqF, negF, posF, binF, pelF, pvLoad, pelSet, pvStore, boxLoad, epLoad, loadF, boxStore, storeF, fieldAddrF, fieldF, epOf, indexAddrF, byteF, indexF, mapLen, lenF, cutF, sliceF, sliceN, sliceX, isSl, slice3F, fillF, arrFs, buildF, partsX, landV, buildSliceF, roomB, appVec, appendF, appMkF, capF, mmFrom, mmF, max2', min2', clearVec, clearF, convF, unF, pickF, nilChkF, extF, ptrsOf, callF, makeSliceF, sameKs, sameD, kindIs, plainFs, keyOk, mapOb, mapEs, okV, lookF, lookupF, putE, putS, mapPut, mapUpdateF, mapDel, deleteF, mapAll, rangeM, rangeF, overV, hitV, nextO, nextF, entryM, entryO, entryF, itOids, builtinF, capsOf, allocF, boxF, bytesL, bytesF, byteTy, strTy, convertF, makeFuncF, makeMapF, makeMapH, opF, reach, reachOf, AObj.live, closedB, nodupB, packO, packL, packX, backN, backG, backO, obL, backE, frzX, frzO, AV.vids, frzL, landC, sameObs, landR, touchF, bitsW, D.cells, D.decEq, D.decEqs, AV.decEq, AV.decEqs, AObj.decEq, AV.oids0, AV.oids, AObj.oids, renG, renP, AV.ren0, AV.ren, envGet, envPut, envKeep, obGet, setEff, putV, St.put, stepS, keyChk, chkD, accD, Ex.block, AV.under, AObj.under, laysOf, roomFor, mkvO, frzG, szOk, killO, usedBy, tidyS, ghost, ghostE, normSt, resOf, allSome, one0, resultsF, finL, finishL, finish, endF, startEnv, chkC, backX, comeC, AV.flat0, rngC, loopO, layL, endLp, busyL, idleL, noRng, rndSt, rndEnd, wpn_nil, wpn_seq, wpn_loop, wpn_seq_exit, wpn_loop_exit, wpn_seq_ret, wpn_loop_ret, wpn_block, wpn_post, wpk_skip, wpk_exit, wpk_ret, wpk_reg, wpk_seq, wpk_condT, wpk_block, wpk_loop, wpk_pre, wpk_post, wop_nil, wop_cons, wop_guard, St.know, envSet, cond_d, cond_bool, cond_int, cond_str, endE, endQ, freeB, disj, pushT, bitsW, int_beq, int_bne, eqS_def, tbE, fuelL_eq, ann0_lays, ann0_dd, ann0_ro, elsOf_dsl, elsOf_dnils, toNat_succ, nn_succ, pos_succ, one_succ, rng1, rng2, rng3, rng4, rng5, rng6, rng7, rng8, List.idxOf_cons, wpk_rng, rndK, rndE, T2, T3, T4, T5, T6, T8, T9, T22, T26, T27, T30, T32, T37, T39, T54, T66, T73, T99, T110, T116, T135, T141, T148, T150, T157, CT, hA, hB, e, hx, hw, hz1, hz2, hz3, r1, r2, r3, r4, htk, hdr, htk2]
      exact ih
theorem sorted_run (A : D) (l : List Chg) (hl : l.length < 1000) (hA : elsOf (.d A) = some (l.map Chg.enc)) : ∃ B : D, elsOf (.d B) = some ((sortC l).map Chg.enc) ∧ run CC 39 [.d A] [] = some (.d B, []) := by
  obtain ⟨B, ⟨h1, _⟩, h2⟩ := sorted_run' A l hl hA
  exact ⟨B, h1, h2⟩
end Go.Proofs.YteidaaobppjlbaaV
