/- The definition's compare and check. -/
import Derived.Test.YteidaaobppjlbaaWc47b
set_option linter.unusedVariables false
set_option linter.unusedSimpArgs false
namespace Go.Proofs.YteidaaobppjlbaaV
open Go.RowKit
theorem compare16_run (a b : Chg) : run CC 16 [.d a.enc, .d b.enc] [] = some (.d (.int .i64 (a.cmp b)), []) := by
  refine run_code (s := s16 0) rfl rfl rfl (by kernel_rfl) ?_
  simp [s16, Chg.enc, TK.agg, constAV, evalAV, eqCells, EK.has, EK.hasAll, vecEls, elsR, AV.toD, toDs, AV.cells, AV.one, joinD, TyI.zeroD, OpR.of, binIntF, binStrF, eqF, negF, posF, binF, pelF, pvLoad, pelSet, pvStore, boxLoad, epLoad, loadF, boxStore, storeF, fieldAddrF, fieldF, epOf, indexAddrF, byteF, indexF, mapLen, lenF, cutF, sliceF, fillF, buildF, partsX, landV, buildSliceF, roomB, appVec, appendF, mmFrom, mmF, max2', min2', builtinF, convF, unF, pickF, nilChkF, extF, ptrsOf, callF, makeSliceF, sameD, keyOk, mapOb, mapEs, okV, lookF, lookupF, putE, mapPut, mapUpdateF, capsOf, allocF, boxF, convertF, makeFuncF, makeMapF, opF, reach, reachOf, AObj.live, closedB, nodupB, packO, packL, packX, backN, backG, backO, obL, backE, frzX, frzO, AV.vids, frzL, landC, touchF, D.cells, AV.oids0, AV.oids, AObj.oids, renG, renP, AV.ren0, AV.ren, envGet, envPut, envKeep, obGet, setEff, putV, St.put, stepS, keyChk, chkD, accD, Ex.block, AV.under, AObj.under, laysOf, roomFor, mkvO, frzG, szOk, killO, usedBy, tidyS, ghost, ghostE, normSt, resOf, allSome, one0, resultsF, finL, finishL, finish, endF, startEnv, chkC, backX, comeC, wpn_nil, wpn_seq, wpn_loop, wpn_seq_exit, wpn_loop_exit, wpn_seq_ret, wpn_loop_ret, wpn_block, wpn_post, wpk_skip, wpk_exit, wpk_ret, wpk_reg, wpk_seq, wpk_condT, wpk_block, wpk_loop, wpk_pre, wpk_post, wop_nil, wop_cons, wop_guard, St.know, envSet, cond_d, cond_bool, cond_int, cond_str, endE, endQ, freeB, disj, pushT, bitsW, int_beq, int_bne, eqS_def, Nat.testBit_eq_decide_div_mod_eq, fuelL_eq, ann0_lays, ann0_dd, elsOf_dsl, elsOf_dnils, toNat_succ, nn_succ, pos_succ, one_succ, T3, T4, T5, T9, T22, T26, T27, T30, T32, T34, T37, T39, T45, T46, T47, T48, T50, T52, T54, T56, T59, T61, T64, T66, T72, T73, T78, T99, T101, T103, T104, T107, T110, T113, T116, T154, T169, T171, T194, CT, order_run, word_run]
  have hl : (a.cmps b).length < 1000 := by simp [Chg.cmps]
  unfold Chg.cmp
  change wlp CC _ ⟨[(5, .d (.sl ((a.cmps b).map (D.int .i64)))), (6, _)], _⟩ _ _
  generalize a.cmps b = l at hl ⊢
  refine wlp_inv (S := fun p : List Int × List Int => ⟨[(5, .d (.sl (l.map (D.int .i64)))), (6, .d (.int .i64 p.1.length))], [.dead, .dead, .dead]⟩) (m := fun p => p.2.length) (Inv := fun p => p.1 ++ p.2 = l ∧ firstNZ p.2 = firstNZ l) ?_ ([], l) ⟨rfl, rfl⟩
  rintro ⟨pre, suf⟩ ⟨rfl, h2⟩ ih
  rw [e16_1]
  simp only at h2 ⊢
  rw [← h2] at ih ⊢
  clear h2
  cases suf with
  | nil => simp [c16_1, TK.agg, constAV, evalAV, eqCells, EK.has, EK.hasAll, vecEls, elsR, AV.toD, toDs, AV.cells, AV.one, joinD, TyI.zeroD, OpR.of, binIntF, binStrF, eqF, negF, posF, binF, pelF, pvLoad, pelSet, pvStore, boxLoad, epLoad, loadF, boxStore, storeF, fieldAddrF, fieldF, epOf, indexAddrF, byteF, indexF, mapLen, lenF, cutF, sliceF, fillF, buildF, partsX, landV, buildSliceF, roomB, appVec, appendF, mmFrom, mmF, max2', min2', builtinF, convF, unF, pickF, nilChkF, extF, ptrsOf, callF, makeSliceF, sameD, keyOk, mapOb, mapEs, okV, lookF, lookupF, putE, mapPut, mapUpdateF, capsOf, allocF, boxF, convertF, makeFuncF, makeMapF, opF, reach, reachOf, AObj.live, closedB, nodupB, packO, packL, packX, backN, backG, backO, obL, backE, frzX, frzO, AV.vids, frzL, landC, touchF, D.cells, AV.oids0, AV.oids, AObj.oids, renG, renP, AV.ren0, AV.ren, envGet, envPut, envKeep, obGet, setEff, putV, St.put, stepS, keyChk, chkD, accD, Ex.block, AV.under, AObj.under, laysOf, roomFor, mkvO, frzG, szOk, killO, usedBy, tidyS, ghost, ghostE, normSt, resOf, allSome, one0, resultsF, finL, finishL, finish, endF, startEnv, chkC, backX, comeC, wpn_nil, wpn_seq, wpn_loop, wpn_seq_exit, wpn_loop_exit, wpn_seq_ret, wpn_loop_ret, wpn_block, wpn_post, wpk_skip, wpk_exit, wpk_ret, wpk_reg, wpk_seq, wpk_condT, wpk_block, wpk_loop, wpk_pre, wpk_post, wop_nil, wop_cons, wop_guard, St.know, envSet, cond_d, cond_bool, cond_int, cond_str, endE, endQ, freeB, disj, pushT, bitsW, int_beq, int_bne, eqS_def, Nat.testBit_eq_decide_div_mod_eq, fuelL_eq, ann0_lays, ann0_dd, elsOf_dsl, elsOf_dnils, toNat_succ, nn_succ, pos_succ, one_succ, T3, T4, T5, T9, T22, T26, T27, T30, T32, T34, T37, T39, T45, T46, T47, T48, T50, T52, T54, T56, T59, T61, T64, T66, T72, T73, T78, T99, T101, T103, T104, T107, T110, T113, T116, T154, T169, T171, T194, CT, firstNZ]
  | cons x suf =>
    have hw : IntKind.i64.wrap ((pre.length : Int) + 1) = (pre.length : Int) + 1 := wrap64 (by omega) (by simp at hl; omega)
    have hx : ((pre ++ x :: suf).map (D.int .i64))[pre.length]? = some (.int .i64 x) := by simp
    have ih := ih (pre ++ [x], suf)
    simp at ih
    simp [c16_1, TK.agg, constAV, evalAV, eqCells, EK.has, EK.hasAll, vecEls, elsR, AV.toD, toDs, AV.cells, AV.one, joinD, TyI.zeroD, OpR.of, binIntF, binStrF, eqF, negF, posF, binF, pelF, pvLoad, pelSet, pvStore, boxLoad, epLoad, loadF, boxStore, storeF, fieldAddrF, fieldF, epOf, indexAddrF, byteF, indexF, mapLen, lenF, cutF, sliceF, fillF, buildF, partsX, landV, buildSliceF, roomB, appVec, appendF, mmFrom, mmF, max2', min2', builtinF, convF, unF, pickF, nilChkF, extF, ptrsOf, callF, makeSliceF, sameD, keyOk, mapOb, mapEs, okV, lookF, lookupF, putE, mapPut, mapUpdateF, capsOf, allocF, boxF, convertF, makeFuncF, makeMapF, opF, reach, reachOf, AObj.live, closedB, nodupB, packO, packL, packX, backN, backG, backO, obL, backE, frzX, frzO, AV.vids, frzL, landC, touchF, D.cells, AV.oids0, AV.oids, AObj.oids, renG, renP, AV.ren0, AV.ren, envGet, envPut, envKeep, obGet, setEff, putV, St.put, stepS, keyChk, chkD, accD, Ex.block, AV.under, AObj.under, laysOf, roomFor, mkvO, frzG, szOk, killO, usedBy, tidyS, ghost, ghostE, normSt, resOf, allSome, one0, resultsF, finL, finishL, finish, endF, startEnv, chkC, backX, comeC, wpn_nil, wpn_seq, wpn_loop, wpn_seq_exit, wpn_loop_exit, wpn_seq_ret, wpn_loop_ret, wpn_block, wpn_post, wpk_skip, wpk_exit, wpk_ret, wpk_reg, wpk_seq, wpk_condT, wpk_block, wpk_loop, wpk_pre, wpk_post, wop_nil, wop_cons, wop_guard, St.know, envSet, cond_d, cond_bool, cond_int, cond_str, endE, endQ, freeB, disj, pushT, bitsW, int_beq, int_bne, eqS_def, Nat.testBit_eq_decide_div_mod_eq, fuelL_eq, ann0_lays, ann0_dd, elsOf_dsl, elsOf_dnils, toNat_succ, nn_succ, pos_succ, one_succ, T3, T4, T5, T9, T22, T26, T27, T30, T32, T34, T37, T39, T45, T46, T47, T48, T50, T52, T54, T56, T59, T61, T64, T66, T72, T73, T78, T99, T101, T103, T104, T107, T110, T113, T116, T154, T169, T171, T194, CT, hx, hw]
    rw [if_pos (by omega)]
    split
    · rename_i h; exact ih (by simp [firstNZ, h])
    · rename_i h; simp [firstNZ, h]

/-- The scan for an equal id. -/
theorem inner18 (A : D) (l : List Chg) (c : Chg) (i : Nat) (hl : l.length < 1000) (hi : i < l.length) (hA : elsOf (.d A) = some (l.map Chg.enc)) (ks : List Fr) (K : Ex → St → Prop)
    (hret : ((l.take i).any fun p => decide (p.id = c.id)) = true → ∀ st', envGet st'.env 2 = .d (.int .i64 9) → wpn CC .ret st' ks K)
    (hnext : ((l.take i).any fun p => decide (p.id = c.id)) = false → wpn CC .norm ⟨[(0, .d A), (3, .d (.int .i64 i))], [.dead]⟩ ks K) :
    wlp CC (s18_2 0) ⟨[(0, .d A), (3, .d (.int .i64 i)), (4, .ptr 0 0), (7, .d (.int .i64 0))], [.box [.d (.int .i64 c.id), .d (.int .i64 c.kind), .d (.int .i64 c.slot), .d (.str c.svc), .d (.str c.tgt), .d (.str c.ver)]]⟩ (.block 3 :: .post (.tidy [0, 3] 0 1) :: ks) K := by
  refine wlp_inv (S := fun k : Nat => ⟨[(0, .d A), (3, .d (.int .i64 i)), (4, .ptr 0 0), (7, .d (.int .i64 k))], [.box [.d (.int .i64 c.id), .d (.int .i64 c.kind), .d (.int .i64 c.slot), .d (.str c.svc), .d (.str c.tgt), .d (.str c.ver)]]⟩) (m := fun k => i - k) (Inv := fun k => k ≤ i ∧ ((l.take k).any fun p => decide (p.id = c.id)) = false) ?_ 0 ⟨by omega, by simp⟩
  rintro k ⟨hk, hn⟩ ih
  rw [e18_2]
  by_cases hki : k < i
  · have hw : IntKind.i64.wrap ((k : Int) + 1) = (k : Int) + 1 := wrap64 (by omega) (by omega)
    have hkl : k < l.length := by omega
    have hx : (l.map Chg.enc)[k]? = some (l[k]).enc := by simp [hkl]
    have ih := ih (k + 1)
    have htk : l.take (k + 1) = l.take k ++ [l[k]] := by rw [List.take_add_one]; simp [hkl]
    simp only [Chg.enc] at hx
    simp at ih
    simp [c18_2, TK.agg, constAV, evalAV, eqCells, EK.has, EK.hasAll, vecEls, elsR, AV.toD, toDs, AV.cells, AV.one, joinD, TyI.zeroD, OpR.of, binIntF, binStrF, eqF, negF, posF, binF, pelF, pvLoad, pelSet, pvStore, boxLoad, epLoad, loadF, boxStore, storeF, fieldAddrF, fieldF, epOf, indexAddrF, byteF, indexF, mapLen, lenF, cutF, sliceF, fillF, buildF, partsX, landV, buildSliceF, roomB, appVec, appendF, mmFrom, mmF, max2', min2', builtinF, convF, unF, pickF, nilChkF, extF, ptrsOf, callF, makeSliceF, sameD, keyOk, mapOb, mapEs, okV, lookF, lookupF, putE, mapPut, mapUpdateF, capsOf, allocF, boxF, convertF, makeFuncF, makeMapF, opF, reach, reachOf, AObj.live, closedB, nodupB, packO, packL, packX, backN, backG, backO, obL, backE, frzX, frzO, AV.vids, frzL, landC, touchF, D.cells, AV.oids0, AV.oids, AObj.oids, renG, renP, AV.ren0, AV.ren, envGet, envPut, envKeep, obGet, setEff, putV, St.put, stepS, keyChk, chkD, accD, Ex.block, AV.under, AObj.under, laysOf, roomFor, mkvO, frzG, szOk, killO, usedBy, tidyS, ghost, ghostE, normSt, resOf, allSome, one0, resultsF, finL, finishL, finish, endF, startEnv, chkC, backX, comeC, wpn_nil, wpn_seq, wpn_loop, wpn_seq_exit, wpn_loop_exit, wpn_seq_ret, wpn_loop_ret, wpn_block, wpn_post, wpk_skip, wpk_exit, wpk_ret, wpk_reg, wpk_seq, wpk_condT, wpk_block, wpk_loop, wpk_pre, wpk_post, wop_nil, wop_cons, wop_guard, St.know, envSet, cond_d, cond_bool, cond_int, cond_str, endE, endQ, freeB, disj, pushT, bitsW, int_beq, int_bne, eqS_def, Nat.testBit_eq_decide_div_mod_eq, fuelL_eq, ann0_lays, ann0_dd, elsOf_dsl, elsOf_dnils, toNat_succ, nn_succ, pos_succ, one_succ, T3, T4, T5, T9, T22, T26, T27, T30, T32, T34, T37, T39, T45, T46, T47, T48, T50, T52, T54, T56, T59, T61, T64, T66, T72, T73, T78, T99, T101, T103, T104, T107, T110, T113, T116, T154, T169, T171, T194, CT, hA, hx, hw, hki]
    split
    · rename_i h
      refine hret ?_ _ rfl
      rw [List.any_eq_true]
      exact ⟨l[k], List.mem_take_iff_getElem.2 ⟨k, by omega, rfl⟩, by simp [h]⟩
    · rename_i h
      refine ih (by omega) (fun x hx he => ?_) (by omega)
      rw [htk, List.mem_append, List.mem_singleton] at hx
      rcases hx with hx | rfl
      · rw [List.any_eq_false] at hn
        exact hn x hx (by simp [he])
      · exact h he
  · have : k = i := by omega
    subst this
    have := hnext hn
    simp [c18_2, TK.agg, constAV, evalAV, eqCells, EK.has, EK.hasAll, vecEls, elsR, AV.toD, toDs, AV.cells, AV.one, joinD, TyI.zeroD, OpR.of, binIntF, binStrF, eqF, negF, posF, binF, pelF, pvLoad, pelSet, pvStore, boxLoad, epLoad, loadF, boxStore, storeF, fieldAddrF, fieldF, epOf, indexAddrF, byteF, indexF, mapLen, lenF, cutF, sliceF, fillF, buildF, partsX, landV, buildSliceF, roomB, appVec, appendF, mmFrom, mmF, max2', min2', builtinF, convF, unF, pickF, nilChkF, extF, ptrsOf, callF, makeSliceF, sameD, keyOk, mapOb, mapEs, okV, lookF, lookupF, putE, mapPut, mapUpdateF, capsOf, allocF, boxF, convertF, makeFuncF, makeMapF, opF, reach, reachOf, AObj.live, closedB, nodupB, packO, packL, packX, backN, backG, backO, obL, backE, frzX, frzO, AV.vids, frzL, landC, touchF, D.cells, AV.oids0, AV.oids, AObj.oids, renG, renP, AV.ren0, AV.ren, envGet, envPut, envKeep, obGet, setEff, putV, St.put, stepS, keyChk, chkD, accD, Ex.block, AV.under, AObj.under, laysOf, roomFor, mkvO, frzG, szOk, killO, usedBy, tidyS, ghost, ghostE, normSt, resOf, allSome, one0, resultsF, finL, finishL, finish, endF, startEnv, chkC, backX, comeC, wpn_nil, wpn_seq, wpn_loop, wpn_seq_exit, wpn_loop_exit, wpn_seq_ret, wpn_loop_ret, wpn_block, wpn_post, wpk_skip, wpk_exit, wpk_ret, wpk_reg, wpk_seq, wpk_condT, wpk_block, wpk_loop, wpk_pre, wpk_post, wop_nil, wop_cons, wop_guard, St.know, envSet, cond_d, cond_bool, cond_int, cond_str, endE, endQ, freeB, disj, pushT, bitsW, int_beq, int_bne, eqS_def, Nat.testBit_eq_decide_div_mod_eq, fuelL_eq, ann0_lays, ann0_dd, elsOf_dsl, elsOf_dnils, toNat_succ, nn_succ, pos_succ, one_succ, T3, T4, T5, T9, T22, T26, T27, T30, T32, T34, T37, T39, T45, T46, T47, T48, T50, T52, T54, T56, T59, T61, T64, T66, T72, T73, T78, T99, T101, T103, T104, T107, T110, T113, T116, T154, T169, T171, T194, CT, hA]
    exact this
/-- The definition's errors of a list behind a list that has none. -/
def chkM : List Chg → List Chg → Int
  | _, [] => 0
  | pre, c :: r => if c.one = 0 then (if (pre.getLast?.any fun p => decide (0 < p.cmp c)) = true then 8 else if (pre.any fun p => decide (p.id = c.id)) = true then 9 else chkM (pre ++ [c]) r) else c.one
set_option maxRecDepth 20000 in
theorem check18_run (A : D) (l : List Chg) (hl : l.length < 1000) (hA : elsOf (.d A) = some (l.map Chg.enc)) : run CC 18 [.d A] [] = some (.d (.int .i64 (if 256 < (l.length : Int) then 6 else chkM [] l)), []) := by
  refine run_code (s := s18 0) rfl rfl rfl (by kernel_rfl) ?_
  simp [s18, TK.agg, constAV, evalAV, eqCells, EK.has, EK.hasAll, vecEls, elsR, AV.toD, toDs, AV.cells, AV.one, joinD, TyI.zeroD, OpR.of, binIntF, binStrF, eqF, negF, posF, binF, pelF, pvLoad, pelSet, pvStore, boxLoad, epLoad, loadF, boxStore, storeF, fieldAddrF, fieldF, epOf, indexAddrF, byteF, indexF, mapLen, lenF, cutF, sliceF, fillF, buildF, partsX, landV, buildSliceF, roomB, appVec, appendF, mmFrom, mmF, max2', min2', builtinF, convF, unF, pickF, nilChkF, extF, ptrsOf, callF, makeSliceF, sameD, keyOk, mapOb, mapEs, okV, lookF, lookupF, putE, mapPut, mapUpdateF, capsOf, allocF, boxF, convertF, makeFuncF, makeMapF, opF, reach, reachOf, AObj.live, closedB, nodupB, packO, packL, packX, backN, backG, backO, obL, backE, frzX, frzO, AV.vids, frzL, landC, touchF, D.cells, AV.oids0, AV.oids, AObj.oids, renG, renP, AV.ren0, AV.ren, envGet, envPut, envKeep, obGet, setEff, putV, St.put, stepS, keyChk, chkD, accD, Ex.block, AV.under, AObj.under, laysOf, roomFor, mkvO, frzG, szOk, killO, usedBy, tidyS, ghost, ghostE, normSt, resOf, allSome, one0, resultsF, finL, finishL, finish, endF, startEnv, chkC, backX, comeC, wpn_nil, wpn_seq, wpn_loop, wpn_seq_exit, wpn_loop_exit, wpn_seq_ret, wpn_loop_ret, wpn_block, wpn_post, wpk_skip, wpk_exit, wpk_ret, wpk_reg, wpk_seq, wpk_condT, wpk_block, wpk_loop, wpk_pre, wpk_post, wop_nil, wop_cons, wop_guard, St.know, envSet, cond_d, cond_bool, cond_int, cond_str, endE, endQ, freeB, disj, pushT, bitsW, int_beq, int_bne, eqS_def, Nat.testBit_eq_decide_div_mod_eq, fuelL_eq, ann0_lays, ann0_dd, elsOf_dsl, elsOf_dnils, toNat_succ, nn_succ, pos_succ, one_succ, T3, T4, T5, T9, T22, T26, T27, T30, T32, T34, T37, T39, T45, T46, T47, T48, T50, T52, T54, T56, T59, T61, T64, T66, T72, T73, T78, T99, T101, T103, T104, T107, T110, T113, T116, T154, T169, T171, T194, CT, hA]
  split
  · intro; omega
  rename_i h
  refine wlp_inv (S := fun p : List Chg × List Chg => ⟨[(0, .d A), (3, .d (.int .i64 p.1.length))], []⟩) (m := fun p => p.2.length) (Inv := fun p => p.1 ++ p.2 = l ∧ chkM p.1 p.2 = chkM [] l) ?_ ([], l) ⟨rfl, rfl⟩
  rintro ⟨pre, suf⟩ ⟨rfl, h2⟩ ih
  rw [e18_1]
  simp only at h2 ⊢
  rw [← h2] at ih ⊢
  clear h2
  cases suf with
  | nil => simp [c18_1, TK.agg, constAV, evalAV, eqCells, EK.has, EK.hasAll, vecEls, elsR, AV.toD, toDs, AV.cells, AV.one, joinD, TyI.zeroD, OpR.of, binIntF, binStrF, eqF, negF, posF, binF, pelF, pvLoad, pelSet, pvStore, boxLoad, epLoad, loadF, boxStore, storeF, fieldAddrF, fieldF, epOf, indexAddrF, byteF, indexF, mapLen, lenF, cutF, sliceF, fillF, buildF, partsX, landV, buildSliceF, roomB, appVec, appendF, mmFrom, mmF, max2', min2', builtinF, convF, unF, pickF, nilChkF, extF, ptrsOf, callF, makeSliceF, sameD, keyOk, mapOb, mapEs, okV, lookF, lookupF, putE, mapPut, mapUpdateF, capsOf, allocF, boxF, convertF, makeFuncF, makeMapF, opF, reach, reachOf, AObj.live, closedB, nodupB, packO, packL, packX, backN, backG, backO, obL, backE, frzX, frzO, AV.vids, frzL, landC, touchF, D.cells, AV.oids0, AV.oids, AObj.oids, renG, renP, AV.ren0, AV.ren, envGet, envPut, envKeep, obGet, setEff, putV, St.put, stepS, keyChk, chkD, accD, Ex.block, AV.under, AObj.under, laysOf, roomFor, mkvO, frzG, szOk, killO, usedBy, tidyS, ghost, ghostE, normSt, resOf, allSome, one0, resultsF, finL, finishL, finish, endF, startEnv, chkC, backX, comeC, wpn_nil, wpn_seq, wpn_loop, wpn_seq_exit, wpn_loop_exit, wpn_seq_ret, wpn_loop_ret, wpn_block, wpn_post, wpk_skip, wpk_exit, wpk_ret, wpk_reg, wpk_seq, wpk_condT, wpk_block, wpk_loop, wpk_pre, wpk_post, wop_nil, wop_cons, wop_guard, St.know, envSet, cond_d, cond_bool, cond_int, cond_str, endE, endQ, freeB, disj, pushT, bitsW, int_beq, int_bne, eqS_def, Nat.testBit_eq_decide_div_mod_eq, fuelL_eq, ann0_lays, ann0_dd, elsOf_dsl, elsOf_dnils, toNat_succ, nn_succ, pos_succ, one_succ, T3, T4, T5, T9, T22, T26, T27, T30, T32, T34, T37, T39, T45, T46, T47, T48, T50, T52, T54, T56, T59, T61, T64, T66, T72, T73, T78, T99, T101, T103, T104, T107, T110, T113, T116, T154, T169, T171, T194, CT, hA, chkM]
  | cons c suf =>
    have hw : IntKind.i64.wrap ((pre.length : Int) + 1) = (pre.length : Int) + 1 := wrap64 (by omega) (by simp at hl; omega)
    have hx : ((pre ++ c :: suf).map Chg.enc)[pre.length]? = some c.enc := by simp
    have ih := ih (pre ++ [c], suf)
    have htake : (pre ++ c :: suf).take pre.length = pre := by simp
    have hR1 : c.one ≠ 0 → chkM pre (c :: suf) = c.one := fun h => by simp [chkM, h]
    have hin := inner18 A (pre ++ c :: suf) c pre.length hl (by simp) hA
    simp only [Chg.enc] at hx
    simp at ih
    have hR0 : c.one = 0 → (pre.getLast?.any fun p => decide (0 < p.cmp c)) = false → (pre.any fun p => decide (p.id = c.id)) = true → chkM pre (c :: suf) = 9 := fun h1 h2 h3 => by simp only [chkM, h1, if_true, h2, h3, Bool.false_eq_true, if_false]
    have hR2 : c.one = 0 → (pre.getLast?.any fun p => decide (0 < p.cmp c)) = false → (pre.any fun p => decide (p.id = c.id)) = false → chkM (pre ++ [c]) suf = chkM pre (c :: suf) := fun h1 h2 h3 => by simp only [chkM, h1, if_true, h2, h3, Bool.false_eq_true, if_false]
    have hR3 : c.one = 0 → (pre.getLast?.any fun p => decide (0 < p.cmp c)) = true → chkM pre (c :: suf) = 8 := fun h1 h2 => by simp only [chkM, h1, if_true, h2]
    have key : c.one = 0 → (pre.getLast?.any fun p => decide (0 < p.cmp c)) = false → ∀ ks K, ks = [Fr.block 1, Fr.post (Gh.tidy [0, 3] 0 1),
        Fr.seq (SC.reg [⟨some 15, .move (.tmp 3), none, ann0⟩, ⟨some 16, .binOp .add 3 (.tmp 15) (.const (.int .i64 1)) 3, none, ann0⟩, ⟨some 3, .assign (.tmp 16), none, ann0⟩] none),
        Fr.post (Gh.tidy [0, 3] 0 0), Fr.loop (s18_1 0), Fr.block 0, Fr.post (Gh.tidy [] 0 0), Fr.post (Gh.tidy [] 0 0),
        Fr.seq ((SC.reg [⟨some 2, .assign (.const (.int .i64 0)), none, ann0⟩] none).seq SC.ret)] → K = endE TT [ResultVar.tmp 2] 0 (AV.d (D.int IntKind.i64 (chkM pre (c :: suf)))) [] →
        wlp CC (s18_2 0) ⟨[(0, .d A), (3, .d (.int .i64 pre.length)), (4, .ptr 0 0), (7, .d (.int .i64 0))], [.box [.d (.int .i64 c.id), .d (.int .i64 c.kind), .d (.int .i64 c.slot), .d (.str c.svc), .d (.str c.tgt), .d (.str c.ver)]]⟩ (.block 3 :: .post (.tidy [0, 3] 0 1) :: ks) K := by
      rintro h1 h2 ks K rfl rfl
      refine hin _ _ (fun hd st' h9 => ?_) fun hd => ?_
      · rw [htake] at hd
        simp [TK.agg, constAV, evalAV, eqCells, EK.has, EK.hasAll, vecEls, elsR, AV.toD, toDs, AV.cells, AV.one, joinD, TyI.zeroD, OpR.of, binIntF, binStrF, eqF, negF, posF, binF, pelF, pvLoad, pelSet, pvStore, boxLoad, epLoad, loadF, boxStore, storeF, fieldAddrF, fieldF, epOf, indexAddrF, byteF, indexF, mapLen, lenF, cutF, sliceF, fillF, buildF, partsX, landV, buildSliceF, roomB, appVec, appendF, mmFrom, mmF, max2', min2', builtinF, convF, unF, pickF, nilChkF, extF, ptrsOf, callF, makeSliceF, sameD, keyOk, mapOb, mapEs, okV, lookF, lookupF, putE, mapPut, mapUpdateF, capsOf, allocF, boxF, convertF, makeFuncF, makeMapF, opF, reach, reachOf, AObj.live, closedB, nodupB, packO, packL, packX, backN, backG, backO, obL, backE, frzX, frzO, AV.vids, frzL, landC, touchF, D.cells, AV.oids0, AV.oids, AObj.oids, renG, renP, AV.ren0, AV.ren, envGet, envPut, envKeep, obGet, setEff, putV, St.put, stepS, keyChk, chkD, accD, Ex.block, AV.under, AObj.under, laysOf, roomFor, mkvO, frzG, szOk, killO, usedBy, tidyS, ghost, ghostE, normSt, resOf, allSome, one0, resultsF, finL, finishL, finish, endF, startEnv, chkC, backX, comeC, wpn_nil, wpn_seq, wpn_loop, wpn_seq_exit, wpn_loop_exit, wpn_seq_ret, wpn_loop_ret, wpn_block, wpn_post, wpk_skip, wpk_exit, wpk_ret, wpk_reg, wpk_seq, wpk_condT, wpk_block, wpk_loop, wpk_pre, wpk_post, wop_nil, wop_cons, wop_guard, St.know, envSet, cond_d, cond_bool, cond_int, cond_str, endE, endQ, freeB, disj, pushT, bitsW, int_beq, int_bne, eqS_def, Nat.testBit_eq_decide_div_mod_eq, fuelL_eq, ann0_lays, ann0_dd, elsOf_dsl, elsOf_dnils, toNat_succ, nn_succ, pos_succ, one_succ, h9, hR0 h1 h2 hd]
      · rw [htake] at hd
        have := ih (hR2 h1 h2 hd)
        simp [TK.agg, constAV, evalAV, eqCells, EK.has, EK.hasAll, vecEls, elsR, AV.toD, toDs, AV.cells, AV.one, joinD, TyI.zeroD, OpR.of, binIntF, binStrF, eqF, negF, posF, binF, pelF, pvLoad, pelSet, pvStore, boxLoad, epLoad, loadF, boxStore, storeF, fieldAddrF, fieldF, epOf, indexAddrF, byteF, indexF, mapLen, lenF, cutF, sliceF, fillF, buildF, partsX, landV, buildSliceF, roomB, appVec, appendF, mmFrom, mmF, max2', min2', builtinF, convF, unF, pickF, nilChkF, extF, ptrsOf, callF, makeSliceF, sameD, keyOk, mapOb, mapEs, okV, lookF, lookupF, putE, mapPut, mapUpdateF, capsOf, allocF, boxF, convertF, makeFuncF, makeMapF, opF, reach, reachOf, AObj.live, closedB, nodupB, packO, packL, packX, backN, backG, backO, obL, backE, frzX, frzO, AV.vids, frzL, landC, touchF, D.cells, AV.oids0, AV.oids, AObj.oids, renG, renP, AV.ren0, AV.ren, envGet, envPut, envKeep, obGet, setEff, putV, St.put, stepS, keyChk, chkD, accD, Ex.block, AV.under, AObj.under, laysOf, roomFor, mkvO, frzG, szOk, killO, usedBy, tidyS, ghost, ghostE, normSt, resOf, allSome, one0, resultsF, finL, finishL, finish, endF, startEnv, chkC, backX, comeC, wpn_nil, wpn_seq, wpn_loop, wpn_seq_exit, wpn_loop_exit, wpn_seq_ret, wpn_loop_ret, wpn_block, wpn_post, wpk_skip, wpk_exit, wpk_ret, wpk_reg, wpk_seq, wpk_condT, wpk_block, wpk_loop, wpk_pre, wpk_post, wop_nil, wop_cons, wop_guard, St.know, envSet, cond_d, cond_bool, cond_int, cond_str, endE, endQ, freeB, disj, pushT, bitsW, int_beq, int_bne, eqS_def, Nat.testBit_eq_decide_div_mod_eq, fuelL_eq, ann0_lays, ann0_dd, elsOf_dsl, elsOf_dnils, toNat_succ, nn_succ, pos_succ, one_succ, T3, T4, T5, T9, T22, T26, T27, T30, T32, T34, T37, T39, T45, T46, T47, T48, T50, T52, T54, T56, T59, T61, T64, T66, T72, T73, T78, T99, T101, T103, T104, T107, T110, T113, T116, T154, T169, T171, T194, CT, hw]
        exact this
    have hR1' : c.one ≠ 0 → c.one = chkM pre (c :: suf) := fun h => (hR1 h).symm
    rcases List.eq_nil_or_concat pre with rfl | ⟨pre', p, hpp⟩
    · simp at hx hw hA
      have key := fun h1 => key h1 (by simp) _ _ rfl rfl
      generalize chkM [] (c :: suf) = R at *
      clear hR0 hR2 hR3 hin ih hR1
      simp [c18_1, TK.agg, constAV, evalAV, eqCells, EK.has, EK.hasAll, vecEls, elsR, AV.toD, toDs, AV.cells, AV.one, joinD, TyI.zeroD, OpR.of, binIntF, binStrF, eqF, negF, posF, binF, pelF, pvLoad, pelSet, pvStore, boxLoad, epLoad, loadF, boxStore, storeF, fieldAddrF, fieldF, epOf, indexAddrF, byteF, indexF, mapLen, lenF, cutF, sliceF, fillF, buildF, partsX, landV, buildSliceF, roomB, appVec, appendF, mmFrom, mmF, max2', min2', builtinF, convF, unF, pickF, nilChkF, extF, ptrsOf, callF, makeSliceF, sameD, keyOk, mapOb, mapEs, okV, lookF, lookupF, putE, mapPut, mapUpdateF, capsOf, allocF, boxF, convertF, makeFuncF, makeMapF, opF, reach, reachOf, AObj.live, closedB, nodupB, packO, packL, packX, backN, backG, backO, obL, backE, frzX, frzO, AV.vids, frzL, landC, touchF, D.cells, AV.oids0, AV.oids, AObj.oids, renG, renP, AV.ren0, AV.ren, envGet, envPut, envKeep, obGet, setEff, putV, St.put, stepS, keyChk, chkD, accD, Ex.block, AV.under, AObj.under, laysOf, roomFor, mkvO, frzG, szOk, killO, usedBy, tidyS, ghost, ghostE, normSt, resOf, allSome, one0, resultsF, finL, finishL, finish, endF, startEnv, chkC, backX, comeC, wpn_nil, wpn_seq, wpn_loop, wpn_seq_exit, wpn_loop_exit, wpn_seq_ret, wpn_loop_ret, wpn_block, wpn_post, wpk_skip, wpk_exit, wpk_ret, wpk_reg, wpk_seq, wpk_condT, wpk_block, wpk_loop, wpk_pre, wpk_post, wop_nil, wop_cons, wop_guard, St.know, envSet, cond_d, cond_bool, cond_int, cond_str, endE, endQ, freeB, disj, pushT, bitsW, int_beq, int_bne, eqS_def, Nat.testBit_eq_decide_div_mod_eq, fuelL_eq, ann0_lays, ann0_dd, elsOf_dsl, elsOf_dnils, toNat_succ, nn_succ, pos_succ, one_succ, T3, T4, T5, T9, T22, T26, T27, T30, T32, T34, T37, T39, T45, T46, T47, T48, T50, T52, T54, T56, T59, T61, T64, T66, T72, T73, T78, T99, T101, T103, T104, T107, T110, T113, T116, T154, T169, T171, T194, CT, hA, hx, hw, isName_run, isEmp_def]
      repeat' refine ifI (fun h => ?_) (fun h => ?_)
      all_goals first
        | (refine key ?_; clear key; grind [Chg.one, Chg.must, Chg.other])
        | (clear key; refine Eq.trans ?_ (hR1' ?_) <;> grind [Chg.one, Chg.must, Chg.other])
    · rw [List.concat_eq_append] at hpp
      subst hpp
      have hl' : ((pre'.length : Int) + (suf.length + 1 + 1)) < 1000 := by simp at hl; omega
      have hcmp := compare16_run p c
      have hm : IntKind.i64.wrap (pre'.length : Int) = (pre'.length : Int) := by rw [wrap64] <;> omega
      have hpx : ((pre' ++ [p] ++ c :: suf).map Chg.enc)[pre'.length]? = some p.enc := by simp
      have hlast : ((pre' ++ [p]).getLast?.any fun q => decide (0 < q.cmp c)) = decide (0 < p.cmp c) := by simp
      rw [hlast] at hR3
      have key := fun h1 h2 => key h1 (by rw [hlast]; simpa using h2) _ _ rfl rfl
      simp only [Chg.enc] at hpx hcmp
      simp at hx hw hA hpx key
      generalize chkM (pre' ++ [p]) (c :: suf) = R at *
      have hR3' : c.one = 0 → 0 < p.cmp c → 8 = R := fun h1 h2 => (hR3 h1 (by simpa using h2)).symm
      clear hR0 hR2 hR3 hin ih hR1 hlast htake
      generalize hq : p.cmp c = q at *
      simp [c18_1, TK.agg, constAV, evalAV, eqCells, EK.has, EK.hasAll, vecEls, elsR, AV.toD, toDs, AV.cells, AV.one, joinD, TyI.zeroD, OpR.of, binIntF, binStrF, eqF, negF, posF, binF, pelF, pvLoad, pelSet, pvStore, boxLoad, epLoad, loadF, boxStore, storeF, fieldAddrF, fieldF, epOf, indexAddrF, byteF, indexF, mapLen, lenF, cutF, sliceF, fillF, buildF, partsX, landV, buildSliceF, roomB, appVec, appendF, mmFrom, mmF, max2', min2', builtinF, convF, unF, pickF, nilChkF, extF, ptrsOf, callF, makeSliceF, sameD, keyOk, mapOb, mapEs, okV, lookF, lookupF, putE, mapPut, mapUpdateF, capsOf, allocF, boxF, convertF, makeFuncF, makeMapF, opF, reach, reachOf, AObj.live, closedB, nodupB, packO, packL, packX, backN, backG, backO, obL, backE, frzX, frzO, AV.vids, frzL, landC, touchF, D.cells, AV.oids0, AV.oids, AObj.oids, renG, renP, AV.ren0, AV.ren, envGet, envPut, envKeep, obGet, setEff, putV, St.put, stepS, keyChk, chkD, accD, Ex.block, AV.under, AObj.under, laysOf, roomFor, mkvO, frzG, szOk, killO, usedBy, tidyS, ghost, ghostE, normSt, resOf, allSome, one0, resultsF, finL, finishL, finish, endF, startEnv, chkC, backX, comeC, wpn_nil, wpn_seq, wpn_loop, wpn_seq_exit, wpn_loop_exit, wpn_seq_ret, wpn_loop_ret, wpn_block, wpn_post, wpk_skip, wpk_exit, wpk_ret, wpk_reg, wpk_seq, wpk_condT, wpk_block, wpk_loop, wpk_pre, wpk_post, wop_nil, wop_cons, wop_guard, St.know, envSet, cond_d, cond_bool, cond_int, cond_str, endE, endQ, freeB, disj, pushT, bitsW, int_beq, int_bne, eqS_def, Nat.testBit_eq_decide_div_mod_eq, fuelL_eq, ann0_lays, ann0_dd, elsOf_dsl, elsOf_dnils, toNat_succ, nn_succ, pos_succ, one_succ, T3, T4, T5, T9, T22, T26, T27, T30, T32, T34, T37, T39, T45, T46, T47, T48, T50, T52, T54, T56, T59, T61, T64, T66, T72, T73, T78, T99, T101, T103, T104, T107, T110, T113, T116, T154, T169, T171, T194, CT, hA, hx, hw, isName_run, isEmp_def, hm, hpx, hcmp]
      repeat' refine ifI (fun h => ?_) (fun h => ?_)
      all_goals first
        | (refine hR3' ?_ ?_ <;> clear key <;> first | assumption | grind [Chg.one, Chg.must, Chg.other])
        | (refine key ?_ ?_ <;> clear key <;> grind [Chg.one, Chg.must, Chg.other])
        | (clear key; refine Eq.trans ?_ (hR1' ?_) <;> grind [Chg.one, Chg.must, Chg.other])
end Go.Proofs.YteidaaobppjlbaaV
