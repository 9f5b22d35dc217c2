/- The described input of a rule. -/
import Derived.Test.YtpooehcjchkbkaaWc49m
set_option linter.unusedVariables false
set_option linter.unusedSimpArgs false
namespace Go.Proofs.YtpooehcjchkbkaaV
open Go.RowKit
structure Loa where
  (frm : Int) (sl : D) (slots : List (Int × Int))
def encP (p : Int × Int) : D := .agg [.int .u8 p.1, .int .u8 p.2]
def Loa.enc (x : Loa) : D := .agg [.int .u8 x.frm, x.sl]
structure Loa.ok (x : Loa) : Prop where
  frm : isU8 x.frm
  sl : elsOf (.d x.sl) = some (x.slots.map encP)
  len : x.slots.length < 4611686018427387904
  all : ∀ p ∈ x.slots, isU8 p.1 ∧ isU8 p.2
def trfL (l : List (Int × Int)) : List Int := l.map (·.1)
def errL (l : List (Int × Int)) : List Int := l.map fun p => if p.2 < p.1 then p.2 else p.1
def apiB : ByteArray := ⟨#[97, 112, 105]⟩
def serM (m frm : Int) (l : List Int) : Ser := ⟨apiB, ⟨#[]⟩, m, 0, 0, frm, .sl (l.map (D.int .i64)), l⟩
def Loa.err (x : Loa) : Ser := serM 2 x.frm (errL (x.slots.take 16))
def Loa.trf (x : Loa) : Ser := serM 1 x.frm (trfL (x.slots.take 16))
theorem serM_ok {m frm : Int} {l : List Int} (hf : isI64 frm) (hl : l.length < 4611686018427387904) : (serM m frm l).ok :=
  ⟨by unfold isI64 serM; simp, by unfold isI64 serM; simp, hf, rfl, hl⟩
theorem api_name : run CC 34 [.d (.str apiB)] [] = some (.d (.bool true), []) := by
  rw [isName_run]
  have : isName apiB = true := by decide +kernel
  rw [this]
set_option maxRecDepth 100000 in
theorem serIn_run (m frm : Int) (l : List Int) (hm : m = 1 ∨ m = 2) (hf : 0 ≤ frm ∧ frm ≤ 1000000) (hl : l.length ≤ 1024) (hb : l.any badV = false) : SerE (serM m frm l) 0 := by
  refine ⟨fun _ => ⟨hb, hl, hf.1, by show frm ≤ _; omega⟩, ?_⟩
  refine run_code (s := s36 0) rfl rfl rfl (by kernel_rfl) ?_
  have hany := anyV_run (.sl (l.map (D.int .i64))) l (by omega) rfl
  have hn := api_name
  have w1 : IntKind.i64.wrap (frm + l.length) = frm + l.length := wrap64 (by omega) (by omega)
  have n1 : ¬ frm < 0 := by omega
  have n2 : ¬ 1048576 < frm := by omega
  have n3 : ¬ 1024 < l.length := by omega
  have n3' : ¬ 1024 < (l.length : Int) := by omega
  have n4 : ¬ 1048577 < frm + l.length := by omega
  have z : (⟨#[]⟩ : ByteArray).size = 0 := rfl
  have e0 : isEmp ⟨#[]⟩ = true := by decide +kernel
  rcases hm with hm | hm
  · subst hm
    simp [s36, TK.agg, constAV, evalAV, eqCells, EK.has, EK.hasAll, vecEls, elsR, AV.toD, toDs, AV.cells, AV.one, joinD, TyI.zeroD, OpR.of, binIntF, binStrF, AV.isPtr, ptrNil, slNil, mpNil, nilE, eqF, negF, posF, binF, pelF, pvLoad, pelSet, pvStore, boxLoad, epLoad, loadF, boxStore, storeF, fieldAddrF, fieldF, epOf, indexAddrF, byteF, indexF, mapLen, lenF, cutF, sliceF, isSl, slice3F, fillF, arrFs, buildF, partsX, landV, buildSliceF, roomB, appVec, appendF, mmFrom, mmF, max2', min2', clearVec, clearF, builtinF, convF, unF, pickF, nilChkF, extF, ptrsOf, callF, makeSliceF, sameD, keyOk, mapOb, mapEs, okV, lookF, lookupF, putE, mapPut, mapUpdateF, capsOf, allocF, boxF, convertF, makeFuncF, makeMapF, opF, reach, reachOf, AObj.live, closedB, nodupB, packO, packL, packX, backN, backG, backO, obL, backE, frzX, frzO, AV.vids, frzL, landC, sameObs, landR, touchF, D.cells, D.decEq, D.decEqs, AV.decEq, AV.decEqs, AObj.decEq, AV.oids0, AV.oids, AObj.oids, renG, renP, AV.ren0, AV.ren, envGet, envPut, envKeep, obGet, setEff, putV, St.put, stepS, keyChk, chkD, accD, Ex.block, AV.under, AObj.under, laysOf, roomFor, mkvO, frzG, szOk, killO, usedBy, tidyS, ghost, ghostE, normSt, resOf, allSome, one0, resultsF, finL, finishL, finish, endF, startEnv, chkC, backX, comeC, wpn_nil, wpn_seq, wpn_loop, wpn_seq_exit, wpn_loop_exit, wpn_seq_ret, wpn_loop_ret, wpn_block, wpn_post, wpk_skip, wpk_exit, wpk_ret, wpk_reg, wpk_seq, wpk_condT, wpk_block, wpk_loop, wpk_pre, wpk_post, wop_nil, wop_cons, wop_guard, St.know, envSet, cond_d, cond_bool, cond_int, cond_str, endE, endQ, freeB, disj, pushT, bitsW, int_beq, int_bne, eqS_def, Nat.testBit_eq_decide_div_mod_eq, fuelL_eq, ann0_lays, ann0_dd, ann0_ro, elsOf_dsl, elsOf_dnils, toNat_succ, nn_succ, pos_succ, one_succ, rng1, rng2, rng3, rng4, rng5, rng6, rng7, rng8, List.idxOf_cons, T3, T4, T5, T9, T23, T25, T27, T32, T33, T35, T39, T50, T52, T57, T59, T64, T65, T66, T70, T71, T77, T81, T83, T88, T89, T91, T95, T97, T99, T100, T112, CT, CQ, QQ, serM, Ser.enc, isEmp_def, e0, hn, hany, hb, w1, n1, n2, n3, n3', n4]
  · subst hm
    simp [s36, TK.agg, constAV, evalAV, eqCells, EK.has, EK.hasAll, vecEls, elsR, AV.toD, toDs, AV.cells, AV.one, joinD, TyI.zeroD, OpR.of, binIntF, binStrF, AV.isPtr, ptrNil, slNil, mpNil, nilE, eqF, negF, posF, binF, pelF, pvLoad, pelSet, pvStore, boxLoad, epLoad, loadF, boxStore, storeF, fieldAddrF, fieldF, epOf, indexAddrF, byteF, indexF, mapLen, lenF, cutF, sliceF, isSl, slice3F, fillF, arrFs, buildF, partsX, landV, buildSliceF, roomB, appVec, appendF, mmFrom, mmF, max2', min2', clearVec, clearF, builtinF, convF, unF, pickF, nilChkF, extF, ptrsOf, callF, makeSliceF, sameD, keyOk, mapOb, mapEs, okV, lookF, lookupF, putE, mapPut, mapUpdateF, capsOf, allocF, boxF, convertF, makeFuncF, makeMapF, opF, reach, reachOf, AObj.live, closedB, nodupB, packO, packL, packX, backN, backG, backO, obL, backE, frzX, frzO, AV.vids, frzL, landC, sameObs, landR, touchF, D.cells, D.decEq, D.decEqs, AV.decEq, AV.decEqs, AObj.decEq, AV.oids0, AV.oids, AObj.oids, renG, renP, AV.ren0, AV.ren, envGet, envPut, envKeep, obGet, setEff, putV, St.put, stepS, keyChk, chkD, accD, Ex.block, AV.under, AObj.under, laysOf, roomFor, mkvO, frzG, szOk, killO, usedBy, tidyS, ghost, ghostE, normSt, resOf, allSome, one0, resultsF, finL, finishL, finish, endF, startEnv, chkC, backX, comeC, wpn_nil, wpn_seq, wpn_loop, wpn_seq_exit, wpn_loop_exit, wpn_seq_ret, wpn_loop_ret, wpn_block, wpn_post, wpk_skip, wpk_exit, wpk_ret, wpk_reg, wpk_seq, wpk_condT, wpk_block, wpk_loop, wpk_pre, wpk_post, wop_nil, wop_cons, wop_guard, St.know, envSet, cond_d, cond_bool, cond_int, cond_str, endE, endQ, freeB, disj, pushT, bitsW, int_beq, int_bne, eqS_def, Nat.testBit_eq_decide_div_mod_eq, fuelL_eq, ann0_lays, ann0_dd, ann0_ro, elsOf_dsl, elsOf_dnils, toNat_succ, nn_succ, pos_succ, one_succ, rng1, rng2, rng3, rng4, rng5, rng6, rng7, rng8, List.idxOf_cons, T3, T4, T5, T9, T23, T25, T27, T32, T33, T35, T39, T50, T52, T57, T59, T64, T65, T66, T70, T71, T77, T81, T83, T88, T89, T91, T95, T97, T99, T100, T112, CT, CQ, QQ, serM, Ser.enc, isEmp_def, e0, hn, hany, hb, w1, n1, n2, n3, n3', n4]
def okP (l : List (Int × Int)) : Prop := ∀ p ∈ l, isU8 p.1 ∧ isU8 p.2
theorem okP_take {l : List (Int × Int)} (h : okP l) (n : Nat) : okP (l.take n) := fun p hp => h p (List.mem_of_mem_take hp)
theorem errL_bad : ∀ (l : List (Int × Int)), okP l → (errL l).any badV = false
  | [], _ => rfl
  | a :: l, h => by
    have h1 := h a (by simp)
    have h2 := errL_bad l fun x hx => h x (by simp [hx])
    unfold isU8 at h1
    simp only [errL, List.map_cons, List.any_cons]
    simp only [errL] at h2
    rw [h2]
    simp [badV]
    split <;> omega
theorem trfL_bad : ∀ (l : List (Int × Int)), okP l → (trfL l).any badV = false
  | [], _ => rfl
  | a :: l, h => by
    have h1 := h a (by simp)
    have h2 := trfL_bad l fun x hx => h x (by simp [hx])
    unfold isU8 at h1
    simp only [trfL, List.map_cons, List.any_cons]
    simp only [trfL] at h2
    rw [h2]
    simp [badV]
    omega
theorem errL_gt : ∀ (l : List (Int × Int)), gtAny (errL l) (trfL l) = false
  | [] => rfl
  | a :: l => by
    have h2 := errL_gt l
    simp only [errL, trfL] at h2
    simp only [errL, trfL, List.map_cons, gtAny, h2, Bool.or_false, decide_eq_false_iff_not]
    split <;> omega
theorem trfL_sum : ∀ (l : List (Int × Int)), okP l → sumL (trfL l) ≤ 256 * l.length
  | [], _ => by simp [trfL, sumL]
  | a :: l, h => by
    have h1 := h a (by simp)
    have h2 := trfL_sum l fun x hx => h x (by simp [hx])
    unfold isU8 at h1
    simp only [trfL] at h2
    simp only [trfL, List.map_cons, sumL, List.length_cons]
    omega
theorem chk_in (x : Lim) (hx : x.ok) (f : Int) (l : List (Int × Int)) (hl : l.length ≤ 16) (h : okP l) : chkI x.rul 0 0 (serM 2 f (errL l)) (serM 1 f (trfL l)) = 0 := by
  have h1 := rul_ok x hx
  have h2 : okC x.rul (serM 2 f (errL l)) (serM 1 f (trfL l)) = true := by
    have e1 : eqS apiB x.rul.svc = true := by
      show eqS apiB apiB = true
      decide +kernel
    have e2 : eqS ⟨#[]⟩ x.rul.op = true := by
      show eqS ⟨#[]⟩ ⟨#[]⟩ = true
      decide +kernel
    simp [okC, serM, e1, e2, errL, trfL]
  have h3 := trfL_sum l h
  have h4 := errL_gt l
  unfold chkI
  rw [if_neg (by simp [h1]), if_neg (by simp), if_neg (by simp), if_neg (by simp [serM]), if_neg (by simp [h2]), if_neg (by show ¬ gtAny (errL l) (trfL l) = true; simp [h4]), if_neg (by show ¬ _ < sumL (trfL l); omega)]
theorem errL_snoc (l : List (Int × Int)) (c : Int × Int) : errL (l ++ [c]) = errL l ++ [if c.2 < c.1 then c.2 else c.1] := by simp [errL]
theorem trfL_snoc (l : List (Int × Int)) (c : Int × Int) : trfL (l ++ [c]) = trfL l ++ [c.1] := by simp [trfL]
abbrev bxM (m f : Int) (y : AV) : AObj := .box [.d (.str ⟨#[97, 112, 105]⟩), .d (.str ⟨#[]⟩), .d (.int .i64 m), .d (.int .i64 0), .d (.int .i64 0), .d (.int .i64 f), y]
set_option maxRecDepth 100000 in
set_option maxHeartbeats 1000000 in
theorem input26_run (x : Loa) (hx : x.ok) : run CC 26 [.d x.enc] [] = some (.tup [.d x.err.enc, .d x.trf.enc], []) := by
  refine run_code (s := s26 0) rfl rfl rfl (by kernel_rfl) ?_
  have hA := hx.sl
  obtain ⟨a1, a2, a3⟩ := slF hA
  simp only [AV.one, AV.cells, D.cells] at a1 a2 a3
  have hf := hx.frm
  unfold isU8 at hf
  have wf : IntKind.i64.wrap x.frm = x.frm := wrap64 (by omega) (by omega)
  simp [s26, TK.agg, constAV, evalAV, eqCells, EK.has, EK.hasAll, vecEls, elsR, AV.toD, toDs, AV.cells, AV.one, joinD, TyI.zeroD, OpR.of, binIntF, binStrF, AV.isPtr, ptrNil, slNil, mpNil, nilE, eqF, negF, posF, binF, pelF, pvLoad, pelSet, pvStore, boxLoad, epLoad, loadF, boxStore, storeF, fieldAddrF, fieldF, epOf, indexAddrF, byteF, indexF, mapLen, lenF, cutF, sliceF, isSl, slice3F, fillF, arrFs, buildF, partsX, landV, buildSliceF, roomB, appVec, appendF, mmFrom, mmF, max2', min2', clearVec, clearF, builtinF, convF, unF, pickF, nilChkF, extF, ptrsOf, callF, makeSliceF, sameD, keyOk, mapOb, mapEs, okV, lookF, lookupF, putE, mapPut, mapUpdateF, capsOf, allocF, boxF, convertF, makeFuncF, makeMapF, opF, reach, reachOf, AObj.live, closedB, nodupB, packO, packL, packX, backN, backG, backO, obL, backE, frzX, frzO, AV.vids, frzL, landC, sameObs, landR, touchF, D.cells, D.decEq, D.decEqs, AV.decEq, AV.decEqs, AObj.decEq, AV.oids0, AV.oids, AObj.oids, renG, renP, AV.ren0, AV.ren, envGet, envPut, envKeep, obGet, setEff, putV, St.put, stepS, keyChk, chkD, accD, Ex.block, AV.under, AObj.under, laysOf, roomFor, mkvO, frzG, szOk, killO, usedBy, tidyS, ghost, ghostE, normSt, resOf, allSome, one0, resultsF, finL, finishL, finish, endF, startEnv, chkC, backX, comeC, wpn_nil, wpn_seq, wpn_loop, wpn_seq_exit, wpn_loop_exit, wpn_seq_ret, wpn_loop_ret, wpn_block, wpn_post, wpk_skip, wpk_exit, wpk_ret, wpk_reg, wpk_seq, wpk_condT, wpk_block, wpk_loop, wpk_pre, wpk_post, wop_nil, wop_cons, wop_guard, St.know, envSet, cond_d, cond_bool, cond_int, cond_str, endE, endQ, freeB, disj, pushT, bitsW, int_beq, int_bne, eqS_def, Nat.testBit_eq_decide_div_mod_eq, fuelL_eq, ann0_lays, ann0_dd, ann0_ro, elsOf_dsl, elsOf_dnils, toNat_succ, nn_succ, pos_succ, one_succ, rng1, rng2, rng3, rng4, rng5, rng6, rng7, rng8, List.idxOf_cons, T3, T4, T5, T9, T23, T25, T27, T32, T33, T35, T39, T50, T52, T57, T59, T64, T65, T66, T70, T71, T77, T81, T83, T88, T89, T91, T95, T97, T99, T100, T112, CT, Loa.enc, hA, a1, a2, a3, wf]
  refine wlp_inv (S := fun p : List (Int × Int) × List (Int × Int) => ⟨[(1, .ptr 0 0), (2, .ptr 1 0), (3, .ptr 2 0), (4, .d (.int .i64 p.1.length))], [.box [.d (.int .u8 x.frm), .d x.sl], bxM 2 x.frm (.vs 3 0 1 0 p.1.length), bxM 1 x.frm (.vs 4 0 1 0 p.1.length), .vec 0 true false 3 1 ((errL p.1).map (D.int .i64)), .vec 0 true false 3 1 ((trfL p.1).map (D.int .i64))]⟩) (m := fun p => p.2.length)
    (Inv := fun p => p.1 ++ p.2 = x.slots.take 16) ?_ ([], x.slots.take 16) rfl
  rintro ⟨p1, s1⟩ g1 ih
  rw [e26_1]
  simp only at g1 ⊢
  have hlen : p1.length + s1.length = min 16 x.slots.length := by rw [← List.length_append, g1, List.length_take]
  have tk1 : ((errL p1).map (D.int .i64)).take p1.length = (errL p1).map (D.int .i64) := List.take_of_length_le (by simp [errL])
  have tk2 : ((trfL p1).map (D.int .i64)).take p1.length = (trfL p1).map (D.int .i64) := List.take_of_length_le (by simp [trfL])
  have le1 : (errL p1).length = p1.length := by simp [errL]
  have le2 : (trfL p1).length = p1.length := by simp [trfL]
  cases s1 with
  | nil =>
    rw [List.append_nil] at g1
    simp only [List.length_nil, Nat.add_zero] at hlen
    have he : x.err = serM 2 x.frm (errL p1) := by rw [Loa.err, g1]
    have ht : x.trf = serM 1 x.frm (trfL p1) := by rw [Loa.trf, g1]
    rw [he, ht]
    by_cases q : (p1.length : Int) < x.slots.length
    · have q2 : ¬ (p1.length : Int) < 16 := by omega
      simp [c26_1, TK.agg, constAV, evalAV, eqCells, EK.has, EK.hasAll, vecEls, elsR, AV.toD, toDs, AV.cells, AV.one, joinD, TyI.zeroD, OpR.of, binIntF, binStrF, AV.isPtr, ptrNil, slNil, mpNil, nilE, eqF, negF, posF, binF, pelF, pvLoad, pelSet, pvStore, boxLoad, epLoad, loadF, boxStore, storeF, fieldAddrF, fieldF, epOf, indexAddrF, byteF, indexF, mapLen, lenF, cutF, sliceF, isSl, slice3F, fillF, arrFs, buildF, partsX, landV, buildSliceF, roomB, appVec, appendF, mmFrom, mmF, max2', min2', clearVec, clearF, builtinF, convF, unF, pickF, nilChkF, extF, ptrsOf, callF, makeSliceF, sameD, keyOk, mapOb, mapEs, okV, lookF, lookupF, putE, mapPut, mapUpdateF, capsOf, allocF, boxF, convertF, makeFuncF, makeMapF, opF, reach, reachOf, AObj.live, closedB, nodupB, packO, packL, packX, backN, backG, backO, obL, backE, frzX, frzO, AV.vids, frzL, landC, sameObs, landR, touchF, D.cells, D.decEq, D.decEqs, AV.decEq, AV.decEqs, AObj.decEq, AV.oids0, AV.oids, AObj.oids, renG, renP, AV.ren0, AV.ren, envGet, envPut, envKeep, obGet, setEff, putV, St.put, stepS, keyChk, chkD, accD, Ex.block, AV.under, AObj.under, laysOf, roomFor, mkvO, frzG, szOk, killO, usedBy, tidyS, ghost, ghostE, normSt, resOf, allSome, one0, resultsF, finL, finishL, finish, endF, startEnv, chkC, backX, comeC, wpn_nil, wpn_seq, wpn_loop, wpn_seq_exit, wpn_loop_exit, wpn_seq_ret, wpn_loop_ret, wpn_block, wpn_post, wpk_skip, wpk_exit, wpk_ret, wpk_reg, wpk_seq, wpk_condT, wpk_block, wpk_loop, wpk_pre, wpk_post, wop_nil, wop_cons, wop_guard, St.know, envSet, cond_d, cond_bool, cond_int, cond_str, endE, endQ, freeB, disj, pushT, bitsW, int_beq, int_bne, eqS_def, Nat.testBit_eq_decide_div_mod_eq, fuelL_eq, ann0_lays, ann0_dd, ann0_ro, elsOf_dsl, elsOf_dnils, toNat_succ, nn_succ, pos_succ, one_succ, rng1, rng2, rng3, rng4, rng5, rng6, rng7, rng8, List.idxOf_cons, T3, T4, T5, T9, T23, T25, T27, T32, T33, T35, T39, T50, T52, T57, T59, T64, T65, T66, T70, T71, T77, T81, T83, T88, T89, T91, T95, T97, T99, T100, T112, CT, Loa.enc, hA, a1, a2, a3, q, q2, tk1, tk2, le1, le2, serM, Ser.enc, apiB]
    · have q' : ¬ p1.length < x.slots.length := by omega
      simp [c26_1, TK.agg, constAV, evalAV, eqCells, EK.has, EK.hasAll, vecEls, elsR, AV.toD, toDs, AV.cells, AV.one, joinD, TyI.zeroD, OpR.of, binIntF, binStrF, AV.isPtr, ptrNil, slNil, mpNil, nilE, eqF, negF, posF, binF, pelF, pvLoad, pelSet, pvStore, boxLoad, epLoad, loadF, boxStore, storeF, fieldAddrF, fieldF, epOf, indexAddrF, byteF, indexF, mapLen, lenF, cutF, sliceF, isSl, slice3F, fillF, arrFs, buildF, partsX, landV, buildSliceF, roomB, appVec, appendF, mmFrom, mmF, max2', min2', clearVec, clearF, builtinF, convF, unF, pickF, nilChkF, extF, ptrsOf, callF, makeSliceF, sameD, keyOk, mapOb, mapEs, okV, lookF, lookupF, putE, mapPut, mapUpdateF, capsOf, allocF, boxF, convertF, makeFuncF, makeMapF, opF, reach, reachOf, AObj.live, closedB, nodupB, packO, packL, packX, backN, backG, backO, obL, backE, frzX, frzO, AV.vids, frzL, landC, sameObs, landR, touchF, D.cells, D.decEq, D.decEqs, AV.decEq, AV.decEqs, AObj.decEq, AV.oids0, AV.oids, AObj.oids, renG, renP, AV.ren0, AV.ren, envGet, envPut, envKeep, obGet, setEff, putV, St.put, stepS, keyChk, chkD, accD, Ex.block, AV.under, AObj.under, laysOf, roomFor, mkvO, frzG, szOk, killO, usedBy, tidyS, ghost, ghostE, normSt, resOf, allSome, one0, resultsF, finL, finishL, finish, endF, startEnv, chkC, backX, comeC, wpn_nil, wpn_seq, wpn_loop, wpn_seq_exit, wpn_loop_exit, wpn_seq_ret, wpn_loop_ret, wpn_block, wpn_post, wpk_skip, wpk_exit, wpk_ret, wpk_reg, wpk_seq, wpk_condT, wpk_block, wpk_loop, wpk_pre, wpk_post, wop_nil, wop_cons, wop_guard, St.know, envSet, cond_d, cond_bool, cond_int, cond_str, endE, endQ, freeB, disj, pushT, bitsW, int_beq, int_bne, eqS_def, Nat.testBit_eq_decide_div_mod_eq, fuelL_eq, ann0_lays, ann0_dd, ann0_ro, elsOf_dsl, elsOf_dnils, toNat_succ, nn_succ, pos_succ, one_succ, rng1, rng2, rng3, rng4, rng5, rng6, rng7, rng8, List.idxOf_cons, T3, T4, T5, T9, T23, T25, T27, T32, T33, T35, T39, T50, T52, T57, T59, T64, T65, T66, T70, T71, T77, T81, T83, T88, T89, T91, T95, T97, T99, T100, T112, CT, Loa.enc, hA, a1, a2, a3, q, q', tk1, tk2, le1, le2, serM, Ser.enc, apiB]
  | cons c s1 =>
    simp only [List.length_cons] at hlen
    have e1 : p1 ++ c :: (s1 ++ x.slots.drop 16) = x.slots := by
      rw [show p1 ++ c :: (s1 ++ x.slots.drop 16) = (p1 ++ c :: s1) ++ x.slots.drop 16 by simp, g1, List.take_append_drop]
    obtain ⟨k1, k2, k3, k4, k5, k6⟩ := atL encP e1 hx.len
    have kg := getL k5 k4
    have k4' : (p1.length : Int) < x.slots.length := by omega
    have q2 : (p1.length : Int) < 16 := by omega
    have q2' : p1.length < 16 := by omega
    have hc := hx.all c (List.mem_of_getElem? k5)
    unfold isU8 at hc
    have w1 : IntKind.i64.wrap c.1 = c.1 := wrap64 (by omega) (by omega)
    have w2 : IntKind.i64.wrap c.2 = c.2 := wrap64 (by omega) (by omega)
    have r1 : (p1.length + 1) * 8 ≤ 140737488355328 := by omega
    have r2 : p1.length ≤ 9223372036854775806 := by omega
    have sz : ∀ n : Int, szAll 1 [D.int .i64 n] = true := fun _ => rfl
    have ih := ih (p1 ++ [c], s1) (by simpa using g1) (by simp)
    by_cases q3 : c.2 < c.1
    · simp [errL_snoc, trfL_snoc, q3] at ih
      simp [c26_1, TK.agg, constAV, evalAV, eqCells, EK.has, EK.hasAll, vecEls, elsR, AV.toD, toDs, AV.cells, AV.one, joinD, TyI.zeroD, OpR.of, binIntF, binStrF, AV.isPtr, ptrNil, slNil, mpNil, nilE, eqF, negF, posF, binF, pelF, pvLoad, pelSet, pvStore, boxLoad, epLoad, loadF, boxStore, storeF, fieldAddrF, fieldF, epOf, indexAddrF, byteF, indexF, mapLen, lenF, cutF, sliceF, isSl, slice3F, fillF, arrFs, buildF, partsX, landV, buildSliceF, roomB, appVec, appendF, mmFrom, mmF, max2', min2', clearVec, clearF, builtinF, convF, unF, pickF, nilChkF, extF, ptrsOf, callF, makeSliceF, sameD, keyOk, mapOb, mapEs, okV, lookF, lookupF, putE, mapPut, mapUpdateF, capsOf, allocF, boxF, convertF, makeFuncF, makeMapF, opF, reach, reachOf, AObj.live, closedB, nodupB, packO, packL, packX, backN, backG, backO, obL, backE, frzX, frzO, AV.vids, frzL, landC, sameObs, landR, touchF, D.cells, D.decEq, D.decEqs, AV.decEq, AV.decEqs, AObj.decEq, AV.oids0, AV.oids, AObj.oids, renG, renP, AV.ren0, AV.ren, envGet, envPut, envKeep, obGet, setEff, putV, St.put, stepS, keyChk, chkD, accD, Ex.block, AV.under, AObj.under, laysOf, roomFor, mkvO, frzG, szOk, killO, usedBy, tidyS, ghost, ghostE, normSt, resOf, allSome, one0, resultsF, finL, finishL, finish, endF, startEnv, chkC, backX, comeC, wpn_nil, wpn_seq, wpn_loop, wpn_seq_exit, wpn_loop_exit, wpn_seq_ret, wpn_loop_ret, wpn_block, wpn_post, wpk_skip, wpk_exit, wpk_ret, wpk_reg, wpk_seq, wpk_condT, wpk_block, wpk_loop, wpk_pre, wpk_post, wop_nil, wop_cons, wop_guard, St.know, envSet, cond_d, cond_bool, cond_int, cond_str, endE, endQ, freeB, disj, pushT, bitsW, int_beq, int_bne, eqS_def, Nat.testBit_eq_decide_div_mod_eq, fuelL_eq, ann0_lays, ann0_dd, ann0_ro, elsOf_dsl, elsOf_dnils, toNat_succ, nn_succ, pos_succ, one_succ, rng1, rng2, rng3, rng4, rng5, rng6, rng7, rng8, List.idxOf_cons, T3, T4, T5, T9, T23, T25, T27, T32, T33, T35, T39, T50, T52, T57, T59, T64, T65, T66, T70, T71, T77, T81, T83, T88, T89, T91, T95, T97, T99, T100, T112, CT, Loa.enc, encP, hA, a1, a2, a3, k2, k3, k4, k4', k5, kg, q2, q2', q3, w1, w2, r1, r2, sz, tk1, tk2, le1, le2]
      exact ih
    · simp [errL_snoc, trfL_snoc, q3] at ih
      simp [c26_1, TK.agg, constAV, evalAV, eqCells, EK.has, EK.hasAll, vecEls, elsR, AV.toD, toDs, AV.cells, AV.one, joinD, TyI.zeroD, OpR.of, binIntF, binStrF, AV.isPtr, ptrNil, slNil, mpNil, nilE, eqF, negF, posF, binF, pelF, pvLoad, pelSet, pvStore, boxLoad, epLoad, loadF, boxStore, storeF, fieldAddrF, fieldF, epOf, indexAddrF, byteF, indexF, mapLen, lenF, cutF, sliceF, isSl, slice3F, fillF, arrFs, buildF, partsX, landV, buildSliceF, roomB, appVec, appendF, mmFrom, mmF, max2', min2', clearVec, clearF, builtinF, convF, unF, pickF, nilChkF, extF, ptrsOf, callF, makeSliceF, sameD, keyOk, mapOb, mapEs, okV, lookF, lookupF, putE, mapPut, mapUpdateF, capsOf, allocF, boxF, convertF, makeFuncF, makeMapF, opF, reach, reachOf, AObj.live, closedB, nodupB, packO, packL, packX, backN, backG, backO, obL, backE, frzX, frzO, AV.vids, frzL, landC, sameObs, landR, touchF, D.cells, D.decEq, D.decEqs, AV.decEq, AV.decEqs, AObj.decEq, AV.oids0, AV.oids, AObj.oids, renG, renP, AV.ren0, AV.ren, envGet, envPut, envKeep, obGet, setEff, putV, St.put, stepS, keyChk, chkD, accD, Ex.block, AV.under, AObj.under, laysOf, roomFor, mkvO, frzG, szOk, killO, usedBy, tidyS, ghost, ghostE, normSt, resOf, allSome, one0, resultsF, finL, finishL, finish, endF, startEnv, chkC, backX, comeC, wpn_nil, wpn_seq, wpn_loop, wpn_seq_exit, wpn_loop_exit, wpn_seq_ret, wpn_loop_ret, wpn_block, wpn_post, wpk_skip, wpk_exit, wpk_ret, wpk_reg, wpk_seq, wpk_condT, wpk_block, wpk_loop, wpk_pre, wpk_post, wop_nil, wop_cons, wop_guard, St.know, envSet, cond_d, cond_bool, cond_int, cond_str, endE, endQ, freeB, disj, pushT, bitsW, int_beq, int_bne, eqS_def, Nat.testBit_eq_decide_div_mod_eq, fuelL_eq, ann0_lays, ann0_dd, ann0_ro, elsOf_dsl, elsOf_dnils, toNat_succ, nn_succ, pos_succ, one_succ, rng1, rng2, rng3, rng4, rng5, rng6, rng7, rng8, List.idxOf_cons, T3, T4, T5, T9, T23, T25, T27, T32, T33, T35, T39, T50, T52, T57, T59, T64, T65, T66, T70, T71, T77, T81, T83, T88, T89, T91, T95, T97, T99, T100, T112, CT, Loa.enc, encP, hA, a1, a2, a3, k2, k3, k4, k4', k5, kg, q2, q2', q3, w1, w2, r1, r2, sz, tk1, tk2, le1, le2]
      exact ih
end Go.Proofs.YtpooehcjchkbkaaV
