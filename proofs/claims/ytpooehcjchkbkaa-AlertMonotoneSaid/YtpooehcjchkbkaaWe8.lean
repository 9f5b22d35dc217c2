/- The law AlertMonotone. -/
import Derived.Test.YtpooehcjchkbkaaWc49p
import Derived.Test.YtpooehcjchkbkaaWe3
set_option linter.unusedVariables false
set_option linter.unusedSimpArgs false
namespace Go.Proofs.YtpooehcjchkbkaaV
open Go.RowKit
def strict (x : Lim) (b f : Int) : Rul := {x.rul with burn := x.rul.burn + b, forr := x.rul.forr + f}
theorem strict_ok (x : Lim) (hx : x.ok) (b f : Int) (hb : 0 ≤ b ∧ b ≤ 255) (hf : 0 ≤ f ∧ f ≤ 100) : (strict x b f).chk = 0 := by
  have h1 := tmodP (n := 200) hx.target.1 (by omega)
  have h2 := tmodP (n := 6) hx.short.1 (by omega)
  have h3 := tmodP (n := 7) hx.long.1 (by omega)
  have h4 := tmodP (n := 10) hx.burn.1 (by omega)
  have h5 := tmodP (n := 4) hx.forr.1 (by omega)
  have n1 : (strict x b f).nm = true := by
    show (isName ⟨#[114]⟩ && (isName ⟨#[97, 112, 105]⟩ && (isEmp ⟨#[]⟩ || isName ⟨#[]⟩))) = true
    decide +kernel
  have n2 : (strict x b f).rg := by
    unfold Rul.rg strict Lim.rul
    refine ⟨?_, ?_, ?_, ?_, ?_, ?_, ?_, ?_, ?_⟩ <;> simp only <;> omega
  simp [Rul.chk, n1, n2]
theorem lim_bd (x : Lim) (hx : x.ok) : 1 ≤ x.rul.burn ∧ x.rul.burn ≤ 5000 ∧ 0 ≤ x.rul.forr ∧ x.rul.forr ≤ 3 := by
  have h4 := tmodP (n := 10) hx.burn.1 (by omega)
  have h5 := tmodP (n := 4) hx.forr.1 (by omega)
  unfold Lim.rul
  refine ⟨?_, ?_, ?_, ?_⟩ <;> simp only <;> omega
theorem leL_len : ∀ {l m : List Int}, leL l m → l.length = m.length
  | [], [], _ => rfl
  | a :: l, b :: m, h => by simp [leL_len h.2]
  | [], _ :: _, h => h.elim
  | _ :: _, [], h => h.elim
set_option maxRecDepth 100000 in
theorem loop8_1 (S A B : List Int) (hS : S.length ≤ 16) (ha : leL A S) (hb : leL B S) (ks : List Fr) (K : Ex → St → Prop)
    (hnext : wpn CC .norm ⟨[], [.dead, .dead, .dead, .dead, .dead, .dead, .dead, .dead]⟩ ks K) :
    wlp CC (s8_1 0) ⟨[(10, .d (.sl (S.map (D.int .i64)))), (14, .d (.sl (A.map (D.int .i64)))), (16, .d (.sl (B.map (D.int .i64)))), (18, .d (.int .i64 0))], [.dead, .dead, .dead, .dead, .dead, .dead, .dead, .dead]⟩ (.block 0 :: .post (.tidy [] 0 8) :: ks) K := by
  have la := leL_len ha
  have lb := leL_len hb
  refine wlp_inv (S := fun p : List Int × List Int × List Int × List Int × List Int × List Int => ⟨[(10, .d (.sl (S.map (D.int .i64)))), (14, .d (.sl (A.map (D.int .i64)))), (16, .d (.sl (B.map (D.int .i64)))), (18, .d (.int .i64 p.1.length))], [.dead, .dead, .dead, .dead, .dead, .dead, .dead, .dead]⟩) (m := fun p => p.2.1.length)
    (Inv := fun p => p.1 ++ p.2.1 = S ∧ p.2.2.1 ++ p.2.2.2.1 = A ∧ p.2.2.2.2.1 ++ p.2.2.2.2.2 = B ∧ p.1.length = p.2.2.1.length ∧ p.1.length = p.2.2.2.2.1.length ∧ leL p.2.2.2.1 p.2.1 ∧ leL p.2.2.2.2.2 p.2.1) ?_ ([], S, [], A, [], B) ⟨rfl, rfl, rfl, rfl, rfl, ha, hb⟩
  rintro ⟨p0, s0, p1, s1, p2, s2⟩ ⟨g0, g1, g2, g3, g4, g5, g6⟩ ih
  rw [e8_1]
  simp only at g0 g1 g2 g3 g4 g5 g6 ⊢
  cases s0 with
  | nil =>
    have hn := endL g0
    simp [c8_1, TK.agg, constAV, evalAV, eqCells, EK.has, EK.hasAll, vecEls, elsR, AV.toD, toDs, AV.cells, AV.one, joinD, TyI.zeroD, OpR.of, binIntF, binStrF, AV.isPtr, ptrNil, slNil, mpNil, nilE, eqF, negF, posF, binF, pelF, pvLoad, pelSet, pvStore, boxLoad, epLoad, loadF, boxStore, storeF, fieldAddrF, fieldF, epOf, indexAddrF, byteF, indexF, mapLen, lenF, cutF, sliceF, isSl, slice3F, fillF, arrFs, buildF, partsX, landV, buildSliceF, roomB, appVec, appendF, mmFrom, mmF, max2', min2', clearVec, clearF, builtinF, convF, unF, pickF, nilChkF, extF, ptrsOf, callF, makeSliceF, sameD, keyOk, mapOb, mapEs, okV, lookF, lookupF, putE, mapPut, mapUpdateF, capsOf, allocF, boxF, convertF, makeFuncF, makeMapF, opF, reach, reachOf, AObj.live, closedB, nodupB, packO, packL, packX, backN, backG, backO, obL, backE, frzX, frzO, AV.vids, frzL, landC, sameObs, landR, touchF, D.cells, D.decEq, D.decEqs, AV.decEq, AV.decEqs, AObj.decEq, AV.oids0, AV.oids, AObj.oids, renG, renP, AV.ren0, AV.ren, envGet, envPut, envKeep, obGet, setEff, putV, St.put, stepS, keyChk, chkD, accD, Ex.block, AV.under, AObj.under, laysOf, roomFor, mkvO, frzG, szOk, killO, usedBy, tidyS, ghost, ghostE, normSt, resOf, allSome, one0, resultsF, finL, finishL, finish, endF, startEnv, chkC, backX, comeC, wpn_nil, wpn_seq, wpn_loop, wpn_seq_exit, wpn_loop_exit, wpn_seq_ret, wpn_loop_ret, wpn_block, wpn_post, wpk_skip, wpk_exit, wpk_ret, wpk_reg, wpk_seq, wpk_condT, wpk_block, wpk_loop, wpk_pre, wpk_post, wop_nil, wop_cons, wop_guard, St.know, envSet, cond_d, cond_bool, cond_int, cond_str, endE, endQ, freeB, disj, pushT, bitsW, int_beq, int_bne, eqS_def, Nat.testBit_eq_decide_div_mod_eq, fuelL_eq, ann0_lays, ann0_dd, ann0_ro, elsOf_dsl, elsOf_dnils, toNat_succ, nn_succ, pos_succ, one_succ, rng1, rng2, rng3, rng4, rng5, rng6, rng7, rng8, List.idxOf_cons, T3, T4, T5, T9, T23, T25, T27, T32, T33, T35, T39, T50, T52, T57, T59, T64, T65, T66, T70, T71, T77, T81, T83, T88, T89, T91, T95, T97, T99, T100, T112, CT, hn]
    exact hnext
  | cons x s0 =>
    match s1, g5 with
    | y :: s1, g5 =>
      match s2, g6 with
      | z :: s2, g6 =>
        obtain ⟨k1, k2, k3, k4, k5, k6⟩ := atL (D.int .i64) g0 (by omega)
        have kg := getL k5 k4
        obtain ⟨i1, i2, i3, i4, i5, i6⟩ := atL (D.int .i64) g1 (by omega)
        have ig := getL i5 i4
        obtain ⟨j1, j2, j3, j4, j5, j6⟩ := atL (D.int .i64) g2 (by omega)
        have jg := getL j5 j4
        simp only [← g3] at i2 i3 i4 i5 ig
        simp only [← g4] at j2 j3 j4 j5 jg
        have n1 : ¬ x < y := by have := g5.1; omega
        have n2 : ¬ x < z := by have := g6.1; omega
        have ih := ih (p0 ++ [x], s0, p1 ++ [y], s1, p2 ++ [z], s2) ⟨by simpa using g0, by simpa using g1, by simpa using g2, by simp [g3], by simp [g4], g5.2, g6.2⟩ (by simp)
        simp at ih
        simp [c8_1, TK.agg, constAV, evalAV, eqCells, EK.has, EK.hasAll, vecEls, elsR, AV.toD, toDs, AV.cells, AV.one, joinD, TyI.zeroD, OpR.of, binIntF, binStrF, AV.isPtr, ptrNil, slNil, mpNil, nilE, eqF, negF, posF, binF, pelF, pvLoad, pelSet, pvStore, boxLoad, epLoad, loadF, boxStore, storeF, fieldAddrF, fieldF, epOf, indexAddrF, byteF, indexF, mapLen, lenF, cutF, sliceF, isSl, slice3F, fillF, arrFs, buildF, partsX, landV, buildSliceF, roomB, appVec, appendF, mmFrom, mmF, max2', min2', clearVec, clearF, builtinF, convF, unF, pickF, nilChkF, extF, ptrsOf, callF, makeSliceF, sameD, keyOk, mapOb, mapEs, okV, lookF, lookupF, putE, mapPut, mapUpdateF, capsOf, allocF, boxF, convertF, makeFuncF, makeMapF, opF, reach, reachOf, AObj.live, closedB, nodupB, packO, packL, packX, backN, backG, backO, obL, backE, frzX, frzO, AV.vids, frzL, landC, sameObs, landR, touchF, D.cells, D.decEq, D.decEqs, AV.decEq, AV.decEqs, AObj.decEq, AV.oids0, AV.oids, AObj.oids, renG, renP, AV.ren0, AV.ren, envGet, envPut, envKeep, obGet, setEff, putV, St.put, stepS, keyChk, chkD, accD, Ex.block, AV.under, AObj.under, laysOf, roomFor, mkvO, frzG, szOk, killO, usedBy, tidyS, ghost, ghostE, normSt, resOf, allSome, one0, resultsF, finL, finishL, finish, endF, startEnv, chkC, backX, comeC, wpn_nil, wpn_seq, wpn_loop, wpn_seq_exit, wpn_loop_exit, wpn_seq_ret, wpn_loop_ret, wpn_block, wpn_post, wpk_skip, wpk_exit, wpk_ret, wpk_reg, wpk_seq, wpk_condT, wpk_block, wpk_loop, wpk_pre, wpk_post, wop_nil, wop_cons, wop_guard, St.know, envSet, cond_d, cond_bool, cond_int, cond_str, endE, endQ, freeB, disj, pushT, bitsW, int_beq, int_bne, eqS_def, Nat.testBit_eq_decide_div_mod_eq, fuelL_eq, ann0_lays, ann0_dd, ann0_ro, elsOf_dsl, elsOf_dnils, toNat_succ, nn_succ, pos_succ, one_succ, rng1, rng2, rng3, rng4, rng5, rng6, rng7, rng8, List.idxOf_cons, T3, T4, T5, T9, T23, T25, T27, T32, T33, T35, T39, T50, T52, T57, T59, T64, T65, T66, T70, T71, T77, T81, T83, T88, T89, T91, T95, T97, T99, T100, T112, CT, k2, k3, k4, k5, kg, i3, i4, i5, ig, j3, j4, j5, jg, n1, n2]
        exact ih
set_option maxRecDepth 100000 in
set_option maxHeartbeats 4000000 in
theorem law8_run (x : Lim) (hx : x.ok) (y : Loa) (hy : y.ok) (m : Int × Int) (hm : isU8 m.1 ∧ isU8 m.2) : run CC 8 [.d x.enc, .d y.enc, .d (encP m)] [] = some (.d (.bool true), []) := by
  refine run_code (s := s8 0) rfl rfl rfl (by kernel_rfl) ?_
  have h := loa_inp hx hy
  have hr := rule_run x hx
  have hi := input26_run y hy
  unfold isU8 at hm
  have hq := tmodP (n := 100) hm.2.1 (by omega)
  have bd := lim_bd x hx
  have r0 := states18_in h
  have r1 := states18_inR h (strict x m.1 0) (strict_ok x hx m.1 0 (by omega) (by omega)) rfl rfl
  have r2 := states18_inR h (strict x 0 (m.2.tmod 100)) (strict_ok x hx 0 (m.2.tmod 100) (by omega) (by omega)) rfl rfl
  have m1 : leL (stsR (strict x m.1 0) (y.slots.take 16)) (stsR x.rul (y.slots.take 16)) :=
    sts_mono x.rul (strict x m.1 0) rfl rfl rfl (by simp only [strict]; omega) (by simp only [strict]; omega) _ (Mon.new _) (Mon.new _) rfl rfl rfl (Int.le_refl _) (Int.le_refl _)
  have m2 : leL (stsR (strict x 0 (m.2.tmod 100)) (y.slots.take 16)) (stsR x.rul (y.slots.take 16)) :=
    sts_mono x.rul (strict x 0 (m.2.tmod 100)) rfl rfl rfl (by simp only [strict]; omega) (by simp only [strict]; omega) _ (Mon.new _) (Mon.new _) rfl rfl rfl (Int.le_refl _) (Int.le_refl _)
  have hS : (stsR x.rul (y.slots.take 16)).length ≤ 16 := by rw [stsR_len]; exact h.len
  have l1 := leL_len m1
  have l2 := leL_len m2
  obtain ⟨a1, a2, a3⟩ := slF hy.sl
  simp only [AV.one, AV.cells, D.cells] at a1 a2 a3
  have w0 : IntKind.i64.wrap 0 = 0 := rfl
  have w1 : IntKind.i64.wrap m.1 = m.1 := wrap64 (by omega) (by omega)
  have w2 : IntKind.i64.wrap (m.2.tmod 100) = m.2.tmod 100 := wrap64 (by omega) (by omega)
  have w3 : IntKind.i64.wrap (x.rul.burn + m.1) = x.rul.burn + m.1 := wrap64 (by omega) (by omega)
  have w4 : IntKind.i64.wrap (x.rul.forr + m.2.tmod 100) = x.rul.forr + m.2.tmod 100 := wrap64 (by omega) (by omega)
  simp only [Loa.err, Loa.trf] at hi
  generalize stsR (strict x m.1 0) (y.slots.take 16) = A at *
  generalize stsR (strict x 0 (m.2.tmod 100)) (y.slots.take 16) = B at *
  generalize stsR x.rul (y.slots.take 16) = S at *
  generalize y.slots.take 16 = l at *
  simp only [strict, Int.add_zero] at r1 r2
  generalize x.rul = r at *
  simp only [Lim.enc, Loa.enc, Rul.enc, Ser.enc, serM] at hr hi r0 r1 r2
  simp [s8, TK.agg, constAV, evalAV, eqCells, EK.has, EK.hasAll, vecEls, elsR, AV.toD, toDs, AV.cells, AV.one, joinD, TyI.zeroD, OpR.of, binIntF, binStrF, AV.isPtr, ptrNil, slNil, mpNil, nilE, eqF, negF, posF, binF, pelF, pvLoad, pelSet, pvStore, boxLoad, epLoad, loadF, boxStore, storeF, fieldAddrF, fieldF, epOf, indexAddrF, byteF, indexF, mapLen, lenF, cutF, sliceF, isSl, slice3F, fillF, arrFs, buildF, partsX, landV, buildSliceF, roomB, appVec, appendF, mmFrom, mmF, max2', min2', clearVec, clearF, builtinF, convF, unF, pickF, nilChkF, extF, ptrsOf, callF, makeSliceF, sameD, keyOk, mapOb, mapEs, okV, lookF, lookupF, putE, mapPut, mapUpdateF, capsOf, allocF, boxF, convertF, makeFuncF, makeMapF, opF, reach, reachOf, AObj.live, closedB, nodupB, packO, packL, packX, backN, backG, backO, obL, backE, frzX, frzO, AV.vids, frzL, landC, sameObs, landR, touchF, D.cells, D.decEq, D.decEqs, AV.decEq, AV.decEqs, AObj.decEq, AV.oids0, AV.oids, AObj.oids, renG, renP, AV.ren0, AV.ren, envGet, envPut, envKeep, obGet, setEff, putV, St.put, stepS, keyChk, chkD, accD, Ex.block, AV.under, AObj.under, laysOf, roomFor, mkvO, frzG, szOk, killO, usedBy, tidyS, ghost, ghostE, normSt, resOf, allSome, one0, resultsF, finL, finishL, finish, endF, startEnv, chkC, backX, comeC, wpn_nil, wpn_seq, wpn_loop, wpn_seq_exit, wpn_loop_exit, wpn_seq_ret, wpn_loop_ret, wpn_block, wpn_post, wpk_skip, wpk_exit, wpk_ret, wpk_reg, wpk_seq, wpk_condT, wpk_block, wpk_loop, wpk_pre, wpk_post, wop_nil, wop_cons, wop_guard, St.know, envSet, cond_d, cond_bool, cond_int, cond_str, endE, endQ, freeB, disj, pushT, bitsW, int_beq, int_bne, eqS_def, Nat.testBit_eq_decide_div_mod_eq, fuelL_eq, ann0_lays, ann0_dd, ann0_ro, elsOf_dsl, elsOf_dnils, toNat_succ, nn_succ, pos_succ, one_succ, rng1, rng2, rng3, rng4, rng5, rng6, rng7, rng8, List.idxOf_cons, T3, T4, T5, T9, T23, T25, T27, T32, T33, T35, T39, T50, T52, T57, T59, T64, T65, T66, T70, T71, T77, T81, T83, T88, T89, T91, T95, T97, T99, T100, T112, CT, known_run, Lim.enc, Loa.enc, Rul.enc, encP, hr, hi, a1, a2, a3, r0, r1, r2, w0, w1, w2, w3, w4, l1, l2]
  refine loop8_1 S A B hS m1 m2 _ _ ?_
  simp [TK.agg, constAV, evalAV, eqCells, EK.has, EK.hasAll, vecEls, elsR, AV.toD, toDs, AV.cells, AV.one, joinD, TyI.zeroD, OpR.of, binIntF, binStrF, AV.isPtr, ptrNil, slNil, mpNil, nilE, eqF, negF, posF, binF, pelF, pvLoad, pelSet, pvStore, boxLoad, epLoad, loadF, boxStore, storeF, fieldAddrF, fieldF, epOf, indexAddrF, byteF, indexF, mapLen, lenF, cutF, sliceF, isSl, slice3F, fillF, arrFs, buildF, partsX, landV, buildSliceF, roomB, appVec, appendF, mmFrom, mmF, max2', min2', clearVec, clearF, builtinF, convF, unF, pickF, nilChkF, extF, ptrsOf, callF, makeSliceF, sameD, keyOk, mapOb, mapEs, okV, lookF, lookupF, putE, mapPut, mapUpdateF, capsOf, allocF, boxF, convertF, makeFuncF, makeMapF, opF, reach, reachOf, AObj.live, closedB, nodupB, packO, packL, packX, backN, backG, backO, obL, backE, frzX, frzO, AV.vids, frzL, landC, sameObs, landR, touchF, D.cells, D.decEq, D.decEqs, AV.decEq, AV.decEqs, AObj.decEq, AV.oids0, AV.oids, AObj.oids, renG, renP, AV.ren0, AV.ren, envGet, envPut, envKeep, obGet, setEff, putV, St.put, stepS, keyChk, chkD, accD, Ex.block, AV.under, AObj.under, laysOf, roomFor, mkvO, frzG, szOk, killO, usedBy, tidyS, ghost, ghostE, normSt, resOf, allSome, one0, resultsF, finL, finishL, finish, endF, startEnv, chkC, backX, comeC, wpn_nil, wpn_seq, wpn_loop, wpn_seq_exit, wpn_loop_exit, wpn_seq_ret, wpn_loop_ret, wpn_block, wpn_post, wpk_skip, wpk_exit, wpk_ret, wpk_reg, wpk_seq, wpk_condT, wpk_block, wpk_loop, wpk_pre, wpk_post, wop_nil, wop_cons, wop_guard, St.know, envSet, cond_d, cond_bool, cond_int, cond_str, endE, endQ, freeB, disj, pushT, bitsW, int_beq, int_bne, eqS_def, Nat.testBit_eq_decide_div_mod_eq, fuelL_eq, ann0_lays, ann0_dd, ann0_ro, elsOf_dsl, elsOf_dnils, toNat_succ, nn_succ, pos_succ, one_succ, rng1, rng2, rng3, rng4, rng5, rng6, rng7, rng8, List.idxOf_cons, T3, T4, T5, T9, T23, T25, T27, T32, T33, T35, T39, T50, T52, T57, T59, T64, T65, T66, T70, T71, T77, T81, T83, T88, T89, T91, T95, T97, T99, T100, T112, CT]
end Go.Proofs.YtpooehcjchkbkaaV
