/- States. -/
import Derived.Test.YtpooehcjchkbkaaWc49i
set_option linter.unusedVariables false
set_option linter.unusedSimpArgs false
namespace Go.Proofs.YtpooehcjchkbkaaV
open Go.RowKit
def zr91 : List D := (List.range 256).flatMap (fun _ => [.str ⟨#[]⟩, .str ⟨#[]⟩, .int .i64 0, .int .i64 0]) ++ [.int .i64 0, .int .i64 0, .int .i64 0]
theorem zr91_to : toDs (ZA89 ++ [AV.d (.int .i64 0), AV.d (.int .i64 0), AV.d (.int .i64 0)]) = some zr91 := by kernel_rfl
theorem zr91_len : zr91.length = 1027 := by kernel_rfl
def Mon.new (r : Rul) : Mon := ⟨r, [], 0, 0, 0⟩
theorem zr91_mon (r : Rul) : AV.d (.str r.name) :: .d (.str r.svc) :: .d (.str r.op) :: .d (.int .i64 r.target) :: .d (.int .i64 r.long) :: .d (.int .i64 r.short) :: .d (.int .i64 r.burn) :: .d (.int .i64 r.forr) :: zr91.map AV.d = monL (Mon.new r) := by
  have h : zr91.map AV.d = ringF (histF []) 256 ++ [.d (.int .i64 0), .d (.int .i64 0), .d (.int .i64 0)] := by
    unfold zr91 ringF
    rw [List.map_append, List.map_flatMap]
    rfl
  rw [h]; rfl
def zipV : List Int → List Int → List (Int × Int)
  | a :: l, b :: m => (a, b) :: zipV l m
  | _, _ => []
theorem zipV_fst : ∀ (l m : List Int), l.length = m.length → (zipV l m).map (fun p => D.int .i64 p.1) = tiD l
  | [], [], _ => rfl
  | a :: l, b :: m, h => by simp only [zipV, List.map_cons, zipV_fst l m (by simpa using h), tiD]
  | [], _ :: _, h => by simp at h
  | _ :: _, [], h => by simp at h
theorem zipV_snd : ∀ (l m : List Int), l.length = m.length → (zipV l m).map (fun p => D.int .i64 p.2) = tiD m
  | [], [], _ => rfl
  | a :: l, b :: m, h => by simp only [zipV, List.map_cons, zipV_snd l m (by simpa using h), tiD]
  | [], _ :: _, h => by simp at h
  | _ :: _, [], h => by simp at h
theorem zipV_len : ∀ (l m : List Int), l.length = m.length → (zipV l m).length = m.length
  | [], [], _ => rfl
  | a :: l, b :: m, h => by simp only [zipV, List.length_cons, zipV_len l m (by simpa using h)]
  | [], _ :: _, h => by simp at h
  | _ :: _, [], h => by simp at h
theorem zipV_sT : ∀ (l m : List Int), l.length = m.length → sT (zipV l m) = sumL m
  | [], [], _ => rfl
  | a :: l, b :: m, h => by simp only [zipV, sT, sumL, zipV_sT l m (by simpa using h)]
  | [], _ :: _, h => by simp at h
  | _ :: _, [], h => by simp at h
theorem zipV_ok : ∀ (l m : List Int), l.length = m.length → gtAny l m = false → l.any badV = false → okH (zipV l m)
  | [], [], _, _, _ => fun x hx => by simp [zipV] at hx
  | a :: l, b :: m, h, hg, hb => by
    simp [gtAny] at hg
    simp [badV] at hb
    have := zipV_ok l m (by simpa using h) hg.2 (by simpa [badV] using hb.2)
    intro x hx
    simp only [zipV, List.mem_cons] at hx
    rcases hx with hx | hx
    · subst hx; exact ⟨by simp only; omega, by simp only; omega⟩
    · exact this x hx
  | [], _ :: _, h, _, _ => by simp at h
  | _ :: _, [], h, _, _ => by simp at h
/-- What a check that is passed says. -/
theorem chk_facts {r : Rul} {e1 e2 : Int} {a b : Ser} (h1 : e1 = 0 → a.vals.any badV = false ∧ a.vals.length ≤ 1024 ∧ 0 ≤ a.frm ∧ a.frm ≤ 1048576) (h : chkI r e1 e2 a b = 0) :
    r.rg ∧ a.vals.length = b.vals.length ∧ okH (zipV a.vals b.vals) ∧ sT (zipV a.vals b.vals) ≤ 4294967296 ∧ 0 ≤ a.frm ∧ a.frm ≤ 1048576 := by
  unfold chkI at h
  split at h
  · rename_i q; exact absurd h q
  rename_i q0
  split at h
  · rename_i q; exact absurd h q
  rename_i q1
  split at h
  · rename_i q; exact absurd h q
  split at h
  · omega
  split at h
  · omega
  rename_i q4
  split at h
  · omega
  rename_i q5
  split at h
  · omega
  rename_i q6
  obtain ⟨f1, f2, f3, f4⟩ := h1 (by omega)
  have hl : a.vals.length = b.vals.length := by
    simp [okC] at q4
    exact q4.2.2.2.2.2
  refine ⟨?_, hl, zipV_ok _ _ hl (by simpa using q5) f1, by rw [zipV_sT _ _ hl]; omega, f3, f4⟩
  have : r.chk = 0 := by omega
  unfold Rul.chk at this
  split at this
  · omega
  split at this
  · assumption
  · omega
theorem new_inv {r : Rul} (h : r.rg) : (Mon.new r).inv := ⟨h, rfl, by simp [Mon.new]⟩
set_option maxRecDepth 100000 in
theorem states18_bad (r : Rul) (a b : Ser) (ha : a.ok) (hb : b.ok) (e1 e2 : Int) (h1 : SerE a e1) (h2 : SerE b e2) (hc : chkI r e1 e2 a b ≠ 0) : run CC 18 [.d r.enc, .d a.enc, .d b.enc] [] = some (.tup [.d .nils, .d (.int .i64 (chkI r e1 e2 a b))], []) := by
  refine run_code (s := s18 0) rfl rfl rfl (by kernel_rfl) ?_
  have hr := checkInput20_run r a b ha hb e1 e2 h1 h2
  obtain ⟨a1, a2, a3⟩ := slF ha.vd
  simp only [AV.one, AV.cells, D.cells] at a1 a2 a3
  obtain ⟨b1, b2, b3⟩ := slF hb.vd
  simp only [AV.one, AV.cells, D.cells] at b1 b2 b3
  simp only [Rul.enc, Ser.enc] at hr
  generalize chkI r e1 e2 a b = c at *
  simp [s18, TK.agg, constAV, evalAV, eqCells, EK.has, EK.hasAll, vecEls, elsR, AV.toD, toDs, AV.cells, AV.one, joinD, TyI.zeroD, OpR.of, binIntF, binStrF, AV.isPtr, ptrNil, slNil, mpNil, nilE, eqF, negF, posF, binF, pelF, pvLoad, pelSet, pvStore, boxLoad, epLoad, loadF, boxStore, storeF, fieldAddrF, fieldF, epOf, indexAddrF, byteF, indexF, mapLen, lenF, cutF, sliceF, sliceN, sliceX, isSl, slice3F, fillF, fillV, arrFs, buildF, partsX, landV, buildSliceF, roomB, appVec, appendF, appMkF, capF, mmFrom, mmF, max2', min2', clearVec, clearF, convF, unF, pickF, nilChkF, extF, ptrsOf, callF, makeSliceF, sameKs, sameD, kindIs, plainFs, keyOk, mapOb, mapEs, okV, lookF, lookupF, putE, putS, mapPut, mapUpdateF, mapDel, deleteF, mapAll, rangeM, rangeF, overV, hitV, nextO, nextF, entryM, entryO, entryF, itOids, builtinF, capsOf, allocF, boxF, bytesL, bytesF, byteTy, strTy, convertF, makeFuncF, mapNew, makeMapF, makeMapH, opF, reach, reachOf, AObj.live, closedB, nodupB, packO, packL, packX, backN, backG, backO, obL, backE, frzX, frzO, AV.vids, frzL, landC, sameObs, landR, touchF, bitsW, D.cells, D.decEq, D.decEqs, AV.decEq, AV.decEqs, AObj.decEq, AV.oids0, AV.oids, AObj.oids, renG, renP, AV.ren0, AV.ren, envGet, envPut, envKeep, obGet, setEff, putV, St.put, stepS, keyChk, chkD, accD, Ex.block, AV.under, AObj.under, laysOf, roomFor, mkvO, frzG, szOk, killO, usedBy, tidyS, canL, canS, ghost, ghostE, normSt, resOf, allSome, one0, resultsF, finL, finishL, finish, endF, startEnv, chkC, backX, comeC, AV.flat0, rngC, loopO, layL, endLp, busyL, idleL, noRng, rndSt, rndEnd, wpn_nil, wpn_seq, wpn_loop, wpn_seq_exit, wpn_loop_exit, wpn_seq_ret, wpn_loop_ret, wpn_block, wpn_post, wpk_skip, wpk_exit, wpk_ret, wpk_reg, wpk_seq, wpk_condT, wpk_block, wpk_loop, wpk_pre, wpk_post, wop_nil, wop_cons, wop_guard, St.know, envSet, cond_d, cond_bool, cond_int, cond_str, endE, endQ, freeB, disj, pushT, bitsW, int_beq, int_bne, eqS_def, tbE, fuelL_eq, ann0_lays, ann0_dd, ann0_ro, elsOf_dsl, elsOf_dnils, toNat_succ, nn_succ, pos_succ, one_succ, rng1, rng2, rng3, rng4, rng5, rng6, rng7, rng8, List.idxOf_cons, wpk_rng, rndK, rndE, T3, T4, T5, T9, T23, T25, T27, T32, T33, T35, T39, T50, T52, T57, T59, T64, T65, T66, T70, T71, T77, T81, T83, T88, T89, T91, T95, T97, T99, T100, T112, CT, Rul.enc, Ser.enc, hr, a1, a2, a3, b1, b2, b3, hc]
set_option maxRecDepth 100000 in
theorem states18_run (r : Rul) (a b : Ser) (ha : a.ok) (hb : b.ok) (e1 e2 : Int) (h1 : SerE a e1) (h2 : SerE b e2) (hc : chkI r e1 e2 a b = 0) (hl : a.vals.length ≤ 256) : run CC 18 [.d r.enc, .d a.enc, .d b.enc] [] = some (.tup [.d (.sl (((Mon.new r).sts (zipV a.vals b.vals)).map (D.int .i64))), .d (.int .i64 0)], []) := by
  refine run_code (s := s18 0) rfl rfl rfl (by kernel_rfl) ?_
  have hr := checkInput20_run r a b ha hb e1 e2 h1 h2
  obtain ⟨f1, f2, f3, f4, f5, f6⟩ := chk_facts h1.1 hc
  obtain ⟨a1, a2, a3⟩ := slF ha.vd
  simp only [AV.one, AV.cells, D.cells] at a1 a2 a3
  obtain ⟨b1, b2, b3⟩ := slF hb.vd
  simp only [AV.one, AV.cells, D.cells] at b1 b2 b3
  have he := eval37_run a.vd b.vd (zipV a.vals b.vals) (Mon.new r) (new_inv f1) (by rw [zipV_fst _ _ f2]; exact ha.vd) (by rw [zipV_snd _ _ f2]; exact hb.vd) (by simp [Mon.new, zipV_len _ _ f2]; omega) (by simpa [Mon.new] using f3) (by simpa [Mon.new] using f4)
  have zm := zr91_mon r
  rw [hc] at hr
  simp only [Rul.enc, Ser.enc] at hr
  simp [s18, TK.agg, constAV, evalAV, eqCells, EK.has, EK.hasAll, vecEls, elsR, AV.toD, toDs, AV.cells, AV.one, joinD, TyI.zeroD, OpR.of, binIntF, binStrF, AV.isPtr, ptrNil, slNil, mpNil, nilE, eqF, negF, posF, binF, pelF, pvLoad, pelSet, pvStore, boxLoad, epLoad, loadF, boxStore, storeF, fieldAddrF, fieldF, epOf, indexAddrF, byteF, indexF, mapLen, lenF, cutF, sliceF, sliceN, sliceX, isSl, slice3F, fillF, fillV, arrFs, buildF, partsX, landV, buildSliceF, roomB, appVec, appendF, appMkF, capF, mmFrom, mmF, max2', min2', clearVec, clearF, convF, unF, pickF, nilChkF, extF, ptrsOf, callF, makeSliceF, sameKs, sameD, kindIs, plainFs, keyOk, mapOb, mapEs, okV, lookF, lookupF, putE, putS, mapPut, mapUpdateF, mapDel, deleteF, mapAll, rangeM, rangeF, overV, hitV, nextO, nextF, entryM, entryO, entryF, itOids, builtinF, capsOf, allocF, boxF, bytesL, bytesF, byteTy, strTy, convertF, makeFuncF, mapNew, makeMapF, makeMapH, opF, reach, reachOf, AObj.live, closedB, nodupB, packO, packL, packX, backN, backG, backO, obL, backE, frzX, frzO, AV.vids, frzL, landC, sameObs, landR, touchF, bitsW, D.cells, D.decEq, D.decEqs, AV.decEq, AV.decEqs, AObj.decEq, AV.oids0, AV.oids, AObj.oids, renG, renP, AV.ren0, AV.ren, envGet, envPut, envKeep, obGet, setEff, putV, St.put, stepS, keyChk, chkD, accD, Ex.block, AV.under, AObj.under, laysOf, roomFor, mkvO, frzG, szOk, killO, usedBy, tidyS, canL, canS, ghost, ghostE, normSt, resOf, allSome, one0, resultsF, finL, finishL, finish, endF, startEnv, chkC, backX, comeC, AV.flat0, rngC, loopO, layL, endLp, busyL, idleL, noRng, rndSt, rndEnd, wpn_nil, wpn_seq, wpn_loop, wpn_seq_exit, wpn_loop_exit, wpn_seq_ret, wpn_loop_ret, wpn_block, wpn_post, wpk_skip, wpk_exit, wpk_ret, wpk_reg, wpk_seq, wpk_condT, wpk_block, wpk_loop, wpk_pre, wpk_post, wop_nil, wop_cons, wop_guard, St.know, envSet, cond_d, cond_bool, cond_int, cond_str, endE, endQ, freeB, disj, pushT, bitsW, int_beq, int_bne, eqS_def, tbE, fuelL_eq, ann0_lays, ann0_dd, ann0_ro, elsOf_dsl, elsOf_dnils, toNat_succ, nn_succ, pos_succ, one_succ, rng1, rng2, rng3, rng4, rng5, rng6, rng7, rng8, List.idxOf_cons, wpk_rng, rndK, rndE, T3, T4, T5, T9, T23, T25, T27, T32, T33, T35, T39, T50, T52, T57, T59, T64, T65, T66, T70, T71, T77, T81, T83, T88, T89, T91, T95, T97, T99, T100, T112, CT, Rul.enc, Ser.enc, hr, a1, a2, a3, b1, b2, b3, zr91_to, zr91_len, zm, he, mon_one, mon_oids, mon_ren, monL_len]
end Go.Proofs.YtpooehcjchkbkaaV
