/- The law TimesetNormal: the walk. -/
import Derived.Test.YtnpppjipbkceeaaTn3
set_option linter.unusedVariables false
set_option linter.unusedSimpArgs false
namespace Go.Proofs.YtnpppjipbkceeaaV
open Go.RowKit
theorem ck_iff : ∀ (l : List Iv) (o : Option Int), ckI o l = 0 ↔ (∀ p ∈ l, inR p = true) ∧ NormI l ∧ ∀ e, o = some e → ∀ p ∈ l, e < p.1
  | [], o => by simp [ckI, NormI.nil]
  | p :: r, o => by
    have IH := ck_iff r (some p.2)
    unfold ckI
    by_cases h1 : inR p = true
    · rw [if_pos h1]
      by_cases h2 : p.2 ≤ p.1
      · rw [if_pos h2]
        exact ⟨fun h => absurd h (by decide), fun ⟨_, hn, _⟩ => by have := hn.ne p (by simp); omega⟩
      · rw [if_neg h2]
        have key : ckI (some p.2) r = 0 ↔ (∀ q ∈ p :: r, inR q = true) ∧ NormI (p :: r) := by
          rw [IH]
          constructor
          · rintro ⟨a1, a2, a3⟩
            refine ⟨fun q hq => ?_, ⟨fun q hq => ?_, List.pairwise_cons.2 ⟨fun q hq => a3 _ rfl q hq, a2.gap⟩⟩⟩
            · rcases List.mem_cons.1 hq with rfl | hq
              · exact h1
              · exact a1 q hq
            · rcases List.mem_cons.1 hq with rfl | hq
              · omega
              · exact a2.ne q hq
          · rintro ⟨a1, a2⟩
            exact ⟨fun q hq => a1 q (by simp [hq]), a2.tail, fun e he q hq => by injection he with he; subst he; exact (List.pairwise_cons.1 a2.gap).1 q hq⟩
        cases o with
        | none =>
          simp only [Bool.false_eq_true, if_false]
          rw [key]
          exact ⟨fun h => ⟨h.1, h.2, fun e he => by cases he⟩, fun h => ⟨h.1, h.2.1⟩⟩
        | some e =>
          simp only [decide_eq_true_eq]
          by_cases h3 : p.1 ≤ e
          · rw [if_pos h3]
            exact ⟨fun h => absurd h (by decide), fun ⟨_, _, ho⟩ => by have := ho e rfl p (by simp); omega⟩
          · rw [if_neg h3, key]
            refine ⟨fun h => ⟨h.1, h.2, fun e' he q hq => ?_⟩, fun h => ⟨h.1, h.2.1⟩⟩
            injection he with he
            subst he
            rcases List.mem_cons.1 hq with rfl | hq
            · omega
            · have a := (List.pairwise_cons.1 h.2.gap).1 q hq
              have b := h.2.ne p (by simp)
              omega
    · rw [if_neg h1]
      exact ⟨fun h => absurd h (by decide), fun ⟨a, _, _⟩ => absurd (a p (by simp)) h1⟩
theorem of_in {l : List Iv} (h : ∀ p ∈ l, inR p = true) : ∀ p ∈ ofI l, inR p = true := fun p hp => by
  obtain ⟨hn, hm⟩ := ofI_norm l
  have hpn := hn.ne p hp
  obtain ⟨q, hq, h1, h2⟩ := (hm p.1).1 ⟨p, hp, by omega, by omega⟩
  obtain ⟨r, hr, h3, h4⟩ := (hm (p.2 - 1)).1 ⟨p, hp, by omega, by omega⟩
  have i1 := (inR_iff q).1 (h q hq)
  have i2 := (inR_iff r).1 (h r hr)
  exact (inR_iff p).2 ⟨⟨by omega, by omega⟩, by omega, by omega⟩
theorem of_fix {l : List Iv} (h : NormI l) : ofI l = l := norm_ext (ofI_norm l).1 h (ofI_norm l).2
set_option maxRecDepth 100000 in
set_option maxHeartbeats 2000000 in
theorem law7_run (A : D) (l : List Iv) (hl : l.length < 4611686018427387904) (hA : elsOf (.d A) = some (l.map iD)) : run CC 7 [.d A] [] = some (.d (.bool true), []) := by
  refine run_code (s := s7 0) rfl rfl rfl (by kernel_rfl) ?_
  by_cases hl20 : (20 : Int) < l.length
  · simp [s7, TK.agg, constAV, evalAV, eqCells, EK.has, EK.hasAll, vecEls, elsR, AV.toD, toDs, AV.cells, AV.one, joinD, TyI.zeroD, OpR.of, binIntF, binStrF, AV.isPtr, ptrNil, slNil, mpNil, nilE, eqF, negF, posF, binF, pelF, pvLoad, pelSet, pvStore, boxLoad, epLoad, loadF, boxStore, storeF, fieldAddrF, fieldF, epOf, indexAddrF, byteF, indexF, mapLen, lenF, cutF, sliceF, isSl, slice3F, fillF, arrFs, buildF, partsX, landV, buildSliceF, roomB, appVec, appendF, mmFrom, mmF, max2', min2', clearVec, clearF, convF, unF, pickF, nilChkF, extF, ptrsOf, callF, makeSliceF, sameKs, sameD, kindIs, plainFs, keyOk, mapOb, mapEs, okV, lookF, lookupF, putE, putS, mapPut, mapUpdateF, mapDel, deleteF, mapAll, rangeM, rangeF, overV, hitV, nextO, nextF, entryM, entryO, entryF, itOids, builtinF, capsOf, allocF, boxF, bytesL, bytesF, byteTy, strTy, convertF, makeFuncF, makeMapF, makeMapH, opF, reach, reachOf, AObj.live, closedB, nodupB, packO, packL, packX, backN, backG, backO, obL, backE, frzX, frzO, AV.vids, frzL, landC, sameObs, landR, touchF, bitsW, D.cells, D.decEq, D.decEqs, AV.decEq, AV.decEqs, AObj.decEq, AV.oids0, AV.oids, AObj.oids, renG, renP, AV.ren0, AV.ren, envGet, envPut, envKeep, obGet, setEff, putV, St.put, stepS, keyChk, chkD, accD, Ex.block, AV.under, AObj.under, laysOf, roomFor, mkvO, frzG, szOk, killO, usedBy, tidyS, ghost, ghostE, normSt, resOf, allSome, one0, resultsF, finL, finishL, finish, endF, startEnv, chkC, backX, comeC, AV.flat0, rngC, loopO, layL, endLp, busyL, idleL, noRng, rndSt, rndEnd, wpn_nil, wpn_seq, wpn_loop, wpn_seq_exit, wpn_loop_exit, wpn_seq_ret, wpn_loop_ret, wpn_block, wpn_post, wpk_skip, wpk_exit, wpk_ret, wpk_reg, wpk_seq, wpk_condT, wpk_block, wpk_loop, wpk_pre, wpk_post, wop_nil, wop_cons, wop_guard, St.know, envSet, cond_d, cond_bool, cond_int, cond_str, endE, endQ, freeB, disj, pushT, bitsW, int_beq, int_bne, eqS_def, tbE, fuelL_eq, ann0_lays, ann0_dd, ann0_ro, elsOf_dsl, elsOf_dnils, toNat_succ, nn_succ, pos_succ, one_succ, rng1, rng2, rng3, rng4, rng5, rng6, rng7, rng8, List.idxOf_cons, wpk_rng, rndK, rndE, T2, T3, T4, T5, T6, T8, T9, T23, T33, T38, T45, T62, T76, T85, T92, T94, T95, CT, hA, known_run, hl20]
  have n26 := normal26_run A l (by omega) hA
  have n27 := normal27_run A l (by omega) hA
  unfold nmR at n26 n27
  by_cases hR : l.any (fun p => !inR p) = true
  · rw [if_pos hR] at n26 n27
    have e0 := equal15_run .nils .nils [] [] (by simp) rfl rfl
    simp only [decide_true] at e0
    simp [s7, TK.agg, constAV, evalAV, eqCells, EK.has, EK.hasAll, vecEls, elsR, AV.toD, toDs, AV.cells, AV.one, joinD, TyI.zeroD, OpR.of, binIntF, binStrF, AV.isPtr, ptrNil, slNil, mpNil, nilE, eqF, negF, posF, binF, pelF, pvLoad, pelSet, pvStore, boxLoad, epLoad, loadF, boxStore, storeF, fieldAddrF, fieldF, epOf, indexAddrF, byteF, indexF, mapLen, lenF, cutF, sliceF, isSl, slice3F, fillF, arrFs, buildF, partsX, landV, buildSliceF, roomB, appVec, appendF, mmFrom, mmF, max2', min2', clearVec, clearF, convF, unF, pickF, nilChkF, extF, ptrsOf, callF, makeSliceF, sameKs, sameD, kindIs, plainFs, keyOk, mapOb, mapEs, okV, lookF, lookupF, putE, putS, mapPut, mapUpdateF, mapDel, deleteF, mapAll, rangeM, rangeF, overV, hitV, nextO, nextF, entryM, entryO, entryF, itOids, builtinF, capsOf, allocF, boxF, bytesL, bytesF, byteTy, strTy, convertF, makeFuncF, makeMapF, makeMapH, opF, reach, reachOf, AObj.live, closedB, nodupB, packO, packL, packX, backN, backG, backO, obL, backE, frzX, frzO, AV.vids, frzL, landC, sameObs, landR, touchF, bitsW, D.cells, D.decEq, D.decEqs, AV.decEq, AV.decEqs, AObj.decEq, AV.oids0, AV.oids, AObj.oids, renG, renP, AV.ren0, AV.ren, envGet, envPut, envKeep, obGet, setEff, putV, St.put, stepS, keyChk, chkD, accD, Ex.block, AV.under, AObj.under, laysOf, roomFor, mkvO, frzG, szOk, killO, usedBy, tidyS, ghost, ghostE, normSt, resOf, allSome, one0, resultsF, finL, finishL, finish, endF, startEnv, chkC, backX, comeC, AV.flat0, rngC, loopO, layL, endLp, busyL, idleL, noRng, rndSt, rndEnd, wpn_nil, wpn_seq, wpn_loop, wpn_seq_exit, wpn_loop_exit, wpn_seq_ret, wpn_loop_ret, wpn_block, wpn_post, wpk_skip, wpk_exit, wpk_ret, wpk_reg, wpk_seq, wpk_condT, wpk_block, wpk_loop, wpk_pre, wpk_post, wop_nil, wop_cons, wop_guard, St.know, envSet, cond_d, cond_bool, cond_int, cond_str, endE, endQ, freeB, disj, pushT, bitsW, int_beq, int_bne, eqS_def, tbE, fuelL_eq, ann0_lays, ann0_dd, ann0_ro, elsOf_dsl, elsOf_dnils, toNat_succ, nn_succ, pos_succ, one_succ, rng1, rng2, rng3, rng4, rng5, rng6, rng7, rng8, List.idxOf_cons, wpk_rng, rndK, rndE, T2, T3, T4, T5, T6, T8, T9, T23, T33, T38, T45, T62, T76, T85, T92, T94, T95, CT, hA, known_run, hl20, n26, n27, e0]
  rw [if_neg hR] at n26 n27
  have hin : ∀ p ∈ l, inR p = true := fun p hp => by
    cases hc : inR p with
    | true => rfl
    | false => exact absurd (List.any_eq_true.2 ⟨p, hp, by simp [hc]⟩) hR
  have ho := of_in hin
  have hno := (ofI_norm l).1
  have hlo := ofI_len l
  have m26 := normal26_run (.sl ((ofI l).map iD)) (ofI l) (by omega) rfl
  unfold nmR at m26
  rw [if_neg (by intro h; obtain ⟨p, hp, hc⟩ := List.any_eq_true.1 h; rw [ho p hp] at hc; exact absurd hc (by decide)), of_fix hno] at m26
  have e1 := equal15_run (.sl ((ofI l).map iD)) (.sl ((ofI l).map iD)) (ofI l) (ofI l) (by omega) rfl rfl
  have e2 := equal15_run A (.sl ((ofI l).map iD)) l (ofI l) (by omega) hA rfl
  have c1 := check24_run (.sl ((ofI l).map iD)) (ofI l) (by omega) rfl
  have c2 := check24_run A l (by omega) hA
  have k1 : ckI none (ofI l) = 0 := (ck_iff _ _).2 ⟨ho, hno, fun e he => by cases he⟩
  have k2 : ckI none l = 0 ↔ l = ofI l := by
    rw [ck_iff]
    exact ⟨fun h => (of_fix h.2.1).symm, fun h => ⟨hin, by rw [h]; exact hno, fun e he => by cases he⟩⟩
  rw [k1] at c1
  generalize ckI none l = k at *
  simp only [decide_true] at e1
  have k3 : decide (l = ofI l) = decide (k = 0) := by simp [k2]
  rw [k3] at e2
  generalize (ofI l).map iD = O at *
  simp [s7, TK.agg, constAV, evalAV, eqCells, EK.has, EK.hasAll, vecEls, elsR, AV.toD, toDs, AV.cells, AV.one, joinD, TyI.zeroD, OpR.of, binIntF, binStrF, AV.isPtr, ptrNil, slNil, mpNil, nilE, eqF, negF, posF, binF, pelF, pvLoad, pelSet, pvStore, boxLoad, epLoad, loadF, boxStore, storeF, fieldAddrF, fieldF, epOf, indexAddrF, byteF, indexF, mapLen, lenF, cutF, sliceF, isSl, slice3F, fillF, arrFs, buildF, partsX, landV, buildSliceF, roomB, appVec, appendF, mmFrom, mmF, max2', min2', clearVec, clearF, convF, unF, pickF, nilChkF, extF, ptrsOf, callF, makeSliceF, sameKs, sameD, kindIs, plainFs, keyOk, mapOb, mapEs, okV, lookF, lookupF, putE, putS, mapPut, mapUpdateF, mapDel, deleteF, mapAll, rangeM, rangeF, overV, hitV, nextO, nextF, entryM, entryO, entryF, itOids, builtinF, capsOf, allocF, boxF, bytesL, bytesF, byteTy, strTy, convertF, makeFuncF, makeMapF, makeMapH, opF, reach, reachOf, AObj.live, closedB, nodupB, packO, packL, packX, backN, backG, backO, obL, backE, frzX, frzO, AV.vids, frzL, landC, sameObs, landR, touchF, bitsW, D.cells, D.decEq, D.decEqs, AV.decEq, AV.decEqs, AObj.decEq, AV.oids0, AV.oids, AObj.oids, renG, renP, AV.ren0, AV.ren, envGet, envPut, envKeep, obGet, setEff, putV, St.put, stepS, keyChk, chkD, accD, Ex.block, AV.under, AObj.under, laysOf, roomFor, mkvO, frzG, szOk, killO, usedBy, tidyS, ghost, ghostE, normSt, resOf, allSome, one0, resultsF, finL, finishL, finish, endF, startEnv, chkC, backX, comeC, AV.flat0, rngC, loopO, layL, endLp, busyL, idleL, noRng, rndSt, rndEnd, wpn_nil, wpn_seq, wpn_loop, wpn_seq_exit, wpn_loop_exit, wpn_seq_ret, wpn_loop_ret, wpn_block, wpn_post, wpk_skip, wpk_exit, wpk_ret, wpk_reg, wpk_seq, wpk_condT, wpk_block, wpk_loop, wpk_pre, wpk_post, wop_nil, wop_cons, wop_guard, St.know, envSet, cond_d, cond_bool, cond_int, cond_str, endE, endQ, freeB, disj, pushT, bitsW, int_beq, int_bne, eqS_def, tbE, fuelL_eq, ann0_lays, ann0_dd, ann0_ro, elsOf_dsl, elsOf_dnils, toNat_succ, nn_succ, pos_succ, one_succ, rng1, rng2, rng3, rng4, rng5, rng6, rng7, rng8, List.idxOf_cons, wpk_rng, rndK, rndE, T2, T3, T4, T5, T6, T8, T9, T23, T33, T38, T45, T62, T76, T85, T92, T94, T95, CT, hA, known_run, hl20, n26, n27, m26, e1, e2, c1, c2]
end Go.Proofs.YtnpppjipbkceeaaV
