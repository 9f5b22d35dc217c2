/- The law TimesetCompares: the walk. -/
import Derived.Test.YtnpppjipbkceeaaWe3
import Derived.Test.YtnpppjipbkceeaaTc14
set_option linter.unusedVariables false
set_option linter.unusedSimpArgs false
namespace Go.Proofs.YtnpppjipbkceeaaV
open Go.RowKit
theorem not_self {a : List Iv} (ha : NormI a) : cmb (fun x y => x && !y) a a = [] := by
  obtain ⟨h1, h2⟩ := cmb_spec (fun x y => x && !y) rfl ha ha
  exact norm_ext h1 NormI.nil fun x => by rw [h2, memI_nil]; simp
set_option maxRecDepth 100000 in
set_option maxHeartbeats 1000000 in
theorem law12_run (A B : D) (l m : List Sp) (n : Int) (hl : l.length < 4611686018427387904) (hm : m.length < 4611686018427387904) (hA : elsOf (.d A) = some (l.map sD)) (hB : elsOf (.d B) = some (m.map sD)) (hl1 : ∀ s ∈ l, Sp.ok s) (hm1 : ∀ s ∈ m, Sp.ok s) : run CC 12 [.d A, .d B, .d (.int .i64 n)] [] = some (.d (.bool true), []) := by
  refine run_code (s := s12 0) rfl rfl rfl (by kernel_rfl) ?_
  have a0 := set13_run A l hl hA hl1
  have b0 := set13_run B m hm hB hm1
  have la := setI_len l
  have lb := setI_len m
  have na := setI_norm l
  have nb := setI_norm m
  generalize setI l = a at *
  generalize setI m = b at *
  have ct := contains43_run (.sl (a.map iD)) a n (by omega) rfl na
  have hs := has38_run (.sl (a.map iD)) a n (by omega) rfl
  have cv := covers44_run (.sl (a.map iD)) (.sl (b.map iD)) a b (by omega) (by omega) rfl rfl
  have cva := covers44_run (.sl (a.map iD)) (.sl (a.map iD)) a a (by omega) (by omega) rfl rfl
  have ov := overlaps45_run (.sl (a.map iD)) (.sl (b.map iD)) a b (by omega) (by omega) rfl rfl
  have eq1 := equal46_run (.sl (a.map iD)) (.sl (b.map iD)) a b (by omega) rfl rfl
  have eq2 := equal46_run (.sl (a.map iD)) (.sl (a.map iD)) a a (by omega) rfl rfl
  have eq3 := equal15_run (.sl (a.map iD)) (.sl (b.map iD)) a b (by omega) rfl rfl
  have c2 := combine17_run 2 (.inr (.inl rfl)) (.sl (a.map iD)) (.sl (b.map iD)) a b (by omega) (by omega) rfl rfl
  have c3 := combine17_run 3 (.inr (.inr rfl)) (.sl (b.map iD)) (.sl (a.map iD)) b a (by omega) (by omega) rfl rfl
  rw [not3 nb na] at cv
  rw [not_self na] at cva
  rw [and3 na nb] at ov
  simp only [decide_true, List.length_nil] at eq2 cva
  generalize refC (opF3 2) a b = x2 at *
  generalize refC (opF3 3) b a = x3 at *
  generalize hasB a n = hb at *
  have l2 : (x2.map iD).length = x2.length := by simp
  have l3 : (x3.map iD).length = x3.length := by simp
  have z2 : ((0 : Int) < (x2.length : Int)) ↔ 0 < x2.length := by omega
  have z3 : ((x3.length : Int) = 0) ↔ x3.length = 0 := by omega
  generalize decide (a = b) = eab at *
  generalize a.map iD = EA at *
  generalize b.map iD = EB at *
  generalize x2.map iD = E2 at *
  generalize x3.map iD = E3 at *
  generalize x2.length = k2 at *
  generalize x3.length = k3 at *
  by_cases y2 : 0 < k2 <;> by_cases y3 : k3 = 0 <;> cases eab <;> cases hb
  all_goals
    simp only [y2, y3, decide_true, decide_false, Nat.lt_irrefl] at cv ov
    simp [s12, TK.agg, constAV, evalAV, eqCells, EK.has, EK.hasAll, vecEls, elsR, AV.toD, toDs, AV.cells, AV.one, joinD, TyI.zeroD, OpR.of, binIntF, binStrF, AV.isPtr, ptrNil, slNil, mpNil, nilE, eqF, negF, posF, binF, pelF, pvLoad, pelSet, pvStore, boxLoad, epLoad, loadF, boxStore, storeF, fieldAddrF, fieldF, epOf, indexAddrF, byteF, indexF, mapLen, lenF, cutF, sliceF, isSl, slice3F, fillF, arrFs, buildF, partsX, landV, buildSliceF, roomB, appVec, appendF, mmFrom, mmF, max2', min2', clearVec, clearF, convF, unF, pickF, nilChkF, extF, ptrsOf, callF, makeSliceF, sameKs, sameD, kindIs, plainFs, keyOk, mapOb, mapEs, okV, lookF, lookupF, putE, putS, mapPut, mapUpdateF, mapDel, deleteF, mapAll, rangeM, rangeF, overV, hitV, nextO, nextF, entryM, entryO, entryF, itOids, builtinF, capsOf, allocF, boxF, bytesL, bytesF, byteTy, strTy, convertF, makeFuncF, makeMapF, makeMapH, opF, reach, reachOf, AObj.live, closedB, nodupB, packO, packL, packX, backN, backG, backO, obL, backE, frzX, frzO, AV.vids, frzL, landC, sameObs, landR, touchF, bitsW, D.cells, D.decEq, D.decEqs, AV.decEq, AV.decEqs, AObj.decEq, AV.oids0, AV.oids, AObj.oids, renG, renP, AV.ren0, AV.ren, envGet, envPut, envKeep, obGet, setEff, putV, St.put, stepS, keyChk, chkD, accD, Ex.block, AV.under, AObj.under, laysOf, roomFor, mkvO, frzG, szOk, killO, usedBy, tidyS, ghost, ghostE, normSt, resOf, allSome, one0, resultsF, finL, finishL, finish, endF, startEnv, chkC, backX, comeC, AV.flat0, rngC, loopO, layL, endLp, busyL, idleL, noRng, rndSt, rndEnd, wpn_nil, wpn_seq, wpn_loop, wpn_seq_exit, wpn_loop_exit, wpn_seq_ret, wpn_loop_ret, wpn_block, wpn_post, wpk_skip, wpk_exit, wpk_ret, wpk_reg, wpk_seq, wpk_condT, wpk_block, wpk_loop, wpk_pre, wpk_post, wop_nil, wop_cons, wop_guard, St.know, envSet, cond_d, cond_bool, cond_int, cond_str, endE, endQ, freeB, disj, pushT, bitsW, int_beq, int_bne, eqS_def, tbE, fuelL_eq, ann0_lays, ann0_dd, ann0_ro, elsOf_dsl, elsOf_dnils, toNat_succ, nn_succ, pos_succ, one_succ, rng1, rng2, rng3, rng4, rng5, rng6, rng7, rng8, List.idxOf_cons, wpk_rng, rndK, rndE, T2, T3, T4, T5, T6, T8, T9, T22, T23, T33, T38, T44, T45, T58, T60, T62, T63, T76, T85, T92, T94, CT, a0, b0, known_run, ct, hs, cv, cva, ov, eq1, eq2, eq3, c2, c3, l2, l3, z2, z3, y2, y3]
end Go.Proofs.YtnpppjipbkceeaaV
