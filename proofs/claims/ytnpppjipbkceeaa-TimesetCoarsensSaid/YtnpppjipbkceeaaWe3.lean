/- The law TimesetCombines: the walk. -/
import Derived.Test.YtnpppjipbkceeaaTc12
import Derived.Test.YtnpppjipbkceeaaTm3
set_option linter.unusedVariables false
set_option linter.unusedSimpArgs false
namespace Go.Proofs.YtnpppjipbkceeaaV
open Go.RowKit
theorem setI_len (l : List Sp) : (setI l).length ≤ 10 := by
  have := ofI_len ((l.take 10).map spI)
  simp only [List.length_map, List.length_take] at this
  unfold setI; omega
theorem setI_norm (l : List Sp) : NormI (setI l) := (ofI_norm _).1
theorem or3 {a b : List Iv} (ha : NormI a) (hb : NormI b) : cmb (fun x y => x || y) a b = refC (opF3 1) a b := by
  have : opF3 1 = fun x y => x || y := by funext x y; simp [opF3]
  rw [this]; exact cmb_refC _ rfl ha hb
theorem and3 {a b : List Iv} (ha : NormI a) (hb : NormI b) : cmb (fun x y => x && y) a b = refC (opF3 2) a b := by
  have : opF3 2 = fun x y => x && y := by funext x y; simp [opF3]
  rw [this]; exact cmb_refC _ rfl ha hb
theorem not3 {a b : List Iv} (ha : NormI a) (hb : NormI b) : cmb (fun x y => x && !y) a b = refC (opF3 3) a b := by
  have : opF3 3 = fun x y => x && !y := by funext x y; simp [opF3]
  rw [this]; exact cmb_refC _ rfl ha hb
theorem refC_len (f : Bool → Bool → Bool) (a b : List Iv) : (refC f a b).length ≤ 2 * (a.length + b.length) := by
  have h1 := ofI_len (rcL f a b (bnI [] (bdL (a ++ b))))
  have h2 := rcL_len f a b (bnI [] (bdL (a ++ b)))
  have h3 := bnI_len (bdL (a ++ b)) []
  rw [bdL_len] at h3
  simp at h3
  unfold refC; omega
set_option maxRecDepth 100000 in
theorem law3_run (A B : D) (l m : List Sp) (hl : l.length < 4611686018427387904) (hm : m.length < 4611686018427387904) (hA : elsOf (.d A) = some (l.map sD)) (hB : elsOf (.d B) = some (m.map sD)) (hl1 : ∀ s ∈ l, Sp.ok s) (hm1 : ∀ s ∈ m, Sp.ok s) : run CC 3 [.d A, .d B] [] = some (.d (.bool true), []) := by
  refine run_code (s := s3 0) rfl rfl rfl (by kernel_rfl) ?_
  have a0 := set13_run A l hl hA hl1
  have b0 := set13_run B m hm hB hm1
  have la := setI_len l
  have lb := setI_len m
  have na := setI_norm l
  have nb := setI_norm m
  generalize setI l = a at *
  generalize setI m = b at *
  have u1 := union16_run (.sl (a.map iD)) (.sl (b.map iD)) a b (by omega) (by omega) rfl rfl
  have u2 := inter18_run (.sl (a.map iD)) (.sl (b.map iD)) a b (by omega) (by omega) rfl rfl
  have u3 := minus19_run (.sl (a.map iD)) (.sl (b.map iD)) a b (by omega) (by omega) rfl rfl
  have c1 := combine17_run 1 (.inl rfl) (.sl (a.map iD)) (.sl (b.map iD)) a b (by omega) (by omega) rfl rfl
  have c2 := combine17_run 2 (.inr (.inl rfl)) (.sl (a.map iD)) (.sl (b.map iD)) a b (by omega) (by omega) rfl rfl
  have c3 := combine17_run 3 (.inr (.inr rfl)) (.sl (a.map iD)) (.sl (b.map iD)) a b (by omega) (by omega) rfl rfl
  rw [or3 na nb] at u1
  rw [and3 na nb] at u2
  rw [not3 na nb] at u3
  have r1 := refC_len (opF3 1) a b
  have r2 := refC_len (opF3 2) a b
  have r3 := refC_len (opF3 3) a b
  generalize refC (opF3 1) a b = x1 at *
  generalize refC (opF3 2) a b = x2 at *
  generalize refC (opF3 3) a b = x3 at *
  have e1 := equal15_run (.sl (x1.map iD)) (.sl (x1.map iD)) x1 x1 (by omega) rfl rfl
  have e2 := equal15_run (.sl (x2.map iD)) (.sl (x2.map iD)) x2 x2 (by omega) rfl rfl
  have e3 := equal15_run (.sl (x3.map iD)) (.sl (x3.map iD)) x3 x3 (by omega) rfl rfl
  simp only [decide_true] at e1 e2 e3
  generalize a.map iD = EA at *
  generalize b.map iD = EB at *
  generalize x1.map iD = E1 at *
  generalize x2.map iD = E2 at *
  generalize x3.map iD = E3 at *
  simp [s3, TK.agg, constAV, evalAV, eqCells, EK.has, EK.hasAll, vecEls, elsR, AV.toD, toDs, AV.cells, AV.one, joinD, TyI.zeroD, OpR.of, binIntF, binStrF, AV.isPtr, ptrNil, slNil, mpNil, nilE, eqF, negF, posF, binF, pelF, pvLoad, pelSet, pvStore, boxLoad, epLoad, loadF, boxStore, storeF, fieldAddrF, fieldF, epOf, indexAddrF, byteF, indexF, mapLen, lenF, cutF, sliceF, isSl, slice3F, fillF, arrFs, buildF, partsX, landV, buildSliceF, roomB, appVec, appendF, mmFrom, mmF, max2', min2', clearVec, clearF, convF, unF, pickF, nilChkF, extF, ptrsOf, callF, makeSliceF, sameKs, sameD, kindIs, plainFs, keyOk, mapOb, mapEs, okV, lookF, lookupF, putE, putS, mapPut, mapUpdateF, mapDel, deleteF, mapAll, rangeM, rangeF, overV, hitV, nextO, nextF, entryM, entryO, entryF, itOids, builtinF, capsOf, allocF, boxF, bytesL, bytesF, byteTy, strTy, convertF, makeFuncF, makeMapF, makeMapH, opF, reach, reachOf, AObj.live, closedB, nodupB, packO, packL, packX, backN, backG, backO, obL, backE, frzX, frzO, AV.vids, frzL, landC, sameObs, landR, touchF, bitsW, D.cells, D.decEq, D.decEqs, AV.decEq, AV.decEqs, AObj.decEq, AV.oids0, AV.oids, AObj.oids, renG, renP, AV.ren0, AV.ren, envGet, envPut, envKeep, obGet, setEff, putV, St.put, stepS, keyChk, chkD, accD, Ex.block, AV.under, AObj.under, laysOf, roomFor, mkvO, frzG, szOk, killO, usedBy, tidyS, ghost, ghostE, normSt, resOf, allSome, one0, resultsF, finL, finishL, finish, endF, startEnv, chkC, backX, comeC, AV.flat0, rngC, loopO, layL, endLp, busyL, idleL, noRng, rndSt, rndEnd, wpn_nil, wpn_seq, wpn_loop, wpn_seq_exit, wpn_loop_exit, wpn_seq_ret, wpn_loop_ret, wpn_block, wpn_post, wpk_skip, wpk_exit, wpk_ret, wpk_reg, wpk_seq, wpk_condT, wpk_block, wpk_loop, wpk_pre, wpk_post, wop_nil, wop_cons, wop_guard, St.know, envSet, cond_d, cond_bool, cond_int, cond_str, endE, endQ, freeB, disj, pushT, bitsW, int_beq, int_bne, eqS_def, tbE, fuelL_eq, ann0_lays, ann0_dd, ann0_ro, elsOf_dsl, elsOf_dnils, toNat_succ, nn_succ, pos_succ, one_succ, rng1, rng2, rng3, rng4, rng5, rng6, rng7, rng8, List.idxOf_cons, wpk_rng, rndK, rndE, T2, T3, T4, T5, T6, T8, T9, T22, T23, T33, T38, T44, T45, T58, T60, T62, T63, T76, T85, T92, T94, CT, a0, b0, known_run, u1, u2, u3, c1, c2, c3, e1, e2, e3]
end Go.Proofs.YtnpppjipbkceeaaV
