/- The law TimesetAlgebra: the walk. -/
import Derived.Test.YtnpppjipbkceeaaWe3
import Derived.Test.YtnpppjipbkceeaaTm8
set_option linter.unusedVariables false
set_option linter.unusedSimpArgs false
namespace Go.Proofs.YtnpppjipbkceeaaV
open Go.RowKit
theorem eq_self (a : List Iv) (ha : a.length < 1000000) : run CC 15 [.d (.sl (a.map iD)), .d (.sl (a.map iD))] [] = some (.d (.bool true), []) := by
  simpa only [decide_true] using equal15_run (.sl (a.map iD)) (.sl (a.map iD)) a a ha rfl rfl
set_option maxRecDepth 100000 in
set_option maxHeartbeats 2000000 in
theorem law4_run (A B C : D) (l m n : List Sp) (hl : l.length < 4611686018427387904) (hm : m.length < 4611686018427387904) (hn : n.length < 4611686018427387904) (hA : elsOf (.d A) = some (l.map sD)) (hB : elsOf (.d B) = some (m.map sD)) (hC : elsOf (.d C) = some (n.map sD)) (hl1 : ∀ s ∈ l, Sp.ok s) (hm1 : ∀ s ∈ m, Sp.ok s) (hn1 : ∀ s ∈ n, Sp.ok s) : run CC 4 [.d A, .d B, .d C] [] = some (.d (.bool true), []) := by
  refine run_code (s := s4 0) rfl rfl rfl (by kernel_rfl) ?_
  have a0 := set13_run A l hl hA hl1
  have b0 := set13_run B m hm hB hm1
  have c0 := set13_run C n hn hC hn1
  have la := setI_len l
  have lb := setI_len m
  have lc := setI_len n
  have na := setI_norm l
  have nb := setI_norm m
  have nc := setI_norm n
  have wa := setI_within hl1
  have wb := setI_within hm1
  generalize setI l = a at *
  generalize setI m = b at *
  generalize setI n = c at *
  obtain ⟨wu, wi, hlen⟩ := alg_len na nb wa wb
  have nu := (cmb_spec (fun x y => x || y) rfl na nb).1
  have ni := (cmb_spec (fun x y => x && y) rfl na nb).1
  have nm := (cmb_spec (fun x y => x && !y) rfl na nb).1
  have lu := cmb_len (fun x y => x || y) rfl na nb
  have li := cmb_len (fun x y => x && y) rfl na nb
  have lm := cmb_len (fun x y => x && !y) rfl na nb
  have lac := cmb_len (fun x y => x && y) rfl na nc
  have lbc := cmb_len (fun x y => x && y) rfl nb nc
  have u1 := union16_run (.sl (a.map iD)) (.sl (b.map iD)) a b (by omega) (by omega) rfl rfl
  have u2 := union16_run (.sl (b.map iD)) (.sl (a.map iD)) b a (by omega) (by omega) rfl rfl
  rw [or_comm na nb] at u2
  have i1 := inter18_run (.sl (a.map iD)) (.sl (b.map iD)) a b (by omega) (by omega) rfl rfl
  have i2 := inter18_run (.sl (b.map iD)) (.sl (a.map iD)) b a (by omega) (by omega) rfl rfl
  rw [an_comm na nb] at i2
  have m1 := minus19_run (.sl (a.map iD)) (.sl (b.map iD)) a b (by omega) (by omega) rfl rfl
  have i3 := inter18_run (.sl (a.map iD)) (.sl (c.map iD)) a c (by omega) (by omega) rfl rfl
  have i4 := inter18_run (.sl (b.map iD)) (.sl (c.map iD)) b c (by omega) (by omega) rfl rfl
  have d1 := distr na nb nc
  have p1 := or_parts na nb
  have z1 := no_rest na nb
  generalize cmb (fun x y => x || y) a b = u at *
  generalize cmb (fun x y => x && y) a b = i at *
  generalize cmb (fun x y => x && !y) a b = k at *
  generalize cmb (fun x y => x && y) a c = ac at *
  generalize cmb (fun x y => x && y) b c = bc at *
  have i5 := inter18_run (.sl (u.map iD)) (.sl (c.map iD)) u c (by omega) (by omega) rfl rfl
  have u3 := union16_run (.sl (ac.map iD)) (.sl (bc.map iD)) ac bc (by omega) (by omega) rfl rfl
  have lx := cmb_len (fun x y => x && y) rfl nu nc
  rw [d1] at u3
  generalize cmb (fun x y => x && y) u c = x at *
  have u4 := union16_run (.sl (i.map iD)) (.sl (k.map iD)) i k (by omega) (by omega) rfl rfl
  rw [p1] at u4
  have i6 := inter18_run (.sl (k.map iD)) (.sl (b.map iD)) k b (by omega) (by omega) rfl rfl
  rw [z1] at i6
  have ba := bnd_within na wa
  have bb := bnd_within nb wb
  have bu := bnd_within nu wu
  have bi := bnd_within ni wi
  have g1 := length20_run (.sl (a.map iD)) a (by omega) ba rfl
  have g2 := length20_run (.sl (b.map iD)) b (by omega) bb rfl
  have g3 := length20_run (.sl (u.map iD)) u (by omega) bu rfl
  have g4 := length20_run (.sl (i.map iD)) i (by omega) bi rfl
  have h1 := lenI_bnd ba
  have h2 := lenI_bnd bb
  have e1 := eq_self u (by omega)
  have e2 := eq_self i (by omega)
  have e3 := eq_self x (by omega)
  have e4 := eq_self a (by omega)
  have w1 : IntKind.i64.wrap (lenI a + lenI b) = lenI a + lenI b := wrap64 (by omega) (by omega)
  rw [hlen] at w1
  simp only [List.map_nil] at i6
  clear d1 p1 z1 nu ni nm na nb nc wa wb wu wi
  generalize a.map iD = EA at *
  generalize b.map iD = EB at *
  generalize c.map iD = EC at *
  generalize u.map iD = EU at *
  generalize i.map iD = EI at *
  generalize k.map iD = EK1 at *
  generalize x.map iD = EX1 at *
  generalize ac.map iD = EAC at *
  generalize bc.map iD = EBC at *
  generalize lenI a = La at *
  generalize lenI b = Lb at *
  generalize lenI u = Lu at *
  generalize lenI i = Li at *
  simp [s4, TK.agg, constAV, evalAV, eqCells, EK.has, EK.hasAll, vecEls, elsR, AV.toD, toDs, AV.cells, AV.one, joinD, TyI.zeroD, OpR.of, binIntF, binStrF, AV.isPtr, ptrNil, slNil, mpNil, nilE, eqF, negF, posF, binF, pelF, pvLoad, pelSet, pvStore, boxLoad, epLoad, loadF, boxStore, storeF, fieldAddrF, fieldF, epOf, indexAddrF, byteF, indexF, mapLen, lenF, cutF, sliceF, isSl, slice3F, fillF, arrFs, buildF, partsX, landV, buildSliceF, roomB, appVec, appendF, mmFrom, mmF, max2', min2', clearVec, clearF, convF, unF, pickF, nilChkF, extF, ptrsOf, callF, makeSliceF, sameKs, sameD, kindIs, plainFs, keyOk, mapOb, mapEs, okV, lookF, lookupF, putE, putS, mapPut, mapUpdateF, mapDel, deleteF, mapAll, rangeM, rangeF, overV, hitV, nextO, nextF, entryM, entryO, entryF, itOids, builtinF, capsOf, allocF, boxF, bytesL, bytesF, byteTy, strTy, convertF, makeFuncF, makeMapF, makeMapH, opF, reach, reachOf, AObj.live, closedB, nodupB, packO, packL, packX, backN, backG, backO, obL, backE, frzX, frzO, AV.vids, frzL, landC, sameObs, landR, touchF, bitsW, D.cells, D.decEq, D.decEqs, AV.decEq, AV.decEqs, AObj.decEq, AV.oids0, AV.oids, AObj.oids, renG, renP, AV.ren0, AV.ren, envGet, envPut, envKeep, obGet, setEff, putV, St.put, stepS, keyChk, chkD, accD, Ex.block, AV.under, AObj.under, laysOf, roomFor, mkvO, frzG, szOk, killO, usedBy, tidyS, ghost, ghostE, normSt, resOf, allSome, one0, resultsF, finL, finishL, finish, endF, startEnv, chkC, backX, comeC, AV.flat0, rngC, loopO, layL, endLp, busyL, idleL, noRng, rndSt, rndEnd, wpn_nil, wpn_seq, wpn_loop, wpn_seq_exit, wpn_loop_exit, wpn_seq_ret, wpn_loop_ret, wpn_block, wpn_post, wpk_skip, wpk_exit, wpk_ret, wpk_reg, wpk_seq, wpk_condT, wpk_block, wpk_loop, wpk_pre, wpk_post, wop_nil, wop_cons, wop_guard, St.know, envSet, cond_d, cond_bool, cond_int, cond_str, endE, endQ, freeB, disj, pushT, bitsW, int_beq, int_bne, eqS_def, tbE, fuelL_eq, ann0_lays, ann0_dd, ann0_ro, elsOf_dsl, elsOf_dnils, toNat_succ, nn_succ, pos_succ, one_succ, rng1, rng2, rng3, rng4, rng5, rng6, rng7, rng8, List.idxOf_cons, wpk_rng, rndK, rndE, T2, T3, T4, T5, T6, T8, T9, T22, T23, T33, T38, T44, T45, T58, T60, T62, T63, T76, T85, T92, T94, CT, a0, b0, c0, known_run, u1, u2, i1, i2, m1, i3, i4, i5, u3, u4, i6, g1, g2, g3, g4, e1, e2, e3, e4, hlen, w1]
end Go.Proofs.YtnpppjipbkceeaaV
