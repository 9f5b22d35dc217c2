/- A yield of the edges. -/
import Derived.Test.YtnpppjipbkceeaaTc6
set_option linter.unusedVariables false
set_option linter.unusedSimpArgs false
namespace Go.Proofs.YtnpppjipbkceeaaV
open Go.RowKit
set_option maxRecDepth 100000 in
set_option maxHeartbeats 2000000 in
theorem tail77 (g : Nat) (f : Bool → Bool → Bool) (hne : g ≠ 1000000007) (hg : ∀ x y, run CC g [.d (.bool x), .d (.bool y)] [] = some (.d (.bool (f x y)), [])) (A B : D) (s : Cs) (at_ i k : Int) (x y : Bool) (hx : (Int.tmod i 2 = 1) = (x = true)) (hy : (Int.tmod k 2 = 1) = (y = true)) (hl : s.o.length < 1000000) (ks : List Fr) (K : Ex → St → Prop)
    (hnext : wlp CC (s77_1 8) ⟨[(0, .yl 0), (1, .ptr 6 0), (2, .ptr 7 0), (4, .d (.int .i64 i)), (5, .d (.int .i64 k))], cob g (s.step f at_ x y) ++ [.box [.d A], .box [.d B]]⟩ ks K) :
    wpk CC (t77_63 8) ⟨[(0, .yl 0), (1, .ptr 6 0), (2, .ptr 7 0), (4, .d (.int .i64 i)), (5, .d (.int .i64 k)), (10, .d (.int .i64 at_))], cob g s ++ [.box [.d A], .box [.d B]]⟩ (.block 1 :: .post (.tidy [0, 1, 2, 4, 5] 8 8) :: .loop (s77_1 8) :: ks) K := by
  obtain ⟨o, fr, op, mv⟩ := s
  have hr := round_run g f hne hg o fr at_ op x y hl
  have hm : (o ++ [(fr, at_)]).map iD = o.map iD ++ [.agg [.int .i64 fr, .int .i64 at_]] := by simp [iD]
  have htk : (o.map iD).take o.length = o.map iD := takeM _ _
  have hml : (o.map iD).length = o.length := by simp
  cases hfx : f x y <;> cases op
  all_goals
    simp only [cob, Cs.step, hfx, if_true, if_false, Bool.false_eq_true, hm, List.length_append, List.length_cons, List.length_nil, Nat.zero_add] at hr hnext ⊢
    generalize o.map iD = E at *
    cases mv
    all_goals
      simp at hnext
      simp [t77_63, TK.agg, constAV, evalAV, eqCells, EK.has, EK.hasAll, vecEls, elsR, AV.toD, toDs, AV.cells, AV.one, joinD, TyI.zeroD, OpR.of, binIntF, binStrF, AV.isPtr, ptrNil, slNil, mpNil, nilE, eqF, negF, posF, binF, pelF, pvLoad, pelSet, pvStore, boxLoad, epLoad, loadF, boxStore, storeF, fieldAddrF, fieldF, epOf, indexAddrF, byteF, indexF, mapLen, lenF, cutF, sliceF, isSl, slice3F, fillF, arrFs, buildF, partsX, landV, buildSliceF, roomB, appVec, appendF, mmFrom, mmF, max2', min2', clearVec, clearF, convF, unF, pickF, nilChkF, extF, ptrsOf, callF, makeSliceF, sameKs, sameD, kindIs, plainFs, keyOk, mapOb, mapEs, okV, lookF, lookupF, putE, putS, mapPut, mapUpdateF, mapDel, deleteF, mapAll, rangeM, rangeF, overV, hitV, nextO, nextF, entryM, entryO, entryF, itOids, builtinF, capsOf, allocF, boxF, bytesL, bytesF, byteTy, strTy, convertF, makeFuncF, makeMapF, makeMapH, opF, reach, reachOf, AObj.live, closedB, nodupB, packO, packL, packX, backN, backG, backO, obL, backE, frzX, frzO, AV.vids, frzL, landC, sameObs, landR, touchF, bitsW, D.cells, D.decEq, D.decEqs, AV.decEq, AV.decEqs, AObj.decEq, AV.oids0, AV.oids, AObj.oids, renG, renP, AV.ren0, AV.ren, envGet, envPut, envKeep, obGet, setEff, putV, St.put, stepS, keyChk, chkD, accD, Ex.block, AV.under, AObj.under, laysOf, roomFor, mkvO, frzG, szOk, killO, usedBy, tidyS, ghost, ghostE, normSt, resOf, allSome, one0, resultsF, finL, finishL, finish, endF, startEnv, chkC, backX, comeC, AV.flat0, rngC, loopO, layL, endLp, busyL, idleL, noRng, rndSt, rndEnd, wpn_nil, wpn_seq, wpn_loop, wpn_seq_exit, wpn_loop_exit, wpn_seq_ret, wpn_loop_ret, wpn_block, wpn_post, wpk_skip, wpk_exit, wpk_ret, wpk_reg, wpk_seq, wpk_condT, wpk_block, wpk_loop, wpk_pre, wpk_post, wop_nil, wop_cons, wop_guard, St.know, envSet, cond_d, cond_bool, cond_int, cond_str, endE, endQ, freeB, disj, pushT, bitsW, int_beq, int_bne, eqS_def, tbE, fuelL_eq, ann0_lays, ann0_dd, ann0_ro, elsOf_dsl, elsOf_dnils, toNat_succ, nn_succ, pos_succ, one_succ, rng1, rng2, rng3, rng4, rng5, rng6, rng7, rng8, List.idxOf_cons, wpk_rng, rndK, rndE, T2, T3, T4, T5, T6, T8, T9, T22, T23, T33, T38, T44, T45, T58, T60, T62, T63, T76, T85, T92, T94, CT, hr, hx, hy]
      exact hnext
end Go.Proofs.YtnpppjipbkceeaaV
