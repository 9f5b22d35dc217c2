/- The law HeavyhitterOverflows: the walk. -/
import Derived.Test.YtdhbecdlablonaaWc22q
import Derived.Test.YtdhbecdlablonaaWe7a
set_option linter.unusedVariables false
set_option linter.unusedSimpArgs false
namespace Go.Proofs.YtdhbecdlablonaaV
open Go.RowKit
def kA : ByteArray := ⟨#[97]⟩
def kB : ByteArray := ⟨#[98]⟩
theorem kB_name : isName kB = true := by decide +kernel
theorem kA_name : isName kA = true := by decide +kernel
theorem kAB : lessS kA kB = true := by decide +kernel
def smA (gap : Int) : Sm := ⟨2, 1125899906842624 - gap, 0, [(kA, 5)]⟩
def smB (n : Int) : Sm := ⟨2, n, 0, [(kB, 1)]⟩
theorem smA_ok {gap : Int} (h : 0 ≤ gap ∧ gap < 4294967296) : okS (smA gap) :=
  ⟨by simp [smA], by simp [smA]; omega, by simp [smA], by simp [smA], by simp [smA, srt], by simp [smA, kA_name], by simp [smA], by simp [smA, sumC]; omega⟩
set_option maxRecDepth 100000 in
set_option maxHeartbeats 4000000 in
theorem law3_run (gap w : Int) (hg : 0 ≤ gap ∧ gap < 4294967296) (hw : 0 ≤ w ∧ w < 4294967296) : run CC 3 [.d (.int .u32 gap), .d (.int .u32 w)] [] = some (.d (.bool true), []) := by
  refine run_code (s := s3 0) rfl rfl rfl (by kernel_rfl) ?_
  have w1 : IntKind.i64.wrap w = w := wrap64 (by omega) (by omega)
  have w2 : IntKind.i64.wrap (1 + w) = 1 + w := wrap64 (by omega) (by omega)
  have w3 : IntKind.i64.wrap gap = gap := wrap64 (by omega) (by omega)
  have w4 : IntKind.i64.wrap (1125899906842624 - gap) = 1125899906842624 - gap := wrap64 (by omega) (by omega)
  have w5 : IntKind.i64.wrap (1125899906842624 - gap + (1 + w)) = 1125899906842624 - gap + (1 + w) := wrap64 (by omega) (by omega)
  have hok := smA_ok hg
  have heq0 := equal_run ⟨0, 0, 0, []⟩ ⟨0, 0, 0, []⟩ .nils .nils (by simp) rfl rfl
  rw [decide_eq_true rfl] at heq0
  by_cases h : gap < 1 + w
  · have hbad := addP_bad (smA gap) (.sl (csD [(kA, 5)])) rfl kB (1 + w) 20 (by
      rw [if_neg (by simp [kB_name]), if_neg (by omega), if_neg (by omega), if_pos]
      show 1125899906842624 < IntKind.i64.wrap (1125899906842624 - gap + (1 + w))
      rw [w5]; omega) (by decide)
    have hmb := merge_bad (smA gap) (smB (1 + w)) (.sl (csD [(kA, 5)])) (.sl (csD [(kB, 1)])) rfl rfl 20 (by
      unfold mrgE
      rw [if_neg (by simp [smA, smB]), if_pos]
      show 1125899906842624 < IntKind.i64.wrap (1125899906842624 - gap + (1 + w))
      rw [w5]; omega) (by decide)
    simp only [smD, smA, smB, csD, List.map_cons, List.map_nil, cE, kA, kB] at hbad hmb heq0
    simp [s3, TK.agg, constAV, evalAV, eqCells, EK.has, EK.hasAll, vecEls, elsR, AV.toD, toDs, AV.cells, AV.one, joinD, TyI.zeroD, OpR.of, binIntF, binStrF, AV.isPtr, ptrNil, slNil, mpNil, nilE, eqF, negF, posF, binF, pelF, pvLoad, pelSet, pvStore, boxLoad, epLoad, loadF, boxStore, storeF, fieldAddrF, fieldF, epOf, indexAddrF, byteF, indexF, mapLen, lenF, cutF, sliceF, isSl, slice3F, fillF, arrFs, buildF, partsX, landV, buildSliceF, roomB, appVec, appendF, mmFrom, mmF, max2', min2', clearVec, clearF, convF, unF, pickF, nilChkF, extF, ptrsOf, callF, makeSliceF, sameKs, sameD, kindIs, plainFs, keyOk, mapOb, mapEs, okV, lookF, lookupF, putE, putS, mapPut, mapUpdateF, mapDel, deleteF, mapAll, rangeM, rangeF, overV, hitV, nextO, nextF, entryM, entryO, entryF, itOids, builtinF, capsOf, allocF, boxF, bytesL, bytesF, byteTy, strTy, convertF, makeFuncF, makeMapF, makeMapH, opF, reach, reachOf, AObj.live, closedB, nodupB, packO, packL, packX, backN, backG, backO, obL, backE, frzX, frzO, AV.vids, frzL, landC, sameObs, landR, touchF, D.cells, D.decEq, D.decEqs, AV.decEq, AV.decEqs, AObj.decEq, AV.oids0, AV.oids, AObj.oids, renG, renP, AV.ren0, AV.ren, envGet, envPut, envKeep, obGet, setEff, putV, St.put, stepS, keyChk, chkD, accD, Ex.block, AV.under, AObj.under, laysOf, roomFor, mkvO, frzG, szOk, killO, usedBy, tidyS, ghost, ghostE, normSt, resOf, allSome, one0, resultsF, finL, finishL, finish, endF, startEnv, chkC, backX, comeC, wpn_nil, wpn_seq, wpn_loop, wpn_seq_exit, wpn_loop_exit, wpn_seq_ret, wpn_loop_ret, wpn_block, wpn_post, wpk_skip, wpk_exit, wpk_ret, wpk_reg, wpk_seq, wpk_condT, wpk_block, wpk_loop, wpk_pre, wpk_post, wop_nil, wop_cons, wop_guard, St.know, envSet, cond_d, cond_bool, cond_int, cond_str, endE, endQ, freeB, disj, pushT, bitsW, int_beq, int_bne, eqS_def, tbE, fuelL_eq, ann0_lays, ann0_dd, ann0_ro, elsOf_dsl, elsOf_dnils, toNat_succ, nn_succ, pos_succ, one_succ, rng1, rng2, rng3, rng4, rng5, rng6, rng7, rng8, List.idxOf_cons, T3, T4, T5, T9, T22, T25, T26, T28, T29, T36, T41, T47, T56, T69, T74, T78, T85, T90, T98, CT, known_run, w1, w2, w3, w4, hbad, hmb, heq0, h]
  · have hup : (smA gap).up kB (1 + w) := .inr (by simp [smA])
    have hadd := addP_run hok (by simp [smA]) (.sl (csD [(kA, 5)])) rfl kB_name (by omega : 1 ≤ 1 + w) (by omega) (by simp only [smA]; omega)
    have hadm := add_run (smA gap) (.sl (csD [(kA, 5)])) (by simp [smA]) rfl kB (1 + w)
    have he : addS (smA gap) kB (1 + w) = ⟨2, 1125899906842624 - gap + (1 + w), 0, [(kA, 5), (kB, 1 + w)]⟩ := by
      unfold addS
      rw [if_pos hup]
      simp only [smA, w5, putC, kAB]
      rfl
    rw [he] at hadd hadm
    have heq := equal_run ⟨2, 1125899906842624 - gap + (1 + w), 0, [(kA, 5), (kB, 1 + w)]⟩ ⟨2, 1125899906842624 - gap + (1 + w), 0, [(kA, 5), (kB, 1 + w)]⟩ (.sl (csD [(kA, 5), (kB, 1 + w)])) (.sl (csD [(kA, 5), (kB, 1 + w)])) (by simp) rfl rfl
    rw [decide_eq_true rfl] at heq
    have hm : mrg [(kA, 5)] [(kB, 1)] = [(kA, 5), (kB, 1)] := by decide +kernel
    have hmf := merge_fit (smA gap) (smB (1 + w)) (.sl (csD [(kA, 5)])) (.sl (csD [(kB, 1)])) rfl rfl hok.srt (by simp [smA]) (by simp [smB]) hok.small rfl ⟨w5, by simp only [smA, smB]; omega⟩ (fun pre c suf hps => by
      match pre, hps with
      | [], hps =>
        simp only [smB, List.nil_append, List.cons.injEq] at hps
        obtain ⟨rfl, rfl⟩ := hps
        show IntKind.i64.wrap (getM [(kA, 5)] kB + 1) = getM [(kA, 5)] kB + 1
        decide +kernel
      | p :: pre, hps => simp [smB] at hps) (by simp only [smA, smB, hm]; simp) [(kA, 5), (kB, 1)] (by simp only [smA, smB, hm]; decide +kernel) (by simp [srt, kAB]) (by simp)
    have w0 : IntKind.i64.wrap 0 = 0 := rfl
    simp only [smD, smA, smB, csD, List.map_cons, List.map_nil, cE, kA, kB, Int.add_zero, w0] at hadd hadm heq hmf
    simp [s3, TK.agg, constAV, evalAV, eqCells, EK.has, EK.hasAll, vecEls, elsR, AV.toD, toDs, AV.cells, AV.one, joinD, TyI.zeroD, OpR.of, binIntF, binStrF, AV.isPtr, ptrNil, slNil, mpNil, nilE, eqF, negF, posF, binF, pelF, pvLoad, pelSet, pvStore, boxLoad, epLoad, loadF, boxStore, storeF, fieldAddrF, fieldF, epOf, indexAddrF, byteF, indexF, mapLen, lenF, cutF, sliceF, isSl, slice3F, fillF, arrFs, buildF, partsX, landV, buildSliceF, roomB, appVec, appendF, mmFrom, mmF, max2', min2', clearVec, clearF, convF, unF, pickF, nilChkF, extF, ptrsOf, callF, makeSliceF, sameKs, sameD, kindIs, plainFs, keyOk, mapOb, mapEs, okV, lookF, lookupF, putE, putS, mapPut, mapUpdateF, mapDel, deleteF, mapAll, rangeM, rangeF, overV, hitV, nextO, nextF, entryM, entryO, entryF, itOids, builtinF, capsOf, allocF, boxF, bytesL, bytesF, byteTy, strTy, convertF, makeFuncF, makeMapF, makeMapH, opF, reach, reachOf, AObj.live, closedB, nodupB, packO, packL, packX, backN, backG, backO, obL, backE, frzX, frzO, AV.vids, frzL, landC, sameObs, landR, touchF, D.cells, D.decEq, D.decEqs, AV.decEq, AV.decEqs, AObj.decEq, AV.oids0, AV.oids, AObj.oids, renG, renP, AV.ren0, AV.ren, envGet, envPut, envKeep, obGet, setEff, putV, St.put, stepS, keyChk, chkD, accD, Ex.block, AV.under, AObj.under, laysOf, roomFor, mkvO, frzG, szOk, killO, usedBy, tidyS, ghost, ghostE, normSt, resOf, allSome, one0, resultsF, finL, finishL, finish, endF, startEnv, chkC, backX, comeC, wpn_nil, wpn_seq, wpn_loop, wpn_seq_exit, wpn_loop_exit, wpn_seq_ret, wpn_loop_ret, wpn_block, wpn_post, wpk_skip, wpk_exit, wpk_ret, wpk_reg, wpk_seq, wpk_condT, wpk_block, wpk_loop, wpk_pre, wpk_post, wop_nil, wop_cons, wop_guard, St.know, envSet, cond_d, cond_bool, cond_int, cond_str, endE, endQ, freeB, disj, pushT, bitsW, int_beq, int_bne, eqS_def, tbE, fuelL_eq, ann0_lays, ann0_dd, ann0_ro, elsOf_dsl, elsOf_dnils, toNat_succ, nn_succ, pos_succ, one_succ, rng1, rng2, rng3, rng4, rng5, rng6, rng7, rng8, List.idxOf_cons, T3, T4, T5, T9, T22, T25, T26, T28, T29, T36, T41, T47, T56, T69, T74, T78, T85, T90, T98, CT, known_run, w1, w2, w3, w4, w5, hadd, hadm, heq, hmf, h]
end Go.Proofs.YtdhbecdlablonaaV
