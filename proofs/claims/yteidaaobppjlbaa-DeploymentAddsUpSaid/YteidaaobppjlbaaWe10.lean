/- The law DeploymentAddsUp: the walk. -/
import Derived.Test.YteidaaobppjlbaaWd45
import Derived.Test.YteidaaobppjlbaaVD
set_option linter.unusedVariables false
set_option linter.unusedSimpArgs false
namespace Go.Proofs.YteidaaobppjlbaaV
open Go.RowKit
abbrev getM (m : List (ByteArray × Int)) (s : ByteArray) : Int := (lookP strK s m).getD 0
theorem getM_put (m : List (ByteArray × Int)) (k s : ByteArray) (v : Int) : getM (putP strK k v m) s = if s = k then v else getM m s := by
  unfold getM
  rw [look_put]
  by_cases h : s = k
  · subst h; simp [strK, eqS_self]
  · have : ¬ strK.eqb s k = true := fun q => h ((strK.eq s k).1 q)
    simp [h, this]
set_option maxRecDepth 100000 in
set_option maxHeartbeats 2000000 in
theorem loop10_1 (B : D) (L : List Chg) (S : List Spn) (hS : S.length ≤ 24) (hso : allSp S) (ks : List Fr) (K : Ex → St → Prop)
    (hnext : ∀ m, (∀ s, getM m s = cntA L s S) → keysNe strK m → wpn CC .norm ⟨[(5, .d B), (6, .d (.sl (spD S))), (7, .mp 1), (8, .d (.sl (tiD (joinL L S))))], [.dead, .map (mapSI m)]⟩ ks K) :
    wlp CC (s10_1 0) ⟨[(5, .d B), (6, .d (.sl (spD S))), (7, .mp 1), (8, .d (.sl (tiD (joinL L S)))), (9, .d (.int .i64 0))], [.dead, .map []]⟩ (.block 0 :: .post (.tidy [5, 6, 7, 8] 0 2) :: .post (.tidy [5, 6, 7, 8] 0 2) :: ks) K := by
  have hjl : (joinL L S).length = S.length := by simp [joinL]
  refine wlp_inv (S := fun p : List Spn × List Spn × List (ByteArray × Int) => ⟨[(5, .d B), (6, .d (.sl (spD S))), (7, .mp 1), (8, .d (.sl (tiD (joinL L S)))), (9, .d (.int .i64 p.1.length))], [.dead, .map (mapSI p.2.2)]⟩) (m := fun p => p.2.1.length)
    (Inv := fun p => p.1 ++ p.2.1 = S ∧ (∀ s, getM p.2.2 s = cntA L s p.1) ∧ keysNe strK p.2.2) ?_ ([], S, []) ⟨rfl, fun s => rfl, List.Pairwise.nil⟩
  rintro ⟨pre, suf, m⟩ ⟨hps, hm, hk⟩ ih
  rw [e10_1]
  simp only at hps hm hk ⊢
  cases suf with
  | nil =>
    have hn := endL hps
    rw [List.append_nil] at hps
    subst hps
    have hnext := hnext m hm hk
    simp [c10_1, TK.agg, constAV, evalAV, eqCells, EK.has, EK.hasAll, vecEls, elsR, AV.toD, toDs, AV.cells, AV.one, joinD, TyI.zeroD, OpR.of, binIntF, binStrF, AV.isPtr, ptrNil, slNil, mpNil, nilE, eqF, negF, posF, binF, pelF, pvLoad, pelSet, pvStore, boxLoad, epLoad, loadF, boxStore, storeF, fieldAddrF, fieldF, epOf, indexAddrF, byteF, indexF, mapLen, lenF, cutF, sliceF, isSl, slice3F, fillF, arrFs, buildF, partsX, landV, buildSliceF, roomB, appVec, appendF, mmFrom, mmF, max2', min2', clearVec, clearF, convF, unF, pickF, nilChkF, extF, ptrsOf, callF, makeSliceF, sameKs, sameD, kindIs, plainFs, keyOk, mapOb, mapEs, okV, lookF, lookupF, putE, putS, mapPut, mapUpdateF, mapDel, deleteF, mapAll, rangeM, rangeF, overV, hitV, nextO, nextF, entryM, entryO, entryF, itOids, builtinF, capsOf, allocF, boxF, convertF, makeFuncF, makeMapF, makeMapH, opF, reach, reachOf, AObj.live, closedB, nodupB, packO, packL, packX, backN, backG, backO, obL, backE, frzX, frzO, AV.vids, frzL, landC, sameObs, landR, touchF, D.cells, D.decEq, D.decEqs, AV.decEq, AV.decEqs, AObj.decEq, AV.oids0, AV.oids, AObj.oids, renG, renP, AV.ren0, AV.ren, envGet, envPut, envKeep, obGet, setEff, putV, St.put, stepS, keyChk, chkD, accD, Ex.block, AV.under, AObj.under, laysOf, roomFor, mkvO, frzG, szOk, killO, usedBy, tidyS, ghost, ghostE, normSt, resOf, allSome, one0, resultsF, finL, finishL, finish, endF, startEnv, chkC, backX, comeC, wpn_nil, wpn_seq, wpn_loop, wpn_seq_exit, wpn_loop_exit, wpn_seq_ret, wpn_loop_ret, wpn_block, wpn_post, wpk_skip, wpk_exit, wpk_ret, wpk_reg, wpk_seq, wpk_condT, wpk_block, wpk_loop, wpk_pre, wpk_post, wop_nil, wop_cons, wop_guard, St.know, envSet, cond_d, cond_bool, cond_int, cond_str, endE, endQ, freeB, disj, pushT, bitsW, int_beq, int_bne, eqS_def, tbE, fuelL_eq, ann0_lays, ann0_dd, ann0_ro, elsOf_dsl, elsOf_dnils, toNat_succ, nn_succ, pos_succ, one_succ, rng1, rng2, rng3, rng4, rng5, rng6, rng7, rng8, List.idxOf_cons, T3, T4, T5, T9, T22, T26, T27, T30, T32, T34, T37, T39, T45, T46, T47, T48, T50, T52, T54, T56, T59, T61, T64, T66, T72, T73, T78, T99, T101, T103, T104, T107, T110, T113, T116, T154, T169, T171, T194, CT, hn]
    exact hnext
  | cons x suf =>
    obtain ⟨k1, k2, k3, k4, k5, k6⟩ := atL Spn.enc hps (by omega)
    have kg := getL k5 k4
    obtain ⟨⟨al, hal⟩, ⟨ll, hll⟩⟩ := hso x (List.mem_of_getElem? k5)
    obtain ⟨d1, d2, d3⟩ := slF hal
    simp only [AV.one, AV.cells, D.cells] at d1 d2 d3
    obtain ⟨f1, f2, f3⟩ := slF hll
    simp only [AV.one, AV.cells, D.cells] at f1 f2 f3
    have hji : (joinL L S)[pre.length]? = some (idS L x) := by simp [joinL, k5]
    obtain ⟨j1, j2, j3⟩ := atN (D.int .i64) hji (by omega)
    have jg := getL hji j1
    have hv := hm x.svc
    have hb := cntA_le L x.svc pre
    have hpl : pre.length ≤ 24 := by omega
    have hlook := lookF_get strK (D.int .i64) x.svc m 0
    rw [show (lookP strK x.svc m).getD 0 = cntA L x.svc pre from hv] at hlook
    have hput := putE_put strK (D.int .i64) x.svc (cntA L x.svc pre + 1) m
    have w1 : IntKind.i64.wrap (cntA L x.svc pre + 1) = cntA L x.svc pre + 1 := wrap64 (by omega) (by omega)
    have ih1 := ih (pre ++ [x], suf, putP strK x.svc (cntA L x.svc pre + 1) m)
    have hlook2 := lookF_get strK (D.int .i64) x.svc (putP strK x.svc (cntA L x.svc pre + 1) m) 0
    rw [show (lookP strK x.svc (putP strK x.svc (cntA L x.svc pre + 1) m)).getD 0 = cntA L x.svc pre + 1 by rw [look_put]; simp [strK, eqS_self]] at hlook2
    have hput2 := putE_put strK (D.int .i64) x.svc (cntA L x.svc pre) (putP strK x.svc (cntA L x.svc pre + 1) m)
    have w2 : IntKind.i64.wrap (cntA L x.svc pre + 1 - 1) = cntA L x.svc pre := by rw [Int.add_sub_cancel]; exact wrap64 (by omega) (by omega)
    rw [Int.add_sub_cancel] at w2
    have ih2 := ih (pre ++ [x], suf, putP strK x.svc (cntA L x.svc pre) (putP strK x.svc (cntA L x.svc pre + 1) m))
    change lookF false (some (D.int .i64 0)) (findD (.str x.svc) (mapSI m) 0) = some (.d (.int .i64 (cntA L x.svc pre))) at hlook
    change putE (.str x.svc) (.int .i64 (cntA L x.svc pre + 1)) (mapSI m) (findD (.str x.svc) (mapSI m) 0) = some (mapSI (putP strK x.svc (cntA L x.svc pre + 1) m)) at hput
    have q1 : cntA L x.svc pre < 100 := by omega
    generalize hc : cntA L x.svc pre = n at *
    generalize hm1 : putP strK x.svc (n + 1) m = m1 at *
    change lookF false (some (D.int .i64 0)) (findD (.str x.svc) (mapSI m1) 0) = some (.d (.int .i64 (n + 1))) at hlook2
    change putE (.str x.svc) (.int .i64 n) (mapSI m1) (findD (.str x.svc) (mapSI m1) 0) = some (mapSI (putP strK x.svc n m1)) at hput2
    simp only [spD, Spn.enc] at k3
    by_cases hid : idS L x = 0
    · have ih2 := ih2 ⟨by simpa using hps, fun s => by
        rw [cntA_app, ← hm1, getM_put, getM_put, hm s]
        by_cases e : s = x.svc
        · subst e; simp [hid, hc]
        · simp [e, Ne.symm e], by rw [← hm1]; exact put_keys strK (put_keys strK hk)⟩ (by simp)
      simp at ih2
      simp [c10_1, TK.agg, constAV, evalAV, eqCells, EK.has, EK.hasAll, vecEls, elsR, AV.toD, toDs, AV.cells, AV.one, joinD, TyI.zeroD, OpR.of, binIntF, binStrF, AV.isPtr, ptrNil, slNil, mpNil, nilE, eqF, negF, posF, binF, pelF, pvLoad, pelSet, pvStore, boxLoad, epLoad, loadF, boxStore, storeF, fieldAddrF, fieldF, epOf, indexAddrF, byteF, indexF, mapLen, lenF, cutF, sliceF, isSl, slice3F, fillF, arrFs, buildF, partsX, landV, buildSliceF, roomB, appVec, appendF, mmFrom, mmF, max2', min2', clearVec, clearF, convF, unF, pickF, nilChkF, extF, ptrsOf, callF, makeSliceF, sameKs, sameD, kindIs, plainFs, keyOk, mapOb, mapEs, okV, lookF, lookupF, putE, putS, mapPut, mapUpdateF, mapDel, deleteF, mapAll, rangeM, rangeF, overV, hitV, nextO, nextF, entryM, entryO, entryF, itOids, builtinF, capsOf, allocF, boxF, convertF, makeFuncF, makeMapF, makeMapH, opF, reach, reachOf, AObj.live, closedB, nodupB, packO, packL, packX, backN, backG, backO, obL, backE, frzX, frzO, AV.vids, frzL, landC, sameObs, landR, touchF, D.cells, D.decEq, D.decEqs, AV.decEq, AV.decEqs, AObj.decEq, AV.oids0, AV.oids, AObj.oids, renG, renP, AV.ren0, AV.ren, envGet, envPut, envKeep, obGet, setEff, putV, St.put, stepS, keyChk, chkD, accD, Ex.block, AV.under, AObj.under, laysOf, roomFor, mkvO, frzG, szOk, killO, usedBy, tidyS, ghost, ghostE, normSt, resOf, allSome, one0, resultsF, finL, finishL, finish, endF, startEnv, chkC, backX, comeC, wpn_nil, wpn_seq, wpn_loop, wpn_seq_exit, wpn_loop_exit, wpn_seq_ret, wpn_loop_ret, wpn_block, wpn_post, wpk_skip, wpk_exit, wpk_ret, wpk_reg, wpk_seq, wpk_condT, wpk_block, wpk_loop, wpk_pre, wpk_post, wop_nil, wop_cons, wop_guard, St.know, envSet, cond_d, cond_bool, cond_int, cond_str, endE, endQ, freeB, disj, pushT, bitsW, int_beq, int_bne, eqS_def, tbE, fuelL_eq, ann0_lays, ann0_dd, ann0_ro, elsOf_dsl, elsOf_dnils, toNat_succ, nn_succ, pos_succ, one_succ, rng1, rng2, rng3, rng4, rng5, rng6, rng7, rng8, List.idxOf_cons, T3, T4, T5, T9, T22, T26, T27, T30, T32, T34, T37, T39, T45, T46, T47, T48, T50, T52, T54, T56, T59, T61, T64, T66, T72, T73, T78, T99, T101, T103, T104, T107, T110, T113, T116, T154, T169, T171, T194, CT, Spn.enc, d1, d2, d3, f1, f2, f3, k2, k3, k4, k5, kg, hji, j1, j3, jg, hjl, hlook, hput, hlook2, hput2, w1, w2, hid, -putE, -lookF]
      exact ih2
    · have ih1 := ih1 ⟨by simpa using hps, fun s => by
        rw [cntA_app, ← hm1, getM_put, hm s]
        by_cases e : s = x.svc
        · subst e; simp [hid, hc]
        · simp [e, Ne.symm e], by rw [← hm1]; exact put_keys strK hk⟩ (by simp)
      simp at ih1
      simp [c10_1, TK.agg, constAV, evalAV, eqCells, EK.has, EK.hasAll, vecEls, elsR, AV.toD, toDs, AV.cells, AV.one, joinD, TyI.zeroD, OpR.of, binIntF, binStrF, AV.isPtr, ptrNil, slNil, mpNil, nilE, eqF, negF, posF, binF, pelF, pvLoad, pelSet, pvStore, boxLoad, epLoad, loadF, boxStore, storeF, fieldAddrF, fieldF, epOf, indexAddrF, byteF, indexF, mapLen, lenF, cutF, sliceF, isSl, slice3F, fillF, arrFs, buildF, partsX, landV, buildSliceF, roomB, appVec, appendF, mmFrom, mmF, max2', min2', clearVec, clearF, convF, unF, pickF, nilChkF, extF, ptrsOf, callF, makeSliceF, sameKs, sameD, kindIs, plainFs, keyOk, mapOb, mapEs, okV, lookF, lookupF, putE, putS, mapPut, mapUpdateF, mapDel, deleteF, mapAll, rangeM, rangeF, overV, hitV, nextO, nextF, entryM, entryO, entryF, itOids, builtinF, capsOf, allocF, boxF, convertF, makeFuncF, makeMapF, makeMapH, opF, reach, reachOf, AObj.live, closedB, nodupB, packO, packL, packX, backN, backG, backO, obL, backE, frzX, frzO, AV.vids, frzL, landC, sameObs, landR, touchF, D.cells, D.decEq, D.decEqs, AV.decEq, AV.decEqs, AObj.decEq, AV.oids0, AV.oids, AObj.oids, renG, renP, AV.ren0, AV.ren, envGet, envPut, envKeep, obGet, setEff, putV, St.put, stepS, keyChk, chkD, accD, Ex.block, AV.under, AObj.under, laysOf, roomFor, mkvO, frzG, szOk, killO, usedBy, tidyS, ghost, ghostE, normSt, resOf, allSome, one0, resultsF, finL, finishL, finish, endF, startEnv, chkC, backX, comeC, wpn_nil, wpn_seq, wpn_loop, wpn_seq_exit, wpn_loop_exit, wpn_seq_ret, wpn_loop_ret, wpn_block, wpn_post, wpk_skip, wpk_exit, wpk_ret, wpk_reg, wpk_seq, wpk_condT, wpk_block, wpk_loop, wpk_pre, wpk_post, wop_nil, wop_cons, wop_guard, St.know, envSet, cond_d, cond_bool, cond_int, cond_str, endE, endQ, freeB, disj, pushT, bitsW, int_beq, int_bne, eqS_def, tbE, fuelL_eq, ann0_lays, ann0_dd, ann0_ro, elsOf_dsl, elsOf_dnils, toNat_succ, nn_succ, pos_succ, one_succ, rng1, rng2, rng3, rng4, rng5, rng6, rng7, rng8, List.idxOf_cons, T3, T4, T5, T9, T22, T26, T27, T30, T32, T34, T37, T39, T45, T46, T47, T48, T50, T52, T54, T56, T59, T61, T64, T66, T72, T73, T78, T99, T101, T103, T104, T107, T110, T113, T116, T154, T169, T171, T194, CT, Spn.enc, d1, d2, d3, f1, f2, f3, k2, k3, k4, k5, kg, hji, j1, j3, jg, hjl, hlook, hput, hlook2, hput2, w1, w2, hid, -putE, -lookF]
      exact ih1
set_option maxRecDepth 100000 in
set_option maxHeartbeats 2000000 in
theorem loop10_2 (B : D) (L : List Chg) (hL : L.length ≤ 12) (hB : elsOf (.d B) = some (L.map Chg.enc)) (hne : idsNe L) (S : List Spn) (hS : S.length ≤ 24) (hso : allSp S) (J : List Int) (m0 : List (ByteArray × Int)) (hm0 : ∀ s, getM m0 s = cntA L s S) (hk0 : keysNe strK m0) (ks : List Fr) (K : Ex → St → Prop)
    (hnext : ∀ m, (∀ s, getM m s = cntA L s S - totN s S L) → keysNe strK m → wpn CC .norm ⟨[(6, .d (.sl (spD S))), (7, .mp 1), (8, .d (.sl (tiD J)))], [.dead, .map (mapSI m)]⟩ ks K) :
    wlp CC (s10_2 0) ⟨[(5, .d B), (6, .d (.sl (spD S))), (7, .mp 1), (8, .d (.sl (tiD J))), (10, .d (.int .i64 0))], [.dead, .map (mapSI m0)]⟩ (.block 2 :: .post (.tidy [6, 7, 8] 0 2) :: .post (.tidy [6, 7, 8] 0 2) :: ks) K := by
  refine wlp_inv (S := fun p : List Chg × List Chg × List (ByteArray × Int) => ⟨[(5, .d B), (6, .d (.sl (spD S))), (7, .mp 1), (8, .d (.sl (tiD J))), (10, .d (.int .i64 p.1.length))], [.dead, .map (mapSI p.2.2)]⟩) (m := fun p => p.2.1.length)
    (Inv := fun p => p.1 ++ p.2.1 = L ∧ (∀ s, getM p.2.2 s = cntA L s S - totN s S L + totN s S p.2.1) ∧ keysNe strK p.2.2) ?_ ([], L, m0) ⟨rfl, fun s => by simp only; rw [hm0]; omega, hk0⟩
  rintro ⟨pre, suf, m⟩ ⟨hps, hm, hk⟩ ih
  rw [e10_2]
  simp only at hps hm hk ⊢
  cases suf with
  | nil =>
    have hn := endL hps
    have hnext := hnext m (fun s => by rw [hm]; simp [totN]) hk
    simp [c10_2, TK.agg, constAV, evalAV, eqCells, EK.has, EK.hasAll, vecEls, elsR, AV.toD, toDs, AV.cells, AV.one, joinD, TyI.zeroD, OpR.of, binIntF, binStrF, AV.isPtr, ptrNil, slNil, mpNil, nilE, eqF, negF, posF, binF, pelF, pvLoad, pelSet, pvStore, boxLoad, epLoad, loadF, boxStore, storeF, fieldAddrF, fieldF, epOf, indexAddrF, byteF, indexF, mapLen, lenF, cutF, sliceF, isSl, slice3F, fillF, arrFs, buildF, partsX, landV, buildSliceF, roomB, appVec, appendF, mmFrom, mmF, max2', min2', clearVec, clearF, convF, unF, pickF, nilChkF, extF, ptrsOf, callF, makeSliceF, sameKs, sameD, kindIs, plainFs, keyOk, mapOb, mapEs, okV, lookF, lookupF, putE, putS, mapPut, mapUpdateF, mapDel, deleteF, mapAll, rangeM, rangeF, overV, hitV, nextO, nextF, entryM, entryO, entryF, itOids, builtinF, capsOf, allocF, boxF, convertF, makeFuncF, makeMapF, makeMapH, opF, reach, reachOf, AObj.live, closedB, nodupB, packO, packL, packX, backN, backG, backO, obL, backE, frzX, frzO, AV.vids, frzL, landC, sameObs, landR, touchF, D.cells, D.decEq, D.decEqs, AV.decEq, AV.decEqs, AObj.decEq, AV.oids0, AV.oids, AObj.oids, renG, renP, AV.ren0, AV.ren, envGet, envPut, envKeep, obGet, setEff, putV, St.put, stepS, keyChk, chkD, accD, Ex.block, AV.under, AObj.under, laysOf, roomFor, mkvO, frzG, szOk, killO, usedBy, tidyS, ghost, ghostE, normSt, resOf, allSome, one0, resultsF, finL, finishL, finish, endF, startEnv, chkC, backX, comeC, wpn_nil, wpn_seq, wpn_loop, wpn_seq_exit, wpn_loop_exit, wpn_seq_ret, wpn_loop_ret, wpn_block, wpn_post, wpk_skip, wpk_exit, wpk_ret, wpk_reg, wpk_seq, wpk_condT, wpk_block, wpk_loop, wpk_pre, wpk_post, wop_nil, wop_cons, wop_guard, St.know, envSet, cond_d, cond_bool, cond_int, cond_str, endE, endQ, freeB, disj, pushT, bitsW, int_beq, int_bne, eqS_def, tbE, fuelL_eq, ann0_lays, ann0_dd, ann0_ro, elsOf_dsl, elsOf_dnils, toNat_succ, nn_succ, pos_succ, one_succ, rng1, rng2, rng3, rng4, rng5, rng6, rng7, rng8, List.idxOf_cons, T3, T4, T5, T9, T22, T26, T27, T30, T32, T34, T37, T39, T45, T46, T47, T48, T50, T52, T54, T56, T59, T61, T64, T66, T72, T73, T78, T99, T101, T103, T104, T107, T110, T113, T116, T154, T169, T171, T194, CT, hB, hn]
    exact hnext
  | cons c suf =>
    obtain ⟨h1, h2, h3, h4, h5, h6⟩ := atL Chg.enc hps (by omega)
    have hg := getL h5 h4
    have hla := exposed_some B (.sl (spD S)) L pre suf c S (by omega) (by omega) hB rfl hso hps (fun p hp => by
      rw [← hps] at hne
      exact (List.pairwise_append.1 hne).2.2 p hp c (by simp))
    have ha := expF_a c.svc (effI c suf) S ex0 (by simp [ex0]) (by simp [ex0]; omega)
    have ht := cntH_le c.svc (effI c suf) S
    have b1 := cntA_le L c.svc S
    have b2 := totN_le c.svc S L
    have b3 := totN_le c.svc S suf
    have hsl : suf.length ≤ 12 := by have := congrArg List.length hps; simp at this; omega
    have b4 : (L.length : Int) * S.length ≤ 288 := by
      have : (L.length : Int) * S.length ≤ 12 * 24 := Int.mul_le_mul (by omega) (by omega) (by omega) (by omega)
      omega
    have b5 : (suf.length : Int) * S.length ≤ 288 := by
      have : (suf.length : Int) * S.length ≤ 12 * 24 := Int.mul_le_mul (by omega) (by omega) (by omega) (by omega)
      omega
    have hv := hm c.svc
    simp only [totN] at hm
    have ih1 := ih (pre ++ [c], suf, m)
    have hlook := lookF_get strK (D.int .i64) c.svc m 0
    rw [show (lookP strK c.svc m).getD 0 = getM m c.svc from rfl] at hlook
    generalize hc : getM m c.svc = n at *
    have ha0 : (expF c.svc (effI c suf) ex0 S).a = cntH c.svc (effI c suf) S := by rw [ha]; simp [ex0]
    have hput := putE_put strK (D.int .i64) c.svc (n - cntH c.svc (effI c suf) S) m
    have ih2 := ih (pre ++ [c], suf, putP strK c.svc (n - cntH c.svc (effI c suf) S) m)
    have w1 : IntKind.i64.wrap (n - cntH c.svc (effI c suf) S) = n - cntH c.svc (effI c suf) S := by
      simp only [totN] at hv
      refine wrap64 ?_ ?_ <;> (split at hv <;> omega)
    simp only [Exq.enc, ha0] at hla
    change lookF false (some (D.int .i64 0)) (findD (.str c.svc) (mapSI m) 0) = some (.d (.int .i64 n)) at hlook
    change putE (.str c.svc) (.int .i64 (n - cntH c.svc (effI c suf) S)) (mapSI m) (findD (.str c.svc) (mapSI m) 0) = some (mapSI (putP strK c.svc (n - cntH c.svc (effI c suf) S) m)) at hput
    simp only [Chg.enc] at h3
    by_cases hkd : c.kind = 1
    · have ih2 := ih2 ⟨by simpa using hps, fun s => by
        rw [getM_put]
        by_cases e : s = c.svc
        · subst e
          have := hm c.svc
          simp [hkd] at this ⊢
          omega
        · have := hm s
          simp [e, hkd, Ne.symm e] at this ⊢
          omega, put_keys strK hk⟩ (by simp)
      simp at ih2
      generalize cntH c.svc (effI c suf) S = q at *
      generalize (expF c.svc (effI c suf) ex0 S).b = qb at *
      generalize (expF c.svc (effI c suf) ex0 S).m.length = qm at *
      simp [c10_2, TK.agg, constAV, evalAV, eqCells, EK.has, EK.hasAll, vecEls, elsR, AV.toD, toDs, AV.cells, AV.one, joinD, TyI.zeroD, OpR.of, binIntF, binStrF, AV.isPtr, ptrNil, slNil, mpNil, nilE, eqF, negF, posF, binF, pelF, pvLoad, pelSet, pvStore, boxLoad, epLoad, loadF, boxStore, storeF, fieldAddrF, fieldF, epOf, indexAddrF, byteF, indexF, mapLen, lenF, cutF, sliceF, isSl, slice3F, fillF, arrFs, buildF, partsX, landV, buildSliceF, roomB, appVec, appendF, mmFrom, mmF, max2', min2', clearVec, clearF, convF, unF, pickF, nilChkF, extF, ptrsOf, callF, makeSliceF, sameKs, sameD, kindIs, plainFs, keyOk, mapOb, mapEs, okV, lookF, lookupF, putE, putS, mapPut, mapUpdateF, mapDel, deleteF, mapAll, rangeM, rangeF, overV, hitV, nextO, nextF, entryM, entryO, entryF, itOids, builtinF, capsOf, allocF, boxF, convertF, makeFuncF, makeMapF, makeMapH, opF, reach, reachOf, AObj.live, closedB, nodupB, packO, packL, packX, backN, backG, backO, obL, backE, frzX, frzO, AV.vids, frzL, landC, sameObs, landR, touchF, D.cells, D.decEq, D.decEqs, AV.decEq, AV.decEqs, AObj.decEq, AV.oids0, AV.oids, AObj.oids, renG, renP, AV.ren0, AV.ren, envGet, envPut, envKeep, obGet, setEff, putV, St.put, stepS, keyChk, chkD, accD, Ex.block, AV.under, AObj.under, laysOf, roomFor, mkvO, frzG, szOk, killO, usedBy, tidyS, ghost, ghostE, normSt, resOf, allSome, one0, resultsF, finL, finishL, finish, endF, startEnv, chkC, backX, comeC, wpn_nil, wpn_seq, wpn_loop, wpn_seq_exit, wpn_loop_exit, wpn_seq_ret, wpn_loop_ret, wpn_block, wpn_post, wpk_skip, wpk_exit, wpk_ret, wpk_reg, wpk_seq, wpk_condT, wpk_block, wpk_loop, wpk_pre, wpk_post, wop_nil, wop_cons, wop_guard, St.know, envSet, cond_d, cond_bool, cond_int, cond_str, endE, endQ, freeB, disj, pushT, bitsW, int_beq, int_bne, eqS_def, tbE, fuelL_eq, ann0_lays, ann0_dd, ann0_ro, elsOf_dsl, elsOf_dnils, toNat_succ, nn_succ, pos_succ, one_succ, rng1, rng2, rng3, rng4, rng5, rng6, rng7, rng8, List.idxOf_cons, T3, T4, T5, T9, T22, T26, T27, T30, T32, T34, T37, T39, T45, T46, T47, T48, T50, T52, T54, T56, T59, T61, T64, T66, T72, T73, T78, T99, T101, T103, T104, T107, T110, T113, T116, T154, T169, T171, T194, CT, Chg.enc, hB, h2, h3, h4, h5, hg, hla, hlook, hput, w1, hkd, -putE, -lookF]
      exact ih2
    · have ih1 := ih1 ⟨by simpa using hps, fun s => by
        have := hm s
        simp [hkd] at this ⊢
        omega, hk⟩ (by simp)
      simp at ih1
      simp [c10_2, TK.agg, constAV, evalAV, eqCells, EK.has, EK.hasAll, vecEls, elsR, AV.toD, toDs, AV.cells, AV.one, joinD, TyI.zeroD, OpR.of, binIntF, binStrF, AV.isPtr, ptrNil, slNil, mpNil, nilE, eqF, negF, posF, binF, pelF, pvLoad, pelSet, pvStore, boxLoad, epLoad, loadF, boxStore, storeF, fieldAddrF, fieldF, epOf, indexAddrF, byteF, indexF, mapLen, lenF, cutF, sliceF, isSl, slice3F, fillF, arrFs, buildF, partsX, landV, buildSliceF, roomB, appVec, appendF, mmFrom, mmF, max2', min2', clearVec, clearF, convF, unF, pickF, nilChkF, extF, ptrsOf, callF, makeSliceF, sameKs, sameD, kindIs, plainFs, keyOk, mapOb, mapEs, okV, lookF, lookupF, putE, putS, mapPut, mapUpdateF, mapDel, deleteF, mapAll, rangeM, rangeF, overV, hitV, nextO, nextF, entryM, entryO, entryF, itOids, builtinF, capsOf, allocF, boxF, convertF, makeFuncF, makeMapF, makeMapH, opF, reach, reachOf, AObj.live, closedB, nodupB, packO, packL, packX, backN, backG, backO, obL, backE, frzX, frzO, AV.vids, frzL, landC, sameObs, landR, touchF, D.cells, D.decEq, D.decEqs, AV.decEq, AV.decEqs, AObj.decEq, AV.oids0, AV.oids, AObj.oids, renG, renP, AV.ren0, AV.ren, envGet, envPut, envKeep, obGet, setEff, putV, St.put, stepS, keyChk, chkD, accD, Ex.block, AV.under, AObj.under, laysOf, roomFor, mkvO, frzG, szOk, killO, usedBy, tidyS, ghost, ghostE, normSt, resOf, allSome, one0, resultsF, finL, finishL, finish, endF, startEnv, chkC, backX, comeC, wpn_nil, wpn_seq, wpn_loop, wpn_seq_exit, wpn_loop_exit, wpn_seq_ret, wpn_loop_ret, wpn_block, wpn_post, wpk_skip, wpk_exit, wpk_ret, wpk_reg, wpk_seq, wpk_condT, wpk_block, wpk_loop, wpk_pre, wpk_post, wop_nil, wop_cons, wop_guard, St.know, envSet, cond_d, cond_bool, cond_int, cond_str, endE, endQ, freeB, disj, pushT, bitsW, int_beq, int_bne, eqS_def, tbE, fuelL_eq, ann0_lays, ann0_dd, ann0_ro, elsOf_dsl, elsOf_dnils, toNat_succ, nn_succ, pos_succ, one_succ, rng1, rng2, rng3, rng4, rng5, rng6, rng7, rng8, List.idxOf_cons, T3, T4, T5, T9, T22, T26, T27, T30, T32, T34, T37, T39, T45, T46, T47, T48, T50, T52, T54, T56, T59, T61, T64, T66, T72, T73, T78, T99, T101, T103, T104, T107, T110, T113, T116, T154, T169, T171, T194, CT, Chg.enc, hB, h2, h3, h4, h5, hg, hkd]
      exact ih1
set_option maxRecDepth 100000 in
set_option maxHeartbeats 2000000 in
theorem loop10_3 (S : List Spn) (J : List Int) (hJ : J.length = S.length) (m : List (ByteArray × Int)) (hz : ∀ p ∈ m, p.2 = 0) (ks : List Fr) (K : Ex → St → Prop)
    (hnext : wpn CC .norm ⟨[(6, .d (.sl (spD S))), (8, .d (.sl (tiD J)))], [.dead, .dead, .dead]⟩ ks K) :
    wlp CC (s10_3 0) ⟨[(6, .d (.sl (spD S))), (8, .d (.sl (tiD J))), (100, .it 2)], [.dead, .map (mapSI m), .iter (some 1) (mapSI m).length [] (mapSI m).length]⟩ (.block 4 :: .post (.tidy [6, 8] 0 3) :: .post (.tidy [6, 8] 0 3) :: ks) K := by
  refine wlp_inv (S := fun p : List Nat => ⟨[(6, .d (.sl (spD S))), (8, .d (.sl (tiD J))), (100, .it 2)], [.dead, .map (mapSI m), .iter (some 1) (mapSI m).length p (mapSI m).length]⟩) (m := fun p => (leftE p (allE (mapSI m))).length)
    (Inv := fun p => True) ?_ [] trivial
  rintro seen - ih
  rw [e10_3]
  unfold c10_3
  rw [wpk_post, wpk_seq, wpk_reg]
  refine wop_next (o := 2) (m := 1) (since := (mapSI m).length) (last := (mapSI m).length) (ck := (mapSI m).length) (seen := seen) (l := allE (mapSI m)) rfl rfl rfl (nextOk_map _ _) (fun _ => ?_) fun p hp => ?_
  · simp [TK.agg, constAV, evalAV, eqCells, EK.has, EK.hasAll, vecEls, elsR, AV.toD, toDs, AV.cells, AV.one, joinD, TyI.zeroD, OpR.of, binIntF, binStrF, AV.isPtr, ptrNil, slNil, mpNil, nilE, eqF, negF, posF, binF, pelF, pvLoad, pelSet, pvStore, boxLoad, epLoad, loadF, boxStore, storeF, fieldAddrF, fieldF, epOf, indexAddrF, byteF, indexF, mapLen, lenF, cutF, sliceF, isSl, slice3F, fillF, arrFs, buildF, partsX, landV, buildSliceF, roomB, appVec, appendF, mmFrom, mmF, max2', min2', clearVec, clearF, convF, unF, pickF, nilChkF, extF, ptrsOf, callF, makeSliceF, sameKs, sameD, kindIs, plainFs, keyOk, mapOb, mapEs, okV, lookF, lookupF, putE, putS, mapPut, mapUpdateF, mapDel, deleteF, mapAll, rangeM, rangeF, overV, hitV, nextO, nextF, entryM, entryO, entryF, itOids, builtinF, capsOf, allocF, boxF, convertF, makeFuncF, makeMapF, makeMapH, opF, reach, reachOf, AObj.live, closedB, nodupB, packO, packL, packX, backN, backG, backO, obL, backE, frzX, frzO, AV.vids, frzL, landC, sameObs, landR, touchF, D.cells, D.decEq, D.decEqs, AV.decEq, AV.decEqs, AObj.decEq, AV.oids0, AV.oids, AObj.oids, renG, renP, AV.ren0, AV.ren, envGet, envPut, envKeep, obGet, setEff, putV, St.put, stepS, keyChk, chkD, accD, Ex.block, AV.under, AObj.under, laysOf, roomFor, mkvO, frzG, szOk, killO, usedBy, tidyS, ghost, ghostE, normSt, resOf, allSome, one0, resultsF, finL, finishL, finish, endF, startEnv, chkC, backX, comeC, wpn_nil, wpn_seq, wpn_loop, wpn_seq_exit, wpn_loop_exit, wpn_seq_ret, wpn_loop_ret, wpn_block, wpn_post, wpk_skip, wpk_exit, wpk_ret, wpk_reg, wpk_seq, wpk_condT, wpk_block, wpk_loop, wpk_pre, wpk_post, wop_nil, wop_cons, wop_guard, St.know, envSet, cond_d, cond_bool, cond_int, cond_str, endE, endQ, freeB, disj, pushT, bitsW, int_beq, int_bne, eqS_def, tbE, fuelL_eq, ann0_lays, ann0_dd, ann0_ro, elsOf_dsl, elsOf_dnils, toNat_succ, nn_succ, pos_succ, one_succ, rng1, rng2, rng3, rng4, rng5, rng6, rng7, rng8, List.idxOf_cons, T3, T4, T5, T9, T22, T26, T27, T30, T32, T34, T37, T39, T45, T46, T47, T48, T50, T52, T54, T56, T59, T61, T64, T66, T72, T73, T78, T99, T101, T103, T104, T107, T110, T113, T116, T154, T169, T171, T194, CT]
    exact hnext
  · have hm := leftE_mem hp
    have he := entry_all hm.1
    have ih := ih (seen ++ [p.1]) trivial (leftE_lt hp)
    obtain ⟨q, hq, e1, e2⟩ := mapD_mem strK (D.int .i64) (kd := p.2.1) (vd := p.2.2) (allE_mem hm.1).2
    have hz := hz q hq
    obtain ⟨b, k, v⟩ := p
    simp only at e1 e2 he ih
    subst e1 e2
    rw [hz] at he
    simp [TK.agg, constAV, evalAV, eqCells, EK.has, EK.hasAll, vecEls, elsR, AV.toD, toDs, AV.cells, AV.one, joinD, TyI.zeroD, OpR.of, binIntF, binStrF, AV.isPtr, ptrNil, slNil, mpNil, nilE, eqF, negF, posF, binF, pelF, pvLoad, pelSet, pvStore, boxLoad, epLoad, loadF, boxStore, storeF, fieldAddrF, fieldF, epOf, indexAddrF, byteF, indexF, mapLen, lenF, cutF, sliceF, isSl, slice3F, fillF, arrFs, buildF, partsX, landV, buildSliceF, roomB, appVec, appendF, mmFrom, mmF, max2', min2', clearVec, clearF, convF, unF, pickF, nilChkF, extF, ptrsOf, callF, makeSliceF, sameKs, sameD, kindIs, plainFs, keyOk, mapOb, mapEs, okV, lookF, lookupF, putE, putS, mapPut, mapUpdateF, mapDel, deleteF, mapAll, rangeM, rangeF, overV, hitV, nextO, nextF, entryM, entryO, entryF, itOids, builtinF, capsOf, allocF, boxF, convertF, makeFuncF, makeMapF, makeMapH, opF, reach, reachOf, AObj.live, closedB, nodupB, packO, packL, packX, backN, backG, backO, obL, backE, frzX, frzO, AV.vids, frzL, landC, sameObs, landR, touchF, D.cells, D.decEq, D.decEqs, AV.decEq, AV.decEqs, AObj.decEq, AV.oids0, AV.oids, AObj.oids, renG, renP, AV.ren0, AV.ren, envGet, envPut, envKeep, obGet, setEff, putV, St.put, stepS, keyChk, chkD, accD, Ex.block, AV.under, AObj.under, laysOf, roomFor, mkvO, frzG, szOk, killO, usedBy, tidyS, ghost, ghostE, normSt, resOf, allSome, one0, resultsF, finL, finishL, finish, endF, startEnv, chkC, backX, comeC, wpn_nil, wpn_seq, wpn_loop, wpn_seq_exit, wpn_loop_exit, wpn_seq_ret, wpn_loop_ret, wpn_block, wpn_post, wpk_skip, wpk_exit, wpk_ret, wpk_reg, wpk_seq, wpk_condT, wpk_block, wpk_loop, wpk_pre, wpk_post, wop_nil, wop_cons, wop_guard, St.know, envSet, cond_d, cond_bool, cond_int, cond_str, endE, endQ, freeB, disj, pushT, bitsW, int_beq, int_bne, eqS_def, tbE, fuelL_eq, ann0_lays, ann0_dd, ann0_ro, elsOf_dsl, elsOf_dnils, toNat_succ, nn_succ, pos_succ, one_succ, rng1, rng2, rng3, rng4, rng5, rng6, rng7, rng8, List.idxOf_cons, T3, T4, T5, T9, T22, T26, T27, T30, T32, T34, T37, T39, T45, T46, T47, T48, T50, T52, T54, T56, T59, T61, T64, T66, T72, T73, T78, T99, T101, T103, T104, T107, T110, T113, T116, T154, T169, T171, T194, CT, he, hz]
    exact ih
set_option maxRecDepth 100000 in
set_option maxHeartbeats 2000000 in
theorem law10_run (A : D) (l : List Stp) (s : Sto) (hs : s.ok) (hok : ∀ x ∈ l, x.ok) (hA : elsOf (.d A) = some (l.map Stp.enc)) : run CC 10 [.d A, .d s.enc] [] = some (.d (.bool true), []) := by
  refine run_code (s := s10 0) rfl rfl rfl (by kernel_rfl) ?_
  obtain ⟨a1, a2, a3⟩ := slF hs.td
  simp only [AV.one, AV.cells, D.cells] at a1 a2 a3
  obtain ⟨b1, b2, b3⟩ := slF hs.sd
  simp only [AV.one, AV.cells, D.cells] at b1 b2 b3
  have hsr := short_run s hs
  simp only [Sto.enc] at hsr
  by_cases hsh : s.short = false
  · simp [s10, TK.agg, constAV, evalAV, eqCells, EK.has, EK.hasAll, vecEls, elsR, AV.toD, toDs, AV.cells, AV.one, joinD, TyI.zeroD, OpR.of, binIntF, binStrF, AV.isPtr, ptrNil, slNil, mpNil, nilE, eqF, negF, posF, binF, pelF, pvLoad, pelSet, pvStore, boxLoad, epLoad, loadF, boxStore, storeF, fieldAddrF, fieldF, epOf, indexAddrF, byteF, indexF, mapLen, lenF, cutF, sliceF, isSl, slice3F, fillF, arrFs, buildF, partsX, landV, buildSliceF, roomB, appVec, appendF, mmFrom, mmF, max2', min2', clearVec, clearF, convF, unF, pickF, nilChkF, extF, ptrsOf, callF, makeSliceF, sameKs, sameD, kindIs, plainFs, keyOk, mapOb, mapEs, okV, lookF, lookupF, putE, putS, mapPut, mapUpdateF, mapDel, deleteF, mapAll, rangeM, rangeF, overV, hitV, nextO, nextF, entryM, entryO, entryF, itOids, builtinF, capsOf, allocF, boxF, convertF, makeFuncF, makeMapF, makeMapH, opF, reach, reachOf, AObj.live, closedB, nodupB, packO, packL, packX, backN, backG, backO, obL, backE, frzX, frzO, AV.vids, frzL, landC, sameObs, landR, touchF, D.cells, D.decEq, D.decEqs, AV.decEq, AV.decEqs, AObj.decEq, AV.oids0, AV.oids, AObj.oids, renG, renP, AV.ren0, AV.ren, envGet, envPut, envKeep, obGet, setEff, putV, St.put, stepS, keyChk, chkD, accD, Ex.block, AV.under, AObj.under, laysOf, roomFor, mkvO, frzG, szOk, killO, usedBy, tidyS, ghost, ghostE, normSt, resOf, allSome, one0, resultsF, finL, finishL, finish, endF, startEnv, chkC, backX, comeC, wpn_nil, wpn_seq, wpn_loop, wpn_seq_exit, wpn_loop_exit, wpn_seq_ret, wpn_loop_ret, wpn_block, wpn_post, wpk_skip, wpk_exit, wpk_ret, wpk_reg, wpk_seq, wpk_condT, wpk_block, wpk_loop, wpk_pre, wpk_post, wop_nil, wop_cons, wop_guard, St.know, envSet, cond_d, cond_bool, cond_int, cond_str, endE, endQ, freeB, disj, pushT, bitsW, int_beq, int_bne, eqS_def, tbE, fuelL_eq, ann0_lays, ann0_dd, ann0_ro, elsOf_dsl, elsOf_dnils, toNat_succ, nn_succ, pos_succ, one_succ, rng1, rng2, rng3, rng4, rng5, rng6, rng7, rng8, List.idxOf_cons, T3, T4, T5, T9, T22, T26, T27, T30, T32, T34, T37, T39, T45, T46, T47, T48, T50, T52, T54, T56, T59, T61, T64, T66, T72, T73, T78, T99, T101, T103, T104, T107, T110, T113, T116, T154, T169, T171, T194, CT, Sto.enc, a1, a2, a3, b1, b2, b3, known_run, hsr, hsh]
  replace hsh : s.short = true := by simpa using hsh
  obtain ⟨B, hB, hch⟩ := changes_run A l hok hA
  have hlen := changes_len l
  have hne := changes_ne l
  have hup := (sort_up (decL 0 (l.take 12))).1
  have hwf := changes_wf2 l hok
  have hid := changes_id l
  change slotsUp (changesC l) at hup
  generalize changesC l = L at *
  obtain ⟨S, ⟨hso, hS⟩, hsp⟩ := spans_run s hs hsh
  have hj := join_run B (.sl (spD S)) L S (by omega) (by omega) hB rfl hso
  have hjl : (joinL L S).length = S.length := by simp [joinL]
  simp only [Sto.enc] at hsp
  simp [s10, TK.agg, constAV, evalAV, eqCells, EK.has, EK.hasAll, vecEls, elsR, AV.toD, toDs, AV.cells, AV.one, joinD, TyI.zeroD, OpR.of, binIntF, binStrF, AV.isPtr, ptrNil, slNil, mpNil, nilE, eqF, negF, posF, binF, pelF, pvLoad, pelSet, pvStore, boxLoad, epLoad, loadF, boxStore, storeF, fieldAddrF, fieldF, epOf, indexAddrF, byteF, indexF, mapLen, lenF, cutF, sliceF, isSl, slice3F, fillF, arrFs, buildF, partsX, landV, buildSliceF, roomB, appVec, appendF, mmFrom, mmF, max2', min2', clearVec, clearF, convF, unF, pickF, nilChkF, extF, ptrsOf, callF, makeSliceF, sameKs, sameD, kindIs, plainFs, keyOk, mapOb, mapEs, okV, lookF, lookupF, putE, putS, mapPut, mapUpdateF, mapDel, deleteF, mapAll, rangeM, rangeF, overV, hitV, nextO, nextF, entryM, entryO, entryF, itOids, builtinF, capsOf, allocF, boxF, convertF, makeFuncF, makeMapF, makeMapH, opF, reach, reachOf, AObj.live, closedB, nodupB, packO, packL, packX, backN, backG, backO, obL, backE, frzX, frzO, AV.vids, frzL, landC, sameObs, landR, touchF, D.cells, D.decEq, D.decEqs, AV.decEq, AV.decEqs, AObj.decEq, AV.oids0, AV.oids, AObj.oids, renG, renP, AV.ren0, AV.ren, envGet, envPut, envKeep, obGet, setEff, putV, St.put, stepS, keyChk, chkD, accD, Ex.block, AV.under, AObj.under, laysOf, roomFor, mkvO, frzG, szOk, killO, usedBy, tidyS, ghost, ghostE, normSt, resOf, allSome, one0, resultsF, finL, finishL, finish, endF, startEnv, chkC, backX, comeC, wpn_nil, wpn_seq, wpn_loop, wpn_seq_exit, wpn_loop_exit, wpn_seq_ret, wpn_loop_ret, wpn_block, wpn_post, wpk_skip, wpk_exit, wpk_ret, wpk_reg, wpk_seq, wpk_condT, wpk_block, wpk_loop, wpk_pre, wpk_post, wop_nil, wop_cons, wop_guard, St.know, envSet, cond_d, cond_bool, cond_int, cond_str, endE, endQ, freeB, disj, pushT, bitsW, int_beq, int_bne, eqS_def, tbE, fuelL_eq, ann0_lays, ann0_dd, ann0_ro, elsOf_dsl, elsOf_dnils, toNat_succ, nn_succ, pos_succ, one_succ, rng1, rng2, rng3, rng4, rng5, rng6, rng7, rng8, List.idxOf_cons, T3, T4, T5, T9, T22, T26, T27, T30, T32, T34, T37, T39, T45, T46, T47, T48, T50, T52, T54, T56, T59, T61, T64, T66, T72, T73, T78, T99, T101, T103, T104, T107, T110, T113, T116, T154, T169, T171, T194, CT, Sto.enc, a1, a2, a3, b1, b2, b3, known_run, hsr, hsh, hch, hsp, hj]
  refine loop10_1 B L S hS hso _ _ fun m1 hm1 hk1 => ?_
  simp [TK.agg, constAV, evalAV, eqCells, EK.has, EK.hasAll, vecEls, elsR, AV.toD, toDs, AV.cells, AV.one, joinD, TyI.zeroD, OpR.of, binIntF, binStrF, AV.isPtr, ptrNil, slNil, mpNil, nilE, eqF, negF, posF, binF, pelF, pvLoad, pelSet, pvStore, boxLoad, epLoad, loadF, boxStore, storeF, fieldAddrF, fieldF, epOf, indexAddrF, byteF, indexF, mapLen, lenF, cutF, sliceF, isSl, slice3F, fillF, arrFs, buildF, partsX, landV, buildSliceF, roomB, appVec, appendF, mmFrom, mmF, max2', min2', clearVec, clearF, convF, unF, pickF, nilChkF, extF, ptrsOf, callF, makeSliceF, sameKs, sameD, kindIs, plainFs, keyOk, mapOb, mapEs, okV, lookF, lookupF, putE, putS, mapPut, mapUpdateF, mapDel, deleteF, mapAll, rangeM, rangeF, overV, hitV, nextO, nextF, entryM, entryO, entryF, itOids, builtinF, capsOf, allocF, boxF, convertF, makeFuncF, makeMapF, makeMapH, opF, reach, reachOf, AObj.live, closedB, nodupB, packO, packL, packX, backN, backG, backO, obL, backE, frzX, frzO, AV.vids, frzL, landC, sameObs, landR, touchF, D.cells, D.decEq, D.decEqs, AV.decEq, AV.decEqs, AObj.decEq, AV.oids0, AV.oids, AObj.oids, renG, renP, AV.ren0, AV.ren, envGet, envPut, envKeep, obGet, setEff, putV, St.put, stepS, keyChk, chkD, accD, Ex.block, AV.under, AObj.under, laysOf, roomFor, mkvO, frzG, szOk, killO, usedBy, tidyS, ghost, ghostE, normSt, resOf, allSome, one0, resultsF, finL, finishL, finish, endF, startEnv, chkC, backX, comeC, wpn_nil, wpn_seq, wpn_loop, wpn_seq_exit, wpn_loop_exit, wpn_seq_ret, wpn_loop_ret, wpn_block, wpn_post, wpk_skip, wpk_exit, wpk_ret, wpk_reg, wpk_seq, wpk_condT, wpk_block, wpk_loop, wpk_pre, wpk_post, wop_nil, wop_cons, wop_guard, St.know, envSet, cond_d, cond_bool, cond_int, cond_str, endE, endQ, freeB, disj, pushT, bitsW, int_beq, int_bne, eqS_def, tbE, fuelL_eq, ann0_lays, ann0_dd, ann0_ro, elsOf_dsl, elsOf_dnils, toNat_succ, nn_succ, pos_succ, one_succ, rng1, rng2, rng3, rng4, rng5, rng6, rng7, rng8, List.idxOf_cons, T3, T4, T5, T9, T22, T26, T27, T30, T32, T34, T37, T39, T45, T46, T47, T48, T50, T52, T54, T56, T59, T61, T64, T66, T72, T73, T78, T99, T101, T103, T104, T107, T110, T113, T116, T154, T169, T171, T194, CT]
  refine loop10_2 B L hlen hB hne S hS hso _ m1 hm1 hk1 _ _ fun m2 hm2 hk2 => ?_
  simp [TK.agg, constAV, evalAV, eqCells, EK.has, EK.hasAll, vecEls, elsR, AV.toD, toDs, AV.cells, AV.one, joinD, TyI.zeroD, OpR.of, binIntF, binStrF, AV.isPtr, ptrNil, slNil, mpNil, nilE, eqF, negF, posF, binF, pelF, pvLoad, pelSet, pvStore, boxLoad, epLoad, loadF, boxStore, storeF, fieldAddrF, fieldF, epOf, indexAddrF, byteF, indexF, mapLen, lenF, cutF, sliceF, isSl, slice3F, fillF, arrFs, buildF, partsX, landV, buildSliceF, roomB, appVec, appendF, mmFrom, mmF, max2', min2', clearVec, clearF, convF, unF, pickF, nilChkF, extF, ptrsOf, callF, makeSliceF, sameKs, sameD, kindIs, plainFs, keyOk, mapOb, mapEs, okV, lookF, lookupF, putE, putS, mapPut, mapUpdateF, mapDel, deleteF, mapAll, rangeM, rangeF, overV, hitV, nextO, nextF, entryM, entryO, entryF, itOids, builtinF, capsOf, allocF, boxF, convertF, makeFuncF, makeMapF, makeMapH, opF, reach, reachOf, AObj.live, closedB, nodupB, packO, packL, packX, backN, backG, backO, obL, backE, frzX, frzO, AV.vids, frzL, landC, sameObs, landR, touchF, D.cells, D.decEq, D.decEqs, AV.decEq, AV.decEqs, AObj.decEq, AV.oids0, AV.oids, AObj.oids, renG, renP, AV.ren0, AV.ren, envGet, envPut, envKeep, obGet, setEff, putV, St.put, stepS, keyChk, chkD, accD, Ex.block, AV.under, AObj.under, laysOf, roomFor, mkvO, frzG, szOk, killO, usedBy, tidyS, ghost, ghostE, normSt, resOf, allSome, one0, resultsF, finL, finishL, finish, endF, startEnv, chkC, backX, comeC, wpn_nil, wpn_seq, wpn_loop, wpn_seq_exit, wpn_loop_exit, wpn_seq_ret, wpn_loop_ret, wpn_block, wpn_post, wpk_skip, wpk_exit, wpk_ret, wpk_reg, wpk_seq, wpk_condT, wpk_block, wpk_loop, wpk_pre, wpk_post, wop_nil, wop_cons, wop_guard, St.know, envSet, cond_d, cond_bool, cond_int, cond_str, endE, endQ, freeB, disj, pushT, bitsW, int_beq, int_bne, eqS_def, tbE, fuelL_eq, ann0_lays, ann0_dd, ann0_ro, elsOf_dsl, elsOf_dnils, toNat_succ, nn_succ, pos_succ, one_succ, rng1, rng2, rng3, rng4, rng5, rng6, rng7, rng8, List.idxOf_cons, T3, T4, T5, T9, T22, T26, T27, T30, T32, T34, T37, T39, T45, T46, T47, T48, T50, T52, T54, T56, T59, T61, T64, T66, T72, T73, T78, T99, T101, T103, T104, T107, T110, T113, T116, T154, T169, T171, T194, CT]
  refine loop10_3 S _ hjl m2 (fun p hp => ?_) _ _ ?_
  · have h1 := look_mem strK hk2 hp
    have h2 := hm2 p.1
    rw [adds_up L hup hwf hid p.1 S] at h2
    simp only [getM, h1] at h2
    simpa using h2
  · simp [TK.agg, constAV, evalAV, eqCells, EK.has, EK.hasAll, vecEls, elsR, AV.toD, toDs, AV.cells, AV.one, joinD, TyI.zeroD, OpR.of, binIntF, binStrF, AV.isPtr, ptrNil, slNil, mpNil, nilE, eqF, negF, posF, binF, pelF, pvLoad, pelSet, pvStore, boxLoad, epLoad, loadF, boxStore, storeF, fieldAddrF, fieldF, epOf, indexAddrF, byteF, indexF, mapLen, lenF, cutF, sliceF, isSl, slice3F, fillF, arrFs, buildF, partsX, landV, buildSliceF, roomB, appVec, appendF, mmFrom, mmF, max2', min2', clearVec, clearF, convF, unF, pickF, nilChkF, extF, ptrsOf, callF, makeSliceF, sameKs, sameD, kindIs, plainFs, keyOk, mapOb, mapEs, okV, lookF, lookupF, putE, putS, mapPut, mapUpdateF, mapDel, deleteF, mapAll, rangeM, rangeF, overV, hitV, nextO, nextF, entryM, entryO, entryF, itOids, builtinF, capsOf, allocF, boxF, convertF, makeFuncF, makeMapF, makeMapH, opF, reach, reachOf, AObj.live, closedB, nodupB, packO, packL, packX, backN, backG, backO, obL, backE, frzX, frzO, AV.vids, frzL, landC, sameObs, landR, touchF, D.cells, D.decEq, D.decEqs, AV.decEq, AV.decEqs, AObj.decEq, AV.oids0, AV.oids, AObj.oids, renG, renP, AV.ren0, AV.ren, envGet, envPut, envKeep, obGet, setEff, putV, St.put, stepS, keyChk, chkD, accD, Ex.block, AV.under, AObj.under, laysOf, roomFor, mkvO, frzG, szOk, killO, usedBy, tidyS, ghost, ghostE, normSt, resOf, allSome, one0, resultsF, finL, finishL, finish, endF, startEnv, chkC, backX, comeC, wpn_nil, wpn_seq, wpn_loop, wpn_seq_exit, wpn_loop_exit, wpn_seq_ret, wpn_loop_ret, wpn_block, wpn_post, wpk_skip, wpk_exit, wpk_ret, wpk_reg, wpk_seq, wpk_condT, wpk_block, wpk_loop, wpk_pre, wpk_post, wop_nil, wop_cons, wop_guard, St.know, envSet, cond_d, cond_bool, cond_int, cond_str, endE, endQ, freeB, disj, pushT, bitsW, int_beq, int_bne, eqS_def, tbE, fuelL_eq, ann0_lays, ann0_dd, ann0_ro, elsOf_dsl, elsOf_dnils, toNat_succ, nn_succ, pos_succ, one_succ, rng1, rng2, rng3, rng4, rng5, rng6, rng7, rng8, List.idxOf_cons, T3, T4, T5, T9, T22, T26, T27, T30, T32, T34, T37, T39, T45, T46, T47, T48, T50, T52, T54, T56, T59, T61, T64, T66, T72, T73, T78, T99, T101, T103, T104, T107, T110, T113, T116, T154, T169, T171, T194, CT, hjl]
end Go.Proofs.YteidaaobppjlbaaV
