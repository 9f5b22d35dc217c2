/- The law DeploymentJoins: the walk. -/
import Derived.Test.YteidaaobppjlbaaWd40
import Derived.Test.YteidaaobppjlbaaWd34
set_option linter.unusedVariables false
set_option linter.unusedSimpArgs false
namespace Go.Proofs.YteidaaobppjlbaaV
open Go.RowKit
set_option maxRecDepth 100000 in
set_option maxHeartbeats 2000000 in
theorem law6_run (A : D) (l : List Stp) (s : Sto) (hs : s.ok) (hok : ∀ x ∈ l, x.ok) (hA : elsOf (.d A) = some (l.map Stp.enc)) : run CC 6 [.d A, .d s.enc] [] = some (.d (.bool true), []) := by
  refine run_code (s := s6 0) rfl rfl rfl (by kernel_rfl) ?_
  obtain ⟨a1, a2, a3⟩ := slF hs.td
  simp only [AV.one, AV.cells, D.cells] at a1 a2 a3
  obtain ⟨b1, b2, b3⟩ := slF hs.sd
  simp only [AV.one, AV.cells, D.cells] at b1 b2 b3
  have hsr := short_run s hs
  simp only [Sto.enc] at hsr
  by_cases hsh : s.short = false
  · simp [s6, TK.agg, constAV, evalAV, eqCells, EK.has, EK.hasAll, vecEls, elsR, AV.toD, toDs, AV.cells, AV.one, joinD, TyI.zeroD, OpR.of, binIntF, binStrF, eqF, negF, posF, binF, pelF, pvLoad, pelSet, pvStore, boxLoad, epLoad, loadF, boxStore, storeF, fieldAddrF, fieldF, epOf, indexAddrF, byteF, indexF, mapLen, lenF, cutF, sliceF, fillF, buildF, partsX, landV, buildSliceF, roomB, appVec, appendF, mmFrom, mmF, max2', min2', builtinF, convF, unF, pickF, nilChkF, extF, ptrsOf, callF, makeSliceF, sameD, keyOk, mapOb, mapEs, okV, lookF, lookupF, putE, mapPut, mapUpdateF, capsOf, allocF, boxF, convertF, makeFuncF, makeMapF, opF, reach, reachOf, AObj.live, closedB, nodupB, packO, packL, packX, backN, backG, backO, obL, backE, frzX, frzO, AV.vids, frzL, landC, touchF, D.cells, AV.oids0, AV.oids, AObj.oids, renG, renP, AV.ren0, AV.ren, envGet, envPut, envKeep, obGet, setEff, putV, St.put, stepS, keyChk, chkD, accD, Ex.block, AV.under, AObj.under, laysOf, roomFor, mkvO, frzG, szOk, killO, usedBy, tidyS, ghost, ghostE, normSt, resOf, allSome, one0, resultsF, finL, finishL, finish, endF, startEnv, chkC, backX, comeC, wpn_nil, wpn_seq, wpn_loop, wpn_seq_exit, wpn_loop_exit, wpn_seq_ret, wpn_loop_ret, wpn_block, wpn_post, wpk_skip, wpk_exit, wpk_ret, wpk_reg, wpk_seq, wpk_condT, wpk_block, wpk_loop, wpk_pre, wpk_post, wop_nil, wop_cons, wop_guard, St.know, envSet, cond_d, cond_bool, cond_int, cond_str, endE, endQ, freeB, disj, pushT, bitsW, int_beq, int_bne, eqS_def, Nat.testBit_eq_decide_div_mod_eq, fuelL_eq, ann0_lays, ann0_dd, elsOf_dsl, elsOf_dnils, toNat_succ, nn_succ, pos_succ, one_succ, T3, T4, T5, T9, T22, T26, T27, T30, T32, T34, T37, T39, T45, T46, T47, T48, T50, T52, T54, T56, T59, T61, T64, T66, T72, T73, T78, T99, T101, T103, T104, T107, T110, T113, T116, T154, T169, T171, T194, CT, Sto.enc, a1, a2, a3, b1, b2, b3, known_run, hsr, hsh]
  replace hsh : s.short = true := by simpa using hsh
  obtain ⟨B, hB, hch⟩ := changes_run A l hok hA
  have hlen := changes_len l
  generalize changesC l = L at *
  obtain ⟨S, ⟨hso, hS⟩, hsp⟩ := spans_run s hs hsh
  have hj := join_run B (.sl (spD S)) L S (by omega) (by omega) hB rfl hso
  have hst := strangers_run B (.sl (spD S)) L S (by omega) (by omega) hB rfl hso
  have hjl : (joinL L S).length = S.length := by simp [joinL]
  simp only [Sto.enc] at hsp
  simp [s6, TK.agg, constAV, evalAV, eqCells, EK.has, EK.hasAll, vecEls, elsR, AV.toD, toDs, AV.cells, AV.one, joinD, TyI.zeroD, OpR.of, binIntF, binStrF, eqF, negF, posF, binF, pelF, pvLoad, pelSet, pvStore, boxLoad, epLoad, loadF, boxStore, storeF, fieldAddrF, fieldF, epOf, indexAddrF, byteF, indexF, mapLen, lenF, cutF, sliceF, fillF, buildF, partsX, landV, buildSliceF, roomB, appVec, appendF, mmFrom, mmF, max2', min2', builtinF, convF, unF, pickF, nilChkF, extF, ptrsOf, callF, makeSliceF, sameD, keyOk, mapOb, mapEs, okV, lookF, lookupF, putE, mapPut, mapUpdateF, capsOf, allocF, boxF, convertF, makeFuncF, makeMapF, opF, reach, reachOf, AObj.live, closedB, nodupB, packO, packL, packX, backN, backG, backO, obL, backE, frzX, frzO, AV.vids, frzL, landC, touchF, D.cells, AV.oids0, AV.oids, AObj.oids, renG, renP, AV.ren0, AV.ren, envGet, envPut, envKeep, obGet, setEff, putV, St.put, stepS, keyChk, chkD, accD, Ex.block, AV.under, AObj.under, laysOf, roomFor, mkvO, frzG, szOk, killO, usedBy, tidyS, ghost, ghostE, normSt, resOf, allSome, one0, resultsF, finL, finishL, finish, endF, startEnv, chkC, backX, comeC, wpn_nil, wpn_seq, wpn_loop, wpn_seq_exit, wpn_loop_exit, wpn_seq_ret, wpn_loop_ret, wpn_block, wpn_post, wpk_skip, wpk_exit, wpk_ret, wpk_reg, wpk_seq, wpk_condT, wpk_block, wpk_loop, wpk_pre, wpk_post, wop_nil, wop_cons, wop_guard, St.know, envSet, cond_d, cond_bool, cond_int, cond_str, endE, endQ, freeB, disj, pushT, bitsW, int_beq, int_bne, eqS_def, Nat.testBit_eq_decide_div_mod_eq, fuelL_eq, ann0_lays, ann0_dd, elsOf_dsl, elsOf_dnils, toNat_succ, nn_succ, pos_succ, one_succ, T3, T4, T5, T9, T22, T26, T27, T30, T32, T34, T37, T39, T45, T46, T47, T48, T50, T52, T54, T56, T59, T61, T64, T66, T72, T73, T78, T99, T101, T103, T104, T107, T110, T113, T116, T154, T169, T171, T194, CT, Sto.enc, a1, a2, a3, b1, b2, b3, known_run, hsr, hsh, hch, hsp, hj, hst, hjl]
  have hsl := strL_len L S
  generalize hR : strL L S = R at *
  refine wlp_inv (S := fun p : List Spn × List Spn × List Rfe × List Rfe => ⟨[(5, .d B), (6, .d (.sl (spD S))), (7, .d (.sl (tiD (joinL L S)))), (8, .d (.sl (R.map Rfe.enc))), (9, .d (.int .i64 p.2.2.1.length)), (10, .d (.int .i64 p.1.length))], [.dead]⟩) (m := fun p => p.2.1.length)
    (Inv := fun p => p.1 ++ p.2.1 = S ∧ p.2.2.1 ++ p.2.2.2 = R ∧ p.2.2.2 = strL L p.2.1) ?_ ([], S, [], R) ⟨rfl, rfl, hR.symm⟩
  rintro ⟨pre, suf, R1, R2⟩ ⟨hps, hRR, hR2⟩ ih
  rw [e6_1]
  simp only at hps hRR hR2 ⊢
  cases suf with
  | nil =>
    have hn := endL hps
    simp [strL] at hR2
    subst hR2
    have hn2 := endL hRR
    simp [c6_1, TK.agg, constAV, evalAV, eqCells, EK.has, EK.hasAll, vecEls, elsR, AV.toD, toDs, AV.cells, AV.one, joinD, TyI.zeroD, OpR.of, binIntF, binStrF, eqF, negF, posF, binF, pelF, pvLoad, pelSet, pvStore, boxLoad, epLoad, loadF, boxStore, storeF, fieldAddrF, fieldF, epOf, indexAddrF, byteF, indexF, mapLen, lenF, cutF, sliceF, fillF, buildF, partsX, landV, buildSliceF, roomB, appVec, appendF, mmFrom, mmF, max2', min2', builtinF, convF, unF, pickF, nilChkF, extF, ptrsOf, callF, makeSliceF, sameD, keyOk, mapOb, mapEs, okV, lookF, lookupF, putE, mapPut, mapUpdateF, capsOf, allocF, boxF, convertF, makeFuncF, makeMapF, opF, reach, reachOf, AObj.live, closedB, nodupB, packO, packL, packX, backN, backG, backO, obL, backE, frzX, frzO, AV.vids, frzL, landC, touchF, D.cells, AV.oids0, AV.oids, AObj.oids, renG, renP, AV.ren0, AV.ren, envGet, envPut, envKeep, obGet, setEff, putV, St.put, stepS, keyChk, chkD, accD, Ex.block, AV.under, AObj.under, laysOf, roomFor, mkvO, frzG, szOk, killO, usedBy, tidyS, ghost, ghostE, normSt, resOf, allSome, one0, resultsF, finL, finishL, finish, endF, startEnv, chkC, backX, comeC, wpn_nil, wpn_seq, wpn_loop, wpn_seq_exit, wpn_loop_exit, wpn_seq_ret, wpn_loop_ret, wpn_block, wpn_post, wpk_skip, wpk_exit, wpk_ret, wpk_reg, wpk_seq, wpk_condT, wpk_block, wpk_loop, wpk_pre, wpk_post, wop_nil, wop_cons, wop_guard, St.know, envSet, cond_d, cond_bool, cond_int, cond_str, endE, endQ, freeB, disj, pushT, bitsW, int_beq, int_bne, eqS_def, Nat.testBit_eq_decide_div_mod_eq, fuelL_eq, ann0_lays, ann0_dd, elsOf_dsl, elsOf_dnils, toNat_succ, nn_succ, pos_succ, one_succ, T3, T4, T5, T9, T22, T26, T27, T30, T32, T34, T37, T39, T45, T46, T47, T48, T50, T52, T54, T56, T59, T61, T64, T66, T72, T73, T78, T99, T101, T103, T104, T107, T110, T113, T116, T154, T169, T171, T194, CT, hn, hn2]
  | cons x suf =>
    obtain ⟨k1, k2, k3, k4, k5, k6⟩ := atL Spn.enc hps (by omega)
    have kg := getL k5 k4
    have hxo := hso x (List.mem_of_getElem? k5)
    have h1 := slot28_run x hxo
    obtain ⟨⟨al, hal⟩, ⟨ll, hll⟩⟩ := hxo
    obtain ⟨d1, d2, d3⟩ := slF hal
    simp only [AV.one, AV.cells, D.cells] at d1 d2 d3
    obtain ⟨f1, f2, f3⟩ := slF hll
    simp only [AV.one, AV.cells, D.cells] at f1 f2 f3
    have h2 := active27_run B L x.svc (slotOf x.trace) (by omega) hB
    have hji : (joinL L S)[pre.length]? = some (idS L x) := by simp [joinL, k5]
    obtain ⟨m1, m2, m3⟩ := atN (D.int .i64) hji (by omega)
    have mg := getL hji m1
    have ih1 := ih (pre ++ [x], suf, R1, R2)
    simp only [strL] at hR2
    simp only [idS, actS] at hji m3 mg
    simp only [spD, Spn.enc] at k3 h1
    rcases act_rel x.svc (slotOf x.trace) L 0 with ⟨g1, g2⟩ | ⟨k, c, g0, g1, g2⟩
    · have hq : strange L x = strO x.ver none := by simp only [strange, actS, g1]
      rw [hq] at hR2
      rw [g1] at hji m3 mg
      rw [g2] at h2
      simp [strO] at hR2
      simp [zeroC] at hji m3 mg
      have ih1 := ih1 ⟨by simpa using hps, hRR, hR2⟩ (by simp)
      simp at ih1
      simp [c6_1, TK.agg, constAV, evalAV, eqCells, EK.has, EK.hasAll, vecEls, elsR, AV.toD, toDs, AV.cells, AV.one, joinD, TyI.zeroD, OpR.of, binIntF, binStrF, eqF, negF, posF, binF, pelF, pvLoad, pelSet, pvStore, boxLoad, epLoad, loadF, boxStore, storeF, fieldAddrF, fieldF, epOf, indexAddrF, byteF, indexF, mapLen, lenF, cutF, sliceF, fillF, buildF, partsX, landV, buildSliceF, roomB, appVec, appendF, mmFrom, mmF, max2', min2', builtinF, convF, unF, pickF, nilChkF, extF, ptrsOf, callF, makeSliceF, sameD, keyOk, mapOb, mapEs, okV, lookF, lookupF, putE, mapPut, mapUpdateF, capsOf, allocF, boxF, convertF, makeFuncF, makeMapF, opF, reach, reachOf, AObj.live, closedB, nodupB, packO, packL, packX, backN, backG, backO, obL, backE, frzX, frzO, AV.vids, frzL, landC, touchF, D.cells, AV.oids0, AV.oids, AObj.oids, renG, renP, AV.ren0, AV.ren, envGet, envPut, envKeep, obGet, setEff, putV, St.put, stepS, keyChk, chkD, accD, Ex.block, AV.under, AObj.under, laysOf, roomFor, mkvO, frzG, szOk, killO, usedBy, tidyS, ghost, ghostE, normSt, resOf, allSome, one0, resultsF, finL, finishL, finish, endF, startEnv, chkC, backX, comeC, wpn_nil, wpn_seq, wpn_loop, wpn_seq_exit, wpn_loop_exit, wpn_seq_ret, wpn_loop_ret, wpn_block, wpn_post, wpk_skip, wpk_exit, wpk_ret, wpk_reg, wpk_seq, wpk_condT, wpk_block, wpk_loop, wpk_pre, wpk_post, wop_nil, wop_cons, wop_guard, St.know, envSet, cond_d, cond_bool, cond_int, cond_str, endE, endQ, freeB, disj, pushT, bitsW, int_beq, int_bne, eqS_def, Nat.testBit_eq_decide_div_mod_eq, fuelL_eq, ann0_lays, ann0_dd, elsOf_dsl, elsOf_dnils, toNat_succ, nn_succ, pos_succ, one_succ, T3, T4, T5, T9, T22, T26, T27, T30, T32, T34, T37, T39, T45, T46, T47, T48, T50, T52, T54, T56, T59, T61, T64, T66, T72, T73, T78, T99, T101, T103, T104, T107, T110, T113, T116, T154, T169, T171, T194, CT, Spn.enc, hB, d1, d2, d3, f1, f2, f3, k2, k3, k4, k5, kg, h1, h2, hji, m1, m3, mg]
      exact ih1
    · have hq : strange L x = strO x.ver (some c) := by simp only [strange, actS, g1]
      rw [hq] at hR2
      rw [g1] at hji m3 mg
      rw [g2, Nat.zero_add] at h2
      simp [strO] at hR2
      simp at hji m3 mg
      obtain ⟨q1, q2, q3⟩ := atN Chg.enc g0 (by omega)
      have qg := getL g0 q1
      simp only [Chg.enc] at q3
      by_cases e1 : eqS c.ver x.ver = true
      · rw [if_neg (by simp [e1])] at hR2
        have ih1 := ih1 ⟨by simpa using hps, hRR, hR2⟩ (by simp)
        simp at ih1
        simp [c6_1, TK.agg, constAV, evalAV, eqCells, EK.has, EK.hasAll, vecEls, elsR, AV.toD, toDs, AV.cells, AV.one, joinD, TyI.zeroD, OpR.of, binIntF, binStrF, eqF, negF, posF, binF, pelF, pvLoad, pelSet, pvStore, boxLoad, epLoad, loadF, boxStore, storeF, fieldAddrF, fieldF, epOf, indexAddrF, byteF, indexF, mapLen, lenF, cutF, sliceF, fillF, buildF, partsX, landV, buildSliceF, roomB, appVec, appendF, mmFrom, mmF, max2', min2', builtinF, convF, unF, pickF, nilChkF, extF, ptrsOf, callF, makeSliceF, sameD, keyOk, mapOb, mapEs, okV, lookF, lookupF, putE, mapPut, mapUpdateF, capsOf, allocF, boxF, convertF, makeFuncF, makeMapF, opF, reach, reachOf, AObj.live, closedB, nodupB, packO, packL, packX, backN, backG, backO, obL, backE, frzX, frzO, AV.vids, frzL, landC, touchF, D.cells, AV.oids0, AV.oids, AObj.oids, renG, renP, AV.ren0, AV.ren, envGet, envPut, envKeep, obGet, setEff, putV, St.put, stepS, keyChk, chkD, accD, Ex.block, AV.under, AObj.under, laysOf, roomFor, mkvO, frzG, szOk, killO, usedBy, tidyS, ghost, ghostE, normSt, resOf, allSome, one0, resultsF, finL, finishL, finish, endF, startEnv, chkC, backX, comeC, wpn_nil, wpn_seq, wpn_loop, wpn_seq_exit, wpn_loop_exit, wpn_seq_ret, wpn_loop_ret, wpn_block, wpn_post, wpk_skip, wpk_exit, wpk_ret, wpk_reg, wpk_seq, wpk_condT, wpk_block, wpk_loop, wpk_pre, wpk_post, wop_nil, wop_cons, wop_guard, St.know, envSet, cond_d, cond_bool, cond_int, cond_str, endE, endQ, freeB, disj, pushT, bitsW, int_beq, int_bne, eqS_def, Nat.testBit_eq_decide_div_mod_eq, fuelL_eq, ann0_lays, ann0_dd, elsOf_dsl, elsOf_dnils, toNat_succ, nn_succ, pos_succ, one_succ, T3, T4, T5, T9, T22, T26, T27, T30, T32, T34, T37, T39, T45, T46, T47, T48, T50, T52, T54, T56, T59, T61, T64, T66, T72, T73, T78, T99, T101, T103, T104, T107, T110, T113, T116, T154, T169, T171, T194, CT, Spn.enc, Chg.enc, hB, d1, d2, d3, f1, f2, f3, k2, k3, k4, k5, kg, h1, h2, hji, m1, m3, mg, g0, q1, q3, qg, e1]
        exact ih1
      · rw [if_pos (by simpa using e1)] at hR2
        obtain ⟨n1, n2, n3, n4, n5, n6⟩ := atL Rfe.enc (c := x.ref) (hR2 ▸ hRR) (by omega)
        have ng := getL n5 n4
        have ih2 := ih (pre ++ [x], suf, R1 ++ [x.ref], strL L suf) ⟨by simpa using hps, by rw [← hRR, hR2]; exact (List.append_cons _ _ _).symm, rfl⟩ (by simp)
        simp at ih2
        simp only [Rfe.enc] at n3
        have hE : eqCells [.int .i64 x.ref.trace, .int .i64 x.ref.id] [.int .i64 x.trace, .int .i64 x.id] = some true := by simp [eqCells, int_beq, Spn.ref]
        simp [c6_1, TK.agg, constAV, evalAV, EK.has, EK.hasAll, vecEls, elsR, AV.toD, toDs, AV.cells, AV.one, joinD, TyI.zeroD, OpR.of, binIntF, binStrF, eqF, negF, posF, binF, pelF, pvLoad, pelSet, pvStore, boxLoad, epLoad, loadF, boxStore, storeF, fieldAddrF, fieldF, epOf, indexAddrF, byteF, indexF, mapLen, lenF, cutF, sliceF, fillF, buildF, partsX, landV, buildSliceF, roomB, appVec, appendF, mmFrom, mmF, max2', min2', builtinF, convF, unF, pickF, nilChkF, extF, ptrsOf, callF, makeSliceF, sameD, keyOk, mapOb, mapEs, okV, lookF, lookupF, putE, mapPut, mapUpdateF, capsOf, allocF, boxF, convertF, makeFuncF, makeMapF, opF, reach, reachOf, AObj.live, closedB, nodupB, packO, packL, packX, backN, backG, backO, obL, backE, frzX, frzO, AV.vids, frzL, landC, touchF, D.cells, AV.oids0, AV.oids, AObj.oids, renG, renP, AV.ren0, AV.ren, envGet, envPut, envKeep, obGet, setEff, putV, St.put, stepS, keyChk, chkD, accD, Ex.block, AV.under, AObj.under, laysOf, roomFor, mkvO, frzG, szOk, killO, usedBy, tidyS, ghost, ghostE, normSt, resOf, allSome, one0, resultsF, finL, finishL, finish, endF, startEnv, chkC, backX, comeC, wpn_nil, wpn_seq, wpn_loop, wpn_seq_exit, wpn_loop_exit, wpn_seq_ret, wpn_loop_ret, wpn_block, wpn_post, wpk_skip, wpk_exit, wpk_ret, wpk_reg, wpk_seq, wpk_condT, wpk_block, wpk_loop, wpk_pre, wpk_post, wop_nil, wop_cons, wop_guard, St.know, envSet, cond_d, cond_bool, cond_int, cond_str, endE, endQ, freeB, disj, pushT, bitsW, int_beq, int_bne, eqS_def, Nat.testBit_eq_decide_div_mod_eq, fuelL_eq, ann0_lays, ann0_dd, elsOf_dsl, elsOf_dnils, toNat_succ, nn_succ, pos_succ, one_succ, T3, T4, T5, T9, T22, T26, T27, T30, T32, T34, T37, T39, T45, T46, T47, T48, T50, T52, T54, T56, T59, T61, T64, T66, T72, T73, T78, T99, T101, T103, T104, T107, T110, T113, T116, T154, T169, T171, T194, CT, CQ, QQ, Spn.enc, Chg.enc, Rfe.enc, hB, d1, d2, d3, f1, f2, f3, k2, k3, k4, k5, kg, h1, h2, hji, m1, m3, mg, g0, q1, q3, qg, e1, n2, n3, n4, n5, ng, hE]
        exact ih2
end Go.Proofs.YteidaaobppjlbaaV
