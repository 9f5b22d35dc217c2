/- Join, Strangers. -/
import Derived.Test.YteidaaobppjlbaaWd39
import Derived.Test.YteidaaobppjlbaaWd32
set_option linter.unusedVariables false
set_option linter.unusedSimpArgs false
namespace Go.Proofs.YteidaaobppjlbaaV
open Go.RowKit
def actS (L : List Chg) (x : Spn) : Option Chg := actC x.svc (slotOf x.trace) L
def idS (L : List Chg) (x : Spn) : Int := ((actS L x).getD zeroC).id
def joinL (L : List Chg) (l : List Spn) : List Int := l.map (idS L)
def strO (v : ByteArray) : Option Chg → Bool
  | some c => !eqS c.ver v
  | none => false
def strange (L : List Chg) (x : Spn) : Bool := strO x.ver (actS L x)
def strL (L : List Chg) : List Spn → List Rfe
  | [] => []
  | x :: r => if strange L x = true then x.ref :: strL L r else strL L r
theorem strL_len (L : List Chg) : ∀ l : List Spn, (strL L l).length ≤ l.length
  | [] => Nat.le_refl _
  | x :: r => by have := strL_len L r; simp only [strL]; split <;> simp <;> omega
set_option maxRecDepth 100000 in
theorem join_run (A B : D) (L : List Chg) (l : List Spn) (hL : L.length < 1000) (hl : l.length < 1000) (hA : elsOf (.d A) = some (L.map Chg.enc)) (hB : elsOf (.d B) = some (spD l)) (hso : allSp l) :
    run CC 25 [.d A, .d B] [] = some (.d (.sl (tiD (joinL L l))), []) := by
  refine run_code (s := s25 0) rfl rfl rfl (by kernel_rfl) ?_
  simp [s25, TK.agg, constAV, evalAV, eqCells, EK.has, EK.hasAll, vecEls, elsR, AV.toD, toDs, AV.cells, AV.one, joinD, TyI.zeroD, OpR.of, binIntF, binStrF, eqF, negF, posF, binF, pelF, pvLoad, pelSet, pvStore, boxLoad, epLoad, loadF, boxStore, storeF, fieldAddrF, fieldF, epOf, indexAddrF, byteF, indexF, mapLen, lenF, cutF, sliceF, fillF, buildF, partsX, landV, buildSliceF, roomB, appVec, appendF, mmFrom, mmF, max2', min2', builtinF, convF, unF, pickF, nilChkF, extF, ptrsOf, callF, makeSliceF, sameD, keyOk, mapOb, mapEs, okV, lookF, lookupF, putE, mapPut, mapUpdateF, capsOf, allocF, boxF, convertF, makeFuncF, makeMapF, opF, reach, reachOf, AObj.live, closedB, nodupB, packO, packL, packX, backN, backG, backO, obL, backE, frzX, frzO, AV.vids, frzL, landC, touchF, D.cells, AV.oids0, AV.oids, AObj.oids, renG, renP, AV.ren0, AV.ren, envGet, envPut, envKeep, obGet, setEff, putV, St.put, stepS, keyChk, chkD, accD, Ex.block, AV.under, AObj.under, laysOf, roomFor, mkvO, frzG, szOk, killO, usedBy, tidyS, ghost, ghostE, normSt, resOf, allSome, one0, resultsF, finL, finishL, finish, endF, startEnv, chkC, backX, comeC, wpn_nil, wpn_seq, wpn_loop, wpn_seq_exit, wpn_loop_exit, wpn_seq_ret, wpn_loop_ret, wpn_block, wpn_post, wpk_skip, wpk_exit, wpk_ret, wpk_reg, wpk_seq, wpk_condT, wpk_block, wpk_loop, wpk_pre, wpk_post, wop_nil, wop_cons, wop_guard, St.know, envSet, cond_d, cond_bool, cond_int, cond_str, endE, endQ, freeB, disj, pushT, bitsW, int_beq, int_bne, eqS_def, Nat.testBit_eq_decide_div_mod_eq, fuelL_eq, ann0_lays, ann0_dd, elsOf_dsl, elsOf_dnils, toNat_succ, nn_succ, pos_succ, one_succ, T3, T4, T5, T9, T22, T26, T27, T30, T32, T34, T37, T39, T45, T46, T47, T48, T50, T52, T54, T56, T59, T61, T64, T66, T72, T73, T78, T99, T101, T103, T104, T107, T110, T113, T116, T154, T169, T171, T194, CT, hA, hB]
  refine wlp_inv (S := fun p : List Spn × List Spn => ⟨[(0, .d A), (5, .vs 0 0 1 0 p.1.length), (10, .d B), (11, .d (.int .i64 l.length)), (12, .d (.int .i64 p.1.length))], [.vec 0 true false 3 1 (tiD (joinL L p.1))]⟩) (m := fun p => p.2.length) (Inv := fun p => p.1 ++ p.2 = l) ?_ ([], l) rfl
  rintro ⟨pre, suf⟩ hps ih
  rw [e25_1]
  simp only at hps ⊢
  have hjl : (joinL L pre).length = pre.length := by simp [joinL]
  have t1 : (tiD (joinL L pre)).take pre.length = tiD (joinL L pre) := by rw [← hjl]; exact takeM _ _
  cases suf with
  | nil =>
    have hn := endL hps
    rw [List.append_nil] at hps
    subst hps
    simp [c25_1, TK.agg, constAV, evalAV, eqCells, EK.has, EK.hasAll, vecEls, elsR, AV.toD, toDs, AV.cells, AV.one, joinD, TyI.zeroD, OpR.of, binIntF, binStrF, eqF, negF, posF, binF, pelF, pvLoad, pelSet, pvStore, boxLoad, epLoad, loadF, boxStore, storeF, fieldAddrF, fieldF, epOf, indexAddrF, byteF, indexF, mapLen, lenF, cutF, sliceF, fillF, buildF, partsX, landV, buildSliceF, roomB, appVec, appendF, mmFrom, mmF, max2', min2', builtinF, convF, unF, pickF, nilChkF, extF, ptrsOf, callF, makeSliceF, sameD, keyOk, mapOb, mapEs, okV, lookF, lookupF, putE, mapPut, mapUpdateF, capsOf, allocF, boxF, convertF, makeFuncF, makeMapF, opF, reach, reachOf, AObj.live, closedB, nodupB, packO, packL, packX, backN, backG, backO, obL, backE, frzX, frzO, AV.vids, frzL, landC, touchF, D.cells, AV.oids0, AV.oids, AObj.oids, renG, renP, AV.ren0, AV.ren, envGet, envPut, envKeep, obGet, setEff, putV, St.put, stepS, keyChk, chkD, accD, Ex.block, AV.under, AObj.under, laysOf, roomFor, mkvO, frzG, szOk, killO, usedBy, tidyS, ghost, ghostE, normSt, resOf, allSome, one0, resultsF, finL, finishL, finish, endF, startEnv, chkC, backX, comeC, wpn_nil, wpn_seq, wpn_loop, wpn_seq_exit, wpn_loop_exit, wpn_seq_ret, wpn_loop_ret, wpn_block, wpn_post, wpk_skip, wpk_exit, wpk_ret, wpk_reg, wpk_seq, wpk_condT, wpk_block, wpk_loop, wpk_pre, wpk_post, wop_nil, wop_cons, wop_guard, St.know, envSet, cond_d, cond_bool, cond_int, cond_str, endE, endQ, freeB, disj, pushT, bitsW, int_beq, int_bne, eqS_def, Nat.testBit_eq_decide_div_mod_eq, fuelL_eq, ann0_lays, ann0_dd, elsOf_dsl, elsOf_dnils, toNat_succ, nn_succ, pos_succ, one_succ, T3, T4, T5, T9, T22, T26, T27, T30, T32, T34, T37, T39, T45, T46, T47, T48, T50, T52, T54, T56, T59, T61, T64, T66, T72, T73, T78, T99, T101, T103, T104, T107, T110, T113, T116, T154, T169, T171, T194, CT, t1, hjl]
  | cons x suf =>
    obtain ⟨k1, k2, k3, k4, k5, k6⟩ := atL Spn.enc hps (by omega)
    have kg := getL k5 k4
    obtain ⟨⟨al, hal⟩, ⟨ll, hll⟩⟩ := hso x (List.mem_of_getElem? k5)
    obtain ⟨d1, d2, d3⟩ := slF hal
    simp only [AV.one, AV.cells, D.cells] at d1 d2 d3
    obtain ⟨f1, f2, f3⟩ := slF hll
    simp only [AV.one, AV.cells, D.cells] at f1 f2 f3
    have h1 := slot51_run x.trace
    have h2 := active29_run A L x.svc (slotOf x.trace) hL hA
    have e : joinL L (pre ++ [x]) = joinL L pre ++ [idS L x] := by simp [joinL]
    have ih := ih (pre ++ [x], suf) (by simpa using hps) (by simp)
    simp only [e] at ih
    simp only [idS, actS] at ih
    generalize hq : (actC x.svc (slotOf x.trace) L).getD zeroC = q at *
    have r1 : (pre.length + 1) * 8 ≤ 140737488355328 := by omega
    have r2 : pre.length + 1 ≤ 9223372036854775807 := by omega
    have hz : szAll 1 [D.int .i64 q.id] = true := szAll_one rfl
    simp only [tiD, spD, Spn.enc, Chg.enc] at ih t1 k3 h2 hB
    simp at ih
    simp [c25_1, TK.agg, constAV, evalAV, eqCells, EK.has, EK.hasAll, vecEls, elsR, AV.toD, toDs, AV.cells, AV.one, joinD, TyI.zeroD, OpR.of, binIntF, binStrF, eqF, negF, posF, binF, pelF, pvLoad, pelSet, pvStore, boxLoad, epLoad, loadF, boxStore, storeF, fieldAddrF, fieldF, epOf, indexAddrF, byteF, indexF, mapLen, lenF, cutF, sliceF, fillF, buildF, partsX, landV, buildSliceF, roomB, appVec, appendF, mmFrom, mmF, max2', min2', builtinF, convF, unF, pickF, nilChkF, extF, ptrsOf, callF, makeSliceF, sameD, keyOk, mapOb, mapEs, okV, lookF, lookupF, putE, mapPut, mapUpdateF, capsOf, allocF, boxF, convertF, makeFuncF, makeMapF, opF, reach, reachOf, AObj.live, closedB, nodupB, packO, packL, packX, backN, backG, backO, obL, backE, frzX, frzO, AV.vids, frzL, landC, touchF, D.cells, AV.oids0, AV.oids, AObj.oids, renG, renP, AV.ren0, AV.ren, envGet, envPut, envKeep, obGet, setEff, putV, St.put, stepS, keyChk, chkD, accD, Ex.block, AV.under, AObj.under, laysOf, roomFor, mkvO, frzG, szOk, killO, usedBy, tidyS, ghost, ghostE, normSt, resOf, allSome, one0, resultsF, finL, finishL, finish, endF, startEnv, chkC, backX, comeC, wpn_nil, wpn_seq, wpn_loop, wpn_seq_exit, wpn_loop_exit, wpn_seq_ret, wpn_loop_ret, wpn_block, wpn_post, wpk_skip, wpk_exit, wpk_ret, wpk_reg, wpk_seq, wpk_condT, wpk_block, wpk_loop, wpk_pre, wpk_post, wop_nil, wop_cons, wop_guard, St.know, envSet, cond_d, cond_bool, cond_int, cond_str, endE, endQ, freeB, disj, pushT, bitsW, int_beq, int_bne, eqS_def, Nat.testBit_eq_decide_div_mod_eq, fuelL_eq, ann0_lays, ann0_dd, elsOf_dsl, elsOf_dnils, toNat_succ, nn_succ, pos_succ, one_succ, T3, T4, T5, T9, T22, T26, T27, T30, T32, T34, T37, T39, T45, T46, T47, T48, T50, T52, T54, T56, T59, T61, T64, T66, T72, T73, T78, T99, T101, T103, T104, T107, T110, T113, T116, T154, T169, T171, T194, CT, Spn.enc, hB, d1, d2, d3, f1, f2, f3, k2, k3, k4, k5, kg, h1, h2, hz, r1, r2, t1, hjl]
    exact ih
set_option maxRecDepth 100000 in
theorem strangers_run (A B : D) (L : List Chg) (l : List Spn) (hL : L.length < 1000) (hl : l.length < 1000) (hA : elsOf (.d A) = some (L.map Chg.enc)) (hB : elsOf (.d B) = some (spD l)) (hso : allSp l) :
    run CC 26 [.d A, .d B] [] = some (.d (.sl ((strL L l).map Rfe.enc)), []) := by
  refine run_code (s := s26 0) rfl rfl rfl (by kernel_rfl) ?_
  simp [s26, TK.agg, constAV, evalAV, eqCells, EK.has, EK.hasAll, vecEls, elsR, AV.toD, toDs, AV.cells, AV.one, joinD, TyI.zeroD, OpR.of, binIntF, binStrF, eqF, negF, posF, binF, pelF, pvLoad, pelSet, pvStore, boxLoad, epLoad, loadF, boxStore, storeF, fieldAddrF, fieldF, epOf, indexAddrF, byteF, indexF, mapLen, lenF, cutF, sliceF, fillF, buildF, partsX, landV, buildSliceF, roomB, appVec, appendF, mmFrom, mmF, max2', min2', builtinF, convF, unF, pickF, nilChkF, extF, ptrsOf, callF, makeSliceF, sameD, keyOk, mapOb, mapEs, okV, lookF, lookupF, putE, mapPut, mapUpdateF, capsOf, allocF, boxF, convertF, makeFuncF, makeMapF, opF, reach, reachOf, AObj.live, closedB, nodupB, packO, packL, packX, backN, backG, backO, obL, backE, frzX, frzO, AV.vids, frzL, landC, touchF, D.cells, AV.oids0, AV.oids, AObj.oids, renG, renP, AV.ren0, AV.ren, envGet, envPut, envKeep, obGet, setEff, putV, St.put, stepS, keyChk, chkD, accD, Ex.block, AV.under, AObj.under, laysOf, roomFor, mkvO, frzG, szOk, killO, usedBy, tidyS, ghost, ghostE, normSt, resOf, allSome, one0, resultsF, finL, finishL, finish, endF, startEnv, chkC, backX, comeC, wpn_nil, wpn_seq, wpn_loop, wpn_seq_exit, wpn_loop_exit, wpn_seq_ret, wpn_loop_ret, wpn_block, wpn_post, wpk_skip, wpk_exit, wpk_ret, wpk_reg, wpk_seq, wpk_condT, wpk_block, wpk_loop, wpk_pre, wpk_post, wop_nil, wop_cons, wop_guard, St.know, envSet, cond_d, cond_bool, cond_int, cond_str, endE, endQ, freeB, disj, pushT, bitsW, int_beq, int_bne, eqS_def, Nat.testBit_eq_decide_div_mod_eq, fuelL_eq, ann0_lays, ann0_dd, elsOf_dsl, elsOf_dnils, toNat_succ, nn_succ, pos_succ, one_succ, T3, T4, T5, T9, T22, T26, T27, T30, T32, T34, T37, T39, T45, T46, T47, T48, T50, T52, T54, T56, T59, T61, T64, T66, T72, T73, T78, T99, T101, T103, T104, T107, T110, T113, T116, T154, T169, T171, T194, CT, hA, hB]
  refine wlp_inv (S := fun p : List Spn × List Spn × List Rfe => ⟨[(0, .d A), (5, .vs 0 0 2 0 p.2.2.length), (10, .d B), (11, .d (.int .i64 l.length)), (12, .d (.int .i64 p.1.length))], [.vec 0 true false 64 2 (p.2.2.map Rfe.enc)]⟩) (m := fun p => p.2.1.length) (Inv := fun p => p.1 ++ p.2.1 = l ∧ p.2.2 ++ strL L p.2.1 = strL L l ∧ p.2.2.length ≤ p.1.length) ?_ ([], l, []) ⟨rfl, rfl, Nat.le_refl _⟩
  rintro ⟨pre, suf, o⟩ ⟨hps, ho, hol⟩ ih
  rw [e26_1]
  simp only at hps ho hol ⊢
  rw [← ho] at ih ⊢
  have t1 : (o.map Rfe.enc).take o.length = o.map Rfe.enc := takeM _ _
  cases suf with
  | nil =>
    have hn := endL hps
    simp [c26_1, TK.agg, constAV, evalAV, eqCells, EK.has, EK.hasAll, vecEls, elsR, AV.toD, toDs, AV.cells, AV.one, joinD, TyI.zeroD, OpR.of, binIntF, binStrF, eqF, negF, posF, binF, pelF, pvLoad, pelSet, pvStore, boxLoad, epLoad, loadF, boxStore, storeF, fieldAddrF, fieldF, epOf, indexAddrF, byteF, indexF, mapLen, lenF, cutF, sliceF, fillF, buildF, partsX, landV, buildSliceF, roomB, appVec, appendF, mmFrom, mmF, max2', min2', builtinF, convF, unF, pickF, nilChkF, extF, ptrsOf, callF, makeSliceF, sameD, keyOk, mapOb, mapEs, okV, lookF, lookupF, putE, mapPut, mapUpdateF, capsOf, allocF, boxF, convertF, makeFuncF, makeMapF, opF, reach, reachOf, AObj.live, closedB, nodupB, packO, packL, packX, backN, backG, backO, obL, backE, frzX, frzO, AV.vids, frzL, landC, touchF, D.cells, AV.oids0, AV.oids, AObj.oids, renG, renP, AV.ren0, AV.ren, envGet, envPut, envKeep, obGet, setEff, putV, St.put, stepS, keyChk, chkD, accD, Ex.block, AV.under, AObj.under, laysOf, roomFor, mkvO, frzG, szOk, killO, usedBy, tidyS, ghost, ghostE, normSt, resOf, allSome, one0, resultsF, finL, finishL, finish, endF, startEnv, chkC, backX, comeC, wpn_nil, wpn_seq, wpn_loop, wpn_seq_exit, wpn_loop_exit, wpn_seq_ret, wpn_loop_ret, wpn_block, wpn_post, wpk_skip, wpk_exit, wpk_ret, wpk_reg, wpk_seq, wpk_condT, wpk_block, wpk_loop, wpk_pre, wpk_post, wop_nil, wop_cons, wop_guard, St.know, envSet, cond_d, cond_bool, cond_int, cond_str, endE, endQ, freeB, disj, pushT, bitsW, int_beq, int_bne, eqS_def, Nat.testBit_eq_decide_div_mod_eq, fuelL_eq, ann0_lays, ann0_dd, elsOf_dsl, elsOf_dnils, toNat_succ, nn_succ, pos_succ, one_succ, T3, T4, T5, T9, T22, T26, T27, T30, T32, T34, T37, T39, T45, T46, T47, T48, T50, T52, T54, T56, T59, T61, T64, T66, T72, T73, T78, T99, T101, T103, T104, T107, T110, T113, T116, T154, T169, T171, T194, CT, t1, strL, hn]
  | cons x suf =>
    obtain ⟨k1, k2, k3, k4, k5, k6⟩ := atL Spn.enc hps (by omega)
    have kg := getL k5 k4
    have hxo := hso x (List.mem_of_getElem? k5)
    have h3 := ref52_run x hxo
    obtain ⟨⟨al, hal⟩, ⟨ll, hll⟩⟩ := hxo
    obtain ⟨d1, d2, d3⟩ := slF hal
    simp only [AV.one, AV.cells, D.cells] at d1 d2 d3
    obtain ⟨f1, f2, f3⟩ := slF hll
    simp only [AV.one, AV.cells, D.cells] at f1 f2 f3
    have h1 := slot51_run x.trace
    have h2 := active29_run A L x.svc (slotOf x.trace) hL hA
    have ih1 := ih (pre ++ [x], suf, o)
    have ih2 := ih (pre ++ [x], suf, o ++ [x.ref])
    simp only [strL] at ih1 ih2 ⊢
    have r1 : (o.length + 1) * 16 ≤ 140737488355328 := by omega
    have r2 : o.length + 1 ≤ 9223372036854775807 := by omega
    have hz : szAll 2 [x.ref.enc] = true := szAll_one rfl
    simp only [spD, Spn.enc, Chg.enc, Rfe.enc] at t1 k3 h2 h3 hB hz
    obtain ⟨oc, hq⟩ : ∃ oc, actC x.svc (slotOf x.trace) L = oc := ⟨_, rfl⟩
    rw [hq] at h2
    have hst : strange L x = strO x.ver oc := by simp only [strange, actS, hq]
    rw [hst] at ih1 ih2 ⊢
    cases oc with
    | none =>
      simp [strO] at ih1
      simp [zeroC] at h2
      simp [c26_1, TK.agg, constAV, evalAV, eqCells, EK.has, EK.hasAll, vecEls, elsR, AV.toD, toDs, AV.cells, AV.one, joinD, TyI.zeroD, OpR.of, binIntF, binStrF, eqF, negF, posF, binF, pelF, pvLoad, pelSet, pvStore, boxLoad, epLoad, loadF, boxStore, storeF, fieldAddrF, fieldF, epOf, indexAddrF, byteF, indexF, mapLen, lenF, cutF, sliceF, fillF, buildF, partsX, landV, buildSliceF, roomB, appVec, appendF, mmFrom, mmF, max2', min2', builtinF, convF, unF, pickF, nilChkF, extF, ptrsOf, callF, makeSliceF, sameD, keyOk, mapOb, mapEs, okV, lookF, lookupF, putE, mapPut, mapUpdateF, capsOf, allocF, boxF, convertF, makeFuncF, makeMapF, opF, reach, reachOf, AObj.live, closedB, nodupB, packO, packL, packX, backN, backG, backO, obL, backE, frzX, frzO, AV.vids, frzL, landC, touchF, D.cells, AV.oids0, AV.oids, AObj.oids, renG, renP, AV.ren0, AV.ren, envGet, envPut, envKeep, obGet, setEff, putV, St.put, stepS, keyChk, chkD, accD, Ex.block, AV.under, AObj.under, laysOf, roomFor, mkvO, frzG, szOk, killO, usedBy, tidyS, ghost, ghostE, normSt, resOf, allSome, one0, resultsF, finL, finishL, finish, endF, startEnv, chkC, backX, comeC, wpn_nil, wpn_seq, wpn_loop, wpn_seq_exit, wpn_loop_exit, wpn_seq_ret, wpn_loop_ret, wpn_block, wpn_post, wpk_skip, wpk_exit, wpk_ret, wpk_reg, wpk_seq, wpk_condT, wpk_block, wpk_loop, wpk_pre, wpk_post, wop_nil, wop_cons, wop_guard, St.know, envSet, cond_d, cond_bool, cond_int, cond_str, endE, endQ, freeB, disj, pushT, bitsW, int_beq, int_bne, eqS_def, Nat.testBit_eq_decide_div_mod_eq, fuelL_eq, ann0_lays, ann0_dd, elsOf_dsl, elsOf_dnils, toNat_succ, nn_succ, pos_succ, one_succ, T3, T4, T5, T9, T22, T26, T27, T30, T32, T34, T37, T39, T45, T46, T47, T48, T50, T52, T54, T56, T59, T61, T64, T66, T72, T73, T78, T99, T101, T103, T104, T107, T110, T113, T116, T154, T169, T171, T194, CT, Spn.enc, hB, d1, d2, d3, f1, f2, f3, k2, k3, k4, k5, kg, h1, h2, t1, strO]
      exact ih1 hps (by omega)
    | some c =>
      simp at h2
      by_cases e1 : eqS c.ver x.ver = true
      · simp [strO, e1] at ih1
        simp [c26_1, TK.agg, constAV, evalAV, eqCells, EK.has, EK.hasAll, vecEls, elsR, AV.toD, toDs, AV.cells, AV.one, joinD, TyI.zeroD, OpR.of, binIntF, binStrF, eqF, negF, posF, binF, pelF, pvLoad, pelSet, pvStore, boxLoad, epLoad, loadF, boxStore, storeF, fieldAddrF, fieldF, epOf, indexAddrF, byteF, indexF, mapLen, lenF, cutF, sliceF, fillF, buildF, partsX, landV, buildSliceF, roomB, appVec, appendF, mmFrom, mmF, max2', min2', builtinF, convF, unF, pickF, nilChkF, extF, ptrsOf, callF, makeSliceF, sameD, keyOk, mapOb, mapEs, okV, lookF, lookupF, putE, mapPut, mapUpdateF, capsOf, allocF, boxF, convertF, makeFuncF, makeMapF, opF, reach, reachOf, AObj.live, closedB, nodupB, packO, packL, packX, backN, backG, backO, obL, backE, frzX, frzO, AV.vids, frzL, landC, touchF, D.cells, AV.oids0, AV.oids, AObj.oids, renG, renP, AV.ren0, AV.ren, envGet, envPut, envKeep, obGet, setEff, putV, St.put, stepS, keyChk, chkD, accD, Ex.block, AV.under, AObj.under, laysOf, roomFor, mkvO, frzG, szOk, killO, usedBy, tidyS, ghost, ghostE, normSt, resOf, allSome, one0, resultsF, finL, finishL, finish, endF, startEnv, chkC, backX, comeC, wpn_nil, wpn_seq, wpn_loop, wpn_seq_exit, wpn_loop_exit, wpn_seq_ret, wpn_loop_ret, wpn_block, wpn_post, wpk_skip, wpk_exit, wpk_ret, wpk_reg, wpk_seq, wpk_condT, wpk_block, wpk_loop, wpk_pre, wpk_post, wop_nil, wop_cons, wop_guard, St.know, envSet, cond_d, cond_bool, cond_int, cond_str, endE, endQ, freeB, disj, pushT, bitsW, int_beq, int_bne, eqS_def, Nat.testBit_eq_decide_div_mod_eq, fuelL_eq, ann0_lays, ann0_dd, elsOf_dsl, elsOf_dnils, toNat_succ, nn_succ, pos_succ, one_succ, T3, T4, T5, T9, T22, T26, T27, T30, T32, T34, T37, T39, T45, T46, T47, T48, T50, T52, T54, T56, T59, T61, T64, T66, T72, T73, T78, T99, T101, T103, T104, T107, T110, T113, T116, T154, T169, T171, T194, CT, Spn.enc, hB, d1, d2, d3, f1, f2, f3, k2, k3, k4, k5, kg, h1, h2, t1, e1, strO]
        exact ih1 hps (by omega)
      · simp [strO, e1, Rfe.enc] at ih2
        simp [c26_1, TK.agg, constAV, evalAV, eqCells, EK.has, EK.hasAll, vecEls, elsR, AV.toD, toDs, AV.cells, AV.one, joinD, TyI.zeroD, OpR.of, binIntF, binStrF, eqF, negF, posF, binF, pelF, pvLoad, pelSet, pvStore, boxLoad, epLoad, loadF, boxStore, storeF, fieldAddrF, fieldF, epOf, indexAddrF, byteF, indexF, mapLen, lenF, cutF, sliceF, fillF, buildF, partsX, landV, buildSliceF, roomB, appVec, appendF, mmFrom, mmF, max2', min2', builtinF, convF, unF, pickF, nilChkF, extF, ptrsOf, callF, makeSliceF, sameD, keyOk, mapOb, mapEs, okV, lookF, lookupF, putE, mapPut, mapUpdateF, capsOf, allocF, boxF, convertF, makeFuncF, makeMapF, opF, reach, reachOf, AObj.live, closedB, nodupB, packO, packL, packX, backN, backG, backO, obL, backE, frzX, frzO, AV.vids, frzL, landC, touchF, D.cells, AV.oids0, AV.oids, AObj.oids, renG, renP, AV.ren0, AV.ren, envGet, envPut, envKeep, obGet, setEff, putV, St.put, stepS, keyChk, chkD, accD, Ex.block, AV.under, AObj.under, laysOf, roomFor, mkvO, frzG, szOk, killO, usedBy, tidyS, ghost, ghostE, normSt, resOf, allSome, one0, resultsF, finL, finishL, finish, endF, startEnv, chkC, backX, comeC, wpn_nil, wpn_seq, wpn_loop, wpn_seq_exit, wpn_loop_exit, wpn_seq_ret, wpn_loop_ret, wpn_block, wpn_post, wpk_skip, wpk_exit, wpk_ret, wpk_reg, wpk_seq, wpk_condT, wpk_block, wpk_loop, wpk_pre, wpk_post, wop_nil, wop_cons, wop_guard, St.know, envSet, cond_d, cond_bool, cond_int, cond_str, endE, endQ, freeB, disj, pushT, bitsW, int_beq, int_bne, eqS_def, Nat.testBit_eq_decide_div_mod_eq, fuelL_eq, ann0_lays, ann0_dd, elsOf_dsl, elsOf_dnils, toNat_succ, nn_succ, pos_succ, one_succ, T3, T4, T5, T9, T22, T26, T27, T30, T32, T34, T37, T39, T45, T46, T47, T48, T50, T52, T54, T56, T59, T61, T64, T66, T72, T73, T78, T99, T101, T103, T104, T107, T110, T113, T116, T154, T169, T171, T194, CT, Spn.enc, hB, d1, d2, d3, f1, f2, f3, k2, k3, k4, k5, kg, h1, h2, h3, t1, e1, hz, r1, r2, strO]
        exact ih2 hps (by omega)
end Go.Proofs.YteidaaobppjlbaaV
