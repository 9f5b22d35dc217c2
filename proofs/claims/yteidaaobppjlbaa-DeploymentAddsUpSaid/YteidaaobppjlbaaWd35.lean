/- Stories: what they are, small functions. -/
import Derived.Test.YteidaaobppjlbaaWcAA
import Derived.Test.YteidaaobppjlbaaVC
set_option linter.unusedVariables false
set_option linter.unusedSimpArgs false
namespace Go.Proofs.YteidaaobppjlbaaV
open Go.RowKit
structure Cal where
  (parent clock kind svc ver op wait long link tag : Int)
  fail : Bool
def Cal.enc (c : Cal) : D := .agg [.int .u8 c.parent, .int .u8 c.clock, .int .u8 c.kind, .int .u8 c.svc, .int .u8 c.ver, .int .u8 c.op, .int .u8 c.wait, .int .u8 c.long, .int .u8 c.link, .int .u8 c.tag, .bool c.fail]
def isU8 (n : Int) : Prop := 0 ≤ n ∧ n < 256
structure Cal.ok (c : Cal) : Prop where
  parent : isU8 c.parent
  clock : isU8 c.clock
  kind : isU8 c.kind
  svc : isU8 c.svc
  ver : isU8 c.ver
  op : isU8 c.op
  wait : isU8 c.wait
  long : isU8 c.long
  link : isU8 c.link
  tag : isU8 c.tag
structure Tre where
  (slot start : Int)
  cd : D
  calls : List Cal
def Tre.enc (t : Tre) : D := .agg [.int .u8 t.slot, .int .u8 t.start, t.cd]
structure Tre.ok (t : Tre) : Prop where
  slot : isU8 t.slot
  start : isU8 t.start
  cd : elsOf (.d t.cd) = some (t.calls.map Cal.enc)
  calls : ∀ c ∈ t.calls, c.ok
  len : t.calls.length ≤ 9223372036854775807
structure Sto where
  td : D
  trees : List Tre
  (o1 o2 o3 o4 : Int)
  sd : D
  syn : List D
  wrong : Int
def Sto.enc (s : Sto) : D := .agg [s.td, .int .i8 s.o1, .int .i8 s.o2, .int .i8 s.o3, .int .i8 s.o4, s.sd, .int .u8 s.wrong]
structure Sto.ok (s : Sto) : Prop where
  td : elsOf (.d s.td) = some (s.trees.map Tre.enc)
  trees : ∀ t ∈ s.trees, t.ok
  sd : elsOf (.d s.sd) = some s.syn
  wrong : isU8 s.wrong
  len : s.trees.length < 4611686018427387904
def Sto.short (s : Sto) : Bool := s.trees.all (fun t => decide (t.calls.length ≤ 8)) && (decide (s.trees.length ≤ 3) && decide (s.syn.length ≤ 6))

set_option maxRecDepth 100000 in
theorem short_run (s : Sto) (hs : s.ok) : run CC 23 [.d s.enc] [] = some (.d (.bool s.short), []) := by
  refine run_code (s := s23 0) rfl rfl rfl (by kernel_rfl) ?_
  obtain ⟨a1, a2, a3⟩ := slF hs.td
  simp only [AV.one, AV.cells, D.cells] at a1 a2 a3
  obtain ⟨b1, b2, b3⟩ := slF hs.sd
  simp only [AV.one, AV.cells, D.cells] at b1 b2 b3
  have htd := hs.td
  have hsd := hs.sd
  simp [s23, TK.agg, constAV, evalAV, eqCells, EK.has, EK.hasAll, vecEls, elsR, AV.toD, toDs, AV.cells, AV.one, joinD, TyI.zeroD, OpR.of, binIntF, binStrF, AV.isPtr, ptrNil, slNil, mpNil, nilE, eqF, negF, posF, binF, pelF, pvLoad, pelSet, pvStore, boxLoad, epLoad, loadF, boxStore, storeF, fieldAddrF, fieldF, epOf, indexAddrF, byteF, indexF, mapLen, lenF, cutF, sliceF, isSl, slice3F, fillF, arrFs, buildF, partsX, landV, buildSliceF, roomB, appVec, appendF, mmFrom, mmF, max2', min2', clearVec, clearF, convF, unF, pickF, nilChkF, extF, ptrsOf, callF, makeSliceF, sameKs, sameD, kindIs, plainFs, keyOk, mapOb, mapEs, okV, lookF, lookupF, putE, putS, mapPut, mapUpdateF, mapDel, deleteF, mapAll, rangeM, rangeF, overV, hitV, nextO, nextF, entryM, entryO, entryF, itOids, builtinF, capsOf, allocF, boxF, convertF, makeFuncF, makeMapF, makeMapH, opF, reach, reachOf, AObj.live, closedB, nodupB, packO, packL, packX, backN, backG, backO, obL, backE, frzX, frzO, AV.vids, frzL, landC, sameObs, landR, touchF, D.cells, D.decEq, D.decEqs, AV.decEq, AV.decEqs, AObj.decEq, AV.oids0, AV.oids, AObj.oids, renG, renP, AV.ren0, AV.ren, envGet, envPut, envKeep, obGet, setEff, putV, St.put, stepS, keyChk, chkD, accD, Ex.block, AV.under, AObj.under, laysOf, roomFor, mkvO, frzG, szOk, killO, usedBy, tidyS, ghost, ghostE, normSt, resOf, allSome, one0, resultsF, finL, finishL, finish, endF, startEnv, chkC, backX, comeC, wpn_nil, wpn_seq, wpn_loop, wpn_seq_exit, wpn_loop_exit, wpn_seq_ret, wpn_loop_ret, wpn_block, wpn_post, wpk_skip, wpk_exit, wpk_ret, wpk_reg, wpk_seq, wpk_condT, wpk_block, wpk_loop, wpk_pre, wpk_post, wop_nil, wop_cons, wop_guard, St.know, envSet, cond_d, cond_bool, cond_int, cond_str, endE, endQ, freeB, disj, pushT, bitsW, int_beq, int_bne, eqS_def, tbE, fuelL_eq, ann0_lays, ann0_dd, ann0_ro, elsOf_dsl, elsOf_dnils, toNat_succ, nn_succ, pos_succ, one_succ, rng1, rng2, rng3, rng4, rng5, rng6, rng7, rng8, List.idxOf_cons, T3, T4, T5, T9, T22, T26, T27, T30, T32, T34, T37, T39, T45, T46, T47, T48, T50, T52, T54, T56, T59, T61, T64, T66, T72, T73, T78, T99, T101, T103, T104, T107, T110, T113, T116, T154, T169, T171, T194, CT, Sto.enc, a1, a2, a3, b1, b2, b3]
  refine wlp_inv (S := fun p : List Tre × List Tre => ⟨[(1, .ptr 0 0), (3, .d (.int .i64 p.1.length))], [.box [.d s.td, .d (.int .i8 s.o1), .d (.int .i8 s.o2), .d (.int .i8 s.o3), .d (.int .i8 s.o4), .d s.sd, .d (.int .u8 s.wrong)]]⟩) (m := fun p => p.2.length)
    (Inv := fun p => p.1 ++ p.2 = s.trees ∧ p.2.all (fun t => decide (t.calls.length ≤ 8)) = s.trees.all (fun t => decide (t.calls.length ≤ 8))) ?_ ([], s.trees) ⟨rfl, rfl⟩
  rintro ⟨pre, suf⟩ ⟨hps, h2⟩ ih
  rw [e23_1]
  simp only at h2 hps ⊢
  unfold Sto.short
  unfold Sto.short at ih
  rw [← h2] at ih ⊢
  clear h2
  cases suf with
  | nil =>
    have hn := endL hps
    simp [c23_1, TK.agg, constAV, evalAV, eqCells, EK.has, EK.hasAll, vecEls, elsR, AV.toD, toDs, AV.cells, AV.one, joinD, TyI.zeroD, OpR.of, binIntF, binStrF, AV.isPtr, ptrNil, slNil, mpNil, nilE, eqF, negF, posF, binF, pelF, pvLoad, pelSet, pvStore, boxLoad, epLoad, loadF, boxStore, storeF, fieldAddrF, fieldF, epOf, indexAddrF, byteF, indexF, mapLen, lenF, cutF, sliceF, isSl, slice3F, fillF, arrFs, buildF, partsX, landV, buildSliceF, roomB, appVec, appendF, mmFrom, mmF, max2', min2', clearVec, clearF, convF, unF, pickF, nilChkF, extF, ptrsOf, callF, makeSliceF, sameKs, sameD, kindIs, plainFs, keyOk, mapOb, mapEs, okV, lookF, lookupF, putE, putS, mapPut, mapUpdateF, mapDel, deleteF, mapAll, rangeM, rangeF, overV, hitV, nextO, nextF, entryM, entryO, entryF, itOids, builtinF, capsOf, allocF, boxF, convertF, makeFuncF, makeMapF, makeMapH, opF, reach, reachOf, AObj.live, closedB, nodupB, packO, packL, packX, backN, backG, backO, obL, backE, frzX, frzO, AV.vids, frzL, landC, sameObs, landR, touchF, D.cells, D.decEq, D.decEqs, AV.decEq, AV.decEqs, AObj.decEq, AV.oids0, AV.oids, AObj.oids, renG, renP, AV.ren0, AV.ren, envGet, envPut, envKeep, obGet, setEff, putV, St.put, stepS, keyChk, chkD, accD, Ex.block, AV.under, AObj.under, laysOf, roomFor, mkvO, frzG, szOk, killO, usedBy, tidyS, ghost, ghostE, normSt, resOf, allSome, one0, resultsF, finL, finishL, finish, endF, startEnv, chkC, backX, comeC, wpn_nil, wpn_seq, wpn_loop, wpn_seq_exit, wpn_loop_exit, wpn_seq_ret, wpn_loop_ret, wpn_block, wpn_post, wpk_skip, wpk_exit, wpk_ret, wpk_reg, wpk_seq, wpk_condT, wpk_block, wpk_loop, wpk_pre, wpk_post, wop_nil, wop_cons, wop_guard, St.know, envSet, cond_d, cond_bool, cond_int, cond_str, endE, endQ, freeB, disj, pushT, bitsW, int_beq, int_bne, eqS_def, tbE, fuelL_eq, ann0_lays, ann0_dd, ann0_ro, elsOf_dsl, elsOf_dnils, toNat_succ, nn_succ, pos_succ, one_succ, rng1, rng2, rng3, rng4, rng5, rng6, rng7, rng8, List.idxOf_cons, T3, T4, T5, T9, T22, T26, T27, T30, T32, T34, T37, T39, T45, T46, T47, T48, T50, T52, T54, T56, T59, T61, T64, T66, T72, T73, T78, T99, T101, T103, T104, T107, T110, T113, T116, T154, T169, T171, T194, CT, htd, hsd, hn]
    rw [← hn]
    by_cases h3 : s.trees.length ≤ 3
    · have h3' : (s.trees.length : Int) ≤ 3 := by omega
      simp [h3, h3']
      by_cases h6 : s.syn.length ≤ 6
      · have h6' : (s.syn.length : Int) ≤ 6 := by omega
        simp [h6, h6']
      · have h6' : ¬ (s.syn.length : Int) ≤ 6 := by omega
        simp [h6, h6']
    · have : ¬ (s.trees.length : Int) ≤ 3 := by omega
      simp [h3, this]
  | cons t suf =>
    have hl := hs.len
    obtain ⟨k1, k2, k3, k4, k5, k6⟩ := atL Tre.enc hps (by omega)
    have kg := getL k5 k4
    have ht := hs.trees t (List.mem_of_getElem? k5)
    have hcd := ht.cd
    obtain ⟨c1, c2, c3⟩ := slF ht.cd
    simp only [AV.one, AV.cells, D.cells] at c1 c2 c3
    have ih := ih (pre ++ [t], suf)
    simp only [Tre.enc] at k3
    simp at ih ⊢
    by_cases h8 : t.calls.length ≤ 8
    · have h8' : ¬ (8 : Int) < t.calls.length := by omega
      simp [h8] at ih ⊢
      simp [c23_1, TK.agg, constAV, evalAV, eqCells, EK.has, EK.hasAll, vecEls, elsR, AV.toD, toDs, AV.cells, AV.one, joinD, TyI.zeroD, OpR.of, binIntF, binStrF, AV.isPtr, ptrNil, slNil, mpNil, nilE, eqF, negF, posF, binF, pelF, pvLoad, pelSet, pvStore, boxLoad, epLoad, loadF, boxStore, storeF, fieldAddrF, fieldF, epOf, indexAddrF, byteF, indexF, mapLen, lenF, cutF, sliceF, isSl, slice3F, fillF, arrFs, buildF, partsX, landV, buildSliceF, roomB, appVec, appendF, mmFrom, mmF, max2', min2', clearVec, clearF, convF, unF, pickF, nilChkF, extF, ptrsOf, callF, makeSliceF, sameKs, sameD, kindIs, plainFs, keyOk, mapOb, mapEs, okV, lookF, lookupF, putE, putS, mapPut, mapUpdateF, mapDel, deleteF, mapAll, rangeM, rangeF, overV, hitV, nextO, nextF, entryM, entryO, entryF, itOids, builtinF, capsOf, allocF, boxF, convertF, makeFuncF, makeMapF, makeMapH, opF, reach, reachOf, AObj.live, closedB, nodupB, packO, packL, packX, backN, backG, backO, obL, backE, frzX, frzO, AV.vids, frzL, landC, sameObs, landR, touchF, D.cells, D.decEq, D.decEqs, AV.decEq, AV.decEqs, AObj.decEq, AV.oids0, AV.oids, AObj.oids, renG, renP, AV.ren0, AV.ren, envGet, envPut, envKeep, obGet, setEff, putV, St.put, stepS, keyChk, chkD, accD, Ex.block, AV.under, AObj.under, laysOf, roomFor, mkvO, frzG, szOk, killO, usedBy, tidyS, ghost, ghostE, normSt, resOf, allSome, one0, resultsF, finL, finishL, finish, endF, startEnv, chkC, backX, comeC, wpn_nil, wpn_seq, wpn_loop, wpn_seq_exit, wpn_loop_exit, wpn_seq_ret, wpn_loop_ret, wpn_block, wpn_post, wpk_skip, wpk_exit, wpk_ret, wpk_reg, wpk_seq, wpk_condT, wpk_block, wpk_loop, wpk_pre, wpk_post, wop_nil, wop_cons, wop_guard, St.know, envSet, cond_d, cond_bool, cond_int, cond_str, endE, endQ, freeB, disj, pushT, bitsW, int_beq, int_bne, eqS_def, tbE, fuelL_eq, ann0_lays, ann0_dd, ann0_ro, elsOf_dsl, elsOf_dnils, toNat_succ, nn_succ, pos_succ, one_succ, rng1, rng2, rng3, rng4, rng5, rng6, rng7, rng8, List.idxOf_cons, T3, T4, T5, T9, T22, T26, T27, T30, T32, T34, T37, T39, T45, T46, T47, T48, T50, T52, T54, T56, T59, T61, T64, T66, T72, T73, T78, T99, T101, T103, T104, T107, T110, T113, T116, T154, T169, T171, T194, CT, Tre.enc, htd, hsd, hcd, c1, c2, c3, k2, k3, k4, k5, kg, h8']
      exact ih hps
    · have h8' : (8 : Int) < t.calls.length := by omega
      simp [h8]
      simp [c23_1, TK.agg, constAV, evalAV, eqCells, EK.has, EK.hasAll, vecEls, elsR, AV.toD, toDs, AV.cells, AV.one, joinD, TyI.zeroD, OpR.of, binIntF, binStrF, AV.isPtr, ptrNil, slNil, mpNil, nilE, eqF, negF, posF, binF, pelF, pvLoad, pelSet, pvStore, boxLoad, epLoad, loadF, boxStore, storeF, fieldAddrF, fieldF, epOf, indexAddrF, byteF, indexF, mapLen, lenF, cutF, sliceF, isSl, slice3F, fillF, arrFs, buildF, partsX, landV, buildSliceF, roomB, appVec, appendF, mmFrom, mmF, max2', min2', clearVec, clearF, convF, unF, pickF, nilChkF, extF, ptrsOf, callF, makeSliceF, sameKs, sameD, kindIs, plainFs, keyOk, mapOb, mapEs, okV, lookF, lookupF, putE, putS, mapPut, mapUpdateF, mapDel, deleteF, mapAll, rangeM, rangeF, overV, hitV, nextO, nextF, entryM, entryO, entryF, itOids, builtinF, capsOf, allocF, boxF, convertF, makeFuncF, makeMapF, makeMapH, opF, reach, reachOf, AObj.live, closedB, nodupB, packO, packL, packX, backN, backG, backO, obL, backE, frzX, frzO, AV.vids, frzL, landC, sameObs, landR, touchF, D.cells, D.decEq, D.decEqs, AV.decEq, AV.decEqs, AObj.decEq, AV.oids0, AV.oids, AObj.oids, renG, renP, AV.ren0, AV.ren, envGet, envPut, envKeep, obGet, setEff, putV, St.put, stepS, keyChk, chkD, accD, Ex.block, AV.under, AObj.under, laysOf, roomFor, mkvO, frzG, szOk, killO, usedBy, tidyS, ghost, ghostE, normSt, resOf, allSome, one0, resultsF, finL, finishL, finish, endF, startEnv, chkC, backX, comeC, wpn_nil, wpn_seq, wpn_loop, wpn_seq_exit, wpn_loop_exit, wpn_seq_ret, wpn_loop_ret, wpn_block, wpn_post, wpk_skip, wpk_exit, wpk_ret, wpk_reg, wpk_seq, wpk_condT, wpk_block, wpk_loop, wpk_pre, wpk_post, wop_nil, wop_cons, wop_guard, St.know, envSet, cond_d, cond_bool, cond_int, cond_str, endE, endQ, freeB, disj, pushT, bitsW, int_beq, int_bne, eqS_def, tbE, fuelL_eq, ann0_lays, ann0_dd, ann0_ro, elsOf_dsl, elsOf_dnils, toNat_succ, nn_succ, pos_succ, one_succ, rng1, rng2, rng3, rng4, rng5, rng6, rng7, rng8, List.idxOf_cons, T3, T4, T5, T9, T22, T26, T27, T30, T32, T34, T37, T39, T45, T46, T47, T48, T50, T52, T54, T56, T59, T61, T64, T66, T72, T73, T78, T99, T101, T103, T104, T107, T110, T113, T116, T154, T169, T171, T194, CT, Tre.enc, htd, hsd, hcd, c1, c2, c3, k2, k3, k4, k5, kg, h8']
set_option maxRecDepth 100000 in
/-- A trace's id. -/
theorem traceId_run (s : Sto) (hs : s.ok) (k : Nat) (t : Tre) (hk : s.trees[k]? = some t) : ∃ x : Int, True ∧ run CC 70 [.d s.enc, .d (.int .i64 k)] [] = some (.d (.int .i64 x), []) := by
  refine runX (F := fun x => .d (.int .i64 x)) (P := fun _ => True) (run_codeQ (s := s70 0) rfl rfl rfl (by kernel_rfl) ?_)
  obtain ⟨a1, a2, a3⟩ := slF hs.td
  simp only [AV.one, AV.cells, D.cells] at a1 a2 a3
  obtain ⟨b1, b2, b3⟩ := slF hs.sd
  simp only [AV.one, AV.cells, D.cells] at b1 b2 b3
  have htd := hs.td
  have hl := hs.len
  obtain ⟨k1, k2, k3⟩ := atN Tre.enc hk (by omega)
  have kg := getL hk k1
  simp only [Tre.enc] at k3
  simp [s70, TK.agg, constAV, evalAV, eqCells, EK.has, EK.hasAll, vecEls, elsR, AV.toD, toDs, AV.cells, AV.one, joinD, TyI.zeroD, OpR.of, binIntF, binStrF, AV.isPtr, ptrNil, slNil, mpNil, nilE, eqF, negF, posF, binF, pelF, pvLoad, pelSet, pvStore, boxLoad, epLoad, loadF, boxStore, storeF, fieldAddrF, fieldF, epOf, indexAddrF, byteF, indexF, mapLen, lenF, cutF, sliceF, isSl, slice3F, fillF, arrFs, buildF, partsX, landV, buildSliceF, roomB, appVec, appendF, mmFrom, mmF, max2', min2', clearVec, clearF, convF, unF, pickF, nilChkF, extF, ptrsOf, callF, makeSliceF, sameKs, sameD, kindIs, plainFs, keyOk, mapOb, mapEs, okV, lookF, lookupF, putE, putS, mapPut, mapUpdateF, mapDel, deleteF, mapAll, rangeM, rangeF, overV, hitV, nextO, nextF, entryM, entryO, entryF, itOids, builtinF, capsOf, allocF, boxF, convertF, makeFuncF, makeMapF, makeMapH, opF, reach, reachOf, AObj.live, closedB, nodupB, packO, packL, packX, backN, backG, backO, obL, backE, frzX, frzO, AV.vids, frzL, landC, sameObs, landR, touchF, D.cells, D.decEq, D.decEqs, AV.decEq, AV.decEqs, AObj.decEq, AV.oids0, AV.oids, AObj.oids, renG, renP, AV.ren0, AV.ren, envGet, envPut, envKeep, obGet, setEff, putV, St.put, stepS, keyChk, chkD, accD, Ex.block, AV.under, AObj.under, laysOf, roomFor, mkvO, frzG, szOk, killO, usedBy, tidyS, ghost, ghostE, normSt, resOf, allSome, one0, resultsF, finL, finishL, finish, endF, startEnv, chkC, backX, comeC, wpn_nil, wpn_seq, wpn_loop, wpn_seq_exit, wpn_loop_exit, wpn_seq_ret, wpn_loop_ret, wpn_block, wpn_post, wpk_skip, wpk_exit, wpk_ret, wpk_reg, wpk_seq, wpk_condT, wpk_block, wpk_loop, wpk_pre, wpk_post, wop_nil, wop_cons, wop_guard, St.know, envSet, cond_d, cond_bool, cond_int, cond_str, endE, endQ, freeB, disj, pushT, bitsW, int_beq, int_bne, eqS_def, tbE, fuelL_eq, ann0_lays, ann0_dd, ann0_ro, elsOf_dsl, elsOf_dnils, toNat_succ, nn_succ, pos_succ, one_succ, rng1, rng2, rng3, rng4, rng5, rng6, rng7, rng8, List.idxOf_cons, T3, T4, T5, T9, T22, T26, T27, T30, T32, T34, T37, T39, T45, T46, T47, T48, T50, T52, T54, T56, T59, T61, T64, T66, T72, T73, T78, T99, T101, T103, T104, T107, T110, T113, T116, T154, T169, T171, T194, CT, Sto.enc, Tre.enc, a1, a2, a3, b1, b2, b3, htd, k1, k3, hk, kg, endQ]
set_option maxRecDepth 100000 in
theorem kind_run (c : Cal) : ∃ x : Int, True ∧ run CC 97 [.d c.enc] [] = some (.d (.int .i64 x), []) := by
  refine runX (F := fun x => .d (.int .i64 x)) (P := fun _ => True) (run_codeQ (s := s97 0) rfl rfl rfl (by kernel_rfl) ?_)
  simp [s97, TK.agg, constAV, evalAV, eqCells, EK.has, EK.hasAll, vecEls, elsR, AV.toD, toDs, AV.cells, AV.one, joinD, TyI.zeroD, OpR.of, binIntF, binStrF, AV.isPtr, ptrNil, slNil, mpNil, nilE, eqF, negF, posF, binF, pelF, pvLoad, pelSet, pvStore, boxLoad, epLoad, loadF, boxStore, storeF, fieldAddrF, fieldF, epOf, indexAddrF, byteF, indexF, mapLen, lenF, cutF, sliceF, isSl, slice3F, fillF, arrFs, buildF, partsX, landV, buildSliceF, roomB, appVec, appendF, mmFrom, mmF, max2', min2', clearVec, clearF, convF, unF, pickF, nilChkF, extF, ptrsOf, callF, makeSliceF, sameKs, sameD, kindIs, plainFs, keyOk, mapOb, mapEs, okV, lookF, lookupF, putE, putS, mapPut, mapUpdateF, mapDel, deleteF, mapAll, rangeM, rangeF, overV, hitV, nextO, nextF, entryM, entryO, entryF, itOids, builtinF, capsOf, allocF, boxF, convertF, makeFuncF, makeMapF, makeMapH, opF, reach, reachOf, AObj.live, closedB, nodupB, packO, packL, packX, backN, backG, backO, obL, backE, frzX, frzO, AV.vids, frzL, landC, sameObs, landR, touchF, D.cells, D.decEq, D.decEqs, AV.decEq, AV.decEqs, AObj.decEq, AV.oids0, AV.oids, AObj.oids, renG, renP, AV.ren0, AV.ren, envGet, envPut, envKeep, obGet, setEff, putV, St.put, stepS, keyChk, chkD, accD, Ex.block, AV.under, AObj.under, laysOf, roomFor, mkvO, frzG, szOk, killO, usedBy, tidyS, ghost, ghostE, normSt, resOf, allSome, one0, resultsF, finL, finishL, finish, endF, startEnv, chkC, backX, comeC, wpn_nil, wpn_seq, wpn_loop, wpn_seq_exit, wpn_loop_exit, wpn_seq_ret, wpn_loop_ret, wpn_block, wpn_post, wpk_skip, wpk_exit, wpk_ret, wpk_reg, wpk_seq, wpk_condT, wpk_block, wpk_loop, wpk_pre, wpk_post, wop_nil, wop_cons, wop_guard, St.know, envSet, cond_d, cond_bool, cond_int, cond_str, endE, endQ, freeB, disj, pushT, bitsW, int_beq, int_bne, eqS_def, tbE, fuelL_eq, ann0_lays, ann0_dd, ann0_ro, elsOf_dsl, elsOf_dnils, toNat_succ, nn_succ, pos_succ, one_succ, rng1, rng2, rng3, rng4, rng5, rng6, rng7, rng8, List.idxOf_cons, T3, T4, T5, T9, T22, T26, T27, T30, T32, T34, T37, T39, T45, T46, T47, T48, T50, T52, T54, T56, T59, T61, T64, T66, T72, T73, T78, T99, T101, T103, T104, T107, T110, T113, T116, T154, T169, T171, T194, CT, Cal.enc, endQ]
set_option maxRecDepth 100000 in
theorem offset_run (s : Sto) (hs : s.ok) (n : Int) : ∃ x : Int, True ∧ run CC 84 [.d s.enc, .d (.int .i64 n)] [] = some (.d (.int .i64 x), []) := by
  refine runX (F := fun x => .d (.int .i64 x)) (P := fun _ => True) (run_codeQ (s := s84 0) rfl rfl rfl (by kernel_rfl) ?_)
  obtain ⟨a1, a2, a3⟩ := slF hs.td
  simp only [AV.one, AV.cells, D.cells] at a1 a2 a3
  obtain ⟨b1, b2, b3⟩ := slF hs.sd
  simp only [AV.one, AV.cells, D.cells] at b1 b2 b3
  have h0 : 0 ≤ IntKind.u64.wrap (IntKind.u64.wrap n + 3) := by
    generalize IntKind.u64.wrap n = q
    simp [IntKind.wrap, IntKind.bits, IntKind.signed]; omega
  have hm := tmodP (n := 4) h0 (by omega)
  have : (IntKind.u64.wrap (IntKind.u64.wrap n + 3)).tmod 4 = 0 ∨ (IntKind.u64.wrap (IntKind.u64.wrap n + 3)).tmod 4 = 1 ∨ (IntKind.u64.wrap (IntKind.u64.wrap n + 3)).tmod 4 = 2 ∨ (IntKind.u64.wrap (IntKind.u64.wrap n + 3)).tmod 4 = 3 := by omega
  rcases this with hm | hm | hm | hm <;> simp [s84, TK.agg, constAV, evalAV, eqCells, EK.has, EK.hasAll, vecEls, elsR, AV.toD, toDs, AV.cells, AV.one, joinD, TyI.zeroD, OpR.of, binIntF, binStrF, AV.isPtr, ptrNil, slNil, mpNil, nilE, eqF, negF, posF, binF, pelF, pvLoad, pelSet, pvStore, boxLoad, epLoad, loadF, boxStore, storeF, fieldAddrF, fieldF, epOf, indexAddrF, byteF, indexF, mapLen, lenF, cutF, sliceF, isSl, slice3F, fillF, arrFs, buildF, partsX, landV, buildSliceF, roomB, appVec, appendF, mmFrom, mmF, max2', min2', clearVec, clearF, convF, unF, pickF, nilChkF, extF, ptrsOf, callF, makeSliceF, sameKs, sameD, kindIs, plainFs, keyOk, mapOb, mapEs, okV, lookF, lookupF, putE, putS, mapPut, mapUpdateF, mapDel, deleteF, mapAll, rangeM, rangeF, overV, hitV, nextO, nextF, entryM, entryO, entryF, itOids, builtinF, capsOf, allocF, boxF, convertF, makeFuncF, makeMapF, makeMapH, opF, reach, reachOf, AObj.live, closedB, nodupB, packO, packL, packX, backN, backG, backO, obL, backE, frzX, frzO, AV.vids, frzL, landC, sameObs, landR, touchF, D.cells, D.decEq, D.decEqs, AV.decEq, AV.decEqs, AObj.decEq, AV.oids0, AV.oids, AObj.oids, renG, renP, AV.ren0, AV.ren, envGet, envPut, envKeep, obGet, setEff, putV, St.put, stepS, keyChk, chkD, accD, Ex.block, AV.under, AObj.under, laysOf, roomFor, mkvO, frzG, szOk, killO, usedBy, tidyS, ghost, ghostE, normSt, resOf, allSome, one0, resultsF, finL, finishL, finish, endF, startEnv, chkC, backX, comeC, wpn_nil, wpn_seq, wpn_loop, wpn_seq_exit, wpn_loop_exit, wpn_seq_ret, wpn_loop_ret, wpn_block, wpn_post, wpk_skip, wpk_exit, wpk_ret, wpk_reg, wpk_seq, wpk_condT, wpk_block, wpk_loop, wpk_pre, wpk_post, wop_nil, wop_cons, wop_guard, St.know, envSet, cond_d, cond_bool, cond_int, cond_str, endE, endQ, freeB, disj, pushT, bitsW, int_beq, int_bne, eqS_def, tbE, fuelL_eq, ann0_lays, ann0_dd, ann0_ro, elsOf_dsl, elsOf_dnils, toNat_succ, nn_succ, pos_succ, one_succ, rng1, rng2, rng3, rng4, rng5, rng6, rng7, rng8, List.idxOf_cons, T3, T4, T5, T9, T22, T26, T27, T30, T32, T34, T37, T39, T45, T46, T47, T48, T50, T52, T54, T56, T59, T61, T64, T66, T72, T73, T78, T99, T101, T103, T104, T107, T110, T113, T116, T154, T169, T171, T194, CT, Sto.enc, a1, a2, a3, b1, b2, b3, endQ, hm]
end Go.Proofs.YteidaaobppjlbaaV
