/- Add: the walk. -/
import Derived.Test.YtdhbecdlablonaaWc22o
set_option linter.unusedVariables false
set_option linter.unusedSimpArgs false
namespace Go.Proofs.YtdhbecdlablonaaV
open Go.RowKit
theorem put_perm {k : ByteArray} {n : Int} : ∀ {l : List Ctr}, srt l → (∀ p ∈ l, IntKind.i64.wrap (p.2 + n) = p.2 + n) → (putP strK k (cntC k l + n) l).Perm (putC k n l)
  | [], _, _ => by simp [putP, putC, cntC]
  | (q, u) :: l, hs, hw => by
    have hs' := List.pairwise_cons.1 hs
    have hw0 := hw (q, u) (by simp)
    simp only at hw0
    have e : strK.eqb k q = eqS q k := eqS_comm k q
    by_cases he : eqS q k = true
    · have hq := (eqS_iff _ _).1 he
      subst hq
      simp [putP, putC, cntC, e, eqS_self, lessS_irr, hw0]
    · have ih := put_perm (k := k) (n := n) hs'.2 fun p hp => hw p (List.mem_cons_of_mem _ hp)
      by_cases hl : lessS q k = true
      · simp [putP, putC, cntC, e, he, hl]
        exact ih
      · have hk := lessS_tri (by simpa using hl) (by simpa using he)
        have hno : ∀ p ∈ (q, u) :: l, eqS p.1 k = false := fun p hp => by
          rcases List.mem_cons.1 hp with rfl | hp
          · simpa using he
          · exact lessS_ne' (lessS_trans hk (hs'.1 p hp))
        rw [cnt_none hno, Int.zero_add, put_new hno]
        simp [putC, he, hl]
        exact List.perm_append_comm (l₁ := (q, u) :: l) (l₂ := [(k, n)])
theorem putC_new {k : ByteArray} {n : Int} : ∀ {l : List Ctr}, (∀ p ∈ l, eqS p.1 k = false) → (putC k n l).Perm ((k, n) :: l)
  | [], _ => List.Perm.refl _
  | q :: l, h => by
    have h0 := h q (by simp)
    unfold putC
    split
    · exact ((putC_new fun p hp => h p (List.mem_cons_of_mem _ hp)).cons q).trans (List.Perm.swap _ _ _)
    · simp [h0]
theorem posL_all {l : List Ctr} (h : ∀ p ∈ l, 1 ≤ p.2) : posL l = l := List.filter_eq_self.2 fun p hp => by have := h p hp; simp; omega
theorem pos_low {d : Int} : ∀ {l : List Ctr}, (∀ p ∈ l, IntKind.i64.wrap (p.2 - d) = p.2 - d) → posL (lowA d l) = lessC d l
  | [], _ => rfl
  | p :: l, h => by
    have ih := pos_low (d := d) (l := l) fun q hq => h q (List.mem_cons_of_mem _ hq)
    have h0 := h p (by simp)
    unfold posL lowA at ih ⊢
    rw [List.map_cons, List.filter_cons, ih, h0]
    rw [show lessC d (p :: l) = if d < p.2 then (p.1, IntKind.i64.wrap (p.2 - d)) :: lessC d l else lessC d l from rfl]
    by_cases hd : d < p.2
    · have : 0 < p.2 - d := by omega
      simp [hd, this, h0]
    · have : ¬ 0 < p.2 - d := by omega
      simp [hd, this]
theorem low_keys {d : Int} {l : List Ctr} (h : keysNe strK l) : keysNe strK (lowA d l) := List.pairwise_map.2 (h.imp fun h => h)
set_option maxRecDepth 100000 in
set_option maxHeartbeats 4000000 in
theorem loop14_1 (m : List Ctr) (w : Int) (k : ByteArray) (o1 o2 : AObj) (c1 c2 : List D) (h1 : o1 = .box (c1.map .d)) (h2 : o2 = .box (c2.map .d)) (hc1 : c1.length = 4) (hc2 : c2.length = 4) (ks : List Fr) (K : Ex → St → Prop)
    (hnext : wpn CC .norm ⟨[(1, .d (.str k)), (2, .d (.int .i64 w)), (3, .ptr 0 0), (6, .ptr 1 0), (8, .mp 2), (11, .d (.int .i64 (minC w m)))], [o1, o2, .map (mapSI m), .dead]⟩ ks K) :
    wlp CC (s14_1 0) ⟨[(1, .d (.str k)), (2, .d (.int .i64 w)), (3, .ptr 0 0), (6, .ptr 1 0), (8, .mp 2), (11, .d (.int .i64 w)), (62, .it 3)], [o1, o2, .map (mapSI m), .iter (some 2) (mapSI m).length [] (mapSI m).length]⟩ (.block 1 :: .post (.tidy [1, 2, 3, 6, 8, 11] 0 4) :: .post (.tidy [1, 2, 3, 6, 8, 11] 0 4) :: ks) K := by
  match c1, hc1, c2, hc2 with
  | [x1, x2, x3, x4], _, [y1, y2, y3, y4], _ =>
  simp only [List.map_cons, List.map_nil] at h1 h2
  subst h1 h2
  refine wlp_inv (S := fun p : List Nat × Int => ⟨[(1, .d (.str k)), (2, .d (.int .i64 w)), (3, .ptr 0 0), (6, .ptr 1 0), (8, .mp 2), (11, .d (.int .i64 p.2)), (62, .it 3)], [.box [.d x1, .d x2, .d x3, .d x4], .box [.d y1, .d y2, .d y3, .d y4], .map (mapSI m), .iter (some 2) (mapSI m).length p.1 (mapSI m).length]⟩) (m := fun p => (leftE p.1 (allE (mapSI m))).length)
    (Inv := fun p => p.2 ≤ w ∧ (∀ q ∈ stA m, q.1 ∈ p.1 → p.2 ≤ q.2.2) ∧ (p.2 = w ∨ ∃ q ∈ m, p.2 = q.2)) ?_ ([], w) ⟨Int.le_refl _, (fun q _ h => by cases h), .inl rfl⟩
  rintro ⟨seen, d⟩ ⟨g1, g2, g3⟩ ih
  rw [e14_1]
  simp only at g1 g2 g3 ⊢
  unfold c14_1
  rw [wpk_post, wpk_seq, wpk_reg]
  refine wop_next (o := 3) (m := 2) (since := (mapSI m).length) (last := (mapSI m).length) (ck := (mapSI m).length) (seen := seen) (l := allE (mapSI m)) rfl rfl rfl (nextOk_map _ _) (fun h => ?_) fun p hp => ?_
  · obtain ⟨m1, m2, m3⟩ := minC_le m w
    have hall : ∀ q ∈ m, d ≤ q.2 := fun q hq => by
      rw [← stA_snd m] at hq
      obtain ⟨r, hr, rfl⟩ := List.mem_map.1 hq
      refine g2 r hr ?_
      by_cases hs : r.1 ∈ seen
      · exact hs
      · have : dE r ∈ leftE seen (allE (mapSI m)) := mem_leftE (by rw [allE_dE]; exact List.mem_map.2 ⟨r, hr, rfl⟩) hs
        rw [h] at this; cases this
    have hd : d = minC w m := by
      have a : minC w m ≤ d := by
        rcases g3 with e | ⟨q, hq, e⟩
        · omega
        · have := m2 q hq; omega
      have b : d ≤ minC w m := by
        rcases m3 with e | ⟨q, hq, e⟩
        · omega
        · have := hall q hq; omega
      omega
    subst hd
    simp [TK.agg, constAV, evalAV, eqCells, EK.has, EK.hasAll, vecEls, elsR, AV.toD, toDs, AV.cells, AV.one, joinD, TyI.zeroD, OpR.of, binIntF, binStrF, AV.isPtr, ptrNil, slNil, mpNil, nilE, eqF, negF, posF, binF, pelF, pvLoad, pelSet, pvStore, boxLoad, epLoad, loadF, boxStore, storeF, fieldAddrF, fieldF, epOf, indexAddrF, byteF, indexF, mapLen, lenF, cutF, sliceF, isSl, slice3F, fillF, arrFs, buildF, partsX, landV, buildSliceF, roomB, appVec, appendF, mmFrom, mmF, max2', min2', clearVec, clearF, convF, unF, pickF, nilChkF, extF, ptrsOf, callF, makeSliceF, sameKs, sameD, kindIs, plainFs, keyOk, mapOb, mapEs, okV, lookF, lookupF, putE, putS, mapPut, mapUpdateF, mapDel, deleteF, mapAll, rangeM, rangeF, overV, hitV, nextO, nextF, entryM, entryO, entryF, itOids, builtinF, capsOf, allocF, boxF, bytesL, bytesF, byteTy, strTy, convertF, makeFuncF, makeMapF, makeMapH, opF, reach, reachOf, AObj.live, closedB, nodupB, packO, packL, packX, backN, backG, backO, obL, backE, frzX, frzO, AV.vids, frzL, landC, sameObs, landR, touchF, D.cells, D.decEq, D.decEqs, AV.decEq, AV.decEqs, AObj.decEq, AV.oids0, AV.oids, AObj.oids, renG, renP, AV.ren0, AV.ren, envGet, envPut, envKeep, obGet, setEff, putV, St.put, stepS, keyChk, chkD, accD, Ex.block, AV.under, AObj.under, laysOf, roomFor, mkvO, frzG, szOk, killO, usedBy, tidyS, ghost, ghostE, normSt, resOf, allSome, one0, resultsF, finL, finishL, finish, endF, startEnv, chkC, backX, comeC, wpn_nil, wpn_seq, wpn_loop, wpn_seq_exit, wpn_loop_exit, wpn_seq_ret, wpn_loop_ret, wpn_block, wpn_post, wpk_skip, wpk_exit, wpk_ret, wpk_reg, wpk_seq, wpk_condT, wpk_block, wpk_loop, wpk_pre, wpk_post, wop_nil, wop_cons, wop_guard, St.know, envSet, cond_d, cond_bool, cond_int, cond_str, endE, endQ, freeB, disj, pushT, bitsW, int_beq, int_bne, eqS_def, tbE, fuelL_eq, ann0_lays, ann0_dd, ann0_ro, elsOf_dsl, elsOf_dnils, toNat_succ, nn_succ, pos_succ, one_succ, rng1, rng2, rng3, rng4, rng5, rng6, rng7, rng8, List.idxOf_cons, T3, T4, T5, T9, T22, T25, T26, T28, T29, T36, T41, T47, T56, T69, T74, T78, T85, T90, T98, CT]
    exact hnext
  · have hp' := hp
    rw [allE_dE] at hp'
    obtain ⟨q, hq, rfl, hs⟩ := dE_mem hp'
    have hen : entryL q.1 (allE (mapSI m)) = some (.tup [.d (.str q.2.1), .d (.int .i64 q.2.2)]) := entry_all (leftE_mem hp).1
    have ih := ih (seen ++ [q.1], if q.2.2 < d then q.2.2 else d) (by
      have hqm := (stA_lt hq).2
      by_cases hd : q.2.2 < d
      · simp only [if_pos hd]
        refine ⟨by omega, fun r hr hin => ?_, .inr ⟨q.2, hqm, rfl⟩⟩
        rcases List.mem_append.1 hin with hin | hin
        · have := g2 r hr hin; omega
        · simp at hin
          have hn := stA_nodup m
          have : r = q := by
            have key : ∀ L : List SC2, L.Pairwise (fun p q => p.1 ≠ q.1) → r ∈ L → q ∈ L → r = q := by
              intro L
              induction L with
              | nil => intro _ h; cases h
              | cons x L ih =>
                intro hL h1 h2
                have hL := List.pairwise_cons.1 hL
                rcases List.mem_cons.1 h1 with h1 | h1
                · rcases List.mem_cons.1 h2 with h2 | h2
                  · exact h1.trans h2.symm
                  · exact absurd hin (by rw [h1]; exact hL.1 q h2)
                · rcases List.mem_cons.1 h2 with h2 | h2
                  · exact absurd hin.symm (by rw [h2]; exact hL.1 r h1)
                  · exact ih hL.2 h1 h2
            exact key _ hn hr hq
          rw [this]; omega
      · simp only [if_neg hd]
        refine ⟨g1, fun r hr hin => ?_, g3⟩
        rcases List.mem_append.1 hin with hin | hin
        · exact g2 r hr hin
        · simp at hin
          have hn := stA_nodup m
          have : r = q := by
            have key : ∀ L : List SC2, L.Pairwise (fun p q => p.1 ≠ q.1) → r ∈ L → q ∈ L → r = q := by
              intro L
              induction L with
              | nil => intro _ h; cases h
              | cons x L ih =>
                intro hL h1 h2
                have hL := List.pairwise_cons.1 hL
                rcases List.mem_cons.1 h1 with h1 | h1
                · rcases List.mem_cons.1 h2 with h2 | h2
                  · exact h1.trans h2.symm
                  · exact absurd hin (by rw [h1]; exact hL.1 q h2)
                · rcases List.mem_cons.1 h2 with h2 | h2
                  · exact absurd hin.symm (by rw [h2]; exact hL.1 r h1)
                  · exact ih hL.2 h1 h2
            exact key _ hn hr hq
          rw [this]; omega) (leftE_lt hp)
    unfold allE at hen
    simp [TK.agg, constAV, evalAV, eqCells, EK.has, EK.hasAll, vecEls, elsR, AV.toD, toDs, AV.cells, AV.one, joinD, TyI.zeroD, OpR.of, binIntF, binStrF, AV.isPtr, ptrNil, slNil, mpNil, nilE, eqF, negF, posF, binF, pelF, pvLoad, pelSet, pvStore, boxLoad, epLoad, loadF, boxStore, storeF, fieldAddrF, fieldF, epOf, indexAddrF, byteF, indexF, mapLen, lenF, cutF, sliceF, isSl, slice3F, fillF, arrFs, buildF, partsX, landV, buildSliceF, roomB, appVec, appendF, mmFrom, mmF, max2', min2', clearVec, clearF, convF, unF, pickF, nilChkF, extF, ptrsOf, callF, makeSliceF, sameKs, sameD, kindIs, plainFs, keyOk, mapOb, mapEs, okV, lookF, lookupF, putE, putS, mapPut, mapUpdateF, mapDel, deleteF, mapAll, rangeM, rangeF, overV, hitV, nextO, nextF, entryM, entryO, entryF, itOids, builtinF, capsOf, allocF, boxF, bytesL, bytesF, byteTy, strTy, convertF, makeFuncF, makeMapF, makeMapH, opF, reach, reachOf, AObj.live, closedB, nodupB, packO, packL, packX, backN, backG, backO, obL, backE, frzX, frzO, AV.vids, frzL, landC, sameObs, landR, touchF, D.cells, D.decEq, D.decEqs, AV.decEq, AV.decEqs, AObj.decEq, AV.oids0, AV.oids, AObj.oids, renG, renP, AV.ren0, AV.ren, envGet, envPut, envKeep, obGet, setEff, putV, St.put, stepS, keyChk, chkD, accD, Ex.block, AV.under, AObj.under, laysOf, roomFor, mkvO, frzG, szOk, killO, usedBy, tidyS, ghost, ghostE, normSt, resOf, allSome, one0, resultsF, finL, finishL, finish, endF, startEnv, chkC, backX, comeC, wpn_nil, wpn_seq, wpn_loop, wpn_seq_exit, wpn_loop_exit, wpn_seq_ret, wpn_loop_ret, wpn_block, wpn_post, wpk_skip, wpk_exit, wpk_ret, wpk_reg, wpk_seq, wpk_condT, wpk_block, wpk_loop, wpk_pre, wpk_post, wop_nil, wop_cons, wop_guard, St.know, envSet, cond_d, cond_bool, cond_int, cond_str, endE, endQ, freeB, disj, pushT, bitsW, int_beq, int_bne, eqS_def, tbE, fuelL_eq, ann0_lays, ann0_dd, ann0_ro, elsOf_dsl, elsOf_dnils, toNat_succ, nn_succ, pos_succ, one_succ, rng1, rng2, rng3, rng4, rng5, rng6, rng7, rng8, List.idxOf_cons, T3, T4, T5, T9, T22, T25, T26, T28, T29, T36, T41, T47, T56, T69, T74, T78, T85, T90, T98, CT, dE, hen]
    exact ih
theorem addP_bad (s : Sm) (X : D) (hX : elsOf (.d X) = some (csD s.cs)) (k : ByteArray) (w : Int) (e : Int) (he : e = if isName k = false then 11 else if w < 1 then 2 else if 1099511627776 < w then 2 else if 1125899906842624 < IntKind.i64.wrap (s.tot + w) then 20 else 0) (h0 : e ≠ 0) :
    run CC 14 [.d (smD s X), .d (.str k), .d (.int .i64 w)] [] = some (.tup [.d (smD ⟨0, 0, 0, []⟩ .nils), .d (.int .i64 e)], []) := by
  refine run_code (s := s14 0) rfl rfl rfl (by kernel_rfl) ?_
  obtain ⟨a1, a2, a3⟩ := slF hX
  simp only [AV.one, AV.cells, D.cells] at a1 a2 a3
  have hn := isName_run k
  by_cases h1 : isName k = false
  · rw [if_pos h1] at he
    subst he
    simp [s14, smD, TK.agg, constAV, evalAV, eqCells, EK.has, EK.hasAll, vecEls, elsR, AV.toD, toDs, AV.cells, AV.one, joinD, TyI.zeroD, OpR.of, binIntF, binStrF, AV.isPtr, ptrNil, slNil, mpNil, nilE, eqF, negF, posF, binF, pelF, pvLoad, pelSet, pvStore, boxLoad, epLoad, loadF, boxStore, storeF, fieldAddrF, fieldF, epOf, indexAddrF, byteF, indexF, mapLen, lenF, cutF, sliceF, isSl, slice3F, fillF, arrFs, buildF, partsX, landV, buildSliceF, roomB, appVec, appendF, mmFrom, mmF, max2', min2', clearVec, clearF, convF, unF, pickF, nilChkF, extF, ptrsOf, callF, makeSliceF, sameKs, sameD, kindIs, plainFs, keyOk, mapOb, mapEs, okV, lookF, lookupF, putE, putS, mapPut, mapUpdateF, mapDel, deleteF, mapAll, rangeM, rangeF, overV, hitV, nextO, nextF, entryM, entryO, entryF, itOids, builtinF, capsOf, allocF, boxF, bytesL, bytesF, byteTy, strTy, convertF, makeFuncF, makeMapF, makeMapH, opF, reach, reachOf, AObj.live, closedB, nodupB, packO, packL, packX, backN, backG, backO, obL, backE, frzX, frzO, AV.vids, frzL, landC, sameObs, landR, touchF, D.cells, D.decEq, D.decEqs, AV.decEq, AV.decEqs, AObj.decEq, AV.oids0, AV.oids, AObj.oids, renG, renP, AV.ren0, AV.ren, envGet, envPut, envKeep, obGet, setEff, putV, St.put, stepS, keyChk, chkD, accD, Ex.block, AV.under, AObj.under, laysOf, roomFor, mkvO, frzG, szOk, killO, usedBy, tidyS, ghost, ghostE, normSt, resOf, allSome, one0, resultsF, finL, finishL, finish, endF, startEnv, chkC, backX, comeC, wpn_nil, wpn_seq, wpn_loop, wpn_seq_exit, wpn_loop_exit, wpn_seq_ret, wpn_loop_ret, wpn_block, wpn_post, wpk_skip, wpk_exit, wpk_ret, wpk_reg, wpk_seq, wpk_condT, wpk_block, wpk_loop, wpk_pre, wpk_post, wop_nil, wop_cons, wop_guard, St.know, envSet, cond_d, cond_bool, cond_int, cond_str, endE, endQ, freeB, disj, pushT, bitsW, int_beq, int_bne, eqS_def, tbE, fuelL_eq, ann0_lays, ann0_dd, ann0_ro, elsOf_dsl, elsOf_dnils, toNat_succ, nn_succ, pos_succ, one_succ, rng1, rng2, rng3, rng4, rng5, rng6, rng7, rng8, List.idxOf_cons, T3, T4, T5, T9, T22, T25, T26, T28, T29, T36, T41, T47, T56, T69, T74, T78, T85, T90, T98, CT, a1, a2, a3, hX, hn, h1]
  rw [if_neg h1] at he
  replace h1 : isName k = true := by simpa using h1
  by_cases h2 : w < 1
  · rw [if_pos h2] at he
    subst he
    simp [s14, smD, TK.agg, constAV, evalAV, eqCells, EK.has, EK.hasAll, vecEls, elsR, AV.toD, toDs, AV.cells, AV.one, joinD, TyI.zeroD, OpR.of, binIntF, binStrF, AV.isPtr, ptrNil, slNil, mpNil, nilE, eqF, negF, posF, binF, pelF, pvLoad, pelSet, pvStore, boxLoad, epLoad, loadF, boxStore, storeF, fieldAddrF, fieldF, epOf, indexAddrF, byteF, indexF, mapLen, lenF, cutF, sliceF, isSl, slice3F, fillF, arrFs, buildF, partsX, landV, buildSliceF, roomB, appVec, appendF, mmFrom, mmF, max2', min2', clearVec, clearF, convF, unF, pickF, nilChkF, extF, ptrsOf, callF, makeSliceF, sameKs, sameD, kindIs, plainFs, keyOk, mapOb, mapEs, okV, lookF, lookupF, putE, putS, mapPut, mapUpdateF, mapDel, deleteF, mapAll, rangeM, rangeF, overV, hitV, nextO, nextF, entryM, entryO, entryF, itOids, builtinF, capsOf, allocF, boxF, bytesL, bytesF, byteTy, strTy, convertF, makeFuncF, makeMapF, makeMapH, opF, reach, reachOf, AObj.live, closedB, nodupB, packO, packL, packX, backN, backG, backO, obL, backE, frzX, frzO, AV.vids, frzL, landC, sameObs, landR, touchF, D.cells, D.decEq, D.decEqs, AV.decEq, AV.decEqs, AObj.decEq, AV.oids0, AV.oids, AObj.oids, renG, renP, AV.ren0, AV.ren, envGet, envPut, envKeep, obGet, setEff, putV, St.put, stepS, keyChk, chkD, accD, Ex.block, AV.under, AObj.under, laysOf, roomFor, mkvO, frzG, szOk, killO, usedBy, tidyS, ghost, ghostE, normSt, resOf, allSome, one0, resultsF, finL, finishL, finish, endF, startEnv, chkC, backX, comeC, wpn_nil, wpn_seq, wpn_loop, wpn_seq_exit, wpn_loop_exit, wpn_seq_ret, wpn_loop_ret, wpn_block, wpn_post, wpk_skip, wpk_exit, wpk_ret, wpk_reg, wpk_seq, wpk_condT, wpk_block, wpk_loop, wpk_pre, wpk_post, wop_nil, wop_cons, wop_guard, St.know, envSet, cond_d, cond_bool, cond_int, cond_str, endE, endQ, freeB, disj, pushT, bitsW, int_beq, int_bne, eqS_def, tbE, fuelL_eq, ann0_lays, ann0_dd, ann0_ro, elsOf_dsl, elsOf_dnils, toNat_succ, nn_succ, pos_succ, one_succ, rng1, rng2, rng3, rng4, rng5, rng6, rng7, rng8, List.idxOf_cons, T3, T4, T5, T9, T22, T25, T26, T28, T29, T36, T41, T47, T56, T69, T74, T78, T85, T90, T98, CT, a1, a2, a3, hX, hn, h1, h2]
  rw [if_neg h2] at he
  by_cases h3 : 1099511627776 < w
  · rw [if_pos h3] at he
    subst he
    simp [s14, smD, TK.agg, constAV, evalAV, eqCells, EK.has, EK.hasAll, vecEls, elsR, AV.toD, toDs, AV.cells, AV.one, joinD, TyI.zeroD, OpR.of, binIntF, binStrF, AV.isPtr, ptrNil, slNil, mpNil, nilE, eqF, negF, posF, binF, pelF, pvLoad, pelSet, pvStore, boxLoad, epLoad, loadF, boxStore, storeF, fieldAddrF, fieldF, epOf, indexAddrF, byteF, indexF, mapLen, lenF, cutF, sliceF, isSl, slice3F, fillF, arrFs, buildF, partsX, landV, buildSliceF, roomB, appVec, appendF, mmFrom, mmF, max2', min2', clearVec, clearF, convF, unF, pickF, nilChkF, extF, ptrsOf, callF, makeSliceF, sameKs, sameD, kindIs, plainFs, keyOk, mapOb, mapEs, okV, lookF, lookupF, putE, putS, mapPut, mapUpdateF, mapDel, deleteF, mapAll, rangeM, rangeF, overV, hitV, nextO, nextF, entryM, entryO, entryF, itOids, builtinF, capsOf, allocF, boxF, bytesL, bytesF, byteTy, strTy, convertF, makeFuncF, makeMapF, makeMapH, opF, reach, reachOf, AObj.live, closedB, nodupB, packO, packL, packX, backN, backG, backO, obL, backE, frzX, frzO, AV.vids, frzL, landC, sameObs, landR, touchF, D.cells, D.decEq, D.decEqs, AV.decEq, AV.decEqs, AObj.decEq, AV.oids0, AV.oids, AObj.oids, renG, renP, AV.ren0, AV.ren, envGet, envPut, envKeep, obGet, setEff, putV, St.put, stepS, keyChk, chkD, accD, Ex.block, AV.under, AObj.under, laysOf, roomFor, mkvO, frzG, szOk, killO, usedBy, tidyS, ghost, ghostE, normSt, resOf, allSome, one0, resultsF, finL, finishL, finish, endF, startEnv, chkC, backX, comeC, wpn_nil, wpn_seq, wpn_loop, wpn_seq_exit, wpn_loop_exit, wpn_seq_ret, wpn_loop_ret, wpn_block, wpn_post, wpk_skip, wpk_exit, wpk_ret, wpk_reg, wpk_seq, wpk_condT, wpk_block, wpk_loop, wpk_pre, wpk_post, wop_nil, wop_cons, wop_guard, St.know, envSet, cond_d, cond_bool, cond_int, cond_str, endE, endQ, freeB, disj, pushT, bitsW, int_beq, int_bne, eqS_def, tbE, fuelL_eq, ann0_lays, ann0_dd, ann0_ro, elsOf_dsl, elsOf_dnils, toNat_succ, nn_succ, pos_succ, one_succ, rng1, rng2, rng3, rng4, rng5, rng6, rng7, rng8, List.idxOf_cons, T3, T4, T5, T9, T22, T25, T26, T28, T29, T36, T41, T47, T56, T69, T74, T78, T85, T90, T98, CT, a1, a2, a3, hX, hn, h1, h2, h3]
  rw [if_neg h3] at he
  by_cases h4 : 1125899906842624 < IntKind.i64.wrap (s.tot + w)
  · rw [if_pos h4] at he
    subst he
    simp [s14, smD, TK.agg, constAV, evalAV, eqCells, EK.has, EK.hasAll, vecEls, elsR, AV.toD, toDs, AV.cells, AV.one, joinD, TyI.zeroD, OpR.of, binIntF, binStrF, AV.isPtr, ptrNil, slNil, mpNil, nilE, eqF, negF, posF, binF, pelF, pvLoad, pelSet, pvStore, boxLoad, epLoad, loadF, boxStore, storeF, fieldAddrF, fieldF, epOf, indexAddrF, byteF, indexF, mapLen, lenF, cutF, sliceF, isSl, slice3F, fillF, arrFs, buildF, partsX, landV, buildSliceF, roomB, appVec, appendF, mmFrom, mmF, max2', min2', clearVec, clearF, convF, unF, pickF, nilChkF, extF, ptrsOf, callF, makeSliceF, sameKs, sameD, kindIs, plainFs, keyOk, mapOb, mapEs, okV, lookF, lookupF, putE, putS, mapPut, mapUpdateF, mapDel, deleteF, mapAll, rangeM, rangeF, overV, hitV, nextO, nextF, entryM, entryO, entryF, itOids, builtinF, capsOf, allocF, boxF, bytesL, bytesF, byteTy, strTy, convertF, makeFuncF, makeMapF, makeMapH, opF, reach, reachOf, AObj.live, closedB, nodupB, packO, packL, packX, backN, backG, backO, obL, backE, frzX, frzO, AV.vids, frzL, landC, sameObs, landR, touchF, D.cells, D.decEq, D.decEqs, AV.decEq, AV.decEqs, AObj.decEq, AV.oids0, AV.oids, AObj.oids, renG, renP, AV.ren0, AV.ren, envGet, envPut, envKeep, obGet, setEff, putV, St.put, stepS, keyChk, chkD, accD, Ex.block, AV.under, AObj.under, laysOf, roomFor, mkvO, frzG, szOk, killO, usedBy, tidyS, ghost, ghostE, normSt, resOf, allSome, one0, resultsF, finL, finishL, finish, endF, startEnv, chkC, backX, comeC, wpn_nil, wpn_seq, wpn_loop, wpn_seq_exit, wpn_loop_exit, wpn_seq_ret, wpn_loop_ret, wpn_block, wpn_post, wpk_skip, wpk_exit, wpk_ret, wpk_reg, wpk_seq, wpk_condT, wpk_block, wpk_loop, wpk_pre, wpk_post, wop_nil, wop_cons, wop_guard, St.know, envSet, cond_d, cond_bool, cond_int, cond_str, endE, endQ, freeB, disj, pushT, bitsW, int_beq, int_bne, eqS_def, tbE, fuelL_eq, ann0_lays, ann0_dd, ann0_ro, elsOf_dsl, elsOf_dnils, toNat_succ, nn_succ, pos_succ, one_succ, rng1, rng2, rng3, rng4, rng5, rng6, rng7, rng8, List.idxOf_cons, T3, T4, T5, T9, T22, T25, T26, T28, T29, T36, T41, T47, T56, T69, T74, T78, T85, T90, T98, CT, a1, a2, a3, hX, hn, h1, h2, h3, h4]
  rw [if_neg h4] at he
  exact absurd he h0
set_option maxRecDepth 100000 in
set_option maxHeartbeats 4000000 in
theorem addP_run {s : Sm} (h : okS s) (h12 : s.most ≤ 12) (X : D) (hX : elsOf (.d X) = some (csD s.cs)) {k : ByteArray} {w : Int} (hk : isName k = true) (hw : 1 ≤ w) (hw2 : w ≤ 1099511627776) (ht : s.tot + w ≤ 1125899906842624) :
    run CC 14 [.d (smD s X), .d (.str k), .d (.int .i64 w)] [] = some (.tup [.d (smD (addS s k w) (.sl (csD (addS s k w).cs))), .d (.int .i64 0)], []) := by
  refine run_code (s := s14 0) rfl rfl rfl (by kernel_rfl) ?_
  obtain ⟨a1, a2, a3⟩ := slF hX
  simp only [AV.one, AV.cells, D.cells] at a1 a2 a3
  have hn := isName_run k
  rw [hk] at hn
  obtain ⟨b1, b2, b3, b4, b5, b6, b7⟩ := add_ok h hk hw ht
  have h1 := h.tot
  have h2 := h.lostLe
  have h3 := h.le
  have hl := h.lost
  have hm := h.most
  have wt : IntKind.i64.wrap (s.tot + w) = s.tot + w := wrap64 (by omega) (by omega)
  have ww : ∀ p ∈ s.cs, IntKind.i64.wrap (p.2 + w) = p.2 + w := fun p hp => by
    have a := h3 p hp; have b := h.pos p hp
    exact wrap64 (by omega) (by omega)
  have n1 : ¬ w < 1 := by omega
  have n2 : ¬ 1099511627776 < w := by omega
  have n3 : ¬ 1125899906842624 < s.tot + w := by omega
  have hcs := counts_run s X (by have := h.len; omega) h.srt hX (fun p hp => by have a := h3 p hp; have b := h.pos p hp; omega)
  have hlk := look_cnt k s.cs
  have hcp := cnt_pos (k := k) h.pos
  have hlk2 := findD_look strK (D.int .i64) k s.cs 0
  have hget := lookF_get strK (D.int .i64) k s.cs 0
  rw [hlk] at hget
  have hcw : IntKind.i64.wrap (cntC k s.cs + w) = cntC k s.cs + w := by
    have a := hcp.1
    by_cases e : cntC k s.cs = 0
    · rw [e]; exact wrap64 (by omega) (by omega)
    · have := h3 _ (cnt_mem e); simp only at this; exact wrap64 (by omega) (by omega)
  have hb12 : (addS s k w).cs.length ≤ 12 := by have := b1.len; omega
  have hml := mapSI_len s.cs
  have hlen12 : s.cs.length ≤ 12 := by have := h.len; omega
  simp only [smD] at hcs
  change lookF false (some (D.int .i64 0)) (findD (.str k) (mapSI s.cs) 0) = some (.d (.int .i64 (cntC k s.cs))) at hget
  by_cases hu : s.up k w
  · have hput := putE_put strK (D.int .i64) k (cntC k s.cs + w) s.cs
    change putE (.str k) (.int .i64 (cntC k s.cs + w)) (mapSI s.cs) (findD (.str k) (mapSI s.cs) 0) = some (mapSI (putP strK k (cntC k s.cs + w) s.cs)) at hput
    have hcnt := counters_run (putP strK k (cntC k s.cs + w) s.cs) (addS s k w).cs (put_keys strK (srt_ne h.srt)) (by
      have hpe := put_perm (k := k) (n := w) h.srt ww
      have he : (addS s k w).cs = putC k w s.cs := by unfold addS; rw [if_pos hu]
      rw [he]
      have : posL (putP strK k (cntC k s.cs + w) s.cs) = putP strK k (cntC k s.cs + w) s.cs := posL_all fun p hp => by
        have := b1.pos p (by rw [he]; exact hpe.subset hp)
        exact this
      rw [this]; exact hpe) b1.srt hb12
    have e1 : (addS s k w).most = s.most := b2
    have e2 : (addS s k w).tot = s.tot + w := b3
    have e3 : (addS s k w).lost = s.lost := (b7 hu).1
    generalize addS s k w = t at *
    simp only [smD, e1, e2, e3]
    generalize hM : putP strK k (cntC k s.cs + w) s.cs = M at *
    rcases hlo : lookP strK k s.cs with _ | v
    · rw [hlo] at hlk2 hlk
      have hlt : (s.cs.length : Int) < s.most := by
        rcases hu with hu | hu
        · simp at hlk; omega
        · exact hu
      have hfd : findD (.str k) (mapSI s.cs) 0 = some none := hlk2
      have hlt2 : ((mapSI s.cs).length : Int) < s.most := by rw [hml]; exact hlt
      have hz : cntC k s.cs = 0 := by simpa using hlk.symm
      rw [hz, Int.zero_add] at hput
      rw [hfd] at hput
      simp only [putE, Option.some.injEq] at hput
      have hww : IntKind.i64.wrap w = w := wrap64 (by omega) (by omega)
      simp [s14, smD, TK.agg, constAV, evalAV, eqCells, EK.has, EK.hasAll, vecEls, elsR, AV.toD, toDs, AV.cells, AV.one, joinD, TyI.zeroD, OpR.of, binIntF, binStrF, AV.isPtr, ptrNil, slNil, mpNil, nilE, eqF, negF, posF, binF, pelF, pvLoad, pelSet, pvStore, boxLoad, epLoad, loadF, boxStore, storeF, fieldAddrF, fieldF, epOf, indexAddrF, byteF, indexF, mapLen, lenF, cutF, sliceF, isSl, slice3F, fillF, arrFs, buildF, partsX, landV, buildSliceF, roomB, appVec, appendF, mmFrom, mmF, max2', min2', clearVec, clearF, convF, unF, pickF, nilChkF, extF, ptrsOf, callF, makeSliceF, sameKs, sameD, kindIs, plainFs, keyOk, mapOb, mapEs, okV, lookF, lookupF, putE, putS, mapPut, mapUpdateF, mapDel, deleteF, mapAll, rangeM, rangeF, overV, hitV, nextO, nextF, entryM, entryO, entryF, itOids, builtinF, capsOf, allocF, boxF, bytesL, bytesF, byteTy, strTy, convertF, makeFuncF, makeMapF, makeMapH, opF, reach, reachOf, AObj.live, closedB, nodupB, packO, packL, packX, backN, backG, backO, obL, backE, frzX, frzO, AV.vids, frzL, landC, sameObs, landR, touchF, D.cells, D.decEq, D.decEqs, AV.decEq, AV.decEqs, AObj.decEq, AV.oids0, AV.oids, AObj.oids, renG, renP, AV.ren0, AV.ren, envGet, envPut, envKeep, obGet, setEff, putV, St.put, stepS, keyChk, chkD, accD, Ex.block, AV.under, AObj.under, laysOf, roomFor, mkvO, frzG, szOk, killO, usedBy, tidyS, ghost, ghostE, normSt, resOf, allSome, one0, resultsF, finL, finishL, finish, endF, startEnv, chkC, backX, comeC, wpn_nil, wpn_seq, wpn_loop, wpn_seq_exit, wpn_loop_exit, wpn_seq_ret, wpn_loop_ret, wpn_block, wpn_post, wpk_skip, wpk_exit, wpk_ret, wpk_reg, wpk_seq, wpk_condT, wpk_block, wpk_loop, wpk_pre, wpk_post, wop_nil, wop_cons, wop_guard, St.know, envSet, cond_d, cond_bool, cond_int, cond_str, endE, endQ, freeB, disj, pushT, bitsW, int_beq, int_bne, eqS_def, tbE, fuelL_eq, ann0_lays, ann0_dd, ann0_ro, elsOf_dsl, elsOf_dnils, toNat_succ, nn_succ, pos_succ, one_succ, rng1, rng2, rng3, rng4, rng5, rng6, rng7, rng8, List.idxOf_cons, T3, T4, T5, T9, T22, T25, T26, T28, T29, T36, T41, T47, T56, T69, T74, T78, T85, T90, T98, CT, a1, a2, a3, hX, hn, n1, n2, n3, wt, hcs, hfd, hlt2, hww, hput, hcnt]
    · rw [hlo] at hlk2 hlk
      have hz : cntC k s.cs = v := by simpa using hlk.symm
      rw [hz] at hput hcw
      have hfd : findD (.str k) (mapSI s.cs) 0 = some (some (0 + idxP strK k s.cs, .int .i64 v)) := hlk2
      rw [hfd] at hput
      simp only [putE, Option.some.injEq] at hput
      rw [Nat.zero_add] at hput hfd
      simp [s14, smD, TK.agg, constAV, evalAV, eqCells, EK.has, EK.hasAll, vecEls, elsR, AV.toD, toDs, AV.cells, AV.one, joinD, TyI.zeroD, OpR.of, binIntF, binStrF, AV.isPtr, ptrNil, slNil, mpNil, nilE, eqF, negF, posF, binF, pelF, pvLoad, pelSet, pvStore, boxLoad, epLoad, loadF, boxStore, storeF, fieldAddrF, fieldF, epOf, indexAddrF, byteF, indexF, mapLen, lenF, cutF, sliceF, isSl, slice3F, fillF, arrFs, buildF, partsX, landV, buildSliceF, roomB, appVec, appendF, mmFrom, mmF, max2', min2', clearVec, clearF, convF, unF, pickF, nilChkF, extF, ptrsOf, callF, makeSliceF, sameKs, sameD, kindIs, plainFs, keyOk, mapOb, mapEs, okV, lookF, lookupF, putE, putS, mapPut, mapUpdateF, mapDel, deleteF, mapAll, rangeM, rangeF, overV, hitV, nextO, nextF, entryM, entryO, entryF, itOids, builtinF, capsOf, allocF, boxF, bytesL, bytesF, byteTy, strTy, convertF, makeFuncF, makeMapF, makeMapH, opF, reach, reachOf, AObj.live, closedB, nodupB, packO, packL, packX, backN, backG, backO, obL, backE, frzX, frzO, AV.vids, frzL, landC, sameObs, landR, touchF, D.cells, D.decEq, D.decEqs, AV.decEq, AV.decEqs, AObj.decEq, AV.oids0, AV.oids, AObj.oids, renG, renP, AV.ren0, AV.ren, envGet, envPut, envKeep, obGet, setEff, putV, St.put, stepS, keyChk, chkD, accD, Ex.block, AV.under, AObj.under, laysOf, roomFor, mkvO, frzG, szOk, killO, usedBy, tidyS, ghost, ghostE, normSt, resOf, allSome, one0, resultsF, finL, finishL, finish, endF, startEnv, chkC, backX, comeC, wpn_nil, wpn_seq, wpn_loop, wpn_seq_exit, wpn_loop_exit, wpn_seq_ret, wpn_loop_ret, wpn_block, wpn_post, wpk_skip, wpk_exit, wpk_ret, wpk_reg, wpk_seq, wpk_condT, wpk_block, wpk_loop, wpk_pre, wpk_post, wop_nil, wop_cons, wop_guard, St.know, envSet, cond_d, cond_bool, cond_int, cond_str, endE, endQ, freeB, disj, pushT, bitsW, int_beq, int_bne, eqS_def, tbE, fuelL_eq, ann0_lays, ann0_dd, ann0_ro, elsOf_dsl, elsOf_dnils, toNat_succ, nn_succ, pos_succ, one_succ, rng1, rng2, rng3, rng4, rng5, rng6, rng7, rng8, List.idxOf_cons, T3, T4, T5, T9, T22, T25, T26, T28, T29, T36, T41, T47, T56, T69, T74, T78, T85, T90, T98, CT, a1, a2, a3, hX, hn, n1, n2, n3, wt, hcs, hfd, hcw, hput, hcnt]
  · have he : addS s k w = ⟨s.most, s.tot + w, (addS s k w).lost, (addS s k w).cs⟩ := by
      have e1 : (addS s k w).most = s.most := b2
      have e2 : (addS s k w).tot = s.tot + w := b3
      rw [← e1, ← e2]
    obtain ⟨m1, m2, m3⟩ := minC_le s.cs w
    have hno : ∀ p ∈ s.cs, eqS p.1 k = false := fun p hp => by
      cases hq : eqS p.1 k with
      | false => rfl
      | true => exact absurd (.inl (hcp.2.2 ⟨p, hp, (eqS_iff _ _).1 hq⟩)) hu
    have hz : cntC k s.cs = 0 := cnt_none hno
    have hlo : lookP strK k s.cs = none := by
      cases hq : lookP strK k s.cs with
      | none => rfl
      | some v =>
        have := mem_look strK hq
        have h2 := hno _ this
        simp [eqS_self] at h2
    have hfd : findD (.str k) (mapSI s.cs) 0 = some none := by
      rw [hlo] at hlk2; exact hlk2
    have hlt2 : ¬ ((mapSI s.cs).length : Int) < s.most := by rw [hml]; exact fun h => hu (.inr h)
    have hd1 : 1 ≤ minC w s.cs := by
      rcases m3 with e | ⟨p, hp, e⟩
      · omega
      · have := h.pos p hp; omega
    have hel : (addS s k w).lost = IntKind.i64.wrap (s.lost + minC w s.cs) := by unfold addS; rw [if_neg hu]
    have hec : (addS s k w).cs = if minC w s.cs < w then putC k (IntKind.i64.wrap (w - minC w s.cs)) (lessC (minC w s.cs) s.cs) else lessC (minC w s.cs) s.cs := by unfold addS; rw [if_neg hu]
    have wwd : IntKind.i64.wrap (w - minC w s.cs) = w - minC w s.cs := wrap64 (by omega) (by omega)
    have wd : ∀ p ∈ s.cs, IntKind.i64.wrap (p.2 - minC w s.cs) = p.2 - minC w s.cs := fun p hp => by
      have a := h3 p hp; have b := h.pos p hp
      exact wrap64 (by omega) (by omega)
    have hlow := lower_run s.cs (minC w s.cs) (srt_ne h.srt)
    have hno2 : ∀ p ∈ lowA (minC w s.cs) s.cs, eqS p.1 k = false := fun p hp => by
      obtain ⟨q, hq, rfl⟩ := List.mem_map.1 hp
      exact hno q hq
    have hput := putE_put strK (D.int .i64) k (w - minC w s.cs) (lowA (minC w s.cs) s.cs)
    have hfd2 := findD_look strK (D.int .i64) k (lowA (minC w s.cs) s.cs) 0
    have hlo2 : lookP strK k (lowA (minC w s.cs) s.cs) = none := by
      cases hq : lookP strK k (lowA (minC w s.cs) s.cs) with
      | none => rfl
      | some v =>
        have := mem_look strK hq
        have h2 := hno2 _ this
        simp [eqS_self] at h2
    rw [hlo2] at hfd2
    change findD (.str k) (mapSI (lowA (minC w s.cs) s.cs)) 0 = some none at hfd2
    change putE (.str k) (.int .i64 (w - minC w s.cs)) (mapSI (lowA (minC w s.cs) s.cs)) (findD (.str k) (mapSI (lowA (minC w s.cs) s.cs)) 0) = some (mapSI (putP strK k (w - minC w s.cs) (lowA (minC w s.cs) s.cs))) at hput
    rw [hfd2] at hput
    simp only [putE, Option.some.injEq] at hput
    have hcnt := counters_run (putP strK k (w - minC w s.cs) (lowA (minC w s.cs) s.cs)) (addS s k w).cs (put_keys strK (low_keys (srt_ne h.srt))) (by
      rw [hec, put_new hno2, wwd]
      unfold posL
      rw [List.filter_append]
      have hpl : (lowA (minC w s.cs) s.cs).filter (fun p => decide (0 < p.2)) = lessC (minC w s.cs) s.cs := pos_low wd
      rw [hpl]
      have hno3 : ∀ p ∈ lessC (minC w s.cs) s.cs, eqS p.1 k = false := fun p hp => by
        obtain ⟨q, hq, e1, _⟩ := less_key hp
        rw [← e1]; exact hno q hq
      by_cases hdw : minC w s.cs < w
      · have : 0 < w - minC w s.cs := by omega
        rw [if_pos hdw, show List.filter (fun p : Ctr => decide (0 < p.2)) [(k, w - minC w s.cs)] = [(k, w - minC w s.cs)] from List.filter_eq_self.2 fun p hp => by rw [List.mem_singleton.1 hp]; exact decide_eq_true this]
        exact List.Perm.trans (List.perm_append_comm (l₂ := [(k, w - minC w s.cs)])) (putC_new hno3).symm
      · have : ¬ 0 < w - minC w s.cs := by omega
        rw [if_neg hdw, show List.filter (fun p : Ctr => decide (0 < p.2)) [(k, w - minC w s.cs)] = [] from List.filter_eq_nil_iff.2 fun p hp => by rw [List.mem_singleton.1 hp]; simpa using this, List.append_nil]) b1.srt hb12
    rw [he]
    simp only [smD]
    rw [hel]
    generalize (addS s k w).cs = R at *
    generalize hM : putP strK k (w - minC w s.cs) (lowA (minC w s.cs) s.cs) = M at *
    generalize hMM : mapSI (lowA (minC w s.cs) s.cs) = MM at *
    simp [s14, smD, TK.agg, constAV, evalAV, eqCells, EK.has, EK.hasAll, vecEls, elsR, AV.toD, toDs, AV.cells, AV.one, joinD, TyI.zeroD, OpR.of, binIntF, binStrF, AV.isPtr, ptrNil, slNil, mpNil, nilE, eqF, negF, posF, binF, pelF, pvLoad, pelSet, pvStore, boxLoad, epLoad, loadF, boxStore, storeF, fieldAddrF, fieldF, epOf, indexAddrF, byteF, indexF, mapLen, lenF, cutF, sliceF, isSl, slice3F, fillF, arrFs, buildF, partsX, landV, buildSliceF, roomB, appVec, appendF, mmFrom, mmF, max2', min2', clearVec, clearF, convF, unF, pickF, nilChkF, extF, ptrsOf, callF, makeSliceF, sameKs, sameD, kindIs, plainFs, keyOk, mapOb, mapEs, okV, lookF, lookupF, putE, putS, mapPut, mapUpdateF, mapDel, deleteF, mapAll, rangeM, rangeF, overV, hitV, nextO, nextF, entryM, entryO, entryF, itOids, builtinF, capsOf, allocF, boxF, bytesL, bytesF, byteTy, strTy, convertF, makeFuncF, makeMapF, makeMapH, opF, reach, reachOf, AObj.live, closedB, nodupB, packO, packL, packX, backN, backG, backO, obL, backE, frzX, frzO, AV.vids, frzL, landC, sameObs, landR, touchF, D.cells, D.decEq, D.decEqs, AV.decEq, AV.decEqs, AObj.decEq, AV.oids0, AV.oids, AObj.oids, renG, renP, AV.ren0, AV.ren, envGet, envPut, envKeep, obGet, setEff, putV, St.put, stepS, keyChk, chkD, accD, Ex.block, AV.under, AObj.under, laysOf, roomFor, mkvO, frzG, szOk, killO, usedBy, tidyS, ghost, ghostE, normSt, resOf, allSome, one0, resultsF, finL, finishL, finish, endF, startEnv, chkC, backX, comeC, wpn_nil, wpn_seq, wpn_loop, wpn_seq_exit, wpn_loop_exit, wpn_seq_ret, wpn_loop_ret, wpn_block, wpn_post, wpk_skip, wpk_exit, wpk_ret, wpk_reg, wpk_seq, wpk_condT, wpk_block, wpk_loop, wpk_pre, wpk_post, wop_nil, wop_cons, wop_guard, St.know, envSet, cond_d, cond_bool, cond_int, cond_str, endE, endQ, freeB, disj, pushT, bitsW, int_beq, int_bne, eqS_def, tbE, fuelL_eq, ann0_lays, ann0_dd, ann0_ro, elsOf_dsl, elsOf_dnils, toNat_succ, nn_succ, pos_succ, one_succ, rng1, rng2, rng3, rng4, rng5, rng6, rng7, rng8, List.idxOf_cons, T3, T4, T5, T9, T22, T25, T26, T28, T29, T36, T41, T47, T56, T69, T74, T78, T85, T90, T98, CT, a1, a2, a3, hX, hn, n1, n2, n3, wt, hcs, hfd, hlt2]
    refine loop14_1 s.cs w k _ _ [.int .i64 s.most, .int .i64 (s.tot + w), .int .i64 s.lost, X] [.int .i64 0, .int .i64 0, .int .i64 0, .nils] rfl rfl rfl rfl _ _ ?_
    generalize minC w s.cs = d at *
    simp [TK.agg, constAV, evalAV, eqCells, EK.has, EK.hasAll, vecEls, elsR, AV.toD, toDs, AV.cells, AV.one, joinD, TyI.zeroD, OpR.of, binIntF, binStrF, AV.isPtr, ptrNil, slNil, mpNil, nilE, eqF, negF, posF, binF, pelF, pvLoad, pelSet, pvStore, boxLoad, epLoad, loadF, boxStore, storeF, fieldAddrF, fieldF, epOf, indexAddrF, byteF, indexF, mapLen, lenF, cutF, sliceF, isSl, slice3F, fillF, arrFs, buildF, partsX, landV, buildSliceF, roomB, appVec, appendF, mmFrom, mmF, max2', min2', clearVec, clearF, convF, unF, pickF, nilChkF, extF, ptrsOf, callF, makeSliceF, sameKs, sameD, kindIs, plainFs, keyOk, mapOb, mapEs, okV, lookF, lookupF, putE, putS, mapPut, mapUpdateF, mapDel, deleteF, mapAll, rangeM, rangeF, overV, hitV, nextO, nextF, entryM, entryO, entryF, itOids, builtinF, capsOf, allocF, boxF, bytesL, bytesF, byteTy, strTy, convertF, makeFuncF, makeMapF, makeMapH, opF, reach, reachOf, AObj.live, closedB, nodupB, packO, packL, packX, backN, backG, backO, obL, backE, frzX, frzO, AV.vids, frzL, landC, sameObs, landR, touchF, D.cells, D.decEq, D.decEqs, AV.decEq, AV.decEqs, AObj.decEq, AV.oids0, AV.oids, AObj.oids, renG, renP, AV.ren0, AV.ren, envGet, envPut, envKeep, obGet, setEff, putV, St.put, stepS, keyChk, chkD, accD, Ex.block, AV.under, AObj.under, laysOf, roomFor, mkvO, frzG, szOk, killO, usedBy, tidyS, ghost, ghostE, normSt, resOf, allSome, one0, resultsF, finL, finishL, finish, endF, startEnv, chkC, backX, comeC, wpn_nil, wpn_seq, wpn_loop, wpn_seq_exit, wpn_loop_exit, wpn_seq_ret, wpn_loop_ret, wpn_block, wpn_post, wpk_skip, wpk_exit, wpk_ret, wpk_reg, wpk_seq, wpk_condT, wpk_block, wpk_loop, wpk_pre, wpk_post, wop_nil, wop_cons, wop_guard, St.know, envSet, cond_d, cond_bool, cond_int, cond_str, endE, endQ, freeB, disj, pushT, bitsW, int_beq, int_bne, eqS_def, tbE, fuelL_eq, ann0_lays, ann0_dd, ann0_ro, elsOf_dsl, elsOf_dnils, toNat_succ, nn_succ, pos_succ, one_succ, rng1, rng2, rng3, rng4, rng5, rng6, rng7, rng8, List.idxOf_cons, T3, T4, T5, T9, T22, T25, T26, T28, T29, T36, T41, T47, T56, T69, T74, T78, T85, T90, T98, CT, a1, a2, a3, hX, hlow, wwd, hfd2, hput, hcnt]
end Go.Proofs.YtdhbecdlablonaaV
