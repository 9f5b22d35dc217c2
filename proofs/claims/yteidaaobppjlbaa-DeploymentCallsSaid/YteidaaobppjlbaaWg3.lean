/- Calls: the walk. -/
import Derived.Test.YteidaaobppjlbaaWg2
import Derived.Test.YteidaaobppjlbaaWd20
import Derived.Test.YteidaaobppjlbaaVD
set_option linter.unusedVariables false
set_option linter.unusedSimpArgs false
namespace Go.Proofs.YteidaaobppjlbaaV
open Go.RowKit
theorem subject_run (c : Chg) : run CC 58 [.d c.enc] [] = some (.d (.agg [.int .i64 c.kind, .str c.svc, .str c.tgt]), []) := by
  refine run_code (s := s58 0) rfl rfl rfl (by kernel_rfl) ?_
  simp [s58, Chg.enc, TK.agg, constAV, evalAV, eqCells, EK.has, EK.hasAll, vecEls, elsR, AV.toD, toDs, AV.cells, AV.one, joinD, TyI.zeroD, OpR.of, binIntF, binStrF, AV.isPtr, ptrNil, slNil, mpNil, nilE, eqF, negF, posF, binF, pelF, pvLoad, pelSet, pvStore, boxLoad, epLoad, loadF, boxStore, storeF, fieldAddrF, fieldF, epOf, indexAddrF, byteF, indexF, mapLen, lenF, cutF, sliceF, isSl, slice3F, fillF, arrFs, buildF, partsX, landV, buildSliceF, roomB, appVec, appendF, mmFrom, mmF, max2', min2', clearVec, clearF, convF, unF, pickF, nilChkF, extF, ptrsOf, callF, makeSliceF, sameKs, sameD, kindIs, plainFs, keyOk, mapOb, mapEs, okV, lookF, lookupF, putE, putS, mapPut, mapUpdateF, mapDel, deleteF, mapAll, rangeM, rangeF, overV, hitV, nextO, nextF, entryM, entryO, entryF, itOids, builtinF, capsOf, allocF, boxF, bytesL, bytesF, byteTy, strTy, convertF, makeFuncF, makeMapF, makeMapH, opF, reach, reachOf, AObj.live, closedB, nodupB, packO, packL, packX, backN, backG, backO, obL, backE, frzX, frzO, AV.vids, frzL, landC, sameObs, landR, touchF, D.cells, D.decEq, D.decEqs, AV.decEq, AV.decEqs, AObj.decEq, AV.oids0, AV.oids, AObj.oids, renG, renP, AV.ren0, AV.ren, envGet, envPut, envKeep, obGet, setEff, putV, St.put, stepS, keyChk, chkD, accD, Ex.block, AV.under, AObj.under, laysOf, roomFor, mkvO, frzG, szOk, killO, usedBy, tidyS, ghost, ghostE, normSt, resOf, allSome, one0, resultsF, finL, finishL, finish, endF, startEnv, chkC, backX, comeC, wpn_nil, wpn_seq, wpn_loop, wpn_seq_exit, wpn_loop_exit, wpn_seq_ret, wpn_loop_ret, wpn_block, wpn_post, wpk_skip, wpk_exit, wpk_ret, wpk_reg, wpk_seq, wpk_condT, wpk_block, wpk_loop, wpk_pre, wpk_post, wop_nil, wop_cons, wop_guard, St.know, envSet, cond_d, cond_bool, cond_int, cond_str, endE, endQ, freeB, disj, pushT, bitsW, int_beq, int_bne, eqS_def, tbE, fuelL_eq, ann0_lays, ann0_dd, ann0_ro, elsOf_dsl, elsOf_dnils, toNat_succ, nn_succ, pos_succ, one_succ, rng1, rng2, rng3, rng4, rng5, rng6, rng7, rng8, List.idxOf_cons, T3, T4, T5, T9, T22, T26, T27, T30, T32, T37, T39, T54, T66, T73, T83, T86, T99, T110, T114, T116, T141, T148, T150, CT]
def depK : KeyEnc Pr := ⟨fun p => .agg [.int .i64 3, .str p.1, .str p.2], fun a b => eqS a.1 b.1 && eqS a.2 b.2, fun a b => by
  simp [sameD, sameKs, eqCells, eqS], fun a b => by
  simp only [Bool.and_eq_true, eqS_iff]
  exact ⟨fun h => Prod.ext h.1 h.2, fun h => ⟨congrArg _ h, congrArg _ h⟩⟩⟩
abbrev mapB (m : List (Pr × Bool)) : List (D × D) := mapD depK D.bool m
abbrev getB (m : List (Pr × Bool)) (s : Pr) : Bool := (lookP depK s m).getD false
theorem getB_put (m : List (Pr × Bool)) (k s : Pr) (v : Bool) : getB (putP depK k v m) s = if s = k then v else getB m s := by
  unfold getB
  rw [look_put]
  by_cases h : s = k
  · subst h; simp [(depK.eq s s).2 rfl]
  · have : ¬ depK.eqb s k = true := fun q => h ((depK.eq s k).1 q)
    simp [h, this]
def isDep (a : Int) (c : Chg) : Prop := c.kind = 3 ∧ c.slot ≤ a
instance (a : Int) (c : Chg) : Decidable (isDep a c) := inferInstanceAs (Decidable (_ ∧ _))
def tog (a : Int) (m : List (Pr × Bool)) (c : Chg) : List (Pr × Bool) := if isDep a c then putP depK (c.svc, c.tgt) (!getB m (c.svc, c.tgt)) m else m
def togs (a : Int) (m : List (Pr × Bool)) : List Chg → List (Pr × Bool)
  | [] => m
  | c :: l => togs a (tog a m c) l
theorem togs_app (a : Int) (c : Chg) : ∀ (l : List Chg) (m : List (Pr × Bool)), togs a m (l ++ [c]) = tog a (togs a m l) c
  | [], m => rfl
  | p :: l, m => togs_app a c l _
def cntD (a : Int) (s : Pr) : List Chg → Int
  | [] => 0
  | c :: l => (if isDep a c ∧ (c.svc, c.tgt) = s then 1 else 0) + cntD a s l
theorem cntD_app (a : Int) (s : Pr) (c : Chg) : ∀ l, cntD a s (l ++ [c]) = cntD a s l + if isDep a c ∧ (c.svc, c.tgt) = s then 1 else 0
  | [] => by simp [cntD]
  | p :: l => by simp only [List.cons_append, cntD, cntD_app a s c l]; omega
theorem cntD_le (a : Int) (s : Pr) : ∀ l, 0 ≤ cntD a s l ∧ cntD a s l ≤ l.length
  | [] => by simp [cntD]
  | c :: l => by have := cntD_le a s l; simp only [cntD, List.length_cons]; split <;> omega
theorem togs_get (a : Int) (s : Pr) : ∀ (l : List Chg) (m : List (Pr × Bool)), getB (togs a m l) s = (getB m s ^^ decide (cntD a s l % 2 = 1))
  | [], m => by simp [togs, cntD]
  | c :: l, m => by
    simp only [togs]
    rw [togs_get a s l]
    unfold tog
    have hle := cntD_le a s l
    by_cases h : isDep a c
    · rw [if_pos h, getB_put]
      by_cases e : s = (c.svc, c.tgt)
      · subst e
        have : cntD a (c.svc, c.tgt) (c :: l) = 1 + cntD a (c.svc, c.tgt) l := by simp [cntD, h]
        rw [this, if_pos rfl]
        rcases (by omega : cntD a (c.svc, c.tgt) l % 2 = 0 ∨ cntD a (c.svc, c.tgt) l % 2 = 1) with q | q
        · have : (1 + cntD a (c.svc, c.tgt) l) % 2 = 1 := by omega
          simp [q, this]
        · have : ¬ (1 + cntD a (c.svc, c.tgt) l) % 2 = 1 := by omega
          simp [q, this]
      · have e2 : ¬ (c.svc, c.tgt) = s := fun h => e h.symm
        have : cntD a s (c :: l) = cntD a s l := by simp [cntD, e2]
        rw [this, if_neg e]
    · have : cntD a s (c :: l) = cntD a s l := by simp [cntD, h]
      rw [this, if_neg h]
theorem togs_keys (a : Int) : ∀ (l : List Chg) (m : List (Pr × Bool)), keysNe depK m → keysNe depK (togs a m l)
  | [], m, h => h
  | c :: l, m, h => togs_keys a l _ (by unfold tog; split; exact put_keys depK h; exact h)
theorem put_len {k : Pr} {v : Bool} : ∀ m : List (Pr × Bool), (putP depK k v m).length ≤ m.length + 1
  | [] => by simp [putP]
  | p :: m => by have := put_len (k := k) (v := v) m; simp only [putP]; split <;> simp only [List.length_cons] <;> omega
theorem togs_len (a : Int) : ∀ (l : List Chg) (m : List (Pr × Bool)), (togs a m l).length ≤ m.length + l.length
  | [], m => by simp [togs]
  | c :: l, m => by
    have h1 := togs_len a l (tog a m c)
    have h2 := put_len (k := (c.svc, c.tgt)) (v := !getB m (c.svc, c.tgt)) m
    have h3 : (tog a m c).length ≤ m.length + 1 := by unfold tog; split <;> omega
    simp only [togs, List.length_cons]; omega
/-! What is still to come of a range. -/
abbrev SB := Nat × Pr × Bool
def dB (p : SB) : Nat × D × D := (p.1, depK.f p.2.1, .bool p.2.2)
def stB (m : List (Pr × Bool)) : List SB := (List.range m.length).zip m
theorem stB_snd (m : List (Pr × Bool)) : (stB m).map (·.2) = m := List.map_snd_zip (by simp)
theorem stB_fst (m : List (Pr × Bool)) : (stB m).map (·.1) = List.range m.length := List.map_fst_zip (by simp)
theorem stEs_dB : ∀ L : List SB, stEs (mapB (L.map (·.2))) (L.map (·.1)) = L.map dB
  | [] => rfl
  | p :: L => by
    have := stEs_dB L
    simp only [mapD, List.map_cons, stEs] at this ⊢
    rw [this]; rfl
theorem mapB_len (m : List (Pr × Bool)) : (mapB m).length = m.length := by simp [mapD]
theorem allE_dB (m : List (Pr × Bool)) : allE (mapB m) = (stB m).map dB := by
  have := stEs_dB (stB m)
  rw [stB_snd, stB_fst] at this
  unfold allE
  rw [mapB_len, this]
theorem stB_nodup (m : List (Pr × Bool)) : (stB m).Pairwise fun p q => p.1 ≠ q.1 := by
  have h : ((stB m).map (·.1)).Nodup := by rw [stB_fst]; exact List.nodup_range
  exact (List.pairwise_map.1 h)
def trueL (m : List (Pr × Bool)) : List Pr := (m.filter (·.2)).map (·.1)
def restB (seen : List Nat) (m : List (Pr × Bool)) : List Pr := ((stB m).filter fun p => !seen.contains p.1 && p.2.2).map (·.2.1)
theorem restB_nil (m : List (Pr × Bool)) : restB [] m = trueL m := by
  unfold restB trueL
  have : (stB m).filter (fun p => !([] : List Nat).contains p.1 && p.2.2) = (stB m).filter ((fun p : Pr × Bool => p.2) ∘ (·.2)) := by congr 1
  rw [this]
  conv => rhs; rw [← stB_snd m]
  rw [List.filter_map, List.map_map]; rfl
theorem restB_end {seen : List Nat} {m : List (Pr × Bool)} (h : ∀ p ∈ stB m, p.1 ∈ seen) : restB seen m = [] := by
  unfold restB
  rw [List.filter_eq_nil_iff.2 fun p hp => by simp [h p hp]]
  rfl
theorem restB_step {seen : List Nat} {m : List (Pr × Bool)} {q : SB} (hq : q ∈ stB m) (hs : q.1 ∉ seen) : (restB seen m).Perm (if q.2.2 = true then q.2.1 :: restB (seen ++ [q.1]) m else restB (seen ++ [q.1]) m) := by
  obtain ⟨pre, post, h⟩ := List.append_of_mem hq
  have hn := stB_nodup m
  unfold restB
  rw [h] at hn ⊢
  have h1 := List.pairwise_append.1 hn
  have h2 := List.pairwise_cons.1 h1.2.1
  have e1 : ∀ L : List SB, (∀ p ∈ L, p.1 ≠ q.1) → L.filter (fun p => !(seen ++ [q.1]).contains p.1 && p.2.2) = L.filter fun p => !seen.contains p.1 && p.2.2 := fun L hL => List.filter_congr fun p hp => by
    simp [hL p hp]
  simp only [List.filter_append, List.filter_cons]
  rw [e1 pre fun p hp => h1.2.2 p hp q (by simp), e1 post fun p hp => (h2.1 p hp).symm]
  by_cases hv : q.2.2 = true
  · simp [hv, hs]
  · simp [hv]
theorem entry_dB {m : List (Pr × Bool)} {q : SB} (hq : q ∈ stB m) : entryL q.1 (allE (mapB m)) = some (.tup [.d (depK.f q.2.1), .d (.bool q.2.2)]) := by
  have : dB q ∈ allE (mapB m) := by rw [allE_dB]; exact List.mem_map.2 ⟨q, hq, rfl⟩
  exact entry_all this
set_option maxRecDepth 100000 in
set_option maxHeartbeats 4000000 in
theorem loop36_2 (m : List (Pr × Bool)) (l : List Pr) (hp : (trueL m).Perm l) (hlen : l.length ≤ 12) (ks : List Fr) (K : Ex → St → Prop)
    (hnext : ∀ out : List Pr, out.Perm l → wpn CC .norm ⟨[(8, .vs 1 0 2 0 out.length)], [.dead, .vec 0 true false 86 2 (psD out), .dead]⟩ ks K) :
    wlp CC (s36_2 0) ⟨[(8, .vs 1 0 2 0 0), (37, .it 2)], [.map (mapB m), .vec 0 true false 86 2 [], .iter (some 0) (mapB m).length [] (mapB m).length]⟩ (.block 2 :: .post (.tidy [8] 0 3) :: .post (.tidy [8] 0 3) :: ks) K := by
  refine wlp_inv (S := fun p : List Nat × List Pr => ⟨[(8, .vs 1 0 2 0 p.2.length), (37, .it 2)], [.map (mapB m), .vec 0 true false 86 2 (psD p.2), .iter (some 0) (mapB m).length p.1 (mapB m).length]⟩) (m := fun p => (leftE p.1 (allE (mapB m))).length) (Inv := fun p => (p.2 ++ restB p.1 m).Perm l) ?_ ([], []) (by simp only [List.nil_append]; rw [restB_nil]; exact hp)
  rintro ⟨seen, out⟩ hinv ih
  rw [e36_2]
  simp only at hinv ⊢
  have htk : (psD out).take out.length = psD out := List.take_of_length_le (by simp)
  have hol : out.length ≤ 12 := by have := hinv.length_eq; simp at this; omega
  unfold c36_2
  rw [wpk_post, wpk_seq, wpk_reg]
  refine wop_next (o := 2) (m := 0) (since := (mapB m).length) (last := (mapB m).length) (ck := (mapB m).length) (seen := seen) (l := allE (mapB m)) rfl rfl rfl (nextOk_map _ _) (fun h => ?_) fun p hp => ?_
  · have hend : ∀ p ∈ stB m, p.1 ∈ seen := fun p hp => by
      by_cases hs : p.1 ∈ seen
      · exact hs
      · have : dB p ∈ leftE seen (allE (mapB m)) := mem_leftE (by rw [allE_dB]; exact List.mem_map.2 ⟨p, hp, rfl⟩) hs
        rw [h] at this; cases this
    rw [restB_end hend, List.append_nil] at hinv
    have hnext := hnext out hinv
    simp [TK.agg, constAV, evalAV, eqCells, EK.has, EK.hasAll, vecEls, elsR, AV.toD, toDs, AV.cells, AV.one, joinD, TyI.zeroD, OpR.of, binIntF, binStrF, AV.isPtr, ptrNil, slNil, mpNil, nilE, eqF, negF, posF, binF, pelF, pvLoad, pelSet, pvStore, boxLoad, epLoad, loadF, boxStore, storeF, fieldAddrF, fieldF, epOf, indexAddrF, byteF, indexF, mapLen, lenF, cutF, sliceF, isSl, slice3F, fillF, arrFs, buildF, partsX, landV, buildSliceF, roomB, appVec, appendF, mmFrom, mmF, max2', min2', clearVec, clearF, convF, unF, pickF, nilChkF, extF, ptrsOf, callF, makeSliceF, sameKs, sameD, kindIs, plainFs, keyOk, mapOb, mapEs, okV, lookF, lookupF, putE, putS, mapPut, mapUpdateF, mapDel, deleteF, mapAll, rangeM, rangeF, overV, hitV, nextO, nextF, entryM, entryO, entryF, itOids, builtinF, capsOf, allocF, boxF, bytesL, bytesF, byteTy, strTy, convertF, makeFuncF, makeMapF, makeMapH, opF, reach, reachOf, AObj.live, closedB, nodupB, packO, packL, packX, backN, backG, backO, obL, backE, frzX, frzO, AV.vids, frzL, landC, sameObs, landR, touchF, D.cells, D.decEq, D.decEqs, AV.decEq, AV.decEqs, AObj.decEq, AV.oids0, AV.oids, AObj.oids, renG, renP, AV.ren0, AV.ren, envGet, envPut, envKeep, obGet, setEff, putV, St.put, stepS, keyChk, chkD, accD, Ex.block, AV.under, AObj.under, laysOf, roomFor, mkvO, frzG, szOk, killO, usedBy, tidyS, ghost, ghostE, normSt, resOf, allSome, one0, resultsF, finL, finishL, finish, endF, startEnv, chkC, backX, comeC, wpn_nil, wpn_seq, wpn_loop, wpn_seq_exit, wpn_loop_exit, wpn_seq_ret, wpn_loop_ret, wpn_block, wpn_post, wpk_skip, wpk_exit, wpk_ret, wpk_reg, wpk_seq, wpk_condT, wpk_block, wpk_loop, wpk_pre, wpk_post, wop_nil, wop_cons, wop_guard, St.know, envSet, cond_d, cond_bool, cond_int, cond_str, endE, endQ, freeB, disj, pushT, bitsW, int_beq, int_bne, eqS_def, tbE, fuelL_eq, ann0_lays, ann0_dd, ann0_ro, elsOf_dsl, elsOf_dnils, toNat_succ, nn_succ, pos_succ, one_succ, rng1, rng2, rng3, rng4, rng5, rng6, rng7, rng8, List.idxOf_cons, T3, T4, T5, T9, T22, T26, T27, T30, T32, T37, T39, T54, T66, T73, T83, T86, T99, T110, T114, T116, T141, T148, T150, CT, htk]
    exact hnext
  · obtain ⟨h1, h2⟩ := leftE_mem hp
    rw [allE_dB] at h1
    obtain ⟨q, hq, rfl⟩ := List.mem_map.1 h1
    have hs : q.1 ∉ seen := h2
    have hen := entry_dB hq
    unfold allE at hen
    have ih := fun out' h => ih (seen ++ [q.1], out') h (leftE_lt hp)
    have hr := restB_step hq hs
    by_cases hv : q.2.2 = true
    · rw [if_pos hv] at hr
      have ih := ih (out ++ [q.2.1]) (by
        refine List.Perm.trans ?_ hinv
        simp only [List.append_assoc, List.singleton_append]
        exact hr.symm.append_left out)
      rw [hv] at hen
      have s1 : szAll 2 [D.agg [.str q.2.1.1, .str q.2.1.2]] = true := rfl
      have r1 : (out.length + 1) * 32 ≤ 140737488355328 := by omega
      have r2 : out.length + 1 ≤ 9223372036854775807 := by omega
      have r3 : out.length ≤ 9223372036854775806 := by omega
      simp [pE] at ih
      simp [TK.agg, constAV, evalAV, eqCells, EK.has, EK.hasAll, vecEls, elsR, AV.toD, toDs, AV.cells, AV.one, joinD, TyI.zeroD, OpR.of, binIntF, binStrF, AV.isPtr, ptrNil, slNil, mpNil, nilE, eqF, negF, posF, binF, pelF, pvLoad, pelSet, pvStore, boxLoad, epLoad, loadF, boxStore, storeF, fieldAddrF, fieldF, epOf, indexAddrF, byteF, indexF, mapLen, lenF, cutF, sliceF, isSl, slice3F, fillF, arrFs, buildF, partsX, landV, buildSliceF, roomB, appVec, appendF, mmFrom, mmF, max2', min2', clearVec, clearF, convF, unF, pickF, nilChkF, extF, ptrsOf, callF, makeSliceF, sameKs, sameD, kindIs, plainFs, keyOk, mapOb, mapEs, okV, lookF, lookupF, putE, putS, mapPut, mapUpdateF, mapDel, deleteF, mapAll, rangeM, rangeF, overV, hitV, nextO, nextF, entryM, entryO, entryF, itOids, builtinF, capsOf, allocF, boxF, bytesL, bytesF, byteTy, strTy, convertF, makeFuncF, makeMapF, makeMapH, opF, reach, reachOf, AObj.live, closedB, nodupB, packO, packL, packX, backN, backG, backO, obL, backE, frzX, frzO, AV.vids, frzL, landC, sameObs, landR, touchF, D.cells, D.decEq, D.decEqs, AV.decEq, AV.decEqs, AObj.decEq, AV.oids0, AV.oids, AObj.oids, renG, renP, AV.ren0, AV.ren, envGet, envPut, envKeep, obGet, setEff, putV, St.put, stepS, keyChk, chkD, accD, Ex.block, AV.under, AObj.under, laysOf, roomFor, mkvO, frzG, szOk, killO, usedBy, tidyS, ghost, ghostE, normSt, resOf, allSome, one0, resultsF, finL, finishL, finish, endF, startEnv, chkC, backX, comeC, wpn_nil, wpn_seq, wpn_loop, wpn_seq_exit, wpn_loop_exit, wpn_seq_ret, wpn_loop_ret, wpn_block, wpn_post, wpk_skip, wpk_exit, wpk_ret, wpk_reg, wpk_seq, wpk_condT, wpk_block, wpk_loop, wpk_pre, wpk_post, wop_nil, wop_cons, wop_guard, St.know, envSet, cond_d, cond_bool, cond_int, cond_str, endE, endQ, freeB, disj, pushT, bitsW, int_beq, int_bne, eqS_def, tbE, fuelL_eq, ann0_lays, ann0_dd, ann0_ro, elsOf_dsl, elsOf_dnils, toNat_succ, nn_succ, pos_succ, one_succ, rng1, rng2, rng3, rng4, rng5, rng6, rng7, rng8, List.idxOf_cons, T3, T4, T5, T9, T22, T26, T27, T30, T32, T37, T39, T54, T66, T73, T83, T86, T99, T110, T114, T116, T141, T148, T150, CT, dB, depK, hen, hv, htk, s1, r1, r2, r3]
      exact ih
    · rw [if_neg hv] at hr
      have hv2 : q.2.2 = false := by simpa using hv
      have ih := ih out ((hr.symm.append_left out).trans hinv)
      rw [hv2] at hen
      simp [TK.agg, constAV, evalAV, eqCells, EK.has, EK.hasAll, vecEls, elsR, AV.toD, toDs, AV.cells, AV.one, joinD, TyI.zeroD, OpR.of, binIntF, binStrF, AV.isPtr, ptrNil, slNil, mpNil, nilE, eqF, negF, posF, binF, pelF, pvLoad, pelSet, pvStore, boxLoad, epLoad, loadF, boxStore, storeF, fieldAddrF, fieldF, epOf, indexAddrF, byteF, indexF, mapLen, lenF, cutF, sliceF, isSl, slice3F, fillF, arrFs, buildF, partsX, landV, buildSliceF, roomB, appVec, appendF, mmFrom, mmF, max2', min2', clearVec, clearF, convF, unF, pickF, nilChkF, extF, ptrsOf, callF, makeSliceF, sameKs, sameD, kindIs, plainFs, keyOk, mapOb, mapEs, okV, lookF, lookupF, putE, putS, mapPut, mapUpdateF, mapDel, deleteF, mapAll, rangeM, rangeF, overV, hitV, nextO, nextF, entryM, entryO, entryF, itOids, builtinF, capsOf, allocF, boxF, bytesL, bytesF, byteTy, strTy, convertF, makeFuncF, makeMapF, makeMapH, opF, reach, reachOf, AObj.live, closedB, nodupB, packO, packL, packX, backN, backG, backO, obL, backE, frzX, frzO, AV.vids, frzL, landC, sameObs, landR, touchF, D.cells, D.decEq, D.decEqs, AV.decEq, AV.decEqs, AObj.decEq, AV.oids0, AV.oids, AObj.oids, renG, renP, AV.ren0, AV.ren, envGet, envPut, envKeep, obGet, setEff, putV, St.put, stepS, keyChk, chkD, accD, Ex.block, AV.under, AObj.under, laysOf, roomFor, mkvO, frzG, szOk, killO, usedBy, tidyS, ghost, ghostE, normSt, resOf, allSome, one0, resultsF, finL, finishL, finish, endF, startEnv, chkC, backX, comeC, wpn_nil, wpn_seq, wpn_loop, wpn_seq_exit, wpn_loop_exit, wpn_seq_ret, wpn_loop_ret, wpn_block, wpn_post, wpk_skip, wpk_exit, wpk_ret, wpk_reg, wpk_seq, wpk_condT, wpk_block, wpk_loop, wpk_pre, wpk_post, wop_nil, wop_cons, wop_guard, St.know, envSet, cond_d, cond_bool, cond_int, cond_str, endE, endQ, freeB, disj, pushT, bitsW, int_beq, int_bne, eqS_def, tbE, fuelL_eq, ann0_lays, ann0_dd, ann0_ro, elsOf_dsl, elsOf_dnils, toNat_succ, nn_succ, pos_succ, one_succ, rng1, rng2, rng3, rng4, rng5, rng6, rng7, rng8, List.idxOf_cons, T3, T4, T5, T9, T22, T26, T27, T30, T32, T37, T39, T54, T66, T73, T83, T86, T99, T110, T114, T116, T141, T148, T150, CT, dB, depK, hen, hv2, htk]
      exact ih
set_option maxRecDepth 100000 in
set_option maxHeartbeats 4000000 in
theorem loop36_1 (B : D) (L : List Chg) (hL : L.length ≤ 12) (hB : elsOf (.d B) = some (L.map Chg.enc)) (a : Int) (ks : List Fr) (K : Ex → St → Prop)
    (hnext : wpn CC .norm ⟨[(5, .mp 0)], [.map (mapB (togs a [] L))]⟩ ks K) :
    wlp CC (s36_1 0) ⟨[(1, .d (.int .i64 a)), (5, .mp 0), (12, .d B), (13, .d (.int .i64 L.length)), (14, .d (.int .i64 0))], [.map []]⟩ (.block 0 :: .post (.tidy [5] 0 1) :: .post (.tidy [5] 0 1) :: ks) K := by
  refine wlp_inv (S := fun p : List Chg × List Chg => ⟨[(1, .d (.int .i64 a)), (5, .mp 0), (12, .d B), (13, .d (.int .i64 L.length)), (14, .d (.int .i64 p.1.length))], [.map (mapB (togs a [] p.1))]⟩) (m := fun p => p.2.length) (Inv := fun p => p.1 ++ p.2 = L) ?_ ([], L) rfl
  rintro ⟨pre, suf⟩ hps ih
  rw [e36_1]
  simp only at hps ⊢
  cases suf with
  | nil =>
    have hn := endL hps
    rw [List.append_nil] at hps
    rw [← hps] at hnext
    simp [c36_1, TK.agg, constAV, evalAV, eqCells, EK.has, EK.hasAll, vecEls, elsR, AV.toD, toDs, AV.cells, AV.one, joinD, TyI.zeroD, OpR.of, binIntF, binStrF, AV.isPtr, ptrNil, slNil, mpNil, nilE, eqF, negF, posF, binF, pelF, pvLoad, pelSet, pvStore, boxLoad, epLoad, loadF, boxStore, storeF, fieldAddrF, fieldF, epOf, indexAddrF, byteF, indexF, mapLen, lenF, cutF, sliceF, isSl, slice3F, fillF, arrFs, buildF, partsX, landV, buildSliceF, roomB, appVec, appendF, mmFrom, mmF, max2', min2', clearVec, clearF, convF, unF, pickF, nilChkF, extF, ptrsOf, callF, makeSliceF, sameKs, sameD, kindIs, plainFs, keyOk, mapOb, mapEs, okV, lookF, lookupF, putE, putS, mapPut, mapUpdateF, mapDel, deleteF, mapAll, rangeM, rangeF, overV, hitV, nextO, nextF, entryM, entryO, entryF, itOids, builtinF, capsOf, allocF, boxF, bytesL, bytesF, byteTy, strTy, convertF, makeFuncF, makeMapF, makeMapH, opF, reach, reachOf, AObj.live, closedB, nodupB, packO, packL, packX, backN, backG, backO, obL, backE, frzX, frzO, AV.vids, frzL, landC, sameObs, landR, touchF, D.cells, D.decEq, D.decEqs, AV.decEq, AV.decEqs, AObj.decEq, AV.oids0, AV.oids, AObj.oids, renG, renP, AV.ren0, AV.ren, envGet, envPut, envKeep, obGet, setEff, putV, St.put, stepS, keyChk, chkD, accD, Ex.block, AV.under, AObj.under, laysOf, roomFor, mkvO, frzG, szOk, killO, usedBy, tidyS, ghost, ghostE, normSt, resOf, allSome, one0, resultsF, finL, finishL, finish, endF, startEnv, chkC, backX, comeC, wpn_nil, wpn_seq, wpn_loop, wpn_seq_exit, wpn_loop_exit, wpn_seq_ret, wpn_loop_ret, wpn_block, wpn_post, wpk_skip, wpk_exit, wpk_ret, wpk_reg, wpk_seq, wpk_condT, wpk_block, wpk_loop, wpk_pre, wpk_post, wop_nil, wop_cons, wop_guard, St.know, envSet, cond_d, cond_bool, cond_int, cond_str, endE, endQ, freeB, disj, pushT, bitsW, int_beq, int_bne, eqS_def, tbE, fuelL_eq, ann0_lays, ann0_dd, ann0_ro, elsOf_dsl, elsOf_dnils, toNat_succ, nn_succ, pos_succ, one_succ, rng1, rng2, rng3, rng4, rng5, rng6, rng7, rng8, List.idxOf_cons, T3, T4, T5, T9, T22, T26, T27, T30, T32, T37, T39, T54, T66, T73, T83, T86, T99, T110, T114, T116, T141, T148, T150, CT, hn]
    exact hnext
  | cons c suf =>
    obtain ⟨k1, k2, k3, k4, k5, k6⟩ := atL Chg.enc hps (by omega)
    have kg := getL k5 k4
    have hsu := subject_run c
    have ih := ih (pre ++ [c], suf) (by simpa using hps) (by simp)
    simp only [togs_app, tog] at ih
    simp only [Chg.enc] at k3 hsu
    by_cases h1 : c.kind = 3
    · by_cases h2 : c.slot ≤ a
      · rw [if_pos ⟨h1, h2⟩] at ih
        have hlook := lookF_get depK D.bool (c.svc, c.tgt) (togs a [] pre) false
        have hput := putE_put depK D.bool (c.svc, c.tgt) (!getB (togs a [] pre) (c.svc, c.tgt)) (togs a [] pre)
        change lookF false (some (D.bool false)) (findD (.agg [.int .i64 3, .str c.svc, .str c.tgt]) (mapB (togs a [] pre)) 0) = some (.d (.bool (getB (togs a [] pre) (c.svc, c.tgt)))) at hlook
        change putE (.agg [.int .i64 3, .str c.svc, .str c.tgt]) (.bool (!getB (togs a [] pre) (c.svc, c.tgt))) (mapB (togs a [] pre)) (findD (.agg [.int .i64 3, .str c.svc, .str c.tgt]) (mapB (togs a [] pre)) 0) = some (mapB (putP depK (c.svc, c.tgt) (!getB (togs a [] pre) (c.svc, c.tgt)) (togs a [] pre))) at hput
        rw [h1] at k3 hsu
        simp at ih
        generalize getB (togs a [] pre) (c.svc, c.tgt) = gv at *
        generalize putP depK (c.svc, c.tgt) (!gv) (togs a [] pre) = M2 at *
        generalize togs a [] pre = M1 at *
        have kgk : (L[pre.length]).kind = 3 := by rw [kg, h1]
        simp [c36_1, TK.agg, constAV, evalAV, eqCells, EK.has, EK.hasAll, vecEls, elsR, AV.toD, toDs, AV.cells, AV.one, joinD, TyI.zeroD, OpR.of, binIntF, binStrF, AV.isPtr, ptrNil, slNil, mpNil, nilE, eqF, negF, posF, binF, pelF, pvLoad, pelSet, pvStore, boxLoad, epLoad, loadF, boxStore, storeF, fieldAddrF, fieldF, epOf, indexAddrF, byteF, indexF, mapLen, lenF, cutF, sliceF, isSl, slice3F, fillF, arrFs, buildF, partsX, landV, buildSliceF, roomB, appVec, appendF, mmFrom, mmF, max2', min2', clearVec, clearF, convF, unF, pickF, nilChkF, extF, ptrsOf, callF, makeSliceF, sameKs, sameD, kindIs, plainFs, keyOk, mapOb, mapEs, okV, lookF, lookupF, putE, putS, mapPut, mapUpdateF, mapDel, deleteF, mapAll, rangeM, rangeF, overV, hitV, nextO, nextF, entryM, entryO, entryF, itOids, builtinF, capsOf, allocF, boxF, bytesL, bytesF, byteTy, strTy, convertF, makeFuncF, makeMapF, makeMapH, opF, reach, reachOf, AObj.live, closedB, nodupB, packO, packL, packX, backN, backG, backO, obL, backE, frzX, frzO, AV.vids, frzL, landC, sameObs, landR, touchF, D.cells, D.decEq, D.decEqs, AV.decEq, AV.decEqs, AObj.decEq, AV.oids0, AV.oids, AObj.oids, renG, renP, AV.ren0, AV.ren, envGet, envPut, envKeep, obGet, setEff, putV, St.put, stepS, keyChk, chkD, accD, Ex.block, AV.under, AObj.under, laysOf, roomFor, mkvO, frzG, szOk, killO, usedBy, tidyS, ghost, ghostE, normSt, resOf, allSome, one0, resultsF, finL, finishL, finish, endF, startEnv, chkC, backX, comeC, wpn_nil, wpn_seq, wpn_loop, wpn_seq_exit, wpn_loop_exit, wpn_seq_ret, wpn_loop_ret, wpn_block, wpn_post, wpk_skip, wpk_exit, wpk_ret, wpk_reg, wpk_seq, wpk_condT, wpk_block, wpk_loop, wpk_pre, wpk_post, wop_nil, wop_cons, wop_guard, St.know, envSet, cond_d, cond_bool, cond_int, cond_str, endE, endQ, freeB, disj, pushT, bitsW, int_beq, int_bne, eqS_def, tbE, fuelL_eq, ann0_lays, ann0_dd, ann0_ro, elsOf_dsl, elsOf_dnils, toNat_succ, nn_succ, pos_succ, one_succ, rng1, rng2, rng3, rng4, rng5, rng6, rng7, rng8, List.idxOf_cons, T3, T4, T5, T9, T22, T26, T27, T30, T32, T37, T39, T54, T66, T73, T83, T86, T99, T110, T114, T116, T141, T148, T150, CT, CQ, QQ, Chg.enc, hB, k2, k3, k4, k5, kg, h1, h2, hsu, hlook, hput, -putE, -lookF]
        exact ih
      · rw [if_neg (fun h => h2 h.2)] at ih
        have h2' : a < c.slot := by omega
        simp at ih
        simp [c36_1, TK.agg, constAV, evalAV, eqCells, EK.has, EK.hasAll, vecEls, elsR, AV.toD, toDs, AV.cells, AV.one, joinD, TyI.zeroD, OpR.of, binIntF, binStrF, AV.isPtr, ptrNil, slNil, mpNil, nilE, eqF, negF, posF, binF, pelF, pvLoad, pelSet, pvStore, boxLoad, epLoad, loadF, boxStore, storeF, fieldAddrF, fieldF, epOf, indexAddrF, byteF, indexF, mapLen, lenF, cutF, sliceF, isSl, slice3F, fillF, arrFs, buildF, partsX, landV, buildSliceF, roomB, appVec, appendF, mmFrom, mmF, max2', min2', clearVec, clearF, convF, unF, pickF, nilChkF, extF, ptrsOf, callF, makeSliceF, sameKs, sameD, kindIs, plainFs, keyOk, mapOb, mapEs, okV, lookF, lookupF, putE, putS, mapPut, mapUpdateF, mapDel, deleteF, mapAll, rangeM, rangeF, overV, hitV, nextO, nextF, entryM, entryO, entryF, itOids, builtinF, capsOf, allocF, boxF, bytesL, bytesF, byteTy, strTy, convertF, makeFuncF, makeMapF, makeMapH, opF, reach, reachOf, AObj.live, closedB, nodupB, packO, packL, packX, backN, backG, backO, obL, backE, frzX, frzO, AV.vids, frzL, landC, sameObs, landR, touchF, D.cells, D.decEq, D.decEqs, AV.decEq, AV.decEqs, AObj.decEq, AV.oids0, AV.oids, AObj.oids, renG, renP, AV.ren0, AV.ren, envGet, envPut, envKeep, obGet, setEff, putV, St.put, stepS, keyChk, chkD, accD, Ex.block, AV.under, AObj.under, laysOf, roomFor, mkvO, frzG, szOk, killO, usedBy, tidyS, ghost, ghostE, normSt, resOf, allSome, one0, resultsF, finL, finishL, finish, endF, startEnv, chkC, backX, comeC, wpn_nil, wpn_seq, wpn_loop, wpn_seq_exit, wpn_loop_exit, wpn_seq_ret, wpn_loop_ret, wpn_block, wpn_post, wpk_skip, wpk_exit, wpk_ret, wpk_reg, wpk_seq, wpk_condT, wpk_block, wpk_loop, wpk_pre, wpk_post, wop_nil, wop_cons, wop_guard, St.know, envSet, cond_d, cond_bool, cond_int, cond_str, endE, endQ, freeB, disj, pushT, bitsW, int_beq, int_bne, eqS_def, tbE, fuelL_eq, ann0_lays, ann0_dd, ann0_ro, elsOf_dsl, elsOf_dnils, toNat_succ, nn_succ, pos_succ, one_succ, rng1, rng2, rng3, rng4, rng5, rng6, rng7, rng8, List.idxOf_cons, T3, T4, T5, T9, T22, T26, T27, T30, T32, T37, T39, T54, T66, T73, T83, T86, T99, T110, T114, T116, T141, T148, T150, CT, Chg.enc, hB, k2, k3, k4, k5, kg, h1, h2, h2']
        exact ih
    · rw [if_neg (fun h => h1 h.1)] at ih
      simp at ih
      simp [c36_1, TK.agg, constAV, evalAV, eqCells, EK.has, EK.hasAll, vecEls, elsR, AV.toD, toDs, AV.cells, AV.one, joinD, TyI.zeroD, OpR.of, binIntF, binStrF, AV.isPtr, ptrNil, slNil, mpNil, nilE, eqF, negF, posF, binF, pelF, pvLoad, pelSet, pvStore, boxLoad, epLoad, loadF, boxStore, storeF, fieldAddrF, fieldF, epOf, indexAddrF, byteF, indexF, mapLen, lenF, cutF, sliceF, isSl, slice3F, fillF, arrFs, buildF, partsX, landV, buildSliceF, roomB, appVec, appendF, mmFrom, mmF, max2', min2', clearVec, clearF, convF, unF, pickF, nilChkF, extF, ptrsOf, callF, makeSliceF, sameKs, sameD, kindIs, plainFs, keyOk, mapOb, mapEs, okV, lookF, lookupF, putE, putS, mapPut, mapUpdateF, mapDel, deleteF, mapAll, rangeM, rangeF, overV, hitV, nextO, nextF, entryM, entryO, entryF, itOids, builtinF, capsOf, allocF, boxF, bytesL, bytesF, byteTy, strTy, convertF, makeFuncF, makeMapF, makeMapH, opF, reach, reachOf, AObj.live, closedB, nodupB, packO, packL, packX, backN, backG, backO, obL, backE, frzX, frzO, AV.vids, frzL, landC, sameObs, landR, touchF, D.cells, D.decEq, D.decEqs, AV.decEq, AV.decEqs, AObj.decEq, AV.oids0, AV.oids, AObj.oids, renG, renP, AV.ren0, AV.ren, envGet, envPut, envKeep, obGet, setEff, putV, St.put, stepS, keyChk, chkD, accD, Ex.block, AV.under, AObj.under, laysOf, roomFor, mkvO, frzG, szOk, killO, usedBy, tidyS, ghost, ghostE, normSt, resOf, allSome, one0, resultsF, finL, finishL, finish, endF, startEnv, chkC, backX, comeC, wpn_nil, wpn_seq, wpn_loop, wpn_seq_exit, wpn_loop_exit, wpn_seq_ret, wpn_loop_ret, wpn_block, wpn_post, wpk_skip, wpk_exit, wpk_ret, wpk_reg, wpk_seq, wpk_condT, wpk_block, wpk_loop, wpk_pre, wpk_post, wop_nil, wop_cons, wop_guard, St.know, envSet, cond_d, cond_bool, cond_int, cond_str, endE, endQ, freeB, disj, pushT, bitsW, int_beq, int_bne, eqS_def, tbE, fuelL_eq, ann0_lays, ann0_dd, ann0_ro, elsOf_dsl, elsOf_dnils, toNat_succ, nn_succ, pos_succ, one_succ, rng1, rng2, rng3, rng4, rng5, rng6, rng7, rng8, List.idxOf_cons, T3, T4, T5, T9, T22, T26, T27, T30, T32, T37, T39, T54, T66, T73, T83, T86, T99, T110, T114, T116, T141, T148, T150, CT, Chg.enc, hB, k2, k3, k4, k5, kg, h1]
      exact ih
set_option maxRecDepth 100000 in
set_option maxHeartbeats 4000000 in
theorem calls_run (B : D) (L : List Chg) (hL : L.length ≤ 12) (hB : elsOf (.d B) = some (L.map Chg.enc)) (a : Int) (l : List Pr) (hp : (trueL (togs a [] L)).Perm l) (hl : l.Pairwise plt) (hlen : l.length ≤ 12) : run CC 36 [.d B, .d (.int .i64 a)] [] = some (.d (.sl (psD l)), []) := by
  refine run_code (s := s36 0) rfl rfl rfl (by kernel_rfl) ?_
  simp [s36, TK.agg, constAV, evalAV, eqCells, EK.has, EK.hasAll, vecEls, elsR, AV.toD, toDs, AV.cells, AV.one, joinD, TyI.zeroD, OpR.of, binIntF, binStrF, AV.isPtr, ptrNil, slNil, mpNil, nilE, eqF, negF, posF, binF, pelF, pvLoad, pelSet, pvStore, boxLoad, epLoad, loadF, boxStore, storeF, fieldAddrF, fieldF, epOf, indexAddrF, byteF, indexF, mapLen, lenF, cutF, sliceF, isSl, slice3F, fillF, arrFs, buildF, partsX, landV, buildSliceF, roomB, appVec, appendF, mmFrom, mmF, max2', min2', clearVec, clearF, convF, unF, pickF, nilChkF, extF, ptrsOf, callF, makeSliceF, sameKs, sameD, kindIs, plainFs, keyOk, mapOb, mapEs, okV, lookF, lookupF, putE, putS, mapPut, mapUpdateF, mapDel, deleteF, mapAll, rangeM, rangeF, overV, hitV, nextO, nextF, entryM, entryO, entryF, itOids, builtinF, capsOf, allocF, boxF, bytesL, bytesF, byteTy, strTy, convertF, makeFuncF, makeMapF, makeMapH, opF, reach, reachOf, AObj.live, closedB, nodupB, packO, packL, packX, backN, backG, backO, obL, backE, frzX, frzO, AV.vids, frzL, landC, sameObs, landR, touchF, D.cells, D.decEq, D.decEqs, AV.decEq, AV.decEqs, AObj.decEq, AV.oids0, AV.oids, AObj.oids, renG, renP, AV.ren0, AV.ren, envGet, envPut, envKeep, obGet, setEff, putV, St.put, stepS, keyChk, chkD, accD, Ex.block, AV.under, AObj.under, laysOf, roomFor, mkvO, frzG, szOk, killO, usedBy, tidyS, ghost, ghostE, normSt, resOf, allSome, one0, resultsF, finL, finishL, finish, endF, startEnv, chkC, backX, comeC, wpn_nil, wpn_seq, wpn_loop, wpn_seq_exit, wpn_loop_exit, wpn_seq_ret, wpn_loop_ret, wpn_block, wpn_post, wpk_skip, wpk_exit, wpk_ret, wpk_reg, wpk_seq, wpk_condT, wpk_block, wpk_loop, wpk_pre, wpk_post, wop_nil, wop_cons, wop_guard, St.know, envSet, cond_d, cond_bool, cond_int, cond_str, endE, endQ, freeB, disj, pushT, bitsW, int_beq, int_bne, eqS_def, tbE, fuelL_eq, ann0_lays, ann0_dd, ann0_ro, elsOf_dsl, elsOf_dnils, toNat_succ, nn_succ, pos_succ, one_succ, rng1, rng2, rng3, rng4, rng5, rng6, rng7, rng8, List.idxOf_cons, T3, T4, T5, T9, T22, T26, T27, T30, T32, T37, T39, T54, T66, T73, T83, T86, T99, T110, T114, T116, T141, T148, T150, CT, hB]
  refine loop36_1 B L hL hB a _ _ ?_
  generalize togs a [] L = M at *
  simp [TK.agg, constAV, evalAV, eqCells, EK.has, EK.hasAll, vecEls, elsR, AV.toD, toDs, AV.cells, AV.one, joinD, TyI.zeroD, OpR.of, binIntF, binStrF, AV.isPtr, ptrNil, slNil, mpNil, nilE, eqF, negF, posF, binF, pelF, pvLoad, pelSet, pvStore, boxLoad, epLoad, loadF, boxStore, storeF, fieldAddrF, fieldF, epOf, indexAddrF, byteF, indexF, mapLen, lenF, cutF, sliceF, isSl, slice3F, fillF, arrFs, buildF, partsX, landV, buildSliceF, roomB, appVec, appendF, mmFrom, mmF, max2', min2', clearVec, clearF, convF, unF, pickF, nilChkF, extF, ptrsOf, callF, makeSliceF, sameKs, sameD, kindIs, plainFs, keyOk, mapOb, mapEs, okV, lookF, lookupF, putE, putS, mapPut, mapUpdateF, mapDel, deleteF, mapAll, rangeM, rangeF, overV, hitV, nextO, nextF, entryM, entryO, entryF, itOids, builtinF, capsOf, allocF, boxF, bytesL, bytesF, byteTy, strTy, convertF, makeFuncF, makeMapF, makeMapH, opF, reach, reachOf, AObj.live, closedB, nodupB, packO, packL, packX, backN, backG, backO, obL, backE, frzX, frzO, AV.vids, frzL, landC, sameObs, landR, touchF, D.cells, D.decEq, D.decEqs, AV.decEq, AV.decEqs, AObj.decEq, AV.oids0, AV.oids, AObj.oids, renG, renP, AV.ren0, AV.ren, envGet, envPut, envKeep, obGet, setEff, putV, St.put, stepS, keyChk, chkD, accD, Ex.block, AV.under, AObj.under, laysOf, roomFor, mkvO, frzG, szOk, killO, usedBy, tidyS, ghost, ghostE, normSt, resOf, allSome, one0, resultsF, finL, finishL, finish, endF, startEnv, chkC, backX, comeC, wpn_nil, wpn_seq, wpn_loop, wpn_seq_exit, wpn_loop_exit, wpn_seq_ret, wpn_loop_ret, wpn_block, wpn_post, wpk_skip, wpk_exit, wpk_ret, wpk_reg, wpk_seq, wpk_condT, wpk_block, wpk_loop, wpk_pre, wpk_post, wop_nil, wop_cons, wop_guard, St.know, envSet, cond_d, cond_bool, cond_int, cond_str, endE, endQ, freeB, disj, pushT, bitsW, int_beq, int_bne, eqS_def, tbE, fuelL_eq, ann0_lays, ann0_dd, ann0_ro, elsOf_dsl, elsOf_dnils, toNat_succ, nn_succ, pos_succ, one_succ, rng1, rng2, rng3, rng4, rng5, rng6, rng7, rng8, List.idxOf_cons, T3, T4, T5, T9, T22, T26, T27, T30, T32, T37, T39, T54, T66, T73, T83, T86, T99, T110, T114, T116, T141, T148, T150, CT]
  refine loop36_2 M l hp hlen _ _ fun out ho => ?_
  have hol : out.length ≤ 12 := by rw [ho.length_eq]; exact hlen
  have hs := sort59_run 60 pcmp cmp60_run out hol
  rw [sort_pairs ho hl] at hs
  have htk : (psD out).take out.length = psD out := List.take_of_length_le (by simp)
  have htl : (psD l).take out.length = psD l := List.take_of_length_le (by simp [ho.length_eq])
  simp [TK.agg, constAV, evalAV, eqCells, EK.has, EK.hasAll, vecEls, elsR, AV.toD, toDs, AV.cells, AV.one, joinD, TyI.zeroD, OpR.of, binIntF, binStrF, AV.isPtr, ptrNil, slNil, mpNil, nilE, eqF, negF, posF, binF, pelF, pvLoad, pelSet, pvStore, boxLoad, epLoad, loadF, boxStore, storeF, fieldAddrF, fieldF, epOf, indexAddrF, byteF, indexF, mapLen, lenF, cutF, sliceF, isSl, slice3F, fillF, arrFs, buildF, partsX, landV, buildSliceF, roomB, appVec, appendF, mmFrom, mmF, max2', min2', clearVec, clearF, convF, unF, pickF, nilChkF, extF, ptrsOf, callF, makeSliceF, sameKs, sameD, kindIs, plainFs, keyOk, mapOb, mapEs, okV, lookF, lookupF, putE, putS, mapPut, mapUpdateF, mapDel, deleteF, mapAll, rangeM, rangeF, overV, hitV, nextO, nextF, entryM, entryO, entryF, itOids, builtinF, capsOf, allocF, boxF, bytesL, bytesF, byteTy, strTy, convertF, makeFuncF, makeMapF, makeMapH, opF, reach, reachOf, AObj.live, closedB, nodupB, packO, packL, packX, backN, backG, backO, obL, backE, frzX, frzO, AV.vids, frzL, landC, sameObs, landR, touchF, D.cells, D.decEq, D.decEqs, AV.decEq, AV.decEqs, AObj.decEq, AV.oids0, AV.oids, AObj.oids, renG, renP, AV.ren0, AV.ren, envGet, envPut, envKeep, obGet, setEff, putV, St.put, stepS, keyChk, chkD, accD, Ex.block, AV.under, AObj.under, laysOf, roomFor, mkvO, frzG, szOk, killO, usedBy, tidyS, ghost, ghostE, normSt, resOf, allSome, one0, resultsF, finL, finishL, finish, endF, startEnv, chkC, backX, comeC, wpn_nil, wpn_seq, wpn_loop, wpn_seq_exit, wpn_loop_exit, wpn_seq_ret, wpn_loop_ret, wpn_block, wpn_post, wpk_skip, wpk_exit, wpk_ret, wpk_reg, wpk_seq, wpk_condT, wpk_block, wpk_loop, wpk_pre, wpk_post, wop_nil, wop_cons, wop_guard, St.know, envSet, cond_d, cond_bool, cond_int, cond_str, endE, endQ, freeB, disj, pushT, bitsW, int_beq, int_bne, eqS_def, tbE, fuelL_eq, ann0_lays, ann0_dd, ann0_ro, elsOf_dsl, elsOf_dnils, toNat_succ, nn_succ, pos_succ, one_succ, rng1, rng2, rng3, rng4, rng5, rng6, rng7, rng8, List.idxOf_cons, T3, T4, T5, T9, T22, T26, T27, T30, T32, T37, T39, T54, T66, T73, T83, T86, T99, T110, T114, T116, T141, T148, T150, CT, htk, hs, htl]
end Go.Proofs.YteidaaobppjlbaaV
