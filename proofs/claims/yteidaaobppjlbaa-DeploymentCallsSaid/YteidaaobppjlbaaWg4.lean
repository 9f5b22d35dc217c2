/- The law DeploymentCalls: what it says, plainly, and the walk. -/
import Derived.Test.YteidaaobppjlbaaWg3
set_option linter.unusedVariables false
set_option linter.unusedSimpArgs false
namespace Go.Proofs.YteidaaobppjlbaaV
open Go.RowKit
theorem ins_mem {c x : Chg} {o : List Chg} (h : x ∈ insC c o) : x = c ∨ x ∈ o := by
  unfold insC at h
  split at h
  · split at h
    · exact .inr h
    · rcases List.mem_append.1 h with h | h
      · exact .inr (List.mem_of_mem_take h)
      · rcases List.mem_cons.1 h with h | h
        · exact .inl h
        · exact .inr (List.mem_of_mem_drop h)
  · rcases List.mem_append.1 h with h | h
    · exact .inr h
    · exact .inl (by simpa using h)
theorem sort_sub {l : List Chg} : ∀ x ∈ sortC l, x ∈ l := by
  have key : ∀ (l o : List Chg), ∀ x ∈ l.foldl (fun out c => insC c out) o, x ∈ o ∨ x ∈ l := by
    intro l
    induction l with
    | nil => intro o x h; exact .inl h
    | cons c l ih =>
      intro o x h
      rcases ih (insC c o) x h with h | h
      · rcases ins_mem h with rfl | h
        · exact .inr (by simp)
        · exact .inl h
      · exact .inr (by simp [h])
  intro x h
  rcases key l [] x h with h | h
  · cases h
  · exact h
theorem dec_mem : ∀ {l : List Stp} {i : Nat} {c : Chg}, c ∈ decL i l → ∃ x ∈ l, ∃ n : Int, c = x.chg n
  | [], i, c, h => by simp [decL] at h
  | x :: l, i, c, h => by
    simp only [decL, List.mem_cons] at h
    rcases h with h | h
    · exact ⟨x, by simp, _, h⟩
    · obtain ⟨y, hy, n, e⟩ := dec_mem h
      exact ⟨y, by simp [hy], n, e⟩
def nmI : Nat → ByteArray
  | 0 => ⟨#[97, 112, 105]⟩
  | 1 => ⟨#[99, 97, 99, 104, 101]⟩
  | 2 => ⟨#[100, 98]⟩
  | _ => ⟨#[119, 101, 98]⟩
theorem nm_nmI (s : Int) : ∃ j : Nat, j < 4 ∧ nm s = nmI j := by
  unfold nm
  split
  · exact ⟨0, by omega, rfl⟩
  · split
    · exact ⟨2, by omega, rfl⟩
    · split
      · exact ⟨3, by omega, rfl⟩
      · exact ⟨1, by omega, rfl⟩
def prI (i : Nat) : Pr := (nmI (i / 4), nmI (i % 4))
def P16 : List Pr := (List.range 16).map prI
instance (a b : Pr) : Decidable (plt a b) := inferInstanceAs (Decidable (_ ∨ _))
theorem P16_srt : P16.Pairwise plt := by decide +kernel
theorem P16_in {c : Chg} {l : List Stp} (hc : c ∈ changesC l) (h3 : c.kind = 3) : (c.svc, c.tgt) ∈ P16 := by
  obtain ⟨x, hx, n, rfl⟩ := dec_mem (sort_sub c hc)
  simp only [Stp.chg] at h3 ⊢
  rw [if_neg (by omega)]
  obtain ⟨i, hi, e1⟩ := nm_nmI x.svc
  obtain ⟨j, hj, e2⟩ := nm_nmI x.tgt
  rw [e1, e2]
  refine List.mem_map.2 ⟨4 * i + j, by simp; omega, ?_⟩
  unfold prI
  rw [show (4 * i + j) / 4 = i by omega, show (4 * i + j) % 4 = j by omega]
theorem nodup_perm : ∀ {a b : List Pr}, a.Nodup → b.Nodup → (∀ x, x ∈ a ↔ x ∈ b) → a.Perm b
  | [], b, _, _, h => by
    cases b with
    | nil => exact List.Perm.refl _
    | cons y b => exact absurd ((h y).2 (by simp)) (by simp)
  | x :: a, b, ha, hb, h => by
    have ha' := List.nodup_cons.1 ha
    have hx : x ∈ b := (h x).1 (by simp)
    obtain ⟨s, t, rfl⟩ := List.append_of_mem hx
    have hn : (x :: (s ++ t)).Nodup := List.perm_middle.pairwise hb fun h => Ne.symm h
    have hn' := List.nodup_cons.1 hn
    refine ((nodup_perm ha'.2 hn'.2 fun y => ?_).cons x).trans List.perm_middle.symm
    constructor
    · intro hy
      have h2 := (h y).1 (by simp [hy])
      have hne : y ≠ x := fun e => ha'.1 (e ▸ hy)
      rcases List.mem_append.1 h2 with h2 | h2
      · exact List.mem_append.2 (.inl h2)
      · rcases List.mem_cons.1 h2 with h2 | h2
        · exact absurd h2 hne
        · exact List.mem_append.2 (.inr h2)
    · intro hy
      have hne : y ≠ x := fun e => hn'.1 (e ▸ hy)
      have h2 := (h y).2 (by
        rcases List.mem_append.1 hy with h3 | h3
        · exact List.mem_append.2 (.inl h3)
        · exact List.mem_append.2 (.inr (by simp [h3])))
      rcases List.mem_cons.1 h2 with h2 | h2
      · exact absurd h2 hne
      · exact h2
def oddL (a : Int) (L : List Chg) : List Pr := P16.filter fun s => decide (cntD a s L % 2 = 1)
theorem cnt_pos {a : Int} {s : Pr} : ∀ {L : List Chg}, cntD a s L ≠ 0 → ∃ c ∈ L, isDep a c ∧ (c.svc, c.tgt) = s
  | [], h => absurd rfl h
  | c :: L, h => by
    by_cases hc : isDep a c ∧ (c.svc, c.tgt) = s
    · exact ⟨c, by simp, hc⟩
    · simp [cntD, hc] at h
      obtain ⟨d, hd, e⟩ := cnt_pos h
      exact ⟨d, by simp [hd], e⟩
theorem true_odd (a : Int) (l : List Stp) : (trueL (togs a [] (changesC l))).Perm (oddL a (changesC l)) := by
  have hk : keysNe depK (togs a [] (changesC l)) := togs_keys a _ _ List.Pairwise.nil
  have hg := togs_get a
  refine nodup_perm ?_ ?_ fun s => ?_
  · unfold trueL
    refine List.pairwise_map.2 ((hk.sublist List.filter_sublist).imp fun {p q} h e => ?_)
    rw [e, (depK.eq q.1 q.1).2 rfl] at h; cases h
  · exact (P16_srt.imp fun {a b} h (e : a = b) => by subst e; exact plt_asym h h).sublist List.filter_sublist
  · have h1 := hg s (changesC l) []
    have h0 : getB [] s = false := rfl
    rw [h0, Bool.false_xor] at h1
    constructor
    · intro h
      obtain ⟨p, hp, rfl⟩ := List.mem_map.1 h
      obtain ⟨hp1, hp2⟩ := List.mem_filter.1 hp
      have hl := look_mem depK hk hp1
      have : getB (togs a [] (changesC l)) p.1 = true := by unfold getB; rw [hl]; exact hp2
      rw [this] at h1
      have hodd : cntD a p.1 (changesC l) % 2 = 1 := by simpa using h1.symm
      obtain ⟨c, hc, ⟨h3, _⟩, e⟩ := cnt_pos (a := a) (s := p.1) (L := changesC l) (by omega)
      exact List.mem_filter.2 ⟨by rw [← e]; exact P16_in hc h3, by simpa using hodd⟩
    · intro h
      obtain ⟨hp1, hp2⟩ := List.mem_filter.1 h
      rw [hp2] at h1
      have : lookP depK s (togs a [] (changesC l)) = some true := by
        unfold getB at h1
        cases hq : lookP depK s (togs a [] (changesC l)) with
        | none => rw [hq] at h1; cases h1
        | some v => rw [hq] at h1; simp at h1; rw [h1]
      exact List.mem_map.2 ⟨(s, true), List.mem_filter.2 ⟨mem_look depK this, rfl⟩, rfl⟩
theorem trueL_len (m : List (Pr × Bool)) : (trueL m).length ≤ m.length := by unfold trueL; rw [List.length_map]; exact List.length_filter_le _ _
set_option maxRecDepth 100000 in
set_option maxHeartbeats 4000000 in
theorem loop11_2 (a : Int) (B N G : D) (L : List Chg) (hL : L.length ≤ 12) (hB : elsOf (.d B) = some (L.map Chg.enc)) (NL : List D) (hN : elsOf (.d N) = some NL) (p q i : Nat) (hp : NL[p]? = some (.str (nmI p))) (hq : NL[q]? = some (.str (nmI q))) (hpl : p < 16) (hql : q < 16) (hd : (i : Int).tdiv 4 = (p : Int)) (hr : (i : Int).tmod 4 = (q : Int)) (n : Int) (ks : List Fr) (K : Ex → St → Prop)
    (hnext : wpn CC .norm ⟨[(1, .d (.int .i64 a)), (5, .d B), (6, .d N), (7, .d G), (8, .d (.int .i64 n)), (9, .d (.int .i64 i)), (10, .d (.int .i64 (cntD a (nmI p, nmI q) L)))], [.dead]⟩ ks K) :
    wlp CC (s11_2 0) ⟨[(1, .d (.int .i64 a)), (5, .d B), (6, .d N), (7, .d G), (8, .d (.int .i64 n)), (9, .d (.int .i64 i)), (10, .d (.int .i64 0)), (11, .d (.int .i64 0))], [.dead]⟩ (.block 2 :: .post (.tidy [1, 5, 6, 7, 8, 9, 10] 0 1) :: .post (.tidy [1, 5, 6, 7, 8, 9, 10] 0 1) :: ks) K := by
  refine wlp_inv (S := fun p' : List Chg × List Chg => ⟨[(1, .d (.int .i64 a)), (5, .d B), (6, .d N), (7, .d G), (8, .d (.int .i64 n)), (9, .d (.int .i64 i)), (10, .d (.int .i64 (cntD a (nmI p, nmI q) p'.1))), (11, .d (.int .i64 p'.1.length))], [.dead]⟩) (m := fun p => p.2.length) (Inv := fun p => p.1 ++ p.2 = L) ?_ ([], L) rfl
  rintro ⟨pre, suf⟩ hps ih
  rw [e11_2]
  simp only at hps ⊢
  cases suf with
  | nil =>
    have hn := endL hps
    rw [List.append_nil] at hps
    rw [← hps] at hnext
    rw [hps] at hnext ⊢
    simp [c11_2, TK.agg, constAV, evalAV, eqCells, EK.has, EK.hasAll, vecEls, elsR, AV.toD, toDs, AV.cells, AV.one, joinD, TyI.zeroD, OpR.of, binIntF, binStrF, AV.isPtr, ptrNil, slNil, mpNil, nilE, eqF, negF, posF, binF, pelF, pvLoad, pelSet, pvStore, boxLoad, epLoad, loadF, boxStore, storeF, fieldAddrF, fieldF, epOf, indexAddrF, byteF, indexF, mapLen, lenF, cutF, sliceF, isSl, slice3F, fillF, arrFs, buildF, partsX, landV, buildSliceF, roomB, appVec, appendF, mmFrom, mmF, max2', min2', clearVec, clearF, convF, unF, pickF, nilChkF, extF, ptrsOf, callF, makeSliceF, sameKs, sameD, kindIs, plainFs, keyOk, mapOb, mapEs, okV, lookF, lookupF, putE, putS, mapPut, mapUpdateF, mapDel, deleteF, mapAll, rangeM, rangeF, overV, hitV, nextO, nextF, entryM, entryO, entryF, itOids, builtinF, capsOf, allocF, boxF, bytesL, bytesF, byteTy, strTy, convertF, makeFuncF, makeMapF, makeMapH, opF, reach, reachOf, AObj.live, closedB, nodupB, packO, packL, packX, backN, backG, backO, obL, backE, frzX, frzO, AV.vids, frzL, landC, sameObs, landR, touchF, D.cells, D.decEq, D.decEqs, AV.decEq, AV.decEqs, AObj.decEq, AV.oids0, AV.oids, AObj.oids, renG, renP, AV.ren0, AV.ren, envGet, envPut, envKeep, obGet, setEff, putV, St.put, stepS, keyChk, chkD, accD, Ex.block, AV.under, AObj.under, laysOf, roomFor, mkvO, frzG, szOk, killO, usedBy, tidyS, ghost, ghostE, normSt, resOf, allSome, one0, resultsF, finL, finishL, finish, endF, startEnv, chkC, backX, comeC, wpn_nil, wpn_seq, wpn_loop, wpn_seq_exit, wpn_loop_exit, wpn_seq_ret, wpn_loop_ret, wpn_block, wpn_post, wpk_skip, wpk_exit, wpk_ret, wpk_reg, wpk_seq, wpk_condT, wpk_block, wpk_loop, wpk_pre, wpk_post, wop_nil, wop_cons, wop_guard, St.know, envSet, cond_d, cond_bool, cond_int, cond_str, endE, endQ, freeB, disj, pushT, bitsW, int_beq, int_bne, eqS_def, tbE, fuelL_eq, ann0_lays, ann0_dd, ann0_ro, elsOf_dsl, elsOf_dnils, toNat_succ, nn_succ, pos_succ, one_succ, rng1, rng2, rng3, rng4, rng5, rng6, rng7, rng8, List.idxOf_cons, T3, T4, T5, T9, T22, T26, T27, T30, T32, T37, T39, T54, T66, T73, T83, T86, T99, T110, T114, T116, T141, T148, T150, CT, hB, hn]
    exact hnext
  | cons c suf =>
    obtain ⟨k1, k2, k3, k4, k5, k6⟩ := atL Chg.enc hps (by omega)
    have kg := getL k5 k4
    have pl := (List.getElem?_eq_some_iff.1 hp).1
    have pg := (List.getElem?_eq_some_iff.1 hp).2
    have ql := (List.getElem?_eq_some_iff.1 hq).1
    have qg := (List.getElem?_eq_some_iff.1 hq).2
    have wp : IntKind.i64.wrap (p : Int) = p := wrap64 (by omega) (by omega)
    have wq : IntKind.i64.wrap (q : Int) = q := wrap64 (by omega) (by omega)
    have hle := cntD_le a (nmI p, nmI q) pre
    have wc : IntKind.i64.wrap (cntD a (nmI p, nmI q) pre + 1) = cntD a (nmI p, nmI q) pre + 1 := wrap64 (by omega) (by omega)
    have ih := ih (pre ++ [c], suf) (by simpa using hps) (by simp)
    simp only [cntD_app] at ih
    simp only [Chg.enc] at k3
    generalize cntD a (nmI p, nmI q) pre = ct at *
    by_cases h1 : c.kind = 3
    · by_cases h2 : c.slot ≤ a
      · by_cases h3 : eqS c.svc (nmI p) = true
        · have e3 := (eqS_iff _ _).1 h3
          by_cases h4 : eqS c.tgt (nmI q) = true
          · have e4 := (eqS_iff _ _).1 h4
            rw [if_pos ⟨⟨h1, h2⟩, by rw [e3, e4]⟩] at ih
            simp at ih
            simp [c11_2, TK.agg, constAV, evalAV, eqCells, EK.has, EK.hasAll, vecEls, elsR, AV.toD, toDs, AV.cells, AV.one, joinD, TyI.zeroD, OpR.of, binIntF, binStrF, AV.isPtr, ptrNil, slNil, mpNil, nilE, eqF, negF, posF, binF, pelF, pvLoad, pelSet, pvStore, boxLoad, epLoad, loadF, boxStore, storeF, fieldAddrF, fieldF, epOf, indexAddrF, byteF, indexF, mapLen, lenF, cutF, sliceF, isSl, slice3F, fillF, arrFs, buildF, partsX, landV, buildSliceF, roomB, appVec, appendF, mmFrom, mmF, max2', min2', clearVec, clearF, convF, unF, pickF, nilChkF, extF, ptrsOf, callF, makeSliceF, sameKs, sameD, kindIs, plainFs, keyOk, mapOb, mapEs, okV, lookF, lookupF, putE, putS, mapPut, mapUpdateF, mapDel, deleteF, mapAll, rangeM, rangeF, overV, hitV, nextO, nextF, entryM, entryO, entryF, itOids, builtinF, capsOf, allocF, boxF, bytesL, bytesF, byteTy, strTy, convertF, makeFuncF, makeMapF, makeMapH, opF, reach, reachOf, AObj.live, closedB, nodupB, packO, packL, packX, backN, backG, backO, obL, backE, frzX, frzO, AV.vids, frzL, landC, sameObs, landR, touchF, D.cells, D.decEq, D.decEqs, AV.decEq, AV.decEqs, AObj.decEq, AV.oids0, AV.oids, AObj.oids, renG, renP, AV.ren0, AV.ren, envGet, envPut, envKeep, obGet, setEff, putV, St.put, stepS, keyChk, chkD, accD, Ex.block, AV.under, AObj.under, laysOf, roomFor, mkvO, frzG, szOk, killO, usedBy, tidyS, ghost, ghostE, normSt, resOf, allSome, one0, resultsF, finL, finishL, finish, endF, startEnv, chkC, backX, comeC, wpn_nil, wpn_seq, wpn_loop, wpn_seq_exit, wpn_loop_exit, wpn_seq_ret, wpn_loop_ret, wpn_block, wpn_post, wpk_skip, wpk_exit, wpk_ret, wpk_reg, wpk_seq, wpk_condT, wpk_block, wpk_loop, wpk_pre, wpk_post, wop_nil, wop_cons, wop_guard, St.know, envSet, cond_d, cond_bool, cond_int, cond_str, endE, endQ, freeB, disj, pushT, bitsW, int_beq, int_bne, eqS_def, tbE, fuelL_eq, ann0_lays, ann0_dd, ann0_ro, elsOf_dsl, elsOf_dnils, toNat_succ, nn_succ, pos_succ, one_succ, rng1, rng2, rng3, rng4, rng5, rng6, rng7, rng8, List.idxOf_cons, T3, T4, T5, T9, T22, T26, T27, T30, T32, T37, T39, T54, T66, T73, T83, T86, T99, T110, T114, T116, T141, T148, T150, CT, Chg.enc, hB, hN, k2, k3, k4, k5, kg, h1, h2, h3, h4, hd, hr, wp, wq, hp, hq, pl, ql, pg, qg, wc]
            exact ih
          · rw [if_neg (fun h => h4 (by have := congrArg Prod.snd h.2; simp only at this; rw [this, eqS_self]))] at ih
            simp at ih
            simp [c11_2, TK.agg, constAV, evalAV, eqCells, EK.has, EK.hasAll, vecEls, elsR, AV.toD, toDs, AV.cells, AV.one, joinD, TyI.zeroD, OpR.of, binIntF, binStrF, AV.isPtr, ptrNil, slNil, mpNil, nilE, eqF, negF, posF, binF, pelF, pvLoad, pelSet, pvStore, boxLoad, epLoad, loadF, boxStore, storeF, fieldAddrF, fieldF, epOf, indexAddrF, byteF, indexF, mapLen, lenF, cutF, sliceF, isSl, slice3F, fillF, arrFs, buildF, partsX, landV, buildSliceF, roomB, appVec, appendF, mmFrom, mmF, max2', min2', clearVec, clearF, convF, unF, pickF, nilChkF, extF, ptrsOf, callF, makeSliceF, sameKs, sameD, kindIs, plainFs, keyOk, mapOb, mapEs, okV, lookF, lookupF, putE, putS, mapPut, mapUpdateF, mapDel, deleteF, mapAll, rangeM, rangeF, overV, hitV, nextO, nextF, entryM, entryO, entryF, itOids, builtinF, capsOf, allocF, boxF, bytesL, bytesF, byteTy, strTy, convertF, makeFuncF, makeMapF, makeMapH, opF, reach, reachOf, AObj.live, closedB, nodupB, packO, packL, packX, backN, backG, backO, obL, backE, frzX, frzO, AV.vids, frzL, landC, sameObs, landR, touchF, D.cells, D.decEq, D.decEqs, AV.decEq, AV.decEqs, AObj.decEq, AV.oids0, AV.oids, AObj.oids, renG, renP, AV.ren0, AV.ren, envGet, envPut, envKeep, obGet, setEff, putV, St.put, stepS, keyChk, chkD, accD, Ex.block, AV.under, AObj.under, laysOf, roomFor, mkvO, frzG, szOk, killO, usedBy, tidyS, ghost, ghostE, normSt, resOf, allSome, one0, resultsF, finL, finishL, finish, endF, startEnv, chkC, backX, comeC, wpn_nil, wpn_seq, wpn_loop, wpn_seq_exit, wpn_loop_exit, wpn_seq_ret, wpn_loop_ret, wpn_block, wpn_post, wpk_skip, wpk_exit, wpk_ret, wpk_reg, wpk_seq, wpk_condT, wpk_block, wpk_loop, wpk_pre, wpk_post, wop_nil, wop_cons, wop_guard, St.know, envSet, cond_d, cond_bool, cond_int, cond_str, endE, endQ, freeB, disj, pushT, bitsW, int_beq, int_bne, eqS_def, tbE, fuelL_eq, ann0_lays, ann0_dd, ann0_ro, elsOf_dsl, elsOf_dnils, toNat_succ, nn_succ, pos_succ, one_succ, rng1, rng2, rng3, rng4, rng5, rng6, rng7, rng8, List.idxOf_cons, T3, T4, T5, T9, T22, T26, T27, T30, T32, T37, T39, T54, T66, T73, T83, T86, T99, T110, T114, T116, T141, T148, T150, CT, Chg.enc, hB, hN, k2, k3, k4, k5, kg, h1, h2, h3, h4, hd, hr, wp, wq, hp, hq, pl, ql, pg, qg]
            exact ih
        · rw [if_neg (fun h => h3 (by have := congrArg Prod.fst h.2; simp only at this; rw [this, eqS_self]))] at ih
          simp at ih
          simp [c11_2, TK.agg, constAV, evalAV, eqCells, EK.has, EK.hasAll, vecEls, elsR, AV.toD, toDs, AV.cells, AV.one, joinD, TyI.zeroD, OpR.of, binIntF, binStrF, AV.isPtr, ptrNil, slNil, mpNil, nilE, eqF, negF, posF, binF, pelF, pvLoad, pelSet, pvStore, boxLoad, epLoad, loadF, boxStore, storeF, fieldAddrF, fieldF, epOf, indexAddrF, byteF, indexF, mapLen, lenF, cutF, sliceF, isSl, slice3F, fillF, arrFs, buildF, partsX, landV, buildSliceF, roomB, appVec, appendF, mmFrom, mmF, max2', min2', clearVec, clearF, convF, unF, pickF, nilChkF, extF, ptrsOf, callF, makeSliceF, sameKs, sameD, kindIs, plainFs, keyOk, mapOb, mapEs, okV, lookF, lookupF, putE, putS, mapPut, mapUpdateF, mapDel, deleteF, mapAll, rangeM, rangeF, overV, hitV, nextO, nextF, entryM, entryO, entryF, itOids, builtinF, capsOf, allocF, boxF, bytesL, bytesF, byteTy, strTy, convertF, makeFuncF, makeMapF, makeMapH, opF, reach, reachOf, AObj.live, closedB, nodupB, packO, packL, packX, backN, backG, backO, obL, backE, frzX, frzO, AV.vids, frzL, landC, sameObs, landR, touchF, D.cells, D.decEq, D.decEqs, AV.decEq, AV.decEqs, AObj.decEq, AV.oids0, AV.oids, AObj.oids, renG, renP, AV.ren0, AV.ren, envGet, envPut, envKeep, obGet, setEff, putV, St.put, stepS, keyChk, chkD, accD, Ex.block, AV.under, AObj.under, laysOf, roomFor, mkvO, frzG, szOk, killO, usedBy, tidyS, ghost, ghostE, normSt, resOf, allSome, one0, resultsF, finL, finishL, finish, endF, startEnv, chkC, backX, comeC, wpn_nil, wpn_seq, wpn_loop, wpn_seq_exit, wpn_loop_exit, wpn_seq_ret, wpn_loop_ret, wpn_block, wpn_post, wpk_skip, wpk_exit, wpk_ret, wpk_reg, wpk_seq, wpk_condT, wpk_block, wpk_loop, wpk_pre, wpk_post, wop_nil, wop_cons, wop_guard, St.know, envSet, cond_d, cond_bool, cond_int, cond_str, endE, endQ, freeB, disj, pushT, bitsW, int_beq, int_bne, eqS_def, tbE, fuelL_eq, ann0_lays, ann0_dd, ann0_ro, elsOf_dsl, elsOf_dnils, toNat_succ, nn_succ, pos_succ, one_succ, rng1, rng2, rng3, rng4, rng5, rng6, rng7, rng8, List.idxOf_cons, T3, T4, T5, T9, T22, T26, T27, T30, T32, T37, T39, T54, T66, T73, T83, T86, T99, T110, T114, T116, T141, T148, T150, CT, Chg.enc, hB, hN, k2, k3, k4, k5, kg, h1, h2, h3, hd, hr, wp, wq, hp, hq, pl, ql, pg, qg]
          exact ih
      · rw [if_neg (fun h => h2 h.1.2)] at ih
        have h2' : a < c.slot := by omega
        simp at ih
        simp [c11_2, TK.agg, constAV, evalAV, eqCells, EK.has, EK.hasAll, vecEls, elsR, AV.toD, toDs, AV.cells, AV.one, joinD, TyI.zeroD, OpR.of, binIntF, binStrF, AV.isPtr, ptrNil, slNil, mpNil, nilE, eqF, negF, posF, binF, pelF, pvLoad, pelSet, pvStore, boxLoad, epLoad, loadF, boxStore, storeF, fieldAddrF, fieldF, epOf, indexAddrF, byteF, indexF, mapLen, lenF, cutF, sliceF, isSl, slice3F, fillF, arrFs, buildF, partsX, landV, buildSliceF, roomB, appVec, appendF, mmFrom, mmF, max2', min2', clearVec, clearF, convF, unF, pickF, nilChkF, extF, ptrsOf, callF, makeSliceF, sameKs, sameD, kindIs, plainFs, keyOk, mapOb, mapEs, okV, lookF, lookupF, putE, putS, mapPut, mapUpdateF, mapDel, deleteF, mapAll, rangeM, rangeF, overV, hitV, nextO, nextF, entryM, entryO, entryF, itOids, builtinF, capsOf, allocF, boxF, bytesL, bytesF, byteTy, strTy, convertF, makeFuncF, makeMapF, makeMapH, opF, reach, reachOf, AObj.live, closedB, nodupB, packO, packL, packX, backN, backG, backO, obL, backE, frzX, frzO, AV.vids, frzL, landC, sameObs, landR, touchF, D.cells, D.decEq, D.decEqs, AV.decEq, AV.decEqs, AObj.decEq, AV.oids0, AV.oids, AObj.oids, renG, renP, AV.ren0, AV.ren, envGet, envPut, envKeep, obGet, setEff, putV, St.put, stepS, keyChk, chkD, accD, Ex.block, AV.under, AObj.under, laysOf, roomFor, mkvO, frzG, szOk, killO, usedBy, tidyS, ghost, ghostE, normSt, resOf, allSome, one0, resultsF, finL, finishL, finish, endF, startEnv, chkC, backX, comeC, wpn_nil, wpn_seq, wpn_loop, wpn_seq_exit, wpn_loop_exit, wpn_seq_ret, wpn_loop_ret, wpn_block, wpn_post, wpk_skip, wpk_exit, wpk_ret, wpk_reg, wpk_seq, wpk_condT, wpk_block, wpk_loop, wpk_pre, wpk_post, wop_nil, wop_cons, wop_guard, St.know, envSet, cond_d, cond_bool, cond_int, cond_str, endE, endQ, freeB, disj, pushT, bitsW, int_beq, int_bne, eqS_def, tbE, fuelL_eq, ann0_lays, ann0_dd, ann0_ro, elsOf_dsl, elsOf_dnils, toNat_succ, nn_succ, pos_succ, one_succ, rng1, rng2, rng3, rng4, rng5, rng6, rng7, rng8, List.idxOf_cons, T3, T4, T5, T9, T22, T26, T27, T30, T32, T37, T39, T54, T66, T73, T83, T86, T99, T110, T114, T116, T141, T148, T150, CT, Chg.enc, hB, k2, k3, k4, k5, kg, h1, h2, h2']
        exact ih
    · rw [if_neg (fun h => h1 h.1.1)] at ih
      simp at ih
      simp [c11_2, TK.agg, constAV, evalAV, eqCells, EK.has, EK.hasAll, vecEls, elsR, AV.toD, toDs, AV.cells, AV.one, joinD, TyI.zeroD, OpR.of, binIntF, binStrF, AV.isPtr, ptrNil, slNil, mpNil, nilE, eqF, negF, posF, binF, pelF, pvLoad, pelSet, pvStore, boxLoad, epLoad, loadF, boxStore, storeF, fieldAddrF, fieldF, epOf, indexAddrF, byteF, indexF, mapLen, lenF, cutF, sliceF, isSl, slice3F, fillF, arrFs, buildF, partsX, landV, buildSliceF, roomB, appVec, appendF, mmFrom, mmF, max2', min2', clearVec, clearF, convF, unF, pickF, nilChkF, extF, ptrsOf, callF, makeSliceF, sameKs, sameD, kindIs, plainFs, keyOk, mapOb, mapEs, okV, lookF, lookupF, putE, putS, mapPut, mapUpdateF, mapDel, deleteF, mapAll, rangeM, rangeF, overV, hitV, nextO, nextF, entryM, entryO, entryF, itOids, builtinF, capsOf, allocF, boxF, bytesL, bytesF, byteTy, strTy, convertF, makeFuncF, makeMapF, makeMapH, opF, reach, reachOf, AObj.live, closedB, nodupB, packO, packL, packX, backN, backG, backO, obL, backE, frzX, frzO, AV.vids, frzL, landC, sameObs, landR, touchF, D.cells, D.decEq, D.decEqs, AV.decEq, AV.decEqs, AObj.decEq, AV.oids0, AV.oids, AObj.oids, renG, renP, AV.ren0, AV.ren, envGet, envPut, envKeep, obGet, setEff, putV, St.put, stepS, keyChk, chkD, accD, Ex.block, AV.under, AObj.under, laysOf, roomFor, mkvO, frzG, szOk, killO, usedBy, tidyS, ghost, ghostE, normSt, resOf, allSome, one0, resultsF, finL, finishL, finish, endF, startEnv, chkC, backX, comeC, wpn_nil, wpn_seq, wpn_loop, wpn_seq_exit, wpn_loop_exit, wpn_seq_ret, wpn_loop_ret, wpn_block, wpn_post, wpk_skip, wpk_exit, wpk_ret, wpk_reg, wpk_seq, wpk_condT, wpk_block, wpk_loop, wpk_pre, wpk_post, wop_nil, wop_cons, wop_guard, St.know, envSet, cond_d, cond_bool, cond_int, cond_str, endE, endQ, freeB, disj, pushT, bitsW, int_beq, int_bne, eqS_def, tbE, fuelL_eq, ann0_lays, ann0_dd, ann0_ro, elsOf_dsl, elsOf_dnils, toNat_succ, nn_succ, pos_succ, one_succ, rng1, rng2, rng3, rng4, rng5, rng6, rng7, rng8, List.idxOf_cons, T3, T4, T5, T9, T22, T26, T27, T30, T32, T37, T39, T54, T66, T73, T83, T86, T99, T110, T114, T116, T141, T148, T150, CT, Chg.enc, hB, k2, k3, k4, k5, kg, h1]
      exact ih
end Go.Proofs.YteidaaobppjlbaaV
