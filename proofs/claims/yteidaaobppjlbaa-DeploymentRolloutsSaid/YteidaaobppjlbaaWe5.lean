/- The law DeploymentRollouts: the walk. -/
import Derived.Test.YteidaaobppjlbaaWd31
import Derived.Test.YteidaaobppjlbaaWd23
set_option linter.unusedVariables false
set_option linter.unusedSimpArgs false
namespace Go.Proofs.YteidaaobppjlbaaV
open Go.RowKit
/-- No two have the same id. -/
def idsNe (l : List Chg) : Prop := l.Pairwise fun a b => a.id ≠ b.id
theorem ins_ne {c : Chg} {o : List Chg} (h : idsNe o) (hc : ∀ p ∈ o, p.id ≠ c.id) : idsNe (insC c o) := by
  have key : idsNe (o.take (posC c o) ++ c :: o.drop (posC c o)) := by
    refine List.pairwise_append.2 ⟨h.sublist (List.take_sublist _ _), List.pairwise_cons.2 ⟨fun b hb => ?_, h.sublist (List.drop_sublist _ _)⟩, fun a ha b hb => ?_⟩
    · exact fun e => hc b (List.mem_of_mem_drop hb) e.symm
    · rcases List.mem_cons.1 hb with rfl | hb
      · exact hc a (List.mem_of_mem_take ha)
      · have h2 : idsNe (o.take (posC c o) ++ o.drop (posC c o)) := by rw [List.take_append_drop]; exact h
        exact (List.pairwise_append.1 h2).2.2 a ha b hb
  unfold insC
  split
  · split
    · exact h
    · exact key
  · rename_i hn
    have : o.length ≤ posC c o := by simpa using hn
    rw [List.take_of_length_le this, List.drop_eq_nil_of_le this] at key
    exact key
theorem sort_ne (l : List Chg) (h : idsNe l) : idsNe (sortC l) := by
  have : ∀ (l o : List Chg), idsNe l → idsNe o → (∀ p ∈ o, ∀ c ∈ l, p.id ≠ c.id) → idsNe (l.foldl (fun out c => insC c out) o) := by
    intro l
    induction l with
    | nil => exact fun o _ h _ => h
    | cons c l ih =>
      intro o hl ho hh
      have hl' := List.pairwise_cons.1 hl
      refine ih (insC c o) hl'.2 (ins_ne ho fun p hp => hh p hp c (by simp)) fun p hp q hq => ?_
      rcases ins_mem hp with rfl | hp
      · exact hl'.1 q hq
      · exact hh p hp q (by simp [hq])
  exact this l [] h List.Pairwise.nil (by simp)
theorem decL_id : ∀ (l : List Stp) (i : Nat) (c : Chg), c ∈ decL i l → (i : Int) + 1 ≤ c.id
  | [], i, c, h => by simp [decL] at h
  | x :: l, i, c, h => by
    simp only [decL, List.mem_cons] at h
    rcases h with rfl | h
    · simp [Stp.chg]
    · have := decL_id l (i + 1) c h; omega
theorem decL_ne : ∀ (l : List Stp) (i : Nat), idsNe (decL i l)
  | [], i => List.Pairwise.nil
  | x :: l, i => by
    refine List.pairwise_cons.2 ⟨fun b hb => ?_, decL_ne l (i + 1)⟩
    have := decL_id l (i + 1) b hb
    simp [Stp.chg]; omega
theorem changes_ne (l : List Stp) : idsNe (changesC l) := sort_ne _ (decL_ne _ _)
theorem changes_len (l : List Stp) : (changesC l).length ≤ 12 := by
  have h1 := sortC_len (decL 0 (l.take 12))
  have h2 := decL_len (l.take 12) 0
  have h3 : (l.take 12).length ≤ 12 := by simp; omega
  unfold changesC; omega
def anyId (n : Int) : List Chg → Bool
  | [] => false
  | c :: r => decide (c.id = n) || anyId n r
theorem anyId_app (n : Int) (c : Chg) : ∀ l, anyId n (l ++ [c]) = (anyId n l || decide (c.id = n))
  | [] => by simp [anyId]
  | p :: r => by simp [anyId, anyId_app n c r, Bool.or_assoc]
theorem anyId_false {n : Int} : ∀ {l : List Chg}, anyId n l = false → ∀ c ∈ l, c.id ≠ n
  | p :: r, h, c, hc => by
    simp [anyId] at h
    rcases List.mem_cons.1 hc with rfl | hc
    · exact h.1
    · exact anyId_false h.2 c hc
theorem anyId_true {n : Int} : ∀ {l : List Chg}, anyId n l = true → ∃ pre c suf, l = pre ++ c :: suf ∧ c.id = n ∧ ∀ p ∈ pre, p.id ≠ n
  | p :: r, h => by
    by_cases hp : p.id = n
    · exact ⟨[], p, r, rfl, hp, by simp⟩
    · have hr : anyId n r = true := by simpa [anyId, hp] using h
      obtain ⟨pre, c, suf, h1, h2, h3⟩ := anyId_true hr
      exact ⟨p :: pre, c, suf, by rw [h1]; rfl, h2, fun q hq => by rcases List.mem_cons.1 hq with rfl | hq; exact hp; exact h3 q hq⟩
theorem rolL_len : ∀ l : List Chg, (rolL l).length ≤ l.length
  | [] => Nat.le_refl _
  | c :: r => by
    have := rolL_len r
    simp only [rolL]; split <;> simp <;> omega
set_option maxRecDepth 100000 in
theorem law5_run (A : D) (l : List Stp) (n : Int) (hok : ∀ x ∈ l, x.ok) (hA : elsOf (.d A) = some (l.map Stp.enc)) : run CC 5 [.d A, .d (.int .i64 n)] [] = some (.d (.bool true), []) := by
  refine run_code (s := s5 0) rfl rfl rfl (by kernel_rfl) ?_
  obtain ⟨B, hB, hs⟩ := changes_run A l hok hA
  have hlen := changes_len l
  have hne := changes_ne l
  have hr := rollouts_run B (changesC l) (by omega) hB
  have hrl := rolL_len (changesC l)
  generalize changesC l = L at *
  simp [s5, TK.agg, constAV, evalAV, eqCells, EK.has, EK.hasAll, vecEls, elsR, AV.toD, toDs, AV.cells, AV.one, joinD, TyI.zeroD, OpR.of, binIntF, binStrF, eqF, negF, posF, binF, pelF, pvLoad, pelSet, pvStore, boxLoad, epLoad, loadF, boxStore, storeF, fieldAddrF, fieldF, epOf, indexAddrF, byteF, indexF, mapLen, lenF, cutF, sliceF, fillF, buildF, partsX, landV, buildSliceF, roomB, appVec, appendF, mmFrom, mmF, max2', min2', builtinF, convF, unF, pickF, nilChkF, extF, ptrsOf, callF, makeSliceF, sameD, keyOk, mapOb, mapEs, okV, lookF, lookupF, putE, mapPut, mapUpdateF, capsOf, allocF, boxF, convertF, makeFuncF, makeMapF, opF, reach, reachOf, AObj.live, closedB, nodupB, packO, packL, packX, backN, backG, backO, obL, backE, frzX, frzO, AV.vids, frzL, landC, touchF, D.cells, AV.oids0, AV.oids, AObj.oids, renG, renP, AV.ren0, AV.ren, envGet, envPut, envKeep, obGet, setEff, putV, St.put, stepS, keyChk, chkD, accD, Ex.block, AV.under, AObj.under, laysOf, roomFor, mkvO, frzG, szOk, killO, usedBy, tidyS, ghost, ghostE, normSt, resOf, allSome, one0, resultsF, finL, finishL, finish, endF, startEnv, chkC, backX, comeC, wpn_nil, wpn_seq, wpn_loop, wpn_seq_exit, wpn_loop_exit, wpn_seq_ret, wpn_loop_ret, wpn_block, wpn_post, wpk_skip, wpk_exit, wpk_ret, wpk_reg, wpk_seq, wpk_condT, wpk_block, wpk_loop, wpk_pre, wpk_post, wop_nil, wop_cons, wop_guard, St.know, envSet, cond_d, cond_bool, cond_int, cond_str, endE, endQ, freeB, disj, pushT, bitsW, int_beq, int_bne, eqS_def, Nat.testBit_eq_decide_div_mod_eq, fuelL_eq, ann0_lays, ann0_dd, elsOf_dsl, elsOf_dnils, toNat_succ, nn_succ, pos_succ, one_succ, T3, T4, T5, T9, T22, T26, T27, T30, T32, T34, T37, T39, T54, T66, T73, T99, T116, CT, hA, hs, hr, known_run]
  generalize hR : rolL L = R at *
  refine wlp_inv (S := fun p : List Chg × List Chg × List Rol × List Rol => ⟨[(1, .d (.int .i64 n)), (5, .d B), (6, .d (.sl (R.map Rol.enc))), (7, .d (.int .i64 p.2.2.1.length)), (8, .d (.bool (anyId n p.1))), (9, .d (.int .i64 p.1.length))], []⟩) (m := fun p => p.2.1.length) (Inv := fun p => p.1 ++ p.2.1 = L ∧ p.2.2.1 ++ p.2.2.2 = R ∧ p.2.2.2 = rolL p.2.1) ?_ ([], L, [], R) ⟨rfl, rfl, hR.symm⟩
  rintro ⟨pre, suf, R1, R2⟩ ⟨hps, hRR, hR2⟩ ih
  rw [e5_1]
  simp only at hps hRR hR2 ⊢
  cases suf with
  | nil =>
    have hn := endL hps
    simp [rolL] at hR2
    subst hR2
    have hn2 := endL hRR
    rw [List.append_nil] at hps
    subst hps
    by_cases hf : anyId n pre = true
    · obtain ⟨p1, c, s1, e1, e2, e3⟩ := anyId_true hf
      have hl := lasting21_some B pre p1 s1 c (by omega) hB e1.symm (by rw [e2]; exact e3)
      rw [e2] at hl
      simp only [ivD] at hl
      simp [c5_1, TK.agg, constAV, evalAV, eqCells, EK.has, EK.hasAll, vecEls, elsR, AV.toD, toDs, AV.cells, AV.one, joinD, TyI.zeroD, OpR.of, binIntF, binStrF, eqF, negF, posF, binF, pelF, pvLoad, pelSet, pvStore, boxLoad, epLoad, loadF, boxStore, storeF, fieldAddrF, fieldF, epOf, indexAddrF, byteF, indexF, mapLen, lenF, cutF, sliceF, fillF, buildF, partsX, landV, buildSliceF, roomB, appVec, appendF, mmFrom, mmF, max2', min2', builtinF, convF, unF, pickF, nilChkF, extF, ptrsOf, callF, makeSliceF, sameD, keyOk, mapOb, mapEs, okV, lookF, lookupF, putE, mapPut, mapUpdateF, capsOf, allocF, boxF, convertF, makeFuncF, makeMapF, opF, reach, reachOf, AObj.live, closedB, nodupB, packO, packL, packX, backN, backG, backO, obL, backE, frzX, frzO, AV.vids, frzL, landC, touchF, D.cells, AV.oids0, AV.oids, AObj.oids, renG, renP, AV.ren0, AV.ren, envGet, envPut, envKeep, obGet, setEff, putV, St.put, stepS, keyChk, chkD, accD, Ex.block, AV.under, AObj.under, laysOf, roomFor, mkvO, frzG, szOk, killO, usedBy, tidyS, ghost, ghostE, normSt, resOf, allSome, one0, resultsF, finL, finishL, finish, endF, startEnv, chkC, backX, comeC, wpn_nil, wpn_seq, wpn_loop, wpn_seq_exit, wpn_loop_exit, wpn_seq_ret, wpn_loop_ret, wpn_block, wpn_post, wpk_skip, wpk_exit, wpk_ret, wpk_reg, wpk_seq, wpk_condT, wpk_block, wpk_loop, wpk_pre, wpk_post, wop_nil, wop_cons, wop_guard, St.know, envSet, cond_d, cond_bool, cond_int, cond_str, endE, endQ, freeB, disj, pushT, bitsW, int_beq, int_bne, eqS_def, Nat.testBit_eq_decide_div_mod_eq, fuelL_eq, ann0_lays, ann0_dd, elsOf_dsl, elsOf_dnils, toNat_succ, nn_succ, pos_succ, one_succ, T3, T4, T5, T9, T22, T26, T27, T30, T32, T34, T37, T39, T54, T66, T73, T99, T116, CT, hB, hf, hl, hn2]
    · have hf : anyId n pre = false := by simpa using hf
      have hl := lasting21_none B pre n (by omega) hB (anyId_false hf)
      simp only [ivD] at hl
      simp [c5_1, TK.agg, constAV, evalAV, eqCells, EK.has, EK.hasAll, vecEls, elsR, AV.toD, toDs, AV.cells, AV.one, joinD, TyI.zeroD, OpR.of, binIntF, binStrF, eqF, negF, posF, binF, pelF, pvLoad, pelSet, pvStore, boxLoad, epLoad, loadF, boxStore, storeF, fieldAddrF, fieldF, epOf, indexAddrF, byteF, indexF, mapLen, lenF, cutF, sliceF, fillF, buildF, partsX, landV, buildSliceF, roomB, appVec, appendF, mmFrom, mmF, max2', min2', builtinF, convF, unF, pickF, nilChkF, extF, ptrsOf, callF, makeSliceF, sameD, keyOk, mapOb, mapEs, okV, lookF, lookupF, putE, mapPut, mapUpdateF, capsOf, allocF, boxF, convertF, makeFuncF, makeMapF, opF, reach, reachOf, AObj.live, closedB, nodupB, packO, packL, packX, backN, backG, backO, obL, backE, frzX, frzO, AV.vids, frzL, landC, touchF, D.cells, AV.oids0, AV.oids, AObj.oids, renG, renP, AV.ren0, AV.ren, envGet, envPut, envKeep, obGet, setEff, putV, St.put, stepS, keyChk, chkD, accD, Ex.block, AV.under, AObj.under, laysOf, roomFor, mkvO, frzG, szOk, killO, usedBy, tidyS, ghost, ghostE, normSt, resOf, allSome, one0, resultsF, finL, finishL, finish, endF, startEnv, chkC, backX, comeC, wpn_nil, wpn_seq, wpn_loop, wpn_seq_exit, wpn_loop_exit, wpn_seq_ret, wpn_loop_ret, wpn_block, wpn_post, wpk_skip, wpk_exit, wpk_ret, wpk_reg, wpk_seq, wpk_condT, wpk_block, wpk_loop, wpk_pre, wpk_post, wop_nil, wop_cons, wop_guard, St.know, envSet, cond_d, cond_bool, cond_int, cond_str, endE, endQ, freeB, disj, pushT, bitsW, int_beq, int_bne, eqS_def, Nat.testBit_eq_decide_div_mod_eq, fuelL_eq, ann0_lays, ann0_dd, elsOf_dsl, elsOf_dnils, toNat_succ, nn_succ, pos_succ, one_succ, T3, T4, T5, T9, T22, T26, T27, T30, T32, T34, T37, T39, T54, T66, T73, T99, T116, CT, hB, hf, hl, hn2, ivD, CQ, QQ]
  | cons c suf =>
    obtain ⟨h1, h2, h3, h4, h5, h6⟩ := atL Chg.enc hps (by omega)
    have hg := getL h5 h4
    have hla := lasting21_some B L pre suf c (by omega) hB hps (fun p hp => by
      rw [← hps] at hne
      exact (List.pairwise_append.1 hne).2.2 p hp c (by simp))
    have hlb := lasting22_run B L pre.length c h5 (by omega) hB
    rw [h6] at hlb
    simp only [Chg.enc] at h3
    simp only [ivD] at hla hlb
    have ihA := ih (pre ++ [c], suf, R1, R2)
    simp only [rolL] at hR2
    have hE : eqCells [.int .i64 (effI c suf).1, .int .i64 (effI c suf).2] [.int .i64 0, .int .i64 0] = some (decide (effI c suf = (0, 0))) := by
      simp [eqCells, int_beq, Prod.ext_iff]
    have hE2 : eqCells [.int .i64 (effI c suf).1, .int .i64 (effI c suf).2] [.int .i64 (effI c suf).1, .int .i64 (effI c suf).2] = some true := by
      simp [eqCells, int_beq, Prod.ext_iff]
    generalize effI c suf = ei at *
    simp only [anyId_app] at ihA
    by_cases hc : c.kind = 1 ∧ ¬ ei = (0, 0)
    · rw [if_pos hc] at hR2
      obtain ⟨g1, g2, g3, g4, g5, g6⟩ := atL Rol.enc (c := ⟨c.id, c.svc, c.ver, ei.1, ei.2⟩) (hR2 ▸ hRR) (by omega)
      have gg := getL g5 g4
      have hE3 : eqCells [.int .i64 c.id, .str c.svc, .str c.ver, .int .i64 ei.1, .int .i64 ei.2] [.int .i64 c.id, .str c.svc, .str c.ver, .int .i64 ei.1, .int .i64 ei.2] = some true := by
        simp [eqCells, int_beq, eqS_def, eqS_self]
      have ihB := ih (pre ++ [c], suf, R1 ++ [⟨c.id, c.svc, c.ver, ei.1, ei.2⟩], rolL suf) ⟨by simpa using hps, by rw [← hRR, hR2]; exact (List.append_cons _ _ _).symm, rfl⟩ (by simp)
      simp only [anyId_app] at ihB
      simp at ihB
      simp only [Rol.enc] at g3
      obtain ⟨hc1, hc2⟩ := hc
      simp [c5_1, TK.agg, constAV, evalAV, EK.has, EK.hasAll, vecEls, elsR, AV.toD, toDs, AV.cells, AV.one, joinD, TyI.zeroD, OpR.of, binIntF, binStrF, eqF, negF, posF, binF, pelF, pvLoad, pelSet, pvStore, boxLoad, epLoad, loadF, boxStore, storeF, fieldAddrF, fieldF, epOf, indexAddrF, byteF, indexF, mapLen, lenF, cutF, sliceF, fillF, buildF, partsX, landV, buildSliceF, roomB, appVec, appendF, mmFrom, mmF, max2', min2', builtinF, convF, unF, pickF, nilChkF, extF, ptrsOf, callF, makeSliceF, sameD, keyOk, mapOb, mapEs, okV, lookF, lookupF, putE, mapPut, mapUpdateF, capsOf, allocF, boxF, convertF, makeFuncF, makeMapF, opF, reach, reachOf, AObj.live, closedB, nodupB, packO, packL, packX, backN, backG, backO, obL, backE, frzX, frzO, AV.vids, frzL, landC, touchF, D.cells, AV.oids0, AV.oids, AObj.oids, renG, renP, AV.ren0, AV.ren, envGet, envPut, envKeep, obGet, setEff, putV, St.put, stepS, keyChk, chkD, accD, Ex.block, AV.under, AObj.under, laysOf, roomFor, mkvO, frzG, szOk, killO, usedBy, tidyS, ghost, ghostE, normSt, resOf, allSome, one0, resultsF, finL, finishL, finish, endF, startEnv, chkC, backX, comeC, wpn_nil, wpn_seq, wpn_loop, wpn_seq_exit, wpn_loop_exit, wpn_seq_ret, wpn_loop_ret, wpn_block, wpn_post, wpk_skip, wpk_exit, wpk_ret, wpk_reg, wpk_seq, wpk_condT, wpk_block, wpk_loop, wpk_pre, wpk_post, wop_nil, wop_cons, wop_guard, St.know, envSet, cond_d, cond_bool, cond_int, cond_str, endE, endQ, freeB, disj, pushT, bitsW, int_beq, int_bne, eqS_def, Nat.testBit_eq_decide_div_mod_eq, fuelL_eq, ann0_lays, ann0_dd, elsOf_dsl, elsOf_dnils, toNat_succ, nn_succ, pos_succ, one_succ, T3, T4, T5, T9, T22, T26, T27, T30, T32, T34, T37, T39, T54, T66, T73, T99, T116, CT, CQ, QQ, Chg.enc, Rol.enc, hB, h2, h3, h4, h5, hg, hla, hlb, hE, hE2, hE3, hc1, hc2, g2, g3, g4, g5, gg]
      cases hp : anyId n pre <;> simp [hp] at ihB ⊢ <;> exact ihB
    · rw [if_neg hc] at hR2
      have ihA := ihA ⟨by simpa using hps, hRR, hR2⟩ (by simp)
      simp at ihA
      have hE3 : c.kind = 1 → eqCells [.int .i64 ei.1, .int .i64 ei.2] [.int .i64 0, .int .i64 0] = some true := fun hk => by
        have : ei = (0, 0) := by simpa [hk] using hc
        rw [this]; rfl
      by_cases hk : c.kind = 1
      · have hE3 := hE3 hk
        simp [c5_1, TK.agg, constAV, evalAV, EK.has, EK.hasAll, vecEls, elsR, AV.toD, toDs, AV.cells, AV.one, joinD, TyI.zeroD, OpR.of, binIntF, binStrF, eqF, negF, posF, binF, pelF, pvLoad, pelSet, pvStore, boxLoad, epLoad, loadF, boxStore, storeF, fieldAddrF, fieldF, epOf, indexAddrF, byteF, indexF, mapLen, lenF, cutF, sliceF, fillF, buildF, partsX, landV, buildSliceF, roomB, appVec, appendF, mmFrom, mmF, max2', min2', builtinF, convF, unF, pickF, nilChkF, extF, ptrsOf, callF, makeSliceF, sameD, keyOk, mapOb, mapEs, okV, lookF, lookupF, putE, mapPut, mapUpdateF, capsOf, allocF, boxF, convertF, makeFuncF, makeMapF, opF, reach, reachOf, AObj.live, closedB, nodupB, packO, packL, packX, backN, backG, backO, obL, backE, frzX, frzO, AV.vids, frzL, landC, touchF, D.cells, AV.oids0, AV.oids, AObj.oids, renG, renP, AV.ren0, AV.ren, envGet, envPut, envKeep, obGet, setEff, putV, St.put, stepS, keyChk, chkD, accD, Ex.block, AV.under, AObj.under, laysOf, roomFor, mkvO, frzG, szOk, killO, usedBy, tidyS, ghost, ghostE, normSt, resOf, allSome, one0, resultsF, finL, finishL, finish, endF, startEnv, chkC, backX, comeC, wpn_nil, wpn_seq, wpn_loop, wpn_seq_exit, wpn_loop_exit, wpn_seq_ret, wpn_loop_ret, wpn_block, wpn_post, wpk_skip, wpk_exit, wpk_ret, wpk_reg, wpk_seq, wpk_condT, wpk_block, wpk_loop, wpk_pre, wpk_post, wop_nil, wop_cons, wop_guard, St.know, envSet, cond_d, cond_bool, cond_int, cond_str, endE, endQ, freeB, disj, pushT, bitsW, int_beq, int_bne, eqS_def, Nat.testBit_eq_decide_div_mod_eq, fuelL_eq, ann0_lays, ann0_dd, elsOf_dsl, elsOf_dnils, toNat_succ, nn_succ, pos_succ, one_succ, T3, T4, T5, T9, T22, T26, T27, T30, T32, T34, T37, T39, T54, T66, T73, T99, T116, CT, CQ, QQ, Chg.enc, hB, h2, h3, h4, h5, hg, hla, hlb, hE2, hE3, hk]
        cases hp : anyId n pre <;> simp [hp] at ihA ⊢ <;> exact ihA
      · simp [c5_1, TK.agg, constAV, evalAV, EK.has, EK.hasAll, vecEls, elsR, AV.toD, toDs, AV.cells, AV.one, joinD, TyI.zeroD, OpR.of, binIntF, binStrF, eqF, negF, posF, binF, pelF, pvLoad, pelSet, pvStore, boxLoad, epLoad, loadF, boxStore, storeF, fieldAddrF, fieldF, epOf, indexAddrF, byteF, indexF, mapLen, lenF, cutF, sliceF, fillF, buildF, partsX, landV, buildSliceF, roomB, appVec, appendF, mmFrom, mmF, max2', min2', builtinF, convF, unF, pickF, nilChkF, extF, ptrsOf, callF, makeSliceF, sameD, keyOk, mapOb, mapEs, okV, lookF, lookupF, putE, mapPut, mapUpdateF, capsOf, allocF, boxF, convertF, makeFuncF, makeMapF, opF, reach, reachOf, AObj.live, closedB, nodupB, packO, packL, packX, backN, backG, backO, obL, backE, frzX, frzO, AV.vids, frzL, landC, touchF, D.cells, AV.oids0, AV.oids, AObj.oids, renG, renP, AV.ren0, AV.ren, envGet, envPut, envKeep, obGet, setEff, putV, St.put, stepS, keyChk, chkD, accD, Ex.block, AV.under, AObj.under, laysOf, roomFor, mkvO, frzG, szOk, killO, usedBy, tidyS, ghost, ghostE, normSt, resOf, allSome, one0, resultsF, finL, finishL, finish, endF, startEnv, chkC, backX, comeC, wpn_nil, wpn_seq, wpn_loop, wpn_seq_exit, wpn_loop_exit, wpn_seq_ret, wpn_loop_ret, wpn_block, wpn_post, wpk_skip, wpk_exit, wpk_ret, wpk_reg, wpk_seq, wpk_condT, wpk_block, wpk_loop, wpk_pre, wpk_post, wop_nil, wop_cons, wop_guard, St.know, envSet, cond_d, cond_bool, cond_int, cond_str, endE, endQ, freeB, disj, pushT, bitsW, int_beq, int_bne, eqS_def, Nat.testBit_eq_decide_div_mod_eq, fuelL_eq, ann0_lays, ann0_dd, elsOf_dsl, elsOf_dnils, toNat_succ, nn_succ, pos_succ, one_succ, T3, T4, T5, T9, T22, T26, T27, T30, T32, T34, T37, T39, T54, T66, T73, T99, T116, CT, CQ, QQ, Chg.enc, hB, h2, h3, h4, h5, hg, hla, hlb, hE2, hk]
        cases hp : anyId n pre <;> simp [hp] at ihA ⊢ <;> exact ihA
end Go.Proofs.YteidaaobppjlbaaV
