/- The model's sorted list of an own slice. -/
import Derived.Test.YteidaaobppjlbaaWs4
set_option linter.unusedVariables false
set_option linter.unusedSimpArgs false
namespace Go.Proofs.YteidaaobppjlbaaV
open Go.RowKit
attribute [local simp] TK.agg constAV evalAV EK.has EK.hasAll vecEls elsR AV.toD toDs AV.cells AV.one joinD TyI.zeroD OpR.of binIntF binStrF AV.isPtr ptrNil slNil mpNil nilE eqF negF posF binF pelF pvLoad pelSet pvStore boxLoad epLoad loadF boxStore storeF fieldAddrF fieldF epOf indexAddrF byteF indexF mapLen lenF cutF sliceF sliceN sliceX isSl slice3F fillF arrFs buildF partsX landV buildSliceF roomB appVec appendF appMkF capF mmFrom mmF max2' min2' clearVec clearF convF unF pickF nilChkF extF ptrsOf callF makeSliceF sameKs sameD kindIs plainFs keyOk mapOb mapEs okV lookF lookupF putE putS mapPut mapUpdateF mapDel deleteF mapAll rangeM rangeF overV hitV nextO nextF entryM entryO entryF itOids builtinF capsOf allocF boxF bytesL bytesF byteTy strTy convertF makeFuncF makeMapF makeMapH opF reach reachOf AObj.live closedB nodupB packO packL packX backN backG backO obL backE frzX frzO AV.vids frzL landC sameObs landR touchF bitsW D.cells D.decEq D.decEqs AV.decEq AV.decEqs AObj.decEq AV.oids0 AV.oids AObj.oids renG renP AV.ren0 AV.ren envGet envPut envKeep obGet setEff putV St.put stepS keyChk chkD accD Ex.block AV.under AObj.under laysOf roomFor mkvO frzG szOk killO usedBy tidyS ghost ghostE normSt resOf allSome one0 resultsF finL finishL finish endF startEnv chkC backX comeC AV.flat0 rngC loopO layL endLp busyL idleL noRng rndSt rndEnd wpn_nil wpn_seq wpn_loop wpn_seq_exit wpn_loop_exit wpn_seq_ret wpn_loop_ret wpn_block wpn_post wpk_skip wpk_exit wpk_ret wpk_reg wpk_seq wpk_condT wpk_block wpk_loop wpk_pre wpk_post wop_nil wop_cons wop_guard St.know envSet cond_d cond_bool cond_int cond_str endE endQ freeB disj pushT bitsW int_beq int_bne eqS_def tbE fuelL_eq ann0_lays ann0_dd ann0_ro elsOf_dsl elsOf_dnils toNat_succ nn_succ pos_succ one_succ rng1 rng2 rng3 rng4 rng5 rng6 rng7 rng8 List.idxOf_cons wpk_rng rndK rndE
set_option maxRecDepth 100000 in
set_option maxHeartbeats 4000000 in
theorem loop39v (B : D) (l o : List Chg) (n i : Nat) (c : Chg) (hn : l.length = n) (hi : l[i]? = some c) (ho : o.length < 1000) (hB : elsOf (.d B) = some (o.map Chg.enc)) (ks : List Fr) (K : Ex → St → Prop)
    (hnext : wpn CC .norm ⟨[(0, .vs 0 0 6 0 n), (3, .d B), (4, .d (.int .i64 i)), (5, .d (.int .i64 (posC c o)))], [.vec 0 false false 26 6 (l.map Chg.enc)]⟩ ks K) :
    wlp CC (s39_2 1) ⟨[(0, .vs 0 0 6 0 n), (3, .d B), (4, .d (.int .i64 i)), (5, .d (.int .i64 0))], [.vec 0 false false 26 6 (l.map Chg.enc)]⟩ (.block 2 :: .post (.tidy [0, 3, 4, 5] 1 1) :: ks) K := by
  refine wlp_inv (S := fun k : Nat => ⟨[(0, .vs 0 0 6 0 n), (3, .d B), (4, .d (.int .i64 i)), (5, .d (.int .i64 k))], [.vec 0 false false 26 6 (l.map Chg.enc)]⟩) (m := fun k => o.length - k) (Inv := fun k => k ≤ posC c o) ?_ 0 (by simp)
  rintro k hk ih
  rw [e39_2]
  have hle := posC_le c o
  obtain ⟨hx, i1, i1', l1, hl, gg1⟩ := atX hn hi
  generalize l.map Chg.enc = E at *
  by_cases hlt : k < o.length
  · have hw : IntKind.i64.wrap ((k : Int) + 1) = (k : Int) + 1 := wrap64 (by omega) (by omega)
    have hy : (o.map Chg.enc)[k]? = some (o[k]).enc := by simp [hlt]
    have hcmp := compare16_run o[k] c
    simp only [Chg.enc] at hy hcmp
    by_cases hq : k < posC c o
    · have h1 := posC_lt c o k hlt hq
      have ih := ih (k + 1) (by omega) (by omega)
      simp at ih
      simp [c39_2, eqCells, T2, T3, T4, T5, T6, T8, T9, T22, T26, T27, T30, T32, T37, T39, T54, T66, T73, T99, T110, T116, T135, T141, T148, T150, T157, CT, Chg.enc, hB, i1, i1', l1, hl, gg1, hx, hy, hw, hlt, hcmp, h1]
      exact ih
    · have e : k = posC c o := by omega
      subst e
      have h1 := posC_at c o hlt
      simp [c39_2, eqCells, T2, T3, T4, T5, T6, T8, T9, T22, T26, T27, T30, T32, T37, T39, T54, T66, T73, T99, T110, T116, T135, T141, T148, T150, T157, CT, Chg.enc, hB, i1, i1', l1, hl, gg1, hx, hy, hw, hlt, hcmp, h1]
      exact hnext
  · have e : k = posC c o := by omega
    subst e
    simp [c39_2, eqCells, T2, T3, T4, T5, T6, T8, T9, T22, T26, T27, T30, T32, T37, T39, T54, T66, T73, T99, T110, T116, T135, T141, T148, T150, T157, CT, hB, hlt]
    exact hnext
set_option maxRecDepth 100000 in
set_option maxHeartbeats 4000000 in
theorem sorted_runv (l : List Chg) (n : Nat) (hn : l.length = n) (hl : n < 1000) : ∃ B : D, (elsOf (.d B) = some ((sortC l).map Chg.enc) ∧ B ≠ .sl []) ∧ run CC 39 [.vs 0 0 6 0 n] [.vec 0 false false 26 6 (l.map Chg.enc)] = some (.d B, [.vec 0 false false 26 6 (l.map Chg.enc)]) := by
  suffices h : ∃ y obs', run CC 39 [.vs 0 0 6 0 n] [.vec 0 false false 26 6 (l.map Chg.enc)] = some (y, obs') ∧ ∃ B : D, (elsOf (.d B) = some ((sortC l).map Chg.enc) ∧ B ≠ .sl []) ∧ y = .d B ∧ obs' = [.vec 0 false false 26 6 (l.map Chg.enc)] by
    obtain ⟨y, obs', h1, B, h2, rfl, rfl⟩ := h
    exact ⟨B, h2, h1⟩
  refine run_codeQ (s := s39 1) rfl rfl rfl (by kernel_rfl) ?_
  simp [s39, eqCells, T2, T3, T4, T5, T6, T8, T9, T22, T26, T27, T30, T32, T37, T39, T54, T66, T73, T99, T110, T116, T135, T141, T148, T150, T157, CT]
  refine wlp_inv (S := fun p : List Chg × List Chg × D => ⟨[(0, .vs 0 0 6 0 n), (3, .d p.2.2), (4, .d (.int .i64 p.1.length))], [.vec 0 false false 26 6 (l.map Chg.enc)]⟩) (m := fun p => p.2.1.length) (Inv := fun p => p.1 ++ p.2.1 = l ∧ elsOf (.d p.2.2) = some ((sortC p.1).map Chg.enc) ∧ p.2.2 ≠ .sl []) ?_ ([], l, .nils) ⟨rfl, rfl, by simp⟩
  rintro ⟨pre, suf, B⟩ ⟨hps, hB, hBn⟩ ih
  rw [e39_1]
  simp only at hps hB hBn ⊢
  cases suf with
  | nil =>
    have hne : pre.length = n := by rw [← hn, ← hps]; simp
    simp only [List.append_nil] at hps
    subst hps
    generalize pre.map Chg.enc = E at *
    simp [c39_1, eqCells, T2, T3, T4, T5, T6, T8, T9, T22, T26, T27, T30, T32, T37, T39, T54, T66, T73, T99, T110, T116, T135, T141, T148, T150, T157, CT, hne, hB, hBn]
  | cons c suf =>
    have hol := sortC_len pre
    have hl' : pre.length + (suf.length + 1) = n := by rw [← hn, ← hps]; simp
    have hw : IntKind.i64.wrap ((pre.length : Int) + 1) = (pre.length : Int) + 1 := wrap64 (by omega) (by omega)
    have hlt : (pre.length : Int) < n := by omega
    have hget : l[pre.length]? = some c := by rw [← hps]; simp
    obtain ⟨hx, i1, i1', l1, hll, gg1⟩ := atX hn hget
    have hs : sortC (pre ++ [c]) = insC c (sortC pre) := by simp [sortC]
    have ih := fun B' => ih (pre ++ [c], suf, B')
    simp only [hs] at ih
    generalize sortC pre = o at *
    simp [c39_1, eqCells, T2, T3, T4, T5, T6, T8, T9, T22, T26, T27, T30, T32, T37, T39, T54, T66, T73, T99, T110, T116, T135, T141, T148, T150, T157, CT, hlt]
    refine loop39v B l o n pre.length c hn hget (by omega) hB _ _ ?_
    have hap : pre ++ [c] ++ suf = l := by rw [← hps]; simp
    generalize l.map Chg.enc = E at *
    have hple := posC_le c o
    by_cases hk : posC c o < o.length
    · have hy : (o.map Chg.enc)[posC c o]? = some (o[posC c o]).enc := by simp [hk]
      have hi : insC c o = if (o[posC c o]).same c = true then o else o.take (posC c o) ++ c :: o.drop (posC c o) := by simp [insC, hk]
      have hneN : ¬ posC c o = o.length := by omega
      have hne : ¬ ((posC c o : Nat) : Int) = (o.length : Int) := by omega
      generalize hp : o[posC c o] = p at *
      have hE : eqCells [.int .i64 p.id, .int .i64 p.kind, .int .i64 p.slot, .str p.svc, .str p.tgt, .str p.ver] [.int .i64 c.id, .int .i64 c.kind, .int .i64 c.slot, .str c.svc, .str c.tgt, .str c.ver] = some (p.same c) := by
        simp [eqCells, Chg.same, eqS_def, int_beq]
      by_cases hsm : p.same c = true
      · rw [if_pos hsm] at hi
        rw [hi] at ih
        have ih := ih B ⟨hap, hB, hBn⟩ (by simp)
        simp at ih
        simp only [Chg.enc] at hy
        simp [T2, T3, T4, T5, T6, T8, T9, T22, T26, T27, T30, T32, T37, T39, T54, T66, T73, T99, T110, T116, T135, T141, T148, T150, T157, CT, CQ, QQ, Chg.enc, hB, i1, i1', l1, hll, gg1, hy, hw, hne, hneN, hE, hsm, hk, hp]
        exact ih
      · rw [if_neg hsm] at hi
        generalize posC c o = k at *
        have hz1 : szAll 6 ((o.map Chg.enc).take k) = true := by
          rw [szAll_iff]; intro y hy'
          obtain ⟨q, _, rfl⟩ := List.mem_map.1 (List.mem_of_mem_take hy')
          rfl
        have hz2 : szAll 6 [c.enc] = true := by simp [szAll, Chg.enc, D.cells]
        have hz3 : szAll 6 ((o.map Chg.enc).drop k) = true := by
          rw [szAll_iff]; intro y hy'
          obtain ⟨q, _, rfl⟩ := List.mem_map.1 (List.mem_of_mem_drop hy')
          rfl
        have ih := ih (.sl ((o.map Chg.enc).take k ++ c.enc :: (o.map Chg.enc).drop k)) ⟨hap, by simp [elsOf, hi], by simp⟩ (by simp)
        have r1 : k * 72 ≤ 140737488355328 := by omega
        have r2 : k ≤ 9223372036854775807 := by omega
        have r3 : (k + 1) * 72 ≤ 140737488355328 := by omega
        have r4 : k + 1 ≤ 9223372036854775807 := by omega
        have hmin : min k o.length = k := by omega
        have hz0 : szAll 6 (o.map Chg.enc) = true := by simp [szAll, Chg.enc, D.cells]
        have htk0 : (o.map Chg.enc).take o.length = o.map Chg.enc := List.take_of_length_le (by simp)
        have htk1 : ((o.map Chg.enc).take k).take k = (o.map Chg.enc).take k := by rw [List.take_take, Nat.min_self]
        have htk2 : ((o.map Chg.enc).take k ++ [D.agg [.int .i64 c.id, .int .i64 c.kind, .int .i64 c.slot, .str c.svc, .str c.tgt, .str c.ver]]).take (k + 1) = (o.map Chg.enc).take k ++ [D.agg [.int .i64 c.id, .int .i64 c.kind, .int .i64 c.slot, .str c.svc, .str c.tgt, .str c.ver]] := List.take_of_length_le (by simp; omega)
        have htk3 : ((o.map Chg.enc).take k ++ D.agg [.int .i64 c.id, .int .i64 c.kind, .int .i64 c.slot, .str c.svc, .str c.tgt, .str c.ver] :: (o.map Chg.enc).drop k).take (k + 1 + (o.length - k)) = (o.map Chg.enc).take k ++ D.agg [.int .i64 c.id, .int .i64 c.kind, .int .i64 c.slot, .str c.svc, .str c.tgt, .str c.ver] :: (o.map Chg.enc).drop k := List.take_of_length_le (by simp; omega)
        have r5 : (k + 1 + (o.length - k)) * 72 ≤ 140737488355328 := by omega
        have r6 : k + 1 + (o.length - k) ≤ 9223372036854775807 := by omega
        simp only [Chg.enc] at hy hz2 hE
        simp at ih
        simp only [Chg.enc] at ih
        simp [T2, T3, T4, T5, T6, T8, T9, T22, T26, T27, T30, T32, T37, T39, T54, T66, T73, T99, T110, T116, T135, T141, T148, T150, T157, CT, CQ, QQ, Chg.enc, hB, i1, i1', l1, hll, gg1, hy, hw, hne, hneN, hE, hsm, hk, hp, hz1, hz2, hz3, r1, r2, r3, r4, r5, r6, hmin, hple, hz0, htk0, htk1, htk2, htk3]
        exact ih
    · have e : posC c o = o.length := by omega
      have hi : insC c o = o ++ [c] := by simp [insC, e]
      have hz1 : szAll 6 (o.map Chg.enc) = true := by simp [szAll, Chg.enc, D.cells]
      have hz2 : szAll 6 [c.enc] = true := by simp [szAll, Chg.enc, D.cells]
      simp only [hi] at ih
      simp only [Chg.enc] at hz2
      have r1 : o.length * 72 ≤ 140737488355328 := by omega
      have r2 : o.length ≤ 9223372036854775807 := by omega
      have r3 : (o.length + 1) * 72 ≤ 140737488355328 := by omega
      have r4 : o.length + 1 ≤ 9223372036854775807 := by omega
      have htk : (o.map Chg.enc).take o.length = o.map Chg.enc := List.take_of_length_le (by simp)
      have hdr : (o.map Chg.enc).drop o.length = [] := List.drop_eq_nil_of_le (by simp)
      have hz3 : szAll 6 [] = true := rfl
      have htk2 : (o.map Chg.enc ++ [D.agg [.int .i64 c.id, .int .i64 c.kind, .int .i64 c.slot, .str c.svc, .str c.tgt, .str c.ver]]).take (o.length + 1) = o.map Chg.enc ++ [D.agg [.int .i64 c.id, .int .i64 c.kind, .int .i64 c.slot, .str c.svc, .str c.tgt, .str c.ver]] := List.take_of_length_le (by simp)
      have ih := ih (.sl (o.map Chg.enc ++ [c.enc])) ⟨hap, by simp [elsOf], by simp⟩ (by simp)
      simp [Chg.enc] at ih
      simp [eqCells, T2, T3, T4, T5, T6, T8, T9, T22, T26, T27, T30, T32, T37, T39, T54, T66, T73, T99, T110, T116, T135, T141, T148, T150, T157, CT, hB, i1, i1', l1, hll, gg1, e, hw, hz1, hz2, hz3, r1, r2, r3, r4, htk, hdr, htk2]
      exact ih
end Go.Proofs.YteidaaobppjlbaaV
