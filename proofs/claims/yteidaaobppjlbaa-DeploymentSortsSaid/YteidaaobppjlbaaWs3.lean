/- Sort of changes. -/
import Derived.Test.YteidaaobppjlbaaWs2
import Derived.Test.YteidaaobppjlbaaWd19
set_option linter.unusedVariables false
set_option linter.unusedSimpArgs false
namespace Go.Proofs.YteidaaobppjlbaaV
open Go.RowKit
attribute [local simp] TK.agg constAV evalAV EK.has EK.hasAll vecEls elsR AV.toD toDs AV.cells AV.one joinD TyI.zeroD OpR.of binIntF binStrF AV.isPtr ptrNil slNil mpNil nilE eqF negF posF binF pelF pvLoad pelSet pvStore boxLoad epLoad loadF boxStore storeF fieldAddrF fieldF epOf indexAddrF byteF indexF mapLen lenF cutF sliceF sliceN sliceX isSl slice3F fillF arrFs buildF partsX landV buildSliceF roomB appVec appendF appMkF capF mmFrom mmF max2' min2' clearVec clearF convF unF pickF nilChkF extF ptrsOf callF makeSliceF sameKs sameD kindIs plainFs keyOk mapOb mapEs okV lookF lookupF putE putS mapPut mapUpdateF mapDel deleteF mapAll rangeM rangeF overV hitV nextO nextF entryM entryO entryF itOids builtinF capsOf allocF boxF bytesL bytesF byteTy strTy convertF makeFuncF makeMapF makeMapH opF reach reachOf AObj.live closedB nodupB packO packL packX backN backG backO obL backE frzX frzO AV.vids frzL landC sameObs landR touchF bitsW D.cells D.decEq D.decEqs AV.decEq AV.decEqs AObj.decEq AV.oids0 AV.oids AObj.oids renG renP AV.ren0 AV.ren envGet envPut envKeep obGet setEff putV St.put stepS keyChk chkD accD Ex.block AV.under AObj.under laysOf roomFor mkvO frzG szOk killO usedBy tidyS ghost ghostE normSt resOf allSome one0 resultsF finL finishL finish endF startEnv chkC backX comeC AV.flat0 rngC loopO layL endLp busyL idleL noRng rndSt rndEnd wpn_nil wpn_seq wpn_loop wpn_seq_exit wpn_loop_exit wpn_seq_ret wpn_loop_ret wpn_block wpn_post wpk_skip wpk_exit wpk_ret wpk_reg wpk_seq wpk_condT wpk_block wpk_loop wpk_pre wpk_post wop_nil wop_cons wop_guard St.know envSet cond_d cond_bool cond_int cond_str endE endQ freeB disj pushT bitsW int_beq int_bne eqS_def tbE fuelL_eq ann0_lays ann0_dd ann0_ro elsOf_dsl elsOf_dnils toNat_succ nn_succ pos_succ one_succ rng1 rng2 rng3 rng4 rng5 rng6 rng7 rng8 List.idxOf_cons wpk_rng rndK rndE
theorem dedF_spec : ∀ (r : List Chg) (p : Chg), (p :: r).Pairwise (fun a b => ¬ b.cmp a < 0) → upC (dedF p r) ∧ (∀ x ∈ dedF p r, p.cmp x < 0) ∧ ∀ x, (x = p ∨ x ∈ dedF p r) ↔ (x = p ∨ x ∈ r)
  | [], p, _ => ⟨List.Pairwise.nil, by simp [dedF], by simp [dedF]⟩
  | q :: r, p, h => by
    obtain ⟨h1, h2⟩ := List.pairwise_cons.1 h
    unfold dedF
    by_cases e : q = p
    · subst e
      rw [if_pos rfl]
      obtain ⟨a1, a2, a3⟩ := dedF_spec r q h2
      exact ⟨a1, a2, fun x => by rw [a3 x]; simp⟩
    · rw [if_neg e]
      obtain ⟨a1, a2, a3⟩ := dedF_spec r q h2
      have hpq : p.cmp q < 0 := by
        have := h1 q (by simp)
        have n := cmp_neg p q
        rcases Int.lt_or_eq_of_le (show p.cmp q ≤ 0 by omega) with h | h
        · exact h
        · exact absurd (cmp_zero h).symm e
      refine ⟨List.pairwise_cons.2 ⟨a2, a1⟩, fun x hx => ?_, fun x => ?_⟩
      · rcases List.mem_cons.1 hx with rfl | hx
        · exact hpq
        · exact cmp_trans hpq (a2 x hx)
      · have := a3 x
        simp only [List.mem_cons]
        rw [this]
theorem dedC_spec {m : List Chg} (h : m.Pairwise fun p q => q.cmp p < 0 → False) : upC (dedC m) ∧ ∀ x, x ∈ dedC m ↔ x ∈ m := by
  cases m with
  | nil => exact ⟨List.Pairwise.nil, by simp [dedC]⟩
  | cons p r =>
    obtain ⟨a1, a2, a3⟩ := dedF_spec r p h
    exact ⟨List.pairwise_cons.2 ⟨a2, a1⟩, fun x => by simp only [dedC, List.mem_cons]; exact a3 x⟩
theorem pos_split (c : Chg) : ∀ {o : List Chg}, upC o → (∀ p ∈ o.take (posC c o), p.cmp c < 0) ∧ ∀ p ∈ o.drop (posC c o), ¬ p.cmp c < 0
  | [], _ => by simp [posC]
  | p :: o, h => by
    obtain ⟨h1, h2⟩ := List.pairwise_cons.1 h
    obtain ⟨a1, a2⟩ := pos_split c h2
    unfold posC
    by_cases e : p.cmp c < 0
    · rw [if_pos e]
      simp only [List.take_succ_cons, List.drop_succ_cons]
      exact ⟨fun q hq => by
        rcases List.mem_cons.1 hq with rfl | hq
        · exact e
        · exact a1 q hq, a2⟩
    · rw [if_neg e]
      refine ⟨by simp, fun q hq => ?_⟩
      simp only [List.drop_zero] at hq
      rcases List.mem_cons.1 hq with rfl | hq
      · exact e
      · intro hc
        exact e (cmp_trans (h1 q hq) hc)
theorem insC_upC (c : Chg) {o : List Chg} (h : upC o) : upC (insC c o) ∧ ∀ x, x ∈ insC c o ↔ x = c ∨ x ∈ o := by
  obtain ⟨a1, a2⟩ := pos_split c h
  have hsp := List.take_append_drop (posC c o) o
  unfold insC
  cases hg : o[posC c o]? with
  | none =>
    have hk : o.length ≤ posC c o := List.getElem?_eq_none_iff.1 hg
    rw [List.take_of_length_le hk] at a1
    simp only
    exact ⟨List.pairwise_append.2 ⟨h, by simp, fun p hp q hq => by simp at hq; subst hq; exact a1 p hp⟩, fun x => by simp; exact ⟨fun h => h.symm, fun h => h.symm⟩⟩
  | some p =>
    have hk := (List.getElem?_eq_some_iff.1 hg).1
    have hp : o.drop (posC c o) = p :: o.drop (posC c o + 1) := by
      rw [List.drop_eq_getElem_cons hk]
      rw [List.getElem?_eq_getElem hk] at hg
      injection hg with hg
      rw [hg]
    simp only
    by_cases hs : p.same c = true
    · rw [if_pos hs]
      have := (same_iff p c).1 hs
      subst this
      exact ⟨h, fun x => ⟨.inr, fun hx => by
        rcases hx with rfl | hx
        · exact List.mem_of_getElem? hg
        · exact hx⟩⟩
    · rw [if_neg hs]
      have hlt : ∀ q ∈ o.drop (posC c o), c.cmp q < 0 := by
        intro q hq
        have n := cmp_neg c q
        have := a2 q hq
        rcases Int.lt_or_eq_of_le (show c.cmp q ≤ 0 by omega) with h' | h'
        · exact h'
        · exfalso
          have e := cmp_zero h'
          subst e
          rw [hp] at hq
          rcases List.mem_cons.1 hq with e | hq
          · exact hs ((same_iff p c).2 e.symm)
          · have hd : upC (o.drop (posC c o)) := List.Pairwise.sublist (List.drop_sublist _ _) h
            rw [hp] at hd
            have := (List.pairwise_cons.1 hd).1 c hq
            exact a2 p (by rw [hp]; simp) this
      have h' := h
      rw [← hsp] at h'
      obtain ⟨b1, b2, b3⟩ := List.pairwise_append.1 h'
      refine ⟨List.pairwise_append.2 ⟨b1, List.pairwise_cons.2 ⟨hlt, b2⟩, fun p hp q hq => ?_⟩, fun x => ?_⟩
      · rcases List.mem_cons.1 hq with rfl | hq
        · exact a1 p hp
        · exact b3 p hp q hq
      · have : x ∈ o ↔ x ∈ o.take (posC c o) ∨ x ∈ o.drop (posC c o) := by
          rw [← List.mem_append, hsp]
        rw [this]
        simp only [List.mem_append, List.mem_cons]
        constructor
        · rintro (h | h | h)
          · exact .inr (.inl h)
          · exact .inl h
          · exact .inr (.inr h)
        · rintro (h | h | h)
          · exact .inr (.inl h)
          · exact .inl h
          · exact .inr (.inr h)
theorem fold_upC : ∀ (l o : List Chg), upC o → upC (l.foldl (fun out c => insC c out) o) ∧ ∀ x, x ∈ l.foldl (fun out c => insC c out) o ↔ x ∈ o ∨ x ∈ l
  | [], o, h => ⟨h, by simp⟩
  | c :: l, o, h => by
    obtain ⟨a1, a2⟩ := insC_upC c h
    obtain ⟨b1, b2⟩ := fold_upC l _ a1
    refine ⟨b1, fun x => ?_⟩
    simp only [List.foldl_cons]
    rw [b2 x, a2 x]
    simp only [List.mem_cons]
    constructor
    · rintro ((h | h) | h)
      · exact .inr (.inl h)
      · exact .inl h
      · exact .inr (.inr h)
    · rintro (h | h | h)
      · exact .inl (.inr h)
      · exact .inl (.inl h)
      · exact .inr h
theorem sortC_upC (l : List Chg) : upC (sortC l) ∧ ∀ x, x ∈ sortC l ↔ x ∈ l := by
  obtain ⟨a, b⟩ := fold_upC l [] List.Pairwise.nil
  exact ⟨a, fun x => by unfold sortC; rw [b x]; simp⟩
theorem ded_sort {l m : List Chg} (hp : m.Perm l) (h : m.Pairwise fun p q => q.cmp p < 0 → False) : dedC m = sortC l := by
  obtain ⟨a1, a2⟩ := dedC_spec h
  obtain ⟨b1, b2⟩ := sortC_upC l
  exact up_ext a1 b1 fun x => by rw [a2, b2]; exact hp.mem_iff
/-- What Sort gives. -/
def srtR (l : List Chg) : List AV := if chkL [] (sortC l) = 0 then [.d (.sl ((sortC l).map Chg.enc)), .d (.int .i64 0)] else [.d .nils, .d (.int .i64 (chkL [] (sortC l)))]
set_option maxRecDepth 100000 in
set_option maxHeartbeats 4000000 in
theorem sort37_run (A : D) (l : List Chg) (hl : l.length ≤ 24) (hA : elsOf (.d A) = some (l.map Chg.enc)) : run CC 37 [.d A] [] = some (.tup (srtR l), []) := by
  refine run_code (s := s37 0) rfl rfl rfl (by kernel_rfl) ?_
  obtain ⟨a1, a2, a3⟩ := slF hA
  have hv := Pd.vals59_run A a1 a2
  obtain ⟨m, hs, hp, ho⟩ := sorted62_run A l hl hA
  have hlen : m.length = l.length := hp.length_eq
  obtain ⟨y, obs', hc, rfl, E, mv, rfl, ht, hle⟩ := compact61_run m l.length (by omega) hlen
  have hd := ded_sort hp ho
  rw [hd] at hc ht hle
  have hsl := sortC_len l
  have hk := check_run (.sl ((sortC l).map Chg.enc)) (sortC l) (by omega) rfl
  rw [if_neg (by omega)] at hk
  unfold srtR
  have htl : (m.map Chg.enc).take l.length = m.map Chg.enc := by rw [← hlen]; exact takeM _ _
  have hll : (m.map Chg.enc).length = l.length := by simp [hlen]
  have hle2 : (sortC l).length ≤ l.length := hsl
  generalize m.map Chg.enc = F at *
  generalize (sortC l).map Chg.enc = G at *
  generalize (sortC l).length = k at *
  generalize chkL [] (sortC l) = e at *
  generalize l.length = n at *
  by_cases he : e = 0
  · subst he
    cases mv <;> simp [s37, eqCells, T2, T3, T4, T5, T6, T8, T9, T22, T26, T27, T30, T32, T37, T39, T54, T66, T73, T99, T110, T116, T135, T141, T148, T150, T157, CT, hA, hv, hs, hc, ht, hle, hk]
  · cases mv <;> simp [s37, eqCells, T2, T3, T4, T5, T6, T8, T9, T22, T26, T27, T30, T32, T37, T39, T54, T66, T73, T99, T110, T116, T135, T141, T148, T150, T157, CT, hA, hv, hs, hc, ht, hle, hk, he]
end Go.Proofs.YteidaaobppjlbaaV
