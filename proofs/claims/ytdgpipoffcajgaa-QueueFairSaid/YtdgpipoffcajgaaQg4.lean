/- The law QueueFair: plain parts and the walk. -/
import Derived.Test.YtdgpipoffcajgaaQg3
set_option linter.unusedVariables false
set_option linter.unusedSimpArgs false
namespace Go.Proofs.YtdgpipoffcajgaaV
open Go.RowKit
attribute [local simp] TK.agg constAV evalAV EK.has EK.hasAll vecEls elsR AV.toD toDs AV.cells AV.one joinD TyI.zeroD OpR.of binIntF binStrF AV.isPtr ptrNil slNil mpNil nilE eqF negF posF binF pelF pvLoad pelSet pvStore boxLoad epLoad loadF boxStore storeF fieldAddrF fieldF epOf indexAddrF byteF indexF mapLen lenF cutF sliceF sliceN sliceX isSl slice3F fillF fillV arrFs buildF partsX landV buildSliceF roomB appVec appendF appMkF capF mmFrom mmF max2' min2' clearVec clearF convF unF pickF nilChkF extF ptrsOf callF makeSliceF sameKs sameD kindIs plainFs keyOk mapOb mapEs okV lookF lookupF putE putS mapPut mapUpdateF mapDel deleteF mapAll rangeM rangeF overV hitV nextO nextF entryM entryO entryF itOids builtinF capsOf allocF boxF bytesL bytesF byteTy strTy convertF makeFuncF mapNew makeMapF makeMapH opF reach reachOf AObj.live closedB nodupB packO packL packX backN backG backO obL backE frzX frzO AV.vids frzL landC sameObs landR touchF bitsW D.cells D.decEq D.decEqs AV.decEq AV.decEqs AObj.decEq AV.oids0 AV.oids AObj.oids renG renP AV.ren0 AV.ren envGet envPut envKeep obGet setEff putV St.put stepS keyChk chkD accD Ex.block AV.under AObj.under laysOf roomFor mkvO frzG szOk killO usedBy tidyS canL canS ghost ghostE normSt resOf allSome one0 resultsF finL finishL finish endF startEnv chkC backX comeC AV.flat0 rngC loopO layL endLp busyL idleL noRng rndSt rndEnd wpn_nil wpn_seq wpn_loop wpn_seq_exit wpn_loop_exit wpn_seq_ret wpn_loop_ret wpn_block wpn_post wpk_skip wpk_exit wpk_ret wpk_reg wpk_seq wpk_condT wpk_block wpk_loop wpk_pre wpk_post wop_nil wop_cons wop_guard St.know envSet cond_d cond_bool cond_int cond_str endE endQ freeB disj pushT bitsW int_beq int_bne eqS_def tbE fuelL_eq ann0_lays ann0_dd ann0_ro elsOf_dsl elsOf_dnils toNat_succ nn_succ pos_succ one_succ rng1 rng2 rng3 rng4 rng5 rng6 rng7 rng8 List.idxOf_cons wpk_rng rndK rndE
abbrev mB (m : List (Int × Bool)) : List (D × D) := mapD (intK .i64) D.bool m
theorem mB_find (a : Int) (m : List (Int × Bool)) : findD (.int .i64 a) (mB m) 0 = some ((lookP (intK .i64) a m).map fun v => (0 + idxP (intK .i64) a m, D.bool v)) := findD_look (intK .i64) D.bool a m 0
theorem mB_put (a : Int) (v : Bool) (m : List (Int × Bool)) : putE (.int .i64 a) (.bool v) (mB m) (findD (.int .i64 a) (mB m) 0) = some (mB (putP (intK .i64) a v m)) := putE_put (intK .i64) D.bool a v m
theorem eqbI (a b : Int) : (intK .i64).eqb a b = true ↔ a = b := (intK .i64).eq a b
theorem putP_fst (a : Int) (v : Bool) (x : Int) : ∀ (m : List (Int × Bool)), x ∈ (putP (intK .i64) a v m).map (·.1) ↔ x = a ∨ x ∈ m.map (·.1)
  | [] => by simp [putP]
  | (q, u) :: r => by
    have ih := putP_fst a v x r
    unfold putP
    by_cases h : (intK .i64).eqb a q = true
    · rw [if_pos h]
      have := (eqbI a q).1 h
      subst this
      simp
    · rw [if_neg h]
      simp only [List.map_cons, List.mem_cons, ih]
      constructor
      · rintro (h | h | h)
        · exact .inr (.inl h)
        · exact .inl h
        · exact .inr (.inr h)
      · rintro (h | h | h)
        · exact .inr (.inl h)
        · exact .inl h
        · exact .inr (.inr h)
theorem fst_nodup {m : List (Int × Bool)} (h : keysNe (intK .i64) m) : (m.map (·.1)).Nodup := by
  refine List.pairwise_map.2 (List.Pairwise.imp (fun {x y} hxy he => ?_) h)
  have := (eqbI x.1 y.1).2 he
  rw [this] at hxy; cases hxy
/-- The count of what lies above, one less. -/
theorem cnt_less {L : List Int} (hn : L.Nodup) {P Q : Int → Bool} {x : Int} (hx : x ∈ L) (hP : P x = true) (hQ : Q x = false) (h : ∀ b ∈ L, b ≠ x → P b = Q b) : (L.filter P).length = (L.filter Q).length + 1 := by
  induction L with
  | nil => cases hx
  | cons a L ih =>
    obtain ⟨h1, h2⟩ := List.nodup_cons.1 hn
    rcases List.mem_cons.1 hx with rfl | hx'
    · rw [List.filter_cons_of_pos hP, List.filter_cons_of_neg (by simp [hQ]), List.length_cons]
      have : L.filter P = L.filter Q := List.filter_congr fun b hb => h b (by simp [hb]) fun e => h1 (e ▸ hb)
      rw [this]
    · have hne : a ≠ x := fun e => h1 (e ▸ hx')
      have hab := h a (by simp) hne
      have := ih h2 hx' fun b hb => h b (by simp [hb])
      by_cases hc : P a = true
      · rw [List.filter_cons_of_pos hc, List.filter_cons_of_pos (by rw [← hab]; exact hc), List.length_cons, List.length_cons, this]
      · rw [List.filter_cons_of_neg hc, List.filter_cons_of_neg (by rw [← hab]; exact hc), this]
theorem rk_inj (s a b : Int) (ha : 1 ≤ a ∧ a ≤ 100) (hb : 1 ≤ b ∧ b ≤ 100) (h : rk s a = rk s b) : a = b := by
  unfold rk at h
  split at h <;> split at h <;> omega
theorem rk_pos (s a : Int) (ha : 1 ≤ a) : 0 < rk s a := by unfold rk; split <;> omega
/-- While the agents are served in turn: up to th all have been. -/
structure fairI (s0 : Int) (L : List Int) (n : Nat) (Q : Qs) (th : Int) (m : List (Int × Bool)) : Prop where
  wl : Q.wl
  iss : Q.iss + n ≤ 200
  turn : (th = 0 ∧ Q.srv = s0) ∨ (th = rk s0 Q.srv ∧ 1 ≤ Q.srv ∧ Q.srv ≤ 100)
  sub : ∀ x ∈ wts Q.es, x.1 ∈ L
  sup : ∀ a ∈ L, th < rk s0 a → ∃ x ∈ wts Q.es, x.1 = a
  cnt : n = (L.filter fun a => decide (th < rk s0 a)).length
  ne : keysNe (intK .i64) m
  look : ∀ a ∈ L, lookP (intK .i64) a m = some (decide (th < rk s0 a))
theorem fair_next {s0 : Int} {L : List Int} {n : Nat} {Q : Qs} {th : Int} {m : List (Int × Bool)} (hL : L.Nodup) (hr : ∀ a ∈ L, 1 ≤ a ∧ a ≤ 100) (h : fairI s0 L (n + 1) Q th m) :
    ∃ pre e post, Q.es = pre ++ e :: post ∧ e.tk = 0 ∧ nextI Q.srv (wts Q.es) = some e.iv ∧ e.a ∈ L ∧ lookP (intK .i64) e.a m = some true ∧ fairI s0 L n (Q.lea pre e post Q.now) (rk s0 e.a) (putP (intK .i64) e.a false m) := by
  have hwr : ∀ x ∈ wts Q.es, 1 ≤ x.1 ∧ x.1 ≤ 100 := fun x hx => hr _ (h.sub x hx)
  have hex : ∃ a ∈ L, th < rk s0 a := by
    have hc := h.cnt
    cases hf : L.filter fun a => decide (th < rk s0 a) with
    | nil => rw [hf] at hc; simp at hc
    | cons a l =>
      have : a ∈ L.filter fun a => decide (th < rk s0 a) := by rw [hf]; simp
      obtain ⟨h1, h2⟩ := List.mem_filter.1 this
      exact ⟨a, h1, by simpa using h2⟩
  obtain ⟨a, haL, hath⟩ := hex
  obtain ⟨y, hy, hya⟩ := h.sup a haL hath
  cases hnx : nextI Q.srv (wts Q.es) with
  | none => rw [nextI_none hnx] at hy; cases hy
  | some x =>
    obtain ⟨pre, e, post, hs, htk, rfl⟩ := nextI_split hnx
    have hxm := nextI_mem hnx
    have hle := nextI_le hnx
    have heL : e.a ∈ L := h.sub _ hxm
    have hea := hr _ heL
    -- the next one lies above, and is the least that does
    have key : ∀ b ∈ L, th < rk s0 b → th < rk s0 e.a ∧ rk s0 e.a ≤ rk s0 b := fun b hb hbt => by
      obtain ⟨z, hz, hzb⟩ := h.sup b hb hbt
      have hl := hle z hz
      rw [hzb] at hl
      have hl' : rk Q.srv e.a ≤ rk Q.srv b := hl
      rcases h.turn with ⟨h1, h2⟩ | ⟨h1, h2⟩
      · rw [h2] at hl'
        exact ⟨by rw [h1]; exact rk_pos _ _ hea.1, hl'⟩
      · rw [h1] at hbt ⊢
        exact rk_turn s0 Q.srv b e.a (hr b hb) hea h2 hbt hl'
    obtain ⟨k1, -⟩ := key a haL hath
    have hids := h.wl.es.ids
    rw [hs] at hids
    obtain ⟨m1, m2⟩ := ids_mid hids
    have hw2 : ∀ x ∈ wts (Q.lea pre e post Q.now).es, x ∈ wts Q.es := fun x hx => by
      obtain ⟨u, hu, rfl⟩ := List.mem_map.1 hx
      obtain ⟨hu1, hu2⟩ := List.mem_filter.1 hu
      have hu0 : u.tk = 0 := by simpa using hu2
      have : u ∈ Q.es := by
        rcases List.mem_append.1 hu1 with h1 | h1
        · rw [hs]; simp [h1]
        · rcases List.mem_cons.1 h1 with h2 | h2
          · subst h2
            have : Q.iss + 1 = 0 := hu0
            have := h.wl.i0
            omega
          · rw [hs]; simp [h2]
      exact List.mem_map.2 ⟨u, List.mem_filter.2 ⟨this, by simpa using hu0⟩, rfl⟩
    have hw3 : ∀ x ∈ wts Q.es, x.1 ≠ e.a → x ∈ wts (Q.lea pre e post Q.now).es := fun x hx hne => by
      obtain ⟨u, hu, rfl⟩ := List.mem_map.1 hx
      obtain ⟨hu1, hu2⟩ := List.mem_filter.1 hu
      refine List.mem_map.2 ⟨u, List.mem_filter.2 ⟨?_, hu2⟩, rfl⟩
      rw [hs] at hu1
      show u ∈ pre ++ e.t (Q.iss + 1) :: post
      rcases List.mem_append.1 hu1 with h1 | h1
      · simp [h1]
      · rcases List.mem_cons.1 h1 with h2 | h2
        · subst h2; exact absurd rfl hne
        · simp [h2]
    have hn0 := h.wl.n0
    have hi0 := h.iss
    refine ⟨pre, e, post, hs, htk, rfl, heL, by rw [h.look _ heL]; simp [k1], ?_, ?_, ?_, ?_, ?_, ?_, ?_, ?_⟩
    · exact lea_wl h.wl hs htk ⟨hn0.1, hn0.2⟩ (by omega) (Int.le_refl _)
    · show Q.iss + 1 + n ≤ 200; omega
    · exact .inr ⟨rfl, hea⟩
    · exact fun x hx => h.sub x (hw2 x hx)
    · intro b hb hbt
      obtain ⟨z, hz, hzb⟩ := h.sup b hb (by omega)
      exact ⟨z, hw3 z hz (fun e' => by rw [← hzb, e'] at hbt; omega), hzb⟩
    · have hc := h.cnt
      have := cnt_less hL (P := fun a => decide (th < rk s0 a)) (Q := fun a => decide (rk s0 e.a < rk s0 a)) heL (by simp [k1]) (by simp) fun b hb hbe => by
        by_cases c : th < rk s0 b
        · have := (key b hb c).2
          have : rk s0 e.a ≠ rk s0 b := fun e' => hbe (rk_inj s0 _ _ hea (hr b hb) e').symm
          have : rk s0 e.a < rk s0 b := by omega
          simp [c, this]
        · have : ¬ rk s0 e.a < rk s0 b := by omega
          simp [c, this]
      omega
    · exact put_keys (intK .i64) h.ne
    · intro b hb
      rw [look_put]
      by_cases c : b = e.a
      · subst c
        rw [if_pos ((eqbI _ _).2 rfl)]
        simp
      · rw [if_neg (fun h => c ((eqbI _ _).1 h)), h.look b hb]
        by_cases c2 : th < rk s0 b
        · have := (key b hb c2).2
          have : rk s0 e.a ≠ rk s0 b := fun e' => c (rk_inj s0 _ _ hea (hr b hb) e').symm
          have : rk s0 e.a < rk s0 b := by omega
          simp [c2, this]
        · have : ¬ rk s0 e.a < rk s0 b := by omega
          simp [c2, this]
end Go.Proofs.YtdgpipoffcajgaaV
