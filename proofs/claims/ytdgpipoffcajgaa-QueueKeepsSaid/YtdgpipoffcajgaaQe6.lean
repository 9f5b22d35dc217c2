/- The invariant behind Offer, Lease, Ack. -/
import Derived.Test.YtdgpipoffcajgaaQd9
set_option linter.unusedVariables false
set_option linter.unusedSimpArgs false
namespace Go.Proofs.YtdgpipoffcajgaaV
open Go.RowKit
attribute [local simp] TK.agg constAV evalAV EK.has EK.hasAll vecEls elsR AV.toD toDs AV.cells AV.one joinD TyI.zeroD OpR.of binIntF binStrF AV.isPtr ptrNil slNil mpNil nilE eqF negF posF binF pelF pvLoad pelSet pvStore boxLoad epLoad loadF boxStore storeF fieldAddrF fieldF epOf indexAddrF byteF indexF mapLen lenF cutF sliceF sliceN sliceX isSl slice3F fillF fillV arrFs buildF partsX landV buildSliceF roomB appVec appendF appMkF capF mmFrom mmF max2' min2' clearVec clearF convF unF pickF nilChkF extF ptrsOf callF makeSliceF sameKs sameD kindIs plainFs keyOk mapOb mapEs okV lookF lookupF putE putS mapPut mapUpdateF mapDel deleteF mapAll rangeM rangeF overV hitV nextO nextF entryM entryO entryF itOids builtinF capsOf allocF boxF bytesL bytesF byteTy strTy convertF makeFuncF mapNew makeMapF makeMapH opF reach reachOf AObj.live closedB nodupB packO packL packX backN backG backO obL backE frzX frzO AV.vids frzL landC sameObs landR touchF bitsW D.cells D.decEq D.decEqs AV.decEq AV.decEqs AObj.decEq AV.oids0 AV.oids AObj.oids renG renP AV.ren0 AV.ren envGet envPut envKeep obGet setEff putV St.put stepS keyChk chkD accD Ex.block AV.under AObj.under laysOf roomFor mkvO frzG szOk killO usedBy tidyS canL canS ghost ghostE normSt resOf allSome one0 resultsF finL finishL finish endF startEnv chkC backX comeC AV.flat0 rngC loopO layL endLp busyL idleL noRng rndSt rndEnd wpn_nil wpn_seq wpn_loop wpn_seq_exit wpn_loop_exit wpn_seq_ret wpn_loop_ret wpn_block wpn_post wpk_skip wpk_exit wpk_ret wpk_reg wpk_seq wpk_condT wpk_block wpk_loop wpk_pre wpk_post wop_nil wop_cons wop_guard St.know envSet cond_d cond_bool cond_int cond_str endE endQ freeB disj pushT bitsW int_beq int_bne eqS_def tbE fuelL_eq ann0_lays ann0_dd ann0_ro elsOf_dsl elsOf_dnils toNat_succ nn_succ pos_succ one_succ rng1 rng2 rng3 rng4 rng5 rng6 rng7 rng8 List.idxOf_cons wpk_rng rndK rndE
/-- What the limits say, and small agents. -/
structure Qs.wl (q : Qs) : Prop extends q.wf where
  tot : (q.es.length : Int) ≤ q.la
  per : ∀ a, (own q a : Int) ≤ q.lb
  sm : ∀ e ∈ q.es, e.a ≤ 100
  ss : ∀ e ∈ q.es, e.s < 1000
  tu : ∀ t ∈ q.ts, t.u ≤ q.now + q.lc
theorem stm_snoc {bs : List Nat} {ck n : Nat} (h : Stm bs ck n) : Stm (bs ++ [ck]) (ck + 1) (n + 1) := by
  refine ⟨by simp [h.len], ?_, fun b hb => ?_⟩
  · refine List.nodup_append.2 ⟨h.nd, by simp, fun a ha b hb => ?_⟩
    have := h.lt a ha
    simp at hb; omega
  · rcases List.mem_append.1 hb with h1 | h1
    · have := h.lt b h1; omega
    · simp at h1; omega
theorem pw_snoc {α : Type} {R : α → α → Prop} {l : List α} {x : α} (h : l.Pairwise R) (hx : ∀ y ∈ l, R y x) : (l ++ [x]).Pairwise R :=
  List.pairwise_append.2 ⟨h, by simp, fun a ha b hb => by simp at hb; subst hb; exact hx a ha⟩
theorem own_add (q : Qs) (a s : Int) (S X : D) (ag : Int) : own (q.add a s S X) ag = own q ag + if a = ag then 1 else 0 := by
  unfold own Qs.add
  rw [List.filter_append, List.length_append]
  by_cases h : a = ag <;> simp [h]
theorem add_wl {q : Qs} (h : q.wl) {a s : Int} {A B : Int} (ha : 1 ≤ a ∧ a ≤ 100) (hs : 0 ≤ s ∧ s < 1000) (hx : q.es.any (fun e => decide (e.iv = (a, s))) = false) (hc : crd q a ≠ 0) (har : q.arr < 899999) : (q.add a s (.sl (spD A B)) (.sl (exD A))).wl := by
  have hp : perm a := ⟨ha.1, by omega⟩
  have hcr : 0 < min2' (q.la - q.es.length) (q.lb - own q a) := by
    unfold crd at hc
    rw [if_pos hp] at hc
    unfold max2' at hc
    split at hc
    · assumption
    · exact absurd rfl hc
  have hc1 : (q.es.length : Int) < q.la ∧ (own q a : Int) < q.lb := by
    unfold min2' at hcr
    split at hcr <;> omega
  have hle := h.es.le
  have hl0 := h.l0
  have hne : ∀ e ∈ q.es, e.iv ≠ (a, s) := fun e he hv => by
    have := List.any_eq_false.1 hx e he
    simp [hv] at this
  refine { eb := ?_, tb := h.tb, es := ⟨pw_snoc h.es.ids hne, pw_snoc h.es.asc fun y hy => h.ar y hy, ?_, ?_⟩, asc := h.asc, fr := ?_, rng := ?_, tk := ?_, kt := ?_, tn := h.tn, ar := ?_, i0 := h.i0, a0 := ?_, n0 := h.n0, l0 := h.l0, tot := ?_, per := ?_, sm := ?_, ss := ?_, tu := h.tu }
  · have := stm_snoc h.eb
    simpa [Qs.add] using this
  · show (q.es ++ [_]).length ≤ 12
    simp; omega
  · intro e he
    rcases List.mem_append.1 he with h1 | h1
    · exact h.es.fr e h1
    · simp at h1; subst h1; exact ⟨_, _, rfl, rfl⟩
  · intro e he
    rcases List.mem_append.1 he with h1 | h1
    · exact h.fr e h1
    · simp at h1; subst h1; exact ⟨A, B, rfl, rfl⟩
  · intro e he
    rcases List.mem_append.1 he with h1 | h1
    · exact h.rng e h1
    · simp at h1; subst h1; exact ⟨ha.1, by simp only; omega, hs.1, by simp only; omega⟩
  · intro t ht
    obtain ⟨e, he, h1⟩ := h.tk t ht
    exact ⟨e, List.mem_append.2 (.inl he), h1⟩
  · intro e he hne
    rcases List.mem_append.1 he with h1 | h1
    · exact h.kt e h1 hne
    · simp at h1; subst h1; exact absurd rfl hne
  · intro e he
    rcases List.mem_append.1 he with h1 | h1
    · have := h.ar e h1; show e.arr < q.arr + 1; omega
    · simp at h1; subst h1; show q.arr < q.arr + 1; omega
  · have := h.a0; show 0 ≤ q.arr + 1 ∧ q.arr + 1 < 900000; omega
  · show ((q.es ++ _).length : Int) ≤ q.la
    simp; omega
  · intro ag
    rw [own_add]
    show _ ≤ q.lb
    have := h.per ag
    by_cases e : a = ag
    · subst e; simp; omega
    · simp [e]; exact this
  · intro e he
    rcases List.mem_append.1 he with h1 | h1
    · exact h.sm e h1
    · simp at h1; subst h1; exact ha.2
  · intro e he
    rcases List.mem_append.1 he with h1 | h1
    · exact h.ss e h1
    · simp at h1; subst h1; exact hs.2
theorem ids_mid {pre post : List Ent} {e : Ent} (h : idsNe (pre ++ e :: post)) : (∀ x ∈ pre, x.iv ≠ e.iv) ∧ (∀ x ∈ post, e.iv ≠ x.iv) := by
  obtain ⟨p1, p2, p3⟩ := List.pairwise_append.1 h
  exact ⟨fun x hx => p3 x hx e (by simp), fun x hx => (List.pairwise_cons.1 p2).1 x hx⟩
theorem own_eq {q r : Qs} (h : r.es.map Ent.a = q.es.map Ent.a) (ag : Int) : own r ag = own q ag := by
  have k : ∀ (p : Qs), own p ag = ((p.es.map Ent.a).filter fun a => decide (a = ag)).length := fun p => by
    unfold own
    rw [List.filter_map, List.length_map]
    rfl
  rw [k, k, h]
theorem lea_wl {q : Qs} (h : q.wl) {pre post : List Ent} {e : Ent} (hs : q.es = pre ++ e :: post) (ht : e.tk = 0) {now : Int} (hn : -1000 ≤ now ∧ now < 1000000000) (hi : q.iss < 899999) (hnn : q.now ≤ now) : (q.lea pre e post now).wl := by
  have hids := h.es.ids
  have hasc := h.es.asc
  rw [hs] at hids hasc
  have hmid := ids_mid hids
  have he : e ∈ q.es := by rw [hs]; simp
  have hmem : ∀ x, x ∈ pre ++ e.t (q.iss + 1) :: post → x = e.t (q.iss + 1) ∨ (x ∈ q.es ∧ x.iv ≠ e.iv) := fun x hx => by
    rcases List.mem_append.1 hx with h1 | h1
    · exact .inr ⟨by rw [hs]; simp [h1], hmid.1 x h1⟩
    · rcases List.mem_cons.1 h1 with h2 | h2
      · exact .inl h2
      · exact .inr ⟨by rw [hs]; simp [h2], fun e' => hmid.2 x h2 e'.symm⟩
  have hin : ∀ x ∈ q.es, x.iv ≠ e.iv → x ∈ pre ++ e.t (q.iss + 1) :: post := fun x hx hne => by
    rw [hs] at hx
    rcases List.mem_append.1 hx with h1 | h1
    · simp [h1]
    · rcases List.mem_cons.1 h1 with h2 | h2
      · subst h2; exact absurd rfl hne
      · simp [h2]
  have hti : ∀ t ∈ q.ts, t.n ≤ q.iss := fun t h1 => (h.tn t h1).2
  have hlen : (pre ++ e.t (q.iss + 1) :: post).length = q.es.length := by rw [hs]; simp
  have hma : (pre ++ e.t (q.iss + 1) :: post).map Ent.a = q.es.map Ent.a := by rw [hs]; simp [Ent.t]
  have hmv : ∀ R : Ent → Ent → Prop, (∀ x, R x e → R x (e.t (q.iss + 1))) → (∀ x, R e x → R (e.t (q.iss + 1)) x) → (pre ++ e :: post).Pairwise R → (pre ++ e.t (q.iss + 1) :: post).Pairwise R := fun R r1 r2 hp => by
    obtain ⟨p1, p2, p3⟩ := List.pairwise_append.1 hp
    obtain ⟨p4, p5⟩ := List.pairwise_cons.1 p2
    refine List.pairwise_append.2 ⟨p1, List.pairwise_cons.2 ⟨fun x hx => r2 x (p4 x hx), p5⟩, fun x hx y hy => ?_⟩
    rcases List.mem_cons.1 hy with rfl | hy
    · exact r1 x (p3 x hx e (by simp))
    · exact p3 x hx y (by simp [hy])
  refine { eb := ?_, tb := ?_, es := ⟨hmv _ (fun x h => h) (fun x h => h) hids, hmv _ (fun x h => h) (fun x h => h) hasc, ?_, ?_⟩, asc := ?_, fr := ?_, rng := ?_, tk := ?_, kt := ?_, tn := ?_, ar := ?_, i0 := ?_, a0 := h.a0, n0 := hn, l0 := h.l0, tot := ?_, per := ?_, sm := ?_, ss := ?_, tu := ?_ }
  · show Stm q.bs q.ck (pre ++ e.t (q.iss + 1) :: post).length
    rw [hlen]; exact h.eb
  · have := stm_snoc h.tb
    simpa [Qs.lea] using this
  · show (pre ++ e.t (q.iss + 1) :: post).length ≤ 12
    rw [hlen]; exact h.es.le
  · intro x hx
    rcases hmem x hx with rfl | ⟨h1, -⟩
    · exact h.es.fr e he
    · exact h.es.fr x h1
  · exact pw_snoc h.asc fun t ht => by have := hti t ht; show t.n < q.iss + 1; omega
  · intro x hx
    rcases hmem x hx with rfl | ⟨h1, -⟩
    · exact h.fr e he
    · exact h.fr x h1
  · intro x hx
    rcases hmem x hx with rfl | ⟨h1, -⟩
    · exact h.rng e he
    · exact h.rng x h1
  · intro t ht'
    rcases List.mem_append.1 ht' with h1 | h1
    · obtain ⟨x, hx, x1, x2, x3⟩ := h.tk t h1
      have hne : x.iv ≠ e.iv := fun hv => by
        have := ids_unique h.es.ids hx he hv
        subst this
        have := h.tn t h1
        omega
      exact ⟨x, hin x hx hne, x1, x2, x3⟩
    · simp at h1; subst h1
      exact ⟨e.t (q.iss + 1), List.mem_append.2 (.inr (by simp)), rfl, rfl, rfl⟩
  · intro x hx hne
    rcases hmem x hx with rfl | ⟨h1, -⟩
    · exact ⟨⟨q.iss + 1, e.a, e.s, now + q.lc⟩, List.mem_append.2 (.inr (by simp)), rfl, rfl, rfl⟩
    · obtain ⟨t, t1, t2⟩ := h.kt x h1 hne
      exact ⟨t, List.mem_append.2 (.inl t1), t2⟩
  · intro t ht'
    rcases List.mem_append.1 ht' with h1 | h1
    · have := h.tn t h1; show 1 ≤ t.n ∧ t.n ≤ q.iss + 1; omega
    · simp at h1; subst h1; have := h.i0; show 1 ≤ q.iss + 1 ∧ q.iss + 1 ≤ q.iss + 1; omega
  · intro x hx
    rcases hmem x hx with rfl | ⟨h1, -⟩
    · exact h.ar e he
    · exact h.ar x h1
  · have := h.i0; show 0 ≤ q.iss + 1 ∧ q.iss + 1 < 900000; omega
  · show ((pre ++ e.t (q.iss + 1) :: post).length : Int) ≤ q.la
    rw [hlen]; exact h.tot
  · intro ag
    rw [own_eq (r := q.lea pre e post now) hma]
    exact h.per ag
  · intro x hx
    rcases hmem x hx with rfl | ⟨h1, -⟩
    · exact h.sm e he
    · exact h.sm x h1
  · intro x hx
    rcases hmem x hx with rfl | ⟨h1, -⟩
    · exact h.ss e he
    · exact h.ss x h1
  · intro t ht'
    show t.u ≤ now + q.lc
    rcases List.mem_append.1 ht' with h1 | h1
    · have := h.tu t h1; omega
    · simp at h1; subst h1; exact Int.le_refl _
theorem ack_wl {q : Qs} (h : q.wl) {pre post : List Ent} {e : Ent} (hs : q.es = pre ++ e :: post) {tpre tpost : List Tck} {t : Tck} (hts : q.ts = tpre ++ t :: tpost) (het : e.tk = t.n) (h1 : ∀ x ∈ pre, x.tk ≠ t.n) (h2 : ∀ x ∈ post, x.tk ≠ t.n) (g1 : ∀ x ∈ tpre, x.n ≠ t.n) (g2 : ∀ x ∈ tpost, x.n ≠ t.n) : (q.ack pre post tpre tpost).wl := by
  have hsub : (pre ++ post).Sublist q.es := by rw [hs]; exact List.Sublist.append (List.Sublist.refl _) (List.sublist_cons_self _ _)
  have hsubt : (tpre ++ tpost).Sublist q.ts := by rw [hts]; exact List.Sublist.append (List.Sublist.refl _) (List.sublist_cons_self _ _)
  have hmem : ∀ x ∈ pre ++ post, x ∈ q.es ∧ x.tk ≠ t.n := fun x hx => ⟨hsub.subset hx, (List.mem_append.1 hx).elim (h1 x) (h2 x)⟩
  have hmemt : ∀ x ∈ tpre ++ tpost, x ∈ q.ts ∧ x.n ≠ t.n := fun x hx => ⟨hsubt.subset hx, (List.mem_append.1 hx).elim (g1 x) (g2 x)⟩
  have hin : ∀ x ∈ q.es, x.tk ≠ t.n → x ∈ pre ++ post := fun x hx hne => by
    rw [hs] at hx
    rcases List.mem_append.1 hx with h1 | h1
    · simp [h1]
    · rcases List.mem_cons.1 h1 with h2 | h2
      · subst h2; exact absurd het hne
      · simp [h2]
  have hint : ∀ x ∈ q.ts, x.n ≠ t.n → x ∈ tpre ++ tpost := fun x hx hne => by
    rw [hts] at hx
    rcases List.mem_append.1 hx with h1 | h1
    · simp [h1]
    · rcases List.mem_cons.1 h1 with h2 | h2
      · subst h2; exact absurd rfl hne
      · simp [h2]
  have hlen : (pre ++ post).length = q.es.length - 1 := by rw [hs]; simp
  have hlt : (tpre ++ tpost).length = q.ts.length - 1 := by rw [hts]; simp
  have hle := hsub.length_le
  refine { eb := ?_, tb := ?_, es := ⟨h.es.ids.sublist hsub, h.es.asc.sublist hsub, Nat.le_trans hle h.es.le, fun x hx => h.es.fr x (hsub.subset hx)⟩, asc := h.asc.sublist hsubt, fr := fun x hx => h.fr x (hsub.subset hx), rng := fun x hx => h.rng x (hsub.subset hx), tk := ?_, kt := ?_, tn := fun x hx => h.tn x (hsubt.subset hx), ar := fun x hx => h.ar x (hsub.subset hx), i0 := h.i0, a0 := h.a0, n0 := h.n0, l0 := h.l0, tot := ?_, per := ?_, sm := fun x hx => h.sm x (hsub.subset hx), ss := fun x hx => h.ss x (hsub.subset hx), tu := fun x hx => h.tu x (hsubt.subset hx) }
  · show Stm (q.bs.eraseIdx pre.length) q.ck (pre ++ post).length
    rw [hlen]
    exact stm_erase h.eb (by rw [hs]; simp)
  · show Stm (q.cs.eraseIdx tpre.length) q.dk (tpre ++ tpost).length
    rw [hlt]
    exact stm_erase h.tb (by rw [hts]; simp)
  · intro x hx
    obtain ⟨y1, y2⟩ := hmemt x hx
    obtain ⟨y, hy, z1, z2, z3⟩ := h.tk x y1
    exact ⟨y, hin y hy (by omega), z1, z2, z3⟩
  · intro x hx hne
    obtain ⟨y1, y2⟩ := hmem x hx
    obtain ⟨y, hy, z1, z2, z3⟩ := h.kt x y1 hne
    exact ⟨y, hint y hy (by omega), z1, z2, z3⟩
  · have := h.tot
    show ((pre ++ post).length : Int) ≤ q.la
    omega
  · intro ag
    have : own (q.ack pre post tpre tpost) ag ≤ own q ag := by
      unfold own
      exact (hsub.filter _).length_le
    have := h.per ag
    show _ ≤ q.lb
    omega
theorem rel_wl {q : Qs} (h : q.wl) {t : Tck} (ht : t ∈ q.ts) : (relQ q t.n).wl := by
  have hma : (relQ q t.n).es.map Ent.a = q.es.map Ent.a := by
    show (q.es.map (relE t.n)).map Ent.a = _
    rw [List.map_map]
    exact List.map_congr_left fun e _ => (relE_iv t.n e).2.2.2.2.1
  refine { relQ_wf h.towf ht with tot := ?_, per := ?_, sm := ?_, ss := ?_, tu := fun u hu => h.tu u (List.mem_filter.1 hu).1 }
  · show ((q.es.map (relE t.n)).length : Int) ≤ q.la
    simpa using h.tot
  · intro ag; rw [own_eq hma]; exact h.per ag
  · intro e he
    obtain ⟨x, hx, rfl⟩ := List.mem_map.1 he
    rw [(relE_iv t.n x).2.2.2.2.1]
    exact h.sm x hx
  · intro e he
    obtain ⟨x, hx, rfl⟩ := List.mem_map.1 he
    rw [(relE_iv t.n x).2.2.2.2.2.1]
    exact h.ss x hx
theorem nw_wl {q : Qs} (h : q.wl) {now : Int} (hn : -1000 ≤ now ∧ now < 1000000000) (hnn : q.now ≤ now) : (q.nw now).wl := { nw_wf h.towf hn with tot := h.tot, per := h.per, sm := h.sm, ss := h.ss, tu := fun t ht => by have := h.tu t ht; show t.u ≤ now + q.lc; omega }
theorem exp_wl : ∀ {l : List Tck} {q : Qs}, q.wl → (l.Pairwise fun x y => x.n < y.n) → (∀ t ∈ l, t ∈ q.ts) → (expQ q l).wl
  | [], q, h, _, _ => h
  | t :: l, q, h, ha, hl => by
    obtain ⟨a1, a2⟩ := List.pairwise_cons.1 ha
    show (expQ (relQ q t.n) l).wl
    exact exp_wl (rel_wl h (hl t (by simp))) a2 fun u hu => List.mem_filter.2 ⟨hl u (by simp [hu]), by have := a1 u hu; simp; omega⟩
end Go.Proofs.YtdgpipoffcajgaaV
