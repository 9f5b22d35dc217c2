/- ids: those of a condition, in the order of arrival. -/
import Derived.Test.YtdgpipoffcajgaaQc4
set_option linter.unusedVariables false
set_option linter.unusedSimpArgs false
namespace Go.Proofs.YtdgpipoffcajgaaV
open Go.RowKit
attribute [local simp] TK.agg constAV evalAV EK.has EK.hasAll vecEls elsR AV.toD toDs AV.cells AV.one joinD TyI.zeroD OpR.of binIntF binStrF AV.isPtr ptrNil slNil mpNil nilE eqF negF posF binF pelF pvLoad pelSet pvStore boxLoad epLoad loadF boxStore storeF fieldAddrF fieldF epOf indexAddrF byteF indexF mapLen lenF cutF sliceF sliceN sliceX isSl slice3F fillF fillV arrFs buildF partsX landV buildSliceF roomB appVec appendF appMkF capF mmFrom mmF max2' min2' clearVec clearF convF unF pickF nilChkF extF ptrsOf callF makeSliceF sameKs sameD kindIs plainFs keyOk mapOb mapEs okV lookF lookupF putE putS mapPut mapUpdateF mapDel deleteF mapAll rangeM rangeF overV hitV nextO nextF entryM entryO entryF itOids builtinF capsOf allocF boxF bytesL bytesF byteTy strTy convertF makeFuncF mapNew makeMapF makeMapH opF reach reachOf AObj.live closedB nodupB packO packL packX backN backG backO obL backE frzX frzO AV.vids frzL landC sameObs landR touchF bitsW D.cells D.decEq D.decEqs AV.decEq AV.decEqs AObj.decEq AV.oids0 AV.oids AObj.oids renG renP AV.ren0 AV.ren envGet envPut envKeep obGet setEff putV St.put stepS keyChk chkD accD Ex.block AV.under AObj.under laysOf roomFor mkvO frzG szOk killO usedBy tidyS canL canS ghost ghostE normSt resOf allSome one0 resultsF finL finishL finish endF startEnv chkC backX comeC AV.flat0 rngC loopO layL endLp busyL idleL noRng rndSt rndEnd wpn_nil wpn_seq wpn_loop wpn_seq_exit wpn_loop_exit wpn_seq_ret wpn_loop_ret wpn_block wpn_post wpk_skip wpk_exit wpk_ret wpk_reg wpk_seq wpk_condT wpk_block wpk_loop wpk_pre wpk_post wop_nil wop_cons wop_guard St.know envSet cond_d cond_bool cond_int cond_str endE endQ freeB disj pushT bitsW int_beq int_bne eqS_def tbE fuelL_eq ann0_lays ann0_dd ann0_ro elsOf_dsl elsOf_dnils toNat_succ nn_succ pos_succ one_succ rng1 rng2 rng3 rng4 rng5 rng6 rng7 rng8 List.idxOf_cons wpk_rng rndK rndE
theorem perm_filter : ∀ {l : List (Nat × D × D)} {p : Nat × D × D}, (l.map (·.1)).Nodup → p ∈ l → l.Perm (p :: l.filter fun q => decide (q.1 ≠ p.1))
  | q :: l, p, hn, hp => by
    simp only [List.map_cons, List.nodup_cons] at hn
    rcases List.mem_cons.1 hp with rfl | hp
    · have : (l.filter fun q => decide (q.1 ≠ p.1)) = l := List.filter_eq_self.2 fun q hq => by
        have : q.1 ≠ p.1 := fun e => hn.1 (e ▸ List.mem_map.2 ⟨q, hq, rfl⟩)
        simp [this]
      rw [List.filter_cons_of_neg (by simp), this]
    · have hne : q.1 ≠ p.1 := fun e => hn.1 (e ▸ List.mem_map.2 ⟨p, hp, rfl⟩)
      rw [List.filter_cons_of_pos (by simpa using hne)]
      exact ((perm_filter hn.2 hp).cons q).trans (List.Perm.swap p q _)
theorem perm_left {l : List (Nat × D × D)} (hn : (l.map (·.1)).Nodup) {seen : List Nat} {p : Nat × D × D} (hp : p ∈ leftE seen l) : (leftE seen l).Perm (p :: leftE (seen ++ [p.1]) l) := by
  rw [leftE_snoc]
  exact perm_filter (left_nodup hn seen) hp
theorem perm_asc {α : Type} (f : α → Int) : ∀ {s t : List α}, s.Perm t → (s.Pairwise fun x y => f x ≤ f y) → (t.Pairwise fun x y => f x < f y) → s = t
  | [], t, hp, _, _ => (List.Perm.nil_eq hp)
  | x :: s, [], hp, _, _ => absurd hp.length_eq (by simp)
  | x :: s, y :: t, hp, hs, ht => by
    obtain ⟨s1, s2⟩ := List.pairwise_cons.1 hs
    obtain ⟨t1, t2⟩ := List.pairwise_cons.1 ht
    have e : x = y := by
      rcases List.mem_cons.1 (hp.mem_iff.1 (List.mem_cons_self)) with h | hx
      · exact h
      rcases List.mem_cons.1 (hp.mem_iff.2 (List.mem_cons_self)) with h | hy
      · exact h.symm
      have a := t1 x hx
      have b := s1 y hy
      omega
    subst e
    rw [perm_asc f (List.perm_cons x |>.1 hp) s2 t2]
def Ent.iv (e : Ent) : Iv := (e.a, e.s)
/-- The invariants of the entries: different identities, arrivals in order. -/
structure esOk (es : List Ent) : Prop where
  ids : es.Pairwise fun x y => x.iv ≠ y.iv
  asc : es.Pairwise fun x y => x.arr < y.arr
  le : es.length ≤ 12
  fr : ∀ e ∈ es, ∃ l1 l2, e.S = .sl l1 ∧ e.X = .sl l2
theorem arr_of {es : List Ent} (h : es.Pairwise fun x y => x.iv ≠ y.iv) {e : Ent} (he : e ∈ es) : arrOf es e.iv = e.arr := by
  have hk : keysNe idK (kvE es) := by
    unfold keysNe kvE
    rw [List.pairwise_map]
    exact h.imp fun {x y} hxy => by simpa [idK, Ent.iv] using hxy
  have := look_mem idK hk (p := (e.iv, e)) (List.mem_map.2 ⟨e, he, rfl⟩)
  unfold arrOf
  simp only at this
  rw [this]
  rfl
/-- The identities of those that meet a condition. -/
def idsW (P : Ent → Bool) (es : List Ent) : List Iv := (es.filter P).map Ent.iv
theorem ids_sorted {P : Ent → Bool} {es : List Ent} (h : esOk es) {out : List Iv} (hp : out.Perm (idsW P es)) : srtQ es out = idsW P es := by
  obtain ⟨s1, s2⟩ := srtQ_spec es out
  refine perm_asc (arrOf es) (s1.trans hp) s2 ?_
  unfold idsW
  rw [List.pairwise_map]
  refine List.Pairwise.imp_of_mem (fun {x y} hx hy hxy => ?_) (h.asc.filter P)
  rw [arr_of h.ids (List.mem_filter.1 hx).1, arr_of h.ids (List.mem_filter.1 hy).1]
  exact hxy
/-- What a range's entry adds. -/
def decW (T : Int → Bool) (p : D × D) : List Iv := match p with
  | (_, .agg [.int .i64 a, .int .i64 s, _, _, _, .int .i64 t]) => if T t then [(a, s)] else []
  | _ => []
theorem dec_es (T : Int → Bool) : ∀ es : List Ent, (es.map Ent.p).flatMap (decW T) = idsW (fun e => T e.tk) es
  | [] => rfl
  | e :: es => by
    have ih := dec_es T es
    unfold idsW at ih ⊢
    simp only [List.map_cons, List.flatMap_cons, ih, Ent.p, decW]
    cases h : T e.tk <;> simp [h, Ent.iv]
set_option maxRecDepth 100000 in
set_option maxHeartbeats 4000000 in
theorem ids37_run (q : Qs) (hq : q.ok) (he : esOk q.es) (T : Int → Bool) (g : Nat) (hne : g ≠ 1000000007) (hg : ∀ (a s : Int) (S X : List D) (arr tk : Int), run CC g [.d (.agg [.int .i64 a, .int .i64 s, .sl S, .sl X, .int .i64 arr, .int .i64 tk])] [] = some (.d (.bool (T tk)), [])) :
    run CC 37 [.ptr 0 0, .fn g [] []] q.obs = some (.vs 3 0 2 0 (idsW (fun e => T e.tk) q.es).length, q.obs ++ [.vec 0 true false 38 2 ((idsW (fun e => T e.tk) q.es).map iD)]) := by
  refine run_code (s := s37 3) rfl rfl rfl (by kernel_rfl) ?_
  have hes : (q.es.map Ent.p).length = q.es.length := by simp
  have hst : Stm q.bs q.ck (q.es.map Ent.p).length := by rw [hes]; exact hq.eb
  have hfst := stEs_fst (q.es.map Ent.p) q.bs hst.len.symm
  have hsnd := stEs_snd (q.es.map Ent.p) q.bs hst.len.symm
  have hnd : ((stEs (q.es.map Ent.p) q.bs).map (·.1)).Nodup := by rw [hfst]; exact hst.nd
  have hall : (stEs (q.es.map Ent.p) q.bs).flatMap (fun p => decW T p.2) = idsW (fun e => T e.tk) q.es := by
    rw [← dec_es, ← hsnd, List.flatMap_map, hsnd]
  have hle := he.le
  simp [s37, eqCells, T3, T4, T5, T9, T22, T23, T25, T27, T32, T34, T38, T40, T46, T49, T51, T54, T57, T66, T72, T74, T76, T77, T79, T81, T87, T89, T90, T92, T101, T107, T109, T119, T125, T128, T130, T133, T140, T148, T150, T151, CT]
  refine wlp_inv (S := fun p : List Nat × List Iv => ⟨[(1, .fn g [] []), (2, .ptr 3 0), (5, .vs 4 0 2 0 p.2.length), (14, .it 5)], q.obs ++ [.box [.ptr 0 0], .vec 0 true false 38 2 (p.2.map iD), .iter (some 1) q.ck p.1 q.ck]⟩) (m := fun p => (leftE p.1 (stEs (q.es.map Ent.p) q.bs)).length) (Inv := fun p => (p.2 ++ (leftE p.1 (stEs (q.es.map Ent.p) q.bs)).flatMap fun p => decW T p.2).Perm (idsW (fun e => T e.tk) q.es)) ?_ ([], []) (by simp only [leftE_nil, List.nil_append]; rw [hall])
  rintro ⟨seen, out⟩ hinv ih
  rw [e37_1]
  unfold c37_1
  rw [wpk_post, wpk_seq, wpk_reg]
  simp only at hinv ⊢
  have hol : out.length ≤ 12 := by
    have h1 := hinv.length_eq
    rw [List.length_append] at h1
    have h2 : (idsW (fun e => T e.tk) q.es).length ≤ q.es.length := by unfold idsW; rw [List.length_map]; exact List.length_filter_le _ _
    omega
  refine wop_next (o := 5) (m := 1) (since := q.ck) (last := q.ck) (ck := q.ck) (seen := seen) (l := stEs (q.es.map Ent.p) q.bs) rfl rfl rfl (stm_ok hst seen) (fun h0 => ?_) fun p hp' => ?_
  · rw [h0] at hinv
    simp only [List.flatMap_nil, List.append_nil] at hinv
    have hsrt := ids_sorted he hinv
    have hs := sort59_run q.la q.lb q.lc q.arr q.iss q.srv q.now q.es (q.ts.map Tck.p) q.bs q.cs q.ck q.dk out hol
    rw [hsrt] at hs
    have hlen : (idsW (fun e => T e.tk) q.es).length = out.length := hinv.length_eq.symm
    have htk : ((idsW (fun e => T e.tk) q.es).map iD).take out.length = (idsW (fun e => T e.tk) q.es).map iD := by rw [← hlen]; exact takeM _ _
    have hll : ((idsW (fun e => T e.tk) q.es).map iD).length = out.length := by simp [hlen]
    clear ih hinv hsrt hall
    rw [hlen]
    simp only [Qs.obs] at hs ⊢
    generalize (idsW (fun e => T e.tk) q.es).map iD = F at *
    generalize out.map iD = E at *
    generalize out.length = n at *
    generalize q.es.map Ent.p = M1 at *
    generalize q.ts.map Tck.p = M2 at *
    simp [eqCells, T3, T4, T5, T9, T22, T23, T25, T27, T32, T34, T38, T40, T46, T49, T51, T54, T57, T66, T72, T74, T76, T77, T79, T81, T87, T89, T90, T92, T101, T107, T109, T119, T125, T128, T130, T133, T140, T148, T150, T151, CT, hs, htk, hll]
  · have hm := leftE_mem hp'
    have hen := stm_entry hst hm.1
    have hin : p.2 ∈ q.es.map Ent.p := by
      have : p.2 ∈ (stEs (q.es.map Ent.p) q.bs).map (·.2) := List.mem_map.2 ⟨p, hm.1, rfl⟩
      rw [hsnd] at this
      exact this
    obtain ⟨e, heq, hpe⟩ := List.mem_map.1 hin
    have hpl := (perm_left hnd hp').flatMap_right fun p => decW T p.2
    have ih1 := fun out' h => ih (seen ++ [p.1], out') h (leftE_lt hp')
    obtain ⟨l1, l2, hS, hX⟩ := he.fr e heq
    have hge := hg e.a e.s l1 l2 e.arr e.tk
    obtain ⟨b, pr⟩ := p
    simp only at hpe hpl hen ih1
    subst hpe
    simp only [List.flatMap_cons] at hpl
    have hinv2 := (List.Perm.append_left out hpl).symm.trans hinv
    have hd : decW T (Ent.p e) = if T e.tk then [(e.a, e.s)] else [] := rfl
    rw [hd] at hinv2
    simp only [Ent.p, hS, hX] at hen
    have htl : (out.map iD).take out.length = out.map iD := takeM _ _
    have hll : (out.map iD).length = out.length := by simp
    cases hT : T e.tk with
    | true =>
      rw [hT] at hge hinv2
      simp only [if_true] at hinv2
      have ih2 := ih1 (out ++ [(e.a, e.s)]) (by simpa using hinv2)
      have r1 : (out.length + 1) * 16 ≤ 140737488355328 := by omega
      have r2 : out.length + 1 ≤ 9223372036854775807 := by omega
      have hz : szAll 2 [D.agg [.int .i64 e.a, .int .i64 e.s]] = true := rfl
      have hmm : (out ++ [(e.a, e.s)]).map iD = out.map iD ++ [.agg [.int .i64 e.a, .int .i64 e.s]] := by simp [iD]
      simp only [hmm, List.length_append, List.length_cons, List.length_nil, Nat.zero_add] at ih2
      clear ih ih1 hinv hinv2 hpl hall
      simp only [Qs.obs] at ih2 ⊢
      generalize q.es.map Ent.p = M1 at *
      generalize q.ts.map Tck.p = M2 at *
      generalize out.map iD = E at *
      generalize out.length = n at *
      simp [eqCells, T3, T4, T5, T9, T22, T23, T25, T27, T32, T34, T38, T40, T46, T49, T51, T54, T57, T66, T72, T74, T76, T77, T79, T81, T87, T89, T90, T92, T101, T107, T109, T119, T125, T128, T130, T133, T140, T148, T150, T151, CT, Ent.p, hS, hX, hen, hge, hne, r1, r2, hz, htl, hll]
      exact ih2
    | false =>
      rw [hT] at hge hinv2
      simp only [Bool.false_eq_true, if_false, List.nil_append] at hinv2
      have ih2 := ih1 out hinv2
      clear ih ih1 hinv hinv2 hpl hall
      simp only [Qs.obs] at ih2 ⊢
      generalize q.es.map Ent.p = M1 at *
      generalize q.ts.map Tck.p = M2 at *
      generalize out.map iD = E at *
      generalize out.length = n at *
      simp [eqCells, T3, T4, T5, T9, T22, T23, T25, T27, T32, T34, T38, T40, T46, T49, T51, T54, T57, T66, T72, T74, T76, T77, T79, T81, T87, T89, T90, T92, T101, T107, T109, T119, T125, T128, T130, T133, T140, T148, T150, T151, CT, Ent.p, hS, hX, hen, hge, hne]
      exact ih2
end Go.Proofs.YtdgpipoffcajgaaV
