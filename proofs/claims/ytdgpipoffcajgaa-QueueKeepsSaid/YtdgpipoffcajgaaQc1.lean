/- The queue's state; ranges over its maps; Credit. -/
import Derived.Test.YtdgpipoffcajgaaWcAA
import Derived.Test.YtdgpipoffcajgaaVD
set_option linter.unusedVariables false
set_option linter.unusedSimpArgs false
namespace Go.Proofs.YtdgpipoffcajgaaV
open Go.RowKit
attribute [local simp] TK.agg constAV evalAV EK.has EK.hasAll vecEls elsR AV.toD toDs AV.cells AV.one joinD TyI.zeroD OpR.of binIntF binStrF AV.isPtr ptrNil slNil mpNil nilE eqF negF posF binF pelF pvLoad pelSet pvStore boxLoad epLoad loadF boxStore storeF fieldAddrF fieldF epOf indexAddrF byteF indexF mapLen lenF cutF sliceF sliceN sliceX isSl slice3F fillF fillV arrFs buildF partsX landV buildSliceF roomB appVec appendF appMkF capF mmFrom mmF max2' min2' clearVec clearF convF unF pickF nilChkF extF ptrsOf callF makeSliceF sameKs sameD kindIs plainFs keyOk mapOb mapEs okV lookF lookupF putE putS mapPut mapUpdateF mapDel deleteF mapAll rangeM rangeF overV hitV nextO nextF entryM entryO entryF itOids builtinF capsOf allocF boxF bytesL bytesF byteTy strTy convertF makeFuncF mapNew makeMapF makeMapH opF reach reachOf AObj.live closedB nodupB packO packL packX backN backG backO obL backE frzX frzO AV.vids frzL landC sameObs landR touchF bitsW D.cells D.decEq D.decEqs AV.decEq AV.decEqs AObj.decEq AV.oids0 AV.oids AObj.oids renG renP AV.ren0 AV.ren envGet envPut envKeep obGet setEff putV St.put stepS keyChk chkD accD Ex.block AV.under AObj.under laysOf roomFor mkvO frzG szOk killO usedBy tidyS canL canS ghost ghostE normSt resOf allSome one0 resultsF finL finishL finish endF startEnv chkC backX comeC AV.flat0 rngC loopO layL endLp busyL idleL noRng rndSt rndEnd wpn_nil wpn_seq wpn_loop wpn_seq_exit wpn_loop_exit wpn_seq_ret wpn_loop_ret wpn_block wpn_post wpk_skip wpk_exit wpk_ret wpk_reg wpk_seq wpk_condT wpk_block wpk_loop wpk_pre wpk_post wop_nil wop_cons wop_guard St.know envSet cond_d cond_bool cond_int cond_str endE endQ freeB disj pushT bitsW int_beq int_bne eqS_def tbE fuelL_eq ann0_lays ann0_dd ann0_ro elsOf_dsl elsOf_dnils toNat_succ nn_succ pos_succ one_succ rng1 rng2 rng3 rng4 rng5 rng6 rng7 rng8 List.idxOf_cons wpk_rng rndK rndE
/-- An entry: its identity, its fragment's lists, its arrival, its ticket. -/
structure Ent where
  a : Int
  s : Int
  S : D
  X : D
  arr : Int
  tk : Int
def Ent.p (e : Ent) : D × D := (.agg [.int .i64 e.a, .int .i64 e.s], .agg [.int .i64 e.a, .int .i64 e.s, e.S, e.X, .int .i64 e.arr, .int .i64 e.tk])
structure Tck where
  n : Int
  a : Int
  s : Int
  u : Int
def Tck.d (t : Tck) : D := .agg [.int .i64 t.n, .int .i64 t.a, .int .i64 t.s, .int .i64 t.u]
def Tck.p (t : Tck) : D × D := (.int .i64 t.n, t.d)
structure Qs where
  la : Int
  lb : Int
  lc : Int
  es : List Ent
  bs : List Nat
  ck : Nat
  ts : List Tck
  cs : List Nat
  dk : Nat
  arr : Int
  iss : Int
  srv : Int
  now : Int
abbrev Qs.obs (q : Qs) : List AObj := [.box [.d (.int .i64 q.la), .d (.int .i64 q.lb), .d (.int .i64 q.lc), .mp 1, .mp 2, .d (.int .i64 q.arr), .d (.int .i64 q.iss), .d (.int .i64 q.srv), .d (.int .i64 q.now)], .mapd (q.es.map Ent.p) q.bs q.ck, .mapd (q.ts.map Tck.p) q.cs q.dk]
/-- The stamps of a map. -/
structure Stm (bs : List Nat) (ck n : Nat) : Prop where
  len : bs.length = n
  nd : bs.Nodup
  lt : ∀ b ∈ bs, b < ck
theorem stm_ok {es : List (D × D)} {bs : List Nat} {ck : Nat} (h : Stm bs ck es.length) (seen : List Nat) : nextOk ck seen ck (stEs es bs) = true := by
  unfold nextOk
  have hf := stEs_fst es bs h.len.symm
  have hlt : ∀ p ∈ stEs es bs, p.1 < ck := fun p hp => h.lt p.1 (by rw [← hf]; exact List.mem_map.2 ⟨p, hp, rfl⟩)
  rw [Bool.and_eq_true, List.all_eq_true]
  refine ⟨fun p hp => by simpa using hlt p hp, ?_⟩
  cases hl : stEs es bs with
  | nil => simp
  | cons p r =>
    have := hlt p (by rw [hl]; simp)
    simp [this]
theorem stm_entry {es : List (D × D)} {bs : List Nat} {ck : Nat} (h : Stm bs ck es.length) {p : Nat × D × D} (hp : p ∈ stEs es bs) : entryL p.1 (stEs es bs) = some (.tup [.d p.2.1, .d p.2.2]) :=
  entryL_get (by rw [stEs_fst es bs h.len.symm]; exact h.nd) hp
/-- A sum over what a range has left. -/
def sumN (f : D × D → Nat) : List (Nat × D × D) → Nat
  | [] => 0
  | p :: l => f p.2 + sumN f l
theorem sumN_filter (f : D × D → Nat) : ∀ {l : List (Nat × D × D)} {p : Nat × D × D}, (l.map (·.1)).Nodup → p ∈ l → sumN f l = f p.2 + sumN f (l.filter fun q => decide (q.1 ≠ p.1))
  | q :: l, p, hn, hp => by
    simp only [List.map_cons, List.nodup_cons] at hn
    rcases List.mem_cons.1 hp with rfl | hp
    · have : (l.filter fun q => decide (q.1 ≠ p.1)) = l := List.filter_eq_self.2 fun q hq => by
        have : q.1 ≠ p.1 := fun e => hn.1 (e ▸ List.mem_map.2 ⟨q, hq, rfl⟩)
        simp [this]
      rw [List.filter_cons_of_neg (by simp), this]
      rfl
    · have hne : q.1 ≠ p.1 := fun e => hn.1 (e ▸ List.mem_map.2 ⟨p, hp, rfl⟩)
      rw [List.filter_cons_of_pos (by simpa using hne)]
      simp only [sumN]
      rw [sumN_filter f hn.2 hp]
      omega
theorem left_nodup {l : List (Nat × D × D)} (h : (l.map (·.1)).Nodup) (seen : List Nat) : ((leftE seen l).map (·.1)).Nodup :=
  h.sublist (List.Sublist.map _ List.filter_sublist)
theorem sumN_left (f : D × D → Nat) {l : List (Nat × D × D)} (hn : (l.map (·.1)).Nodup) {seen : List Nat} {p : Nat × D × D} (hp : p ∈ leftE seen l) : sumN f (leftE seen l) = f p.2 + sumN f (leftE (seen ++ [p.1]) l) := by
  rw [leftE_snoc]
  exact sumN_filter f (left_nodup hn seen) hp
theorem sumN_st (f : D × D → Nat) : ∀ (es : List (D × D)) (bs : List Nat), es.length = bs.length → sumN f (stEs es bs) = (es.map f).sum
  | [], [], _ => rfl
  | [], _ :: _, h => by simp at h
  | _ :: _, [], h => by simp at h
  | p :: es, b :: bs, h => by
    have := sumN_st f es bs (by simpa using h)
    simp only [stEs, sumN, this, List.map_cons, List.sum_cons]
theorem sumN_le (f : D × D → Nat) (hf : ∀ p, f p ≤ 1) : ∀ (l : List (Nat × D × D)), sumN f l ≤ l.length
  | [] => Nat.le_refl _
  | p :: l => by
    have := sumN_le f hf l
    have := hf p.2
    simp only [sumN, List.length_cons]; omega
/-- How many entries an agent has. -/
def own (q : Qs) (ag : Int) : Nat := (q.es.filter fun e => decide (e.a = ag)).length
def ownF (ag : Int) (p : D × D) : Nat := match p.1 with
  | .agg [.int .i64 a, _] => if a = ag then 1 else 0
  | _ => 0
theorem own_sum (q : Qs) (ag : Int) : ((q.es.map Ent.p).map (ownF ag)).sum = own q ag := by
  unfold own
  induction q.es with
  | nil => rfl
  | cons e l ih =>
    simp only [List.map_cons, List.sum_cons, ih, Ent.p, ownF]
    by_cases h : e.a = ag
    · simp [h]; omega
    · simp [h]
structure Qs.ok (q : Qs) : Prop where
  eb : Stm q.bs q.ck q.es.length
  tb : Stm q.cs q.dk q.ts.length
  el : q.es.length < 1000
  tl : q.ts.length < 1000
def perm (ag : Int) : Prop := 1 ≤ ag ∧ ag ≤ 1048576
instance (ag : Int) : Decidable (perm ag) := by unfold perm; infer_instance
theorem permitted_run (ag : Int) : run CC 33 [.d (.int .i64 ag)] [] = some (.d (.bool (decide (perm ag))), []) := by
  refine run_code (s := s33 0) rfl rfl rfl (by kernel_rfl) ?_
  unfold perm
  by_cases h1 : 1 ≤ ag <;> by_cases h2 : ag ≤ 1048576 <;> simp [s33, eqCells, T3, T4, T5, T9, T22, T23, T25, T27, T32, T34, T38, T40, T46, T49, T51, T54, T57, T66, T72, T74, T76, T77, T79, T81, T87, T89, T90, T92, T101, T107, T109, T119, T125, T128, T130, T133, T140, T148, T150, T151, CT, h1, h2]
def crd (q : Qs) (ag : Int) : Int := if perm ag then max2' 0 (min2' (q.la - q.es.length) (q.lb - own q ag)) else 0
set_option maxRecDepth 100000 in
set_option maxHeartbeats 4000000 in
theorem credit14_run (q : Qs) (hq : q.ok) (ag : Int) (hl : -1000 < q.la ∧ q.la < 100000 ∧ -1000 < q.lb ∧ q.lb < 100000) : run CC 14 [.ptr 0 0, .d (.int .i64 ag)] q.obs = some (.d (.int .i64 (crd q ag)), q.obs) := by
  refine run_code (s := s14 3) rfl rfl rfl (by kernel_rfl) ?_
  have hp := permitted_run ag
  by_cases hpm : perm ag
  rotate_left
  · simp only [hpm, decide_false] at hp
    simp [s14, eqCells, T3, T4, T5, T9, T22, T23, T25, T27, T32, T34, T38, T40, T46, T49, T51, T54, T57, T66, T72, T74, T76, T77, T79, T81, T87, T89, T90, T92, T101, T107, T109, T119, T125, T128, T130, T133, T140, T148, T150, T151, CT, crd, hp, hpm]
  simp only [hpm, decide_true] at hp
  simp [s14, eqCells, T3, T4, T5, T9, T22, T23, T25, T27, T32, T34, T38, T40, T46, T49, T51, T54, T57, T66, T72, T74, T76, T77, T79, T81, T87, T89, T90, T92, T101, T107, T109, T119, T125, T128, T130, T133, T140, T148, T150, T151, CT, hp]
  have hes : (q.es.map Ent.p).length = q.es.length := by simp
  have hst : Stm q.bs q.ck (q.es.map Ent.p).length := by rw [hes]; exact hq.eb
  have hfst := stEs_fst (q.es.map Ent.p) q.bs hst.len.symm
  have hnd : ((stEs (q.es.map Ent.p) q.bs).map (·.1)).Nodup := by rw [hfst]; exact hst.nd
  have hsum : sumN (ownF ag) (stEs (q.es.map Ent.p) q.bs) = own q ag := by rw [sumN_st _ _ _ hst.len.symm, own_sum]
  have hown : own q ag ≤ q.es.length := by unfold own; exact List.length_filter_le _ _
  have hel := hq.el
  refine wlp_inv (S := fun p : List Nat × Nat => ⟨[(0, .ptr 0 0), (1, .d (.int .i64 ag)), (5, .d (.int .i64 p.2)), (18, .it 3)], q.obs ++ [.iter (some 1) q.ck p.1 q.ck]⟩) (m := fun p => (leftE p.1 (stEs (q.es.map Ent.p) q.bs)).length) (Inv := fun p => p.2 + sumN (ownF ag) (leftE p.1 (stEs (q.es.map Ent.p) q.bs)) = own q ag) ?_ ([], 0) (by simp only [leftE_nil, hsum]; omega)
  rintro ⟨seen, n⟩ hinv ih
  rw [e14_1]
  unfold c14_1
  rw [wpk_post, wpk_seq, wpk_reg]
  simp only at hinv ⊢
  refine wop_next (o := 3) (m := 1) (since := q.ck) (last := q.ck) (ck := q.ck) (seen := seen) (l := stEs (q.es.map Ent.p) q.bs) rfl rfl rfl (stm_ok hst seen) (fun h0 => ?_) fun p hp' => ?_
  · rw [h0] at hinv
    simp only [sumN, Nat.add_zero] at hinv
    subst hinv
    have w1 : IntKind.i64.wrap (q.la - (q.es.length : Int)) = q.la - q.es.length := wrap64 (by omega) (by omega)
    have w2 : IntKind.i64.wrap (q.lb - (own q ag : Int)) = q.lb - own q ag := wrap64 (by omega) (by omega)
    simp [eqCells, T3, T4, T5, T9, T22, T23, T25, T27, T32, T34, T38, T40, T46, T49, T51, T54, T57, T66, T72, T74, T76, T77, T79, T81, T87, T89, T90, T92, T101, T107, T109, T119, T125, T128, T130, T133, T140, T148, T150, T151, CT, crd, hpm, w1, w2]
  · have hm := leftE_mem hp'
    have he := stm_entry hst hm.1
    have hin : p.2 ∈ q.es.map Ent.p := by
      have : p.2 ∈ (stEs (q.es.map Ent.p) q.bs).map (·.2) := List.mem_map.2 ⟨p, hm.1, rfl⟩
      rw [stEs_snd (q.es.map Ent.p) q.bs hst.len.symm] at this
      exact this
    obtain ⟨e, heq, hpe⟩ := List.mem_map.1 hin
    have hs := sumN_left (ownF ag) hnd hp'
    have ih1 := fun n' h => ih (seen ++ [p.1], n') h (leftE_lt hp')
    obtain ⟨b, pr⟩ := p
    simp only at hpe hs he ih1
    subst hpe
    simp only [Ent.p] at he hs
    by_cases hag : e.a = ag
    · have hf : ownF ag (Ent.p e) = 1 := by simp [ownF, Ent.p, hag]
      simp only [Ent.p] at hf
      rw [hf] at hs
      have hle := sumN_le (ownF ag) (fun p => by unfold ownF; split <;> (try split) <;> simp) (leftE (seen ++ [b]) (stEs (q.es.map Ent.p) q.bs))
      have w1 : IntKind.i64.wrap ((n : Int) + 1) = ((n + 1 : Nat) : Int) := by rw [wrap64 (by omega) (by omega)]; omega
      have ih2 := ih1 (n + 1) (by omega)
      clear ih ih1
      generalize hn1 : n + 1 = n1 at *
      simp [eqCells, T3, T4, T5, T9, T22, T23, T25, T27, T32, T34, T38, T40, T46, T49, T51, T54, T57, T66, T72, T74, T76, T77, T79, T81, T87, T89, T90, T92, T101, T107, T109, T119, T125, T128, T130, T133, T140, T148, T150, T151, CT, Ent.p, he, hag, w1]
      exact ih2
    · have hf : ownF ag (Ent.p e) = 0 := by simp [ownF, Ent.p, hag]
      simp only [Ent.p] at hf
      rw [hf] at hs
      have ih2 := ih1 n (by omega)
      clear ih ih1
      simp [eqCells, T3, T4, T5, T9, T22, T23, T25, T27, T32, T34, T38, T40, T46, T49, T51, T54, T57, T66, T72, T74, T76, T77, T79, T81, T87, T89, T90, T92, T101, T107, T109, T119, T125, T128, T130, T133, T140, T148, T150, T151, CT, Ent.p, he, hag]
      exact ih2
end Go.Proofs.YtdgpipoffcajgaaV
