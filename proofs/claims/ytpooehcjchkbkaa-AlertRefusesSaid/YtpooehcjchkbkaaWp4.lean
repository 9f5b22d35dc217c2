/- Observe. -/
import Derived.Test.YtpooehcjchkbkaaWp3
set_option linter.unusedVariables false
set_option linter.unusedSimpArgs false
namespace Go.Proofs.YtpooehcjchkbkaaV
open Go.RowKit
attribute [local simp] TK.agg constAV evalAV EK.has EK.hasAll vecEls elsR AV.toD toDs AV.cells AV.one joinD TyI.zeroD OpR.of binIntF binStrF AV.isPtr ptrNil slNil mpNil nilE eqF negF posF binF pelF pvLoad pelSet pvStore boxLoad epLoad loadF boxStore storeF fieldAddrF fieldF epOf indexAddrF byteF indexF mapLen lenF cutF sliceF sliceN sliceX isSl slice3F fillF fillV arrFs buildF partsX landV buildSliceF roomB appVec appendF appMkF capF mmFrom mmF max2' min2' clearVec clearF convF unF pickF nilChkF extF ptrsOf callF makeSliceF sameKs sameD kindIs plainFs keyOk mapOb mapEs okV lookF lookupF putE putS mapPut mapUpdateF mapDel deleteF mapAll rangeM rangeF overV hitV nextO nextF entryM entryO entryF itOids builtinF capsOf allocF boxF bytesL bytesF byteTy strTy convertF makeFuncF mapNew makeMapF makeMapH opF reach reachOf AObj.live closedB nodupB packO packL packX backN backG backO obL backE frzX frzO AV.vids frzL landC sameObs landR touchF bitsW D.cells D.decEq D.decEqs AV.decEq AV.decEqs AObj.decEq AV.oids0 AV.oids AObj.oids renG renP AV.ren0 AV.ren envGet envPut envKeep obGet setEff putV St.put stepS keyChk chkD accD Ex.block AV.under AObj.under laysOf roomFor mkvO frzG szOk killO usedBy tidyS canL canS ghost ghostE normSt resOf allSome one0 resultsF finL finishL finish endF startEnv chkC backX comeC AV.flat0 rngC loopO layL endLp busyL idleL noRng rndSt rndEnd wpn_nil wpn_seq wpn_loop wpn_seq_exit wpn_loop_exit wpn_seq_ret wpn_loop_ret wpn_block wpn_post wpk_skip wpk_exit wpk_ret wpk_reg wpk_seq wpk_condT wpk_block wpk_loop wpk_pre wpk_post wop_nil wop_cons wop_guard St.know envSet cond_d cond_bool cond_int cond_str endE endQ freeB disj pushT bitsW int_beq int_bne eqS_def tbE fuelL_eq ann0_lays ann0_dd ann0_ro elsOf_dsl elsOf_dnils toNat_succ nn_succ pos_succ one_succ rng1 rng2 rng3 rng4 rng5 rng6 rng7 rng8 List.idxOf_cons wpk_rng rndK rndE
theorem wlp_inv2 {C : Pg} {ks : List Fr} {K : Ex → St → Prop} {b : SC} {σ : Type} {st : St} (S : σ → St) (m : σ → Nat) (Inv : σ → Prop) (h : ∀ s, Inv s → (∀ s', Inv s' → m s' < m s → wlp C b (S s') ks K) → wpk C b (S s) (.loop b :: ks) K) (s : σ) (hs : Inv s) (hst : st = S s) : wlp C b st ks K := hst ▸ wlp_inv S m Inv h s hs
def Smp.ok (s : Smp) : Prop := 0 ≤ s.t ∧ s.t ≤ 1048576 ∧ 0 ≤ s.e ∧ s.e ≤ s.t
instance (s : Smp) : Decidable s.ok := by unfold Smp.ok; infer_instance
abbrev zS : Smp := ⟨⟨#[]⟩, ⟨#[]⟩, 0, 0⟩
def smpOf (M : Mon) (l : List Smp) : Smp := match fndS M l 0 with
  | none => zS
  | some i => l.getD i zS
theorem fndS_lt {M : Mon} : ∀ {l : List Smp} {k i : Nat}, fndS M l k = some i → k ≤ i ∧ i < k + l.length
  | [], k, i, h => by cases h
  | s :: l, k, i, h => by
    unfold fndS at h
    split at h
    · injection h with h; simp only [List.length_cons]; omega
    · have := fndS_lt h; simp only [List.length_cons]; omega
theorem smpOf_ok {M : Mon} {l : List Smp} (h : ∀ s ∈ l, s.ok) : (smpOf M l).ok := by
  unfold smpOf
  cases hf : fndS M l 0 with
  | none => exact (show zS.ok by decide)
  | some i =>
    have := (fndS_lt hf).2
    simp only
    rw [List.getD_eq_getElem?_getD, List.getElem?_eq_getElem (by omega)]
    exact h _ (List.getElem_mem _)
/-- A rule's monitor behind the samples. -/
def stepM (l : List Smp) (M : Mon) : Mon := M.obs (smpOf M l).e (smpOf M l).t
structure Trn where
  (nm : ByteArray) (sl b a : Int)
def Trn.d (x : Trn) : D := .agg [.str x.nm, .int .i64 x.sl, .int .i64 x.b, .int .i64 x.a]
def trn1 (l : List Smp) (slot : Int) (M : Mon) : List Trn := if (stepM l M).state = M.state then [] else [⟨M.rul.name, slot, M.state, (stepM l M).state⟩]
def trnL (l : List Smp) (slot : Int) (Ms : List Mon) : List Trn := Ms.flatMap (trn1 l slot)
abbrev monLs (Ms : List Mon) : List D := Ms.map fun M => D.agg (monD M)
/-- What a monitor must be like. -/
structure Mon.gd (M : Mon) : Prop where
  inv : M.inv
  hl : M.hist.length < 200
  ok : okH M.hist
  sT : sT M.hist ≤ 4000000000
set_option maxRecDepth 100000 in
set_option maxHeartbeats 4000000 in
theorem obs29_bad (n : Nat) (slot : Int) (L : List D) (A : D) (l : List Smp) (hA : elsOf (.d A) = some (l.map Smp.d)) (hl : l.length < 1000) (hb : ∃ s ∈ l, ¬ s.ok) :
    run CC 29 [.ptr 0 0, .d A] [.box [.vs 1 0 1035 0 n, .d (.int .i64 slot)], .vec 0 false false 91 1035 L] = some (.tup [.d .nils, .d (.int .i64 2)], [.box [.vs 1 0 1035 0 n, .d (.int .i64 slot)], .vec 0 false false 91 1035 L]) := by
  refine run_code (s := s29 2) rfl rfl rfl (by kernel_rfl) ?_
  have hg := fun j hj => smp_get l (j := j) hj
  have hll : (l.map Smp.d).length = l.length := by simp
  obtain ⟨s, hs, hsb⟩ := hb
  obtain ⟨J, hJ, rfl⟩ := List.getElem_of_mem hs
  generalize hE : l.map Smp.d = E at *
  simp [s29, eqCells, T3, T4, T5, T9, T23, T25, T27, T32, T33, T35, T39, T50, T52, T57, T59, T64, T65, T66, T70, T71, T77, T81, T83, T88, T89, T91, T95, T97, T99, T100, T112, CT, hA, hll]
  refine wlp_inv (S := fun j : Nat => ⟨[(0, .ptr 0 0), (1, .d A), (17, .d A), (18, .d (.int .i64 l.length)), (19, .d (.int .i64 j))], [.box [.vs 1 0 1035 0 n, .d (.int .i64 slot)], .vec 0 false false 91 1035 L]⟩) (m := fun j => l.length - j) (Inv := fun j => j ≤ J) ?_ 0 (Nat.zero_le _)
  rintro j hj ih
  rw [e29_1]
  have hlt : j < l.length := by omega
  have hx := hg j hlt
  have hEj : j < E.length := by omega
  have hEe := (List.getElem?_eq_some_iff.1 hx).2
  have w1 : IntKind.i64.wrap ((j : Int) + 1) = (j : Int) + 1 := wrap64 (by omega) (by omega)
  have p1 : (j : Int) < l.length := by omega
  have hne : j ≠ J → (l[j]).ok ∨ ¬ (l[j]).ok := fun _ => Decidable.em _
  by_cases hok : (l[j]).ok
  · have hjJ : j ≠ J := fun e => by subst e; exact hsb hok
    have ih2 := ih (j + 1) (by omega) (by omega)
    clear ih hg hne
    generalize l[j] = y at *
    simp only [Smp.d] at hx hEe
    obtain ⟨o1, o2, o3, o4⟩ := hok
    have n1 : ¬ y.t < 0 := by omega
    have n2 : ¬ 1048576 < y.t := by omega
    have n3 : ¬ y.e < 0 := by omega
    have n4 : ¬ y.t < y.e := by omega
    try simp at ih2
    simp [c29_1, eqCells, T3, T4, T5, T9, T23, T25, T27, T32, T33, T35, T39, T50, T52, T57, T59, T64, T65, T66, T70, T71, T77, T81, T83, T88, T89, T91, T95, T97, T99, T100, T112, CT, hA, hll, hx, hEj, hEe, p1, w1, hlt, n1, n2, n3, n4]
    exact ih2
  · clear ih hg hne hsb
    generalize l[j] = y at *
    simp only [Smp.d] at hx hEe
    by_cases n1 : y.t < 0
    · simp [c29_1, eqCells, T3, T4, T5, T9, T23, T25, T27, T32, T33, T35, T39, T50, T52, T57, T59, T64, T65, T66, T70, T71, T77, T81, T83, T88, T89, T91, T95, T97, T99, T100, T112, CT, hA, hll, hx, hEj, hEe, p1, w1, hlt, n1]
    by_cases n2 : 1048576 < y.t
    · simp [c29_1, eqCells, T3, T4, T5, T9, T23, T25, T27, T32, T33, T35, T39, T50, T52, T57, T59, T64, T65, T66, T70, T71, T77, T81, T83, T88, T89, T91, T95, T97, T99, T100, T112, CT, hA, hll, hx, hEj, hEe, p1, w1, hlt, n1, n2]
    by_cases n3 : y.e < 0
    · simp [c29_1, eqCells, T3, T4, T5, T9, T23, T25, T27, T32, T33, T35, T39, T50, T52, T57, T59, T64, T65, T66, T70, T71, T77, T81, T83, T88, T89, T91, T95, T97, T99, T100, T112, CT, hA, hll, hx, hEj, hEe, p1, w1, hlt, n1, n2, n3]
    have n4 : y.t < y.e := by unfold Smp.ok at hok; omega
    simp [c29_1, eqCells, T3, T4, T5, T9, T23, T25, T27, T32, T33, T35, T39, T50, T52, T57, T59, T64, T65, T66, T70, T71, T77, T81, T83, T88, T89, T91, T95, T97, T99, T100, T112, CT, hA, hll, hx, hEj, hEe, p1, w1, hlt, n1, n2, n3, n4]
theorem monLs_at {Ms : List Mon} {i : Nat} (h : i < Ms.length) : atM (monLs Ms) i Ms[i] := ⟨by simpa using h, by simp [h]⟩
/-- Behind the first i of the monitors. -/
def midM (l : List Smp) (Ms : List Mon) (i : Nat) : List Mon := (Ms.take i).map (stepM l) ++ Ms.drop i
theorem midM_len (l : List Smp) (Ms : List Mon) {i : Nat} (h : i ≤ Ms.length) : (midM l Ms i).length = Ms.length := by simp [midM]; omega
theorem midM_get (l : List Smp) (Ms : List Mon) {i : Nat} (h : i < Ms.length) (h' : i < (midM l Ms i).length) : (midM l Ms i)[i] = Ms[i] := by
  simp [midM, List.getElem_append_right, Nat.min_eq_left (Nat.le_of_lt h)]
theorem set_mid2 {α : Type} (A : List α) (x y : α) (R : List α) {n : Nat} (h : n = A.length) : (A ++ x :: R).set n y = A ++ y :: R := by
  subst h
  induction A with
  | nil => rfl
  | cons a A ih => simp only [List.cons_append, List.length_cons, List.set_cons_succ, ih]
theorem midM_set (l : List Smp) (Ms : List Mon) {i : Nat} (h : i < Ms.length) : (monLs (midM l Ms i)).set i (.agg (monD (stepM l Ms[i]))) = monLs (midM l Ms (i + 1)) := by
  unfold midM monLs
  rw [List.drop_eq_getElem_cons h, List.take_succ_eq_append_getElem h]
  simp only [List.map_append, List.map_cons, List.map_nil, List.append_assoc, List.singleton_append]
  exact set_mid2 _ _ _ _ (by simp; omega)
set_option maxRecDepth 100000 in
set_option maxHeartbeats 16000000 in
theorem obs29_run (Ms : List Mon) (hMs : ∀ M ∈ Ms, M.gd) (hn : Ms.length < 1000) (slot : Int) (hsl : 0 ≤ slot ∧ slot ≤ 1048576) (A : D) (l : List Smp) (hA : elsOf (.d A) = some (l.map Smp.d)) (hl : l.length < 1000) (hok : ∀ s ∈ l, s.ok) :
    run CC 29 [.ptr 0 0, .d A] [.box [.vs 1 0 1035 0 Ms.length, .d (.int .i64 slot)], .vec 0 false false 91 1035 (monLs Ms)] = some (.tup [.d (.sl ((trnL l slot Ms).map Trn.d)), .d (.int .i64 0)], [.box [.vs 1 0 1035 0 Ms.length, .d (.int .i64 (slot + 1))], .vec 0 false false 91 1035 (monLs (Ms.map (stepM l)))]) := by
  refine run_code (s := s29 2) rfl rfl rfl (by kernel_rfl) ?_
  have hg := fun j hj => smp_get l (j := j) hj
  have hll : (l.map Smp.d).length = l.length := by simp
  have hidx := fun (M : Mon) (L : List D) (i : Nat) (hL : atM L i M) => idx41_run M L i hL A l hA hl
  have hso := fun (M : Mon) => smpOf_ok (M := M) hok
  have w0 : IntKind.i64.wrap (slot + 1) = slot + 1 := wrap64 (by omega) (by omega)
  have n0 : ¬ 1048576 < slot := by omega
  have hfin : monLs (midM l Ms Ms.length) = monLs (Ms.map (stepM l)) := by unfold midM; rw [List.take_length, List.drop_length, List.append_nil]
  have hst0 : monLs (midM l Ms 0) = monLs Ms := rfl
  obtain ⟨LF, hLF⟩ : ∃ LF, LF = monLs (Ms.map (stepM l)) := ⟨_, rfl⟩
  rw [← hLF] at hfin ⊢
  generalize hE : l.map Smp.d = E at *
  simp [s29, eqCells, T3, T4, T5, T9, T23, T25, T27, T32, T33, T35, T39, T50, T52, T57, T59, T64, T65, T66, T70, T71, T77, T81, T83, T88, T89, T91, T95, T97, T99, T100, T112, CT, hA, hll]
  refine wlp_inv (S := fun j : Nat => ⟨[(0, .ptr 0 0), (1, .d A), (17, .d A), (18, .d (.int .i64 l.length)), (19, .d (.int .i64 j))], [.box [.vs 1 0 1035 0 Ms.length, .d (.int .i64 slot)], .vec 0 false false 91 1035 (monLs Ms)]⟩) (m := fun j => l.length - j) (Inv := fun j => j ≤ l.length) ?_ 0 (Nat.zero_le _)
  rintro j hj ih
  rw [e29_1]
  by_cases hlt : j < l.length
  · have hx := hg j hlt
    have hEj : j < E.length := by omega
    have hEe := (List.getElem?_eq_some_iff.1 hx).2
    have w1 : IntKind.i64.wrap ((j : Int) + 1) = (j : Int) + 1 := wrap64 (by omega) (by omega)
    have p1 : (j : Int) < l.length := by omega
    have hy := hok _ (List.getElem_mem hlt)
    have ih2 := ih (j + 1) (by omega) (by omega)
    clear ih hg hidx hso
    generalize l[j] = y at *
    simp only [Smp.d] at hx hEe
    obtain ⟨o1, o2, o3, o4⟩ := hy
    have n1 : ¬ y.t < 0 := by omega
    have n2 : ¬ 1048576 < y.t := by omega
    have n3 : ¬ y.e < 0 := by omega
    have n4 : ¬ y.t < y.e := by omega
    generalize monLs Ms = LM at *
    try simp at ih2
    simp [c29_1, eqCells, T3, T4, T5, T9, T23, T25, T27, T32, T33, T35, T39, T50, T52, T57, T59, T64, T65, T66, T70, T71, T77, T81, T83, T88, T89, T91, T95, T97, T99, T100, T112, CT, hA, hll, hx, hEj, hEe, p1, w1, hlt, n1, n2, n3, n4]
    exact ih2
  have e : j = l.length := by omega
  subst e
  clear ih
  have hfin' : (trnL l slot (Ms.take Ms.length)) = trnL l slot Ms := by rw [List.take_length]
  have hgl : ∀ i, i ≤ Ms.length → (monLs (midM l Ms i)).length = Ms.length := fun i hi => by rw [List.length_map, midM_len l Ms hi]
  have htrl : ∀ i, (trnL l slot (Ms.take i)).length ≤ i := fun i => by
    have : ∀ L : List Mon, (trnL l slot L).length ≤ L.length := fun L => by
      induction L with
      | nil => simp [trnL]
      | cons M L ih =>
        have h1 : (trn1 l slot M).length ≤ 1 := by unfold trn1; split <;> simp
        simp only [trnL, List.flatMap_cons, List.length_append, List.length_cons] at ih ⊢
        omega
    have := this (Ms.take i)
    rw [List.length_take] at this; omega
  simp [c29_1, eqCells, T3, T4, T5, T9, T23, T25, T27, T32, T33, T35, T39, T50, T52, T57, T59, T64, T65, T66, T70, T71, T77, T81, T83, T88, T89, T91, T95, T97, T99, T100, T112, CT, n0]
  refine wlp_inv2 (S := fun i : Nat => ⟨[(0, .ptr 0 0), (1, .d A), (8, .vs 2 0 4 0 (trnL l slot (Ms.take i)).length), (53, .d (.int .i64 Ms.length)), (54, .d (.int .i64 i))], [.box [.vs 1 0 1035 0 Ms.length, .d (.int .i64 slot)], .vec 0 false false 91 1035 (monLs (midM l Ms i)), .vec 0 true false 83 4 ((trnL l slot (Ms.take i)).map Trn.d)]⟩) (m := fun i => Ms.length - i) (Inv := fun i => i ≤ Ms.length) ?_ 0 (Nat.zero_le _) (by simp only [hst0]; rfl)
  rintro i hi ih
  rw [e29_2]
  by_cases hlt : i < Ms.length
  · have hml := midM_len l Ms (Nat.le_of_lt hlt)
    have hme := midM_get l Ms hlt (by omega)
    have hat : atM (monLs (midM l Ms i)) i Ms[i] := by
      have := monLs_at (Ms := midM l Ms i) (i := i) (by omega)
      rw [hme] at this; exact this
    have hix := hidx Ms[i] (monLs (midM l Ms i)) i hat
    have hMg := hMs _ (List.getElem_mem hlt)
    have hss := hso Ms[i]
    have hsT := sT_app Ms[i].hist [((smpOf Ms[i] l).e, (smpOf Ms[i] l).t)]
    simp only [sT] at hsT
    obtain ⟨o1, o2, o3, o4⟩ := hss
    have h38 := obs38p_run Ms[i] (monLs (midM l Ms i)) i hat (smpOf Ms[i] l).e (smpOf Ms[i] l).t hMg.inv.rg hMg.inv.seen (by have := hMg.hl; omega) hMg.inv.held (fun a ha => by
      rcases List.mem_append.1 ha with h | h
      · exact hMg.ok a h
      · simp at h; subst h; exact ⟨o3, o4⟩) (by have := hMg.sT; omega)
    have hset := midM_set l Ms hlt
    change (monLs (midM l Ms i)).set i (.agg (monD (Ms[i].obs (smpOf Ms[i] l).e (smpOf Ms[i] l).t))) = _ at hset
    rw [hset] at h38
    have hstep : Ms[i].obs (smpOf Ms[i] l).e (smpOf Ms[i] l).t = stepM l Ms[i] := rfl
    rw [hstep] at h38
    have hat2 : atM (monLs (midM l Ms (i + 1))) i (stepM l Ms[i]) := by
      rw [← hset]
      exact atM_set hat.lt _
    have hnm : (stepM l Ms[i]).rul.name = Ms[i].rul.name := by unfold stepM; rw [obs_rul]
    have ih2 := ih (i + 1) (by omega) (by omega)
    have htr : trnL l slot (Ms.take (i + 1)) = trnL l slot (Ms.take i) ++ trn1 l slot Ms[i] := by
      unfold trnL; rw [List.take_succ_eq_append_getElem hlt, List.flatMap_append]; simp
    have w1 : IntKind.i64.wrap ((i : Int) + 1) = (i : Int) + 1 := wrap64 (by omega) (by omega)
    have p1 : (i : Int) < Ms.length := by omega
    have hb1 := hat.lt
    have hb2 := hat.get
    have hb3 := hat.e hat.lt
    have hc1 := hat2.lt
    have hc2 := hat2.get
    have hc3 := hat2.e hat2.lt
    have k1 := md_g1034 Ms[i]
    have k2 := md_e k1 (by rw [md_len]; omega)
    have k3 := md_g0 (stepM l Ms[i])
    have k4 := md_e k3 (by rw [md_len]; omega)
    rw [hnm] at k3 k4
    have ml1 := md_len Ms[i]
    have ml2 := md_len (stepM l Ms[i])
    have gl1 := hgl i (by omega)
    have gl2 := hgl (i + 1) (by omega)
    have htrl1 := htrl i
    have htk : ((trnL l slot (Ms.take i)).map Trn.d).take (trnL l slot (Ms.take i)).length = (trnL l slot (Ms.take i)).map Trn.d := List.take_of_length_le (by simp)
    have hTl : ((trnL l slot (Ms.take i)).map Trn.d).length = (trnL l slot (Ms.take i)).length := by simp
    have r1 : ((trnL l slot (Ms.take i)).length + 1) * 40 ≤ 140737488355328 := by omega
    have r2 : (trnL l slot (Ms.take i)).length + 1 ≤ 9223372036854775807 := by omega
    have hz : szAll 4 [D.agg [.str Ms[i].rul.name, .int .i64 slot, .int .i64 Ms[i].state, .int .i64 (stepM l Ms[i]).state]] = true := rfl
    obtain ⟨sm, hsm⟩ : ∃ sm, sm = smpOf Ms[i] l := ⟨_, rfl⟩
    rw [← hsm] at h38
    have hcs : (fndS Ms[i] l 0 = none ∧ sm = zS) ∨ ∃ k, ∃ hk : k < l.length, fndS Ms[i] l 0 = some k ∧ sm = l[k] := by
      unfold smpOf at hsm
      cases hf : fndS Ms[i] l 0 with
      | none => rw [hf] at hsm; exact .inl ⟨rfl, hsm⟩
      | some k =>
        have hk := (fndS_lt hf).2
        rw [hf] at hsm
        simp only at hsm
        rw [List.getD_eq_getElem?_getD, List.getElem?_eq_getElem (by omega)] at hsm
        exact .inr ⟨k, by omega, rfl, hsm⟩
    unfold trn1 at htr
    clear ih hidx hso hMg hsT hgl htrl hset hstep hnm hsm o1 o2 o3 o4 hMs hfin' hLF hme
    generalize monLs (midM l Ms (i + 1)) = L2 at *
    generalize monLs (midM l Ms i) = L1 at *
    generalize stepM l Ms[i] = M2 at *
    generalize Ms[i] = M1 at *
    rcases hcs with ⟨hf, rfl⟩ | ⟨k, hk, hf, rfl⟩
    · rw [hf] at hix
      simp only [oI] at hix
      by_cases hst : M2.state = M1.state
      · rw [if_pos hst, List.append_nil] at htr
        rw [htr] at ih2
        rw [hst] at h38
        generalize (trnL l slot (Ms.take i)).map Trn.d = T at *
        generalize (trnL l slot (Ms.take i)).length = tl at *
        try simp at ih2
        simp [c29_2, eqCells, T3, T4, T5, T9, T23, T25, T27, T32, T33, T35, T39, T50, T52, T57, T59, T64, T65, T66, T70, T71, T77, T81, T83, T88, T89, T91, T95, T97, T99, T100, T112, CT, hb1, hb2, hb3, hc1, hc2, hc3, k1, k2, k3, k4, ml1, ml2, gl1, gl2, hix, h38, p1, w1, hlt, hst]
        exact ih2
      · rw [if_neg hst] at htr
        rw [htr, List.map_append] at ih2
        simp only [List.map_cons, List.map_nil, Trn.d, List.length_append, List.length_cons, List.length_nil, Nat.zero_add] at ih2
        generalize (trnL l slot (Ms.take i)).map Trn.d = T at *
        generalize (trnL l slot (Ms.take i)).length = tl at *
        try simp at ih2
        simp [c29_2, eqCells, T3, T4, T5, T9, T23, T25, T27, T32, T33, T35, T39, T50, T52, T57, T59, T64, T65, T66, T70, T71, T77, T81, T83, T88, T89, T91, T95, T97, T99, T100, T112, CT, hb1, hb2, hb3, hc1, hc2, hc3, k1, k2, k3, k4, ml1, ml2, gl1, gl2, hix, h38, p1, w1, hlt, hst, htk, hTl, r1, r2, hz]
        exact ih2
    · rw [hf] at hix
      simp only [oI] at hix
      have hx := hg k hk
      have hEk : k < E.length := by omega
      have hEe := (List.getElem?_eq_some_iff.1 hx).2
      have q1 : (k : Int) < l.length := by omega
      have q2 : (0 : Int) ≤ k := by omega
      simp only [Smp.d] at hx hEe
      clear hg
      generalize l[k] = y at *
      by_cases hst : M2.state = M1.state
      · rw [if_pos hst, List.append_nil] at htr
        rw [htr] at ih2
        rw [hst] at h38
        generalize (trnL l slot (Ms.take i)).map Trn.d = T at *
        generalize (trnL l slot (Ms.take i)).length = tl at *
        try simp at ih2
        simp [c29_2, eqCells, T3, T4, T5, T9, T23, T25, T27, T32, T33, T35, T39, T50, T52, T57, T59, T64, T65, T66, T70, T71, T77, T81, T83, T88, T89, T91, T95, T97, T99, T100, T112, CT, hA, hll, hx, hEk, hEe, q1, q2, hk, hb1, hb2, hb3, hc1, hc2, hc3, k1, k2, k3, k4, ml1, ml2, gl1, gl2, hix, h38, p1, w1, hlt, hst]
        exact ih2
      · rw [if_neg hst] at htr
        rw [htr, List.map_append] at ih2
        simp only [List.map_cons, List.map_nil, Trn.d, List.length_append, List.length_cons, List.length_nil, Nat.zero_add] at ih2
        generalize (trnL l slot (Ms.take i)).map Trn.d = T at *
        generalize (trnL l slot (Ms.take i)).length = tl at *
        try simp at ih2
        simp [c29_2, eqCells, T3, T4, T5, T9, T23, T25, T27, T32, T33, T35, T39, T50, T52, T57, T59, T64, T65, T66, T70, T71, T77, T81, T83, T88, T89, T91, T95, T97, T99, T100, T112, CT, hA, hll, hx, hEk, hEe, q1, q2, hk, hb1, hb2, hb3, hc1, hc2, hc3, k1, k2, k3, k4, ml1, ml2, gl1, gl2, hix, h38, p1, w1, hlt, hst, htk, hTl, r1, r2, hz]
        exact ih2
  · have e : i = Ms.length := by omega
    subst e
    rw [List.take_length, hfin]
    have htk : ((trnL l slot Ms).map Trn.d).take (trnL l slot Ms).length = (trnL l slot Ms).map Trn.d := List.take_of_length_le (by simp)
    clear ih hidx hgl htrl
    generalize (trnL l slot Ms).map Trn.d = T at *
    generalize (trnL l slot Ms).length = tl at *
    simp [c29_2, eqCells, T3, T4, T5, T9, T23, T25, T27, T32, T33, T35, T39, T50, T52, T57, T59, T64, T65, T66, T70, T71, T77, T81, T83, T88, T89, T91, T95, T97, T99, T100, T112, CT, w0, htk]
end Go.Proofs.YtpooehcjchkbkaaV
