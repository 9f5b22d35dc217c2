/- DeleteFunc of tickets. -/
import Derived.Test.YtdgpipoffcajgaaQd6
set_option linter.unusedVariables false
set_option linter.unusedSimpArgs false
namespace Go.Proofs.YtdgpipoffcajgaaV
open Go.RowKit
attribute [local simp] TK.agg constAV evalAV EK.has EK.hasAll vecEls elsR AV.toD toDs AV.cells AV.one joinD TyI.zeroD OpR.of binIntF binStrF AV.isPtr ptrNil slNil mpNil nilE eqF negF posF binF pelF pvLoad pelSet pvStore boxLoad epLoad loadF boxStore storeF fieldAddrF fieldF epOf indexAddrF byteF indexF mapLen lenF cutF sliceF sliceN sliceX isSl slice3F fillF fillV arrFs buildF partsX landV buildSliceF roomB appVec appendF appMkF capF mmFrom mmF max2' min2' clearVec clearF convF unF pickF nilChkF extF ptrsOf callF makeSliceF sameKs sameD kindIs plainFs keyOk mapOb mapEs okV lookF lookupF putE putS mapPut mapUpdateF mapDel deleteF mapAll rangeM rangeF overV hitV nextO nextF entryM entryO entryF itOids builtinF capsOf allocF boxF bytesL bytesF byteTy strTy convertF makeFuncF mapNew makeMapF makeMapH opF reach reachOf AObj.live closedB nodupB packO packL packX backN backG backO obL backE frzX frzO AV.vids frzL landC sameObs landR touchF bitsW D.cells D.decEq D.decEqs AV.decEq AV.decEqs AObj.decEq AV.oids0 AV.oids AObj.oids renG renP AV.ren0 AV.ren envGet envPut envKeep obGet setEff putV St.put stepS keyChk chkD accD Ex.block AV.under AObj.under laysOf roomFor mkvO frzG szOk killO usedBy tidyS canL canS ghost ghostE normSt resOf allSome one0 resultsF finL finishL finish endF startEnv chkC backX comeC AV.flat0 rngC loopO layL endLp busyL idleL noRng rndSt rndEnd wpn_nil wpn_seq wpn_loop wpn_seq_exit wpn_loop_exit wpn_seq_ret wpn_loop_ret wpn_block wpn_post wpk_skip wpk_exit wpk_ret wpk_reg wpk_seq wpk_condT wpk_block wpk_loop wpk_pre wpk_post wop_nil wop_cons wop_guard St.know envSet cond_d cond_bool cond_int cond_str endE endQ freeB disj pushT bitsW int_beq int_bne eqS_def tbE fuelL_eq ann0_lays ann0_dd ann0_ro elsOf_dsl elsOf_dnils toNat_succ nn_succ pos_succ one_succ rng1 rng2 rng3 rng4 rng5 rng6 rng7 rng8 List.idxOf_cons wpk_rng rndK rndE
theorem wlp_inv2 {C : Pg} {ks : List Fr} {K : Ex → St → Prop} {b : SC} {σ : Type} {st : St} (S : σ → St) (m : σ → Nat) (Inv : σ → Prop) (h : ∀ s, Inv s → (∀ s', Inv s' → m s' < m s → wlp C b (S s') ks K) → wpk C b (S s) (.loop b :: ks) K) (s : σ) (hs : Inv s) (hst : st = S s) : wlp C b st ks K := hst ▸ wlp_inv S m Inv h s hs
theorem late48_run (now n a s u : Int) : run CC 48 [.d (.agg [.int .i64 n, .int .i64 a, .int .i64 s, .int .i64 u]), .ptr 0 0] [.box [.d (.int .i64 now)]] = some (.d (.bool (decide (now < u))), [.box [.d (.int .i64 now)]]) := by
  refine run_code (s := s48 1) rfl rfl rfl (by kernel_rfl) ?_
  by_cases h : now < u <;> simp [s48, eqCells, T3, T4, T5, T9, T22, T23, T25, T27, T32, T34, T38, T40, T46, T49, T51, T54, T57, T66, T72, T74, T76, T77, T79, T81, T87, T89, T90, T92, T101, T107, T109, T119, T125, T128, T130, T133, T140, T148, T150, T151, CT, h]
theorem tck_get (ts : List Tck) {i : Nat} (h : i < ts.length) : (ts.map Tck.d)[i]? = some (.agg [.int .i64 ts[i].n, .int .i64 ts[i].a, .int .i64 ts[i].s, .int .i64 ts[i].u]) := by
  simp [h, Tck.d]
set_option maxRecDepth 100000 in
set_option maxHeartbeats 4000000 in
theorem idx65_run (now : Int) (ts : List Tck) (hn : ts.length ≤ 12) (i : Nat) (hi : i ≤ ts.length) (hk : ∀ j (h : j < ts.length), j < i → ¬ now < ts[j].u) (hd : ∀ h : i < ts.length, now < ts[i].u) :
    run CC 65 [.vs 0 0 4 0 ts.length, .fn 48 [] [(1, 0)]] [.vec 0 false false 40 4 (ts.map Tck.d), .box [.d (.int .i64 now)]] = some (.d (.int .i64 (if i < ts.length then (i : Int) else -1)), [.vec 0 false false 40 4 (ts.map Tck.d), .box [.d (.int .i64 now)]]) := by
  have hg := fun j h => tck_get ts (i := j) h
  have hll : (ts.map Tck.d).length = ts.length := by simp
  have hl := fun n a s u => late48_run now n a s u
  refine run_code (s := s65 2) rfl rfl rfl (by kernel_rfl) ?_
  generalize hE : ts.map Tck.d = E at *
  simp [s65, eqCells, T3, T4, T5, T9, T22, T23, T25, T27, T32, T34, T38, T40, T46, T49, T51, T54, T57, T66, T72, T74, T76, T77, T79, T81, T87, T89, T90, T92, T101, T107, T109, T119, T125, T128, T130, T133, T140, T148, T150, T151, CT]
  refine wlp_inv (S := fun j : Nat => ⟨[(0, .vs 0 0 4 0 ts.length), (1, .fn 48 [] [(1, 0)]), (7, .d (.int .i64 ts.length)), (8, .d (.int .i64 j))], [.vec 0 false false 40 4 E, .box [.d (.int .i64 now)]]⟩) (m := fun j => ts.length - j) (Inv := fun j => j ≤ i) ?_ 0 (Nat.zero_le _)
  rintro j hj ih
  rw [e65_1]
  by_cases hlt : j < ts.length
  · have hx := hg j hlt
    have hEl : j < E.length := by omega
    have hEj : E[j] = .agg [.int .i64 ts[j].n, .int .i64 ts[j].a, .int .i64 ts[j].s, .int .i64 ts[j].u] := (List.getElem?_eq_some_iff.1 hx).2
    have w1 : IntKind.i64.wrap ((j : Int) + 1) = (j : Int) + 1 := wrap64 (by omega) (by omega)
    have p1 : (j : Int) < ts.length := by omega
    by_cases hji : j < i
    · have hc := hk j hlt hji
      have ih2 := ih (j + 1) (by omega) (by omega)
      clear ih hg hk hd
      generalize ts[j] = y at *
      simp at ih2
      simp [c65_1, eqCells, T3, T4, T5, T9, T22, T23, T25, T27, T32, T34, T38, T40, T46, T49, T51, T54, T57, T66, T72, T74, T76, T77, T79, T81, T87, T89, T90, T92, T101, T107, T109, T119, T125, T128, T130, T133, T140, T148, T150, T151, CT, hll, hx, hEj, hEl, hl, hc, p1, w1, hlt]
      exact ih2
    · have e : j = i := by omega
      subst e
      have hc := hd hlt
      clear ih hg hk hd
      generalize ts[j] = y at *
      simp [c65_1, eqCells, T3, T4, T5, T9, T22, T23, T25, T27, T32, T34, T38, T40, T46, T49, T51, T54, T57, T66, T72, T74, T76, T77, T79, T81, T87, T89, T90, T92, T101, T107, T109, T119, T125, T128, T130, T133, T140, T148, T150, T151, CT, hll, hx, hEj, hEl, hl, hc, p1, w1, hlt]
  · have e : j = ts.length := by omega
    have e2 : ¬ i < ts.length := by omega
    subst e
    clear ih hg hk hd
    simp [c65_1, eqCells, T3, T4, T5, T9, T22, T23, T25, T27, T32, T34, T38, T40, T46, T49, T51, T54, T57, T66, T72, T74, T76, T77, T79, T81, T87, T89, T90, T92, T101, T107, T109, T119, T125, T128, T130, T133, T140, T148, T150, T151, CT, hll, e2]
theorem set_mid {α : Type} : ∀ (A : List α) (x y : α) (R : List α) {n : Nat}, n = A.length → (A ++ x :: R).set n y = A ++ y :: R
  | [], x, y, R, n, h => by subst h; rfl
  | a :: A, x, y, R, n, h => by
    subst h
    simp only [List.cons_append, List.length_cons, List.set_cons_succ, set_mid A x y R rfl]
/-- Those that are kept. -/
def keepT (now : Int) (ts : List Tck) : List Tck := ts.filter fun t => decide (¬ now < t.u)
abbrev zT : Tck := ⟨0, 0, 0, 0⟩
theorem first_del (now : Int) (ts : List Tck) : ∃ i, i ≤ ts.length ∧ (∀ j (h : j < ts.length), j < i → ¬ now < ts[j].u) ∧ (∀ h : i < ts.length, now < ts[i].u) := by
  induction ts with
  | nil => exact ⟨0, Nat.le_refl _, fun j h => absurd h (by simp), fun h => absurd h (by simp)⟩
  | cons t ts ih =>
    by_cases hc : now < t.u
    · exact ⟨0, Nat.zero_le _, fun j h h2 => absurd h2 (by omega), fun h => hc⟩
    · obtain ⟨i, h1, h2, h3⟩ := ih
      refine ⟨i + 1, by simpa using h1, fun j h hj => ?_, fun h => ?_⟩
      · cases j with
        | zero => exact hc
        | succ j => exact h2 j (by simpa using h) (by omega)
      · exact h3 (by simpa using h)
theorem keep_take (now : Int) (ts : List Tck) (i : Nat) (hi : i ≤ ts.length) (hk : ∀ j (h : j < ts.length), j < i → ¬ now < ts[j].u) : keepT now (ts.take i) = ts.take i := by
  refine List.filter_eq_self.2 fun t ht => ?_
  obtain ⟨j, hj, rfl⟩ := List.getElem_of_mem ht
  rw [List.length_take] at hj
  rw [List.getElem_take]
  simpa using hk j (by omega) (by omega)
set_option maxRecDepth 100000 in
set_option maxHeartbeats 8000000 in
theorem del47_run (now : Int) (ts : List Tck) (hn : ts.length ≤ 12) :
    run CC 47 [.vs 0 0 4 0 ts.length, .fn 48 [] [(1, 0)]] [.vec 0 false false 40 4 (ts.map Tck.d), .box [.d (.int .i64 now)]] = some (.vs 0 0 4 0 (keepT now ts).length, [.vec 0 false false 40 4 ((keepT now ts ++ List.replicate (ts.length - (keepT now ts).length) zT).map Tck.d), .box [.d (.int .i64 now)]]) := by
  obtain ⟨i, hi, hk, hd⟩ := first_del now ts
  have hidx := idx65_run now ts hn i hi hk hd
  have hl := fun n a s u => late48_run now n a s u
  refine run_code (s := s47 2) rfl rfl rfl (by kernel_rfl) ?_
  by_cases hin : i < ts.length
  rotate_left
  · have hkt := keep_take now ts i hi hk
    have e : ts.take i = ts := List.take_of_length_le (by omega)
    rw [e] at hkt
    rw [if_neg hin] at hidx
    rw [hkt, Nat.sub_self, List.replicate_zero, List.append_nil]
    clear hk hd
    generalize hE : ts.map Tck.d = E at *
    generalize ts.length = n at *
    simp [s47, eqCells, T3, T4, T5, T9, T22, T23, T25, T27, T32, T34, T38, T40, T46, T49, T51, T54, T57, T66, T72, T74, T76, T77, T79, T81, T87, T89, T90, T92, T101, T107, T109, T119, T125, T128, T130, T133, T140, T148, T150, T151, CT, hidx]
  rw [if_pos hin] at hidx
  obtain ⟨F, hF⟩ : ∃ F, F = (keepT now ts ++ List.replicate (ts.length - (keepT now ts).length) zT).map Tck.d := ⟨_, rfl⟩
  obtain ⟨kf, hkf⟩ : ∃ kf, kf = (keepT now ts).length := ⟨_, rfl⟩
  rw [← hF, ← hkf]
  have w0 : IntKind.i64.wrap ((i : Int) + 1) = (i : Int) + 1 := wrap64 (by omega) (by omega)
  have hi1 : ¬ (i : Int) = -1 := by omega
  have hll : (ts.map Tck.d).length = ts.length := by simp
  have hstart : ((keepT now (ts.take (i + 1)) ++ [ts[i]] ++ ts.drop (i + 1))) = ts := by
    have : keepT now (ts.take (i + 1)) = ts.take i := by
      rw [List.take_succ_eq_append_getElem hin]
      unfold keepT
      rw [List.filter_append]
      have h1 := keep_take now ts i hi hk
      unfold keepT at h1
      rw [h1]
      have : ([ts[i]].filter fun t => decide (¬ now < t.u)) = [] := by
        have := hd hin
        simp; omega
      rw [this, List.append_nil]
    rw [this, List.append_assoc, List.singleton_append, List.getElem_cons_drop, List.take_append_drop]
  have hk0 : (keepT now (ts.take (i + 1))).length = i := by
    have h := congrArg List.length hstart
    simp at h
    omega
  simp [s47, eqCells, T3, T4, T5, T9, T22, T23, T25, T27, T32, T34, T38, T40, T46, T49, T51, T54, T57, T66, T72, T74, T76, T77, T79, T81, T87, T89, T90, T92, T101, T107, T109, T119, T125, T128, T130, T133, T140, T148, T150, T151, CT, hidx, w0, hi1]
  refine wlp_inv2 (S := fun p : Nat × List Tck => ⟨[(0, .vs 0 0 4 0 ts.length), (1, .fn 48 [] [(1, 0)]), (5, .d (.int .i64 (keepT now (ts.take p.1)).length)), (6, .d (.int .i64 p.1))], [.vec 0 false false 40 4 ((keepT now (ts.take p.1) ++ p.2 ++ ts.drop p.1).map Tck.d), .box [.d (.int .i64 now)]]⟩) (m := fun p => ts.length - p.1) (Inv := fun p => p.1 ≤ ts.length ∧ p.2 ≠ [] ∧ (keepT now (ts.take p.1)).length + p.2.length = p.1) ?_ (i + 1, [ts[i]]) ⟨by simp only; omega, by simp, by simp only [hk0, List.length_singleton]⟩ (by simp only [hstart, hk0]; rfl)
  rintro ⟨j, M⟩ ⟨hj, hM, hm⟩ ih
  rw [e47_1]
  simp only at hj hM hm ⊢
  obtain ⟨m0, M, rfl⟩ := List.exists_cons_of_ne_nil hM
  by_cases hlt : j < ts.length
  · have hsp : ts.drop j = ts[j] :: ts.drop (j + 1) := List.drop_eq_getElem_cons hlt
    have htk := List.take_succ_eq_append_getElem hlt
    have w1 : IntKind.i64.wrap ((j : Int) + 1) = (j : Int) + 1 := wrap64 (by omega) (by omega)
    have p1 : (j : Int) < ts.length := by omega
    have hEl : ((keepT now (ts.take j) ++ m0 :: M ++ ts.drop j).map Tck.d).length = ts.length := by simp at hm ⊢; omega
    have hx : ((keepT now (ts.take j) ++ m0 :: M ++ ts.drop j).map Tck.d)[j]? = some (.agg [.int .i64 ts[j].n, .int .i64 ts[j].a, .int .i64 ts[j].s, .int .i64 ts[j].u]) := by
      rw [List.getElem?_map, List.getElem?_append_right (by simp at hm ⊢; omega), hsp]
      have : j - (keepT now (ts.take j) ++ m0 :: M).length = 0 := by simp at hm ⊢; omega
      rw [this]
      rfl
    by_cases hc : now < ts[j].u
    · have hkk : keepT now (ts.take (j + 1)) = keepT now (ts.take j) := by
        rw [htk]; unfold keepT; rw [List.filter_append]
        have : ([ts[j]].filter fun t => decide (¬ now < t.u)) = [] := by simp; omega
        rw [this, List.append_nil]
      have ih2 := ih (j + 1, m0 :: (M ++ [ts[j]])) ⟨by simp only; omega, by simp, by simp only [hkk]; simp at hm ⊢; omega⟩ (by simp only; omega)
      have hee : keepT now (ts.take j) ++ m0 :: (M ++ [ts[j]]) ++ ts.drop (j + 1) = keepT now (ts.take j) ++ m0 :: M ++ ts.drop j := by rw [hsp]; simp
      simp only [hkk, hee] at ih2
      generalize (keepT now (ts.take j) ++ m0 :: M ++ ts.drop j).map Tck.d = E at *
      generalize (keepT now (ts.take j)).length = kl at *
      have hEj : j < E.length := by omega
      have hEe : E[j] = .agg [.int .i64 ts[j].n, .int .i64 ts[j].a, .int .i64 ts[j].s, .int .i64 ts[j].u] := (List.getElem?_eq_some_iff.1 hx).2
      clear ih hd hk hsp htk hkk hee
      generalize ts[j] = y at *
      simp at ih2
      simp [c47_1, eqCells, T3, T4, T5, T9, T22, T23, T25, T27, T32, T34, T38, T40, T46, T49, T51, T54, T57, T66, T72, T74, T76, T77, T79, T81, T87, T89, T90, T92, T101, T107, T109, T119, T125, T128, T130, T133, T140, T148, T150, T151, CT, hEl, hx, hEj, hEe, hl, hc, p1, w1, hlt]
      exact ih2
    · have hkk : keepT now (ts.take (j + 1)) = keepT now (ts.take j) ++ [ts[j]] := by
        rw [htk]; unfold keepT; rw [List.filter_append]
        have : ([ts[j]].filter fun t => decide (¬ now < t.u)) = [ts[j]] := by simp; omega
        rw [this]
      have ih2 := ih (j + 1, M ++ [ts[j]]) ⟨by simp only; omega, by simp, by simp only [hkk]; simp at hm ⊢; omega⟩ (by simp only; omega)
      have hee : (keepT now (ts.take j) ++ [ts[j]] ++ (M ++ [ts[j]]) ++ ts.drop (j + 1)).map Tck.d = ((keepT now (ts.take j) ++ m0 :: M ++ ts.drop j).map Tck.d).set (keepT now (ts.take j)).length (.agg [.int .i64 ts[j].n, .int .i64 ts[j].a, .int .i64 ts[j].s, .int .i64 ts[j].u]) := by
        rw [hsp]
        simp only [List.map_append, List.map_cons, List.append_assoc, List.singleton_append, List.cons_append, List.map_nil, List.nil_append]
        exact (set_mid ((keepT now (ts.take j)).map Tck.d) (Tck.d m0) _ _ (by simp)).symm
      have hkl : (keepT now (ts.take (j + 1))).length = (keepT now (ts.take j)).length + 1 := by rw [hkk]; simp
      simp only [hkl] at ih2
      simp only [hkk, hee] at ih2
      have hlen2 : (keepT now (ts.take j)).length < ts.length := by simp at hm; omega
      have hx2 : ((keepT now (ts.take j) ++ m0 :: M ++ ts.drop j).map Tck.d)[(keepT now (ts.take j)).length]? = some (.agg [.int .i64 m0.n, .int .i64 m0.a, .int .i64 m0.s, .int .i64 m0.u]) := by
        rw [List.getElem?_map, List.append_assoc, List.getElem?_append_right (Nat.le_refl _), Nat.sub_self]
        rfl
      have w2 : IntKind.i64.wrap (((keepT now (ts.take j)).length : Int) + 1) = ((keepT now (ts.take j)).length : Int) + 1 := wrap64 (by omega) (by omega)
      generalize (keepT now (ts.take j) ++ m0 :: M ++ ts.drop j).map Tck.d = E at *
      generalize (keepT now (ts.take j)).length = kl at *
      have hEj : j < E.length := by omega
      have hEk : kl < E.length := by omega
      have hEe : E[j] = .agg [.int .i64 ts[j].n, .int .i64 ts[j].a, .int .i64 ts[j].s, .int .i64 ts[j].u] := (List.getElem?_eq_some_iff.1 hx).2
      have p2 : (kl : Int) < ts.length := by omega
      have hEm : E[kl] = .agg [.int .i64 m0.n, .int .i64 m0.a, .int .i64 m0.s, .int .i64 m0.u] := (List.getElem?_eq_some_iff.1 hx2).2
      clear ih hd hk hsp htk hkk hee hkl
      generalize ts[j] = y at *
      simp at ih2
      simp [c47_1, eqCells, T3, T4, T5, T9, T22, T23, T25, T27, T32, T34, T38, T40, T46, T49, T51, T54, T57, T66, T72, T74, T76, T77, T79, T81, T87, T89, T90, T92, T101, T107, T109, T119, T125, T128, T130, T133, T140, T148, T150, T151, CT, hEl, hx, hEj, hEe, hEk, hEm, hl, hc, p1, p2, w1, w2, hlt, hlen2]
      exact ih2
  · have e : j = ts.length := by omega
    subst e
    rw [List.take_length, List.drop_length, List.append_nil] at *
    clear ih hd hk
    have hkl : (keepT now ts).length ≤ ts.length := by omega
    have hn2 : (keepT now ts).length + (m0 :: M).length = ts.length := hm
    have hml : (keepT now ts ++ m0 :: M).map Tck.d = (keepT now ts).map Tck.d ++ (m0 :: M).map Tck.d := List.map_append
    have hrep : (keepT now ts ++ List.replicate (ts.length - (keepT now ts).length) zT).map Tck.d = (keepT now ts).map Tck.d ++ List.replicate (ts.length - (keepT now ts).length) (.agg [.int .i64 0, .int .i64 0, .int .i64 0, .int .i64 0]) := by simp [Tck.d]
    rw [hrep] at hF
    rw [hml, hF, hkf]
    have hKl : ((keepT now ts).map Tck.d).length = (keepT now ts).length := by simp
    have hRl : ((m0 :: M).map Tck.d).length = ts.length - (keepT now ts).length := by simp at hn2 ⊢; omega
    have p0 : ((keepT now ts).length : Int) ≤ ts.length := by omega
    clear hF hkf hrep hml hm hn2 hM hstart hll hk0 hidx
    generalize (keepT now ts).map Tck.d = K1 at *
    generalize (m0 :: M).map Tck.d = R1 at *
    generalize (keepT now ts).length = kl at *
    generalize ts.length = n at *
    have htk : (K1 ++ R1).take kl = K1 := by rw [← hKl]; simp
    have hdr : (K1 ++ R1).drop n = [] := by rw [List.drop_eq_nil_iff]; simp; omega
    have hEl : (K1 ++ R1).length = n := by simp; omega
    generalize K1 ++ R1 = E at *
    simp [c47_1, eqCells, T3, T4, T5, T9, T22, T23, T25, T27, T32, T34, T38, T40, T46, T49, T51, T54, T57, T66, T72, T74, T76, T77, T79, T81, T87, T89, T90, T92, T101, T107, T109, T119, T125, T128, T130, T133, T140, T148, T150, T151, CT, htk, hdr, hEl, hkl, p0]
end Go.Proofs.YtdgpipoffcajgaaV
