/- The model: offer. -/
import Derived.Test.YtdgpipoffcajgaaQe1
set_option linter.unusedVariables false
set_option linter.unusedSimpArgs false
namespace Go.Proofs.YtdgpipoffcajgaaV
open Go.RowKit
attribute [local simp] TK.agg constAV evalAV EK.has EK.hasAll vecEls elsR AV.toD toDs AV.cells AV.one joinD TyI.zeroD OpR.of binIntF binStrF AV.isPtr ptrNil slNil mpNil nilE eqF negF posF binF pelF pvLoad pelSet pvStore boxLoad epLoad loadF boxStore storeF fieldAddrF fieldF epOf indexAddrF byteF indexF mapLen lenF cutF sliceF sliceN sliceX isSl slice3F fillF fillV arrFs buildF partsX landV buildSliceF roomB appVec appendF appMkF capF mmFrom mmF max2' min2' clearVec clearF convF unF pickF nilChkF extF ptrsOf callF makeSliceF sameKs sameD kindIs plainFs keyOk mapOb mapEs okV lookF lookupF putE putS mapPut mapUpdateF mapDel deleteF mapAll rangeM rangeF overV hitV nextO nextF entryM entryO entryF itOids builtinF capsOf allocF boxF bytesL bytesF byteTy strTy convertF makeFuncF mapNew makeMapF makeMapH opF reach reachOf AObj.live closedB nodupB packO packL packX backN backG backO obL backE frzX frzO AV.vids frzL landC sameObs landR touchF bitsW D.cells D.decEq D.decEqs AV.decEq AV.decEqs AObj.decEq AV.oids0 AV.oids AObj.oids renG renP AV.ren0 AV.ren envGet envPut envKeep obGet setEff putV St.put stepS keyChk chkD accD Ex.block AV.under AObj.under laysOf roomFor mkvO frzG szOk killO usedBy tidyS canL canS ghost ghostE normSt resOf allSome one0 resultsF finL finishL finish endF startEnv chkC backX comeC AV.flat0 rngC loopO layL endLp busyL idleL noRng rndSt rndEnd wpn_nil wpn_seq wpn_loop wpn_seq_exit wpn_loop_exit wpn_seq_ret wpn_loop_ret wpn_block wpn_post wpk_skip wpk_exit wpk_ret wpk_reg wpk_seq wpk_condT wpk_block wpk_loop wpk_pre wpk_post wop_nil wop_cons wop_guard St.know envSet cond_d cond_bool cond_int cond_str endE endQ freeB disj pushT bitsW int_beq int_bne eqS_def tbE fuelL_eq ann0_lays ann0_dd ann0_ro elsOf_dsl elsOf_dnils toNat_succ nn_succ pos_succ one_succ rng1 rng2 rng3 rng4 rng5 rng6 rng7 rng8 List.idxOf_cons wpk_rng rndK rndE
def offMR (m : Ms) (a s : Int) : Int := if m.es.any (fun e => decide (e.a = a) && decide (e.s = s)) then 9 else if crm m a ≤ 0 then 28 else 0
def Ms.add (m : Ms) (a s : Int) (S X : D) : Ms := { m with es := m.es ++ [⟨a, s, S, X, zT⟩] }
/-- The model's objects where its list has moved. -/
abbrev Ms.obm (m : Ms) : List AObj := [.box [.d (.int .i64 m.la), .d (.int .i64 m.lb), .d (.int .i64 m.lc), .vs 1 0 8 0 m.es.length, .d (.int .i64 m.nx), .d (.int .i64 m.sv), .d (.int .i64 m.nw)], .vec 0 true false 101 8 (m.es.map Me.d)]
def offM (m : Ms) (a s : Int) (S X : D) : List AObj := if offMR m a s = 0 then (m.add a s S X).obm else m.obs
set_option maxRecDepth 100000 in
set_option maxHeartbeats 8000000 in
theorem offer43_run (m : Ms) (hf : frM m.es) (hl : m.es.length ≤ 12) (a s : Int) (S X : List D) (hb : -1000 ≤ m.la ∧ m.la ≤ 1000 ∧ -1000 ≤ m.lb ∧ m.lb ≤ 1000) : run CC 43 [.ptr 0 0, .d (.agg [.int .i64 a, .int .i64 s, .sl S, .sl X])] m.obs = some (.d (.int .i64 (offMR m a s)), offM m a s (.sl S) (.sl X)) := by
  have hg := fun i hi => me_get hf (i := i) hi
  have hll : (m.es.map Me.d).length = m.es.length := by simp
  have hcr := credit42_run m hf (by omega) a hb
  have hsz : szAll 8 (m.es.map Me.d) = true := szAll_map Me.d 8 (fun _ => rfl) _
  have htk : (m.es.map Me.d).take m.es.length = m.es.map Me.d := takeM _ _
  obtain ⟨R, hR⟩ : ∃ R, R = m.es.any (fun e => decide (e.a = a) && decide (e.s = s)) := ⟨_, rfl⟩
  have hany : ∀ i, (∀ j (hj : j < m.es.length), j < i → ¬ (m.es[j].a = a ∧ m.es[j].s = s)) → (hi : i < m.es.length) → (m.es[i].a = a ∧ m.es[i].s = s) → R = true := fun i h1 hi h2 => by
    rw [hR, List.any_eq_true]
    exact ⟨m.es[i], List.getElem_mem hi, by simp [h2.1, h2.2]⟩
  have hnone : (∀ j (hj : j < m.es.length), ¬ (m.es[j].a = a ∧ m.es[j].s = s)) → R = false := fun h1 => by
    rw [hR, List.any_eq_false]
    intro e he
    obtain ⟨j, hj, rfl⟩ := List.getElem_of_mem he
    have := h1 j hj
    simpa using this
  have happ : (m.add a s (.sl S) (.sl X)).obm = [.box [.d (.int .i64 m.la), .d (.int .i64 m.lb), .d (.int .i64 m.lc), .vs 1 0 8 0 (m.es.length + 1), .d (.int .i64 m.nx), .d (.int .i64 m.sv), .d (.int .i64 m.nw)], .vec 0 true false 101 8 (m.es.map Me.d ++ [.agg [.int .i64 a, .int .i64 s, .sl S, .sl X, .int .i64 0, .int .i64 0, .int .i64 0, .int .i64 0]])] := by
    simp [Ms.add, Me.d]
  obtain ⟨F, hF⟩ : ∃ F, F = offM m a s (.sl S) (.sl X) := ⟨_, rfl⟩
  obtain ⟨rs, hrs⟩ : ∃ rs, rs = offMR m a s := ⟨_, rfl⟩
  rw [← hF, ← hrs]
  have hF1 : R = true → rs = 9 ∧ F = m.obs := fun h => by
    have : rs = 9 := by rw [hrs, offMR, ← hR, h]; rfl
    exact ⟨this, by rw [hF, offM, ← hrs, this]; rfl⟩
  have hF2 : R = false → crm m a ≤ 0 → rs = 28 ∧ F = m.obs := fun h hc => by
    have : rs = 28 := by rw [hrs, offMR, ← hR, h, if_neg (by simp), if_pos hc]
    exact ⟨this, by rw [hF, offM, ← hrs, this]; rfl⟩
  have hF3 : R = false → ¬ crm m a ≤ 0 → rs = 0 ∧ F = (m.add a s (.sl S) (.sl X)).obm := fun h hc => by
    have : rs = 0 := by rw [hrs, offMR, ← hR, h, if_neg (by simp), if_neg hc]
    exact ⟨this, by rw [hF, offM, ← hrs, this]; rfl⟩
  rw [happ] at hF3
  clear happ hF hrs
  have r1 : (m.es.length + 1) * 96 ≤ 140737488355328 := by omega
  have r2 : m.es.length + 1 ≤ 9223372036854775807 := by omega
  have hz : szAll 8 [D.agg [.int .i64 a, .int .i64 s, .sl S, .sl X, .int .i64 0, .int .i64 0, .int .i64 0, .int .i64 0]] = true := rfl
  simp only [Ms.obs] at hcr hF1 hF2 hF3 ⊢
  generalize hE : m.es.map Me.d = E at *
  refine run_code (s := s43 2) rfl rfl rfl (by kernel_rfl) ?_
  simp [s43, eqCells, T3, T4, T5, T9, T22, T23, T25, T27, T28, T32, T34, T38, T40, T46, T49, T51, T54, T57, T65, T66, T72, T74, T76, T77, T79, T81, T87, T89, T90, T92, T101, T107, T109, T119, T125, T128, T130, T133, T140, T148, T150, T151, CT, CQ, QQ]
  refine wlp_inv (S := fun i : Nat => ⟨[(0, .ptr 0 0), (3, .ptr 2 0), (10, .vs 1 0 8 0 m.es.length), (11, .d (.int .i64 m.es.length)), (12, .d (.int .i64 i))], [.box [.d (.int .i64 m.la), .d (.int .i64 m.lb), .d (.int .i64 m.lc), .vs 1 0 8 0 m.es.length, .d (.int .i64 m.nx), .d (.int .i64 m.sv), .d (.int .i64 m.nw)], .vec 0 false false 101 8 E, .box [.d (.int .i64 a), .d (.int .i64 s), .d (.sl S), .d (.sl X)]]⟩) (m := fun i => m.es.length - i) (Inv := fun i => i ≤ m.es.length ∧ ∀ j (hj : j < m.es.length), j < i → ¬ (m.es[j].a = a ∧ m.es[j].s = s)) ?_ 0 ⟨Nat.zero_le _, fun j hj h => absurd h (by omega)⟩
  rintro i ⟨hi, hm⟩ ih
  rw [e43_1]
  by_cases hlt : i < m.es.length
  · obtain ⟨l1, l2, -, -, hx⟩ := hg i hlt
    have hEi : i < E.length := by omega
    have hEe := (List.getElem?_eq_some_iff.1 hx).2
    have w1 : IntKind.i64.wrap ((i : Int) + 1) = (i : Int) + 1 := wrap64 (by omega) (by omega)
    have p1 : (i : Int) < m.es.length := by omega
    by_cases hc : m.es[i].a = a ∧ m.es[i].s = s
    · have hRt := hany i hm hlt hc
      clear ih hg hm hany hnone hcr
      obtain ⟨c1, c2⟩ := hc
      obtain ⟨e1, e2⟩ := hF1 hRt
      rw [e1, e2]
      generalize m.es[i] = y at *
      simp [c43_1, eqCells, T3, T4, T5, T9, T22, T23, T25, T27, T28, T32, T34, T38, T40, T46, T49, T51, T54, T57, T65, T66, T72, T74, T76, T77, T79, T81, T87, T89, T90, T92, T101, T107, T109, T119, T125, T128, T130, T133, T140, T148, T150, T151, CT, CQ, QQ, hll, hx, hEi, hEe, c1, c2, p1, w1, hlt]
    · have ih2 := ih (i + 1) ⟨by omega, fun j hj h2 => by
        rcases Nat.lt_succ_iff_lt_or_eq.1 h2 with h3 | h3
        · exact hm j hj h3
        · subst h3; exact hc⟩ (by omega)
      clear ih hg hm hany hnone hcr
      generalize m.es[i] = y at *
      simp at ih2
      by_cases c1 : y.a = a
      · have c2 : ¬ y.s = s := fun h => hc ⟨c1, h⟩
        simp [c43_1, eqCells, T3, T4, T5, T9, T22, T23, T25, T27, T28, T32, T34, T38, T40, T46, T49, T51, T54, T57, T65, T66, T72, T74, T76, T77, T79, T81, T87, T89, T90, T92, T101, T107, T109, T119, T125, T128, T130, T133, T140, T148, T150, T151, CT, CQ, QQ, hll, hx, hEi, hEe, c1, c2, p1, w1, hlt]
        exact ih2
      · simp [c43_1, eqCells, T3, T4, T5, T9, T22, T23, T25, T27, T28, T32, T34, T38, T40, T46, T49, T51, T54, T57, T65, T66, T72, T74, T76, T77, T79, T81, T87, T89, T90, T92, T101, T107, T109, T119, T125, T128, T130, T133, T140, T148, T150, T151, CT, CQ, QQ, hll, hx, hEi, hEe, c1, p1, w1, hlt]
        exact ih2
  · have e : i = m.es.length := by omega
    subst e
    have hRf := hnone fun j hj => hm j hj hj
    clear ih hg hm hany hnone
    generalize crm m a = cr at *
    by_cases hc : cr ≤ 0
    · obtain ⟨e1, e2⟩ := hF2 hRf hc
      rw [e1, e2]
      simp [c43_1, eqCells, T3, T4, T5, T9, T22, T23, T25, T27, T28, T32, T34, T38, T40, T46, T49, T51, T54, T57, T65, T66, T72, T74, T76, T77, T79, T81, T87, T89, T90, T92, T101, T107, T109, T119, T125, T128, T130, T133, T140, T148, T150, T151, CT, CQ, QQ, hll, hcr, hc]
    · obtain ⟨e1, e2⟩ := hF3 hRf hc
      rw [e1, e2]
      simp [c43_1, eqCells, T3, T4, T5, T9, T22, T23, T25, T27, T28, T32, T34, T38, T40, T46, T49, T51, T54, T57, T65, T66, T72, T74, T76, T77, T79, T81, T87, T89, T90, T92, T101, T107, T109, T119, T125, T128, T130, T133, T140, T148, T150, T151, CT, CQ, QQ, hll, hcr, hc, hsz, hz, r1, r2, htk]
end Go.Proofs.YtdgpipoffcajgaaV
