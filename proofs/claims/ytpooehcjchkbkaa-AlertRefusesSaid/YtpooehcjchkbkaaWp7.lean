/- Slot, State, Firing, Clone. -/
import Derived.Test.YtpooehcjchkbkaaWp6
set_option linter.unusedVariables false
set_option linter.unusedSimpArgs false
namespace Go.Proofs.YtpooehcjchkbkaaV
open Go.RowKit
attribute [local simp] TK.agg constAV evalAV EK.has EK.hasAll vecEls elsR AV.toD toDs AV.cells AV.one joinD TyI.zeroD OpR.of binIntF binStrF AV.isPtr ptrNil slNil mpNil nilE eqF negF posF binF pelF pvLoad pelSet pvStore boxLoad epLoad loadF boxStore storeF fieldAddrF fieldF epOf indexAddrF byteF indexF mapLen lenF cutF sliceF sliceN sliceX isSl slice3F fillF fillV arrFs buildF partsX landV buildSliceF roomB appVec appendF appMkF capF mmFrom mmF max2' min2' clearVec clearF convF unF pickF nilChkF extF ptrsOf callF makeSliceF sameKs sameD kindIs plainFs keyOk mapOb mapEs okV lookF lookupF putE putS mapPut mapUpdateF mapDel deleteF mapAll rangeM rangeF overV hitV nextO nextF entryM entryO entryF itOids builtinF capsOf allocF boxF bytesL bytesF byteTy strTy convertF makeFuncF mapNew makeMapF makeMapH opF reach reachOf AObj.live closedB nodupB packO packL packX backN backG backO obL backE frzX frzO AV.vids frzL landC sameObs landR touchF bitsW D.cells D.decEq D.decEqs AV.decEq AV.decEqs AObj.decEq AV.oids0 AV.oids AObj.oids renG renP AV.ren0 AV.ren envGet envPut envKeep obGet setEff putV St.put stepS keyChk chkD accD Ex.block AV.under AObj.under laysOf roomFor mkvO frzG szOk killO usedBy tidyS canL canS ghost ghostE normSt resOf allSome one0 resultsF finL finishL finish endF startEnv chkC backX comeC AV.flat0 rngC loopO layL endLp busyL idleL noRng rndSt rndEnd wpn_nil wpn_seq wpn_loop wpn_seq_exit wpn_loop_exit wpn_seq_ret wpn_loop_ret wpn_block wpn_post wpk_skip wpk_exit wpk_ret wpk_reg wpk_seq wpk_condT wpk_block wpk_loop wpk_pre wpk_post wop_nil wop_cons wop_guard St.know envSet cond_d cond_bool cond_int cond_str endE endQ freeB disj pushT bitsW int_beq int_bne eqS_def tbE fuelL_eq ann0_lays ann0_dd ann0_ro elsOf_dsl elsOf_dnils toNat_succ nn_succ pos_succ one_succ rng1 rng2 rng3 rng4 rng5 rng6 rng7 rng8 List.idxOf_cons wpk_rng rndK rndE
abbrev engO (Ms : List Mon) (slot : Int) : List AObj := [.box [.vs 1 0 1035 0 Ms.length, .d (.int .i64 slot)], .vec 0 false false 91 1035 (monLs Ms)]
theorem slot30_run (Ms : List Mon) (slot : Int) : run CC 30 [.ptr 0 0] (engO Ms slot) = some (.d (.int .i64 slot), engO Ms slot) := by
  unfold engO
  generalize monLs Ms = L at *
  refine run_code (s := s30 2) rfl rfl rfl (by kernel_rfl) ?_
  simp [s30, eqCells, T3, T4, T5, T9, T23, T25, T27, T32, T33, T35, T39, T50, T52, T57, T59, T64, T65, T66, T70, T71, T77, T81, T83, T88, T89, T91, T95, T97, T99, T100, T112, CT]
theorem slot30_d (X : D) (hX : AV.one (.d X) = true) (slot : Int) : run CC 30 [.ptr 0 0] [.box [.d X, .d (.int .i64 slot)]] = some (.d (.int .i64 slot), [.box [.d X, .d (.int .i64 slot)]]) := by
  refine run_code (s := s30 1) rfl rfl rfl (by kernel_rfl) ?_
  simp [s30, eqCells, T3, T4, T5, T9, T23, T25, T27, T32, T33, T35, T39, T50, T52, T57, T59, T64, T65, T66, T70, T71, T77, T81, T83, T88, T89, T91, T95, T97, T99, T100, T112, CT]
/-- The state of a rule. -/
def staR (nm : ByteArray) : List Mon → Int × Int
  | [] => (0, 10)
  | M :: l => if eqS M.rul.name nm = true then (M.state, 0) else staR nm l
theorem mon_at2 {Ms : List Mon} {i : Nat} (h : i < Ms.length) : (monLs Ms)[i]? = some (.agg (monD Ms[i])) := by simp [h]
set_option maxRecDepth 100000 in
set_option maxHeartbeats 4000000 in
theorem state31_run (Ms : List Mon) (hn : Ms.length < 1000) (slot : Int) (nm : ByteArray) : run CC 31 [.ptr 0 0, .d (.str nm)] (engO Ms slot) = some (.tup [.d (.int .i64 (staR nm Ms).1), .d (.int .i64 (staR nm Ms).2)], engO Ms slot) := by
  have hg := fun i hi => mon_at2 (Ms := Ms) (i := i) hi
  have hll : (monLs Ms).length = Ms.length := by simp
  have hdr : ∀ j (hj : j < Ms.length), staR nm (Ms.drop j) = if eqS (Ms[j]).rul.name nm = true then ((Ms[j]).state, 0) else staR nm (Ms.drop (j + 1)) := fun j hj => by
    rw [List.drop_eq_getElem_cons hj]; rfl
  obtain ⟨R, hR⟩ : ∃ R, R = staR nm Ms := ⟨_, rfl⟩
  rw [← hR]
  unfold engO
  generalize hL : monLs Ms = L at *
  refine run_code (s := s31 2) rfl rfl rfl (by kernel_rfl) ?_
  simp [s31, eqCells, T3, T4, T5, T9, T23, T25, T27, T32, T33, T35, T39, T50, T52, T57, T59, T64, T65, T66, T70, T71, T77, T81, T83, T88, T89, T91, T95, T97, T99, T100, T112, CT]
  refine wlp_inv (S := fun j : Nat => ⟨[(0, .ptr 0 0), (1, .d (.str nm)), (13, .d (.int .i64 Ms.length)), (14, .d (.int .i64 j))], [.box [.vs 1 0 1035 0 Ms.length, .d (.int .i64 slot)], .vec 0 false false 91 1035 L]⟩) (m := fun j => Ms.length - j) (Inv := fun j => j ≤ Ms.length ∧ staR nm (Ms.drop j) = R) ?_ 0 ⟨Nat.zero_le _, hR.symm⟩
  rintro j ⟨hj, hjR⟩ ih
  rw [e31_1]
  by_cases hlt : j < Ms.length
  · have hx := hg j hlt
    have hEj : j < L.length := by omega
    have hEe := (List.getElem?_eq_some_iff.1 hx).2
    have hd := hdr j hlt
    rw [hjR] at hd
    have w1 : IntKind.i64.wrap ((j : Int) + 1) = (j : Int) + 1 := wrap64 (by omega) (by omega)
    have p1 : (j : Int) < Ms.length := by omega
    have k1 := md_g1034 Ms[j]
    have k2 := md_e k1 (by rw [md_len]; omega)
    have k3 := md_g0 Ms[j]
    have k4 := md_e k3 (by rw [md_len]; omega)
    have ml := md_len Ms[j]
    cases hc : eqS (Ms[j]).rul.name nm with
    | true =>
      rw [hc, if_pos rfl] at hd
      rw [hd]
      clear ih hg hdr
      generalize Ms[j] = M at *
      simp [c31_1, eqCells, T3, T4, T5, T9, T23, T25, T27, T32, T33, T35, T39, T50, T52, T57, T59, T64, T65, T66, T70, T71, T77, T81, T83, T88, T89, T91, T95, T97, T99, T100, T112, CT, hx, hEj, hEe, p1, w1, hlt, hll, k1, k2, k3, k4, ml, hc]
    | false =>
      rw [hc, if_neg (by simp)] at hd
      have ih2 := ih (j + 1) ⟨by omega, hd.symm⟩ (by omega)
      clear ih hg hdr
      generalize Ms[j] = M at *
      try simp at ih2
      simp [c31_1, eqCells, T3, T4, T5, T9, T23, T25, T27, T32, T33, T35, T39, T50, T52, T57, T59, T64, T65, T66, T70, T71, T77, T81, T83, T88, T89, T91, T95, T97, T99, T100, T112, CT, hx, hEj, hEe, p1, w1, hlt, hll, k1, k2, k3, k4, ml, hc]
      exact ih2
  · have e : j = Ms.length := by omega
    subst e
    rw [List.drop_length] at hjR
    clear ih hg hdr
    simp [c31_1, eqCells, T3, T4, T5, T9, T23, T25, T27, T32, T33, T35, T39, T50, T52, T57, T59, T64, T65, T66, T70, T71, T77, T81, T83, T88, T89, T91, T95, T97, T99, T100, T112, CT, ← hjR, staR]
/-- The names of those that fire. -/
def frgL (Ms : List Mon) : List ByteArray := (Ms.filter fun M => decide (M.state = 2)).map fun M => M.rul.name
theorem frg_snoc (Ms : List Mon) (M : Mon) : frgL (Ms ++ [M]) = frgL Ms ++ if M.state = 2 then [M.rul.name] else [] := by
  unfold frgL
  rw [List.filter_append, List.map_append]
  by_cases h : M.state = 2 <;> simp [h]
set_option maxRecDepth 100000 in
set_option maxHeartbeats 4000000 in
theorem firing32_run (Ms : List Mon) (hn : Ms.length < 1000) (slot : Int) : run CC 32 [.ptr 0 0] (engO Ms slot) = some (.d (.sl ((frgL Ms).map D.str)), engO Ms slot) := by
  have hg := fun i hi => mon_at2 (Ms := Ms) (i := i) hi
  have hll : (monLs Ms).length = Ms.length := by simp
  have hfl : ∀ i, (frgL (Ms.take i)).length ≤ 1000 := fun i => by
    unfold frgL
    rw [List.length_map]
    have := List.length_filter_le (fun M : Mon => decide (M.state = 2)) (Ms.take i)
    rw [List.length_take] at this; omega
  obtain ⟨R, hR⟩ : ∃ R, R = (frgL Ms).map D.str := ⟨_, rfl⟩
  rw [← hR]
  unfold engO
  generalize hL : monLs Ms = L at *
  refine run_code (s := s32 2) rfl rfl rfl (by kernel_rfl) ?_
  simp [s32, eqCells, T3, T4, T5, T9, T23, T25, T27, T32, T33, T35, T39, T50, T52, T57, T59, T64, T65, T66, T70, T71, T77, T81, T83, T88, T89, T91, T95, T97, T99, T100, T112, CT]
  refine wlp_inv2 (S := fun j : Nat => ⟨[(0, .ptr 0 0), (3, .vs 2 0 1 0 (frgL (Ms.take j)).length), (11, .d (.int .i64 Ms.length)), (12, .d (.int .i64 j))], [.box [.vs 1 0 1035 0 Ms.length, .d (.int .i64 slot)], .vec 0 false false 91 1035 L, .vec 0 true false 9 1 ((frgL (Ms.take j)).map D.str)]⟩) (m := fun j => Ms.length - j) (Inv := fun j => j ≤ Ms.length) ?_ 0 (Nat.zero_le _) (by simp only [List.take_zero]; rfl)
  rintro j hj ih
  rw [e32_1]
  by_cases hlt : j < Ms.length
  · have hx := hg j hlt
    have hEj : j < L.length := by omega
    have hEe := (List.getElem?_eq_some_iff.1 hx).2
    have w1 : IntKind.i64.wrap ((j : Int) + 1) = (j : Int) + 1 := wrap64 (by omega) (by omega)
    have p1 : (j : Int) < Ms.length := by omega
    have k1 := md_g1034 Ms[j]
    have k2 := md_e k1 (by rw [md_len]; omega)
    have k3 := md_g0 Ms[j]
    have k4 := md_e k3 (by rw [md_len]; omega)
    have ml := md_len Ms[j]
    have ih2 := ih (j + 1) (by omega) (by omega)
    have hsn := frg_snoc (Ms.take j) Ms[j]
    rw [← List.take_succ_eq_append_getElem hlt] at hsn
    have hfj := hfl j
    have htk : ((frgL (Ms.take j)).map D.str).take (frgL (Ms.take j)).length = (frgL (Ms.take j)).map D.str := List.take_of_length_le (by simp)
    have hfl2 : ((frgL (Ms.take j)).map D.str).length = (frgL (Ms.take j)).length := by simp
    have r1 : ((frgL (Ms.take j)).length + 1) * 16 ≤ 140737488355328 := by omega
    have r2 : (frgL (Ms.take j)).length + 1 ≤ 9223372036854775807 := by omega
    have hz : szAll 1 [D.str (Ms[j]).rul.name] = true := rfl
    by_cases hc : (Ms[j]).state = 2
    · rw [if_pos hc] at hsn
      rw [hsn, List.map_append] at ih2
      simp only [List.map_cons, List.map_nil, List.length_append, List.length_cons, List.length_nil, Nat.zero_add] at ih2
      clear ih hg hfl hsn
      generalize Ms[j] = M at *
      generalize (frgL (Ms.take j)).map D.str = F at *
      generalize (frgL (Ms.take j)).length = fl at *
      try simp at ih2
      simp [c32_1, eqCells, T3, T4, T5, T9, T23, T25, T27, T32, T33, T35, T39, T50, T52, T57, T59, T64, T65, T66, T70, T71, T77, T81, T83, T88, T89, T91, T95, T97, T99, T100, T112, CT, hx, hEj, hEe, p1, w1, hlt, hll, k1, k2, k3, k4, ml, hc, htk, hfl2, r1, r2, hz]
      exact ih2
    · rw [if_neg hc, List.append_nil] at hsn
      rw [hsn] at ih2
      clear ih hg hfl hsn
      generalize Ms[j] = M at *
      generalize (frgL (Ms.take j)).map D.str = F at *
      generalize (frgL (Ms.take j)).length = fl at *
      try simp at ih2
      simp [c32_1, eqCells, T3, T4, T5, T9, T23, T25, T27, T32, T33, T35, T39, T50, T52, T57, T59, T64, T65, T66, T70, T71, T77, T81, T83, T88, T89, T91, T95, T97, T99, T100, T112, CT, hx, hEj, hEe, p1, w1, hlt, hll, k1, k2, k3, k4, ml, hc]
      exact ih2
  · have e : j = Ms.length := by omega
    subst e
    rw [List.take_length, ← hR]
    have htk : R.take (frgL Ms).length = R := List.take_of_length_le (by rw [hR]; simp)
    clear ih hg hfl hR
    simp [c32_1, eqCells, T3, T4, T5, T9, T23, T25, T27, T32, T33, T35, T39, T50, T52, T57, T59, T64, T65, T66, T70, T71, T77, T81, T83, T88, T89, T91, T95, T97, T99, T100, T112, CT, htk]
end Go.Proofs.YtpooehcjchkbkaaV
