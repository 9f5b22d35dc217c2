/- New, the walk. -/
import Derived.Test.YtpooehcjchkbkaaWp5
set_option linter.unusedVariables false
set_option linter.unusedSimpArgs false
namespace Go.Proofs.YtpooehcjchkbkaaV
open Go.RowKit
attribute [local simp] TK.agg constAV evalAV EK.has EK.hasAll vecEls elsR AV.toD toDs AV.cells AV.one joinD TyI.zeroD OpR.of binIntF binStrF AV.isPtr ptrNil slNil mpNil nilE eqF negF posF binF pelF pvLoad pelSet pvStore boxLoad epLoad loadF boxStore storeF fieldAddrF fieldF epOf indexAddrF byteF indexF mapLen lenF cutF sliceF sliceN sliceX isSl slice3F fillF fillV arrFs buildF partsX landV buildSliceF roomB appVec appendF appMkF capF mmFrom mmF max2' min2' clearVec clearF convF unF pickF nilChkF extF ptrsOf callF makeSliceF sameKs sameD kindIs plainFs keyOk mapOb mapEs okV lookF lookupF putE putS mapPut mapUpdateF mapDel deleteF mapAll rangeM rangeF overV hitV nextO nextF entryM entryO entryF itOids builtinF capsOf allocF boxF bytesL bytesF byteTy strTy convertF makeFuncF mapNew makeMapF makeMapH opF reach reachOf AObj.live closedB nodupB packO packL packX backN backG backO obL backE frzX frzO AV.vids frzL landC sameObs landR touchF bitsW D.cells D.decEq D.decEqs AV.decEq AV.decEqs AObj.decEq AV.oids0 AV.oids AObj.oids renG renP AV.ren0 AV.ren envGet envPut envKeep obGet setEff putV St.put stepS keyChk chkD accD Ex.block AV.under AObj.under laysOf roomFor mkvO frzG szOk killO usedBy tidyS canL canS ghost ghostE normSt resOf allSome one0 resultsF finL finishL finish endF startEnv chkC backX comeC AV.flat0 rngC loopO layL endLp busyL idleL noRng rndSt rndEnd wpn_nil wpn_seq wpn_loop wpn_seq_exit wpn_loop_exit wpn_seq_ret wpn_loop_ret wpn_block wpn_post wpk_skip wpk_exit wpk_ret wpk_reg wpk_seq wpk_condT wpk_block wpk_loop wpk_pre wpk_post wop_nil wop_cons wop_guard St.know envSet cond_d cond_bool cond_int cond_str endE endQ freeB disj pushT bitsW int_beq int_bne eqS_def tbE fuelL_eq ann0_lays ann0_dd ann0_ro elsOf_dsl elsOf_dnils toNat_succ nn_succ pos_succ one_succ rng1 rng2 rng3 rng4 rng5 rng6 rng7 rng8 List.idxOf_cons wpk_rng rndK rndE
theorem rul_get (l : List Rul) {j : Nat} (h : j < l.length) : (l.map Rul.enc)[j]? = some (Rul.enc l[j]) := by simp [h]
abbrev newMs (rs : List Rul) : List Mon := rs.map Mon.new
set_option maxRecDepth 100000 in
set_option maxHeartbeats 4000000 in
theorem new28_many (A : D) (n : Nat) (hn : 256 < n) (E : List D) (hA : elsOf (.d A) = some E) (hl : E.length = n) (frm : Int) : run CC 28 [.d A, .d (.int .i64 frm)] [] = some (.tup [.nilp, .d (.int .i64 6)], []) := by
  refine run_code (s := s28 0) rfl rfl rfl (by kernel_rfl) ?_
  have p1 : (256 : Int) < n := by omega
  simp [s28, eqCells, T3, T4, T5, T9, T23, T25, T27, T32, T33, T35, T39, T50, T52, T57, T59, T64, T65, T66, T70, T71, T77, T81, T83, T88, T89, T91, T95, T97, T99, T100, T112, CT, hA, hl, p1]
set_option maxRecDepth 100000 in
set_option maxHeartbeats 16000000 in
/-- Up to the first rule that is refused, or to the end. -/
theorem new28_loop (A : D) (rs : List Rul) (hA : elsOf (.d A) = some (rs.map Rul.enc)) (hl : rs.length ≤ 256) (frm : Int) (R : Int) (O : List AObj) (V : AV)
    (hbad : ∀ J (hJ : J < rs.length), (∀ i (hi : i < rs.length), i < J → (rs[i]).chk = 0) → (rs[J]).chk ≠ 0 → R = (rs[J]).chk ∧ V = .nilp ∧ O = [])
    (hdup : (∀ r ∈ rs, r.chk = 0) → (nmM rs).length < rs.length → R = 9 ∧ V = .nilp ∧ O = [])
    (htime : (∀ r ∈ rs, r.chk = 0) → ¬ (nmM rs).length < rs.length → (frm < 0 ∨ 1048576 < frm) → R = 32 ∧ V = .nilp ∧ O = [])
    (hok : (∀ r ∈ rs, r.chk = 0) → ¬ (nmM rs).length < rs.length → ¬ (frm < 0 ∨ 1048576 < frm) → R = 0 ∧ V = .ptr 0 0 ∧ O = [.box [.vs 1 0 1035 0 rs.length, .d (.int .i64 frm)], .vec 0 true false 91 1035 (monLs (newMs rs))]) :
    run CC 28 [.d A, .d (.int .i64 frm)] [] = some (.tup [V, .d (.int .i64 R)], O) := by
  refine run_code (s := s28 0) rfl rfl rfl (by kernel_rfl) ?_
  have hg := fun j hj => rul_get rs (j := j) hj
  have hll : (rs.map Rul.enc).length = rs.length := by simp
  have p0 : ¬ (256 : Int) < rs.length := by omega
  have hck := fun r => check14_run r
  generalize hE : rs.map Rul.enc = E at *
  simp [s28, eqCells, T3, T4, T5, T9, T23, T25, T27, T32, T33, T35, T39, T50, T52, T57, T59, T64, T65, T66, T70, T71, T77, T81, T83, T88, T89, T91, T95, T97, T99, T100, T112, CT, hA, hll, p0]
  refine wlp_inv2 (S := fun i : Nat => ⟨[(0, .d A), (1, .d (.int .i64 frm)), (6, .ptr 0 0), (7, .mp 1), (18, .d A), (19, .d (.int .i64 rs.length)), (20, .d (.int .i64 i))], [.box [.vs 2 0 1035 0 i, .d (.int .i64 frm)], .map (mSB (nmM (rs.take i))), .vec 0 true false 91 1035 (monLs (newMs (rs.take i)))]⟩) (m := fun i => rs.length - i) (Inv := fun i => i ≤ rs.length ∧ ∀ j (hj : j < rs.length), j < i → (rs[j]).chk = 0) ?_ 0 ⟨Nat.zero_le _, fun j hj h => absurd h (by omega)⟩ (by simp only [List.take_zero]; rfl)
  rintro i ⟨hi, hall⟩ ih
  rw [e28_1]
  by_cases hlt : i < rs.length
  · have hx := hg i hlt
    have hEi : i < E.length := by omega
    have hEe := (List.getElem?_eq_some_iff.1 hx).2
    have w1 : IntKind.i64.wrap ((i : Int) + 1) = (i : Int) + 1 := wrap64 (by omega) (by omega)
    have p1 : (i : Int) < rs.length := by omega
    have hci := hck rs[i]
    by_cases hc : (rs[i]).chk = 0
    · have ih2 := ih (i + 1) ⟨by omega, fun j hj hji => by
        rcases Nat.lt_succ_iff_lt_or_eq.1 hji with h | h
        · exact hall j hj h
        · subst h; exact hc⟩ (by omega)
      have hput := mSB_put (rs[i]).name true (nmM (rs.take i))
      rw [List.take_succ_eq_append_getElem hlt, nmM_snoc] at ih2
      have hml : (monLs (newMs (rs.take i))).length = i := by simp; omega
      have htk : (monLs (newMs (rs.take i))).take i = monLs (newMs (rs.take i)) := List.take_of_length_le (by omega)
      have hsn : monLs (newMs (rs.take i ++ [rs[i]])) = monLs (newMs (rs.take i)) ++ [.agg (monD (Mon.new rs[i]))] := by show ((rs.take i ++ [rs[i]]).map Mon.new).map _ = _; rw [List.map_append, List.map_append]; rfl
      rw [hsn, ← zr91_monD] at ih2
      have r1 : (i + 1) * 12400 ≤ 140737488355328 := by omega
      have r2 : i + 1 ≤ 9223372036854775807 := by omega
      have hz : ∀ r : Rul, szAll 1035 [D.agg (D.str r.name :: .str r.svc :: .str r.op :: .int .i64 r.target :: .int .i64 r.long :: .int .i64 r.short :: .int .i64 r.burn :: .int .i64 r.forr :: zr91)] = true := fun r => by simp [szAll, D.cells, zr91_len]
      have hzr := hz rs[i]
      rw [hc] at hci
      clear ih hg hck hall hbad hdup htime hok hsn hz
      generalize rs[i] = r at *
      generalize mSB (putP strK r.name true (nmM (rs.take i))) = MM2 at *
      generalize mSB (nmM (rs.take i)) = MM at *
      generalize monLs (newMs (rs.take i)) = LM at *
      simp only [Rul.enc] at hci hx hEe
      try simp at ih2
      simp [c28_1, eqCells, T3, T4, T5, T9, T23, T25, T27, T32, T33, T35, T39, T50, T52, T57, T59, T64, T65, T66, T70, T71, T77, T81, T83, T88, T89, T91, T95, T97, T99, T100, T112, CT, hA, hll, hx, hEi, hEe, hci, p1, w1, hlt, hput, -putE, zr91_to, zr91_len, hml, htk, r1, r2, hzr]
      exact ih2
    · obtain ⟨rfl, rfl, rfl⟩ := hbad i hlt (fun j hj hji => hall j hj hji) hc
      clear ih hg hck hall hbad hdup htime hok
      generalize rs[i] = r at *
      generalize mSB (nmM (rs.take i)) = MM at *
      generalize monLs (newMs (rs.take i)) = LM at *
      simp only [Rul.enc] at hci hx hEe
      simp [c28_1, eqCells, T3, T4, T5, T9, T23, T25, T27, T32, T33, T35, T39, T50, T52, T57, T59, T64, T65, T66, T70, T71, T77, T81, T83, T88, T89, T91, T95, T97, T99, T100, T112, CT, hA, hll, hx, hEi, hEe, hci, hc, p1, w1, hlt]
  · have e : i = rs.length := by omega
    subst e
    rw [List.take_length]
    have hall2 : ∀ r ∈ rs, r.chk = 0 := fun r hr => by
      obtain ⟨j, hj, rfl⟩ := List.getElem_of_mem hr
      exact hall j hj hj
    have hml : (mSB (nmM rs)).length = (nmM rs).length := by simp [mapD]
    clear ih hg hck hall hbad
    have hd1 := hdup hall2
    have ht1 := htime hall2
    have ho1 := hok hall2
    clear hdup htime hok
    generalize monLs (newMs rs) = LM at *
    generalize mSB (nmM rs) = MM at *
    generalize (nmM rs).length = nm at *
    by_cases h1 : nm < rs.length
    · obtain ⟨rfl, rfl, rfl⟩ := hd1 h1
      have q1 : (nm : Int) < rs.length := by omega
      simp [c28_1, eqCells, T3, T4, T5, T9, T23, T25, T27, T32, T33, T35, T39, T50, T52, T57, T59, T64, T65, T66, T70, T71, T77, T81, T83, T88, T89, T91, T95, T97, T99, T100, T112, CT, hA, hll, hml, q1, h1]
    · by_cases h2 : frm < 0 ∨ 1048576 < frm
      · obtain ⟨rfl, rfl, rfl⟩ := ht1 h1 h2
        have q1 : ¬ (nm : Int) < rs.length := by omega
        rcases h2 with h2 | h2
        · simp [c28_1, eqCells, T3, T4, T5, T9, T23, T25, T27, T32, T33, T35, T39, T50, T52, T57, T59, T64, T65, T66, T70, T71, T77, T81, T83, T88, T89, T91, T95, T97, T99, T100, T112, CT, hA, hll, hml, q1, h1, h2]
        · have h3 : ¬ frm < 0 := by omega
          simp [c28_1, eqCells, T3, T4, T5, T9, T23, T25, T27, T32, T33, T35, T39, T50, T52, T57, T59, T64, T65, T66, T70, T71, T77, T81, T83, T88, T89, T91, T95, T97, T99, T100, T112, CT, hA, hll, hml, q1, h1, h2, h3]
      · obtain ⟨rfl, rfl, rfl⟩ := ho1 h1 h2
        have q1 : ¬ (nm : Int) < rs.length := by omega
        have h3 : ¬ frm < 0 := by omega
        have h4 : ¬ 1048576 < frm := by omega
        simp [c28_1, eqCells, T3, T4, T5, T9, T23, T25, T27, T32, T33, T35, T39, T50, T52, T57, T59, T64, T65, T66, T70, T71, T77, T81, T83, T88, T89, T91, T95, T97, T99, T100, T112, CT, hA, hll, hml, q1, h1, h3, h4]
end Go.Proofs.YtpooehcjchkbkaaV
