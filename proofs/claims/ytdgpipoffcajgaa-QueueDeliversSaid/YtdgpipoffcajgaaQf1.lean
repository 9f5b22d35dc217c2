/- do: Lease. -/
import Derived.Test.YtdgpipoffcajgaaQe9
set_option linter.unusedVariables false
set_option linter.unusedSimpArgs false
namespace Go.Proofs.YtdgpipoffcajgaaV
open Go.RowKit
attribute [local simp] TK.agg constAV evalAV EK.has EK.hasAll vecEls elsR AV.toD toDs AV.cells AV.one joinD TyI.zeroD OpR.of binIntF binStrF AV.isPtr ptrNil slNil mpNil nilE eqF negF posF binF pelF pvLoad pelSet pvStore boxLoad epLoad loadF boxStore storeF fieldAddrF fieldF epOf indexAddrF byteF indexF mapLen lenF cutF sliceF sliceN sliceX isSl slice3F fillF fillV arrFs buildF partsX landV buildSliceF roomB appVec appendF appMkF capF mmFrom mmF max2' min2' clearVec clearF convF unF pickF nilChkF extF ptrsOf callF makeSliceF sameKs sameD kindIs plainFs keyOk mapOb mapEs okV lookF lookupF putE putS mapPut mapUpdateF mapDel deleteF mapAll rangeM rangeF overV hitV nextO nextF entryM entryO entryF itOids builtinF capsOf allocF boxF bytesL bytesF byteTy strTy convertF makeFuncF mapNew makeMapF makeMapH opF reach reachOf AObj.live closedB nodupB packO packL packX backN backG backO obL backE frzX frzO AV.vids frzL landC sameObs landR touchF bitsW D.cells D.decEq D.decEqs AV.decEq AV.decEqs AObj.decEq AV.oids0 AV.oids AObj.oids renG renP AV.ren0 AV.ren envGet envPut envKeep obGet setEff putV St.put stepS keyChk chkD accD Ex.block AV.under AObj.under laysOf roomFor mkvO frzG szOk killO usedBy tidyS canL canS ghost ghostE normSt resOf allSome one0 resultsF finL finishL finish endF startEnv chkC backX comeC AV.flat0 rngC loopO layL endLp busyL idleL noRng rndSt rndEnd wpn_nil wpn_seq wpn_loop wpn_seq_exit wpn_loop_exit wpn_seq_ret wpn_loop_ret wpn_block wpn_post wpk_skip wpk_exit wpk_ret wpk_reg wpk_seq wpk_condT wpk_block wpk_loop wpk_pre wpk_post wop_nil wop_cons wop_guard St.know envSet cond_d cond_bool cond_int cond_str endE endQ freeB disj pushT bitsW int_beq int_bne eqS_def tbE fuelL_eq ann0_lays ann0_dd ann0_ro elsOf_dsl elsOf_dnils toNat_succ nn_succ pos_succ one_succ rng1 rng2 rng3 rng4 rng5 rng6 rng7 rng8 List.idxOf_cons wpk_rng rndK rndE
theorem nextI_mem {srv : Int} {l : List Iv} {x : Iv} (h : nextI srv l = some x) : x ∈ l := by
  cases l with
  | nil => cases h
  | cons y l =>
    injection h with h
    rw [← h]
    exact bst_mem srv y l
theorem nextI_split {srv : Int} {es : List Ent} {x : Iv} (h : nextI srv (wts es) = some x) : ∃ pre e post, es = pre ++ e :: post ∧ e.tk = 0 ∧ e.iv = x := by
  obtain ⟨e, he, hx⟩ := List.mem_map.1 (nextI_mem h)
  obtain ⟨h1, h2⟩ := List.mem_filter.1 he
  obtain ⟨pre, post, hs⟩ := List.append_of_mem h1
  exact ⟨pre, e, post, hs, by simpa using h2, hx⟩
theorem nextI_none {srv : Int} {l : List Iv} (h : nextI srv l = none) : l = [] := by
  cases l with
  | nil => rfl
  | cons y l => cases h
/-- The instant of an operation. -/
def opN (q : Qs) (k A B : Nat) : Int := if B = 255 then q.now - 1 else if k % 5 = 4 then q.now + ((A % 12 : Nat) : Int) else q.now + ((A % 4 : Nat) : Int)
set_option maxRecDepth 100000 in
set_option maxHeartbeats 8000000 in
theorem do24_lease_no (q : Qs) (now c : Int) (hc : ¬ c = 0) (h17 : run CC 17 [.ptr 0 0, .d (.int .i64 now)] q.obs = some (noL c, q.obs)) (h44 : run CC 44 [.ptr 0 0, .d (.int .i64 now)] q.mod.obs = some (.tup [.d (.int .i64 (-1)), .d (.int .i64 c)], q.mod.obs)) (k A B : Nat) (hk : k % 5 = 1) (hA : A < 256) (hB : B < 256) (hq : 0 ≤ q.now ∧ q.now < 1000000) (hn : now = if B = 255 then q.now - 1 else q.now + ((A % 4 : Nat) : Int)) :
    run CC 24 [.ptr 0 0, .ptr 2 0, .d (.agg [.int .u8 k, .int .u8 A, .int .u8 B])] q.st = some (.d (.bool true), q.st) := by
  have hk5 := rem_nat k 5
  have hA4 := rem_nat A 4
  rw [hk] at hk5
  have b1 : A % 4 < 4 := Nat.mod_lt _ (by omega)
  have hs := same18_nil
  have hnw : q.mod.nw = q.now := rfl
  rw [← hnw] at hq hn
  simp only [Int.cast_ofNat_Int] at hk5 hA4
  generalize A % 4 = a4 at *
  have w0 : IntKind.i64.wrap (a4 : Int) = a4 := wrap64 (by omega) (by omega)
  have w1 : IntKind.i64.wrap (q.mod.nw + (a4 : Int)) = q.mod.nw + a4 := wrap64 (by omega) (by omega)
  have w2 : IntKind.i64.wrap (q.mod.nw - 1) = q.mod.nw - 1 := wrap64 (by omega) (by omega)
  unfold noL nilF at h17
  unfold nilF at hs
  simp only [Qs.st, Qs.stm, Qs.obs, Qs.obk, Ms.obs, Ms.obm, List.cons_append, List.nil_append] at h17 h44 ⊢
  clear hnw
  generalize q.mod = m at *
  generalize q.es.map Ent.p = M1 at *
  generalize q.ts.map Tck.p = M2 at *
  generalize m.es.map Me.d = E at *
  refine run_code (s := s24 5) rfl rfl rfl (by kernel_rfl) ?_
  by_cases hB255 : B = 255
  · subst hB255
    rw [if_pos rfl] at hn
    subst hn
    simp [s24, eqCells, T3, T4, T5, T9, T22, T23, T25, T27, T28, T32, T34, T38, T40, T46, T49, T51, T54, T57, T65, T66, T72, T74, T76, T77, T79, T81, T87, T89, T90, T92, T101, T107, T109, T119, T125, T128, T130, T133, T140, T148, T150, T151, CT, CQ, QQ, hk5, hA4, w0, w1, w2, h17, h44, hc, hs]
  · rw [if_neg hB255] at hn
    subst hn
    have hB' : ¬ (B : Int) = 255 := by omega
    simp [s24, eqCells, T3, T4, T5, T9, T22, T23, T25, T27, T28, T32, T34, T38, T40, T46, T49, T51, T54, T57, T65, T66, T72, T74, T76, T77, T79, T81, T87, T89, T90, T92, T101, T107, T109, T119, T125, T128, T130, T133, T140, T148, T150, T151, CT, CQ, QQ, hk5, hA4, w0, w1, w2, h17, h44, hc, hs, hB']
set_option maxRecDepth 100000 in
set_option maxHeartbeats 8000000 in
theorem do24_lease_ok (q q2 : Qs) (now : Int) (e : Ent) (J : Nat) (el : List D) (E2 : List D) (u1 u2 u3 u4 : Int) (SA SB : Int)
    (h17 : run CC 17 [.ptr 0 0, .d (.int .i64 now)] q.obs = some (.tup [.d (.agg [.int .i64 u1, .int .i64 u2, .int .i64 u3, .int .i64 u4]), .d (frD e.a e.s SA SB), .d (.int .i64 0)], q2.obs))
    (h44 : run CC 44 [.ptr 0 0, .d (.int .i64 now)] q.mod.obs = some (.tup [.d (.int .i64 J), .d (.int .i64 0)], q2.mod.obs)) (hE2 : q2.mod.es.map Me.d = E2) (hJ : E2[J]? = some (.agg [.int .i64 e.a, .int .i64 e.s, .sl (spD SA SB), .sl (exD SA), .int .i64 u1, .int .i64 u2, .int .i64 u3, .int .i64 u4])) (k A B : Nat) (hk : k % 5 = 1) (hA : A < 256) (hB : B < 256) (hq : 0 ≤ q.now ∧ q.now < 1000000) (hn : now = if B = 255 then q.now - 1 else q.now + ((A % 4 : Nat) : Int)) :
    run CC 24 [.ptr 0 0, .ptr 2 0, .d (.agg [.int .u8 k, .int .u8 A, .int .u8 B])] q.st = some (.d (.bool true), q2.st) := by
  have hk5 := rem_nat k 5
  have hA4 := rem_nat A 4
  rw [hk] at hk5
  have b1 : A % 4 < 4 := Nat.mod_lt _ (by omega)
  have hs := same18_run e.a e.s SA SB
  have hnw : q.mod.nw = q.now := rfl
  rw [← hnw] at hq hn
  have hl2 : E2.length = q2.mod.es.length := by rw [← hE2]; simp
  have hJl := (List.getElem?_eq_some_iff.1 hJ)
  obtain ⟨hJ1, hJ2⟩ := hJl
  have hJ3 : (J : Int) < q2.mod.es.length := by omega
  simp only [Int.cast_ofNat_Int] at hk5 hA4
  generalize A % 4 = a4 at *
  have w0 : IntKind.i64.wrap (a4 : Int) = a4 := wrap64 (by omega) (by omega)
  have w1 : IntKind.i64.wrap (q.mod.nw + (a4 : Int)) = q.mod.nw + a4 := wrap64 (by omega) (by omega)
  have w2 : IntKind.i64.wrap (q.mod.nw - 1) = q.mod.nw - 1 := wrap64 (by omega) (by omega)
  unfold frD at h17 hs
  simp only [Qs.st, Qs.stm, Qs.obs, Qs.obk, Ms.obs, Ms.obm, List.cons_append, List.nil_append] at h17 h44 ⊢
  rw [hE2] at h44 ⊢
  clear hnw hE2
  generalize q.mod = m at *
  generalize q2.mod = m2 at *
  generalize q.es.map Ent.p = M1 at *
  generalize q.ts.map Tck.p = M2 at *
  generalize q2.es.map Ent.p = M3 at *
  generalize q2.ts.map Tck.p = M4 at *
  generalize m.es.map Me.d = E at *
  generalize spD SA SB = S at *
  generalize exD SA = X at *
  refine run_code (s := s24 5) rfl rfl rfl (by kernel_rfl) ?_
  by_cases hB255 : B = 255
  · subst hB255
    rw [if_pos rfl] at hn
    subst hn
    simp [s24, eqCells, T3, T4, T5, T9, T22, T23, T25, T27, T28, T32, T34, T38, T40, T46, T49, T51, T54, T57, T65, T66, T72, T74, T76, T77, T79, T81, T87, T89, T90, T92, T101, T107, T109, T119, T125, T128, T130, T133, T140, T148, T150, T151, CT, CQ, QQ, hk5, hA4, w0, w1, w2, h17, h44, hs, hJ, hJ1, hJ2, hJ3, hl2]
  · rw [if_neg hB255] at hn
    subst hn
    have hB' : ¬ (B : Int) = 255 := by omega
    simp [s24, eqCells, T3, T4, T5, T9, T22, T23, T25, T27, T28, T32, T34, T38, T40, T46, T49, T51, T54, T57, T65, T66, T72, T74, T76, T77, T79, T81, T87, T89, T90, T92, T101, T107, T109, T119, T125, T128, T130, T133, T140, T148, T150, T151, CT, CQ, QQ, hk5, hA4, w0, w1, w2, h17, h44, hs, hB', hJ, hJ1, hJ2, hJ3, hl2]
end Go.Proofs.YtdgpipoffcajgaaV
