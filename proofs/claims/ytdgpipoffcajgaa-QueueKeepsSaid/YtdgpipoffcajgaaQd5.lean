/- next. -/
import Derived.Test.YtdgpipoffcajgaaQd4
import Derived.Test.YtdgpipoffcajgaaVC
set_option linter.unusedVariables false
set_option linter.unusedSimpArgs false
namespace Go.Proofs.YtdgpipoffcajgaaV
open Go.RowKit
attribute [local simp] TK.agg constAV evalAV EK.has EK.hasAll vecEls elsR AV.toD toDs AV.cells AV.one joinD TyI.zeroD OpR.of binIntF binStrF AV.isPtr ptrNil slNil mpNil nilE eqF negF posF binF pelF pvLoad pelSet pvStore boxLoad epLoad loadF boxStore storeF fieldAddrF fieldF epOf indexAddrF byteF indexF mapLen lenF cutF sliceF sliceN sliceX isSl slice3F fillF fillV arrFs buildF partsX landV buildSliceF roomB appVec appendF appMkF capF mmFrom mmF max2' min2' clearVec clearF convF unF pickF nilChkF extF ptrsOf callF makeSliceF sameKs sameD kindIs plainFs keyOk mapOb mapEs okV lookF lookupF putE putS mapPut mapUpdateF mapDel deleteF mapAll rangeM rangeF overV hitV nextO nextF entryM entryO entryF itOids builtinF capsOf allocF boxF bytesL bytesF byteTy strTy convertF makeFuncF mapNew makeMapF makeMapH opF reach reachOf AObj.live closedB nodupB packO packL packX backN backG backO obL backE frzX frzO AV.vids frzL landC sameObs landR touchF bitsW D.cells D.decEq D.decEqs AV.decEq AV.decEqs AObj.decEq AV.oids0 AV.oids AObj.oids renG renP AV.ren0 AV.ren envGet envPut envKeep obGet setEff putV St.put stepS keyChk chkD accD Ex.block AV.under AObj.under laysOf roomFor mkvO frzG szOk killO usedBy tidyS canL canS ghost ghostE normSt resOf allSome one0 resultsF finL finishL finish endF startEnv chkC backX comeC AV.flat0 rngC loopO layL endLp busyL idleL noRng rndSt rndEnd wpn_nil wpn_seq wpn_loop wpn_seq_exit wpn_loop_exit wpn_seq_ret wpn_loop_ret wpn_block wpn_post wpk_skip wpk_exit wpk_ret wpk_reg wpk_seq wpk_condT wpk_block wpk_loop wpk_pre wpk_post wop_nil wop_cons wop_guard St.know envSet cond_d cond_bool cond_int cond_str endE endQ freeB disj pushT bitsW int_beq int_bne eqS_def tbE fuelL_eq ann0_lays ann0_dd ann0_ro elsOf_dsl elsOf_dnils toNat_succ nn_succ pos_succ one_succ rng1 rng2 rng3 rng4 rng5 rng6 rng7 rng8 List.idxOf_cons wpk_rng rndK rndE
def rk (srv a : Int) : Int := if srv < a then a else a + 1048576
theorem rank58_run (la lb lc ar is sv nw : Int) (M1 M2 : List (D × D)) (B1 B2 : List Nat) (K1 K2 : Nat) (a s : Int) (ha : 0 ≤ a ∧ a ≤ 1048576) :
    run CC 58 [.d (.agg [.int .i64 a, .int .i64 s]), .ptr 0 0] [.box [.ptr 1 0], .box [.d (.int .i64 la), .d (.int .i64 lb), .d (.int .i64 lc), .mp 2, .mp 3, .d (.int .i64 ar), .d (.int .i64 is), .d (.int .i64 sv), .d (.int .i64 nw)], .mapd M1 B1 K1, .mapd M2 B2 K2]
      = some (.d (.int .i64 (rk sv a)), [.box [.ptr 1 0], .box [.d (.int .i64 la), .d (.int .i64 lb), .d (.int .i64 lc), .mp 2, .mp 3, .d (.int .i64 ar), .d (.int .i64 is), .d (.int .i64 sv), .d (.int .i64 nw)], .mapd M1 B1 K1, .mapd M2 B2 K2]) := by
  refine run_code (s := s58 4) rfl rfl rfl (by kernel_rfl) ?_
  unfold rk
  by_cases h : sv < a
  · simp [s58, eqCells, T3, T4, T5, T9, T22, T23, T25, T27, T32, T34, T38, T40, T46, T49, T51, T54, T57, T66, T72, T74, T76, T77, T79, T81, T87, T89, T90, T92, T101, T107, T109, T119, T125, T128, T130, T133, T140, T148, T150, T151, CT, h]
  · have w1 : IntKind.i64.wrap (a + 1048576) = a + 1048576 := wrap64 (by omega) (by omega)
    simp [s58, eqCells, T3, T4, T5, T9, T22, T23, T25, T27, T32, T34, T38, T40, T46, T49, T51, T54, T57, T66, T72, T74, T76, T77, T79, T81, T87, T89, T90, T92, T101, T107, T109, T119, T125, T128, T130, T133, T140, T148, T150, T151, CT, h, w1]
/-- The best of identities: the first of the least rank. -/
def bst (srv : Int) : Iv → List Iv → Iv
  | b, [] => b
  | b, x :: l => bst srv (if rk srv x.1 < rk srv b.1 then x else b) l
def nextI (srv : Int) : List Iv → Option Iv
  | [] => none
  | x :: l => some (bst srv x l)
def nextV : Option Iv → AV
  | none => .tup [.d (.agg [.int .i64 0, .int .i64 0]), .d (.bool false)]
  | some x => .tup [.d (iD x), .d (.bool true)]
theorem bst_mem (srv : Int) : ∀ (b : Iv) (l : List Iv), bst srv b l ∈ b :: l
  | b, [] => by simp [bst]
  | b, x :: l => by
    have := bst_mem srv (if rk srv x.1 < rk srv b.1 then x else b) l
    unfold bst
    split at this
    · rename_i h; rw [if_pos h]; rcases List.mem_cons.1 this with e | e
      · rw [e]; simp
      · simp [e]
    · rename_i h; rw [if_neg h]; rcases List.mem_cons.1 this with e | e
      · rw [e]; simp
      · simp [e]
theorem sz_iD (l : List Iv) : szAll 2 (l.map iD) = true := szAll_map iD 2 (fun _ => rfl) l
set_option maxRecDepth 100000 in
set_option maxHeartbeats 4000000 in
theorem next35_run (q : Qs) (hq : q.ok) (he : esOk q.es) (hr : ∀ e ∈ q.es, inR e.a e.s) : run CC 35 [.ptr 0 0] q.obs = some (nextV (nextI q.srv (wts q.es)), q.obs) := by
  have h := waiting21_run q hq he
  have hin : ∀ x ∈ wts q.es, 0 ≤ x.1 ∧ x.1 ≤ 1048576 := by
    intro x hx
    obtain ⟨e, hem, rfl⟩ := List.mem_map.1 hx
    have := hr e (List.mem_filter.1 hem).1
    exact ⟨by have := this.a1; simp only [Ent.iv]; omega, this.a2⟩
  have hle : (wts q.es).length ≤ 12 := by
    have := he.le
    unfold wts idsW
    rw [List.length_map]
    exact Nat.le_trans (List.length_filter_le _ _) this
  have hrk := fun (x : Iv) hx => rank58_run q.la q.lb q.lc q.arr q.iss q.srv q.now (q.es.map Ent.p) (q.ts.map Tck.p) q.bs q.cs q.ck q.dk x.1 x.2 hx
  simp only [Qs.obs] at h ⊢
  generalize q.es.map Ent.p = M1 at *
  generalize q.ts.map Tck.p = M2 at *
  generalize wts q.es = W at *
  refine run_code (s := s35 3) rfl rfl rfl (by kernel_rfl) ?_
  cases W with
  | nil =>
    simp only [List.map_nil, List.length_nil] at h
    simp [s35, eqCells, T3, T4, T5, T9, T22, T23, T25, T27, T32, T34, T38, T40, T46, T49, T51, T54, T57, T66, T72, T74, T76, T77, T79, T81, T87, T89, T90, T92, T101, T107, T109, T119, T125, T128, T130, T133, T140, T148, T150, T151, CT, List.lookup, h, nextI, nextV]
  | cons x0 tl =>
    simp only [nextI, nextV]
    have hd : ((x0 :: tl).map iD) = .agg [.int .i64 x0.1, .int .i64 x0.2] :: tl.map iD := rfl
    rw [hd, List.length_cons] at h
    have hll : (tl.map iD).length = tl.length := by simp
    have hl12 : tl.length ≤ 11 := by simpa using hle
    have hlp : (0 : Int) < (tl.length : Int) + 1 := by omega
    have hlp1 : (1 : Int) ≤ (tl.length : Int) + 1 := by omega
    have htn : ((tl.length : Int) + 1).toNat - 1 = tl.length := by omega
    have htk : (tl.map iD).take tl.length = tl.map iD := takeM _ _
    have hget : ∀ (i : Nat) (hi : i < tl.length), (tl.map iD)[i]? = some (.agg [.int .i64 tl[i].1, .int .i64 tl[i].2]) := fun i hi => by simp [hi, iD]
    have hz : szAll 2 (.agg [.int .i64 x0.1, .int .i64 x0.2] :: tl.map iD) = true := sz_iD (x0 :: tl)
    generalize hE : tl.map iD = E at *
    simp [s35, eqCells, T3, T4, T5, T9, T22, T23, T25, T27, T32, T34, T38, T40, T46, T49, T51, T54, T57, T66, T72, T74, T76, T77, T79, T81, T87, T89, T90, T92, T101, T107, T109, T119, T125, T128, T130, T133, T140, T148, T150, T151, CT, List.lookup, h, hll, hlp, hlp1, htn, htk, hz]
    have hin' : ∀ x ∈ x0 :: tl, 0 ≤ x.1 ∧ x.1 ≤ 1048576 := hin
    refine ⟨by omega, ?_⟩
    refine wlp_inv (S := fun p : Nat × Iv => ⟨[(2, .ptr 4 0), (5, .fn 58 [] [(3, 0)]), (6, .ptr 6 0), (20, .d (.sl E)), (21, .d (.int .i64 tl.length)), (22, .d (.int .i64 p.1))], [.box [.d (.int .i64 q.la), .d (.int .i64 q.lb), .d (.int .i64 q.lc), .mp 1, .mp 2, .d (.int .i64 q.arr), .d (.int .i64 q.iss), .d (.int .i64 q.srv), .d (.int .i64 q.now)], .mapd M1 q.bs q.ck, .mapd M2 q.cs q.dk, .box [.ptr 0 0], .box [.d (.int .i64 0), .d (.int .i64 0)], .dead, .box [.d (.int .i64 p.2.1), .d (.int .i64 p.2.2)]]⟩) (m := fun p => tl.length - p.1) (Inv := fun p => p.1 ≤ tl.length ∧ p.2 ∈ x0 :: tl ∧ bst q.srv p.2 (tl.drop p.1) = bst q.srv x0 tl) ?_ (0, x0) ⟨Nat.zero_le _, by simp, rfl⟩
    rintro ⟨i, b⟩ ⟨hi, hb, hm⟩ ih
    rw [e35_1]
    simp only at hi hb hm ⊢
    rw [← hm]
    rw [← hm] at ih
    by_cases hlt : i < tl.length
    · have hx := hget i hlt
      have hxm : tl[i] ∈ x0 :: tl := List.mem_cons_of_mem _ (List.getElem_mem hlt)
      have hr1 := hrk tl[i] (hin' _ hxm)
      have hr2 := hrk b (hin' _ hb)
      have hdr : bst q.srv b (tl.drop i) = bst q.srv (if rk q.srv tl[i].1 < rk q.srv b.1 then tl[i] else b) (tl.drop (i + 1)) := by
        rw [List.drop_eq_getElem_cons hlt]; rfl
      have w1 : IntKind.i64.wrap ((i : Int) + 1) = (i : Int) + 1 := wrap64 (by omega) (by omega)
      have p1 : (i : Int) < tl.length := by omega
      have hi1 : i < E.length := by omega
      have hEi : E[i] = .agg [.int .i64 tl[i].1, .int .i64 tl[i].2] := (List.getElem?_eq_some_iff.1 hx).2
      by_cases hc : rk q.srv tl[i].1 < rk q.srv b.1
      · rw [if_pos hc] at hdr
        have ih2 := ih (i + 1, tl[i]) ⟨by omega, hxm, hdr.symm⟩ (by simp only; omega)
        rw [hdr] at ih2 ⊢
        generalize bst q.srv tl[i] (tl.drop (i + 1)) = R at *
        clear ih hget hin' hin hrk
        generalize tl[i] = y at *
        simp at ih2
        simp [c35_1, eqCells, T3, T4, T5, T9, T22, T23, T25, T27, T32, T34, T38, T40, T46, T49, T51, T54, T57, T66, T72, T74, T76, T77, T79, T81, T87, T89, T90, T92, T101, T107, T109, T119, T125, T128, T130, T133, T140, T148, T150, T151, CT, hll, hx, hEi, hi1, hr1, hr2, hc, p1, w1]
        exact ih2
      · rw [if_neg hc] at hdr
        have ih2 := ih (i + 1, b) ⟨by omega, hb, hdr.symm⟩ (by simp only; omega)
        rw [hdr] at ih2 ⊢
        generalize bst q.srv b (tl.drop (i + 1)) = R at *
        clear ih hget hin' hin hrk
        generalize tl[i] = y at *
        simp at ih2
        simp [c35_1, eqCells, T3, T4, T5, T9, T22, T23, T25, T27, T32, T34, T38, T40, T46, T49, T51, T54, T57, T66, T72, T74, T76, T77, T79, T81, T87, T89, T90, T92, T101, T107, T109, T119, T125, T128, T130, T133, T140, T148, T150, T151, CT, hll, hx, hEi, hi1, hr1, hr2, hc, p1, w1]
        exact ih2
    · have : i = tl.length := by omega
      subst this
      simp only [List.drop_length, bst] at ih ⊢
      clear ih
      simp [c35_1, eqCells, T3, T4, T5, T9, T22, T23, T25, T27, T32, T34, T38, T40, T46, T49, T51, T54, T57, T66, T72, T74, T76, T77, T79, T81, T87, T89, T90, T92, T101, T107, T109, T119, T125, T128, T130, T133, T140, T148, T150, T151, CT, hll, iD]
end Go.Proofs.YtdgpipoffcajgaaV
