/- do: Offer, Lease. -/
import Derived.Test.YtdgpipoffcajgaaQe8
set_option linter.unusedVariables false
set_option linter.unusedSimpArgs false
namespace Go.Proofs.YtdgpipoffcajgaaV
open Go.RowKit
attribute [local simp] TK.agg constAV evalAV EK.has EK.hasAll vecEls elsR AV.toD toDs AV.cells AV.one joinD TyI.zeroD OpR.of binIntF binStrF AV.isPtr ptrNil slNil mpNil nilE eqF negF posF binF pelF pvLoad pelSet pvStore boxLoad epLoad loadF boxStore storeF fieldAddrF fieldF epOf indexAddrF byteF indexF mapLen lenF cutF sliceF sliceN sliceX isSl slice3F fillF fillV arrFs buildF partsX landV buildSliceF roomB appVec appendF appMkF capF mmFrom mmF max2' min2' clearVec clearF convF unF pickF nilChkF extF ptrsOf callF makeSliceF sameKs sameD kindIs plainFs keyOk mapOb mapEs okV lookF lookupF putE putS mapPut mapUpdateF mapDel deleteF mapAll rangeM rangeF overV hitV nextO nextF entryM entryO entryF itOids builtinF capsOf allocF boxF bytesL bytesF byteTy strTy convertF makeFuncF mapNew makeMapF makeMapH opF reach reachOf AObj.live closedB nodupB packO packL packX backN backG backO obL backE frzX frzO AV.vids frzL landC sameObs landR touchF bitsW D.cells D.decEq D.decEqs AV.decEq AV.decEqs AObj.decEq AV.oids0 AV.oids AObj.oids renG renP AV.ren0 AV.ren envGet envPut envKeep obGet setEff putV St.put stepS keyChk chkD accD Ex.block AV.under AObj.under laysOf roomFor mkvO frzG szOk killO usedBy tidyS canL canS ghost ghostE normSt resOf allSome one0 resultsF finL finishL finish endF startEnv chkC backX comeC AV.flat0 rngC loopO layL endLp busyL idleL noRng rndSt rndEnd wpn_nil wpn_seq wpn_loop wpn_seq_exit wpn_loop_exit wpn_seq_ret wpn_loop_ret wpn_block wpn_post wpk_skip wpk_exit wpk_ret wpk_reg wpk_seq wpk_condT wpk_block wpk_loop wpk_pre wpk_post wop_nil wop_cons wop_guard St.know envSet cond_d cond_bool cond_int cond_str endE endQ freeB disj pushT bitsW int_beq int_bne eqS_def tbE fuelL_eq ann0_lays ann0_dd ann0_ro elsOf_dsl elsOf_dnils toNat_succ nn_succ pos_succ one_succ rng1 rng2 rng3 rng4 rng5 rng6 rng7 rng8 List.idxOf_cons wpk_rng rndK rndE
/-- The objects of a model and its queue. -/
abbrev Qs.st (q : Qs) : List AObj := q.mod.obs ++ q.obk 2
abbrev Qs.stm (q : Qs) : List AObj := q.mod.obm ++ q.obk 2
/-- The bounds on the numbers. -/
structure Qs.bd (q : Qs) (j : Nat) : Prop where
  arr : q.arr ≤ j
  iss : q.iss ≤ j
  n0 : 0 ≤ q.now
  now : q.now ≤ 11 * j
  j : j ≤ 1000
theorem mod_len (q : Qs) : q.mod.es.length = q.es.length := by simp [Qs.mod]
set_option maxRecDepth 100000 in
set_option maxHeartbeats 8000000 in
theorem do24_offer (q : Qs) (h : q.wl) (j : Nat) (hb : q.bd j) (k A B : Nat) (hk : k % 5 = 0) (hA : A < 256) (hB : B < 256) (a s : Int) (ea : a = 1 + ((A % 4 : Nat) : Int)) (es : s = ((B % 8 : Nat) : Int)) :
    run CC 24 [.ptr 0 0, .ptr 2 0, .d (.agg [.int .u8 k, .int .u8 A, .int .u8 B])] q.st = some (.d (.bool true), if offR q a s = 0 then (q.add a s (.sl (spD A B)) (.sl (exD A))).stm else q.st) := by
  have hk5 := rem_nat k 5
  have hA4 := rem_nat A 4
  rw [hk] at hk5
  have b1 : A % 4 < 4 := Nat.mod_lt _ (by omega)
  have b2 : B % 8 < 8 := Nat.mod_lt _ (by omega)
  have hfr := fragment28_run k A B hA hB
  rw [← ea, ← es] at hfr
  have har : 1 ≤ a ∧ a ≤ 100 := by omega
  have hlen := h.es.le
  have hl0 := h.l0
  have hj := hb.j
  have harr := hb.arr
  have h14 := credit14_run q h.ok a h.lim
  have h42 := credit42_run q.mod (mod_fr h.towf) (by rw [mod_len]; omega) a ⟨by show -1000 ≤ q.la; omega, by show q.la ≤ 1000; omega, by show -1000 ≤ q.lb; omega, by show q.lb ≤ 1000; omega⟩
  have hcp := copied34_fr a s A B
  have h15 := offer15_run q h.ok h.lim h.es.ids h.fr.frs a s (.sl (spD A B)) (.sl (exD A)) ⟨har.1, by omega, by omega, by omega⟩ (.inr ⟨_, _, rfl, rfl⟩) hcp ⟨h.a0.1, by omega⟩
  have h43 := offer43_run q.mod (mod_fr h.towf) (by rw [mod_len]; omega) a s (spD A B) (exD A) ⟨by show -1000 ≤ q.la; omega, by show q.la ≤ 1000; omega, by show -1000 ≤ q.lb; omega, by show q.lb ≤ 1000; omega⟩
  rw [mod_crd h har] at h14
  have hma := mod_add h.towf a s (.sl (spD A B)) (.sl (exD A))
  have hoR := mod_offR h har s
  unfold offM at h43
  unfold offQ at h15
  rw [hoR] at h43
  have hb0 := hb.n0
  have hb1 := hb.now
  have hnw : q.mod.nw = q.now := rfl
  rw [← hnw] at hb0 hb1
  generalize crm q.mod a = cr at *
  simp only [Int.cast_ofNat_Int] at hk5 hA4
  unfold frD at hfr
  generalize spD A B = S at *
  generalize exD A = X at *
  generalize A % 4 = a4 at *
  have w0 : IntKind.i64.wrap (a4 : Int) = a4 := wrap64 (by omega) (by omega)
  have w1 : IntKind.i64.wrap (q.mod.nw + (a4 : Int)) = q.mod.nw + a4 := wrap64 (by omega) (by omega)
  have w2 : IntKind.i64.wrap (q.mod.nw - 1) = q.mod.nw - 1 := wrap64 (by omega) (by omega)
  clear ea es hoR
  by_cases hof : offR q a s = 0
  · rw [if_pos hof] at h43 h15 ⊢
    rw [hof] at h43 h15
    simp only [Qs.st, Qs.stm, Qs.obs, Qs.obk, Ms.obs, Ms.obm, List.cons_append, List.nil_append] at h14 h42 h15 h43 ⊢
    rw [hma]
    generalize q.add a s (.sl S) (.sl X) = q2 at *
    generalize q.mod.add a s (.sl S) (.sl X) = m2 at *
    generalize q.mod = m at *
    generalize q.es.map Ent.p = M1 at *
    generalize q.ts.map Tck.p = M2 at *
    generalize q2.es.map Ent.p = M3 at *
    generalize q2.ts.map Tck.p = M4 at *
    generalize m.es.map Me.d = E at *
    generalize m2.es.map Me.d = E2 at *
    refine run_code (s := s24 5) rfl rfl rfl (by kernel_rfl) ?_
    by_cases hB255 : (B : Int) = 255
    · rw [hB255] at hfr
      simp [s24, eqCells, T3, T4, T5, T9, T22, T23, T25, T27, T28, T32, T34, T38, T40, T46, T49, T51, T54, T57, T65, T66, T72, T74, T76, T77, T79, T81, T87, T89, T90, T92, T101, T107, T109, T119, T125, T128, T130, T133, T140, T148, T150, T151, CT, CQ, QQ, hk5, hA4, w0, w1, w2, hB255, hfr, h14, h42, h15, h43]
    · simp [s24, eqCells, T3, T4, T5, T9, T22, T23, T25, T27, T28, T32, T34, T38, T40, T46, T49, T51, T54, T57, T65, T66, T72, T74, T76, T77, T79, T81, T87, T89, T90, T92, T101, T107, T109, T119, T125, T128, T130, T133, T140, T148, T150, T151, CT, CQ, QQ, hk5, hA4, w0, w1, w2, hB255, hfr, h14, h42, h15, h43]
  · rw [if_neg hof] at h43 h15 ⊢
    simp only [Qs.st, Qs.stm, Qs.obs, Qs.obk, Ms.obs, Ms.obm, List.cons_append, List.nil_append] at h14 h42 h15 h43 ⊢
    generalize q.mod = m at *
    generalize q.es.map Ent.p = M1 at *
    generalize q.ts.map Tck.p = M2 at *
    generalize m.es.map Me.d = E at *
    generalize offR q a s = rr at *
    refine run_code (s := s24 5) rfl rfl rfl (by kernel_rfl) ?_
    by_cases hB255 : (B : Int) = 255
    · rw [hB255] at hfr
      simp [s24, eqCells, T3, T4, T5, T9, T22, T23, T25, T27, T28, T32, T34, T38, T40, T46, T49, T51, T54, T57, T65, T66, T72, T74, T76, T77, T79, T81, T87, T89, T90, T92, T101, T107, T109, T119, T125, T128, T130, T133, T140, T148, T150, T151, CT, CQ, QQ, hk5, hA4, w0, w1, w2, hB255, hfr, h14, h42, h15, h43]
    · simp [s24, eqCells, T3, T4, T5, T9, T22, T23, T25, T27, T28, T32, T34, T38, T40, T46, T49, T51, T54, T57, T65, T66, T72, T74, T76, T77, T79, T81, T87, T89, T90, T92, T101, T107, T109, T119, T125, T128, T130, T133, T140, T148, T150, T151, CT, CQ, QQ, hk5, hA4, w0, w1, w2, hB255, hfr, h14, h42, h15, h43]
end Go.Proofs.YtdgpipoffcajgaaV
