/- The closure that compares arrivals; SortFunc of identities. -/
import Derived.Test.YtdgpipoffcajgaaQc2
import Derived.Test.YtdgpipoffcajgaaVC
set_option linter.unusedVariables false
set_option linter.unusedSimpArgs false
namespace Go.Proofs.YtdgpipoffcajgaaV
open Go.RowKit
attribute [local simp] TK.agg constAV evalAV EK.has EK.hasAll vecEls elsR AV.toD toDs AV.cells AV.one joinD TyI.zeroD OpR.of binIntF binStrF AV.isPtr ptrNil slNil mpNil nilE eqF negF posF binF pelF pvLoad pelSet pvStore boxLoad epLoad loadF boxStore storeF fieldAddrF fieldF epOf indexAddrF byteF indexF mapLen lenF cutF sliceF sliceN sliceX isSl slice3F fillF fillV arrFs buildF partsX landV buildSliceF roomB appVec appendF appMkF capF mmFrom mmF max2' min2' clearVec clearF convF unF pickF nilChkF extF ptrsOf callF makeSliceF sameKs sameD kindIs plainFs keyOk mapOb mapEs okV lookF lookupF putE putS mapPut mapUpdateF mapDel deleteF mapAll rangeM rangeF overV hitV nextO nextF entryM entryO entryF itOids builtinF capsOf allocF boxF bytesL bytesF byteTy strTy convertF makeFuncF mapNew makeMapF makeMapH opF reach reachOf AObj.live closedB nodupB packO packL packX backN backG backO obL backE frzX frzO AV.vids frzL landC sameObs landR touchF bitsW D.cells D.decEq D.decEqs AV.decEq AV.decEqs AObj.decEq AV.oids0 AV.oids AObj.oids renG renP AV.ren0 AV.ren envGet envPut envKeep obGet setEff putV St.put stepS keyChk chkD accD Ex.block AV.under AObj.under laysOf roomFor mkvO frzG szOk killO usedBy tidyS canL canS ghost ghostE normSt resOf allSome one0 resultsF finL finishL finish endF startEnv chkC backX comeC AV.flat0 rngC loopO layL endLp busyL idleL noRng rndSt rndEnd wpn_nil wpn_seq wpn_loop wpn_seq_exit wpn_loop_exit wpn_seq_ret wpn_loop_ret wpn_block wpn_post wpk_skip wpk_exit wpk_ret wpk_reg wpk_seq wpk_condT wpk_block wpk_loop wpk_pre wpk_post wop_nil wop_cons wop_guard St.know envSet cond_d cond_bool cond_int cond_str endE endQ freeB disj pushT bitsW int_beq int_bne eqS_def tbE fuelL_eq ann0_lays ann0_dd ann0_ro elsOf_dsl elsOf_dnils toNat_succ nn_succ pos_succ one_succ rng1 rng2 rng3 rng4 rng5 rng6 rng7 rng8 List.idxOf_cons wpk_rng rndK rndE
def idK : KeyEnc Iv := ⟨iD, fun a b => decide (a = b), fun a b => by
  obtain ⟨a1, a2⟩ := a; obtain ⟨b1, b2⟩ := b
  by_cases h1 : a1 = b1 <;> by_cases h2 : a2 = b2 <;> simp [sameD, sameKs, iD, eqCells, h1, h2], fun a b => by simp⟩
abbrev kvE (es : List Ent) : List (Iv × Ent) := es.map fun e => ((e.a, e.s), e)
theorem es_map (es : List Ent) : es.map Ent.p = mapD idK (fun e => (Ent.p e).2) (kvE es) := by
  unfold mapD kvE
  rw [List.map_map]
  rfl
def arrOf (es : List Ent) (x : Iv) : Int := ((lookP idK x (kvE es)).map Ent.arr).getD 0
def cmpZ (a b : Int) : Int := if a < b then -1 else if b < a then 1 else 0
def cmpQ (es : List Ent) (x y : Iv) : Int := cmpZ (arrOf es x) (arrOf es y)
theorem nan63_run (a : Int) : run CC 63 [.d (.int .i64 a)] [] = some (.d (.bool false), []) := by
  refine run_code (s := s63 0) rfl rfl rfl (by kernel_rfl) ?_
  simp [s63, eqCells, T3, T4, T5, T9, T22, T23, T25, T27, T32, T34, T38, T40, T46, T49, T51, T54, T57, T66, T72, T74, T76, T77, T79, T81, T87, T89, T90, T92, T101, T107, T109, T119, T125, T128, T130, T133, T140, T148, T150, T151, CT]
theorem cmp41_run (a b : Int) : run CC 41 [.d (.int .i64 a), .d (.int .i64 b)] [] = some (.d (.int .i64 (cmpZ a b)), []) := by
  refine run_code (s := s41 0) rfl rfl rfl (by kernel_rfl) ?_
  have h1 := nan63_run a
  have h2 := nan63_run b
  unfold cmpZ
  by_cases ha : a < b
  · simp [s41, eqCells, T3, T4, T5, T9, T22, T23, T25, T27, T32, T34, T38, T40, T46, T49, T51, T54, T57, T66, T72, T74, T76, T77, T79, T81, T87, T89, T90, T92, T101, T107, T109, T119, T125, T128, T130, T133, T140, T148, T150, T151, CT, h1, h2, ha]
  · by_cases hb : b < a
    · simp [s41, eqCells, T3, T4, T5, T9, T22, T23, T25, T27, T32, T34, T38, T40, T46, T49, T51, T54, T57, T66, T72, T74, T76, T77, T79, T81, T87, T89, T90, T92, T101, T107, T109, T119, T125, T128, T130, T133, T140, T148, T150, T151, CT, h1, h2, ha, hb]
    · simp [s41, eqCells, T3, T4, T5, T9, T22, T23, T25, T27, T32, T34, T38, T40, T46, T49, T51, T54, T57, T66, T72, T74, T76, T77, T79, T81, T87, T89, T90, T92, T101, T107, T109, T119, T125, T128, T130, T133, T140, T148, T150, T151, CT, h1, h2, ha, hb]
theorem find_id (es : List Ent) (x : Iv) : findD (.agg [.int .i64 x.1, .int .i64 x.2]) (es.map Ent.p) 0 = some ((lookP idK x (kvE es)).map fun e => (0 + idxP idK x (kvE es), .agg [.int .i64 e.a, .int .i64 e.s, e.S, e.X, .int .i64 e.arr, .int .i64 e.tk])) := by
  rw [es_map]
  exact findD_look idK (fun e => (Ent.p e).2) x (kvE es) 0
set_option maxRecDepth 100000 in
set_option maxHeartbeats 4000000 in
theorem cmp60_run (la lb lc ar is sv nw : Int) (es : List Ent) (L2 : List (D × D)) (B1 B2 : List Nat) (K1 K2 : Nat) (x y : Iv) :
    run CC 60 [.d (.agg [.int .i64 x.1, .int .i64 x.2]), .d (.agg [.int .i64 y.1, .int .i64 y.2]), .ptr 0 0] [.box [.ptr 1 0], .box [.d (.int .i64 la), .d (.int .i64 lb), .d (.int .i64 lc), .mp 2, .mp 3, .d (.int .i64 ar), .d (.int .i64 is), .d (.int .i64 sv), .d (.int .i64 nw)], .mapd (es.map Ent.p) B1 K1, .mapd L2 B2 K2]
      = some (.d (.int .i64 (cmpQ es x y)), [.box [.ptr 1 0], .box [.d (.int .i64 la), .d (.int .i64 lb), .d (.int .i64 lc), .mp 2, .mp 3, .d (.int .i64 ar), .d (.int .i64 is), .d (.int .i64 sv), .d (.int .i64 nw)], .mapd (es.map Ent.p) B1 K1, .mapd L2 B2 K2]) := by
  refine run_code (s := s60 4) rfl rfl rfl (by kernel_rfl) ?_
  have f1 := find_id es x
  have f2 := find_id es y
  have h := cmp41_run (arrOf es x) (arrOf es y)
  unfold cmpQ
  unfold arrOf at h ⊢
  generalize es.map Ent.p = L1 at *
  cases hx : lookP idK x (kvE es) with
  | none =>
    rw [hx] at f1 h
    cases hy : lookP idK y (kvE es) with
    | none =>
      rw [hy] at f2 h
      simp at f1 f2 h
      simp [s60, eqCells, T3, T4, T5, T9, T22, T23, T25, T27, T32, T34, T38, T40, T46, T49, T51, T54, T57, T66, T72, T74, T76, T77, T79, T81, T87, T89, T90, T92, T101, T107, T109, T119, T125, T128, T130, T133, T140, T148, T150, T151, CT, CQ, QQ, f1, f2, h]
    | some e =>
      rw [hy] at f2 h
      simp at f1 f2 h
      simp [s60, eqCells, T3, T4, T5, T9, T22, T23, T25, T27, T32, T34, T38, T40, T46, T49, T51, T54, T57, T66, T72, T74, T76, T77, T79, T81, T87, T89, T90, T92, T101, T107, T109, T119, T125, T128, T130, T133, T140, T148, T150, T151, CT, CQ, QQ, f1, f2, h]
  | some e1 =>
    rw [hx] at f1 h
    cases hy : lookP idK y (kvE es) with
    | none =>
      rw [hy] at f2 h
      simp at f1 f2 h
      simp [s60, eqCells, T3, T4, T5, T9, T22, T23, T25, T27, T32, T34, T38, T40, T46, T49, T51, T54, T57, T66, T72, T74, T76, T77, T79, T81, T87, T89, T90, T92, T101, T107, T109, T119, T125, T128, T130, T133, T140, T148, T150, T151, CT, CQ, QQ, f1, f2, h]
    | some e =>
      rw [hy] at f2 h
      simp at f1 f2 h
      simp [s60, eqCells, T3, T4, T5, T9, T22, T23, T25, T27, T32, T34, T38, T40, T46, T49, T51, T54, T57, T66, T72, T74, T76, T77, T79, T81, T87, T89, T90, T92, T101, T107, T109, T119, T125, T128, T130, T133, T140, T148, T150, T151, CT, CQ, QQ, f1, f2, h]
end Go.Proofs.YtdgpipoffcajgaaV
