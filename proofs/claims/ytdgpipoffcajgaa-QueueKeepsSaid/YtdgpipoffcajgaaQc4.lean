/- SortFunc of identities by arrival. -/
import Derived.Test.YtdgpipoffcajgaaQc3
set_option linter.unusedVariables false
set_option linter.unusedSimpArgs false
namespace Go.Proofs.YtdgpipoffcajgaaV
open Go.RowKit
attribute [local simp] TK.agg constAV evalAV EK.has EK.hasAll vecEls elsR AV.toD toDs AV.cells AV.one joinD TyI.zeroD OpR.of binIntF binStrF AV.isPtr ptrNil slNil mpNil nilE eqF negF posF binF pelF pvLoad pelSet pvStore boxLoad epLoad loadF boxStore storeF fieldAddrF fieldF epOf indexAddrF byteF indexF mapLen lenF cutF sliceF sliceN sliceX isSl slice3F fillF fillV arrFs buildF partsX landV buildSliceF roomB appVec appendF appMkF capF mmFrom mmF max2' min2' clearVec clearF convF unF pickF nilChkF extF ptrsOf callF makeSliceF sameKs sameD kindIs plainFs keyOk mapOb mapEs okV lookF lookupF putE putS mapPut mapUpdateF mapDel deleteF mapAll rangeM rangeF overV hitV nextO nextF entryM entryO entryF itOids builtinF capsOf allocF boxF bytesL bytesF byteTy strTy convertF makeFuncF mapNew makeMapF makeMapH opF reach reachOf AObj.live closedB nodupB packO packL packX backN backG backO obL backE frzX frzO AV.vids frzL landC sameObs landR touchF bitsW D.cells D.decEq D.decEqs AV.decEq AV.decEqs AObj.decEq AV.oids0 AV.oids AObj.oids renG renP AV.ren0 AV.ren envGet envPut envKeep obGet setEff putV St.put stepS keyChk chkD accD Ex.block AV.under AObj.under laysOf roomFor mkvO frzG szOk killO usedBy tidyS canL canS ghost ghostE normSt resOf allSome one0 resultsF finL finishL finish endF startEnv chkC backX comeC AV.flat0 rngC loopO layL endLp busyL idleL noRng rndSt rndEnd wpn_nil wpn_seq wpn_loop wpn_seq_exit wpn_loop_exit wpn_seq_ret wpn_loop_ret wpn_block wpn_post wpk_skip wpk_exit wpk_ret wpk_reg wpk_seq wpk_condT wpk_block wpk_loop wpk_pre wpk_post wop_nil wop_cons wop_guard St.know envSet cond_d cond_bool cond_int cond_str endE endQ freeB disj pushT bitsW int_beq int_bne eqS_def tbE fuelL_eq ann0_lays ann0_dd ann0_ro elsOf_dsl elsOf_dnils toNat_succ nn_succ pos_succ one_succ rng1 rng2 rng3 rng4 rng5 rng6 rng7 rng8 List.idxOf_cons wpk_rng rndK rndE
theorem len62_run (n : Nat) (h : n ≤ 12) : ∃ b : Nat, b < 100 ∧ run CC 62 [.d (.int .u64 n)] [] = some (.d (.int .i64 b), []) := by
  have : n = 0 ∨ n = 1 ∨ n = 2 ∨ n = 3 ∨ n = 4 ∨ n = 5 ∨ n = 6 ∨ n = 7 ∨ n = 8 ∨ n = 9 ∨ n = 10 ∨ n = 11 ∨ n = 12 := by omega
  rcases this with rfl | rfl | rfl | rfl | rfl | rfl | rfl | rfl | rfl | rfl | rfl | rfl | rfl
  · exact ⟨0, by decide, run_of_go 100 (by kernel_rfl)⟩
  · exact ⟨1, by decide, run_of_go 100 (by kernel_rfl)⟩
  iterate 2 · exact ⟨2, by decide, run_of_go 100 (by kernel_rfl)⟩
  iterate 4 · exact ⟨3, by decide, run_of_go 100 (by kernel_rfl)⟩
  iterate 5 · exact ⟨4, by decide, run_of_go 100 (by kernel_rfl)⟩
/-- The list that SortFunc leaves. -/
def srtQ (es : List Ent) (l : List Iv) : List Iv := (Go.Sort.insertionSort (ltC (cmpQ es)) l.toArray 0 l.length).toList
set_option maxRecDepth 100000 in
set_option maxHeartbeats 4000000 in
theorem pdq72_run (la lb lc ar is sv nw : Int) (es : List Ent) (L2 : List (D × D)) (B1 B2 : List Nat) (K1 K2 : Nat) (l : List Iv) (hl : l.length ≤ 12) (b : Nat) :
    run CC 72 [.vs 0 0 2 0 l.length, .d (.int .i64 0), .d (.int .i64 l.length), .d (.int .i64 b), .fn 60 [] [(1, 0)]] [.vec 0 false false 38 2 (l.map iD), .box [.ptr 2 0], .box [.d (.int .i64 la), .d (.int .i64 lb), .d (.int .i64 lc), .mp 3, .mp 4, .d (.int .i64 ar), .d (.int .i64 is), .d (.int .i64 sv), .d (.int .i64 nw)], .mapd (es.map Ent.p) B1 K1, .mapd L2 B2 K2] = some (.tup [], [.vec 0 false false 38 2 ((srtQ es l).map iD), .box [.ptr 2 0], .box [.d (.int .i64 la), .d (.int .i64 lb), .d (.int .i64 lc), .mp 3, .mp 4, .d (.int .i64 ar), .d (.int .i64 is), .d (.int .i64 sv), .d (.int .i64 nw)], .mapd (es.map Ent.p) B1 K1, .mapd L2 B2 K2]) := by
  refine run_code (s := s72 5) rfl rfl rfl (by kernel_rfl) ?_
  have hi := ins90_run la lb lc ar is sv nw (es.map Ent.p) L2 B1 B2 K1 K2 60 (by decide) (cmpQ es) (cmp60_run la lb lc ar is sv nw es L2 B1 B2 K1 K2) l.toArray l.length 0 l.length (by simp) (by omega) (by omega) (Nat.le_refl _)
  simp only [vI, eD, List.toList_toArray] at hi
  have w1 : IntKind.i64.wrap (l.length : Int) = l.length := wrap64 (by omega) (by omega)
  have p1 : (l.length : Int) ≤ 12 := by omega
  unfold srtQ
  generalize (Go.Sort.insertionSort (ltC (cmpQ es)) l.toArray 0 l.length).toList.map iD = F at *
  generalize es.map Ent.p = L1 at *
  generalize l.map iD = E at *
  generalize l.length = n at *
  simp at hi
  simp [s72, eqCells, T3, T4, T5, T9, T22, T23, T25, T27, T32, T34, T38, T40, T46, T49, T51, T54, T57, T66, T72, T74, T76, T77, T79, T81, T87, T89, T90, T92, T101, T107, T109, T119, T125, T128, T130, T133, T140, T148, T150, T151, CT]
  refine wlp_inv (S := fun _ : Unit => ⟨[(0, .vs 0 0 2 0 n), (1, .d (.int .i64 0)), (2, .d (.int .i64 n)), (3, .d (.int .i64 b)), (4, .fn 60 [] [(1, 0)]), (10, .d (.bool true)), (11, .d (.bool true))], [.vec 0 false false 38 2 E, .box [.ptr 2 0], .box [.d (.int .i64 la), .d (.int .i64 lb), .d (.int .i64 lc), .mp 3, .mp 4, .d (.int .i64 ar), .d (.int .i64 is), .d (.int .i64 sv), .d (.int .i64 nw)], .mapd L1 B1 K1, .mapd L2 B2 K2]⟩) (m := fun _ => 0) (Inv := fun _ => True) ?_ () trivial
  rintro - - -
  rw [e72_1]
  simp [c72_1, eqCells, T3, T4, T5, T9, T22, T23, T25, T27, T32, T34, T38, T40, T46, T49, T51, T54, T57, T66, T72, T74, T76, T77, T79, T81, T87, T89, T90, T92, T101, T107, T109, T119, T125, T128, T130, T133, T140, T148, T150, T151, CT, w1, p1, hi]
set_option maxRecDepth 100000 in
set_option maxHeartbeats 4000000 in
theorem sort59_run (la lb lc ar is sv nw : Int) (es : List Ent) (L2 : List (D × D)) (B1 B2 : List Nat) (K1 K2 : Nat) (l : List Iv) (hl : l.length ≤ 12) :
    run CC 59 [.vs 0 0 2 0 l.length, .fn 60 [] [(1, 0)]] [.vec 0 false false 38 2 (l.map iD), .box [.ptr 2 0], .box [.d (.int .i64 la), .d (.int .i64 lb), .d (.int .i64 lc), .mp 3, .mp 4, .d (.int .i64 ar), .d (.int .i64 is), .d (.int .i64 sv), .d (.int .i64 nw)], .mapd (es.map Ent.p) B1 K1, .mapd L2 B2 K2] = some (.tup [], [.vec 0 false false 38 2 ((srtQ es l).map iD), .box [.ptr 2 0], .box [.d (.int .i64 la), .d (.int .i64 lb), .d (.int .i64 lc), .mp 3, .mp 4, .d (.int .i64 ar), .d (.int .i64 is), .d (.int .i64 sv), .d (.int .i64 nw)], .mapd (es.map Ent.p) B1 K1, .mapd L2 B2 K2]) := by
  refine run_code (s := s59 5) rfl rfl rfl (by kernel_rfl) ?_
  obtain ⟨b, hb, hlen⟩ := len62_run l.length hl
  have hp := pdq72_run la lb lc ar is sv nw es L2 B1 B2 K1 K2 l hl b
  have w1 : IntKind.u64.wrap (l.length : Int) = l.length := by simp [IntKind.wrap, IntKind.bits, IntKind.signed]; omega
  generalize (srtQ es l).map iD = F at *
  generalize es.map Ent.p = L1 at *
  generalize l.map iD = E at *
  generalize l.length = n at *
  simp [s59, eqCells, T3, T4, T5, T9, T22, T23, T25, T27, T32, T34, T38, T40, T46, T49, T51, T54, T57, T66, T72, T74, T76, T77, T79, T81, T87, T89, T90, T92, T101, T107, T109, T119, T125, T128, T130, T133, T140, T148, T150, T151, CT, hlen, hp, w1]
theorem ltQ (es : List Ent) (x y : Iv) : ltC (cmpQ es) x y = decide (arrOf es x < arrOf es y) := by
  show decide (cmpZ (arrOf es x) (arrOf es y) < 0) = _
  unfold cmpZ
  by_cases h : arrOf es x < arrOf es y
  · simp [h]
  · by_cases h2 : arrOf es y < arrOf es x <;> simp [h, h2]
theorem swoQ (es : List Ent) : Go.Sort.SWO (ltC (cmpQ es)) where
  irrefl x := by rw [ltQ]; simp
  trans x y z h1 h2 := by rw [ltQ] at *; simp at *; omega
  ntrans x y z h1 h2 := by rw [ltQ] at *; simp at *; omega
theorem srtQ_spec (es : List Ent) (l : List Iv) : (srtQ es l).Perm l ∧ (srtQ es l).Pairwise fun x y => arrOf es x ≤ arrOf es y := by
  obtain ⟨hp, hs⟩ := Go.Sort.insertionSort_holds (lt := ltC (cmpQ es)) (swoQ es) l.toArray 0 l.length (by omega) (by simp)
  unfold srtQ
  generalize Go.Sort.insertionSort (ltC (cmpQ es)) l.toArray 0 l.length = e at *
  have hsz : e.size = l.length := by rw [hp.1]; simp
  refine ⟨?_, ?_⟩
  · have h := hp.2.2
    have e1 : (e.extract 0 l.length).toList = e.toList := by simp [← hsz]
    have e2 : (l.toArray.extract 0 l.length).toList = l := by simp
    rw [e1, e2] at h
    exact h
  · rw [List.pairwise_iff_getElem]
    intro i j hi hj hij
    have hi' : i < e.size := by simpa using hi
    have hj' : j < e.size := by simpa using hj
    have := hs i j (by omega) hij (by omega)
    rw [ltQ] at this
    simp [hi', hj'] at this
    simp
    omega
end Go.Proofs.YtdgpipoffcajgaaV
