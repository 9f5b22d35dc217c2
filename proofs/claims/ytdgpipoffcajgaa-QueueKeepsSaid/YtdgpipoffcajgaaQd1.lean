/- Insertion sort of tickets; SortFunc. -/
import Derived.Test.YtdgpipoffcajgaaQc5
set_option linter.unusedVariables false
set_option linter.unusedSimpArgs false
namespace Go.Proofs.YtdgpipoffcajgaaV
open Go.RowKit
attribute [local simp] TK.agg constAV evalAV EK.has EK.hasAll vecEls elsR AV.toD toDs AV.cells AV.one joinD TyI.zeroD OpR.of binIntF binStrF AV.isPtr ptrNil slNil mpNil nilE eqF negF posF binF pelF pvLoad pelSet pvStore boxLoad epLoad loadF boxStore storeF fieldAddrF fieldF epOf indexAddrF byteF indexF mapLen lenF cutF sliceF sliceN sliceX isSl slice3F fillF fillV arrFs buildF partsX landV buildSliceF roomB appVec appendF appMkF capF mmFrom mmF max2' min2' clearVec clearF convF unF pickF nilChkF extF ptrsOf callF makeSliceF sameKs sameD kindIs plainFs keyOk mapOb mapEs okV lookF lookupF putE putS mapPut mapUpdateF mapDel deleteF mapAll rangeM rangeF overV hitV nextO nextF entryM entryO entryF itOids builtinF capsOf allocF boxF bytesL bytesF byteTy strTy convertF makeFuncF mapNew makeMapF makeMapH opF reach reachOf AObj.live closedB nodupB packO packL packX backN backG backO obL backE frzX frzO AV.vids frzL landC sameObs landR touchF bitsW D.cells D.decEq D.decEqs AV.decEq AV.decEqs AObj.decEq AV.oids0 AV.oids AObj.oids renG renP AV.ren0 AV.ren envGet envPut envKeep obGet setEff putV St.put stepS keyChk chkD accD Ex.block AV.under AObj.under laysOf roomFor mkvO frzG szOk killO usedBy tidyS canL canS ghost ghostE normSt resOf allSome one0 resultsF finL finishL finish endF startEnv chkC backX comeC AV.flat0 rngC loopO layL endLp busyL idleL noRng rndSt rndEnd wpn_nil wpn_seq wpn_loop wpn_seq_exit wpn_loop_exit wpn_seq_ret wpn_loop_ret wpn_block wpn_post wpk_skip wpk_exit wpk_ret wpk_reg wpk_seq wpk_condT wpk_block wpk_loop wpk_pre wpk_post wop_nil wop_cons wop_guard St.know envSet cond_d cond_bool cond_int cond_str endE endQ freeB disj pushT bitsW int_beq int_bne eqS_def tbE fuelL_eq ann0_lays ann0_dd ann0_ro elsOf_dsl elsOf_dnils toNat_succ nn_succ pos_succ one_succ rng1 rng2 rng3 rng4 rng5 rng6 rng7 rng8 List.idxOf_cons wpk_rng rndK rndE
instance : Inhabited Tck := ⟨⟨0, 0, 0, 0⟩⟩
abbrev tD (d : Array Tck) : List D := d.toList.map Tck.d
theorem tD_len (d : Array Tck) : (tD d).length = d.size := by simp
theorem tD_get {d : Array Tck} {i : Nat} (h : i < d.size) : (tD d)[i]? = some (.agg [.int .i64 d[i]!.n, .int .i64 d[i]!.a, .int .i64 d[i]!.s, .int .i64 d[i]!.u]) := by
  rw [List.getElem?_map, Array.getElem?_toList, Array.getElem?_eq_getElem h]
  simp [h, Tck.d]
theorem tD_at {d : Array Tck} {i : Nat} (h : i < d.size) (h' : i < (tD d).length) : (tD d)[i] = .agg [.int .i64 d[i]!.n, .int .i64 d[i]!.a, .int .i64 d[i]!.s, .int .i64 d[i]!.u] := (List.getElem?_eq_some_iff.1 (tD_get h)).2
def ltT (cmp : Tck → Tck → Int) (x y : Tck) : Bool := decide (cmp x y < 0)
abbrev vT (d : Array Tck) : AObj := .vec 0 false false 40 4 (tD d)
theorem swT_size (d : Array Tck) (i j : Nat) : (Go.Sort.swp d i j).size = d.size := by simp [Go.Sort.swp]
theorem tD_swp (d : Array Tck) (i j : Nat) : tD (Go.Sort.swp d i j) = ((tD d).set i (.agg [.int .i64 d[j]!.n, .int .i64 d[j]!.a, .int .i64 d[j]!.s, .int .i64 d[j]!.u])).set j (.agg [.int .i64 d[i]!.n, .int .i64 d[i]!.a, .int .i64 d[i]!.s, .int .i64 d[i]!.u]) := by
  unfold Go.Sort.swp tD
  rw [Array.toList_setIfInBounds, Array.toList_setIfInBounds, List.map_set, List.map_set]
  rfl
theorem insInnerT_size (lt : Tck → Tck → Bool) (a : Nat) : ∀ (j : Nat) (d : Array Tck), (Go.Sort.insInner lt a j d).size = d.size
  | 0, d => rfl
  | j + 1, d => by
    unfold Go.Sort.insInner
    split
    · rw [insInnerT_size lt a j, swT_size]
    · rfl
section
variable (g : Nat) (hne : g ≠ 1000000007) (cmp : Tck → Tck → Int) (hg : ∀ a b : Tck, run CC g [.d (.agg [.int .i64 a.n, .int .i64 a.a, .int .i64 a.s, .int .i64 a.u]), .d (.agg [.int .i64 b.n, .int .i64 b.a, .int .i64 b.s, .int .i64 b.u])] [] = some (.d (.int .i64 (cmp a b)), []))
include hne hg
set_option maxRecDepth 100000 in
set_option maxHeartbeats 2000000 in
theorem loop73_2 (n a b i : Nat) (hn : n < 1000) (j : Nat) (d : Array Tck) (hd : d.size = n) (hj : j < n) (ks : List Fr) (K : Ex → St → Prop)
    (hnext : wpn CC .norm ⟨[(0, .vs 0 0 4 0 n), (1, .d (.int .i64 a)), (2, .d (.int .i64 b)), (3, .fn g [] []), (8, .d (.int .i64 i))], [.vec 0 false false 40 4 (tD (Go.Sort.insInner (ltT cmp) a j d))]⟩ ks K) :
    wlp CC (s73_2 1) ⟨[(0, .vs 0 0 4 0 n), (1, .d (.int .i64 a)), (2, .d (.int .i64 b)), (3, .fn g [] []), (8, .d (.int .i64 i)), (9, .d (.int .i64 j))], [.vec 0 false false 40 4 (tD d)]⟩ (.block 2 :: .post (.tidy [0, 1, 2, 3, 8] 1 1) :: ks) K := by
  refine wlp_inv (S := fun p : Nat × Array Tck => ⟨[(0, .vs 0 0 4 0 n), (1, .d (.int .i64 a)), (2, .d (.int .i64 b)), (3, .fn g [] []), (8, .d (.int .i64 i)), (9, .d (.int .i64 p.1))], [.vec 0 false false 40 4 (tD p.2)]⟩) (m := fun p => p.1) (Inv := fun p => p.2.size = n ∧ p.1 < n ∧ Go.Sort.insInner (ltT cmp) a p.1 p.2 = Go.Sort.insInner (ltT cmp) a j d) ?_ (j, d) ⟨hd, hj, rfl⟩
  rintro ⟨j, d⟩ ⟨hd, hj, hm⟩ ih
  rw [e73_2]
  simp only at hd hj hm ⊢
  rw [← hm] at hnext ih
  cases j with
  | zero =>
    have pa : ¬ (a : Int) < 0 := by omega
    simp only [Go.Sort.insInner] at hnext
    generalize tD d = E at *
    simp [c73_2, eqCells, T3, T4, T5, T9, T22, T23, T25, T27, T32, T34, T38, T40, T46, T49, T51, T54, T57, T66, T72, T74, T76, T77, T79, T81, T87, T89, T90, T92, T101, T107, T109, T119, T125, T128, T130, T133, T140, T148, T150, T151, CT, hne, pa]
    exact hnext
  | succ j =>
    by_cases ha : a < j + 1
    · have w1 : IntKind.i64.wrap ((j : Int) + 1 - 1) = (j : Int) := by rw [Int.add_sub_cancel]; exact wrap64 (by omega) (by omega)
      have w2 : IntKind.i64.wrap (j : Int) = (j : Int) := wrap64 (by omega) (by omega)
      have g1 := tD_get (d := d) (i := j + 1) (by omega)
      have g2 := tD_get (d := d) (i := j) (by omega)
      have l1 : j + 1 < (tD d).length := by rw [tD_len]; omega
      have l2 : j < (tD d).length := by rw [tD_len]; omega
      have gg1 := tD_at (d := d) (i := j + 1) (by omega) l1
      have gg2 := tD_at (d := d) (i := j) (by omega) l2
      have hsw := tD_swp d (j + 1) j
      have hss := swT_size d (j + 1) j
      have hl : (tD d).length = n := by rw [tD_len, hd]
      have hcmp := hg d[j + 1]! d[j]!
      have pa : (a : Int) < (j : Int) + 1 := by omega
      have p2 : j < n := by omega
      have p3 : (j : Int) + 1 < n := by omega
      have p4 : (j : Int) < n := by omega
      have g3 : ((tD d).set (j + 1) (.agg [.int .i64 d[j]!.n, .int .i64 d[j]!.a, .int .i64 d[j]!.s, .int .i64 d[j]!.u]))[j]? = some (.agg [.int .i64 d[j]!.n, .int .i64 d[j]!.a, .int .i64 d[j]!.s, .int .i64 d[j]!.u]) := by rw [List.getElem?_set_ne (by omega), g2]
      by_cases hc : cmp d[j + 1]! d[j]! < 0
      · have he : Go.Sort.insInner (ltT cmp) a (j + 1) d = Go.Sort.insInner (ltT cmp) a j (Go.Sort.swp d (j + 1) j) := by
          rw [Go.Sort.insInner, if_pos (by simp [ltT, hc, ha])]
        have ih := ih (j, Go.Sort.swp d (j + 1) j) ⟨by simp only [hss, hd], p2, he.symm⟩ (by simp)
        simp only [hsw] at ih
        generalize tD d = E at *
        generalize d[j + 1]! = y at *
        generalize d[j]! = x at *
        simp [c73_2, eqCells, T3, T4, T5, T9, T22, T23, T25, T27, T32, T34, T38, T40, T46, T49, T51, T54, T57, T66, T72, T74, T76, T77, T79, T81, T87, T89, T90, T92, T101, T107, T109, T119, T125, T128, T130, T133, T140, T148, T150, T151, CT, hne, g1, g2, g3, gg1, gg2, l1, l2, hl, w1, w2, hcmp, hc, pa, hj, p2, p3, p4, ha]
        exact ih
      · have he : Go.Sort.insInner (ltT cmp) a (j + 1) d = d := by
          rw [Go.Sort.insInner, if_neg (by simp [ltT, hc])]
        rw [he] at hnext
        generalize tD d = E at *
        generalize d[j + 1]! = y at *
        generalize d[j]! = x at *
        simp [c73_2, eqCells, T3, T4, T5, T9, T22, T23, T25, T27, T32, T34, T38, T40, T46, T49, T51, T54, T57, T66, T72, T74, T76, T77, T79, T81, T87, T89, T90, T92, T101, T107, T109, T119, T125, T128, T130, T133, T140, T148, T150, T151, CT, hne, g1, g2, gg1, gg2, l1, l2, hl, w1, w2, hcmp, hc, pa, hj, p2, p3, p4, ha]
        exact hnext
    · have he : Go.Sort.insInner (ltT cmp) a (j + 1) d = d := by
        rw [Go.Sort.insInner, if_neg (by simp [ha])]
      have pa : ¬ (a : Int) < (j : Int) + 1 := by omega
      rw [he] at hnext
      generalize tD d = E at *
      simp [c73_2, eqCells, T3, T4, T5, T9, T22, T23, T25, T27, T32, T34, T38, T40, T46, T49, T51, T54, T57, T66, T72, T74, T76, T77, T79, T81, T87, T89, T90, T92, T101, T107, T109, T119, T125, T128, T130, T133, T140, T148, T150, T151, CT, hne, pa, ha]
      exact hnext
set_option maxRecDepth 100000 in
set_option maxHeartbeats 2000000 in
theorem ins73_run (d : Array Tck) (n a b : Nat) (hd : d.size = n) (hn : n < 1000) (ha : a ≤ n) (hb : b ≤ n) : run CC 73 [.vs 0 0 4 0 n, .d (.int .i64 a), .d (.int .i64 b), .fn g [] []] [vT d] = some (.tup [], [vT (Go.Sort.insertionSort (ltT cmp) d a b)]) := by
  refine run_code (s := s73 1) rfl rfl rfl (by kernel_rfl) ?_
  have w0 : IntKind.i64.wrap ((a : Int) + 1) = (a : Int) + 1 := wrap64 (by omega) (by omega)
  unfold Go.Sort.insertionSort
  simp [s73, eqCells, T3, T4, T5, T9, T22, T23, T25, T27, T32, T34, T38, T40, T46, T49, T51, T54, T57, T66, T72, T74, T76, T77, T79, T81, T87, T89, T90, T92, T101, T107, T109, T119, T125, T128, T130, T133, T140, T148, T150, T151, CT, hne, w0]
  refine wlp_inv (S := fun p : Nat × Array Tck => ⟨[(0, .vs 0 0 4 0 n), (1, .d (.int .i64 a)), (2, .d (.int .i64 b)), (3, .fn g [] []), (8, .d (.int .i64 p.1))], [.vec 0 false false 40 4 (tD p.2)]⟩) (m := fun p => b - p.1) (Inv := fun p => p.2.size = n ∧ Go.Sort.insOuter (ltT cmp) a b p.1 p.2 = Go.Sort.insOuter (ltT cmp) a b (a + 1) d) ?_ (a + 1, d) ⟨hd, rfl⟩
  rintro ⟨i, e⟩ ⟨he, hm⟩ ih
  rw [e73_1]
  simp only at he hm ⊢
  rw [← hm] at ih ⊢
  by_cases h : i < b
  · have ho : Go.Sort.insOuter (ltT cmp) a b i e = Go.Sort.insOuter (ltT cmp) a b (i + 1) (Go.Sort.insInner (ltT cmp) a i e) := by rw [Go.Sort.insOuter, if_pos h]
    have hsz := insInnerT_size (ltT cmp) a i e
    have ih := ih (i + 1, Go.Sort.insInner (ltT cmp) a i e) ⟨by simp only [hsz, he], ho.symm⟩ (by simp only; omega)
    have hin := loop73_2 g hne cmp hg n a b i hn i e he (by omega)
    have w1 : IntKind.i64.wrap ((i : Int) + 1) = (i : Int) + 1 := wrap64 (by omega) (by omega)
    have p1 : (i : Int) < b := by omega
    simp only [vT] at ih ⊢
    generalize Go.Sort.insOuter (ltT cmp) a b i e = R at *
    simp at ih
    simp [c73_1, eqCells, T3, T4, T5, T9, T22, T23, T25, T27, T32, T34, T38, T40, T46, T49, T51, T54, T57, T66, T72, T74, T76, T77, T79, T81, T87, T89, T90, T92, T101, T107, T109, T119, T125, T128, T130, T133, T140, T148, T150, T151, CT, hne, p1, h]
    refine hin _ _ ?_
    generalize Go.Sort.insInner (ltT cmp) a i e = F at *
    simp [eqCells, T3, T4, T5, T9, T22, T23, T25, T27, T32, T34, T38, T40, T46, T49, T51, T54, T57, T66, T72, T74, T76, T77, T79, T81, T87, T89, T90, T92, T101, T107, T109, T119, T125, T128, T130, T133, T140, T148, T150, T151, CT, hne, w1]
    exact ih
  · have ho : Go.Sort.insOuter (ltT cmp) a b i e = e := by rw [Go.Sort.insOuter, if_neg h]
    have p1 : ¬ (i : Int) < b := by omega
    rw [ho]
    simp [c73_1, eqCells, T3, T4, T5, T9, T22, T23, T25, T27, T32, T34, T38, T40, T46, T49, T51, T54, T57, T66, T72, T74, T76, T77, T79, T81, T87, T89, T90, T92, T101, T107, T109, T119, T125, T128, T130, T133, T140, T148, T150, T151, CT, hne, p1, h]
end

def cmpT (x y : Tck) : Int := cmpZ x.n y.n
set_option maxRecDepth 100000 in
set_option maxHeartbeats 4000000 in
theorem cmp40_run (x y : Tck) : run CC 40 [.d (.agg [.int .i64 x.n, .int .i64 x.a, .int .i64 x.s, .int .i64 x.u]), .d (.agg [.int .i64 y.n, .int .i64 y.a, .int .i64 y.s, .int .i64 y.u])] [] = some (.d (.int .i64 (cmpT x y)), []) := by
  refine run_code (s := s40 0) rfl rfl rfl (by kernel_rfl) ?_
  have h := cmp41_run x.n y.n
  unfold cmpT
  simp [s40, eqCells, T3, T4, T5, T9, T22, T23, T25, T27, T32, T34, T38, T40, T46, T49, T51, T54, T57, T66, T72, T74, T76, T77, T79, T81, T87, T89, T90, T92, T101, T107, T109, T119, T125, T128, T130, T133, T140, T148, T150, T151, CT, h]
/-- The list that SortFunc leaves. -/
def srtT (l : List Tck) : List Tck := (Go.Sort.insertionSort (ltT cmpT) l.toArray 0 l.length).toList
set_option maxRecDepth 100000 in
set_option maxHeartbeats 4000000 in
theorem pdq61_run (l : List Tck) (hl : l.length ≤ 12) (b : Nat) :
    run CC 61 [.vs 0 0 4 0 l.length, .d (.int .i64 0), .d (.int .i64 l.length), .d (.int .i64 b), .fn 40 [] []] [.vec 0 false false 40 4 (l.map Tck.d)] = some (.tup [], [.vec 0 false false 40 4 ((srtT l).map Tck.d)]) := by
  refine run_code (s := s61 1) rfl rfl rfl (by kernel_rfl) ?_
  have hi := ins73_run 40 (by decide) cmpT cmp40_run l.toArray l.length 0 l.length (by simp) (by omega) (by omega) (Nat.le_refl _)
  simp only [vT, tD, List.toList_toArray] at hi
  have w1 : IntKind.i64.wrap (l.length : Int) = l.length := wrap64 (by omega) (by omega)
  have p1 : (l.length : Int) ≤ 12 := by omega
  unfold srtT
  generalize (Go.Sort.insertionSort (ltT cmpT) l.toArray 0 l.length).toList.map Tck.d = F at *
  generalize l.map Tck.d = E at *
  generalize l.length = n at *
  simp at hi
  simp [s61, eqCells, T3, T4, T5, T9, T22, T23, T25, T27, T32, T34, T38, T40, T46, T49, T51, T54, T57, T66, T72, T74, T76, T77, T79, T81, T87, T89, T90, T92, T101, T107, T109, T119, T125, T128, T130, T133, T140, T148, T150, T151, CT]
  refine wlp_inv (S := fun _ : Unit => ⟨[(0, .vs 0 0 4 0 n), (1, .d (.int .i64 0)), (2, .d (.int .i64 n)), (3, .d (.int .i64 b)), (4, .fn 40 [] []), (10, .d (.bool true)), (11, .d (.bool true))], [.vec 0 false false 40 4 E]⟩) (m := fun _ => 0) (Inv := fun _ => True) ?_ () trivial
  rintro - - -
  rw [e61_1]
  simp [c61_1, eqCells, T3, T4, T5, T9, T22, T23, T25, T27, T32, T34, T38, T40, T46, T49, T51, T54, T57, T66, T72, T74, T76, T77, T79, T81, T87, T89, T90, T92, T101, T107, T109, T119, T125, T128, T130, T133, T140, T148, T150, T151, CT, w1, p1, hi]
set_option maxRecDepth 100000 in
set_option maxHeartbeats 4000000 in
theorem sort39_run (l : List Tck) (hl : l.length ≤ 12) :
    run CC 39 [.vs 0 0 4 0 l.length, .fn 40 [] []] [.vec 0 false false 40 4 (l.map Tck.d)] = some (.tup [], [.vec 0 false false 40 4 ((srtT l).map Tck.d)]) := by
  refine run_code (s := s39 1) rfl rfl rfl (by kernel_rfl) ?_
  obtain ⟨b, hb, hlen⟩ := len62_run l.length hl
  have hp := pdq61_run l hl b
  have w1 : IntKind.u64.wrap (l.length : Int) = l.length := by simp [IntKind.wrap, IntKind.bits, IntKind.signed]; omega
  generalize (srtT l).map Tck.d = F at *
  generalize l.map Tck.d = E at *
  generalize l.length = n at *
  simp [s39, eqCells, T3, T4, T5, T9, T22, T23, T25, T27, T32, T34, T38, T40, T46, T49, T51, T54, T57, T66, T72, T74, T76, T77, T79, T81, T87, T89, T90, T92, T101, T107, T109, T119, T125, T128, T130, T133, T140, T148, T150, T151, CT, hlen, hp, w1]
theorem ltTn (x y : Tck) : ltT cmpT x y = decide (x.n < y.n) := by
  show decide (cmpZ x.n y.n < 0) = _
  unfold cmpZ
  by_cases h : x.n < y.n
  · simp [h]
  · by_cases h2 : y.n < x.n <;> simp [h, h2]
theorem swoT : Go.Sort.SWO (ltT cmpT) where
  irrefl x := by rw [ltTn]; simp
  trans x y z h1 h2 := by rw [ltTn] at *; simp at *; omega
  ntrans x y z h1 h2 := by rw [ltTn] at *; simp at *; omega
theorem srtT_spec (l : List Tck) : (srtT l).Perm l ∧ (srtT l).Pairwise fun x y => x.n ≤ y.n := by
  obtain ⟨hp, hs⟩ := Go.Sort.insertionSort_holds (lt := ltT cmpT) (swoT) l.toArray 0 l.length (by omega) (by simp)
  unfold srtT
  generalize Go.Sort.insertionSort (ltT cmpT) l.toArray 0 l.length = e at *
  have hsz : e.size = l.length := by rw [hp.1]; simp
  refine ⟨?_, ?_⟩
  · have h := hp.2.2
    have e1 : (e.extract 0 l.length).toList = e.toList := by simp [← hsz]
    have e2 : (l.toArray.extract 0 l.length).toList = l := by simp
    rw [e1, e2] at h
    exact h
  · rw [List.pairwise_iff_getElem]
    intro i j hi hj hij
    have hi' : i < e.size := by simpa using hi
    have hj' : j < e.size := by simpa using hj
    have := hs i j (by omega) hij (by omega)
    rw [ltTn] at this
    simp [hi', hj'] at this
    simp
    omega

end Go.Proofs.YtdgpipoffcajgaaV
