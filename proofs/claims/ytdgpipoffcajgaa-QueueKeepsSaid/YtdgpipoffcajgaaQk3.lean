/- The law QueueKeeps: one operation. -/
import Derived.Test.YtdgpipoffcajgaaQk2
set_option linter.unusedVariables false
set_option linter.unusedSimpArgs false
namespace Go.Proofs.YtdgpipoffcajgaaV
open Go.RowKit
attribute [local simp] TK.agg constAV evalAV EK.has EK.hasAll vecEls elsR AV.toD toDs AV.cells AV.one joinD TyI.zeroD OpR.of binIntF binStrF AV.isPtr ptrNil slNil mpNil nilE eqF negF posF binF pelF pvLoad pelSet pvStore boxLoad epLoad loadF boxStore storeF fieldAddrF fieldF epOf indexAddrF byteF indexF mapLen lenF cutF sliceF sliceN sliceX isSl slice3F fillF fillV arrFs buildF partsX landV buildSliceF roomB appVec appendF appMkF capF mmFrom mmF max2' min2' clearVec clearF convF unF pickF nilChkF extF ptrsOf callF makeSliceF sameKs sameD kindIs plainFs keyOk mapOb mapEs okV lookF lookupF putE putS mapPut mapUpdateF mapDel deleteF mapAll rangeM rangeF overV hitV nextO nextF entryM entryO entryF itOids builtinF capsOf allocF boxF bytesL bytesF byteTy strTy convertF makeFuncF mapNew makeMapF makeMapH opF reach reachOf AObj.live closedB nodupB packO packL packX backN backG backO obL backE frzX frzO AV.vids frzL landC sameObs landR touchF bitsW D.cells D.decEq D.decEqs AV.decEq AV.decEqs AObj.decEq AV.oids0 AV.oids AObj.oids renG renP AV.ren0 AV.ren envGet envPut envKeep obGet setEff putV St.put stepS keyChk chkD accD Ex.block AV.under AObj.under laysOf roomFor mkvO frzG szOk killO usedBy tidyS canL canS ghost ghostE normSt resOf allSome one0 resultsF finL finishL finish endF startEnv chkC backX comeC AV.flat0 rngC loopO layL endLp busyL idleL noRng rndSt rndEnd wpn_nil wpn_seq wpn_loop wpn_seq_exit wpn_loop_exit wpn_seq_ret wpn_loop_ret wpn_block wpn_post wpk_skip wpk_exit wpk_ret wpk_reg wpk_seq wpk_condT wpk_block wpk_loop wpk_pre wpk_post wop_nil wop_cons wop_guard St.know envSet cond_d cond_bool cond_int cond_str endE endQ freeB disj pushT bitsW int_beq int_bne eqS_def tbE fuelL_eq ann0_lays ann0_dd ann0_ro elsOf_dsl elsOf_dnils toNat_succ nn_succ pos_succ one_succ rng1 rng2 rng3 rng4 rng5 rng6 rng7 rng8 List.idxOf_cons wpk_rng rndK rndE
abbrev ob9 (Q : Qs) (m : List (Iv × Bool)) (bs : List Nat) (ck : Nat) : List AObj := [.dead] ++ Q.obk 1 ++ [.dead, .mapd (mK m) bs ck]
abbrev S9 (O : D) (n i : Nat) (Q : Qs) (m : List (Iv × Bool)) (bs : List Nat) (ck : Nat) : St := ⟨[(5, .ptr 1 0), (7, .mp 5), (38, .d O), (39, .d (.int .i64 n)), (40, .d (.int .i64 i))], ob9 Q m bs ck⟩
section
variable (O : D) (OO : List D) (hO : elsOf (.d O) = some OO) (n : Nat) (hn : n ≤ 25) (hl : OO.length = n) (i : Nat) (hi : i < n) (k A B : Nat) (hx : OO[i]? = some (.agg [.int .u8 k, .int .u8 A, .int .u8 B])) (Q : Qs) (m : List (Iv × Bool)) (bs : List Nat) (ck : Nat) (ks : List Fr) (K : Ex → St → Prop)
include hO hn hl hi hx
set_option maxRecDepth 100000 in
set_option maxHeartbeats 8000000 in
theorem k9_offer (hA : A < 256) (hB : B < 256) (hk : k % 5 = 0) (a s : Int) (ea : a = 1 + ((A % 4 : Nat) : Int)) (es : s = ((B % 8 : Nat) : Int))
    (h15 : run CC 15 [.ptr 0 0, .d (.agg [.int .i64 a, .int .i64 s, .sl (spD A B), .sl (exD A)])] Q.obs = some (.d (.int .i64 (offR Q a s)), (offQ Q a s (.sl (spD A B)) (.sl (exD A))).obs))
    (Q2 : Qs) (m2 : List (Iv × Bool)) (bs2 : List Nat) (ck2 : Nat) (hQ2 : Q2 = offQ Q a s (.sl (spD A B)) (.sl (exD A)))
    (h1 : offR Q a s = 0 → m2 = putP idK (a, s) true m ∧ (bs2, ck2) = putS ck bs (findD (.agg [.int .i64 a, .int .i64 s]) (mK m) 0)) (h2 : offR Q a s ≠ 0 → m2 = m ∧ bs2 = bs ∧ ck2 = ck)
    (hnext : wlp CC (s9_1 0) (S9 O n (i + 1) Q2 m2 bs2 ck2) ks K) : wpk CC (c9_1 0) (S9 O n i Q m bs ck) (.loop (s9_1 0) :: ks) K := by
  have hk5 := rem_nat k 5
  rw [hk] at hk5
  simp only [Int.cast_ofNat_Int] at hk5
  have hfr := fragment28_run k A B hA hB
  rw [← ea, ← es] at hfr
  unfold frD at hfr
  have hput := mK_put (a, s) true m
  rw [← hQ2] at h15
  have hOi : i < OO.length := by omega
  have hEe := (List.getElem?_eq_some_iff.1 hx).2
  have w1 : IntKind.i64.wrap ((i : Int) + 1) = (i : Int) + 1 := wrap64 (by omega) (by omega)
  have p1 : (i : Int) < n := by omega
  generalize spD A B = S at *
  generalize exD A = X at *
  clear hQ2
  by_cases hof : offR Q a s = 0
  · obtain ⟨rfl, e2⟩ := h1 hof
    rw [hof] at h15
    have e3 := e2.symm
    simp only [S9, ob9, Qs.obk, Qs.obs] at h15 hnext hput e3 ⊢
    generalize mK (putP idK (a, s) true m) = MM2 at *
    generalize mK m = MM at *
    generalize Q.es.map Ent.p = M1 at *
    generalize Q.ts.map Tck.p = M2 at *
    generalize Q2.es.map Ent.p = M3 at *
    generalize Q2.ts.map Tck.p = M4 at *
    try simp at hnext
    simp [c9_1, eqCells, T3, T4, T5, T9, T22, T23, T25, T27, T32, T34, T38, T40, T46, T49, T51, T54, T57, T66, T72, T74, T76, T77, T79, T81, T87, T89, T90, T92, T101, T107, T109, T119, T125, T128, T130, T133, T140, T148, T150, T151, CT, CQ, QQ, hO, hx, hOi, hEe, hk5, hfr, h15, p1, w1, hi, hput, e3, -putE, -putS]
    exact hnext
  · obtain ⟨rfl, rfl, rfl⟩ := h2 hof
    simp only [S9, ob9, Qs.obk, Qs.obs] at h15 hnext ⊢
    generalize mK m2 = MM at *
    generalize Q.es.map Ent.p = M1 at *
    generalize Q.ts.map Tck.p = M2 at *
    generalize Q2.es.map Ent.p = M3 at *
    generalize Q2.ts.map Tck.p = M4 at *
    generalize offR Q a s = rr at *
    try simp at hnext
    simp [c9_1, eqCells, T3, T4, T5, T9, T22, T23, T25, T27, T32, T34, T38, T40, T46, T49, T51, T54, T57, T66, T72, T74, T76, T77, T79, T81, T87, T89, T90, T92, T101, T107, T109, T119, T125, T128, T130, T133, T140, T148, T150, T151, CT, CQ, QQ, hO, hx, hOi, hEe, hk5, hfr, h15, hof, p1, w1, hi]
    exact hnext
set_option maxRecDepth 100000 in
set_option maxHeartbeats 8000000 in
theorem k9_lease (hk : k % 5 = 1) (now : Int) (hnow : now = Q.now + ((A % 4 : Nat) : Int)) (hq : 0 ≤ Q.now ∧ Q.now < 1000000) (x1 x2 x3 : D) (Q2 : Qs)
    (h17 : run CC 17 [.ptr 0 0, .d (.int .i64 now)] Q.obs = some (.tup [.d x1, .d x2, .d x3], Q2.obs))
    (hnext : wlp CC (s9_1 0) (S9 O n (i + 1) Q2 m bs ck) ks K) : wpk CC (c9_1 0) (S9 O n i Q m bs ck) (.loop (s9_1 0) :: ks) K := by
  have hk5 := rem_nat k 5
  have hA4 := rem_nat A 4
  rw [hk] at hk5
  have b1 : A % 4 < 4 := Nat.mod_lt _ (by omega)
  simp only [Int.cast_ofNat_Int] at hk5 hA4
  generalize A % 4 = a4 at *
  have h20 := now20_run Q
  have hOi : i < OO.length := by omega
  have hEe := (List.getElem?_eq_some_iff.1 hx).2
  have w1 : IntKind.i64.wrap ((i : Int) + 1) = (i : Int) + 1 := wrap64 (by omega) (by omega)
  have w0 : IntKind.i64.wrap (a4 : Int) = a4 := wrap64 (by omega) (by omega)
  have w2 : IntKind.i64.wrap (Q.now + (a4 : Int)) = now := by rw [hnow]; exact wrap64 (by omega) (by omega)
  have p1 : (i : Int) < n := by omega
  simp only [S9, ob9, Qs.obk, Qs.obs] at h17 h20 hnext ⊢
  generalize mK m = MM at *
  generalize Q.es.map Ent.p = M1 at *
  generalize Q.ts.map Tck.p = M2 at *
  generalize Q2.es.map Ent.p = M3 at *
  generalize Q2.ts.map Tck.p = M4 at *
  try simp at hnext
  simp [c9_1, eqCells, T3, T4, T5, T9, T22, T23, T25, T27, T32, T34, T38, T40, T46, T49, T51, T54, T57, T66, T72, T74, T76, T77, T79, T81, T87, T89, T90, T92, T101, T107, T109, T119, T125, T128, T130, T133, T140, T148, T150, T151, CT, CQ, QQ, hO, hx, hOi, hEe, hk5, hA4, h17, h20, p1, w0, w1, w2, hi]
  exact hnext
set_option maxRecDepth 100000 in
set_option maxHeartbeats 8000000 in
theorem k9_exp (hk : k % 5 = 4) (now : Int) (hnow : now = Q.now + ((A % 12 : Nat) : Int)) (hq : 0 ≤ Q.now ∧ Q.now < 1000000) (x1 x2 : D) (Q2 : Qs)
    (h26 : run CC 26 [.ptr 0 0, .d (.int .i64 now)] Q.obs = some (.tup [.d x1, .d x2], Q2.obs))
    (hnext : wlp CC (s9_1 0) (S9 O n (i + 1) Q2 m bs ck) ks K) : wpk CC (c9_1 0) (S9 O n i Q m bs ck) (.loop (s9_1 0) :: ks) K := by
  have hk5 := rem_nat k 5
  have hA4 := rem_nat A 12
  rw [hk] at hk5
  have b1 : A % 12 < 12 := Nat.mod_lt _ (by omega)
  simp only [Int.cast_ofNat_Int] at hk5 hA4
  generalize A % 12 = a4 at *
  have h20 := now20_run Q
  have hOi : i < OO.length := by omega
  have hEe := (List.getElem?_eq_some_iff.1 hx).2
  have w1 : IntKind.i64.wrap ((i : Int) + 1) = (i : Int) + 1 := wrap64 (by omega) (by omega)
  have w0 : IntKind.i64.wrap (a4 : Int) = a4 := wrap64 (by omega) (by omega)
  have w2 : IntKind.i64.wrap (Q.now + (a4 : Int)) = now := by rw [hnow]; exact wrap64 (by omega) (by omega)
  have p1 : (i : Int) < n := by omega
  simp only [S9, ob9, Qs.obk, Qs.obs] at h26 h20 hnext ⊢
  generalize mK m = MM at *
  generalize Q.es.map Ent.p = M1 at *
  generalize Q.ts.map Tck.p = M2 at *
  generalize Q2.es.map Ent.p = M3 at *
  generalize Q2.ts.map Tck.p = M4 at *
  try simp at hnext
  simp [c9_1, eqCells, T3, T4, T5, T9, T22, T23, T25, T27, T32, T34, T38, T40, T46, T49, T51, T54, T57, T66, T72, T74, T76, T77, T79, T81, T87, T89, T90, T92, T101, T107, T109, T119, T125, T128, T130, T133, T140, T148, T150, T151, CT, CQ, QQ, hO, hx, hOi, hEe, hk5, hA4, h26, h20, p1, w0, w1, w2, hi]
  exact hnext
set_option maxRecDepth 100000 in
set_option maxHeartbeats 8000000 in
theorem k9_rel (hk : k % 5 = 3) (x1 : D) (Q2 : Qs)
    (h29 : run CC 29 [.ptr 0 0, .d (.int .i64 (1 + ((A % 10 : Nat) : Int)))] Q.obs = some (.d x1, Q2.obs))
    (hnext : wlp CC (s9_1 0) (S9 O n (i + 1) Q2 m bs ck) ks K) : wpk CC (c9_1 0) (S9 O n i Q m bs ck) (.loop (s9_1 0) :: ks) K := by
  have hk5 := rem_nat k 5
  have hA4 := rem_nat A 10
  rw [hk] at hk5
  have b1 : A % 10 < 10 := Nat.mod_lt _ (by omega)
  simp only [Int.cast_ofNat_Int] at hk5 hA4
  generalize A % 10 = a4 at *
  have hOi : i < OO.length := by omega
  have hEe := (List.getElem?_eq_some_iff.1 hx).2
  have w1 : IntKind.i64.wrap ((i : Int) + 1) = (i : Int) + 1 := wrap64 (by omega) (by omega)
  have w0 : IntKind.i64.wrap (a4 : Int) = a4 := wrap64 (by omega) (by omega)
  have w2 : IntKind.i64.wrap (1 + (a4 : Int)) = 1 + a4 := wrap64 (by omega) (by omega)
  have p1 : (i : Int) < n := by omega
  simp only [S9, ob9, Qs.obk, Qs.obs] at h29 hnext ⊢
  generalize mK m = MM at *
  generalize Q.es.map Ent.p = M1 at *
  generalize Q.ts.map Tck.p = M2 at *
  generalize Q2.es.map Ent.p = M3 at *
  generalize Q2.ts.map Tck.p = M4 at *
  try simp at hnext
  simp [c9_1, eqCells, T3, T4, T5, T9, T22, T23, T25, T27, T32, T34, T38, T40, T46, T49, T51, T54, T57, T66, T72, T74, T76, T77, T79, T81, T87, T89, T90, T92, T101, T107, T109, T119, T125, T128, T130, T133, T140, T148, T150, T151, CT, CQ, QQ, hO, hx, hOi, hEe, hk5, hA4, h29, p1, w0, w1, w2, hi]
  exact hnext
/-- The state behind the ticket, if it has come. -/
def afI {α : Type} (b : Bool) (x y : α) : α := if b = true then y else x
set_option maxRecDepth 100000 in
set_option maxHeartbeats 8000000 in
theorem k9_ack (hk : k % 5 = 2) (h22 : run CC 22 [.ptr 0 0] Q.obs = some (.vs 3 0 4 0 Q.ts.length, Q.obs ++ [.vec 0 true false 40 4 (Q.ts.map Tck.d)])) (htl : Q.ts.length ≤ 12) (J : Nat) (N : Int) (hN : N = 1 + ((A % 10 : Nat) : Int)) (hne : ∀ j (hj : j < Q.ts.length), j ≠ J → Q.ts[j].n ≠ N) (hJ : ∀ hj : J < Q.ts.length, Q.ts[J].n = N) (x : Iv) (hxJ : ∀ hj : J < Q.ts.length, (Q.ts[J].a, Q.ts[J].s) = x)
    (Q2 : Qs) (m2 : List (Iv × Bool)) (bs2 : List Nat) (ck2 : Nat)
    (h27 : J < Q.ts.length → run CC 27 [.ptr 0 0, .d (.int .i64 N)] Q.obs = some (.d (.int .i64 0), Q2.obs)) (hm2 : m2 = putP idK x false m) (hs2 : (bs2, ck2) = putS ck bs (findD (.agg [.int .i64 x.1, .int .i64 x.2]) (mK m) 0))
    (hnext : wlp CC (s9_1 0) (S9 O n (i + 1) (afI (decide (J < Q.ts.length)) Q Q2) (afI (decide (J < Q.ts.length)) m m2) (afI (decide (J < Q.ts.length)) bs bs2) (afI (decide (J < Q.ts.length)) ck ck2)) ks K) : wpk CC (c9_1 0) (S9 O n i Q m bs ck) (.loop (s9_1 0) :: ks) K := by
  have hk5 := rem_nat k 5
  have hA4 := rem_nat A 10
  rw [hk] at hk5
  have b1 : A % 10 < 10 := Nat.mod_lt _ (by omega)
  simp only [Int.cast_ofNat_Int] at hk5 hA4
  generalize A % 10 = a4 at *
  have hOi : i < OO.length := by omega
  have hEe := (List.getElem?_eq_some_iff.1 hx).2
  have w1 : IntKind.i64.wrap ((i : Int) + 1) = (i : Int) + 1 := wrap64 (by omega) (by omega)
  have w0 : IntKind.i64.wrap (a4 : Int) = a4 := wrap64 (by omega) (by omega)
  have w2 : IntKind.i64.wrap (1 + (a4 : Int)) = N := by rw [hN]; exact wrap64 (by omega) (by omega)
  have p1 : (i : Int) < n := by omega
  have hTl : (Q.ts.map Tck.d).length = Q.ts.length := by simp
  have htt := takeM Tck.d Q.ts
  have htg := fun j hj => tck_get Q.ts (i := j) hj
  have hput := mK_put x false m
  rw [← hm2] at hput
  generalize hTD : Q.ts.map Tck.d = TD at *
  -- the inner loop
  have hin : wlp CC (s9_2 0) ⟨[(5, .ptr 1 0), (7, .mp 5), (9, .ptr 6 0), (38, .d O), (39, .d (.int .i64 n)), (40, .d (.int .i64 i)), (84, .d (.sl TD)), (85, .d (.int .i64 Q.ts.length)), (86, .d (.int .i64 0))], ob9 Q m bs ck ++ [.box [.d (.int .u8 k), .d (.int .u8 A), .d (.int .u8 B)], .dead]⟩ (.block 3 :: .post (.tidy [5, 7, 38, 39, 40] 0 8) :: .block 2 :: .post (.tidy [5, 7, 38, 39, 40] 0 8) :: .block 1 :: .post (.tidy [5, 7, 38, 39, 40] 0 8) :: .seq (.reg [⟨(some 118), (Op.binOp BinOp.add 3 (Operand.tmp 40) (Operand.const (Value.int IntKind.i64 1)) 3), none, ann0⟩, ⟨(some 40), (Op.move (Operand.tmp 118)), none, ann0⟩] none) :: .post (.tidy [5, 7, 38, 39, 40] 0 6) :: .loop (s9_1 0) :: ks) K := by
    refine wlp_inv2 (S := fun p : Nat × Bool => ⟨[(5, .ptr 1 0), (7, .mp 5), (9, .ptr 6 0), (38, .d O), (39, .d (.int .i64 n)), (40, .d (.int .i64 i)), (84, .d (.sl TD)), (85, .d (.int .i64 Q.ts.length)), (86, .d (.int .i64 p.1))], ob9 (afI p.2 Q Q2) (afI p.2 m m2) (afI p.2 bs bs2) (afI p.2 ck ck2) ++ [.box [.d (.int .u8 k), .d (.int .u8 A), .d (.int .u8 B)], .dead]⟩) (m := fun p => Q.ts.length - p.1) (Inv := fun p => p.1 ≤ Q.ts.length ∧ p.2 = decide (J < p.1)) ?_ (0, false) ⟨Nat.zero_le _, by simp⟩ rfl
    rintro ⟨j, f⟩ ⟨hj, hf⟩ ih
    rw [e9_2]
    simp only at hj hf ⊢
    by_cases hlt : j < Q.ts.length
    · have hxx := htg j hlt
      have hEj := (List.getElem?_eq_some_iff.1 hxx).2
      have hTj : j < TD.length := by omega
      have w3 : IntKind.i64.wrap ((j : Int) + 1) = (j : Int) + 1 := wrap64 (by omega) (by omega)
      have p2 : (j : Int) < Q.ts.length := by omega
      by_cases hc : j = J
      · subst hc
        have hf0 : f = false := by rw [hf]; simp
        have ih2 := ih (j + 1, true) ⟨by simp only; omega, by simp⟩ (by simp only; omega)
        have h27' := h27 hlt
        have hnJ := hJ hlt
        have hxJ' := hxJ hlt
        have e3 := hs2.symm
        rw [hf0]
        clear ih hnext htg hne hJ hxJ h27 hTD htt hf hf0
        subst hxJ'
        simp only at hput e3
        generalize Q.ts[j] = y at *
        generalize Q.ts.length = tn at *
        simp only [afI, if_true, Bool.false_eq_true, if_false, ob9, Qs.obk, Qs.obs] at ih2 h27' hput e3 ⊢
        generalize mK m2 = MM2 at *
        generalize mK m = MM at *
        generalize Q.es.map Ent.p = M1 at *
        generalize Q.ts.map Tck.p = M2 at *
        generalize Q2.es.map Ent.p = M3 at *
        generalize Q2.ts.map Tck.p = M4 at *
        try simp at ih2
        simp [c9_2, eqCells, T3, T4, T5, T9, T22, T23, T25, T27, T32, T34, T38, T40, T46, T49, T51, T54, T57, T66, T72, T74, T76, T77, T79, T81, T87, T89, T90, T92, T101, T107, T109, T119, T125, T128, T130, T133, T140, T148, T150, T151, CT, CQ, QQ, hTl, hxx, hEj, hTj, hA4, w0, w2, w3, p2, hlt, hnJ, h27', hput, e3, -putE, -putS]
        exact ih2
      · have hdj : decide (J < j + 1) = f := by
          rw [hf]
          by_cases c : J < j
          · have : J < j + 1 := by omega
            simp [c, this]
          · have : ¬ J < j + 1 := by omega
            simp [c, this]
        have ih2 := ih (j + 1, f) ⟨by simp only; omega, by simp only; rw [hdj]⟩ (by simp only; omega)
        have hnj := hne j hlt hc
        clear ih hnext htg hne hJ hxJ h27 hTD htt hf hdj
        generalize Q.ts[j] = y at *
        generalize Q.ts.length = tn at *
        generalize afI f Q Q2 = Q3 at *
        generalize afI f m m2 = m3 at *
        generalize afI f bs bs2 = bs3 at *
        generalize afI f ck ck2 = ck3 at *
        simp only [ob9, Qs.obk, Qs.obs] at ih2 ⊢
        generalize mK m3 = MM at *
        generalize Q3.es.map Ent.p = M1 at *
        generalize Q3.ts.map Tck.p = M2 at *
        try simp at ih2
        simp [c9_2, eqCells, T3, T4, T5, T9, T22, T23, T25, T27, T32, T34, T38, T40, T46, T49, T51, T54, T57, T66, T72, T74, T76, T77, T79, T81, T87, T89, T90, T92, T101, T107, T109, T119, T125, T128, T130, T133, T140, T148, T150, T151, CT, CQ, QQ, hTl, hxx, hEj, hTj, hA4, w0, w2, w3, p2, hlt, hnj]
        exact ih2
    · have e : j = Q.ts.length := by omega
      rw [e] at hf
      rw [← hf] at hnext
      subst e
      clear ih htg hne hJ hxJ h27 htt hf hput hs2
      generalize afI f Q Q2 = Q3 at *
      generalize afI f m m2 = m3 at *
      generalize afI f bs bs2 = bs3 at *
      generalize afI f ck ck2 = ck3 at *
      simp only [S9, ob9, Qs.obk, Qs.obs] at hnext ⊢
      generalize mK m3 = MM at *
      generalize Q3.es.map Ent.p = M1 at *
      generalize Q3.ts.map Tck.p = M2 at *
      generalize Q.ts.length = tn at *
      try simp at hnext
      simp [c9_2, eqCells, T3, T4, T5, T9, T22, T23, T25, T27, T32, T34, T38, T40, T46, T49, T51, T54, T57, T66, T72, T74, T76, T77, T79, T81, T87, T89, T90, T92, T101, T107, T109, T119, T125, T128, T130, T133, T140, T148, T150, T151, CT, CQ, QQ, w1]
      exact hnext
  clear hnext htg hne hJ hxJ h27 hput hs2 hm2
  simp only [S9, ob9, Qs.obk, Qs.obs] at h22 hin ⊢
  generalize mK m = MM at *
  generalize Q.es.map Ent.p = M1 at *
  generalize Q.ts.map Tck.p = M2 at *
  generalize Q.ts.length = tn at *
  try simp at hin
  simp [c9_1, eqCells, T3, T4, T5, T9, T22, T23, T25, T27, T32, T34, T38, T40, T46, T49, T51, T54, T57, T66, T72, T74, T76, T77, T79, T81, T87, T89, T90, T92, T101, T107, T109, T119, T125, T128, T130, T133, T140, T148, T150, T151, CT, CQ, QQ, List.lookup, hO, hx, hOi, hEe, hk5, h22, hTl, htt, p1, hi]
  exact hin
end
end Go.Proofs.YtdgpipoffcajgaaV
