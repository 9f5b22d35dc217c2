/- The law HeavyhitterParts: the walk. -/
import Derived.Test.YtdhbecdlablonaaWe12
set_option linter.unusedVariables false
set_option linter.unusedSimpArgs false
namespace Go.Proofs.YtdhbecdlablonaaV
open Go.RowKit
attribute [local simp] TK.agg constAV evalAV EK.has EK.hasAll vecEls elsR AV.toD toDs AV.cells AV.one joinD TyI.zeroD OpR.of binIntF binStrF AV.isPtr ptrNil slNil mpNil nilE eqF negF posF binF pelF pvLoad pelSet pvStore boxLoad epLoad loadF boxStore storeF fieldAddrF fieldF epOf indexAddrF byteF indexF mapLen lenF cutF sliceF sliceN sliceX isSl slice3F fillF fillV arrFs buildF partsX landV buildSliceF roomB appVec appendF appMkF capF mmFrom mmF max2' min2' clearVec clearF convF unF pickF nilChkF extF ptrsOf callF makeSliceF sameKs sameD kindIs plainFs keyOk mapOb mapEs okV lookF lookupF putE putS mapPut mapUpdateF mapDel deleteF mapAll rangeM rangeF overV hitV nextO nextF entryM entryO entryF itOids builtinF capsOf allocF boxF bytesL bytesF byteTy strTy convertF makeFuncF mapNew makeMapF makeMapH opF reach reachOf AObj.live closedB nodupB packO packL packX backN backG backO obL backE frzX frzO AV.vids frzL landC sameObs landR touchF bitsW D.cells D.decEq D.decEqs AV.decEq AV.decEqs AObj.decEq AV.oids0 AV.oids AObj.oids renG renP AV.ren0 AV.ren envGet envPut envKeep obGet setEff putV St.put stepS keyChk chkD accD Ex.block AV.under AObj.under laysOf roomFor mkvO frzG szOk killO usedBy tidyS canL canS ghost ghostE normSt resOf allSome one0 resultsF finL finishL finish endF startEnv chkC backX comeC AV.flat0 rngC loopO layL endLp busyL idleL noRng rndSt rndEnd wpn_nil wpn_seq wpn_loop wpn_seq_exit wpn_loop_exit wpn_seq_ret wpn_loop_ret wpn_block wpn_post wpk_skip wpk_exit wpk_ret wpk_reg wpk_seq wpk_condT wpk_block wpk_loop wpk_pre wpk_post wop_nil wop_cons wop_guard St.know envSet cond_d cond_bool cond_int cond_str endE endQ freeB disj pushT bitsW int_beq int_bne eqS_def tbE fuelL_eq ann0_lays ann0_dd ann0_ro elsOf_dsl elsOf_dnils toNat_succ nn_succ pos_succ one_succ rng1 rng2 rng3 rng4 rng5 rng6 rng7 rng8 List.idxOf_cons wpk_rng rndK rndE
theorem exC_split (q : ByteArray) : ∀ (a b : List It), exC q (a ++ b) = exC q a + exC q b
  | [], b => by simp [exC]
  | x :: a, b => by
    have ih := exC_split q a b
    simp only [List.cons_append, exC, ih]
    omega
theorem sumW_split : ∀ (a b : List It), sumW (a ++ b) = sumW a + sumW b
  | [], b => by simp [sumW]
  | x :: a, b => by
    have ih := sumW_split a b
    simp only [List.cons_append, sumW, ih]
    omega
set_option maxRecDepth 100000 in
set_option maxHeartbeats 4000000 in
theorem loop5_1 (n : Int) (A : D) (l : List It) (hok : ∀ x ∈ l, x.ok) (hA : elsOf (.d A) = some (l.map It.enc)) (s t : Sm) (X Y : D) (hX : elsOf (.d X) = some (csD s.cs)) (hY : elsOf (.d Y) = some (csD t.cs)) (hs : okS s) (ht : okS t)
    (hb : ∀ q, cntC q s.cs ≤ exC q (l.take 60) ∧ exC q (l.take 60) ≤ cntC q s.cs + s.lost) (hb2 : ∀ q, cntC q t.cs ≤ exC q (l.take 60) ∧ exC q (l.take 60) ≤ cntC q t.cs + t.lost) (ks : List Fr) (K : Ex → St → Prop)
    (hnext : wpn CC .norm ⟨[(0, .d (.int .u8 n)), (12, .ptr 4 0), (15, .ptr 5 0)], [.dead, .dead, .dead, .dead, .box [.d (.int .i64 s.most), .d (.int .i64 s.tot), .d (.int .i64 s.lost), .d X], .box [.d (.int .i64 t.most), .d (.int .i64 t.tot), .d (.int .i64 t.lost), .d Y]]⟩ ks K) :
    wlp CC (s5_1 0) ⟨[(0, .d (.int .u8 n)), (1, .d A), (12, .ptr 4 0), (15, .ptr 5 0), (18, .d (.int .i64 0))], [.dead, .dead, .dead, .dead, .box [.d (.int .i64 s.most), .d (.int .i64 s.tot), .d (.int .i64 s.lost), .d X], .box [.d (.int .i64 t.most), .d (.int .i64 t.tot), .d (.int .i64 t.lost), .d Y]]⟩ (.block 0 :: .post (.tidy [0, 12, 15] 0 6) :: .post (.tidy [0, 12, 15] 0 6) :: ks) K := by
  obtain ⟨a1, a2, a3⟩ := slF hX
  simp only [AV.one, AV.cells, D.cells] at a1 a2 a3
  obtain ⟨b1, b2, b3⟩ := slF hY
  simp only [AV.one, AV.cells, D.cells] at b1 b2 b3
  refine wlp_inv (S := fun k : Nat => ⟨[(0, .d (.int .u8 n)), (1, .d A), (12, .ptr 4 0), (15, .ptr 5 0), (18, .d (.int .i64 k))], [.dead, .dead, .dead, .dead, .box [.d (.int .i64 s.most), .d (.int .i64 s.tot), .d (.int .i64 s.lost), .d X], .box [.d (.int .i64 t.most), .d (.int .i64 t.tot), .d (.int .i64 t.lost), .d Y]]⟩) (m := fun k => 26 - k) (Inv := fun k => k ≤ 26) ?_ 0 (by omega)
  rintro k hk ih
  rw [e5_1]
  by_cases h : k < 26
  · have q1 : (k : Int) < 26 := by omega
    have w1 : IntKind.u8.wrap (k : Int) = k := wrap_u8 (by omega) (by omega)
    have w2 : IntKind.i64.wrap ((k : Int) + 1) = (k : Int) + 1 := wrap64 (by omega) (by omega)
    have hkey := keyK_run k h
    have hex := exact_run A l (keyB k) hok hA
    have hbo := bounds_run s X hs.short hs.srt hX hs.small (keyB k)
    rw [hs.hi] at hbo
    have hbo2 := bounds_run t Y ht.short ht.srt hY ht.small (keyB k)
    rw [ht.hi] at hbo2
    obtain ⟨c1', c2'⟩ := hb (keyB k)
    obtain ⟨c3', c4'⟩ := hb2 (keyB k)
    have ih := ih (k + 1) (by omega) (by omega)
    simp at ih
    generalize exC (keyB k) (l.take 60) = ex at *
    generalize cntC (keyB k) s.cs = ct at *
    generalize cntC (keyB k) t.cs = cu at *
    have c1 : ¬ ex < ct := by omega
    have c2 : ¬ ct + s.lost < ex := by omega
    have c3 : ¬ ex < cu := by omega
    have c4 : ¬ cu + t.lost < ex := by omega
    simp only [smD] at hbo hbo2
    simp [c5_1, eqCells, T3, T4, T5, T9, T22, T25, T26, T28, T29, T36, T41, T47, T69, T74, T78, T85, T90, T98, T104, CT, q1, w1, w2, hkey, hex, hbo, hbo2, c1, c2, c3, c4, a1, a2, a3, b1, b2, b3]
    exact ih
  · have q1 : ¬ (k : Int) < 26 := by omega
    simp [c5_1, eqCells, T3, T4, T5, T9, T22, T25, T26, T28, T29, T36, T41, T47, T69, T74, T78, T85, T90, T98, T104, CT, q1, a1, a2, a3, b1, b2, b3]
    exact hnext
theorem mrg_lost {s : Sm} (h : okS s) : 0 ≤ s.lost * (s.most + 1) ∧ s.lost * (s.most + 1) ≤ s.tot := by
  have h1 := (sum_le h.pos).1
  have h2 := h.sum
  have h3 := h.lost
  have h4 : 0 ≤ s.lost * (s.most + 1) := Int.mul_nonneg h3 (by have := h.most; omega)
  omega
theorem sl_els (els : List D) : elsOf (.d (.sl els)) = some els := rfl
set_option maxRecDepth 100000 in
set_option maxHeartbeats 16000000 in
theorem law5_run (n : Int) (hn : 0 ≤ n ∧ n < 256) (A : D) (l : List It) (hok : ∀ x ∈ l, x.ok) (hA : elsOf (.d A) = some (l.map It.enc)) (c0 c1 : Nat) (hc0 : c0 < 256) (hc1 : c1 < 256) (hlS : szAll 2 (l.map It.enc) = true) (hl64 : l.length < 4611686018427387904) : run CC 5 [.d (.int .u8 n), .d A, .d (.agg [.int .u8 c0, .int .u8 c1])] [] = some (.d (.bool true), []) := by
  refine run_code (s := s5 0) rfl rfl rfl (by kernel_rfl) ?_
  have hll : (l.map It.enc).length = l.length := by simp
  by_cases hbig : (60 : Int) < l.length
  · generalize l.map It.enc = E at *
    simp [s5, eqCells, T3, T4, T5, T9, T22, T25, T26, T28, T29, T36, T41, T47, T69, T74, T78, T85, T90, T98, T104, CT, CQ, QQ, known_run, hA, hll, hbig]
  have hm := most_run n hn
  have hm12 := mostI_12 n
  have hmk := mostI_ok n
  have r0 : (c0 : Int).tmod ((l.length : Int) + 1) = ((c0 % (l.length + 1) : Nat) : Int) := by rw [Int.tmod_eq_emod_of_nonneg (by omega)]; rfl
  have r1 : (c1 : Int).tmod ((l.length : Int) + 1) = ((c1 % (l.length + 1) : Nat) : Int) := by rw [Int.tmod_eq_emod_of_nonneg (by omega)]; rfl
  have b0 : c0 % (l.length + 1) < l.length + 1 := Nat.mod_lt _ (by omega)
  have b1 : c1 % (l.length + 1) < l.length + 1 := Nat.mod_lt _ (by omega)
  have w0 : IntKind.i64.wrap (c0 : Int) = c0 := wrap64 (by omega) (by omega)
  have w1 : IntKind.i64.wrap (c1 : Int) = c1 := wrap64 (by omega) (by omega)
  have w2 : IntKind.i64.wrap ((l.length : Int) + 1) = (l.length : Int) + 1 := wrap64 (by omega) (by omega)
  have z1 : ¬ (l.length : Int) + 1 = 0 := by omega
  generalize c0 % (l.length + 1) = i0 at *
  generalize c1 % (l.length + 1) = k0 at *
  obtain ⟨i, hi⟩ : ∃ i : Nat, i = min i0 k0 := ⟨_, rfl⟩
  obtain ⟨k, hk⟩ : ∃ k : Nat, k = max i0 k0 := ⟨_, rfl⟩
  have hmin : min2' (i0 : Int) k0 = i := by unfold min2'; split <;> omega
  have hmax : max2' (i0 : Int) k0 = k := by unfold max2'; split <;> omega
  have hik : i ≤ k := by omega
  have hkl : k ≤ l.length := by omega
  -- the parts
  obtain ⟨X1, hX1, hst1⟩ := stream_run (mostI n) (.sl ((l.map It.enc).take i)) (l.take i) (fun x hx => hok x (List.mem_of_mem_take hx)) (by rw [sl_els, List.map_take])
  obtain ⟨X2, hX2, hst2⟩ := stream_run (mostI n) (.sl (((l.map It.enc).take k).drop i)) ((l.take k).drop i) (fun x hx => hok x (List.mem_of_mem_take (List.mem_of_mem_drop hx))) (by rw [sl_els, List.map_drop, List.map_take])
  obtain ⟨X3, hX3, hst3⟩ := stream_run (mostI n) (.sl ((l.map It.enc).drop k)) (l.drop k) (fun x hx => hok x (List.mem_of_mem_drop hx)) (by rw [sl_els, List.map_drop])
  obtain ⟨s1, m1, t1, u1, e1⟩ := str_ok (mostI n) hmk (l.take i)
  obtain ⟨s2, m2, t2, u2, e2⟩ := str_ok (mostI n) hmk ((l.take k).drop i)
  obtain ⟨s3, m3, t3, u3, e3⟩ := str_ok (mostI n) hmk (l.drop k)
  have htk : l.take 60 = l := List.take_of_length_le (by omega)
  have ht1 : (l.take i).take 60 = l.take i := List.take_of_length_le (by rw [List.length_take]; omega)
  have ht2 : ((l.take k).drop i).take 60 = (l.take k).drop i := List.take_of_length_le (by rw [List.length_drop, List.length_take]; omega)
  have ht3 : (l.drop k).take 60 = l.drop k := List.take_of_length_le (by rw [List.length_drop]; omega)
  have hsplit : ∀ q, exC q (l.take i) + exC q ((l.take k).drop i) + exC q (l.drop k) = exC q (l.take 60) := fun q => by
    rw [← exC_split]
    have : l.take i ++ (l.take k).drop i = l.take k := by
      have h := List.take_append_drop i (l.take k)
      rw [List.take_take, Nat.min_eq_left hik] at h
      exact h
    rw [this, ← exC_split, List.take_append_drop, htk]
  rw [ht1] at e1
  rw [ht2] at e2
  rw [ht3] at e3
  generalize strS (mostI n) (l.take i) = p1 at *
  generalize strS (mostI n) ((l.take k).drop i) = p2 at *
  generalize strS (mostI n) (l.drop k) = p3 at *
  have q1 := s1.tot
  have q2 := s2.tot
  have q3 := s3.tot
  -- the merges
  have hA1 := merge_run s1 s2 (by omega) (by omega) (by omega) X1 X2 hX1 hX2
  obtain ⟨v1, v1l, v1b⟩ := mrgS_ok s1 s2 (by omega) (by omega)
  have hB1 := merge_run s2 s3 (by omega) (by omega) (by omega) X2 X3 hX2 hX3
  obtain ⟨v2, v2l, v2b⟩ := mrgS_ok s2 s3 (by omega) (by omega)
  have mo1 : (mrgS p1 p2).most = mostI n := m1
  have mo2 : (mrgS p2 p3).most = mostI n := m2
  have to1 : (mrgS p1 p2).tot = p1.tot + p2.tot := rfl
  have to2 : (mrgS p2 p3).tot = p2.tot + p3.tot := rfl
  have hA2 := merge_run v1 s3 (by omega) (by omega) (by omega) (.sl (csD (mrgS p1 p2).cs)) X3 rfl hX3
  obtain ⟨v3, v3l, v3b⟩ := mrgS_ok v1 s3 (by omega) (by omega)
  have hB2 := merge_run s1 v2 (by omega) (by omega) (by omega) X1 (.sl (csD (mrgS p2 p3).cs)) hX1 rfl
  obtain ⟨v4, v4l, v4b⟩ := mrgS_ok s1 v2 (by omega) (by omega)
  have mo3 : (mrgS (mrgS p1 p2) p3).most = mostI n := m1
  have mo4 : (mrgS p1 (mrgS p2 p3)).most = mostI n := m1
  have to3 : (mrgS (mrgS p1 p2) p3).tot = p1.tot + p2.tot + p3.tot := rfl
  have to4 : (mrgS p1 (mrgS p2 p3)).tot = p1.tot + p2.tot + p3.tot := by show p1.tot + (p2.tot + p3.tot) = _; omega
  have hb1 : ∀ q, cntC q (mrgS (mrgS p1 p2) p3).cs ≤ exC q (l.take 60) ∧ exC q (l.take 60) ≤ cntC q (mrgS (mrgS p1 p2) p3).cs + (mrgS (mrgS p1 p2) p3).lost := fun q => by
    have := hsplit q; have := e1 q; have := e2 q; have := e3 q; have := v1b q; have := v3b q
    omega
  have hb2 : ∀ q, cntC q (mrgS p1 (mrgS p2 p3)).cs ≤ exC q (l.take 60) ∧ exC q (l.take 60) ≤ cntC q (mrgS p1 (mrgS p2 p3)).cs + (mrgS p1 (mrgS p2 p3)).lost := fun q => by
    have := hsplit q; have := e1 q; have := e2 q; have := e3 q; have := v2b q; have := v4b q
    omega
  have hl1 := mrg_lost v3
  have hl2 := mrg_lost v4
  rw [mo3] at hl1
  rw [mo4] at hl2
  have hloop := fun ks K => loop5_1 n A l hok hA (mrgS (mrgS p1 p2) p3) (mrgS p1 (mrgS p2 p3)) (.sl (csD (mrgS (mrgS p1 p2) p3).cs)) (.sl (csD (mrgS p1 (mrgS p2 p3)).cs)) rfl rfl v3 v4 hb1 hb2 ks K
  obtain ⟨a1, a2, a3⟩ := slF hX1
  simp only [AV.one, AV.cells, D.cells] at a1 a2 a3
  obtain ⟨d1, d2, d3⟩ := slF hX2
  simp only [AV.one, AV.cells, D.cells] at d1 d2 d3
  obtain ⟨f1, f2, f3⟩ := slF hX3
  simp only [AV.one, AV.cells, D.cells] at f1 f2 f3
  clear hb1 hb2 v1b v2b v3b v4b e1 e2 e3 hsplit v3 v4 v1 v2
  rw [to3, to4] at hloop
  simp only [smD] at hst1 hst2 hst3 hA1 hB1 hA2 hB2
  rw [to3] at hA2 hl1
  rw [to4] at hB2 hl2
  generalize csD (mrgS (mrgS p1 p2) p3).cs = C3 at *
  generalize csD (mrgS p1 (mrgS p2 p3)).cs = C4 at *
  generalize (mrgS (mrgS p1 p2) p3).lost = l3 at *
  generalize (mrgS p1 (mrgS p2 p3)).lost = l4 at *
  rw [mo3] at hA2 hloop
  rw [mo4] at hB2 hloop
  rw [mo1] at hA1 hA2
  rw [mo2] at hB1 hB2
  rw [to1] at hA1 hA2
  rw [to2] at hB1 hB2
  generalize csD (mrgS p1 p2).cs = C1 at *
  generalize csD (mrgS p2 p3).cs = C2 at *
  generalize (mrgS p1 p2).lost = l1 at *
  generalize (mrgS p2 p3).lost = l2 at *
  generalize l.map It.enc = E at *
  have hEl : E.length = l.length := hll
  have g1 : (i : Int) ≤ l.length := by omega
  have g2 : (i : Int) ≤ k := by omega
  have g3 : (k : Int) ≤ l.length := by omega
  have g4 : E.take l.length = E := List.take_of_length_le (by omega)
  have wm : IntKind.i64.wrap (mostI n + 1) = mostI n + 1 := wrap64 (by omega) (by omega)
  have wl3 : IntKind.i64.wrap (l3 * (mostI n + 1)) = l3 * (mostI n + 1) := wrap64 (by omega) (by omega)
  have wl4 : IntKind.i64.wrap (l4 * (mostI n + 1)) = l4 * (mostI n + 1) := wrap64 (by omega) (by omega)
  simp [s5, eqCells, T3, T4, T5, T9, T22, T25, T26, T28, T29, T36, T41, T47, T69, T74, T78, T85, T90, T98, T104, CT, CQ, QQ, known_run, hA, hEl, hbig, hm, r0, r1, w0, w1, w2, z1, hmin, hmax, hst1, hst2, hst3, a1, a2, a3, d1, d2, d3, f1, f2, f3, hA1, hA2, hB1, hB2, g1, g2, g3, g4, hlS, -min2', -max2']
  refine hloop _ _ ?_
  have y1 : l3 * (mostI n + 1) ≤ p1.tot + p2.tot + p3.tot := hl1.2
  have y2 : l4 * (mostI n + 1) ≤ p1.tot + p2.tot + p3.tot := hl2.2
  simp [eqCells, T3, T4, T5, T9, T22, T25, T26, T28, T29, T36, T41, T47, T69, T74, T78, T85, T90, T98, T104, CT, hm, wm, wl3, wl4, y1, y2]
end Go.Proofs.YtdhbecdlablonaaV
