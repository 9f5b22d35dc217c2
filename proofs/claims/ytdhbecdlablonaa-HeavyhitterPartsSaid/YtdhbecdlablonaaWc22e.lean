/- Items: Key, weight, Stream, exact. -/
import Derived.Test.YtdhbecdlablonaaWc22d
set_option linter.unusedVariables false
set_option linter.unusedSimpArgs false
namespace Go.Proofs.YtdhbecdlablonaaV
open Go.RowKit
attribute [local simp] TK.agg constAV evalAV EK.has EK.hasAll vecEls elsR AV.toD toDs AV.cells AV.one joinD TyI.zeroD OpR.of binIntF binStrF AV.isPtr ptrNil slNil mpNil nilE eqF negF posF binF pelF pvLoad pelSet pvStore boxLoad epLoad loadF boxStore storeF fieldAddrF fieldF epOf indexAddrF byteF indexF mapLen lenF cutF sliceF sliceN sliceX isSl slice3F fillF fillV arrFs buildF partsX landV buildSliceF roomB appVec appendF appMkF capF mmFrom mmF max2' min2' clearVec clearF convF unF pickF nilChkF extF ptrsOf callF makeSliceF sameKs sameD kindIs plainFs keyOk mapOb mapEs okV lookF lookupF putE putS mapPut mapUpdateF mapDel deleteF mapAll rangeM rangeF overV hitV nextO nextF entryM entryO entryF itOids builtinF capsOf allocF boxF bytesL bytesF byteTy strTy convertF makeFuncF mapNew makeMapF makeMapH opF reach reachOf AObj.live closedB nodupB packO packL packX backN backG backO obL backE frzX frzO AV.vids frzL landC sameObs landR touchF bitsW D.cells D.decEq D.decEqs AV.decEq AV.decEqs AObj.decEq AV.oids0 AV.oids AObj.oids renG renP AV.ren0 AV.ren envGet envPut envKeep obGet setEff putV St.put stepS keyChk chkD accD Ex.block AV.under AObj.under laysOf roomFor mkvO frzG szOk killO usedBy tidyS canL canS ghost ghostE normSt resOf allSome one0 resultsF finL finishL finish endF startEnv chkC backX comeC AV.flat0 rngC loopO layL endLp busyL idleL noRng rndSt rndEnd wpn_nil wpn_seq wpn_loop wpn_seq_exit wpn_loop_exit wpn_seq_ret wpn_loop_ret wpn_block wpn_post wpk_skip wpk_exit wpk_ret wpk_reg wpk_seq wpk_condT wpk_block wpk_loop wpk_pre wpk_post wop_nil wop_cons wop_guard St.know envSet cond_d cond_bool cond_int cond_str endE endQ freeB disj pushT bitsW int_beq int_bne eqS_def tbE fuelL_eq ann0_lays ann0_dd ann0_ro elsOf_dsl elsOf_dnils toNat_succ nn_succ pos_succ one_succ rng1 rng2 rng3 rng4 rng5 rng6 rng7 rng8 List.idxOf_cons wpk_rng rndK rndE
theorem atT {α : Type} (enc : α → D) {l pre suf : List α} {c : α} {N : Nat} (h : pre ++ c :: suf = l.take N) (hN : N < 1000000) :
    (pre.length : Int) < N ∧ IntKind.i64.wrap ((pre.length : Int) + 1) = (pre.length : Int) + 1 ∧ (l.map enc)[pre.length]? = some (enc c) ∧ pre.length < l.length ∧ l[pre.length]? = some c ∧ c ∈ l.take N := by
  have hlen : pre.length + (suf.length + 1) = min N l.length := by have := congrArg List.length h; simpa using this
  have h5 : l[pre.length]? = some c := by
    have : (l.take N)[pre.length]? = some c := by rw [← h]; simp
    rw [List.getElem?_take] at this
    split at this
    · exact this
    · cases this
  exact ⟨by omega, wrap64 (by omega) (by omega), by rw [List.getElem?_map, h5]; rfl, by omega, h5, by rw [← h]; simp⟩
theorem endT {α : Type} {l pre : List α} {N : Nat} (h : pre ++ [] = l.take N) : pre.length = min N l.length := by
  have := congrArg List.length h; simpa using this
theorem lenT {α : Type} {l pre suf : List α} {N : Nat} (h : pre ++ suf = l.take N) : pre.length + suf.length = min N l.length := by
  have := congrArg List.length h; simpa using this
structure It where
  (k w : Int)
def It.ok (x : It) : Prop := (0 ≤ x.k ∧ x.k < 256) ∧ 0 ≤ x.w ∧ x.w < 256
def It.enc (x : It) : D := .agg [.int .u8 x.k, .int .u8 x.w]
def keyB (k : Int) : ByteArray := ⟨#[107, UInt8.ofNat (97 + (k % 26).toNat)]⟩
def wtI (w : Int) : Int := 1 + w % 32
theorem wtI_le (w : Int) : 1 ≤ wtI w ∧ wtI w ≤ 32 := by unfold wtI; omega
set_option maxRecDepth 100000 in
theorem key_run (x : It) (h : x.ok) : run CC 20 [.d x.enc] [] = some (.d (.str (keyB x.k)), []) := by
  refine run_code (s := s20 0) rfl rfl rfl (by kernel_rfl) ?_
  obtain ⟨k, w⟩ := x
  obtain ⟨⟨h1, h2⟩, h3, h4⟩ := h
  simp only at h1 h2 h3 h4
  have hk := Int.tmod_eq_emod_of_nonneg h1 (b := 26)
  have w1 : IntKind.u8.wrap (k % 26) = k % 26 := wrap_u8 (by omega) (by omega)
  have w2 : IntKind.u8.wrap (97 + k % 26) = 97 + k % 26 := wrap_u8 (by omega) (by omega)
  have hb : (97 + k % 26).toNat = 97 + (k % 26).toNat := by omega
  simp [s20, It.enc, eqCells, T3, T4, T5, T9, T22, T25, T26, T28, T29, T36, T41, T47, T69, T74, T78, T85, T90, T98, T104, CT, hk, w1, w2, keyB, bytesF, bytesL, hb]
set_option maxRecDepth 100000 in
theorem weight_run (x : It) (h : x.ok) : run CC 21 [.d x.enc] [] = some (.d (.int .i64 (wtI x.w)), []) := by
  refine run_code (s := s21 0) rfl rfl rfl (by kernel_rfl) ?_
  obtain ⟨k, w⟩ := x
  obtain ⟨⟨h1, h2⟩, h3, h4⟩ := h
  simp only at h1 h2 h3 h4
  have hk := Int.tmod_eq_emod_of_nonneg h3 (b := 32)
  have w1 : IntKind.u8.wrap (w % 32) = w % 32 := wrap_u8 (by omega) (by omega)
  have w3 : IntKind.i64.wrap (w % 32) = w % 32 := wrap64 (by omega) (by omega)
  have w2 : IntKind.i64.wrap (1 + w % 32) = 1 + w % 32 := wrap64 (by omega) (by omega)
  simp [s21, It.enc, eqCells, T3, T4, T5, T9, T22, T25, T26, T28, T29, T36, T41, T47, T69, T74, T78, T85, T90, T98, T104, CT, hk, w1, w2, w3, wtI]
def stS (s : Sm) : List It → Sm
  | [] => s
  | x :: l => stS (addS s (keyB x.k) (wtI x.w)) l
theorem stS_app (x : It) : ∀ (l : List It) (s : Sm), stS s (l ++ [x]) = addS (stS s l) (keyB x.k) (wtI x.w)
  | [], s => rfl
  | y :: l, s => stS_app x l _
theorem putC_len (k : ByteArray) (n : Int) : ∀ l, (putC k n l).length ≤ l.length + 1
  | [] => by simp [putC]
  | p :: l => by
    have := putC_len k n l
    simp only [putC]
    split
    · simp only [List.length_cons]; omega
    · split <;> simp
theorem addS_len (s : Sm) (k : ByteArray) (w : Int) : (addS s k w).cs.length ≤ s.cs.length + 1 := by
  unfold addS
  have h1 := putC_len k w s.cs
  have h2 := putC_len k (IntKind.i64.wrap (w - minC w s.cs)) (lessC (minC w s.cs) s.cs)
  have h3 := lessC_len (minC w s.cs) s.cs
  split
  · exact h1
  · simp only; split <;> omega
theorem stS_len : ∀ (l : List It) (s : Sm), (stS s l).cs.length ≤ s.cs.length + l.length
  | [], s => by simp [stS]
  | x :: l, s => by
    have h1 := stS_len l (addS s (keyB x.k) (wtI x.w))
    have h2 := addS_len s (keyB x.k) (wtI x.w)
    simp only [stS, List.length_cons]; omega
def emS (n : Int) : Sm := ⟨n, 0, 0, []⟩
/-- Stream. -/
def strS (n : Int) (l : List It) : Sm := stS (emS n) (l.take 60)
set_option maxRecDepth 100000 in
set_option maxHeartbeats 2000000 in
theorem stream_run (n : Int) (A : D) (l : List It) (hok : ∀ x ∈ l, x.ok) (hA : elsOf (.d A) = some (l.map It.enc)) : ∃ X, elsOf (.d X) = some (csD (strS n l).cs) ∧ run CC 24 [.d (.int .i64 n), .d A] [] = some (.d (smD (strS n l) X), []) := by
  have hX : ∀ p : List It, ∃ X, elsOf (.d X) = some (csD (stS (emS n) p).cs) ∧ X = (if p = [] then .nils else .sl (csD (stS (emS n) p).cs)) := by
    intro p
    refine ⟨_, ?_, rfl⟩
    split
    · rename_i h; subst h; rfl
    · rfl
  obtain ⟨X, hX1, hX2⟩ := hX (l.take 60)
  refine ⟨X, hX1, ?_⟩
  refine run_code (s := s24 0) rfl rfl rfl (by kernel_rfl) ?_
  simp [s24, eqCells, T3, T4, T5, T9, T22, T25, T26, T28, T29, T36, T41, T47, T69, T74, T78, T85, T90, T98, T104, CT, smD]
  refine wlp_inv (S := fun p : List It × List It => ⟨[(1, .d A), (4, .ptr 0 0), (5, .ptr 1 0), (6, .d (.int .i64 p.1.length))], [.box [.d (.int .i64 0), .d (.int .i64 0), .d (.int .i64 0), .d .nils], .box [.d (.int .i64 (stS (emS n) p.1).most), .d (.int .i64 (stS (emS n) p.1).tot), .d (.int .i64 (stS (emS n) p.1).lost), .d (if p.1 = [] then .nils else .sl (csD (stS (emS n) p.1).cs))]]⟩) (m := fun p => p.2.length) (Inv := fun p => p.1 ++ p.2 = l.take 60) ?_ ([], l.take 60) rfl
  rintro ⟨pre, suf⟩ hps ih
  rw [e24_1]
  simp only at hps ⊢
  obtain ⟨Y, hY1, hY2⟩ := hX pre
  rw [← hY2]
  obtain ⟨a1, a2, a3⟩ := slF hY1
  simp only [AV.one, AV.cells, D.cells] at a1 a2 a3
  cases suf with
  | nil =>
    have hn := endT hps
    rw [List.append_nil] at hps
    have hYX : Y = X := by rw [hY2, hX2, hps]
    have hr : strS n l = stS (emS n) pre := by rw [hps]; rfl
    rw [hr, ← hYX]
    by_cases h1 : pre.length < l.length
    · have h2' : ¬ (pre.length : Int) < 60 := by omega
      simp [c24_1, eqCells, T3, T4, T5, T9, T22, T25, T26, T28, T29, T36, T41, T47, T69, T74, T78, T85, T90, T98, T104, CT, hA, a1, a2, a3, h1, h2']
    · simp [c24_1, eqCells, T3, T4, T5, T9, T22, T25, T26, T28, T29, T36, T41, T47, T69, T74, T78, T85, T90, T98, T104, CT, hA, a1, a2, a3, h1]
  | cons x suf =>
    obtain ⟨k1, k2, k3, k4, k5, k6⟩ := atT It.enc hps (by omega)
    have kg := getL k5 k4
    have hx := hok x (List.mem_of_getElem? k5)
    have hk := key_run x hx
    have hw := weight_run x hx
    have hlen := lenT hps
    have hl := stS_len pre (emS n)
    have ha := add_run (stS (emS n) pre) Y (by have : (emS n).cs.length = 0 := rfl; omega) hY1 (keyB x.k) (wtI x.w)
    have ih := ih (pre ++ [x], suf) (by simpa using hps) (by simp)
    simp only [stS_app] at ih
    simp at ih
    generalize hs : stS (emS n) pre = s at *
    obtain ⟨m1, t1, l1, c1⟩ := s
    generalize hs2 : addS ⟨m1, t1, l1, c1⟩ (keyB x.k) (wtI x.w) = s2 at *
    obtain ⟨m2, t2, l2, c2⟩ := s2
    simp only [smD] at ha
    simp only [It.enc] at k3 hk hw
    have k1 : (pre.length : Int) < 60 := k1
    simp [c24_1, eqCells, T3, T4, T5, T9, T22, T25, T26, T28, T29, T36, T41, T47, T69, T74, T78, T85, T90, T98, T104, CT, hA, a1, a2, a3, It.enc, k1, k2, k3, k4, k5, kg, hk, hw, ha]
    exact ih
def exC (key : ByteArray) : List It → Int
  | [] => 0
  | x :: l => (if eqS (keyB x.k) key = true then wtI x.w else 0) + exC key l
theorem exC_app (key : ByteArray) (x : It) : ∀ l, exC key (l ++ [x]) = exC key l + if eqS (keyB x.k) key = true then wtI x.w else 0
  | [] => by simp [exC]
  | y :: l => by simp only [List.cons_append, exC, exC_app key x l]; omega
theorem exC_le (key : ByteArray) : ∀ l, 0 ≤ exC key l ∧ exC key l ≤ 32 * l.length
  | [] => by simp [exC]
  | y :: l => by
    have := exC_le key l
    have := wtI_le y.w
    simp only [exC, List.length_cons]; split <;> omega
set_option maxRecDepth 100000 in
set_option maxHeartbeats 2000000 in
theorem exact_run (A : D) (l : List It) (key : ByteArray) (hok : ∀ x ∈ l, x.ok) (hA : elsOf (.d A) = some (l.map It.enc)) : run CC 22 [.d A, .d (.str key)] [] = some (.d (.int .i64 (exC key (l.take 60))), []) := by
  refine run_code (s := s22 0) rfl rfl rfl (by kernel_rfl) ?_
  simp [s22, eqCells, T3, T4, T5, T9, T22, T25, T26, T28, T29, T36, T41, T47, T69, T74, T78, T85, T90, T98, T104, CT]
  refine wlp_inv (S := fun p : List It × List It => ⟨[(0, .d A), (1, .d (.str key)), (5, .d (.int .i64 (exC key p.1))), (6, .d (.int .i64 p.1.length))], []⟩) (m := fun p => p.2.length) (Inv := fun p => p.1 ++ p.2 = l.take 60) ?_ ([], l.take 60) rfl
  rintro ⟨pre, suf⟩ hps ih
  rw [e22_1]
  simp only at hps ⊢
  cases suf with
  | nil =>
    have hn := endT hps
    rw [List.append_nil] at hps
    rw [← hps]
    by_cases h1 : pre.length < l.length
    · have h2' : ¬ (pre.length : Int) < 60 := by omega
      simp [c22_1, eqCells, T3, T4, T5, T9, T22, T25, T26, T28, T29, T36, T41, T47, T69, T74, T78, T85, T90, T98, T104, CT, hA, h1, h2']
    · simp [c22_1, eqCells, T3, T4, T5, T9, T22, T25, T26, T28, T29, T36, T41, T47, T69, T74, T78, T85, T90, T98, T104, CT, hA, h1]
  | cons x suf =>
    obtain ⟨k1, k2, k3, k4, k5, k6⟩ := atT It.enc hps (by omega)
    have kg := getL k5 k4
    have hx := hok x (List.mem_of_getElem? k5)
    have hk := key_run x hx
    have hw := weight_run x hx
    have hlen := lenT hps
    have hle := exC_le key pre
    have hwl := wtI_le x.w
    have wr : IntKind.i64.wrap (exC key pre + wtI x.w) = exC key pre + wtI x.w := wrap64 (by omega) (by omega)
    have ih := ih (pre ++ [x], suf) (by simpa using hps) (by simp)
    simp only [exC_app] at ih
    simp at ih
    simp only [It.enc] at k3 hk hw
    have k1 : (pre.length : Int) < 60 := k1
    by_cases he : eqS (keyB x.k) key = true
    · simp [he] at ih
      simp [c22_1, eqCells, T3, T4, T5, T9, T22, T25, T26, T28, T29, T36, T41, T47, T69, T74, T78, T85, T90, T98, T104, CT, hA, It.enc, k1, k2, k3, k4, k5, kg, hk, hw, he, wr]
      exact ih
    · simp [he] at ih
      simp [c22_1, eqCells, T3, T4, T5, T9, T22, T25, T26, T28, T29, T36, T41, T47, T69, T74, T78, T85, T90, T98, T104, CT, hA, It.enc, k1, k2, k3, k4, k5, kg, hk, hw, he]
      exact ih
end Go.Proofs.YtdhbecdlablonaaV
