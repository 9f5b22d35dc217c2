/- limits, New, begin, fragment; operations; the empty queue. -/
import Derived.Test.YtdgpipoffcajgaaQe6
set_option linter.unusedVariables false
set_option linter.unusedSimpArgs false
namespace Go.Proofs.YtdgpipoffcajgaaV
open Go.RowKit
attribute [local simp] TK.agg constAV evalAV EK.has EK.hasAll vecEls elsR AV.toD toDs AV.cells AV.one joinD TyI.zeroD OpR.of binIntF binStrF AV.isPtr ptrNil slNil mpNil nilE eqF negF posF binF pelF pvLoad pelSet pvStore boxLoad epLoad loadF boxStore storeF fieldAddrF fieldF epOf indexAddrF byteF indexF mapLen lenF cutF sliceF sliceN sliceX isSl slice3F fillF fillV arrFs buildF partsX landV buildSliceF roomB appVec appendF appMkF capF mmFrom mmF max2' min2' clearVec clearF convF unF pickF nilChkF extF ptrsOf callF makeSliceF sameKs sameD kindIs plainFs keyOk mapOb mapEs okV lookF lookupF putE putS mapPut mapUpdateF mapDel deleteF mapAll rangeM rangeF overV hitV nextO nextF entryM entryO entryF itOids builtinF capsOf allocF boxF bytesL bytesF byteTy strTy convertF makeFuncF mapNew makeMapF makeMapH opF reach reachOf AObj.live closedB nodupB packO packL packX backN backG backO obL backE frzX frzO AV.vids frzL landC sameObs landR touchF bitsW D.cells D.decEq D.decEqs AV.decEq AV.decEqs AObj.decEq AV.oids0 AV.oids AObj.oids renG renP AV.ren0 AV.ren envGet envPut envKeep obGet setEff putV St.put stepS keyChk chkD accD Ex.block AV.under AObj.under laysOf roomFor mkvO frzG szOk killO usedBy tidyS canL canS ghost ghostE normSt resOf allSome one0 resultsF finL finishL finish endF startEnv chkC backX comeC AV.flat0 rngC loopO layL endLp busyL idleL noRng rndSt rndEnd wpn_nil wpn_seq wpn_loop wpn_seq_exit wpn_loop_exit wpn_seq_ret wpn_loop_ret wpn_block wpn_post wpk_skip wpk_exit wpk_ret wpk_reg wpk_seq wpk_condT wpk_block wpk_loop wpk_pre wpk_post wop_nil wop_cons wop_guard St.know envSet cond_d cond_bool cond_int cond_str endE endQ freeB disj pushT bitsW int_beq int_bne eqS_def tbE fuelL_eq ann0_lays ann0_dd ann0_ro elsOf_dsl elsOf_dnils toNat_succ nn_succ pos_succ one_succ rng1 rng2 rng3 rng4 rng5 rng6 rng7 rng8 List.idxOf_cons wpk_rng rndK rndE
/-- The queue's objects, its box at place k. -/
abbrev Qs.obk (q : Qs) (k : Nat) : List AObj := [.box [.d (.int .i64 q.la), .d (.int .i64 q.lb), .d (.int .i64 q.lc), .mp (k + 1), .mp (k + 2), .d (.int .i64 q.arr), .d (.int .i64 q.iss), .d (.int .i64 q.srv), .d (.int .i64 q.now)], .mapd (q.es.map Ent.p) q.bs q.ck, .mapd (q.ts.map Tck.p) q.cs q.dk]
/-- A byte's remainder. -/
theorem rem_nat (a : Nat) (m : Nat) : (a : Int).tmod (m : Int) = ((a % m : Nat) : Int) := by
  rw [Int.tmod_eq_emod_of_nonneg (by omega)]; rfl
def zA (x : Nat) : Int := 1 + ((x % 6 : Nat) : Int)
def zB (x y : Nat) : Int := 1 + (((y % 4) % (1 + x % 6) : Nat) : Int)
def zC (x : Nat) : Int := 1 + ((x % 8 : Nat) : Int)
set_option maxRecDepth 100000 in
theorem limits23_run (a b c : Nat) : run CC 23 [.d (.agg [.int .u8 a, .int .u8 b, .int .u8 c])] [] = some (.d (.agg [.int .i64 (zA a), .int .i64 (zB a b), .int .i64 (zC c)]), []) := by
  have h1 := rem_nat a 6
  have h2 := rem_nat b 4
  have h3 := rem_nat c 8
  have h4 := rem_nat (b % 4) (1 + a % 6)
  have b1 : a % 6 < 6 := Nat.mod_lt _ (by omega)
  have b2 : b % 4 < 4 := Nat.mod_lt _ (by omega)
  have b3 : c % 8 < 8 := Nat.mod_lt _ (by omega)
  have b4 : (b % 4) % (1 + a % 6) < 1 + a % 6 := Nat.mod_lt _ (by omega)
  unfold zA zB zC
  generalize a % 6 = x at *
  generalize b % 4 = y at *
  generalize c % 8 = w at *
  generalize y % (1 + x) = r at *
  rw [Int.natCast_add] at h4
  simp only [Int.cast_ofNat_Int] at h1 h2 h3 h4
  have w1 : IntKind.i64.wrap (x : Int) = x := wrap64 (by omega) (by omega)
  have w2 : IntKind.i64.wrap (y : Int) = y := wrap64 (by omega) (by omega)
  have w3 : IntKind.i64.wrap (w : Int) = w := wrap64 (by omega) (by omega)
  have w4 : IntKind.i64.wrap (1 + (x : Int)) = 1 + x := wrap64 (by omega) (by omega)
  have w5 : IntKind.i64.wrap (1 + (r : Int)) = 1 + r := wrap64 (by omega) (by omega)
  have w6 : IntKind.i64.wrap (1 + (w : Int)) = 1 + w := wrap64 (by omega) (by omega)
  have z1 : ¬ (1 + (x : Int)) = 0 := by omega
  refine run_code (s := s23 0) rfl rfl rfl (by kernel_rfl) ?_
  simp [s23, eqCells, T3, T4, T5, T9, T22, T23, T25, T27, T32, T34, T38, T40, T46, T49, T51, T54, T57, T66, T72, T74, T76, T77, T79, T81, T87, T89, T90, T92, T101, T107, T109, T119, T125, T128, T130, T133, T140, T148, T150, T151, CT, CQ, QQ, h1, h2, h3, h4, w1, w2, w3, w4, w5, w6, z1]
set_option maxRecDepth 100000 in
theorem new19_run (a b c : Int) (ha : 1 ≤ a ∧ a ≤ 4096) (hb : 1 ≤ b ∧ b ≤ a) (hc : 1 ≤ c ∧ c ≤ 1048576) : run CC 19 [.d (.agg [.int .i64 a, .int .i64 b, .int .i64 c])] [] = some (.tup [.ptr 0 0, .d (.int .i64 0)], [.box [.d (.int .i64 a), .d (.int .i64 b), .d (.int .i64 c), .mp 1, .mp 2, .d (.int .i64 0), .d (.int .i64 0), .d (.int .i64 0), .d (.int .i64 0)], .mapd [] [] 0, .mapd [] [] 0]) := by
  have p1 : ¬ a < 1 := by omega
  have p2 : ¬ 4096 < a := by omega
  have p3 : ¬ b < 1 := by omega
  have p4 : ¬ a < b := by omega
  have p5 : ¬ c < 1 := by omega
  have p6 : ¬ 1048576 < c := by omega
  refine run_code (s := s19 0) rfl rfl rfl (by kernel_rfl) ?_
  simp [s19, eqCells, T3, T4, T5, T9, T22, T23, T25, T27, T32, T34, T38, T40, T46, T49, T51, T54, T57, T66, T72, T74, T76, T77, T79, T81, T87, T89, T90, T92, T101, T107, T109, T119, T125, T128, T130, T133, T140, T148, T150, T151, CT, CQ, QQ, p1, p2, p3, p4, p5, p6]
def begO (A B C : Int) : List AObj := [.box [.d (.int .i64 A), .d (.int .i64 B), .d (.int .i64 C), .mp 1, .mp 2, .d (.int .i64 0), .d (.int .i64 0), .d (.int .i64 0), .d (.int .i64 0)], .mapd [] [] 0, .mapd [] [] 0, .box [.d (.int .i64 A), .d (.int .i64 B), .d (.int .i64 C), .d .nils, .d (.int .i64 1), .d (.int .i64 0), .d (.int .i64 0)]]
set_option maxRecDepth 100000 in
theorem begin13_run (a b c : Nat) : run CC 13 [.d (.agg [.int .u8 a, .int .u8 b, .int .u8 c])] [] = some (.tup [.ptr 0 0, .ptr 3 0], begO (zA a) (zB a b) (zC c)) := by
  have hl := limits23_run a b c
  have b1 : a % 6 < 6 := Nat.mod_lt _ (by omega)
  have b3 : c % 8 < 8 := Nat.mod_lt _ (by omega)
  have b4 : (b % 4) % (1 + a % 6) < 1 + a % 6 := Nat.mod_lt _ (by omega)
  have hn := new19_run (zA a) (zB a b) (zC c) ⟨by unfold zA; omega, by unfold zA; omega⟩ ⟨by unfold zB; omega, by unfold zA zB; omega⟩ ⟨by unfold zC; omega, by unfold zC; omega⟩
  generalize zA a = A at *
  generalize zB a b = B at *
  generalize zC c = C at *
  unfold begO
  refine run_code (s := s13 0) rfl rfl rfl (by kernel_rfl) ?_
  simp [s13, eqCells, T3, T4, T5, T9, T22, T23, T25, T27, T32, T34, T38, T40, T46, T49, T51, T54, T57, T66, T72, T74, T76, T77, T79, T81, T87, T89, T90, T92, T101, T107, T109, T119, T125, T128, T130, T133, T140, T148, T150, T151, CT, CQ, QQ, hl, hn]
set_option maxRecDepth 100000 in
theorem fragment28_run (k A B : Nat) (hA : A < 256) (hB : B < 256) : run CC 28 [.d (.agg [.int .u8 k, .int .u8 A, .int .u8 B])] [] = some (.d (frD (1 + ((A % 4 : Nat) : Int)) ((B % 8 : Nat) : Int) A B), []) := by
  have h1 := rem_nat A 4
  have h2 := rem_nat B 8
  have b1 : A % 4 < 4 := Nat.mod_lt _ (by omega)
  have b2 : B % 8 < 8 := Nat.mod_lt _ (by omega)
  unfold frD spD exD
  generalize A % 4 = x at *
  generalize B % 8 = y at *
  simp only [Int.cast_ofNat_Int] at h1 h2
  have w1 : IntKind.i64.wrap (x : Int) = x := wrap64 (by omega) (by omega)
  have w2 : IntKind.i64.wrap (y : Int) = y := wrap64 (by omega) (by omega)
  have w3 : IntKind.i64.wrap (A : Int) = A := wrap64 (by omega) (by omega)
  have w4 : IntKind.i64.wrap (1 + (x : Int)) = 1 + x := wrap64 (by omega) (by omega)
  have w5 : IntKind.i64.wrap (1 + (A : Int)) = 1 + A := wrap64 (by omega) (by omega)
  have w6 : IntKind.i64.wrap (1 + (B : Int)) = 1 + B := wrap64 (by omega) (by omega)
  have w7 : IntKind.i64.wrap (B : Int) = B := wrap64 (by omega) (by omega)
  refine run_code (s := s28 0) rfl rfl rfl (by kernel_rfl) ?_
  simp [s28, eqCells, T3, T4, T5, T9, T22, T23, T25, T27, T32, T34, T38, T40, T46, T49, T51, T54, T57, T66, T72, T74, T76, T77, T79, T81, T87, T89, T90, T92, T101, T107, T109, T119, T125, T128, T130, T133, T140, T148, T150, T151, CT, CQ, QQ, h1, h2, w1, w2, w3, w4, w5, w6, w7]
theorem nextI_mem {srv : Int} {l : List Iv} {x : Iv} (h : nextI srv l = some x) : x ∈ l := by
  cases l with
  | nil => cases h
  | cons y l =>
    injection h with h
    rw [← h]
    exact bst_mem srv y l
theorem nextI_split {srv : Int} {es : List Ent} {x : Iv} (h : nextI srv (wts es) = some x) : ∃ pre e post, es = pre ++ e :: post ∧ e.tk = 0 ∧ e.iv = x := by
  obtain ⟨e, he, hx⟩ := List.mem_map.1 (nextI_mem h)
  obtain ⟨h1, h2⟩ := List.mem_filter.1 he
  obtain ⟨pre, post, hs⟩ := List.append_of_mem h1
  exact ⟨pre, e, post, hs, by simpa using h2, hx⟩
theorem nextI_none {srv : Int} {l : List Iv} (h : nextI srv l = none) : l = [] := by
  cases l with
  | nil => rfl
  | cons y l => cases h
/-- The bounds on the numbers. -/
structure Qs.bd (q : Qs) (j : Nat) : Prop where
  arr : q.arr ≤ j
  iss : q.iss ≤ j
  n0 : 0 ≤ q.now
  now : q.now ≤ 11 * j
  j : j ≤ 1000
theorem Qs.bd.next {q : Qs} {j : Nat} (h : q.bd j) (hj : j < 1000) : q.bd (j + 1) := ⟨by have := h.arr; omega, by have := h.iss; omega, h.n0, by have := h.now; omega, by omega⟩
theorem known_run : run CC 12 [] [] = some (.d (.bool true), []) := run_of_go 3000 (by kernel_rfl)
/-- An operation. -/
structure Opr where
  k : Nat
  A : Nat
  B : Nat
  hk : k < 256
  hA : A < 256
  hB : B < 256
def Opr.d (o : Opr) : D := .agg [.int .u8 o.k, .int .u8 o.A, .int .u8 o.B]
theorem opr_get (l : List Opr) {i : Nat} (h : i < l.length) : (l.map Opr.d)[i]? = some (.agg [.int .u8 l[i].k, .int .u8 l[i].A, .int .u8 l[i].B]) := by simp [h, Opr.d]
/-- The empty queue. -/
def q00 (a b c : Int) : Qs := ⟨a, b, c, [], [], 0, [], [], 0, 0, 0, 0, 0⟩
theorem q00_wl (a b c : Nat) : (q00 (zA a) (zB a b) (zC c)).wl := by
  have b1 : a % 6 < 6 := Nat.mod_lt _ (by omega)
  have b3 : c % 8 < 8 := Nat.mod_lt _ (by omega)
  have b4 : (b % 4) % (1 + a % 6) < 1 + a % 6 := Nat.mod_lt _ (by omega)
  exact {
    eb := ⟨rfl, List.nodup_nil, fun b h => by cases h⟩
    tb := ⟨rfl, List.nodup_nil, fun b h => by cases h⟩
    es := ⟨List.Pairwise.nil, List.Pairwise.nil, Nat.zero_le _, fun e h => by cases h⟩
    asc := List.Pairwise.nil
    fr := fun e h => by cases h
    rng := fun e h => by cases h
    tk := fun e h => by cases h
    kt := fun e h => by cases h
    tn := fun e h => by cases h
    ar := fun e h => by cases h
    i0 := by show (0:Int) ≤ 0 ∧ (0:Int) < 900000; omega
    a0 := by show (0:Int) ≤ 0 ∧ (0:Int) < 900000; omega
    n0 := by show (-1000:Int) ≤ 0 ∧ (0:Int) < 1000000000; omega
    l0 := by simp only [q00, zA, zB, zC]; omega
    tot := by simp only [q00, zA]; simp; omega
    per := fun _ => by show ((0 : Nat) : Int) ≤ zB a b; unfold zB; omega
    sm := fun e h => by cases h
    ss := fun e h => by cases h
    tu := fun e h => by cases h }
theorem q00_bd (a b c : Int) : (q00 a b c).bd 0 := ⟨by show (0:Int) ≤ _; omega, by show (0:Int) ≤ _; omega, by show (0:Int) ≤ 0; omega, by show (0:Int) ≤ _; omega, by omega⟩
end Go.Proofs.YtdgpipoffcajgaaV
