/- The monitor as an element of a list: rate and observe. -/
import Derived.Test.YtpooehcjchkbkaaWc49i
set_option linter.unusedVariables false
set_option linter.unusedSimpArgs false
namespace Go.Proofs.YtpooehcjchkbkaaV
open Go.RowKit
attribute [local simp] TK.agg constAV evalAV EK.has EK.hasAll vecEls elsR AV.toD toDs AV.cells AV.one joinD TyI.zeroD OpR.of binIntF binStrF AV.isPtr ptrNil slNil mpNil nilE eqF negF posF binF pelF pvLoad pelSet pvStore boxLoad epLoad loadF boxStore storeF fieldAddrF fieldF epOf indexAddrF byteF indexF mapLen lenF cutF sliceF sliceN sliceX isSl slice3F fillF fillV arrFs buildF partsX landV buildSliceF roomB appVec appendF appMkF capF mmFrom mmF max2' min2' clearVec clearF convF unF pickF nilChkF extF ptrsOf callF makeSliceF sameKs sameD kindIs plainFs keyOk mapOb mapEs okV lookF lookupF putE putS mapPut mapUpdateF mapDel deleteF mapAll rangeM rangeF overV hitV nextO nextF entryM entryO entryF itOids builtinF capsOf allocF boxF bytesL bytesF byteTy strTy convertF makeFuncF mapNew makeMapF makeMapH opF reach reachOf AObj.live closedB nodupB packO packL packX backN backG backO obL backE frzX frzO AV.vids frzL landC sameObs landR touchF bitsW D.cells D.decEq D.decEqs AV.decEq AV.decEqs AObj.decEq AV.oids0 AV.oids AObj.oids renG renP AV.ren0 AV.ren envGet envPut envKeep obGet setEff putV St.put stepS keyChk chkD accD Ex.block AV.under AObj.under laysOf roomFor mkvO frzG szOk killO usedBy tidyS canL canS ghost ghostE normSt resOf allSome one0 resultsF finL finishL finish endF startEnv chkC backX comeC AV.flat0 rngC loopO layL endLp busyL idleL noRng rndSt rndEnd wpn_nil wpn_seq wpn_loop wpn_seq_exit wpn_loop_exit wpn_seq_ret wpn_loop_ret wpn_block wpn_post wpk_skip wpk_exit wpk_ret wpk_reg wpk_seq wpk_condT wpk_block wpk_loop wpk_pre wpk_post wop_nil wop_cons wop_guard St.know envSet cond_d cond_bool cond_int cond_str endE endQ freeB disj pushT bitsW int_beq int_bne eqS_def tbE fuelL_eq ann0_lays ann0_dd ann0_ro elsOf_dsl elsOf_dnils toNat_succ nn_succ pos_succ one_succ rng1 rng2 rng3 rng4 rng5 rng6 rng7 rng8 List.idxOf_cons wpk_rng rndK rndE
def samD (p : Int × Int) : List D := [.str ⟨#[]⟩, .str ⟨#[]⟩, .int .i64 p.1, .int .i64 p.2]
def ringD (f : Nat → Int × Int) (n : Nat) : List D := (List.range n).flatMap fun i => samD (f i)
def Rul.ds (r : Rul) : List D := [.str r.name, .str r.svc, .str r.op, .int .i64 r.target, .int .i64 r.long, .int .i64 r.short, .int .i64 r.burn, .int .i64 r.forr]
def monD (M : Mon) : List D := M.rul.ds ++ (ringD (histF M.hist) 256 ++ [.int .i64 M.seen, .int .i64 M.held, .int .i64 M.state])
theorem ringD_map (f : Nat → Int × Int) (n : Nat) : (ringD f n).map AV.d = ringF f n := by
  unfold ringD ringF
  rw [List.map_flatMap]
  rfl
theorem monD_map (M : Mon) : (monD M).map AV.d = monL M := by
  unfold monD monL
  rw [List.map_append, List.map_append, ringD_map]
  rfl
theorem mapd_inj : ∀ {a b : List D}, a.map AV.d = b.map AV.d → a = b
  | [], [], _ => rfl
  | [], _ :: _, h => by cases h
  | _ :: _, [], h => by cases h
  | x :: a, y :: b, h => by
    simp only [List.map_cons, List.cons.injEq, AV.d.injEq] at h
    rw [h.1, mapd_inj h.2]
theorem md_len (M : Mon) : (monD M).length = 1035 := by
  have := monL_len M
  rw [← monD_map, List.length_map] at this
  exact this
theorem md_of {M : Mon} {j : Nat} {d : D} (h : (monL M)[j]? = some (.d d)) : (monD M)[j]? = some d := by
  rw [← monD_map, List.getElem?_map] at h
  cases hx : (monD M)[j]? with
  | none => rw [hx] at h; cases h
  | some x => rw [hx] at h; injection h with h; injection h with h; rw [h]
theorem md_g0 (M : Mon) : (monD M)[0]? = some (.str M.rul.name) := md_of (mon_g0 M)
theorem md_g1 (M : Mon) : (monD M)[1]? = some (.str M.rul.svc) := md_of (by rw [monL_get]; rfl)
theorem md_g2 (M : Mon) : (monD M)[2]? = some (.str M.rul.op) := md_of (by rw [monL_get]; rfl)
theorem md_g3 (M : Mon) : (monD M)[3]? = some (.int .i64 M.rul.target) := md_of (mon_g3 M)
theorem md_g4 (M : Mon) : (monD M)[4]? = some (.int .i64 M.rul.long) := md_of (mon_g4 M)
theorem md_g5 (M : Mon) : (monD M)[5]? = some (.int .i64 M.rul.short) := md_of (mon_g5 M)
theorem md_g6 (M : Mon) : (monD M)[6]? = some (.int .i64 M.rul.burn) := md_of (mon_g6 M)
theorem md_g7 (M : Mon) : (monD M)[7]? = some (.int .i64 M.rul.forr) := md_of (mon_g7 M)
theorem md_g1032 (M : Mon) : (monD M)[1032]? = some (.int .i64 M.seen) := md_of (mon_g1032 M)
theorem md_g1033 (M : Mon) : (monD M)[1033]? = some (.int .i64 M.held) := md_of (mon_g1033 M)
theorem md_g1034 (M : Mon) : (monD M)[1034]? = some (.int .i64 M.state) := md_of (mon_g1034 M)
theorem md_e {M : Mon} {j : Nat} {d : D} (h : (monD M)[j]? = some d) (hj : j < (monD M).length) : (monD M)[j] = d := Option.some.inj ((List.getElem?_eq_getElem hj).symm.trans h)
theorem md_s1032 (M : Mon) (x : Int) : (monD M).take 1032 ++ D.int .i64 x :: (monD M).drop 1033 = monD {M with seen := x} := mapd_inj (by
  have := mon_s1032 M x
  rw [← monD_map, ← monD_map] at this
  rw [List.map_append, List.map_cons, List.map_take, List.map_drop]
  exact this)
theorem md_s1033 (M : Mon) (x : Int) : (monD M).take 1033 ++ D.int .i64 x :: (monD M).drop 1034 = monD {M with held := x} := mapd_inj (by
  have := mon_s1033 M x
  rw [← monD_map, ← monD_map] at this
  rw [List.map_append, List.map_cons, List.map_take, List.map_drop]
  exact this)
theorem md_s1034 (M : Mon) (x : Int) : (monD M).take 1034 ++ D.int .i64 x :: (monD M).drop 1035 = monD {M with state := x} := mapd_inj (by
  have := mon_s1034 M x
  rw [← monD_map, ← monD_map] at this
  rw [List.map_append, List.map_cons, List.map_take, List.map_drop]
  exact this)
theorem md_put (M : Mon) (k n : Nat) (e t : Int) (hk : k = M.hist.length) (hn : n = 8 + k * 4) (h : k < 256) : (monD M).take n ++ (samD (e, t) ++ (monD M).drop (n + 4)) = monD {M with hist := M.hist ++ [(e, t)]} := mapd_inj (by
  have := mon_put M k n e t hk hn h
  rw [← monD_map, ← monD_map] at this
  rw [List.map_append, List.map_append, List.map_take, List.map_drop]
  exact this)
theorem md_at (M : Mon) (k n : Nat) (hn : n = 8 + k * 4) (h : k < 256) : ((monD M).drop n).take 4 = samD (histF M.hist k) := mapd_inj (by
  have := mon_at M k n hn h
  rw [← monD_map] at this
  rw [List.map_take, List.map_drop]
  exact this)
/-- The list with the monitor at its place. -/
structure atM (L : List D) (j : Nat) (M : Mon) : Prop where
  lt : j < L.length
  get : L[j]? = some (.agg (monD M))
theorem atM.e {L : List D} {j : Nat} {M : Mon} (h : atM L j M) (hj : j < L.length) : L[j] = .agg (monD M) := Option.some.inj ((List.getElem?_eq_getElem hj).symm.trans h.get)
theorem atM_set {L : List D} {j : Nat} (h : j < L.length) (M : Mon) : atM (L.set j (.agg (monD M))) j M := ⟨by simpa using h, by rw [List.getElem?_set_self h]⟩
set_option maxRecDepth 100000 in
set_option maxHeartbeats 4000000 in
theorem loop48p_1 (M : Mon) (L : List D) (i : Nat) (hL : atM L i M) (c : Nat) (hc : c ≤ M.hist.length) (hs : M.seen = M.hist.length) (hl : M.hist.length ≤ 256) (ho : okH M.hist) (ht : sT M.hist ≤ 4294967296) (ks : List Fr) (K : Ex → St → Prop)
    (hnext : wpn CC .norm ⟨[(0, .pv 0 0 i 1035 0), (5, .ptr 1 0)], [.vec 0 false false 91 1035 L, samO (sE (winH M.hist c), sT (winH M.hist c))]⟩ ks K) :
    wlp CC (s48_1 1) ⟨[(0, .pv 0 0 i 1035 0), (5, .ptr 1 0), (13, .d (.int .i64 c)), (14, .d (.int .i64 0))], [.vec 0 false false 91 1035 L, samO (0, 0)]⟩ (.block 0 :: .post (.tidy [0, 5] 1 2) :: ks) K := by
  have h0 : winH M.hist 0 = [] := by simp [winH]
  have hlt := hL.lt
  have hge := hL.get
  have hee := hL.e hlt
  have m1 := md_g1032 M
  have m2 := md_e m1 (by rw [md_len]; omega)
  have mlen := md_len M
  show wlp CC (s48_1 1) ⟨[(0, .pv 0 0 i 1035 0), (5, .ptr 1 0), (13, .d (.int .i64 c)), (14, .d (.int .i64 ((0 : Nat) : Int)))], [.vec 0 false false 91 1035 L, samO (sE [], sT [])]⟩ (.block 0 :: .post (.tidy [0, 5] 1 2) :: ks) K
  rw [← h0]
  refine wlp_inv (S := fun p : Nat => ⟨[(0, .pv 0 0 i 1035 0), (5, .ptr 1 0), (13, .d (.int .i64 c)), (14, .d (.int .i64 p))], [.vec 0 false false 91 1035 L, samO (sE (winH M.hist p), sT (winH M.hist p))]⟩) (m := fun p => c - p)
    (Inv := fun p => p ≤ c) ?_ 0 (by omega)
  intro k hk ih
  rw [e48_1]
  by_cases q : k < c
  · have ih := ih (k + 1) (by omega) (by omega)
    have hx := winH_succ M.hist k (by omega)
    rw [hx] at ih
    have h1 := okH_le _ (okH_drop ho (M.hist.length - (k + 1)))
    have h2 := sT_drop M.hist ho (M.hist.length - (k + 1))
    change 0 ≤ sE (winH M.hist (k + 1)) ∧ sE (winH M.hist (k + 1)) ≤ sT (winH M.hist (k + 1)) at h1
    change sT (winH M.hist (k + 1)) ≤ _ at h2
    rw [hx] at h1 h2
    simp only [sE, sT] at h1 h2 ih
    have h3 := okH_le _ (okH_drop ho (M.hist.length - k))
    change 0 ≤ sE (winH M.hist k) ∧ sE (winH M.hist k) ≤ sT (winH M.hist k) at h3
    generalize hz : histF M.hist (M.hist.length - 1 - k) = z at *
    have w1 : IntKind.i64.wrap (sE (winH M.hist k) + z.1) = z.1 + sE (winH M.hist k) := by rw [wrap64 (by omega) (by omega)]; omega
    have w2 : IntKind.i64.wrap (sT (winH M.hist k) + z.2) = z.2 + sT (winH M.hist k) := by rw [wrap64 (by omega) (by omega)]; omega
    have w3 : IntKind.i64.wrap ((M.hist.length : Int) - 1) = (M.hist.length : Int) - 1 := wrap64 (by omega) (by omega)
    have w4 : IntKind.i64.wrap ((M.hist.length : Int) - 1 - k) = (M.hist.length - 1 - k : Nat) := by rw [wrap64 (by omega) (by omega)]; omega
    have w5 : ((M.hist.length - 1 - k : Nat) : Int).tmod 256 = (M.hist.length - 1 - k : Nat) := by rw [Int.tmod_eq_of_lt] <;> omega
    have w6 : IntKind.i64.wrap ((M.hist.length - 1 - k : Nat) : Int) = (M.hist.length - 1 - k : Nat) := wrap64 (by omega) (by omega)
    have w7 : IntKind.i64.wrap ((k : Int) + 1) = (k : Int) + 1 := wrap64 (by omega) (by omega)
    have ml := md_at M (M.hist.length - 1 - k) _ rfl (by omega)
    rw [hz] at ml
    generalize hj : M.hist.length - 1 - k = j at *
    have hj2 : (j : Int) < 256 := by omega
    have hj3 : j * 4 ≤ 1023 := by omega
    have hj4 : 8 + j * 4 + 4 ≤ 1035 := by omega
    simp only [samD] at ml
    rw [hs] at m1 m2
    simp [c48_1, eqCells, T3, T4, T5, T9, T23, T25, T27, T32, T33, T35, T39, T50, T52, T57, T59, T64, T65, T66, T70, T71, T77, T81, T83, T88, T89, T91, T95, T97, T99, T100, T112, CT, hlt, hge, hee, m1, m2, mlen, samO, sam, hs, q, w1, w2, w3, w4, w5, w6, w7, ml, hj2, hj3, hj4]
    simp [samO, sam] at ih
    exact ih
  · have : k = c := by omega
    subst this
    simp [c48_1, eqCells, T3, T4, T5, T9, T23, T25, T27, T32, T33, T35, T39, T50, T52, T57, T59, T64, T65, T66, T70, T71, T77, T81, T83, T88, T89, T91, T95, T97, T99, T100, T112, CT, samO, sam]
    exact hnext
set_option maxRecDepth 100000 in
set_option maxHeartbeats 4000000 in
theorem rate48p_run (M : Mon) (L : List D) (i : Nat) (hL : atM L i M) (w : Nat) (hw : w ≤ 256) (hs : M.seen = M.hist.length) (hl : M.hist.length ≤ 256) (hg : 0 ≤ M.rul.target ∧ M.rul.target < 1000000) (ho : okH M.hist) (ht : sT M.hist ≤ 4294967296) :
    run CC 48 [.pv 0 0 i 1035 0, .d (.int .i64 w)] [.vec 0 false false 91 1035 L] = some (.d (.int .i64 (rateI M.rul.target M.hist w)), [.vec 0 false false 91 1035 L]) := by
  refine run_code (s := s48 1) rfl rfl rfl (by kernel_rfl) ?_
  have hlt := hL.lt
  have hge := hL.get
  have hee := hL.e hlt
  have m1 := md_g1032 M
  have m2 := md_e m1 (by rw [md_len]; omega)
  have m3 := md_g3 M
  have m4 := md_e m3 (by rw [md_len]; omega)
  have mlen := md_len M
  have hm : (if M.hist.length < w then (M.hist.length : Int) else w) = ((min w M.hist.length : Nat) : Int) := by
    by_cases q : M.hist.length < w
    · rw [if_pos q]; omega
    · rw [if_neg q]; omega
  have hwin : winH M.hist (min w M.hist.length) = winH M.hist w := by
    unfold winH; congr 1; omega
  have hlp := fun ks K => loop48p_1 M L i hL (min w M.hist.length) (by omega) hs hl ho ht ks K
  have hb := burn40_run _ _ _ (win_okB hg ho ht w)
  rw [hs] at m1 m2
  clear hL
  simp [s48, eqCells, T3, T4, T5, T9, T23, T25, T27, T32, T33, T35, T39, T50, T52, T57, T59, T64, T65, T66, T70, T71, T77, T81, T83, T88, T89, T91, T95, T97, T99, T100, T112, CT, hlt, hge, hee, m1, m2, mlen]
  rw [hm]
  refine hlp _ _ ?_
  rw [hwin]
  simp [eqCells, T3, T4, T5, T9, T23, T25, T27, T32, T33, T35, T39, T50, T52, T57, T59, T64, T65, T66, T70, T71, T77, T81, T83, T88, T89, T91, T95, T97, T99, T100, T112, CT, hlt, hge, hee, m3, m4, mlen, samO, sam, hb, rateI]
end Go.Proofs.YtpooehcjchkbkaaV
