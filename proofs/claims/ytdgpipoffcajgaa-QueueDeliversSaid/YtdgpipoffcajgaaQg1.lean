/- The law QueueRuns: the walk. -/
import Derived.Test.YtdgpipoffcajgaaQf5
set_option linter.unusedVariables false
set_option linter.unusedSimpArgs false
namespace Go.Proofs.YtdgpipoffcajgaaV
open Go.RowKit
attribute [local simp] TK.agg constAV evalAV EK.has EK.hasAll vecEls elsR AV.toD toDs AV.cells AV.one joinD TyI.zeroD OpR.of binIntF binStrF AV.isPtr ptrNil slNil mpNil nilE eqF negF posF binF pelF pvLoad pelSet pvStore boxLoad epLoad loadF boxStore storeF fieldAddrF fieldF epOf indexAddrF byteF indexF mapLen lenF cutF sliceF sliceN sliceX isSl slice3F fillF fillV arrFs buildF partsX landV buildSliceF roomB appVec appendF appMkF capF mmFrom mmF max2' min2' clearVec clearF convF unF pickF nilChkF extF ptrsOf callF makeSliceF sameKs sameD kindIs plainFs keyOk mapOb mapEs okV lookF lookupF putE putS mapPut mapUpdateF mapDel deleteF mapAll rangeM rangeF overV hitV nextO nextF entryM entryO entryF itOids builtinF capsOf allocF boxF bytesL bytesF byteTy strTy convertF makeFuncF mapNew makeMapF makeMapH opF reach reachOf AObj.live closedB nodupB packO packL packX backN backG backO obL backE frzX frzO AV.vids frzL landC sameObs landR touchF bitsW D.cells D.decEq D.decEqs AV.decEq AV.decEqs AObj.decEq AV.oids0 AV.oids AObj.oids renG renP AV.ren0 AV.ren envGet envPut envKeep obGet setEff putV St.put stepS keyChk chkD accD Ex.block AV.under AObj.under laysOf roomFor mkvO frzG szOk killO usedBy tidyS canL canS ghost ghostE normSt resOf allSome one0 resultsF finL finishL finish endF startEnv chkC backX comeC AV.flat0 rngC loopO layL endLp busyL idleL noRng rndSt rndEnd wpn_nil wpn_seq wpn_loop wpn_seq_exit wpn_loop_exit wpn_seq_ret wpn_loop_ret wpn_block wpn_post wpk_skip wpk_exit wpk_ret wpk_reg wpk_seq wpk_condT wpk_block wpk_loop wpk_pre wpk_post wop_nil wop_cons wop_guard St.know envSet cond_d cond_bool cond_int cond_str endE endQ freeB disj pushT bitsW int_beq int_bne eqS_def tbE fuelL_eq ann0_lays ann0_dd ann0_ro elsOf_dsl elsOf_dnils toNat_succ nn_succ pos_succ one_succ rng1 rng2 rng3 rng4 rng5 rng6 rng7 rng8 List.idxOf_cons wpk_rng rndK rndE
theorem known_run : run CC 12 [] [] = some (.d (.bool true), []) := run_of_go 3000 (by kernel_rfl)
/-- An operation. -/
structure Opr where
  k : Nat
  A : Nat
  B : Nat
  hk : k < 256
  hA : A < 256
  hB : B < 256
def Opr.d (o : Opr) : D := .agg [.int .u8 o.k, .int .u8 o.A, .int .u8 o.B]
theorem opr_get (l : List Opr) {i : Nat} (h : i < l.length) : (l.map Opr.d)[i]? = some (.agg [.int .u8 l[i].k, .int .u8 l[i].A, .int .u8 l[i].B]) := by simp [h, Opr.d]
/-- The empty queue. -/
def q00 (a b c : Int) : Qs := ⟨a, b, c, [], [], 0, [], [], 0, 0, 0, 0, 0⟩
theorem q00_wl (a b c : Nat) : (q00 (zA a) (zB a b) (zC c)).wl := by
  have b1 : a % 6 < 6 := Nat.mod_lt _ (by omega)
  have b3 : c % 8 < 8 := Nat.mod_lt _ (by omega)
  have b4 : (b % 4) % (1 + a % 6) < 1 + a % 6 := Nat.mod_lt _ (by omega)
  exact {
    eb := ⟨rfl, List.nodup_nil, fun b h => by cases h⟩
    tb := ⟨rfl, List.nodup_nil, fun b h => by cases h⟩
    es := ⟨List.Pairwise.nil, List.Pairwise.nil, Nat.zero_le _, fun e h => by cases h⟩
    asc := List.Pairwise.nil
    fr := fun e h => by cases h
    rng := fun e h => by cases h
    tk := fun e h => by cases h
    kt := fun e h => by cases h
    tn := fun e h => by cases h
    ar := fun e h => by cases h
    i0 := by show (0:Int) ≤ 0 ∧ (0:Int) < 900000; omega
    a0 := by show (0:Int) ≤ 0 ∧ (0:Int) < 900000; omega
    n0 := by show (-1000:Int) ≤ 0 ∧ (0:Int) < 1000000000; omega
    l0 := by simp only [q00, zA, zB, zC]; omega
    tot := by simp only [q00, zA]; simp; omega
    per := fun _ => by show ((0 : Nat) : Int) ≤ zB a b; unfold zB; omega
    sm := fun e h => by cases h
    ss := fun e h => by cases h
    tu := fun e h => by cases h }
theorem q00_bd (a b c : Int) : (q00 a b c).bd 0 := ⟨by show (0:Int) ≤ _; omega, by show (0:Int) ≤ _; omega, by show (0:Int) ≤ 0; omega, by show (0:Int) ≤ _; omega, by omega⟩
set_option maxRecDepth 100000 in
set_option maxHeartbeats 16000000 in
theorem law6_run (a b c : Nat) (ops : List Opr) : run CC 6 [.d (.agg [.int .u8 a, .int .u8 b, .int .u8 c]), .d (.sl (ops.map Opr.d))] [] = some (.d (.bool true), []) := by
  have hb := begin13_run a b c
  have hk := known_run
  have hwl := q00_wl a b c
  have hbd := q00_bd (zA a) (zB a b) (zC c)
  have hol : (ops.map Opr.d).length = ops.length := by simp
  have hog := fun i hi => opr_get ops (i := i) hi
  unfold begO at hb
  refine run_code (s := s6 0) rfl rfl rfl (by kernel_rfl) ?_
  by_cases hbig : 25 < ops.length
  · generalize ops.map Opr.d = O at *
    have hbi : (25 : Int) < ops.length := by omega
    simp [s6, eqCells, T3, T4, T5, T9, T22, T23, T25, T27, T28, T32, T34, T38, T40, T46, T49, T51, T54, T57, T65, T66, T72, T74, T76, T77, T79, T81, T87, T89, T90, T92, T101, T107, T109, T119, T125, T128, T130, T133, T140, T148, T150, T151, CT, CQ, QQ, hk, hol, hbi]
  have hbi : ¬ (25 : Int) < ops.length := by omega
  have hq0 : ∀ x y z, (q00 x y z).mod.es.length = 0 ∧ (q00 x y z).mod.es.map Me.d = [] := fun x y z => ⟨rfl, rfl⟩
  generalize zA a = A at *
  generalize zB a b = B at *
  generalize zC c = C at *
  generalize hO : ops.map Opr.d = O at *
  simp [s6, eqCells, T3, T4, T5, T9, T22, T23, T25, T27, T28, T32, T34, T38, T40, T46, T49, T51, T54, T57, T65, T66, T72, T74, T76, T77, T79, T81, T87, T89, T90, T92, T101, T107, T109, T119, T125, T128, T130, T133, T140, T148, T150, T151, CT, CQ, QQ, hk, hol, hbi, hb]
  refine wlp_inv2 (S := fun p : Nat × Qs => ⟨[(5, .ptr 0 0), (6, .ptr 3 0), (24, .d (.sl O)), (25, .d (.int .i64 ops.length)), (26, .d (.int .i64 p.1))], p.2.obk 0 ++ [.box [.d (.int .i64 p.2.mod.la), .d (.int .i64 p.2.mod.lb), .d (.int .i64 p.2.mod.lc), .vs 4 0 8 0 p.2.mod.es.length, .d (.int .i64 p.2.mod.nx), .d (.int .i64 p.2.mod.sv), .d (.int .i64 p.2.mod.nw)], .vec 0 true false 101 8 (p.2.mod.es.map Me.d), .dead]⟩) (m := fun p => ops.length - p.1) (Inv := fun p => p.1 ≤ ops.length ∧ p.2.wl ∧ p.2.bd p.1) ?_ (0, q00 A B C) ⟨Nat.zero_le _, hwl, hbd⟩ (by simp only [q00, Qs.mod, Qs.obk]; rfl)
  rintro ⟨i, q⟩ ⟨hi, hq, hqb⟩ ih
  rw [e6_1]
  simp only at hi hq hqb ⊢
  by_cases hlt : i < ops.length
  · obtain ⟨O2, q2, hdo, hr⟩ := do24_run q hq i hqb (by omega) ops[i].k ops[i].A ops[i].B ops[i].hA ops[i].hB
    have hag := agrees25_run q2 hr.wl (by have := hr.bd.iss; omega)
    have ih2 := ih (i + 1, q2) ⟨by simp only; omega, hr.wl, hr.bd⟩ (by simp only; omega)
    have hx := hog i hlt
    have hOi : i < O.length := by omega
    have hEe := (List.getElem?_eq_some_iff.1 hx).2
    have w1 : IntKind.i64.wrap ((i : Int) + 1) = (i : Int) + 1 := wrap64 (by omega) (by omega)
    have p1 : (i : Int) < ops.length := by omega
    have hst := hr.st
    clear ih hog hr hb hk
    generalize ops[i].k = x1 at *
    generalize ops[i].A = x2 at *
    generalize ops[i].B = x3 at *
    simp only [Qs.st, Qs.stm, Qs.sta, Qs.obk, Ms.obs, Ms.obm, List.cons_append, List.nil_append] at hdo hst hag ih2 ⊢
    generalize q2.mod = m2 at *
    generalize q.mod = m at *
    generalize q.es.map Ent.p = M1 at *
    generalize q.ts.map Tck.p = M2 at *
    generalize q2.es.map Ent.p = M3 at *
    generalize q2.ts.map Tck.p = M4 at *
    generalize m.es.map Me.d = E at *
    generalize m2.es.map Me.d = E2 at *
    try simp at ih2
    rcases hst with rfl | rfl | ⟨E3, rfl⟩
    · simp [c6_1, eqCells, T3, T4, T5, T9, T22, T23, T25, T27, T28, T32, T34, T38, T40, T46, T49, T51, T54, T57, T65, T66, T72, T74, T76, T77, T79, T81, T87, T89, T90, T92, T101, T107, T109, T119, T125, T128, T130, T133, T140, T148, T150, T151, CT, CQ, QQ, hx, hOi, hEe, hdo, hag, p1, w1, hlt]
      exact ih2
    · simp [c6_1, eqCells, T3, T4, T5, T9, T22, T23, T25, T27, T28, T32, T34, T38, T40, T46, T49, T51, T54, T57, T65, T66, T72, T74, T76, T77, T79, T81, T87, T89, T90, T92, T101, T107, T109, T119, T125, T128, T130, T133, T140, T148, T150, T151, CT, CQ, QQ, hx, hOi, hEe, hdo, hag, p1, w1, hlt]
      exact ih2
    · simp [c6_1, eqCells, T3, T4, T5, T9, T22, T23, T25, T27, T28, T32, T34, T38, T40, T46, T49, T51, T54, T57, T65, T66, T72, T74, T76, T77, T79, T81, T87, T89, T90, T92, T101, T107, T109, T119, T125, T128, T130, T133, T140, T148, T150, T151, CT, CQ, QQ, hx, hOi, hEe, hdo, hag, p1, w1, hlt]
      exact ih2
  · have hag := agrees25_run q hq (by have := hqb.iss; omega)
    have e : i = ops.length := by omega
    subst e
    clear ih hog hb hk
    simp only [Qs.st, Qs.stm, Qs.sta, Qs.obk, Ms.obs, Ms.obm, List.cons_append, List.nil_append] at hag ⊢
    generalize q.mod = m at *
    generalize q.es.map Ent.p = M1 at *
    generalize q.ts.map Tck.p = M2 at *
    generalize m.es.map Me.d = E at *
    simp [c6_1, eqCells, T3, T4, T5, T9, T22, T23, T25, T27, T28, T32, T34, T38, T40, T46, T49, T51, T54, T57, T65, T66, T72, T74, T76, T77, T79, T81, T87, T89, T90, T92, T101, T107, T109, T119, T125, T128, T130, T133, T140, T148, T150, T151, CT, CQ, QQ, hag]
set_option maxRecDepth 100000 in
set_option maxHeartbeats 16000000 in
theorem law6_nil (a b c : Nat) : run CC 6 [.d (.agg [.int .u8 a, .int .u8 b, .int .u8 c]), .d .nils] [] = some (.d (.bool true), []) := by
  have hb := begin13_run a b c
  have hk := known_run
  have hwl := q00_wl a b c
  have hag := agrees25_run _ hwl (by show (0 : Int) < 100000; omega)
  unfold begO at hb
  refine run_code (s := s6 0) rfl rfl rfl (by kernel_rfl) ?_
  generalize zA a = A at *
  generalize zB a b = B at *
  generalize zC c = C at *
  simp only [q00, Qs.mod, Qs.st, Qs.stm, Qs.sta, Qs.obk, Ms.obs, Ms.obm, List.cons_append, List.nil_append, List.map_nil, List.length_nil] at hag
  simp at hag
  simp [s6, eqCells, T3, T4, T5, T9, T22, T23, T25, T27, T28, T32, T34, T38, T40, T46, T49, T51, T54, T57, T65, T66, T72, T74, T76, T77, T79, T81, T87, T89, T90, T92, T101, T107, T109, T119, T125, T128, T130, T133, T140, T148, T150, T151, CT, CQ, QQ, hk, hb]
  rw [wlp_eq, e6_1]
  simp [c6_1, eqCells, T3, T4, T5, T9, T22, T23, T25, T27, T28, T32, T34, T38, T40, T46, T49, T51, T54, T57, T65, T66, T72, T74, T76, T77, T79, T81, T87, T89, T90, T92, T101, T107, T109, T119, T125, T128, T130, T133, T140, T148, T150, T151, CT, CQ, QQ, hag]
end Go.Proofs.YtdgpipoffcajgaaV
