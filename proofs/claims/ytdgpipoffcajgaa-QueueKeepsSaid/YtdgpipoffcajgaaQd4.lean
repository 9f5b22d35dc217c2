/- Offer; next. -/
import Derived.Test.YtdgpipoffcajgaaQd3
set_option linter.unusedVariables false
set_option linter.unusedSimpArgs false
namespace Go.Proofs.YtdgpipoffcajgaaV
open Go.RowKit
attribute [local simp] TK.agg constAV evalAV EK.has EK.hasAll vecEls elsR AV.toD toDs AV.cells AV.one joinD TyI.zeroD OpR.of binIntF binStrF AV.isPtr ptrNil slNil mpNil nilE eqF negF posF binF pelF pvLoad pelSet pvStore boxLoad epLoad loadF boxStore storeF fieldAddrF fieldF epOf indexAddrF byteF indexF mapLen lenF cutF sliceF sliceN sliceX isSl slice3F fillF fillV arrFs buildF partsX landV buildSliceF roomB appVec appendF appMkF capF mmFrom mmF max2' min2' clearVec clearF convF unF pickF nilChkF extF ptrsOf callF makeSliceF sameKs sameD kindIs plainFs keyOk mapOb mapEs okV lookF lookupF putE putS mapPut mapUpdateF mapDel deleteF mapAll rangeM rangeF overV hitV nextO nextF entryM entryO entryF itOids builtinF capsOf allocF boxF bytesL bytesF byteTy strTy convertF makeFuncF mapNew makeMapF makeMapH opF reach reachOf AObj.live closedB nodupB packO packL packX backN backG backO obL backE frzX frzO AV.vids frzL landC sameObs landR touchF bitsW D.cells D.decEq D.decEqs AV.decEq AV.decEqs AObj.decEq AV.oids0 AV.oids AObj.oids renG renP AV.ren0 AV.ren envGet envPut envKeep obGet setEff putV St.put stepS keyChk chkD accD Ex.block AV.under AObj.under laysOf roomFor mkvO frzG szOk killO usedBy tidyS canL canS ghost ghostE normSt resOf allSome one0 resultsF finL finishL finish endF startEnv chkC backX comeC AV.flat0 rngC loopO layL endLp busyL idleL noRng rndSt rndEnd wpn_nil wpn_seq wpn_loop wpn_seq_exit wpn_loop_exit wpn_seq_ret wpn_loop_ret wpn_block wpn_post wpk_skip wpk_exit wpk_ret wpk_reg wpk_seq wpk_condT wpk_block wpk_loop wpk_pre wpk_post wop_nil wop_cons wop_guard St.know envSet cond_d cond_bool cond_int cond_str endE endQ freeB disj pushT bitsW int_beq int_bne eqS_def tbE fuelL_eq ann0_lays ann0_dd ann0_ro elsOf_dsl elsOf_dnils toNat_succ nn_succ pos_succ one_succ rng1 rng2 rng3 rng4 rng5 rng6 rng7 rng8 List.idxOf_cons wpk_rng rndK rndE
/-- The queue behind an Offer that is accepted. -/
def Qs.add (q : Qs) (a s : Int) (S X : D) : Qs := { q with es := q.es ++ [⟨a, s, S, X, q.arr, 0⟩], bs := q.bs ++ [q.ck], ck := q.ck + 1, arr := q.arr + 1 }
def offR (q : Qs) (a s : Int) : Int := if q.es.any (fun e => decide (e.iv = (a, s))) then 9 else if crd q a = 0 then 28 else 0
def offQ (q : Qs) (a s : Int) (S X : D) : Qs := if offR q a s = 0 then q.add a s S X else q
theorem any_split {es : List Ent} {x : Iv} (h : es.any (fun e => decide (e.iv = x)) = true) : ∃ pre e post, es = pre ++ e :: post ∧ e.iv = x := by
  obtain ⟨e, he, hx⟩ := List.any_eq_true.1 h
  obtain ⟨pre, post, hs⟩ := List.append_of_mem he
  exact ⟨pre, e, post, hs, by simpa using hx⟩
structure inR (a s : Int) : Prop where
  a1 : 1 ≤ a
  a2 : a ≤ 1048576
  s1 : 0 ≤ s
  s2 : s ≤ 1048576
def limOk (q : Qs) : Prop := -1000 < q.la ∧ q.la < 100000 ∧ -1000 < q.lb ∧ q.lb < 100000
def frs (es : List Ent) : Prop := ∀ e ∈ es, ∃ l1 l2, e.S = .sl l1 ∧ e.X = .sl l2
def lstF (S X : D) : Prop := (S = .nils ∧ X = .nils) ∨ ∃ l1 l2, S = .sl l1 ∧ X = .sl l2
set_option maxRecDepth 100000 in
set_option maxHeartbeats 4000000 in
theorem offer15_dup (q : Qs) (hi : idsNe q.es) (hfr : frs q.es) (a s : Int) (S X : D) (hr : inR a s) (hSX : lstF S X) (hx : q.es.any (fun e => decide (e.iv = (a, s))) = true) :
    run CC 15 [.ptr 0 0, .d (.agg [.int .i64 a, .int .i64 s, S, X])] q.obs = some (.d (.int .i64 9), q.obs) := by
  obtain ⟨pre, e, post, hs, hv⟩ := any_split hx
  have hf := find_in hi hs
  obtain ⟨m1, m2, e1, e2⟩ := hfr e (by rw [hs]; simp)
  injection hv with v1 v2
  have hpm : perm a := ⟨hr.a1, hr.a2⟩
  have hp := permitted_run a
  simp only [hpm, decide_true] at hp
  have c1 : ¬ s < 0 := by have := hr.s1; omega
  have c2 : ¬ (1048576 : Int) < s := by have := hr.s2; omega
  rw [v1, v2, e1, e2] at hf
  simp only [Qs.obs]
  generalize q.es.map Ent.p = M1 at *
  generalize q.ts.map Tck.p = M2 at *
  refine run_code (s := s15 3) rfl rfl rfl (by kernel_rfl) ?_
  rcases hSX with ⟨rfl, rfl⟩ | ⟨l1, l2, rfl, rfl⟩
  · simp [s15, eqCells, T3, T4, T5, T9, T22, T23, T25, T27, T32, T34, T38, T40, T46, T49, T51, T54, T57, T66, T72, T74, T76, T77, T79, T81, T87, T89, T90, T92, T101, T107, T109, T119, T125, T128, T130, T133, T140, T148, T150, T151, CT, CQ, QQ, hp, c1, c2, hf]
  · simp [s15, eqCells, T3, T4, T5, T9, T22, T23, T25, T27, T32, T34, T38, T40, T46, T49, T51, T54, T57, T66, T72, T74, T76, T77, T79, T81, T87, T89, T90, T92, T101, T107, T109, T119, T125, T128, T130, T133, T140, T148, T150, T151, CT, CQ, QQ, hp, c1, c2, hf]
set_option maxRecDepth 100000 in
set_option maxHeartbeats 4000000 in
theorem offer15_full (q : Qs) (hq : q.ok) (hl : limOk q) (a s : Int) (S X : D) (hr : inR a s) (hSX : lstF S X) (hx : q.es.any (fun e => decide (e.iv = (a, s))) = false) (hc : crd q a = 0) :
    run CC 15 [.ptr 0 0, .d (.agg [.int .i64 a, .int .i64 s, S, X])] q.obs = some (.d (.int .i64 28), q.obs) := by
  have hf := find_out (es := q.es) (a := a) (s := s) fun e he hv => by
    have := List.any_eq_false.1 hx e he
    simp [hv] at this
  have hpm : perm a := ⟨hr.a1, hr.a2⟩
  have hp := permitted_run a
  have hcr := credit14_run q hq a hl
  rw [hc] at hcr
  simp only [hpm, decide_true] at hp
  have c1 : ¬ s < 0 := by have := hr.s1; omega
  have c2 : ¬ (1048576 : Int) < s := by have := hr.s2; omega
  simp only [Qs.obs] at hcr ⊢
  generalize q.es.map Ent.p = M1 at *
  generalize q.ts.map Tck.p = M2 at *
  refine run_code (s := s15 3) rfl rfl rfl (by kernel_rfl) ?_
  rcases hSX with ⟨rfl, rfl⟩ | ⟨l1, l2, rfl, rfl⟩
  · simp [s15, eqCells, T3, T4, T5, T9, T22, T23, T25, T27, T32, T34, T38, T40, T46, T49, T51, T54, T57, T66, T72, T74, T76, T77, T79, T81, T87, T89, T90, T92, T101, T107, T109, T119, T125, T128, T130, T133, T140, T148, T150, T151, CT, CQ, QQ, hp, c1, c2, hf, hcr]
  · simp [s15, eqCells, T3, T4, T5, T9, T22, T23, T25, T27, T32, T34, T38, T40, T46, T49, T51, T54, T57, T66, T72, T74, T76, T77, T79, T81, T87, T89, T90, T92, T101, T107, T109, T119, T125, T128, T130, T133, T140, T148, T150, T151, CT, CQ, QQ, hp, c1, c2, hf, hcr]
set_option maxRecDepth 100000 in
set_option maxHeartbeats 4000000 in
theorem offer15_ok (q : Qs) (hq : q.ok) (hl : limOk q) (a s : Int) (S X : D) (hr : inR a s) (hSX : lstF S X) (hx : q.es.any (fun e => decide (e.iv = (a, s))) = false) (hc : crd q a ≠ 0)
    (hcp : run CC 34 [.d (.agg [.int .i64 a, .int .i64 s, S, X])] [] = some (.d (.agg [.int .i64 a, .int .i64 s, S, X]), [])) (har : 0 ≤ q.arr ∧ q.arr < 1000000) :
    run CC 15 [.ptr 0 0, .d (.agg [.int .i64 a, .int .i64 s, S, X])] q.obs = some (.d (.int .i64 0), (q.add a s S X).obs) := by
  have hf := find_out (es := q.es) (a := a) (s := s) fun e he hv => by
    have := List.any_eq_false.1 hx e he
    simp [hv] at this
  have hpm : perm a := ⟨hr.a1, hr.a2⟩
  have hp := permitted_run a
  have hcr := credit14_run q hq a hl
  simp only [hpm, decide_true] at hp
  have c1 : ¬ s < 0 := by have := hr.s1; omega
  have c2 : ¬ (1048576 : Int) < s := by have := hr.s2; omega
  have w1 : IntKind.i64.wrap (q.arr + 1) = q.arr + 1 := wrap64 (by omega) (by omega)
  simp only [Qs.obs, Qs.add, List.map_append, List.map_cons, List.map_nil] at hcr ⊢
  generalize q.es.map Ent.p = M1 at *
  generalize q.ts.map Tck.p = M2 at *
  generalize crd q a = cr at *
  refine run_code (s := s15 3) rfl rfl rfl (by kernel_rfl) ?_
  rcases hSX with ⟨rfl, rfl⟩ | ⟨l1, l2, rfl, rfl⟩
  · simp [s15, eqCells, T3, T4, T5, T9, T22, T23, T25, T27, T32, T34, T38, T40, T46, T49, T51, T54, T57, T66, T72, T74, T76, T77, T79, T81, T87, T89, T90, T92, T101, T107, T109, T119, T125, T128, T130, T133, T140, T148, T150, T151, CT, CQ, QQ, hp, c1, c2, hf, hcr, hc, hcp, w1, Ent.p, putE, putS]
  · simp [s15, eqCells, T3, T4, T5, T9, T22, T23, T25, T27, T32, T34, T38, T40, T46, T49, T51, T54, T57, T66, T72, T74, T76, T77, T79, T81, T87, T89, T90, T92, T101, T107, T109, T119, T125, T128, T130, T133, T140, T148, T150, T151, CT, CQ, QQ, hp, c1, c2, hf, hcr, hc, hcp, w1, Ent.p, putE, putS]
theorem offer15_run (q : Qs) (hq : q.ok) (hl : limOk q) (hi : idsNe q.es) (hfr : frs q.es) (a s : Int) (S X : D) (hr : inR a s) (hSX : lstF S X)
    (hcp : run CC 34 [.d (.agg [.int .i64 a, .int .i64 s, S, X])] [] = some (.d (.agg [.int .i64 a, .int .i64 s, S, X]), [])) (har : 0 ≤ q.arr ∧ q.arr < 1000000) :
    run CC 15 [.ptr 0 0, .d (.agg [.int .i64 a, .int .i64 s, S, X])] q.obs = some (.d (.int .i64 (offR q a s)), (offQ q a s S X).obs) := by
  unfold offQ offR
  cases hx : q.es.any (fun e => decide (e.iv = (a, s))) with
  | true => simpa using offer15_dup q hi hfr a s S X hr hSX hx
  | false =>
    by_cases hc : crd q a = 0
    · simpa [hc] using offer15_full q hq hl a s S X hr hSX hx hc
    · simpa [hc] using offer15_ok q hq hl a s S X hr hSX hx hc hcp har
end Go.Proofs.YtdgpipoffcajgaaV
