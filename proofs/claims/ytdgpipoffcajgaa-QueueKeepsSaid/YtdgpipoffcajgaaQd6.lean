/- Lease, Ack, Release. -/
import Derived.Test.YtdgpipoffcajgaaQd5
set_option linter.unusedVariables false
set_option linter.unusedSimpArgs false
namespace Go.Proofs.YtdgpipoffcajgaaV
open Go.RowKit
attribute [local simp] TK.agg constAV evalAV EK.has EK.hasAll vecEls elsR AV.toD toDs AV.cells AV.one joinD TyI.zeroD OpR.of binIntF binStrF AV.isPtr ptrNil slNil mpNil nilE eqF negF posF binF pelF pvLoad pelSet pvStore boxLoad epLoad loadF boxStore storeF fieldAddrF fieldF epOf indexAddrF byteF indexF mapLen lenF cutF sliceF sliceN sliceX isSl slice3F fillF fillV arrFs buildF partsX landV buildSliceF roomB appVec appendF appMkF capF mmFrom mmF max2' min2' clearVec clearF convF unF pickF nilChkF extF ptrsOf callF makeSliceF sameKs sameD kindIs plainFs keyOk mapOb mapEs okV lookF lookupF putE putS mapPut mapUpdateF mapDel deleteF mapAll rangeM rangeF overV hitV nextO nextF entryM entryO entryF itOids builtinF capsOf allocF boxF bytesL bytesF byteTy strTy convertF makeFuncF mapNew makeMapF makeMapH opF reach reachOf AObj.live closedB nodupB packO packL packX backN backG backO obL backE frzX frzO AV.vids frzL landC sameObs landR touchF bitsW D.cells D.decEq D.decEqs AV.decEq AV.decEqs AObj.decEq AV.oids0 AV.oids AObj.oids renG renP AV.ren0 AV.ren envGet envPut envKeep obGet setEff putV St.put stepS keyChk chkD accD Ex.block AV.under AObj.under laysOf roomFor mkvO frzG szOk killO usedBy tidyS canL canS ghost ghostE normSt resOf allSome one0 resultsF finL finishL finish endF startEnv chkC backX comeC AV.flat0 rngC loopO layL endLp busyL idleL noRng rndSt rndEnd wpn_nil wpn_seq wpn_loop wpn_seq_exit wpn_loop_exit wpn_seq_ret wpn_loop_ret wpn_block wpn_post wpk_skip wpk_exit wpk_ret wpk_reg wpk_seq wpk_condT wpk_block wpk_loop wpk_pre wpk_post wop_nil wop_cons wop_guard St.know envSet cond_d cond_bool cond_int cond_str endE endQ freeB disj pushT bitsW int_beq int_bne eqS_def tbE fuelL_eq ann0_lays ann0_dd ann0_ro elsOf_dsl elsOf_dnils toNat_succ nn_succ pos_succ one_succ rng1 rng2 rng3 rng4 rng5 rng6 rng7 rng8 List.idxOf_cons wpk_rng rndK rndE
abbrev kvT (ts : List Tck) : List (Int × Tck) := ts.map fun t => (t.n, t)
theorem ts_map (ts : List Tck) : ts.map Tck.p = mapD (intK .i64) Tck.d (kvT ts) := by
  unfold mapD kvT
  rw [List.map_map]
  rfl
theorem kvT_ne {ts : List Tck} (h : ts.Pairwise fun x y => x.n < y.n) : keysNe (intK .i64) (kvT ts) := by
  unfold keysNe kvT
  rw [List.pairwise_map]
  exact h.imp fun {x y} hxy => by simp [intK]; omega
theorem find_t (ts : List Tck) (n : Int) : findD (.int .i64 n) (ts.map Tck.p) 0 = some ((lookP (intK .i64) n (kvT ts)).map fun t => (0 + idxP (intK .i64) n (kvT ts), Tck.d t)) := by
  rw [ts_map]
  exact findD_look (intK .i64) Tck.d n (kvT ts) 0
theorem idxT_at : ∀ (pre : List Tck) (t : Tck) (post : List Tck), ((pre ++ t :: post).Pairwise fun x y => x.n < y.n) → idxP (intK .i64) t.n (kvT (pre ++ t :: post)) = pre.length
  | [], t, post, h => by simp [kvT, idxP, intK]
  | x :: pre, t, post, h => by
    have h' := List.pairwise_cons.1 h
    have ih := idxT_at pre t post h'.2
    have hne := h'.1 t (by simp)
    have e2 : (intK .i64).eqb t.n x.n = false := by simp [intK]; omega
    unfold kvT at ih ⊢
    simp only [List.cons_append, List.map_cons, idxP, List.length_cons]
    rw [ih]
    simp [e2]
theorem find_tin {ts pre post : List Tck} {t : Tck} (h : ts.Pairwise fun x y => x.n < y.n) (he : ts = pre ++ t :: post) : findD (.int .i64 t.n) (ts.map Tck.p) 0 = some (some (pre.length, Tck.d t)) := by
  have hm : (t.n, t) ∈ kvT ts := List.mem_map.2 ⟨t, by rw [he]; simp, rfl⟩
  have h1 := look_mem (intK .i64) (kvT_ne h) hm
  have h2 := find_t ts t.n
  simp only at h1
  rw [h1] at h2
  subst he
  rw [idxT_at pre t post h] at h2
  simpa using h2
theorem find_tout {ts : List Tck} {n : Int} (h : ∀ t ∈ ts, t.n ≠ n) : findD (.int .i64 n) (ts.map Tck.p) 0 = some none := by
  have h2 := find_t ts n
  have h1 : lookP (intK .i64) n (kvT ts) = none := by
    cases hl : lookP (intK .i64) n (kvT ts) with
    | none => rfl
    | some e =>
      have := mem_look (intK .i64) hl
      obtain ⟨x, hx, he⟩ := List.mem_map.1 this
      injection he with e1 e2
      exact absurd e1 (h x hx)
  rw [h1] at h2
  exact h2
def frA (es : List Ent) : Prop := ∀ e ∈ es, ∃ A B, e.S = .sl (spD A B) ∧ e.X = .sl (exD A)
theorem frA.frs {es : List Ent} (h : frA es) : frs es := fun e he => by
  obtain ⟨A, B, h1, h2⟩ := h e he
  exact ⟨_, _, h1, h2⟩
def Ent.t (e : Ent) (n : Int) : Ent := { e with tk := n }
def Ent.f (e : Ent) : D := .agg [.int .i64 e.a, .int .i64 e.s, e.S, e.X]
/-- The queue behind a Lease of the entry between pre and post. -/
def Qs.lea (q : Qs) (pre : List Ent) (e : Ent) (post : List Ent) (now : Int) : Qs := { q with es := pre ++ e.t (q.iss + 1) :: post, ts := q.ts ++ [⟨q.iss + 1, e.a, e.s, now + q.lc⟩], cs := q.cs ++ [q.dk], dk := q.dk + 1, iss := q.iss + 1, srv := e.a, now := now }
def noL (n : Int) : AV := .tup [.d (.agg [.int .i64 0, .int .i64 0, .int .i64 0, .int .i64 0]), .d (nilF 0 0), .d (.int .i64 n)]
set_option maxRecDepth 100000 in
set_option maxHeartbeats 4000000 in
theorem lease17_time (q : Qs) (now : Int) (h : now < q.now) : run CC 17 [.ptr 0 0, .d (.int .i64 now)] q.obs = some (noL 32, q.obs) := by
  simp only [Qs.obs, noL, nilF]
  generalize q.es.map Ent.p = M1 at *
  generalize q.ts.map Tck.p = M2 at *
  refine run_code (s := s17 3) rfl rfl rfl (by kernel_rfl) ?_
  simp [s17, eqCells, T3, T4, T5, T9, T22, T23, T25, T27, T32, T34, T38, T40, T46, T49, T51, T54, T57, T66, T72, T74, T76, T77, T79, T81, T87, T89, T90, T92, T101, T107, T109, T119, T125, T128, T130, T133, T140, T148, T150, T151, CT, CQ, QQ, h]
set_option maxRecDepth 100000 in
set_option maxHeartbeats 4000000 in
theorem lease17_empty (q : Qs) (hq : q.ok) (he : esOk q.es) (hr : ∀ e ∈ q.es, inR e.a e.s) (now : Int) (h : ¬ now < q.now) (h2 : now ≤ 1099511627776) (hw : wts q.es = []) : run CC 17 [.ptr 0 0, .d (.int .i64 now)] q.obs = some (noL 7, q.obs) := by
  have hn := next35_run q hq he hr
  rw [hw] at hn
  simp only [nextI, nextV] at hn
  have h3 : ¬ 1099511627776 < now := by omega
  simp only [Qs.obs, noL, nilF] at hn ⊢
  generalize q.es.map Ent.p = M1 at *
  generalize q.ts.map Tck.p = M2 at *
  refine run_code (s := s17 3) rfl rfl rfl (by kernel_rfl) ?_
  simp [s17, eqCells, T3, T4, T5, T9, T22, T23, T25, T27, T32, T34, T38, T40, T46, T49, T51, T54, T57, T66, T72, T74, T76, T77, T79, T81, T87, T89, T90, T92, T101, T107, T109, T119, T125, T128, T130, T133, T140, T148, T150, T151, CT, CQ, QQ, h, hn, h3]
set_option maxRecDepth 100000 in
set_option maxHeartbeats 8000000 in
theorem lease17_ok (q : Qs) (hq : q.ok) (he : esOk q.es) (hr : ∀ e ∈ q.es, inR e.a e.s) (hfr : frA q.es) (now : Int) (h : ¬ now < q.now) (h2 : now ≤ 1099511627776) (pre post : List Ent) (e : Ent) (hs : q.es = pre ++ e :: post) (hnx : nextI q.srv (wts q.es) = some e.iv)
    (hlc : 0 ≤ q.lc ∧ q.lc ≤ 1048576) (hnow : -1000 ≤ now) (hi : 0 ≤ q.iss ∧ q.iss < 1000000) (hts : ∀ t ∈ q.ts, t.n ≤ q.iss) :
    run CC 17 [.ptr 0 0, .d (.int .i64 now)] q.obs = some (.tup [.d (Tck.d ⟨q.iss + 1, e.a, e.s, now + q.lc⟩), .d e.f, .d (.int .i64 0)], (q.lea pre e post now).obs) := by
  have hn := next35_run q hq he hr
  rw [hnx] at hn
  obtain ⟨A, B, e1, e2⟩ := hfr e (by rw [hs]; simp)
  have hf := find_in he.ids hs
  have ht := find_tout (ts := q.ts) (n := q.iss + 1) fun t ht => by have := hts t ht; omega
  have hcp := copied34_fr e.a e.s A B
  have w1 : IntKind.i64.wrap (q.iss + 1) = q.iss + 1 := wrap64 (by omega) (by omega)
  have w2 : IntKind.i64.wrap (now + q.lc) = now + q.lc := wrap64 (by omega) (by omega)
  have hset : (q.es.map Ent.p).set pre.length (.agg [.int .i64 e.a, .int .i64 e.s], .agg [.int .i64 e.a, .int .i64 e.s, e.S, e.X, .int .i64 e.arr, .int .i64 (q.iss + 1)]) = (pre ++ e.t (q.iss + 1) :: post).map Ent.p := by
    rw [hs]
    have hl : pre.length = (pre.map Ent.p).length := by simp
    rw [List.map_append, List.map_append, hl, List.map_cons, List.map_cons, List.set_append_right _ _ (Nat.le_refl _), Nat.sub_self, List.set_cons_zero]
    rfl
  have happ : (q.ts ++ [Tck.mk (q.iss + 1) e.a e.s (now + q.lc)]).map Tck.p = q.ts.map Tck.p ++ [(.int .i64 (q.iss + 1), .agg [.int .i64 (q.iss + 1), .int .i64 e.a, .int .i64 e.s, .int .i64 (now + q.lc)])] := by
    rw [List.map_append]; rfl
  have h3 : ¬ 1099511627776 < now := by omega
  simp only [nextV, Ent.iv, iD] at hn
  simp only [frD] at hcp
  simp only [Qs.obs, Qs.lea, Ent.f, Tck.d] at hn ⊢
  rw [e1, e2] at hf hset ⊢
  rw [happ]
  generalize q.es.map Ent.p = M1 at *
  generalize q.ts.map Tck.p = M2 at *
  generalize (pre ++ e.t (q.iss + 1) :: post).map Ent.p = M3 at *
  generalize spD A B = S at *
  generalize exD A = X at *
  generalize hi1 : q.iss + 1 = i1 at *
  refine run_code (s := s17 3) rfl rfl rfl (by kernel_rfl) ?_
  simp [s17, eqCells, T3, T4, T5, T9, T22, T23, T25, T27, T32, T34, T38, T40, T46, T49, T51, T54, T57, T66, T72, T74, T76, T77, T79, T81, T87, T89, T90, T92, T101, T107, T109, T119, T125, T128, T130, T133, T140, T148, T150, T151, CT, CQ, QQ, h, hn, h3, hi1, w1, w2, ht, hf, hset, hcp, putE, putS]
def Qs.rid (q : Qs) (tpre : List Tck) (tpost : List Tck) : Qs := { q with ts := tpre ++ tpost, cs := q.cs.eraseIdx tpre.length }
theorem erase_t (tpre : List Tck) (t : Tck) (tpost : List Tck) : ((tpre ++ t :: tpost).map Tck.p).eraseIdx tpre.length = (tpre ++ tpost).map Tck.p := by
  have hl : tpre.length = (tpre.map Tck.p).length := by simp
  rw [List.map_append, List.map_append, hl, List.map_cons, List.eraseIdx_append_of_length_le (Nat.le_refl _), Nat.sub_self]
  rfl
theorem erase_e (pre : List Ent) (e : Ent) (post : List Ent) : ((pre ++ e :: post).map Ent.p).eraseIdx pre.length = (pre ++ post).map Ent.p := by
  have hl : pre.length = (pre.map Ent.p).length := by simp
  rw [List.map_append, List.map_append, hl, List.map_cons, List.eraseIdx_append_of_length_le (Nat.le_refl _), Nat.sub_self]
  rfl
set_option maxRecDepth 100000 in
set_option maxHeartbeats 4000000 in
theorem ack27_none (q : Qs) (n : Int) (h : ∀ t ∈ q.ts, t.n ≠ n) : run CC 27 [.ptr 0 0, .d (.int .i64 n)] q.obs = some (.d (.int .i64 10), q.obs) := by
  have ht := find_tout h
  simp only [Qs.obs]
  generalize q.es.map Ent.p = M1 at *
  generalize q.ts.map Tck.p = M2 at *
  refine run_code (s := s27 3) rfl rfl rfl (by kernel_rfl) ?_
  simp [s27, eqCells, T3, T4, T5, T9, T22, T23, T25, T27, T32, T34, T38, T40, T46, T49, T51, T54, T57, T66, T72, T74, T76, T77, T79, T81, T87, T89, T90, T92, T101, T107, T109, T119, T125, T128, T130, T133, T140, T148, T150, T151, CT, CQ, QQ, ht]
set_option maxRecDepth 100000 in
set_option maxHeartbeats 4000000 in
theorem release29_none (q : Qs) (n : Int) (h : ∀ t ∈ q.ts, t.n ≠ n) : run CC 29 [.ptr 0 0, .d (.int .i64 n)] q.obs = some (.d (.int .i64 10), q.obs) := by
  have ht := find_tout h
  simp only [Qs.obs]
  generalize q.es.map Ent.p = M1 at *
  generalize q.ts.map Tck.p = M2 at *
  refine run_code (s := s29 3) rfl rfl rfl (by kernel_rfl) ?_
  simp [s29, eqCells, T3, T4, T5, T9, T22, T23, T25, T27, T32, T34, T38, T40, T46, T49, T51, T54, T57, T66, T72, T74, T76, T77, T79, T81, T87, T89, T90, T92, T101, T107, T109, T119, T125, T128, T130, T133, T140, T148, T150, T151, CT, CQ, QQ, ht]
/-- Behind an Ack: the ticket and its entry are gone. -/
def Qs.ack (q : Qs) (pre post : List Ent) (tpre tpost : List Tck) : Qs := { q with es := pre ++ post, bs := q.bs.eraseIdx pre.length, ts := tpre ++ tpost, cs := q.cs.eraseIdx tpre.length }
set_option maxRecDepth 100000 in
set_option maxHeartbeats 4000000 in
theorem ack27_ok (q : Qs) (hi : idsNe q.es) (ha : q.ts.Pairwise fun x y => x.n < y.n) (pre post : List Ent) (e : Ent) (hs : q.es = pre ++ e :: post) (tpre tpost : List Tck) (t : Tck) (hts : q.ts = tpre ++ t :: tpost) (hte : t.a = e.a ∧ t.s = e.s) :
    run CC 27 [.ptr 0 0, .d (.int .i64 t.n)] q.obs = some (.d (.int .i64 0), (q.ack pre post tpre tpost).obs) := by
  have ht := find_tin ha hts
  have hf := find_in hi hs
  have h1 := erase_t tpre t tpost
  have h2 := erase_e pre e post
  rw [← hts] at h1
  rw [← hs] at h2
  simp only [Qs.obs, Qs.ack, Tck.d] at ht ⊢
  rw [hte.1, hte.2] at ht
  generalize q.es.map Ent.p = M1 at *
  generalize q.ts.map Tck.p = M2 at *
  generalize (pre ++ post).map Ent.p = M3 at *
  generalize (tpre ++ tpost).map Tck.p = M4 at *
  refine run_code (s := s27 3) rfl rfl rfl (by kernel_rfl) ?_
  simp [s27, eqCells, T3, T4, T5, T9, T22, T23, T25, T27, T32, T34, T38, T40, T46, T49, T51, T54, T57, T66, T72, T74, T76, T77, T79, T81, T87, T89, T90, T92, T101, T107, T109, T119, T125, T128, T130, T133, T140, T148, T150, T151, CT, CQ, QQ, ht, hf, h1, h2, mapDel]
/-- Behind a Release: the entry waits again. -/
def Qs.rel (q : Qs) (pre : List Ent) (e : Ent) (post : List Ent) (tpre tpost : List Tck) : Qs := { q with es := pre ++ e.t 0 :: post, ts := tpre ++ tpost, cs := q.cs.eraseIdx tpre.length }
set_option maxRecDepth 100000 in
set_option maxHeartbeats 4000000 in
theorem release29_ok (q : Qs) (hi : idsNe q.es) (hfr : frs q.es) (ha : q.ts.Pairwise fun x y => x.n < y.n) (pre post : List Ent) (e : Ent) (hs : q.es = pre ++ e :: post) (tpre tpost : List Tck) (t : Tck) (hts : q.ts = tpre ++ t :: tpost) (hte : t.a = e.a ∧ t.s = e.s) :
    run CC 29 [.ptr 0 0, .d (.int .i64 t.n)] q.obs = some (.d (.int .i64 0), (q.rel pre e post tpre tpost).obs) := by
  obtain ⟨l1, l2, e1, e2⟩ := hfr e (by rw [hs]; simp)
  have ht := find_tin ha hts
  have hf := find_in hi hs
  have h1 := erase_t tpre t tpost
  rw [← hts] at h1
  have hset : (q.es.map Ent.p).set pre.length (.agg [.int .i64 e.a, .int .i64 e.s], .agg [.int .i64 e.a, .int .i64 e.s, e.S, e.X, .int .i64 e.arr, .int .i64 0]) = (pre ++ e.t 0 :: post).map Ent.p := by
    rw [hs]
    have hl : pre.length = (pre.map Ent.p).length := by simp
    rw [List.map_append, List.map_append, hl, List.map_cons, List.map_cons, List.set_append_right _ _ (Nat.le_refl _), Nat.sub_self, List.set_cons_zero]
    rfl
  simp only [Qs.obs, Qs.rel, Tck.d] at ht ⊢
  rw [hte.1, hte.2] at ht
  rw [e1, e2] at hf hset
  generalize q.es.map Ent.p = M1 at *
  generalize q.ts.map Tck.p = M2 at *
  generalize (pre ++ e.t 0 :: post).map Ent.p = M3 at *
  generalize (tpre ++ tpost).map Tck.p = M4 at *
  refine run_code (s := s29 3) rfl rfl rfl (by kernel_rfl) ?_
  simp [s29, eqCells, T3, T4, T5, T9, T22, T23, T25, T27, T32, T34, T38, T40, T46, T49, T51, T54, T57, T66, T72, T74, T76, T77, T79, T81, T87, T89, T90, T92, T101, T107, T109, T119, T125, T128, T130, T133, T140, T148, T150, T151, CT, CQ, QQ, ht, hf, h1, hset, mapDel, putE, putS]
end Go.Proofs.YtdgpipoffcajgaaV
