/- Leased; Waiting; Len, Now. -/
import Derived.Test.YtdgpipoffcajgaaQd1
set_option linter.unusedVariables false
set_option linter.unusedSimpArgs false
namespace Go.Proofs.YtdgpipoffcajgaaV
open Go.RowKit
attribute [local simp] TK.agg constAV evalAV EK.has EK.hasAll vecEls elsR AV.toD toDs AV.cells AV.one joinD TyI.zeroD OpR.of binIntF binStrF AV.isPtr ptrNil slNil mpNil nilE eqF negF posF binF pelF pvLoad pelSet pvStore boxLoad epLoad loadF boxStore storeF fieldAddrF fieldF epOf indexAddrF byteF indexF mapLen lenF cutF sliceF sliceN sliceX isSl slice3F fillF fillV arrFs buildF partsX landV buildSliceF roomB appVec appendF appMkF capF mmFrom mmF max2' min2' clearVec clearF convF unF pickF nilChkF extF ptrsOf callF makeSliceF sameKs sameD kindIs plainFs keyOk mapOb mapEs okV lookF lookupF putE putS mapPut mapUpdateF mapDel deleteF mapAll rangeM rangeF overV hitV nextO nextF entryM entryO entryF itOids builtinF capsOf allocF boxF bytesL bytesF byteTy strTy convertF makeFuncF mapNew makeMapF makeMapH opF reach reachOf AObj.live closedB nodupB packO packL packX backN backG backO obL backE frzX frzO AV.vids frzL landC sameObs landR touchF bitsW D.cells D.decEq D.decEqs AV.decEq AV.decEqs AObj.decEq AV.oids0 AV.oids AObj.oids renG renP AV.ren0 AV.ren envGet envPut envKeep obGet setEff putV St.put stepS keyChk chkD accD Ex.block AV.under AObj.under laysOf roomFor mkvO frzG szOk killO usedBy tidyS canL canS ghost ghostE normSt resOf allSome one0 resultsF finL finishL finish endF startEnv chkC backX comeC AV.flat0 rngC loopO layL endLp busyL idleL noRng rndSt rndEnd wpn_nil wpn_seq wpn_loop wpn_seq_exit wpn_loop_exit wpn_seq_ret wpn_loop_ret wpn_block wpn_post wpk_skip wpk_exit wpk_ret wpk_reg wpk_seq wpk_condT wpk_block wpk_loop wpk_pre wpk_post wop_nil wop_cons wop_guard St.know envSet cond_d cond_bool cond_int cond_str endE endQ freeB disj pushT bitsW int_beq int_bne eqS_def tbE fuelL_eq ann0_lays ann0_dd ann0_ro elsOf_dsl elsOf_dnils toNat_succ nn_succ pos_succ one_succ rng1 rng2 rng3 rng4 rng5 rng6 rng7 rng8 List.idxOf_cons wpk_rng rndK rndE
structure tsOk (ts : List Tck) : Prop where
  asc : ts.Pairwise fun x y => x.n < y.n
  le : ts.length ≤ 12
def decT (p : D × D) : List Tck := match p with
  | (_, .agg [.int .i64 n, .int .i64 a, .int .i64 s, .int .i64 u]) => [⟨n, a, s, u⟩]
  | _ => []
theorem dec_ts : ∀ ts : List Tck, (ts.map Tck.p).flatMap decT = ts
  | [] => rfl
  | t :: ts => by
    have ih := dec_ts ts
    simp only [List.map_cons, List.flatMap_cons, ih]
    rfl
theorem ts_sorted {ts : List Tck} (h : tsOk ts) {out : List Tck} (hp : out.Perm ts) : srtT out = ts := by
  obtain ⟨s1, s2⟩ := srtT_spec out
  exact perm_asc Tck.n (s1.trans hp) s2 h.asc
set_option maxRecDepth 100000 in
set_option maxHeartbeats 4000000 in
theorem leased22_run (q : Qs) (hq : q.ok) (ht : tsOk q.ts) :
    run CC 22 [.ptr 0 0] q.obs = some (.vs 3 0 4 0 q.ts.length, q.obs ++ [.vec 0 true false 40 4 (q.ts.map Tck.d)]) := by
  refine run_code (s := s22 3) rfl rfl rfl (by kernel_rfl) ?_
  have hts : (q.ts.map Tck.p).length = q.ts.length := by simp
  have hst : Stm q.cs q.dk (q.ts.map Tck.p).length := by rw [hts]; exact hq.tb
  have hfst := stEs_fst (q.ts.map Tck.p) q.cs hst.len.symm
  have hsnd := stEs_snd (q.ts.map Tck.p) q.cs hst.len.symm
  have hnd : ((stEs (q.ts.map Tck.p) q.cs).map (·.1)).Nodup := by rw [hfst]; exact hst.nd
  have hall : (stEs (q.ts.map Tck.p) q.cs).flatMap (fun p => decT p.2) = q.ts := by
    rw [show (stEs (q.ts.map Tck.p) q.cs).flatMap (fun p => decT p.2) = ((stEs (q.ts.map Tck.p) q.cs).map (·.2)).flatMap decT by rw [List.flatMap_map], hsnd, dec_ts]
  have hle := ht.le
  simp [s22, eqCells, T3, T4, T5, T9, T22, T23, T25, T27, T32, T34, T38, T40, T46, T49, T51, T54, T57, T66, T72, T74, T76, T77, T79, T81, T87, T89, T90, T92, T101, T107, T109, T119, T125, T128, T130, T133, T140, T148, T150, T151, CT]
  refine wlp_inv (S := fun p : List Nat × List Tck => ⟨[(3, .vs 3 0 4 0 p.2.length), (12, .it 4)], q.obs ++ [.vec 0 true false 40 4 (p.2.map Tck.d), .iter (some 2) q.dk p.1 q.dk]⟩) (m := fun p => (leftE p.1 (stEs (q.ts.map Tck.p) q.cs)).length) (Inv := fun p => (p.2 ++ (leftE p.1 (stEs (q.ts.map Tck.p) q.cs)).flatMap fun p => decT p.2).Perm q.ts) ?_ ([], []) (by simp only [leftE_nil, List.nil_append]; rw [hall])
  rintro ⟨seen, out⟩ hinv ih
  rw [e22_1]
  unfold c22_1
  rw [wpk_post, wpk_seq, wpk_reg]
  simp only at hinv ⊢
  have hol : out.length ≤ 12 := by
    have h1 := hinv.length_eq
    rw [List.length_append] at h1
    omega
  refine wop_next (o := 4) (m := 2) (since := q.dk) (last := q.dk) (ck := q.dk) (seen := seen) (l := stEs (q.ts.map Tck.p) q.cs) rfl rfl rfl (stm_ok hst seen) (fun h0 => ?_) fun p hp' => ?_
  · rw [h0] at hinv
    simp only [List.flatMap_nil, List.append_nil] at hinv
    have hsrt := ts_sorted ht hinv
    have hs := sort39_run out hol
    rw [hsrt] at hs
    have hlen : q.ts.length = out.length := hinv.length_eq.symm
    have htk : (q.ts.map Tck.d).take out.length = q.ts.map Tck.d := by rw [← hlen]; exact takeM _ _
    have hll : (q.ts.map Tck.d).length = out.length := by simp [hlen]
    clear ih hinv hsrt hall
    simp only [Qs.obs] at hs ⊢
    rw [hlen]
    generalize q.ts.map Tck.d = F at *
    generalize out.map Tck.d = E at *
    generalize out.length = n at *
    generalize q.es.map Ent.p = M1 at *
    generalize q.ts.map Tck.p = M2 at *
    simp [eqCells, T3, T4, T5, T9, T22, T23, T25, T27, T32, T34, T38, T40, T46, T49, T51, T54, T57, T66, T72, T74, T76, T77, T79, T81, T87, T89, T90, T92, T101, T107, T109, T119, T125, T128, T130, T133, T140, T148, T150, T151, CT, hs, htk, hll]
  · have hm := leftE_mem hp'
    have hen := stm_entry hst hm.1
    have hin : p.2 ∈ q.ts.map Tck.p := by
      have : p.2 ∈ (stEs (q.ts.map Tck.p) q.cs).map (·.2) := List.mem_map.2 ⟨p, hm.1, rfl⟩
      rw [hsnd] at this
      exact this
    obtain ⟨t, heq, hpe⟩ := List.mem_map.1 hin
    have hpl := (perm_left hnd hp').flatMap_right fun p => decT p.2
    have ih1 := fun out' h => ih (seen ++ [p.1], out') h (leftE_lt hp')
    obtain ⟨b, pr⟩ := p
    simp only at hpe hpl hen ih1
    subst hpe
    simp only [List.flatMap_cons] at hpl
    have hinv2 := (List.Perm.append_left out hpl).symm.trans hinv
    have hd : decT (Tck.p t) = [t] := rfl
    rw [hd] at hinv2
    simp only [Tck.p, Tck.d] at hen
    have htl : (out.map Tck.d).take out.length = out.map Tck.d := takeM _ _
    have hll : (out.map Tck.d).length = out.length := by simp
    have ih2 := ih1 (out ++ [t]) (by simpa using hinv2)
    have r1 : (out.length + 1) * 32 ≤ 140737488355328 := by omega
    have r2 : out.length + 1 ≤ 9223372036854775807 := by omega
    have hz : szAll 4 [D.agg [.int .i64 t.n, .int .i64 t.a, .int .i64 t.s, .int .i64 t.u]] = true := rfl
    have hmm : (out ++ [t]).map Tck.d = out.map Tck.d ++ [.agg [.int .i64 t.n, .int .i64 t.a, .int .i64 t.s, .int .i64 t.u]] := by simp [Tck.d]
    simp only [hmm, List.length_append, List.length_cons, List.length_nil, Nat.zero_add] at ih2
    clear ih ih1 hinv hinv2 hpl hall
    simp only [Qs.obs] at ih2 ⊢
    generalize q.es.map Ent.p = M1 at *
    generalize q.ts.map Tck.p = M2 at *
    generalize out.map Tck.d = E at *
    generalize out.length = n at *
    simp [eqCells, T3, T4, T5, T9, T22, T23, T25, T27, T32, T34, T38, T40, T46, T49, T51, T54, T57, T66, T72, T74, T76, T77, T79, T81, T87, T89, T90, T92, T101, T107, T109, T119, T125, T128, T130, T133, T140, T148, T150, T151, CT, Tck.p, Tck.d, hen, r1, r2, hz, htl, hll]
    exact ih2
set_option maxRecDepth 100000 in
theorem len16_run (q : Qs) : run CC 16 [.ptr 0 0] q.obs = some (.d (.int .i64 q.es.length), q.obs) := by
  refine run_code (s := s16 3) rfl rfl rfl (by kernel_rfl) ?_
  simp [s16, eqCells, T3, T4, T5, T9, T22, T23, T25, T27, T32, T34, T38, T40, T46, T49, T51, T54, T57, T66, T72, T74, T76, T77, T79, T81, T87, T89, T90, T92, T101, T107, T109, T119, T125, T128, T130, T133, T140, T148, T150, T151, CT]
set_option maxRecDepth 100000 in
theorem now20_run (q : Qs) : run CC 20 [.ptr 0 0] q.obs = some (.d (.int .i64 q.now), q.obs) := by
  refine run_code (s := s20 3) rfl rfl rfl (by kernel_rfl) ?_
  simp [s20, eqCells, T3, T4, T5, T9, T22, T23, T25, T27, T32, T34, T38, T40, T46, T49, T51, T54, T57, T66, T72, T74, T76, T77, T79, T81, T87, T89, T90, T92, T101, T107, T109, T119, T125, T128, T130, T133, T140, T148, T150, T151, CT]
set_option maxRecDepth 100000 in
theorem cond38_run (a s : Int) (S X : List D) (arr tk : Int) : run CC 38 [.d (.agg [.int .i64 a, .int .i64 s, .sl S, .sl X, .int .i64 arr, .int .i64 tk])] [] = some (.d (.bool (decide (tk = 0))), []) := by
  refine run_code (s := s38 0) rfl rfl rfl (by kernel_rfl) ?_
  simp [s38, eqCells, T3, T4, T5, T9, T22, T23, T25, T27, T32, T34, T38, T40, T46, T49, T51, T54, T57, T66, T72, T74, T76, T77, T79, T81, T87, T89, T90, T92, T101, T107, T109, T119, T125, T128, T130, T133, T140, T148, T150, T151, CT]
/-- The identities that wait. -/
def wts (es : List Ent) : List Iv := idsW (fun e => decide (e.tk = 0)) es
set_option maxRecDepth 100000 in
theorem waiting21_run (q : Qs) (hq : q.ok) (he : esOk q.es) : run CC 21 [.ptr 0 0] q.obs = some (.vs 3 0 2 0 (wts q.es).length, q.obs ++ [.vec 0 true false 38 2 ((wts q.es).map iD)]) := by
  refine run_code (s := s21 3) rfl rfl rfl (by kernel_rfl) ?_
  have h := ids37_run q hq he (fun t => decide (t = 0)) 38 (by decide) cond38_run
  change run CC 37 [.ptr 0 0, .fn 38 [] []] q.obs = some (.vs 3 0 2 0 (wts q.es).length, q.obs ++ [.vec 0 true false 38 2 ((wts q.es).map iD)]) at h
  simp only [Qs.obs] at h ⊢
  generalize (wts q.es).map iD = F at *
  generalize (wts q.es).length = n at *
  generalize q.es.map Ent.p = M1 at *
  generalize q.ts.map Tck.p = M2 at *
  simp [s21, eqCells, T3, T4, T5, T9, T22, T23, T25, T27, T32, T34, T38, T40, T46, T49, T51, T54, T57, T66, T72, T74, T76, T77, T79, T81, T87, T89, T90, T92, T101, T107, T109, T119, T125, T128, T130, T133, T140, T148, T150, T151, CT, h]
end Go.Proofs.YtdgpipoffcajgaaV
