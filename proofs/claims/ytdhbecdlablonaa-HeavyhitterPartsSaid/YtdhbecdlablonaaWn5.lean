/- The model's merge; the walk. -/
import Derived.Test.YtdhbecdlablonaaWn4
set_option linter.unusedVariables false
set_option linter.unusedSimpArgs false
namespace Go.Proofs.YtdhbecdlablonaaV
open Go.RowKit
attribute [local simp] TK.agg constAV evalAV EK.has EK.hasAll vecEls elsR AV.toD toDs AV.cells AV.one joinD TyI.zeroD OpR.of binIntF binStrF AV.isPtr ptrNil slNil mpNil nilE eqF negF posF binF pelF pvLoad pelSet pvStore boxLoad epLoad loadF boxStore storeF fieldAddrF fieldF epOf indexAddrF byteF indexF mapLen lenF cutF sliceF sliceN sliceX isSl slice3F fillF fillV arrFs buildF partsX landV buildSliceF roomB appVec appendF appMkF capF mmFrom mmF max2' min2' clearVec clearF convF unF pickF nilChkF extF ptrsOf callF makeSliceF sameKs sameD kindIs plainFs keyOk mapOb mapEs okV lookF lookupF putE putS mapPut mapUpdateF mapDel deleteF mapAll rangeM rangeF overV hitV nextO nextF entryM entryO entryF itOids builtinF capsOf allocF boxF bytesL bytesF byteTy strTy convertF makeFuncF mapNew makeMapF makeMapH opF reach reachOf AObj.live closedB nodupB packO packL packX backN backG backO obL backE frzX frzO AV.vids frzL landC sameObs landR touchF bitsW D.cells D.decEq D.decEqs AV.decEq AV.decEqs AObj.decEq AV.oids0 AV.oids AObj.oids renG renP AV.ren0 AV.ren envGet envPut envKeep obGet setEff putV St.put stepS keyChk chkD accD Ex.block AV.under AObj.under laysOf roomFor mkvO frzG szOk killO usedBy tidyS canL canS ghost ghostE normSt resOf allSome one0 resultsF finL finishL finish endF startEnv chkC backX comeC AV.flat0 rngC loopO layL endLp busyL idleL noRng rndSt rndEnd wpn_nil wpn_seq wpn_loop wpn_seq_exit wpn_loop_exit wpn_seq_ret wpn_loop_ret wpn_block wpn_post wpk_skip wpk_exit wpk_ret wpk_reg wpk_seq wpk_condT wpk_block wpk_loop wpk_pre wpk_post wop_nil wop_cons wop_guard St.know envSet cond_d cond_bool cond_int cond_str endE endQ freeB disj pushT bitsW int_beq int_bne eqS_def tbE fuelL_eq ann0_lays ann0_dd ann0_ro elsOf_dsl elsOf_dnils toNat_succ nn_succ pos_succ one_succ rng1 rng2 rng3 rng4 rng5 rng6 rng7 rng8 List.idxOf_cons wpk_rng rndK rndE
theorem wlp_inv2 {C : Pg} {ks : List Fr} {K : Ex → St → Prop} {b : SC} {σ : Type} {st : St} (S : σ → St) (m : σ → Nat) (Inv : σ → Prop) (h : ∀ s, Inv s → (∀ s', Inv s' → m s' < m s → wlp C b (S s') ks K) → wpk C b (S s) (.loop b :: ks) K) (s : σ) (hs : Inv s) (hst : st = S s) : wlp C b st ks K := hst ▸ wlp_inv S m Inv h s hs
theorem putA_len : ∀ (r l : List Ctr), (putA l r).length ≤ l.length + r.length
  | [], l => by simp [putA]
  | c :: r, l => by
    have := putA_len r (putC c.1 c.2 l)
    have := putC_len c.1 c.2 l
    simp only [putA, List.length_cons]; omega
set_option maxRecDepth 100000 in
set_option maxHeartbeats 8000000 in
theorem merge36_run {a b : Sm} (ha : okS a) (hb : okS b) (h12 : a.most ≤ 12) (hm : a.most = b.most) (ht : a.tot + b.tot ≤ 1125899906842624) (X Y : D) (hX : elsOf (.d X) = some (csD a.cs)) (hY : elsOf (.d Y) = some (csD b.cs)) :
    run CC 36 [.d (smD a X), .d (smD b Y)] [] = some (.d (smD (mrgS a b) (.sl (csD (mrgS a b).cs))), []) := by
  have hbs := hb.lostLe
  have has := ha.lostLe
  have hat := ha.tot
  have hbt := hb.tot
  have hal := ha.lost
  have hbl := hb.lost
  have hsb := (sum_le hb.pos).1
  have hsa := (sum_le ha.pos).1
  have hB : a.tot + sumC b.cs ≤ 9000000000000000000 := by omega
  obtain ⟨g1, g2⟩ := putA_gd (ok_gd ha) hb.nm hb.pos hB
  have hc := cut_ok ha.most.1 g1 hB
  have hla := ha.len
  have hlb := hb.len
  have hpl := putA_len b.cs a.cs
  have hsm : ∀ p ∈ putA a.cs b.cs, 1 ≤ p.2 ∧ p.2 ≤ 9000000000000000000 := fun p hp => ⟨g1.pos p hp, by have := g1.le p hp; omega⟩
  have hwt : IntKind.i64.wrap (a.tot + b.tot) = a.tot + b.tot := wrap64 (by omega) (by omega)
  have hwl : IntKind.i64.wrap (a.lost + b.lost) = a.lost + b.lost := wrap64 (by omega) (by omega)
  have hM := ha.most
  obtain ⟨a1, a2, a3⟩ := slF hX
  simp only [AV.one, AV.cells, D.cells] at a1 a2 a3
  obtain ⟨b1, b2, b3⟩ := slF hY
  simp only [AV.one, AV.cells, D.cells] at b1 b2 b3
  have hal2 : (csD a.cs).length = a.cs.length := by simp
  have hza : szAll 2 (csD a.cs) = true := szAll_map cE 2 (fun _ => rfl) _
  have r1 : a.cs.length * 24 ≤ 140737488355328 := by omega
  have r2 : a.cs.length ≤ 9223372036854775807 := by omega
  have htA : (csD a.cs).take a.cs.length = csD a.cs := List.take_of_length_le (by simp)
  unfold smD
  refine run_code (s := s36 0) rfl rfl rfl (by kernel_rfl) ?_
  have hgb : ∀ (i : Nat) (hi : i < b.cs.length), (csD b.cs)[i]? = some (.agg [.str b.cs[i].1, .int .i64 b.cs[i].2]) := fun i hi => by simp [hi, cE]
  have hbl2 : (csD b.cs).length = b.cs.length := by simp
  obtain ⟨R, hR⟩ : ∃ R, R = mrgS a b := ⟨_, rfl⟩
  rw [← hR]
  have hput := fun (r : List Ctr) (hr : r.length ≤ 12) (k : ByteArray) (n : Int) => put_run (.sl (csD (putA a.cs r))) (putA a.cs r) (by have := putA_len r a.cs; omega) rfl k n
  generalize hBB : csD b.cs = BB at *
  generalize hAA : csD a.cs = AA' at *
  have hst : csD (putA a.cs (b.cs.take 0)) = AA' := by rw [← hAA]; rfl
  simp [s36, eqCells, T3, T4, T5, T9, T22, T25, T26, T28, T29, T36, T41, T47, T69, T74, T78, T85, T90, T98, T104, CT, a1, a2, a3, b1, b2, b3, hX, hY, hwt, hwl, hza, r1, r2, hal2, htA]
  refine wlp_inv2 (S := fun i : Nat => ⟨[(3, .ptr 1 0), (4, .ptr 2 0), (5, .ptr 3 0), (6, .d (.int .i64 i))], [.dead, .box [.d (.int .i64 b.most), .d (.int .i64 b.tot), .d (.int .i64 b.lost), .d Y], .box [.d (.int .i64 0), .d (.int .i64 0), .d (.int .i64 0), .d .nils], .box [.d (.int .i64 a.most), .d (.int .i64 (a.tot + b.tot)), .d (.int .i64 (a.lost + b.lost)), .d (.sl (csD (putA a.cs (b.cs.take i))))], .dead]⟩) (m := fun i => b.cs.length - i) (Inv := fun i => i ≤ b.cs.length) ?_ 0 (Nat.zero_le _) (by simp only [hst]; rfl)
  rintro i hi ih
  rw [e36_1]
  by_cases hlt : i < b.cs.length
  · have hx := hgb i hlt
    have hEe := (List.getElem?_eq_some_iff.1 hx).2
    have hBi : i < BB.length := by omega
    have w1 : IntKind.i64.wrap ((i : Int) + 1) = (i : Int) + 1 := wrap64 (by omega) (by omega)
    have p1 : (i : Int) < b.cs.length := by omega
    have hp := hput (b.cs.take i) (by rw [List.length_take]; omega) b.cs[i].1 b.cs[i].2
    have hsn : putA a.cs (b.cs.take (i + 1)) = putC b.cs[i].1 b.cs[i].2 (putA a.cs (b.cs.take i)) := by rw [List.take_succ_eq_append_getElem hlt, putA_app]
    have ih2 := ih (i + 1) (by omega) (by omega)
    rw [hsn] at ih2
    clear ih hput hgb hsn hst
    generalize b.cs[i] = y at *
    generalize csD (putC y.1 y.2 (putA a.cs (b.cs.take i))) = V2 at *
    generalize csD (putA a.cs (b.cs.take i)) = V1 at *
    try simp at ih2
    simp [c36_1, eqCells, T3, T4, T5, T9, T22, T25, T26, T28, T29, T36, T41, T47, T69, T74, T78, T85, T90, T98, T104, CT, b1, b2, b3, hY, hx, hEe, hBi, hbl2, w1, p1, hlt, hp]
    exact ih2
  · have e : i = b.cs.length := by omega
    subst e
    rw [List.take_length]
    clear ih hput hgb hst
    have hVl : (csD (putA a.cs b.cs)).length = (putA a.cs b.cs).length := by simp
    by_cases hf : ((putA a.cs b.cs).length : Int) ≤ a.most
    · have hd : cutD a.most (putA a.cs b.cs) = 0 := by unfold cutD; rw [if_pos hf]
      have hz := less_zero hsm
      have hR' : R = ⟨a.most, a.tot + b.tot, a.lost + b.lost, putA a.cs b.cs⟩ := by rw [hR]; unfold mrgS; rw [hd, hz, Int.add_zero]
      have hf' : ¬ a.most < ((putA a.cs b.cs).length : Int) := by omega
      subst hR'
      simp only
      generalize csD (putA a.cs b.cs) = V at *
      generalize (putA a.cs b.cs).length = vl at *
      simp [c36_1, eqCells, T3, T4, T5, T9, T22, T25, T26, T28, T29, T36, T41, T47, T69, T74, T78, T85, T90, T98, T104, CT, b1, b2, b3, hY, hbl2, hVl, hf']
    · have hf' : a.most < ((putA a.cs b.cs).length : Int) := by omega
      have hcd : cutD a.most (putA a.cs b.cs) = ((topC (putA a.cs b.cs)).map (·.2)).getD a.most.toNat 0 := by unfold cutD; rw [if_neg hf]
      obtain ⟨t1, t2⟩ := topC_ok (srt_ne g1.s)
      obtain ⟨XT, hXT, htop⟩ := top_run (.sl (csD (putA a.cs b.cs))) (putA a.cs b.cs) (by omega) rfl
      have htl : (topC (putA a.cs b.cs)).length = (putA a.cs b.cs).length := t2.length_eq
      have hMe : a.most.toNat < (topC (putA a.cs b.cs)).length := by omega
      have hge : (csD (topC (putA a.cs b.cs)))[a.most.toNat]? = some (.agg [.str (topC (putA a.cs b.cs))[a.most.toNat].1, .int .i64 (cutD a.most (putA a.cs b.cs))]) := by
        rw [hcd, List.getD_eq_getElem?_getD, List.getElem?_map, List.getElem?_eq_getElem hMe]
        simp [hMe, cE]
      have hless := less_run (.sl (csD (putA a.cs b.cs))) (putA a.cs b.cs) (by omega) rfl (cutD a.most (putA a.cs b.cs))
      have hd0 := hc.d0
      have hdl := hc.le
      have hlo : IntKind.i64.wrap (a.lost + b.lost + cutD a.most (putA a.cs b.cs)) = a.lost + b.lost + cutD a.most (putA a.cs b.cs) := wrap64 (by omega) (by omega)
      obtain ⟨hg1, hg2⟩ := List.getElem?_eq_some_iff.1 hge
      unfold mrgS at hR
      subst hR
      simp only
      have q1 : 0 ≤ a.most := by omega
      have hTl : (csD (topC (putA a.cs b.cs))).length = (putA a.cs b.cs).length := by simp [htl]
      clear hcd hc hsm hge
      generalize (topC (putA a.cs b.cs))[a.most.toNat].1 = kk at *
      generalize csD (topC (putA a.cs b.cs)) = T at *
      generalize cutD a.most (putA a.cs b.cs) = d at *
      generalize csD (lessC d (putA a.cs b.cs)) = V2 at *
      generalize csD (putA a.cs b.cs) = V at *
      generalize (putA a.cs b.cs).length = vl at *
      have hge : T[a.most.toNat]? = some (.agg [.str kk, .int .i64 d]) := List.getElem?_eq_some_iff.2 ⟨hg1, hg2⟩
      simp [c36_1, eqCells, T3, T4, T5, T9, T22, T25, T26, T28, T29, T36, T41, T47, T69, T74, T78, T85, T90, T98, T104, CT, b1, b2, b3, hY, hbl2, hVl, hf', htop, hXT, hge, hg1, hg2, q1, hless, hlo, hTl]
end Go.Proofs.YtdhbecdlablonaaV
