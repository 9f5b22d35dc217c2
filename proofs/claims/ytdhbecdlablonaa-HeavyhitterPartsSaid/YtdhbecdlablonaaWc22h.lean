/- counts, Bounds. -/
import Derived.Test.YtdhbecdlablonaaWc22g
set_option linter.unusedVariables false
set_option linter.unusedSimpArgs false
namespace Go.Proofs.YtdhbecdlablonaaV
open Go.RowKit
attribute [local simp] TK.agg constAV evalAV EK.has EK.hasAll vecEls elsR AV.toD toDs AV.cells AV.one joinD TyI.zeroD OpR.of binIntF binStrF AV.isPtr ptrNil slNil mpNil nilE eqF negF posF binF pelF pvLoad pelSet pvStore boxLoad epLoad loadF boxStore storeF fieldAddrF fieldF epOf indexAddrF byteF indexF mapLen lenF cutF sliceF sliceN sliceX isSl slice3F fillF fillV arrFs buildF partsX landV buildSliceF roomB appVec appendF appMkF capF mmFrom mmF max2' min2' clearVec clearF convF unF pickF nilChkF extF ptrsOf callF makeSliceF sameKs sameD kindIs plainFs keyOk mapOb mapEs okV lookF lookupF putE putS mapPut mapUpdateF mapDel deleteF mapAll rangeM rangeF overV hitV nextO nextF entryM entryO entryF itOids builtinF capsOf allocF boxF bytesL bytesF byteTy strTy convertF makeFuncF mapNew makeMapF makeMapH opF reach reachOf AObj.live closedB nodupB packO packL packX backN backG backO obL backE frzX frzO AV.vids frzL landC sameObs landR touchF bitsW D.cells D.decEq D.decEqs AV.decEq AV.decEqs AObj.decEq AV.oids0 AV.oids AObj.oids renG renP AV.ren0 AV.ren envGet envPut envKeep obGet setEff putV St.put stepS keyChk chkD accD Ex.block AV.under AObj.under laysOf roomFor mkvO frzG szOk killO usedBy tidyS canL canS ghost ghostE normSt resOf allSome one0 resultsF finL finishL finish endF startEnv chkC backX comeC AV.flat0 rngC loopO layL endLp busyL idleL noRng rndSt rndEnd wpn_nil wpn_seq wpn_loop wpn_seq_exit wpn_loop_exit wpn_seq_ret wpn_loop_ret wpn_block wpn_post wpk_skip wpk_exit wpk_ret wpk_reg wpk_seq wpk_condT wpk_block wpk_loop wpk_pre wpk_post wop_nil wop_cons wop_guard St.know envSet cond_d cond_bool cond_int cond_str endE endQ freeB disj pushT bitsW int_beq int_bne eqS_def tbE fuelL_eq ann0_lays ann0_dd ann0_ro elsOf_dsl elsOf_dnils toNat_succ nn_succ pos_succ one_succ rng1 rng2 rng3 rng4 rng5 rng6 rng7 rng8 List.idxOf_cons wpk_rng rndK rndE
abbrev mapSI (m : List (ByteArray × Int)) : List (D × D) := mapD strK (D.int .i64) m
theorem put_new {k : ByteArray} {v : Int} : ∀ {m : List Ctr}, (∀ p ∈ m, eqS p.1 k = false) → putP strK k v m = m ++ [(k, v)]
  | [], _ => rfl
  | (q, u) :: m, h => by
    have h0 := h (q, u) (by simp)
    have e : strK.eqb k q = eqS q k := eqS_comm k q
    have ih := put_new (v := v) (m := m) fun p hp => h p (List.mem_cons_of_mem _ hp)
    simp only [putP, e]
    simp only at h0
    rw [h0, ih]; rfl
theorem srt_new {l pre suf : List Ctr} {c : Ctr} (h : pre ++ c :: suf = l) (hs : srt l) : ∀ p ∈ pre, eqS p.1 c.1 = false := fun p hp => by
  rw [← h] at hs
  exact lessS_ne ((List.pairwise_append.1 hs).2.2 p hp c (by simp))
theorem smallL {l : List Ctr} (h : ∀ p ∈ l, -1125899906842624 ≤ p.2 ∧ p.2 ≤ 1125899906842624) {c : Ctr} (hc : c ∈ l) : IntKind.i64.wrap c.2 = c.2 := by
  have := h c hc
  exact wrap64 (by omega) (by omega)
set_option maxRecDepth 100000 in
set_option maxHeartbeats 2000000 in
theorem counts_run (s : Sm) (X : D) (hl : s.cs.length < 900) (hs : srt s.cs) (hX : elsOf (.d X) = some (csD s.cs)) (hb : ∀ p ∈ s.cs, -1125899906842624 ≤ p.2 ∧ p.2 ≤ 1125899906842624) : run CC 38 [.d (smD s X)] [] = some (.mp 0, [.map (mapSI s.cs)]) := by
  refine run_code (s := s38 0) rfl rfl rfl (by kernel_rfl) ?_
  obtain ⟨a1, a2, a3⟩ := slF hX
  simp only [AV.one, AV.cells, D.cells] at a1 a2 a3
  simp [s38, smD, eqCells, T3, T4, T5, T9, T22, T25, T26, T28, T29, T36, T41, T47, T69, T74, T78, T85, T90, T98, T104, CT, a1, a2, a3, hX]
  refine wlp_inv (S := fun p : List Ctr × List Ctr => ⟨[(3, .mp 1), (8, .d X), (9, .d (.int .i64 s.cs.length)), (10, .d (.int .i64 p.1.length))], [.dead, .map (mapSI p.1)]⟩) (m := fun p => p.2.length) (Inv := fun p => p.1 ++ p.2 = s.cs) ?_ ([], s.cs) rfl
  rintro ⟨pre, suf⟩ hps ih
  rw [e38_1]
  simp only at hps ⊢
  cases suf with
  | nil =>
    have hn := endL hps
    rw [List.append_nil] at hps
    rw [← hps]
    simp [c38_1, eqCells, T3, T4, T5, T9, T22, T25, T26, T28, T29, T36, T41, T47, T69, T74, T78, T85, T90, T98, T104, CT]
  | cons c suf =>
    obtain ⟨k1, k2, k3, k4, k5, k6⟩ := atL cE hps (by omega)
    have kg := getL k5 k4
    simp only [cE] at k3
    have hnew := srt_new hps hs
    have hc0 : cntC c.1 pre = 0 := cnt_none hnew
    have hlook := lookF_get strK (D.int .i64) c.1 pre 0
    rw [look_cnt, hc0] at hlook
    have hput := putE_put strK (D.int .i64) c.1 c.2 pre
    rw [put_new hnew] at hput
    have hw := smallL hb (List.mem_of_getElem? k5)
    have ih := ih (pre ++ [c], suf) (by simpa using hps) (by simp)
    simp at ih
    change lookF false (some (D.int .i64 0)) (findD (.str c.1) (mapSI pre) 0) = some (.d (.int .i64 0)) at hlook
    change putE (.str c.1) (.int .i64 c.2) (mapSI pre) (findD (.str c.1) (mapSI pre) 0) = some (mapSI (pre ++ [(c.1, c.2)])) at hput
    simp [c38_1, eqCells, T3, T4, T5, T9, T22, T25, T26, T28, T29, T36, T41, T47, T69, T74, T78, T85, T90, T98, T104, CT, hX, k2, k3, k4, k5, kg, cE, hlook, hput, hw, -putE, -lookF]
    exact ih
set_option maxRecDepth 100000 in
set_option maxHeartbeats 2000000 in
theorem bounds_run (s : Sm) (X : D) (hl : s.cs.length < 900) (hs : srt s.cs) (hX : elsOf (.d X) = some (csD s.cs)) (hb : ∀ p ∈ s.cs, -1125899906842624 ≤ p.2 ∧ p.2 ≤ 1125899906842624) (k : ByteArray) : run CC 23 [.d (smD s X), .d (.str k)] [] = some (.tup [.d (.int .i64 (cntC k s.cs)), .d (.int .i64 (IntKind.i64.wrap (cntC k s.cs + s.lost)))], []) := by
  refine run_code (s := s23 0) rfl rfl rfl (by kernel_rfl) ?_
  obtain ⟨a1, a2, a3⟩ := slF hX
  simp only [AV.one, AV.cells, D.cells] at a1 a2 a3
  have hc := counts_run s X hl hs hX hb
  have hlook := lookF_get strK (D.int .i64) k s.cs 0
  rw [look_cnt] at hlook
  change lookF false (some (D.int .i64 0)) (findD (.str k) (mapSI s.cs) 0) = some (.d (.int .i64 (cntC k s.cs))) at hlook
  simp only [smD] at hc
  simp [s23, smD, eqCells, T3, T4, T5, T9, T22, T25, T26, T28, T29, T36, T41, T47, T69, T74, T78, T85, T90, T98, T104, CT, a1, a2, a3, hX, hc, hlook, -putE, -lookF]
end Go.Proofs.YtdhbecdlablonaaV
