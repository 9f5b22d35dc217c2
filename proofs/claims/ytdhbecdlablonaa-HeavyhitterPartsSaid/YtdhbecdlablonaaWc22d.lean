/- add: the model's. -/
import Derived.Test.YtdhbecdlablonaaWc22c
set_option linter.unusedVariables false
set_option linter.unusedSimpArgs false
namespace Go.Proofs.YtdhbecdlablonaaV
open Go.RowKit
attribute [local simp] TK.agg constAV evalAV EK.has EK.hasAll vecEls elsR AV.toD toDs AV.cells AV.one joinD TyI.zeroD OpR.of binIntF binStrF AV.isPtr ptrNil slNil mpNil nilE eqF negF posF binF pelF pvLoad pelSet pvStore boxLoad epLoad loadF boxStore storeF fieldAddrF fieldF epOf indexAddrF byteF indexF mapLen lenF cutF sliceF sliceN sliceX isSl slice3F fillF fillV arrFs buildF partsX landV buildSliceF roomB appVec appendF appMkF capF mmFrom mmF max2' min2' clearVec clearF convF unF pickF nilChkF extF ptrsOf callF makeSliceF sameKs sameD kindIs plainFs keyOk mapOb mapEs okV lookF lookupF putE putS mapPut mapUpdateF mapDel deleteF mapAll rangeM rangeF overV hitV nextO nextF entryM entryO entryF itOids builtinF capsOf allocF boxF bytesL bytesF byteTy strTy convertF makeFuncF mapNew makeMapF makeMapH opF reach reachOf AObj.live closedB nodupB packO packL packX backN backG backO obL backE frzX frzO AV.vids frzL landC sameObs landR touchF bitsW D.cells D.decEq D.decEqs AV.decEq AV.decEqs AObj.decEq AV.oids0 AV.oids AObj.oids renG renP AV.ren0 AV.ren envGet envPut envKeep obGet setEff putV St.put stepS keyChk chkD accD Ex.block AV.under AObj.under laysOf roomFor mkvO frzG szOk killO usedBy tidyS canL canS ghost ghostE normSt resOf allSome one0 resultsF finL finishL finish endF startEnv chkC backX comeC AV.flat0 rngC loopO layL endLp busyL idleL noRng rndSt rndEnd wpn_nil wpn_seq wpn_loop wpn_seq_exit wpn_loop_exit wpn_seq_ret wpn_loop_ret wpn_block wpn_post wpk_skip wpk_exit wpk_ret wpk_reg wpk_seq wpk_condT wpk_block wpk_loop wpk_pre wpk_post wop_nil wop_cons wop_guard St.know envSet cond_d cond_bool cond_int cond_str endE endQ freeB disj pushT bitsW int_beq int_bne eqS_def tbE fuelL_eq ann0_lays ann0_dd ann0_ro elsOf_dsl elsOf_dnils toNat_succ nn_succ pos_succ one_succ rng1 rng2 rng3 rng4 rng5 rng6 rng7 rng8 List.idxOf_cons wpk_rng rndK rndE
def minC (d : Int) : List Ctr → Int
  | [] => d
  | p :: l => minC (if p.2 < d then p.2 else d) l
def Sm.up (s : Sm) (k : ByteArray) (w : Int) : Prop := 0 < cntC k s.cs ∨ (s.cs.length : Int) < s.most
instance (s : Sm) (k : ByteArray) (w : Int) : Decidable (s.up k w) := inferInstanceAs (Decidable (_ ∨ _))
def addS (s : Sm) (k : ByteArray) (w : Int) : Sm :=
  if s.up k w then ⟨s.most, IntKind.i64.wrap (s.tot + w), s.lost, putC k w s.cs⟩
  else ⟨s.most, IntKind.i64.wrap (s.tot + w), IntKind.i64.wrap (s.lost + minC w s.cs), if minC w s.cs < w then putC k (IntKind.i64.wrap (w - minC w s.cs)) (lessC (minC w s.cs) s.cs) else lessC (minC w s.cs) s.cs⟩
set_option maxRecDepth 100000 in
set_option maxHeartbeats 1000000 in
theorem loop17_1 (s : Sm) (X : D) (hl : s.cs.length < 900) (hX : elsOf (.d X) = some (csD s.cs)) (k : ByteArray) (w : Int) (O : List AObj) (ho : O = [.box [.d (.int .i64 s.most), .d (.int .i64 (IntKind.i64.wrap (s.tot + w))), .d (.int .i64 s.lost), .d X], .box [.d (.int .i64 0), .d (.int .i64 0), .d (.int .i64 0), .d .nils]]) (ks : List Fr) (K : Ex → St → Prop)
    (hnext : wpn CC .norm ⟨[(1, .d (.str k)), (2, .d (.int .i64 w)), (3, .ptr 0 0), (6, .ptr 1 0), (7, .d (.int .i64 (minC w s.cs)))], O⟩ ks K) :
    wlp CC (s17_1 0) ⟨[(1, .d (.str k)), (2, .d (.int .i64 w)), (3, .ptr 0 0), (6, .ptr 1 0), (7, .d (.int .i64 w)), (8, .d (.int .i64 0))], O⟩ (.block 0 :: .post (.tidy [1, 2, 3, 6, 7] 0 2) :: .post (.tidy [1, 2, 3, 6, 7] 0 2) :: ks) K := by
  refine wlp_inv (S := fun p : List Ctr × List Ctr × Int => ⟨[(1, .d (.str k)), (2, .d (.int .i64 w)), (3, .ptr 0 0), (6, .ptr 1 0), (7, .d (.int .i64 p.2.2)), (8, .d (.int .i64 p.1.length))], O⟩) (m := fun p => p.2.1.length) (Inv := fun p => p.1 ++ p.2.1 = s.cs ∧ minC p.2.2 p.2.1 = minC w s.cs) ?_ ([], s.cs, w) ⟨rfl, rfl⟩
  rintro ⟨pre, suf, d⟩ ⟨hp, hm⟩ ih
  rw [e17_1]
  simp only at hp hm ⊢
  obtain ⟨a1, a2, a3⟩ := slF hX
  simp only [AV.one, AV.cells, D.cells] at a1 a2 a3
  subst ho
  cases suf with
  | nil =>
    have hn := endL hp
    simp only [minC] at hm
    subst hm
    simp [c17_1, eqCells, T3, T4, T5, T9, T22, T25, T26, T28, T29, T36, T41, T47, T69, T74, T78, T85, T90, T98, T104, CT, a1, a2, a3, hX, hn]
    exact hnext
  | cons c suf =>
    obtain ⟨k1, k2, k3, k4, k5, k6⟩ := atL cE hp (by omega)
    have kg := getL k5 k4
    simp only [cE] at k3
    simp only [minC] at hm
    have ih := ih (pre ++ [c], suf, if c.2 < d then c.2 else d) ⟨by simpa using hp, hm⟩ (by simp)
    simp at ih
    simp [c17_1, eqCells, T3, T4, T5, T9, T22, T25, T26, T28, T29, T36, T41, T47, T69, T74, T78, T85, T90, T98, T104, CT, a1, a2, a3, hX, k2, k3, k4, k5, kg, cE]
    exact ih
set_option maxRecDepth 100000 in
set_option maxHeartbeats 2000000 in
theorem add_run (s : Sm) (X : D) (hl : s.cs.length < 900) (hX : elsOf (.d X) = some (csD s.cs)) (k : ByteArray) (w : Int) : run CC 17 [.d (smD s X), .d (.str k), .d (.int .i64 w)] [] = some (.d (smD (addS s k w) (.sl (csD (addS s k w).cs))), []) := by
  refine run_code (s := s17 0) rfl rfl rfl (by kernel_rfl) ?_
  obtain ⟨a1, a2, a3⟩ := slF hX
  simp only [AV.one, AV.cells, D.cells] at a1 a2 a3
  have hc := count_run X s.cs (by omega) hX k
  have hp := put_run X s.cs (by omega) hX k w
  have hd := less_run X s.cs (by omega) hX (minC w s.cs)
  have hle := lessC_len (minC w s.cs) s.cs
  have hp2 := put_run (.sl (csD (lessC (minC w s.cs) s.cs))) (lessC (minC w s.cs) s.cs) (by omega) rfl k (IntKind.i64.wrap (w - minC w s.cs))
  unfold addS
  by_cases hu : s.up k w
  · rw [if_pos hu]
    unfold Sm.up at hu
    by_cases h1 : 0 < cntC k s.cs
    · simp [s17, smD, eqCells, T3, T4, T5, T9, T22, T25, T26, T28, T29, T36, T41, T47, T69, T74, T78, T85, T90, T98, T104, CT, a1, a2, a3, hX, hc, hp, h1]
    · have h2 := hu.resolve_left h1
      simp [s17, smD, eqCells, T3, T4, T5, T9, T22, T25, T26, T28, T29, T36, T41, T47, T69, T74, T78, T85, T90, T98, T104, CT, a1, a2, a3, hX, hc, hp, h1, h2]
  · rw [if_neg hu]
    unfold Sm.up at hu
    have h1 : ¬ 0 < cntC k s.cs := fun h => hu (.inl h)
    have h2 : ¬ (s.cs.length : Int) < s.most := fun h => hu (.inr h)
    simp [s17, smD, eqCells, T3, T4, T5, T9, T22, T25, T26, T28, T29, T36, T41, T47, T69, T74, T78, T85, T90, T98, T104, CT, a1, a2, a3, hX, hc, hp, h1, h2]
    refine loop17_1 s X hl hX k w _ rfl _ _ ?_
    by_cases h3 : minC w s.cs < w
    · simp [eqCells, T3, T4, T5, T9, T22, T25, T26, T28, T29, T36, T41, T47, T69, T74, T78, T85, T90, T98, T104, CT, a1, a2, a3, hX, hd, hp2, h3]
    · simp [eqCells, T3, T4, T5, T9, T22, T25, T26, T28, T29, T36, T41, T47, T69, T74, T78, T85, T90, T98, T104, CT, a1, a2, a3, hX, hd, hp2, h3]
end Go.Proofs.YtdhbecdlablonaaV
