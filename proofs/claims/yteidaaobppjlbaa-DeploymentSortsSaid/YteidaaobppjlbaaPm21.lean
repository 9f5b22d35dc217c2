/- Collect over Values; the comparison of Normal. -/
import Derived.Test.YteidaaobppjlbaaPm20
set_option linter.unusedVariables false
set_option linter.unusedSimpArgs false
namespace Go.Proofs.YteidaaobppjlbaaV.Pd
open Go.RowKit
attribute [local simp] TK.agg constAV evalAV EK.has EK.hasAll vecEls elsR AV.toD toDs AV.cells AV.one joinD TyI.zeroD OpR.of binIntF binStrF AV.isPtr ptrNil slNil mpNil nilE eqF negF posF binF pelF pvLoad pelSet pvStore boxLoad epLoad loadF boxStore storeF fieldAddrF fieldF epOf indexAddrF byteF indexF mapLen lenF cutF sliceF sliceN sliceX isSl slice3F fillF arrFs buildF partsX landV buildSliceF roomB appVec appendF appMkF capF mmFrom mmF max2' min2' clearVec clearF convF unF pickF nilChkF extF ptrsOf callF makeSliceF sameKs sameD kindIs plainFs keyOk mapOb mapEs okV lookF lookupF putE putS mapPut mapUpdateF mapDel deleteF mapAll rangeM rangeF overV hitV nextO nextF entryM entryO entryF itOids builtinF capsOf allocF boxF bytesL bytesF byteTy strTy convertF makeFuncF makeMapF makeMapH opF reach reachOf AObj.live closedB nodupB packO packL packX backN backG backO obL backE frzX frzO AV.vids frzL landC sameObs landR touchF bitsW D.cells D.decEq D.decEqs AV.decEq AV.decEqs AObj.decEq AV.oids0 AV.oids AObj.oids renG renP AV.ren0 AV.ren envGet envPut envKeep obGet setEff putV St.put stepS keyChk chkD accD Ex.block AV.under AObj.under laysOf roomFor mkvO frzG szOk killO usedBy tidyS ghost ghostE normSt resOf allSome one0 resultsF finL finishL finish endF startEnv chkC backX comeC AV.flat0 rngC loopO layL endLp busyL idleL noRng rndSt rndEnd wpn_nil wpn_seq wpn_loop wpn_seq_exit wpn_loop_exit wpn_seq_ret wpn_loop_ret wpn_block wpn_post wpk_skip wpk_exit wpk_ret wpk_reg wpk_seq wpk_condT wpk_block wpk_loop wpk_pre wpk_post wop_nil wop_cons wop_guard St.know envSet cond_d cond_bool cond_int cond_str endE endQ freeB disj pushT bitsW int_beq int_bne eqS_def tbE fuelL_eq ann0_lays ann0_dd ann0_ro elsOf_dsl elsOf_dnils toNat_succ nn_succ pos_succ one_succ rng1 rng2 rng3 rng4 rng5 rng6 rng7 rng8 List.idxOf_cons wpk_rng rndK rndE
def cos (o : List Chg) (mv : Bool) : List AObj := [.loop 6080 0 [2] [.ptr 1 0], .box [.vs 2 0 6 0 o.length], .vec 0 mv false 26 6 (o.map Chg.enc)]
set_option maxRecDepth 100000 in
set_option maxHeartbeats 1000000 in
theorem round79_run (o : List Chg) (p : Chg) (hl : o.length < 1000000) :
    run CC 1000000007 [.yl 0, .d (.agg [.int .i64 p.id, .int .i64 p.kind, .int .i64 p.slot, .str p.svc, .str p.tgt, .str p.ver])] (cos o false) = some (.d (.bool true), cos (o ++ [p]) true) := by
  refine run_round (o := 0) (l := l95_0) (st := ⟨[(7, .d (.agg [.int .i64 p.id, .int .i64 p.kind, .int .i64 p.slot, .str p.svc, .str p.tgt, .str p.ver])), (2, .ptr 1 0)], cos o false⟩) (by simp [rndSt, cos, eqCells, CL, LT, LL, getLp, l95_0, noRng, tidyB, Gh.keeps]) ?_
  have htk : (o.map Chg.enc).take o.length = o.map Chg.enc := takeM _ _
  have r1 : (o.length + 1) * 72 ≤ 140737488355328 := by omega
  have r2 : o.length + 1 ≤ 9223372036854775807 := by omega
  have hz : szAll 6 [D.agg [.int .i64 p.id, .int .i64 p.kind, .int .i64 p.slot, .str p.svc, .str p.tgt, .str p.ver]] = true := rfl
  have hm : (o ++ [p]).map Chg.enc = o.map Chg.enc ++ [.agg [.int .i64 p.id, .int .i64 p.kind, .int .i64 p.slot, .str p.svc, .str p.tgt, .str p.ver]] := by simp [Chg.enc]
  have hml : (o.map Chg.enc).length = o.length := by simp
  simp only [cos, hm, List.length_append, List.length_cons, List.length_nil, Nat.zero_add]
  generalize o.map Chg.enc = E at *
  simp [l95_0, eqCells, T2, T3, T4, T5, T6, T8, T9, T22, T26, T27, T30, T32, T37, T39, T54, T66, T73, T99, T110, T116, T135, T141, T148, T150, T157, CT, htk, r1, r2, hz]
set_option maxRecDepth 100000 in
set_option maxHeartbeats 4000000 in
theorem vals73_run (A : D) (l : List Chg) (hl : l.length < 100000) (hA : elsOf (.d A) = some (l.map Chg.enc)) :
    run CC 80 [.yl 0, .ptr 3 0] (cos [] false ++ [.box [.d A]]) = some (.tup [], cos l (!l.isEmpty) ++ [.box [.d A]]) := by
  refine run_code (s := s80 4) rfl rfl rfl (by kernel_rfl) ?_
  simp [s80, eqCells, T2, T3, T4, T5, T6, T8, T9, T22, T26, T27, T30, T32, T37, T39, T54, T66, T73, T99, T110, T116, T135, T141, T148, T150, T157, CT, cos, hA]
  refine wlp_inv (S := fun p : (List Chg × List Chg) => ⟨[(0, .yl 0), (5, .d A), (6, .d (.int .i64 l.length)), (7, .d (.int .i64 p.1.length))], cos p.1 (!p.1.isEmpty) ++ [.box [.d A]]⟩) (m := fun p => p.2.length) (Inv := fun p => p.1 ++ p.2 = l) ?_ ([], l) rfl
  rintro ⟨a, b⟩ hab ih
  rw [e80_1]
  simp only at hab ⊢
  cases b with
  | nil =>
    simp only [List.append_nil] at hab
    subst hab
    generalize hE : a.map Chg.enc = E at *
    simp [c80_1, eqCells, T2, T3, T4, T5, T6, T8, T9, T22, T26, T27, T30, T32, T37, T39, T54, T66, T73, T99, T110, T116, T135, T141, T148, T150, T157, CT, cos, hA, hE]
  | cons x b =>
    have hlen : l.length = a.length + (b.length + 1) := by rw [← hab]; simp
    have h1 : a.length < l.length := by omega
    have h1' : (a.length : Int) < (l.length : Int) := by omega
    have hx : l[a.length]? = some x := by rw [← hab]; simp
    obtain ⟨k1, k2, k3⟩ := atN Chg.enc hx (by omega)
    have kg := getL hx k1
    have w1 : IntKind.i64.wrap ((a.length : Int) + 1) = (a.length : Int) + 1 := wrap64 (by omega) (by omega)
    have hr := round79_run a x (by omega)
    have ih := ih (a ++ [x], b) (by simpa using hab) (by simp)
    have he : (a ++ [x]).isEmpty = false := by simp
    simp only [he, Bool.not_false] at ih
    clear hab hlen
    simp only [Chg.enc] at k3
    have hm : (a ++ [x]).map Chg.enc = a.map Chg.enc ++ [.agg [.int .i64 x.id, .int .i64 x.kind, .int .i64 x.slot, .str x.svc, .str x.tgt, .str x.ver]] := by simp [Chg.enc]
    have htk : (a.map Chg.enc).take a.length = a.map Chg.enc := takeM _ _
    have hml : (a.map Chg.enc).length = a.length := by simp
    simp only [cos, hm, List.length_append, List.length_cons, List.length_nil, Nat.zero_add] at hr ih ⊢
    generalize a.isEmpty = ae at *
    generalize a.map Chg.enc = E at *
    generalize a.length = k at *
    simp at ih
    cases ae
    all_goals
      simp [c80_1, eqCells, T2, T3, T4, T5, T6, T8, T9, T22, T26, T27, T30, T32, T37, T39, T54, T66, T73, T99, T110, T116, T135, T141, T148, T150, T157, CT, hA, h1, h1', k1, k2, k3, kg, hx, Chg.enc, hr, w1]
      exact ih
end Go.Proofs.YteidaaobppjlbaaV.Pd
