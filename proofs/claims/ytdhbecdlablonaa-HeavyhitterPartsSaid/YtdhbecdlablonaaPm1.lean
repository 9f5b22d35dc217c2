/- The ints' sort, walked to the plain layer: reads and writes; order2, median, choosePivot. -/
import Derived.Test.YtdhbecdlablonaaWc22a
import Derived.Sort.Defs
set_option linter.unusedVariables false
set_option linter.unusedSimpArgs false
namespace Go.Proofs.YtdhbecdlablonaaV.Pd
open Go.RowKit
attribute [local simp] TK.agg constAV evalAV EK.has EK.hasAll vecEls elsR AV.toD toDs AV.cells AV.one joinD TyI.zeroD OpR.of binIntF binStrF AV.isPtr ptrNil slNil mpNil nilE eqF negF posF binF pelF pvLoad pelSet pvStore boxLoad epLoad loadF boxStore storeF fieldAddrF fieldF epOf indexAddrF byteF indexF mapLen lenF cutF sliceF sliceN sliceX isSl slice3F fillF fillV arrFs buildF partsX landV buildSliceF roomB appVec appendF appMkF capF mmFrom mmF max2' min2' clearVec clearF convF unF pickF nilChkF extF ptrsOf callF makeSliceF sameKs sameD kindIs plainFs keyOk mapOb mapEs okV lookF lookupF putE putS mapPut mapUpdateF mapDel deleteF mapAll rangeM rangeF overV hitV nextO nextF entryM entryO entryF itOids builtinF capsOf allocF boxF bytesL bytesF byteTy strTy convertF makeFuncF mapNew makeMapF makeMapH opF reach reachOf AObj.live closedB nodupB packO packL packX backN backG backO obL backE frzX frzO AV.vids frzL landC sameObs landR touchF bitsW D.cells D.decEq D.decEqs AV.decEq AV.decEqs AObj.decEq AV.oids0 AV.oids AObj.oids renG renP AV.ren0 AV.ren envGet envPut envKeep obGet setEff putV St.put stepS keyChk chkD accD Ex.block AV.under AObj.under laysOf roomFor mkvO frzG szOk killO usedBy tidyS canL canS ghost ghostE normSt resOf allSome one0 resultsF finL finishL finish endF startEnv chkC backX comeC AV.flat0 rngC loopO layL endLp busyL idleL noRng rndSt rndEnd wpn_nil wpn_seq wpn_loop wpn_seq_exit wpn_loop_exit wpn_seq_ret wpn_loop_ret wpn_block wpn_post wpk_skip wpk_exit wpk_ret wpk_reg wpk_seq wpk_condT wpk_block wpk_loop wpk_pre wpk_post wop_nil wop_cons wop_guard St.know envSet cond_d cond_bool cond_int cond_str endE endQ freeB disj pushT bitsW int_beq int_bne eqS_def tbE fuelL_eq ann0_lays ann0_dd ann0_ro elsOf_dsl elsOf_dnils toNat_succ nn_succ pos_succ one_succ rng1 rng2 rng3 rng4 rng5 rng6 rng7 rng8 List.idxOf_cons wpk_rng rndK rndE
def zD (x : Int) : D := .int .i64 x
abbrev eD (d : Array Int) : List D := d.toList.map zD
theorem eD_len (d : Array Int) : (eD d).length = d.size := by simp
theorem eD_get {d : Array Int} {i : Nat} (h : i < d.size) : (eD d)[i]? = some (.int .i64 d[i]!) := by
  rw [List.getElem?_map, Array.getElem?_toList, Array.getElem?_eq_getElem h]
  simp [h, zD]
theorem eD_at {d : Array Int} {i : Nat} (h : i < d.size) (h' : i < (eD d).length) : (eD d)[i] = .int .i64 d[i]! := (List.getElem?_eq_some_iff.1 (eD_get h)).2
def ltC (cmp : Int → Int → Int) (x y : Int) : Bool := decide (cmp x y < 0)
abbrev vI (d : Array Int) : AObj := .vec 0 false false 3 1 (eD d)
section
variable (g : Nat) (hne : g ≠ 1000000007) (cmp : Int → Int → Int) (hg : ∀ a b : Int, run CC g [.d (.int .i64 a), .d (.int .i64 b)] [] = some (.d (.int .i64 (cmp a b)), []))
include hne hg
set_option maxRecDepth 100000 in
set_option maxHeartbeats 2000000 in
theorem order2_run (d : Array Int) (n a b sw : Nat) (hn : d.size = n) (hn2 : n < 1000) (ha : a < n) (hb : b < n) (hsw : sw < 1000) :
    run CC 85 [.vs 0 0 1 0 n, .d (.int .i64 a), .d (.int .i64 b), .ptr 1 0, .fn g [] []] [vI d, .box [.d (.int .i64 sw)]] = some (.tup [.d (.int .i64 (Go.Sort.order2 (ltC cmp) d a b sw).1), .d (.int .i64 (Go.Sort.order2 (ltC cmp) d a b sw).2.1)], [vI d, .box [.d (.int .i64 (Go.Sort.order2 (ltC cmp) d a b sw).2.2)]]) := by
  refine run_code (s := s85 2) rfl rfl rfl (by kernel_rfl) ?_
  have ga := eD_get (d := d) (i := a) (by omega)
  have gb := eD_get (d := d) (i := b) (by omega)
  have la : a < (eD d).length := by rw [eD_len]; omega
  have lb : b < (eD d).length := by rw [eD_len]; omega
  have ta := eD_at (d := d) (i := a) (by omega) la
  have tb := eD_at (d := d) (i := b) (by omega) lb
  have hl := eD_len d
  have hc := hg d[b]! d[a]!
  have wsw : IntKind.i64.wrap ((sw : Int) + 1) = (sw : Int) + 1 := wrap64 (by omega) (by omega)
  have pa : (a : Int) < n := by omega
  have pb : (b : Int) < n := by omega
  unfold Go.Sort.order2 ltC
  generalize d[a]! = x at *
  generalize d[b]! = y at *
  generalize hE : eD d = E at *
  by_cases h : cmp y x < 0
  · simp [s85, eqCells, T3, T4, T5, T9, T22, T25, T26, T28, T29, T36, T41, T47, T69, T74, T78, T85, T90, T98, T104, CT, hne, ga, gb, ta, tb, la, lb, hl, hn, ha, hb, pa, pb, hc, h, wsw, hE]
  · simp [s85, eqCells, T3, T4, T5, T9, T22, T25, T26, T28, T29, T36, T41, T47, T69, T74, T78, T85, T90, T98, T104, CT, hne, ga, gb, ta, tb, la, lb, hl, hn, ha, hb, pa, pb, hc, h, wsw, hE]
end
end Go.Proofs.YtdhbecdlablonaaV.Pd
