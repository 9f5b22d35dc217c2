/- Insertion sort of counters, whatever the comparison. -/
import Derived.Test.YtdhbecdlablonaaWc22b
set_option linter.unusedVariables false
set_option linter.unusedSimpArgs false
namespace Go.Proofs.YtdhbecdlablonaaV
open Go.RowKit
attribute [local simp] TK.agg constAV evalAV EK.has EK.hasAll vecEls elsR AV.toD toDs AV.cells AV.one joinD TyI.zeroD OpR.of binIntF binStrF AV.isPtr ptrNil slNil mpNil nilE eqF negF posF binF pelF pvLoad pelSet pvStore boxLoad epLoad loadF boxStore storeF fieldAddrF fieldF epOf indexAddrF byteF indexF mapLen lenF cutF sliceF sliceN sliceX isSl slice3F fillF fillV arrFs buildF partsX landV buildSliceF roomB appVec appendF appMkF capF mmFrom mmF max2' min2' clearVec clearF convF unF pickF nilChkF extF ptrsOf callF makeSliceF sameKs sameD kindIs plainFs keyOk mapOb mapEs okV lookF lookupF putE putS mapPut mapUpdateF mapDel deleteF mapAll rangeM rangeF overV hitV nextO nextF entryM entryO entryF itOids builtinF capsOf allocF boxF bytesL bytesF byteTy strTy convertF makeFuncF mapNew makeMapF makeMapH opF reach reachOf AObj.live closedB nodupB packO packL packX backN backG backO obL backE frzX frzO AV.vids frzL landC sameObs landR touchF bitsW D.cells D.decEq D.decEqs AV.decEq AV.decEqs AObj.decEq AV.oids0 AV.oids AObj.oids renG renP AV.ren0 AV.ren envGet envPut envKeep obGet setEff putV St.put stepS keyChk chkD accD Ex.block AV.under AObj.under laysOf roomFor mkvO frzG szOk killO usedBy tidyS canL canS ghost ghostE normSt resOf allSome one0 resultsF finL finishL finish endF startEnv chkC backX comeC AV.flat0 rngC loopO layL endLp busyL idleL noRng rndSt rndEnd wpn_nil wpn_seq wpn_loop wpn_seq_exit wpn_loop_exit wpn_seq_ret wpn_loop_ret wpn_block wpn_post wpk_skip wpk_exit wpk_ret wpk_reg wpk_seq wpk_condT wpk_block wpk_loop wpk_pre wpk_post wop_nil wop_cons wop_guard St.know envSet cond_d cond_bool cond_int cond_str endE endQ freeB disj pushT bitsW int_beq int_bne eqS_def tbE fuelL_eq ann0_lays ann0_dd ann0_ro elsOf_dsl elsOf_dnils toNat_succ nn_succ pos_succ one_succ rng1 rng2 rng3 rng4 rng5 rng6 rng7 rng8 List.idxOf_cons wpk_rng rndK rndE
/-- y into what is in order, told backward. -/
def insV {α : Type} (cmp : α → α → Int) (y : α) : List α → List α
  | [] => [y]
  | x :: r => if cmp y x < 0 then x :: insV cmp y r else y :: x :: r
def isortV {α : Type} (cmp : α → α → Int) : List α → List α → List α
  | r, [] => r.reverse
  | r, y :: suf => isortV cmp (insV cmp y r) suf
theorem insV_len {α : Type} (cmp : α → α → Int) (y : α) : ∀ r, (insV cmp y r).length = r.length + 1
  | [] => rfl
  | x :: r => by have := insV_len cmp y r; simp only [insV]; split <;> simp [this]
theorem isortV_len {α : Type} (cmp : α → α → Int) : ∀ (suf r : List α), (isortV cmp r suf).length = r.length + suf.length
  | [], r => by simp [isortV]
  | y :: suf, r => by have := isortV_len cmp suf (insV cmp y r); rw [insV_len] at this; simp only [isortV, this, List.length_cons]; omega
section
variable (g : Nat) (hgn : g ≠ 1000000007) (cmp : Ctr → Ctr → Int) (hg : ∀ a b, run CC g [.d (cE a), .d (cE b)] [] = some (.d (.int .i64 (cmp a b)), []))
include hgn hg
set_option maxRecDepth 100000 in
set_option maxHeartbeats 2000000 in
theorem loop69_2 (n i : Nat) (hn : n < 1000) (y : Ctr) (r post : List Ctr) (hL : r.length + 1 + post.length = n) (ks : List Fr) (K : Ex → St → Prop)
    (hnext : wpn CC .norm ⟨[(0, .vs 0 0 2 0 n), (1, .d (.int .i64 0)), (2, .d (.int .i64 n)), (3, .fn g [] []), (8, .d (.int .i64 i))], [.vec 0 false false 25 2 (csD ((insV cmp y r).reverse ++ post))]⟩ ks K) :
    wlp CC (s69_2 1) ⟨[(0, .vs 0 0 2 0 n), (1, .d (.int .i64 0)), (2, .d (.int .i64 n)), (3, .fn g [] []), (8, .d (.int .i64 i)), (9, .d (.int .i64 r.length))], [.vec 0 false false 25 2 (csD (r.reverse ++ y :: post))]⟩ (.block 2 :: .post (.tidy [0, 1, 2, 3, 8] 1 1) :: ks) K := by
  refine wlp_inv (S := fun p : List Ctr × List Ctr => ⟨[(0, .vs 0 0 2 0 n), (1, .d (.int .i64 0)), (2, .d (.int .i64 n)), (3, .fn g [] []), (8, .d (.int .i64 i)), (9, .d (.int .i64 p.1.length))], [.vec 0 false false 25 2 (csD (p.1.reverse ++ y :: p.2))]⟩) (m := fun p => p.1.length) (Inv := fun p => p.1.length + 1 + p.2.length = n ∧ (insV cmp y p.1).reverse ++ p.2 = (insV cmp y r).reverse ++ post) ?_ (r, post) ⟨hL, rfl⟩
  rintro ⟨r, post⟩ ⟨hl, hm⟩ ih
  rw [e69_2]
  simp only at hl hm ⊢
  rw [← hm] at hnext
  cases r with
  | nil =>
    simp [insV] at hnext
    simp [hgn, c69_2, eqCells, T3, T4, T5, T9, T22, T25, T26, T28, T29, T36, T41, T47, T69, T74, T78, T85, T90, T98, T104, CT]
    exact hnext
  | cons x r =>
    simp only [List.length_cons] at hl
    have ih := ih (r, x :: post)
    have w1 : IntKind.i64.wrap ((r.length : Int) + 1 - 1) = (r.length : Int) := by rw [Int.add_sub_cancel]; exact wrap64 (by omega) (by omega)
    have w2 : IntKind.i64.wrap (r.length : Int) = (r.length : Int) := wrap64 (by omega) (by omega)
    have g1 : (csD ((x :: r).reverse ++ y :: post))[r.length + 1]? = some (cE y) := by
      rw [List.getElem?_map, List.getElem?_append_right (by simp)]; simp
    have g2 : (csD ((x :: r).reverse ++ y :: post))[r.length]? = some (cE x) := by
      rw [List.getElem?_map, List.getElem?_append_left (by simp)]; simp
    have hset : ((csD ((x :: r).reverse ++ y :: post)).set (r.length + 1) (cE x)).set r.length (cE y) = csD (r.reverse ++ y :: x :: post) := by
      rw [← List.map_set, ← List.map_set]
      congr 1
      have e : (x :: r).reverse ++ y :: post = r.reverse ++ x :: y :: post := by simp
      rw [e, show r.length + 1 = r.reverse.length + 1 by simp, List.set_append_right _ _ (by omega)]
      simp
    have g3 : ((csD ((x :: r).reverse ++ y :: post)).set (r.length + 1) (cE x))[r.length]? = some (cE x) := by rw [List.getElem?_set_ne (by omega), g2]
    have hlen : (csD ((x :: r).reverse ++ y :: post)).length = n := by simp; omega
    have hcmp := hg y x
    have p1 : r.length + 1 < n := by omega
    have p2 : r.length < n := by omega
    have p3 : (r.length : Int) + 1 < n := by omega
    have p4 : (r.length : Int) < n := by omega
    generalize hE : csD ((x :: r).reverse ++ y :: post) = E at *
    simp only [cE] at g1 g2 g3 hcmp hset
    have gg1 : E[r.length + 1]'(by omega) = .agg [.str y.1, .int .i64 y.2] := (List.getElem?_eq_some_iff.1 g1).2
    have gg2 : E[r.length]'(by omega) = .agg [.str x.1, .int .i64 x.2] := (List.getElem?_eq_some_iff.1 g2).2
    by_cases hc : cmp y x < 0
    · have ih := ih ⟨by simp only [List.length_cons]; omega, by rw [← hm]; simp [insV, hc]⟩ (by simp)
      simp at ih
      simp [hgn, c69_2, eqCells, T3, T4, T5, T9, T22, T25, T26, T28, T29, T36, T41, T47, T69, T74, T78, T85, T90, T98, T104, CT, g1, g2, g3, gg1, gg2, w1, w2, hcmp, hc, hset, hlen, p1, p2, p3, p4]
      exact ih
    · have he : (insV cmp y (x :: r)).reverse ++ post = (x :: r).reverse ++ y :: post := by simp [insV, hc]
      rw [he, hE] at hnext
      simp [hgn, c69_2, eqCells, T3, T4, T5, T9, T22, T25, T26, T28, T29, T36, T41, T47, T69, T74, T78, T85, T90, T98, T104, CT, g1, g2, gg1, gg2, w1, w2, hcmp, hc, hlen, p1, p2, p3, p4]
      exact hnext
set_option maxRecDepth 100000 in
set_option maxHeartbeats 2000000 in
theorem ins69_run (L : List Ctr) (hn : L.length < 1000) : run CC 69 [.vs 0 0 2 0 L.length, .d (.int .i64 0), .d (.int .i64 L.length), .fn g [] []] [.vec 0 false false 25 2 (csD L)] = some (.tup [], [.vec 0 false false 25 2 (csD (isortV cmp [] L))]) := by
  refine run_code (s := s69 1) rfl rfl rfl (by kernel_rfl) ?_
  generalize hN : L.length = n at *
  have w0 : IntKind.i64.wrap (0 + 1) = 1 := rfl
  cases L with
  | nil =>
    simp at hN
    subst hN
    simp [hgn, s69, eqCells, T3, T4, T5, T9, T22, T25, T26, T28, T29, T36, T41, T47, T69, T74, T78, T85, T90, T98, T104, CT]
    refine wlp_inv (S := fun _ : Unit => ⟨[(0, .vs 0 0 2 0 0), (1, .d (.int .i64 0)), (2, .d (.int .i64 0)), (3, .fn g [] []), (8, .d (.int .i64 1))], [.vec 0 false false 25 2 []]⟩) (m := fun _ => 0) (Inv := fun _ => True) ?_ () trivial
    rintro _ - ih
    rw [e69_1]
    simp [hgn, c69_1, eqCells, T3, T4, T5, T9, T22, T25, T26, T28, T29, T36, T41, T47, T69, T74, T78, T85, T90, T98, T104, CT, isortV]
  | cons y0 L =>
    simp [hgn, s69, eqCells, T3, T4, T5, T9, T22, T25, T26, T28, T29, T36, T41, T47, T69, T74, T78, T85, T90, T98, T104, CT]
    refine wlp_inv (S := fun p : List Ctr × List Ctr => ⟨[(0, .vs 0 0 2 0 n), (1, .d (.int .i64 0)), (2, .d (.int .i64 n)), (3, .fn g [] []), (8, .d (.int .i64 p.1.length))], [.vec 0 false false 25 2 (csD (p.1.reverse ++ p.2))]⟩) (m := fun p => p.2.length) (Inv := fun p => p.1.length + p.2.length = n ∧ isortV cmp p.1 p.2 = isortV cmp [] (y0 :: L)) ?_ ([y0], L) ⟨by simp at hN; simp; omega, rfl⟩
    rintro ⟨r, suf⟩ ⟨hl, hm⟩ ih
    rw [e69_1]
    simp only at hl hm ⊢
    cases suf with
    | nil =>
      simp only [isortV] at hm
      have q1 : ¬ r.length < n := by simp at hl; omega
      have q2 : ¬ (r.length : Int) < n := by simp at hl; omega
      rw [List.append_nil, hm]
      simp [hgn, c69_1, eqCells, T3, T4, T5, T9, T22, T25, T26, T28, T29, T36, T41, T47, T69, T74, T78, T85, T90, T98, T104, CT, q1, q2]
      rfl
    | cons y suf =>
      simp only [List.length_cons] at hl
      have q1 : r.length < n := by omega
      have w1 : IntKind.i64.wrap ((r.length : Int) + 1) = (r.length : Int) + 1 := wrap64 (by omega) (by omega)
      have hil := insV_len cmp y r
      have ih := ih (insV cmp y r, suf) ⟨by simp only [hil]; omega, by simpa [isortV] using hm⟩ (by simp)
      simp [hil] at ih
      have hin := loop69_2 g hgn cmp hg n r.length (by omega) y r suf (by omega)
      simp at hin
      simp [hgn, c69_1, eqCells, T3, T4, T5, T9, T22, T25, T26, T28, T29, T36, T41, T47, T69, T74, T78, T85, T90, T98, T104, CT, q1]
      refine hin _ _ ?_
      simp [hgn, eqCells, T3, T4, T5, T9, T22, T25, T26, T28, T29, T36, T41, T47, T69, T74, T78, T85, T90, T98, T104, CT, w1]
      exact ih
end
end Go.Proofs.YtdhbecdlablonaaV
