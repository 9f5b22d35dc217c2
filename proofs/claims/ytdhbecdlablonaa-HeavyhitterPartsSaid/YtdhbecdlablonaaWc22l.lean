/- SortFunc of at most 12 counters; counters of a map. -/
import Derived.Test.YtdhbecdlablonaaWc22k
import Derived.Test.YtdhbecdlablonaaWc22h
set_option linter.unusedVariables false
set_option linter.unusedSimpArgs false
namespace Go.Proofs.YtdhbecdlablonaaV
open Go.RowKit
attribute [local simp] TK.agg constAV evalAV EK.has EK.hasAll vecEls elsR AV.toD toDs AV.cells AV.one joinD TyI.zeroD OpR.of binIntF binStrF AV.isPtr ptrNil slNil mpNil nilE eqF negF posF binF pelF pvLoad pelSet pvStore boxLoad epLoad loadF boxStore storeF fieldAddrF fieldF epOf indexAddrF byteF indexF mapLen lenF cutF sliceF sliceN sliceX isSl slice3F fillF fillV arrFs buildF partsX landV buildSliceF roomB appVec appendF appMkF capF mmFrom mmF max2' min2' clearVec clearF convF unF pickF nilChkF extF ptrsOf callF makeSliceF sameKs sameD kindIs plainFs keyOk mapOb mapEs okV lookF lookupF putE putS mapPut mapUpdateF mapDel deleteF mapAll rangeM rangeF overV hitV nextO nextF entryM entryO entryF itOids builtinF capsOf allocF boxF bytesL bytesF byteTy strTy convertF makeFuncF mapNew makeMapF makeMapH opF reach reachOf AObj.live closedB nodupB packO packL packX backN backG backO obL backE frzX frzO AV.vids frzL landC sameObs landR touchF bitsW D.cells D.decEq D.decEqs AV.decEq AV.decEqs AObj.decEq AV.oids0 AV.oids AObj.oids renG renP AV.ren0 AV.ren envGet envPut envKeep obGet setEff putV St.put stepS keyChk chkD accD Ex.block AV.under AObj.under laysOf roomFor mkvO frzG szOk killO usedBy tidyS canL canS ghost ghostE normSt resOf allSome one0 resultsF finL finishL finish endF startEnv chkC backX comeC AV.flat0 rngC loopO layL endLp busyL idleL noRng rndSt rndEnd wpn_nil wpn_seq wpn_loop wpn_seq_exit wpn_loop_exit wpn_seq_ret wpn_loop_ret wpn_block wpn_post wpk_skip wpk_exit wpk_ret wpk_reg wpk_seq wpk_condT wpk_block wpk_loop wpk_pre wpk_post wop_nil wop_cons wop_guard St.know envSet cond_d cond_bool cond_int cond_str endE endQ freeB disj pushT bitsW int_beq int_bne eqS_def tbE fuelL_eq ann0_lays ann0_dd ann0_ro elsOf_dsl elsOf_dnils toNat_succ nn_succ pos_succ one_succ rng1 rng2 rng3 rng4 rng5 rng6 rng7 rng8 List.idxOf_cons wpk_rng rndK rndE
theorem bits_run : ∀ n : Nat, n < 17 → ∃ v : Int, run CC 53 [.d (.int .u64 n)] [] = some (.d (.int .i64 v), [])
  | 0, _ => ⟨0, run_of_go 60 (by kernel_rfl)⟩
  | 1, _ => ⟨1, run_of_go 60 (by kernel_rfl)⟩
  | 2, _ => ⟨2, run_of_go 60 (by kernel_rfl)⟩
  | 3, _ => ⟨2, run_of_go 60 (by kernel_rfl)⟩
  | 4, _ => ⟨3, run_of_go 60 (by kernel_rfl)⟩
  | 5, _ => ⟨3, run_of_go 60 (by kernel_rfl)⟩
  | 6, _ => ⟨3, run_of_go 60 (by kernel_rfl)⟩
  | 7, _ => ⟨3, run_of_go 60 (by kernel_rfl)⟩
  | 8, _ => ⟨4, run_of_go 60 (by kernel_rfl)⟩
  | 9, _ => ⟨4, run_of_go 60 (by kernel_rfl)⟩
  | 10, _ => ⟨4, run_of_go 60 (by kernel_rfl)⟩
  | 11, _ => ⟨4, run_of_go 60 (by kernel_rfl)⟩
  | 12, _ => ⟨4, run_of_go 60 (by kernel_rfl)⟩
  | 13, _ => ⟨4, run_of_go 60 (by kernel_rfl)⟩
  | 14, _ => ⟨4, run_of_go 60 (by kernel_rfl)⟩
  | 15, _ => ⟨4, run_of_go 60 (by kernel_rfl)⟩
  | 16, _ => ⟨5, run_of_go 60 (by kernel_rfl)⟩
  | n + 17, h => by omega
section
variable (g : Nat) (hgn : g ≠ 1000000007) (cmp : Ctr → Ctr → Int) (hg : ∀ a b, run CC g [.d (cE a), .d (cE b)] [] = some (.d (.int .i64 (cmp a b)), []))
include hgn hg
set_option maxRecDepth 100000 in
set_option maxHeartbeats 2000000 in
theorem pdq57_small (L : List Ctr) (hn : L.length ≤ 12) (lim : Int) : run CC 57 [.vs 0 0 2 0 L.length, .d (.int .i64 0), .d (.int .i64 L.length), .d (.int .i64 lim), .fn g [] []] [.vec 0 false false 25 2 (csD L)] = some (.tup [], [.vec 0 false false 25 2 (csD (isortV cmp [] L))]) := by
  refine run_code (s := s57 1) rfl rfl rfl (by kernel_rfl) ?_
  have hi := ins69_run g hgn cmp hg L (by omega)
  have hle : (L.length : Int) ≤ 12 := by omega
  have w1 : IntKind.i64.wrap (L.length : Int) = (L.length : Int) := wrap64 (by omega) (by omega)
  generalize L.length = n at *
  simp [hgn, s57, eqCells, T3, T4, T5, T9, T22, T25, T26, T28, T29, T36, T41, T47, T69, T74, T78, T85, T90, T98, T104, CT]
  refine wlp_inv (S := fun _ : Unit => ⟨[(0, .vs 0 0 2 0 n), (1, .d (.int .i64 0)), (2, .d (.int .i64 n)), (3, .d (.int .i64 lim)), (4, .fn g [] []), (10, .d (.bool true)), (11, .d (.bool true))], [.vec 0 false false 25 2 (csD L)]⟩) (m := fun _ => 0) (Inv := fun _ => True) ?_ () trivial
  rintro _ - ih
  rw [e57_1]
  simp [hgn, c57_1, eqCells, T3, T4, T5, T9, T22, T25, T26, T28, T29, T36, T41, T47, T69, T74, T78, T85, T90, T98, T104, CT, w1, hle, hi]
set_option maxRecDepth 100000 in
set_option maxHeartbeats 2000000 in
theorem sort49_run (L : List Ctr) (hn : L.length ≤ 12) : run CC 49 [.vs 0 0 2 0 L.length, .fn g [] []] [.vec 0 false false 25 2 (csD L)] = some (.tup [], [.vec 0 false false 25 2 (csD (isortV cmp [] L))]) := by
  refine run_code (s := s49 1) rfl rfl rfl (by kernel_rfl) ?_
  obtain ⟨v, hv⟩ := bits_run L.length (by omega)
  have hp := pdq57_small g hgn cmp hg L hn v
  have w1 : IntKind.u64.wrap (L.length : Int) = (L.length : Int) := by
    simp [IntKind.wrap, IntKind.bits, IntKind.signed]; omega
  have w2 : IntKind.i64.wrap (L.length : Int) = (L.length : Int) := wrap64 (by omega) (by omega)
  simp [hgn, s49, eqCells, T3, T4, T5, T9, T22, T25, T26, T28, T29, T36, T41, T47, T69, T74, T78, T85, T90, T98, T104, CT, w1, w2, hv, hp]
end
theorem cmp50_run (a b : Ctr) : run CC 50 [.d (cE a), .d (cE b)] [] = some (.d (.int .i64 (cmpS a.1 b.1)), []) := by
  refine run_code (s := s50 0) rfl rfl rfl (by kernel_rfl) ?_
  have hc := cmpS_run a.1 b.1
  simp [s50, cE, eqCells, T3, T4, T5, T9, T22, T25, T26, T28, T29, T36, T41, T47, T69, T74, T78, T85, T90, T98, T104, CT, hc]
theorem cmpS_lt (a b : ByteArray) : cmpS a b < 0 ↔ lessS a b = true := by
  unfold cmpS
  cases h : lessS a b with
  | true => simp
  | false => simp; split <;> simp
def kcmp (a b : Ctr) : Int := cmpS a.1 b.1
/-- In falling order of the keys. -/
def srtR (l : List Ctr) : Prop := l.Pairwise fun p q => lessS q.1 p.1 = true
theorem insV_mem {y p : Ctr} : ∀ {r : List Ctr}, p ∈ insV kcmp y r → p = y ∨ p ∈ r
  | [], h => by simp [insV] at h; exact .inl h
  | x :: r, h => by
    unfold insV at h
    split at h
    · rcases List.mem_cons.1 h with rfl | h
      · exact .inr (by simp)
      · rcases insV_mem h with h | h
        · exact .inl h
        · exact .inr (by simp [h])
    · rcases List.mem_cons.1 h with rfl | h
      · exact .inl rfl
      · exact .inr h
theorem insV_perm {α : Type} (cmp : α → α → Int) (y : α) : ∀ r : List α, (insV cmp y r).Perm (y :: r)
  | [] => List.Perm.refl _
  | x :: r => by
    unfold insV
    split
    · exact ((insV_perm cmp y r).cons x).trans (List.Perm.swap y x r)
    · exact List.Perm.refl _
theorem isortV_perm {α : Type} (cmp : α → α → Int) : ∀ suf r : List α, (isortV cmp r suf).Perm (r ++ suf)
  | [], r => by simp only [isortV, List.append_nil]; exact List.reverse_perm r
  | y :: suf, r => by
    have h1 := isortV_perm cmp suf (insV cmp y r)
    have h2 := (insV_perm cmp y r).append_right suf
    refine h1.trans (h2.trans ?_)
    exact (List.perm_middle (l₁ := r) (a := y) (l₂ := suf)).symm
theorem insV_srt {y : Ctr} : ∀ {r : List Ctr}, srtR r → (∀ p ∈ r, eqS p.1 y.1 = false) → srtR (insV kcmp y r)
  | [], _, _ => by simp [insV, srtR]
  | x :: r, h, hne => by
    have h' := List.pairwise_cons.1 h
    unfold insV
    split
    · rename_i hc
      have hl : lessS y.1 x.1 = true := (cmpS_lt _ _).1 hc
      refine List.pairwise_cons.2 ⟨fun p hp => ?_, insV_srt h'.2 fun p hp => hne p (by simp [hp])⟩
      rcases insV_mem hp with rfl | hp
      · exact hl
      · exact h'.1 p hp
    · rename_i hc
      have hl : lessS y.1 x.1 = false := by
        cases hq : lessS y.1 x.1 with
        | false => rfl
        | true => exact absurd ((cmpS_lt _ _).2 hq) hc
      have hg := lessS_tri hl (by rw [eqS_comm]; exact hne x (by simp))
      refine List.pairwise_cons.2 ⟨fun p hp => ?_, h⟩
      rcases List.mem_cons.1 hp with rfl | hp
      · exact hg
      · exact lessS_trans (h'.1 p hp) hg
theorem isortV_srt : ∀ {suf r : List Ctr}, srtR r → keysNe strK (r ++ suf) → srt (isortV kcmp r suf)
  | [], r, h, _ => by
    simp only [isortV]
    exact List.pairwise_reverse.2 h
  | y :: suf, r, h, hne => by
    simp only [isortV]
    have h1 := List.pairwise_append.1 hne
    refine isortV_srt (insV_srt h fun p hp => h1.2.2 p hp y (by simp)) ?_
    have hp := ((insV_perm kcmp y r).append_right suf).trans (List.perm_middle (l₁ := r) (a := y) (l₂ := suf)).symm
    refine hp.symm.pairwise hne fun {a b} hab => ?_
    have : eqS b.1 a.1 = eqS a.1 b.1 := eqS_comm _ _
    show eqS b.1 a.1 = false
    rw [this]; exact hab
/-- One list only has these elements in order. -/
theorem srt_unique {a b : List Ctr} (hp : a.Perm b) (ha : srt a) (hb : srt b) : a = b := by
  unfold srt at ha hb
  refine List.Perm.eq_of_pairwise (le := fun (p q : Ctr) => lessS p.1 q.1 = true) (fun x y _ _ h1 h2 => ?_) ha hb hp
  have := lessS_asym h1
  rw [h2] at this; cases this
theorem sort_to {L l : List Ctr} (hp : L.Perm l) (hl : srt l) : isortV kcmp [] L = l := by
  have hne : keysNe strK L := by
    refine hp.symm.pairwise (srt_ne hl) fun {a b} hab => ?_
    show eqS b.1 a.1 = false
    rw [eqS_comm]; exact hab
  exact srt_unique ((isortV_perm kcmp L []).trans hp) (isortV_srt (by simp [srtR]) hne) hl
end Go.Proofs.YtdhbecdlablonaaV
