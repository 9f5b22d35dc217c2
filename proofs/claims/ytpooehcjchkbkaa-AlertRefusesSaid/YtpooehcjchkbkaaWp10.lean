/- The law AlertRefuses: loops. -/
import Derived.Test.YtpooehcjchkbkaaWp9
set_option linter.unusedVariables false
set_option linter.unusedSimpArgs false
namespace Go.Proofs.YtpooehcjchkbkaaV
open Go.RowKit
attribute [local simp] TK.agg constAV evalAV EK.has EK.hasAll vecEls elsR AV.toD toDs AV.cells AV.one joinD TyI.zeroD OpR.of binIntF binStrF AV.isPtr ptrNil slNil mpNil nilE eqF negF posF binF pelF pvLoad pelSet pvStore boxLoad epLoad loadF boxStore storeF fieldAddrF fieldF epOf indexAddrF byteF indexF mapLen lenF cutF sliceF sliceN sliceX isSl slice3F fillF fillV arrFs buildF partsX landV buildSliceF roomB appVec appendF appMkF capF mmFrom mmF max2' min2' clearVec clearF convF unF pickF nilChkF extF ptrsOf callF makeSliceF sameKs sameD kindIs plainFs keyOk mapOb mapEs okV lookF lookupF putE putS mapPut mapUpdateF mapDel deleteF mapAll rangeM rangeF overV hitV nextO nextF entryM entryO entryF itOids builtinF capsOf allocF boxF bytesL bytesF byteTy strTy convertF makeFuncF mapNew makeMapF makeMapH opF reach reachOf AObj.live closedB nodupB packO packL packX backN backG backO obL backE frzX frzO AV.vids frzL landC sameObs landR touchF bitsW D.cells D.decEq D.decEqs AV.decEq AV.decEqs AObj.decEq AV.oids0 AV.oids AObj.oids renG renP AV.ren0 AV.ren envGet envPut envKeep obGet setEff putV St.put stepS keyChk chkD accD Ex.block AV.under AObj.under laysOf roomFor mkvO frzG szOk killO usedBy tidyS canL canS ghost ghostE normSt resOf allSome one0 resultsF finL finishL finish endF startEnv chkC backX comeC AV.flat0 rngC loopO layL endLp busyL idleL noRng rndSt rndEnd wpn_nil wpn_seq wpn_loop wpn_seq_exit wpn_loop_exit wpn_seq_ret wpn_loop_ret wpn_block wpn_post wpk_skip wpk_exit wpk_ret wpk_reg wpk_seq wpk_condT wpk_block wpk_loop wpk_pre wpk_post wop_nil wop_cons wop_guard St.know envSet cond_d cond_bool cond_int cond_str endE endQ freeB disj pushT bitsW int_beq int_bne eqS_def tbE fuelL_eq ann0_lays ann0_dd ann0_ro elsOf_dsl elsOf_dnils toNat_succ nn_succ pos_succ one_succ rng1 rng2 rng3 rng4 rng5 rng6 rng7 rng8 List.idxOf_cons wpk_rng rndK rndE
theorem known13_run : run CC 13 [] [] = some (.d (.bool true), []) := run_of_go 3000 (by kernel_rfl)
/-- What is wanted behind the checks. -/
def wOk (rs : List Rul) (w : Int) : Prop := (w = 0 ∧ ∀ r ∈ rs, r.chk = 0) ∨ ∃ J, ∃ hJ : J < rs.length, w = (rs[J]).chk ∧ w ≠ 0 ∧ ∀ i (hi : i < rs.length), i < J → (rs[i]).chk = 0
/-- What is wanted behind the names. -/
def wOk2 (rs : List Rul) (w w2 : Int) : Prop := (w ≠ 0 ∧ w2 = w) ∨ (w = 0 ∧ ((w2 = 0 ∧ rs.Pairwise fun x y => x.name ≠ y.name) ∨ (w2 = 9 ∧ dupN rs)))
theorem eqS_ne {a b : ByteArray} (h : eqS a b = false) : a ≠ b := fun e => by subst e; rw [eqS_self] at h; cases h
set_option maxRecDepth 100000 in
set_option maxHeartbeats 16000000 in
theorem loop10_1 (A B : D) (rs : List Rul) (hA : elsOf (.d A) = some (rs.map Rul.enc)) (hl4 : rs.length ≤ 4) (frm : Int) (ks : List Fr) (K : Ex → St → Prop)
    (hret : ∀ env, wpn CC .ret ⟨(6, .d (.bool true)) :: env, []⟩ ks K)
    (hnext : ∀ w, wOk rs w → wpn CC .norm ⟨[(0, .d A), (1, .d (.int .i64 frm)), (2, .d B), (7, .d (.int .i64 w))], []⟩ ks K) :
    wlp CC (s10_1 0) ⟨[(0, .d A), (1, .d (.int .i64 frm)), (2, .d B), (7, .d (.int .i64 0)), (8, .d (.int .i64 0))], []⟩ (.block 0 :: .post (.tidy [0, 1, 2, 7] 0 0) :: .post (.tidy [0, 1, 2, 7] 0 0) :: ks) K := by
  have hck := fun r => check15_run r
  have hll : (rs.map Rul.enc).length = rs.length := by simp
  have hg := fun j hj => rul_get rs (j := j) hj
  generalize rs.map Rul.enc = E at *
  refine wlp_inv2 (S := fun p : Nat × Int => ⟨[(0, .d A), (1, .d (.int .i64 frm)), (2, .d B), (7, .d (.int .i64 p.2)), (8, .d (.int .i64 p.1))], []⟩) (m := fun p => rs.length - p.1) (Inv := fun p => p.1 ≤ rs.length ∧ ((p.2 = 0 ∧ ∀ i (hi : i < rs.length), i < p.1 → (rs[i]).chk = 0) ∨ (p.2 ≠ 0 ∧ ∃ J, ∃ hJ : J < rs.length, p.1 = J + 1 ∧ p.2 = (rs[J]).chk ∧ ∀ i (hi : i < rs.length), i < J → (rs[i]).chk = 0))) ?_ (0, 0) ⟨Nat.zero_le _, .inl ⟨rfl, fun i hi h => absurd h (by simp)⟩⟩ rfl
  rintro ⟨i, w⟩ ⟨hi, hw⟩ ih
  rw [e10_1]
  simp only at hi hw ⊢
  by_cases hgo : i < rs.length ∧ w = 0
  · obtain ⟨hlt, rfl⟩ := hgo
    have hall : ∀ j (hj : j < rs.length), j < i → (rs[j]).chk = 0 := by
      rcases hw with ⟨-, h⟩ | ⟨h, -⟩
      · exact h
      · exact absurd rfl h
    have hx := hg i hlt
    have hEi : i < E.length := by omega
    have hEe := (List.getElem?_eq_some_iff.1 hx).2
    have w1 : IntKind.i64.wrap ((i : Int) + 1) = (i : Int) + 1 := wrap64 (by omega) (by omega)
    have p1 : (i : Int) < rs.length := by omega
    have hci := hck rs[i]
    have ih2 := ih (i + 1, (rs[i]).chk) ⟨by simp only; omega, by
      by_cases hc : (rs[i]).chk = 0
      · refine .inl ⟨hc, fun j hj hji => ?_⟩
        rcases Nat.lt_succ_iff_lt_or_eq.1 hji with h | h
        · exact hall j hj h
        · subst h; exact hc
      · exact .inr ⟨hc, i, hlt, rfl, rfl, hall⟩⟩ (by simp only; omega)
    clear ih hg hck hall hw hnext
    generalize rs[i] = r at *
    simp only [Rul.enc] at hci hx hEe
    try simp at ih2
    by_cases hbig : 240 < IntKind.i64.wrap (IntKind.i64.wrap ((r.name.size : Int) + r.svc.size) + r.op.size)
    · simp [c10_1, eqCells, T3, T4, T5, T9, T23, T25, T27, T32, T33, T35, T39, T50, T52, T57, T59, T64, T65, T66, T70, T71, T77, T81, T83, T88, T89, T91, T95, T97, T99, T100, T112, CT, hA, hll, hx, hEi, hEe, hci, p1, w1, hlt, hbig]
      exact hret _
    · simp [c10_1, eqCells, T3, T4, T5, T9, T23, T25, T27, T32, T33, T35, T39, T50, T52, T57, T59, T64, T65, T66, T70, T71, T77, T81, T83, T88, T89, T91, T95, T97, T99, T100, T112, CT, hA, hll, hx, hEi, hEe, hci, p1, w1, hlt, hbig]
      exact ih2
  have hW : wOk rs w := by
    rcases hw with ⟨rfl, h⟩ | ⟨h0, J, hJ, h1, h2, h3⟩
    · have e : i = rs.length := by
        by_cases c : i < rs.length
        · exact absurd ⟨c, rfl⟩ hgo
        · omega
      refine .inl ⟨rfl, fun r hr => ?_⟩
      obtain ⟨j, hj, rfl⟩ := List.getElem_of_mem hr
      exact h j hj (by omega)
    · exact .inr ⟨J, hJ, h2, h0, h3⟩
  have hn := hnext w hW
  clear ih hw hnext hg hck
  try simp at hn
  by_cases c : i < rs.length
  · have c2 : (i : Int) < rs.length := by omega
    have c3 : ¬ w = 0 := fun e => hgo ⟨c, e⟩
    simp [c10_1, eqCells, T3, T4, T5, T9, T23, T25, T27, T32, T33, T35, T39, T50, T52, T57, T59, T64, T65, T66, T70, T71, T77, T81, T83, T88, T89, T91, T95, T97, T99, T100, T112, CT, hA, hll, c, c2, c3]
    exact hn
  · have c2 : ¬ (i : Int) < rs.length := by omega
    simp [c10_1, eqCells, T3, T4, T5, T9, T23, T25, T27, T32, T33, T35, T39, T50, T52, T57, T59, T64, T65, T66, T70, T71, T77, T81, T83, T88, T89, T91, T95, T97, T99, T100, T112, CT, hA, hll, c, c2]
    exact hn
theorem dup_of {rs : List Rul} {a b : Nat} (hb : b < rs.length) (hab : a < b) (h : (rs[a]).name = (rs[b]).name) : dupN rs := fun hp => List.pairwise_iff_getElem.1 hp a b (by omega) hb hab h
set_option maxRecDepth 100000 in
set_option maxHeartbeats 16000000 in
theorem loop10_3 (A B : D) (rs : List Rul) (hA : elsOf (.d A) = some (rs.map Rul.enc)) (hl4 : rs.length ≤ 4) (frm : Int) (i : Nat) (hi : i < rs.length) (ks : List Fr) (K : Ex → St → Prop)
    (hnext : ∀ w : Int, (w = 0 ∧ ∀ a (ha : a < rs.length), a < i → (rs[a]).name ≠ (rs[i]).name) ∨ (w = 9 ∧ dupN rs) → wpn CC .norm ⟨[(0, .d A), (1, .d (.int .i64 frm)), (2, .d B), (7, .d (.int .i64 w)), (9, .d (.int .i64 i))], []⟩ ks K) :
    wlp CC (s10_3 0) ⟨[(0, .d A), (1, .d (.int .i64 frm)), (2, .d B), (7, .d (.int .i64 0)), (9, .d (.int .i64 i)), (10, .d (.int .i64 0))], []⟩ (.block 4 :: .post (.tidy [0, 1, 2, 7, 9] 0 0) :: ks) K := by
  have hll : (rs.map Rul.enc).length = rs.length := by simp
  have hg := fun j hj => rul_get rs (j := j) hj
  generalize rs.map Rul.enc = E at *
  have hxi := hg i hi
  have hEi : i < E.length := by omega
  have hEe := (List.getElem?_eq_some_iff.1 hxi).2
  simp only [Rul.enc] at hxi hEe
  refine wlp_inv2 (S := fun p : Nat × Int => ⟨[(0, .d A), (1, .d (.int .i64 frm)), (2, .d B), (7, .d (.int .i64 p.2)), (9, .d (.int .i64 i)), (10, .d (.int .i64 p.1))], []⟩) (m := fun p => i - p.1) (Inv := fun p => p.1 ≤ i ∧ ((p.2 = 0 ∧ ∀ a (ha : a < rs.length), a < p.1 → (rs[a]).name ≠ (rs[i]).name) ∨ (p.2 = 9 ∧ dupN rs))) ?_ (0, 0) ⟨Nat.zero_le _, .inl ⟨rfl, fun a ha h => absurd h (by simp)⟩⟩ rfl
  rintro ⟨k, w⟩ ⟨hk, hw⟩ ih
  rw [e10_3]
  simp only at hk hw ⊢
  by_cases hlt : k < i
  · have hkl : k < rs.length := by omega
    have hx := hg k hkl
    have hEk : k < E.length := by omega
    have hEf := (List.getElem?_eq_some_iff.1 hx).2
    have w1 : IntKind.i64.wrap ((k : Int) + 1) = (k : Int) + 1 := wrap64 (by omega) (by omega)
    have p1 : (k : Int) < i := by omega
    cases hc : eqS (rs[i]).name (rs[k]).name with
    | true =>
      have hd : dupN rs := dup_of hi hlt ((eqS_iff _ _).1 hc).symm
      have ih2 := ih (k + 1, 9) ⟨by simp only; omega, .inr ⟨rfl, hd⟩⟩ (by simp only; omega)
      clear ih hg hw hnext
      generalize rs[i] = r at *
      generalize rs[k] = u at *
      simp only [Rul.enc] at hx hEf
      try simp at ih2
      simp [c10_3, eqCells, T3, T4, T5, T9, T23, T25, T27, T32, T33, T35, T39, T50, T52, T57, T59, T64, T65, T66, T70, T71, T77, T81, T83, T88, T89, T91, T95, T97, T99, T100, T112, CT, hA, hll, hx, hEk, hEf, hxi, hEi, hEe, p1, w1, hlt, hc]
      exact ih2
    | false =>
      have ih2 := ih (k + 1, w) ⟨by simp only; omega, by
        rcases hw with ⟨h1, h2⟩ | h
        · refine .inl ⟨h1, fun a ha hak => ?_⟩
          rcases Nat.lt_succ_iff_lt_or_eq.1 hak with h | h
          · exact h2 a ha h
          · subst h; exact fun e => eqS_ne hc e.symm
        · exact .inr h⟩ (by simp only; omega)
      clear ih hg hw hnext
      generalize rs[i] = r at *
      generalize rs[k] = u at *
      simp only [Rul.enc] at hx hEf
      try simp at ih2
      simp [c10_3, eqCells, T3, T4, T5, T9, T23, T25, T27, T32, T33, T35, T39, T50, T52, T57, T59, T64, T65, T66, T70, T71, T77, T81, T83, T88, T89, T91, T95, T97, T99, T100, T112, CT, hA, hll, hx, hEk, hEf, hxi, hEi, hEe, p1, w1, hlt, hc]
      exact ih2
  · have e : k = i := by omega
    subst e
    have hn := hnext w hw
    clear ih hg hw hnext
    try simp at hn
    simp [c10_3, eqCells, T3, T4, T5, T9, T23, T25, T27, T32, T33, T35, T39, T50, T52, T57, T59, T64, T65, T66, T70, T71, T77, T81, T83, T88, T89, T91, T95, T97, T99, T100, T112, CT]
    exact hn
set_option maxRecDepth 100000 in
set_option maxHeartbeats 16000000 in
theorem loop10_2 (A B : D) (rs : List Rul) (hA : elsOf (.d A) = some (rs.map Rul.enc)) (hl4 : rs.length ≤ 4) (frm : Int) (w : Int) (ks : List Fr) (K : Ex → St → Prop)
    (hnext : ∀ w2, wOk2 rs w w2 → wpn CC .norm ⟨[(0, .d A), (1, .d (.int .i64 frm)), (2, .d B), (7, .d (.int .i64 w2))], []⟩ ks K) :
    wlp CC (s10_2 0) ⟨[(0, .d A), (1, .d (.int .i64 frm)), (2, .d B), (7, .d (.int .i64 w)), (9, .d (.int .i64 0))], []⟩ (.block 2 :: .post (.tidy [0, 1, 2, 7] 0 0) :: .post (.tidy [0, 1, 2, 7] 0 0) :: ks) K := by
  have hll : (rs.map Rul.enc).length = rs.length := by simp
  have h3 := fun i hi ks K hn => loop10_3 A B rs hA hl4 frm i hi ks K hn
  generalize rs.map Rul.enc = E at *
  refine wlp_inv2 (S := fun p : Nat × Int => ⟨[(0, .d A), (1, .d (.int .i64 frm)), (2, .d B), (7, .d (.int .i64 p.2)), (9, .d (.int .i64 p.1))], []⟩) (m := fun p => rs.length - p.1) (Inv := fun p => p.1 ≤ rs.length ∧ ((w ≠ 0 ∧ p.2 = w) ∨ (w = 0 ∧ ((p.2 = 0 ∧ ∀ a b (hb : b < rs.length), b < p.1 → ∀ hab : a < b, (rs[a]).name ≠ (rs[b]).name) ∨ (p.2 = 9 ∧ dupN rs))))) ?_ (0, w) ⟨Nat.zero_le _, by
    by_cases h : w = 0
    · exact .inr ⟨h, .inl ⟨h, fun a b hb h => absurd h (by simp)⟩⟩
    · exact .inl ⟨h, rfl⟩⟩ rfl
  rintro ⟨i, v⟩ ⟨hi, hv⟩ ih
  rw [e10_2]
  simp only at hi hv ⊢
  by_cases hgo : i < rs.length ∧ v = 0
  · obtain ⟨hlt, rfl⟩ := hgo
    have w1 : IntKind.i64.wrap ((i : Int) + 1) = (i : Int) + 1 := wrap64 (by omega) (by omega)
    have p1 : (i : Int) < rs.length := by omega
    have hv' : w = 0 ∧ ∀ a b (hb : b < rs.length), b < i → ∀ hab : a < b, (rs[a]).name ≠ (rs[b]).name := by
      rcases hv with ⟨h1, h2⟩ | ⟨h1, ⟨-, h2⟩ | ⟨h2, -⟩⟩
      · exact absurd h2.symm h1
      · exact ⟨h1, h2⟩
      · cases h2
    clear hnext
    simp [c10_2, eqCells, T3, T4, T5, T9, T23, T25, T27, T32, T33, T35, T39, T50, T52, T57, T59, T64, T65, T66, T70, T71, T77, T81, T83, T88, T89, T91, T95, T97, T99, T100, T112, CT, hA, hll, p1, hlt]
    refine h3 i hlt _ _ fun u hu => ?_
    have ih2 := ih (i + 1, u) ⟨by simp only; omega, .inr ⟨hv'.1, by
      rcases hu with ⟨h1, h2⟩ | h
      · refine .inl ⟨h1, fun a b hb hbi hab => ?_⟩
        rcases Nat.lt_succ_iff_lt_or_eq.1 hbi with h | h
        · exact hv'.2 a b hb h hab
        · subst h; exact h2 a (by omega) hab
      · exact .inr h⟩⟩ (by simp only; omega)
    clear ih h3 hv hv' hu
    try simp at ih2
    simp [eqCells, T3, T4, T5, T9, T23, T25, T27, T32, T33, T35, T39, T50, T52, T57, T59, T64, T65, T66, T70, T71, T77, T81, T83, T88, T89, T91, T95, T97, T99, T100, T112, CT, w1]
    exact ih2
  · have hW : wOk2 rs w v := by
      rcases hv with h | ⟨h1, ⟨h2, h3⟩ | h2⟩
      · exact .inl h
      · refine .inr ⟨h1, .inl ⟨h2, List.pairwise_iff_getElem.2 fun a b ha hb hab => h3 a b hb ?_ hab⟩⟩
        by_cases c : i < rs.length
        · exact absurd ⟨c, h2⟩ hgo
        · omega
      · exact .inr ⟨h1, .inr h2⟩
    have hn := hnext v hW
    clear ih h3 hv hnext
    try simp at hn
    by_cases c : i < rs.length
    · have c2 : (i : Int) < rs.length := by omega
      have c3 : ¬ v = 0 := fun e => hgo ⟨c, e⟩
      simp [c10_2, eqCells, T3, T4, T5, T9, T23, T25, T27, T32, T33, T35, T39, T50, T52, T57, T59, T64, T65, T66, T70, T71, T77, T81, T83, T88, T89, T91, T95, T97, T99, T100, T112, CT, hA, hll, c, c2, c3]
      exact hn
    · have c2 : ¬ (i : Int) < rs.length := by omega
      simp [c10_2, eqCells, T3, T4, T5, T9, T23, T25, T27, T32, T33, T35, T39, T50, T52, T57, T59, T64, T65, T66, T70, T71, T77, T81, T83, T88, T89, T91, T95, T97, T99, T100, T112, CT, hA, hll, c, c2]
      exact hn
end Go.Proofs.YtpooehcjchkbkaaV
