/- SortedFunc of changes; Compact. -/
import Derived.Test.YteidaaobppjlbaaWs1
import Derived.Test.YteidaaobppjlbaaWd19
set_option linter.unusedVariables false
set_option linter.unusedSimpArgs false
namespace Go.Proofs.YteidaaobppjlbaaV
open Go.RowKit
attribute [local simp] TK.agg constAV evalAV EK.has EK.hasAll vecEls elsR AV.toD toDs AV.cells AV.one joinD TyI.zeroD OpR.of binIntF binStrF AV.isPtr ptrNil slNil mpNil nilE eqF negF posF binF pelF pvLoad pelSet pvStore boxLoad epLoad loadF boxStore storeF fieldAddrF fieldF epOf indexAddrF byteF indexF mapLen lenF cutF sliceF sliceN sliceX isSl slice3F fillF arrFs buildF partsX landV buildSliceF roomB appVec appendF appMkF capF mmFrom mmF max2' min2' clearVec clearF convF unF pickF nilChkF extF ptrsOf callF makeSliceF sameKs sameD kindIs plainFs keyOk mapOb mapEs okV lookF lookupF putE putS mapPut mapUpdateF mapDel deleteF mapAll rangeM rangeF overV hitV nextO nextF entryM entryO entryF itOids builtinF capsOf allocF boxF bytesL bytesF byteTy strTy convertF makeFuncF makeMapF makeMapH opF reach reachOf AObj.live closedB nodupB packO packL packX backN backG backO obL backE frzX frzO AV.vids frzL landC sameObs landR touchF bitsW D.cells D.decEq D.decEqs AV.decEq AV.decEqs AObj.decEq AV.oids0 AV.oids AObj.oids renG renP AV.ren0 AV.ren envGet envPut envKeep obGet setEff putV St.put stepS keyChk chkD accD Ex.block AV.under AObj.under laysOf roomFor mkvO frzG szOk killO usedBy tidyS ghost ghostE normSt resOf allSome one0 resultsF finL finishL finish endF startEnv chkC backX comeC AV.flat0 rngC loopO layL endLp busyL idleL noRng rndSt rndEnd wpn_nil wpn_seq wpn_loop wpn_seq_exit wpn_loop_exit wpn_seq_ret wpn_loop_ret wpn_block wpn_post wpk_skip wpk_exit wpk_ret wpk_reg wpk_seq wpk_condT wpk_block wpk_loop wpk_pre wpk_post wop_nil wop_cons wop_guard St.know envSet cond_d cond_bool cond_int cond_str endE endQ freeB disj pushT bitsW int_beq int_bne eqS_def tbE fuelL_eq ann0_lays ann0_dd ann0_ro elsOf_dsl elsOf_dnils toNat_succ nn_succ pos_succ one_succ rng1 rng2 rng3 rng4 rng5 rng6 rng7 rng8 List.idxOf_cons wpk_rng rndK rndE
set_option maxRecDepth 100000 in
set_option maxHeartbeats 4000000 in
theorem sorted62_run (A : D) (l : List Chg) (hl : l.length ≤ 24) (hA : elsOf (.d A) = some (l.map Chg.enc)) :
    ∃ m : List Chg, run CC 62 [.fn 80 [] [(0, 0)], .fn 15 [] []] [.box [.d A]] = some (.vs 1 0 6 0 l.length, [.box [.d A], .vec 0 true false 26 6 (m.map Chg.enc)]) ∧ m.Perm l ∧ m.Pairwise fun p q => q.cmp p < 0 → False := by
  have hc := Pd.coll71_run A l (by omega) hA
  obtain ⟨m, hs, hp, ho⟩ := Pd.sort72_run l hl Chg.cmp 15 (by decide) compare_run swoC
  have hlen : m.length = l.length := hp.length_eq
  refine ⟨m, run_code (s := s62 1) rfl rfl rfl (by kernel_rfl) ?_, hp, ho⟩
  have htk : (m.map Chg.enc).take l.length = m.map Chg.enc := by rw [← hlen]; exact takeM _ _
  have hml : (m.map Chg.enc).length = l.length := by simp [hlen]
  have htl : (l.map Chg.enc).take l.length = l.map Chg.enc := takeM _ _
  have hll : (l.map Chg.enc).length = l.length := by simp
  generalize m.map Chg.enc = F at *
  generalize l.map Chg.enc = E at *
  generalize l.length = n at *
  simp [s62, eqCells, T2, T3, T4, T5, T6, T8, T9, T22, T26, T27, T30, T32, T37, T39, T54, T66, T73, T99, T110, T116, T135, T141, T148, T150, T157, CT, hc, hs, htk, hml, htl, hll]
theorem same_iff (p c : Chg) : p.same c = true ↔ p = c := by
  obtain ⟨a1, a2, a3, a4, a5, a6⟩ := p
  obtain ⟨b1, b2, b3, b4, b5, b6⟩ := c
  simp [Chg.same, eqS_iff]
theorem eqc (p c : Chg) : eqCells [.int .i64 p.id, .int .i64 p.kind, .int .i64 p.slot, .str p.svc, .str p.tgt, .str p.ver] [.int .i64 c.id, .int .i64 c.kind, .int .i64 c.slot, .str c.svc, .str c.tgt, .str c.ver] = some (p.same c) := by
  simp [eqCells, Chg.same, eqS_def, int_beq]
def encC (c : Chg) : D := .agg [.int .i64 c.id, .int .i64 c.kind, .int .i64 c.slot, .str c.svc, .str c.tgt, .str c.ver]
/-- What stands at a place of a list of changes. -/
theorem atX {X : List Chg} {i n : Nat} {c : Chg} (hn : X.length = n) (h : X[i]? = some c) : (X.map Chg.enc)[i]? = some (.agg [.int .i64 c.id, .int .i64 c.kind, .int .i64 c.slot, .str c.svc, .str c.tgt, .str c.ver]) ∧ i < n ∧ (i : Int) < n ∧ i < (X.map Chg.enc).length ∧ (X.map Chg.enc).length = n ∧ ∀ h : i < (X.map Chg.enc).length, (X.map Chg.enc)[i] = .agg [.int .i64 c.id, .int .i64 c.kind, .int .i64 c.slot, .str c.svc, .str c.tgt, .str c.ver] := by
  have h1 : (X.map Chg.enc)[i]? = some (.agg [.int .i64 c.id, .int .i64 c.kind, .int .i64 c.slot, .str c.svc, .str c.tgt, .str c.ver]) := by rw [List.getElem?_map, h]; rfl
  have h2 := (List.getElem?_eq_some_iff.1 h).1
  refine ⟨h1, by omega, by omega, by simpa using h2, by simpa using hn, fun h' => ?_⟩
  rw [List.getElem?_eq_getElem h'] at h1
  injection h1
set_option maxRecDepth 100000 in
set_option maxHeartbeats 4000000 in
theorem loop61_2 (n k0 : Nat) (hn : n < 1000) (O : List Chg) (k2 k : Nat) (X rest : List Chg) (q : Chg) (hk2 : 0 < k2) (hX : X.length = n) (hk : k + 1 ≤ k0 + k2) (hd : X.drop (k0 + k2 - 1) = q :: rest) (ho : X.take k ++ dedF q rest = O) (ks : List Fr) (K : Ex → St → Prop)
    (hnext : ∀ X' : List Chg, X'.length = n → X'.take O.length = O → O.length ≤ n → wpn CC .norm ⟨[(0, .vs 0 0 6 0 n), (3, .d (.int .i64 O.length))], [.vec 0 false false 26 6 (X'.map Chg.enc)]⟩ ks K) :
    wlp CC (s61_2 1) ⟨[(0, .vs 0 0 6 0 n), (3, .d (.int .i64 k)), (4, .vs 0 0 6 k0 n), (5, .d (.int .i64 k2))], [.vec 0 false false 26 6 (X.map Chg.enc)]⟩ (.block 2 :: .post (.tidy [0, 3] 1 1) :: ks) K := by
  refine wlp_inv (S := fun p : Nat × Nat × List Chg × List Chg × Chg => ⟨[(0, .vs 0 0 6 0 n), (3, .d (.int .i64 p.2.1)), (4, .vs 0 0 6 k0 n), (5, .d (.int .i64 p.1))], [.vec 0 false false 26 6 (p.2.2.1.map Chg.enc)]⟩) (m := fun p => p.2.2.2.1.length)
    (Inv := fun p => 0 < p.1 ∧ p.2.2.1.length = n ∧ p.2.1 + 1 ≤ k0 + p.1 ∧ p.2.2.1.drop (k0 + p.1 - 1) = p.2.2.2.2 :: p.2.2.2.1 ∧ p.2.2.1.take p.2.1 ++ dedF p.2.2.2.2 p.2.2.2.1 = O) ?_ (k2, k, X, rest, q) ⟨hk2, hX, hk, hd, ho⟩
  clear hk2 hX hk hd ho
  rintro ⟨k2, k, X, rest, q⟩ ⟨hk2, hX, hk, hd, ho⟩ ih
  rw [e61_2]
  simp only at hk2 hX hk hd ho ⊢
  have hlen := congrArg List.length hd
  simp only [List.length_drop, List.length_cons] at hlen
  have hq : X[k0 + k2 - 1]? = some q := by have := congrArg (fun l : List Chg => l[0]?) hd; simpa using this
  obtain ⟨g1, i1, i1', l1, hl, gg1⟩ := atX hX hq
  have w0 : IntKind.i64.wrap ((k2 : Int) - 1) = ((k2 - 1 : Nat) : Int) := by rw [wrap64 (by omega) (by omega)]; omega
  have w1 : IntKind.i64.wrap ((k2 : Int) + 1) = ((k2 + 1 : Nat) : Int) := by rw [wrap64 (by omega) (by omega)]; omega
  have w2 : IntKind.i64.wrap ((k : Int) + 1) = ((k + 1 : Nat) : Int) := by rw [wrap64 (by omega) (by omega)]; omega
  have e1 : k0 + (k2 - 1) = k0 + k2 - 1 := by omega
  cases rest with
  | nil =>
    simp only [dedF, List.append_nil] at ho
    have hkn : k ≤ n := by simp at hlen; omega
    have hkO : O.length = k := by rw [← ho, List.length_take]; omega
    have nx := hnext X hX (by rw [hkO]; exact ho) (by omega)
    rw [hkO] at nx
    have p1 : n - k0 = k2 := by simp at hlen; omega
    have p2 : ¬ ((k2 : Int) < ((n - k0 : Nat) : Int)) := by omega
    clear ih hnext
    generalize X.map Chg.enc = E at *
    simp [c61_2, T2, T3, T4, T5, T6, T8, T9, T22, T26, T27, T30, T32, T37, T39, T54, T66, T73, T99, T110, T116, T135, T141, T148, T150, T157, CT, CQ, QQ, p1, p2]
    exact nx
  | cons r rest =>
    simp only [List.length_cons] at hlen
    have hr : X[k0 + k2]? = some r := by
      have := congrArg (fun l : List Chg => l[1]?) hd
      simp at this
      rw [← this]
      congr 1
      omega
    obtain ⟨g2, i2, i2', l2, _, gg2⟩ := atX hX hr
    have p1 : k2 < n - k0 := by omega
    have p2 : ((k2 : Int) < ((n - k0 : Nat) : Int)) := by omega
    have p3 : k2 - 1 < n - k0 := by omega
    have p4 : ((k2 - 1 : Nat) : Int) < ((n - k0 : Nat) : Int) := by omega
    have hE := eqc r q
    have hd' : X.drop (k0 + (k2 + 1) - 1) = r :: rest := by
      have := congrArg (List.drop 1) hd
      rw [List.drop_drop] at this
      simp at this
      rw [← this]
      congr 1
      omega
    by_cases hs : r.same q = true
    · have hrq := (same_iff r q).1 hs
      subst hrq
      have ho2 : X.take k ++ dedF r rest = O := by simpa [dedF] using ho
      have ih := ih (k2 + 1, k, X, rest, r) ⟨by simp only; omega, hX, by simp only; omega, hd', ho2⟩ (by simp)
      rw [hs] at hE
      clear hnext hd hd' ho ho2
      simp only at ih
      generalize X.map Chg.enc = E at *
      generalize hk2m : k2 - 1 = k3 at *
      rw [← e1] at g1 l1 gg1 i1
      generalize hk2p : k2 + 1 = k4 at *
      simp [c61_2, T2, T3, T4, T5, T6, T8, T9, T22, T26, T27, T30, T32, T37, T39, T54, T66, T73, T99, T110, T116, T135, T141, T148, T150, T157, CT, CQ, QQ, p1, p2, p3, p4, w0, w1, g1, g2, gg1, gg2, l1, l2, hl, i1, i2, hE]
      exact ih
    · have hrq : r ≠ q := fun e => hs ((same_iff r q).2 e)
      have ho2 : (X.set k r).take (k + 1) ++ dedF r rest = O := by
        rw [← ho]
        simp only [dedF, if_neg hrq]
        have : (X.set k r).take (k + 1) = X.take k ++ [r] := by
          rw [List.take_add_one, List.take_set_of_le (Nat.le_refl _), List.getElem?_set_self (by omega)]
          rfl
        rw [this]
        simp
      have hd2 : (X.set k r).drop (k0 + (k2 + 1) - 1) = r :: rest := by
        rw [List.drop_set_of_lt (by omega), hd']
      have ih := ih (k2 + 1, k + 1, X.set k r, rest, r) ⟨by simp only; omega, by simpa using hX, by simp only; omega, hd2, ho2⟩ (by simp)
      have hsf : r.same q = false := by cases hq : r.same q <;> simp_all
      rw [hsf] at hE
      have hkn : k < n := by omega
      have hkn' : (k : Int) < n := by omega
      obtain ⟨x, hx⟩ : ∃ x, X[k]? = some x := ⟨X[k]'(by omega), List.getElem?_eq_getElem _⟩
      obtain ⟨_, _, _, _, _, gg3⟩ := atX hX hx
      clear hnext hd hd' ho ho2 hd2
      simp only [List.map_set, Chg.enc] at ih
      have hlk : k < (X.map Chg.enc).length := by omega
      generalize X.map Chg.enc = E at *
      generalize hk2m : k2 - 1 = k3 at *
      rw [← e1] at g1 l1 gg1 i1
      generalize hk2p : k2 + 1 = k4 at *
      generalize hkp : k + 1 = kk at *
      simp [c61_2, T2, T3, T4, T5, T6, T8, T9, T22, T26, T27, T30, T32, T37, T39, T54, T66, T73, T99, T110, T116, T135, T141, T148, T150, T157, CT, CQ, QQ, p1, p2, p3, p4, w0, w1, w2, g1, g2, gg1, gg2, l1, l2, hl, i1, i2, hE, hkn, hkn', hlk, gg3]
      exact ih
set_option maxRecDepth 100000 in
set_option maxHeartbeats 4000000 in
theorem compact61_run (m : List Chg) (n : Nat) (hn : n < 1000) (hm : m.length = n) :
    ∃ y obs', run CC 61 [.vs 0 0 6 0 n] [.vec 0 false false 26 6 (m.map Chg.enc)] = some (y, obs') ∧ y = .vs 0 0 6 0 (dedC m).length ∧ ∃ (E : List D) (mv : Bool), obs' = [.vec 0 mv false 26 6 E] ∧ E.take (dedC m).length = (dedC m).map Chg.enc ∧ (dedC m).length ≤ E.length := by
  refine run_codeQ (s := s61 1) rfl rfl rfl (by kernel_rfl) ?_
  have hml : (m.map Chg.enc).length = n := by simp [hm]
  match m, hm with
  | [], hm =>
    have hn0 : n = 0 := by simpa using hm.symm
    subst hn0
    simp [s61, eqCells, T2, T3, T4, T5, T6, T8, T9, T22, T26, T27, T30, T32, T37, T39, T54, T66, T73, T99, T110, T116, T135, T141, T148, T150, T157, CT, dedC]
  | [p], hm =>
    have hn0 : n = 1 := by simpa using hm.symm
    subst hn0
    simp [s61, eqCells, T2, T3, T4, T5, T6, T8, T9, T22, T26, T27, T30, T32, T37, T39, T54, T66, T73, T99, T110, T116, T135, T141, T148, T150, T157, CT, dedC, dedF]
  | p :: q :: r, hm =>
    have h2 : ¬ (n : Int) < 2 := by simp at hm; omega
    have h2' : ¬ n < 2 := by simp at hm; omega
    generalize hM : p :: q :: r = M at *
    simp [s61, eqCells, T2, T3, T4, T5, T6, T8, T9, T22, T26, T27, T30, T32, T37, T39, T54, T66, T73, T99, T110, T116, T135, T141, T148, T150, T157, CT, h2, h2']
    refine wlp_inv (S := fun p : List Chg × Chg × List Chg => ⟨[(0, .vs 0 0 6 0 n), (3, .d (.int .i64 ((p.1.length + 1 : Nat) : Int)))], [.vec 0 false false 26 6 (M.map Chg.enc)]⟩) (m := fun p => p.2.2.length) (Inv := fun p => p.1 ++ p.2.1 :: p.2.2 = M ∧ dedC M = p.1 ++ p.2.1 :: dedF p.2.1 p.2.2) ?_ ([], p, q :: r) ⟨hM, by rw [← hM]; rfl⟩
    clear hM
    rintro ⟨pre, p, suf⟩ ⟨hps, hdd⟩ ih
    rw [e61_1]
    simp only at hps hdd ⊢
    have hlen : n = pre.length + (suf.length + 1) := by rw [← hm, ← hps]; simp
    have hp : M[pre.length]? = some p := by rw [← hps]; simp
    obtain ⟨g1, i1, i1', l1, hl, gg1⟩ := atX hm hp
    have w0 : IntKind.i64.wrap (((pre.length + 1 : Nat) : Int) - 1) = (pre.length : Int) := by rw [wrap64 (by omega) (by omega)]; omega
    have w1 : IntKind.i64.wrap (((pre.length + 1 : Nat) : Int) + 1) = ((pre.length + 1 + 1 : Nat) : Int) := by rw [wrap64 (by omega) (by omega)]; omega
    cases suf with
    | nil =>
      have hMd : dedC M = M := by rw [hdd, ← hps]; rfl
      have p1 : ¬ ((pre.length + 1 : Nat) : Int) < n := by simp at hlen; omega
      have hdl : (dedC M).length = n := by rw [hMd, hm]
      have hf : (M.map Chg.enc).take n = (dedC M).map Chg.enc := by rw [hMd, ← hm]; exact takeM _ _
      rw [hdl]
      clear ih
      generalize (dedC M).map Chg.enc = F at *
      generalize M.map Chg.enc = E at *
      generalize pre.length + 1 = k at *
      simp [c61_1, T2, T3, T4, T5, T6, T8, T9, T22, T26, T27, T30, T32, T37, T39, T54, T66, T73, T99, T110, T116, T135, T141, T148, T150, T157, CT, CQ, QQ, p1, hf, hl]
    | cons q suf =>
      have hq : M[pre.length + 1]? = some q := by rw [← hps]; simp
      obtain ⟨g2, i2, i2', l2, _, gg2⟩ := atX hm hq
      have hE := eqc q p
      by_cases hs : q.same p = true
      · have hqp := (same_iff q p).1 hs
        subst hqp
        rw [hs] at hE
        clear ih
        have hd : M.drop (pre.length + 1 + 1 - 1) = q :: suf := by rw [← hps]; simp
        have ho : M.take (pre.length + 1) ++ dedF q suf = dedC M := by
          rw [hdd, ← hps]
          have : (pre ++ q :: q :: suf).take (pre.length + 1) = pre ++ [q] := by rw [List.take_append, List.take_of_length_le (by omega)]; simp
          rw [this]
          simp [dedF]
        have L := loop61_2 n (pre.length + 1) hn (dedC M) 1 (pre.length + 1) M suf q (by omega) hm (by omega) hd ho
        have hp1 : ((pre.length + 1 : Nat) : Int) ≤ n := by omega
        have hp2 : pre.length + 1 ≤ n := by omega
        clear hps hdd hd ho
        generalize hEM : M.map Chg.enc = E at *
        generalize pre.length = k0 at *
        generalize hk1 : k0 + 1 = k at *
        simp [c61_1, T2, T3, T4, T5, T6, T8, T9, T22, T26, T27, T30, T32, T37, T39, T54, T66, T73, T99, T110, T116, T135, T141, T148, T150, T157, CT, CQ, QQ, w0, w1, g1, g2, gg1, gg2, l1, l2, hl, i1, i2, i1', i2', hE, hp1, hp2]
        refine L _ _ fun X' hX hO hle => ?_
        have hXl : (X'.map Chg.enc).length = n := by simp [hX]
        have hO2 : (X'.map Chg.enc).take (dedC M).length = (dedC M).map Chg.enc := by rw [← List.map_take, hO]
        have hle' : ((dedC M).length : Int) ≤ n := by omega
        generalize X'.map Chg.enc = F at *
        generalize (dedC M).map Chg.enc = G at *
        generalize (dedC M).length = d at *
        simp [T2, T3, T4, T5, T6, T8, T9, T22, T26, T27, T30, T32, T37, T39, T54, T66, T73, T99, T110, T116, T135, T141, T148, T150, T157, CT, CQ, QQ, hXl, hle, hle']
        exact hO2
      · have hqp : q ≠ p := fun e => hs ((same_iff q p).2 e)
        have hsf : q.same p = false := by cases hq : q.same p <;> simp_all
        rw [hsf] at hE
        have ih := ih (pre ++ [p], q, suf) ⟨by rw [← hps]; simp, by rw [hdd]; simp [dedF, hqp]⟩ (by simp)
        have hlp : (pre ++ [p]).length = pre.length + 1 := by simp
        simp only [hlp] at ih
        clear hps hdd
        generalize M.map Chg.enc = E at *
        generalize pre.length = k0 at *
        generalize hk1 : k0 + 1 = k at *
        generalize hk2 : k + 1 = kk at *
        simp [c61_1, T2, T3, T4, T5, T6, T8, T9, T22, T26, T27, T30, T32, T37, T39, T54, T66, T73, T99, T110, T116, T135, T141, T148, T150, T157, CT, CQ, QQ, w0, w1, g1, g2, gg1, gg2, l1, l2, hl, i1, i2, i1', i2', hE]
        exact ih
end Go.Proofs.YteidaaobppjlbaaV
