/- Which sample belongs to a rule. -/
import Derived.Test.YtpooehcjchkbkaaWp2
set_option linter.unusedVariables false
set_option linter.unusedSimpArgs false
namespace Go.Proofs.YtpooehcjchkbkaaV
open Go.RowKit
attribute [local simp] TK.agg constAV evalAV EK.has EK.hasAll vecEls elsR AV.toD toDs AV.cells AV.one joinD TyI.zeroD OpR.of binIntF binStrF AV.isPtr ptrNil slNil mpNil nilE eqF negF posF binF pelF pvLoad pelSet pvStore boxLoad epLoad loadF boxStore storeF fieldAddrF fieldF epOf indexAddrF byteF indexF mapLen lenF cutF sliceF sliceN sliceX isSl slice3F fillF fillV arrFs buildF partsX landV buildSliceF roomB appVec appendF appMkF capF mmFrom mmF max2' min2' clearVec clearF convF unF pickF nilChkF extF ptrsOf callF makeSliceF sameKs sameD kindIs plainFs keyOk mapOb mapEs okV lookF lookupF putE putS mapPut mapUpdateF mapDel deleteF mapAll rangeM rangeF overV hitV nextO nextF entryM entryO entryF itOids builtinF capsOf allocF boxF bytesL bytesF byteTy strTy convertF makeFuncF mapNew makeMapF makeMapH opF reach reachOf AObj.live closedB nodupB packO packL packX backN backG backO obL backE frzX frzO AV.vids frzL landC sameObs landR touchF bitsW D.cells D.decEq D.decEqs AV.decEq AV.decEqs AObj.decEq AV.oids0 AV.oids AObj.oids renG renP AV.ren0 AV.ren envGet envPut envKeep obGet setEff putV St.put stepS keyChk chkD accD Ex.block AV.under AObj.under laysOf roomFor mkvO frzG szOk killO usedBy tidyS canL canS ghost ghostE normSt resOf allSome one0 resultsF finL finishL finish endF startEnv chkC backX comeC AV.flat0 rngC loopO layL endLp busyL idleL noRng rndSt rndEnd wpn_nil wpn_seq wpn_loop wpn_seq_exit wpn_loop_exit wpn_seq_ret wpn_loop_ret wpn_block wpn_post wpk_skip wpk_exit wpk_ret wpk_reg wpk_seq wpk_condT wpk_block wpk_loop wpk_pre wpk_post wop_nil wop_cons wop_guard St.know envSet cond_d cond_bool cond_int cond_str endE endQ freeB disj pushT bitsW int_beq int_bne eqS_def tbE fuelL_eq ann0_lays ann0_dd ann0_ro elsOf_dsl elsOf_dnils toNat_succ nn_succ pos_succ one_succ rng1 rng2 rng3 rng4 rng5 rng6 rng7 rng8 List.idxOf_cons wpk_rng rndK rndE
structure Smp where
  (svc op : ByteArray) (e t : Int)
def Smp.d (s : Smp) : D := .agg [.str s.svc, .str s.op, .int .i64 s.e, .int .i64 s.t]
def mtc (M : Mon) (s : Smp) : Bool := eqS s.svc M.rul.svc && eqS s.op M.rul.op
set_option maxRecDepth 100000 in
theorem match42_run (M : Mon) (L : List D) (i : Nat) (hL : atM L i M) (s : Smp) : run CC 42 [.d s.d, .ptr 0 0] [.box [.pv 1 0 i 1035 0], .vec 0 false false 91 1035 L] = some (.d (.bool (mtc M s)), [.box [.pv 1 0 i 1035 0], .vec 0 false false 91 1035 L]) := by
  refine run_code (s := s42 2) rfl rfl rfl (by kernel_rfl) ?_
  have hlt := hL.lt
  have hge := hL.get
  have hee := hL.e hlt
  have m1 := md_g1 M
  have m2 := md_g2 M
  have f1 := md_e m1 (by rw [md_len]; omega)
  have f2 := md_e m2 (by rw [md_len]; omega)
  have ml := md_len M
  unfold mtc
  cases h1 : eqS s.svc M.rul.svc with
  | true => cases h2 : eqS s.op M.rul.op <;> simp [s42, eqCells, T3, T4, T5, T9, T23, T25, T27, T32, T33, T35, T39, T50, T52, T57, T59, T64, T65, T66, T70, T71, T77, T81, T83, T88, T89, T91, T95, T97, T99, T100, T112, CT, Smp.d, hlt, hge, hee, m1, m2, f1, f2, ml, h1, h2]
  | false => simp [s42, eqCells, T3, T4, T5, T9, T23, T25, T27, T32, T33, T35, T39, T50, T52, T57, T59, T64, T65, T66, T70, T71, T77, T81, T83, T88, T89, T91, T95, T97, T99, T100, T112, CT, Smp.d, hlt, hge, hee, m1, m2, f1, f2, ml, h1]
def fndS (M : Mon) : List Smp → Nat → Option Nat
  | [], _ => none
  | s :: l, i => if mtc M s = true then some i else fndS M l (i + 1)
def oI : Option Nat → Int
  | none => -1
  | some i => i
theorem smp_get (l : List Smp) {j : Nat} (h : j < l.length) : (l.map Smp.d)[j]? = some (Smp.d l[j]) := by simp [h]
set_option maxRecDepth 100000 in
set_option maxHeartbeats 4000000 in
theorem idx41_run (M : Mon) (L : List D) (i : Nat) (hL : atM L i M) (A : D) (l : List Smp) (hA : elsOf (.d A) = some (l.map Smp.d)) (hl : l.length < 1000) : run CC 41 [.d A, .fn 42 [] [(0, 0)]] [.box [.pv 1 0 i 1035 0], .vec 0 false false 91 1035 L] = some (.d (.int .i64 (oI (fndS M l 0))), [.box [.pv 1 0 i 1035 0], .vec 0 false false 91 1035 L]) := by
  refine run_code (s := s41 2) rfl rfl rfl (by kernel_rfl) ?_
  have hm := fun s => match42_run M L i hL s
  have hg := fun j hj => smp_get l (j := j) hj
  have hll : (l.map Smp.d).length = l.length := by simp
  have hdr : ∀ j (hj : j < l.length), fndS M (l.drop j) j = if mtc M l[j] = true then some j else fndS M (l.drop (j + 1)) (j + 1) := fun j hj => by
    rw [List.drop_eq_getElem_cons hj]; rfl
  obtain ⟨R, hR⟩ : ∃ R, R = fndS M l 0 := ⟨_, rfl⟩
  rw [← hR]
  generalize hE : l.map Smp.d = E at *
  simp [s41, eqCells, T3, T4, T5, T9, T23, T25, T27, T32, T33, T35, T39, T50, T52, T57, T59, T64, T65, T66, T70, T71, T77, T81, T83, T88, T89, T91, T95, T97, T99, T100, T112, CT, hA, hll]
  refine wlp_inv (S := fun j : Nat => ⟨[(0, .d A), (1, .fn 42 [] [(0, 0)]), (7, .d (.int .i64 l.length)), (8, .d (.int .i64 j))], [.box [.pv 1 0 i 1035 0], .vec 0 false false 91 1035 L]⟩) (m := fun j => l.length - j) (Inv := fun j => j ≤ l.length ∧ fndS M (l.drop j) j = R) ?_ 0 ⟨Nat.zero_le _, hR.symm⟩
  rintro j ⟨hj, hjR⟩ ih
  rw [e41_1]
  by_cases hlt : j < l.length
  · have hx := hg j hlt
    have hEj : j < E.length := by omega
    have hEe := (List.getElem?_eq_some_iff.1 hx).2
    have hmm := hm l[j]
    have hd := hdr j hlt
    rw [hjR] at hd
    have w1 : IntKind.i64.wrap ((j : Int) + 1) = (j : Int) + 1 := wrap64 (by omega) (by omega)
    have p1 : (j : Int) < l.length := by omega
    cases hc : mtc M l[j] with
    | true =>
      rw [hc] at hmm
      rw [hc, if_pos rfl] at hd
      rw [hd]
      clear ih hg hm hdr
      generalize l[j] = y at *
      simp only [Smp.d] at hmm hx hEe
      simp [c41_1, eqCells, T3, T4, T5, T9, T23, T25, T27, T32, T33, T35, T39, T50, T52, T57, T59, T64, T65, T66, T70, T71, T77, T81, T83, T88, T89, T91, T95, T97, T99, T100, T112, CT, hA, hll, hx, hEj, hEe, p1, w1, hlt, hmm, oI]
    | false =>
      rw [hc] at hmm
      rw [hc, if_neg (by simp)] at hd
      have ih2 := ih (j + 1) ⟨by omega, hd.symm⟩ (by omega)
      clear ih hg hm hdr
      generalize l[j] = y at *
      simp only [Smp.d] at hmm hx hEe
      try simp at ih2
      simp [c41_1, eqCells, T3, T4, T5, T9, T23, T25, T27, T32, T33, T35, T39, T50, T52, T57, T59, T64, T65, T66, T70, T71, T77, T81, T83, T88, T89, T91, T95, T97, T99, T100, T112, CT, hA, hll, hx, hEj, hEe, p1, w1, hlt, hmm]
      exact ih2
  · have e : j = l.length := by omega
    subst e
    rw [List.drop_length] at hjR
    clear ih hg hm hdr
    simp [c41_1, eqCells, T3, T4, T5, T9, T23, T25, T27, T32, T33, T35, T39, T50, T52, T57, T59, T64, T65, T66, T70, T71, T77, T81, T83, T88, T89, T91, T95, T97, T99, T100, T112, CT, ← hjR, fndS, oI]
end Go.Proofs.YtpooehcjchkbkaaV
