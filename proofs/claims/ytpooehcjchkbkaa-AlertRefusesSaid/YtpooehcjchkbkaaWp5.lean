/- New. -/
import Derived.Test.YtpooehcjchkbkaaWp4
import Derived.Test.YtpooehcjchkbkaaWc49j
import Derived.Test.YtpooehcjchkbkaaVC
import Derived.Test.YtpooehcjchkbkaaVD
set_option linter.unusedVariables false
set_option linter.unusedSimpArgs false
namespace Go.Proofs.YtpooehcjchkbkaaV
open Go.RowKit
attribute [local simp] TK.agg constAV evalAV EK.has EK.hasAll vecEls elsR AV.toD toDs AV.cells AV.one joinD TyI.zeroD OpR.of binIntF binStrF AV.isPtr ptrNil slNil mpNil nilE eqF negF posF binF pelF pvLoad pelSet pvStore boxLoad epLoad loadF boxStore storeF fieldAddrF fieldF epOf indexAddrF byteF indexF mapLen lenF cutF sliceF sliceN sliceX isSl slice3F fillF fillV arrFs buildF partsX landV buildSliceF roomB appVec appendF appMkF capF mmFrom mmF max2' min2' clearVec clearF convF unF pickF nilChkF extF ptrsOf callF makeSliceF sameKs sameD kindIs plainFs keyOk mapOb mapEs okV lookF lookupF putE putS mapPut mapUpdateF mapDel deleteF mapAll rangeM rangeF overV hitV nextO nextF entryM entryO entryF itOids builtinF capsOf allocF boxF bytesL bytesF byteTy strTy convertF makeFuncF mapNew makeMapF makeMapH opF reach reachOf AObj.live closedB nodupB packO packL packX backN backG backO obL backE frzX frzO AV.vids frzL landC sameObs landR touchF bitsW D.cells D.decEq D.decEqs AV.decEq AV.decEqs AObj.decEq AV.oids0 AV.oids AObj.oids renG renP AV.ren0 AV.ren envGet envPut envKeep obGet setEff putV St.put stepS keyChk chkD accD Ex.block AV.under AObj.under laysOf roomFor mkvO frzG szOk killO usedBy tidyS canL canS ghost ghostE normSt resOf allSome one0 resultsF finL finishL finish endF startEnv chkC backX comeC AV.flat0 rngC loopO layL endLp busyL idleL noRng rndSt rndEnd wpn_nil wpn_seq wpn_loop wpn_seq_exit wpn_loop_exit wpn_seq_ret wpn_loop_ret wpn_block wpn_post wpk_skip wpk_exit wpk_ret wpk_reg wpk_seq wpk_condT wpk_block wpk_loop wpk_pre wpk_post wop_nil wop_cons wop_guard St.know envSet cond_d cond_bool cond_int cond_str endE endQ freeB disj pushT bitsW int_beq int_bne eqS_def tbE fuelL_eq ann0_lays ann0_dd ann0_ro elsOf_dsl elsOf_dnils toNat_succ nn_succ pos_succ one_succ rng1 rng2 rng3 rng4 rng5 rng6 rng7 rng8 List.idxOf_cons wpk_rng rndK rndE
theorem zr91_monD (r : Rul) : D.str r.name :: .str r.svc :: .str r.op :: .int .i64 r.target :: .int .i64 r.long :: .int .i64 r.short :: .int .i64 r.burn :: .int .i64 r.forr :: zr91 = monD (Mon.new r) := mapd_inj (by rw [monD_map, ← zr91_mon]; rfl)
abbrev mSB (m : List (ByteArray × Bool)) : List (D × D) := mapD strK D.bool m
theorem mSB_put (a : ByteArray) (v : Bool) (m : List (ByteArray × Bool)) : putE (.str a) (.bool v) (mSB m) (findD (.str a) (mSB m) 0) = some (mSB (putP strK a v m)) := putE_put strK D.bool a v m
/-- The names so far. -/
def nmM : List Rul → List (ByteArray × Bool)
  | rs => rs.foldl (fun m r => putP strK r.name true m) []
theorem nmM_snoc (rs : List Rul) (r : Rul) : nmM (rs ++ [r]) = putP strK r.name true (nmM rs) := by unfold nmM; rw [List.foldl_append]; rfl
theorem putS_len (x : ByteArray) (v : Bool) : ∀ (m : List (ByteArray × Bool)), (putP strK x v m).length = if (∃ p ∈ m, p.1 = x) then m.length else m.length + 1
  | [] => by simp [putP]
  | (q, u) :: r => by
    have ih := putS_len x v r
    unfold putP
    by_cases h : strK.eqb x q = true
    · have := (strK.eq x q).1 h
      subst this
      simp [h]
    · have hne : q ≠ x := fun e => h ((strK.eq x q).2 e.symm)
      simp only [h, Bool.false_eq_true, if_false, List.length_cons, ih]
      by_cases hx : ∃ p ∈ r, p.1 = x
      · have hx2 : ∃ p ∈ (q, u) :: r, p.1 = x := by obtain ⟨p, hp, e⟩ := hx; exact ⟨p, by simp [hp], e⟩
        rw [if_pos hx, if_pos hx2]
      · have hx2 : ¬ ∃ p ∈ (q, u) :: r, p.1 = x := by
          rintro ⟨p, hp, e⟩
          rcases List.mem_cons.1 hp with rfl | hp
          · exact hne e
          · exact hx ⟨p, hp, e⟩
        rw [if_neg hx, if_neg hx2]
theorem putS_keys (x y : ByteArray) (v : Bool) : ∀ (m : List (ByteArray × Bool)), (∃ p ∈ putP strK x v m, p.1 = y) ↔ y = x ∨ ∃ p ∈ m, p.1 = y
  | [] => by simp [putP, eq_comm]
  | (q, u) :: r => by
    have ih := putS_keys x y v r
    unfold putP
    by_cases h : strK.eqb x q = true
    · have := (strK.eq x q).1 h
      subst this
      simp [h, eq_comm]
    · simp only [h, Bool.false_eq_true, if_false, List.mem_cons, exists_eq_or_imp, ih]
      constructor
      · rintro (h | h | h)
        · exact .inr (.inl h)
        · exact .inl h
        · exact .inr (.inr h)
      · rintro (h | h | h)
        · exact .inr (.inl h)
        · exact .inl h
        · exact .inr (.inr h)
/-- Two rules have one name. -/
def dupN (rs : List Rul) : Prop := ¬ rs.Pairwise fun x y => x.name ≠ y.name
theorem nm_keys (y : ByteArray) : ∀ (k : Nat) (rs : List Rul), rs.length = k → ((∃ p ∈ nmM rs, p.1 = y) ↔ ∃ r ∈ rs, r.name = y)
  | 0, rs, h => by have : rs = [] := List.eq_nil_of_length_eq_zero h; subst this; simp [nmM]
  | k + 1, rs, h => by
    obtain ⟨l, r, rfl⟩ : ∃ l r, rs = l ++ [r] := ⟨rs.dropLast, rs.getLast (by intro e; subst e; simp at h), (List.dropLast_concat_getLast _).symm⟩
    have ih := nm_keys y k l (by simpa using h)
    rw [nmM_snoc, putS_keys, ih]
    constructor
    · rintro (rfl | ⟨q, hq, e⟩)
      · exact ⟨r, by simp, rfl⟩
      · exact ⟨q, by simp [hq], e⟩
    · rintro ⟨q, hq, e⟩
      rcases List.mem_append.1 hq with hq | hq
      · exact .inr ⟨q, hq, e⟩
      · simp at hq; subst hq; exact .inl e.symm
theorem nm_len : ∀ (k : Nat) (rs : List Rul), rs.length = k → (nmM rs).length ≤ k ∧ ((nmM rs).length = k ↔ rs.Pairwise fun x y => x.name ≠ y.name)
  | 0, rs, h => by have : rs = [] := List.eq_nil_of_length_eq_zero h; subst this; simp [nmM]
  | k + 1, rs, h => by
    obtain ⟨l, r, rfl⟩ : ∃ l r, rs = l ++ [r] := ⟨rs.dropLast, rs.getLast (by intro e; subst e; simp at h), (List.dropLast_concat_getLast _).symm⟩
    obtain ⟨ih1, ih2⟩ := nm_len k l (by simpa using h)
    have hk := nm_keys r.name k l (by simpa using h)
    rw [nmM_snoc, putS_len]
    by_cases hx : ∃ p ∈ nmM l, p.1 = r.name
    · rw [if_pos hx]
      refine ⟨by omega, ⟨fun h => by omega, fun hp => ?_⟩⟩
      obtain ⟨q, hq, e⟩ := hk.1 hx
      exact absurd e ((List.pairwise_append.1 hp).2.2 q hq r (by simp))
    · rw [if_neg hx]
      refine ⟨by omega, ⟨fun h => ?_, fun hp => ?_⟩⟩
      · refine List.pairwise_append.2 ⟨ih2.1 (by omega), by simp, fun q hq s hs e => ?_⟩
        simp at hs; subst hs
        exact hx (hk.2 ⟨q, hq, e⟩)
      · have := ih2.2 (List.pairwise_append.1 hp).1
        omega
end Go.Proofs.YtpooehcjchkbkaaV
