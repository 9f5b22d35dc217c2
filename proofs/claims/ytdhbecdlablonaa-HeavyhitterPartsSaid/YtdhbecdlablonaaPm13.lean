/- breakPatterns: some permutation. -/
import Derived.Test.YtdhbecdlablonaaPm12
set_option linter.unusedVariables false
set_option linter.unusedSimpArgs false
namespace Go.Proofs.YtdhbecdlablonaaV.Pd
open Go.RowKit
attribute [local simp] TK.agg constAV evalAV EK.has EK.hasAll vecEls elsR AV.toD toDs AV.cells AV.one joinD TyI.zeroD OpR.of binIntF binStrF AV.isPtr ptrNil slNil mpNil nilE eqF negF posF binF pelF pvLoad pelSet pvStore boxLoad epLoad loadF boxStore storeF fieldAddrF fieldF epOf indexAddrF byteF indexF mapLen lenF cutF sliceF sliceN sliceX isSl slice3F fillF fillV arrFs buildF partsX landV buildSliceF roomB appVec appendF appMkF capF mmFrom mmF max2' min2' clearVec clearF convF unF pickF nilChkF extF ptrsOf callF makeSliceF sameKs sameD kindIs plainFs keyOk mapOb mapEs okV lookF lookupF putE putS mapPut mapUpdateF mapDel deleteF mapAll rangeM rangeF overV hitV nextO nextF entryM entryO entryF itOids builtinF capsOf allocF boxF bytesL bytesF byteTy strTy convertF makeFuncF mapNew makeMapF makeMapH opF reach reachOf AObj.live closedB nodupB packO packL packX backN backG backO obL backE frzX frzO AV.vids frzL landC sameObs landR touchF bitsW D.cells D.decEq D.decEqs AV.decEq AV.decEqs AObj.decEq AV.oids0 AV.oids AObj.oids renG renP AV.ren0 AV.ren envGet envPut envKeep obGet setEff putV St.put stepS keyChk chkD accD Ex.block AV.under AObj.under laysOf roomFor mkvO frzG szOk killO usedBy tidyS canL canS ghost ghostE normSt resOf allSome one0 resultsF finL finishL finish endF startEnv chkC backX comeC AV.flat0 rngC loopO layL endLp busyL idleL noRng rndSt rndEnd wpn_nil wpn_seq wpn_loop wpn_seq_exit wpn_loop_exit wpn_seq_ret wpn_loop_ret wpn_block wpn_post wpk_skip wpk_exit wpk_ret wpk_reg wpk_seq wpk_condT wpk_block wpk_loop wpk_pre wpk_post wop_nil wop_cons wop_guard St.know envSet cond_d cond_bool cond_int cond_str endE endQ freeB disj pushT bitsW int_beq int_bne eqS_def tbE fuelL_eq ann0_lays ann0_dd ann0_ro elsOf_dsl elsOf_dnils toNat_succ nn_succ pos_succ one_succ rng1 rng2 rng3 rng4 rng5 rng6 rng7 rng8 List.idxOf_cons wpk_rng rndK rndE
/-- what the random number picks -/
def rnd (r m : Int) : Int := IntKind.i64.wrap (IntKind.u64.wrap (((r % 2 ^ IntKind.u64.bits).toNat &&& ((m - 1) % 2 ^ IntKind.u64.bits).toNat : Nat) : Int))
theorem rnd_in (r m : Int) (hm : m = 16 ∨ m = 32) : 0 ≤ rnd r m ∧ rnd r m < m := by
  have key : ∀ (x k : Nat), x &&& k ≤ k := fun x k => Nat.and_le_right
  have h := key (r % 2 ^ IntKind.u64.bits).toNat ((m - 1) % 2 ^ IntKind.u64.bits).toNat
  unfold rnd
  generalize (r % 2 ^ IntKind.u64.bits).toNat &&& ((m - 1) % 2 ^ IntKind.u64.bits).toNat = q at *
  have hk : ((m - 1) % 2 ^ IntKind.u64.bits).toNat < m.toNat := by rcases hm with rfl | rfl <;> decide
  have w1 : IntKind.u64.wrap (q : Int) = q := by
    simp [IntKind.wrap, IntKind.bits, IntKind.signed]; omega
  rw [w1, wrap64 (by omega) (by omega)]
  omega
end Go.Proofs.YtdhbecdlablonaaV.Pd
