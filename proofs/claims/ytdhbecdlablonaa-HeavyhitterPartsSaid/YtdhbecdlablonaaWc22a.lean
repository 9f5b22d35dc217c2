/- Small functions of chapter 22. -/
import Derived.Test.YtdhbecdlablonaaWcAA
import Derived.Test.YtdhbecdlablonaaVC
set_option linter.unusedVariables false
set_option linter.unusedSimpArgs false
namespace Go.Proofs.YtdhbecdlablonaaV
open Go.RowKit
attribute [local simp] TK.agg constAV evalAV EK.has EK.hasAll vecEls elsR AV.toD toDs AV.cells AV.one joinD TyI.zeroD OpR.of binIntF binStrF AV.isPtr ptrNil slNil mpNil nilE eqF negF posF binF pelF pvLoad pelSet pvStore boxLoad epLoad loadF boxStore storeF fieldAddrF fieldF epOf indexAddrF byteF indexF mapLen lenF cutF sliceF sliceN sliceX isSl slice3F fillF fillV arrFs buildF partsX landV buildSliceF roomB appVec appendF appMkF capF mmFrom mmF max2' min2' clearVec clearF convF unF pickF nilChkF extF ptrsOf callF makeSliceF sameKs sameD kindIs plainFs keyOk mapOb mapEs okV lookF lookupF putE putS mapPut mapUpdateF mapDel deleteF mapAll rangeM rangeF overV hitV nextO nextF entryM entryO entryF itOids builtinF capsOf allocF boxF bytesL bytesF byteTy strTy convertF makeFuncF mapNew makeMapF makeMapH opF reach reachOf AObj.live closedB nodupB packO packL packX backN backG backO obL backE frzX frzO AV.vids frzL landC sameObs landR touchF bitsW D.cells D.decEq D.decEqs AV.decEq AV.decEqs AObj.decEq AV.oids0 AV.oids AObj.oids renG renP AV.ren0 AV.ren envGet envPut envKeep obGet setEff putV St.put stepS keyChk chkD accD Ex.block AV.under AObj.under laysOf roomFor mkvO frzG szOk killO usedBy tidyS canL canS ghost ghostE normSt resOf allSome one0 resultsF finL finishL finish endF startEnv chkC backX comeC AV.flat0 rngC loopO layL endLp busyL idleL noRng rndSt rndEnd wpn_nil wpn_seq wpn_loop wpn_seq_exit wpn_loop_exit wpn_seq_ret wpn_loop_ret wpn_block wpn_post wpk_skip wpk_exit wpk_ret wpk_reg wpk_seq wpk_condT wpk_block wpk_loop wpk_pre wpk_post wop_nil wop_cons wop_guard St.know envSet cond_d cond_bool cond_int cond_str endE endQ freeB disj pushT bitsW int_beq int_bne eqS_def tbE fuelL_eq ann0_lays ann0_dd ann0_ro elsOf_dsl elsOf_dnils toNat_succ nn_succ pos_succ one_succ rng1 rng2 rng3 rng4 rng5 rng6 rng7 rng8 List.idxOf_cons wpk_rng rndK rndE
theorem known_run : run CC 13 [] [] = some (.d (.bool true), []) := run_of_go 300 (by kernel_rfl)

theorem isNaN_run (a : Int) : run CC 54 [.d (.int .i64 a)] [] = some (.d (.bool false), []) := by
  refine run_code (s := s54 0) rfl rfl rfl (by kernel_rfl) ?_
  simp [s54, TK.agg, constAV, evalAV, eqCells, EK.has, EK.hasAll, vecEls, elsR, AV.toD, toDs, AV.cells, AV.one, joinD, TyI.zeroD, OpR.of, binIntF, binStrF, AV.isPtr, ptrNil, slNil, mpNil, nilE, eqF, negF, posF, binF, pelF, pvLoad, pelSet, pvStore, boxLoad, epLoad, loadF, boxStore, storeF, fieldAddrF, fieldF, epOf, indexAddrF, byteF, indexF, mapLen, lenF, cutF, sliceF, sliceN, sliceX, isSl, slice3F, fillF, fillV, arrFs, buildF, partsX, landV, buildSliceF, roomB, appVec, appendF, appMkF, capF, mmFrom, mmF, max2', min2', clearVec, clearF, convF, unF, pickF, nilChkF, extF, ptrsOf, callF, makeSliceF, sameKs, sameD, kindIs, plainFs, keyOk, mapOb, mapEs, okV, lookF, lookupF, putE, putS, mapPut, mapUpdateF, mapDel, deleteF, mapAll, rangeM, rangeF, overV, hitV, nextO, nextF, entryM, entryO, entryF, itOids, builtinF, capsOf, allocF, boxF, bytesL, bytesF, byteTy, strTy, convertF, makeFuncF, mapNew, makeMapF, makeMapH, opF, reach, reachOf, AObj.live, closedB, nodupB, packO, packL, packX, backN, backG, backO, obL, backE, frzX, frzO, AV.vids, frzL, landC, sameObs, landR, touchF, bitsW, D.cells, D.decEq, D.decEqs, AV.decEq, AV.decEqs, AObj.decEq, AV.oids0, AV.oids, AObj.oids, renG, renP, AV.ren0, AV.ren, envGet, envPut, envKeep, obGet, setEff, putV, St.put, stepS, keyChk, chkD, accD, Ex.block, AV.under, AObj.under, laysOf, roomFor, mkvO, frzG, szOk, killO, usedBy, tidyS, canL, canS, ghost, ghostE, normSt, resOf, allSome, one0, resultsF, finL, finishL, finish, endF, startEnv, chkC, backX, comeC, AV.flat0, rngC, loopO, layL, endLp, busyL, idleL, noRng, rndSt, rndEnd, wpn_nil, wpn_seq, wpn_loop, wpn_seq_exit, wpn_loop_exit, wpn_seq_ret, wpn_loop_ret, wpn_block, wpn_post, wpk_skip, wpk_exit, wpk_ret, wpk_reg, wpk_seq, wpk_condT, wpk_block, wpk_loop, wpk_pre, wpk_post, wop_nil, wop_cons, wop_guard, St.know, envSet, cond_d, cond_bool, cond_int, cond_str, endE, endQ, freeB, disj, pushT, bitsW, int_beq, int_bne, eqS_def, tbE, fuelL_eq, ann0_lays, ann0_dd, ann0_ro, elsOf_dsl, elsOf_dnils, toNat_succ, nn_succ, pos_succ, one_succ, rng1, rng2, rng3, rng4, rng5, rng6, rng7, rng8, List.idxOf_cons, wpk_rng, rndK, rndE]
theorem isNaNs_run (a : ByteArray) : run CC 58 [.d (.str a)] [] = some (.d (.bool false), []) := by
  refine run_code (s := s58 0) rfl rfl rfl (by kernel_rfl) ?_
  simp [s58, eqCells, eqS_self]
def cmpI (a b : Int) : Int := if a < b then -1 else if b < a then 1 else 0
theorem cmpI_run (a b : Int) : run CC 43 [.d (.int .i64 a), .d (.int .i64 b)] [] = some (.d (.int .i64 (cmpI a b)), []) := by
  refine run_code (s := s43 0) rfl rfl rfl (by kernel_rfl) ?_
  simp [s43, eqCells, isNaN_run]
  unfold cmpI; repeat' split
  all_goals rfl
def cmpS (a b : ByteArray) : Int := if lessS a b = true then -1 else if (lessS a b || eqS a b) = true then 0 else 1
theorem cmpS_run (a b : ByteArray) : run CC 51 [.d (.str a), .d (.str b)] [] = some (.d (.int .i64 (cmpS a b)), []) := by
  refine run_code (s := s51 0) rfl rfl rfl (by kernel_rfl) ?_
  simp [s51, eqCells, isNaNs_run]
  unfold cmpS
  cases lessS a b <;> cases eqS a b <;> simp
def firstNZ : List Int → Int
  | [] => 0
  | x :: l => if x = 0 then firstNZ l else x
theorem or_run (l : List Int) (A : D) (hl : l.length < 1000) (hA : elsOf (.d A) = some (l.map (D.int .i64))) : run CC 56 [.d A] [] = some (.d (.int .i64 (firstNZ l)), []) := by
  refine run_code (s := s56 0) rfl rfl rfl (by kernel_rfl) ?_
  simp [s56, eqCells, T3, T4, T5, T9, T22, T25, T26, T28, T29, T36, T41, T47, T69, T74, T78, T85, T90, T98, T104, CT, hA]
  refine wlp_inv (S := fun p : List Int × List Int => ⟨[(3, .d (.int .i64 0)), (6, .d A), (7, .d (.int .i64 l.length)), (8, .d (.int .i64 p.1.length))], []⟩) (m := fun p => p.2.length) (Inv := fun p => p.1 ++ p.2 = l ∧ firstNZ p.2 = firstNZ l) ?_ ([], l) ⟨rfl, rfl⟩
  rintro ⟨pre, suf⟩ ⟨rfl, h2⟩ ih
  rw [e56_1]
  simp only at h2 ⊢
  rw [← h2] at ih ⊢
  clear h2
  cases suf with
  | nil => simp [c56_1, eqCells, T3, T4, T5, T9, T22, T25, T26, T28, T29, T36, T41, T47, T69, T74, T78, T85, T90, T98, T104, CT, hA, firstNZ]
  | cons x suf =>
    have hw : IntKind.i64.wrap ((pre.length : Int) + 1) = (pre.length : Int) + 1 := wrap64 (by omega) (by simp at hl; omega)
    have hx : ((pre ++ x :: suf).map (D.int .i64))[pre.length]? = some (.int .i64 x) := by simp
    have ih := ih (pre ++ [x], suf)
    simp at ih
    simp [c56_1, eqCells, T3, T4, T5, T9, T22, T25, T26, T28, T29, T36, T41, T47, T69, T74, T78, T85, T90, T98, T104, CT, hA, hx, hw]
    rw [if_pos (by omega)]
    split
    · rename_i h; exact ih (by simp [firstNZ, h])
    · rename_i h; simp [firstNZ, h]

def withinB (lo hi : Int) : List UInt8 → Bool
  | [] => true
  | c :: l => !(decide ((c.toNat : Int) < lo)) && !(decide (hi < (c.toNat : Int))) && withinB lo hi l
theorem within_run (s : ByteArray) (lo hi : Int) (hs : s.size < 9223372036854775807) : run CC 47 [.d (.str s), .d (.int .u8 lo), .d (.int .u8 hi)] [] = some (.d (.bool (withinB lo hi s.data.toList)), []) := by
  refine run_code (s := s47 0) rfl rfl rfl (by kernel_rfl) ?_
  simp [s47, eqCells, T3, T4, T5, T9, T22, T25, T26, T28, T29, T36, T41, T47, T69, T74, T78, T85, T90, T98, T104, CT]
  refine wlp_inv (S := fun p : List UInt8 × List UInt8 => ⟨[(0, .d (.str s)), (1, .d (.int .u8 lo)), (2, .d (.int .u8 hi)), (9, .d (.int .i64 s.size)), (10, .d (.int .i64 p.1.length))], []⟩) (m := fun p => p.2.length) (Inv := fun p => p.1 ++ p.2 = s.data.toList ∧ withinB lo hi p.2 = withinB lo hi s.data.toList) ?_ ([], s.data.toList) ⟨rfl, rfl⟩
  rintro ⟨pre, suf⟩ ⟨hp, h2⟩ ih
  rw [e47_1]
  simp only at hp h2 ⊢
  rw [← h2] at ih ⊢
  clear h2
  have hL : s.size = pre.length + suf.length := by rw [← ByteArray.size_data, ← Array.length_toList, ← hp]; simp
  cases suf with
  | nil => simp [c47_1, eqCells, T3, T4, T5, T9, T22, T25, T26, T28, T29, T36, T41, T47, T69, T74, T78, T85, T90, T98, T104, CT, withinB, hL]
  | cons c suf =>
    have hw : IntKind.i64.wrap ((pre.length : Int) + 1) = (pre.length : Int) + 1 := wrap64 (by omega) (by omega)
    have hx : s.data[pre.length]? = some c := by rw [← Array.getElem?_toList, ← hp]; simp
    have ih := ih (pre ++ [c], suf)
    simp at ih hL
    simp [c47_1, eqCells, T3, T4, T5, T9, T22, T25, T26, T28, T29, T36, T41, T47, T69, T74, T78, T85, T90, T98, T104, CT, hx, hw]
    rw [if_pos (by omega)]
    split
    · split
      · rename_i h1 h; simp [withinB, h]
      · rename_i h1 h; exact ih (by simpa using hp) (by simp [withinB, h]; omega)
    · rename_i h; simp [withinB]; omega
def isEmp (s : ByteArray) : Bool := eqS s ⟨#[]⟩
theorem isEmp_def (s : ByteArray) : eqS s ⟨#[]⟩ = isEmp s := rfl
def isName (s : ByteArray) : Bool := !isEmp s && decide ((s.size : Int) ≤ 64) && withinB 33 126 s.data.toList
theorem isName_run (s : ByteArray) : run CC 29 [.d (.str s)] [] = some (.d (.bool (isName s)), []) := by
  refine run_code (s := s29 0) rfl rfl rfl (by kernel_rfl) ?_
  by_cases h2 : (s.size : Int) ≤ 64
  · have := within_run s 33 126 (by omega)
    simp [s29, eqCells, T3, T4, T5, T9, T22, T25, T26, T28, T29, T36, T41, T47, T69, T74, T78, T85, T90, T98, T104, CT, isEmp_def, this, h2, isName]
    split <;> simp_all
  · simp [s29, eqCells, T3, T4, T5, T9, T22, T25, T26, T28, T29, T36, T41, T47, T69, T74, T78, T85, T90, T98, T104, CT, isEmp_def, h2, isName]
end Go.Proofs.YtdhbecdlablonaaV
