/- The monitor as an element of a list: observe. -/
import Derived.Test.YtpooehcjchkbkaaWp1
set_option linter.unusedVariables false
set_option linter.unusedSimpArgs false
namespace Go.Proofs.YtpooehcjchkbkaaV
open Go.RowKit
attribute [local simp] TK.agg constAV evalAV EK.has EK.hasAll vecEls elsR AV.toD toDs AV.cells AV.one joinD TyI.zeroD OpR.of binIntF binStrF AV.isPtr ptrNil slNil mpNil nilE eqF negF posF binF pelF pvLoad pelSet pvStore boxLoad epLoad loadF boxStore storeF fieldAddrF fieldF epOf indexAddrF byteF indexF mapLen lenF cutF sliceF sliceN sliceX isSl slice3F fillF fillV arrFs buildF partsX landV buildSliceF roomB appVec appendF appMkF capF mmFrom mmF max2' min2' clearVec clearF convF unF pickF nilChkF extF ptrsOf callF makeSliceF sameKs sameD kindIs plainFs keyOk mapOb mapEs okV lookF lookupF putE putS mapPut mapUpdateF mapDel deleteF mapAll rangeM rangeF overV hitV nextO nextF entryM entryO entryF itOids builtinF capsOf allocF boxF bytesL bytesF byteTy strTy convertF makeFuncF mapNew makeMapF makeMapH opF reach reachOf AObj.live closedB nodupB packO packL packX backN backG backO obL backE frzX frzO AV.vids frzL landC sameObs landR touchF bitsW D.cells D.decEq D.decEqs AV.decEq AV.decEqs AObj.decEq AV.oids0 AV.oids AObj.oids renG renP AV.ren0 AV.ren envGet envPut envKeep obGet setEff putV St.put stepS keyChk chkD accD Ex.block AV.under AObj.under laysOf roomFor mkvO frzG szOk killO usedBy tidyS canL canS ghost ghostE normSt resOf allSome one0 resultsF finL finishL finish endF startEnv chkC backX comeC AV.flat0 rngC loopO layL endLp busyL idleL noRng rndSt rndEnd wpn_nil wpn_seq wpn_loop wpn_seq_exit wpn_loop_exit wpn_seq_ret wpn_loop_ret wpn_block wpn_post wpk_skip wpk_exit wpk_ret wpk_reg wpk_seq wpk_condT wpk_block wpk_loop wpk_pre wpk_post wop_nil wop_cons wop_guard St.know envSet cond_d cond_bool cond_int cond_str endE endQ freeB disj pushT bitsW int_beq int_bne eqS_def tbE fuelL_eq ann0_lays ann0_dd ann0_ro elsOf_dsl elsOf_dnils toNat_succ nn_succ pos_succ one_succ rng1 rng2 rng3 rng4 rng5 rng6 rng7 rng8 List.idxOf_cons wpk_rng rndK rndE
theorem set_setD {L : List D} {j : Nat} (x y : D) : (L.set j x).set j y = L.set j y := List.set_set ..
set_option maxRecDepth 100000 in
set_option maxHeartbeats 8000000 in
theorem obs38p_run (M : Mon) (L : List D) (i : Nat) (hL : atM L i M) (e t : Int) (hr : M.rul.rg) (hs : M.seen = M.hist.length) (hl : M.hist.length < 256) (hh : 0 ≤ M.held ∧ M.held ≤ M.hist.length) (ho : okH (M.hist ++ [(e, t)])) (ht : sT (M.hist ++ [(e, t)]) ≤ 4294967296) :
    run CC 38 [.pv 0 0 i 1035 0, .d (.int .i64 e), .d (.int .i64 t)] [.vec 0 false false 91 1035 L] = some (.d (.int .i64 (M.obs e t).state), [.vec 0 false false 91 1035 (L.set i (.agg (monD (M.obs e t))))]) := by
  refine run_code (s := s38 1) rfl rfl rfl (by kernel_rfl) ?_
  have hlt := hL.lt
  have hge := hL.get
  have hee := hL.e hlt
  obtain ⟨g1, g2, g3, g4, g5, g6, g7, g8, g9⟩ := hr
  have w1 : ((M.hist.length : Nat) : Int).tmod 256 = (M.hist.length : Nat) := by rw [Int.tmod_eq_of_lt] <;> omega
  have w2 : IntKind.i64.wrap ((M.hist.length : Nat) : Int) = (M.hist.length : Nat) := wrap64 (by omega) (by omega)
  have hj2 : (M.hist.length : Int) < 256 := by omega
  have hj3 : M.hist.length * 4 ≤ 1023 := by omega
  have hj4 : 8 + M.hist.length * 4 + 4 ≤ 1035 := by omega
  have hj5 : 8 + M.hist.length * 4 ≤ 1031 := by omega
  have w3 : IntKind.i64.wrap ((M.hist.length : Int) + 1) = (M.hist.length : Int) + 1 := wrap64 (by omega) (by omega)
  have w4 : IntKind.i64.wrap (M.held + 1) = M.held + 1 := wrap64 (by omega) (by omega)
  have hp := md_put M M.hist.length (8 + M.hist.length * 4) e t rfl rfl hl
  simp only [samD, List.cons_append, List.nil_append] at hp
  let M0 : Mon := {M with hist := M.hist ++ [(e, t)]}
  let M1 : Mon := ⟨M.rul, M.hist ++ [(e, t)], M.hist.length + 1, M.held, M.state⟩
  have hM1 : atM (L.set i (.agg (monD M1))) i M1 := atM_set hlt M1
  have r1 := rate48p_run M1 _ i hM1 M.rul.long.toNat (by omega) (by simp [M1]) (by simp [M1]; omega) ⟨g1, by show M.rul.target < 1000000; omega⟩ ho ht
  have r2 := rate48p_run M1 _ i hM1 M.rul.short.toNat (by omega) (by simp [M1]) (by simp [M1]; omega) ⟨g1, by show M.rul.target < 1000000; omega⟩ ho ht
  simp only [M1, show ((M.rul.long.toNat : Nat) : Int) = M.rul.long by omega, show ((M.rul.short.toNat : Nat) : Int) = M.rul.short by omega] at r1 r2
  have k1032 := fun M => md_g1032 M
  have k1033 := fun M => md_g1033 M
  have k1034 := fun M => md_g1034 M
  have k4 := fun M => md_g4 M
  have k5 := fun M => md_g5 M
  have k6 := fun M => md_g6 M
  have k7 := fun M => md_g7 M
  have f1032 := fun M h => md_e (md_g1032 M) h
  have f1033 := fun M h => md_e (md_g1033 M) h
  have f1034 := fun M h => md_e (md_g1034 M) h
  have f4 := fun M h => md_e (md_g4 M) h
  have f5 := fun M h => md_e (md_g5 M) h
  have f6 := fun M h => md_e (md_g6 M) h
  have f7 := fun M h => md_e (md_g7 M) h
  by_cases q1 : rateI M.rul.target (M.hist ++ [(e, t)]) M.rul.long.toNat < M.rul.burn
  · simp [s38, eqCells, T3, T4, T5, T9, T23, T25, T27, T32, T33, T35, T39, T50, T52, T57, T59, T64, T65, T66, T70, T71, T77, T81, T83, T88, T89, T91, T95, T97, T99, T100, T112, CT, hlt, hge, hee, md_len, k1032, k1033, k1034, k4, k5, k6, k7, f1032, f1033, f1034, f4, f5, f6, f7, hs, w1, w2, w3, w4, hj2, hj3, hj4, hj5, hp, md_s1032, md_s1033, md_s1034, r1, r2, q1]
    have hm : M.obs e t = ⟨M.rul, M.hist ++ [(e, t)], M.hist.length + 1, 0, 0⟩ := by simp [Mon.obs, lowI, q1, hs]
    rw [hm]; exact ⟨rfl, rfl⟩
  · by_cases q2 : rateI M.rul.target (M.hist ++ [(e, t)]) M.rul.short.toNat < M.rul.burn
    · have hm : M.obs e t = ⟨M.rul, M.hist ++ [(e, t)], M.hist.length + 1, 0, 0⟩ := by simp [Mon.obs, lowI, q2, hs]
      simp [s38, eqCells, T3, T4, T5, T9, T23, T25, T27, T32, T33, T35, T39, T50, T52, T57, T59, T64, T65, T66, T70, T71, T77, T81, T83, T88, T89, T91, T95, T97, T99, T100, T112, CT, hlt, hge, hee, md_len, k1032, k1033, k1034, k4, k5, k6, k7, f1032, f1033, f1034, f4, f5, f6, f7, hs, w1, w2, w3, w4, hj2, hj3, hj4, hj5, hp, md_s1032, md_s1033, md_s1034, r1, r2, q1, q2]
      rw [hm]; exact ⟨rfl, rfl⟩
    · by_cases q3 : M.rul.forr < M.held + 1
      · have hm : M.obs e t = ⟨M.rul, M.hist ++ [(e, t)], M.hist.length + 1, M.held + 1, 2⟩ := by simp [Mon.obs, lowI, q1, q2, q3, hs]
        simp [s38, eqCells, T3, T4, T5, T9, T23, T25, T27, T32, T33, T35, T39, T50, T52, T57, T59, T64, T65, T66, T70, T71, T77, T81, T83, T88, T89, T91, T95, T97, T99, T100, T112, CT, hlt, hge, hee, md_len, k1032, k1033, k1034, k4, k5, k6, k7, f1032, f1033, f1034, f4, f5, f6, f7, hs, w1, w2, w3, w4, hj2, hj3, hj4, hj5, hp, md_s1032, md_s1033, md_s1034, r1, r2, q1, q2, q3]
        rw [hm]; exact ⟨rfl, rfl⟩
      · have hm : M.obs e t = ⟨M.rul, M.hist ++ [(e, t)], M.hist.length + 1, M.held + 1, 1⟩ := by simp [Mon.obs, lowI, q1, q2, q3, hs]
        simp [s38, eqCells, T3, T4, T5, T9, T23, T25, T27, T32, T33, T35, T39, T50, T52, T57, T59, T64, T65, T66, T70, T71, T77, T81, T83, T88, T89, T91, T95, T97, T99, T100, T112, CT, hlt, hge, hee, md_len, k1032, k1033, k1034, k4, k5, k6, k7, f1032, f1033, f1034, f4, f5, f6, f7, hs, w1, w2, w3, w4, hj2, hj3, hj4, hj5, hp, md_s1032, md_s1033, md_s1034, r1, r2, q1, q2, q3]
        rw [hm]; exact ⟨rfl, rfl⟩
end Go.Proofs.YtpooehcjchkbkaaV
