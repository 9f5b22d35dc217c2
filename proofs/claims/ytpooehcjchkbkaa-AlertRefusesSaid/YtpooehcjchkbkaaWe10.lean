/- The law AlertRefuses: the walk. -/
import Derived.Test.YtpooehcjchkbkaaWp11
set_option linter.unusedVariables false
set_option linter.unusedSimpArgs false
namespace Go.Proofs.YtpooehcjchkbkaaV
open Go.RowKit
attribute [local simp] TK.agg constAV evalAV EK.has EK.hasAll vecEls elsR AV.toD toDs AV.cells AV.one joinD TyI.zeroD OpR.of binIntF binStrF AV.isPtr ptrNil slNil mpNil nilE eqF negF posF binF pelF pvLoad pelSet pvStore boxLoad epLoad loadF boxStore storeF fieldAddrF fieldF epOf indexAddrF byteF indexF mapLen lenF cutF sliceF sliceN sliceX isSl slice3F fillF fillV arrFs buildF partsX landV buildSliceF roomB appVec appendF appMkF capF mmFrom mmF max2' min2' clearVec clearF convF unF pickF nilChkF extF ptrsOf callF makeSliceF sameKs sameD kindIs plainFs keyOk mapOb mapEs okV lookF lookupF putE putS mapPut mapUpdateF mapDel deleteF mapAll rangeM rangeF overV hitV nextO nextF entryM entryO entryF itOids builtinF capsOf allocF boxF bytesL bytesF byteTy strTy convertF makeFuncF mapNew makeMapF makeMapH opF reach reachOf AObj.live closedB nodupB packO packL packX backN backG backO obL backE frzX frzO AV.vids frzL landC sameObs landR touchF bitsW D.cells D.decEq D.decEqs AV.decEq AV.decEqs AObj.decEq AV.oids0 AV.oids AObj.oids renG renP AV.ren0 AV.ren envGet envPut envKeep obGet setEff putV St.put stepS keyChk chkD accD Ex.block AV.under AObj.under laysOf roomFor mkvO frzG szOk killO usedBy tidyS canL canS ghost ghostE normSt resOf allSome one0 resultsF finL finishL finish endF startEnv chkC backX comeC AV.flat0 rngC loopO layL endLp busyL idleL noRng rndSt rndEnd wpn_nil wpn_seq wpn_loop wpn_seq_exit wpn_loop_exit wpn_seq_ret wpn_loop_ret wpn_block wpn_post wpk_skip wpk_exit wpk_ret wpk_reg wpk_seq wpk_condT wpk_block wpk_loop wpk_pre wpk_post wop_nil wop_cons wop_guard St.know envSet cond_d cond_bool cond_int cond_str endE endQ freeB disj pushT bitsW int_beq int_bne eqS_def tbE fuelL_eq ann0_lays ann0_dd ann0_ro elsOf_dsl elsOf_dnils toNat_succ nn_succ pos_succ one_succ rng1 rng2 rng3 rng4 rng5 rng6 rng7 rng8 List.idxOf_cons wpk_rng rndK rndE
set_option maxRecDepth 100000 in
theorem new28_many2 (L : List D) : run CC 28 [.vs 0 0 8 0 257, .d (.int .i64 0)] [.vec 0 false false 23 8 L] = some (.tup [.nilp, .d (.int .i64 6)], [.vec 0 false false 23 8 L]) := by
  refine run_code (s := s28 1) rfl rfl rfl (by kernel_rfl) ?_
  simp [s28, eqCells, T3, T4, T5, T9, T23, T25, T27, T32, T33, T35, T39, T50, T52, T57, T59, T64, T65, T66, T70, T71, T77, T81, T83, T88, T89, T91, T95, T97, T99, T100, T112, CT]
theorem rd0 : List.replicate 0 AObj.dead = [] := rfl
theorem rd1 : List.replicate 1 AObj.dead = [.dead] := rfl
theorem rd2 : List.replicate 2 AObj.dead = [.dead, .dead] := rfl
theorem rd3 : List.replicate 3 AObj.dead = [.dead, .dead, .dead] := rfl
theorem first_eq {rs : List Rul} {J J2 : Nat} (hJ : J < rs.length) (hJ2 : J2 < rs.length) (h1 : (rs[J]).chk ≠ 0) (h2 : ∀ i (hi : i < rs.length), i < J → (rs[i]).chk = 0) (h3 : (rs[J2]).chk ≠ 0) (h4 : ∀ i (hi : i < rs.length), i < J2 → (rs[i]).chk = 0) : J = J2 := by
  rcases Nat.lt_trichotomy J J2 with h | h | h
  · exact absurd (h4 J hJ h) h1
  · exact h
  · exact absurd (h2 J2 hJ2 h) h3
set_option maxRecDepth 100000 in
set_option maxHeartbeats 16000000 in
theorem law10_run (A : D) (rs : List Rul) (hA : elsOf (.d A) = some (rs.map Rul.enc)) (frm : Int) (B : D) (l : List Smp) (hB : elsOf (.d B) = some (l.map Smp.d)) : run CC 10 [.d A, .d (.int .i64 frm), .d B] [] = some (.d (.bool true), []) := by
  refine run_code (s := s10 0) rfl rfl rfl (by kernel_rfl) ?_
  have hll : (rs.map Rul.enc).length = rs.length := by simp
  have hlB : (l.map Smp.d).length = l.length := by simp
  by_cases hb1 : 4 < rs.length
  · have q1 : (4 : Int) < rs.length := by omega
    simp [s10, eqCells, T3, T4, T5, T9, T23, T25, T27, T32, T33, T35, T39, T50, T52, T57, T59, T64, T65, T66, T70, T71, T77, T81, T83, T88, T89, T91, T95, T97, T99, T100, T112, CT, known13_run, hA, hll, q1]
  have q1 : ¬ (4 : Int) < rs.length := by omega
  by_cases hb2 : 4 < l.length
  · have q2 : (4 : Int) < l.length := by omega
    simp [s10, eqCells, T3, T4, T5, T9, T23, T25, T27, T32, T33, T35, T39, T50, T52, T57, T59, T64, T65, T66, T70, T71, T77, T81, T83, T88, T89, T91, T95, T97, T99, T100, T112, CT, known13_run, hA, hll, q1, hB, hlB, q2]
  have q2 : ¬ (4 : Int) < l.length := by omega
  have l1 := fun ks K h1 h2 => loop10_1 A B rs hA (by omega) frm ks K h1 h2
  have l2 := fun w ks K h => loop10_2 A B rs hA (by omega) frm w ks K h
  have hnew := fun R O V h1 h2 h3 h4 => new28_loop A rs hA (by omega) frm R O V h1 h2 h3 h4
  have hmany := new28_many2 (List.replicate 257 (.agg [.str ⟨#[]⟩, .str ⟨#[]⟩, .str ⟨#[]⟩, .int .i64 0, .int .i64 0, .int .i64 0, .int .i64 0, .int .i64 0]))
  have hnm := nm_len rs.length rs rfl
  generalize hE : rs.map Rul.enc = E at *
  simp [s10, eqCells, T3, T4, T5, T9, T23, T25, T27, T32, T33, T35, T39, T50, T52, T57, T59, T64, T65, T66, T70, T71, T77, T81, T83, T88, T89, T91, T95, T97, T99, T100, T112, CT, known13_run, hA, hll, q1, hB, hlB, q2]
  refine l1 _ _ (fun env => ?_) fun w hw => ?_
  · simp [eqCells, T3, T4, T5, T9, T23, T25, T27, T32, T33, T35, T39, T50, T52, T57, T59, T64, T65, T66, T70, T71, T77, T81, T83, T88, T89, T91, T95, T97, T99, T100, T112, CT]
  clear l1
  simp [eqCells, T3, T4, T5, T9, T23, T25, T27, T32, T33, T35, T39, T50, T52, T57, T59, T64, T65, T66, T70, T71, T77, T81, T83, T88, T89, T91, T95, T97, T99, T100, T112, CT]
  refine l2 w _ _ fun w2 hw2 => ?_
  clear l2
  -- an error
  have herr : ∀ w3 : Int, w3 ≠ 0 → run CC 28 [.d A, .d (.int .i64 frm)] [] = some (.tup [.nilp, .d (.int .i64 w3)], []) → True := fun _ _ _ => trivial
  clear herr
  rcases hw2 with ⟨h0, rfl⟩ | ⟨rfl, h2⟩
  · have h28 := hnew w2 [] .nilp (fun J hJ h1 h2 => by
        rcases hw with ⟨h3, -⟩ | ⟨J2, hJ2, h3, -, h5⟩
        · exact absurd h3 h0
        · have := first_eq hJ hJ2 h2 h1 (by rw [← h3]; exact h0) h5
          subst this
          exact ⟨h3, rfl, rfl⟩) (fun hall => by
        rcases hw with ⟨h3, -⟩ | ⟨J2, hJ2, h3, -, h5⟩
        · exact absurd h3 h0
        · exact absurd (hall _ (List.getElem_mem hJ2)) (by rw [← h3]; exact h0)) (fun hall => by
        rcases hw with ⟨h3, -⟩ | ⟨J2, hJ2, h3, -, h5⟩
        · exact absurd h3 h0
        · exact absurd (hall _ (List.getElem_mem hJ2)) (by rw [← h3]; exact h0)) (fun hall => by
        rcases hw with ⟨h3, -⟩ | ⟨J2, hJ2, h3, -, h5⟩
        · exact absurd h3 h0
        · exact absurd (hall _ (List.getElem_mem hJ2)) (by rw [← h3]; exact h0))
    clear hnew hw
    simp [eqCells, T3, T4, T5, T9, T23, T25, T27, T32, T33, T35, T39, T50, T52, T57, T59, T64, T65, T66, T70, T71, T77, T81, T83, T88, T89, T91, T95, T97, T99, T100, T112, CT, h0, h28, hmany, -List.reduceReplicate, rd0, rd1, rd2, rd3]
  have hall : ∀ r ∈ rs, r.chk = 0 := by
    rcases hw with ⟨-, h⟩ | ⟨J2, hJ2, h3, h4, h5⟩
    · exact h
    · exact absurd rfl h4
  have nb : ∀ {P : Prop} {J : Nat} (hJ : J < rs.length), (rs[J]).chk ≠ 0 → P := fun hJ h => absurd (hall _ (List.getElem_mem hJ)) h
  rcases h2 with ⟨rfl, hp⟩ | ⟨rfl, hd⟩
  rotate_left
  · have hdl : dupN rs → (nmM rs).length < rs.length := fun h => Nat.lt_of_le_of_ne hnm.1 fun e => h (hnm.2.1 e)
    have h28 := hnew 9 [] .nilp (fun J hJ _ h => nb hJ h) (fun _ _ => ⟨rfl, rfl, rfl⟩) (fun _ h => absurd (hdl hd) h) (fun _ h => absurd (hdl hd) h)
    clear hnew hw
    simp [eqCells, T3, T4, T5, T9, T23, T25, T27, T32, T33, T35, T39, T50, T52, T57, T59, T64, T65, T66, T70, T71, T77, T81, T83, T88, T89, T91, T95, T97, T99, T100, T112, CT, h28, hmany, -List.reduceReplicate, rd0, rd1, rd2, rd3]
  have hnd : ¬ (nmM rs).length < rs.length := fun h => absurd (hnm.2.2 hp) (by omega)
  by_cases ht : frm < 0 ∨ 1048576 < frm
  · have h28 := hnew 32 [] .nilp (fun J hJ _ h => nb hJ h) (fun _ h => absurd h hnd) (fun _ _ _ => ⟨rfl, rfl, rfl⟩) (fun _ _ h => absurd ht h)
    clear hnew hw
    by_cases h0 : frm < 0
    · simp [eqCells, T3, T4, T5, T9, T23, T25, T27, T32, T33, T35, T39, T50, T52, T57, T59, T64, T65, T66, T70, T71, T77, T81, T83, T88, T89, T91, T95, T97, T99, T100, T112, CT, h0, h28, hmany, -List.reduceReplicate, rd0, rd1, rd2, rd3]
    · have h1 : 1048576 < frm := by omega
      simp [eqCells, T3, T4, T5, T9, T23, T25, T27, T32, T33, T35, T39, T50, T52, T57, T59, T64, T65, T66, T70, T71, T77, T81, T83, T88, T89, T91, T95, T97, T99, T100, T112, CT, h0, h1, h28, hmany, -List.reduceReplicate, rd0, rd1, rd2, rd3]
  have h28 := hnew 0 [.box [.vs 1 0 1035 0 rs.length, .d (.int .i64 frm)], .vec 0 true false 91 1035 (monLs (newMs rs))] (.ptr 0 0) (fun J hJ _ h => nb hJ h) (fun _ h => absurd h hnd) (fun _ _ h => absurd h ht) (fun _ _ _ => ⟨rfl, rfl, rfl⟩)
  clear hnew hw
  have h0 : ¬ frm < 0 := by omega
  have h1 : ¬ 1048576 < frm := by omega
  have hsl := slot30_run (newMs rs) frm
  have hnl : (newMs rs).length = rs.length := by simp
  have hbd := fun h => obs29_bad rs.length frm (monLs (newMs rs)) B l hB (by omega) h
  have hgd : ∀ M ∈ newMs rs, M.gd := fun M hM => by
    obtain ⟨r, hr, rfl⟩ := List.mem_map.1 hM
    exact new_gd (hall r hr)
  have hrn := fun h => obs29_run (newMs rs) hgd (by simp; omega) frm (by omega) B l hB (by omega) h
  have hgd2 : (∀ s ∈ l, s.ok) → ∀ M ∈ (newMs rs).map (stepM l), M.gd := fun h M hM => by
    obtain ⟨M', hM', rfl⟩ := List.mem_map.1 hM
    obtain ⟨r, hr, rfl⟩ := List.mem_map.1 hM'
    exact step_gd1 (hall r hr) h
  have hrn2 := fun h hf => obs29_run ((newMs rs).map (stepM l)) (hgd2 h) (by simp; omega) (frm + 1) hf .nils [] rfl (by simp) (by simp)
  have hlt := fun hf => obs29_late rs.length (frm + 1) hf (monLs ((newMs rs).map (stepM l)))
  have hnl2 : ((newMs rs).map (stepM l)).length = rs.length := by simp
  simp only [hnl2] at hrn2
  unfold engO at hsl
  rw [hnl] at hsl hrn
  clear hgd hgd2 hnl hnl2
  generalize monLs ((newMs rs).map (stepM l)) = ML2 at *
  generalize monLs (((newMs rs).map (stepM l)).map (stepM [])) = ML3 at *
  generalize monLs (newMs rs) = ML at *
  simp [eqCells, T3, T4, T5, T9, T23, T25, T27, T32, T33, T35, T39, T50, T52, T57, T59, T64, T65, T66, T70, T71, T77, T81, T83, T88, T89, T91, T95, T97, T99, T100, T112, CT, h0, h1, h28, hmany, -List.reduceReplicate, rd0, rd1, rd2, rd3]
  refine loop10_4 B l hB (by omega) frm _ ML _ _ fun w4 hw4 => ?_
  clear h28 hmany hnm
  rcases hw4 with ⟨rfl, h4⟩ | ⟨rfl, h4⟩
  · have hr1 := hrn h4
    by_cases hf : 1048576 < frm + 1
    · have hr2 := hlt hf
      have hf2 : ¬ frm < 1048576 := by omega
      clear hrn hrn2 hlt hbd
      simp [eqCells, T3, T4, T5, T9, T23, T25, T27, T32, T33, T35, T39, T50, T52, T57, T59, T64, T65, T66, T70, T71, T77, T81, T83, T88, T89, T91, T95, T97, T99, T100, T112, CT, hr1, hr2, hf2]
    · have hr2 := hrn2 h4 (by omega)
      have hf2 : frm < 1048576 := by omega
      clear hrn hrn2 hlt hbd
      simp [eqCells, T3, T4, T5, T9, T23, T25, T27, T32, T33, T35, T39, T50, T52, T57, T59, T64, T65, T66, T70, T71, T77, T81, T83, T88, T89, T91, T95, T97, T99, T100, T112, CT, hr1, hr2, hf2]
  · have hr1 := hbd h4
    clear hrn hrn2 hlt hbd
    simp [eqCells, T3, T4, T5, T9, T23, T25, T27, T32, T33, T35, T39, T50, T52, T57, T59, T64, T65, T66, T70, T71, T77, T81, T83, T88, T89, T91, T95, T97, T99, T100, T112, CT, hr1, hsl]
end Go.Proofs.YtpooehcjchkbkaaV
