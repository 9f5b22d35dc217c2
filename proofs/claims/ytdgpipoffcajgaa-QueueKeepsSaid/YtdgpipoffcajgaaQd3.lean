/- What is found in the maps; copied; next; Offer. -/
import Derived.Test.YtdgpipoffcajgaaQd2
set_option linter.unusedVariables false
set_option linter.unusedSimpArgs false
namespace Go.Proofs.YtdgpipoffcajgaaV
open Go.RowKit
attribute [local simp] TK.agg constAV evalAV EK.has EK.hasAll vecEls elsR AV.toD toDs AV.cells AV.one joinD TyI.zeroD OpR.of binIntF binStrF AV.isPtr ptrNil slNil mpNil nilE eqF negF posF binF pelF pvLoad pelSet pvStore boxLoad epLoad loadF boxStore storeF fieldAddrF fieldF epOf indexAddrF byteF indexF mapLen lenF cutF sliceF sliceN sliceX isSl slice3F fillF fillV arrFs buildF partsX landV buildSliceF roomB appVec appendF appMkF capF mmFrom mmF max2' min2' clearVec clearF convF unF pickF nilChkF extF ptrsOf callF makeSliceF sameKs sameD kindIs plainFs keyOk mapOb mapEs okV lookF lookupF putE putS mapPut mapUpdateF mapDel deleteF mapAll rangeM rangeF overV hitV nextO nextF entryM entryO entryF itOids builtinF capsOf allocF boxF bytesL bytesF byteTy strTy convertF makeFuncF mapNew makeMapF makeMapH opF reach reachOf AObj.live closedB nodupB packO packL packX backN backG backO obL backE frzX frzO AV.vids frzL landC sameObs landR touchF bitsW D.cells D.decEq D.decEqs AV.decEq AV.decEqs AObj.decEq AV.oids0 AV.oids AObj.oids renG renP AV.ren0 AV.ren envGet envPut envKeep obGet setEff putV St.put stepS keyChk chkD accD Ex.block AV.under AObj.under laysOf roomFor mkvO frzG szOk killO usedBy tidyS canL canS ghost ghostE normSt resOf allSome one0 resultsF finL finishL finish endF startEnv chkC backX comeC AV.flat0 rngC loopO layL endLp busyL idleL noRng rndSt rndEnd wpn_nil wpn_seq wpn_loop wpn_seq_exit wpn_loop_exit wpn_seq_ret wpn_loop_ret wpn_block wpn_post wpk_skip wpk_exit wpk_ret wpk_reg wpk_seq wpk_condT wpk_block wpk_loop wpk_pre wpk_post wop_nil wop_cons wop_guard St.know envSet cond_d cond_bool cond_int cond_str endE endQ freeB disj pushT bitsW int_beq int_bne eqS_def tbE fuelL_eq ann0_lays ann0_dd ann0_ro elsOf_dsl elsOf_dnils toNat_succ nn_succ pos_succ one_succ rng1 rng2 rng3 rng4 rng5 rng6 rng7 rng8 List.idxOf_cons wpk_rng rndK rndE
def idsNe (es : List Ent) : Prop := es.Pairwise fun x y => x.iv ≠ y.iv
theorem kv_ne {es : List Ent} (h : idsNe es) : keysNe idK (kvE es) := by
  unfold keysNe kvE
  rw [List.pairwise_map]
  exact h.imp fun {x y} hxy => by simpa [idK, Ent.iv] using hxy
theorem idx_at : ∀ (pre : List Ent) (e : Ent) (post : List Ent), idsNe (pre ++ e :: post) → idxP idK e.iv (kvE (pre ++ e :: post)) = pre.length
  | [], e, post, h => by simp [kvE, idxP, idK, Ent.iv]
  | x :: pre, e, post, h => by
    have h' := List.pairwise_cons.1 h
    have ih := idx_at pre e post h'.2
    have hne := h'.1 e (by simp)
    have : idK.eqb e.iv x.iv = false := by simpa [idK] using fun e => hne e.symm
    unfold kvE at ih ⊢
    simp only [List.cons_append, List.map_cons, idxP, List.length_cons]
    rw [ih]
    have e2 : idK.eqb e.iv (x.a, x.s) = false := this
    simp [e2]
theorem find_in {es pre post : List Ent} {e : Ent} (h : idsNe es) (he : es = pre ++ e :: post) : findD (.agg [.int .i64 e.a, .int .i64 e.s]) (es.map Ent.p) 0 = some (some (pre.length, .agg [.int .i64 e.a, .int .i64 e.s, e.S, e.X, .int .i64 e.arr, .int .i64 e.tk])) := by
  have hm : (e.iv, e) ∈ kvE es := List.mem_map.2 ⟨e, by rw [he]; simp, rfl⟩
  have h1 := look_mem idK (kv_ne h) hm
  have h2 := find_id es e.iv
  simp only at h1
  rw [h1] at h2
  subst he
  rw [idx_at pre e post h] at h2
  simpa [Ent.iv] using h2
theorem find_out {es : List Ent} {a s : Int} (h : ∀ e ∈ es, e.iv ≠ (a, s)) : findD (.agg [.int .i64 a, .int .i64 s]) (es.map Ent.p) 0 = some none := by
  have h2 := find_id es (a, s)
  have h1 : lookP idK (a, s) (kvE es) = none := by
    cases hl : lookP idK (a, s) (kvE es) with
    | none => rfl
    | some e =>
      have := mem_look idK hl
      obtain ⟨x, hx, he⟩ := List.mem_map.1 this
      injection he with e1 e2
      exact absurd e1 (h x hx)
  rw [h1] at h2
  exact h2
/-! copied -/
def nilF (a s : Int) : D := .agg [.int .i64 a, .int .i64 s, .nils, .nils]
theorem copied34_nil (a s : Int) : run CC 34 [.d (nilF a s)] [] = some (.d (nilF a s), []) := run_of_go 3000 (by kernel_rfl)
def spD (A B : Int) : List D := [.agg [.int .i64 (1 + A), .int .i64 (1 + B), .int .i64 0, .int .i64 0, .int .i64 0, .int .i64 0, .str ⟨#[115]⟩, .str ⟨#[]⟩, .str ⟨#[]⟩, .int .i64 0, .int .i64 0, .bool false, .sl [.agg [.str ⟨#[107]⟩, .int .i64 2, .str ⟨#[]⟩, .int .i64 A]], .nils]]
def exD (A : Int) : List D := [.agg [.int .i64 1, .int .i64 2, .int .i64 A, .int .i64 0, .int .i64 0]]
def frD (a s A B : Int) : D := .agg [.int .i64 a, .int .i64 s, .sl (spD A B), .sl (exD A)]
theorem copied34_fr (a s A B : Int) : run CC 34 [.d (frD a s A B)] [] = some (.d (frD a s A B), []) := run_of_go 3000 (by kernel_rfl)
end Go.Proofs.YtdgpipoffcajgaaV
