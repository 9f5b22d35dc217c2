/- From what the interpreter hands back at all data of the parameters' types to the row's contract. -/
import Derived.Test.YteidaaobppjlbaaVx22
set_option linter.unusedVariables false
set_option linter.unusedSimpArgs false
namespace Go.Proofs.YteidaaobppjlbaaV
open Go.RowKit

/-- These data are values of the parameters' types. -/
def ValOk (T : Tbl) (n : Nat) (t : TypeId) (d : D) : Prop := ∃ i cs, T.get t = some i ∧ d = mkD i cs ∧ cs.length = i.size ∧ CellOk T n t cs
def DsOk (T : Tbl) (n : Nat) : List TypeId → List D → Prop
  | [], [] => True
  | t :: ts, d :: ds => ValOk T n t d ∧ DsOk T n ts ds
  | _, _ => False

section
variable {H : Type} {enc : TypeId × Value → H} {P : Program} {T : Tbl} {w : World}

theorem open_val (hT : TOk P T) {n : Nat} {t : TypeId} {v : Value} {x : DataW H} {ps : List MemPlace} {r : Reach} {base : Nat} (hp : plainB T n t = true) (ho : Value.okWide P w r base t v)
    (h : DataW.Trod enc P w 0 (fun _ => true) true t v x ps) (hw : ∀ k ∈ x.weights P t, k ≤ reachBytes) : ∃ d, ValOk T n t d ∧ VRd w (fun b o => MemPlace.cell b o ∈ ps) d v := by
  obtain ⟨i, hi⟩ := plainB_get hp
  obtain ⟨m, hm⟩ := h
  obtain ⟨ds, g1, g2, g3, g4, g5, g6⟩ := open_cells hT n t i m _ x ps hp hi hm hw
  refine ⟨mkD i ds, ⟨i, ds, hi, rfl, g2, g6⟩, ?_⟩
  obtain ⟨u, hu, hk⟩ := (hT.ok hi).und
  unfold mkD
  cases ha : i.kind.agg with
  | true =>
    have hv : ∃ cs : Array Value, v = .agg cs := by
      unfold Value.okWide at ho
      rw [hu] at ho
      obtain ⟨kind, sz, by0, zero⟩ := i
      cases kind <;> simp only [TK.agg, Bool.false_eq_true] at ha <;> cases u <;> simp only [kindEq, Bool.false_eq_true] at hk
      · obtain ⟨cs, hv, _⟩ := ho; exact ⟨cs, hv⟩
      · obtain ⟨cs, hv, _⟩ := ho; exact ⟨cs, hv⟩
    obtain ⟨cs, rfl⟩ := hv
    simp only [if_true]
    have : VRd w (fun b o => MemPlace.cell b o ∈ ps) (.agg ds) (.agg cs.toList.toArray) := .agg ds cs.toList g1 g4 g3
    simpa using this
  | false =>
    obtain ⟨d, rfl, hd⟩ := g5 ha
    have hl : v.cells.toList.length = 1 := by simpa using g1.symm
    have hv : v.cells.toList = [v] := by
      cases v with
      | agg cs =>
        simp only [Value.cells] at hl g4 ⊢
        -- a value of one cell that is no aggregate's type
        unfold Value.okWide at ho
        rw [hu] at ho
        obtain ⟨kind, sz, by0, zero⟩ := i
        cases m with
        | zero => simp [DataW.trod] at hm
        | succ m =>
          exfalso
          unfold Cell.okWide at ho
          cases kind <;> simp only [TK.agg, Bool.true_eq_false] at ha <;> cases u <;> (try simp only [kindEq, Bool.false_eq_true] at hk) <;> (try simp [plainB, hi] at hp) <;> simp [hu, Cell.ok] at ho
      | _ => simp [Value.cells]
    have := g3 0 d v (by simp) (by rw [hv]; rfl)
    simpa using this
theorem open_all (hT : TOk P T) {n : Nat} {r : Reach} {base : Nat} : ∀ {ts : List TypeId} {vs : List Value} {xs : List (DataW H)} {ps : List MemPlace}, DataW.TrodAll enc P w 0 (fun _ => true) true ts vs xs ps → ts.all (plainB T n) = true →
    (∀ (j : Nat) (t : TypeId) (v : Value), ts[j]? = some t → vs[j]? = some v → Value.okWide P w r base t v) → (∀ k ∈ DataW.weightsEach P ts xs, k ≤ reachBytes) →
    ∃ ds : List D, ds.length = vs.length ∧ DsOk T n ts ds ∧ ∀ (j : Nat) (d : D) (v : Value), ds[j]? = some d → vs[j]? = some v → VRd w (fun b o => MemPlace.cell b o ∈ ps) d v
  | [], vs, xs, ps, h, _, _, _ => by
    cases vs <;> cases xs <;> simp [DataW.TrodAll] at h
    exact ⟨[], rfl, trivial, by simp⟩
  | t :: ts, vs, xs, ps, h, hp, ho, hw => by
    obtain ⟨v, vs', x, xs', p, q, rfl, rfl, rfl, h1, h2⟩ := ChangeShapes.trodAll_cons h
    simp only [List.all_cons, Bool.and_eq_true] at hp
    obtain ⟨d, hd, hv⟩ := open_val hT hp.1 (ho 0 t v rfl rfl) h1 fun k hk => hw k (by simp only [DataW.weightsEach, List.mem_append]; exact .inl hk)
    obtain ⟨ds, g1, g2, g3⟩ := open_all hT h2 hp.2 (fun j t v ht hv => ho (j + 1) t v (by simpa using ht) (by simpa using hv)) fun k hk => hw k (by simp only [DataW.weightsEach, List.mem_append]; exact .inr hk)
    refine ⟨d :: ds, by simp [g1], ⟨hd, g2⟩, fun j d' v' hd' hv' => ?_⟩
    cases j with
    | zero =>
      simp at hd' hv'; subst hd'; subst hv'
      exact hv.mono fun b o hb => ⟨List.mem_append_left _ hb, rfl⟩
    | succ j =>
      simp at hd' hv'
      exact (g3 j d' v' hd' hv').mono fun b o hb => ⟨List.mem_append_right _ hb, rfl⟩
theorem back_all (hl : laidOutB P = true) {W' : World} (bel : Below w.heap.size w W') : ∀ {ts : List TypeId} {vs : List Value} {xs : List (DataW H)} {ps : List MemPlace}, DataW.TrodAll enc P w 0 (fun _ => true) true ts vs xs ps →
    (ts.all fun t => P.readableRec t && decide (t < P.types.size)) = true → DataW.TrodAll enc P W' 0 (fun b => decide (b < w.heap.size)) true ts vs xs ps
  | [], vs, xs, ps, h, _ => by
    cases vs <;> cases xs <;> simp [DataW.TrodAll] at h
    subst h; simp [DataW.TrodAll]
  | t :: ts, vs, xs, ps, h, hr => by
    obtain ⟨v, vs', x, xs', p, q, rfl, rfl, rfl, h1, h2⟩ := ChangeShapes.trodAll_cons h
    simp only [List.all_cons, Bool.and_eq_true, decide_eq_true_eq] at hr
    refine ⟨p, q, Below.trod hl hr.1.1 hr.1.2 h1 bel ?_, back_all hl bel h2 hr.2, rfl⟩
    obtain ⟨m, hm⟩ := h1
    exact DataW.trod_lt m _ _ _ hm
theorem places_lt : ∀ {ts : List TypeId} {vs : List Value} {xs : List (DataW H)} {ps : List MemPlace}, DataW.TrodAll enc P w 0 (fun _ => true) true ts vs xs ps → ∀ p ∈ ps, p.block < w.heap.size
  | [], vs, xs, ps, h => by
    cases vs <;> cases xs <;> simp [DataW.TrodAll] at h
    subst h; simp
  | t :: ts, vs, xs, ps, h => by
    obtain ⟨v, vs', x, xs', p, q, rfl, rfl, rfl, h1, h2⟩ := ChangeShapes.trodAll_cons h
    intro z hz
    rcases List.mem_append.1 hz with hz | hz
    · obtain ⟨m, hm⟩ := h1
      exact DataW.trod_lt m _ _ _ hm z hz
    · exact places_lt h2 z hz

/-- What a law's row asks of the call. -/
theorem law_contract (hT : TOk P T) {n : Nat} {f : FuncId} {fn : Func} {s : ChangeSpec} {ts : List TypeId} {rt : TypeId} (hts : fn.params.toList = ts) (hp : ts.all (plainB T n) = true) (hl : laidOutB P = true) (hr : (ts.all fun t => P.readableRec t && decide (t < P.types.size)) = true)
    (hrt : fn.resultTypes = #[rt]) (hrb : P.underlying rt = some .bool) (hvars : s.vars = []) (hfn : ∀ ds : List (DataW H), ds.length = ts.length → s.fn H ds = { results := [.lit (.bool true)], args := ds })
    (hG : ∀ ds, DsOk T n ts ds → Good P f (ds.map AV.d) [] (.d (.bool true)) [])
    (W : World) (base : Nat) (args : Array Value) (xs gs : List (DataW H)) (before : List MemPlace)
    (hval : ∀ (j : Nat) t v, fn.params[j]? = some t → args[j]? = some v → Value.okWide P W .any base t v)
    (hW : DataW.Whole enc P fn.params.toList s.vars false W args.toList xs gs before)
    (hsz : (DataW.weightsEach P (fn.params.toList ++ s.plain.varTypes P) (xs ++ gs)).all (· ≤ reachBytes) = true) :
    Calls P f args W fun e W' => ∃ v, e = .returned v ∧ s.post enc P fn false true false false W args v W' := by
  have hW' := hW
  obtain ⟨p, q, hA, hV, rfl, hfz, hnd⟩ := hW
  rw [hvars] at hV
  have hgs : gs = [] ∧ q = [] := by
    cases gs with
    | nil => simp [DataW.TrodVars] at hV; exact ⟨rfl, hV⟩
    | cons g gs => simp [DataW.TrodVars] at hV
  obtain ⟨rfl, rfl⟩ := hgs
  rw [hts] at hA
  have hvt : s.plain.varTypes P = [] := by simp [ChangeSpec.plain, DataSpec.varTypes, hvars]
  rw [hvt, List.append_nil, List.append_nil, hts, List.all_eq_true] at hsz
  obtain ⟨ds, g1, g2, g3⟩ := open_all hT hA hp (fun j t v ht hv => hval j t v (by rw [← Array.getElem?_toList, hts]; exact ht) (by rw [← Array.getElem?_toList]; exact hv)) (fun k hk => by simpa using hsz k hk)
  have hlen : xs.length = ts.length := by
    have : ∀ {ts : List TypeId} {vs : List Value} {xs : List (DataW H)} {ps : List MemPlace}, DataW.TrodAll enc P W 0 (fun _ => true) true ts vs xs ps → xs.length = ts.length := by
      intro ts
      induction ts with
      | nil => intro vs xs ps h; cases vs <;> cases xs <;> simp [DataW.TrodAll] at h ⊢
      | cons t ts ih =>
        intro vs xs ps h
        obtain ⟨v, vs', x, xs', p, q, rfl, rfl, rfl, h1, h2⟩ := ChangeShapes.trodAll_cons h
        simp [ih h2]
    exact this hA
  have hS : StoR P (fun _ => False) (obL []) ([] : List AObj).length W (fun b o => MemPlace.cell b o ∈ p) (fun _ => 0) (fun _ => undef) :=
    ⟨fun o => trivial, fun o _ => rfl, fun o o' b _ h _ => (by cases h), fun b o hb => places_lt hA _ hb⟩
  have := (hG ds g2).calls W (fun b o => MemPlace.cell b o ∈ p) (fun _ => False) (fun _ => 0) (fun _ => undef) args.toList hS (fun b hb => hb.elim) (by simpa using g1) (fun i x v hx hv => by
    rw [List.getElem?_map] at hx
    obtain ⟨d, hd, rfl⟩ := Option.map_eq_some_iff.1 hx
    exact ⟨.d d v (g3 i d v hd hv), trivial⟩)
  rw [Array.toArray_toList] at this
  refine this.mono fun e W' ⟨v, I', μ', ν', he, _, hv, _, _, _, hk, _⟩ => ⟨v, he, ?_⟩
  have bel : Below W.heap.size W W' := ⟨hk.os, hk.tape, hk.output, hk.size, fun k hk' => hk.block k hk' (fun h => h)⟩
  have hvv : v = .bool true := by
    cases hv with
    | d _ _ hd => cases hd; rfl
  subst hvv
  refine ⟨xs, [], _, [], p, [], hW', ?_, ?_, ?_, bel.frame _, fun h => by cases h⟩
  · rw [List.append_nil, hfn xs hlen, hrt]
    exact ChangeShapes.trodAll_mk1 (shut_bool hrb _)
  · rw [List.append_nil, hfn xs hlen, hts]
    exact back_all hl bel hA hr
  · rw [hvars, List.append_nil, hfn xs hlen]
    simp [DataW.TrodVars]
end
end Go.Proofs.YteidaaobppjlbaaV
