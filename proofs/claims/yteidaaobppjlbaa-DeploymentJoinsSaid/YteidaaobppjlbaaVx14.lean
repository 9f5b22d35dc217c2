/- An operation looks at its operands, and at the objects that it touches, alone. -/
import Derived.Test.YteidaaobppjlbaaVx13
set_option linter.unusedVariables false
set_option linter.unusedSimpArgs false
namespace Go.Proofs.YteidaaobppjlbaaV
open Go.RowKit

section
variable {T : Tbl} {Q : TypeId → Option (List EK)} {ob ob' : Nat → AObj}

theorem loadF_local {t : TypeId} {x : AV} (hob : ∀ q ∈ x.oids, ob q = ob' q) : loadF T t x ob' = loadF T t x ob := by
  unfold loadF
  split
  · rfl
  · cases x with
    | ptr o k => simp only; rw [hob o (by simp [AV.oids, AV.oids0])]
    | pv o g j sz sub => simp only; rw [hob o (by simp [AV.oids, AV.oids0])]
    | _ => rfl
theorem storeF_local {t : TypeId} {x y : AV} (hob : ∀ q ∈ x.oids, ob q = ob' q) : storeF T t x y ob' = storeF T t x y ob := by
  unfold storeF
  split
  · rfl
  · cases x with
    | ptr o k => simp only; rw [hob o (by simp [AV.oids, AV.oids0])]
    | pv o g j sz sub => simp only; rw [hob o (by simp [AV.oids, AV.oids0])]
    | _ => rfl
theorem lenF_local {t : TypeId} {x : AV} (hob : ∀ q ∈ x.oids, ob q = ob' q) : lenF T t x ob' = lenF T t x ob := by
  unfold lenF
  split
  · rfl
  · rfl
  · cases x with
    | mp o => simp only; rw [hob o (by simp [AV.oids, AV.oids0])]
    | _ => rfl
  · rfl
theorem elsR_local {x : AV} (hob : ∀ q ∈ x.oids, ob q = ob' q) : elsR ob' x = elsR ob x := by
  cases x with
  | vs o g sz lo hi => simp only [elsR]; rw [hob o (by simp [AV.oids, AV.oids0])]
  | _ => rfl
theorem mapEs_local {x : AV} (hob : ∀ q ∈ x.oids, ob q = ob' q) : mapEs ob' x = mapEs ob x := by
  cases x with
  | mp o => simp only [mapEs]; rw [hob o (by simp [AV.oids, AV.oids0])]
  | _ => rfl
theorem appendF_local {dd : Bool} {t : TypeId} {x y : AV} {nid : Nat} (hx : ∀ q ∈ x.oids, ob q = ob' q) (hy : ∀ q ∈ y.oids, ob q = ob' q) : appendF T dd t x y ob' nid = appendF T dd t x y ob nid := by
  unfold appendF
  rw [elsR_local hy]
  split
  · split
    · split
      · cases x with
        | vs o g sz lo hi => simp only; rw [hx o (by simp [AV.oids, AV.oids0])]
        | d y => cases y <;> rfl
        | _ => rfl
      · rfl
    · rfl
  · rfl
theorem builtinF_local {dd : Bool} {b : Builtin} {ts : List TypeId} {xs : List AV} {nid : Nat} (hob : ∀ x ∈ xs, ∀ q ∈ x.oids, ob q = ob' q) : builtinF T dd b ts xs ob' nid = builtinF T dd b ts xs ob nid := by
  unfold builtinF
  split
  · rw [lenF_local (hob _ (by simp))]
  · rw [appendF_local (hob _ (by simp)) (hob _ (by simp))]
  · rfl
  · rfl
  · rfl

theorem opF_local {an : Ann} {o : Op} {ev ev' : Operand → AV} {nid : Nat} (hev : ∀ x ∈ o.operands, ev x = ev' x) (hob : ∀ q ∈ touchF o ev ob, ob q = ob' q) : opF T Q an o ev' ob' nid = opF T Q an o ev ob nid := by
  have parts : ∀ ps : Array (Nat × Operand), (∀ x ∈ (ps.toList.map (·.2)).toArray, ev x = ev' x) → (ps.toList.map fun p => (p.1, ev p.2)) = ps.toList.map fun p => (p.1, ev' p.2) := fun ps hp =>
    List.map_congr_left fun p hm => by rw [hp p.2 (by simpa using ⟨p.1, by simpa using hm⟩)]
  cases o <;> simp only [Op.operands] at hev <;> simp only [touchF] at hob <;> simp only [opF]
  case move x => rw [← hev x (by simp)]
  case assign x => rw [← hev x (by simp)]
  case pick b x y => rw [← hev b (by simp), ← hev x (by simp), ← hev y (by simp)]
  case box t x => rw [← hev x (by simp)]
  case build t ps => rw [← parts ps hev]
  case buildSlice t n ps => rw [← parts ps hev]
  case load t a => rw [← hev a (by simp), loadF_local hob]
  case store t a x => rw [← hev a (by simp), ← hev x (by simp), storeF_local hob]
  case nilCheck x => rw [← hev x (by simp)]
  case binOp p t x y u => rw [← hev x (by simp), ← hev y (by simp)]
  case unOp p t x => rw [← hev x (by simp)]
  case convert s t x => rw [← hev x (by simp)]
  case makeFunc f first caps =>
    cases f with
    | func g =>
      simp only
      have e1 : caps.toList.map ev' = caps.toList.map ev := List.map_congr_left fun x hx => (hev x (by simp [Array.mem_def.2 hx])).symm
      have e2 : first.toList.map ev' = first.toList.map ev := List.map_congr_left fun x hx => (hev x (by simp [Array.mem_def.2 hx])).symm
      rw [e1, e2]
    | _ => rfl
  case slice t x lo hi mx =>
    cases mx with
    | some m => rfl
    | none =>
      simp only
      have e1 : lo.map ev' = lo.map ev := by cases lo <;> simp_all
      have e2 : hi.map ev' = hi.map ev := by cases hi <;> simp_all
      rw [← hev x (by simp), e1, e2]
  case fieldAddr t x f => rw [← hev x (by simp)]
  case field t x f => rw [← hev x (by simp)]
  case indexAddr t x i => rw [← hev x (by simp), ← hev i (by simp)]
  case index t x i => rw [← hev x (by simp), ← hev i (by simp)]
  case extract x i => rw [← hev x (by simp)]
  case call k =>
    obtain ⟨callee, as, ts⟩ := k
    have e1 : as.toList.map ev' = as.toList.map ev := List.map_congr_left fun x hx => (hev x (by simp [Call.operands, Array.mem_def.2 hx])).symm
    cases callee with
    | builtin b =>
      simp only at hob ⊢
      rw [e1]
      exact builtinF_local fun x hx q hq => by
        obtain ⟨y, hy, rfl⟩ := List.mem_map.1 hx
        exact hob q (List.mem_flatMap.2 ⟨y, hy, hq⟩)
    | value f => simp only; rw [e1, ← hev f (by simp [Call.operands])]
    | invoke r m => rfl
  case makeMap t r => cases r <;> rfl
  case makeSlice t l m => rw [← hev l (by simp), ← hev m (by simp)]
  case lookup t x k ok =>
    rw [← hev x (by simp), ← hev k (by simp)]
    unfold lookupF
    rw [mapEs_local hob]
  case mapUpdate t m k x =>
    rw [← hev m (by simp), ← hev k (by simp), ← hev x (by simp)]
    unfold mapUpdateF
    split
    · split
      · rename_i o kd vd hm _ _
        rw [hm] at hob
        rw [hob o (by simp [AV.oids, AV.oids0])]
      · rfl
    · rfl

theorem opF_call {an : Ann} {o : Op} {ev : Operand → AV} {nid : Nat} {g : FuncId} {xs : List AV} (h : opF T Q an o ev ob nid = .call g xs) : ∃ f as ts, o = .call ⟨.value f, as, ts⟩ ∧ callF (ev f) (as.toList.map ev) = .call g xs := by
  have no : ∀ {r : Option AV}, OpR.of r = .call g xs → False := fun {r} h => by unfold OpR.of at h; split at h <;> cases h
  have noL : ∀ {dd nid e sz els}, landV dd nid e sz els = .call g xs → False := fun {dd nid e sz els} h => by unfold landV at h; split at h <;> cases h
  unfold opF at h
  split at h
  case h_22 => exact ⟨_, _, _, rfl, h⟩
  all_goals first
    | (exact (no h).elim)
    | (cases h; done)
    | skip
  · unfold allocF at h; split at h <;> cases h
  · unfold boxF at h; repeat (split at h <;> first | (cases h; done) | skip)
  · unfold buildSliceF at h; repeat (split at h <;> first | (cases h; done) | skip)
    exact (noL h).elim
  · unfold storeF at h
    split at h <;> first | (cases h; done) | skip
    split at h <;> first | (cases h; done) | skip
    · unfold boxStore at h; repeat (split at h <;> first | (cases h; done) | skip)
    · unfold pvStore at h; repeat (split at h <;> first | (cases h; done) | skip)
  · unfold convertF at h; split at h <;> first | (cases h; done) | skip
    exact (no h).elim
  · unfold makeFuncF at h; split at h <;> cases h
  · unfold builtinF at h
    split at h <;> first | (cases h; done) | (exact (no h).elim) | skip
    split at h <;> first | (cases h; done) | skip
    unfold appendF at h
    repeat (split at h <;> first | (cases h; done) | skip)
    · exact (noL h).elim
    · unfold appVec at h; repeat (split at h <;> first | (cases h; done) | skip)
  · unfold makeMapF at h; split at h <;> cases h
  · unfold makeSliceF at h; repeat (split at h <;> first | (cases h; done) | skip)
    exact (noL h).elim
  · unfold mapUpdateF at h; repeat (split at h <;> first | (cases h; done) | skip)
    unfold mapPut at h; repeat (split at h <;> first | (cases h; done) | skip)

/-! ### What a call is handed -/
theorem reach_sub (ob : Nat → AObj) : ∀ (f : List Unit) (todo acc : List Nat), ∀ o ∈ acc, o ∈ reach ob f todo acc
  | [], todo, acc, o, h => h
  | _ :: f, [], acc, o, h => h
  | _ :: f, q :: r, acc, o, h => by
    unfold reach
    split
    · exact reach_sub ob f r acc o h
    · exact reach_sub ob f _ _ o (List.mem_append_left _ h)
theorem reach_local : ∀ (f : List Unit) (todo acc : List Nat), (∀ q ∈ reach ob f todo acc, ob q = ob' q) → reach ob' f todo acc = reach ob f todo acc
  | [], todo, acc, h => rfl
  | _ :: f, [], acc, h => rfl
  | _ :: f, q :: r, acc, h => by
    unfold reach at h ⊢
    split
    · rename_i hc
      rw [if_pos hc] at h
      exact reach_local f r acc h
    · rename_i hc
      rw [if_neg hc] at h
      have : ob q = ob' q := h q (reach_sub ob f _ _ q (by simp))
      rw [← this]
      exact reach_local f _ _ h
theorem ren0_local {f gn : Nat → Nat} {x : AV} (h : ∀ q ∈ x.oids0, ob q = ob' q) : x.ren0 f ob' gn = x.ren0 f ob gn := by
  cases x with
  | vs o g sz lo hi => simp only [AV.ren0]; rw [h o (by simp [AV.oids0])]
  | pv o g j sz sub => simp only [AV.ren0]; rw [h o (by simp [AV.oids0])]
  | _ => rfl
theorem ren_cases (x : AV) : (∃ l, x = .tup l) ∨ ((∀ f ob gn, x.ren f ob gn = x.ren0 f ob gn) ∧ x.oids = x.oids0) := by
  cases x <;> first | exact .inl ⟨_, rfl⟩ | exact .inr ⟨fun _ _ _ => rfl, rfl⟩
theorem ren_local {f gn : Nat → Nat} {x : AV} (h : ∀ q ∈ x.oids, ob q = ob' q) : x.ren f ob' gn = x.ren f ob gn := by
  rcases ren_cases x with ⟨l, rfl⟩ | ⟨h1, h2⟩
  · simp only [AV.ren]
    congr 1
    exact List.map_congr_left fun y hy => ren0_local fun q hq => h q (by simp only [AV.oids, List.mem_flatMap]; exact ⟨y, hy, hq⟩)
  · rw [h1, h1]; rw [h2] at h; exact ren0_local h
theorem packs_local {L : List Nat} {xs : List AV} {keep : Bool} (hob : ∀ q ∈ L, ob q = ob' q) (hc : closedB ob L xs = true) : packX L ob' xs = packX L ob xs ∧ packL L ob' keep = packL L ob keep ∧ closedB ob' L xs = true := by
  obtain ⟨h1, h2⟩ := closedB_ok hc
  refine ⟨?_, ?_, ?_⟩
  · unfold packX
    exact List.map_congr_left fun x hx => ren_local fun q hq => hob q (h2 x hx q hq)
  · unfold packL
    refine List.map_congr_left fun o ho => ?_
    have ho' := hob o ho
    rw [← ho']
    have hi := h1.ids o ho
    generalize ob o = x at hi
    cases x with
    | box cs =>
      simp only [packO]
      congr 1
      exact List.map_congr_left fun y hy => ren0_local fun q hq => hob q (hi q (by simp only [AObj.oids, List.mem_flatMap]; exact ⟨y, hy, hq⟩))
    | _ => rfl
  · rw [← hc]
    unfold closedB
    congr 1
    rw [Bool.eq_iff_iff, List.all_eq_true, List.all_eq_true]
    exact ⟨fun h o ho => by rw [hob o ho]; exact h o ho, fun h o ho => by rw [← hob o ho]; exact h o ho⟩
theorem lN_in {L : List Nat} {i : Nat} (h : i < L.length) : L.getD i 0 ∈ L := lN_mem h
theorem backG_local {L : List Nat} {obs : Nat → AObj} (hob : ∀ q ∈ L, ob q = ob' q) : backG ob' obs L = backG ob obs L := by
  funext i
  unfold backG
  split
  · rename_i h; rw [hob _ (lN_in h)]
  · rfl
theorem backE_local {L : List Nat} {nid : Nat} {obs' : List AObj} (hob : ∀ q ∈ L, ob q = ob' q) : backE ob' L nid obs' = backE ob L nid obs' := by
  unfold backE
  rw [backG_local hob]
  refine List.map_congr_left fun i _ => ?_
  by_cases h : i < L.length
  · rw [if_pos h, if_pos h, hob _ (lN_in h)]
  · rw [if_neg h, if_neg h]
end

abbrev Cont := FuncId → List AV → List AObj → AV → List AObj → Prop
/-- What the operation does: by itself, or by a call. -/
def StepV (c : Ctx) (G : Cont) (an : Ann) (o : Op) (ev : Operand → AV) (ob : Nat → AObj) (nid : Nat) (v : AV) (e : List (Nat × AObj)) : Prop :=
  (opF c.T c.Q an o ev ob nid = .val v e ∧ ∀ p ∈ e, p.1 < nid + an.lays) ∨
  ∃ g xs r obs', opF c.T c.Q an o ev ob nid = .call g xs ∧ G g (packX (reachOf ob xs) ob xs) (packL (reachOf ob xs) ob false) r obs' ∧ closedB ob (reachOf ob xs) xs = true ∧ nodupB (reachOf ob xs) = true ∧ obs'.length ≤ (reachOf ob xs).length + an.lays ∧
    landC an.dd (r.ren (backN (reachOf ob xs) nid) (obL obs') (backG ob (obL obs') (reachOf ob xs))) (backE ob (reachOf ob xs) nid obs') = some (v, e)
theorem StepV.local {c : Ctx} {G : Cont} {an : Ann} {o : Op} {ev ev' : Operand → AV} {ob ob' : Nat → AObj} {nid : Nat} {v : AV} {e : List (Nat × AObj)} (h : StepV c G an o ev ob nid v e) (hev : ∀ x ∈ o.operands, ev x = ev' x) (hob : ∀ q ∈ touchF o ev ob, ob q = ob' q) : StepV c G an o ev' ob' nid v e := by
  have hl := opF_local (T := c.T) (Q := c.Q) (an := an) (nid := nid) hev hob
  rcases h with ⟨h1, h2⟩ | ⟨g, xs, r, obs', h1, h2, h3, h4, h5, h6⟩
  · exact .inl ⟨by rw [hl]; exact h1, h2⟩
  · obtain ⟨f, as, ts, rfl, hcf⟩ := opF_call h1
    simp only [touchF, hcf] at hob
    have hre : reachOf ob' xs = reachOf ob xs := reach_local _ _ _ hob
    obtain ⟨p1, p2, p3⟩ := packs_local (keep := false) hob h3
    refine .inr ⟨g, xs, r, obs', by rw [hl]; exact h1, by rw [hre, p1, p2]; exact h2, by rw [hre]; exact p3, by rw [hre]; exact h4, by rw [hre]; exact h5, ?_⟩
    rw [hre, backG_local hob, backE_local hob]; exact h6

end Go.Proofs.YteidaaobppjlbaaV
