/- All operations together. -/
import Derived.Test.YteidaaobppjlbaaVx12
set_option linter.unusedVariables false
set_option linter.unusedSimpArgs false
namespace Go.Proofs.YteidaaobppjlbaaV
open Go.RowKit

theorem caps_VR {w : World} {I : Nat → Nat → Prop} {μ : Nat → Nat} {ν : Nat → Value} {ob : Nat → AObj} : ∀ {xs : List AV} {l : List (Nat × Nat)} {us : List Value}, capsOf xs = some l → xs.length = us.length → (∀ (i : Nat) (x : AV) (u : Value), xs[i]? = some x → us[i]? = some u → VR w I μ ν ob x u) → (∀ x ∈ xs, x.sc ob) →
    us = l.map (ptrV μ) ∧ ∀ c ∈ l, ob c.1 ≠ .dead
  | [], l, us, h, hl, _, _ => by
    simp only [capsOf, Option.some.injEq] at h
    subst h
    exact ⟨List.eq_nil_of_length_eq_zero hl.symm, by simp⟩
  | x :: xs, l, [], h, hl, _, _ => by simp at hl
  | x :: xs, l, u :: us, h, hl, hv, hs => by
    unfold capsOf at h
    split at h
    · rename_i e; cases e
    · rename_i o k r e
      injection e with e1 e2
      subst e1; subst e2
      split at h <;> first | (cases h; done) | skip
      rename_i l' hr
      injection h with h
      subst h
      obtain ⟨h1, h2⟩ := caps_VR hr (by simpa using hl) (fun i y v hy hu => hv (i + 1) y v (by simpa using hy) (by simpa using hu)) fun y hy => hs y (by simp [hy])
      have h0 : VR w I μ ν ob (.ptr o k) u := hv 0 _ _ rfl rfl
      have h3 : ob o ≠ .dead := hs (.ptr o k) (by simp)
      have hu : u = ptrV μ (o, k) := by cases h0; rfl
      refine ⟨by rw [h1, hu]; rfl, fun c hc => ?_⟩
      rcases List.mem_cons.1 hc with rfl | hc
      · exact h3
      · exact h2 c hc
    · cases h

section
variable {P : Program} {c : Ctx} {Z : Zst} {nt : Nat} {s : SS} {a : Act} {w : World} {I : Nat → Nat → Prop} {μ : Nat → Nat} {ν : Nat → Value} {o : Oper} {Q : Exit → Act → World → Prop}

/-- What the machine comes to behind an operation that turns nothing. -/
theorem done_pure (hr : Rel P Z nt s a w I μ ν) (hdst : ∀ d, o.dst = some d → d < nt) {r : Value} {v : AV} (hrun : (execOp a.eval o).run P w = .ok (.value r) w) (hv : VR w I μ ν s.ob v r) (hs : v.sc s.ob) :
    o.wp P a w (fun a' w' => RelE P Z nt (s.put o.dst v []) a' w') Q :=
  wp_value hrun ⟨I, μ, ν, hr.put hdst hv hs⟩

theorem evs_VR (hr : Rel P Z nt s a w I μ ν) (xs : List Operand) : ∀ (i : Nat) (x : AV) (u : Value), (xs.map (evalAV s.t))[i]? = some x → (xs.map a.eval)[i]? = some u → VR w I μ ν s.ob x u := by
  intro i x u hx hu
  rw [List.getElem?_map] at hx hu
  cases h : xs[i]? with
  | none => simp [h] at hx
  | some y => simp [h] at hx hu; subst hx; subst hu; exact hr.ev y
theorem opts_VR (hr : Rel P Z nt s a w I μ ν) (lo : Option Operand) : (∀ q, lo.map (evalAV s.t) = some q → ∃ q', lo.map a.eval = some q' ∧ VR w I μ ν s.ob q q') ∧ (lo.map (evalAV s.t) = none → lo.map a.eval = none) := by
  cases lo with
  | none => simp
  | some x => exact ⟨fun q hq => ⟨_, rfl, by simp at hq; subst hq; exact hr.ev x⟩, by simp⟩

theorem parts_VR (hr : Rel P Z nt s a w I μ ν) (ps : Array (Nat × Operand)) : (ps.toList.map fun p => (p.1, evalAV s.t p.2)).length = (ps.map fun (i, x) => (i, a.eval x)).size ∧
    ∀ (i : Nat) (p : Nat × AV) (u : Nat × Value), (ps.toList.map fun p => (p.1, evalAV s.t p.2))[i]? = some p → (ps.map fun (i, x) => (i, a.eval x)).toList[i]? = some u → p.1 = u.1 ∧ VR w I μ ν s.ob p.2 u.2 := by
  refine ⟨by simp, fun i p u hp hu => ?_⟩
  rw [Array.toList_map] at hu
  rw [List.getElem?_map] at hp hu
  cases h : ps.toList[i]? with
  | none => simp only [h, Option.map_none] at hp; cases hp
  | some y => simp only [h, Option.map_some, Option.some.injEq] at hp hu; subst hp; subst hu; exact ⟨rfl, hr.ev y.2⟩

theorem ptrs_VR {ob : Nat → AObj} {l : List (Nat × Nat)} : ∀ (i : Nat) (x : AV) (u : Value), (ptrsOf l)[i]? = some x → (l.map (ptrV μ))[i]? = some u → VR w I μ ν ob x u := by
  intro i x u hx hu
  unfold ptrsOf at hx
  rw [List.getElem?_map] at hx hu
  cases h : l[i]? with
  | none => simp [h] at hx
  | some y => simp only [h, Option.map_some, Option.some.injEq] at hx hu; subst hx; subst hu; exact .ptr _ _
/-- A call. -/
theorem call_ok (hr : Rel P Z nt s a w I μ ν) (hdst : ∀ d, o.dst = some d → d < nt) {f : Operand} {as : Array Operand} {ts : Array TypeId} (ho : o.op = .call ⟨.value f, as, ts⟩) {g : FuncId} {xs : List AV} (hf : callF (evalAV s.t f) (as.toList.map (evalAV s.t)) = .call g xs) {K nid : Nat} (hfr : ∀ j, j < K → nid + j < s.n ∧ s.ob (nid + j) = .dead)
    {L : List Nat} {r : AV} {obs' : List AObj} (hG : Good P g (packX L s.ob xs) (packL L s.ob false) r obs') (hcl : closedB s.ob L xs = true) (hnd : nodupB L = true) (hK : obs'.length ≤ L.length + K) {dd : Bool} {v : AV} {e : List (Nat × AObj)}
    (hland : landC dd (r.ren (backN L nid) (obL obs') (backG s.ob (obL obs') L)) (backE s.ob L nid obs') = some (v, e)) :
    o.wp P a w (fun a' w' => RelE P Z nt (s.put o.dst v e) a' w') Q ∧ ∀ p ∈ e, (∃ j, j < K ∧ p.1 = nid + j) ∨ s.ob p.1 ≠ .dead := by
  obtain ⟨hC, hx⟩ := closedB_ok hcl
  have hn := nodupB_ok hnd
  -- the function and its arguments
  unfold callF at hf
  split at hf <;> first | (cases hf; done) | skip
  rename_i g' fa fb hfe
  injection hf with e1 e2
  subst e1
  have hfv := hr.ev f
  have hfs := hr.evsc f
  rw [hfe] at hfv hfs
  have hfe' : a.eval f = .func (.func g') (fa.map (ptrV μ)).toArray (fb.map (ptrV μ)).toArray := by
    generalize a.eval f = q at hfv
    cases hfv; rfl
  let vs : List Value := fa.map (ptrV μ) ++ as.toList.map a.eval ++ fb.map (ptrV μ)
  have hvs : vs.toArray = (fa.map (ptrV μ)).toArray ++ as.map a.eval ++ (fb.map (ptrV μ)).toArray := by
    rw [show as.map a.eval = (as.toList.map a.eval).toArray by simp [← Array.toList_map]]
    simp [vs]
  have hrun : (execOp a.eval o).run P w = .ok (.enter g' vs.toArray) w := by
    unfold execOp
    simp only [ho, resolve, Deferred.ofValue, hfe', Sem.run_bind, Sem.run_pure, Result.andThen_ok, invoke]
    rw [hG.enters, hvs]
  have hxv : ∀ (i : Nat) (x : AV) (u : Value), xs[i]? = some x → vs[i]? = some u → VR w I μ ν s.ob x u ∧ x.sc s.ob := by
    intro i x u hxi hui
    rw [← e2] at hxi
    have l1 : (ptrsOf fa).length = (fa.map (ptrV μ)).length := by simp [ptrsOf]
    have scp : ∀ (l : List (Nat × Nat)), (∀ c ∈ l, s.ob c.1 ≠ .dead) → ∀ x ∈ ptrsOf l, x.sc s.ob := fun l hl x hx => by
      obtain ⟨c, hc, rfl⟩ := List.mem_map.1 hx
      exact hl c hc
    simp only [vs, List.append_assoc] at hxi hui
    rw [List.getElem?_append] at hxi hui
    rw [l1] at hxi
    split at hui
    · rename_i hlt
      rw [if_pos hlt] at hxi
      exact ⟨ptrs_VR i x u hxi hui, scp fa (fun c hc => hfs c (List.mem_append_left _ hc)) x (List.mem_of_getElem? hxi)⟩
    · rename_i hlt
      rw [if_neg hlt] at hxi
      generalize i - (fa.map (ptrV μ)).length = i' at hxi hui
      rw [List.getElem?_append] at hxi hui
      have l2 : (as.toList.map (evalAV s.t)).length = (as.toList.map a.eval).length := by simp
      rw [l2] at hxi
      split at hui
      · rename_i hlt
        rw [if_pos hlt] at hxi
        refine ⟨evs_VR hr as.toList i' x u hxi hui, ?_⟩
        obtain ⟨y, _, rfl⟩ := List.mem_map.1 (List.mem_of_getElem? hxi)
        exact hr.evsc y
      · rename_i hlt
        rw [if_neg hlt] at hxi
        exact ⟨ptrs_VR _ x u hxi hui, scp fb (fun c hc => hfs c (List.mem_append_right _ hc)) x (List.mem_of_getElem? hxi)⟩
  have hxl : xs.length = vs.length := by rw [← e2]; simp [vs, ptrsOf]
  -- the objects that go along
  let N : Nat → Prop := fun b => ∃ q ∈ L, blkOf μ ν q (s.ob q) = some b
  have hsto := pack_sto hr.toStoR hC hn false N fun q hq b hb => ⟨q, hq, hb⟩
  have hlen : (packL L s.ob false).length = L.length := by simp [packL]
  have hm : L.length ≤ obs'.length := by rw [← hlen]; exact hG.longer
  have hcall := hG.calls w I N (fun i => μ (lN L i)) (fun i => ν (lN L i)) vs (by rw [hlen]; exact hsto) (fun b hb => by
      obtain ⟨q, hq, hb⟩ := hb
      obtain ⟨h1, h2⟩ := lN_idx hq
      refine ⟨L.idxOf q, ?_⟩
      rw [packL_get h1, blk_pack, h2]; exact hb) (by simpa [packX] using hxl) (fun i x u hxi hui => by
      unfold packX at hxi
      rw [List.getElem?_map] at hxi
      obtain ⟨y, hy, rfl⟩ := Option.map_eq_some_iff.1 hxi
      obtain ⟨h1, h2⟩ := hxv i y u hy hui
      exact h1.ren h2 fun q hq => leads_pack (hx y (List.mem_of_getElem? hy) q hq))
  have hfr' : ∀ j, j < obs'.length - L.length → nid + j < s.n ∧ s.ob (nid + j) = .dead := fun j hj => hfr j (by omega)
  have hkeys : ∀ p ∈ backE s.ob L nid obs', upds s.ob (backE s.ob L nid obs') p.1 = p.2 ∧ ((∃ j, j < obs'.length - L.length ∧ p.1 = nid + j) ∨ s.ob p.1 ≠ .dead) := by
    have hlive : ∀ o ∈ L, s.ob o ≠ .dead := fun o ho h => by have := hC.live o ho; rw [h] at this; cases this
    have hf : ∀ j, j < obs'.length - L.length → nid + j ∉ L := fun j hj h => hlive _ h (hfr' j hj).2
    have hinj : ∀ i j, i < obs'.length → j < obs'.length → backN L nid i = backN L nid j → i = j := fun i j hi hj e => by
      have h1 := bi_back (nid := nid) hn hf hi
      rw [e, bi_back (nid := nid) hn hf hj] at h1
      injection h1 with h1; exact h1.symm
    obtain ⟨u1, _⟩ := upds_map s.ob (backN L nid) (fun i => backO (backN L nid) (obL obs') (backG s.ob (obL obs') L) (backG s.ob (obL obs') L i) (if i < L.length then s.ob (L.getD i 0) else .dead) (obL obs' i)) obs'.length hinj
    intro p hp
    obtain ⟨i, hi, rfl⟩ := List.mem_map.1 hp
    rw [List.mem_range] at hi
    refine ⟨u1 i hi, ?_⟩
    show (∃ j, j < obs'.length - L.length ∧ backN L nid i = nid + j) ∨ s.ob (backN L nid i) ≠ .dead
    unfold backN
    split
    · rename_i h; exact .inr (hlive _ (lN_mem h))
    · exact .inl ⟨i - L.length, by omega, rfl⟩
  have hek : e.map (·.1) = (backE s.ob L nid obs').map (·.1) := by
    have keys : ∀ vs, ((backE s.ob L nid obs').map (frzO vs)).map (·.1) = (backE s.ob L nid obs').map (·.1) := fun vs => by rw [List.map_map]; exact List.map_congr_left fun p _ => by simp [frzO_eq]
    unfold landC at hland
    split at hland
    · split at hland
      · split at hland <;> first | (cases hland; done) | skip
        injection hland with hland; injection hland with _ e2; rw [← e2]; exact keys _
      · split at hland <;> first | (cases hland; done) | skip
        injection hland with hland; injection hland with _ e2; rw [← e2]; exact keys _
    · injection hland with hland; injection hland with _ e2; rw [← e2]
  refine ⟨?_, fun p hp => ?_⟩
  · unfold Oper.wp
    rw [hrun]
    refine hcall.mono fun en w' hR => ?_
    obtain ⟨u, I', μ', ν', rfl, h1, h2, h3, h4, h5, h6, h7⟩ := hR
    obtain ⟨⟨μ2, ν2, hrel, hleads⟩, hE⟩ := back_rel hr hC hn hm hfr' (N := N) (fun b => Iff.rfl) h1 h4 h5 h6 h7
    obtain ⟨q1, q2⟩ := h2.ren h3 fun q hq => hleads q (obL_lt (sc_live h3 q hq))
    obtain ⟨I2, k1, k2, k3, _⟩ := landC_ok (s := s) (fun p hp => (hE p hp).1) hrel q2 q1 hland
    have : s.put o.dst v e = ({ s with ob := upds s.ob e } : SS).put o.dst v [] := rfl
    rw [this]
    exact ⟨I2, μ2, ν2, k1.put hdst k2 k3⟩
  · have : p.1 ∈ (backE s.ob L nid obs').map (·.1) := by rw [← hek]; exact List.mem_map.2 ⟨p, hp, rfl⟩
    obtain ⟨p', hp', he⟩ := List.mem_map.1 this
    rw [← he]
    rcases (hkeys p' hp').2 with ⟨j, hj, hje⟩ | h
    · exact .inl ⟨j, by omega, hje⟩
    · exact .inr h

/-- An operation that calls nobody. -/
theorem opF_ok (hc : COk P c) (hr : Rel P Z nt s a w I μ ν) (hdst : ∀ d, o.dst = some d → d < nt) {an : Ann} {nid : Nat} (hfr : ∀ j, j < an.lays → nid + j < s.n ∧ s.ob (nid + j) = .dead) {v : AV} {e : List (Nat × AObj)} (h : opF c.T c.Q an o.op (evalAV s.t) s.ob nid = .val v e) (hk : ∀ p ∈ e, p.1 < nid + an.lays) :
    o.wp P a w (fun a' w' => RelE P Z nt (s.put o.dst v e) a' w') Q ∧ ∀ p ∈ e, (∃ j, j < an.lays ∧ p.1 = nid + j) ∨ s.ob p.1 ≠ .dead := by
  have pure1 : ∀ {r : Option AV}, OpR.of r = .val v e → r = some v ∧ e = [] := fun {r} h => by
    unfold OpR.of at h
    split at h
    · injection h with e1 e2; subst e1; exact ⟨rfl, e2.symm⟩
    · cases h
  have new1 : ∀ {q : AObj}, e = [(nid, q)] → (nid < s.n ∧ s.ob nid = .dead) ∧ ∀ p ∈ e, (∃ j, j < an.lays ∧ p.1 = nid + j) ∨ s.ob p.1 ≠ .dead := fun {q} he => by
    have h1 := hk (nid, q) (by rw [he]; simp)
    have hl : 0 < an.lays := by simp at h1; omega
    refine ⟨by simpa using hfr 0 hl, fun p hp => ?_⟩
    rw [he] at hp
    simp at hp
    subst hp
    exact .inl ⟨0, hl, rfl⟩
  have none1 : e = [] → ∀ p ∈ e, (∃ j, j < an.lays ∧ p.1 = nid + j) ∨ s.ob p.1 ≠ .dead := fun he p hp => by rw [he] at hp; cases hp
  unfold opF at h
  split at h
  · rename_i x ho
    injection h with e1 e2; subst e1; subst e2
    exact ⟨done_pure hr hdst (by simp [execOp, ho]) (hr.ev x) (hr.evsc x), none1 rfl⟩
  · rename_i x ho
    injection h with e1 e2; subst e1; subst e2
    exact ⟨done_pure hr hdst (by simp [execOp, ho]) (hr.ev x) (hr.evsc x), none1 rfl⟩
  · rename_i b x y ho
    replace h := pure1 h
    obtain ⟨h, rfl⟩ := h
    have hb := hr.ev b
    unfold pickF at h
    split at h <;> first | (cases h; done) | skip
    rename_i q hbe
    injection h with h; subst h
    rw [hbe] at hb
    cases q with
    | true => exact ⟨done_pure hr hdst (by simp [execOp, ho, VR_bool hb, asBool]) (hr.ev x) (hr.evsc x), none1 rfl⟩
    | false => exact ⟨done_pure hr hdst (by simp [execOp, ho, VR_bool hb, asBool]) (hr.ev y) (hr.evsc y), none1 rfl⟩
  · rename_i t ho
    unfold allocF at h
    split at h <;> first | (cases h; done) | skip
    rename_i i hi
    injection h with e1 e2; subst e1; subst e2
    obtain ⟨⟨hn1, hn2⟩, hnk⟩ := new1 rfl
    have ht := hc.T.ok hi
    obtain ⟨z, hz1, hz2⟩ := ht.zero
    obtain ⟨l1, l2, l3, l4⟩ := lits_VR (w := w) (I := I) (μ := μ) (ν := ν) (s := s) hz2
    have hrel := lay_box hr hn1 hn2 t (by rw [← l1]) l4 (fun c hc' => (l3 c hc').1) l2
    have hz : z.cells = z.cells.toList.toArray := by simp
    refine ⟨wp_value (w' := w.alloc (.cells z.cells.toList.toArray t)) (u := .pointer (some ⟨w.heap.size, 0, none⟩)) ?_ ?_, hnk⟩
    · rw [← hz]; simp [execOp, ho, Instr.alloc, hz1, newVar, newRow]
    · refine ⟨I, _, _, hrel.put hdst (v := .ptr nid 0) ?_ (by show upd s.ob nid _ nid ≠ _; rw [upd_same]; simp)⟩
      have := VR.ptr (w := w.alloc (.cells z.cells.toList.toArray t)) (I := I) (μ := upd μ nid w.heap.size) (ν := upd ν nid undef) (ob := upd s.ob nid (.box i.zero)) nid 0
      simpa only [upd_same] using this
  · rename_i t x ho
    unfold boxF at h
    split at h <;> first | (cases h; done) | skip
    rename_i i hi
    split at h <;> first | (cases h; done) | skip
    rename_i hcond
    obtain ⟨h1, h2⟩ := hcond
    injection h with e1 e2; subst e1; subst e2
    obtain ⟨⟨hn1, hn2⟩, hnk⟩ := new1 rfl
    obtain ⟨us, g1, g2, g3, g4, g5⟩ := cellsAV_VR h2 (hr.ev x) (hr.evsc x)
    have hrel := lay_box hr hn1 hn2 t g2.symm g3 g5 g4
    refine ⟨wp_value (w' := w.alloc (.cells us.toArray t)) (u := .pointer (some ⟨w.heap.size, 0, none⟩)) ?_ ?_, hnk⟩
    · simp [execOp, ho, Instr.box, newVar, newRow, ← g1]
    · refine ⟨I, _, _, hrel.put hdst (v := .ptr nid 0) ?_ (by show upd s.ob nid _ nid ≠ _; rw [upd_same]; simp)⟩
      have := VR.ptr (w := w.alloc (.cells us.toArray t)) (I := I) (μ := upd μ nid w.heap.size) (ν := upd ν nid undef) (ob := upd s.ob nid (.box (evalAV s.t x).cells)) nid 0
      simpa [upd_same] using this
  · rename_i t ps ho
    replace h := pure1 h
    obtain ⟨h, rfl⟩ := h
    obtain ⟨p1, p2⟩ := parts_VR hr ps
    obtain ⟨r, r1, r2, r3⟩ := run_buildF hc p1 p2 h
    exact ⟨done_pure hr hdst (by simp [execOp, ho, r1]) r2 r3, none1 rfl⟩
  · rename_i t n ps ho
    obtain ⟨p1, p2⟩ := parts_VR hr ps
    have key : ∀ {nid'}, nid' = nid → nid < s.n → s.ob nid = .dead → o.wp P a w (fun a' w' => RelE P Z nt (s.put o.dst v e) a' w') Q := fun _ hn1 hn2 => by
      obtain ⟨r, w', I', μ', ν', z, r1, rfl, r3, r4, r5⟩ := buildSlice_ok hc hr hn1 hn2 p1 p2 h
      exact wp_value (by simp [execOp, ho, r1]) ⟨I', μ', ν', r3.put hdst r4 r5⟩
    have hkey : ∃ q, e = [(nid, q)] := by
      unfold buildSliceF at h
      repeat (split at h <;> first | (cases h; done) | skip)
      unfold landV at h
      split at h <;> (injection h with _ e2; exact ⟨_, e2.symm⟩)
    obtain ⟨q, hq⟩ := hkey
    obtain ⟨⟨hn1, hn2⟩, hnk⟩ := new1 hq
    exact ⟨key rfl hn1 hn2, hnk⟩
  · rename_i t x ho
    replace h := pure1 h
    obtain ⟨h, rfl⟩ := h
    obtain ⟨r, r1, r2, r3⟩ := run_loadF hc hr (hr.ev x) h
    exact ⟨done_pure hr hdst (by simp [execOp, ho, r1]) r2 r3, none1 rfl⟩
  · rename_i t x y ho
    obtain ⟨rfl, w', o', z, r1, rfl, r2, r3⟩ := store_ok hc hr (hr.ev x) (hr.ev y) (hr.evsc y) h
    refine ⟨wp_skipped (by simp [execOp, ho, r1]) ⟨I, μ, ν, r3.put hdst (.junk _) trivial⟩, fun p hp => ?_⟩
    simp at hp; subst hp; exact .inr r2
  · rename_i x ho
    replace h := pure1 h
    obtain ⟨h, rfl⟩ := h
    have hx := hr.ev x
    have hs := hr.evsc x
    refine ⟨?_, none1 rfl⟩
    unfold nilChkF at h
    split at h <;> first | (cases h; done) | skip
    · rename_i hxe
      injection h with h; subst h
      rw [hxe] at hx hs
      have : ∃ b, a.eval x = .pointer (some b) := by
        generalize a.eval x = q at hx
        cases hx; exact ⟨_, rfl⟩
      obtain ⟨b, hb⟩ := this
      exact done_pure hr hdst (r := a.eval x) (by simp [execOp, ho, hb]) hx hs
    · rename_i hxe
      injection h with h; subst h
      rw [hxe] at hx hs
      have : ∃ b, a.eval x = .pointer (some b) := by
        generalize a.eval x = q at hx
        cases hx; exact ⟨_, rfl⟩
      obtain ⟨b, hb⟩ := this
      exact done_pure hr hdst (r := a.eval x) (by simp [execOp, ho, hb]) hx hs
    · rename_i hxe
      injection h with h; subst h
      rw [hxe] at hx hs
      have : ∃ f b d, a.eval x = .func (.func f) b d := by
        generalize a.eval x = q at hx
        cases hx; exact ⟨_, _, _, rfl⟩
      obtain ⟨f, b, d, hb⟩ := this
      exact done_pure hr hdst (r := a.eval x) (by simp [execOp, ho, hb]) hx hs
    · rename_i hxe
      injection h with h; subst h
      rw [hxe] at hx hs
      have : ∃ b, a.eval x = .pointer (some b) := by
        generalize a.eval x = q at hx
        cases hx with | pv _ _ _ _ _ _ hl _ => obtain ⟨b, q, rfl⟩ := hl; exact ⟨_, rfl⟩
      obtain ⟨b, hb⟩ := this
      exact done_pure hr hdst (r := a.eval x) (by simp [execOp, ho, hb]) hx hs
  · rename_i op t x y yt ho
    replace h := pure1 h
    obtain ⟨h, rfl⟩ := h
    obtain ⟨r, d, r1, rfl, r3⟩ := run_binF hc (hr.ev x) (hr.ev y) h x y
    refine ⟨done_pure hr hdst (r := r) ?_ (.d _ _ r3) trivial, none1 rfl⟩
    unfold execOp
    simp only [ho, Sem.run_bind] at r1 ⊢
    rw [r1]
    simp
  · rename_i op t x ho
    replace h := pure1 h
    obtain ⟨h, rfl⟩ := h
    have hx := hr.ev x
    refine ⟨?_, none1 rfl⟩
    unfold unF at h
    split at h <;> first | (cases h; done) | skip
    · rename_i hxe
      injection h with h; subst h
      rw [hxe] at hx
      exact done_pure hr hdst (by simp [execOp, ho, VR_int hx, Op.unary, Op.intArith]) (.d _ _ (.int _ _)) trivial
    · rename_i hxe
      injection h with h; subst h
      rw [hxe] at hx
      exact done_pure hr hdst (by simp [execOp, ho, VR_bool hx, Op.unary]) (.d _ _ (.bool _)) trivial
  · rename_i st t x ho
    have hx := hr.ev x
    unfold convertF at h
    split at h <;> first | (cases h; done) | skip
    rename_i i1 h1
    replace h := pure1 h
    obtain ⟨h, rfl⟩ := h
    refine ⟨?_, none1 rfl⟩
    obtain ⟨u1, hu1, _⟩ := (hc.T.ok h1).und
    unfold convF at h
    split at h <;> first | (cases h; done) | skip
    · rename_i k sz by_ zz k' n h2 hxe
      injection h with h; subst h
      rw [hxe] at hx
      have ht := (hc.T.ok h2).int rfl
      refine done_pure hr hdst (r := .int k (k.wrap n)) ?_ (.d _ _ (.int _ _)) trivial
      simp only [execOp, ho, VR_int hx, convert, Sem.run_bind, run_underlying hu1, run_underlying ht, Result.andThen_ok]
      simp [Conv.intToInt]
    · rename_i sz by_ zz b h2 hxe
      injection h with h; subst h
      rw [hxe] at hx
      have ht := (hc.T.ok h2).str rfl
      refine done_pure hr hdst (r := .string b) ?_ (.d _ _ (.str _)) trivial
      simp only [execOp, ho, VR_str hx, convert, Sem.run_bind, run_underlying hu1, run_underlying ht, Result.andThen_ok]
      cases u1 <;> simp
  · rename_i g first caps ho
    unfold makeFuncF at h
    split at h <;> first | (cases h; done) | skip
    rename_i la lb hla hlb
    injection h with e1 e2; subst e1; subst e2
    have sc : ∀ (l : Array Operand), ∀ x ∈ l.toList.map (evalAV s.t), x.sc s.ob := fun l x hx => by
      obtain ⟨y, _, rfl⟩ := List.mem_map.1 hx
      exact hr.evsc y
    obtain ⟨c1, c2⟩ := caps_VR (us := first.toList.map a.eval) hla (by simp) (evs_VR hr first.toList) (sc first)
    obtain ⟨c3, c4⟩ := caps_VR (us := caps.toList.map a.eval) hlb (by simp) (evs_VR hr caps.toList) (sc caps)
    have h1 : (first.map a.eval) = (la.map (ptrV μ)).toArray := by rw [← c1]; simp [← Array.toList_map]
    have h2 : (caps.map a.eval) = (lb.map (ptrV μ)).toArray := by rw [← c3]; simp [← Array.toList_map]
    refine ⟨done_pure hr hdst (r := .func (.func g) (la.map (ptrV μ)).toArray (lb.map (ptrV μ)).toArray) ?_ (.fn g la lb) (fun q hq => ?_), none1 rfl⟩
    · simp [execOp, ho, Instr.makeFunc, h1, h2]
    · rcases List.mem_append.1 hq with hq | hq
      · exact c2 q hq
      · exact c4 q hq
  · rename_i t x lo hi ho
    replace h := pure1 h
    obtain ⟨h, rfl⟩ := h
    obtain ⟨l1, l2⟩ := opts_VR hr lo
    obtain ⟨l3, l4⟩ := opts_VR hr hi
    obtain ⟨r, r1, r2, r3⟩ := run_sliceF hc (hr.evsc x) (hr.ev x) l1 l2 l3 l4 h
    exact ⟨done_pure hr hdst (by simp [execOp, ho, r1]) r2 r3, none1 rfl⟩
  · rename_i t x f ho
    replace h := pure1 h
    obtain ⟨h, rfl⟩ := h
    obtain ⟨r, r1, r2, r3⟩ := run_fieldAddrF hc hr (hr.evsc x) (hr.ev x) h
    exact ⟨done_pure hr hdst (by simp [execOp, ho, r1]) r2 r3, none1 rfl⟩
  · rename_i t x f ho
    replace h := pure1 h
    obtain ⟨h, rfl⟩ := h
    obtain ⟨r, r1, r2, r3⟩ := run_fieldF (s := s) hc (hr.ev x) h
    exact ⟨done_pure hr hdst (by simp [execOp, ho, r1]) r2 r3, none1 rfl⟩
  · rename_i t x i ho
    replace h := pure1 h
    obtain ⟨h, rfl⟩ := h
    obtain ⟨r, r1, r2, r3⟩ := run_indexAddrF hc hr (hr.evsc x) (hr.ev x) (hr.ev i) h
    exact ⟨done_pure hr hdst (by simp [execOp, ho, r1]) r2 r3, none1 rfl⟩
  · rename_i t x i ho
    replace h := pure1 h
    obtain ⟨h, rfl⟩ := h
    obtain ⟨r, r1, r2, r3⟩ := run_indexF (s := s) hc (hr.ev x) (hr.ev i) h
    exact ⟨done_pure hr hdst (by simp [execOp, ho, r1]) r2 r3, none1 rfl⟩
  · rename_i x i ho
    replace h := pure1 h
    obtain ⟨h, rfl⟩ := h
    have hx := hr.ev x
    have hs := hr.evsc x
    unfold extF at h
    split at h <;> first | (cases h; done) | skip
    rename_i l hxe
    rw [hxe] at hx hs
    have : ∃ vs : List Value, a.eval x = .tuple vs.toArray ∧ l.length = vs.length ∧ ∀ (i : Nat) (x : AV) (v : Value), l[i]? = some x → vs[i]? = some v → VR w I μ ν s.ob x v := by
      generalize a.eval x = q at hx
      cases hx with | tup _ vs h1 h2 => exact ⟨vs, rfl, h1, h2⟩
    obtain ⟨vs, hb, hvl, hvp⟩ := this
    have hlt : i < vs.length := by rw [← hvl]; exact (List.getElem?_eq_some_iff.1 h).1
    refine ⟨done_pure hr hdst (r := vs[i]) ?_ (hvp i _ _ h (List.getElem?_eq_getElem hlt)) (AV.sc0.sc (hs _ (List.mem_of_getElem? h))), none1 rfl⟩
    simp [execOp, ho, hb, Instr.extract, List.getElem?_eq_getElem hlt]
  · rename_i b as ts ho
    unfold builtinF at h
    split at h
    · rename_i t x hts hxs
      replace h := pure1 h
      obtain ⟨h, rfl⟩ := h
      have hts' : ts = #[t] := by rw [← Array.toArray_toList (xs := ts), hts]
      have has : ∃ y, as = #[y] ∧ evalAV s.t y = x := by
        cases hq : as.toList with
        | nil => simp [hq] at hxs
        | cons y ys =>
          simp [hq] at hxs
          obtain ⟨rfl, rfl⟩ := hxs
          exact ⟨y, by rw [← Array.toArray_toList (xs := as), hq], rfl⟩
      obtain ⟨y, rfl, rfl⟩ := has
      subst hts'
      obtain ⟨r, r1, r2, r3⟩ := run_lenF (ty := o.type) hc hr (hr.ev y) h
      exact ⟨done_pure hr hdst (by simp [execOp, ho, resolve, invoke, builtin, r1]) r2 r3, none1 rfl⟩
    · rename_i t u x y hts hxs
      split at h <;> first | (cases h; done) | skip
      rename_i htu
      subst htu
      have hts' : ts = #[t, t] := by rw [← Array.toArray_toList (xs := ts), hts]
      have has : ∃ x' y', as = #[x', y'] ∧ evalAV s.t x' = x ∧ evalAV s.t y' = y := by
        cases hq : as.toList with
        | nil => simp [hq] at hxs
        | cons x' ys =>
          cases ys with
          | nil => simp [hq] at hxs
          | cons y' zs =>
            simp [hq] at hxs
            obtain ⟨rfl, rfl, rfl⟩ := hxs
            exact ⟨x', y', by rw [← Array.toArray_toList (xs := as), hq], rfl, rfl⟩
      obtain ⟨x', y', rfl, rfl, rfl⟩ := has
      subst hts'
      have hn : (nid < s.n ∧ s.ob nid = .dead) ∨ ∀ q, e ≠ [(nid, q)] := by
        by_cases hq : ∃ q, e = [(nid, q)]
        · obtain ⟨q, hq⟩ := hq; exact .inl (new1 hq).1
        · exact .inr fun q hq' => hq ⟨q, hq'⟩
      obtain ⟨r, w', I', μ', ν', o', z, r1, rfl, r2, r3, r4, r5⟩ := append_ok (ty := o.type) hc hr hn (hr.ev x') (hr.ev y') h
      refine ⟨wp_value (by simp [execOp, ho, resolve, invoke, builtin, r1]) ⟨I', μ', ν', r3.put hdst r4 r5⟩, ?_⟩
      rcases r2 with rfl | r2
      · exact (new1 rfl).2
      · intro p hp; simp at hp; subst hp; exact .inr r2
    · replace h := pure1 h
      obtain ⟨h, rfl⟩ := h
      obtain ⟨k, b, us', r, e1, r1, r2, r3⟩ := run_mmF (P := P) (g := Builtin.max2) (fun k a k' b w => by simp [Builtin.max2, max2']) (us := as.toList.map a.eval) (by simp) (evs_VR hr as.toList) h
      refine ⟨done_pure hr hdst (r := r) ?_ r2 r3, none1 rfl⟩
      have e2 : (as.map a.eval).toList = .int k b :: us' := by rw [Array.toList_map]; exact e1
      simp [execOp, ho, resolve, invoke, builtin, Builtin.max_]
      rw [e1]
      simp [r1]
    · replace h := pure1 h
      obtain ⟨h, rfl⟩ := h
      obtain ⟨k, b, us', r, e1, r1, r2, r3⟩ := run_mmF (P := P) (g := Builtin.min2) (fun k a k' b w => by simp [Builtin.min2, min2']) (us := as.toList.map a.eval) (by simp) (evs_VR hr as.toList) h
      refine ⟨done_pure hr hdst (r := r) ?_ r2 r3, none1 rfl⟩
      simp [execOp, ho, resolve, invoke, builtin, Builtin.min_]
      rw [e1]
      simp [r1]
    · cases h
  · rename_i f as ts ho
    unfold callF at h
    split at h <;> cases h
  · rename_i t ho
    unfold makeMapF at h
    split at h <;> first | (cases h; done) | skip
    injection h with e1 e2; subst e1; subst e2
    obtain ⟨⟨hn1, hn2⟩, hnk⟩ := new1 rfl
    have hm := lay_map hr hn1 hn2
    refine ⟨wp_value (u := .map (some w.heap.size)) (w' := w.alloc (.map #[] 0)) ?_ ⟨I, _, _, hm.put hdst ?_ ?_⟩, hnk⟩
    · simp [execOp, ho, Instr.makeMap]
    · have := VR.mp (w := w.alloc (.map #[] 0)) (I := I) (μ := upd μ nid w.heap.size) (ν := upd ν nid undef) (ob := upd s.ob nid (.map [])) nid
      rw [upd_same] at this
      exact this
    · show upd s.ob nid _ nid ≠ .dead
      rw [upd_same]; simp
  · rename_i t l m ho
    have hkey : ∃ q, e = [(nid, q)] := by
      unfold makeSliceF at h
      repeat (split at h <;> first | (cases h; done) | skip)
      unfold landV at h
      split at h <;> (injection h with _ e2; exact ⟨_, e2.symm⟩)
    obtain ⟨q, hq⟩ := hkey
    obtain ⟨⟨hn1, hn2⟩, hnk⟩ := new1 hq
    refine ⟨?_, hnk⟩
    obtain ⟨r, w', I', μ', ν', z, r1, rfl, r3, r4, r5⟩ := make_ok hc hr hn1 hn2 (hr.ev l) (hr.ev m) h
    exact wp_value (by simp [execOp, ho, r1]) ⟨I', μ', ν', r3.put hdst r4 r5⟩
  · rename_i t x k ok ho
    replace h := pure1 h
    obtain ⟨h, rfl⟩ := h
    obtain ⟨r, r1, r2, r3⟩ := lookup_ok hc hr (hr.ev x) (hr.ev k) h
    exact ⟨done_pure hr hdst (by simp [execOp, ho, r1]) r2 r3, none1 rfl⟩
  · rename_i t m k x ho
    obtain ⟨rfl, w', o', z, r1, rfl, r2, r3⟩ := update_ok hc hr (hr.ev m) (hr.ev k) (hr.ev x) h
    refine ⟨wp_skipped (by simp [execOp, ho, r1]) ⟨I, μ, ν, r3.put hdst (.junk _) trivial⟩, fun p hp => ?_⟩
    simp at hp; subst hp; exact .inr r2
  · cases h

end

end Go.Proofs.YteidaaobppjlbaaV
