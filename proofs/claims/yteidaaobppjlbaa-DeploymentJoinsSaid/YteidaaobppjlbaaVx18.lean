/- The interpreter's regions are what the walk asks of a region. -/
import Derived.Test.YteidaaobppjlbaaVx17
set_option linter.unusedVariables false
set_option linter.unusedSimpArgs false
namespace Go.Proofs.YteidaaobppjlbaaV
open Go.RowKit

theorem slimOps_get {ops : Array Oper} : ∀ {os : List Oper} {l : List SOp}, slimOps ops os = some l → l.length = os.length ∧ ∀ (k : Nat) (o : Oper), os[k]? = some o → ∃ x, l[k]? = some x ∧ slimOp ops o = some x
  | [], l, h => by simp only [slimOps, Option.some.injEq] at h; subst h; simp
  | o :: os, l, h => by
    unfold slimOps at h
    split at h
    · rename_i x xs hx hxs
      injection h with h
      subst h
      obtain ⟨h1, h2⟩ := slimOps_get hxs
      refine ⟨by simp [h1], fun k q hq => ?_⟩
      cases k with
      | zero => simp at hq; subst hq; exact ⟨x, by simp, hx⟩
      | succ k => simp at hq; obtain ⟨y, h3, h4⟩ := h2 k q hq; exact ⟨y, by simpa using h3, h4⟩
    · cases h

theorem slimOp_spec {ops : Array Oper} {o : Oper} {x : SOp} (h : slimOp ops o = some x.strip) : x.dst = o.dst ∧ x.op = o.op ∧ match o.guard with
    | none => x.gd = none
    | some (g, w) => ∃ d, (ops[g]?).bind (·.dst) = some d ∧ x.gd = some (d, w) := by
  unfold slimOp at h
  split at h
  · rename_i hg
    injection h with h
    simp only [SOp.strip, SOp.mk.injEq, and_true] at h
    obtain ⟨h1, h2, h3⟩ := h
    simp only [hg]
    exact ⟨h1.symm, h2.symm, h3.symm⟩
  · rename_i g w hg
    split at h
    · rename_i d hd
      injection h with h
      simp only [SOp.strip, SOp.mk.injEq, and_true] at h
      obtain ⟨h1, h2, h3⟩ := h
      refine ⟨h1.symm, h2.symm, ?_⟩
      simp only [hg]; exact ⟨d, hd, h3.symm⟩
    · cases h

/-- One operation of the interpreter's. -/
def StepC (c : Ctx) (G : Cont) (o : SOp) (st : St) (nid : Nat) (v : AV) (e : List (Nat × AObj)) : Prop :=
  (stepS c.T c.Q o st nid = .val v e ∧ keyChk e (nid + o.an.lays) = true) ∨
  ∃ g xs r obs', stepS c.T c.Q o st nid = .call g xs ∧ G g (packX (reachOf (obGet st.obs) xs) (obGet st.obs) xs) (packL (reachOf (obGet st.obs) xs) (obGet st.obs) false) r obs' ∧ comeC o.an (obGet st.obs) (reachOf (obGet st.obs) xs) xs nid r obs' = some (v, e)

theorem comeC_some {an : Ann} {ob : Nat → AObj} {L : List Nat} {xs : List AV} {nid : Nat} {r : AV} {obs' : List AObj} {v : AV} {e : List (Nat × AObj)} (h : comeC an ob L xs nid r obs' = some (v, e)) :
    closedB ob L xs = true ∧ nodupB L = true ∧ obs'.length ≤ L.length + an.lays ∧ landC an.dd (r.ren (backN L nid) (obL obs') (backG ob (obL obs') L)) (backE ob L nid obs') = some (v, e) := by
  unfold comeC at h
  split at h
  · rename_i hc
    simp only [chkC, Bool.and_eq_true, decide_eq_true_eq] at hc
    exact ⟨hc.1.1, hc.1.2, hc.2, h⟩
  · cases h

theorem landC_keys {dd : Bool} {E : List (Nat × AObj)} {x v : AV} {e : List (Nat × AObj)} (h : landC dd x E = some (v, e)) : e.map (·.1) = E.map (·.1) := by
  have keys : ∀ vs, (E.map (frzO vs)).map (·.1) = E.map (·.1) := fun vs => by rw [List.map_map]; exact List.map_congr_left fun p _ => by simp [frzO_eq]
  unfold landC at h
  split at h
  · split at h
    · split at h
      · injection h with h; injection h with _ h; subst h; exact keys _
      · cases h
    · split at h
      · injection h with h; injection h with _ h; subst h; exact keys _
      · cases h
  · injection h with h; injection h with _ h; subst h; rfl

section
variable {c : Ctx} {G : Cont}

theorem stepC_ok {ops : Array Oper} {ans : List Ann} {base i : Nat} {o : Oper} {x : SOp} {st : St} (ho : ops[i]? = some o) (hx : slimOp ops o = some x.strip) (ha : anOf ans i = x.an) {v : AV} {e : List (Nat × AObj)} (h : StepC c G x st (nidOf ans base i) v e) :
    StepR c G ans ops base i st.ss v e := by
  obtain ⟨h1, h2, h3⟩ := slimOp_spec hx
  have key : StepC c G ⟨x.dst, x.op, none, x.an⟩ st (nidOf ans base i) v e → StepV c G (anOf ans i) o.op (evalAV st.ss.t) st.ss.ob (nidOf ans base i) v e := by
    intro h
    rw [ha, ← h2]
    rcases h with ⟨h, hk⟩ | ⟨g, xs, r, obs', h, hr, hl⟩
    · refine .inl ⟨h, fun p hp => ?_⟩
      have := List.all_eq_true.1 hk p hp
      exact of_decide_eq_true this
    · obtain ⟨k1, k2, k3, k4⟩ := comeC_some hl
      exact .inr ⟨g, xs, r, obs', h, hr, k1, k2, k3, k4⟩
  unfold StepR
  simp only [ho]
  cases hg : o.guard with
  | none =>
    simp only [hg] at h3 ⊢
    refine key ?_
    unfold StepC stepS at h ⊢
    simp only [h3] at h
    exact h
  | some gw =>
    obtain ⟨g, want⟩ := gw
    simp only [hg] at h3 ⊢
    obtain ⟨d, hd, h3⟩ := h3
    have hdv : dstVal ops g st.ss.t = envGet st.env d := by unfold dstVal; simp only [hd]; rfl
    rw [hdv]
    unfold StepC stepS at h
    simp only [h3] at h
    cases hb : envGet st.env d with
    | d dd =>
      cases dd with
      | bool b =>
        refine .inl ⟨b, rfl, ?_⟩
        simp only [hb] at h
        by_cases hw : b = want
        · rw [if_pos hw] at h ⊢
          refine key ?_
          unfold StepC stepS
          exact h
        · rw [if_neg hw] at h ⊢
          rcases h with ⟨h, _⟩ | ⟨_, _, _, _, h, _⟩
          · injection h with a b
            exact ⟨a.symm, b.symm⟩
          · cases h
      | _ => simp only [hb] at h; rcases h with ⟨h, _⟩ | ⟨_, _, _, _, h, _⟩ <;> cases h
    | tup l =>
      cases l with
      | nil =>
        simp only [hb] at h
        rcases h with ⟨h, _⟩ | ⟨_, _, _, _, h, _⟩
        · injection h with a b
          exact .inr ⟨rfl, a.symm, b.symm⟩
        · cases h
      | cons _ _ => simp only [hb] at h; rcases h with ⟨h, _⟩ | ⟨_, _, _, _, h, _⟩ <;> cases h
    | _ => simp only [hb] at h; rcases h with ⟨h, _⟩ | ⟨_, _, _, _, h, _⟩ <;> cases h

theorem StepC.keys {x : SOp} {st : St} {nid : Nat} {v : AV} {e : List (Nat × AObj)} (h : StepC c G x st nid v e) (hn : nid + x.an.lays ≤ st.obs.length) : ∀ p ∈ e, p.1 < st.obs.length := by
  rcases h with ⟨_, h⟩ | ⟨g, xs, r, obs', _, _, hl⟩
  · intro p hp
    have := of_decide_eq_true (List.all_eq_true.1 h p hp)
    omega
  · intro p hp
    obtain ⟨k1, k2, k3, k4⟩ := comeC_some hl
    have hm : p.1 ∈ e.map (·.1) := List.mem_map.2 ⟨p, hp, rfl⟩
    rw [landC_keys k4] at hm
    obtain ⟨q, hq, hqe⟩ := List.mem_map.1 hm
    obtain ⟨i, hi, rfl⟩ := List.mem_map.1 hq
    rw [List.mem_range] at hi
    rw [← hqe]
    show backN _ nid i < _
    unfold backN
    split
    · rename_i hlt
      have hin := lN_mem hlt
      have := (closedB_ok k1).1.live _ hin
      refine obGet_live fun hd => ?_
      have hd' : obGet st.obs (lN (reachOf (obGet st.obs) xs) i) = .dead := hd
      rw [hd'] at this
      cases this
    · omega

/-- What the rest of a region's operations come to. -/
def OpsOk (c : Ctx) (G : Cont) (B : Option (List Nat)) (i nid : Nat) (acc : Acc) (l : List SOp) (st st' : St) : Prop :=
  ∀ (ops : Array Oper) (ans : List Ann) (base : Nat), (∀ k, i + k < ops.size ↔ k < l.length) → (∀ (k : Nat) (o : Oper), ops[i + k]? = some o → ∃ x, l[k]? = some x ∧ slimOp ops o = some x.strip) → (∀ (k : Nat) (x : SOp), l[k]? = some x → anOf ans (i + k) = x.an ∧ i + k < ans.length) → nid = nidOf ans base i → nid + laysOf l ≤ st.obs.length →
    st'.obs.length = st.obs.length ∧ match B with
    | none => RunL c G ans ops base (List.range' i l.length) st.ss st'.ss
    | some B => RunD c G ans ops base (bitsW B) (List.range' i l.length) acc st.ss st'.ss

theorem OpsOk.nil (B : Option (List Nat)) (i nid : Nat) (acc : Acc) (st : St) : OpsOk c G B i nid acc [] st st := by
  intro ops ans base _ _ _ _ _
  cases B <;> simp [RunL, RunD, List.range']

theorem laysTo_succ : ∀ (ans : List Ann) (i : Nat), laysTo ans (i + 1) = laysTo ans i + (anOf ans i).lays
  | [], i => by simp [laysTo, anOf, ann0]
  | a :: r, 0 => by
    have : laysTo r 0 = 0 := by cases r <;> rfl
    simp [laysTo, anOf, this]
  | a :: r, i + 1 => by
    have := laysTo_succ r i
    simp only [anOf, List.getD_cons_succ] at this ⊢
    simp only [laysTo] at this ⊢
    omega

theorem OpsOk.cons {B : Option (List Nat)} {i nid : Nat} {acc : Acc} {x : SOp} {l : List SOp} {st st' : St} {v : AV} {e : List (Nat × AObj)}
    (h : StepC c G x st nid v e) (hc : chkD B i x st e acc = true)
    (hr : OpsOk c G B (i + 1) (nid + x.an.lays) (accD B i x st e acc) l (st.put x.dst v e) st') : OpsOk c G B i nid acc (x :: l) st st' := by
  intro ops ans base hlen hget han hnid hroom
  have hi : i < ops.size := (hlen 0).2 (by simp)
  obtain ⟨o, ho⟩ : ∃ o, ops[i]? = some o := ⟨ops[i], Array.getElem?_eq_getElem hi⟩
  obtain ⟨y, hy, hs⟩ := hget 0 o (by simpa using ho)
  simp only [List.getElem?_cons_zero, Option.some.injEq] at hy
  subst hy
  have ha : anOf ans i = x.an := by simpa using (han 0 x (by simp)).1
  have hstep : StepR c G ans ops base i st.ss v e := stepC_ok ho hs ha (hnid ▸ h)
  obtain ⟨d1, d2, _⟩ := slimOp_spec hs
  have hdst : dstOf ops i = x.dst := by rw [dstOf_some ho, d1]
  simp only [laysOf] at hroom
  have heff : ∀ p ∈ e, p.1 < st.obs.length := h.keys (by omega)
  have hput : (st.put x.dst v e).ss = st.ss.put (dstOf ops i) v e := by rw [hdst]; exact put_ss heff
  have hroom' : nid + x.an.lays + laysOf l ≤ (st.put x.dst v e).obs.length := by
    show _ ≤ (setEff e st.obs).length
    rw [setEff_length]
    omega
  have hnid' : nid + x.an.lays = nidOf ans base (i + 1) := by
    rw [hnid]
    unfold nidOf
    rw [laysTo_succ, ha]
    omega
  obtain ⟨r1, r2⟩ := hr ops ans base (fun k => by
      have := hlen (k + 1)
      simp only [List.length_cons, Nat.add_lt_add_iff_right] at this
      rw [← this, show i + 1 + k = i + (k + 1) by omega]) (fun k q hq => by
      obtain ⟨y, h3, h4⟩ := hget (k + 1) q (by rw [show i + (k + 1) = i + 1 + k by omega]; exact hq)
      exact ⟨y, by simpa using h3, h4⟩) (fun k y hy => by
      have := han (k + 1) y (by simpa using hy)
      rw [show i + (k + 1) = i + 1 + k by omega] at this
      exact this) hnid' hroom'
  refine ⟨by rw [r1]; exact setEff_length _ _, ?_⟩
  cases B with
  | none =>
    simp only [List.length_cons, List.range'_succ, RunL]
    exact ⟨v, e, hstep, by rw [← hput]; exact r2⟩
  | some B =>
    simp only [List.length_cons, List.range'_succ, RunD]
    have ht : touchOf ops i st.ss = touchF x.op (evalAV (envGet st.env)) (obGet st.obs) := by
      unfold touchOf
      simp only [ho, d2]
      rfl
    refine ⟨v, e, hstep, ?_, ?_⟩
    · rw [ht]; exact hc
    · rw [ht, ← hput]; exact r2

theorem laysOf_eq : ∀ (l : List SOp), laysOf l = laysAll (l.map (·.an))
  | [] => rfl
  | o :: r => by simp only [laysOf, List.map_cons, laysAll, laysOf_eq r]

theorem roomFor_ss {ops : List SOp} {st : St} : (roomFor ops st).ss = { st.ss with n := st.ss.n + laysAll (ops.map (·.an)) } := by
  unfold roomFor St.ss
  simp only [SS.mk.injEq, List.length_append, List.length_replicate, and_true, true_and, laysOf_eq]
  funext k
  simp only [obGet, List.getD_eq_getElem?_getD, List.getElem?_append]
  split
  · rfl
  · rename_i h
    rw [List.getElem?_eq_none (Nat.le_of_not_lt h)]
    simp only [List.getElem?_replicate]
    split <;> rfl
end
end Go.Proofs.YteidaaobppjlbaaV
