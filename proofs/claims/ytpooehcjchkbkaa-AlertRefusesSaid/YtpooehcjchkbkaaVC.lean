/- The interpreter over plain data and objects, its laws: part VC. -/
import Derived.Test.YtpooehcjchkbkaaVB
import Derived.LoopN
import Derived.Tactics
import Derived.Lib.SlicesS
import Derived.WalkKit
import Derived.ProofKit
import Derived.OpenShut
import Derived.ShutString
import Derived.ChangeOld
import Derived.Below
import Derived.SizedLaws
import Derived.Carry
import Derived.Laws.StructEq
/- The interpreter's regions are what the walk asks of a region. -/
set_option linter.unusedVariables false
set_option linter.unusedSimpArgs false
namespace Go.Proofs.YtpooehcjchkbkaaV
open Go.RowKit
theorem slimOps_get {ops : Array Oper} : ∀ {os : List Oper} {l : List SOp}, slimOps ops os = some l → l.length = os.length ∧ ∀ (k : Nat) (o : Oper), os[k]? = some o → ∃ x, l[k]? = some x ∧ slimOp ops o = some x
  | [], l, h => by simp only [slimOps, Option.some.injEq] at h; subst h; simp
  | o :: os, l, h => by
    unfold slimOps at h
    split at h
    · rename_i x xs hx hxs
      injection h with h
      subst h
      obtain ⟨h1, h2⟩ := slimOps_get hxs
      refine ⟨by simp [h1], fun k q hq => ?_⟩
      cases k with
      | zero => simp at hq; subst hq; exact ⟨x, by simp, hx⟩
      | succ k => simp at hq; obtain ⟨y, h3, h4⟩ := h2 k q hq; exact ⟨y, by simpa using h3, h4⟩
    · cases h
theorem slimOp_spec {ops : Array Oper} {o : Oper} {x : SOp} (h : slimOp ops o = some x.strip) : x.dst = o.dst ∧ x.op = o.op ∧ match o.guard with
    | none => x.gd = none
    | some (g, w) => ∃ d, (ops[g]?).bind (·.dst) = some d ∧ x.gd = some (d, w) := by
  unfold slimOp at h
  split at h
  · rename_i hg
    injection h with h
    simp only [SOp.strip, SOp.mk.injEq, and_true] at h
    obtain ⟨h1, h2, h3⟩ := h
    simp only [hg]
    exact ⟨h1.symm, h2.symm, h3.symm⟩
  · rename_i g w hg
    split at h
    · rename_i d hd
      injection h with h
      simp only [SOp.strip, SOp.mk.injEq, and_true] at h
      obtain ⟨h1, h2, h3⟩ := h
      refine ⟨h1.symm, h2.symm, ?_⟩
      simp only [hg]; exact ⟨d, hd, h3.symm⟩
    · cases h
def StepC (c : Ctx) (G : Cont) (o : SOp) (st : St) (nid : Nat) (v : AV) (e : List (Nat × AObj)) : Prop :=
  (stepS c.T c.Q o st nid = .val v e ∧ keyChk e (nid + o.an.lays) = true) ∨
  ∃ g xs r obs', stepS c.T c.Q o st nid = .call g xs ∧ G g (packX (reachOf (obGet st.obs) xs) (obGet st.obs) xs) (packL (reachOf (obGet st.obs) xs) (obGet st.obs) false) r obs' ∧ comeC o.an (obGet st.obs) (reachOf (obGet st.obs) xs) xs nid r obs' = some (v, e)
theorem comeC_some {an : Ann} {ob : Nat → AObj} {L : List Nat} {xs : List AV} {nid : Nat} {r : AV} {obs' : List AObj} {v : AV} {e : List (Nat × AObj)} (h : comeC an ob L xs nid r obs' = some (v, e)) :
    closedB ob L xs = true ∧ nodupB L = true ∧ obs'.length ≤ L.length + an.lays ∧ landR an ob (r.ren (backN L nid) (obL obs') (backG ob (obL obs') L)) (backE ob L nid obs') = some (v, e) := by
  unfold comeC at h
  split at h
  · rename_i hc
    simp only [chkC, Bool.and_eq_true, decide_eq_true_eq] at hc
    exact ⟨hc.1.1, hc.1.2, hc.2, h⟩
  · cases h
section
variable {c : Ctx} {G : Cont}
theorem stepC_ok {ops : Array Oper} {ans : List Ann} {base i : Nat} {o : Oper} {x : SOp} {st : St} (ho : ops[i]? = some o) (hx : slimOp ops o = some x.strip) (ha : anOf ans i = x.an) {v : AV} {e : List (Nat × AObj)} (h : StepC c G x st (nidOf ans base i) v e) :
    StepR c G ans ops base i st.ss v e := by
  obtain ⟨h1, h2, h3⟩ := slimOp_spec hx
  have key : StepC c G ⟨x.dst, x.op, none, x.an⟩ st (nidOf ans base i) v e → StepV c G (anOf ans i) o.op (evalAV st.ss.t) st.ss.ob (nidOf ans base i) v e := by
    intro h
    rw [ha, ← h2]
    rcases h with ⟨h, hk⟩ | ⟨g, xs, r, obs', h, hr, hl⟩
    · refine .inl ⟨h, fun p hp => ?_⟩
      have := List.all_eq_true.1 hk p hp
      exact of_decide_eq_true this
    · obtain ⟨k1, k2, k3, k4⟩ := comeC_some hl
      exact .inr ⟨g, xs, r, obs', h, hr, k1, k2, k3, k4⟩
  unfold StepR
  simp only [ho]
  cases hg : o.guard with
  | none =>
    simp only [hg] at h3 ⊢
    refine key ?_
    unfold StepC stepS at h ⊢
    simp only [h3] at h
    exact h
  | some gw =>
    obtain ⟨g, want⟩ := gw
    simp only [hg] at h3 ⊢
    obtain ⟨d, hd, h3⟩ := h3
    have hdv : dstVal ops g st.ss.t = envGet st.env d := by unfold dstVal; simp only [hd]; rfl
    rw [hdv]
    unfold StepC stepS at h
    simp only [h3] at h
    cases hb : envGet st.env d with
    | d dd =>
      cases dd with
      | bool b =>
        refine .inl ⟨b, rfl, ?_⟩
        simp only [hb] at h
        by_cases hw : b = want
        · rw [if_pos hw] at h ⊢
          refine key ?_
          unfold StepC stepS
          exact h
        · rw [if_neg hw] at h ⊢
          rcases h with ⟨h, _⟩ | ⟨_, _, _, _, h, _⟩
          · injection h with a b
            exact ⟨a.symm, b.symm⟩
          · cases h
      | _ => simp only [hb] at h; rcases h with ⟨h, _⟩ | ⟨_, _, _, _, h, _⟩ <;> cases h
    | tup l =>
      cases l with
      | nil =>
        simp only [hb] at h
        rcases h with ⟨h, _⟩ | ⟨_, _, _, _, h, _⟩
        · injection h with a b
          exact .inr ⟨rfl, a.symm, b.symm⟩
        · cases h
      | cons _ _ => simp only [hb] at h; rcases h with ⟨h, _⟩ | ⟨_, _, _, _, h, _⟩ <;> cases h
    | _ => simp only [hb] at h; rcases h with ⟨h, _⟩ | ⟨_, _, _, _, h, _⟩ <;> cases h
theorem opF_alts_keys {T : Tbl} {Q : TypeId → Option (List EK)} {an : Ann} {o : Op} {ev : Operand → AV} {obs : List AObj} {nid : Nat} {al : List (AV × List (Nat × AObj))} (h : opF T Q an o ev (obGet obs) nid = .alts al) : ∀ v e, (v, e) ∈ al → ∀ p ∈ e, p.1 < obs.length := by
  unfold opF at h
  split at h
  all_goals (try simp only [OpR.of, allocF, boxF, buildSliceF, landV, storeF, boxStore, pvStore, convertF, makeFuncF, builtinF, appMkF, appendF, appVec, clearF, clearVec, deleteF, mapDel, callF, makeMapF, makeMapH, makeSliceF, mapUpdateF, mapPut, rangeF, rangeM] at h)
  all_goals (repeat' (split at h))
  all_goals first
    | (cases h; done)
    | skip
  rename_i x isS
  unfold nextF at h
  split at h <;> first | (cases h; done) | skip
  rename_i o _
  unfold nextO at h
  split at h <;> first | (cases h; done) | skip
  rename_i m since seen last hob
  unfold nextM at h
  split at h <;> first | (cases h; done) | skip
  split at h <;> first | (cases h; done) | skip
  have hlt : o < obs.length := obGet_live (by rw [hob]; simp)
  generalize leftE seen _ = l' at h
  cases l' with
  | nil => simp [nextL] at h
  | cons q l' =>
    simp only [nextL] at h
    injection h with h
    intro v e hm p hp
    rw [← h] at hm
    obtain ⟨q', _, hq⟩ := List.mem_map.1 hm
    injection hq with _ hq
    subst hq
    simp at hp
    subst hp
    exact hlt
theorem StepC.keys {x : SOp} {st : St} {nid : Nat} {v : AV} {e : List (Nat × AObj)} (h : StepC c G x st nid v e) (hn : nid + x.an.lays ≤ st.obs.length) : ∀ p ∈ e, p.1 < st.obs.length := by
  rcases h with ⟨_, h⟩ | ⟨g, xs, r, obs', _, _, hl⟩
  · intro p hp
    have := of_decide_eq_true (List.all_eq_true.1 h p hp)
    omega
  · intro p hp
    obtain ⟨k1, k2, k3, k4⟩ := comeC_some hl
    have hm : p.1 ∈ e.map (·.1) := List.mem_map.2 ⟨p, hp, rfl⟩
    have k5 : e.map (·.1) = (backE (obGet st.obs) (reachOf (obGet st.obs) xs) nid obs').map (·.1) := by
      rcases landR_cases k4 with h | ⟨h0, _⟩
      · exact landC_keys h
      · rw [h0] at hp; cases hp
    rw [k5] at hm
    obtain ⟨q, hq, hqe⟩ := List.mem_map.1 hm
    obtain ⟨i, hi, rfl⟩ := List.mem_map.1 hq
    rw [List.mem_range] at hi
    rw [← hqe]
    show backN _ nid i < _
    unfold backN
    split
    · rename_i hlt
      have hin := lN_mem hlt
      have := (closedB_ok k1).1.live _ hin
      refine obGet_live fun hd => ?_
      have hd' : obGet st.obs (lN (reachOf (obGet st.obs) xs) i) = .dead := hd
      rw [hd'] at this
      cases this
    · omega
def RunB (c : Ctx) (G : Cont) (ans : List Ann) (ops : Array Oper) (base : Nat) (l : List Nat) (acc : Acc) (s : SS) (S : St → Prop) : Option (List Nat) → Prop
  | none => RunW c G ans ops base l s (fun s' => ∃ st', S st' ∧ s' = st'.ss)
  | some B => ∃ st', S st' ∧ RunD c G ans ops base (bitsW B) l acc s st'.ss
def OpsOk (c : Ctx) (G : Cont) (B : Option (List Nat)) (i nid : Nat) (acc : Acc) (l : List SOp) (st : St) (S : St → Prop) : Prop :=
  ∀ (ops : Array Oper) (ans : List Ann) (base : Nat), (∀ k, i + k < ops.size ↔ k < l.length) → (∀ (k : Nat) (o : Oper), ops[i + k]? = some o → ∃ x, l[k]? = some x ∧ slimOp ops o = some x.strip) → (∀ (k : Nat) (x : SOp), l[k]? = some x → anOf ans (i + k) = x.an ∧ i + k < ans.length) → nid = nidOf ans base i → nid + laysOf l ≤ st.obs.length →
    RunB c G ans ops base (List.range' i l.length) acc st.ss S B
theorem OpsOk.nil (B : Option (List Nat)) (i nid : Nat) (acc : Acc) {st : St} {S : St → Prop} (h : S st) : OpsOk c G B i nid acc [] st S := by
  intro ops ans base _ _ _ _ _
  cases B with
  | none => exact ⟨st, h, rfl⟩
  | some B => exact ⟨st, h, rfl⟩
theorem laysTo_succ : ∀ (ans : List Ann) (i : Nat), laysTo ans (i + 1) = laysTo ans i + (anOf ans i).lays
  | [], i => by simp [laysTo, anOf, ann0]
  | a :: r, 0 => by
    have : laysTo r 0 = 0 := by cases r <;> rfl
    simp [laysTo, anOf, this]
  | a :: r, i + 1 => by
    have := laysTo_succ r i
    simp only [anOf, List.getD_cons_succ] at this ⊢
    simp only [laysTo] at this ⊢
    omega
theorem ops_next {i nid : Nat} {x : SOp} {l : List SOp} {st : St} {v : AV} {e : List (Nat × AObj)} (hkeys : ∀ p ∈ e, p.1 < st.obs.length) {B : Option (List Nat)} {acc : Acc} {S : St → Prop} (hr : OpsOk c G B (i + 1) (nid + x.an.lays) acc l (st.put x.dst v e) S)
    {ops : Array Oper} {ans : List Ann} {base : Nat} (hlen : ∀ k, i + k < ops.size ↔ k < (x :: l).length) (hget : ∀ (k : Nat) (o : Oper), ops[i + k]? = some o → ∃ y, (x :: l)[k]? = some y ∧ slimOp ops o = some y.strip) (han : ∀ (k : Nat) (y : SOp), (x :: l)[k]? = some y → anOf ans (i + k) = y.an ∧ i + k < ans.length) (hnid : nid = nidOf ans base i) (hroom : nid + laysOf (x :: l) ≤ st.obs.length) :
    RunB c G ans ops base (List.range' (i + 1) l.length) acc (st.put x.dst v e).ss S B := by
  have ha : anOf ans i = x.an := by simpa using (han 0 x (by simp)).1
  simp only [laysOf] at hroom
  have hroom' : nid + x.an.lays + laysOf l ≤ (st.put x.dst v e).obs.length := by
    show _ ≤ (setEff e st.obs).length
    rw [setEff_length]
    omega
  have hnid' : nid + x.an.lays = nidOf ans base (i + 1) := by
    rw [hnid]
    unfold nidOf
    rw [laysTo_succ, ha]
    omega
  exact hr ops ans base (fun k => by
      have := hlen (k + 1)
      simp only [List.length_cons, Nat.add_lt_add_iff_right] at this
      rw [← this, show i + 1 + k = i + (k + 1) by omega]) (fun k q hq => by
      obtain ⟨y, h3, h4⟩ := hget (k + 1) q (by rw [show i + (k + 1) = i + 1 + k by omega]; exact hq)
      exact ⟨y, by simpa using h3, h4⟩) (fun k y hy => by
      have := han (k + 1) y (by simpa using hy)
      rw [show i + (k + 1) = i + 1 + k by omega] at this
      exact this) hnid' hroom'
theorem ops_this {i : Nat} {x : SOp} {l : List SOp} {ops : Array Oper} (hlen : ∀ k, i + k < ops.size ↔ k < (x :: l).length) (hget : ∀ (k : Nat) (o : Oper), ops[i + k]? = some o → ∃ y, (x :: l)[k]? = some y ∧ slimOp ops o = some y.strip) : ∃ o, ops[i]? = some o ∧ slimOp ops o = some x.strip := by
  have hi : i < ops.size := (hlen 0).2 (by simp)
  obtain ⟨o, ho⟩ : ∃ o, ops[i]? = some o := ⟨ops[i], Array.getElem?_eq_getElem hi⟩
  obtain ⟨y, hy, hs⟩ := hget 0 o (by simpa using ho)
  simp only [List.getElem?_cons_zero, Option.some.injEq] at hy
  subst hy
  exact ⟨o, ho, hs⟩
theorem OpsOk.cons {B : Option (List Nat)} {i nid : Nat} {acc : Acc} {x : SOp} {l : List SOp} {st : St} {S : St → Prop} {v : AV} {e : List (Nat × AObj)}
    (h : StepC c G x st nid v e) (hc : chkD B i x st e acc = true)
    (hr : OpsOk c G B (i + 1) (nid + x.an.lays) (accD B i x st e acc) l (st.put x.dst v e) S) : OpsOk c G B i nid acc (x :: l) st S := by
  intro ops ans base hlen hget han hnid hroom
  obtain ⟨o, ho, hs⟩ := ops_this hlen hget
  have ha : anOf ans i = x.an := by simpa using (han 0 x (by simp)).1
  have hstep : StepR c G ans ops base i st.ss v e := stepC_ok ho hs ha (hnid ▸ h)
  obtain ⟨d1, d2, _⟩ := slimOp_spec hs
  have hdst : dstOf ops i = x.dst := by rw [dstOf_some ho, d1]
  have hroom2 := hroom
  simp only [laysOf] at hroom
  have heff : ∀ p ∈ e, p.1 < st.obs.length := h.keys (by omega)
  have hput : (st.put x.dst v e).ss = st.ss.put (dstOf ops i) v e := by rw [hdst]; exact put_ss heff
  have r2 := ops_next heff hr hlen hget han hnid hroom2
  cases B with
  | none =>
    simp only [List.length_cons, List.range'_succ, RunB, RunW]
    exact .inl ⟨v, e, hstep, by rw [← hput]; exact r2⟩
  | some B =>
    obtain ⟨st', hS, r2⟩ := r2
    simp only [List.length_cons, List.range'_succ, RunB, RunD]
    have ht : touchOf ops i st.ss = touchF x.op (evalAV (envGet st.env)) (obGet st.obs) := by
      unfold touchOf
      simp only [ho, d2]
      rfl
    refine ⟨st', hS, v, e, hstep, ?_, ?_⟩
    · rw [ht]; exact hc
    · rw [ht, ← hput]; exact r2
theorem OpsOk.alts {i nid : Nat} {acc : Acc} {x : SOp} {l : List SOp} {st : St} {S : St → Prop} {al : List (AV × List (Nat × AObj))}
    (h : stepS c.T c.Q x st nid = .alts al)
    (hr : ∀ v e, (v, e) ∈ al → OpsOk c G none (i + 1) (nid + x.an.lays) acc l (st.put x.dst v e) S) : OpsOk c G none i nid acc (x :: l) st S := by
  intro ops ans base hlen hget han hnid hroom
  obtain ⟨o, ho, hs⟩ := ops_this hlen hget
  have ha : anOf ans i = x.an := by simpa using (han 0 x (by simp)).1
  obtain ⟨d1, d2, d3⟩ := slimOp_spec hs
  have hdst : dstOf ops i = x.dst := by rw [dstOf_some ho, d1]
  have key : (o.guard = none ∨ ∃ j want, o.guard = some (j, want) ∧ dstVal ops j st.ss.t = .d (.bool want)) ∧ opF c.T c.Q x.an x.op (evalAV (envGet st.env)) (obGet st.obs) nid = .alts al := by
    unfold stepS at h
    cases hq : o.guard with
    | none =>
      simp only [hq] at d3
      simp only [d3] at h
      exact ⟨.inl rfl, h⟩
    | some gw =>
      obtain ⟨g, want⟩ := gw
      simp only [hq] at d3
      obtain ⟨d, hd, d3⟩ := d3
      simp only [d3] at h
      have hdv : dstVal ops g st.ss.t = envGet st.env d := by unfold dstVal; simp only [hd]; rfl
      split at h
      · rename_i b hb
        split at h
        · rename_i hbw
          subst hbw
          exact ⟨.inr ⟨g, b, rfl, hdv.trans hb⟩, h⟩
        · cases h
      · cases h
      · cases h
  obtain ⟨hog, hop⟩ := key
  simp only [List.length_cons, List.range'_succ, RunB, RunW]
  refine .inr ⟨al, ⟨o, ho, hog, ?_⟩, fun v e hm => ?_⟩
  · rw [ha, ← d2, ← hnid]; exact hop
  · have heff : ∀ p ∈ e, p.1 < st.obs.length := opF_alts_keys hop v e hm
    have hput : (st.put x.dst v e).ss = st.ss.put (dstOf ops i) v e := by rw [hdst]; exact put_ss heff
    rw [← hput]
    exact ops_next heff (hr v e hm) hlen hget han hnid hroom
theorem laysOf_eq : ∀ (l : List SOp), laysOf l = laysAll (l.map (·.an))
  | [] => rfl
  | o :: r => by simp only [laysOf, List.map_cons, laysAll, laysOf_eq r]
theorem roomFor_ss {ops : List SOp} {st : St} : (roomFor ops st).ss = { st.ss with n := st.ss.n + laysAll (ops.map (·.an)) } := by
  unfold roomFor St.ss
  simp only [SS.mk.injEq, List.length_append, List.length_replicate, and_true, true_and, laysOf_eq]
  funext k
  simp only [obGet, List.getD_eq_getElem?_getD, List.getElem?_append]
  split
  · rfl
  · rename_i h
    rw [List.getElem?_eq_none (Nat.le_of_not_lt h)]
    simp only [List.getElem?_replicate]
    split <;> rfl
end
end Go.Proofs.YtpooehcjchkbkaaV
/- What the interpreter gives, the machine gives: code; a call's start and end. -/
set_option linter.unusedVariables false
set_option linter.unusedSimpArgs false
namespace Go.Proofs.YtpooehcjchkbkaaV
open Go.RowKit
def exOf : Ex → Exit
  | .norm => .normal
  | .exit id => .exit id
  | .ret => .ret
structure ZExt (Z Z' : Zst) : Prop where
  ob : Z'.ob = Z.ob
  mu : Z'.μ = Z.μ
  nu : Z'.ν = Z.ν
  bel : Keep Z.N Z.w Z'.w
  new : ∀ b, Z'.new b → Z.new b
  i0 : ∀ b o, Z.I b o → Z'.I b o ∧ Z'.w.cell? ⟨b, o, none⟩ = Z.w.cell? ⟨b, o, none⟩
  i00 : ∀ b o, Z.I b o → b < Z.w.heap.size
  i1 : ∀ b o, Z'.I b o → Z.I b o ∨ Z.new b
  marks : ∀ d ∈ Z'.ds, ∃ r, d = ⟨.collected r, #[]⟩ ∧ Z.w.heap.size ≤ r ∧ r < Z'.w.heap.size ∧ ¬ Z'.N r ∧ Z'.w.heap[r]? = some (.deferred (some []))
  nodup : Z'.ds.Nodup
def RelX (P : Program) (Z : Zst) (nt : Nat) (s : SS) (a : Act) (w : World) : Prop := ∃ Z', ZExt Z Z' ∧ RelE P Z' nt s a w
theorem heap_old (w : World) (o : Obj) (i : Nat) (h : i < w.heap.size) : (w.alloc o).heap[i]? = w.heap[i]? := by
  show (w.heap.push o)[i]? = w.heap[i]?
  rw [Array.getElem?_push]
  split
  · omega
  · rfl
theorem cell_set_other {w : World} {b b' off : Nat} {x x' : Obj} (h : w.heap[b]? = some x) (hx : ∀ c t z, x ≠ .cells c t z) (hx' : ∀ c t z, x' ≠ .cells c t z) : (w.putObj b x').cell? ⟨b', off, none⟩ = w.cell? ⟨b', off, none⟩ := by
  simp only [World.cell?, World.putObj, Array.getElem?_setIfInBounds]
  by_cases e : b = b'
  · subst e
    have hlt : b < w.heap.size := (Array.getElem?_eq_some_iff.1 h).1
    rw [if_pos rfl, if_pos hlt, h]
    cases x <;> cases x' <;> first | rfl | exact absurd rfl (hx _ _ _) | exact absurd rfl (hx' _ _ _)
  · simp [e]
section
variable {P : Program} {Z : Zst} {nt : Nat} {s : SS} {a : Act} {w : World} {I : Nat → Nat → Prop} {μ : Nat → Nat} {ν : Nat → Value}
theorem turn_loop (hr : Rel P Z nt s a w I μ ν) {o k busy : Nat} {ks : List Nat} {vs : List AV} (hob : s.ob o = .loop k busy ks vs) {r r' : Loop} (h0 : w.heap[μ o]? = some (.loop r)) (busy' : Nat) (e1 : r'.tmps = r.tmps) (e2 : r'.params = r.params) (e3 : r'.assign = r.assign) (e4 : r'.body = r.body)
    (e5 : r'.state = if busy' = 0 then .ready else if busy' = 1 then .busy else .exhausted) (e6 : r'.pending = none) {ks' : List Nat} {vs' : List AV} (hk : (ks' = ks ∧ vs' = vs) ∨ (ks' = [] ∧ vs' = [])) :
    Rel P Z nt { s with ob := upd s.ob o (.loop k busy' ks' vs') } a (w.putObj (μ o) (.loop r')) I μ ν := by
  have ho := hr.os o
  rw [hob] at ho
  obtain ⟨r0, h1, h2, h3, h4, h5, h6, h7, h8⟩ := ho
  obtain rfl : r0 = r := by rw [h1] at h0; injection h0 with h0; injection h0
  have hI : ∀ b off, I b off → I b off ∧ (w.putObj (μ o) (.loop r')).cell? ⟨b, off, none⟩ = w.cell? ⟨b, off, none⟩ := fun b off h => ⟨h, cell_set_other h1 (by simp) (by simp)⟩
  have hlive : s.ob o ≠ .dead := by rw [hob]; simp
  have hb : μ o < w.heap.size := (Array.getElem?_eq_some_iff.1 h1).1
  have other : ∀ b, b ≠ μ o → (w.putObj (μ o) (.loop r')).heap[b]? = w.heap[b]? := fun b hne => World.putObj_heap_other hne
  have hg := goes_upd (μ := μ) (ν := ν) (x := .loop k busy' ks' vs') hlive (by simp) (fun g mv fz e sz els h => by rw [hob] at h; cases h)
  refine hr.turn (hr.lt_n hlive) hI hg (fun o' b hne hb' => ⟨other b ?_, fun off h => h⟩) (fun o' hne => rfl) ?_ (fun o' b hne hb' => ?_) ?_ (fun b off h => .inl h) (fun b off h => by have := hr.i2 b off h; simpa [World.putObj] using this)
  · rintro rfl
    exact hr.sep o o' _ (Ne.symm hne) (by rw [hob]; rfl) hb'
  · refine ⟨r', World.putObj_heap_same hb, by rw [e1, e2, e3, e4]; exact h2, e5, e6, ?_, fun j i c hi hc => ?_, fun c hc => ?_, h8⟩
    · rcases hk with ⟨rfl, rfl⟩ | ⟨rfl, rfl⟩
      · exact h5
      · rfl
    · rcases hk with ⟨rfl, rfl⟩ | ⟨rfl, rfl⟩
      · rw [e1]; exact VR.mono0 hI hg (h7 c (List.mem_of_getElem? hc)) (h6 j i c hi hc)
      · cases hi
    · rcases hk with ⟨rfl, rfl⟩ | ⟨rfl, rfl⟩
      · exact (h7 c hc).mono hg
      · cases hc
  · intro e
    exact hr.sep o o' b (Ne.symm hne) (by rw [hob]; exact e) hb'
  · exact hr.keep (N := fun b => b = μ o) ⟨rfl, rfl, rfl, by simp [World.putObj], fun q hq hn => other q hn⟩ fun b _ hb => by subst hb; exact h8
theorem flat0_VR {ob : Nat → AObj} {x : AV} {v : Value} (h : VR w I μ ν ob x v) (hs : x.sc ob) : VR w I μ ν ob x.flat0 v ∧ x.flat0.sc0 ob := by
  cases x with
  | tup l => exact ⟨.junk _, trivial⟩
  | agv l => exact ⟨.junk _, trivial⟩
  | _ => exact ⟨h, hs⟩
theorem lay_loop (hr : Rel P Z nt s a w I μ ν) {nid : Nat} (hn : nid < s.n) (hd : s.ob nid = .dead) {k : Nat} {ks : List Nat} {env : List (Nat × AV)} (he : ∀ i, s.t i = envGet env i) {r : Loop} (hl : loopS P k = some ⟨r.tmps.size, r.params.toList, slim r.tmps.size r.assign, slim r.tmps.size r.body⟩) (ht : r.tmps = a.tmps) (hs : r.state = .ready) (hp : r.pending = none) :
    Rel P Z nt { s with ob := upd s.ob nid (loopO k ks env) } a (w.alloc (.loop r)) I (upd μ nid w.heap.size) (upd ν nid undef) := by
  refine lay_new hr hn hd _ _ (fun _ _ => rfl) fun μ' ν' hμ hg hI => ?_
  have key : ∀ i, VR w I μ ν s.ob (envGet env i).flat0 (a.tmps.getD i undef) ∧ (envGet env i).flat0.sc0 s.ob := fun i => by rw [← he]; exact flat0_VR (hr.ts i) (hr.sc i)
  refine ⟨r, by rw [hμ]; exact heap_alloc_new w _, hl, by rw [hs]; rfl, hp, by simp, fun j i c hi hc => ?_, fun c hc => ?_, by rw [hμ]; exact new_above hr (Nat.le_refl _)⟩
  · rw [List.getElem?_map, hi] at hc
    simp only [Option.map_some, Option.some.injEq] at hc
    subst hc
    rw [ht]
    exact (key i).1.mono0 hI hg (key i).2
  · obtain ⟨i, _, rfl⟩ := List.mem_map.1 hc
    exact (key i).2.mono hg
theorem ObR.newB {N N' : Nat → Prop} {ob : Nat → AObj} {o : Nat} {x : AObj} (h : ObR P N w I μ ν ob o x) (hN : ∀ b, blkOf μ ν o x = some b → N' b) : ObR P N' w I μ ν ob o x := by
  cases x with
  | dead => trivial
  | box cs =>
    obtain ⟨vs, t, h1, h3, h4, h5, h6, h7, h8⟩ := h
    exact ⟨vs, t, h1, h3, h4, h5, h6, h7, hN _ rfl⟩
  | vec g mv fz e sz els => obtain ⟨xs, h⟩ := h; exact ⟨xs, h.newN fun b hb => hN b hb⟩
  | map es => obtain ⟨ents, h1, h2, h3, h4⟩ := h; exact ⟨ents, h1, h2, hN _ rfl, h4⟩
  | mapd es bs ck => obtain ⟨ents, h1, h2, h3, h4⟩ := h; exact ⟨ents, h1, h2, hN _ rfl, h4⟩
  | iter m s1 s2 s3 => exact ⟨h.1, h.2.1, hN _ rfl⟩
  | loop k busy ks vs => obtain ⟨r, h1, h2, h3, h4, h5, h6, h7, h8⟩ := h; exact ⟨r, h1, h2, h3, h4, h5, h6, h7, hN _ rfl⟩
theorem ZExt.refl {Z : Zst} (h0 : Z.ds = []) (h : ∀ b o, Z.I b o → b < Z.w.heap.size) : ZExt Z Z :=
  ⟨rfl, rfl, rfl, Keep.refl _ _, fun _ h => h, fun _ _ h => ⟨h, rfl⟩, h, fun _ _ h => .inl h, by rw [h0]; simp, by rw [h0]; exact List.nodup_nil⟩
theorem RelX.of {Z : Zst} (h0 : Z.ds = []) (h : RelE P Z nt s a w) : RelX P Z nt s a w := by
  obtain ⟨I, μ, ν, hr⟩ := h
  exact ⟨Z, .refl h0 hr.i00, I, μ, ν, hr⟩
theorem ZExt.new_keep {Z Z' : Zst} (h : ZExt Z Z') : ∀ q, q < Z.w.heap.size → ¬ Z.N q → ¬ Z'.N q := fun q hq hn hz => by
  rcases h.new q (.inl hz) with h | h
  · exact hn h
  · omega
theorem Rel.back {Z Z' : Zst} (hz : ZExt Z Z') (hr : Rel P Z' nt s a w I μ ν) : Rel P { Z with ds := Z'.ds } nt s a w I μ ν where
  os := fun o => (hr.os o).newB fun b hb => hz.new b (hr.blk_lt hb).2
  dd := hr.dd
  sep := hr.sep
  i2 := hr.i2
  nd := hr.nd
  size := hr.size
  ts := hr.ts
  sc := hr.sc
  bel := hz.bel.trans hr.bel hz.new_keep
  i0 := fun b o h => ⟨(hr.i0 b o (hz.i0 b o h).1).1, (hr.i0 b o (hz.i0 b o h).1).2.trans (hz.i0 b o h).2⟩
  i00 := hz.i00
  i1 := fun b o h => by
    rcases hr.i1 b o h with h | h
    · exact hz.i1 b o h
    · exact .inr (hz.new b h)
  go := by
    have := hr.go
    rw [hz.ob, hz.mu, hz.nu] at this
    exact this
theorem marks_leave {F : Fence} {n : Nat} {fn : Func} {R : Ending → World → Prop} : ∀ (ds : List Deferred) (w : World), Rel P Z nt s a w I μ ν → (∀ d ∈ ds, ∃ r, d = ⟨.collected r, #[]⟩ ∧ Z.w.heap.size ≤ r ∧ w.heap[r]? = some (.deferred (some [])) ∧ ∀ o b, blkOf μ ν o (s.ob o) = some b → b ≠ r) → ds.Nodup →
    (∀ w', Rel P Z nt s a w' I μ ν → LeavesInM F n P fn a.tmps R [] .returning w') → LeavesInM F n P fn a.tmps R ds .returning w
  | [], w, hr, _, _, h => h w hr
  | d :: ds, w, hr, hd, hnd, h => by
    obtain ⟨r, rfl, h1, h2, h3⟩ := hd d List.mem_cons_self
    have hlt : r < w.heap.size := (Array.getElem?_eq_some_iff.1 h2).1
    have other : ∀ b, b ≠ r → (w.putObj r (.deferred none)).heap[b]? = w.heap[b]? := fun b hne => World.putObj_heap_other hne
    have hr2 : Rel P Z nt s a (w.putObj r (.deferred none)) I μ ν := hr.on (fun b off hi => ⟨hi, cell_set_other h2 (by simp) (by simp)⟩) (fun o b hb => ⟨other b (h3 o b hb), fun _ h => h⟩)
      (hr.keep (N := fun b => b = r) ⟨rfl, rfl, rfl, by simp [World.putObj], fun q hq hn => other q hn⟩ fun b _ hb => by subst hb; exact .inr h1) (fun b off h => .inl h) (fun b off h => by have := hr.i2 b off h; simpa [World.putObj] using this)
    refine ⟨by simp, .inl ⟨r, _, rfl, run_takeDeferred h2, ?_⟩⟩
    refine marks_leave ds _ hr2 (fun d' hd' => ?_) (List.nodup_cons.1 hnd).2 h
    obtain ⟨r', rfl, k1, k2, k3⟩ := hd d' (List.mem_cons_of_mem _ hd')
    refine ⟨r', rfl, k1, ?_, k3⟩
    rw [other r' ?_]
    · exact k2
    · rintro rfl; exact (List.nodup_cons.1 hnd).1 hd'
theorem marks_at {Z Z' : Zst} (hz : ZExt Z Z') (hr : Rel P Z' nt s a w I μ ν) : ∀ d ∈ Z'.ds, ∃ r, d = ⟨.collected r, #[]⟩ ∧ Z.w.heap.size ≤ r ∧ w.heap[r]? = some (.deferred (some [])) ∧ ∀ o b, blkOf μ ν o (s.ob o) = some b → b ≠ r := fun d hd => by
  obtain ⟨r, h1, h2, h3, h4, h5⟩ := hz.marks d hd
  refine ⟨r, h1, h2, (hr.bel.block r h3 h4).trans h5, fun o b hb e => ?_⟩
  subst e
  rcases (hr.blk_lt hb).2 with h | h
  · exact h4 h
  · omega
end
def ExecOk (P : Program) (c : SC) (st : St) (S : Ex → St → Prop) : Prop :=
  ∀ (code : Code) (nt : Nat), slim nt code = c.erase P → ∀ (Z : Zst) (n0 : Nat), tidyB n0 c = true → (∀ o, Z.ob o ≠ .dead → o < n0) → ∀ (ro : Option Nat) (dn : Nat), (ro ≠ none → noRng c = true) → ∀ (Post : Exit → Act → World → Prop) (a : Act) (w : World), RelX P Z nt st.ss a w →
    (∀ e st' a' w', S e st' → RelX P Z nt st'.ss a' w' → Post (exOf e) a' w') → code.wpIn (WF ro) dn P Post a w
def LoopWp (ro : Option Nat) (dn : Nat) (P : Program) (c : Code) (Q : Exit → Act → World → Prop) (a : Act) (w : World) : Prop :=
  ∀ (b : Frame) (k : List Item) (cs : List Frame), b.roundOf = (WF ro).round → (WF ro).fn b.fn → (WF ro).room (cs.length + 1 + dn) → ∃ e a' w', Q e a' w' ∧ ArrivesIn (Machine.fenced P (WF ro)) P (lone (b.atR a (.code c :: .inLoop c :: k)) cs w) b k cs e a' w'
theorem LoopWp.round {ro : Option Nat} {dn : Nat} {P : Program} {c : Code} {Q : Exit → Act → World → Prop} {a : Act} {w : World} (h : c.wpIn (WF ro) dn P (Exit.then (LoopWp ro dn P c Q) Q) a w) : LoopWp ro dn P c Q a w := by
  intro b k cs hro hb hr
  obtain ⟨e, a₁, w₁, hq, harr⟩ := h b (.inLoop c :: k) cs hro hb hr
  cases e with
  | normal =>
    obtain ⟨e₂, a₂, w₂, hq₂, harr₂⟩ := hq b k cs hro hb hr
    exact ⟨e₂, a₂, w₂, hq₂, .of_steps (StepsIn.trans harr (.one (fenced_calm hb hr rfl) stepR_inLoop)) harr₂⟩
  | exit id => exact ⟨_, a₁, w₁, hq, .pass (x := .inLoop c) rfl (fun _ _ => .inl (by simp)) harr⟩
  | goto l => exact ⟨_, a₁, w₁, hq, .pass (x := .inLoop c) rfl (fun _ _ => .inl (by simp)) harr⟩
  | ret => exact ⟨_, a₁, w₁, hq, .pass (x := .inLoop c) rfl (fun _ _ => .inl (by simp)) harr⟩
  | panic ch => exact ⟨_, a₁, w₁, hq, .pass (x := .inLoop c) rfl (fun _ _ => .inl (by simp)) harr⟩
  | outgrown => exact ⟨_, a₁, w₁, hq, .pass (x := .inLoop c) rfl (fun _ _ => .inl (by simp)) harr⟩
theorem LoopWp.loop {ro : Option Nat} {dn : Nat} {P : Program} {c : Code} {Q : Exit → Act → World → Prop} {a : Act} {w : World} (h : LoopWp ro dn P c Q a w) : (Code.loop c).wpIn (WF ro) dn P Q a w := fun b k cs hro hb hr =>
  let ⟨e, a', w', hq, harr⟩ := h b k cs hro hb hr
  ⟨e, a', w', hq, .of_steps (.one (fenced_calm hb hr rfl) stepR_loop) harr⟩
def LoopOk (P : Program) (b : SC) (st : St) (S : Ex → St → Prop) : Prop :=
  ∀ (code : Code) (nt : Nat), slim nt code = b.erase P → ∀ (Z : Zst) (n0 : Nat), tidyB n0 b = true → (∀ o, Z.ob o ≠ .dead → o < n0) → ∀ (ro : Option Nat) (dn : Nat), (ro ≠ none → noRng b = true) → ∀ (Post : Exit → Act → World → Prop) (a : Act) (w : World), RelX P Z nt st.ss a w →
    (∀ e st' a' w', S e st' → RelX P Z nt st'.ss a' w' → Post (exOf e) a' w') → LoopWp ro dn P code Post a w
theorem dstChk_ok {nt : Nat} {ops : Array Oper} (h : dstChk nt ops = true) : ∀ i d, dstOf ops i = some d → d < nt := fun i d hd => by
  obtain ⟨o, ho, hdo⟩ := dstOf_lt hd
  have := List.all_eq_true.1 h o (Array.mem_toList_iff.2 (Array.mem_of_getElem? ho))
  simpa [hdo] using this
theorem slim_region {nt : Nat} {id : Nat} {ops : Array Oper} {draw : Bool} {l : List SOp} {B : Option (List Nat)} (h : slim nt (.region id ops draw) = .reg l B) :
    slimOps ops ops.toList = some l ∧ dstChk nt ops = true ∧ ((draw = false ∧ B = none) ∨ ∃ b, draw = true ∧ B = some b ∧ drawChk ops b = true) := by
  unfold slim at h
  split at h
  · cases h
  · rename_i l' hl
    split at h
    · rename_i hd
      split at h
      · rename_i hdr
        simp only at h
        split at h
        · rename_i hc
          injection h with h1 h2
          subst h1
          exact ⟨hl, hd, .inr ⟨_, hdr, h2.symm, hc⟩⟩
        · cases h
      · rename_i hdr
        injection h with h1 h2
        subst h1
        exact ⟨hl, hd, .inl ⟨by simpa using hdr, h2.symm⟩⟩
    · cases h
theorem slim_not_region {nt : Nat} {id : Nat} {os : Array Oper} {draw : Bool} {c : SC} (h : slim nt (.region id os draw) = c) : c = .bad ∨ ∃ l B, c = .reg l B := by
  subst h
  simp only [slim]
  repeat' split
  all_goals first | exact .inl rfl | exact .inr ⟨_, _, rfl⟩
section
variable {P : Program} {c : Ctx}
theorem region_ok (hc : COk P c) (hm : P.follows .mixedOrders = true) {ops : List SOp} {B : Option (List Nat)} {st : St} {S : St → Prop} (h : OpsOk c (Good P) B 0 st.obs.length [] ops (roomFor ops st) S) : ExecOk P (.reg ops B) st (fun e st' => e = .norm ∧ S st') := by
  intro code nt hs Z n0 _ _ ro dn _ Post a w hr hQ
  obtain ⟨Z', hz, hr⟩ := hr
  cases code with
  | region id os draw =>
    obtain ⟨h1, h2, h3⟩ := slim_region (l := ops.map SOp.strip) (B := B) hs
    obtain ⟨g1, g2⟩ := slimOps_get h1
    have hl : os.size = ops.length := by simpa using g1.symm
    have h := h os (ops.map (·.an)) st.obs.length (fun k => by rw [Nat.zero_add, hl]) (fun k o ho => by
      rw [Nat.zero_add] at ho
      obtain ⟨x, hx, hx'⟩ := g2 k o (by simpa using ho)
      rw [List.getElem?_map] at hx
      obtain ⟨y, hy, rfl⟩ := Option.map_eq_some_iff.1 hx
      exact ⟨y, hy, hx'⟩) (fun k x hx => by
      rw [Nat.zero_add]
      refine ⟨?_, by simpa using (List.getElem?_eq_some_iff.1 hx).1⟩
      simp [anOf, List.getD_eq_getElem?_getD, hx]) (by
      have : laysTo (ops.map (·.an)) 0 = 0 := by cases ops.map (·.an) <;> rfl
      simp [nidOf, this]) (by simp [roomFor])
    rw [roomFor_ss, ← hl, ← List.range_eq_range'] at h
    rcases h3 with ⟨rfl, rfl⟩ | ⟨b, rfl, rfl, hb⟩
    · refine region_text hc (dstChk_ok h2) hr h fun s' a' w' hs hr' => ?_
      obtain ⟨st', hS, rfl⟩ := hs
      exact hQ .norm st' a' w' ⟨rfl, hS⟩ ⟨Z', hz, hr'⟩
    · obtain ⟨st', hS, h⟩ := h
      exact region_draw hc hm (dstChk_ok h2) (drawChk_ok hb) hr h fun a' w' hr' => hQ .norm st' a' w' ⟨rfl, hS⟩ ⟨Z', hz, hr'⟩
  | rangeFunc g ps x y => simp only [slim] at hs; split at hs <;> simp [SC.erase] at hs
  | _ => simp [slim, SC.erase] at hs
def resRun (tmps : Array Value) : ResultVar → Sem Value
  | .tmp t => pure (tmps.getD t undef)
  | .cell a t => do loadVar t (← asAddr (tmps.getD a undef))
theorem results_eq (fn : Func) (tmps : Array Value) : results fn tmps = (do
    let vs ← fn.results.mapM (resRun tmps)
    pure (if h : vs.size = 1 then vs[0] else .tuple vs)) := rfl
theorem run_mapM {w : World} {α β : Type} (g : α → Sem β) : ∀ (l : List α) (r : List β), l.length = r.length → (∀ (i : Nat) (x : α) (y : β), l[i]? = some x → r[i]? = some y → (g x).run P w = .ok y w) → (l.mapM g).run P w = .ok r w
  | [], [], _, _ => by simp
  | x :: l, y :: r, hl, h => by
    have h1 := h 0 x y (by simp) (by simp)
    have h2 := run_mapM g l r (by simpa using hl) (fun i a b ha hb => h (i + 1) a b (by simpa using ha) (by simpa using hb))
    simp [List.mapM_cons, h1, h2]
  | [], _ :: _, hl, _ => by simp at hl
  | _ :: _, [], hl, _ => by simp at hl
def resV : List Value → Value
  | [v] => v
  | vs => .tuple vs.toArray
theorem run_results {w : World} {fn : Func} {tmps : Array Value} {l : List ResultVar} {vs : List Value} (hl : fn.results.toList = l) (hlen : l.length = vs.length)
    (h : ∀ (i : Nat) (x : ResultVar) (y : Value), l[i]? = some x → vs[i]? = some y → (resRun tmps x).run P w = .ok y w) : (results fn tmps).run P w = .ok (resV vs) w := by
  have hm := run_mapM (P := P) (w := w) (resRun tmps) l vs hlen h
  have ha : fn.results = l.toArray := by rw [← hl]
  rw [results_eq, ha, List.mapM_toArray]
  have hmap : (List.toArray <$> l.mapM (resRun tmps)).run P w = .ok vs.toArray w := by
    rw [map_eq_pure_bind]
    rw [Sem.run_bind, hm]
    rfl
  rw [Sem.run_bind, hmap]
  match vs with
  | [] => simp [resV]
  | [v] => simp [resV]
  | v :: u :: r => simp [resV]
variable {Z : Zst} {nt : Nat}
theorem resOf_ok (hc : COk P c) {st : St} {a : Act} {w : World} {I : Nat → Nat → Prop} {μ : Nat → Nat} {ν : Nat → Value} (hr : Rel P Z nt st.ss a w I μ ν) {r : ResultVar} {x : AV} (h : resOf c.T st r = some x) :
    ∃ u, (resRun a.tmps r).run P w = .ok u w ∧ VR w I μ ν st.ss.ob x u ∧ x.sc st.ss.ob := by
  cases r with
  | tmp t =>
    simp only [resOf, Option.some.injEq] at h
    subst h
    exact ⟨_, by simp [resRun], hr.ts t, hr.sc t⟩
  | cell b t =>
    simp only [resOf] at h
    have hx := hr.ts b
    obtain ⟨u, h1, h2, h3⟩ := run_loadF hc hr hx h
    refine ⟨u, ?_, h2, h3⟩
    have hp : ∃ p, a.tmps.getD b undef = .pointer (some p) := by
      have hb : st.ss.t b = envGet st.env b := rfl
      rw [hb] at hx
      unfold loadF at h
      split at h
      · cases h
      · split at h
        · rename_i e; rw [e] at hx
          generalize a.tmps.getD b undef = q at hx
          cases hx; exact ⟨_, rfl⟩
        · rename_i e; rw [e] at hx
          generalize a.tmps.getD b undef = q at hx
          cases hx; exact ⟨_, rfl⟩
        · rename_i e; rw [e] at hx
          generalize a.tmps.getD b undef = q at hx
          cases hx with
          | pv _ _ _ _ _ _ hl _ => obtain ⟨b', q', hl⟩ := hl; exact ⟨_, hl⟩
        · cases h
    obtain ⟨p, hp⟩ := hp
    rw [hp] at h1
    simp only [resRun, hp, asAddr]
    simpa [Instr.loadAt, Instr.sureAddr] using h1
theorem one0_sc {x : AV} (h : one0 x = true) {ob : Nat → AObj} (hs : x.sc ob) : x.sc0 ob := by
  cases x <;> first | exact hs | cases h
theorem resAll_ok (hc : COk P c) {st : St} {a : Act} {w : World} {I : Nat → Nat → Prop} {μ : Nat → Nat} {ν : Nat → Value} (hr : Rel P Z nt st.ss a w I μ ν) : ∀ {l : List ResultVar} {xs : List AV}, allSome (l.map (resOf c.T st)) = some xs →
    ∃ vs : List Value, l.length = vs.length ∧ xs.length = vs.length ∧ (∀ (i : Nat) (x : ResultVar) (y : Value), l[i]? = some x → vs[i]? = some y → (resRun a.tmps x).run P w = .ok y w) ∧
      ∀ (i : Nat) (x : AV) (u : Value), xs[i]? = some x → vs[i]? = some u → VR w I μ ν st.ss.ob x u ∧ x.sc st.ss.ob
  | [], xs, h => by simp only [List.map_nil, allSome, Option.some.injEq] at h; subst h; exact ⟨[], rfl, rfl, by simp, by simp⟩
  | r :: l, xs, h => by
    simp only [List.map_cons] at h
    cases hx : resOf c.T st r with
    | none => simp [hx, allSome] at h
    | some x =>
      simp only [hx, allSome] at h
      split at h
      · rename_i ys h2
        injection h with h
        subst h
        obtain ⟨u, e1, e2, e3⟩ := resOf_ok hc hr hx
        obtain ⟨vs, q1, q2, q3, q4⟩ := resAll_ok hc hr h2
        refine ⟨u :: vs, by simp [q1], by simp [q2], fun i y v hy hv => ?_, fun i y v hy hv => ?_⟩
        · cases i with
          | zero => simp at hy hv; subst hy hv; exact e1
          | succ i => exact q3 i y v (by simpa using hy) (by simpa using hv)
        · cases i with
          | zero => simp at hy hv; subst hy hv; exact ⟨e2, e3⟩
          | succ i => exact q4 i y v (by simpa using hy) (by simpa using hv)
      · cases h
theorem resultsF_ok (hc : COk P c) {st : St} {a : Act} {w : World} {I : Nat → Nat → Prop} {μ : Nat → Nat} {ν : Nat → Value} (hr : Rel P Z nt st.ss a w I μ ν) {fn : Func} {r : AV} (h : resultsF c.T st fn.results.toList = some r) :
    ∃ v, (results fn a.tmps).run P w = .ok v w ∧ VR w I μ ν st.ss.ob r v ∧ r.sc st.ss.ob := by
  unfold resultsF at h
  split at h
  · rename_i q hl
    obtain ⟨u, e1, e2, e3⟩ := resOf_ok hc hr h
    refine ⟨u, run_results (vs := [u]) hl rfl (fun i x y hx hy => ?_), e2, e3⟩
    cases i with
    | zero => simp at hx hy; subst hx hy; exact e1
    | succ i => simp at hx
  · rename_i hl
    split at h
    · rename_i xs hxs
      split at h
      · rename_i ho
        injection h with h
        subst h
        obtain ⟨vs, q1, q2, q3, q4⟩ := resAll_ok hc hr hxs
        have := run_results (vs := vs) rfl q1 q3
        have hget : ∀ (y : AV), y ∈ xs → ∃ (i : Nat) (u : Value), xs[i]? = some y ∧ vs[i]? = some u := fun y hy => by
          obtain ⟨i, hi⟩ := List.mem_iff_getElem?.1 hy
          have hlt : i < vs.length := by rw [← q2]; exact (List.getElem?_eq_some_iff.1 hi).1
          exact ⟨i, _, hi, List.getElem?_eq_getElem hlt⟩
        refine ⟨_, this, ?_, fun y hy => ?_⟩
        · have e : resV vs = .tuple vs.toArray := by
            match vs, q1 with
            | [], _ => rfl
            | [v], q1 =>
              exfalso
              have h1 : fn.results.toList.length = 1 := by simpa using q1
              match hq : fn.results.toList, h1 with
              | [z], _ => exact hl z hq
            | v :: u :: r, _ => rfl
          rw [e]
          exact .tup _ _ q2 fun i y u hy hu => (q4 i y u hy hu).1
        · obtain ⟨i, u, hi, hu⟩ := hget y hy
          exact one0_sc (List.all_eq_true.1 ho y hy) (q4 i y u hi hu).2
      · cases h
    · cases h
theorem ObR.newN {N N' : Nat → Prop} {w : World} {I : Nat → Nat → Prop} {μ : Nat → Nat} {ν : Nat → Value} {ob : Nat → AObj} {o : Nat} {x : AObj} (h : ObR P N w I μ ν ob o x) (hN : ∀ b, N b → N' b) : ObR P N' w I μ ν ob o x := by
  cases x with
  | dead => trivial
  | box cs =>
    obtain ⟨vs, t, h1, h3, h4, h5, h6, h7, h8⟩ := h
    exact ⟨vs, t, h1, h3, h4, h5, h6, h7, hN _ h8⟩
  | vec g mv fz e sz els => obtain ⟨xs, h⟩ := h; exact ⟨xs, h.newN fun b hb => hN b (h.new b hb)⟩
  | map es => obtain ⟨ents, h1, h2, h3, h4⟩ := h; exact ⟨ents, h1, h2, hN _ h3, h4⟩
  | mapd es bs ck => obtain ⟨ents, h1, h2, h3, h4⟩ := h; exact ⟨ents, h1, h2, hN _ h3, h4⟩
  | iter m s1 s2 s3 => exact ⟨h.1, h.2.1, hN _ h.2.2⟩
  | loop k busy ks vs => obtain ⟨r, h1, h2, h3, h4, h5, h6, h7, h8⟩ := h; exact ⟨r, h1, h2, h3, h4, h5, h6, h7, hN _ h8⟩
theorem startEnv_get : ∀ (i : Nat) (xs : List AV) (k : Nat), envGet (startEnv i xs) k = if i ≤ k then (match xs[k - i]? with | some d => d | none => .junk) else .junk
  | i, [], k => by simp [startEnv, envGet]
  | i, d :: xs, k => by
    simp only [startEnv, envGet, startEnv_get (i + 1) xs k]
    by_cases h : k = i
    · subst h; simp
    · rw [if_neg h]
      by_cases h2 : i ≤ k
      · rw [if_pos h2, if_pos (by omega), show k - i = (k - (i + 1)) + 1 by omega]; simp
      · rw [if_neg h2, if_neg (by omega)]
theorem start_rel {w : World} {I : Nat → Nat → Prop} {N : Nat → Prop} {μ : Nat → Nat} {ν : Nat → Value} {xs : List AV} {obs : List AObj} {vs : List Value} (hS : StoR P N (obL obs) obs.length w I μ ν) (hlen : xs.length = vs.length) (hn : xs.length ≤ nt)
    (hv : ∀ (i : Nat) (x : AV) (v : Value), xs[i]? = some x → vs[i]? = some v → VR w I μ ν (obL obs) x v ∧ x.sc (obL obs)) :
    Rel P ⟨w, I, N, obL obs, μ, ν, []⟩ nt (St.ss ⟨startEnv 0 xs, obs⟩) { tmps := vs.toArray ++ Array.replicate (nt - vs.toArray.size) undef, defers := [] } w I μ ν where
  os := fun o => (hS.os o).newN fun b hb => .inl hb
  dd := hS.dd
  sep := hS.sep
  i2 := hS.i2
  nd := rfl
  size := by simp; omega
  ts := fun i => by
    show VR w I _ _ (obL obs) (envGet (startEnv 0 xs) i) _
    rw [startEnv_get]
    simp only [Nat.zero_le, if_true, Nat.sub_zero]
    cases hd : xs[i]? with
    | none => exact .junk _
    | some x =>
      have hi : i < vs.length := hlen ▸ (List.getElem?_eq_some_iff.1 hd).1
      refine (hv i x _ hd ?_).1
      rw [Array.getD_eq_getD_getElem?, Array.getElem?_append_left (by simpa using hi)]
      simp [List.getElem?_eq_getElem hi]
  sc := fun i => by
    show (envGet (startEnv 0 xs) i).sc (obL obs)
    rw [startEnv_get]
    simp only [Nat.zero_le, if_true, Nat.sub_zero]
    cases hd : xs[i]? with
    | none => trivial
    | some x =>
      have hi : i < vs.length := hlen ▸ (List.getElem?_eq_some_iff.1 hd).1
      exact (hv i x _ hd (List.getElem?_eq_getElem hi)).2
  bel := Keep.refl _ _
  i0 := fun _ _ h => ⟨h, rfl⟩
  i00 := fun b o h => hS.i2 b o h
  i1 := fun _ _ h => .inl h
  go := GoesZ.refl _ _ _
theorem reach_pre (ob : Nat → AObj) : ∀ (f : List Unit) (todo acc : List Nat), ∃ t, reach ob f todo acc = acc ++ t
  | [], _, acc => ⟨[], by simp [reach]⟩
  | _ :: _, [], acc => ⟨[], by simp [reach]⟩
  | _ :: f, o :: r, acc => by
    simp only [reach]
    split
    · exact reach_pre ob f r acc
    · obtain ⟨t, ht⟩ := reach_pre ob f ((ob o).oids ++ r) (acc ++ [o])
      exact ⟨o :: t, by rw [ht]; simp⟩
theorem finL_pre (n0 : Nat) (obs : List AObj) (r : AV) : ∃ t, finL n0 obs r = List.range n0 ++ t := reach_pre _ _ _ _
theorem finL_lN {n0 : Nat} {obs : List AObj} {r : AV} {o : Nat} (h : o < n0) : lN (finL n0 obs r) o = o ∧ o < (finL n0 obs r).length := by
  obtain ⟨t, ht⟩ := finL_pre n0 obs r
  rw [ht]
  refine ⟨?_, by simp; omega⟩
  unfold lN
  rw [List.getD_eq_getElem?_getD, List.getElem?_append_left (by simpa using h)]
  simp [h]
theorem end_core {st : St} {a : Act} {w' w : World} {I I0 : Nat → Nat → Prop} {N : Nat → Prop} {μ μ0 : Nat → Nat} {ν ν0 : Nat → Value} {obs : List AObj} {ds : List Deferred} (hr : Rel P ⟨w, I0, N, obL obs, μ0, ν0, ds⟩ nt st.ss a w' I μ ν) {x : AV} {v : Value} (q2 : VR w' I μ ν st.ss.ob x v) (q3 : x.sc st.ss.ob) {y : AV} {obs' : List AObj} (h : finish obs.length st.obs x = some (y, obs')) :
    ∃ (μ' : Nat → Nat) (ν' : Nat → Value), StoR P (fun b => N b ∨ w.heap.size ≤ b) (obL obs') obs'.length w' I μ' ν' ∧ VR w' I μ' ν' (obL obs') y v ∧ y.sc (obL obs') ∧ GoesZ (obL obs) (obL obs') μ0 μ' ν0 ν' := by
  unfold finish finishL at h
  split at h <;> first | (cases h; done) | skip
  rename_i hcl
  injection h with h
  injection h with e1 e2
  subst e1 e2
  rw [Bool.and_eq_true] at hcl
  obtain ⟨hcl, hx'⟩ := hcl
  obtain ⟨hcl, hxs⟩ := closedB_ok hcl
  have hnd := nodupB_ok hx'
  have hlen : (packL (finL obs.length st.obs x) (obGet st.obs) true).length = (finL obs.length st.obs x).length := by simp [packL]
  have hlt : ∀ o, obL obs o ≠ .dead → o < obs.length := fun o ho => obL_lt ho
  have hget : ∀ o, o < obs.length → obL (packL (finL obs.length st.obs x) (obGet st.obs) true) o = packO (fun q => (finL obs.length st.obs x).idxOf q) (obGet st.obs) true (obGet st.obs o) := fun o ho => by
    obtain ⟨h1, h2⟩ := finL_lN (obs := st.obs) (r := x) ho
    rw [packL_get h2, h1]
  refine ⟨fun i => μ (lN (finL obs.length st.obs x) i), fun i => ν (lN (finL obs.length st.obs x) i), ?_, ?_, ?_, ?_⟩
  · rw [hlen]
    exact pack_sto (ob := obGet st.obs) hr.toStoR hcl hnd true _ fun o _ b hb => (hr.blk_lt hb).2
  · exact (VR.ren q3 (fun o ho => leads_pack (keep := true) (ob := obGet st.obs) (hxs x (by simp) o ho)) q2).1
  · exact (VR.ren q3 (fun o ho => leads_pack (keep := true) (ob := obGet st.obs) (hxs x (by simp) o ho)) q2).2
  · refine ⟨fun o ho => ?_, fun o g mv fz e sz els ho => ?_⟩
    · have hol := hlt o ho
      obtain ⟨g1, g2⟩ := hr.go.live o ho
      refine ⟨?_, ?_⟩
      · rw [hget o hol]; exact packO_live g1
      · show μ (lN _ o) = μ0 o
        rw [(finL_lN hol).1]; exact g2
    · have hol := hlt o (by rw [ho]; simp)
      obtain ⟨g', mv', fz', els', h1, h2⟩ := hr.go.vec o g mv fz e sz els ho
      have h1' : obGet st.obs o = .vec g' mv' fz' e sz els' := h1
      refine ⟨0, mv', fz', els', ?_, fun hm => ?_⟩
      · rw [hget o hol, h1']; simp [packO]
      · show ν (lN _ o) = ν0 o ∧ _
        rw [(finL_lN hol).1]; exact h2 hm
theorem end_ok (hc : COk P c) {st : St} {a : Act} {w' w : World} {I I0 : Nat → Nat → Prop} {N : Nat → Prop} {μ μ0 : Nat → Nat} {ν ν0 : Nat → Value} {obs : List AObj} {ds : List Deferred} (hr : Rel P ⟨w, I0, N, obL obs, μ0, ν0, ds⟩ nt st.ss a w' I μ ν) {fn : Func} {y : AV} {obs' : List AObj} (h : endF c.T fn.results.toList obs.length st = some (y, obs')) :
    ∃ v, (results fn a.tmps).run P w' = .ok v w' ∧ ∃ (μ' : Nat → Nat) (ν' : Nat → Value), StoR P (fun b => N b ∨ w.heap.size ≤ b) (obL obs') obs'.length w' I μ' ν' ∧ VR w' I μ' ν' (obL obs') y v ∧ y.sc (obL obs') ∧ GoesZ (obL obs) (obL obs') μ0 μ' ν0 ν' := by
  unfold endF at h
  split at h <;> first | (cases h; done) | skip
  rename_i x hx
  obtain ⟨v, q1, q2, q3⟩ := resultsF_ok hc hr hx
  exact ⟨v, q1, end_core hr q2 q3 h⟩
theorem endF_len {T : Tbl} {l : List ResultVar} {n0 : Nat} {st : St} {y : AV} {obs' : List AObj} (h : endF T l n0 st = some (y, obs')) : n0 ≤ obs'.length := by
  unfold endF at h
  split at h <;> first | (cases h; done) | skip
  rename_i x hx
  unfold finish finishL at h
  split at h <;> first | (cases h; done) | skip
  injection h with h
  injection h with e1 e2
  subst e2
  obtain ⟨t, ht⟩ := finL_pre n0 st.obs x
  simp only [packL, List.length_map]
  rw [ht]; simp
theorem body_ok (hc : COk P c) {f : FuncId} (hf7 : f ≠ 1000000007) {s : SFn} (hs : (P.funcs[f]?).bind slimFn = some (s.erase P)) {xs : List AV} {obs : List AObj} (hl : xs.length = s.np) (ht : tidyB obs.length s.body = true) {S : Ex → St → Prop} (he : ExecOk P s.body ⟨startEnv 0 xs, obs⟩ S) {y : AV} {obs' : List AObj} (hlong : obs.length ≤ obs'.length) (hS : ∀ e st, S e st → (∀ id, e ≠ .exit id) ∧ endF c.T s.res obs.length st = some (y, obs')) : Good P f xs obs y obs' := by
  obtain ⟨fn, hf, hs⟩ := Option.bind_eq_some_iff.1 hs
  unfold slimFn at hs
  split at hs
  · rename_i c' hb
    split at hs
    · rename_i hcond
      injection hs with hs
      simp only [SFn.erase, SFn.mk.injEq] at hs
      obtain ⟨s1, s2, s3, s4⟩ := hs
      simp only [Bool.and_eq_true, decide_eq_true_eq, beq_iff_eq, bne_iff_ne, ne_eq] at hcond
      obtain ⟨h1, h3⟩ := hcond
      refine ⟨hlong, fun w I N μ ν vs hSt hN hlen hv => ⟨fun _ => ⟨by simp [callFunc, hf, hb, h3], ?_⟩, fun h => absurd h hf7⟩⟩
      refine (callsIn_wide (n := 0)).1 (callsIn_of_wp_marks hf hb trivial ?_)
      have hn : xs.length ≤ fn.ntmps := by rw [hl, ← s1]; exact h1
      refine he c' fn.ntmps s4 ⟨w, I, N, obL obs, μ, ν, []⟩ obs.length ht (fun o ho => obL_lt ho) none 0 (by simp) _ _ w (.of rfl ⟨I, μ, ν, start_rel hSt hlen hn hv⟩) fun e st' a' w' hSe hr' => ?_
      obtain ⟨Z', hz, I', μ1, ν1, hr'⟩ := hr'
      obtain ⟨hx, hr⟩ := hS e st' hSe
      rw [← s3] at hr
      have hd : a'.defers = Z'.ds := hr'.nd
      have hm := marks_at hz hr'
      have hb' := hr'.back hz
      have key : LeavesInM Fence.wide 0 P fn a'.tmps (fun e w' => ∃ (u : Value) (I' : Nat → Nat → Prop) (μ' : Nat → Nat) (ν' : Nat → Value), e = .returned u ∧ StoR P (fun b => N b ∨ w.heap.size ≤ b) (obL obs') obs'.length w' I' μ' ν' ∧
          VR w' I' μ' ν' (obL obs') y u ∧ y.sc (obL obs') ∧ (∀ b o, I b o → I' b o ∧ w'.cell? ⟨b, o, none⟩ = w.cell? ⟨b, o, none⟩) ∧ (∀ b o, I' b o → I b o ∨ N b ∨ w.heap.size ≤ b) ∧ Keep N w w' ∧ GoesZ (obL obs) (obL obs') μ μ' ν ν') a'.defers .returning w' := by
        rw [hd]
        refine marks_leave Z'.ds w' hb' hm hz.nodup fun w2 hr2 => ?_
        obtain ⟨v, q1, μ', ν', q2, q3, q4, q5⟩ := end_ok hc hr2 hr
        exact ⟨v, q1, v, I', μ', ν', rfl, q2, q3, q4, hr2.i0, fun b o hb => hr2.i1 b o hb, hr2.bel, q5⟩
      cases e with
      | norm => exact key
      | ret => exact key
      | exit id => exact absurd rfl (hx id)
    · cases hs
  · cases hs
end
end Go.Proofs.YtpooehcjchkbkaaV
/- The interpreter is sound: what it hands back, the call hands back. -/
set_option linter.unusedVariables false
set_option linter.unusedSimpArgs false
namespace Go.Proofs.YtpooehcjchkbkaaV
open Go.RowKit
structure PgOk (P : Program) (C : Pg) : Prop where
  T : TOk P C.T
  Q : ∀ t ks, C.Q t = some ks → EqOk P t ks
  A : ∀ f xs obs s, C.A f xs obs = some s → (P.funcs[f]?).bind slimFn = some (s.erase P)
  X : ∀ f xs obs y obs', C.X f xs obs = some (y, obs') → Good P f xs obs y obs'
  mo : P.follows .mixedOrders = true
  L : ∀ k l, C.L k = some l → loopS P k = some (l.erase P)
def TaskOk (P : Program) (C : Pg) : Task → (Out → Prop) → Prop
  | .exec c st, Q => ExecOk P c st (fun e st' => Q (.ex e st'))
  | .loop b st, Q => LoopOk P b st (fun e st' => Q (.ex e st'))
  | .ops B i nid acc l st, Q => OpsOk ⟨C.T, C.Q⟩ (Good P) B i nid acc l st (fun st' => Q (.st st'))
  | .run f xs obs, Q => ∀ y obs', (∀ o, Q o → o = .av y obs') → Good P f xs obs y obs'
section
variable {P : Program} {C : Pg}
theorem ExecOk.mono {c : SC} {st : St} {S S' : Ex → St → Prop} (h : ExecOk P c st S) (hs : ∀ e st, S e st → S' e st) : ExecOk P c st S' :=
  fun code nt hc Z n0 ht hZ ro dn hro Post a w hr hQ => h code nt hc Z n0 ht hZ ro dn hro Post a w hr fun e st' a' w' hS => hQ e st' a' w' (hs e st' hS)
theorem LoopOk.mono {c : SC} {st : St} {S S' : Ex → St → Prop} (h : LoopOk P c st S) (hs : ∀ e st, S e st → S' e st) : LoopOk P c st S' :=
  fun code nt hc Z n0 ht hZ ro dn hro Post a w hr hQ => h code nt hc Z n0 ht hZ ro dn hro Post a w hr fun e st' a' w' hS => hQ e st' a' w' (hs e st' hS)
theorem RunW.mono {c : Ctx} {G : Cont} {ans : List Ann} {ops : Array Oper} {base : Nat} {S S' : SS → Prop} (hs : ∀ s, S s → S' s) : ∀ {l : List Nat} {s : SS}, RunW c G ans ops base l s S → RunW c G ans ops base l s S'
  | [], s, h => hs s h
  | i :: l, s, h => by
    rcases h with ⟨v, e, h1, h2⟩ | ⟨al, h1, h2⟩
    · exact .inl ⟨v, e, h1, RunW.mono hs h2⟩
    · exact .inr ⟨al, h1, fun v e hm => RunW.mono hs (h2 v e hm)⟩
theorem OpsOk.mono {c : Ctx} {G : Cont} {B : Option (List Nat)} {i nid : Nat} {acc : Acc} {l : List SOp} {st : St} {S S' : St → Prop} (h : OpsOk c G B i nid acc l st S) (hs : ∀ st, S st → S' st) : OpsOk c G B i nid acc l st S' := by
  intro ops ans base h1 h2 h3 h4 h5
  have := h ops ans base h1 h2 h3 h4 h5
  cases B with
  | none => exact RunW.mono (fun s ⟨st', a, b⟩ => ⟨st', hs st' a, b⟩) this
  | some B => obtain ⟨st', a, b⟩ := this; exact ⟨st', hs st' a, b⟩
theorem TaskOk.mono : MonoW (TaskOk P C) := fun t Q Q' hQ h => by
  cases t with
  | exec c st => exact ExecOk.mono h fun e st' => hQ _
  | loop b st => exact LoopOk.mono h fun e st' => hQ _
  | ops B i nid acc l st => exact OpsOk.mono h fun st' => hQ _
  | run f xs obs => exact fun y obs' hq => h y obs' fun o ho => hq o (hQ o ho)
theorem someO_elim {α : Type} {K : α → Prop} {o : Option α} (h : someO K o) : ∃ x, o = some x ∧ K x := by
  cases o with
  | none => exact h.elim
  | some x => exact ⟨x, rfl, h⟩
theorem ExecOk.pre {g : Gh} {c : SC} {st st' : St} {S : Ex → St → Prop} (hC : PgOk P C) (hg : ghost C.T g st = some st') (h : ExecOk P c st' S) : ExecOk P (.pre g c) st S := by
  intro code nt hs Z n0 ht hZ ro dn hro Post a w hr hQ
  simp only [tidyB, Bool.and_eq_true] at ht
  obtain ⟨Z', hz, hr⟩ := hr
  refine h code nt hs Z n0 ht.2 hZ ro dn hro Post a w ⟨Z', hz, ghost_ok (c := ⟨C.T, C.Q⟩) ⟨hC.T, hC.Q⟩ hr hg fun keep z m e o ho => ?_⟩ hQ
  rcases e with rfl | rfl
  all_goals
    simp only [Gh.keeps, Bool.and_eq_true, decide_eq_true_eq] at ht
    have := hZ o (hz.ob ▸ ho)
    omega
theorem ExecOk.post {g : Gh} {c : SC} {st : St} {S S' : Ex → St → Prop} (hC : PgOk P C) (h : ExecOk P c st S) (hg : ∀ e st', S e st' → ∃ st2, ghostE C.T g e st' = some st2 ∧ S' e st2) : ExecOk P (.post c g) st S' := by
  intro code nt hs Z n0 ht hZ ro dn hro Post a w hr hQ
  simp only [tidyB, Bool.and_eq_true] at ht
  refine h code nt hs Z n0 ht.2 hZ ro dn hro Post a w hr fun e st' a' w' hS hr' => ?_
  obtain ⟨st2, hg, hS2⟩ := hg e st' hS
  obtain ⟨Z', hz, hr'⟩ := hr'
  refine hQ e st2 a' w' hS2 ⟨Z', hz, ?_⟩
  have hg' : ghost C.T g st' = some st2 ∨ st' = st2 := by
    unfold ghostE at hg
    split at hg
    all_goals first
      | exact .inl hg
      | (injection hg with hg; exact .inr hg)
  rcases hg' with hg | rfl
  · refine ghost_ok (c := ⟨C.T, C.Q⟩) ⟨hC.T, hC.Q⟩ hr' hg fun keep z m e o ho => ?_
    rcases e with rfl | rfl
    all_goals
      simp only [Gh.keeps, Bool.and_eq_true, decide_eq_true_eq] at ht
      have := hZ o (hz.ob ▸ ho)
      omega
  · exact hr'
theorem layL_ss (k : Nat) (ks : List Nat) (an : Ann) (st : St) : (⟨st.env, layL k ks an st⟩ : St).ss = ⟨envGet st.env, upd (obGet st.obs) st.obs.length (loopO k ks st.env), st.obs.length + (1 + an.lays)⟩ := by
  unfold St.ss layL
  simp only [SS.mk.injEq, true_and]
  refine ⟨?_, by simp; omega⟩
  funext o
  simp only [obGet, List.getD_eq_getElem?_getD, upd]
  by_cases h : o = st.obs.length
  · subst h; simp
  · rw [if_neg h]
    rcases Nat.lt_or_ge o st.obs.length with hl | hl
    · rw [List.getElem?_append_left hl]
    · rw [List.getElem?_append_right hl, List.getElem?_eq_none hl]
      obtain ⟨j, hj⟩ : ∃ j, o - st.obs.length = j + 1 := ⟨o - st.obs.length - 1, by omega⟩
      rw [hj, List.getElem?_cons_succ, List.getElem?_replicate]
      split <;> rfl
theorem finish_len {n0 : Nat} {obs : List AObj} {x y : AV} {obs' : List AObj} (h : finish n0 obs x = some (y, obs')) : n0 ≤ obs'.length := by
  unfold finish finishL at h
  split at h <;> first | (cases h; done) | skip
  injection h with h
  injection h with e1 e2
  subst e2
  obtain ⟨t, ht⟩ := finL_pre n0 obs x
  simp only [packL, List.length_map]
  rw [ht]; simp
theorem rndEnd_len {n0 o : Nat} {obs : List AObj} {y : AV} {obs' : List AObj} (h : rndEnd n0 o obs = some (y, obs')) : n0 ≤ obs'.length := by
  unfold rndEnd at h
  split at h <;> first | (cases h; done) | skip
  exact finish_len h
theorem call_coreR {Z : Zst} {nt : Nat} {s : SS} {a : Act} {w : World} {I : Nat → Nat → Prop} {μ : Nat → Nat} {ν : Nat → Value} (hr : Rel P Z nt s a w I μ ν) {g : FuncId} {xs : List AV} {vs : List Value} (hxl : xs.length = vs.length) (hxv : ∀ (i : Nat) (x : AV) (u : Value), xs[i]? = some x → vs[i]? = some u → VR w I μ ν s.ob x u ∧ x.sc s.ob) {nid : Nat} {an : Ann} (hfr : ∀ j, j < an.lays → nid + j < s.n ∧ s.ob (nid + j) = .dead)
    {L : List Nat} {r : AV} {obs' : List AObj} (hG : Good P g (packX L s.ob xs) (packL L s.ob false) r obs') (hcl : closedB s.ob L xs = true) (hnd : nodupB L = true) (hK : obs'.length ≤ L.length + an.lays) {v : AV} {e : List (Nat × AObj)}
    (hland : landR an s.ob (r.ren (backN L nid) (obL obs') (backG s.ob (obL obs') L)) (backE s.ob L nid obs') = some (v, e)) :
    CallW P g vs w (fun en w' => ∃ u, en = .returned u ∧ ∃ I' μ' ν', Rel P Z nt { s with ob := upds s.ob e } a w' I' μ' ν' ∧ ∀ o, s.ob o ≠ .dead → μ' o = μ o) ∧ ∀ p ∈ e, p.1 < s.n := by
  rcases landR_cases hland with h | ⟨rfl, _, e0, h, he⟩
  · obtain ⟨h1, h2⟩ := call_core hr hxl hxv hfr hG hcl hnd hK h
    refine ⟨h1.mono fun en w' hR => ?_, fun p hp => ?_⟩
    · obtain ⟨u, rfl, I', μ', ν', k1, _, _, k4⟩ := hR
      exact ⟨u, rfl, I', μ', ν', k1, k4⟩
    · rcases h2 p hp with ⟨j, hj, e⟩ | h
      · rw [e]; exact (hfr j hj).1
      · exact hr.lt_n h
  · obtain ⟨h1, _⟩ := call_core hr hxl hxv hfr hG hcl hnd hK h
    refine ⟨h1.mono fun en w' hR => ?_, by simp⟩
    obtain ⟨u, rfl, I', μ', ν', k1, _, _, k4⟩ := hR
    rw [upds_idem he] at k1
    exact ⟨u, rfl, I', μ', ν', k1, k4⟩
theorem rng_ok (hc : COk P ⟨C.T, C.Q⟩) {g : Operand} {k : Nat} {ks : List Nat} {an : Ann} {st : St} {Q : Out → Prop} {f : FuncId} {xs : List AV} (hf : rngC (evalAV (envGet st.env) g) st.obs.length = .call f xs) {x : AV} {obs' : List AObj} (hG : Good P f (packX (reachOf (obGet (layL k ks an st)) xs) (obGet (layL k ks an st)) xs) (packL (reachOf (obGet (layL k ks an st)) xs) (obGet (layL k ks an st)) false) x obs')
    {p : AV × List (Nat × AObj)} (hcm : comeC an (obGet (layL k ks an st)) (reachOf (obGet (layL k ks an st)) xs) xs (st.obs.length + 1) x obs' = some p) {obs2 : List AObj} (he : endLp st.obs.length (setEff p.2 (layL k ks an st)) = some obs2) (h2 : Q (.ex .norm ⟨st.env, obs2⟩)) : ExecOk P (.rng g k ks an) st (fun e st' => Q (.ex e st')) := by
  intro code nt hs Z n0 ht hZ ro dn hro Post a w hr hQ
  obtain rfl : ro = none := by
    cases ro with
    | none => rfl
    | some l => have := hro (by simp); simp [noRng] at this
  have hs' : slim nt code = (match loopS P k with | some l => .rngE g l.nt l.ps l.sa l.sb | none => .pre (.frz 0) .bad) := hs
  cases code with
  | region id os draw => rcases slim_not_region hs with h | ⟨_, _, h⟩ <;> (rw [hs'] at *; simp only [SC.erase] at h; split at h <;> cases h)
  | rangeFunc g' ps ca cb =>
    simp only [slim] at hs'
    split at hs'
    rotate_left
    · split at hs' <;> cases hs'
    split at hs'
    rotate_left
    · cases hs'
    rename_i l hl
    simp only [SC.rngE.injEq] at hs'
    obtain ⟨rfl, l1, l2, l3, l4⟩ := hs'
    obtain ⟨Z', hz, I, μ, ν, hrr⟩ := hr
    refine wpIn_rangeFunc fun fn _ => ?_
    let r : Loop := { state := .ready, pending := none, fn, tmps := a.tmps, params := ps, assign := ca, body := cb, defers := w.heap.size }
    let w0 := w.alloc (.deferred (some []))
    let w2 := w0.alloc (.loop r)
    have hsz0 : w0.heap.size = w.heap.size + 1 := by simp [w0]
    have hsz2 : w2.heap.size = w.heap.size + 2 := by simp [w2, w0]
    have hr0 : Rel P Z' nt st.ss a w0 I μ ν := hrr.on (fun b o h => ⟨h, World.cell?_alloc_lt w _ ⟨b, o, none⟩ (hrr.i2 b o h)⟩) (fun o b hb => ⟨heap_old w _ b (hrr.blk_lt hb).1, fun _ h => h⟩) (hrr.keepAbove (keep_alloc w _)) (fun b o h => .inl h) (fun b o h => by have := hrr.i2 b o h; omega)
    have hd : st.ss.ob st.obs.length = .dead := by
      show obGet st.obs st.obs.length = .dead
      simp [obGet]
    have hsize : a.tmps.size = nt := hrr.size
    have hr2 := lay_loop (hr0.more (1 + an.lays)) (nid := st.obs.length) (by show st.obs.length < st.obs.length + (1 + an.lays); omega) hd (k := k) (ks := ks) (env := st.env) (fun i => rfl) (r := r) (by
      rw [hl]
      cases l
      simp only at l1 l2 l3 l4
      subst l1 l2 l3 l4
      simp only [r, hsize]) rfl rfl rfl
    have hss : ({ st.ss with n := st.ss.n + (1 + an.lays), ob := upd st.ss.ob st.obs.length (loopO k ks st.env) } : SS) = (⟨st.env, layL k ks an st⟩ : St).ss := (layL_ss k ks an st).symm
    change Rel P Z' nt { st.ss with n := st.ss.n + (1 + an.lays), ob := upd st.ss.ob st.obs.length (loopO k ks st.env) } a w2 I _ _ at hr2
    rw [hss] at hr2
    let mk : Deferred := { target := .collected w.heap.size, args := #[] }
    let μ2 := upd μ st.obs.length w0.heap.size
    let ν2 := upd ν st.obs.length undef
    let Z2 : Zst := ⟨w2, I, fun b => Z'.new b ∧ b ≠ w.heap.size, Z'.ob, Z'.μ, Z'.ν, mk :: Z'.ds⟩
    have hle : Z'.w.heap.size ≤ w.heap.size := hrr.bel.size
    have hz2 : ZExt Z Z2 := {
      ob := hz.ob
      mu := hz.mu
      nu := hz.nu
      bel := hz.bel.trans hr2.bel hz.new_keep
      new := fun b hb => by
        rcases hb with hb | hb
        · exact hz.new b hb.1
        · exact hz.new b (.inr (by have : w2.heap.size ≤ b := hb; omega))
      i0 := fun b o h => ⟨(hr2.i0 b o (hz.i0 b o h).1).1, (hr2.i0 b o (hz.i0 b o h).1).2.trans (hz.i0 b o h).2⟩
      i00 := hz.i00
      i1 := fun b o h => by
        rcases hr2.i1 b o h with h | h
        · exact hz.i1 b o h
        · exact .inr (hz.new b h)
      marks := fun d hd => by
        rcases List.mem_cons.1 hd with rfl | hd
        · refine ⟨w.heap.size, rfl, Nat.le_trans hz.bel.size hle, by show _ < w2.heap.size; omega, fun h => h.2 rfl, ?_⟩
          show w2.heap[w.heap.size]? = _
          rw [show w2.heap[w.heap.size]? = w0.heap[w.heap.size]? from heap_old w0 _ _ (by omega)]
          exact World.alloc_heap_new w _
        · obtain ⟨q, h1, h2, h3, h4, h5⟩ := hz.marks d hd
          refine ⟨q, h1, h2, by show _ < w2.heap.size; omega, fun h => ?_, (hr2.bel.block q h3 h4).trans h5⟩
          rcases h.1 with h | h
          · exact h4 h
          · omega
      nodup := List.nodup_cons.2 ⟨fun hm => by
        obtain ⟨q, h1, _, h3, _, _⟩ := hz.marks _ hm
        injection h1 with h1 _
        injection h1 with h1
        omega, hz.nodup⟩ }
    let a2 : Act := { a with defers := [mk] ++ a.defers }
    have hr3 : Rel P Z2 nt (⟨st.env, layL k ks an st⟩ : St).ss a2 w2 I μ2 ν2 := {
      os := fun o => (hr2.os o).newB fun b hb => .inl ⟨(hr2.blk_lt hb).2, fun e => by
        subst e
        by_cases ho : o = st.obs.length
        · subst ho
          rw [layL_ss] at hb
          simp only [upd_same] at hb
          have : some (upd μ st.obs.length w0.heap.size st.obs.length) = some w.heap.size := hb
          rw [upd_same] at this
          injection this with this
          omega
        · rw [layL_ss] at hb
          simp only [upd_ne _ _ ho] at hb
          rw [blk_upd ho] at hb
          have := (hrr.blk_lt (o := o) hb).1
          omega⟩
      dd := hr2.dd
      sep := hr2.sep
      i2 := hr2.i2
      nd := by show [mk] ++ a.defers = _; rw [hrr.nd]; rfl
      size := hr2.size
      ts := hr2.ts
      sc := hr2.sc
      bel := Keep.refl _ _
      i0 := fun _ _ h => ⟨h, rfl⟩
      i00 := hr2.i2
      i1 := fun _ _ h => .inl h
      go := hr2.go }
    -- who is called
    have hgv := hr3.ev g'
    have hgs := hr3.evsc g'
    have hev : evalAV (⟨st.env, layL k ks an st⟩ : St).ss.t g' = evalAV (envGet st.env) g' := rfl
    rw [hev] at hgv hgs
    unfold rngC at hf
    split at hf <;> first | (cases hf; done) | skip
    rename_i g1 fa fb hfe
    split at hf <;> first | (cases hf; done) | skip
    rename_i hne
    injection hf with e1 e2
    subst e1
    rw [hfe] at hgv hgs
    have hfe' : a.eval g' = .func (.func g1) (fa.map (ptrV μ2)).toArray (fb.map (ptrV μ2)).toArray := by
      have : a2.eval g' = a.eval g' := rfl
      rw [this] at hgv
      generalize a.eval g' = q at hgv
      cases hgv; rfl
    have hμ2 : μ2 st.obs.length = w.heap.size + 1 := by simp only [μ2, upd_same, hsz0]
    let yv : Value := .func (.yield (w.heap.size + 1)) #[] #[]
    let vs : List Value := fa.map (ptrV μ2) ++ [yv] ++ fb.map (ptrV μ2)
    have hyl : VR w2 I μ2 ν2 (⟨st.env, layL k ks an st⟩ : St).ss.ob (.yl st.obs.length) yv ∧ (AV.yl st.obs.length).sc (⟨st.env, layL k ks an st⟩ : St).ss.ob := by
      refine ⟨?_, ?_⟩
      · have := VR.yl (w := w2) (I := I) (μ := μ2) (ν := ν2) (ob := (⟨st.env, layL k ks an st⟩ : St).ss.ob) st.obs.length
        rw [hμ2] at this
        exact this
      · show (⟨st.env, layL k ks an st⟩ : St).ss.ob st.obs.length ≠ .dead
        rw [layL_ss]
        simp only [upd_same]
        simp [loopO]
    have hxl : xs.length = vs.length := by rw [← e2]; simp [vs, ptrsOf]
    have hxv : ∀ (i : Nat) (x : AV) (u : Value), xs[i]? = some x → vs[i]? = some u → VR w2 I μ2 ν2 (⟨st.env, layL k ks an st⟩ : St).ss.ob x u ∧ x.sc (⟨st.env, layL k ks an st⟩ : St).ss.ob := by
      intro i x u hxi hui
      rw [← e2] at hxi
      have l1 : (ptrsOf fa).length = (fa.map (ptrV μ2)).length := by simp [ptrsOf]
      have scp : ∀ (l : List (Nat × Nat)), (∀ c ∈ l, (⟨st.env, layL k ks an st⟩ : St).ss.ob c.1 ≠ .dead) → ∀ x ∈ ptrsOf l, x.sc (⟨st.env, layL k ks an st⟩ : St).ss.ob := fun l hl x hx => by
        obtain ⟨c, hc, rfl⟩ := List.mem_map.1 hx
        exact hl c hc
      simp only [vs, List.append_assoc] at hxi hui
      rw [List.getElem?_append] at hxi hui
      rw [l1] at hxi
      split at hui
      · rename_i hlt
        rw [if_pos hlt] at hxi
        exact ⟨ptrs_VR i x u hxi hui, scp fa (fun c hc => hgs c (List.mem_append_left _ hc)) x (List.mem_of_getElem? hxi)⟩
      · rename_i hlt
        rw [if_neg hlt] at hxi
        generalize i - (fa.map (ptrV μ2)).length = i' at hxi hui
        cases i' with
        | zero =>
          simp at hxi hui
          subst hxi hui
          exact hyl
        | succ i' =>
          simp only [List.cons_append, List.nil_append, List.getElem?_cons_succ] at hxi hui
          exact ⟨ptrs_VR i' x u hxi hui, scp fb (fun c hc => hgs c (List.mem_append_right _ hc)) x (List.mem_of_getElem? hxi)⟩
    obtain ⟨v, e⟩ := p
    obtain ⟨c1, c2, c3, c4⟩ := comeC_some hcm
    obtain ⟨hcall, hkeys⟩ := call_coreR hr3 hxl hxv (nid := st.obs.length + 1) (an := an) (fun j hj => by
      rw [layL_ss]
      refine ⟨by show _ < st.obs.length + (1 + an.lays); omega, ?_⟩
      show upd _ _ _ _ = _
      rw [upd_ne _ _ (by omega)]
      show obGet st.obs _ = _
      unfold obGet
      rw [List.getD_eq_getElem?_getD, List.getElem?_eq_none (by omega)]
      rfl) hG c1 c2 c3 c4
    obtain ⟨hent, hcalls⟩ := hcall.fn hne
    have hvs : vs.toArray = (fa.map (ptrV μ2)).toArray ++ #[yv] ++ (fb.map (ptrV μ2)).toArray := by
      show vs.toArray = (fa.map (ptrV μ2)).toArray ++ [yv].toArray ++ (fb.map (ptrV μ2)).toArray
      rw [List.append_toArray, List.append_toArray]
    refine ⟨w.heap.size + 1, [mk], w2, { target := .fn (.func g1) (fb.map (ptrV μ2)).toArray, args := (fa.map (ptrV μ2)).toArray ++ #[yv] }, w2, g1, vs.toArray, w2, run_enterLoop_outer fn a.tmps ps ca cb, ?_, fun _ _ => trivial, ?_, fun h => (by cases h), ?_⟩
    · have hcst : a.eval (.const (.func (.yield (w.heap.size + 1)) #[] #[])) = yv := rfl
      simp [resolve, Deferred.ofValue, hfe', hcst]
    · simp only [invoke]
      rw [← hvs]
      exact hent
    · refine (callsIn_wide (n := dn - 1)).2 (hcalls.mono fun en w3 hR => ?_)
      obtain ⟨u, rfl, I3, μ3, ν3, hr4, hμ3⟩ := hR
      have hput : ({ (⟨st.env, layL k ks an st⟩ : St).ss with ob := upds (⟨st.env, layL k ks an st⟩ : St).ss.ob e } : SS) = (⟨st.env, setEff e (layL k ks an st)⟩ : St).ss := by
        have := put_ss (st := ⟨st.env, layL k ks an st⟩) (dst := none) (v := .junk) (e := e) hkeys
        exact this.symm
      rw [hput] at hr4
      unfold endLp at he
      split at he <;> first | (cases he; done) | skip
      rename_i k' ks' vs' hob
      injection he with he
      have ho4 := hr4.os st.obs.length
      have hob' : (⟨st.env, setEff e (layL k ks an st)⟩ : St).ss.ob st.obs.length = .loop k' 0 ks' vs' := hob
      rw [hob'] at ho4
      obtain ⟨r3, q1, q2, q3, q4, q5, q6, q7, q8⟩ := ho4
      have hμl : μ3 st.obs.length = w.heap.size + 1 := by
        rw [hμ3 _ hyl.2]
        exact hμ2
      have hst : r3.state ≠ .busy := by rw [q3]; simp
      have hend := (run_endLoop (P := P) q1 hst).trans (by rw [q4] : _ = Result.ok none (w3.putObj (μ3 st.obs.length) (.loop { r3 with state := .exhausted })))
      have hr5 := turn_loop hr4 hob' q1 (r' := { r3 with state := .exhausted }) 2 rfl rfl rfl rfl rfl q4 (ks' := []) (vs' := []) (.inr ⟨rfl, rfl⟩)
      rw [hμl] at hend hr5
      refine ⟨none, _, hend, ?_⟩
      refine hQ .norm ⟨st.env, obs2⟩ _ _ h2 ⟨Z2, hz2, I3, μ3, ν3, ?_⟩
      have hlt : st.obs.length < (setEff e (layL k ks an st)).length := by rw [setEff_length]; simp [layL]
      have hfin : ({ (⟨st.env, setEff e (layL k ks an st)⟩ : St).ss with ob := upd (⟨st.env, setEff e (layL k ks an st)⟩ : St).ss.ob st.obs.length (.loop k' 2 [] []) } : SS) = (⟨st.env, obs2⟩ : St).ss := by
        rw [← he]
        simp only [St.ss, SS.mk.injEq, true_and, List.length_set, and_true]
        rw [obGet_set _ hlt]
      rw [hfin] at hr5
      exact hr5
  | _ => simp only [slim] at hs'; split at hs' <;> cases hs'
theorem envGet_mid {p : Nat} {x : AV} {B : List (Nat × AV)} (i : Nat) : ∀ {A : List (Nat × AV)}, p ∉ A.map (·.1) → envGet (A ++ (p, x) :: B) i = envGet ((p, x) :: (A ++ B)) i
  | [], _ => rfl
  | (j, y) :: A, h => by
    simp only [List.map_cons, List.mem_cons, not_or] at h
    have ih := envGet_mid (x := x) (B := B) i h.2
    simp only [List.cons_append, envGet] at ih ⊢
    rw [ih]
    by_cases h1 : i = j
    · rw [if_pos h1]
      split
      · rename_i h2; exact absurd (h2.symm.trans h1) h.1
      · rfl
    · rw [if_neg h1, if_neg h1]
theorem zip_get {i : Nat} : ∀ {ks : List Nat} {vs : List AV}, envGet (ks.zip vs) i = .junk ∨ ∃ (j : Nat) (c : AV), ks[j]? = some i ∧ vs[j]? = some c ∧ envGet (ks.zip vs) i = c
  | [], vs => .inl (by simp [envGet])
  | k :: ks, [] => .inl (by simp [envGet])
  | k :: ks, v :: vs => by
    simp only [List.zip_cons_cons, envGet]
    by_cases h : i = k
    · subst h; rw [if_pos rfl]; exact .inr ⟨0, v, rfl, rfl, rfl⟩
    · rw [if_neg h]
      rcases zip_get (i := i) (ks := ks) (vs := vs) with h | ⟨j, c, h1, h2, h3⟩
      · exact .inl h
      · exact .inr ⟨j + 1, c, by simpa using h1, by simpa using h2, h3⟩
theorem rnd_env {R : AV → Value → Prop} : ∀ (ps : List Nat) (xs : List AV) (us : List Value) (env : List (Nat × AV)) (tmps : Array Value), ps.length = xs.length → xs.length = us.length → ps.Nodup → (∀ p ∈ ps, p < tmps.size) → (∀ (i : Nat) (x : AV) (u : Value), xs[i]? = some x → us[i]? = some u → R x u) → (∀ i, R (envGet env i) (tmps.getD i undef)) →
    (∀ i, R (envGet (ps.zip xs ++ env) i) (((ps.zip us).foldl (fun t q => t.setIfInBounds q.1 q.2) tmps).getD i undef)) ∧ ((ps.zip us).foldl (fun t q => t.setIfInBounds q.1 q.2) tmps).size = tmps.size
  | [], xs, us, env, tmps, h1, h2, _, _, _, h => by
    have : xs = [] := List.eq_nil_of_length_eq_zero h1.symm
    subst this
    exact ⟨fun i => by simpa using h i, by simp⟩
  | p :: ps, [], us, env, tmps, h1, _, _, _, _, _ => by simp at h1
  | p :: ps, x :: xs, [], env, tmps, _, h2, _, _, _, _ => by simp at h2
  | p :: ps, x :: xs, u :: us, env, tmps, h1, h2, h3, h4, h5, h => by
    have hn := List.nodup_cons.1 h3
    have hp := h4 p (by simp)
    obtain ⟨k1, k2⟩ := rnd_env ps xs us ((p, x) :: env) (tmps.setIfInBounds p u) (by simpa using h1) (by simpa using h2) hn.2 (fun q hq => by simpa using h4 q (by simp [hq])) (fun i y v hy hv => h5 (i + 1) y v (by simpa using hy) (by simpa using hv)) (fun i => by
      simp only [envGet, Array.getD_eq_getD_getElem?, Array.getElem?_setIfInBounds]
      by_cases e : i = p
      · subst e; rw [if_pos rfl, if_pos rfl, if_pos hp]; exact h5 0 x u rfl rfl
      · rw [if_neg e, if_neg (fun q => e q.symm)]
        have := h i
        rwa [Array.getD_eq_getD_getElem?] at this)
    refine ⟨fun i => ?_, by simpa using k2⟩
    have := k1 i
    rw [envGet_mid i (fun hm => hn.1 ?_)] at this
    · exact this
    · obtain ⟨q, hq, he⟩ := List.mem_map.1 hm
      rw [← he]
      exact (List.of_mem_zip hq).1
theorem rnd_ok (hC : PgOk P C) {xs : List AV} {obs : List AObj} {q : Nat × SLoop × St} (hrs : rndSt C.L xs obs = some q) {S1 : Ex → St → Prop} (h1 : ExecOk P q.2.1.sa q.2.2 S1) {y : AV} {obs' : List AObj}
    (h2 : ∀ e st1, S1 e st1 → e = .norm ∧ ∃ obs1, busyL q.1 st1.obs = some obs1 ∧ ExecOk P q.2.1.sb ⟨st1.env, obs1⟩ (fun e st2 => e = .norm ∧ rndEnd obs.length q.1 st2.obs = some (y, obs'))) (hlong : obs.length ≤ obs'.length) : Good P 1000000007 xs obs y obs' := by
  unfold rndSt at hrs
  split at hrs <;> first | (cases hrs; done) | skip
  rename_i o args
  split at hrs <;> first | (cases hrs; done) | skip
  rename_i k ks vs hob
  split at hrs <;> first | (cases hrs; done) | skip
  rename_i l hL
  split at hrs <;> first | (cases hrs; done) | skip
  rename_i hcond
  injection hrs with hrs
  subst hrs
  obtain ⟨n1, n2, n3, n4, n5, n6, n7⟩ := hcond
  simp only at h1 h2
  refine ⟨hlong, fun w I N μ ν us hSt hN hlen hv => ⟨fun h => absurd rfl h, fun _ => ?_⟩⟩
  cases us with
  | nil => simp at hlen
  | cons u0 us =>
    obtain ⟨hv0, hs0⟩ := hv 0 _ _ rfl rfl
    have hu0 : u0 = .func (.yield (μ o)) #[] #[] := by cases hv0; rfl
    have hos := hSt.os o
    have hob' : obL obs o = .loop k 0 ks vs := hob
    rw [hob'] at hos
    obtain ⟨r, a1, a2, a3, a4, a5, a6, a7, a8⟩ := hos
    have hl := hC.L k l hL
    rw [a2] at hl
    simp only [SLoop.erase, Option.some.injEq, SLoop.mk.injEq] at hl
    obtain ⟨l1, l2, l3, l4⟩ := hl
    have hal : args.length = us.length := by simpa using hlen
    have hpl : r.params.size = us.length := by
      rw [← hal, n1, ← l2]; simp
    refine ⟨μ o, us, r.fn, _, r.assign, r.body, by rw [hu0], run_yield a1 (by simpa using hpl.symm), ?_⟩
    refine roundIn_of_wpIn trivial ?_
    have hfold : (r.params.zip us.toArray).foldl (fun tmps (q : Tmp × Value) => tmps.setIfInBounds q.1 q.2) r.tmps = (l.ps.zip us).foldl (fun t q => t.setIfInBounds q.1 q.2) r.tmps := by
      rw [← Array.foldl_toList, Array.toList_zip, l2]
    let Z : Zst := ⟨w, I, N, obL obs, μ, ν, []⟩
    have henv := rnd_env (R := fun x u => VR w I μ ν (obL obs) x u ∧ x.sc (obL obs)) l.ps args us (ks.zip vs) r.tmps n1.symm hal (nodupB_ok n2) (fun p hp => by
      have := of_decide_eq_true (List.all_eq_true.1 n3 p hp)
      rw [l1]; exact this) (fun i x u hx hu => hv (i + 1) x u (by simpa using hx) (by simpa using hu)) (fun i => by
      rcases zip_get (i := i) (ks := ks) (vs := vs) with h | ⟨j, c, e1, e2, e3⟩
      · rw [h]; exact ⟨.junk _, trivial⟩
      · rw [e3]; exact ⟨a6 j i c e1 e2, (a7 c (List.mem_of_getElem? e2)).sc⟩)
    have hrel : Rel P Z r.tmps.size (⟨l.ps.zip args ++ ks.zip vs, obs⟩ : St).ss { tmps := (l.ps.zip us).foldl (fun t q => t.setIfInBounds q.1 q.2) r.tmps, defers := [] } w I μ ν := {
      os := fun o => (hSt.os o).newN fun b hb => .inl hb
      dd := hSt.dd
      sep := hSt.sep
      i2 := hSt.i2
      nd := rfl
      size := henv.2
      ts := fun i => (henv.1 i).1
      sc := fun i => (henv.1 i).2
      bel := Keep.refl _ _
      i0 := fun _ _ h => ⟨h, rfl⟩
      i00 := fun b o h => hSt.i2 b o h
      i1 := fun _ _ h => .inl h
      go := GoesZ.refl _ _ _ }
    have hlive : obL obs o ≠ .dead := by rw [hob']; simp
    have hmain : r.assign.wpIn (WF (some (μ o))) 0 P (Exit.then (fun a₁ w₁ => ∃ w₂, (Instr.beginRound (μ o)).run P w₁ = .ok () w₂ ∧ r.body.wpIn (WF (some (μ o))) 0 P (roundPost P (μ o) (fun e w' => ∃ (v : Value) (I' : Nat → Nat → Prop) (μ' : Nat → Nat) (ν' : Nat → Value), e = .returned v ∧ StoR P (fun b => N b ∨ w.heap.size ≤ b) (obL obs') obs'.length w' I' μ' ν' ∧
      VR w' I' μ' ν' (obL obs') y v ∧ y.sc (obL obs') ∧ (∀ b o, I b o → I' b o ∧ w'.cell? ⟨b, o, none⟩ = w.cell? ⟨b, o, none⟩) ∧ (∀ b o, I' b o → I b o ∨ N b ∨ w.heap.size ≤ b) ∧ Keep N w w' ∧ GoesZ (obL obs) (obL obs') μ μ' ν ν')) a₁ w₂) (fun _ _ _ => False))
      { tmps := (l.ps.zip us).foldl (fun t q => t.setIfInBounds q.1 q.2) r.tmps, defers := [] } w := by
      refine h1 r.assign r.tmps.size l3 Z obs.length n6 (fun o ho => obL_lt ho) (some (μ o)) 0 (fun _ => n4) _ _ w (.of rfl ⟨I, μ, ν, hrel⟩) fun e st1 b1 w1 hS1 hr1 => ?_
      obtain ⟨rfl, obs1, hbu, hex⟩ := h2 e st1 hS1
      obtain ⟨Z1, hz1, I1, μ1, ν1, hr1⟩ := hr1
      have hμ1 : μ1 o = μ o := by
        have := (hr1.go.live o (by rw [hz1.ob]; exact hlive)).2
        rw [hz1.mu] at this
        exact this
      unfold busyL at hbu
      split at hbu <;> first | (cases hbu; done) | skip
      rename_i k1 ks1 vs1 hob1
      injection hbu with hbu
      have ho1 := hr1.os o
      have hob1' : st1.ss.ob o = .loop k1 0 ks1 vs1 := hob1
      rw [hob1'] at ho1
      obtain ⟨r1, q1, q2, q3, q4, _⟩ := ho1
      have hlt1 : o < st1.obs.length := obGet_live (by rw [hob1]; simp)
      have hr2 := turn_loop hr1 hob1' q1 (r' := { r1 with state := .busy }) 1 rfl rfl rfl rfl rfl q4 (ks' := ks1) (vs' := vs1) (.inl ⟨rfl, rfl⟩)
      have hss1 : ({ st1.ss with ob := upd st1.ss.ob o (.loop k1 1 ks1 vs1) } : SS) = (⟨st1.env, obs1⟩ : St).ss := by
        rw [← hbu]
        simp only [St.ss, SS.mk.injEq, true_and, List.length_set, and_true]
        rw [obGet_set _ hlt1]
      rw [hss1] at hr2
      have hbeg := run_beginRound (P := P) q1 q3
      rw [hμ1] at hbeg hr2
      refine ⟨_, hbeg, ?_⟩
      refine hex r.body r.tmps.size l4 Z obs.length n7 (fun o ho => obL_lt ho) (some (μ o)) 0 (fun _ => n5) _ _ _ ⟨Z1, hz1, I1, μ1, ν1, hr2⟩ fun e st2 b2 w2 hS2 hr3 => ?_
      obtain ⟨rfl, hfin⟩ := hS2
      obtain ⟨Z3, hz3, I3, μ3, ν3, hr3⟩ := hr3
      have hμ3 : μ3 o = μ o := by
        have := (hr3.go.live o (by rw [hz3.ob]; exact hlive)).2
        rw [hz3.mu] at this
        exact this
      unfold rndEnd at hfin
      split at hfin <;> first | (cases hfin; done) | skip
      rename_i obs3 hid
      unfold idleL at hid
      split at hid <;> first | (cases hid; done) | skip
      rename_i k3 ks3 vs3 hob3
      injection hid with hid
      have ho3 := hr3.os o
      have hob3' : st2.ss.ob o = .loop k3 1 ks3 vs3 := hob3
      rw [hob3'] at ho3
      obtain ⟨r3, p1, p2, p3, p4, _⟩ := ho3
      have hlt3 : o < st2.obs.length := obGet_live (by rw [hob3]; simp)
      have hr4 := turn_loop hr3 hob3' p1 (r' := { r3 with state := if (none : Option Code).isNone then .ready else .done, pending := none }) 0 rfl rfl rfl rfl rfl rfl (ks' := ks3) (vs' := vs3) (.inl ⟨rfl, rfl⟩)
      have hss3 : ({ st2.ss with ob := upd st2.ss.ob o (.loop k3 0 ks3 vs3) } : SS) = (⟨st2.env, obs3⟩ : St).ss := by
        rw [← hid]
        simp only [St.ss, SS.mk.injEq, true_and, List.length_set, and_true]
        rw [obGet_set _ hlt3]
      rw [hss3] at hr4
      have hend := run_endRound (P := P) none p1
      rw [hμ3] at hend hr4
      have hr5 := hr4.back hz3
      obtain ⟨μ', ν', g2, g3, g4, g5⟩ := end_core hr5 (x := .d (.bool true)) (v := .bool true) (.d _ _ (.bool true)) trivial hfin
      exact ⟨_, _, hend, _, I3, μ', ν', rfl, g2, g3, g4, hr5.i0, fun b o hb => hr5.i1 b o hb, hr5.bel, g5⟩
    have hgoal : (r.params.zip us.toArray).foldl (fun tmps (q : Tmp × Value) => match q with | (t, a) => tmps.setIfInBounds t a) r.tmps = (l.ps.zip us).foldl (fun t q => t.setIfInBounds q.1 q.2) r.tmps := hfold
    rw [hgoal]
    exact hmain
theorem nextW_ok (hC : PgOk P C) {t : Task} {Q : Out → Prop} (h : nextW C (fun t Q => W C t Q ∧ TaskOk P C t Q) t Q) : TaskOk P C t Q := by
  have hc : COk P ⟨C.T, C.Q⟩ := ⟨hC.T, hC.Q⟩
  cases t with
  | exec c st =>
    cases c with
    | skip =>
      intro code nt hs Z n0 _ _ ro dn hro Post a w hr hQ
      cases code with
      | skip => exact wpIn_skip (hQ .norm st a w h hr)
      | region id os draw => rcases slim_not_region hs with h | ⟨_, _, h⟩ <;> cases h
      | rangeFunc g ps x y => simp only [slim] at hs; split at hs <;> simp [SC.erase] at hs
      | _ => simp [slim, SC.erase] at hs
    | reg ops B =>
      refine ExecOk.mono (region_ok hc hC.mo (S := fun st' => Q (.ex .norm st')) ?_) (fun e st' => by rintro ⟨rfl, h⟩; exact h)
      exact OpsOk.mono (show OpsOk _ _ _ _ _ _ _ _ _ from h.2) fun st' hs => hs
    | seq x y =>
      have e1 : ExecOk P x st _ := h.2
      intro code nt hs Z n0 ht hZ ro dn hro Post a w hr hQ
      simp only [tidyB, Bool.and_eq_true] at ht
      cases code with
      | seq cx cy =>
        simp only [slim, SC.erase, SC.seq.injEq] at hs
        refine wpIn_seq (e1 cx nt hs.1 Z n0 ht.1 hZ ro dn (fun h => by have := hro h; simp only [noRng, Bool.and_eq_true] at this; exact this.1) _ a w hr fun e st' a' w' hS hr' => ?_)
        cases e with
        | norm => exact (show ExecOk P y st' _ from hS.2) cy nt hs.2 Z n0 ht.2 hZ ro dn (fun h => by have := hro h; simp only [noRng, Bool.and_eq_true] at this; exact this.2) Post a' w' hr' hQ
        | exit id => exact hQ _ _ a' w' hS hr'
        | ret => exact hQ _ _ a' w' hS hr'
      | region id os draw => rcases slim_not_region hs with h | ⟨_, _, h⟩ <;> cases h
      | rangeFunc g ps x y => simp only [slim] at hs; split at hs <;> simp [SC.erase] at hs
      | _ => simp [slim, SC.erase] at hs
    | cond k x y =>
      simp only [nextW] at h
      have main : ∀ b, evalAV (envGet st.env) k = .d (.bool b) → ExecOk P (bif b then x else y) st (fun e st' => Q (.ex e st')) → ExecOk P (.cond k x y) st (fun e st' => Q (.ex e st')) := by
        intro b hk hout code nt hs Z n0 ht hZ ro dn hro Post a w hr hQ
        simp only [tidyB, Bool.and_eq_true] at ht
        cases code with
        | cond c' cx cy =>
          simp only [slim, SC.erase, SC.cond.injEq] at hs
          obtain ⟨rfl, hs1, hs2⟩ := hs
          obtain ⟨Z', hz, I, μ, ν, hrr⟩ := hr
          have hev := hrr.ev c'
          have hk' : evalAV st.ss.t c' = .d (.bool b) := hk
          rw [hk'] at hev
          have hb : a.eval c' = .bool b := by
            generalize a.eval c' = q at hev
            cases hev with
            | d _ _ hd => cases hd; rfl
          cases b with
          | true => exact wpIn_cond_true hb (hout cx nt hs1 Z n0 ht.1 hZ ro dn (fun h => by have := hro h; simp only [noRng, Bool.and_eq_true] at this; exact this.1) Post a w ⟨Z', hz, I, μ, ν, hrr⟩ hQ)
          | false => exact wpIn_cond_false hb (hout cy nt hs2 Z n0 ht.2 hZ ro dn (fun h => by have := hro h; simp only [noRng, Bool.and_eq_true] at this; exact this.2) Post a w ⟨Z', hz, I, μ, ν, hrr⟩ hQ)
        | region id os draw => rcases slim_not_region hs with h | ⟨_, _, h⟩ <;> cases h
        | rangeFunc g ps x y => simp only [slim] at hs; split at hs <;> simp [SC.erase] at hs
        | _ => simp [slim, SC.erase] at hs
      split at h
      · rename_i t hk
        exact main t hk h.2
      · exact h.elim
    | block id b =>
      have e1 : ExecOk P b st _ := h.2
      intro code nt hs Z n0 ht hZ ro dn hro Post a w hr hQ
      cases code with
      | block id' cb =>
        simp only [slim, SC.erase, SC.block.injEq] at hs
        obtain ⟨rfl, hs⟩ := hs
        refine wpIn_block (e1 cb nt hs Z n0 ht hZ ro dn hro _ a w hr fun e st' a' w' hS hr' => ?_)
        have := hQ _ _ a' w' hS hr'
        cases e with
        | norm => exact this
        | ret => exact this
        | exit j =>
          simp only [Ex.block, exOf, Exit.inBlock] at this ⊢
          by_cases hj : j = id'
          · rw [if_pos hj] at this ⊢; exact this
          · rw [if_neg hj] at this ⊢; exact this
      | region id os draw => rcases slim_not_region hs with h | ⟨_, _, h⟩ <;> cases h
      | rangeFunc g ps x y => simp only [slim] at hs; split at hs <;> simp [SC.erase] at hs
      | _ => simp [slim, SC.erase] at hs
    | loop b =>
      have e2 : LoopOk P b st _ := h.2
      intro code nt hs Z n0 ht hZ ro dn hro Post a w hr hQ
      cases code with
      | loop cb =>
        simp only [slim, SC.erase, SC.loop.injEq] at hs
        exact (e2 cb nt hs Z n0 ht hZ ro dn hro Post a w hr hQ).loop
      | region id os draw => rcases slim_not_region hs with h | ⟨_, _, h⟩ <;> cases h
      | rangeFunc g ps x y => simp only [slim] at hs; split at hs <;> simp [SC.erase] at hs
      | _ => simp [slim, SC.erase] at hs
    | exit id =>
      intro code nt hs Z n0 _ _ ro dn hro Post a w hr hQ
      cases code with
      | exit id' =>
        simp only [slim, SC.erase, SC.exit.injEq] at hs
        subst hs
        exact wpIn_exit (hQ (.exit id') st a w h hr)
      | region id os draw => rcases slim_not_region hs with h | ⟨_, _, h⟩ <;> cases h
      | rangeFunc g ps x y => simp only [slim] at hs; split at hs <;> simp [SC.erase] at hs
      | _ => simp [slim, SC.erase] at hs
    | ret =>
      intro code nt hs Z n0 _ _ ro dn hro Post a w hr hQ
      cases code with
      | ret => exact wpIn_ret (hQ .ret st a w h hr)
      | region id os draw => rcases slim_not_region hs with h | ⟨_, _, h⟩ <;> cases h
      | rangeFunc g ps x y => simp only [slim] at hs; split at hs <;> simp [SC.erase] at hs
      | _ => simp [slim, SC.erase] at hs
    | bad => exact h.elim
    | rngE g nt ps sa sb => exact h.elim
    | rng g k ks an =>
      simp only [nextW] at h
      split at h
      · rename_i f xs hf
        obtain ⟨x, obs', h1, h2⟩ := h
        obtain ⟨p, hcm, h2⟩ := someO_elim h2
        obtain ⟨obs2, he, h2⟩ := someO_elim h2
        exact rng_ok hc hf (h1.2 x obs' (fun o ho => ho)) hcm he h2
      · exact h.elim
    | pre g c =>
      obtain ⟨st', hg, h⟩ := someO_elim h
      exact ExecOk.pre hC hg h.2
    | post c g =>
      refine ExecOk.post (S := fun e st' => someO (fun st2 => Q (.ex e st2)) (ghostE C.T g e st')) hC ?_ fun e st' hS => ?_
      · exact h.2
      · exact someO_elim hS
  | loop b st =>
    have e1 : ExecOk P b st _ := h.2
    intro code nt hs Z n0 ht hZ ro dn hro Post a w hr hQ
    refine LoopWp.round (e1 code nt hs Z n0 ht hZ ro dn hro _ a w hr fun e st' a' w' hS hr' => ?_)
    cases e with
    | norm => exact (show LoopOk P b (normSt st') _ from hS.2) code nt hs Z n0 ht hZ ro dn hro Post a' w' (by obtain ⟨Z', hz, hr'⟩ := hr'; exact ⟨Z', hz, norm_ok hr'⟩) hQ
    | exit id => exact hQ _ _ a' w' hS hr'
    | ret => exact hQ _ _ a' w' hS hr'
  | ops B i nid acc l st =>
    cases l with
    | nil => exact OpsOk.nil _ _ _ _ h
    | cons o r =>
      simp only [nextW] at h
      split at h
      · rename_i v e hs
        obtain ⟨hk, h⟩ := h
        rw [Bool.and_eq_true] at hk
        exact OpsOk.cons (.inl ⟨hs, hk.1⟩) hk.2 h.2
      · rename_i al hs
        obtain ⟨rfl, h⟩ := h
        exact OpsOk.alts hs fun v e hm => (h v e hm).2
      · rename_i g xs hs
        obtain ⟨x, obs', h1, h2⟩ := h
        obtain ⟨p, hcm, hk, h2⟩ := someO_elim h2
        exact OpsOk.cons (.inr ⟨g, xs, x, obs', hs, h1.2 x obs' (fun o ho => ho), hcm⟩) hk h2.2
      · exact h.elim
  | run f xs obs =>
    intro y obs' hq
    simp only [nextW] at h
    by_cases hf7 : f = 1000000007
    · rw [if_pos hf7] at h
      obtain ⟨q, hrs, h⟩ := someO_elim h
      subst hf7
      have hS2 : ∀ e st, onlyN (fun st2 => someO (fun p => Q (.av p.1 p.2)) (rndEnd obs.length q.1 st2.obs)) e st → e = .norm ∧ rndEnd obs.length q.1 st.obs = some (y, obs') := fun e st he => by
        cases e with
        | norm =>
          refine ⟨rfl, ?_⟩
          obtain ⟨p, hp, hqp⟩ := someO_elim (show someO _ _ from he)
          have := hq _ hqp
          injection this with e1 e2
          rw [hp, ← e1, ← e2]
        | exit id => exact he.elim
        | ret => exact he.elim
      have hlong : obs.length ≤ obs'.length := by
        obtain ⟨o, h1, _⟩ := W_meet h.1 h.1
        cases o with
        | ex e st1 =>
          cases e with
          | norm =>
            obtain ⟨obs1, hb, h3⟩ := someO_elim (show someO _ _ from h1)
            obtain ⟨o, h1, _⟩ := W_meet h3.1 h3.1
            cases o with
            | ex e st2 => exact rndEnd_len (hS2 e st2 h1).2
            | _ => exact h1.elim
          | exit id => exact h1.elim
          | ret => exact h1.elim
        | _ => exact h1.elim
      exact rnd_ok hC hrs (S1 := onlyN fun st1 => someO (fun obs1 => ExecOk P q.2.1.sb ⟨st1.env, obs1⟩ (onlyN fun st2 => someO (fun p => Q (.av p.1 p.2)) (rndEnd obs.length q.1 st2.obs))) (busyL q.1 st1.obs)) (ExecOk.mono h.2 fun e st1 hs => by
        cases e with
        | norm =>
          obtain ⟨obs1, hb, h3⟩ := someO_elim (show someO _ _ from hs)
          show someO _ _
          rw [hb]
          exact h3.2
        | exit id => exact hs.elim
        | ret => exact hs.elim) (fun e st1 hs => by
        cases e with
        | norm =>
          obtain ⟨obs1, hb, h3⟩ := someO_elim (show someO _ _ from hs)
          exact ⟨rfl, obs1, hb, ExecOk.mono h3 hS2⟩
        | exit id => exact hs.elim
        | ret => exact hs.elim) hlong
    rw [if_neg hf7] at h
    cases hX : C.X f xs obs with
    | some p =>
      simp only [hX] at h
      have := hq _ h
      injection this with e1 e2
      subst e1 e2
      exact hC.X _ _ _ _ _ hX
    | none =>
      simp only [hX] at h
      obtain ⟨s, hs, hl, hw, hx⟩ := someO_elim h
      have hS : ∀ e st, endO C.T s.res obs.length Q e st → (∀ id, e ≠ .exit id) ∧ endF C.T s.res obs.length st = some (y, obs') := fun e st he => by
        have key : someO (fun p => Q (.av p.1 p.2)) (endF C.T s.res obs.length st) → endF C.T s.res obs.length st = some (y, obs') := fun hh => by
          obtain ⟨p, hp, hqp⟩ := someO_elim hh
          have := hq _ hqp
          injection this with e1 e2
          rw [hp, ← e1, ← e2]
        cases e with
        | exit id => exact he.elim
        | norm => exact ⟨fun id hh => (by cases hh), key he⟩
        | ret => exact ⟨fun id hh => (by cases hh), key he⟩
      have hlong : obs.length ≤ obs'.length := by
        obtain ⟨o, h1, _⟩ := W_meet hw hw
        cases o with
        | ex e st => exact endF_len (hS e st h1).2
        | _ => exact h1.elim
      exact body_ok hc hf7 (hC.A _ _ _ _ hs) hl.1 hl.2 (show ExecOk P s.body _ _ from hx) hlong hS
theorem task_sound (hC : PgOk P C) {t : Task} {Q : Out → Prop} (h : W C t Q) : TaskOk P C t Q :=
  (W_ind (fun t Q => W C t Q ∧ TaskOk P C t Q) (fun t Q Q' hQ h => ⟨W_mono t Q Q' hQ h.1, TaskOk.mono t Q Q' hQ h.2⟩)
    (fun t Q hn => ⟨W_mk (nextW_mono (fun t Q Q' hQ h => W_mono t Q Q' hQ h.1) (fun _ h => h) hn), nextW_ok hC hn⟩) h).2
end
end Go.Proofs.YtpooehcjchkbkaaV
/- The interpreter, read backwards: what must hold ahead of a step so that K holds behind it. -/
set_option linter.unusedVariables false
set_option linter.unusedSimpArgs false
namespace Go.Proofs.YtpooehcjchkbkaaV
open Go.RowKit
theorem eqS_iff (a b : ByteArray) : eqS a b = true ↔ a = b := Go.Lib.bytes_beq_iff a b
theorem eqS_self (a : ByteArray) : eqS a a = true := (eqS_iff a a).2 rfl
theorem eqS_def (a b : ByteArray) : (a.toList == b.toList) = eqS a b := rfl
theorem int_beq (a b : Int) : (a == b) = decide (a = b) := by by_cases h : a = b <;> simp [h]
theorem int_bne (a b : Int) : (a != b) = !decide (a = b) := by by_cases h : a = b <;> simp [h]
theorem wrap64 {n : Int} (h : -9223372036854775808 ≤ n) (h' : n < 9223372036854775808) : IntKind.i64.wrap n = n := by
  simp [IntKind.wrap, IntKind.bits, IntKind.signed]
  omega
theorem elsOf_dsl (els : List D) : elsOf (.d (.sl els)) = some els := rfl
theorem elsOf_dnils : elsOf (.d .nils) = some [] := rfl
theorem cond_d (b : Bool) (x y : D) : (bif b then AV.d x else AV.d y) = AV.d (bif b then x else y) := by cases b <;> rfl
theorem cond_bool (b x y : Bool) : (bif b then D.bool x else D.bool y) = D.bool (bif b then x else y) := by cases b <;> rfl
theorem cond_int (b : Bool) (k : IntKind) (x y : Int) : (bif b then D.int k x else D.int k y) = D.int k (bif b then x else y) := by cases b <;> rfl
theorem cond_str (b : Bool) (x y : ByteArray) : (bif b then D.str x else D.str y) = D.str (bif b then x else y) := by cases b <;> rfl
theorem ifI {p : Prop} [Decidable p] {A B : Prop} (h1 : p → A) (h2 : ¬ p → B) : if p then A else B := by
  by_cases h : p
  · rw [if_pos h]; exact h1 h
  · rw [if_neg h]; exact h2 h
theorem toNat_succ (n : Nat) : ((n : Int) + 1).toNat = n + 1 := by omega
theorem nn_succ (n : Nat) : (0 : Int) ≤ (n : Int) + 1 ↔ True := iff_true_intro (by omega)
theorem pos_succ (n : Nat) : (0 : Int) < (n : Int) + 1 ↔ True := iff_true_intro (by omega)
theorem one_succ (n : Nat) : (1 : Int) ≤ (n : Int) + 1 ↔ True := iff_true_intro (by omega)
theorem rng1 : List.range 1 = [0] := rfl
theorem rng2 : List.range 2 = [0, 1] := rfl
theorem rng3 : List.range 3 = [0, 1, 2] := rfl
theorem rng4 : List.range 4 = [0, 1, 2, 3] := rfl
theorem rng5 : List.range 5 = [0, 1, 2, 3, 4] := rfl
theorem rng6 : List.range 6 = [0, 1, 2, 3, 4, 5] := rfl
theorem rng7 : List.range 7 = [0, 1, 2, 3, 4, 5, 6] := rfl
theorem rng8 : List.range 8 = [0, 1, 2, 3, 4, 5, 6, 7] := rfl
theorem tbE (x i : Nat) : x.testBit i = decide (x / 2 ^ i % 2 = 1) := Nat.testBit_eq_decide_div_mod_eq
theorem ann0_lays : ann0.lays = 0 := rfl
theorem ann0_dd : ann0.dd = false := rfl
theorem ann0_ro : ann0.ro = false := rfl
theorem fuelL_eq : fuelL = [(), (), (), (), (), (), (), (), (), (), (), (), (), (), (), (), (), (), (), (), (), (), (), ()] := rfl
def wpc (C : Pg) (c : SC) (st : St) (K : Ex → St → Prop) : Prop := W C (.exec c st) (outE K)
def wpl (C : Pg) (b : SC) (st : St) (K : Ex → St → Prop) : Prop := W C (.loop b st) (outE K)
def wpo (C : Pg) (B : Option (List Nat)) (i nid : Nat) (acc : Acc) (l : List SOp) (st : St) (K : St → Prop) : Prop := W C (.ops B i nid acc l st) (outS K)
def wpr (C : Pg) (f : FuncId) (xs : List AV) (obs : List AObj) (K : AV → List AObj → Prop) : Prop := W C (.run f xs obs) (outA K)
def endE (T : Tbl) (res : List ResultVar) (n0 : Nat) (y : AV) (obs' : List AObj) : Ex → St → Prop
  | .exit _, _ => False
  | .norm, st => endF T res n0 st = some (y, obs')
  | .ret, st => endF T res n0 st = some (y, obs')
def endQ (T : Tbl) (res : List ResultVar) (n0 : Nat) (Q : AV → List AObj → Prop) : Ex → St → Prop
  | .exit _, _ => False
  | .norm, st => match endF T res n0 st with | some (y, obs') => Q y obs' | none => False
  | .ret, st => match endF T res n0 st with | some (y, obs') => Q y obs' | none => False
inductive Fr where
  | seq (b : SC)
  | block (id : Nat)
  | post (g : Gh)
  | loop (b : SC)
def wpn (C : Pg) : Ex → St → List Fr → (Ex → St → Prop) → Prop
  | e, st, [], K => K e st
  | .norm, st, .seq b :: ks, K => wpc C b st fun e st' => wpn C e st' ks K
  | .norm, st, .loop b :: ks, K => wpl C b (normSt st) fun e st' => wpn C e st' ks K
  | .exit id, st, .seq _ :: ks, K => wpn C (.exit id) st ks K
  | .exit id, st, .loop _ :: ks, K => wpn C (.exit id) st ks K
  | .ret, st, .seq _ :: ks, K => wpn C .ret st ks K
  | .ret, st, .loop _ :: ks, K => wpn C .ret st ks K
  | e, st, .block id :: ks, K => wpn C (e.block id) st ks K
  | e, st, .post g :: ks, K => match ghostE C.T g e st with
    | some st2 => wpn C e st2 ks K
    | none => False
def wpk (C : Pg) (c : SC) (st : St) (ks : List Fr) (K : Ex → St → Prop) : Prop := wpc C c st fun e st' => wpn C e st' ks K
def wlp (C : Pg) (b : SC) (st : St) (ks : List Fr) (K : Ex → St → Prop) : Prop := wpl C b st fun e st' => wpn C e st' ks K
def wop (C : Pg) (B : Option (List Nat)) (i nid : Nat) (acc : Acc) (l : List SOp) (st : St) (ks : List Fr) (K : Ex → St → Prop) : Prop := wpo C B i nid acc l st fun st' => wpn C .norm st' ks K
open Classical in
noncomputable def run (C : Pg) (f : FuncId) (xs : List AV) (obs : List AObj) : Option (AV × List AObj) :=
  if h : ∃ p : AV × List AObj, W C (.run f xs obs) (fun o => o = .av p.1 p.2) then some h.choose else none
section
variable {C : Pg} {K : Ex → St → Prop} {ks : List Fr} {st : St}
theorem wpc_mono {c : SC} {K K' : Ex → St → Prop} (h : wpc C c st K) (hk : ∀ e st, K e st → K' e st) : wpc C c st K' := W_mono _ _ _ (outE_mono hk) h
theorem wpl_mono {b : SC} {K K' : Ex → St → Prop} (h : wpl C b st K) (hk : ∀ e st, K e st → K' e st) : wpl C b st K' := W_mono _ _ _ (outE_mono hk) h
theorem wpo_mono {B : Option (List Nat)} {i nid : Nat} {acc : Acc} {l : List SOp} {K K' : St → Prop} (h : wpo C B i nid acc l st K) (hk : ∀ st, K st → K' st) : wpo C B i nid acc l st K' := W_mono _ _ _ (outS_mono hk) h
theorem wpr_mono {f : FuncId} {xs : List AV} {obs : List AObj} {K K' : AV → List AObj → Prop} (h : wpr C f xs obs K) (hk : ∀ y obs', K y obs' → K' y obs') : wpr C f xs obs K' := W_mono _ _ _ (outA_mono hk) h
theorem wpr_eq {f : FuncId} {xs : List AV} {obs : List AObj} {y : AV} {obs' : List AObj} : wpr C f xs obs (fun y' o' => y' = y ∧ o' = obs') ↔ W C (.run f xs obs) (fun o => o = .av y obs') := by
  constructor
  · exact W_mono _ _ _ fun o ho => by
      cases o with
      | av y' o' => obtain ⟨rfl, rfl⟩ := ho; rfl
      | _ => exact ho.elim
  · exact W_mono _ _ _ fun o ho => by subst ho; exact ⟨rfl, rfl⟩
theorem run_iff {f : FuncId} {xs : List AV} {obs : List AObj} {y : AV} {obs' : List AObj} : run C f xs obs = some (y, obs') ↔ W C (.run f xs obs) (fun o => o = .av y obs') := by
  unfold run
  constructor
  · intro h
    split at h
    · rename_i hx
      injection h with h
      have := hx.choose_spec
      rw [h] at this
      exact this
    · cases h
  · intro h
    have hx : ∃ p : AV × List AObj, W C (.run f xs obs) (fun o => o = .av p.1 p.2) := ⟨(y, obs'), h⟩
    rw [dif_pos hx]
    obtain ⟨o, h1, h2⟩ := W_meet hx.choose_spec h
    rw [h1] at h2
    injection h2 with e1 e2
    rw [← e1, ← e2]
theorem run_of_wpr {f : FuncId} {xs : List AV} {obs : List AObj} {y : AV} {obs' : List AObj} (h : wpr C f xs obs fun y' o' => y' = y ∧ o' = obs') : run C f xs obs = some (y, obs') := run_iff.2 (wpr_eq.1 h)
theorem run_of_go (n : Nat) {f : FuncId} {xs : List AV} {obs : List AObj} {y : AV} {obs' : List AObj} (h : go C n (.run f xs obs) = some [.av y obs']) : run C f xs obs = some (y, obs') :=
  run_iff.2 (W_mono _ _ _ (fun o ho => by simpa using ho) (go_W h))
theorem run_good {P : Program} (hC : PgOk P C) {f : FuncId} {xs : List AV} {obs : List AObj} {y : AV} {obs' : List AObj} (h : run C f xs obs = some (y, obs')) : Good P f xs obs y obs' := task_sound hC (run_iff.1 h) y obs' fun _ ho => ho
theorem runs_wpr {f : FuncId} {xs : List AV} {obs : List AObj} {y : AV} {obs' : List AObj} (h : run C f xs obs = some (y, obs')) (K : AV → List AObj → Prop) : wpr C f xs obs K ↔ K y obs' := by
  constructor
  · intro hw
    obtain ⟨o, h1, h2⟩ := W_meet hw (run_iff.1 h)
    subst h2
    exact h1
  · exact fun hk => W_mono _ _ _ (fun o ho => by subst ho; exact hk) (run_iff.1 h)
theorem outE_congr {K K' : Ex → St → Prop} (h : ∀ e st, K e st ↔ K' e st) {t : Task} : W C t (outE K) ↔ W C t (outE K') :=
  ⟨W_mono _ _ _ (outE_mono fun e st => (h e st).1), W_mono _ _ _ (outE_mono fun e st => (h e st).2)⟩
theorem outS_congr {K K' : St → Prop} (h : ∀ st, K st ↔ K' st) {t : Task} : W C t (outS K) ↔ W C t (outS K') :=
  ⟨W_mono _ _ _ (outS_mono fun st => (h st).1), W_mono _ _ _ (outS_mono fun st => (h st).2)⟩
def envSet (i : Nat) (v : AV) : List (Nat × AV) → List (Nat × AV)
  | [] => []
  | (j, x) :: r => if i = j then (j, v) :: r else (j, x) :: envSet i v r
theorem envSet_same {g : Nat} {v : AV} : ∀ {env : List (Nat × AV)}, envGet env g = v → envSet g v env = env
  | [], h => rfl
  | (j, x) :: r, h => by
    unfold envGet at h
    unfold envSet
    split at h
    · rename_i e; subst e; subst h; rw [if_pos rfl]
    · rename_i e; rw [if_neg e, envSet_same h]
def St.know (st : St) (g : Nat) (b : Bool) : St := ⟨envSet g (.d (.bool b)) st.env, st.obs⟩
theorem know_eq {st : St} {g : Nat} {b : Bool} (h : envGet st.env g = .d (.bool b)) : st.know g b = st := by
  unfold St.know; rw [envSet_same h]
theorem wpn_nil {e : Ex} : wpn C e st [] K ↔ K e st := by cases e <;> exact Iff.rfl
theorem wpn_seq {b : SC} : wpn C .norm st (.seq b :: ks) K ↔ wpk C b st ks K := Iff.rfl
theorem wpn_loop {b : SC} : wpn C .norm st (.loop b :: ks) K ↔ wlp C b (normSt st) ks K := Iff.rfl
theorem wpn_seq_exit {b : SC} {id : Nat} : wpn C (.exit id) st (.seq b :: ks) K ↔ wpn C (.exit id) st ks K := Iff.rfl
theorem wpn_loop_exit {b : SC} {id : Nat} : wpn C (.exit id) st (.loop b :: ks) K ↔ wpn C (.exit id) st ks K := Iff.rfl
theorem wpn_seq_ret {b : SC} : wpn C .ret st (.seq b :: ks) K ↔ wpn C .ret st ks K := Iff.rfl
theorem wpn_loop_ret {b : SC} : wpn C .ret st (.loop b :: ks) K ↔ wpn C .ret st ks K := Iff.rfl
theorem wpn_block {e : Ex} {id : Nat} : wpn C e st (.block id :: ks) K ↔ wpn C (e.block id) st ks K := by cases e <;> exact Iff.rfl
theorem wpn_post {e : Ex} {g : Gh} : wpn C e st (.post g :: ks) K ↔ match ghostE C.T g e st with
    | some st2 => wpn C e st2 ks K
    | none => False := by cases e <;> exact Iff.rfl
theorem wpk_skip : wpk C .skip st ks K ↔ wpn C .norm st ks K := W_iff
theorem wpk_exit {id : Nat} : wpk C (.exit id) st ks K ↔ wpn C (.exit id) st ks K := W_iff
theorem wpk_ret : wpk C .ret st ks K ↔ wpn C .ret st ks K := W_iff
theorem wpk_reg {ops : List SOp} {B : Option (List Nat)} : wpk C (.reg ops B) st ks K ↔ wop C B 0 st.obs.length [] ops (roomFor ops st) ks K := W_iff
theorem wpk_seq {a b : SC} : wpk C (.seq a b) st ks K ↔ wpk C a st (.seq b :: ks) K :=
  W_iff.trans (outE_congr fun e st' => by cases e <;> exact Iff.rfl)
theorem wpk_cond {c : Operand} {a b : SC} : wpk C (.cond c a b) st ks K ↔ match evalAV (envGet st.env) c with
    | .d (.bool t) => if t = true then wpk C a st ks K else wpk C b st ks K
    | _ => False := by
  refine W_iff.trans ?_
  simp only [nextW]
  generalize evalAV (envGet st.env) c = x
  cases x with
  | d y =>
    cases y with
    | bool t => cases t <;> simp [wpk, wpc]
    | _ => exact Iff.rfl
  | _ => exact Iff.rfl
theorem wpk_condT {i : Nat} {a b : SC} : wpk C (.cond (.tmp i) a b) st ks K ↔ match envGet st.env i with
    | .d (.bool t) => if t = true then wpk C a (st.know i true) ks K else wpk C b (st.know i false) ks K
    | _ => False := by
  refine wpk_cond.trans ?_
  show (match envGet st.env i with
    | .d (.bool t) => if t = true then wpk C a st ks K else wpk C b st ks K
    | _ => False) ↔ _
  generalize hx : envGet st.env i = x
  cases x with
  | d y =>
    cases y with
    | bool t => cases t <;> simp [know_eq hx]
    | _ => exact Iff.rfl
  | _ => exact Iff.rfl
theorem wpk_block {id : Nat} {b : SC} : wpk C (.block id b) st ks K ↔ wpk C b st (.block id :: ks) K :=
  W_iff.trans (outE_congr fun e st' => by cases e <;> exact Iff.rfl)
theorem wpk_loop {b : SC} : wpk C (.loop b) st ks K ↔ wlp C b st ks K := W_iff
theorem wpk_pre {g : Gh} {c : SC} : wpk C (.pre g c) st ks K ↔ match ghost C.T g st with
    | some st2 => wpk C c st2 ks K
    | none => False := by
  refine W_iff.trans ?_
  simp only [nextW]
  cases ghost C.T g st <;> exact Iff.rfl
theorem wpk_post {g : Gh} {c : SC} : wpk C (.post c g) st ks K ↔ wpk C c st (.post g :: ks) K :=
  W_iff.trans (outE_congr fun e st' => by
    rw [wpn_post]
    cases ghostE C.T g e st' <;> exact Iff.rfl)
theorem wlp_eq {b : SC} : wlp C b st ks K ↔ wpk C b st (.loop b :: ks) K :=
  W_iff.trans (outE_congr fun e st' => by cases e <;> exact Iff.rfl)
theorem wlp_inv {b : SC} {σ : Type} (S : σ → St) (m : σ → Nat) (Inv : σ → Prop) (h : ∀ s, Inv s → (∀ s', Inv s' → m s' < m s → wlp C b (S s') ks K) → wpk C b (S s) (.loop b :: ks) K) : ∀ s, Inv s → wlp C b (S s) ks K := by
  intro s hs
  induction hn : m s using Nat.strongRecOn generalizing s with
  | _ n ih =>
    subst hn
    exact wlp_eq.2 (h s hs fun s' hs' hlt => ih (m s') hlt s' hs' rfl)
theorem wop_nil {B : Option (List Nat)} {i nid : Nat} {acc : Acc} : wop C B i nid acc [] st ks K ↔ wpn C .norm st ks K := W_iff
theorem run_some {f : FuncId} {xs : List AV} {obs : List AObj} {Q : AV → List AObj → Prop} : (∃ x obs', W C (.run f xs obs) (fun y => y = .av x obs') ∧ Q x obs') ↔ match run C f xs obs with | some (x, obs') => Q x obs' | none => False := by
  constructor
  · rintro ⟨x, obs', h1, h2⟩
    rw [run_iff.2 h1]
    exact h2
  · intro h
    cases hr : run C f xs obs with
    | none => rw [hr] at h; exact h.elim
    | some p => rw [hr] at h; exact ⟨p.1, p.2, run_iff.1 hr, h⟩
theorem wpk_rng {g : Operand} {k : Nat} {is : List Nat} {an : Ann} : wpk C (.rng g k is an) st ks K ↔ match rngC (evalAV (envGet st.env) g) st.obs.length with
    | .call f xs => (match run C f (packX (reachOf (obGet (layL k is an st)) xs) (obGet (layL k is an st)) xs) (packL (reachOf (obGet (layL k is an st)) xs) (obGet (layL k is an st)) false) with
      | some (x, obs') => (match comeC an (obGet (layL k is an st)) (reachOf (obGet (layL k is an st)) xs) xs (st.obs.length + 1) x obs' with
        | some (_, e) => (match endLp st.obs.length (setEff e (layL k is an st)) with
          | some obs2 => wpn C .norm ⟨st.env, obs2⟩ ks K
          | none => False)
        | none => False)
      | none => False)
    | _ => False := by
  refine W_iff.trans ?_
  simp only [nextW]
  cases rngC (evalAV (envGet st.env) g) st.obs.length with
  | call f xs =>
    refine run_some.trans ?_
    simp only
    cases run C f (packX (reachOf (obGet (layL k is an st)) xs) (obGet (layL k is an st)) xs) (packL (reachOf (obGet (layL k is an st)) xs) (obGet (layL k is an st)) false) with
    | none => exact Iff.rfl
    | some p =>
      obtain ⟨x, obs'⟩ := p
      simp only
      cases comeC an (obGet (layL k is an st)) (reachOf (obGet (layL k is an st)) xs) xs (st.obs.length + 1) x obs' with
      | none => exact Iff.rfl
      | some q =>
        obtain ⟨v, e⟩ := q
        simp only [someO]
        cases endLp st.obs.length (setEff e (layL k is an st)) with
        | none => exact Iff.rfl
        | some obs2 => exact Iff.rfl
  | _ => exact Iff.rfl
theorem wop_cons {B : Option (List Nat)} {i nid : Nat} {acc : Acc} {dst : Option Nat} {op : Op} {an : Ann} {r : List SOp} : wop C B i nid acc (⟨dst, op, none, an⟩ :: r) st ks K ↔ match opF C.T C.Q an op (evalAV (envGet st.env)) (obGet st.obs) nid with
    | .val v e => if (keyChk e (nid + an.lays) && chkD B i ⟨dst, op, none, an⟩ st e acc) = true then wop C B (i + 1) (nid + an.lays) (accD B i ⟨dst, op, none, an⟩ st e acc) r (st.put dst v e) ks K else False
    | .alts l => B = none ∧ ∀ p ∈ l, wop C B (i + 1) (nid + an.lays) acc r (st.put dst p.1 p.2) ks K
    | .call g xs => (match run C g (packX (reachOf (obGet st.obs) xs) (obGet st.obs) xs) (packL (reachOf (obGet st.obs) xs) (obGet st.obs) false) with
      | some (x, obs') => (match comeC an (obGet st.obs) (reachOf (obGet st.obs) xs) xs nid x obs' with
        | some (v, e) => if chkD B i ⟨dst, op, none, an⟩ st e acc = true then wop C B (i + 1) (nid + an.lays) (accD B i ⟨dst, op, none, an⟩ st e acc) r (st.put dst v e) ks K else False
        | none => False)
      | none => False)
    | .bad => False := by
  refine W_iff.trans ?_
  simp only [nextW]
  have hst : stepS C.T C.Q ⟨dst, op, none, an⟩ st nid = opF C.T C.Q an op (evalAV (envGet st.env)) (obGet st.obs) nid := rfl
  rw [hst]
  cases opF C.T C.Q an op (evalAV (envGet st.env)) (obGet st.obs) nid with
  | bad => exact Iff.rfl
  | val v e =>
    simp only
    by_cases h1 : (keyChk e (nid + an.lays) && chkD B i ⟨dst, op, none, an⟩ st e acc) = true
    · rw [if_pos h1]; exact ⟨fun h => h.2, fun h => ⟨h1, h⟩⟩
    · rw [if_neg h1]; exact ⟨fun h => h1 h.1, fun h => h.elim⟩
  | alts l => exact ⟨fun h => ⟨h.1, fun p hm => h.2 p.1 p.2 hm⟩, fun h => ⟨h.1, fun v e hm => h.2 (v, e) hm⟩⟩
  | call g xs =>
    refine run_some.trans ?_
    simp only
    cases run C g (packX (reachOf (obGet st.obs) xs) (obGet st.obs) xs) (packL (reachOf (obGet st.obs) xs) (obGet st.obs) false) with
    | none => exact Iff.rfl
    | some p =>
      obtain ⟨x, obs'⟩ := p
      simp only
      cases comeC an (obGet st.obs) (reachOf (obGet st.obs) xs) xs nid x obs' with
      | none => simp [someO]
      | some q =>
        obtain ⟨v, e⟩ := q
        simp only [someO]
        by_cases h1 : chkD B i ⟨dst, op, none, an⟩ st e acc = true
        · rw [if_pos h1]; exact ⟨fun h => h.2, fun h => ⟨h1, h⟩⟩
        · rw [if_neg h1]; exact ⟨fun h => h1 h.1, fun h => h.elim⟩
theorem wop_guard {B : Option (List Nat)} {i nid : Nat} {acc : Acc} {dst : Option Nat} {op : Op} {g : Nat} {want : Bool} {an : Ann} {r : List SOp} : wop C B i nid acc (⟨dst, op, some (g, want), an⟩ :: r) st ks K ↔ match envGet st.env g with
    | .d (.bool b) => if b = want then wop C B i nid acc (⟨dst, op, none, an⟩ :: r) (st.know g want) ks K else
        (if chkD B i ⟨dst, op, none, an⟩ (st.know g !want) [] acc = true then wop C B (i + 1) (nid + an.lays) (accD B i ⟨dst, op, none, an⟩ (st.know g !want) [] acc) r ((st.know g !want).put dst (.tup []) []) ks K else False)
    | .tup [] => if chkD B i ⟨dst, op, none, an⟩ st [] acc = true then wop C B (i + 1) (nid + an.lays) (accD B i ⟨dst, op, none, an⟩ st [] acc) r (st.put dst (.tup []) []) ks K else False
    | _ => False := by
  refine W_iff.trans ?_
  simp only [nextW]
  have hstep : stepS C.T C.Q ⟨dst, op, some (g, want), an⟩ st nid = match envGet st.env g with
    | .d (.bool b) => if b = want then opF C.T C.Q an op (evalAV (envGet st.env)) (obGet st.obs) nid else .val (.tup []) []
    | .tup [] => .val (.tup []) []
    | _ => .bad := rfl
  rw [hstep]
  have hif : ∀ (p : Prop) [Decidable p] (X : Prop), (p ∧ X) ↔ (if p then X else False) := fun p _ X => by
    by_cases h : p <;> simp [h]
  generalize hx : envGet st.env g = x
  cases x with
  | d y =>
    cases y with
    | bool b =>
      simp only
      by_cases h : b = want
      · rw [if_pos h, if_pos h, know_eq (h ▸ hx)]
        refine Iff.trans ?_ (wop_cons (C := C) (B := B) (i := i) (nid := nid) (acc := acc) (dst := dst) (op := op) (an := an) (r := r) (st := st) (ks := ks) (K := K)).symm
        cases ho : opF C.T C.Q an op (evalAV (envGet st.env)) (obGet st.obs) nid with
        | bad => exact Iff.rfl
        | val v e =>
          simp only
          exact hif _ _
        | alts l => exact ⟨fun h => ⟨h.1, fun p hm => h.2 p.1 p.2 hm⟩, fun h => ⟨h.1, fun v e hm => h.2 (v, e) hm⟩⟩
        | call g xs =>
          refine run_some.trans ?_
          simp only
          cases run C g (packX (reachOf (obGet st.obs) xs) (obGet st.obs) xs) (packL (reachOf (obGet st.obs) xs) (obGet st.obs) false) with
          | none => exact Iff.rfl
          | some p =>
            obtain ⟨x, obs'⟩ := p
            simp only
            cases comeC an (obGet st.obs) (reachOf (obGet st.obs) xs) xs nid x obs' with
            | none => simp [someO]
            | some q =>
              obtain ⟨v, e⟩ := q
              simp only [someO]
              exact hif _ _
      · have hb : b = !want := by cases b <;> cases want <;> simp_all
        rw [if_neg h, if_neg h, know_eq (hb ▸ hx)]
        simp only
        have hk : keyChk [] (nid + an.lays) = true := rfl
        rw [hk, Bool.true_and]
        exact hif _ _
    | _ => exact Iff.rfl
  | tup l =>
    cases l with
    | nil =>
      simp only
      have hk : keyChk [] (nid + an.lays) = true := rfl
      rw [hk, Bool.true_and]
      exact hif _ _
    | cons _ _ => exact Iff.rfl
  | _ => exact Iff.rfl
theorem wpr_code {f : FuncId} {xs : List AV} {obs : List AObj} {K : AV → List AObj → Prop} {s : SFn} (hX : C.X f xs obs = none) (hA : C.A f xs obs = some s) (hl : xs.length = s.np) (ht : tidyB obs.length s.body = true) (h : wpk C s.body ⟨startEnv 0 xs, obs⟩ [] (endQ C.T s.res obs.length K)) (hf7 : f ≠ 1000000007 := by decide) : wpr C f xs obs K := by
  refine W_mk ?_
  simp only [nextW]
  rw [if_neg hf7]
  simp only [hX, hA]
  refine ⟨⟨hl, ht⟩, W_mono _ _ _ (outE_mono fun e st hk => ?_) h⟩
  rw [wpn_nil] at hk
  have key : (match endF C.T s.res obs.length st with | some (y, obs') => K y obs' | none => False) → someO (fun p => outA K (.av p.1 p.2)) (endF C.T s.res obs.length st) := fun hh => by
    cases hq : endF C.T s.res obs.length st with
    | none => rw [hq] at hh; exact hh.elim
    | some p => rw [hq] at hh; exact hh
  cases e with
  | exit id => exact hk.elim
  | norm => exact key hk
  | ret => exact key hk
theorem run_code {f : FuncId} {xs : List AV} {obs : List AObj} {y : AV} {obs' : List AObj} {s : SFn} (hX : C.X f xs obs = none) (hA : C.A f xs obs = some s) (hl : xs.length = s.np) (ht : tidyB obs.length s.body = true) (h : wpk C s.body ⟨startEnv 0 xs, obs⟩ [] (endE C.T s.res obs.length y obs')) (hf7 : f ≠ 1000000007 := by decide) : run C f xs obs = some (y, obs') := by
  refine run_of_wpr (wpr_code hX hA hl ht (wpc_mono h fun e st hk => ?_) hf7)
  rw [wpn_nil] at hk ⊢
  cases e with
  | exit id => exact hk.elim
  | norm => simp only [endE] at hk; simp only [endQ, hk, and_self]
  | ret => simp only [endE] at hk; simp only [endQ, hk, and_self]
def rndE (n0 o : Nat) (y : AV) (obs' : List AObj) : Ex → St → Prop
  | .norm, st => rndEnd n0 o st.obs = some (y, obs')
  | _, _ => False
def rndK (C : Pg) (sb : SC) (n0 o : Nat) (y : AV) (obs' : List AObj) : Ex → St → Prop
  | .norm, st => (match busyL o st.obs with
    | some obs1 => wpk C sb ⟨st.env, obs1⟩ [] (rndE n0 o y obs')
    | none => False)
  | _, _ => False
theorem run_round {xs : List AV} {obs : List AObj} {y : AV} {obs' : List AObj} {o : Nat} {l : SLoop} {st : St} (hq : rndSt C.L xs obs = some (o, l, st)) (h : wpk C l.sa st [] (rndK C l.sb obs.length o y obs')) : run C 1000000007 xs obs = some (y, obs') := by
  refine run_of_wpr (W_mk ?_)
  simp only [nextW, if_true]
  rw [hq]
  refine W_mono _ _ _ (outE_mono fun e st1 hk => ?_) h
  rw [wpn_nil] at hk
  cases e with
  | norm =>
    simp only [rndK] at hk
    show someO _ _
    cases hb : busyL o st1.obs with
    | none => rw [hb] at hk; exact hk.elim
    | some obs1 =>
      rw [hb] at hk
      refine W_mono _ _ _ (outE_mono fun e st2 hk => ?_) hk
      rw [wpn_nil] at hk
      cases e with
      | norm =>
        simp only [rndE] at hk
        show someO _ _
        rw [hk]
        exact ⟨rfl, rfl⟩
      | exit id => exact hk.elim
      | ret => exact hk.elim
  | exit id => exact hk.elim
  | ret => exact hk.elim
def SOp.still (o : SOp) : Bool := match o.op with
  | .next _ _ => false
  | _ => true
def SC.still : SC → Bool
  | .reg ops _ => ops.all SOp.still
  | .seq a b => a.still && b.still
  | .cond _ a b => a.still && b.still
  | .block _ b => b.still
  | .loop b => b.still
  | .pre _ c => c.still
  | .post c _ => c.still
  | _ => true
def Task.still : Task → Bool
  | .exec c _ => c.still
  | .loop b _ => b.still
  | .ops _ _ _ _ l _ => l.all SOp.still
  | .run .. => false
theorem still_alts {T : Tbl} {Q : TypeId → Option (List EK)} {o : SOp} {st : St} {nid : Nat} {l : List (AV × List (Nat × AObj))} (hs : o.still = true) : stepS T Q o st nid ≠ .alts l := by
  have main : ∀ {ev ob}, opF T Q o.an o.op ev ob nid ≠ .alts l := fun {ev ob} h => by
    unfold opF at h
    split at h
    all_goals (try simp only [OpR.of, allocF, boxF, buildSliceF, landV, storeF, boxStore, pvStore, convertF, makeFuncF, builtinF, appMkF, appendF, appVec, clearF, clearVec, deleteF, mapDel, callF, makeMapF, makeMapH, makeSliceF, mapUpdateF, mapPut, rangeF, rangeM] at h)
    all_goals (repeat' (split at h))
    all_goals first
      | (cases h; done)
      | (rename_i hq; unfold SOp.still at hs; rw [hq] at hs; cases hs)
  unfold stepS
  repeat' split
  all_goals first
    | exact main
    | (intro h; cases h)
theorem W_still {t : Task} {Q : Out → Prop} (h : W C t Q) (hs : t.still = true) : ∃ o, Q o ∧ W C t (fun o' => o' = o) := by
  refine (W_ind (fun t Q => W C t Q ∧ (t.still = true → ∃ o, Q o ∧ W C t (fun o' => o' = o))) (fun t Q Q' hQ h => ⟨W_mono t Q Q' hQ h.1, fun hs => ?_⟩) (fun t Q hn => ⟨W_mk (nextW_mono (fun t Q Q' hQ h => W_mono t Q Q' hQ h.1) (fun _ h => h) hn), fun hs => ?_⟩) h).2 hs
  · obtain ⟨o, h1, h2⟩ := h.2 hs
    exact ⟨o, hQ o h1, h2⟩
  · have oE : ∀ {K : Ex → St → Prop} {t : Task} {o : Out}, outE K o → W C t (fun o' => o' = o) → ∃ e st, o = .ex e st ∧ K e st ∧ W C t (outE fun e' st' => e' = e ∧ st' = st) := fun {K t o} h1 h2 => by
      cases o with
      | ex e st => exact ⟨e, st, rfl, h1, W_mono _ _ _ (fun o ho => by subst ho; exact ⟨rfl, rfl⟩) h2⟩
      | _ => exact h1.elim
    cases t with
    | exec c st =>
      cases c with
      | skip => exact ⟨_, hn, W_mk rfl⟩
      | reg ops B =>
        obtain ⟨o, h1, h2⟩ := hn.2 hs
        cases o with
        | st st' => exact ⟨_, h1, W_mk (W_mono _ _ _ (fun o ho => by subst ho; exact rfl) h2)⟩
        | _ => exact h1.elim
      | seq a b =>
        simp only [Task.still, SC.still, Bool.and_eq_true] at hs
        obtain ⟨o, h1, h2⟩ := hn.2 hs.1
        obtain ⟨e, st', rfl, k1, k2⟩ := oE h1 h2
        cases e with
        | norm =>
          obtain ⟨o, h3, h4⟩ := k1.2 hs.2
          exact ⟨o, h3, W_mk (W_mono _ _ _ (outE_mono fun e st2 he => by obtain ⟨rfl, rfl⟩ := he; exact h4) k2)⟩
        | exit id => exact ⟨_, k1, W_mk (W_mono _ _ _ (outE_mono fun e st2 he => by obtain ⟨rfl, rfl⟩ := he; exact rfl) k2)⟩
        | ret => exact ⟨_, k1, W_mk (W_mono _ _ _ (outE_mono fun e st2 he => by obtain ⟨rfl, rfl⟩ := he; exact rfl) k2)⟩
      | cond c a b =>
        simp only [Task.still, SC.still, Bool.and_eq_true] at hs
        simp only [nextW] at hn
        split at hn
        · rename_i t ht
          have hs' : (bif t then a else b).still = true := by cases t <;> simp [hs]
          obtain ⟨o, h1, h2⟩ := hn.2 hs'
          exact ⟨o, h1, W_mk (by simp only [nextW, ht]; exact h2)⟩
        · exact hn.elim
      | block id b =>
        obtain ⟨o, h1, h2⟩ := hn.2 hs
        obtain ⟨e, st', rfl, k1, k2⟩ := oE h1 h2
        exact ⟨_, k1, W_mk (W_mono _ _ _ (outE_mono fun e st2 he => by obtain ⟨rfl, rfl⟩ := he; exact rfl) k2)⟩
      | loop b =>
        obtain ⟨o, h1, h2⟩ := hn.2 hs
        exact ⟨o, h1, W_mk h2⟩
      | exit id => exact ⟨_, hn, W_mk rfl⟩
      | ret => exact ⟨_, hn, W_mk rfl⟩
      | bad => exact hn.elim
      | rngE g nt ps sa sb => exact hn.elim
      | rng g k ks an =>
        simp only [nextW] at hn
        split at hn
        · rename_i f xs hf
          obtain ⟨x, obs', h1, h2⟩ := hn
          obtain ⟨p, hp, h3⟩ := someO_elim h2
          obtain ⟨obs2, he, h4⟩ := someO_elim h3
          refine ⟨_, h4, W_mk ?_⟩
          simp only [nextW, hf]
          refine ⟨x, obs', h1.1, ?_⟩
          rw [hp]
          simp only [someO]
          rw [he]
        · exact hn.elim
      | pre g c =>
        simp only [nextW] at hn
        cases hg : ghost C.T g st with
        | none => rw [hg] at hn; exact hn.elim
        | some st2 =>
          rw [hg] at hn
          obtain ⟨o, h1, h2⟩ := hn.2 hs
          exact ⟨o, h1, W_mk (by simp only [nextW, hg]; exact h2)⟩
      | post c g =>
        obtain ⟨o, h1, h2⟩ := hn.2 hs
        obtain ⟨e, st', rfl, k1, k2⟩ := oE h1 h2
        cases hg : ghostE C.T g e st' with
        | none => rw [hg] at k1; exact k1.elim
        | some st2 =>
          rw [hg] at k1
          exact ⟨_, k1, W_mk (W_mono _ _ _ (outE_mono fun e st2 he => by obtain ⟨rfl, rfl⟩ := he; rw [hg]; exact rfl) k2)⟩
    | loop b st =>
      obtain ⟨o, h1, h2⟩ := hn.2 hs
      obtain ⟨e, st', rfl, k1, k2⟩ := oE h1 h2
      cases e with
      | norm =>
        obtain ⟨o, h3, h4⟩ := k1.2 hs
        exact ⟨o, h3, W_mk (W_mono _ _ _ (outE_mono fun e st2 he => by obtain ⟨rfl, rfl⟩ := he; exact h4) k2)⟩
      | exit id => exact ⟨_, k1, W_mk (W_mono _ _ _ (outE_mono fun e st2 he => by obtain ⟨rfl, rfl⟩ := he; exact rfl) k2)⟩
      | ret => exact ⟨_, k1, W_mk (W_mono _ _ _ (outE_mono fun e st2 he => by obtain ⟨rfl, rfl⟩ := he; exact rfl) k2)⟩
    | ops B i nid acc l st =>
      cases l with
      | nil => exact ⟨_, hn, W_mk rfl⟩
      | cons o r =>
        simp only [Task.still, List.all_cons, Bool.and_eq_true] at hs
        simp only [nextW] at hn
        cases hst : stepS C.T C.Q o st nid with
        | val v e =>
          simp only [hst] at hn
          obtain ⟨q, h1, h2⟩ := hn.2.2 hs.2
          exact ⟨q, h1, W_mk (by simp only [nextW, hst]; exact ⟨hn.1, h2⟩)⟩
        | alts l => exact absurd hst (still_alts hs.1)
        | call g xs =>
          simp only [hst] at hn
          obtain ⟨x, obs', h1, h2⟩ := hn
          cases hc : comeC o.an (obGet st.obs) (reachOf (obGet st.obs) xs) xs nid x obs' with
          | none => rw [hc] at h2; exact h2.elim
          | some p =>
            rw [hc] at h2
            obtain ⟨q, h3, h4⟩ := h2.2.2 hs.2
            exact ⟨q, h3, W_mk (by simp only [nextW, hst]; exact ⟨x, obs', h1.1, by rw [hc]; exact ⟨h2.1, h4⟩⟩)⟩
        | bad => simp only [hst] at hn
    | run f xs obs => cases hs
theorem run_codeQ {f : FuncId} {xs : List AV} {obs : List AObj} {Q : AV → List AObj → Prop} {s : SFn} (hX : C.X f xs obs = none) (hA : C.A f xs obs = some s) (hl : xs.length = s.np) (ht : (tidyB obs.length s.body && s.body.still) = true) (h : wpk C s.body ⟨startEnv 0 xs, obs⟩ [] (endQ C.T s.res obs.length Q)) (hf7 : f ≠ 1000000007 := by decide) : ∃ y obs', run C f xs obs = some (y, obs') ∧ Q y obs' := by
  rw [Bool.and_eq_true] at ht
  obtain ⟨o, h1, h2⟩ := W_still h ht.2
  cases o with
  | ex e st =>
    have key : ∀ y obs', endE C.T s.res obs.length y obs' e st → Q y obs' → ∃ y obs', run C f xs obs = some (y, obs') ∧ Q y obs' := fun y obs' he hq => by
      refine ⟨y, obs', run_code hX hA hl ht.1 (W_mono _ _ _ (fun o ho => ?_) h2) hf7, hq⟩
      subst ho
      show wpn C e st [] (endE C.T s.res obs.length y obs')
      rw [wpn_nil]; exact he
    have h1 : wpn C e st [] (endQ C.T s.res obs.length Q) := h1
    rw [wpn_nil] at h1
    cases e with
    | exit id => exact h1.elim
    | norm =>
      simp only [endQ] at h1
      split at h1
      · rename_i y obs' he; exact key y obs' he h1
      · exact h1.elim
    | ret =>
      simp only [endQ] at h1
      split at h1
      · rename_i y obs' he; exact key y obs' he h1
      · exact h1.elim
  | _ => exact h1.elim
end
def getF (f : Nat) : List (Nat × SFn) → Option SFn
  | [] => none
  | (g, s) :: r => if f = g then some s else getF f r
def FOk (P : Program) (f : Nat) (s : SFn) : Prop := (P.funcs[f]?).bind slimFn = some (s.erase P)
def AllF (P : Program) : List (Nat × SFn) → Prop
  | [] => True
  | (f, s) :: r => FOk P f s ∧ AllF P r
theorem getF_ok {P : Program} {f : Nat} {s : SFn} : ∀ {l : List (Nat × SFn)}, AllF P l → getF f l = some s → (P.funcs[f]?).bind slimFn = some (s.erase P)
  | [], _, h => by cases h
  | (g, t) :: r, hl, h => by
    unfold getF at h
    split at h
    · rename_i e; subst e; injection h with h; subst h; exact hl.1
    · exact getF_ok hl.2 h
def getLp (k : Nat) : List (Nat × SLoop) → Option SLoop
  | [] => none
  | (j, l) :: r => if k = j then some l else getLp k r
def LOk (P : Program) (k : Nat) (l : SLoop) : Prop := loopS P k = some (l.erase P)
def AllL (P : Program) : List (Nat × SLoop) → Prop
  | [] => True
  | (k, l) :: r => LOk P k l ∧ AllL P r
theorem getLp_ok {P : Program} {k : Nat} {l : SLoop} : ∀ {t : List (Nat × SLoop)}, AllL P t → getLp k t = some l → loopS P k = some (l.erase P)
  | [], _, h => by cases h
  | (j, m) :: r, hl, h => by
    unfold getLp at h
    split at h
    · rename_i e; subst e; injection h with h; subst h; exact hl.1
    · exact getLp_ok hl.2 h
end Go.Proofs.YtpooehcjchkbkaaV
/- From a row's arguments to data: what a reading of an argument says of its cells. -/
set_option linter.unusedVariables false
set_option linter.unusedSimpArgs false
namespace Go.Proofs.YtpooehcjchkbkaaV
open Go.RowKit
def mkD (i : TyI) (cs : List D) : D := if i.kind.agg then .agg cs else cs.headD .nils
def CellOk (T : Tbl) : Nat → TypeId → List D → Prop
  | 0, _, _ => False
  | n + 1, t, ds => match T.get t with
    | some ⟨.int k, _, _, _⟩ => ∃ x, ds = [.int k x] ∧ (Lit.int k x).wf = true
    | some ⟨.bool, _, _, _⟩ => ∃ b, ds = [.bool b]
    | some ⟨.str, _, _, _⟩ => ∃ s, ds = [.str s] ∧ s.size ≤ 140737488351232
    | some ⟨.slice e, _, _, _⟩ => ds = [.nils] ∨ ∃ els ie, ds = [.sl els] ∧ T.get e = some ie ∧ els.length * ie.bytes ≤ 140737488351232 ∧ els.length ≤ 9223372036854775807 ∧ ∀ el ∈ els, ∃ cs, el = mkD ie cs ∧ el.cells = cs ∧ cs.length = ie.size ∧ CellOk T n e cs
    | some ⟨.struct fs, sz, _, _⟩ => ds.length = sz ∧ ∀ f ∈ fs, CellOk T n f.2.1 ((ds.drop f.1).take f.2.2)
    | some ⟨.arr m e, sz, _, _⟩ => ds.length = sz ∧ ∃ ie, T.get e = some ie ∧ ∀ i, i < m → CellOk T n e ((ds.drop (i * ie.size)).take ie.size)
    | _ => False
def seqB (o sz : Nat) : List (Nat × TypeId × Nat) → Bool
  | [] => o == sz
  | f :: r => f.1 == o && seqB (o + f.2.2) sz r
theorem seqB_le {sz : Nat} : ∀ {gs : List (Nat × TypeId × Nat)} {o : Nat}, seqB o sz gs = true → o ≤ sz ∧ ∀ f ∈ gs, o ≤ f.1 ∧ f.1 + f.2.2 ≤ sz
  | [], o, h => by simp [seqB] at h; simp [h]
  | g :: gs, o, h => by
    simp only [seqB, Bool.and_eq_true, beq_iff_eq] at h
    obtain ⟨h1, h2⟩ := h
    obtain ⟨h3, h4⟩ := seqB_le h2
    refine ⟨by omega, fun f hf => ?_⟩
    rcases List.mem_cons.1 hf with rfl | hf
    · omega
    · have := h4 f hf; omega
theorem seqB_range (e : TypeId) (s : Nat) : ∀ (c k : Nat), seqB (k * s) ((k + c) * s) ((List.range' k c).map fun i => (i * s, e, s)) = true
  | 0, k => by simp [seqB]
  | c + 1, k => by
    have := seqB_range e s c (k + 1)
    simp only [List.range'_succ, List.map_cons, seqB, beq_self_eq_true, Bool.true_and]
    rw [show k * s + s = (k + 1) * s by rw [Nat.add_mul]; omega, show (k + (c + 1)) = (k + 1 + c) by omega]
    exact this
theorem glueF {R : D → Value → Prop} {C : TypeId → List D → Prop} {cs : List Value} {sz : Nat} (hcs : cs.length = sz) : ∀ {gs : List (Nat × TypeId × Nat)} {o : Nat}, seqB o sz gs = true →
    (∀ f ∈ gs, ∃ ds : List D, ds.length = f.2.2 ∧ (∀ (j : Nat) (d : D) (v : Value), ds[j]? = some d → ((cs.drop f.1).take f.2.2)[j]? = some v → R d v) ∧ (∀ v ∈ (cs.drop f.1).take f.2.2, v.oneCell' = true) ∧ C f.2.1 ds) →
    ∃ ds : List D, ds.length = sz - o ∧ (∀ (j : Nat) (d : D) (v : Value), ds[j]? = some d → (cs.drop o)[j]? = some v → R d v) ∧ (∀ v ∈ cs.drop o, v.oneCell' = true) ∧ ∀ f ∈ gs, C f.2.1 ((ds.drop (f.1 - o)).take f.2.2)
  | [], o, h, _ => by
    simp [seqB] at h
    subst h
    refine ⟨[], by simp, by simp, ?_, by simp⟩
    rw [List.drop_of_length_le (by omega)]; simp
  | g :: gs, o, h, hf => by
    have hle := seqB_le h
    simp only [seqB, Bool.and_eq_true, beq_iff_eq] at h
    obtain ⟨h1, h2⟩ := h
    obtain ⟨d1, a1, a2, a3, a4⟩ := hf g (by simp)
    obtain ⟨d2, b1, b2, b3, b4⟩ := glueF hcs h2 fun f hm => hf f (by simp [hm])
    have hle2 := seqB_le h2
    have hsplit : cs.drop o = (cs.drop g.1).take g.2.2 ++ cs.drop (o + g.2.2) := by
      rw [h1, ← List.drop_drop, List.take_append_drop]
    have hlen1 : ((cs.drop g.1).take g.2.2).length = g.2.2 := by simp; omega
    refine ⟨d1 ++ d2, by simp; omega, fun j d v hd hv => ?_, fun v hv => ?_, fun f hm => ?_⟩
    · rw [hsplit] at hv
      rw [List.getElem?_append] at hd hv
      rw [hlen1] at hv
      rw [a1] at hd
      split at hd
      · rw [if_pos (by assumption)] at hv; exact a2 j d v hd hv
      · rw [if_neg (by assumption)] at hv; exact b2 _ d v hd hv
    · rw [hsplit] at hv
      rcases List.mem_append.1 hv with hv | hv
      · exact a3 v hv
      · exact b3 v hv
    · rcases List.mem_cons.1 hm with rfl | hm
      · rw [show f.1 - o = 0 by omega, List.drop_zero, ← a1, List.take_left]; exact a4
      · have h5 := (hle2.2 f hm).1
        have e : (d1 ++ d2).drop (f.1 - o) = d2.drop (f.1 - (o + g.2.2)) := by
          rw [List.drop_append, List.drop_of_length_le (by omega), List.nil_append]
          congr 1; omega
        rw [e]; exact b4 f hm
def plainB (T : Tbl) : Nat → TypeId → Bool
  | 0, _ => false
  | n + 1, t => match T.get t with
    | some ⟨.int _, sz, _, _⟩ => sz == 1
    | some ⟨.bool, sz, _, _⟩ => sz == 1
    | some ⟨.str, sz, _, _⟩ => sz == 1
    | some ⟨.slice e, sz, _, _⟩ => sz == 1 && plainB T n e && (match T.get e with | some ie => ie.size != 0 | none => false)
    | some ⟨.struct fs, sz, _, _⟩ => seqB 0 sz fs && fs.all fun f => plainB T n f.2.1
    | some ⟨.arr m e, sz, _, _⟩ => plainB T n e && (match T.get e with | some ie => sz == m * ie.size | none => false)
    | _ => false
theorem plainB_get {T : Tbl} {n : Nat} {t : TypeId} (h : plainB T n t = true) : ∃ i, T.get t = some i := by
  cases n with
  | zero => simp [plainB] at h
  | succ n =>
    cases hg : T.get t with
    | none => simp [plainB, hg] at h
    | some i => exact ⟨i, rfl⟩
theorem choose_list {α : Type} {R : Nat → α → Prop} (n : Nat) (h : ∀ i, i < n → ∃ y, R i y) : ∃ l : List α, l.length = n ∧ ∀ (i : Nat) (y : α), l[i]? = some y → R i y := by
  induction n with
  | zero => exact ⟨[], rfl, by simp⟩
  | succ n ih =>
    obtain ⟨l, hl, hr⟩ := ih fun i hi => h i (by omega)
    obtain ⟨y, hy⟩ := h n (by omega)
    refine ⟨l ++ [y], by simp [hl], fun i z hz => ?_⟩
    rw [List.getElem?_append] at hz
    split at hz
    · exact hr i z hz
    · rename_i hi
      have e : i = n := by
        have := (List.getElem?_eq_some_iff.1 hz).1
        simp at this; omega
      subst e
      rw [hl, Nat.sub_self] at hz
      simp at hz
      subst hz; exact hy
section
variable {H : Type} {enc : TypeId × Value → H} {P : Program} {T : Tbl} {w : World}
theorem cellsOf_eq {t : TypeId} {i : TyI} (h : TyOk P t i) : P.cellsOf t = i.size := by
  obtain ⟨f, hf, hs, _⟩ := h.info
  simp [Program.cellsOf, hf, hs]
theorem bytesOf_eq {t : TypeId} {i : TyI} (h : TyOk P t i) : P.bytesOf t = i.bytes := by
  obtain ⟨f, hf, _, hb, _⟩ := h.info
  simp [Program.bytesOf, hf, hb]
theorem addr_add {a : Addr} {b off : Nat} (h : a = ⟨b, off, none⟩) (j : Nat) : a.add j = ⟨b, off + j, none⟩ := by
  subst h
  unfold Addr.add
  split
  · rename_i h0; subst h0; rfl
  · rfl
theorem mem_weightsAll {e : TypeId} : ∀ {ds : List (DataW H)} {d : DataW H} {n : Nat}, d ∈ ds → n ∈ d.weights P e → n ∈ DataW.weightsAll P e ds
  | x :: r, d, n, hd, hn => by
    simp only [DataW.weightsAll, List.mem_append]
    rcases List.mem_cons.1 hd with rfl | hd
    · exact .inl hn
    · exact .inr (mem_weightsAll hd hn)
theorem cells_row {b off : Nat} {n : Nat} {a : Addr} (h : a = ⟨b, off, none⟩) {j : Nat} (hj : j < n) : MemPlace.cell b (off + j) ∈ MemPlace.row a n := by
  subst h
  simp only [MemPlace.row, List.mem_map, List.mem_range]
  exact ⟨j, hj, rfl⟩
theorem weightsEach_mem {ts : List TypeId} {ds : List (DataW H)} {j : Nat} {t : TypeId} {d : DataW H} (ht : ts[j]? = some t) (hd : ds[j]? = some d) {k : Nat} (hk : k ∈ d.weights P t) : k ∈ DataW.weightsEach P ts ds :=
  DataW.weights_mem_each ht hd k hk
theorem glue {R : D → Value → Prop} (cs : List Value) (h : ∀ j, j < cs.length → ∃ d, ∀ v, cs[j]? = some v → R d v) : ∃ ds : List D, ds.length = cs.length ∧ ∀ (j : Nat) (d : D) (v : Value), ds[j]? = some d → cs[j]? = some v → R d v := by
  obtain ⟨ds, hl, hr⟩ := choose_list (R := fun j d => ∀ v, cs[j]? = some v → R d v) cs.length h
  exact ⟨ds, hl, fun j d v hd hv => hr j d hd v hv⟩
theorem open_cells (hT : TOk P T) : ∀ (n : Nat) (t : TypeId) (i : TyI) (m : Nat) (cs : List Value) (x : DataW H) (ps : List MemPlace), plainB T n t = true → T.get t = some i →
    DataW.trod enc P w 0 (fun _ => true) true m t cs = some (x, ps) → (∀ k ∈ x.weights P t, k ≤ reachBytes) →
    ∃ ds : List D, ds.length = cs.length ∧ ds.length = i.size ∧ (∀ (j : Nat) (d : D) (v : Value), ds[j]? = some d → cs[j]? = some v → VRd w (fun b o => MemPlace.cell b o ∈ ps) d v) ∧ (∀ v ∈ cs, v.oneCell' = true) ∧ (i.kind.agg = false → ∃ d, ds = [d] ∧ d.cells = [d]) ∧ CellOk T n t ds := by
  intro n
  induction n with
  | zero => intro t i m cs x ps hp; simp [plainB] at hp
  | succ n ih =>
    intro t i m cs x ps hp hg hx hw
    cases m with
    | zero => simp [DataW.trod] at hx
    | succ m =>
    have hty := hT.ok hg
    obtain ⟨u, hu, hk⟩ := hty.und
    obtain ⟨kind, sz, by0, zero⟩ := i
    simp only [plainB, hg] at hp
    simp only [CellOk, hg]
    simp only [TK.agg]
    have lit : ∀ {d : D} {v : Value} {ps' : List MemPlace}, d.cells = [d] → v.oneCell' = true → VRd w (fun b o => MemPlace.cell b o ∈ ps') d v →
        (∀ (j : Nat) (d' : D) (v' : Value), [d][j]? = some d' → [v][j]? = some v' → VRd w (fun b o => MemPlace.cell b o ∈ ps') d' v') ∧ (∀ v' ∈ [v], v'.oneCell' = true) ∧ ((TK.bool).agg = false → ∃ d', [d] = [d'] ∧ d'.cells = [d']) := by
      intro d v ps' h1 h2 h3
      refine ⟨fun j d' v' hd hv => ?_, by simpa using h2, fun _ => ⟨d, rfl, h1⟩⟩
      cases j with
      | zero => simp at hd hv; subst hd; subst hv; exact h3
      | succ j => simp at hd
    unfold DataW.trod at hx
    rw [hu] at hx
    cases kind with
    | int k =>
      cases u <;> simp only [kindEq, Bool.false_eq_true] at hk
      rename_i k'
      have hk' : k' = k := by simpa using hk
      subst hk'
      split at hx <;> first | (rename_i h0 _; cases h0; done) | (rename_i h0; cases h0; done) | (cases hx; done) | skip
      rename_i q n1 h0
      simp only [Option.some.injEq, TypeDesc.int.injEq] at h0
      subst h0
      split at hx
      · rename_i hc
        simp only [Option.some.injEq, Prod.mk.injEq] at hx
        obtain ⟨rfl, rfl⟩ := hx
        obtain ⟨rfl, hc⟩ := hc
        have hz : sz = 1 := by simpa using hp
        obtain ⟨g1, g2, g3⟩ := lit (d := .int _ n1) (ps' := []) rfl rfl (.int _ _)
        exact ⟨[.int _ n1], rfl, hz.symm, g1, g2, g3, _, rfl, hc⟩
      · cases hx
    | bool =>
      cases u <;> simp only [kindEq, Bool.false_eq_true] at hk
      split at hx <;> first | (rename_i h0 _; cases h0; done) | (rename_i h0; cases h0; done) | (cases hx; done) | skip
      simp only [Option.some.injEq, Prod.mk.injEq] at hx
      obtain ⟨rfl, rfl⟩ := hx
      have hz : sz = 1 := by simpa using hp
      rename_i b h0
      obtain ⟨g1, g2, g3⟩ := lit (d := .bool b) (ps' := []) rfl rfl (.bool _)
      exact ⟨[.bool b], rfl, hz.symm, g1, g2, g3, _, rfl⟩
    | str =>
      cases u <;> simp only [kindEq, Bool.false_eq_true] at hk
      split at hx <;> first | (rename_i h0 _; cases h0; done) | (rename_i h0; cases h0; done) | (cases hx; done) | skip
      rename_i b h0
      split at hx
      · simp only [Option.some.injEq, Prod.mk.injEq] at hx
        obtain ⟨rfl, rfl⟩ := hx
        have hz : sz = 1 := by simpa using hp
        obtain ⟨g1, g2, g3⟩ := lit (d := .str b) (ps' := []) rfl rfl (.str _)
        have hb := hw b.data.toList.length (by simp [DataW.weights])
        exact ⟨[.str b], rfl, hz.symm, g1, g2, g3, _, rfl, by simpa [reachBytes] using hb⟩
      · cases hx
    | slice e =>
      cases u <;> simp only [kindEq, Bool.false_eq_true] at hk
      rename_i e'
      have hk' : e' = e := by simpa using hk
      subst hk'
      simp only [Bool.and_eq_true, beq_iff_eq] at hp
      obtain ⟨⟨hz, hp⟩, hie0⟩ := hp
      obtain ⟨ie, hie⟩ := plainB_get hp
      rw [hie] at hie0
      simp only [bne_iff_ne, ne_eq] at hie0
      have hte := hT.ok hie
      have hce := cellsOf_eq hte
      have hbe := bytesOf_eq hte
      split at hx <;> first | (rename_i h0 _; cases h0; done) | (rename_i h0; cases h0; done) | (cases hx; done) | skip
      · simp only [Option.some.injEq, Prod.mk.injEq] at hx
        obtain ⟨rfl, rfl⟩ := hx
        obtain ⟨g1, g2, g3⟩ := lit (d := .nils) (ps' := []) rfl rfl .nils
        exact ⟨[.nils], rfl, hz.symm, g1, g2, g3, .inl rfl⟩
      · rename_i e2 a len cap h0
        simp only [Option.some.injEq, TypeDesc.slice.injEq] at h0
        subst h0
        simp only at hx
        split at hx
        · rename_i hc
          obtain ⟨_, hlc, hcm⟩ := hc
          simp only [if_true, Option.bind_eq_some_iff, Option.map_eq_some_iff] at hx
          obtain ⟨elems, he, rest, hrest, hx⟩ := hx
          simp only [Prod.mk.injEq] at hx
          obtain ⟨rfl, rfl⟩ := hx
          have hel := mapM_some_length he
          have hrl := mapM_some_length hrest
          simp only [List.length_range] at hel hrl
          have hbyt := hw ((elems.length + rest.length) * P.bytesOf e') (by simp [DataW.weights, hu])
          -- each element
          have each : ∀ k, k < len → ∃ (el : D) , ∃ cs' vs' , el = mkD ie cs' ∧ el.cells = cs' ∧ cs'.length = ie.size ∧ CellOk T n e' cs' ∧ w.cells? 0 (a.add (k * P.cellsOf e')) (P.cellsOf e') = some vs' ∧ cs'.length = vs'.length ∧
              (∀ (j : Nat) (d : D) (v : Value), cs'[j]? = some d → vs'[j]? = some v → VRd w (fun b o => MemPlace.cell b o ∈ (MemPlace.row a ((elems.length + rest.length) * P.cellsOf e') ++ (elems ++ rest).flatMap (·.2))) d v) ∧ ∀ v ∈ vs', v.oneCell' = true := by
            intro k hk
            have h1 := mapM_some_get he k k (by simp [hk])
            have hlt : k < elems.length := by omega
            rw [List.getElem?_eq_getElem hlt] at h1
            obtain ⟨vs', hv', htr⟩ := Option.bind_eq_some_iff.1 h1
            obtain ⟨cs', g1, g2, g3, g4, g5, g6⟩ := ih e' ie m vs' (elems[k]).1 (elems[k]).2 hp hie htr (fun q hq => hw q (by
              simp only [DataW.weights, hu, List.mem_cons, List.mem_append]
              exact .inr (.inl (mem_weightsAll (List.mem_map.2 ⟨_, List.getElem_mem hlt, rfl⟩) hq))))
            have hmono : ∀ b o, MemPlace.cell b o ∈ (elems[k]).2 → MemPlace.cell b o ∈ (MemPlace.row a ((elems.length + rest.length) * P.cellsOf e') ++ (elems ++ rest).flatMap (·.2)) := by
              intro b o hb
              simp only [List.mem_append, List.mem_flatMap]
              exact .inr ⟨elems[k], .inl (List.getElem_mem hlt), hb⟩
            refine ⟨mkD ie cs', cs', vs', rfl, ?_, g2, g6, hv', g1, fun j d v hd hv => (g3 j d v hd hv).mono fun b o hb => ⟨hmono b o hb, rfl⟩, g4⟩
            unfold mkD
            cases ha : ie.kind.agg with
            | true => simp [D.cells]
            | false =>
              obtain ⟨d, rfl, hd⟩ := g5 (by simpa using ha)
              simpa using hd
          obtain ⟨els, hll, hels⟩ := choose_list len each
          have hsz : ∀ el ∈ els, el.cells.length = ie.size := by
            intro el hel'
            obtain ⟨k, hk⟩ := List.mem_iff_getElem?.1 hel'
            obtain ⟨cs', vs', _, h2, h3, _⟩ := hels k el hk
            rw [h2]; exact h3
          have hok : ∀ el ∈ els, ∃ cs, el = mkD ie cs ∧ el.cells = cs ∧ cs.length = ie.size ∧ CellOk T n e' cs := by
            intro el hel'
            obtain ⟨k, hk⟩ := List.mem_iff_getElem?.1 hel'
            obtain ⟨cs', vs', h1, h2, h3, h4, _⟩ := hels k el hk
            exact ⟨cs', h1, h2, h3, h4⟩
          have hlen : els.length * ie.bytes ≤ 140737488351232 := by
            rw [hbe] at hbyt
            have : els.length * ie.bytes ≤ (elems.length + rest.length) * ie.bytes := Nat.mul_le_mul_right _ (by omega)
            unfold reachBytes at hbyt
            omega
          have hlen' : els.length ≤ 9223372036854775807 := by unfold maxLen at hcm; omega
          refine ⟨[.sl els], rfl, hz.symm, ?_, by simp [Value.oneCell'], fun _ => ⟨_, rfl, rfl⟩, .inr ⟨els, ie, rfl, hie, hlen, hlen', hok⟩⟩
          intro j d v hd hv
          cases j with
          | succ j => simp at hd
          | zero =>
            simp at hd hv; subst hd; subst hv
            rw [← hll]
            -- where the cells lie
            have hspot : els.length * ie.size ≠ 0 → a = ⟨a.block, a.off, none⟩ := by
              intro h0
              have hl0 : 0 < els.length := Nat.pos_of_ne_zero fun e => h0 (by rw [e]; simp)
              have hs0 : 0 < ie.size := Nat.pos_of_ne_zero fun e => h0 (by rw [e]; simp)
              obtain ⟨cs', vs', _, _, h3, _, h5, h6, _⟩ := hels 0 els[0] (by simp [hl0])
              obtain ⟨_, hl1, hc1⟩ := World.cells?_some h5
              have hc0 := hc1 0 (by omega)
              rw [List.getElem?_eq_getElem (by omega)] at hc0
              have : (a.add (0 * P.cellsOf e')).add 0 = a := by simp [Addr.add]
              rw [this] at hc0
              unfold World.cell? at hc0
              split at hc0
              · cases hs : a.spot with
                | none => cases a; simp at hs; subst hs; rfl
                | some s => simp [hs] at hc0
              · cases hc0
            have hcell : ∀ (k q : Nat), k < els.length → q < ie.size → ∃ v, w.cell? ⟨a.block, a.off + (k * ie.size + q), none⟩ = some v ∧ v.oneCell' = true ∧ MemPlace.cell a.block (a.off + (k * ie.size + q)) ∈ (MemPlace.row a ((elems.length + rest.length) * P.cellsOf e') ++ (elems ++ rest).flatMap (·.2)) ∧
                ∀ d, (els[k]?.bind fun el => el.cells[q]?) = some d → VRd w (fun b o => MemPlace.cell b o ∈ (MemPlace.row a ((elems.length + rest.length) * P.cellsOf e') ++ (elems ++ rest).flatMap (·.2))) d v := by
              intro k q hk hq
              obtain ⟨cs', vs', h1, h2, h3, h4, h5, h6, h7, h8⟩ := hels k els[k] (by simp [hk])
              have ha : a = ⟨a.block, a.off, none⟩ := hspot (by have : 0 < els.length * ie.size := Nat.mul_pos (by omega) (by omega); omega)
              obtain ⟨_, hl1, hc1⟩ := World.cells?_some h5
              have hq1 := hc1 q (by omega)
              have hqv : q < vs'.length := by omega
              rw [List.getElem?_eq_getElem hqv] at hq1
              have had : (a.add (k * P.cellsOf e')).add q = ⟨a.block, a.off + (k * ie.size + q), none⟩ := by
                rw [hce]
                rw [addr_add (b := a.block) (off := a.off + k * ie.size) (addr_add ha _) q]
                congr 1; omega
              rw [had] at hq1
              refine ⟨_, hq1, h8 _ (List.getElem_mem hqv), ?_, fun d hd => ?_⟩
              · refine List.mem_append_left _ (cells_row ha ?_)
                rw [hce]
                calc k * ie.size + q < k * ie.size + ie.size := by omega
                  _ = (k + 1) * ie.size := by rw [Nat.add_mul]; omega
                  _ ≤ (elems.length + rest.length) * ie.size := Nat.mul_le_mul_right _ (by omega)
              · simp only [List.getElem?_eq_getElem hk, Option.bind_some, h2] at hd
                exact h7 q d _ hd (List.getElem?_eq_getElem hqv)
            have hflat : ∀ (j : Nat), j < els.length * ie.size → ∃ v, w.cell? ⟨a.block, a.off + j, none⟩ = some v ∧ v.oneCell' = true ∧ MemPlace.cell a.block (a.off + j) ∈ (MemPlace.row a ((elems.length + rest.length) * P.cellsOf e') ++ (elems ++ rest).flatMap (·.2)) ∧
                ∀ d, (D.flat els)[j]? = some d → VRd w (fun b o => MemPlace.cell b o ∈ (MemPlace.row a ((elems.length + rest.length) * P.cellsOf e') ++ (elems ++ rest).flatMap (·.2))) d v := by
              intro j hj
              have hs0 : 0 < ie.size := Nat.pos_of_ne_zero fun e => by rw [e] at hj; simp at hj
              have hk : j / ie.size < els.length := Nat.div_lt_of_lt_mul (by rw [Nat.mul_comm]; exact hj)
              have hq : j % ie.size < ie.size := Nat.mod_lt _ hs0
              have hjj : j / ie.size * ie.size + j % ie.size = j := by rw [Nat.mul_comm]; exact Nat.div_add_mod j ie.size
              obtain ⟨v, h1, h2, h3, h4⟩ := hcell _ _ hk hq
              rw [hjj] at h1 h3
              refine ⟨v, h1, h2, h3, fun d hd => h4 d ?_⟩
              have hc : (els[j / ie.size]).cells.length = ie.size := hsz _ (List.getElem_mem hk)
              have := flat_get (sz := ie.size) hsz (i := j / ie.size) (j := j % ie.size) (e := els[j / ie.size]) (c := (els[j / ie.size]).cells[j % ie.size]'(by omega)) (List.getElem?_eq_getElem hk) (List.getElem?_eq_getElem _)
              rw [hjj, hd] at this
              simp only [List.getElem?_eq_getElem hk, Option.bind_some]
              rw [List.getElem?_eq_getElem (by omega)]
              exact this.symm
            refine .sl els (some a) cap ie.size a.block a.off (fun j => (w.cell? ⟨a.block, a.off + j, none⟩).getD undef) (by omega) hsz ?_ ?_ ?_
            · intro hne
              by_cases h0 : els.length * ie.size = 0
              · exact absurd ((Nat.mul_eq_zero.1 h0).resolve_left fun e => hne (List.length_eq_zero_iff.1 e)) hie0
              · rw [← hspot h0]
            · intro j hj
              obtain ⟨v, h1, h2, h3, _⟩ := hflat j hj
              refine ⟨by rw [h1]; rfl, h3, by rw [h1]; exact h2⟩
            · intro j d hd
              have hj : j < els.length * ie.size := by
                have := (List.getElem?_eq_some_iff.1 hd).1
                rwa [length_flat hsz] at this
              obtain ⟨v, h1, _, _, h4⟩ := hflat j hj
              rw [h1]; exact h4 d hd
        · cases hx
    | struct gs =>
      cases u <;> simp only [kindEq, Bool.false_eq_true] at hk
      rename_i fs
      have hcz := cellsOf_eq hty
      simp only [Bool.and_eq_true, List.all_eq_true] at hp
      obtain ⟨hseq, hp⟩ := hp
      simp only at hx
      split at hx
      · rename_i hlen
        obtain ⟨xs, hxs, hx⟩ := Option.map_eq_some_iff.1 hx
        simp only [Prod.mk.injEq] at hx
        obtain ⟨rfl, rfl⟩ := hx
        have hcs : cs.length = sz := hlen.trans hcz
        have hxl := mapM_some_length hxs
        obtain ⟨ds, g1, g2, g3, g4⟩ := glueF (R := VRd w (fun b o => MemPlace.cell b o ∈ xs.flatMap (·.2))) (C := CellOk T n) hcs hseq (by
          intro g hgm
          obtain ⟨j, hj⟩ := List.mem_iff_getElem?.1 hgm
          obtain ⟨off, ft, n1⟩ := g
          obtain ⟨f, hfj, h1, h2, h3, fi, hfi, h4⟩ := fieldsEq_get hk hj
          subst h1; subst h2
          obtain ⟨i', hi'⟩ := plainB_get (hp _ hgm)
          have hc' : P.cellsOf f.type = n1 := by simp [Program.cellsOf, hfi, h4]
          have hc2 := cellsOf_eq (hT.ok hi')
          have hq := mapM_some_get hxs j f hfj
          obtain ⟨y, hy⟩ : ∃ y, xs[j]? = some y := by
            have hlt := (List.getElem?_eq_some_iff.1 hfj).1
            exact ⟨_, List.getElem?_eq_getElem (by omega)⟩
          rw [hy, hc'] at hq
          have hym : y ∈ xs := List.mem_of_getElem? hy
          obtain ⟨ds', k1, k2, k3, k4, k5, k6⟩ := ih f.type i' m _ y.1 y.2 (hp _ hgm) hi' hq (fun q hq' => hw q (by
            simp only [DataW.weights, hu]
            exact weightsEach_mem (j := j) (t := f.type) (d := y.1) (by simp [hfj]) (by simp [hy]) hq'))
          refine ⟨ds', by rw [k2, ← hc2, hc'], fun j' d v hd hv => (k3 j' d v hd hv).mono fun b o hb => ⟨List.mem_flatMap.2 ⟨y, hym, hb⟩, rfl⟩, k4, k6⟩)
        refine ⟨ds, by simp at g1; omega, by simpa using g1, by simpa using g2, by simpa using g3, by simp, by simpa using g1, fun f hf => by simpa using g4 f hf⟩
      · cases hx
    | arr k e =>
      cases u <;> simp only [kindEq, Bool.false_eq_true] at hk
      rename_i k' e'
      simp only [Bool.and_eq_true, beq_iff_eq] at hk
      obtain ⟨hk1, hk2⟩ := hk
      subst hk1; subst hk2
      have hcz := cellsOf_eq hty
      simp only [Bool.and_eq_true] at hp
      obtain ⟨hp, hsz⟩ := hp
      obtain ⟨ie, hie⟩ := plainB_get hp
      rw [hie] at hsz
      simp only [beq_iff_eq] at hsz
      have hce := cellsOf_eq (hT.ok hie)
      simp only at hx
      split at hx
      · rename_i hlen
        obtain ⟨xs, hxs, hx⟩ := Option.map_eq_some_iff.1 hx
        simp only [Prod.mk.injEq] at hx
        obtain ⟨rfl, rfl⟩ := hx
        have hcs : cs.length = sz := hlen.trans hcz
        have hxl := mapM_some_length hxs
        have hseq := seqB_range e' ie.size k' 0
        simp only [Nat.zero_mul, Nat.zero_add] at hseq
        rw [← hsz] at hseq
        obtain ⟨ds, g1, g2, g3, g4⟩ := glueF (R := VRd w (fun b o => MemPlace.cell b o ∈ xs.flatMap (·.2))) (C := CellOk T n) hcs hseq (by
          intro g hgm
          obtain ⟨j, hj, rfl⟩ := List.mem_map.1 hgm
          simp only [List.mem_range'_1] at hj
          have hq := mapM_some_get hxs j j (by rw [List.getElem?_range (by omega)])
          obtain ⟨y, hy⟩ : ∃ y, xs[j]? = some y := ⟨_, List.getElem?_eq_getElem (by simp at hxl; omega)⟩
          rw [hy, hce] at hq
          have hym : y ∈ xs := List.mem_of_getElem? hy
          obtain ⟨ds', k1, k2, k3, k4, k5, k6⟩ := ih e' ie m _ y.1 y.2 hp hie hq (fun q hq' => hw q (by
            simp only [DataW.weights, hu]
            exact mem_weightsAll (List.mem_map.2 ⟨y, hym, rfl⟩) hq'))
          exact ⟨ds', k2, fun j' d v hd hv => (k3 j' d v hd hv).mono fun b o hb => ⟨List.mem_flatMap.2 ⟨y, hym, hb⟩, rfl⟩, k4, k6⟩)
        refine ⟨ds, by simp at g1; omega, by simpa using g1, by simpa using g2, by simpa using g3, by simp, by simpa using g1, ie, hie, fun i hi => ?_⟩
        simpa using g4 (i * ie.size, e', ie.size) (List.mem_map.2 ⟨i, by simp [List.mem_range'_1]; omega, rfl⟩)
      · cases hx
    | map k e => simp at hp
    | ptr => simp at hp
    | other => simp at hp
end
end Go.Proofs.YtpooehcjchkbkaaV
/- From what the interpreter hands back at all data of the parameters' types to the row's contract. -/
set_option linter.unusedVariables false
set_option linter.unusedSimpArgs false
namespace Go.Proofs.YtpooehcjchkbkaaV
open Go.RowKit
def ValOk (T : Tbl) (n : Nat) (t : TypeId) (d : D) : Prop := ∃ i cs, T.get t = some i ∧ d = mkD i cs ∧ cs.length = i.size ∧ CellOk T n t cs
def DsOk (T : Tbl) (n : Nat) : List TypeId → List D → Prop
  | [], [] => True
  | t :: ts, d :: ds => ValOk T n t d ∧ DsOk T n ts ds
  | _, _ => False
section
variable {H : Type} {enc : TypeId × Value → H} {P : Program} {T : Tbl} {w : World}
theorem open_val (hT : TOk P T) {n : Nat} {t : TypeId} {v : Value} {x : DataW H} {ps : List MemPlace} {r : Reach} {base : Nat} (hp : plainB T n t = true) (ho : Value.okWide P w r base t v)
    (h : DataW.Trod enc P w 0 (fun _ => true) true t v x ps) (hw : ∀ k ∈ x.weights P t, k ≤ reachBytes) : ∃ d, ValOk T n t d ∧ VRd w (fun b o => MemPlace.cell b o ∈ ps) d v := by
  obtain ⟨i, hi⟩ := plainB_get hp
  obtain ⟨m, hm⟩ := h
  obtain ⟨ds, g1, g2, g3, g4, g5, g6⟩ := open_cells hT n t i m _ x ps hp hi hm hw
  refine ⟨mkD i ds, ⟨i, ds, hi, rfl, g2, g6⟩, ?_⟩
  obtain ⟨u, hu, hk⟩ := (hT.ok hi).und
  unfold mkD
  cases ha : i.kind.agg with
  | true =>
    have hv : ∃ cs : Array Value, v = .agg cs := by
      unfold Value.okWide at ho
      rw [hu] at ho
      obtain ⟨kind, sz, by0, zero⟩ := i
      cases kind <;> simp only [TK.agg, Bool.false_eq_true] at ha <;> cases u <;> simp only [kindEq, Bool.false_eq_true] at hk
      · obtain ⟨cs, hv, _⟩ := ho; exact ⟨cs, hv⟩
      · obtain ⟨cs, hv, _⟩ := ho; exact ⟨cs, hv⟩
    obtain ⟨cs, rfl⟩ := hv
    simp only [if_true]
    have : VRd w (fun b o => MemPlace.cell b o ∈ ps) (.agg ds) (.agg cs.toList.toArray) := .agg ds cs.toList g1 g4 g3
    simpa using this
  | false =>
    obtain ⟨d, rfl, hd⟩ := g5 ha
    have hl : v.cells.toList.length = 1 := by simpa using g1.symm
    have hv : v.cells.toList = [v] := by
      cases v with
      | agg cs =>
        simp only [Value.cells] at hl g4 ⊢
        -- a value of one cell that is no aggregate's type
        unfold Value.okWide at ho
        rw [hu] at ho
        obtain ⟨kind, sz, by0, zero⟩ := i
        cases m with
        | zero => simp [DataW.trod] at hm
        | succ m =>
          exfalso
          unfold Cell.okWide at ho
          cases kind <;> simp only [TK.agg, Bool.true_eq_false] at ha <;> cases u <;> (try simp only [kindEq, Bool.false_eq_true] at hk) <;> (try simp [plainB, hi] at hp) <;> simp [hu, Cell.ok] at ho
      | _ => simp [Value.cells]
    have := g3 0 d v (by simp) (by rw [hv]; rfl)
    simpa using this
theorem open_all (hT : TOk P T) {n : Nat} {r : Reach} {base : Nat} : ∀ {ts : List TypeId} {vs : List Value} {xs : List (DataW H)} {ps : List MemPlace}, DataW.TrodAll enc P w 0 (fun _ => true) true ts vs xs ps → ts.all (plainB T n) = true →
    (∀ (j : Nat) (t : TypeId) (v : Value), ts[j]? = some t → vs[j]? = some v → Value.okWide P w r base t v) → (∀ k ∈ DataW.weightsEach P ts xs, k ≤ reachBytes) →
    ∃ ds : List D, ds.length = vs.length ∧ DsOk T n ts ds ∧ ∀ (j : Nat) (d : D) (v : Value), ds[j]? = some d → vs[j]? = some v → VRd w (fun b o => MemPlace.cell b o ∈ ps) d v
  | [], vs, xs, ps, h, _, _, _ => by
    cases vs <;> cases xs <;> simp [DataW.TrodAll] at h
    exact ⟨[], rfl, trivial, by simp⟩
  | t :: ts, vs, xs, ps, h, hp, ho, hw => by
    obtain ⟨v, vs', x, xs', p, q, rfl, rfl, rfl, h1, h2⟩ := ChangeShapes.trodAll_cons h
    simp only [List.all_cons, Bool.and_eq_true] at hp
    obtain ⟨d, hd, hv⟩ := open_val hT hp.1 (ho 0 t v rfl rfl) h1 fun k hk => hw k (by simp only [DataW.weightsEach, List.mem_append]; exact .inl hk)
    obtain ⟨ds, g1, g2, g3⟩ := open_all hT h2 hp.2 (fun j t v ht hv => ho (j + 1) t v (by simpa using ht) (by simpa using hv)) fun k hk => hw k (by simp only [DataW.weightsEach, List.mem_append]; exact .inr hk)
    refine ⟨d :: ds, by simp [g1], ⟨hd, g2⟩, fun j d' v' hd' hv' => ?_⟩
    cases j with
    | zero =>
      simp at hd' hv'; subst hd'; subst hv'
      exact hv.mono fun b o hb => ⟨List.mem_append_left _ hb, rfl⟩
    | succ j =>
      simp at hd' hv'
      exact (g3 j d' v' hd' hv').mono fun b o hb => ⟨List.mem_append_right _ hb, rfl⟩
theorem back_all (hl : laidOutB P = true) {W' : World} (bel : Below w.heap.size w W') : ∀ {ts : List TypeId} {vs : List Value} {xs : List (DataW H)} {ps : List MemPlace}, DataW.TrodAll enc P w 0 (fun _ => true) true ts vs xs ps →
    (ts.all fun t => P.readableRec t && decide (t < P.types.size)) = true → DataW.TrodAll enc P W' 0 (fun b => decide (b < w.heap.size)) true ts vs xs ps
  | [], vs, xs, ps, h, _ => by
    cases vs <;> cases xs <;> simp [DataW.TrodAll] at h
    subst h; simp [DataW.TrodAll]
  | t :: ts, vs, xs, ps, h, hr => by
    obtain ⟨v, vs', x, xs', p, q, rfl, rfl, rfl, h1, h2⟩ := ChangeShapes.trodAll_cons h
    simp only [List.all_cons, Bool.and_eq_true, decide_eq_true_eq] at hr
    refine ⟨p, q, Below.trod hl hr.1.1 hr.1.2 h1 bel ?_, back_all hl bel h2 hr.2, rfl⟩
    obtain ⟨m, hm⟩ := h1
    exact DataW.trod_lt m _ _ _ hm
theorem places_lt : ∀ {ts : List TypeId} {vs : List Value} {xs : List (DataW H)} {ps : List MemPlace}, DataW.TrodAll enc P w 0 (fun _ => true) true ts vs xs ps → ∀ p ∈ ps, p.block < w.heap.size
  | [], vs, xs, ps, h => by
    cases vs <;> cases xs <;> simp [DataW.TrodAll] at h
    subst h; simp
  | t :: ts, vs, xs, ps, h => by
    obtain ⟨v, vs', x, xs', p, q, rfl, rfl, rfl, h1, h2⟩ := ChangeShapes.trodAll_cons h
    intro z hz
    rcases List.mem_append.1 hz with hz | hz
    · obtain ⟨m, hm⟩ := h1
      exact DataW.trod_lt m _ _ _ hm z hz
    · exact places_lt h2 z hz
theorem law_contract (hT : TOk P T) {n : Nat} {f : FuncId} {fn : Func} {s : ChangeSpec} {ts : List TypeId} {rt : TypeId} (hts : fn.params.toList = ts) (hp : ts.all (plainB T n) = true) (hl : laidOutB P = true) (hr : (ts.all fun t => P.readableRec t && decide (t < P.types.size)) = true)
    (hrt : fn.resultTypes = #[rt]) (hrb : P.underlying rt = some .bool) (hvars : s.vars = []) (hfn : ∀ ds : List (DataW H), ds.length = ts.length → s.fn H ds = { results := [.lit (.bool true)], args := ds })
    (hG : ∀ ds, DsOk T n ts ds → Good P f (ds.map AV.d) [] (.d (.bool true)) [])
    (W : World) (base : Nat) (args : Array Value) (xs gs : List (DataW H)) (before : List MemPlace)
    (hval : ∀ (j : Nat) t v, fn.params[j]? = some t → args[j]? = some v → Value.okWide P W .any base t v)
    (hW : DataW.Whole enc P fn.params.toList s.vars false W args.toList xs gs before)
    (hsz : (DataW.weightsEach P (fn.params.toList ++ s.plain.varTypes P) (xs ++ gs)).all (· ≤ reachBytes) = true) (hf7 : f ≠ 1000000007 := by decide) :
    Calls P f args W fun e W' => ∃ v, e = .returned v ∧ s.post enc P fn false true false false W args v W' := by
  have hW' := hW
  obtain ⟨p, q, hA, hV, rfl, hfz, hnd⟩ := hW
  rw [hvars] at hV
  have hgs : gs = [] ∧ q = [] := by
    cases gs with
    | nil => simp [DataW.TrodVars] at hV; exact ⟨rfl, hV⟩
    | cons g gs => simp [DataW.TrodVars] at hV
  obtain ⟨rfl, rfl⟩ := hgs
  rw [hts] at hA
  have hvt : s.plain.varTypes P = [] := by simp [ChangeSpec.plain, DataSpec.varTypes, hvars]
  rw [hvt, List.append_nil, List.append_nil, hts, List.all_eq_true] at hsz
  obtain ⟨ds, g1, g2, g3⟩ := open_all hT hA hp (fun j t v ht hv => hval j t v (by rw [← Array.getElem?_toList, hts]; exact ht) (by rw [← Array.getElem?_toList]; exact hv)) (fun k hk => by simpa using hsz k hk)
  have hlen : xs.length = ts.length := by
    have : ∀ {ts : List TypeId} {vs : List Value} {xs : List (DataW H)} {ps : List MemPlace}, DataW.TrodAll enc P W 0 (fun _ => true) true ts vs xs ps → xs.length = ts.length := by
      intro ts
      induction ts with
      | nil => intro vs xs ps h; cases vs <;> cases xs <;> simp [DataW.TrodAll] at h ⊢
      | cons t ts ih =>
        intro vs xs ps h
        obtain ⟨v, vs', x, xs', p, q, rfl, rfl, rfl, h1, h2⟩ := ChangeShapes.trodAll_cons h
        simp [ih h2]
    exact this hA
  have hS : StoR P (fun _ => False) (obL []) ([] : List AObj).length W (fun b o => MemPlace.cell b o ∈ p) (fun _ => 0) (fun _ => undef) :=
    ⟨fun o => trivial, fun o _ => rfl, fun o o' b _ h _ => (by cases h), fun b o hb => places_lt hA _ hb⟩
  have := (hG ds g2).calls W (fun b o => MemPlace.cell b o ∈ p) (fun _ => False) (fun _ => 0) (fun _ => undef) args.toList hS (fun b hb => hb.elim) (by simpa using g1) (fun i x v hx hv => by
    rw [List.getElem?_map] at hx
    obtain ⟨d, hd, rfl⟩ := Option.map_eq_some_iff.1 hx
    exact ⟨.d d v (g3 i d v hd hv), trivial⟩)
  have this := (this.fn hf7).2
  rw [Array.toArray_toList] at this
  refine this.mono fun e W' ⟨v, I', μ', ν', he, _, hv, _, _, _, hk, _⟩ => ⟨v, he, ?_⟩
  have bel : Below W.heap.size W W' := ⟨hk.os, hk.tape, hk.output, hk.size, fun k hk' => hk.block k hk' (fun h => h)⟩
  have hvv : v = .bool true := by
    cases hv with
    | d _ _ hd => cases hd; rfl
  subst hvv
  refine ⟨xs, [], _, [], p, [], hW', ?_, ?_, ?_, bel.frame _, fun h => by cases h⟩
  · rw [List.append_nil, hfn xs hlen, hrt]
    exact ChangeShapes.trodAll_mk1 (shut_bool hrb _)
  · rw [List.append_nil, hfn xs hlen, hts]
    exact back_all hl bel hA hr
  · rw [hvars, List.append_nil, hfn xs hlen]
    simp [DataW.TrodVars]
end
end Go.Proofs.YtpooehcjchkbkaaV
/- '==' of structs whose fields are numbers, truth values and strings. -/
set_option linter.unusedVariables false
set_option linter.unusedSimpArgs false
namespace Go.Proofs.YtpooehcjchkbkaaV
open Go.RowKit
def ekB (P : Program) (t : TypeId) (k : EK) : Bool := match k, P.underlying t with
  | .int q, some (.int q') => decide (q = q')
  | .bool, some .bool => true
  | .str, some .string => true
  | _, _ => false
def flatB (P : Program) : Nat → List Field → List EK → Bool
  | _, [], [] => true
  | n, f :: fs, k :: ks => f.name != "_" && f.offset == n && ekB P f.type k && flatB P (n + 1) fs ks
  | _, _, _ => false
def eqB (P : Program) (t : TypeId) (ks : List EK) : Bool :=
  (match P.underlying t with | some (.struct fs) => flatB P 0 fs.toList ks | _ => false) && !P.stoodInHeld t && !P.eqGuardType P.depth t
def D.eq1 : D → D → Option Bool
  | .int _ a, .int _ b => some (a == b)
  | .bool a, .bool b => some (a == b)
  | .str a, .str b => some (a.toList == b.toList)
  | _, _ => none
theorem eqCells_cons {k : EK} {x y : D} {xs ys : List D} {ks : List EK} {r : Bool} (h1 : k.has x = true) (h2 : k.has y = true) (hx : EK.hasAll ks xs = true) (hy : EK.hasAll ks ys = true) (h : eqCells (x :: xs) (y :: ys) = some r) : ∃ b r', x.eq1 y = some b ∧ eqCells xs ys = some r' ∧ r = (b && r') := by
  cases xs with
  | nil =>
    cases ks with
    | cons _ _ => simp [EK.hasAll] at hx
    | nil =>
      cases ys with
      | cons _ _ => simp [EK.hasAll] at hy
      | nil =>
        cases k <;> cases x <;> simp [EK.has] at h1 <;> cases y <;> simp [EK.has] at h2 <;> simp [eqCells, D.eq1] at h ⊢ <;> simp [h]
  | cons x' xs =>
    cases ys with
    | nil => cases ks <;> simp [EK.hasAll] at hx hy
    | cons y' ys =>
      cases k <;> cases x <;> simp [EK.has] at h1 <;> cases y <;> simp [EK.has] at h2 <;> simp only [eqCells, Option.map_eq_some_iff] at h <;> obtain ⟨r', h3, h4⟩ := h <;> exact ⟨_, r', rfl, h3, h4.symm⟩
theorem eq1_run {P : Program} {t : TypeId} {k : EK} {x y : D} {b : Bool} (ht : ekB P t k = true) (h1 : k.has x = true) (h2 : k.has y = true) (h : x.eq1 y = some b) (d : Nat) (w : World) : (Op.equalIn (d + 1) t x.lit y.lit).run P w = .ok b w ∧ (isAgg t).run P w = .ok false w := by
  unfold ekB at ht
  cases k with
  | int q =>
    cases x <;> simp [EK.has] at h1
    cases y <;> simp [EK.has] at h2
    cases hu : P.underlying t with
    | none => simp [hu] at ht
    | some u =>
      cases u <;> simp [hu] at ht
      subst ht h1 h2
      simp [D.eq1] at h
      subst h
      exact ⟨by simp [Op.equalIn, run_underlying hu, D.lit], by unfold Go.isAgg; rw [Sem.run_bind, run_underlying hu w]; rfl⟩
  | bool =>
    cases x <;> simp [EK.has] at h1
    cases y <;> simp [EK.has] at h2
    cases hu : P.underlying t with
    | none => simp [hu] at ht
    | some u =>
      cases u <;> simp [hu] at ht
      simp [D.eq1] at h
      subst h
      exact ⟨by simp [Op.equalIn, run_underlying hu, D.lit], by unfold Go.isAgg; rw [Sem.run_bind, run_underlying hu w]; rfl⟩
  | str =>
    cases x <;> simp [EK.has] at h1
    cases y <;> simp [EK.has] at h2
    cases hu : P.underlying t with
    | none => simp [hu] at ht
    | some u =>
      cases u <;> simp [hu] at ht
      simp only [D.eq1, Option.some.injEq] at h
      subst h
      exact ⟨by simp [Op.equalIn, run_underlying hu, D.lit, beq_toListBytes], by unfold Go.isAgg; rw [Sem.run_bind, run_underlying hu w]; rfl⟩
theorem eqFields_flat {P : Program} (d : Nat) (w : World) (X Y : Array Value) : ∀ (fs : List Field) (ks : List EK) (n : Nat) (xs ys : List D) (r : Bool), flatB P n fs ks = true → EK.hasAll ks xs = true → EK.hasAll ks ys = true →
    (∀ i, X[n + i]? = (xs.map D.lit)[i]?) → (∀ i, Y[n + i]? = (ys.map D.lit)[i]?) → eqCells xs ys = some r → (Op.eqFields (d + 1) X Y fs).run P w = .ok r w
  | [], [], n, xs, ys, r, _, hx, hy, _, _, h => by
    cases xs <;> simp [EK.hasAll] at hx
    cases ys <;> simp [EK.hasAll] at hy
    simp [eqCells] at h
    subst h
    simp [Op.eqFields]
  | f :: fs, k :: ks, n, xs, ys, r, hf, hx, hy, hX, hY, h => by
    simp only [flatB, Bool.and_eq_true, bne_iff_ne, ne_eq, beq_iff_eq] at hf
    obtain ⟨⟨⟨f1, f2⟩, f3⟩, f4⟩ := hf
    cases xs with
    | nil => simp [EK.hasAll] at hx
    | cons x xs =>
      cases ys with
      | nil => simp [EK.hasAll] at hy
      | cons y ys =>
        simp only [EK.hasAll, Bool.and_eq_true] at hx hy
        obtain ⟨b, r', g1, g2, rfl⟩ := eqCells_cons hx.1 hy.1 hx.2 hy.2 h
        obtain ⟨k1, k2⟩ := eq1_run f3 hx.1 hy.1 g1 d w
        have hx0 : X[n]? = some x.lit := by simpa using hX 0
        have hy0 : Y[n]? = some y.lit := by simpa using hY 0
        have p1 : (part f.type X f.offset).run P w = .ok x.lit w := by simp [part, k2, f2, hx0]
        have p2 : (part f.type Y f.offset).run P w = .ok y.lit w := by simp [part, k2, f2, hy0]
        have ih := eqFields_flat d w X Y fs ks (n + 1) xs ys r' f4 hx.2 hy.2 (fun i => by
          have := hX (i + 1)
          rw [show n + (i + 1) = n + 1 + i by omega] at this
          simpa using this) (fun i => by
          have := hY (i + 1)
          rw [show n + (i + 1) = n + 1 + i by omega] at this
          simpa using this) g2
        simp only [Op.eqFields, ne_eq, f1, not_false_eq_true, if_true, Sem.run_bind, p1, p2, k1, Result.andThen_ok]
        cases b with
        | true => simpa using ih
        | false => simp
  | [], _ :: _, n, xs, ys, r, hf, _, _, _, _, _ => by simp [flatB] at hf
  | _ :: _, [], n, xs, ys, r, hf, _, _, _, _, _ => by simp [flatB] at hf
theorem eqOk_flat {P : Program} {t : TypeId} {ks : List EK} (h : eqB P t ks = true) : EqOk P t ks := by
  unfold eqB at h
  simp only [Bool.and_eq_true, Bool.not_eq_true'] at h
  obtain ⟨⟨h1, h2⟩, h3⟩ := h
  cases hu : P.underlying t with
  | none => simp [hu] at h1
  | some u =>
    cases u <;> simp [hu] at h1
    rename_i fs
    have hfo : P.fieldsOf t = fs := by simp [Program.fieldsOf, hu]
    refine ⟨fun xs ys r w hx hy he => ?_, h3⟩
    show (Op.equalIn (9999 + 1) t _ _).run P w = _
    rw [run_equalIn_struct w 9999 t _ _ (by rw [hfo]; exact hu) h2, hfo]
    exact eqFields_flat 9998 w _ _ fs.toList ks 0 xs ys r h1 hx hy (fun i => by simp) (fun i => by simp) he
end Go.Proofs.YtpooehcjchkbkaaV
/- '==' of structs whose fields are numbers, truth values, strings, or such structs. -/
set_option linter.unusedVariables false
set_option linter.unusedSimpArgs false
namespace Go.Proofs.YtpooehcjchkbkaaV
open Go.RowKit
def fieldsN (P : Program) (rec : TypeId → List EK → Bool) : Nat → List Field → List EK → Bool
  | _, [], ks => ks.isEmpty
  | n, f :: fs, ks => f.name != "_" && f.offset == n && (match P.info? f.type with
    | some i => ((match ks with | [] => false | k :: r => ekB P f.type k && fieldsN P rec (n + 1) fs r) || (rec f.type (ks.take i.size) && fieldsN P rec (n + i.size) fs (ks.drop i.size)))
    | none => false)
def nestB (P : Program) : Nat → TypeId → List EK → Bool
  | 0 => fun _ _ => false
  | m + 1 => fun t ks => (match P.underlying t with | some (.struct fs) => fieldsN P (nestB P m) 0 fs.toList ks | _ => false) && !P.stoodInHeld t
theorem eqCells_cons_eq {k : EK} {x y : D} {xs ys : List D} {ks : List EK} (h1 : k.has x = true) (h2 : k.has y = true) (hx : EK.hasAll ks xs = true) (hy : EK.hasAll ks ys = true) : ∃ b, x.eq1 y = some b ∧ eqCells (x :: xs) (y :: ys) = (eqCells xs ys).map (b && ·) := by
  cases xs with
  | nil =>
    cases ks with
    | cons _ _ => simp [EK.hasAll] at hx
    | nil =>
      cases ys with
      | cons _ _ => simp [EK.hasAll] at hy
      | nil => cases k <;> cases x <;> simp [EK.has] at h1 <;> cases y <;> simp [EK.has] at h2 <;> simp [eqCells, D.eq1]
  | cons x' xs =>
    cases ys with
    | nil => cases ks <;> simp [EK.hasAll] at hx hy
    | cons y' ys => cases k <;> cases x <;> simp [EK.has] at h1 <;> cases y <;> simp [EK.has] at h2 <;> exact ⟨_, rfl, rfl⟩
theorem eqCells_split : ∀ (n : Nat) (ks : List EK) (xs ys : List D), EK.hasAll ks xs = true → EK.hasAll ks ys = true → eqCells xs ys = (eqCells (xs.take n) (ys.take n)).bind fun a => (eqCells (xs.drop n) (ys.drop n)).map (a && ·)
  | 0, ks, xs, ys, _, _ => by simp [eqCells]
  | n + 1, [], [], [], _, _ => by simp [eqCells]
  | n + 1, k :: ks, x :: xs, y :: ys, hx, hy => by
    simp only [EK.hasAll, Bool.and_eq_true] at hx hy
    obtain ⟨b, _, hb⟩ := eqCells_cons_eq hx.1 hy.1 hx.2 hy.2
    have ht : ∀ (ks : List EK) (xs : List D) (n : Nat), EK.hasAll ks xs = true → EK.hasAll (ks.take n) (xs.take n) = true := by
      intro ks
      induction ks with
      | nil => intro xs n h; cases xs <;> simp [EK.hasAll] at h ⊢
      | cons k ks ih =>
        intro xs n h
        cases xs with
        | nil => simp [EK.hasAll] at h
        | cons x xs =>
          simp only [EK.hasAll, Bool.and_eq_true] at h
          cases n with
          | zero => simp [EK.hasAll]
          | succ n => simp only [List.take_succ_cons, EK.hasAll, Bool.and_eq_true]; exact ⟨h.1, ih xs n h.2⟩
    obtain ⟨b', hb1, hb'⟩ := eqCells_cons_eq hx.1 hy.1 (ht ks xs n hx.2) (ht ks ys n hy.2)
    have : b' = b := by
      rename_i hb0
      rw [hb0] at hb1; injection hb1 with hb1; exact hb1.symm
    subst this
    rw [hb, eqCells_split n ks xs ys hx.2 hy.2]
    simp only [List.take_succ_cons, List.drop_succ_cons, hb']
    cases eqCells (xs.take n) (ys.take n) with
    | none => rfl
    | some a =>
      cases eqCells (xs.drop n) (ys.drop n) with
      | none => rfl
      | some c => simp [Bool.and_assoc]
  | n + 1, [], x :: xs, ys, hx, _ => by simp [EK.hasAll] at hx
  | n + 1, [], [], y :: ys, _, hy => by simp [EK.hasAll] at hy
  | n + 1, k :: ks, [], ys, hx, _ => by simp [EK.hasAll] at hx
  | n + 1, k :: ks, x :: xs, [], _, hy => by simp [EK.hasAll] at hy
theorem hasAll_take : ∀ (ks : List EK) (xs : List D) (n : Nat), EK.hasAll ks xs = true → EK.hasAll (ks.take n) (xs.take n) = true ∧ EK.hasAll (ks.drop n) (xs.drop n) = true
  | [], [], n, _ => by simp [EK.hasAll]
  | k :: ks, x :: xs, 0, h => by simpa [EK.hasAll] using h
  | k :: ks, x :: xs, n + 1, h => by
    simp only [EK.hasAll, Bool.and_eq_true] at h
    have := hasAll_take ks xs n h.2
    simp only [List.take_succ_cons, List.drop_succ_cons, EK.hasAll, Bool.and_eq_true]
    exact ⟨⟨h.1, this.1⟩, this.2⟩
  | [], _ :: _, n, h => by simp [EK.hasAll] at h
  | _ :: _, [], n, h => by simp [EK.hasAll] at h
def StrEq (P : Program) (d : Nat) (t : TypeId) (ks : List EK) : Prop :=
  ∀ (xs ys : List D) (r : Bool) (w : World), EK.hasAll ks xs = true → EK.hasAll ks ys = true → eqCells xs ys = some r → (Op.equalIn d t (.agg (xs.map D.lit).toArray) (.agg (ys.map D.lit).toArray)).run P w = .ok r w
theorem extract_eq {X : Array Value} {n sz : Nat} {xs : List D} (hX : ∀ i, X[n + i]? = (xs.map D.lit)[i]?) : X.extract n (n + sz) = ((xs.take sz).map D.lit).toArray := by
  apply Array.ext_getElem?
  intro i
  rw [Array.getElem?_extract]
  have := hX i
  rw [List.getElem?_map] at this
  simp only [List.getElem?_toArray, List.getElem?_map, List.getElem?_take]
  by_cases h1 : i < sz
  · simp only [h1, if_true]
    split
    · exact this
    · rename_i h2
      rw [← this]
      exact (Array.getElem?_eq_none (by omega)).symm
  · simp only [h1, if_false, Option.map_none]
    rw [if_neg (by omega)]
theorem fieldsN_ok {P : Program} {d : Nat} {rec : TypeId → List EK → Bool} (hrec : ∀ t ks, rec t ks = true → StrEq P (d + 1) t ks ∧ ∃ fs, P.underlying t = some (.struct fs)) (X Y : Array Value) (w : World) : ∀ (fs : List Field) (ks : List EK) (n : Nat) (xs ys : List D) (r : Bool), fieldsN P rec n fs ks = true → EK.hasAll ks xs = true → EK.hasAll ks ys = true →
    (∀ i, X[n + i]? = (xs.map D.lit)[i]?) → (∀ i, Y[n + i]? = (ys.map D.lit)[i]?) → eqCells xs ys = some r → (Op.eqFields (d + 1) X Y fs).run P w = .ok r w
  | [], ks, n, xs, ys, r, hf, hx, hy, _, _, h => by
    simp only [fieldsN, List.isEmpty_iff] at hf
    subst hf
    cases xs <;> simp [EK.hasAll] at hx
    cases ys <;> simp [EK.hasAll] at hy
    simp [eqCells] at h
    subst h
    simp [Op.eqFields]
  | f :: fs, ks, n, xs, ys, r, hf, hx, hy, hX, hY, h => by
    simp only [fieldsN, Bool.and_eq_true, bne_iff_ne, ne_eq, beq_iff_eq] at hf
    obtain ⟨⟨f1, f2⟩, hf⟩ := hf
    split at hf <;> first | (cases hf; done) | skip
    rename_i i hi
    rw [Bool.or_eq_true] at hf
    rcases hf with hf | hf
    · split at hf <;> first | (cases hf; done) | skip
      rename_i k ks'
      rw [Bool.and_eq_true] at hf
      obtain ⟨f3, f4⟩ := hf
      cases xs with
      | nil => simp [EK.hasAll] at hx
      | cons x xs =>
        cases ys with
        | nil => simp [EK.hasAll] at hy
        | cons y ys =>
          simp only [EK.hasAll, Bool.and_eq_true] at hx hy
          obtain ⟨b, r', g1, g2, rfl⟩ := eqCells_cons hx.1 hy.1 hx.2 hy.2 h
          obtain ⟨k1, k2⟩ := eq1_run f3 hx.1 hy.1 g1 d w
          have hx0 : X[n]? = some x.lit := by simpa using hX 0
          have hy0 : Y[n]? = some y.lit := by simpa using hY 0
          have p1 : (part f.type X f.offset).run P w = .ok x.lit w := by simp [part, k2, f2, hx0]
          have p2 : (part f.type Y f.offset).run P w = .ok y.lit w := by simp [part, k2, f2, hy0]
          have ih := fieldsN_ok hrec X Y w fs ks' (n + 1) xs ys r' f4 hx.2 hy.2 (fun i => by
            have := hX (i + 1)
            rw [show n + (i + 1) = n + 1 + i by omega] at this
            simpa using this) (fun i => by
            have := hY (i + 1)
            rw [show n + (i + 1) = n + 1 + i by omega] at this
            simpa using this) g2
          simp only [Op.eqFields, ne_eq, f1, not_false_eq_true, if_true, Sem.run_bind, p1, p2, k1, Result.andThen_ok]
          cases b with
          | true => simpa using ih
          | false => simp
    · rw [Bool.and_eq_true] at hf
      obtain ⟨f3, f4⟩ := hf
      obtain ⟨hs, fs', hu⟩ := hrec _ _ f3
      have hag : (isAgg f.type).run P w = .ok true w := by unfold Go.isAgg; rw [Sem.run_bind, run_underlying hu w]; rfl
      have hsz : (sizeOf f.type).run P w = .ok i.size w := by simp [Go.sizeOf, typeInfo, hi]
      have p1 : (part f.type X f.offset).run P w = .ok (.agg ((xs.take i.size).map D.lit).toArray) w := by
        rw [← extract_eq hX]; simp [part, hag, hsz, f2]
      have p2 : (part f.type Y f.offset).run P w = .ok (.agg ((ys.take i.size).map D.lit).toArray) w := by
        rw [← extract_eq hY]; simp [part, hag, hsz, f2]
      rw [eqCells_split i.size ks xs ys hx hy] at h
      obtain ⟨tx, dx⟩ := hasAll_take ks xs i.size hx
      obtain ⟨ty, dy⟩ := hasAll_take ks ys i.size hy
      cases hb : eqCells (xs.take i.size) (ys.take i.size) with
      | none => rw [hb] at h; cases h
      | some b =>
        rw [hb] at h
        simp only [Option.bind_some, Option.map_eq_some_iff] at h
        obtain ⟨r', g2, rfl⟩ := h
        have k1 := hs _ _ b w tx ty hb
        have ih := fieldsN_ok hrec X Y w fs (ks.drop i.size) (n + i.size) (xs.drop i.size) (ys.drop i.size) r' f4 dx dy (fun j => by
          have := hX (i.size + j)
          rw [show n + (i.size + j) = n + i.size + j by omega] at this
          rw [this]; simp [List.getElem?_drop]) (fun j => by
          have := hY (i.size + j)
          rw [show n + (i.size + j) = n + i.size + j by omega] at this
          rw [this]; simp [List.getElem?_drop]) g2
        simp only [Op.eqFields, ne_eq, f1, not_false_eq_true, if_true, Sem.run_bind, p1, p2, k1, Result.andThen_ok]
        cases b with
        | true => simpa using ih
        | false => simp
theorem nest_ok {P : Program} : ∀ (m : Nat) (d : Nat) (t : TypeId) (ks : List EK), m < d → nestB P m t ks = true → StrEq P d t ks ∧ ∃ fs, P.underlying t = some (.struct fs)
  | 0, d, t, ks, _, h => by cases h
  | m + 1, d, t, ks, hd, h => by
    simp only [nestB, Bool.and_eq_true, Bool.not_eq_true'] at h
    obtain ⟨h1, h2⟩ := h
    cases hu : P.underlying t with
    | none => simp [hu] at h1
    | some u =>
      cases u <;> simp [hu] at h1
      rename_i fs
      have hfo : P.fieldsOf t = fs := by simp [Program.fieldsOf, hu]
      refine ⟨fun xs ys r w hx hy he => ?_, fs, rfl⟩
      obtain ⟨d', rfl⟩ : ∃ d', d = d' + 1 + 1 := ⟨d - 2, by omega⟩
      rw [run_equalIn_struct w (d' + 1) t _ _ (by rw [hfo]; exact hu) h2, hfo]
      exact fieldsN_ok (fun t ks h => nest_ok m (d' + 1) t ks (by omega) h) _ _ w fs.toList ks 0 xs ys r h1 hx hy (fun i => by simp) (fun i => by simp) he
theorem eqOk_nest {P : Program} {t : TypeId} {ks : List EK} (m : Nat) (hm : m < 9999) (h : nestB P m t ks = true) (hg : P.eqGuardType P.depth t = false) : EqOk P t ks :=
  ⟨fun xs ys r w hx hy he => (nest_ok m 10000 t ks (by omega) h).1 xs ys r w hx hy he, hg⟩
end Go.Proofs.YtpooehcjchkbkaaV
/- Maps: what is found, and what a put leaves. -/
set_option linter.unusedVariables false
set_option linter.unusedSimpArgs false
namespace Go.Proofs.YtpooehcjchkbkaaV
open Go.RowKit
structure KeyEnc (α : Type) where
  f : α → D
  eqb : α → α → Bool
  same : ∀ a b, sameD (f a) (f b) = some (eqb a b)
  eq : ∀ a b, eqb a b = true ↔ a = b
def strK : KeyEnc ByteArray := ⟨D.str, eqS, fun a b => by simp only [sameD, eqS, beq_toListBytes], eqS_iff⟩
def intK (k : IntKind) : KeyEnc Int := ⟨D.int k, fun a b => a == b, fun a b => by simp [sameD], fun a b => by simp⟩
section
variable {α β : Type} (E : KeyEnc α) (g : β → D)
def mapD (m : List (α × β)) : List (D × D) := m.map fun p => (E.f p.1, g p.2)
def lookP (k : α) : List (α × β) → Option β
  | [] => none
  | (q, v) :: r => if E.eqb k q = true then some v else lookP k r
def idxP (k : α) : List (α × β) → Nat
  | [] => 0
  | (q, v) :: r => if E.eqb k q = true then 0 else idxP k r + 1
def putP (k : α) (v : β) : List (α × β) → List (α × β)
  | [] => [(k, v)]
  | (q, u) :: r => if E.eqb k q = true then (k, v) :: r else (q, u) :: putP k v r
theorem findD_look (k : α) : ∀ (m : List (α × β)) (n : Nat), findD (E.f k) (mapD E g m) n = some ((lookP E k m).map fun v => (n + idxP E k m, g v))
  | [], n => rfl
  | (q, v) :: r, n => by
    have ih := findD_look k r (n + 1)
    simp only [mapD, List.map_cons, findD, E.same] at ih ⊢
    cases h : E.eqb k q with
    | true => simp [lookP, idxP, h]
    | false =>
      simp only [lookP, idxP, h, Bool.false_eq_true, if_false]
      rw [ih]
      cases lookP E k r with
      | none => rfl
      | some v => simp; omega
theorem putE_put (k : α) (v : β) (m : List (α × β)) : putE (E.f k) (g v) (mapD E g m) (findD (E.f k) (mapD E g m) 0) = some (mapD E g (putP E k v m)) := by
  rw [findD_look]
  have key : ∀ (m : List (α × β)), (lookP E k m = none → mapD E g m ++ [(E.f k, g v)] = mapD E g (putP E k v m)) ∧ ∀ u, lookP E k m = some u → (mapD E g m).set (idxP E k m) (E.f k, g v) = mapD E g (putP E k v m) := by
    intro m
    induction m with
    | nil => exact ⟨fun _ => rfl, fun u h => by cases h⟩
    | cons p r ih =>
      obtain ⟨q, u⟩ := p
      cases h : E.eqb k q with
      | true => simp [lookP, idxP, putP, mapD, h]
      | false =>
        simp only [lookP, idxP, putP, mapD, h, Bool.false_eq_true, if_false, List.map_cons, List.cons_append, List.set_cons_succ, List.cons.injEq, true_and]
        exact ih
  cases h : lookP E k m with
  | none => simp only [Option.map_none, putE]; rw [(key m).1 h]
  | some u => simp only [Option.map_some, putE, Nat.zero_add]; rw [(key m).2 u h]
theorem look_put (k q : α) (v : β) : ∀ (m : List (α × β)), lookP E q (putP E k v m) = if E.eqb q k = true then some v else lookP E q m
  | [] => by simp [putP, lookP]
  | (p, u) :: r => by
    have ih := look_put k q v r
    cases h : E.eqb k p with
    | true =>
      have e : k = p := (E.eq k p).1 h
      subst e
      simp only [putP, h, if_true, lookP]
      cases E.eqb q k <;> rfl
    | false =>
      simp only [putP, h, Bool.false_eq_true, if_false, lookP, ih]
      cases h2 : E.eqb q p with
      | false => rfl
      | true =>
        have e : q = p := (E.eq q p).1 h2
        subst e
        have : E.eqb q k = false := by
          cases h3 : E.eqb q k with
          | false => rfl
          | true =>
            have := (E.eq q k).1 h3
            subst this
            rw [(E.eq q q).2 rfl] at h; cases h
        rw [this]; rfl
end
end Go.Proofs.YtpooehcjchkbkaaV
/- Helpers for loops over a list: what stands at an index. -/
set_option linter.unusedVariables false
set_option linter.unusedSimpArgs false
namespace Go.Proofs.YtpooehcjchkbkaaV
open Go.RowKit
theorem atL {α : Type} (enc : α → D) {l pre suf : List α} {c : α} (h : pre ++ c :: suf = l) (hl : l.length < 4611686018427387904) :
    l.length = pre.length + (suf.length + 1) ∧ IntKind.i64.wrap ((pre.length : Int) + 1) = (pre.length : Int) + 1 ∧ (l.map enc)[pre.length]? = some (enc c) ∧ pre.length < l.length ∧ l[pre.length]? = some c ∧ l.drop (pre.length + 1) = suf := by
  subst h
  refine ⟨by simp, wrap64 (by omega) (by simp at hl; omega), by simp, by simp, by simp, by simp [List.drop_append]⟩
theorem getL {α : Type} {l : List α} {i : Nat} {c : α} (h : l[i]? = some c) (h' : i < l.length) : l[i] = c := (List.getElem?_eq_some_iff.1 h).2
theorem endL {α : Type} {l pre : List α} (h : pre ++ [] = l) : l.length = pre.length := by rw [← h]; simp
theorem atN {α : Type} (enc : α → D) {l : List α} {i : Nat} {c : α} (h : l[i]? = some c) (hl : l.length < 4611686018427387904) :
    i < l.length ∧ IntKind.i64.wrap ((i : Int) + 1) = (i : Int) + 1 ∧ (l.map enc)[i]? = some (enc c) := by
  have h1 : i < l.length := (List.getElem?_eq_some_iff.1 h).1
  exact ⟨h1, wrap64 (by omega) (by omega), by rw [List.getElem?_map, h]; rfl⟩
theorem takeM {α β : Type} (f : α → β) (l : List α) : (l.map f).take l.length = l.map f := List.take_of_length_le (by simp)
end Go.Proofs.YtpooehcjchkbkaaV
/- Arguments, opened: numbers, strings, bools, lists. -/
set_option linter.unusedVariables false
set_option linter.unusedSimpArgs false
namespace Go.Proofs.YtpooehcjchkbkaaV
open Go.RowKit
theorem valInt {T : Tbl} {n : Nat} {t : TypeId} {k : IntKind} {sz b : Nat} {z : List AV} (hT : T.get t = some ⟨.int k, sz, b, z⟩) {d : D} (h : ValOk T (n + 1) t d) : ∃ m, d = .int k m ∧ (Lit.int k m).wf = true := by
  obtain ⟨i, cs, hi, rfl, hlen, hc⟩ := h
  rw [hT] at hi
  injection hi with hi; subst hi
  simp only [CellOk, hT] at hc
  obtain ⟨m, rfl, hm⟩ := hc
  exact ⟨m, rfl, hm⟩
theorem valStr {T : Tbl} {n : Nat} {t : TypeId} {sz b : Nat} {z : List AV} (hT : T.get t = some ⟨.str, sz, b, z⟩) {d : D} (h : ValOk T (n + 1) t d) : ∃ s, d = .str s ∧ s.size ≤ 140737488351232 := by
  obtain ⟨i, cs, hi, rfl, hlen, hc⟩ := h
  rw [hT] at hi
  injection hi with hi; subst hi
  simp only [CellOk, hT] at hc
  obtain ⟨m, rfl, hm⟩ := hc
  exact ⟨m, rfl, hm⟩
theorem valBool {T : Tbl} {n : Nat} {t : TypeId} {sz b : Nat} {z : List AV} (hT : T.get t = some ⟨.bool, sz, b, z⟩) {d : D} (h : ValOk T (n + 1) t d) : ∃ s, d = .bool s := by
  obtain ⟨i, cs, hi, rfl, hlen, hc⟩ := h
  rw [hT] at hi
  injection hi with hi; subst hi
  simp only [CellOk, hT] at hc
  obtain ⟨m, rfl⟩ := hc
  exact ⟨m, rfl⟩
theorem wf_u8 {m : Int} (h : (Lit.int .u8 m).wf = true) : 0 ≤ m ∧ m < 256 := by
  simp [Lit.wf, IntKind.min, IntKind.max, IntKind.bits, IntKind.signed] at h; omega
theorem wf_i64 {m : Int} (h : (Lit.int .i64 m).wf = true) : -9223372036854775808 ≤ m ∧ m < 9223372036854775808 := by
  simp [Lit.wf, IntKind.min, IntKind.max, IntKind.bits, IntKind.signed] at h; omega
theorem wf_i8 {m : Int} (h : (Lit.int .i8 m).wf = true) : -128 ≤ m ∧ m < 128 := by
  simp [Lit.wf, IntKind.min, IntKind.max, IntKind.bits, IntKind.signed] at h; omega
theorem openList {α : Type} (enc : α → D) (P : α → Prop) : ∀ els : List D, (∀ el ∈ els, ∃ x, el = enc x ∧ P x) → ∃ l : List α, els = l.map enc ∧ ∀ x ∈ l, P x
  | [], _ => ⟨[], rfl, by simp⟩
  | e :: els, h => by
    obtain ⟨x, rfl, hx⟩ := h e (by simp)
    obtain ⟨l, rfl, hl⟩ := openList enc P els fun el hel => h el (by simp [hel])
    exact ⟨x :: l, rfl, fun y hy => by rcases List.mem_cons.1 hy with rfl | hy; exact hx; exact hl y hy⟩
theorem cellList {T : Tbl} {n : Nat} {t e : TypeId} {ie : TyI} {sz b : Nat} {z : List AV} (hT : T.get t = some ⟨.slice e, sz, b, z⟩) (he : T.get e = some ie) {α : Type} (enc : α → D) (P : α → Prop)
    (hx : ∀ cs, cs.length = ie.size → CellOk T n e cs → ∃ x, mkD ie cs = enc x ∧ P x) {cs : List D} (h : CellOk T (n + 1) t cs) : ∃ (d : D) (l : List α), cs = [d] ∧ elsOf (.d d) = some (l.map enc) ∧ l.length * ie.bytes ≤ 140737488351232 ∧ l.length ≤ 9223372036854775807 ∧ ∀ x ∈ l, P x := by
  simp only [CellOk, hT] at h
  rcases h with rfl | ⟨els, ie', rfl, hie, hby, hlen, h⟩
  · exact ⟨_, [], rfl, rfl, by simp, by simp, by simp⟩
  · rw [he] at hie
    injection hie with hie; subst hie
    obtain ⟨l, rfl, hl⟩ := openList enc P els fun el hel => by
      obtain ⟨cs, h1, h2, h3, h4⟩ := h el hel
      rw [h1]
      exact hx cs h3 h4
    exact ⟨_, l, rfl, rfl, by simpa using hby, by simpa using hlen, hl⟩
theorem valList {T : Tbl} {n : Nat} {t e : TypeId} {ie : TyI} {sz b : Nat} {z : List AV} (hT : T.get t = some ⟨.slice e, sz, b, z⟩) (he : T.get e = some ie) {α : Type} (enc : α → D) (P : α → Prop)
    (hx : ∀ cs, cs.length = ie.size → CellOk T n e cs → ∃ x, mkD ie cs = enc x ∧ P x) {d : D} (h : ValOk T (n + 1) t d) : ∃ l : List α, elsOf (.d d) = some (l.map enc) ∧ l.length * ie.bytes ≤ 140737488351232 ∧ l.length ≤ 9223372036854775807 ∧ ∀ x ∈ l, P x := by
  obtain ⟨i, cs, hi, rfl, hlen, hc⟩ := h
  obtain ⟨d, l, rfl, h1, h2, h3, h4⟩ := cellList hT he enc P hx hc
  rw [hT] at hi
  injection hi with hi; subst hi
  exact ⟨l, h1, h2, h3, h4⟩
end Go.Proofs.YtpooehcjchkbkaaV
/- Slices that are data lie in one cell. -/
set_option linter.unusedVariables false
set_option linter.unusedSimpArgs false
namespace Go.Proofs.YtpooehcjchkbkaaV
open Go.RowKit
theorem slF {x : D} {els : List D} (h : elsOf (.d x) = some els) : AV.one (.d x) = true ∧ AV.cells (.d x) = [.d x] ∧ D.cells x = [x] := by
  cases x <;> first | (simp [elsOf] at h; done) | exact ⟨rfl, rfl, rfl⟩
theorem tmodP {a n : Int} (h : 0 ≤ a) (hn : 0 < n) : 0 ≤ a.tmod n ∧ a.tmod n < n := ⟨Int.tmod_nonneg _ h, Int.tmod_lt_of_pos _ hn⟩
theorem tmod_get {α : Type} {a n : Int} (h : 0 ≤ a) (hn : 0 < n) (l : List α) (hl : l.length = n.toNat) : ∃ x ∈ l, l[(a.tmod n).toNat]? = some x := by
  have := tmodP h hn
  have hlt : (a.tmod n).toNat < l.length := by omega
  exact ⟨_, List.getElem_mem hlt, List.getElem?_eq_getElem hlt⟩
theorem wrap_u8 {n : Int} (h : 0 ≤ n) (h' : n < 256) : IntKind.u8.wrap n = n := by
  simp [IntKind.wrap, IntKind.bits, IntKind.signed]; omega
theorem wrap_pos {n : Int} (h : 0 ≤ n) (h' : n < 9223372036854775808) : IntKind.i64.wrap n = n := wrap64 (by omega) h'
theorem runX {C : Pg} {f : FuncId} {xs : List AV} {obs : List AObj} {α : Type} {F : α → AV} {o : List AObj} {P : α → Prop} (h : ∃ y obs', run C f xs obs = some (y, obs') ∧ (∃ x, P x ∧ y = F x) ∧ obs' = o) : ∃ x, P x ∧ run C f xs obs = some (F x, o) := by
  obtain ⟨y, obs', h1, ⟨x, hx, rfl⟩, rfl⟩ := h
  exact ⟨x, hx, h1⟩
end Go.Proofs.YtpooehcjchkbkaaV
/- append(append(append([]T{}, out[:k]...), x), out[k:]...): the facts that the interpreter asks for. -/
set_option linter.unusedVariables false
set_option linter.unusedSimpArgs false
namespace Go.Proofs.YtpooehcjchkbkaaV
open Go.RowKit
theorem szAll_map {α : Type} (enc : α → D) (sz : Nat) (hsz : ∀ x, (enc x).cells.length = sz) (L : List α) : szAll sz (L.map enc) = true := by
  rw [szAll_iff]; intro y hy
  obtain ⟨q, _, rfl⟩ := List.mem_map.1 hy
  exact hsz q
theorem szAll_take {sz : Nat} {L : List D} (k : Nat) (h : szAll sz L = true) : szAll sz (L.take k) = true := by
  rw [szAll_iff] at h ⊢; exact fun y hy => h y (List.mem_of_mem_take hy)
theorem szAll_drop {sz : Nat} {L : List D} (k : Nat) (h : szAll sz L = true) : szAll sz (L.drop k) = true := by
  rw [szAll_iff] at h ⊢; exact fun y hy => h y (List.mem_of_mem_drop hy)
theorem szAll_one {sz : Nat} {e : D} (h : e.cells.length = sz) : szAll sz [e] = true := by simp [szAll, h]
theorem insM {α : Type} (enc : α → D) (sz : Nat) (hsz : ∀ x, (enc x).cells.length = sz) (L : List α) (e : D) (he : e.cells.length = sz) (k : Nat) (hk : k ≤ L.length) (bytes : Nat) (hb : (L.length + 1) * bytes ≤ 140737488355328) (hl : L.length + 1 ≤ 9223372036854775807) :
    (szAll sz (L.map enc) = true ∧ szAll sz ((L.map enc).take k) = true ∧ szAll sz ((L.map enc).drop k) = true ∧ szAll sz [e] = true) ∧ min k L.length = k ∧
    ((L.map enc).take L.length = L.map enc ∧ ((L.map enc).take k).take k = (L.map enc).take k ∧ ((L.map enc).take k ++ [e]).take (k + 1) = (L.map enc).take k ++ [e] ∧ ((L.map enc).take k ++ e :: (L.map enc).drop k).take (k + 1 + (L.length - k)) = (L.map enc).take k ++ e :: (L.map enc).drop k) ∧
    (k * bytes ≤ 140737488355328 ∧ (k + 1) * bytes ≤ 140737488355328 ∧ (k + 1 + (L.length - k)) * bytes ≤ 140737488355328) ∧ (k ≤ 9223372036854775807 ∧ k + 1 ≤ 9223372036854775807 ∧ k + 1 + (L.length - k) ≤ 9223372036854775807) ∧ ((k : Int) ≤ L.length ∧ (0 : Int) ≤ k) := by
  have h0 := szAll_map enc sz hsz L
  have hm : ∀ j, j ≤ L.length + 1 → j * bytes ≤ 140737488355328 := fun j hj => Nat.le_trans (Nat.mul_le_mul_right _ hj) hb
  refine ⟨⟨h0, szAll_take _ h0, szAll_drop _ h0, szAll_one he⟩, by omega, ⟨takeM _ _, by rw [List.take_take, Nat.min_self], List.take_of_length_le (by simp; omega), List.take_of_length_le (by simp; omega)⟩, ⟨hm _ (by omega), hm _ (by omega), hm _ (by omega)⟩, ⟨by omega, by omega, by omega⟩, by omega, by omega⟩
end Go.Proofs.YtpooehcjchkbkaaV
