/- What the interpreter gives, the machine gives: code; a call's start and end. -/
import Derived.Test.YteidaaobppjlbaaVx18
import Derived.LoopN
import Derived.Tactics
set_option linter.unusedVariables false
set_option linter.unusedSimpArgs false
namespace Go.Proofs.YteidaaobppjlbaaV
open Go.RowKit

def exOf : Ex → Exit
  | .norm => .normal
  | .exit id => .exit id
  | .ret => .ret

/-- The code, run, brings about what the interpreter says. -/
def ExecOk (P : Program) (c : SC) (st : St) (out : Ex × St) : Prop :=
  ∀ (code : Code) (nt : Nat), slim nt code = c.erase → ∀ (Z : Zst) (n0 : Nat), tidyB n0 c = true → (∀ o, Z.ob o ≠ .dead → o < n0) → ∀ (Post : Exit → Act → World → Prop) (a : Act) (w : World), RelE P Z nt st.ss a w →
    (∀ a' w', RelE P Z nt out.2.ss a' w' → Post (exOf out.1) a' w') → code.wp P Post a w
def LoopOk (P : Program) (b : SC) (st : St) (out : Ex × St) : Prop :=
  ∀ (code : Code) (nt : Nat), slim nt code = b.erase → ∃ N, ∀ (Z : Zst) (n0 : Nat), tidyB n0 b = true → (∀ o, Z.ob o ≠ .dead → o < n0) → ∀ (Post : Exit → Act → World → Prop) (a : Act) (w : World), RelE P Z nt st.ss a w →
    (∀ a' w', RelE P Z nt out.2.ss a' w' → Post (exOf out.1) a' w') → Code.rounds P code Post N a w

theorem dstChk_ok {nt : Nat} {ops : Array Oper} (h : dstChk nt ops = true) : ∀ i d, dstOf ops i = some d → d < nt := fun i d hd => by
  obtain ⟨o, ho, hdo⟩ := dstOf_lt hd
  have := List.all_eq_true.1 h o (Array.mem_toList_iff.2 (Array.mem_of_getElem? ho))
  simpa [hdo] using this

theorem slim_region {nt : Nat} {id : Nat} {ops : Array Oper} {draw : Bool} {l : List SOp} {B : Option (List Nat)} (h : slim nt (.region id ops draw) = .reg l B) :
    slimOps ops ops.toList = some l ∧ dstChk nt ops = true ∧ ((draw = false ∧ B = none) ∨ ∃ b, draw = true ∧ B = some b ∧ drawChk ops b = true) := by
  unfold slim at h
  split at h
  · cases h
  · rename_i l' hl
    split at h
    · rename_i hd
      split at h
      · rename_i hdr
        simp only at h
        split at h
        · rename_i hc
          injection h with h1 h2
          subst h1
          exact ⟨hl, hd, .inr ⟨_, hdr, h2.symm, hc⟩⟩
        · cases h
      · rename_i hdr
        injection h with h1 h2
        subst h1
        exact ⟨hl, hd, .inl ⟨by simpa using hdr, h2.symm⟩⟩
    · cases h

theorem slim_not_region {nt : Nat} {id : Nat} {os : Array Oper} {draw : Bool} {c : SC} (h : slim nt (.region id os draw) = c) : c = .bad ∨ ∃ l B, c = .reg l B := by
  subst h
  simp only [slim]
  repeat' split
  all_goals first | exact .inl rfl | exact .inr ⟨_, _, rfl⟩

section
variable {P : Program} {c : Ctx}

theorem region_ok (hc : COk P c) (hm : P.follows .mixedOrders = true) {ops : List SOp} {B : Option (List Nat)} {st st' : St} (h : OpsOk c (Good P) B 0 st.obs.length [] ops (roomFor ops st) st') : ExecOk P (.reg ops B) st (.norm, st') := by
  intro code nt hs Z n0 _ _ Post a w hr hQ
  cases code with
  | region id os draw =>
    obtain ⟨h1, h2, h3⟩ := slim_region (l := ops.map SOp.strip) (B := B) hs
    obtain ⟨g1, g2⟩ := slimOps_get h1
    have hl : os.size = ops.length := by simpa using g1.symm
    obtain ⟨_, h⟩ := h os (ops.map (·.an)) st.obs.length (fun k => by rw [Nat.zero_add, hl]) (fun k o ho => by
      rw [Nat.zero_add] at ho
      obtain ⟨x, hx, hx'⟩ := g2 k o (by simpa using ho)
      rw [List.getElem?_map] at hx
      obtain ⟨y, hy, rfl⟩ := Option.map_eq_some_iff.1 hx
      exact ⟨y, hy, hx'⟩) (fun k x hx => by
      rw [Nat.zero_add]
      refine ⟨?_, by simpa using (List.getElem?_eq_some_iff.1 hx).1⟩
      simp [anOf, List.getD_eq_getElem?_getD, hx]) (by
      have : laysTo (ops.map (·.an)) 0 = 0 := by cases ops.map (·.an) <;> rfl
      simp [nidOf, this]) (by simp [roomFor])
    rw [roomFor_ss, ← hl, ← List.range_eq_range'] at h
    rcases h3 with ⟨rfl, rfl⟩ | ⟨b, rfl, rfl, hb⟩
    · exact region_text hc (dstChk_ok h2) hr h hQ
    · exact region_draw hc hm (dstChk_ok h2) (drawChk_ok hb) hr h hQ
  | _ => simp [slim, SC.erase] at hs

/-! ### Results -/
def resRun (tmps : Array Value) : ResultVar → Sem Value
  | .tmp t => pure (tmps.getD t undef)
  | .cell a t => do loadVar t (← asAddr (tmps.getD a undef))

theorem results_eq (fn : Func) (tmps : Array Value) : results fn tmps = (do
    let vs ← fn.results.mapM (resRun tmps)
    pure (if h : vs.size = 1 then vs[0] else .tuple vs)) := rfl

theorem run_mapM {w : World} {α β : Type} (g : α → Sem β) : ∀ (l : List α) (r : List β), l.length = r.length → (∀ (i : Nat) (x : α) (y : β), l[i]? = some x → r[i]? = some y → (g x).run P w = .ok y w) → (l.mapM g).run P w = .ok r w
  | [], [], _, _ => by simp
  | x :: l, y :: r, hl, h => by
    have h1 := h 0 x y (by simp) (by simp)
    have h2 := run_mapM g l r (by simpa using hl) (fun i a b ha hb => h (i + 1) a b (by simpa using ha) (by simpa using hb))
    simp [List.mapM_cons, h1, h2]
  | [], _ :: _, hl, _ => by simp at hl
  | _ :: _, [], hl, _ => by simp at hl

def resV : List Value → Value
  | [v] => v
  | vs => .tuple vs.toArray
theorem run_results {w : World} {fn : Func} {tmps : Array Value} {l : List ResultVar} {vs : List Value} (hl : fn.results.toList = l) (hlen : l.length = vs.length)
    (h : ∀ (i : Nat) (x : ResultVar) (y : Value), l[i]? = some x → vs[i]? = some y → (resRun tmps x).run P w = .ok y w) : (results fn tmps).run P w = .ok (resV vs) w := by
  have hm := run_mapM (P := P) (w := w) (resRun tmps) l vs hlen h
  have ha : fn.results = l.toArray := by rw [← hl]
  rw [results_eq, ha, List.mapM_toArray]
  have hmap : (List.toArray <$> l.mapM (resRun tmps)).run P w = .ok vs.toArray w := by
    rw [map_eq_pure_bind]
    rw [Sem.run_bind, hm]
    rfl
  rw [Sem.run_bind, hmap]
  match vs with
  | [] => simp [resV]
  | [v] => simp [resV]
  | v :: u :: r => simp [resV]

variable {Z : Zst} {nt : Nat}

theorem resOf_ok (hc : COk P c) {st : St} {a : Act} {w : World} {I : Nat → Nat → Prop} {μ : Nat → Nat} {ν : Nat → Value} (hr : Rel P Z nt st.ss a w I μ ν) {r : ResultVar} {x : AV} (h : resOf c.T st r = some x) :
    ∃ u, (resRun a.tmps r).run P w = .ok u w ∧ VR w I μ ν st.ss.ob x u ∧ x.sc st.ss.ob := by
  cases r with
  | tmp t =>
    simp only [resOf, Option.some.injEq] at h
    subst h
    exact ⟨_, by simp [resRun], hr.ts t, hr.sc t⟩
  | cell b t =>
    simp only [resOf] at h
    have hx := hr.ts b
    obtain ⟨u, h1, h2, h3⟩ := run_loadF hc hr hx h
    refine ⟨u, ?_, h2, h3⟩
    have hp : ∃ p, a.tmps.getD b undef = .pointer (some p) := by
      have hb : st.ss.t b = envGet st.env b := rfl
      rw [hb] at hx
      unfold loadF at h
      split at h
      · cases h
      · split at h
        · rename_i e; rw [e] at hx
          generalize a.tmps.getD b undef = q at hx
          cases hx; exact ⟨_, rfl⟩
        · rename_i e; rw [e] at hx
          generalize a.tmps.getD b undef = q at hx
          cases hx; exact ⟨_, rfl⟩
        · rename_i e; rw [e] at hx
          generalize a.tmps.getD b undef = q at hx
          cases hx with
          | pv _ _ _ _ _ _ hl _ => obtain ⟨b', q', hl⟩ := hl; exact ⟨_, hl⟩
        · cases h
    obtain ⟨p, hp⟩ := hp
    rw [hp] at h1
    simp only [resRun, hp, asAddr]
    simpa [Instr.loadAt, Instr.sureAddr] using h1

theorem one0_sc {x : AV} (h : one0 x = true) {ob : Nat → AObj} (hs : x.sc ob) : x.sc0 ob := by
  cases x <;> first | exact hs | cases h

theorem resAll_ok (hc : COk P c) {st : St} {a : Act} {w : World} {I : Nat → Nat → Prop} {μ : Nat → Nat} {ν : Nat → Value} (hr : Rel P Z nt st.ss a w I μ ν) : ∀ {l : List ResultVar} {xs : List AV}, allSome (l.map (resOf c.T st)) = some xs →
    ∃ vs : List Value, l.length = vs.length ∧ xs.length = vs.length ∧ (∀ (i : Nat) (x : ResultVar) (y : Value), l[i]? = some x → vs[i]? = some y → (resRun a.tmps x).run P w = .ok y w) ∧
      ∀ (i : Nat) (x : AV) (u : Value), xs[i]? = some x → vs[i]? = some u → VR w I μ ν st.ss.ob x u ∧ x.sc st.ss.ob
  | [], xs, h => by simp only [List.map_nil, allSome, Option.some.injEq] at h; subst h; exact ⟨[], rfl, rfl, by simp, by simp⟩
  | r :: l, xs, h => by
    simp only [List.map_cons] at h
    cases hx : resOf c.T st r with
    | none => simp [hx, allSome] at h
    | some x =>
      simp only [hx, allSome] at h
      split at h
      · rename_i ys h2
        injection h with h
        subst h
        obtain ⟨u, e1, e2, e3⟩ := resOf_ok hc hr hx
        obtain ⟨vs, q1, q2, q3, q4⟩ := resAll_ok hc hr h2
        refine ⟨u :: vs, by simp [q1], by simp [q2], fun i y v hy hv => ?_, fun i y v hy hv => ?_⟩
        · cases i with
          | zero => simp at hy hv; subst hy hv; exact e1
          | succ i => exact q3 i y v (by simpa using hy) (by simpa using hv)
        · cases i with
          | zero => simp at hy hv; subst hy hv; exact ⟨e2, e3⟩
          | succ i => exact q4 i y v (by simpa using hy) (by simpa using hv)
      · cases h

theorem resultsF_ok (hc : COk P c) {st : St} {a : Act} {w : World} {I : Nat → Nat → Prop} {μ : Nat → Nat} {ν : Nat → Value} (hr : Rel P Z nt st.ss a w I μ ν) {fn : Func} {r : AV} (h : resultsF c.T st fn.results.toList = some r) :
    ∃ v, (results fn a.tmps).run P w = .ok v w ∧ VR w I μ ν st.ss.ob r v ∧ r.sc st.ss.ob := by
  unfold resultsF at h
  split at h
  · rename_i q hl
    obtain ⟨u, e1, e2, e3⟩ := resOf_ok hc hr h
    refine ⟨u, run_results (vs := [u]) hl rfl (fun i x y hx hy => ?_), e2, e3⟩
    cases i with
    | zero => simp at hx hy; subst hx hy; exact e1
    | succ i => simp at hx
  · rename_i hl
    split at h
    · rename_i xs hxs
      split at h
      · rename_i ho
        injection h with h
        subst h
        obtain ⟨vs, q1, q2, q3, q4⟩ := resAll_ok hc hr hxs
        have := run_results (vs := vs) rfl q1 q3
        have hget : ∀ (y : AV), y ∈ xs → ∃ (i : Nat) (u : Value), xs[i]? = some y ∧ vs[i]? = some u := fun y hy => by
          obtain ⟨i, hi⟩ := List.mem_iff_getElem?.1 hy
          have hlt : i < vs.length := by rw [← q2]; exact (List.getElem?_eq_some_iff.1 hi).1
          exact ⟨i, _, hi, List.getElem?_eq_getElem hlt⟩
        refine ⟨_, this, ?_, fun y hy => ?_⟩
        · have e : resV vs = .tuple vs.toArray := by
            match vs, q1 with
            | [], _ => rfl
            | [v], q1 =>
              exfalso
              have h1 : fn.results.toList.length = 1 := by simpa using q1
              match hq : fn.results.toList, h1 with
              | [z], _ => exact hl z hq
            | v :: u :: r, _ => rfl
          rw [e]
          exact .tup _ _ q2 fun i y u hy hu => (q4 i y u hy hu).1
        · obtain ⟨i, u, hi, hu⟩ := hget y hy
          exact one0_sc (List.all_eq_true.1 ho y hy) (q4 i y u hi hu).2
      · cases h
    · cases h

/-! ### A call's start -/
theorem ObR.newN {N N' : Nat → Prop} {w : World} {I : Nat → Nat → Prop} {μ : Nat → Nat} {ν : Nat → Value} {ob : Nat → AObj} {o : Nat} {x : AObj} (h : ObR P N w I μ ν ob o x) (hN : ∀ b, N b → N' b) : ObR P N' w I μ ν ob o x := by
  cases x with
  | dead => trivial
  | box cs =>
    obtain ⟨vs, t, h1, h3, h4, h5, h6, h7, h8⟩ := h
    exact ⟨vs, t, h1, h3, h4, h5, h6, h7, hN _ h8⟩
  | vec g mv fz e sz els => obtain ⟨xs, h⟩ := h; exact ⟨xs, h.newN fun b hb => hN b (h.new b hb)⟩
  | map es => obtain ⟨ents, clock, h1, h2, h3, h4⟩ := h; exact ⟨ents, clock, h1, h2, hN _ h3, h4⟩
  | iter m l => exact h

theorem startEnv_get : ∀ (i : Nat) (xs : List AV) (k : Nat), envGet (startEnv i xs) k = if i ≤ k then (match xs[k - i]? with | some d => d | none => .junk) else .junk
  | i, [], k => by simp [startEnv, envGet]
  | i, d :: xs, k => by
    simp only [startEnv, envGet, startEnv_get (i + 1) xs k]
    by_cases h : k = i
    · subst h; simp
    · rw [if_neg h]
      by_cases h2 : i ≤ k
      · rw [if_pos h2, if_pos (by omega), show k - i = (k - (i + 1)) + 1 by omega]; simp
      · rw [if_neg h2, if_neg (by omega)]

/-- The state a call begins with. -/
theorem start_rel {w : World} {I : Nat → Nat → Prop} {N : Nat → Prop} {μ : Nat → Nat} {ν : Nat → Value} {xs : List AV} {obs : List AObj} {vs : List Value} (hS : StoR P N (obL obs) obs.length w I μ ν) (hlen : xs.length = vs.length) (hn : xs.length ≤ nt)
    (hv : ∀ (i : Nat) (x : AV) (v : Value), xs[i]? = some x → vs[i]? = some v → VR w I μ ν (obL obs) x v ∧ x.sc (obL obs)) :
    Rel P ⟨w, I, N, obL obs, μ, ν⟩ nt (St.ss ⟨startEnv 0 xs, obs⟩) { tmps := vs.toArray ++ Array.replicate (nt - vs.toArray.size) undef, defers := [] } w I μ ν where
  os := fun o => (hS.os o).newN fun b hb => .inl hb
  dd := hS.dd
  sep := hS.sep
  i2 := hS.i2
  nd := rfl
  size := by simp; omega
  ts := fun i => by
    show VR w I _ _ (obL obs) (envGet (startEnv 0 xs) i) _
    rw [startEnv_get]
    simp only [Nat.zero_le, if_true, Nat.sub_zero]
    cases hd : xs[i]? with
    | none => exact .junk _
    | some x =>
      have hi : i < vs.length := hlen ▸ (List.getElem?_eq_some_iff.1 hd).1
      refine (hv i x _ hd ?_).1
      rw [Array.getD_eq_getD_getElem?, Array.getElem?_append_left (by simpa using hi)]
      simp [List.getElem?_eq_getElem hi]
  sc := fun i => by
    show (envGet (startEnv 0 xs) i).sc (obL obs)
    rw [startEnv_get]
    simp only [Nat.zero_le, if_true, Nat.sub_zero]
    cases hd : xs[i]? with
    | none => trivial
    | some x =>
      have hi : i < vs.length := hlen ▸ (List.getElem?_eq_some_iff.1 hd).1
      exact (hv i x _ hd (List.getElem?_eq_getElem hi)).2
  bel := Keep.refl _ _
  i0 := fun _ _ h => ⟨h, rfl⟩
  i00 := fun b o h => hS.i2 b o h
  i1 := fun _ _ h => .inl h
  go := GoesZ.refl _ _ _

/-! ### A call's end -/
theorem reach_pre (ob : Nat → AObj) : ∀ (f : List Unit) (todo acc : List Nat), ∃ t, reach ob f todo acc = acc ++ t
  | [], _, acc => ⟨[], by simp [reach]⟩
  | _ :: _, [], acc => ⟨[], by simp [reach]⟩
  | _ :: f, o :: r, acc => by
    simp only [reach]
    split
    · exact reach_pre ob f r acc
    · obtain ⟨t, ht⟩ := reach_pre ob f ((ob o).oids ++ r) (acc ++ [o])
      exact ⟨o :: t, by rw [ht]; simp⟩

theorem finL_pre (n0 : Nat) (obs : List AObj) (r : AV) : ∃ t, finL n0 obs r = List.range n0 ++ t := reach_pre _ _ _ _

theorem finL_lN {n0 : Nat} {obs : List AObj} {r : AV} {o : Nat} (h : o < n0) : lN (finL n0 obs r) o = o ∧ o < (finL n0 obs r).length := by
  obtain ⟨t, ht⟩ := finL_pre n0 obs r
  rw [ht]
  refine ⟨?_, by simp; omega⟩
  unfold lN
  rw [List.getD_eq_getElem?_getD, List.getElem?_append_left (by simpa using h)]
  simp [h]

/-- What a call gives. -/
theorem end_ok (hc : COk P c) {st : St} {a : Act} {w' w : World} {I I0 : Nat → Nat → Prop} {N : Nat → Prop} {μ μ0 : Nat → Nat} {ν ν0 : Nat → Value} {obs : List AObj} (hr : Rel P ⟨w, I0, N, obL obs, μ0, ν0⟩ nt st.ss a w' I μ ν) {fn : Func} {y : AV} {obs' : List AObj} (h : endF c.T fn.results.toList obs.length st = some (y, obs')) :
    ∃ v, (results fn a.tmps).run P w' = .ok v w' ∧ ∃ (μ' : Nat → Nat) (ν' : Nat → Value), StoR P (fun b => N b ∨ w.heap.size ≤ b) (obL obs') obs'.length w' I μ' ν' ∧ VR w' I μ' ν' (obL obs') y v ∧ y.sc (obL obs') ∧ GoesZ (obL obs) (obL obs') μ0 μ' ν0 ν' := by
  unfold endF at h
  split at h <;> first | (cases h; done) | skip
  rename_i x hx
  obtain ⟨v, q1, q2, q3⟩ := resultsF_ok hc hr hx
  unfold finish finishL at h
  split at h <;> first | (cases h; done) | skip
  rename_i hcl
  injection h with h
  injection h with e1 e2
  subst e1 e2
  rw [Bool.and_eq_true] at hcl
  obtain ⟨hcl, hx'⟩ := hcl
  obtain ⟨hcl, hxs⟩ := closedB_ok hcl
  have hnd := nodupB_ok hx'
  have hlen : (packL (finL obs.length st.obs x) (obGet st.obs) true).length = (finL obs.length st.obs x).length := by simp [packL]
  have hlt : ∀ o, obL obs o ≠ .dead → o < obs.length := fun o ho => obL_lt ho
  have hget : ∀ o, o < obs.length → obL (packL (finL obs.length st.obs x) (obGet st.obs) true) o = packO (fun q => (finL obs.length st.obs x).idxOf q) (obGet st.obs) true (obGet st.obs o) := fun o ho => by
    obtain ⟨h1, h2⟩ := finL_lN (obs := st.obs) (r := x) ho
    rw [packL_get h2, h1]
  refine ⟨v, q1, fun i => μ (lN (finL obs.length st.obs x) i), fun i => ν (lN (finL obs.length st.obs x) i), ?_, ?_, ?_, ?_⟩
  · rw [hlen]
    exact pack_sto (ob := obGet st.obs) hr.toStoR hcl hnd true _ fun o _ b hb => (hr.blk_lt hb).2
  · exact (VR.ren q3 (fun o ho => leads_pack (keep := true) (ob := obGet st.obs) (hxs x (by simp) o ho)) q2).1
  · exact (VR.ren q3 (fun o ho => leads_pack (keep := true) (ob := obGet st.obs) (hxs x (by simp) o ho)) q2).2
  · refine ⟨fun o ho => ?_, fun o g mv fz e sz els ho => ?_⟩
    · have hol := hlt o ho
      obtain ⟨g1, g2⟩ := hr.go.live o ho
      refine ⟨?_, ?_⟩
      · rw [hget o hol]; exact packO_live g1
      · show μ (lN _ o) = μ0 o
        rw [(finL_lN hol).1]; exact g2
    · have hol := hlt o (by rw [ho]; simp)
      obtain ⟨g', mv', fz', els', h1, h2⟩ := hr.go.vec o g mv fz e sz els ho
      have h1' : obGet st.obs o = .vec g' mv' fz' e sz els' := h1
      refine ⟨0, mv', fz', els', ?_, fun hm => ?_⟩
      · rw [hget o hol, h1']; simp [packO]
      · show ν (lN _ o) = ν0 o ∧ _
        rw [(finL_lN hol).1]; exact h2 hm

theorem endF_len {T : Tbl} {l : List ResultVar} {n0 : Nat} {st : St} {y : AV} {obs' : List AObj} (h : endF T l n0 st = some (y, obs')) : n0 ≤ obs'.length := by
  unfold endF at h
  split at h <;> first | (cases h; done) | skip
  rename_i x hx
  unfold finish finishL at h
  split at h <;> first | (cases h; done) | skip
  injection h with h
  injection h with e1 e2
  subst e2
  obtain ⟨t, ht⟩ := finL_pre n0 st.obs x
  simp only [packL, List.length_map]
  rw [ht]; simp

theorem body_ok (hc : COk P c) {f : FuncId} {s : SFn} (hs : (P.funcs[f]?).bind slimFn = some s.erase) {xs : List AV} {obs : List AObj} (hl : xs.length = s.np) (ht : tidyB obs.length s.body = true) {out : Ex × St} (he : ExecOk P s.body ⟨startEnv 0 xs, obs⟩ out) (hx : ∀ id, out.1 ≠ .exit id) {y : AV} {obs' : List AObj} (hr : endF c.T s.res obs.length out.2 = some (y, obs')) : Good P f xs obs y obs' := by
  obtain ⟨fn, hf, hs⟩ := Option.bind_eq_some_iff.1 hs
  unfold slimFn at hs
  split at hs
  · rename_i c' hb
    split at hs
    · rename_i hcond
      injection hs with hs
      simp only [SFn.erase, SFn.mk.injEq] at hs
      obtain ⟨s1, s2, s3, s4⟩ := hs
      simp only [Bool.and_eq_true, decide_eq_true_eq, beq_iff_eq, bne_iff_ne, ne_eq] at hcond
      obtain ⟨h1, h3⟩ := hcond
      refine ⟨fun vs w => ?_, endF_len hr, fun w I N μ ν vs hS hN hlen hv => ?_⟩
      · simp [callFunc, hf, hb, h3]
      · refine calls_of_wp hf hb ?_
        have hn : xs.length ≤ fn.ntmps := by rw [hl, ← s1]; exact h1
        refine he c' fn.ntmps s4 ⟨w, I, N, obL obs, μ, ν⟩ obs.length ht (fun o ho => obL_lt ho) _ _ w ⟨I, μ, ν, start_rel hS hlen hn hv⟩ fun a' w' hr' => ?_
        obtain ⟨I', μ1, ν1, hr'⟩ := hr'
        rw [← s3] at hr
        obtain ⟨v, q1, μ', ν', q2, q3, q4, q5⟩ := end_ok hc hr' hr
        have key : a'.defers = [] ∧ ∃ v, (results fn a'.tmps).run P w' = .ok v w' ∧ ∃ (u : Value) (I' : Nat → Nat → Prop) (μ' : Nat → Nat) (ν' : Nat → Value), Ending.returned v = .returned u ∧ StoR P (fun b => N b ∨ w.heap.size ≤ b) (obL obs') obs'.length w' I' μ' ν' ∧
          VR w' I' μ' ν' (obL obs') y u ∧ y.sc (obL obs') ∧ (∀ b o, I b o → I' b o ∧ w'.cell? ⟨b, o, none⟩ = w.cell? ⟨b, o, none⟩) ∧ (∀ b o, I' b o → I b o ∨ N b ∨ w.heap.size ≤ b) ∧ Keep N w w' ∧ GoesZ (obL obs) (obL obs') μ μ' ν ν' :=
          ⟨hr'.nd, v, q1, v, I', μ', ν', rfl, q2, q3, q4, hr'.i0, fun b o hb => hr'.i1 b o hb, hr'.bel, q5⟩
        obtain ⟨e, st'⟩ := out
        cases e with
        | norm => exact key
        | ret => exact key
        | exit id => exact absurd rfl (hx id)
    · cases hs
  · cases hs
end
end Go.Proofs.YteidaaobppjlbaaV
