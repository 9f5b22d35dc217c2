/- Regions: in the text's order, and drawing it. -/
import Derived.Test.YteidaaobppjlbaaVx14
set_option linter.unusedVariables false
set_option linter.unusedSimpArgs false
namespace Go.Proofs.YteidaaobppjlbaaV
open Go.RowKit

def anOf (ans : List Ann) (i : Nat) : Ann := ans.getD i ann0
def laysTo : List Ann → Nat → Nat
  | [], _ => 0
  | _, 0 => 0
  | a :: r, i + 1 => a.lays + laysTo r i
def laysAll : List Ann → Nat
  | [] => 0
  | a :: r => a.lays + laysAll r
def nidOf (ans : List Ann) (base i : Nat) : Nat := base + laysTo ans i
theorem lays_le : ∀ (ans : List Ann) (i : Nat), laysTo ans i + (anOf ans i).lays ≤ laysAll ans
  | [], i => by simp [laysTo, anOf, laysAll, ann0]
  | a :: r, 0 => by simp [laysTo, anOf, laysAll]
  | a :: r, i + 1 => by
    have := lays_le r i
    simp only [laysTo, laysAll, anOf, List.getD_cons_succ] at *
    omega
theorem lays_lt : ∀ (ans : List Ann) (i j : Nat), i < j → laysTo ans i + (anOf ans i).lays ≤ laysTo ans j
  | [], i, j, _ => by simp [laysTo, anOf, ann0]
  | a :: r, 0, j + 1, _ => by simp [laysTo, anOf]
  | a :: r, i + 1, j + 1, h => by
    have := lays_lt r i j (by omega)
    simp only [laysTo, anOf, List.getD_cons_succ] at *
    omega
def dstVal (ops : Array Oper) (j : Nat) (t : Nat → AV) : AV :=
  match (ops[j]?).bind (·.dst) with
  | some d => t d
  | none => .junk
def dstOf (ops : Array Oper) (i : Nat) : Option Nat := (ops[i]?).bind (·.dst)

/-- Operation number i, from the state s, gives v and turns e. -/
def StepR (c : Ctx) (G : Cont) (ans : List Ann) (ops : Array Oper) (base i : Nat) (s : SS) (v : AV) (e : List (Nat × AObj)) : Prop :=
  match ops[i]? with
  | none => False
  | some o => match o.guard with
    | none => StepV c G (anOf ans i) o.op (evalAV s.t) s.ob (nidOf ans base i) v e
    | some (j, want) => (∃ b, dstVal ops j s.t = .d (.bool b) ∧ (if b = want then StepV c G (anOf ans i) o.op (evalAV s.t) s.ob (nidOf ans base i) v e else v = .tup [] ∧ e = [])) ∨ (dstVal ops j s.t = .tup [] ∧ v = .tup [] ∧ e = [])

/-- The objects that operations not yet carried out are to lay are dead. -/
def Fresh (ans : List Ann) (ops : Array Oper) (base : Nat) (L : Nat → Prop) (s : SS) : Prop := ∀ i o, ops[i]? = some o → ¬ L i → ∀ j, j < (anOf ans i).lays → nidOf ans base i + j < s.n ∧ s.ob (nidOf ans base i + j) = .dead
/-- What an operation turns: its own new objects, or such as live. -/
def EffOk (ans : List Ann) (base i : Nat) (s : SS) (e : List (Nat × AObj)) : Prop := ∀ p ∈ e, (∃ j, j < (anOf ans i).lays ∧ p.1 = nidOf ans base i + j) ∨ s.ob p.1 ≠ .dead

theorem upds_one (f : Nat → AObj) (i : Nat) (z : AObj) : upds f [(i, z)] = upd f i z := rfl

theorem EffOk.fresh {ans : List Ann} {ops : Array Oper} {base i : Nat} {s : SS} {v : AV} {e : List (Nat × AObj)} {L : Nat → Prop} (h : EffOk ans base i s e) (hf : Fresh ans ops base L s) :
    Fresh ans ops base (fun k => L k ∨ k = i) (s.put (dstOf ops i) v e) := by
  intro k ok hk hnk j hj
  have hki : k ≠ i := fun e => hnk (.inr e)
  obtain ⟨f1, f2⟩ := hf k ok hk (fun h => hnk (.inl h)) j hj
  refine ⟨f1, ?_⟩
  show upds s.ob e _ = _
  have hnot : ∀ (es : List (Nat × AObj)) (f : Nat → AObj), nidOf ans base k + j ∉ es.map (·.1) → upds f es (nidOf ans base k + j) = f (nidOf ans base k + j) := by
    intro es
    induction es with
    | nil => intro f _; rfl
    | cons p es ih =>
      intro f hm
      simp only [List.map_cons, List.mem_cons, not_or] at hm
      show upds (upd f p.1 p.2) es _ = _
      rw [ih _ hm.2, upd_ne _ _ hm.1]
  rw [hnot]
  · exact f2
  · intro hm
    obtain ⟨p, hp, he⟩ := List.mem_map.1 hm
    rcases h p hp with ⟨j', hj', h1⟩ | h1
    · rw [he] at h1
      unfold nidOf at h1
      rcases Nat.lt_trichotomy k i with h | h | h
      · have := lays_lt ans k i h; omega
      · exact hki h
      · have := lays_lt ans i k h; omega
    · rw [he] at h1; exact h1 f2

section
variable {P : Program} {c : Ctx} {Z : Zst} {nt : Nat} {s : SS} {a : Act} {w : World} {I : Nat → Nat → Prop} {μ : Nat → Nat} {ν : Nat → Value} {Q : Exit → Act → World → Prop}

/-- An operation of either kind. -/
theorem stepV_ok (hc : COk P c) (hr : Rel P Z nt s a w I μ ν) {o : Oper} (hdst : ∀ d, o.dst = some d → d < nt) {an : Ann} {nid : Nat} (hfr : ∀ j, j < an.lays → nid + j < s.n ∧ s.ob (nid + j) = .dead) {v : AV} {e : List (Nat × AObj)} (h : StepV c (Good P) an o.op (evalAV s.t) s.ob nid v e) :
    o.wp P a w (fun a' w' => RelE P Z nt (s.put o.dst v e) a' w') Q ∧ ∀ p ∈ e, (∃ j, j < an.lays ∧ p.1 = nid + j) ∨ s.ob p.1 ≠ .dead := by
  rcases h with ⟨h1, h2⟩ | ⟨g, xs, r, obs', h1, h2, h3, h4, h5, h6⟩
  · exact opF_ok hc hr hdst hfr h1 h2
  · obtain ⟨f, as, ts, ho, hcf⟩ := opF_call h1
    exact call_ok hr hdst ho hcf hfr h2 h3 h4 h5 h6

theorem yielded_of (hr : Rel P Z nt s a w I μ ν) {ops : Array Oper} {j : Nat} {b : Bool} (h : dstVal ops j s.t = .d (.bool b)) : yielded ops a.tmps j = some b := by
  unfold dstVal at h
  unfold yielded
  cases hd : (ops[j]?).bind (·.dst) with
  | none => simp [hd] at h
  | some d =>
    simp only [hd] at h
    have hv := hr.ts d
    rw [h] at hv
    have e := VR_bool hv
    simp only [Option.bind_some]
    rw [Array.getD_eq_getD_getElem?] at e
    cases hq : a.tmps[d]? with
    | none => rw [hq] at e; simp [undef] at e
    | some u => rw [hq] at e; simp at e; subst e; rfl

theorem yielded_none (hr : Rel P Z nt s a w I μ ν) {ops : Array Oper} {j : Nat} (h : dstVal ops j s.t = .tup []) : yielded ops a.tmps j = none := by
  unfold dstVal at h
  unfold yielded
  cases hd : (ops[j]?).bind (·.dst) with
  | none => rfl
  | some d =>
    simp only [hd] at h
    have hv := hr.ts d
    rw [h] at hv
    simp only [Option.bind_some]
    cases hq : a.tmps[d]? with
    | none => rfl
    | some u =>
      have e : a.tmps.getD d undef = u := by simp [Array.getD_eq_getD_getElem?, hq]
      rw [e] at hv
      cases hv; rfl
/-- One operation of a region. -/
theorem stepR_ok (hc : COk P c) {ans : List Ann} {ops : Array Oper} {base i : Nat} {v : AV} {e : List (Nat × AObj)} {L : Nat → Prop} (hr : RelE P Z nt s a w) (hdst : ∀ i d, dstOf ops i = some d → d < nt) (hf : Fresh ans ops base L s) (hi : ¬ L i) (h : StepR c (Good P) ans ops base i s v e) :
    wpOp P ops Q i (fun a' w' => RelE P Z nt (s.put (dstOf ops i) v e) a' w') a w ∧ EffOk ans base i s e := by
  obtain ⟨I, μ, ν, hr⟩ := hr
  unfold StepR at h
  unfold wpOp
  split at h
  · exact h.elim
  · rename_i o ho
    rw [ho]
    have hdo : dstOf ops i = o.dst := by simp [dstOf, ho]
    have hdst' : ∀ d, o.dst = some d → d < nt := fun d hd => hdst i d (hdo.trans hd)
    have hn := hf i o ho hi
    rw [hdo]
    split at h
    · rename_i hg
      have hw : Region.wanted o (yielded ops a.tmps) = true := by simp [Region.wanted, hg]
      simp only [hw, if_true]
      obtain ⟨h1, h2⟩ := stepV_ok hc hr hdst' hn h
      exact ⟨.inl h1, h2⟩
    · rename_i j want hg
      rcases h with ⟨b, hb, h⟩ | ⟨hb, h1, h2⟩
      rotate_left
      · subst h1 h2
        have hy := yielded_none hr hb
        have hw : Region.wanted o (yielded ops a.tmps) = false := by simp [Region.wanted, hg, hy]
        simp only [hw, Bool.false_eq_true, if_false]
        exact ⟨⟨I, μ, ν, hr.put hdst' (.tup [] [] rfl (by simp)) (by intro x hx; cases hx)⟩, by intro p hp; cases hp⟩
      have hy := yielded_of hr hb
      split at h
      · rename_i hbw
        have hw : Region.wanted o (yielded ops a.tmps) = true := by simp [Region.wanted, hg, hy, hbw]
        simp only [hw, if_true]
        obtain ⟨h1, h2⟩ := stepV_ok hc hr hdst' hn h
        exact ⟨.inl h1, h2⟩
      · rename_i hbw
        obtain ⟨rfl, rfl⟩ := h
        have hw : Region.wanted o (yielded ops a.tmps) = false := by simp [Region.wanted, hg, hy, hbw]
        simp only [hw, Bool.false_eq_true, if_false]
        exact ⟨⟨I, μ, ν, hr.put hdst' (.tup [] [] rfl (by simp)) (by intro x hx; cases hx)⟩, by intro p hp; cases hp⟩

/-- A chain of steps. -/
def RunL (c : Ctx) (G : Cont) (ans : List Ann) (ops : Array Oper) (base : Nat) : List Nat → SS → SS → Prop
  | [], s, s' => s' = s
  | i :: l, s, s' => ∃ v e, StepR c G ans ops base i s v e ∧ RunL c G ans ops base l (s.put (dstOf ops i) v e) s'

theorem runL_ok (hc : COk P c) {ans : List Ann} {ops : Array Oper} {base : Nat} (hdst : ∀ i d, dstOf ops i = some d → d < nt) : ∀ (l : List Nat) (s s' : SS) (a : Act) (w : World) (L : Nat → Prop), RelE P Z nt s a w → Fresh ans ops base L s → l.Nodup → (∀ i ∈ l, ¬ L i) → RunL c (Good P) ans ops base l s s' →
    (∀ a' w', RelE P Z nt s' a' w' → Q .normal a' w') → wpOps P ops Q l a w
  | [], s, s', a, w, L, hr, _, _, _, h, hQ => by
    simp only [RunL] at h
    subst h
    exact hQ a w hr
  | i :: l, s, s', a, w, L, hr, hf, hnd, hL, h, hQ => by
    obtain ⟨v, e, h1, h2⟩ := h
    rw [wpOps_cons]
    have hni : ¬ L i := hL i (by simp)
    obtain ⟨k1, k2⟩ := stepR_ok (Q := Q) hc hr hdst hf hni h1
    refine wpOp_mono (fun a' w' hr' => ?_) k1
    have hnd' := List.nodup_cons.1 hnd
    exact runL_ok hc hdst l _ s' a' w' (fun k => L k ∨ k = i) hr' (k2.fresh hf) hnd'.2 (fun k hk hh => by
      rcases hh with hh | rfl
      · exact hL k (by simp [hk]) hh
      · exact hnd'.1 hk) h2 hQ

/-- Room for the objects that a region lays. -/
theorem Rel.more (hr : Rel P Z nt s a w I μ ν) (k : Nat) : Rel P Z nt { s with n := s.n + k } a w I μ ν :=
  { hr with dd := fun o ho => hr.dd o (by have : s.n + k ≤ o := ho; omega) }

theorem fresh_start (hr : Rel P Z nt s a w I μ ν) (ans : List Ann) (ops : Array Oper) : Fresh ans ops s.n (fun _ => False) { s with n := s.n + laysAll ans } := by
  intro i o ho _ j hj
  have := lays_le ans i
  refine ⟨?_, hr.dd _ (by unfold nidOf; omega)⟩
  show nidOf ans s.n i + j < s.n + laysAll ans
  unfold nidOf; omega

/-- A region that keeps the text's order. -/
theorem region_text (hc : COk P c) {id : Nat} {ans : List Ann} {ops : Array Oper} (hdst : ∀ i d, dstOf ops i = some d → d < nt) {s' : SS} (hr : RelE P Z nt s a w)
    (h : RunL c (Good P) ans ops s.n (List.range ops.size) { s with n := s.n + laysAll ans } s') (hQ : ∀ a' w', RelE P Z nt s' a' w' → Q .normal a' w') : (Code.region id ops false).wp P Q a w := by
  obtain ⟨I, μ, ν, hr⟩ := hr
  exact wp_region (runL_ok hc hdst _ _ s' a w (fun _ => False) ⟨I, μ, ν, hr.more _⟩ (fresh_start hr ans ops) List.nodup_range (by simp) h hQ)

end

/-- W j i: i always comes ahead of j. -/
structure Draw (ops : Array Oper) (W : Nat → Nat → Bool) : Prop where
  apart : ∀ (i j : Nat) (x y : Oper), i < j → ops[i]? = some x → ops[j]? = some y → W j i = false → x.apart ops y = true
  back : ∀ (j : Nat) (y : Oper) (e : Edge), ops[j]? = some y → e ∈ y.after → Region.binds .any e = true → e.on < j
  waits : ∀ (j i : Nat) (y : Oper), ops[j]? = some y → W j i = true → ∃ e ∈ y.after, Region.binds .any e = true ∧ (e.on = i ∨ W e.on i = true)

def bitsW (B : List Nat) (j i : Nat) : Bool := (B.getD j 0).testBit i
def edgeBits (B : List Nat) : List Edge → Nat
  | [] => 0
  | e :: es => if Region.binds .any e then (1 <<< e.on) ||| B.getD e.on 0 ||| edgeBits B es else edgeBits B es
def drawChk (ops : Array Oper) (B : List Nat) : Bool :=
  (List.range ops.size).all fun j => match ops[j]? with
    | none => true
    | some y => y.after.toList.all (fun e => !Region.binds .any e || decide (e.on < j)) && (B.getD j 0 == edgeBits B y.after.toList) &&
        (List.range j).all fun i => bitsW B j i || (match ops[i]? with | some x => x.apart ops y | none => true)

theorem edgeBits_spec {B : List Nat} {i : Nat} : ∀ {l : List Edge}, (edgeBits B l).testBit i = true → ∃ e ∈ l, Region.binds .any e = true ∧ (e.on = i ∨ bitsW B e.on i = true)
  | [], h => by simp [edgeBits] at h
  | e :: es, h => by
    unfold edgeBits at h
    split at h
    · rename_i hb
      rw [Nat.testBit_or, Nat.testBit_or, Bool.or_eq_true, Bool.or_eq_true] at h
      rcases h with (h | h) | h
      · refine ⟨e, by simp, hb, .inl ?_⟩
        rw [Nat.one_shiftLeft, Nat.testBit_two_pow] at h
        simpa using h
      · exact ⟨e, by simp, hb, .inr h⟩
      · obtain ⟨f, hf, r⟩ := edgeBits_spec h
        exact ⟨f, by simp [hf], r⟩
    · obtain ⟨f, hf, r⟩ := edgeBits_spec h
      exact ⟨f, by simp [hf], r⟩

theorem drawChk_ok {ops : Array Oper} {B : List Nat} (h : drawChk ops B = true) : Draw ops (bitsW B) := by
  unfold drawChk at h
  rw [List.all_eq_true] at h
  have get : ∀ (j : Nat) (y : Oper), ops[j]? = some y → (∀ e ∈ y.after.toList, (!Region.binds .any e || decide (e.on < j)) = true) ∧ B.getD j 0 = edgeBits B y.after.toList ∧
      ∀ i < j, (bitsW B j i || (match ops[i]? with | some x => x.apart ops y | none => true)) = true := fun j y hy => by
    have := h j (by simp [(Array.getElem?_eq_some_iff.1 hy).1])
    simp only [hy, Bool.and_eq_true, List.all_eq_true, beq_iff_eq, List.mem_range] at this
    exact ⟨this.1.1, this.1.2, this.2⟩
  refine ⟨fun i j x y hij hx hy hw => ?_, fun j y e hy he hb => ?_, fun j i y hy hw => ?_⟩
  · have := (get j y hy).2.2 i hij
    rw [hw, hx, Bool.false_or] at this
    exact this
  · have := (get j y hy).1 e (by simpa using he)
    rw [hb] at this
    simpa using this
  · unfold bitsW at hw
    rw [(get j y hy).2.1] at hw
    obtain ⟨e, he, r⟩ := edgeBits_spec hw
    exact ⟨e, by simpa using he, r⟩

def touchOf (ops : Array Oper) (i : Nat) (s : SS) : List Nat := match ops[i]? with | some o => touchF o.op (evalAV s.t) s.ob | none => []
def disj (a b : List Nat) : Bool := a.all fun q => !b.contains q
theorem disj_spec {a b : List Nat} (h : disj a b = true) : ∀ q ∈ a, q ∉ b := fun q hq hb => by
  have := List.all_eq_true.1 h q hq
  simp [hb] at this

/-- What operation i looked at and turned, and k: they do not meet, or one waits. -/
def Indep (W : Nat → Nat → Bool) (k : Nat) (tk ek : List Nat) (i : Nat) (ti ei : List Nat) : Prop := W i k = true ∨ ((∀ q ∈ ek, q ∉ ti) ∧ (∀ q ∈ ek, q ∉ ei) ∧ ∀ q ∈ tk, q ∉ ei)
def freeB (W : Nat → Nat → Bool) (i : Nat) (ti ei : List Nat) : List (Nat × List Nat × List Nat) → Bool
  | [] => true
  | (k, tk, ek) :: r => (disj ek ti && disj ek ei && disj tk ei || W i k) && freeB W i ti ei r
def pushT (i : Nat) (ti ei : List Nat) (acc : List (Nat × List Nat × List Nat)) : List (Nat × List Nat × List Nat) :=
  match ti, ei with
  | [], [] => acc
  | t, e => (i, t, e) :: acc

theorem freeB_spec {W : Nat → Nat → Bool} {i : Nat} {ti ei : List Nat} : ∀ {acc : List (Nat × List Nat × List Nat)}, freeB W i ti ei acc = true → ∀ k tk ek, (k, tk, ek) ∈ acc → Indep W k tk ek i ti ei
  | [], _, k, tk, ek, hm => by cases hm
  | (k', tk', ek') :: r, h, k, tk, ek, hm => by
    unfold freeB at h
    rw [Bool.and_eq_true, Bool.or_eq_true, Bool.and_eq_true, Bool.and_eq_true] at h
    rcases List.mem_cons.1 hm with e | hm
    · cases e
      rcases h.1 with ⟨⟨h1, h2⟩, h3⟩ | h1
      · exact .inr ⟨disj_spec h1, disj_spec h2, disj_spec h3⟩
      · exact .inl h1
    · exact freeB_spec h.2 k tk ek hm

def RunD (c : Ctx) (G : Cont) (ans : List Ann) (ops : Array Oper) (base : Nat) (W : Nat → Nat → Bool) : List Nat → List (Nat × List Nat × List Nat) → SS → SS → Prop
  | [], _, s, s' => s' = s
  | i :: l, acc, s, s' => ∃ v e, StepR c G ans ops base i s v e ∧ freeB W i (touchOf ops i s) (e.map (·.1)) acc = true ∧
      RunD c G ans ops base W l (pushT i (touchOf ops i s) (e.map (·.1)) acc) (s.put (dstOf ops i) v e) s'

/-- What the text's order met. -/
structure Trace (c : Ctx) (G : Cont) (ans : List Ann) (ops : Array Oper) (base : Nat) (W : Nat → Nat → Bool) (n : Nat) (V : Nat → AV) (E : Nat → List (Nat × AObj)) (St : Nat → SS) : Prop where
  step : ∀ i, i < n → StepR c G ans ops base i (St i) (V i) (E i) ∧ St (i + 1) = (St i).put (dstOf ops i) (V i) (E i)
  indep : ∀ k i, k < i → i < n → Indep W k (touchOf ops k (St k)) ((E k).map (·.1)) i (touchOf ops i (St i)) ((E i).map (·.1))

theorem runD_trace {c : Ctx} {G : Cont} {ans : List Ann} {ops : Array Oper} {base : Nat} {W : Nat → Nat → Bool} : ∀ (k m : Nat) (acc : List (Nat × List Nat × List Nat)) (s s' : SS), RunD c G ans ops base W (List.range' m k) acc s s' →
    ∃ (V : Nat → AV) (E : Nat → List (Nat × AObj)) (St : Nat → SS), St m = s ∧ St (m + k) = s' ∧ (∀ i, m ≤ i → i < m + k → StepR c G ans ops base i (St i) (V i) (E i) ∧ St (i + 1) = (St i).put (dstOf ops i) (V i) (E i)) ∧
      (∀ i, m ≤ i → i < m + k → ∀ j tj ej, (j, tj, ej) ∈ acc → Indep W j tj ej i (touchOf ops i (St i)) ((E i).map (·.1))) ∧
      ∀ j i, m ≤ j → j < i → i < m + k → Indep W j (touchOf ops j (St j)) ((E j).map (·.1)) i (touchOf ops i (St i)) ((E i).map (·.1))
  | 0, m, acc, s, s', h => by
    simp only [List.range', RunD] at h
    exact ⟨fun _ => .junk, fun _ => [], fun _ => s, rfl, h.symm, by intros; omega, by intros; omega, by intros; omega⟩
  | k + 1, m, acc, s, s', h => by
    simp only [List.range', RunD] at h
    obtain ⟨v, e, h1, h2, h3⟩ := h
    obtain ⟨V, E, St, q1, q2, q3, q4, q5⟩ := runD_trace k (m + 1) _ _ s' h3
    refine ⟨fun i => if i = m then v else V i, fun i => if i = m then e else E i, fun i => if i = m then s else St i, by simp, by simp [show m + (k + 1) ≠ m by omega, ← q2]; congr 1; omega, fun i hi hk => ?_, fun i hi hk j tj ej hj => ?_, fun j i hj hji hk => ?_⟩
    · by_cases hm : i = m
      · subst hm; simp [q1, h1]
      · simp only [if_neg hm, if_neg (show i + 1 ≠ m by omega)]
        exact q3 i (by omega) (by omega)
    · by_cases hm : i = m
      · subst hm; simp only [if_true]; exact freeB_spec h2 j tj ej hj
      · simp only [if_neg hm]
        refine q4 i (by omega) (by omega) j tj ej ?_
        unfold pushT
        split
        · exact hj
        · exact List.mem_cons_of_mem _ hj
    · have hm : i ≠ m := by omega
      simp only [if_neg hm]
      by_cases hjm : j = m
      · subst hjm
        simp only [if_true]
        by_cases he : touchOf ops j s = [] ∧ e.map (·.1) = []
        · exact .inr ⟨by simp [he.2], by simp [he.2], by simp [he.1]⟩
        · refine q4 i (by omega) (by omega) j _ _ ?_
          unfold pushT
          split
          · rename_i a b; exact absurd ⟨a, b⟩ he
          · simp
      · simp only [if_neg hjm]
        exact q5 j i (by omega) hji (by omega)

theorem runD_trace' {c : Ctx} {G : Cont} {ans : List Ann} {ops : Array Oper} {base n : Nat} {W : Nat → Nat → Bool} {s s' : SS} (h : RunD c G ans ops base W (List.range n) [] s s') : ∃ (V : Nat → AV) (E : Nat → List (Nat × AObj)) (St : Nat → SS), St 0 = s ∧ St n = s' ∧ Trace c G ans ops base W n V E St := by
  rw [List.range_eq_range'] at h
  obtain ⟨V, E, St, q1, q2, q3, _, q5⟩ := runD_trace n 0 [] s s' h
  simp only [Nat.zero_add] at q2 q3 q5
  exact ⟨V, E, St, q1, q2, ⟨fun i hi => q3 i (Nat.zero_le _) hi, fun k i hk hi => q5 k i (Nat.zero_le _) hk hi⟩⟩

/-! ### The state behind a set of operations -/
def MM (s0 : SS) (dst : Nat → Option Nat) (V : Nat → AV) (E : Nat → List (Nat × AObj)) (L : Nat → Bool) : Nat → SS
  | 0 => s0
  | i + 1 => if L i then (MM s0 dst V E L i).put (dst i) (V i) (E i) else MM s0 dst V E L i

theorem upds_other {f : Nat → AObj} {q : Nat} : ∀ {e : List (Nat × AObj)}, q ∉ e.map (·.1) → upds f e q = f q
  | [], _ => rfl
  | (i, x) :: r, h => by
    simp only [List.map_cons, List.mem_cons, not_or] at h
    rw [upds, upds_other h.2, upd_ne _ _ h.1]
theorem upds_congr {q : Nat} : ∀ {f g : Nat → AObj} {e : List (Nat × AObj)}, f q = g q → upds f e q = upds g e q
  | f, g, [], h => h
  | f, g, (i, x) :: r, h => upds_congr (e := r) (by simp only [upd]; split <;> simp_all)
theorem upds_same {q : Nat} : ∀ {f g : Nat → AObj} {e : List (Nat × AObj)}, q ∈ e.map (·.1) → upds f e q = upds g e q
  | f, g, (i, x) :: r, h => by
    simp only [upds]
    by_cases hq : q ∈ r.map (·.1)
    · exact upds_same hq
    · simp only [List.map_cons, List.mem_cons] at h
      have : q = i := h.resolve_right hq
      subst this
      exact upds_congr (by simp [upd])
theorem upds_comm (f : Nat → AObj) {a b : List (Nat × AObj)} (h : ∀ q ∈ a.map (·.1), q ∉ b.map (·.1)) : upds (upds f a) b = upds (upds f b) a := by
  funext q
  by_cases ha : q ∈ a.map (·.1)
  · rw [upds_other (h q ha)]
    exact upds_same ha
  · rw [upds_other (e := a) ha]
    exact upds_congr (upds_other ha)
theorem put_comm (s : SS) {d d' : Option Nat} {v v' : AV} {e e' : List (Nat × AObj)} (h : ∀ x, d = some x → d' ≠ some x) (he : ∀ q ∈ e.map (·.1), q ∉ e'.map (·.1)) : (s.put d v e).put d' v' e' = (s.put d' v' e').put d v e := by
  simp only [SS.put, SS.mk.injEq, and_true]
  refine ⟨?_, upds_comm _ he⟩
  cases d with
  | none => rfl
  | some x =>
    cases d' with
    | none => rfl
    | some y => exact upd_comm _ _ _ (by rintro rfl; exact h x rfl rfl)

section
variable {s0 : SS} {dst : Nat → Option Nat} {V : Nat → AV} {E : Nat → List (Nat × AObj)} {St : Nat → SS} {n : Nat}

theorem MM_t (h0 : St 0 = s0) (hs : ∀ i, i < n → St (i + 1) = (St i).put (dst i) (V i) (E i)) {L : Nat → Bool} {j x : Nat} (hx : ∀ i, i < n → dst i = some x → (L i = true ↔ i < j)) : ∀ m, m ≤ n → (MM s0 dst V E L m).t x = (St (min m j)).t x
  | 0, _ => by simp [MM, h0]
  | m + 1, hm => by
    have ih := MM_t h0 hs hx m (by omega)
    have stay : dst m ≠ some x → ∀ (s : SS), (s.put (dst m) (V m) (E m)).t x = s.t x := fun hd s => by
      unfold SS.put
      split
      · rename_i d hq
        simp only
        exact upd_ne _ _ (by rintro rfl; exact hd hq)
      · rfl
    have right : dst m ≠ some x → (St (min (m + 1) j)).t x = (St (min m j)).t x := fun hd => by
      by_cases hj : m < j
      · rw [show min (m + 1) j = m + 1 by omega, show min m j = m by omega, hs m (by omega), stay hd]
      · rw [show min (m + 1) j = min m j by omega]
    by_cases hd : dst m = some x
    · have := hx m (by omega) hd
      by_cases hL : L m = true
      · have hj := this.1 hL
        rw [MM, if_pos hL, show min (m + 1) j = m + 1 by omega, hs m (by omega)]
        simp only [SS.put, hd, upd_same]
      · have hj : ¬ m < j := fun q => hL (this.2 q)
        rw [MM, if_neg hL, ih, show min (m + 1) j = min m j by omega]
    · rw [right hd, MM]
      split
      · rw [stay hd]; exact ih
      · exact ih

theorem MM_ob (h0 : St 0 = s0) (hs : ∀ i, i < n → St (i + 1) = (St i).put (dst i) (V i) (E i)) {L : Nat → Bool} {j q : Nat} (hx : ∀ i, i < n → q ∈ (E i).map (·.1) → (L i = true ↔ i < j)) : ∀ m, m ≤ n → (MM s0 dst V E L m).ob q = (St (min m j)).ob q
  | 0, _ => by simp [MM, h0]
  | m + 1, hm => by
    have ih := MM_ob h0 hs hx m (by omega)
    have stay : q ∉ (E m).map (·.1) → ∀ (s : SS), (s.put (dst m) (V m) (E m)).ob q = s.ob q := fun hd s => upds_other hd
    by_cases hd : q ∈ (E m).map (·.1)
    · have := hx m (by omega) hd
      by_cases hL : L m = true
      · have hj := this.1 hL
        rw [MM, if_pos hL, show min (m + 1) j = m + 1 by omega, hs m (by omega)]
        exact upds_same hd
      · have hj : ¬ m < j := fun q => hL (this.2 q)
        rw [MM, if_neg hL, ih, show min (m + 1) j = min m j by omega]
    · have right : (St (min (m + 1) j)).ob q = (St (min m j)).ob q := by
        by_cases hj : m < j
        · rw [show min (m + 1) j = m + 1 by omega, show min m j = m by omega, hs m (by omega), stay hd]
        · rw [show min (m + 1) j = min m j by omega]
      rw [right, MM]
      split
      · rw [stay hd]; exact ih
      · exact ih

/-- One more operation, put behind all. -/
theorem MM_add {L L' : Nat → Bool} {j : Nat} (hj : L j = false) (hL : ∀ i, i ≠ j → L' i = L i) (hLj : L' j = true)
    (hc : ∀ m, j < m → m < n → L m = true → (∀ x, dst j = some x → dst m ≠ some x) ∧ ∀ q ∈ (E j).map (·.1), q ∉ (E m).map (·.1)) :
    ∀ m, m ≤ n → MM s0 dst V E L' m = if m ≤ j then MM s0 dst V E L m else (MM s0 dst V E L m).put (dst j) (V j) (E j)
  | 0, _ => by simp [MM]
  | m + 1, hm => by
    have ih := MM_add hj hL hLj hc m (by omega)
    rw [MM, MM]
    rcases Nat.lt_trichotomy m j with hlt | he | hlt
    · rw [if_pos (show m + 1 ≤ j by omega), ih, if_pos (show m ≤ j by omega), hL m (by omega)]
    · subst he
      rw [if_neg (show ¬ m + 1 ≤ m by omega), if_pos hLj, ih, if_pos (Nat.le_refl _), if_neg (by simp [hj])]
    · rw [if_neg (show ¬ m + 1 ≤ j by omega), ih, if_neg (show ¬ m ≤ j by omega), hL m (by omega)]
      split
      · rename_i hq
        obtain ⟨h1, h2⟩ := hc m hlt (by omega) hq
        exact put_comm _ h1 h2
      · rfl

theorem MM_congr {L L' : Nat → Bool} : ∀ m, (∀ i, i < m → L' i = L i) → MM s0 dst V E L' m = MM s0 dst V E L m
  | 0, _ => rfl
  | m + 1, h => by
    rw [MM, MM, MM_congr m (fun i hi => h i (by omega)), h m (by omega)]

theorem MM_all (h0 : St 0 = s0) (hs : ∀ i, i < n → St (i + 1) = (St i).put (dst i) (V i) (E i)) {L : Nat → Bool} : ∀ m, m ≤ n → (∀ i, i < m → L i = true) → MM s0 dst V E L m = St m
  | 0, _, _ => by simp [MM, h0]
  | m + 1, hm, h => by
    rw [MM, if_pos (h m (by omega)), MM_all h0 hs m (by omega) (fun i hi => h i (by omega)), hs m (by omega)]

end

theorem StepR.local {c : Ctx} {G : Cont} {ans : List Ann} {ops : Array Oper} {base i : Nat} {s s' : SS} {v : AV} {e : List (Nat × AObj)} {o : Oper} (ho : ops[i]? = some o) (h : StepR c G ans ops base i s v e)
    (ht : ∀ x ∈ o.looksAt ops, s.t x = s'.t x) (hob : ∀ q ∈ touchOf ops i s, s.ob q = s'.ob q) : StepR c G ans ops base i s' v e := by
  unfold StepR at *
  unfold touchOf at hob
  simp only [ho] at h hob ⊢
  have hev : ∀ x ∈ o.op.operands, evalAV s.t x = evalAV s'.t x := fun x hx => by
    cases x with
    | tmp t => exact ht t (List.mem_append_left _ (List.mem_filterMap.2 ⟨.tmp t, by simpa using hx, rfl⟩))
    | _ => rfl
  split at h
  · exact h.local hev hob
  · rename_i j want hg
    have hdv : dstVal ops j s'.t = dstVal ops j s.t := by
      unfold dstVal
      cases hd : (ops[j]?).bind (·.dst) with
      | none => rfl
      | some d =>
        simp only
        exact (ht d (List.mem_append_right _ (by simp [hg, hd]))).symm
    rcases h with ⟨b, hb, h⟩ | ⟨hb, h⟩
    rotate_left
    · exact .inr ⟨hdv.trans hb, h⟩
    refine .inl ⟨b, hdv.trans hb, ?_⟩
    · split at h
      · rename_i hbw
        rw [if_pos hbw]
        exact h.local hev hob
      · rename_i hbw
        rw [if_neg hbw]
        exact h

theorem Fresh.mono {ans : List Ann} {ops : Array Oper} {base : Nat} {L L' : Nat → Prop} {s : SS} (h : Fresh ans ops base L s) (hl : ∀ k, L k → L' k) : Fresh ans ops base L' s := fun i o ho hi => h i o ho (fun hh => hi (hl i hh))

theorem Rel.drew {P : Program} {Z : Zst} {nt : Nat} {s : SS} {a : Act} {w : World} {I : Nat → Nat → Prop} {μ : Nat → Nat} {ν : Nat → Value} (h : Rel P Z nt s a w I μ ν) :
    Rel P Z nt s a { w with drawn := w.drawn + 1 } I μ ν :=
  h.on (fun b o hi => ⟨hi, rfl⟩) (fun o b _ => ⟨rfl, fun _ hi => hi⟩) ⟨h.bel.os, h.bel.tape, h.bel.output, h.bel.size, h.bel.block⟩ (fun b o hi => .inl hi) h.i2

section
variable {P : Program} {c : Ctx} {G : Cont} {ans : List Ann} {Z : Zst} {nt : Nat} {Q : Exit → Act → World → Prop} {ops : Array Oper} {W : Nat → Nat → Bool} {base : Nat} {V : Nat → AV} {E : Nat → List (Nat × AObj)} {St : Nat → SS}

def Lof (listed : Array Bool) (i : Nat) : Bool := listed.getD i false

structure InvD (ops : Array Oper) (W : Nat → Nat → Bool) (listed : Array Bool) : Prop where
  size : listed.size = ops.size
  closed : ∀ j, Lof listed j = true → ∀ i, W j i = true → Lof listed i = true

theorem Lof_true {listed : Array Bool} {i : Nat} (h : listed.getD i true = false) : Lof listed i = false ∧ i < listed.size := by
  unfold Lof
  rcases Nat.lt_or_ge i listed.size with h' | h'
  · simp [h'] at h ⊢; exact h
  · simp [Array.getElem?_eq_none h'] at h

theorem Lof_set {listed : Array Bool} {i j : Nat} (hj : j < listed.size) : Lof (listed.setIfInBounds j true) i = if i = j then true else Lof listed i := by
  unfold Lof
  by_cases h : i = j
  · subst h; simp [hj]
  · rw [if_neg h]; exact getD_set_ne false (Ne.symm h)

theorem dstOf_some {i : Nat} {o : Oper} (h : ops[i]? = some o) : dstOf ops i = o.dst := by simp [dstOf, h]
theorem dstOf_lt {i d : Nat} (h : dstOf ops i = some d) : ∃ o, ops[i]? = some o ∧ o.dst = some d := by
  unfold dstOf at h
  cases ho : ops[i]? with
  | none => simp [ho] at h
  | some o => exact ⟨o, rfl, by simpa [ho] using h⟩

theorem ready_step (hW : Draw ops W) (hT : Trace c G ans ops base W ops.size V E St) {listed : Array Bool} (hI : InvD ops W listed) {j : Nat} (hj : j ∈ Region.ready .any ops listed) :
    StepR c G ans ops base j (MM (St 0) (dstOf ops) V E (Lof listed) ops.size) (V j) (E j) ∧
    MM (St 0) (dstOf ops) V E (Lof (listed.setIfInBounds j true)) ops.size = (MM (St 0) (dstOf ops) V E (Lof listed) ops.size).put (dstOf ops j) (V j) (E j) ∧
    InvD ops W (listed.setIfInBounds j true) ∧ Lof listed j = false ∧ j < ops.size := by
  obtain ⟨h0, oj, hoj, hall⟩ := mem_ready.1 hj
  obtain ⟨hLj, hjlt⟩ := Lof_true h0
  have hjn : j < ops.size := hI.size ▸ hjlt
  have hwait : ∀ i, W j i = true → Lof listed i = true := fun i hw => by
    obtain ⟨e, he, hb, hh⟩ := hW.waits j i oj hoj hw
    have h1 : Lof listed e.on = true := hall e he hb
    rcases hh with rfl | hh
    · exact h1
    · exact hI.closed _ h1 i hh
  have hnot : ∀ i, Lof listed i = true → W i j = false := fun i hi => by
    cases hw : W i j with
    | false => rfl
    | true => rw [hI.closed i hi j hw] at hLj; cases hLj
  have hnotj : ∀ i, Lof listed i = false → W j i = false := fun i hi => by
    cases hw : W j i with
    | false => rfl
    | true => rw [hwait i hw] at hi; cases hi
  have hs := fun i hi => (hT.step i hi).2
  have get : ∀ i, i < ops.size → ∃ o, ops[i]? = some o := fun i hi => ⟨ops[i], Array.getElem?_eq_getElem hi⟩
  have ap : ∀ i o, ops[i]? = some o → i < j → Lof listed i = false → o.apart ops oj = true := fun i o ho hij hi => hW.apart i j o oj hij ho hoj (hnotj i hi)
  have ap' : ∀ i o, ops[i]? = some o → j < i → Lof listed i = true → oj.apart ops o = true := fun i o ho hij hi => hW.apart j i oj o hij hoj ho (hnot i hi)
  refine ⟨?_, ?_, ?_, hLj, hjn⟩
  · refine StepR.local hoj (hT.step j hjn).1 (fun x hx => ?_) (fun q hq => ?_)
    · have := MM_t (s0 := St 0) (L := Lof listed) (j := j) (x := x) rfl hs (fun i hi hd => ?_) ops.size (Nat.le_refl _)
      · rw [this, Nat.min_eq_right (Nat.le_of_lt hjn)]
      · obtain ⟨o, ho, hdo⟩ := dstOf_lt hd
        constructor
        · intro hLi
          rcases Nat.lt_trichotomy i j with h | h | h
          · exact h
          · subst h; rw [hLi] at hLj; cases hLj
          · exact absurd hx ((Oper.apart_spec (ap' i o ho h hLi)).2.2 x hdo)
        · intro hij
          cases hLi : Lof listed i with
          | true => rfl
          | false => exact absurd hx ((Oper.apart_spec (ap i o ho hij hLi)).1 x hdo)
    · have := MM_ob (s0 := St 0) (L := Lof listed) (j := j) (q := q) rfl hs (fun i hi hd => ?_) ops.size (Nat.le_refl _)
      · rw [this, Nat.min_eq_right (Nat.le_of_lt hjn)]
      · constructor
        · intro hLi
          rcases Nat.lt_trichotomy i j with h | h | h
          · exact h
          · subst h; rw [hLi] at hLj; cases hLj
          · rcases hT.indep j i h hi with hw | ⟨_, _, h3⟩
            · rw [hnot i hLi] at hw; cases hw
            · exact absurd hd (h3 q hq)
        · intro hij
          cases hLi : Lof listed i with
          | true => rfl
          | false =>
            rcases hT.indep i j hij hjn with hw | ⟨h1, _, _⟩
            · rw [hnotj i hLi] at hw; cases hw
            · exact absurd hq (h1 q hd)
  · have := MM_add (s0 := St 0) (dst := dstOf ops) (V := V) (E := E) (n := ops.size) (L := Lof listed) (L' := Lof (listed.setIfInBounds j true)) hLj (fun i hi => by rw [Lof_set hjlt, if_neg hi]) (by rw [Lof_set hjlt, if_pos rfl])
      (fun m hm hmn hLm => ?_) ops.size (Nat.le_refl _)
    · rw [this, if_neg (by omega)]
    · obtain ⟨o, ho⟩ := get m hmn
      refine ⟨fun x hx => ?_, ?_⟩
      · rw [dstOf_some ho]
        rw [dstOf_some hoj] at hx
        exact (Oper.apart_spec (ap' m o ho hm hLm)).2.1 x hx
      · rcases hT.indep j m hm hmn with hw | ⟨_, h2, _⟩
        · rw [hnot m hLm] at hw; cases hw
        · exact h2
  · refine ⟨by simp [hI.size], fun k hk i hw => ?_⟩
    rw [Lof_set hjlt]
    split
    · rfl
    · rename_i hij
      rw [Lof_set hjlt] at hk
      split at hk
      · rename_i hkj
        subst hkj
        exact hwait i hw
      · exact hI.closed k hk i hw

theorem any_ok (hc : COk P c) (hdst : ∀ i d, dstOf ops i = some d → d < nt) (hW : Draw ops W) (hT : Trace c (Good P) ans ops base W ops.size V E St)
    (hQ : ∀ a' w', RelE P Z nt (St ops.size) a' w' → Q .normal a' w') : ∀ (fuel : Nat) (listed : Array Bool) (U : List Nat) (a : Act) (w : World), InvD ops W listed → (∀ i, i < ops.size → Lof listed i = false → i ∈ U) → U.length ≤ fuel →
      RelE P Z nt (MM (St 0) (dstOf ops) V E (Lof listed) ops.size) a w → Fresh ans ops base (fun i => Lof listed i = true) (MM (St 0) (dstOf ops) V E (Lof listed) ops.size) → wpAny P .any ops Q fuel listed a w := by
  have done : ∀ (listed : Array Bool) (a : Act) (w : World), (∀ i, i < ops.size → Lof listed i = true) → RelE P Z nt (MM (St 0) (dstOf ops) V E (Lof listed) ops.size) a w → Q .normal a w := fun listed a w hl hr => by
    rw [MM_all (n := ops.size) rfl (fun i hi => (hT.step i hi).2) ops.size (Nat.le_refl _) hl] at hr
    exact hQ a w hr
  intro fuel
  induction fuel with
  | zero =>
    intro listed U a w hI hU hlen hr _
    have hl : ∀ i, i < ops.size → Lof listed i = true := fun i hi => by
      cases h : Lof listed i with
      | true => rfl
      | false =>
        have := hU i hi h
        rw [List.eq_nil_of_length_eq_zero (Nat.le_zero.1 hlen)] at this
        cases this
    refine ⟨?_, done listed a w hl hr⟩
    apply List.eq_nil_iff_forall_not_mem.2
    intro j hj
    obtain ⟨h0, oj, hoj, _⟩ := mem_ready.1 hj
    obtain ⟨h1, h2⟩ := Lof_true h0
    rw [hl j (hI.size ▸ h2)] at h1
    cases h1
  | succ fuel ih =>
    intro listed U a w hI hU hlen hr hf
    refine ⟨fun he => done listed a w ?_ hr, fun i hi => ?_⟩
    · intro i
      induction i using Nat.strongRecOn with
      | ind i ihi =>
        intro hi
        cases h : Lof listed i with
        | true => rfl
        | false =>
          exfalso
          have hm : i ∈ Region.ready .any ops listed := by
            refine mem_ready.2 ⟨?_, ops[i], Array.getElem?_eq_getElem hi, fun e he' hb => ?_⟩
            · have hlt : i < listed.size := hI.size ▸ hi
              unfold Lof at h
              simp [hlt] at h ⊢
              exact h
            · have hlt := hW.back i _ e (Array.getElem?_eq_getElem hi) he' hb
              exact ihi e.on hlt (Nat.lt_trans hlt hi)
          rw [he] at hm
          cases hm
    · obtain ⟨h1, h2, h3, h4, h5⟩ := ready_step hW hT hI hi
      obtain ⟨k1, k2⟩ := stepR_ok (Q := Q) hc hr hdst hf (by simp [h4]) h1
      refine wpOp_mono (fun a' w' hr' => ?_) k1
      have hlt : i < listed.size := hI.size ▸ h5
      refine ih (listed.setIfInBounds i true) (U.erase i) a' w' h3 (fun k hk hLk => ?_) ?_ (by rw [h2]; exact hr') ?_
      · rw [Lof_set hlt] at hLk
        split at hLk
        · cases hLk
        · rename_i hne
          exact (List.mem_erase_of_ne hne).2 (hU k hk hLk)
      · have := hU i h5 h4
        rw [List.length_erase_of_mem this]
        omega
      · rw [h2]
        refine (k2.fresh hf).mono fun k hk => ?_
        rw [Lof_set hlt]
        split
        · rfl
        · rename_i hne
          exact hk.resolve_right hne

/-- A region that draws its order. -/
theorem region_draw (hc : COk P c) (hm : P.follows .mixedOrders = true) {id : Nat} {s s' : SS} {a : Act} {w : World} (hdst : ∀ i d, dstOf ops i = some d → d < nt) (hW : Draw ops W) (hr : RelE P Z nt s a w)
    (h : RunD c (Good P) ans ops s.n W (List.range ops.size) [] { s with n := s.n + laysAll ans } s') (hQ : ∀ a' w', RelE P Z nt s' a' w' → Q .normal a' w') : (Code.region id ops true).wp P Q a w := by
  obtain ⟨V, E, St, h0, hn, hT⟩ := runD_trace' h
  obtain ⟨I, μ, ν, hr⟩ := hr
  have hL : ∀ i, Lof (Array.replicate ops.size false) i = false := fun i => by
    unfold Lof
    by_cases hi : i < ops.size <;> simp [hi]
  have hM : MM (St 0) (dstOf ops) V E (Lof (Array.replicate ops.size false)) ops.size = { s with n := s.n + laysAll ans } := by
    have : ∀ m, MM (St 0) (dstOf ops) V E (Lof (Array.replicate ops.size false)) m = St 0 := fun m => by
      induction m with
      | zero => rfl
      | succ m ih => rw [MM, hL, if_neg (by simp), ih]
    rw [this, h0]
  refine wp_region_any hm (any_ok hc hdst hW hT (hn ▸ hQ) ops.size _ (List.range ops.size) a _ ⟨by simp, fun j hj => by rw [hL] at hj; cases hj⟩ (fun i hi _ => by simpa using hi) (by simp) ?_ ?_)
  · rw [hM]; exact ⟨I, μ, ν, (hr.more _).drew⟩
  · rw [hM]
    exact (fresh_start hr ans ops).mono fun k hk => hk.elim

end

end Go.Proofs.YteidaaobppjlbaaV
