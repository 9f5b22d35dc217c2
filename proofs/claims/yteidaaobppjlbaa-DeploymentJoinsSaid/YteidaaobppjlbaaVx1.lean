/- Plain values and what a machine's value says of them: definitions and laws over any program. -/
import Derived.Calls
import Derived.Orders
import Derived.Below
import Derived.Laws.AppendOwn
import Derived.Laws.AppendOwnNone
import Derived.Laws.OwnMore
import Derived.Laws.Entries
import Derived.Laws.Rows
import Derived.Laws.MakeOwn
import Derived.Maps.AppendAt
set_option linter.unusedVariables false
set_option linter.unusedSimpArgs false
namespace Go.Proofs.YteidaaobppjlbaaV
open Go.RowKit

/-- A datum: no address in it. A slice is the list of its elements. -/
inductive D where
  | int (k : IntKind) (n : Int)
  | bool (b : Bool)
  | str (s : ByteArray)
  | agg (cs : List D)
  | nils
  | sl (els : List D)

/-- Its cells. -/
def D.cells : D → List D
  | .agg cs => cs
  | .int k n => [.int k n]
  | .bool b => [.bool b]
  | .str s => [.str s]
  | .nils => [.nils]
  | .sl els => [.sl els]

def D.flat (els : List D) : List D := els.flatMap D.cells

/-- The value v stands for the datum: slices' elements lie in cells of I, which nobody writes. -/
inductive VRd (w : World) (I : Nat → Nat → Prop) : D → Value → Prop
  | int (k : IntKind) (n : Int) : VRd w I (.int k n) (.int k n)
  | bool (b : Bool) : VRd w I (.bool b) (.bool b)
  | str (s : ByteArray) : VRd w I (.str s) (.string s)
  | nils : VRd w I .nils (.slice none 0 0)
  | agg (cs : List D) (vs : List Value) : cs.length = vs.length → (∀ v ∈ vs, v.oneCell' = true) → (∀ (i : Nat) (c : D) (v : Value), cs[i]? = some c → vs[i]? = some v → VRd w I c v) → VRd w I (.agg cs) (.agg vs.toArray)
  | sl (els : List D) (A : Option Addr) (c sz b off : Nat) (u : Nat → Value) : els.length ≤ c → (∀ e ∈ els, e.cells.length = sz) → (els ≠ [] → A = some ⟨b, off, none⟩) →
      (∀ j, j < els.length * sz → w.cell? ⟨b, off + j, none⟩ = some (u j) ∧ I b (off + j) ∧ (u j).oneCell' = true) →
      (∀ (j : Nat) (d : D), (D.flat els)[j]? = some d → VRd w I d (u j)) → VRd w I (.sl els) (.slice A els.length c)

theorem VRd.mono {w w' : World} {I I' : Nat → Nat → Prop} (h : ∀ b o, I b o → I' b o ∧ w'.cell? ⟨b, o, none⟩ = w.cell? ⟨b, o, none⟩) {d : D} {v : Value} (hv : VRd w I d v) : VRd w' I' d v := by
  induction hv with
  | int k n => exact .int k n
  | bool b => exact .bool b
  | str s => exact .str s
  | nils => exact .nils
  | agg cs vs hl h1 _ ih => exact .agg cs vs hl h1 ih
  | sl els A c sz b off u hc hs hA hcell _ ih =>
    refine .sl els A c sz b off u hc hs hA (fun j hj => ?_) ih
    obtain ⟨h1, h2, h3⟩ := hcell j hj
    exact ⟨(h b _ h2).2.trans h1, (h b _ h2).1, h3⟩

theorem length_flat {els : List D} {sz : Nat} (h : ∀ e ∈ els, e.cells.length = sz) : (D.flat els).length = els.length * sz := by
  induction els with
  | nil => simp [D.flat]
  | cons e es ih =>
    have h1 := h e (by simp)
    have h2 := ih fun x hx => h x (by simp [hx])
    simp only [D.flat, List.flatMap_cons, List.length_append, List.length_cons] at *
    rw [h1, h2, Nat.add_mul]; omega

theorem flat_get {els : List D} {sz : Nat} (h : ∀ e ∈ els, e.cells.length = sz) {i j : Nat} {e c : D} (hi : els[i]? = some e) (hj : e.cells[j]? = some c) : (D.flat els)[i * sz + j]? = some c := by
  induction els generalizing i with
  | nil => simp at hi
  | cons x xs ih =>
    have hx := h x (by simp)
    cases i with
    | zero =>
      simp only [List.getElem?_cons_zero, Option.some.injEq] at hi
      subst hi
      have hlt : j < x.cells.length := (List.getElem?_eq_some_iff.1 hj).1
      simp only [D.flat, List.flatMap_cons, Nat.zero_mul, Nat.zero_add]
      rw [List.getElem?_append_left hlt]; exact hj
    | succ i =>
      simp only [List.getElem?_cons_succ] at hi
      have := ih (fun y hy => h y (by simp [hy])) hi
      simp only [D.flat, List.flatMap_cons]
      rw [List.getElem?_append_right (by rw [hx, Nat.add_mul]; omega), hx, ← this]
      congr 1
      rw [Nat.add_mul]; omega

theorem flat_len_lt {els : List D} {sz : Nat} (h : ∀ e ∈ els, e.cells.length = sz) {i j : Nat} {e c : D} (hi : els[i]? = some e) (hj : e.cells[j]? = some c) : i * sz + j < els.length * sz := by
  have := (List.getElem?_eq_some_iff.1 (flat_get h hi hj)).1
  rwa [length_flat h] at this

/-- A value of the walk: a datum, or what leads to memory of the call's own. -/
inductive AV where
  | d (x : D)
  | ptr (o off : Nat)
  | ep (cs : List D)
  | vs (o g sz lo hi : Nat)
  | pv (o g j sz sub : Nat)
  | mp (o : Nat)
  | nilm
  | nilp
  | fn (g : FuncId) (first caps : List (Nat × Nat))
  | nilf
  | tup (l : List AV)
  | it (o : Nat)
  | junk

/-- An object: variables' cells; a slice's elements ('g': how often it was appended to, 'mv': has it been, 'fz': nobody writes its elements any more, 'sz': cells of an element); a map. -/
inductive AObj where
  | dead
  | box (cs : List AV)
  | vec (g : Nat) (mv fz : Bool) (e : TypeId) (sz : Nat) (els : List D)
  | map (es : List (D × D))
  | iter (m : Nat) (left : List D)

/-- Part of a slice. -/
def viewOk (v0 : Value) (lo hi sz : Nat) (v : Value) : Prop :=
  ∃ (A : Option Addr) (n c : Nat) (A' : Option Addr), v0 = .slice A n c ∧ v = .slice A' (hi - lo) (c - lo) ∧ hi ≤ c ∧ (lo = 0 → A' = A) ∧ (lo < c → A' = A.map (·.add (lo * sz)))
/-- The address of a cell of a slice's element. -/
def cellV (v : Value) (k : Nat) : Value :=
  match v with
  | .slice (some a) _ _ => .pointer (some ⟨a.block, a.off + k, none⟩)
  | _ => .pointer none

def sliceLike (n : Nat) (v : Value) : Prop := ∃ (A : Option Addr) (c : Nat), v = .slice A n c ∧ n ≤ c ∧ (0 < n → ∃ b off, A = some ⟨b, off, none⟩)
def ptrLike (v : Value) : Prop := ∃ b q, v = .pointer (some ⟨b, q, none⟩)
def ptrV (μ : Nat → Nat) (c : Nat × Nat) : Value := .pointer (some ⟨μ c.1, c.2, none⟩)

/-- The value v stands for the walk's value: μ says where boxes and maps lie, ν the newest value of each slice. -/
inductive VR (w : World) (I : Nat → Nat → Prop) (μ : Nat → Nat) (ν : Nat → Value) (ob : Nat → AObj) : AV → Value → Prop
  | d (x : D) (v : Value) : VRd w I x v → VR w I μ ν ob (.d x) v
  | ptr (o off : Nat) : VR w I μ ν ob (.ptr o off) (.pointer (some ⟨μ o, off, none⟩))
  | ep (cs : List D) (b off : Nat) (u : Nat → Value) : (∀ j, j < cs.length → w.cell? ⟨b, off + j, none⟩ = some (u j) ∧ I b (off + j) ∧ (u j).oneCell' = true) → (∀ (j : Nat) (d : D), cs[j]? = some d → VRd w I d (u j)) →
      VR w I μ ν ob (.ep cs) (.pointer (some ⟨b, off, none⟩))
  | vs (o g sz lo hi : Nat) (v : Value) : sliceLike (hi - lo) v → (∀ mv fz e sz' els, ob o = .vec g mv fz e sz' els → sz' = sz ∧ lo ≤ hi ∧ hi ≤ els.length ∧ viewOk (ν o) lo hi sz v) → VR w I μ ν ob (.vs o g sz lo hi) v
  | pv (o g j sz sub : Nat) (v : Value) : ptrLike v → (∀ mv fz e sz' els, ob o = .vec g mv fz e sz' els → sz' = sz ∧ j < els.length ∧ v = cellV (ν o) (j * sz + sub)) → VR w I μ ν ob (.pv o g j sz sub) v
  | mp (o : Nat) : VR w I μ ν ob (.mp o) (.map (some (μ o)))
  | nilm : VR w I μ ν ob .nilm (.map none)
  | nilp : VR w I μ ν ob .nilp (.pointer none)
  | fn (g : FuncId) (first caps : List (Nat × Nat)) : VR w I μ ν ob (.fn g first caps) (.func (.func g) (first.map (ptrV μ)).toArray (caps.map (ptrV μ)).toArray)
  | nilf : VR w I μ ν ob .nilf .nilFunc
  | tup (l : List AV) (vs : List Value) : l.length = vs.length → (∀ (i : Nat) (x : AV) (v : Value), l[i]? = some x → vs[i]? = some v → VR w I μ ν ob x v) → VR w I μ ν ob (.tup l) (.tuple vs.toArray)
  | it (o : Nat) : VR w I μ ν ob (.it o) (.pointer (some ⟨μ o, 0, none⟩))
  | junk (v : Value) : VR w I μ ν ob .junk v

/-- The objects that a value names live. -/
def AV.sc0 (ob : Nat → AObj) : AV → Prop
  | .ptr o _ | .mp o | .it o => ob o ≠ .dead
  | .vs o g _ _ _ | .pv o g _ _ _ => ∃ g' mv fz e sz els, ob o = .vec g' mv fz e sz els ∧ g ≤ g'
  | .fn _ first caps => ∀ c ∈ first ++ caps, ob c.1 ≠ .dead
  | .tup _ => False
  | _ => True
def AV.sc (ob : Nat → AObj) : AV → Prop
  | .tup l => ∀ x ∈ l, x.sc0 ob
  | x => x.sc0 ob

theorem AV.sc0.sc {ob : Nat → AObj} {x : AV} (h : x.sc0 ob) : x.sc ob := by
  cases x <;> first | exact h | exact h.elim

/-- How objects go on: what lives goes on living where it lies; a slice's number only grows, and while it stands its newest value stands. -/
structure Goes (ob ob' : Nat → AObj) (μ μ' : Nat → Nat) (ν ν' : Nat → Value) : Prop where
  live : ∀ o, ob o ≠ .dead → ob' o ≠ .dead ∧ μ' o = μ o
  vec : ∀ o g mv fz e sz els, ob o = .vec g mv fz e sz els → ∃ g' mv' fz' els', ob' o = .vec g' mv' fz' e sz els' ∧ g ≤ g' ∧ (mv = true → mv' = true) ∧ ((g' = g ∨ mv' = false) → ν' o = ν o ∧ els'.length = els.length)

theorem Goes.refl (ob : Nat → AObj) (μ : Nat → Nat) (ν : Nat → Value) : Goes ob ob μ μ ν ν := ⟨fun _ h => ⟨h, rfl⟩, fun _ g mv fz e sz els h => ⟨g, mv, fz, els, h, Nat.le_refl _, id, fun _ => ⟨rfl, rfl⟩⟩⟩
theorem Goes.trans {ob ob1 ob2 : Nat → AObj} {μ μ1 μ2 : Nat → Nat} {ν ν1 ν2 : Nat → Value} (h : Goes ob ob1 μ μ1 ν ν1) (k : Goes ob1 ob2 μ1 μ2 ν1 ν2) : Goes ob ob2 μ μ2 ν ν2 := by
  refine ⟨fun o ho => ?_, fun o g mv fz e sz els ho => ?_⟩
  · obtain ⟨h1, h2⟩ := h.live o ho
    obtain ⟨k1, k2⟩ := k.live o h1
    exact ⟨k1, k2.trans h2⟩
  · obtain ⟨g1, mv1, fz1, els1, h1, h2, h3, h4⟩ := h.vec o g mv fz e sz els ho
    obtain ⟨g2, mv2, fz2, els2, k1, k2, k3, k4⟩ := k.vec o g1 mv1 fz1 e sz els1 h1
    refine ⟨g2, mv2, fz2, els2, k1, Nat.le_trans h2 k2, fun q => k3 (h3 q), fun q => ?_⟩
    have e1 : g2 = g1 ∨ mv2 = false := by
      rcases q with q | q
      · exact .inl (by omega)
      · exact .inr q
    have e2 : g1 = g ∨ mv1 = false := by
      rcases q with q | q
      · exact .inl (by omega)
      · right; cases hm : mv1 with
        | false => rfl
        | true => rw [k3 hm] at q; exact q
    obtain ⟨a1, a2⟩ := k4 e1
    obtain ⟨b1, b2⟩ := h4 e2
    exact ⟨a1.trans b1, a2.trans b2⟩

theorem AV.sc0.mono {ob ob' : Nat → AObj} {μ μ' : Nat → Nat} {ν ν' : Nat → Value} (hg : Goes ob ob' μ μ' ν ν') {x : AV} (h : x.sc0 ob) : x.sc0 ob' := by
  cases x with
  | ptr o off => exact (hg.live o h).1
  | mp o => exact (hg.live o h).1
  | it o => exact (hg.live o h).1
  | vs o g sz0 lo hi =>
    obtain ⟨g1, mv, fz, e, sz, els, h1, h2⟩ := h
    obtain ⟨g2, mv2, fz2, els2, h3, h4, _⟩ := hg.vec o g1 mv fz e sz els h1
    exact ⟨g2, mv2, fz2, e, sz, els2, h3, Nat.le_trans h2 h4⟩
  | pv o g j sz sub =>
    obtain ⟨g1, mv, fz, e, sz, els, h1, h2⟩ := h
    obtain ⟨g2, mv2, fz2, els2, h3, h4, _⟩ := hg.vec o g1 mv fz e sz els h1
    exact ⟨g2, mv2, fz2, e, sz, els2, h3, Nat.le_trans h2 h4⟩
  | fn g first caps => exact fun c hc => (hg.live c.1 (h c hc)).1
  | tup l => exact h.elim
  | _ => trivial
theorem AV.sc.mono {ob ob' : Nat → AObj} {μ μ' : Nat → Nat} {ν ν' : Nat → Value} (hg : Goes ob ob' μ μ' ν ν') {x : AV} (h : x.sc ob) : x.sc ob' := by
  cases x with
  | tup l => exact fun y hy => (h y hy).mono hg
  | _ => exact AV.sc0.sc (AV.sc0.mono hg h)

/-- What stood for a value still does. -/
theorem VR.mono0 {w w' : World} {I I' : Nat → Nat → Prop} {μ μ' : Nat → Nat} {ν ν' : Nat → Value} {ob ob' : Nat → AObj}
    (h : ∀ b o, I b o → I' b o ∧ w'.cell? ⟨b, o, none⟩ = w.cell? ⟨b, o, none⟩) (hg : Goes ob ob' μ μ' ν ν') {x : AV} {v : Value} (hs : x.sc0 ob) (hv : VR w I μ ν ob x v) : VR w' I' μ' ν' ob' x v := by
  cases hv with
  | d x v hd => exact .d _ _ (hd.mono h)
  | ptr o off => rw [← (hg.live o hs).2]; exact .ptr o off
  | ep cs b off u hc hd =>
    exact .ep cs b off u (fun j hj => ⟨(h b _ (hc j hj).2.1).2.trans (hc j hj).1, (h b _ (hc j hj).2.1).1, (hc j hj).2.2⟩) fun j d hj => (hd j d hj).mono h
  | vs o g sz lo hi v hl hh =>
    refine .vs o g sz lo hi v hl fun mv' fz' e' sz' els' ho' => ?_
    obtain ⟨g1, mv, fz, e, sz1, els, h1, h2⟩ := hs
    obtain ⟨g2, mv2, fz2, els2, h3, h4, h5, h6⟩ := hg.vec o g1 mv fz e sz1 els h1
    rw [h3] at ho'
    injection ho' with e1 e2 e3 e4 e5 e6
    obtain rfl : g1 = g := by omega
    obtain ⟨q1, q2⟩ := h6 (.inl e1)
    obtain ⟨a0, a1, a2, a3⟩ := hh mv fz e sz1 els h1
    subst e5; subst e6
    exact ⟨a0, a1, by omega, by rw [q1]; exact a3⟩
  | pv o g j sz sub v hl hh =>
    refine .pv o g j sz sub v hl fun mv' fz' e' sz' els' ho' => ?_
    obtain ⟨g1, mv, fz, e, sz1, els, h1, h2⟩ := hs
    obtain ⟨g2, mv2, fz2, els2, h3, h4, h5, h6⟩ := hg.vec o g1 mv fz e sz1 els h1
    rw [h3] at ho'
    injection ho' with e1 e2 e3 e4 e5 e6
    obtain rfl : g1 = g := by omega
    obtain ⟨q1, q2⟩ := h6 (.inl e1)
    obtain ⟨a1, a2, a3⟩ := hh mv fz e sz1 els h1
    subst e5; subst e6
    exact ⟨a1, by omega, by rw [q1]; exact a3⟩
  | mp o => rw [← (hg.live o hs).2]; exact .mp o
  | nilm => exact .nilm
  | nilp => exact .nilp
  | fn g first caps =>
    have e : ∀ l : List (Nat × Nat), (∀ c ∈ l, ob c.1 ≠ .dead) → l.map (ptrV μ) = l.map (ptrV μ') := fun l hl => List.map_congr_left fun c hc => by unfold ptrV; rw [(hg.live c.1 (hl c hc)).2]
    rw [e first fun c hc => hs c (List.mem_append_left _ hc), e caps fun c hc => hs c (List.mem_append_right _ hc)]; exact .fn g first caps
  | nilf => exact .nilf
  | tup l vs hl hp => exact hs.elim
  | it o => rw [← (hg.live o hs).2]; exact .it o
  | junk v => exact .junk v
theorem VR.mono {w w' : World} {I I' : Nat → Nat → Prop} {μ μ' : Nat → Nat} {ν ν' : Nat → Value} {ob ob' : Nat → AObj}
    (h : ∀ b o, I b o → I' b o ∧ w'.cell? ⟨b, o, none⟩ = w.cell? ⟨b, o, none⟩) (hg : Goes ob ob' μ μ' ν ν') {x : AV} {v : Value} (hs : x.sc ob) (hv : VR w I μ ν ob x v) : VR w' I' μ' ν' ob' x v := by
  cases x with
  | tup l =>
    cases hv with
    | tup l vs hl hp => exact .tup l vs hl fun i y u hy hu => (hp i y u hy hu).mono0 h hg (hs y (List.mem_of_getElem? hy))
  | _ => exact hv.mono0 h hg hs

/-! ### Names of objects; other names for them -/
def AV.oids0 : AV → List Nat
  | .ptr o _ | .mp o | .it o | .vs o _ _ _ _ | .pv o _ _ _ _ => [o]
  | .fn _ a b => a.map (·.1) ++ b.map (·.1)
  | _ => []
def AV.oids : AV → List Nat
  | .tup l => l.flatMap AV.oids0
  | x => x.oids0
def AObj.oids : AObj → List Nat
  | .box cs => cs.flatMap AV.oids0
  | _ => []
/-- A value under other names: f says how, 'gn' which numbers the slices have there. -/
def renG (f : Nat → Nat) (gn : Nat → Nat) (g sz lo hi o : Nat) : AObj → AV
  | .vec g' _ _ _ _ _ => if g' = g then .vs (f o) (gn o) sz lo hi else .junk
  | _ => .junk
def renP (f : Nat → Nat) (gn : Nat → Nat) (g j sz sub o : Nat) : AObj → AV
  | .vec g' _ _ _ _ _ => if g' = g then .pv (f o) (gn o) j sz sub else .junk
  | _ => .junk
def AV.ren0 (f : Nat → Nat) (ob : Nat → AObj) (gn : Nat → Nat) : AV → AV
  | .ptr o k => .ptr (f o) k
  | .mp o => .mp (f o)
  | .it o => .it (f o)
  | .vs o g sz lo hi => renG f gn g sz lo hi o (ob o)
  | .pv o g j sz sub => renP f gn g j sz sub o (ob o)
  | .fn g a b => .fn g (a.map fun c => (f c.1, c.2)) (b.map fun c => (f c.1, c.2))
  | .tup _ => .junk
  | x => x
def AV.ren (f : Nat → Nat) (ob : Nat → AObj) (gn : Nat → Nat) : AV → AV
  | .tup l => .tup (l.map (AV.ren0 f ob gn))
  | x => x.ren0 f ob gn

/-- f leads from the store ob to the store ob2. -/
def Leads (f : Nat → Nat) (gn : Nat → Nat) (ob ob2 : Nat → AObj) (μ μ2 : Nat → Nat) (ν ν2 : Nat → Value) (o : Nat) : Prop :=
  μ2 (f o) = μ o ∧ ν2 (f o) = ν o ∧ (ob o ≠ .dead → ob2 (f o) ≠ .dead) ∧ ∀ g mv fz e sz els, ob o = .vec g mv fz e sz els → ∃ mv2 fz2, ob2 (f o) = .vec (gn o) mv2 fz2 e sz els

theorem VR.ren0 {w : World} {I : Nat → Nat → Prop} {f gn : Nat → Nat} {ob ob2 : Nat → AObj} {μ μ2 : Nat → Nat} {ν ν2 : Nat → Value} {x : AV} {v : Value} (hs : x.sc0 ob) (h : ∀ o ∈ x.oids0, Leads f gn ob ob2 μ μ2 ν ν2 o) (hv : VR w I μ ν ob x v) :
    VR w I μ2 ν2 ob2 (x.ren0 f ob gn) v ∧ (x.ren0 f ob gn).sc0 ob2 := by
  cases hv with
  | d x v hd => exact ⟨.d _ _ hd, trivial⟩
  | ptr o off =>
    obtain ⟨h1, _, h3, _⟩ := h o (by simp [AV.oids0])
    exact ⟨by simp only [AV.ren0]; rw [← h1]; exact .ptr _ _, h3 hs⟩
  | ep cs b off u hc hd => exact ⟨.ep cs b off u hc hd, trivial⟩
  | vs o g sz lo hi v hl hh =>
    obtain ⟨g1, mv, fz, e, sz1, els, h1, h2⟩ := hs
    obtain ⟨_, h3, _, h4⟩ := h o (by simp [AV.oids0])
    obtain ⟨mv2, fz2, h5⟩ := h4 _ _ _ _ _ _ h1
    simp only [AV.ren0, h1, renG]
    split
    · rename_i hgg
      subst hgg
      refine ⟨.vs _ _ _ _ _ _ hl fun mv' fz' e' sz' els' ho' => ?_, ⟨_, _, _, _, _, _, h5, Nat.le_refl _⟩⟩
      rw [h5] at ho'
      injection ho' with _ _ _ _ e5 e6
      subst e5; subst e6
      rw [h3]
      exact hh mv fz e sz1 els h1
    · exact ⟨.junk _, trivial⟩
  | pv o g j sz sub v hl hh =>
    obtain ⟨g1, mv, fz, e, sz1, els, h1, h2⟩ := hs
    obtain ⟨_, h3, _, h4⟩ := h o (by simp [AV.oids0])
    obtain ⟨mv2, fz2, h5⟩ := h4 _ _ _ _ _ _ h1
    simp only [AV.ren0, h1, renP]
    split
    · rename_i hgg
      subst hgg
      refine ⟨.pv _ _ _ _ _ _ hl fun mv' fz' e' sz' els' ho' => ?_, ⟨_, _, _, _, _, _, h5, Nat.le_refl _⟩⟩
      rw [h5] at ho'
      injection ho' with _ _ _ _ e5 e6
      subst e5; subst e6
      rw [h3]
      exact hh mv fz e sz1 els h1
    · exact ⟨.junk _, trivial⟩
  | mp o =>
    obtain ⟨h1, _, h3, _⟩ := h o (by simp [AV.oids0])
    exact ⟨by simp only [AV.ren0]; rw [← h1]; exact .mp _, h3 hs⟩
  | nilm => exact ⟨.nilm, trivial⟩
  | nilp => exact ⟨.nilp, trivial⟩
  | fn g a b =>
    have e : ∀ l : List (Nat × Nat), (∀ c ∈ l, Leads f gn ob ob2 μ μ2 ν ν2 c.1) → l.map (ptrV μ) = (l.map fun c => (f c.1, c.2)).map (ptrV μ2) := fun l hl => by
      rw [List.map_map]
      exact List.map_congr_left fun c hc => by simp only [Function.comp, ptrV]; rw [(hl c hc).1]
    have ha : ∀ c ∈ a, Leads f gn ob ob2 μ μ2 ν ν2 c.1 := fun c hc => h c.1 (by simp only [AV.oids0, List.mem_append, List.mem_map]; exact .inl ⟨c, hc, rfl⟩)
    have hb : ∀ c ∈ b, Leads f gn ob ob2 μ μ2 ν ν2 c.1 := fun c hc => h c.1 (by simp only [AV.oids0, List.mem_append, List.mem_map]; exact .inr ⟨c, hc, rfl⟩)
    refine ⟨by simp only [AV.ren0]; rw [e a ha, e b hb]; exact .fn _ _ _, ?_⟩
    intro c hc
    rcases List.mem_append.1 hc with hc | hc
    · obtain ⟨c', hc', rfl⟩ := List.mem_map.1 hc
      exact (ha c' hc').2.2.1 (hs c' (List.mem_append_left _ hc'))
    · obtain ⟨c', hc', rfl⟩ := List.mem_map.1 hc
      exact (hb c' hc').2.2.1 (hs c' (List.mem_append_right _ hc'))
  | nilf => exact ⟨.nilf, trivial⟩
  | tup l vs hl hp => exact hs.elim
  | it o =>
    obtain ⟨h1, _, h3, _⟩ := h o (by simp [AV.oids0])
    exact ⟨by simp only [AV.ren0]; rw [← h1]; exact .it _, h3 hs⟩
  | junk v => exact ⟨.junk v, trivial⟩
theorem VR.ren {w : World} {I : Nat → Nat → Prop} {f gn : Nat → Nat} {ob ob2 : Nat → AObj} {μ μ2 : Nat → Nat} {ν ν2 : Nat → Value} {x : AV} {v : Value} (hs : x.sc ob) (h : ∀ o ∈ x.oids, Leads f gn ob ob2 μ μ2 ν ν2 o) (hv : VR w I μ ν ob x v) :
    VR w I μ2 ν2 ob2 (x.ren f ob gn) v ∧ (x.ren f ob gn).sc ob2 := by
  cases x with
  | tup l =>
    cases hv with
    | tup l vs hl hp =>
      have key : ∀ (i : Nat) (x : AV) (v : Value), l[i]? = some x → vs[i]? = some v → VR w I μ2 ν2 ob2 (x.ren0 f ob gn) v ∧ (x.ren0 f ob gn).sc0 ob2 := fun i x v hx hv =>
        (hp i x v hx hv).ren0 (hs x (List.mem_of_getElem? hx)) fun o ho => h o (by simp only [AV.oids, List.mem_flatMap]; exact ⟨x, List.mem_of_getElem? hx, ho⟩)
      refine ⟨.tup _ _ (by simpa using hl) fun i x v hx hv => ?_, fun x hx => ?_⟩
      · rw [List.getElem?_map] at hx
        obtain ⟨y, hy, rfl⟩ := Option.map_eq_some_iff.1 hx
        exact (key i y v hy hv).1
      · obtain ⟨y, hy, rfl⟩ := List.mem_map.1 hx
        obtain ⟨i, hi⟩ := List.mem_iff_getElem?.1 hy
        have hlt : i < vs.length := by rw [← hl]; exact (List.getElem?_eq_some_iff.1 hi).1
        exact (key i y _ hi (List.getElem?_eq_getElem hlt)).2
  | _ =>
    have q := fun hs' (h' : _) => VR.ren0 (f := f) (gn := gn) (ob := ob) (ob2 := ob2) (μ := μ) (μ2 := μ2) (ν := ν) (ν2 := ν2) hs' h' hv
    exact ⟨(q hs h).1, (q hs h).2.sc⟩

end Go.Proofs.YteidaaobppjlbaaV
