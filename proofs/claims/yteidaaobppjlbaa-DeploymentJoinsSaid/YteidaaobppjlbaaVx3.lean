/- What a state of the walk says of the machine's frame and world. -/
import Derived.Test.YteidaaobppjlbaaVx2
set_option linter.unusedVariables false
set_option linter.unusedSimpArgs false
namespace Go.Proofs.YteidaaobppjlbaaV
open Go.RowKit

def upd {α : Type} (f : Nat → α) (i : Nat) (x : α) : Nat → α := fun j => if j = i then x else f j
theorem upd_same {α : Type} (f : Nat → α) (i : Nat) (x : α) : upd f i x i = x := by simp [upd]
theorem upd_ne {α : Type} (f : Nat → α) {i j : Nat} (x : α) (h : j ≠ i) : upd f i x j = f j := by simp [upd, h]
theorem upd_comm {α : Type} (f : Nat → α) {i j : Nat} (x y : α) (h : i ≠ j) : upd (upd f i x) j y = upd (upd f j y) i x := by
  funext k; simp only [upd]; by_cases h1 : k = j <;> by_cases h2 : k = i <;> simp_all
def upds (f : Nat → AObj) : List (Nat × AObj) → Nat → AObj
  | [] => f
  | (i, x) :: r => upds (upd f i x) r

structure SS where
  t : Nat → AV
  ob : Nat → AObj
  n : Nat
def SS.put (s : SS) (dst : Option Nat) (v : AV) (eff : List (Nat × AObj)) : SS :=
  { t := match dst with | some d => upd s.t d v | none => s.t, ob := upds s.ob eff, n := s.n }

/-- The block of an object that lives. -/
def blkOf (μ : Nat → Nat) (ν : Nat → Value) (o : Nat) : AObj → Option Nat
  | .dead => none
  | .vec .. => (ν o).ownBlock
  | _ => some (μ o)

def MapR (w : World) (I : Nat → Nat → Prop) (N : Nat → Prop) (b : Nat) (es : List (D × D)) : Prop :=
  ∃ (ents : Array MapEntry) (clock : Nat), w.heap[b]? = some (.map ents clock) ∧ ents.size = es.length ∧ N b ∧
    (∀ (i : Nat) (k v : D) (e : MapEntry), es[i]? = some (k, v) → ents[i]? = some e → VRd w I k e.key ∧ VRd w I v e.val ∧ e.born < clock) ∧
    (∀ (i j : Nat) (e e' : MapEntry), i < j → ents[i]? = some e → ents[j]? = some e' → e.born < e'.born)

/-- A slice of the call's own. -/
structure VecR (P : Program) (N : Nat → Prop) (w : World) (I : Nat → Nat → Prop) (v : Value) (fz : Bool) (e : TypeId) (sz : Nat) (els : List D) (xs : List Value) : Prop where
  info : ∃ f, P.info? e = some f ∧ f.size = sz
  pos : 0 < sz
  own : w.ownsRow 0 e sz v els.length xs
  size : ∀ el ∈ els, el.cells.length = sz
  rd : ∀ (j : Nat) (d : D) (u : Value), (D.flat els)[j]? = some d → xs[j]? = some u → VRd w I d u
  one : ∀ u ∈ xs, u.oneCell' = true
  new : ∀ b, v.ownBlock = some b → N b
  spare : ∀ b, v.ownBlock = some b → ∀ off, els.length * sz ≤ off → ¬ I b off
  free : fz = false → ∀ b, v.ownBlock = some b → ∀ off, ¬ I b off
  froz : fz = true → ∀ b, v.ownBlock = some b → ∀ off, off < els.length * sz → I b off
def ObR (P : Program) (N : Nat → Prop) (w : World) (I : Nat → Nat → Prop) (μ : Nat → Nat) (ν : Nat → Value) (ob : Nat → AObj) (o : Nat) : AObj → Prop
  | .dead => True
  | .box cs => ∃ (vs : List Value) (t : TypeId), w.heap[μ o]? = some (.cells vs.toArray t (0, 0)) ∧ cs.length = vs.length ∧
      (∀ (i : Nat) (c : AV) (v : Value), cs[i]? = some c → vs[i]? = some v → VR w I μ ν ob c v) ∧ (∀ c ∈ cs, c.sc0 ob) ∧ (∀ v ∈ vs, v.oneCell' = true) ∧ (∀ off, ¬ I (μ o) off) ∧ N (μ o)
  | .vec _ _ fz e sz els => ∃ xs, VecR P N w I (ν o) fz e sz els xs
  | .map es => MapR w I N (μ o) es
  | .iter .. => False

/-- Of what was there when the call began, what is not in N stands. -/
structure Keep (N : Nat → Prop) (w w' : World) : Prop where
  os : w'.os = w.os
  tape : w'.tape = w.tape
  output : w'.output = w.output
  size : w.heap.size ≤ w'.heap.size
  block : ∀ k, k < w.heap.size → ¬ N k → w'.heap[k]? = w.heap[k]?
theorem Keep.refl (N : Nat → Prop) (w : World) : Keep N w w := ⟨rfl, rfl, rfl, Nat.le_refl _, fun _ _ _ => rfl⟩
theorem Keep.trans {N N' : Nat → Prop} {a b c : World} (h : Keep N a b) (k : Keep N' b c) (hn : ∀ q, q < a.heap.size → ¬ N q → ¬ N' q) : Keep N a c :=
  ⟨k.os.trans h.os, k.tape.trans h.tape, k.output.trans h.output, Nat.le_trans h.size k.size, fun q hq hn' => (k.block q (Nat.lt_of_lt_of_le hq h.size) (hn q hq hn')).trans (h.block q hq hn')⟩

/-- How a call leaves the objects that it was handed. -/
structure GoesZ (ob ob' : Nat → AObj) (μ μ' : Nat → Nat) (ν ν' : Nat → Value) : Prop where
  live : ∀ o, ob o ≠ .dead → ob' o ≠ .dead ∧ μ' o = μ o
  vec : ∀ o g mv fz e sz els, ob o = .vec g mv fz e sz els → ∃ g' mv' fz' els', ob' o = .vec g' mv' fz' e sz els' ∧ (mv' = false → ν' o = ν o ∧ els'.length = els.length)
theorem GoesZ.refl (ob : Nat → AObj) (μ : Nat → Nat) (ν : Nat → Value) : GoesZ ob ob μ μ ν ν := ⟨fun _ h => ⟨h, rfl⟩, fun _ g mv fz e sz els h => ⟨g, mv, fz, els, h, fun _ => ⟨rfl, rfl⟩⟩⟩
theorem GoesZ.goes {ob ob1 ob2 : Nat → AObj} {μ μ1 μ2 : Nat → Nat} {ν ν1 ν2 : Nat → Value} (h : GoesZ ob ob1 μ μ1 ν ν1) (k : Goes ob1 ob2 μ1 μ2 ν1 ν2) : GoesZ ob ob2 μ μ2 ν ν2 := by
  refine ⟨fun o ho => ?_, fun o g mv fz e sz els ho => ?_⟩
  · obtain ⟨h1, h2⟩ := h.live o ho
    obtain ⟨k1, k2⟩ := k.live o h1
    exact ⟨k1, k2.trans h2⟩
  · obtain ⟨g1, mv1, fz1, els1, h1, h2⟩ := h.vec o g mv fz e sz els ho
    obtain ⟨g2, mv2, fz2, els2, k1, _, k3, k4⟩ := k.vec o g1 mv1 fz1 e sz els1 h1
    refine ⟨g2, mv2, fz2, els2, k1, fun q => ?_⟩
    have e1 : mv1 = false := by
      cases hm : mv1 with
      | false => rfl
      | true => rw [k3 hm] at q; exact q
    obtain ⟨a1, a2⟩ := k4 (.inr q)
    obtain ⟨b1, b2⟩ := h2 e1
    exact ⟨a1.trans b1, a2.trans b2⟩

/-- Where a call began. -/
structure Zst where
  w : World
  I : Nat → Nat → Prop
  N : Nat → Prop
  ob : Nat → AObj
  μ : Nat → Nat
  ν : Nat → Value
def Zst.new (Z : Zst) (b : Nat) : Prop := Z.N b ∨ Z.w.heap.size ≤ b

/-- The objects of a store. -/
structure StoR (P : Program) (N : Nat → Prop) (ob : Nat → AObj) (n : Nat) (w : World) (I : Nat → Nat → Prop) (μ : Nat → Nat) (ν : Nat → Value) : Prop where
  os : ∀ o, ObR P N w I μ ν ob o (ob o)
  dd : ∀ o, n ≤ o → ob o = .dead
  sep : ∀ o o' b, o ≠ o' → blkOf μ ν o (ob o) = some b → blkOf μ ν o' (ob o') ≠ some b
  i2 : ∀ b o, I b o → b < w.heap.size

structure Rel (P : Program) (Z : Zst) (nt : Nat) (s : SS) (a : Act) (w : World) (I : Nat → Nat → Prop) (μ : Nat → Nat) (ν : Nat → Value) : Prop extends StoR P Z.new s.ob s.n w I μ ν where
  nd : a.defers = []
  size : a.tmps.size = nt
  ts : ∀ i, VR w I μ ν s.ob (s.t i) (a.tmps.getD i undef)
  sc : ∀ i, (s.t i).sc s.ob
  bel : Keep Z.N Z.w w
  i0 : ∀ b o, Z.I b o → I b o ∧ w.cell? ⟨b, o, none⟩ = Z.w.cell? ⟨b, o, none⟩
  i00 : ∀ b o, Z.I b o → b < Z.w.heap.size
  i1 : ∀ b o, I b o → Z.I b o ∨ Z.new b
  go : GoesZ Z.ob s.ob Z.μ μ Z.ν ν

def RelE (P : Program) (Z : Zst) (nt : Nat) (s : SS) (a : Act) (w : World) : Prop := ∃ I μ ν, Rel P Z nt s a w I μ ν

theorem VR.const (w : World) (I : Nat → Nat → Prop) (μ : Nat → Nat) (ν : Nat → Value) (ob : Nat → AObj) (v : Value) : VR w I μ ν ob (constAV v) v := by
  unfold constAV
  split
  · exact .d _ _ (.int _ _)
  · exact .d _ _ (.bool _)
  · exact .d _ _ (.str _)
  · exact .d _ _ .nils
  · exact .nilm
  · exact .nilp
  · exact .nilf
  · exact .junk _
theorem constAV_sc (ob : Nat → AObj) (v : Value) : (constAV v).sc ob := by
  unfold constAV
  split <;> trivial

section
variable {P : Program} {Z : Zst} {nt : Nat} {s : SS} {a : Act} {w : World} {I : Nat → Nat → Prop} {μ : Nat → Nat} {ν : Nat → Value}

theorem Rel.ev (h : Rel P Z nt s a w I μ ν) (x : Operand) : VR w I μ ν s.ob (evalAV s.t x) (a.eval x) := by
  cases x with
  | tmp i => exact h.ts i
  | const v => exact VR.const ..
  | global g => exact .junk _
  | func f => exact .fn f [] []

theorem Rel.evsc (h : Rel P Z nt s a w I μ ν) (x : Operand) : (evalAV s.t x).sc s.ob := by
  cases x with
  | tmp i => exact h.sc i
  | const v => exact constAV_sc ..
  | global g => trivial
  | func f => intro c hc; simp at hc

theorem put_getD {a : Act} {d : Nat} {u : Value} {nt : Nat} (hs : a.tmps.size = nt) (hd : d < nt) (i : Nat) : (a.put (some d) u).tmps.getD i undef = if i = d then u else a.tmps.getD i undef := by
  simp only [Act.put, Array.getD_eq_getD_getElem?, Array.getElem?_setIfInBounds]
  by_cases h : d = i
  · subst h; simp [hs, hd]
  · rw [if_neg h, if_neg (fun e => h e.symm)]

/-- A value is put into its slot; nothing else has turned. -/
theorem Rel.put (h : Rel P Z nt s a w I μ ν) {dst : Option Nat} (hd : ∀ d, dst = some d → d < nt) {v : AV} {u : Value} (hv : VR w I μ ν s.ob v u) (hsc : v.sc s.ob) :
    Rel P Z nt (s.put dst v []) (a.put dst u) w I μ ν := by
  cases dst with
  | none => exact { h with }
  | some d =>
    refine { h with nd := h.nd, size := by simpa [Act.put] using h.size, ts := fun i => ?_, sc := fun i => ?_ }
    · rw [put_getD h.size (hd d rfl)]
      show VR w I μ ν s.ob (upd s.t d v i) _
      by_cases e : i = d
      · subst e; rw [upd_same, if_pos rfl]; exact hv
      · rw [upd_ne _ _ e, if_neg e]; exact h.ts i
    · show (upd s.t d v i).sc s.ob
      by_cases e : i = d
      · subst e; rw [upd_same]; exact hsc
      · rw [upd_ne _ _ e]; exact h.sc i

theorem VecR.grow {w' : World} {N : Nat → Prop} {I' : Nat → Nat → Prop} {v : Value} {fz : Bool} {e : TypeId} {sz : Nat} {els : List D} {xs : List Value} (h : VecR P N w I v fz e sz els xs) (hI : ∀ b o, I b o → I' b o ∧ w'.cell? ⟨b, o, none⟩ = w.cell? ⟨b, o, none⟩)
    (hb : ∀ b, v.ownBlock = some b → w'.heap[b]? = w.heap[b]? ∧ ∀ off, I' b off → I b off) : VecR P N w' I' v fz e sz els xs where
  info := h.info
  pos := h.pos
  own := by
    refine ⟨h.own.1, ?_⟩
    rcases h.own.2 with hnil | ⟨gg, cap, cur, hvv, hN, hh, r⟩
    · exact .inl hnil
    · refine .inr ⟨gg, cap, cur, hvv, hN, ?_, r⟩
      rw [(hb gg (by simp [hvv, Value.ownBlock])).1]; exact hh
  size := h.size
  rd := fun j d u hd hu => (h.rd j d u hd hu).mono hI
  one := h.one
  new := h.new
  spare := fun b hbb off hoff hi => h.spare b hbb off hoff ((hb b hbb).2 off hi)
  free := fun hf b hbb off hi => h.free hf b hbb off ((hb b hbb).2 off hi)
  froz := fun hf b hbb off hoff => (hI b off (h.froz hf b hbb off hoff)).1

/-- The world has gone on: an object that has not turned is still told. -/
theorem ObR.grow {w' : World} {N : Nat → Prop} {I' : Nat → Nat → Prop} {μ' : Nat → Nat} {ν' : Nat → Value} {ob ob' : Nat → AObj} {o : Nat}
    (hx : ObR P N w I μ ν ob o (ob o)) (hI : ∀ b o, I b o → I' b o ∧ w'.cell? ⟨b, o, none⟩ = w.cell? ⟨b, o, none⟩) (hg : Goes ob ob' μ μ' ν ν') (he : ob' o = ob o)
    (hb : ∀ b, blkOf μ ν o (ob o) = some b → w'.heap[b]? = w.heap[b]? ∧ ∀ off, I' b off → I b off) : ObR P N w' I' μ' ν' ob' o (ob o) := by
  have hμ : ob o ≠ .dead → μ' o = μ o := fun h => (hg.live o h).2
  have hν : ∀ g mv fz e sz els, ob o = .vec g mv fz e sz els → ν' o = ν o := fun g mv fz e sz els h => by
    obtain ⟨g', mv', fz', els', h1, h2, h3, h4⟩ := hg.vec o g mv fz e sz els h
    rw [he, h] at h1
    injection h1 with h1
    exact (h4 (.inl h1.symm)).1
  generalize ob o = x at *
  cases x with
  | dead => trivial
  | box cs =>
    obtain ⟨vs, t, h1, h3, h4, h5, h6, h7, h8⟩ := hx
    obtain ⟨b1, b2⟩ := hb _ rfl
    have e := hμ (by simp)
    refine ⟨vs, t, ?_, h3, fun i c v hc hv => VR.mono0 hI hg (h5 c (List.mem_of_getElem? hc)) (h4 i c v hc hv), fun c hc => (h5 c hc).mono hg, h6, fun off hi => ?_, ?_⟩
    · rw [e, b1]; exact h1
    · rw [e] at hi; exact h7 off (b2 off hi)
    · rw [e]; exact h8
  | vec g mv fz e sz els =>
    obtain ⟨xs, h⟩ := hx
    have hv : ν' o = ν o := hν g mv fz e sz els rfl
    exact ⟨xs, by rw [hv]; exact h.grow hI hb⟩
  | map es =>
    obtain ⟨ents, clock, h1, h2, h3, h4, h5⟩ := hx
    obtain ⟨b1, b2⟩ := hb _ rfl
    have e := hμ (by simp)
    refine ⟨ents, clock, ?_, h2, ?_, fun i k v e hk he => ?_, h5⟩
    · rw [e, b1]; exact h1
    · rw [e]; exact h3
    · obtain ⟨q1, q2, q3⟩ := h4 i k v e hk he
      exact ⟨q1.mono hI, q2.mono hI, q3⟩
  | iter m l => exact hx.elim

/-- The one object o turns (or is laid); the world goes on. -/
theorem Rel.turn (h : Rel P Z nt s a w I μ ν) {w' : World} {I' : Nat → Nat → Prop} {μ' : Nat → Nat} {ν' : Nat → Value} {o : Nat} {x : AObj} (ho : o < s.n)
    (hI : ∀ b o, I b o → I' b o ∧ w'.cell? ⟨b, o, none⟩ = w.cell? ⟨b, o, none⟩) (hg : Goes s.ob (upd s.ob o x) μ μ' ν ν')
    (hoth : ∀ o' b, o' ≠ o → blkOf μ ν o' (s.ob o') = some b → w'.heap[b]? = w.heap[b]? ∧ ∀ off, I' b off → I b off)
    (hν : ∀ o', o' ≠ o → blkOf μ' ν' o' (s.ob o') = blkOf μ ν o' (s.ob o'))
    (hx : ObR P Z.new w' I' μ' ν' (upd s.ob o x) o x)
    (hsep : ∀ o' b, o' ≠ o → blkOf μ ν o' (s.ob o') = some b → blkOf μ' ν' o x ≠ some b)
    (hbel : Keep Z.N Z.w w') (h1 : ∀ b off, I' b off → I b off ∨ Z.new b) (h2 : ∀ b off, I' b off → b < w'.heap.size) :
    Rel P Z nt { s with ob := upd s.ob o x } a w' I' μ' ν' where
  nd := h.nd
  size := h.size
  ts := fun i => (h.ts i).mono hI hg (h.sc i)
  sc := fun i => (h.sc i).mono hg
  os := fun o' => by
    show ObR P Z.new w' I' μ' ν' (upd s.ob o x) o' (upd s.ob o x o')
    by_cases e : o' = o
    · subst e; rw [upd_same]; exact hx
    · rw [upd_ne _ _ e]; exact (h.os o').grow hI hg (upd_ne _ _ e) fun b hb => hoth o' b e hb
  dd := fun o' hn => by
    show upd s.ob o x o' = .dead
    rw [upd_ne _ _ (by rintro rfl; exact absurd ho (Nat.not_lt.2 hn))]
    exact h.dd o' hn
  sep := fun o1 o2 b hne h1 h2 => by
    have h1' : blkOf μ' ν' o1 (upd s.ob o x o1) = some b := h1
    have h2' : blkOf μ' ν' o2 (upd s.ob o x o2) = some b := h2
    by_cases e1 : o1 = o
    · subst e1
      rw [upd_same] at h1'
      rw [upd_ne _ _ (Ne.symm hne), hν o2 (Ne.symm hne)] at h2'
      exact hsep o2 b (Ne.symm hne) h2' h1'
    · rw [upd_ne _ _ e1, hν o1 e1] at h1'
      by_cases e2 : o2 = o
      · subst e2
        rw [upd_same] at h2'
        exact hsep o1 b e1 h1' h2'
      · rw [upd_ne _ _ e2, hν o2 e2] at h2'
        exact h.sep o1 o2 b hne h1' h2'
  bel := hbel
  i0 := fun b off hi => ⟨(hI b off (h.i0 b off hi).1).1, (hI b off (h.i0 b off hi).1).2.trans (h.i0 b off hi).2⟩
  i00 := h.i00
  i1 := fun b off hi => by
    rcases h1 b off hi with hi | hi
    · exact h.i1 b off hi
    · exact .inr hi
  i2 := h2
  go := h.go.goes hg

/-- The world goes on; no object turns. -/
theorem Rel.on (h : Rel P Z nt s a w I μ ν) {w' : World} {I' : Nat → Nat → Prop}
    (hI : ∀ b o, I b o → I' b o ∧ w'.cell? ⟨b, o, none⟩ = w.cell? ⟨b, o, none⟩)
    (hoth : ∀ o' b, blkOf μ ν o' (s.ob o') = some b → w'.heap[b]? = w.heap[b]? ∧ ∀ off, I' b off → I b off)
    (hbel : Keep Z.N Z.w w') (h1 : ∀ b off, I' b off → I b off ∨ Z.new b) (h2 : ∀ b off, I' b off → b < w'.heap.size) :
    Rel P Z nt s a w' I' μ ν :=
  have hg := Goes.refl s.ob μ ν
  { nd := h.nd, size := h.size, ts := fun i => (h.ts i).mono hI hg (h.sc i), sc := h.sc, os := fun o' => (h.os o').grow hI hg rfl fun b hb => hoth o' b hb, dd := h.dd, sep := h.sep,
    bel := hbel, i0 := fun b off hi => ⟨(hI b off (h.i0 b off hi).1).1, (hI b off (h.i0 b off hi).1).2.trans (h.i0 b off hi).2⟩, i00 := h.i00,
    i1 := fun b off hi => by
      rcases h1 b off hi with hi | hi
      · exact h.i1 b off hi
      · exact .inr hi
    i2 := h2, go := h.go }

/-- An object's block is there, and may be written. -/
theorem StoR.blk_lt {N : Nat → Prop} {ob : Nat → AObj} {n : Nat} (h : StoR P N ob n w I μ ν) {o b : Nat} (hb : blkOf μ ν o (ob o) = some b) : b < w.heap.size ∧ N b := by
  have hx := h.os o
  generalize ob o = x at *
  cases x with
  | dead => cases hb
  | box cs =>
    obtain ⟨vs, t, h1, _, _, _, _, _, h8⟩ := hx
    injection hb with hb; subst hb
    exact ⟨(Array.getElem?_eq_some_iff.1 h1).1, h8⟩
  | vec g mv fz e sz els =>
    obtain ⟨xs, h⟩ := hx
    exact ⟨(h.own.lt b hb).2, h.new b hb⟩
  | map es =>
    obtain ⟨ents, clock, h1, _, h3, _⟩ := hx
    injection hb with hb; subst hb
    exact ⟨(Array.getElem?_eq_some_iff.1 h1).1, h3⟩
  | iter m l => exact hx.elim
theorem Rel.blk_lt (h : Rel P Z nt s a w I μ ν) {o b : Nat} (hb : blkOf μ ν o (s.ob o) = some b) : b < w.heap.size ∧ Z.new b := h.toStoR.blk_lt hb
theorem Rel.lt_n (h : Rel P Z nt s a w I μ ν) {o : Nat} (ho : s.ob o ≠ .dead) : o < s.n := by
  rcases Nat.lt_or_ge o s.n with hl | hl
  · exact hl
  · exact absurd (h.dd o hl) ho
/-- What an operation of the call's own does to old memory. -/
theorem Rel.keep (h : Rel P Z nt s a w I μ ν) {w' : World} {N : Nat → Prop} (hk : Keep N w w') (hn : ∀ b, b < w.heap.size → N b → Z.new b) : Keep Z.N Z.w w' :=
  ⟨hk.os.trans h.bel.os, hk.tape.trans h.bel.tape, hk.output.trans h.bel.output, Nat.le_trans h.bel.size hk.size, fun q hq hn' => by
    have hq' := Nat.lt_of_lt_of_le hq h.bel.size
    rw [hk.block q hq' fun hN => ?_]
    · exact h.bel.block q hq hn'
    · rcases hn q hq' hN with hz | hz
      · exact hn' hz
      · omega⟩
end

end Go.Proofs.YteidaaobppjlbaaV
