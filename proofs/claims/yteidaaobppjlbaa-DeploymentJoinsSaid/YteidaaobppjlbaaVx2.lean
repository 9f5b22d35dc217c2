/- The table of types, and what each operation gives over the walk's values: definitions. -/
import Derived.Test.YteidaaobppjlbaaVx1
set_option linter.unusedVariables false
set_option linter.unusedSimpArgs false
namespace Go.Proofs.YteidaaobppjlbaaV
open Go.RowKit

/-! ### The table of types -/
inductive TK where
  | int (k : IntKind) | bool | str | slice (e : TypeId) | struct (fs : List (Nat × TypeId × Nat)) | arr (n : Nat) (e : TypeId) | map (k e : TypeId) | other
structure TyI where
  kind : TK
  size : Nat
  bytes : Nat
  zero : List AV
abbrev Tbl := List (TypeId × TyI)
def Tbl.get : Tbl → TypeId → Option TyI
  | [], _ => none
  | (u, i) :: r, t => if u = t then some i else Tbl.get r t
def TK.agg : TK → Bool
  | .struct _ | .arr .. => true
  | _ => false

def litEq : Value → AV → Bool
  | .int k n, .d (.int k' m) => decide (k = k') && decide (n = m)
  | .bool a, .d (.bool b) => a == b
  | .string s, .d (.str t) => s.size == 0 && t.size == 0
  | .slice none n c, .d .nils => n == 0 && c == 0
  | .map none, .nilm => true
  | .pointer none, .nilp => true
  | .nilFunc, .nilf => true
  | _, _ => false
def litsEq : List Value → List AV → Bool
  | [], [] => true
  | v :: vs, x :: xs => litEq v x && litsEq vs xs
  | _, _ => false
def fieldsEq (P : Program) : List Field → List (Nat × TypeId × Nat) → Bool
  | [], [] => true
  | f :: fs, (o, t, n) :: gs => f.offset == o && f.type == t && n != 0 && (match P.info? t with | some i => i.size == n | none => false) && fieldsEq P fs gs
  | _, _ => false
def kindEq (P : Program) : TypeDesc → TK → Bool
  | .int k, .int k' => decide (k = k')
  | .bool, .bool => true
  | .string, .str => true
  | .slice e, .slice e' => e == e'
  | .struct fs, .struct gs => fieldsEq P fs.toList gs
  | .array n e, .arr n' e' => n == n' && e == e'
  | .map k e, .map k' e' => k == k' && e == e'
  | .struct _, _ => false
  | .array .., _ => false
  | _, .other => true
  | _, _ => false
def isAggV : Value → Bool
  | .agg _ => true
  | _ => false
def tyChk (P : Program) (t : TypeId) (i : TyI) : Bool :=
  match P.info? t, P.underlying t with
  | some f, some u => f.size == i.size && f.bytes == i.bytes && (match f.zero with | some z => litsEq z.cells.toList i.zero && z.cells.size == i.size && isAggV z == i.kind.agg | none => false) && kindEq P u i.kind
  | _, _ => false
def TOk (P : Program) (T : Tbl) : Prop := T.all (fun p => tyChk P p.1 p.2) = true

theorem TOk.get {P : Program} {T : Tbl} (h : TOk P T) {t : TypeId} {i : TyI} (hg : T.get t = some i) : tyChk P t i = true := by
  unfold TOk at h
  induction T with
  | nil => simp [Tbl.get] at hg
  | cons p r ih =>
    obtain ⟨u, j⟩ := p
    simp only [List.all_cons, Bool.and_eq_true] at h
    simp only [Tbl.get] at hg
    split at hg
    · rename_i he
      subst he
      injection hg with hg
      subst hg
      exact h.1
    · exact ih h.2 hg

structure TyOk (P : Program) (t : TypeId) (i : TyI) : Prop where
  info : ∃ f, P.info? t = some f ∧ f.size = i.size ∧ f.bytes = i.bytes ∧ ∃ z, f.zero = some z ∧ litsEq z.cells.toList i.zero = true ∧ z.cells.size = i.size
  und : ∃ u, P.underlying t = some u ∧ kindEq P u i.kind = true
  shape : ∀ f z, P.info? t = some f → f.zero = some z → isAggV z = i.kind.agg
theorem TOk.ok {P : Program} {T : Tbl} (h : TOk P T) {t : TypeId} {i : TyI} (hg : T.get t = some i) : TyOk P t i := by
  have := h.get hg
  unfold tyChk at this
  split at this
  · rename_i f u hf hu
    simp only [Bool.and_eq_true, beq_iff_eq] at this
    obtain ⟨⟨⟨h1, h2⟩, h3⟩, h4⟩ := this
    split at h3
    · rename_i z hz
      simp only [Bool.and_eq_true, beq_iff_eq] at h3
      exact ⟨⟨f, hf, h1, h2, z, hz, h3.1.1, h3.1.2⟩, ⟨u, hu, h4⟩, fun f' z' hf' hz' => by rw [hf] at hf'; injection hf' with hf'; subst hf'; rw [hz] at hz'; injection hz' with hz'; subst hz'; exact h3.2⟩
    · simp at h3
  · simp at this

def constAV : Value → AV
  | .int k n => .d (.int k n)
  | .bool b => .d (.bool b)
  | .string s => .d (.str s)
  | .slice none 0 0 => .d .nils
  | .map none => .nilm
  | .pointer none => .nilp
  | .nilFunc => .nilf
  | _ => .junk


def evalAV (t : Nat → AV) : Operand → AV
  | .tmp i => t i
  | .const v => constAV v
  | .global _ => .junk
  | .func f => .fn f [] []

/-- '==' of two rows of cells, numbers, bools and strings alone. -/
def eqCells : List D → List D → Option Bool
  | [], [] => some true
  | [.int _ a], [.int _ b] => some (a == b)
  | [.bool a], [.bool b] => some (a == b)
  | [.str a], [.str b] => some (a.toList == b.toList)
  | .int _ a :: xs, .int _ b :: ys => (eqCells xs ys).map fun r => (a == b && r)
  | .bool a :: xs, .bool b :: ys => (eqCells xs ys).map fun r => (a == b && r)
  | .str a :: xs, .str b :: ys => (eqCells xs ys).map fun r => (a.toList == b.toList && r)
  | _, _ => none

/-- The kinds of a struct's cells, where all are numbers, bools and strings. -/
inductive EK where
  | int (k : IntKind) | bool | str
def EK.has : EK → D → Bool
  | .int k, .int k' _ => decide (k = k')
  | .bool, .bool _ => true
  | .str, .str _ => true
  | _, _ => false
def EK.hasAll : List EK → List D → Bool
  | [], [] => true
  | k :: ks, d :: ds => k.has d && EK.hasAll ks ds
  | _, _ => false

def elsOf : AV → Option (List D)
  | .d (.sl els) => some els
  | .d .nils => some []
  | _ => none
/-- A slice's elements, in memory of the call's own, too. -/
def vecEls (g lo hi : Nat) : AObj → Option (List D)
  | .vec g' _ _ _ _ els => if g' = g then some ((els.take hi).drop lo) else none
  | _ => none
def elsR (ob : Nat → AObj) : AV → Option (List D)
  | .vs o g _ lo hi => vecEls g lo hi (ob o)
  | x => elsOf x
/-- As a datum. -/
def AV.toD : AV → Option D
  | .d x => some x
  | _ => none
def toDs : List AV → Option (List D)
  | [] => some []
  | x :: xs => match x.toD, toDs xs with
    | some d, some ds => some (d :: ds)
    | _, _ => none
/-- The cells that a value fills. -/
def AV.cells : AV → List AV
  | .d (.agg cs) => cs.map .d
  | x => [x]
/-- May lie in one cell. -/
def AV.one : AV → Bool
  | .d (.agg _) | .tup _ | .junk => false
  | _ => true
/-- An element of which some cells are written. -/
def joinD (el : D) (sub : Nat) (ds : List D) : D :=
  match el with
  | .agg cs => .agg (cs.take sub ++ ds ++ cs.drop (sub + ds.length))
  | el => match ds with
    | [x] => x
    | _ => el
def TyI.zeroD (i : TyI) : Option D :=
  match toDs i.zero with
  | some zs => if i.kind.agg then some (.agg zs) else (match zs with | [z] => some z | _ => none)
  | none => none

/-! ### Operations -/
inductive OpR where
  | val (v : AV) (e : List (Nat × AObj))
  | call (g : FuncId) (xs : List AV)
  | bad
def OpR.of : Option AV → OpR
  | some v => .val v []
  | none => .bad

def binIntF (op : BinOp) (k : IntKind) (a : Int) (k' : IntKind) (b : Int) : Option AV :=
  match op with
  | .add => if k = k' then some (.d (.int k (k.wrap (a + b)))) else none
  | .sub => if k = k' then some (.d (.int k (k.wrap (a - b)))) else none
  | .mul => if k = k' then some (.d (.int k (k.wrap (a * b)))) else none
  | .quo => if k = k' ∧ b ≠ 0 then some (.d (.int k (k.wrap (a.tdiv b)))) else none
  | .rem => if k = k' ∧ b ≠ 0 then some (.d (.int k (a.tmod b))) else none
  | .and => if k = k' then some (.d (.int k (k.wrap (BitVec.ofInt k.bits a &&& BitVec.ofInt k.bits b).toNat))) else none
  | .or => if k = k' then some (.d (.int k (k.wrap (BitVec.ofInt k.bits a ||| BitVec.ofInt k.bits b).toNat))) else none
  | .xor => if k = k' then some (.d (.int k (k.wrap (BitVec.ofInt k.bits a ^^^ BitVec.ofInt k.bits b).toNat))) else none
  | .andNot => if k = k' then some (.d (.int k (k.wrap (BitVec.ofInt k.bits a &&& ~~~ BitVec.ofInt k.bits b).toNat))) else none
  | .shl => if 0 ≤ b then some (.d (.int k (k.wrap (a * 2 ^ (min b.toNat k.bits))))) else none
  | .shr => if 0 ≤ b then some (.d (.int k (a.fdiv (2 ^ (min b.toNat k.bits))))) else none
  | .eql => if k = k' then some (.d (.bool (a == b))) else none
  | .neq => if k = k' then some (.d (.bool (a != b))) else none
  | .lss => if k = k' then some (.d (.bool (decide (a < b)))) else none
  | .leq => if k = k' then some (.d (.bool (decide (a ≤ b)))) else none
  | .gtr => if k = k' then some (.d (.bool (decide (a > b)))) else none
  | .geq => if k = k' then some (.d (.bool (decide (a ≥ b)))) else none

/-- Strings: the same, and ahead of. -/
def eqS (a b : ByteArray) : Bool := a.toList == b.toList
def lessS (a b : ByteArray) : Bool := Op.bytesLess a.toList b.toList
def binStrF (op : BinOp) (a b : ByteArray) : Option AV :=
  match op with
  | .add => if a.size + b.size ≤ 9223372036854775807 then some (.d (.str (a ++ b))) else none
  | .eql => some (.d (.bool (eqS a b)))
  | .neq => some (.d (.bool (!eqS a b)))
  | .lss => some (.d (.bool (lessS a b)))
  | .leq => some (.d (.bool (lessS a b || eqS a b)))
  | .gtr => some (.d (.bool (!(lessS a b || eqS a b))))
  | .geq => some (.d (.bool (!lessS a b)))
  | _ => none

def eqF (T : Tbl) (Q : TypeId → Option (List EK)) (t : TypeId) (x y : AV) : Option Bool :=
  match x, y with
  | .d (.bool a), .d (.bool b) => (match T.get t with | some ⟨.bool, _, _, _⟩ => some (a == b) | _ => none)
  | .d (.agg xs), .d (.agg ys) => (match Q t with
    | some ks => if EK.hasAll ks xs = true ∧ EK.hasAll ks ys = true then eqCells xs ys else none
    | none => none)
  | _, _ => none

def negF : Option Bool → Option AV
  | some r => some (.d (.bool (!r)))
  | none => none
def posF : Option Bool → Option AV
  | some r => some (.d (.bool r))
  | none => none

def binF (T : Tbl) (Q : TypeId → Option (List EK)) (op : BinOp) (t : TypeId) (x y : AV) : Option AV :=
  match x, y with
  | .d (.int k a), .d (.int k' b) => binIntF op k a k' b
  | .d (.str a), .d (.str b) => binStrF op a b
  | x, y => match op with
    | .eql => posF (eqF T Q t x y)
    | .neq => negF (eqF T Q t x y)
    | _ => none

/-- What is read of an element. -/
def pelF (i : TyI) (sz sub : Nat) (el : Option D) : Option AV :=
  match el with
  | some el => if i.kind.agg then (if sub + i.size ≤ sz then some (.d (.agg ((el.cells.drop sub).take i.size))) else none) else (match el.cells[sub]? with | some c => some (.d c) | none => none)
  | none => none
def pvLoad (i : TyI) (g j sz sub : Nat) : AObj → Option AV
  | .vec g' _ _ _ _ els => if g' = g then pelF i sz sub els[j]? else none
  | _ => none
/-- What is written into an element. -/
def pelSet (i : TyI) (sz sub : Nat) (el : Option D) (ds : Option (List D)) : Option D :=
  match el, ds with
  | some el, some ds => if ds.length = i.size ∧ sub + i.size ≤ sz then some (joinD el sub ds) else none
  | _, _ => none
def pvStore (i : TyI) (y : AV) (o g j sz sub : Nat) : AObj → OpR
  | .vec g' mv fz e sz' els => if g' = g ∧ fz = false ∧ y.cells.all AV.one = true then (match pelSet i sz sub els[j]? (toDs y.cells) with
      | some el => .val .junk [(o, .vec g' mv false e sz' (els.set j el))]
      | none => .bad) else .bad
  | _ => .bad
def boxLoad (i : TyI) (k : Nat) : AObj → Option AV
  | .box cs => if i.kind.agg then (if k + i.size ≤ cs.length then (match toDs ((cs.drop k).take i.size) with | some ds => some (.d (.agg ds)) | none => none) else none) else cs[k]?
  | _ => none
def epLoad (i : TyI) (cs : List D) : Option AV :=
  if i.kind.agg then (if i.size ≤ cs.length then some (.d (.agg (cs.take i.size))) else none) else (match cs with | c :: _ => some (.d c) | [] => none)
def loadF (T : Tbl) (t : TypeId) (x : AV) (ob : Nat → AObj) : Option AV :=
  match T.get t with
  | none => none
  | some i => match x with
    | .ptr o k => boxLoad i k (ob o)
    | .ep cs => epLoad i cs
    | .pv o g j sz sub => pvLoad i g j sz sub (ob o)
    | _ => none
def boxStore (i : TyI) (y : AV) (o k : Nat) : AObj → OpR
  | .box cs => if y.cells.length = i.size ∧ k + i.size ≤ cs.length ∧ y.cells.all AV.one = true then .val .junk [(o, .box (cs.take k ++ y.cells ++ cs.drop (k + i.size)))] else .bad
  | _ => .bad
def storeF (T : Tbl) (t : TypeId) (x y : AV) (ob : Nat → AObj) : OpR :=
  match T.get t with
  | none => .bad
  | some i => match x with
    | .ptr o k => boxStore i y o k (ob o)
    | .pv o g j sz sub => pvStore i y o g j sz sub (ob o)
    | _ => .bad

def fieldAddrF (T : Tbl) (t : TypeId) (x : AV) (f : Nat) : Option AV :=
  match T.get t with
  | some ⟨.struct fs, _, _, _⟩ => (match fs[f]? with
    | some (off, _, _) => (match x with
      | .ptr o k => some (.ptr o (k + off))
      | .ep cs => some (.ep (cs.drop off))
      | .pv o g j sz sub => some (.pv o g j sz (sub + off))
      | _ => none)
    | none => none)
  | _ => none

def fieldF (T : Tbl) (t : TypeId) (x : AV) (f : Nat) : Option AV :=
  match T.get t with
  | some ⟨.struct fs, _, _, _⟩ => (match fs[f]? with
    | some (off, ft, n) => (match x, T.get ft with
      | .d (.agg cs), some i => if off + n ≤ cs.length ∧ n = i.size then (if i.kind.agg then some (.d (.agg ((cs.drop off).take n))) else match cs[off]? with | some c => some (.d c) | none => none) else none
      | _, _ => none)
    | none => none)
  | _ => none

def epOf (n : Int) (sz : Nat) : Option D → Option AV
  | some el => if 0 ≤ n ∧ el.cells.length = sz then some (.ep el.cells) else none
  | none => none

def indexAddrF (T : Tbl) (t : TypeId) (x ix : AV) : Option AV :=
  match T.get t with
  | some ⟨.slice e, _, _, _⟩ => (match x with
    | .vs o g sz lo hi => (match T.get e, ix with
      | some i, .d (.int _ n) => if 0 ≤ n ∧ n < ((hi - lo : Nat) : Int) ∧ i.size = sz then some (.pv o g (lo + n.toNat) sz 0) else none
      | _, _ => none)
    | x => (match T.get e, elsOf x, ix with
      | some i, some els, .d (.int _ n) => epOf n i.size els[n.toNat]?
      | _, _, _ => none))
  | some ⟨.arr m e, _, _, _⟩ => (match T.get e, x, ix with
    | some i, .ptr o k, .d (.int _ n) => if 0 ≤ n ∧ n < m then some (.ptr o (k + n.toNat * i.size)) else none
    | some i, .ep cs, .d (.int _ n) => if 0 ≤ n ∧ n < m then some (.ep (cs.drop (n.toNat * i.size))) else none
    | _, _, _ => none)
  | _ => none

def byteF (n : Int) : Option UInt8 → Option AV
  | some c => if 0 ≤ n then some (.d (.int .u8 (c.toNat : Int))) else none
  | none => none

def indexF (T : Tbl) (t : TypeId) (x ix : AV) : Option AV :=
  match T.get t with
  | some ⟨.str, _, _, _⟩ => (match x, ix with
    | .d (.str s), .d (.int _ n) => byteF n s.data[n.toNat]?
    | _, _ => none)
  | _ => none

def mapLen : AObj → Option AV
  | .map es => some (.d (.int .i64 (es.length : Int)))
  | _ => none
def lenF (T : Tbl) (t : TypeId) (x : AV) (ob : Nat → AObj) : Option AV :=
  match T.get t with
  | some ⟨.str, _, _, _⟩ => (match x with | .d (.str s) => some (.d (.int .i64 (s.size : Int))) | _ => none)
  | some ⟨.slice _, _, _, _⟩ => (match x with
    | .vs _ _ _ lo hi => some (.d (.int .i64 ((hi - lo : Nat) : Int)))
    | x => (match elsOf x with | some els => some (.d (.int .i64 (els.length : Int))) | none => none))
  | some ⟨.map _ _, _, _, _⟩ => (match x with
    | .nilm => some (.d (.int .i64 0))
    | .mp o => mapLen (ob o)
    | _ => none)
  | _ => none

def cutF (n : Nat) (lo hi : Option AV) : Option (Nat × Nat) :=
  match lo, hi with
  | none, none => some (0, n)
  | some (.d (.int _ l)), none => if 0 ≤ l ∧ l ≤ n then some (l.toNat, n) else none
  | none, some (.d (.int _ h)) => if 0 ≤ h ∧ h ≤ n then some (0, h.toNat) else none
  | some (.d (.int _ l)), some (.d (.int _ h)) => if 0 ≤ l ∧ l ≤ h ∧ h ≤ n then some (l.toNat, h.toNat) else none
  | _, _ => none

/-- All elements have n cells. -/
def szAll (n : Nat) (els : List D) : Bool := els.all fun y => y.cells.length == n
theorem szAll_iff {n : Nat} {els : List D} : szAll n els = true ↔ ∀ y ∈ els, y.cells.length = n := by simp [szAll]

def sliceF (T : Tbl) (t : TypeId) (x : AV) (lo hi : Option AV) : Option AV :=
  match T.get t with
  | some ⟨.str, _, _, _⟩ => (match x with
    | .d (.str s) => (match cutF s.size lo hi with | some (l, h) => some (.d (.str (s.extract l h))) | none => none)
    | _ => none)
  | some ⟨.slice e, _, _, _⟩ => (match x with
    | .vs o g sz l0 h0 => (match T.get e, cutF (h0 - l0) lo hi with
      | some i, some (l, h) => if i.size = sz then some (.vs o g sz (l0 + l) (l0 + h)) else none
      | _, _ => none)
    | x => (match T.get e, elsOf x with
      | some i, some els => if szAll i.size els = true then (match cutF els.length lo hi with | some (l, h) => some (.d (.sl ((els.take h).drop l))) | none => none) else none
      | _, _ => none))
  | _ => none

def fillF (fs : List (Nat × TypeId × Nat)) (cells : List D) : List (Nat × AV) → Option (List D)
  | [] => some cells
  | (i, x) :: rest => match fs[i]?, x.toD with
    | some (off, _, n), some d => if d.cells.length = n ∧ off + n ≤ cells.length then fillF fs (cells.take off ++ d.cells ++ cells.drop (off + n)) rest else none
    | _, _ => none

def buildF (T : Tbl) (t : TypeId) (parts : List (Nat × AV)) : Option AV :=
  match T.get t with
  | some ⟨.struct fs, _, _, z⟩ => (match toDs z with
    | some zs => (match fillF fs zs parts with | some cs => some (.d (.agg cs)) | none => none)
    | none => none)
  | _ => none

/-- The elements of a slice that is built: all are given, in order. -/
def partsX (n : Nat) : Nat → List (Nat × AV) → Option (List D)
  | _, [] => some []
  | i, (j, x) :: rest => if i = j then (match x.toD, partsX n (i + 1) rest with | some d, some ds => if d.cells.length = n then some (d :: ds) else none | _, _ => none) else none

/-- A new slice: a datum, or the call's own ('dd': a datum). -/
def landV (dd : Bool) (nid : Nat) (e : TypeId) (sz : Nat) (els : List D) : OpR :=
  if dd then .val (.d (.sl els)) [(nid, .vec 0 true true e sz els)] else .val (.vs nid 0 sz 0 els.length) [(nid, .vec 0 true false e sz els)]
def buildSliceF (T : Tbl) (dd : Bool) (t : TypeId) (len : Nat) (parts : List (Nat × AV)) (nid : Nat) : OpR :=
  match T.get t with
  | some ⟨.slice e, _, _, _⟩ => (match T.get e with
    | some i => (match partsX i.size 0 parts with
      | some els => if parts.length = len ∧ len * i.size ≤ 16777216 ∧ 0 < i.size then landV dd nid e i.size els else .bad
      | none => .bad)
    | none => .bad)
  | _ => .bad

def roomB (n bytes : Nat) : Bool := decide (n * bytes ≤ 140737488355328) && decide (n ≤ 9223372036854775807)

def appVec (i : TyI) (e : TypeId) (ys : List D) (o g sz lo hi : Nat) : AObj → OpR
  | .vec g' _ fz e' sz' els => if g' = g ∧ e' = e ∧ sz' = sz ∧ lo = 0 ∧ (hi = els.length ∨ fz = false) ∧ roomB (hi + ys.length) i.bytes = true then
      .val (.vs o (g' + 1) sz' 0 (hi + ys.length)) [(o, .vec (g' + 1) true fz e' sz' (els.take hi ++ ys))] else .bad
  | _ => .bad
def appendF (T : Tbl) (dd : Bool) (t : TypeId) (x y : AV) (ob : Nat → AObj) (nid : Nat) : OpR :=
  match T.get t with
  | some ⟨.slice e, _, _, _⟩ => (match T.get e, elsR ob y with
    | some i, some ys => if szAll i.size ys = true ∧ 0 < i.size then (match x with
      | .d .nils => if roomB ys.length i.bytes = true then landV dd nid e i.size ys else .bad
      | .vs o g sz lo hi => appVec i e ys o g sz lo hi (ob o)
      | _ => .bad) else .bad
    | _, _ => .bad)
  | _ => .bad

def mmFrom (f : Int → Int → Int) (k : IntKind) (a : Int) : List AV → Option AV
  | [] => some (.d (.int k a))
  | .d (.int _ b) :: rest => mmFrom f k (f a b) rest
  | _ => none
def mmF (f : Int → Int → Int) : List AV → Option AV
  | .d (.int k a) :: rest => mmFrom f k a rest
  | _ => none
def max2' (a b : Int) : Int := if b > a then b else a
def min2' (a b : Int) : Int := if b < a then b else a

def builtinF (T : Tbl) (dd : Bool) (b : Builtin) (ts : List TypeId) (xs : List AV) (ob : Nat → AObj) (nid : Nat) : OpR :=
  match b, ts, xs with
  | .len, [t], [x] => .of (lenF T t x ob)
  | .append, [t, u], [x, y] => if t = u then appendF T dd t x y ob nid else .bad
  | .max, _, xs => .of (mmF max2' xs)
  | .min, _, xs => .of (mmF min2' xs)
  | _, _, _ => .bad

def convF (i : Option TyI) (x : AV) : Option AV := match i, x with
  | some ⟨.int k, _, _, _⟩, .d (.int _ n) => some (.d (.int k (k.wrap n)))
  | some ⟨.str, _, _, _⟩, .d (.str b) => some (.d (.str b))
  | _, _ => none
def unF (op : UnOp) (x : AV) : Option AV := match op, x with
  | .neg, .d (.int k n) => some (.d (.int k (k.wrap (0 - n))))
  | .not, .d (.bool b) => some (.d (.bool (!b)))
  | _, _ => none
def pickF (b x y : AV) : Option AV := match b with
  | .d (.bool b) => some (bif b then x else y)
  | _ => none
def nilChkF : AV → Option AV
  | .ptr o k => some (.ptr o k)
  | .ep cs => some (.ep cs)
  | .fn g a b => some (.fn g a b)
  | .pv o g j sz sub => some (.pv o g j sz sub)
  | _ => none
def extF (x : AV) (i : Nat) : Option AV := match x with
  | .tup l => l[i]?
  | _ => none
def ptrsOf (l : List (Nat × Nat)) : List AV := l.map fun c => .ptr c.1 c.2
def callF (f : AV) (xs : List AV) : OpR := match f with
  | .fn g a b => .call g (ptrsOf a ++ xs ++ ptrsOf b)
  | _ => .bad
def makeSliceF (T : Tbl) (dd : Bool) (t : TypeId) (l c : AV) (nid : Nat) : OpR :=
  match T.get t with
  | some ⟨.slice e, _, _, _⟩ => (match T.get e, l, c with
    | some i, .d (.int _ n), .d (.int _ m) => if 0 ≤ n ∧ n ≤ m ∧ m ≤ 1099511627776 ∧ m.toNat * i.bytes ≤ 140737488355328 ∧ 0 < i.size ∧ (n = 0 ∨ n = m) then
        (match i.zeroD with
          | some z => landV dd nid e i.size (List.replicate n.toNat z)
          | none => .bad) else .bad
    | _, _, _ => .bad)
  | _ => .bad

/-! ### Maps, whose keys are numbers, strings, or structs of such -/
def sameD : D → D → Option Bool
  | .int k a, .int k' b => if k = k' then some (a == b) else none
  | .str a, .str b => some (a == b)
  | _, _ => none
def findD (k : D) : List (D × D) → Nat → Option (Option (Nat × D))
  | [], _ => some none
  | (q, v) :: r, i => match sameD k q with
    | some true => some (some (i, v))
    | some false => findD k r (i + 1)
    | none => none
def keyOk (i : Option TyI) (k : D) : Bool := match i, k with
  | some ⟨.int q, _, _, _⟩, .int q' _ => decide (q = q')
  | some ⟨.str, _, _, _⟩, .str _ => true
  | _, _ => false
def mapOb : AObj → Option (List (D × D))
  | .map es => some es
  | _ => none
def mapEs (ob : Nat → AObj) : AV → Option (List (D × D))
  | .nilm => some []
  | .mp o => mapOb (ob o)
  | _ => none
def okV (ok : Bool) (v : D) (is : Bool) : AV := if ok then .tup [.d v, .d (.bool is)] else .d v
def lookF (ok : Bool) (z : Option D) (r : Option (Option (Nat × D))) : Option AV :=
  match r with
  | some (some (_, v)) => some (okV ok v true)
  | some none => (match z with | some z => some (okV ok z false) | none => none)
  | none => none
def lookupF (T : Tbl) (t : TypeId) (x k : AV) (ok : Bool) (ob : Nat → AObj) : Option AV :=
  match T.get t with
  | some ⟨.map kt et, _, _, _⟩ => (match mapEs ob x, k.toD, T.get et with
    | some es, some kd, some i => if keyOk (T.get kt) kd = true then lookF ok i.zeroD (findD kd es 0) else none
    | _, _, _ => none)
  | _ => none
def putE (kd vd : D) (es : List (D × D)) (r : Option (Option (Nat × D))) : Option (List (D × D)) :=
  match r with
  | some (some (i, _)) => some (es.set i (kd, vd))
  | some none => some (es ++ [(kd, vd)])
  | none => none
def mapPut (kd vd : D) (o : Nat) : AObj → OpR
  | .map es => (match putE kd vd es (findD kd es 0) with
    | some es' => .val .junk [(o, .map es')]
    | none => .bad)
  | _ => .bad
def mapUpdateF (T : Tbl) (t : TypeId) (m k v : AV) (ob : Nat → AObj) : OpR :=
  match T.get t with
  | some ⟨.map kt _, _, _, _⟩ => (match m, k.toD, v.toD with
    | .mp o, some kd, some vd => if keyOk (T.get kt) kd = true then mapPut kd vd o (ob o) else .bad
    | _, _, _ => .bad)
  | _ => .bad
def capsOf : List AV → Option (List (Nat × Nat))
  | [] => some []
  | .ptr o k :: r => (match capsOf r with | some l => some ((o, k) :: l) | none => none)
  | _ :: _ => none

/-- What the operation is told besides: how many objects it may lay; whether a slice that it makes is a datum from then on. -/
structure Ann where
  lays : Nat
  dd : Bool
def ann0 : Ann := ⟨0, false⟩
def allocF (T : Tbl) (t : TypeId) (nid : Nat) : OpR := match T.get t with | some i => .val (.ptr nid 0) [(nid, .box i.zero)] | none => .bad
def boxF (T : Tbl) (t : TypeId) (x : AV) (nid : Nat) : OpR := match T.get t with | some i => if x.cells.length = i.size ∧ x.cells.all AV.one = true then .val (.ptr nid 0) [(nid, .box x.cells)] else .bad | none => .bad
def convertF (T : Tbl) (s t : TypeId) (x : AV) : OpR := match T.get s with | some _ => .of (convF (T.get t) x) | none => .bad
def makeFuncF (g : FuncId) (first caps : List AV) : OpR := match capsOf first, capsOf caps with | some a, some b => .val (.fn g a b) [] | _, _ => .bad
def makeMapF (T : Tbl) (t : TypeId) (nid : Nat) : OpR := match T.get t with | some ⟨.map _ _, _, _, _⟩ => .val (.mp nid) [(nid, .map [])] | _ => .bad
def opF (T : Tbl) (Q : TypeId → Option (List EK)) (an : Ann) (o : Op) (ev : Operand → AV) (ob : Nat → AObj) (nid : Nat) : OpR :=
  match o with
  | .move x => .val (ev x) []
  | .assign x => .val (ev x) []
  | .pick b x y => .of (pickF (ev b) (ev x) (ev y))
  | .alloc t => allocF T t nid
  | .box t x => boxF T t (ev x) nid
  | .build t ps => .of (buildF T t (ps.toList.map fun p => (p.1, ev p.2)))
  | .buildSlice t n ps => buildSliceF T an.dd t n (ps.toList.map fun p => (p.1, ev p.2)) nid
  | .load t a => .of (loadF T t (ev a) ob)
  | .store t a x => storeF T t (ev a) (ev x) ob
  | .nilCheck x => .of (nilChkF (ev x))
  | .binOp op t x y _ => .of (binF T Q op t (ev x) (ev y))
  | .unOp op _ x => .of (unF op (ev x))
  | .convert s t x => convertF T s t (ev x)
  | .makeFunc (.func g) first caps => makeFuncF g (first.toList.map ev) (caps.toList.map ev)
  | .slice t x lo hi none => .of (sliceF T t (ev x) (lo.map ev) (hi.map ev))
  | .fieldAddr t x f => .of (fieldAddrF T t (ev x) f)
  | .field t x f => .of (fieldF T t (ev x) f)
  | .indexAddr t x i => .of (indexAddrF T t (ev x) (ev i))
  | .index t x i => .of (indexF T t (ev x) (ev i))
  | .extract x i => .of (extF (ev x) i)
  | .call ⟨.builtin b, as, ts⟩ => builtinF T an.dd b ts.toList (as.toList.map ev) ob nid
  | .call ⟨.value f, as, _⟩ => callF (ev f) (as.toList.map ev)
  | .makeMap t none => makeMapF T t nid
  | .makeSlice t l m => makeSliceF T an.dd t (ev l) (ev m) nid
  | .lookup t x k ok => .of (lookupF T t (ev x) (ev k) ok ob)
  | .mapUpdate t m k v => mapUpdateF T t (ev m) (ev k) (ev v) ob
  | _ => .bad

/-! ### Calls: the objects that the arguments lead to go along -/
def fuelL : List Unit := List.replicate 24 ()
def reach (ob : Nat → AObj) : List Unit → List Nat → List Nat → List Nat
  | [], _, acc => acc
  | _ :: _, [], acc => acc
  | _ :: f, o :: r, acc => if acc.contains o then reach ob f r acc else reach ob f ((ob o).oids ++ r) (acc ++ [o])
def reachOf (ob : Nat → AObj) (xs : List AV) : List Nat := reach ob fuelL (xs.flatMap AV.oids) []
def AObj.live : AObj → Bool
  | .dead | .iter _ _ => false
  | _ => true
/-- L is closed: what its objects, and the values xs, lead to lies in it. -/
def closedB (ob : Nat → AObj) (L : List Nat) (xs : List AV) : Bool :=
  (L.all fun o => (ob o).live && (ob o).oids.all L.contains) && xs.all fun x => x.oids.all L.contains
def nodupB : List Nat → Bool
  | [] => true
  | x :: r => !r.contains x && nodupB r
/-- The objects of L, under the names 0, 1, .. -/
def packO (f : Nat → Nat) (ob : Nat → AObj) (keep : Bool) : AObj → AObj
  | .box cs => .box (cs.map (AV.ren0 f ob fun _ => 0))
  | .vec _ mv fz e sz els => .vec 0 (keep && mv) fz e sz els
  | x => x
def packL (L : List Nat) (ob : Nat → AObj) (keep : Bool) : List AObj := L.map fun o => packO (fun q => L.idxOf q) ob keep (ob o)
def packX (L : List Nat) (ob : Nat → AObj) (xs : List AV) : List AV := xs.map (AV.ren (fun q => L.idxOf q) ob fun _ => 0)
/-- Back: the name of the call's object number i; the number of a slice there. -/
def backN (L : List Nat) (nid : Nat) (i : Nat) : Nat := if i < L.length then L.getD i 0 else nid + (i - L.length)
def backG (ob : Nat → AObj) (obs' : Nat → AObj) (L : List Nat) (i : Nat) : Nat :=
  if i < L.length then (match obs' i, ob (L.getD i 0) with
    | .vec _ mv _ _ _ _, .vec g _ _ _ _ _ => if mv then g + 1 else g
    | _, _ => 0) else 0
def backO (f : Nat → Nat) (ob' : Nat → AObj) (gn : Nat → Nat) (g : Nat) (old : AObj) : AObj → AObj
  | .box cs => .box (cs.map (AV.ren0 f ob' gn))
  | .vec _ mv fz e sz els => .vec g (match old with | .vec _ mv0 _ _ _ _ => mv0 || mv | _ => true) fz e sz els
  | x => x
def obL (l : List AObj) (i : Nat) : AObj := l.getD i .dead
def backE (ob : Nat → AObj) (L : List Nat) (nid : Nat) (obs' : List AObj) : List (Nat × AObj) :=
  (List.range obs'.length).map fun i => (backN L nid i, backO (backN L nid) (obL obs') (backG ob (obL obs') L) (backG ob (obL obs') L i) (if i < L.length then ob (L.getD i 0) else .dead) (obL obs' i))
/-- A slice of the call's own becomes a datum: its object is frozen. -/
def frzX (e : List (Nat × AObj)) : AV → Option AV
  | .vs o g _ lo hi => (match e.lookup o with | some x => (vecEls g lo hi x).map fun els => .d (.sl els) | none => none)
  | .tup l => none
  | x => some x
def frzO (vs : List Nat) (p : Nat × AObj) : Nat × AObj := match p.2 with
  | .vec g mv fz e sz els => (p.1, .vec g mv (fz || vs.contains p.1) e sz els)
  | x => (p.1, x)
def AV.vids : AV → List Nat
  | .vs o _ _ _ _ => [o]
  | _ => []
def frzL (e : List (Nat × AObj)) : List AV → Option (List AV)
  | [] => some []
  | x :: r => match frzX e x, frzL e r with | some y, some ys => some (y :: ys) | _, _ => none
/-- What a call's end brings. -/
def landC (dd : Bool) (v : AV) (e : List (Nat × AObj)) : Option (AV × List (Nat × AObj)) :=
  if dd then (match v with
    | .tup l => (match frzL e l with | some l' => some (.tup l', e.map (frzO (l.flatMap AV.vids))) | none => none)
    | v => (match frzX e v with | some v' => some (v', e.map (frzO v.vids)) | none => none)) else some (v, e)

/-- The objects that an operation looks at. -/
def touchF (o : Op) (ev : Operand → AV) (ob : Nat → AObj) : List Nat :=
  match o with
  | .load _ a | .store _ a _ | .lookup _ a _ _ | .mapUpdate _ a _ _ => (ev a).oids
  | .call ⟨.value f, as, _⟩ => (match callF (ev f) (as.toList.map ev) with | .call _ xs => reachOf ob xs | _ => [])
  | .call ⟨.builtin _, as, _⟩ => as.toList.flatMap fun x => (ev x).oids
  | _ => []

end Go.Proofs.YteidaaobppjlbaaV
