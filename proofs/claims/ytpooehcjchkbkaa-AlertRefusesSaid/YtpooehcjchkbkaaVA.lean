/- The interpreter over plain data and objects, its laws: part VA. -/
import Derived.Calls
import Derived.Orders
import Derived.Below
import Derived.Laws.AppendOwn
import Derived.Laws.AppendOwnNone
import Derived.Laws.OwnMore
import Derived.Laws.Entries
import Derived.Laws.Rows
import Derived.Laws.MakeOwn
import Derived.Maps.AppendAt
import Derived.RangeFuncRecord
import Derived.RangeFuncLeaves
import Derived.OrdersIn
import Derived.Laws.Slices
import Derived.Laws.Tables
/- Plain values and what a machine's value says of them: definitions and laws over any program. -/
set_option linter.unusedVariables false
set_option linter.unusedSimpArgs false
namespace Go.Proofs.YtpooehcjchkbkaaV
open Go.RowKit
inductive D where
  | int (k : IntKind) (n : Int)
  | bool (b : Bool)
  | str (s : ByteArray)
  | agg (cs : List D)
  | nils
  | sl (els : List D)
def D.cells : D → List D
  | .agg cs => cs
  | .int k n => [.int k n]
  | .bool b => [.bool b]
  | .str s => [.str s]
  | .nils => [.nils]
  | .sl els => [.sl els]
def D.flat (els : List D) : List D := els.flatMap D.cells
inductive VRd (w : World) (I : Nat → Nat → Prop) : D → Value → Prop
  | int (k : IntKind) (n : Int) : VRd w I (.int k n) (.int k n)
  | bool (b : Bool) : VRd w I (.bool b) (.bool b)
  | str (s : ByteArray) : VRd w I (.str s) (.string s)
  | nils : VRd w I .nils (.slice none 0 0)
  | agg (cs : List D) (vs : List Value) : cs.length = vs.length → (∀ v ∈ vs, v.oneCell' = true) → (∀ (i : Nat) (c : D) (v : Value), cs[i]? = some c → vs[i]? = some v → VRd w I c v) → VRd w I (.agg cs) (.agg vs.toArray)
  | sl (els : List D) (A : Option Addr) (c sz b off : Nat) (u : Nat → Value) : els.length ≤ c → (∀ e ∈ els, e.cells.length = sz) → (els ≠ [] → A = some ⟨b, off, none⟩) →
      (∀ j, j < els.length * sz → w.cell? ⟨b, off + j, none⟩ = some (u j) ∧ I b (off + j) ∧ (u j).oneCell' = true) →
      (∀ (j : Nat) (d : D), (D.flat els)[j]? = some d → VRd w I d (u j)) → VRd w I (.sl els) (.slice A els.length c)
theorem VRd.mono {w w' : World} {I I' : Nat → Nat → Prop} (h : ∀ b o, I b o → I' b o ∧ w'.cell? ⟨b, o, none⟩ = w.cell? ⟨b, o, none⟩) {d : D} {v : Value} (hv : VRd w I d v) : VRd w' I' d v := by
  induction hv with
  | int k n => exact .int k n
  | bool b => exact .bool b
  | str s => exact .str s
  | nils => exact .nils
  | agg cs vs hl h1 _ ih => exact .agg cs vs hl h1 ih
  | sl els A c sz b off u hc hs hA hcell _ ih =>
    refine .sl els A c sz b off u hc hs hA (fun j hj => ?_) ih
    obtain ⟨h1, h2, h3⟩ := hcell j hj
    exact ⟨(h b _ h2).2.trans h1, (h b _ h2).1, h3⟩
theorem length_flat {els : List D} {sz : Nat} (h : ∀ e ∈ els, e.cells.length = sz) : (D.flat els).length = els.length * sz := by
  induction els with
  | nil => simp [D.flat]
  | cons e es ih =>
    have h1 := h e (by simp)
    have h2 := ih fun x hx => h x (by simp [hx])
    simp only [D.flat, List.flatMap_cons, List.length_append, List.length_cons] at *
    rw [h1, h2, Nat.add_mul]; omega
theorem flat_get {els : List D} {sz : Nat} (h : ∀ e ∈ els, e.cells.length = sz) {i j : Nat} {e c : D} (hi : els[i]? = some e) (hj : e.cells[j]? = some c) : (D.flat els)[i * sz + j]? = some c := by
  induction els generalizing i with
  | nil => simp at hi
  | cons x xs ih =>
    have hx := h x (by simp)
    cases i with
    | zero =>
      simp only [List.getElem?_cons_zero, Option.some.injEq] at hi
      subst hi
      have hlt : j < x.cells.length := (List.getElem?_eq_some_iff.1 hj).1
      simp only [D.flat, List.flatMap_cons, Nat.zero_mul, Nat.zero_add]
      rw [List.getElem?_append_left hlt]; exact hj
    | succ i =>
      simp only [List.getElem?_cons_succ] at hi
      have := ih (fun y hy => h y (by simp [hy])) hi
      simp only [D.flat, List.flatMap_cons]
      rw [List.getElem?_append_right (by rw [hx, Nat.add_mul]; omega), hx, ← this]
      congr 1
      rw [Nat.add_mul]; omega
theorem flat_len_lt {els : List D} {sz : Nat} (h : ∀ e ∈ els, e.cells.length = sz) {i j : Nat} {e c : D} (hi : els[i]? = some e) (hj : e.cells[j]? = some c) : i * sz + j < els.length * sz := by
  have := (List.getElem?_eq_some_iff.1 (flat_get h hi hj)).1
  rwa [length_flat h] at this
inductive AV where
  | d (x : D)
  | ptr (o off : Nat)
  | ep (cs : List D)
  | vs (o g sz lo hi : Nat)
  | pv (o g j sz sub : Nat)
  | mp (o : Nat)
  | nilm
  | nilp
  | fn (g : FuncId) (first caps : List (Nat × Nat))
  | nilf
  | fs (els : List D)
  | tup (l : List AV)
  | agv (l : List AV)
  | it (o : Nat)
  | yl (o : Nat)
  | junk
inductive AObj where
  | dead
  | box (cs : List AV)
  | vec (g : Nat) (mv fz : Bool) (e : TypeId) (sz : Nat) (els : List D)
  | map (es : List (D × D))
  | mapd (es : List (D × D)) (bs : List Nat) (ck : Nat)
  | iter (m : Option Nat) (since : Nat) (seen : List Nat) (last : Nat)
  | loop (k busy : Nat) (ks : List Nat) (vs : List AV)
mutual
def D.decEq : (a b : D) → Decidable (a = b)
  | .int k n, .int k' n' => if h : k = k' ∧ n = n' then isTrue (by rw [h.1, h.2]) else isFalse (by rintro h'; injection h' with h1 h2; exact h ⟨h1, h2⟩)
  | .bool a, .bool b => if h : a = b then isTrue (by rw [h]) else isFalse (by rintro h'; injection h' with h1; exact h h1)
  | .str a, .str b => if h : a = b then isTrue (by rw [h]) else isFalse (by rintro h'; injection h' with h1; exact h h1)
  | .nils, .nils => isTrue rfl
  | .agg a, .agg b => match D.decEqs a b with
    | isTrue h => isTrue (by rw [h])
    | isFalse h => isFalse (by rintro h'; injection h' with h1; exact h h1)
  | .sl a, .sl b => match D.decEqs a b with
    | isTrue h => isTrue (by rw [h])
    | isFalse h => isFalse (by rintro h'; injection h' with h1; exact h h1)
  | .int .., .bool _ | .int .., .str _ | .int .., .nils | .int .., .agg _ | .int .., .sl _ => isFalse (by rintro h; cases h)
  | .bool _, .int .. | .bool _, .str _ | .bool _, .nils | .bool _, .agg _ | .bool _, .sl _ => isFalse (by rintro h; cases h)
  | .str _, .int .. | .str _, .bool _ | .str _, .nils | .str _, .agg _ | .str _, .sl _ => isFalse (by rintro h; cases h)
  | .nils, .int .. | .nils, .bool _ | .nils, .str _ | .nils, .agg _ | .nils, .sl _ => isFalse (by rintro h; cases h)
  | .agg _, .int .. | .agg _, .bool _ | .agg _, .str _ | .agg _, .nils | .agg _, .sl _ => isFalse (by rintro h; cases h)
  | .sl _, .int .. | .sl _, .bool _ | .sl _, .str _ | .sl _, .nils | .sl _, .agg _ => isFalse (by rintro h; cases h)
def D.decEqs : (a b : List D) → Decidable (a = b)
  | [], [] => isTrue rfl
  | [], _ :: _ => isFalse (by rintro h; cases h)
  | _ :: _, [] => isFalse (by rintro h; cases h)
  | x :: a, y :: b => match D.decEq x y, D.decEqs a b with
    | isTrue h, isTrue h' => isTrue (by rw [h, h'])
    | isFalse h, _ => isFalse (by rintro h'; injection h' with h1 h2; exact h h1)
    | _, isFalse h => isFalse (by rintro h'; injection h' with h1 h2; exact h h2)
end
instance : DecidableEq D := D.decEq
mutual
def AV.decEq : (a b : AV) → Decidable (a = b)
  | .d x0, .d y0 => if h : x0 = y0 then isTrue (by rw [h]) else isFalse (by rintro h'; injection h' with h1; exact h h1)
  | .ptr x0 x1, .ptr y0 y1 => if h : x0 = y0 ∧ x1 = y1 then isTrue (by obtain ⟨h1, h2⟩ := h; rw [h1, h2]) else isFalse (by rintro h'; injection h' with h1 h2; exact h ⟨h1, h2⟩)
  | .ep x0, .ep y0 => if h : x0 = y0 then isTrue (by rw [h]) else isFalse (by rintro h'; injection h' with h1; exact h h1)
  | .vs x0 x1 x2 x3 x4, .vs y0 y1 y2 y3 y4 => if h : x0 = y0 ∧ x1 = y1 ∧ x2 = y2 ∧ x3 = y3 ∧ x4 = y4 then isTrue (by obtain ⟨h1, h2, h3, h4, h5⟩ := h; rw [h1, h2, h3, h4, h5]) else isFalse (by rintro h'; injection h' with h1 h2 h3 h4 h5; exact h ⟨h1, h2, h3, h4, h5⟩)
  | .pv x0 x1 x2 x3 x4, .pv y0 y1 y2 y3 y4 => if h : x0 = y0 ∧ x1 = y1 ∧ x2 = y2 ∧ x3 = y3 ∧ x4 = y4 then isTrue (by obtain ⟨h1, h2, h3, h4, h5⟩ := h; rw [h1, h2, h3, h4, h5]) else isFalse (by rintro h'; injection h' with h1 h2 h3 h4 h5; exact h ⟨h1, h2, h3, h4, h5⟩)
  | .mp x0, .mp y0 => if h : x0 = y0 then isTrue (by rw [h]) else isFalse (by rintro h'; injection h' with h1; exact h h1)
  | .nilm, .nilm => isTrue rfl
  | .nilp, .nilp => isTrue rfl
  | .fn x0 x1 x2, .fn y0 y1 y2 => if h : x0 = y0 ∧ x1 = y1 ∧ x2 = y2 then isTrue (by obtain ⟨h1, h2, h3⟩ := h; rw [h1, h2, h3]) else isFalse (by rintro h'; injection h' with h1 h2 h3; exact h ⟨h1, h2, h3⟩)
  | .nilf, .nilf => isTrue rfl
  | .fs x0, .fs y0 => if h : x0 = y0 then isTrue (by rw [h]) else isFalse (by rintro h'; injection h' with h1; exact h h1)
  | .tup x0, .tup y0 => match AV.decEqs x0 y0 with
    | isTrue h => isTrue (by rw [h])
    | isFalse h => isFalse (by rintro h'; injection h' with h1; exact h h1)
  | .agv x0, .agv y0 => match AV.decEqs x0 y0 with
    | isTrue h => isTrue (by rw [h])
    | isFalse h => isFalse (by rintro h'; injection h' with h1; exact h h1)
  | .it x0, .it y0 => if h : x0 = y0 then isTrue (by rw [h]) else isFalse (by rintro h'; injection h' with h1; exact h h1)
  | .yl x0, .yl y0 => if h : x0 = y0 then isTrue (by rw [h]) else isFalse (by rintro h'; injection h' with h1; exact h h1)
  | .junk, .junk => isTrue rfl
  | .d _, .ptr _ _ | .d _, .ep _ | .d _, .vs _ _ _ _ _ | .d _, .pv _ _ _ _ _ | .d _, .mp _ | .d _, .nilm | .d _, .nilp | .d _, .fn _ _ _ | .d _, .nilf | .d _, .fs _ | .d _, .tup _ | .d _, .it _ | .d _, .junk => isFalse (by rintro h; cases h)
  | .ptr _ _, .d _ | .ptr _ _, .ep _ | .ptr _ _, .vs _ _ _ _ _ | .ptr _ _, .pv _ _ _ _ _ | .ptr _ _, .mp _ | .ptr _ _, .nilm | .ptr _ _, .nilp | .ptr _ _, .fn _ _ _ | .ptr _ _, .nilf | .ptr _ _, .fs _ | .ptr _ _, .tup _ | .ptr _ _, .it _ | .ptr _ _, .junk => isFalse (by rintro h; cases h)
  | .ep _, .d _ | .ep _, .ptr _ _ | .ep _, .vs _ _ _ _ _ | .ep _, .pv _ _ _ _ _ | .ep _, .mp _ | .ep _, .nilm | .ep _, .nilp | .ep _, .fn _ _ _ | .ep _, .nilf | .ep _, .fs _ | .ep _, .tup _ | .ep _, .it _ | .ep _, .junk => isFalse (by rintro h; cases h)
  | .vs _ _ _ _ _, .d _ | .vs _ _ _ _ _, .ptr _ _ | .vs _ _ _ _ _, .ep _ | .vs _ _ _ _ _, .pv _ _ _ _ _ | .vs _ _ _ _ _, .mp _ | .vs _ _ _ _ _, .nilm | .vs _ _ _ _ _, .nilp | .vs _ _ _ _ _, .fn _ _ _ | .vs _ _ _ _ _, .nilf | .vs _ _ _ _ _, .fs _ | .vs _ _ _ _ _, .tup _ | .vs _ _ _ _ _, .it _ | .vs _ _ _ _ _, .junk => isFalse (by rintro h; cases h)
  | .pv _ _ _ _ _, .d _ | .pv _ _ _ _ _, .ptr _ _ | .pv _ _ _ _ _, .ep _ | .pv _ _ _ _ _, .vs _ _ _ _ _ | .pv _ _ _ _ _, .mp _ | .pv _ _ _ _ _, .nilm | .pv _ _ _ _ _, .nilp | .pv _ _ _ _ _, .fn _ _ _ | .pv _ _ _ _ _, .nilf | .pv _ _ _ _ _, .fs _ | .pv _ _ _ _ _, .tup _ | .pv _ _ _ _ _, .it _ | .pv _ _ _ _ _, .junk => isFalse (by rintro h; cases h)
  | .mp _, .d _ | .mp _, .ptr _ _ | .mp _, .ep _ | .mp _, .vs _ _ _ _ _ | .mp _, .pv _ _ _ _ _ | .mp _, .nilm | .mp _, .nilp | .mp _, .fn _ _ _ | .mp _, .nilf | .mp _, .fs _ | .mp _, .tup _ | .mp _, .it _ | .mp _, .junk => isFalse (by rintro h; cases h)
  | .nilm, .d _ | .nilm, .ptr _ _ | .nilm, .ep _ | .nilm, .vs _ _ _ _ _ | .nilm, .pv _ _ _ _ _ | .nilm, .mp _ | .nilm, .nilp | .nilm, .fn _ _ _ | .nilm, .nilf | .nilm, .fs _ | .nilm, .tup _ | .nilm, .it _ | .nilm, .junk => isFalse (by rintro h; cases h)
  | .nilp, .d _ | .nilp, .ptr _ _ | .nilp, .ep _ | .nilp, .vs _ _ _ _ _ | .nilp, .pv _ _ _ _ _ | .nilp, .mp _ | .nilp, .nilm | .nilp, .fn _ _ _ | .nilp, .nilf | .nilp, .fs _ | .nilp, .tup _ | .nilp, .it _ | .nilp, .junk => isFalse (by rintro h; cases h)
  | .fn _ _ _, .d _ | .fn _ _ _, .ptr _ _ | .fn _ _ _, .ep _ | .fn _ _ _, .vs _ _ _ _ _ | .fn _ _ _, .pv _ _ _ _ _ | .fn _ _ _, .mp _ | .fn _ _ _, .nilm | .fn _ _ _, .nilp | .fn _ _ _, .nilf | .fn _ _ _, .fs _ | .fn _ _ _, .tup _ | .fn _ _ _, .it _ | .fn _ _ _, .junk => isFalse (by rintro h; cases h)
  | .nilf, .d _ | .nilf, .ptr _ _ | .nilf, .ep _ | .nilf, .vs _ _ _ _ _ | .nilf, .pv _ _ _ _ _ | .nilf, .mp _ | .nilf, .nilm | .nilf, .nilp | .nilf, .fn _ _ _ | .nilf, .fs _ | .nilf, .tup _ | .nilf, .it _ | .nilf, .junk => isFalse (by rintro h; cases h)
  | .fs _, .d _ | .fs _, .ptr _ _ | .fs _, .ep _ | .fs _, .vs _ _ _ _ _ | .fs _, .pv _ _ _ _ _ | .fs _, .mp _ | .fs _, .nilm | .fs _, .nilp | .fs _, .fn _ _ _ | .fs _, .nilf | .fs _, .tup _ | .fs _, .it _ | .fs _, .junk => isFalse (by rintro h; cases h)
  | .tup _, .d _ | .tup _, .ptr _ _ | .tup _, .ep _ | .tup _, .vs _ _ _ _ _ | .tup _, .pv _ _ _ _ _ | .tup _, .mp _ | .tup _, .nilm | .tup _, .nilp | .tup _, .fn _ _ _ | .tup _, .nilf | .tup _, .fs _ | .tup _, .it _ | .tup _, .junk => isFalse (by rintro h; cases h)
  | .it _, .d _ | .it _, .ptr _ _ | .it _, .ep _ | .it _, .vs _ _ _ _ _ | .it _, .pv _ _ _ _ _ | .it _, .mp _ | .it _, .nilm | .it _, .nilp | .it _, .fn _ _ _ | .it _, .nilf | .it _, .fs _ | .it _, .tup _ | .it _, .junk => isFalse (by rintro h; cases h)
  | .junk, .d _ | .junk, .ptr _ _ | .junk, .ep _ | .junk, .vs _ _ _ _ _ | .junk, .pv _ _ _ _ _ | .junk, .mp _ | .junk, .nilm | .junk, .nilp | .junk, .fn _ _ _ | .junk, .nilf | .junk, .fs _ | .junk, .tup _ | .junk, .it _ => isFalse (by rintro h; cases h)
  | .d _, .yl _ | .ptr _ _, .yl _ | .ep _, .yl _ | .vs _ _ _ _ _, .yl _ | .pv _ _ _ _ _, .yl _ | .mp _, .yl _ | .nilm, .yl _ | .nilp, .yl _ | .fn _ _ _, .yl _ | .nilf, .yl _ | .fs _, .yl _ | .tup _, .yl _ | .it _, .yl _ | .junk, .yl _ => isFalse (by rintro h; cases h)
  | .yl _, .d _ | .yl _, .ptr _ _ | .yl _, .ep _ | .yl _, .vs _ _ _ _ _ | .yl _, .pv _ _ _ _ _ | .yl _, .mp _ | .yl _, .nilm | .yl _, .nilp | .yl _, .fn _ _ _ | .yl _, .nilf | .yl _, .fs _ | .yl _, .tup _ | .yl _, .it _ | .yl _, .junk => isFalse (by rintro h; cases h)
  | .d _, .agv _ | .ptr _ _, .agv _ | .ep _, .agv _ | .vs _ _ _ _ _, .agv _ | .pv _ _ _ _ _, .agv _ | .mp _, .agv _ | .nilm, .agv _ | .nilp, .agv _ | .fn _ _ _, .agv _ | .nilf, .agv _ | .fs _, .agv _ | .tup _, .agv _ | .it _, .agv _ | .yl _, .agv _ | .junk, .agv _ => isFalse (by rintro h; cases h)
  | .agv _, .d _ | .agv _, .ptr _ _ | .agv _, .ep _ | .agv _, .vs _ _ _ _ _ | .agv _, .pv _ _ _ _ _ | .agv _, .mp _ | .agv _, .nilm | .agv _, .nilp | .agv _, .fn _ _ _ | .agv _, .nilf | .agv _, .fs _ | .agv _, .tup _ | .agv _, .it _ | .agv _, .yl _ | .agv _, .junk => isFalse (by rintro h; cases h)
def AV.decEqs : (a b : List AV) → Decidable (a = b)
  | [], [] => isTrue rfl
  | [], _ :: _ => isFalse (by rintro h; cases h)
  | _ :: _, [] => isFalse (by rintro h; cases h)
  | x :: a, y :: b => match AV.decEq x y, AV.decEqs a b with
    | isTrue h, isTrue h' => isTrue (by rw [h, h'])
    | isFalse h, _ => isFalse (by rintro h'; injection h' with h1 h2; exact h h1)
    | _, isFalse h => isFalse (by rintro h'; injection h' with h1 h2; exact h h2)
end
instance : DecidableEq AV := AV.decEq
def AObj.decEq : (a b : AObj) → Decidable (a = b)
  | .dead, .dead => isTrue rfl
  | .box x0, .box y0 => if h : x0 = y0 then isTrue (by rw [h]) else isFalse (by rintro h'; injection h' with h1; exact h h1)
  | .vec x0 x1 x2 x3 x4 x5, .vec y0 y1 y2 y3 y4 y5 => if h : x0 = y0 ∧ x1 = y1 ∧ x2 = y2 ∧ x3 = y3 ∧ x4 = y4 ∧ x5 = y5 then isTrue (by obtain ⟨h1, h2, h3, h4, h5, h6⟩ := h; rw [h1, h2, h3, h4, h5, h6]) else isFalse (by rintro h'; injection h' with h1 h2 h3 h4 h5 h6; exact h ⟨h1, h2, h3, h4, h5, h6⟩)
  | .map x0, .map y0 => if h : x0 = y0 then isTrue (by rw [h]) else isFalse (by rintro h'; injection h' with h1; exact h h1)
  | .mapd x0 x1 x2, .mapd y0 y1 y2 => if h : x0 = y0 ∧ x1 = y1 ∧ x2 = y2 then isTrue (by obtain ⟨h1, h2, h3⟩ := h; rw [h1, h2, h3]) else isFalse (by rintro h'; injection h' with h1 h2 h3; exact h ⟨h1, h2, h3⟩)
  | .iter x0 x1 x2 x3, .iter y0 y1 y2 y3 => if h : x0 = y0 ∧ x1 = y1 ∧ x2 = y2 ∧ x3 = y3 then isTrue (by obtain ⟨h1, h2, h3, h4⟩ := h; rw [h1, h2, h3, h4]) else isFalse (by rintro h'; injection h' with h1 h2 h3 h4; exact h ⟨h1, h2, h3, h4⟩)
  | .dead, .box _ | .dead, .vec _ _ _ _ _ _ | .dead, .map _ | .dead, .mapd _ _ _ | .dead, .iter _ _ _ _ => isFalse (by rintro h; cases h)
  | .box _, .dead | .box _, .vec _ _ _ _ _ _ | .box _, .map _ | .box _, .mapd _ _ _ | .box _, .iter _ _ _ _ => isFalse (by rintro h; cases h)
  | .vec _ _ _ _ _ _, .dead | .vec _ _ _ _ _ _, .box _ | .vec _ _ _ _ _ _, .map _ | .vec _ _ _ _ _ _, .mapd _ _ _ | .vec _ _ _ _ _ _, .iter _ _ _ _ => isFalse (by rintro h; cases h)
  | .map _, .dead | .map _, .box _ | .map _, .vec _ _ _ _ _ _ | .map _, .mapd _ _ _ | .map _, .iter _ _ _ _ => isFalse (by rintro h; cases h)
  | .mapd _ _ _, .dead | .mapd _ _ _, .box _ | .mapd _ _ _, .vec _ _ _ _ _ _ | .mapd _ _ _, .map _ | .mapd _ _ _, .iter _ _ _ _ => isFalse (by rintro h; cases h)
  | .iter _ _ _ _, .dead | .iter _ _ _ _, .box _ | .iter _ _ _ _, .vec _ _ _ _ _ _ | .iter _ _ _ _, .map _ | .iter _ _ _ _, .mapd _ _ _ => isFalse (by rintro h; cases h)
  | .loop x0 x1 x2 x3, .loop y0 y1 y2 y3 => if h : x0 = y0 ∧ x1 = y1 ∧ x2 = y2 ∧ x3 = y3 then isTrue (by obtain ⟨h1, h2, h3, h4⟩ := h; rw [h1, h2, h3, h4]) else isFalse (by rintro h'; injection h' with h1 h2 h3 h4; exact h ⟨h1, h2, h3, h4⟩)
  | .dead, .loop _ _ _ _ | .box _, .loop _ _ _ _ | .vec _ _ _ _ _ _, .loop _ _ _ _ | .map _, .loop _ _ _ _ | .mapd _ _ _, .loop _ _ _ _ | .iter _ _ _ _, .loop _ _ _ _ => isFalse (by rintro h; cases h)
  | .loop _ _ _ _, .dead | .loop _ _ _ _, .box _ | .loop _ _ _ _, .vec _ _ _ _ _ _ | .loop _ _ _ _, .map _ | .loop _ _ _ _, .mapd _ _ _ | .loop _ _ _ _, .iter _ _ _ _ => isFalse (by rintro h; cases h)
instance : DecidableEq AObj := AObj.decEq
def viewOk (v0 : Value) (lo hi sz : Nat) (v : Value) : Prop :=
  ∃ (A : Option Addr) (n c : Nat) (A' : Option Addr), v0 = .slice A n c ∧ v = .slice A' (hi - lo) (c - lo) ∧ hi ≤ c ∧ (lo = 0 → A' = A) ∧ (lo < c → A' = A.map (·.add (lo * sz)))
def cellV (v : Value) (k : Nat) : Value :=
  match v with
  | .slice (some a) _ _ => .pointer (some ⟨a.block, a.off + k, none⟩)
  | _ => .pointer none
def sliceLike (n : Nat) (v : Value) : Prop := ∃ (A : Option Addr) (c : Nat), v = .slice A n c ∧ n ≤ c ∧ (0 < n → ∃ b off, A = some ⟨b, off, none⟩)
def ptrLike (v : Value) : Prop := ∃ b q, v = .pointer (some ⟨b, q, none⟩)
def ptrV (μ : Nat → Nat) (c : Nat × Nat) : Value := .pointer (some ⟨μ c.1, c.2, none⟩)
inductive VR (w : World) (I : Nat → Nat → Prop) (μ : Nat → Nat) (ν : Nat → Value) (ob : Nat → AObj) : AV → Value → Prop
  | d (x : D) (v : Value) : VRd w I x v → VR w I μ ν ob (.d x) v
  | ptr (o off : Nat) : VR w I μ ν ob (.ptr o off) (.pointer (some ⟨μ o, off, none⟩))
  | ep (cs : List D) (b off : Nat) (u : Nat → Value) : (∀ j, j < cs.length → w.cell? ⟨b, off + j, none⟩ = some (u j) ∧ I b (off + j) ∧ (u j).oneCell' = true) → (∀ (j : Nat) (d : D), cs[j]? = some d → VRd w I d (u j)) →
      VR w I μ ν ob (.ep cs) (.pointer (some ⟨b, off, none⟩))
  | vs (o g sz lo hi : Nat) (v : Value) : sliceLike (hi - lo) v → (∀ mv fz e sz' els, ob o = .vec g mv fz e sz' els → sz' = sz ∧ lo ≤ hi ∧ hi ≤ els.length ∧ viewOk (ν o) lo hi sz v) → VR w I μ ν ob (.vs o g sz lo hi) v
  | pv (o g j sz sub : Nat) (v : Value) : ptrLike v → (∀ mv fz e sz' els, ob o = .vec g mv fz e sz' els → sz' = sz ∧ j < els.length ∧ v = cellV (ν o) (j * sz + sub)) → VR w I μ ν ob (.pv o g j sz sub) v
  | mp (o : Nat) : VR w I μ ν ob (.mp o) (.map (some (μ o)))
  | nilm : VR w I μ ν ob .nilm (.map none)
  | nilp : VR w I μ ν ob .nilp (.pointer none)
  | fn (g : FuncId) (first caps : List (Nat × Nat)) : VR w I μ ν ob (.fn g first caps) (.func (.func g) (first.map (ptrV μ)).toArray (caps.map (ptrV μ)).toArray)
  | nilf : VR w I μ ν ob .nilf .nilFunc
  | fs (els : List D) (A : Option Addr) : VRd w I (.sl els) (.slice A els.length els.length) → VR w I μ ν ob (.fs els) (.slice A els.length els.length)
  | tup (l : List AV) (vs : List Value) : l.length = vs.length → (∀ (i : Nat) (x : AV) (v : Value), l[i]? = some x → vs[i]? = some v → VR w I μ ν ob x v) → VR w I μ ν ob (.tup l) (.tuple vs.toArray)
  | agv (l : List AV) (vs : List Value) : l.length = vs.length → (∀ (i : Nat) (x : AV) (v : Value), l[i]? = some x → vs[i]? = some v → VR w I μ ν ob x v) → (∀ v ∈ vs, v.oneCell' = true) → VR w I μ ν ob (.agv l) (.agg vs.toArray)
  | it (o : Nat) : VR w I μ ν ob (.it o) (.pointer (some ⟨μ o, 0, none⟩))
  | yl (o : Nat) : VR w I μ ν ob (.yl o) (.func (.yield (μ o)) #[] #[])
  | junk (v : Value) : VR w I μ ν ob .junk v
def AV.sc0 (ob : Nat → AObj) : AV → Prop
  | .ptr o _ | .mp o | .it o | .yl o => ob o ≠ .dead
  | .vs o g _ _ _ | .pv o g _ _ _ => ∃ g' mv fz e sz els, ob o = .vec g' mv fz e sz els ∧ g ≤ g'
  | .fn _ first caps => ∀ c ∈ first ++ caps, ob c.1 ≠ .dead
  | .tup _ | .agv _ => False
  | _ => True
def AV.sc (ob : Nat → AObj) : AV → Prop
  | .tup l | .agv l => ∀ x ∈ l, x.sc0 ob
  | x => x.sc0 ob
theorem AV.sc0.sc {ob : Nat → AObj} {x : AV} (h : x.sc0 ob) : x.sc ob := by
  cases x <;> first | exact h | exact h.elim
structure Goes (ob ob' : Nat → AObj) (μ μ' : Nat → Nat) (ν ν' : Nat → Value) : Prop where
  live : ∀ o, ob o ≠ .dead → ob' o ≠ .dead ∧ μ' o = μ o
  vec : ∀ o g mv fz e sz els, ob o = .vec g mv fz e sz els → ∃ g' mv' fz' els', ob' o = .vec g' mv' fz' e sz els' ∧ g ≤ g' ∧ (mv = true → mv' = true) ∧ ((g' = g ∨ mv' = false) → ν' o = ν o ∧ els'.length = els.length)
theorem Goes.refl (ob : Nat → AObj) (μ : Nat → Nat) (ν : Nat → Value) : Goes ob ob μ μ ν ν := ⟨fun _ h => ⟨h, rfl⟩, fun _ g mv fz e sz els h => ⟨g, mv, fz, els, h, Nat.le_refl _, id, fun _ => ⟨rfl, rfl⟩⟩⟩
theorem Goes.trans {ob ob1 ob2 : Nat → AObj} {μ μ1 μ2 : Nat → Nat} {ν ν1 ν2 : Nat → Value} (h : Goes ob ob1 μ μ1 ν ν1) (k : Goes ob1 ob2 μ1 μ2 ν1 ν2) : Goes ob ob2 μ μ2 ν ν2 := by
  refine ⟨fun o ho => ?_, fun o g mv fz e sz els ho => ?_⟩
  · obtain ⟨h1, h2⟩ := h.live o ho
    obtain ⟨k1, k2⟩ := k.live o h1
    exact ⟨k1, k2.trans h2⟩
  · obtain ⟨g1, mv1, fz1, els1, h1, h2, h3, h4⟩ := h.vec o g mv fz e sz els ho
    obtain ⟨g2, mv2, fz2, els2, k1, k2, k3, k4⟩ := k.vec o g1 mv1 fz1 e sz els1 h1
    refine ⟨g2, mv2, fz2, els2, k1, Nat.le_trans h2 k2, fun q => k3 (h3 q), fun q => ?_⟩
    have e1 : g2 = g1 ∨ mv2 = false := by
      rcases q with q | q
      · exact .inl (by omega)
      · exact .inr q
    have e2 : g1 = g ∨ mv1 = false := by
      rcases q with q | q
      · exact .inl (by omega)
      · right; cases hm : mv1 with
        | false => rfl
        | true => rw [k3 hm] at q; exact q
    obtain ⟨a1, a2⟩ := k4 e1
    obtain ⟨b1, b2⟩ := h4 e2
    exact ⟨a1.trans b1, a2.trans b2⟩
theorem AV.sc0.mono {ob ob' : Nat → AObj} {μ μ' : Nat → Nat} {ν ν' : Nat → Value} (hg : Goes ob ob' μ μ' ν ν') {x : AV} (h : x.sc0 ob) : x.sc0 ob' := by
  cases x with
  | ptr o off => exact (hg.live o h).1
  | mp o => exact (hg.live o h).1
  | it o => exact (hg.live o h).1
  | yl o => exact (hg.live o h).1
  | vs o g sz0 lo hi =>
    obtain ⟨g1, mv, fz, e, sz, els, h1, h2⟩ := h
    obtain ⟨g2, mv2, fz2, els2, h3, h4, _⟩ := hg.vec o g1 mv fz e sz els h1
    exact ⟨g2, mv2, fz2, e, sz, els2, h3, Nat.le_trans h2 h4⟩
  | pv o g j sz sub =>
    obtain ⟨g1, mv, fz, e, sz, els, h1, h2⟩ := h
    obtain ⟨g2, mv2, fz2, els2, h3, h4, _⟩ := hg.vec o g1 mv fz e sz els h1
    exact ⟨g2, mv2, fz2, e, sz, els2, h3, Nat.le_trans h2 h4⟩
  | fn g first caps => exact fun c hc => (hg.live c.1 (h c hc)).1
  | tup l => exact h.elim
  | agv l => exact h.elim
  | _ => trivial
theorem AV.sc.mono {ob ob' : Nat → AObj} {μ μ' : Nat → Nat} {ν ν' : Nat → Value} (hg : Goes ob ob' μ μ' ν ν') {x : AV} (h : x.sc ob) : x.sc ob' := by
  cases x with
  | tup l => exact fun y hy => (h y hy).mono hg
  | agv l => exact fun y hy => (h y hy).mono hg
  | _ => exact AV.sc0.sc (AV.sc0.mono hg h)
theorem VR.mono0 {w w' : World} {I I' : Nat → Nat → Prop} {μ μ' : Nat → Nat} {ν ν' : Nat → Value} {ob ob' : Nat → AObj}
    (h : ∀ b o, I b o → I' b o ∧ w'.cell? ⟨b, o, none⟩ = w.cell? ⟨b, o, none⟩) (hg : Goes ob ob' μ μ' ν ν') {x : AV} {v : Value} (hs : x.sc0 ob) (hv : VR w I μ ν ob x v) : VR w' I' μ' ν' ob' x v := by
  cases hv with
  | d x v hd => exact .d _ _ (hd.mono h)
  | ptr o off => rw [← (hg.live o hs).2]; exact .ptr o off
  | ep cs b off u hc hd =>
    exact .ep cs b off u (fun j hj => ⟨(h b _ (hc j hj).2.1).2.trans (hc j hj).1, (h b _ (hc j hj).2.1).1, (hc j hj).2.2⟩) fun j d hj => (hd j d hj).mono h
  | vs o g sz lo hi v hl hh =>
    refine .vs o g sz lo hi v hl fun mv' fz' e' sz' els' ho' => ?_
    obtain ⟨g1, mv, fz, e, sz1, els, h1, h2⟩ := hs
    obtain ⟨g2, mv2, fz2, els2, h3, h4, h5, h6⟩ := hg.vec o g1 mv fz e sz1 els h1
    rw [h3] at ho'
    injection ho' with e1 e2 e3 e4 e5 e6
    obtain rfl : g1 = g := by omega
    obtain ⟨q1, q2⟩ := h6 (.inl e1)
    obtain ⟨a0, a1, a2, a3⟩ := hh mv fz e sz1 els h1
    subst e5; subst e6
    exact ⟨a0, a1, by omega, by rw [q1]; exact a3⟩
  | pv o g j sz sub v hl hh =>
    refine .pv o g j sz sub v hl fun mv' fz' e' sz' els' ho' => ?_
    obtain ⟨g1, mv, fz, e, sz1, els, h1, h2⟩ := hs
    obtain ⟨g2, mv2, fz2, els2, h3, h4, h5, h6⟩ := hg.vec o g1 mv fz e sz1 els h1
    rw [h3] at ho'
    injection ho' with e1 e2 e3 e4 e5 e6
    obtain rfl : g1 = g := by omega
    obtain ⟨q1, q2⟩ := h6 (.inl e1)
    obtain ⟨a1, a2, a3⟩ := hh mv fz e sz1 els h1
    subst e5; subst e6
    exact ⟨a1, by omega, by rw [q1]; exact a3⟩
  | mp o => rw [← (hg.live o hs).2]; exact .mp o
  | nilm => exact .nilm
  | nilp => exact .nilp
  | fn g first caps =>
    have e : ∀ l : List (Nat × Nat), (∀ c ∈ l, ob c.1 ≠ .dead) → l.map (ptrV μ) = l.map (ptrV μ') := fun l hl => List.map_congr_left fun c hc => by unfold ptrV; rw [(hg.live c.1 (hl c hc)).2]
    rw [e first fun c hc => hs c (List.mem_append_left _ hc), e caps fun c hc => hs c (List.mem_append_right _ hc)]; exact .fn g first caps
  | nilf => exact .nilf
  | fs els A hd => exact .fs els A (hd.mono h)
  | tup l vs hl hp => exact hs.elim
  | agv l vs hl hp h1 => exact hs.elim
  | it o => rw [← (hg.live o hs).2]; exact .it o
  | yl o => rw [← (hg.live o hs).2]; exact .yl o
  | junk v => exact .junk v
theorem VR.mono {w w' : World} {I I' : Nat → Nat → Prop} {μ μ' : Nat → Nat} {ν ν' : Nat → Value} {ob ob' : Nat → AObj}
    (h : ∀ b o, I b o → I' b o ∧ w'.cell? ⟨b, o, none⟩ = w.cell? ⟨b, o, none⟩) (hg : Goes ob ob' μ μ' ν ν') {x : AV} {v : Value} (hs : x.sc ob) (hv : VR w I μ ν ob x v) : VR w' I' μ' ν' ob' x v := by
  cases x with
  | tup l =>
    cases hv with
    | tup l vs hl hp => exact .tup l vs hl fun i y u hy hu => (hp i y u hy hu).mono0 h hg (hs y (List.mem_of_getElem? hy))
  | agv l =>
    cases hv with
    | agv l vs hl hp h1 => exact .agv l vs hl (fun i y u hy hu => (hp i y u hy hu).mono0 h hg (hs y (List.mem_of_getElem? hy))) h1
  | _ => exact hv.mono0 h hg hs
def AV.oids0 : AV → List Nat
  | .ptr o _ | .mp o | .it o | .yl o | .vs o _ _ _ _ | .pv o _ _ _ _ => [o]
  | .fn _ a b => a.map (·.1) ++ b.map (·.1)
  | _ => []
def AV.oids : AV → List Nat
  | .tup l | .agv l => l.flatMap AV.oids0
  | x => x.oids0
def AObj.oids : AObj → List Nat
  | .box cs => cs.flatMap AV.oids0
  | .iter (some m) _ _ _ => [m]
  | .loop _ _ _ vs => vs.flatMap AV.oids0
  | _ => []
def AObj.isMap : AObj → Prop
  | .map _ | .mapd _ _ _ => True
  | _ => False
def renG (f : Nat → Nat) (gn : Nat → Nat) (g sz lo hi o : Nat) : AObj → AV
  | .vec g' _ _ _ _ _ => if g' = g then .vs (f o) (gn o) sz lo hi else .junk
  | _ => .junk
def renP (f : Nat → Nat) (gn : Nat → Nat) (g j sz sub o : Nat) : AObj → AV
  | .vec g' _ _ _ _ _ => if g' = g then .pv (f o) (gn o) j sz sub else .junk
  | _ => .junk
def AV.ren0 (f : Nat → Nat) (ob : Nat → AObj) (gn : Nat → Nat) : AV → AV
  | .ptr o k => .ptr (f o) k
  | .mp o => .mp (f o)
  | .it o => .it (f o)
  | .yl o => .yl (f o)
  | .vs o g sz lo hi => renG f gn g sz lo hi o (ob o)
  | .pv o g j sz sub => renP f gn g j sz sub o (ob o)
  | .fn g a b => .fn g (a.map fun c => (f c.1, c.2)) (b.map fun c => (f c.1, c.2))
  | .tup _ | .agv _ => .junk
  | x => x
def AV.ren (f : Nat → Nat) (ob : Nat → AObj) (gn : Nat → Nat) : AV → AV
  | .tup l => .tup (l.map (AV.ren0 f ob gn))
  | x => x.ren0 f ob gn
def Leads (f : Nat → Nat) (gn : Nat → Nat) (ob ob2 : Nat → AObj) (μ μ2 : Nat → Nat) (ν ν2 : Nat → Value) (o : Nat) : Prop :=
  μ2 (f o) = μ o ∧ ν2 (f o) = ν o ∧ (ob o ≠ .dead → ob2 (f o) ≠ .dead) ∧ ∀ g mv fz e sz els, ob o = .vec g mv fz e sz els → ∃ mv2 fz2, ob2 (f o) = .vec (gn o) mv2 fz2 e sz els
theorem VR.ren0 {w : World} {I : Nat → Nat → Prop} {f gn : Nat → Nat} {ob ob2 : Nat → AObj} {μ μ2 : Nat → Nat} {ν ν2 : Nat → Value} {x : AV} {v : Value} (hs : x.sc0 ob) (h : ∀ o ∈ x.oids0, Leads f gn ob ob2 μ μ2 ν ν2 o) (hv : VR w I μ ν ob x v) :
    VR w I μ2 ν2 ob2 (x.ren0 f ob gn) v ∧ (x.ren0 f ob gn).sc0 ob2 := by
  cases hv with
  | d x v hd => exact ⟨.d _ _ hd, trivial⟩
  | ptr o off =>
    obtain ⟨h1, _, h3, _⟩ := h o (by simp [AV.oids0])
    exact ⟨by simp only [AV.ren0]; rw [← h1]; exact .ptr _ _, h3 hs⟩
  | ep cs b off u hc hd => exact ⟨.ep cs b off u hc hd, trivial⟩
  | vs o g sz lo hi v hl hh =>
    obtain ⟨g1, mv, fz, e, sz1, els, h1, h2⟩ := hs
    obtain ⟨_, h3, _, h4⟩ := h o (by simp [AV.oids0])
    obtain ⟨mv2, fz2, h5⟩ := h4 _ _ _ _ _ _ h1
    simp only [AV.ren0, h1, renG]
    split
    · rename_i hgg
      subst hgg
      refine ⟨.vs _ _ _ _ _ _ hl fun mv' fz' e' sz' els' ho' => ?_, ⟨_, _, _, _, _, _, h5, Nat.le_refl _⟩⟩
      rw [h5] at ho'
      injection ho' with _ _ _ _ e5 e6
      subst e5; subst e6
      rw [h3]
      exact hh mv fz e sz1 els h1
    · exact ⟨.junk _, trivial⟩
  | pv o g j sz sub v hl hh =>
    obtain ⟨g1, mv, fz, e, sz1, els, h1, h2⟩ := hs
    obtain ⟨_, h3, _, h4⟩ := h o (by simp [AV.oids0])
    obtain ⟨mv2, fz2, h5⟩ := h4 _ _ _ _ _ _ h1
    simp only [AV.ren0, h1, renP]
    split
    · rename_i hgg
      subst hgg
      refine ⟨.pv _ _ _ _ _ _ hl fun mv' fz' e' sz' els' ho' => ?_, ⟨_, _, _, _, _, _, h5, Nat.le_refl _⟩⟩
      rw [h5] at ho'
      injection ho' with _ _ _ _ e5 e6
      subst e5; subst e6
      rw [h3]
      exact hh mv fz e sz1 els h1
    · exact ⟨.junk _, trivial⟩
  | mp o =>
    obtain ⟨h1, _, h3, _⟩ := h o (by simp [AV.oids0])
    exact ⟨by simp only [AV.ren0]; rw [← h1]; exact .mp _, h3 hs⟩
  | nilm => exact ⟨.nilm, trivial⟩
  | nilp => exact ⟨.nilp, trivial⟩
  | fn g a b =>
    have e : ∀ l : List (Nat × Nat), (∀ c ∈ l, Leads f gn ob ob2 μ μ2 ν ν2 c.1) → l.map (ptrV μ) = (l.map fun c => (f c.1, c.2)).map (ptrV μ2) := fun l hl => by
      rw [List.map_map]
      exact List.map_congr_left fun c hc => by simp only [Function.comp, ptrV]; rw [(hl c hc).1]
    have ha : ∀ c ∈ a, Leads f gn ob ob2 μ μ2 ν ν2 c.1 := fun c hc => h c.1 (by simp only [AV.oids0, List.mem_append, List.mem_map]; exact .inl ⟨c, hc, rfl⟩)
    have hb : ∀ c ∈ b, Leads f gn ob ob2 μ μ2 ν ν2 c.1 := fun c hc => h c.1 (by simp only [AV.oids0, List.mem_append, List.mem_map]; exact .inr ⟨c, hc, rfl⟩)
    refine ⟨by simp only [AV.ren0]; rw [e a ha, e b hb]; exact .fn _ _ _, ?_⟩
    intro c hc
    rcases List.mem_append.1 hc with hc | hc
    · obtain ⟨c', hc', rfl⟩ := List.mem_map.1 hc
      exact (ha c' hc').2.2.1 (hs c' (List.mem_append_left _ hc'))
    · obtain ⟨c', hc', rfl⟩ := List.mem_map.1 hc
      exact (hb c' hc').2.2.1 (hs c' (List.mem_append_right _ hc'))
  | nilf => exact ⟨.nilf, trivial⟩
  | fs els A hd => exact ⟨.fs els A hd, trivial⟩
  | tup l vs hl hp => exact hs.elim
  | agv l vs hl hp h1 => exact hs.elim
  | it o =>
    obtain ⟨h1, _, h3, _⟩ := h o (by simp [AV.oids0])
    exact ⟨by simp only [AV.ren0]; rw [← h1]; exact .it _, h3 hs⟩
  | yl o =>
    obtain ⟨h1, _, h3, _⟩ := h o (by simp [AV.oids0])
    exact ⟨by simp only [AV.ren0]; rw [← h1]; exact .yl _, h3 hs⟩
  | junk v => exact ⟨.junk v, trivial⟩
theorem VR.ren {w : World} {I : Nat → Nat → Prop} {f gn : Nat → Nat} {ob ob2 : Nat → AObj} {μ μ2 : Nat → Nat} {ν ν2 : Nat → Value} {x : AV} {v : Value} (hs : x.sc ob) (h : ∀ o ∈ x.oids, Leads f gn ob ob2 μ μ2 ν ν2 o) (hv : VR w I μ ν ob x v) :
    VR w I μ2 ν2 ob2 (x.ren f ob gn) v ∧ (x.ren f ob gn).sc ob2 := by
  cases x with
  | tup l =>
    cases hv with
    | tup l vs hl hp =>
      have key : ∀ (i : Nat) (x : AV) (v : Value), l[i]? = some x → vs[i]? = some v → VR w I μ2 ν2 ob2 (x.ren0 f ob gn) v ∧ (x.ren0 f ob gn).sc0 ob2 := fun i x v hx hv =>
        (hp i x v hx hv).ren0 (hs x (List.mem_of_getElem? hx)) fun o ho => h o (by simp only [AV.oids, List.mem_flatMap]; exact ⟨x, List.mem_of_getElem? hx, ho⟩)
      refine ⟨.tup _ _ (by simpa using hl) fun i x v hx hv => ?_, fun x hx => ?_⟩
      · rw [List.getElem?_map] at hx
        obtain ⟨y, hy, rfl⟩ := Option.map_eq_some_iff.1 hx
        exact (key i y v hy hv).1
      · obtain ⟨y, hy, rfl⟩ := List.mem_map.1 hx
        obtain ⟨i, hi⟩ := List.mem_iff_getElem?.1 hy
        have hlt : i < vs.length := by rw [← hl]; exact (List.getElem?_eq_some_iff.1 hi).1
        exact (key i y _ hi (List.getElem?_eq_getElem hlt)).2
  | agv l => exact ⟨.junk v, trivial⟩
  | _ =>
    have q := fun hs' (h' : _) => VR.ren0 (f := f) (gn := gn) (ob := ob) (ob2 := ob2) (μ := μ) (μ2 := μ2) (ν := ν) (ν2 := ν2) hs' h' hv
    exact ⟨(q hs h).1, (q hs h).2.sc⟩
end Go.Proofs.YtpooehcjchkbkaaV
/- The table of types, and what each operation gives over the walk's values: definitions. -/
set_option linter.unusedVariables false
set_option linter.unusedSimpArgs false
namespace Go.Proofs.YtpooehcjchkbkaaV
open Go.RowKit
inductive TK where
  | int (k : IntKind) | bool | str | slice (e : TypeId) | struct (fs : List (Nat × TypeId × Nat)) | arr (n : Nat) (e : TypeId) | map (k e : TypeId) | ptr | other
structure TyI where
  kind : TK
  size : Nat
  bytes : Nat
  zero : List AV
abbrev Tbl := List (TypeId × TyI)
def Tbl.get : Tbl → TypeId → Option TyI
  | [], _ => none
  | (u, i) :: r, t => if u = t then some i else Tbl.get r t
def TK.agg : TK → Bool
  | .struct _ | .arr .. => true
  | _ => false
def litEq : Value → AV → Bool
  | .int k n, .d (.int k' m) => decide (k = k') && decide (n = m)
  | .bool a, .d (.bool b) => a == b
  | .string s, .d (.str t) => s.size == 0 && t.size == 0
  | .slice none n c, .d .nils => n == 0 && c == 0
  | .map none, .nilm => true
  | .pointer none, .nilp => true
  | .nilFunc, .nilf => true
  | _, _ => false
def litsEq : List Value → List AV → Bool
  | [], [] => true
  | v :: vs, x :: xs => litEq v x && litsEq vs xs
  | _, _ => false
def fieldsEq (P : Program) : List Field → List (Nat × TypeId × Nat) → Bool
  | [], [] => true
  | f :: fs, (o, t, n) :: gs => f.offset == o && f.type == t && n != 0 && (match P.info? t with | some i => i.size == n | none => false) && fieldsEq P fs gs
  | _, _ => false
def kindEq (P : Program) : TypeDesc → TK → Bool
  | .int k, .int k' => decide (k = k')
  | .bool, .bool => true
  | .string, .str => true
  | .slice e, .slice e' => e == e'
  | .struct fs, .struct gs => fieldsEq P fs.toList gs
  | .array n e, .arr n' e' => n == n' && e == e'
  | .map k e, .map k' e' => k == k' && e == e'
  | .pointer _, .ptr => true
  | .struct _, _ => false
  | .array .., _ => false
  | _, .other => true
  | _, _ => false
def isAggV : Value → Bool
  | .agg _ => true
  | _ => false
def tyChk (P : Program) (t : TypeId) (i : TyI) : Bool :=
  match P.info? t, P.underlying t with
  | some f, some u => f.size == i.size && f.bytes == i.bytes && (match f.zero with | some z => litsEq z.cells.toList i.zero && z.cells.size == i.size && isAggV z == i.kind.agg | none => false) && kindEq P u i.kind
  | _, _ => false
def TOk (P : Program) (T : Tbl) : Prop := T.all (fun p => tyChk P p.1 p.2) = true
theorem TOk.get {P : Program} {T : Tbl} (h : TOk P T) {t : TypeId} {i : TyI} (hg : T.get t = some i) : tyChk P t i = true := by
  unfold TOk at h
  induction T with
  | nil => simp [Tbl.get] at hg
  | cons p r ih =>
    obtain ⟨u, j⟩ := p
    simp only [List.all_cons, Bool.and_eq_true] at h
    simp only [Tbl.get] at hg
    split at hg
    · rename_i he
      subst he
      injection hg with hg
      subst hg
      exact h.1
    · exact ih h.2 hg
structure TyOk (P : Program) (t : TypeId) (i : TyI) : Prop where
  info : ∃ f, P.info? t = some f ∧ f.size = i.size ∧ f.bytes = i.bytes ∧ ∃ z, f.zero = some z ∧ litsEq z.cells.toList i.zero = true ∧ z.cells.size = i.size
  und : ∃ u, P.underlying t = some u ∧ kindEq P u i.kind = true
  shape : ∀ f z, P.info? t = some f → f.zero = some z → isAggV z = i.kind.agg
theorem TOk.ok {P : Program} {T : Tbl} (h : TOk P T) {t : TypeId} {i : TyI} (hg : T.get t = some i) : TyOk P t i := by
  have := h.get hg
  unfold tyChk at this
  split at this
  · rename_i f u hf hu
    simp only [Bool.and_eq_true, beq_iff_eq] at this
    obtain ⟨⟨⟨h1, h2⟩, h3⟩, h4⟩ := this
    split at h3
    · rename_i z hz
      simp only [Bool.and_eq_true, beq_iff_eq] at h3
      exact ⟨⟨f, hf, h1, h2, z, hz, h3.1.1, h3.1.2⟩, ⟨u, hu, h4⟩, fun f' z' hf' hz' => by rw [hf] at hf'; injection hf' with hf'; subst hf'; rw [hz] at hz'; injection hz' with hz'; subst hz'; exact h3.2⟩
    · simp at h3
  · simp at this
def constAV : Value → AV
  | .int k n => .d (.int k n)
  | .bool b => .d (.bool b)
  | .string s => .d (.str s)
  | .slice none 0 0 => .d .nils
  | .map none => .nilm
  | .pointer none => .nilp
  | .nilFunc => .nilf
  | _ => .junk
def evalAV (t : Nat → AV) : Operand → AV
  | .tmp i => t i
  | .const v => constAV v
  | .global _ => .junk
  | .func f => .fn f [] []
def eqCells : List D → List D → Option Bool
  | [], [] => some true
  | [.int _ a], [.int _ b] => some (a == b)
  | [.bool a], [.bool b] => some (a == b)
  | [.str a], [.str b] => some (a.toList == b.toList)
  | .int _ a :: xs, .int _ b :: ys => (eqCells xs ys).map fun r => (a == b && r)
  | .bool a :: xs, .bool b :: ys => (eqCells xs ys).map fun r => (a == b && r)
  | .str a :: xs, .str b :: ys => (eqCells xs ys).map fun r => (a.toList == b.toList && r)
  | _, _ => none
inductive EK where
  | int (k : IntKind) | bool | str
def EK.has : EK → D → Bool
  | .int k, .int k' _ => decide (k = k')
  | .bool, .bool _ => true
  | .str, .str _ => true
  | _, _ => false
def EK.hasAll : List EK → List D → Bool
  | [], [] => true
  | k :: ks, d :: ds => k.has d && EK.hasAll ks ds
  | _, _ => false
def elsOf : AV → Option (List D)
  | .d (.sl els) => some els
  | .d .nils => some []
  | _ => none
def vecEls (g lo hi : Nat) : AObj → Option (List D)
  | .vec g' _ _ _ _ els => if g' = g then some ((els.take hi).drop lo) else none
  | _ => none
def elsR (ob : Nat → AObj) : AV → Option (List D)
  | .vs o g _ lo hi => vecEls g lo hi (ob o)
  | x => elsOf x
def AV.toD : AV → Option D
  | .d x => some x
  | _ => none
def toDs : List AV → Option (List D)
  | [] => some []
  | x :: xs => match x.toD, toDs xs with
    | some d, some ds => some (d :: ds)
    | _, _ => none
def AV.cells : AV → List AV
  | .d (.agg cs) => cs.map .d
  | .agv cs => cs
  | x => [x]
def AV.one : AV → Bool
  | .d (.agg _) | .tup _ | .agv _ | .junk => false
  | _ => true
def joinD (el : D) (sub : Nat) (ds : List D) : D :=
  match el with
  | .agg cs => .agg (cs.take sub ++ ds ++ cs.drop (sub + ds.length))
  | el => match ds with
    | [x] => x
    | _ => el
def TyI.zeroD (i : TyI) : Option D :=
  match toDs i.zero with
  | some zs => if i.kind.agg then some (.agg zs) else (match zs with | [z] => some z | _ => none)
  | none => none
inductive OpR where
  | val (v : AV) (e : List (Nat × AObj))
  | alts (l : List (AV × List (Nat × AObj)))
  | call (g : FuncId) (xs : List AV)
  | bad
def OpR.of : Option AV → OpR
  | some v => .val v []
  | none => .bad
def binIntF (op : BinOp) (k : IntKind) (a : Int) (k' : IntKind) (b : Int) : Option AV :=
  match op with
  | .add => if k = k' then some (.d (.int k (k.wrap (a + b)))) else none
  | .sub => if k = k' then some (.d (.int k (k.wrap (a - b)))) else none
  | .mul => if k = k' then some (.d (.int k (k.wrap (a * b)))) else none
  | .quo => if k = k' ∧ b ≠ 0 then some (.d (.int k (k.wrap (a.tdiv b)))) else none
  | .rem => if k = k' ∧ b ≠ 0 then some (.d (.int k (a.tmod b))) else none
  | .and => if k = k' then some (.d (.int k (k.wrap (BitVec.ofInt k.bits a &&& BitVec.ofInt k.bits b).toNat))) else none
  | .or => if k = k' then some (.d (.int k (k.wrap (BitVec.ofInt k.bits a ||| BitVec.ofInt k.bits b).toNat))) else none
  | .xor => if k = k' then some (.d (.int k (k.wrap (BitVec.ofInt k.bits a ^^^ BitVec.ofInt k.bits b).toNat))) else none
  | .andNot => if k = k' then some (.d (.int k (k.wrap (BitVec.ofInt k.bits a &&& ~~~ BitVec.ofInt k.bits b).toNat))) else none
  | .shl => if 0 ≤ b then some (.d (.int k (k.wrap (a * 2 ^ (min b.toNat k.bits))))) else none
  | .shr => if 0 ≤ b then some (.d (.int k (a.fdiv (2 ^ (min b.toNat k.bits))))) else none
  | .eql => if k = k' then some (.d (.bool (a == b))) else none
  | .neq => if k = k' then some (.d (.bool (a != b))) else none
  | .lss => if k = k' then some (.d (.bool (decide (a < b)))) else none
  | .leq => if k = k' then some (.d (.bool (decide (a ≤ b)))) else none
  | .gtr => if k = k' then some (.d (.bool (decide (a > b)))) else none
  | .geq => if k = k' then some (.d (.bool (decide (a ≥ b)))) else none
def eqS (a b : ByteArray) : Bool := a.toList == b.toList
def lessS (a b : ByteArray) : Bool := Op.bytesLess a.toList b.toList
def binStrF (op : BinOp) (a b : ByteArray) : Option AV :=
  match op with
  | .add => if a.size + b.size ≤ 9223372036854775807 then some (.d (.str (a ++ b))) else none
  | .eql => some (.d (.bool (eqS a b)))
  | .neq => some (.d (.bool (!eqS a b)))
  | .lss => some (.d (.bool (lessS a b)))
  | .leq => some (.d (.bool (lessS a b || eqS a b)))
  | .gtr => some (.d (.bool (!(lessS a b || eqS a b))))
  | .geq => some (.d (.bool (!lessS a b)))
  | _ => none
def AV.isPtr : AV → Bool
  | .ptr _ _ | .ep _ | .pv _ _ _ _ _ => true
  | _ => false
def ptrNil (x y : AV) : Option Bool := match x, y with
  | .nilp, .nilp => some true
  | x, .nilp => if x.isPtr = true then some false else none
  | .nilp, y => if y.isPtr = true then some false else none
  | _, _ => none
def slNil (x y : AV) : Option Bool := match x, y with
  | .d .nils, .d .nils => some true
  | .d (.sl (_ :: _)), .d .nils => some false
  | .vs _ _ _ lo hi, .d .nils => if lo < hi then some false else none
  | _, _ => none
def mpNil (x y : AV) : Option Bool := match x, y with
  | .nilm, .nilm => some true
  | .mp _, .nilm => some false
  | _, _ => none
def nilE (T : Tbl) (t : TypeId) (x y : AV) : Option Bool := match T.get t with
  | some ⟨.ptr, _, _, _⟩ => ptrNil x y
  | some ⟨.slice _, _, _, _⟩ => slNil x y
  | some ⟨.map _ _, _, _, _⟩ => mpNil x y
  | _ => none
def eqF (T : Tbl) (Q : TypeId → Option (List EK)) (t : TypeId) (x y : AV) : Option Bool :=
  match x, y with
  | .d (.bool a), .d (.bool b) => (match T.get t with | some ⟨.bool, _, _, _⟩ => some (a == b) | _ => none)
  | .d (.agg xs), .d (.agg ys) => (match Q t with
    | some ks => if EK.hasAll ks xs = true ∧ EK.hasAll ks ys = true then eqCells xs ys else none
    | none => none)
  | x, y => nilE T t x y
def negF : Option Bool → Option AV
  | some r => some (.d (.bool (!r)))
  | none => none
def posF : Option Bool → Option AV
  | some r => some (.d (.bool r))
  | none => none
def binF (T : Tbl) (Q : TypeId → Option (List EK)) (op : BinOp) (t : TypeId) (x y : AV) : Option AV :=
  match x, y with
  | .d (.int k a), .d (.int k' b) => binIntF op k a k' b
  | .d (.str a), .d (.str b) => binStrF op a b
  | x, y => match op with
    | .eql => posF (eqF T Q t x y)
    | .neq => negF (eqF T Q t x y)
    | _ => none
def pelF (i : TyI) (sz sub : Nat) (el : Option D) : Option AV :=
  match el with
  | some el => if i.kind.agg then (if sub + i.size ≤ sz then some (.d (.agg ((el.cells.drop sub).take i.size))) else none) else (match el.cells[sub]? with | some c => some (.d c) | none => none)
  | none => none
def pvLoad (i : TyI) (g j sz sub : Nat) : AObj → Option AV
  | .vec g' _ _ _ _ els => if g' = g then pelF i sz sub els[j]? else none
  | _ => none
def pelSet (i : TyI) (sz sub : Nat) (el : Option D) (ds : Option (List D)) : Option D :=
  match el, ds with
  | some el, some ds => if ds.length = i.size ∧ sub + i.size ≤ sz then some (joinD el sub ds) else none
  | _, _ => none
def pvStore (i : TyI) (y : AV) (o g j sz sub : Nat) : AObj → OpR
  | .vec g' mv fz e sz' els => if g' = g ∧ fz = false ∧ y.cells.all AV.one = true then (match pelSet i sz sub els[j]? (toDs y.cells) with
      | some el => .val .junk [(o, .vec g' mv false e sz' (els.set j el))]
      | none => .bad) else .bad
  | _ => .bad
def boxLoad (i : TyI) (k : Nat) : AObj → Option AV
  | .box cs => if i.kind.agg then (if k + i.size ≤ cs.length then (match toDs ((cs.drop k).take i.size) with | some ds => some (.d (.agg ds)) | none => some (.agv ((cs.drop k).take i.size))) else none) else cs[k]?
  | _ => none
def epLoad (i : TyI) (cs : List D) : Option AV :=
  if i.kind.agg then (if i.size ≤ cs.length then some (.d (.agg (cs.take i.size))) else none) else (match cs with | c :: _ => some (.d c) | [] => none)
def loadF (T : Tbl) (t : TypeId) (x : AV) (ob : Nat → AObj) : Option AV :=
  match T.get t with
  | none => none
  | some i => match x with
    | .ptr o k => boxLoad i k (ob o)
    | .ep cs => epLoad i cs
    | .pv o g j sz sub => pvLoad i g j sz sub (ob o)
    | _ => none
def boxStore (i : TyI) (y : AV) (o k : Nat) : AObj → OpR
  | .box cs => if y.cells.length = i.size ∧ k + i.size ≤ cs.length ∧ y.cells.all AV.one = true then .val .junk [(o, .box (cs.take k ++ y.cells ++ cs.drop (k + i.size)))] else .bad
  | _ => .bad
def storeF (T : Tbl) (t : TypeId) (x y : AV) (ob : Nat → AObj) : OpR :=
  match T.get t with
  | none => .bad
  | some i => match x with
    | .ptr o k => boxStore i y o k (ob o)
    | .pv o g j sz sub => pvStore i y o g j sz sub (ob o)
    | _ => .bad
def fieldAddrF (T : Tbl) (t : TypeId) (x : AV) (f : Nat) : Option AV :=
  match T.get t with
  | some ⟨.struct fs, _, _, _⟩ => (match fs[f]? with
    | some (off, _, _) => (match x with
      | .ptr o k => some (.ptr o (k + off))
      | .ep cs => some (.ep (cs.drop off))
      | .pv o g j sz sub => some (.pv o g j sz (sub + off))
      | _ => none)
    | none => none)
  | _ => none
def fieldF (T : Tbl) (t : TypeId) (x : AV) (f : Nat) : Option AV :=
  match T.get t with
  | some ⟨.struct fs, _, _, _⟩ => (match fs[f]? with
    | some (off, ft, n) => (match x, T.get ft with
      | .d (.agg cs), some i => if off + n ≤ cs.length ∧ n = i.size then (if i.kind.agg then some (.d (.agg ((cs.drop off).take n))) else match cs[off]? with | some c => some (.d c) | none => none) else none
      | _, _ => none)
    | none => none)
  | _ => none
def epOf (n : Int) (sz : Nat) : Option D → Option AV
  | some el => if 0 ≤ n ∧ el.cells.length = sz then some (.ep el.cells) else none
  | none => none
def indexAddrF (T : Tbl) (t : TypeId) (x ix : AV) : Option AV :=
  match T.get t with
  | some ⟨.slice e, _, _, _⟩ => (match x with
    | .vs o g sz lo hi => (match T.get e, ix with
      | some i, .d (.int _ n) => if 0 ≤ n ∧ n < ((hi - lo : Nat) : Int) ∧ i.size = sz then some (.pv o g (lo + n.toNat) sz 0) else none
      | _, _ => none)
    | x => (match T.get e, elsOf x, ix with
      | some i, some els, .d (.int _ n) => epOf n i.size els[n.toNat]?
      | _, _, _ => none))
  | some ⟨.arr m e, _, _, _⟩ => (match T.get e, x, ix with
    | some i, .ptr o k, .d (.int _ n) => if 0 ≤ n ∧ n < m then some (.ptr o (k + n.toNat * i.size)) else none
    | some i, .ep cs, .d (.int _ n) => if 0 ≤ n ∧ n < m then some (.ep (cs.drop (n.toNat * i.size))) else none
    | some i, .pv o g j sz sub, .d (.int _ n) => if 0 ≤ n ∧ n < m then some (.pv o g j sz (sub + n.toNat * i.size)) else none
    | _, _, _ => none)
  | _ => none
def byteF (n : Int) : Option UInt8 → Option AV
  | some c => if 0 ≤ n then some (.d (.int .u8 (c.toNat : Int))) else none
  | none => none
def indexF (T : Tbl) (t : TypeId) (x ix : AV) : Option AV :=
  match T.get t with
  | some ⟨.str, _, _, _⟩ => (match x, ix with
    | .d (.str s), .d (.int _ n) => byteF n s.data[n.toNat]?
    | _, _ => none)
  | _ => none
def mapLen : AObj → Option AV
  | .map es => some (.d (.int .i64 (es.length : Int)))
  | .mapd es _ _ => some (.d (.int .i64 (es.length : Int)))
  | _ => none
def lenF (T : Tbl) (t : TypeId) (x : AV) (ob : Nat → AObj) : Option AV :=
  match T.get t with
  | some ⟨.str, _, _, _⟩ => (match x with | .d (.str s) => some (.d (.int .i64 (s.size : Int))) | _ => none)
  | some ⟨.slice _, _, _, _⟩ => (match x with
    | .vs _ _ _ lo hi => some (.d (.int .i64 ((hi - lo : Nat) : Int)))
    | .fs els => some (.d (.int .i64 (els.length : Int)))
    | x => (match elsOf x with | some els => some (.d (.int .i64 (els.length : Int))) | none => none))
  | some ⟨.map _ _, _, _, _⟩ => (match x with
    | .nilm => some (.d (.int .i64 0))
    | .mp o => mapLen (ob o)
    | _ => none)
  | _ => none
def cutF (n : Nat) (lo hi : Option AV) : Option (Nat × Nat) :=
  match lo, hi with
  | none, none => some (0, n)
  | some (.d (.int _ l)), none => if 0 ≤ l ∧ l ≤ n then some (l.toNat, n) else none
  | none, some (.d (.int _ h)) => if 0 ≤ h ∧ h ≤ n then some (0, h.toNat) else none
  | some (.d (.int _ l)), some (.d (.int _ h)) => if 0 ≤ l ∧ l ≤ h ∧ h ≤ n then some (l.toNat, h.toNat) else none
  | _, _ => none
def szAll (n : Nat) (els : List D) : Bool := els.all fun y => y.cells.length == n
theorem szAll_iff {n : Nat} {els : List D} : szAll n els = true ↔ ∀ y ∈ els, y.cells.length = n := by simp [szAll]
def sliceF (T : Tbl) (t : TypeId) (x : AV) (lo hi : Option AV) : Option AV :=
  match T.get t with
  | some ⟨.str, _, _, _⟩ => (match x with
    | .d (.str s) => (match cutF s.size lo hi with | some (l, h) => some (.d (.str (s.extract l h))) | none => none)
    | _ => none)
  | some ⟨.slice e, _, _, _⟩ => (match x with
    | .vs o g sz l0 h0 => (match T.get e, cutF (h0 - l0) lo hi with
      | some i, some (l, h) => if i.size = sz then some (.vs o g sz (l0 + l) (l0 + h)) else none
      | _, _ => none)
    | x => (match T.get e, elsOf x with
      | some i, some els => if szAll i.size els = true then (match cutF els.length lo hi with | some (l, h) => some (.d (.sl ((els.take h).drop l))) | none => none) else none
      | _, _ => none))
  | _ => none
def sliceN (T : Tbl) (t : TypeId) (x : AV) (lo hi : Option AV) : Option AV :=
  match T.get t, x, lo, hi with
  | some ⟨.slice e, _, _, _⟩, .d .nils, none, some (.d (.int _ h)) => (match T.get e with | some _ => if h = 0 then some (.d .nils) else none | none => none)
  | _, _, _, _ => none
def sliceX (dd : Bool) (T : Tbl) (t : TypeId) (x : AV) (lo hi : Option AV) : Option AV := if dd = true then sliceN T t x lo hi else sliceF T t x lo hi
def isSl : AV → Bool
  | .vs _ _ _ _ _ | .fs _ => true
  | x => (elsOf x).isSome
def slice3F (T : Tbl) (t : TypeId) (x : AV) (lo hi : Option AV) (mx : AV) : Option AV :=
  match T.get t, lo, hi, mx with
  | some ⟨.slice e, _, _, _⟩, none, some (.d (.int _ h)), .d (.int _ m) => (match T.get e, elsOf x with
    | some i, some els => if h = m ∧ 0 ≤ h ∧ h.toNat ≤ els.length ∧ szAll i.size els = true then some (.fs (els.take h.toNat)) else if h = 0 ∧ m = 0 then some (.fs []) else none
    | some i, none => if h = 0 ∧ m = 0 ∧ isSl x = true then some (.fs []) else none
    | _, _ => none)
  | _, _, _, _ => none
def fillF (fs : List (Nat × TypeId × Nat)) (cells : List D) : List (Nat × AV) → Option (List D)
  | [] => some cells
  | (i, x) :: rest => match fs[i]?, x.toD with
    | some (off, _, n), some d => if d.cells.length = n ∧ off + n ≤ cells.length then fillF fs (cells.take off ++ d.cells ++ cells.drop (off + n)) rest else none
    | _, _ => none
def fillV (fs : List (Nat × TypeId × Nat)) (cells : List AV) : List (Nat × AV) → Option (List AV)
  | [] => some cells
  | (i, x) :: rest => match fs[i]? with
    | some (off, _, n) => if x.cells.length = n ∧ off + n ≤ cells.length ∧ x.cells.all AV.one = true then fillV fs (cells.take off ++ x.cells ++ cells.drop (off + n)) rest else none
    | none => none
def arrFs (n : Nat) (e : TypeId) (k : Nat) : List (Nat × TypeId × Nat) := (List.range n).map fun i => (i * k, e, k)
def buildF (T : Tbl) (t : TypeId) (parts : List (Nat × AV)) : Option AV :=
  match T.get t with
  | some ⟨.struct fs, _, _, z⟩ => (match toDs z with
    | some zs => (match fillF fs zs parts with | some cs => some (.d (.agg cs)) | none => none)
    | none => (match fillV fs z parts with | some cs => some (.agv cs) | none => none))
  | some ⟨.arr n e, _, _, z⟩ => (match T.get e, toDs z with
    | some i, some zs => (match fillF (arrFs n e i.size) zs parts with | some cs => some (.d (.agg cs)) | none => none)
    | _, _ => none)
  | _ => none
def partsX (n : Nat) : Nat → List (Nat × AV) → Option (List D)
  | _, [] => some []
  | i, (j, x) :: rest => if i = j then (match x.toD, partsX n (i + 1) rest with | some d, some ds => if d.cells.length = n then some (d :: ds) else none | _, _ => none) else none
def landV (dd : Bool) (nid : Nat) (e : TypeId) (sz : Nat) (els : List D) : OpR :=
  if dd then .val (.d (.sl els)) [(nid, .vec 0 true true e sz els)] else .val (.vs nid 0 sz 0 els.length) [(nid, .vec 0 true false e sz els)]
def buildSliceF (T : Tbl) (dd : Bool) (t : TypeId) (len : Nat) (parts : List (Nat × AV)) (nid : Nat) : OpR :=
  match T.get t with
  | some ⟨.slice e, _, _, _⟩ => (match T.get e with
    | some i => (match partsX i.size 0 parts with
      | some els => if parts.length = len ∧ len * i.size ≤ 16777216 ∧ 0 < i.size then landV dd nid e i.size els else .bad
      | none => .bad)
    | none => .bad)
  | _ => .bad
def roomB (n bytes : Nat) : Bool := decide (n * bytes ≤ 140737488355328) && decide (n ≤ 9223372036854775807)
def appVec (i : TyI) (e : TypeId) (ys : List D) (o g sz lo hi : Nat) : AObj → OpR
  | .vec g' _ fz e' sz' els => if g' = g ∧ e' = e ∧ sz' = sz ∧ lo = 0 ∧ (hi = els.length ∨ fz = false) ∧ roomB (hi + ys.length) i.bytes = true then
      .val (.vs o (g' + 1) sz' 0 (hi + ys.length)) [(o, .vec (g' + 1) true fz e' sz' (els.take hi ++ ys))] else .bad
  | _ => .bad
def appendF (T : Tbl) (dd : Bool) (t : TypeId) (x y : AV) (ob : Nat → AObj) (nid : Nat) : OpR :=
  match T.get t with
  | some ⟨.slice e, _, _, _⟩ => (match T.get e, elsR ob y with
    | some i, some ys => if szAll i.size ys = true ∧ 0 < i.size then (match x with
      | .d .nils => if roomB ys.length i.bytes = true then landV dd nid e i.size ys else .bad
      | .vs o g sz lo hi => appVec i e ys o g sz lo hi (ob o)
      | .fs els => if szAll i.size els = true then (if ys.length = 0 then .val (.fs els) [(nid, .dead)] else if roomB (els.length + ys.length) i.bytes = true then landV dd nid e i.size (els ++ ys) else .bad) else .bad
      | _ => .bad) else .bad
    | _, _ => .bad)
  | _ => .bad
def appMkF (T : Tbl) (dd : Bool) (t u : TypeId) (x y : AV) (nid : Nat) : OpR :=
  match T.get t, T.get u, x, y with
  | some ⟨.slice e, _, _, _⟩, some ⟨.int _, _, _, _⟩, .d .nils, .d (.int _ n) => (match T.get e with
    | some i => if 0 < n ∧ n ≤ 1099511627776 ∧ n.toNat * i.bytes ≤ 140737488355328 ∧ 0 < i.size then
        (match i.zeroD with
          | some z => landV dd nid e i.size (List.replicate n.toNat z)
          | none => .bad) else .bad
    | none => .bad)
  | _, _, _, _ => .bad
def capF (T : Tbl) (t : TypeId) (x : AV) : Option AV :=
  match T.get t, x with
  | some ⟨.slice _, _, _, _⟩, .d .nils => some (.d (.int .i64 0))
  | _, _ => none
def mmFrom (f : Int → Int → Int) (k : IntKind) (a : Int) : List AV → Option AV
  | [] => some (.d (.int k a))
  | .d (.int _ b) :: rest => mmFrom f k (f a b) rest
  | _ => none
def mmF (f : Int → Int → Int) : List AV → Option AV
  | .d (.int k a) :: rest => mmFrom f k a rest
  | _ => none
def max2' (a b : Int) : Int := if b > a then b else a
def min2' (a b : Int) : Int := if b < a then b else a
def clearVec (i : TyI) (o g sz lo hi : Nat) : AObj → OpR
  | .vec g' mv fz e sz' els => if g' = g ∧ fz = false ∧ sz' = sz ∧ i.size = sz ∧ lo ≤ hi ∧ hi ≤ els.length then (match i.zeroD with
      | some z => if z.cells.length = sz then .val .junk [(o, .vec g' mv false e sz' (els.take lo ++ List.replicate (hi - lo) z ++ els.drop hi))] else .bad
      | none => .bad) else .bad
  | _ => .bad
def clearF (T : Tbl) (t : TypeId) (x : AV) (ob : Nat → AObj) : OpR :=
  match T.get t with
  | some ⟨.slice e, _, _, _⟩ => (match T.get e with
    | some i => (match x with
      | .vs o g sz lo hi => clearVec i o g sz lo hi (ob o)
      | _ => .bad)
    | none => .bad)
  | _ => .bad
def convF (i : Option TyI) (x : AV) : Option AV := match i, x with
  | some ⟨.int k, _, _, _⟩, .d (.int _ n) => some (.d (.int k (k.wrap n)))
  | some ⟨.str, _, _, _⟩, .d (.str b) => some (.d (.str b))
  | _, _ => none
def unF (op : UnOp) (x : AV) : Option AV := match op, x with
  | .neg, .d (.int k n) => some (.d (.int k (k.wrap (0 - n))))
  | .not, .d (.bool b) => some (.d (.bool (!b)))
  | _, _ => none
def pickF (b x y : AV) : Option AV := match b with
  | .d (.bool b) => some (bif b then x else y)
  | _ => none
def nilChkF : AV → Option AV
  | .ptr o k => some (.ptr o k)
  | .ep cs => some (.ep cs)
  | .fn g a b => some (.fn g a b)
  | .pv o g j sz sub => some (.pv o g j sz sub)
  | _ => none
def extF (x : AV) (i : Nat) : Option AV := match x with
  | .tup l => l[i]?
  | _ => none
def ptrsOf (l : List (Nat × Nat)) : List AV := l.map fun c => .ptr c.1 c.2
def callF (f : AV) (xs : List AV) : OpR := match f with
  | .fn g a b => if g = 1000000007 then .bad else .call g (ptrsOf a ++ xs ++ ptrsOf b)
  | .yl o => .call 1000000007 (.yl o :: xs)
  | _ => .bad
def makeSliceF (T : Tbl) (dd : Bool) (t : TypeId) (l c : AV) (nid : Nat) : OpR :=
  match T.get t with
  | some ⟨.slice e, _, _, _⟩ => (match T.get e, l, c with
    | some i, .d (.int _ n), .d (.int _ m) => if 0 ≤ n ∧ n ≤ m ∧ m ≤ 1099511627776 ∧ m.toNat * i.bytes ≤ 140737488355328 ∧ 0 < i.size ∧ (n = 0 ∨ n = m) then
        (match i.zeroD with
          | some z => landV dd nid e i.size (List.replicate n.toNat z)
          | none => .bad) else .bad
    | _, _, _ => .bad)
  | _ => .bad
def sameKs : List D → List D → Bool
  | [], [] => true
  | .int k _ :: xs, .int k' _ :: ys => decide (k = k') && sameKs xs ys
  | .bool _ :: xs, .bool _ :: ys => sameKs xs ys
  | .str _ :: xs, .str _ :: ys => sameKs xs ys
  | _, _ => false
def sameD : D → D → Option Bool
  | .int k a, .int k' b => if k = k' then some (a == b) else none
  | .str a, .str b => some (a == b)
  | .agg xs, .agg ys => if sameKs xs ys = true then eqCells xs ys else none
  | _, _ => none
def findD (k : D) : List (D × D) → Nat → Option (Option (Nat × D))
  | [], _ => some none
  | (q, v) :: r, i => match sameD k q with
    | some true => some (some (i, v))
    | some false => findD k r (i + 1)
    | none => none
def kindIs : Option TyI → EK → Bool
  | some ⟨.int q, _, _, _⟩, .int q' => decide (q = q')
  | some ⟨.bool, _, _, _⟩, .bool => true
  | some ⟨.str, _, _, _⟩, .str => true
  | _, _ => false
def plainFs (T : Tbl) : List (Nat × TypeId × Nat) → List EK → Nat → Bool
  | [], [], _ => true
  | (o, ft, n) :: fs, k :: ks, i => o == i && n == 1 && kindIs (T.get ft) k && plainFs T fs ks (i + 1)
  | _, _, _ => false
def keyOk (T : Tbl) (i : Option TyI) (ks : Option (List EK)) (k : D) : Bool := match i, k with
  | some ⟨.int q, _, _, _⟩, .int q' _ => decide (q = q')
  | some ⟨.str, _, _, _⟩, .str _ => true
  | some ⟨.struct fs, _, _, _⟩, .agg cs => (match ks with | some ks => EK.hasAll ks cs && plainFs T fs ks 0 | none => false)
  | _, _ => false
def mapOb : AObj → Option (List (D × D))
  | .map es => some es
  | .mapd es _ _ => some es
  | _ => none
def mapEs (ob : Nat → AObj) : AV → Option (List (D × D))
  | .nilm => some []
  | .mp o => mapOb (ob o)
  | _ => none
def okV (ok : Bool) (v : D) (is : Bool) : AV := if ok then .tup [.d v, .d (.bool is)] else .d v
def lookF (ok : Bool) (z : Option D) (r : Option (Option (Nat × D))) : Option AV :=
  match r with
  | some (some (_, v)) => some (okV ok v true)
  | some none => (match z with | some z => some (okV ok z false) | none => none)
  | none => none
def lookupF (T : Tbl) (Q : TypeId → Option (List EK)) (t : TypeId) (x k : AV) (ok : Bool) (ob : Nat → AObj) : Option AV :=
  match T.get t with
  | some ⟨.map kt et, _, _, _⟩ => (match mapEs ob x, k.toD, T.get et with
    | some es, some kd, some i => if keyOk T (T.get kt) (Q kt) kd = true then lookF ok i.zeroD (findD kd es 0) else none
    | _, _, _ => none)
  | _ => none
def putE (kd vd : D) (es : List (D × D)) (r : Option (Option (Nat × D))) : Option (List (D × D)) :=
  match r with
  | some (some (i, _)) => some (es.set i (kd, vd))
  | some none => some (es ++ [(kd, vd)])
  | none => none
def putS (ck : Nat) (bs : List Nat) (r : Option (Option (Nat × D))) : List Nat × Nat := match r with
  | some none => (bs ++ [ck], ck + 1)
  | _ => (bs, ck)
def mapPut (kd vd : D) (o : Nat) : AObj → OpR
  | .map es => (match putE kd vd es (findD kd es 0) with
    | some es' => .val .junk [(o, .map es')]
    | none => .bad)
  | .mapd es bs ck => (match putE kd vd es (findD kd es 0) with
    | some es' => .val .junk [(o, .mapd es' (putS ck bs (findD kd es 0)).1 (putS ck bs (findD kd es 0)).2)]
    | none => .bad)
  | _ => .bad
def mapUpdateF (T : Tbl) (Q : TypeId → Option (List EK)) (t : TypeId) (m k v : AV) (ob : Nat → AObj) : OpR :=
  match T.get t with
  | some ⟨.map kt _, _, _, _⟩ => (match m, k.toD, v.toD with
    | .mp o, some kd, some vd => if keyOk T (T.get kt) (Q kt) kd = true then mapPut kd vd o (ob o) else .bad
    | _, _, _ => .bad)
  | _ => .bad
def mapDel (kd : D) (o : Nat) : AObj → OpR
  | .map es => (match findD kd es 0 with
    | some (some (i, _)) => .val (.tup []) [(o, .mapd (es.eraseIdx i) ((List.range es.length).eraseIdx i) es.length)]
    | some none => .val (.tup []) [(o, .map es)]
    | none => .bad)
  | .mapd es bs ck => (match findD kd es 0 with
    | some (some (i, _)) => .val (.tup []) [(o, .mapd (es.eraseIdx i) (bs.eraseIdx i) ck)]
    | some none => .val (.tup []) [(o, .mapd es bs ck)]
    | none => .bad)
  | _ => .bad
def deleteF (T : Tbl) (Q : TypeId → Option (List EK)) (t : TypeId) (m k : AV) (ob : Nat → AObj) : OpR :=
  match T.get t with
  | some ⟨.map kt _, _, _, _⟩ => (match m, k.toD with
    | .mp o, some kd => if keyOk T (T.get kt) (Q kt) kd = true then mapDel kd o (ob o) else .bad
    | _, _ => .bad)
  | _ => .bad
def stEs : List (D × D) → List Nat → List (Nat × D × D)
  | p :: es, b :: bs => (b, p) :: stEs es bs
  | _, _ => []
def mapAll : AObj → Option (List (Nat × D × D) × Nat)
  | .map es => some (stEs es (List.range es.length), es.length)
  | .mapd es bs ck => some (stEs es bs, ck)
  | _ => none
def rangeM (nid o : Nat) : Option (List (Nat × D × D) × Nat) → OpR
  | some (_, ck) => .val (.it nid) [(nid, .iter (some o) ck [] ck)]
  | none => .bad
def rangeF (T : Tbl) (t : TypeId) (x : AV) (ob : Nat → AObj) (nid : Nat) : OpR :=
  match T.get t with
  | some ⟨.map _ _, _, _, _⟩ => (match x with
    | .mp o => rangeM nid o (mapAll (ob o))
    | .nilm => .val (.it nid) [(nid, .iter none 0 [] 0)]
    | _ => .bad)
  | _ => .bad
def overV : AV := .tup [.d (.bool false)]
def hitV (p : Nat × D × D) : AV := .tup [.d (.bool true), .d p.2.1, .d p.2.2]
def leftE (seen : List Nat) (l : List (Nat × D × D)) : List (Nat × D × D) := l.filter fun p => !seen.contains p.1
def nextOk (since : Nat) (seen : List Nat) (last : Nat) (l : List (Nat × D × D)) : Bool := (l.all fun p => decide (p.1 < since)) && (seen.isEmpty || l.isEmpty || l.any fun p => decide (p.1 < last))
def nextL (o m since : Nat) (seen : List Nat) (ck : Nat) : List (Nat × D × D) → OpR
  | [] => .val overV []
  | l => .alts (l.map fun p => (hitV p, [(o, .iter (some m) since (seen ++ [p.1]) ck)]))
def nextM (o m since : Nat) (seen : List Nat) (last : Nat) : Option (List (Nat × D × D) × Nat) → OpR
  | some (l, ck) => if nextOk since seen last l = true then nextL o m since seen ck (leftE seen l) else .bad
  | none => .bad
def nextO (o : Nat) (ob : Nat → AObj) : AObj → OpR
  | .iter (some m) since seen last => nextM o m since seen last (mapAll (ob m))
  | .iter none _ _ _ => .val overV []
  | _ => .bad
def nextF (x : AV) (isS : Bool) (ob : Nat → AObj) : OpR := match x, isS with
  | .it o, false => nextO o ob (ob o)
  | _, _ => .bad
def entryL (b : Nat) : List (Nat × D × D) → Option AV
  | [] => none
  | (b', k, v) :: l => if b' = b then some (.tup [.d k, .d v]) else entryL b l
def entryM (seen : List Nat) (last : Nat) : Option (List (Nat × D × D) × Nat) → Option AV
  | some (l, ck) => (match seen.getLast? with | some b => if ck = last then entryL b l else none | none => none)
  | none => none
def entryO (ob : Nat → AObj) : AObj → Option AV
  | .iter (some m) _ seen last => entryM seen last (mapAll (ob m))
  | _ => none
def entryF (x : AV) (ob : Nat → AObj) : Option AV := match x with
  | .it o => entryO ob (ob o)
  | _ => none
def itOids (ob : Nat → AObj) : AV → List Nat
  | .it o => o :: (ob o).oids
  | _ => []
def builtinF (T : Tbl) (Q : TypeId → Option (List EK)) (dd : Bool) (b : Builtin) (ts : List TypeId) (xs : List AV) (ob : Nat → AObj) (nid : Nat) : OpR :=
  match b, ts, xs with
  | .len, [t], [x] => .of (lenF T t x ob)
  | .append, [t, u], [x, y] => if t = u then appendF T dd t x y ob nid else appMkF T dd t u x y nid
  | .cap, [t], [x] => .of (capF T t x)
  | .max, _, xs => .of (mmF max2' xs)
  | .min, _, xs => .of (mmF min2' xs)
  | .clear, [t], [x] => clearF T t x ob
  | .delete, t :: _, [x, k] => deleteF T Q t x k ob
  | _, _, _ => .bad
def capsOf : List AV → Option (List (Nat × Nat))
  | [] => some []
  | .ptr o k :: r => (match capsOf r with | some l => some ((o, k) :: l) | none => none)
  | _ :: _ => none
structure Ann where
  lays : Nat
  dd : Bool
  ro : Bool
def ann0 : Ann := ⟨0, false, false⟩
def allocF (T : Tbl) (t : TypeId) (nid : Nat) : OpR := match T.get t with | some i => .val (.ptr nid 0) [(nid, .box i.zero)] | none => .bad
def boxF (T : Tbl) (t : TypeId) (x : AV) (nid : Nat) : OpR := match T.get t with | some i => if x.cells.length = i.size ∧ x.cells.all AV.one = true then .val (.ptr nid 0) [(nid, .box x.cells)] else .bad | none => .bad
def bytesL : List D → Option (List UInt8)
  | [] => some []
  | .int .u8 n :: r => (match bytesL r with | some l => some (UInt8.ofNat n.toNat :: l) | none => none)
  | _ => none
def bytesF : AV → Option AV
  | .d (.sl els) => (match bytesL els with | some l => some (.d (.str ⟨l.toArray⟩)) | none => none)
  | _ => none
def byteTy : Option TyI → Bool
  | some ⟨.int .u8, _, _, _⟩ => true
  | _ => false
def strTy : Option TyI → Bool
  | some ⟨.str, _, _, _⟩ => true
  | _ => false
def convertF (T : Tbl) (s t : TypeId) (x : AV) : OpR := match T.get s with
  | some ⟨.slice e, _, _, _⟩ => if byteTy (T.get e) = true ∧ strTy (T.get t) = true then .of (bytesF x) else .bad
  | some _ => .of (convF (T.get t) x)
  | none => .bad
def makeFuncF (g : FuncId) (first caps : List AV) : OpR := match capsOf first, capsOf caps with | some a, some b => .val (.fn g a b) [] | _, _ => .bad
def mapNew (dd : Bool) : AObj := if dd = true then .mapd [] [] 0 else .map []
def makeMapF (T : Tbl) (dd : Bool) (t : TypeId) (nid : Nat) : OpR := match T.get t with | some ⟨.map _ _, _, _, _⟩ => .val (.mp nid) [(nid, mapNew dd)] | _ => .bad
def makeMapH (T : Tbl) (dd : Bool) (t : TypeId) (h : AV) (nid : Nat) : OpR := match h with | .d (.int _ _) => makeMapF T dd t nid | _ => .bad
def opF (T : Tbl) (Q : TypeId → Option (List EK)) (an : Ann) (o : Op) (ev : Operand → AV) (ob : Nat → AObj) (nid : Nat) : OpR :=
  match o with
  | .move x => .val (ev x) []
  | .assign x => .val (ev x) []
  | .pick b x y => .of (pickF (ev b) (ev x) (ev y))
  | .alloc t => allocF T t nid
  | .box t x => boxF T t (ev x) nid
  | .build t ps => .of (buildF T t (ps.toList.map fun p => (p.1, ev p.2)))
  | .buildSlice t n ps => buildSliceF T an.dd t n (ps.toList.map fun p => (p.1, ev p.2)) nid
  | .load t a => .of (loadF T t (ev a) ob)
  | .store t a x => storeF T t (ev a) (ev x) ob
  | .nilCheck x => .of (nilChkF (ev x))
  | .binOp op t x y _ => .of (binF T Q op t (ev x) (ev y))
  | .unOp op _ x => .of (unF op (ev x))
  | .convert s t x => convertF T s t (ev x)
  | .makeFunc (.func g) first caps => makeFuncF g (first.toList.map ev) (caps.toList.map ev)
  | .slice t x lo hi none => .of (sliceX an.dd T t (ev x) (lo.map ev) (hi.map ev))
  | .slice t x lo hi (some mx) => .of (slice3F T t (ev x) (lo.map ev) (hi.map ev) (ev mx))
  | .fieldAddr t x f => .of (fieldAddrF T t (ev x) f)
  | .field t x f => .of (fieldF T t (ev x) f)
  | .indexAddr t x i => .of (indexAddrF T t (ev x) (ev i))
  | .index t x i => .of (indexF T t (ev x) (ev i))
  | .extract x i => .of (extF (ev x) i)
  | .call ⟨.builtin b, as, ts⟩ => builtinF T Q an.dd b ts.toList (as.toList.map ev) ob nid
  | .call ⟨.value f, as, _⟩ => callF (ev f) (as.toList.map ev)
  | .makeMap t none => makeMapF T an.dd t nid
  | .makeMap t (some h) => makeMapH T an.dd t (ev h) nid
  | .makeSlice t l m => makeSliceF T an.dd t (ev l) (ev m) nid
  | .lookup t x k ok => .of (lookupF T Q t (ev x) (ev k) ok ob)
  | .mapUpdate t m k v => mapUpdateF T Q t (ev m) (ev k) (ev v) ob
  | .range t x => rangeF T t (ev x) ob nid
  | .next x isS => nextF (ev x) isS ob
  | .entry x => .of (entryF (ev x) ob)
  | _ => .bad
def fuelL : List Unit := List.replicate 24 ()
def reach (ob : Nat → AObj) : List Unit → List Nat → List Nat → List Nat
  | [], _, acc => acc
  | _ :: _, [], acc => acc
  | _ :: f, o :: r, acc => if acc.contains o then reach ob f r acc else reach ob f ((ob o).oids ++ r) (acc ++ [o])
def reachOf (ob : Nat → AObj) (xs : List AV) : List Nat := reach ob fuelL (xs.flatMap AV.oids) []
def AObj.live : AObj → Bool
  | .dead | .iter _ _ _ _ => false
  | _ => true
def closedB (ob : Nat → AObj) (L : List Nat) (xs : List AV) : Bool :=
  (L.all fun o => (ob o).live && (ob o).oids.all L.contains) && xs.all fun x => x.oids.all L.contains
def nodupB : List Nat → Bool
  | [] => true
  | x :: r => !r.contains x && nodupB r
def packO (f : Nat → Nat) (ob : Nat → AObj) (keep : Bool) : AObj → AObj
  | .box cs => .box (cs.map (AV.ren0 f ob fun _ => 0))
  | .vec _ mv fz e sz els => .vec 0 (keep && mv) fz e sz els
  | .iter m since seen last => .iter (m.map f) since seen last
  | .loop k busy ks vs => .loop k busy ks (vs.map (AV.ren0 f ob fun _ => 0))
  | x => x
def packL (L : List Nat) (ob : Nat → AObj) (keep : Bool) : List AObj := L.map fun o => packO (fun q => L.idxOf q) ob keep (ob o)
def packX (L : List Nat) (ob : Nat → AObj) (xs : List AV) : List AV := xs.map (AV.ren (fun q => L.idxOf q) ob fun _ => 0)
def backN (L : List Nat) (nid : Nat) (i : Nat) : Nat := if i < L.length then L.getD i 0 else nid + (i - L.length)
def backG (ob : Nat → AObj) (obs' : Nat → AObj) (L : List Nat) (i : Nat) : Nat :=
  if i < L.length then (match obs' i, ob (L.getD i 0) with
    | .vec _ mv _ _ _ _, .vec g _ _ _ _ _ => if mv then g + 1 else g
    | _, _ => 0) else 0
def backO (f : Nat → Nat) (ob' : Nat → AObj) (gn : Nat → Nat) (g : Nat) (old : AObj) : AObj → AObj
  | .box cs => .box (cs.map (AV.ren0 f ob' gn))
  | .vec _ mv fz e sz els => .vec g (match old with | .vec _ mv0 _ _ _ _ => mv0 || mv | _ => true) fz e sz els
  | .iter m since seen last => .iter (m.map f) since seen last
  | .loop k busy ks vs => .loop k busy ks (vs.map (AV.ren0 f ob' gn))
  | x => x
def obL (l : List AObj) (i : Nat) : AObj := l.getD i .dead
def backE (ob : Nat → AObj) (L : List Nat) (nid : Nat) (obs' : List AObj) : List (Nat × AObj) :=
  (List.range obs'.length).map fun i => (backN L nid i, backO (backN L nid) (obL obs') (backG ob (obL obs') L) (backG ob (obL obs') L i) (if i < L.length then ob (L.getD i 0) else .dead) (obL obs' i))
def frzX (e : List (Nat × AObj)) : AV → Option AV
  | .vs o g _ lo hi => (match e.lookup o with | some x => (vecEls g lo hi x).map fun els => .d (.sl els) | none => none)
  | .tup l => none
  | .agv l => none
  | x => some x
def frzO (vs : List Nat) (p : Nat × AObj) : Nat × AObj := match p.2 with
  | .vec g mv fz e sz els => (p.1, .vec g mv (fz || vs.contains p.1) e sz els)
  | x => (p.1, x)
def AV.vids : AV → List Nat
  | .vs o _ _ _ _ => [o]
  | _ => []
def frzL (e : List (Nat × AObj)) : List AV → Option (List AV)
  | [] => some []
  | x :: r => match frzX e x, frzL e r with | some y, some ys => some (y :: ys) | _, _ => none
def landC (dd : Bool) (v : AV) (e : List (Nat × AObj)) : Option (AV × List (Nat × AObj)) :=
  if dd then (match v with
    | .tup l => (match frzL e l with | some l' => some (.tup l', e.map (frzO (l.flatMap AV.vids))) | none => none)
    | v => (match frzX e v with | some v' => some (v', e.map (frzO v.vids)) | none => none)) else some (v, e)
def sameObs (ob : Nat → AObj) (e : List (Nat × AObj)) : Bool := e.all fun p => decide (p.2 = ob p.1)
def landR (an : Ann) (ob : Nat → AObj) (v : AV) (E : List (Nat × AObj)) : Option (AV × List (Nat × AObj)) :=
  match landC an.dd v E with
  | some (v, e) => if an.ro = true then (if an.lays = 0 ∧ sameObs ob e = true then some (v, []) else none) else some (v, e)
  | none => none
def touchF (o : Op) (ev : Operand → AV) (ob : Nat → AObj) : List Nat :=
  match o with
  | .load _ a | .store _ a _ | .lookup _ a _ _ | .mapUpdate _ a _ _ | .range _ a => (ev a).oids
  | .next a _ | .entry a => itOids ob (ev a)
  | .call ⟨.value f, as, _⟩ => (match callF (ev f) (as.toList.map ev) with | .call _ xs => reachOf ob xs | _ => [])
  | .call ⟨.builtin _, as, _⟩ => as.toList.flatMap fun x => (ev x).oids
  | _ => []
def bitsW (B : List Nat) (j i : Nat) : Bool := (B.getD j 0).testBit i
def edgeBits (B : List Nat) : List Edge → Nat
  | [] => 0
  | e :: es => if Region.binds .any e then (1 <<< e.on) ||| B.getD e.on 0 ||| edgeBits B es else edgeBits B es
def drawChk (ops : Array Oper) (B : List Nat) : Bool :=
  (List.range ops.size).all fun j => match ops[j]? with
    | none => true
    | some y => y.after.toList.all (fun e => !Region.binds .any e || decide (e.on < j)) && (B.getD j 0 == edgeBits B y.after.toList) &&
        (List.range j).all fun i => bitsW B j i || (match ops[i]? with | some x => x.apart ops y | none => true)
structure SOp where
  dst : Option Nat
  op : Op
  gd : Option (Nat × Bool)
  an : Ann
inductive Gh where
  | frz (t : Nat)
  | mkv (t : Nat) (e : TypeId) (sz : Nat)
  | frb (t off : Nat)
  | mkb (t off : Nat) (e : TypeId) (sz : Nat)
  | tidy (keep : List Nat) (z m : Nat)
  | can (keep : List Nat) (z m : Nat)
inductive SC where
  | skip
  | reg (ops : List SOp) (B : Option (List Nat))
  | seq (a b : SC)
  | cond (c : Operand) (a b : SC)
  | block (id : Nat) (b : SC)
  | loop (b : SC)
  | exit (id : Nat)
  | ret
  | bad
  | pre (g : Gh) (c : SC)
  | post (c : SC) (g : Gh)
  | rng (g : Operand) (k : Nat) (ks : List Nat) (an : Ann)
  | rngE (g : Operand) (nt : Nat) (ps : List Nat) (sa sb : SC)
def SOp.strip (o : SOp) : SOp := ⟨o.dst, o.op, o.gd, ann0⟩
def slimOp (ops : Array Oper) (o : Oper) : Option SOp :=
  match o.guard with
  | none => some ⟨o.dst, o.op, none, ann0⟩
  | some (g, w) => match (ops[g]?).bind (·.dst) with
    | some d => some ⟨o.dst, o.op, some (d, w), ann0⟩
    | none => none
def slimOps (ops : Array Oper) : List Oper → Option (List SOp)
  | [] => some []
  | o :: r => match slimOp ops o, slimOps ops r with
    | some x, some xs => some (x :: xs)
    | _, _ => none
def bitsOf : List Oper → List Nat → List Nat
  | [], B => B
  | o :: r, B => bitsOf r (B ++ [edgeBits B o.after.toList])
def dstChk (nt : Nat) (ops : Array Oper) : Bool := ops.toList.all fun o => match o.dst with | some d => decide (d < nt) | none => true
def slim (nt : Nat) : Code → SC
  | .skip => .skip
  | .region _ ops draw => match slimOps ops ops.toList with
    | none => .bad
    | some l => if dstChk nt ops then (if draw then (let B := bitsOf ops.toList []; if drawChk ops B then .reg l (some B) else .bad) else .reg l none) else .bad
  | .seq a b => .seq (slim nt a) (slim nt b)
  | .cond c a b => .cond c (slim nt a) (slim nt b)
  | .block id b => .block id (slim nt b)
  | .loop b => .loop (slim nt b)
  | .exit id => .exit id
  | .ret => .ret
  | .rangeFunc g ps a b => if ps.toList.all (fun p => decide (p < nt)) && nodupB ps.toList then .rngE g nt ps.toList (slim nt a) (slim nt b) else .bad
  | _ => .bad
def rngs : Code → List (Array Tmp × Code × Code)
  | .seq a b => rngs a ++ rngs b
  | .cond _ a b => rngs a ++ rngs b
  | .block _ b => rngs b
  | .loop b => rngs b
  | .rangeFunc _ ps a b => [(ps, a, b)]
  | _ => []
structure SLoop where
  nt : Nat
  ps : List Nat
  sa : SC
  sb : SC
def loopS (P : Program) (k : Nat) : Option SLoop :=
  match P.funcs[k / 64]? with
  | some fn => (match fn.body with
    | some c => (match (rngs c)[k % 64]? with
      | some (ps, a, b) => some ⟨fn.ntmps, ps.toList, slim fn.ntmps a, slim fn.ntmps b⟩
      | none => none)
    | none => none)
  | none => none
def SC.erase (P : Program) : SC → SC
  | .reg ops B => .reg (ops.map SOp.strip) B
  | .seq a b => .seq (a.erase P) (b.erase P)
  | .cond c a b => .cond c (a.erase P) (b.erase P)
  | .block id b => .block id (b.erase P)
  | .loop b => .loop (b.erase P)
  | .pre _ c => c.erase P
  | .post c _ => c.erase P
  | .rng g k _ _ => (match loopS P k with | some l => .rngE g l.nt l.ps l.sa l.sb | none => .pre (.frz 0) .bad)
  | c => c
def SLoop.erase (P : Program) (l : SLoop) : SLoop := ⟨l.nt, l.ps, l.sa.erase P, l.sb.erase P⟩
structure SFn where
  np : Nat
  nt : Nat
  res : List ResultVar
  body : SC
def slimFn (fn : Func) : Option SFn := match fn.body with
  | some c => if decide (fn.params.size + fn.nfree ≤ fn.ntmps) && fn.name != "runtime.NumGoroutine" then some ⟨fn.params.size + fn.nfree, fn.ntmps, fn.results.toList, slim fn.ntmps c⟩ else none
  | none => none
def SFn.erase (P : Program) (s : SFn) : SFn := ⟨s.np, s.nt, s.res, s.body.erase P⟩
end Go.Proofs.YtpooehcjchkbkaaV
/- What a state of the walk says of the machine's frame and world. -/
set_option linter.unusedVariables false
set_option linter.unusedSimpArgs false
namespace Go.Proofs.YtpooehcjchkbkaaV
open Go.RowKit
def upd {α : Type} (f : Nat → α) (i : Nat) (x : α) : Nat → α := fun j => if j = i then x else f j
theorem upd_same {α : Type} (f : Nat → α) (i : Nat) (x : α) : upd f i x i = x := by simp [upd]
theorem upd_ne {α : Type} (f : Nat → α) {i j : Nat} (x : α) (h : j ≠ i) : upd f i x j = f j := by simp [upd, h]
theorem upd_comm {α : Type} (f : Nat → α) {i j : Nat} (x y : α) (h : i ≠ j) : upd (upd f i x) j y = upd (upd f j y) i x := by
  funext k; simp only [upd]; by_cases h1 : k = j <;> by_cases h2 : k = i <;> simp_all
def upds (f : Nat → AObj) : List (Nat × AObj) → Nat → AObj
  | [] => f
  | (i, x) :: r => upds (upd f i x) r
structure SS where
  t : Nat → AV
  ob : Nat → AObj
  n : Nat
def SS.put (s : SS) (dst : Option Nat) (v : AV) (eff : List (Nat × AObj)) : SS :=
  { t := match dst with | some d => upd s.t d v | none => s.t, ob := upds s.ob eff, n := s.n }
def blkOf (μ : Nat → Nat) (ν : Nat → Value) (o : Nat) : AObj → Option Nat
  | .dead => none
  | .vec .. => (ν o).ownBlock
  | _ => some (μ o)
def MapR (w : World) (I : Nat → Nat → Prop) (N : Nat → Prop) (b : Nat) (es : List (D × D)) (bs : List Nat) (ck : Nat) : Prop :=
  ∃ (ents : Array MapEntry), w.heap[b]? = some (.map ents ck) ∧ ents.size = es.length ∧ N b ∧
    (∀ (i : Nat) (k v : D) (e : MapEntry), es[i]? = some (k, v) → ents[i]? = some e → VRd w I k e.key ∧ VRd w I v e.val) ∧ ents.toList.map MapEntry.born = bs
structure VecR (P : Program) (N : Nat → Prop) (w : World) (I : Nat → Nat → Prop) (v : Value) (fz : Bool) (e : TypeId) (sz : Nat) (els : List D) (xs : List Value) : Prop where
  info : ∃ f, P.info? e = some f ∧ f.size = sz
  pos : 0 < sz
  own : w.ownsRow 0 e sz v els.length xs
  size : ∀ el ∈ els, el.cells.length = sz
  rd : ∀ (j : Nat) (d : D) (u : Value), (D.flat els)[j]? = some d → xs[j]? = some u → VRd w I d u
  one : ∀ u ∈ xs, u.oneCell' = true
  new : ∀ b, v.ownBlock = some b → N b
  spare : ∀ b, v.ownBlock = some b → ∀ off, els.length * sz ≤ off → ¬ I b off
  free : fz = false → ∀ b, v.ownBlock = some b → ∀ off, ¬ I b off
  froz : fz = true → ∀ b, v.ownBlock = some b → ∀ off, off < els.length * sz → I b off
def LoopR (P : Program) (N : Nat → Prop) (w : World) (I : Nat → Nat → Prop) (μ : Nat → Nat) (ν : Nat → Value) (ob : Nat → AObj) (b k busy : Nat) (ks : List Nat) (vs : List AV) : Prop :=
  ∃ (r : Loop), w.heap[b]? = some (.loop r) ∧ loopS P k = some ⟨r.tmps.size, r.params.toList, slim r.tmps.size r.assign, slim r.tmps.size r.body⟩ ∧ r.state = (if busy = 0 then .ready else if busy = 1 then .busy else .exhausted) ∧ r.pending = none ∧
    ks.length = vs.length ∧ (∀ (j i : Nat) (c : AV), ks[j]? = some i → vs[j]? = some c → VR w I μ ν ob c (r.tmps.getD i undef)) ∧ (∀ c ∈ vs, c.sc0 ob) ∧ N b
def ObR (P : Program) (N : Nat → Prop) (w : World) (I : Nat → Nat → Prop) (μ : Nat → Nat) (ν : Nat → Value) (ob : Nat → AObj) (o : Nat) : AObj → Prop
  | .dead => True
  | .box cs => ∃ (vs : List Value) (t : TypeId), w.heap[μ o]? = some (.cells vs.toArray t (0, 0)) ∧ cs.length = vs.length ∧
      (∀ (i : Nat) (c : AV) (v : Value), cs[i]? = some c → vs[i]? = some v → VR w I μ ν ob c v) ∧ (∀ c ∈ cs, c.sc0 ob) ∧ (∀ v ∈ vs, v.oneCell' = true) ∧ (∀ off, ¬ I (μ o) off) ∧ N (μ o)
  | .vec _ _ fz e sz els => ∃ xs, VecR P N w I (ν o) fz e sz els xs
  | .map es => MapR w I N (μ o) es (List.range es.length) es.length
  | .mapd es bs ck => MapR w I N (μ o) es bs ck
  | .iter m since seen last => w.heap[μ o]? = some (.mapIter (m.map μ) since seen.toArray last) ∧ (∀ q, m = some q → ob q ≠ .dead) ∧ N (μ o)
  | .loop k busy ks vs => LoopR P N w I μ ν ob (μ o) k busy ks vs
structure Keep (N : Nat → Prop) (w w' : World) : Prop where
  os : w'.os = w.os
  tape : w'.tape = w.tape
  output : w'.output = w.output
  size : w.heap.size ≤ w'.heap.size
  block : ∀ k, k < w.heap.size → ¬ N k → w'.heap[k]? = w.heap[k]?
theorem Keep.refl (N : Nat → Prop) (w : World) : Keep N w w := ⟨rfl, rfl, rfl, Nat.le_refl _, fun _ _ _ => rfl⟩
theorem Keep.trans {N N' : Nat → Prop} {a b c : World} (h : Keep N a b) (k : Keep N' b c) (hn : ∀ q, q < a.heap.size → ¬ N q → ¬ N' q) : Keep N a c :=
  ⟨k.os.trans h.os, k.tape.trans h.tape, k.output.trans h.output, Nat.le_trans h.size k.size, fun q hq hn' => (k.block q (Nat.lt_of_lt_of_le hq h.size) (hn q hq hn')).trans (h.block q hq hn')⟩
structure GoesZ (ob ob' : Nat → AObj) (μ μ' : Nat → Nat) (ν ν' : Nat → Value) : Prop where
  live : ∀ o, ob o ≠ .dead → ob' o ≠ .dead ∧ μ' o = μ o
  vec : ∀ o g mv fz e sz els, ob o = .vec g mv fz e sz els → ∃ g' mv' fz' els', ob' o = .vec g' mv' fz' e sz els' ∧ (mv' = false → ν' o = ν o ∧ els'.length = els.length)
theorem GoesZ.refl (ob : Nat → AObj) (μ : Nat → Nat) (ν : Nat → Value) : GoesZ ob ob μ μ ν ν := ⟨fun _ h => ⟨h, rfl⟩, fun _ g mv fz e sz els h => ⟨g, mv, fz, els, h, fun _ => ⟨rfl, rfl⟩⟩⟩
theorem GoesZ.goes {ob ob1 ob2 : Nat → AObj} {μ μ1 μ2 : Nat → Nat} {ν ν1 ν2 : Nat → Value} (h : GoesZ ob ob1 μ μ1 ν ν1) (k : Goes ob1 ob2 μ1 μ2 ν1 ν2) : GoesZ ob ob2 μ μ2 ν ν2 := by
  refine ⟨fun o ho => ?_, fun o g mv fz e sz els ho => ?_⟩
  · obtain ⟨h1, h2⟩ := h.live o ho
    obtain ⟨k1, k2⟩ := k.live o h1
    exact ⟨k1, k2.trans h2⟩
  · obtain ⟨g1, mv1, fz1, els1, h1, h2⟩ := h.vec o g mv fz e sz els ho
    obtain ⟨g2, mv2, fz2, els2, k1, _, k3, k4⟩ := k.vec o g1 mv1 fz1 e sz els1 h1
    refine ⟨g2, mv2, fz2, els2, k1, fun q => ?_⟩
    have e1 : mv1 = false := by
      cases hm : mv1 with
      | false => rfl
      | true => rw [k3 hm] at q; exact q
    obtain ⟨a1, a2⟩ := k4 (.inr q)
    obtain ⟨b1, b2⟩ := h2 e1
    exact ⟨a1.trans b1, a2.trans b2⟩
structure Zst where
  w : World
  I : Nat → Nat → Prop
  N : Nat → Prop
  ob : Nat → AObj
  μ : Nat → Nat
  ν : Nat → Value
  ds : List Deferred
def Zst.new (Z : Zst) (b : Nat) : Prop := Z.N b ∨ Z.w.heap.size ≤ b
structure StoR (P : Program) (N : Nat → Prop) (ob : Nat → AObj) (n : Nat) (w : World) (I : Nat → Nat → Prop) (μ : Nat → Nat) (ν : Nat → Value) : Prop where
  os : ∀ o, ObR P N w I μ ν ob o (ob o)
  dd : ∀ o, n ≤ o → ob o = .dead
  sep : ∀ o o' b, o ≠ o' → blkOf μ ν o (ob o) = some b → blkOf μ ν o' (ob o') ≠ some b
  i2 : ∀ b o, I b o → b < w.heap.size
structure Rel (P : Program) (Z : Zst) (nt : Nat) (s : SS) (a : Act) (w : World) (I : Nat → Nat → Prop) (μ : Nat → Nat) (ν : Nat → Value) : Prop extends StoR P Z.new s.ob s.n w I μ ν where
  nd : a.defers = Z.ds
  size : a.tmps.size = nt
  ts : ∀ i, VR w I μ ν s.ob (s.t i) (a.tmps.getD i undef)
  sc : ∀ i, (s.t i).sc s.ob
  bel : Keep Z.N Z.w w
  i0 : ∀ b o, Z.I b o → I b o ∧ w.cell? ⟨b, o, none⟩ = Z.w.cell? ⟨b, o, none⟩
  i00 : ∀ b o, Z.I b o → b < Z.w.heap.size
  i1 : ∀ b o, I b o → Z.I b o ∨ Z.new b
  go : GoesZ Z.ob s.ob Z.μ μ Z.ν ν
def RelE (P : Program) (Z : Zst) (nt : Nat) (s : SS) (a : Act) (w : World) : Prop := ∃ I μ ν, Rel P Z nt s a w I μ ν
theorem VR.const (w : World) (I : Nat → Nat → Prop) (μ : Nat → Nat) (ν : Nat → Value) (ob : Nat → AObj) (v : Value) : VR w I μ ν ob (constAV v) v := by
  unfold constAV
  split
  · exact .d _ _ (.int _ _)
  · exact .d _ _ (.bool _)
  · exact .d _ _ (.str _)
  · exact .d _ _ .nils
  · exact .nilm
  · exact .nilp
  · exact .nilf
  · exact .junk _
theorem constAV_sc (ob : Nat → AObj) (v : Value) : (constAV v).sc ob := by
  unfold constAV
  split <;> trivial
section
variable {P : Program} {Z : Zst} {nt : Nat} {s : SS} {a : Act} {w : World} {I : Nat → Nat → Prop} {μ : Nat → Nat} {ν : Nat → Value}
theorem Rel.ev (h : Rel P Z nt s a w I μ ν) (x : Operand) : VR w I μ ν s.ob (evalAV s.t x) (a.eval x) := by
  cases x with
  | tmp i => exact h.ts i
  | const v => exact VR.const ..
  | global g => exact .junk _
  | func f => exact .fn f [] []
theorem Rel.evsc (h : Rel P Z nt s a w I μ ν) (x : Operand) : (evalAV s.t x).sc s.ob := by
  cases x with
  | tmp i => exact h.sc i
  | const v => exact constAV_sc ..
  | global g => trivial
  | func f => intro c hc; simp at hc
theorem put_getD {a : Act} {d : Nat} {u : Value} {nt : Nat} (hs : a.tmps.size = nt) (hd : d < nt) (i : Nat) : (a.put (some d) u).tmps.getD i undef = if i = d then u else a.tmps.getD i undef := by
  simp only [Act.put, Array.getD_eq_getD_getElem?, Array.getElem?_setIfInBounds]
  by_cases h : d = i
  · subst h; simp [hs, hd]
  · rw [if_neg h, if_neg (fun e => h e.symm)]
theorem Rel.put (h : Rel P Z nt s a w I μ ν) {dst : Option Nat} (hd : ∀ d, dst = some d → d < nt) {v : AV} {u : Value} (hv : VR w I μ ν s.ob v u) (hsc : v.sc s.ob) :
    Rel P Z nt (s.put dst v []) (a.put dst u) w I μ ν := by
  cases dst with
  | none => exact { h with }
  | some d =>
    refine { h with nd := h.nd, size := by simpa [Act.put] using h.size, ts := fun i => ?_, sc := fun i => ?_ }
    · rw [put_getD h.size (hd d rfl)]
      show VR w I μ ν s.ob (upd s.t d v i) _
      by_cases e : i = d
      · subst e; rw [upd_same, if_pos rfl]; exact hv
      · rw [upd_ne _ _ e, if_neg e]; exact h.ts i
    · show (upd s.t d v i).sc s.ob
      by_cases e : i = d
      · subst e; rw [upd_same]; exact hsc
      · rw [upd_ne _ _ e]; exact h.sc i
theorem VecR.grow {w' : World} {N : Nat → Prop} {I' : Nat → Nat → Prop} {v : Value} {fz : Bool} {e : TypeId} {sz : Nat} {els : List D} {xs : List Value} (h : VecR P N w I v fz e sz els xs) (hI : ∀ b o, I b o → I' b o ∧ w'.cell? ⟨b, o, none⟩ = w.cell? ⟨b, o, none⟩)
    (hb : ∀ b, v.ownBlock = some b → w'.heap[b]? = w.heap[b]? ∧ ∀ off, I' b off → I b off) : VecR P N w' I' v fz e sz els xs where
  info := h.info
  pos := h.pos
  own := by
    refine ⟨h.own.1, ?_⟩
    rcases h.own.2 with hnil | ⟨gg, cap, cur, hvv, hN, hh, r⟩
    · exact .inl hnil
    · refine .inr ⟨gg, cap, cur, hvv, hN, ?_, r⟩
      rw [(hb gg (by simp [hvv, Value.ownBlock])).1]; exact hh
  size := h.size
  rd := fun j d u hd hu => (h.rd j d u hd hu).mono hI
  one := h.one
  new := h.new
  spare := fun b hbb off hoff hi => h.spare b hbb off hoff ((hb b hbb).2 off hi)
  free := fun hf b hbb off hi => h.free hf b hbb off ((hb b hbb).2 off hi)
  froz := fun hf b hbb off hoff => (hI b off (h.froz hf b hbb off hoff)).1
theorem MapR.grow {w' : World} {N : Nat → Prop} {I' : Nat → Nat → Prop} {b : Nat} {es : List (D × D)} {bs : List Nat} {ck : Nat} (h : MapR w I N b es bs ck) (hI : ∀ b o, I b o → I' b o ∧ w'.cell? ⟨b, o, none⟩ = w.cell? ⟨b, o, none⟩)
    (hb : w'.heap[b]? = w.heap[b]?) : MapR w' I' N b es bs ck := by
  obtain ⟨ents, h1, h2, h3, h4, h5⟩ := h
  exact ⟨ents, hb.trans h1, h2, h3, fun i k v e hk he => ⟨(h4 i k v e hk he).1.mono hI, (h4 i k v e hk he).2.mono hI⟩, h5⟩
theorem ObR.grow {w' : World} {N : Nat → Prop} {I' : Nat → Nat → Prop} {μ' : Nat → Nat} {ν' : Nat → Value} {ob ob' : Nat → AObj} {o : Nat}
    (hx : ObR P N w I μ ν ob o (ob o)) (hI : ∀ b o, I b o → I' b o ∧ w'.cell? ⟨b, o, none⟩ = w.cell? ⟨b, o, none⟩) (hg : Goes ob ob' μ μ' ν ν') (he : ob' o = ob o)
    (hb : ∀ b, blkOf μ ν o (ob o) = some b → w'.heap[b]? = w.heap[b]? ∧ ∀ off, I' b off → I b off) : ObR P N w' I' μ' ν' ob' o (ob o) := by
  have hμ : ob o ≠ .dead → μ' o = μ o := fun h => (hg.live o h).2
  have hν : ∀ g mv fz e sz els, ob o = .vec g mv fz e sz els → ν' o = ν o := fun g mv fz e sz els h => by
    obtain ⟨g', mv', fz', els', h1, h2, h3, h4⟩ := hg.vec o g mv fz e sz els h
    rw [he, h] at h1
    injection h1 with h1
    exact (h4 (.inl h1.symm)).1
  generalize ob o = x at *
  cases x with
  | dead => trivial
  | box cs =>
    obtain ⟨vs, t, h1, h3, h4, h5, h6, h7, h8⟩ := hx
    obtain ⟨b1, b2⟩ := hb _ rfl
    have e := hμ (by simp)
    refine ⟨vs, t, ?_, h3, fun i c v hc hv => VR.mono0 hI hg (h5 c (List.mem_of_getElem? hc)) (h4 i c v hc hv), fun c hc => (h5 c hc).mono hg, h6, fun off hi => ?_, ?_⟩
    · rw [e, b1]; exact h1
    · rw [e] at hi; exact h7 off (b2 off hi)
    · rw [e]; exact h8
  | vec g mv fz e sz els =>
    obtain ⟨xs, h⟩ := hx
    have hv : ν' o = ν o := hν g mv fz e sz els rfl
    exact ⟨xs, by rw [hv]; exact h.grow hI hb⟩
  | map es =>
    have e := hμ (by simp)
    show MapR w' I' N (μ' o) es _ _
    rw [e]
    exact MapR.grow hx hI (hb _ rfl).1
  | mapd es bs ck =>
    have e := hμ (by simp)
    show MapR w' I' N (μ' o) es bs ck
    rw [e]
    exact MapR.grow hx hI (hb _ rfl).1
  | iter m since seen last =>
    obtain ⟨h1, h2, h3⟩ := hx
    have e := hμ (by simp)
    have hm : m.map μ' = m.map μ := by
      cases m with
      | none => rfl
      | some q => simp only [Option.map_some]; rw [(hg.live q (h2 q rfl)).2]
    exact ⟨by rw [e, (hb _ rfl).1, hm]; exact h1, fun q hq => (hg.live q (h2 q hq)).1, by rw [e]; exact h3⟩
  | loop k busy ks vs =>
    obtain ⟨r, h1, h2, h3, h4, h5, h6, h7, h8⟩ := hx
    have e := hμ (by simp)
    exact ⟨r, by rw [e, (hb _ rfl).1]; exact h1, h2, h3, h4, h5, fun j i c hi hc => VR.mono0 hI hg (h7 c (List.mem_of_getElem? hc)) (h6 j i c hi hc), fun c hc => (h7 c hc).mono hg, by rw [e]; exact h8⟩
theorem Rel.turn (h : Rel P Z nt s a w I μ ν) {w' : World} {I' : Nat → Nat → Prop} {μ' : Nat → Nat} {ν' : Nat → Value} {o : Nat} {x : AObj} (ho : o < s.n)
    (hI : ∀ b o, I b o → I' b o ∧ w'.cell? ⟨b, o, none⟩ = w.cell? ⟨b, o, none⟩) (hg : Goes s.ob (upd s.ob o x) μ μ' ν ν')
    (hoth : ∀ o' b, o' ≠ o → blkOf μ ν o' (s.ob o') = some b → w'.heap[b]? = w.heap[b]? ∧ ∀ off, I' b off → I b off)
    (hν : ∀ o', o' ≠ o → blkOf μ' ν' o' (s.ob o') = blkOf μ ν o' (s.ob o'))
    (hx : ObR P Z.new w' I' μ' ν' (upd s.ob o x) o x)
    (hsep : ∀ o' b, o' ≠ o → blkOf μ ν o' (s.ob o') = some b → blkOf μ' ν' o x ≠ some b)
    (hbel : Keep Z.N Z.w w') (h1 : ∀ b off, I' b off → I b off ∨ Z.new b) (h2 : ∀ b off, I' b off → b < w'.heap.size) :
    Rel P Z nt { s with ob := upd s.ob o x } a w' I' μ' ν' where
  nd := h.nd
  size := h.size
  ts := fun i => (h.ts i).mono hI hg (h.sc i)
  sc := fun i => (h.sc i).mono hg
  os := fun o' => by
    show ObR P Z.new w' I' μ' ν' (upd s.ob o x) o' (upd s.ob o x o')
    by_cases e : o' = o
    · subst e; rw [upd_same]; exact hx
    · rw [upd_ne _ _ e]; exact (h.os o').grow hI hg (upd_ne _ _ e) fun b hb => hoth o' b e hb
  dd := fun o' hn => by
    show upd s.ob o x o' = .dead
    rw [upd_ne _ _ (by rintro rfl; exact absurd ho (Nat.not_lt.2 hn))]
    exact h.dd o' hn
  sep := fun o1 o2 b hne h1 h2 => by
    have h1' : blkOf μ' ν' o1 (upd s.ob o x o1) = some b := h1
    have h2' : blkOf μ' ν' o2 (upd s.ob o x o2) = some b := h2
    by_cases e1 : o1 = o
    · subst e1
      rw [upd_same] at h1'
      rw [upd_ne _ _ (Ne.symm hne), hν o2 (Ne.symm hne)] at h2'
      exact hsep o2 b (Ne.symm hne) h2' h1'
    · rw [upd_ne _ _ e1, hν o1 e1] at h1'
      by_cases e2 : o2 = o
      · subst e2
        rw [upd_same] at h2'
        exact hsep o1 b e1 h1' h2'
      · rw [upd_ne _ _ e2, hν o2 e2] at h2'
        exact h.sep o1 o2 b hne h1' h2'
  bel := hbel
  i0 := fun b off hi => ⟨(hI b off (h.i0 b off hi).1).1, (hI b off (h.i0 b off hi).1).2.trans (h.i0 b off hi).2⟩
  i00 := h.i00
  i1 := fun b off hi => by
    rcases h1 b off hi with hi | hi
    · exact h.i1 b off hi
    · exact .inr hi
  i2 := h2
  go := h.go.goes hg
theorem Rel.on (h : Rel P Z nt s a w I μ ν) {w' : World} {I' : Nat → Nat → Prop}
    (hI : ∀ b o, I b o → I' b o ∧ w'.cell? ⟨b, o, none⟩ = w.cell? ⟨b, o, none⟩)
    (hoth : ∀ o' b, blkOf μ ν o' (s.ob o') = some b → w'.heap[b]? = w.heap[b]? ∧ ∀ off, I' b off → I b off)
    (hbel : Keep Z.N Z.w w') (h1 : ∀ b off, I' b off → I b off ∨ Z.new b) (h2 : ∀ b off, I' b off → b < w'.heap.size) :
    Rel P Z nt s a w' I' μ ν :=
  have hg := Goes.refl s.ob μ ν
  { nd := h.nd, size := h.size, ts := fun i => (h.ts i).mono hI hg (h.sc i), sc := h.sc, os := fun o' => (h.os o').grow hI hg rfl fun b hb => hoth o' b hb, dd := h.dd, sep := h.sep,
    bel := hbel, i0 := fun b off hi => ⟨(hI b off (h.i0 b off hi).1).1, (hI b off (h.i0 b off hi).1).2.trans (h.i0 b off hi).2⟩, i00 := h.i00,
    i1 := fun b off hi => by
      rcases h1 b off hi with hi | hi
      · exact h.i1 b off hi
      · exact .inr hi
    i2 := h2, go := h.go }
theorem StoR.blk_lt {N : Nat → Prop} {ob : Nat → AObj} {n : Nat} (h : StoR P N ob n w I μ ν) {o b : Nat} (hb : blkOf μ ν o (ob o) = some b) : b < w.heap.size ∧ N b := by
  have hx := h.os o
  generalize ob o = x at *
  cases x with
  | dead => cases hb
  | box cs =>
    obtain ⟨vs, t, h1, _, _, _, _, _, h8⟩ := hx
    injection hb with hb; subst hb
    exact ⟨(Array.getElem?_eq_some_iff.1 h1).1, h8⟩
  | vec g mv fz e sz els =>
    obtain ⟨xs, h⟩ := hx
    exact ⟨(h.own.lt b hb).2, h.new b hb⟩
  | map es =>
    obtain ⟨ents, h1, _, h3, _⟩ := hx
    injection hb with hb; subst hb
    exact ⟨(Array.getElem?_eq_some_iff.1 h1).1, h3⟩
  | mapd es bs ck =>
    obtain ⟨ents, h1, _, h3, _⟩ := hx
    injection hb with hb; subst hb
    exact ⟨(Array.getElem?_eq_some_iff.1 h1).1, h3⟩
  | iter m since seen last =>
    obtain ⟨h1, _, h3⟩ := hx
    injection hb with hb; subst hb
    exact ⟨(Array.getElem?_eq_some_iff.1 h1).1, h3⟩
  | loop k busy ks vs =>
    obtain ⟨r, h1, _, _, _, _, _, _, h8⟩ := hx
    injection hb with hb; subst hb
    exact ⟨(Array.getElem?_eq_some_iff.1 h1).1, h8⟩
theorem Rel.blk_lt (h : Rel P Z nt s a w I μ ν) {o b : Nat} (hb : blkOf μ ν o (s.ob o) = some b) : b < w.heap.size ∧ Z.new b := h.toStoR.blk_lt hb
theorem Rel.lt_n (h : Rel P Z nt s a w I μ ν) {o : Nat} (ho : s.ob o ≠ .dead) : o < s.n := by
  rcases Nat.lt_or_ge o s.n with hl | hl
  · exact hl
  · exact absurd (h.dd o hl) ho
theorem Rel.keep (h : Rel P Z nt s a w I μ ν) {w' : World} {N : Nat → Prop} (hk : Keep N w w') (hn : ∀ b, b < w.heap.size → N b → Z.new b) : Keep Z.N Z.w w' :=
  ⟨hk.os.trans h.bel.os, hk.tape.trans h.bel.tape, hk.output.trans h.bel.output, Nat.le_trans h.bel.size hk.size, fun q hq hn' => by
    have hq' := Nat.lt_of_lt_of_le hq h.bel.size
    rw [hk.block q hq' fun hN => ?_]
    · exact h.bel.block q hq hn'
    · rcases hn q hq' hN with hz | hz
      · exact hn' hz
      · omega⟩
end
end Go.Proofs.YtpooehcjchkbkaaV
/- Each operation, carried out by the machine, gives what the walk says: operations that lay and turn nothing. -/
set_option linter.unusedVariables false
set_option linter.unusedSimpArgs false
namespace Go.Proofs.YtpooehcjchkbkaaV
open Go.RowKit
def D.lit : D → Value
  | .int k n => .int k n
  | .bool b => .bool b
  | .str s => .string s
  | _ => .slice none 0 0
structure EqOk (P : Program) (t : TypeId) (ks : List EK) : Prop where
  run : ∀ (xs ys : List D) (r : Bool) (w : World), EK.hasAll ks xs = true → EK.hasAll ks ys = true → eqCells xs ys = some r → (Op.equal t (.agg (xs.map D.lit).toArray) (.agg (ys.map D.lit).toArray)).run P w = .ok r w
  guard : P.eqGuardType P.depth t = false
def WF (ro : Option Nat) : Fence := { Fence.wide with round := ro }
structure CallW (P : Program) (f : FuncId) (vs : List Value) (w : World) (R : Ending → World → Prop) : Prop where
  fn : f ≠ 1000000007 → (callFunc f vs.toArray).run P w = .ok (.enter f vs.toArray) w ∧ Calls P f vs.toArray w R
  rnd : f = 1000000007 → ∃ (l : Nat) (args : List Value) (g : FuncId) (tmps : Array Value) (assign body : Code), vs = .func (.yield l) #[] #[] :: args ∧ (Instr.yield l args.toArray).run P w = .ok (.round l g tmps assign body) w ∧ RoundIn Fence.wide 0 P l g tmps assign body w R
structure Good (P : Program) (f : FuncId) (xs : List AV) (obs : List AObj) (r : AV) (obs' : List AObj) : Prop where
  longer : obs.length ≤ obs'.length
  calls : ∀ (w : World) (I : Nat → Nat → Prop) (N : Nat → Prop) (μ : Nat → Nat) (ν : Nat → Value) (vs : List Value), StoR P N (obL obs) obs.length w I μ ν → (∀ b, N b → ∃ o, blkOf μ ν o (obL obs o) = some b) → xs.length = vs.length →
    (∀ (i : Nat) (x : AV) (v : Value), xs[i]? = some x → vs[i]? = some v → VR w I μ ν (obL obs) x v ∧ x.sc (obL obs)) →
    CallW P f vs w fun e w' => ∃ (v : Value) (I' : Nat → Nat → Prop) (μ' : Nat → Nat) (ν' : Nat → Value), e = .returned v ∧ StoR P (fun b => N b ∨ w.heap.size ≤ b) (obL obs') obs'.length w' I' μ' ν' ∧
      VR w' I' μ' ν' (obL obs') r v ∧ r.sc (obL obs') ∧ (∀ b o, I b o → I' b o ∧ w'.cell? ⟨b, o, none⟩ = w.cell? ⟨b, o, none⟩) ∧ (∀ b o, I' b o → I b o ∨ N b ∨ w.heap.size ≤ b) ∧ Keep N w w' ∧ GoesZ (obL obs) (obL obs') μ μ' ν ν'
structure Ctx where
  T : Tbl
  Q : TypeId → Option (List EK)
structure COk (P : Program) (c : Ctx) : Prop where
  T : TOk P c.T
  Q : ∀ t ks, c.Q t = some ks → EqOk P t ks
theorem not_defer {P : Program} {o : Oper} {a : Act} {w w' : World} {x : Next} (h : (execOp a.eval o).run P w = .ok x w') (hx : ∀ d, x ≠ .defer d) : ∀ c, o.op ≠ .defer c := by
  intro c hc
  unfold execOp at h
  simp only [hc, Sem.run_bind] at h
  cases hr : (resolve a.eval c o.type).run P w with
  | ok d w1 => simp [hr] at h; exact hx _ h.1.symm
  | halt x w1 => simp [hr, Result.andThen] at h
theorem wp_value {P : Program} {o : Oper} {a : Act} {w w' : World} {u : Value} {K : Act → World → Prop} {Q : Exit → Act → World → Prop} {ro : Option Nat} {dn : Nat} (h : (execOp a.eval o).run P w = .ok (.value u) w') (hK : K (a.put o.dst u) w') : o.wpIn (WF ro) dn P a w K Q := by
  refine ⟨fun _ _ => trivial, ?_⟩
  rw [Oper.semAt_eq _ _ _ (not_defer h (by simp)), h]; exact hK
theorem wp_skipped {P : Program} {o : Oper} {a : Act} {w w' : World} {K : Act → World → Prop} {Q : Exit → Act → World → Prop} {ro : Option Nat} {dn : Nat} (h : (execOp a.eval o).run P w = .ok .skip w') (hK : K (a.put o.dst undef) w') : o.wpIn (WF ro) dn P a w K Q := by
  refine ⟨fun _ _ => trivial, ?_⟩
  rw [Oper.semAt_eq _ _ _ (not_defer h (by simp)), h]; exact hK
section types
variable {P : Program} {t : TypeId} {i : TyI}
theorem TyOk.sizeOf (h : TyOk P t i) (w : World) : (sizeOf t).run P w = .ok i.size w := by
  obtain ⟨f, h1, h2, _⟩ := h.info
  simp [Go.sizeOf, typeInfo, h1, h2]
theorem TyOk.isAgg (h : TyOk P t i) (w : World) : (isAgg t).run P w = .ok i.kind.agg w := by
  obtain ⟨u, h1, h2⟩ := h.und
  unfold Go.isAgg
  rw [Sem.run_bind, run_underlying h1 w]
  cases u <;> cases hk : i.kind <;> simp_all [kindEq, TK.agg]
theorem TyOk.int {k : IntKind} (h : TyOk P t i) (hk : i.kind = .int k) : P.underlying t = some (.int k) := by
  obtain ⟨u, h1, h2⟩ := h.und
  rw [hk] at h2
  cases u <;> simp_all [kindEq]
theorem TyOk.bool (h : TyOk P t i) (hk : i.kind = .bool) : P.underlying t = some .bool := by
  obtain ⟨u, h1, h2⟩ := h.und
  rw [hk] at h2
  cases u <;> simp_all [kindEq]
theorem TyOk.str (h : TyOk P t i) (hk : i.kind = .str) : P.underlying t = some .string := by
  obtain ⟨u, h1, h2⟩ := h.und
  rw [hk] at h2
  cases u <;> simp_all [kindEq]
theorem TyOk.slice {e : TypeId} (h : TyOk P t i) (hk : i.kind = .slice e) : P.underlying t = some (.slice e) := by
  obtain ⟨u, h1, h2⟩ := h.und
  rw [hk] at h2
  cases u <;> simp_all [kindEq]
theorem TyOk.arr {n : Nat} {e : TypeId} (h : TyOk P t i) (hk : i.kind = .arr n e) : P.underlying t = some (.array n e) := by
  obtain ⟨u, h1, h2⟩ := h.und
  rw [hk] at h2
  cases u <;> simp_all [kindEq]
theorem TyOk.map {k e : TypeId} (h : TyOk P t i) (hk : i.kind = .map k e) : P.underlying t = some (.map k e) := by
  obtain ⟨u, h1, h2⟩ := h.und
  rw [hk] at h2
  cases u <;> simp_all [kindEq]
theorem TyOk.ptr (h : TyOk P t i) (hk : i.kind = .ptr) : ∃ e, P.underlying t = some (.pointer e) := by
  obtain ⟨u, h1, h2⟩ := h.und
  rw [hk] at h2
  cases u <;> simp_all [kindEq]
theorem fieldsEq_get {fs : List Field} {gs : List (Nat × TypeId × Nat)} (h : fieldsEq P fs gs = true) {j : Nat} {off ft n : Nat} (hj : gs[j]? = some (off, ft, n)) :
    ∃ f, fs[j]? = some f ∧ f.offset = off ∧ f.type = ft ∧ n ≠ 0 ∧ ∃ fi, P.info? ft = some fi ∧ fi.size = n := by
  induction gs generalizing fs j with
  | nil => simp at hj
  | cons g gs ih =>
    obtain ⟨o1, t1, n1⟩ := g
    cases fs with
    | nil => simp [fieldsEq] at h
    | cons f fs =>
      simp only [fieldsEq, Bool.and_eq_true, beq_iff_eq, bne_iff_ne] at h
      obtain ⟨⟨⟨⟨h1, h2⟩, h3⟩, h4⟩, h5⟩ := h
      cases j with
      | zero =>
        simp only [List.getElem?_cons_zero, Option.some.injEq, Prod.mk.injEq] at hj
        obtain ⟨rfl, rfl, rfl⟩ := hj
        cases hq : P.info? t1 with
        | none => simp [hq] at h4
        | some fi => exact ⟨f, rfl, h1, h2, h3, fi, rfl, by simpa [hq] using h4⟩
      | succ j => exact ih h5 (by simpa using hj)
theorem TyOk.struct {gs : List (Nat × TypeId × Nat)} (h : TyOk P t i) (hk : i.kind = .struct gs) : ∃ fs : Array Field, P.underlying t = some (.struct fs) ∧ fieldsEq P fs.toList gs = true := by
  obtain ⟨u, h1, h2⟩ := h.und
  rw [hk] at h2
  cases u <;> simp_all [kindEq]
end types
theorem run_binInt {P : Program} {w : World} {I : Nat → Nat → Prop} {op : BinOp} {t : TypeId} {k k' : IntKind} {a b : Int} {v : AV} (h : binIntF op k a k' b = some v) :
    ∃ u d, (binOp op t (.int k a) (.int k' b)).run P w = .ok u w ∧ v = .d d ∧ VRd w I d u := by
  unfold binIntF at h
  cases op <;> simp only at h
  case shl =>
    split at h <;> first | (cases h; done) | skip
    rename_i hb; injection h with h; subst h; exact ⟨_, _, by simp [binOp, Op.shift, Int.not_lt.2 hb], rfl, .int _ _⟩
  case shr =>
    split at h <;> first | (cases h; done) | skip
    rename_i hb; injection h with h; subst h; exact ⟨_, _, by simp [binOp, Op.shift, Int.not_lt.2 hb], rfl, .int _ _⟩
  case quo =>
    split at h <;> first | (cases h; done) | skip
    rename_i hb; obtain ⟨rfl, hb⟩ := hb; injection h with h; subst h; exact ⟨_, _, by simp [binOp, Op.intDiv, hb], rfl, .int _ _⟩
  case rem =>
    split at h <;> first | (cases h; done) | skip
    rename_i hb; obtain ⟨rfl, hb⟩ := hb; injection h with h; subst h; exact ⟨_, _, by simp [binOp, Op.intDiv, hb], rfl, .int _ _⟩
  all_goals (split at h <;> first | (cases h; done) | skip)
  all_goals (rename_i hk; subst hk; injection h with h; subst h)
  all_goals first
    | (refine ⟨_, _, ?_, rfl, .int _ _⟩; simp [binOp, Op.intArith]; done)
    | (refine ⟨_, _, ?_, rfl, .int _ _⟩; simp [binOp, Op.intBits]; done)
    | (refine ⟨_, _, ?_, rfl, .bool _⟩; simp [binOp, Op.intCmp]; done)
theorem run_binStr {P : Program} {w : World} {I : Nat → Nat → Prop} {op : BinOp} {t : TypeId} {a b : ByteArray} {v : AV} (h : binStrF op a b = some v) :
    ∃ u d, (binOp op t (.string a) (.string b)).run P w = .ok u w ∧ v = .d d ∧ VRd w I d u := by
  unfold binStrF at h
  cases op <;> simp only at h
  case add =>
    split at h <;> first | (cases h; done) | skip
    rename_i h1
    injection h with h; subst h
    refine ⟨_, _, ?_, rfl, .str _⟩
    simp [binOp, Op.stringOp]
    omega
  all_goals first
    | cases h; done
    | (injection h with h; subst h; exact ⟨_, _, by simp [binOp, Op.stringOp, eqS, lessS], rfl, .bool _⟩)
theorem lit_of {w : World} {I : Nat → Nat → Prop} {k : EK} {d : D} {v : Value} (h : k.has d = true) (hv : VRd w I d v) : v = d.lit := by
  cases k <;> cases hv <;> simp_all [EK.has, D.lit]
theorem lits_of {w : World} {I : Nat → Nat → Prop} : ∀ {ks : List EK} {ds : List D} {vs : List Value}, EK.hasAll ks ds = true → ds.length = vs.length → (∀ (i : Nat) (c : D) (v : Value), ds[i]? = some c → vs[i]? = some v → VRd w I c v) → vs = ds.map D.lit
  | [], [], [], _, _, _ => rfl
  | [], [], _ :: _, _, h, _ => by simp at h
  | k :: ks, d :: ds, [], _, h, _ => by simp at h
  | k :: ks, d :: ds, v :: vs, h, hl, hv => by
    simp only [EK.hasAll, Bool.and_eq_true] at h
    have e1 := lit_of h.1 (hv 0 d v rfl rfl)
    have e2 := lits_of h.2 (by simpa using hl) fun i c u hc hu => hv (i + 1) c u (by simpa using hc) (by simpa using hu)
    rw [e1, e2]
    rfl
  | [], _ :: _, _, h, _, _ => by simp [EK.hasAll] at h
  | _ :: _, [], _, h, _, _ => by simp [EK.hasAll] at h
theorem run_equalIn_bool {P : Program} {t : TypeId} (hb : P.underlying t = some .bool) (d : Nat) (a b : Bool) (w : World) : (Op.equalIn (d + 1) t (.bool a) (.bool b)).run P w = .ok (a == b) w := by
  simp [Op.equalIn, run_underlying hb]
theorem run_equalIn_ptr {P : Program} {t e : TypeId} (hb : P.underlying t = some (.pointer e)) (d : Nat) (w : World) : (∀ b : Option Addr, (Op.equalIn (d + 1) t (.pointer none) (.pointer b)).run P w = .ok b.isNone w) ∧ ∀ a : Addr, (Op.equalIn (d + 1) t (.pointer (some a)) (.pointer none)).run P w = .ok false w := by
  refine ⟨fun b => ?_, fun a => ?_⟩ <;> simp [Op.equalIn, run_underlying hb]
theorem run_equalIn_sl {P : Program} {t e : TypeId} (hb : P.underlying t = some (.slice e)) (d : Nat) (w : World) (a : Option Addr) (n cp : Nat) : (Op.equalIn (d + 1) t (.slice a n cp) (.slice none 0 0)).run P w = .ok a.isNone w := by
  cases a <;> simp [Op.equalIn, run_underlying hb]
theorem run_equalIn_map {P : Program} {t k e : TypeId} (hb : P.underlying t = some (.map k e)) (d : Nat) (w : World) (a : Option Nat) : (Op.equalIn (d + 1) t (.map a) (.map none)).run P w = .ok a.isNone w := by
  cases a <;> simp [Op.equalIn, run_underlying hb]
theorem run_nilE {P : Program} {c : Ctx} (hc : COk P c) {w : World} {I : Nat → Nat → Prop} {μ : Nat → Nat} {ν : Nat → Value} {ob : Nat → AObj} {t : TypeId} {x y : AV} {u v : Value} {r : Bool}
    (hx : VR w I μ ν ob x u) (hy : VR w I μ ν ob y v) (h : nilE c.T t x y = some r) (op : BinOp) (X Y : Operand) :
    (Op.equal t u v).run P w = .ok r w ∧ (eqGuard op t X Y u v).run P w = .ok () w ∧ binOp .eql t u v = (do pure (.bool (← Op.equal t u v))) ∧ binOp .neq t u v = (do pure (.bool (!(← Op.equal t u v)))) := by
  unfold nilE at h
  split at h
  · rename_i i1 i2 i3 hT
    obtain ⟨e, he⟩ := (hc.T.ok hT).ptr rfl
    have key : ∀ (a b : Option Addr) (r : Bool), (a = none ∧ r = b.isNone) ∨ (b = none ∧ a ≠ none ∧ r = false) → (Op.equal t (.pointer a) (.pointer b)).run P w = .ok r w ∧ (eqGuard op t X Y (.pointer a) (.pointer b)).run P w = .ok () w ∧ binOp .eql t (.pointer a) (.pointer b) = (do pure (.bool (← Op.equal t (.pointer a) (.pointer b)))) ∧ binOp .neq t (.pointer a) (.pointer b) = (do pure (.bool (!(← Op.equal t (.pointer a) (.pointer b))))) := by
      intro a b r hab
      refine ⟨?_, by cases op <;> rfl, rfl, rfl⟩
      rcases hab with ⟨rfl, rfl⟩ | ⟨rfl, ha, rfl⟩
      · exact (run_equalIn_ptr he 9999 w).1 b
      · cases a with
        | none => exact absurd rfl ha
        | some a => exact (run_equalIn_ptr he 9999 w).2 a
    have isP : ∀ {x : AV} {u : Value}, VR w I μ ν ob x u → x.isPtr = true → ∃ a, u = .pointer (some a) := by
      intro x u hx hp
      cases hx <;> first | (simp [AV.isPtr] at hp; done) | skip
      · exact ⟨_, rfl⟩
      · exact ⟨_, rfl⟩
      · rename_i hl _; obtain ⟨b, q, rfl⟩ := hl; exact ⟨_, rfl⟩
    unfold ptrNil at h
    split at h
    · injection h with h; subst h; cases hx; cases hy
      exact key _ _ _ (.inl ⟨rfl, rfl⟩)
    · split at h <;> first | (cases h; done) | skip
      rename_i hp
      injection h with h; subst h; cases hy
      obtain ⟨a, rfl⟩ := isP hx hp
      exact key _ _ _ (.inr ⟨rfl, by simp, rfl⟩)
    · split at h <;> first | (cases h; done) | skip
      rename_i hp
      injection h with h; subst h; cases hx
      obtain ⟨a, rfl⟩ := isP hy hp
      exact key _ _ _ (.inl ⟨rfl, rfl⟩)
    · cases h
  · rename_i e i1 i2 i3 hT
    have he := (hc.T.ok hT).slice rfl
    have key : ∀ (a : Option Addr) (n cp : Nat), (Op.equal t (.slice a n cp) (.slice none 0 0)).run P w = .ok a.isNone w ∧ (eqGuard op t X Y (.slice a n cp) (.slice none 0 0)).run P w = .ok () w ∧ binOp .eql t (.slice a n cp) (.slice none 0 0) = (do pure (.bool (← Op.equal t (.slice a n cp) (.slice none 0 0)))) ∧ binOp .neq t (.slice a n cp) (.slice none 0 0) = (do pure (.bool (!(← Op.equal t (.slice a n cp) (.slice none 0 0))))) := by
      intro a n cp
      exact ⟨run_equalIn_sl he 9999 w a n cp, by cases op <;> rfl, rfl, rfl⟩
    unfold slNil at h
    split at h
    · injection h with h; subst h
      cases hx with | d _ _ hx => cases hy with | d _ _ hy => cases hx; cases hy; exact key _ _ _
    · injection h with h; subst h
      cases hx with
      | d _ _ hx => cases hy with
        | d _ _ hy =>
          cases hy
          cases hx with
          | sl els A cp sz b off uu hcp hs hA hcell hd =>
            obtain rfl := hA (by simp)
            exact key _ _ _
    · split at h <;> first | (cases h; done) | skip
      rename_i hlt
      injection h with h; subst h
      cases hy with
      | d _ _ hy =>
        cases hy
        cases hx with
        | vs _ _ _ _ _ _ hl _ =>
          obtain ⟨A, cp, rfl, _, hA⟩ := hl
          obtain ⟨b, off, rfl⟩ := hA (by omega)
          exact key _ _ _
    · cases h
  · rename_i k e i1 i2 i3 hT
    have he := (hc.T.ok hT).map rfl
    unfold mpNil at h
    split at h
    · injection h with h; subst h; cases hx; cases hy
      exact ⟨run_equalIn_map he 9999 w _, by cases op <;> rfl, rfl, rfl⟩
    · injection h with h; subst h; cases hx; cases hy
      exact ⟨run_equalIn_map he 9999 w _, by cases op <;> rfl, rfl, rfl⟩
    · cases h
  · cases h
theorem run_eqF {P : Program} {c : Ctx} (hc : COk P c) {w : World} {I : Nat → Nat → Prop} {μ : Nat → Nat} {ν : Nat → Value} {ob : Nat → AObj} {t : TypeId} {x y : AV} {u v : Value} {r : Bool}
    (hx : VR w I μ ν ob x u) (hy : VR w I μ ν ob y v) (h : eqF c.T c.Q t x y = some r) (op : BinOp) (X Y : Operand) :
    (Op.equal t u v).run P w = .ok r w ∧ (eqGuard op t X Y u v).run P w = .ok () w ∧ binOp .eql t u v = (do pure (.bool (← Op.equal t u v))) ∧ binOp .neq t u v = (do pure (.bool (!(← Op.equal t u v)))) := by
  unfold eqF at h
  split at h
  · cases hx with
    | d _ _ hx => cases hy with
      | d _ _ hy =>
        cases hx; cases hy
        split at h
        · rename_i a b _ i1 i2 i3 hT
          have hb := (hc.T.ok hT).bool rfl
          injection h with h; subst h
          refine ⟨?_, by cases op <;> rfl, rfl, rfl⟩
          exact run_equalIn_bool hb 9999 _ _ w
        · cases h
  · cases hx with
    | d _ _ hx => cases hy with
      | d _ _ hy =>
        cases hx with
        | agg xs vs hl h1 hp => cases hy with
          | agg ys us hl' h1' hp' =>
            split at h
            · rename_i ks hQ
              split at h
              · rename_i hk
                obtain ⟨k1, k2⟩ := hk
                have e1 := lits_of k1 hl hp
                have e2 := lits_of k2 hl' hp'
                have hq := hc.Q t ks hQ
                refine ⟨by rw [e1, e2]; exact hq.run _ _ _ _ k1 k2 h, ?_, rfl, rfl⟩
                unfold eqGuard
                split <;> simp [hq.guard]
              · cases h
            · cases h
  · exact run_nilE hc hx hy h op X Y
theorem run_binF {P : Program} {c : Ctx} (hc : COk P c) {w : World} {I : Nat → Nat → Prop} {μ : Nat → Nat} {ν : Nat → Value} {ob : Nat → AObj} {op : BinOp} {t : TypeId} {x y : AV} {u v : Value} {z : AV}
    (hx : VR w I μ ν ob x u) (hy : VR w I μ ν ob y v) (h : binF c.T c.Q op t x y = some z) (X Y : Operand) :
    ∃ r d, (do eqGuard op t X Y u v; binOp op t u v : Sem Value).run P w = .ok r w ∧ z = .d d ∧ VRd w I d r := by
  unfold binF at h
  split at h
  · cases hx with
    | d _ _ hx => cases hy with
      | d _ _ hy =>
        cases hx; cases hy
        obtain ⟨r, d, h1, h2, h3⟩ := run_binInt (P := P) (w := w) (I := I) (t := t) h
        exact ⟨r, d, by simp [h1, eqGuard_at_int], h2, h3⟩
  · cases hx with
    | d _ _ hx => cases hy with
      | d _ _ hy =>
        cases hx; cases hy
        obtain ⟨r, d, h1, h2, h3⟩ := run_binStr (P := P) (w := w) (I := I) (t := t) h
        exact ⟨r, d, by simp [h1, eqGuard_at_string], h2, h3⟩
  · split at h
    · cases hq : eqF c.T c.Q t x y with
      | none => rw [hq] at h; cases h
      | some r =>
        rw [hq] at h
        injection h with hz
        obtain ⟨h1, h2, h3, h4⟩ := run_eqF hc hx hy hq .eql X Y
        refine ⟨.bool r, .bool r, ?_, hz.symm, .bool _⟩
        rw [Sem.run_bind, h2]; simp [h3, h4, h1]
    · cases hq : eqF c.T c.Q t x y with
      | none => rw [hq] at h; cases h
      | some r =>
        rw [hq] at h
        injection h with hz
        obtain ⟨h1, h2, h3, h4⟩ := run_eqF hc hx hy hq .neq X Y
        refine ⟨.bool (!r), .bool (!r), ?_, hz.symm, .bool _⟩
        rw [Sem.run_bind, h2]; simp [h3, h4, h1]
    · cases h
end Go.Proofs.YtpooehcjchkbkaaV
/- Loads, fields, elements. -/
set_option linter.unusedVariables false
set_option linter.unusedSimpArgs false
namespace Go.Proofs.YtpooehcjchkbkaaV
open Go.RowKit
theorem toD_VR {w : World} {I : Nat → Nat → Prop} {μ : Nat → Nat} {ν : Nat → Value} {ob : Nat → AObj} {c : AV} {v : Value} {d : D} (h : c.toD = some d) (hv : VR w I μ ν ob c v) : VRd w I d v := by
  cases c <;> simp only [AV.toD, Option.some.injEq] at h <;> try cases h
  cases hv; assumption
section
variable {w : World} {I : Nat → Nat → Prop} {μ : Nat → Nat} {ν : Nat → Value} {ob : Nat → AObj} {v : Value}
theorem VR_int {k : IntKind} {n : Int} (h : VR w I μ ν ob (.d (.int k n)) v) : v = .int k n := by
  cases h with | d _ _ h => cases h; rfl
theorem VR_bool {b : Bool} (h : VR w I μ ν ob (.d (.bool b)) v) : v = .bool b := by
  cases h with | d _ _ h => cases h; rfl
theorem VR_str {b : ByteArray} (h : VR w I μ ν ob (.d (.str b)) v) : v = .string b := by
  cases h with | d _ _ h => cases h; rfl
theorem VR_nils (h : VR w I μ ν ob (.d .nils) v) : v = .slice none 0 0 := by
  cases h with | d _ _ h => cases h; rfl
end
theorem toDs_get : ∀ {cs : List AV} {ds : List D}, toDs cs = some ds → ds.length = cs.length ∧ ∀ (i : Nat) (d : D), ds[i]? = some d → ∃ c, cs[i]? = some c ∧ c.toD = some d
  | [], ds, h => by simp only [toDs, Option.some.injEq] at h; subst h; simp
  | c :: cs, ds, h => by
    simp only [toDs] at h
    split at h
    · rename_i d1 ds1 h1 h2
      simp only [Option.some.injEq] at h
      subst h
      obtain ⟨hl, hg⟩ := toDs_get h2
      refine ⟨by simp [hl], fun i d hd => ?_⟩
      cases i with
      | zero => simp only [List.getElem?_cons_zero, Option.some.injEq] at hd; subst hd; exact ⟨c, rfl, h1⟩
      | succ i => simpa using hg i d (by simpa using hd)
    · cases h
theorem els_VR {w : World} {I : Nat → Nat → Prop} {μ : Nat → Nat} {ν : Nat → Value} {ob : Nat → AObj} {x : AV} {v : Value} {els : List D} (h : elsOf x = some els) (hv : VR w I μ ν ob x v) :
    ∃ A c, v = .slice A els.length c ∧ (els ≠ [] → VRd w I (.sl els) v) ∧ els.length ≤ c := by
  unfold elsOf at h
  split at h <;> try cases h
  · cases hv with | d _ _ hd => cases hd with | sl _ A c sz b off u h1 h2 h3 h4 h5 => exact ⟨A, c, rfl, fun _ => .sl _ A c sz b off u h1 h2 h3 h4 h5, h1⟩
  · cases hv with | d _ _ hd => cases hd; exact ⟨none, 0, rfl, fun h => absurd rfl h, Nat.le_refl _⟩
theorem VecR.blk {P : Program} {N : Nat → Prop} {w : World} {I : Nat → Nat → Prop} {v : Value} {fz : Bool} {e : TypeId} {sz : Nat} {els : List D} {xs : List Value} (h : VecR P N w I v fz e sz els xs) (hl : 0 < els.length) :
    ∃ g, v.ownBlock = some g ∧ (∀ k, cellV v k = .pointer (some ⟨g, k, none⟩)) ∧ ∀ (j : Nat) (u : Value), xs[j]? = some u → w.cell? ⟨g, j, none⟩ = some u := by
  rcases h.own.2 with ⟨rfl, h0⟩ | ⟨g, cap, cur, rfl, hN, hh, hn, hc, hcs, ht⟩
  · omega
  · refine ⟨g, rfl, fun k => by simp [cellV], fun j u hj => ?_⟩
    have := h.own.cells (g := g) rfl j u hj
    rwa [Addr.add_lit, Nat.zero_add] at this
section
variable {P : Program} {c : Ctx} {Z : Zst} {nt : Nat} {s : SS} {a : Act} {w : World} {I : Nat → Nat → Prop} {μ : Nat → Nat} {ν : Nat → Value}
theorem cell_of_box {b t : Nat} {vs : List Value} (h : w.heap[b]? = some (.cells vs.toArray t (0, 0))) (j : Nat) : w.cell? ⟨b, j, none⟩ = vs[j]? := by
  rw [cell_of_row w b j _ t _ h]; simp
theorem flat_split {els : List D} {sz j : Nat} {el : D} (h : ∀ e ∈ els, e.cells.length = sz) (hj : els[j]? = some el) : D.flat els = D.flat (els.take j) ++ (el.cells ++ D.flat (els.drop (j + 1))) ∧ (D.flat (els.take j)).length = j * sz := by
  have hlt : j < els.length := (List.getElem?_eq_some_iff.1 hj).1
  have e : els = els.take j ++ el :: els.drop (j + 1) := by
    rw [List.getElem?_eq_getElem hlt] at hj
    injection hj with hj
    rw [← hj, List.getElem_cons_drop, List.take_append_drop]
  refine ⟨?_, ?_⟩
  · conv => lhs; rw [e]
    simp [D.flat]
  · rw [length_flat (sz := sz) fun x hx => h x (List.mem_of_mem_take hx), List.length_take, Nat.min_eq_left (Nat.le_of_lt hlt)]
theorem TyOk.infoSize {t : TypeId} {i : TyI} {f : TypeInfo} (h : TyOk P t i) (hf : P.info? t = some f) : f.size = i.size := by
  obtain ⟨g, h1, h2, _⟩ := h.info
  rw [hf] at h1
  injection h1 with h1
  rw [h1]; exact h2
theorem boxLoad_ok (hc : COk P c) (hr : Rel P Z nt s a w I μ ν) {t : TypeId} {i : TyI} (hi : c.T.get t = some i) {o k : Nat} {z : AV} (h : boxLoad i k (s.ob o) = some z) :
    ∃ r, (Instr.loadAt t (.pointer (some ⟨μ o, k, none⟩))).run P w = .ok r w ∧ VR w I μ ν s.ob z r ∧ z.sc s.ob := by
  have ht := hc.T.ok hi
  have ho := hr.os o
  unfold boxLoad at h
  split at h
  · rename_i cs hob
    rw [hob] at ho
    obtain ⟨vs, te, h1, h3, h4, h5, h6, h7, h8⟩ := ho
    split at h
    · rename_i hagg
      split at h
      · rename_i hk
        split at h
        · rename_i ds hds
          injection h with h; subst h
          obtain ⟨hl, hg⟩ := toDs_get hds
          have hlen : ((vs.drop k).take i.size).length = i.size := by simp; omega
          have hld : (loadCells ⟨μ o, k, none⟩ i.size).run P w = .ok ((vs.drop k).take i.size).toArray w := by
            have := run_loadCells_list (P := P) w ⟨μ o, k, none⟩ ((vs.drop k).take i.size) (fun j v hv => by
              rw [Addr.add_lit, cell_of_box h1]
              rw [List.getElem?_take] at hv
              split at hv
              · rw [List.getElem?_drop] at hv; exact hv
              · cases hv)
            rwa [hlen] at this
          refine ⟨.agg ((vs.drop k).take i.size).toArray, ?_, .d _ _ (.agg _ _ ?_ (fun v hv => h6 v (List.mem_of_mem_drop (List.mem_of_mem_take hv))) fun j d v hd hv => ?_), trivial⟩
          · simp [Instr.loadAt, Instr.sureAddr, loadVar, ht.isAgg, hagg, ht.sizeOf, hld]
          · rw [hl, hlen]; simp; omega
          · obtain ⟨cc, hcc, hd'⟩ := hg j d hd
            have hj : j < i.size := by
              have := (List.getElem?_eq_some_iff.1 hv).1
              omega
            simp only [List.getElem?_take, hj, if_true, List.getElem?_drop] at hcc hv
            exact toD_VR hd' (h4 _ _ _ hcc hv)
        · injection h with h; subst h
          have hlen : ((vs.drop k).take i.size).length = i.size := by simp; omega
          have hld : (loadCells ⟨μ o, k, none⟩ i.size).run P w = .ok ((vs.drop k).take i.size).toArray w := by
            have := run_loadCells_list (P := P) w ⟨μ o, k, none⟩ ((vs.drop k).take i.size) (fun j v hv => by
              rw [Addr.add_lit, cell_of_box h1]
              rw [List.getElem?_take] at hv
              split at hv
              · rw [List.getElem?_drop] at hv; exact hv
              · cases hv)
            rwa [hlen] at this
          refine ⟨.agg ((vs.drop k).take i.size).toArray, ?_, .agv _ _ (by simp; omega) (fun j cc v hcc hv => ?_) (fun v hv => h6 v (List.mem_of_mem_drop (List.mem_of_mem_take hv))), fun cc hcc => h5 _ (List.mem_of_mem_drop (List.mem_of_mem_take hcc))⟩
          · simp [Instr.loadAt, Instr.sureAddr, loadVar, ht.isAgg, hagg, ht.sizeOf, hld]
          · have hj : j < i.size := by
              have := (List.getElem?_eq_some_iff.1 hv).1
              omega
            simp only [List.getElem?_take, hj, if_true, List.getElem?_drop] at hcc hv
            exact h4 _ _ _ hcc hv
      · cases h
    · rename_i hagg
      have hk : k < vs.length := by rw [← h3]; exact (List.getElem?_eq_some_iff.1 h).1
      refine ⟨vs[k], ?_, h4 k _ _ h (List.getElem?_eq_getElem hk), (h5 _ (List.mem_of_getElem? h)).sc⟩
      simp [Instr.loadAt, Instr.sureAddr, loadVar, ht.isAgg, hagg, cell_of_box h1, List.getElem?_eq_getElem hk]
  · cases h
theorem run_loadF (hc : COk P c) (hr : Rel P Z nt s a w I μ ν) {t : TypeId} {x : AV} {u : Value} {z : AV} (hx : VR w I μ ν s.ob x u) (h : loadF c.T t x s.ob = some z) :
    ∃ r, (Instr.loadAt t u).run P w = .ok r w ∧ VR w I μ ν s.ob z r ∧ z.sc s.ob := by
  unfold loadF at h
  split at h
  · cases h
  · rename_i i hi
    have ht := hc.T.ok hi
    split at h
    · rename_i o k
      cases hx
      exact boxLoad_ok hc hr hi h
    · rename_i cs
      cases hx with
      | ep _ b off u hcell hd =>
        unfold epLoad at h
        split at h
        · rename_i hagg
          split at h
          · rename_i hk
            injection h with h; subst h
            have hld : (loadCells ⟨b, off, none⟩ i.size).run P w = .ok ((List.range i.size).map u).toArray w :=
              run_loadCells (P := P) w ⟨b, off, none⟩ i.size u (fun j hj => by rw [Addr.add_lit]; exact (hcell j (by omega)).1)
            refine ⟨.agg ((List.range i.size).map u).toArray, ?_, .d _ _ (.agg _ _ (by simp; omega) (fun v hv => ?_) fun j d v hdj hv => ?_), trivial⟩
            · simp [Instr.loadAt, Instr.sureAddr, loadVar, ht.isAgg, hagg, ht.sizeOf, hld]
            · obtain ⟨j, hj, rfl⟩ := List.mem_map.1 hv
              exact (hcell j (by have := List.mem_range.1 hj; omega)).2.2
            · have hj : j < i.size := by have := (List.getElem?_eq_some_iff.1 hv).1; simpa using this
              simp only [List.getElem?_take, hj, if_true, List.getElem?_map, List.getElem?_range, Option.map_some, Option.some.injEq] at hdj hv
              subst hv
              exact hd j d hdj
          · cases h
        · rename_i hagg
          split at h
          · rename_i cc rest
            injection h with h; subst h
            have := (hcell 0 (by simp)).1
            simp only [Nat.add_zero] at this
            refine ⟨u 0, ?_, .d _ _ (hd 0 cc rfl), trivial⟩
            simp [Instr.loadAt, Instr.sureAddr, loadVar, ht.isAgg, hagg, this]
          · cases h
    · rename_i o g j sz sub
      have ho := hr.os o
      unfold pvLoad at h
      split at h
      · rename_i g' mv fz e sz' els hob
        rw [hob] at ho
        obtain ⟨xs, hv⟩ := ho
        split at h
        · rename_i hgg
          subst hgg
          cases hx with
          | pv _ _ _ _ _ _ hl hh =>
            obtain ⟨rfl, hjl, rfl⟩ := hh _ _ _ _ _ hob
            obtain ⟨b, hb, hcv, hcell⟩ := hv.blk (by omega)
            unfold pelF at h
            split at h
            · rename_i el hj
              have hel : el.cells.length = sz' := hv.size el (List.mem_of_getElem? hj)
              have hget : ∀ k d, el.cells[k]? = some d → (D.flat els)[j * sz' + k]? = some d := fun k d hk => flat_get hv.size hj hk
              have hxl : xs.length = els.length * sz' := hv.own.1
              have hle : j * sz' + sz' ≤ xs.length := by
                rw [hxl]
                calc j * sz' + sz' = (j + 1) * sz' := by rw [Nat.add_mul]; omega
                  _ ≤ els.length * sz' := Nat.mul_le_mul_right _ hjl
              rw [hcv]
              split at h
              · rename_i hagg
                split at h
                · rename_i hk
                  injection h with h; subst h
                  have hlen : ((xs.drop (j * sz' + sub)).take i.size).length = i.size := by simp; omega
                  have hld : (loadCells ⟨b, j * sz' + sub, none⟩ i.size).run P w = .ok ((xs.drop (j * sz' + sub)).take i.size).toArray w := by
                    have := run_loadCells_list (P := P) w ⟨b, j * sz' + sub, none⟩ ((xs.drop (j * sz' + sub)).take i.size) (fun q v hv => by
                      rw [Addr.add_lit]
                      rw [List.getElem?_take] at hv
                      split at hv
                      · rw [List.getElem?_drop] at hv; exact hcell _ _ hv
                      · cases hv)
                    rwa [hlen] at this
                  refine ⟨.agg ((xs.drop (j * sz' + sub)).take i.size).toArray, ?_, .d _ _ (.agg _ _ ?_ (fun v hv' => hv.one v (List.mem_of_mem_drop (List.mem_of_mem_take hv'))) fun q d v hd hv' => ?_), trivial⟩
                  · simp [Instr.loadAt, Instr.sureAddr, loadVar, ht.isAgg, hagg, ht.sizeOf, hld]
                  · rw [hlen]; simp; omega
                  · have hq : q < i.size := by
                      have := (List.getElem?_eq_some_iff.1 hv').1
                      omega
                    simp only [List.getElem?_take, hq, if_true, List.getElem?_drop] at hd hv'
                    exact hv.rd _ d v (by rw [Nat.add_assoc]; exact hget _ _ hd) hv'
                · cases h
              · rename_i hagg
                split at h
                · rename_i cc hcc
                  injection h with h; subst h
                  have hk : sub < sz' := by rw [← hel]; exact (List.getElem?_eq_some_iff.1 hcc).1
                  have hk' : j * sz' + sub < xs.length := by omega
                  refine ⟨xs[j * sz' + sub], ?_, .d _ _ (hv.rd _ _ _ (hget _ _ hcc) (List.getElem?_eq_getElem hk')), trivial⟩
                  simp [Instr.loadAt, Instr.sureAddr, loadVar, ht.isAgg, hagg, hcell _ _ (List.getElem?_eq_getElem hk')]
                · cases h
            · cases h
        · cases h
      · cases h
    · cases h
theorem run_fieldAddrF (hc : COk P c) (hr : Rel P Z nt s a w I μ ν) {t : TypeId} {x : AV} {u : Value} {f : Nat} {z : AV} (hs : x.sc s.ob) (hx : VR w I μ ν s.ob x u) (h : fieldAddrF c.T t x f = some z) :
    ∃ r, (Instr.fieldAt t u f).run P w = .ok r w ∧ VR w I μ ν s.ob z r ∧ z.sc s.ob := by
  unfold fieldAddrF at h
  split at h
  · rename_i fs sz by_ zz hi
    have ht := hc.T.ok hi
    obtain ⟨fl, hu, hf⟩ := ht.struct rfl
    split at h
    · rename_i off ft n hfs
      obtain ⟨fd, g1, g2, g3, g4, fi, g5, g6⟩ := fieldsEq_get hf hfs
      have g1' : fl[f]? = some fd := by simpa using g1
      have hsz : (sizeOf fd.type).run P w = .ok n w := by rw [g3]; simp [sizeOf, typeInfo, g5, g6]
      split at h
      · rename_i o k
        injection h with h; subst h
        cases hx
        refine ⟨.pointer (some ⟨μ o, k + off, none⟩), ?_, .ptr o _, hs⟩
        simp [Instr.fieldAt, run_underlying hu, g1', Instr.sureAddr, fieldPlace, hsz, g4, Addr.add_lit, g2, Nat.add_assoc]
      · rename_i cs
        injection h with h; subst h
        cases hx with
        | ep _ b o u hcell hd =>
          refine ⟨.pointer (some ⟨b, o + off, none⟩), ?_, .ep _ b (o + off) (fun j => u (off + j)) (fun j hj => ?_) (fun j d hj => hd (off + j) d (by simpa using hj)), trivial⟩
          · simp [Instr.fieldAt, run_underlying hu, g1', Instr.sureAddr, fieldPlace, hsz, g4, Addr.add_lit, g2]
          · have := hcell (off + j) (by simp at hj; omega)
            rwa [← Nat.add_assoc] at this
      · rename_i o g j sz sub
        injection h with h; subst h
        cases hx with
        | pv _ _ _ _ _ _ hl hh =>
          obtain ⟨b, q, rfl⟩ := hl
          refine ⟨.pointer (some ⟨b, q + off, none⟩), ?_, .pv _ _ _ _ _ _ ⟨_, _, rfl⟩ fun mv fz e sz' els hob => ?_, hs⟩
          · simp [Instr.fieldAt, run_underlying hu, g1', Instr.sureAddr, fieldPlace, hsz, g4, Addr.add_lit, g2]
          · obtain ⟨rfl, hjl, he⟩ := hh _ _ _ _ _ hob
            refine ⟨rfl, hjl, ?_⟩
            unfold cellV at he ⊢
            split at he <;> simp only [Value.pointer.injEq, Option.some.injEq, Addr.mk.injEq, and_true, reduceCtorEq] at he ⊢
            obtain ⟨rfl, rfl⟩ := he
            exact ⟨rfl, by omega⟩
      · cases h
    · cases h
  · cases h
theorem run_fieldF (hc : COk P c) {t : TypeId} {x : AV} {u : Value} {f : Nat} {z : AV} (hx : VR w I μ ν s.ob x u) (h : fieldF c.T t x f = some z) :
    ∃ r, (Instr.field t u f).run P w = .ok r w ∧ VR w I μ ν s.ob z r ∧ z.sc s.ob := by
  unfold fieldF at h
  split at h
  · rename_i fs sz by_ zz hi
    have ht := hc.T.ok hi
    obtain ⟨fl, hu, hf⟩ := ht.struct rfl
    split at h
    · rename_i off ft n hfs
      obtain ⟨fd, g1, g2, g3, g4, fi, g5, g6⟩ := fieldsEq_get hf hfs
      have g1' : fl[f]? = some fd := by simpa using g1
      split at h
      · rename_i cs i hti
        have hft := hc.T.ok hti
        split at h <;> first | (cases h; done) | skip
        rename_i hkn
        obtain ⟨hk, hn⟩ := hkn
        cases hx with
        | d _ _ hx => cases hx with
          | agg _ vs hl h1 hp =>
            split at h
            · rename_i hagg
              injection h with h; subst h
              refine ⟨.agg ((vs.drop off).take n).toArray, ?_, .d _ _ (.agg _ _ (by simp; omega) (fun v hv => h1 v (List.mem_of_mem_drop (List.mem_of_mem_take hv))) fun j d v hd hv => ?_), trivial⟩
              · simp [Instr.field, run_underlying hu, g1', asAgg, part, g3, g2, hft.isAgg, hagg, hft.sizeOf, hn]
              · have hj : j < n := by have := (List.getElem?_eq_some_iff.1 hv).1; simp at this; omega
                simp only [List.getElem?_take, hj, if_true, List.getElem?_drop] at hd hv
                exact hp _ _ _ hd hv
            · rename_i hagg
              split at h
              · rename_i cc hcc
                injection h with h; subst h
                have hko : off < vs.length := by rw [← hl]; exact (List.getElem?_eq_some_iff.1 hcc).1
                refine ⟨vs[off], ?_, .d _ _ (hp off cc _ hcc (List.getElem?_eq_getElem hko)), trivial⟩
                simp [Instr.field, run_underlying hu, g1', asAgg, part, g3, g2, hft.isAgg, hagg, List.getElem?_eq_getElem hko]
              · cases h
      · cases h
    · cases h
  · cases h
theorem run_indexAddrF (hc : COk P c) (hr : Rel P Z nt s a w I μ ν) {t : TypeId} {x y : AV} {u v : Value} {z : AV} (hs : x.sc s.ob) (hx : VR w I μ ν s.ob x u) (hy : VR w I μ ν s.ob y v) (h : indexAddrF c.T t x y = some z) :
    ∃ r, (Instr.indexAt t u v).run P w = .ok r w ∧ VR w I μ ν s.ob z r ∧ z.sc s.ob := by
  unfold indexAddrF at h
  split at h
  · rename_i e sz by_ zz hi
    have ht := (hc.T.ok hi).slice rfl
    split at h
    · rename_i o g sz lo hi_
      split at h
      · rename_i i kk n hti
        have hte := hc.T.ok hti
        split at h <;> first | (cases h; done) | skip
        rename_i hcond
        obtain ⟨h0, hm, hsz⟩ := hcond
        injection h with h; subst h
        obtain rfl := VR_int hy
        cases hx with
        | vs _ _ _ _ _ _ hl hh =>
          obtain ⟨A, cp, rfl, hcp, hA⟩ := hl
          obtain ⟨b, off, rfl⟩ := hA (by omega)
          have hin : 0 ≤ n ∧ n < ((hi_ - lo : Nat) : Int) := ⟨h0, hm⟩
          refine ⟨.pointer (some ⟨b, off + n.toNat * sz, none⟩), ?_, .pv _ _ _ _ _ _ ⟨_, _, rfl⟩ fun mv fz e' sz' els hob => ?_, hs⟩
          · simp [Instr.indexAt, asIntOf, run_underlying ht, hin, hte.sizeOf, hsz, Addr.add_lit]
          · obtain ⟨rfl, hle, hlen, A0, n0, c0, A', e1, e2, e3, e4, e5⟩ := hh _ _ _ _ _ hob
            refine ⟨rfl, by omega, ?_⟩
            injection e2 with e2 _ _
            have hlt : lo < c0 := by omega
            have := e5 hlt
            rw [← e2] at this
            cases A0 with
            | none => simp at this
            | some a0 =>
              rw [e1]
              simp only [Option.map_some, Option.some.injEq] at this
              simp only [cellV, Value.pointer.injEq, Option.some.injEq, Addr.mk.injEq, and_true]
              have ha : a0.add (lo * sz') = ⟨a0.block, a0.off + lo * sz', if lo * sz' = 0 then a0.spot else none⟩ := by
                unfold Addr.add
                split <;> simp_all
              rw [ha] at this
              simp only [Addr.mk.injEq] at this
              obtain ⟨rfl, rfl, _⟩ := this
              exact ⟨rfl, by rw [Nat.add_mul]; omega⟩
      · cases h
    · split at h
      · rename_i i els k n hti hel
        have hte := hc.T.ok hti
        unfold epOf at h
        split at h <;> first | (cases h; done) | skip
        rename_i el hget
        split at h <;> first | (cases h; done) | skip
        rename_i hcond
        obtain ⟨h0, hcl⟩ := hcond
        injection h with h; subst h
        obtain rfl := VR_int hy
        obtain ⟨A, cp, rfl, hvd, hle⟩ := els_VR hel hx
        have hne : els ≠ [] := by rintro rfl; simp at hget
        have hvd := hvd hne
        cases hvd with
        | sl _ _ _ sz b off uu h1 h2 h3 h4 h5 =>
          have hA := h3 hne
          subst hA
          have hlt : n.toNat < els.length := (List.getElem?_eq_some_iff.1 hget).1
          have hsz : i.size = sz := by rw [← hcl]; exact h2 el (List.mem_of_getElem? hget)
          refine ⟨.pointer (some ⟨b, off + n.toNat * sz, none⟩), ?_, .ep _ b _ (fun j => uu (n.toNat * sz + j)) (fun j hj => ?_) (fun j d hj => h5 _ d (flat_get h2 hget hj)), trivial⟩
          · have : 0 ≤ n ∧ n < (els.length : Int) := ⟨h0, by omega⟩
            simp [Instr.indexAt, asIntOf, run_underlying ht, this, hte.sizeOf, hsz, Addr.add_lit]
          · have := h4 (n.toNat * sz + j) (flat_len_lt h2 hget (List.getElem?_eq_getElem hj))
            rwa [← Nat.add_assoc] at this
      · cases h
  · rename_i m e sz by_ zz hi
    have ht := (hc.T.ok hi).arr rfl
    split at h
    · rename_i i o k kk n hti
      have hte := hc.T.ok hti
      split at h <;> first | (cases h; done) | skip
      rename_i hcond
      obtain ⟨h0, hm⟩ := hcond
      injection h with h; subst h
      obtain rfl := VR_int hy
      cases hx
      refine ⟨.pointer (some ⟨μ o, k + n.toNat * i.size, none⟩), ?_, .ptr o _, hs⟩
      simp [Instr.indexAt, asIntOf, run_underlying ht, Instr.sureAddr, h0, hm, hte.sizeOf, Addr.add_lit, Nat.add_assoc]
    · rename_i i cs kk n hti
      have hte := hc.T.ok hti
      split at h <;> first | (cases h; done) | skip
      rename_i hcond
      obtain ⟨h0, hm⟩ := hcond
      injection h with h; subst h
      obtain rfl := VR_int hy
      cases hx with
      | ep _ b o u hcell hd =>
        refine ⟨.pointer (some ⟨b, o + n.toNat * i.size, none⟩), ?_, .ep _ b _ (fun j => u (n.toNat * i.size + j)) (fun j hj => ?_) (fun j d hj => hd _ d (by simpa using hj)), trivial⟩
        · simp [Instr.indexAt, asIntOf, run_underlying ht, Instr.sureAddr, h0, hm, hte.sizeOf, Addr.add_lit]
        · have := hcell (n.toNat * i.size + j) (by simp at hj; omega)
          rwa [← Nat.add_assoc] at this
    · rename_i i o g j sz sub kk n hti
      have hte := hc.T.ok hti
      split at h <;> first | (cases h; done) | skip
      rename_i hcond
      obtain ⟨h0, hm⟩ := hcond
      injection h with h; subst h
      obtain rfl := VR_int hy
      cases hx with
      | pv _ _ _ _ _ _ hl hh =>
        obtain ⟨b, q, rfl⟩ := hl
        refine ⟨.pointer (some ⟨b, q + n.toNat * i.size, none⟩), ?_, .pv _ _ _ _ _ _ ⟨_, _, rfl⟩ fun mv fz e sz' els hob => ?_, hs⟩
        · simp [Instr.indexAt, asIntOf, run_underlying ht, Instr.sureAddr, h0, hm, hte.sizeOf, Addr.add_lit]
        · obtain ⟨rfl, hjl, he⟩ := hh _ _ _ _ _ hob
          refine ⟨rfl, hjl, ?_⟩
          unfold cellV at he ⊢
          split at he <;> simp only [Value.pointer.injEq, Option.some.injEq, Addr.mk.injEq, and_true, reduceCtorEq] at he ⊢
          obtain ⟨rfl, rfl⟩ := he
          exact ⟨rfl, by omega⟩
    · cases h
  · cases h
theorem run_indexF (hc : COk P c) {t : TypeId} {x y : AV} {u v : Value} {z : AV} (hx : VR w I μ ν s.ob x u) (hy : VR w I μ ν s.ob y v) (h : indexF c.T t x y = some z) :
    ∃ r, (Instr.index t u v).run P w = .ok r w ∧ VR w I μ ν s.ob z r ∧ z.sc s.ob := by
  unfold indexF at h
  split at h
  · rename_i sz by_ zz hi
    have ht := (hc.T.ok hi).str rfl
    split at h
    · rename_i b k n
      unfold byteF at h
      split at h <;> first | (cases h; done) | skip
      rename_i cc hget
      split at h <;> first | (cases h; done) | skip
      rename_i h0
      injection h with h; subst h
      obtain rfl := VR_str hx
      obtain rfl := VR_int hy
      refine ⟨.int .u8 cc.toNat, ?_, .d _ _ (.int _ _), trivial⟩
      have hg : b[n.toNat]? = some cc := by
        have hlt : n.toNat < b.size := (Array.getElem?_eq_some_iff.1 hget).1
        have h2 := (Array.getElem?_eq_some_iff.1 hget).2
        rw [getElem?_pos b n.toNat hlt, ← h2]; rfl
      simp [Instr.index, asIntOf, run_underlying ht, h0, hg]
    · cases h
  · cases h
end
end Go.Proofs.YtpooehcjchkbkaaV
/- Cuts, lengths, least and greatest, structs that are built. -/
set_option linter.unusedVariables false
set_option linter.unusedSimpArgs false
namespace Go.Proofs.YtpooehcjchkbkaaV
open Go.RowKit
theorem flat_append (a b : List D) : D.flat (a ++ b) = D.flat a ++ D.flat b := by simp [D.flat]
theorem flat_cut {els : List D} {sz : Nat} (hs : ∀ e ∈ els, e.cells.length = sz) {l h : Nat} (hl : l ≤ els.length) {j : Nat} {d : D} (hj : (D.flat ((els.take h).drop l))[j]? = some d) : (D.flat els)[l * sz + j]? = some d := by
  by_cases hlh : l ≤ h
  · have e : els = els.take l ++ ((els.take h).drop l ++ els.drop h) := by
      have h1 : els.take h = (els.take h).take l ++ (els.take h).drop l := (List.take_append_drop l _).symm
      rw [List.take_take, Nat.min_eq_left hlh] at h1
      rw [← List.append_assoc, ← h1, List.take_append_drop]
    rw [e, flat_append, flat_append]
    have hlen : (D.flat (els.take l)).length = l * sz := by
      rw [length_flat (sz := sz) fun x hx => hs x (List.mem_of_mem_take hx), List.length_take, Nat.min_eq_left hl]
    rw [List.getElem?_append_right (by omega), hlen, Nat.add_sub_cancel_left, List.getElem?_append_left (List.getElem?_eq_some_iff.1 hj).1]
    exact hj
  · have : (els.take h).drop l = [] := by
      apply List.drop_eq_nil_of_le
      rw [List.length_take]; omega
    rw [this] at hj
    simp [D.flat] at hj
section
variable {P : Program} {c : Ctx} {Z : Zst} {nt : Nat} {s : SS} {a : Act} {w : World} {I : Nat → Nat → Prop} {μ : Nat → Nat} {ν : Nat → Value}
theorem VRd_cut {els : List D} {A : Option Addr} {cp l h sz : Nat} (hA : els ≠ [] → VRd w I (.sl els) (.slice A els.length cp)) (hs : ∀ e ∈ els, e.cells.length = sz) (hl : l ≤ h) (hh : h ≤ els.length) (hc : els.length ≤ cp) :
    VRd w I (.sl ((els.take h).drop l)) (sliced A l h cp sz) := by
  have hlen : ((els.take h).drop l).length = h - l := by rw [List.length_drop, List.length_take]; omega
  unfold sliced
  rw [← hlen]
  by_cases hn : els = []
  · subst hn
    refine .sl _ _ _ 0 0 0 (fun _ => undef) (by simp) (by simp) (by simp) (fun j hj => by simp at hj) (fun j d hj => by simp [D.flat] at hj)
  · have hv := hA hn
    cases hv with
    | sl _ _ _ sz' b off u h1 h2 h3 h4 h5 =>
      have hsz : sz' = sz := by
        cases els with
        | nil => exact absurd rfl hn
        | cons e es => rw [← h2 e (by simp), hs e (by simp)]
      subst hsz
      have hA' := h3 hn
      subst hA'
      refine .sl _ _ _ sz' b (off + l * sz') (fun j => u (l * sz' + j)) (by rw [hlen]; omega) (fun e he => hs e (List.mem_of_mem_take (List.mem_of_mem_drop he))) (fun hne => ?_) (fun j hj => ?_) (fun j d hj => h5 _ d (flat_cut hs (by omega) hj))
      · have : cp ≠ l := by
          intro e
          apply hne
          apply List.eq_nil_of_length_eq_zero
          rw [hlen]; omega
        rw [if_neg this]
        simp [Addr.add_lit]
      · have hlt : l * sz' + j < els.length * sz' := by
          rw [hlen] at hj
          have : l * sz' + (h - l) * sz' ≤ els.length * sz' := by rw [← Nat.add_mul]; exact Nat.mul_le_mul_right _ (by omega)
          omega
        have := h4 _ hlt
        rwa [← Nat.add_assoc] at this
theorem sliced_like {A : Option Addr} {cp n l h sz : Nat} (hl : sliceLike n (.slice A n cp)) (h1 : l ≤ h) (h2 : h ≤ n) : sliceLike (h - l) (sliced A l h cp sz) := by
  obtain ⟨A', c', e, hc, hA⟩ := hl
  injection e with e1 _ e2
  subst e1; subst e2
  refine ⟨_, _, rfl, by omega, fun hp => ?_⟩
  obtain ⟨b, off, rfl⟩ := hA (by omega)
  rw [if_neg (by omega)]
  exact ⟨b, off + l * sz, by simp [Addr.add_lit]⟩
theorem view_cut {v0 : Value} {A : Option Addr} {cp lo hi l h sz : Nat} (hv : viewOk v0 lo hi sz (.slice A (hi - lo) cp)) (h0 : lo ≤ hi) (h1 : l ≤ h) (h2 : h ≤ hi - lo) : viewOk v0 (lo + l) (lo + h) sz (sliced A l h cp sz) := by
  obtain ⟨A0, n0, c0, A', e1, e2, e3, e4, e5⟩ := hv
  injection e2 with e6 _ e7
  subst e6; subst e7
  refine ⟨A0, n0, c0, (if c0 - lo = l then A else A.map (·.add (l * sz))), e1, ?_, by omega, fun hz => ?_, fun hlt => ?_⟩
  · unfold sliced
    congr 1 <;> omega
  · have : l = 0 := by omega
    subst this
    rw [e4 (by omega)]
    split
    · rfl
    · cases A0 <;> simp [Addr.add]
  · rw [if_neg (by omega), e5 (by omega)]
    cases A0 with
    | none => rfl
    | some a0 =>
      simp only [Option.map_some, Option.some.injEq]
      unfold Addr.add
      rw [Nat.add_mul]
      by_cases q1 : lo * sz = 0 <;> by_cases q2 : l * sz = 0 <;> simp [q1, q2, Nat.add_assoc]
theorem cut_bounds {n : Nat} {lo hi : Option AV} {l h : Nat} {lo' hi' : Option Value} (hlo : ∀ q, lo = some q → ∃ q', lo' = some q' ∧ VR w I μ ν s.ob q q') (hlo' : lo = none → lo' = none) (hhi : ∀ q, hi = some q → ∃ q', hi' = some q' ∧ VR w I μ ν s.ob q q') (hhi' : hi = none → hi' = none)
    (hc : cutF n lo hi = some (l, h)) : l ≤ h ∧ h ≤ n ∧ ((lo' = none ∧ l = 0) ∨ ∃ k q, lo' = some (.int k q) ∧ 0 ≤ q ∧ l = q.toNat) ∧ ((hi' = none ∧ h = n) ∨ ∃ k q, hi' = some (.int k q) ∧ 0 ≤ q ∧ h = q.toNat) := by
  unfold cutF at hc
  split at hc
  · injection hc with hc; injection hc with e1 e2; subst e1; subst e2
    exact ⟨Nat.zero_le _, Nat.le_refl _, .inl ⟨hlo' rfl, rfl⟩, .inl ⟨hhi' rfl, rfl⟩⟩
  · rename_i k q
    split at hc <;> first | (cases hc; done) | skip
    rename_i hb
    injection hc with hc; injection hc with e1 e2; subst e1; subst e2
    obtain ⟨q', e, hq⟩ := hlo _ rfl
    obtain rfl := VR_int hq
    exact ⟨by omega, Nat.le_refl _, .inr ⟨k, q, e, hb.1, rfl⟩, .inl ⟨hhi' rfl, rfl⟩⟩
  · rename_i k q
    split at hc <;> first | (cases hc; done) | skip
    rename_i hb
    injection hc with hc; injection hc with e1 e2; subst e1; subst e2
    obtain ⟨q', e, hq⟩ := hhi _ rfl
    obtain rfl := VR_int hq
    exact ⟨by omega, by omega, .inl ⟨hlo' rfl, rfl⟩, .inr ⟨k, q, e, hb.1, rfl⟩⟩
  · rename_i k q k' q2
    split at hc <;> first | (cases hc; done) | skip
    rename_i hb
    injection hc with hc; injection hc with e1 e2; subst e1; subst e2
    obtain ⟨q', e, hq⟩ := hlo _ rfl
    obtain rfl := VR_int hq
    obtain ⟨q3, e', hq'⟩ := hhi _ rfl
    obtain rfl := VR_int hq'
    exact ⟨by omega, by omega, .inr ⟨k, q, e, hb.1, rfl⟩, .inr ⟨k', q2, e', by omega, rfl⟩⟩
  · cases hc
theorem run_sliceF (hc : COk P c) {t : TypeId} {x : AV} {u : Value} {lo hi : Option AV} {lo' hi' : Option Value} {z : AV} (hs : x.sc s.ob) (hx : VR w I μ ν s.ob x u)
    (hlo : ∀ q, lo = some q → ∃ q', lo' = some q' ∧ VR w I μ ν s.ob q q') (hlo' : lo = none → lo' = none) (hhi : ∀ q, hi = some q → ∃ q', hi' = some q' ∧ VR w I μ ν s.ob q q') (hhi' : hi = none → hi' = none)
    (h : sliceF c.T t x lo hi = some z) : ∃ r, (Instr.sliceAt t u lo' hi' none).run P w = .ok r w ∧ VR w I μ ν s.ob z r ∧ z.sc s.ob := by
  unfold sliceF at h
  split at h
  · rename_i sz by_ zz hi_
    have ht := (hc.T.ok hi_).str rfl
    split at h
    · rename_i b
      obtain rfl := VR_str hx
      split at h <;> first | (cases h; done) | skip
      rename_i l h0 hcut
      injection h with h; subst h
      obtain ⟨b1, b2, b3, b4⟩ := cut_bounds hlo hlo' hhi hhi' hcut
      have base : (Instr.sliceBounds false b.size b.size lo' hi' none).run P w = .ok (l, h0, b.size) w → (Instr.sliceAt t (.string b) lo' hi' none).run P w = .ok (.string (b.extract l h0)) w := by
        intro hb
        simp [Instr.sliceAt, run_underlying ht, Instr.slice, hb]
      refine ⟨_, base ?_, .d _ _ (.str _), trivial⟩
      rcases b3 with ⟨rfl, rfl⟩ | ⟨k, q, rfl, q1, rfl⟩ <;> rcases b4 with ⟨rfl, rfl⟩ | ⟨k', q', rfl, q1', rfl⟩
      · simp [Instr.sliceBounds]
      · simp [Instr.sliceBounds, run_sliceBound, q1', show q' ≤ (b.size : Int) by omega]
      · simp [Instr.sliceBounds, run_sliceBound, q1, show q ≤ (b.size : Int) by omega]
      · simp only [Instr.sliceBounds, Sem.run_bind, Sem.run_pure, Result.andThen_ok, run_sliceBound w k' q' b.size _ q1' (by omega), run_sliceBound w k q q'.toNat _ q1 (by omega), Bool.false_eq_true, if_false, Option.isSome]
    · cases h
  · rename_i e sz by_ zz hi_
    have ht := (hc.T.ok hi_).slice rfl
    have ht' : P.underlying t = some (.slice (P.elem t)) := by simp [Program.elem, ht]
    have hel : P.elem t = e := by simp [Program.elem, ht]
    have any : ∀ (A : Option Addr) (n cp l h0 : Nat) (i : TyI), c.T.get e = some i → n ≤ cp → l ≤ h0 → h0 ≤ n → ((lo' = none ∧ l = 0) ∨ ∃ k q, lo' = some (.int k q) ∧ 0 ≤ q ∧ l = q.toNat) → ((hi' = none ∧ h0 = n) ∨ ∃ k q, hi' = some (.int k q) ∧ 0 ≤ q ∧ h0 = q.toNat) →
        (Instr.sliceAt t (.slice A n cp) lo' hi' none).run P w = .ok (sliced A l h0 cp i.size) w := by
      intro A n cp l h0 i hti hcp b1 b2 b3 b4
      have hte := hc.T.ok hti
      have hso : ∀ w, (sizeOf (P.elem t)).run P w = .ok i.size w := fun w => by rw [hel]; exact hte.sizeOf w
      rw [run_sliceAt_slice w t _ _ _ _ ht']
      rcases b3 with ⟨rfl, rfl⟩ | ⟨k, q, rfl, q1, rfl⟩ <;> rcases b4 with ⟨rfl, rfl⟩ | ⟨k', q', rfl, q1', rfl⟩
      · rw [run_slice_all w t A _ _ ht', hso]; rfl
      · rw [run_slice_h w t A _ _ ht' k' q' q1' (by omega), hso]; rfl
      · rw [run_slice_l w t A _ _ ht' k q q1 (by omega), hso]; rfl
      · rw [run_slice_lh w t A _ _ ht' k k' q q' q1 (by omega) (by omega), hso]; rfl
    split at h
    · rename_i o g sz' l0 h0
      split at h <;> first | (cases h; done) | skip
      rename_i i l h1 hti hcut
      split at h <;> first | (cases h; done) | skip
      rename_i hsz
      injection h with h; subst h
      obtain ⟨b1, b2, b3, b4⟩ := cut_bounds hlo hlo' hhi hhi' hcut
      cases hx with
      | vs _ _ _ _ _ _ hl hh =>
        obtain ⟨A, cp, rfl, hcp, hA⟩ := hl
        refine ⟨_, any A _ cp l h1 i hti hcp b1 b2 b3 b4, .vs _ _ _ _ _ _ ?_ fun mv fz e' sz2 els hob => ?_, hs⟩
        · rw [Nat.add_sub_add_left]
          exact sliced_like ⟨A, cp, rfl, hcp, hA⟩ b1 b2
        · obtain ⟨rfl, q1, q2, q3⟩ := hh _ _ _ _ _ hob
          refine ⟨rfl, by clear b3 b4; omega, by clear b3 b4; omega, ?_⟩
          rw [hsz]
          exact view_cut q3 q1 b1 b2
    · split at h <;> first | (cases h; done) | skip
      rename_i i els hti hels
      split at h <;> first | (cases h; done) | skip
      rename_i hsz
      split at h <;> first | (cases h; done) | skip
      rename_i l h1 hcut
      injection h with h; subst h
      obtain ⟨b1, b2, b3, b4⟩ := cut_bounds hlo hlo' hhi hhi' hcut
      obtain ⟨A, cp, rfl, hvd, hle⟩ := els_VR hels hx
      exact ⟨_, any A _ cp l h1 i hti hle b1 b2 b3 b4, .d _ _ (VRd_cut hvd (szAll_iff.1 hsz) b1 b2 hle), trivial⟩
  · cases h
theorem run_sliceN (hc : COk P c) {t : TypeId} {x : AV} {u : Value} {lo hi : Option AV} {lo' hi' : Option Value} {z : AV} (hx : VR w I μ ν s.ob x u)
    (hlo' : lo = none → lo' = none) (hhi : ∀ q, hi = some q → ∃ q', hi' = some q' ∧ VR w I μ ν s.ob q q')
    (h : sliceN c.T t x lo hi = some z) : ∃ r, (Instr.sliceAt t u lo' hi' none).run P w = .ok r w ∧ VR w I μ ν s.ob z r ∧ z.sc s.ob := by
  unfold sliceN at h
  split at h <;> first | (cases h; done) | skip
  rename_i e sz by_ zz k q hi_
  split at h <;> first | (cases h; done) | skip
  rename_i i hti
  split at h <;> first | (cases h; done) | skip
  rename_i hq0
  subst hq0
  injection h with h; subst h
  obtain rfl := VR_nils hx
  obtain ⟨q', rfl, hq⟩ := hhi _ rfl
  obtain rfl := VR_int hq
  obtain rfl := hlo' rfl
  have ht := (hc.T.ok hi_).slice rfl
  have ht' : P.underlying t = some (.slice (P.elem t)) := by simp [Program.elem, ht]
  have hel : P.elem t = e := by simp [Program.elem, ht]
  have hso : ∀ w, (sizeOf (P.elem t)).run P w = .ok i.size w := fun w => by rw [hel]; exact (hc.T.ok hti).sizeOf w
  refine ⟨.slice none 0 0, ?_, .d _ _ .nils, trivial⟩
  rw [run_sliceAt_slice w t _ _ _ _ ht', run_slice_h w t none _ _ ht' k 0 (by omega) (by omega), hso]
  rfl
theorem run_sliceX (hc : COk P c) {dd : Bool} {t : TypeId} {x : AV} {u : Value} {lo hi : Option AV} {lo' hi' : Option Value} {z : AV} (hs : x.sc s.ob) (hx : VR w I μ ν s.ob x u)
    (hlo : ∀ q, lo = some q → ∃ q', lo' = some q' ∧ VR w I μ ν s.ob q q') (hlo' : lo = none → lo' = none) (hhi : ∀ q, hi = some q → ∃ q', hi' = some q' ∧ VR w I μ ν s.ob q q') (hhi' : hi = none → hi' = none)
    (h : sliceX dd c.T t x lo hi = some z) : ∃ r, (Instr.sliceAt t u lo' hi' none).run P w = .ok r w ∧ VR w I μ ν s.ob z r ∧ z.sc s.ob := by
  unfold sliceX at h
  split at h
  · exact run_sliceN hc hx hlo' hhi h
  · exact run_sliceF hc hs hx hlo hlo' hhi hhi' h
theorem run_capF (hc : COk P c) {t ty : TypeId} {x : AV} {u : Value} {z : AV} (hx : VR w I μ ν s.ob x u) (h : capF c.T t x = some z) :
    ∃ r, (Builtin.cap_ #[t] ty #[u]).run P w = .ok r w ∧ VR w I μ ν s.ob z r ∧ z.sc s.ob := by
  unfold capF at h
  split at h <;> first | (cases h; done) | skip
  rename_i e sz by_ zz hi_
  injection h with h; subst h
  obtain rfl := VR_nils hx
  have ht := (hc.T.ok hi_).slice rfl
  exact ⟨.int .i64 0, by simp [Builtin.cap_, run_underlying ht, goInt], .d _ _ (.int _ _), trivial⟩
theorem isSl_VR {x : AV} {u : Value} (h : isSl x = true) (hx : VR w I μ ν s.ob x u) : ∃ A n cp, u = .slice A n cp := by
  unfold isSl at h
  split at h
  · cases hx with
    | vs _ _ _ _ _ _ hl hh => obtain ⟨A, cp, rfl, _⟩ := hl; exact ⟨_, _, _, rfl⟩
  · cases hx; exact ⟨_, _, _, rfl⟩
  · obtain ⟨els, he⟩ := Option.isSome_iff_exists.1 h
    obtain ⟨A, cp, rfl, _, _⟩ := els_VR he hx
    exact ⟨_, _, _, rfl⟩
theorem VRd_full {els : List D} {A : Option Addr} {cp k sz : Nat} (hA : els ≠ [] → VRd w I (.sl els) (.slice A els.length cp)) (hs : ∀ e ∈ els, e.cells.length = sz) (hk : k ≤ els.length) : VRd w I (.sl (els.take k)) (.slice A (els.take k).length (els.take k).length) := by
  have hlen : (els.take k).length = k := by rw [List.length_take]; omega
  by_cases hn : els = []
  · subst hn
    simp only [List.take_nil, List.length_nil]
    exact .sl [] A 0 0 0 0 (fun _ => undef) (by simp) (by simp) (by simp) (fun j hj => by simp at hj) (fun j d hj => by simp [D.flat] at hj)
  · have hv := hA hn
    cases hv with
    | sl _ _ _ sz' b off u h1 h2 h3 h4 h5 =>
      have hsz : sz' = sz := by
        cases els with
        | nil => exact absurd rfl hn
        | cons e es => rw [← h2 e (by simp), hs e (by simp)]
      subst hsz
      refine .sl _ _ _ sz' b off u (Nat.le_refl _) (fun e he => hs e (List.mem_of_mem_take he)) (fun _ => h3 hn) (fun j hj => h4 j ?_) (fun j d hj => h5 j d ?_)
      · rw [hlen] at hj
        exact Nat.lt_of_lt_of_le hj (Nat.mul_le_mul_right _ hk)
      · have := flat_cut (l := 0) (h := k) hs (by omega) (j := j) (d := d) (by simpa using hj)
        simpa using this
theorem run_slice3 (hc : COk P c) {t : TypeId} {mx' hi' : Value} {e : TypeId} {i : TyI} {A : Option Addr} {n cp k : Nat} {kk kk' : IntKind} (ht : P.underlying t = some (.slice e)) (hti : c.T.get e = some i) (hkc : k ≤ cp) (w : World) :
    (Instr.sliceAt t (.slice A n cp) none (some (.int kk (k : Int))) (some (.int kk' (k : Int)))).run P w = .ok (.slice A k k) w := by
  have ht' : P.underlying t = some (.slice (P.elem t)) := by simp [Program.elem, ht]
  have hel : P.elem t = e := by simp [Program.elem, ht]
  have hte := hc.T.ok hti
  have hb : ¬ ((k : Int) < 0 ∨ (cp : Int) < k) := by omega
  have hA0 : (A.map fun x => x.add 0) = A := by
    cases A with
    | none => rfl
    | some a => simp [Addr.add]
  rw [run_sliceAt_slice w t _ _ _ _ ht']
  by_cases hk0 : k = 0
  · subst hk0
    simp [Instr.slice, run_underlying ht, Instr.sliceBounds, run_sliceBound, hte.sizeOf]
  · simp [Instr.slice, run_underlying ht, Instr.sliceBounds, run_sliceBound, hte.sizeOf, hkc, hk0, hA0]
theorem run_slice3F (hc : COk P c) {t : TypeId} {x mx : AV} {u mx' : Value} {lo hi : Option AV} {lo' hi' : Option Value} {z : AV} (hx : VR w I μ ν s.ob x u) (hm : VR w I μ ν s.ob mx mx')
    (hlo' : lo = none → lo' = none) (hhi : ∀ q, hi = some q → ∃ q', hi' = some q' ∧ VR w I μ ν s.ob q q')
    (h : slice3F c.T t x lo hi mx = some z) : ∃ r, (Instr.sliceAt t u lo' hi' (some mx')).run P w = .ok r w ∧ VR w I μ ν s.ob z r ∧ z.sc s.ob := by
  unfold slice3F at h
  split at h <;> first | (cases h; done) | skip
  rename_i e sz by_ zz k hh k' m hi_
  have ht := (hc.T.ok hi_).slice rfl
  obtain ⟨q', rfl, hq⟩ := hhi _ rfl
  obtain rfl := VR_int hq
  obtain rfl := VR_int hm
  obtain rfl := hlo' rfl
  have nil0 : ∀ (A : Option Addr), VR w I μ ν s.ob (.fs []) (.slice A 0 0) := fun A => .fs [] A (.sl [] A 0 0 0 0 (fun _ => undef) (by simp) (by simp) (by simp) (fun j hj => by simp at hj) (fun j d hj => by simp [D.flat] at hj))
  split at h
  · rename_i i els hti hels
    obtain ⟨A, cp, rfl, hvd, hle⟩ := els_VR hels hx
    split at h
    · rename_i hcond
      obtain ⟨rfl, h0, h1, h2⟩ := hcond
      injection h with h; subst h
      have hkk : hh = ((hh.toNat : Nat) : Int) := by omega
      have hlen : (els.take hh.toNat).length = hh.toNat := by rw [List.length_take]; omega
      have hv := VRd_full hvd (szAll_iff.1 h2) h1
      refine ⟨.slice A hh.toNat hh.toNat, ?_, ?_, trivial⟩
      · rw [hkk]
        exact run_slice3 (mx' := .int .i64 0) (hi' := .int .i64 0) hc ht hti (Nat.le_trans h1 hle) w
      · have := VR.fs (μ := μ) (ν := ν) (ob := s.ob) (els.take hh.toNat) A hv
        rwa [hlen] at this
    · split at h <;> first | (cases h; done) | skip
      rename_i hz
      obtain ⟨rfl, rfl⟩ := hz
      injection h with h; subst h
      exact ⟨.slice A 0 0, run_slice3 (k := 0) (mx' := .int .i64 0) (hi' := .int .i64 0) hc ht hti (Nat.zero_le _) w, nil0 A, trivial⟩
  · rename_i i hti hels
    split at h <;> first | (cases h; done) | skip
    rename_i hz
    obtain ⟨rfl, rfl, hs⟩ := hz
    injection h with h; subst h
    obtain ⟨A, n, cp, rfl⟩ := isSl_VR hs hx
    exact ⟨.slice A 0 0, run_slice3 (k := 0) (mx' := .int .i64 0) (hi' := .int .i64 0) hc ht hti (Nat.zero_le _) w, nil0 A, trivial⟩
  · cases h
theorem run_lenF (hc : COk P c) (hr : Rel P Z nt s a w I μ ν) {t ty : TypeId} {x : AV} {u : Value} {z : AV} (hx : VR w I μ ν s.ob x u) (h : lenF c.T t x s.ob = some z) :
    ∃ r, (Builtin.len_ #[t] ty #[u]).run P w = .ok r w ∧ VR w I μ ν s.ob z r ∧ z.sc s.ob := by
  unfold lenF at h
  split at h
  · rename_i sz by_ zz hi_
    have ht := (hc.T.ok hi_).str rfl
    split at h
    · injection h with h; subst h
      obtain rfl := VR_str hx
      exact ⟨_, by simp [Builtin.len_, run_underlying ht, goInt], .d _ _ (.int _ _), trivial⟩
    · cases h
  · rename_i e sz by_ zz hi_
    have ht := (hc.T.ok hi_).slice rfl
    split at h
    · injection h with h; subst h
      cases hx with
      | vs _ _ _ _ _ _ hl hh =>
        obtain ⟨A, cp, rfl, hcp, hA⟩ := hl
        exact ⟨_, by simp [Builtin.len_, run_underlying ht, goInt], .d _ _ (.int _ _), trivial⟩
    · injection h with h; subst h
      cases hx
      exact ⟨_, by simp [Builtin.len_, run_underlying ht, goInt], .d _ _ (.int _ _), trivial⟩
    · split at h <;> first | (cases h; done) | skip
      rename_i els hels
      injection h with h; subst h
      obtain ⟨A, cp, rfl, _, _⟩ := els_VR hels hx
      exact ⟨_, by simp [Builtin.len_, run_underlying ht, goInt], .d _ _ (.int _ _), trivial⟩
  · rename_i k e sz by_ zz hi_
    have ht := (hc.T.ok hi_).map rfl
    split at h
    · injection h with h; subst h
      cases hx
      exact ⟨_, by simp [Builtin.len_, run_underlying ht, goInt], .d _ _ (.int _ _), trivial⟩
    · rename_i o
      have ho := hr.os o
      unfold mapLen at h
      split at h
      · rename_i es hob
        rw [hob] at ho
        injection h with h; subst h
        obtain ⟨ents, h1, h2, _⟩ := ho
        cases hx
        refine ⟨_, ?_, .d _ _ (.int _ _), trivial⟩
        simp [Builtin.len_, run_underlying ht, goInt, getObj, Sem.run, h1, h2]
      · rename_i es bs ck hob
        rw [hob] at ho
        injection h with h; subst h
        obtain ⟨ents, h1, h2, _⟩ := ho
        cases hx
        refine ⟨_, ?_, .d _ _ (.int _ _), trivial⟩
        simp [Builtin.len_, run_underlying ht, goInt, getObj, Sem.run, h1, h2]
      · cases h
    · cases h
  · cases h
theorem run_mmFrom {f : Int → Int → Int} {g : Value → Value → Sem Value} (hg : ∀ k a k' b w, (g (.int k a) (.int k' b)).run P w = .ok (.int k (f a b)) w) {k : IntKind} : ∀ {xs : List AV} {us : List Value} {a : Int} {z : AV},
    xs.length = us.length → (∀ (i : Nat) (x : AV) (u : Value), xs[i]? = some x → us[i]? = some u → VR w I μ ν s.ob x u) → mmFrom f k a xs = some z → ∃ r, (us.foldlM g (.int k a)).run P w = .ok r w ∧ VR w I μ ν s.ob z r ∧ z.sc s.ob
  | [], [], a, z, _, _, h => by
    simp only [mmFrom, Option.some.injEq] at h
    subst h
    exact ⟨_, by simp, .d _ _ (.int _ _), trivial⟩
  | [], _ :: _, _, _, hl, _, _ => by simp at hl
  | _ :: _, [], _, _, hl, _, _ => by simp at hl
  | x :: xs, u :: us, a, z, hl, hv, h => by
    unfold mmFrom at h
    split at h
    · rename_i e; cases e
    · rename_i k' b rest e
      injection e with e1 e2
      subst e1; subst e2
      obtain rfl := VR_int (hv 0 _ _ rfl rfl)
      obtain ⟨r, h1, h2⟩ := run_mmFrom hg (by simpa using hl) (fun i y v hy hu => hv (i + 1) y v (by simpa using hy) (by simpa using hu)) h
      exact ⟨r, by simp [hg, h1], h2⟩
    · cases h
theorem run_mmF {f : Int → Int → Int} {g : Value → Value → Sem Value} (hg : ∀ k a k' b w, (g (.int k a) (.int k' b)).run P w = .ok (.int k (f a b)) w) {xs : List AV} {us : List Value} {z : AV}
    (hl : xs.length = us.length) (hv : ∀ (i : Nat) (x : AV) (u : Value), xs[i]? = some x → us[i]? = some u → VR w I μ ν s.ob x u) (h : mmF f xs = some z) :
    ∃ k a us' r, us = .int k a :: us' ∧ (us'.foldlM g (.int k a)).run P w = .ok r w ∧ VR w I μ ν s.ob z r ∧ z.sc s.ob := by
  unfold mmF at h
  split at h
  · rename_i k a rest
    cases us with
    | nil => simp at hl
    | cons u us =>
      obtain rfl := VR_int (hv 0 _ _ rfl rfl)
      obtain ⟨r, h1, h2⟩ := run_mmFrom hg (by simpa using hl) (fun i y v hy hu => hv (i + 1) y v (by simpa using hy) (by simpa using hu)) h
      exact ⟨k, a, us, r, rfl, h1, h2⟩
  · cases h
theorem take_set_succ {l : List Value} {i : Nat} {v : Value} (h : i < l.length) : (l.set i v).take (i + 1) = l.take i ++ [v] := by
  rw [List.take_succ_eq_append_getElem (by simpa using h), List.take_set_of_le (Nat.le_refl _)]
  simp
theorem fold_set (off : Nat) : ∀ (vs : List Value) (k : Nat) (cells : Array Value), off + k + vs.length ≤ cells.size →
    ((vs.zipIdx k).foldl (fun (cs : Array Value) (x : Value × Nat) => cs.setIfInBounds (off + x.2) x.1) cells).toList = cells.toList.take (off + k) ++ vs ++ cells.toList.drop (off + k + vs.length)
  | [], k, cells, _ => by simp
  | v :: vs, k, cells, h => by
    have hlt : off + k < cells.size := by simp at h; omega
    rw [List.zipIdx_cons, List.foldl_cons, fold_set off vs (k + 1) (cells.setIfInBounds (off + k) v) (by simp at h ⊢; omega)]
    rw [Array.toList_setIfInBounds, show off + (k + 1) = off + k + 1 by omega, take_set_succ (by simpa using hlt), List.drop_set_of_lt (by omega)]
    simp [Nat.add_assoc, Nat.add_comm 1]
theorem cells_toD {x : AV} {d : D} {u : Value} (h : x.toD = some d) (hv : VR w I μ ν s.ob x u) : ∃ us : List Value, u.cells.toList = us ∧ us.length = d.cells.length ∧ (∀ (i : Nat) (c : D) (v : Value), d.cells[i]? = some c → us[i]? = some v → VRd w I c v) ∧ ∀ v ∈ us, v.oneCell' = true := by
  have hd := toD_VR h hv
  have one : ∀ {d : D} {u : Value}, VRd w I d u → d.cells = [d] → u.cells = #[u] → u.oneCell' = true → ∃ us : List Value, u.cells.toList = us ∧ us.length = d.cells.length ∧ (∀ (i : Nat) (c : D) (v : Value), d.cells[i]? = some c → us[i]? = some v → VRd w I c v) ∧ ∀ v ∈ us, v.oneCell' = true := by
    intro d u hd h1 h2 h3
    refine ⟨[u], by rw [h2], by rw [h1]; rfl, fun i c v hc hv => ?_, by simpa using h3⟩
    rw [h1] at hc
    cases i with
    | zero => simp at hc hv; subst hc; subst hv; exact hd
    | succ i => simp at hc
  cases hd with
  | int k n => exact one (.int k n) rfl rfl rfl
  | bool b => exact one (.bool b) rfl rfl rfl
  | str b => exact one (.str b) rfl rfl rfl
  | nils => exact one .nils rfl rfl rfl
  | agg cs vs hl h1 hp => exact ⟨vs, rfl, hl.symm, hp, h1⟩
  | sl els A cp sz b off u h1 h2 h3 h4 h5 => exact one (.sl els A cp sz b off u h1 h2 h3 h4 h5) rfl rfl rfl
theorem splice_VR {α : Type} {R : α → Value → Prop} {cs ds : List α} {vs us : List Value} {k : Nat} (hl : cs.length = vs.length) (hd : ds.length = us.length) (hk : k + ds.length ≤ cs.length)
    (h : ∀ (i : Nat) (c : α) (v : Value), cs[i]? = some c → vs[i]? = some v → R c v) (h' : ∀ (i : Nat) (c : α) (v : Value), ds[i]? = some c → us[i]? = some v → R c v) :
    (cs.take k ++ ds ++ cs.drop (k + ds.length)).length = (vs.take k ++ us ++ vs.drop (k + us.length)).length ∧
    ∀ (i : Nat) (c : α) (v : Value), (cs.take k ++ ds ++ cs.drop (k + ds.length))[i]? = some c → (vs.take k ++ us ++ vs.drop (k + us.length))[i]? = some v → R c v := by
  refine ⟨by simp; omega, fun i c v hc hv => ?_⟩
  rw [List.append_assoc] at hc hv
  by_cases h1 : i < k
  · rw [List.getElem?_append_left (by simp; omega), List.getElem?_take, if_pos h1] at hc hv
    exact h i c v hc hv
  · rw [List.getElem?_append_right (by simp; omega)] at hc hv
    have e1 : (cs.take k).length = k := by simp; omega
    have e2 : (vs.take k).length = k := by simp; omega
    rw [e1] at hc
    rw [e2] at hv
    by_cases h2 : i - k < ds.length
    · rw [List.getElem?_append_left (by omega)] at hc hv
      exact h' _ c v hc hv
    · rw [List.getElem?_append_right (by omega), List.getElem?_drop] at hc hv
      rw [← hd] at hv
      exact h _ c v hc hv
theorem run_fillF {fs : List (Nat × TypeId × Nat)} : ∀ {parts : List (Nat × AV)} {us : List (Nat × Value)} {cells : List D} {vs : Array Value} {z : List D}, parts.length = us.length →
    (∀ (i : Nat) (p : Nat × AV) (u : Nat × Value), parts[i]? = some p → us[i]? = some u → p.1 = u.1 ∧ VR w I μ ν s.ob p.2 u.2) →
    cells.length = vs.size → (∀ (i : Nat) (c : D) (v : Value), cells[i]? = some c → vs.toList[i]? = some v → VRd w I c v) → (∀ v ∈ vs.toList, v.oneCell' = true) → fillF fs cells parts = some z →
    ∃ r, Instr.fill (fun i => (fs[i]?).map fun f => (f.1, f.2.2)) vs us = some r ∧ z.length = r.size ∧ (∀ (i : Nat) (c : D) (v : Value), z[i]? = some c → r.toList[i]? = some v → VRd w I c v) ∧ ∀ v ∈ r.toList, v.oneCell' = true
  | [], [], cells, vs, z, _, _, hl, hv, h1, h => by
    simp only [fillF, Option.some.injEq] at h
    subst h
    exact ⟨vs, rfl, hl, hv, h1⟩
  | [], _ :: _, _, _, _, h, _, _, _, _, _ => by simp at h
  | _ :: _, [], _, _, _, h, _, _, _, _, _ => by simp at h
  | (i, x) :: ps, (j, u) :: us, cells, vs, z, hl, hp, hcl, hv, h1, h => by
    obtain ⟨hij, hxu⟩ := hp 0 _ _ rfl rfl
    simp only at hij hxu
    subst hij
    simp only [fillF] at h
    split at h
    · rename_i off ft n d hpl hd
      split at h <;> first | (cases h; done) | skip
      rename_i hcond
      obtain ⟨hn, hfit⟩ := hcond
      obtain ⟨ul, e1, e2, e3, e4⟩ := cells_toD hd hxu
      have hus : u.cells.size = n := by rw [← Array.length_toList, e1, e2, hn]
      have hset : (u.cells.zipIdx.foldl (fun (cs : Array Value) (x : Value × Nat) => cs.setIfInBounds (off + x.2) x.1) vs).toList = vs.toList.take off ++ ul ++ vs.toList.drop (off + ul.length) := by
        have := fold_set off ul 0 vs (by rw [e2, hn]; omega)
        rw [← e1] at this ⊢
        rw [← Array.foldl_toList, Array.toList_zipIdx]
        simpa using this
      subst hn
      obtain ⟨s1, s2⟩ := splice_VR (R := VRd w I) (cs := cells) (ds := d.cells) (vs := vs.toList) (us := ul) (k := off) (by simpa using hcl) e2.symm hfit hv e3
      have hnew1 : ∀ v ∈ (u.cells.zipIdx.foldl (fun (cs : Array Value) (x : Value × Nat) => cs.setIfInBounds (off + x.2) x.1) vs).toList, v.oneCell' = true := by
        rw [hset]
        intro v hvm
        rcases List.mem_append.1 hvm with hvm | hvm
        · rcases List.mem_append.1 hvm with hvm | hvm
          · exact h1 v (List.mem_of_mem_take hvm)
          · exact e4 v hvm
        · exact h1 v (List.mem_of_mem_drop hvm)
      obtain ⟨r, r1, r2⟩ := run_fillF (fs := fs) (parts := ps) (us := us) (cells := cells.take off ++ d.cells ++ cells.drop (off + d.cells.length)) (vs := u.cells.zipIdx.foldl (fun (cs : Array Value) (x : Value × Nat) => cs.setIfInBounds (off + x.2) x.1) vs) (z := z)
        (by simpa using hl) (fun i p u hp' hu' => hp (i + 1) p u (by simpa using hp') (by simpa using hu')) (by rw [← Array.length_toList, hset]; exact s1) (by rw [hset]; exact s2) hnew1 h
      refine ⟨r, ?_, r2⟩
      simp only [Instr.fill, hpl, Option.map_some]
      have hc : ¬ ((u.cells.size ≠ d.cells.length || off + u.cells.size > vs.size) = true) := by
        simp [hus]; omega
      rw [if_neg (by simpa using hc)]
      exact r1
    · cases h
theorem lits_VR : ∀ {vs : List Value} {xs : List AV}, litsEq vs xs = true → vs.length = xs.length ∧ (∀ v ∈ vs, v.oneCell' = true) ∧ (∀ x ∈ xs, x.sc0 s.ob ∧ x.one = true) ∧ ∀ (i : Nat) (x : AV) (v : Value), xs[i]? = some x → vs[i]? = some v → VR w I μ ν s.ob x v
  | [], [], _ => ⟨rfl, by simp, by simp, by simp⟩
  | [], _ :: _, h => by simp [litsEq] at h
  | _ :: _, [], h => by simp [litsEq] at h
  | v :: vs, x :: xs, h => by
    simp only [litsEq, Bool.and_eq_true] at h
    obtain ⟨h1, h2, h3, h4⟩ := lits_VR h.2
    have key : VR w I μ ν s.ob x v ∧ v.oneCell' = true ∧ x.sc0 s.ob ∧ x.one = true := by
      have h0 := h.1
      unfold litEq at h0
      split at h0 <;> simp only [Bool.and_eq_true, beq_iff_eq, decide_eq_true_eq, Bool.false_eq_true] at h0
      · obtain ⟨rfl, rfl⟩ := h0; exact ⟨.d _ _ (.int _ _), rfl, trivial, rfl⟩
      · subst h0; exact ⟨.d _ _ (.bool _), rfl, trivial, rfl⟩
      · rename_i a b
        have : a = b := by
          obtain ⟨⟨a⟩⟩ := a
          obtain ⟨⟨b⟩⟩ := b
          obtain ⟨h1, h2⟩ := h0
          simp [ByteArray.size] at h1 h2
          subst h1; subst h2; rfl
        subst this; exact ⟨.d _ _ (.str _), rfl, trivial, rfl⟩
      · obtain ⟨rfl, rfl⟩ := h0; exact ⟨.d _ _ .nils, rfl, trivial, rfl⟩
      · exact ⟨.nilm, rfl, trivial, rfl⟩
      · exact ⟨.nilp, rfl, trivial, rfl⟩
      · exact ⟨.nilf, rfl, trivial, rfl⟩
    refine ⟨by simp [h1], ?_, ?_, fun i y u hy hu => ?_⟩
    · intro u hu
      rcases List.mem_cons.1 hu with rfl | hu
      · exact key.2.1
      · exact h2 u hu
    · intro y hy
      rcases List.mem_cons.1 hy with rfl | hy
      · exact key.2.2
      · exact h3 y hy
    · cases i with
      | zero => simp at hy hu; subst hy; subst hu; exact key.1
      | succ i => exact h4 i y u (by simpa using hy) (by simpa using hu)
theorem places_of {fs : List Field} {gs : List (Nat × TypeId × Nat)} (h : fieldsEq P fs gs = true) : fs.mapM (fun f => (P.info? f.type).map fun i => (f.offset, i.size)) = some (gs.map fun g => (g.1, g.2.2)) := by
  induction gs generalizing fs with
  | nil =>
    cases fs with
    | nil => rfl
    | cons f fs => simp [fieldsEq] at h
  | cons g gs ih =>
    obtain ⟨o1, t1, n1⟩ := g
    cases fs with
    | nil => simp [fieldsEq] at h
    | cons f fs =>
      simp only [fieldsEq, Bool.and_eq_true, beq_iff_eq, bne_iff_ne] at h
      obtain ⟨⟨⟨⟨h1, h2⟩, h3⟩, h4⟩, h5⟩ := h
      have := ih h5
      cases hq : P.info? t1 with
      | none => simp [hq] at h4
      | some fi =>
        simp [hq] at h4
        simp [List.mapM_cons, h2, hq, this, h1, h4]
theorem fill_mono {f g : Nat → Option (Nat × Nat)} (hfg : ∀ i p, f i = some p → g i = some p) : ∀ (us : List (Nat × Value)) (cs r : Array Value), Instr.fill f cs us = some r → Instr.fill g cs us = some r
  | [], cs, r, h => h
  | (i, v) :: us, cs, r, h => by
    simp only [Instr.fill] at h ⊢
    cases hf : f i with
    | none => rw [hf] at h; cases h
    | some p =>
      obtain ⟨off, sz⟩ := p
      rw [hf] at h
      rw [hfg i _ hf]
      simp only at h ⊢
      split at h
      · cases h
      · rename_i hn
        rw [if_neg hn]
        exact fill_mono hfg us _ r h
end
end Go.Proofs.YtpooehcjchkbkaaV
/- Operations that lay an object or turn one. -/
set_option linter.unusedVariables false
set_option linter.unusedSimpArgs false
namespace Go.Proofs.YtpooehcjchkbkaaV
open Go.RowKit
section
variable {P : Program} {c : Ctx} {Z : Zst} {nt : Nat} {s : SS} {a : Act} {w : World} {I : Nat → Nat → Prop} {μ : Nat → Nat} {ν : Nat → Value}
theorem cells_d (x : D) : (AV.d x).cells = x.cells.map .d := by cases x <;> rfl
theorem cellsAV_VR {y : AV} {u : Value} (h : y.cells.all AV.one = true) (hv : VR w I μ ν s.ob y u) (hs : y.sc s.ob) :
    ∃ us : List Value, u.cells.toList = us ∧ us.length = y.cells.length ∧ (∀ (i : Nat) (c : AV) (v : Value), y.cells[i]? = some c → us[i]? = some v → VR w I μ ν s.ob c v) ∧ (∀ v ∈ us, v.oneCell' = true) ∧ ∀ c ∈ y.cells, c.sc0 s.ob := by
  have one : ∀ {y : AV} {u : Value}, VR w I μ ν s.ob y u → y.cells = [y] → u.cells = #[u] → u.oneCell' = true → y.sc0 s.ob →
      ∃ us : List Value, u.cells.toList = us ∧ us.length = y.cells.length ∧ (∀ (i : Nat) (c : AV) (v : Value), y.cells[i]? = some c → us[i]? = some v → VR w I μ ν s.ob c v) ∧ (∀ v ∈ us, v.oneCell' = true) ∧ ∀ c ∈ y.cells, c.sc0 s.ob := by
    intro y u hv h1 h2 h3 h4
    refine ⟨[u], by rw [h2], by rw [h1]; rfl, fun i c v hc hu => ?_, by simpa using h3, by rw [h1]; simpa using h4⟩
    rw [h1] at hc
    cases i with
    | zero => simp at hc hu; subst hc; subst hu; exact hv
    | succ i => simp at hc
  cases y with
  | d x =>
    obtain ⟨us, h1, h2, h3, h4⟩ := cells_toD (s := s) (x := .d x) (d := x) rfl hv
    rw [cells_d]
    refine ⟨us, h1, by simpa using h2, fun i c v hc hu => ?_, h4, fun c hc => ?_⟩
    · rw [List.getElem?_map] at hc
      cases hx : x.cells[i]? with
      | none => simp [hx] at hc
      | some d => simp [hx] at hc; subst hc; exact .d _ _ (h3 i d v hx hu)
    · obtain ⟨d, _, rfl⟩ := List.mem_map.1 hc; trivial
  | ptr o off => cases hv; exact one (.ptr o off) rfl rfl rfl hs
  | ep cs => cases hv with | ep _ b off u h1 h2 => exact one (.ep cs b off u h1 h2) rfl rfl rfl trivial
  | vs o g sz lo hi =>
    cases hv with | vs _ _ _ _ _ _ h1 h2 =>
      obtain ⟨A, c, rfl, h3⟩ := h1
      exact one (.vs o g sz lo hi _ ⟨A, c, rfl, h3⟩ h2) rfl rfl rfl hs
  | pv o g j sz sub =>
    cases hv with | pv _ _ _ _ _ _ h1 h2 =>
      obtain ⟨b, q, rfl⟩ := h1
      exact one (.pv o g j sz sub _ ⟨b, q, rfl⟩ h2) rfl rfl rfl hs
  | mp o => cases hv; exact one (.mp o) rfl rfl rfl hs
  | nilm => cases hv; exact one .nilm rfl rfl rfl trivial
  | nilp => cases hv; exact one .nilp rfl rfl rfl trivial
  | fn g x y => cases hv; exact one (.fn g x y) rfl rfl rfl hs
  | nilf => cases hv; exact one .nilf rfl rfl rfl trivial
  | fs els => cases hv with | fs _ A hd => exact one (.fs els A hd) rfl rfl rfl trivial
  | tup l => simp [AV.cells, AV.one] at h
  | agv l =>
    cases hv with
    | agv _ vs hl hp h1 => exact ⟨vs, by simp [Value.cells], by simpa [AV.cells] using hl.symm, hp, h1, hs⟩
  | it o => cases hv; exact one (.it o) rfl rfl rfl hs
  | yl o => cases hv; exact one (.yl o) rfl rfl rfl hs
  | junk => simp [AV.cells, AV.one] at h
theorem run_fillV {fs : List (Nat × TypeId × Nat)} : ∀ {parts : List (Nat × AV)} {us : List (Nat × Value)} {cells : List AV} {vs : Array Value} {z : List AV}, parts.length = us.length →
    (∀ (i : Nat) (p : Nat × AV) (u : Nat × Value), parts[i]? = some p → us[i]? = some u → p.1 = u.1 ∧ VR w I μ ν s.ob p.2 u.2) → (∀ p ∈ parts, p.2.sc s.ob) →
    cells.length = vs.size → (∀ (i : Nat) (c : AV) (v : Value), cells[i]? = some c → vs.toList[i]? = some v → VR w I μ ν s.ob c v) → (∀ v ∈ vs.toList, v.oneCell' = true) → (∀ c ∈ cells, c.sc0 s.ob) → fillV fs cells parts = some z →
    ∃ r, Instr.fill (fun i => (fs[i]?).map fun f => (f.1, f.2.2)) vs us = some r ∧ z.length = r.size ∧ (∀ (i : Nat) (c : AV) (v : Value), z[i]? = some c → r.toList[i]? = some v → VR w I μ ν s.ob c v) ∧ (∀ v ∈ r.toList, v.oneCell' = true) ∧ ∀ c ∈ z, c.sc0 s.ob
  | [], [], cells, vs, z, _, _, _, hl, hv, h1, h0, h => by
    simp only [fillV, Option.some.injEq] at h
    subst h
    exact ⟨vs, rfl, hl, hv, h1, h0⟩
  | [], _ :: _, _, _, _, h, _, _, _, _, _, _, _ => by simp at h
  | _ :: _, [], _, _, _, h, _, _, _, _, _, _, _ => by simp at h
  | (i, x) :: ps, (j, u) :: us, cells, vs, z, hl, hp, hsc, hcl, hv, h1, h0, h => by
    obtain ⟨hij, hxu⟩ := hp 0 _ _ rfl rfl
    simp only at hij hxu
    subst hij
    simp only [fillV] at h
    split at h
    · rename_i off ft n hpl
      split at h <;> first | (cases h; done) | skip
      rename_i hcond
      obtain ⟨hn, hfit, hone⟩ := hcond
      obtain ⟨ul, e1, e2, e3, e4, e5⟩ := cellsAV_VR (s := s) hone hxu (hsc (i, x) (by simp))
      have hus : u.cells.size = n := by rw [← Array.length_toList, e1, e2, hn]
      have hset : (u.cells.zipIdx.foldl (fun (cs : Array Value) (x : Value × Nat) => cs.setIfInBounds (off + x.2) x.1) vs).toList = vs.toList.take off ++ ul ++ vs.toList.drop (off + ul.length) := by
        have := fold_set off ul 0 vs (by rw [e2, hn]; omega)
        rw [← e1] at this ⊢
        rw [← Array.foldl_toList, Array.toList_zipIdx]
        simpa using this
      subst hn
      obtain ⟨s1, s2⟩ := splice_VR (R := VR w I μ ν s.ob) (cs := cells) (ds := x.cells) (vs := vs.toList) (us := ul) (k := off) (by simpa using hcl) e2.symm hfit hv e3
      have hnew1 : ∀ v ∈ (u.cells.zipIdx.foldl (fun (cs : Array Value) (x : Value × Nat) => cs.setIfInBounds (off + x.2) x.1) vs).toList, v.oneCell' = true := by
        rw [hset]
        intro v hvm
        rcases List.mem_append.1 hvm with hvm | hvm
        · rcases List.mem_append.1 hvm with hvm | hvm
          · exact h1 v (List.mem_of_mem_take hvm)
          · exact e4 v hvm
        · exact h1 v (List.mem_of_mem_drop hvm)
      have hnew0 : ∀ c ∈ cells.take off ++ x.cells ++ cells.drop (off + x.cells.length), c.sc0 s.ob := by
        intro c hcm
        rcases List.mem_append.1 hcm with hcm | hcm
        · rcases List.mem_append.1 hcm with hcm | hcm
          · exact h0 c (List.mem_of_mem_take hcm)
          · exact e5 c hcm
        · exact h0 c (List.mem_of_mem_drop hcm)
      obtain ⟨r, r1, r2⟩ := run_fillV (fs := fs) (parts := ps) (us := us) (cells := cells.take off ++ x.cells ++ cells.drop (off + x.cells.length)) (vs := u.cells.zipIdx.foldl (fun (cs : Array Value) (x : Value × Nat) => cs.setIfInBounds (off + x.2) x.1) vs) (z := z)
        (by simpa using hl) (fun i p u hp' hu' => hp (i + 1) p u (by simpa using hp') (by simpa using hu')) (fun p hp' => hsc p (by simp [hp'])) (by rw [← Array.length_toList, hset]; exact s1) (by rw [hset]; exact s2) hnew1 hnew0 h
      refine ⟨r, ?_, r2⟩
      simp only [Instr.fill, hpl, Option.map_some]
      have hc : ¬ ((u.cells.size ≠ x.cells.length || off + u.cells.size > vs.size) = true) := by
        simp [hus]; omega
      rw [if_neg (by simpa using hc)]
      exact r1
    · cases h
theorem run_buildF (hc : COk P c) {t : TypeId} {parts : List (Nat × AV)} {us : Array (Nat × Value)} {z : AV} (hl : parts.length = us.size)
    (hp : ∀ (i : Nat) (p : Nat × AV) (u : Nat × Value), parts[i]? = some p → us.toList[i]? = some u → p.1 = u.1 ∧ VR w I μ ν s.ob p.2 u.2) (hsc : ∀ p ∈ parts, p.2.sc s.ob) (h : buildF c.T t parts = some z) :
    ∃ r, (Instr.build t us).run P w = .ok r w ∧ VR w I μ ν s.ob z r ∧ z.sc s.ob := by
  unfold buildF at h
  split at h
  · rename_i fs sz by_ zz hi_
    have ht := hc.T.ok hi_
    obtain ⟨fl, hu, hf⟩ := ht.struct rfl
    obtain ⟨fi, g1, g2, g3, zv, g4, g5, _⟩ := ht.info
    split at h
    · rename_i zs hzs
      obtain ⟨l1, l2, l3, l4⟩ := lits_VR (w := w) (I := I) (μ := μ) (ν := ν) (s := s) g5
      obtain ⟨t1, t2⟩ := toDs_get hzs
      split at h <;> first | (cases h; done) | skip
      rename_i cs hcs
      injection h with hz
      obtain ⟨r, r1, r2, r3, r4⟩ := run_fillF (w := w) (I := I) (μ := μ) (ν := ν) (s := s) (us := us.toList) (vs := zv.cells) (by simpa using hl) hp (by rw [t1, ← l1]; simp) (fun i d v hd hv => by
        obtain ⟨x, hx, hxd⟩ := t2 i d hd
        exact toD_VR hxd (l4 i x v hx hv)) l2 hcs
      refine ⟨.agg r, run_build w t us r ?_, ?_, by rw [← hz]; trivial⟩
      · unfold Program.built
        simp only [g1, hu, g4, places_of hf]
        rw [← r1]
        congr 1
        funext i
        simp
      · rw [← hz]
        have := VRd.agg (w := w) (I := I) cs r.toList (by simpa using r2) r4 r3
        simpa using VR.d (μ := μ) (ν := ν) (ob := s.ob) _ _ this
    · split at h <;> first | (cases h; done) | skip
      rename_i cs hcs
      injection h with hz
      obtain ⟨l1, l2, l3, l4⟩ := lits_VR (w := w) (I := I) (μ := μ) (ν := ν) (s := s) g5
      obtain ⟨r, r1, r2, r3, r4, r5⟩ := run_fillV (w := w) (I := I) (μ := μ) (ν := ν) (s := s) (us := us.toList) (vs := zv.cells) (by simpa using hl) hp hsc (by rw [← l1]; simp) l4 l2 (fun x hx => (l3 x hx).1) hcs
      refine ⟨.agg r, run_build w t us r ?_, ?_, by rw [← hz]; exact r5⟩
      · unfold Program.built
        simp only [g1, hu, g4, places_of hf]
        rw [← r1]
        congr 1
        funext i
        simp
      · rw [← hz]
        have := VR.agv (w := w) (I := I) (μ := μ) (ν := ν) (ob := s.ob) cs r.toList (by simpa using r2) r3 r4
        simpa using this
  · rename_i n e sz by_ zz hi_
    have ht := hc.T.ok hi_
    have hu := ht.arr rfl
    obtain ⟨fi, g1, g2, g3, zv, g4, g5, _⟩ := ht.info
    split at h
    · rename_i i zs hie hzs
      have hte := hc.T.ok hie
      obtain ⟨fe, e1, e2, _⟩ := hte.info
      obtain ⟨l1, l2, l3, l4⟩ := lits_VR (w := w) (I := I) (μ := μ) (ν := ν) (s := s) g5
      obtain ⟨t1, t2⟩ := toDs_get hzs
      split at h <;> first | (cases h; done) | skip
      rename_i cs hcs
      injection h with hz
      obtain ⟨r, r1, r2, r3, r4⟩ := run_fillF (w := w) (I := I) (μ := μ) (ν := ν) (s := s) (us := us.toList) (vs := zv.cells) (by simpa using hl) hp (by rw [t1, ← l1]; simp) (fun i d v hd hv => by
        obtain ⟨x, hx, hxd⟩ := t2 i d hd
        exact toD_VR hxd (l4 i x v hx hv)) l2 hcs
      have r1' : Instr.fill (fun j => some (j * i.size, i.size)) zv.cells us.toList = some r := fill_mono (fun j p hj => by
        simp only [arrFs, List.getElem?_map, Option.map_map] at hj
        cases hq : (List.range n)[j]? with
        | none => rw [hq] at hj; cases hj
        | some q =>
          rw [hq] at hj
          obtain ⟨_, hq'⟩ := List.getElem?_eq_some_iff.1 hq
          simp at hq'
          subst hq'
          simpa using hj) _ _ _ r1
      refine ⟨.agg r, ?_, ?_, by rw [← hz]; trivial⟩
      · simp [Instr.build, zeroValue, typeInfo, g1, g4, run_underlying hu, sizeOf, e1, e2, r1']
      · rw [← hz]
        have := VRd.agg (w := w) (I := I) cs r.toList (by simpa using r2) r4 r3
        simpa using VR.d (μ := μ) (ν := ν) (ob := s.ob) _ _ this
    · cases h
  · cases h
theorem goes_new {ob : Nat → AObj} {nid : Nat} (hd : ob nid = .dead) (x : AObj) (p : Nat) (v : Value) : Goes ob (upd ob nid x) μ (upd μ nid p) ν (upd ν nid v) :=
  ⟨fun o ho => by
    have : o ≠ nid := by rintro rfl; exact ho hd
    rw [upd_ne _ _ this, upd_ne _ _ this]; exact ⟨ho, rfl⟩, fun o g mv fz e sz els ho => by
    have : o ≠ nid := by rintro rfl; rw [hd] at ho; cases ho
    rw [upd_ne _ _ this, upd_ne _ _ this]; exact ⟨g, mv, fz, els, ho, Nat.le_refl _, id, fun _ => ⟨rfl, rfl⟩⟩⟩
theorem goes_upd {ob : Nat → AObj} {o : Nat} {x : AObj} (h : ob o ≠ .dead) (hx : x ≠ .dead) (hv : ∀ g mv fz e sz els, ob o = .vec g mv fz e sz els → ∃ fz' els', x = .vec g mv fz' e sz els' ∧ els'.length = els.length) : Goes ob (upd ob o x) μ μ ν ν :=
  ⟨fun o' h' => by
    by_cases e : o' = o
    · subst e; rw [upd_same]; exact ⟨hx, rfl⟩
    · rw [upd_ne _ _ e]; exact ⟨h', rfl⟩, fun o' g mv fz e sz els h' => by
    by_cases e : o' = o
    · subst e
      obtain ⟨fz', els', h1, h2⟩ := hv _ _ _ _ _ _ h'
      exact ⟨g, mv, fz', els', by rw [upd_same]; exact h1, Nat.le_refl _, id, fun _ => ⟨rfl, h2⟩⟩
    · rw [upd_ne _ _ e]; exact ⟨g, mv, fz, els, h', Nat.le_refl _, id, fun _ => ⟨rfl, rfl⟩⟩⟩
theorem blk_upd {o o' : Nat} (hne : o' ≠ o) (p : Nat) (v : Value) (x : AObj) : blkOf (upd μ o p) (upd ν o v) o' x = blkOf μ ν o' x := by
  cases x <;> simp [blkOf, upd_ne _ _ hne]
theorem keep_alloc (w : World) (o : Obj) : Keep (fun b => w.heap.size ≤ b) w (w.alloc o) := ⟨rfl, rfl, rfl, by simp, fun k hk _ => heap_alloc_old w _ k hk⟩
theorem Rel.keepAbove (hr : Rel P Z nt s a w I μ ν) {w' : World} (hk : Keep (fun b => w.heap.size ≤ b) w w') : Keep Z.N Z.w w' := hr.keep hk fun b hb h => absurd hb (Nat.not_lt.2 h)
theorem lay_new (hr : Rel P Z nt s a w I μ ν) {nid : Nat} (hn : nid < s.n) (hd : s.ob nid = .dead) (x : AObj) (ob : Obj) (hblk : ∀ μ' ν', blkOf μ' ν' nid x = some (μ' nid))
    (hx : ∀ μ' ν', μ' nid = w.heap.size → Goes s.ob (upd s.ob nid x) μ μ' ν ν' → (∀ b o, I b o → I b o ∧ (w.alloc ob).cell? ⟨b, o, none⟩ = w.cell? ⟨b, o, none⟩) → ObR P Z.new (w.alloc ob) I μ' ν' (upd s.ob nid x) nid x) :
    Rel P Z nt { s with ob := upd s.ob nid x } a (w.alloc ob) I (upd μ nid w.heap.size) (upd ν nid undef) := by
  have hI : ∀ b o, I b o → I b o ∧ (w.alloc ob).cell? ⟨b, o, none⟩ = w.cell? ⟨b, o, none⟩ := fun b o h => ⟨h, World.cell?_alloc_lt w _ ⟨b, o, none⟩ (hr.i2 b o h)⟩
  have hg := goes_new (μ := μ) (ν := ν) hd x w.heap.size undef
  refine hr.turn hn hI hg (fun o' b hne hb => ⟨heap_alloc_old w _ b (hr.blk_lt hb).1, fun off h => h⟩) (fun o' hne => blk_upd hne _ _ _) (hx _ _ (upd_same _ _ _) hg hI) (fun o' b hne hb => ?_) (hr.keepAbove (keep_alloc w _)) (fun b off h => .inl h) (fun b off h => by have := hr.i2 b off h; simp; omega)
  rw [hblk, upd_same]
  simp only [ne_eq, Option.some.injEq]
  intro e; have := (hr.blk_lt hb).1; omega
theorem new_above (hr : Rel P Z nt s a w I μ ν) {b : Nat} (h : w.heap.size ≤ b) : Z.new b := .inr (Nat.le_trans hr.bel.size h)
theorem lay_box (hr : Rel P Z nt s a w I μ ν) {nid : Nat} (hn : nid < s.n) (hd : s.ob nid = .dead) {cs : List AV} {vs : List Value} (t : TypeId) (hl : cs.length = vs.length)
    (hv : ∀ (i : Nat) (c : AV) (v : Value), cs[i]? = some c → vs[i]? = some v → VR w I μ ν s.ob c v) (hs : ∀ c ∈ cs, c.sc0 s.ob) (h1 : ∀ v ∈ vs, v.oneCell' = true) :
    Rel P Z nt { s with ob := upd s.ob nid (.box cs) } a (w.alloc (.cells vs.toArray t)) I (upd μ nid w.heap.size) (upd ν nid undef) := by
  refine lay_new hr hn hd (.box cs) _ (fun _ _ => rfl) fun μ' ν' hμ hg hI => ?_
  refine ⟨vs, t, ?_, hl, fun i c v hc hv' => (hv i c v hc hv').mono0 hI hg (hs c (List.mem_of_getElem? hc)), fun c hc => (hs c hc).mono hg, h1, fun off h => ?_, ?_⟩
  · rw [hμ]; exact heap_alloc_new w _
  · rw [hμ] at h; have := hr.i2 _ _ h; simp at this
  · rw [hμ]; exact new_above hr (Nat.le_refl _)
theorem put_eff (s : SS) (dst : Option Nat) (v : AV) (o : Nat) (x : AObj) : s.put dst v [(o, x)] = ({ s with ob := upd s.ob o x } : SS).put dst v [] := rfl
theorem lay_vec (hr : Rel P Z nt s a w I μ ν) {nid : Nat} (hn : nid < s.n) (hd : s.ob nid = .dead) {w' : World} {I' : Nat → Nat → Prop} {v : Value} {fz : Bool} {e : TypeId} {sz : Nat} {els : List D} {xs : List Value} (hv : VecR P Z.new w' I' v fz e sz els xs)
    (hb : Keep (fun b => w.heap.size ≤ b) w w') (hI : ∀ b o, I b o → I' b o) (hI' : ∀ b o, I' b o → I b o ∨ w.heap.size ≤ b ∧ b < w'.heap.size) (hnew : ∀ b, v.ownBlock = some b → w.heap.size ≤ b) (g : Nat) (mv : Bool) :
    Rel P Z nt { s with ob := upd s.ob nid (.vec g mv fz e sz els) } a w' I' (upd μ nid 0) (upd ν nid v) := by
  have hcell : ∀ b o, I b o → w'.cell? ⟨b, o, none⟩ = w.cell? ⟨b, o, none⟩ := fun b o h => World.cell?_of_block (hb.block b (hr.i2 b o h) (Nat.not_le.2 (hr.i2 b o h)))
  have hI1 : ∀ b o, I b o → I' b o ∧ w'.cell? ⟨b, o, none⟩ = w.cell? ⟨b, o, none⟩ := fun b o h => ⟨hI b o h, hcell b o h⟩
  have hg := goes_new (μ := μ) (ν := ν) hd (.vec g mv fz e sz els) 0 v
  refine hr.turn hn hI1 hg (fun o' b hne hbk => ⟨hb.block b (hr.blk_lt hbk).1 (Nat.not_le.2 (hr.blk_lt hbk).1), fun off h => ?_⟩) (fun o' hne => blk_upd hne _ _ _) ⟨xs, by rw [upd_same]; exact hv⟩ (fun o' b hne hbk => ?_) (hr.keepAbove hb) (fun b off h => ?_) (fun b off h => ?_)
  · rcases hI' b off h with h | h
    · exact h
    · have := (hr.blk_lt hbk).1; omega
  · simp only [blkOf, upd_same, ne_eq]
    intro hv
    have := hnew b hv
    have := (hr.blk_lt hbk).1
    omega
  · rcases hI' b off h with h | h
    · exact .inl h
    · exact .inr (new_above hr h.1)
  · rcases hI' b off h with h | h
    · exact Nat.lt_of_lt_of_le (hr.i2 b off h) hb.size
    · exact h.2
theorem take_splice {l us : List Value} {k m : Nat} (h : k + us.length ≤ m) (hm : m ≤ l.length) : (l.take k ++ us ++ l.drop (k + us.length)).take m = (l.take m).take k ++ us ++ (l.take m).drop (k + us.length) := by
  rw [List.take_take, Nat.min_eq_left (by omega), List.append_assoc, List.append_assoc, List.take_append, List.length_take, Nat.min_eq_left (by omega), List.take_of_length_le (by rw [List.length_take]; omega)]
  congr 1
  rw [List.take_append, List.take_of_length_le (by omega)]
  congr 1
  rw [List.drop_take, show m - k - us.length = m - (k + us.length) by omega]
theorem store_ok (hc : COk P c) (hr : Rel P Z nt s a w I μ ν) {t : TypeId} {x y : AV} {u v : Value} {z : AV} {e : List (Nat × AObj)} (hx : VR w I μ ν s.ob x u) (hy : VR w I μ ν s.ob y v) (hsy : y.sc s.ob) (h : storeF c.T t x y s.ob = .val z e) :
    z = .junk ∧ ∃ w' o q, (Instr.storeAt t u v).run P w = .ok () w' ∧ e = [(o, q)] ∧ s.ob o ≠ .dead ∧ Rel P Z nt { s with ob := upd s.ob o q } a w' I μ ν := by
  unfold storeF at h
  split at h
  · cases h
  · rename_i i hi
    have ht := hc.T.ok hi
    split at h
    · rename_i o k
      have ho := hr.os o
      unfold boxStore at h
      split at h
      · rename_i cs hob
        rw [hob] at ho
        obtain ⟨vs, te, h1, h3, h4, h5, h6, h7, h8⟩ := ho
        split at h <;> first | (cases h; done) | skip
        rename_i hcond
        obtain ⟨k1, k2, k3⟩ := hcond
        injection h with hz he
        subst hz; subst he
        obtain ⟨us, g1, g2, g3, g4, g5⟩ := cellsAV_VR k3 hy hsy
        cases hx
        have hus : us.length = i.size := by omega
        have hst := run_storeCells_at P (μ o) k te us 0 vs.toArray w h1 (by simp; omega) g4
        simp only [Nat.add_zero] at hst
        refine ⟨rfl, w.setRow (μ o) (vs.take k ++ us ++ vs.drop (k + us.length)).toArray, o, _, ?_, rfl, by rw [hob]; simp, ?_⟩
        · have hsz : v.cells.size = i.size := by rw [← Array.length_toList, g1, hus]
          simp only [Instr.storeAt, Instr.sureAddr, storeVar, Sem.run_bind, Sem.run_pure, Result.andThen_ok, ht.sizeOf, hsz, ne_eq, not_true_eq_false, if_false, g1]
          rw [hst]
        · obtain ⟨s1, s2⟩ := splice_VR (R := VR w I μ ν s.ob) (cs := cs) (ds := y.cells) (vs := vs) (us := us) (k := k) h3 g2.symm (by omega) h4 g3
          rw [k1] at s1 s2
          have hI : ∀ b off, I b off → I b off ∧ (w.setRow (μ o) (vs.take k ++ us ++ vs.drop (k + us.length)).toArray).cell? ⟨b, off, none⟩ = w.cell? ⟨b, off, none⟩ := fun b off hh =>
            ⟨hh, cell_setRow_other w _ _ _ (by rintro rfl; exact h7 _ hh)⟩
          have hlive : s.ob o ≠ .dead := by rw [hob]; simp
          have hg : Goes s.ob (upd s.ob o (.box (cs.take k ++ y.cells ++ cs.drop (k + i.size)))) μ μ ν ν := goes_upd hlive (by simp) (by rw [hob]; simp)
          have hin : ∀ cc ∈ cs.take k ++ y.cells ++ cs.drop (k + i.size), cc.sc0 s.ob := fun cc hm => by
            rcases List.mem_append.1 hm with hm | hm
            · rcases List.mem_append.1 hm with hm | hm
              · exact h5 cc (List.mem_of_mem_take hm)
              · exact g5 cc hm
            · exact h5 cc (List.mem_of_mem_drop hm)
          refine hr.turn (hr.lt_n hlive) hI hg (fun o' b hne hb => ⟨setRow_other w _ _ _ ?_, fun off hh => hh⟩) (fun o' hne => rfl) ?_ (fun o' b hne hb => ?_) ?_ (fun b off h => .inl h) (fun b off hh => by simpa using hr.i2 b off hh)
          · rintro rfl
            exact hr.sep o o' _ (Ne.symm hne) (by rw [hob]; rfl) hb
          · refine ⟨_, te, setRow_heap w _ _ _ te (0, 0) h1, s1, fun j cc vv hc1 hv1 => (s2 j cc vv hc1 hv1).mono0 hI hg (hin cc (List.mem_of_getElem? hc1)), fun cc hcc => AV.sc0.mono hg (hin cc hcc), fun vv hvv => ?_, h7, h8⟩
            rcases List.mem_append.1 hvv with hm | hm
            · rcases List.mem_append.1 hm with hm | hm
              · exact h6 vv (List.mem_of_mem_take hm)
              · exact g4 vv hm
            · exact h6 vv (List.mem_of_mem_drop hm)
          · intro e
            exact hr.sep o o' b (Ne.symm hne) (by rw [hob]; exact e) hb
          · exact hr.keep (N := fun b => b = μ o) ⟨rfl, rfl, rfl, by simp, fun q hq hn => setRow_other w _ _ _ hn⟩ fun b _ hb => by subst hb; exact h8
      · cases h
    · rename_i o g j sz sub
      have ho := hr.os o
      unfold pvStore at h
      split at h
      · rename_i g' mv fz te sz' els hob
        rw [hob] at ho
        obtain ⟨xs, hvr⟩ := ho
        split at h <;> first | (cases h; done) | skip
        rename_i hcond
        obtain ⟨rfl, rfl, k3⟩ := hcond
        split at h <;> first | (cases h; done) | skip
        rename_i el' hel'
        injection h with hz he
        subst hz; subst he
        unfold pelSet at hel'
        split at hel' <;> first | (cases hel'; done) | skip
        rename_i el ds hj hds
        split at hel' <;> first | (cases hel'; done) | skip
        rename_i hcond
        obtain ⟨k1, k2⟩ := hcond
        injection hel' with hel'
        subst hel'
        cases hx with
        | pv _ _ _ _ _ _ hl hh =>
          obtain ⟨rfl, hjl, rfl⟩ := hh _ _ _ _ _ hob
          obtain ⟨b, hb, hcv, hcell⟩ := hvr.blk (by omega)
          obtain ⟨us, g1, g2, g3, g4, g5⟩ := cellsAV_VR k3 hy hsy
          obtain ⟨d1, d2⟩ := toDs_get hds
          have hel : el.cells.length = sz' := hvr.size el (List.mem_of_getElem? hj)
          have hxl : xs.length = els.length * sz' := hvr.own.1
          have hle : j * sz' + sz' ≤ xs.length := by
            rw [hxl]
            calc j * sz' + sz' = (j + 1) * sz' := by rw [Nat.add_mul]; omega
              _ ≤ els.length * sz' := Nat.mul_le_mul_right _ hjl
          have hus : us.length = i.size := by omega
          have hdone : ∀ d ∈ ds, d.cells = [d] := fun d hd => by
            obtain ⟨q, hq⟩ := List.getElem?_of_mem hd
            obtain ⟨cc, e1, e2⟩ := d2 q d hq
            have hone := List.all_eq_true.1 k3 cc (List.mem_of_getElem? e1)
            cases cc <;> simp [AV.toD, AV.one] at e2 hone <;> (try subst e2) <;> first | rfl | (rename_i x; cases x <;> first | rfl | simp [AV.one] at hone)
          have hs0 := hvr.pos
          have hjoin : (joinD el sub ds).cells = el.cells.take sub ++ ds ++ el.cells.drop (sub + ds.length) := by
            unfold joinD
            split
            · rfl
            · rename_i hna
              have hc1 : el.cells = [el] := by cases el <;> first | rfl | exact absurd rfl (hna _)
              have hs1 : sz' = 1 := by rw [← hel, hc1]; rfl
              split
              · rename_i x
                have hx1 := hdone x (by simp)
                simp at k1
                have : sub = 0 := by omega
                subst this
                simp [hc1, hx1]
              · rename_i hnx
                have hi1 : i.size = 0 ∨ i.size = 1 := by omega
                rcases hi1 with hi0 | hi1
                · have : ds = [] := List.eq_nil_of_length_eq_zero (by omega)
                  subst this
                  simp [List.take_append_drop]
                · exfalso
                  match ds, k1 with
                  | [x], _ => exact hnx x rfl
                  | [], q => simp at q; omega
                  | _ :: _ :: _, q => simp at q; omega
          obtain ⟨fs1, fs2⟩ := flat_split hvr.size hj
          have hjn : (joinD el sub ds).cells.length = sz' := by rw [hjoin]; simp [hel]; omega
          have h4' : ∀ e ∈ els.set j (joinD el sub ds), e.cells.length = sz' := fun e he => by
            rcases List.mem_or_eq_of_mem_set he with he | rfl
            · exact hvr.size e he
            · exact hjn
          have hflat : D.flat (els.set j (joinD el sub ds)) = (D.flat els).take (j * sz' + sub) ++ ds ++ (D.flat els).drop (j * sz' + sub + ds.length) := by
            obtain ⟨fs3, fs4⟩ := flat_split h4' (show (els.set j (joinD el sub ds))[j]? = some (joinD el sub ds) by simp [hjl])
            have e1 : (els.set j (joinD el sub ds)).take j = els.take j := by rw [List.take_set_of_le (Nat.le_refl j)]
            have e2 : (els.set j (joinD el sub ds)).drop (j + 1) = els.drop (j + 1) := by rw [List.drop_set_of_lt (Nat.lt_succ_self j)]
            rw [fs3, e1, e2, hjoin, fs1]
            have t1 : (D.flat (els.take j) ++ (el.cells ++ D.flat (els.drop (j + 1)))).take (j * sz' + sub) = D.flat (els.take j) ++ el.cells.take sub := by
              rw [← fs2, List.take_length_add_append]
              congr 1
              rw [List.take_append_of_le_length (by omega)]
            have t2 : (D.flat (els.take j) ++ (el.cells ++ D.flat (els.drop (j + 1)))).drop (j * sz' + sub + ds.length) = el.cells.drop (sub + ds.length) ++ D.flat (els.drop (j + 1)) := by
              rw [← fs2, Nat.add_assoc, List.drop_length_add_append, List.drop_append_of_le_length (by omega)]
            rw [t1, t2]
            simp [List.append_assoc]
          rcases hvr.own.2 with ⟨_, h0⟩ | ⟨b', cap, cur, hνv, _, hheap, hncap, hcapm, hcs, htake⟩
          · omega
          have hbb : b' = b := by rw [hνv] at hb; simp [Value.ownBlock] at hb; exact hb
          subst hbb
          have hcur : cur = cur.toList.toArray := by simp
          have hfit : els.length * sz' ≤ cur.toList.length := by
            have e0 : cur.toList.length = cap * sz' := by rw [← hcs]; simp
            rw [e0]; exact Nat.mul_le_mul_right _ hncap
          have hst := run_storeCells_at P b' (j * sz' + sub) te us 0 cur.toList.toArray w (by rw [← hcur]; exact hheap) (by simp; simp at hfit; omega) g4
          simp only [Nat.add_zero] at hst
          refine ⟨rfl, w.setRow b' (cur.toList.take (j * sz' + sub) ++ us ++ cur.toList.drop (j * sz' + sub + us.length)).toArray, o, _, ?_, rfl, by rw [hob]; simp, ?_⟩
          · have hvs : v.cells.size = i.size := by rw [← Array.length_toList, g1, hus]
            rw [hcv]
            simp only [Instr.storeAt, Instr.sureAddr, storeVar, Sem.run_bind, Sem.run_pure, Result.andThen_ok, ht.sizeOf, hvs, ne_eq, not_true_eq_false, if_false, g1]
            rw [hst]
          · have hdv : ∀ (q : Nat) (d : D) (u : Value), ds[q]? = some d → us[q]? = some u → VRd w I d u := fun q d u hd hu => by
              obtain ⟨cc, e1, e2⟩ := d2 q d hd
              exact toD_VR e2 (g3 q cc u e1 hu)
            have hfl : (D.flat els).length = xs.length := by rw [length_flat hvr.size, hxl]
            obtain ⟨s1, s2⟩ := splice_VR (R := VRd w I) (cs := D.flat els) (ds := ds) (vs := xs) (us := us) (k := j * sz' + sub) hfl (by omega) (by omega) hvr.rd hdv
            rw [← hflat] at s1 s2
            have hnI : ∀ off, ¬ I b' off := hvr.free rfl b' hb
            have hI : ∀ b off, I b off → I b off ∧ (w.setRow b' (cur.toList.take (j * sz' + sub) ++ us ++ cur.toList.drop (j * sz' + sub + us.length)).toArray).cell? ⟨b, off, none⟩ = w.cell? ⟨b, off, none⟩ := fun b off hh =>
              ⟨hh, cell_setRow_other w _ _ _ (by rintro rfl; exact hnI _ hh)⟩
            have hlive : s.ob o ≠ .dead := by rw [hob]; simp
            have hg : Goes s.ob (upd s.ob o (.vec g' mv false te sz' (els.set j (joinD el sub ds)))) μ μ ν ν := goes_upd hlive (by simp) (fun g2 mv2 fz2 e2 sz2 els2 h2 => by
              rw [hob] at h2
              injection h2 with e1 e2 e3 e4 e5 e6
              subst e1; subst e2; subst e4; subst e5; subst e6
              exact ⟨false, _, rfl, by simp⟩)
            refine hr.turn (hr.lt_n hlive) hI hg (fun o' b hne hbk => ⟨setRow_other w _ _ _ ?_, fun off hh => hh⟩) (fun o' hne => rfl) ⟨xs.take (j * sz' + sub) ++ us ++ xs.drop (j * sz' + sub + us.length), ?_⟩ (fun o' b hne hbk => ?_) ?_ (fun b off h => .inl h) (fun b off hh => by simpa using hr.i2 b off hh)
            · rintro rfl
              exact hr.sep o o' _ (Ne.symm hne) (by rw [hob]; exact hb) hbk
            · refine { info := hvr.info, pos := hvr.pos, own := ⟨?_, .inr ⟨b', cap, _, by simpa using hνv, Nat.zero_le _, setRow_heap w _ _ _ te (0, 0) hheap, by simpa using hncap, hcapm, ?_, ?_⟩⟩, size := h4', rd := fun q d vv hd hv => (s2 q d vv hd hv).mono hI, one := fun vv hvv => ?_, new := hvr.new, spare := fun b2 hb2 off hoff => hvr.spare b2 hb2 off (by simpa using hoff), free := fun _ => hvr.free rfl, froz := fun h => by cases h }
              · simp only [List.length_set, ← hxl]; simp; omega
              · simp; simp at hfit; omega
              · simp only [List.length_set]
                rw [take_splice (by omega) (by omega), htake]
              · rcases List.mem_append.1 hvv with hm | hm
                · rcases List.mem_append.1 hm with hm | hm
                  · exact hvr.one vv (List.mem_of_mem_take hm)
                  · exact g4 vv hm
                · exact hvr.one vv (List.mem_of_mem_drop hm)
            · intro e
              exact hr.sep o o' b (Ne.symm hne) (by rw [hob]; exact e) hbk
            · exact hr.keep (N := fun b => b = b') ⟨rfl, rfl, rfl, by simp, fun q hq hn => setRow_other w _ _ _ hn⟩ fun b2 _ hb2 => by subst hb2; exact hvr.new _ hb
      · cases h
    · cases h
end
end Go.Proofs.YtpooehcjchkbkaaV
/- Slices that are built, made, appended to. -/
set_option linter.unusedVariables false
set_option linter.unusedSimpArgs false
namespace Go.Proofs.YtpooehcjchkbkaaV
open Go.RowKit
theorem app_law {P : Program} (w : World) (base : Nat) (t ty e : TypeId) (i : TypeInfo) (z : Value) (ht : P.underlying t = some (.slice e)) (hi : P.info? e = some i) (hz : i.zero = some z) (hzs : z.cells.size = i.size) (hsz : 0 < i.size)
    (v : Value) (n : Nat) (xs : List Value) (hown : w.ownsRow base e i.size v n xs) (A : Option Addr) (m c : Nat) (news : List Value) (hl : news.length = m * i.size) (hA : 0 < m → ∃ a, A = some a ∧ ∀ (j : Nat) (u : Value), news[j]? = some u → w.cell? (a.add j) = some u)
    (h1 : ∀ u ∈ news, u.oneCell' = true) (h63 : n + m ≤ 9223372036854775807) (hbytes : (n + m) * i.bytes ≤ 140737488355328) (hbase : base ≤ w.heap.size) :
    ∃ v' w', (Builtin.append_ #[t, t] ty #[v, .slice A m c]).run P w = .ok v' w' ∧ w'.ownsRow base e i.size v' (n + m) (xs ++ news) ∧
      ((v'.ownBlock = v.ownBlock ∧ w.grownBy w' v.ownBlock) ∨ (v'.ownBlock = some w.heap.size ∧ w.grownBy w' none)) := by
  have hmax : ∀ {q : Nat}, q ≤ 9223372036854775807 → q ≤ maxLen := fun h => by simp only [maxLen]; omega
  have hlen : (xs ++ news).length = (n + m) * i.size := by rw [List.length_append, hown.1, hl, Nat.add_mul]
  by_cases hm : m = 0
  · subst hm
    have hn : news = [] := List.eq_nil_of_length_eq_zero (by simpa using hl)
    subst hn
    refine ⟨v, w, ?_, by simpa using hown, .inl ⟨rfl, ⟨rfl, rfl, rfl, Nat.le_refl _, fun _ _ _ => rfl⟩⟩⟩
    have hz0 : loadCells ⟨0, 0, none⟩ 0 = pure #[] := rfl
    rcases hown.2 with ⟨rfl, rfl⟩ | ⟨g, cap, cur, rfl, _, _, hnc, _⟩ <;> cases A <;>
      simp [Builtin.append_, run_underlying ht, sizeOf, typeInfo, hi, Builtin.lenOf, Builtin.firstCells, loadCells, loadCellsFrom, storeCells, *]
  · obtain ⟨a, rfl, hnews⟩ := hA (by omega)
    have grown : ∀ (old : Nat), old < n + m →
        (w.drew.alloc (.cells (xs.toArray ++ news.toArray ++ Builtin.zeroCells z.cells (grownCap w (n + m) old e - (n + m))) e)).ownsRow base e i.size
          (.slice (some ⟨w.heap.size, 0, none⟩) (n + m) (grownCap w (n + m) old e)) (n + m) (xs ++ news) ∧
        w.grownBy (w.drew.alloc (.cells (xs.toArray ++ news.toArray ++ Builtin.zeroCells z.cells (grownCap w (n + m) old e - (n + m))) e)) none := by
      intro old ho
      have hge := grownCap_ge w (n + m) old e
      have hcm : grownCap w (n + m) old e ≤ maxLen := grownCap_le_maxLen w (n + m) old e (hmax h63)
      refine ⟨⟨hlen, .inr ⟨w.heap.size, _, _, rfl, hbase, heap_alloc_new w.drew _, hge, hcm, ?_, ?_⟩⟩, ⟨rfl, rfl, rfl, by simp, fun k hk _ => heap_alloc_old w.drew _ k hk⟩⟩
      · simp only [Array.size_append, List.size_toArray, size_zeroCells, hzs, hown.1, hl, ← Nat.add_mul]
        congr 1
        omega
      · simp only [Array.toList_append, List.append_assoc]
        rw [← List.append_assoc, ← hlen]
        exact List.take_left
    rcases hown.2 with ⟨rfl, rfl⟩ | ⟨g, cap, cur, rfl, hbg, hg, hnc, hcm, hcs, htake⟩
    · have hx : xs = [] := List.eq_nil_of_length_eq_zero (by simpa using hown.1)
      subst hx
      have hr := run_append_nil (P := P) w t ty e i z ht hi hz a m c news hl hnews (by omega) (by omega) (by have hb := hbytes; simp only [Nat.zero_add] at hb; omega)
      have hgr := grown 0 (by omega)
      simp only [Nat.zero_add, List.nil_append, Array.empty_append] at hgr ⊢
      exact ⟨_, _, hr, hgr.1, .inr ⟨rfl, hgr.2⟩⟩
    · by_cases hroom : n + m ≤ cap
      · have hfit : n * i.size + news.length ≤ cur.size := by rw [hl, hcs, ← Nat.add_mul]; exact Nat.mul_le_mul_right _ hroom
        have hr := run_append_room (P := P) w t ty e i ht hi g n cap cur hg a m c news hl hnews h1 hroom hfit
        refine ⟨_, _, hr, ⟨hlen, .inr ⟨g, cap, _, rfl, hbg, setRow_heap w g cur _ e _ hg, hroom, hcm, ?_, ?_⟩⟩, .inl ⟨rfl, ⟨rfl, rfl, rfl, by simp, fun k _ hk => setRow_other w g k _ (fun e => hk (by simp [Value.ownBlock, e]))⟩⟩⟩
        · simp only [List.size_toArray, List.length_append, List.length_take, List.length_drop, Array.length_toList]
          omega
        · rw [htake, ← hlen]
          exact List.take_left
      · have holds : ∀ (j : Nat) (u : Value), xs[j]? = some u → w.cell? ((⟨g, 0, none⟩ : Addr).add j) = some u := hown.cells (g := g) rfl
        have hr := run_append_grow (P := P) w t ty e i z ht hi hz ⟨g, 0, none⟩ n cap xs hown.1 holds a m c news hl hnews (by omega) (by omega) (growslice_fits (by omega) hbytes)
        have hgr := grown cap (by omega)
        exact ⟨_, _, hr, hgr.1, .inr ⟨rfl, hgr.2⟩⟩
theorem app_lawF {P : Program} (w : World) (t ty e : TypeId) (i : TypeInfo) (z : Value) (ht : P.underlying t = some (.slice e)) (hi : P.info? e = some i) (hz : i.zero = some z) (hzs : z.cells.size = i.size) (hsz : 0 < i.size)
    (A0 : Option Addr) (n : Nat) (olds : List Value) (ho : olds.length = n * i.size) (hA0 : 0 < n → ∃ a, A0 = some a ∧ ∀ (j : Nat) (u : Value), olds[j]? = some u → w.cell? (a.add j) = some u) (A : Option Addr) (m c : Nat) (news : List Value) (hl : news.length = m * i.size) (hA : 0 < m → ∃ a, A = some a ∧ ∀ (j : Nat) (u : Value), news[j]? = some u → w.cell? (a.add j) = some u)
    (h1 : ∀ u ∈ news, u.oneCell' = true) (h63 : n + m ≤ 9223372036854775807) (hbytes : (n + m) * i.bytes ≤ 140737488355328) (hm : 0 < m) :
    ∃ v' w', (Builtin.append_ #[t, t] ty #[.slice A0 n n, .slice A m c]).run P w = .ok v' w' ∧ w'.ownsRow 0 e i.size v' (n + m) (olds ++ news) ∧ v'.ownBlock = some w.heap.size ∧ w.grownBy w' none := by
  have main : ∀ a0 : Addr, (∀ (j : Nat) (u : Value), olds[j]? = some u → w.cell? (a0.add j) = some u) → ∃ v' w', (Builtin.append_ #[t, t] ty #[.slice (some a0) n n, .slice A m c]).run P w = .ok v' w' ∧ w'.ownsRow 0 e i.size v' (n + m) (olds ++ news) ∧ v'.ownBlock = some w.heap.size ∧ w.grownBy w' none := fun a0 hold => by
    obtain ⟨a, rfl, hnews⟩ := hA hm
    have hmax : ∀ {q : Nat}, q ≤ 9223372036854775807 → q ≤ maxLen := fun h => by simp only [maxLen]; omega
    have hge := grownCap_ge w (n + m) n e
    have hcm : grownCap w (n + m) n e ≤ maxLen := grownCap_le_maxLen w (n + m) n e (hmax (by omega))
    have hr := run_append_grow (P := P) w t ty e i z ht hi hz a0 n n olds ho hold a m c news hl hnews (by omega) (by omega) (growslice_fits (by omega) hbytes)
    have hlen : (olds ++ news).length = (n + m) * i.size := by rw [List.length_append, ho, hl, Nat.add_mul]
    refine ⟨_, _, hr, ⟨hlen, .inr ⟨w.heap.size, _, _, rfl, Nat.zero_le _, heap_alloc_new w.drew _, hge, hcm, ?_, ?_⟩⟩, rfl, ⟨rfl, rfl, rfl, by simp, fun k hk _ => heap_alloc_old w.drew _ k hk⟩⟩
    · simp only [Array.size_append, List.size_toArray, size_zeroCells, hzs, hl, ho, ← Nat.add_mul]
      congr 1
      omega
    · simp only [Array.toList_append, List.append_assoc]
      rw [← List.append_assoc, ← hlen]
      exact List.take_left
  cases A0 with
  | none =>
    have hn : n = 0 := by
      rcases Nat.eq_zero_or_pos n with h | h
      · exact h
      · obtain ⟨a, ha, _⟩ := hA0 h; cases ha
    subst hn
    have hx : olds = [] := List.eq_nil_of_length_eq_zero (by simpa using ho)
    subst hx
    obtain ⟨v', w', r1, r2, r3⟩ := app_law (P := P) w 0 t ty e i z ht hi hz hzs hsz (.slice none 0 0) 0 [] (World.ownsRow_nil ..) A m c news hl hA h1 (by omega) (by rw [Nat.zero_add] at hbytes ⊢; exact hbytes) (Nat.zero_le _)
    refine ⟨v', w', r1, r2, ?_⟩
    rcases r3 with ⟨h, hg⟩ | ⟨h, hg⟩
    · exfalso
      rcases r2.2 with ⟨_, h0⟩ | ⟨g, cap, cur, rfl, _⟩
      · omega
      · simp [Value.ownBlock] at h
    · exact ⟨h, hg⟩
  | some a0 =>
    rcases Nat.eq_zero_or_pos n with h | h
    · subst h
      have hx : olds = [] := List.eq_nil_of_length_eq_zero (by simpa using ho)
      subst hx
      exact main a0 (by simp)
    · obtain ⟨a, ha, hold⟩ := hA0 h
      injection ha with ha
      subst ha
      exact main a0 hold
section
variable {P : Program} {c : Ctx} {Z : Zst} {nt : Nat} {s : SS} {a : Act} {w : World} {I : Nat → Nat → Prop} {μ : Nat → Nat} {ν : Nat → Value}
theorem VRd_own {w : World} {I : Nat → Nat → Prop} {base sz m : Nat} {e : TypeId} {v : Value} {xs : List Value} {els : List D} (hown : w.ownsRow base e sz v m xs) (hm : els.length = m) (hs : ∀ x ∈ els, x.cells.length = sz) (h1 : ∀ u ∈ xs, u.oneCell' = true)
    (hI : ∀ b, v.ownBlock = some b → ∀ off, off < m * sz → I b off) (hv : ∀ (j : Nat) (d : D) (u : Value), (D.flat els)[j]? = some d → xs[j]? = some u → VRd w I d u) : VRd w I (.sl els) v := by
  subst hm
  have hfl := length_flat hs
  rcases hown.2 with ⟨rfl, h0⟩ | ⟨g, cap, cur, rfl, hbg, hg, hnc, hcm, hcs, htake⟩
  · have : els = [] := List.eq_nil_of_length_eq_zero h0
    subst this
    exact .sl [] none 0 0 0 0 (fun _ => undef) (by simp) (by simp) (by simp) (fun j hj => by simp at hj) (fun j d hj => by simp [D.flat] at hj)
  · refine .sl els _ cap sz g 0 (fun j => xs.getD j undef) hnc hs (fun _ => rfl) (fun j hj => ?_) (fun j d hj => ?_)
    · have hj' : j < xs.length := by rw [hown.1]; exact hj
      have hx : xs[j]? = some (xs.getD j undef) := by rw [List.getD_eq_getElem?_getD, List.getElem?_eq_getElem hj']; rfl
      have hc := hown.cells (g := g) rfl j _ hx
      rw [Addr.add_lit] at hc
      exact ⟨hc, by simpa using hI g rfl j hj, h1 _ (List.mem_of_getElem? hx)⟩
    · have hj' : j < xs.length := by rw [hown.1, ← hfl]; exact (List.getElem?_eq_some_iff.1 hj).1
      exact hv j d _ hj (by rw [List.getD_eq_getElem?_getD, List.getElem?_eq_getElem hj']; rfl)
theorem news_of {w : World} {I : Nat → Nat → Prop} {ys : List D} {A : Option Addr} {m cp sz : Nat} (hm : m = ys.length) (h : ys ≠ [] → VRd w I (.sl ys) (.slice A m cp)) (hs : ∀ y ∈ ys, y.cells.length = sz) :
    ∃ news : List Value, news.length = m * sz ∧ (0 < m → ∃ ad, A = some ad ∧ ∀ (j : Nat) (u : Value), news[j]? = some u → w.cell? (ad.add j) = some u) ∧ (∀ u ∈ news, u.oneCell' = true) ∧ ∀ (j : Nat) (d : D) (u : Value), (D.flat ys)[j]? = some d → news[j]? = some u → VRd w I d u := by
  subst hm
  by_cases hn : ys = []
  · subst hn
    exact ⟨[], by simp, by simp, by simp, by simp⟩
  · have hv := h hn
    cases hv with
    | sl _ _ _ sz' b off u h1 h2 h3 h4 h5 =>
      have hsz : sz' = sz := by
        cases ys with
        | nil => exact absurd rfl hn
        | cons e es => rw [← h2 e (by simp), hs e (by simp)]
      subst hsz
      refine ⟨(List.range (ys.length * sz')).map u, by simp, fun _ => ⟨_, h3 hn, fun j v hj => ?_⟩, fun v hv => ?_, fun j d v hd hj => ?_⟩
      · have hlt : j < ys.length * sz' := by have := (List.getElem?_eq_some_iff.1 hj).1; simpa using this
        rw [List.getElem?_map, List.getElem?_range hlt] at hj
        simp at hj
        subst hj
        rw [Addr.add_lit]; exact (h4 j hlt).1
      · obtain ⟨j, hj, rfl⟩ := List.mem_map.1 hv
        exact (h4 j (List.mem_range.1 hj)).2.2
      · have hlt : j < ys.length * sz' := by have := (List.getElem?_eq_some_iff.1 hj).1; simpa using this
        rw [List.getElem?_map, List.getElem?_range hlt] at hj
        simp at hj
        subst hj
        exact h5 j d hd
theorem fillSlice {n : Nat} : ∀ {parts : List (Nat × AV)} {us : List (Nat × Value)} {i : Nat} {els : List D} {arr : Array Value}, parts.length = us.length →
    (∀ (i : Nat) (p : Nat × AV) (u : Nat × Value), parts[i]? = some p → us[i]? = some u → p.1 = u.1 ∧ VR w I μ ν s.ob p.2 u.2) → partsX n i parts = some els → (i + parts.length) * n ≤ arr.size →
    els.length = parts.length ∧ (∀ e ∈ els, e.cells.length = n) ∧ ∃ (r : Array Value) (flats : List Value), Instr.fill (fun j => some (j * n, n)) arr us = some r ∧ flats.length = els.length * n ∧ r.toList = arr.toList.take (i * n) ++ flats ++ arr.toList.drop ((i + els.length) * n) ∧
      (∀ u ∈ flats, u.oneCell' = true) ∧ ∀ (j : Nat) (d : D) (u : Value), (D.flat els)[j]? = some d → flats[j]? = some u → VRd w I d u
  | [], [], i, els, arr, _, _, h, _ => by
    simp only [partsX, Option.some.injEq] at h
    subst h
    exact ⟨rfl, by simp, arr, [], rfl, by simp, by simp, by simp, by simp⟩
  | [], _ :: _, _, _, _, h, _, _, _ => by simp at h
  | _ :: _, [], _, _, _, h, _, _, _ => by simp at h
  | (j, x) :: ps, (j', u) :: us, i, els, arr, hl, hp, h, hfit => by
    obtain ⟨hij, hxu⟩ := hp 0 _ _ rfl rfl
    simp only at hij hxu
    subst hij
    simp only [partsX] at h
    split at h
    · rename_i hij
      subst hij
      split at h
      · rename_i d ds hd hds
        split at h
        · rename_i hdn
          simp only [Option.some.injEq] at h
          subst h
          obtain ⟨ul, e1, e2, e3, e4⟩ := cells_toD hd hxu
          have hus : u.cells.size = n := by rw [← Array.length_toList, e1, e2, hdn]
          have hfit' : i * n + n ≤ arr.size := by
            have : i * n + n = (i + 1) * n := by rw [Nat.add_mul]; omega
            have h2 : (i + 1) * n ≤ (i + ((i, x) :: ps).length) * n := Nat.mul_le_mul_right _ (by simp)
            omega
          have hset : (u.cells.zipIdx.foldl (fun (cs : Array Value) (x : Value × Nat) => cs.setIfInBounds (i * n + x.2) x.1) arr).toList = arr.toList.take (i * n) ++ ul ++ arr.toList.drop (i * n + ul.length) := by
            have := fold_set (i * n) ul 0 arr (by rw [e2, hdn]; omega)
            rw [← e1] at this ⊢
            rw [← Array.foldl_toList, Array.toList_zipIdx]
            simpa using this
          have hul : ul.length = n := by rw [e2, hdn]
          have hsize : (u.cells.zipIdx.foldl (fun (cs : Array Value) (x : Value × Nat) => cs.setIfInBounds (i * n + x.2) x.1) arr).size = arr.size := by
            rw [← Array.length_toList, hset]; simp [hul]; omega
          obtain ⟨k1, k2, r, flats, r1, r2, r3, r4, r5⟩ := fillSlice (parts := ps) (us := us) (i := i + 1) (els := ds) (arr := u.cells.zipIdx.foldl (fun (cs : Array Value) (x : Value × Nat) => cs.setIfInBounds (i * n + x.2) x.1) arr)
            (by simpa using hl) (fun q p v hp' hv' => hp (q + 1) p v (by simpa using hp') (by simpa using hv')) hds (by rw [hsize]; simpa [Nat.add_assoc, Nat.add_comm 1] using hfit)
          refine ⟨by simp [k1], fun e he => ?_, r, ul ++ flats, ?_, ?_, ?_, fun v hv => ?_, fun q dd v hdd hv => ?_⟩
          · rcases List.mem_cons.1 he with rfl | he
            · exact hdn
            · exact k2 e he
          · simp only [Instr.fill]
            have hc : ¬ ((u.cells.size ≠ n || i * n + u.cells.size > arr.size) = true) := by simp [hus]; omega
            rw [if_neg (by simpa using hc)]
            exact r1
          · simp [hul, r2, Nat.add_mul]; omega
          · rw [r3, hset]
            have a1 : (arr.toList.take (i * n) ++ ul ++ arr.toList.drop (i * n + ul.length)).take ((i + 1) * n) = arr.toList.take (i * n) ++ ul := by
              have : (i + 1) * n = (arr.toList.take (i * n) ++ ul).length := by simp [hul, Nat.add_mul]; omega
              rw [this, List.take_left]
            have a2 : (arr.toList.take (i * n) ++ ul ++ arr.toList.drop (i * n + ul.length)).drop ((i + 1 + ds.length) * n) = arr.toList.drop ((i + (d :: ds).length) * n) := by
              have hlen : (arr.toList.take (i * n) ++ ul).length = i * n + n := by simp [hul]; omega
              rw [List.drop_append, hlen, List.drop_drop, hul]
              have e1 : (i + 1 + ds.length) * n = i * n + n + ds.length * n := by simp [Nat.add_mul]
              have e2 : (i + (d :: ds).length) * n = i * n + n + ds.length * n := by simp [Nat.add_mul]; omega
              rw [e1, e2, List.drop_eq_nil_of_le (by rw [hlen]; omega)]
              simp only [List.nil_append]
              congr 1
              omega
            rw [a1, a2]
            simp
          · rcases List.mem_append.1 hv with hv | hv
            · exact e4 v hv
            · exact r4 v hv
          · simp only [D.flat, List.flatMap_cons] at hdd
            by_cases hq : q < d.cells.length
            · rw [List.getElem?_append_left hq] at hdd
              rw [List.getElem?_append_left (by omega)] at hv
              exact e3 q dd v hdd hv
            · rw [List.getElem?_append_right (by omega)] at hdd
              rw [List.getElem?_append_right (by omega)] at hv
              rw [← e2] at hdd
              exact r5 _ dd v hdd hv
        · cases h
      · cases h
    · cases h
theorem TyOk.zero {t : TypeId} {i : TyI} (h : TyOk P t i) : ∃ z, (∀ w, (zeroValue t).run P w = .ok z w) ∧ litsEq z.cells.toList i.zero = true := by
  obtain ⟨f, h1, _, _, z, h2, h3, _⟩ := h.info
  exact ⟨z, fun w => by simp [zeroValue, typeInfo, h1, h2], h3⟩
theorem landV_ok (hr : Rel P Z nt s a w I μ ν) {nid : Nat} (hn : nid < s.n) (hd : s.ob nid = .dead) {w' : World} {v : Value} {e : TypeId} {sz : Nat} {els : List D} {xs : List Value} {dd : Bool} {z : AV} {eff : List (Nat × AObj)}
    (hinfo : ∃ f, P.info? e = some f ∧ f.size = sz) (hpos : 0 < sz) (hown : w'.ownsRow 0 e sz v els.length xs) (hsz : ∀ el ∈ els, el.cells.length = sz) (hrd : ∀ (j : Nat) (d : D) (u : Value), (D.flat els)[j]? = some d → xs[j]? = some u → VRd w' I d u)
    (h1 : ∀ u ∈ xs, u.oneCell' = true) (hb : Keep (fun b => w.heap.size ≤ b) w w') (hnew : ∀ b, v.ownBlock = some b → w.heap.size ≤ b) (h : landV dd nid e sz els = .val z eff) :
    ∃ I' μ' ν' q, eff = [(nid, q)] ∧ Rel P Z nt { s with ob := upd s.ob nid q } a w' I' μ' ν' ∧ VR w' I' μ' ν' (upd s.ob nid q) z v ∧ z.sc (upd s.ob nid q) := by
  have hold : ∀ b, v.ownBlock = some b → ∀ off, ¬ I b off := fun b hb off hi => by have := hnew b hb; have := hr.i2 b off hi; omega
  unfold landV at h
  split at h
  · injection h with hz he
    subst hz; subst he
    let I' : Nat → Nat → Prop := fun b off => I b off ∨ (v.ownBlock = some b ∧ off < els.length * sz)
    have hmono : ∀ b o, I b o → I' b o ∧ w'.cell? ⟨b, o, none⟩ = w'.cell? ⟨b, o, none⟩ := fun b o h => ⟨.inl h, rfl⟩
    have hvr : VecR P Z.new w' I' v true e sz els xs :=
      { info := hinfo, pos := hpos, own := hown, size := hsz, rd := fun j d u hd hu => (hrd j d u hd hu).mono hmono, one := h1, new := fun b hb => new_above hr (hnew b hb),
        spare := fun b hb off hoff hi => by
          rcases hi with hi | ⟨_, hi⟩
          · exact hold b hb off hi
          · omega
        free := fun h => by cases h
        froz := fun _ b hb off hoff => .inr ⟨hb, hoff⟩ }
    refine ⟨I', _, _, _, rfl, lay_vec hr hn hd hvr hb (fun b o h => .inl h) (fun b o h => ?_) hnew 0 true, .d _ _ ?_, trivial⟩
    · rcases h with h | ⟨h, _⟩
      · exact .inl h
      · exact .inr ⟨hnew b h, (hown.lt b h).2⟩
    · exact VRd_own hown rfl hsz h1 (fun b hb off hoff => .inr ⟨hb, hoff⟩) fun j d u hd hu => (hrd j d u hd hu).mono hmono
  · injection h with hz he
    subst hz; subst he
    have hvr : VecR P Z.new w' I v false e sz els xs :=
      { info := hinfo, pos := hpos, own := hown, size := hsz, rd := hrd, one := h1, new := fun b hb => new_above hr (hnew b hb),
        spare := fun b hb off _ => hold b hb off
        free := fun _ b hb off => hold b hb off
        froz := fun h => by cases h }
    refine ⟨I, _, _, _, rfl, lay_vec hr hn hd hvr hb (fun b o h => h) (fun b o h => .inl h) hnew 0 true, .vs _ _ _ _ _ _ ?_ fun mv fz e' sz' els' hob => ?_, ⟨0, true, false, e, sz, els, upd_same _ _ _, Nat.le_refl _⟩⟩
    · rcases hown.2 with ⟨rfl, h0⟩ | ⟨g, cap, cur, rfl, _, _, hnc, _⟩
      · exact ⟨none, 0, by simp [h0], by omega, fun h => by omega⟩
      · exact ⟨_, cap, rfl, by simpa using hnc, fun _ => ⟨g, 0, rfl⟩⟩
    · rw [upd_same] at hob
      injection hob with _ _ _ _ e5 e6
      subst e5; subst e6
      rw [upd_same]
      refine ⟨rfl, Nat.zero_le _, Nat.le_refl _, ?_⟩
      rcases hown.2 with ⟨rfl, h0⟩ | ⟨g, cap, cur, rfl, _, _, hnc, _⟩
      · exact ⟨none, 0, 0, none, rfl, by simp [h0], by omega, fun _ => rfl, fun h => by omega⟩
      · exact ⟨_, _, cap, _, rfl, rfl, hnc, fun _ => rfl, fun _ => by simp [Addr.add]⟩
theorem buildSlice_ok (hc : COk P c) (hr : Rel P Z nt s a w I μ ν) {nid : Nat} (hn : nid < s.n) (hd : s.ob nid = .dead) {dd : Bool} {t : TypeId} {len : Nat} {parts : List (Nat × AV)} {us : Array (Nat × Value)} {v : AV} {e : List (Nat × AObj)} (hl : parts.length = us.size)
    (hp : ∀ (i : Nat) (p : Nat × AV) (u : Nat × Value), parts[i]? = some p → us.toList[i]? = some u → p.1 = u.1 ∧ VR w I μ ν s.ob p.2 u.2) (h : buildSliceF c.T dd t len parts nid = .val v e) :
    ∃ r w' I' μ' ν' q, (Instr.buildSlice t len us).run P w = .ok r w' ∧ e = [(nid, q)] ∧ Rel P Z nt { s with ob := upd s.ob nid q } a w' I' μ' ν' ∧ VR w' I' μ' ν' (upd s.ob nid q) v r ∧ v.sc (upd s.ob nid q) := by
  unfold buildSliceF at h
  split at h <;> first | (cases h; done) | skip
  rename_i et sz by_ zz hi
  have ht := (hc.T.ok hi).slice rfl
  split at h <;> first | (cases h; done) | skip
  rename_i i hti
  have hte := hc.T.ok hti
  split at h <;> first | (cases h; done) | skip
  rename_i els hels
  split at h <;> first | (cases h; done) | skip
  rename_i hcond
  obtain ⟨hlen, hbig, hpos⟩ := hcond
  obtain ⟨zv, hz1, hz2⟩ := hte.zero
  obtain ⟨f, hf1, hf2, _⟩ := hte.info
  let z0 : Array Value := if len * i.size = 0 then #[] else zv.cells
  let arr : Array Value := (Array.range (len * i.size)).map (z0[· % z0.size]!)
  obtain ⟨k1, k2, r, flats, r1, r2, r3, r4, r5⟩ := fillSlice (w := w) (I := I) (μ := μ) (ν := ν) (s := s) (n := i.size) (us := us.toList) (arr := arr) (by simpa using hl) hp hels (by simp [arr, hlen])
  have hlen' : els.length = len := by rw [k1, hlen]
  have hrl : r.toList = flats := by
    rw [r3, hlen']
    simp [arr]
  have hrun : (Instr.buildSlice t len us).run P w = .ok (.slice (some ⟨w.heap.size, 0, none⟩) len len) (w.alloc (.cells r et)) := by
    have hb : ¬ (len * i.size > 2 ^ 24) := by omega
    unfold Instr.buildSlice
    by_cases h0 : len * i.size = 0
    · have r1' := r1
      simp [arr, z0, h0] at r1'
      simp [run_underlying ht, hte.sizeOf, h0, r1', newRow]
    · have r1' := r1
      simp [arr, z0, h0] at r1'
      simp [run_underlying ht, hte.sizeOf, h0, hz1, r1', newRow, Nat.not_lt.2 hbig]
  have hown : (w.alloc (.cells r et)).ownsRow 0 et i.size (.slice (some ⟨w.heap.size, 0, none⟩) len len) els.length flats := by
    rw [hlen']
    refine ⟨by rw [r2, hlen'], .inr ⟨w.heap.size, len, r, rfl, Nat.zero_le _, heap_alloc_new w _, Nat.le_refl _, ?_, ?_, ?_⟩⟩
    · have : len ≤ len * i.size := Nat.le_mul_of_pos_right _ hpos
      simp only [maxLen]; omega
    · rw [← Array.length_toList, hrl, r2, hlen']
    · rw [hrl, List.take_of_length_le (by rw [r2, hlen']; exact Nat.le_refl _)]
  have hmono : ∀ b o, I b o → I b o ∧ (w.alloc (.cells r et)).cell? ⟨b, o, none⟩ = w.cell? ⟨b, o, none⟩ := fun b o hh => ⟨hh, World.cell?_alloc_lt w _ ⟨b, o, none⟩ (hr.i2 b o hh)⟩
  obtain ⟨I', μ', ν', q, q1, q2, q3, q4⟩ := landV_ok hr hn hd ⟨f, hf1, hf2⟩ hpos hown k2 (fun j d u hd hu => (r5 j d u hd hu).mono hmono) r4 (keep_alloc w _) (fun b hb => by simp only [Value.ownBlock, Option.some.injEq] at hb; subst hb; exact Nat.le_refl _) h
  exact ⟨_, _, I', μ', ν', q, hrun, q1, q2, q3, q4⟩
theorem els_sl {x : AV} {els : List D} {v : Value} (h : elsOf x = some els) (hv : VR w I μ ν s.ob x v) : ∃ A cp, v = .slice A els.length cp ∧ (els ≠ [] → VRd w I (.sl els) (.slice A els.length cp)) := by
  obtain ⟨A, cp, rfl, h1, h2⟩ := els_VR h hv
  exact ⟨A, cp, rfl, h1⟩
theorem newsR_of (hr : Rel P Z nt s a w I μ ν) {y : AV} {ys : List D} {u : Value} {sz : Nat} (h : elsR s.ob y = some ys) (hv : VR w I μ ν s.ob y u) (hs : ∀ y ∈ ys, y.cells.length = sz) :
    ∃ (A : Option Addr) (cp : Nat) (news : List Value), u = .slice A ys.length cp ∧ news.length = ys.length * sz ∧ (0 < ys.length → ∃ ad, A = some ad ∧ ∀ (j : Nat) (u : Value), news[j]? = some u → w.cell? (ad.add j) = some u) ∧ (∀ u ∈ news, u.oneCell' = true) ∧ ∀ (j : Nat) (d : D) (u : Value), (D.flat ys)[j]? = some d → news[j]? = some u → VRd w I d u := by
  have other : elsOf y = some ys → ∃ (A : Option Addr) (cp : Nat) (news : List Value), u = .slice A ys.length cp ∧ news.length = ys.length * sz ∧ (0 < ys.length → ∃ ad, A = some ad ∧ ∀ (j : Nat) (u : Value), news[j]? = some u → w.cell? (ad.add j) = some u) ∧ (∀ u ∈ news, u.oneCell' = true) ∧ ∀ (j : Nat) (d : D) (u : Value), (D.flat ys)[j]? = some d → news[j]? = some u → VRd w I d u := fun h => by
    obtain ⟨A, cp, rfl, hvd⟩ := els_sl h hv
    obtain ⟨news, n1, n2, n3, n4⟩ := news_of rfl hvd hs
    exact ⟨A, cp, news, rfl, n1, n2, n3, n4⟩
  cases y with
  | vs o g sz' lo hi =>
    replace h : vecEls g lo hi (s.ob o) = some ys := h
    have ho := hr.os o
    unfold vecEls at h
    split at h <;> first | (cases h; done) | skip
    rename_i g' mv fz e sz2 els hob
    rw [hob] at ho
    obtain ⟨xs, hvr⟩ := ho
    split at h <;> first | (cases h; done) | skip
    rename_i hgg
    subst hgg
    have h := Option.some.inj h
    cases hv with
    | vs _ _ _ _ _ _ hl hh =>
      obtain ⟨rfl, q1, q2, A0, n0, c0, A', e1, e2, e3, e4, e5⟩ := hh _ _ _ _ _ hob
      have hlen : ys.length = hi - lo := by rw [← h, List.length_drop, List.length_take]; omega
      by_cases h0 : ys = []
      · subst h0
        simp at hlen
        exact ⟨A', c0 - lo, [], by rw [e2, ← hlen]; rfl, by simp, by simp, by simp, by simp⟩
      · have hpos : 0 < ys.length := List.length_pos_iff.2 h0
        have hszz : sz = sz2 := by
          obtain ⟨y0, hy0⟩ := List.exists_mem_of_ne_nil _ h0
          rw [← hs y0 hy0]
          exact hvr.size y0 (by rw [← h] at hy0; exact List.mem_of_mem_take (List.mem_of_mem_drop hy0))
        subst hszz
        obtain ⟨b, hb, hcv, hcell⟩ := hvr.blk (by omega)
        have hxl := hvr.own.1
        have hA : A' = some ⟨b, lo * sz, none⟩ := by
          rw [e5 (by omega)]
          rcases hvr.own.2 with ⟨q, h1⟩ | ⟨b', cap, cur, q, _⟩
          · omega
          · rw [q] at e1 hb
            injection e1 with e1 _ _
            simp only [Value.ownBlock, Option.some.injEq] at hb
            subst hb
            rw [← e1]
            simp [Addr.add_lit]
        have hle : lo * sz + ys.length * sz ≤ xs.length := by
          rw [hxl, ← Nat.add_mul]
          exact Nat.mul_le_mul_right _ (by omega)
        have hnl : ((xs.drop (lo * sz)).take (ys.length * sz)).length = ys.length * sz := by simp; omega
        have hget : ∀ (j : Nat) (u : Value), ((xs.drop (lo * sz)).take (ys.length * sz))[j]? = some u → xs[lo * sz + j]? = some u := by
          intro j u hj
          rw [List.getElem?_take] at hj
          split at hj
          · rwa [List.getElem?_drop] at hj
          · cases hj
        refine ⟨A', c0 - lo, (xs.drop (lo * sz)).take (ys.length * sz), by rw [e2, hlen], hnl, fun _ => ⟨_, hA, fun j u hj => ?_⟩, fun u hu => hvr.one u (List.mem_of_mem_drop (List.mem_of_mem_take hu)), fun j d u hd hj => ?_⟩
        · rw [Addr.add_lit]
          exact hcell _ _ (hget j u hj)
        · refine hvr.rd (lo * sz + j) d u ?_ (hget j u hj)
          rw [← h] at hd
          exact flat_cut hvr.size (by omega) hd
  | _ => exact other h
theorem keep_grown {w w' : World} {row : Option Nat} {N : Nat → Prop} (hg : w.grownBy w' row) (hr : ∀ k, row = some k → N k) : Keep N w w' :=
  ⟨hg.os, hg.tape, hg.output, hg.size, fun k hk hn => hg.block k hk fun e => hn (hr k e.symm)⟩
theorem append_ok (hc : COk P c) (hr : Rel P Z nt s a w I μ ν) {nid : Nat} {v : AV} {e : List (Nat × AObj)} (hn : (nid < s.n ∧ s.ob nid = .dead) ∨ ∀ q, e ≠ [(nid, q)]) {dd : Bool} {t ty : TypeId} {x y : AV} {u u' : Value} (hx : VR w I μ ν s.ob x u) (hy : VR w I μ ν s.ob y u')
    (h : appendF c.T dd t x y s.ob nid = .val v e) :
    ∃ r w' I' μ' ν' o q, (Builtin.append_ #[t, t] ty #[u, u']).run P w = .ok r w' ∧ e = [(o, q)] ∧ (o = nid ∨ s.ob o ≠ .dead) ∧ Rel P Z nt { s with ob := upd s.ob o q } a w' I' μ' ν' ∧ VR w' I' μ' ν' (upd s.ob o q) v r ∧ v.sc (upd s.ob o q) := by
  unfold appendF at h
  split at h <;> first | (cases h; done) | skip
  rename_i et sz by_ zz hi
  have ht := (hc.T.ok hi).slice rfl
  split at h <;> first | (cases h; done) | skip
  rename_i i ys hti hys
  have hte := hc.T.ok hti
  split at h <;> first | (cases h; done) | skip
  rename_i hcond
  obtain ⟨hcl, hpos⟩ := hcond
  have hcl := szAll_iff.1 hcl
  obtain ⟨f, hf1, hf2, hf3, z, hf4, hf5, hf6⟩ := hte.info
  have hzs : z.cells.size = f.size := by omega
  obtain ⟨A, cp, news, rfl, n1, n2, n3, n4⟩ := newsR_of hr hys hy hcl
  have room : ∀ {n b : Nat}, roomB n b = true → n * b ≤ 140737488355328 ∧ n ≤ 9223372036854775807 := fun h => by simpa [roomB] using h
  split at h
  · split at h <;> first | (cases h; done) | skip
    rename_i hroom
    obtain ⟨hb, hm⟩ := room hroom
    obtain rfl := VR_nils hx
    obtain ⟨v', w', hrun, hown, hcase⟩ := app_law (P := P) w 0 t ty et f z ht hf1 hf4 hzs (by omega) (.slice none 0 0) 0 [] (World.ownsRow_nil ..) A ys.length cp news (by rw [hf2]; exact n1) n2 n3 (by omega) (by rw [hf3, Nat.zero_add]; exact hb) (Nat.zero_le _)
    simp only [Nat.zero_add, List.nil_append] at hown
    have hg : w.grownBy w' none := by
      rcases hcase with ⟨_, h⟩ | ⟨_, h⟩ <;> exact h
    have hblk : ∀ b, v'.ownBlock = some b → w.heap.size ≤ b := by
      intro b hb
      rcases hcase with ⟨h, _⟩ | ⟨h, _⟩
      · rw [h] at hb; cases hb
      · rw [h] at hb; injection hb with hb; omega
    have hk : Keep (fun b => w.heap.size ≤ b) w w' := keep_grown hg (by simp)
    rw [hf2] at hown
    have hn : nid < s.n ∧ s.ob nid = .dead := by
      rcases hn with hn | hn
      · exact hn
      · exfalso
        have h' := h
        unfold landV at h'
        split at h' <;> (injection h' with _ e2; exact hn _ e2.symm)
    obtain ⟨I', μ', ν', q, q1, q2, q3, q4⟩ := landV_ok hr hn.1 hn.2 ⟨f, hf1, hf2⟩ hpos hown hcl (fun j d u hd hu => (n4 j d u hd hu).mono fun b o hh => ⟨hh, World.cell?_of_block (hk.block b (hr.i2 b o hh) (Nat.not_le.2 (hr.i2 b o hh)))⟩) n3 hk hblk h
    exact ⟨_, _, I', μ', ν', nid, q, hrun, q1, .inl rfl, q2, q3, q4⟩
  · rename_i o g sz' lo hi_
    have ho := hr.os o
    unfold appVec at h
    split at h <;> first | (cases h; done) | skip
    rename_i g' mv fz e' sz2 els hob
    rw [hob] at ho
    obtain ⟨xs, hvr⟩ := ho
    split at h <;> first | (cases h; done) | skip
    rename_i hcond
    obtain ⟨rfl, rfl, rfl, rfl, hfz, hroom⟩ := hcond
    injection h with hz he
    subst hz; subst he
    obtain ⟨hb, hm⟩ := room hroom
    cases hx with
    | vs _ _ _ _ _ _ hl hh =>
      obtain ⟨_, _, q2, A0, n0, c0, A', e1, e2, e3, e4, e5⟩ := hh _ _ _ _ _ hob
      have hA : A' = A0 := e4 rfl
      subst hA
      simp only [Nat.sub_zero] at e2
      subst e2
      have hszf : f.size = sz2 := by
        obtain ⟨f', k1, k2⟩ := hvr.info
        rw [hf1] at k1; injection k1 with k1; subst k1; exact k2
      have hisz : i.size = sz2 := by omega
      rw [hisz] at hcl n1
      -- the part that is kept
      have htl : (els.take hi_).length = hi_ := by rw [List.length_take]; omega
      have hown0 : w.ownsRow 0 e' sz2 (.slice A' hi_ c0) hi_ (xs.take (hi_ * sz2)) := by
        have hle : hi_ * sz2 ≤ xs.length := by rw [hvr.own.1]; exact Nat.mul_le_mul_right _ q2
        refine ⟨by rw [List.length_take]; omega, ?_⟩
        rcases hvr.own.2 with ⟨q, h1⟩ | ⟨b', cap, cur, q, k1, k2, k3, k4, k5, k6⟩
        · rw [q] at e1; injection e1 with e1 e6 e7
          subst e1
          exact .inl ⟨by rw [← e7, show hi_ = 0 by omega], by omega⟩
        · rw [q] at e1; injection e1 with e1 e6 e7
          refine .inr ⟨b', cap, cur, by rw [← e1, ← e7], k1, k2, by omega, k4, k5, ?_⟩
          rw [← k6, List.take_take, Nat.min_eq_left (Nat.mul_le_mul_right _ q2)]
      have hownB : (Value.slice A' hi_ c0).ownBlock = (ν o).ownBlock := by rw [e1]; cases A' <;> rfl
      obtain ⟨v', w', hrun, hown, hcase⟩ := app_law (P := P) w 0 t ty e' f z ht hf1 hf4 hzs (by omega) (.slice A' hi_ c0) hi_ _ (by rw [hszf]; exact hown0) A ys.length cp news (by rw [hszf]; exact n1) n2 n3 (by omega) (by rw [hf3]; exact hb) (Nat.zero_le _)
      rw [hszf] at hown
      rw [hownB] at hcase
      let I' : Nat → Nat → Prop := fun b off => I b off ∨ (fz = true ∧ v'.ownBlock = some b ∧ off < (hi_ + ys.length) * sz2)
      have hold : ∀ b, (ν o).ownBlock = some b → Z.new b ∧ b < w.heap.size := fun b hb => ⟨hvr.new b hb, (hvr.own.lt b hb).2⟩
      have hcell : ∀ b off, I b off → w'.cell? ⟨b, off, none⟩ = w.cell? ⟨b, off, none⟩ := by
        intro b off hh
        rcases hcase with ⟨hv, hg⟩ | ⟨hv, hg⟩
        · by_cases e : (ν o).ownBlock = some b
          · have hf : fz = true := by
              cases hff : fz with
              | true => rfl
              | false => exact absurd hh (hvr.free hff b e off)
            have hie : hi_ = els.length := by
              rcases hfz with h | h
              · exact h
              · rw [hf] at h; cases h
            have hoff : off < els.length * sz2 := by
              rcases Nat.lt_or_ge off (els.length * sz2) with h | h
              · exact h
              · exact absurd hh (hvr.spare b e off h)
            have hlx : off < (xs.take (hi_ * sz2)).length := by rw [hown0.1, hie]; exact hoff
            have h1 := hown0.cells (hownB.trans e) off _ (List.getElem?_eq_getElem hlx)
            have h2 := hown.cells (hv.trans e) off _ (by rw [List.getElem?_append_left hlx]; exact List.getElem?_eq_getElem hlx)
            rw [Addr.add_lit, Nat.zero_add] at h1 h2
            rw [h1, h2]
          · exact World.cell?_of_block (hg.block b (hr.i2 b off hh) (fun e' => e e'.symm))
        · exact World.cell?_of_block (hg.block b (hr.i2 b off hh) (by simp))
      have hI : ∀ b off, I b off → I' b off ∧ w'.cell? ⟨b, off, none⟩ = w.cell? ⟨b, off, none⟩ := fun b off hh => ⟨.inl hh, hcell b off hh⟩
      have hlive : s.ob o ≠ .dead := by rw [hob]; simp
      have hgo : Goes s.ob (upd s.ob o (.vec (g' + 1) true fz e' sz2 (els.take hi_ ++ ys))) μ μ ν (upd ν o v') := ⟨fun o' h' => by
          by_cases e : o' = o
          · subst e; rw [upd_same]; exact ⟨by simp, rfl⟩
          · rw [upd_ne _ _ e]; exact ⟨h', rfl⟩, fun o' q mv' fz' e3 sz3 els3 h' => by
          by_cases e : o' = o
          · subst e
            rw [hob] at h'
            injection h' with a1 a2 a3 a4 a5 a6
            subst a1; subst a4; subst a5
            exact ⟨g' + 1, true, fz, _, by rw [upd_same], by omega, fun _ => rfl, fun h => absurd h (by rintro (h | h); (omega); (cases h))⟩
          · rw [upd_ne _ _ e, upd_ne _ _ e]; exact ⟨q, mv', fz', els3, h', Nat.le_refl _, id, fun _ => ⟨rfl, rfl⟩⟩⟩
      have hsize : w.heap.size ≤ w'.heap.size := by rcases hcase with ⟨_, h⟩ | ⟨_, h⟩ <;> exact h.size
      have hvnew : ∀ b, v'.ownBlock = some b → (ν o).ownBlock = some b ∨ b = w.heap.size := by
        intro b hb
        rcases hcase with ⟨h, _⟩ | ⟨h, _⟩
        · left; rw [← h]; exact hb
        · right; rw [h] at hb; injection hb with hb; exact hb.symm
      have hnewN : ∀ b, v'.ownBlock = some b → Z.new b := fun b hb => by
        rcases hvnew b hb with h | h
        · exact (hold b h).1
        · exact new_above hr (by omega)
      have hlen : (els.take hi_ ++ ys).length = hi_ + ys.length := by rw [List.length_append, htl]
      have hvr' : VecR P Z.new w' I' v' fz e' sz2 (els.take hi_ ++ ys) (xs.take (hi_ * sz2) ++ news) :=
        { info := hvr.info, pos := hvr.pos, own := by rw [hlen]; exact hown
          size := fun el hel => by
            rcases List.mem_append.1 hel with hel | hel
            · exact hvr.size el (List.mem_of_mem_take hel)
            · exact hcl el hel
          rd := fun j d u hd hu => by
            rw [flat_append] at hd
            have hfl : (D.flat (els.take hi_)).length = hi_ * sz2 := by rw [length_flat (sz := sz2) (fun x hx => hvr.size x (List.mem_of_mem_take hx)), htl]
            by_cases hj : j < hi_ * sz2
            · rw [List.getElem?_append_left (by omega)] at hd
              rw [List.getElem?_append_left (by rw [hown0.1]; exact hj), List.getElem?_take, if_pos hj] at hu
              refine (hvr.rd j d u ?_ hu).mono hI
              have := flat_cut (els := els) (l := 0) (h := hi_) hvr.size (Nat.zero_le _) (j := j) (d := d) (by simpa using hd)
              simpa using this
            · rw [List.getElem?_append_right (by omega), hfl] at hd
              rw [List.getElem?_append_right (by rw [hown0.1]; omega), hown0.1] at hu
              exact (n4 _ d u hd hu).mono hI
          one := fun u hu => by
            rcases List.mem_append.1 hu with hu | hu
            · exact hvr.one u (List.mem_of_mem_take hu)
            · exact n3 u hu
          new := hnewN
          spare := fun b hb off hoff hi => by
            rw [hlen] at hoff
            rcases hi with hi | ⟨_, _, hi⟩
            · rcases hvnew b hb with h | h
              · cases hff : fz with
                | false => exact hvr.free hff b h off hi
                | true =>
                  have hie : hi_ = els.length := by
                    rcases hfz with h | h
                    · exact h
                    · rw [hff] at h; cases h
                  exact hvr.spare b h off (Nat.le_trans (Nat.mul_le_mul_right _ (by omega)) hoff) hi
              · have := hr.i2 _ _ hi; omega
            · omega
          free := fun hff b hb off hi => by
            rcases hi with hi | ⟨h, _⟩
            · rcases hvnew b hb with h | h
              · exact hvr.free hff b h off hi
              · have := hr.i2 _ _ hi; omega
            · rw [hff] at h; cases h
          froz := fun hff b hb off hoff => .inr ⟨hff, hb, by rw [← hlen]; exact hoff⟩ }
      have hrel : Rel P Z nt { s with ob := upd s.ob o (.vec (g' + 1) true fz e' sz2 (els.take hi_ ++ ys)) } a w' I' μ (upd ν o v') := by
        refine hr.turn (hr.lt_n hlive) hI hgo (fun o' b hne hbk => ?_) (fun o' hne => ?_) ⟨_, by rw [upd_same]; exact hvr'⟩ (fun o' b hne hbk => ?_) ?_ (fun b off hh => ?_) (fun b off hh => ?_)
        · have hne' : (ν o).ownBlock ≠ some b := fun e => hr.sep o o' b (Ne.symm hne) (by rw [hob]; exact e) hbk
          refine ⟨?_, fun off hh => ?_⟩
          · rcases hcase with ⟨_, hg⟩ | ⟨_, hg⟩
            · exact hg.block b (hr.blk_lt hbk).1 (fun e => hne' e.symm)
            · exact hg.block b (hr.blk_lt hbk).1 (by simp)
          · rcases hh with hh | ⟨_, hh, _⟩
            · exact hh
            · rcases hvnew b hh with h | h
              · exact absurd h hne'
              · have := (hr.blk_lt hbk).1; omega
        · generalize s.ob o' = q
          cases q <;> simp [blkOf, upd_ne _ _ hne]
        · simp only [blkOf, upd_same]
          intro hv
          rcases hvnew b hv with h | h
          · exact hr.sep o o' b (Ne.symm hne) (by rw [hob]; exact h) hbk
          · have := (hr.blk_lt hbk).1; omega
        · rcases hcase with ⟨_, hg⟩ | ⟨_, hg⟩
          · exact hr.keep (N := fun k => (ν o).ownBlock = some k) (keep_grown hg fun k hk => hk) fun b _ hb => (hold b hb).1
          · exact hr.keep (N := fun _ => False) (keep_grown hg (by simp)) fun b _ hb => hb.elim
        · rcases hh with hh | ⟨_, hh, _⟩
          · exact .inl hh
          · exact .inr (hnewN b hh)
        · rcases hh with hh | ⟨_, hh, _⟩
          · exact Nat.lt_of_lt_of_le (hr.i2 b off hh) hsize
          · exact (hown.lt b hh).2
      refine ⟨v', w', I', μ, _, o, _, hrun, rfl, .inr hlive, hrel, .vs _ _ _ _ _ _ ?_ fun mv2 fz2 e2 sz3 els2 h2 => ?_, ⟨_, _, _, _, _, _, upd_same _ _ _, Nat.le_refl _⟩⟩
      · rcases hown.2 with ⟨rfl, h0⟩ | ⟨g, cap, cur, rfl, _, _, hnc, _⟩
        · exact ⟨none, 0, by simp [h0], by omega, fun h => by omega⟩
        · exact ⟨_, cap, rfl, by simpa using hnc, fun _ => ⟨g, 0, rfl⟩⟩
      · rw [upd_same] at h2
        injection h2 with _ _ _ _ e5 e6
        subst e5; subst e6
        rw [upd_same]
        refine ⟨rfl, Nat.zero_le _, by rw [hlen]; exact Nat.le_refl _, ?_⟩
        rcases hown.2 with ⟨rfl, h0⟩ | ⟨g, cap, cur, rfl, _, _, hnc, _⟩
        · exact ⟨none, 0, 0, none, rfl, by simp [h0], by omega, fun _ => rfl, fun h => by omega⟩
        · exact ⟨_, _, cap, _, rfl, rfl, hnc, fun _ => rfl, fun _ => by simp [Addr.add]⟩
  · rename_i oe
    cases hx with
    | fs _ A0 hd0 =>
    split at h <;> first | (cases h; done) | skip
    rename_i hoe
    have hoe := szAll_iff.1 hoe
    have hdn : ∀ q, e = [(nid, q)] → nid < s.n ∧ s.ob nid = .dead := fun q hq => by
      rcases hn with hn | hn
      · exact hn
      · exact absurd hq (hn q)
    obtain ⟨olds, o1, o2, o3, o4⟩ := news_of (w := w) (I := I) (ys := oe) (A := A0) (m := oe.length) (cp := oe.length) (sz := i.size) rfl (fun _ => hd0) hoe
    split at h
    · rename_i h0
      injection h with hz he
      subst hz
      obtain ⟨d1, d2⟩ := hdn _ he.symm
      have hob : upd s.ob nid .dead = s.ob := by
        funext q; simp only [upd]; split
        · rename_i e1; rw [e1, d2]
        · rfl
      have hnw : news = [] := List.eq_nil_of_length_eq_zero (by rw [n1, h0, Nat.zero_mul])
      refine ⟨.slice A0 oe.length oe.length, w, I, μ, ν, nid, .dead, ?_, he.symm, .inl rfl, ?_, ?_, trivial⟩
      · rw [h0]
        have hz0 : ∀ a : Addr, loadCells a 0 = pure #[] := fun a => rfl
        cases A <;> cases A0 <;>
          simp [Builtin.append_, run_underlying ht, sizeOf, typeInfo, hf1, Builtin.lenOf, Builtin.firstCells, storeCells, hz0]
      · rw [hob]; exact hr
      · rw [hob]; exact VR.fs oe A0 hd0
    · rename_i h0
      split at h <;> first | (cases h; done) | skip
      rename_i hroom
      obtain ⟨hb, hm⟩ := room hroom
      obtain ⟨v', w', hrun, hown, hblk0, hg⟩ := app_lawF (P := P) w t ty et f z ht hf1 hf4 hzs (by omega) A0 oe.length olds (by rw [hf2]; exact o1) o2 A ys.length cp news (by rw [hf2]; exact n1) n2 n3 (by omega) (by rw [hf3]; exact hb) (by omega)
      have hblk : ∀ b, v'.ownBlock = some b → w.heap.size ≤ b := by
        intro b hb
        rw [hblk0] at hb; injection hb with hb; omega
      have hk : Keep (fun b => w.heap.size ≤ b) w w' := keep_grown hg (by simp)
      rw [hf2] at hown
      have hn : nid < s.n ∧ s.ob nid = .dead := by
        rcases hn with hn | hn
        · exact hn
        · exfalso
          have h' := h
          unfold landV at h'
          split at h' <;> (injection h' with _ e2; exact hn _ e2.symm)
      have hsub : ∀ b o, I b o → I b o ∧ w'.cell? ⟨b, o, none⟩ = w.cell? ⟨b, o, none⟩ := fun b o hh => ⟨hh, World.cell?_of_block (hk.block b (hr.i2 b o hh) (Nat.not_le.2 (hr.i2 b o hh)))⟩
      have hall : ∀ x ∈ oe ++ ys, x.cells.length = i.size := fun x hx => by
        rcases List.mem_append.1 hx with hx | hx
        · exact hoe x hx
        · exact hcl x hx
      rw [← List.length_append] at hown
      have hrd : ∀ (j : Nat) (d : D) (u : Value), (D.flat (oe ++ ys))[j]? = some d → (olds ++ news)[j]? = some u → VRd w' I d u := fun j d u hd hu => by
        rw [flat_append] at hd
        have hfl : (D.flat oe).length = olds.length := by rw [length_flat hoe, o1]
        by_cases hj : j < olds.length
        · rw [List.getElem?_append_left (by omega)] at hd
          rw [List.getElem?_append_left hj] at hu
          exact (o4 j d u hd hu).mono hsub
        · rw [List.getElem?_append_right (by omega)] at hd
          rw [List.getElem?_append_right (by omega)] at hu
          rw [hfl] at hd
          exact (n4 _ d u hd hu).mono hsub
      have hone : ∀ u ∈ olds ++ news, u.oneCell' = true := fun u hu => by
        rcases List.mem_append.1 hu with hu | hu
        · exact o3 u hu
        · exact n3 u hu
      obtain ⟨I', μ', ν', q, q1, q2, q3, q4⟩ := landV_ok hr hn.1 hn.2 ⟨f, hf1, hf2⟩ hpos hown hall hrd hone hk hblk h
      exact ⟨_, _, I', μ', ν', nid, q, hrun, q1, .inl rfl, q2, q3, q4⟩
  · cases h
theorem flat_replicate {z : D} {zs : List D} (hz : z.cells = zs) {n i : Nat} {d : D} (h : (D.flat (List.replicate n z))[i]? = some d) : 0 < zs.length ∧ zs[i % zs.length]? = some d := by
  have hs : ∀ e ∈ List.replicate n z, e.cells.length = zs.length := fun e he => by rw [List.eq_of_mem_replicate he, hz]
  have hlt : i < n * zs.length := by
    have := (List.getElem?_eq_some_iff.1 h).1
    rw [length_flat hs, List.length_replicate] at this
    exact this
  have hpos : 0 < zs.length := by
    rcases Nat.eq_zero_or_pos zs.length with h0 | h0
    · rw [h0] at hlt; omega
    · exact h0
  refine ⟨hpos, ?_⟩
  have hq : i / zs.length < n := Nat.div_lt_of_lt_mul (by rw [Nat.mul_comm]; exact hlt)
  have hr : i % zs.length < zs.length := Nat.mod_lt _ hpos
  have := flat_get hs (i := i / zs.length) (j := i % zs.length) (e := z) (c := zs[i % zs.length]) (by simp [hq]) (by rw [hz]; exact List.getElem?_eq_getElem hr)
  have hdm : i / zs.length * zs.length + i % zs.length = i := by rw [Nat.mul_comm]; exact Nat.div_add_mod i _
  rw [hdm, h] at this
  rw [List.getElem?_eq_getElem hr, this]
theorem zeroD_ok {t : TypeId} {i : TyI} (ht : TyOk P t i) {d : D} (h : i.zeroD = some d) (w : World) (I : Nat → Nat → Prop) : ∃ (f : TypeInfo) (z : Value), P.info? t = some f ∧ f.zero = some z ∧ f.size = i.size ∧ f.bytes = i.bytes ∧ VRd w I d z ∧ d.cells.length = i.size ∧ z.cells.size = i.size ∧
    (∀ (k : Nat) (x : D) (v : Value), d.cells[k]? = some x → z.cells.toList[k]? = some v → VRd w I x v) ∧ ∀ v ∈ z.cells.toList, v.oneCell' = true := by
  obtain ⟨f, h1, h2, h3, z, h4, h5, h6⟩ := ht.info
  have hsh := ht.shape f z h1 h4
  obtain ⟨l1, l2, l3, l4⟩ := lits_VR (s := ⟨fun _ => .junk, fun _ => .dead, 0⟩) (w := w) (I := I) (μ := fun _ => 0) (ν := fun _ => undef) h5
  unfold TyI.zeroD at h
  split at h
  · rename_i zs hzs
    obtain ⟨d1, d2⟩ := toDs_get hzs
    have cell : ∀ (k : Nat) (x : D) (v : Value), zs[k]? = some x → z.cells.toList[k]? = some v → VRd w I x v := fun k x v hx hv => by
      obtain ⟨cc, e1, e2⟩ := d2 k x hx
      exact toD_VR e2 (l4 k cc v e1 hv)
    have hlen : zs.length = i.size := by rw [d1, ← l1, Array.length_toList, h6]
    split at h
    · rename_i hagg
      injection h with h
      subst h
      rw [hagg] at hsh
      cases z with
      | agg cs =>
        refine ⟨f, _, h1, h4, h2, h3, ?_, hlen, h6, cell, l2⟩
        have := VRd.agg (w := w) (I := I) zs cs.toList (by rw [hlen, ← h6]; simp [Value.cells]) l2 cell
        simpa using this
      | _ => cases hsh
    · rename_i hagg
      split at h
      · rename_i zs z1
        injection h with h
        subst h
        have hz : isAggV z = false := by rw [hsh]; simpa using hagg
        have hzc : z.cells = #[z] := by cases z <;> first | rfl | cases hz
        have hv := cell 0 z1 z rfl (by rw [hzc]; rfl)
        have hc : z1.cells = [z1] := by cases hv <;> first | rfl | cases hz
        refine ⟨f, z, h1, h4, h2, h3, hv, by (rw [hc, ← hlen]), h6, fun k x v hx hv' => cell k x v (by rw [hc] at hx; exact hx) hv', l2⟩
      · cases h
  · cases h
theorem make_ok (hc : COk P c) (hr : Rel P Z nt s a w I μ ν) {nid : Nat} (hn : nid < s.n) (hd : s.ob nid = .dead) {dd : Bool} {t : TypeId} {x y v : AV} {u u' : Value} {e : List (Nat × AObj)} (hx : VR w I μ ν s.ob x u) (hy : VR w I μ ν s.ob y u')
    (h : makeSliceF c.T dd t x y nid = .val v e) : ∃ r w' I' μ' ν' q, (Instr.makeSlice t u u').run P w = .ok r w' ∧ e = [(nid, q)] ∧ Rel P Z nt { s with ob := upd s.ob nid q } a w' I' μ' ν' ∧ VR w' I' μ' ν' (upd s.ob nid q) v r ∧ v.sc (upd s.ob nid q) := by
  unfold makeSliceF at h
  split at h <;> first | (cases h; done) | skip
  rename_i et _ _ _ hi
  have ht := (hc.T.ok hi).slice rfl
  split at h <;> first | (cases h; done) | skip
  rename_i i kl n kc m hie
  have hte := hc.T.ok hie
  split at h <;> first | (cases h; done) | skip
  rename_i hcond
  obtain ⟨h0, hnm, hm, hb, hsz, hnn⟩ := hcond
  split at h <;> first | (cases h; done) | skip
  rename_i zd hzd
  obtain rfl := VR_int hx
  obtain rfl := VR_int hy
  obtain ⟨f, g1, g2, g3, zv, g4, _, g6⟩ := hte.info
  have hmN : ((m.toNat : Nat) : Int) = m := Int.toNat_of_nonneg (by omega)
  obtain ⟨f', z, k1, k2, k3, k4, k5, k6, k7, k8, k9⟩ := zeroD_ok hte hzd w I
  rw [g1] at k1; injection k1 with k1; subst k1
  rw [g4] at k2; injection k2 with k2; subst k2
  rcases hnn with hn0 | hn0
  · subst hn0
    obtain ⟨w', r1, r2, r3⟩ := run_make_own (P := P) w 0 t et f zv i.size ht g1 g4 g2 kl kc m.toNat (by rw [g3, Nat.mul_comm]; omega) (by simp only [maxLen]; omega) (Nat.zero_le _)
    rw [hmN] at r1
    have hk : Keep (fun b => w.heap.size ≤ b) w w' := keep_grown r3 (by simp)
    obtain ⟨I', μ', ν', q, q1, q2, q3, q4⟩ := landV_ok hr hn hd (els := List.replicate (0 : Int).toNat zd) (xs := []) ⟨f, g1, g2⟩ hsz (by simpa using r2) (by simp) (by simp) (by simp) hk (fun b hb => by simp [Value.ownBlock] at hb; omega) h
    exact ⟨_, _, I', μ', ν', q, r1, q1, q2, q3, q4⟩
  · subst hn0
    have hbz : (f.bytes : Int) * n ≤ 281474976710656 := by
      have : ((n.toNat * f.bytes : Nat) : Int) ≤ 140737488355328 := by rw [g3]; omega
      rw [Int.natCast_mul, hmN, Int.mul_comm] at this
      omega
    have r1 := run_make (P := P) w t et f zv ht g1 g4 kl kc n n h0 (Int.le_refl _) hbz (by omega)
    have hown : (w.alloc (.cells (madeCells zv.cells (n.toNat * f.size)) et)).ownsRow 0 et i.size (.slice (some ⟨w.heap.size, 0, none⟩) n.toNat n.toNat) (List.replicate n.toNat zd).length (madeCells zv.cells (n.toNat * f.size)).toList := by
      rw [List.length_replicate, g2]
      refine ⟨by simp [size_madeCells], .inr ⟨w.heap.size, n.toNat, _, rfl, Nat.zero_le _, heap_alloc_new w _, Nat.le_refl _, ?_, by simp [size_madeCells], ?_⟩⟩
      · simp only [maxLen]; omega
      · rw [List.take_of_length_le (by simp [size_madeCells])]
    have hmono : ∀ b o, I b o → I b o ∧ (w.alloc (.cells (madeCells zv.cells (n.toNat * f.size)) et)).cell? ⟨b, o, none⟩ = w.cell? ⟨b, o, none⟩ := fun b o hh => ⟨hh, World.cell?_alloc_lt w _ ⟨b, o, none⟩ (hr.i2 b o hh)⟩
    obtain ⟨I', μ', ν', q, q1, q2, q3, q4⟩ := landV_ok hr hn hd ⟨f, g1, g2⟩ hsz hown (fun el hel => by rw [List.eq_of_mem_replicate hel, k6]) (fun j d v hd hv => by
        obtain ⟨p1, p2⟩ := flat_replicate rfl hd
        have hcs : zd.cells.length = zv.cells.size := by rw [k6, g6]
        have hi' : j < n.toNat * f.size := by
          have := (List.getElem?_eq_some_iff.1 hv).1
          simpa [size_madeCells] using this
        have hmod : j % zv.cells.size < zv.cells.size := Nat.mod_lt _ (by omega)
        have hv' : v = zv.cells[j % zv.cells.size] := by
          simp only [madeCells, Array.getElem?_toList, Array.getElem?_map, Array.getElem?_range] at hv
          rw [if_pos hi'] at hv
          simp only [Option.map_some, Option.some.injEq] at hv
          rw [← hv, getElem!_pos zv.cells _ hmod]
        rw [hcs] at p2
        exact (k8 _ d v p2 (by rw [hv']; simp [hmod])).mono hmono) (fun v hv => by
        simp only [madeCells, Array.toList_map, List.mem_map] at hv
        obtain ⟨q, _, rfl⟩ := hv
        have hmod : q % zv.cells.size < zv.cells.size := Nat.mod_lt _ (by omega)
        rw [getElem!_pos zv.cells _ hmod]
        exact k9 _ (by simp)) (keep_alloc w _) (fun b hb => by simp [Value.ownBlock] at hb; omega) h
    exact ⟨_, _, I', μ', ν', q, r1, q1, q2, q3, q4⟩
theorem run_append_make {P : Program} (w : World) (t u ty e : TypeId) (k k' : IntKind) (f : TypeInfo) (z : Value) (ht : P.underlying t = some (.slice e)) (hu : P.underlying u = some (.int k)) (hi : P.info? e = some f) (hz : f.zero = some z) (n : Nat) (h0 : 0 < n) (hn : n ≤ 1099511627776) (hb : n * f.bytes ≤ 140737488355328) (hs : 0 < f.size) :
    (Builtin.append_ #[t, u] ty #[.slice none 0 0, .int k' n]).run P w = .ok (.slice (some ⟨w.heap.size, 0, none⟩) n (grownCap w n 0 e)) (w.drew.alloc (.cells (Builtin.zeroCells z.cells n ++ Builtin.zeroCells z.cells (grownCap w n 0 e - n)) e)) := by
  have hn0 : n ≠ 0 := by omega
  have hs0 : f.size ≠ 0 := by omega
  have hns : n * f.size ≠ 0 := Nat.mul_ne_zero hn0 hs0
  have hw : IntKind.i64.wrap (n : Int) = n := by simp [IntKind.wrap, IntKind.bits, IntKind.signed]; omega
  have h1 : ¬ ((n : Int) < 0) := by omega
  have h2 : ¬ ((281474976710656 : Int) < n * f.bytes) := by rw [← Int.natCast_mul]; omega
  have h63' : ¬ (9223372036854775807 < (n : Int)) := by omega
  have h48' : ¬ (281474976710656 < Builtin.nextslicecap n 0 * f.bytes) := by rw [nextslicecap_zero h0]; omega
  simp [Builtin.append_, run_underlying ht, run_underlying hu, sizeOf, typeInfo, zeroValue, hi, hz, asInt, asIntOf, hw, h1, h2, hn0, hs0, h63', h48', Question.forced, run_firstCells_none, newRow, grownCap]
  exact fun h => absurd h hns
theorem appMk_ok (hc : COk P c) (hr : Rel P Z nt s a w I μ ν) {nid : Nat} (hn : nid < s.n) (hd : s.ob nid = .dead) {dd : Bool} {t u ty : TypeId} {x y v : AV} {p q : Value} {e : List (Nat × AObj)} (hx : VR w I μ ν s.ob x p) (hy : VR w I μ ν s.ob y q)
    (h : appMkF c.T dd t u x y nid = .val v e) : ∃ r w' I' μ' ν' q', (Builtin.append_ #[t, u] ty #[p, q]).run P w = .ok r w' ∧ e = [(nid, q')] ∧ Rel P Z nt { s with ob := upd s.ob nid q' } a w' I' μ' ν' ∧ VR w' I' μ' ν' (upd s.ob nid q') v r ∧ v.sc (upd s.ob nid q') := by
  unfold appMkF at h
  split at h <;> first | (cases h; done) | skip
  rename_i et _ _ _ ku _ _ _ kn n hi hu
  have ht := (hc.T.ok hi).slice rfl
  have hui := (hc.T.ok hu).int rfl
  split at h <;> first | (cases h; done) | skip
  rename_i i hie
  have hte := hc.T.ok hie
  split at h <;> first | (cases h; done) | skip
  rename_i hcond
  obtain ⟨h0, hm, hb, hsz⟩ := hcond
  split at h <;> first | (cases h; done) | skip
  rename_i zd hzd
  obtain rfl := VR_nils hx
  obtain rfl := VR_int hy
  obtain ⟨f, g1, g2, g3, zv, g4, _, g6⟩ := hte.info
  have hmN : ((n.toNat : Nat) : Int) = n := Int.toNat_of_nonneg (by omega)
  obtain ⟨f', z, k1, k2, k3, k4, k5, k6, k7, k8, k9⟩ := zeroD_ok hte hzd w I
  rw [g1] at k1; injection k1 with k1; subst k1
  rw [g4] at k2; injection k2 with k2; subst k2
  have r1 := run_append_make (P := P) w t u ty et _ kn f zv ht hui g1 g4 n.toNat (by omega) (by omega) (by rw [g3]; exact hb) (by omega)
  rw [hmN] at r1
  have hge := grownCap_ge w n.toNat 0 et
  have hcm : grownCap w n.toNat 0 et ≤ maxLen := grownCap_le_maxLen w n.toNat 0 et (by simp only [maxLen]; omega)
  have hown : (w.drew.alloc (.cells (Builtin.zeroCells zv.cells n.toNat ++ Builtin.zeroCells zv.cells (grownCap w n.toNat 0 et - n.toNat)) et)).ownsRow 0 et i.size (.slice (some ⟨w.heap.size, 0, none⟩) n.toNat (grownCap w n.toNat 0 et)) (List.replicate n.toNat zd).length (Builtin.zeroCells zv.cells n.toNat).toList := by
    rw [List.length_replicate]
    refine ⟨by simp [size_zeroCells, g6], .inr ⟨w.heap.size, _, _, rfl, Nat.zero_le _, heap_alloc_new w.drew _, hge, hcm, ?_, ?_⟩⟩
    · simp only [Array.size_append, size_zeroCells, g6, ← Nat.add_mul]
      congr 1
      omega
    · simp only [Array.toList_append]
      exact List.take_left' (by simp [size_zeroCells, g6])
  have hk : Keep (fun b => w.heap.size ≤ b) w (w.drew.alloc (.cells (Builtin.zeroCells zv.cells n.toNat ++ Builtin.zeroCells zv.cells (grownCap w n.toNat 0 et - n.toNat)) et)) := keep_grown (row := none) ⟨rfl, rfl, rfl, by simp, fun k hk _ => heap_alloc_old w.drew _ k hk⟩ (by simp)
  obtain ⟨I', μ', ν', q', q1, q2, q3, q4⟩ := landV_ok hr hn hd ⟨f, g1, g2⟩ hsz hown (fun el hel => by rw [List.eq_of_mem_replicate hel, k6]) (fun j d v hd hv => by
      obtain ⟨p1, p2⟩ := flat_replicate rfl hd
      have hcs : zd.cells.length = zv.cells.size := by rw [k6, g6]
      have hi' : j < n.toNat * zv.cells.size := by
        have := (List.getElem?_eq_some_iff.1 hv).1
        simpa [size_zeroCells] using this
      have hmod : j % zv.cells.size < zv.cells.size := Nat.mod_lt _ (by omega)
      have hv' : v = zv.cells[j % zv.cells.size] := by
        simp only [Builtin.zeroCells, Array.getElem?_toList, Array.getElem?_map, Array.getElem?_range] at hv
        rw [if_pos hi'] at hv
        simp only [Option.map_some, Option.some.injEq] at hv
        rw [← hv, getElem!_pos zv.cells _ hmod]
      rw [hcs] at p2
      exact (k8 _ d v p2 (by rw [hv']; simp [hmod])).mono fun b o hh => ⟨hh, World.cell?_of_block (hk.block b (hr.i2 b o hh) (Nat.not_le.2 (hr.i2 b o hh)))⟩) (fun v hv => by
      simp only [Builtin.zeroCells, Array.toList_map, List.mem_map] at hv
      obtain ⟨q, _, rfl⟩ := hv
      have hmod : q % zv.cells.size < zv.cells.size := Nat.mod_lt _ (by omega)
      rw [getElem!_pos zv.cells _ hmod]
      exact k9 _ (by simp)) hk (fun b hb => by simp [Value.ownBlock] at hb; omega) h
  exact ⟨_, _, I', μ', ν', q', r1, q1, q2, q3, q4⟩
theorem vec_write (hr : Rel P Z nt s a w I μ ν) {o g : Nat} {mv : Bool} {te : TypeId} {sz : Nat} {els els' : List D} (hob : s.ob o = .vec g mv false te sz els) {p : Nat} {us : List Value} {ds : List D} (hul : ds.length = us.length) (hp : p + us.length ≤ els.length * sz) (hpos : 0 < els.length)
    (hlen : els'.length = els.length) (hsz : ∀ e ∈ els', e.cells.length = sz) (hflat : D.flat els' = (D.flat els).take p ++ ds ++ (D.flat els).drop (p + ds.length)) (hrd : ∀ (q : Nat) (d : D) (u : Value), ds[q]? = some d → us[q]? = some u → VRd w I d u) (h1 : ∀ u ∈ us, u.oneCell' = true) :
    ∃ b cap w', ν o = .slice (some ⟨b, 0, none⟩) els.length cap ∧ (storeCells ⟨b, p, none⟩ us).run P w = .ok () w' ∧ Rel P Z nt { s with ob := upd s.ob o (.vec g mv false te sz els') } a w' I μ ν := by
  have ho := hr.os o
  rw [hob] at ho
  obtain ⟨xs, hvr⟩ := ho
  have hxl : xs.length = els.length * sz := hvr.own.1
  rcases hvr.own.2 with ⟨_, h0⟩ | ⟨b', cap, cur, hνv, _, hheap, hncap, hcapm, hcs, htake⟩
  · omega
  have hb : (ν o).ownBlock = some b' := by rw [hνv]; rfl
  have hcur : cur = cur.toList.toArray := by simp
  have hfit : els.length * sz ≤ cur.toList.length := by
    have e0 : cur.toList.length = cap * sz := by rw [← hcs]; simp
    rw [e0]; exact Nat.mul_le_mul_right _ hncap
  have hst := run_storeCells_at P b' p te us 0 cur.toList.toArray w (by rw [← hcur]; exact hheap) (by simp; simp at hfit; omega) h1
  simp only [Nat.add_zero] at hst
  refine ⟨b', cap, w.setRow b' (cur.toList.take p ++ us ++ cur.toList.drop (p + us.length)).toArray, hνv, by simpa using hst, ?_⟩
  have hfl : (D.flat els).length = xs.length := by rw [length_flat hvr.size, hxl]
  obtain ⟨s1, s2⟩ := splice_VR (R := VRd w I) (cs := D.flat els) (ds := ds) (vs := xs) (us := us) (k := p) hfl hul (by omega) hvr.rd hrd
  rw [← hflat] at s1 s2
  have hnI : ∀ off, ¬ I b' off := hvr.free rfl b' hb
  have hI : ∀ b off, I b off → I b off ∧ (w.setRow b' (cur.toList.take p ++ us ++ cur.toList.drop (p + us.length)).toArray).cell? ⟨b, off, none⟩ = w.cell? ⟨b, off, none⟩ := fun b off hh =>
    ⟨hh, cell_setRow_other w _ _ _ (by rintro rfl; exact hnI _ hh)⟩
  have hlive : s.ob o ≠ .dead := by rw [hob]; simp
  have hg : Goes s.ob (upd s.ob o (.vec g mv false te sz els')) μ μ ν ν := goes_upd hlive (by simp) (fun g2 mv2 fz2 e2 sz2 els2 h2 => by
    rw [hob] at h2
    injection h2 with e1 e2 e3 e4 e5 e6
    subst e1; subst e2; subst e4; subst e5; subst e6
    exact ⟨false, _, rfl, hlen⟩)
  refine hr.turn (hr.lt_n hlive) hI hg (fun o' b hne hbk => ⟨setRow_other w _ _ _ ?_, fun off hh => hh⟩) (fun o' hne => rfl) ⟨xs.take p ++ us ++ xs.drop (p + us.length), ?_⟩ (fun o' b hne hbk => ?_) ?_ (fun b off h => .inl h) (fun b off hh => by simpa using hr.i2 b off hh)
  · rintro rfl
    exact hr.sep o o' _ (Ne.symm hne) (by rw [hob]; exact hb) hbk
  · refine { info := hvr.info, pos := hvr.pos, own := ⟨?_, .inr ⟨b', cap, _, by rw [hlen]; exact hνv, Nat.zero_le _, setRow_heap w _ _ _ te (0, 0) hheap, by rw [hlen]; exact hncap, hcapm, ?_, ?_⟩⟩, size := hsz, rd := fun q d vv hd hv => (s2 q d vv hd hv).mono hI, one := fun vv hvv => ?_, new := hvr.new, spare := fun b2 hb2 off hoff => hvr.spare b2 hb2 off (by rw [hlen] at hoff; exact hoff), free := fun _ => hvr.free rfl, froz := fun h => by cases h }
    · simp only [hlen, ← hxl]; simp; omega
    · simp; simp at hfit; omega
    · simp only [hlen]
      rw [take_splice (by omega) (by omega), htake]
    · rcases List.mem_append.1 hvv with hm | hm
      · rcases List.mem_append.1 hm with hm | hm
        · exact hvr.one vv (List.mem_of_mem_take hm)
        · exact h1 vv hm
      · exact hvr.one vv (List.mem_of_mem_drop hm)
  · intro e
    exact hr.sep o o' b (Ne.symm hne) (by rw [hob]; exact e) hbk
  · exact hr.keep (N := fun b => b = b') ⟨rfl, rfl, rfl, by simp, fun q hq hn => setRow_other w _ _ _ hn⟩ fun b2 _ hb2 => by subst hb2; exact hvr.new _ hb
theorem clear_ok (hc : COk P c) (hr : Rel P Z nt s a w I μ ν) {t ty : TypeId} {x : AV} {u : Value} {z : AV} {e : List (Nat × AObj)} (hx : VR w I μ ν s.ob x u) (h : clearF c.T t x s.ob = .val z e) :
    z = .junk ∧ ∃ r w' o q, (Builtin.clear_ #[t] ty #[u]).run P w = .ok r w' ∧ e = [(o, q)] ∧ s.ob o ≠ .dead ∧ Rel P Z nt { s with ob := upd s.ob o q } a w' I μ ν := by
  unfold clearF at h
  split at h <;> first | (cases h; done) | skip
  rename_i et _ _ _ hi
  have ht := (hc.T.ok hi).slice rfl
  split at h <;> first | (cases h; done) | skip
  rename_i i hie
  have hte := hc.T.ok hie
  split at h <;> first | (cases h; done) | skip
  rename_i o g sz lo hi'
  unfold clearVec at h
  split at h <;> first | (cases h; done) | skip
  rename_i g' mv fz te sz' els hob
  split at h <;> first | (cases h; done) | skip
  rename_i hcond
  obtain ⟨rfl, rfl, rfl, hsz, hle, hhl⟩ := hcond
  split at h <;> first | (cases h; done) | skip
  rename_i zd hzd
  split at h <;> first | (cases h; done) | skip
  rename_i hzl
  injection h with hz he
  subst hz; subst he
  refine ⟨rfl, ?_⟩
  have hlive : s.ob o ≠ .dead := by rw [hob]; simp
  cases hx with
  | vs _ _ _ _ _ _ hl hh =>
    obtain ⟨_, _, _, A0, n0, c0, A', e1, e2, e3, e4, e5⟩ := hh _ _ _ _ _ hob
    obtain ⟨A2, c2, e6, _, hA2⟩ := hl
    rw [e2] at e6
    injection e6 with e7 e8 e9
    by_cases hlt : lo < hi'
    · obtain ⟨f', zv, k1, k2, k3, k4, k5, k6, k7, k8, k9⟩ := zeroD_ok hte hzd w I
      obtain ⟨zv', hz1, _⟩ := hte.zero
      have hzv : zv' = zv := by
        have h7 := hz1 w
        simp [zeroValue, typeInfo, k1, k2] at h7
        exact h7.symm
      subst hzv
      have hvo : ∃ xs, VecR P Z.new w I (ν o) false te sz' els xs := by have ho := hr.os o; rw [hob] at ho; exact ho
      obtain ⟨xs, hvr⟩ := hvo
      have hflat : D.flat (els.take lo ++ List.replicate (hi' - lo) zd ++ els.drop hi') = (D.flat els).take (lo * sz') ++ D.flat (List.replicate (hi' - lo) zd) ++ (D.flat els).drop (lo * sz' + (D.flat (List.replicate (hi' - lo) zd)).length) := by
        have l1 : (D.flat (List.replicate (hi' - lo) zd)).length = (hi' - lo) * sz' := by
          rw [length_flat (sz := sz') fun e he => by rw [List.eq_of_mem_replicate he]; exact hzl, List.length_replicate]
        rw [l1, flat_append, flat_append]
        have f1 : (D.flat els).take (lo * sz') = D.flat (els.take lo) := by
          conv => lhs; rw [← List.take_append_drop lo els, flat_append]
          rw [List.take_left' (by rw [length_flat (sz := sz') fun e he => hvr.size e (List.mem_of_mem_take he), List.length_take, Nat.min_eq_left (by omega)])]
        have f2 : (D.flat els).drop (lo * sz' + (hi' - lo) * sz') = D.flat (els.drop hi') := by
          rw [← Nat.add_mul, show lo + (hi' - lo) = hi' by omega]
          conv => lhs; rw [← List.take_append_drop hi' els, flat_append]
          rw [List.drop_left' (by rw [length_flat (sz := sz') fun e he => hvr.size e (List.mem_of_mem_take he), List.length_take, Nat.min_eq_left (by omega)])]
        rw [f1, f2]
      have hul : (D.flat (List.replicate (hi' - lo) zd)).length = (Builtin.zeroCells zv'.cells (hi' - lo)).toList.length := by
        rw [length_flat (sz := sz') fun e he => by rw [List.eq_of_mem_replicate he]; exact hzl, List.length_replicate, Array.length_toList, size_zeroCells, k7, hsz]
      have hul2 : (Builtin.zeroCells zv'.cells (hi' - lo)).toList.length = (hi' - lo) * sz' := by rw [Array.length_toList, size_zeroCells, k7, hsz]
      have hzget : ∀ (q : Nat) (v : Value), (Builtin.zeroCells zv'.cells (hi' - lo)).toList[q]? = some v → q % zv'.cells.size < zv'.cells.size ∧ zv'.cells.toList[q % zv'.cells.size]? = some v := fun q v hv => by
        have hq : q < (hi' - lo) * zv'.cells.size := by
          have := (List.getElem?_eq_some_iff.1 hv).1
          rw [Array.length_toList, size_zeroCells] at this
          exact this
        have hpz : 0 < zv'.cells.size := by
          rcases Nat.eq_zero_or_pos zv'.cells.size with h0 | h0
          · rw [h0] at hq; omega
          · exact h0
        have hm := Nat.mod_lt q hpz
        refine ⟨hm, ?_⟩
        simp only [Builtin.zeroCells, Array.getElem?_toList, Array.getElem?_map, Array.getElem?_range] at hv
        rw [if_pos hq] at hv
        simp only [Option.map_some, Option.some.injEq] at hv
        rw [← hv, Array.getElem?_toList, getElem!_pos zv'.cells _ hm, Array.getElem?_eq_getElem hm]
      obtain ⟨b, cap, w', h1, h2, h3⟩ := vec_write hr hob (p := lo * sz') (us := (Builtin.zeroCells zv'.cells (hi' - lo)).toList) (ds := D.flat (List.replicate (hi' - lo) zd)) (els' := els.take lo ++ List.replicate (hi' - lo) zd ++ els.drop hi') hul
        (by rw [hul2, ← Nat.add_mul]; exact Nat.mul_le_mul_right _ (by omega)) (by omega) (by simp; omega) (fun el hel => by
          rcases List.mem_append.1 hel with hel | hel
          · rcases List.mem_append.1 hel with hel | hel
            · exact hvr.size el (List.mem_of_mem_take hel)
            · rw [List.eq_of_mem_replicate hel]; exact hzl
          · exact hvr.size el (List.mem_of_mem_drop hel)) hflat (fun q d v hd hv => by
          obtain ⟨p1, p2⟩ := flat_replicate rfl hd
          obtain ⟨p3, p4⟩ := hzget q v hv
          rw [hzl, ← hsz, ← k7] at p2
          exact k8 _ _ _ p2 p4) (fun v hv => by
          obtain ⟨q, hq⟩ := List.getElem?_of_mem hv
          exact k9 v (List.mem_of_getElem? (hzget q v hq).2))
      rw [h1] at e1
      injection e1 with e10 e11 e12
      subst e10; subst e12
      have hA : A' = some ⟨b, lo * sz', none⟩ := by
        rw [e5 (by omega)]
        simp only [Option.map_some, Addr.add, Nat.zero_add]
        by_cases hz0 : lo * sz' = 0
        · rw [if_pos hz0, hz0]
        · rw [if_neg hz0]
      refine ⟨.tuple #[], w', o, _, ?_, rfl, hlive, h3⟩
      subst e2
      rw [hA]
      have hn0 : ∃ k, hi' - lo = k + 1 := ⟨hi' - lo - 1, by omega⟩
      obtain ⟨k, hk⟩ := hn0
      rw [hk] at h2 ⊢
      simp [Builtin.clear_, run_underlying ht, hz1, h2]
    · have heq : els.take lo ++ List.replicate (hi' - lo) zd ++ els.drop hi' = els := by
        have : hi' = lo := by omega
        subst this
        simp
      refine ⟨.tuple #[], w, o, _, ?_, rfl, hlive, ?_⟩
      · subst e2
        have h0 : hi' - lo = 0 := by omega
        rw [h0]
        cases A' <;> simp [Builtin.clear_, run_underlying ht]
      · rw [heq, ← hob]
        have : upd s.ob o (s.ob o) = s.ob := by funext q; simp only [upd]; split <;> simp_all
        rw [this]
        exact hr
end
end Go.Proofs.YtpooehcjchkbkaaV
