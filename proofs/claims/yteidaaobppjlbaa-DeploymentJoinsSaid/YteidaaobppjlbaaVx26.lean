/- Maps: what is found, and what a put leaves. -/
import Derived.Test.YteidaaobppjlbaaVx21
import Derived.Laws.StructEq
set_option linter.unusedVariables false
set_option linter.unusedSimpArgs false
namespace Go.Proofs.YteidaaobppjlbaaV
open Go.RowKit

/-- How keys are written, and that '==' tells them apart. -/
structure KeyEnc (α : Type) where
  f : α → D
  eqb : α → α → Bool
  same : ∀ a b, sameD (f a) (f b) = some (eqb a b)
  eq : ∀ a b, eqb a b = true ↔ a = b
def strK : KeyEnc ByteArray := ⟨D.str, eqS, fun a b => by simp only [sameD, eqS, beq_toListBytes], eqS_iff⟩
def intK (k : IntKind) : KeyEnc Int := ⟨D.int k, fun a b => a == b, fun a b => by simp [sameD], fun a b => by simp⟩

section
variable {α β : Type} (E : KeyEnc α) (g : β → D)
def mapD (m : List (α × β)) : List (D × D) := m.map fun p => (E.f p.1, g p.2)
def lookP (k : α) : List (α × β) → Option β
  | [] => none
  | (q, v) :: r => if E.eqb k q = true then some v else lookP k r
def idxP (k : α) : List (α × β) → Nat
  | [] => 0
  | (q, v) :: r => if E.eqb k q = true then 0 else idxP k r + 1
def putP (k : α) (v : β) : List (α × β) → List (α × β)
  | [] => [(k, v)]
  | (q, u) :: r => if E.eqb k q = true then (k, v) :: r else (q, u) :: putP k v r
theorem findD_look (k : α) : ∀ (m : List (α × β)) (n : Nat), findD (E.f k) (mapD E g m) n = some ((lookP E k m).map fun v => (n + idxP E k m, g v))
  | [], n => rfl
  | (q, v) :: r, n => by
    have ih := findD_look k r (n + 1)
    simp only [mapD, List.map_cons, findD, E.same] at ih ⊢
    cases h : E.eqb k q with
    | true => simp [lookP, idxP, h]
    | false =>
      simp only [lookP, idxP, h, Bool.false_eq_true, if_false]
      rw [ih]
      cases lookP E k r with
      | none => rfl
      | some v => simp; omega
theorem putE_put (k : α) (v : β) (m : List (α × β)) : putE (E.f k) (g v) (mapD E g m) (findD (E.f k) (mapD E g m) 0) = some (mapD E g (putP E k v m)) := by
  rw [findD_look]
  have key : ∀ (m : List (α × β)), (lookP E k m = none → mapD E g m ++ [(E.f k, g v)] = mapD E g (putP E k v m)) ∧ ∀ u, lookP E k m = some u → (mapD E g m).set (idxP E k m) (E.f k, g v) = mapD E g (putP E k v m) := by
    intro m
    induction m with
    | nil => exact ⟨fun _ => rfl, fun u h => by cases h⟩
    | cons p r ih =>
      obtain ⟨q, u⟩ := p
      cases h : E.eqb k q with
      | true => simp [lookP, idxP, putP, mapD, h]
      | false =>
        simp only [lookP, idxP, putP, mapD, h, Bool.false_eq_true, if_false, List.map_cons, List.cons_append, List.set_cons_succ, List.cons.injEq, true_and]
        exact ih
  cases h : lookP E k m with
  | none => simp only [Option.map_none, putE]; rw [(key m).1 h]
  | some u => simp only [Option.map_some, putE, Nat.zero_add]; rw [(key m).2 u h]
theorem look_put (k q : α) (v : β) : ∀ (m : List (α × β)), lookP E q (putP E k v m) = if E.eqb q k = true then some v else lookP E q m
  | [] => by simp [putP, lookP]
  | (p, u) :: r => by
    have ih := look_put k q v r
    cases h : E.eqb k p with
    | true =>
      have e : k = p := (E.eq k p).1 h
      subst e
      simp only [putP, h, if_true, lookP]
      cases E.eqb q k <;> rfl
    | false =>
      simp only [putP, h, Bool.false_eq_true, if_false, lookP, ih]
      cases h2 : E.eqb q p with
      | false => rfl
      | true =>
        have e : q = p := (E.eq q p).1 h2
        subst e
        have : E.eqb q k = false := by
          cases h3 : E.eqb q k with
          | false => rfl
          | true =>
            have := (E.eq q k).1 h3
            subst this
            rw [(E.eq q q).2 rfl] at h; cases h
        rw [this]; rfl
end
end Go.Proofs.YteidaaobppjlbaaV
