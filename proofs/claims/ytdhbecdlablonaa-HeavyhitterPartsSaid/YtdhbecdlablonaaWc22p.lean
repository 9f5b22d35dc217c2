/- Add: the walk. -/
import Derived.Test.YtdhbecdlablonaaWc22o
set_option linter.unusedVariables false
set_option linter.unusedSimpArgs false
namespace Go.Proofs.YtdhbecdlablonaaV
open Go.RowKit
theorem put_perm {k : ByteArray} {n : Int} : ∀ {l : List Ctr}, srt l → (∀ p ∈ l, IntKind.i64.wrap (p.2 + n) = p.2 + n) → (putP strK k (cntC k l + n) l).Perm (putC k n l)
  | [], _, _ => by simp [putP, putC, cntC]
  | (q, u) :: l, hs, hw => by
    have hs' := List.pairwise_cons.1 hs
    have hw0 := hw (q, u) (by simp)
    simp only at hw0
    have e : strK.eqb k q = eqS q k := eqS_comm k q
    by_cases he : eqS q k = true
    · have hq := (eqS_iff _ _).1 he
      subst hq
      simp [putP, putC, cntC, e, eqS_self, lessS_irr, hw0]
    · have ih := put_perm (k := k) (n := n) hs'.2 fun p hp => hw p (List.mem_cons_of_mem _ hp)
      by_cases hl : lessS q k = true
      · simp [putP, putC, cntC, e, he, hl]
        exact ih
      · have hk := lessS_tri (by simpa using hl) (by simpa using he)
        have hno : ∀ p ∈ (q, u) :: l, eqS p.1 k = false := fun p hp => by
          rcases List.mem_cons.1 hp with rfl | hp
          · simpa using he
          · exact lessS_ne' (lessS_trans hk (hs'.1 p hp))
        rw [cnt_none hno, Int.zero_add, put_new hno]
        simp [putC, he, hl]
        exact List.perm_append_comm (l₁ := (q, u) :: l) (l₂ := [(k, n)])
theorem putC_new {k : ByteArray} {n : Int} : ∀ {l : List Ctr}, (∀ p ∈ l, eqS p.1 k = false) → (putC k n l).Perm ((k, n) :: l)
  | [], _ => List.Perm.refl _
  | q :: l, h => by
    have h0 := h q (by simp)
    unfold putC
    split
    · exact ((putC_new fun p hp => h p (List.mem_cons_of_mem _ hp)).cons q).trans (List.Perm.swap _ _ _)
    · simp [h0]
theorem posL_all {l : List Ctr} (h : ∀ p ∈ l, 1 ≤ p.2) : posL l = l := List.filter_eq_self.2 fun p hp => by have := h p hp; simp; omega
theorem pos_low {d : Int} : ∀ {l : List Ctr}, (∀ p ∈ l, IntKind.i64.wrap (p.2 - d) = p.2 - d) → posL (lowA d l) = lessC d l
  | [], _ => rfl
  | p :: l, h => by
    have ih := pos_low (d := d) (l := l) fun q hq => h q (List.mem_cons_of_mem _ hq)
    have h0 := h p (by simp)
    unfold posL lowA at ih ⊢
    rw [List.map_cons, List.filter_cons, ih, h0]
    rw [show lessC d (p :: l) = if d < p.2 then (p.1, IntKind.i64.wrap (p.2 - d)) :: lessC d l else lessC d l from rfl]
    by_cases hd : d < p.2
    · have : 0 < p.2 - d := by omega
      simp [hd, this, h0]
    · have : ¬ 0 < p.2 - d := by omega
      simp [hd, this]
theorem low_keys {d : Int} {l : List Ctr} (h : keysNe strK l) : keysNe strK (lowA d l) := List.pairwise_map.2 (h.imp fun h => h)
end Go.Proofs.YtdhbecdlablonaaV
