/- Lengths, ranks and the element with an index. -/
import Derived.Test.YtnpppjipbkceeaaTm4
import Derived.Test.YtnpppjipbkceeaaTc2
set_option linter.unusedVariables false
set_option linter.unusedSimpArgs false
namespace Go.Proofs.YtnpppjipbkceeaaV
open Go.RowKit
def nthI (k : Int) : List Iv → Int × Bool
  | [] => (0, false)
  | p :: r => if k < p.2 - p.1 then (p.1 + k, true) else nthI (k - (p.2 - p.1)) r
theorem lenI_bnd : ∀ {l : List Iv}, bnd l → -(4503599627370496 * (l.length : Int)) ≤ lenI l ∧ lenI l ≤ 4503599627370496 * (l.length : Int)
  | [], _ => by simp [lenI]
  | p :: r, h => by
    have h1 := lenI_bnd (l := r) fun q hq => h q (by simp [hq])
    have h2 := h p (by simp)
    simp only [lenI, List.length_cons]
    omega
theorem rkI_hi {n : Int} : ∀ {l : List Iv}, (∀ p ∈ l, n ≤ p.1) → rkI n l = 0
  | [], _ => rfl
  | p :: r, h => by
    have h1 := rkI_hi (l := r) fun q hq => h q (by simp [hq])
    have h2 := h p (by simp)
    simp only [rkI, h1]
    rw [if_neg (by omega)]; rfl
theorem rkI_all {n : Int} : ∀ {l : List Iv}, (∀ p ∈ l, p.1 < n ∧ p.2 ≤ n) → rkI n l = lenI l
  | [], _ => rfl
  | p :: r, h => by
    have h1 := rkI_all (l := r) fun q hq => h q (by simp [hq])
    have h2 := h p (by simp)
    simp only [rkI, lenI, h1]
    rw [if_pos h2.1, Int.min_eq_right h2.2]
theorem gap_hd {p : Iv} {r : List Iv} (h : NormI (p :: r)) : ∀ q ∈ r, p.2 < q.1 := (List.pairwise_cons.1 h.gap).1
theorem rk_at (n : Int) : ∀ (l : List Iv) (i : Nat), NormI l → i ≤ l.length → (∀ k p, k < i → l[k]? = some p → p.2 ≤ n) → (∀ p, l[i]? = some p → n < p.2) →
    rkI n l = lenI (l.take i) + match l[i]? with | some p => (if p.1 < n then n - p.1 else 0) | none => 0
  | [], i, _, _, _, _ => by simp [rkI, lenI]
  | p :: r, 0, hn, _, _, h => by
    have h1 := h p rfl
    have h2 := gap_hd hn
    have h3 := rkI_hi (n := n) (l := r) fun q hq => by have := h2 q hq; omega
    simp only [rkI, h3, List.take_zero, lenI, List.getElem?_cons_zero]
    have h4 : min n p.2 = n := Int.min_eq_left (by omega)
    rw [h4]; omega
  | p :: r, i + 1, hn, hi, h1, h2 => by
    have h3 := h1 0 p (by omega) rfl
    have h4 := hn.ne p (by simp)
    have h5 := rk_at n r i hn.tail (by simpa using hi) (fun k q hk hq => h1 (k + 1) q (by omega) (by simpa using hq)) (fun q hq => h2 q (by simpa using hq))
    simp only [rkI, List.take_succ_cons, lenI, h5, List.getElem?_cons_succ]
    rw [if_pos (by omega), Int.min_eq_right h3]
    omega
theorem lenI_nn : ∀ {l : List Iv}, NormI l → 0 ≤ lenI l
  | [], _ => by simp [lenI]
  | p :: r, h => by
    have h1 := lenI_nn h.tail
    have h2 := h.ne p (by simp)
    simp only [lenI]; omega
theorem nth_out : ∀ (l : List Iv) (k : Int), NormI l → lenI l ≤ k → nthI k l = (0, false)
  | [], _, _, _ => rfl
  | p :: r, k, hn, h => by
    have h1 := lenI_nn hn.tail
    simp only [lenI] at h
    simp only [nthI]
    rw [if_neg (by omega)]
    exact nth_out r _ hn.tail (by omega)
theorem nth_in : ∀ (l : List Iv) (k : Int), NormI l → 0 ≤ k → k < lenI l → (nthI k l).2 = true ∧ memI l (nthI k l).1 ∧ rkI (nthI k l).1 l = k
  | [], k, _, h0, h => by simp [lenI] at h; omega
  | p :: r, k, hn, h0, h => by
    have h2 := gap_hd hn
    have h4 := hn.ne p (by simp)
    simp only [lenI] at h
    simp only [nthI]
    by_cases e : k < p.2 - p.1
    · have h3 := rkI_hi (n := p.1 + k) (l := r) fun q hq => by have := h2 q hq; omega
      rw [if_pos e]
      refine ⟨rfl, (memI_cons _ _ _).2 (.inl ⟨by simp; omega, by simp; omega⟩), ?_⟩
      simp only [rkI, h3]
      split
      · rw [Int.min_eq_left (by omega)]; omega
      · omega
    · rw [if_neg e]
      obtain ⟨a, b, c⟩ := nth_in r (k - (p.2 - p.1)) hn.tail (by omega) (by omega)
      refine ⟨a, (memI_cons _ _ _).2 (.inr b), ?_⟩
      have := hn.lo b
      simp only [rkI, c]
      rw [if_pos (by omega), Int.min_eq_right (by omega)]
      omega
end Go.Proofs.YtnpppjipbkceeaaV
