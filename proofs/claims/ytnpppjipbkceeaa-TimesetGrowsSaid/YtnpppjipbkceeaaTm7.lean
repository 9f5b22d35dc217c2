/- Moved sets: the two ways agree, and moving back restores. -/
import Derived.Test.YtnpppjipbkceeaaTm4
import Derived.Test.YtnpppjipbkceeaaTc18
set_option linter.unusedVariables false
set_option linter.unusedSimpArgs false
namespace Go.Proofs.YtnpppjipbkceeaaV
open Go.RowKit
theorem inR_iff (p : Iv) : inR p = true ↔ (-1125899906842624 ≤ p.1 ∧ p.1 ≤ 1125899906842624) ∧ -1125899906842624 ≤ p.2 ∧ p.2 ≤ 1125899906842624 := by simp [inR, lim]
theorem inR_all {m : List Iv} (hne : ∀ p ∈ m, p.1 < p.2) : m.any (fun p => !inR p) = false ↔ within (-1125899906842624) 1125899906842624 m := by
  rw [List.any_eq_false]
  constructor
  · intro h x ⟨p, hp, h1, h2⟩
    have := h p hp
    simp only [Bool.not_eq_true', Bool.not_eq_false] at this
    have := (inR_iff p).1 this
    omega
  · intro h p hp
    have h0 := hne p hp
    have h1 := h p.1 ⟨p, hp, by omega, by omega⟩
    have h2 := h (p.2 - 1) ⟨p, hp, by omega, by omega⟩
    simp only [Bool.not_eq_true', Bool.not_eq_false]
    exact (inR_iff p).2 (by omega)
theorem mvL_ne {x y : Int} (hxy : x ≤ y) {l : List Iv} (hn : NormI l) : ∀ p ∈ mvL x y l, p.1 < p.2 := fun p hp => by
  obtain ⟨q, hq, rfl⟩ := List.mem_map.1 hp
  have := hn.ne q hq
  simp only; omega
theorem norm_ord {l : List Iv} (hn : NormI l) : ordI l := List.Pairwise.imp_of_mem (fun {p q} hp hq h => by have := hn.ne p hp; omega) hn.gap
theorem mvL_ord {x y : Int} {l : List Iv} (hn : NormI l) : ordI (mvL x y l) := by
  have h := norm_ord hn
  unfold ordI mvL at *
  rw [List.pairwise_map]
  exact h.imp fun {p q} h => by simp only; omega
theorem mv_eq {x y : Int} (hxy : x ≤ y) {l : List Iv} (hn : NormI l) : mvR x y l = grR x y l ∧ jr [] (mvL x y l) = ofI (mvL x y l) ∧ NormI (jr [] (mvL x y l)) ∧ ((mvL x y l).any (fun p => !inR p) = false ↔ (jr [] (mvL x y l)).any (fun p => !inR p) = false) := by
  obtain ⟨a1, a2⟩ := joined_norm (mvL_ord (x := x) (y := y) hn)
  obtain ⟨b1, b2⟩ := ofI_norm (mvL x y l)
  have e : jr [] (mvL x y l) = ofI (mvL x y l) := norm_ext a1 b1 fun z => by rw [a2, b2]
  have h1 := inR_all (mvL_ne hxy hn)
  have h2 := inR_all a1.ne
  have h3 : (mvL x y l).any (fun p => !inR p) = false ↔ (jr [] (mvL x y l)).any (fun p => !inR p) = false := by
    rw [h1, h2]; unfold within; simp only [a2]
  refine ⟨?_, e, a1, h3⟩
  unfold mvR grR
  rw [← e]
  cases q1 : (mvL x y l).any (fun p => !inR p) with
  | false => rw [h3.1 q1]
  | true =>
    cases q2 : (jr [] (mvL x y l)).any (fun p => !inR p) with
    | false => rw [h3.2 q2] at q1; cases q1
    | true => rfl
theorem mem_mv (x : Int) (l : List Iv) (z : Int) : memI (mvL x x l) z ↔ memI l (z - x) := by
  unfold memI mvL
  constructor
  · rintro ⟨p, hp, h1, h2⟩
    obtain ⟨q, hq, rfl⟩ := List.mem_map.1 hp
    exact ⟨q, hq, by simp only at h1; omega, by simp only at h2; omega⟩
  · rintro ⟨q, hq, h1, h2⟩
    exact ⟨_, List.mem_map.2 ⟨q, hq, rfl⟩, by simp only; omega, by simp only; omega⟩
/-- moved there and back -/
theorem mv_back {x : Int} {l : List Iv} (hn : NormI l) (hw : within (-200) 240 l) : mvR (-x) (-x) (jr [] (mvL x x l)) = [.d (.sl (l.map iD)), .d (.int .i64 0)] := by
  obtain ⟨a1, a2⟩ := joined_norm (mvL_ord (x := x) (y := x) hn)
  obtain ⟨c1, c2⟩ := joined_norm (mvL_ord (x := -x) (y := -x) a1)
  have e : jr [] (mvL (-x) (-x) (jr [] (mvL x x l))) = l := norm_ext c1 hn fun z => by
    rw [c2, mem_mv, a2, mem_mv]
    rw [show z - -x - x = z by omega]
  unfold mvR
  rw [e]
  have : l.any (fun p => !inR p) = false := (inR_all hn.ne).2 fun z hz => by have := hw z hz; omega
  rw [this]; rfl
end Go.Proofs.YtnpppjipbkceeaaV
