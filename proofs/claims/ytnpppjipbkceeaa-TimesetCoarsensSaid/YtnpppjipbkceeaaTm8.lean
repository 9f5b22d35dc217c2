/- The laws of the algebra of sets, and lengths by counting. -/
import Derived.Test.YtnpppjipbkceeaaTm5
set_option linter.unusedVariables false
set_option linter.unusedSimpArgs false
namespace Go.Proofs.YtnpppjipbkceeaaV
open Go.RowKit
theorem has_ext {s t : List Iv} (hs : NormI s) (ht : NormI t) (h : ∀ x, hasB s x = hasB t x) : s = t := norm_ext hs ht fun x => by rw [← hasB_iff, ← hasB_iff, h]
theorem cmb_has (f : Bool → Bool → Bool) (hf : f false false = false) {a b : List Iv} (ha : NormI a) (hb : NormI b) (x : Int) : hasB (cmb f a b) x = f (hasB a x) (hasB b x) := by
  rw [Bool.eq_iff_iff, hasB_iff, (cmb_spec f hf ha hb).2]
def cnt (P : Int → Bool) (a : Int) : Nat → Int
  | 0 => 0
  | n + 1 => (if P (a + n) = true then 1 else 0) + cnt P a n
theorem cnt_or {P Q : Int → Bool} {a : Int} : ∀ n, cnt P a n + cnt Q a n = cnt (fun x => P x || Q x) a n + cnt (fun x => P x && Q x) a n
  | 0 => rfl
  | n + 1 => by
    have := cnt_or (P := P) (Q := Q) (a := a) n
    simp only [cnt]
    by_cases hp : P (a + n) = true <;> by_cases hq : Q (a + n) = true <;> simp [hp, hq] <;> omega
theorem cnt_no {P : Int → Bool} {a : Int} (h : ∀ x, P x = false) : ∀ n, cnt P a n = 0
  | 0 => rfl
  | n + 1 => by simp [cnt, h, cnt_no h n]
theorem cnt_iv {a p q : Int} (h1 : a ≤ p) (h2 : p ≤ q) : ∀ n : Nat, cnt (fun x => decide (p ≤ x) && decide (x < q)) a n = (if q ≤ a + n then q else a + n) - (if p ≤ a + n then p else a + n)
  | 0 => by simp only [cnt]; split <;> split <;> omega
  | n + 1 => by
    have := cnt_iv h1 h2 n
    simp only [cnt, this, Bool.and_eq_true, decide_eq_true_eq]
    split <;> split <;> split <;> split <;> split <;> omega
theorem has_nil (x : Int) : hasB [] x = false := rfl
theorem has_cons (p : Iv) (l : List Iv) (x : Int) : hasB (p :: l) x = ((decide (p.1 ≤ x) && decide (x < p.2)) || hasB l x) := rfl
theorem len_cnt {a : Int} {n : Nat} : ∀ {l : List Iv}, NormI l → within a (a + n) l → lenI l = cnt (hasB l) a n
  | [], _, _ => (cnt_no has_nil n).symm
  | p :: r, hn, hw => by
    have h1 := len_cnt (l := r) hn.tail fun x hx => hw x ((memI_cons _ _ _).2 (.inr hx))
    have h2 := within_at hn hw p (by simp)
    have h3 := cnt_iv (a := a) (p := p.1) (q := p.2) (by omega) (by omega) n
    have h4 := cnt_or (P := fun x => decide (p.1 ≤ x) && decide (x < p.2)) (Q := hasB r) (a := a) n
    have h5 := cnt_no (P := fun x => (decide (p.1 ≤ x) && decide (x < p.2)) && hasB r x) (a := a) (fun x => by
      cases h : hasB r x with
      | false => simp
      | true =>
        have := hn.lo ((hasB_iff r x).1 h)
        simp; omega) n
    have h6 : hasB (p :: r) = fun x => (decide (p.1 ≤ x) && decide (x < p.2)) || hasB r x := by funext x; exact has_cons p r x
    rw [h6]
    simp only [lenI]
    rw [if_pos h2.2.2, if_pos (by omega)] at h3
    omega
theorem within_sub {a b : Int} {l m : List Iv} (h : within a b m) (hs : ∀ x, hasB l x = true → hasB m x = true) : within a b l := fun x hx => h x ((hasB_iff m x).1 (hs x ((hasB_iff l x).2 hx)))
abbrev orF (x y : Bool) : Bool := x || y
abbrev anF (x y : Bool) : Bool := x && y
abbrev noF (x y : Bool) : Bool := x && !y
theorem alg_len {a b : List Iv} (ha : NormI a) (hb : NormI b) (wa : within (-200) 240 a) (wb : within (-200) 240 b) : within (-200) 240 (cmb (fun x y => x || y) a b) ∧ within (-200) 240 (cmb (fun x y => x && y) a b) ∧ lenI a + lenI b = lenI (cmb (fun x y => x || y) a b) + lenI (cmb (fun x y => x && y) a b) := by
  have w1 : within (-200) 240 (cmb (fun x y => x || y) a b) := fun x hx => by
    rw [← hasB_iff, cmb_has _ rfl ha hb] at hx
    simp only [Bool.or_eq_true] at hx
    rcases hx with hx | hx
    · exact wa x ((hasB_iff _ _).1 hx)
    · exact wb x ((hasB_iff _ _).1 hx)
  have w2 : within (-200) 240 (cmb (fun x y => x && y) a b) := fun x hx => by
    rw [← hasB_iff, cmb_has _ rfl ha hb] at hx
    simp only [Bool.and_eq_true] at hx
    exact wa x ((hasB_iff _ _).1 hx.1)
  refine ⟨w1, w2, ?_⟩
  have e : ((-200 : Int) + (440 : Nat)) = 240 := rfl
  rw [len_cnt (a := -200) (n := 440) ha wa, len_cnt (a := -200) (n := 440) hb wb, len_cnt (a := -200) (n := 440) (cmb_spec _ rfl ha hb).1 w1, len_cnt (a := -200) (n := 440) (cmb_spec _ rfl ha hb).1 w2, cnt_or]
  congr 1
  · congr 1; funext x; exact (cmb_has _ rfl ha hb x).symm
  · congr 1; funext x; exact (cmb_has _ rfl ha hb x).symm
theorem or_comm {a b : List Iv} (ha : NormI a) (hb : NormI b) : cmb (fun x y => x || y) b a = cmb (fun x y => x || y) a b :=
  has_ext (cmb_spec _ rfl hb ha).1 (cmb_spec _ rfl ha hb).1 fun x => by rw [cmb_has _ rfl hb ha, cmb_has _ rfl ha hb, Bool.or_comm]
theorem an_comm {a b : List Iv} (ha : NormI a) (hb : NormI b) : cmb (fun x y => x && y) b a = cmb (fun x y => x && y) a b :=
  has_ext (cmb_spec _ rfl hb ha).1 (cmb_spec _ rfl ha hb).1 fun x => by rw [cmb_has _ rfl hb ha, cmb_has _ rfl ha hb, Bool.and_comm]
theorem distr {a b c : List Iv} (ha : NormI a) (hb : NormI b) (hc : NormI c) : cmb (fun x y => x || y) (cmb (fun x y => x && y) a c) (cmb (fun x y => x && y) b c) = cmb (fun x y => x && y) (cmb (fun x y => x || y) a b) c := by
  have n1 := (cmb_spec (fun x y => x && y) rfl ha hc).1
  have n2 := (cmb_spec (fun x y => x && y) rfl hb hc).1
  have n3 := (cmb_spec (fun x y => x || y) rfl ha hb).1
  refine has_ext (cmb_spec _ rfl n1 n2).1 (cmb_spec _ rfl n3 hc).1 fun x => ?_
  rw [cmb_has _ rfl n1 n2, cmb_has _ rfl n3 hc, cmb_has _ rfl ha hc, cmb_has _ rfl hb hc, cmb_has _ rfl ha hb]
  cases hasB a x <;> cases hasB b x <;> cases hasB c x <;> rfl
theorem or_parts {a b : List Iv} (ha : NormI a) (hb : NormI b) : cmb (fun x y => x || y) (cmb (fun x y => x && y) a b) (cmb (fun x y => x && !y) a b) = a := by
  have n1 := (cmb_spec (fun x y => x && y) rfl ha hb).1
  have n2 := (cmb_spec (fun x y => x && !y) rfl ha hb).1
  refine has_ext (cmb_spec _ rfl n1 n2).1 ha fun x => ?_
  rw [cmb_has _ rfl n1 n2, cmb_has _ rfl ha hb, cmb_has _ rfl ha hb]
  cases hasB a x <;> cases hasB b x <;> rfl
theorem no_rest {a b : List Iv} (ha : NormI a) (hb : NormI b) : cmb (fun x y => x && y) (cmb (fun x y => x && !y) a b) b = [] := by
  have n2 := (cmb_spec (fun x y => x && !y) rfl ha hb).1
  refine has_ext (cmb_spec _ rfl n2 hb).1 NormI.nil fun x => ?_
  rw [cmb_has _ rfl n2 hb, cmb_has _ rfl ha hb, has_nil]
  cases hasB a x <;> cases hasB b x <;> rfl
theorem cmb_len (f : Bool → Bool → Bool) (hf : f false false = false) {a b : List Iv} (ha : NormI a) (hb : NormI b) : (cmb f a b).length ≤ 2 * (a.length + b.length) := by
  rw [cmb_refC f hf ha hb]
  have h1 := ofI_len (rcL f a b (bnI [] (bdL (a ++ b))))
  have h2 := rcL_len f a b (bnI [] (bdL (a ++ b)))
  have h3 := bnI_len (bdL (a ++ b)) []
  rw [bdL_len] at h3
  simp at h3
  unfold refC; omega
end Go.Proofs.YtnpppjipbkceeaaV
