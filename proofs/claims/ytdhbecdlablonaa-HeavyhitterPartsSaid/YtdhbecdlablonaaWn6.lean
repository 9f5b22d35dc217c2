/- Check accepts good summaries. -/
import Derived.Test.YtdhbecdlablonaaWn5
import Derived.Test.YtdhbecdlablonaaWc22j
set_option linter.unusedVariables false
set_option linter.unusedSimpArgs false
namespace Go.Proofs.YtdhbecdlablonaaV
open Go.RowKit
theorem sumC_app (c : Ctr) : ∀ l, sumC (l ++ [c]) = sumC l + c.2
  | [] => by simp [sumC]
  | p :: l => by simp only [List.cons_append, sumC, sumC_app c l]; omega
theorem chkL_ok {s : Sm} (h : okS s) : ∀ suf pre : List Ctr, pre ++ suf = s.cs → chkL s.tot pre (sumC pre) suf = .inr (sumC s.cs)
  | [], pre, e => by rw [List.append_nil] at e; rw [← e]; rfl
  | c :: suf, pre, e => by
    have hm : c ∈ s.cs := by rw [← e]; simp
    have h1 := h.nm c hm
    have h2 := h.pos c hm
    have h3 := h.le c hm
    have h4 := h.tot
    have hb : badK pre c = false := by
      unfold badK
      cases hq : pre.getLast? with
      | none => rfl
      | some p =>
        have hp : p ∈ pre := List.mem_of_getLast? hq
        have hs := h.srt
        rw [← e] at hs
        have := (List.pairwise_append.1 hs).2.2 p hp c (by simp)
        simp [lessS_asym this, lessS_ne' this]
    have hsum : sumC (pre ++ [c]) ≤ sumC s.cs := by
      have hp2 : ∀ l m : List Ctr, (∀ p ∈ m, 1 ≤ p.2) → sumC l ≤ sumC (l ++ m) := by
        intro l m hm
        induction l with
        | nil => simp [sumC]; exact (sum_le hm).1
        | cons p l ih => simp only [List.cons_append, sumC]; omega
      have := hp2 (pre ++ [c]) suf fun p hp => h.pos p (by rw [← e]; simp [hp])
      rw [show pre ++ [c] ++ suf = s.cs by simpa using e] at this
      exact this
    have h0 : 0 ≤ sumC pre := (sum_le fun p hp => h.pos p (by rw [← e]; simp [hp])).1
    have hl := h.lostLe
    have hw : IntKind.i64.wrap (sumC pre + c.2) = sumC (pre ++ [c]) := by rw [sumC_app] at hsum ⊢; exact wrap64 (by omega) (by omega)
    have n1 : ¬ c.2 < 1 := by omega
    have n2 : ¬ s.tot < c.2 := by omega
    simp only [chkL, h1, hb, n1, n2, hw]
    simp
    exact chkL_ok h suf (pre ++ [c]) (by simpa using e)
theorem chk_ok {s : Sm} (h : okS s) : chkS s = 0 := by
  have h1 := h.most
  have h2 := h.tot
  have h3 := h.lost
  have h4 := h.len
  have h5 := h.lostLe
  have h6 := h.sum
  have h7 := (sum_le h.pos).1
  have w1 : IntKind.i64.wrap (s.most + 1) = s.most + 1 := wrap64 (by omega) (by omega)
  have h8 : 0 ≤ s.lost * (s.most + 1) := Int.mul_nonneg h3 (by omega)
  have w2 : IntKind.i64.wrap (s.lost * (s.most + 1)) = s.lost * (s.most + 1) := wrap64 (by omega) (by omega)
  have w3 : IntKind.i64.wrap (sumC s.cs + s.lost * (s.most + 1)) = sumC s.cs + s.lost * (s.most + 1) := wrap64 (by omega) (by omega)
  have hL := chkL_ok h s.cs [] rfl
  simp only [sumC] at hL
  unfold chkS
  rw [if_neg (by omega), if_neg (by omega), if_neg (by omega), if_neg (by omega), if_neg (by omega), if_neg (by omega), hL]
  show chkT s (sumC s.cs) = 0
  unfold chkT
  rw [w1, w2, w3]
  rw [if_neg (by omega), if_neg (by omega)]
end Go.Proofs.YtdhbecdlablonaaV
