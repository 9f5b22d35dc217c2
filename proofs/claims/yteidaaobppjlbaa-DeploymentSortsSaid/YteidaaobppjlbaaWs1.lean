/- The order of changes is total. -/
import Derived.Test.YteidaaobppjlbaaWd3
import Derived.Test.YteidaaobppjlbaaPm22
set_option linter.unusedVariables false
set_option linter.unusedSimpArgs false
namespace Go.Proofs.YteidaaobppjlbaaV
open Go.RowKit
structure LinC {α : Type} (c : α → α → Int) : Prop where
  neg : ∀ a b, c b a = - c a b
  tr : ∀ a b d, c a b ≤ 0 → c b d ≤ 0 → c a d ≤ 0
theorem LinC.lex {α : Type} {c1 c2 : α → α → Int} (h1 : LinC c1) (h2 : LinC c2) : LinC fun a b => if c1 a b = 0 then c2 a b else c1 a b where
  neg a b := by
    have n1 := h1.neg a b
    have n2 := h2.neg a b
    by_cases h : c1 a b = 0
    · rw [if_pos h, if_pos (by omega), n2]
    · rw [if_neg h, if_neg (by omega), n1]
  tr a b d hab hbd := by
    have n1 := h1.neg a b
    have n2 := h1.neg b d
    have n3 := h1.neg a d
    have t := h1.tr a b d
    have t1 := h1.tr d a b
    have t2 := h1.tr b d a
    have u := h2.tr a b d
    by_cases x : c1 a b = 0
    · rw [if_pos x] at hab
      by_cases y : c1 b d = 0
      · rw [if_pos y] at hbd
        have z1 := t (by omega) (by omega)
        have z2 := h1.tr d b a (by omega) (by omega)
        rw [if_pos (by omega)]
        exact u hab hbd
      · rw [if_neg y] at hbd
        have z1 := t (by omega) hbd
        split
        · have := t1 (by omega) (by omega); omega
        · exact z1
    · rw [if_neg x] at hab
      have hbd' : c1 b d ≤ 0 := by
        split at hbd
        · omega
        · exact hbd
      have z1 := t hab hbd'
      split
      · have := t2 hbd' (by omega); omega
      · exact z1
theorem LinC.map {α β : Type} {c : β → β → Int} (h : LinC c) (f : α → β) : LinC fun a b => c (f a) (f b) where
  neg a b := h.neg _ _
  tr a b d := h.tr _ _ _
theorem linI : LinC cmpI where
  neg := cmpI_neg
  tr a b d h1 h2 := by
    unfold cmpI at *
    repeat' split at h1
    all_goals repeat' split at h2
    all_goals repeat' split
    all_goals omega
theorem bless_ntr : ∀ (a b d : List UInt8), Op.bytesLess b a = false → Op.bytesLess d b = false → Op.bytesLess d a = false
  | [], _, d, _, _ => by cases d <;> rfl
  | x :: a, [], d, h, _ => by simp [Op.bytesLess] at h
  | x :: a, y :: b, [], _, h => by simp [Op.bytesLess] at h
  | x :: a, y :: b, z :: d, h1, h2 => by
    have ih := bless_ntr a b d
    simp only [Op.bytesLess, Bool.or_eq_false_iff, Bool.and_eq_false_iff, decide_eq_false_iff_not, beq_eq_false_iff_ne] at h1 h2 ⊢
    have e1 : ¬ y.toNat < x.toNat := h1.1
    have e2 : ¬ z.toNat < y.toNat := h2.1
    refine ⟨fun h => ?_, ?_⟩
    · have : z.toNat < x.toNat := h; omega
    · by_cases e : z = x
      · subst e
        have e3 : y.toNat = z.toNat := by omega
        have e4 : y = z := UInt8.toNat.inj e3
        subst e4
        exact .inr (ih (h1.2.resolve_left fun h => h rfl) (h2.2.resolve_left fun h => h rfl))
      · exact .inl e
theorem cmpS_le (a b : ByteArray) : cmpS a b ≤ 0 ↔ Op.bytesLess b.toList a.toList = false := by
  have h := bless_tri a.toList b.toList
  unfold cmpS lessS eqS
  rcases h with ⟨h1, h2, h3⟩ | ⟨h1, h2, h3⟩ | ⟨h1, h2, h3⟩
  · simp [h1, h2]
  · simp [h1, h2, h3]
  · simp only [h1, h2]; simp [h3]
theorem linS : LinC cmpS where
  neg := cmpS_neg
  tr a b d h1 h2 := by
    rw [cmpS_le] at *
    exact bless_ntr _ _ _ h1 h2
theorem cmp_lin : LinC Chg.cmp := by
  have h := ((linI.map Chg.slot).lex ((linI.map Chg.id).lex ((linI.map Chg.kind).lex ((linS.map Chg.svc).lex ((linS.map Chg.tgt).lex (linS.map Chg.ver))))))
  have e : Chg.cmp = fun a b => if cmpI a.slot b.slot = 0 then (if cmpI a.id b.id = 0 then (if cmpI a.kind b.kind = 0 then (if cmpS a.svc b.svc = 0 then (if cmpS a.tgt b.tgt = 0 then cmpS a.ver b.ver else cmpS a.tgt b.tgt) else cmpS a.svc b.svc) else cmpI a.kind b.kind) else cmpI a.id b.id) else cmpI a.slot b.slot := by
    funext a b
    simp only [Chg.cmp, Chg.cmps, firstNZ]
    repeat' split
    all_goals first | rfl | omega
  rw [e]
  exact h
theorem cmpI_zero {a b : Int} (h : cmpI a b = 0) : a = b := by
  unfold cmpI at h
  repeat' split at h
  all_goals omega
theorem cmpS_zero {a b : ByteArray} (h : cmpS a b = 0) : a = b := by
  have h3 := bless_tri a.toList b.toList
  have e1 := (cmpS_le a b).1 (by omega)
  have e2 := (cmpS_le b a).1 (by rw [cmpS_neg]; omega)
  rcases h3 with ⟨h1, h2, _⟩ | ⟨h1, h2, _⟩ | ⟨h1, h2, h3⟩
  · rw [e2] at h1; cases h1
  · rw [e1] at h2; cases h2
  · exact (eqS_iff a b).1 (by unfold eqS; simp [h3])
theorem cmp_zero {a b : Chg} (h : a.cmp b = 0) : a = b := by
  simp only [Chg.cmp, Chg.cmps, firstNZ] at h
  have z1 : cmpI a.slot b.slot = 0 := by split at h <;> assumption
  rw [if_pos z1] at h
  have z2 : cmpI a.id b.id = 0 := by split at h <;> assumption
  rw [if_pos z2] at h
  have z3 : cmpI a.kind b.kind = 0 := by split at h <;> assumption
  rw [if_pos z3] at h
  have z4 : cmpS a.svc b.svc = 0 := by split at h <;> assumption
  rw [if_pos z4] at h
  have z5 : cmpS a.tgt b.tgt = 0 := by split at h <;> assumption
  rw [if_pos z5] at h
  have z6 : cmpS a.ver b.ver = 0 := by split at h <;> assumption
  obtain ⟨a1, a2, a3, a4, a5, a6⟩ := a
  obtain ⟨b1, b2, b3, b4, b5, b6⟩ := b
  simp only at z1 z2 z3 z4 z5 z6
  rw [cmpI_zero z1, cmpI_zero z2, cmpI_zero z3, cmpS_zero z4, cmpS_zero z5, cmpS_zero z6]
theorem cmp_self (a : Chg) : a.cmp a = 0 := by have := cmp_neg a a; omega
theorem cmp_trans {a b c : Chg} (h1 : a.cmp b < 0) (h2 : b.cmp c < 0) : a.cmp c < 0 := by
  have t := cmp_lin.tr a b c (by omega) (by omega)
  rcases Int.lt_or_eq_of_le t with h | h
  · exact h
  · have := cmp_zero h; subst this
    have := cmp_neg a b; omega
theorem swoC : Go.Sort.SWO (Pd.ltC Chg.cmp) where
  irrefl x := by simp [Pd.ltC, cmp_self]
  trans x y z h1 h2 := by simp [Pd.ltC] at *; exact cmp_trans h1 h2
  ntrans x y z h1 h2 := by
    simp [Pd.ltC] at *
    have := cmp_lin.tr z y x (by rw [cmp_neg]; omega) (by rw [cmp_neg]; omega)
    rw [cmp_neg] at this; omega
/-- Strictly ascending. -/
def upC (l : List Chg) : Prop := l.Pairwise fun p q => p.cmp q < 0
theorem up_ext : ∀ {s t : List Chg}, upC s → upC t → (∀ x, x ∈ s ↔ x ∈ t) → s = t
  | [], [], _, _, _ => rfl
  | [], q :: t, _, _, h => absurd ((h q).2 (by simp)) (by simp)
  | p :: s, [], _, _, h => absurd ((h p).1 (by simp)) (by simp)
  | p :: s, q :: t, hs, ht, h => by
    obtain ⟨s1, s2⟩ := List.pairwise_cons.1 hs
    obtain ⟨t1, t2⟩ := List.pairwise_cons.1 ht
    have e : p = q := by
      have hp := (h p).1 (by simp)
      have hq := (h q).2 (by simp)
      rcases List.mem_cons.1 hp with rfl | hp
      · rfl
      rcases List.mem_cons.1 hq with rfl | hq
      · rfl
      have a := t1 p hp
      have b := s1 q hq
      have := cmp_neg p q; omega
    subst e
    rw [up_ext s2 t2 fun x => ?_]
    constructor
    · intro hx
      rcases List.mem_cons.1 ((h x).1 (by simp [hx])) with rfl | h'
      · have := s1 x hx; rw [cmp_self] at this; omega
      · exact h'
    · intro hx
      rcases List.mem_cons.1 ((h x).2 (by simp [hx])) with rfl | h'
      · have := t1 x hx; rw [cmp_self] at this; omega
      · exact h'
instance : DecidableEq Chg := fun a b => if h : a.cmp b = 0 then isTrue (cmp_zero h) else isFalse fun e => h (by rw [e]; exact cmp_self b)
/-- Neighbours that are alike, once. -/
def dedF (p : Chg) : List Chg → List Chg
  | [] => []
  | q :: r => if q = p then dedF p r else q :: dedF q r
def dedC : List Chg → List Chg
  | [] => []
  | p :: r => p :: dedF p r
end Go.Proofs.YteidaaobppjlbaaV
