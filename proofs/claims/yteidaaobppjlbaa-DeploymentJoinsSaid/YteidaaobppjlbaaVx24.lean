/- '==' of structs whose fields are numbers, truth values and strings. -/
import Derived.Test.YteidaaobppjlbaaVx21
import Derived.Laws.StructEq
set_option linter.unusedVariables false
set_option linter.unusedSimpArgs false
namespace Go.Proofs.YteidaaobppjlbaaV
open Go.RowKit

def ekB (P : Program) (t : TypeId) (k : EK) : Bool := match k, P.underlying t with
  | .int q, some (.int q') => decide (q = q')
  | .bool, some .bool => true
  | .str, some .string => true
  | _, _ => false
def flatB (P : Program) : Nat → List Field → List EK → Bool
  | _, [], [] => true
  | n, f :: fs, k :: ks => f.name != "_" && f.offset == n && ekB P f.type k && flatB P (n + 1) fs ks
  | _, _, _ => false
def eqB (P : Program) (t : TypeId) (ks : List EK) : Bool :=
  (match P.underlying t with | some (.struct fs) => flatB P 0 fs.toList ks | _ => false) && !P.stoodInHeld t && !P.eqGuardType P.depth t

def D.eq1 : D → D → Option Bool
  | .int _ a, .int _ b => some (a == b)
  | .bool a, .bool b => some (a == b)
  | .str a, .str b => some (a.toList == b.toList)
  | _, _ => none
theorem eqCells_cons {k : EK} {x y : D} {xs ys : List D} {ks : List EK} {r : Bool} (h1 : k.has x = true) (h2 : k.has y = true) (hx : EK.hasAll ks xs = true) (hy : EK.hasAll ks ys = true) (h : eqCells (x :: xs) (y :: ys) = some r) : ∃ b r', x.eq1 y = some b ∧ eqCells xs ys = some r' ∧ r = (b && r') := by
  cases xs with
  | nil =>
    cases ks with
    | cons _ _ => simp [EK.hasAll] at hx
    | nil =>
      cases ys with
      | cons _ _ => simp [EK.hasAll] at hy
      | nil =>
        cases k <;> cases x <;> simp [EK.has] at h1 <;> cases y <;> simp [EK.has] at h2 <;> simp [eqCells, D.eq1] at h ⊢ <;> simp [h]
  | cons x' xs =>
    cases ys with
    | nil => cases ks <;> simp [EK.hasAll] at hx hy
    | cons y' ys =>
      cases k <;> cases x <;> simp [EK.has] at h1 <;> cases y <;> simp [EK.has] at h2 <;> simp only [eqCells, Option.map_eq_some_iff] at h <;> obtain ⟨r', h3, h4⟩ := h <;> exact ⟨_, r', rfl, h3, h4.symm⟩

theorem eq1_run {P : Program} {t : TypeId} {k : EK} {x y : D} {b : Bool} (ht : ekB P t k = true) (h1 : k.has x = true) (h2 : k.has y = true) (h : x.eq1 y = some b) (d : Nat) (w : World) : (Op.equalIn (d + 1) t x.lit y.lit).run P w = .ok b w ∧ (isAgg t).run P w = .ok false w := by
  unfold ekB at ht
  cases k with
  | int q =>
    cases x <;> simp [EK.has] at h1
    cases y <;> simp [EK.has] at h2
    cases hu : P.underlying t with
    | none => simp [hu] at ht
    | some u =>
      cases u <;> simp [hu] at ht
      subst ht h1 h2
      simp [D.eq1] at h
      subst h
      exact ⟨by simp [Op.equalIn, run_underlying hu, D.lit], by unfold Go.isAgg; rw [Sem.run_bind, run_underlying hu w]; rfl⟩
  | bool =>
    cases x <;> simp [EK.has] at h1
    cases y <;> simp [EK.has] at h2
    cases hu : P.underlying t with
    | none => simp [hu] at ht
    | some u =>
      cases u <;> simp [hu] at ht
      simp [D.eq1] at h
      subst h
      exact ⟨by simp [Op.equalIn, run_underlying hu, D.lit], by unfold Go.isAgg; rw [Sem.run_bind, run_underlying hu w]; rfl⟩
  | str =>
    cases x <;> simp [EK.has] at h1
    cases y <;> simp [EK.has] at h2
    cases hu : P.underlying t with
    | none => simp [hu] at ht
    | some u =>
      cases u <;> simp [hu] at ht
      simp only [D.eq1, Option.some.injEq] at h
      subst h
      exact ⟨by simp [Op.equalIn, run_underlying hu, D.lit, beq_toListBytes], by unfold Go.isAgg; rw [Sem.run_bind, run_underlying hu w]; rfl⟩

theorem eqFields_flat {P : Program} (d : Nat) (w : World) (X Y : Array Value) : ∀ (fs : List Field) (ks : List EK) (n : Nat) (xs ys : List D) (r : Bool), flatB P n fs ks = true → EK.hasAll ks xs = true → EK.hasAll ks ys = true →
    (∀ i, X[n + i]? = (xs.map D.lit)[i]?) → (∀ i, Y[n + i]? = (ys.map D.lit)[i]?) → eqCells xs ys = some r → (Op.eqFields (d + 1) X Y fs).run P w = .ok r w
  | [], [], n, xs, ys, r, _, hx, hy, _, _, h => by
    cases xs <;> simp [EK.hasAll] at hx
    cases ys <;> simp [EK.hasAll] at hy
    simp [eqCells] at h
    subst h
    simp [Op.eqFields]
  | f :: fs, k :: ks, n, xs, ys, r, hf, hx, hy, hX, hY, h => by
    simp only [flatB, Bool.and_eq_true, bne_iff_ne, ne_eq, beq_iff_eq] at hf
    obtain ⟨⟨⟨f1, f2⟩, f3⟩, f4⟩ := hf
    cases xs with
    | nil => simp [EK.hasAll] at hx
    | cons x xs =>
      cases ys with
      | nil => simp [EK.hasAll] at hy
      | cons y ys =>
        simp only [EK.hasAll, Bool.and_eq_true] at hx hy
        obtain ⟨b, r', g1, g2, rfl⟩ := eqCells_cons hx.1 hy.1 hx.2 hy.2 h
        obtain ⟨k1, k2⟩ := eq1_run f3 hx.1 hy.1 g1 d w
        have hx0 : X[n]? = some x.lit := by simpa using hX 0
        have hy0 : Y[n]? = some y.lit := by simpa using hY 0
        have p1 : (part f.type X f.offset).run P w = .ok x.lit w := by simp [part, k2, f2, hx0]
        have p2 : (part f.type Y f.offset).run P w = .ok y.lit w := by simp [part, k2, f2, hy0]
        have ih := eqFields_flat d w X Y fs ks (n + 1) xs ys r' f4 hx.2 hy.2 (fun i => by
          have := hX (i + 1)
          rw [show n + (i + 1) = n + 1 + i by omega] at this
          simpa using this) (fun i => by
          have := hY (i + 1)
          rw [show n + (i + 1) = n + 1 + i by omega] at this
          simpa using this) g2
        simp only [Op.eqFields, ne_eq, f1, not_false_eq_true, if_true, Sem.run_bind, p1, p2, k1, Result.andThen_ok]
        cases b with
        | true => simpa using ih
        | false => simp
  | [], _ :: _, n, xs, ys, r, hf, _, _, _, _, _ => by simp [flatB] at hf
  | _ :: _, [], n, xs, ys, r, hf, _, _, _, _, _ => by simp [flatB] at hf

theorem eqOk_flat {P : Program} {t : TypeId} {ks : List EK} (h : eqB P t ks = true) : EqOk P t ks := by
  unfold eqB at h
  simp only [Bool.and_eq_true, Bool.not_eq_true'] at h
  obtain ⟨⟨h1, h2⟩, h3⟩ := h
  cases hu : P.underlying t with
  | none => simp [hu] at h1
  | some u =>
    cases u <;> simp [hu] at h1
    rename_i fs
    have hfo : P.fieldsOf t = fs := by simp [Program.fieldsOf, hu]
    refine ⟨fun xs ys r w hx hy he => ?_, h3⟩
    show (Op.equalIn (9999 + 1) t _ _).run P w = _
    rw [run_equalIn_struct w 9999 t _ _ (by rw [hfo]; exact hu) h2, hfo]
    exact eqFields_flat 9998 w _ _ fs.toList ks 0 xs ys r h1 hx hy (fun i => by simp) (fun i => by simp) he
end Go.Proofs.YteidaaobppjlbaaV
