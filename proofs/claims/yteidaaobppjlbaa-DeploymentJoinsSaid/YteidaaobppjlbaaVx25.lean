/- '==' of structs whose fields are numbers, truth values, strings, or such structs. -/
import Derived.Test.YteidaaobppjlbaaVx24
set_option linter.unusedVariables false
set_option linter.unusedSimpArgs false
namespace Go.Proofs.YteidaaobppjlbaaV
open Go.RowKit

def fieldsN (P : Program) (rec : TypeId → List EK → Bool) : Nat → List Field → List EK → Bool
  | _, [], ks => ks.isEmpty
  | n, f :: fs, ks => f.name != "_" && f.offset == n && (match P.info? f.type with
    | some i => ((match ks with | [] => false | k :: r => ekB P f.type k && fieldsN P rec (n + 1) fs r) || (rec f.type (ks.take i.size) && fieldsN P rec (n + i.size) fs (ks.drop i.size)))
    | none => false)
def nestB (P : Program) : Nat → TypeId → List EK → Bool
  | 0 => fun _ _ => false
  | m + 1 => fun t ks => (match P.underlying t with | some (.struct fs) => fieldsN P (nestB P m) 0 fs.toList ks | _ => false) && !P.stoodInHeld t

theorem eqCells_cons_eq {k : EK} {x y : D} {xs ys : List D} {ks : List EK} (h1 : k.has x = true) (h2 : k.has y = true) (hx : EK.hasAll ks xs = true) (hy : EK.hasAll ks ys = true) : ∃ b, x.eq1 y = some b ∧ eqCells (x :: xs) (y :: ys) = (eqCells xs ys).map (b && ·) := by
  cases xs with
  | nil =>
    cases ks with
    | cons _ _ => simp [EK.hasAll] at hx
    | nil =>
      cases ys with
      | cons _ _ => simp [EK.hasAll] at hy
      | nil => cases k <;> cases x <;> simp [EK.has] at h1 <;> cases y <;> simp [EK.has] at h2 <;> simp [eqCells, D.eq1]
  | cons x' xs =>
    cases ys with
    | nil => cases ks <;> simp [EK.hasAll] at hx hy
    | cons y' ys => cases k <;> cases x <;> simp [EK.has] at h1 <;> cases y <;> simp [EK.has] at h2 <;> exact ⟨_, rfl, rfl⟩
theorem eqCells_split : ∀ (n : Nat) (ks : List EK) (xs ys : List D), EK.hasAll ks xs = true → EK.hasAll ks ys = true → eqCells xs ys = (eqCells (xs.take n) (ys.take n)).bind fun a => (eqCells (xs.drop n) (ys.drop n)).map (a && ·)
  | 0, ks, xs, ys, _, _ => by simp [eqCells]
  | n + 1, [], [], [], _, _ => by simp [eqCells]
  | n + 1, k :: ks, x :: xs, y :: ys, hx, hy => by
    simp only [EK.hasAll, Bool.and_eq_true] at hx hy
    obtain ⟨b, _, hb⟩ := eqCells_cons_eq hx.1 hy.1 hx.2 hy.2
    have ht : ∀ (ks : List EK) (xs : List D) (n : Nat), EK.hasAll ks xs = true → EK.hasAll (ks.take n) (xs.take n) = true := by
      intro ks
      induction ks with
      | nil => intro xs n h; cases xs <;> simp [EK.hasAll] at h ⊢
      | cons k ks ih =>
        intro xs n h
        cases xs with
        | nil => simp [EK.hasAll] at h
        | cons x xs =>
          simp only [EK.hasAll, Bool.and_eq_true] at h
          cases n with
          | zero => simp [EK.hasAll]
          | succ n => simp only [List.take_succ_cons, EK.hasAll, Bool.and_eq_true]; exact ⟨h.1, ih xs n h.2⟩
    obtain ⟨b', hb1, hb'⟩ := eqCells_cons_eq hx.1 hy.1 (ht ks xs n hx.2) (ht ks ys n hy.2)
    have : b' = b := by
      rename_i hb0
      rw [hb0] at hb1; injection hb1 with hb1; exact hb1.symm
    subst this
    rw [hb, eqCells_split n ks xs ys hx.2 hy.2]
    simp only [List.take_succ_cons, List.drop_succ_cons, hb']
    cases eqCells (xs.take n) (ys.take n) with
    | none => rfl
    | some a =>
      cases eqCells (xs.drop n) (ys.drop n) with
      | none => rfl
      | some c => simp [Bool.and_assoc]
  | n + 1, [], x :: xs, ys, hx, _ => by simp [EK.hasAll] at hx
  | n + 1, [], [], y :: ys, _, hy => by simp [EK.hasAll] at hy
  | n + 1, k :: ks, [], ys, hx, _ => by simp [EK.hasAll] at hx
  | n + 1, k :: ks, x :: xs, [], _, hy => by simp [EK.hasAll] at hy
theorem hasAll_take : ∀ (ks : List EK) (xs : List D) (n : Nat), EK.hasAll ks xs = true → EK.hasAll (ks.take n) (xs.take n) = true ∧ EK.hasAll (ks.drop n) (xs.drop n) = true
  | [], [], n, _ => by simp [EK.hasAll]
  | k :: ks, x :: xs, 0, h => by simpa [EK.hasAll] using h
  | k :: ks, x :: xs, n + 1, h => by
    simp only [EK.hasAll, Bool.and_eq_true] at h
    have := hasAll_take ks xs n h.2
    simp only [List.take_succ_cons, List.drop_succ_cons, EK.hasAll, Bool.and_eq_true]
    exact ⟨⟨h.1, this.1⟩, this.2⟩
  | [], _ :: _, n, h => by simp [EK.hasAll] at h
  | _ :: _, [], n, h => by simp [EK.hasAll] at h

def StrEq (P : Program) (d : Nat) (t : TypeId) (ks : List EK) : Prop :=
  ∀ (xs ys : List D) (r : Bool) (w : World), EK.hasAll ks xs = true → EK.hasAll ks ys = true → eqCells xs ys = some r → (Op.equalIn d t (.agg (xs.map D.lit).toArray) (.agg (ys.map D.lit).toArray)).run P w = .ok r w

theorem extract_eq {X : Array Value} {n sz : Nat} {xs : List D} (hX : ∀ i, X[n + i]? = (xs.map D.lit)[i]?) : X.extract n (n + sz) = ((xs.take sz).map D.lit).toArray := by
  apply Array.ext_getElem?
  intro i
  rw [Array.getElem?_extract]
  have := hX i
  rw [List.getElem?_map] at this
  simp only [List.getElem?_toArray, List.getElem?_map, List.getElem?_take]
  by_cases h1 : i < sz
  · simp only [h1, if_true]
    split
    · exact this
    · rename_i h2
      rw [← this]
      exact (Array.getElem?_eq_none (by omega)).symm
  · simp only [h1, if_false, Option.map_none]
    rw [if_neg (by omega)]

theorem fieldsN_ok {P : Program} {d : Nat} {rec : TypeId → List EK → Bool} (hrec : ∀ t ks, rec t ks = true → StrEq P (d + 1) t ks ∧ ∃ fs, P.underlying t = some (.struct fs)) (X Y : Array Value) (w : World) : ∀ (fs : List Field) (ks : List EK) (n : Nat) (xs ys : List D) (r : Bool), fieldsN P rec n fs ks = true → EK.hasAll ks xs = true → EK.hasAll ks ys = true →
    (∀ i, X[n + i]? = (xs.map D.lit)[i]?) → (∀ i, Y[n + i]? = (ys.map D.lit)[i]?) → eqCells xs ys = some r → (Op.eqFields (d + 1) X Y fs).run P w = .ok r w
  | [], ks, n, xs, ys, r, hf, hx, hy, _, _, h => by
    simp only [fieldsN, List.isEmpty_iff] at hf
    subst hf
    cases xs <;> simp [EK.hasAll] at hx
    cases ys <;> simp [EK.hasAll] at hy
    simp [eqCells] at h
    subst h
    simp [Op.eqFields]
  | f :: fs, ks, n, xs, ys, r, hf, hx, hy, hX, hY, h => by
    simp only [fieldsN, Bool.and_eq_true, bne_iff_ne, ne_eq, beq_iff_eq] at hf
    obtain ⟨⟨f1, f2⟩, hf⟩ := hf
    split at hf <;> first | (cases hf; done) | skip
    rename_i i hi
    rw [Bool.or_eq_true] at hf
    rcases hf with hf | hf
    · split at hf <;> first | (cases hf; done) | skip
      rename_i k ks'
      rw [Bool.and_eq_true] at hf
      obtain ⟨f3, f4⟩ := hf
      cases xs with
      | nil => simp [EK.hasAll] at hx
      | cons x xs =>
        cases ys with
        | nil => simp [EK.hasAll] at hy
        | cons y ys =>
          simp only [EK.hasAll, Bool.and_eq_true] at hx hy
          obtain ⟨b, r', g1, g2, rfl⟩ := eqCells_cons hx.1 hy.1 hx.2 hy.2 h
          obtain ⟨k1, k2⟩ := eq1_run f3 hx.1 hy.1 g1 d w
          have hx0 : X[n]? = some x.lit := by simpa using hX 0
          have hy0 : Y[n]? = some y.lit := by simpa using hY 0
          have p1 : (part f.type X f.offset).run P w = .ok x.lit w := by simp [part, k2, f2, hx0]
          have p2 : (part f.type Y f.offset).run P w = .ok y.lit w := by simp [part, k2, f2, hy0]
          have ih := fieldsN_ok hrec X Y w fs ks' (n + 1) xs ys r' f4 hx.2 hy.2 (fun i => by
            have := hX (i + 1)
            rw [show n + (i + 1) = n + 1 + i by omega] at this
            simpa using this) (fun i => by
            have := hY (i + 1)
            rw [show n + (i + 1) = n + 1 + i by omega] at this
            simpa using this) g2
          simp only [Op.eqFields, ne_eq, f1, not_false_eq_true, if_true, Sem.run_bind, p1, p2, k1, Result.andThen_ok]
          cases b with
          | true => simpa using ih
          | false => simp
    · rw [Bool.and_eq_true] at hf
      obtain ⟨f3, f4⟩ := hf
      obtain ⟨hs, fs', hu⟩ := hrec _ _ f3
      have hag : (isAgg f.type).run P w = .ok true w := by unfold Go.isAgg; rw [Sem.run_bind, run_underlying hu w]; rfl
      have hsz : (sizeOf f.type).run P w = .ok i.size w := by simp [Go.sizeOf, typeInfo, hi]
      have p1 : (part f.type X f.offset).run P w = .ok (.agg ((xs.take i.size).map D.lit).toArray) w := by
        rw [← extract_eq hX]; simp [part, hag, hsz, f2]
      have p2 : (part f.type Y f.offset).run P w = .ok (.agg ((ys.take i.size).map D.lit).toArray) w := by
        rw [← extract_eq hY]; simp [part, hag, hsz, f2]
      rw [eqCells_split i.size ks xs ys hx hy] at h
      obtain ⟨tx, dx⟩ := hasAll_take ks xs i.size hx
      obtain ⟨ty, dy⟩ := hasAll_take ks ys i.size hy
      cases hb : eqCells (xs.take i.size) (ys.take i.size) with
      | none => rw [hb] at h; cases h
      | some b =>
        rw [hb] at h
        simp only [Option.bind_some, Option.map_eq_some_iff] at h
        obtain ⟨r', g2, rfl⟩ := h
        have k1 := hs _ _ b w tx ty hb
        have ih := fieldsN_ok hrec X Y w fs (ks.drop i.size) (n + i.size) (xs.drop i.size) (ys.drop i.size) r' f4 dx dy (fun j => by
          have := hX (i.size + j)
          rw [show n + (i.size + j) = n + i.size + j by omega] at this
          rw [this]; simp [List.getElem?_drop]) (fun j => by
          have := hY (i.size + j)
          rw [show n + (i.size + j) = n + i.size + j by omega] at this
          rw [this]; simp [List.getElem?_drop]) g2
        simp only [Op.eqFields, ne_eq, f1, not_false_eq_true, if_true, Sem.run_bind, p1, p2, k1, Result.andThen_ok]
        cases b with
        | true => simpa using ih
        | false => simp
theorem nest_ok {P : Program} : ∀ (m : Nat) (d : Nat) (t : TypeId) (ks : List EK), m < d → nestB P m t ks = true → StrEq P d t ks ∧ ∃ fs, P.underlying t = some (.struct fs)
  | 0, d, t, ks, _, h => by cases h
  | m + 1, d, t, ks, hd, h => by
    simp only [nestB, Bool.and_eq_true, Bool.not_eq_true'] at h
    obtain ⟨h1, h2⟩ := h
    cases hu : P.underlying t with
    | none => simp [hu] at h1
    | some u =>
      cases u <;> simp [hu] at h1
      rename_i fs
      have hfo : P.fieldsOf t = fs := by simp [Program.fieldsOf, hu]
      refine ⟨fun xs ys r w hx hy he => ?_, fs, rfl⟩
      obtain ⟨d', rfl⟩ : ∃ d', d = d' + 1 + 1 := ⟨d - 2, by omega⟩
      rw [run_equalIn_struct w (d' + 1) t _ _ (by rw [hfo]; exact hu) h2, hfo]
      exact fieldsN_ok (fun t ks h => nest_ok m (d' + 1) t ks (by omega) h) _ _ w fs.toList ks 0 xs ys r h1 hx hy (fun i => by simp) (fun i => by simp) he
theorem eqOk_nest {P : Program} {t : TypeId} {ks : List EK} (m : Nat) (hm : m < 9999) (h : nestB P m t ks = true) (hg : P.eqGuardType P.depth t = false) : EqOk P t ks :=
  ⟨fun xs ys r w hx hy he => (nest_ok m 10000 t ks (by omega) h).1 xs ys r w hx hy he, hg⟩
end Go.Proofs.YteidaaobppjlbaaV
