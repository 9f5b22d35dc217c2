/- Each operation, carried out by the machine, gives what the walk says: operations that lay and turn nothing. -/
import Derived.Test.YteidaaobppjlbaaVx3
set_option linter.unusedVariables false
set_option linter.unusedSimpArgs false
namespace Go.Proofs.YteidaaobppjlbaaV
open Go.RowKit

def D.lit : D → Value
  | .int k n => .int k n
  | .bool b => .bool b
  | .str s => .string s
  | _ => .slice none 0 0

/-- '==' at a struct type, all of whose cells are told. -/
structure EqOk (P : Program) (t : TypeId) (ks : List EK) : Prop where
  run : ∀ (xs ys : List D) (r : Bool) (w : World), EK.hasAll ks xs = true → EK.hasAll ks ys = true → eqCells xs ys = some r → (Op.equal t (.agg (xs.map D.lit).toArray) (.agg (ys.map D.lit).toArray)).run P w = .ok r w
  guard : P.eqGuardType P.depth t = false

/-- f, called with these values over these objects, hands back r and the objects obs'; all else is left alone. -/
structure Good (P : Program) (f : FuncId) (xs : List AV) (obs : List AObj) (r : AV) (obs' : List AObj) : Prop where
  enters : ∀ (vs : Array Value) (w : World), (callFunc f vs).run P w = .ok (.enter f vs) w
  longer : obs.length ≤ obs'.length
  calls : ∀ (w : World) (I : Nat → Nat → Prop) (N : Nat → Prop) (μ : Nat → Nat) (ν : Nat → Value) (vs : List Value), StoR P N (obL obs) obs.length w I μ ν → (∀ b, N b → ∃ o, blkOf μ ν o (obL obs o) = some b) → xs.length = vs.length →
    (∀ (i : Nat) (x : AV) (v : Value), xs[i]? = some x → vs[i]? = some v → VR w I μ ν (obL obs) x v ∧ x.sc (obL obs)) →
    Calls P f vs.toArray w fun e w' => ∃ (v : Value) (I' : Nat → Nat → Prop) (μ' : Nat → Nat) (ν' : Nat → Value), e = .returned v ∧ StoR P (fun b => N b ∨ w.heap.size ≤ b) (obL obs') obs'.length w' I' μ' ν' ∧
      VR w' I' μ' ν' (obL obs') r v ∧ r.sc (obL obs') ∧ (∀ b o, I b o → I' b o ∧ w'.cell? ⟨b, o, none⟩ = w.cell? ⟨b, o, none⟩) ∧ (∀ b o, I' b o → I b o ∨ N b ∨ w.heap.size ≤ b) ∧ Keep N w w' ∧ GoesZ (obL obs) (obL obs') μ μ' ν ν'

structure Ctx where
  T : Tbl
  Q : TypeId → Option (List EK)
structure COk (P : Program) (c : Ctx) : Prop where
  T : TOk P c.T
  Q : ∀ t ks, c.Q t = some ks → EqOk P t ks

theorem wp_value {P : Program} {o : Oper} {a : Act} {w w' : World} {u : Value} {K : Act → World → Prop} {Q : Exit → Act → World → Prop} (h : (execOp a.eval o).run P w = .ok (.value u) w') (hK : K (a.put o.dst u) w') : o.wp P a w K Q := by
  unfold Oper.wp; rw [h]; exact hK
theorem wp_skipped {P : Program} {o : Oper} {a : Act} {w w' : World} {K : Act → World → Prop} {Q : Exit → Act → World → Prop} (h : (execOp a.eval o).run P w = .ok .skip w') (hK : K (a.put o.dst undef) w') : o.wp P a w K Q := by
  unfold Oper.wp; rw [h]; exact hK

section types
variable {P : Program} {t : TypeId} {i : TyI}
theorem TyOk.sizeOf (h : TyOk P t i) (w : World) : (sizeOf t).run P w = .ok i.size w := by
  obtain ⟨f, h1, h2, _⟩ := h.info
  simp [Go.sizeOf, typeInfo, h1, h2]
theorem TyOk.isAgg (h : TyOk P t i) (w : World) : (isAgg t).run P w = .ok i.kind.agg w := by
  obtain ⟨u, h1, h2⟩ := h.und
  unfold Go.isAgg
  rw [Sem.run_bind, run_underlying h1 w]
  cases u <;> cases hk : i.kind <;> simp_all [kindEq, TK.agg]
theorem TyOk.int {k : IntKind} (h : TyOk P t i) (hk : i.kind = .int k) : P.underlying t = some (.int k) := by
  obtain ⟨u, h1, h2⟩ := h.und
  rw [hk] at h2
  cases u <;> simp_all [kindEq]
theorem TyOk.bool (h : TyOk P t i) (hk : i.kind = .bool) : P.underlying t = some .bool := by
  obtain ⟨u, h1, h2⟩ := h.und
  rw [hk] at h2
  cases u <;> simp_all [kindEq]
theorem TyOk.str (h : TyOk P t i) (hk : i.kind = .str) : P.underlying t = some .string := by
  obtain ⟨u, h1, h2⟩ := h.und
  rw [hk] at h2
  cases u <;> simp_all [kindEq]
theorem TyOk.slice {e : TypeId} (h : TyOk P t i) (hk : i.kind = .slice e) : P.underlying t = some (.slice e) := by
  obtain ⟨u, h1, h2⟩ := h.und
  rw [hk] at h2
  cases u <;> simp_all [kindEq]
theorem TyOk.arr {n : Nat} {e : TypeId} (h : TyOk P t i) (hk : i.kind = .arr n e) : P.underlying t = some (.array n e) := by
  obtain ⟨u, h1, h2⟩ := h.und
  rw [hk] at h2
  cases u <;> simp_all [kindEq]
theorem TyOk.map {k e : TypeId} (h : TyOk P t i) (hk : i.kind = .map k e) : P.underlying t = some (.map k e) := by
  obtain ⟨u, h1, h2⟩ := h.und
  rw [hk] at h2
  cases u <;> simp_all [kindEq]
theorem fieldsEq_get {fs : List Field} {gs : List (Nat × TypeId × Nat)} (h : fieldsEq P fs gs = true) {j : Nat} {off ft n : Nat} (hj : gs[j]? = some (off, ft, n)) :
    ∃ f, fs[j]? = some f ∧ f.offset = off ∧ f.type = ft ∧ n ≠ 0 ∧ ∃ fi, P.info? ft = some fi ∧ fi.size = n := by
  induction gs generalizing fs j with
  | nil => simp at hj
  | cons g gs ih =>
    obtain ⟨o1, t1, n1⟩ := g
    cases fs with
    | nil => simp [fieldsEq] at h
    | cons f fs =>
      simp only [fieldsEq, Bool.and_eq_true, beq_iff_eq, bne_iff_ne] at h
      obtain ⟨⟨⟨⟨h1, h2⟩, h3⟩, h4⟩, h5⟩ := h
      cases j with
      | zero =>
        simp only [List.getElem?_cons_zero, Option.some.injEq, Prod.mk.injEq] at hj
        obtain ⟨rfl, rfl, rfl⟩ := hj
        cases hq : P.info? t1 with
        | none => simp [hq] at h4
        | some fi => exact ⟨f, rfl, h1, h2, h3, fi, rfl, by simpa [hq] using h4⟩
      | succ j => exact ih h5 (by simpa using hj)
theorem TyOk.struct {gs : List (Nat × TypeId × Nat)} (h : TyOk P t i) (hk : i.kind = .struct gs) : ∃ fs : Array Field, P.underlying t = some (.struct fs) ∧ fieldsEq P fs.toList gs = true := by
  obtain ⟨u, h1, h2⟩ := h.und
  rw [hk] at h2
  cases u <;> simp_all [kindEq]
end types

theorem run_binInt {P : Program} {w : World} {I : Nat → Nat → Prop} {op : BinOp} {t : TypeId} {k k' : IntKind} {a b : Int} {v : AV} (h : binIntF op k a k' b = some v) :
    ∃ u d, (binOp op t (.int k a) (.int k' b)).run P w = .ok u w ∧ v = .d d ∧ VRd w I d u := by
  unfold binIntF at h
  cases op <;> simp only at h
  case shl =>
    split at h <;> first | (cases h; done) | skip
    rename_i hb; injection h with h; subst h; exact ⟨_, _, by simp [binOp, Op.shift, Int.not_lt.2 hb], rfl, .int _ _⟩
  case shr =>
    split at h <;> first | (cases h; done) | skip
    rename_i hb; injection h with h; subst h; exact ⟨_, _, by simp [binOp, Op.shift, Int.not_lt.2 hb], rfl, .int _ _⟩
  case quo =>
    split at h <;> first | (cases h; done) | skip
    rename_i hb; obtain ⟨rfl, hb⟩ := hb; injection h with h; subst h; exact ⟨_, _, by simp [binOp, Op.intDiv, hb], rfl, .int _ _⟩
  case rem =>
    split at h <;> first | (cases h; done) | skip
    rename_i hb; obtain ⟨rfl, hb⟩ := hb; injection h with h; subst h; exact ⟨_, _, by simp [binOp, Op.intDiv, hb], rfl, .int _ _⟩
  all_goals (split at h <;> first | (cases h; done) | skip)
  all_goals (rename_i hk; subst hk; injection h with h; subst h)
  all_goals first
    | (refine ⟨_, _, ?_, rfl, .int _ _⟩; simp [binOp, Op.intArith]; done)
    | (refine ⟨_, _, ?_, rfl, .int _ _⟩; simp [binOp, Op.intBits]; done)
    | (refine ⟨_, _, ?_, rfl, .bool _⟩; simp [binOp, Op.intCmp]; done)

theorem run_binStr {P : Program} {w : World} {I : Nat → Nat → Prop} {op : BinOp} {t : TypeId} {a b : ByteArray} {v : AV} (h : binStrF op a b = some v) :
    ∃ u d, (binOp op t (.string a) (.string b)).run P w = .ok u w ∧ v = .d d ∧ VRd w I d u := by
  unfold binStrF at h
  cases op <;> simp only at h
  case add =>
    split at h <;> first | (cases h; done) | skip
    rename_i h1
    injection h with h; subst h
    refine ⟨_, _, ?_, rfl, .str _⟩
    simp [binOp, Op.stringOp]
    omega
  all_goals first
    | cases h; done
    | (injection h with h; subst h; exact ⟨_, _, by simp [binOp, Op.stringOp, eqS, lessS], rfl, .bool _⟩)

theorem lit_of {w : World} {I : Nat → Nat → Prop} {k : EK} {d : D} {v : Value} (h : k.has d = true) (hv : VRd w I d v) : v = d.lit := by
  cases k <;> cases hv <;> simp_all [EK.has, D.lit]
theorem lits_of {w : World} {I : Nat → Nat → Prop} : ∀ {ks : List EK} {ds : List D} {vs : List Value}, EK.hasAll ks ds = true → ds.length = vs.length → (∀ (i : Nat) (c : D) (v : Value), ds[i]? = some c → vs[i]? = some v → VRd w I c v) → vs = ds.map D.lit
  | [], [], [], _, _, _ => rfl
  | [], [], _ :: _, _, h, _ => by simp at h
  | k :: ks, d :: ds, [], _, h, _ => by simp at h
  | k :: ks, d :: ds, v :: vs, h, hl, hv => by
    simp only [EK.hasAll, Bool.and_eq_true] at h
    have e1 := lit_of h.1 (hv 0 d v rfl rfl)
    have e2 := lits_of h.2 (by simpa using hl) fun i c u hc hu => hv (i + 1) c u (by simpa using hc) (by simpa using hu)
    rw [e1, e2]
    rfl
  | [], _ :: _, _, h, _, _ => by simp [EK.hasAll] at h
  | _ :: _, [], _, h, _, _ => by simp [EK.hasAll] at h

theorem run_equalIn_bool {P : Program} {t : TypeId} (hb : P.underlying t = some .bool) (d : Nat) (a b : Bool) (w : World) : (Op.equalIn (d + 1) t (.bool a) (.bool b)).run P w = .ok (a == b) w := by
  simp [Op.equalIn, run_underlying hb]

theorem run_eqF {P : Program} {c : Ctx} (hc : COk P c) {w : World} {I : Nat → Nat → Prop} {μ : Nat → Nat} {ν : Nat → Value} {ob : Nat → AObj} {t : TypeId} {x y : AV} {u v : Value} {r : Bool}
    (hx : VR w I μ ν ob x u) (hy : VR w I μ ν ob y v) (h : eqF c.T c.Q t x y = some r) (op : BinOp) (X Y : Operand) :
    (Op.equal t u v).run P w = .ok r w ∧ (eqGuard op t X Y u v).run P w = .ok () w ∧ (∀ k n, u ≠ .int k n) ∧ (∀ b, u ≠ .string b) ∧ ((∃ b b', u = .bool b ∧ v = .bool b') ∨ ∃ a b, u = .agg a ∧ v = .agg b) := by
  unfold eqF at h
  split at h
  · cases hx with
    | d _ _ hx => cases hy with
      | d _ _ hy =>
        cases hx; cases hy
        split at h
        · rename_i a b _ i1 i2 i3 hT
          have hb := (hc.T.ok hT).bool rfl
          injection h with h; subst h
          refine ⟨?_, by cases op <;> rfl, by simp, by simp, .inl ⟨_, _, rfl, rfl⟩⟩
          exact run_equalIn_bool hb 9999 _ _ w
        · cases h
  · cases hx with
    | d _ _ hx => cases hy with
      | d _ _ hy =>
        cases hx with
        | agg xs vs hl h1 hp => cases hy with
          | agg ys us hl' h1' hp' =>
            split at h
            · rename_i ks hQ
              split at h
              · rename_i hk
                obtain ⟨k1, k2⟩ := hk
                have e1 := lits_of k1 hl hp
                have e2 := lits_of k2 hl' hp'
                have hq := hc.Q t ks hQ
                refine ⟨by rw [e1, e2]; exact hq.run _ _ _ _ k1 k2 h, ?_, by simp, by simp, .inr ⟨_, _, rfl, rfl⟩⟩
                unfold eqGuard
                split <;> simp [hq.guard]
              · cases h
            · cases h
  · cases h

theorem run_binF {P : Program} {c : Ctx} (hc : COk P c) {w : World} {I : Nat → Nat → Prop} {μ : Nat → Nat} {ν : Nat → Value} {ob : Nat → AObj} {op : BinOp} {t : TypeId} {x y : AV} {u v : Value} {z : AV}
    (hx : VR w I μ ν ob x u) (hy : VR w I μ ν ob y v) (h : binF c.T c.Q op t x y = some z) (X Y : Operand) :
    ∃ r d, (do eqGuard op t X Y u v; binOp op t u v : Sem Value).run P w = .ok r w ∧ z = .d d ∧ VRd w I d r := by
  unfold binF at h
  split at h
  · cases hx with
    | d _ _ hx => cases hy with
      | d _ _ hy =>
        cases hx; cases hy
        obtain ⟨r, d, h1, h2, h3⟩ := run_binInt (P := P) (w := w) (I := I) (t := t) h
        exact ⟨r, d, by simp [h1, eqGuard_at_int], h2, h3⟩
  · cases hx with
    | d _ _ hx => cases hy with
      | d _ _ hy =>
        cases hx; cases hy
        obtain ⟨r, d, h1, h2, h3⟩ := run_binStr (P := P) (w := w) (I := I) (t := t) h
        exact ⟨r, d, by simp [h1, eqGuard_at_string], h2, h3⟩
  · split at h
    · cases hq : eqF c.T c.Q t x y with
      | none => rw [hq] at h; cases h
      | some r =>
        rw [hq] at h
        injection h with hz
        obtain ⟨h1, h2, h3, h4, h5⟩ := run_eqF hc hx hy hq .eql X Y
        refine ⟨.bool r, .bool r, ?_, hz.symm, .bool _⟩
        rcases h5 with ⟨b, b', rfl, rfl⟩ | ⟨a, b, rfl, rfl⟩
        · rw [Sem.run_bind, h2]; simp [binOp, h1]
        · rw [Sem.run_bind, h2]; simp [binOp, h1]
    · cases hq : eqF c.T c.Q t x y with
      | none => rw [hq] at h; cases h
      | some r =>
        rw [hq] at h
        injection h with hz
        obtain ⟨h1, h2, h3, h4, h5⟩ := run_eqF hc hx hy hq .neq X Y
        refine ⟨.bool (!r), .bool (!r), ?_, hz.symm, .bool _⟩
        rcases h5 with ⟨b, b', rfl, rfl⟩ | ⟨a, b, rfl, rfl⟩
        · rw [Sem.run_bind, h2]; simp [binOp, h1]
        · rw [Sem.run_bind, h2]; simp [binOp, h1]
    · cases h

end Go.Proofs.YteidaaobppjlbaaV
