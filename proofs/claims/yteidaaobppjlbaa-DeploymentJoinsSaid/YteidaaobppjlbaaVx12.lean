/- Calls. -/
import Derived.Test.YteidaaobppjlbaaVx11
set_option linter.unusedVariables false
set_option linter.unusedSimpArgs false
namespace Go.Proofs.YteidaaobppjlbaaV
open Go.RowKit

def frzOb (vs : List Nat) (o : Nat) : AObj → AObj
  | .vec g mv fz e sz els => .vec g mv (fz || vs.contains o) e sz els
  | x => x
theorem frzO_eq (vs : List Nat) (p : Nat × AObj) : frzO vs p = (p.1, frzOb vs p.1 p.2) := by
  obtain ⟨o, x⟩ := p
  cases x <;> rfl
theorem upds_frz (vs : List Nat) : ∀ (E : List (Nat × AObj)) (f : Nat → AObj) (o : Nat), (o ∈ E.map (·.1) → upds f (E.map (frzO vs)) o = frzOb vs o (upds f E o)) ∧ (o ∉ E.map (·.1) → ∀ f', f' o = f o → upds f' (E.map (frzO vs)) o = f o ∧ upds f' E o = f o)
  | [], f, o => ⟨fun h => by simp at h, fun _ f' h => ⟨h, h⟩⟩
  | (i, x) :: E, f, o => by
    obtain ⟨h1, h2⟩ := upds_frz vs E (upd f i x) o
    have hstep : ∀ f', upds f' (((i, x) :: E).map (frzO vs)) = upds (upd f' i (frzOb vs i x)) (E.map (frzO vs)) := fun f' => by
      rw [List.map_cons, frzO_eq]; rfl
    refine ⟨fun h => ?_, fun h f' hf => ?_⟩
    · by_cases hm : o ∈ E.map (·.1)
      · rw [hstep]
        have ind : ∀ (E : List (Nat × AObj)) (f g : Nat → AObj), o ∈ E.map (·.1) → upds f E o = upds g E o := by
          intro E
          induction E with
          | nil => intro f g h; simp at h
          | cons p E ih =>
            intro f g h
            show upds (upd f p.1 p.2) E o = upds (upd g p.1 p.2) E o
            by_cases hm : o ∈ E.map (·.1)
            · exact ih _ _ hm
            · have hp : o = p.1 := by simp only [List.map_cons, List.mem_cons] at h; exact h.resolve_right hm
              have base : ∀ (E : List (Nat × AObj)) (f : Nat → AObj), o ∉ E.map (·.1) → upds f E o = f o := by
                intro E
                induction E with
                | nil => intro f _; rfl
                | cons q E ih2 =>
                  intro f h
                  simp only [List.map_cons, List.mem_cons, not_or] at h
                  show upds (upd f q.1 q.2) E o = _
                  rw [ih2 _ h.2, upd_ne _ _ h.1]
              rw [base _ _ hm, base _ _ hm, hp, upd_same, upd_same]
        rw [ind (E.map (frzO vs)) (upd f i (frzOb vs i x)) (upd f i x) (by
          rw [List.map_map]
          obtain ⟨q, hq, e⟩ := List.mem_map.1 hm
          exact List.mem_map.2 ⟨q, hq, by simp only [Function.comp, frzO_eq]; exact e⟩)]
        exact h1 hm
      · have hp : o = i := by simp only [List.map_cons, List.mem_cons] at h; exact h.resolve_right hm
        subst hp
        obtain ⟨k1, _⟩ := (upds_frz vs E (upd f o (frzOb vs o x)) o).2 hm (upd f o (frzOb vs o x)) rfl
        obtain ⟨_, k2⟩ := h2 hm (upd f o x) rfl
        rw [hstep, k1]
        show _ = frzOb vs o (upds (upd f o x) E o)
        rw [k2, upd_same, upd_same]
    · simp only [List.map_cons, List.mem_cons, not_or] at h
      rw [hstep]
      obtain ⟨k1, _⟩ := (upds_frz vs E f o).2 h.2 (upd f' i (frzOb vs i x)) (by rw [upd_ne _ _ h.1, hf])
      obtain ⟨_, k2⟩ := (upds_frz vs E f o).2 h.2 (upd f' i x) (by rw [upd_ne _ _ h.1, hf])
      exact ⟨k1, k2⟩

section
variable {P : Program} {c : Ctx} {Z : Zst} {nt : Nat} {s : SS} {a : Act} {w : World} {I : Nat → Nat → Prop} {μ : Nat → Nat} {ν : Nat → Value} {o : Oper} {Q : Exit → Act → World → Prop}

def frzS (vs : List Nat) (ob : Nat → AObj) (o : Nat) : AObj := frzOb vs o (ob o)
theorem frzS_nil (ob : Nat → AObj) : frzS [] ob = ob := by
  funext o
  simp only [frzS]
  cases ob o <;> simp [frzOb]
/-- Some slices that nobody writes any more. -/
theorem freezes : ∀ (vs : List Nat) (s : SS) (I : Nat → Nat → Prop), Rel P Z nt s a w I μ ν → ∃ I', (∀ b off, I b off → I' b off) ∧ Rel P Z nt { s with ob := frzS vs s.ob } a w I' μ ν
  | [], s, I, hr => ⟨I, fun _ _ h => h, by rw [frzS_nil]; exact hr⟩
  | o :: vs, s, I, hr => by
    have step : ∃ I1, (∀ b off, I b off → I1 b off) ∧ ∃ x, Rel P Z nt { s with ob := upd s.ob o x } a w I1 μ ν ∧ frzS (o :: vs) s.ob = frzS vs (upd s.ob o x) := by
      cases hob : s.ob o with
      | vec g mv fz e sz els =>
        obtain ⟨I1, h1, h2⟩ := freeze1 hr hob
        refine ⟨I1, h1, _, h2, ?_⟩
        funext q
        simp only [frzS]
        by_cases e : q = o
        · subst e
          rw [upd_same, hob]
          simp [frzOb]
        · rw [upd_ne _ _ e]
          cases s.ob q <;> simp [frzOb, e]
      | _ =>
        refine ⟨I, fun _ _ h => h, s.ob o, by rw [upd_self _ _ rfl]; exact hr, ?_⟩
        rw [upd_self _ _ rfl]
        funext q
        simp only [frzS]
        by_cases e : q = o
        · subst e; rw [hob]; rfl
        · cases s.ob q <;> simp [frzOb, e]
    obtain ⟨I1, h1, x, h2, h3⟩ := step
    obtain ⟨I2, h4, h5⟩ := freezes vs _ I1 h2
    exact ⟨I2, fun b off h => h4 b off (h1 b off h), by rw [h3]; exact h5⟩
theorem goes_frz (vs : List Nat) (ob : Nat → AObj) : Goes ob (frzS vs ob) μ μ ν ν := by
  refine ⟨fun o ho => ⟨?_, rfl⟩, fun o g mv fz e sz els ho => ⟨g, mv, _, els, by simp only [frzS, ho, frzOb]; rfl, Nat.le_refl _, id, fun _ => ⟨rfl, rfl⟩⟩⟩
  simp only [frzS]
  cases h : ob o <;> simp [frzOb]
  exact ho h

theorem vids_oids {x : AV} : ∀ o ∈ x.vids, ∃ g sz lo hi, x = .vs o g sz lo hi := by
  intro o ho
  cases x <;> simp [AV.vids] at ho
  subst ho
  exact ⟨_, _, _, _, rfl⟩
/-- One value, as a datum where it is a slice. -/
theorem frzX_ok {vs : List Nat} {ob : Nat → AObj} {E : List (Nat × AObj)} {I I' : Nat → Nat → Prop} (hE : ∀ p ∈ E, ob p.1 = p.2) (hI : ∀ b off, I b off → I' b off) (hr : Rel P Z nt { s with ob := frzS vs ob } a w I' μ ν) {x y : AV} {u : Value} (hs : x.sc0 ob) (hv : VR w I μ ν ob x u) (hvs : ∀ o ∈ x.vids, o ∈ vs)
    (h : frzX E x = some y) : VR w I' μ ν (frzS vs ob) y u ∧ y.sc0 (frzS vs ob) := by
  have other : y = x → VR w I' μ ν (frzS vs ob) y u ∧ y.sc0 (frzS vs ob) := fun e => by
    subst e
    exact ⟨hv.mono0 (fun b o h => ⟨hI b o h, rfl⟩) (goes_frz vs ob) hs, hs.mono (goes_frz (μ := μ) (ν := ν) vs ob)⟩
  cases x with
  | vs o g sz lo hi =>
    simp only [frzX] at h
    split at h <;> first | (cases h; done) | skip
    rename_i z hz
    have hm : (o, z) ∈ E := by
      clear hE h
      induction E with
      | nil => simp at hz
      | cons p E ih =>
        obtain ⟨i, q⟩ := p
        simp only [List.lookup] at hz
        split at hz
        · rename_i heq
          injection hz with hz; subst hz
          simp at heq; subst heq
          simp
        · exact List.mem_cons_of_mem _ (ih hz)
    have hob := hE _ hm
    simp only at hob
    unfold vecEls at h
    split at h <;> first | (cases h; done) | skip
    rename_i g' mv fz e sz' els
    split at h <;> first | (cases h; done) | skip
    rename_i hgg
    subst hgg
    simp only [Option.map_some, Option.some.injEq] at h
    subst h
    cases hv with
    | vs _ _ _ _ _ _ hl hh =>
      obtain ⟨rfl, q1, q2, q3⟩ := hh _ _ _ _ _ hob
      have ho := hr.os o
      have hfz : frzS vs ob o = .vec g' mv true e sz' els := by
        simp only [frzS, hob, frzOb]
        have : vs.contains o = true := by simpa using hvs o (by simp [AV.vids])
        rw [this, Bool.or_true]
      change ObR P Z.new w I' μ ν (frzS vs ob) o (frzS vs ob o) at ho
      rw [hfz] at ho
      obtain ⟨xs, hvr⟩ := ho
      exact ⟨.d _ _ (view_VRd hvr q1 q2 q3), trivial⟩
  | _ =>
    simp only [frzX] at h
    first | cases h; done | (injection h with h; exact other h.symm)

theorem landC_ok {dd : Bool} {E : List (Nat × AObj)} (hE : ∀ p ∈ E, upds s.ob E p.1 = p.2) (hr : Rel P Z nt { s with ob := upds s.ob E } a w I μ ν) {x v : AV} {u : Value} {e : List (Nat × AObj)} (hs : x.sc (upds s.ob E)) (hv : VR w I μ ν (upds s.ob E) x u) (h : landC dd x E = some (v, e)) :
    ∃ I', Rel P Z nt { s with ob := upds s.ob e } a w I' μ ν ∧ VR w I' μ ν (upds s.ob e) v u ∧ v.sc (upds s.ob e) ∧ e.map (·.1) = E.map (·.1) := by
  have keys : ∀ vs, (E.map (frzO vs)).map (·.1) = E.map (·.1) := fun vs => by rw [List.map_map]; exact List.map_congr_left fun p _ => by simp [frzO_eq]
  have look : ∀ (x y : AV), frzX E x = some y → ∀ o ∈ x.vids, o ∈ E.map (·.1) := by
    intro x y hxy o ho
    obtain ⟨g, sz, lo, hi, rfl⟩ := vids_oids o ho
    simp only [frzX] at hxy
    split at hxy <;> first | (cases hxy; done) | skip
    rename_i z hz
    have : ∀ (E : List (Nat × AObj)), E.lookup o = some z → o ∈ E.map (·.1) := by
      intro E
      induction E with
      | nil => intro h; simp at h
      | cons p E ih =>
        intro h
        obtain ⟨i, q⟩ := p
        simp only [List.lookup] at h
        split at h
        · rename_i heq
          simp at heq; subst heq; simp
        · exact List.mem_cons_of_mem _ (ih h)
    exact this E hz
  have eqv : ∀ vs : List Nat, (∀ o ∈ vs, o ∈ E.map (·.1)) → upds s.ob (E.map (frzO vs)) = frzS vs (upds s.ob E) := by
    intro vs hvs
    funext o
    obtain ⟨h1, h2⟩ := upds_frz vs E s.ob o
    by_cases hm : o ∈ E.map (·.1)
    · exact h1 hm
    · obtain ⟨k1, k2⟩ := h2 hm s.ob rfl
      rw [k1]
      simp only [frzS, k2]
      have hc : o ∉ vs := fun hq => hm (hvs o hq)
      cases s.ob o with
      | vec g mv fz e sz els => simp [frzOb, hc]
      | _ => rfl
  unfold landC at h
  split at h
  · by_cases hnt : ∃ l, x = .tup l
    · obtain ⟨l, rfl⟩ := hnt
      simp only at h
      split at h <;> first | (cases h; done) | skip
      rename_i l' hl'
      injection h with h; injection h with e1 e2; subst e1; subst e2
      have each : ∀ {l l' : List AV}, frzL E l = some l' → l.length = l'.length ∧ ∀ (i : Nat) (x y : AV), l[i]? = some x → l'[i]? = some y → frzX E x = some y := by
        intro l
        induction l with
        | nil => intro l' h; simp [frzL] at h; subst h; simp
        | cons x l ih =>
          intro l' h
          simp only [frzL] at h
          split at h <;> first | (cases h; done) | skip
          rename_i y ys hy hys
          injection h with h; subst h
          obtain ⟨k1, k2⟩ := ih hys
          refine ⟨by simp [k1], fun i x' y' hx hy' => ?_⟩
          cases i with
          | zero => simp at hx hy'; subst hx; subst hy'; exact hy
          | succ i => exact k2 i x' y' (by simpa using hx) (by simpa using hy')
      obtain ⟨k1, k2⟩ := each hl'
      have hvs : ∀ o ∈ l.flatMap AV.vids, o ∈ E.map (·.1) := fun o ho => by
        obtain ⟨x, hx, ho⟩ := List.mem_flatMap.1 ho
        obtain ⟨i, hi⟩ := List.mem_iff_getElem?.1 hx
        have hlt : i < l'.length := by rw [← k1]; exact (List.getElem?_eq_some_iff.1 hi).1
        exact look x _ (k2 i x _ hi (List.getElem?_eq_getElem hlt)) o ho
      obtain ⟨I', hI, hr'⟩ := freezes (l.flatMap AV.vids) _ I hr
      change Rel P Z nt { s with ob := frzS (l.flatMap AV.vids) (upds s.ob E) } a w I' μ ν at hr'
      rw [← eqv _ hvs] at hr'
      refine ⟨I', hr', ?_⟩
      rw [eqv _ hvs] at hr' ⊢
      cases hv with
      | tup _ us hl hp =>
        have key : ∀ (i : Nat) (y : AV) (q : Value), l'[i]? = some y → us[i]? = some q → VR w I' μ ν (frzS (l.flatMap AV.vids) (upds s.ob E)) y q ∧ y.sc0 (frzS (l.flatMap AV.vids) (upds s.ob E)) := fun i y q hy hq => by
          have hlt : i < l.length := by rw [k1]; exact (List.getElem?_eq_some_iff.1 hy).1
          have hx := List.getElem?_eq_getElem hlt
          exact frzX_ok (s := s) hE hI hr' (hs _ (List.mem_of_getElem? hx)) (hp i _ q hx hq) (fun o ho => List.mem_flatMap.2 ⟨_, List.mem_of_getElem? hx, ho⟩) (k2 i _ y hx hy)
        refine ⟨.tup _ _ (by omega) fun i y q hy hq => (key i y q hy hq).1, fun y hy => ?_, keys _⟩
        obtain ⟨i, hi⟩ := List.mem_iff_getElem?.1 hy
        have hlt : i < us.length := by rw [← hl, k1]; exact (List.getElem?_eq_some_iff.1 hi).1
        exact (key i y _ hi (List.getElem?_eq_getElem hlt)).2
    · have NOTUP : ∀ l, x ≠ .tup l := fun l e => hnt ⟨l, e⟩
      have hsc : ∀ ob, x.sc ob = x.sc0 ob := by
        rcases sc_cases x with ⟨l, rfl⟩ | ⟨hsc, _⟩
        · exact absurd rfl (NOTUP l)
        · exact hsc
      have h : (match frzX E x with | some v' => some (v', E.map (frzO x.vids)) | none => none) = some (v, e) := by
        cases x with
        | tup l =>
          exact absurd rfl (NOTUP l)
        | _ => exact h
      split at h <;> first | (cases h; done) | skip
      rename_i v' hv'
      injection h with h; injection h with e1 e2; subst e1; subst e2
      have hvs := look x _ hv'
      obtain ⟨I', hI, hr'⟩ := freezes x.vids _ I hr
      change Rel P Z nt { s with ob := frzS x.vids (upds s.ob E) } a w I' μ ν at hr'
      rw [← eqv _ hvs] at hr'
      refine ⟨I', hr', ?_⟩
      rw [eqv _ hvs] at hr' ⊢
      rw [hsc] at hs
      obtain ⟨q1, q2⟩ := frzX_ok (s := s) hE hI hr' hs hv (fun o ho => ho) hv'
      exact ⟨q1, q2.sc, keys _⟩
  · injection h with h; injection h with e1 e2; subst e1; subst e2
    exact ⟨I, hr, hv, hs, rfl⟩
end

end Go.Proofs.YteidaaobppjlbaaV
