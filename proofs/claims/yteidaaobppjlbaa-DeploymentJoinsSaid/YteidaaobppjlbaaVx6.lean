/- Cuts, lengths, least and greatest, structs that are built. -/
import Derived.Test.YteidaaobppjlbaaVx5
import Derived.Laws.Slices
import Derived.Laws.Tables
set_option linter.unusedVariables false
set_option linter.unusedSimpArgs false
namespace Go.Proofs.YteidaaobppjlbaaV
open Go.RowKit

theorem flat_append (a b : List D) : D.flat (a ++ b) = D.flat a ++ D.flat b := by simp [D.flat]

theorem flat_cut {els : List D} {sz : Nat} (hs : ∀ e ∈ els, e.cells.length = sz) {l h : Nat} (hl : l ≤ els.length) {j : Nat} {d : D} (hj : (D.flat ((els.take h).drop l))[j]? = some d) : (D.flat els)[l * sz + j]? = some d := by
  by_cases hlh : l ≤ h
  · have e : els = els.take l ++ ((els.take h).drop l ++ els.drop h) := by
      have h1 : els.take h = (els.take h).take l ++ (els.take h).drop l := (List.take_append_drop l _).symm
      rw [List.take_take, Nat.min_eq_left hlh] at h1
      rw [← List.append_assoc, ← h1, List.take_append_drop]
    rw [e, flat_append, flat_append]
    have hlen : (D.flat (els.take l)).length = l * sz := by
      rw [length_flat (sz := sz) fun x hx => hs x (List.mem_of_mem_take hx), List.length_take, Nat.min_eq_left hl]
    rw [List.getElem?_append_right (by omega), hlen, Nat.add_sub_cancel_left, List.getElem?_append_left (List.getElem?_eq_some_iff.1 hj).1]
    exact hj
  · have : (els.take h).drop l = [] := by
      apply List.drop_eq_nil_of_le
      rw [List.length_take]; omega
    rw [this] at hj
    simp [D.flat] at hj

section
variable {P : Program} {c : Ctx} {Z : Zst} {nt : Nat} {s : SS} {a : Act} {w : World} {I : Nat → Nat → Prop} {μ : Nat → Nat} {ν : Nat → Value}

/-- A cut of a slice, as a value. -/
theorem VRd_cut {els : List D} {A : Option Addr} {cp l h sz : Nat} (hA : els ≠ [] → VRd w I (.sl els) (.slice A els.length cp)) (hs : ∀ e ∈ els, e.cells.length = sz) (hl : l ≤ h) (hh : h ≤ els.length) (hc : els.length ≤ cp) :
    VRd w I (.sl ((els.take h).drop l)) (sliced A l h cp sz) := by
  have hlen : ((els.take h).drop l).length = h - l := by rw [List.length_drop, List.length_take]; omega
  unfold sliced
  rw [← hlen]
  by_cases hn : els = []
  · subst hn
    refine .sl _ _ _ 0 0 0 (fun _ => undef) (by simp) (by simp) (by simp) (fun j hj => by simp at hj) (fun j d hj => by simp [D.flat] at hj)
  · have hv := hA hn
    cases hv with
    | sl _ _ _ sz' b off u h1 h2 h3 h4 h5 =>
      have hsz : sz' = sz := by
        cases els with
        | nil => exact absurd rfl hn
        | cons e es => rw [← h2 e (by simp), hs e (by simp)]
      subst hsz
      have hA' := h3 hn
      subst hA'
      refine .sl _ _ _ sz' b (off + l * sz') (fun j => u (l * sz' + j)) (by rw [hlen]; omega) (fun e he => hs e (List.mem_of_mem_take (List.mem_of_mem_drop he))) (fun hne => ?_) (fun j hj => ?_) (fun j d hj => h5 _ d (flat_cut hs (by omega) hj))
      · have : cp ≠ l := by
          intro e
          apply hne
          apply List.eq_nil_of_length_eq_zero
          rw [hlen]; omega
        rw [if_neg this]
        simp [Addr.add_lit]
      · have hlt : l * sz' + j < els.length * sz' := by
          rw [hlen] at hj
          have : l * sz' + (h - l) * sz' ≤ els.length * sz' := by rw [← Nat.add_mul]; exact Nat.mul_le_mul_right _ (by omega)
          omega
        have := h4 _ hlt
        rwa [← Nat.add_assoc] at this

theorem sliced_like {A : Option Addr} {cp n l h sz : Nat} (hl : sliceLike n (.slice A n cp)) (h1 : l ≤ h) (h2 : h ≤ n) : sliceLike (h - l) (sliced A l h cp sz) := by
  obtain ⟨A', c', e, hc, hA⟩ := hl
  injection e with e1 _ e2
  subst e1; subst e2
  refine ⟨_, _, rfl, by omega, fun hp => ?_⟩
  obtain ⟨b, off, rfl⟩ := hA (by omega)
  rw [if_neg (by omega)]
  exact ⟨b, off + l * sz, by simp [Addr.add_lit]⟩
theorem view_cut {v0 : Value} {A : Option Addr} {cp lo hi l h sz : Nat} (hv : viewOk v0 lo hi sz (.slice A (hi - lo) cp)) (h0 : lo ≤ hi) (h1 : l ≤ h) (h2 : h ≤ hi - lo) : viewOk v0 (lo + l) (lo + h) sz (sliced A l h cp sz) := by
  obtain ⟨A0, n0, c0, A', e1, e2, e3, e4, e5⟩ := hv
  injection e2 with e6 _ e7
  subst e6; subst e7
  refine ⟨A0, n0, c0, (if c0 - lo = l then A else A.map (·.add (l * sz))), e1, ?_, by omega, fun hz => ?_, fun hlt => ?_⟩
  · unfold sliced
    congr 1 <;> omega
  · have : l = 0 := by omega
    subst this
    rw [e4 (by omega)]
    split
    · rfl
    · cases A0 <;> simp [Addr.add]
  · rw [if_neg (by omega), e5 (by omega)]
    cases A0 with
    | none => rfl
    | some a0 =>
      simp only [Option.map_some, Option.some.injEq]
      unfold Addr.add
      rw [Nat.add_mul]
      by_cases q1 : lo * sz = 0 <;> by_cases q2 : l * sz = 0 <;> simp [q1, q2, Nat.add_assoc]

/-- The bounds of a cut, as the machine takes them. -/
theorem cut_bounds {n : Nat} {lo hi : Option AV} {l h : Nat} {lo' hi' : Option Value} (hlo : ∀ q, lo = some q → ∃ q', lo' = some q' ∧ VR w I μ ν s.ob q q') (hlo' : lo = none → lo' = none) (hhi : ∀ q, hi = some q → ∃ q', hi' = some q' ∧ VR w I μ ν s.ob q q') (hhi' : hi = none → hi' = none)
    (hc : cutF n lo hi = some (l, h)) : l ≤ h ∧ h ≤ n ∧ ((lo' = none ∧ l = 0) ∨ ∃ k q, lo' = some (.int k q) ∧ 0 ≤ q ∧ l = q.toNat) ∧ ((hi' = none ∧ h = n) ∨ ∃ k q, hi' = some (.int k q) ∧ 0 ≤ q ∧ h = q.toNat) := by
  unfold cutF at hc
  split at hc
  · injection hc with hc; injection hc with e1 e2; subst e1; subst e2
    exact ⟨Nat.zero_le _, Nat.le_refl _, .inl ⟨hlo' rfl, rfl⟩, .inl ⟨hhi' rfl, rfl⟩⟩
  · rename_i k q
    split at hc <;> first | (cases hc; done) | skip
    rename_i hb
    injection hc with hc; injection hc with e1 e2; subst e1; subst e2
    obtain ⟨q', e, hq⟩ := hlo _ rfl
    obtain rfl := VR_int hq
    exact ⟨by omega, Nat.le_refl _, .inr ⟨k, q, e, hb.1, rfl⟩, .inl ⟨hhi' rfl, rfl⟩⟩
  · rename_i k q
    split at hc <;> first | (cases hc; done) | skip
    rename_i hb
    injection hc with hc; injection hc with e1 e2; subst e1; subst e2
    obtain ⟨q', e, hq⟩ := hhi _ rfl
    obtain rfl := VR_int hq
    exact ⟨by omega, by omega, .inl ⟨hlo' rfl, rfl⟩, .inr ⟨k, q, e, hb.1, rfl⟩⟩
  · rename_i k q k' q2
    split at hc <;> first | (cases hc; done) | skip
    rename_i hb
    injection hc with hc; injection hc with e1 e2; subst e1; subst e2
    obtain ⟨q', e, hq⟩ := hlo _ rfl
    obtain rfl := VR_int hq
    obtain ⟨q3, e', hq'⟩ := hhi _ rfl
    obtain rfl := VR_int hq'
    exact ⟨by omega, by omega, .inr ⟨k, q, e, hb.1, rfl⟩, .inr ⟨k', q2, e', by omega, rfl⟩⟩
  · cases hc

theorem run_sliceF (hc : COk P c) {t : TypeId} {x : AV} {u : Value} {lo hi : Option AV} {lo' hi' : Option Value} {z : AV} (hs : x.sc s.ob) (hx : VR w I μ ν s.ob x u)
    (hlo : ∀ q, lo = some q → ∃ q', lo' = some q' ∧ VR w I μ ν s.ob q q') (hlo' : lo = none → lo' = none) (hhi : ∀ q, hi = some q → ∃ q', hi' = some q' ∧ VR w I μ ν s.ob q q') (hhi' : hi = none → hi' = none)
    (h : sliceF c.T t x lo hi = some z) : ∃ r, (Instr.sliceAt t u lo' hi' none).run P w = .ok r w ∧ VR w I μ ν s.ob z r ∧ z.sc s.ob := by
  unfold sliceF at h
  split at h
  · rename_i sz by_ zz hi_
    have ht := (hc.T.ok hi_).str rfl
    split at h
    · rename_i b
      obtain rfl := VR_str hx
      split at h <;> first | (cases h; done) | skip
      rename_i l h0 hcut
      injection h with h; subst h
      obtain ⟨b1, b2, b3, b4⟩ := cut_bounds hlo hlo' hhi hhi' hcut
      have base : (Instr.sliceBounds false b.size b.size lo' hi' none).run P w = .ok (l, h0, b.size) w → (Instr.sliceAt t (.string b) lo' hi' none).run P w = .ok (.string (b.extract l h0)) w := by
        intro hb
        simp [Instr.sliceAt, run_underlying ht, Instr.slice, hb]
      refine ⟨_, base ?_, .d _ _ (.str _), trivial⟩
      rcases b3 with ⟨rfl, rfl⟩ | ⟨k, q, rfl, q1, rfl⟩ <;> rcases b4 with ⟨rfl, rfl⟩ | ⟨k', q', rfl, q1', rfl⟩
      · simp [Instr.sliceBounds]
      · simp [Instr.sliceBounds, run_sliceBound, q1', show q' ≤ (b.size : Int) by omega]
      · simp [Instr.sliceBounds, run_sliceBound, q1, show q ≤ (b.size : Int) by omega]
      · simp only [Instr.sliceBounds, Sem.run_bind, Sem.run_pure, Result.andThen_ok, run_sliceBound w k' q' b.size _ q1' (by omega), run_sliceBound w k q q'.toNat _ q1 (by omega), Bool.false_eq_true, if_false, Option.isSome]
    · cases h
  · rename_i e sz by_ zz hi_
    have ht := (hc.T.ok hi_).slice rfl
    have ht' : P.underlying t = some (.slice (P.elem t)) := by simp [Program.elem, ht]
    have hel : P.elem t = e := by simp [Program.elem, ht]
    have any : ∀ (A : Option Addr) (n cp l h0 : Nat) (i : TyI), c.T.get e = some i → n ≤ cp → l ≤ h0 → h0 ≤ n → ((lo' = none ∧ l = 0) ∨ ∃ k q, lo' = some (.int k q) ∧ 0 ≤ q ∧ l = q.toNat) → ((hi' = none ∧ h0 = n) ∨ ∃ k q, hi' = some (.int k q) ∧ 0 ≤ q ∧ h0 = q.toNat) →
        (Instr.sliceAt t (.slice A n cp) lo' hi' none).run P w = .ok (sliced A l h0 cp i.size) w := by
      intro A n cp l h0 i hti hcp b1 b2 b3 b4
      have hte := hc.T.ok hti
      have hso : ∀ w, (sizeOf (P.elem t)).run P w = .ok i.size w := fun w => by rw [hel]; exact hte.sizeOf w
      rw [run_sliceAt_slice w t _ _ _ _ ht']
      rcases b3 with ⟨rfl, rfl⟩ | ⟨k, q, rfl, q1, rfl⟩ <;> rcases b4 with ⟨rfl, rfl⟩ | ⟨k', q', rfl, q1', rfl⟩
      · rw [run_slice_all w t A _ _ ht', hso]; rfl
      · rw [run_slice_h w t A _ _ ht' k' q' q1' (by omega), hso]; rfl
      · rw [run_slice_l w t A _ _ ht' k q q1 (by omega), hso]; rfl
      · rw [run_slice_lh w t A _ _ ht' k k' q q' q1 (by omega) (by omega), hso]; rfl
    split at h
    · rename_i o g sz' l0 h0
      split at h <;> first | (cases h; done) | skip
      rename_i i l h1 hti hcut
      split at h <;> first | (cases h; done) | skip
      rename_i hsz
      injection h with h; subst h
      obtain ⟨b1, b2, b3, b4⟩ := cut_bounds hlo hlo' hhi hhi' hcut
      cases hx with
      | vs _ _ _ _ _ _ hl hh =>
        obtain ⟨A, cp, rfl, hcp, hA⟩ := hl
        refine ⟨_, any A _ cp l h1 i hti hcp b1 b2 b3 b4, .vs _ _ _ _ _ _ ?_ fun mv fz e' sz2 els hob => ?_, hs⟩
        · rw [Nat.add_sub_add_left]
          exact sliced_like ⟨A, cp, rfl, hcp, hA⟩ b1 b2
        · obtain ⟨rfl, q1, q2, q3⟩ := hh _ _ _ _ _ hob
          refine ⟨rfl, by clear b3 b4; omega, by clear b3 b4; omega, ?_⟩
          rw [hsz]
          exact view_cut q3 q1 b1 b2
    · split at h <;> first | (cases h; done) | skip
      rename_i i els hti hels
      split at h <;> first | (cases h; done) | skip
      rename_i hsz
      split at h <;> first | (cases h; done) | skip
      rename_i l h1 hcut
      injection h with h; subst h
      obtain ⟨b1, b2, b3, b4⟩ := cut_bounds hlo hlo' hhi hhi' hcut
      obtain ⟨A, cp, rfl, hvd, hle⟩ := els_VR hels hx
      exact ⟨_, any A _ cp l h1 i hti hle b1 b2 b3 b4, .d _ _ (VRd_cut hvd (szAll_iff.1 hsz) b1 b2 hle), trivial⟩
  · cases h

theorem run_lenF (hc : COk P c) (hr : Rel P Z nt s a w I μ ν) {t ty : TypeId} {x : AV} {u : Value} {z : AV} (hx : VR w I μ ν s.ob x u) (h : lenF c.T t x s.ob = some z) :
    ∃ r, (Builtin.len_ #[t] ty #[u]).run P w = .ok r w ∧ VR w I μ ν s.ob z r ∧ z.sc s.ob := by
  unfold lenF at h
  split at h
  · rename_i sz by_ zz hi_
    have ht := (hc.T.ok hi_).str rfl
    split at h
    · injection h with h; subst h
      obtain rfl := VR_str hx
      exact ⟨_, by simp [Builtin.len_, run_underlying ht, goInt], .d _ _ (.int _ _), trivial⟩
    · cases h
  · rename_i e sz by_ zz hi_
    have ht := (hc.T.ok hi_).slice rfl
    split at h
    · injection h with h; subst h
      cases hx with
      | vs _ _ _ _ _ _ hl hh =>
        obtain ⟨A, cp, rfl, hcp, hA⟩ := hl
        exact ⟨_, by simp [Builtin.len_, run_underlying ht, goInt], .d _ _ (.int _ _), trivial⟩
    · split at h <;> first | (cases h; done) | skip
      rename_i els hels
      injection h with h; subst h
      obtain ⟨A, cp, rfl, _, _⟩ := els_VR hels hx
      exact ⟨_, by simp [Builtin.len_, run_underlying ht, goInt], .d _ _ (.int _ _), trivial⟩
  · rename_i k e sz by_ zz hi_
    have ht := (hc.T.ok hi_).map rfl
    split at h
    · injection h with h; subst h
      cases hx
      exact ⟨_, by simp [Builtin.len_, run_underlying ht, goInt], .d _ _ (.int _ _), trivial⟩
    · rename_i o
      have ho := hr.os o
      unfold mapLen at h
      split at h
      · rename_i es hob
        rw [hob] at ho
        injection h with h; subst h
        obtain ⟨ents, clock, h1, h2, _⟩ := ho
        cases hx
        refine ⟨_, ?_, .d _ _ (.int _ _), trivial⟩
        simp [Builtin.len_, run_underlying ht, goInt, getObj, Sem.run, h1, h2]
      · cases h
    · cases h
  · cases h

theorem run_mmFrom {f : Int → Int → Int} {g : Value → Value → Sem Value} (hg : ∀ k a k' b w, (g (.int k a) (.int k' b)).run P w = .ok (.int k (f a b)) w) {k : IntKind} : ∀ {xs : List AV} {us : List Value} {a : Int} {z : AV},
    xs.length = us.length → (∀ (i : Nat) (x : AV) (u : Value), xs[i]? = some x → us[i]? = some u → VR w I μ ν s.ob x u) → mmFrom f k a xs = some z → ∃ r, (us.foldlM g (.int k a)).run P w = .ok r w ∧ VR w I μ ν s.ob z r ∧ z.sc s.ob
  | [], [], a, z, _, _, h => by
    simp only [mmFrom, Option.some.injEq] at h
    subst h
    exact ⟨_, by simp, .d _ _ (.int _ _), trivial⟩
  | [], _ :: _, _, _, hl, _, _ => by simp at hl
  | _ :: _, [], _, _, hl, _, _ => by simp at hl
  | x :: xs, u :: us, a, z, hl, hv, h => by
    unfold mmFrom at h
    split at h
    · rename_i e; cases e
    · rename_i k' b rest e
      injection e with e1 e2
      subst e1; subst e2
      obtain rfl := VR_int (hv 0 _ _ rfl rfl)
      obtain ⟨r, h1, h2⟩ := run_mmFrom hg (by simpa using hl) (fun i y v hy hu => hv (i + 1) y v (by simpa using hy) (by simpa using hu)) h
      exact ⟨r, by simp [hg, h1], h2⟩
    · cases h

theorem run_mmF {f : Int → Int → Int} {g : Value → Value → Sem Value} (hg : ∀ k a k' b w, (g (.int k a) (.int k' b)).run P w = .ok (.int k (f a b)) w) {xs : List AV} {us : List Value} {z : AV}
    (hl : xs.length = us.length) (hv : ∀ (i : Nat) (x : AV) (u : Value), xs[i]? = some x → us[i]? = some u → VR w I μ ν s.ob x u) (h : mmF f xs = some z) :
    ∃ k a us' r, us = .int k a :: us' ∧ (us'.foldlM g (.int k a)).run P w = .ok r w ∧ VR w I μ ν s.ob z r ∧ z.sc s.ob := by
  unfold mmF at h
  split at h
  · rename_i k a rest
    cases us with
    | nil => simp at hl
    | cons u us =>
      obtain rfl := VR_int (hv 0 _ _ rfl rfl)
      obtain ⟨r, h1, h2⟩ := run_mmFrom hg (by simpa using hl) (fun i y v hy hu => hv (i + 1) y v (by simpa using hy) (by simpa using hu)) h
      exact ⟨k, a, us, r, rfl, h1, h2⟩
  · cases h

/-! ### A struct that is built -/
theorem take_set_succ {l : List Value} {i : Nat} {v : Value} (h : i < l.length) : (l.set i v).take (i + 1) = l.take i ++ [v] := by
  rw [List.take_succ_eq_append_getElem (by simpa using h), List.take_set_of_le (Nat.le_refl _)]
  simp

theorem fold_set (off : Nat) : ∀ (vs : List Value) (k : Nat) (cells : Array Value), off + k + vs.length ≤ cells.size →
    ((vs.zipIdx k).foldl (fun (cs : Array Value) (x : Value × Nat) => cs.setIfInBounds (off + x.2) x.1) cells).toList = cells.toList.take (off + k) ++ vs ++ cells.toList.drop (off + k + vs.length)
  | [], k, cells, _ => by simp
  | v :: vs, k, cells, h => by
    have hlt : off + k < cells.size := by simp at h; omega
    rw [List.zipIdx_cons, List.foldl_cons, fold_set off vs (k + 1) (cells.setIfInBounds (off + k) v) (by simp at h ⊢; omega)]
    rw [Array.toList_setIfInBounds, show off + (k + 1) = off + k + 1 by omega, take_set_succ (by simpa using hlt), List.drop_set_of_lt (by omega)]
    simp [Nat.add_assoc, Nat.add_comm 1]

theorem cells_toD {x : AV} {d : D} {u : Value} (h : x.toD = some d) (hv : VR w I μ ν s.ob x u) : ∃ us : List Value, u.cells.toList = us ∧ us.length = d.cells.length ∧ (∀ (i : Nat) (c : D) (v : Value), d.cells[i]? = some c → us[i]? = some v → VRd w I c v) ∧ ∀ v ∈ us, v.oneCell' = true := by
  have hd := toD_VR h hv
  have one : ∀ {d : D} {u : Value}, VRd w I d u → d.cells = [d] → u.cells = #[u] → u.oneCell' = true → ∃ us : List Value, u.cells.toList = us ∧ us.length = d.cells.length ∧ (∀ (i : Nat) (c : D) (v : Value), d.cells[i]? = some c → us[i]? = some v → VRd w I c v) ∧ ∀ v ∈ us, v.oneCell' = true := by
    intro d u hd h1 h2 h3
    refine ⟨[u], by rw [h2], by rw [h1]; rfl, fun i c v hc hv => ?_, by simpa using h3⟩
    rw [h1] at hc
    cases i with
    | zero => simp at hc hv; subst hc; subst hv; exact hd
    | succ i => simp at hc
  cases hd with
  | int k n => exact one (.int k n) rfl rfl rfl
  | bool b => exact one (.bool b) rfl rfl rfl
  | str b => exact one (.str b) rfl rfl rfl
  | nils => exact one .nils rfl rfl rfl
  | agg cs vs hl h1 hp => exact ⟨vs, rfl, hl.symm, hp, h1⟩
  | sl els A cp sz b off u h1 h2 h3 h4 h5 => exact one (.sl els A cp sz b off u h1 h2 h3 h4 h5) rfl rfl rfl

/-- Cells, some of them replaced. -/
theorem splice_VR {α : Type} {R : α → Value → Prop} {cs ds : List α} {vs us : List Value} {k : Nat} (hl : cs.length = vs.length) (hd : ds.length = us.length) (hk : k + ds.length ≤ cs.length)
    (h : ∀ (i : Nat) (c : α) (v : Value), cs[i]? = some c → vs[i]? = some v → R c v) (h' : ∀ (i : Nat) (c : α) (v : Value), ds[i]? = some c → us[i]? = some v → R c v) :
    (cs.take k ++ ds ++ cs.drop (k + ds.length)).length = (vs.take k ++ us ++ vs.drop (k + us.length)).length ∧
    ∀ (i : Nat) (c : α) (v : Value), (cs.take k ++ ds ++ cs.drop (k + ds.length))[i]? = some c → (vs.take k ++ us ++ vs.drop (k + us.length))[i]? = some v → R c v := by
  refine ⟨by simp; omega, fun i c v hc hv => ?_⟩
  rw [List.append_assoc] at hc hv
  by_cases h1 : i < k
  · rw [List.getElem?_append_left (by simp; omega), List.getElem?_take, if_pos h1] at hc hv
    exact h i c v hc hv
  · rw [List.getElem?_append_right (by simp; omega)] at hc hv
    have e1 : (cs.take k).length = k := by simp; omega
    have e2 : (vs.take k).length = k := by simp; omega
    rw [e1] at hc
    rw [e2] at hv
    by_cases h2 : i - k < ds.length
    · rw [List.getElem?_append_left (by omega)] at hc hv
      exact h' _ c v hc hv
    · rw [List.getElem?_append_right (by omega), List.getElem?_drop] at hc hv
      rw [← hd] at hv
      exact h _ c v hc hv

theorem run_fillF {fs : List (Nat × TypeId × Nat)} : ∀ {parts : List (Nat × AV)} {us : List (Nat × Value)} {cells : List D} {vs : Array Value} {z : List D}, parts.length = us.length →
    (∀ (i : Nat) (p : Nat × AV) (u : Nat × Value), parts[i]? = some p → us[i]? = some u → p.1 = u.1 ∧ VR w I μ ν s.ob p.2 u.2) →
    cells.length = vs.size → (∀ (i : Nat) (c : D) (v : Value), cells[i]? = some c → vs.toList[i]? = some v → VRd w I c v) → (∀ v ∈ vs.toList, v.oneCell' = true) → fillF fs cells parts = some z →
    ∃ r, Instr.fill (fun i => (fs[i]?).map fun f => (f.1, f.2.2)) vs us = some r ∧ z.length = r.size ∧ (∀ (i : Nat) (c : D) (v : Value), z[i]? = some c → r.toList[i]? = some v → VRd w I c v) ∧ ∀ v ∈ r.toList, v.oneCell' = true
  | [], [], cells, vs, z, _, _, hl, hv, h1, h => by
    simp only [fillF, Option.some.injEq] at h
    subst h
    exact ⟨vs, rfl, hl, hv, h1⟩
  | [], _ :: _, _, _, _, h, _, _, _, _, _ => by simp at h
  | _ :: _, [], _, _, _, h, _, _, _, _, _ => by simp at h
  | (i, x) :: ps, (j, u) :: us, cells, vs, z, hl, hp, hcl, hv, h1, h => by
    obtain ⟨hij, hxu⟩ := hp 0 _ _ rfl rfl
    simp only at hij hxu
    subst hij
    simp only [fillF] at h
    split at h
    · rename_i off ft n d hpl hd
      split at h <;> first | (cases h; done) | skip
      rename_i hcond
      obtain ⟨hn, hfit⟩ := hcond
      obtain ⟨ul, e1, e2, e3, e4⟩ := cells_toD hd hxu
      have hus : u.cells.size = n := by rw [← Array.length_toList, e1, e2, hn]
      have hset : (u.cells.zipIdx.foldl (fun (cs : Array Value) (x : Value × Nat) => cs.setIfInBounds (off + x.2) x.1) vs).toList = vs.toList.take off ++ ul ++ vs.toList.drop (off + ul.length) := by
        have := fold_set off ul 0 vs (by rw [e2, hn]; omega)
        rw [← e1] at this ⊢
        rw [← Array.foldl_toList, Array.toList_zipIdx]
        simpa using this
      subst hn
      obtain ⟨s1, s2⟩ := splice_VR (R := VRd w I) (cs := cells) (ds := d.cells) (vs := vs.toList) (us := ul) (k := off) (by simpa using hcl) e2.symm hfit hv e3
      have hnew1 : ∀ v ∈ (u.cells.zipIdx.foldl (fun (cs : Array Value) (x : Value × Nat) => cs.setIfInBounds (off + x.2) x.1) vs).toList, v.oneCell' = true := by
        rw [hset]
        intro v hvm
        rcases List.mem_append.1 hvm with hvm | hvm
        · rcases List.mem_append.1 hvm with hvm | hvm
          · exact h1 v (List.mem_of_mem_take hvm)
          · exact e4 v hvm
        · exact h1 v (List.mem_of_mem_drop hvm)
      obtain ⟨r, r1, r2⟩ := run_fillF (fs := fs) (parts := ps) (us := us) (cells := cells.take off ++ d.cells ++ cells.drop (off + d.cells.length)) (vs := u.cells.zipIdx.foldl (fun (cs : Array Value) (x : Value × Nat) => cs.setIfInBounds (off + x.2) x.1) vs) (z := z)
        (by simpa using hl) (fun i p u hp' hu' => hp (i + 1) p u (by simpa using hp') (by simpa using hu')) (by rw [← Array.length_toList, hset]; exact s1) (by rw [hset]; exact s2) hnew1 h
      refine ⟨r, ?_, r2⟩
      simp only [Instr.fill, hpl, Option.map_some]
      have hc : ¬ ((u.cells.size ≠ d.cells.length || off + u.cells.size > vs.size) = true) := by
        simp [hus]; omega
      rw [if_neg (by simpa using hc)]
      exact r1
    · cases h

theorem lits_VR : ∀ {vs : List Value} {xs : List AV}, litsEq vs xs = true → vs.length = xs.length ∧ (∀ v ∈ vs, v.oneCell' = true) ∧ (∀ x ∈ xs, x.sc0 s.ob ∧ x.one = true) ∧ ∀ (i : Nat) (x : AV) (v : Value), xs[i]? = some x → vs[i]? = some v → VR w I μ ν s.ob x v
  | [], [], _ => ⟨rfl, by simp, by simp, by simp⟩
  | [], _ :: _, h => by simp [litsEq] at h
  | _ :: _, [], h => by simp [litsEq] at h
  | v :: vs, x :: xs, h => by
    simp only [litsEq, Bool.and_eq_true] at h
    obtain ⟨h1, h2, h3, h4⟩ := lits_VR h.2
    have key : VR w I μ ν s.ob x v ∧ v.oneCell' = true ∧ x.sc0 s.ob ∧ x.one = true := by
      have h0 := h.1
      unfold litEq at h0
      split at h0 <;> simp only [Bool.and_eq_true, beq_iff_eq, decide_eq_true_eq, Bool.false_eq_true] at h0
      · obtain ⟨rfl, rfl⟩ := h0; exact ⟨.d _ _ (.int _ _), rfl, trivial, rfl⟩
      · subst h0; exact ⟨.d _ _ (.bool _), rfl, trivial, rfl⟩
      · rename_i a b
        have : a = b := by
          obtain ⟨⟨a⟩⟩ := a
          obtain ⟨⟨b⟩⟩ := b
          obtain ⟨h1, h2⟩ := h0
          simp [ByteArray.size] at h1 h2
          subst h1; subst h2; rfl
        subst this; exact ⟨.d _ _ (.str _), rfl, trivial, rfl⟩
      · obtain ⟨rfl, rfl⟩ := h0; exact ⟨.d _ _ .nils, rfl, trivial, rfl⟩
      · exact ⟨.nilm, rfl, trivial, rfl⟩
      · exact ⟨.nilp, rfl, trivial, rfl⟩
      · exact ⟨.nilf, rfl, trivial, rfl⟩
    refine ⟨by simp [h1], ?_, ?_, fun i y u hy hu => ?_⟩
    · intro u hu
      rcases List.mem_cons.1 hu with rfl | hu
      · exact key.2.1
      · exact h2 u hu
    · intro y hy
      rcases List.mem_cons.1 hy with rfl | hy
      · exact key.2.2
      · exact h3 y hy
    · cases i with
      | zero => simp at hy hu; subst hy; subst hu; exact key.1
      | succ i => exact h4 i y u (by simpa using hy) (by simpa using hu)

theorem places_of {fs : List Field} {gs : List (Nat × TypeId × Nat)} (h : fieldsEq P fs gs = true) : fs.mapM (fun f => (P.info? f.type).map fun i => (f.offset, i.size)) = some (gs.map fun g => (g.1, g.2.2)) := by
  induction gs generalizing fs with
  | nil =>
    cases fs with
    | nil => rfl
    | cons f fs => simp [fieldsEq] at h
  | cons g gs ih =>
    obtain ⟨o1, t1, n1⟩ := g
    cases fs with
    | nil => simp [fieldsEq] at h
    | cons f fs =>
      simp only [fieldsEq, Bool.and_eq_true, beq_iff_eq, bne_iff_ne] at h
      obtain ⟨⟨⟨⟨h1, h2⟩, h3⟩, h4⟩, h5⟩ := h
      have := ih h5
      cases hq : P.info? t1 with
      | none => simp [hq] at h4
      | some fi =>
        simp [hq] at h4
        simp [List.mapM_cons, h2, hq, this, h1, h4]

theorem run_buildF (hc : COk P c) {t : TypeId} {parts : List (Nat × AV)} {us : Array (Nat × Value)} {z : AV} (hl : parts.length = us.size)
    (hp : ∀ (i : Nat) (p : Nat × AV) (u : Nat × Value), parts[i]? = some p → us.toList[i]? = some u → p.1 = u.1 ∧ VR w I μ ν s.ob p.2 u.2) (h : buildF c.T t parts = some z) :
    ∃ r, (Instr.build t us).run P w = .ok r w ∧ VR w I μ ν s.ob z r ∧ z.sc s.ob := by
  unfold buildF at h
  split at h
  · rename_i fs sz by_ zz hi_
    have ht := hc.T.ok hi_
    obtain ⟨fl, hu, hf⟩ := ht.struct rfl
    obtain ⟨fi, g1, g2, g3, zv, g4, g5, _⟩ := ht.info
    split at h
    · rename_i zs hzs
      obtain ⟨l1, l2, l3, l4⟩ := lits_VR (w := w) (I := I) (μ := μ) (ν := ν) (s := s) g5
      obtain ⟨t1, t2⟩ := toDs_get hzs
      split at h <;> first | (cases h; done) | skip
      rename_i cs hcs
      injection h with hz
      obtain ⟨r, r1, r2, r3, r4⟩ := run_fillF (w := w) (I := I) (μ := μ) (ν := ν) (s := s) (us := us.toList) (vs := zv.cells) (by simpa using hl) hp (by rw [t1, ← l1]; simp) (fun i d v hd hv => by
        obtain ⟨x, hx, hxd⟩ := t2 i d hd
        exact toD_VR hxd (l4 i x v hx hv)) l2 hcs
      refine ⟨.agg r, run_build w t us r ?_, ?_, by rw [← hz]; trivial⟩
      · unfold Program.built
        simp only [g1, hu, g4, places_of hf]
        rw [← r1]
        congr 1
        funext i
        simp
      · rw [← hz]
        have := VRd.agg (w := w) (I := I) cs r.toList (by simpa using r2) r4 r3
        simpa using VR.d (μ := μ) (ν := ν) (ob := s.ob) _ _ this
    · cases h
  · cases h

end

end Go.Proofs.YteidaaobppjlbaaV
