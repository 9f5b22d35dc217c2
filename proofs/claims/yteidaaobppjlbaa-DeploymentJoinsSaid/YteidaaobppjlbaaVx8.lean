/- Slices that are built, made, appended to. -/
import Derived.Test.YteidaaobppjlbaaVx7
set_option linter.unusedVariables false
set_option linter.unusedSimpArgs false
namespace Go.Proofs.YteidaaobppjlbaaV
open Go.RowKit

/-- append onto a row of the call's own: in place, or a new block and all that was there stands. -/
theorem app_law {P : Program} (w : World) (base : Nat) (t ty e : TypeId) (i : TypeInfo) (z : Value) (ht : P.underlying t = some (.slice e)) (hi : P.info? e = some i) (hz : i.zero = some z) (hzs : z.cells.size = i.size) (hsz : 0 < i.size)
    (v : Value) (n : Nat) (xs : List Value) (hown : w.ownsRow base e i.size v n xs) (A : Option Addr) (m c : Nat) (news : List Value) (hl : news.length = m * i.size) (hA : 0 < m → ∃ a, A = some a ∧ ∀ (j : Nat) (u : Value), news[j]? = some u → w.cell? (a.add j) = some u)
    (h1 : ∀ u ∈ news, u.oneCell' = true) (h63 : n + m ≤ 9223372036854775807) (hbytes : (n + m) * i.bytes ≤ 140737488355328) (hbase : base ≤ w.heap.size) :
    ∃ v' w', (Builtin.append_ #[t, t] ty #[v, .slice A m c]).run P w = .ok v' w' ∧ w'.ownsRow base e i.size v' (n + m) (xs ++ news) ∧
      ((v'.ownBlock = v.ownBlock ∧ w.grownBy w' v.ownBlock) ∨ (v'.ownBlock = some w.heap.size ∧ w.grownBy w' none)) := by
  have hmax : ∀ {q : Nat}, q ≤ 9223372036854775807 → q ≤ maxLen := fun h => by simp only [maxLen]; omega
  have hlen : (xs ++ news).length = (n + m) * i.size := by rw [List.length_append, hown.1, hl, Nat.add_mul]
  by_cases hm : m = 0
  · subst hm
    have hn : news = [] := List.eq_nil_of_length_eq_zero (by simpa using hl)
    subst hn
    refine ⟨v, w, ?_, by simpa using hown, .inl ⟨rfl, ⟨rfl, rfl, rfl, Nat.le_refl _, fun _ _ _ => rfl⟩⟩⟩
    have hz0 : loadCells ⟨0, 0, none⟩ 0 = pure #[] := rfl
    rcases hown.2 with ⟨rfl, rfl⟩ | ⟨g, cap, cur, rfl, _, _, hnc, _⟩ <;> cases A <;>
      simp [Builtin.append_, run_underlying ht, sizeOf, typeInfo, hi, Builtin.lenOf, Builtin.firstCells, loadCells, loadCellsFrom, storeCells, *]
  · obtain ⟨a, rfl, hnews⟩ := hA (by omega)
    have grown : ∀ (old : Nat), old < n + m →
        (w.drew.alloc (.cells (xs.toArray ++ news.toArray ++ Builtin.zeroCells z.cells (grownCap w (n + m) old e - (n + m))) e)).ownsRow base e i.size
          (.slice (some ⟨w.heap.size, 0, none⟩) (n + m) (grownCap w (n + m) old e)) (n + m) (xs ++ news) ∧
        w.grownBy (w.drew.alloc (.cells (xs.toArray ++ news.toArray ++ Builtin.zeroCells z.cells (grownCap w (n + m) old e - (n + m))) e)) none := by
      intro old ho
      have hge := grownCap_ge w (n + m) old e
      have hcm : grownCap w (n + m) old e ≤ maxLen := grownCap_le_maxLen w (n + m) old e (hmax h63)
      refine ⟨⟨hlen, .inr ⟨w.heap.size, _, _, rfl, hbase, heap_alloc_new w.drew _, hge, hcm, ?_, ?_⟩⟩, ⟨rfl, rfl, rfl, by simp, fun k hk _ => heap_alloc_old w.drew _ k hk⟩⟩
      · simp only [Array.size_append, List.size_toArray, size_zeroCells, hzs, hown.1, hl, ← Nat.add_mul]
        congr 1
        omega
      · simp only [Array.toList_append, List.append_assoc]
        rw [← List.append_assoc, ← hlen]
        exact List.take_left
    rcases hown.2 with ⟨rfl, rfl⟩ | ⟨g, cap, cur, rfl, hbg, hg, hnc, hcm, hcs, htake⟩
    · have hx : xs = [] := List.eq_nil_of_length_eq_zero (by simpa using hown.1)
      subst hx
      have hr := run_append_nil (P := P) w t ty e i z ht hi hz a m c news hl hnews (by omega) (by omega) (by have hb := hbytes; simp only [Nat.zero_add] at hb; omega)
      have hgr := grown 0 (by omega)
      simp only [Nat.zero_add, List.nil_append, Array.empty_append] at hgr ⊢
      exact ⟨_, _, hr, hgr.1, .inr ⟨rfl, hgr.2⟩⟩
    · by_cases hroom : n + m ≤ cap
      · have hfit : n * i.size + news.length ≤ cur.size := by rw [hl, hcs, ← Nat.add_mul]; exact Nat.mul_le_mul_right _ hroom
        have hr := run_append_room (P := P) w t ty e i ht hi g n cap cur hg a m c news hl hnews h1 hroom hfit
        refine ⟨_, _, hr, ⟨hlen, .inr ⟨g, cap, _, rfl, hbg, setRow_heap w g cur _ e _ hg, hroom, hcm, ?_, ?_⟩⟩, .inl ⟨rfl, ⟨rfl, rfl, rfl, by simp, fun k _ hk => setRow_other w g k _ (fun e => hk (by simp [Value.ownBlock, e]))⟩⟩⟩
        · simp only [List.size_toArray, List.length_append, List.length_take, List.length_drop, Array.length_toList]
          omega
        · rw [htake, ← hlen]
          exact List.take_left
      · have holds : ∀ (j : Nat) (u : Value), xs[j]? = some u → w.cell? ((⟨g, 0, none⟩ : Addr).add j) = some u := hown.cells (g := g) rfl
        have hr := run_append_grow (P := P) w t ty e i z ht hi hz ⟨g, 0, none⟩ n cap xs hown.1 holds a m c news hl hnews (by omega) (by omega) (growslice_fits (by omega) hbytes)
        have hgr := grown cap (by omega)
        exact ⟨_, _, hr, hgr.1, .inr ⟨rfl, hgr.2⟩⟩

section
variable {P : Program} {c : Ctx} {Z : Zst} {nt : Nat} {s : SS} {a : Act} {w : World} {I : Nat → Nat → Prop} {μ : Nat → Nat} {ν : Nat → Value}

/-- An owned row's elements read as data. -/
theorem VRd_own {w : World} {I : Nat → Nat → Prop} {base sz m : Nat} {e : TypeId} {v : Value} {xs : List Value} {els : List D} (hown : w.ownsRow base e sz v m xs) (hm : els.length = m) (hs : ∀ x ∈ els, x.cells.length = sz) (h1 : ∀ u ∈ xs, u.oneCell' = true)
    (hI : ∀ b, v.ownBlock = some b → ∀ off, off < m * sz → I b off) (hv : ∀ (j : Nat) (d : D) (u : Value), (D.flat els)[j]? = some d → xs[j]? = some u → VRd w I d u) : VRd w I (.sl els) v := by
  subst hm
  have hfl := length_flat hs
  rcases hown.2 with ⟨rfl, h0⟩ | ⟨g, cap, cur, rfl, hbg, hg, hnc, hcm, hcs, htake⟩
  · have : els = [] := List.eq_nil_of_length_eq_zero h0
    subst this
    exact .sl [] none 0 0 0 0 (fun _ => undef) (by simp) (by simp) (by simp) (fun j hj => by simp at hj) (fun j d hj => by simp [D.flat] at hj)
  · refine .sl els _ cap sz g 0 (fun j => xs.getD j undef) hnc hs (fun _ => rfl) (fun j hj => ?_) (fun j d hj => ?_)
    · have hj' : j < xs.length := by rw [hown.1]; exact hj
      have hx : xs[j]? = some (xs.getD j undef) := by rw [List.getD_eq_getElem?_getD, List.getElem?_eq_getElem hj']; rfl
      have hc := hown.cells (g := g) rfl j _ hx
      rw [Addr.add_lit] at hc
      exact ⟨hc, by simpa using hI g rfl j hj, h1 _ (List.mem_of_getElem? hx)⟩
    · have hj' : j < xs.length := by rw [hown.1, ← hfl]; exact (List.getElem?_eq_some_iff.1 hj).1
      exact hv j d _ hj (by rw [List.getD_eq_getElem?_getD, List.getElem?_eq_getElem hj']; rfl)

/-- The cells of a slice that is appended. -/
theorem news_of {w : World} {I : Nat → Nat → Prop} {ys : List D} {A : Option Addr} {m cp sz : Nat} (hm : m = ys.length) (h : ys ≠ [] → VRd w I (.sl ys) (.slice A m cp)) (hs : ∀ y ∈ ys, y.cells.length = sz) :
    ∃ news : List Value, news.length = m * sz ∧ (0 < m → ∃ ad, A = some ad ∧ ∀ (j : Nat) (u : Value), news[j]? = some u → w.cell? (ad.add j) = some u) ∧ (∀ u ∈ news, u.oneCell' = true) ∧ ∀ (j : Nat) (d : D) (u : Value), (D.flat ys)[j]? = some d → news[j]? = some u → VRd w I d u := by
  subst hm
  by_cases hn : ys = []
  · subst hn
    exact ⟨[], by simp, by simp, by simp, by simp⟩
  · have hv := h hn
    cases hv with
    | sl _ _ _ sz' b off u h1 h2 h3 h4 h5 =>
      have hsz : sz' = sz := by
        cases ys with
        | nil => exact absurd rfl hn
        | cons e es => rw [← h2 e (by simp), hs e (by simp)]
      subst hsz
      refine ⟨(List.range (ys.length * sz')).map u, by simp, fun _ => ⟨_, h3 hn, fun j v hj => ?_⟩, fun v hv => ?_, fun j d v hd hj => ?_⟩
      · have hlt : j < ys.length * sz' := by have := (List.getElem?_eq_some_iff.1 hj).1; simpa using this
        rw [List.getElem?_map, List.getElem?_range hlt] at hj
        simp at hj
        subst hj
        rw [Addr.add_lit]; exact (h4 j hlt).1
      · obtain ⟨j, hj, rfl⟩ := List.mem_map.1 hv
        exact (h4 j (List.mem_range.1 hj)).2.2
      · have hlt : j < ys.length * sz' := by have := (List.getElem?_eq_some_iff.1 hj).1; simpa using this
        rw [List.getElem?_map, List.getElem?_range hlt] at hj
        simp at hj
        subst hj
        exact h5 j d hd

theorem fillSlice {n : Nat} : ∀ {parts : List (Nat × AV)} {us : List (Nat × Value)} {i : Nat} {els : List D} {arr : Array Value}, parts.length = us.length →
    (∀ (i : Nat) (p : Nat × AV) (u : Nat × Value), parts[i]? = some p → us[i]? = some u → p.1 = u.1 ∧ VR w I μ ν s.ob p.2 u.2) → partsX n i parts = some els → (i + parts.length) * n ≤ arr.size →
    els.length = parts.length ∧ (∀ e ∈ els, e.cells.length = n) ∧ ∃ (r : Array Value) (flats : List Value), Instr.fill (fun j => some (j * n, n)) arr us = some r ∧ flats.length = els.length * n ∧ r.toList = arr.toList.take (i * n) ++ flats ++ arr.toList.drop ((i + els.length) * n) ∧
      (∀ u ∈ flats, u.oneCell' = true) ∧ ∀ (j : Nat) (d : D) (u : Value), (D.flat els)[j]? = some d → flats[j]? = some u → VRd w I d u
  | [], [], i, els, arr, _, _, h, _ => by
    simp only [partsX, Option.some.injEq] at h
    subst h
    exact ⟨rfl, by simp, arr, [], rfl, by simp, by simp, by simp, by simp⟩
  | [], _ :: _, _, _, _, h, _, _, _ => by simp at h
  | _ :: _, [], _, _, _, h, _, _, _ => by simp at h
  | (j, x) :: ps, (j', u) :: us, i, els, arr, hl, hp, h, hfit => by
    obtain ⟨hij, hxu⟩ := hp 0 _ _ rfl rfl
    simp only at hij hxu
    subst hij
    simp only [partsX] at h
    split at h
    · rename_i hij
      subst hij
      split at h
      · rename_i d ds hd hds
        split at h
        · rename_i hdn
          simp only [Option.some.injEq] at h
          subst h
          obtain ⟨ul, e1, e2, e3, e4⟩ := cells_toD hd hxu
          have hus : u.cells.size = n := by rw [← Array.length_toList, e1, e2, hdn]
          have hfit' : i * n + n ≤ arr.size := by
            have : i * n + n = (i + 1) * n := by rw [Nat.add_mul]; omega
            have h2 : (i + 1) * n ≤ (i + ((i, x) :: ps).length) * n := Nat.mul_le_mul_right _ (by simp)
            omega
          have hset : (u.cells.zipIdx.foldl (fun (cs : Array Value) (x : Value × Nat) => cs.setIfInBounds (i * n + x.2) x.1) arr).toList = arr.toList.take (i * n) ++ ul ++ arr.toList.drop (i * n + ul.length) := by
            have := fold_set (i * n) ul 0 arr (by rw [e2, hdn]; omega)
            rw [← e1] at this ⊢
            rw [← Array.foldl_toList, Array.toList_zipIdx]
            simpa using this
          have hul : ul.length = n := by rw [e2, hdn]
          have hsize : (u.cells.zipIdx.foldl (fun (cs : Array Value) (x : Value × Nat) => cs.setIfInBounds (i * n + x.2) x.1) arr).size = arr.size := by
            rw [← Array.length_toList, hset]; simp [hul]; omega
          obtain ⟨k1, k2, r, flats, r1, r2, r3, r4, r5⟩ := fillSlice (parts := ps) (us := us) (i := i + 1) (els := ds) (arr := u.cells.zipIdx.foldl (fun (cs : Array Value) (x : Value × Nat) => cs.setIfInBounds (i * n + x.2) x.1) arr)
            (by simpa using hl) (fun q p v hp' hv' => hp (q + 1) p v (by simpa using hp') (by simpa using hv')) hds (by rw [hsize]; simpa [Nat.add_assoc, Nat.add_comm 1] using hfit)
          refine ⟨by simp [k1], fun e he => ?_, r, ul ++ flats, ?_, ?_, ?_, fun v hv => ?_, fun q dd v hdd hv => ?_⟩
          · rcases List.mem_cons.1 he with rfl | he
            · exact hdn
            · exact k2 e he
          · simp only [Instr.fill]
            have hc : ¬ ((u.cells.size ≠ n || i * n + u.cells.size > arr.size) = true) := by simp [hus]; omega
            rw [if_neg (by simpa using hc)]
            exact r1
          · simp [hul, r2, Nat.add_mul]; omega
          · rw [r3, hset]
            have a1 : (arr.toList.take (i * n) ++ ul ++ arr.toList.drop (i * n + ul.length)).take ((i + 1) * n) = arr.toList.take (i * n) ++ ul := by
              have : (i + 1) * n = (arr.toList.take (i * n) ++ ul).length := by simp [hul, Nat.add_mul]; omega
              rw [this, List.take_left]
            have a2 : (arr.toList.take (i * n) ++ ul ++ arr.toList.drop (i * n + ul.length)).drop ((i + 1 + ds.length) * n) = arr.toList.drop ((i + (d :: ds).length) * n) := by
              have hlen : (arr.toList.take (i * n) ++ ul).length = i * n + n := by simp [hul]; omega
              rw [List.drop_append, hlen, List.drop_drop, hul]
              have e1 : (i + 1 + ds.length) * n = i * n + n + ds.length * n := by simp [Nat.add_mul]
              have e2 : (i + (d :: ds).length) * n = i * n + n + ds.length * n := by simp [Nat.add_mul]; omega
              rw [e1, e2, List.drop_eq_nil_of_le (by rw [hlen]; omega)]
              simp only [List.nil_append]
              congr 1
              omega
            rw [a1, a2]
            simp
          · rcases List.mem_append.1 hv with hv | hv
            · exact e4 v hv
            · exact r4 v hv
          · simp only [D.flat, List.flatMap_cons] at hdd
            by_cases hq : q < d.cells.length
            · rw [List.getElem?_append_left hq] at hdd
              rw [List.getElem?_append_left (by omega)] at hv
              exact e3 q dd v hdd hv
            · rw [List.getElem?_append_right (by omega)] at hdd
              rw [List.getElem?_append_right (by omega)] at hv
              rw [← e2] at hdd
              exact r5 _ dd v hdd hv
        · cases h
      · cases h
    · cases h

theorem TyOk.zero {t : TypeId} {i : TyI} (h : TyOk P t i) : ∃ z, (∀ w, (zeroValue t).run P w = .ok z w) ∧ litsEq z.cells.toList i.zero = true := by
  obtain ⟨f, h1, _, _, z, h2, h3, _⟩ := h.info
  exact ⟨z, fun w => by simp [zeroValue, typeInfo, h1, h2], h3⟩

/-- A slice that the machine has made comes in as the call's own, or as a datum. -/
theorem landV_ok (hr : Rel P Z nt s a w I μ ν) {nid : Nat} (hn : nid < s.n) (hd : s.ob nid = .dead) {w' : World} {v : Value} {e : TypeId} {sz : Nat} {els : List D} {xs : List Value} {dd : Bool} {z : AV} {eff : List (Nat × AObj)}
    (hinfo : ∃ f, P.info? e = some f ∧ f.size = sz) (hpos : 0 < sz) (hown : w'.ownsRow 0 e sz v els.length xs) (hsz : ∀ el ∈ els, el.cells.length = sz) (hrd : ∀ (j : Nat) (d : D) (u : Value), (D.flat els)[j]? = some d → xs[j]? = some u → VRd w' I d u)
    (h1 : ∀ u ∈ xs, u.oneCell' = true) (hb : Keep (fun b => w.heap.size ≤ b) w w') (hnew : ∀ b, v.ownBlock = some b → w.heap.size ≤ b) (h : landV dd nid e sz els = .val z eff) :
    ∃ I' μ' ν' q, eff = [(nid, q)] ∧ Rel P Z nt { s with ob := upd s.ob nid q } a w' I' μ' ν' ∧ VR w' I' μ' ν' (upd s.ob nid q) z v ∧ z.sc (upd s.ob nid q) := by
  have hold : ∀ b, v.ownBlock = some b → ∀ off, ¬ I b off := fun b hb off hi => by have := hnew b hb; have := hr.i2 b off hi; omega
  unfold landV at h
  split at h
  · injection h with hz he
    subst hz; subst he
    let I' : Nat → Nat → Prop := fun b off => I b off ∨ (v.ownBlock = some b ∧ off < els.length * sz)
    have hmono : ∀ b o, I b o → I' b o ∧ w'.cell? ⟨b, o, none⟩ = w'.cell? ⟨b, o, none⟩ := fun b o h => ⟨.inl h, rfl⟩
    have hvr : VecR P Z.new w' I' v true e sz els xs :=
      { info := hinfo, pos := hpos, own := hown, size := hsz, rd := fun j d u hd hu => (hrd j d u hd hu).mono hmono, one := h1, new := fun b hb => new_above hr (hnew b hb),
        spare := fun b hb off hoff hi => by
          rcases hi with hi | ⟨_, hi⟩
          · exact hold b hb off hi
          · omega
        free := fun h => by cases h
        froz := fun _ b hb off hoff => .inr ⟨hb, hoff⟩ }
    refine ⟨I', _, _, _, rfl, lay_vec hr hn hd hvr hb (fun b o h => .inl h) (fun b o h => ?_) hnew 0 true, .d _ _ ?_, trivial⟩
    · rcases h with h | ⟨h, _⟩
      · exact .inl h
      · exact .inr ⟨hnew b h, (hown.lt b h).2⟩
    · exact VRd_own hown rfl hsz h1 (fun b hb off hoff => .inr ⟨hb, hoff⟩) fun j d u hd hu => (hrd j d u hd hu).mono hmono
  · injection h with hz he
    subst hz; subst he
    have hvr : VecR P Z.new w' I v false e sz els xs :=
      { info := hinfo, pos := hpos, own := hown, size := hsz, rd := hrd, one := h1, new := fun b hb => new_above hr (hnew b hb),
        spare := fun b hb off _ => hold b hb off
        free := fun _ b hb off => hold b hb off
        froz := fun h => by cases h }
    refine ⟨I, _, _, _, rfl, lay_vec hr hn hd hvr hb (fun b o h => h) (fun b o h => .inl h) hnew 0 true, .vs _ _ _ _ _ _ ?_ fun mv fz e' sz' els' hob => ?_, ⟨0, true, false, e, sz, els, upd_same _ _ _, Nat.le_refl _⟩⟩
    · rcases hown.2 with ⟨rfl, h0⟩ | ⟨g, cap, cur, rfl, _, _, hnc, _⟩
      · exact ⟨none, 0, by simp [h0], by omega, fun h => by omega⟩
      · exact ⟨_, cap, rfl, by simpa using hnc, fun _ => ⟨g, 0, rfl⟩⟩
    · rw [upd_same] at hob
      injection hob with _ _ _ _ e5 e6
      subst e5; subst e6
      rw [upd_same]
      refine ⟨rfl, Nat.zero_le _, Nat.le_refl _, ?_⟩
      rcases hown.2 with ⟨rfl, h0⟩ | ⟨g, cap, cur, rfl, _, _, hnc, _⟩
      · exact ⟨none, 0, 0, none, rfl, by simp [h0], by omega, fun _ => rfl, fun h => by omega⟩
      · exact ⟨_, _, cap, _, rfl, rfl, hnc, fun _ => rfl, fun _ => by simp [Addr.add]⟩

/-- A slice that is built. -/
theorem buildSlice_ok (hc : COk P c) (hr : Rel P Z nt s a w I μ ν) {nid : Nat} (hn : nid < s.n) (hd : s.ob nid = .dead) {dd : Bool} {t : TypeId} {len : Nat} {parts : List (Nat × AV)} {us : Array (Nat × Value)} {v : AV} {e : List (Nat × AObj)} (hl : parts.length = us.size)
    (hp : ∀ (i : Nat) (p : Nat × AV) (u : Nat × Value), parts[i]? = some p → us.toList[i]? = some u → p.1 = u.1 ∧ VR w I μ ν s.ob p.2 u.2) (h : buildSliceF c.T dd t len parts nid = .val v e) :
    ∃ r w' I' μ' ν' q, (Instr.buildSlice t len us).run P w = .ok r w' ∧ e = [(nid, q)] ∧ Rel P Z nt { s with ob := upd s.ob nid q } a w' I' μ' ν' ∧ VR w' I' μ' ν' (upd s.ob nid q) v r ∧ v.sc (upd s.ob nid q) := by
  unfold buildSliceF at h
  split at h <;> first | (cases h; done) | skip
  rename_i et sz by_ zz hi
  have ht := (hc.T.ok hi).slice rfl
  split at h <;> first | (cases h; done) | skip
  rename_i i hti
  have hte := hc.T.ok hti
  split at h <;> first | (cases h; done) | skip
  rename_i els hels
  split at h <;> first | (cases h; done) | skip
  rename_i hcond
  obtain ⟨hlen, hbig, hpos⟩ := hcond
  obtain ⟨zv, hz1, hz2⟩ := hte.zero
  obtain ⟨f, hf1, hf2, _⟩ := hte.info
  let z0 : Array Value := if len * i.size = 0 then #[] else zv.cells
  let arr : Array Value := (Array.range (len * i.size)).map (z0[· % z0.size]!)
  obtain ⟨k1, k2, r, flats, r1, r2, r3, r4, r5⟩ := fillSlice (w := w) (I := I) (μ := μ) (ν := ν) (s := s) (n := i.size) (us := us.toList) (arr := arr) (by simpa using hl) hp hels (by simp [arr, hlen])
  have hlen' : els.length = len := by rw [k1, hlen]
  have hrl : r.toList = flats := by
    rw [r3, hlen']
    simp [arr]
  have hrun : (Instr.buildSlice t len us).run P w = .ok (.slice (some ⟨w.heap.size, 0, none⟩) len len) (w.alloc (.cells r et)) := by
    have hb : ¬ (len * i.size > 2 ^ 24) := by omega
    unfold Instr.buildSlice
    by_cases h0 : len * i.size = 0
    · have r1' := r1
      simp [arr, z0, h0] at r1'
      simp [run_underlying ht, hte.sizeOf, h0, r1', newRow]
    · have r1' := r1
      simp [arr, z0, h0] at r1'
      simp [run_underlying ht, hte.sizeOf, h0, hz1, r1', newRow, Nat.not_lt.2 hbig]
  have hown : (w.alloc (.cells r et)).ownsRow 0 et i.size (.slice (some ⟨w.heap.size, 0, none⟩) len len) els.length flats := by
    rw [hlen']
    refine ⟨by rw [r2, hlen'], .inr ⟨w.heap.size, len, r, rfl, Nat.zero_le _, heap_alloc_new w _, Nat.le_refl _, ?_, ?_, ?_⟩⟩
    · have : len ≤ len * i.size := Nat.le_mul_of_pos_right _ hpos
      simp only [maxLen]; omega
    · rw [← Array.length_toList, hrl, r2, hlen']
    · rw [hrl, List.take_of_length_le (by rw [r2, hlen']; exact Nat.le_refl _)]
  have hmono : ∀ b o, I b o → I b o ∧ (w.alloc (.cells r et)).cell? ⟨b, o, none⟩ = w.cell? ⟨b, o, none⟩ := fun b o hh => ⟨hh, World.cell?_alloc_lt w _ ⟨b, o, none⟩ (hr.i2 b o hh)⟩
  obtain ⟨I', μ', ν', q, q1, q2, q3, q4⟩ := landV_ok hr hn hd ⟨f, hf1, hf2⟩ hpos hown k2 (fun j d u hd hu => (r5 j d u hd hu).mono hmono) r4 (keep_alloc w _) (fun b hb => by simp only [Value.ownBlock, Option.some.injEq] at hb; subst hb; exact Nat.le_refl _) h
  exact ⟨_, _, I', μ', ν', q, hrun, q1, q2, q3, q4⟩

theorem els_sl {x : AV} {els : List D} {v : Value} (h : elsOf x = some els) (hv : VR w I μ ν s.ob x v) : ∃ A cp, v = .slice A els.length cp ∧ (els ≠ [] → VRd w I (.sl els) (.slice A els.length cp)) := by
  obtain ⟨A, cp, rfl, h1, h2⟩ := els_VR h hv
  exact ⟨A, cp, rfl, h1⟩

/-- The cells of a slice that is appended, also of one of the call's own. -/
theorem newsR_of (hr : Rel P Z nt s a w I μ ν) {y : AV} {ys : List D} {u : Value} {sz : Nat} (h : elsR s.ob y = some ys) (hv : VR w I μ ν s.ob y u) (hs : ∀ y ∈ ys, y.cells.length = sz) :
    ∃ (A : Option Addr) (cp : Nat) (news : List Value), u = .slice A ys.length cp ∧ news.length = ys.length * sz ∧ (0 < ys.length → ∃ ad, A = some ad ∧ ∀ (j : Nat) (u : Value), news[j]? = some u → w.cell? (ad.add j) = some u) ∧ (∀ u ∈ news, u.oneCell' = true) ∧ ∀ (j : Nat) (d : D) (u : Value), (D.flat ys)[j]? = some d → news[j]? = some u → VRd w I d u := by
  have other : elsOf y = some ys → ∃ (A : Option Addr) (cp : Nat) (news : List Value), u = .slice A ys.length cp ∧ news.length = ys.length * sz ∧ (0 < ys.length → ∃ ad, A = some ad ∧ ∀ (j : Nat) (u : Value), news[j]? = some u → w.cell? (ad.add j) = some u) ∧ (∀ u ∈ news, u.oneCell' = true) ∧ ∀ (j : Nat) (d : D) (u : Value), (D.flat ys)[j]? = some d → news[j]? = some u → VRd w I d u := fun h => by
    obtain ⟨A, cp, rfl, hvd⟩ := els_sl h hv
    obtain ⟨news, n1, n2, n3, n4⟩ := news_of rfl hvd hs
    exact ⟨A, cp, news, rfl, n1, n2, n3, n4⟩
  cases y with
  | vs o g sz' lo hi =>
    replace h : vecEls g lo hi (s.ob o) = some ys := h
    have ho := hr.os o
    unfold vecEls at h
    split at h <;> first | (cases h; done) | skip
    rename_i g' mv fz e sz2 els hob
    rw [hob] at ho
    obtain ⟨xs, hvr⟩ := ho
    split at h <;> first | (cases h; done) | skip
    rename_i hgg
    subst hgg
    have h := Option.some.inj h
    cases hv with
    | vs _ _ _ _ _ _ hl hh =>
      obtain ⟨rfl, q1, q2, A0, n0, c0, A', e1, e2, e3, e4, e5⟩ := hh _ _ _ _ _ hob
      have hlen : ys.length = hi - lo := by rw [← h, List.length_drop, List.length_take]; omega
      by_cases h0 : ys = []
      · subst h0
        simp at hlen
        exact ⟨A', c0 - lo, [], by rw [e2, ← hlen]; rfl, by simp, by simp, by simp, by simp⟩
      · have hpos : 0 < ys.length := List.length_pos_iff.2 h0
        have hszz : sz = sz2 := by
          obtain ⟨y0, hy0⟩ := List.exists_mem_of_ne_nil _ h0
          rw [← hs y0 hy0]
          exact hvr.size y0 (by rw [← h] at hy0; exact List.mem_of_mem_take (List.mem_of_mem_drop hy0))
        subst hszz
        obtain ⟨b, hb, hcv, hcell⟩ := hvr.blk (by omega)
        have hxl := hvr.own.1
        have hA : A' = some ⟨b, lo * sz, none⟩ := by
          rw [e5 (by omega)]
          rcases hvr.own.2 with ⟨q, h1⟩ | ⟨b', cap, cur, q, _⟩
          · omega
          · rw [q] at e1 hb
            injection e1 with e1 _ _
            simp only [Value.ownBlock, Option.some.injEq] at hb
            subst hb
            rw [← e1]
            simp [Addr.add_lit]
        have hle : lo * sz + ys.length * sz ≤ xs.length := by
          rw [hxl, ← Nat.add_mul]
          exact Nat.mul_le_mul_right _ (by omega)
        have hnl : ((xs.drop (lo * sz)).take (ys.length * sz)).length = ys.length * sz := by simp; omega
        have hget : ∀ (j : Nat) (u : Value), ((xs.drop (lo * sz)).take (ys.length * sz))[j]? = some u → xs[lo * sz + j]? = some u := by
          intro j u hj
          rw [List.getElem?_take] at hj
          split at hj
          · rwa [List.getElem?_drop] at hj
          · cases hj
        refine ⟨A', c0 - lo, (xs.drop (lo * sz)).take (ys.length * sz), by rw [e2, hlen], hnl, fun _ => ⟨_, hA, fun j u hj => ?_⟩, fun u hu => hvr.one u (List.mem_of_mem_drop (List.mem_of_mem_take hu)), fun j d u hd hj => ?_⟩
        · rw [Addr.add_lit]
          exact hcell _ _ (hget j u hj)
        · refine hvr.rd (lo * sz + j) d u ?_ (hget j u hj)
          rw [← h] at hd
          exact flat_cut hvr.size (by omega) hd
  | _ => exact other h

theorem keep_grown {w w' : World} {row : Option Nat} {N : Nat → Prop} (hg : w.grownBy w' row) (hr : ∀ k, row = some k → N k) : Keep N w w' :=
  ⟨hg.os, hg.tape, hg.output, hg.size, fun k hk hn => hg.block k hk fun e => hn (hr k e.symm)⟩

/-- append. -/
theorem append_ok (hc : COk P c) (hr : Rel P Z nt s a w I μ ν) {nid : Nat} {v : AV} {e : List (Nat × AObj)} (hn : (nid < s.n ∧ s.ob nid = .dead) ∨ ∀ q, e ≠ [(nid, q)]) {dd : Bool} {t ty : TypeId} {x y : AV} {u u' : Value} (hx : VR w I μ ν s.ob x u) (hy : VR w I μ ν s.ob y u')
    (h : appendF c.T dd t x y s.ob nid = .val v e) :
    ∃ r w' I' μ' ν' o q, (Builtin.append_ #[t, t] ty #[u, u']).run P w = .ok r w' ∧ e = [(o, q)] ∧ (o = nid ∨ s.ob o ≠ .dead) ∧ Rel P Z nt { s with ob := upd s.ob o q } a w' I' μ' ν' ∧ VR w' I' μ' ν' (upd s.ob o q) v r ∧ v.sc (upd s.ob o q) := by
  unfold appendF at h
  split at h <;> first | (cases h; done) | skip
  rename_i et sz by_ zz hi
  have ht := (hc.T.ok hi).slice rfl
  split at h <;> first | (cases h; done) | skip
  rename_i i ys hti hys
  have hte := hc.T.ok hti
  split at h <;> first | (cases h; done) | skip
  rename_i hcond
  obtain ⟨hcl, hpos⟩ := hcond
  have hcl := szAll_iff.1 hcl
  obtain ⟨f, hf1, hf2, hf3, z, hf4, hf5, hf6⟩ := hte.info
  have hzs : z.cells.size = f.size := by omega
  obtain ⟨A, cp, news, rfl, n1, n2, n3, n4⟩ := newsR_of hr hys hy hcl
  have room : ∀ {n b : Nat}, roomB n b = true → n * b ≤ 140737488355328 ∧ n ≤ 9223372036854775807 := fun h => by simpa [roomB] using h
  split at h
  · split at h <;> first | (cases h; done) | skip
    rename_i hroom
    obtain ⟨hb, hm⟩ := room hroom
    obtain rfl := VR_nils hx
    obtain ⟨v', w', hrun, hown, hcase⟩ := app_law (P := P) w 0 t ty et f z ht hf1 hf4 hzs (by omega) (.slice none 0 0) 0 [] (World.ownsRow_nil ..) A ys.length cp news (by rw [hf2]; exact n1) n2 n3 (by omega) (by rw [hf3, Nat.zero_add]; exact hb) (Nat.zero_le _)
    simp only [Nat.zero_add, List.nil_append] at hown
    have hg : w.grownBy w' none := by
      rcases hcase with ⟨_, h⟩ | ⟨_, h⟩ <;> exact h
    have hblk : ∀ b, v'.ownBlock = some b → w.heap.size ≤ b := by
      intro b hb
      rcases hcase with ⟨h, _⟩ | ⟨h, _⟩
      · rw [h] at hb; cases hb
      · rw [h] at hb; injection hb with hb; omega
    have hk : Keep (fun b => w.heap.size ≤ b) w w' := keep_grown hg (by simp)
    rw [hf2] at hown
    have hn : nid < s.n ∧ s.ob nid = .dead := by
      rcases hn with hn | hn
      · exact hn
      · exfalso
        have h' := h
        unfold landV at h'
        split at h' <;> (injection h' with _ e2; exact hn _ e2.symm)
    obtain ⟨I', μ', ν', q, q1, q2, q3, q4⟩ := landV_ok hr hn.1 hn.2 ⟨f, hf1, hf2⟩ hpos hown hcl (fun j d u hd hu => (n4 j d u hd hu).mono fun b o hh => ⟨hh, World.cell?_of_block (hk.block b (hr.i2 b o hh) (Nat.not_le.2 (hr.i2 b o hh)))⟩) n3 hk hblk h
    exact ⟨_, _, I', μ', ν', nid, q, hrun, q1, .inl rfl, q2, q3, q4⟩
  · rename_i o g sz' lo hi_
    have ho := hr.os o
    unfold appVec at h
    split at h <;> first | (cases h; done) | skip
    rename_i g' mv fz e' sz2 els hob
    rw [hob] at ho
    obtain ⟨xs, hvr⟩ := ho
    split at h <;> first | (cases h; done) | skip
    rename_i hcond
    obtain ⟨rfl, rfl, rfl, rfl, hfz, hroom⟩ := hcond
    injection h with hz he
    subst hz; subst he
    obtain ⟨hb, hm⟩ := room hroom
    cases hx with
    | vs _ _ _ _ _ _ hl hh =>
      obtain ⟨_, _, q2, A0, n0, c0, A', e1, e2, e3, e4, e5⟩ := hh _ _ _ _ _ hob
      have hA : A' = A0 := e4 rfl
      subst hA
      simp only [Nat.sub_zero] at e2
      subst e2
      have hszf : f.size = sz2 := by
        obtain ⟨f', k1, k2⟩ := hvr.info
        rw [hf1] at k1; injection k1 with k1; subst k1; exact k2
      have hisz : i.size = sz2 := by omega
      rw [hisz] at hcl n1
      -- the part that is kept
      have htl : (els.take hi_).length = hi_ := by rw [List.length_take]; omega
      have hown0 : w.ownsRow 0 e' sz2 (.slice A' hi_ c0) hi_ (xs.take (hi_ * sz2)) := by
        have hle : hi_ * sz2 ≤ xs.length := by rw [hvr.own.1]; exact Nat.mul_le_mul_right _ q2
        refine ⟨by rw [List.length_take]; omega, ?_⟩
        rcases hvr.own.2 with ⟨q, h1⟩ | ⟨b', cap, cur, q, k1, k2, k3, k4, k5, k6⟩
        · rw [q] at e1; injection e1 with e1 e6 e7
          subst e1
          exact .inl ⟨by rw [← e7, show hi_ = 0 by omega], by omega⟩
        · rw [q] at e1; injection e1 with e1 e6 e7
          refine .inr ⟨b', cap, cur, by rw [← e1, ← e7], k1, k2, by omega, k4, k5, ?_⟩
          rw [← k6, List.take_take, Nat.min_eq_left (Nat.mul_le_mul_right _ q2)]
      have hownB : (Value.slice A' hi_ c0).ownBlock = (ν o).ownBlock := by rw [e1]; cases A' <;> rfl
      obtain ⟨v', w', hrun, hown, hcase⟩ := app_law (P := P) w 0 t ty e' f z ht hf1 hf4 hzs (by omega) (.slice A' hi_ c0) hi_ _ (by rw [hszf]; exact hown0) A ys.length cp news (by rw [hszf]; exact n1) n2 n3 (by omega) (by rw [hf3]; exact hb) (Nat.zero_le _)
      rw [hszf] at hown
      rw [hownB] at hcase
      let I' : Nat → Nat → Prop := fun b off => I b off ∨ (fz = true ∧ v'.ownBlock = some b ∧ off < (hi_ + ys.length) * sz2)
      have hold : ∀ b, (ν o).ownBlock = some b → Z.new b ∧ b < w.heap.size := fun b hb => ⟨hvr.new b hb, (hvr.own.lt b hb).2⟩
      have hcell : ∀ b off, I b off → w'.cell? ⟨b, off, none⟩ = w.cell? ⟨b, off, none⟩ := by
        intro b off hh
        rcases hcase with ⟨hv, hg⟩ | ⟨hv, hg⟩
        · by_cases e : (ν o).ownBlock = some b
          · have hf : fz = true := by
              cases hff : fz with
              | true => rfl
              | false => exact absurd hh (hvr.free hff b e off)
            have hie : hi_ = els.length := by
              rcases hfz with h | h
              · exact h
              · rw [hf] at h; cases h
            have hoff : off < els.length * sz2 := by
              rcases Nat.lt_or_ge off (els.length * sz2) with h | h
              · exact h
              · exact absurd hh (hvr.spare b e off h)
            have hlx : off < (xs.take (hi_ * sz2)).length := by rw [hown0.1, hie]; exact hoff
            have h1 := hown0.cells (hownB.trans e) off _ (List.getElem?_eq_getElem hlx)
            have h2 := hown.cells (hv.trans e) off _ (by rw [List.getElem?_append_left hlx]; exact List.getElem?_eq_getElem hlx)
            rw [Addr.add_lit, Nat.zero_add] at h1 h2
            rw [h1, h2]
          · exact World.cell?_of_block (hg.block b (hr.i2 b off hh) (fun e' => e e'.symm))
        · exact World.cell?_of_block (hg.block b (hr.i2 b off hh) (by simp))
      have hI : ∀ b off, I b off → I' b off ∧ w'.cell? ⟨b, off, none⟩ = w.cell? ⟨b, off, none⟩ := fun b off hh => ⟨.inl hh, hcell b off hh⟩
      have hlive : s.ob o ≠ .dead := by rw [hob]; simp
      have hgo : Goes s.ob (upd s.ob o (.vec (g' + 1) true fz e' sz2 (els.take hi_ ++ ys))) μ μ ν (upd ν o v') := ⟨fun o' h' => by
          by_cases e : o' = o
          · subst e; rw [upd_same]; exact ⟨by simp, rfl⟩
          · rw [upd_ne _ _ e]; exact ⟨h', rfl⟩, fun o' q mv' fz' e3 sz3 els3 h' => by
          by_cases e : o' = o
          · subst e
            rw [hob] at h'
            injection h' with a1 a2 a3 a4 a5 a6
            subst a1; subst a4; subst a5
            exact ⟨g' + 1, true, fz, _, by rw [upd_same], by omega, fun _ => rfl, fun h => absurd h (by rintro (h | h); (omega); (cases h))⟩
          · rw [upd_ne _ _ e, upd_ne _ _ e]; exact ⟨q, mv', fz', els3, h', Nat.le_refl _, id, fun _ => ⟨rfl, rfl⟩⟩⟩
      have hsize : w.heap.size ≤ w'.heap.size := by rcases hcase with ⟨_, h⟩ | ⟨_, h⟩ <;> exact h.size
      have hvnew : ∀ b, v'.ownBlock = some b → (ν o).ownBlock = some b ∨ b = w.heap.size := by
        intro b hb
        rcases hcase with ⟨h, _⟩ | ⟨h, _⟩
        · left; rw [← h]; exact hb
        · right; rw [h] at hb; injection hb with hb; exact hb.symm
      have hnewN : ∀ b, v'.ownBlock = some b → Z.new b := fun b hb => by
        rcases hvnew b hb with h | h
        · exact (hold b h).1
        · exact new_above hr (by omega)
      have hlen : (els.take hi_ ++ ys).length = hi_ + ys.length := by rw [List.length_append, htl]
      have hvr' : VecR P Z.new w' I' v' fz e' sz2 (els.take hi_ ++ ys) (xs.take (hi_ * sz2) ++ news) :=
        { info := hvr.info, pos := hvr.pos, own := by rw [hlen]; exact hown
          size := fun el hel => by
            rcases List.mem_append.1 hel with hel | hel
            · exact hvr.size el (List.mem_of_mem_take hel)
            · exact hcl el hel
          rd := fun j d u hd hu => by
            rw [flat_append] at hd
            have hfl : (D.flat (els.take hi_)).length = hi_ * sz2 := by rw [length_flat (sz := sz2) (fun x hx => hvr.size x (List.mem_of_mem_take hx)), htl]
            by_cases hj : j < hi_ * sz2
            · rw [List.getElem?_append_left (by omega)] at hd
              rw [List.getElem?_append_left (by rw [hown0.1]; exact hj), List.getElem?_take, if_pos hj] at hu
              refine (hvr.rd j d u ?_ hu).mono hI
              have := flat_cut (els := els) (l := 0) (h := hi_) hvr.size (Nat.zero_le _) (j := j) (d := d) (by simpa using hd)
              simpa using this
            · rw [List.getElem?_append_right (by omega), hfl] at hd
              rw [List.getElem?_append_right (by rw [hown0.1]; omega), hown0.1] at hu
              exact (n4 _ d u hd hu).mono hI
          one := fun u hu => by
            rcases List.mem_append.1 hu with hu | hu
            · exact hvr.one u (List.mem_of_mem_take hu)
            · exact n3 u hu
          new := hnewN
          spare := fun b hb off hoff hi => by
            rw [hlen] at hoff
            rcases hi with hi | ⟨_, _, hi⟩
            · rcases hvnew b hb with h | h
              · cases hff : fz with
                | false => exact hvr.free hff b h off hi
                | true =>
                  have hie : hi_ = els.length := by
                    rcases hfz with h | h
                    · exact h
                    · rw [hff] at h; cases h
                  exact hvr.spare b h off (Nat.le_trans (Nat.mul_le_mul_right _ (by omega)) hoff) hi
              · have := hr.i2 _ _ hi; omega
            · omega
          free := fun hff b hb off hi => by
            rcases hi with hi | ⟨h, _⟩
            · rcases hvnew b hb with h | h
              · exact hvr.free hff b h off hi
              · have := hr.i2 _ _ hi; omega
            · rw [hff] at h; cases h
          froz := fun hff b hb off hoff => .inr ⟨hff, hb, by rw [← hlen]; exact hoff⟩ }
      have hrel : Rel P Z nt { s with ob := upd s.ob o (.vec (g' + 1) true fz e' sz2 (els.take hi_ ++ ys)) } a w' I' μ (upd ν o v') := by
        refine hr.turn (hr.lt_n hlive) hI hgo (fun o' b hne hbk => ?_) (fun o' hne => ?_) ⟨_, by rw [upd_same]; exact hvr'⟩ (fun o' b hne hbk => ?_) ?_ (fun b off hh => ?_) (fun b off hh => ?_)
        · have hne' : (ν o).ownBlock ≠ some b := fun e => hr.sep o o' b (Ne.symm hne) (by rw [hob]; exact e) hbk
          refine ⟨?_, fun off hh => ?_⟩
          · rcases hcase with ⟨_, hg⟩ | ⟨_, hg⟩
            · exact hg.block b (hr.blk_lt hbk).1 (fun e => hne' e.symm)
            · exact hg.block b (hr.blk_lt hbk).1 (by simp)
          · rcases hh with hh | ⟨_, hh, _⟩
            · exact hh
            · rcases hvnew b hh with h | h
              · exact absurd h hne'
              · have := (hr.blk_lt hbk).1; omega
        · generalize s.ob o' = q
          cases q <;> simp [blkOf, upd_ne _ _ hne]
        · simp only [blkOf, upd_same]
          intro hv
          rcases hvnew b hv with h | h
          · exact hr.sep o o' b (Ne.symm hne) (by rw [hob]; exact h) hbk
          · have := (hr.blk_lt hbk).1; omega
        · rcases hcase with ⟨_, hg⟩ | ⟨_, hg⟩
          · exact hr.keep (N := fun k => (ν o).ownBlock = some k) (keep_grown hg fun k hk => hk) fun b _ hb => (hold b hb).1
          · exact hr.keep (N := fun _ => False) (keep_grown hg (by simp)) fun b _ hb => hb.elim
        · rcases hh with hh | ⟨_, hh, _⟩
          · exact .inl hh
          · exact .inr (hnewN b hh)
        · rcases hh with hh | ⟨_, hh, _⟩
          · exact Nat.lt_of_lt_of_le (hr.i2 b off hh) hsize
          · exact (hown.lt b hh).2
      refine ⟨v', w', I', μ, _, o, _, hrun, rfl, .inr hlive, hrel, .vs _ _ _ _ _ _ ?_ fun mv2 fz2 e2 sz3 els2 h2 => ?_, ⟨_, _, _, _, _, _, upd_same _ _ _, Nat.le_refl _⟩⟩
      · rcases hown.2 with ⟨rfl, h0⟩ | ⟨g, cap, cur, rfl, _, _, hnc, _⟩
        · exact ⟨none, 0, by simp [h0], by omega, fun h => by omega⟩
        · exact ⟨_, cap, rfl, by simpa using hnc, fun _ => ⟨g, 0, rfl⟩⟩
      · rw [upd_same] at h2
        injection h2 with _ _ _ _ e5 e6
        subst e5; subst e6
        rw [upd_same]
        refine ⟨rfl, Nat.zero_le _, by rw [hlen]; exact Nat.le_refl _, ?_⟩
        rcases hown.2 with ⟨rfl, h0⟩ | ⟨g, cap, cur, rfl, _, _, hnc, _⟩
        · exact ⟨none, 0, 0, none, rfl, by simp [h0], by omega, fun _ => rfl, fun h => by omega⟩
        · exact ⟨_, _, cap, _, rfl, rfl, hnc, fun _ => rfl, fun _ => by simp [Addr.add]⟩
  · cases h

theorem flat_replicate {z : D} {zs : List D} (hz : z.cells = zs) {n i : Nat} {d : D} (h : (D.flat (List.replicate n z))[i]? = some d) : 0 < zs.length ∧ zs[i % zs.length]? = some d := by
  have hs : ∀ e ∈ List.replicate n z, e.cells.length = zs.length := fun e he => by rw [List.eq_of_mem_replicate he, hz]
  have hlt : i < n * zs.length := by
    have := (List.getElem?_eq_some_iff.1 h).1
    rw [length_flat hs, List.length_replicate] at this
    exact this
  have hpos : 0 < zs.length := by
    rcases Nat.eq_zero_or_pos zs.length with h0 | h0
    · rw [h0] at hlt; omega
    · exact h0
  refine ⟨hpos, ?_⟩
  have hq : i / zs.length < n := Nat.div_lt_of_lt_mul (by rw [Nat.mul_comm]; exact hlt)
  have hr : i % zs.length < zs.length := Nat.mod_lt _ hpos
  have := flat_get hs (i := i / zs.length) (j := i % zs.length) (e := z) (c := zs[i % zs.length]) (by simp [hq]) (by rw [hz]; exact List.getElem?_eq_getElem hr)
  have hdm : i / zs.length * zs.length + i % zs.length = i := by rw [Nat.mul_comm]; exact Nat.div_add_mod i _
  rw [hdm, h] at this
  rw [List.getElem?_eq_getElem hr, this]

/-- The zero value of a type, as a datum. -/
theorem zeroD_ok {t : TypeId} {i : TyI} (ht : TyOk P t i) {d : D} (h : i.zeroD = some d) (w : World) (I : Nat → Nat → Prop) : ∃ (f : TypeInfo) (z : Value), P.info? t = some f ∧ f.zero = some z ∧ f.size = i.size ∧ f.bytes = i.bytes ∧ VRd w I d z ∧ d.cells.length = i.size ∧ z.cells.size = i.size ∧
    (∀ (k : Nat) (x : D) (v : Value), d.cells[k]? = some x → z.cells.toList[k]? = some v → VRd w I x v) ∧ ∀ v ∈ z.cells.toList, v.oneCell' = true := by
  obtain ⟨f, h1, h2, h3, z, h4, h5, h6⟩ := ht.info
  have hsh := ht.shape f z h1 h4
  obtain ⟨l1, l2, l3, l4⟩ := lits_VR (s := ⟨fun _ => .junk, fun _ => .dead, 0⟩) (w := w) (I := I) (μ := fun _ => 0) (ν := fun _ => undef) h5
  unfold TyI.zeroD at h
  split at h
  · rename_i zs hzs
    obtain ⟨d1, d2⟩ := toDs_get hzs
    have cell : ∀ (k : Nat) (x : D) (v : Value), zs[k]? = some x → z.cells.toList[k]? = some v → VRd w I x v := fun k x v hx hv => by
      obtain ⟨cc, e1, e2⟩ := d2 k x hx
      exact toD_VR e2 (l4 k cc v e1 hv)
    have hlen : zs.length = i.size := by rw [d1, ← l1, Array.length_toList, h6]
    split at h
    · rename_i hagg
      injection h with h
      subst h
      rw [hagg] at hsh
      cases z with
      | agg cs =>
        refine ⟨f, _, h1, h4, h2, h3, ?_, hlen, h6, cell, l2⟩
        have := VRd.agg (w := w) (I := I) zs cs.toList (by rw [hlen, ← h6]; simp [Value.cells]) l2 cell
        simpa using this
      | _ => cases hsh
    · rename_i hagg
      split at h
      · rename_i zs z1
        injection h with h
        subst h
        have hz : isAggV z = false := by rw [hsh]; simpa using hagg
        have hzc : z.cells = #[z] := by cases z <;> first | rfl | cases hz
        have hv := cell 0 z1 z rfl (by rw [hzc]; rfl)
        have hc : z1.cells = [z1] := by cases hv <;> first | rfl | cases hz
        refine ⟨f, z, h1, h4, h2, h3, hv, by (rw [hc, ← hlen]), h6, fun k x v hx hv' => cell k x v (by rw [hc] at hx; exact hx) hv', l2⟩
      · cases h
  · cases h

/-- A slice that is made. -/
theorem make_ok (hc : COk P c) (hr : Rel P Z nt s a w I μ ν) {nid : Nat} (hn : nid < s.n) (hd : s.ob nid = .dead) {dd : Bool} {t : TypeId} {x y v : AV} {u u' : Value} {e : List (Nat × AObj)} (hx : VR w I μ ν s.ob x u) (hy : VR w I μ ν s.ob y u')
    (h : makeSliceF c.T dd t x y nid = .val v e) : ∃ r w' I' μ' ν' q, (Instr.makeSlice t u u').run P w = .ok r w' ∧ e = [(nid, q)] ∧ Rel P Z nt { s with ob := upd s.ob nid q } a w' I' μ' ν' ∧ VR w' I' μ' ν' (upd s.ob nid q) v r ∧ v.sc (upd s.ob nid q) := by
  unfold makeSliceF at h
  split at h <;> first | (cases h; done) | skip
  rename_i et _ _ _ hi
  have ht := (hc.T.ok hi).slice rfl
  split at h <;> first | (cases h; done) | skip
  rename_i i kl n kc m hie
  have hte := hc.T.ok hie
  split at h <;> first | (cases h; done) | skip
  rename_i hcond
  obtain ⟨h0, hnm, hm, hb, hsz, hnn⟩ := hcond
  split at h <;> first | (cases h; done) | skip
  rename_i zd hzd
  obtain rfl := VR_int hx
  obtain rfl := VR_int hy
  obtain ⟨f, g1, g2, g3, zv, g4, _, g6⟩ := hte.info
  have hmN : ((m.toNat : Nat) : Int) = m := Int.toNat_of_nonneg (by omega)
  obtain ⟨f', z, k1, k2, k3, k4, k5, k6, k7, k8, k9⟩ := zeroD_ok hte hzd w I
  rw [g1] at k1; injection k1 with k1; subst k1
  rw [g4] at k2; injection k2 with k2; subst k2
  rcases hnn with hn0 | hn0
  · subst hn0
    obtain ⟨w', r1, r2, r3⟩ := run_make_own (P := P) w 0 t et f zv i.size ht g1 g4 g2 kl kc m.toNat (by rw [g3, Nat.mul_comm]; omega) (by simp only [maxLen]; omega) (Nat.zero_le _)
    rw [hmN] at r1
    have hk : Keep (fun b => w.heap.size ≤ b) w w' := keep_grown r3 (by simp)
    obtain ⟨I', μ', ν', q, q1, q2, q3, q4⟩ := landV_ok hr hn hd (els := List.replicate (0 : Int).toNat zd) (xs := []) ⟨f, g1, g2⟩ hsz (by simpa using r2) (by simp) (by simp) (by simp) hk (fun b hb => by simp [Value.ownBlock] at hb; omega) h
    exact ⟨_, _, I', μ', ν', q, r1, q1, q2, q3, q4⟩
  · subst hn0
    have hbz : (f.bytes : Int) * n ≤ 281474976710656 := by
      have : ((n.toNat * f.bytes : Nat) : Int) ≤ 140737488355328 := by rw [g3]; omega
      rw [Int.natCast_mul, hmN, Int.mul_comm] at this
      omega
    have r1 := run_make (P := P) w t et f zv ht g1 g4 kl kc n n h0 (Int.le_refl _) hbz (by omega)
    have hown : (w.alloc (.cells (madeCells zv.cells (n.toNat * f.size)) et)).ownsRow 0 et i.size (.slice (some ⟨w.heap.size, 0, none⟩) n.toNat n.toNat) (List.replicate n.toNat zd).length (madeCells zv.cells (n.toNat * f.size)).toList := by
      rw [List.length_replicate, g2]
      refine ⟨by simp [size_madeCells], .inr ⟨w.heap.size, n.toNat, _, rfl, Nat.zero_le _, heap_alloc_new w _, Nat.le_refl _, ?_, by simp [size_madeCells], ?_⟩⟩
      · simp only [maxLen]; omega
      · rw [List.take_of_length_le (by simp [size_madeCells])]
    have hmono : ∀ b o, I b o → I b o ∧ (w.alloc (.cells (madeCells zv.cells (n.toNat * f.size)) et)).cell? ⟨b, o, none⟩ = w.cell? ⟨b, o, none⟩ := fun b o hh => ⟨hh, World.cell?_alloc_lt w _ ⟨b, o, none⟩ (hr.i2 b o hh)⟩
    obtain ⟨I', μ', ν', q, q1, q2, q3, q4⟩ := landV_ok hr hn hd ⟨f, g1, g2⟩ hsz hown (fun el hel => by rw [List.eq_of_mem_replicate hel, k6]) (fun j d v hd hv => by
        obtain ⟨p1, p2⟩ := flat_replicate rfl hd
        have hcs : zd.cells.length = zv.cells.size := by rw [k6, g6]
        have hi' : j < n.toNat * f.size := by
          have := (List.getElem?_eq_some_iff.1 hv).1
          simpa [size_madeCells] using this
        have hmod : j % zv.cells.size < zv.cells.size := Nat.mod_lt _ (by omega)
        have hv' : v = zv.cells[j % zv.cells.size] := by
          simp only [madeCells, Array.getElem?_toList, Array.getElem?_map, Array.getElem?_range] at hv
          rw [if_pos hi'] at hv
          simp only [Option.map_some, Option.some.injEq] at hv
          rw [← hv, getElem!_pos zv.cells _ hmod]
        rw [hcs] at p2
        exact (k8 _ d v p2 (by rw [hv']; simp [hmod])).mono hmono) (fun v hv => by
        simp only [madeCells, Array.toList_map, List.mem_map] at hv
        obtain ⟨q, _, rfl⟩ := hv
        have hmod : q % zv.cells.size < zv.cells.size := Nat.mod_lt _ (by omega)
        rw [getElem!_pos zv.cells _ hmod]
        exact k9 _ (by simp)) (keep_alloc w _) (fun b hb => by simp [Value.ownBlock] at hb; omega) h
    exact ⟨_, _, I', μ', ν', q, r1, q1, q2, q3, q4⟩
end

end Go.Proofs.YteidaaobppjlbaaV
