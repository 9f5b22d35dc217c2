/- Loads, fields, elements. -/
import Derived.Test.YteidaaobppjlbaaVx4
set_option linter.unusedVariables false
set_option linter.unusedSimpArgs false
namespace Go.Proofs.YteidaaobppjlbaaV
open Go.RowKit

theorem toD_VR {w : World} {I : Nat → Nat → Prop} {μ : Nat → Nat} {ν : Nat → Value} {ob : Nat → AObj} {c : AV} {v : Value} {d : D} (h : c.toD = some d) (hv : VR w I μ ν ob c v) : VRd w I d v := by
  cases c <;> simp only [AV.toD, Option.some.injEq] at h <;> try cases h
  cases hv; assumption

section
variable {w : World} {I : Nat → Nat → Prop} {μ : Nat → Nat} {ν : Nat → Value} {ob : Nat → AObj} {v : Value}
theorem VR_int {k : IntKind} {n : Int} (h : VR w I μ ν ob (.d (.int k n)) v) : v = .int k n := by
  cases h with | d _ _ h => cases h; rfl
theorem VR_bool {b : Bool} (h : VR w I μ ν ob (.d (.bool b)) v) : v = .bool b := by
  cases h with | d _ _ h => cases h; rfl
theorem VR_str {b : ByteArray} (h : VR w I μ ν ob (.d (.str b)) v) : v = .string b := by
  cases h with | d _ _ h => cases h; rfl
theorem VR_nils (h : VR w I μ ν ob (.d .nils) v) : v = .slice none 0 0 := by
  cases h with | d _ _ h => cases h; rfl
end

theorem toDs_get : ∀ {cs : List AV} {ds : List D}, toDs cs = some ds → ds.length = cs.length ∧ ∀ (i : Nat) (d : D), ds[i]? = some d → ∃ c, cs[i]? = some c ∧ c.toD = some d
  | [], ds, h => by simp only [toDs, Option.some.injEq] at h; subst h; simp
  | c :: cs, ds, h => by
    simp only [toDs] at h
    split at h
    · rename_i d1 ds1 h1 h2
      simp only [Option.some.injEq] at h
      subst h
      obtain ⟨hl, hg⟩ := toDs_get h2
      refine ⟨by simp [hl], fun i d hd => ?_⟩
      cases i with
      | zero => simp only [List.getElem?_cons_zero, Option.some.injEq] at hd; subst hd; exact ⟨c, rfl, h1⟩
      | succ i => simpa using hg i d (by simpa using hd)
    · cases h

theorem els_VR {w : World} {I : Nat → Nat → Prop} {μ : Nat → Nat} {ν : Nat → Value} {ob : Nat → AObj} {x : AV} {v : Value} {els : List D} (h : elsOf x = some els) (hv : VR w I μ ν ob x v) :
    ∃ A c, v = .slice A els.length c ∧ (els ≠ [] → VRd w I (.sl els) v) ∧ els.length ≤ c := by
  unfold elsOf at h
  split at h <;> try cases h
  · cases hv with | d _ _ hd => cases hd with | sl _ A c sz b off u h1 h2 h3 h4 h5 => exact ⟨A, c, rfl, fun _ => .sl _ A c sz b off u h1 h2 h3 h4 h5, h1⟩
  · cases hv with | d _ _ hd => cases hd; exact ⟨none, 0, rfl, fun h => absurd rfl h, Nat.le_refl _⟩

theorem VecR.blk {P : Program} {N : Nat → Prop} {w : World} {I : Nat → Nat → Prop} {v : Value} {fz : Bool} {e : TypeId} {sz : Nat} {els : List D} {xs : List Value} (h : VecR P N w I v fz e sz els xs) (hl : 0 < els.length) :
    ∃ g, v.ownBlock = some g ∧ (∀ k, cellV v k = .pointer (some ⟨g, k, none⟩)) ∧ ∀ (j : Nat) (u : Value), xs[j]? = some u → w.cell? ⟨g, j, none⟩ = some u := by
  rcases h.own.2 with ⟨rfl, h0⟩ | ⟨g, cap, cur, rfl, hN, hh, hn, hc, hcs, ht⟩
  · omega
  · refine ⟨g, rfl, fun k => by simp [cellV], fun j u hj => ?_⟩
    have := h.own.cells (g := g) rfl j u hj
    rwa [Addr.add_lit, Nat.zero_add] at this

section
variable {P : Program} {c : Ctx} {Z : Zst} {nt : Nat} {s : SS} {a : Act} {w : World} {I : Nat → Nat → Prop} {μ : Nat → Nat} {ν : Nat → Value}

theorem cell_of_box {b t : Nat} {vs : List Value} (h : w.heap[b]? = some (.cells vs.toArray t (0, 0))) (j : Nat) : w.cell? ⟨b, j, none⟩ = vs[j]? := by
  rw [cell_of_row w b j _ t _ h]; simp

theorem flat_split {els : List D} {sz j : Nat} {el : D} (h : ∀ e ∈ els, e.cells.length = sz) (hj : els[j]? = some el) : D.flat els = D.flat (els.take j) ++ (el.cells ++ D.flat (els.drop (j + 1))) ∧ (D.flat (els.take j)).length = j * sz := by
  have hlt : j < els.length := (List.getElem?_eq_some_iff.1 hj).1
  have e : els = els.take j ++ el :: els.drop (j + 1) := by
    rw [List.getElem?_eq_getElem hlt] at hj
    injection hj with hj
    rw [← hj, List.getElem_cons_drop, List.take_append_drop]
  refine ⟨?_, ?_⟩
  · conv => lhs; rw [e]
    simp [D.flat]
  · rw [length_flat (sz := sz) fun x hx => h x (List.mem_of_mem_take hx), List.length_take, Nat.min_eq_left (Nat.le_of_lt hlt)]

theorem TyOk.infoSize {t : TypeId} {i : TyI} {f : TypeInfo} (h : TyOk P t i) (hf : P.info? t = some f) : f.size = i.size := by
  obtain ⟨g, h1, h2, _⟩ := h.info
  rw [hf] at h1
  injection h1 with h1
  rw [h1]; exact h2

theorem boxLoad_ok (hc : COk P c) (hr : Rel P Z nt s a w I μ ν) {t : TypeId} {i : TyI} (hi : c.T.get t = some i) {o k : Nat} {z : AV} (h : boxLoad i k (s.ob o) = some z) :
    ∃ r, (Instr.loadAt t (.pointer (some ⟨μ o, k, none⟩))).run P w = .ok r w ∧ VR w I μ ν s.ob z r ∧ z.sc s.ob := by
  have ht := hc.T.ok hi
  have ho := hr.os o
  unfold boxLoad at h
  split at h
  · rename_i cs hob
    rw [hob] at ho
    obtain ⟨vs, te, h1, h3, h4, h5, h6, h7, h8⟩ := ho
    split at h
    · rename_i hagg
      split at h
      · rename_i hk
        split at h
        · rename_i ds hds
          injection h with h; subst h
          obtain ⟨hl, hg⟩ := toDs_get hds
          have hlen : ((vs.drop k).take i.size).length = i.size := by simp; omega
          have hld : (loadCells ⟨μ o, k, none⟩ i.size).run P w = .ok ((vs.drop k).take i.size).toArray w := by
            have := run_loadCells_list (P := P) w ⟨μ o, k, none⟩ ((vs.drop k).take i.size) (fun j v hv => by
              rw [Addr.add_lit, cell_of_box h1]
              rw [List.getElem?_take] at hv
              split at hv
              · rw [List.getElem?_drop] at hv; exact hv
              · cases hv)
            rwa [hlen] at this
          refine ⟨.agg ((vs.drop k).take i.size).toArray, ?_, .d _ _ (.agg _ _ ?_ (fun v hv => h6 v (List.mem_of_mem_drop (List.mem_of_mem_take hv))) fun j d v hd hv => ?_), trivial⟩
          · simp [Instr.loadAt, Instr.sureAddr, loadVar, ht.isAgg, hagg, ht.sizeOf, hld]
          · rw [hl, hlen]; simp; omega
          · obtain ⟨cc, hcc, hd'⟩ := hg j d hd
            have hj : j < i.size := by
              have := (List.getElem?_eq_some_iff.1 hv).1
              omega
            simp only [List.getElem?_take, hj, if_true, List.getElem?_drop] at hcc hv
            exact toD_VR hd' (h4 _ _ _ hcc hv)
        · cases h
      · cases h
    · rename_i hagg
      have hk : k < vs.length := by rw [← h3]; exact (List.getElem?_eq_some_iff.1 h).1
      refine ⟨vs[k], ?_, h4 k _ _ h (List.getElem?_eq_getElem hk), (h5 _ (List.mem_of_getElem? h)).sc⟩
      simp [Instr.loadAt, Instr.sureAddr, loadVar, ht.isAgg, hagg, cell_of_box h1, List.getElem?_eq_getElem hk]
  · cases h

/-- A load. -/
theorem run_loadF (hc : COk P c) (hr : Rel P Z nt s a w I μ ν) {t : TypeId} {x : AV} {u : Value} {z : AV} (hx : VR w I μ ν s.ob x u) (h : loadF c.T t x s.ob = some z) :
    ∃ r, (Instr.loadAt t u).run P w = .ok r w ∧ VR w I μ ν s.ob z r ∧ z.sc s.ob := by
  unfold loadF at h
  split at h
  · cases h
  · rename_i i hi
    have ht := hc.T.ok hi
    split at h
    · rename_i o k
      cases hx
      exact boxLoad_ok hc hr hi h
    · rename_i cs
      cases hx with
      | ep _ b off u hcell hd =>
        unfold epLoad at h
        split at h
        · rename_i hagg
          split at h
          · rename_i hk
            injection h with h; subst h
            have hld : (loadCells ⟨b, off, none⟩ i.size).run P w = .ok ((List.range i.size).map u).toArray w :=
              run_loadCells (P := P) w ⟨b, off, none⟩ i.size u (fun j hj => by rw [Addr.add_lit]; exact (hcell j (by omega)).1)
            refine ⟨.agg ((List.range i.size).map u).toArray, ?_, .d _ _ (.agg _ _ (by simp; omega) (fun v hv => ?_) fun j d v hdj hv => ?_), trivial⟩
            · simp [Instr.loadAt, Instr.sureAddr, loadVar, ht.isAgg, hagg, ht.sizeOf, hld]
            · obtain ⟨j, hj, rfl⟩ := List.mem_map.1 hv
              exact (hcell j (by have := List.mem_range.1 hj; omega)).2.2
            · have hj : j < i.size := by have := (List.getElem?_eq_some_iff.1 hv).1; simpa using this
              simp only [List.getElem?_take, hj, if_true, List.getElem?_map, List.getElem?_range, Option.map_some, Option.some.injEq] at hdj hv
              subst hv
              exact hd j d hdj
          · cases h
        · rename_i hagg
          split at h
          · rename_i cc rest
            injection h with h; subst h
            have := (hcell 0 (by simp)).1
            simp only [Nat.add_zero] at this
            refine ⟨u 0, ?_, .d _ _ (hd 0 cc rfl), trivial⟩
            simp [Instr.loadAt, Instr.sureAddr, loadVar, ht.isAgg, hagg, this]
          · cases h
    · rename_i o g j sz sub
      have ho := hr.os o
      unfold pvLoad at h
      split at h
      · rename_i g' mv fz e sz' els hob
        rw [hob] at ho
        obtain ⟨xs, hv⟩ := ho
        split at h
        · rename_i hgg
          subst hgg
          cases hx with
          | pv _ _ _ _ _ _ hl hh =>
            obtain ⟨rfl, hjl, rfl⟩ := hh _ _ _ _ _ hob
            obtain ⟨b, hb, hcv, hcell⟩ := hv.blk (by omega)
            unfold pelF at h
            split at h
            · rename_i el hj
              have hel : el.cells.length = sz' := hv.size el (List.mem_of_getElem? hj)
              have hget : ∀ k d, el.cells[k]? = some d → (D.flat els)[j * sz' + k]? = some d := fun k d hk => flat_get hv.size hj hk
              have hxl : xs.length = els.length * sz' := hv.own.1
              have hle : j * sz' + sz' ≤ xs.length := by
                rw [hxl]
                calc j * sz' + sz' = (j + 1) * sz' := by rw [Nat.add_mul]; omega
                  _ ≤ els.length * sz' := Nat.mul_le_mul_right _ hjl
              rw [hcv]
              split at h
              · rename_i hagg
                split at h
                · rename_i hk
                  injection h with h; subst h
                  have hlen : ((xs.drop (j * sz' + sub)).take i.size).length = i.size := by simp; omega
                  have hld : (loadCells ⟨b, j * sz' + sub, none⟩ i.size).run P w = .ok ((xs.drop (j * sz' + sub)).take i.size).toArray w := by
                    have := run_loadCells_list (P := P) w ⟨b, j * sz' + sub, none⟩ ((xs.drop (j * sz' + sub)).take i.size) (fun q v hv => by
                      rw [Addr.add_lit]
                      rw [List.getElem?_take] at hv
                      split at hv
                      · rw [List.getElem?_drop] at hv; exact hcell _ _ hv
                      · cases hv)
                    rwa [hlen] at this
                  refine ⟨.agg ((xs.drop (j * sz' + sub)).take i.size).toArray, ?_, .d _ _ (.agg _ _ ?_ (fun v hv' => hv.one v (List.mem_of_mem_drop (List.mem_of_mem_take hv'))) fun q d v hd hv' => ?_), trivial⟩
                  · simp [Instr.loadAt, Instr.sureAddr, loadVar, ht.isAgg, hagg, ht.sizeOf, hld]
                  · rw [hlen]; simp; omega
                  · have hq : q < i.size := by
                      have := (List.getElem?_eq_some_iff.1 hv').1
                      omega
                    simp only [List.getElem?_take, hq, if_true, List.getElem?_drop] at hd hv'
                    exact hv.rd _ d v (by rw [Nat.add_assoc]; exact hget _ _ hd) hv'
                · cases h
              · rename_i hagg
                split at h
                · rename_i cc hcc
                  injection h with h; subst h
                  have hk : sub < sz' := by rw [← hel]; exact (List.getElem?_eq_some_iff.1 hcc).1
                  have hk' : j * sz' + sub < xs.length := by omega
                  refine ⟨xs[j * sz' + sub], ?_, .d _ _ (hv.rd _ _ _ (hget _ _ hcc) (List.getElem?_eq_getElem hk')), trivial⟩
                  simp [Instr.loadAt, Instr.sureAddr, loadVar, ht.isAgg, hagg, hcell _ _ (List.getElem?_eq_getElem hk')]
                · cases h
            · cases h
        · cases h
      · cases h
    · cases h

theorem run_fieldAddrF (hc : COk P c) (hr : Rel P Z nt s a w I μ ν) {t : TypeId} {x : AV} {u : Value} {f : Nat} {z : AV} (hs : x.sc s.ob) (hx : VR w I μ ν s.ob x u) (h : fieldAddrF c.T t x f = some z) :
    ∃ r, (Instr.fieldAt t u f).run P w = .ok r w ∧ VR w I μ ν s.ob z r ∧ z.sc s.ob := by
  unfold fieldAddrF at h
  split at h
  · rename_i fs sz by_ zz hi
    have ht := hc.T.ok hi
    obtain ⟨fl, hu, hf⟩ := ht.struct rfl
    split at h
    · rename_i off ft n hfs
      obtain ⟨fd, g1, g2, g3, g4, fi, g5, g6⟩ := fieldsEq_get hf hfs
      have g1' : fl[f]? = some fd := by simpa using g1
      have hsz : (sizeOf fd.type).run P w = .ok n w := by rw [g3]; simp [sizeOf, typeInfo, g5, g6]
      split at h
      · rename_i o k
        injection h with h; subst h
        cases hx
        refine ⟨.pointer (some ⟨μ o, k + off, none⟩), ?_, .ptr o _, hs⟩
        simp [Instr.fieldAt, run_underlying hu, g1', Instr.sureAddr, fieldPlace, hsz, g4, Addr.add_lit, g2, Nat.add_assoc]
      · rename_i cs
        injection h with h; subst h
        cases hx with
        | ep _ b o u hcell hd =>
          refine ⟨.pointer (some ⟨b, o + off, none⟩), ?_, .ep _ b (o + off) (fun j => u (off + j)) (fun j hj => ?_) (fun j d hj => hd (off + j) d (by simpa using hj)), trivial⟩
          · simp [Instr.fieldAt, run_underlying hu, g1', Instr.sureAddr, fieldPlace, hsz, g4, Addr.add_lit, g2]
          · have := hcell (off + j) (by simp at hj; omega)
            rwa [← Nat.add_assoc] at this
      · rename_i o g j sz sub
        injection h with h; subst h
        cases hx with
        | pv _ _ _ _ _ _ hl hh =>
          obtain ⟨b, q, rfl⟩ := hl
          refine ⟨.pointer (some ⟨b, q + off, none⟩), ?_, .pv _ _ _ _ _ _ ⟨_, _, rfl⟩ fun mv fz e sz' els hob => ?_, hs⟩
          · simp [Instr.fieldAt, run_underlying hu, g1', Instr.sureAddr, fieldPlace, hsz, g4, Addr.add_lit, g2]
          · obtain ⟨rfl, hjl, he⟩ := hh _ _ _ _ _ hob
            refine ⟨rfl, hjl, ?_⟩
            unfold cellV at he ⊢
            split at he <;> simp only [Value.pointer.injEq, Option.some.injEq, Addr.mk.injEq, and_true, reduceCtorEq] at he ⊢
            obtain ⟨rfl, rfl⟩ := he
            exact ⟨rfl, by omega⟩
      · cases h
    · cases h
  · cases h

theorem run_fieldF (hc : COk P c) {t : TypeId} {x : AV} {u : Value} {f : Nat} {z : AV} (hx : VR w I μ ν s.ob x u) (h : fieldF c.T t x f = some z) :
    ∃ r, (Instr.field t u f).run P w = .ok r w ∧ VR w I μ ν s.ob z r ∧ z.sc s.ob := by
  unfold fieldF at h
  split at h
  · rename_i fs sz by_ zz hi
    have ht := hc.T.ok hi
    obtain ⟨fl, hu, hf⟩ := ht.struct rfl
    split at h
    · rename_i off ft n hfs
      obtain ⟨fd, g1, g2, g3, g4, fi, g5, g6⟩ := fieldsEq_get hf hfs
      have g1' : fl[f]? = some fd := by simpa using g1
      split at h
      · rename_i cs i hti
        have hft := hc.T.ok hti
        split at h <;> first | (cases h; done) | skip
        rename_i hkn
        obtain ⟨hk, hn⟩ := hkn
        cases hx with
        | d _ _ hx => cases hx with
          | agg _ vs hl h1 hp =>
            split at h
            · rename_i hagg
              injection h with h; subst h
              refine ⟨.agg ((vs.drop off).take n).toArray, ?_, .d _ _ (.agg _ _ (by simp; omega) (fun v hv => h1 v (List.mem_of_mem_drop (List.mem_of_mem_take hv))) fun j d v hd hv => ?_), trivial⟩
              · simp [Instr.field, run_underlying hu, g1', asAgg, part, g3, g2, hft.isAgg, hagg, hft.sizeOf, hn]
              · have hj : j < n := by have := (List.getElem?_eq_some_iff.1 hv).1; simp at this; omega
                simp only [List.getElem?_take, hj, if_true, List.getElem?_drop] at hd hv
                exact hp _ _ _ hd hv
            · rename_i hagg
              split at h
              · rename_i cc hcc
                injection h with h; subst h
                have hko : off < vs.length := by rw [← hl]; exact (List.getElem?_eq_some_iff.1 hcc).1
                refine ⟨vs[off], ?_, .d _ _ (hp off cc _ hcc (List.getElem?_eq_getElem hko)), trivial⟩
                simp [Instr.field, run_underlying hu, g1', asAgg, part, g3, g2, hft.isAgg, hagg, List.getElem?_eq_getElem hko]
              · cases h
      · cases h
    · cases h
  · cases h

theorem run_indexAddrF (hc : COk P c) (hr : Rel P Z nt s a w I μ ν) {t : TypeId} {x y : AV} {u v : Value} {z : AV} (hs : x.sc s.ob) (hx : VR w I μ ν s.ob x u) (hy : VR w I μ ν s.ob y v) (h : indexAddrF c.T t x y = some z) :
    ∃ r, (Instr.indexAt t u v).run P w = .ok r w ∧ VR w I μ ν s.ob z r ∧ z.sc s.ob := by
  unfold indexAddrF at h
  split at h
  · rename_i e sz by_ zz hi
    have ht := (hc.T.ok hi).slice rfl
    split at h
    · rename_i o g sz lo hi_
      split at h
      · rename_i i kk n hti
        have hte := hc.T.ok hti
        split at h <;> first | (cases h; done) | skip
        rename_i hcond
        obtain ⟨h0, hm, hsz⟩ := hcond
        injection h with h; subst h
        obtain rfl := VR_int hy
        cases hx with
        | vs _ _ _ _ _ _ hl hh =>
          obtain ⟨A, cp, rfl, hcp, hA⟩ := hl
          obtain ⟨b, off, rfl⟩ := hA (by omega)
          have hin : 0 ≤ n ∧ n < ((hi_ - lo : Nat) : Int) := ⟨h0, hm⟩
          refine ⟨.pointer (some ⟨b, off + n.toNat * sz, none⟩), ?_, .pv _ _ _ _ _ _ ⟨_, _, rfl⟩ fun mv fz e' sz' els hob => ?_, hs⟩
          · simp [Instr.indexAt, asIntOf, run_underlying ht, hin, hte.sizeOf, hsz, Addr.add_lit]
          · obtain ⟨rfl, hle, hlen, A0, n0, c0, A', e1, e2, e3, e4, e5⟩ := hh _ _ _ _ _ hob
            refine ⟨rfl, by omega, ?_⟩
            injection e2 with e2 _ _
            have hlt : lo < c0 := by omega
            have := e5 hlt
            rw [← e2] at this
            cases A0 with
            | none => simp at this
            | some a0 =>
              rw [e1]
              simp only [Option.map_some, Option.some.injEq] at this
              simp only [cellV, Value.pointer.injEq, Option.some.injEq, Addr.mk.injEq, and_true]
              have ha : a0.add (lo * sz') = ⟨a0.block, a0.off + lo * sz', if lo * sz' = 0 then a0.spot else none⟩ := by
                unfold Addr.add
                split <;> simp_all
              rw [ha] at this
              simp only [Addr.mk.injEq] at this
              obtain ⟨rfl, rfl, _⟩ := this
              exact ⟨rfl, by rw [Nat.add_mul]; omega⟩
      · cases h
    · split at h
      · rename_i i els k n hti hel
        have hte := hc.T.ok hti
        unfold epOf at h
        split at h <;> first | (cases h; done) | skip
        rename_i el hget
        split at h <;> first | (cases h; done) | skip
        rename_i hcond
        obtain ⟨h0, hcl⟩ := hcond
        injection h with h; subst h
        obtain rfl := VR_int hy
        obtain ⟨A, cp, rfl, hvd, hle⟩ := els_VR hel hx
        have hne : els ≠ [] := by rintro rfl; simp at hget
        have hvd := hvd hne
        cases hvd with
        | sl _ _ _ sz b off uu h1 h2 h3 h4 h5 =>
          have hA := h3 hne
          subst hA
          have hlt : n.toNat < els.length := (List.getElem?_eq_some_iff.1 hget).1
          have hsz : i.size = sz := by rw [← hcl]; exact h2 el (List.mem_of_getElem? hget)
          refine ⟨.pointer (some ⟨b, off + n.toNat * sz, none⟩), ?_, .ep _ b _ (fun j => uu (n.toNat * sz + j)) (fun j hj => ?_) (fun j d hj => h5 _ d (flat_get h2 hget hj)), trivial⟩
          · have : 0 ≤ n ∧ n < (els.length : Int) := ⟨h0, by omega⟩
            simp [Instr.indexAt, asIntOf, run_underlying ht, this, hte.sizeOf, hsz, Addr.add_lit]
          · have := h4 (n.toNat * sz + j) (flat_len_lt h2 hget (List.getElem?_eq_getElem hj))
            rwa [← Nat.add_assoc] at this
      · cases h
  · rename_i m e sz by_ zz hi
    have ht := (hc.T.ok hi).arr rfl
    split at h
    · rename_i i o k kk n hti
      have hte := hc.T.ok hti
      split at h <;> first | (cases h; done) | skip
      rename_i hcond
      obtain ⟨h0, hm⟩ := hcond
      injection h with h; subst h
      obtain rfl := VR_int hy
      cases hx
      refine ⟨.pointer (some ⟨μ o, k + n.toNat * i.size, none⟩), ?_, .ptr o _, hs⟩
      simp [Instr.indexAt, asIntOf, run_underlying ht, Instr.sureAddr, h0, hm, hte.sizeOf, Addr.add_lit, Nat.add_assoc]
    · rename_i i cs kk n hti
      have hte := hc.T.ok hti
      split at h <;> first | (cases h; done) | skip
      rename_i hcond
      obtain ⟨h0, hm⟩ := hcond
      injection h with h; subst h
      obtain rfl := VR_int hy
      cases hx with
      | ep _ b o u hcell hd =>
        refine ⟨.pointer (some ⟨b, o + n.toNat * i.size, none⟩), ?_, .ep _ b _ (fun j => u (n.toNat * i.size + j)) (fun j hj => ?_) (fun j d hj => hd _ d (by simpa using hj)), trivial⟩
        · simp [Instr.indexAt, asIntOf, run_underlying ht, Instr.sureAddr, h0, hm, hte.sizeOf, Addr.add_lit]
        · have := hcell (n.toNat * i.size + j) (by simp at hj; omega)
          rwa [← Nat.add_assoc] at this
    · cases h
  · cases h

theorem run_indexF (hc : COk P c) {t : TypeId} {x y : AV} {u v : Value} {z : AV} (hx : VR w I μ ν s.ob x u) (hy : VR w I μ ν s.ob y v) (h : indexF c.T t x y = some z) :
    ∃ r, (Instr.index t u v).run P w = .ok r w ∧ VR w I μ ν s.ob z r ∧ z.sc s.ob := by
  unfold indexF at h
  split at h
  · rename_i sz by_ zz hi
    have ht := (hc.T.ok hi).str rfl
    split at h
    · rename_i b k n
      unfold byteF at h
      split at h <;> first | (cases h; done) | skip
      rename_i cc hget
      split at h <;> first | (cases h; done) | skip
      rename_i h0
      injection h with h; subst h
      obtain rfl := VR_str hx
      obtain rfl := VR_int hy
      refine ⟨.int .u8 cc.toNat, ?_, .d _ _ (.int _ _), trivial⟩
      have hg : b[n.toNat]? = some cc := by
        have hlt : n.toNat < b.size := (Array.getElem?_eq_some_iff.1 hget).1
        have h2 := (Array.getElem?_eq_some_iff.1 hget).2
        rw [getElem?_pos b n.toNat hlt, ← h2]; rfl
      simp [Instr.index, asIntOf, run_underlying ht, h0, hg]
    · cases h
  · cases h

end

end Go.Proofs.YteidaaobppjlbaaV
