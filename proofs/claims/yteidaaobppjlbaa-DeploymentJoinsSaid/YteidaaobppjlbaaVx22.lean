/- From a row's arguments to data: what a reading of an argument says of its cells. -/
import Derived.Test.YteidaaobppjlbaaVx21
import Derived.WalkKit
import Derived.ProofKit
import Derived.OpenShut
import Derived.ShutString
import Derived.ChangeOld
import Derived.Below
import Derived.SizedLaws
import Derived.Carry
set_option linter.unusedVariables false
set_option linter.unusedSimpArgs false
namespace Go.Proofs.YteidaaobppjlbaaV
open Go.RowKit

/-- A value of a type, out of its cells. -/
def mkD (i : TyI) (cs : List D) : D := if i.kind.agg then .agg cs else cs.headD .nils
/-- These cells are a value of the type (n: how deep the type goes). -/
def CellOk (T : Tbl) : Nat → TypeId → List D → Prop
  | 0, _, _ => False
  | n + 1, t, ds => match T.get t with
    | some ⟨.int k, _, _, _⟩ => ∃ x, ds = [.int k x] ∧ (Lit.int k x).wf = true
    | some ⟨.bool, _, _, _⟩ => ∃ b, ds = [.bool b]
    | some ⟨.str, _, _, _⟩ => ∃ s, ds = [.str s] ∧ s.size ≤ 140737488351232
    | some ⟨.slice e, _, _, _⟩ => ds = [.nils] ∨ ∃ els ie, ds = [.sl els] ∧ T.get e = some ie ∧ els.length * ie.bytes ≤ 140737488351232 ∧ els.length ≤ 9223372036854775807 ∧ ∀ el ∈ els, ∃ cs, el = mkD ie cs ∧ el.cells = cs ∧ cs.length = ie.size ∧ CellOk T n e cs
    | some ⟨.struct fs, sz, _, _⟩ => ds.length = sz ∧ ∀ f ∈ fs, CellOk T n f.2.1 ((ds.drop f.1).take f.2.2)
    | some ⟨.arr m e, sz, _, _⟩ => ds.length = sz ∧ ∃ ie, T.get e = some ie ∧ ∀ i, i < m → CellOk T n e ((ds.drop (i * ie.size)).take ie.size)
    | _ => False
/-- The fields lie one behind the other, from o to sz. -/
def seqB (o sz : Nat) : List (Nat × TypeId × Nat) → Bool
  | [] => o == sz
  | f :: r => f.1 == o && seqB (o + f.2.2) sz r
theorem seqB_le {sz : Nat} : ∀ {gs : List (Nat × TypeId × Nat)} {o : Nat}, seqB o sz gs = true → o ≤ sz ∧ ∀ f ∈ gs, o ≤ f.1 ∧ f.1 + f.2.2 ≤ sz
  | [], o, h => by simp [seqB] at h; simp [h]
  | g :: gs, o, h => by
    simp only [seqB, Bool.and_eq_true, beq_iff_eq] at h
    obtain ⟨h1, h2⟩ := h
    obtain ⟨h3, h4⟩ := seqB_le h2
    refine ⟨by omega, fun f hf => ?_⟩
    rcases List.mem_cons.1 hf with rfl | hf
    · omega
    · have := h4 f hf; omega
theorem seqB_range (e : TypeId) (s : Nat) : ∀ (c k : Nat), seqB (k * s) ((k + c) * s) ((List.range' k c).map fun i => (i * s, e, s)) = true
  | 0, k => by simp [seqB]
  | c + 1, k => by
    have := seqB_range e s c (k + 1)
    simp only [List.range'_succ, List.map_cons, seqB, beq_self_eq_true, Bool.true_and]
    rw [show k * s + s = (k + 1) * s by rw [Nat.add_mul]; omega, show (k + (c + 1)) = (k + 1 + c) by omega]
    exact this
theorem glueF {R : D → Value → Prop} {C : TypeId → List D → Prop} {cs : List Value} {sz : Nat} (hcs : cs.length = sz) : ∀ {gs : List (Nat × TypeId × Nat)} {o : Nat}, seqB o sz gs = true →
    (∀ f ∈ gs, ∃ ds : List D, ds.length = f.2.2 ∧ (∀ (j : Nat) (d : D) (v : Value), ds[j]? = some d → ((cs.drop f.1).take f.2.2)[j]? = some v → R d v) ∧ (∀ v ∈ (cs.drop f.1).take f.2.2, v.oneCell' = true) ∧ C f.2.1 ds) →
    ∃ ds : List D, ds.length = sz - o ∧ (∀ (j : Nat) (d : D) (v : Value), ds[j]? = some d → (cs.drop o)[j]? = some v → R d v) ∧ (∀ v ∈ cs.drop o, v.oneCell' = true) ∧ ∀ f ∈ gs, C f.2.1 ((ds.drop (f.1 - o)).take f.2.2)
  | [], o, h, _ => by
    simp [seqB] at h
    subst h
    refine ⟨[], by simp, by simp, ?_, by simp⟩
    rw [List.drop_of_length_le (by omega)]; simp
  | g :: gs, o, h, hf => by
    have hle := seqB_le h
    simp only [seqB, Bool.and_eq_true, beq_iff_eq] at h
    obtain ⟨h1, h2⟩ := h
    obtain ⟨d1, a1, a2, a3, a4⟩ := hf g (by simp)
    obtain ⟨d2, b1, b2, b3, b4⟩ := glueF hcs h2 fun f hm => hf f (by simp [hm])
    have hle2 := seqB_le h2
    have hsplit : cs.drop o = (cs.drop g.1).take g.2.2 ++ cs.drop (o + g.2.2) := by
      rw [h1, ← List.drop_drop, List.take_append_drop]
    have hlen1 : ((cs.drop g.1).take g.2.2).length = g.2.2 := by simp; omega
    refine ⟨d1 ++ d2, by simp; omega, fun j d v hd hv => ?_, fun v hv => ?_, fun f hm => ?_⟩
    · rw [hsplit] at hv
      rw [List.getElem?_append] at hd hv
      rw [hlen1] at hv
      rw [a1] at hd
      split at hd
      · rw [if_pos (by assumption)] at hv; exact a2 j d v hd hv
      · rw [if_neg (by assumption)] at hv; exact b2 _ d v hd hv
    · rw [hsplit] at hv
      rcases List.mem_append.1 hv with hv | hv
      · exact a3 v hv
      · exact b3 v hv
    · rcases List.mem_cons.1 hm with rfl | hm
      · rw [show f.1 - o = 0 by omega, List.drop_zero, ← a1, List.take_left]; exact a4
      · have h5 := (hle2.2 f hm).1
        have e : (d1 ++ d2).drop (f.1 - o) = d2.drop (f.1 - (o + g.2.2)) := by
          rw [List.drop_append, List.drop_of_length_le (by omega), List.nil_append]
          congr 1; omega
        rw [e]; exact b4 f hm
/-- Numbers, bools, strings, slices, structs and arrays of such. -/
def plainB (T : Tbl) : Nat → TypeId → Bool
  | 0, _ => false
  | n + 1, t => match T.get t with
    | some ⟨.int _, sz, _, _⟩ => sz == 1
    | some ⟨.bool, sz, _, _⟩ => sz == 1
    | some ⟨.str, sz, _, _⟩ => sz == 1
    | some ⟨.slice e, sz, _, _⟩ => sz == 1 && plainB T n e && (match T.get e with | some ie => ie.size != 0 | none => false)
    | some ⟨.struct fs, sz, _, _⟩ => seqB 0 sz fs && fs.all fun f => plainB T n f.2.1
    | some ⟨.arr m e, sz, _, _⟩ => plainB T n e && (match T.get e with | some ie => sz == m * ie.size | none => false)
    | _ => false
theorem plainB_get {T : Tbl} {n : Nat} {t : TypeId} (h : plainB T n t = true) : ∃ i, T.get t = some i := by
  cases n with
  | zero => simp [plainB] at h
  | succ n =>
    cases hg : T.get t with
    | none => simp [plainB, hg] at h
    | some i => exact ⟨i, rfl⟩

theorem choose_list {α : Type} {R : Nat → α → Prop} (n : Nat) (h : ∀ i, i < n → ∃ y, R i y) : ∃ l : List α, l.length = n ∧ ∀ (i : Nat) (y : α), l[i]? = some y → R i y := by
  induction n with
  | zero => exact ⟨[], rfl, by simp⟩
  | succ n ih =>
    obtain ⟨l, hl, hr⟩ := ih fun i hi => h i (by omega)
    obtain ⟨y, hy⟩ := h n (by omega)
    refine ⟨l ++ [y], by simp [hl], fun i z hz => ?_⟩
    rw [List.getElem?_append] at hz
    split at hz
    · exact hr i z hz
    · rename_i hi
      have e : i = n := by
        have := (List.getElem?_eq_some_iff.1 hz).1
        simp at this; omega
      subst e
      rw [hl, Nat.sub_self] at hz
      simp at hz
      subst hz; exact hy

section
variable {H : Type} {enc : TypeId × Value → H} {P : Program} {T : Tbl} {w : World}

theorem cellsOf_eq {t : TypeId} {i : TyI} (h : TyOk P t i) : P.cellsOf t = i.size := by
  obtain ⟨f, hf, hs, _⟩ := h.info
  simp [Program.cellsOf, hf, hs]
theorem bytesOf_eq {t : TypeId} {i : TyI} (h : TyOk P t i) : P.bytesOf t = i.bytes := by
  obtain ⟨f, hf, _, hb, _⟩ := h.info
  simp [Program.bytesOf, hf, hb]
theorem addr_add {a : Addr} {b off : Nat} (h : a = ⟨b, off, none⟩) (j : Nat) : a.add j = ⟨b, off + j, none⟩ := by
  subst h
  unfold Addr.add
  split
  · rename_i h0; subst h0; rfl
  · rfl
theorem mem_weightsAll {e : TypeId} : ∀ {ds : List (DataW H)} {d : DataW H} {n : Nat}, d ∈ ds → n ∈ d.weights P e → n ∈ DataW.weightsAll P e ds
  | x :: r, d, n, hd, hn => by
    simp only [DataW.weightsAll, List.mem_append]
    rcases List.mem_cons.1 hd with rfl | hd
    · exact .inl hn
    · exact .inr (mem_weightsAll hd hn)

theorem cells_row {b off : Nat} {n : Nat} {a : Addr} (h : a = ⟨b, off, none⟩) {j : Nat} (hj : j < n) : MemPlace.cell b (off + j) ∈ MemPlace.row a n := by
  subst h
  simp only [MemPlace.row, List.mem_map, List.mem_range]
  exact ⟨j, hj, rfl⟩
theorem weightsEach_mem {ts : List TypeId} {ds : List (DataW H)} {j : Nat} {t : TypeId} {d : DataW H} (ht : ts[j]? = some t) (hd : ds[j]? = some d) {k : Nat} (hk : k ∈ d.weights P t) : k ∈ DataW.weightsEach P ts ds :=
  DataW.weights_mem_each ht hd k hk
/-- Data for all cells, piece by piece. -/
theorem glue {R : D → Value → Prop} (cs : List Value) (h : ∀ j, j < cs.length → ∃ d, ∀ v, cs[j]? = some v → R d v) : ∃ ds : List D, ds.length = cs.length ∧ ∀ (j : Nat) (d : D) (v : Value), ds[j]? = some d → cs[j]? = some v → R d v := by
  obtain ⟨ds, hl, hr⟩ := choose_list (R := fun j d => ∀ v, cs[j]? = some v → R d v) cs.length h
  exact ⟨ds, hl, fun j d v hd hv => hr j d hd v hv⟩
theorem open_cells (hT : TOk P T) : ∀ (n : Nat) (t : TypeId) (i : TyI) (m : Nat) (cs : List Value) (x : DataW H) (ps : List MemPlace), plainB T n t = true → T.get t = some i →
    DataW.trod enc P w 0 (fun _ => true) true m t cs = some (x, ps) → (∀ k ∈ x.weights P t, k ≤ reachBytes) →
    ∃ ds : List D, ds.length = cs.length ∧ ds.length = i.size ∧ (∀ (j : Nat) (d : D) (v : Value), ds[j]? = some d → cs[j]? = some v → VRd w (fun b o => MemPlace.cell b o ∈ ps) d v) ∧ (∀ v ∈ cs, v.oneCell' = true) ∧ (i.kind.agg = false → ∃ d, ds = [d] ∧ d.cells = [d]) ∧ CellOk T n t ds := by
  intro n
  induction n with
  | zero => intro t i m cs x ps hp; simp [plainB] at hp
  | succ n ih =>
    intro t i m cs x ps hp hg hx hw
    cases m with
    | zero => simp [DataW.trod] at hx
    | succ m =>
    have hty := hT.ok hg
    obtain ⟨u, hu, hk⟩ := hty.und
    obtain ⟨kind, sz, by0, zero⟩ := i
    simp only [plainB, hg] at hp
    simp only [CellOk, hg]
    simp only [TK.agg]
    have lit : ∀ {d : D} {v : Value} {ps' : List MemPlace}, d.cells = [d] → v.oneCell' = true → VRd w (fun b o => MemPlace.cell b o ∈ ps') d v →
        (∀ (j : Nat) (d' : D) (v' : Value), [d][j]? = some d' → [v][j]? = some v' → VRd w (fun b o => MemPlace.cell b o ∈ ps') d' v') ∧ (∀ v' ∈ [v], v'.oneCell' = true) ∧ ((TK.bool).agg = false → ∃ d', [d] = [d'] ∧ d'.cells = [d']) := by
      intro d v ps' h1 h2 h3
      refine ⟨fun j d' v' hd hv => ?_, by simpa using h2, fun _ => ⟨d, rfl, h1⟩⟩
      cases j with
      | zero => simp at hd hv; subst hd; subst hv; exact h3
      | succ j => simp at hd
    unfold DataW.trod at hx
    rw [hu] at hx
    cases kind with
    | int k =>
      cases u <;> simp only [kindEq, Bool.false_eq_true] at hk
      rename_i k'
      have hk' : k' = k := by simpa using hk
      subst hk'
      split at hx <;> first | (rename_i h0 _; cases h0; done) | (rename_i h0; cases h0; done) | (cases hx; done) | skip
      rename_i q n1 h0
      simp only [Option.some.injEq, TypeDesc.int.injEq] at h0
      subst h0
      split at hx
      · rename_i hc
        simp only [Option.some.injEq, Prod.mk.injEq] at hx
        obtain ⟨rfl, rfl⟩ := hx
        obtain ⟨rfl, hc⟩ := hc
        have hz : sz = 1 := by simpa using hp
        obtain ⟨g1, g2, g3⟩ := lit (d := .int _ n1) (ps' := []) rfl rfl (.int _ _)
        exact ⟨[.int _ n1], rfl, hz.symm, g1, g2, g3, _, rfl, hc⟩
      · cases hx
    | bool =>
      cases u <;> simp only [kindEq, Bool.false_eq_true] at hk
      split at hx <;> first | (rename_i h0 _; cases h0; done) | (rename_i h0; cases h0; done) | (cases hx; done) | skip
      simp only [Option.some.injEq, Prod.mk.injEq] at hx
      obtain ⟨rfl, rfl⟩ := hx
      have hz : sz = 1 := by simpa using hp
      rename_i b h0
      obtain ⟨g1, g2, g3⟩ := lit (d := .bool b) (ps' := []) rfl rfl (.bool _)
      exact ⟨[.bool b], rfl, hz.symm, g1, g2, g3, _, rfl⟩
    | str =>
      cases u <;> simp only [kindEq, Bool.false_eq_true] at hk
      split at hx <;> first | (rename_i h0 _; cases h0; done) | (rename_i h0; cases h0; done) | (cases hx; done) | skip
      rename_i b h0
      split at hx
      · simp only [Option.some.injEq, Prod.mk.injEq] at hx
        obtain ⟨rfl, rfl⟩ := hx
        have hz : sz = 1 := by simpa using hp
        obtain ⟨g1, g2, g3⟩ := lit (d := .str b) (ps' := []) rfl rfl (.str _)
        have hb := hw b.data.toList.length (by simp [DataW.weights])
        exact ⟨[.str b], rfl, hz.symm, g1, g2, g3, _, rfl, by simpa [reachBytes] using hb⟩
      · cases hx
    | slice e =>
      cases u <;> simp only [kindEq, Bool.false_eq_true] at hk
      rename_i e'
      have hk' : e' = e := by simpa using hk
      subst hk'
      simp only [Bool.and_eq_true, beq_iff_eq] at hp
      obtain ⟨⟨hz, hp⟩, hie0⟩ := hp
      obtain ⟨ie, hie⟩ := plainB_get hp
      rw [hie] at hie0
      simp only [bne_iff_ne, ne_eq] at hie0
      have hte := hT.ok hie
      have hce := cellsOf_eq hte
      have hbe := bytesOf_eq hte
      split at hx <;> first | (rename_i h0 _; cases h0; done) | (rename_i h0; cases h0; done) | (cases hx; done) | skip
      · simp only [Option.some.injEq, Prod.mk.injEq] at hx
        obtain ⟨rfl, rfl⟩ := hx
        obtain ⟨g1, g2, g3⟩ := lit (d := .nils) (ps' := []) rfl rfl .nils
        exact ⟨[.nils], rfl, hz.symm, g1, g2, g3, .inl rfl⟩
      · rename_i e2 a len cap h0
        simp only [Option.some.injEq, TypeDesc.slice.injEq] at h0
        subst h0
        simp only at hx
        split at hx
        · rename_i hc
          obtain ⟨_, hlc, hcm⟩ := hc
          simp only [if_true, Option.bind_eq_some_iff, Option.map_eq_some_iff] at hx
          obtain ⟨elems, he, rest, hrest, hx⟩ := hx
          simp only [Prod.mk.injEq] at hx
          obtain ⟨rfl, rfl⟩ := hx
          have hel := mapM_some_length he
          have hrl := mapM_some_length hrest
          simp only [List.length_range] at hel hrl
          have hbyt := hw ((elems.length + rest.length) * P.bytesOf e') (by simp [DataW.weights, hu])
          -- each element
          have each : ∀ k, k < len → ∃ (el : D) , ∃ cs' vs' , el = mkD ie cs' ∧ el.cells = cs' ∧ cs'.length = ie.size ∧ CellOk T n e' cs' ∧ w.cells? 0 (a.add (k * P.cellsOf e')) (P.cellsOf e') = some vs' ∧ cs'.length = vs'.length ∧
              (∀ (j : Nat) (d : D) (v : Value), cs'[j]? = some d → vs'[j]? = some v → VRd w (fun b o => MemPlace.cell b o ∈ (MemPlace.row a ((elems.length + rest.length) * P.cellsOf e') ++ (elems ++ rest).flatMap (·.2))) d v) ∧ ∀ v ∈ vs', v.oneCell' = true := by
            intro k hk
            have h1 := mapM_some_get he k k (by simp [hk])
            have hlt : k < elems.length := by omega
            rw [List.getElem?_eq_getElem hlt] at h1
            obtain ⟨vs', hv', htr⟩ := Option.bind_eq_some_iff.1 h1
            obtain ⟨cs', g1, g2, g3, g4, g5, g6⟩ := ih e' ie m vs' (elems[k]).1 (elems[k]).2 hp hie htr (fun q hq => hw q (by
              simp only [DataW.weights, hu, List.mem_cons, List.mem_append]
              exact .inr (.inl (mem_weightsAll (List.mem_map.2 ⟨_, List.getElem_mem hlt, rfl⟩) hq))))
            have hmono : ∀ b o, MemPlace.cell b o ∈ (elems[k]).2 → MemPlace.cell b o ∈ (MemPlace.row a ((elems.length + rest.length) * P.cellsOf e') ++ (elems ++ rest).flatMap (·.2)) := by
              intro b o hb
              simp only [List.mem_append, List.mem_flatMap]
              exact .inr ⟨elems[k], .inl (List.getElem_mem hlt), hb⟩
            refine ⟨mkD ie cs', cs', vs', rfl, ?_, g2, g6, hv', g1, fun j d v hd hv => (g3 j d v hd hv).mono fun b o hb => ⟨hmono b o hb, rfl⟩, g4⟩
            unfold mkD
            cases ha : ie.kind.agg with
            | true => simp [D.cells]
            | false =>
              obtain ⟨d, rfl, hd⟩ := g5 (by simpa using ha)
              simpa using hd
          obtain ⟨els, hll, hels⟩ := choose_list len each
          have hsz : ∀ el ∈ els, el.cells.length = ie.size := by
            intro el hel'
            obtain ⟨k, hk⟩ := List.mem_iff_getElem?.1 hel'
            obtain ⟨cs', vs', _, h2, h3, _⟩ := hels k el hk
            rw [h2]; exact h3
          have hok : ∀ el ∈ els, ∃ cs, el = mkD ie cs ∧ el.cells = cs ∧ cs.length = ie.size ∧ CellOk T n e' cs := by
            intro el hel'
            obtain ⟨k, hk⟩ := List.mem_iff_getElem?.1 hel'
            obtain ⟨cs', vs', h1, h2, h3, h4, _⟩ := hels k el hk
            exact ⟨cs', h1, h2, h3, h4⟩
          have hlen : els.length * ie.bytes ≤ 140737488351232 := by
            rw [hbe] at hbyt
            have : els.length * ie.bytes ≤ (elems.length + rest.length) * ie.bytes := Nat.mul_le_mul_right _ (by omega)
            unfold reachBytes at hbyt
            omega
          have hlen' : els.length ≤ 9223372036854775807 := by unfold maxLen at hcm; omega
          refine ⟨[.sl els], rfl, hz.symm, ?_, by simp [Value.oneCell'], fun _ => ⟨_, rfl, rfl⟩, .inr ⟨els, ie, rfl, hie, hlen, hlen', hok⟩⟩
          intro j d v hd hv
          cases j with
          | succ j => simp at hd
          | zero =>
            simp at hd hv; subst hd; subst hv
            rw [← hll]
            -- where the cells lie
            have hspot : els.length * ie.size ≠ 0 → a = ⟨a.block, a.off, none⟩ := by
              intro h0
              have hl0 : 0 < els.length := Nat.pos_of_ne_zero fun e => h0 (by rw [e]; simp)
              have hs0 : 0 < ie.size := Nat.pos_of_ne_zero fun e => h0 (by rw [e]; simp)
              obtain ⟨cs', vs', _, _, h3, _, h5, h6, _⟩ := hels 0 els[0] (by simp [hl0])
              obtain ⟨_, hl1, hc1⟩ := World.cells?_some h5
              have hc0 := hc1 0 (by omega)
              rw [List.getElem?_eq_getElem (by omega)] at hc0
              have : (a.add (0 * P.cellsOf e')).add 0 = a := by simp [Addr.add]
              rw [this] at hc0
              unfold World.cell? at hc0
              split at hc0
              · cases hs : a.spot with
                | none => cases a; simp at hs; subst hs; rfl
                | some s => simp [hs] at hc0
              · cases hc0
            have hcell : ∀ (k q : Nat), k < els.length → q < ie.size → ∃ v, w.cell? ⟨a.block, a.off + (k * ie.size + q), none⟩ = some v ∧ v.oneCell' = true ∧ MemPlace.cell a.block (a.off + (k * ie.size + q)) ∈ (MemPlace.row a ((elems.length + rest.length) * P.cellsOf e') ++ (elems ++ rest).flatMap (·.2)) ∧
                ∀ d, (els[k]?.bind fun el => el.cells[q]?) = some d → VRd w (fun b o => MemPlace.cell b o ∈ (MemPlace.row a ((elems.length + rest.length) * P.cellsOf e') ++ (elems ++ rest).flatMap (·.2))) d v := by
              intro k q hk hq
              obtain ⟨cs', vs', h1, h2, h3, h4, h5, h6, h7, h8⟩ := hels k els[k] (by simp [hk])
              have ha : a = ⟨a.block, a.off, none⟩ := hspot (by have : 0 < els.length * ie.size := Nat.mul_pos (by omega) (by omega); omega)
              obtain ⟨_, hl1, hc1⟩ := World.cells?_some h5
              have hq1 := hc1 q (by omega)
              have hqv : q < vs'.length := by omega
              rw [List.getElem?_eq_getElem hqv] at hq1
              have had : (a.add (k * P.cellsOf e')).add q = ⟨a.block, a.off + (k * ie.size + q), none⟩ := by
                rw [hce]
                rw [addr_add (b := a.block) (off := a.off + k * ie.size) (addr_add ha _) q]
                congr 1; omega
              rw [had] at hq1
              refine ⟨_, hq1, h8 _ (List.getElem_mem hqv), ?_, fun d hd => ?_⟩
              · refine List.mem_append_left _ (cells_row ha ?_)
                rw [hce]
                calc k * ie.size + q < k * ie.size + ie.size := by omega
                  _ = (k + 1) * ie.size := by rw [Nat.add_mul]; omega
                  _ ≤ (elems.length + rest.length) * ie.size := Nat.mul_le_mul_right _ (by omega)
              · simp only [List.getElem?_eq_getElem hk, Option.bind_some, h2] at hd
                exact h7 q d _ hd (List.getElem?_eq_getElem hqv)
            have hflat : ∀ (j : Nat), j < els.length * ie.size → ∃ v, w.cell? ⟨a.block, a.off + j, none⟩ = some v ∧ v.oneCell' = true ∧ MemPlace.cell a.block (a.off + j) ∈ (MemPlace.row a ((elems.length + rest.length) * P.cellsOf e') ++ (elems ++ rest).flatMap (·.2)) ∧
                ∀ d, (D.flat els)[j]? = some d → VRd w (fun b o => MemPlace.cell b o ∈ (MemPlace.row a ((elems.length + rest.length) * P.cellsOf e') ++ (elems ++ rest).flatMap (·.2))) d v := by
              intro j hj
              have hs0 : 0 < ie.size := Nat.pos_of_ne_zero fun e => by rw [e] at hj; simp at hj
              have hk : j / ie.size < els.length := Nat.div_lt_of_lt_mul (by rw [Nat.mul_comm]; exact hj)
              have hq : j % ie.size < ie.size := Nat.mod_lt _ hs0
              have hjj : j / ie.size * ie.size + j % ie.size = j := by rw [Nat.mul_comm]; exact Nat.div_add_mod j ie.size
              obtain ⟨v, h1, h2, h3, h4⟩ := hcell _ _ hk hq
              rw [hjj] at h1 h3
              refine ⟨v, h1, h2, h3, fun d hd => h4 d ?_⟩
              have hc : (els[j / ie.size]).cells.length = ie.size := hsz _ (List.getElem_mem hk)
              have := flat_get (sz := ie.size) hsz (i := j / ie.size) (j := j % ie.size) (e := els[j / ie.size]) (c := (els[j / ie.size]).cells[j % ie.size]'(by omega)) (List.getElem?_eq_getElem hk) (List.getElem?_eq_getElem _)
              rw [hjj, hd] at this
              simp only [List.getElem?_eq_getElem hk, Option.bind_some]
              rw [List.getElem?_eq_getElem (by omega)]
              exact this.symm
            refine .sl els (some a) cap ie.size a.block a.off (fun j => (w.cell? ⟨a.block, a.off + j, none⟩).getD undef) (by omega) hsz ?_ ?_ ?_
            · intro hne
              by_cases h0 : els.length * ie.size = 0
              · exact absurd ((Nat.mul_eq_zero.1 h0).resolve_left fun e => hne (List.length_eq_zero_iff.1 e)) hie0
              · rw [← hspot h0]
            · intro j hj
              obtain ⟨v, h1, h2, h3, _⟩ := hflat j hj
              refine ⟨by rw [h1]; rfl, h3, by rw [h1]; exact h2⟩
            · intro j d hd
              have hj : j < els.length * ie.size := by
                have := (List.getElem?_eq_some_iff.1 hd).1
                rwa [length_flat hsz] at this
              obtain ⟨v, h1, _, _, h4⟩ := hflat j hj
              rw [h1]; exact h4 d hd
        · cases hx
    | struct gs =>
      cases u <;> simp only [kindEq, Bool.false_eq_true] at hk
      rename_i fs
      have hcz := cellsOf_eq hty
      simp only [Bool.and_eq_true, List.all_eq_true] at hp
      obtain ⟨hseq, hp⟩ := hp
      simp only at hx
      split at hx
      · rename_i hlen
        obtain ⟨xs, hxs, hx⟩ := Option.map_eq_some_iff.1 hx
        simp only [Prod.mk.injEq] at hx
        obtain ⟨rfl, rfl⟩ := hx
        have hcs : cs.length = sz := hlen.trans hcz
        have hxl := mapM_some_length hxs
        obtain ⟨ds, g1, g2, g3, g4⟩ := glueF (R := VRd w (fun b o => MemPlace.cell b o ∈ xs.flatMap (·.2))) (C := CellOk T n) hcs hseq (by
          intro g hgm
          obtain ⟨j, hj⟩ := List.mem_iff_getElem?.1 hgm
          obtain ⟨off, ft, n1⟩ := g
          obtain ⟨f, hfj, h1, h2, h3, fi, hfi, h4⟩ := fieldsEq_get hk hj
          subst h1; subst h2
          obtain ⟨i', hi'⟩ := plainB_get (hp _ hgm)
          have hc' : P.cellsOf f.type = n1 := by simp [Program.cellsOf, hfi, h4]
          have hc2 := cellsOf_eq (hT.ok hi')
          have hq := mapM_some_get hxs j f hfj
          obtain ⟨y, hy⟩ : ∃ y, xs[j]? = some y := by
            have hlt := (List.getElem?_eq_some_iff.1 hfj).1
            exact ⟨_, List.getElem?_eq_getElem (by omega)⟩
          rw [hy, hc'] at hq
          have hym : y ∈ xs := List.mem_of_getElem? hy
          obtain ⟨ds', k1, k2, k3, k4, k5, k6⟩ := ih f.type i' m _ y.1 y.2 (hp _ hgm) hi' hq (fun q hq' => hw q (by
            simp only [DataW.weights, hu]
            exact weightsEach_mem (j := j) (t := f.type) (d := y.1) (by simp [hfj]) (by simp [hy]) hq'))
          refine ⟨ds', by rw [k2, ← hc2, hc'], fun j' d v hd hv => (k3 j' d v hd hv).mono fun b o hb => ⟨List.mem_flatMap.2 ⟨y, hym, hb⟩, rfl⟩, k4, k6⟩)
        refine ⟨ds, by simp at g1; omega, by simpa using g1, by simpa using g2, by simpa using g3, by simp, by simpa using g1, fun f hf => by simpa using g4 f hf⟩
      · cases hx
    | arr k e =>
      cases u <;> simp only [kindEq, Bool.false_eq_true] at hk
      rename_i k' e'
      simp only [Bool.and_eq_true, beq_iff_eq] at hk
      obtain ⟨hk1, hk2⟩ := hk
      subst hk1; subst hk2
      have hcz := cellsOf_eq hty
      simp only [Bool.and_eq_true] at hp
      obtain ⟨hp, hsz⟩ := hp
      obtain ⟨ie, hie⟩ := plainB_get hp
      rw [hie] at hsz
      simp only [beq_iff_eq] at hsz
      have hce := cellsOf_eq (hT.ok hie)
      simp only at hx
      split at hx
      · rename_i hlen
        obtain ⟨xs, hxs, hx⟩ := Option.map_eq_some_iff.1 hx
        simp only [Prod.mk.injEq] at hx
        obtain ⟨rfl, rfl⟩ := hx
        have hcs : cs.length = sz := hlen.trans hcz
        have hxl := mapM_some_length hxs
        have hseq := seqB_range e' ie.size k' 0
        simp only [Nat.zero_mul, Nat.zero_add] at hseq
        rw [← hsz] at hseq
        obtain ⟨ds, g1, g2, g3, g4⟩ := glueF (R := VRd w (fun b o => MemPlace.cell b o ∈ xs.flatMap (·.2))) (C := CellOk T n) hcs hseq (by
          intro g hgm
          obtain ⟨j, hj, rfl⟩ := List.mem_map.1 hgm
          simp only [List.mem_range'_1] at hj
          have hq := mapM_some_get hxs j j (by rw [List.getElem?_range (by omega)])
          obtain ⟨y, hy⟩ : ∃ y, xs[j]? = some y := ⟨_, List.getElem?_eq_getElem (by simp at hxl; omega)⟩
          rw [hy, hce] at hq
          have hym : y ∈ xs := List.mem_of_getElem? hy
          obtain ⟨ds', k1, k2, k3, k4, k5, k6⟩ := ih e' ie m _ y.1 y.2 hp hie hq (fun q hq' => hw q (by
            simp only [DataW.weights, hu]
            exact mem_weightsAll (List.mem_map.2 ⟨y, hym, rfl⟩) hq'))
          exact ⟨ds', k2, fun j' d v hd hv => (k3 j' d v hd hv).mono fun b o hb => ⟨List.mem_flatMap.2 ⟨y, hym, hb⟩, rfl⟩, k4, k6⟩)
        refine ⟨ds, by simp at g1; omega, by simpa using g1, by simpa using g2, by simpa using g3, by simp, by simpa using g1, ie, hie, fun i hi => ?_⟩
        simpa using g4 (i * ie.size, e', ie.size) (List.mem_map.2 ⟨i, by simp [List.mem_range'_1]; omega, rfl⟩)
      · cases hx
    | map k e => simp at hp
    | other => simp at hp
end
end Go.Proofs.YteidaaobppjlbaaV
