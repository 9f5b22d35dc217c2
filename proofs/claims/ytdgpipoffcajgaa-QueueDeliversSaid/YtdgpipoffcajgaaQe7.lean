/- The model of a queue: plain. -/
import Derived.Test.YtdgpipoffcajgaaQe6
set_option linter.unusedVariables false
set_option linter.unusedSimpArgs false
namespace Go.Proofs.YtdgpipoffcajgaaV
open Go.RowKit
def tkf (ts : List Tck) (n : Int) : Tck := (ts.find? fun t => decide (t.n = n)).getD zT
def modE (ts : List Tck) (e : Ent) : Me := ⟨e.a, e.s, e.S, e.X, tkf ts e.tk⟩
/-- The model of a queue. -/
def Qs.mod (q : Qs) : Ms := ⟨q.la, q.lb, q.lc, q.es.map (modE q.ts), q.iss + 1, q.srv, q.now⟩
theorem tkf_mem {ts : List Tck} (h : ts.Pairwise fun x y => x.n < y.n) {t : Tck} (ht : t ∈ ts) : tkf ts t.n = t := by
  unfold tkf
  cases hf : ts.find? fun x => decide (x.n = t.n) with
  | none =>
    have := List.find?_eq_none.1 hf t ht
    simp at this
  | some u =>
    have h1 := List.mem_of_find?_eq_some hf
    have h2 := List.find?_some hf
    simp only [Option.getD_some]
    exact len_unique h h1 ht (by simpa using h2)
theorem tkf_none {ts : List Tck} {n : Int} (h : ∀ t ∈ ts, t.n ≠ n) : tkf ts n = zT := by
  unfold tkf
  have : (ts.find? fun t => decide (t.n = n)) = none := List.find?_eq_none.2 fun t ht => by simpa using h t ht
  rw [this]; rfl
theorem Qs.wf.t0 {q : Qs} (h : q.wf) : tkf q.ts 0 = zT := tkf_none fun t ht => by have := (h.tn t ht).1; omega
theorem Qs.wf.tkn {q : Qs} (h : q.wf) {e : Ent} (he : e ∈ q.es) : (tkf q.ts e.tk).n = e.tk := by
  by_cases hz : e.tk = 0
  · rw [hz, h.t0]
  · obtain ⟨t, ht, t1, -⟩ := h.kt e he hz
    rw [← t1, tkf_mem h.asc ht]
theorem Qs.wf.tkm {q : Qs} (h : q.wf) {e : Ent} (he : e ∈ q.es) (hz : e.tk ≠ 0) : tkf q.ts e.tk ∈ q.ts := by
  obtain ⟨t, ht, t1, -⟩ := h.kt e he hz
  rw [← t1, tkf_mem h.asc ht]
  exact ht
theorem mod_fr {q : Qs} (h : q.wf) : frM q.mod.es := fun e he => by
  obtain ⟨x, hx, rfl⟩ := List.mem_map.1 he
  obtain ⟨A, B, h1, h2⟩ := h.fr x hx
  exact ⟨_, _, h1, h2⟩
theorem mod_tk {q : Qs} (h : q.wf) : tkM q.mod.es q.ts q.mod.nx where
  z := fun e he hz => by
    obtain ⟨x, hx, rfl⟩ := List.mem_map.1 he
    have : (tkf q.ts x.tk).n = 0 := hz
    rw [h.tkn hx] at this
    show tkf q.ts x.tk = zT
    rw [this, h.t0]
  m := fun e he hz => by
    obtain ⟨x, hx, rfl⟩ := List.mem_map.1 he
    have : (tkf q.ts x.tk).n ≠ 0 := hz
    rw [h.tkn hx] at this
    exact h.tkm hx this
  i := fun t ht => by
    obtain ⟨e, he, -, -, h3⟩ := h.tk t ht
    exact ⟨modE q.ts e, List.mem_map.2 ⟨e, he, rfl⟩, by show tkf q.ts e.tk = t; rw [h3, tkf_mem h.asc ht]⟩
  u := by
    refine List.pairwise_map.2 (List.Pairwise.imp_of_mem (fun {x y} hx hy hxy hz => ?_) h.es.ids)
    change (tkf q.ts x.tk).n ≠ 0 at hz
    change (tkf q.ts x.tk).n ≠ (tkf q.ts y.tk).n
    rw [h.tkn hx] at hz ⊢
    rw [h.tkn hy]
    intro he
    obtain ⟨t, ht, t1, t2, t3⟩ := h.kt x hx hz
    obtain ⟨u, hu, u1, u2, u3⟩ := h.kt y hy (by omega)
    have := len_unique h.asc ht hu (by omega)
    subst this
    exact hxy (by simp only [Ent.iv]; rw [← t2, ← t3, u2, u3])
  a := h.asc
  b := fun t ht => by have := h.tn t ht; show 1 ≤ t.n ∧ t.n < q.iss + 1; omega
theorem mod_wts {q : Qs} (h : q.wf) : wtsM q.mod.es = wts q.es := by
  unfold wtsM wts idsW Qs.mod
  rw [List.filter_map, List.map_map]
  have : q.es.filter ((fun e : Me => decide (e.t.n = 0)) ∘ modE q.ts) = q.es.filter fun e => decide (e.tk = 0) := List.filter_congr fun e he => by
    have := h.tkn he
    simp [modE, this]
  rw [this]
  rfl
theorem mod_own (q : Qs) (a : Int) : ownM a q.mod.es = own q a := by
  unfold ownM own Qs.mod
  rw [List.filter_map, List.length_map]
  rfl
theorem mod_crm (q : Qs) (a : Int) : crm q.mod a = min2' (q.la - q.es.length) (q.lb - own q a) := by
  unfold crm
  rw [mod_own]
  simp [Qs.mod]
theorem crm_nn {q : Qs} (h : q.wl) (a : Int) : 0 ≤ crm q.mod a := by
  rw [mod_crm]
  have := h.tot
  have := h.per a
  unfold min2'
  split <;> omega
theorem mod_crd {q : Qs} (h : q.wl) {a : Int} (ha : 1 ≤ a ∧ a ≤ 100) : crd q a = crm q.mod a := by
  have hp : perm a := ⟨ha.1, by omega⟩
  have := crm_nn h a
  rw [mod_crm] at this ⊢
  unfold crd
  rw [if_pos hp]
  unfold max2'
  split <;> omega
theorem mod_any (q : Qs) (a s : Int) : q.mod.es.any (fun e => decide (e.a = a) && decide (e.s = s)) = q.es.any (fun e => decide (e.iv = (a, s))) := by
  unfold Qs.mod
  rw [List.any_map]
  congr 1
  funext e
  simp only [Function.comp, modE, Ent.iv, Prod.mk.injEq]
  by_cases h1 : e.a = a <;> by_cases h2 : e.s = s <;> simp [h1, h2]
theorem mod_offR {q : Qs} (h : q.wl) {a : Int} (ha : 1 ≤ a ∧ a ≤ 100) (s : Int) : offMR q.mod a s = offR q a s := by
  unfold offMR offR
  rw [mod_any, mod_crd h ha]
  have := crm_nn h a
  by_cases hc : crm q.mod a = 0
  · simp [hc]
  · have : ¬ crm q.mod a ≤ 0 := by omega
    simp [hc, this]
theorem mod_add {q : Qs} (h : q.wf) (a s : Int) (S X : D) : (q.add a s S X).mod = q.mod.add a s S X := by
  unfold Qs.add Qs.mod Ms.add
  simp only [List.map_append, List.map_cons, List.map_nil]
  have : modE q.ts ⟨a, s, S, X, q.arr, 0⟩ = ⟨a, s, S, X, zT⟩ := by simp only [modE, h.t0]
  rw [this]
theorem tkf_snoc {ts : List Tck} {u : Tck} {n : Int} (h : u.n ≠ n) : tkf (ts ++ [u]) n = tkf ts n := by
  unfold tkf
  rw [List.find?_append]
  have : ([u].find? fun t => decide (t.n = n)) = none := by simp [h]
  rw [this]
  simp
theorem mod_lea {q : Qs} (h : q.wf) {pre post : List Ent} {e : Ent} (hs : q.es = pre ++ e :: post) (now : Int) : (q.lea pre e post now).mod = q.mod.lea (pre.map (modE q.ts)) (modE q.ts e) (post.map (modE q.ts)) now := by
  have hle : ∀ x ∈ q.es, q.iss + 1 ≠ x.tk := fun x hx => by
    by_cases hz : x.tk = 0
    · have := h.i0; omega
    · obtain ⟨t, ht, t1, -⟩ := h.kt x hx hz
      have := h.tn t ht
      omega
  have k : ∀ l : List Ent, (∀ x ∈ l, x ∈ q.es) → l.map (modE (q.ts ++ [⟨q.iss + 1, e.a, e.s, now + q.lc⟩])) = l.map (modE q.ts) := fun l hl => List.map_congr_left fun x hx => by
    unfold modE
    rw [tkf_snoc (hle x (hl x hx))]
  have hm : modE (q.ts ++ [⟨q.iss + 1, e.a, e.s, now + q.lc⟩]) (e.t (q.iss + 1)) = { modE q.ts e with t := ⟨q.iss + 1, e.a, e.s, now + q.lc⟩ } := by
    unfold modE Ent.t tkf
    simp only [List.find?_append]
    have : (q.ts.find? fun t => decide (t.n = q.iss + 1)) = none := List.find?_eq_none.2 fun t ht => by have := (h.tn t ht).2; simp; omega
    rw [this]
    simp
  unfold Qs.lea Qs.mod Ms.lea
  simp only [List.map_append, List.map_cons, hm]
  rw [k pre fun x hx => by rw [hs]; simp [hx], k post fun x hx => by rw [hs]; simp [hx]]
  rfl
def clrN (n : Int) (e : Me) : Me := if e.t.n = n then { e with t := zT } else e
theorem tkf_filter {ts : List Tck} {n k : Int} (h : n ≠ k) : tkf (ts.filter fun t => decide (t.n ≠ k)) n = tkf ts n := by
  unfold tkf
  rw [List.find?_filter]
  congr 2
  funext t
  by_cases h1 : t.n = n
  · have : t.n ≠ k := by omega
    simp [h1, h]
  · simp [h1]
theorem mod_rel {q : Qs} (h : q.wf) {t : Tck} (ht : t ∈ q.ts) : (relQ q t.n).mod = { q.mod with es := q.mod.es.map (clrN t.n) } := by
  unfold relQ Qs.mod
  simp only [List.map_map]
  congr 1
  refine List.map_congr_left fun e he => ?_
  have hn := h.tkn he
  have ht0 := (h.tn t ht).1
  by_cases hc : e.tk = t.n
  · have h0 : tkf (q.ts.filter fun x => decide (x.n ≠ t.n)) 0 = zT := tkf_none fun x hx => by
      have := (h.tn x (List.mem_filter.1 hx).1).1; omega
    simp only [Function.comp, relE, hc, if_true, Ent.t, modE, clrN]
    rw [h0, tkf_mem h.asc ht]
    simp
  · have h1 := tkf_filter (ts := q.ts) (n := e.tk) (k := t.n) hc
    simp only [Function.comp, relE, hc, if_false, modE, clrN]
    rw [h1]
    have hc2 : ¬ (tkf q.ts e.tk).n = t.n := by rw [hn]; exact hc
    exact (if_neg hc2).symm
theorem mod_ack {q : Qs} (h : q.wf) {pre post : List Ent} {e : Ent} (hs : q.es = pre ++ e :: post) {tpre tpost : List Tck} {t : Tck} (hts : q.ts = tpre ++ t :: tpost) (h1 : ∀ x ∈ pre, x.tk ≠ t.n) (h2 : ∀ x ∈ post, x.tk ≠ t.n) (g1 : ∀ x ∈ tpre, x.n ≠ t.n) (g2 : ∀ x ∈ tpost, x.n ≠ t.n) : (q.ack pre post tpre tpost).mod = { q.mod with es := pre.map (modE q.ts) ++ post.map (modE q.ts) } := by
  have hf : tpre ++ tpost = q.ts.filter fun x => decide (x.n ≠ t.n) := by rw [hts, filter_rel g1 g2]
  have k : ∀ l : List Ent, (∀ x ∈ l, x.tk ≠ t.n) → l.map (modE (tpre ++ tpost)) = l.map (modE q.ts) := fun l hl => List.map_congr_left fun x hx => by
    unfold modE
    rw [hf, tkf_filter (hl x hx)]
  unfold Qs.ack Qs.mod
  simp only [List.map_append]
  rw [k pre h1, k post h2]
theorem mod_exp : ∀ {l : List Tck} {q : Qs}, q.wf → (l.Pairwise fun x y => x.n < y.n) → (∀ t ∈ l, t ∈ q.ts) → (expQ q l).mod = { q.mod with es := q.mod.es.map fun e => if (l.any fun t => decide (t.n = e.t.n)) = true then { e with t := zT } else e }
  | [], q, h, _, _ => by
    show q.mod = _
    simp
  | t :: l, q, h, ha, hl => by
    obtain ⟨a1, a2⟩ := List.pairwise_cons.1 ha
    have ht := hl t (by simp)
    show (expQ (relQ q t.n) l).mod = _
    rw [mod_exp (relQ_wf h ht) a2 fun u hu => List.mem_filter.2 ⟨hl u (by simp [hu]), by have := a1 u hu; simp; omega⟩, mod_rel h ht]
    simp only [List.map_map]
    congr 1
    refine List.map_congr_left fun e he => ?_
    have hl0 : (l.any fun u => decide (u.n = 0)) = false := List.any_eq_false.2 fun u hu => by
      have := (h.tn u (hl u (by simp [hu]))).1
      simp; omega
    by_cases hc : e.t.n = t.n
    · simp only [Function.comp, clrN, hc, if_true, List.any_cons, decide_true, Bool.true_or]
      split <;> rfl
    · have : ¬ t.n = e.t.n := fun h => hc h.symm
      simp only [Function.comp, clrN, hc, if_false, List.any_cons, this, decide_false, Bool.false_or]
theorem mod_expire {q : Qs} (h : q.wf) (now : Int) (hn : -1000 ≤ now ∧ now < 1000000000) : (expQ (q.nw now) (keepT now q.ts)).mod = q.mod.exp now := by
  rw [mod_exp (l := keepT now q.ts) (nw_wf h hn) (h.asc.filter _) fun t ht => (List.mem_filter.1 ht).1]
  unfold Ms.exp Qs.nw
  have hm := mod_tk h
  show Ms.mk _ _ _ _ _ _ _ = Ms.mk _ _ _ _ _ _ _
  congr 1
  refine List.map_congr_left fun e he => ?_
  unfold clr
  by_cases hz : e.t.n = 0
  · have hez := hm.z e he hz
    obtain ⟨a, s, S, X, t⟩ := e
    simp only at hez
    subst hez
    simp
  · have hmem := hm.m e he hz
    have hb := hm.b _ hmem
    have hlt : e.t.n < q.mod.nx := hb.2
    by_cases hu : now < e.t.u
    · have : ((keepT now q.ts).any fun t => decide (t.n = e.t.n)) = false := List.any_eq_false.2 fun t ht => by
        obtain ⟨t1, t2⟩ := List.mem_filter.1 ht
        simp only [decide_eq_true_eq]
        intro hte
        have := len_unique h.asc t1 hmem hte
        subst this
        simp at t2; omega
      simp [this, hu]
    · have : ((keepT now q.ts).any fun t => decide (t.n = e.t.n)) = true := List.any_eq_true.2 ⟨e.t, List.mem_filter.2 ⟨hmem, by simpa using hu⟩, by simp⟩
      simp [this, hu, hlt]
end Go.Proofs.YtdgpipoffcajgaaV
