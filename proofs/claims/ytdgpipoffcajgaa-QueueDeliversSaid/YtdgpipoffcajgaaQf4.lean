/- do: every operation. -/
import Derived.Test.YtdgpipoffcajgaaQf3
set_option linter.unusedVariables false
set_option linter.unusedSimpArgs false
namespace Go.Proofs.YtdgpipoffcajgaaV
open Go.RowKit
/-- What a do leaves. -/
structure doR (q : Qs) (j : Nat) (O : List AObj) (q2 : Qs) : Prop where
  st : O = q2.st ∨ O = q2.stm ∨ ∃ E, O = q2.sta E
  wl : q2.wl
  bd : q2.bd (j + 1)
  la : q2.la = q.la
  lb : q2.lb = q.lb
  lc : q2.lc = q.lc
theorem Qs.bd.next {q : Qs} {j : Nat} (h : q.bd j) (hj : j < 1000) : q.bd (j + 1) := ⟨by have := h.arr; omega, by have := h.iss; omega, h.n0, by have := h.now; omega, by omega⟩
theorem doR_same {q : Qs} (h : q.wl) {j : Nat} (hb : q.bd j) (hj : j < 1000) : doR q j q.st q := ⟨.inl rfl, h, hb.next hj, rfl, rfl, rfl⟩
/-- The place of a ticket in the model. -/
theorem fnd_ticket {q : Qs} (h : q.wl) {t : Tck} (ht : t ∈ q.ts) {pre post : List Ent} {e : Ent} (hs : q.es = pre ++ e :: post) (h3 : e.tk = t.n) (h4 : ∀ x ∈ pre, x.tk ≠ t.n) : fndM t.n q.mod.es 0 = (pre.length : Int) := by
  have hlen : pre.length < q.mod.es.length := by rw [mod_len, hs]; simp
  have hget : ∀ i (hi : i < q.mod.es.length) (hi2 : i < q.es.length), q.mod.es[i].t.n = q.es[i].tk := fun i hi hi2 => by
    have : q.mod.es[i] = modE q.ts q.es[i] := by simp [Qs.mod]
    rw [this]
    exact h.towf.tkn (List.getElem_mem hi2)
  rw [fndM_at (j := pre.length) hlen]
  · simp
  · rw [hget _ _ (by rw [hs]; simp)]
    have : q.es[pre.length]'(by rw [hs]; simp) = e := by simp [hs]
    rw [this, h3]
  · intro k hk hkj
    have hk2 : k < q.es.length := by rw [mod_len] at hk; exact hk
    rw [hget k hk hk2]
    have : q.es[k] = pre[k] := by simp [hs, hkj]
    rw [this]
    exact h4 _ (List.getElem_mem hkj)
theorem fnd_no {q : Qs} (h : q.wl) {n : Int} (hn : n ≠ 0) (ht : ∀ t ∈ q.ts, t.n ≠ n) : fndM n q.mod.es 0 = -1 := fndM_none fun e he => by
  obtain ⟨x, hx, rfl⟩ := List.mem_map.1 he
  show (tkf q.ts x.tk).n ≠ n
  rw [h.towf.tkn hx]
  by_cases hz : x.tk = 0
  · omega
  · obtain ⟨t, h1, h2, -⟩ := h.kt x hx hz
    rw [← h2]
    exact ht t h1
theorem mod_split {q : Qs} {pre post : List Ent} {e : Ent} (hs : q.es = pre ++ e :: post) : q.mod.es = pre.map (modE q.ts) ++ modE q.ts e :: post.map (modE q.ts) := by
  unfold Qs.mod
  rw [hs, List.map_append, List.map_cons]
theorem take_mid {α : Type} (A : List α) (x : α) (B : List α) {n : Nat} (h : n = A.length) : (A ++ x :: B).take n ++ (A ++ x :: B).drop (n + 1) = A ++ B := by
  subst h
  simp
theorem get_mid {α : Type} (A : List α) (x : α) (B : List α) {n : Nat} (h : n = A.length) : (A ++ x :: B)[n]? = some x := by
  subst h
  simp
theorem do24_run (q : Qs) (h : q.wl) (j : Nat) (hb : q.bd j) (hj : j < 1000) (k A B : Nat) (hA : A < 256) (hB : B < 256) : ∃ O q2, run CC 24 [.ptr 0 0, .ptr 2 0, .d (.agg [.int .u8 k, .int .u8 A, .int .u8 B])] q.st = some (.d (.bool true), O) ∧ doR q j O q2 := by
  have hq : 0 ≤ q.now ∧ q.now < 1000000 := ⟨hb.n0, by have := hb.now; omega⟩
  have hlen := h.es.le
  have hl0 := h.l0
  have hbi := hb.iss
  have hba := hb.arr
  have hbn := hb.now
  have hfr := mod_fr h.towf
  have hml := mod_len q
  have hk5 : k % 5 < 5 := Nat.mod_lt _ (by omega)
  rcases (by omega : k % 5 = 0 ∨ k % 5 = 1 ∨ k % 5 = 2 ∨ k % 5 = 3 ∨ k % 5 = 4) with hk | hk | hk | hk | hk
  · obtain ⟨a, ea⟩ : ∃ a : Int, a = 1 + ((A % 4 : Nat) : Int) := ⟨_, rfl⟩
    obtain ⟨s, es⟩ : ∃ s : Int, s = ((B % 8 : Nat) : Int) := ⟨_, rfl⟩
    have b1 : A % 4 < 4 := Nat.mod_lt _ (by omega)
    have b2 : B % 8 < 8 := Nat.mod_lt _ (by omega)
    refine ⟨_, if offR q a s = 0 then q.add a s (.sl (spD A B)) (.sl (exD A)) else q, do24_offer q h j hb k A B hk hA hB a s ea es, ?_⟩
    by_cases hof : offR q a s = 0
    · rw [if_pos hof, if_pos hof]
      have hx : q.es.any (fun e => decide (e.iv = (a, s))) = false := by
        cases hx : q.es.any (fun e => decide (e.iv = (a, s))) with
        | false => rfl
        | true => unfold offR at hof; rw [hx] at hof; simp at hof
      have hc : crd q a ≠ 0 := fun hc => by unfold offR at hof; rw [hx, hc] at hof; simp at hof
      refine ⟨.inr (.inl rfl), add_wl h (by omega) (by omega) hx hc (by omega), ⟨?_, ?_, hb.n0, ?_, by omega⟩, rfl, rfl, rfl⟩
      · show q.arr + 1 ≤ ((j + 1 : Nat) : Int); omega
      · show q.iss ≤ ((j + 1 : Nat) : Int); omega
      · show q.now ≤ 11 * ((j + 1 : Nat) : Int); omega
    · rw [if_neg hof, if_neg hof]
      exact doR_same h hb hj
  · obtain ⟨now, hn⟩ : ∃ now : Int, now = if B = 255 then q.now - 1 else q.now + ((A % 4 : Nat) : Int) := ⟨_, rfl⟩
    have b1 : A % 4 < 4 := Nat.mod_lt _ (by omega)
    by_cases hlt : now < q.now
    · exact ⟨_, q, do24_lease_no q now 32 (by decide) (lease17_time q now hlt) (lease44_time q.mod now hlt) k A B hk hA hB hq hn, doR_same h hb hj⟩
    · have hB255 : ¬ B = 255 := fun hB => by rw [if_pos hB] at hn; omega
      have hn' := hn
      rw [if_neg hB255] at hn'
      have hsm : ∀ e ∈ q.mod.es, 1 ≤ e.a ∧ e.a ≤ 100 := fun e he => by
        obtain ⟨x, hx, rfl⟩ := List.mem_map.1 he
        exact ⟨(h.rng x hx).a1, h.sm x hx⟩
      have hgen := fun R F => lease44_gen q.mod hfr (by omega) hsm now hlt (by omega) ⟨by show 0 ≤ q.lc; omega, by show q.lc ≤ 1000; omega⟩ ⟨by show 0 ≤ q.iss + 1; have := h.i0; omega, by show q.iss + 1 < 1000000; omega⟩ R F
      cases hnx : nextI q.srv (wts q.es) with
      | none =>
        have h17 := lease17_empty q h.ok h.es h.rng now hlt (by omega) (nextI_none hnx)
        have h44 := hgen (-1, 7) q.mod.obs (fun _ => ⟨rfl, rfl⟩) (fun i hi h1 h2 => by
          rw [mod_wts h.towf] at h2
          have : nextI q.srv (wts q.es) = some q.mod.es[i].iv := h2
          rw [hnx] at this; cases this)
        exact ⟨_, q, do24_lease_no q now 7 (by decide) h17 h44 k A B hk hA hB hq hn, doR_same h hb hj⟩
      | some x =>
        obtain ⟨pre, e, post, hs, htk, hiv⟩ := nextI_split hnx
        subst hiv
        obtain ⟨SA, SB, hS, hX⟩ := h.fr e (by rw [hs]; simp)
        have h17 := lease17_ok q h.ok h.es h.rng h.fr now hlt (by omega) pre post e hs hnx (by omega) (by omega) ⟨h.i0.1, by omega⟩ fun t ht => (h.tn t ht).2
        have hml2 := mod_lea h.towf hs now
        have hsp := mod_split hs
        have hpm : pre.length = (pre.map (modE q.ts)).length := by simp
        have h44 := hgen ((pre.length : Int), 0) (q.lea pre e post now).mod.obs (fun h0 => by
          rw [mod_wts h.towf] at h0
          have : nextI q.srv (wts q.es) = none := h0
          rw [hnx] at this; cases this) (fun i hi h1 h2 => by
          rw [mod_wts h.towf] at h2
          have h2' : nextI q.srv (wts q.es) = some q.mod.es[i].iv := h2
          rw [hnx] at h2'
          injection h2' with h2'
          have hi2 : i < q.es.length := by rw [hml] at hi; exact hi
          have hmi : q.mod.es[i] = modE q.ts q.es[i] := by simp [Qs.mod]
          have hei : q.es[i] = e := ids_unique h.es.ids (List.getElem_mem hi2) (by rw [hs]; simp) (by rw [h2', hmi]; rfl)
          have hip : i = pre.length := by
            rcases Nat.lt_trichotomy i pre.length with h3 | h3 | h3
            · exfalso
              have := (List.pairwise_iff_getElem.1 h.es.ids) i pre.length hi2 (by rw [hs]; simp) h3
              apply this
              rw [hei]
              have : q.es[pre.length]'(by rw [hs]; simp) = e := by simp [hs]
              rw [this]
            · exact h3
            · exfalso
              have := (List.pairwise_iff_getElem.1 h.es.ids) pre.length i (by rw [hs]; simp) hi2 h3
              apply this
              rw [hei]
              have : q.es[pre.length]'(by rw [hs]; simp) = e := by simp [hs]
              rw [this]
          refine ⟨by rw [hip], ?_⟩
          rw [hml2]
          have hgi : q.mod.es[i] = modE q.ts e := by rw [hmi, hei]
          rw [hgi]
          have hset : (q.mod.es.map Me.d).set i (Me.d { modE q.ts e with t := ⟨q.mod.nx, e.a, e.s, now + q.mod.lc⟩ }) = ((pre.map (modE q.ts) ++ { modE q.ts e with t := ⟨q.mod.nx, e.a, e.s, now + q.mod.lc⟩ } :: post.map (modE q.ts)).map Me.d) := by
            rw [hsp, List.map_append, List.map_append, List.map_cons, List.map_cons]
            exact set_mid _ _ _ _ (by rw [hip]; simp)
          have hll : (pre.map (modE q.ts) ++ { modE q.ts e with t := ⟨q.mod.nx, e.a, e.s, now + q.mod.lc⟩ } :: post.map (modE q.ts)).length = q.mod.es.length := by rw [hsp]; simp
          show (q.mod.lea (pre.map (modE q.ts)) (modE q.ts e) (post.map (modE q.ts)) now).obs = _
          unfold Ms.lea
          show [AObj.box _, AObj.vec _ _ _ _ _ ((pre.map (modE q.ts) ++ { modE q.ts e with t := ⟨q.mod.nx, e.a, e.s, now + q.mod.lc⟩ } :: post.map (modE q.ts)).map Me.d)] = _
          rw [← hset]
          show [AObj.box [_, _, _, .vs 1 0 8 0 (pre.map (modE q.ts) ++ { modE q.ts e with t := ⟨q.mod.nx, e.a, e.s, now + q.mod.lc⟩ } :: post.map (modE q.ts)).length, _, _, _], _] = _
          rw [hll]
          rfl)
        have hE2 : (q.lea pre e post now).mod.es.map Me.d = (pre.map (modE q.ts) ++ { modE q.ts e with t := ⟨q.iss + 1, e.a, e.s, now + q.lc⟩ } :: post.map (modE q.ts)).map Me.d := by rw [hml2]; rfl
        have h17' : run CC 17 [.ptr 0 0, .d (.int .i64 now)] q.obs = some (.tup [.d (.agg [.int .i64 (q.iss + 1), .int .i64 e.a, .int .i64 e.s, .int .i64 (now + q.lc)]), .d (frD e.a e.s SA SB), .d (.int .i64 0)], (q.lea pre e post now).obs) := by
          rw [h17]
          simp only [Tck.d, Ent.f, frD, hS, hX]
        refine ⟨_, q.lea pre e post now, do24_lease_ok q (q.lea pre e post now) now e pre.length [] _ _ _ _ _ SA SB h17' h44 hE2 ?_ k A B hk hA hB hq hn, ⟨.inl rfl, lea_wl h hs htk (by omega) (by omega) (by omega), ⟨?_, ?_, ?_, ?_, by omega⟩, rfl, rfl, rfl⟩⟩
        · rw [List.map_append, List.map_cons, get_mid _ _ _ (by simp)]
          simp only [Me.d, modE, hS, hX]
        · show q.arr ≤ ((j + 1 : Nat) : Int); omega
        · show q.iss + 1 ≤ ((j + 1 : Nat) : Int); omega
        · show 0 ≤ now; omega
        · show now ≤ 11 * ((j + 1 : Nat) : Int); omega
  · obtain ⟨n, hn⟩ : ∃ n : Int, n = 1 + ((A % 10 : Nat) : Int) := ⟨_, rfl⟩
    have hfd := find46_run q.mod hfr (by omega) n
    by_cases ht : ∃ t ∈ q.ts, t.n = n
    · obtain ⟨t, ht, rfl⟩ := ht
      obtain ⟨pre, e, post, hs, h1, h2, h3, h4, h5⟩ := h.towf.ent ht
      obtain ⟨tpre, tpost, hts, g1, g2⟩ := tsplit h.asc ht
      have h27 := ack27_ok q h.es.ids h.asc pre post e hs tpre tpost t hts ⟨h1, h2⟩
      rw [fnd_ticket h ht hs h3 h4] at hfd
      have hma := mod_ack h.towf hs hts h4 h5 g1 g2
      have hsp := mod_split hs
      have htm : q.mod.es.take pre.length ++ q.mod.es.drop (pre.length + 1) = pre.map (modE q.ts) ++ post.map (modE q.ts) := by rw [hsp]; exact take_mid _ _ _ (by simp)
      rw [← htm] at hma
      rw [hn] at hfd h27
      exact ⟨_, q.ack pre post tpre tpost, do24_ack q _ pre.length k A B hk hA hB hq hlen hfd (by rw [hs]; simp) h27 hma, .inr (.inr ⟨_, rfl⟩), ack_wl h hs hts h3 h4 h5 g1 g2, ⟨by show q.arr ≤ ((j + 1 : Nat) : Int); omega, by show q.iss ≤ ((j + 1 : Nat) : Int); omega, hb.n0, by show q.now ≤ 11 * ((j + 1 : Nat) : Int); omega, by omega⟩, rfl, rfl, rfl⟩
    · have hno : ∀ t ∈ q.ts, t.n ≠ n := fun t h1 h2 => ht ⟨t, h1, h2⟩
      have h27 := ack27_none q n hno
      have h29 := release29_none q n hno
      rw [fnd_no h (by omega) hno] at hfd
      rw [hn] at hfd h27 h29
      exact ⟨_, q, do24_none q k A B (.inl hk) hA hB hq hfd h27 h29, doR_same h hb hj⟩
  · obtain ⟨n, hn⟩ : ∃ n : Int, n = 1 + ((A % 10 : Nat) : Int) := ⟨_, rfl⟩
    have hfd := find46_run q.mod hfr (by omega) n
    by_cases ht : ∃ t ∈ q.ts, t.n = n
    · obtain ⟨t, ht, rfl⟩ := ht
      obtain ⟨pre, e, post, hs, h1, h2, h3, h4, h5⟩ := h.towf.ent ht
      have h29 := relQ_run h.towf ht
      have hmr := mod_rel h.towf ht
      have hfn := fnd_ticket h ht hs h3 h4
      rw [hfn] at hfd
      have hsp := mod_split hs
      obtain ⟨SA, SB, hS, hX⟩ := h.fr e (by rw [hs]; simp)
      have hpl : pre.length < q.es.length := by rw [hs]; simp
      have hJm : (q.mod.es.map Me.d)[pre.length]? = some (.agg [.int .i64 e.a, .int .i64 e.s, .sl (spD SA SB), .sl (exD SA), .int .i64 (tkf q.ts e.tk).n, .int .i64 (tkf q.ts e.tk).a, .int .i64 (tkf q.ts e.tk).s, .int .i64 (tkf q.ts e.tk).u]) := by
        rw [hsp, List.map_append, List.map_cons, get_mid _ _ _ (by simp)]
        simp only [Me.d, modE, hS, hX]
      have htn : ∀ x ∈ q.es, (modE q.ts x).t.n = x.tk := fun x hx => h.towf.tkn hx
      have hcl : q.mod.es.map (clrN t.n) = pre.map (modE q.ts) ++ { modE q.ts e with t := zT } :: post.map (modE q.ts) := by
        rw [hsp, List.map_append, List.map_cons]
        have k1 : ∀ l : List Ent, (∀ x ∈ l, x ∈ q.es ∧ x.tk ≠ t.n) → (l.map (modE q.ts)).map (clrN t.n) = l.map (modE q.ts) := fun l hl => by
          rw [List.map_map]
          refine List.map_congr_left fun x hx => ?_
          simp only [Function.comp]
          unfold clrN
          rw [if_neg]
          rw [htn x (hl x hx).1]
          exact (hl x hx).2
        rw [k1 pre fun x hx => ⟨by rw [hs]; simp [hx], h4 x hx⟩, k1 post fun x hx => ⟨by rw [hs]; simp [hx], h5 x hx⟩]
        have k2 : clrN t.n (modE q.ts e) = { modE q.ts e with t := zT } := by
          unfold clrN
          rw [if_pos]
          rw [htn e (by rw [hs]; simp), h3]
        rw [k2]
      have hm2 : (relQ q t.n).mod.obs = [.box [.d (.int .i64 q.mod.la), .d (.int .i64 q.mod.lb), .d (.int .i64 q.mod.lc), .vs 1 0 8 0 q.mod.es.length, .d (.int .i64 q.mod.nx), .d (.int .i64 q.mod.sv), .d (.int .i64 q.mod.nw)], .vec 0 false false 101 8 ((q.mod.es.map Me.d).set pre.length (.agg [.int .i64 e.a, .int .i64 e.s, .sl (spD SA SB), .sl (exD SA), .int .i64 0, .int .i64 0, .int .i64 0, .int .i64 0]))] := by
        rw [hmr]
        have hl1 : (q.mod.es.map (clrN t.n)).length = q.mod.es.length := by simp
        have hs1 : (q.mod.es.map (clrN t.n)).map Me.d = (q.mod.es.map Me.d).set pre.length (.agg [.int .i64 e.a, .int .i64 e.s, .sl (spD SA SB), .sl (exD SA), .int .i64 0, .int .i64 0, .int .i64 0, .int .i64 0]) := by
          rw [hcl, hsp, List.map_append, List.map_append, List.map_cons, List.map_cons, set_mid _ _ _ _ (by simp)]
          simp only [Me.d, modE, hS, hX]
        simp only [Ms.obs, hs1, hl1]
      rw [hn] at hfd
      rw [hn] at h29 hm2
      refine ⟨_, relQ q t.n, ?_, .inl rfl, rel_wl h ht, ⟨by show q.arr ≤ ((j + 1 : Nat) : Int); omega, by show q.iss ≤ ((j + 1 : Nat) : Int); omega, hb.n0, by show q.now ≤ 11 * ((j + 1 : Nat) : Int); omega, by omega⟩, rfl, rfl, rfl⟩
      rw [hn]
      exact do24_rel q _ pre.length k A B hk hA hB hq hlen hfd hpl _ _ _ _ _ _ _ _ hJm h29 hm2
    · have hno : ∀ t ∈ q.ts, t.n ≠ n := fun t h1 h2 => ht ⟨t, h1, h2⟩
      have h27 := ack27_none q n hno
      have h29 := release29_none q n hno
      rw [fnd_no h (by omega) hno] at hfd
      rw [hn] at hfd h27 h29
      exact ⟨_, q, do24_none q k A B (.inr hk) hA hB hq hfd h27 h29, doR_same h hb hj⟩
  · obtain ⟨now, hn⟩ : ∃ now : Int, now = if B = 255 then q.now - 1 else q.now + ((A % 12 : Nat) : Int) := ⟨_, rfl⟩
    have b1 : A % 12 < 12 := Nat.mod_lt _ (by omega)
    by_cases hlt : now < q.now
    · exact ⟨_, q, do24_exp q q now k A B hk hA hB hq hn (expire45_time q.mod q now hlt hlt), doR_same h hb hj⟩
    · have hB255 : ¬ B = 255 := fun hB => by rw [if_pos hB] at hn; omega
      have hn' := hn
      rw [if_neg hB255] at hn'
      have h26 := expire26_ok q h.towf now hlt (by omega)
      have h45 := expire45_ok q.mod q _ q.ts now h26 hlt (mod_tk h.towf) hfr (by omega) h.towf.tso.le ⟨by show 1 ≤ q.iss + 1; have := h.i0; omega, by show q.iss + 1 < 1000000; omega⟩
      rw [← mod_expire h.towf now (by omega)] at h45
      have hasc : (keepT now q.ts).Pairwise fun x y => x.n < y.n := h.asc.filter _
      have hsub : ∀ t ∈ keepT now q.ts, t ∈ q.ts := fun t ht => (List.mem_filter.1 ht).1
      have key : ∀ (l : List Tck) (p : Qs), (expQ p l).arr = p.arr ∧ (expQ p l).iss = p.iss ∧ (expQ p l).now = p.now ∧ (expQ p l).la = p.la ∧ (expQ p l).lb = p.lb ∧ (expQ p l).lc = p.lc := by
        intro l
        induction l with
        | nil => exact fun p => ⟨rfl, rfl, rfl, rfl, rfl, rfl⟩
        | cons t l ih => exact fun p => ih (relQ p t.n)
      obtain ⟨k1, k2, k3, k4, k5, k6⟩ := key (keepT now q.ts) (q.nw now)
      refine ⟨_, _, do24_exp q _ now k A B hk hA hB hq hn h45, .inl rfl, exp_wl (nw_wl h (by omega) (by omega)) hasc hsub, ⟨?_, ?_, ?_, ?_, by omega⟩, k4, k5, k6⟩
      · rw [k1]; show q.arr ≤ ((j + 1 : Nat) : Int); omega
      · rw [k2]; show q.iss ≤ ((j + 1 : Nat) : Int); omega
      · rw [k3]; show 0 ≤ now; omega
      · rw [k3]; show now ≤ 11 * ((j + 1 : Nat) : Int); omega
end Go.Proofs.YtdgpipoffcajgaaV
