/- Maps; slices that are handed on for good. -/
import Derived.Test.YteidaaobppjlbaaVx8
import Derived.MapKept
set_option linter.unusedVariables false
set_option linter.unusedSimpArgs false
namespace Go.Proofs.YteidaaobppjlbaaV
open Go.RowKit

section
variable {P : Program} {c : Ctx} {Z : Zst} {nt : Nat} {s : SS} {a : Act} {w : World} {I : Nat → Nat → Prop} {μ : Nat → Nat} {ν : Nat → Value}

/-- A map that is made. -/
theorem lay_map (hr : Rel P Z nt s a w I μ ν) {nid : Nat} (hn : nid < s.n) (hd : s.ob nid = .dead) : Rel P Z nt { s with ob := upd s.ob nid (.map []) } a (w.alloc (.map #[] 0)) I (upd μ nid w.heap.size) (upd ν nid undef) :=
  lay_new hr hn hd _ _ (fun _ _ => rfl) fun μ' ν' hμ _ _ => ⟨#[], 0, by rw [hμ]; exact heap_alloc_new w _, rfl, by rw [hμ]; exact new_above hr (Nat.le_refl _), by simp, by simp⟩

theorem sameD_ok {i : TyI} {kt : TypeId} (ht : TyOk P kt i) {k q : D} {kv qv : Value} (hk : keyOk (some i) k = true) (h1 : VRd w I k kv) (h2 : VRd w I q qv) {r : Bool} (h : sameD k q = some r) : ∃ d, P.underlying kt = some d ∧ Instr.sameNow d kv qv = some r := by
  unfold keyOk at hk
  split at hk
  · rename_i kk _ _ _ q' _ e
    injection e with e
    subst e
    have hu := ht.int rfl
    cases h1
    cases h2 <;> simp only [sameD] at h <;> try cases h
    split at h
    · rename_i e
      refine ⟨_, hu, ?_⟩
      simp only [Instr.sameNow, e, if_true]
      simpa using h
    · cases h
  · rename_i e
    injection e with e
    subst e
    obtain ⟨d, hu, hke⟩ := ht.und
    have hd : d = .string := by cases d <;> simp_all [kindEq]
    subst hd
    cases h1
    cases h2 <;> simp only [sameD] at h <;> try cases h
    exact ⟨_, hu, rfl⟩
  · cases hk

theorem findD_ok {i : TyI} {kt : TypeId} (ht : TyOk P kt i) {k : D} {kv : Value} (hk : keyOk (some i) k = true) (h1 : VRd w I k kv) : ∀ {es : List (D × D)} {ents : List MapEntry} {n : Nat} {r : Option (Nat × D)}, findD k es n = some r → es.length = ents.length →
    (∀ (i : Nat) (k v : D) (e : MapEntry), es[i]? = some (k, v) → ents[i]? = some e → VRd w I k e.key ∧ VRd w I v e.val) →
    ∃ d r', P.underlying kt = some d ∧ Instr.findNow d kv ents n = some r' ∧ match r with
      | none => r' = none
      | some (j, x) => ∃ u e q, r' = some (j, u) ∧ n ≤ j ∧ es[j - n]? = some (q, x) ∧ ents[j - n]? = some e ∧ u = e.val ∧ sameD k q = some true ∧ VRd w I x u
  | [], [], n, r, h, _, _ => by
    obtain ⟨d, hu, _⟩ := ht.und
    simp only [findD, Option.some.injEq] at h
    subst h
    exact ⟨d, none, hu, rfl, rfl⟩
  | [], _ :: _, _, _, _, hl, _ => by simp at hl
  | _ :: _, [], _, _, _, hl, _ => by simp at hl
  | (q, v) :: es, e :: ents, n, r, h, hl, hv => by
    obtain ⟨v1, v2⟩ := hv 0 q v e rfl rfl
    unfold findD at h
    split at h
    · rename_i hs
      obtain ⟨d, hu, hsn⟩ := sameD_ok ht hk h1 v1 hs
      injection h with h
      subst h
      refine ⟨d, some (n, e.val), hu, by simp [Instr.findNow, hsn], e.val, e, q, rfl, Nat.le_refl _, by simp, by simp, rfl, hs, v2⟩
    · rename_i hs
      obtain ⟨d, hu, hsn⟩ := sameD_ok ht hk h1 v1 hs
      obtain ⟨d', r', hu', hf, hr'⟩ := findD_ok ht hk h1 h (by simpa using hl) (fun i k v e hk he => hv (i + 1) k v e (by simpa using hk) (by simpa using he))
      rw [hu] at hu'; injection hu' with hu'; subst hu'
      refine ⟨d, r', hu, by simp [Instr.findNow, hsn, hf], ?_⟩
      cases r with
      | none => exact hr'
      | some jx =>
        obtain ⟨j, x⟩ := jx
        obtain ⟨u, e', q', a1, a2, a3, a4, a5, a6, a7⟩ := hr'
        refine ⟨u, e', q', a1, by omega, ?_, ?_, a5, a6, a7⟩
        · rw [show j - n = (j - (n + 1)) + 1 by omega]; simpa using a3
        · rw [show j - n = (j - (n + 1)) + 1 by omega]; simpa using a4
    · cases h

theorem run_checkKey_succ {i : TyI} {kt : TypeId} (ht : TyOk P kt i) {k : D} {kv : Value} (hk : keyOk (some i) k = true) (h1 : VRd w I k kv) (b : Bool) (n : Nat) : (Instr.checkKey b (n + 1) kt kv).run P w = .ok () w := by
  unfold keyOk at hk
  split at hk
  · rename_i e
    injection e with e
    subst e
    cases h1
    simp [Instr.checkKey, run_underlying (ht.int rfl)]
  · rename_i e
    injection e with e
    subst e
    obtain ⟨d, hu, hke⟩ := ht.und
    have hd : d = .string := by cases d <;> simp_all [kindEq]
    subst hd
    cases h1
    simp [Instr.checkKey, run_underlying hu]
  · cases hk
theorem run_checkKey {i : TyI} {kt : TypeId} (ht : TyOk P kt i) {k : D} {kv : Value} (hk : keyOk (some i) k = true) (h1 : VRd w I k kv) (b : Bool) : (Instr.checkKey b 10000 kt kv).run P w = .ok () w := run_checkKey_succ ht hk h1 b 9999

theorem run_findKey {kt : TypeId} {d : TypeDesc} {kv : Value} {ents : List MapEntry} {r : Option (Nat × Value)} (hu : P.underlying kt = some d) (h : Instr.findNow d kv ents 0 = some r) : (Instr.findKey kt kv ents).run P w = .ok r w := by
  simp [Instr.findKey, run_underlying hu, h]

/-- A look into a map. -/
theorem lookup_ok (hc : COk P c) (hr : Rel P Z nt s a w I μ ν) {t : TypeId} {x k v : AV} {ok : Bool} {u u' : Value} (hx : VR w I μ ν s.ob x u) (hk : VR w I μ ν s.ob k u') (h : lookupF c.T t x k ok s.ob = some v) :
    ∃ r, (Instr.lookup t u u' ok).run P w = .ok r w ∧ VR w I μ ν s.ob v r ∧ v.sc s.ob := by
  unfold lookupF at h
  split at h
  · rename_i kt et _ _ _ hi
    have ht := (hc.T.ok hi).map rfl
    split at h
    · rename_i es kd i hes hkd hie
      have hte := hc.T.ok hie
      split at h <;> first | (cases h; done) | skip
      rename_i hko
      have hkv := toD_VR hkd hk
      obtain ⟨ki, hki⟩ : ∃ ki, c.T.get kt = some ki := by
        cases hq : c.T.get kt with
        | none => rw [hq] at hko; simp [keyOk] at hko
        | some ki => exact ⟨ki, rfl⟩
      have htk := hc.T.ok hki
      rw [hki] at hko
      have hents : ∃ ents : List MapEntry, es.length = ents.length ∧ (∀ (i : Nat) (k v : D) (e : MapEntry), es[i]? = some (k, v) → ents[i]? = some e → VRd w I k e.key ∧ VRd w I v e.val) ∧
          ∀ ok, (Instr.lookup t u u' ok).run P w = (do
            Instr.checkKey ents.isEmpty 10000 kt u'
            let (v, is) ← match ← Instr.findKey kt u' ents with
              | some (_, v) => pure (v, true)
              | none => pure (← zeroValue et, false)
            pure (if ok then .tuple #[v, .bool is] else v) : Sem Value).run P w := by
        unfold mapEs at hes
        split at hes
        · injection hes with hes; subst hes
          cases hx
          exact ⟨[], rfl, by simp, fun ok => by simp [Instr.lookup, run_underlying ht]; rfl⟩
        · rename_i o
          unfold mapOb at hes
          split at hes
          · rename_i es' hob
            injection hes with hes; subst hes
            have ho := hr.os o
            rw [hob] at ho
            obtain ⟨ents, clock, g1, g2, g3, g4, g5⟩ := ho
            cases hx
            refine ⟨ents.toList, by simpa using g2.symm, fun i k v e hk he => ?_, fun ok => ?_⟩
            · obtain ⟨q1, q2, _⟩ := g4 i k v e hk (by simpa using he)
              exact ⟨q1, q2⟩
            · simp [Instr.lookup, run_underlying ht, getObj, Sem.run, g1]; rfl
          · cases hes
        · cases hes
      obtain ⟨ents, hl, hv, hrun⟩ := hents
      rw [hrun ok]
      have okVR : ∀ {d : D} {r : Value} {b : Bool}, VRd w I d r → VR w I μ ν s.ob (okV ok d b) (if ok then .tuple #[r, .bool b] else r) ∧ (okV ok d b).sc s.ob := fun {d r b} hd => by
        unfold okV
        cases ok with
        | false => exact ⟨.d _ _ hd, trivial⟩
        | true =>
          refine ⟨.tup [.d d, .d (.bool b)] [r, .bool b] rfl fun i x v hx hv => ?_, fun x hx => ?_⟩
          · match i with
            | 0 => simp at hx hv; subst hx hv; exact .d _ _ hd
            | 1 => simp at hx hv; subst hx hv; exact .d _ _ (.bool b)
            | i + 2 => simp at hx
          · simp at hx; rcases hx with rfl | rfl <;> trivial
      unfold lookF at h
      split at h
      · rename_i j x hf
        injection h with h; subst h
        obtain ⟨d, r', hu, hfn, uu, e, q, rfl, _, _, _, _, _, hd⟩ := findD_ok htk hko hkv hf hl hv
        refine ⟨_, ?_, okVR hd⟩
        simp [run_checkKey htk hko hkv, run_findKey hu hfn]
      · rename_i hf
        split at h <;> first | (cases h; done) | skip
        rename_i z hz
        injection h with h; subst h
        obtain ⟨d, r', hu, hfn, rfl⟩ := findD_ok htk hko hkv hf hl hv
        obtain ⟨f, zv, k1, k2, _, _, k5, _⟩ := zeroD_ok hte hz w I
        refine ⟨_, ?_, okVR k5⟩
        simp [run_checkKey htk hko hkv, run_findKey hu hfn, zeroValue, typeInfo, k1, k2]
      · cases h
    · cases h
  · cases h

theorem cell_set_map {b b' off : Nat} {ents ents' : Array MapEntry} {clock clock' : Nat} (h : w.heap[b]? = some (.map ents clock)) : ({ w with heap := w.heap.setIfInBounds b (.map ents' clock') } : World).cell? ⟨b', off, none⟩ = w.cell? ⟨b', off, none⟩ := by
  simp only [World.cell?, Array.getElem?_setIfInBounds]
  by_cases e : b = b'
  · subst e
    have hlt : b < w.heap.size := (Array.getElem?_eq_some_iff.1 h).1
    rw [if_pos rfl, if_pos hlt, h]
  · simp [e]

theorem run_getMap {b : Nat} {ents : Array MapEntry} {clock : Nat} (h : w.heap[b]? = some (.map ents clock)) : (getObj b).run P w = .ok (.map ents clock) w := by simp [getObj, Sem.run, h]
theorem run_setMap {b : Nat} {ents : Array MapEntry} {clock : Nat} (h : w.heap[b]? = some (.map ents clock)) (o : Obj) : (setObj b o).run P w = .ok () { w with heap := w.heap.setIfInBounds b o } := by simp [setObj, Sem.run, h]

theorem turn_map (hr : Rel P Z nt s a w I μ ν) {o : Nat} {es es' : List (D × D)} (hob : s.ob o = .map es) {ents ents' : Array MapEntry} {clock clock' : Nat} (hh : w.heap[μ o]? = some (.map ents clock)) (hN : Z.new (μ o)) (hsz : ents'.size = es'.length)
    (h4 : ∀ (i : Nat) (k v : D) (e : MapEntry), es'[i]? = some (k, v) → ents'[i]? = some e → VRd w I k e.key ∧ VRd w I v e.val ∧ e.born < clock') (h5 : ∀ (i j : Nat) (e e' : MapEntry), i < j → ents'[i]? = some e → ents'[j]? = some e' → e.born < e'.born) :
    Rel P Z nt { s with ob := upd s.ob o (.map es') } a { w with heap := w.heap.setIfInBounds (μ o) (.map ents' clock') } I μ ν := by
  have hI : ∀ b off, I b off → I b off ∧ ({ w with heap := w.heap.setIfInBounds (μ o) (.map ents' clock') } : World).cell? ⟨b, off, none⟩ = w.cell? ⟨b, off, none⟩ := fun b off h => ⟨h, cell_set_map hh⟩
  have hlive : s.ob o ≠ .dead := by rw [hob]; simp
  have hb : μ o < w.heap.size := (Array.getElem?_eq_some_iff.1 hh).1
  have other : ∀ b, b ≠ μ o → (w.heap.setIfInBounds (μ o) (.map ents' clock'))[b]? = w.heap[b]? := fun b hne => by
    rw [Array.getElem?_setIfInBounds, if_neg (fun e => hne e.symm)]
  refine hr.turn (hr.lt_n hlive) hI (goes_upd hlive (by simp) (by rw [hob]; simp)) (fun o' b hne hb' => ⟨other b ?_, fun off h => h⟩) (fun o' hne => rfl) ?_ (fun o' b hne hb' => ?_) ?_ (fun b off h => .inl h) (fun b off h => by have := hr.i2 b off h; simpa using this)
  · rintro rfl
    exact hr.sep o o' _ (Ne.symm hne) (by rw [hob]; rfl) hb'
  · refine ⟨ents', clock', ?_, hsz, hN, fun i k v e hk he => ?_, h5⟩
    · show (w.heap.setIfInBounds _ _)[μ o]? = _
      rw [Array.getElem?_setIfInBounds, if_pos rfl, if_pos hb]
    · obtain ⟨q1, q2, q3⟩ := h4 i k v e hk he
      exact ⟨q1.mono hI, q2.mono hI, q3⟩
  · intro e
    exact hr.sep o o' b (Ne.symm hne) (by rw [hob]; exact e) hb'
  · exact hr.keep (N := fun b => b = μ o) ⟨rfl, rfl, rfl, by simp, fun q hq hn => other q hn⟩ fun b _ hb => by subst hb; exact hN

theorem same_bits {k q : D} {kv qv : Value} (h1 : VRd w I k kv) (h2 : VRd w I q qv) (h : sameD k q = some true) (n : Nat) : Instr.sameBits n qv kv = true := by
  cases h1 <;> cases h2 <;> simp only [sameD] at h <;> try cases h
  · split at h
    · rename_i e
      subst e
      injection h with h
      simp only [beq_iff_eq] at h
      subst h
      cases n <;> simp [Instr.sameBits]
    · cases h
  · injection h with h
    have h := (Go.MapKept.bytes_beq _ _).1 h
    subst h
    cases n <;> simp [Instr.sameBits, (Go.MapKept.bytes_beq _ _).2]

/-- A write into a map. -/
theorem update_ok (hc : COk P c) (hr : Rel P Z nt s a w I μ ν) {t : TypeId} {x k v : AV} {u u' u'' : Value} {zz : AV} {e : List (Nat × AObj)} (hx : VR w I μ ν s.ob x u) (hk : VR w I μ ν s.ob k u') (hv : VR w I μ ν s.ob v u'') (h : mapUpdateF c.T t x k v s.ob = .val zz e) :
    zz = .junk ∧ ∃ w' o z, (Instr.mapUpdate t u u' u'').run P w = .ok () w' ∧ e = [(o, z)] ∧ s.ob o ≠ .dead ∧ Rel P Z nt { s with ob := upd s.ob o z } a w' I μ ν := by
  unfold mapUpdateF at h
  split at h
  · rename_i kt et _ _ _ hi
    have ht := (hc.T.ok hi).map rfl
    split at h
    · rename_i o kd vd hkd hvd
      have ho := hr.os o
      split at h <;> first | (cases h; done) | skip
      rename_i hko
      unfold mapPut at h
      split at h
      · rename_i es hob
        have hlive : s.ob o ≠ .dead := by rw [hob]; simp
        rw [hob] at ho
        obtain ⟨ents, clock, g1, g2, g3, g4, g5⟩ := ho
        have hkv := toD_VR hkd hk
        have hvv := toD_VR hvd hv
        obtain ⟨ki, hki⟩ : ∃ ki, c.T.get kt = some ki := by
          cases hq : c.T.get kt with
          | none => rw [hq] at hko; simp [keyOk] at hko
          | some ki => exact ⟨ki, rfl⟩
        have htk := hc.T.ok hki
        rw [hki] at hko
        cases hx
        have hents : ∀ (i : Nat) (k v : D) (e : MapEntry), es[i]? = some (k, v) → ents.toList[i]? = some e → VRd w I k e.key ∧ VRd w I v e.val := fun i k v e hk he => by
          obtain ⟨q1, q2, _⟩ := g4 i k v e hk (by simpa using he)
          exact ⟨q1, q2⟩
        split at h <;> first | (cases h; done) | skip
        rename_i es' hput
        injection h with hz he
        subst hz; subst he
        unfold putE at hput
        split at hput
        · rename_i j x hf
          injection hput with hput; subst hput
          obtain ⟨d, r', hu, hfn, uu, e', q, rfl, _, a3, a4, rfl, a6, _⟩ := findD_ok htk hko hkv hf (by simpa using g2.symm) hents
          simp only [Nat.sub_zero] at a3 a4
          have a4' : ents[j]? = some e' := by simpa using a4
          have hb := same_bits hkv (hents j _ _ _ a3 a4).1 a6 10000
          refine ⟨rfl, _, o, _, ?_, rfl, hlive, turn_map hr hob (ents' := ents.modify j fun e => { e with key := u', val := u'' }) (clock' := clock) g1 g3 (by simp [g2]) (fun i k v e hk he => ?_) (fun i i' e e2 hii he he2 => ?_)⟩
          · simp [Instr.mapUpdate, run_underlying ht, run_getMap g1, run_checkKey htk hko hkv, run_findKey hu hfn, a4', Instr.keyThatStays, hb, run_setMap g1]
          · rw [List.getElem?_set] at hk
            rw [Array.getElem?_modify] at he
            by_cases hij : j = i
            · subst hij
              have hlt : j < es.length := (List.getElem?_eq_some_iff.1 a3).1
              simp only [hlt, if_true, Option.some.injEq, Prod.mk.injEq] at hk
              obtain ⟨rfl, rfl⟩ := hk
              simp only [if_true, a4', Option.map_some, Option.some.injEq] at he
              subst he
              exact ⟨hkv, hvv, (g4 j _ _ _ a3 a4').2.2⟩
            · rw [if_neg hij] at hk he
              exact g4 i k v e hk he
          · have born : ∀ (i : Nat) (e : MapEntry), (ents.modify j fun e => { e with key := u', val := u'' })[i]? = some e → ∃ e0, ents[i]? = some e0 ∧ e0.born = e.born := fun i e he => by
              rw [Array.getElem?_modify] at he
              split at he
              · cases hq : ents[i]? with
                | none => simp [hq] at he
                | some e0 => simp [hq] at he; subst he; exact ⟨e0, rfl, rfl⟩
              · exact ⟨e, he, rfl⟩
            obtain ⟨e0, q1, q2⟩ := born i e he
            obtain ⟨e1, q3, q4⟩ := born i' e2 he2
            rw [← q2, ← q4]
            exact g5 i i' e0 e1 hii q1 q3
        · rename_i hf
          injection hput with hput; subst hput
          obtain ⟨d, r', hu, hfn, rfl⟩ := findD_ok htk hko hkv hf (by simpa using g2.symm) hents
          refine ⟨rfl, _, o, _, ?_, rfl, hlive, turn_map hr hob (ents' := ents.push { key := u', val := u'', born := clock }) (clock' := clock + 1) g1 g3 (by simp [g2]) (fun i k v e hk he => ?_) (fun i i' e e2 hii he he2 => ?_)⟩
          · simp [Instr.mapUpdate, run_underlying ht, run_getMap g1, run_checkKey htk hko hkv, run_findKey hu hfn, run_setMap g1]
          · rw [List.getElem?_append] at hk
            rw [Array.getElem?_push] at he
            split at hk
            · rename_i hlt
              rw [if_neg (by omega)] at he
              obtain ⟨q1, q2, q3⟩ := g4 i k v e hk he
              exact ⟨q1, q2, by omega⟩
            · rename_i hge
              have hi0 : i = es.length := by
                have := (List.getElem?_eq_some_iff.1 hk).1
                simp at this; omega
              rw [if_pos (by omega)] at he
              subst hi0
              simp at hk he
              obtain ⟨rfl, rfl⟩ := hk
              subst he
              exact ⟨hkv, hvv, by simp⟩
          · rw [Array.getElem?_push] at he he2
            split at he2
            · injection he2 with he2
              subst he2
              rw [if_neg (by omega)] at he
              have hi : i < es.length := by rw [← g2]; exact (Array.getElem?_eq_some_iff.1 he).1
              exact (g4 i es[i].1 es[i].2 e (List.getElem?_eq_getElem hi) he).2.2
            · rename_i hne
              have hi' : i' < ents.size := (Array.getElem?_eq_some_iff.1 he2).1
              rw [if_neg (by omega)] at he
              exact g5 i i' e e2 hii he he2
        · cases hput
      · cases h
    · cases h
  · cases h

end

end Go.Proofs.YteidaaobppjlbaaV
