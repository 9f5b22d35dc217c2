/- What the interpreter does beside the machine's work changes nothing that is told of the machine. -/
import Derived.Test.YteidaaobppjlbaaVx16
set_option linter.unusedVariables false
set_option linter.unusedSimpArgs false
namespace Go.Proofs.YteidaaobppjlbaaV
open Go.RowKit

theorem envGet_put (i : Nat) (v : AV) (env : List (Nat × AV)) : envGet (envPut i v env) = upd (envGet env) i v := by
  funext k
  simp only [envPut, envGet, upd]

theorem putV_get (dst : Option Nat) (v : AV) (env : List (Nat × AV)) : envGet (putV dst v env) = match dst with | some d => upd (envGet env) d v | none => envGet env := by
  cases dst with
  | none => rfl
  | some d => exact envGet_put d v env

theorem obGet_set {obs : List AObj} {i : Nat} (x : AObj) (h : i < obs.length) : obGet (obs.set i x) = upd (obGet obs) i x := by
  funext k
  simp only [obGet, upd, List.getD_eq_getElem?_getD, List.getElem?_set]
  by_cases hk : k = i
  · subst hk; simp [h]
  · rw [if_neg hk, if_neg (fun e => hk e.symm)]

theorem obGet_live {obs : List AObj} {i : Nat} (h : obGet obs i ≠ .dead) : i < obs.length := by
  rcases Nat.lt_or_ge i obs.length with h' | h'
  · exact h'
  · exact absurd (by simp [obGet, List.getElem?_eq_none h']) h

theorem setEff_length : ∀ (e : List (Nat × AObj)) (obs : List AObj), (setEff e obs).length = obs.length
  | [], _ => rfl
  | (i, x) :: r, obs => by rw [setEff, setEff_length r]; simp

theorem setEff_get : ∀ {e : List (Nat × AObj)} {obs : List AObj}, (∀ p ∈ e, p.1 < obs.length) → obGet (setEff e obs) = upds (obGet obs) e
  | [], _, _ => rfl
  | (i, x) :: r, obs, h => by
    have hi : i < obs.length := h (i, x) (by simp)
    rw [setEff, setEff_get (e := r) (fun p hp => by rw [List.length_set]; exact h p (by simp [hp])), obGet_set x hi]
    rfl

theorem put_ss {st : St} {dst : Option Nat} {v : AV} {e : List (Nat × AObj)} (h : ∀ p ∈ e, p.1 < st.obs.length) : (st.put dst v e).ss = st.ss.put dst v e := by
  simp only [St.ss, St.put, SS.put, putV_get, setEff_get h, setEff_length]
  cases dst <;> rfl

theorem obGet_obL (obs : List AObj) : obGet obs = obL obs := rfl
theorem obGet_append {obs : List AObj} {x : AObj} : obGet (obs ++ [x]) = upd (obGet obs) obs.length x := by
  funext k
  simp only [obGet, upd, List.getD_eq_getElem?_getD, List.getElem?_append]
  by_cases h : k = obs.length
  · subst h; simp
  · rw [if_neg h]
    split
    · rfl
    · rename_i h'
      have : k - obs.length ≠ 0 := by omega
      cases hk : k - obs.length with
      | zero => omega
      | succ q => rw [List.getElem?_eq_none (by omega : obs.length ≤ k)]; rfl

section
variable {P : Program} {c : Ctx} {Z : Zst} {nt : Nat} {a : Act} {w : World}

/-- A slot's value is replaced by another that stands for the same. -/
theorem Rel.setT {s : SS} {I : Nat → Nat → Prop} {μ : Nat → Nat} {ν : Nat → Value} (hr : Rel P Z nt s a w I μ ν) (t : Nat) (x : AV) (hv : VR w I μ ν s.ob x (a.tmps.getD t undef)) (hs : x.sc s.ob) : Rel P Z nt { s with t := upd s.t t x } a w I μ ν :=
  { hr with
    ts := fun i => by
      show VR w I μ ν s.ob (upd s.t t x i) _
      by_cases e : i = t
      · subst e; rw [upd_same]; exact hv
      · rw [upd_ne _ _ e]; exact hr.ts i
    sc := fun i => by
      show (upd s.t t x i).sc s.ob
      by_cases e : i = t
      · subst e; rw [upd_same]; exact hs
      · rw [upd_ne _ _ e]; exact hr.sc i }
theorem Rel.moreN {s : SS} {I : Nat → Nat → Prop} {μ : Nat → Nat} {ν : Nat → Value} (hr : Rel P Z nt s a w I μ ν) : Rel P Z nt { s with n := s.n + 1 } a w I μ ν := hr.more 1
/-- An empty slice of the call's own, for nil. -/
theorem nil_vec {s : SS} {I : Nat → Nat → Prop} {μ : Nat → Nat} {ν : Nat → Value} (hr : Rel P Z nt s a w I μ ν) {e : TypeId} {sz : Nat} (hinfo : ∃ f, P.info? e = some f ∧ f.size = sz) (hpos : 0 < sz) {nid : Nat} (hn : nid < s.n) (hd : s.ob nid = .dead) :
    ∃ μ' ν', Rel P Z nt { s with ob := upd s.ob nid (.vec 0 true false e sz []) } a w I μ' ν' ∧ VR w I μ' ν' (upd s.ob nid (.vec 0 true false e sz [])) (.vs nid 0 sz 0 0) (.slice none 0 0) ∧ (AV.vs nid 0 sz 0 0).sc0 (upd s.ob nid (.vec 0 true false e sz [])) := by
  have hvr : VecR P Z.new w I (.slice none 0 0) false e sz [] [] :=
    { info := hinfo, pos := hpos, own := ⟨by simp, .inl ⟨rfl, rfl⟩⟩, size := by simp, rd := by simp, one := by simp, new := by simp [Value.ownBlock], spare := by simp [Value.ownBlock], free := by simp [Value.ownBlock], froz := by simp [Value.ownBlock] }
  refine ⟨_, _, lay_vec hr hn hd hvr (Keep.refl _ _) (fun _ _ h => h) (fun _ _ h => .inl h) (by simp [Value.ownBlock]) 0 true, .vs _ _ _ _ _ _ ⟨none, 0, rfl, Nat.le_refl _, fun h => by omega⟩ fun mv fz e' sz' els hob => ?_, ⟨0, true, false, e, sz, [], upd_same _ _ _, Nat.le_refl _⟩⟩
  rw [upd_same] at hob
  injection hob with _ _ _ _ e5 e6
  subst e5; subst e6
  rw [upd_same]
  exact ⟨rfl, Nat.le_refl _, Nat.le_refl _, none, 0, 0, none, rfl, rfl, Nat.le_refl _, fun _ => rfl, fun h => by omega⟩

theorem szOk_ok (hc : COk P c) {e sz : Nat} (h : szOk c.T e sz = true) : (∃ f, P.info? e = some f ∧ f.size = sz) ∧ 0 < sz := by
  unfold szOk at h
  split at h
  · rename_i i hi
    simp only [Bool.and_eq_true, beq_iff_eq, bne_iff_ne] at h
    obtain ⟨f, h1, h2, _⟩ := (hc.T.ok hi).info
    exact ⟨⟨f, h1, by omega⟩, by omega⟩
  · cases h
theorem frzG_ok {g sz lo hi : Nat} {x : AObj} {d : D} {y : AObj} (h : frzG g sz lo hi x = some (d, y)) : ∃ mv fz e sz' els, x = .vec g mv fz e sz' els ∧ d = .sl ((els.take hi).drop lo) ∧ y = .vec g mv true e sz' els := by
  unfold frzG at h
  split at h <;> first | (cases h; done) | skip
  split at h <;> first | (cases h; done) | skip
  rename_i hg
  subst hg
  injection h with h; injection h with e1 e2
  exact ⟨_, _, _, _, _, rfl, e1.symm, e2.symm⟩

/-- Objects that nothing leads to, and slots, are forgotten. -/
theorem Rel.cut {s s' : SS} {I : Nat → Nat → Prop} {μ : Nat → Nat} {ν : Nat → Value} (hr : Rel P Z nt s a w I μ ν) (q : Nat → Bool) (ht : ∀ i, s'.t i = s.t i ∨ s'.t i = .junk) (hob : ∀ o, s'.ob o = if q o = true then s.ob o else .dead) (hdd : ∀ o, s'.n ≤ o → s'.ob o = .dead)
    (hu : ∀ i, ∀ o ∈ (s'.t i).oids, q o = true) (ho : ∀ o, q o = true → ∀ r ∈ (s.ob o).oids, q r = true) (hZ : ∀ o, Z.ob o ≠ .dead → q o = true) : Rel P Z nt s' a w I μ ν := by
  have hob' : ∀ o, q o = true → s'.ob o = s.ob o := fun o h => by rw [hob, if_pos h]
  have cut0 : ∀ {x : AV} {v : Value}, x.sc0 s.ob → (∀ o ∈ x.oids0, q o = true) → VR w I μ ν s.ob x v → VR w I μ ν s'.ob x v ∧ x.sc0 s'.ob := by
    intro x v hs hx hv
    cases hv with
    | d x v hd => exact ⟨.d x v hd, trivial⟩
    | ptr o off => exact ⟨.ptr o off, by show s'.ob o ≠ .dead; rw [hob' o (hx o (by simp [AV.oids0]))]; exact hs⟩
    | ep cs b off u h1 h2 => exact ⟨.ep cs b off u h1 h2, trivial⟩
    | vs o g sz lo hi v hl hh =>
      have := hob' o (hx o (by simp [AV.oids0]))
      exact ⟨.vs o g sz lo hi v hl (by rw [this]; exact hh), by show ∃ _ _ _ _ _ _, _; rw [this]; exact hs⟩
    | pv o g j sz sub v hl hh =>
      have := hob' o (hx o (by simp [AV.oids0]))
      exact ⟨.pv o g j sz sub v hl (by rw [this]; exact hh), by show ∃ _ _ _ _ _ _, _; rw [this]; exact hs⟩
    | mp o => exact ⟨.mp o, by show s'.ob o ≠ .dead; rw [hob' o (hx o (by simp [AV.oids0]))]; exact hs⟩
    | nilm => exact ⟨.nilm, trivial⟩
    | nilp => exact ⟨.nilp, trivial⟩
    | fn g x y =>
      refine ⟨.fn g x y, fun c hc => ?_⟩
      have : c.1 ∈ (AV.fn g x y).oids0 := by
        simp only [AV.oids0, List.mem_append, List.mem_map]
        rcases List.mem_append.1 hc with hc | hc
        · exact .inl ⟨c, hc, rfl⟩
        · exact .inr ⟨c, hc, rfl⟩
      rw [hob' _ (hx _ this)]; exact hs c hc
    | nilf => exact ⟨.nilf, trivial⟩
    | tup l vs hl hp => exact hs.elim
    | it o => exact ⟨.it o, by show s'.ob o ≠ .dead; rw [hob' o (hx o (by simp [AV.oids0]))]; exact hs⟩
    | junk v => exact ⟨.junk v, trivial⟩
  have cut1 : ∀ {x : AV} {v : Value}, x.sc s.ob → (∀ o ∈ x.oids, q o = true) → VR w I μ ν s.ob x v → VR w I μ ν s'.ob x v ∧ x.sc s'.ob := by
    intro x v hs hx hv
    rcases sc_cases x with ⟨l, rfl⟩ | ⟨h1, h2⟩
    · cases hv with
      | tup _ vs hl hp =>
        have key : ∀ (i : Nat) (y : AV) (u : Value), l[i]? = some y → vs[i]? = some u → VR w I μ ν s'.ob y u ∧ y.sc0 s'.ob := fun i y u hy hu =>
          cut0 (hs y (List.mem_of_getElem? hy)) (fun o ho => hx o (by simp only [AV.oids, List.mem_flatMap]; exact ⟨y, List.mem_of_getElem? hy, ho⟩)) (hp i y u hy hu)
        refine ⟨.tup l vs hl fun i y u hy hu => (key i y u hy hu).1, fun y hy => ?_⟩
        obtain ⟨i, hi⟩ := List.mem_iff_getElem?.1 hy
        have hlt : i < vs.length := by rw [← hl]; exact (List.getElem?_eq_some_iff.1 hi).1
        exact (key i y _ hi (List.getElem?_eq_getElem hlt)).2
    · rw [h1] at hs ⊢
      rw [h2] at hx
      exact cut0 hs hx hv
  refine { hr with ts := fun i => ?_, sc := fun i => ?_, os := fun o => ?_, dd := fun o h => ?_, sep := fun o o' b hne h1 h2 => ?_, go := ⟨fun o hz => ?_, fun o g mv fz e sz els hz => ?_⟩ }
  · rw [hob]
    split
    · rename_i h
      have hx := hr.os o
      have hx' := ho o h
      generalize s.ob o = x at *
      cases x with
      | dead => trivial
      | box cs =>
        obtain ⟨vs, t, h1, h3, h4, h5, h6, h7, h8⟩ := hx
        have hc : ∀ c ∈ cs, ∀ r ∈ c.oids0, q r = true := fun c hc r hr => hx' r (by simp only [AObj.oids, List.mem_flatMap]; exact ⟨c, hc, hr⟩)
        refine ⟨vs, t, h1, h3, fun i c v hc' hv => (cut0 (h5 c (List.mem_of_getElem? hc')) (hc c (List.mem_of_getElem? hc')) (h4 i c v hc' hv)).1, fun c hc' => ?_, h6, h7, h8⟩
        obtain ⟨i, hi⟩ := List.mem_iff_getElem?.1 hc'
        have hlt : i < vs.length := by rw [← h3]; exact (List.getElem?_eq_some_iff.1 hi).1
        exact (cut0 (h5 c hc') (hc c hc') (h4 i c _ hi (List.getElem?_eq_getElem hlt))).2
      | vec g mv fz e sz els => exact hx
      | map es => exact hx
      | iter m l => exact hx
    · trivial
  · exact hdd o h
  · rw [hob] at h1 h2
    split at h1
    · split at h2
      · exact hr.sep o o' b hne h1 h2
      · cases h2
    · cases h1
  · rcases ht i with h | h
    · exact (cut1 (h ▸ hr.sc i) (hu i) (h ▸ hr.ts i)).1
    · rw [h]; exact .junk _
  · rcases ht i with h | h
    · exact (cut1 (h ▸ hr.sc i) (hu i) (h ▸ hr.ts i)).2
    · rw [h]; trivial
  · rw [hob' o (hZ o hz)]; exact hr.go.live o hz
  · rw [hob' o (hZ o (by rw [hz]; simp))]; exact hr.go.vec o g mv fz e sz els hz

theorem keep_get (env : List (Nat × AV)) (i : Nat) : ∀ (keep : List Nat), envGet (envKeep keep env) i = envGet env i ∨ envGet (envKeep keep env) i = .junk
  | [] => .inr rfl
  | k :: r => by
    have ih := keep_get env i r
    simp only [envKeep, List.map_cons, envGet] at ih ⊢
    split
    · rename_i e; subst e; exact .inl rfl
    · exact ih
theorem envGet_all {q : AV → Bool} (hj : q .junk = true) : ∀ {env : List (Nat × AV)}, (env.all fun p => q p.2) = true → ∀ i, q (envGet env i) = true
  | [], _, i => hj
  | (j, x) :: r, h, i => by
    simp only [List.all_cons, Bool.and_eq_true] at h
    simp only [envGet]
    split
    · exact h.1
    · exact envGet_all hj h.2 i

theorem kill_get (z : Nat) (used : List Nat) : ∀ (l : List AObj) (i k : Nat), obGet (killO z used i l) k = if (decide (i + k < z) || used.contains (i + k)) = true then obGet l k else .dead
  | [], i, k => by simp [killO, obGet]
  | x :: r, i, 0 => by simp [killO, obGet]
  | x :: r, i, k + 1 => by
    have := kill_get z used r (i + 1) k
    simp only [obGet, killO, List.getD_cons_succ] at this ⊢
    rw [this, show i + 1 + k = i + (k + 1) by omega]
theorem kill_len (z : Nat) (used : List Nat) : ∀ (l : List AObj) (i : Nat), (killO z used i l).length = l.length
  | [], i => rfl
  | x :: r, i => by simp [killO, kill_len z used r (i + 1)]
theorem envGet_in : ∀ (env : List (Nat × AV)) (i : Nat), envGet env i = .junk ∨ ∃ p ∈ env, p.2 = envGet env i
  | [], i => .inl rfl
  | (j, x) :: r, i => by
    simp only [envGet]
    split
    · exact .inr ⟨(j, x), by simp, rfl⟩
    · rcases envGet_in r i with h | ⟨p, hp, h⟩
      · exact .inl h
      · exact .inr ⟨p, by simp [hp], h⟩

theorem tidy_ok {st st' : St} {keep : List Nat} {z m : Nat} (hr : RelE P Z nt st.ss a w) (h : ghost c.T (.tidy keep z m) st = some st') (hZ : ∀ o, Z.ob o ≠ .dead → o < z ∧ o < m) : RelE P Z nt st'.ss a w := by
  obtain ⟨I, μ, ν, hr⟩ := hr
  simp only [ghost, tidyS] at h
  split at h <;> first | (cases h; done) | skip
  rename_i hcond
  injection h with h; subst h
  generalize hused : usedBy (envKeep keep st.env) (st.obs.take m) = used at *
  have hlt : ∀ o ∈ used, o < m := fun o ho => of_decide_eq_true (List.all_eq_true.1 hcond o ho)
  have hget : ∀ o, obGet (killO z used 0 (st.obs.take m) ++ List.replicate (m - st.obs.length) AObj.dead) o = if (decide (o < m) && (decide (o < z) || used.contains o)) = true then obGet st.obs o else .dead := fun o => by
    rcases Nat.lt_or_ge o (st.obs.take m).length with h | h
    · have e : obGet (killO z used 0 (st.obs.take m) ++ List.replicate (m - st.obs.length) AObj.dead) o = obGet (killO z used 0 (st.obs.take m)) o := by
        simp only [obGet, List.getD_eq_getElem?_getD]
        rw [List.getElem?_append_left (by rw [kill_len]; exact h)]
      have hm : o < m := by rw [List.length_take] at h; omega
      rw [e, kill_get]
      simp only [Nat.zero_add, hm, decide_true, Bool.true_and]
      split
      · simp only [obGet, List.getD_eq_getElem?_getD, List.getElem?_take, hm, if_true]
      · rfl
    · have e : obGet (killO z used 0 (st.obs.take m) ++ List.replicate (m - st.obs.length) AObj.dead) o = .dead := by
        simp only [obGet, List.getD_eq_getElem?_getD]
        rw [List.getElem?_append_right (by rw [kill_len]; exact h), List.getElem?_replicate]
        split <;> rfl
      rw [e]
      split
      · rename_i hq
        simp only [Bool.and_eq_true, decide_eq_true_eq] at hq
        rw [List.length_take] at h
        simp only [obGet, List.getD_eq_getElem?_getD]
        rw [List.getElem?_eq_none (by omega)]; rfl
      · rfl
  refine ⟨I, μ, ν, hr.cut (fun o => decide (o < m) && (decide (o < z) || used.contains o)) (fun i => keep_get st.env i keep) hget (fun o ho => ?_) (fun i o ho => ?_) (fun o ho r hr' => ?_) fun o ho => ?_⟩
  · have hlen : (killO z used 0 (st.obs.take m) ++ List.replicate (m - st.obs.length) AObj.dead).length ≤ o := ho
    show obGet _ o = .dead
    simp only [obGet, List.getD_eq_getElem?_getD]
    rw [List.getElem?_eq_none hlen]; rfl
  · have hin : o ∈ used := by
      rcases envGet_in (envKeep keep st.env) i with h | ⟨p, hp, h⟩
      · have ho' : o ∈ (envGet (envKeep keep st.env) i).oids := ho
        rw [h] at ho'; simp [AV.oids, AV.oids0] at ho'
      · have ho' : o ∈ (envGet (envKeep keep st.env) i).oids := ho
        rw [← h] at ho'
        rw [← hused]
        simp only [usedBy, List.mem_append, List.mem_flatMap]
        exact .inl ⟨p, hp, ho'⟩
    have := hlt o hin
    simp [this, hin]
  · simp only [Bool.and_eq_true, decide_eq_true_eq] at ho
    have hin : r ∈ used := by
      have hr2 : r ∈ (obGet st.obs o).oids := hr'
      by_cases hl : o < st.obs.length
      · rw [← hused]
        simp only [usedBy, List.mem_append, List.mem_flatMap]
        refine .inr ⟨obGet st.obs o, ?_, hr2⟩
        simp only [obGet, List.getD_eq_getElem?_getD, List.getElem?_eq_getElem hl, Option.getD_some]
        exact List.mem_take_iff_getElem.2 ⟨o, by omega, rfl⟩
      · have : obGet st.obs o = .dead := hr.dd o (by show st.obs.length ≤ o; omega)
        rw [this] at hr2
        simp [AObj.oids] at hr2
    have := hlt r hin
    simp [this, hin]
  · obtain ⟨h1, h2⟩ := hZ o ho
    simp [h1, h2]

theorem ss_put (st : St) (t : Nat) (x : AV) (obs : List AObj) : (St.ss ⟨envPut t x st.env, obs⟩) = { t := upd st.ss.t t x, ob := obGet obs, n := obs.length } := by
  simp only [St.ss, envGet_put]

/-- A ghost's step. 'm0': the objects that the call was handed. -/
theorem ghost_ok (hc : COk P c) {g : Gh} {st st' : St} (hr : RelE P Z nt st.ss a w) (h : ghost c.T g st = some st') (hZ : ∀ keep z m, g = .tidy keep z m → ∀ o, Z.ob o ≠ .dead → o < z ∧ o < m) : RelE P Z nt st'.ss a w := by
  cases g with
  | tidy keep z m => exact tidy_ok (c := c) hr h (hZ keep z m rfl)
  | frz t =>
    obtain ⟨I, μ, ν, hr⟩ := hr
    simp only [ghost] at h
    split at h
    · rename_i o g sz lo hi ht
      split at h <;> first | (cases h; done) | skip
      rename_i d x hf
      injection h with h; subst h
      obtain ⟨mv, fz, e, sz', els, hob, rfl, rfl⟩ := frzG_ok hf
      have hob' : st.ss.ob o = .vec g mv fz e sz' els := hob
      obtain ⟨I', hI, hr'⟩ := freeze1 hr hob'
      have hv := hr.ts t
      have ht' : st.ss.t t = .vs o g sz lo hi := ht
      rw [ht'] at hv
      have ho := hr'.os o
      change ObR P Z.new w I' μ ν (upd st.ss.ob o _) o (upd st.ss.ob o _ o) at ho
      rw [upd_same] at ho
      obtain ⟨xs, hvr⟩ := ho
      have hlt : o < st.obs.length := obGet_live (by rw [hob]; simp)
      have hd : VRd w I' (.sl ((els.take hi).drop lo)) (a.tmps.getD t undef) := by
        generalize a.tmps.getD t undef = q at hv
        cases hv with
        | vs _ _ _ _ _ _ hl hh =>
          obtain ⟨rfl, q1, q2, q3⟩ := hh _ _ _ _ _ hob'
          exact view_VRd hvr q1 q2 q3
      have := hr'.setT t (.d (.sl ((els.take hi).drop lo))) (.d _ _ hd) trivial
      refine ⟨I', μ, ν, ?_⟩
      rw [ss_put, obGet_set _ hlt, List.length_set]
      exact this
    · injection h with h; subst h; exact ⟨I, μ, ν, hr⟩
    · cases h
  | mkv t e sz =>
    obtain ⟨I, μ, ν, hr⟩ := hr
    simp only [ghost] at h
    split at h <;> first | (cases h; done) | skip
    rename_i hsz
    obtain ⟨hinfo, hpos⟩ := szOk_ok hc hsz
    unfold mkvO at h
    split at h <;> first | (cases h; done) | skip
    rename_i ht
    injection h with h; subst h
    have ht' : st.ss.t t = .d .nils := ht
    have hv := hr.ts t
    rw [ht'] at hv
    have hnil := VR_nils hv
    obtain ⟨μ', ν', h1, h2, h3⟩ := nil_vec hr.moreN hinfo hpos (nid := st.obs.length) (by show _ < st.obs.length + 1; omega) (hr.dd _ (Nat.le_refl _))
    have := h1.setT t (.vs st.obs.length 0 sz 0 0) (by rw [hnil]; exact h2) h3.sc
    refine ⟨I, μ', ν', ?_⟩
    rw [ss_put, obGet_append, List.length_append]
    exact this
  | frb t off =>
    obtain ⟨I, μ, ν, hr⟩ := hr
    simp only [ghost] at h
    split at h <;> first | (cases h; done) | skip
    rename_i o k ht
    split at h <;> first | (cases h; done) | skip
    rename_i cs hob
    split at h <;> first | (cases h; done) | skip
    · rename_i q g sz lo hi hcell
      split at h <;> first | (cases h; done) | skip
      rename_i d x hf
      injection h with h; subst h
      obtain ⟨mv, fz, e, sz', els, hq, rfl, rfl⟩ := frzG_ok hf
      have hob' : st.ss.ob o = .box cs := hob
      have hq' : st.ss.ob q = .vec g mv fz e sz' els := hq
      obtain ⟨I', hI, hr'⟩ := freeze1 hr hq'
      have hne : o ≠ q := by rintro rfl; rw [hob'] at hq'; cases hq'
      have hoq : upd st.ss.ob q (.vec g mv true e sz' els) o = .box cs := by rw [upd_ne _ _ hne]; exact hob'
      have hlo : o < st.obs.length := obGet_live (by rw [hob]; simp)
      have hlq : q < st.obs.length := obGet_live (by rw [hq]; simp)
      have hos := hr'.os o
      change ObR P Z.new w I' μ ν (upd st.ss.ob q _) o (upd st.ss.ob q _ o) at hos
      rw [hoq] at hos
      obtain ⟨vs, te, b1, b2, b3, b4, b5, b6, b7⟩ := hos
      have hosq := hr'.os q
      change ObR P Z.new w I' μ ν (upd st.ss.ob q _) q (upd st.ss.ob q _ q) at hosq
      rw [upd_same] at hosq
      obtain ⟨xs, hvr⟩ := hosq
      have hlive : upd st.ss.ob q (.vec g mv true e sz' els) o ≠ .dead := by rw [hoq]; simp
      have hg := goes_upd (μ := μ) (ν := ν) (x := .box (cs.set (k + off) (.d (.sl ((els.take hi).drop lo))))) hlive (by simp) (by rw [hoq]; simp)
      have hr2 := hr'.turn (o := o) (x := .box (cs.set (k + off) (.d (.sl ((els.take hi).drop lo))))) (hr'.lt_n hlive) (fun b off h => ⟨h, rfl⟩) hg (fun o' b _ _ => ⟨rfl, fun _ h => h⟩) (fun o' _ => rfl) (by
          refine ⟨vs, te, b1, by simpa using b2, fun i cc v hc hv => ?_, fun cc hcc => ?_, b5, b6, b7⟩
          · rw [List.getElem?_set] at hc
            split at hc
            · rename_i e
              subst e
              split at hc <;> first | (cases hc; done) | skip
              injection hc with hc; subst hc
              refine .d _ _ ?_
              have := b3 _ _ _ hcell hv
              cases this with
              | vs _ _ _ _ _ _ hl hh =>
                obtain ⟨rfl, q1, q2, q3⟩ := hh _ _ _ _ _ (by rw [upd_same])
                exact view_VRd hvr q1 q2 q3
            · exact (b3 i cc v hc hv).mono0 (fun b off h => ⟨h, rfl⟩) hg (b4 cc (List.mem_of_getElem? hc))
          · rcases List.mem_or_eq_of_mem_set hcc with h | rfl
            · exact (b4 cc h).mono hg
            · trivial) (fun o' b hne' hb => by
          intro hb2
          exact hr'.sep o o' b (Ne.symm hne') (by show blkOf μ ν o (upd st.ss.ob q _ o) = _; rw [hoq]; exact hb2) hb) hr'.bel (fun b off h => .inl h) hr'.i2
      refine ⟨I', μ, ν, ?_⟩
      have e1 : (St.ss ⟨st.env, (st.obs.set q (.vec g mv true e sz' els)).set o (.box (cs.set (k + off) (.d (.sl ((els.take hi).drop lo)))))⟩) = { t := st.ss.t, ob := upd (upd st.ss.ob q (.vec g mv true e sz' els)) o (.box (cs.set (k + off) (.d (.sl ((els.take hi).drop lo))))), n := st.ss.n } := by
        simp only [St.ss, SS.mk.injEq, List.length_set, and_true, true_and]
        rw [obGet_set _ (by simpa using hlo), obGet_set _ hlq]
      rw [e1]
      exact hr2
    · injection h with h; subst h; exact ⟨I, μ, ν, hr⟩
  | mkb t off e sz =>
    obtain ⟨I, μ, ν, hr⟩ := hr
    simp only [ghost] at h
    split at h <;> first | (cases h; done) | skip
    rename_i hsz
    obtain ⟨hinfo, hpos⟩ := szOk_ok hc hsz
    split at h <;> first | (cases h; done) | skip
    rename_i o k ht
    split at h <;> first | (cases h; done) | skip
    rename_i cs hob
    split at h <;> first | (cases h; done) | skip
    rename_i hcell
    injection h with h; subst h
    have hob' : st.ss.ob o = .box cs := hob
    have hlo : o < st.obs.length := obGet_live (by rw [hob]; simp)
    obtain ⟨μ', ν', h1, h2, h3⟩ := nil_vec hr.moreN hinfo hpos (nid := st.obs.length) (by show _ < st.obs.length + 1; omega) (hr.dd _ (Nat.le_refl _))
    have hne : o ≠ st.obs.length := by omega
    have hoq : upd st.ss.ob st.obs.length (.vec 0 true false e sz []) o = .box cs := by rw [upd_ne _ _ hne]; exact hob'
    have hos := h1.os o
    change ObR P Z.new w I μ' ν' (upd st.ss.ob _ _) o (upd st.ss.ob _ _ o) at hos
    rw [hoq] at hos
    obtain ⟨vs, te, b1, b2, b3, b4, b5, b6, b7⟩ := hos
    have hlive : upd st.ss.ob st.obs.length (.vec 0 true false e sz []) o ≠ .dead := by rw [hoq]; simp
    have hg := goes_upd (μ := μ') (ν := ν') (x := .box (cs.set (k + off) (.vs st.obs.length 0 sz 0 0))) hlive (by simp) (by rw [hoq]; simp)
    have hr2 := h1.turn (o := o) (x := .box (cs.set (k + off) (.vs st.obs.length 0 sz 0 0))) (h1.lt_n hlive) (fun b off h => ⟨h, rfl⟩) hg (fun o' b _ _ => ⟨rfl, fun _ h => h⟩) (fun o' _ => rfl) (by
        refine ⟨vs, te, b1, by simpa using b2, fun i cc v hc hv => ?_, fun cc hcc => ?_, b5, b6, b7⟩
        · rw [List.getElem?_set] at hc
          split at hc
          · rename_i e
            subst e
            split at hc <;> first | (cases hc; done) | skip
            injection hc with hc; subst hc
            have hn := VR_nils (b3 _ _ _ hcell hv)
            rw [hn]
            exact h2.mono0 (fun b off h => ⟨h, rfl⟩) hg h3
          · exact (b3 i cc v hc hv).mono0 (fun b off h => ⟨h, rfl⟩) hg (b4 cc (List.mem_of_getElem? hc))
        · rcases List.mem_or_eq_of_mem_set hcc with h | rfl
          · exact (b4 cc h).mono hg
          · exact h3.mono hg) (fun o' b hne' hb => by
        intro hb2
        exact h1.sep o o' b (Ne.symm hne') (by show blkOf μ' ν' o (upd st.ss.ob _ _ o) = _; rw [hoq]; exact hb2) hb) h1.bel (fun b off h => .inl h) h1.i2
    refine ⟨I, μ', ν', ?_⟩
    have e1 : (St.ss ⟨st.env, st.obs.set o (.box (cs.set (k + off) (.vs st.obs.length 0 sz 0 0))) ++ [.vec 0 true false e sz []]⟩) = { t := st.ss.t, ob := upd (upd st.ss.ob st.obs.length (.vec 0 true false e sz [])) o (.box (cs.set (k + off) (.vs st.obs.length 0 sz 0 0))), n := st.ss.n + 1 } := by
      simp only [St.ss, SS.mk.injEq, List.length_append, List.length_set, List.length_cons, List.length_nil, and_true, true_and]
      rw [obGet_append, obGet_set _ hlo, List.length_set, upd_comm _ _ _ hne]
    rw [e1]
    exact hr2

/-- Slices' numbers begin anew. -/
theorem norm_ok {st : St} (hr : RelE P Z nt st.ss a w) : RelE P Z nt (normSt st).ss a w := by
  obtain ⟨I, μ, ν, hr⟩ := hr
  have hget : ∀ o, (normSt st).ss.ob o = packO (fun o => o) st.ss.ob true (st.ss.ob o) := fun o => by
    show obGet (st.obs.map _) o = _
    simp only [obGet, List.getD_eq_getElem?_getD, List.getElem?_map]
    show _ = packO _ _ _ (obGet st.obs o)
    simp only [obGet, List.getD_eq_getElem?_getD]
    cases st.obs[o]? <;> rfl
  have henv : ∀ i, (normSt st).ss.t i = (st.ss.t i).ren (fun o => o) st.ss.ob fun _ => 0 := fun i => by
    show envGet (st.env.map _) i = (envGet st.env i).ren _ _ _
    have : ∀ (env : List (Nat × AV)), envGet (env.map fun p => (p.1, p.2.ren (fun o => o) (obGet st.obs) fun _ => 0)) i = (envGet env i).ren (fun o => o) (obGet st.obs) fun _ => 0 := by
      intro env
      induction env with
      | nil => rfl
      | cons p env ih =>
        obtain ⟨j, x⟩ := p
        simp only [List.map_cons, envGet]
        split
        · rfl
        · exact ih
    exact this st.env
  have hleads : ∀ o, Leads (fun o => o) (fun _ => 0) st.ss.ob (normSt st).ss.ob μ μ ν ν o := fun o => by
    refine ⟨rfl, rfl, fun hd => ?_, fun g mv fz e sz els ho => ?_⟩
    · rw [hget]; exact packO_live hd
    · rw [hget, ho]; exact ⟨mv, fz, by simp [packO]⟩
  have hblk : ∀ o, blkOf μ ν o ((normSt st).ss.ob o) = blkOf μ ν o (st.ss.ob o) := fun o => by
    rw [hget]
    generalize st.ss.ob o = x
    cases x <;> rfl
  refine ⟨I, μ, ν, { hr with ts := fun i => ?_, sc := fun i => ?_, os := fun o => ?_, dd := fun o h => ?_, sep := fun o o' b hne h1 h2 => ?_, go := ⟨fun o hz => ?_, fun o g mv fz e sz els hz => ?_⟩ }⟩
  · rw [hget]
    refine ObR.ren (f := fun o => o) (gn := fun _ => 0) (ob := st.ss.ob) (hr.os o) (.inl rfl) (fun _ _ _ _ _ _ _ => rfl) (fun _ _ => rfl) (fun _ _ => rfl) (fun cs _ cc _ q _ => hleads q) (fun b hb => (hr.blk_lt hb).2) ?_
    have hos := hr.os o
    generalize st.ss.ob o = x at hos
    cases x with
    | dead => exact .inr (.inr (.inr rfl))
    | box cs => exact .inl ⟨cs, rfl, rfl⟩
    | vec g mv fz e sz els => exact .inr (.inl ⟨g, mv, fz, e, sz, els, _, _, rfl, rfl⟩)
    | map es => exact .inr (.inr (.inl ⟨es, rfl, rfl⟩))
    | iter q l => exact hos.elim
  · rw [hget, hr.dd o (by have : (normSt st).ss.n = st.ss.n := by simp [normSt, St.ss]
                          rw [this] at h; exact h)]
    rfl
  · rw [hblk] at h1 h2; exact hr.sep o o' b hne h1 h2
  · rw [henv]; exact ((hr.ts i).ren (hr.sc i) fun o _ => hleads o).1
  · rw [henv]; exact ((hr.ts i).ren (hr.sc i) fun o _ => hleads o).2
  · obtain ⟨h1, h2⟩ := hr.go.live o hz
    exact ⟨by rw [hget]; exact packO_live h1, h2⟩
  · obtain ⟨g', mv', fz', els', h1, h2⟩ := hr.go.vec o g mv fz e sz els hz
    exact ⟨0, mv', fz', els', by rw [hget, h1]; simp [packO], h2⟩
end
end Go.Proofs.YteidaaobppjlbaaV
