/- Operations that lay an object or turn one. -/
import Derived.Test.YteidaaobppjlbaaVx6
set_option linter.unusedVariables false
set_option linter.unusedSimpArgs false
namespace Go.Proofs.YteidaaobppjlbaaV
open Go.RowKit

section
variable {P : Program} {c : Ctx} {Z : Zst} {nt : Nat} {s : SS} {a : Act} {w : World} {I : Nat → Nat → Prop} {μ : Nat → Nat} {ν : Nat → Value}

theorem cells_d (x : D) : (AV.d x).cells = x.cells.map .d := by cases x <;> rfl

theorem cellsAV_VR {y : AV} {u : Value} (h : y.cells.all AV.one = true) (hv : VR w I μ ν s.ob y u) (hs : y.sc s.ob) :
    ∃ us : List Value, u.cells.toList = us ∧ us.length = y.cells.length ∧ (∀ (i : Nat) (c : AV) (v : Value), y.cells[i]? = some c → us[i]? = some v → VR w I μ ν s.ob c v) ∧ (∀ v ∈ us, v.oneCell' = true) ∧ ∀ c ∈ y.cells, c.sc0 s.ob := by
  have one : ∀ {y : AV} {u : Value}, VR w I μ ν s.ob y u → y.cells = [y] → u.cells = #[u] → u.oneCell' = true → y.sc0 s.ob →
      ∃ us : List Value, u.cells.toList = us ∧ us.length = y.cells.length ∧ (∀ (i : Nat) (c : AV) (v : Value), y.cells[i]? = some c → us[i]? = some v → VR w I μ ν s.ob c v) ∧ (∀ v ∈ us, v.oneCell' = true) ∧ ∀ c ∈ y.cells, c.sc0 s.ob := by
    intro y u hv h1 h2 h3 h4
    refine ⟨[u], by rw [h2], by rw [h1]; rfl, fun i c v hc hu => ?_, by simpa using h3, by rw [h1]; simpa using h4⟩
    rw [h1] at hc
    cases i with
    | zero => simp at hc hu; subst hc; subst hu; exact hv
    | succ i => simp at hc
  cases y with
  | d x =>
    obtain ⟨us, h1, h2, h3, h4⟩ := cells_toD (s := s) (x := .d x) (d := x) rfl hv
    rw [cells_d]
    refine ⟨us, h1, by simpa using h2, fun i c v hc hu => ?_, h4, fun c hc => ?_⟩
    · rw [List.getElem?_map] at hc
      cases hx : x.cells[i]? with
      | none => simp [hx] at hc
      | some d => simp [hx] at hc; subst hc; exact .d _ _ (h3 i d v hx hu)
    · obtain ⟨d, _, rfl⟩ := List.mem_map.1 hc; trivial
  | ptr o off => cases hv; exact one (.ptr o off) rfl rfl rfl hs
  | ep cs => cases hv with | ep _ b off u h1 h2 => exact one (.ep cs b off u h1 h2) rfl rfl rfl trivial
  | vs o g sz lo hi =>
    cases hv with | vs _ _ _ _ _ _ h1 h2 =>
      obtain ⟨A, c, rfl, h3⟩ := h1
      exact one (.vs o g sz lo hi _ ⟨A, c, rfl, h3⟩ h2) rfl rfl rfl hs
  | pv o g j sz sub =>
    cases hv with | pv _ _ _ _ _ _ h1 h2 =>
      obtain ⟨b, q, rfl⟩ := h1
      exact one (.pv o g j sz sub _ ⟨b, q, rfl⟩ h2) rfl rfl rfl hs
  | mp o => cases hv; exact one (.mp o) rfl rfl rfl hs
  | nilm => cases hv; exact one .nilm rfl rfl rfl trivial
  | nilp => cases hv; exact one .nilp rfl rfl rfl trivial
  | fn g x y => cases hv; exact one (.fn g x y) rfl rfl rfl hs
  | nilf => cases hv; exact one .nilf rfl rfl rfl trivial
  | tup l => simp [AV.cells, AV.one] at h
  | it o => cases hv; exact one (.it o) rfl rfl rfl hs
  | junk => simp [AV.cells, AV.one] at h

theorem goes_new {ob : Nat → AObj} {nid : Nat} (hd : ob nid = .dead) (x : AObj) (p : Nat) (v : Value) : Goes ob (upd ob nid x) μ (upd μ nid p) ν (upd ν nid v) :=
  ⟨fun o ho => by
    have : o ≠ nid := by rintro rfl; exact ho hd
    rw [upd_ne _ _ this, upd_ne _ _ this]; exact ⟨ho, rfl⟩, fun o g mv fz e sz els ho => by
    have : o ≠ nid := by rintro rfl; rw [hd] at ho; cases ho
    rw [upd_ne _ _ this, upd_ne _ _ this]; exact ⟨g, mv, fz, els, ho, Nat.le_refl _, id, fun _ => ⟨rfl, rfl⟩⟩⟩
theorem goes_upd {ob : Nat → AObj} {o : Nat} {x : AObj} (h : ob o ≠ .dead) (hx : x ≠ .dead) (hv : ∀ g mv fz e sz els, ob o = .vec g mv fz e sz els → ∃ fz' els', x = .vec g mv fz' e sz els' ∧ els'.length = els.length) : Goes ob (upd ob o x) μ μ ν ν :=
  ⟨fun o' h' => by
    by_cases e : o' = o
    · subst e; rw [upd_same]; exact ⟨hx, rfl⟩
    · rw [upd_ne _ _ e]; exact ⟨h', rfl⟩, fun o' g mv fz e sz els h' => by
    by_cases e : o' = o
    · subst e
      obtain ⟨fz', els', h1, h2⟩ := hv _ _ _ _ _ _ h'
      exact ⟨g, mv, fz', els', by rw [upd_same]; exact h1, Nat.le_refl _, id, fun _ => ⟨rfl, h2⟩⟩
    · rw [upd_ne _ _ e]; exact ⟨g, mv, fz, els, h', Nat.le_refl _, id, fun _ => ⟨rfl, rfl⟩⟩⟩
theorem blk_upd {o o' : Nat} (hne : o' ≠ o) (p : Nat) (v : Value) (x : AObj) : blkOf (upd μ o p) (upd ν o v) o' x = blkOf μ ν o' x := by
  cases x <;> simp [blkOf, upd_ne _ _ hne]

theorem keep_alloc (w : World) (o : Obj) : Keep (fun b => w.heap.size ≤ b) w (w.alloc o) := ⟨rfl, rfl, rfl, by simp, fun k hk _ => heap_alloc_old w _ k hk⟩
theorem Rel.keepAbove (hr : Rel P Z nt s a w I μ ν) {w' : World} (hk : Keep (fun b => w.heap.size ≤ b) w w') : Keep Z.N Z.w w' := hr.keep hk fun b hb h => absurd hb (Nat.not_lt.2 h)

/-- A new block, a box or a map. -/
theorem lay_new (hr : Rel P Z nt s a w I μ ν) {nid : Nat} (hn : nid < s.n) (hd : s.ob nid = .dead) (x : AObj) (ob : Obj) (hblk : ∀ μ' ν', blkOf μ' ν' nid x = some (μ' nid))
    (hx : ∀ μ' ν', μ' nid = w.heap.size → Goes s.ob (upd s.ob nid x) μ μ' ν ν' → (∀ b o, I b o → I b o ∧ (w.alloc ob).cell? ⟨b, o, none⟩ = w.cell? ⟨b, o, none⟩) → ObR P Z.new (w.alloc ob) I μ' ν' (upd s.ob nid x) nid x) :
    Rel P Z nt { s with ob := upd s.ob nid x } a (w.alloc ob) I (upd μ nid w.heap.size) (upd ν nid undef) := by
  have hI : ∀ b o, I b o → I b o ∧ (w.alloc ob).cell? ⟨b, o, none⟩ = w.cell? ⟨b, o, none⟩ := fun b o h => ⟨h, World.cell?_alloc_lt w _ ⟨b, o, none⟩ (hr.i2 b o h)⟩
  have hg := goes_new (μ := μ) (ν := ν) hd x w.heap.size undef
  refine hr.turn hn hI hg (fun o' b hne hb => ⟨heap_alloc_old w _ b (hr.blk_lt hb).1, fun off h => h⟩) (fun o' hne => blk_upd hne _ _ _) (hx _ _ (upd_same _ _ _) hg hI) (fun o' b hne hb => ?_) (hr.keepAbove (keep_alloc w _)) (fun b off h => .inl h) (fun b off h => by have := hr.i2 b off h; simp; omega)
  rw [hblk, upd_same]
  simp only [ne_eq, Option.some.injEq]
  intro e; have := (hr.blk_lt hb).1; omega
theorem new_above (hr : Rel P Z nt s a w I μ ν) {b : Nat} (h : w.heap.size ≤ b) : Z.new b := .inr (Nat.le_trans hr.bel.size h)
theorem lay_box (hr : Rel P Z nt s a w I μ ν) {nid : Nat} (hn : nid < s.n) (hd : s.ob nid = .dead) {cs : List AV} {vs : List Value} (t : TypeId) (hl : cs.length = vs.length)
    (hv : ∀ (i : Nat) (c : AV) (v : Value), cs[i]? = some c → vs[i]? = some v → VR w I μ ν s.ob c v) (hs : ∀ c ∈ cs, c.sc0 s.ob) (h1 : ∀ v ∈ vs, v.oneCell' = true) :
    Rel P Z nt { s with ob := upd s.ob nid (.box cs) } a (w.alloc (.cells vs.toArray t)) I (upd μ nid w.heap.size) (upd ν nid undef) := by
  refine lay_new hr hn hd (.box cs) _ (fun _ _ => rfl) fun μ' ν' hμ hg hI => ?_
  refine ⟨vs, t, ?_, hl, fun i c v hc hv' => (hv i c v hc hv').mono0 hI hg (hs c (List.mem_of_getElem? hc)), fun c hc => (hs c hc).mono hg, h1, fun off h => ?_, ?_⟩
  · rw [hμ]; exact heap_alloc_new w _
  · rw [hμ] at h; have := hr.i2 _ _ h; simp at this
  · rw [hμ]; exact new_above hr (Nat.le_refl _)

theorem put_eff (s : SS) (dst : Option Nat) (v : AV) (o : Nat) (x : AObj) : s.put dst v [(o, x)] = ({ s with ob := upd s.ob o x } : SS).put dst v [] := rfl

/-- A new slice of the call's own. -/
theorem lay_vec (hr : Rel P Z nt s a w I μ ν) {nid : Nat} (hn : nid < s.n) (hd : s.ob nid = .dead) {w' : World} {I' : Nat → Nat → Prop} {v : Value} {fz : Bool} {e : TypeId} {sz : Nat} {els : List D} {xs : List Value} (hv : VecR P Z.new w' I' v fz e sz els xs)
    (hb : Keep (fun b => w.heap.size ≤ b) w w') (hI : ∀ b o, I b o → I' b o) (hI' : ∀ b o, I' b o → I b o ∨ w.heap.size ≤ b ∧ b < w'.heap.size) (hnew : ∀ b, v.ownBlock = some b → w.heap.size ≤ b) (g : Nat) (mv : Bool) :
    Rel P Z nt { s with ob := upd s.ob nid (.vec g mv fz e sz els) } a w' I' (upd μ nid 0) (upd ν nid v) := by
  have hcell : ∀ b o, I b o → w'.cell? ⟨b, o, none⟩ = w.cell? ⟨b, o, none⟩ := fun b o h => World.cell?_of_block (hb.block b (hr.i2 b o h) (Nat.not_le.2 (hr.i2 b o h)))
  have hI1 : ∀ b o, I b o → I' b o ∧ w'.cell? ⟨b, o, none⟩ = w.cell? ⟨b, o, none⟩ := fun b o h => ⟨hI b o h, hcell b o h⟩
  have hg := goes_new (μ := μ) (ν := ν) hd (.vec g mv fz e sz els) 0 v
  refine hr.turn hn hI1 hg (fun o' b hne hbk => ⟨hb.block b (hr.blk_lt hbk).1 (Nat.not_le.2 (hr.blk_lt hbk).1), fun off h => ?_⟩) (fun o' hne => blk_upd hne _ _ _) ⟨xs, by rw [upd_same]; exact hv⟩ (fun o' b hne hbk => ?_) (hr.keepAbove hb) (fun b off h => ?_) (fun b off h => ?_)
  · rcases hI' b off h with h | h
    · exact h
    · have := (hr.blk_lt hbk).1; omega
  · simp only [blkOf, upd_same, ne_eq]
    intro hv
    have := hnew b hv
    have := (hr.blk_lt hbk).1
    omega
  · rcases hI' b off h with h | h
    · exact .inl h
    · exact .inr (new_above hr h.1)
  · rcases hI' b off h with h | h
    · exact Nat.lt_of_lt_of_le (hr.i2 b off h) hb.size
    · exact h.2

theorem take_splice {l us : List Value} {k m : Nat} (h : k + us.length ≤ m) (hm : m ≤ l.length) : (l.take k ++ us ++ l.drop (k + us.length)).take m = (l.take m).take k ++ us ++ (l.take m).drop (k + us.length) := by
  rw [List.take_take, Nat.min_eq_left (by omega), List.append_assoc, List.append_assoc, List.take_append, List.length_take, Nat.min_eq_left (by omega), List.take_of_length_le (by rw [List.length_take]; omega)]
  congr 1
  rw [List.take_append, List.take_of_length_le (by omega)]
  congr 1
  rw [List.drop_take, show m - k - us.length = m - (k + us.length) by omega]

/-- A store. -/
theorem store_ok (hc : COk P c) (hr : Rel P Z nt s a w I μ ν) {t : TypeId} {x y : AV} {u v : Value} {z : AV} {e : List (Nat × AObj)} (hx : VR w I μ ν s.ob x u) (hy : VR w I μ ν s.ob y v) (hsy : y.sc s.ob) (h : storeF c.T t x y s.ob = .val z e) :
    z = .junk ∧ ∃ w' o q, (Instr.storeAt t u v).run P w = .ok () w' ∧ e = [(o, q)] ∧ s.ob o ≠ .dead ∧ Rel P Z nt { s with ob := upd s.ob o q } a w' I μ ν := by
  unfold storeF at h
  split at h
  · cases h
  · rename_i i hi
    have ht := hc.T.ok hi
    split at h
    · rename_i o k
      have ho := hr.os o
      unfold boxStore at h
      split at h
      · rename_i cs hob
        rw [hob] at ho
        obtain ⟨vs, te, h1, h3, h4, h5, h6, h7, h8⟩ := ho
        split at h <;> first | (cases h; done) | skip
        rename_i hcond
        obtain ⟨k1, k2, k3⟩ := hcond
        injection h with hz he
        subst hz; subst he
        obtain ⟨us, g1, g2, g3, g4, g5⟩ := cellsAV_VR k3 hy hsy
        cases hx
        have hus : us.length = i.size := by omega
        have hst := run_storeCells_at P (μ o) k te us 0 vs.toArray w h1 (by simp; omega) g4
        simp only [Nat.add_zero] at hst
        refine ⟨rfl, w.setRow (μ o) (vs.take k ++ us ++ vs.drop (k + us.length)).toArray, o, _, ?_, rfl, by rw [hob]; simp, ?_⟩
        · have hsz : v.cells.size = i.size := by rw [← Array.length_toList, g1, hus]
          simp only [Instr.storeAt, Instr.sureAddr, storeVar, Sem.run_bind, Sem.run_pure, Result.andThen_ok, ht.sizeOf, hsz, ne_eq, not_true_eq_false, if_false, g1]
          rw [hst]
        · obtain ⟨s1, s2⟩ := splice_VR (R := VR w I μ ν s.ob) (cs := cs) (ds := y.cells) (vs := vs) (us := us) (k := k) h3 g2.symm (by omega) h4 g3
          rw [k1] at s1 s2
          have hI : ∀ b off, I b off → I b off ∧ (w.setRow (μ o) (vs.take k ++ us ++ vs.drop (k + us.length)).toArray).cell? ⟨b, off, none⟩ = w.cell? ⟨b, off, none⟩ := fun b off hh =>
            ⟨hh, cell_setRow_other w _ _ _ (by rintro rfl; exact h7 _ hh)⟩
          have hlive : s.ob o ≠ .dead := by rw [hob]; simp
          have hg : Goes s.ob (upd s.ob o (.box (cs.take k ++ y.cells ++ cs.drop (k + i.size)))) μ μ ν ν := goes_upd hlive (by simp) (by rw [hob]; simp)
          have hin : ∀ cc ∈ cs.take k ++ y.cells ++ cs.drop (k + i.size), cc.sc0 s.ob := fun cc hm => by
            rcases List.mem_append.1 hm with hm | hm
            · rcases List.mem_append.1 hm with hm | hm
              · exact h5 cc (List.mem_of_mem_take hm)
              · exact g5 cc hm
            · exact h5 cc (List.mem_of_mem_drop hm)
          refine hr.turn (hr.lt_n hlive) hI hg (fun o' b hne hb => ⟨setRow_other w _ _ _ ?_, fun off hh => hh⟩) (fun o' hne => rfl) ?_ (fun o' b hne hb => ?_) ?_ (fun b off h => .inl h) (fun b off hh => by simpa using hr.i2 b off hh)
          · rintro rfl
            exact hr.sep o o' _ (Ne.symm hne) (by rw [hob]; rfl) hb
          · refine ⟨_, te, setRow_heap w _ _ _ te (0, 0) h1, s1, fun j cc vv hc1 hv1 => (s2 j cc vv hc1 hv1).mono0 hI hg (hin cc (List.mem_of_getElem? hc1)), fun cc hcc => AV.sc0.mono hg (hin cc hcc), fun vv hvv => ?_, h7, h8⟩
            rcases List.mem_append.1 hvv with hm | hm
            · rcases List.mem_append.1 hm with hm | hm
              · exact h6 vv (List.mem_of_mem_take hm)
              · exact g4 vv hm
            · exact h6 vv (List.mem_of_mem_drop hm)
          · intro e
            exact hr.sep o o' b (Ne.symm hne) (by rw [hob]; exact e) hb
          · exact hr.keep (N := fun b => b = μ o) ⟨rfl, rfl, rfl, by simp, fun q hq hn => setRow_other w _ _ _ hn⟩ fun b _ hb => by subst hb; exact h8
      · cases h
    · rename_i o g j sz sub
      have ho := hr.os o
      unfold pvStore at h
      split at h
      · rename_i g' mv fz te sz' els hob
        rw [hob] at ho
        obtain ⟨xs, hvr⟩ := ho
        split at h <;> first | (cases h; done) | skip
        rename_i hcond
        obtain ⟨rfl, rfl, k3⟩ := hcond
        split at h <;> first | (cases h; done) | skip
        rename_i el' hel'
        injection h with hz he
        subst hz; subst he
        unfold pelSet at hel'
        split at hel' <;> first | (cases hel'; done) | skip
        rename_i el ds hj hds
        split at hel' <;> first | (cases hel'; done) | skip
        rename_i hcond
        obtain ⟨k1, k2⟩ := hcond
        injection hel' with hel'
        subst hel'
        cases hx with
        | pv _ _ _ _ _ _ hl hh =>
          obtain ⟨rfl, hjl, rfl⟩ := hh _ _ _ _ _ hob
          obtain ⟨b, hb, hcv, hcell⟩ := hvr.blk (by omega)
          obtain ⟨us, g1, g2, g3, g4, g5⟩ := cellsAV_VR k3 hy hsy
          obtain ⟨d1, d2⟩ := toDs_get hds
          have hel : el.cells.length = sz' := hvr.size el (List.mem_of_getElem? hj)
          have hxl : xs.length = els.length * sz' := hvr.own.1
          have hle : j * sz' + sz' ≤ xs.length := by
            rw [hxl]
            calc j * sz' + sz' = (j + 1) * sz' := by rw [Nat.add_mul]; omega
              _ ≤ els.length * sz' := Nat.mul_le_mul_right _ hjl
          have hus : us.length = i.size := by omega
          have hdone : ∀ d ∈ ds, d.cells = [d] := fun d hd => by
            obtain ⟨q, hq⟩ := List.getElem?_of_mem hd
            obtain ⟨cc, e1, e2⟩ := d2 q d hq
            have hone := List.all_eq_true.1 k3 cc (List.mem_of_getElem? e1)
            cases cc <;> simp [AV.toD, AV.one] at e2 hone <;> (try subst e2) <;> first | rfl | (rename_i x; cases x <;> first | rfl | simp [AV.one] at hone)
          have hs0 := hvr.pos
          have hjoin : (joinD el sub ds).cells = el.cells.take sub ++ ds ++ el.cells.drop (sub + ds.length) := by
            unfold joinD
            split
            · rfl
            · rename_i hna
              have hc1 : el.cells = [el] := by cases el <;> first | rfl | exact absurd rfl (hna _)
              have hs1 : sz' = 1 := by rw [← hel, hc1]; rfl
              split
              · rename_i x
                have hx1 := hdone x (by simp)
                simp at k1
                have : sub = 0 := by omega
                subst this
                simp [hc1, hx1]
              · rename_i hnx
                have hi1 : i.size = 0 ∨ i.size = 1 := by omega
                rcases hi1 with hi0 | hi1
                · have : ds = [] := List.eq_nil_of_length_eq_zero (by omega)
                  subst this
                  simp [List.take_append_drop]
                · exfalso
                  match ds, k1 with
                  | [x], _ => exact hnx x rfl
                  | [], q => simp at q; omega
                  | _ :: _ :: _, q => simp at q; omega
          obtain ⟨fs1, fs2⟩ := flat_split hvr.size hj
          have hjn : (joinD el sub ds).cells.length = sz' := by rw [hjoin]; simp [hel]; omega
          have h4' : ∀ e ∈ els.set j (joinD el sub ds), e.cells.length = sz' := fun e he => by
            rcases List.mem_or_eq_of_mem_set he with he | rfl
            · exact hvr.size e he
            · exact hjn
          have hflat : D.flat (els.set j (joinD el sub ds)) = (D.flat els).take (j * sz' + sub) ++ ds ++ (D.flat els).drop (j * sz' + sub + ds.length) := by
            obtain ⟨fs3, fs4⟩ := flat_split h4' (show (els.set j (joinD el sub ds))[j]? = some (joinD el sub ds) by simp [hjl])
            have e1 : (els.set j (joinD el sub ds)).take j = els.take j := by rw [List.take_set_of_le (Nat.le_refl j)]
            have e2 : (els.set j (joinD el sub ds)).drop (j + 1) = els.drop (j + 1) := by rw [List.drop_set_of_lt (Nat.lt_succ_self j)]
            rw [fs3, e1, e2, hjoin, fs1]
            have t1 : (D.flat (els.take j) ++ (el.cells ++ D.flat (els.drop (j + 1)))).take (j * sz' + sub) = D.flat (els.take j) ++ el.cells.take sub := by
              rw [← fs2, List.take_length_add_append]
              congr 1
              rw [List.take_append_of_le_length (by omega)]
            have t2 : (D.flat (els.take j) ++ (el.cells ++ D.flat (els.drop (j + 1)))).drop (j * sz' + sub + ds.length) = el.cells.drop (sub + ds.length) ++ D.flat (els.drop (j + 1)) := by
              rw [← fs2, Nat.add_assoc, List.drop_length_add_append, List.drop_append_of_le_length (by omega)]
            rw [t1, t2]
            simp [List.append_assoc]
          rcases hvr.own.2 with ⟨_, h0⟩ | ⟨b', cap, cur, hνv, _, hheap, hncap, hcapm, hcs, htake⟩
          · omega
          have hbb : b' = b := by rw [hνv] at hb; simp [Value.ownBlock] at hb; exact hb
          subst hbb
          have hcur : cur = cur.toList.toArray := by simp
          have hfit : els.length * sz' ≤ cur.toList.length := by
            have e0 : cur.toList.length = cap * sz' := by rw [← hcs]; simp
            rw [e0]; exact Nat.mul_le_mul_right _ hncap
          have hst := run_storeCells_at P b' (j * sz' + sub) te us 0 cur.toList.toArray w (by rw [← hcur]; exact hheap) (by simp; simp at hfit; omega) g4
          simp only [Nat.add_zero] at hst
          refine ⟨rfl, w.setRow b' (cur.toList.take (j * sz' + sub) ++ us ++ cur.toList.drop (j * sz' + sub + us.length)).toArray, o, _, ?_, rfl, by rw [hob]; simp, ?_⟩
          · have hvs : v.cells.size = i.size := by rw [← Array.length_toList, g1, hus]
            rw [hcv]
            simp only [Instr.storeAt, Instr.sureAddr, storeVar, Sem.run_bind, Sem.run_pure, Result.andThen_ok, ht.sizeOf, hvs, ne_eq, not_true_eq_false, if_false, g1]
            rw [hst]
          · have hdv : ∀ (q : Nat) (d : D) (u : Value), ds[q]? = some d → us[q]? = some u → VRd w I d u := fun q d u hd hu => by
              obtain ⟨cc, e1, e2⟩ := d2 q d hd
              exact toD_VR e2 (g3 q cc u e1 hu)
            have hfl : (D.flat els).length = xs.length := by rw [length_flat hvr.size, hxl]
            obtain ⟨s1, s2⟩ := splice_VR (R := VRd w I) (cs := D.flat els) (ds := ds) (vs := xs) (us := us) (k := j * sz' + sub) hfl (by omega) (by omega) hvr.rd hdv
            rw [← hflat] at s1 s2
            have hnI : ∀ off, ¬ I b' off := hvr.free rfl b' hb
            have hI : ∀ b off, I b off → I b off ∧ (w.setRow b' (cur.toList.take (j * sz' + sub) ++ us ++ cur.toList.drop (j * sz' + sub + us.length)).toArray).cell? ⟨b, off, none⟩ = w.cell? ⟨b, off, none⟩ := fun b off hh =>
              ⟨hh, cell_setRow_other w _ _ _ (by rintro rfl; exact hnI _ hh)⟩
            have hlive : s.ob o ≠ .dead := by rw [hob]; simp
            have hg : Goes s.ob (upd s.ob o (.vec g' mv false te sz' (els.set j (joinD el sub ds)))) μ μ ν ν := goes_upd hlive (by simp) (fun g2 mv2 fz2 e2 sz2 els2 h2 => by
              rw [hob] at h2
              injection h2 with e1 e2 e3 e4 e5 e6
              subst e1; subst e2; subst e4; subst e5; subst e6
              exact ⟨false, _, rfl, by simp⟩)
            refine hr.turn (hr.lt_n hlive) hI hg (fun o' b hne hbk => ⟨setRow_other w _ _ _ ?_, fun off hh => hh⟩) (fun o' hne => rfl) ⟨xs.take (j * sz' + sub) ++ us ++ xs.drop (j * sz' + sub + us.length), ?_⟩ (fun o' b hne hbk => ?_) ?_ (fun b off h => .inl h) (fun b off hh => by simpa using hr.i2 b off hh)
            · rintro rfl
              exact hr.sep o o' _ (Ne.symm hne) (by rw [hob]; exact hb) hbk
            · refine { info := hvr.info, pos := hvr.pos, own := ⟨?_, .inr ⟨b', cap, _, by simpa using hνv, Nat.zero_le _, setRow_heap w _ _ _ te (0, 0) hheap, by simpa using hncap, hcapm, ?_, ?_⟩⟩, size := h4', rd := fun q d vv hd hv => (s2 q d vv hd hv).mono hI, one := fun vv hvv => ?_, new := hvr.new, spare := fun b2 hb2 off hoff => hvr.spare b2 hb2 off (by simpa using hoff), free := fun _ => hvr.free rfl, froz := fun h => by cases h }
              · simp only [List.length_set, ← hxl]; simp; omega
              · simp; simp at hfit; omega
              · simp only [List.length_set]
                rw [take_splice (by omega) (by omega), htake]
              · rcases List.mem_append.1 hvv with hm | hm
                · rcases List.mem_append.1 hm with hm | hm
                  · exact hvr.one vv (List.mem_of_mem_take hm)
                  · exact g4 vv hm
                · exact hvr.one vv (List.mem_of_mem_drop hm)
            · intro e
              exact hr.sep o o' b (Ne.symm hne) (by rw [hob]; exact e) hbk
            · exact hr.keep (N := fun b => b = b') ⟨rfl, rfl, rfl, by simp, fun q hq hn => setRow_other w _ _ _ hn⟩ fun b2 _ hb2 => by subst hb2; exact hvr.new _ hb
      · cases h
    · cases h
end

end Go.Proofs.YteidaaobppjlbaaV
