/- The interpreter is sound: what it hands back, the call hands back. -/
import Derived.Test.YteidaaobppjlbaaVx19
set_option linter.unusedVariables false
set_option linter.unusedSimpArgs false
namespace Go.Proofs.YteidaaobppjlbaaV
open Go.RowKit

structure PgOk (P : Program) (C : Pg) : Prop where
  T : TOk P C.T
  Q : ∀ t ks, C.Q t = some ks → EqOk P t ks
  A : ∀ f xs obs s, C.A f xs obs = some s → (P.funcs[f]?).bind slimFn = some s.erase
  X : ∀ f xs obs y obs', C.X f xs obs = some (y, obs') → Good P f xs obs y obs'
  mo : P.follows .mixedOrders = true

def TaskOk (P : Program) (C : Pg) : Task → Out → Prop
  | .exec c st, .ex e st' => ExecOk P c st (e, st')
  | .loop b st, .ex e st' => LoopOk P b st (e, st')
  | .ops B i nid acc l st, .st st' => OpsOk ⟨C.T, C.Q⟩ (Good P) B i nid acc l st st'
  | .run f xs obs, .av y obs' => Good P f xs obs y obs'
  | _, _ => False

section
variable {P : Program} {C : Pg}

theorem ExecOk.pre {g : Gh} {c : SC} {st st' : St} {out : Ex × St} (hC : PgOk P C) (hg : ghost C.T g st = some st') (h : ExecOk P c st' out) : ExecOk P (.pre g c) st out := by
  intro code nt hs Z n0 ht hZ Post a w hr hQ
  simp only [tidyB, Bool.and_eq_true] at ht
  refine h code nt hs Z n0 ht.2 hZ Post a w (ghost_ok (c := ⟨C.T, C.Q⟩) ⟨hC.T, hC.Q⟩ hr hg fun keep z m e o ho => ?_) hQ
  subst e
  simp only [Gh.keeps, Bool.and_eq_true, decide_eq_true_eq] at ht
  have := hZ o ho
  omega
theorem ExecOk.post {g : Gh} {c : SC} {st st' st2 : St} {e : Ex} (hC : PgOk P C) (h : ExecOk P c st (e, st')) (hg : ghostE C.T g e st' = some st2) : ExecOk P (.post c g) st (e, st2) := by
  intro code nt hs Z n0 ht hZ Post a w hr hQ
  simp only [tidyB, Bool.and_eq_true] at ht
  refine h code nt hs Z n0 ht.2 hZ Post a w hr fun a' w' hr' => hQ a' w' ?_
  have hg' : ghost C.T g st' = some st2 ∨ st' = st2 := by
    unfold ghostE at hg
    split at hg
    · exact .inl hg
    · injection hg with hg; exact .inr hg
    · exact .inl hg
  rcases hg' with hg | rfl
  · refine ghost_ok (c := ⟨C.T, C.Q⟩) ⟨hC.T, hC.Q⟩ hr' hg fun keep z m e o ho => ?_
    subst e
    simp only [Gh.keeps, Bool.and_eq_true, decide_eq_true_eq] at ht
    have := hZ o ho
    omega
  · exact hr'

/-- One step of the interpreter. -/
theorem next_ok (hC : PgOk P C) (rec : Task → Option Out) (ih : ∀ t r, rec t = some r → TaskOk P C t r) : ∀ t r, next C rec t = some r → TaskOk P C t r := by
  have hc : COk P ⟨C.T, C.Q⟩ := ⟨hC.T, hC.Q⟩
  intro t r h
  unfold next at h
  split at h
  · -- skip
    injection h with h; subst h
    intro code nt hs Z n0 _ _ Post a w hr hQ
    cases code with
    | skip => exact wp_skip (hQ a w hr)
    | region id os draw => rcases slim_not_region hs with h | ⟨_, _, h⟩ <;> cases h
    | _ => simp [slim, SC.erase] at hs
  · -- reg
    split at h
    · rename_i h1
      injection h with h; subst h
      exact region_ok hc hC.mo (ih _ _ h1)
    · cases h
  · -- seq
    split at h
    · rename_i x y st _ e st' h1
      have e1 : ExecOk P x st (e, st') := ih _ _ h1
      have main : ∀ out, (match e with | .norm => ExecOk P y st' out | .exit id => out = (.exit id, st') | .ret => out = (.ret, st')) → ExecOk P (.seq x y) st out := by
        intro out hout code nt hs Z n0 ht hZ Post a w hr hQ
        simp only [tidyB, Bool.and_eq_true] at ht
        cases code with
        | seq cx cy =>
          simp only [slim, SC.erase, SC.seq.injEq] at hs
          refine wp_seq (e1 cx nt hs.1 Z n0 ht.1 hZ _ a w hr fun a' w' hr' => ?_)
          cases e with
          | norm => exact hout cy nt hs.2 Z n0 ht.2 hZ Post a' w' hr' hQ
          | exit id => simp only at hout; subst hout; exact hQ a' w' hr'
          | ret => simp only at hout; subst hout; exact hQ a' w' hr'
        | region id os draw => rcases slim_not_region hs with h | ⟨_, _, h⟩ <;> cases h
        | _ => simp [slim, SC.erase] at hs
      cases e with
      | norm =>
        have := ih _ _ h
        cases r with
        | ex e2 st2 => exact main (e2, st2) this
        | st _ => exact this.elim
        | av _ _ => exact this.elim
      | exit id => injection h with h; subst h; exact main _ rfl
      | ret => injection h with h; subst h; exact main _ rfl
    · cases h
  · -- cond
    rename_i k x y st
    have main : ∀ out b, evalAV (envGet st.env) k = .d (.bool b) → ExecOk P (bif b then x else y) st out → ExecOk P (.cond k x y) st out := by
      intro out b hk hout code nt hs Z n0 ht hZ Post a w hr hQ
      simp only [tidyB, Bool.and_eq_true] at ht
      cases code with
      | cond c' cx cy =>
        simp only [slim, SC.erase, SC.cond.injEq] at hs
        obtain ⟨rfl, hs1, hs2⟩ := hs
        obtain ⟨I, μ, ν, hrr⟩ := hr
        have hev := hrr.ev c'
        have hk' : evalAV st.ss.t c' = .d (.bool b) := hk
        rw [hk'] at hev
        have hb : a.eval c' = .bool b := by
          generalize a.eval c' = q at hev
          cases hev with
          | d _ _ hd => cases hd; rfl
        cases b with
        | true => exact wp_cond_true hb (hout cx nt hs1 Z n0 ht.1 hZ Post a w ⟨I, μ, ν, hrr⟩ hQ)
        | false => exact wp_cond_false hb (hout cy nt hs2 Z n0 ht.2 hZ Post a w ⟨I, μ, ν, hrr⟩ hQ)
      | region id os draw => rcases slim_not_region hs with h | ⟨_, _, h⟩ <;> cases h
      | _ => simp [slim, SC.erase] at hs
    split at h
    · rename_i t hk
      have := ih _ _ h
      cases r with
      | ex e2 st2 => exact main (e2, st2) t hk this
      | st _ => exact this.elim
      | av _ _ => exact this.elim
    · cases h
  · -- block
    split at h
    · rename_i id b st _ e st' h1
      injection h with h; subst h
      have e1 : ExecOk P b st (e, st') := ih _ _ h1
      intro code nt hs Z n0 ht hZ Post a w hr hQ
      cases code with
      | block id' cb =>
        simp only [slim, SC.erase, SC.block.injEq] at hs
        obtain ⟨rfl, hs⟩ := hs
        refine wp_block (e1 cb nt hs Z n0 ht hZ _ a w hr fun a' w' hr' => ?_)
        have := hQ a' w' hr'
        cases e with
        | norm => exact this
        | ret => exact this
        | exit j =>
          simp only [Ex.block, exOf, Exit.inBlock] at this ⊢
          by_cases hj : j = id'
          · rw [if_pos hj] at this ⊢; exact this
          · rw [if_neg hj] at this ⊢; exact this
      | region id os draw => rcases slim_not_region hs with h | ⟨_, _, h⟩ <;> cases h
      | _ => simp [slim, SC.erase] at hs
    · cases h
  · -- loop
    have e2 := ih _ _ h
    cases r with
    | ex e st' =>
      intro code nt hs Z n0 ht hZ Post a w hr hQ
      cases code with
      | loop cb =>
        simp only [slim, SC.erase, SC.loop.injEq] at hs
        obtain ⟨N, hN⟩ := e2 cb nt hs
        exact wp_loop_rounds N (hN Z n0 ht hZ Post a w hr hQ)
      | region id os draw => rcases slim_not_region hs with h | ⟨_, _, h⟩ <;> cases h
      | _ => simp [slim, SC.erase] at hs
    | st _ => exact e2.elim
    | av _ _ => exact e2.elim
  · -- exit
    injection h with h; subst h
    intro code nt hs Z n0 _ _ Post a w hr hQ
    cases code with
    | exit id' =>
      simp only [slim, SC.erase, SC.exit.injEq] at hs
      subst hs
      exact wp_exit (hQ a w hr)
    | region id os draw => rcases slim_not_region hs with h | ⟨_, _, h⟩ <;> cases h
    | _ => simp [slim, SC.erase] at hs
  · -- ret
    injection h with h; subst h
    intro code nt hs Z n0 _ _ Post a w hr hQ
    cases code with
    | ret => exact wp_ret (hQ a w hr)
    | region id os draw => rcases slim_not_region hs with h | ⟨_, _, h⟩ <;> cases h
    | _ => simp [slim, SC.erase] at hs
  · cases h
  · -- pre
    split at h
    · rename_i st' hg
      have := ih _ _ h
      cases r with
      | ex e2 st2 => exact ExecOk.pre hC hg this
      | st _ => exact this.elim
      | av _ _ => exact this.elim
    · cases h
  · -- post
    split at h
    · rename_i e st' h1
      split at h
      · rename_i st2 hg
        injection h with h; subst h
        exact ExecOk.post hC (ih _ _ h1) hg
      · cases h
    · cases h
  · -- a loop's round
    split at h
    · rename_i b st _ e st' h1
      have e1 : ExecOk P b st (e, st') := ih _ _ h1
      cases e with
      | norm =>
        have e2 := ih _ _ h
        cases r with
        | ex e st2 =>
          intro code nt hs
          obtain ⟨N, hN⟩ := e2 code nt hs
          exact ⟨N + 1, fun Z n0 ht hZ Post a w hr hQ => e1 code nt hs Z n0 ht hZ _ a w hr fun a' w' hr' => hN Z n0 ht hZ Post a' w' (norm_ok hr') hQ⟩
        | st _ => exact e2.elim
        | av _ _ => exact e2.elim
      | exit id => injection h with h; subst h; exact fun code nt hs => ⟨1, fun Z n0 ht hZ Post a w hr hQ => e1 code nt hs Z n0 ht hZ _ a w hr fun a' w' hr' => hQ a' w' hr'⟩
      | ret => injection h with h; subst h; exact fun code nt hs => ⟨1, fun Z n0 ht hZ Post a w hr hQ => e1 code nt hs Z n0 ht hZ _ a w hr fun a' w' hr' => hQ a' w' hr'⟩
    · cases h
  · injection h with h; subst h; exact OpsOk.nil _ _ _ _ _
  · -- an operation
    split at h
    · rename_i hs
      split at h
      · rename_i hk
        rw [Bool.and_eq_true] at hk
        have e2 := ih _ _ h
        cases r with
        | st st2 => exact OpsOk.cons (.inl ⟨hs, hk.1⟩) hk.2 e2
        | ex _ _ => exact e2.elim
        | av _ _ => exact e2.elim
      · cases h
    · rename_i g xs hs
      split at h
      · rename_i x obs' h1
        split at h
        · rename_i v e hcm
          split at h
          · rename_i hk
            have e2 := ih _ _ h
            cases r with
            | st st2 => exact OpsOk.cons (.inr ⟨g, xs, x, obs', hs, ih _ _ h1, hcm⟩) hk e2
            | ex _ _ => exact e2.elim
            | av _ _ => exact e2.elim
          · cases h
        · cases h
      · cases h
    · cases h
  · -- a call
    split at h
    · rename_i y obs' hX
      injection h with h; subst h
      exact hC.X _ _ _ _ _ hX
    · split at h
      · cases h
      · rename_i s hs
        split at h
        · rename_i hl
          split at h
          · rename_i e st h1
            have e1 : ExecOk P s.body _ (e, st) := ih _ _ h1
            split at h
            · cases h
            · split at h
              · rename_i hres
                injection h with h; subst h
                exact body_ok hc (hC.A _ _ _ _ hs) hl.1 hl.2 e1 (fun id hh => by cases hh) hres
              · cases h
            · split at h
              · rename_i hres
                injection h with h; subst h
                exact body_ok hc (hC.A _ _ _ _ hs) hl.1 hl.2 e1 (fun id hh => by cases hh) hres
              · cases h
          · cases h
        · cases h

theorem task_sound (hC : PgOk P C) : ∀ t r, lim C t = some r → TaskOk P C t r := lim_ind (TaskOk P C) (next_ok hC)
end
end Go.Proofs.YteidaaobppjlbaaV
