/- The interpreter, read backwards: what must hold ahead of a step so that K holds behind it. -/
import Derived.Test.YteidaaobppjlbaaVx20
import Derived.Lib.SlicesS
set_option linter.unusedVariables false
set_option linter.unusedSimpArgs false
namespace Go.Proofs.YteidaaobppjlbaaV
open Go.RowKit

theorem eqS_iff (a b : ByteArray) : eqS a b = true ↔ a = b := Go.Lib.bytes_beq_iff a b
theorem eqS_self (a : ByteArray) : eqS a a = true := (eqS_iff a a).2 rfl
theorem eqS_def (a b : ByteArray) : (a.toList == b.toList) = eqS a b := rfl
theorem int_beq (a b : Int) : (a == b) = decide (a = b) := by by_cases h : a = b <;> simp [h]
theorem int_bne (a b : Int) : (a != b) = !decide (a = b) := by by_cases h : a = b <;> simp [h]
theorem wrap64 {n : Int} (h : -9223372036854775808 ≤ n) (h' : n < 9223372036854775808) : IntKind.i64.wrap n = n := by
  simp [IntKind.wrap, IntKind.bits, IntKind.signed]
  omega

theorem elsOf_dsl (els : List D) : elsOf (.d (.sl els)) = some els := rfl
theorem elsOf_dnils : elsOf (.d .nils) = some [] := rfl
theorem cond_d (b : Bool) (x y : D) : (bif b then AV.d x else AV.d y) = AV.d (bif b then x else y) := by cases b <;> rfl
theorem cond_bool (b x y : Bool) : (bif b then D.bool x else D.bool y) = D.bool (bif b then x else y) := by cases b <;> rfl
theorem cond_int (b : Bool) (k : IntKind) (x y : Int) : (bif b then D.int k x else D.int k y) = D.int k (bif b then x else y) := by cases b <;> rfl
theorem cond_str (b : Bool) (x y : ByteArray) : (bif b then D.str x else D.str y) = D.str (bif b then x else y) := by cases b <;> rfl
theorem ifI {p : Prop} [Decidable p] {A B : Prop} (h1 : p → A) (h2 : ¬ p → B) : if p then A else B := by
  by_cases h : p
  · rw [if_pos h]; exact h1 h
  · rw [if_neg h]; exact h2 h
theorem toNat_succ (n : Nat) : ((n : Int) + 1).toNat = n + 1 := by omega
theorem nn_succ (n : Nat) : (0 : Int) ≤ (n : Int) + 1 ↔ True := iff_true_intro (by omega)
theorem pos_succ (n : Nat) : (0 : Int) < (n : Int) + 1 ↔ True := iff_true_intro (by omega)
theorem one_succ (n : Nat) : (1 : Int) ≤ (n : Int) + 1 ↔ True := iff_true_intro (by omega)
theorem ann0_lays : ann0.lays = 0 := rfl
theorem ann0_dd : ann0.dd = false := rfl
theorem fuelL_eq : fuelL = [(), (), (), (), (), (), (), (), (), (), (), (), (), (), (), (), (), (), (), (), (), (), (), ()] := rfl

def wpc (C : Pg) (c : SC) (st : St) (K : Ex → St → Prop) : Prop := ∃ e st', lim C (.exec c st) = some (.ex e st') ∧ K e st'
def wpl (C : Pg) (b : SC) (st : St) (K : Ex → St → Prop) : Prop := ∃ e st', lim C (.loop b st) = some (.ex e st') ∧ K e st'
def wpo (C : Pg) (B : Option (List Nat)) (i nid : Nat) (acc : Acc) (l : List SOp) (st : St) (K : St → Prop) : Prop := ∃ st', lim C (.ops B i nid acc l st) = some (.st st') ∧ K st'
def wpr (C : Pg) (f : FuncId) (xs : List AV) (obs : List AObj) (K : AV → List AObj → Prop) : Prop := ∃ y obs', lim C (.run f xs obs) = some (.av y obs') ∧ K y obs'

def seqK (C : Pg) (b : SC) (K : Ex → St → Prop) : Ex → St → Prop
  | .norm, st => wpc C b st K
  | .exit id, st => K (.exit id) st
  | .ret, st => K .ret st
def condK (C : Pg) (a b : SC) (st : St) (K : Ex → St → Prop) : AV → Prop
  | .d (.bool t) => (t = true → wpc C a st K) ∧ (t = false → wpc C b st K)
  | _ => False
def blockK (id : Nat) (K : Ex → St → Prop) : Ex → St → Prop := fun e st => K (e.block id) st
def ghK (K : St → Prop) : Option St → Prop
  | some st => K st
  | none => False
def postK (C : Pg) (g : Gh) (K : Ex → St → Prop) : Ex → St → Prop := fun e st => ghK (K e) (ghostE C.T g e st)
def loopK (C : Pg) (b : SC) (K : Ex → St → Prop) : Ex → St → Prop
  | .norm, st => wpl C b (normSt st) K
  | .exit id, st => K (.exit id) st
  | .ret, st => K .ret st
def comeK (K : AV → List (Nat × AObj) → Prop) : Option (AV × List (Nat × AObj)) → Prop
  | some (v, e) => K v e
  | none => False
def callK (C : Pg) (g : FuncId) (xs : List AV) (ob : Nat → AObj) (L : List Nat) (an : Ann) (nid : Nat) (K : AV → List (Nat × AObj) → Prop) : Prop :=
  wpr C g (packX L ob xs) (packL L ob false) fun x obs' => comeK K (comeC an ob L xs nid x obs')
def opK (C : Pg) (ob : Nat → AObj) (an : Ann) (nid : Nat) (K : AV → List (Nat × AObj) → Prop) : OpR → Prop
  | .val v e => keyChk e (nid + an.lays) = true ∧ K v e
  | .call g xs => callK C g xs ob (reachOf ob xs) an nid K
  | .bad => False
def endK (T : Tbl) (res : List ResultVar) (n0 : Nat) (K : AV → List AObj → Prop) : Ex → St → Prop
  | .exit _, _ => False
  | _, st => ∃ y obs', endF T res n0 st = some (y, obs') ∧ K y obs'

/-- A call's end with these. -/
def endE (T : Tbl) (res : List ResultVar) (n0 : Nat) (y : AV) (obs' : List AObj) : Ex → St → Prop
  | .exit _, _ => False
  | .norm, st => endF T res n0 st = some (y, obs')
  | .ret, st => endF T res n0 st = some (y, obs')

section
variable {C : Pg}

theorem opK_ite {ob : Nat → AObj} {an : Ann} {nid : Nat} {K : AV → List (Nat × AObj) → Prop} {p : Prop} [Decidable p] {x y : OpR} : opK C ob an nid K (if p then x else y) ↔ (p → opK C ob an nid K x) ∧ (¬ p → opK C ob an nid K y) := by
  by_cases h : p <;> simp [h]
theorem condK_b {a b : SC} {st : St} {K : Ex → St → Prop} {t : Bool} : condK C a b st K (.d (.bool t)) ↔ (t = true → wpc C a st K) ∧ (t = false → wpc C b st K) := Iff.rfl

theorem wpc_mono {c : SC} {st : St} {K K' : Ex → St → Prop} (h : wpc C c st K) (hk : ∀ e st, K e st → K' e st) : wpc C c st K' := by
  obtain ⟨e, st', h1, h2⟩ := h; exact ⟨e, st', h1, hk _ _ h2⟩
theorem wpl_mono {b : SC} {st : St} {K K' : Ex → St → Prop} (h : wpl C b st K) (hk : ∀ e st, K e st → K' e st) : wpl C b st K' := by
  obtain ⟨e, st', h1, h2⟩ := h; exact ⟨e, st', h1, hk _ _ h2⟩
theorem wpr_mono {f : FuncId} {xs : List AV} {obs : List AObj} {K K' : AV → List AObj → Prop} (h : wpr C f xs obs K) (hk : ∀ y obs', K y obs' → K' y obs') : wpr C f xs obs K' := by
  obtain ⟨e, st', h1, h2⟩ := h; exact ⟨e, st', h1, hk _ _ h2⟩

/-- A known call. -/
def runs (C : Pg) (f : FuncId) (xs : List AV) (obs : List AObj) (y : AV) (obs' : List AObj) : Prop := lim C (.run f xs obs) = some (.av y obs')
theorem runs.wpr {f : FuncId} {xs : List AV} {obs : List AObj} {y : AV} {obs' : List AObj} (h : runs C f xs obs y obs') (K : AV → List AObj → Prop) : wpr C f xs obs K ↔ K y obs' := by
  constructor
  · rintro ⟨y1, o1, h1, h2⟩
    rw [runs] at h; rw [h] at h1; injection h1 with h1; injection h1 with e1 e2; subst e1 e2; exact h2
  · exact fun hk => ⟨_, _, h, hk⟩
theorem runs_iff {f : FuncId} {xs : List AV} {obs : List AObj} {y : AV} {obs' : List AObj} : runs C f xs obs y obs' ↔ wpr C f xs obs fun y' o' => y' = y ∧ o' = obs' := by
  constructor
  · exact fun h => ⟨_, _, h, rfl, rfl⟩
  · rintro ⟨y1, o1, h1, rfl, rfl⟩; exact h1

theorem wpc_skip {st : St} {K : Ex → St → Prop} : wpc C .skip st K ↔ K .norm st := by
  unfold wpc; rw [lim_eq]
  exact ⟨fun ⟨e, st', h, hk⟩ => by injection h with h; injection h with e1 e2; subst e1 e2; exact hk, fun h => ⟨_, _, rfl, h⟩⟩
theorem wpc_exit {id : Nat} {st : St} {K : Ex → St → Prop} : wpc C (.exit id) st K ↔ K (.exit id) st := by
  unfold wpc; rw [lim_eq]
  exact ⟨fun ⟨e, st', h, hk⟩ => by injection h with h; injection h with e1 e2; subst e1 e2; exact hk, fun h => ⟨_, _, rfl, h⟩⟩
theorem wpc_ret {st : St} {K : Ex → St → Prop} : wpc C .ret st K ↔ K .ret st := by
  unfold wpc; rw [lim_eq]
  exact ⟨fun ⟨e, st', h, hk⟩ => by injection h with h; injection h with e1 e2; subst e1 e2; exact hk, fun h => ⟨_, _, rfl, h⟩⟩
theorem wpc_reg {ops : List SOp} {B : Option (List Nat)} {st : St} {K : Ex → St → Prop} : wpc C (.reg ops B) st K ↔ wpo C B 0 st.obs.length [] ops (roomFor ops st) fun st' => K .norm st' := by
  unfold wpc wpo
  rw [lim_eq]
  simp only [next]
  constructor
  · rintro ⟨e, st', h, hk⟩
    split at h
    · rename_i st2 h2; injection h with h; injection h with e1 e2; subst e1 e2; exact ⟨_, h2, hk⟩
    · cases h
  · rintro ⟨st', h, hk⟩
    exact ⟨_, _, by rw [h], hk⟩
theorem wpc_seq {a b : SC} {st : St} {K : Ex → St → Prop} : wpc C (.seq a b) st K ↔ wpc C a st (seqK C b K) := by
  unfold wpc
  rw [lim_eq]
  simp only [next]
  constructor
  · rintro ⟨e, st', h, hk⟩
    split at h
    · rename_i e1 st1 h1
      refine ⟨e1, st1, h1, ?_⟩
      cases e1 with
      | norm => exact ⟨e, st', h, hk⟩
      | exit id => injection h with h; injection h with e1 e2; subst e1 e2; exact hk
      | ret => injection h with h; injection h with e1 e2; subst e1 e2; exact hk
    · cases h
  · rintro ⟨e, st', h, hk⟩
    rw [h]
    cases e with
    | norm => exact hk
    | exit id => exact ⟨_, _, rfl, hk⟩
    | ret => exact ⟨_, _, rfl, hk⟩
theorem wpc_cond {c : Operand} {a b : SC} {st : St} {K : Ex → St → Prop} : wpc C (.cond c a b) st K ↔ condK C a b st K (evalAV (envGet st.env) c) := by
  unfold wpc
  rw [lim_eq]
  simp only [next]
  generalize evalAV (envGet st.env) c = x
  cases x with
  | d y =>
    cases y with
    | bool t => cases t <;> simp [condK, wpc]
    | _ => simp [condK]
  | _ => simp [condK]
theorem wpc_block {id : Nat} {b : SC} {st : St} {K : Ex → St → Prop} : wpc C (.block id b) st K ↔ wpc C b st (blockK id K) := by
  unfold wpc
  rw [lim_eq]
  simp only [next]
  constructor
  · rintro ⟨e, st', h, hk⟩
    split at h
    · rename_i e1 st1 h1; injection h with h; injection h with e1 e2; subst e1 e2; exact ⟨_, _, h1, hk⟩
    · cases h
  · rintro ⟨e, st', h, hk⟩
    exact ⟨_, _, by rw [h], hk⟩
theorem wpc_loop {b : SC} {st : St} {K : Ex → St → Prop} : wpc C (.loop b) st K ↔ wpl C b st K := by
  unfold wpc wpl
  rw [lim_eq]
  simp only [next]
theorem wpc_pre {g : Gh} {c : SC} {st : St} {K : Ex → St → Prop} : wpc C (.pre g c) st K ↔ ghK (fun st' => wpc C c st' K) (ghost C.T g st) := by
  unfold wpc
  rw [lim_eq]
  simp only [next]
  cases ghost C.T g st <;> simp [ghK, wpc]
theorem wpc_post {g : Gh} {c : SC} {st : St} {K : Ex → St → Prop} : wpc C (.post c g) st K ↔ wpc C c st (postK C g K) := by
  unfold wpc
  rw [lim_eq]
  simp only [next]
  constructor
  · rintro ⟨e, st', h, hk⟩
    split at h
    · rename_i e1 st1 h1
      split at h
      · rename_i st2 h2
        injection h with h; injection h with e1 e2; subst e1 e2
        exact ⟨_, _, h1, by simp only [postK, h2, ghK]; exact hk⟩
      · cases h
    · cases h
  · rintro ⟨e, st', h, hk⟩
    rw [h]
    simp only [postK] at hk ⊢
    cases hg : ghostE C.T g e st' with
    | none => rw [hg] at hk; exact hk.elim
    | some st2 => rw [hg] at hk; exact ⟨_, _, rfl, hk⟩
theorem wpl_eq {b : SC} {st : St} {K : Ex → St → Prop} : wpl C b st K ↔ wpc C b st (loopK C b K) := by
  unfold wpl wpc
  rw [lim_eq]
  simp only [next]
  constructor
  · rintro ⟨e, st', h, hk⟩
    split at h
    · rename_i e1 st1 h1
      refine ⟨e1, st1, h1, ?_⟩
      cases e1 with
      | norm => exact ⟨e, st', h, hk⟩
      | exit id => injection h with h; injection h with e1 e2; subst e1 e2; exact hk
      | ret => injection h with h; injection h with e1 e2; subst e1 e2; exact hk
    · cases h
  · rintro ⟨e, st', h, hk⟩
    rw [h]
    cases e with
    | norm => exact hk
    | exit id => exact ⟨_, _, rfl, hk⟩
    | ret => exact ⟨_, _, rfl, hk⟩
/-- A loop, by what stands at its head. -/
theorem wpl_inv {b : SC} {σ : Type} (S : σ → St) (m : σ → Nat) (Inv : σ → Prop) {K : Ex → St → Prop} (h : ∀ s, Inv s → (∀ s', Inv s' → m s' < m s → wpl C b (S s') K) → wpc C b (S s) (loopK C b K)) : ∀ s, Inv s → wpl C b (S s) K := by
  intro s hs
  induction hn : m s using Nat.strongRecOn generalizing s with
  | _ n ih =>
    subst hn
    exact wpl_eq.2 (h s hs fun s' hs' hlt => ih (m s') hlt s' hs' rfl)
theorem wpo_nil {B : Option (List Nat)} {i nid : Nat} {acc : Acc} {st : St} {K : St → Prop} : wpo C B i nid acc [] st K ↔ K st := by
  unfold wpo; rw [lim_eq]; simp [next]
theorem wpo_cons {B : Option (List Nat)} {i nid : Nat} {acc : Acc} {o : SOp} {r : List SOp} {st : St} {K : St → Prop} : wpo C B i nid acc (o :: r) st K ↔ opK C (obGet st.obs) o.an nid (fun v e => chkD B i o st e acc = true ∧ wpo C B (i + 1) (nid + o.an.lays) (accD B i o st e acc) r (st.put o.dst v e) K) (stepS C.T C.Q o st nid) := by
  unfold wpo
  rw [lim_eq]
  simp only [next]
  cases stepS C.T C.Q o st nid with
  | bad => simp [opK]
  | val v e =>
    simp only [opK]
    constructor
    · rintro ⟨st', h, hk⟩
      split at h
      · rename_i hc; rw [Bool.and_eq_true] at hc; exact ⟨hc.1, hc.2, st', h, hk⟩
      · cases h
    · rintro ⟨h1, h2, st', h, hk⟩
      exact ⟨st', by rw [if_pos (by rw [Bool.and_eq_true]; exact ⟨h1, h2⟩)]; exact h, hk⟩
  | call g xs =>
    simp only [opK, callK, wpr]
    constructor
    · rintro ⟨st', h, hk⟩
      split at h
      · rename_i x obs' h1
        refine ⟨x, obs', h1, ?_⟩
        split at h
        · rename_i v e hc
          rw [hc]
          simp only [comeK]
          split at h
          · rename_i hd; exact ⟨hd, st', h, hk⟩
          · cases h
        · cases h
      · cases h
    · rintro ⟨x, obs', h1, h2⟩
      rw [h1]
      simp only
      cases hc : comeC o.an (obGet st.obs) (reachOf (obGet st.obs) xs) xs nid x obs' with
      | none => rw [hc] at h2; exact h2.elim
      | some p =>
        obtain ⟨v, e⟩ := p
        rw [hc] at h2
        simp only [comeK] at h2
        obtain ⟨h2, st', h3, hk⟩ := h2
        exact ⟨st', by simp only [h2, if_true]; exact h3, hk⟩
theorem wpr_code {f : FuncId} {xs : List AV} {obs : List AObj} {K : AV → List AObj → Prop} {s : SFn} (hX : C.X f xs obs = none) (hA : C.A f xs obs = some s) (hl : xs.length = s.np) (ht : tidyB obs.length s.body = true) (h : wpc C s.body ⟨startEnv 0 xs, obs⟩ (endK C.T s.res obs.length K)) : wpr C f xs obs K := by
  obtain ⟨e, st, h1, h2⟩ := h
  unfold wpr
  rw [lim_eq]
  simp only [next, hX, hA, hl, ht, and_self, if_true, h1]
  cases e with
  | exit id => exact h2.elim
  | norm =>
    obtain ⟨y, obs', h3, hk⟩ := h2
    exact ⟨y, obs', by simp only [h3], hk⟩
  | ret =>
    obtain ⟨y, obs', h3, hk⟩ := h2
    exact ⟨y, obs', by simp only [h3], hk⟩
/-- A call that has nothing open: by the kernel. -/
theorem runs_of_go (n : Nat) {f : FuncId} {xs : List AV} {obs : List AObj} {y : AV} {obs' : List AObj} (h : go C n (.run f xs obs) = some (.av y obs')) : runs C f xs obs y obs' := lim_of_go h

theorem runs.good {P : Program} (hC : PgOk P C) {f : FuncId} {xs : List AV} {obs : List AObj} {y : AV} {obs' : List AObj} (h : runs C f xs obs y obs') : Good P f xs obs y obs' := task_sound hC _ _ h
end
/-- A call's end of which Q holds. -/
def endQ (T : Tbl) (res : List ResultVar) (n0 : Nat) (Q : AV → List AObj → Prop) : Ex → St → Prop
  | .exit _, _ => False
  | .norm, st => match endF T res n0 st with | some (y, obs') => Q y obs' | none => False
  | .ret, st => match endF T res n0 st with | some (y, obs') => Q y obs' | none => False
/-! ### What is still to be done, as data -/
inductive Fr where
  | seq (b : SC)
  | block (id : Nat)
  | post (g : Gh)
  | loop (b : SC)
def wpn (C : Pg) : Ex → St → List Fr → (Ex → St → Prop) → Prop
  | e, st, [], K => K e st
  | .norm, st, .seq b :: ks, K => wpc C b st fun e st' => wpn C e st' ks K
  | .norm, st, .loop b :: ks, K => wpl C b (normSt st) fun e st' => wpn C e st' ks K
  | .exit id, st, .seq _ :: ks, K => wpn C (.exit id) st ks K
  | .exit id, st, .loop _ :: ks, K => wpn C (.exit id) st ks K
  | .ret, st, .seq _ :: ks, K => wpn C .ret st ks K
  | .ret, st, .loop _ :: ks, K => wpn C .ret st ks K
  | e, st, .block id :: ks, K => wpn C (e.block id) st ks K
  | e, st, .post g :: ks, K => match ghostE C.T g e st with
    | some st2 => wpn C e st2 ks K
    | none => False
def wpk (C : Pg) (c : SC) (st : St) (ks : List Fr) (K : Ex → St → Prop) : Prop := wpc C c st fun e st' => wpn C e st' ks K
def wlp (C : Pg) (b : SC) (st : St) (ks : List Fr) (K : Ex → St → Prop) : Prop := wpl C b st fun e st' => wpn C e st' ks K
def wop (C : Pg) (B : Option (List Nat)) (i nid : Nat) (acc : Acc) (l : List SOp) (st : St) (ks : List Fr) (K : Ex → St → Prop) : Prop := wpo C B i nid acc l st fun st' => wpn C .norm st' ks K
/-- What a call gives. -/
noncomputable def run (C : Pg) (f : FuncId) (xs : List AV) (obs : List AObj) : Option (AV × List AObj) := match lim C (.run f xs obs) with
  | some (.av y obs') => some (y, obs')
  | _ => none
/-- What a loop gives. -/
noncomputable def runL (C : Pg) (b : SC) (st : St) : Option (Ex × St) := match lim C (.loop b st) with
  | some (.ex e st') => some (e, st')
  | _ => none

section
variable {C : Pg} {K : Ex → St → Prop} {ks : List Fr} {st : St}
theorem run_iff {f : FuncId} {xs : List AV} {obs : List AObj} {y : AV} {obs' : List AObj} : run C f xs obs = some (y, obs') ↔ lim C (.run f xs obs) = some (.av y obs') := by
  unfold run
  cases h : lim C (.run f xs obs) with
  | none => simp
  | some r => cases r <;> simp
theorem run_of_wpr {f : FuncId} {xs : List AV} {obs : List AObj} {y : AV} {obs' : List AObj} (h : wpr C f xs obs fun y' o' => y' = y ∧ o' = obs') : run C f xs obs = some (y, obs') := run_iff.2 (runs_iff.2 h)
theorem runL_iff {b : SC} {e : Ex} {st' : St} : runL C b st = some (e, st') ↔ lim C (.loop b st) = some (.ex e st') := by
  unfold runL
  cases h : lim C (.loop b st) with
  | none => simp
  | some r => cases r <;> simp
theorem run_of_go (n : Nat) {f : FuncId} {xs : List AV} {obs : List AObj} {y : AV} {obs' : List AObj} (h : go C n (.run f xs obs) = some (.av y obs')) : run C f xs obs = some (y, obs') := run_iff.2 (lim_of_go h)
theorem run_good {P : Program} (hC : PgOk P C) {f : FuncId} {xs : List AV} {obs : List AObj} {y : AV} {obs' : List AObj} (h : run C f xs obs = some (y, obs')) : Good P f xs obs y obs' := task_sound hC _ _ (run_iff.1 h)

def envSet (i : Nat) (v : AV) : List (Nat × AV) → List (Nat × AV)
  | [] => []
  | (j, x) :: r => if i = j then (j, v) :: r else (j, x) :: envSet i v r
theorem envSet_same {g : Nat} {v : AV} : ∀ {env : List (Nat × AV)}, envGet env g = v → envSet g v env = env
  | [], h => rfl
  | (j, x) :: r, h => by
    unfold envGet at h
    unfold envSet
    split at h
    · rename_i e; subst e; subst h; rw [if_pos rfl]
    · rename_i e; rw [if_neg e, envSet_same h]
def St.know (st : St) (g : Nat) (b : Bool) : St := ⟨envSet g (.d (.bool b)) st.env, st.obs⟩
theorem know_eq {st : St} {g : Nat} {b : Bool} (h : envGet st.env g = .d (.bool b)) : st.know g b = st := by
  unfold St.know; rw [envSet_same h]
theorem wpn_nil {e : Ex} : wpn C e st [] K ↔ K e st := by cases e <;> exact Iff.rfl
theorem wpn_seq {b : SC} : wpn C .norm st (.seq b :: ks) K ↔ wpk C b st ks K := Iff.rfl
theorem wpn_loop {b : SC} : wpn C .norm st (.loop b :: ks) K ↔ wlp C b (normSt st) ks K := Iff.rfl
theorem wpn_seq_exit {b : SC} {id : Nat} : wpn C (.exit id) st (.seq b :: ks) K ↔ wpn C (.exit id) st ks K := Iff.rfl
theorem wpn_loop_exit {b : SC} {id : Nat} : wpn C (.exit id) st (.loop b :: ks) K ↔ wpn C (.exit id) st ks K := Iff.rfl
theorem wpn_seq_ret {b : SC} : wpn C .ret st (.seq b :: ks) K ↔ wpn C .ret st ks K := Iff.rfl
theorem wpn_loop_ret {b : SC} : wpn C .ret st (.loop b :: ks) K ↔ wpn C .ret st ks K := Iff.rfl
theorem wpn_block {e : Ex} {id : Nat} : wpn C e st (.block id :: ks) K ↔ wpn C (e.block id) st ks K := by cases e <;> exact Iff.rfl
theorem wpn_post {e : Ex} {g : Gh} : wpn C e st (.post g :: ks) K ↔ match ghostE C.T g e st with
    | some st2 => wpn C e st2 ks K
    | none => False := by cases e <;> exact Iff.rfl
theorem wpk_skip : wpk C .skip st ks K ↔ wpn C .norm st ks K := wpc_skip
theorem wpk_exit {id : Nat} : wpk C (.exit id) st ks K ↔ wpn C (.exit id) st ks K := wpc_exit
theorem wpk_ret : wpk C .ret st ks K ↔ wpn C .ret st ks K := wpc_ret
theorem wpk_reg {ops : List SOp} {B : Option (List Nat)} : wpk C (.reg ops B) st ks K ↔ wop C B 0 st.obs.length [] ops (roomFor ops st) ks K := wpc_reg
theorem wpk_seq {a b : SC} : wpk C (.seq a b) st ks K ↔ wpk C a st (.seq b :: ks) K := by
  refine wpc_seq.trans ?_
  have : (seqK C b fun e st' => wpn C e st' ks K) = fun e st' => wpn C e st' (.seq b :: ks) K := by
    funext e st'; cases e <;> rfl
  rw [this]; exact Iff.rfl
theorem wpk_cond {c : Operand} {a b : SC} : wpk C (.cond c a b) st ks K ↔ match evalAV (envGet st.env) c with
    | .d (.bool t) => if t = true then wpk C a st ks K else wpk C b st ks K
    | _ => False := by
  refine wpc_cond.trans ?_
  generalize evalAV (envGet st.env) c = x
  cases x with
  | d y =>
    cases y with
    | bool t => cases t <;> simp [condK, wpk]
    | _ => exact Iff.rfl
  | _ => exact Iff.rfl
theorem wpk_condT {i : Nat} {a b : SC} : wpk C (.cond (.tmp i) a b) st ks K ↔ match envGet st.env i with
    | .d (.bool t) => if t = true then wpk C a (st.know i true) ks K else wpk C b (st.know i false) ks K
    | _ => False := by
  refine wpk_cond.trans ?_
  show (match envGet st.env i with
    | .d (.bool t) => if t = true then wpk C a st ks K else wpk C b st ks K
    | _ => False) ↔ _
  generalize hx : envGet st.env i = x
  cases x with
  | d y =>
    cases y with
    | bool t => cases t <;> simp [know_eq hx]
    | _ => exact Iff.rfl
  | _ => exact Iff.rfl
theorem wpk_block {id : Nat} {b : SC} : wpk C (.block id b) st ks K ↔ wpk C b st (.block id :: ks) K := by
  refine wpc_block.trans ?_
  have : (blockK id fun e st' => wpn C e st' ks K) = fun e st' => wpn C e st' (.block id :: ks) K := by
    funext e st'; cases e <;> rfl
  rw [this]; exact Iff.rfl
theorem wpk_loop {b : SC} : wpk C (.loop b) st ks K ↔ wlp C b st ks K := wpc_loop
theorem wpk_pre {g : Gh} {c : SC} : wpk C (.pre g c) st ks K ↔ match ghost C.T g st with
    | some st2 => wpk C c st2 ks K
    | none => False := by
  refine wpc_pre.trans ?_
  cases ghost C.T g st <;> exact Iff.rfl
theorem wpk_post {g : Gh} {c : SC} : wpk C (.post c g) st ks K ↔ wpk C c st (.post g :: ks) K := by
  refine wpc_post.trans ?_
  have : (postK C g fun e st' => wpn C e st' ks K) = fun e st' => wpn C e st' (.post g :: ks) K := by
    funext e st'
    refine propext ?_
    rw [wpn_post]
    unfold postK
    cases ghostE C.T g e st' <;> exact Iff.rfl
  rw [this]; exact Iff.rfl
theorem wlp_eq {b : SC} : wlp C b st ks K ↔ wpk C b st (.loop b :: ks) K := by
  refine wpl_eq.trans ?_
  have : (loopK C b fun e st' => wpn C e st' ks K) = fun e st' => wpn C e st' (.loop b :: ks) K := by
    funext e st'; cases e <;> rfl
  rw [this]; exact Iff.rfl
theorem wlp_of {b : SC} {e : Ex} {st' : St} (h : runL C b st = some (e, st')) : wlp C b st ks K ↔ wpn C e st' ks K := by
  rw [runL_iff] at h
  constructor
  · rintro ⟨e1, s1, h1, h2⟩
    rw [h] at h1; injection h1 with h1; injection h1 with q1 q2; subst q1 q2; exact h2
  · exact fun hk => ⟨_, _, h, hk⟩
theorem runL_of_wlp {b : SC} {e : Ex} {st' : St} (h : wlp C b st [] fun e1 s1 => e1 = e ∧ s1 = st') : runL C b st = some (e, st') := by
  rw [runL_iff]
  obtain ⟨e1, s1, h1, h2⟩ := h
  rw [wpn_nil] at h2
  obtain ⟨rfl, rfl⟩ := h2
  exact h1
theorem wlp_inv {b : SC} {σ : Type} (S : σ → St) (m : σ → Nat) (Inv : σ → Prop) (h : ∀ s, Inv s → (∀ s', Inv s' → m s' < m s → wlp C b (S s') ks K) → wpk C b (S s) (.loop b :: ks) K) : ∀ s, Inv s → wlp C b (S s) ks K := by
  intro s hs
  induction hn : m s using Nat.strongRecOn generalizing s with
  | _ n ih =>
    subst hn
    exact wlp_eq.2 (h s hs fun s' hs' hlt => ih (m s') hlt s' hs' rfl)
theorem wop_nil {B : Option (List Nat)} {i nid : Nat} {acc : Acc} : wop C B i nid acc [] st ks K ↔ wpn C .norm st ks K := wpo_nil
theorem wop_cons {B : Option (List Nat)} {i nid : Nat} {acc : Acc} {dst : Option Nat} {op : Op} {an : Ann} {r : List SOp} : wop C B i nid acc (⟨dst, op, none, an⟩ :: r) st ks K ↔ match opF C.T C.Q an op (evalAV (envGet st.env)) (obGet st.obs) nid with
    | .val v e => if (keyChk e (nid + an.lays) && chkD B i ⟨dst, op, none, an⟩ st e acc) = true then wop C B (i + 1) (nid + an.lays) (accD B i ⟨dst, op, none, an⟩ st e acc) r (st.put dst v e) ks K else False
    | .call g xs => (match run C g (packX (reachOf (obGet st.obs) xs) (obGet st.obs) xs) (packL (reachOf (obGet st.obs) xs) (obGet st.obs) false) with
      | some (x, obs') => (match comeC an (obGet st.obs) (reachOf (obGet st.obs) xs) xs nid x obs' with
        | some (v, e) => if chkD B i ⟨dst, op, none, an⟩ st e acc = true then wop C B (i + 1) (nid + an.lays) (accD B i ⟨dst, op, none, an⟩ st e acc) r (st.put dst v e) ks K else False
        | none => False)
      | none => False)
    | .bad => False := by
  refine wpo_cons.trans ?_
  show opK _ _ _ _ _ (opF C.T C.Q an op (evalAV (envGet st.env)) (obGet st.obs) nid) ↔ _
  cases opF C.T C.Q an op (evalAV (envGet st.env)) (obGet st.obs) nid with
  | bad => exact Iff.rfl
  | val v e =>
    simp only [opK, Bool.and_eq_true]
    by_cases h1 : keyChk e (nid + an.lays) = true <;> by_cases h2 : chkD B i ⟨dst, op, none, an⟩ st e acc = true <;> simp [h1, h2, wop]
  | call g xs =>
    simp only [opK, callK, wpr]
    unfold run
    cases lim C (.run g (packX (reachOf (obGet st.obs) xs) (obGet st.obs) xs) (packL (reachOf (obGet st.obs) xs) (obGet st.obs) false)) with
    | none => simp
    | some q =>
      cases q with
      | av y o =>
        simp only [Option.some.injEq, Out.av.injEq]
        constructor
        · rintro ⟨_, _, ⟨rfl, rfl⟩, h⟩
          cases hc : comeC an (obGet st.obs) (reachOf (obGet st.obs) xs) xs nid y o with
          | none => rw [hc] at h; exact h.elim
          | some p => obtain ⟨v, e⟩ := p; rw [hc] at h; simp only [comeK] at h; simp only [h.1, if_true]; exact h.2
        · intro h
          refine ⟨_, _, ⟨rfl, rfl⟩, ?_⟩
          cases hc : comeC an (obGet st.obs) (reachOf (obGet st.obs) xs) xs nid y o with
          | none => rw [hc] at h; exact h.elim
          | some p =>
            obtain ⟨v, e⟩ := p
            rw [hc] at h
            simp only at h
            by_cases h2 : chkD B i ⟨dst, op, none, an⟩ st e acc = true
            · rw [if_pos h2] at h; exact ⟨h2, h⟩
            · rw [if_neg h2] at h; exact h.elim
      | ex _ _ => simp
      | st _ => simp
theorem wop_guard {B : Option (List Nat)} {i nid : Nat} {acc : Acc} {dst : Option Nat} {op : Op} {g : Nat} {want : Bool} {an : Ann} {r : List SOp} : wop C B i nid acc (⟨dst, op, some (g, want), an⟩ :: r) st ks K ↔ match envGet st.env g with
    | .d (.bool b) => if b = want then wop C B i nid acc (⟨dst, op, none, an⟩ :: r) (st.know g want) ks K else
        (if chkD B i ⟨dst, op, none, an⟩ (st.know g !want) [] acc = true then wop C B (i + 1) (nid + an.lays) (accD B i ⟨dst, op, none, an⟩ (st.know g !want) [] acc) r ((st.know g !want).put dst (.tup []) []) ks K else False)
    | .tup [] => if chkD B i ⟨dst, op, none, an⟩ st [] acc = true then wop C B (i + 1) (nid + an.lays) (accD B i ⟨dst, op, none, an⟩ st [] acc) r (st.put dst (.tup []) []) ks K else False
    | _ => False := by
  refine wpo_cons.trans ?_
  have hstep : stepS C.T C.Q ⟨dst, op, some (g, want), an⟩ st nid = match envGet st.env g with
    | .d (.bool b) => if b = want then opF C.T C.Q an op (evalAV (envGet st.env)) (obGet st.obs) nid else .val (.tup []) []
    | .tup [] => .val (.tup []) []
    | _ => .bad := rfl
  rw [hstep]
  generalize hx : envGet st.env g = x
  cases x with
  | d y =>
    cases y with
    | bool b =>
      simp only
      by_cases h : b = want
      · rw [if_pos h, if_pos h, know_eq (h ▸ hx)]
        exact (wpo_cons (C := C) (B := B) (i := i) (nid := nid) (acc := acc) (o := ⟨dst, op, none, an⟩) (r := r) (st := st) (K := fun st' => wpn C .norm st' ks K)).symm
      · have hb : b = !want := by cases b <;> cases want <;> simp_all
        rw [if_neg h, if_neg h, know_eq (hb ▸ hx)]
        simp only [opK]
        have hk : keyChk [] (nid + an.lays) = true := rfl
        have hcd : chkD B i ⟨dst, op, some (g, want), an⟩ st [] acc = chkD B i ⟨dst, op, none, an⟩ st [] acc := rfl
        have had : accD B i ⟨dst, op, some (g, want), an⟩ st [] acc = accD B i ⟨dst, op, none, an⟩ st [] acc := rfl
        simp only [hk, hcd, had, true_and]
        by_cases h2 : chkD B i ⟨dst, op, none, an⟩ st [] acc = true <;> simp [h2, wop]
    | _ => exact Iff.rfl
  | tup l =>
    cases l with
    | nil =>
      simp only [opK]
      have hk : keyChk [] (nid + an.lays) = true := rfl
      have hcd : chkD B i ⟨dst, op, some (g, want), an⟩ st [] acc = chkD B i ⟨dst, op, none, an⟩ st [] acc := rfl
      have had : accD B i ⟨dst, op, some (g, want), an⟩ st [] acc = accD B i ⟨dst, op, none, an⟩ st [] acc := rfl
      simp only [hk, hcd, had, true_and]
      by_cases h2 : chkD B i ⟨dst, op, none, an⟩ st [] acc = true <;> simp [h2, wop]
    | cons _ _ => exact Iff.rfl
  | _ => exact Iff.rfl
/-- A call, by its code. -/
theorem run_code {f : FuncId} {xs : List AV} {obs : List AObj} {y : AV} {obs' : List AObj} {s : SFn} (hX : C.X f xs obs = none) (hA : C.A f xs obs = some s) (hl : xs.length = s.np) (ht : tidyB obs.length s.body = true) (h : wpk C s.body ⟨startEnv 0 xs, obs⟩ [] (endE C.T s.res obs.length y obs')) : run C f xs obs = some (y, obs') := by
  refine run_of_wpr (wpr_code hX hA hl ht (wpc_mono h fun e st hk => ?_))
  rw [wpn_nil] at hk
  cases e with
  | exit id => exact hk.elim
  | norm => exact ⟨y, obs', hk, rfl, rfl⟩
  | ret => exact ⟨y, obs', hk, rfl, rfl⟩
theorem run_codeQ {f : FuncId} {xs : List AV} {obs : List AObj} {Q : AV → List AObj → Prop} {s : SFn} (hX : C.X f xs obs = none) (hA : C.A f xs obs = some s) (hl : xs.length = s.np) (ht : tidyB obs.length s.body = true) (h : wpk C s.body ⟨startEnv 0 xs, obs⟩ [] (endQ C.T s.res obs.length Q)) : ∃ y obs', run C f xs obs = some (y, obs') ∧ Q y obs' := by
  have hw : wpr C f xs obs Q := wpr_code hX hA hl ht (wpc_mono h fun e st hk => by
    rw [wpn_nil] at hk
    cases e with
    | exit id => exact hk.elim
    | norm =>
      simp only [endQ] at hk
      split at hk
      · rename_i y obs' he; exact ⟨y, obs', he, hk⟩
      · exact hk.elim
    | ret =>
      simp only [endQ] at hk
      split at hk
      · rename_i y obs' he; exact ⟨y, obs', he, hk⟩
      · exact hk.elim)
  obtain ⟨y, obs', h1, h2⟩ := hw
  exact ⟨y, obs', run_iff.2 h1, h2⟩
end
def getF (f : Nat) : List (Nat × SFn) → Option SFn
  | [] => none
  | (g, s) :: r => if f = g then some s else getF f r
def FOk (P : Program) (f : Nat) (s : SFn) : Prop := (P.funcs[f]?).bind slimFn = some s.erase
def AllF (P : Program) : List (Nat × SFn) → Prop
  | [] => True
  | (f, s) :: r => FOk P f s ∧ AllF P r
theorem getF_ok {P : Program} {f : Nat} {s : SFn} : ∀ {l : List (Nat × SFn)}, AllF P l → getF f l = some s → (P.funcs[f]?).bind slimFn = some s.erase
  | [], _, h => by cases h
  | (g, t) :: r, hl, h => by
    unfold getF at h
    split at h
    · rename_i e; subst e; injection h with h; subst h; exact hl.1
    · exact getF_ok hl.2 h
end Go.Proofs.YteidaaobppjlbaaV
