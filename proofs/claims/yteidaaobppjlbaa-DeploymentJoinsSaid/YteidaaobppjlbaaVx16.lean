/- The interpreter over the walk's values: definitions. -/
import Derived.Test.YteidaaobppjlbaaVx15
set_option linter.unusedVariables false
set_option linter.unusedSimpArgs false
namespace Go.Proofs.YteidaaobppjlbaaV
open Go.RowKit

/-! ### Code without what the interpreter does not look at -/
structure SOp where
  dst : Option Nat
  op : Op
  gd : Option (Nat × Bool)
  an : Ann
/-- What the interpreter does beside the machine's work: a slot's slice becomes a datum; a slot's nil becomes an empty slice of the call's own; so for a variable's cell; slots and objects are forgotten. -/
inductive Gh where
  | frz (t : Nat)
  | mkv (t : Nat) (e : TypeId) (sz : Nat)
  | frb (t off : Nat)
  | mkb (t off : Nat) (e : TypeId) (sz : Nat)
  | tidy (keep : List Nat) (z m : Nat)

inductive SC where
  | skip
  | reg (ops : List SOp) (B : Option (List Nat))
  | seq (a b : SC)
  | cond (c : Operand) (a b : SC)
  | block (id : Nat) (b : SC)
  | loop (b : SC)
  | exit (id : Nat)
  | ret
  | bad
  | pre (g : Gh) (c : SC)
  | post (c : SC) (g : Gh)

def SOp.strip (o : SOp) : SOp := ⟨o.dst, o.op, o.gd, ann0⟩
def SC.erase : SC → SC
  | .reg ops B => .reg (ops.map SOp.strip) B
  | .seq a b => .seq a.erase b.erase
  | .cond c a b => .cond c a.erase b.erase
  | .block id b => .block id b.erase
  | .loop b => .loop b.erase
  | .pre _ c => c.erase
  | .post c _ => c.erase
  | c => c

def slimOp (ops : Array Oper) (o : Oper) : Option SOp :=
  match o.guard with
  | none => some ⟨o.dst, o.op, none, ann0⟩
  | some (g, w) => match (ops[g]?).bind (·.dst) with
    | some d => some ⟨o.dst, o.op, some (d, w), ann0⟩
    | none => none
def slimOps (ops : Array Oper) : List Oper → Option (List SOp)
  | [] => some []
  | o :: r => match slimOp ops o, slimOps ops r with
    | some x, some xs => some (x :: xs)
    | _, _ => none
def bitsOf : List Oper → List Nat → List Nat
  | [], B => B
  | o :: r, B => bitsOf r (B ++ [edgeBits B o.after.toList])
def dstChk (nt : Nat) (ops : Array Oper) : Bool := ops.toList.all fun o => match o.dst with | some d => decide (d < nt) | none => true
def slim (nt : Nat) : Code → SC
  | .skip => .skip
  | .region _ ops draw => match slimOps ops ops.toList with
    | none => .bad
    | some l => if dstChk nt ops then (if draw then (let B := bitsOf ops.toList []; if drawChk ops B then .reg l (some B) else .bad) else .reg l none) else .bad
  | .seq a b => .seq (slim nt a) (slim nt b)
  | .cond c a b => .cond c (slim nt a) (slim nt b)
  | .block id b => .block id (slim nt b)
  | .loop b => .loop (slim nt b)
  | .exit id => .exit id
  | .ret => .ret
  | _ => .bad

structure SFn where
  np : Nat
  nt : Nat
  res : List ResultVar
  body : SC
def slimFn (fn : Func) : Option SFn := match fn.body with
  | some c => if decide (fn.params.size + fn.nfree ≤ fn.ntmps) && fn.name != "runtime.NumGoroutine" then some ⟨fn.params.size + fn.nfree, fn.ntmps, fn.results.toList, slim fn.ntmps c⟩ else none
  | none => none
def SFn.erase (s : SFn) : SFn := ⟨s.np, s.nt, s.res, s.body.erase⟩

/-! ### States -/
structure St where
  env : List (Nat × AV)
  obs : List AObj
def envGet : List (Nat × AV) → Nat → AV
  | [], _ => .junk
  | (j, x) :: r, i => if i = j then x else envGet r i
def envPut (i : Nat) (v : AV) (env : List (Nat × AV)) : List (Nat × AV) := (i, v) :: env
def envKeep (keep : List Nat) (env : List (Nat × AV)) : List (Nat × AV) := keep.map fun i => (i, envGet env i)
def obGet (obs : List AObj) (i : Nat) : AObj := obs.getD i .dead
def setEff : List (Nat × AObj) → List AObj → List AObj
  | [], obs => obs
  | (i, x) :: r, obs => setEff r (obs.set i x)
def putV (dst : Option Nat) (v : AV) (env : List (Nat × AV)) : List (Nat × AV) := match dst with | some d => envPut d v env | none => env
def St.put (st : St) (dst : Option Nat) (v : AV) (e : List (Nat × AObj)) : St := ⟨putV dst v st.env, setEff e st.obs⟩
def St.ss (st : St) : SS := ⟨envGet st.env, obGet st.obs, st.obs.length⟩

def stepS (T : Tbl) (Q : TypeId → Option (List EK)) (o : SOp) (st : St) (nid : Nat) : OpR :=
  match o.gd with
  | none => opF T Q o.an o.op (evalAV (envGet st.env)) (obGet st.obs) nid
  | some (g, want) => match envGet st.env g with
    | .d (.bool b) => if b = want then opF T Q o.an o.op (evalAV (envGet st.env)) (obGet st.obs) nid else .val (.tup []) []
    | .tup [] => .val (.tup []) []
    | _ => .bad
def keyChk (e : List (Nat × AObj)) (m : Nat) : Bool := e.all fun p => decide (p.1 < m)
abbrev Acc := List (Nat × List Nat × List Nat)
def chkD (B : Option (List Nat)) (i : Nat) (o : SOp) (st : St) (e : List (Nat × AObj)) (acc : Acc) : Bool := match B with
  | none => true
  | some B => freeB (bitsW B) i (touchF o.op (evalAV (envGet st.env)) (obGet st.obs)) (e.map (·.1)) acc
def accD (B : Option (List Nat)) (i : Nat) (o : SOp) (st : St) (e : List (Nat × AObj)) (acc : Acc) : Acc := match B with
  | none => acc
  | some _ => pushT i (touchF o.op (evalAV (envGet st.env)) (obGet st.obs)) (e.map (·.1)) acc

/-! ### Code -/
inductive Ex where
  | norm | exit (id : Nat) | ret
def Ex.block (id : Nat) : Ex → Ex
  | .exit id' => if id' = id then .norm else .exit id'
  | e => e

def AV.under (n : Nat) (x : AV) : Bool := x.oids.all fun o => decide (o < n)
def AObj.under (n : Nat) (x : AObj) : Bool := x.oids.all fun o => decide (o < n)
def laysOf : List SOp → Nat
  | [] => 0
  | o :: r => o.an.lays + laysOf r
def roomFor (ops : List SOp) (st : St) : St := ⟨st.env, st.obs ++ List.replicate (laysOf ops) .dead⟩

def mkvO (t : Nat) (e : TypeId) (sz : Nat) (env : List (Nat × AV)) (obs : List AObj) : AV → Option St
  | .d .nils => some ⟨envPut t (.vs obs.length 0 sz 0 0) env, obs ++ [.vec 0 true false e sz []]⟩
  | _ => none
def frzG (g sz lo hi : Nat) (e' : AObj) : Option (D × AObj) := match e' with
  | .vec g' mv _ e sz' els => if g' = g then some (.sl ((els.take hi).drop lo), .vec g' mv true e sz' els) else none
  | _ => none
/-- The type is one of the table's, and its elements have so many cells. -/
def szOk (T : Tbl) (e sz : Nat) : Bool := match T.get e with | some i => i.size == sz && sz != 0 | none => false
/-- Objects behind the first z that nothing names die. -/
def killO (z : Nat) (used : List Nat) : Nat → List AObj → List AObj
  | _, [] => []
  | i, x :: r => (if (decide (i < z) || used.contains i) = true then x else .dead) :: killO z used (i + 1) r
def usedBy (env : List (Nat × AV)) (obs : List AObj) : List Nat := (env.flatMap fun p => p.2.oids) ++ obs.flatMap AObj.oids
def tidyS (z m : Nat) (env : List (Nat × AV)) (obs : List AObj) : Option St :=
  if (usedBy env (obs.take m)).all (fun o => decide (o < m)) = true then some ⟨env, killO z (usedBy env (obs.take m)) 0 (obs.take m) ++ List.replicate (m - obs.length) .dead⟩ else none
def ghost (T : Tbl) (g : Gh) (st : St) : Option St :=
  match g with
  | .frz t => match envGet st.env t with
    | .vs o g sz lo hi => (match frzG g sz lo hi (obGet st.obs o) with
      | some (d, x) => some ⟨envPut t (.d d) st.env, st.obs.set o x⟩
      | none => none)
    | .d _ => some st
    | _ => none
  | .mkv t e sz => if szOk T e sz then mkvO t e sz st.env st.obs (envGet st.env t) else none
  | .frb t off => match envGet st.env t with
    | .ptr o k => (match obGet st.obs o with
      | .box cs => (match cs[k + off]? with
        | some (.vs q g sz lo hi) => (match frzG g sz lo hi (obGet st.obs q) with
          | some (d, x) => some ⟨st.env, (st.obs.set q x).set o (.box (cs.set (k + off) (.d d)))⟩
          | none => none)
        | some (.d _) => some st
        | _ => none)
      | _ => none)
    | _ => none
  | .mkb t off e sz => if szOk T e sz then (match envGet st.env t with
    | .ptr o k => (match obGet st.obs o with
      | .box cs => (match cs[k + off]? with
        | some (.d .nils) => some ⟨st.env, st.obs.set o (.box (cs.set (k + off) (.vs st.obs.length 0 sz 0 0))) ++ [.vec 0 true false e sz []]⟩
        | _ => none)
      | _ => none)
    | _ => none) else none
  | .tidy keep z m => tidyS z m (envKeep keep st.env) st.obs

/-- Slots are forgotten only where the code goes on. -/
def ghostE (T : Tbl) (g : Gh) (e : Ex) (st : St) : Option St := match g, e with
  | .tidy k z m, .norm => ghost T (.tidy k z m) st
  | .tidy _ _ _, _ => some st
  | g, _ => ghost T g st

def normSt (st : St) : St := ⟨st.env.map fun p => (p.1, p.2.ren (fun o => o) (obGet st.obs) fun _ => 0), st.obs.map (packO (fun o => o) (obGet st.obs) true)⟩

/-- A result's variable. -/
def resOf (T : Tbl) (st : St) : ResultVar → Option AV
  | .tmp t => some (envGet st.env t)
  | .cell a t => loadF T t (envGet st.env a) (obGet st.obs)
def allSome : List (Option AV) → Option (List AV)
  | [] => some []
  | some x :: r => (match allSome r with | some xs => some (x :: xs) | none => none)
  | none :: _ => none
def one0 : AV → Bool
  | .tup _ => false
  | _ => true
def resultsF (T : Tbl) (st : St) (l : List ResultVar) : Option AV :=
  match l with
  | [r] => resOf T st r
  | l => match allSome (l.map (resOf T st)) with | some xs => if xs.all one0 then some (.tup xs) else none | none => none
/-- What a call leaves: the objects that it was handed, and what its result leads to. -/
def finL (n0 : Nat) (obs : List AObj) (r : AV) : List Nat := reach (obGet obs) fuelL (((List.range n0).flatMap fun o => (obGet obs o).oids) ++ r.oids) (List.range n0)
def finishL (L : List Nat) (obs : List AObj) (r : AV) : Option (AV × List AObj) :=
  if closedB (obGet obs) L [r] && nodupB L then some (r.ren (fun q => L.idxOf q) (obGet obs) (fun _ => 0), packL L (obGet obs) true) else none
def finish (n0 : Nat) (obs : List AObj) (r : AV) : Option (AV × List AObj) := finishL (finL n0 obs r) obs r

/-- The objects that the call was handed are not forgotten. -/
def Gh.keeps (n0 : Nat) : Gh → Bool
  | .tidy _ z m => decide (n0 ≤ z) && decide (n0 ≤ m)
  | _ => true
def tidyB (n0 : Nat) : SC → Bool
  | .seq a b => tidyB n0 a && tidyB n0 b
  | .cond _ a b => tidyB n0 a && tidyB n0 b
  | .block _ b => tidyB n0 b
  | .loop b => tidyB n0 b
  | .pre g c => g.keeps n0 && tidyB n0 c
  | .post c g => g.keeps n0 && tidyB n0 c
  | _ => true

/-- What a call hands back. -/
def endF (T : Tbl) (l : List ResultVar) (n0 : Nat) (st : St) : Option (AV × List AObj) :=
  match resultsF T st l with
  | some x => finish n0 st.obs x
  | none => none

def startEnv : Nat → List AV → List (Nat × AV)
  | _, [] => []
  | i, d :: ds => (i, d) :: startEnv (i + 1) ds

/-! ### What is to be done, and what comes of it -/
inductive Task where
  | exec (c : SC) (st : St)
  | loop (b : SC) (st : St)
  | ops (B : Option (List Nat)) (i nid : Nat) (acc : Acc) (l : List SOp) (st : St)
  | run (f : FuncId) (xs : List AV) (obs : List AObj)
inductive Out where
  | ex (e : Ex) (st : St)
  | st (st : St)
  | av (v : AV) (obs : List AObj)

/-- The program: the functions' code (noted for the arguments), calls that are known otherwise, the types, which structs '==' knows. -/
structure Pg where
  A : FuncId → List AV → List AObj → Option SFn
  X : FuncId → List AV → List AObj → Option (AV × List AObj)
  T : Tbl
  Q : TypeId → Option (List EK)
def chkC (an : Ann) (ob : Nat → AObj) (L : List Nat) (xs : List AV) (n' : Nat) : Bool := closedB ob L xs && nodupB L && decide (n' ≤ L.length + an.lays)
def backX (ob : Nat → AObj) (L : List Nat) (nid : Nat) (r : AV) (obs' : List AObj) : AV := r.ren (backN L nid) (obL obs') (backG ob (obL obs') L)
/-- A call's end. -/
def comeC (an : Ann) (ob : Nat → AObj) (L : List Nat) (xs : List AV) (nid : Nat) (r : AV) (obs' : List AObj) : Option (AV × List (Nat × AObj)) :=
  if chkC an ob L xs obs'.length = true then landC an.dd (backX ob L nid r obs') (backE ob L nid obs') else none

section
variable (C : Pg)

def next (rec : Task → Option Out) : Task → Option Out
  | .exec .skip st => some (.ex .norm st)
  | .exec (.reg ops B) st => match rec (.ops B 0 st.obs.length [] ops (roomFor ops st)) with
    | some (.st st') => some (.ex .norm st')
    | _ => none
  | .exec (.seq a b) st => match rec (.exec a st) with
    | some (.ex e st') => (match e with
      | .norm => rec (.exec b st')
      | .exit id => some (.ex (.exit id) st')
      | .ret => some (.ex .ret st'))
    | _ => none
  | .exec (.cond c a b) st => match evalAV (envGet st.env) c with
    | .d (.bool t) => rec (.exec (bif t then a else b) st)
    | _ => none
  | .exec (.block id b) st => match rec (.exec b st) with
    | some (.ex e st') => some (.ex (e.block id) st')
    | _ => none
  | .exec (.loop b) st => rec (.loop b st)
  | .exec (.exit id) st => some (.ex (.exit id) st)
  | .exec .ret st => some (.ex .ret st)
  | .exec .bad _ => none
  | .exec (.pre g c) st => match ghost C.T g st with
    | some st' => rec (.exec c st')
    | none => none
  | .exec (.post c g) st => match rec (.exec c st) with
    | some (.ex e st') => (match ghostE C.T g e st' with | some st2 => some (.ex e st2) | none => none)
    | _ => none
  | .loop b st => match rec (.exec b st) with
    | some (.ex e st') => (match e with
      | .norm => rec (.loop b (normSt st'))
      | .exit id => some (.ex (.exit id) st')
      | .ret => some (.ex .ret st'))
    | _ => none
  | .ops _ _ _ _ [] st => some (.st st)
  | .ops B i nid acc (o :: r) st => match stepS C.T C.Q o st nid with
    | .val v e => if (keyChk e (nid + o.an.lays) && chkD B i o st e acc) = true then rec (.ops B (i + 1) (nid + o.an.lays) (accD B i o st e acc) r (st.put o.dst v e)) else none
    | .call g xs => match rec (.run g (packX (reachOf (obGet st.obs) xs) (obGet st.obs) xs) (packL (reachOf (obGet st.obs) xs) (obGet st.obs) false)) with
      | some (.av x obs') => (match comeC o.an (obGet st.obs) (reachOf (obGet st.obs) xs) xs nid x obs' with
        | some (v, e) => if chkD B i o st e acc = true then rec (.ops B (i + 1) (nid + o.an.lays) (accD B i o st e acc) r (st.put o.dst v e)) else none
        | none => none)
      | _ => none
    | .bad => none
  | .run f xs obs => match C.X f xs obs with
    | some (y, obs') => some (.av y obs')
    | none => match C.A f xs obs with
      | none => none
      | some s => if xs.length = s.np ∧ tidyB obs.length s.body = true then (match rec (.exec s.body ⟨startEnv 0 xs, obs⟩) with
          | some (.ex e st) => (match e with
            | .exit _ => none
            | .norm => (match endF C.T s.res obs.length st with | some (y, obs') => some (.av y obs') | none => none)
            | .ret => (match endF C.T s.res obs.length st with | some (y, obs') => some (.av y obs') | none => none))
          | _ => none) else none

def go : Nat → Task → Option Out
  | 0, _ => none
  | n + 1, t => next C (go n) t
end

def Le (f g : Task → Option Out) : Prop := ∀ t r, f t = some r → g t = some r

section
variable {C : Pg}

theorem next_mono {f g : Task → Option Out} (h : Le f g) : Le (next C f) (next C g) := by
  intro t r hr
  unfold next at hr ⊢
  split at hr
  · exact hr
  · split at hr
    · rename_i hq; rw [h _ _ hq]; exact hr
    · cases hr
  · split at hr
    · rename_i e st' hq
      rw [h _ _ hq]
      cases e
      · exact h _ _ hr
      · exact hr
      · exact hr
    · cases hr
  · split at hr
    · exact h _ _ hr
    · cases hr
  · split at hr
    · rename_i hq; rw [h _ _ hq]; exact hr
    · cases hr
  · exact h _ _ hr
  · exact hr
  · exact hr
  · exact hr
  · split at hr
    · exact h _ _ hr
    · cases hr
  · split at hr
    · rename_i hq; rw [h _ _ hq]; exact hr
    · cases hr
  · split at hr
    · rename_i e st' hq
      rw [h _ _ hq]
      cases e
      · exact h _ _ hr
      · exact hr
      · exact hr
    · cases hr
  · exact hr
  · split at hr
    · split at hr
      · rename_i hc; rw [if_pos hc]; exact h _ _ hr
      · cases hr
    · split at hr
      · rename_i hq
        rw [h _ _ hq]
        simp only
        split at hr
        · split at hr
          · rename_i hc; simp only [hc, if_true]; exact h _ _ hr
          · cases hr
        · cases hr
      · cases hr
    · cases hr
  · split at hr
    · exact hr
    · split at hr
      · cases hr
      · split at hr
        · rename_i hc
          rw [if_pos hc]
          split at hr
          · rename_i e st' hq
            rw [h _ _ hq]
            cases e <;> exact hr
          · cases hr
        · cases hr

/-- What comes of it, in whatever number of steps. -/
inductive Ev (C : Pg) : Task → Out → Prop
  | mk (rec : Task → Option Out) (t : Task) (r : Out) : (∀ t' r', rec t' = some r' → Ev C t' r') → next C rec t = some r → Ev C t r
theorem Ev.fn {t : Task} {r : Out} (h : Ev C t r) : ∀ r', Ev C t r' → r = r' := by
  induction h with
  | mk rec t r h1 h2 ih =>
    intro r' h'
    cases h' with
    | mk rec' _ _ k1 k2 =>
      let both : Task → Option Out := fun t => match rec t with | some r => some r | none => rec' t
      have l1 : Le rec both := fun t r h => by simp only [both, h]
      have l2 : Le rec' both := fun t r h => by
        simp only [both]
        split
        · rename_i q hq
          rw [ih _ _ hq _ (k1 _ _ h)]
        · exact h
      have e1 := next_mono l1 _ _ h2
      have e2 := next_mono l2 _ _ k2
      rw [e1] at e2
      injection e2
open Classical in
noncomputable def lim (C : Pg) (t : Task) : Option Out := if h : ∃ r, Ev C t r then some h.choose else none
theorem lim_iff {t : Task} {r : Out} : lim C t = some r ↔ Ev C t r := by
  unfold lim
  constructor
  · intro h
    split at h
    · rename_i hx
      injection h with h
      exact h ▸ hx.choose_spec
    · cases h
  · intro h
    have hx : ∃ r, Ev C t r := ⟨r, h⟩
    rw [dif_pos hx, hx.choose_spec.fn r h]
theorem lim_eq (t : Task) : lim C t = next C (lim C) t := by
  cases h : next C (lim C) t with
  | some r => exact lim_iff.2 (.mk (lim C) t r (fun t' r' h' => lim_iff.1 h') h)
  | none =>
    cases h' : lim C t with
    | none => rfl
    | some r =>
      cases lim_iff.1 h' with
      | mk rec _ _ k1 k2 =>
        have := next_mono (C := C) (f := rec) (g := lim C) (fun t r h => lim_iff.2 (k1 t r h)) _ _ k2
        rw [h] at this; cases this
theorem lim_of_go : ∀ {n : Nat} {t : Task} {r : Out}, go C n t = some r → lim C t = some r
  | 0, t, r, h => by cases h
  | n + 1, t, r, h => lim_iff.2 (.mk (go C n) t r (fun t' r' h' => lim_iff.1 (lim_of_go h')) h)
/-- What holds of all that one step brings, if it holds of the parts, holds of all. -/
theorem lim_ind (M : Task → Out → Prop) (h : ∀ rec : Task → Option Out, (∀ t r, rec t = some r → M t r) → ∀ t r, next C rec t = some r → M t r) : ∀ t r, lim C t = some r → M t r := by
  intro t r hr
  replace hr := lim_iff.1 hr
  induction hr with
  | mk rec t r h1 h2 ih => exact h rec ih t r h2
end
end Go.Proofs.YteidaaobppjlbaaV
