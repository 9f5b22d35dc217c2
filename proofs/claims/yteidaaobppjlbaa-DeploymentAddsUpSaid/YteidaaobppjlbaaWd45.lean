/- The plain law of DeploymentAddsUp: each span with an active deployment is concerned by one deployment. -/
import Derived.Test.YteidaaobppjlbaaWd42
import Derived.Test.YteidaaobppjlbaaWd34
import Derived.Test.YteidaaobppjlbaaWd40
import Derived.Test.YteidaaobppjlbaaWd25
set_option linter.unusedVariables false
set_option linter.unusedSimpArgs false
namespace Go.Proofs.YteidaaobppjlbaaV
open Go.RowKit
def hitI (svc : ByteArray) (iv : Int × Int) (x : Spn) : Int := if hitB svc iv x = true then 1 else 0
def cntH (svc : ByteArray) (iv : Int × Int) : List Spn → Int
  | [] => 0
  | x :: S => hitI svc iv x + cntH svc iv S
/-- How many spans of s the deployments concern. -/
def totN (s : ByteArray) (S : List Spn) : List Chg → Int
  | [] => 0
  | c :: r => (if c.kind = 1 ∧ c.svc = s then cntH c.svc (effI c r) S else 0) + totN s S r
def hitN (s : ByteArray) (x : Spn) : List Chg → Int
  | [] => 0
  | c :: r => (if c.kind = 1 ∧ c.svc = s then hitI c.svc (effI c r) x else 0) + hitN s x r
/-- How many spans of s have a deployment. -/
def cntA (L : List Chg) (s : ByteArray) : List Spn → Int
  | [] => 0
  | x :: S => (if x.svc = s ∧ idS L x ≠ 0 then 1 else 0) + cntA L s S
theorem totN_nil (s : ByteArray) : ∀ L, totN s [] L = 0
  | [] => rfl
  | c :: r => by simp [totN, cntH, totN_nil s r]
theorem totN_cons (s : ByteArray) (x : Spn) (S : List Spn) : ∀ L, totN s (x :: S) L = hitN s x L + totN s S L
  | [] => rfl
  | c :: r => by
    have := totN_cons s x S r
    simp only [totN, hitN, this, cntH]
    split <;> omega
theorem nxt_le (s : ByteArray) : ∀ r : List Chg, slotsUp r → ∀ p ∈ r, p.kind = 1 → p.svc = s → nxt s r ≤ p.slot
  | [], _, p, h, _, _ => by cases h
  | q :: r, hs, p, h, h1, h2 => by
    have hs' := List.pairwise_cons.1 hs
    simp only [nxt]
    rcases List.mem_cons.1 h with rfl | h
    · simp [h1, h2]
    · split
      · exact hs'.1 p h
      · exact nxt_le s r hs'.2 p h h1 h2
theorem inB_lo {c : Chg} {r : List Chg} {n : Int} (h : inB (effI c r) n = true) : c.slot ≤ n ∧ n < nextAt c r := by
  simp only [inB, Bool.and_eq_true, decide_eq_true_eq] at h
  unfold effI at h
  split at h
  · simp at h; omega
  · exact h
theorem actC_none (s : ByteArray) (n : Int) : ∀ r : List Chg, (∀ p ∈ r, p.kind = 1 → p.svc = s → n < p.slot) → actC s n r = none
  | [], _ => rfl
  | c :: r, h => by
    have ih := actC_none s n r fun p hp => h p (by simp [hp])
    have : actB s n c r = false := by
      cases hb : actB s n c r with
      | false => rfl
      | true =>
        simp only [actB, Bool.and_eq_true, decide_eq_true_eq] at hb
        have h1 := inB_lo hb.2.2
        have h2 := h c (by simp) hb.1 ((eqS_iff _ _).1 hb.2.1)
        omega
    simp [actC, this, ih]
theorem hitN_act (s : ByteArray) (x : Spn) (hx : x.svc = s) : ∀ L : List Chg, slotsUp L → (∀ p ∈ L, wfC p) → hitN s x L = if (actC s (slotOf x.trace) L).isSome = true then 1 else 0
  | [], _, _ => rfl
  | c :: r, hs, hw => by
    have hs' := List.pairwise_cons.1 hs
    have ih := hitN_act s x hx r hs'.2 fun p hp => hw p (by simp [hp])
    simp only [hitN, actC, ih]
    by_cases hb : actB s (slotOf x.trace) c r = true
    · have hb' := hb
      simp only [actB, Bool.and_eq_true, decide_eq_true_eq] at hb
      have hcs := (eqS_iff _ _).1 hb.2.1
      have hin := inB_lo hb.2.2
      have hn : actC s (slotOf x.trace) r = none := actC_none s _ r fun p hp h1 h2 => by
        rw [nextAt_nxt c (hw c (by simp)) hb.1 r (fun q hq => hw q (by simp [hq])), hcs] at hin
        have := nxt_le s r hs'.2 p hp h1 h2
        omega
      have hh : hitI c.svc (effI c r) x = 1 := by
        unfold hitI hitB
        rw [hx, hcs, eqS_self, hb.2.2]; rfl
      simp [hb', hn, hb.1, hcs] 
      rw [hcs] at hh
      exact hh
    · have hz : (if c.kind = 1 ∧ c.svc = s then hitI c.svc (effI c r) x else 0) = 0 := by
        split
        · rename_i hc
          have : hitB c.svc (effI c r) x = false := by
            cases hq : hitB c.svc (effI c r) x with
            | false => rfl
            | true =>
              simp only [hitB, Bool.and_eq_true] at hq
              exact absurd (by simp [actB, hc.1, hc.2, eqS_self, hq.2]) hb
          simp [hitI, this]
        · rfl
      rw [hz]
      simp [hb]
theorem hitN_other (s : ByteArray) (x : Spn) (hx : x.svc ≠ s) : ∀ L : List Chg, hitN s x L = 0
  | [] => rfl
  | c :: r => by
    rw [hitN, hitN_other s x hx r]
    split
    · rename_i hc
      have : hitB c.svc (effI c r) x = false := by
        cases hq : hitB c.svc (effI c r) x with
        | false => rfl
        | true =>
          simp only [hitB, Bool.and_eq_true] at hq
          exact absurd (((eqS_iff _ _).1 hq.1).trans hc.2) hx
      simp [hitI, this]
    · rfl
theorem idS_act (L : List Chg) (hid : ∀ c ∈ L, 1 ≤ c.id) (x : Spn) : idS L x ≠ 0 ↔ (actS L x).isSome = true := by
  unfold idS
  cases h : actS L x with
  | none => simp [zeroC]
  | some c =>
    have hm : c ∈ L := by
      have key : ∀ (s : ByteArray) (n : Int) (L : List Chg), actC s n L = some c → c ∈ L := by
        intro s n L
        induction L with
        | nil => intro h; cases h
        | cons q r ih =>
          intro h
          simp only [actC] at h
          split at h
          · injection h with h; simp [h]
          · simp [ih h]
      exact key _ _ L h
    have := hid c hm
    simp; omega
theorem adds_up (L : List Chg) (hs : slotsUp L) (hw : ∀ p ∈ L, wfC p) (hid : ∀ c ∈ L, 1 ≤ c.id) (s : ByteArray) : ∀ S : List Spn, cntA L s S = totN s S L
  | [] => by rw [totN_nil]; rfl
  | x :: S => by
    rw [totN_cons, cntA, adds_up L hs hw hid s S]
    congr 1
    by_cases hx : x.svc = s
    · rw [hitN_act s x hx L hs hw]
      have := idS_act L hid x
      unfold actS at this
      rw [hx] at this
      by_cases h : (actC s (slotOf x.trace) L).isSome = true
      · rw [if_pos h, if_pos ⟨hx, this.2 h⟩]
      · rw [if_neg h, if_neg (fun q => h (this.1 q.2))]
    · rw [hitN_other s x hx L, if_neg (fun q => hx q.1)]
theorem cntH_le (svc : ByteArray) (iv : Int × Int) : ∀ S : List Spn, 0 ≤ cntH svc iv S ∧ cntH svc iv S ≤ S.length
  | [] => by simp [cntH]
  | x :: S => by
    have := cntH_le svc iv S
    simp only [cntH, hitI, List.length_cons]
    split <;> omega
theorem cntA_le (L : List Chg) (s : ByteArray) : ∀ S : List Spn, 0 ≤ cntA L s S ∧ cntA L s S ≤ S.length
  | [] => by simp [cntA]
  | x :: S => by
    have := cntA_le L s S
    simp only [cntA, List.length_cons]
    split <;> omega
theorem totN_le (s : ByteArray) (S : List Spn) : ∀ L : List Chg, 0 ≤ totN s S L ∧ totN s S L ≤ L.length * S.length
  | [] => by simp [totN]
  | c :: r => by
    have h1 := totN_le s S r
    have h2 := cntH_le c.svc (effI c r) S
    simp only [totN, List.length_cons]
    have : ((r.length + 1 : Nat) : Int) * S.length = r.length * S.length + S.length := by rw [Int.natCast_add, Int.add_mul]; simp
    rw [this]
    split <;> omega
theorem expF_a (svc : ByteArray) (iv : Int × Int) : ∀ (S : List Spn) (e : Exq), 0 ≤ e.a → e.a + S.length < 1000000 → (expF svc iv e S).a = e.a + cntH svc iv S
  | [], e, _, _ => by simp [expF, cntH]
  | x :: S, e, h0, h1 => by
    simp only [List.length_cons] at h1
    simp only [expF, cntH, hitI]
    split
    · have hw : IntKind.i64.wrap (e.a + 1) = e.a + 1 := wrap64 (by omega) (by omega)
      rw [expF_a svc iv S (e.add x) (by simp [Exq.add, hw]; omega) (by simp [Exq.add, hw]; omega)]
      simp [Exq.add, hw]; omega
    · rw [expF_a svc iv S e h0 (by omega)]; omega
theorem decL_mem2 : ∀ (l : List Stp) (i : Nat) (c : Chg), c ∈ decL i l → ∃ x ∈ l, ∃ j, c = x.chg j
  | [], i, c, h => by simp [decL] at h
  | x :: l, i, c, h => by
    simp only [decL, List.mem_cons] at h
    rcases h with rfl | h
    · exact ⟨x, by simp, _, rfl⟩
    · obtain ⟨y, h1, h2⟩ := decL_mem2 l (i + 1) c h
      exact ⟨y, by simp [h1], h2⟩
theorem changes_wf2 (l : List Stp) (hok : ∀ x ∈ l, x.ok) : ∀ c ∈ changesC l, wfC c := by
  intro c hc
  obtain ⟨x, hx, j, rfl⟩ := decL_mem2 _ _ c ((sort_up _).2 c hc)
  obtain ⟨_, ⟨a0, _⟩, _⟩ := hok x (List.mem_of_mem_take hx)
  have := tmod_lt a0 (n := 64) (by omega)
  refine ⟨by show x.slot.tmod 64 ≤ 63; omega, fun hk => ?_⟩
  have hk' : 1 + x.kind.tmod 3 = 1 := hk
  simp [Stp.chg, hk']
theorem changes_id (l : List Stp) : ∀ c ∈ changesC l, 1 ≤ c.id := fun c hc => by
  have := decL_id _ _ c ((sort_up _).2 c hc)
  simpa using this
theorem cntA_app (L : List Chg) (s : ByteArray) (x : Spn) : ∀ S : List Spn, cntA L s (S ++ [x]) = cntA L s S + if x.svc = s ∧ idS L x ≠ 0 then 1 else 0
  | [] => by simp [cntA]
  | y :: S => by simp only [List.cons_append, cntA, cntA_app L s x S]; omega
end Go.Proofs.YteidaaobppjlbaaV
