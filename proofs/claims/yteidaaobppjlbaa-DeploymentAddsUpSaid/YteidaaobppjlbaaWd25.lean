/- The plain law of DeploymentTiles. -/
import Derived.Test.YteidaaobppjlbaaWd24
set_option linter.unusedVariables false
set_option linter.unusedSimpArgs false
namespace Go.Proofs.YteidaaobppjlbaaV
open Go.RowKit
def nxt (s : ByteArray) : List Chg → Int
  | [] => 1048577
  | p :: r => if p.kind = 1 ∧ p.svc = s then p.slot else nxt s r
def wfC (c : Chg) : Prop := c.slot ≤ 63 ∧ (c.kind = 1 → c.tgt = ⟨#[]⟩)
theorem nextAt_nxt (c : Chg) (hc : wfC c) (hk : c.kind = 1) : ∀ r : List Chg, (∀ p ∈ r, wfC p) → nextAt c r = nxt c.svc r
  | [], _ => rfl
  | p :: r, h => by
    have ih := nextAt_nxt c hc hk r fun q hq => h q (by simp [hq])
    have hp := h p (by simp)
    simp only [nextAt, nxt, ih]
    have e : (p.about c = true) ↔ (p.kind = 1 ∧ p.svc = c.svc) := by
      simp only [Chg.about, Bool.and_eq_true, decide_eq_true_eq, eqS_iff, hk]
      constructor
      · exact fun h => ⟨h.1, h.2.1⟩
      · exact fun h => ⟨h.1, h.2, by rw [hp.2 h.1, hc.2 hk]⟩
    by_cases h1 : p.about c = true
    · rw [if_pos h1, if_pos (e.1 h1)]
    · rw [if_neg h1, if_neg (fun h2 => h1 (e.2 h2))]
theorem nxt_ge (s : ByteArray) (a : Int) (ha : a ≤ 63) : ∀ r : List Chg, (∀ p ∈ r, a ≤ p.slot) → a ≤ nxt s r
  | [], _ => by simp [nxt]; omega
  | p :: r, h => by
    simp only [nxt]
    split
    · exact h p (by simp)
    · exact nxt_ge s a ha r fun q hq => h q (by simp [hq])
theorem nxt_mem (s : ByteArray) : ∀ r : List Chg, nxt s r ≠ 1048577 → ∃ p ∈ r, p.kind = 1 ∧ p.svc = s
  | [], h => absurd rfl h
  | p :: r, h => by
    simp only [nxt] at h
    split at h
    · rename_i h1; exact ⟨p, by simp, h1⟩
    · obtain ⟨q, h1, h2⟩ := nxt_mem s r h; exact ⟨q, by simp [h1], h2⟩
theorem tiles_main : ∀ (suf : List Chg) (m : List (ByteArray × Int)), slotsUp suf → (∀ p ∈ suf, wfC p) → (∀ s v, lookP strK s m = some v → v = nxt s suf) →
    ∃ M, tilesF m (rolL suf) = some M ∧ (∀ c ∈ suf, c.kind = 1 → lookP strK c.svc M = some 1048577) ∧ ∀ s v, lookP strK s m = some v → lookP strK s M = some 1048577
  | [], m, _, _, hm => ⟨m, rfl, by simp, fun s v h => by rw [h, hm s v h]; rfl⟩
  | c :: r, m, hs, hw, hm => by
    have hs' := List.pairwise_cons.1 hs
    have hwc := hw c (by simp)
    have hwr : ∀ p ∈ r, wfC p := fun p hp => hw p (by simp [hp])
    by_cases hk : c.kind = 1
    · have hn := nextAt_nxt c hwc hk r hwr
      have hge := nxt_ge c.svc c.slot hwc.1 r hs'.1
      by_cases he : nxt c.svc r ≤ c.slot
      · have heq : nxt c.svc r = c.slot := by omega
        have hrol : rolL (c :: r) = rolL r := by simp [rolL, effI, hn, he]
        obtain ⟨M, h1, h2, h3⟩ := tiles_main r m hs'.2 hwr fun s v h => by
          have := hm s v h
          simp only [nxt] at this
          split at this
          · rename_i h4; rw [← h4.2, this, heq]
          · exact this
        obtain ⟨p, hp, hp1, hp2⟩ := nxt_mem c.svc r (by have := hwc.1; omega)
        refine ⟨M, by rw [hrol]; exact h1, fun q hq hq1 => ?_, h3⟩
        rcases List.mem_cons.1 hq with rfl | hq
        · rw [← hp2]; exact h2 p hp hp1
        · exact h2 q hq hq1
      · have hef : effI c r = (c.slot, nxt c.svc r) := by simp [effI, hn, he]
        have hne : ¬ effI c r = (0, 0) := by rw [hef]; intro h; injection h with h1 h2; omega
        have hrol : rolL (c :: r) = ⟨c.id, c.svc, c.ver, c.slot, nxt c.svc r⟩ :: rolL r := by
          show (if _ then _ else _) = _
          rw [if_pos ⟨hk, hne⟩, hef]
        obtain ⟨M, h1, h2, h3⟩ := tiles_main r (putP strK c.svc (nxt c.svc r) m) hs'.2 hwr fun s v h => by
          rw [look_put] at h
          split at h
          · rename_i h4; injection h with h; rw [← h, (strK.eq s c.svc).1 h4]
          · rename_i h4
            have := hm s v h
            simp only [nxt] at this
            split at this
            · rename_i h5; exact absurd ((strK.eq s c.svc).2 h5.2.symm) h4
            · exact this
        have hself : lookP strK c.svc (putP strK c.svc (nxt c.svc r) m) = some (nxt c.svc r) := by rw [look_put, if_pos ((strK.eq _ _).2 rfl)]
        refine ⟨M, ?_, fun q hq hq1 => ?_, fun s v h => ?_⟩
        · rw [hrol]
          show (if _ then _ else _) = _
          have hcond : (∀ a, lookP strK c.svc m = some a → a = c.slot) ∧ c.slot < nxt c.svc r := ⟨fun a ha => by
            have := hm c.svc a ha
            simpa [nxt, hk] using this, by omega⟩
          rw [if_pos hcond]
          exact h1
        · rcases List.mem_cons.1 hq with rfl | hq
          · exact h3 _ _ hself
          · exact h2 q hq hq1
        · by_cases h4 : strK.eqb s c.svc = true
          · rw [(strK.eq s c.svc).1 h4]; exact h3 _ _ hself
          · exact h3 s v (by rw [look_put, if_neg h4]; exact h)
    · have hrol : rolL (c :: r) = rolL r := by simp [rolL, hk]
      obtain ⟨M, h1, h2, h3⟩ := tiles_main r m hs'.2 hwr fun s v h => by
        have := hm s v h
        simpa [nxt, hk] using this
      refine ⟨M, by rw [hrol]; exact h1, fun q hq hq1 => ?_, h3⟩
      rcases List.mem_cons.1 hq with rfl | hq
      · exact absurd hq1 hk
      · exact h2 q hq hq1
end Go.Proofs.YteidaaobppjlbaaV
