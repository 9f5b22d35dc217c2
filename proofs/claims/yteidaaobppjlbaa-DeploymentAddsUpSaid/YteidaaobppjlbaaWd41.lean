/- A story out of an argument. -/
import Derived.Test.YteidaaobppjlbaaWd35
import Derived.Test.YteidaaobppjlbaaVC
set_option linter.unusedVariables false
set_option linter.unusedSimpArgs false
namespace Go.Proofs.YteidaaobppjlbaaV
open Go.RowKit
theorem cal_of {n : Nat} {cs : List D} (h : CellOk TT (n + 2) 154 cs) : ∃ c : Cal, D.agg cs = c.enc ∧ c.ok := by
  simp only [CellOk, T154] at h
  obtain ⟨h1, h2⟩ := h
  match cs, h1 with
  | [a, b, c, d, e, f, g, h, i, j, k], _ =>
    simp [T5, T4] at h2
    obtain ⟨⟨x1, rfl, w1⟩, ⟨x2, rfl, w2⟩, ⟨x3, rfl, w3⟩, ⟨x4, rfl, w4⟩, ⟨x5, rfl, w5⟩, ⟨x6, rfl, w6⟩, ⟨x7, rfl, w7⟩, ⟨x8, rfl, w8⟩, ⟨x9, rfl, w9⟩, ⟨x10, rfl, w10⟩, hk⟩ := h2
    obtain ⟨x11, rfl⟩ : ∃ b, k = .bool b := by rcases hk with h | h <;> exact ⟨_, h⟩
    exact ⟨⟨x1, x2, x3, x4, x5, x6, x7, x8, x9, x10, x11⟩, rfl, ⟨wf_u8 w1, wf_u8 w2, wf_u8 w3, wf_u8 w4, wf_u8 w5, wf_u8 w6, wf_u8 w7, wf_u8 w8, wf_u8 w9, wf_u8 w10⟩⟩
theorem tre_of {n : Nat} {cs : List D} (h : CellOk TT (n + 4) 103 cs) : ∃ c : Tre, D.agg cs = c.enc ∧ c.ok := by
  rw [CellOk, T103] at h
  simp only at h
  obtain ⟨h1, h2⟩ := h
  match cs, h1 with
  | [a, b, c], _ =>
    have q1 := h2 (0, 5, 1) (by simp)
    have q2 := h2 (1, 5, 1) (by simp)
    have q3 := h2 (2, 101, 1) (by simp)
    simp [CellOk, T5] at q1 q2
    obtain ⟨x1, rfl, w1⟩ := q1
    obtain ⟨x2, rfl, w2⟩ := q2
    obtain ⟨d, l, e1, e2, _, e3, e4⟩ := cellList T101 T154 Cal.enc Cal.ok (fun cs _ h => cal_of h) q3
    simp at e1
    subst e1
    exact ⟨⟨x1, x2, c, l⟩, rfl, ⟨wf_u8 w1, wf_u8 w2, e2, e4, e3⟩⟩
theorem sto_of {n : Nat} {d : D} (h : ValOk TT (n + 6) 50 d) : ∃ s : Sto, d = s.enc ∧ s.ok := by
  obtain ⟨i, cs, hi, rfl, hl, h⟩ := h
  rw [T50] at hi
  injection hi with hi; subst hi
  rw [CellOk, T50] at h
  simp only at h
  obtain ⟨h1, h2⟩ := h
  match cs, h1 with
  | [a, b, c, d, e, f, g], _ =>
    have q1 := h2 (0, 45, 1) (by simp)
    have q2 := h2 (1, 47, 4) (by simp)
    have q3 := h2 (5, 48, 1) (by simp)
    have q4 := h2 (6, 5, 1) (by simp)
    obtain ⟨d1, l1, e1, e2, e3, e4, e5⟩ := cellList T45 T103 Tre.enc Tre.ok (fun cs _ h => tre_of h) q1
    obtain ⟨d3, l3, f1, f2, f3, f4, f5⟩ := cellList T48 T194 (id : D → D) (fun _ => True) (fun cs _ h => ⟨_, rfl, trivial⟩) q3
    simp [CellOk, T5] at q4
    obtain ⟨x4, rfl, w4⟩ := q4
    rw [CellOk, T47] at q2
    simp only at q2
    obtain ⟨_, ie, hie, q2⟩ := q2
    rw [T46] at hie
    injection hie with hie; subst hie
    have r1 := q2 0 (by omega)
    have r2 := q2 1 (by omega)
    have r3 := q2 2 (by omega)
    have r4 := q2 3 (by omega)
    simp [CellOk, T46] at r1 r2 r3 r4
    obtain ⟨y1, rfl, _⟩ := r1
    obtain ⟨y2, rfl, _⟩ := r2
    obtain ⟨y3, rfl, _⟩ := r3
    obtain ⟨y4, rfl, _⟩ := r4
    simp at e1 f1
    subst e1 f1
    simp only [List.map_id] at f2
    simp at e3
    exact ⟨⟨a, l1, y1, y2, y3, y4, f, l3, x4⟩, rfl, ⟨e2, e5, f2, wf_u8 w4, by show l1.length < _; omega⟩⟩
end Go.Proofs.YteidaaobppjlbaaV
