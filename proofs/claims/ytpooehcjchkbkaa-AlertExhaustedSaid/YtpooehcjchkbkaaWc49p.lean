/- Rules that are stricter; any permitted rule over a described input. -/
import Derived.Test.YtpooehcjchkbkaaWc49o
set_option linter.unusedVariables false
set_option linter.unusedSimpArgs false
namespace Go.Proofs.YtpooehcjchkbkaaV
open Go.RowKit
theorem chk_inR (r : Rul) (h1 : r.chk = 0) (hs : r.svc = apiB) (ho : r.op = ⟨#[]⟩) (f : Int) (l : List (Int × Int)) (hl : l.length ≤ 16) (h : okP l) : chkI r 0 0 (serM 2 f (errL l)) (serM 1 f (trfL l)) = 0 := by
  have h2 : okC r (serM 2 f (errL l)) (serM 1 f (trfL l)) = true := by
    have e1 : eqS apiB r.svc = true := by
      rw [hs]
      decide +kernel
    have e2 : eqS ⟨#[]⟩ r.op = true := by
      rw [ho]
      decide +kernel
    simp [okC, serM, e1, e2, errL, trfL]
  have h3 := trfL_sum l h
  have h4 := errL_gt l
  unfold chkI
  rw [if_neg (by simp [h1]), if_neg (by simp), if_neg (by simp), if_neg (by simp [serM]), if_neg (by simp [h2]), if_neg (by show ¬ gtAny (errL l) (trfL l) = true; simp [h4]), if_neg (by show ¬ _ < sumL (trfL l); omega)]
theorem states18_inR {x : Lim} {f : Int} {l : List (Int × Int)} (h : Inp x f l) (r : Rul) (h1 : r.chk = 0) (hs : r.svc = apiB) (ho : r.op = ⟨#[]⟩) : run CC 18 [.d r.enc, .d (serM 2 f (errL l)).enc, .d (serM 1 f (trfL l)).enc] [] = some (.tup [.d (.sl ((stsR r l).map (D.int .i64))), .d (.int .i64 0)], []) := by
  have := states18_run r _ _ h.o1 h.o2 0 0 h.e1 h.e2 (chk_inR r h1 hs ho f l h.len h.ok) (by show (errL l).length ≤ 256; rw [errL_len]; have := h.len; omega)
  rw [this]
  show some (AV.tup [.d (.sl (((Mon.new r).sts (zipV (errL l) (trfL l))).map (D.int .i64))), _], _) = _
  rw [prs_zip]; rfl
def leL : List Int → List Int → Prop
  | a :: l, b :: m => a ≤ b ∧ leL l m
  | [], [] => True
  | _, _ => False
theorem lowI_mono {r1 r2 : Rul} (ht : r2.target = r1.target) (hl : r2.long = r1.long) (hs : r2.short = r1.short) (hb : r1.burn ≤ r2.burn) (h : List (Int × Int)) (q : lowI r1 h = true) : lowI r2 h = true := by
  unfold lowI at q ⊢
  rw [ht, hl, hs]
  simp at q ⊢
  omega
/-- A stricter rule is never in a higher state. -/
theorem sts_mono (r1 r2 : Rul) (ht : r2.target = r1.target) (hl : r2.long = r1.long) (hs : r2.short = r1.short) (hb : r1.burn ≤ r2.burn) (hf : r1.forr ≤ r2.forr) : ∀ (l : List (Int × Int)) (M1 M2 : Mon), M1.rul = r1 → M2.rul = r2 → M2.hist = M1.hist → 0 ≤ M2.held → M2.held ≤ M1.held → leL (M2.sts l) (M1.sts l)
  | [], _, _, _, _, _, _, _ => trivial
  | a :: l, M1, M2, e1, e2, e3, e4, e5 => by
    have ih := sts_mono r1 r2 ht hl hs hb hf l (M1.obs a.1 a.2) (M2.obs a.1 a.2) (by rw [obs_rul, e1]) (by rw [obs_rul, e2]) (by rw [obs_hist, obs_hist, e3])
    simp only [Mon.sts, leL]
    by_cases q1 : lowI r1 (M1.hist ++ [(a.1, a.2)]) = true
    · have q2 := lowI_mono ht hl hs hb _ q1
      have o1 : M1.obs a.1 a.2 = ⟨M1.rul, M1.hist ++ [(a.1, a.2)], M1.seen + 1, 0, 0⟩ := by rw [Mon.obs, e1, if_pos q1]
      have o2 : M2.obs a.1 a.2 = ⟨M2.rul, M2.hist ++ [(a.1, a.2)], M2.seen + 1, 0, 0⟩ := by rw [Mon.obs, e2, e3, if_pos q2]
      rw [o1, o2] at ih ⊢
      exact ⟨Int.le_refl _, ih (Int.le_refl _) (Int.le_refl _)⟩
    · have o1 : M1.obs a.1 a.2 = ⟨M1.rul, M1.hist ++ [(a.1, a.2)], M1.seen + 1, M1.held + 1, if M1.rul.forr < M1.held + 1 then 2 else 1⟩ := by rw [Mon.obs, e1, if_neg q1]
      by_cases q2 : lowI r2 (M1.hist ++ [(a.1, a.2)]) = true
      · have o2 : M2.obs a.1 a.2 = ⟨M2.rul, M2.hist ++ [(a.1, a.2)], M2.seen + 1, 0, 0⟩ := by rw [Mon.obs, e2, e3, if_pos q2]
        rw [o1, o2] at ih ⊢
        refine ⟨?_, ih (Int.le_refl _) (by simp only; omega)⟩
        simp only
        split <;> omega
      · have o2 : M2.obs a.1 a.2 = ⟨M2.rul, M2.hist ++ [(a.1, a.2)], M2.seen + 1, M2.held + 1, if M2.rul.forr < M2.held + 1 then 2 else 1⟩ := by rw [Mon.obs, e2, e3, if_neg q2]
        rw [o1, o2] at ih ⊢
        refine ⟨?_, ih (by simp only; omega) (by simp only; omega)⟩
        simp only [e1, e2]
        split <;> split <;> omega
end Go.Proofs.YtpooehcjchkbkaaV
