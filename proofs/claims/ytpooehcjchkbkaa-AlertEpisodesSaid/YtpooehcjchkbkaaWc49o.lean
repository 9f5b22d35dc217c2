/- A described rule over a described input. -/
import Derived.Test.YtpooehcjchkbkaaWc49n
set_option linter.unusedVariables false
set_option linter.unusedSimpArgs false
namespace Go.Proofs.YtpooehcjchkbkaaV
open Go.RowKit
/-- Pairs of errors and traffic. -/
def prs (l : List (Int × Int)) : List (Int × Int) := l.map fun p => (if p.2 < p.1 then p.2 else p.1, p.1)
theorem prs_zip : ∀ (l : List (Int × Int)), zipV (errL l) (trfL l) = prs l
  | [] => rfl
  | a :: l => by
    have h := prs_zip l
    simp only [errL, trfL, prs] at h
    simp only [errL, trfL, prs, List.map_cons, zipV, h]
/-- What is known of a described input from a slot on. -/
structure Inp (x : Lim) (f : Int) (l : List (Int × Int)) : Prop where
  lim : x.ok
  frm : 0 ≤ f ∧ f ≤ 1000000
  len : l.length ≤ 16
  ok : okP l
theorem Inp.e1 {x : Lim} {f : Int} {l : List (Int × Int)} (h : Inp x f l) : SerE (serM 2 f (errL l)) 0 :=
  serIn_run 2 f _ (.inr rfl) h.frm (by have := h.len; simp [errL]; omega) (errL_bad l h.ok)
theorem Inp.e2 {x : Lim} {f : Int} {l : List (Int × Int)} (h : Inp x f l) : SerE (serM 1 f (trfL l)) 0 :=
  serIn_run 1 f _ (.inl rfl) h.frm (by have := h.len; simp [trfL]; omega) (trfL_bad l h.ok)
theorem Inp.i64 {x : Lim} {f : Int} {l : List (Int × Int)} (h : Inp x f l) : isI64 f := by
  have := h.frm; unfold isI64; omega
theorem Inp.o1 {x : Lim} {f : Int} {l : List (Int × Int)} (h : Inp x f l) : (serM 2 f (errL l)).ok :=
  serM_ok h.i64 (by have := h.len; simp [errL]; omega)
theorem Inp.o2 {x : Lim} {f : Int} {l : List (Int × Int)} (h : Inp x f l) : (serM 1 f (trfL l)).ok :=
  serM_ok h.i64 (by have := h.len; simp [trfL]; omega)
theorem errL_len (l : List (Int × Int)) : (errL l).length = l.length := by simp [errL]
theorem trfL_len (l : List (Int × Int)) : (trfL l).length = l.length := by simp [trfL]
/-- The states of the rule. -/
def stsR (r : Rul) (l : List (Int × Int)) : List Int := (Mon.new r).sts (prs l)
theorem stsR_len (r : Rul) (l : List (Int × Int)) : (stsR r l).length = l.length := by simp [stsR, sts_len, prs]
theorem states18_in {x : Lim} {f : Int} {l : List (Int × Int)} (h : Inp x f l) : run CC 18 [.d x.rul.enc, .d (serM 2 f (errL l)).enc, .d (serM 1 f (trfL l)).enc] [] = some (.tup [.d (.sl ((stsR x.rul l).map (D.int .i64))), .d (.int .i64 0)], []) := by
  have := states18_run x.rul _ _ h.o1 h.o2 0 0 h.e1 h.e2 (chk_in x h.lim f l h.len h.ok) (by show (errL l).length ≤ 256; rw [errL_len]; have := h.len; omega)
  rw [this]
  show some (AV.tup [.d (.sl (((Mon.new x.rul).sts (zipV (errL l) (trfL l))).map (D.int .i64))), _], _) = _
  rw [prs_zip]; rfl
theorem eps19_in {x : Lim} {f : Int} {l : List (Int × Int)} (h : Inp x f l) : run CC 19 [.d x.rul.enc, .d (serM 2 f (errL l)).enc, .d (serM 1 f (trfL l)).enc] [] = some (.tup [.d (.sl ((epRun f 0 0 [] (stsR x.rul l)).map Ep.enc)), .d (.int .i64 0)], []) := by
  have := eps19_run x.rul _ _ h.o1 h.o2 0 0 h.e1 h.e2 (chk_in x h.lim f l h.len h.ok) (by show (errL l).length ≤ 256; rw [errL_len]; have := h.len; omega)
  rw [this]
  show some (AV.tup [.d (.sl ((epRun f 0 0 [] ((Mon.new x.rul).sts (zipV (errL l) (trfL l)))).map Ep.enc)), _], _) = _
  rw [prs_zip]; rfl
theorem states22_in {x : Lim} {f : Int} {l : List (Int × Int)} (h : Inp x f l) : run CC 22 [.d x.rul.enc, .d (.sl ((errL l).map (D.int .i64))), .d (.sl ((trfL l).map (D.int .i64)))] [] = some (.d (.sl ((stsR x.rul l).map (D.int .i64))), []) := by
  obtain ⟨f1, f2, f3, f4, f5, f6⟩ := chk_facts h.e1.1 (chk_in x h.lim f l h.len h.ok)
  have e : zipV (serM 2 f (errL l)).vals (serM 1 f (trfL l)).vals = prs l := prs_zip l
  rw [e] at f3 f4
  have z1 := zipV_fst (errL l) (trfL l) (by rw [errL_len, trfL_len])
  have z2 := zipV_snd (errL l) (trfL l) (by rw [errL_len, trfL_len])
  rw [prs_zip] at z1 z2
  exact states22_run x.rul _ _ (prs l) f1 (by rw [z1]; rfl) (by rw [z2]; rfl) (by have := h.len; simp [prs]; omega) f3 f4
theorem loa_inp {x : Lim} {y : Loa} (hx : x.ok) (hy : y.ok) : Inp x y.frm (y.slots.take 16) :=
  ⟨hx, by have := hy.frm; unfold isU8 at this; omega, by simp; omega, fun p hp => hy.all p (List.mem_of_mem_take hp)⟩
end Go.Proofs.YtpooehcjchkbkaaV
