/- The monitor's box as one thing: a rule, a ring of samples, three numbers. -/
import Derived.Test.YtpooehcjchkbkaaWc49d
import Derived.Test.YtpooehcjchkbkaaWc49e
set_option linter.unusedVariables false
set_option linter.unusedSimpArgs false
set_option maxRecDepth 100000
namespace Go.Proofs.YtpooehcjchkbkaaV
open Go.RowKit
structure Mon where
  (rul : Rul) (hist : List (Int × Int)) (seen held state : Int)
def sam (p : Int × Int) : List AV := [.d (.str ⟨#[]⟩), .d (.str ⟨#[]⟩), .d (.int .i64 p.1), .d (.int .i64 p.2)]
def ringF (f : Nat → Int × Int) (n : Nat) : List AV := (List.range n).flatMap fun i => sam (f i)
def histF (h : List (Int × Int)) (i : Nat) : Int × Int := h[i]?.getD (0, 0)
def Rul.cells (r : Rul) : List AV := [.d (.str r.name), .d (.str r.svc), .d (.str r.op), .d (.int .i64 r.target), .d (.int .i64 r.long), .d (.int .i64 r.short), .d (.int .i64 r.burn), .d (.int .i64 r.forr)]
def monL (M : Mon) : List AV := M.rul.cells ++ (ringF (histF M.hist) 256 ++ [.d (.int .i64 M.seen), .d (.int .i64 M.held), .d (.int .i64 M.state)])
theorem ringF_succ (f : Nat → Int × Int) (n : Nat) : ringF f (n + 1) = ringF f n ++ sam (f n) := by
  simp [ringF, List.range_succ]
theorem ringF_len (f : Nat → Int × Int) : ∀ n, (ringF f n).length = n * 4
  | 0 => rfl
  | n + 1 => by rw [ringF_succ, List.length_append, ringF_len f n]; simp [sam]; omega
theorem ringF_get (f : Nat → Int × Int) : ∀ n j, j < n * 4 → (ringF f n)[j]? = (sam (f (j / 4)))[j % 4]?
  | 0, j, h => by omega
  | n + 1, j, h => by
    rw [ringF_succ]
    by_cases q : j < n * 4
    · rw [List.getElem?_append_left (by rw [ringF_len]; exact q), ringF_get f n j q]
    · rw [List.getElem?_append_right (by rw [ringF_len]; omega), ringF_len]
      have h1 : j / 4 = n := by omega
      have h2 : j - n * 4 = j % 4 := by omega
      rw [h1, h2]
theorem monL_len (M : Mon) : (monL M).length = 1035 := by
  simp [monL, Rul.cells, ringF_len]
theorem monL_get (M : Mon) (j : Nat) : (monL M)[j]? = if j < 8 then M.rul.cells[j]? else if j < 1032 then (sam (histF M.hist ((j - 8) / 4)))[(j - 8) % 4]? else [AV.d (.int .i64 M.seen), .d (.int .i64 M.held), .d (.int .i64 M.state)][j - 1032]? := by
  unfold monL
  by_cases h1 : j < 8
  · rw [List.getElem?_append_left (by simpa [Rul.cells] using h1), if_pos h1]
  · rw [List.getElem?_append_right (by simp [Rul.cells]; omega), if_neg h1]
    have e : M.rul.cells.length = 8 := rfl
    rw [e]
    by_cases h2 : j < 1032
    · rw [List.getElem?_append_left (by rw [ringF_len]; omega), ringF_get _ _ _ (by omega), if_pos h2]
    · rw [List.getElem?_append_right (by rw [ringF_len]; omega), ringF_len, if_neg h2]
      congr 1
theorem mon_g0 (M : Mon) : (monL M)[0]? = some (.d (.str M.rul.name)) := by rw [monL_get]; rfl
theorem mon_g3 (M : Mon) : (monL M)[3]? = some (.d (.int .i64 M.rul.target)) := by rw [monL_get]; rfl
theorem mon_g4 (M : Mon) : (monL M)[4]? = some (.d (.int .i64 M.rul.long)) := by rw [monL_get]; rfl
theorem mon_g5 (M : Mon) : (monL M)[5]? = some (.d (.int .i64 M.rul.short)) := by rw [monL_get]; rfl
theorem mon_g6 (M : Mon) : (monL M)[6]? = some (.d (.int .i64 M.rul.burn)) := by rw [monL_get]; rfl
theorem mon_g7 (M : Mon) : (monL M)[7]? = some (.d (.int .i64 M.rul.forr)) := by rw [monL_get]; rfl
theorem mon_g1032 (M : Mon) : (monL M)[1032]? = some (.d (.int .i64 M.seen)) := by rw [monL_get]; rfl
theorem mon_g1033 (M : Mon) : (monL M)[1033]? = some (.d (.int .i64 M.held)) := by rw [monL_get]; rfl
theorem mon_g1034 (M : Mon) : (monL M)[1034]? = some (.d (.int .i64 M.state)) := by rw [monL_get]; rfl
theorem mon_e0 (M : Mon) (h : 0 < (monL M).length) : (monL M)[0] = .d (.str M.rul.name) := Option.some.inj ((List.getElem?_eq_getElem h).symm.trans (mon_g0 M))
theorem mon_e3 (M : Mon) (h : 3 < (monL M).length) : (monL M)[3] = .d (.int .i64 M.rul.target) := Option.some.inj ((List.getElem?_eq_getElem h).symm.trans (mon_g3 M))
theorem mon_e4 (M : Mon) (h : 4 < (monL M).length) : (monL M)[4] = .d (.int .i64 M.rul.long) := Option.some.inj ((List.getElem?_eq_getElem h).symm.trans (mon_g4 M))
theorem mon_e5 (M : Mon) (h : 5 < (monL M).length) : (monL M)[5] = .d (.int .i64 M.rul.short) := Option.some.inj ((List.getElem?_eq_getElem h).symm.trans (mon_g5 M))
theorem mon_e6 (M : Mon) (h : 6 < (monL M).length) : (monL M)[6] = .d (.int .i64 M.rul.burn) := Option.some.inj ((List.getElem?_eq_getElem h).symm.trans (mon_g6 M))
theorem mon_e7 (M : Mon) (h : 7 < (monL M).length) : (monL M)[7] = .d (.int .i64 M.rul.forr) := Option.some.inj ((List.getElem?_eq_getElem h).symm.trans (mon_g7 M))
theorem mon_e1032 (M : Mon) (h : 1032 < (monL M).length) : (monL M)[1032] = .d (.int .i64 M.seen) := Option.some.inj ((List.getElem?_eq_getElem h).symm.trans (mon_g1032 M))
theorem mon_e1033 (M : Mon) (h : 1033 < (monL M).length) : (monL M)[1033] = .d (.int .i64 M.held) := Option.some.inj ((List.getElem?_eq_getElem h).symm.trans (mon_g1033 M))
theorem mon_e1034 (M : Mon) (h : 1034 < (monL M).length) : (monL M)[1034] = .d (.int .i64 M.state) := Option.some.inj ((List.getElem?_eq_getElem h).symm.trans (mon_g1034 M))
/-- A list with some cells written is another one. -/
theorem put_eq {L K ds : List AV} {k n : Nat} (hl : L.length = 1035) (hk : K.length = 1035) (hd : ds.length = n) (hn : k + n ≤ 1035) (h1 : ∀ j, j < 1035 → (j < k ∨ k + n ≤ j) → L[j]? = K[j]?) (h2 : ∀ j, j < n → ds[j]? = K[k + j]?) : L.take k ++ (ds ++ L.drop (k + n)) = K := by
  apply List.ext_getElem?
  intro j
  by_cases q1 : j < k
  · rw [List.getElem?_append_left (by rw [List.length_take]; omega), List.getElem?_take_of_lt q1]
    exact h1 j (by omega) (.inl q1)
  · rw [List.getElem?_append_right (by rw [List.length_take]; omega), List.length_take, Nat.min_eq_left (by omega)]
    by_cases q2 : j < k + n
    · rw [List.getElem?_append_left (by omega), h2 (j - k) (by omega)]
      congr 1; omega
    · rw [List.getElem?_append_right (by omega), hd, List.getElem?_drop]
      have e : k + n + (j - k - n) = j := by omega
      rw [e]
      by_cases q3 : j < 1035
      · exact h1 j q3 (.inr (by omega))
      · rw [List.getElem?_eq_none (by omega), List.getElem?_eq_none (by omega)]
theorem mon_s1032 (M : Mon) (x : Int) : (monL M).take 1032 ++ AV.d (.int .i64 x) :: (monL M).drop 1033 = monL {M with seen := x} := by
  refine put_eq (ds := [_]) (n := 1) (monL_len _) (monL_len _) rfl (by omega) ?_ ?_
  · intro j h1 h2
    rw [monL_get, monL_get]
    by_cases a : j < 8
    · simp [a]
    · by_cases b : j < 1032
      · simp [a, b]
      · have : j = 1033 ∨ j = 1034 := by omega
        rcases this with h | h <;> subst h <;> rfl
  · intro j h
    have : j = 0 := by omega
    subst this; rw [monL_get]; rfl
theorem mon_s1033 (M : Mon) (x : Int) : (monL M).take 1033 ++ AV.d (.int .i64 x) :: (monL M).drop 1034 = monL {M with held := x} := by
  refine put_eq (ds := [_]) (n := 1) (monL_len _) (monL_len _) rfl (by omega) ?_ ?_
  · intro j h1 h2
    rw [monL_get, monL_get]
    by_cases a : j < 8
    · simp [a]
    · by_cases b : j < 1032
      · simp [a, b]
      · have : j = 1032 ∨ j = 1034 := by omega
        rcases this with h | h <;> subst h <;> rfl
  · intro j h
    have : j = 0 := by omega
    subst this; rw [monL_get]; rfl
theorem mon_s1034 (M : Mon) (x : Int) : (monL M).take 1034 ++ AV.d (.int .i64 x) :: (monL M).drop 1035 = monL {M with state := x} := by
  refine put_eq (ds := [_]) (n := 1) (monL_len _) (monL_len _) rfl (by omega) ?_ ?_
  · intro j h1 h2
    rw [monL_get, monL_get]
    by_cases a : j < 8
    · simp [a]
    · by_cases b : j < 1032
      · simp [a, b]
      · have : j = 1032 ∨ j = 1033 := by omega
        rcases this with h | h <;> subst h <;> rfl
  · intro j h
    have : j = 0 := by omega
    subst this; rw [monL_get]; rfl
/-- A sample goes to its place. -/
theorem mon_put (M : Mon) (k n : Nat) (e t : Int) (hk : k = M.hist.length) (hn : n = 8 + k * 4) (h : k < 256) : (monL M).take n ++ (sam (e, t) ++ (monL M).drop (n + 4)) = monL {M with hist := M.hist ++ [(e, t)]} := by
  refine put_eq (n := 4) (monL_len _) (monL_len _) rfl (by omega) ?_ ?_
  · intro j h1 h2
    rw [monL_get, monL_get]
    by_cases a : j < 8
    · simp [a]
    · by_cases b : j < 1032
      · simp only [a, b, if_true, if_false]
        have : (j - 8) / 4 < M.hist.length ∨ M.hist.length < (j - 8) / 4 := by omega
        unfold histF
        rcases this with h | h
        · rw [List.getElem?_append_left h]
        · have e1 : M.hist[(j - 8) / 4]? = none := List.getElem?_eq_none (by omega)
          have e2 : (M.hist ++ [(e, t)])[(j - 8) / 4]? = none := List.getElem?_eq_none (by simp; omega)
          rw [e1, e2]
      · simp only [a, b, if_false]
  · intro j h
    rw [monL_get, if_neg (by omega), if_pos (by omega)]
    have e1 : (n + j - 8) / 4 = M.hist.length := by omega
    have e2 : (n + j - 8) % 4 = j := by omega
    rw [e1, e2]
    simp [histF]
/-- A sample of the ring. -/
theorem mon_at (M : Mon) (k n : Nat) (hn : n = 8 + k * 4) (h : k < 256) : ((monL M).drop n).take 4 = sam (histF M.hist k) := by
  apply List.ext_getElem?
  intro j
  by_cases q : j < 4
  · rw [List.getElem?_take_of_lt q, List.getElem?_drop, monL_get, if_neg (by omega), if_pos (by omega)]
    have e1 : (n + j - 8) / 4 = k := by omega
    have e2 : (n + j - 8) % 4 = j := by omega
    rw [e1, e2]
  · rw [List.getElem?_eq_none (by rw [List.length_take]; omega), List.getElem?_eq_none (by simp [sam]; omega)]
theorem ring_all (f : Nat → Int × Int) (P : AV → Prop) (h : ∀ d : D, P (.d d)) : ∀ n, ∀ x ∈ ringF f n, P x
  | 0, x, hx => by simp [ringF] at hx
  | n + 1, x, hx => by
    rw [ringF_succ, List.mem_append] at hx
    rcases hx with hx | hx
    · exact ring_all f P h n x hx
    · simp [sam] at hx
      rcases hx with hx | hx | hx <;> subst hx <;> exact h _
theorem mon_all (M : Mon) (P : AV → Prop) (h : ∀ d : D, P (.d d)) : ∀ x ∈ monL M, P x := by
  intro x hx
  unfold monL at hx
  rw [List.mem_append, List.mem_append] at hx
  rcases hx with hx | hx | hx
  · simp [Rul.cells] at hx
    rcases hx with hx | hx | hx | hx | hx | hx | hx | hx <;> subst hx <;> exact h _
  · exact ring_all _ P h _ x hx
  · simp at hx
    rcases hx with hx | hx | hx <;> subst hx <;> exact h _
theorem mon_oids (M : Mon) : (monL M).flatMap AV.oids0 = [] := by
  rw [List.flatMap_eq_nil_iff]
  exact mon_all M _ fun d => rfl
theorem mon_ren (M : Mon) (f : Nat → Nat) (ob : Nat → AObj) (gn : Nat → Nat) : (monL M).map (AV.ren0 f ob gn) = monL M := by
  have h : ∀ L : List AV, (∀ x ∈ L, AV.ren0 f ob gn x = x) → L.map (AV.ren0 f ob gn) = L := by
    intro L hL
    induction L with
    | nil => rfl
    | cons a l ih => rw [List.map_cons, hL a (by simp), ih fun x hx => hL x (by simp [hx])]
  exact h _ (mon_all M _ fun d => rfl)
theorem ring_one (f : Nat → Int × Int) : ∀ n, (ringF f n).all AV.one = true
  | 0 => rfl
  | n + 1 => by rw [ringF_succ, List.all_append, ring_one f n]; rfl
theorem mon_one (M : Mon) : (monL M).all AV.one = true := by
  unfold monL
  rw [List.all_append, List.all_append, ring_one]
  rfl
end Go.Proofs.YtpooehcjchkbkaaV
