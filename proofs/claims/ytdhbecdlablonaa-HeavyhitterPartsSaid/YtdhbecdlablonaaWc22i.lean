/- Check, the package's and the model's; New. -/
import Derived.Test.YtdhbecdlablonaaWc22f
set_option linter.unusedVariables false
set_option linter.unusedSimpArgs false
namespace Go.Proofs.YtdhbecdlablonaaV
open Go.RowKit
def badK (pre : List Ctr) (c : Ctr) : Bool := pre.getLast?.any fun p => lessS c.1 p.1 || eqS c.1 p.1
def chkL (tot : Int) : List Ctr → Int → List Ctr → Int ⊕ Int
  | _, sum, [] => .inr sum
  | pre, sum, c :: suf => if isName c.1 = false then .inl 11 else if badK pre c = true then .inl 8 else if c.2 < 1 then .inl 2 else if tot < c.2 then .inl 2 else chkL tot (pre ++ [c]) (IntKind.i64.wrap (sum + c.2)) suf
def chkT (s : Sm) (sum : Int) : Int := if s.tot < s.lost then 17 else if s.tot < IntKind.i64.wrap (sum + IntKind.i64.wrap (s.lost * IntKind.i64.wrap (s.most + 1))) then 17 else 0
def chkF (s : Sm) : Int ⊕ Int → Int
  | .inl e => e
  | .inr sum => chkT s sum
def chkS (s : Sm) : Int := if s.most < 1 then 2 else if 256 < s.most then 2 else if s.tot < 0 then 2 else if 1125899906842624 < s.tot then 2 else if s.lost < 0 then 2 else if s.most < s.cs.length then 6 else chkF s (chkL s.tot [] 0 s.cs)
theorem getD_last {l pre suf : List Ctr} {p : Ctr} (h : pre ++ suf = l) {q : List Ctr} (hq : pre = q ++ [p]) (hl : l.length < 1000) : (csD l)[pre.length - 1]? = some (cE p) ∧ l[pre.length - 1]? = some p ∧ 1 ≤ pre.length ∧ pre.length - 1 < l.length := by
  subst hq; subst h
  simp [csD]
end Go.Proofs.YtdhbecdlablonaaV
