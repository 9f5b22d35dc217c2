/- Bounds of a list. -/
import Derived.Test.YtnpppjipbkceeaaTc1
set_option linter.unusedVariables false
set_option linter.unusedSimpArgs false
namespace Go.Proofs.YtnpppjipbkceeaaV
open Go.RowKit
/-- All bounds lie within ±2^51. -/
def bnd (l : List Iv) : Prop := ∀ p ∈ l, -2251799813685248 ≤ p.1 ∧ p.1 ≤ 2251799813685248 ∧ -2251799813685248 ≤ p.2 ∧ p.2 ≤ 2251799813685248
end Go.Proofs.YtnpppjipbkceeaaV
