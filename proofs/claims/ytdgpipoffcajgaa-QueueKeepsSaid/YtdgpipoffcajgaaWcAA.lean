/- The program for the interpreter. -/
import Derived.Test.YtdgpipoffcajgaaWb28
set_option linter.unusedVariables false
set_option linter.unusedSimpArgs false
namespace Go.Proofs.YtdgpipoffcajgaaV
open Go.RowKit

def QQ : TypeId → Option (List EK)
  | 38 => some [.int .i64, .int .i64]
  | 40 => some [.int .i64, .int .i64, .int .i64, .int .i64]
  | 46 => some [.int .i64, .int .i64, .int .i64]
  | 87 => some [.int .i64, .int .i64, .int .i64, .int .i64, .int .i64]
  | 109 => some [.str, .int .i64, .str, .int .i64]
  | 119 => some [.int .i64, .int .i64]
  | _ => none
def CC : Pg := ⟨AA, fun _ _ _ => none, TT, QQ, LT⟩
theorem CT : CC.T = TT := rfl
theorem CQ : CC.Q = QQ := rfl
theorem CL : CC.L = LT := rfl

end Go.Proofs.YtdgpipoffcajgaaV
