/- The program for the interpreter. -/
import Derived.Test.YteidaaobppjlbaaWb47
set_option linter.unusedVariables false
set_option linter.unusedSimpArgs false
namespace Go.Proofs.YteidaaobppjlbaaV
open Go.RowKit

def QQ : TypeId → Option (List EK)
  | 26 => some [.int .i64, .int .i64, .int .i64, .str, .str, .str]
  | 37 => some [.int .i64, .int .i64]
  | 116 => some [.int .i64, .str, .str]
  | _ => none
def CC : Pg := ⟨AA, fun _ _ _ => none, TT, QQ, LT⟩
theorem CT : CC.T = TT := rfl
theorem CQ : CC.Q = QQ := rfl
theorem CL : CC.L = LT := rfl

end Go.Proofs.YteidaaobppjlbaaV
