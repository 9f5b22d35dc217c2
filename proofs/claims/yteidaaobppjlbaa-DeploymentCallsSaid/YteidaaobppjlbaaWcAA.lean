/- Small functions of the package: what the interpreter gives at them. -/
import Derived.Test.YteidaaobppjlbaaWb47
set_option linter.unusedVariables false
set_option linter.unusedSimpArgs false
namespace Go.Proofs.YteidaaobppjlbaaV
open Go.RowKit

def QQ : TypeId → Option (List EK)
  | 26 => some [.int .i64, .int .i64, .int .i64, .str, .str, .str]
  | 37 => some [.int .i64, .int .i64]
  | 39 => some [.int .i64, .str, .str, .int .i64, .int .i64]
  | 64 => some [.int .i64, .int .i64]
  | 72 => some [.int .i64, .int .i64, .int .i64]
  | 86 => some [.str, .str]
  | 116 => some [.int .i64, .str, .str]
  | _ => none
def CC : Pg := ⟨AA, fun _ _ _ => none, TT, QQ⟩
theorem CT : CC.T = TT := rfl
theorem CQ : CC.Q = QQ := rfl

end Go.Proofs.YteidaaobppjlbaaV
