/- The program for the interpreter. -/
import Derived.Test.YtpooehcjchkbkaaWb49
set_option linter.unusedVariables false
set_option linter.unusedSimpArgs false
namespace Go.Proofs.YtpooehcjchkbkaaV
open Go.RowKit

def QQ : TypeId → Option (List EK)
  | 32 => some [.int .i64, .int .i64]
  | 57 => some [.int .i64, .int .i64, .int .i64]
  | 83 => some [.str, .int .i64, .int .i64, .int .i64]
  | _ => none
def CC : Pg := ⟨AA, fun _ _ _ => none, TT, QQ, LT⟩
theorem CT : CC.T = TT := rfl
theorem CQ : CC.Q = QQ := rfl

end Go.Proofs.YtpooehcjchkbkaaV
