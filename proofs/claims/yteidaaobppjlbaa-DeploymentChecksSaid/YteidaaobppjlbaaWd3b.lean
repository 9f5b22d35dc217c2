/- The greatest lists of changes, by the kernel. -/
import Derived.Test.YteidaaobppjlbaaWd3
set_option linter.unusedVariables false
namespace Go.Proofs.YteidaaobppjlbaaV
open Go.RowKit
theorem many255 : chkL [] ((List.range 255).map mkC) = 0 := by kernel_rfl
theorem many256 : chkL [] ((List.range 256).map mkC) = 0 := by kernel_rfl

end Go.Proofs.YteidaaobppjlbaaV
