/-
  No cell of these rows narrows 'for every input' (looked for: loops, veiled, ifaces, maps, wideKeys, modest, calm, conditions, laid).
  DERIVED. THE GIVEN ROWS OF THIS SEAT. 10 by the template 'for every input the law returns true; each argument reads behind the call as it read before'; 0 by the template 'total and deterministic' (their statements: YtnpppjipbkceeaaTotals.lean).
  GIVEN WITH THE SEED: the statements are not yours to turn. If you find one false, say at which input.
  Laid BY PROGRAM, IN A SANDBOX (cutbox-rows.mjs): the forced cells as the released guide's own fill.sh prints them over the translation a92c701b835e58cc… (all of the seat's roots in one cut). By AI agents, Wed Nov 11 2026. No macro, syntax, notation, axiom, sorry.
-/
import Derived.Test.YtnpppjipbkceeaaChecked
import GoSem.Claim
import GoSem.ClaimJoined
import GoSem.ClaimMapViews
import Derived.JoinedTies
import Derived.KernelRfl
namespace Go.Proofs.Ytnpppjipbkceeaa
/- THE CELL 'sum', in the pinned program and in every row, IS THE sha256 OF THE DUMP (.gsa) THAT YtnpppjipbkceeaaProg.lean LOADS. Nothing in Lean hashes anything: it is a label: what it is worth is what the hold of that sum in a sandbox is worth. -/
noncomputable def Try.pinned : Pinned := { name := "ytnpppjipbkceeaa", sum := "a92c701b835e58cccccde7568576f4eb4dd87d2b2f185616c5e2bf9b448a3750", checked := Try.checked }
namespace Rows
def none {H : Type} : Left H := { results := [], args := [] }

/-- 'sleuthlaw03.TimesetCombines': WHATEVER THE INPUT: true; the input reads as it did. -/
def timesetCombinesSpec : ChangeSpec := { name := "timesetCombines", fn := fun _ => fun
  | [d1, d2] => { results := [.lit (.bool true)], args := [d1, d2] }
  | _ => none }
def timesetCombinesRow : OpenClaim := { program := "ytnpppjipbkceeaa", sum := "a92c701b835e58cccccde7568576f4eb4dd87d2b2f185616c5e2bf9b448a3750", func := "sleuth/sleuthlaw03.TimesetCombines", spec := "timesetCombines", unfollowed := true, recurses := true, apart := false }
def TimesetCombinesSaid : Prop := timesetCombinesRow.holds Try.pinned (OpenSpec.ofChange timesetCombinesSpec)

/-- ITS FALSE NEIGHBOUR: 'it returns false'. Refute it at one input. -/
def timesetCombinesWrong : ChangeSpec := { name := "timesetCombines", fn := fun _ => fun
  | [d1, d2] => { results := [.lit (.bool false)], args := [d1, d2] }
  | _ => none }
def TimesetCombinesWrongFalsely : Prop := timesetCombinesRow.holds Try.pinned (OpenSpec.ofChange timesetCombinesWrong)

/-- 'sleuthlaw03.TimesetAlgebra': WHATEVER THE INPUT: true; the input reads as it did. -/
def timesetAlgebraSpec : ChangeSpec := { name := "timesetAlgebra", fn := fun _ => fun
  | [d1, d2, d3] => { results := [.lit (.bool true)], args := [d1, d2, d3] }
  | _ => none }
def timesetAlgebraRow : OpenClaim := { program := "ytnpppjipbkceeaa", sum := "a92c701b835e58cccccde7568576f4eb4dd87d2b2f185616c5e2bf9b448a3750", func := "sleuth/sleuthlaw03.TimesetAlgebra", spec := "timesetAlgebra", unfollowed := true, recurses := true, apart := false }
def TimesetAlgebraSaid : Prop := timesetAlgebraRow.holds Try.pinned (OpenSpec.ofChange timesetAlgebraSpec)

/-- ITS FALSE NEIGHBOUR: 'it returns false'. Refute it at one input. -/
def timesetAlgebraWrong : ChangeSpec := { name := "timesetAlgebra", fn := fun _ => fun
  | [d1, d2, d3] => { results := [.lit (.bool false)], args := [d1, d2, d3] }
  | _ => none }
def TimesetAlgebraWrongFalsely : Prop := timesetAlgebraRow.holds Try.pinned (OpenSpec.ofChange timesetAlgebraWrong)

/-- 'sleuthlaw03.TimesetHulls': WHATEVER THE INPUT: true; the input reads as it did. -/
def timesetHullsSpec : ChangeSpec := { name := "timesetHulls", fn := fun _ => fun
  | [d] => { results := [.lit (.bool true)], args := [d] }
  | _ => none }
def timesetHullsRow : OpenClaim := { program := "ytnpppjipbkceeaa", sum := "a92c701b835e58cccccde7568576f4eb4dd87d2b2f185616c5e2bf9b448a3750", func := "sleuth/sleuthlaw03.TimesetHulls", spec := "timesetHulls", unfollowed := true, recurses := true, apart := false }
def TimesetHullsSaid : Prop := timesetHullsRow.holds Try.pinned (OpenSpec.ofChange timesetHullsSpec)

/-- ITS FALSE NEIGHBOUR: 'it returns false'. Refute it at one input. -/
def timesetHullsWrong : ChangeSpec := { name := "timesetHulls", fn := fun _ => fun
  | [d] => { results := [.lit (.bool false)], args := [d] }
  | _ => none }
def TimesetHullsWrongFalsely : Prop := timesetHullsRow.holds Try.pinned (OpenSpec.ofChange timesetHullsWrong)

/-- 'sleuthlaw03.TimesetChecks': WHATEVER THE INPUT: true; the input reads as it did. -/
def timesetChecksSpec : ChangeSpec := { name := "timesetChecks", fn := fun _ => fun
  | [d1, d2] => { results := [.lit (.bool true)], args := [d1, d2] }
  | _ => none }
def timesetChecksRow : OpenClaim := { program := "ytnpppjipbkceeaa", sum := "a92c701b835e58cccccde7568576f4eb4dd87d2b2f185616c5e2bf9b448a3750", func := "sleuth/sleuthlaw03.TimesetChecks", spec := "timesetChecks", unfollowed := true, recurses := true, apart := false }
def TimesetChecksSaid : Prop := timesetChecksRow.holds Try.pinned (OpenSpec.ofChange timesetChecksSpec)

/-- ITS FALSE NEIGHBOUR: 'it returns false'. Refute it at one input. -/
def timesetChecksWrong : ChangeSpec := { name := "timesetChecks", fn := fun _ => fun
  | [d1, d2] => { results := [.lit (.bool false)], args := [d1, d2] }
  | _ => none }
def TimesetChecksWrongFalsely : Prop := timesetChecksRow.holds Try.pinned (OpenSpec.ofChange timesetChecksWrong)

/-- 'sleuthlaw03.TimesetNormal': WHATEVER THE INPUT: true; the input reads as it did. -/
def timesetNormalSpec : ChangeSpec := { name := "timesetNormal", fn := fun _ => fun
  | [d] => { results := [.lit (.bool true)], args := [d] }
  | _ => none }
def timesetNormalRow : OpenClaim := { program := "ytnpppjipbkceeaa", sum := "a92c701b835e58cccccde7568576f4eb4dd87d2b2f185616c5e2bf9b448a3750", func := "sleuth/sleuthlaw03.TimesetNormal", spec := "timesetNormal", unfollowed := true, recurses := true, apart := false }
def TimesetNormalSaid : Prop := timesetNormalRow.holds Try.pinned (OpenSpec.ofChange timesetNormalSpec)

/-- ITS FALSE NEIGHBOUR: 'it returns false'. Refute it at one input. -/
def timesetNormalWrong : ChangeSpec := { name := "timesetNormal", fn := fun _ => fun
  | [d] => { results := [.lit (.bool false)], args := [d] }
  | _ => none }
def TimesetNormalWrongFalsely : Prop := timesetNormalRow.holds Try.pinned (OpenSpec.ofChange timesetNormalWrong)

/-- 'sleuthlaw03.TimesetCoarsens': WHATEVER THE INPUT: true; the input reads as it did. -/
def timesetCoarsensSpec : ChangeSpec := { name := "timesetCoarsens", fn := fun _ => fun
  | [d1, d2, d3] => { results := [.lit (.bool true)], args := [d1, d2, d3] }
  | _ => none }
def timesetCoarsensRow : OpenClaim := { program := "ytnpppjipbkceeaa", sum := "a92c701b835e58cccccde7568576f4eb4dd87d2b2f185616c5e2bf9b448a3750", func := "sleuth/sleuthlaw03.TimesetCoarsens", spec := "timesetCoarsens", unfollowed := true, recurses := true, apart := false }
def TimesetCoarsensSaid : Prop := timesetCoarsensRow.holds Try.pinned (OpenSpec.ofChange timesetCoarsensSpec)

/-- ITS FALSE NEIGHBOUR: 'it returns false'. Refute it at one input. -/
def timesetCoarsensWrong : ChangeSpec := { name := "timesetCoarsens", fn := fun _ => fun
  | [d1, d2, d3] => { results := [.lit (.bool false)], args := [d1, d2, d3] }
  | _ => none }
def TimesetCoarsensWrongFalsely : Prop := timesetCoarsensRow.holds Try.pinned (OpenSpec.ofChange timesetCoarsensWrong)

/-- 'sleuthlaw03.TimesetGrows': WHATEVER THE INPUT: true; the input reads as it did. -/
def timesetGrowsSpec : ChangeSpec := { name := "timesetGrows", fn := fun _ => fun
  | [d1, d2, d3] => { results := [.lit (.bool true)], args := [d1, d2, d3] }
  | _ => none }
def timesetGrowsRow : OpenClaim := { program := "ytnpppjipbkceeaa", sum := "a92c701b835e58cccccde7568576f4eb4dd87d2b2f185616c5e2bf9b448a3750", func := "sleuth/sleuthlaw03.TimesetGrows", spec := "timesetGrows", unfollowed := true, recurses := true, apart := false }
def TimesetGrowsSaid : Prop := timesetGrowsRow.holds Try.pinned (OpenSpec.ofChange timesetGrowsSpec)

/-- ITS FALSE NEIGHBOUR: 'it returns false'. Refute it at one input. -/
def timesetGrowsWrong : ChangeSpec := { name := "timesetGrows", fn := fun _ => fun
  | [d1, d2, d3] => { results := [.lit (.bool false)], args := [d1, d2, d3] }
  | _ => none }
def TimesetGrowsWrongFalsely : Prop := timesetGrowsRow.holds Try.pinned (OpenSpec.ofChange timesetGrowsWrong)

/-- 'sleuthlaw03.TimesetCounts': WHATEVER THE INPUT: true; the input reads as it did. -/
def timesetCountsSpec : ChangeSpec := { name := "timesetCounts", fn := fun _ => fun
  | [d1, d2] => { results := [.lit (.bool true)], args := [d1, d2] }
  | _ => none }
def timesetCountsRow : OpenClaim := { program := "ytnpppjipbkceeaa", sum := "a92c701b835e58cccccde7568576f4eb4dd87d2b2f185616c5e2bf9b448a3750", func := "sleuth/sleuthlaw03.TimesetCounts", spec := "timesetCounts", unfollowed := true, recurses := true, apart := false }
def TimesetCountsSaid : Prop := timesetCountsRow.holds Try.pinned (OpenSpec.ofChange timesetCountsSpec)

/-- ITS FALSE NEIGHBOUR: 'it returns false'. Refute it at one input. -/
def timesetCountsWrong : ChangeSpec := { name := "timesetCounts", fn := fun _ => fun
  | [d1, d2] => { results := [.lit (.bool false)], args := [d1, d2] }
  | _ => none }
def TimesetCountsWrongFalsely : Prop := timesetCountsRow.holds Try.pinned (OpenSpec.ofChange timesetCountsWrong)

/-- 'sleuthlaw03.TimesetNeighbours': WHATEVER THE INPUT: true; the input reads as it did. -/
def timesetNeighboursSpec : ChangeSpec := { name := "timesetNeighbours", fn := fun _ => fun
  | [d1, d2] => { results := [.lit (.bool true)], args := [d1, d2] }
  | _ => none }
def timesetNeighboursRow : OpenClaim := { program := "ytnpppjipbkceeaa", sum := "a92c701b835e58cccccde7568576f4eb4dd87d2b2f185616c5e2bf9b448a3750", func := "sleuth/sleuthlaw03.TimesetNeighbours", spec := "timesetNeighbours", unfollowed := true, recurses := true, apart := false }
def TimesetNeighboursSaid : Prop := timesetNeighboursRow.holds Try.pinned (OpenSpec.ofChange timesetNeighboursSpec)

/-- ITS FALSE NEIGHBOUR: 'it returns false'. Refute it at one input. -/
def timesetNeighboursWrong : ChangeSpec := { name := "timesetNeighbours", fn := fun _ => fun
  | [d1, d2] => { results := [.lit (.bool false)], args := [d1, d2] }
  | _ => none }
def TimesetNeighboursWrongFalsely : Prop := timesetNeighboursRow.holds Try.pinned (OpenSpec.ofChange timesetNeighboursWrong)

/-- 'sleuthlaw03.TimesetCompares': WHATEVER THE INPUT: true; the input reads as it did. -/
def timesetComparesSpec : ChangeSpec := { name := "timesetCompares", fn := fun _ => fun
  | [d1, d2, d3] => { results := [.lit (.bool true)], args := [d1, d2, d3] }
  | _ => none }
def timesetComparesRow : OpenClaim := { program := "ytnpppjipbkceeaa", sum := "a92c701b835e58cccccde7568576f4eb4dd87d2b2f185616c5e2bf9b448a3750", func := "sleuth/sleuthlaw03.TimesetCompares", spec := "timesetCompares", unfollowed := true, recurses := true, apart := false }
def TimesetComparesSaid : Prop := timesetComparesRow.holds Try.pinned (OpenSpec.ofChange timesetComparesSpec)

/-- ITS FALSE NEIGHBOUR: 'it returns false'. Refute it at one input. -/
def timesetComparesWrong : ChangeSpec := { name := "timesetCompares", fn := fun _ => fun
  | [d1, d2, d3] => { results := [.lit (.bool false)], args := [d1, d2, d3] }
  | _ => none }
def TimesetComparesWrongFalsely : Prop := timesetComparesRow.holds Try.pinned (OpenSpec.ofChange timesetComparesWrong)

/- THE SECOND FORM. 'bulk': how many values and letters a reading holds, each counted each time it is reached (what is shared counts as often as it is met; a slice's spare places count too). A statement '..UptoSaid' is the law's where the arguments, and the package variables that the reading takes, are together of bulk at most 1048576: NARROWER than '..Said'. Prove '..Said' where nothing that the law and all that it calls make is longer than what came in: it says more and counts as full. Else prove '..UptoSaid'. A law counts once. -/
mutual
def uptoBulk {H : Type} : DataW H → Nat
  | .lit (.string bytes) => bytes.length + 1
  | .lit _ => 1
  | .nil => 1
  | .ptr d => uptoBulk d + 1
  | .slice elems spare => uptoBulkAll elems + uptoBulkAll spare + 1
  | .agg parts => uptoBulkAll parts + 1
  | .iface _ d => uptoBulk d + 1
  | .map entries => uptoBulkEntries entries + 1
  | .held _ => 1
def uptoBulkAll {H : Type} : List (DataW H) → Nat
  | [] => 0
  | d :: r => uptoBulk d + uptoBulkAll r
def uptoBulkEntries {H : Type} : List (Lit × DataW H) → Nat
  | [] => 0
  | x :: r => uptoBulkEntry x + uptoBulkEntries r
def uptoBulkEntry {H : Type} : Lit × DataW H → Nat
  | (.string bytes, d) => bytes.length + uptoBulk d + 1
  | (_, d) => uptoBulk d + 1
 end
def uptoSmall : (H : Type) → List (DataW H) → Bool := fun _ ds => decide (uptoBulkAll ds ≤ 1048576)
def OpenSpec.upto (s : _root_.Go.ChangeSpec) : _root_.Go.OpenSpec := { _root_.Go.OpenSpec.ofChange s with cond := some uptoSmall }

/-- 'sleuthlaw03.TimesetCombines', WHERE WHAT IT READS IS OF BULK AT MOST 1048576: true; the input reads as it did. -/
def timesetCombinesUptoRow : OpenClaim := { program := "ytnpppjipbkceeaa", sum := "a92c701b835e58cccccde7568576f4eb4dd87d2b2f185616c5e2bf9b448a3750", func := "sleuth/sleuthlaw03.TimesetCombines", spec := "timesetCombines", unfollowed := true, recurses := true, apart := false, narrowed := true }
def TimesetCombinesUptoSaid : Prop := timesetCombinesUptoRow.holds Try.pinned (OpenSpec.upto timesetCombinesSpec)

/-- 'sleuthlaw03.TimesetAlgebra', WHERE WHAT IT READS IS OF BULK AT MOST 1048576: true; the input reads as it did. -/
def timesetAlgebraUptoRow : OpenClaim := { program := "ytnpppjipbkceeaa", sum := "a92c701b835e58cccccde7568576f4eb4dd87d2b2f185616c5e2bf9b448a3750", func := "sleuth/sleuthlaw03.TimesetAlgebra", spec := "timesetAlgebra", unfollowed := true, recurses := true, apart := false, narrowed := true }
def TimesetAlgebraUptoSaid : Prop := timesetAlgebraUptoRow.holds Try.pinned (OpenSpec.upto timesetAlgebraSpec)

/-- 'sleuthlaw03.TimesetHulls', WHERE WHAT IT READS IS OF BULK AT MOST 1048576: true; the input reads as it did. -/
def timesetHullsUptoRow : OpenClaim := { program := "ytnpppjipbkceeaa", sum := "a92c701b835e58cccccde7568576f4eb4dd87d2b2f185616c5e2bf9b448a3750", func := "sleuth/sleuthlaw03.TimesetHulls", spec := "timesetHulls", unfollowed := true, recurses := true, apart := false, narrowed := true }
def TimesetHullsUptoSaid : Prop := timesetHullsUptoRow.holds Try.pinned (OpenSpec.upto timesetHullsSpec)

/-- 'sleuthlaw03.TimesetChecks', WHERE WHAT IT READS IS OF BULK AT MOST 1048576: true; the input reads as it did. -/
def timesetChecksUptoRow : OpenClaim := { program := "ytnpppjipbkceeaa", sum := "a92c701b835e58cccccde7568576f4eb4dd87d2b2f185616c5e2bf9b448a3750", func := "sleuth/sleuthlaw03.TimesetChecks", spec := "timesetChecks", unfollowed := true, recurses := true, apart := false, narrowed := true }
def TimesetChecksUptoSaid : Prop := timesetChecksUptoRow.holds Try.pinned (OpenSpec.upto timesetChecksSpec)

/-- 'sleuthlaw03.TimesetNormal', WHERE WHAT IT READS IS OF BULK AT MOST 1048576: true; the input reads as it did. -/
def timesetNormalUptoRow : OpenClaim := { program := "ytnpppjipbkceeaa", sum := "a92c701b835e58cccccde7568576f4eb4dd87d2b2f185616c5e2bf9b448a3750", func := "sleuth/sleuthlaw03.TimesetNormal", spec := "timesetNormal", unfollowed := true, recurses := true, apart := false, narrowed := true }
def TimesetNormalUptoSaid : Prop := timesetNormalUptoRow.holds Try.pinned (OpenSpec.upto timesetNormalSpec)

/-- 'sleuthlaw03.TimesetCoarsens', WHERE WHAT IT READS IS OF BULK AT MOST 1048576: true; the input reads as it did. -/
def timesetCoarsensUptoRow : OpenClaim := { program := "ytnpppjipbkceeaa", sum := "a92c701b835e58cccccde7568576f4eb4dd87d2b2f185616c5e2bf9b448a3750", func := "sleuth/sleuthlaw03.TimesetCoarsens", spec := "timesetCoarsens", unfollowed := true, recurses := true, apart := false, narrowed := true }
def TimesetCoarsensUptoSaid : Prop := timesetCoarsensUptoRow.holds Try.pinned (OpenSpec.upto timesetCoarsensSpec)

/-- 'sleuthlaw03.TimesetGrows', WHERE WHAT IT READS IS OF BULK AT MOST 1048576: true; the input reads as it did. -/
def timesetGrowsUptoRow : OpenClaim := { program := "ytnpppjipbkceeaa", sum := "a92c701b835e58cccccde7568576f4eb4dd87d2b2f185616c5e2bf9b448a3750", func := "sleuth/sleuthlaw03.TimesetGrows", spec := "timesetGrows", unfollowed := true, recurses := true, apart := false, narrowed := true }
def TimesetGrowsUptoSaid : Prop := timesetGrowsUptoRow.holds Try.pinned (OpenSpec.upto timesetGrowsSpec)

/-- 'sleuthlaw03.TimesetCounts', WHERE WHAT IT READS IS OF BULK AT MOST 1048576: true; the input reads as it did. -/
def timesetCountsUptoRow : OpenClaim := { program := "ytnpppjipbkceeaa", sum := "a92c701b835e58cccccde7568576f4eb4dd87d2b2f185616c5e2bf9b448a3750", func := "sleuth/sleuthlaw03.TimesetCounts", spec := "timesetCounts", unfollowed := true, recurses := true, apart := false, narrowed := true }
def TimesetCountsUptoSaid : Prop := timesetCountsUptoRow.holds Try.pinned (OpenSpec.upto timesetCountsSpec)

/-- 'sleuthlaw03.TimesetNeighbours', WHERE WHAT IT READS IS OF BULK AT MOST 1048576: true; the input reads as it did. -/
def timesetNeighboursUptoRow : OpenClaim := { program := "ytnpppjipbkceeaa", sum := "a92c701b835e58cccccde7568576f4eb4dd87d2b2f185616c5e2bf9b448a3750", func := "sleuth/sleuthlaw03.TimesetNeighbours", spec := "timesetNeighbours", unfollowed := true, recurses := true, apart := false, narrowed := true }
def TimesetNeighboursUptoSaid : Prop := timesetNeighboursUptoRow.holds Try.pinned (OpenSpec.upto timesetNeighboursSpec)

/-- 'sleuthlaw03.TimesetCompares', WHERE WHAT IT READS IS OF BULK AT MOST 1048576: true; the input reads as it did. -/
def timesetComparesUptoRow : OpenClaim := { program := "ytnpppjipbkceeaa", sum := "a92c701b835e58cccccde7568576f4eb4dd87d2b2f185616c5e2bf9b448a3750", func := "sleuth/sleuthlaw03.TimesetCompares", spec := "timesetCompares", unfollowed := true, recurses := true, apart := false, narrowed := true }
def TimesetComparesUptoSaid : Prop := timesetComparesUptoRow.holds Try.pinned (OpenSpec.upto timesetComparesSpec)

end Rows
end Go.Proofs.Ytnpppjipbkceeaa
