/-
  No cell of these rows narrows 'for every input' (looked for: loops, veiled, ifaces, maps, wideKeys, modest, calm, conditions, laid).
  DERIVED. THE GIVEN ROWS OF THIS SEAT. 10 by the template 'for every input the law returns true; each argument reads behind the call as it read before'; 0 by the template 'total and deterministic' (their statements: YtdhbecdlablonaaTotals.lean).
  GIVEN WITH THE SEED: the statements are not yours to turn. If you find one false, say at which input.
  Laid BY PROGRAM, IN A SANDBOX (cutbox-rows.mjs): the forced cells as the released guide's own fill.sh prints them over the translation 8052840c2c70e30d… (all of the seat's roots in one cut). By AI agents, Wed Nov 11 2026. No macro, syntax, notation, axiom, sorry.
-/
import Derived.Test.YtdhbecdlablonaaChecked
import GoSem.Claim
import GoSem.ClaimJoined
import GoSem.ClaimMapViews
import Derived.JoinedTies
import Derived.KernelRfl
namespace Go.Proofs.Ytdhbecdlablonaa
/- THE CELL 'sum', in the pinned program and in every row, IS THE sha256 OF THE DUMP (.gsa) THAT YtdhbecdlablonaaProg.lean LOADS. Nothing in Lean hashes anything: it is a label: what it is worth is what the hold of that sum in a sandbox is worth. -/
noncomputable def Try.pinned : Pinned := { name := "ytdhbecdlablonaa", sum := "8052840c2c70e30d1fb617598d13531211fabcd7a165b7cb46a70fbda353c075", checked := Try.checked }
namespace Rows
def none {H : Type} : Left H := { results := [], args := [] }

/-- 'sleuthlaw22.HeavyhitterOverflows': WHATEVER THE INPUT: true; the input reads as it did. -/
def heavyhitterOverflowsSpec : ChangeSpec := { name := "heavyhitterOverflows", fn := fun _ => fun
  | [d1, d2] => { results := [.lit (.bool true)], args := [d1, d2] }
  | _ => none }
def heavyhitterOverflowsRow : OpenClaim := { program := "ytdhbecdlablonaa", sum := "8052840c2c70e30d1fb617598d13531211fabcd7a165b7cb46a70fbda353c075", func := "sleuth/sleuthlaw22.HeavyhitterOverflows", spec := "heavyhitterOverflows", unfollowed := true, recurses := true, apart := false }
def HeavyhitterOverflowsSaid : Prop := heavyhitterOverflowsRow.holds Try.pinned (OpenSpec.ofChange heavyhitterOverflowsSpec)

/-- ITS FALSE NEIGHBOUR: 'it returns false'. Refute it at one input. -/
def heavyhitterOverflowsWrong : ChangeSpec := { name := "heavyhitterOverflows", fn := fun _ => fun
  | [d1, d2] => { results := [.lit (.bool false)], args := [d1, d2] }
  | _ => none }
def HeavyhitterOverflowsWrongFalsely : Prop := heavyhitterOverflowsRow.holds Try.pinned (OpenSpec.ofChange heavyhitterOverflowsWrong)

/-- 'sleuthlaw22.HeavyhitterStreams': WHATEVER THE INPUT: true; the input reads as it did. -/
def heavyhitterStreamsSpec : ChangeSpec := { name := "heavyhitterStreams", fn := fun _ => fun
  | [d1, d2] => { results := [.lit (.bool true)], args := [d1, d2] }
  | _ => none }
def heavyhitterStreamsRow : OpenClaim := { program := "ytdhbecdlablonaa", sum := "8052840c2c70e30d1fb617598d13531211fabcd7a165b7cb46a70fbda353c075", func := "sleuth/sleuthlaw22.HeavyhitterStreams", spec := "heavyhitterStreams", unfollowed := true, recurses := true, apart := false }
def HeavyhitterStreamsSaid : Prop := heavyhitterStreamsRow.holds Try.pinned (OpenSpec.ofChange heavyhitterStreamsSpec)

/-- ITS FALSE NEIGHBOUR: 'it returns false'. Refute it at one input. -/
def heavyhitterStreamsWrong : ChangeSpec := { name := "heavyhitterStreams", fn := fun _ => fun
  | [d1, d2] => { results := [.lit (.bool false)], args := [d1, d2] }
  | _ => none }
def HeavyhitterStreamsWrongFalsely : Prop := heavyhitterStreamsRow.holds Try.pinned (OpenSpec.ofChange heavyhitterStreamsWrong)

/-- 'sleuthlaw22.HeavyhitterParts': WHATEVER THE INPUT: true; the input reads as it did. -/
def heavyhitterPartsSpec : ChangeSpec := { name := "heavyhitterParts", fn := fun _ => fun
  | [d1, d2, d3] => { results := [.lit (.bool true)], args := [d1, d2, d3] }
  | _ => none }
def heavyhitterPartsRow : OpenClaim := { program := "ytdhbecdlablonaa", sum := "8052840c2c70e30d1fb617598d13531211fabcd7a165b7cb46a70fbda353c075", func := "sleuth/sleuthlaw22.HeavyhitterParts", spec := "heavyhitterParts", unfollowed := true, recurses := true, apart := false }
def HeavyhitterPartsSaid : Prop := heavyhitterPartsRow.holds Try.pinned (OpenSpec.ofChange heavyhitterPartsSpec)

/-- ITS FALSE NEIGHBOUR: 'it returns false'. Refute it at one input. -/
def heavyhitterPartsWrong : ChangeSpec := { name := "heavyhitterParts", fn := fun _ => fun
  | [d1, d2, d3] => { results := [.lit (.bool false)], args := [d1, d2, d3] }
  | _ => none }
def HeavyhitterPartsWrongFalsely : Prop := heavyhitterPartsRow.holds Try.pinned (OpenSpec.ofChange heavyhitterPartsWrong)

/-- 'sleuthlaw22.HeavyhitterExact': WHATEVER THE INPUT: true; the input reads as it did. -/
def heavyhitterExactSpec : ChangeSpec := { name := "heavyhitterExact", fn := fun _ => fun
  | [d1, d2] => { results := [.lit (.bool true)], args := [d1, d2] }
  | _ => none }
def heavyhitterExactRow : OpenClaim := { program := "ytdhbecdlablonaa", sum := "8052840c2c70e30d1fb617598d13531211fabcd7a165b7cb46a70fbda353c075", func := "sleuth/sleuthlaw22.HeavyhitterExact", spec := "heavyhitterExact", unfollowed := true, recurses := true, apart := false }
def HeavyhitterExactSaid : Prop := heavyhitterExactRow.holds Try.pinned (OpenSpec.ofChange heavyhitterExactSpec)

/-- ITS FALSE NEIGHBOUR: 'it returns false'. Refute it at one input. -/
def heavyhitterExactWrong : ChangeSpec := { name := "heavyhitterExact", fn := fun _ => fun
  | [d1, d2] => { results := [.lit (.bool false)], args := [d1, d2] }
  | _ => none }
def HeavyhitterExactWrongFalsely : Prop := heavyhitterExactRow.holds Try.pinned (OpenSpec.ofChange heavyhitterExactWrong)

/-- 'sleuthlaw22.HeavyhitterBounds': WHATEVER THE INPUT: true; the input reads as it did. -/
def heavyhitterBoundsSpec : ChangeSpec := { name := "heavyhitterBounds", fn := fun _ => fun
  | [d1, d2, d3] => { results := [.lit (.bool true)], args := [d1, d2, d3] }
  | _ => none }
def heavyhitterBoundsRow : OpenClaim := { program := "ytdhbecdlablonaa", sum := "8052840c2c70e30d1fb617598d13531211fabcd7a165b7cb46a70fbda353c075", func := "sleuth/sleuthlaw22.HeavyhitterBounds", spec := "heavyhitterBounds", unfollowed := true, recurses := true, apart := false }
def HeavyhitterBoundsSaid : Prop := heavyhitterBoundsRow.holds Try.pinned (OpenSpec.ofChange heavyhitterBoundsSpec)

/-- ITS FALSE NEIGHBOUR: 'it returns false'. Refute it at one input. -/
def heavyhitterBoundsWrong : ChangeSpec := { name := "heavyhitterBounds", fn := fun _ => fun
  | [d1, d2, d3] => { results := [.lit (.bool false)], args := [d1, d2, d3] }
  | _ => none }
def HeavyhitterBoundsWrongFalsely : Prop := heavyhitterBoundsRow.holds Try.pinned (OpenSpec.ofChange heavyhitterBoundsWrong)

/-- 'sleuthlaw22.HeavyhitterEquals': WHATEVER THE INPUT: true; the input reads as it did. -/
def heavyhitterEqualsSpec : ChangeSpec := { name := "heavyhitterEquals", fn := fun _ => fun
  | [d1, d2, d3] => { results := [.lit (.bool true)], args := [d1, d2, d3] }
  | _ => none }
def heavyhitterEqualsRow : OpenClaim := { program := "ytdhbecdlablonaa", sum := "8052840c2c70e30d1fb617598d13531211fabcd7a165b7cb46a70fbda353c075", func := "sleuth/sleuthlaw22.HeavyhitterEquals", spec := "heavyhitterEquals", unfollowed := true, recurses := true, apart := false }
def HeavyhitterEqualsSaid : Prop := heavyhitterEqualsRow.holds Try.pinned (OpenSpec.ofChange heavyhitterEqualsSpec)

/-- ITS FALSE NEIGHBOUR: 'it returns false'. Refute it at one input. -/
def heavyhitterEqualsWrong : ChangeSpec := { name := "heavyhitterEquals", fn := fun _ => fun
  | [d1, d2, d3] => { results := [.lit (.bool false)], args := [d1, d2, d3] }
  | _ => none }
def HeavyhitterEqualsWrongFalsely : Prop := heavyhitterEqualsRow.holds Try.pinned (OpenSpec.ofChange heavyhitterEqualsWrong)

/-- 'sleuthlaw22.HeavyhitterChecks': WHATEVER THE INPUT: true; the input reads as it did. -/
def heavyhitterChecksSpec : ChangeSpec := { name := "heavyhitterChecks", fn := fun _ => fun
  | [d1, d2] => { results := [.lit (.bool true)], args := [d1, d2] }
  | _ => none }
def heavyhitterChecksRow : OpenClaim := { program := "ytdhbecdlablonaa", sum := "8052840c2c70e30d1fb617598d13531211fabcd7a165b7cb46a70fbda353c075", func := "sleuth/sleuthlaw22.HeavyhitterChecks", spec := "heavyhitterChecks", unfollowed := true, recurses := true, apart := false }
def HeavyhitterChecksSaid : Prop := heavyhitterChecksRow.holds Try.pinned (OpenSpec.ofChange heavyhitterChecksSpec)

/-- ITS FALSE NEIGHBOUR: 'it returns false'. Refute it at one input. -/
def heavyhitterChecksWrong : ChangeSpec := { name := "heavyhitterChecks", fn := fun _ => fun
  | [d1, d2] => { results := [.lit (.bool false)], args := [d1, d2] }
  | _ => none }
def HeavyhitterChecksWrongFalsely : Prop := heavyhitterChecksRow.holds Try.pinned (OpenSpec.ofChange heavyhitterChecksWrong)

/-- 'sleuthlaw22.HeavyhitterAdds': WHATEVER THE INPUT: true; the input reads as it did. -/
def heavyhitterAddsSpec : ChangeSpec := { name := "heavyhitterAdds", fn := fun _ => fun
  | [d1, d2, d3] => { results := [.lit (.bool true)], args := [d1, d2, d3] }
  | _ => none }
def heavyhitterAddsRow : OpenClaim := { program := "ytdhbecdlablonaa", sum := "8052840c2c70e30d1fb617598d13531211fabcd7a165b7cb46a70fbda353c075", func := "sleuth/sleuthlaw22.HeavyhitterAdds", spec := "heavyhitterAdds", unfollowed := true, recurses := true, apart := false }
def HeavyhitterAddsSaid : Prop := heavyhitterAddsRow.holds Try.pinned (OpenSpec.ofChange heavyhitterAddsSpec)

/-- ITS FALSE NEIGHBOUR: 'it returns false'. Refute it at one input. -/
def heavyhitterAddsWrong : ChangeSpec := { name := "heavyhitterAdds", fn := fun _ => fun
  | [d1, d2, d3] => { results := [.lit (.bool false)], args := [d1, d2, d3] }
  | _ => none }
def HeavyhitterAddsWrongFalsely : Prop := heavyhitterAddsRow.holds Try.pinned (OpenSpec.ofChange heavyhitterAddsWrong)

/-- 'sleuthlaw22.HeavyhitterLists': WHATEVER THE INPUT: true; the input reads as it did. -/
def heavyhitterListsSpec : ChangeSpec := { name := "heavyhitterLists", fn := fun _ => fun
  | [d1, d2, d3] => { results := [.lit (.bool true)], args := [d1, d2, d3] }
  | _ => none }
def heavyhitterListsRow : OpenClaim := { program := "ytdhbecdlablonaa", sum := "8052840c2c70e30d1fb617598d13531211fabcd7a165b7cb46a70fbda353c075", func := "sleuth/sleuthlaw22.HeavyhitterLists", spec := "heavyhitterLists", unfollowed := true, recurses := true, apart := false }
def HeavyhitterListsSaid : Prop := heavyhitterListsRow.holds Try.pinned (OpenSpec.ofChange heavyhitterListsSpec)

/-- ITS FALSE NEIGHBOUR: 'it returns false'. Refute it at one input. -/
def heavyhitterListsWrong : ChangeSpec := { name := "heavyhitterLists", fn := fun _ => fun
  | [d1, d2, d3] => { results := [.lit (.bool false)], args := [d1, d2, d3] }
  | _ => none }
def HeavyhitterListsWrongFalsely : Prop := heavyhitterListsRow.holds Try.pinned (OpenSpec.ofChange heavyhitterListsWrong)

/-- 'sleuthlaw22.HeavyhitterMerges': WHATEVER THE INPUT: true; the input reads as it did. -/
def heavyhitterMergesSpec : ChangeSpec := { name := "heavyhitterMerges", fn := fun _ => fun
  | [d1, d2, d3] => { results := [.lit (.bool true)], args := [d1, d2, d3] }
  | _ => none }
def heavyhitterMergesRow : OpenClaim := { program := "ytdhbecdlablonaa", sum := "8052840c2c70e30d1fb617598d13531211fabcd7a165b7cb46a70fbda353c075", func := "sleuth/sleuthlaw22.HeavyhitterMerges", spec := "heavyhitterMerges", unfollowed := true, recurses := true, apart := false }
def HeavyhitterMergesSaid : Prop := heavyhitterMergesRow.holds Try.pinned (OpenSpec.ofChange heavyhitterMergesSpec)

/-- ITS FALSE NEIGHBOUR: 'it returns false'. Refute it at one input. -/
def heavyhitterMergesWrong : ChangeSpec := { name := "heavyhitterMerges", fn := fun _ => fun
  | [d1, d2, d3] => { results := [.lit (.bool false)], args := [d1, d2, d3] }
  | _ => none }
def HeavyhitterMergesWrongFalsely : Prop := heavyhitterMergesRow.holds Try.pinned (OpenSpec.ofChange heavyhitterMergesWrong)

/- THE SECOND FORM. 'bulk': how many values and letters a reading holds, each counted each time it is reached (what is shared counts as often as it is met; a slice's spare places count too). A statement '..UptoSaid' is the law's where the arguments, and the package variables that the reading takes, are together of bulk at most 1048576: NARROWER than '..Said'. Prove '..Said' where nothing that the law and all that it calls make is longer than what came in: it says more and counts as full. Else prove '..UptoSaid'. A law counts once. -/
mutual
def uptoBulk {H : Type} : DataW H → Nat
  | .lit (.string bytes) => bytes.length + 1
  | .lit _ => 1
  | .nil => 1
  | .ptr d => uptoBulk d + 1
  | .slice elems spare => uptoBulkAll elems + uptoBulkAll spare + 1
  | .agg parts => uptoBulkAll parts + 1
  | .iface _ d => uptoBulk d + 1
  | .map entries => uptoBulkEntries entries + 1
  | .held _ => 1
def uptoBulkAll {H : Type} : List (DataW H) → Nat
  | [] => 0
  | d :: r => uptoBulk d + uptoBulkAll r
def uptoBulkEntries {H : Type} : List (Lit × DataW H) → Nat
  | [] => 0
  | x :: r => uptoBulkEntry x + uptoBulkEntries r
def uptoBulkEntry {H : Type} : Lit × DataW H → Nat
  | (.string bytes, d) => bytes.length + uptoBulk d + 1
  | (_, d) => uptoBulk d + 1
 end
def uptoSmall : (H : Type) → List (DataW H) → Bool := fun _ ds => decide (uptoBulkAll ds ≤ 1048576)
def OpenSpec.upto (s : _root_.Go.ChangeSpec) : _root_.Go.OpenSpec := { _root_.Go.OpenSpec.ofChange s with cond := some uptoSmall }

/-- 'sleuthlaw22.HeavyhitterOverflows', WHERE WHAT IT READS IS OF BULK AT MOST 1048576: true; the input reads as it did. -/
def heavyhitterOverflowsUptoRow : OpenClaim := { program := "ytdhbecdlablonaa", sum := "8052840c2c70e30d1fb617598d13531211fabcd7a165b7cb46a70fbda353c075", func := "sleuth/sleuthlaw22.HeavyhitterOverflows", spec := "heavyhitterOverflows", unfollowed := true, recurses := true, apart := false, narrowed := true }
def HeavyhitterOverflowsUptoSaid : Prop := heavyhitterOverflowsUptoRow.holds Try.pinned (OpenSpec.upto heavyhitterOverflowsSpec)

/-- 'sleuthlaw22.HeavyhitterStreams', WHERE WHAT IT READS IS OF BULK AT MOST 1048576: true; the input reads as it did. -/
def heavyhitterStreamsUptoRow : OpenClaim := { program := "ytdhbecdlablonaa", sum := "8052840c2c70e30d1fb617598d13531211fabcd7a165b7cb46a70fbda353c075", func := "sleuth/sleuthlaw22.HeavyhitterStreams", spec := "heavyhitterStreams", unfollowed := true, recurses := true, apart := false, narrowed := true }
def HeavyhitterStreamsUptoSaid : Prop := heavyhitterStreamsUptoRow.holds Try.pinned (OpenSpec.upto heavyhitterStreamsSpec)

/-- 'sleuthlaw22.HeavyhitterParts', WHERE WHAT IT READS IS OF BULK AT MOST 1048576: true; the input reads as it did. -/
def heavyhitterPartsUptoRow : OpenClaim := { program := "ytdhbecdlablonaa", sum := "8052840c2c70e30d1fb617598d13531211fabcd7a165b7cb46a70fbda353c075", func := "sleuth/sleuthlaw22.HeavyhitterParts", spec := "heavyhitterParts", unfollowed := true, recurses := true, apart := false, narrowed := true }
def HeavyhitterPartsUptoSaid : Prop := heavyhitterPartsUptoRow.holds Try.pinned (OpenSpec.upto heavyhitterPartsSpec)

/-- 'sleuthlaw22.HeavyhitterExact', WHERE WHAT IT READS IS OF BULK AT MOST 1048576: true; the input reads as it did. -/
def heavyhitterExactUptoRow : OpenClaim := { program := "ytdhbecdlablonaa", sum := "8052840c2c70e30d1fb617598d13531211fabcd7a165b7cb46a70fbda353c075", func := "sleuth/sleuthlaw22.HeavyhitterExact", spec := "heavyhitterExact", unfollowed := true, recurses := true, apart := false, narrowed := true }
def HeavyhitterExactUptoSaid : Prop := heavyhitterExactUptoRow.holds Try.pinned (OpenSpec.upto heavyhitterExactSpec)

/-- 'sleuthlaw22.HeavyhitterBounds', WHERE WHAT IT READS IS OF BULK AT MOST 1048576: true; the input reads as it did. -/
def heavyhitterBoundsUptoRow : OpenClaim := { program := "ytdhbecdlablonaa", sum := "8052840c2c70e30d1fb617598d13531211fabcd7a165b7cb46a70fbda353c075", func := "sleuth/sleuthlaw22.HeavyhitterBounds", spec := "heavyhitterBounds", unfollowed := true, recurses := true, apart := false, narrowed := true }
def HeavyhitterBoundsUptoSaid : Prop := heavyhitterBoundsUptoRow.holds Try.pinned (OpenSpec.upto heavyhitterBoundsSpec)

/-- 'sleuthlaw22.HeavyhitterEquals', WHERE WHAT IT READS IS OF BULK AT MOST 1048576: true; the input reads as it did. -/
def heavyhitterEqualsUptoRow : OpenClaim := { program := "ytdhbecdlablonaa", sum := "8052840c2c70e30d1fb617598d13531211fabcd7a165b7cb46a70fbda353c075", func := "sleuth/sleuthlaw22.HeavyhitterEquals", spec := "heavyhitterEquals", unfollowed := true, recurses := true, apart := false, narrowed := true }
def HeavyhitterEqualsUptoSaid : Prop := heavyhitterEqualsUptoRow.holds Try.pinned (OpenSpec.upto heavyhitterEqualsSpec)

/-- 'sleuthlaw22.HeavyhitterChecks', WHERE WHAT IT READS IS OF BULK AT MOST 1048576: true; the input reads as it did. -/
def heavyhitterChecksUptoRow : OpenClaim := { program := "ytdhbecdlablonaa", sum := "8052840c2c70e30d1fb617598d13531211fabcd7a165b7cb46a70fbda353c075", func := "sleuth/sleuthlaw22.HeavyhitterChecks", spec := "heavyhitterChecks", unfollowed := true, recurses := true, apart := false, narrowed := true }
def HeavyhitterChecksUptoSaid : Prop := heavyhitterChecksUptoRow.holds Try.pinned (OpenSpec.upto heavyhitterChecksSpec)

/-- 'sleuthlaw22.HeavyhitterAdds', WHERE WHAT IT READS IS OF BULK AT MOST 1048576: true; the input reads as it did. -/
def heavyhitterAddsUptoRow : OpenClaim := { program := "ytdhbecdlablonaa", sum := "8052840c2c70e30d1fb617598d13531211fabcd7a165b7cb46a70fbda353c075", func := "sleuth/sleuthlaw22.HeavyhitterAdds", spec := "heavyhitterAdds", unfollowed := true, recurses := true, apart := false, narrowed := true }
def HeavyhitterAddsUptoSaid : Prop := heavyhitterAddsUptoRow.holds Try.pinned (OpenSpec.upto heavyhitterAddsSpec)

/-- 'sleuthlaw22.HeavyhitterLists', WHERE WHAT IT READS IS OF BULK AT MOST 1048576: true; the input reads as it did. -/
def heavyhitterListsUptoRow : OpenClaim := { program := "ytdhbecdlablonaa", sum := "8052840c2c70e30d1fb617598d13531211fabcd7a165b7cb46a70fbda353c075", func := "sleuth/sleuthlaw22.HeavyhitterLists", spec := "heavyhitterLists", unfollowed := true, recurses := true, apart := false, narrowed := true }
def HeavyhitterListsUptoSaid : Prop := heavyhitterListsUptoRow.holds Try.pinned (OpenSpec.upto heavyhitterListsSpec)

/-- 'sleuthlaw22.HeavyhitterMerges', WHERE WHAT IT READS IS OF BULK AT MOST 1048576: true; the input reads as it did. -/
def heavyhitterMergesUptoRow : OpenClaim := { program := "ytdhbecdlablonaa", sum := "8052840c2c70e30d1fb617598d13531211fabcd7a165b7cb46a70fbda353c075", func := "sleuth/sleuthlaw22.HeavyhitterMerges", spec := "heavyhitterMerges", unfollowed := true, recurses := true, apart := false, narrowed := true }
def HeavyhitterMergesUptoSaid : Prop := heavyhitterMergesUptoRow.holds Try.pinned (OpenSpec.upto heavyhitterMergesSpec)

end Rows
end Go.Proofs.Ytdhbecdlablonaa
