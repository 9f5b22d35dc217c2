/-
  No cell of these rows narrows 'for every input' (looked for: loops, veiled, ifaces, maps, wideKeys, modest, calm, conditions, laid).
  DERIVED. THE GIVEN ROWS OF THIS SEAT. 11 by the template 'for every input the law returns true; each argument reads behind the call as it read before'; 0 by the template 'total and deterministic' (their statements: YteidaaobppjlbaaTotals.lean).
  GIVEN WITH THE SEED: the statements are not yours to turn. If you find one false, say at which input.
  Laid BY PROGRAM, IN A SANDBOX (cutbox-rows.mjs): the forced cells as the released guide's own fill.sh prints them over the translation ae333c038005ecb2… (all of the seat's roots in one cut). By AI agents, Wed Nov 11 2026. No macro, syntax, notation, axiom, sorry.
-/
import Derived.Test.YteidaaobppjlbaaChecked
import GoSem.Claim
import GoSem.ClaimJoined
import GoSem.ClaimMapViews
import Derived.JoinedTies
import Derived.KernelRfl
namespace Go.Proofs.Yteidaaobppjlbaa
/- THE CELL 'sum', in the pinned program and in every row, IS THE sha256 OF THE DUMP (.gsa) THAT YteidaaobppjlbaaProg.lean LOADS. Nothing in Lean hashes anything: it is a label: what it is worth is what the hold of that sum in a sandbox is worth. -/
noncomputable def Try.pinned : Pinned := { name := "yteidaaobppjlbaa", sum := "ae333c038005ecb2e2a85f29c6ee9faa6d49ce240600d2d56f61b91190142623", checked := Try.checked }
namespace Rows
def none {H : Type} : Left H := { results := [], args := [] }

/-- 'sleuthlaw47.DeploymentChecks': WHATEVER THE INPUT: true; the input reads as it did. -/
def deploymentChecksSpec : ChangeSpec := { name := "deploymentChecks", fn := fun _ => fun
  | [d1, d2] => { results := [.lit (.bool true)], args := [d1, d2] }
  | _ => none }
def deploymentChecksRow : OpenClaim := { program := "yteidaaobppjlbaa", sum := "ae333c038005ecb2e2a85f29c6ee9faa6d49ce240600d2d56f61b91190142623", func := "sleuth/sleuthlaw47.DeploymentChecks", spec := "deploymentChecks", plainKeys := false, apart := false }
def DeploymentChecksSaid : Prop := deploymentChecksRow.holds Try.pinned (OpenSpec.ofChange deploymentChecksSpec)

/-- ITS FALSE NEIGHBOUR: 'it returns false'. Refute it at one input. -/
def deploymentChecksWrong : ChangeSpec := { name := "deploymentChecks", fn := fun _ => fun
  | [d1, d2] => { results := [.lit (.bool false)], args := [d1, d2] }
  | _ => none }
def DeploymentChecksWrongFalsely : Prop := deploymentChecksRow.holds Try.pinned (OpenSpec.ofChange deploymentChecksWrong)

/-- 'sleuthlaw47.DeploymentTiles': WHATEVER THE INPUT: true; the input reads as it did. -/
def deploymentTilesSpec : ChangeSpec := { name := "deploymentTiles", fn := fun _ => fun
  | [d] => { results := [.lit (.bool true)], args := [d] }
  | _ => none }
def deploymentTilesRow : OpenClaim := { program := "yteidaaobppjlbaa", sum := "ae333c038005ecb2e2a85f29c6ee9faa6d49ce240600d2d56f61b91190142623", func := "sleuth/sleuthlaw47.DeploymentTiles", spec := "deploymentTiles", plainKeys := false, apart := false }
def DeploymentTilesSaid : Prop := deploymentTilesRow.holds Try.pinned (OpenSpec.ofChange deploymentTilesSpec)

/-- ITS FALSE NEIGHBOUR: 'it returns false'. Refute it at one input. -/
def deploymentTilesWrong : ChangeSpec := { name := "deploymentTiles", fn := fun _ => fun
  | [d] => { results := [.lit (.bool false)], args := [d] }
  | _ => none }
def DeploymentTilesWrongFalsely : Prop := deploymentTilesRow.holds Try.pinned (OpenSpec.ofChange deploymentTilesWrong)

/-- 'sleuthlaw47.DeploymentRollouts': WHATEVER THE INPUT: true; the input reads as it did. -/
def deploymentRolloutsSpec : ChangeSpec := { name := "deploymentRollouts", fn := fun _ => fun
  | [d1, d2] => { results := [.lit (.bool true)], args := [d1, d2] }
  | _ => none }
def deploymentRolloutsRow : OpenClaim := { program := "yteidaaobppjlbaa", sum := "ae333c038005ecb2e2a85f29c6ee9faa6d49ce240600d2d56f61b91190142623", func := "sleuth/sleuthlaw47.DeploymentRollouts", spec := "deploymentRollouts", unfollowed := true, recurses := true, plainKeys := false, apart := false }
def DeploymentRolloutsSaid : Prop := deploymentRolloutsRow.holds Try.pinned (OpenSpec.ofChange deploymentRolloutsSpec)

/-- ITS FALSE NEIGHBOUR: 'it returns false'. Refute it at one input. -/
def deploymentRolloutsWrong : ChangeSpec := { name := "deploymentRollouts", fn := fun _ => fun
  | [d1, d2] => { results := [.lit (.bool false)], args := [d1, d2] }
  | _ => none }
def DeploymentRolloutsWrongFalsely : Prop := deploymentRolloutsRow.holds Try.pinned (OpenSpec.ofChange deploymentRolloutsWrong)

/-- 'sleuthlaw47.DeploymentJoins': WHATEVER THE INPUT: true; the input reads as it did. -/
def deploymentJoinsSpec : ChangeSpec := { name := "deploymentJoins", fn := fun _ => fun
  | [d1, d2] => { results := [.lit (.bool true)], args := [d1, d2] }
  | _ => none }
def deploymentJoinsRow : OpenClaim := { program := "yteidaaobppjlbaa", sum := "ae333c038005ecb2e2a85f29c6ee9faa6d49ce240600d2d56f61b91190142623", func := "sleuth/sleuthlaw47.DeploymentJoins", spec := "deploymentJoins", plainKeys := false, apart := false }
def DeploymentJoinsSaid : Prop := deploymentJoinsRow.holds Try.pinned (OpenSpec.ofChange deploymentJoinsSpec)

/-- ITS FALSE NEIGHBOUR: 'it returns false'. Refute it at one input. -/
def deploymentJoinsWrong : ChangeSpec := { name := "deploymentJoins", fn := fun _ => fun
  | [d1, d2] => { results := [.lit (.bool false)], args := [d1, d2] }
  | _ => none }
def DeploymentJoinsWrongFalsely : Prop := deploymentJoinsRow.holds Try.pinned (OpenSpec.ofChange deploymentJoinsWrong)

/-- 'sleuthlaw47.DeploymentActive': WHATEVER THE INPUT: true; the input reads as it did. -/
def deploymentActiveSpec : ChangeSpec := { name := "deploymentActive", fn := fun _ => fun
  | [d1, d2, d3] => { results := [.lit (.bool true)], args := [d1, d2, d3] }
  | _ => none }
def deploymentActiveRow : OpenClaim := { program := "yteidaaobppjlbaa", sum := "ae333c038005ecb2e2a85f29c6ee9faa6d49ce240600d2d56f61b91190142623", func := "sleuth/sleuthlaw47.DeploymentActive", spec := "deploymentActive", plainKeys := false, apart := false }
def DeploymentActiveSaid : Prop := deploymentActiveRow.holds Try.pinned (OpenSpec.ofChange deploymentActiveSpec)

/-- ITS FALSE NEIGHBOUR: 'it returns false'. Refute it at one input. -/
def deploymentActiveWrong : ChangeSpec := { name := "deploymentActive", fn := fun _ => fun
  | [d1, d2, d3] => { results := [.lit (.bool false)], args := [d1, d2, d3] }
  | _ => none }
def DeploymentActiveWrongFalsely : Prop := deploymentActiveRow.holds Try.pinned (OpenSpec.ofChange deploymentActiveWrong)

/-- 'sleuthlaw47.DeploymentExposes': WHATEVER THE INPUT: true; the input reads as it did. -/
def deploymentExposesSpec : ChangeSpec := { name := "deploymentExposes", fn := fun _ => fun
  | [d1, d2, d3] => { results := [.lit (.bool true)], args := [d1, d2, d3] }
  | _ => none }
def deploymentExposesRow : OpenClaim := { program := "yteidaaobppjlbaa", sum := "ae333c038005ecb2e2a85f29c6ee9faa6d49ce240600d2d56f61b91190142623", func := "sleuth/sleuthlaw47.DeploymentExposes", spec := "deploymentExposes", unfollowed := true, recurses := true, plainKeys := false, apart := false }
def DeploymentExposesSaid : Prop := deploymentExposesRow.holds Try.pinned (OpenSpec.ofChange deploymentExposesSpec)

/-- ITS FALSE NEIGHBOUR: 'it returns false'. Refute it at one input. -/
def deploymentExposesWrong : ChangeSpec := { name := "deploymentExposes", fn := fun _ => fun
  | [d1, d2, d3] => { results := [.lit (.bool false)], args := [d1, d2, d3] }
  | _ => none }
def DeploymentExposesWrongFalsely : Prop := deploymentExposesRow.holds Try.pinned (OpenSpec.ofChange deploymentExposesWrong)

/-- 'sleuthlaw47.DeploymentWindows': WHATEVER THE INPUT: true; the input reads as it did. -/
def deploymentWindowsSpec : ChangeSpec := { name := "deploymentWindows", fn := fun _ => fun
  | [d1, d2, d3] => { results := [.lit (.bool true)], args := [d1, d2, d3] }
  | _ => none }
def deploymentWindowsRow : OpenClaim := { program := "yteidaaobppjlbaa", sum := "ae333c038005ecb2e2a85f29c6ee9faa6d49ce240600d2d56f61b91190142623", func := "sleuth/sleuthlaw47.DeploymentWindows", spec := "deploymentWindows", unfollowed := true, recurses := true, plainKeys := false, apart := false }
def DeploymentWindowsSaid : Prop := deploymentWindowsRow.holds Try.pinned (OpenSpec.ofChange deploymentWindowsSpec)

/-- ITS FALSE NEIGHBOUR: 'it returns false'. Refute it at one input. -/
def deploymentWindowsWrong : ChangeSpec := { name := "deploymentWindows", fn := fun _ => fun
  | [d1, d2, d3] => { results := [.lit (.bool false)], args := [d1, d2, d3] }
  | _ => none }
def DeploymentWindowsWrongFalsely : Prop := deploymentWindowsRow.holds Try.pinned (OpenSpec.ofChange deploymentWindowsWrong)

/-- 'sleuthlaw47.DeploymentAddsUp': WHATEVER THE INPUT: true; the input reads as it did. -/
def deploymentAddsUpSpec : ChangeSpec := { name := "deploymentAddsUp", fn := fun _ => fun
  | [d1, d2] => { results := [.lit (.bool true)], args := [d1, d2] }
  | _ => none }
def deploymentAddsUpRow : OpenClaim := { program := "yteidaaobppjlbaa", sum := "ae333c038005ecb2e2a85f29c6ee9faa6d49ce240600d2d56f61b91190142623", func := "sleuth/sleuthlaw47.DeploymentAddsUp", spec := "deploymentAddsUp", unfollowed := true, recurses := true, plainKeys := false, apart := false }
def DeploymentAddsUpSaid : Prop := deploymentAddsUpRow.holds Try.pinned (OpenSpec.ofChange deploymentAddsUpSpec)

/-- ITS FALSE NEIGHBOUR: 'it returns false'. Refute it at one input. -/
def deploymentAddsUpWrong : ChangeSpec := { name := "deploymentAddsUp", fn := fun _ => fun
  | [d1, d2] => { results := [.lit (.bool false)], args := [d1, d2] }
  | _ => none }
def DeploymentAddsUpWrongFalsely : Prop := deploymentAddsUpRow.holds Try.pinned (OpenSpec.ofChange deploymentAddsUpWrong)

/-- 'sleuthlaw47.DeploymentCalls': WHATEVER THE INPUT: true; the input reads as it did. -/
def deploymentCallsSpec : ChangeSpec := { name := "deploymentCalls", fn := fun _ => fun
  | [d1, d2] => { results := [.lit (.bool true)], args := [d1, d2] }
  | _ => none }
def deploymentCallsRow : OpenClaim := { program := "yteidaaobppjlbaa", sum := "ae333c038005ecb2e2a85f29c6ee9faa6d49ce240600d2d56f61b91190142623", func := "sleuth/sleuthlaw47.DeploymentCalls", spec := "deploymentCalls", unfollowed := true, recurses := true, plainKeys := false, apart := false }
def DeploymentCallsSaid : Prop := deploymentCallsRow.holds Try.pinned (OpenSpec.ofChange deploymentCallsSpec)

/-- ITS FALSE NEIGHBOUR: 'it returns false'. Refute it at one input. -/
def deploymentCallsWrong : ChangeSpec := { name := "deploymentCalls", fn := fun _ => fun
  | [d1, d2] => { results := [.lit (.bool false)], args := [d1, d2] }
  | _ => none }
def DeploymentCallsWrongFalsely : Prop := deploymentCallsRow.holds Try.pinned (OpenSpec.ofChange deploymentCallsWrong)

/-- 'sleuthlaw47.DeploymentSorts': WHATEVER THE INPUT: true; the input reads as it did. -/
def deploymentSortsSpec : ChangeSpec := { name := "deploymentSorts", fn := fun _ => fun
  | [d1, d2] => { results := [.lit (.bool true)], args := [d1, d2] }
  | _ => none }
def deploymentSortsRow : OpenClaim := { program := "yteidaaobppjlbaa", sum := "ae333c038005ecb2e2a85f29c6ee9faa6d49ce240600d2d56f61b91190142623", func := "sleuth/sleuthlaw47.DeploymentSorts", spec := "deploymentSorts", unfollowed := true, recurses := true, plainKeys := false, apart := false }
def DeploymentSortsSaid : Prop := deploymentSortsRow.holds Try.pinned (OpenSpec.ofChange deploymentSortsSpec)

/-- ITS FALSE NEIGHBOUR: 'it returns false'. Refute it at one input. -/
def deploymentSortsWrong : ChangeSpec := { name := "deploymentSorts", fn := fun _ => fun
  | [d1, d2] => { results := [.lit (.bool false)], args := [d1, d2] }
  | _ => none }
def DeploymentSortsWrongFalsely : Prop := deploymentSortsRow.holds Try.pinned (OpenSpec.ofChange deploymentSortsWrong)

/-- 'sleuthlaw47.DeploymentOrderless': WHATEVER THE INPUT: true; the input reads as it did. -/
def deploymentOrderlessSpec : ChangeSpec := { name := "deploymentOrderless", fn := fun _ => fun
  | [d1, d2] => { results := [.lit (.bool true)], args := [d1, d2] }
  | _ => none }
def deploymentOrderlessRow : OpenClaim := { program := "yteidaaobppjlbaa", sum := "ae333c038005ecb2e2a85f29c6ee9faa6d49ce240600d2d56f61b91190142623", func := "sleuth/sleuthlaw47.DeploymentOrderless", spec := "deploymentOrderless", unfollowed := true, recurses := true, plainKeys := false, apart := false }
def DeploymentOrderlessSaid : Prop := deploymentOrderlessRow.holds Try.pinned (OpenSpec.ofChange deploymentOrderlessSpec)

/-- ITS FALSE NEIGHBOUR: 'it returns false'. Refute it at one input. -/
def deploymentOrderlessWrong : ChangeSpec := { name := "deploymentOrderless", fn := fun _ => fun
  | [d1, d2] => { results := [.lit (.bool false)], args := [d1, d2] }
  | _ => none }
def DeploymentOrderlessWrongFalsely : Prop := deploymentOrderlessRow.holds Try.pinned (OpenSpec.ofChange deploymentOrderlessWrong)

/- THE SECOND FORM. 'bulk': how many values and letters a reading holds, each counted each time it is reached (what is shared counts as often as it is met; a slice's spare places count too). A statement '..UptoSaid' is the law's where the arguments, and the package variables that the reading takes, are together of bulk at most 1048576: NARROWER than '..Said'. Prove '..Said' where nothing that the law and all that it calls make is longer than what came in: it says more and counts as full. Else prove '..UptoSaid'. A law counts once. -/
mutual
def uptoBulk {H : Type} : DataW H → Nat
  | .lit (.string bytes) => bytes.length + 1
  | .lit _ => 1
  | .nil => 1
  | .ptr d => uptoBulk d + 1
  | .slice elems spare => uptoBulkAll elems + uptoBulkAll spare + 1
  | .agg parts => uptoBulkAll parts + 1
  | .iface _ d => uptoBulk d + 1
  | .map entries => uptoBulkEntries entries + 1
  | .held _ => 1
def uptoBulkAll {H : Type} : List (DataW H) → Nat
  | [] => 0
  | d :: r => uptoBulk d + uptoBulkAll r
def uptoBulkEntries {H : Type} : List (Lit × DataW H) → Nat
  | [] => 0
  | x :: r => uptoBulkEntry x + uptoBulkEntries r
def uptoBulkEntry {H : Type} : Lit × DataW H → Nat
  | (.string bytes, d) => bytes.length + uptoBulk d + 1
  | (_, d) => uptoBulk d + 1
 end
def uptoSmall : (H : Type) → List (DataW H) → Bool := fun _ ds => decide (uptoBulkAll ds ≤ 1048576)
def OpenSpec.upto (s : _root_.Go.ChangeSpec) : _root_.Go.OpenSpec := { _root_.Go.OpenSpec.ofChange s with cond := some uptoSmall }

/-- 'sleuthlaw47.DeploymentChecks', WHERE WHAT IT READS IS OF BULK AT MOST 1048576: true; the input reads as it did. -/
def deploymentChecksUptoRow : OpenClaim := { program := "yteidaaobppjlbaa", sum := "ae333c038005ecb2e2a85f29c6ee9faa6d49ce240600d2d56f61b91190142623", func := "sleuth/sleuthlaw47.DeploymentChecks", spec := "deploymentChecks", plainKeys := false, apart := false, narrowed := true }
def DeploymentChecksUptoSaid : Prop := deploymentChecksUptoRow.holds Try.pinned (OpenSpec.upto deploymentChecksSpec)

/-- 'sleuthlaw47.DeploymentTiles', WHERE WHAT IT READS IS OF BULK AT MOST 1048576: true; the input reads as it did. -/
def deploymentTilesUptoRow : OpenClaim := { program := "yteidaaobppjlbaa", sum := "ae333c038005ecb2e2a85f29c6ee9faa6d49ce240600d2d56f61b91190142623", func := "sleuth/sleuthlaw47.DeploymentTiles", spec := "deploymentTiles", plainKeys := false, apart := false, narrowed := true }
def DeploymentTilesUptoSaid : Prop := deploymentTilesUptoRow.holds Try.pinned (OpenSpec.upto deploymentTilesSpec)

/-- 'sleuthlaw47.DeploymentRollouts', WHERE WHAT IT READS IS OF BULK AT MOST 1048576: true; the input reads as it did. -/
def deploymentRolloutsUptoRow : OpenClaim := { program := "yteidaaobppjlbaa", sum := "ae333c038005ecb2e2a85f29c6ee9faa6d49ce240600d2d56f61b91190142623", func := "sleuth/sleuthlaw47.DeploymentRollouts", spec := "deploymentRollouts", unfollowed := true, recurses := true, plainKeys := false, apart := false, narrowed := true }
def DeploymentRolloutsUptoSaid : Prop := deploymentRolloutsUptoRow.holds Try.pinned (OpenSpec.upto deploymentRolloutsSpec)

/-- 'sleuthlaw47.DeploymentJoins', WHERE WHAT IT READS IS OF BULK AT MOST 1048576: true; the input reads as it did. -/
def deploymentJoinsUptoRow : OpenClaim := { program := "yteidaaobppjlbaa", sum := "ae333c038005ecb2e2a85f29c6ee9faa6d49ce240600d2d56f61b91190142623", func := "sleuth/sleuthlaw47.DeploymentJoins", spec := "deploymentJoins", plainKeys := false, apart := false, narrowed := true }
def DeploymentJoinsUptoSaid : Prop := deploymentJoinsUptoRow.holds Try.pinned (OpenSpec.upto deploymentJoinsSpec)

/-- 'sleuthlaw47.DeploymentActive', WHERE WHAT IT READS IS OF BULK AT MOST 1048576: true; the input reads as it did. -/
def deploymentActiveUptoRow : OpenClaim := { program := "yteidaaobppjlbaa", sum := "ae333c038005ecb2e2a85f29c6ee9faa6d49ce240600d2d56f61b91190142623", func := "sleuth/sleuthlaw47.DeploymentActive", spec := "deploymentActive", plainKeys := false, apart := false, narrowed := true }
def DeploymentActiveUptoSaid : Prop := deploymentActiveUptoRow.holds Try.pinned (OpenSpec.upto deploymentActiveSpec)

/-- 'sleuthlaw47.DeploymentExposes', WHERE WHAT IT READS IS OF BULK AT MOST 1048576: true; the input reads as it did. -/
def deploymentExposesUptoRow : OpenClaim := { program := "yteidaaobppjlbaa", sum := "ae333c038005ecb2e2a85f29c6ee9faa6d49ce240600d2d56f61b91190142623", func := "sleuth/sleuthlaw47.DeploymentExposes", spec := "deploymentExposes", unfollowed := true, recurses := true, plainKeys := false, apart := false, narrowed := true }
def DeploymentExposesUptoSaid : Prop := deploymentExposesUptoRow.holds Try.pinned (OpenSpec.upto deploymentExposesSpec)

/-- 'sleuthlaw47.DeploymentWindows', WHERE WHAT IT READS IS OF BULK AT MOST 1048576: true; the input reads as it did. -/
def deploymentWindowsUptoRow : OpenClaim := { program := "yteidaaobppjlbaa", sum := "ae333c038005ecb2e2a85f29c6ee9faa6d49ce240600d2d56f61b91190142623", func := "sleuth/sleuthlaw47.DeploymentWindows", spec := "deploymentWindows", unfollowed := true, recurses := true, plainKeys := false, apart := false, narrowed := true }
def DeploymentWindowsUptoSaid : Prop := deploymentWindowsUptoRow.holds Try.pinned (OpenSpec.upto deploymentWindowsSpec)

/-- 'sleuthlaw47.DeploymentAddsUp', WHERE WHAT IT READS IS OF BULK AT MOST 1048576: true; the input reads as it did. -/
def deploymentAddsUpUptoRow : OpenClaim := { program := "yteidaaobppjlbaa", sum := "ae333c038005ecb2e2a85f29c6ee9faa6d49ce240600d2d56f61b91190142623", func := "sleuth/sleuthlaw47.DeploymentAddsUp", spec := "deploymentAddsUp", unfollowed := true, recurses := true, plainKeys := false, apart := false, narrowed := true }
def DeploymentAddsUpUptoSaid : Prop := deploymentAddsUpUptoRow.holds Try.pinned (OpenSpec.upto deploymentAddsUpSpec)

/-- 'sleuthlaw47.DeploymentCalls', WHERE WHAT IT READS IS OF BULK AT MOST 1048576: true; the input reads as it did. -/
def deploymentCallsUptoRow : OpenClaim := { program := "yteidaaobppjlbaa", sum := "ae333c038005ecb2e2a85f29c6ee9faa6d49ce240600d2d56f61b91190142623", func := "sleuth/sleuthlaw47.DeploymentCalls", spec := "deploymentCalls", unfollowed := true, recurses := true, plainKeys := false, apart := false, narrowed := true }
def DeploymentCallsUptoSaid : Prop := deploymentCallsUptoRow.holds Try.pinned (OpenSpec.upto deploymentCallsSpec)

/-- 'sleuthlaw47.DeploymentSorts', WHERE WHAT IT READS IS OF BULK AT MOST 1048576: true; the input reads as it did. -/
def deploymentSortsUptoRow : OpenClaim := { program := "yteidaaobppjlbaa", sum := "ae333c038005ecb2e2a85f29c6ee9faa6d49ce240600d2d56f61b91190142623", func := "sleuth/sleuthlaw47.DeploymentSorts", spec := "deploymentSorts", unfollowed := true, recurses := true, plainKeys := false, apart := false, narrowed := true }
def DeploymentSortsUptoSaid : Prop := deploymentSortsUptoRow.holds Try.pinned (OpenSpec.upto deploymentSortsSpec)

/-- 'sleuthlaw47.DeploymentOrderless', WHERE WHAT IT READS IS OF BULK AT MOST 1048576: true; the input reads as it did. -/
def deploymentOrderlessUptoRow : OpenClaim := { program := "yteidaaobppjlbaa", sum := "ae333c038005ecb2e2a85f29c6ee9faa6d49ce240600d2d56f61b91190142623", func := "sleuth/sleuthlaw47.DeploymentOrderless", spec := "deploymentOrderless", unfollowed := true, recurses := true, plainKeys := false, apart := false, narrowed := true }
def DeploymentOrderlessUptoSaid : Prop := deploymentOrderlessUptoRow.holds Try.pinned (OpenSpec.upto deploymentOrderlessSpec)

end Rows
end Go.Proofs.Yteidaaobppjlbaa
