/-
  No cell of these rows narrows 'for every input' (looked for: loops, veiled, ifaces, maps, wideKeys, modest, calm, conditions, laid).
  DERIVED. THE GIVEN ROWS OF THIS SEAT. 10 by the template 'for every input the law returns true; each argument reads behind the call as it read before'; 0 by the template 'total and deterministic' (their statements: YtpooehcjchkbkaaTotals.lean).
  GIVEN WITH THE SEED: the statements are not yours to turn. If you find one false, say at which input.
  Laid BY PROGRAM, IN A SANDBOX (cutbox-rows.mjs): the forced cells as the released guide's own fill.sh prints them over the translation d7f91b263f0d4293… (all of the seat's roots in one cut). By AI agents, Wed Nov 11 2026. No macro, syntax, notation, axiom, sorry.
-/
import Derived.Test.YtpooehcjchkbkaaChecked
import GoSem.Claim
import GoSem.ClaimJoined
import GoSem.ClaimMapViews
import Derived.JoinedTies
import Derived.KernelRfl
namespace Go.Proofs.Ytpooehcjchkbkaa
/- THE CELL 'sum', in the pinned program and in every row, IS THE sha256 OF THE DUMP (.gsa) THAT YtpooehcjchkbkaaProg.lean LOADS. Nothing in Lean hashes anything: it is a label: what it is worth is what the hold of that sum in a sandbox is worth. -/
noncomputable def Try.pinned : Pinned := { name := "ytpooehcjchkbkaa", sum := "d7f91b263f0d4293d44c769f1319c7549634e4c80a78b38de8788874ddcbeec9", checked := Try.checked }
namespace Rows
def none {H : Type} : Left H := { results := [], args := [] }

/-- 'sleuthlaw49.AlertChecks': WHATEVER THE INPUT: true; the input reads as it did. -/
def alertChecksSpec : ChangeSpec := { name := "alertChecks", fn := fun _ => fun
  | [d1, d2] => { results := [.lit (.bool true)], args := [d1, d2] }
  | _ => none }
def alertChecksRow : OpenClaim := { program := "ytpooehcjchkbkaa", sum := "d7f91b263f0d4293d44c769f1319c7549634e4c80a78b38de8788874ddcbeec9", func := "sleuth/sleuthlaw49.AlertChecks", spec := "alertChecks", unfollowed := true, recurses := true, apart := false }
def AlertChecksSaid : Prop := alertChecksRow.holds Try.pinned (OpenSpec.ofChange alertChecksSpec)

/-- ITS FALSE NEIGHBOUR: 'it returns false'. Refute it at one input. -/
def alertChecksWrong : ChangeSpec := { name := "alertChecks", fn := fun _ => fun
  | [d1, d2] => { results := [.lit (.bool false)], args := [d1, d2] }
  | _ => none }
def AlertChecksWrongFalsely : Prop := alertChecksRow.holds Try.pinned (OpenSpec.ofChange alertChecksWrong)

/-- 'sleuthlaw49.AlertInputs': WHATEVER THE INPUT: true; the input reads as it did. -/
def alertInputsSpec : ChangeSpec := { name := "alertInputs", fn := fun _ => fun
  | [d1, d2, d3] => { results := [.lit (.bool true)], args := [d1, d2, d3] }
  | _ => none }
def alertInputsRow : OpenClaim := { program := "ytpooehcjchkbkaa", sum := "d7f91b263f0d4293d44c769f1319c7549634e4c80a78b38de8788874ddcbeec9", func := "sleuth/sleuthlaw49.AlertInputs", spec := "alertInputs", unfollowed := true, recurses := true, apart := false }
def AlertInputsSaid : Prop := alertInputsRow.holds Try.pinned (OpenSpec.ofChange alertInputsSpec)

/-- ITS FALSE NEIGHBOUR: 'it returns false'. Refute it at one input. -/
def alertInputsWrong : ChangeSpec := { name := "alertInputs", fn := fun _ => fun
  | [d1, d2, d3] => { results := [.lit (.bool false)], args := [d1, d2, d3] }
  | _ => none }
def AlertInputsWrongFalsely : Prop := alertInputsRow.holds Try.pinned (OpenSpec.ofChange alertInputsWrong)

/-- 'sleuthlaw49.AlertBudgets': WHATEVER THE INPUT: true; the input reads as it did. -/
def alertBudgetsSpec : ChangeSpec := { name := "alertBudgets", fn := fun _ => fun
  | [d1, d2, d3] => { results := [.lit (.bool true)], args := [d1, d2, d3] }
  | _ => none }
def alertBudgetsRow : OpenClaim := { program := "ytpooehcjchkbkaa", sum := "d7f91b263f0d4293d44c769f1319c7549634e4c80a78b38de8788874ddcbeec9", func := "sleuth/sleuthlaw49.AlertBudgets", spec := "alertBudgets", unfollowed := true, recurses := true, apart := false }
def AlertBudgetsSaid : Prop := alertBudgetsRow.holds Try.pinned (OpenSpec.ofChange alertBudgetsSpec)

/-- ITS FALSE NEIGHBOUR: 'it returns false'. Refute it at one input. -/
def alertBudgetsWrong : ChangeSpec := { name := "alertBudgets", fn := fun _ => fun
  | [d1, d2, d3] => { results := [.lit (.bool false)], args := [d1, d2, d3] }
  | _ => none }
def AlertBudgetsWrongFalsely : Prop := alertBudgetsRow.holds Try.pinned (OpenSpec.ofChange alertBudgetsWrong)

/-- 'sleuthlaw49.AlertStates': WHATEVER THE INPUT: true; the input reads as it did. -/
def alertStatesSpec : ChangeSpec := { name := "alertStates", fn := fun _ => fun
  | [d1, d2] => { results := [.lit (.bool true)], args := [d1, d2] }
  | _ => none }
def alertStatesRow : OpenClaim := { program := "ytpooehcjchkbkaa", sum := "d7f91b263f0d4293d44c769f1319c7549634e4c80a78b38de8788874ddcbeec9", func := "sleuth/sleuthlaw49.AlertStates", spec := "alertStates", unfollowed := true, recurses := true, apart := false }
def AlertStatesSaid : Prop := alertStatesRow.holds Try.pinned (OpenSpec.ofChange alertStatesSpec)

/-- ITS FALSE NEIGHBOUR: 'it returns false'. Refute it at one input. -/
def alertStatesWrong : ChangeSpec := { name := "alertStates", fn := fun _ => fun
  | [d1, d2] => { results := [.lit (.bool false)], args := [d1, d2] }
  | _ => none }
def AlertStatesWrongFalsely : Prop := alertStatesRow.holds Try.pinned (OpenSpec.ofChange alertStatesWrong)

/-- 'sleuthlaw49.AlertEpisodes': WHATEVER THE INPUT: true; the input reads as it did. -/
def alertEpisodesSpec : ChangeSpec := { name := "alertEpisodes", fn := fun _ => fun
  | [d1, d2, d3] => { results := [.lit (.bool true)], args := [d1, d2, d3] }
  | _ => none }
def alertEpisodesRow : OpenClaim := { program := "ytpooehcjchkbkaa", sum := "d7f91b263f0d4293d44c769f1319c7549634e4c80a78b38de8788874ddcbeec9", func := "sleuth/sleuthlaw49.AlertEpisodes", spec := "alertEpisodes", unfollowed := true, recurses := true, apart := false }
def AlertEpisodesSaid : Prop := alertEpisodesRow.holds Try.pinned (OpenSpec.ofChange alertEpisodesSpec)

/-- ITS FALSE NEIGHBOUR: 'it returns false'. Refute it at one input. -/
def alertEpisodesWrong : ChangeSpec := { name := "alertEpisodes", fn := fun _ => fun
  | [d1, d2, d3] => { results := [.lit (.bool false)], args := [d1, d2, d3] }
  | _ => none }
def AlertEpisodesWrongFalsely : Prop := alertEpisodesRow.holds Try.pinned (OpenSpec.ofChange alertEpisodesWrong)

/-- 'sleuthlaw49.AlertMonotone': WHATEVER THE INPUT: true; the input reads as it did. -/
def alertMonotoneSpec : ChangeSpec := { name := "alertMonotone", fn := fun _ => fun
  | [d1, d2, d3] => { results := [.lit (.bool true)], args := [d1, d2, d3] }
  | _ => none }
def alertMonotoneRow : OpenClaim := { program := "ytpooehcjchkbkaa", sum := "d7f91b263f0d4293d44c769f1319c7549634e4c80a78b38de8788874ddcbeec9", func := "sleuth/sleuthlaw49.AlertMonotone", spec := "alertMonotone", unfollowed := true, recurses := true, apart := false }
def AlertMonotoneSaid : Prop := alertMonotoneRow.holds Try.pinned (OpenSpec.ofChange alertMonotoneSpec)

/-- ITS FALSE NEIGHBOUR: 'it returns false'. Refute it at one input. -/
def alertMonotoneWrong : ChangeSpec := { name := "alertMonotone", fn := fun _ => fun
  | [d1, d2, d3] => { results := [.lit (.bool false)], args := [d1, d2, d3] }
  | _ => none }
def AlertMonotoneWrongFalsely : Prop := alertMonotoneRow.holds Try.pinned (OpenSpec.ofChange alertMonotoneWrong)

/-- 'sleuthlaw49.AlertExhausted': WHATEVER THE INPUT: true; the input reads as it did. -/
def alertExhaustedSpec : ChangeSpec := { name := "alertExhausted", fn := fun _ => fun
  | [d1, d2] => { results := [.lit (.bool true)], args := [d1, d2] }
  | _ => none }
def alertExhaustedRow : OpenClaim := { program := "ytpooehcjchkbkaa", sum := "d7f91b263f0d4293d44c769f1319c7549634e4c80a78b38de8788874ddcbeec9", func := "sleuth/sleuthlaw49.AlertExhausted", spec := "alertExhausted", unfollowed := true, recurses := true, apart := false }
def AlertExhaustedSaid : Prop := alertExhaustedRow.holds Try.pinned (OpenSpec.ofChange alertExhaustedSpec)

/-- ITS FALSE NEIGHBOUR: 'it returns false'. Refute it at one input. -/
def alertExhaustedWrong : ChangeSpec := { name := "alertExhausted", fn := fun _ => fun
  | [d1, d2] => { results := [.lit (.bool false)], args := [d1, d2] }
  | _ => none }
def AlertExhaustedWrongFalsely : Prop := alertExhaustedRow.holds Try.pinned (OpenSpec.ofChange alertExhaustedWrong)

/-- 'sleuthlaw49.AlertRefuses': WHATEVER THE INPUT: true; the input reads as it did. -/
def alertRefusesSpec : ChangeSpec := { name := "alertRefuses", fn := fun _ => fun
  | [d1, d2, d3] => { results := [.lit (.bool true)], args := [d1, d2, d3] }
  | _ => none }
def alertRefusesRow : OpenClaim := { program := "ytpooehcjchkbkaa", sum := "d7f91b263f0d4293d44c769f1319c7549634e4c80a78b38de8788874ddcbeec9", func := "sleuth/sleuthlaw49.AlertRefuses", spec := "alertRefuses", unfollowed := true, recurses := true, apart := false }
def AlertRefusesSaid : Prop := alertRefusesRow.holds Try.pinned (OpenSpec.ofChange alertRefusesSpec)

/-- ITS FALSE NEIGHBOUR: 'it returns false'. Refute it at one input. -/
def alertRefusesWrong : ChangeSpec := { name := "alertRefuses", fn := fun _ => fun
  | [d1, d2, d3] => { results := [.lit (.bool false)], args := [d1, d2, d3] }
  | _ => none }
def AlertRefusesWrongFalsely : Prop := alertRefusesRow.holds Try.pinned (OpenSpec.ofChange alertRefusesWrong)

/-- 'sleuthlaw49.AlertNil': WHATEVER THE INPUT: true; the input reads as it did. -/
def alertNilSpec : ChangeSpec := { name := "alertNil", fn := fun _ => fun
  | [d1, d2] => { results := [.lit (.bool true)], args := [d1, d2] }
  | _ => none }
def alertNilRow : OpenClaim := { program := "ytpooehcjchkbkaa", sum := "d7f91b263f0d4293d44c769f1319c7549634e4c80a78b38de8788874ddcbeec9", func := "sleuth/sleuthlaw49.AlertNil", spec := "alertNil", unfollowed := true, recurses := true, apart := false }
def AlertNilSaid : Prop := alertNilRow.holds Try.pinned (OpenSpec.ofChange alertNilSpec)

/-- ITS FALSE NEIGHBOUR: 'it returns false'. Refute it at one input. -/
def alertNilWrong : ChangeSpec := { name := "alertNil", fn := fun _ => fun
  | [d1, d2] => { results := [.lit (.bool false)], args := [d1, d2] }
  | _ => none }
def AlertNilWrongFalsely : Prop := alertNilRow.holds Try.pinned (OpenSpec.ofChange alertNilWrong)

/-- 'sleuthlaw49.AlertEngines': WHATEVER THE INPUT: true; the input reads as it did. -/
def alertEnginesSpec : ChangeSpec := { name := "alertEngines", fn := fun _ => fun
  | [d1, d2, d3] => { results := [.lit (.bool true)], args := [d1, d2, d3] }
  | _ => none }
def alertEnginesRow : OpenClaim := { program := "ytpooehcjchkbkaa", sum := "d7f91b263f0d4293d44c769f1319c7549634e4c80a78b38de8788874ddcbeec9", func := "sleuth/sleuthlaw49.AlertEngines", spec := "alertEngines", unfollowed := true, recurses := true, apart := false }
def AlertEnginesSaid : Prop := alertEnginesRow.holds Try.pinned (OpenSpec.ofChange alertEnginesSpec)

/-- ITS FALSE NEIGHBOUR: 'it returns false'. Refute it at one input. -/
def alertEnginesWrong : ChangeSpec := { name := "alertEngines", fn := fun _ => fun
  | [d1, d2, d3] => { results := [.lit (.bool false)], args := [d1, d2, d3] }
  | _ => none }
def AlertEnginesWrongFalsely : Prop := alertEnginesRow.holds Try.pinned (OpenSpec.ofChange alertEnginesWrong)

/- THE SECOND FORM. 'bulk': how many values and letters a reading holds, each counted each time it is reached (what is shared counts as often as it is met; a slice's spare places count too). A statement '..UptoSaid' is the law's where the arguments, and the package variables that the reading takes, are together of bulk at most 1048576: NARROWER than '..Said'. Prove '..Said' where nothing that the law and all that it calls make is longer than what came in: it says more and counts as full. Else prove '..UptoSaid'. A law counts once. -/
mutual
def uptoBulk {H : Type} : DataW H → Nat
  | .lit (.string bytes) => bytes.length + 1
  | .lit _ => 1
  | .nil => 1
  | .ptr d => uptoBulk d + 1
  | .slice elems spare => uptoBulkAll elems + uptoBulkAll spare + 1
  | .agg parts => uptoBulkAll parts + 1
  | .iface _ d => uptoBulk d + 1
  | .map entries => uptoBulkEntries entries + 1
  | .held _ => 1
def uptoBulkAll {H : Type} : List (DataW H) → Nat
  | [] => 0
  | d :: r => uptoBulk d + uptoBulkAll r
def uptoBulkEntries {H : Type} : List (Lit × DataW H) → Nat
  | [] => 0
  | x :: r => uptoBulkEntry x + uptoBulkEntries r
def uptoBulkEntry {H : Type} : Lit × DataW H → Nat
  | (.string bytes, d) => bytes.length + uptoBulk d + 1
  | (_, d) => uptoBulk d + 1
 end
def uptoSmall : (H : Type) → List (DataW H) → Bool := fun _ ds => decide (uptoBulkAll ds ≤ 1048576)
def OpenSpec.upto (s : _root_.Go.ChangeSpec) : _root_.Go.OpenSpec := { _root_.Go.OpenSpec.ofChange s with cond := some uptoSmall }

/-- 'sleuthlaw49.AlertChecks', WHERE WHAT IT READS IS OF BULK AT MOST 1048576: true; the input reads as it did. -/
def alertChecksUptoRow : OpenClaim := { program := "ytpooehcjchkbkaa", sum := "d7f91b263f0d4293d44c769f1319c7549634e4c80a78b38de8788874ddcbeec9", func := "sleuth/sleuthlaw49.AlertChecks", spec := "alertChecks", unfollowed := true, recurses := true, apart := false, narrowed := true }
def AlertChecksUptoSaid : Prop := alertChecksUptoRow.holds Try.pinned (OpenSpec.upto alertChecksSpec)

/-- 'sleuthlaw49.AlertInputs', WHERE WHAT IT READS IS OF BULK AT MOST 1048576: true; the input reads as it did. -/
def alertInputsUptoRow : OpenClaim := { program := "ytpooehcjchkbkaa", sum := "d7f91b263f0d4293d44c769f1319c7549634e4c80a78b38de8788874ddcbeec9", func := "sleuth/sleuthlaw49.AlertInputs", spec := "alertInputs", unfollowed := true, recurses := true, apart := false, narrowed := true }
def AlertInputsUptoSaid : Prop := alertInputsUptoRow.holds Try.pinned (OpenSpec.upto alertInputsSpec)

/-- 'sleuthlaw49.AlertBudgets', WHERE WHAT IT READS IS OF BULK AT MOST 1048576: true; the input reads as it did. -/
def alertBudgetsUptoRow : OpenClaim := { program := "ytpooehcjchkbkaa", sum := "d7f91b263f0d4293d44c769f1319c7549634e4c80a78b38de8788874ddcbeec9", func := "sleuth/sleuthlaw49.AlertBudgets", spec := "alertBudgets", unfollowed := true, recurses := true, apart := false, narrowed := true }
def AlertBudgetsUptoSaid : Prop := alertBudgetsUptoRow.holds Try.pinned (OpenSpec.upto alertBudgetsSpec)

/-- 'sleuthlaw49.AlertStates', WHERE WHAT IT READS IS OF BULK AT MOST 1048576: true; the input reads as it did. -/
def alertStatesUptoRow : OpenClaim := { program := "ytpooehcjchkbkaa", sum := "d7f91b263f0d4293d44c769f1319c7549634e4c80a78b38de8788874ddcbeec9", func := "sleuth/sleuthlaw49.AlertStates", spec := "alertStates", unfollowed := true, recurses := true, apart := false, narrowed := true }
def AlertStatesUptoSaid : Prop := alertStatesUptoRow.holds Try.pinned (OpenSpec.upto alertStatesSpec)

/-- 'sleuthlaw49.AlertEpisodes', WHERE WHAT IT READS IS OF BULK AT MOST 1048576: true; the input reads as it did. -/
def alertEpisodesUptoRow : OpenClaim := { program := "ytpooehcjchkbkaa", sum := "d7f91b263f0d4293d44c769f1319c7549634e4c80a78b38de8788874ddcbeec9", func := "sleuth/sleuthlaw49.AlertEpisodes", spec := "alertEpisodes", unfollowed := true, recurses := true, apart := false, narrowed := true }
def AlertEpisodesUptoSaid : Prop := alertEpisodesUptoRow.holds Try.pinned (OpenSpec.upto alertEpisodesSpec)

/-- 'sleuthlaw49.AlertMonotone', WHERE WHAT IT READS IS OF BULK AT MOST 1048576: true; the input reads as it did. -/
def alertMonotoneUptoRow : OpenClaim := { program := "ytpooehcjchkbkaa", sum := "d7f91b263f0d4293d44c769f1319c7549634e4c80a78b38de8788874ddcbeec9", func := "sleuth/sleuthlaw49.AlertMonotone", spec := "alertMonotone", unfollowed := true, recurses := true, apart := false, narrowed := true }
def AlertMonotoneUptoSaid : Prop := alertMonotoneUptoRow.holds Try.pinned (OpenSpec.upto alertMonotoneSpec)

/-- 'sleuthlaw49.AlertExhausted', WHERE WHAT IT READS IS OF BULK AT MOST 1048576: true; the input reads as it did. -/
def alertExhaustedUptoRow : OpenClaim := { program := "ytpooehcjchkbkaa", sum := "d7f91b263f0d4293d44c769f1319c7549634e4c80a78b38de8788874ddcbeec9", func := "sleuth/sleuthlaw49.AlertExhausted", spec := "alertExhausted", unfollowed := true, recurses := true, apart := false, narrowed := true }
def AlertExhaustedUptoSaid : Prop := alertExhaustedUptoRow.holds Try.pinned (OpenSpec.upto alertExhaustedSpec)

/-- 'sleuthlaw49.AlertRefuses', WHERE WHAT IT READS IS OF BULK AT MOST 1048576: true; the input reads as it did. -/
def alertRefusesUptoRow : OpenClaim := { program := "ytpooehcjchkbkaa", sum := "d7f91b263f0d4293d44c769f1319c7549634e4c80a78b38de8788874ddcbeec9", func := "sleuth/sleuthlaw49.AlertRefuses", spec := "alertRefuses", unfollowed := true, recurses := true, apart := false, narrowed := true }
def AlertRefusesUptoSaid : Prop := alertRefusesUptoRow.holds Try.pinned (OpenSpec.upto alertRefusesSpec)

/-- 'sleuthlaw49.AlertNil', WHERE WHAT IT READS IS OF BULK AT MOST 1048576: true; the input reads as it did. -/
def alertNilUptoRow : OpenClaim := { program := "ytpooehcjchkbkaa", sum := "d7f91b263f0d4293d44c769f1319c7549634e4c80a78b38de8788874ddcbeec9", func := "sleuth/sleuthlaw49.AlertNil", spec := "alertNil", unfollowed := true, recurses := true, apart := false, narrowed := true }
def AlertNilUptoSaid : Prop := alertNilUptoRow.holds Try.pinned (OpenSpec.upto alertNilSpec)

/-- 'sleuthlaw49.AlertEngines', WHERE WHAT IT READS IS OF BULK AT MOST 1048576: true; the input reads as it did. -/
def alertEnginesUptoRow : OpenClaim := { program := "ytpooehcjchkbkaa", sum := "d7f91b263f0d4293d44c769f1319c7549634e4c80a78b38de8788874ddcbeec9", func := "sleuth/sleuthlaw49.AlertEngines", spec := "alertEngines", unfollowed := true, recurses := true, apart := false, narrowed := true }
def AlertEnginesUptoSaid : Prop := alertEnginesUptoRow.holds Try.pinned (OpenSpec.upto alertEnginesSpec)

end Rows
end Go.Proofs.Ytpooehcjchkbkaa
