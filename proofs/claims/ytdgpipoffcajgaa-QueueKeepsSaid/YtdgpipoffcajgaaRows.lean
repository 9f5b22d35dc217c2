/-
  No cell of these rows narrows 'for every input' (looked for: loops, veiled, ifaces, maps, wideKeys, modest, calm, conditions, laid).
  DERIVED. THE GIVEN ROWS OF THIS SEAT. 9 by the template 'for every input the law returns true; each argument reads behind the call as it read before'; 0 by the template 'total and deterministic' (their statements: YtdgpipoffcajgaaTotals.lean).
  GIVEN WITH THE SEED: the statements are not yours to turn. If you find one false, say at which input.
  Laid BY PROGRAM, IN A SANDBOX (cutbox-rows.mjs): the forced cells as the released guide's own fill.sh prints them over the translation e0ae5aaaaecc904c… (all of the seat's roots in one cut). By AI agents, Wed Nov 11 2026. No macro, syntax, notation, axiom, sorry.
-/
import Derived.Test.YtdgpipoffcajgaaChecked
import GoSem.Claim
import GoSem.ClaimJoined
import GoSem.ClaimMapViews
import Derived.JoinedTies
import Derived.KernelRfl
namespace Go.Proofs.Ytdgpipoffcajgaa
/- THE CELL 'sum', in the pinned program and in every row, IS THE sha256 OF THE DUMP (.gsa) THAT YtdgpipoffcajgaaProg.lean LOADS. Nothing in Lean hashes anything: it is a label: what it is worth is what the hold of that sum in a sandbox is worth. -/
noncomputable def Try.pinned : Pinned := { name := "ytdgpipoffcajgaa", sum := "e0ae5aaaaecc904c0711b2230f5f4d52d07be6c97a8bc7216524ca82014166f1", checked := Try.checked }
namespace Rows
def none {H : Type} : Left H := { results := [], args := [] }

/-- 'sleuthlaw28.QueueRefuses': WHATEVER THE INPUT: true; the input reads as it did. -/
def queueRefusesSpec : ChangeSpec := { name := "queueRefuses", fn := fun _ => fun
  | [d] => { results := [.lit (.bool true)], args := [d] }
  | _ => none }
def queueRefusesRow : OpenClaim := { program := "ytdgpipoffcajgaa", sum := "e0ae5aaaaecc904c0711b2230f5f4d52d07be6c97a8bc7216524ca82014166f1", func := "sleuth/sleuthlaw28.QueueRefuses", spec := "queueRefuses", unfollowed := true, recurses := true, plainKeys := false, apart := false }
def QueueRefusesSaid : Prop := queueRefusesRow.holds Try.pinned (OpenSpec.ofChange queueRefusesSpec)

/-- ITS FALSE NEIGHBOUR: 'it returns false'. Refute it at one input. -/
def queueRefusesWrong : ChangeSpec := { name := "queueRefuses", fn := fun _ => fun
  | [d] => { results := [.lit (.bool false)], args := [d] }
  | _ => none }
def QueueRefusesWrongFalsely : Prop := queueRefusesRow.holds Try.pinned (OpenSpec.ofChange queueRefusesWrong)

/-- 'sleuthlaw28.QueueMakes': WHATEVER THE INPUT: true; the input reads as it did. -/
def queueMakesSpec : ChangeSpec := { name := "queueMakes", fn := fun _ => fun
  | [d] => { results := [.lit (.bool true)], args := [d] }
  | _ => none }
def queueMakesRow : OpenClaim := { program := "ytdgpipoffcajgaa", sum := "e0ae5aaaaecc904c0711b2230f5f4d52d07be6c97a8bc7216524ca82014166f1", func := "sleuth/sleuthlaw28.QueueMakes", spec := "queueMakes", unfollowed := true, recurses := true, plainKeys := false, apart := false }
def QueueMakesSaid : Prop := queueMakesRow.holds Try.pinned (OpenSpec.ofChange queueMakesSpec)

/-- ITS FALSE NEIGHBOUR: 'it returns false'. Refute it at one input. -/
def queueMakesWrong : ChangeSpec := { name := "queueMakes", fn := fun _ => fun
  | [d] => { results := [.lit (.bool false)], args := [d] }
  | _ => none }
def QueueMakesWrongFalsely : Prop := queueMakesRow.holds Try.pinned (OpenSpec.ofChange queueMakesWrong)

/-- 'sleuthlaw28.QueueCredits': WHATEVER THE INPUT: true; the input reads as it did. -/
def queueCreditsSpec : ChangeSpec := { name := "queueCredits", fn := fun _ => fun
  | [d1, d2, d3] => { results := [.lit (.bool true)], args := [d1, d2, d3] }
  | _ => none }
def queueCreditsRow : OpenClaim := { program := "ytdgpipoffcajgaa", sum := "e0ae5aaaaecc904c0711b2230f5f4d52d07be6c97a8bc7216524ca82014166f1", func := "sleuth/sleuthlaw28.QueueCredits", spec := "queueCredits", unfollowed := true, recurses := true, plainKeys := false, apart := false }
def QueueCreditsSaid : Prop := queueCreditsRow.holds Try.pinned (OpenSpec.ofChange queueCreditsSpec)

/-- ITS FALSE NEIGHBOUR: 'it returns false'. Refute it at one input. -/
def queueCreditsWrong : ChangeSpec := { name := "queueCredits", fn := fun _ => fun
  | [d1, d2, d3] => { results := [.lit (.bool false)], args := [d1, d2, d3] }
  | _ => none }
def QueueCreditsWrongFalsely : Prop := queueCreditsRow.holds Try.pinned (OpenSpec.ofChange queueCreditsWrong)

/-- 'sleuthlaw28.QueueRuns': WHATEVER THE INPUT: true; the input reads as it did. -/
def queueRunsSpec : ChangeSpec := { name := "queueRuns", fn := fun _ => fun
  | [d1, d2] => { results := [.lit (.bool true)], args := [d1, d2] }
  | _ => none }
def queueRunsRow : OpenClaim := { program := "ytdgpipoffcajgaa", sum := "e0ae5aaaaecc904c0711b2230f5f4d52d07be6c97a8bc7216524ca82014166f1", func := "sleuth/sleuthlaw28.QueueRuns", spec := "queueRuns", unfollowed := true, recurses := true, plainKeys := false, apart := false }
def QueueRunsSaid : Prop := queueRunsRow.holds Try.pinned (OpenSpec.ofChange queueRunsSpec)

/-- ITS FALSE NEIGHBOUR: 'it returns false'. Refute it at one input. -/
def queueRunsWrong : ChangeSpec := { name := "queueRuns", fn := fun _ => fun
  | [d1, d2] => { results := [.lit (.bool false)], args := [d1, d2] }
  | _ => none }
def QueueRunsWrongFalsely : Prop := queueRunsRow.holds Try.pinned (OpenSpec.ofChange queueRunsWrong)

/-- 'sleuthlaw28.QueueDelivers': WHATEVER THE INPUT: true; the input reads as it did. -/
def queueDeliversSpec : ChangeSpec := { name := "queueDelivers", fn := fun _ => fun
  | [d1, d2] => { results := [.lit (.bool true)], args := [d1, d2] }
  | _ => none }
def queueDeliversRow : OpenClaim := { program := "ytdgpipoffcajgaa", sum := "e0ae5aaaaecc904c0711b2230f5f4d52d07be6c97a8bc7216524ca82014166f1", func := "sleuth/sleuthlaw28.QueueDelivers", spec := "queueDelivers", unfollowed := true, recurses := true, plainKeys := false, apart := false }
def QueueDeliversSaid : Prop := queueDeliversRow.holds Try.pinned (OpenSpec.ofChange queueDeliversSpec)

/-- ITS FALSE NEIGHBOUR: 'it returns false'. Refute it at one input. -/
def queueDeliversWrong : ChangeSpec := { name := "queueDelivers", fn := fun _ => fun
  | [d1, d2] => { results := [.lit (.bool false)], args := [d1, d2] }
  | _ => none }
def QueueDeliversWrongFalsely : Prop := queueDeliversRow.holds Try.pinned (OpenSpec.ofChange queueDeliversWrong)

/-- 'sleuthlaw28.QueueFair': WHATEVER THE INPUT: true; the input reads as it did. -/
def queueFairSpec : ChangeSpec := { name := "queueFair", fn := fun _ => fun
  | [d1, d2] => { results := [.lit (.bool true)], args := [d1, d2] }
  | _ => none }
def queueFairRow : OpenClaim := { program := "ytdgpipoffcajgaa", sum := "e0ae5aaaaecc904c0711b2230f5f4d52d07be6c97a8bc7216524ca82014166f1", func := "sleuth/sleuthlaw28.QueueFair", spec := "queueFair", unfollowed := true, recurses := true, plainKeys := false, apart := false }
def QueueFairSaid : Prop := queueFairRow.holds Try.pinned (OpenSpec.ofChange queueFairSpec)

/-- ITS FALSE NEIGHBOUR: 'it returns false'. Refute it at one input. -/
def queueFairWrong : ChangeSpec := { name := "queueFair", fn := fun _ => fun
  | [d1, d2] => { results := [.lit (.bool false)], args := [d1, d2] }
  | _ => none }
def QueueFairWrongFalsely : Prop := queueFairRow.holds Try.pinned (OpenSpec.ofChange queueFairWrong)

/-- 'sleuthlaw28.QueueKeeps': WHATEVER THE INPUT: true; the input reads as it did. -/
def queueKeepsSpec : ChangeSpec := { name := "queueKeeps", fn := fun _ => fun
  | [d1, d2] => { results := [.lit (.bool true)], args := [d1, d2] }
  | _ => none }
def queueKeepsRow : OpenClaim := { program := "ytdgpipoffcajgaa", sum := "e0ae5aaaaecc904c0711b2230f5f4d52d07be6c97a8bc7216524ca82014166f1", func := "sleuth/sleuthlaw28.QueueKeeps", spec := "queueKeeps", unfollowed := true, recurses := true, plainKeys := false, apart := false }
def QueueKeepsSaid : Prop := queueKeepsRow.holds Try.pinned (OpenSpec.ofChange queueKeepsSpec)

/-- ITS FALSE NEIGHBOUR: 'it returns false'. Refute it at one input. -/
def queueKeepsWrong : ChangeSpec := { name := "queueKeeps", fn := fun _ => fun
  | [d1, d2] => { results := [.lit (.bool false)], args := [d1, d2] }
  | _ => none }
def QueueKeepsWrongFalsely : Prop := queueKeepsRow.holds Try.pinned (OpenSpec.ofChange queueKeepsWrong)

/-- 'sleuthlaw28.QueueClones': WHATEVER THE INPUT: true; the input reads as it did. -/
def queueClonesSpec : ChangeSpec := { name := "queueClones", fn := fun _ => fun
  | [d1, d2, d3] => { results := [.lit (.bool true)], args := [d1, d2, d3] }
  | _ => none }
def queueClonesRow : OpenClaim := { program := "ytdgpipoffcajgaa", sum := "e0ae5aaaaecc904c0711b2230f5f4d52d07be6c97a8bc7216524ca82014166f1", func := "sleuth/sleuthlaw28.QueueClones", spec := "queueClones", unfollowed := true, recurses := true, plainKeys := false, apart := false }
def QueueClonesSaid : Prop := queueClonesRow.holds Try.pinned (OpenSpec.ofChange queueClonesSpec)

/-- ITS FALSE NEIGHBOUR: 'it returns false'. Refute it at one input. -/
def queueClonesWrong : ChangeSpec := { name := "queueClones", fn := fun _ => fun
  | [d1, d2, d3] => { results := [.lit (.bool false)], args := [d1, d2, d3] }
  | _ => none }
def QueueClonesWrongFalsely : Prop := queueClonesRow.holds Try.pinned (OpenSpec.ofChange queueClonesWrong)

/-- 'sleuthlaw28.QueueNil': WHATEVER THE INPUT: true; the input reads as it did. -/
def queueNilSpec : ChangeSpec := { name := "queueNil", fn := fun _ => fun
  | [d1, d2] => { results := [.lit (.bool true)], args := [d1, d2] }
  | _ => none }
def queueNilRow : OpenClaim := { program := "ytdgpipoffcajgaa", sum := "e0ae5aaaaecc904c0711b2230f5f4d52d07be6c97a8bc7216524ca82014166f1", func := "sleuth/sleuthlaw28.QueueNil", spec := "queueNil", unfollowed := true, recurses := true, plainKeys := false, apart := false }
def QueueNilSaid : Prop := queueNilRow.holds Try.pinned (OpenSpec.ofChange queueNilSpec)

/-- ITS FALSE NEIGHBOUR: 'it returns false'. Refute it at one input. -/
def queueNilWrong : ChangeSpec := { name := "queueNil", fn := fun _ => fun
  | [d1, d2] => { results := [.lit (.bool false)], args := [d1, d2] }
  | _ => none }
def QueueNilWrongFalsely : Prop := queueNilRow.holds Try.pinned (OpenSpec.ofChange queueNilWrong)

/- THE SECOND FORM. 'bulk': how many values and letters a reading holds, each counted each time it is reached (what is shared counts as often as it is met; a slice's spare places count too). A statement '..UptoSaid' is the law's where the arguments, and the package variables that the reading takes, are together of bulk at most 1048576: NARROWER than '..Said'. Prove '..Said' where nothing that the law and all that it calls make is longer than what came in: it says more and counts as full. Else prove '..UptoSaid'. A law counts once. -/
mutual
def uptoBulk {H : Type} : DataW H → Nat
  | .lit (.string bytes) => bytes.length + 1
  | .lit _ => 1
  | .nil => 1
  | .ptr d => uptoBulk d + 1
  | .slice elems spare => uptoBulkAll elems + uptoBulkAll spare + 1
  | .agg parts => uptoBulkAll parts + 1
  | .iface _ d => uptoBulk d + 1
  | .map entries => uptoBulkEntries entries + 1
  | .held _ => 1
def uptoBulkAll {H : Type} : List (DataW H) → Nat
  | [] => 0
  | d :: r => uptoBulk d + uptoBulkAll r
def uptoBulkEntries {H : Type} : List (Lit × DataW H) → Nat
  | [] => 0
  | x :: r => uptoBulkEntry x + uptoBulkEntries r
def uptoBulkEntry {H : Type} : Lit × DataW H → Nat
  | (.string bytes, d) => bytes.length + uptoBulk d + 1
  | (_, d) => uptoBulk d + 1
 end
def uptoSmall : (H : Type) → List (DataW H) → Bool := fun _ ds => decide (uptoBulkAll ds ≤ 1048576)
def OpenSpec.upto (s : _root_.Go.ChangeSpec) : _root_.Go.OpenSpec := { _root_.Go.OpenSpec.ofChange s with cond := some uptoSmall }

/-- 'sleuthlaw28.QueueRefuses', WHERE WHAT IT READS IS OF BULK AT MOST 1048576: true; the input reads as it did. -/
def queueRefusesUptoRow : OpenClaim := { program := "ytdgpipoffcajgaa", sum := "e0ae5aaaaecc904c0711b2230f5f4d52d07be6c97a8bc7216524ca82014166f1", func := "sleuth/sleuthlaw28.QueueRefuses", spec := "queueRefuses", unfollowed := true, recurses := true, plainKeys := false, apart := false, narrowed := true }
def QueueRefusesUptoSaid : Prop := queueRefusesUptoRow.holds Try.pinned (OpenSpec.upto queueRefusesSpec)

/-- 'sleuthlaw28.QueueMakes', WHERE WHAT IT READS IS OF BULK AT MOST 1048576: true; the input reads as it did. -/
def queueMakesUptoRow : OpenClaim := { program := "ytdgpipoffcajgaa", sum := "e0ae5aaaaecc904c0711b2230f5f4d52d07be6c97a8bc7216524ca82014166f1", func := "sleuth/sleuthlaw28.QueueMakes", spec := "queueMakes", unfollowed := true, recurses := true, plainKeys := false, apart := false, narrowed := true }
def QueueMakesUptoSaid : Prop := queueMakesUptoRow.holds Try.pinned (OpenSpec.upto queueMakesSpec)

/-- 'sleuthlaw28.QueueCredits', WHERE WHAT IT READS IS OF BULK AT MOST 1048576: true; the input reads as it did. -/
def queueCreditsUptoRow : OpenClaim := { program := "ytdgpipoffcajgaa", sum := "e0ae5aaaaecc904c0711b2230f5f4d52d07be6c97a8bc7216524ca82014166f1", func := "sleuth/sleuthlaw28.QueueCredits", spec := "queueCredits", unfollowed := true, recurses := true, plainKeys := false, apart := false, narrowed := true }
def QueueCreditsUptoSaid : Prop := queueCreditsUptoRow.holds Try.pinned (OpenSpec.upto queueCreditsSpec)

/-- 'sleuthlaw28.QueueRuns', WHERE WHAT IT READS IS OF BULK AT MOST 1048576: true; the input reads as it did. -/
def queueRunsUptoRow : OpenClaim := { program := "ytdgpipoffcajgaa", sum := "e0ae5aaaaecc904c0711b2230f5f4d52d07be6c97a8bc7216524ca82014166f1", func := "sleuth/sleuthlaw28.QueueRuns", spec := "queueRuns", unfollowed := true, recurses := true, plainKeys := false, apart := false, narrowed := true }
def QueueRunsUptoSaid : Prop := queueRunsUptoRow.holds Try.pinned (OpenSpec.upto queueRunsSpec)

/-- 'sleuthlaw28.QueueDelivers', WHERE WHAT IT READS IS OF BULK AT MOST 1048576: true; the input reads as it did. -/
def queueDeliversUptoRow : OpenClaim := { program := "ytdgpipoffcajgaa", sum := "e0ae5aaaaecc904c0711b2230f5f4d52d07be6c97a8bc7216524ca82014166f1", func := "sleuth/sleuthlaw28.QueueDelivers", spec := "queueDelivers", unfollowed := true, recurses := true, plainKeys := false, apart := false, narrowed := true }
def QueueDeliversUptoSaid : Prop := queueDeliversUptoRow.holds Try.pinned (OpenSpec.upto queueDeliversSpec)

/-- 'sleuthlaw28.QueueFair', WHERE WHAT IT READS IS OF BULK AT MOST 1048576: true; the input reads as it did. -/
def queueFairUptoRow : OpenClaim := { program := "ytdgpipoffcajgaa", sum := "e0ae5aaaaecc904c0711b2230f5f4d52d07be6c97a8bc7216524ca82014166f1", func := "sleuth/sleuthlaw28.QueueFair", spec := "queueFair", unfollowed := true, recurses := true, plainKeys := false, apart := false, narrowed := true }
def QueueFairUptoSaid : Prop := queueFairUptoRow.holds Try.pinned (OpenSpec.upto queueFairSpec)

/-- 'sleuthlaw28.QueueKeeps', WHERE WHAT IT READS IS OF BULK AT MOST 1048576: true; the input reads as it did. -/
def queueKeepsUptoRow : OpenClaim := { program := "ytdgpipoffcajgaa", sum := "e0ae5aaaaecc904c0711b2230f5f4d52d07be6c97a8bc7216524ca82014166f1", func := "sleuth/sleuthlaw28.QueueKeeps", spec := "queueKeeps", unfollowed := true, recurses := true, plainKeys := false, apart := false, narrowed := true }
def QueueKeepsUptoSaid : Prop := queueKeepsUptoRow.holds Try.pinned (OpenSpec.upto queueKeepsSpec)

/-- 'sleuthlaw28.QueueClones', WHERE WHAT IT READS IS OF BULK AT MOST 1048576: true; the input reads as it did. -/
def queueClonesUptoRow : OpenClaim := { program := "ytdgpipoffcajgaa", sum := "e0ae5aaaaecc904c0711b2230f5f4d52d07be6c97a8bc7216524ca82014166f1", func := "sleuth/sleuthlaw28.QueueClones", spec := "queueClones", unfollowed := true, recurses := true, plainKeys := false, apart := false, narrowed := true }
def QueueClonesUptoSaid : Prop := queueClonesUptoRow.holds Try.pinned (OpenSpec.upto queueClonesSpec)

/-- 'sleuthlaw28.QueueNil', WHERE WHAT IT READS IS OF BULK AT MOST 1048576: true; the input reads as it did. -/
def queueNilUptoRow : OpenClaim := { program := "ytdgpipoffcajgaa", sum := "e0ae5aaaaecc904c0711b2230f5f4d52d07be6c97a8bc7216524ca82014166f1", func := "sleuth/sleuthlaw28.QueueNil", spec := "queueNil", unfollowed := true, recurses := true, plainKeys := false, apart := false, narrowed := true }
def QueueNilUptoSaid : Prop := queueNilUptoRow.holds Try.pinned (OpenSpec.upto queueNilSpec)

end Rows
end Go.Proofs.Ytdgpipoffcajgaa
