/-
  No cell of these rows narrows 'for every input' (looked for: loops, veiled, ifaces, maps, wideKeys, modest, calm, conditions, laid).
  DERIVED. THE GIVEN ROWS OF THIS SEAT. 7 by the template 'for every input the law returns true; each argument reads behind the call as it read before'; 0 by the template 'total and deterministic' (their statements: YtfihknbnoblihaaTotals.lean).
  GIVEN WITH THE SEED: the statements are not yours to turn. If you find one false, say at which input.
  Laid BY PROGRAM, IN A SANDBOX (cutbox-rows.mjs): the forced cells as the released guide's own fill.sh prints them over the translation 319507675091e6ee… (all of the seat's roots in one cut). By AI agents, Wed Nov 11 2026. No macro, syntax, notation, axiom, sorry.
-/
import Derived.Test.YtfihknbnoblihaaChecked
import GoSem.Claim
import GoSem.ClaimJoined
import GoSem.ClaimMapViews
import Derived.JoinedTies
import Derived.KernelRfl
namespace Go.Proofs.Ytfihknbnoblihaa
/- THE CELL 'sum', in the pinned program and in every row, IS THE sha256 OF THE DUMP (.gsa) THAT YtfihknbnoblihaaProg.lean LOADS. Nothing in Lean hashes anything: it is a label: what it is worth is what the hold of that sum in a sandbox is worth. -/
noncomputable def Try.pinned : Pinned := { name := "ytfihknbnoblihaa", sum := "319507675091e6ee59453c380918e0141a70770c78c865d1f95ef542f9e6a3f4", checked := Try.checked }
namespace Rows
def none {H : Type} : Left H := { results := [], args := [] }

/-- 'milestonelaw2.AdjEach': WHATEVER THE INPUT: true; the input reads as it did. -/
def adjEachSpec : ChangeSpec := { name := "adjEach", fn := fun _ => fun
  | [d1, d2] => { results := [.lit (.bool true)], args := [d1, d2] }
  | _ => none }
def adjEachRow : OpenClaim := { program := "ytfihknbnoblihaa", sum := "319507675091e6ee59453c380918e0141a70770c78c865d1f95ef542f9e6a3f4", func := "milestone/milestonelaw2.AdjEach", spec := "adjEach", unfollowed := true, recurses := true, apart := false }
def AdjEachSaid : Prop := adjEachRow.holds Try.pinned (OpenSpec.ofChange adjEachSpec)

/-- ITS FALSE NEIGHBOUR: 'it returns false'. Refute it at one input. -/
def adjEachWrong : ChangeSpec := { name := "adjEach", fn := fun _ => fun
  | [d1, d2] => { results := [.lit (.bool false)], args := [d1, d2] }
  | _ => none }
def AdjEachWrongFalsely : Prop := adjEachRow.holds Try.pinned (OpenSpec.ofChange adjEachWrong)

/-- 'milestonelaw2.AdjReach': WHATEVER THE INPUT: true; the input reads as it did. -/
def adjReachSpec : ChangeSpec := { name := "adjReach", fn := fun _ => fun
  | [d1, d2, d3, d4, d5] => { results := [.lit (.bool true)], args := [d1, d2, d3, d4, d5] }
  | _ => none }
def adjReachRow : OpenClaim := { program := "ytfihknbnoblihaa", sum := "319507675091e6ee59453c380918e0141a70770c78c865d1f95ef542f9e6a3f4", func := "milestone/milestonelaw2.AdjReach", spec := "adjReach", unfollowed := true, recurses := true, apart := false }
def AdjReachSaid : Prop := adjReachRow.holds Try.pinned (OpenSpec.ofChange adjReachSpec)

/-- ITS FALSE NEIGHBOUR: 'it returns false'. Refute it at one input. -/
def adjReachWrong : ChangeSpec := { name := "adjReach", fn := fun _ => fun
  | [d1, d2, d3, d4, d5] => { results := [.lit (.bool false)], args := [d1, d2, d3, d4, d5] }
  | _ => none }
def AdjReachWrongFalsely : Prop := adjReachRow.holds Try.pinned (OpenSpec.ofChange adjReachWrong)

/-- 'milestonelaw2.AdjModes': WHATEVER THE INPUT: true; the input reads as it did. -/
def adjModesSpec : ChangeSpec := { name := "adjModes", fn := fun _ => fun
  | [d1, d2] => { results := [.lit (.bool true)], args := [d1, d2] }
  | _ => none }
def adjModesRow : OpenClaim := { program := "ytfihknbnoblihaa", sum := "319507675091e6ee59453c380918e0141a70770c78c865d1f95ef542f9e6a3f4", func := "milestone/milestonelaw2.AdjModes", spec := "adjModes", unfollowed := true, recurses := true, apart := false }
def AdjModesSaid : Prop := adjModesRow.holds Try.pinned (OpenSpec.ofChange adjModesSpec)

/-- ITS FALSE NEIGHBOUR: 'it returns false'. Refute it at one input. -/
def adjModesWrong : ChangeSpec := { name := "adjModes", fn := fun _ => fun
  | [d1, d2] => { results := [.lit (.bool false)], args := [d1, d2] }
  | _ => none }
def AdjModesWrongFalsely : Prop := adjModesRow.holds Try.pinned (OpenSpec.ofChange adjModesWrong)

/-- 'milestonelaw2.AdjOwn': WHATEVER THE INPUT: true; the input reads as it did. -/
def adjOwnSpec : ChangeSpec := { name := "adjOwn", fn := fun _ => fun
  | [d1, d2, d3] => { results := [.lit (.bool true)], args := [d1, d2, d3] }
  | _ => none }
def adjOwnRow : OpenClaim := { program := "ytfihknbnoblihaa", sum := "319507675091e6ee59453c380918e0141a70770c78c865d1f95ef542f9e6a3f4", func := "milestone/milestonelaw2.AdjOwn", spec := "adjOwn", unfollowed := true, recurses := true, apart := false }
def AdjOwnSaid : Prop := adjOwnRow.holds Try.pinned (OpenSpec.ofChange adjOwnSpec)

/-- ITS FALSE NEIGHBOUR: 'it returns false'. Refute it at one input. -/
def adjOwnWrong : ChangeSpec := { name := "adjOwn", fn := fun _ => fun
  | [d1, d2, d3] => { results := [.lit (.bool false)], args := [d1, d2, d3] }
  | _ => none }
def AdjOwnWrongFalsely : Prop := adjOwnRow.holds Try.pinned (OpenSpec.ofChange adjOwnWrong)

/-- 'milestonelaw2.AdjTurned': WHATEVER THE INPUT: true; the input reads as it did. -/
def adjTurnedSpec : ChangeSpec := { name := "adjTurned", fn := fun _ => fun
  | [d1, d2, d3] => { results := [.lit (.bool true)], args := [d1, d2, d3] }
  | _ => none }
def adjTurnedRow : OpenClaim := { program := "ytfihknbnoblihaa", sum := "319507675091e6ee59453c380918e0141a70770c78c865d1f95ef542f9e6a3f4", func := "milestone/milestonelaw2.AdjTurned", spec := "adjTurned", unfollowed := true, recurses := true, apart := false }
def AdjTurnedSaid : Prop := adjTurnedRow.holds Try.pinned (OpenSpec.ofChange adjTurnedSpec)

/-- ITS FALSE NEIGHBOUR: 'it returns false'. Refute it at one input. -/
def adjTurnedWrong : ChangeSpec := { name := "adjTurned", fn := fun _ => fun
  | [d1, d2, d3] => { results := [.lit (.bool false)], args := [d1, d2, d3] }
  | _ => none }
def AdjTurnedWrongFalsely : Prop := adjTurnedRow.holds Try.pinned (OpenSpec.ofChange adjTurnedWrong)

/-- 'milestonelaw2.AdjLine': WHATEVER THE INPUT: true; the input reads as it did. -/
def adjLineSpec : ChangeSpec := { name := "adjLine", fn := fun _ => fun
  | [d1, d2, d3] => { results := [.lit (.bool true)], args := [d1, d2, d3] }
  | _ => none }
def adjLineRow : OpenClaim := { program := "ytfihknbnoblihaa", sum := "319507675091e6ee59453c380918e0141a70770c78c865d1f95ef542f9e6a3f4", func := "milestone/milestonelaw2.AdjLine", spec := "adjLine", unfollowed := true, recurses := true, apart := false }
def AdjLineSaid : Prop := adjLineRow.holds Try.pinned (OpenSpec.ofChange adjLineSpec)

/-- ITS FALSE NEIGHBOUR: 'it returns false'. Refute it at one input. -/
def adjLineWrong : ChangeSpec := { name := "adjLine", fn := fun _ => fun
  | [d1, d2, d3] => { results := [.lit (.bool false)], args := [d1, d2, d3] }
  | _ => none }
def AdjLineWrongFalsely : Prop := adjLineRow.holds Try.pinned (OpenSpec.ofChange adjLineWrong)

/-- 'milestonelaw2.AdjMore': WHATEVER THE INPUT: true; the input reads as it did. -/
def adjMoreSpec : ChangeSpec := { name := "adjMore", fn := fun _ => fun
  | [d1, d2, d3, d4, d5] => { results := [.lit (.bool true)], args := [d1, d2, d3, d4, d5] }
  | _ => none }
def adjMoreRow : OpenClaim := { program := "ytfihknbnoblihaa", sum := "319507675091e6ee59453c380918e0141a70770c78c865d1f95ef542f9e6a3f4", func := "milestone/milestonelaw2.AdjMore", spec := "adjMore", unfollowed := true, recurses := true, apart := false }
def AdjMoreSaid : Prop := adjMoreRow.holds Try.pinned (OpenSpec.ofChange adjMoreSpec)

/-- ITS FALSE NEIGHBOUR: 'it returns false'. Refute it at one input. -/
def adjMoreWrong : ChangeSpec := { name := "adjMore", fn := fun _ => fun
  | [d1, d2, d3, d4, d5] => { results := [.lit (.bool false)], args := [d1, d2, d3, d4, d5] }
  | _ => none }
def AdjMoreWrongFalsely : Prop := adjMoreRow.holds Try.pinned (OpenSpec.ofChange adjMoreWrong)

/- THE SECOND FORM. 'bulk': how many values and letters a reading holds, each counted each time it is reached (what is shared counts as often as it is met; a slice's spare places count too). A statement '..UptoSaid' is the law's where the arguments, and the package variables that the reading takes, are together of bulk at most 1048576: NARROWER than '..Said'. Prove '..Said' where nothing that the law and all that it calls make is longer than what came in: it says more and counts as full. Else prove '..UptoSaid'. A law counts once. -/
mutual
def uptoBulk {H : Type} : DataW H → Nat
  | .lit (.string bytes) => bytes.length + 1
  | .lit _ => 1
  | .nil => 1
  | .ptr d => uptoBulk d + 1
  | .slice elems spare => uptoBulkAll elems + uptoBulkAll spare + 1
  | .agg parts => uptoBulkAll parts + 1
  | .iface _ d => uptoBulk d + 1
  | .map entries => uptoBulkEntries entries + 1
  | .held _ => 1
def uptoBulkAll {H : Type} : List (DataW H) → Nat
  | [] => 0
  | d :: r => uptoBulk d + uptoBulkAll r
def uptoBulkEntries {H : Type} : List (Lit × DataW H) → Nat
  | [] => 0
  | x :: r => uptoBulkEntry x + uptoBulkEntries r
def uptoBulkEntry {H : Type} : Lit × DataW H → Nat
  | (.string bytes, d) => bytes.length + uptoBulk d + 1
  | (_, d) => uptoBulk d + 1
 end
def uptoSmall : (H : Type) → List (DataW H) → Bool := fun _ ds => decide (uptoBulkAll ds ≤ 1048576)
def OpenSpec.upto (s : _root_.Go.ChangeSpec) : _root_.Go.OpenSpec := { _root_.Go.OpenSpec.ofChange s with cond := some uptoSmall }

/-- 'milestonelaw2.AdjEach', WHERE WHAT IT READS IS OF BULK AT MOST 1048576: true; the input reads as it did. -/
def adjEachUptoRow : OpenClaim := { program := "ytfihknbnoblihaa", sum := "319507675091e6ee59453c380918e0141a70770c78c865d1f95ef542f9e6a3f4", func := "milestone/milestonelaw2.AdjEach", spec := "adjEach", unfollowed := true, recurses := true, apart := false, narrowed := true }
def AdjEachUptoSaid : Prop := adjEachUptoRow.holds Try.pinned (OpenSpec.upto adjEachSpec)

/-- 'milestonelaw2.AdjReach', WHERE WHAT IT READS IS OF BULK AT MOST 1048576: true; the input reads as it did. -/
def adjReachUptoRow : OpenClaim := { program := "ytfihknbnoblihaa", sum := "319507675091e6ee59453c380918e0141a70770c78c865d1f95ef542f9e6a3f4", func := "milestone/milestonelaw2.AdjReach", spec := "adjReach", unfollowed := true, recurses := true, apart := false, narrowed := true }
def AdjReachUptoSaid : Prop := adjReachUptoRow.holds Try.pinned (OpenSpec.upto adjReachSpec)

/-- 'milestonelaw2.AdjModes', WHERE WHAT IT READS IS OF BULK AT MOST 1048576: true; the input reads as it did. -/
def adjModesUptoRow : OpenClaim := { program := "ytfihknbnoblihaa", sum := "319507675091e6ee59453c380918e0141a70770c78c865d1f95ef542f9e6a3f4", func := "milestone/milestonelaw2.AdjModes", spec := "adjModes", unfollowed := true, recurses := true, apart := false, narrowed := true }
def AdjModesUptoSaid : Prop := adjModesUptoRow.holds Try.pinned (OpenSpec.upto adjModesSpec)

/-- 'milestonelaw2.AdjOwn', WHERE WHAT IT READS IS OF BULK AT MOST 1048576: true; the input reads as it did. -/
def adjOwnUptoRow : OpenClaim := { program := "ytfihknbnoblihaa", sum := "319507675091e6ee59453c380918e0141a70770c78c865d1f95ef542f9e6a3f4", func := "milestone/milestonelaw2.AdjOwn", spec := "adjOwn", unfollowed := true, recurses := true, apart := false, narrowed := true }
def AdjOwnUptoSaid : Prop := adjOwnUptoRow.holds Try.pinned (OpenSpec.upto adjOwnSpec)

/-- 'milestonelaw2.AdjTurned', WHERE WHAT IT READS IS OF BULK AT MOST 1048576: true; the input reads as it did. -/
def adjTurnedUptoRow : OpenClaim := { program := "ytfihknbnoblihaa", sum := "319507675091e6ee59453c380918e0141a70770c78c865d1f95ef542f9e6a3f4", func := "milestone/milestonelaw2.AdjTurned", spec := "adjTurned", unfollowed := true, recurses := true, apart := false, narrowed := true }
def AdjTurnedUptoSaid : Prop := adjTurnedUptoRow.holds Try.pinned (OpenSpec.upto adjTurnedSpec)

/-- 'milestonelaw2.AdjLine', WHERE WHAT IT READS IS OF BULK AT MOST 1048576: true; the input reads as it did. -/
def adjLineUptoRow : OpenClaim := { program := "ytfihknbnoblihaa", sum := "319507675091e6ee59453c380918e0141a70770c78c865d1f95ef542f9e6a3f4", func := "milestone/milestonelaw2.AdjLine", spec := "adjLine", unfollowed := true, recurses := true, apart := false, narrowed := true }
def AdjLineUptoSaid : Prop := adjLineUptoRow.holds Try.pinned (OpenSpec.upto adjLineSpec)

/-- 'milestonelaw2.AdjMore', WHERE WHAT IT READS IS OF BULK AT MOST 1048576: true; the input reads as it did. -/
def adjMoreUptoRow : OpenClaim := { program := "ytfihknbnoblihaa", sum := "319507675091e6ee59453c380918e0141a70770c78c865d1f95ef542f9e6a3f4", func := "milestone/milestonelaw2.AdjMore", spec := "adjMore", unfollowed := true, recurses := true, apart := false, narrowed := true }
def AdjMoreUptoSaid : Prop := adjMoreUptoRow.holds Try.pinned (OpenSpec.upto adjMoreSpec)

end Rows
end Go.Proofs.Ytfihknbnoblihaa
