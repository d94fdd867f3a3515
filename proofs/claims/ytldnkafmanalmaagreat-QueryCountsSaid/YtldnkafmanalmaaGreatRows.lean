/-
  NARROWER THAN 'FOR EVERY INPUT', by the rows' own cells (each row's printed sentence says how): QueryAny: loops · QueryMany: loops.
  DERIVED. THE GIVEN ROWS OF THIS SEAT. 7 by the template 'for every input the law returns true; each argument reads behind the call as it read before'; 0 by the template 'total and deterministic' (their statements: YtldnkafmanalmaaGreatTotals.lean).
  GIVEN WITH THE SEED: the statements are not yours to turn. If you find one false, say at which input.
  Laid BY PROGRAM, IN A SANDBOX (cutbox-rows.mjs): the forced cells as the released guide's own fill.sh prints them over the translation ac2eac97597ddf1d… (all of the seat's roots in one cut). By AI agents, Wed Nov 11 2026. No macro, syntax, notation, axiom, sorry.
-/
import Derived.Test.YtldnkafmanalmaaGreatChecked
import GoSem.Claim
import GoSem.ClaimJoined
import GoSem.ClaimMapViews
import Derived.JoinedTies
import Derived.KernelRfl
namespace Go.Proofs.YtldnkafmanalmaaGreat
/- THE CELL 'sum', in the pinned program and in every row, IS THE sha256 OF THE DUMP (.gsa) THAT YtldnkafmanalmaaGreatProg.lean LOADS. Nothing in Lean hashes anything: it is a label: what it is worth is what the hold of that sum in a sandbox is worth. -/
noncomputable def Tryz.pinned : Pinned := { name := "ytldnkafmanalmaagreat", sum := "ac2eac97597ddf1d1c1ee775790d330fd4f808f18f416a1403b9ad00bcabbffb", checked := Tryz.checked }
namespace Rows
def none {H : Type} : Left H := { results := [], args := [] }

/-- 'milestonelaw13.QueryRoutes': WHATEVER THE INPUT: true; the input reads as it did. -/
def queryRoutesSpec : ChangeSpec := { name := "queryRoutes", fn := fun _ => fun
  | [d1, d2, d3, d4, d5] => { results := [.lit (.bool true)], args := [d1, d2, d3, d4, d5] }
  | _ => none }
def queryRoutesRow : OpenClaim := { program := "ytldnkafmanalmaagreat", sum := "ac2eac97597ddf1d1c1ee775790d330fd4f808f18f416a1403b9ad00bcabbffb", func := "milestone/milestonelaw13.QueryRoutes", spec := "queryRoutes", unfollowed := true, recurses := true, apart := false }
def QueryRoutesSaid : Prop := queryRoutesRow.holds Tryz.pinned (OpenSpec.ofChange queryRoutesSpec)

/-- ITS FALSE NEIGHBOUR: 'it returns false'. Refute it at one input. -/
def queryRoutesWrong : ChangeSpec := { name := "queryRoutes", fn := fun _ => fun
  | [d1, d2, d3, d4, d5] => { results := [.lit (.bool false)], args := [d1, d2, d3, d4, d5] }
  | _ => none }
def QueryRoutesWrongFalsely : Prop := queryRoutesRow.holds Tryz.pinned (OpenSpec.ofChange queryRoutesWrong)

/-- 'milestonelaw13.QueryAny': WHATEVER THE INPUT: true; the input reads as it did. -/
def queryAnySpec : ChangeSpec := { name := "queryAny", fn := fun _ => fun
  | [d1, d2, d3, d4, d5] => { results := [.lit (.bool true)], args := [d1, d2, d3, d4, d5] }
  | _ => none }
def queryAnyRow : OpenClaim := { program := "ytldnkafmanalmaagreat", sum := "ac2eac97597ddf1d1c1ee775790d330fd4f808f18f416a1403b9ad00bcabbffb", func := "milestone/milestonelaw13.QueryAny", spec := "queryAny", unfollowed := true, recurses := true, loops := true, apart := false }
def QueryAnySaid : Prop := queryAnyRow.holds Tryz.pinned (OpenSpec.ofChange queryAnySpec)

/-- ITS FALSE NEIGHBOUR: 'it returns false'. Refute it at one input. -/
def queryAnyWrong : ChangeSpec := { name := "queryAny", fn := fun _ => fun
  | [d1, d2, d3, d4, d5] => { results := [.lit (.bool false)], args := [d1, d2, d3, d4, d5] }
  | _ => none }
def QueryAnyWrongFalsely : Prop := queryAnyRow.holds Tryz.pinned (OpenSpec.ofChange queryAnyWrong)

/-- 'milestonelaw13.QueryMany': WHATEVER THE INPUT: true; the input reads as it did. -/
def queryManySpec : ChangeSpec := { name := "queryMany", fn := fun _ => fun
  | [d1, d2, d3, d4, d5, d6, d7] => { results := [.lit (.bool true)], args := [d1, d2, d3, d4, d5, d6, d7] }
  | _ => none }
def queryManyRow : OpenClaim := { program := "ytldnkafmanalmaagreat", sum := "ac2eac97597ddf1d1c1ee775790d330fd4f808f18f416a1403b9ad00bcabbffb", func := "milestone/milestonelaw13.QueryMany", spec := "queryMany", unfollowed := true, recurses := true, loops := true, apart := false }
def QueryManySaid : Prop := queryManyRow.holds Tryz.pinned (OpenSpec.ofChange queryManySpec)

/-- ITS FALSE NEIGHBOUR: 'it returns false'. Refute it at one input. -/
def queryManyWrong : ChangeSpec := { name := "queryMany", fn := fun _ => fun
  | [d1, d2, d3, d4, d5, d6, d7] => { results := [.lit (.bool false)], args := [d1, d2, d3, d4, d5, d6, d7] }
  | _ => none }
def QueryManyWrongFalsely : Prop := queryManyRow.holds Tryz.pinned (OpenSpec.ofChange queryManyWrong)

/-- 'milestonelaw13.QuerySpoilt': WHATEVER THE INPUT: true; the input reads as it did. -/
def querySpoiltSpec : ChangeSpec := { name := "querySpoilt", fn := fun _ => fun
  | [d1, d2, d3, d4, d5, d6, d7, d8, d9] => { results := [.lit (.bool true)], args := [d1, d2, d3, d4, d5, d6, d7, d8, d9] }
  | _ => none }
def querySpoiltRow : OpenClaim := { program := "ytldnkafmanalmaagreat", sum := "ac2eac97597ddf1d1c1ee775790d330fd4f808f18f416a1403b9ad00bcabbffb", func := "milestone/milestonelaw13.QuerySpoilt", spec := "querySpoilt", unfollowed := true, recurses := true, apart := false }
def QuerySpoiltSaid : Prop := querySpoiltRow.holds Tryz.pinned (OpenSpec.ofChange querySpoiltSpec)

/-- ITS FALSE NEIGHBOUR: 'it returns false'. Refute it at one input. -/
def querySpoiltWrong : ChangeSpec := { name := "querySpoilt", fn := fun _ => fun
  | [d1, d2, d3, d4, d5, d6, d7, d8, d9] => { results := [.lit (.bool false)], args := [d1, d2, d3, d4, d5, d6, d7, d8, d9] }
  | _ => none }
def QuerySpoiltWrongFalsely : Prop := querySpoiltRow.holds Tryz.pinned (OpenSpec.ofChange querySpoiltWrong)

/-- 'milestonelaw13.QueryBytes': WHATEVER THE INPUT: true; the input reads as it did. -/
def queryBytesSpec : ChangeSpec := { name := "queryBytes", fn := fun _ => fun
  | [d1, d2, d3, d4, d5, d6, d7] => { results := [.lit (.bool true)], args := [d1, d2, d3, d4, d5, d6, d7] }
  | _ => none }
def queryBytesRow : OpenClaim := { program := "ytldnkafmanalmaagreat", sum := "ac2eac97597ddf1d1c1ee775790d330fd4f808f18f416a1403b9ad00bcabbffb", func := "milestone/milestonelaw13.QueryBytes", spec := "queryBytes", unfollowed := true, recurses := true, apart := false }
def QueryBytesSaid : Prop := queryBytesRow.holds Tryz.pinned (OpenSpec.ofChange queryBytesSpec)

/-- ITS FALSE NEIGHBOUR: 'it returns false'. Refute it at one input. -/
def queryBytesWrong : ChangeSpec := { name := "queryBytes", fn := fun _ => fun
  | [d1, d2, d3, d4, d5, d6, d7] => { results := [.lit (.bool false)], args := [d1, d2, d3, d4, d5, d6, d7] }
  | _ => none }
def QueryBytesWrongFalsely : Prop := queryBytesRow.holds Tryz.pinned (OpenSpec.ofChange queryBytesWrong)

/-- 'milestonelaw13.QueryRounds': WHATEVER THE INPUT: true; the input reads as it did. -/
def queryRoundsSpec : ChangeSpec := { name := "queryRounds", fn := fun _ => fun
  | [d1, d2, d3, d4, d5] => { results := [.lit (.bool true)], args := [d1, d2, d3, d4, d5] }
  | _ => none }
def queryRoundsRow : OpenClaim := { program := "ytldnkafmanalmaagreat", sum := "ac2eac97597ddf1d1c1ee775790d330fd4f808f18f416a1403b9ad00bcabbffb", func := "milestone/milestonelaw13.QueryRounds", spec := "queryRounds", unfollowed := true, recurses := true, apart := false }
def QueryRoundsSaid : Prop := queryRoundsRow.holds Tryz.pinned (OpenSpec.ofChange queryRoundsSpec)

/-- ITS FALSE NEIGHBOUR: 'it returns false'. Refute it at one input. -/
def queryRoundsWrong : ChangeSpec := { name := "queryRounds", fn := fun _ => fun
  | [d1, d2, d3, d4, d5] => { results := [.lit (.bool false)], args := [d1, d2, d3, d4, d5] }
  | _ => none }
def QueryRoundsWrongFalsely : Prop := queryRoundsRow.holds Tryz.pinned (OpenSpec.ofChange queryRoundsWrong)

/-- 'milestonelaw13.QueryCounts': WHATEVER THE INPUT: true; the input reads as it did. -/
def queryCountsSpec : ChangeSpec := { name := "queryCounts", fn := fun _ => fun
  | [d1, d2, d3, d4, d5] => { results := [.lit (.bool true)], args := [d1, d2, d3, d4, d5] }
  | _ => none }
def queryCountsRow : OpenClaim := { program := "ytldnkafmanalmaagreat", sum := "ac2eac97597ddf1d1c1ee775790d330fd4f808f18f416a1403b9ad00bcabbffb", func := "milestone/milestonelaw13.QueryCounts", spec := "queryCounts", unfollowed := true, recurses := true, apart := false }
def QueryCountsSaid : Prop := queryCountsRow.holds Tryz.pinned (OpenSpec.ofChange queryCountsSpec)

/-- ITS FALSE NEIGHBOUR: 'it returns false'. Refute it at one input. -/
def queryCountsWrong : ChangeSpec := { name := "queryCounts", fn := fun _ => fun
  | [d1, d2, d3, d4, d5] => { results := [.lit (.bool false)], args := [d1, d2, d3, d4, d5] }
  | _ => none }
def QueryCountsWrongFalsely : Prop := queryCountsRow.holds Tryz.pinned (OpenSpec.ofChange queryCountsWrong)

/- THE SECOND FORM. 'bulk': how many values and letters a reading holds, each counted each time it is reached (what is shared counts as often as it is met; a slice's spare places count too). A statement '..UptoSaid' is the law's where the arguments, and the package variables that the reading takes, are together of bulk at most 1048576: NARROWER than '..Said'. Prove '..Said' where nothing that the law and all that it calls make is longer than what came in: it says more and counts as full. Else prove '..UptoSaid'. A law counts once. -/
mutual
def uptoBulk {H : Type} : DataW H → Nat
  | .lit (.string bytes) => bytes.length + 1
  | .lit _ => 1
  | .nil => 1
  | .ptr d => uptoBulk d + 1
  | .slice elems spare => uptoBulkAll elems + uptoBulkAll spare + 1
  | .agg parts => uptoBulkAll parts + 1
  | .iface _ d => uptoBulk d + 1
  | .map entries => uptoBulkEntries entries + 1
  | .held _ => 1
def uptoBulkAll {H : Type} : List (DataW H) → Nat
  | [] => 0
  | d :: r => uptoBulk d + uptoBulkAll r
def uptoBulkEntries {H : Type} : List (Lit × DataW H) → Nat
  | [] => 0
  | x :: r => uptoBulkEntry x + uptoBulkEntries r
def uptoBulkEntry {H : Type} : Lit × DataW H → Nat
  | (.string bytes, d) => bytes.length + uptoBulk d + 1
  | (_, d) => uptoBulk d + 1
 end
def uptoSmall : (H : Type) → List (DataW H) → Bool := fun _ ds => decide (uptoBulkAll ds ≤ 1048576)
def OpenSpec.upto (s : _root_.Go.ChangeSpec) : _root_.Go.OpenSpec := { _root_.Go.OpenSpec.ofChange s with cond := some uptoSmall }

/-- 'milestonelaw13.QueryRoutes', WHERE WHAT IT READS IS OF BULK AT MOST 1048576: true; the input reads as it did. -/
def queryRoutesUptoRow : OpenClaim := { program := "ytldnkafmanalmaagreat", sum := "ac2eac97597ddf1d1c1ee775790d330fd4f808f18f416a1403b9ad00bcabbffb", func := "milestone/milestonelaw13.QueryRoutes", spec := "queryRoutes", unfollowed := true, recurses := true, apart := false, narrowed := true }
def QueryRoutesUptoSaid : Prop := queryRoutesUptoRow.holds Tryz.pinned (OpenSpec.upto queryRoutesSpec)

/-- 'milestonelaw13.QueryAny', WHERE WHAT IT READS IS OF BULK AT MOST 1048576: true; the input reads as it did. -/
def queryAnyUptoRow : OpenClaim := { program := "ytldnkafmanalmaagreat", sum := "ac2eac97597ddf1d1c1ee775790d330fd4f808f18f416a1403b9ad00bcabbffb", func := "milestone/milestonelaw13.QueryAny", spec := "queryAny", unfollowed := true, recurses := true, loops := true, apart := false, narrowed := true }
def QueryAnyUptoSaid : Prop := queryAnyUptoRow.holds Tryz.pinned (OpenSpec.upto queryAnySpec)

/-- 'milestonelaw13.QueryMany', WHERE WHAT IT READS IS OF BULK AT MOST 1048576: true; the input reads as it did. -/
def queryManyUptoRow : OpenClaim := { program := "ytldnkafmanalmaagreat", sum := "ac2eac97597ddf1d1c1ee775790d330fd4f808f18f416a1403b9ad00bcabbffb", func := "milestone/milestonelaw13.QueryMany", spec := "queryMany", unfollowed := true, recurses := true, loops := true, apart := false, narrowed := true }
def QueryManyUptoSaid : Prop := queryManyUptoRow.holds Tryz.pinned (OpenSpec.upto queryManySpec)

/-- 'milestonelaw13.QuerySpoilt', WHERE WHAT IT READS IS OF BULK AT MOST 1048576: true; the input reads as it did. -/
def querySpoiltUptoRow : OpenClaim := { program := "ytldnkafmanalmaagreat", sum := "ac2eac97597ddf1d1c1ee775790d330fd4f808f18f416a1403b9ad00bcabbffb", func := "milestone/milestonelaw13.QuerySpoilt", spec := "querySpoilt", unfollowed := true, recurses := true, apart := false, narrowed := true }
def QuerySpoiltUptoSaid : Prop := querySpoiltUptoRow.holds Tryz.pinned (OpenSpec.upto querySpoiltSpec)

/-- 'milestonelaw13.QueryBytes', WHERE WHAT IT READS IS OF BULK AT MOST 1048576: true; the input reads as it did. -/
def queryBytesUptoRow : OpenClaim := { program := "ytldnkafmanalmaagreat", sum := "ac2eac97597ddf1d1c1ee775790d330fd4f808f18f416a1403b9ad00bcabbffb", func := "milestone/milestonelaw13.QueryBytes", spec := "queryBytes", unfollowed := true, recurses := true, apart := false, narrowed := true }
def QueryBytesUptoSaid : Prop := queryBytesUptoRow.holds Tryz.pinned (OpenSpec.upto queryBytesSpec)

/-- 'milestonelaw13.QueryRounds', WHERE WHAT IT READS IS OF BULK AT MOST 1048576: true; the input reads as it did. -/
def queryRoundsUptoRow : OpenClaim := { program := "ytldnkafmanalmaagreat", sum := "ac2eac97597ddf1d1c1ee775790d330fd4f808f18f416a1403b9ad00bcabbffb", func := "milestone/milestonelaw13.QueryRounds", spec := "queryRounds", unfollowed := true, recurses := true, apart := false, narrowed := true }
def QueryRoundsUptoSaid : Prop := queryRoundsUptoRow.holds Tryz.pinned (OpenSpec.upto queryRoundsSpec)

/-- 'milestonelaw13.QueryCounts', WHERE WHAT IT READS IS OF BULK AT MOST 1048576: true; the input reads as it did. -/
def queryCountsUptoRow : OpenClaim := { program := "ytldnkafmanalmaagreat", sum := "ac2eac97597ddf1d1c1ee775790d330fd4f808f18f416a1403b9ad00bcabbffb", func := "milestone/milestonelaw13.QueryCounts", spec := "queryCounts", unfollowed := true, recurses := true, apart := false, narrowed := true }
def QueryCountsUptoSaid : Prop := queryCountsUptoRow.holds Tryz.pinned (OpenSpec.upto queryCountsSpec)

end Rows
end Go.Proofs.YtldnkafmanalmaaGreat
