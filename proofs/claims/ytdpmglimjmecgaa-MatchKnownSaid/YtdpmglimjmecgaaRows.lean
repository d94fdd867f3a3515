/-
  NARROWER THAN 'FOR EVERY INPUT', by the rows' own cells (each row's printed sentence says how): MatchAll: loops · MatchWords: loops · MatchRules: loops · MatchTimes: loops · MatchNone: loops · MatchTurned: loops · MatchSets: loops.
  DERIVED. THE GIVEN ROWS OF THIS SEAT. 9 by the template 'for every input the law returns true; each argument reads behind the call as it read before'; 0 by the template 'total and deterministic' (their statements: YtdpmglimjmecgaaTotals.lean).
  GIVEN WITH THE SEED: the statements are not yours to turn. If you find one false, say at which input.
  Laid BY PROGRAM, IN A SANDBOX (cutbox-rows.mjs): the forced cells as the released guide's own fill.sh prints them over the translation 56f09c6a70f7be77… (all of the seat's roots in one cut). By AI agents, Wed Nov 11 2026. No macro, syntax, notation, axiom, sorry.
-/
import Derived.Test.YtdpmglimjmecgaaChecked
import GoSem.Claim
import GoSem.ClaimJoined
import GoSem.ClaimMapViews
import Derived.JoinedTies
import Derived.KernelRfl
namespace Go.Proofs.Ytdpmglimjmecgaa
/- THE CELL 'sum', in the pinned program and in every row, IS THE sha256 OF THE DUMP (.gsa) THAT YtdpmglimjmecgaaProg.lean LOADS. Nothing in Lean hashes anything: it is a label: what it is worth is what the hold of that sum in a sandbox is worth. -/
noncomputable def Try.pinned : Pinned := { name := "ytdpmglimjmecgaa", sum := "56f09c6a70f7be7747f13fee02951751239b314da4cc3f690d4fd958070dbfd3", checked := Try.checked }
namespace Rows
def none {H : Type} : Left H := { results := [], args := [] }

/-- 'milestonelaw5.MatchAll': WHATEVER THE INPUT: true; the input reads as it did. -/
def matchAllSpec : ChangeSpec := { name := "matchAll", fn := fun _ => fun
  | [d1, d2, d3, d4] => { results := [.lit (.bool true)], args := [d1, d2, d3, d4] }
  | _ => none }
def matchAllRow : OpenClaim := { program := "ytdpmglimjmecgaa", sum := "56f09c6a70f7be7747f13fee02951751239b314da4cc3f690d4fd958070dbfd3", func := "milestone/milestonelaw5.MatchAll", spec := "matchAll", unfollowed := true, recurses := true, loops := true, plainKeys := false, apart := false }
def MatchAllSaid : Prop := matchAllRow.holds Try.pinned (OpenSpec.ofChange matchAllSpec)

/-- ITS FALSE NEIGHBOUR: 'it returns false'. Refute it at one input. -/
def matchAllWrong : ChangeSpec := { name := "matchAll", fn := fun _ => fun
  | [d1, d2, d3, d4] => { results := [.lit (.bool false)], args := [d1, d2, d3, d4] }
  | _ => none }
def MatchAllWrongFalsely : Prop := matchAllRow.holds Try.pinned (OpenSpec.ofChange matchAllWrong)

/-- 'milestonelaw5.MatchWords': WHATEVER THE INPUT: true; the input reads as it did. -/
def matchWordsSpec : ChangeSpec := { name := "matchWords", fn := fun _ => fun
  | [d1, d2] => { results := [.lit (.bool true)], args := [d1, d2] }
  | _ => none }
def matchWordsRow : OpenClaim := { program := "ytdpmglimjmecgaa", sum := "56f09c6a70f7be7747f13fee02951751239b314da4cc3f690d4fd958070dbfd3", func := "milestone/milestonelaw5.MatchWords", spec := "matchWords", unfollowed := true, recurses := true, loops := true, plainKeys := false, apart := false }
def MatchWordsSaid : Prop := matchWordsRow.holds Try.pinned (OpenSpec.ofChange matchWordsSpec)

/-- ITS FALSE NEIGHBOUR: 'it returns false'. Refute it at one input. -/
def matchWordsWrong : ChangeSpec := { name := "matchWords", fn := fun _ => fun
  | [d1, d2] => { results := [.lit (.bool false)], args := [d1, d2] }
  | _ => none }
def MatchWordsWrongFalsely : Prop := matchWordsRow.holds Try.pinned (OpenSpec.ofChange matchWordsWrong)

/-- 'milestonelaw5.MatchRules': WHATEVER THE INPUT: true; the input reads as it did. -/
def matchRulesSpec : ChangeSpec := { name := "matchRules", fn := fun _ => fun
  | [d1, d2, d3, d4, d5] => { results := [.lit (.bool true)], args := [d1, d2, d3, d4, d5] }
  | _ => none }
def matchRulesRow : OpenClaim := { program := "ytdpmglimjmecgaa", sum := "56f09c6a70f7be7747f13fee02951751239b314da4cc3f690d4fd958070dbfd3", func := "milestone/milestonelaw5.MatchRules", spec := "matchRules", unfollowed := true, recurses := true, loops := true, plainKeys := false, apart := false }
def MatchRulesSaid : Prop := matchRulesRow.holds Try.pinned (OpenSpec.ofChange matchRulesSpec)

/-- ITS FALSE NEIGHBOUR: 'it returns false'. Refute it at one input. -/
def matchRulesWrong : ChangeSpec := { name := "matchRules", fn := fun _ => fun
  | [d1, d2, d3, d4, d5] => { results := [.lit (.bool false)], args := [d1, d2, d3, d4, d5] }
  | _ => none }
def MatchRulesWrongFalsely : Prop := matchRulesRow.holds Try.pinned (OpenSpec.ofChange matchRulesWrong)

/-- 'milestonelaw5.MatchTimes': WHATEVER THE INPUT: true; the input reads as it did. -/
def matchTimesSpec : ChangeSpec := { name := "matchTimes", fn := fun _ => fun
  | [d1, d2, d3, d4, d5] => { results := [.lit (.bool true)], args := [d1, d2, d3, d4, d5] }
  | _ => none }
def matchTimesRow : OpenClaim := { program := "ytdpmglimjmecgaa", sum := "56f09c6a70f7be7747f13fee02951751239b314da4cc3f690d4fd958070dbfd3", func := "milestone/milestonelaw5.MatchTimes", spec := "matchTimes", unfollowed := true, recurses := true, loops := true, plainKeys := false, apart := false }
def MatchTimesSaid : Prop := matchTimesRow.holds Try.pinned (OpenSpec.ofChange matchTimesSpec)

/-- ITS FALSE NEIGHBOUR: 'it returns false'. Refute it at one input. -/
def matchTimesWrong : ChangeSpec := { name := "matchTimes", fn := fun _ => fun
  | [d1, d2, d3, d4, d5] => { results := [.lit (.bool false)], args := [d1, d2, d3, d4, d5] }
  | _ => none }
def MatchTimesWrongFalsely : Prop := matchTimesRow.holds Try.pinned (OpenSpec.ofChange matchTimesWrong)

/-- 'milestonelaw5.MatchKnown': WHATEVER THE INPUT: true; the input reads as it did. -/
def matchKnownSpec : ChangeSpec := { name := "matchKnown", fn := fun _ => fun
  | [d] => { results := [.lit (.bool true)], args := [d] }
  | _ => none }
def matchKnownRow : OpenClaim := { program := "ytdpmglimjmecgaa", sum := "56f09c6a70f7be7747f13fee02951751239b314da4cc3f690d4fd958070dbfd3", func := "milestone/milestonelaw5.MatchKnown", spec := "matchKnown", unfollowed := true, recurses := true, plainKeys := false, apart := false }
def MatchKnownSaid : Prop := matchKnownRow.holds Try.pinned (OpenSpec.ofChange matchKnownSpec)

/-- ITS FALSE NEIGHBOUR: 'it returns false'. Refute it at one input. -/
def matchKnownWrong : ChangeSpec := { name := "matchKnown", fn := fun _ => fun
  | [d] => { results := [.lit (.bool false)], args := [d] }
  | _ => none }
def MatchKnownWrongFalsely : Prop := matchKnownRow.holds Try.pinned (OpenSpec.ofChange matchKnownWrong)

/-- 'milestonelaw5.MatchNone': WHATEVER THE INPUT: true; the input reads as it did. -/
def matchNoneSpec : ChangeSpec := { name := "matchNone", fn := fun _ => fun
  | [d1, d2, d3, d4] => { results := [.lit (.bool true)], args := [d1, d2, d3, d4] }
  | _ => none }
def matchNoneRow : OpenClaim := { program := "ytdpmglimjmecgaa", sum := "56f09c6a70f7be7747f13fee02951751239b314da4cc3f690d4fd958070dbfd3", func := "milestone/milestonelaw5.MatchNone", spec := "matchNone", unfollowed := true, recurses := true, loops := true, plainKeys := false, apart := false }
def MatchNoneSaid : Prop := matchNoneRow.holds Try.pinned (OpenSpec.ofChange matchNoneSpec)

/-- ITS FALSE NEIGHBOUR: 'it returns false'. Refute it at one input. -/
def matchNoneWrong : ChangeSpec := { name := "matchNone", fn := fun _ => fun
  | [d1, d2, d3, d4] => { results := [.lit (.bool false)], args := [d1, d2, d3, d4] }
  | _ => none }
def MatchNoneWrongFalsely : Prop := matchNoneRow.holds Try.pinned (OpenSpec.ofChange matchNoneWrong)

/-- 'milestonelaw5.MatchTurned': WHATEVER THE INPUT: true; the input reads as it did. -/
def matchTurnedSpec : ChangeSpec := { name := "matchTurned", fn := fun _ => fun
  | [d1, d2, d3] => { results := [.lit (.bool true)], args := [d1, d2, d3] }
  | _ => none }
def matchTurnedRow : OpenClaim := { program := "ytdpmglimjmecgaa", sum := "56f09c6a70f7be7747f13fee02951751239b314da4cc3f690d4fd958070dbfd3", func := "milestone/milestonelaw5.MatchTurned", spec := "matchTurned", unfollowed := true, recurses := true, loops := true, plainKeys := false, apart := false }
def MatchTurnedSaid : Prop := matchTurnedRow.holds Try.pinned (OpenSpec.ofChange matchTurnedSpec)

/-- ITS FALSE NEIGHBOUR: 'it returns false'. Refute it at one input. -/
def matchTurnedWrong : ChangeSpec := { name := "matchTurned", fn := fun _ => fun
  | [d1, d2, d3] => { results := [.lit (.bool false)], args := [d1, d2, d3] }
  | _ => none }
def MatchTurnedWrongFalsely : Prop := matchTurnedRow.holds Try.pinned (OpenSpec.ofChange matchTurnedWrong)

/-- 'milestonelaw5.MatchCounts': WHATEVER THE INPUT: true; the input reads as it did. -/
def matchCountsSpec : ChangeSpec := { name := "matchCounts", fn := fun _ => fun
  | [d1, d2, d3] => { results := [.lit (.bool true)], args := [d1, d2, d3] }
  | _ => none }
def matchCountsRow : OpenClaim := { program := "ytdpmglimjmecgaa", sum := "56f09c6a70f7be7747f13fee02951751239b314da4cc3f690d4fd958070dbfd3", func := "milestone/milestonelaw5.MatchCounts", spec := "matchCounts", unfollowed := true, recurses := true, plainKeys := false, apart := false }
def MatchCountsSaid : Prop := matchCountsRow.holds Try.pinned (OpenSpec.ofChange matchCountsSpec)

/-- ITS FALSE NEIGHBOUR: 'it returns false'. Refute it at one input. -/
def matchCountsWrong : ChangeSpec := { name := "matchCounts", fn := fun _ => fun
  | [d1, d2, d3] => { results := [.lit (.bool false)], args := [d1, d2, d3] }
  | _ => none }
def MatchCountsWrongFalsely : Prop := matchCountsRow.holds Try.pinned (OpenSpec.ofChange matchCountsWrong)

/-- 'milestonelaw5.MatchSets': WHATEVER THE INPUT: true; the input reads as it did. -/
def matchSetsSpec : ChangeSpec := { name := "matchSets", fn := fun _ => fun
  | [d1, d2, d3, d4, d5] => { results := [.lit (.bool true)], args := [d1, d2, d3, d4, d5] }
  | _ => none }
def matchSetsRow : OpenClaim := { program := "ytdpmglimjmecgaa", sum := "56f09c6a70f7be7747f13fee02951751239b314da4cc3f690d4fd958070dbfd3", func := "milestone/milestonelaw5.MatchSets", spec := "matchSets", unfollowed := true, recurses := true, loops := true, plainKeys := false, apart := false }
def MatchSetsSaid : Prop := matchSetsRow.holds Try.pinned (OpenSpec.ofChange matchSetsSpec)

/-- ITS FALSE NEIGHBOUR: 'it returns false'. Refute it at one input. -/
def matchSetsWrong : ChangeSpec := { name := "matchSets", fn := fun _ => fun
  | [d1, d2, d3, d4, d5] => { results := [.lit (.bool false)], args := [d1, d2, d3, d4, d5] }
  | _ => none }
def MatchSetsWrongFalsely : Prop := matchSetsRow.holds Try.pinned (OpenSpec.ofChange matchSetsWrong)

/- THE SECOND FORM. 'bulk': how many values and letters a reading holds, each counted each time it is reached (what is shared counts as often as it is met; a slice's spare places count too). A statement '..UptoSaid' is the law's where the arguments, and the package variables that the reading takes, are together of bulk at most 1048576: NARROWER than '..Said'. Prove '..Said' where nothing that the law and all that it calls make is longer than what came in: it says more and counts as full. Else prove '..UptoSaid'. A law counts once. -/
mutual
def uptoBulk {H : Type} : DataW H → Nat
  | .lit (.string bytes) => bytes.length + 1
  | .lit _ => 1
  | .nil => 1
  | .ptr d => uptoBulk d + 1
  | .slice elems spare => uptoBulkAll elems + uptoBulkAll spare + 1
  | .agg parts => uptoBulkAll parts + 1
  | .iface _ d => uptoBulk d + 1
  | .map entries => uptoBulkEntries entries + 1
  | .held _ => 1
def uptoBulkAll {H : Type} : List (DataW H) → Nat
  | [] => 0
  | d :: r => uptoBulk d + uptoBulkAll r
def uptoBulkEntries {H : Type} : List (Lit × DataW H) → Nat
  | [] => 0
  | x :: r => uptoBulkEntry x + uptoBulkEntries r
def uptoBulkEntry {H : Type} : Lit × DataW H → Nat
  | (.string bytes, d) => bytes.length + uptoBulk d + 1
  | (_, d) => uptoBulk d + 1
 end
def uptoSmall : (H : Type) → List (DataW H) → Bool := fun _ ds => decide (uptoBulkAll ds ≤ 1048576)
def OpenSpec.upto (s : _root_.Go.ChangeSpec) : _root_.Go.OpenSpec := { _root_.Go.OpenSpec.ofChange s with cond := some uptoSmall }

/-- 'milestonelaw5.MatchAll', WHERE WHAT IT READS IS OF BULK AT MOST 1048576: true; the input reads as it did. -/
def matchAllUptoRow : OpenClaim := { program := "ytdpmglimjmecgaa", sum := "56f09c6a70f7be7747f13fee02951751239b314da4cc3f690d4fd958070dbfd3", func := "milestone/milestonelaw5.MatchAll", spec := "matchAll", unfollowed := true, recurses := true, loops := true, plainKeys := false, apart := false, narrowed := true }
def MatchAllUptoSaid : Prop := matchAllUptoRow.holds Try.pinned (OpenSpec.upto matchAllSpec)

/-- 'milestonelaw5.MatchWords', WHERE WHAT IT READS IS OF BULK AT MOST 1048576: true; the input reads as it did. -/
def matchWordsUptoRow : OpenClaim := { program := "ytdpmglimjmecgaa", sum := "56f09c6a70f7be7747f13fee02951751239b314da4cc3f690d4fd958070dbfd3", func := "milestone/milestonelaw5.MatchWords", spec := "matchWords", unfollowed := true, recurses := true, loops := true, plainKeys := false, apart := false, narrowed := true }
def MatchWordsUptoSaid : Prop := matchWordsUptoRow.holds Try.pinned (OpenSpec.upto matchWordsSpec)

/-- 'milestonelaw5.MatchRules', WHERE WHAT IT READS IS OF BULK AT MOST 1048576: true; the input reads as it did. -/
def matchRulesUptoRow : OpenClaim := { program := "ytdpmglimjmecgaa", sum := "56f09c6a70f7be7747f13fee02951751239b314da4cc3f690d4fd958070dbfd3", func := "milestone/milestonelaw5.MatchRules", spec := "matchRules", unfollowed := true, recurses := true, loops := true, plainKeys := false, apart := false, narrowed := true }
def MatchRulesUptoSaid : Prop := matchRulesUptoRow.holds Try.pinned (OpenSpec.upto matchRulesSpec)

/-- 'milestonelaw5.MatchTimes', WHERE WHAT IT READS IS OF BULK AT MOST 1048576: true; the input reads as it did. -/
def matchTimesUptoRow : OpenClaim := { program := "ytdpmglimjmecgaa", sum := "56f09c6a70f7be7747f13fee02951751239b314da4cc3f690d4fd958070dbfd3", func := "milestone/milestonelaw5.MatchTimes", spec := "matchTimes", unfollowed := true, recurses := true, loops := true, plainKeys := false, apart := false, narrowed := true }
def MatchTimesUptoSaid : Prop := matchTimesUptoRow.holds Try.pinned (OpenSpec.upto matchTimesSpec)

/-- 'milestonelaw5.MatchKnown', WHERE WHAT IT READS IS OF BULK AT MOST 1048576: true; the input reads as it did. -/
def matchKnownUptoRow : OpenClaim := { program := "ytdpmglimjmecgaa", sum := "56f09c6a70f7be7747f13fee02951751239b314da4cc3f690d4fd958070dbfd3", func := "milestone/milestonelaw5.MatchKnown", spec := "matchKnown", unfollowed := true, recurses := true, plainKeys := false, apart := false, narrowed := true }
def MatchKnownUptoSaid : Prop := matchKnownUptoRow.holds Try.pinned (OpenSpec.upto matchKnownSpec)

/-- 'milestonelaw5.MatchNone', WHERE WHAT IT READS IS OF BULK AT MOST 1048576: true; the input reads as it did. -/
def matchNoneUptoRow : OpenClaim := { program := "ytdpmglimjmecgaa", sum := "56f09c6a70f7be7747f13fee02951751239b314da4cc3f690d4fd958070dbfd3", func := "milestone/milestonelaw5.MatchNone", spec := "matchNone", unfollowed := true, recurses := true, loops := true, plainKeys := false, apart := false, narrowed := true }
def MatchNoneUptoSaid : Prop := matchNoneUptoRow.holds Try.pinned (OpenSpec.upto matchNoneSpec)

/-- 'milestonelaw5.MatchTurned', WHERE WHAT IT READS IS OF BULK AT MOST 1048576: true; the input reads as it did. -/
def matchTurnedUptoRow : OpenClaim := { program := "ytdpmglimjmecgaa", sum := "56f09c6a70f7be7747f13fee02951751239b314da4cc3f690d4fd958070dbfd3", func := "milestone/milestonelaw5.MatchTurned", spec := "matchTurned", unfollowed := true, recurses := true, loops := true, plainKeys := false, apart := false, narrowed := true }
def MatchTurnedUptoSaid : Prop := matchTurnedUptoRow.holds Try.pinned (OpenSpec.upto matchTurnedSpec)

/-- 'milestonelaw5.MatchCounts', WHERE WHAT IT READS IS OF BULK AT MOST 1048576: true; the input reads as it did. -/
def matchCountsUptoRow : OpenClaim := { program := "ytdpmglimjmecgaa", sum := "56f09c6a70f7be7747f13fee02951751239b314da4cc3f690d4fd958070dbfd3", func := "milestone/milestonelaw5.MatchCounts", spec := "matchCounts", unfollowed := true, recurses := true, plainKeys := false, apart := false, narrowed := true }
def MatchCountsUptoSaid : Prop := matchCountsUptoRow.holds Try.pinned (OpenSpec.upto matchCountsSpec)

/-- 'milestonelaw5.MatchSets', WHERE WHAT IT READS IS OF BULK AT MOST 1048576: true; the input reads as it did. -/
def matchSetsUptoRow : OpenClaim := { program := "ytdpmglimjmecgaa", sum := "56f09c6a70f7be7747f13fee02951751239b314da4cc3f690d4fd958070dbfd3", func := "milestone/milestonelaw5.MatchSets", spec := "matchSets", unfollowed := true, recurses := true, loops := true, plainKeys := false, apart := false, narrowed := true }
def MatchSetsUptoSaid : Prop := matchSetsUptoRow.holds Try.pinned (OpenSpec.upto matchSetsSpec)

end Rows
end Go.Proofs.Ytdpmglimjmecgaa
