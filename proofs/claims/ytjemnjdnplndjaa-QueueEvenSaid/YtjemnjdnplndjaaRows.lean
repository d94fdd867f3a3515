/-
  No cell of these rows narrows 'for every input' (looked for: loops, veiled, ifaces, maps, wideKeys, modest, calm, conditions, laid).
  DERIVED. THE GIVEN ROWS OF THIS SEAT. 9 by the template 'for every input the law returns true; each argument reads behind the call as it read before'; 0 by the template 'total and deterministic' (their statements: YtjemnjdnplndjaaTotals.lean).
  GIVEN WITH THE SEED: the statements are not yours to turn. If you find one false, say at which input.
  Laid BY PROGRAM, IN A SANDBOX (cutbox-rows.mjs): the forced cells as the released guide's own fill.sh prints them over the translation 83559ffad7e00c14… (all of the seat's roots in one cut). By AI agents, Wed Nov 11 2026. No macro, syntax, notation, axiom, sorry.
-/
import Derived.Test.YtjemnjdnplndjaaChecked
import GoSem.Claim
import GoSem.ClaimJoined
import GoSem.ClaimMapViews
import Derived.JoinedTies
import Derived.KernelRfl
namespace Go.Proofs.Ytjemnjdnplndjaa
/- THE CELL 'sum', in the pinned program and in every row, IS THE sha256 OF THE DUMP (.gsa) THAT YtjemnjdnplndjaaProg.lean LOADS. Nothing in Lean hashes anything: it is a label: what it is worth is what the hold of that sum in a sandbox is worth. -/
noncomputable def Try.pinned : Pinned := { name := "ytjemnjdnplndjaa", sum := "83559ffad7e00c14d5ab5b45745e9af78947aa55a7229d258cf477ec14670234", checked := Try.checked }
namespace Rows
def none {H : Type} : Left H := { results := [], args := [] }

/-- 'milestonelaw3.QueueApart': WHATEVER THE INPUT: true; the input reads as it did. -/
def queueApartSpec : ChangeSpec := { name := "queueApart", fn := fun _ => fun
  | [d1, d2] => { results := [.lit (.bool true)], args := [d1, d2] }
  | _ => none }
def queueApartRow : OpenClaim := { program := "ytjemnjdnplndjaa", sum := "83559ffad7e00c14d5ab5b45745e9af78947aa55a7229d258cf477ec14670234", func := "milestone/milestonelaw3.QueueApart", spec := "queueApart", unfollowed := true, recurses := true, apart := false }
def QueueApartSaid : Prop := queueApartRow.holds Try.pinned (OpenSpec.ofChange queueApartSpec)

/-- ITS FALSE NEIGHBOUR: 'it returns false'. Refute it at one input. -/
def queueApartWrong : ChangeSpec := { name := "queueApart", fn := fun _ => fun
  | [d1, d2] => { results := [.lit (.bool false)], args := [d1, d2] }
  | _ => none }
def QueueApartWrongFalsely : Prop := queueApartRow.holds Try.pinned (OpenSpec.ofChange queueApartWrong)

/-- 'milestonelaw3.QueueEven': WHATEVER THE INPUT: true; the input reads as it did. -/
def queueEvenSpec : ChangeSpec := { name := "queueEven", fn := fun _ => fun
  | [d1, d2] => { results := [.lit (.bool true)], args := [d1, d2] }
  | _ => none }
def queueEvenRow : OpenClaim := { program := "ytjemnjdnplndjaa", sum := "83559ffad7e00c14d5ab5b45745e9af78947aa55a7229d258cf477ec14670234", func := "milestone/milestonelaw3.QueueEven", spec := "queueEven", unfollowed := true, recurses := true, apart := false }
def QueueEvenSaid : Prop := queueEvenRow.holds Try.pinned (OpenSpec.ofChange queueEvenSpec)

/-- ITS FALSE NEIGHBOUR: 'it returns false'. Refute it at one input. -/
def queueEvenWrong : ChangeSpec := { name := "queueEven", fn := fun _ => fun
  | [d1, d2] => { results := [.lit (.bool false)], args := [d1, d2] }
  | _ => none }
def QueueEvenWrongFalsely : Prop := queueEvenRow.holds Try.pinned (OpenSpec.ofChange queueEvenWrong)

/-- 'milestonelaw3.QueueGreat': WHATEVER THE INPUT: true; the input reads as it did. -/
def queueGreatSpec : ChangeSpec := { name := "queueGreat", fn := fun _ => fun
  | [d1, d2, d3] => { results := [.lit (.bool true)], args := [d1, d2, d3] }
  | _ => none }
def queueGreatRow : OpenClaim := { program := "ytjemnjdnplndjaa", sum := "83559ffad7e00c14d5ab5b45745e9af78947aa55a7229d258cf477ec14670234", func := "milestone/milestonelaw3.QueueGreat", spec := "queueGreat", unfollowed := true, recurses := true, apart := false }
def QueueGreatSaid : Prop := queueGreatRow.holds Try.pinned (OpenSpec.ofChange queueGreatSpec)

/-- ITS FALSE NEIGHBOUR: 'it returns false'. Refute it at one input. -/
def queueGreatWrong : ChangeSpec := { name := "queueGreat", fn := fun _ => fun
  | [d1, d2, d3] => { results := [.lit (.bool false)], args := [d1, d2, d3] }
  | _ => none }
def QueueGreatWrongFalsely : Prop := queueGreatRow.holds Try.pinned (OpenSpec.ofChange queueGreatWrong)

/-- 'milestonelaw3.QueuePlays': WHATEVER THE INPUT: true; the input reads as it did. -/
def queuePlaysSpec : ChangeSpec := { name := "queuePlays", fn := fun _ => fun
  | [d1, d2, d3] => { results := [.lit (.bool true)], args := [d1, d2, d3] }
  | _ => none }
def queuePlaysRow : OpenClaim := { program := "ytjemnjdnplndjaa", sum := "83559ffad7e00c14d5ab5b45745e9af78947aa55a7229d258cf477ec14670234", func := "milestone/milestonelaw3.QueuePlays", spec := "queuePlays", unfollowed := true, recurses := true, apart := false }
def QueuePlaysSaid : Prop := queuePlaysRow.holds Try.pinned (OpenSpec.ofChange queuePlaysSpec)

/-- ITS FALSE NEIGHBOUR: 'it returns false'. Refute it at one input. -/
def queuePlaysWrong : ChangeSpec := { name := "queuePlays", fn := fun _ => fun
  | [d1, d2, d3] => { results := [.lit (.bool false)], args := [d1, d2, d3] }
  | _ => none }
def QueuePlaysWrongFalsely : Prop := queuePlaysRow.holds Try.pinned (OpenSpec.ofChange queuePlaysWrong)

/-- 'milestonelaw3.QueueSorts': WHATEVER THE INPUT: true; the input reads as it did. -/
def queueSortsSpec : ChangeSpec := { name := "queueSorts", fn := fun _ => fun
  | [d1, d2] => { results := [.lit (.bool true)], args := [d1, d2] }
  | _ => none }
def queueSortsRow : OpenClaim := { program := "ytjemnjdnplndjaa", sum := "83559ffad7e00c14d5ab5b45745e9af78947aa55a7229d258cf477ec14670234", func := "milestone/milestonelaw3.QueueSorts", spec := "queueSorts", unfollowed := true, recurses := true, apart := false }
def QueueSortsSaid : Prop := queueSortsRow.holds Try.pinned (OpenSpec.ofChange queueSortsSpec)

/-- ITS FALSE NEIGHBOUR: 'it returns false'. Refute it at one input. -/
def queueSortsWrong : ChangeSpec := { name := "queueSorts", fn := fun _ => fun
  | [d1, d2] => { results := [.lit (.bool false)], args := [d1, d2] }
  | _ => none }
def QueueSortsWrongFalsely : Prop := queueSortsRow.holds Try.pinned (OpenSpec.ofChange queueSortsWrong)

/-- 'milestonelaw3.QueueBack': WHATEVER THE INPUT: true; the input reads as it did. -/
def queueBackSpec : ChangeSpec := { name := "queueBack", fn := fun _ => fun
  | [d] => { results := [.lit (.bool true)], args := [d] }
  | _ => none }
def queueBackRow : OpenClaim := { program := "ytjemnjdnplndjaa", sum := "83559ffad7e00c14d5ab5b45745e9af78947aa55a7229d258cf477ec14670234", func := "milestone/milestonelaw3.QueueBack", spec := "queueBack", unfollowed := true, recurses := true, apart := false }
def QueueBackSaid : Prop := queueBackRow.holds Try.pinned (OpenSpec.ofChange queueBackSpec)

/-- ITS FALSE NEIGHBOUR: 'it returns false'. Refute it at one input. -/
def queueBackWrong : ChangeSpec := { name := "queueBack", fn := fun _ => fun
  | [d] => { results := [.lit (.bool false)], args := [d] }
  | _ => none }
def QueueBackWrongFalsely : Prop := queueBackRow.holds Try.pinned (OpenSpec.ofChange queueBackWrong)

/-- 'milestonelaw3.QueueErrs': WHATEVER THE INPUT: true; the input reads as it did. -/
def queueErrsSpec : ChangeSpec := { name := "queueErrs", fn := fun _ => fun
  | [d1, d2, d3] => { results := [.lit (.bool true)], args := [d1, d2, d3] }
  | _ => none }
def queueErrsRow : OpenClaim := { program := "ytjemnjdnplndjaa", sum := "83559ffad7e00c14d5ab5b45745e9af78947aa55a7229d258cf477ec14670234", func := "milestone/milestonelaw3.QueueErrs", spec := "queueErrs", unfollowed := true, recurses := true, apart := false }
def QueueErrsSaid : Prop := queueErrsRow.holds Try.pinned (OpenSpec.ofChange queueErrsSpec)

/-- ITS FALSE NEIGHBOUR: 'it returns false'. Refute it at one input. -/
def queueErrsWrong : ChangeSpec := { name := "queueErrs", fn := fun _ => fun
  | [d1, d2, d3] => { results := [.lit (.bool false)], args := [d1, d2, d3] }
  | _ => none }
def QueueErrsWrongFalsely : Prop := queueErrsRow.holds Try.pinned (OpenSpec.ofChange queueErrsWrong)

/-- 'milestonelaw3.QueueLowers': WHATEVER THE INPUT: true; the input reads as it did. -/
def queueLowersSpec : ChangeSpec := { name := "queueLowers", fn := fun _ => fun
  | [d] => { results := [.lit (.bool true)], args := [d] }
  | _ => none }
def queueLowersRow : OpenClaim := { program := "ytjemnjdnplndjaa", sum := "83559ffad7e00c14d5ab5b45745e9af78947aa55a7229d258cf477ec14670234", func := "milestone/milestonelaw3.QueueLowers", spec := "queueLowers", unfollowed := true, recurses := true, apart := false }
def QueueLowersSaid : Prop := queueLowersRow.holds Try.pinned (OpenSpec.ofChange queueLowersSpec)

/-- ITS FALSE NEIGHBOUR: 'it returns false'. Refute it at one input. -/
def queueLowersWrong : ChangeSpec := { name := "queueLowers", fn := fun _ => fun
  | [d] => { results := [.lit (.bool false)], args := [d] }
  | _ => none }
def QueueLowersWrongFalsely : Prop := queueLowersRow.holds Try.pinned (OpenSpec.ofChange queueLowersWrong)

/-- 'milestonelaw3.QueueKeys': WHATEVER THE INPUT: true; the input reads as it did. -/
def queueKeysSpec : ChangeSpec := { name := "queueKeys", fn := fun _ => fun
  | [d] => { results := [.lit (.bool true)], args := [d] }
  | _ => none }
def queueKeysRow : OpenClaim := { program := "ytjemnjdnplndjaa", sum := "83559ffad7e00c14d5ab5b45745e9af78947aa55a7229d258cf477ec14670234", func := "milestone/milestonelaw3.QueueKeys", spec := "queueKeys", unfollowed := true, recurses := true, apart := false }
def QueueKeysSaid : Prop := queueKeysRow.holds Try.pinned (OpenSpec.ofChange queueKeysSpec)

/-- ITS FALSE NEIGHBOUR: 'it returns false'. Refute it at one input. -/
def queueKeysWrong : ChangeSpec := { name := "queueKeys", fn := fun _ => fun
  | [d] => { results := [.lit (.bool false)], args := [d] }
  | _ => none }
def QueueKeysWrongFalsely : Prop := queueKeysRow.holds Try.pinned (OpenSpec.ofChange queueKeysWrong)

/- THE SECOND FORM. 'bulk': how many values and letters a reading holds, each counted each time it is reached (what is shared counts as often as it is met; a slice's spare places count too). A statement '..UptoSaid' is the law's where the arguments, and the package variables that the reading takes, are together of bulk at most 1048576: NARROWER than '..Said'. Prove '..Said' where nothing that the law and all that it calls make is longer than what came in: it says more and counts as full. Else prove '..UptoSaid'. A law counts once. -/
mutual
def uptoBulk {H : Type} : DataW H → Nat
  | .lit (.string bytes) => bytes.length + 1
  | .lit _ => 1
  | .nil => 1
  | .ptr d => uptoBulk d + 1
  | .slice elems spare => uptoBulkAll elems + uptoBulkAll spare + 1
  | .agg parts => uptoBulkAll parts + 1
  | .iface _ d => uptoBulk d + 1
  | .map entries => uptoBulkEntries entries + 1
  | .held _ => 1
def uptoBulkAll {H : Type} : List (DataW H) → Nat
  | [] => 0
  | d :: r => uptoBulk d + uptoBulkAll r
def uptoBulkEntries {H : Type} : List (Lit × DataW H) → Nat
  | [] => 0
  | x :: r => uptoBulkEntry x + uptoBulkEntries r
def uptoBulkEntry {H : Type} : Lit × DataW H → Nat
  | (.string bytes, d) => bytes.length + uptoBulk d + 1
  | (_, d) => uptoBulk d + 1
 end
def uptoSmall : (H : Type) → List (DataW H) → Bool := fun _ ds => decide (uptoBulkAll ds ≤ 1048576)
def OpenSpec.upto (s : _root_.Go.ChangeSpec) : _root_.Go.OpenSpec := { _root_.Go.OpenSpec.ofChange s with cond := some uptoSmall }

/-- 'milestonelaw3.QueueApart', WHERE WHAT IT READS IS OF BULK AT MOST 1048576: true; the input reads as it did. -/
def queueApartUptoRow : OpenClaim := { program := "ytjemnjdnplndjaa", sum := "83559ffad7e00c14d5ab5b45745e9af78947aa55a7229d258cf477ec14670234", func := "milestone/milestonelaw3.QueueApart", spec := "queueApart", unfollowed := true, recurses := true, apart := false, narrowed := true }
def QueueApartUptoSaid : Prop := queueApartUptoRow.holds Try.pinned (OpenSpec.upto queueApartSpec)

/-- 'milestonelaw3.QueueEven', WHERE WHAT IT READS IS OF BULK AT MOST 1048576: true; the input reads as it did. -/
def queueEvenUptoRow : OpenClaim := { program := "ytjemnjdnplndjaa", sum := "83559ffad7e00c14d5ab5b45745e9af78947aa55a7229d258cf477ec14670234", func := "milestone/milestonelaw3.QueueEven", spec := "queueEven", unfollowed := true, recurses := true, apart := false, narrowed := true }
def QueueEvenUptoSaid : Prop := queueEvenUptoRow.holds Try.pinned (OpenSpec.upto queueEvenSpec)

/-- 'milestonelaw3.QueueGreat', WHERE WHAT IT READS IS OF BULK AT MOST 1048576: true; the input reads as it did. -/
def queueGreatUptoRow : OpenClaim := { program := "ytjemnjdnplndjaa", sum := "83559ffad7e00c14d5ab5b45745e9af78947aa55a7229d258cf477ec14670234", func := "milestone/milestonelaw3.QueueGreat", spec := "queueGreat", unfollowed := true, recurses := true, apart := false, narrowed := true }
def QueueGreatUptoSaid : Prop := queueGreatUptoRow.holds Try.pinned (OpenSpec.upto queueGreatSpec)

/-- 'milestonelaw3.QueuePlays', WHERE WHAT IT READS IS OF BULK AT MOST 1048576: true; the input reads as it did. -/
def queuePlaysUptoRow : OpenClaim := { program := "ytjemnjdnplndjaa", sum := "83559ffad7e00c14d5ab5b45745e9af78947aa55a7229d258cf477ec14670234", func := "milestone/milestonelaw3.QueuePlays", spec := "queuePlays", unfollowed := true, recurses := true, apart := false, narrowed := true }
def QueuePlaysUptoSaid : Prop := queuePlaysUptoRow.holds Try.pinned (OpenSpec.upto queuePlaysSpec)

/-- 'milestonelaw3.QueueSorts', WHERE WHAT IT READS IS OF BULK AT MOST 1048576: true; the input reads as it did. -/
def queueSortsUptoRow : OpenClaim := { program := "ytjemnjdnplndjaa", sum := "83559ffad7e00c14d5ab5b45745e9af78947aa55a7229d258cf477ec14670234", func := "milestone/milestonelaw3.QueueSorts", spec := "queueSorts", unfollowed := true, recurses := true, apart := false, narrowed := true }
def QueueSortsUptoSaid : Prop := queueSortsUptoRow.holds Try.pinned (OpenSpec.upto queueSortsSpec)

/-- 'milestonelaw3.QueueBack', WHERE WHAT IT READS IS OF BULK AT MOST 1048576: true; the input reads as it did. -/
def queueBackUptoRow : OpenClaim := { program := "ytjemnjdnplndjaa", sum := "83559ffad7e00c14d5ab5b45745e9af78947aa55a7229d258cf477ec14670234", func := "milestone/milestonelaw3.QueueBack", spec := "queueBack", unfollowed := true, recurses := true, apart := false, narrowed := true }
def QueueBackUptoSaid : Prop := queueBackUptoRow.holds Try.pinned (OpenSpec.upto queueBackSpec)

/-- 'milestonelaw3.QueueErrs', WHERE WHAT IT READS IS OF BULK AT MOST 1048576: true; the input reads as it did. -/
def queueErrsUptoRow : OpenClaim := { program := "ytjemnjdnplndjaa", sum := "83559ffad7e00c14d5ab5b45745e9af78947aa55a7229d258cf477ec14670234", func := "milestone/milestonelaw3.QueueErrs", spec := "queueErrs", unfollowed := true, recurses := true, apart := false, narrowed := true }
def QueueErrsUptoSaid : Prop := queueErrsUptoRow.holds Try.pinned (OpenSpec.upto queueErrsSpec)

/-- 'milestonelaw3.QueueLowers', WHERE WHAT IT READS IS OF BULK AT MOST 1048576: true; the input reads as it did. -/
def queueLowersUptoRow : OpenClaim := { program := "ytjemnjdnplndjaa", sum := "83559ffad7e00c14d5ab5b45745e9af78947aa55a7229d258cf477ec14670234", func := "milestone/milestonelaw3.QueueLowers", spec := "queueLowers", unfollowed := true, recurses := true, apart := false, narrowed := true }
def QueueLowersUptoSaid : Prop := queueLowersUptoRow.holds Try.pinned (OpenSpec.upto queueLowersSpec)

/-- 'milestonelaw3.QueueKeys', WHERE WHAT IT READS IS OF BULK AT MOST 1048576: true; the input reads as it did. -/
def queueKeysUptoRow : OpenClaim := { program := "ytjemnjdnplndjaa", sum := "83559ffad7e00c14d5ab5b45745e9af78947aa55a7229d258cf477ec14670234", func := "milestone/milestonelaw3.QueueKeys", spec := "queueKeys", unfollowed := true, recurses := true, apart := false, narrowed := true }
def QueueKeysUptoSaid : Prop := queueKeysUptoRow.holds Try.pinned (OpenSpec.upto queueKeysSpec)

end Rows
end Go.Proofs.Ytjemnjdnplndjaa
