/-
  No cell of these rows narrows 'for every input' (looked for: loops, veiled, ifaces, maps, wideKeys, modest, calm, conditions, laid).
  DERIVED. THE GIVEN ROWS OF THIS SEAT. 3 by the template 'for every input the law returns true; each argument reads behind the call as it read before'; 0 by the template 'total and deterministic' (their statements: YtidaobchfmnjpaaTotals.lean).
  GIVEN WITH THE SEED: the statements are not yours to turn. If you find one false, say at which input.
  Laid BY PROGRAM, IN A SANDBOX (cutbox-rows.mjs): the forced cells as the released guide's own fill.sh prints them over the translation 0fb0d4d1132bed75… (all of the seat's roots in one cut). By AI agents, Wed Nov 11 2026. No macro, syntax, notation, axiom, sorry.
-/
import Derived.Test.YtidaobchfmnjpaaChecked
import GoSem.Claim
import GoSem.ClaimJoined
import GoSem.ClaimMapViews
import Derived.JoinedTies
import Derived.KernelRfl
namespace Go.Proofs.Ytidaobchfmnjpaa
/- THE CELL 'sum', in the pinned program and in every row, IS THE sha256 OF THE DUMP (.gsa) THAT YtidaobchfmnjpaaProg.lean LOADS. Nothing in Lean hashes anything: it is a label: what it is worth is what the hold of that sum in a sandbox is worth. -/
noncomputable def Try.pinned : Pinned := { name := "ytidaobchfmnjpaa", sum := "0fb0d4d1132bed75bfacb44a25831de146ce9e432195a576992da929ce30a7e7", checked := Try.checked }
namespace Rows
def none {H : Type} : Left H := { results := [], args := [] }

/-- 'milestonelaw9.ProductLess': WHATEVER THE INPUT: true; the input reads as it did. -/
def productLessSpec : ChangeSpec := { name := "productLess", fn := fun _ => fun
  | [d1, d2, d3, d4, d5, d6, d7, d8, d9] => { results := [.lit (.bool true)], args := [d1, d2, d3, d4, d5, d6, d7, d8, d9] }
  | _ => none }
def productLessRow : OpenClaim := { program := "ytidaobchfmnjpaa", sum := "0fb0d4d1132bed75bfacb44a25831de146ce9e432195a576992da929ce30a7e7", func := "milestone/milestonelaw9.ProductLess", spec := "productLess", unfollowed := true, recurses := true, apart := false }
def ProductLessSaid : Prop := productLessRow.holds Try.pinned (OpenSpec.ofChange productLessSpec)

/-- ITS FALSE NEIGHBOUR: 'it returns false'. Refute it at one input. -/
def productLessWrong : ChangeSpec := { name := "productLess", fn := fun _ => fun
  | [d1, d2, d3, d4, d5, d6, d7, d8, d9] => { results := [.lit (.bool false)], args := [d1, d2, d3, d4, d5, d6, d7, d8, d9] }
  | _ => none }
def ProductLessWrongFalsely : Prop := productLessRow.holds Try.pinned (OpenSpec.ofChange productLessWrong)

/-- 'milestonelaw9.ProductAny': WHATEVER THE INPUT: true; the input reads as it did. -/
def productAnySpec : ChangeSpec := { name := "productAny", fn := fun _ => fun
  | [d1, d2, d3, d4, d5, d6, d7, d8] => { results := [.lit (.bool true)], args := [d1, d2, d3, d4, d5, d6, d7, d8] }
  | _ => none }
def productAnyRow : OpenClaim := { program := "ytidaobchfmnjpaa", sum := "0fb0d4d1132bed75bfacb44a25831de146ce9e432195a576992da929ce30a7e7", func := "milestone/milestonelaw9.ProductAny", spec := "productAny", unfollowed := true, recurses := true, apart := false }
def ProductAnySaid : Prop := productAnyRow.holds Try.pinned (OpenSpec.ofChange productAnySpec)

/-- ITS FALSE NEIGHBOUR: 'it returns false'. Refute it at one input. -/
def productAnyWrong : ChangeSpec := { name := "productAny", fn := fun _ => fun
  | [d1, d2, d3, d4, d5, d6, d7, d8] => { results := [.lit (.bool false)], args := [d1, d2, d3, d4, d5, d6, d7, d8] }
  | _ => none }
def ProductAnyWrongFalsely : Prop := productAnyRow.holds Try.pinned (OpenSpec.ofChange productAnyWrong)

/-- 'milestonelaw9.ProductGreat': WHATEVER THE INPUT: true; the input reads as it did. -/
def productGreatSpec : ChangeSpec := { name := "productGreat", fn := fun _ => fun
  | [d1, d2, d3] => { results := [.lit (.bool true)], args := [d1, d2, d3] }
  | _ => none }
def productGreatRow : OpenClaim := { program := "ytidaobchfmnjpaa", sum := "0fb0d4d1132bed75bfacb44a25831de146ce9e432195a576992da929ce30a7e7", func := "milestone/milestonelaw9.ProductGreat", spec := "productGreat", unfollowed := true, recurses := true, apart := false }
def ProductGreatSaid : Prop := productGreatRow.holds Try.pinned (OpenSpec.ofChange productGreatSpec)

/-- ITS FALSE NEIGHBOUR: 'it returns false'. Refute it at one input. -/
def productGreatWrong : ChangeSpec := { name := "productGreat", fn := fun _ => fun
  | [d1, d2, d3] => { results := [.lit (.bool false)], args := [d1, d2, d3] }
  | _ => none }
def ProductGreatWrongFalsely : Prop := productGreatRow.holds Try.pinned (OpenSpec.ofChange productGreatWrong)

/- THE SECOND FORM. 'bulk': how many values and letters a reading holds, each counted each time it is reached (what is shared counts as often as it is met; a slice's spare places count too). A statement '..UptoSaid' is the law's where the arguments, and the package variables that the reading takes, are together of bulk at most 1048576: NARROWER than '..Said'. Prove '..Said' where nothing that the law and all that it calls make is longer than what came in: it says more and counts as full. Else prove '..UptoSaid'. A law counts once. -/
mutual
def uptoBulk {H : Type} : DataW H → Nat
  | .lit (.string bytes) => bytes.length + 1
  | .lit _ => 1
  | .nil => 1
  | .ptr d => uptoBulk d + 1
  | .slice elems spare => uptoBulkAll elems + uptoBulkAll spare + 1
  | .agg parts => uptoBulkAll parts + 1
  | .iface _ d => uptoBulk d + 1
  | .map entries => uptoBulkEntries entries + 1
  | .held _ => 1
def uptoBulkAll {H : Type} : List (DataW H) → Nat
  | [] => 0
  | d :: r => uptoBulk d + uptoBulkAll r
def uptoBulkEntries {H : Type} : List (Lit × DataW H) → Nat
  | [] => 0
  | x :: r => uptoBulkEntry x + uptoBulkEntries r
def uptoBulkEntry {H : Type} : Lit × DataW H → Nat
  | (.string bytes, d) => bytes.length + uptoBulk d + 1
  | (_, d) => uptoBulk d + 1
 end
def uptoSmall : (H : Type) → List (DataW H) → Bool := fun _ ds => decide (uptoBulkAll ds ≤ 1048576)
def OpenSpec.upto (s : _root_.Go.ChangeSpec) : _root_.Go.OpenSpec := { _root_.Go.OpenSpec.ofChange s with cond := some uptoSmall }

/-- 'milestonelaw9.ProductLess', WHERE WHAT IT READS IS OF BULK AT MOST 1048576: true; the input reads as it did. -/
def productLessUptoRow : OpenClaim := { program := "ytidaobchfmnjpaa", sum := "0fb0d4d1132bed75bfacb44a25831de146ce9e432195a576992da929ce30a7e7", func := "milestone/milestonelaw9.ProductLess", spec := "productLess", unfollowed := true, recurses := true, apart := false, narrowed := true }
def ProductLessUptoSaid : Prop := productLessUptoRow.holds Try.pinned (OpenSpec.upto productLessSpec)

/-- 'milestonelaw9.ProductAny', WHERE WHAT IT READS IS OF BULK AT MOST 1048576: true; the input reads as it did. -/
def productAnyUptoRow : OpenClaim := { program := "ytidaobchfmnjpaa", sum := "0fb0d4d1132bed75bfacb44a25831de146ce9e432195a576992da929ce30a7e7", func := "milestone/milestonelaw9.ProductAny", spec := "productAny", unfollowed := true, recurses := true, apart := false, narrowed := true }
def ProductAnyUptoSaid : Prop := productAnyUptoRow.holds Try.pinned (OpenSpec.upto productAnySpec)

/-- 'milestonelaw9.ProductGreat', WHERE WHAT IT READS IS OF BULK AT MOST 1048576: true; the input reads as it did. -/
def productGreatUptoRow : OpenClaim := { program := "ytidaobchfmnjpaa", sum := "0fb0d4d1132bed75bfacb44a25831de146ce9e432195a576992da929ce30a7e7", func := "milestone/milestonelaw9.ProductGreat", spec := "productGreat", unfollowed := true, recurses := true, apart := false, narrowed := true }
def ProductGreatUptoSaid : Prop := productGreatUptoRow.holds Try.pinned (OpenSpec.upto productGreatSpec)

end Rows
end Go.Proofs.Ytidaobchfmnjpaa
