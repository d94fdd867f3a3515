/-
  NARROWER THAN 'FOR EVERY INPUT', by the rows' own cells (each row's printed sentence says how): ProductCosts: loops · ProductWalks: loops · ProductMore: loops · ProductSums: loops · ProductRoutes: loops.
  DERIVED. THE GIVEN ROWS OF THIS SEAT. 12 by the template 'for every input the law returns true; each argument reads behind the call as it read before'; 0 by the template 'total and deterministic' (their statements: YtldnkafmanalmaaTotals.lean).
  GIVEN WITH THE SEED: the statements are not yours to turn. If you find one false, say at which input.
  Laid BY PROGRAM, IN A SANDBOX (cutbox-rows.mjs): the forced cells as the released guide's own fill.sh prints them over the translation 05bfeff36ce3a839… (all of the seat's roots in one cut). By AI agents, Wed Nov 11 2026. No macro, syntax, notation, axiom, sorry.
-/
import Derived.Test.YtldnkafmanalmaaChecked
import GoSem.Claim
import GoSem.ClaimJoined
import GoSem.ClaimMapViews
import Derived.JoinedTies
import Derived.KernelRfl
namespace Go.Proofs.Ytldnkafmanalmaa
/- THE CELL 'sum', in the pinned program and in every row, IS THE sha256 OF THE DUMP (.gsa) THAT YtldnkafmanalmaaProg.lean LOADS. Nothing in Lean hashes anything: it is a label: what it is worth is what the hold of that sum in a sandbox is worth. -/
noncomputable def Try.pinned : Pinned := { name := "ytldnkafmanalmaa", sum := "05bfeff36ce3a839c91633ec84eb47c352e56dba1c41de0c41d2231d3197a19c", checked := Try.checked }
namespace Rows
def none {H : Type} : Left H := { results := [], args := [] }

/-- 'milestonelaw9.ProductCosts': WHATEVER THE INPUT: true; the input reads as it did. -/
def productCostsSpec : ChangeSpec := { name := "productCosts", fn := fun _ => fun
  | [d1, d2, d3, d4, d5] => { results := [.lit (.bool true)], args := [d1, d2, d3, d4, d5] }
  | _ => none }
def productCostsRow : OpenClaim := { program := "ytldnkafmanalmaa", sum := "05bfeff36ce3a839c91633ec84eb47c352e56dba1c41de0c41d2231d3197a19c", func := "milestone/milestonelaw9.ProductCosts", spec := "productCosts", unfollowed := true, recurses := true, loops := true, apart := false }
def ProductCostsSaid : Prop := productCostsRow.holds Try.pinned (OpenSpec.ofChange productCostsSpec)

/-- ITS FALSE NEIGHBOUR: 'it returns false'. Refute it at one input. -/
def productCostsWrong : ChangeSpec := { name := "productCosts", fn := fun _ => fun
  | [d1, d2, d3, d4, d5] => { results := [.lit (.bool false)], args := [d1, d2, d3, d4, d5] }
  | _ => none }
def ProductCostsWrongFalsely : Prop := productCostsRow.holds Try.pinned (OpenSpec.ofChange productCostsWrong)

/-- 'milestonelaw9.ProductWalks': WHATEVER THE INPUT: true; the input reads as it did. -/
def productWalksSpec : ChangeSpec := { name := "productWalks", fn := fun _ => fun
  | [d1, d2, d3, d4, d5, d6] => { results := [.lit (.bool true)], args := [d1, d2, d3, d4, d5, d6] }
  | _ => none }
def productWalksRow : OpenClaim := { program := "ytldnkafmanalmaa", sum := "05bfeff36ce3a839c91633ec84eb47c352e56dba1c41de0c41d2231d3197a19c", func := "milestone/milestonelaw9.ProductWalks", spec := "productWalks", unfollowed := true, recurses := true, loops := true, apart := false }
def ProductWalksSaid : Prop := productWalksRow.holds Try.pinned (OpenSpec.ofChange productWalksSpec)

/-- ITS FALSE NEIGHBOUR: 'it returns false'. Refute it at one input. -/
def productWalksWrong : ChangeSpec := { name := "productWalks", fn := fun _ => fun
  | [d1, d2, d3, d4, d5, d6] => { results := [.lit (.bool false)], args := [d1, d2, d3, d4, d5, d6] }
  | _ => none }
def ProductWalksWrongFalsely : Prop := productWalksRow.holds Try.pinned (OpenSpec.ofChange productWalksWrong)

/-- 'milestonelaw9.ProductMore': WHATEVER THE INPUT: true; the input reads as it did. -/
def productMoreSpec : ChangeSpec := { name := "productMore", fn := fun _ => fun
  | [d1, d2, d3, d4, d5, d6, d7] => { results := [.lit (.bool true)], args := [d1, d2, d3, d4, d5, d6, d7] }
  | _ => none }
def productMoreRow : OpenClaim := { program := "ytldnkafmanalmaa", sum := "05bfeff36ce3a839c91633ec84eb47c352e56dba1c41de0c41d2231d3197a19c", func := "milestone/milestonelaw9.ProductMore", spec := "productMore", unfollowed := true, recurses := true, loops := true, apart := false }
def ProductMoreSaid : Prop := productMoreRow.holds Try.pinned (OpenSpec.ofChange productMoreSpec)

/-- ITS FALSE NEIGHBOUR: 'it returns false'. Refute it at one input. -/
def productMoreWrong : ChangeSpec := { name := "productMore", fn := fun _ => fun
  | [d1, d2, d3, d4, d5, d6, d7] => { results := [.lit (.bool false)], args := [d1, d2, d3, d4, d5, d6, d7] }
  | _ => none }
def ProductMoreWrongFalsely : Prop := productMoreRow.holds Try.pinned (OpenSpec.ofChange productMoreWrong)

/-- 'milestonelaw9.ProductKnown': WHATEVER THE INPUT: true; the input reads as it did. -/
def productKnownSpec : ChangeSpec := { name := "productKnown", fn := fun _ => fun
  | [d] => { results := [.lit (.bool true)], args := [d] }
  | _ => none }
def productKnownRow : OpenClaim := { program := "ytldnkafmanalmaa", sum := "05bfeff36ce3a839c91633ec84eb47c352e56dba1c41de0c41d2231d3197a19c", func := "milestone/milestonelaw9.ProductKnown", spec := "productKnown", unfollowed := true, recurses := true, apart := false }
def ProductKnownSaid : Prop := productKnownRow.holds Try.pinned (OpenSpec.ofChange productKnownSpec)

/-- ITS FALSE NEIGHBOUR: 'it returns false'. Refute it at one input. -/
def productKnownWrong : ChangeSpec := { name := "productKnown", fn := fun _ => fun
  | [d] => { results := [.lit (.bool false)], args := [d] }
  | _ => none }
def ProductKnownWrongFalsely : Prop := productKnownRow.holds Try.pinned (OpenSpec.ofChange productKnownWrong)

/-- 'milestonelaw9.ProductTriangle': WHATEVER THE INPUT: true; the input reads as it did. -/
def productTriangleSpec : ChangeSpec := { name := "productTriangle", fn := fun _ => fun
  | [d1, d2, d3, d4, d5, d6, d7] => { results := [.lit (.bool true)], args := [d1, d2, d3, d4, d5, d6, d7] }
  | _ => none }
def productTriangleRow : OpenClaim := { program := "ytldnkafmanalmaa", sum := "05bfeff36ce3a839c91633ec84eb47c352e56dba1c41de0c41d2231d3197a19c", func := "milestone/milestonelaw9.ProductTriangle", spec := "productTriangle", unfollowed := true, recurses := true, apart := false }
def ProductTriangleSaid : Prop := productTriangleRow.holds Try.pinned (OpenSpec.ofChange productTriangleSpec)

/-- ITS FALSE NEIGHBOUR: 'it returns false'. Refute it at one input. -/
def productTriangleWrong : ChangeSpec := { name := "productTriangle", fn := fun _ => fun
  | [d1, d2, d3, d4, d5, d6, d7] => { results := [.lit (.bool false)], args := [d1, d2, d3, d4, d5, d6, d7] }
  | _ => none }
def ProductTriangleWrongFalsely : Prop := productTriangleRow.holds Try.pinned (OpenSpec.ofChange productTriangleWrong)

/-- 'milestonelaw9.ProductSums': WHATEVER THE INPUT: true; the input reads as it did. -/
def productSumsSpec : ChangeSpec := { name := "productSums", fn := fun _ => fun
  | [d1, d2, d3, d4, d5] => { results := [.lit (.bool true)], args := [d1, d2, d3, d4, d5] }
  | _ => none }
def productSumsRow : OpenClaim := { program := "ytldnkafmanalmaa", sum := "05bfeff36ce3a839c91633ec84eb47c352e56dba1c41de0c41d2231d3197a19c", func := "milestone/milestonelaw9.ProductSums", spec := "productSums", unfollowed := true, recurses := true, loops := true, apart := false }
def ProductSumsSaid : Prop := productSumsRow.holds Try.pinned (OpenSpec.ofChange productSumsSpec)

/-- ITS FALSE NEIGHBOUR: 'it returns false'. Refute it at one input. -/
def productSumsWrong : ChangeSpec := { name := "productSums", fn := fun _ => fun
  | [d1, d2, d3, d4, d5] => { results := [.lit (.bool false)], args := [d1, d2, d3, d4, d5] }
  | _ => none }
def ProductSumsWrongFalsely : Prop := productSumsRow.holds Try.pinned (OpenSpec.ofChange productSumsWrong)

/-- 'milestonelaw9.ProductRoutes': WHATEVER THE INPUT: true; the input reads as it did. -/
def productRoutesSpec : ChangeSpec := { name := "productRoutes", fn := fun _ => fun
  | [d1, d2, d3, d4, d5] => { results := [.lit (.bool true)], args := [d1, d2, d3, d4, d5] }
  | _ => none }
def productRoutesRow : OpenClaim := { program := "ytldnkafmanalmaa", sum := "05bfeff36ce3a839c91633ec84eb47c352e56dba1c41de0c41d2231d3197a19c", func := "milestone/milestonelaw9.ProductRoutes", spec := "productRoutes", unfollowed := true, recurses := true, loops := true, apart := false }
def ProductRoutesSaid : Prop := productRoutesRow.holds Try.pinned (OpenSpec.ofChange productRoutesSpec)

/-- ITS FALSE NEIGHBOUR: 'it returns false'. Refute it at one input. -/
def productRoutesWrong : ChangeSpec := { name := "productRoutes", fn := fun _ => fun
  | [d1, d2, d3, d4, d5] => { results := [.lit (.bool false)], args := [d1, d2, d3, d4, d5] }
  | _ => none }
def ProductRoutesWrongFalsely : Prop := productRoutesRow.holds Try.pinned (OpenSpec.ofChange productRoutesWrong)

/-- 'milestonelaw13.QueryRaw': WHATEVER THE INPUT: true; the input reads as it did. -/
def queryRawSpec : ChangeSpec := { name := "queryRaw", fn := fun _ => fun
  | [d1, d2, d3, d4, d5, d6, d7, d8] => { results := [.lit (.bool true)], args := [d1, d2, d3, d4, d5, d6, d7, d8] }
  | _ => none }
def queryRawRow : OpenClaim := { program := "ytldnkafmanalmaa", sum := "05bfeff36ce3a839c91633ec84eb47c352e56dba1c41de0c41d2231d3197a19c", func := "milestone/milestonelaw13.QueryRaw", spec := "queryRaw", unfollowed := true, recurses := true, apart := false }
def QueryRawSaid : Prop := queryRawRow.holds Try.pinned (OpenSpec.ofChange queryRawSpec)

/-- ITS FALSE NEIGHBOUR: 'it returns false'. Refute it at one input. -/
def queryRawWrong : ChangeSpec := { name := "queryRaw", fn := fun _ => fun
  | [d1, d2, d3, d4, d5, d6, d7, d8] => { results := [.lit (.bool false)], args := [d1, d2, d3, d4, d5, d6, d7, d8] }
  | _ => none }
def QueryRawWrongFalsely : Prop := queryRawRow.holds Try.pinned (OpenSpec.ofChange queryRawWrong)

/-- 'milestonelaw13.QueryKnown': WHATEVER THE INPUT: true; the input reads as it did. -/
def queryKnownSpec : ChangeSpec := { name := "queryKnown", fn := fun _ => fun
  | [d] => { results := [.lit (.bool true)], args := [d] }
  | _ => none }
def queryKnownRow : OpenClaim := { program := "ytldnkafmanalmaa", sum := "05bfeff36ce3a839c91633ec84eb47c352e56dba1c41de0c41d2231d3197a19c", func := "milestone/milestonelaw13.QueryKnown", spec := "queryKnown", unfollowed := true, recurses := true, apart := false }
def QueryKnownSaid : Prop := queryKnownRow.holds Try.pinned (OpenSpec.ofChange queryKnownSpec)

/-- ITS FALSE NEIGHBOUR: 'it returns false'. Refute it at one input. -/
def queryKnownWrong : ChangeSpec := { name := "queryKnown", fn := fun _ => fun
  | [d] => { results := [.lit (.bool false)], args := [d] }
  | _ => none }
def QueryKnownWrongFalsely : Prop := queryKnownRow.holds Try.pinned (OpenSpec.ofChange queryKnownWrong)

/-- 'milestonelaw13.QueryLine': WHATEVER THE INPUT: true; the input reads as it did. -/
def queryLineSpec : ChangeSpec := { name := "queryLine", fn := fun _ => fun
  | [d1, d2, d3, d4, d5] => { results := [.lit (.bool true)], args := [d1, d2, d3, d4, d5] }
  | _ => none }
def queryLineRow : OpenClaim := { program := "ytldnkafmanalmaa", sum := "05bfeff36ce3a839c91633ec84eb47c352e56dba1c41de0c41d2231d3197a19c", func := "milestone/milestonelaw13.QueryLine", spec := "queryLine", unfollowed := true, recurses := true, apart := false }
def QueryLineSaid : Prop := queryLineRow.holds Try.pinned (OpenSpec.ofChange queryLineSpec)

/-- ITS FALSE NEIGHBOUR: 'it returns false'. Refute it at one input. -/
def queryLineWrong : ChangeSpec := { name := "queryLine", fn := fun _ => fun
  | [d1, d2, d3, d4, d5] => { results := [.lit (.bool false)], args := [d1, d2, d3, d4, d5] }
  | _ => none }
def QueryLineWrongFalsely : Prop := queryLineRow.holds Try.pinned (OpenSpec.ofChange queryLineWrong)

/-- 'milestonelaw13.QueryParts': WHATEVER THE INPUT: true; the input reads as it did. -/
def queryPartsSpec : ChangeSpec := { name := "queryParts", fn := fun _ => fun
  | [d1, d2, d3, d4, d5, d6, d7, d8] => { results := [.lit (.bool true)], args := [d1, d2, d3, d4, d5, d6, d7, d8] }
  | _ => none }
def queryPartsRow : OpenClaim := { program := "ytldnkafmanalmaa", sum := "05bfeff36ce3a839c91633ec84eb47c352e56dba1c41de0c41d2231d3197a19c", func := "milestone/milestonelaw13.QueryParts", spec := "queryParts", unfollowed := true, recurses := true, apart := false }
def QueryPartsSaid : Prop := queryPartsRow.holds Try.pinned (OpenSpec.ofChange queryPartsSpec)

/-- ITS FALSE NEIGHBOUR: 'it returns false'. Refute it at one input. -/
def queryPartsWrong : ChangeSpec := { name := "queryParts", fn := fun _ => fun
  | [d1, d2, d3, d4, d5, d6, d7, d8] => { results := [.lit (.bool false)], args := [d1, d2, d3, d4, d5, d6, d7, d8] }
  | _ => none }
def QueryPartsWrongFalsely : Prop := queryPartsRow.holds Try.pinned (OpenSpec.ofChange queryPartsWrong)

/-- 'milestonelaw13.QueryModes': WHATEVER THE INPUT: true; the input reads as it did. -/
def queryModesSpec : ChangeSpec := { name := "queryModes", fn := fun _ => fun
  | [d1, d2, d3, d4, d5] => { results := [.lit (.bool true)], args := [d1, d2, d3, d4, d5] }
  | _ => none }
def queryModesRow : OpenClaim := { program := "ytldnkafmanalmaa", sum := "05bfeff36ce3a839c91633ec84eb47c352e56dba1c41de0c41d2231d3197a19c", func := "milestone/milestonelaw13.QueryModes", spec := "queryModes", unfollowed := true, recurses := true, apart := false }
def QueryModesSaid : Prop := queryModesRow.holds Try.pinned (OpenSpec.ofChange queryModesSpec)

/-- ITS FALSE NEIGHBOUR: 'it returns false'. Refute it at one input. -/
def queryModesWrong : ChangeSpec := { name := "queryModes", fn := fun _ => fun
  | [d1, d2, d3, d4, d5] => { results := [.lit (.bool false)], args := [d1, d2, d3, d4, d5] }
  | _ => none }
def QueryModesWrongFalsely : Prop := queryModesRow.holds Try.pinned (OpenSpec.ofChange queryModesWrong)

/- THE SECOND FORM. 'bulk': how many values and letters a reading holds, each counted each time it is reached (what is shared counts as often as it is met; a slice's spare places count too). A statement '..UptoSaid' is the law's where the arguments, and the package variables that the reading takes, are together of bulk at most 1048576: NARROWER than '..Said'. Prove '..Said' where nothing that the law and all that it calls make is longer than what came in: it says more and counts as full. Else prove '..UptoSaid'. A law counts once. -/
mutual
def uptoBulk {H : Type} : DataW H → Nat
  | .lit (.string bytes) => bytes.length + 1
  | .lit _ => 1
  | .nil => 1
  | .ptr d => uptoBulk d + 1
  | .slice elems spare => uptoBulkAll elems + uptoBulkAll spare + 1
  | .agg parts => uptoBulkAll parts + 1
  | .iface _ d => uptoBulk d + 1
  | .map entries => uptoBulkEntries entries + 1
  | .held _ => 1
def uptoBulkAll {H : Type} : List (DataW H) → Nat
  | [] => 0
  | d :: r => uptoBulk d + uptoBulkAll r
def uptoBulkEntries {H : Type} : List (Lit × DataW H) → Nat
  | [] => 0
  | x :: r => uptoBulkEntry x + uptoBulkEntries r
def uptoBulkEntry {H : Type} : Lit × DataW H → Nat
  | (.string bytes, d) => bytes.length + uptoBulk d + 1
  | (_, d) => uptoBulk d + 1
 end
def uptoSmall : (H : Type) → List (DataW H) → Bool := fun _ ds => decide (uptoBulkAll ds ≤ 1048576)
def OpenSpec.upto (s : _root_.Go.ChangeSpec) : _root_.Go.OpenSpec := { _root_.Go.OpenSpec.ofChange s with cond := some uptoSmall }

/-- 'milestonelaw9.ProductCosts', WHERE WHAT IT READS IS OF BULK AT MOST 1048576: true; the input reads as it did. -/
def productCostsUptoRow : OpenClaim := { program := "ytldnkafmanalmaa", sum := "05bfeff36ce3a839c91633ec84eb47c352e56dba1c41de0c41d2231d3197a19c", func := "milestone/milestonelaw9.ProductCosts", spec := "productCosts", unfollowed := true, recurses := true, loops := true, apart := false, narrowed := true }
def ProductCostsUptoSaid : Prop := productCostsUptoRow.holds Try.pinned (OpenSpec.upto productCostsSpec)

/-- 'milestonelaw9.ProductWalks', WHERE WHAT IT READS IS OF BULK AT MOST 1048576: true; the input reads as it did. -/
def productWalksUptoRow : OpenClaim := { program := "ytldnkafmanalmaa", sum := "05bfeff36ce3a839c91633ec84eb47c352e56dba1c41de0c41d2231d3197a19c", func := "milestone/milestonelaw9.ProductWalks", spec := "productWalks", unfollowed := true, recurses := true, loops := true, apart := false, narrowed := true }
def ProductWalksUptoSaid : Prop := productWalksUptoRow.holds Try.pinned (OpenSpec.upto productWalksSpec)

/-- 'milestonelaw9.ProductMore', WHERE WHAT IT READS IS OF BULK AT MOST 1048576: true; the input reads as it did. -/
def productMoreUptoRow : OpenClaim := { program := "ytldnkafmanalmaa", sum := "05bfeff36ce3a839c91633ec84eb47c352e56dba1c41de0c41d2231d3197a19c", func := "milestone/milestonelaw9.ProductMore", spec := "productMore", unfollowed := true, recurses := true, loops := true, apart := false, narrowed := true }
def ProductMoreUptoSaid : Prop := productMoreUptoRow.holds Try.pinned (OpenSpec.upto productMoreSpec)

/-- 'milestonelaw9.ProductKnown', WHERE WHAT IT READS IS OF BULK AT MOST 1048576: true; the input reads as it did. -/
def productKnownUptoRow : OpenClaim := { program := "ytldnkafmanalmaa", sum := "05bfeff36ce3a839c91633ec84eb47c352e56dba1c41de0c41d2231d3197a19c", func := "milestone/milestonelaw9.ProductKnown", spec := "productKnown", unfollowed := true, recurses := true, apart := false, narrowed := true }
def ProductKnownUptoSaid : Prop := productKnownUptoRow.holds Try.pinned (OpenSpec.upto productKnownSpec)

/-- 'milestonelaw9.ProductTriangle', WHERE WHAT IT READS IS OF BULK AT MOST 1048576: true; the input reads as it did. -/
def productTriangleUptoRow : OpenClaim := { program := "ytldnkafmanalmaa", sum := "05bfeff36ce3a839c91633ec84eb47c352e56dba1c41de0c41d2231d3197a19c", func := "milestone/milestonelaw9.ProductTriangle", spec := "productTriangle", unfollowed := true, recurses := true, apart := false, narrowed := true }
def ProductTriangleUptoSaid : Prop := productTriangleUptoRow.holds Try.pinned (OpenSpec.upto productTriangleSpec)

/-- 'milestonelaw9.ProductSums', WHERE WHAT IT READS IS OF BULK AT MOST 1048576: true; the input reads as it did. -/
def productSumsUptoRow : OpenClaim := { program := "ytldnkafmanalmaa", sum := "05bfeff36ce3a839c91633ec84eb47c352e56dba1c41de0c41d2231d3197a19c", func := "milestone/milestonelaw9.ProductSums", spec := "productSums", unfollowed := true, recurses := true, loops := true, apart := false, narrowed := true }
def ProductSumsUptoSaid : Prop := productSumsUptoRow.holds Try.pinned (OpenSpec.upto productSumsSpec)

/-- 'milestonelaw9.ProductRoutes', WHERE WHAT IT READS IS OF BULK AT MOST 1048576: true; the input reads as it did. -/
def productRoutesUptoRow : OpenClaim := { program := "ytldnkafmanalmaa", sum := "05bfeff36ce3a839c91633ec84eb47c352e56dba1c41de0c41d2231d3197a19c", func := "milestone/milestonelaw9.ProductRoutes", spec := "productRoutes", unfollowed := true, recurses := true, loops := true, apart := false, narrowed := true }
def ProductRoutesUptoSaid : Prop := productRoutesUptoRow.holds Try.pinned (OpenSpec.upto productRoutesSpec)

/-- 'milestonelaw13.QueryRaw', WHERE WHAT IT READS IS OF BULK AT MOST 1048576: true; the input reads as it did. -/
def queryRawUptoRow : OpenClaim := { program := "ytldnkafmanalmaa", sum := "05bfeff36ce3a839c91633ec84eb47c352e56dba1c41de0c41d2231d3197a19c", func := "milestone/milestonelaw13.QueryRaw", spec := "queryRaw", unfollowed := true, recurses := true, apart := false, narrowed := true }
def QueryRawUptoSaid : Prop := queryRawUptoRow.holds Try.pinned (OpenSpec.upto queryRawSpec)

/-- 'milestonelaw13.QueryKnown', WHERE WHAT IT READS IS OF BULK AT MOST 1048576: true; the input reads as it did. -/
def queryKnownUptoRow : OpenClaim := { program := "ytldnkafmanalmaa", sum := "05bfeff36ce3a839c91633ec84eb47c352e56dba1c41de0c41d2231d3197a19c", func := "milestone/milestonelaw13.QueryKnown", spec := "queryKnown", unfollowed := true, recurses := true, apart := false, narrowed := true }
def QueryKnownUptoSaid : Prop := queryKnownUptoRow.holds Try.pinned (OpenSpec.upto queryKnownSpec)

/-- 'milestonelaw13.QueryLine', WHERE WHAT IT READS IS OF BULK AT MOST 1048576: true; the input reads as it did. -/
def queryLineUptoRow : OpenClaim := { program := "ytldnkafmanalmaa", sum := "05bfeff36ce3a839c91633ec84eb47c352e56dba1c41de0c41d2231d3197a19c", func := "milestone/milestonelaw13.QueryLine", spec := "queryLine", unfollowed := true, recurses := true, apart := false, narrowed := true }
def QueryLineUptoSaid : Prop := queryLineUptoRow.holds Try.pinned (OpenSpec.upto queryLineSpec)

/-- 'milestonelaw13.QueryParts', WHERE WHAT IT READS IS OF BULK AT MOST 1048576: true; the input reads as it did. -/
def queryPartsUptoRow : OpenClaim := { program := "ytldnkafmanalmaa", sum := "05bfeff36ce3a839c91633ec84eb47c352e56dba1c41de0c41d2231d3197a19c", func := "milestone/milestonelaw13.QueryParts", spec := "queryParts", unfollowed := true, recurses := true, apart := false, narrowed := true }
def QueryPartsUptoSaid : Prop := queryPartsUptoRow.holds Try.pinned (OpenSpec.upto queryPartsSpec)

/-- 'milestonelaw13.QueryModes', WHERE WHAT IT READS IS OF BULK AT MOST 1048576: true; the input reads as it did. -/
def queryModesUptoRow : OpenClaim := { program := "ytldnkafmanalmaa", sum := "05bfeff36ce3a839c91633ec84eb47c352e56dba1c41de0c41d2231d3197a19c", func := "milestone/milestonelaw13.QueryModes", spec := "queryModes", unfollowed := true, recurses := true, apart := false, narrowed := true }
def QueryModesUptoSaid : Prop := queryModesUptoRow.holds Try.pinned (OpenSpec.upto queryModesSpec)

end Rows
end Go.Proofs.Ytldnkafmanalmaa
