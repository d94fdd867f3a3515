/- A part of the proof (GmCore, GmComp, GmRel, GmMem, GmApp, GmApn): an abstract machine, what it does, and what the functions of the program come to on it. -/
import Derived.Tactics
import Derived.Maps.Keyed
import Derived.DeepKeys3
import Derived.Below
import Derived.Laws.AppendOwn
import Derived.Laws.CopyRow
import Derived.Laws.Rows
import Derived.Laws.CopyOwn
/- A deterministic abstract machine: functions are proved once over it, without orders of evaluation and without capacities. Definitions alone. -/
set_option linter.unusedVariables false
set_option linter.unusedSimpArgs false
namespace Go.Gm

/-- Abstract values: objects by number; slices with the generation of their object at which they were made (lim: the capacity, where it is known). -/
inductive AV where
  | undef
  | bool (b : Bool)
  | int (k : IntKind) (n : Int)
  | str (s : ByteArray)
  | nilp
  | ptr (o off hi g : Nat)
  | nils
  | sl (o off len sz : Nat) (lim : Option Nat) (g : Nat)
  | nilmap
  | map (o : Nat)
  | nilfn
  | fn (f : FuncId) (first captured : List AV)
  | nilifc
  | ifc (t : TypeId) (v : AV)
  | agg (cs : List AV)
  | tup (vs : List AV)
  deriving Inhabited

/-- A row of cells. gen: how often it has grown; wg: the growth at which it was last written in place (elder slices of it are dead); ro: it came in, nothing writes to it. -/
structure CObj where
  cells : List AV
  gen : Nat
  wg : Nat
  ro : Bool
  deriving Inhabited

/-- What a map's keys are: of one cell, or a row of such. -/
inductive KC where
  | i (q : IntKind) | s | b
  deriving DecidableEq, Inhabited
inductive KS where
  | one (c : KC)
  | row (cs : List KC)
  deriving DecidableEq, Inhabited
def fitC : KC → AV → Bool
  | .i q, .int k n => decide (k = q) && (decide (q.min ≤ n) && decide (n ≤ q.max))
  | .s, .str s => decide (s.size ≤ 140737488355328)
  | .b, .bool _ => true
  | _, _ => false
def fitL : List KC → List AV → Bool
  | [], [] => true
  | c :: cs, v :: vs => fitC c v && fitL cs vs
  | _, _ => false
def fitK : KS → AV → Bool
  | .one c, v => fitC c v
  | .row cs, .agg vs => fitL cs vs
  | _, _ => false

inductive AObj where
  | cells (c : CObj)
  | map (ks : KS) (es : List (AV × AV))
  deriving Inhabited

abbrev Heap := List AObj
abbrev Frm := List AV

inductive Opd where
  | tmp (t : Nat)
  | const (v : AV)
  deriving Inhabited

/-- What two values are that are held against each other by == or !=. -/
inductive EK where
  | scalar | bool | ptr | slice | map
  deriving DecidableEq, Inhabited

inductive MOp where
  | mv (x : Opd)
  | pick (c a b : Opd)
  | alloc (zero : List AV)
  | box (x : Opd)
  | build (zero : List AV) (parts : List (Nat × Nat × Opd))
  | buildSlice (sz len : Nat) (zero : List AV) (parts : List (Nat × Nat × Opd))
  | load (n : Option Nat) (a : Opd)
  | store (n : Nat) (a x : Opd)
  | nilCheck (x : Opd)
  | bin (op : BinOp) (ek : EK) (x y : Opd)
  | un (op : UnOp) (x : Opd)
  | convI (k : IntKind) (x : Opd)
  | b2s (x : Opd)
  | mkIfc (t : TypeId) (x : Opd)
  | mkFn (f : FuncId) (first captured : List Opd)
  | mkMap (ks : KS)
  | mkSlice (zero : List AV) (sz bytes : Nat) (len cap : Opd)
  | sliceStr (x : Opd) (lo hi : Option Opd)
  | sliceSl (sz : Nat) (x : Opd) (lo hi mx : Option Opd)
  | fieldAddr (off : Nat) (x : Opd)
  | field (off : Nat) (n : Option Nat) (x : Opd)
  | idxArr (n sz : Nat) (x i : Opd)
  | idxSl (sz : Nat) (x i : Opd)
  | ixArr (n sz : Nat) (m : Option Nat) (x i : Opd)
  | ixStr (x i : Opd)
  | lookup (ks : KS) (zero : AV) (ok : Bool) (x k : Opd)
  | mapUpd (ks : KS) (x k v : Opd)
  | typeAssert (t : TypeId) (zero : AV) (ok : Bool) (x : Opd)
  | extract (i : Nat) (x : Opd)
  | append (sz bytes : Nat) (s x : Opd)
  | lenSl (x : Opd)
  | lenStr (x : Opd)
  | mm (max : Bool) (x y : Opd)
  deriving Inhabited

inductive MAny where
  | op (m : MOp)
  | call (f : FuncId) (args : List Opd)
  | callV (f : Opd) (args : List Opd)
  | invoke (name : String) (x : Opd) (args : List Opd)
  deriving Inhabited

def Opd.slot? : Opd → Option Nat
  | .tmp t => some t
  | .const _ => none
def MOp.opds : MOp → List Opd
  | .mv x | .box x | .load _ x | .nilCheck x | .un _ x | .convI _ x | .b2s x | .mkIfc _ x | .fieldAddr _ x | .field _ _ x | .typeAssert _ _ _ x | .extract _ x | .lenSl x | .lenStr x => [x]
  | .pick c a b => [c, a, b]
  | .alloc _ | .mkMap _ => []
  | .build _ ps | .buildSlice _ _ _ ps => ps.map (·.2.2)
  | .store _ a x | .bin _ _ a x | .idxArr _ _ a x | .idxSl _ a x | .ixArr _ _ _ a x | .ixStr a x | .append _ _ a x | .mm _ a x | .mkSlice _ _ _ a x | .lookup _ _ _ a x => [a, x]
  | .mkFn _ a b => a ++ b
  | .sliceStr x lo hi => x :: (lo.toList ++ hi.toList)
  | .sliceSl _ x lo hi mx => x :: (lo.toList ++ hi.toList ++ mx.toList)
  | .mapUpd _ x k v => [x, k, v]

structure MOper where
  dst : Option Nat
  op : MAny
  guard : Option (Nat × Bool)
  deriving Inhabited

/-- An operation of a region of open order: its number; its value goes into a slot of its own; which reads are done again behind it (with their slots). -/
structure DItem where
  i : Nat
  op : MOper
  ag : List (Nat × MOper)
  deriving Inhabited

inductive MCode where
  | skip
  | region (ops : List MOper)
  | regionD (N : Nat) (items : List DItem) (outs : List (Nat × Nat))
  | seq (fgt : List Nat) (a b : MCode)
  | cond (c : Opd) (a b : MCode)
  | block (id : Nat) (c : MCode)
  | loop (fgt : List Nat) (c : MCode)
  | exit (id : Nat)
  | ret
  | bad
  | lab (c : MCode)
  deriving Inhabited

structure MFn where
  ntmps : Nat
  results : List (Nat × Option (Option Nat))   -- a slot; or the address in a slot (of one cell, or of an aggregate's)
  body : MCode
  deriving Inhabited

/-! ### Operations -/
def AV.cells : AV → List AV
  | .agg cs => cs
  | v => [v]
def AV.one : AV → Bool
  | .agg _ | .tup _ | .undef => false
  | _ => true
def Opd.ev (fr : Frm) : Opd → AV
  | .tmp t => fr.getD t .undef
  | .const v => v

def opt {α : Type} (c : Prop) [Decidable c] (x : Option α) : Option α := if c then x else none

/-- One cell read. -/
def ld1 (h : Heap) : AV → Option AV
  | .ptr o off hi g => match h[o]? with
    | some (.cells c) => if c.wg ≤ g ∧ off < hi then c.cells[off]? else none
    | _ => none
  | _ => none
def rdc (h : Heap) (o off n g : Nat) : Option (List AV) :=
  match h[o]? with
  | some (.cells c) => if c.wg ≤ g then some ((c.cells.drop off).take n) else none
  | _ => none
/-- An aggregate of n cells read. -/
def ldN (n : Nat) (h : Heap) : AV → Option AV
  | .ptr o off hi g => if off + n ≤ hi then (rdc h o off n g).map .agg else none
  | _ => none
def setAll (cs : List AV) (off : Nat) : List AV → List AV
  | [] => cs
  | v :: vs => setAll (cs.set off v) (off + 1) vs
/-- Cells written. -/
def wrc (h : Heap) (o off hi g : Nat) (vs : List AV) : Option Heap :=
  match h[o]? with
  | some (.cells c) => if c.ro = false ∧ c.gen = g ∧ off + vs.length ≤ hi ∧ vs.all AV.one = true then some (h.set o (.cells { c with cells := setAll c.cells off vs, wg := g })) else none
  | _ => none
def stN (n : Nat) (h : Heap) (a v : AV) : Option Heap :=
  match a with
  | .ptr o off hi g => if v.cells.length = n then wrc h o off hi g v.cells else none
  | _ => none
/-- A new row of cells. -/
def mkObj (h : Heap) (cells : List AV) : Heap := h ++ [.cells { cells := cells, gen := 0, wg := 0, ro := false }]
def newVar (h : Heap) (cells : List AV) : Option (AV × Heap) :=
  if cells.all AV.one = true then some (.ptr h.length 0 cells.length 0, mkObj h cells) else none
def fillP (cells : List AV) : List (Nat × Nat × AV) → Option (List AV)
  | [] => some cells
  | (off, size, v) :: rest => if v.cells.length = size ∧ off + size ≤ cells.length ∧ v.cells.all AV.one = true then fillP (setAll cells off v.cells) rest else none
def buildV (zero : List AV) (parts : List (Nat × Nat × AV)) : Option AV := (fillP zero parts).map .agg
def buildSl (sz len : Nat) (zero : List AV) (parts : List (Nat × Nat × AV)) (h : Heap) : Option (AV × Heap) :=
  match fillP zero parts with
  | some cs => if cs.all AV.one = true ∧ cs.length = len * sz then some (.sl h.length 0 len sz none 0, mkObj h cs) else none
  | none => none
def nilCk : AV → Option AV
  | .ptr o off hi g => some (.ptr o off hi g)
  | .fn f a b => some (.fn f a b)
  | .ifc t v => some (.ifc t v)
  | _ => none
def bitsI (op : BinOp) (k : IntKind) (x y : Int) : Int :=
  let a := BitVec.ofInt k.bits x
  let b := BitVec.ofInt k.bits y
  k.wrap (match op with | .and => a &&& b | .or => a ||| b | .xor => a ^^^ b | _ => a &&& ~~~b).toNat
def shiftI (op : BinOp) (k : IntKind) (x y : Int) : Option AV :=
  if y < 0 then none else
    match op with
    | .shl => some (.int k (k.wrap (x * 2 ^ min y.toNat k.bits)))
    | .shr => some (.int k (x.fdiv (2 ^ min y.toNat k.bits)))
    | _ => none
def intI (op : BinOp) (k : IntKind) (x y : Int) : Option AV :=
  match op with
  | .add => some (.int k (k.wrap (x + y)))
  | .sub => some (.int k (k.wrap (x - y)))
  | .mul => some (.int k (k.wrap (x * y)))
  | .quo => if y = 0 then none else some (.int k (k.wrap (x.tdiv y)))
  | .rem => if y = 0 then none else some (.int k (x.tmod y))
  | .and | .or | .xor | .andNot => some (.int k (bitsI op k x y))
  | .eql => some (.bool (x == y))
  | .neq => some (.bool (x != y))
  | .lss => some (.bool (decide (x < y)))
  | .leq => some (.bool (decide (x ≤ y)))
  | .gtr => some (.bool (decide (x > y)))
  | .geq => some (.bool (decide (x ≥ y)))
  | .shl | .shr => none
def strS (op : BinOp) (x y : ByteArray) : Option AV :=
  match op with
  | .add => if x.size + y.size ≤ 140737488355328 then some (.str (x ++ y)) else none
  | .eql => some (.bool (x.toList == y.toList))
  | .neq => some (.bool (!(x.toList == y.toList)))
  | _ => none
def eqOp (op : BinOp) (b : Bool) : Option AV :=
  match op with
  | .eql => some (.bool b)
  | .neq => some (.bool (!b))
  | _ => none
def binV (op : BinOp) (ek : EK) (x y : AV) : Option AV :=
  match x, y with
  | .int k a, .int k' b => match op with
    | .shl | .shr => shiftI op k a b
    | _ => if k = k' then intI op k a b else none
  | .str a, .str b => strS op a b
  | .bool a, .bool b => if ek = .bool then eqOp op (a == b) else none
  | .nilp, .nilp => if ek = .ptr then eqOp op true else none
  | .ptr .., .nilp | .nilp, .ptr .. => if ek = .ptr then eqOp op false else none
  | .nils, .nils => if ek = .slice then eqOp op true else none
  | .sl .., .nils | .nils, .sl .. => if ek = .slice then eqOp op false else none
  | .nilmap, .nilmap => if ek = .map then eqOp op true else none
  | .map _, .nilmap | .nilmap, .map _ => if ek = .map then eqOp op false else none
  | _, _ => none
def unV (op : UnOp) (x : AV) : Option AV :=
  match op, x with
  | .neg, .int k n => some (.int k (k.wrap (0 - n)))
  | .not, .bool b => some (.bool (!b))
  | _, _ => none
def convV (k : IntKind) : AV → Option AV
  | .int _ n => some (.int k (k.wrap n))
  | _ => none
def i64? : AV → Option Int
  | .int _ n => some n
  | _ => none
def bool? : AV → Option Bool
  | .bool b => some b
  | _ => none
/-- make([]T, len, cap). -/
def mkSl (zero : List AV) (sz bytes : Nat) (len cap : AV) (h : Heap) : Option (AV × Heap) :=
  match len, cap with
  | .int .i64 l, .int .i64 c => if 0 ≤ l ∧ l ≤ c ∧ c * bytes ≤ 140737488355328 ∧ c ≤ 140737488355328 ∧ zero.length = sz ∧ zero.all AV.one = true then
      some (.sl h.length 0 l.toNat sz none 0, mkObj h ((List.replicate l.toNat zero).flatten)) else none
  | _, _ => none
def bnd (d : Nat) : Option AV → Option Nat
  | none => some d
  | some (.int _ n) => if 0 ≤ n then some n.toNat else none
  | some _ => none
def slSl (sz : Nat) (x : AV) (lo hi mx : Option AV) : Option AV :=
  match x with
  | .sl o off len sz' lim g =>
    match bnd 0 lo, bnd len hi with
    | some l, some h =>
      if l ≤ h ∧ h ≤ len ∧ sz' = sz then
        match mx with
        | none => some (.sl o (off + l * sz) (h - l) sz (lim.map (· - l)) g)
        | some m => match bnd 0 (some m) with
          | some m => if h ≤ m ∧ m ≤ len then some (.sl o (off + l * sz) (h - l) sz (some (m - l)) g) else none
          | none => none
      else none
    | _, _ => none
  | .nils =>
    match bnd 0 lo, bnd 0 hi, bnd 0 mx with
    | some 0, some 0, some 0 => some .nils
    | _, _, _ => none
  | _ => none
def slStr (x : AV) (lo hi : Option AV) : Option AV :=
  match x with
  | .str s => match bnd 0 lo, bnd s.size hi with
    | some l, some h => if l ≤ h ∧ h ≤ s.size then some (.str (s.extract l h)) else none
    | _, _ => none
  | _ => none
def fldA (d : Nat) : AV → Option AV
  | .ptr o off hi g => some (.ptr o (off + d) hi g)
  | _ => none
def partL (cs : List AV) (off : Nat) : Option Nat → Option AV
  | none => cs[off]?
  | some n => some (.agg ((cs.drop off).take n))
def fldV (off : Nat) (n : Option Nat) : AV → Option AV
  | .agg cs => partL cs off n
  | _ => none
def idxA (n sz : Nat) (x i : AV) : Option AV :=
  match x, i with
  | .ptr o off hi g, .int _ i => if 0 ≤ i ∧ i < n ∧ off + n * sz ≤ hi then some (.ptr o (off + i.toNat * sz) (off + i.toNat * sz + sz) g) else none
  | _, _ => none
def idxS (sz : Nat) (x i : AV) : Option AV :=
  match x, i with
  | .sl o off len sz' _ g, .int _ i => if 0 ≤ i ∧ i < len ∧ sz' = sz then some (.ptr o (off + i.toNat * sz) (off + i.toNat * sz + sz) g) else none
  | _, _ => none
def ixA (n sz : Nat) (m : Option Nat) (x i : AV) : Option AV :=
  match x, i with
  | .agg cs, .int _ i => if 0 ≤ i ∧ i < n then partL cs (i.toNat * sz) m else none
  | _, _ => none
def ixS (x i : AV) : Option AV :=
  match x, i with
  | .str s, .int _ i => if 0 ≤ i then (s[i.toNat]?).map fun b => .int .u8 b.toNat else none
  | _, _ => none
def lenS : AV → Option AV
  | .sl _ _ len _ _ _ => some (.int .i64 len)
  | .nils => some (.int .i64 0)
  | _ => none
def lenB : AV → Option AV
  | .str s => some (.int .i64 s.size)
  | _ => none
def mmV (max : Bool) (x y : AV) : Option AV :=
  match x, y with
  | .int k a, .int _ b => some (.int k (if max then (if b > a then b else a) else (if b < a then b else a)))
  | _, _ => none
def tAssert (t : TypeId) (zero : AV) (ok : Bool) : AV → Option AV
  | .ifc u v => if u = t then some (if ok then .tup [v, .bool true] else v) else if ok then some (.tup [zero, .bool false]) else none
  | _ => none
def extr (i : Nat) : AV → Option AV
  | .tup vs => vs[i]?
  | _ => none
/-- The cells that an append lays behind: how many elements, which. -/
def news (sz : Nat) (x : AV) (h : Heap) : Option (Nat × List AV) :=
  match x with
  | .nils => some (0, [])
  | .sl o off len sz' _ g => if sz' = sz then (rdc h o off (len * sz) g).map fun cs => (len, cs) else none
  | _ => none
def apnd (sz bytes : Nat) (s x : AV) (h : Heap) : Option (AV × Heap) :=
  match news sz x h with
  | none => none
  | some (m, ns) =>
    match s with
    | .nils => if m = 0 then some (.nils, h) else if m * bytes ≤ 140737488355328 ∧ ns.length = m * sz ∧ 0 < sz ∧ 0 < bytes then some (.sl h.length 0 m sz none 0, mkObj h ns) else none
    | .sl o off len sz' lim g =>
      if m = 0 then some (.sl o off len sz' lim g, h)
      else if ¬ (sz' = sz ∧ (len + m) * bytes ≤ 140737488355328 ∧ ns.length = m * sz ∧ 0 < sz ∧ 0 < bytes) then none else
        match lim with
        | some c => if len + m ≤ c then none else (rdc h o off (len * sz) g).map fun old => (.sl h.length 0 (len + m) sz none 0, mkObj h (old ++ ns))
        | none => match h[o]? with
          | some (.cells c) =>
            if c.ro = false ∧ c.gen = g ∧ off = 0 then
              some (.sl o 0 (len + m) sz none (g + 1), h.set o (.cells { c with cells := c.cells.take (len * sz) ++ ns, gen := g + 1, wg := if len * sz = c.cells.length then c.wg else g + 1 }))
            else none
          | _ => none
    | _ => none
mutual
def AV.beq : AV → AV → Bool
  | .undef, .undef => true
  | .bool a, .bool b => a == b
  | .int k a, .int l b => decide (k = l) && a == b
  | .str a, .str b => decide (a = b)
  | .nilp, .nilp => true
  | .ptr a b c d, .ptr e f g h => a == e && b == f && c == g && d == h
  | .nils, .nils => true
  | .sl a b c d e f, .sl a' b' c' d' e' f' => a == a' && b == b' && c == c' && d == d' && decide (e = e') && f == f'
  | .nilmap, .nilmap => true
  | .map a, .map b => a == b
  | .nilfn, .nilfn => true
  | .fn f a b, .fn g c d => f == g && AV.beqs a c && AV.beqs b d
  | .nilifc, .nilifc => true
  | .ifc t v, .ifc u w => t == u && AV.beq v w
  | .agg a, .agg b => AV.beqs a b
  | .tup a, .tup b => AV.beqs a b
  | _, _ => false
def AV.beqs : List AV → List AV → Bool
  | [], [] => true
  | a :: r, b :: s => AV.beq a b && AV.beqs r s
  | _, _ => false
end
/-- A map's entry, by its key. -/
def findV (k : AV) : List (AV × AV) → Option AV
  | [] => none
  | (k', v) :: r => if AV.beq k k' then some v else findV k r
def putE (k v : AV) : List (AV × AV) → List (AV × AV)
  | [] => [(k, v)]
  | (k', v') :: r => if AV.beq k k' then (k, v) :: r else (k', v') :: putE k v r
def told (ok : Bool) (zero : AV) : Option AV → AV
  | some v => if ok then .tup [v, .bool true] else v
  | none => if ok then .tup [zero, .bool false] else zero
def lookM (ks : KS) (zero : AV) (ok : Bool) (h : Heap) (x k : AV) : Option AV :=
  if fitK ks k = true then
    match x with
    | .nilmap => some (told ok zero none)
    | .map o => match h[o]? with
      | some (.map ks' es) => if ks' = ks then some (told ok zero (findV k es)) else none
      | _ => none
    | _ => none
  else none
def updM (ks : KS) (h : Heap) (x k v : AV) : Option Heap :=
  if fitK ks k = true then
    match x with
    | .map o => match h[o]? with
      | some (.map ks' es) => if ks' = ks then some (h.set o (.map ks (putE k v es))) else none
      | _ => none
    | _ => none
  else none
def b2sL : List AV → Option (List UInt8)
  | [] => some []
  | .int .u8 n :: r => (b2sL r).map fun l => UInt8.ofNat n.toNat :: l
  | _ :: _ => none
def b2sV (h : Heap) : AV → Option AV
  | .nils => some (.str ByteArray.empty)
  | .sl o off len 1 _ g => ((rdc h o off len g).bind b2sL).map fun l => .str ⟨l.toArray⟩
  | _ => none

def pure1 (h : Heap) (v : Option AV) : Option (AV × Heap) := v.map fun v => (v, h)

/-- An operation that calls no function: its value (of one that has none: anything), the heap behind it. -/
def evalM (op : MOp) (fr : Frm) (h : Heap) : Option (AV × Heap) :=
  match op with
  | .mv x => some (x.ev fr, h)
  | .pick c a b => pure1 h ((bool? (c.ev fr)).map fun t => if t then a.ev fr else b.ev fr)
  | .alloc z => newVar h z
  | .box x => newVar h (x.ev fr).cells
  | .build z ps => pure1 h (buildV z (ps.map fun (o, s, x) => (o, s, x.ev fr)))
  | .buildSlice sz len z ps => buildSl sz len z (ps.map fun (o, s, x) => (o, s, x.ev fr)) h
  | .load none a => pure1 h (ld1 h (a.ev fr))
  | .load (some n) a => pure1 h (ldN n h (a.ev fr))
  | .store n a x => (stN n h (a.ev fr) (x.ev fr)).map fun h' => (.undef, h')
  | .nilCheck x => pure1 h (nilCk (x.ev fr))
  | .bin op ek x y => pure1 h (binV op ek (x.ev fr) (y.ev fr))
  | .un op x => pure1 h (unV op (x.ev fr))
  | .convI k x => pure1 h (convV k (x.ev fr))
  | .b2s x => pure1 h (b2sV h (x.ev fr))
  | .mkIfc t x => some (.ifc t (x.ev fr), h)
  | .mkFn f a b => some (.fn f (a.map (·.ev fr)) (b.map (·.ev fr)), h)
  | .mkMap ks => some (.map h.length, h ++ [.map ks []])
  | .mkSlice z sz by_ l c => mkSl z sz by_ (l.ev fr) (c.ev fr) h
  | .sliceStr x lo hi => pure1 h (slStr (x.ev fr) (lo.map (·.ev fr)) (hi.map (·.ev fr)))
  | .sliceSl sz x lo hi mx => pure1 h (slSl sz (x.ev fr) (lo.map (·.ev fr)) (hi.map (·.ev fr)) (mx.map (·.ev fr)))
  | .fieldAddr d x => pure1 h (fldA d (x.ev fr))
  | .field d n x => pure1 h (fldV d n (x.ev fr))
  | .idxArr n sz x i => pure1 h (idxA n sz (x.ev fr) (i.ev fr))
  | .idxSl sz x i => pure1 h (idxS sz (x.ev fr) (i.ev fr))
  | .ixArr n sz m x i => pure1 h (ixA n sz m (x.ev fr) (i.ev fr))
  | .ixStr x i => pure1 h (ixS (x.ev fr) (i.ev fr))
  | .typeAssert t z ok x => pure1 h (tAssert t z ok (x.ev fr))
  | .extract i x => pure1 h (extr i (x.ev fr))
  | .append sz by_ s x => apnd sz by_ (s.ev fr) (x.ev fr) h
  | .lenSl x => pure1 h (lenS (x.ev fr))
  | .lenStr x => pure1 h (lenB (x.ev fr))
  | .mm mx x y => pure1 h (mmV mx (x.ev fr) (y.ev fr))
  | .lookup ks z ok x k => pure1 h (lookM ks z ok h (x.ev fr) (k.ev fr))
  | .mapUpd ks x k v => (updM ks h (x.ev fr) (k.ev fr) (v.ev fr)).map fun h' => (.undef, h')

/-- The program: its functions, its methods (with the receiver as it stands). -/
structure Tab where
  fn : FuncId → Option MFn
  meth : TypeId → String → Option FuncId

abbrev CallF := FuncId → List AV → Heap → Option (AV × Heap)

/-- Any operation. -/
def evalO (T : Tab) (call : CallF) (op : MAny) (fr : Frm) (h : Heap) : Option (AV × Heap) :=
  match op with
  | .call f xs => call f (xs.map (·.ev fr)) h
  | .callV x xs => match x.ev fr with
    | .fn f a b => call f (a ++ xs.map (·.ev fr) ++ b) h
    | _ => none
  | .invoke nm x xs => match x.ev fr with
    | .ifc t (.ptr o off hi g) => match T.meth t nm with
      | some f => call f (.ptr o off hi g :: xs.map (·.ev fr)) h
      | none => none
    | _ => none
  | .op m => evalM m fr h

def put (fr : Frm) (d : Option Nat) (v : AV) : Frm :=
  match d with
  | some d => fr.set d v
  | none => fr
/-- Is a guarded operation carried out? -/
def want (fr : Frm) : Option (Nat × Bool) → Option Bool
  | none => some true
  | some (d, b) => match fr.getD d .undef with
    | .bool c => some (c == b)
    | .tup [] => some false
    | _ => none
def evalR (T : Tab) (call : CallF) : List MOper → Frm → Heap → Option (Frm × Heap)
  | [], fr, h => some (fr, h)
  | o :: r, fr, h => (want fr o.guard).bind fun w =>
    if w then (evalO T call o.op fr h).bind fun (v, h') => evalR T call r (put fr o.dst v) h'
    else evalR T call r (put fr o.dst (.tup [])) h


def readM : MOp → Bool
  | .load .. | .lookup .. | .b2s .. => true
  | _ => false
def allocM : MOp → Bool
  | .alloc _ | .box _ | .buildSlice .. | .mkSlice .. => true
  | _ => false
def effM : MOp → Bool
  | .append .. | .store .. | .mapUpd .. | .mkMap _ => true
  | _ => false
def isEff : MAny → Bool
  | .op m => effM m
  | _ => true
def isRead : MAny → Bool
  | .op m => readM m
  | _ => false
def againB (fr : Frm) (h : Heap) (p : Nat × MOper) : Bool :=
  match want fr p.2.guard with
  | some false => true
  | some true => match p.2.op with
    | .op m => match evalM m fr h with
      | some u => u.1.beq (fr.getD p.1 .undef)
      | none => false
    | _ => false
  | none => false
def evalD (T : Tab) (call : CallF) : List DItem → Frm → Heap → Option (Frm × Heap)
  | [], fr, h => some (fr, h)
  | it :: r, fr, h => (want fr it.op.guard).bind fun w =>
    if w then (evalO T call it.op.op fr h).bind fun (v, h') =>
      if it.ag.all (againB (put fr it.op.dst v) h') then evalD T call r (put fr it.op.dst v) h' else none
    else evalD T call r (put fr it.op.dst (.tup [])) h
def outFr (fr frE : Frm) : List (Nat × Nat) → Frm
  | [] => fr
  | (d, s) :: r => outFr (fr.set d (frE.getD s .undef)) frE r

def forget (fr : Frm) : List Nat → Frm
  | [] => fr
  | t :: r => forget (fr.set t .undef) r

inductive MExit where
  | normal | exit (id : Nat) | ret
  deriving DecidableEq

abbrev Kont (R : Type) := MExit → Frm → Heap → Option R

def loopN {R : Type} (B : Frm → Heap → Kont R → Option R) (fgt : List Nat) : Nat → Frm → Heap → Kont R → Option R
  | 0, _, _, _ => none
  | k + 1, fr, h, K => B fr h fun e fr' h' => match e with
    | .normal => loopN B fgt k (forget fr' fgt) h' K
    | e => K e fr' h'

def evalC {R : Type} (T : Tab) (call : CallF) (k : Nat) : MCode → Frm → Heap → Kont R → Option R
  | .skip, fr, h, K => K .normal fr h
  | .region ops, fr, h, K => (evalR T call ops fr h).bind fun (fr', h') => K .normal fr' h'
  | .regionD N items outs, fr, h, K => if fr.length = N then (evalD T call items (fr ++ List.replicate items.length .undef) h).bind fun (frE, h') => K .normal (outFr fr frE outs) h' else none
  | .seq fgt a b, fr, h, K => evalC T call k a fr h fun e fr' h' => match e with
    | .normal => evalC T call k b (forget fr' fgt) h' K
    | e => K e fr' h'
  | .cond c a b, fr, h, K => match c.ev fr with
    | .bool true => evalC T call k a fr h K
    | .bool false => evalC T call k b fr h K
    | _ => none
  | .block id c, fr, h, K => evalC T call k c fr h fun e fr' h' => K (if e = .exit id then .normal else e) fr' h'
  | .loop fgt c, fr, h, K => loopN (fun fr h K => evalC T call k c fr h K) fgt k (forget fr fgt) h K
  | .exit id, fr, h, K => K (.exit id) fr h
  | .ret, fr, h, K => K .ret fr h
  | .bad, _, _, _ => none
  | .lab c, fr, h, K => evalC T call k c fr h K

def result (fr : Frm) (h : Heap) : Nat × Option (Option Nat) → Option AV
  | (t, none) => some (fr.getD t .undef)
  | (t, some none) => ld1 h (fr.getD t .undef)
  | (t, some (some n)) => ldN n h (fr.getD t .undef)
def resultsL (fr : Frm) (h : Heap) : List (Nat × Option (Option Nat)) → Option (List AV)
  | [] => some []
  | r :: rs => (result fr h r).bind fun v => (resultsL fr h rs).map fun vs => v :: vs
def resultsV (fr : Frm) (h : Heap) (rs : List (Nat × Option (Option Nat))) : Option AV :=
  (resultsL fr h rs).map fun vs => match vs with | [v] => v | vs => .tup vs
def kend (fn : MFn) : Kont (AV × Heap) := fun e fr h => match e with
  | .exit _ => none
  | _ => (resultsV fr h fn.results).map fun v => (v, h)
def evalFn (T : Tab) : Nat → CallF
  | 0, _, _, _ => none
  | k + 1, f, args, h => match T.fn f with
    | some fn => evalC T (evalFn T k) k fn.body (args ++ List.replicate (fn.ntmps - args.length) .undef) h (kend fn)
    | none => none

end Go.Gm

set_option linter.unusedVariables false
namespace Go.Gm
/- From the loaded program to the abstract machine's: all types are looked up here. -/

/-- A constant of one cell. -/
def ofVal1 : Value → Option AV
  | .bool b => some (.bool b)
  | .int k n => some (.int k n)
  | .string s => some (.str s)
  | .pointer none => some .nilp
  | .slice none 0 0 => some .nils
  | .map none => some .nilmap
  | .nilFunc => some .nilfn
  | .nilIface => some .nilifc
  | _ => none
def ofVals : List Value → Option (List AV)
  | [] => some []
  | v :: r => (ofVal1 v).bind fun x => (ofVals r).map fun xs => x :: xs
def ofVal : Value → Option AV
  | .agg cs => (ofVals cs.toList).map .agg
  | v => ofVal1 v
def compOpd : Operand → Option Opd
  | .tmp t => some (.tmp t)
  | .const v => (ofVal v).map .const
  | .func f => some (.const (.fn f [] []))
  | .global _ => none
def compOpds (cmp : Operand → Option Opd) : List Operand → Option (List Opd)
  | [] => some []
  | x :: r => (cmp x).bind fun y => (compOpds cmp r).map fun ys => y :: ys
def compOpdO (cmp : Operand → Option Opd) : Option Operand → Option (Option Opd)
  | none => some none
  | some x => (cmp x).map some
def szOf (P : Program) (t : TypeId) : Option Nat := (P.info? t).map (·.size)
def zeroOf (P : Program) (t : TypeId) : Option AV := ((P.info? t).bind (·.zero)).bind ofVal
/-- Aggregates' sizes; none: one cell. -/
def aggOf (P : Program) (t : TypeId) : Option (Option Nat) :=
  match P.underlying t with
  | some (.struct _) | some (.array _ _) => (szOf P t).map some
  | some _ => some none
  | none => none
def sliceElem (P : Program) (t : TypeId) : Option TypeId :=
  match P.underlying t with
  | some (.slice e) => some e
  | _ => none
def eqKind (P : Program) (t : TypeId) : Option EK :=
  match P.underlying t with
  | some (.pointer _) => some .ptr
  | some (.slice _) => some .slice
  | some (.map _ _) => some .map
  | some .bool => some .bool
  | some (.int _) => some .scalar
  | some .string => some .scalar
  | _ => none
/-- The parts of a struct: where each goes, its size. -/
def placesOf (P : Program) (fs : List Field) : Option (List (Nat × Nat)) := fs.mapM (fun f => (P.info? f.type).map fun i => (f.offset, i.size))
def compPartL (cmp : Operand → Option Opd) (pl : List (Nat × Nat)) (p : Nat × Operand) : Option (Nat × Nat × Opd) := (cmp p.2).bind fun x => (pl[p.1]?).map fun q => (q.1, q.2, x)
def compPartsL (cmp : Operand → Option Opd) (pl : List (Nat × Nat)) : List (Nat × Operand) → Option (List (Nat × Nat × Opd))
  | [] => some []
  | p :: r => (compPartL cmp pl p).bind fun x => (compPartsL cmp pl r).map fun xs => x :: xs
def compPartS (cmp : Operand → Option Opd) (s : Nat) (p : Nat × Operand) : Option (Nat × Nat × Opd) := (cmp p.2).map fun x => (p.1 * s, s, x)
def compPartsS (cmp : Operand → Option Opd) (s : Nat) : List (Nat × Operand) → Option (List (Nat × Nat × Opd))
  | [] => some []
  | p :: r => (compPartS cmp s p).bind fun x => (compPartsS cmp s r).map fun xs => x :: xs
/-- What a slice's elements are: size, bytes, the zero's cells. -/
def elemOf? (P : Program) (e : TypeId) : Option (Nat × Nat × List AV) :=
  (P.info? e).bind fun i => i.zero.bind fun z => (ofVal z).bind fun x => if z.cells.size = i.size ∧ x.cells.length = i.size then some (i.size, i.bytes, x.cells) else none

def keyC (P : Program) (t : TypeId) : Option KC :=
  match P.underlying t with
  | some (.int q) => some (.i q)
  | some .string => some .s
  | some .bool => some .b
  | _ => none
/-- The fields of a struct that is a key: a cell each. -/
def keyFs (P : Program) (i : Nat) : List Field → Option (List KC)
  | [] => some []
  | f :: r => (keyC P f.type).bind fun c => if f.offset = i ∧ P.cellsOf f.type = 1 ∧ (f.name != "_") = true then (keyFs P (i + 1) r).map fun cs => c :: cs else none
def keyWide (P : Program) (t : TypeId) : Bool := decide (1 ≤ P.types.size ∧ P.types.size + 2 ≤ 10000) && P.keyTypeAt (P.types.size + 1) t && P.tiled (P.types.size + 1) t
def keyShape (P : Program) (t : TypeId) : Option KS :=
  match P.underlying t with
  | some (.array n e) => if keyWide P t = true ∧ P.cellsOf t = n ∧ P.cellsOf e = 1 then (keyC P e).map fun c => .row (List.replicate n c) else none
  | some (.struct fs) => if keyWide P t = true ∧ P.cellsOf t = fs.size then (keyFs P 0 fs.toList).map .row else none
  | _ => (keyC P t).map .one

def compBuiltin (P : Program) (cmp : Operand → Option Opd) (b : Builtin) (args : List Operand) (ts : List TypeId) : Option MOp :=
  match b, args, ts with
  | .len, [x], [t] => (cmp x).bind fun x => match P.underlying t with
    | some (.slice _) => some (.lenSl x)
    | some .string => some (.lenStr x)
    | _ => none
  | .append, [s, x], [t, u] => if t = u then (sliceElem P t).bind fun e => (elemOf? P e).bind fun (sz, by_, _) => (cmp s).bind fun s => (cmp x).map fun x => .append sz by_ s x else none
  | .max, [x, y], _ => (cmp x).bind fun x => (cmp y).map fun y => .mm true x y
  | .min, [x, y], _ => (cmp x).bind fun x => (cmp y).map fun y => .mm false x y
  | _, _, _ => none

def compOp (P : Program) (cmp : Operand → Option Opd) (o : Op) : Option MOp :=
  match o with
  | .move x | .assign x => (cmp x).map .mv
  | .pick c a b => (cmp c).bind fun c => (cmp a).bind fun a => (cmp b).map fun b => .pick c a b
  | .alloc t => (zeroOf P t).map fun z => .alloc z.cells
  | .box _ x => (cmp x).map .box
  | .build t ps => (zeroOf P t).bind fun z => match P.underlying t with
    | some (.struct fs) => (placesOf P fs.toList).bind fun pl => (compPartsL cmp pl ps.toList).map fun ps => .build z.cells ps
    | some (.array _ e) => (szOf P e).bind fun s => (compPartsS cmp s ps.toList).map fun ps => .build z.cells ps
    | _ => none
  | .buildSlice t n ps => (sliceElem P t).bind fun e => (elemOf? P e).bind fun (sz, _, z) => if n * sz ≤ 16777216 ∧ 0 < sz then (compPartsS cmp sz ps.toList).map fun ps => .buildSlice sz n ((List.range (n * sz)).map fun j => z.getD (j % sz) .undef) ps else none
  | .load t a => (aggOf P t).bind fun n => (cmp a).map fun a => .load n a
  | .store t a x => (szOf P t).bind fun n => (cmp a).bind fun a => (cmp x).map fun x => .store n a x
  | .nilCheck x => (cmp x).map .nilCheck
  | .binOp op t x y _ => (eqKind P t).bind fun k => (cmp x).bind fun x => (cmp y).map fun y => .bin op k x y
  | .unOp op _ x => (cmp x).map fun x => .un op x
  | .convert s d x => (cmp x).bind fun x => match P.underlying s, P.underlying d with
    | some (.int _), some (.int k) => some (.convI k x)
    | some (.slice e), some .string => match P.underlying e with
      | some (.int .u8) => some (.b2s x)
      | _ => none
    | _, _ => none
  | .makeInterface t x => match P.underlying t with
    | some (.interface _) => none
    | some _ => (cmp x).map fun x => .mkIfc t x
    | none => none
  | .makeFunc (.func f) a b => (compOpds cmp a.toList).bind fun a => (compOpds cmp b.toList).map fun b => .mkFn f a b
  | .makeMap t none => match P.underlying t with
    | some (.map k _) => (keyShape P k).map .mkMap
    | _ => none
  | .lookup t x k ok => match P.underlying t with
    | some (.map kt e) => (keyShape P kt).bind fun ks => (zeroOf P e).bind fun z => (cmp x).bind fun x => (cmp k).map fun k => .lookup ks z ok x k
    | _ => none
  | .mapUpdate t m k v => match P.underlying t with
    | some (.map kt _) => (keyShape P kt).bind fun ks => (cmp m).bind fun m => (cmp k).bind fun k => (cmp v).map fun v => .mapUpd ks m k v
    | _ => none
  | .insert t m k v => match P.underlying t with
    | some (.map kt _) => (keyShape P kt).bind fun ks => (cmp m).bind fun m => (cmp k).bind fun k => (cmp v).map fun v => .mapUpd ks m k v
    | _ => none
  | .makeSlice t l c => (sliceElem P t).bind fun e => (elemOf? P e).bind fun (sz, by_, z) => if 0 < sz then (cmp l).bind fun l => (cmp c).map fun c => .mkSlice z sz by_ l c else none
  | .slice t x lo hi mx => (cmp x).bind fun x => (compOpdO cmp lo).bind fun lo => (compOpdO cmp hi).bind fun hi => (compOpdO cmp mx).bind fun mx' => match P.underlying t with
    | some (.slice e) => (szOf P e).bind fun sz => if mx'.isSome && hi.isNone then none else some (.sliceSl sz x lo hi mx')
    | some .string => if mx'.isSome then none else some (.sliceStr x lo hi)
    | _ => none
  | .fieldAddr t x f => (cmp x).bind fun x => match P.underlying t with
    | some (.struct fs) => (fs[f]?).bind fun fd => (szOf P fd.type).bind fun s => if s = 0 then none else some (.fieldAddr fd.offset x)
    | _ => none
  | .field t x f => (cmp x).bind fun x => match P.underlying t with
    | some (.struct fs) => (fs[f]?).bind fun fd => (aggOf P fd.type).map fun n => .field fd.offset n x
    | _ => none
  | .indexAddr t x i => (cmp x).bind fun x => (cmp i).bind fun i => match P.underlying t with
    | some (.array n e) => (szOf P e).map fun sz => .idxArr n sz x i
    | some (.slice e) => (szOf P e).map fun sz => .idxSl sz x i
    | _ => none
  | .index t x i => (cmp x).bind fun x => (cmp i).bind fun i => match P.underlying t with
    | some (.array n e) => (szOf P e).bind fun sz => (aggOf P e).map fun m => .ixArr n sz m x i
    | some .string => some (.ixStr x i)
    | _ => none
  | .typeAssert x _ t ok => match P.underlying t with
    | some (.interface _) => none
    | some _ => (cmp x).bind fun x => (zeroOf P t).map fun z => .typeAssert t z ok x
    | none => none
  | .extract x i => (cmp x).map fun x => .extract i x
  | .call c => match c.callee with
    | .builtin b => compBuiltin P cmp b c.args.toList c.argTypes.toList
    | _ => none
  | _ => none
def compAny (P : Program) (cmp : Operand → Option Opd) (o : Op) : Option MAny :=
  match o with
  | .call ⟨.value (.func f), args, _⟩ => (compOpds cmp args.toList).map fun xs => .call f xs
  | .call ⟨.value x, args, _⟩ => (cmp x).bind fun x => (compOpds cmp args.toList).map fun xs => .callV x xs
  | .call ⟨.invoke x nm, args, _⟩ => (cmp x).bind fun x => (compOpds cmp args.toList).map fun xs => .invoke nm x xs
  | o => (compOp P cmp o).map .op

end Go.Gm
namespace Go.Gm
def compOper (P : Program) (ops : Array Oper) (o : Oper) : Option MOper :=
  (compAny P compOpd o.op).bind fun m => match o.guard with
    | none => some ⟨o.dst, m, none⟩
    | some (j, b) => ((ops[j]?).bind (·.dst)).map fun d => ⟨o.dst, m, some (d, b)⟩
def compOpers (P : Program) (ops : Array Oper) : List Oper → Option (List MOper)
  | [] => some []
  | o :: r => (compOper P ops o).bind fun m => (compOpers P ops r).map fun ms => m :: ms
/-- Who writes a slot. -/
def writer (ops : Array Oper) (s : Nat) : Option Nat := (List.range ops.size).find? fun j => match ops[j]? with | some o => decide (o.dst = some s) | none => false
/-- Operands in a region of open order: each value lies in a slot of its own. -/
def cmpD (N : Nat) (ops : Array Oper) (pre : Nat → List Nat) (i : Nat) : Operand → Option Opd
  | .tmp s => if s < N then
      match writer ops s with
      | none => some (.tmp s)
      | some j => if (pre i).contains j then some (.tmp (N + j)) else if j = i ∨ (pre j).contains i = true then some (.tmp s) else none
    else none
  | x => compOpd x
def compG (N : Nat) (ops : Array Oper) (pre : Nat → List Nat) (i : Nat) : Option (Nat × Bool) → Option (Option (Nat × Bool))
  | none => some none
  | some (g, b) => if (pre i).contains g && ((ops[g]?).bind (·.dst)).isSome then some (some (N + g, b)) else none
def slotOk (N : Nat) (l : List Nat) : Opd → Bool
  | .tmp s => decide (s < N) || l.any fun j => s == N + j
  | .const _ => true
def slotsOk (N : Nat) (l : List Nat) : MAny → Bool
  | .op m => m.opds.all (slotOk N l)
  | _ => true
def compD1 (P : Program) (N : Nat) (ops : Array Oper) (pre : Nat → List Nat) (done : List DItem) (i : Nat) : Option DItem :=
  (ops[i]?).bind fun o =>
  if !(done.any fun it => it.i == i) && (o.after.all fun e => !Region.binds .any e || (decide (e.on < i) && done.any fun it => it.i == e.on)) &&
      ((pre i).all fun j => o.after.any fun e => Region.binds .any e && (e.on == j || (pre e.on).contains j)) &&
      (done.all fun it => !isEff it.op.op || (pre i).contains it.i) then
    (compAny P (cmpD N ops pre i) o.op).bind fun m => (compG N ops pre i o.guard).bind fun g => if !slotsOk N (pre i) m then none else
      some ⟨i, ⟨some (N + i), m, g⟩, if isEff m then (done.filter fun it => isRead it.op.op && !(pre i).contains it.i).map fun it => (N + it.i, it.op) else []⟩
  else none
def compD (P : Program) (N : Nat) (ops : Array Oper) (pre : Nat → List Nat) : List DItem → List Nat → Option (List DItem)
  | _, [] => some []
  | done, i :: r => (compD1 P N ops pre done i).bind fun it => (compD P N ops pre (done ++ [it]) r).map fun its => it :: its
def dstsOk (N : Nat) (ops : Array Oper) : Bool := (List.range ops.size).all fun j => match ops[j]? with
  | some o => match o.dst with
    | some d => decide (d < N) && decide (writer ops d = some j)
    | none => true
  | none => true
def outsOf (N : Nat) (ops : Array Oper) : List (Nat × Nat) := (List.range ops.size).filterMap fun j => (ops[j]?).bind fun o => o.dst.map fun d => (d, N + j)
/-- What is told of the open orders: which operations stand ahead of which; an order. -/
abbrev DHint := (Nat → List Nat) × List Nat
structure Hint where
  N : Nat
  F : Nat → List Nat
  D : Nat → DHint
  J : List Nat
def labIf (b : Bool) (c : MCode) : MCode := if b then .lab c else c
def compReg (P : Program) (H : Hint) (id : Nat) (ops : Array Oper) : Option MCode :=
  if dstsOk H.N ops && ((List.range ops.size).all fun i => (H.D id).2.contains i) && decide ((H.D id).2.length = ops.size) then (compD P H.N ops (H.D id).1 [] (H.D id).2).map fun its => .regionD H.N its (outsOf H.N ops) else none
/-- Code; F: what is forgotten at the n-th sequence or loop. -/
def compC (P : Program) (H : Hint) : Code → Nat → Option (MCode × Nat)
  | .skip, n => some (.skip, n)
  | .region _ ops false, n => (compOpers P ops ops.toList).map fun ms => (.region ms, n)
  | .region id ops true, n => if P.follows .mixedOrders then (compReg P H id ops).map fun m => (m, n) else none
  | .seq a b, n => (compC P H a (n + 1)).bind fun (a', n1) => (compC P H b n1).map fun (b', n2) => (.seq (H.F n) a' (labIf (H.J.contains n) b'), n2)
  | .cond c a b, n => (compOpd c).bind fun c' => (compC P H a n).bind fun (a', n1) => (compC P H b n1).map fun (b', n2) => (.cond c' a' b', n2)
  | .block id c, n => (compC P H c n).map fun (c', n1) => (.block id c', n1)
  | .loop c, n => (compC P H c (n + 1)).map fun (c', n1) => (.loop (H.F n) c', n1)
  | .exit id, n => some (.exit id, n)
  | .ret, n => some (.ret, n)
  | _, _ => none
def compRes (P : Program) : ResultVar → Option (Nat × Option (Option Nat))
  | .tmp t => some (t, none)
  | .cell a t => (aggOf P t).map fun n => (a, some n)
def compRess (P : Program) : List ResultVar → Option (List (Nat × Option (Option Nat)))
  | [] => some []
  | r :: rs => (compRes P r).bind fun x => (compRess P rs).map fun xs => x :: xs
def compFn (P : Program) (H : Hint) (fn : Func) : Option MFn :=
  fn.body.bind fun c => (compC P H c 0).bind fun (m, _) => (compRess P fn.results.toList).bind fun rs =>
    if fn.name == "runtime.NumGoroutine" then none else some ⟨fn.ntmps, rs, m⟩
end Go.Gm

set_option linter.unusedVariables false
set_option linter.unusedSimpArgs false
namespace Go.Gm
open Go.RowKit

/-- Where a row of cells lies: its block, from which cell on, how many cells the block has, how many of the row's stand there. -/
structure Loc where
  b : Nat
  d : Nat
  N : Nat
  n : Nat
structure Ren where
  c : Nat → Nat → Option Loc
  m : Nat → Option Nat

mutual
inductive VR (φ : Ren) : AV → Value → Prop
  | undef (v : Value) : VR φ .undef v
  | bool (b : Bool) : VR φ (.bool b) (.bool b)
  | int (k : IntKind) (n : Int) : VR φ (.int k n) (.int k n)
  | str (s : ByteArray) : VR φ (.str s) (.string s)
  | nilp : VR φ .nilp (.pointer none)
  | ptr {o off hi g : Nat} {l : Loc} : φ.c o g = some l → hi ≤ l.n → VR φ (.ptr o off hi g) (.pointer (some ⟨l.b, l.d + off, none⟩))
  | nils : VR φ .nils (.slice none 0 0)
  | sl {o off len sz g cap : Nat} {lim : Option Nat} {l : Loc} : φ.c o g = some l → off + len * sz ≤ l.n → len ≤ cap → cap ≤ maxLen → l.d + off + cap * sz ≤ l.N →
      (∀ c, lim = some c → cap = c) → VR φ (.sl o off len sz lim g) (.slice (some ⟨l.b, l.d + off, none⟩) len cap)
  | sl0 {o off sz g : Nat} {lim : Option Nat} {a : Addr} : (lim = none → ∃ l, φ.c o g = some l ∧ off ≤ l.n) → (∀ c, lim = some c → c = 0) → VR φ (.sl o off 0 sz lim g) (.slice (some a) 0 0)
  | nilmap : VR φ .nilmap (.map none)
  | map {o b : Nat} : φ.m o = some b → VR φ (.map o) (.map (some b))
  | nilfn : VR φ .nilfn .nilFunc
  | fn {f : FuncId} {xs ys : List AV} {xs' ys' : List Value} : VRs φ xs xs' → VRs φ ys ys' → VR φ (.fn f xs ys) (.func (.func f) xs'.toArray ys'.toArray)
  | nilifc : VR φ .nilifc .nilIface
  | ifc {t : TypeId} {v : AV} {v' : Value} : VR φ v v' → VR φ (.ifc t v) (.iface t v')
  | agg {cs : List AV} {cs' : List Value} : VRs φ cs cs' → VR φ (.agg cs) (.agg cs'.toArray)
  | tup {cs : List AV} {cs' : List Value} : VRs φ cs cs' → VR φ (.tup cs) (.tuple cs'.toArray)
inductive VRs (φ : Ren) : List AV → List Value → Prop
  | nil : VRs φ [] []
  | cons {v : AV} {v' : Value} {vs : List AV} {vs' : List Value} : VR φ v v' → VRs φ vs vs' → VRs φ (v :: vs) (v' :: vs')
end

/-- More is told. -/
structure Ren.le (φ ψ : Ren) : Prop where
  c : ∀ o g l, φ.c o g = some l → ψ.c o g = some l
  m : ∀ o b, φ.m o = some b → ψ.m o = some b
theorem Ren.le.refl (φ : Ren) : φ.le φ := ⟨fun _ _ _ h => h, fun _ _ h => h⟩
theorem Ren.le.trans {φ ψ χ : Ren} (h : φ.le ψ) (k : ψ.le χ) : φ.le χ := ⟨fun o g l e => k.c o g l (h.c o g l e), fun o b e => k.m o b (h.m o b e)⟩

mutual
theorem VR.mono {φ ψ : Ren} (h : φ.le ψ) : ∀ {x : AV} {v : Value}, VR φ x v → VR ψ x v
  | _, _, .undef v => .undef v
  | _, _, .bool b => .bool b
  | _, _, .int k n => .int k n
  | _, _, .str s => .str s
  | _, _, .nilp => .nilp
  | _, _, .ptr e e2 => .ptr (h.c _ _ _ e) e2
  | _, _, .nils => .nils
  | _, _, .sl e a b c d f => .sl (h.c _ _ _ e) a b c d f
  | _, _, .sl0 e b => .sl0 (fun q => let ⟨l, h1, h2⟩ := e q; ⟨l, h.c _ _ _ h1, h2⟩) b
  | _, _, .nilmap => .nilmap
  | _, _, .map e => .map (h.m _ _ e)
  | _, _, .nilfn => .nilfn
  | _, _, .fn a b => .fn (VRs.mono h a) (VRs.mono h b)
  | _, _, .nilifc => .nilifc
  | _, _, .ifc a => .ifc (VR.mono h a)
  | _, _, .agg a => .agg (VRs.mono h a)
  | _, _, .tup a => .tup (VRs.mono h a)
theorem VRs.mono {φ ψ : Ren} (h : φ.le ψ) : ∀ {xs : List AV} {vs : List Value}, VRs φ xs vs → VRs ψ xs vs
  | _, _, .nil => .nil
  | _, _, .cons a b => .cons (VR.mono h a) (VRs.mono h b)
end

section
variable {φ : Ren}
theorem VRs.length : ∀ {xs : List AV} {vs : List Value}, VRs φ xs vs → xs.length = vs.length
  | _, _, .nil => rfl
  | _, _, .cons _ b => by simp [VRs.length b]
theorem VRs.get : ∀ {xs : List AV} {vs : List Value}, VRs φ xs vs → ∀ {i : Nat} {x : AV}, xs[i]? = some x → ∃ v, vs[i]? = some v ∧ VR φ x v
  | _, _, .nil, i, x, h => by simp at h
  | _, _, .cons a b, 0, x, h => by simp at h; subst h; exact ⟨_, by simp, a⟩
  | _, _, .cons a b, i + 1, x, h => by
    obtain ⟨v, hv, hr⟩ := VRs.get b (i := i) (by simpa using h)
    exact ⟨v, by simpa using hv, hr⟩
theorem VRs.get' {xs : List AV} {vs : List Value} (h : VRs φ xs vs) {i : Nat} {v : Value} (hv : vs[i]? = some v) : ∃ x, xs[i]? = some x ∧ VR φ x v := by
  have hl := h.length
  have hi : i < vs.length := (List.getElem?_eq_some_iff.1 hv).1
  obtain ⟨v', hv', hr⟩ := h.get (i := i) (x := xs[i]'(by omega)) (List.getElem?_eq_getElem (by omega))
  rw [hv] at hv'
  injection hv' with hv'
  subst hv'
  exact ⟨_, List.getElem?_eq_getElem (by omega), hr⟩
theorem VRs.append : ∀ {xs ys : List AV} {vs us : List Value}, VRs φ xs vs → VRs φ ys us → VRs φ (xs ++ ys) (vs ++ us)
  | _, _, _, _, .nil, k => k
  | _, _, _, _, .cons a b, k => .cons a (b.append k)
theorem VRs.of_get : ∀ {xs : List AV} {vs : List Value}, xs.length = vs.length → (∀ (i : Nat) (x : AV) (v : Value), xs[i]? = some x → vs[i]? = some v → VR φ x v) → VRs φ xs vs
  | [], [], _, _ => .nil
  | x :: xs, v :: vs, hl, h => .cons (h 0 x v (by simp) (by simp)) (VRs.of_get (by simpa using hl) (fun i y u hy hu => h (i + 1) y u (by simpa using hy) (by simpa using hu)))
  | [], _ :: _, hl, _ => by simp at hl
  | _ :: _, [], hl, _ => by simp at hl
theorem VRs.drop {xs : List AV} {vs : List Value} (h : VRs φ xs vs) (n : Nat) : VRs φ (xs.drop n) (vs.drop n) :=
  VRs.of_get (by simp [h.length]) (fun i x v hx hv => by
    obtain ⟨v', hv', hr⟩ := h.get (i := n + i) (by simpa [List.getElem?_drop] using hx)
    rw [List.getElem?_drop, hv'] at hv
    injection hv with hv; subst hv; exact hr)
theorem VRs.take {xs : List AV} {vs : List Value} (h : VRs φ xs vs) (n : Nat) : VRs φ (xs.take n) (vs.take n) :=
  VRs.of_get (by simp [h.length]) (fun i x v hx hv => by
    rw [List.getElem?_take] at hx hv
    split at hx
    · rename_i hi
      rw [if_pos hi] at hv
      obtain ⟨v', hv', hr⟩ := h.get hx
      rw [hv'] at hv
      injection hv with hv; subst hv; exact hr
    · cases hx)
theorem VR.one_of {x : AV} {v : Value} (h : VR φ x v) (h1 : x.one = true) : v.oneCell' = true := by
  cases h <;> first | rfl | simp [AV.one] at h1
theorem VRs.one_of : ∀ {xs : List AV} {vs : List Value}, VRs φ xs vs → xs.all AV.one = true → ∀ v ∈ vs, v.oneCell' = true
  | _, _, .nil, _ => by simp
  | _, _, .cons a b, h => by
    simp only [List.all_cons, Bool.and_eq_true] at h
    intro v hv
    rcases List.mem_cons.1 hv with rfl | hv
    · exact a.one_of h.1
    · exact VRs.one_of b h.2 v hv
end

/-- The cells of a row, held against the block in which they lie. -/
def CellsAt (φ : Ren) (cs : List AV) (l : Loc) (C : Array Value) : Prop :=
  l.n ≤ cs.length ∧ l.d + l.n ≤ l.N ∧ ∀ i, i < l.n → ∃ x v, cs[i]? = some x ∧ C[l.d + i]? = some v ∧ VR φ x v ∧ x.one = true

/-- The entries of a map. -/
inductive ERs (φ : Ren) (ks : KS) : List (AV × AV) → List MapEntry → Prop
  | nil : ERs φ ks [] []
  | cons {k v : AV} {e : MapEntry} {es : List (AV × AV)} {es' : List MapEntry} : fitK ks k = true → (∀ p ∈ es, p.1 ≠ k) → VR φ k e.key → VR φ v e.val → ERs φ ks es es' → ERs φ ks ((k, v) :: es) (e :: es')
theorem ERs.mono {φ ψ : Ren} (h : φ.le ψ) {ks : KS} : ∀ {es : List (AV × AV)} {es' : List MapEntry}, ERs φ ks es es' → ERs ψ ks es es'
  | _, _, .nil => .nil
  | _, _, .cons f n a b c => .cons f n (a.mono h) (b.mono h) (c.mono h)

def isRo (h : Heap) (o : Nat) : Bool := match h[o]? with | some (.cells c) => c.ro | _ => false

structure CellOk (φ : Ren) (w : World) (B : Nat) (c : CObj) (g : Nat) (l : Loc) : Prop where
  gen : g ≤ c.gen
  wg : c.wg ≤ c.gen
  blk : ∃ C e fr, w.heap[l.b]? = some (.cells C e fr) ∧ C.size = l.N ∧ (c.ro = false → fr = (0, 0) ∧ B ≤ l.b) ∧ (c.wg ≤ g → CellsAt φ c.cells l C)
  last : g = c.gen → l.n = c.cells.length

structure WR (φ : Ren) (h : Heap) (w : World) (B : Nat) : Prop where
  cell : ∀ o g l, φ.c o g = some l → ∃ c, h[o]? = some (.cells c) ∧ CellOk φ w B c g l
  map : ∀ o b, φ.m o = some b → ∃ ks es, h[o]? = some (.map ks es) ∧ B ≤ b ∧ ∃ es' clk, w.heap[b]? = some (.map es' clk) ∧ ERs φ ks es es'.toList
  sep : ∀ o g l o' g' l', φ.c o g = some l → φ.c o' g' = some l' → l.b = l'.b → (o = o' ∧ l.d = l'.d) ∨ (isRo h o = true ∧ isRo h o' = true)
  msep : ∀ o b o' b', φ.m o = some b → φ.m o' = some b' → b = b' → o = o'

/-- The two machines stand alike: below block B the world is the first one. -/
structure S (B : Nat) (w0 : World) (φ : Ren) (h : Heap) (w : World) : Prop where
  wr : WR φ h w B
  below : Below B w0 w
  base : B ≤ w.heap.size

/-- What a step leaves alone: what is told stays told; what isn't told of stays as it is, untold. -/
structure Kept (φ : Ren) (h : Heap) (ψ : Ren) (h' : Heap) : Prop where
  le : φ.le ψ
  len : h.length ≤ h'.length
  un : ∀ o, o < h.length → (∀ g, φ.c o g = none) → φ.m o = none → (∀ g, ψ.c o g = none) ∧ ψ.m o = none ∧ h'[o]? = h[o]?
theorem Kept.refl (φ : Ren) (h : Heap) : Kept φ h φ h := ⟨.refl φ, Nat.le_refl _, fun _ _ a b => ⟨a, b, rfl⟩⟩
theorem Kept.trans {φ ψ χ : Ren} {h h' h'' : Heap} (a : Kept φ h ψ h') (b : Kept ψ h' χ h'') : Kept φ h χ h'' :=
  ⟨a.le.trans b.le, Nat.le_trans a.len b.len, fun o ho hc hm => by
    obtain ⟨h1, h2, h3⟩ := a.un o ho hc hm
    obtain ⟨k1, k2, k3⟩ := b.un o (Nat.lt_of_lt_of_le ho a.len) h1 h2
    exact ⟨k1, k2, k3.trans h3⟩⟩

theorem CellsAt.mono {φ ψ : Ren} {cs : List AV} {l : Loc} {C : Array Value} (h : CellsAt φ cs l C) (hl : φ.le ψ) : CellsAt ψ cs l C :=
  ⟨h.1, h.2.1, fun i hi => by
    obtain ⟨x, v, a, b, c, d⟩ := h.2.2 i hi
    exact ⟨x, v, a, b, c.mono hl, d⟩⟩
theorem CellOk.mono {φ ψ : Ren} {w : World} {B : Nat} {c : CObj} {g : Nat} {l : Loc} (h : CellOk φ w B c g l) (hl : φ.le ψ) : CellOk ψ w B c g l :=
  ⟨h.gen, h.wg, by
    obtain ⟨C, e, fr, a, b, c1, d⟩ := h.blk
    exact ⟨C, e, fr, a, b, c1, fun hw => (d hw).mono hl⟩, h.last⟩
/-- Its block stands as it did. -/
theorem CellOk.move {φ : Ren} {w w' : World} {B : Nat} {c : CObj} {g : Nat} {l : Loc} (h : CellOk φ w B c g l) (hb : w'.heap[l.b]? = w.heap[l.b]?) : CellOk φ w' B c g l :=
  ⟨h.gen, h.wg, by
    obtain ⟨C, e, fr, a, b, c1, d⟩ := h.blk
    exact ⟨C, e, fr, hb.trans a, b, c1, d⟩, h.last⟩
theorem CellOk.lt {φ : Ren} {w : World} {B : Nat} {c : CObj} {g : Nat} {l : Loc} (h : CellOk φ w B c g l) : l.b < w.heap.size := by
  obtain ⟨C, e, fr, a, _⟩ := h.blk
  exact (Array.getElem?_eq_some_iff.1 a).1
theorem heap_lt {w : World} {b : Nat} {o : Obj} (h : w.heap[b]? = some o) : b < w.heap.size := (Array.getElem?_eq_some_iff.1 h).1

/-! ### A new row told of -/
def Ren.setC (φ : Ren) (o g : Nat) (l : Loc) : Ren := { φ with c := fun o' g' => if o' = o ∧ g' = g then some l else φ.c o' g' }
theorem Ren.setC_le {φ : Ren} {o g : Nat} {l : Loc} (h : φ.c o g = none) : φ.le (φ.setC o g l) := by
  refine ⟨fun o' g' l' e => ?_, fun _ _ e => e⟩
  simp only [Ren.setC]
  split
  · rename_i hc
    obtain ⟨rfl, rfl⟩ := hc
    rw [h] at e; cases e
  · exact e
theorem WR.unm_of_len {φ : Ren} {h : Heap} {w : World} {B : Nat} (hw : WR φ h w B) {o : Nat} (ho : h.length ≤ o) : (∀ g, φ.c o g = none) ∧ φ.m o = none := by
  refine ⟨fun g => ?_, ?_⟩
  · cases hc : φ.c o g with
    | none => rfl
    | some l =>
      obtain ⟨c, he, _⟩ := hw.cell o g l hc
      rw [List.getElem?_eq_none ho] at he; cases he
  · cases hc : φ.m o with
    | none => rfl
    | some l =>
      obtain ⟨_, c, he, _⟩ := hw.map o l hc
      rw [List.getElem?_eq_none ho] at he; cases he

theorem alloc_heap_new (w : World) (o : Obj) : (w.alloc o).heap[w.heap.size]? = some o := heap_alloc_new w o
theorem alloc_heap_old (w : World) (o : Obj) (k : Nat) (h : k < w.heap.size) : (w.alloc o).heap[k]? = w.heap[k]? := Below.heap_alloc w o k h

/-- A row of the abstract machine's that isn't told of yet is laid: its cells, and room behind them. -/
theorem S.lay {B : Nat} {w0 : World} {φ : Ren} {h : Heap} {w : World} (hs : S B w0 φ h w) {o : Nat} {cs : List AV} (ho : h[o]? = some (.cells ⟨cs, 0, 0, false⟩)) (hc : ∀ g, φ.c o g = none)
    {vs rest : List Value} (hv : VRs φ cs vs) (h1 : cs.all AV.one = true) (e : TypeId) :
    S B w0 (φ.setC o 0 ⟨w.heap.size, 0, (vs ++ rest).length, cs.length⟩) h (w.alloc (.cells (vs ++ rest).toArray e)) := by
  have hle : φ.le (φ.setC o 0 ⟨w.heap.size, 0, (vs ++ rest).length, cs.length⟩) := Ren.setC_le (hc 0)
  refine ⟨⟨fun o' g' l' hl' => ?_, fun o' b' hb' => ?_, ?_, ?_⟩, hs.below.alloc hs.base _, by simp; have := hs.base; omega⟩
  · simp only [Ren.setC] at hl'
    split at hl'
    · rename_i hcc
      obtain ⟨rfl, rfl⟩ := hcc
      injection hl' with hl'
      subst hl'
      refine ⟨_, ho, ⟨Nat.le_refl _, Nat.le_refl _, ⟨_, e, (0, 0), alloc_heap_new w _, by simp, fun _ => ⟨rfl, hs.base⟩, fun _ => ⟨Nat.le_refl _, by simp [hv.length], fun i hi => ?_⟩⟩, fun _ => rfl⟩⟩
      obtain ⟨v, hv', hr⟩ := hv.get (i := i) (x := cs[i]'hi) (List.getElem?_eq_getElem hi)
      refine ⟨cs[i]'hi, v, List.getElem?_eq_getElem hi, ?_, hr.mono hle, ?_⟩
      · have : i < vs.length := by rw [← hv.length]; exact hi
        simp only [Nat.zero_add, List.getElem?_toArray]
        rw [List.getElem?_append_left this]
        exact hv'
      · exact List.all_eq_true.1 h1 _ (List.getElem_mem hi)
    · obtain ⟨c, h2, h3⟩ := hs.wr.cell o' g' l' hl'
      exact ⟨c, h2, (h3.move (alloc_heap_old w _ _ h3.lt)).mono hle⟩
  · obtain ⟨ks, es, h2, h3, es', clk, h4, h5⟩ := hs.wr.map o' b' hb'
    exact ⟨ks, es, h2, h3, es', clk, (alloc_heap_old w _ _ (heap_lt h4)).trans h4, h5.mono hle⟩
  · intro o1 g1 l1 o2 g2 l2 e1 e2 hb
    have new : ∀ o' g' l', φ.c o' g' = some l' → l'.b < w.heap.size := fun o' g' l' hl' => by
      obtain ⟨c, _, h3⟩ := hs.wr.cell o' g' l' hl'
      exact h3.lt
    simp only [Ren.setC] at e1 e2
    split at e1
    · rename_i c1
      injection e1 with e1
      subst e1
      split at e2
      · rename_i c2
        injection e2 with e2
        subst e2
        exact .inl ⟨c1.1.trans c2.1.symm, rfl⟩
      · have := new _ _ _ e2
        simp only at hb
        omega
    · split at e2
      · injection e2 with e2
        subst e2
        have := new _ _ _ e1
        simp only at hb
        omega
      · exact hs.wr.sep _ _ _ _ _ _ e1 e2 hb
  · exact hs.wr.msep

/-- One object more, of which nothing is told yet. -/
theorem S.push {B : Nat} {w0 : World} {φ : Ren} {h : Heap} {w : World} (hs : S B w0 φ h w) (x : AObj) : S B w0 φ (h ++ [x]) w := by
  have old : ∀ o y, h[o]? = some y → (h ++ [x])[o]? = some y := fun o y hy => by
    rw [List.getElem?_append_left (List.getElem?_eq_some_iff.1 hy).1]; exact hy
  have ro : ∀ o y, h[o]? = some y → isRo (h ++ [x]) o = isRo h o := fun o y hy => by simp only [isRo, old o y hy, hy]
  refine ⟨⟨fun o g l hl => ?_, fun o b hb => ?_, ?_, hs.wr.msep⟩, hs.below, hs.base⟩
  · obtain ⟨c, h2, h3⟩ := hs.wr.cell o g l hl
    exact ⟨c, old _ _ h2, h3⟩
  · obtain ⟨ks, es, h2, h3⟩ := hs.wr.map o b hb
    exact ⟨ks, es, old _ _ h2, h3⟩
  · intro o1 g1 l1 o2 g2 l2 e1 e2 hb
    obtain ⟨c1, k1, _⟩ := hs.wr.cell _ _ _ e1
    obtain ⟨c2, k2, _⟩ := hs.wr.cell _ _ _ e2
    rw [ro _ _ k1, ro _ _ k2]
    exact hs.wr.sep _ _ _ _ _ _ e1 e2 hb
theorem Kept.push (φ : Ren) (h : Heap) (x : AObj) : Kept φ h φ (h ++ [x]) :=
  ⟨.refl φ, by simp, fun o ho a b => ⟨a, b, List.getElem?_append_left ho⟩⟩
theorem Kept.set {φ : Ren} {h : Heap} {o g : Nat} {l : Loc} (ho : h.length ≤ o ∨ ∃ g' l', φ.c o g' = some l') (hn : φ.c o g = none) : Kept φ h (φ.setC o g l) h := by
  refine ⟨Ren.setC_le hn, Nat.le_refl _, fun o' ho' hc hm => ⟨fun g' => ?_, hm, rfl⟩⟩
  simp only [Ren.setC]
  split
  · rename_i hcc
    obtain ⟨rfl, rfl⟩ := hcc
    rcases ho with ho | ⟨g2, l2, h2⟩
    · omega
    · rw [hc] at h2; cases h2
  · exact hc g'
end Go.Gm

set_option linter.unusedVariables false
set_option linter.unusedSimpArgs false
namespace Go.Gm
open Go.RowKit

theorem add_at (b d j : Nat) : (⟨b, d, none⟩ : Addr).add j = ⟨b, d + j, none⟩ := by unfold Addr.add; split <;> simp_all

section
variable {B : Nat} {w0 : World} {φ : Ren} {h : Heap} {w : World}

/-- What stands at a place of a row that is told of. -/
theorem S.cellAt (hs : S B w0 φ h w) {o g : Nat} {l : Loc} (hl : φ.c o g = some l) {c : CObj} (ho : h[o]? = some (.cells c)) (hw : c.wg ≤ g) {i : Nat} (hi : i < l.n) :
    ∃ x v, c.cells[i]? = some x ∧ w.cell? ⟨l.b, l.d + i, none⟩ = some v ∧ VR φ x v ∧ x.one = true := by
  obtain ⟨c', ho', hc⟩ := hs.wr.cell o g l hl
  rw [ho] at ho'
  injection ho' with ho'
  injection ho' with ho'
  subst ho'
  obtain ⟨C, e, fr, a, b, _, d⟩ := hc.blk
  obtain ⟨x, v, k1, k2, k3, k4⟩ := (d hw).2.2 i hi
  exact ⟨x, v, k1, (cell_of_row w l.b _ C e fr a).trans k2, k3, k4⟩

/-- A run of cells of a row. -/
theorem S.cellsAt (hs : S B w0 φ h w) {o g : Nat} {l : Loc} (hl : φ.c o g = some l) {off n : Nat} (hn : off + n ≤ l.n) {cs : List AV} (hr : rdc h o off n g = some cs) :
    ∃ vs : List Value, vs.length = n ∧ VRs φ cs vs ∧ cs.all AV.one = true ∧ cs.length = n ∧ ∀ j v, vs[j]? = some v → w.cell? ((⟨l.b, l.d + off, none⟩ : Addr).add j) = some v := by
  obtain ⟨c, ho, hc⟩ := hs.wr.cell o g l hl
  unfold rdc at hr
  rw [ho] at hr
  simp only at hr
  split at hr
  · rename_i hw
    injection hr with hr
    have hlen : l.n ≤ c.cells.length := by
      obtain ⟨C, e, fr, _, _, _, d⟩ := hc.blk
      exact (d hw).1
    have hcl : cs.length = n := by rw [← hr]; simp; omega
    have get : ∀ j, j < n → ∃ x v, cs[j]? = some x ∧ w.cell? ⟨l.b, l.d + (off + j), none⟩ = some v ∧ VR φ x v ∧ x.one = true := by
      intro j hj
      obtain ⟨x, v, k1, k2, k3, k4⟩ := hs.cellAt hl ho hw (i := off + j) (by omega)
      refine ⟨x, v, ?_, k2, k3, k4⟩
      rw [← hr, List.getElem?_take, if_pos hj, List.getElem?_drop]
      exact k1
    refine ⟨(List.range n).map fun j => (w.cell? ⟨l.b, l.d + (off + j), none⟩).getD undef, by simp, VRs.of_get (by simp [hcl]) (fun i x v hx hv => ?_), ?_, hcl, fun j v hv => ?_⟩
    · have hi : i < n := by rw [← hcl]; exact (List.getElem?_eq_some_iff.1 hx).1
      obtain ⟨x', v', k1, k2, k3, _⟩ := get i hi
      rw [k1] at hx
      injection hx with hx
      subst hx
      simp only [List.getElem?_map, List.getElem?_range hi, Option.map_some, k2, Option.getD_some, Option.some.injEq] at hv
      subst hv
      exact k3
    · refine List.all_eq_true.2 (fun x hx => ?_)
      obtain ⟨i, hi⟩ := List.getElem?_of_mem hx
      have hin : i < n := by rw [← hcl]; exact (List.getElem?_eq_some_iff.1 hi).1
      obtain ⟨x', v', k1, _, _, k4⟩ := get i hin
      rw [k1] at hi
      injection hi with hi
      rw [← hi]
      exact k4
    · have hj : j < n := by
        have := (List.getElem?_eq_some_iff.1 hv).1
        simpa using this
      obtain ⟨x', v', k1, k2, _, _⟩ := get j hj
      simp only [List.getElem?_map, List.getElem?_range hj, Option.map_some, k2, Option.getD_some, Option.some.injEq] at hv
      subst hv
      rw [add_at, Nat.add_assoc]
      exact k2
  · cases hr

/-- One cell read through a pointer. -/
theorem S.ld1 (hs : S B w0 φ h w) {a x : AV} {p : Value} (hp : VR φ a p) (hx : ld1 h a = some x) : ∃ ad v, p = .pointer (some ad) ∧ w.cell? ad = some v ∧ VR φ x v ∧ x.one = true := by
  cases hp with
  | @ptr o off hi g l hl hn =>
    simp only [Gm.ld1] at hx
    obtain ⟨c, ho, hc⟩ := hs.wr.cell o g l hl
    rw [ho] at hx
    simp only at hx
    split at hx
    · rename_i hw
      obtain ⟨x', v, k1, k2, k3, k4⟩ := hs.cellAt hl ho hw.1 (i := off) (by omega)
      rw [hx] at k1
      injection k1 with k1
      subst k1
      exact ⟨_, v, rfl, k2, k3, k4⟩
    · cases hx
  | _ => simp [Gm.ld1] at hx

theorem S.ldN (hs : S B w0 φ h w) {n : Nat} {a x : AV} {p : Value} (hp : VR φ a p) (hx : ldN n h a = some x) :
    ∃ ad cs vs, p = .pointer (some ad) ∧ x = .agg cs ∧ vs.length = n ∧ VRs φ cs vs ∧ ∀ (j : Nat) v, vs[j]? = some v → w.cell? (ad.add j) = some v := by
  cases hp with
  | @ptr o off hi g l hl hn =>
    simp only [Gm.ldN] at hx
    split at hx
    · rename_i hh
      cases hr : rdc h o off n g with
      | none => rw [hr] at hx; cases hx
      | some cs =>
        rw [hr] at hx
        injection hx with hx
        obtain ⟨vs, k1, k2, _, _, k5⟩ := hs.cellsAt hl (by omega) hr
        exact ⟨_, cs, vs, rfl, hx.symm, k1, k2, k5⟩
    · cases hx
  | _ => simp [Gm.ldN] at hx

/-- A row that is told of is turned: one block gets other cells. -/
theorem S.turn (hs : S B w0 φ h w) {o : Nat} {l : Loc} {c : CObj} (hl : φ.c o c.gen = some l) (ho : h[o]? = some (.cells c)) (hro : c.ro = false)
    {C : Array Value} {e : TypeId} (hb : w.heap[l.b]? = some (.cells C e (0, 0))) {c' : CObj} {C' : Array Value} (hsz : C'.size = C.size) (hro' : c'.ro = false) (hwg : c'.wg ≤ c'.gen)
    {ψ : Ren} (hle : φ.le ψ) (hm : ψ.m = φ.m) (hnew : ∀ o' g' l', ψ.c o' g' = some l' → φ.c o' g' = some l' ∨ (o' = o ∧ l'.b = l.b ∧ l'.d = l.d ∧ l'.N = l.N))
    (hgen : ∀ g' l', ψ.c o g' = some l' → g' ≤ c'.gen) (hlast : ∀ g' l', ψ.c o g' = some l' → g' = c'.gen → l'.n = c'.cells.length)
    (hcells : ∀ g' l', ψ.c o g' = some l' → l'.b = l.b → l'.d = l.d → c'.wg ≤ g' → CellsAt ψ c'.cells l' C')
    (hother : ∀ g' l', φ.c o g' = some l' → l'.b ≠ l.b → c'.wg ≤ g' → c.wg ≤ g' ∧ ∀ i, i < l'.n → c'.cells[i]? = c.cells[i]?) :
    S B w0 ψ (h.set o (.cells c')) (w.setRow l.b C') := by
  have hol : o < h.length := (List.getElem?_eq_some_iff.1 ho).1
  obtain ⟨c0, ho0, hc0⟩ := hs.wr.cell o _ l hl
  rw [ho] at ho0
  injection ho0 with ho0
  injection ho0 with ho0
  subst ho0
  obtain ⟨C0, e0, fr0, a0, b0, c0', _⟩ := hc0.blk
  rw [hb] at a0
  injection a0 with a0
  injection a0 with aC ae afr
  subst aC
  have hBb := (c0' hro).2
  have rolf : isRo h o = false := by simp [isRo, ho, hro]
  have same : ∀ o' g' l', φ.c o' g' = some l' → l'.b = l.b → o' = o ∧ l'.d = l.d := fun o' g' l' hl' hbb => by
    rcases hs.wr.sep _ _ _ _ _ _ hl' hl hbb with k | k
    · exact ⟨k.1, k.2⟩
    · rw [rolf] at k; cases k.2
  have blk : ∀ k, k ≠ l.b → (w.setRow l.b C').heap[k]? = w.heap[k]? := fun k hk => setRow_other w l.b k C' hk
  have here := setRow_heap w l.b C C' e (0, 0) hb
  have heapSet : ∀ o', o' ≠ o → (h.set o (.cells c'))[o']? = h[o']? := fun o' hne => by rw [List.getElem?_set_ne (Ne.symm hne)]
  have heapO : (h.set o (.cells c'))[o]? = some (.cells c') := by rw [List.getElem?_set_self hol]
  refine ⟨⟨fun o' g' l' hl' => ?_, fun o' b' hb' => ?_, ?_, ?_⟩, below_setRow hs.below hBb C', by simpa using hs.base⟩
  · by_cases hoo : o' = o
    · subst hoo
      refine ⟨c', heapO, ⟨hgen _ _ hl', hwg, ?_, hlast _ _ hl'⟩⟩
      by_cases hbb : l'.b = l.b
      · rw [hbb]
        refine ⟨C', e, (0, 0), here, ?_, fun _ => ⟨rfl, hBb⟩, fun hw => ?_⟩
        · rw [hsz]
          rcases hnew _ _ _ hl' with k | k
          · obtain ⟨c2, k2, k3⟩ := hs.wr.cell _ _ _ k
            obtain ⟨C2, e2, fr2, m1, m2, _⟩ := k3.blk
            rw [hbb, hb] at m1
            injection m1 with m1
            injection m1 with m1
            rw [m1]; exact m2
          · rw [k.2.2.2]; exact b0
        · refine hcells _ _ hl' hbb ?_ hw
          rcases hnew _ _ _ hl' with k | k
          · exact (same _ _ _ k hbb).2
          · exact k.2.2.1
      · rcases hnew _ _ _ hl' with k | k
        · obtain ⟨c2, k2, k3⟩ := hs.wr.cell _ _ _ k
          rw [ho] at k2
          injection k2 with k2
          injection k2 with k2
          subst k2
          obtain ⟨C2, e2, fr2, m1, m2, m3, m4⟩ := k3.blk
          refine ⟨C2, e2, fr2, (blk _ hbb).trans m1, m2, fun _ => m3 hro, fun hw => ?_⟩
          obtain ⟨n1, n2⟩ := hother _ _ k hbb hw
          obtain ⟨p1, p2, p3⟩ := m4 n1
          refine ⟨?_, p2, fun i hi => ?_⟩
          · rcases Nat.lt_or_ge c'.cells.length l'.n with hlt | hge
            · have q := n2 c'.cells.length hlt
              rw [List.getElem?_eq_none (Nat.le_refl _)] at q
              have := List.getElem?_eq_none_iff.1 q.symm
              omega
            · exact hge
          · obtain ⟨x, v, q1, q2, q3, q4⟩ := p3 i hi
            exact ⟨x, v, (n2 i hi).trans q1, q2, q3.mono hle, q4⟩
        · exact absurd k.2.1 hbb
    · have k : φ.c o' g' = some l' := (hnew _ _ _ hl').resolve_right (fun q => hoo q.1)
      obtain ⟨c2, k2, k3⟩ := hs.wr.cell _ _ _ k
      refine ⟨c2, (heapSet _ hoo).trans k2, (k3.move (blk _ (fun hbb => hoo (same _ _ _ k hbb).1))).mono hle⟩
  · rw [hm] at hb'
    obtain ⟨ks, es, k1, k2, es', clk, k3, k4⟩ := hs.wr.map o' b' hb'
    have hne : o' ≠ o := by rintro rfl; rw [ho] at k1; cases k1
    have hbb : b' ≠ l.b := by rintro rfl; rw [hb] at k3; cases k3
    exact ⟨ks, es, (heapSet _ hne).trans k1, k2, es', clk, (blk _ hbb).trans k3, k4.mono hle⟩
  · intro o1 g1 l1 o2 g2 l2 e1 e2 hbb
    have ro1 : ∀ o', isRo (h.set o (.cells c')) o' = isRo h o' := fun o' => by
      by_cases hoo : o' = o
      · subst hoo; simp [isRo, heapO, hro', ho, hro]
      · simp [isRo, heapSet _ hoo]
    rw [ro1, ro1]
    rcases hnew _ _ _ e1 with k1 | k1
    · rcases hnew _ _ _ e2 with k2 | k2
      · exact hs.wr.sep _ _ _ _ _ _ k1 k2 hbb
      · have := same _ _ _ k1 (hbb.trans k2.2.1)
        exact .inl ⟨this.1.trans k2.1.symm, this.2.trans k2.2.2.1.symm⟩
    · rcases hnew _ _ _ e2 with k2 | k2
      · have := same _ _ _ k2 (hbb.symm.trans k1.2.1)
        exact .inl ⟨k1.1.trans this.1.symm, k1.2.2.1.trans this.2.symm⟩
      · exact .inl ⟨k1.1.trans k2.1.symm, k1.2.2.1.trans k2.2.2.1.symm⟩
  · rw [hm]; exact hs.wr.msep

theorem setAll_get : ∀ (vs : List AV) (cs : List AV) (off : Nat), off + vs.length ≤ cs.length → (setAll cs off vs).length = cs.length ∧ ∀ i, (setAll cs off vs)[i]? = if off ≤ i ∧ i < off + vs.length then vs[i - off]? else cs[i]?
  | [], cs, off, _ => ⟨rfl, fun i => by simp only [setAll, List.length_nil, Nat.add_zero]; rw [if_neg (by omega)]⟩
  | v :: vs, cs, off, hl => by
    simp only [List.length_cons] at hl
    obtain ⟨h1, h2⟩ := setAll_get vs (cs.set off v) (off + 1) (by simp; omega)
    refine ⟨by simp only [setAll]; rw [h1]; simp, fun i => ?_⟩
    simp only [setAll]
    rw [h2]
    simp only [List.length_cons]
    by_cases h0 : i = off
    · subst h0
      rw [if_neg (by omega), if_pos (by omega), List.getElem?_set_self (by omega)]
      simp
    · by_cases h3 : off + 1 ≤ i ∧ i < off + 1 + vs.length
      · rw [if_pos h3, if_pos (by omega)]
        rw [show i - off = (i - (off + 1)) + 1 by omega, List.getElem?_cons_succ]
      · rw [if_neg h3, if_neg (by omega), List.getElem?_set_ne (Ne.symm h0)]

/-- Cells written through a pointer. -/
theorem S.wrc (hs : S B w0 φ h w) {o off hi g : Nat} {l : Loc} (hl : φ.c o g = some l) (hhi : hi ≤ l.n) {vs : List AV} {us : List Value} (hv : VRs φ vs us) {h' : Heap} (hr : wrc h o off hi g vs = some h') (P : Program) :
    ∃ w', (storeCells ⟨l.b, l.d + off, none⟩ us 0).run P w = .ok () w' ∧ S B w0 φ h' w' ∧ Kept φ h φ h' := by
  unfold Gm.wrc at hr
  obtain ⟨c, ho, hc⟩ := hs.wr.cell o g l hl
  rw [ho] at hr
  simp only at hr
  split at hr
  · rename_i hcond
    obtain ⟨hro, hg, hlen, hone⟩ := hcond
    injection hr with hr
    subst hr
    subst hg
    obtain ⟨C, e, fr, a, b, c1, d⟩ := hc.blk
    obtain ⟨rfl, hB⟩ := c1 hro
    have hcells := d hc.wg
    have hus : us.length = vs.length := hv.length.symm
    have hrun := run_storeCells_at P l.b (l.d + off) e us 0 C w a (by have := hcells.2.1; rw [b]; omega) (hv.one_of hone)
    simp only [Nat.add_zero] at hrun
    have hln := hc.last rfl
    have hlc : off + vs.length ≤ c.cells.length := by rw [← hln]; omega
    obtain ⟨q1, q2⟩ := setAll_get vs c.cells off hlc
    have hCs : ∀ i, (C.toList.take (l.d + off) ++ us ++ C.toList.drop (l.d + off + us.length)).toArray[i]? = if l.d + off ≤ i ∧ i < l.d + off + us.length then us[i - (l.d + off)]? else C[i]? := by
      intro i
      have hds : l.d + off + us.length ≤ C.size := by have := hcells.2.1; omega
      simp only [List.getElem?_toArray, List.append_assoc]
      by_cases h1 : i < l.d + off
      · rw [List.getElem?_append_left (by simp; omega), if_neg (by omega), List.getElem?_take, if_pos h1, Array.getElem?_toList]
      · rw [List.getElem?_append_right (by simp; omega)]
        simp only [List.length_take, Array.length_toList, Nat.min_eq_left (show l.d + off ≤ C.size by omega)]
        by_cases h2 : i < l.d + off + us.length
        · rw [if_pos (by omega), List.getElem?_append_left (by omega)]
        · rw [if_neg (by omega), List.getElem?_append_right (by omega), List.getElem?_drop]
          rw [show l.d + off + us.length + (i - (l.d + off) - us.length) = i by omega, Array.getElem?_toList]
    have hsz : (C.toList.take (l.d + off) ++ us ++ C.toList.drop (l.d + off + us.length)).toArray.size = C.size := by
      have := hcells.2.1
      simp only [List.size_toArray, List.length_append, List.length_take, List.length_drop, Array.length_toList]
      omega
    refine ⟨_, hrun, ?_, ⟨.refl φ, by simp, fun o' ho' hcn hmn => ⟨hcn, hmn, ?_⟩⟩⟩
    · refine hs.turn (c := c) (c' := { c with cells := setAll c.cells off vs, wg := c.gen }) hl ho hro a hsz hro (Nat.le_refl _) (.refl φ) rfl (fun _ _ _ k => .inl k) (fun g' l' k => ?_) (fun g' l' k hg' => ?_) (fun g' l' k hb' hd' hw' => ?_) (fun g' l' k hb' hw' => ?_)
      · obtain ⟨c2, k2, k3⟩ := hs.wr.cell _ _ _ k
        rw [ho] at k2
        injection k2 with k2
        injection k2 with k2
        subst k2
        exact k3.gen
      · have hg2 : g' = c.gen := hg'
        subst hg2
        rw [hl] at k
        injection k with k
        subst k
        show l.n = (setAll c.cells off vs).length
        rw [q1, hln]
      · have hw2 : c.gen ≤ g' := hw'
        have hgg : g' = c.gen := by
          obtain ⟨c2, k2, k3⟩ := hs.wr.cell _ _ _ k
          rw [ho] at k2
          injection k2 with k2
          injection k2 with k2
          subst k2
          have := k3.gen
          omega
        subst hgg
        rw [hl] at k
        injection k with k
        subst k
        refine ⟨by rw [q1]; exact hcells.1, hcells.2.1, fun i hi' => ?_⟩
        obtain ⟨x, v, k1, k2, k3, k4⟩ := hcells.2.2 i hi'
        rw [hCs, q2]
        by_cases hin : off ≤ i ∧ i < off + vs.length
        · have hx : vs[i - off]? = some (vs[i - off]'(by omega)) := List.getElem?_eq_getElem (by omega)
          obtain ⟨u, hu, hr2⟩ := hv.get hx
          refine ⟨_, u, by rw [if_pos hin]; exact hx, ?_, hr2, List.all_eq_true.1 hone _ (List.getElem_mem _)⟩
          rw [if_pos (by omega), show l.d + i - (l.d + off) = i - off by omega]
          exact hu
        · refine ⟨x, v, by rw [if_neg hin]; exact k1, ?_, k3, k4⟩
          rw [if_neg (by omega)]
          exact k2
      · have hw2 : c.gen ≤ g' := hw'
        exfalso
        obtain ⟨c2, k2, k3⟩ := hs.wr.cell _ _ _ k
        rw [ho] at k2
        injection k2 with k2
        injection k2 with k2
        subst k2
        have := k3.gen
        have hgg : g' = c.gen := by omega
        subst hgg
        rw [hl] at k
        injection k with k
        exact hb' (by rw [k])
    · have hne : o' ≠ o := by rintro rfl; rw [hcn] at hl; cases hl
      rw [List.getElem?_set_ne (Ne.symm hne)]
  · cases hr
end
end Go.Gm

set_option linter.unusedVariables false
set_option linter.unusedSimpArgs false
namespace Go.Gm
open Go.RowKit

section
variable {B : Nat} {w0 : World} {φ : Ren} {h : Heap} {w : World}
theorem S.drew (hs : S B w0 φ h w) : S B w0 φ h w.drew :=
  ⟨⟨fun o g l hl => by obtain ⟨c, a, b⟩ := hs.wr.cell o g l hl; exact ⟨c, a, b.move rfl⟩, hs.wr.map, hs.wr.sep, hs.wr.msep⟩, hs.below.drew, hs.base⟩

theorem S.gen_none (hs : S B w0 φ h w) {o : Nat} {c : CObj} (ho : h[o]? = some (.cells c)) : φ.c o (c.gen + 1) = none := by
  cases hc : φ.c o (c.gen + 1) with
  | none => rfl
  | some l =>
    obtain ⟨c2, k2, k3⟩ := hs.wr.cell _ _ _ hc
    rw [ho] at k2
    injection k2 with k2
    injection k2 with k2
    subst k2
    have := k3.gen
    omega
theorem S.gen_le (hs : S B w0 φ h w) {o g : Nat} {l : Loc} {c : CObj} (hl : φ.c o g = some l) (ho : h[o]? = some (.cells c)) : g ≤ c.gen ∧ CellOk φ w B c g l := by
  obtain ⟨c2, k2, k3⟩ := hs.wr.cell _ _ _ hl
  rw [ho] at k2
  injection k2 with k2
  injection k2 with k2
  subst k2
  exact ⟨k3.gen, k3⟩

/-- A new object, laid at once. -/
theorem S.make (hs : S B w0 φ h w) {cs : List AV} {vs rest : List Value} (hv : VRs φ cs vs) (h1 : cs.all AV.one = true) (e : TypeId) :
    ∃ ψ, S B w0 ψ (mkObj h cs) (w.alloc (.cells (vs ++ rest).toArray e)) ∧ Kept φ h ψ (mkObj h cs) ∧ ψ.c h.length 0 = some ⟨w.heap.size, 0, (vs ++ rest).length, cs.length⟩ := by
  have hun := hs.wr.unm_of_len (o := h.length) (Nat.le_refl _)
  have hp := hs.push (.cells ⟨cs, 0, 0, false⟩)
  refine ⟨_, hp.lay (o := h.length) (cs := cs) (by simp) hun.1 hv h1 e (rest := rest), ⟨Ren.setC_le (hun.1 0), by simp [mkObj], fun o' ho' hc hm => ⟨fun g' => ?_, hm, List.getElem?_append_left ho'⟩⟩, by simp [Ren.setC]⟩
  simp only [Ren.setC]
  rw [if_neg (by omega)]
  exact hc g'

/-- A row grows into a new block. -/
theorem S.regrow (hs : S B w0 φ h w) {o : Nat} {c : CObj} (ho : h[o]? = some (.cells c)) (hro : c.ro = false) {k : Nat} {ns : List AV} {us rest : List Value} (hk : k ≤ c.cells.length)
    (hv : VRs φ (c.cells.take k ++ ns) us) (h1 : (c.cells.take k ++ ns).all AV.one = true) (e : TypeId) (hwg : c.wg ≤ c.gen) (hm : ∃ l, φ.c o c.gen = some l) :
    ∃ ψ, S B w0 ψ (h.set o (.cells { c with cells := c.cells.take k ++ ns, gen := c.gen + 1, wg := if k = c.cells.length then c.wg else c.gen + 1 })) (w.alloc (.cells (us ++ rest).toArray e)) ∧
      Kept φ h ψ (h.set o (.cells { c with cells := c.cells.take k ++ ns, gen := c.gen + 1, wg := if k = c.cells.length then c.wg else c.gen + 1 })) ∧
      ψ.c o (c.gen + 1) = some ⟨w.heap.size, 0, (us ++ rest).length, (c.cells.take k ++ ns).length⟩ := by
  have hol : o < h.length := (List.getElem?_eq_some_iff.1 ho).1
  have hnone := hs.gen_none ho
  have hle : φ.le (φ.setC o (c.gen + 1) ⟨w.heap.size, 0, (us ++ rest).length, (c.cells.take k ++ ns).length⟩) := Ren.setC_le hnone
  have heapSet : ∀ o', o' ≠ o → (h.set o (.cells { c with cells := c.cells.take k ++ ns, gen := c.gen + 1, wg := if k = c.cells.length then c.wg else c.gen + 1 }))[o']? = h[o']? := fun o' hne => by rw [List.getElem?_set_ne (Ne.symm hne)]
  have heapO : (h.set o (.cells { c with cells := c.cells.take k ++ ns, gen := c.gen + 1, wg := if k = c.cells.length then c.wg else c.gen + 1 }))[o]? = some (.cells { c with cells := c.cells.take k ++ ns, gen := c.gen + 1, wg := if k = c.cells.length then c.wg else c.gen + 1 }) := by rw [List.getElem?_set_self hol]
  have hwg' : (if k = c.cells.length then c.wg else c.gen + 1) ≤ c.gen + 1 := by split <;> omega
  have new : ∀ o' g' l', φ.c o' g' = some l' → l'.b < w.heap.size := fun o' g' l' hl' => by
    obtain ⟨c, _, h3⟩ := hs.wr.cell o' g' l' hl'
    exact h3.lt
  refine ⟨φ.setC o (c.gen + 1) ⟨w.heap.size, 0, (us ++ rest).length, (c.cells.take k ++ ns).length⟩, ⟨⟨fun o' g' l' hl' => ?_, fun o' b' hb' => ?_, ?_, hs.wr.msep⟩, hs.below.alloc hs.base _, by simp; have := hs.base; omega⟩, ⟨hle, by simp, fun o' ho' hc hm' => ⟨fun g' => ?_, hm', ?_⟩⟩, by simp [Ren.setC]⟩
  · simp only [Ren.setC] at hl'
    split at hl'
    · rename_i hcc
      obtain ⟨rfl, rfl⟩ := hcc
      injection hl' with hl'
      subst hl'
      refine ⟨_, heapO, ⟨Nat.le_refl _, hwg', ⟨_, e, (0, 0), alloc_heap_new w _, by simp, fun _ => ⟨rfl, hs.base⟩, fun _ => ⟨Nat.le_refl _, by simp [← hv.length], fun i hi => ?_⟩⟩, fun _ => rfl⟩⟩
      simp only at hi ⊢
      obtain ⟨v, hv', hr⟩ := hv.get (i := i) (x := (c.cells.take k ++ ns)[i]'hi) (List.getElem?_eq_getElem hi)
      refine ⟨_, v, List.getElem?_eq_getElem hi, ?_, hr.mono hle, List.all_eq_true.1 h1 _ (List.getElem_mem hi)⟩
      have : i < us.length := by rw [← hv.length]; exact hi
      simp only [Nat.zero_add, List.getElem?_toArray]
      rw [List.getElem?_append_left this]
      exact hv'
    · by_cases hoo : o' = o
      · subst hoo
        obtain ⟨hg, hcell⟩ := hs.gen_le hl' ho
        refine ⟨_, heapO, ⟨by simp only; omega, hwg', ?_, fun hgg => by simp only at hgg; omega⟩⟩
        obtain ⟨C, e2, fr, a, b, c1, d⟩ := hcell.blk
        refine ⟨C, e2, fr, (alloc_heap_old w _ _ hcell.lt).trans a, b, c1, fun hw => ?_⟩
        simp only at hw ⊢
        split at hw
        · rename_i hkl
          obtain ⟨p1, p2, p3⟩ := d hw
          refine ⟨by simp; omega, p2, fun i hi => ?_⟩
          obtain ⟨x, v, q1, q2, q3, q4⟩ := p3 i hi
          exact ⟨x, v, by rw [List.getElem?_append_left (by simp; omega), List.getElem?_take, if_pos (by omega)]; exact q1, q2, q3.mono hle, q4⟩
        · omega
      · obtain ⟨c2, h2, h3⟩ := hs.wr.cell o' g' l' hl'
        exact ⟨c2, (heapSet _ hoo).trans h2, (h3.move (alloc_heap_old w _ _ h3.lt)).mono hle⟩
  · obtain ⟨ks, es, h2, h3, es', clk, h4, h5⟩ := hs.wr.map o' b' hb'
    have hne : o' ≠ o := by rintro rfl; rw [ho] at h2; cases h2
    exact ⟨ks, es, (heapSet _ hne).trans h2, h3, es', clk, (alloc_heap_old w _ _ (heap_lt h4)).trans h4, h5.mono hle⟩
  · intro o1 g1 l1 o2 g2 l2 e1 e2 hbb
    have ro1 : ∀ o', isRo (h.set o (.cells { c with cells := c.cells.take k ++ ns, gen := c.gen + 1, wg := if k = c.cells.length then c.wg else c.gen + 1 })) o' = isRo h o' := fun o' => by
      by_cases hoo : o' = o
      · subst hoo; simp [isRo, heapO, ho]
      · simp [isRo, heapSet _ hoo]
    rw [ro1, ro1]
    simp only [Ren.setC] at e1 e2
    split at e1
    · rename_i c1
      injection e1 with e1
      subst e1
      split at e2
      · rename_i c2
        injection e2 with e2
        subst e2
        exact .inl ⟨c1.1.trans c2.1.symm, rfl⟩
      · have := new _ _ _ e2
        simp only at hbb
        omega
    · split at e2
      · injection e2 with e2
        subst e2
        have := new _ _ _ e1
        simp only at hbb
        omega
      · exact hs.wr.sep _ _ _ _ _ _ e1 e2 hbb
  · have hne : o' ≠ o := by
      rintro rfl
      obtain ⟨l, hl⟩ := hm
      rw [hc] at hl; cases hl
    simp only [Ren.setC]
    rw [if_neg (fun q => hne q.1)]
    exact hc g'
  · have hne : o' ≠ o := by
      rintro rfl
      obtain ⟨l, hl⟩ := hm
      rw [hc] at hl; cases hl
    exact heapSet _ hne

/-- A row grows within its block. -/
theorem S.grow (hs : S B w0 φ h w) {o : Nat} {c : CObj} (ho : h[o]? = some (.cells c)) (hro : c.ro = false) {l : Loc} (hl : φ.c o c.gen = some l) {k : Nat} {ns : List AV} {us : List Value} (hk : k ≤ c.cells.length)
    (hv : VRs φ ns us) (h1 : ns.all AV.one = true) {C : Array Value} {e : TypeId} (hb : w.heap[l.b]? = some (.cells C e (0, 0))) (hfit : l.d + k + us.length ≤ C.size) :
    ∃ ψ, S B w0 ψ (h.set o (.cells { c with cells := c.cells.take k ++ ns, gen := c.gen + 1, wg := if k = c.cells.length then c.wg else c.gen + 1 })) (w.setRow l.b (C.toList.take (l.d + k) ++ us ++ C.toList.drop (l.d + k + us.length)).toArray) ∧
      Kept φ h ψ (h.set o (.cells { c with cells := c.cells.take k ++ ns, gen := c.gen + 1, wg := if k = c.cells.length then c.wg else c.gen + 1 })) ∧
      ψ.c o (c.gen + 1) = some ⟨l.b, l.d, l.N, (c.cells.take k ++ ns).length⟩ := by
  have hnone := hs.gen_none ho
  have hle : φ.le (φ.setC o (c.gen + 1) ⟨l.b, l.d, l.N, (c.cells.take k ++ ns).length⟩) := Ren.setC_le hnone
  obtain ⟨_, hcell⟩ := hs.gen_le hl ho
  have hwg := hcell.wg
  obtain ⟨C0, e0, fr0, a0, b0, c0, d0⟩ := hcell.blk
  rw [hb] at a0
  injection a0 with a0
  injection a0 with aC ae afr
  subst aC
  have hcells := d0 hwg
  have hln := hcell.last rfl
  have hus := hv.length
  have hwg' : (if k = c.cells.length then c.wg else c.gen + 1) ≤ c.gen + 1 := by split <;> omega
  have hsz : (C.toList.take (l.d + k) ++ us ++ C.toList.drop (l.d + k + us.length)).toArray.size = C.size := by
    simp only [List.size_toArray, List.length_append, List.length_take, List.length_drop, Array.length_toList]
    omega
  have hCs : ∀ i, (C.toList.take (l.d + k) ++ us ++ C.toList.drop (l.d + k + us.length)).toArray[i]? = if l.d + k ≤ i ∧ i < l.d + k + us.length then us[i - (l.d + k)]? else C[i]? := by
    intro i
    simp only [List.getElem?_toArray, List.append_assoc]
    by_cases h1 : i < l.d + k
    · rw [List.getElem?_append_left (by simp; omega), if_neg (by omega), List.getElem?_take, if_pos h1, Array.getElem?_toList]
    · rw [List.getElem?_append_right (by simp; omega)]
      simp only [List.length_take, Array.length_toList, Nat.min_eq_left (show l.d + k ≤ C.size by omega)]
      by_cases h2 : i < l.d + k + us.length
      · rw [if_pos (by omega), List.getElem?_append_left (by omega)]
      · rw [if_neg (by omega), List.getElem?_append_right (by omega), List.getElem?_drop]
        rw [show l.d + k + us.length + (i - (l.d + k) - us.length) = i by omega, Array.getElem?_toList]
  have hlen : (c.cells.take k ++ ns).length = k + us.length := by simp [hus]; omega
  refine ⟨φ.setC o (c.gen + 1) ⟨l.b, l.d, l.N, (c.cells.take k ++ ns).length⟩, hs.turn (c := c) (c' := { c with cells := c.cells.take k ++ ns, gen := c.gen + 1, wg := if k = c.cells.length then c.wg else c.gen + 1 }) hl ho hro hb hsz hro hwg' hle rfl (fun o' g' l' k' => ?_) (fun g' l' k' => ?_) (fun g' l' k' hg' => ?_) (fun g' l' k' hb' hd' hw' => ?_) (fun g' l' k' hb' hw' => ?_), ⟨hle, by simp, fun o' ho' hc hm' => ⟨fun g' => ?_, hm', ?_⟩⟩, by simp [Ren.setC]⟩
  · simp only [Ren.setC] at k'
    split at k'
    · rename_i hcc
      injection k' with k'
      subst k'
      exact .inr ⟨hcc.1, rfl, rfl, rfl⟩
    · exact .inl k'
  · simp only [Ren.setC] at k'
    split at k'
    · rename_i hcc
      show g' ≤ c.gen + 1
      omega
    · have := (hs.gen_le k' ho).1
      show g' ≤ c.gen + 1
      omega
  · have hg2 : g' = c.gen + 1 := hg'
    simp only [Ren.setC] at k'
    split at k'
    · injection k' with k'
      subst k'
      rfl
    · have := (hs.gen_le k' ho).1
      omega
  · have hw2 : (if k = c.cells.length then c.wg else c.gen + 1) ≤ g' := hw'
    show CellsAt _ (c.cells.take k ++ ns) l' _
    have old : ∀ i, i < k → i < l.n → ∃ x v, (c.cells.take k ++ ns)[i]? = some x ∧ (C.toList.take (l.d + k) ++ us ++ C.toList.drop (l.d + k + us.length)).toArray[l.d + i]? = some v ∧ VR (φ.setC o (c.gen + 1) ⟨l.b, l.d, l.N, (c.cells.take k ++ ns).length⟩) x v ∧ x.one = true := by
      intro i hik hi
      obtain ⟨x, v, q1, q2, q3, q4⟩ := hcells.2.2 i hi
      refine ⟨x, v, ?_, ?_, q3.mono hle, q4⟩
      · rw [List.getElem?_append_left (by simp; omega), List.getElem?_take, if_pos hik]; exact q1
      · rw [hCs, if_neg (by omega)]; exact q2
    simp only [Ren.setC] at k'
    split at k'
    · injection k' with k'
      subst k'
      refine ⟨Nat.le_refl _, by simp only [hlen]; omega, fun i hi => ?_⟩
      simp only [hlen] at hi
      simp only
      by_cases hik : i < k
      · exact old i hik (by omega)
      · have hin : i - k < ns.length := by omega
        obtain ⟨u, hu, hr⟩ := hv.get (i := i - k) (x := ns[i - k]'hin) (List.getElem?_eq_getElem hin)
        refine ⟨ns[i - k]'hin, u, ?_, ?_, hr.mono hle, List.all_eq_true.1 h1 _ (List.getElem_mem hin)⟩
        · rw [List.getElem?_append_right (by simp; omega)]
          simp only [List.length_take, Nat.min_eq_left hk]
          exact List.getElem?_eq_getElem hin
        · rw [hCs, if_pos (by omega), show l.d + i - (l.d + k) = i - k by omega]
          exact hu
    · obtain ⟨hgg, hcell2⟩ := hs.gen_le k' ho
      split at hw2
      · rename_i hkl
        obtain ⟨C2, e2, fr2, m1, m2, m3, m4⟩ := hcell2.blk
        obtain ⟨p1, p2, p3⟩ := m4 hw2
        refine ⟨by rw [hlen]; omega, p2, fun i hi => ?_⟩
        rw [hd']
        exact old i (by omega) (by omega)
      · omega
  · have hw2 : (if k = c.cells.length then c.wg else c.gen + 1) ≤ g' := hw'
    obtain ⟨hgg, hcell2⟩ := hs.gen_le k' ho
    split at hw2
    · rename_i hkl
      refine ⟨hw2, fun i hi => ?_⟩
      obtain ⟨C2, e2, fr2, m1, m2, m3, m4⟩ := hcell2.blk
      obtain ⟨p1, p2, p3⟩ := m4 hw2
      show (c.cells.take k ++ ns)[i]? = c.cells[i]?
      rw [List.getElem?_append_left (by simp; omega), List.getElem?_take, if_pos (by omega)]
    · omega
  · have hne : o' ≠ o := by rintro rfl; rw [hc] at hl; cases hl
    simp only [Ren.setC]
    rw [if_neg (fun q => hne q.1)]
    exact hc g'
  · have hne : o' ≠ o := by rintro rfl; rw [hc] at hl; cases hl
    rw [List.getElem?_set_ne (Ne.symm hne)]
end
end Go.Gm

set_option linter.unusedVariables false
set_option linter.unusedSimpArgs false
namespace Go.Gm
open Go.RowKit

section
variable {P : Program} (w : World)
theorem run_append_room_at (t ty e : TypeId) (i : TypeInfo) (ht : P.underlying t = some (.slice e)) (hi : P.info? e = some i)
    (g d sLen sCap : Nat) (cur : Array Value) (et : TypeId) (hg : w.heap[g]? = some (.cells cur et (0, 0)))
    (a : Addr) (m c : Nat) (news : List Value) (hl : news.length = m * i.size) (hnews : ∀ j u, news[j]? = some u → w.cell? (a.add j) = some u) (h1 : ∀ u ∈ news, u.oneCell' = true)
    (hroom : sLen + m ≤ sCap) (hfit : d + sLen * i.size + news.length ≤ cur.size) :
    (Builtin.append_ #[t, t] ty #[.slice (some ⟨g, d, none⟩) sLen sCap, .slice (some a) m c]).run P w =
      .ok (.slice (some ⟨g, d, none⟩) (sLen + m) sCap) (w.setRow g (cur.toList.take (d + sLen * i.size) ++ news ++ cur.toList.drop (d + sLen * i.size + news.length)).toArray) := by
  have hf := run_firstCells_some (P := P) w i.size m a m c news hl hnews
  have hst := run_storeCells_at P g (d + sLen * i.size) et news 0 cur w hg (by simpa using hfit) h1
  simp only [Nat.add_zero] at hst
  simp [Builtin.append_, run_underlying ht, sizeOf, typeInfo, hi, Builtin.lenOf, hroom, hf, add_at, hst]
theorem run_append_zero (t ty e : TypeId) (i : TypeInfo) (ht : P.underlying t = some (.slice e)) (hi : P.info? e = some i) (b : Option Addr) (sLen sCap : Nat) (hcap : sLen ≤ sCap) (a : Option Addr) (c : Nat) :
    (Builtin.append_ #[t, t] ty #[.slice b sLen sCap, .slice a 0 c]).run P w = .ok (.slice b sLen sCap) w := by
  cases a <;> cases b <;> simp [Builtin.append_, run_underlying ht, sizeOf, typeInfo, hi, Builtin.lenOf, Builtin.firstCells, loadCells, loadCellsFrom, storeCells, hcap]
end

/-- What the element type of a slice is. -/
structure ElemOk (P : Program) (t e : TypeId) (i : TypeInfo) (z : Value) (sz bytes : Nat) : Prop where
  under : P.underlying t = some (.slice e)
  info : P.info? e = some i
  zero : i.zero = some z
  size : i.size = sz
  bytes : i.bytes = bytes
  cells : z.cells.size = sz

theorem cap_room {m G sz : Nat} (h : m ≤ G) : G * sz = m * sz + (G - m) * sz := by rw [← Nat.add_mul, Nat.add_sub_cancel' h]
theorem grownCap_le_max (w : World) (need old : Nat) (e : TypeId) (h : need ≤ 140737488355328) : grownCap w need old e ≤ maxLen := grownCap_le_maxLen w need old e (by unfold maxLen; omega)

section
variable {B : Nat} {w0 : World} {φ : Ren} {h : Heap} {w : World} {P : Program}
theorem VR.slice_form {x : AV} {o off len sz g : Nat} {lim : Option Nat} {v : Value} (hv : VR φ x v) (hx : x = .sl o off len sz lim g) :
    (∃ l, φ.c o g = some l ∧ off ≤ l.n ∧ ∃ cap, v = .slice (some ⟨l.b, l.d + off, none⟩) len cap ∧ off + len * sz ≤ l.n ∧ len ≤ cap ∧ cap ≤ maxLen ∧ l.d + off + cap * sz ≤ l.N ∧ ∀ c, lim = some c → cap = c) ∨
      (len = 0 ∧ ∃ a, v = .slice (some a) 0 0 ∧ (∀ c, lim = some c → c = 0) ∧ (lim = none → ∃ l, φ.c o g = some l ∧ off ≤ l.n)) := by
  cases hv with
  | sl e a b c d f =>
    injection hx with h1 h2 h3 h4 h5 h6
    subst h1 h2 h3 h4 h5 h6
    exact .inl ⟨_, e, by omega, _, rfl, a, b, c, d, f⟩
  | sl0 e b =>
    injection hx with h1 h2 h3 h4 h5 h6
    subst h1 h2 h3 h4 h5 h6
    exact .inr ⟨rfl, _, rfl, b, e⟩
  | _ => cases hx

/-- The cells that an append lays behind. -/
theorem S.news (hs : S B w0 φ h w) {sz m : Nat} {x : AV} {ns : List AV} {x' : Value} (hx : VR φ x x') (hn : news sz x h = some (m, ns)) :
    (m = 0 ∧ ∃ a c, x' = .slice a 0 c) ∨ ∃ a c us, x' = .slice (some a) m c ∧ us.length = m * sz ∧ ns.length = m * sz ∧ VRs φ ns us ∧ ns.all AV.one = true ∧ ∀ (j : Nat) u, us[j]? = some u → w.cell? (a.add j) = some u := by
  cases x with
  | nils =>
    simp only [Gm.news, Option.some.injEq, Prod.mk.injEq] at hn
    obtain ⟨rfl, rfl⟩ := hn
    cases hx
    exact .inl ⟨rfl, none, 0, rfl⟩
  | sl o off len sz' lim g =>
    simp only [Gm.news] at hn
    split at hn
    · rename_i hsz
      subst hsz
      cases hr : rdc h o off (len * sz') g with
      | none => rw [hr] at hn; cases hn
      | some cs =>
        rw [hr] at hn
        simp only [Option.map_some, Option.some.injEq, Prod.mk.injEq] at hn
        obtain ⟨rfl, rfl⟩ := hn
        rcases hx.slice_form rfl with ⟨l, hl, _, hc⟩ | hc
        · obtain ⟨cap, rfl, h1, h2, h3, h4, h5⟩ := hc
          obtain ⟨us, k1, k2, k3, k4, k5⟩ := hs.cellsAt hl (n := len * sz') h1 hr
          exact .inr ⟨_, cap, us, rfl, k1, k4, k2, k3, k5⟩
        · obtain ⟨rfl, a, rfl, _⟩ := hc
          exact .inl ⟨rfl, some a, 0, rfl⟩
    · cases hn
  | _ => simp [Gm.news] at hn

theorem S.apnd (hs : S B w0 φ h w) {t ty e : TypeId} {i : TypeInfo} {z : Value} {sz bytes : Nat} (he : ElemOk P t e i z sz bytes) {s x : AV} {s' x' : Value} (hsv : VR φ s s') (hx : VR φ x x')
    {v : AV} {h' : Heap} (ha : apnd sz bytes s x h = some (v, h')) :
    ∃ ψ v' w', (Builtin.append_ #[t, t] ty #[s', x']).run P w = .ok v' w' ∧ VR ψ v v' ∧ S B w0 ψ h' w' ∧ Kept φ h ψ h' := by
  obtain ⟨hu, hi, hz, hsz, hby, hzc⟩ := he
  unfold Gm.apnd at ha
  cases hn : Gm.news sz x h with
  | none => rw [hn] at ha; cases ha
  | some p =>
    obtain ⟨m, ns⟩ := p
    rw [hn] at ha
    simp only at ha
    have hnews := hs.news hx hn
    cases s with
    | nils =>
      cases hsv
      simp only at ha
      split at ha
      · rename_i hm
        injection ha with ha
        injection ha with ha1 ha2
        subst ha1 ha2
        rcases hnews with ⟨_, a, c, rfl⟩ | ⟨a, c, us, rfl, _⟩
        · exact ⟨φ, _, w, run_append_zero w t ty e i hu hi none 0 0 (Nat.le_refl _) a c, .nils, hs, .refl _ _⟩
        · subst hm
          exact ⟨φ, _, w, run_append_zero w t ty e i hu hi none 0 0 (Nat.le_refl _) (some a) c, .nils, hs, .refl _ _⟩
      · rename_i hm
        split at ha
        · rename_i hb
          obtain ⟨hb1, hb2, hb3, hb4⟩ := hb
          injection ha with ha
          injection ha with ha1 ha2
          subst ha1 ha2
          rcases hnews with ⟨h0, _⟩ | ⟨a, c, us, rfl, k1, k2, k3, k4, k5⟩
          · exact absurd h0 hm
          · have hmb : m ≤ m * bytes := Nat.le_mul_of_pos_right m hb4
            have hrun := run_append_nil (P := P) w t ty e i z hu hi hz a m c us (by rw [hsz]; exact k1) k5 (by omega) (by omega) (by rw [hby]; omega)
            have hcell : us.toArray ++ Builtin.zeroCells z.cells (grownCap w m 0 e - m) = (us ++ (Builtin.zeroCells z.cells (grownCap w m 0 e - m)).toList).toArray := by
              apply Array.ext'; simp
            rw [hcell] at hrun
            obtain ⟨ψ, p1, p2, p3⟩ := hs.drew.make (cs := ns) (vs := us) (rest := (Builtin.zeroCells z.cells (grownCap w m 0 e - m)).toList) k3 k4 e
            refine ⟨ψ, _, _, hrun, ?_, p1, p2⟩
            have hcap := grownCap_ge w m 0 e
            have hr := cap_room (sz := sz) hcap
            exact VR.sl (φ := ψ) (off := 0) (len := m) (sz := sz) (cap := grownCap w m 0 e) (lim := none) p3 (by simp only; omega) hcap (grownCap_le_max w m 0 e (by omega))
              (by simp only [List.length_append, Array.length_toList, size_zeroCells, hzc, Nat.zero_add]; omega) (fun _ q => by cases q)
        · cases ha
    | sl o off len sz' lim g =>
      have hform := hsv.slice_form rfl
      simp only at ha
      split at ha
      · rename_i hm
        injection ha with ha
        injection ha with ha1 ha2
        subst ha1 ha2 hm
        have hx0 : ∃ a c, x' = .slice a 0 c := by
          rcases hnews with ⟨_, q⟩ | ⟨a, c, us, rfl, _⟩
          · exact q
          · exact ⟨_, _, rfl⟩
        obtain ⟨a, c, rfl⟩ := hx0
        rcases hform with ⟨_, _, _, cap, rfl, _, hcap, _⟩ | ⟨rfl, b, rfl, _⟩
        · exact ⟨φ, _, w, run_append_zero w t ty e i hu hi _ len cap hcap a c, hsv, hs, .refl _ _⟩
        · exact ⟨φ, _, w, run_append_zero w t ty e i hu hi _ 0 0 (Nat.le_refl _) a c, hsv, hs, .refl _ _⟩
      · rename_i hm
        split at ha
        · cases ha
        · rename_i hb
          simp only [Decidable.not_not] at hb
          obtain ⟨hsz', hb1, hb2, hb3, hb4⟩ := hb
          subst hsz'
          obtain ⟨a, c, us, rfl, k1, k2, k3, k4, k5⟩ : ∃ a c us, x' = .slice (some a) m c ∧ us.length = m * sz' ∧ ns.length = m * sz' ∧ VRs φ ns us ∧ ns.all AV.one = true ∧ ∀ (j : Nat) u, us[j]? = some u → w.cell? (a.add j) = some u := by
            rcases hnews with ⟨h0, _⟩ | q
            · exact absurd h0 hm
            · exact q
          have hmb : len + m ≤ (len + m) * bytes := Nat.le_mul_of_pos_right _ hb4
          -- growing into a new block, from whatever stands
          have grow : ∀ (b : Addr) (cap : Nat) (olds : List Value), olds.length = len * sz' → (∀ (j : Nat) u, olds[j]? = some u → w.cell? (b.add j) = some u) → cap < len + m →
              ∃ rest : List Value, (Builtin.append_ #[t, t] ty #[.slice (some b) len cap, .slice (some a) m c]).run P w = .ok (.slice (some ⟨w.heap.size, 0, none⟩) (len + m) (grownCap w (len + m) cap e)) (w.drew.alloc (.cells ((olds ++ us) ++ rest).toArray e)) ∧ ((olds ++ us) ++ rest).length = grownCap w (len + m) cap e * sz' := by
            intro b cap olds ho1 ho2 hlt
            have hrun := run_append_grow (P := P) w t ty e i z hu hi hz b len cap olds (by rw [hsz]; exact ho1) ho2 a m c us (by rw [hsz]; exact k1) k5 hlt (by omega) (growslice_fits hlt (by rw [hby]; exact hb1))
            have hcell : olds.toArray ++ us.toArray ++ Builtin.zeroCells z.cells (grownCap w (len + m) cap e - (len + m)) = ((olds ++ us) ++ (Builtin.zeroCells z.cells (grownCap w (len + m) cap e - (len + m))).toList).toArray := by
              apply Array.ext'; simp
            rw [hcell] at hrun
            refine ⟨_, hrun, ?_⟩
            have hr := cap_room (sz := sz') (grownCap_ge w (len + m) cap e)
            have hlm : (len + m) * sz' = len * sz' + m * sz' := Nat.add_mul ..
            simp only [List.length_append, Array.length_toList, size_zeroCells, hzc, ho1, k1]
            omega
          cases lim with
          | some cl =>
            simp only at ha
            split at ha
            · cases ha
            · rename_i hfull
              cases hr : rdc h o off (len * sz') g with
              | none => rw [hr] at ha; cases ha
              | some old =>
                rw [hr] at ha
                simp only [Option.map_some, Option.some.injEq, Prod.mk.injEq] at ha
                obtain ⟨rfl, rfl⟩ := ha
                have fin : ∀ (b : Addr) (cap : Nat) (olds : List Value), s' = .slice (some b) len cap → cap < len + m → olds.length = len * sz' → VRs φ old olds → old.all AV.one = true → old.length = len * sz' → (∀ (j : Nat) u, olds[j]? = some u → w.cell? (b.add j) = some u) →
                    ∃ ψ v' w', (Builtin.append_ #[t, t] ty #[s', .slice (some a) m c]).run P w = .ok v' w' ∧ VR ψ (.sl h.length 0 (len + m) sz' none 0) v' ∧ S B w0 ψ (mkObj h (old ++ ns)) w' ∧ Kept φ h ψ (mkObj h (old ++ ns)) := by
                  intro b cap olds hs' hlt q1 q2 q3 q4 q5
                  subst hs'
                  obtain ⟨rest, hrun, hlen⟩ := grow b cap olds q1 q5 hlt
                  obtain ⟨ψ, p1, p2, p3⟩ := hs.drew.make (cs := old ++ ns) (vs := olds ++ us) (rest := rest) (q2.append k3) (by rw [List.all_append, q3, k4]; rfl) e
                  refine ⟨ψ, _, _, hrun, ?_, p1, p2⟩
                  have hlm : (len + m) * sz' = len * sz' + m * sz' := Nat.add_mul ..
                  exact VR.sl (φ := ψ) (off := 0) (lim := none) p3 (by simp only [List.length_append]; omega) (grownCap_ge ..) (grownCap_le_max w _ _ e (by omega)) (by simp only [hlen]; omega) (fun _ q => by cases q)
                rcases hform with ⟨l, hl, hoff, cap, hsv', h1, h2, h3, h4, h5⟩ | ⟨hl0, b, hsv', h5, _⟩
                · have := h5 cl rfl
                  obtain ⟨olds, q1, q2, q3, q4, q5⟩ := hs.cellsAt hl h1 hr
                  exact fin _ cap olds hsv' (by omega) q1 q2 q3 q4 q5
                · subst hl0
                  have ho0 : old = [] := by
                    unfold rdc at hr
                    split at hr
                    · split at hr
                      · injection hr with hr; rw [← hr]; simp
                      · cases hr
                    · cases hr
                  subst ho0
                  exact fin b 0 [] hsv' (by omega) (by simp) .nil rfl (by simp) (fun j u q => by simp at q)
          | none =>
            simp only at ha
            split at ha
            · rename_i c2 ho
              split at ha
              · rename_i hcond
                obtain ⟨hro, hg, hoff0⟩ := hcond
                injection ha with ha
                injection ha with ha1 ha2
                subst ha1 ha2 hg hoff0
                obtain ⟨l, hl, hoff⟩ : ∃ l, φ.c o c2.gen = some l ∧ 0 ≤ l.n := by
                  rcases hform with ⟨l, hl, hoff, _⟩ | ⟨_, _, _, _, q⟩
                  · exact ⟨l, hl, hoff⟩
                  · exact q rfl
                obtain ⟨_, hcell⟩ := hs.gen_le hl ho
                have hln := hcell.last rfl
                have hlm : (len + m) * sz' = len * sz' + m * sz' := Nat.add_mul ..
                have regrow : ∀ (b : Addr) (cap : Nat) (olds : List Value), s' = .slice (some b) len cap → cap < len + m → len * sz' ≤ c2.cells.length → olds.length = len * sz' → VRs φ (c2.cells.take (len * sz')) olds → (c2.cells.take (len * sz')).all AV.one = true → (∀ (j : Nat) u, olds[j]? = some u → w.cell? (b.add j) = some u) →
                    ∃ ψ v' w', (Builtin.append_ #[t, t] ty #[s', .slice (some a) m c]).run P w = .ok v' w' ∧ VR ψ (.sl o 0 (len + m) sz' none (c2.gen + 1)) v' ∧ S B w0 ψ (h.set o (.cells { c2 with cells := c2.cells.take (len * sz') ++ ns, gen := c2.gen + 1, wg := if len * sz' = c2.cells.length then c2.wg else c2.gen + 1 })) w' ∧ Kept φ h ψ (h.set o (.cells { c2 with cells := c2.cells.take (len * sz') ++ ns, gen := c2.gen + 1, wg := if len * sz' = c2.cells.length then c2.wg else c2.gen + 1 })) := by
                  intro b cap olds hs' hlt q0 q1 q2 q3 q5
                  subst hs'
                  obtain ⟨rest, hrun, hlen⟩ := grow b cap olds q1 q5 hlt
                  obtain ⟨ψ, p1, p2, p3⟩ := hs.drew.regrow ho hro (k := len * sz') (ns := ns) (us := olds ++ us) (rest := rest) q0 (q2.append k3) (by rw [List.all_append, q3, k4]; rfl) e hcell.wg ⟨l, hl⟩
                  refine ⟨ψ, _, _, hrun, ?_, p1, p2⟩
                  exact VR.sl (φ := ψ) (off := 0) (lim := none) p3 (by simp only [List.length_append, List.length_take]; omega) (grownCap_ge ..) (grownCap_le_max w _ _ e (by omega)) (by simp only [hlen]; omega) (fun _ q => by cases q)
                rcases hform with ⟨l', hl', hoff', cap, hsv', h1, h2, h3, h4, h5⟩ | ⟨hl0, b, hsv', h5, _⟩
                · obtain rfl : l = l' := by rw [hl] at hl'; injection hl'
                  have hle : len * sz' ≤ c2.cells.length := by omega
                  by_cases hroom : len + m ≤ cap
                  · subst hsv'
                    obtain ⟨C, et, fr, m1, m2, m3, m4⟩ := hcell.blk
                    obtain ⟨rfl, hB⟩ := m3 hro
                    have hcs : (len + m) * sz' ≤ cap * sz' := Nat.mul_le_mul_right _ hroom
                    have hrun := run_append_room_at (P := P) w t ty e i hu hi l.b (l.d + 0) len cap C et m1 a m c us (by rw [hsz]; exact k1) k5 (k3.one_of k4) hroom (by rw [hsz]; omega)
                    obtain ⟨ψ, p1, p2, p3⟩ := hs.grow ho hro hl (k := len * sz') (ns := ns) (us := us) hle k3 k4 m1 (by omega)
                    rw [hsz] at hrun
                    refine ⟨ψ, _, _, hrun, ?_, p1, p2⟩
                    exact VR.sl (φ := ψ) (off := 0) (lim := none) (l := ⟨l.b, l.d, l.N, (c2.cells.take (len * sz') ++ ns).length⟩) p3 (by simp only [List.length_append, List.length_take]; omega) hroom h3 h4 (fun _ q => by cases q)
                  · have hrd : rdc h o 0 (len * sz') c2.gen = some (c2.cells.take (len * sz')) := by
                      simp [rdc, ho, hcell.wg]
                    obtain ⟨olds, q1, q2, q3, q4, q5⟩ := hs.cellsAt hl h1 hrd
                    exact regrow _ cap olds hsv' (by omega) hle q1 q2 q3 q5
                · subst hl0
                  exact regrow b 0 [] hsv' (by omega) (by simp) (by simp) (by simpa using VRs.nil) (by simp) (fun j u q => by simp at q)
              · cases ha
            · cases ha
    | _ => simp at ha
end
end Go.Gm
