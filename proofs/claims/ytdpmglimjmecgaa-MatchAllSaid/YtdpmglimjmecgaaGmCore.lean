/- A deterministic abstract machine: functions are proved once over it, without orders of evaluation and without capacities. Definitions alone. -/
import Derived.Tactics
set_option linter.unusedVariables false
set_option linter.unusedSimpArgs false
namespace Go.Gm

/-- Abstract values: objects by number; slices with the generation of their object at which they were made (lim: the capacity, where it is known). -/
inductive AV where
  | undef
  | bool (b : Bool)
  | int (k : IntKind) (n : Int)
  | str (s : ByteArray)
  | nilp
  | ptr (o off hi g : Nat)
  | nils
  | sl (o off len sz : Nat) (lim : Option Nat) (g : Nat)
  | nilmap
  | map (o : Nat)
  | nilfn
  | fn (f : FuncId) (first captured : List AV)
  | nilifc
  | ifc (t : TypeId) (v : AV)
  | agg (cs : List AV)
  | tup (vs : List AV)
  deriving Inhabited

/-- A row of cells. gen: how often it has grown; wg: the growth at which it was last written in place (elder slices of it are dead); ro: it came in, nothing writes to it. -/
structure CObj where
  cells : List AV
  gen : Nat
  wg : Nat
  ro : Bool
  deriving Inhabited

/-- What a map's keys are: of one cell, or a row of such. -/
inductive KC where
  | i (q : IntKind) | s | b
  deriving DecidableEq, Inhabited
inductive KS where
  | one (c : KC)
  | row (cs : List KC)
  deriving DecidableEq, Inhabited
def fitC : KC → AV → Bool
  | .i q, .int k n => decide (k = q) && (decide (q.min ≤ n) && decide (n ≤ q.max))
  | .s, .str s => decide (s.size ≤ 140737488355328)
  | .b, .bool _ => true
  | _, _ => false
def fitL : List KC → List AV → Bool
  | [], [] => true
  | c :: cs, v :: vs => fitC c v && fitL cs vs
  | _, _ => false
def fitK : KS → AV → Bool
  | .one c, v => fitC c v
  | .row cs, .agg vs => fitL cs vs
  | _, _ => false

inductive AObj where
  | cells (c : CObj)
  | map (ks : KS) (es : List (AV × AV))
  deriving Inhabited

abbrev Heap := List AObj
abbrev Frm := List AV

inductive Opd where
  | tmp (t : Nat)
  | const (v : AV)
  deriving Inhabited

/-- What two values are that are held against each other by == or !=. -/
inductive EK where
  | scalar | bool | ptr | slice | map
  deriving DecidableEq, Inhabited

inductive MOp where
  | mv (x : Opd)
  | pick (c a b : Opd)
  | alloc (zero : List AV)
  | box (x : Opd)
  | build (zero : List AV) (parts : List (Nat × Nat × Opd))
  | buildSlice (sz len : Nat) (zero : List AV) (parts : List (Nat × Nat × Opd))
  | load (n : Option Nat) (a : Opd)
  | store (n : Nat) (a x : Opd)
  | nilCheck (x : Opd)
  | bin (op : BinOp) (ek : EK) (x y : Opd)
  | un (op : UnOp) (x : Opd)
  | convI (k : IntKind) (x : Opd)
  | b2s (x : Opd)
  | mkIfc (t : TypeId) (x : Opd)
  | mkFn (f : FuncId) (first captured : List Opd)
  | mkMap (ks : KS)
  | mkSlice (zero : List AV) (sz bytes : Nat) (len cap : Opd)
  | sliceStr (x : Opd) (lo hi : Option Opd)
  | sliceSl (sz : Nat) (x : Opd) (lo hi mx : Option Opd)
  | fieldAddr (off : Nat) (x : Opd)
  | field (off : Nat) (n : Option Nat) (x : Opd)
  | idxArr (n sz : Nat) (x i : Opd)
  | idxSl (sz : Nat) (x i : Opd)
  | ixArr (n sz : Nat) (m : Option Nat) (x i : Opd)
  | ixStr (x i : Opd)
  | lookup (ks : KS) (zero : AV) (ok : Bool) (x k : Opd)
  | mapUpd (ks : KS) (x k v : Opd)
  | typeAssert (t : TypeId) (zero : AV) (ok : Bool) (x : Opd)
  | extract (i : Nat) (x : Opd)
  | append (sz bytes : Nat) (s x : Opd)
  | lenSl (x : Opd)
  | lenStr (x : Opd)
  | mm (max : Bool) (x y : Opd)
  deriving Inhabited

inductive MAny where
  | op (m : MOp)
  | call (f : FuncId) (args : List Opd)
  | callV (f : Opd) (args : List Opd)
  | invoke (name : String) (x : Opd) (args : List Opd)
  deriving Inhabited

def Opd.slot? : Opd → Option Nat
  | .tmp t => some t
  | .const _ => none
def MOp.opds : MOp → List Opd
  | .mv x | .box x | .load _ x | .nilCheck x | .un _ x | .convI _ x | .b2s x | .mkIfc _ x | .fieldAddr _ x | .field _ _ x | .typeAssert _ _ _ x | .extract _ x | .lenSl x | .lenStr x => [x]
  | .pick c a b => [c, a, b]
  | .alloc _ | .mkMap _ => []
  | .build _ ps | .buildSlice _ _ _ ps => ps.map (·.2.2)
  | .store _ a x | .bin _ _ a x | .idxArr _ _ a x | .idxSl _ a x | .ixArr _ _ _ a x | .ixStr a x | .append _ _ a x | .mm _ a x | .mkSlice _ _ _ a x | .lookup _ _ _ a x => [a, x]
  | .mkFn _ a b => a ++ b
  | .sliceStr x lo hi => x :: (lo.toList ++ hi.toList)
  | .sliceSl _ x lo hi mx => x :: (lo.toList ++ hi.toList ++ mx.toList)
  | .mapUpd _ x k v => [x, k, v]

structure MOper where
  dst : Option Nat
  op : MAny
  guard : Option (Nat × Bool)
  deriving Inhabited

/-- An operation of a region of open order: its number; its value goes into a slot of its own; which reads are done again behind it (with their slots). -/
structure DItem where
  i : Nat
  op : MOper
  ag : List (Nat × MOper)
  deriving Inhabited

inductive MCode where
  | skip
  | region (ops : List MOper)
  | regionD (N : Nat) (items : List DItem) (outs : List (Nat × Nat))
  | seq (fgt : List Nat) (a b : MCode)
  | cond (c : Opd) (a b : MCode)
  | block (id : Nat) (c : MCode)
  | loop (fgt : List Nat) (c : MCode)
  | exit (id : Nat)
  | ret
  | bad
  | lab (c : MCode)
  deriving Inhabited

structure MFn where
  ntmps : Nat
  results : List (Nat × Option (Option Nat))   -- a slot; or the address in a slot (of one cell, or of an aggregate's)
  body : MCode
  deriving Inhabited

/-! ### Operations -/
def AV.cells : AV → List AV
  | .agg cs => cs
  | v => [v]
def AV.one : AV → Bool
  | .agg _ | .tup _ | .undef => false
  | _ => true
def Opd.ev (fr : Frm) : Opd → AV
  | .tmp t => fr.getD t .undef
  | .const v => v

def opt {α : Type} (c : Prop) [Decidable c] (x : Option α) : Option α := if c then x else none

/-- One cell read. -/
def ld1 (h : Heap) : AV → Option AV
  | .ptr o off hi g => match h[o]? with
    | some (.cells c) => if c.wg ≤ g ∧ off < hi then c.cells[off]? else none
    | _ => none
  | _ => none
def rdc (h : Heap) (o off n g : Nat) : Option (List AV) :=
  match h[o]? with
  | some (.cells c) => if c.wg ≤ g then some ((c.cells.drop off).take n) else none
  | _ => none
/-- An aggregate of n cells read. -/
def ldN (n : Nat) (h : Heap) : AV → Option AV
  | .ptr o off hi g => if off + n ≤ hi then (rdc h o off n g).map .agg else none
  | _ => none
def setAll (cs : List AV) (off : Nat) : List AV → List AV
  | [] => cs
  | v :: vs => setAll (cs.set off v) (off + 1) vs
/-- Cells written. -/
def wrc (h : Heap) (o off hi g : Nat) (vs : List AV) : Option Heap :=
  match h[o]? with
  | some (.cells c) => if c.ro = false ∧ c.gen = g ∧ off + vs.length ≤ hi ∧ vs.all AV.one = true then some (h.set o (.cells { c with cells := setAll c.cells off vs, wg := g })) else none
  | _ => none
def stN (n : Nat) (h : Heap) (a v : AV) : Option Heap :=
  match a with
  | .ptr o off hi g => if v.cells.length = n then wrc h o off hi g v.cells else none
  | _ => none
/-- A new row of cells. -/
def mkObj (h : Heap) (cells : List AV) : Heap := h ++ [.cells { cells := cells, gen := 0, wg := 0, ro := false }]
def newVar (h : Heap) (cells : List AV) : Option (AV × Heap) :=
  if cells.all AV.one = true then some (.ptr h.length 0 cells.length 0, mkObj h cells) else none
def fillP (cells : List AV) : List (Nat × Nat × AV) → Option (List AV)
  | [] => some cells
  | (off, size, v) :: rest => if v.cells.length = size ∧ off + size ≤ cells.length ∧ v.cells.all AV.one = true then fillP (setAll cells off v.cells) rest else none
def buildV (zero : List AV) (parts : List (Nat × Nat × AV)) : Option AV := (fillP zero parts).map .agg
def buildSl (sz len : Nat) (zero : List AV) (parts : List (Nat × Nat × AV)) (h : Heap) : Option (AV × Heap) :=
  match fillP zero parts with
  | some cs => if cs.all AV.one = true ∧ cs.length = len * sz then some (.sl h.length 0 len sz none 0, mkObj h cs) else none
  | none => none
def nilCk : AV → Option AV
  | .ptr o off hi g => some (.ptr o off hi g)
  | .fn f a b => some (.fn f a b)
  | .ifc t v => some (.ifc t v)
  | _ => none
def bitsI (op : BinOp) (k : IntKind) (x y : Int) : Int :=
  let a := BitVec.ofInt k.bits x
  let b := BitVec.ofInt k.bits y
  k.wrap (match op with | .and => a &&& b | .or => a ||| b | .xor => a ^^^ b | _ => a &&& ~~~b).toNat
def shiftI (op : BinOp) (k : IntKind) (x y : Int) : Option AV :=
  if y < 0 then none else
    match op with
    | .shl => some (.int k (k.wrap (x * 2 ^ min y.toNat k.bits)))
    | .shr => some (.int k (x.fdiv (2 ^ min y.toNat k.bits)))
    | _ => none
def intI (op : BinOp) (k : IntKind) (x y : Int) : Option AV :=
  match op with
  | .add => some (.int k (k.wrap (x + y)))
  | .sub => some (.int k (k.wrap (x - y)))
  | .mul => some (.int k (k.wrap (x * y)))
  | .quo => if y = 0 then none else some (.int k (k.wrap (x.tdiv y)))
  | .rem => if y = 0 then none else some (.int k (x.tmod y))
  | .and | .or | .xor | .andNot => some (.int k (bitsI op k x y))
  | .eql => some (.bool (x == y))
  | .neq => some (.bool (x != y))
  | .lss => some (.bool (decide (x < y)))
  | .leq => some (.bool (decide (x ≤ y)))
  | .gtr => some (.bool (decide (x > y)))
  | .geq => some (.bool (decide (x ≥ y)))
  | .shl | .shr => none
def strS (op : BinOp) (x y : ByteArray) : Option AV :=
  match op with
  | .add => if x.size + y.size ≤ 140737488355328 then some (.str (x ++ y)) else none
  | .eql => some (.bool (x.toList == y.toList))
  | .neq => some (.bool (!(x.toList == y.toList)))
  | _ => none
def eqOp (op : BinOp) (b : Bool) : Option AV :=
  match op with
  | .eql => some (.bool b)
  | .neq => some (.bool (!b))
  | _ => none
def binV (op : BinOp) (ek : EK) (x y : AV) : Option AV :=
  match x, y with
  | .int k a, .int k' b => match op with
    | .shl | .shr => shiftI op k a b
    | _ => if k = k' then intI op k a b else none
  | .str a, .str b => strS op a b
  | .bool a, .bool b => if ek = .bool then eqOp op (a == b) else none
  | .nilp, .nilp => if ek = .ptr then eqOp op true else none
  | .ptr .., .nilp | .nilp, .ptr .. => if ek = .ptr then eqOp op false else none
  | .nils, .nils => if ek = .slice then eqOp op true else none
  | .sl .., .nils | .nils, .sl .. => if ek = .slice then eqOp op false else none
  | .nilmap, .nilmap => if ek = .map then eqOp op true else none
  | .map _, .nilmap | .nilmap, .map _ => if ek = .map then eqOp op false else none
  | _, _ => none
def unV (op : UnOp) (x : AV) : Option AV :=
  match op, x with
  | .neg, .int k n => some (.int k (k.wrap (0 - n)))
  | .not, .bool b => some (.bool (!b))
  | _, _ => none
def convV (k : IntKind) : AV → Option AV
  | .int _ n => some (.int k (k.wrap n))
  | _ => none
def i64? : AV → Option Int
  | .int _ n => some n
  | _ => none
def bool? : AV → Option Bool
  | .bool b => some b
  | _ => none
/-- make([]T, len, cap). -/
def mkSl (zero : List AV) (sz bytes : Nat) (len cap : AV) (h : Heap) : Option (AV × Heap) :=
  match len, cap with
  | .int .i64 l, .int .i64 c => if 0 ≤ l ∧ l ≤ c ∧ c * bytes ≤ 140737488355328 ∧ c ≤ 140737488355328 ∧ zero.length = sz ∧ zero.all AV.one = true then
      some (.sl h.length 0 l.toNat sz none 0, mkObj h ((List.replicate l.toNat zero).flatten)) else none
  | _, _ => none
def bnd (d : Nat) : Option AV → Option Nat
  | none => some d
  | some (.int _ n) => if 0 ≤ n then some n.toNat else none
  | some _ => none
def slSl (sz : Nat) (x : AV) (lo hi mx : Option AV) : Option AV :=
  match x with
  | .sl o off len sz' lim g =>
    match bnd 0 lo, bnd len hi with
    | some l, some h =>
      if l ≤ h ∧ h ≤ len ∧ sz' = sz then
        match mx with
        | none => some (.sl o (off + l * sz) (h - l) sz (lim.map (· - l)) g)
        | some m => match bnd 0 (some m) with
          | some m => if h ≤ m ∧ m ≤ len then some (.sl o (off + l * sz) (h - l) sz (some (m - l)) g) else none
          | none => none
      else none
    | _, _ => none
  | .nils =>
    match bnd 0 lo, bnd 0 hi, bnd 0 mx with
    | some 0, some 0, some 0 => some .nils
    | _, _, _ => none
  | _ => none
def slStr (x : AV) (lo hi : Option AV) : Option AV :=
  match x with
  | .str s => match bnd 0 lo, bnd s.size hi with
    | some l, some h => if l ≤ h ∧ h ≤ s.size then some (.str (s.extract l h)) else none
    | _, _ => none
  | _ => none
def fldA (d : Nat) : AV → Option AV
  | .ptr o off hi g => some (.ptr o (off + d) hi g)
  | _ => none
def partL (cs : List AV) (off : Nat) : Option Nat → Option AV
  | none => cs[off]?
  | some n => some (.agg ((cs.drop off).take n))
def fldV (off : Nat) (n : Option Nat) : AV → Option AV
  | .agg cs => partL cs off n
  | _ => none
def idxA (n sz : Nat) (x i : AV) : Option AV :=
  match x, i with
  | .ptr o off hi g, .int _ i => if 0 ≤ i ∧ i < n ∧ off + n * sz ≤ hi then some (.ptr o (off + i.toNat * sz) (off + i.toNat * sz + sz) g) else none
  | _, _ => none
def idxS (sz : Nat) (x i : AV) : Option AV :=
  match x, i with
  | .sl o off len sz' _ g, .int _ i => if 0 ≤ i ∧ i < len ∧ sz' = sz then some (.ptr o (off + i.toNat * sz) (off + i.toNat * sz + sz) g) else none
  | _, _ => none
def ixA (n sz : Nat) (m : Option Nat) (x i : AV) : Option AV :=
  match x, i with
  | .agg cs, .int _ i => if 0 ≤ i ∧ i < n then partL cs (i.toNat * sz) m else none
  | _, _ => none
def ixS (x i : AV) : Option AV :=
  match x, i with
  | .str s, .int _ i => if 0 ≤ i then (s[i.toNat]?).map fun b => .int .u8 b.toNat else none
  | _, _ => none
def lenS : AV → Option AV
  | .sl _ _ len _ _ _ => some (.int .i64 len)
  | .nils => some (.int .i64 0)
  | _ => none
def lenB : AV → Option AV
  | .str s => some (.int .i64 s.size)
  | _ => none
def mmV (max : Bool) (x y : AV) : Option AV :=
  match x, y with
  | .int k a, .int _ b => some (.int k (if max then (if b > a then b else a) else (if b < a then b else a)))
  | _, _ => none
def tAssert (t : TypeId) (zero : AV) (ok : Bool) : AV → Option AV
  | .ifc u v => if u = t then some (if ok then .tup [v, .bool true] else v) else if ok then some (.tup [zero, .bool false]) else none
  | _ => none
def extr (i : Nat) : AV → Option AV
  | .tup vs => vs[i]?
  | _ => none
/-- The cells that an append lays behind: how many elements, which. -/
def news (sz : Nat) (x : AV) (h : Heap) : Option (Nat × List AV) :=
  match x with
  | .nils => some (0, [])
  | .sl o off len sz' _ g => if sz' = sz then (rdc h o off (len * sz) g).map fun cs => (len, cs) else none
  | _ => none
def apnd (sz bytes : Nat) (s x : AV) (h : Heap) : Option (AV × Heap) :=
  match news sz x h with
  | none => none
  | some (m, ns) =>
    match s with
    | .nils => if m = 0 then some (.nils, h) else if m * bytes ≤ 140737488355328 ∧ ns.length = m * sz ∧ 0 < sz ∧ 0 < bytes then some (.sl h.length 0 m sz none 0, mkObj h ns) else none
    | .sl o off len sz' lim g =>
      if m = 0 then some (.sl o off len sz' lim g, h)
      else if ¬ (sz' = sz ∧ (len + m) * bytes ≤ 140737488355328 ∧ ns.length = m * sz ∧ 0 < sz ∧ 0 < bytes) then none else
        match lim with
        | some c => if len + m ≤ c then none else (rdc h o off (len * sz) g).map fun old => (.sl h.length 0 (len + m) sz none 0, mkObj h (old ++ ns))
        | none => match h[o]? with
          | some (.cells c) =>
            if c.ro = false ∧ c.gen = g ∧ off = 0 then
              some (.sl o 0 (len + m) sz none (g + 1), h.set o (.cells { c with cells := c.cells.take (len * sz) ++ ns, gen := g + 1, wg := if len * sz = c.cells.length then c.wg else g + 1 }))
            else none
          | _ => none
    | _ => none
mutual
def AV.beq : AV → AV → Bool
  | .undef, .undef => true
  | .bool a, .bool b => a == b
  | .int k a, .int l b => decide (k = l) && a == b
  | .str a, .str b => decide (a = b)
  | .nilp, .nilp => true
  | .ptr a b c d, .ptr e f g h => a == e && b == f && c == g && d == h
  | .nils, .nils => true
  | .sl a b c d e f, .sl a' b' c' d' e' f' => a == a' && b == b' && c == c' && d == d' && decide (e = e') && f == f'
  | .nilmap, .nilmap => true
  | .map a, .map b => a == b
  | .nilfn, .nilfn => true
  | .fn f a b, .fn g c d => f == g && AV.beqs a c && AV.beqs b d
  | .nilifc, .nilifc => true
  | .ifc t v, .ifc u w => t == u && AV.beq v w
  | .agg a, .agg b => AV.beqs a b
  | .tup a, .tup b => AV.beqs a b
  | _, _ => false
def AV.beqs : List AV → List AV → Bool
  | [], [] => true
  | a :: r, b :: s => AV.beq a b && AV.beqs r s
  | _, _ => false
end
/-- A map's entry, by its key. -/
def findV (k : AV) : List (AV × AV) → Option AV
  | [] => none
  | (k', v) :: r => if AV.beq k k' then some v else findV k r
def putE (k v : AV) : List (AV × AV) → List (AV × AV)
  | [] => [(k, v)]
  | (k', v') :: r => if AV.beq k k' then (k, v) :: r else (k', v') :: putE k v r
def told (ok : Bool) (zero : AV) : Option AV → AV
  | some v => if ok then .tup [v, .bool true] else v
  | none => if ok then .tup [zero, .bool false] else zero
def lookM (ks : KS) (zero : AV) (ok : Bool) (h : Heap) (x k : AV) : Option AV :=
  if fitK ks k = true then
    match x with
    | .nilmap => some (told ok zero none)
    | .map o => match h[o]? with
      | some (.map ks' es) => if ks' = ks then some (told ok zero (findV k es)) else none
      | _ => none
    | _ => none
  else none
def updM (ks : KS) (h : Heap) (x k v : AV) : Option Heap :=
  if fitK ks k = true then
    match x with
    | .map o => match h[o]? with
      | some (.map ks' es) => if ks' = ks then some (h.set o (.map ks (putE k v es))) else none
      | _ => none
    | _ => none
  else none
def b2sL : List AV → Option (List UInt8)
  | [] => some []
  | .int .u8 n :: r => (b2sL r).map fun l => UInt8.ofNat n.toNat :: l
  | _ :: _ => none
def b2sV (h : Heap) : AV → Option AV
  | .nils => some (.str ByteArray.empty)
  | .sl o off len 1 _ g => ((rdc h o off len g).bind b2sL).map fun l => .str ⟨l.toArray⟩
  | _ => none

def pure1 (h : Heap) (v : Option AV) : Option (AV × Heap) := v.map fun v => (v, h)

/-- An operation that calls no function: its value (of one that has none: anything), the heap behind it. -/
def evalM (op : MOp) (fr : Frm) (h : Heap) : Option (AV × Heap) :=
  match op with
  | .mv x => some (x.ev fr, h)
  | .pick c a b => pure1 h ((bool? (c.ev fr)).map fun t => if t then a.ev fr else b.ev fr)
  | .alloc z => newVar h z
  | .box x => newVar h (x.ev fr).cells
  | .build z ps => pure1 h (buildV z (ps.map fun (o, s, x) => (o, s, x.ev fr)))
  | .buildSlice sz len z ps => buildSl sz len z (ps.map fun (o, s, x) => (o, s, x.ev fr)) h
  | .load none a => pure1 h (ld1 h (a.ev fr))
  | .load (some n) a => pure1 h (ldN n h (a.ev fr))
  | .store n a x => (stN n h (a.ev fr) (x.ev fr)).map fun h' => (.undef, h')
  | .nilCheck x => pure1 h (nilCk (x.ev fr))
  | .bin op ek x y => pure1 h (binV op ek (x.ev fr) (y.ev fr))
  | .un op x => pure1 h (unV op (x.ev fr))
  | .convI k x => pure1 h (convV k (x.ev fr))
  | .b2s x => pure1 h (b2sV h (x.ev fr))
  | .mkIfc t x => some (.ifc t (x.ev fr), h)
  | .mkFn f a b => some (.fn f (a.map (·.ev fr)) (b.map (·.ev fr)), h)
  | .mkMap ks => some (.map h.length, h ++ [.map ks []])
  | .mkSlice z sz by_ l c => mkSl z sz by_ (l.ev fr) (c.ev fr) h
  | .sliceStr x lo hi => pure1 h (slStr (x.ev fr) (lo.map (·.ev fr)) (hi.map (·.ev fr)))
  | .sliceSl sz x lo hi mx => pure1 h (slSl sz (x.ev fr) (lo.map (·.ev fr)) (hi.map (·.ev fr)) (mx.map (·.ev fr)))
  | .fieldAddr d x => pure1 h (fldA d (x.ev fr))
  | .field d n x => pure1 h (fldV d n (x.ev fr))
  | .idxArr n sz x i => pure1 h (idxA n sz (x.ev fr) (i.ev fr))
  | .idxSl sz x i => pure1 h (idxS sz (x.ev fr) (i.ev fr))
  | .ixArr n sz m x i => pure1 h (ixA n sz m (x.ev fr) (i.ev fr))
  | .ixStr x i => pure1 h (ixS (x.ev fr) (i.ev fr))
  | .typeAssert t z ok x => pure1 h (tAssert t z ok (x.ev fr))
  | .extract i x => pure1 h (extr i (x.ev fr))
  | .append sz by_ s x => apnd sz by_ (s.ev fr) (x.ev fr) h
  | .lenSl x => pure1 h (lenS (x.ev fr))
  | .lenStr x => pure1 h (lenB (x.ev fr))
  | .mm mx x y => pure1 h (mmV mx (x.ev fr) (y.ev fr))
  | .lookup ks z ok x k => pure1 h (lookM ks z ok h (x.ev fr) (k.ev fr))
  | .mapUpd ks x k v => (updM ks h (x.ev fr) (k.ev fr) (v.ev fr)).map fun h' => (.undef, h')

/-- The program: its functions, its methods (with the receiver as it stands). -/
structure Tab where
  fn : FuncId → Option MFn
  meth : TypeId → String → Option FuncId

abbrev CallF := FuncId → List AV → Heap → Option (AV × Heap)

/-- Any operation. -/
def evalO (T : Tab) (call : CallF) (op : MAny) (fr : Frm) (h : Heap) : Option (AV × Heap) :=
  match op with
  | .call f xs => call f (xs.map (·.ev fr)) h
  | .callV x xs => match x.ev fr with
    | .fn f a b => call f (a ++ xs.map (·.ev fr) ++ b) h
    | _ => none
  | .invoke nm x xs => match x.ev fr with
    | .ifc t (.ptr o off hi g) => match T.meth t nm with
      | some f => call f (.ptr o off hi g :: xs.map (·.ev fr)) h
      | none => none
    | _ => none
  | .op m => evalM m fr h

def put (fr : Frm) (d : Option Nat) (v : AV) : Frm :=
  match d with
  | some d => fr.set d v
  | none => fr
/-- Is a guarded operation carried out? -/
def want (fr : Frm) : Option (Nat × Bool) → Option Bool
  | none => some true
  | some (d, b) => match fr.getD d .undef with
    | .bool c => some (c == b)
    | .tup [] => some false
    | _ => none
def evalR (T : Tab) (call : CallF) : List MOper → Frm → Heap → Option (Frm × Heap)
  | [], fr, h => some (fr, h)
  | o :: r, fr, h => (want fr o.guard).bind fun w =>
    if w then (evalO T call o.op fr h).bind fun (v, h') => evalR T call r (put fr o.dst v) h'
    else evalR T call r (put fr o.dst (.tup [])) h


def readM : MOp → Bool
  | .load .. | .lookup .. | .b2s .. => true
  | _ => false
def allocM : MOp → Bool
  | .alloc _ | .box _ | .buildSlice .. | .mkSlice .. => true
  | _ => false
def effM : MOp → Bool
  | .append .. | .store .. | .mapUpd .. | .mkMap _ => true
  | _ => false
def isEff : MAny → Bool
  | .op m => effM m
  | _ => true
def isRead : MAny → Bool
  | .op m => readM m
  | _ => false
def againB (fr : Frm) (h : Heap) (p : Nat × MOper) : Bool :=
  match want fr p.2.guard with
  | some false => true
  | some true => match p.2.op with
    | .op m => match evalM m fr h with
      | some u => u.1.beq (fr.getD p.1 .undef)
      | none => false
    | _ => false
  | none => false
def evalD (T : Tab) (call : CallF) : List DItem → Frm → Heap → Option (Frm × Heap)
  | [], fr, h => some (fr, h)
  | it :: r, fr, h => (want fr it.op.guard).bind fun w =>
    if w then (evalO T call it.op.op fr h).bind fun (v, h') =>
      if it.ag.all (againB (put fr it.op.dst v) h') then evalD T call r (put fr it.op.dst v) h' else none
    else evalD T call r (put fr it.op.dst (.tup [])) h
def outFr (fr frE : Frm) : List (Nat × Nat) → Frm
  | [] => fr
  | (d, s) :: r => outFr (fr.set d (frE.getD s .undef)) frE r

def forget (fr : Frm) : List Nat → Frm
  | [] => fr
  | t :: r => forget (fr.set t .undef) r

inductive MExit where
  | normal | exit (id : Nat) | ret
  deriving DecidableEq

abbrev Kont (R : Type) := MExit → Frm → Heap → Option R

def loopN {R : Type} (B : Frm → Heap → Kont R → Option R) (fgt : List Nat) : Nat → Frm → Heap → Kont R → Option R
  | 0, _, _, _ => none
  | k + 1, fr, h, K => B fr h fun e fr' h' => match e with
    | .normal => loopN B fgt k (forget fr' fgt) h' K
    | e => K e fr' h'

def evalC {R : Type} (T : Tab) (call : CallF) (k : Nat) : MCode → Frm → Heap → Kont R → Option R
  | .skip, fr, h, K => K .normal fr h
  | .region ops, fr, h, K => (evalR T call ops fr h).bind fun (fr', h') => K .normal fr' h'
  | .regionD N items outs, fr, h, K => if fr.length = N then (evalD T call items (fr ++ List.replicate items.length .undef) h).bind fun (frE, h') => K .normal (outFr fr frE outs) h' else none
  | .seq fgt a b, fr, h, K => evalC T call k a fr h fun e fr' h' => match e with
    | .normal => evalC T call k b (forget fr' fgt) h' K
    | e => K e fr' h'
  | .cond c a b, fr, h, K => match c.ev fr with
    | .bool true => evalC T call k a fr h K
    | .bool false => evalC T call k b fr h K
    | _ => none
  | .block id c, fr, h, K => evalC T call k c fr h fun e fr' h' => K (if e = .exit id then .normal else e) fr' h'
  | .loop fgt c, fr, h, K => loopN (fun fr h K => evalC T call k c fr h K) fgt k (forget fr fgt) h K
  | .exit id, fr, h, K => K (.exit id) fr h
  | .ret, fr, h, K => K .ret fr h
  | .bad, _, _, _ => none
  | .lab c, fr, h, K => evalC T call k c fr h K

def result (fr : Frm) (h : Heap) : Nat × Option (Option Nat) → Option AV
  | (t, none) => some (fr.getD t .undef)
  | (t, some none) => ld1 h (fr.getD t .undef)
  | (t, some (some n)) => ldN n h (fr.getD t .undef)
def resultsL (fr : Frm) (h : Heap) : List (Nat × Option (Option Nat)) → Option (List AV)
  | [] => some []
  | r :: rs => (result fr h r).bind fun v => (resultsL fr h rs).map fun vs => v :: vs
def resultsV (fr : Frm) (h : Heap) (rs : List (Nat × Option (Option Nat))) : Option AV :=
  (resultsL fr h rs).map fun vs => match vs with | [v] => v | vs => .tup vs
def kend (fn : MFn) : Kont (AV × Heap) := fun e fr h => match e with
  | .exit _ => none
  | _ => (resultsV fr h fn.results).map fun v => (v, h)
def evalFn (T : Tab) : Nat → CallF
  | 0, _, _, _ => none
  | k + 1, f, args, h => match T.fn f with
    | some fn => evalC T (evalFn T k) k fn.body (args ++ List.replicate (fn.ntmps - args.length) .undef) h (kend fn)
    | none => none

end Go.Gm
