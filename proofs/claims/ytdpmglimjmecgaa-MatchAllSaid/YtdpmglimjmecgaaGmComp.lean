/- A part of the proof: GmComp: an abstract machine, what it does, and what the functions of the program come to on it. -/
import Derived.Test.YtdpmglimjmecgaaGmCore
import Derived.Maps.Keyed
import Derived.DeepKeys3
set_option linter.unusedVariables false
namespace Go.Gm
/- From the loaded program to the abstract machine's: all types are looked up here. -/

/-- A constant of one cell. -/
def ofVal1 : Value → Option AV
  | .bool b => some (.bool b)
  | .int k n => some (.int k n)
  | .string s => some (.str s)
  | .pointer none => some .nilp
  | .slice none 0 0 => some .nils
  | .map none => some .nilmap
  | .nilFunc => some .nilfn
  | .nilIface => some .nilifc
  | _ => none
def ofVals : List Value → Option (List AV)
  | [] => some []
  | v :: r => (ofVal1 v).bind fun x => (ofVals r).map fun xs => x :: xs
def ofVal : Value → Option AV
  | .agg cs => (ofVals cs.toList).map .agg
  | v => ofVal1 v
def compOpd : Operand → Option Opd
  | .tmp t => some (.tmp t)
  | .const v => (ofVal v).map .const
  | .func f => some (.const (.fn f [] []))
  | .global _ => none
def compOpds (cmp : Operand → Option Opd) : List Operand → Option (List Opd)
  | [] => some []
  | x :: r => (cmp x).bind fun y => (compOpds cmp r).map fun ys => y :: ys
def compOpdO (cmp : Operand → Option Opd) : Option Operand → Option (Option Opd)
  | none => some none
  | some x => (cmp x).map some
def szOf (P : Program) (t : TypeId) : Option Nat := (P.info? t).map (·.size)
def zeroOf (P : Program) (t : TypeId) : Option AV := ((P.info? t).bind (·.zero)).bind ofVal
/-- Aggregates' sizes; none: one cell. -/
def aggOf (P : Program) (t : TypeId) : Option (Option Nat) :=
  match P.underlying t with
  | some (.struct _) | some (.array _ _) => (szOf P t).map some
  | some _ => some none
  | none => none
def sliceElem (P : Program) (t : TypeId) : Option TypeId :=
  match P.underlying t with
  | some (.slice e) => some e
  | _ => none
def eqKind (P : Program) (t : TypeId) : Option EK :=
  match P.underlying t with
  | some (.pointer _) => some .ptr
  | some (.slice _) => some .slice
  | some (.map _ _) => some .map
  | some .bool => some .bool
  | some (.int _) => some .scalar
  | some .string => some .scalar
  | _ => none
/-- The parts of a struct: where each goes, its size. -/
def placesOf (P : Program) (fs : List Field) : Option (List (Nat × Nat)) := fs.mapM (fun f => (P.info? f.type).map fun i => (f.offset, i.size))
def compPartL (cmp : Operand → Option Opd) (pl : List (Nat × Nat)) (p : Nat × Operand) : Option (Nat × Nat × Opd) := (cmp p.2).bind fun x => (pl[p.1]?).map fun q => (q.1, q.2, x)
def compPartsL (cmp : Operand → Option Opd) (pl : List (Nat × Nat)) : List (Nat × Operand) → Option (List (Nat × Nat × Opd))
  | [] => some []
  | p :: r => (compPartL cmp pl p).bind fun x => (compPartsL cmp pl r).map fun xs => x :: xs
def compPartS (cmp : Operand → Option Opd) (s : Nat) (p : Nat × Operand) : Option (Nat × Nat × Opd) := (cmp p.2).map fun x => (p.1 * s, s, x)
def compPartsS (cmp : Operand → Option Opd) (s : Nat) : List (Nat × Operand) → Option (List (Nat × Nat × Opd))
  | [] => some []
  | p :: r => (compPartS cmp s p).bind fun x => (compPartsS cmp s r).map fun xs => x :: xs
/-- What a slice's elements are: size, bytes, the zero's cells. -/
def elemOf? (P : Program) (e : TypeId) : Option (Nat × Nat × List AV) :=
  (P.info? e).bind fun i => i.zero.bind fun z => (ofVal z).bind fun x => if z.cells.size = i.size ∧ x.cells.length = i.size then some (i.size, i.bytes, x.cells) else none

def keyC (P : Program) (t : TypeId) : Option KC :=
  match P.underlying t with
  | some (.int q) => some (.i q)
  | some .string => some .s
  | some .bool => some .b
  | _ => none
/-- The fields of a struct that is a key: a cell each. -/
def keyFs (P : Program) (i : Nat) : List Field → Option (List KC)
  | [] => some []
  | f :: r => (keyC P f.type).bind fun c => if f.offset = i ∧ P.cellsOf f.type = 1 ∧ (f.name != "_") = true then (keyFs P (i + 1) r).map fun cs => c :: cs else none
def keyWide (P : Program) (t : TypeId) : Bool := decide (1 ≤ P.types.size ∧ P.types.size + 2 ≤ 10000) && P.keyTypeAt (P.types.size + 1) t && P.tiled (P.types.size + 1) t
def keyShape (P : Program) (t : TypeId) : Option KS :=
  match P.underlying t with
  | some (.array n e) => if keyWide P t = true ∧ P.cellsOf t = n ∧ P.cellsOf e = 1 then (keyC P e).map fun c => .row (List.replicate n c) else none
  | some (.struct fs) => if keyWide P t = true ∧ P.cellsOf t = fs.size then (keyFs P 0 fs.toList).map .row else none
  | _ => (keyC P t).map .one

def compBuiltin (P : Program) (cmp : Operand → Option Opd) (b : Builtin) (args : List Operand) (ts : List TypeId) : Option MOp :=
  match b, args, ts with
  | .len, [x], [t] => (cmp x).bind fun x => match P.underlying t with
    | some (.slice _) => some (.lenSl x)
    | some .string => some (.lenStr x)
    | _ => none
  | .append, [s, x], [t, u] => if t = u then (sliceElem P t).bind fun e => (elemOf? P e).bind fun (sz, by_, _) => (cmp s).bind fun s => (cmp x).map fun x => .append sz by_ s x else none
  | .max, [x, y], _ => (cmp x).bind fun x => (cmp y).map fun y => .mm true x y
  | .min, [x, y], _ => (cmp x).bind fun x => (cmp y).map fun y => .mm false x y
  | _, _, _ => none

def compOp (P : Program) (cmp : Operand → Option Opd) (o : Op) : Option MOp :=
  match o with
  | .move x | .assign x => (cmp x).map .mv
  | .pick c a b => (cmp c).bind fun c => (cmp a).bind fun a => (cmp b).map fun b => .pick c a b
  | .alloc t => (zeroOf P t).map fun z => .alloc z.cells
  | .box _ x => (cmp x).map .box
  | .build t ps => (zeroOf P t).bind fun z => match P.underlying t with
    | some (.struct fs) => (placesOf P fs.toList).bind fun pl => (compPartsL cmp pl ps.toList).map fun ps => .build z.cells ps
    | some (.array _ e) => (szOf P e).bind fun s => (compPartsS cmp s ps.toList).map fun ps => .build z.cells ps
    | _ => none
  | .buildSlice t n ps => (sliceElem P t).bind fun e => (elemOf? P e).bind fun (sz, _, z) => if n * sz ≤ 16777216 ∧ 0 < sz then (compPartsS cmp sz ps.toList).map fun ps => .buildSlice sz n ((List.range (n * sz)).map fun j => z.getD (j % sz) .undef) ps else none
  | .load t a => (aggOf P t).bind fun n => (cmp a).map fun a => .load n a
  | .store t a x => (szOf P t).bind fun n => (cmp a).bind fun a => (cmp x).map fun x => .store n a x
  | .nilCheck x => (cmp x).map .nilCheck
  | .binOp op t x y _ => (eqKind P t).bind fun k => (cmp x).bind fun x => (cmp y).map fun y => .bin op k x y
  | .unOp op _ x => (cmp x).map fun x => .un op x
  | .convert s d x => (cmp x).bind fun x => match P.underlying s, P.underlying d with
    | some (.int _), some (.int k) => some (.convI k x)
    | _, _ => none
  | .makeInterface t x => match P.underlying t with
    | some (.interface _) => none
    | some _ => (cmp x).map fun x => .mkIfc t x
    | none => none
  | .makeFunc (.func f) a b => (compOpds cmp a.toList).bind fun a => (compOpds cmp b.toList).map fun b => .mkFn f a b
  | .makeMap t none => match P.underlying t with
    | some (.map k _) => (keyShape P k).map .mkMap
    | _ => none
  | .lookup t x k ok => match P.underlying t with
    | some (.map kt e) => (keyShape P kt).bind fun ks => (zeroOf P e).bind fun z => (cmp x).bind fun x => (cmp k).map fun k => .lookup ks z ok x k
    | _ => none
  | .mapUpdate t m k v => match P.underlying t with
    | some (.map kt _) => (keyShape P kt).bind fun ks => (cmp m).bind fun m => (cmp k).bind fun k => (cmp v).map fun v => .mapUpd ks m k v
    | _ => none
  | .insert t m k v => match P.underlying t with
    | some (.map kt _) => (keyShape P kt).bind fun ks => (cmp m).bind fun m => (cmp k).bind fun k => (cmp v).map fun v => .mapUpd ks m k v
    | _ => none
  | .makeSlice t l c => (sliceElem P t).bind fun e => (elemOf? P e).bind fun (sz, by_, z) => if 0 < sz then (cmp l).bind fun l => (cmp c).map fun c => .mkSlice z sz by_ l c else none
  | .slice t x lo hi mx => (cmp x).bind fun x => (compOpdO cmp lo).bind fun lo => (compOpdO cmp hi).bind fun hi => (compOpdO cmp mx).bind fun mx' => match P.underlying t with
    | some (.slice e) => (szOf P e).bind fun sz => if mx'.isSome && hi.isNone then none else some (.sliceSl sz x lo hi mx')
    | some .string => if mx'.isSome then none else some (.sliceStr x lo hi)
    | _ => none
  | .fieldAddr t x f => (cmp x).bind fun x => match P.underlying t with
    | some (.struct fs) => (fs[f]?).bind fun fd => (szOf P fd.type).bind fun s => if s = 0 then none else some (.fieldAddr fd.offset x)
    | _ => none
  | .field t x f => (cmp x).bind fun x => match P.underlying t with
    | some (.struct fs) => (fs[f]?).bind fun fd => (aggOf P fd.type).map fun n => .field fd.offset n x
    | _ => none
  | .indexAddr t x i => (cmp x).bind fun x => (cmp i).bind fun i => match P.underlying t with
    | some (.array n e) => (szOf P e).map fun sz => .idxArr n sz x i
    | some (.slice e) => (szOf P e).map fun sz => .idxSl sz x i
    | _ => none
  | .index t x i => (cmp x).bind fun x => (cmp i).bind fun i => match P.underlying t with
    | some (.array n e) => (szOf P e).bind fun sz => (aggOf P e).map fun m => .ixArr n sz m x i
    | some .string => some (.ixStr x i)
    | _ => none
  | .typeAssert x _ t ok => match P.underlying t with
    | some (.interface _) => none
    | some _ => (cmp x).bind fun x => (zeroOf P t).map fun z => .typeAssert t z ok x
    | none => none
  | .extract x i => (cmp x).map fun x => .extract i x
  | .call c => match c.callee with
    | .builtin b => compBuiltin P cmp b c.args.toList c.argTypes.toList
    | _ => none
  | _ => none
def compAny (P : Program) (cmp : Operand → Option Opd) (o : Op) : Option MAny :=
  match o with
  | .call ⟨.value (.func f), args, _⟩ => (compOpds cmp args.toList).map fun xs => .call f xs
  | .call ⟨.value x, args, _⟩ => (cmp x).bind fun x => (compOpds cmp args.toList).map fun xs => .callV x xs
  | .call ⟨.invoke x nm, args, _⟩ => (cmp x).bind fun x => (compOpds cmp args.toList).map fun xs => .invoke nm x xs
  | o => (compOp P cmp o).map .op

end Go.Gm
namespace Go.Gm
def compOper (P : Program) (ops : Array Oper) (o : Oper) : Option MOper :=
  (compAny P compOpd o.op).bind fun m => match o.guard with
    | none => some ⟨o.dst, m, none⟩
    | some (j, b) => ((ops[j]?).bind (·.dst)).map fun d => ⟨o.dst, m, some (d, b)⟩
def compOpers (P : Program) (ops : Array Oper) : List Oper → Option (List MOper)
  | [] => some []
  | o :: r => (compOper P ops o).bind fun m => (compOpers P ops r).map fun ms => m :: ms
/-- Who writes a slot. -/
def writer (ops : Array Oper) (s : Nat) : Option Nat := (List.range ops.size).find? fun j => match ops[j]? with | some o => decide (o.dst = some s) | none => false
/-- Operands in a region of open order: each value lies in a slot of its own. -/
def cmpD (N : Nat) (ops : Array Oper) (pre : Nat → List Nat) (i : Nat) : Operand → Option Opd
  | .tmp s => if s < N then
      match writer ops s with
      | none => some (.tmp s)
      | some j => if (pre i).contains j then some (.tmp (N + j)) else if j = i ∨ (pre j).contains i = true then some (.tmp s) else none
    else none
  | x => compOpd x
def compG (N : Nat) (ops : Array Oper) (pre : Nat → List Nat) (i : Nat) : Option (Nat × Bool) → Option (Option (Nat × Bool))
  | none => some none
  | some (g, b) => if (pre i).contains g && ((ops[g]?).bind (·.dst)).isSome then some (some (N + g, b)) else none
def slotOk (N : Nat) (l : List Nat) : Opd → Bool
  | .tmp s => decide (s < N) || l.any fun j => s == N + j
  | .const _ => true
def slotsOk (N : Nat) (l : List Nat) : MAny → Bool
  | .op m => m.opds.all (slotOk N l)
  | _ => true
def compD1 (P : Program) (N : Nat) (ops : Array Oper) (pre : Nat → List Nat) (done : List DItem) (i : Nat) : Option DItem :=
  (ops[i]?).bind fun o =>
  if !(done.any fun it => it.i == i) && (o.after.all fun e => !Region.binds .any e || (decide (e.on < i) && done.any fun it => it.i == e.on)) &&
      ((pre i).all fun j => o.after.any fun e => Region.binds .any e && (e.on == j || (pre e.on).contains j)) &&
      (done.all fun it => !isEff it.op.op || (pre i).contains it.i) then
    (compAny P (cmpD N ops pre i) o.op).bind fun m => (compG N ops pre i o.guard).bind fun g => if !slotsOk N (pre i) m then none else
      some ⟨i, ⟨some (N + i), m, g⟩, if isEff m then (done.filter fun it => isRead it.op.op && !(pre i).contains it.i).map fun it => (N + it.i, it.op) else []⟩
  else none
def compD (P : Program) (N : Nat) (ops : Array Oper) (pre : Nat → List Nat) : List DItem → List Nat → Option (List DItem)
  | _, [] => some []
  | done, i :: r => (compD1 P N ops pre done i).bind fun it => (compD P N ops pre (done ++ [it]) r).map fun its => it :: its
def dstsOk (N : Nat) (ops : Array Oper) : Bool := (List.range ops.size).all fun j => match ops[j]? with
  | some o => match o.dst with
    | some d => decide (d < N) && decide (writer ops d = some j)
    | none => true
  | none => true
def outsOf (N : Nat) (ops : Array Oper) : List (Nat × Nat) := (List.range ops.size).filterMap fun j => (ops[j]?).bind fun o => o.dst.map fun d => (d, N + j)
/-- What is told of the open orders: which operations stand ahead of which; an order. -/
abbrev DHint := (Nat → List Nat) × List Nat
structure Hint where
  N : Nat
  F : Nat → List Nat
  D : Nat → DHint
  J : List Nat
def labIf (b : Bool) (c : MCode) : MCode := if b then .lab c else c
def compReg (P : Program) (H : Hint) (id : Nat) (ops : Array Oper) : Option MCode :=
  if dstsOk H.N ops && ((List.range ops.size).all fun i => (H.D id).2.contains i) && decide ((H.D id).2.length = ops.size) then (compD P H.N ops (H.D id).1 [] (H.D id).2).map fun its => .regionD H.N its (outsOf H.N ops) else none
/-- Code; F: what is forgotten at the n-th sequence or loop. -/
def compC (P : Program) (H : Hint) : Code → Nat → Option (MCode × Nat)
  | .skip, n => some (.skip, n)
  | .region _ ops false, n => (compOpers P ops ops.toList).map fun ms => (.region ms, n)
  | .region id ops true, n => if P.follows .mixedOrders then (compReg P H id ops).map fun m => (m, n) else none
  | .seq a b, n => (compC P H a (n + 1)).bind fun (a', n1) => (compC P H b n1).map fun (b', n2) => (.seq (H.F n) a' (labIf (H.J.contains n) b'), n2)
  | .cond c a b, n => (compOpd c).bind fun c' => (compC P H a n).bind fun (a', n1) => (compC P H b n1).map fun (b', n2) => (.cond c' a' b', n2)
  | .block id c, n => (compC P H c n).map fun (c', n1) => (.block id c', n1)
  | .loop c, n => (compC P H c (n + 1)).map fun (c', n1) => (.loop (H.F n) c', n1)
  | .exit id, n => some (.exit id, n)
  | .ret, n => some (.ret, n)
  | _, _ => none
def compRes (P : Program) : ResultVar → Option (Nat × Option (Option Nat))
  | .tmp t => some (t, none)
  | .cell a t => (aggOf P t).map fun n => (a, some n)
def compRess (P : Program) : List ResultVar → Option (List (Nat × Option (Option Nat)))
  | [] => some []
  | r :: rs => (compRes P r).bind fun x => (compRess P rs).map fun xs => x :: xs
def compFn (P : Program) (H : Hint) (fn : Func) : Option MFn :=
  fn.body.bind fun c => (compC P H c 0).bind fun (m, _) => (compRess P fn.results.toList).bind fun rs =>
    if fn.name == "runtime.NumGoroutine" then none else some ⟨fn.ntmps, rs, m⟩
end Go.Gm
