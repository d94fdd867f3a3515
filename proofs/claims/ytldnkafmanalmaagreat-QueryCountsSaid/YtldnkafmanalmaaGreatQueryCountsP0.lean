/- A part of the proof (GmCore, GmRel, GmMem, GmApp, GmApn, GmComp, GmOps1, GmOps2, GmOps3, GmOps4, GmMap). -/
import Derived.Tactics
import Derived.Below
import Derived.Laws.AppendOwn
import Derived.Laws.CopyRow
import Derived.Laws.Rows
import Derived.Laws.CopyOwn
import Derived.Maps.Keyed
import Derived.DeepKeys3
set_option autoImplicit true
set_option relaxedAutoImplicit true
theorem Go.Gm.oM {p:Prop}(h:p:=by omega):p:=h
set_option linter.unusedVariables false
set_option linter.unusedSimpArgs false
namespace Go.Gm
inductive AV where
 |undef
 |bool (b:Bool)
 |int (k:IntKind) (n:Int)
 |str (s:ByteArray)
 |nilp
 |ptr (o off hi g:Nat)
 |nils
 |sl (o off len sz:Nat) (lim:Option Nat) (g:Nat)
 |nilmap
 |map (o:Nat)
 |nilfn
 |fn (f:FuncId) (first captured:List AV)
 |nilifc
 |ifc (t:TypeId) (v:AV)
 |agg (cs:List AV)
 |tup (vs:List AV)
 deriving Inhabited
structure CObj where
 cells:List AV
 gen:Nat
 wg:Nat
 ro:Bool
 deriving Inhabited
inductive KC where
 |i (q:IntKind)|s|b
 deriving DecidableEq,Inhabited
inductive KS where
 |one (c:KC)
 |row (cs:List KC)
 deriving DecidableEq,Inhabited
def fitC:KC->AV->Bool
 |.i q,.int k n=>decide (k=q) && (decide (q.min<=n) && decide (n<=q.max))
 |.s,.str s=>decide (s.size<=140737488355328)
 |.b,.bool _=>true
 |_,_=>false
def fitL:List KC->List AV->Bool
 |[],[]=>true
 |c::cs,v::vs=>fitC c v && fitL cs vs
 |_,_=>false
def fitK:KS->AV->Bool
 |.one c,v=>fitC c v
 |.row cs,.agg vs=>fitL cs vs
 |_,_=>false
inductive AObj where
 |cells (c:CObj)
 |map (ks:KS) (es:List (AV × AV))
 deriving Inhabited
abbrev Heap:=List AObj
abbrev Frm:=List AV
inductive Opd where
 |tmp (t:Nat)
 |const (v:AV)
 deriving Inhabited
inductive EK where
 |scalar|bool|ptr|slice|map
 deriving DecidableEq,Inhabited
inductive MOp where
 |mv (x:Opd)
 |pick (c a b:Opd)
 |alloc (zero:List AV)
 |box (x:Opd)
 |build (zero:List AV) (parts:List (Nat × Nat × Opd))
 |buildSlice (sz len:Nat) (zero:List AV) (parts:List (Nat × Nat × Opd))
 |load (n:Option Nat) (a:Opd)
 |store (n:Nat) (a x:Opd)
 |nilCheck (x:Opd)
 |bin (op:BinOp) (ek:EK) (x y:Opd)
 |un (op:UnOp) (x:Opd)
 |convI (k:IntKind) (x:Opd)
 |b2s (x:Opd)
 |mkIfc (t:TypeId) (x:Opd)
 |mkFn (f:FuncId) (first captured:List Opd)
 |mkMap (ks:KS)
 |mkSlice (zero:List AV) (sz bytes:Nat) (len cap:Opd)
 |sliceStr (x:Opd) (lo hi:Option Opd)
 |sliceSl (sz:Nat) (x:Opd) (lo hi mx:Option Opd)
 |fieldAddr (off:Nat) (x:Opd)
 |field (off:Nat) (n:Option Nat) (x:Opd)
 |idxArr (n sz:Nat) (x i:Opd)
 |idxSl (sz:Nat) (x i:Opd)
 |ixArr (n sz:Nat) (m:Option Nat) (x i:Opd)
 |ixStr (x i:Opd)
 |lookup (ks:KS) (zero:AV) (ok:Bool) (x k:Opd)
 |mapUpd (ks:KS) (x k v:Opd)
 |typeAssert (t:TypeId) (zero:AV) (ok:Bool) (x:Opd)
 |extract (i:Nat) (x:Opd)
 |append (sz bytes:Nat) (s x:Opd)
 |lenSl (x:Opd)
 |lenStr (x:Opd)
 |mm (max:Bool) (x y:Opd)
 deriving Inhabited
inductive MAny where
 |op (m:MOp)
 |call (f:FuncId) (args:List Opd)
 |callV (f:Opd) (args:List Opd)
 |invoke (name:String) (x:Opd) (args:List Opd)
 deriving Inhabited
def MOp.opds:MOp->List Opd
 |.mv x|.box x|.load _ x|.nilCheck x|.un _ x|.convI _ x|.b2s x|.mkIfc _ x|.fieldAddr _ x|.field _ _ x|.typeAssert _ _ _ x|.extract _ x|.lenSl x|.lenStr x=>[x]
 |.pick c a b=>[c,a,b]
 |.alloc _|.mkMap _=>[]
 |.build _ ps|.buildSlice _ _ _ ps=>ps.map (·.2.2)
 |.store _ a x|.bin _ _ a x|.idxArr _ _ a x|.idxSl _ a x|.ixArr _ _ _ a x|.ixStr a x|.append _ _ a x|.mm _ a x|.mkSlice _ _ _ a x|.lookup _ _ _ a x=>[a,x]
 |.mkFn _ a b=>a++b
 |.sliceStr x lo hi=>x::(lo.toList++hi.toList)
 |.sliceSl _ x lo hi mx=>x::(lo.toList++hi.toList++mx.toList)
 |.mapUpd _ x k v=>[x,k,v]
structure MOper where
 dst:Option Nat
 op:MAny
 guard:Option (Nat × Bool)
 deriving Inhabited
structure DItem where
 i:Nat
 op:MOper
 ag:List (Nat × MOper)
 deriving Inhabited
inductive MCode where
 |skip
 |region (ops:List MOper)
 |regionD (N:Nat) (items:List DItem) (outs:List (Nat × Nat))
 |seq (fgt:List Nat) (a b:MCode)
 |cond (c:Opd) (a b:MCode)
 |block (id:Nat) (c:MCode)
 |loop (fgt:List Nat) (c:MCode)
 |exit (id:Nat)
 |ret
 |bad
 |lab (c:MCode)
 deriving Inhabited
structure MFn where
 ntmps:Nat
 results:List (Nat × Option (Option Nat))
 body:MCode
 deriving Inhabited
def AV.cells:AV->List AV
 |.agg cs=>cs
 |v=>[v]
def AV.one:AV->Bool
 |.agg _|.tup _|.undef=>false
 |_=>true
def Opd.ev (fr:Frm):Opd->AV
 |.tmp t=>fr.getD t .undef
 |.const v=>v
def opt {α:Type}(c:Prop)[Decidable c](x:Option α):Option α:=if c then x else none
def ld1 (h:Heap):AV->Option AV
 |.ptr o off hi g=>match h[o]? with
  |some (.cells c)=>if c.wg<=g/\off<hi then c.cells[off]? else none
  |_=>none
 |_=>none
def rdc (h:Heap)(o off n g:Nat):Option (List AV):=
 match h[o]? with
 |some (.cells c)=>if c.wg<=g then some ((c.cells.drop off).take n) else none
 |_=>none
def ldN (n:Nat)(h:Heap):AV->Option AV
 |.ptr o off hi g=>if off+n<=hi then (rdc h o off n g).map .agg else none
 |_=>none
def setAll (cs:List AV)(off:Nat):List AV->List AV
 |[]=>cs
 |v::vs=>setAll (cs.set off v) (off+1) vs
def wrc (h:Heap)(o off hi g:Nat)(vs:List AV):Option Heap:=
 match h[o]? with
 |some (.cells c)=>if c.ro=false/\c.gen=g/\off+vs.length<=hi/\vs.all AV.one=true then some (h.set o (.cells { c with cells:=setAll c.cells off vs,wg:=g })) else none
 |_=>none
def stN (n:Nat)(h:Heap)(a v:AV):Option Heap:=
 match a with
 |.ptr o off hi g=>if v.cells.length=n then wrc h o off hi g v.cells else none
 |_=>none
def mkObj (h:Heap)(cells:List AV):Heap:=h++[.cells { cells:=cells,gen:=0,wg:=0,ro:=false }]
def newVar (h:Heap)(cells:List AV):Option (AV × Heap):=
 if cells.all AV.one=true then some (.ptr h.length 0 cells.length 0,mkObj h cells) else none
def fillP (cells:List AV):List (Nat × Nat × AV)->Option (List AV)
 |[]=>some cells
 |(off,size,v)::rest=>if v.cells.length=size/\off+size<=cells.length/\v.cells.all AV.one=true then fillP (setAll cells off v.cells) rest else none
def buildV (zero:List AV)(parts:List (Nat × Nat × AV)):Option AV:=(fillP zero parts).map .agg
def buildSl (sz len:Nat)(zero:List AV)(parts:List (Nat × Nat × AV))(h:Heap):Option (AV × Heap):=
 match fillP zero parts with
 |some cs=>if cs.all AV.one=true/\cs.length=len*sz then some (.sl h.length 0 len sz none 0,mkObj h cs) else none
 |none=>none
def nilCk:AV->Option AV
 |.ptr o off hi g=>some (.ptr o off hi g)
 |.fn f a b=>some (.fn f a b)
 |.ifc t v=>some (.ifc t v)
 |_=>none
def bitsI (op:BinOp)(k:IntKind)(x y:Int):Int:=
 let a:=BitVec.ofInt k.bits x
 let b:=BitVec.ofInt k.bits y
 k.wrap (match op with|.and=>a &&& b|.or=>a ||| b|.xor=>a ^^^ b|_=>a &&& ~~~b).toNat
def shiftI (op:BinOp)(k:IntKind)(x y:Int):Option AV:=
 if y<0 then none else
  match op with
  |.shl=>some (.int k (k.wrap (x*2 ^ min y.toNat k.bits)))
  |.shr=>some (.int k (x.fdiv (2 ^ min y.toNat k.bits)))
  |_=>none
def intI (op:BinOp)(k:IntKind)(x y:Int):Option AV:=
 match op with
 |.add=>some (.int k (k.wrap (x+y)))
 |.sub=>some (.int k (k.wrap (x-y)))
 |.mul=>some (.int k (k.wrap (x*y)))
 |.quo=>if y=0 then none else some (.int k (k.wrap (x.tdiv y)))
 |.rem=>if y=0 then none else some (.int k (x.tmod y))
 |.and|.or|.xor|.andNot=>some (.int k (bitsI op k x y))
 |.eql=>some (.bool (x == y))
 |.neq=>some (.bool (x != y))
 |.lss=>some (.bool (decide (x<y)))
 |.leq=>some (.bool (decide (x<=y)))
 |.gtr=>some (.bool (decide (x > y)))
 |.geq=>some (.bool (decide (x>=y)))
 |.shl|.shr=>none
def strS (op:BinOp)(x y:ByteArray):Option AV:=
 match op with
 |.add=>if x.size+y.size<=140737488355328 then some (.str (x++y)) else none
 |.eql=>some (.bool (x.toList == y.toList))
 |.neq=>some (.bool (!(x.toList == y.toList)))
 |_=>none
def eqOp (op:BinOp)(b:Bool):Option AV:=
 match op with
 |.eql=>some (.bool b)
 |.neq=>some (.bool (!b))
 |_=>none
def binV (op:BinOp)(ek:EK)(x y:AV):Option AV:=
 match x,y with
 |.int k a,.int k' b=>match op with
  |.shl|.shr=>shiftI op k a b
  |_=>if k=k' then intI op k a b else none
 |.str a,.str b=>strS op a b
 |.bool a,.bool b=>if ek=.bool then eqOp op (a == b) else none
 |.nilp,.nilp=>if ek=.ptr then eqOp op true else none
 |.ptr ..,.nilp|.nilp,.ptr ..=>if ek=.ptr then eqOp op false else none
 |.nils,.nils=>if ek=.slice then eqOp op true else none
 |.sl ..,.nils|.nils,.sl ..=>if ek=.slice then eqOp op false else none
 |.nilmap,.nilmap=>if ek=.map then eqOp op true else none
 |.map _,.nilmap|.nilmap,.map _=>if ek=.map then eqOp op false else none
 |_,_=>none
def unV (op:UnOp)(x:AV):Option AV:=
 match op,x with
 |.neg,.int k n=>some (.int k (k.wrap (0-n)))
 |.not,.bool b=>some (.bool (!b))
 |_,_=>none
def convV (k:IntKind):AV->Option AV
 |.int _ n=>some (.int k (k.wrap n))
 |_=>none
def bool?:AV->Option Bool
 |.bool b=>some b
 |_=>none
def mkSl (zero:List AV)(sz bytes:Nat)(len cap:AV)(h:Heap):Option (AV × Heap):=
 match len,cap with
 |.int .i64 l,.int .i64 c=>if 0<=l/\l<=c/\c*bytes<=140737488355328/\c<=140737488355328/\zero.length=sz/\zero.all AV.one=true then
   some (.sl h.length 0 l.toNat sz none 0,mkObj h ((List.replicate l.toNat zero).flatten)) else none
 |_,_=>none
def bnd (d:Nat):Option AV->Option Nat
 |none=>some d
 |some (.int _ n)=>if 0<=n then some n.toNat else none
 |some _=>none
def slSl (sz:Nat)(x:AV)(lo hi mx:Option AV):Option AV:=
 match x with
 |.sl o off len sz' lim g=>
  match bnd 0 lo,bnd len hi with
  |some l,some h=>
   if l<=h/\h<=len/\sz'=sz then
    match mx with
    |none=>some (.sl o (off+l*sz) (h-l) sz (lim.map (·-l)) g)
    |some m=>match bnd 0 (some m) with
     |some m=>if h<=m/\m<=len then some (.sl o (off+l*sz) (h-l) sz (some (m-l)) g) else none
     |none=>none
   else none
  |_,_=>none
 |.nils=>
  match bnd 0 lo,bnd 0 hi,bnd 0 mx with
  |some 0,some 0,some 0=>some .nils
  |_,_,_=>none
 |_=>none
def slStr (x:AV)(lo hi:Option AV):Option AV:=
 match x with
 |.str s=>match bnd 0 lo,bnd s.size hi with
  |some l,some h=>if l<=h/\h<=s.size then some (.str (s.extract l h)) else none
  |_,_=>none
 |_=>none
def fldA (d:Nat):AV->Option AV
 |.ptr o off hi g=>some (.ptr o (off+d) hi g)
 |_=>none
def partL (cs:List AV)(off:Nat):Option Nat->Option AV
 |none=>cs[off]?
 |some n=>some (.agg ((cs.drop off).take n))
def fldV (off:Nat)(n:Option Nat):AV->Option AV
 |.agg cs=>partL cs off n
 |_=>none
def idxA (n sz:Nat)(x i:AV):Option AV:=
 match x,i with
 |.ptr o off hi g,.int _ i=>if 0<=i/\i<n/\off+n*sz<=hi then some (.ptr o (off+i.toNat*sz) (off+i.toNat*sz+sz) g) else none
 |_,_=>none
def idxS (sz:Nat)(x i:AV):Option AV:=
 match x,i with
 |.sl o off len sz' _ g,.int _ i=>if 0<=i/\i<len/\sz'=sz then some (.ptr o (off+i.toNat*sz) (off+i.toNat*sz+sz) g) else none
 |_,_=>none
def ixA (n sz:Nat)(m:Option Nat)(x i:AV):Option AV:=
 match x,i with
 |.agg cs,.int _ i=>if 0<=i/\i<n then partL cs (i.toNat*sz) m else none
 |_,_=>none
def ixS (x i:AV):Option AV:=
 match x,i with
 |.str s,.int _ i=>if 0<=i then (s[i.toNat]?).map λb=>.int .u8 b.toNat else none
 |_,_=>none
def lenS:AV->Option AV
 |.sl _ _ len _ _ _=>some (.int .i64 len)
 |.nils=>some (.int .i64 0)
 |_=>none
def lenB:AV->Option AV
 |.str s=>some (.int .i64 s.size)
 |_=>none
def mmV (max:Bool)(x y:AV):Option AV:=
 match x,y with
 |.int k a,.int _ b=>some (.int k (if max then (if b > a then b else a) else (if b<a then b else a)))
 |_,_=>none
def tAssert (t:TypeId)(zero:AV)(ok:Bool):AV->Option AV
 |.ifc u v=>if u=t then some (if ok then .tup [v,.bool true] else v) else if ok then some (.tup [zero,.bool false]) else none
 |_=>none
def extr (i:Nat):AV->Option AV
 |.tup vs=>vs[i]?
 |_=>none
def news (sz:Nat)(x:AV)(h:Heap):Option (Nat × List AV):=
 match x with
 |.nils=>some (0,[])
 |.sl o off len sz' _ g=>if sz'=sz then (rdc h o off (len*sz) g).map λcs=>(len,cs) else none
 |_=>none
def apnd (sz bytes:Nat)(s x:AV)(h:Heap):Option (AV × Heap):=
 match news sz x h with
 |none=>none
 |some (m,ns)=>
  match s with
  |.nils=>if m=0 then some (.nils,h) else if m*bytes<=140737488355328/\ns.length=m*sz/\0<sz/\0<bytes then some (.sl h.length 0 m sz none 0,mkObj h ns) else none
  |.sl o off len sz' lim g=>
   if m=0 then some (.sl o off len sz' lim g,h)
   else if ¬(sz'=sz/\(len+m)*bytes<=140737488355328/\ns.length=m*sz/\0<sz/\0<bytes) then none else
    match lim with
    |some c=>if len+m<=c then none else (rdc h o off (len*sz) g).map λold=>(.sl h.length 0 (len+m) sz none 0,mkObj h (old++ns))
    |none=>match h[o]? with
     |some (.cells c)=>
      if c.ro=false/\c.gen=g/\off=0 then
       some (.sl o 0 (len+m) sz none (g+1),h.set o (.cells { c with cells:=c.cells.take (len*sz)++ns,gen:=g+1,wg:=if len*sz=c.cells.length then c.wg else g+1 }))
      else none
     |_=>none
  |_=>none
mutual
def AV.beq:AV->AV->Bool
 |.undef,.undef=>true
 |.bool a,.bool b=>a == b
 |.int k a,.int l b=>decide (k=l) && a == b
 |.str a,.str b=>decide (a=b)
 |.nilp,.nilp=>true
 |.ptr a b c d,.ptr e f g h=>a == e && b == f && c == g && d == h
 |.nils,.nils=>true
 |.sl a b c d e f,.sl a' b' c' d' e' f'=>a == a' && b == b' && c == c' && d == d' && decide (e=e') && f == f'
 |.nilmap,.nilmap=>true
 |.map a,.map b=>a == b
 |.nilfn,.nilfn=>true
 |.fn f a b,.fn g c d=>f == g && AV.beqs a c && AV.beqs b d
 |.nilifc,.nilifc=>true
 |.ifc t v,.ifc u w=>t == u && AV.beq v w
 |.agg a,.agg b=>AV.beqs a b
 |.tup a,.tup b=>AV.beqs a b
 |_,_=>false
def AV.beqs:List AV->List AV->Bool
 |[],[]=>true
 |a::r,b::s=>AV.beq a b && AV.beqs r s
 |_,_=>false
end
def findV (k:AV):List (AV × AV)->Option AV
 |[]=>none
 |(k',v)::r=>if AV.beq k k' then some v else findV k r
def putE (k v:AV):List (AV × AV)->List (AV × AV)
 |[]=>[(k,v)]
 |(k',v')::r=>if AV.beq k k' then (k,v)::r else (k',v')::putE k v r
def told (ok:Bool)(zero:AV):Option AV->AV
 |some v=>if ok then .tup [v,.bool true] else v
 |none=>if ok then .tup [zero,.bool false] else zero
def lookM (ks:KS)(zero:AV)(ok:Bool)(h:Heap)(x k:AV):Option AV:=
 if fitK ks k=true then
  match x with
  |.nilmap=>some (told ok zero none)
  |.map o=>match h[o]? with
   |some (.map ks' es)=>if ks'=ks then some (told ok zero (findV k es)) else none
   |_=>none
  |_=>none
 else none
def updM (ks:KS)(h:Heap)(x k v:AV):Option Heap:=
 if fitK ks k=true then
  match x with
  |.map o=>match h[o]? with
   |some (.map ks' es)=>if ks'=ks then some (h.set o (.map ks (putE k v es))) else none
   |_=>none
  |_=>none
 else none
def b2sL:List AV->Option (List UInt8)
 |[]=>some []
 |.int .u8 n::r=>(b2sL r).map λl=>UInt8.ofNat n.toNat::l
 |_::_=>none
def b2sV (h:Heap):AV->Option AV
 |.nils=>some (.str ByteArray.empty)
 |.sl o off len 1 _ g=>((rdc h o off len g).bind b2sL).map λl=>.str ⟨l.toArray⟩
 |_=>none
def pure1 (h:Heap)(v:Option AV):Option (AV × Heap):=v.map λv=>(v,h)
def evalM (op:MOp)(fr:Frm)(h:Heap):Option (AV × Heap):=
 match op with
 |.mv x=>some (x.ev fr,h)
 |.pick c a b=>pure1 h ((bool? (c.ev fr)).map λt=>if t then a.ev fr else b.ev fr)
 |.alloc z=>newVar h z
 |.box x=>newVar h (x.ev fr).cells
 |.build z ps=>pure1 h (buildV z (ps.map λ(o,s,x)=>(o,s,x.ev fr)))
 |.buildSlice sz len z ps=>buildSl sz len z (ps.map λ(o,s,x)=>(o,s,x.ev fr)) h
 |.load none a=>pure1 h (ld1 h (a.ev fr))
 |.load (some n) a=>pure1 h (ldN n h (a.ev fr))
 |.store n a x=>(stN n h (a.ev fr) (x.ev fr)).map λh'=>(.undef,h')
 |.nilCheck x=>pure1 h (nilCk (x.ev fr))
 |.bin op ek x y=>pure1 h (binV op ek (x.ev fr) (y.ev fr))
 |.un op x=>pure1 h (unV op (x.ev fr))
 |.convI k x=>pure1 h (convV k (x.ev fr))
 |.b2s x=>pure1 h (b2sV h (x.ev fr))
 |.mkIfc t x=>some (.ifc t (x.ev fr),h)
 |.mkFn f a b=>some (.fn f (a.map (·.ev fr)) (b.map (·.ev fr)),h)
 |.mkMap ks=>some (.map h.length,h++[.map ks []])
 |.mkSlice z sz by_ l c=>mkSl z sz by_ (l.ev fr) (c.ev fr) h
 |.sliceStr x lo hi=>pure1 h (slStr (x.ev fr) (lo.map (·.ev fr)) (hi.map (·.ev fr)))
 |.sliceSl sz x lo hi mx=>pure1 h (slSl sz (x.ev fr) (lo.map (·.ev fr)) (hi.map (·.ev fr)) (mx.map (·.ev fr)))
 |.fieldAddr d x=>pure1 h (fldA d (x.ev fr))
 |.field d n x=>pure1 h (fldV d n (x.ev fr))
 |.idxArr n sz x i=>pure1 h (idxA n sz (x.ev fr) (i.ev fr))
 |.idxSl sz x i=>pure1 h (idxS sz (x.ev fr) (i.ev fr))
 |.ixArr n sz m x i=>pure1 h (ixA n sz m (x.ev fr) (i.ev fr))
 |.ixStr x i=>pure1 h (ixS (x.ev fr) (i.ev fr))
 |.typeAssert t z ok x=>pure1 h (tAssert t z ok (x.ev fr))
 |.extract i x=>pure1 h (extr i (x.ev fr))
 |.append sz by_ s x=>apnd sz by_ (s.ev fr) (x.ev fr) h
 |.lenSl x=>pure1 h (lenS (x.ev fr))
 |.lenStr x=>pure1 h (lenB (x.ev fr))
 |.mm mx x y=>pure1 h (mmV mx (x.ev fr) (y.ev fr))
 |.lookup ks z ok x k=>pure1 h (lookM ks z ok h (x.ev fr) (k.ev fr))
 |.mapUpd ks x k v=>(updM ks h (x.ev fr) (k.ev fr) (v.ev fr)).map λh'=>(.undef,h')
structure Tab where
 fn:FuncId->Option MFn
 meth:TypeId->String->Option FuncId
abbrev CallF:=FuncId->List AV->Heap->Option (AV × Heap)
def evalO (T:Tab)(call:CallF)(op:MAny)(fr:Frm)(h:Heap):Option (AV × Heap):=
 match op with
 |.call f xs=>call f (xs.map (·.ev fr)) h
 |.callV x xs=>match x.ev fr with
  |.fn f a b=>call f (a++xs.map (·.ev fr)++b) h
  |_=>none
 |.invoke nm x xs=>match x.ev fr with
  |.ifc t (.ptr o off hi g)=>match T.meth t nm with
   |some f=>call f (.ptr o off hi g::xs.map (·.ev fr)) h
   |none=>none
  |_=>none
 |.op m=>evalM m fr h
def put (fr:Frm)(d:Option Nat)(v:AV):Frm:=
 match d with
 |some d=>fr.set d v
 |none=>fr
def want (fr:Frm):Option (Nat × Bool)->Option Bool
 |none=>some true
 |some (d,b)=>match fr.getD d .undef with
  |.bool c=>some (c == b)
  |.tup []=>some false
  |_=>none
def evalR (T:Tab)(call:CallF):List MOper->Frm->Heap->Option (Frm × Heap)
 |[],fr,h=>some (fr,h)
 |o::r,fr,h=>(want fr o.guard).bind λw=>
  if w then (evalO T call o.op fr h).bind λ(v,h')=>evalR T call r (put fr o.dst v) h'
  else evalR T call r (put fr o.dst (.tup [])) h
def readM:MOp->Bool
 |.load ..|.lookup ..|.b2s ..=>true
 |_=>false
def allocM:MOp->Bool
 |.alloc _|.box _|.buildSlice ..|.mkSlice ..=>true
 |_=>false
def effM:MOp->Bool
 |.append ..|.store ..|.mapUpd ..|.mkMap _=>true
 |_=>false
def isEff:MAny->Bool
 |.op m=>effM m
 |_=>true
def isRead:MAny->Bool
 |.op m=>readM m
 |_=>false
def againB (fr:Frm)(h:Heap)(p:Nat × MOper):Bool:=
 match want fr p.2.guard with
 |some false=>true
 |some true=>match p.2.op with
  |.op m=>match evalM m fr h with
   |some u=>u.1.beq (fr.getD p.1 .undef)
   |none=>false
  |_=>false
 |none=>false
def evalD (T:Tab)(call:CallF):List DItem->Frm->Heap->Option (Frm × Heap)
 |[],fr,h=>some (fr,h)
 |it::r,fr,h=>(want fr it.op.guard).bind λw=>
  if w then (evalO T call it.op.op fr h).bind λ(v,h')=>
   if it.ag.all (againB (put fr it.op.dst v) h') then evalD T call r (put fr it.op.dst v) h' else none
  else evalD T call r (put fr it.op.dst (.tup [])) h
def outFr (fr frE:Frm):List (Nat × Nat)->Frm
 |[]=>fr
 |(d,s)::r=>outFr (fr.set d (frE.getD s .undef)) frE r
def forget (fr:Frm):List Nat->Frm
 |[]=>fr
 |t::r=>forget (fr.set t .undef) r
inductive MExit where
 |normal|exit (id:Nat)|ret
 deriving DecidableEq
abbrev Kont (R:Type):=MExit->Frm->Heap->Option R
def loopN {R:Type}(B:Frm->Heap->Kont R->Option R)(fgt:List Nat):Nat->Frm->Heap->Kont R->Option R
 |0,_,_,_=>none
 |k+1,fr,h,K=>B fr h λe fr' h'=>match e with
  |.normal=>loopN B fgt k (forget fr' fgt) h' K
  |e=>K e fr' h'
def evalC {R:Type}(T:Tab)(call:CallF)(k:Nat):MCode->Frm->Heap->Kont R->Option R
 |.skip,fr,h,K=>K .normal fr h
 |.region ops,fr,h,K=>(evalR T call ops fr h).bind λ(fr',h')=>K .normal fr' h'
 |.regionD N items outs,fr,h,K=>if fr.length=N then (evalD T call items (fr++List.replicate items.length .undef) h).bind λ(frE,h')=>K .normal (outFr fr frE outs) h' else none
 |.seq fgt a b,fr,h,K=>evalC T call k a fr h λe fr' h'=>match e with
  |.normal=>evalC T call k b (forget fr' fgt) h' K
  |e=>K e fr' h'
 |.cond c a b,fr,h,K=>match c.ev fr with
  |.bool true=>evalC T call k a fr h K
  |.bool false=>evalC T call k b fr h K
  |_=>none
 |.block id c,fr,h,K=>evalC T call k c fr h λe fr' h'=>K (if e=.exit id then .normal else e) fr' h'
 |.loop fgt c,fr,h,K=>loopN (λfr h K=>evalC T call k c fr h K) fgt k (forget fr fgt) h K
 |.exit id,fr,h,K=>K (.exit id) fr h
 |.ret,fr,h,K=>K .ret fr h
 |.bad,_,_,_=>none
 |.lab c,fr,h,K=>evalC T call k c fr h K
def result (fr:Frm)(h:Heap):Nat × Option (Option Nat)->Option AV
 |(t,none)=>some (fr.getD t .undef)
 |(t,some none)=>ld1 h (fr.getD t .undef)
 |(t,some (some n))=>ldN n h (fr.getD t .undef)
def resultsL (fr:Frm)(h:Heap):List (Nat × Option (Option Nat))->Option (List AV)
 |[]=>some []
 |r::rs=>(result fr h r).bind λv=>(resultsL fr h rs).map λvs=>v::vs
def resultsV (fr:Frm)(h:Heap)(rs:List (Nat × Option (Option Nat))):Option AV:=
 (resultsL fr h rs).map λvs=>match vs with|[v]=>v|vs=>.tup vs
def kend (fn:MFn):Kont (AV × Heap):=λe fr h=>match e with
 |.exit _=>none
 |_=>(resultsV fr h fn.results).map λv=>(v,h)
def evalFn (T:Tab):Nat->CallF
 |0,_,_,_=>none
 |k+1,f,args,h=>match T.fn f with
  |some fn=>evalC T (evalFn T k) k fn.body (args++List.replicate (fn.ntmps-args.length) .undef) h (kend fn)
  |none=>none
end Go.Gm
namespace Go.Gm
open Go.RowKit
structure Loc where
 b:Nat
 d:Nat
 N:Nat
 n:Nat
structure Ren where
 c:Nat->Nat->Option Loc
 m:Nat->Option Nat
mutual
inductive VR (φ:Ren):AV->Value->Prop
 |undef (v:Value):VR φ .undef v
 |bool (b:Bool):VR φ (.bool b) (.bool b)
 |int (k:IntKind) (n:Int):VR φ (.int k n) (.int k n)
 |str (s:ByteArray):VR φ (.str s) (.string s)
 |nilp:VR φ .nilp (.pointer none)
 |ptr {o off hi g:Nat} {l:Loc}:φ.c o g=some l->hi<=l.n->VR φ (.ptr o off hi g) (.pointer (some ⟨l.b,l.d+off,none⟩))
 |nils:VR φ .nils (.slice none 0 0)
 |sl {o off len sz g cap:Nat} {lim:Option Nat} {l:Loc}:φ.c o g=some l->off+len*sz<=l.n->len<=cap->cap<=maxLen->l.d+off+cap*sz<=l.N->
   (∀c,lim=some c->cap=c)->VR φ (.sl o off len sz lim g) (.slice (some ⟨l.b,l.d+off,none⟩) len cap)
 |sl0 {o off sz g:Nat} {lim:Option Nat} {a:Addr}:(lim=none->∃l,φ.c o g=some l/\off<=l.n)->(∀c,lim=some c->c=0)->VR φ (.sl o off 0 sz lim g) (.slice (some a) 0 0)
 |nilmap:VR φ .nilmap (.map none)
 |map {o b:Nat}:φ.m o=some b->VR φ (.map o) (.map (some b))
 |nilfn:VR φ .nilfn .nilFunc
 |fn {f:FuncId} {xs ys:List AV} {xs' ys':List Value}:VRs φ xs xs'->VRs φ ys ys'->VR φ (.fn f xs ys) (.func (.func f) xs'.toArray ys'.toArray)
 |nilifc:VR φ .nilifc .nilIface
 |ifc {t:TypeId} {v:AV} {v':Value}:VR φ v v'->VR φ (.ifc t v) (.iface t v')
 |agg {cs:List AV} {cs':List Value}:VRs φ cs cs'->VR φ (.agg cs) (.agg cs'.toArray)
 |tup {cs:List AV} {cs':List Value}:VRs φ cs cs'->VR φ (.tup cs) (.tuple cs'.toArray)
inductive VRs (φ:Ren):List AV->List Value->Prop
 |nil:VRs φ [] []
 |cons {v:AV} {v':Value} {vs:List AV} {vs':List Value}:VR φ v v'->VRs φ vs vs'->VRs φ (v::vs) (v'::vs')
end

structure Ren.le (φ ψ:Ren):Prop where
 c:∀o g l,φ.c o g=some l->ψ.c o g=some l
 m:∀o b,φ.m o=some b->ψ.m o=some b
theorem Ren.le.refl (φ:Ren):φ.le φ:=⟨λ_ _ _ h=>h,λ_ _ h=>h⟩
theorem Ren.le.trans {φ ψ χ:Ren}(h:φ.le ψ)(k:ψ.le χ):φ.le χ:=⟨λo g l e=>k.c o g l (h.c o g l e),λo b e=>k.m o b (h.m o b e)⟩
mutual
theorem VR.mono {φ ψ:Ren} (h:φ.le ψ):∀{x:AV} {v:Value},VR φ x v->VR ψ x v
 |_,_,.undef v=>.undef v
 |_,_,.bool b=>.bool b
 |_,_,.int k n=>.int k n
 |_,_,.str s=>.str s
 |_,_,.nilp=>.nilp
 |_,_,.ptr e e2=>.ptr (h.c _ _ _ e) e2
 |_,_,.nils=>.nils
 |_,_,.sl e a b c d f=>.sl (h.c _ _ _ e) a b c d f
 |_,_,.sl0 e b=>.sl0 (λq=>let ⟨l,h1,h2⟩:=e q; ⟨l,h.c _ _ _ h1,h2⟩) b
 |_,_,.nilmap=>.nilmap
 |_,_,.map e=>.map (h.m _ _ e)
 |_,_,.nilfn=>.nilfn
 |_,_,.fn a b=>.fn (VRs.mono h a) (VRs.mono h b)
 |_,_,.nilifc=>.nilifc
 |_,_,.ifc a=>.ifc (VR.mono h a)
 |_,_,.agg a=>.agg (VRs.mono h a)
 |_,_,.tup a=>.tup (VRs.mono h a)
theorem VRs.mono {φ ψ:Ren} (h:φ.le ψ):∀{xs:List AV} {vs:List Value},VRs φ xs vs->VRs ψ xs vs
 |_,_,.nil=>.nil
 |_,_,.cons a b=>.cons (VR.mono h a) (VRs.mono h b)
end

section
variable {φ:Ren}
theorem VRs.length:∀{xs:List AV} {vs:List Value},VRs φ xs vs->xs.length=vs.length
 |_,_,.nil=>rfl
 |_,_,.cons _ b=>by simp[VRs.length b]
theorem VRs.get:∀{xs:List AV} {vs:List Value},VRs φ xs vs->∀{i:Nat} {x:AV},xs[i]?=some x->∃v,vs[i]?=some v/\VR φ x v
 |_,_,.nil,i,x,h=>by simp at h
 |_,_,.cons a b,0,x,h=>by simp at h; subst h; exact ⟨_,by simp,a⟩
 |_,_,.cons a b,i+1,x,h=>by
  obtain ⟨v,hv,hr⟩:=VRs.get b (i:=i) (by simpa using h)
  exact ⟨v,by simpa using hv,hr⟩
theorem VRs.get' (h:VRs φ xs vs){i:Nat}(hv:vs[i]?=some v):∃x,xs[i]?=some x/\VR φ x v:=by
 have hl:=h.length
 have hi:i<vs.length:=(List.getElem?_eq_some_iff.1 hv).1
 obtain ⟨v',hv',hr⟩:=h.get (i:=i) (x:=xs[i]'oM) (List.getElem?_eq_getElem oM)
 rw[hv] at hv'
 injection hv' with hv'
 subst hv'
 exact ⟨_,List.getElem?_eq_getElem oM,hr⟩
theorem VRs.append:∀{xs ys:List AV} {vs us:List Value},VRs φ xs vs->VRs φ ys us->VRs φ (xs++ys) (vs++us)
 |_,_,_,_,.nil,k=>k
 |_,_,_,_,.cons a b,k=>.cons a (b.append k)
theorem VRs.of_get:∀{xs:List AV} {vs:List Value},xs.length=vs.length->(∀(i:Nat) (x:AV) (v:Value),xs[i]?=some x->vs[i]?=some v->VR φ x v)->VRs φ xs vs
 |[],[],_,_=>.nil
 |x::xs,v::vs,hl,h=>.cons (h 0 x v (by simp) (by simp)) (VRs.of_get (by simpa using hl) (λi y u hy hu=>h (i+1) y u (by simpa using hy) (by simpa using hu)))
 |[],_::_,hl,_=>by simp at hl
 |_::_,[],hl,_=>by simp at hl
theorem VRs.drop (h:VRs φ xs vs)(n:Nat):VRs φ (xs.drop n) (vs.drop n):=
 VRs.of_get (by simp[h.length]) (λi x v hx hv=>by
  obtain ⟨v',hv',hr⟩:=h.get (i:=n+i) (by simpa [List.getElem?_drop] using hx)
  rw[List.getElem?_drop,hv'] at hv
  injection hv with hv; subst hv; exact hr)
theorem VRs.take (h:VRs φ xs vs)(n:Nat):VRs φ (xs.take n) (vs.take n):=
 VRs.of_get (by simp[h.length]) (λi x v hx hv=>by
  rw[List.getElem?_take] at hx hv
  split at hx
  ·rename_i hi
   rw[if_pos hi] at hv
   obtain ⟨v',hv',hr⟩:=h.get hx
   rw[hv'] at hv
   injection hv with hv; subst hv; exact hr
  ·cases hx)
theorem VR.one_of (h:VR φ x v)(h1:x.one=true):v.oneCell'=true:=by
 cases h<;>first|rfl|simp[AV.one] at h1
theorem VRs.one_of:∀{xs:List AV} {vs:List Value},VRs φ xs vs->xs.all AV.one=true->∀v∈vs,v.oneCell'=true
 |_,_,.nil,_=>by simp
 |_,_,.cons a b,h=>by
  simp only[List.all_cons,Bool.and_eq_true] at h
  intro v hv
  rcases List.mem_cons.1 hv with rfl|hv
  ·exact a.one_of h.1
  ·exact VRs.one_of b h.2 v hv
end
def CellsAt (φ:Ren)(cs:List AV)(l:Loc)(C:Array Value):Prop:=
 l.n<=cs.length/\l.d+l.n<=l.N/\∀i,i<l.n->∃x v,cs[i]?=some x/\C[l.d+i]?=some v/\VR φ x v/\x.one=true
inductive ERs (φ:Ren) (ks:KS):List (AV × AV)->List MapEntry->Prop
 |nil:ERs φ ks [] []
 |cons {k v:AV} {e:MapEntry} {es:List (AV × AV)} {es':List MapEntry}:fitK ks k=true->(∀p∈es,p.1≠k)->VR φ k e.key->VR φ v e.val->ERs φ ks es es'->ERs φ ks ((k,v)::es) (e::es')
theorem ERs.mono {φ ψ:Ren}(h:φ.le ψ):∀{es:List (AV × AV)} {es':List MapEntry},ERs φ ks es es'->ERs ψ ks es es'
 |_,_,.nil=>.nil
 |_,_,.cons f n a b c=>.cons f n (a.mono h) (b.mono h) (c.mono h)
def isRo (h:Heap)(o:Nat):Bool:=match h[o]? with|some (.cells c)=>c.ro|_=>false
structure CellOk (φ:Ren) (w:World) (B:Nat) (c:CObj) (g:Nat) (l:Loc):Prop where
 gen:g<=c.gen
 wg:c.wg<=c.gen
 blk:∃C e fr,w.heap[l.b]?=some (.cells C e fr)/\C.size=l.N/\(c.ro=false->fr=(0,0)/\B<=l.b)/\(c.wg<=g->CellsAt φ c.cells l C)
 last:g=c.gen->l.n=c.cells.length
structure WR (φ:Ren) (h:Heap) (w:World) (B:Nat):Prop where
 cell:∀o g l,φ.c o g=some l->∃c,h[o]?=some (.cells c)/\CellOk φ w B c g l
 map:∀o b,φ.m o=some b->∃ks es,h[o]?=some (.map ks es)/\B<=b/\∃es' clk,w.heap[b]?=some (.map es' clk)/\ERs φ ks es es'.toList
 sep:∀o g l o' g' l',φ.c o g=some l->φ.c o' g'=some l'->l.b=l'.b->(o=o'/\l.d=l'.d)\/(isRo h o=true/\isRo h o'=true)
 msep:∀o b o' b',φ.m o=some b->φ.m o'=some b'->b=b'->o=o'
structure S (B:Nat) (w0:World) (φ:Ren) (h:Heap) (w:World):Prop where
 wr:WR φ h w B
 below:Below B w0 w
 base:B<=w.heap.size
structure Kept (φ:Ren) (h:Heap) (ψ:Ren) (h':Heap):Prop where
 le:φ.le ψ
 len:h.length<=h'.length
 un:∀o,o<h.length->(∀g,φ.c o g=none)->φ.m o=none->(∀g,ψ.c o g=none)/\ψ.m o=none/\h'[o]?=h[o]?
theorem Kept.refl (φ:Ren)(h:Heap):Kept φ h φ h:=⟨.refl φ,Nat.le_refl _,λ_ _ a b=>⟨a,b,rfl⟩⟩
theorem Kept.trans (a:Kept φ h ψ h')(b:Kept ψ h' χ h''):Kept φ h χ h'':=
 ⟨a.le.trans b.le,Nat.le_trans a.len b.len,λo ho hc hm=>by
  obtain ⟨h1,h2,h3⟩:=a.un o ho hc hm
  obtain ⟨k1,k2,k3⟩:=b.un o (Nat.lt_of_lt_of_le ho a.len) h1 h2
  exact ⟨k1,k2,k3.trans h3⟩⟩
theorem CellsAt.mono (h:CellsAt φ cs l C)(hl:φ.le ψ):CellsAt ψ cs l C:=
 ⟨h.1,h.2.1,λi hi=>by
  obtain ⟨x,v,a,b,c,d⟩:=h.2.2 i hi
  exact ⟨x,v,a,b,c.mono hl,d⟩⟩
theorem CellOk.mono (h:CellOk φ w B c g l)(hl:φ.le ψ):CellOk ψ w B c g l:=
 ⟨h.gen,h.wg,by
  obtain ⟨C,e,fr,a,b,c1,d⟩:=h.blk
  exact ⟨C,e,fr,a,b,c1,λhw=>(d hw).mono hl⟩,h.last⟩
theorem CellOk.move {w w':World}(h:CellOk φ w B c g l)(hb:w'.heap[l.b]?=w.heap[l.b]?):CellOk φ w' B c g l:=
 ⟨h.gen,h.wg,by
  obtain ⟨C,e,fr,a,b,c1,d⟩:=h.blk
  exact ⟨C,e,fr,hb.trans a,b,c1,d⟩,h.last⟩
theorem CellOk.lt (h:CellOk φ w B c g l):l.b<w.heap.size:=by
 obtain ⟨C,e,fr,a,_⟩:=h.blk
 exact (Array.getElem?_eq_some_iff.1 a).1
theorem b0T {w:World}{b:Nat}(h:w.heap[b]?=some o):b<w.heap.size:=(Array.getElem?_eq_some_iff.1 h).1
def Ren.setC (φ:Ren)(o g:Nat)(l:Loc):Ren:={ φ with c:=λo' g'=>if o'=o/\g'=g then some l else φ.c o' g' }
theorem Ren.setC_le {φ:Ren}(h:φ.c o g=none):φ.le (φ.setC o g l):=by
 refine ⟨λo' g' l' e=>?_,λ_ _ e=>e⟩
 simp only[Ren.setC]
 split
 ·rename_i hc
  obtain ⟨rfl,rfl⟩:=hc
  rw[h] at e; cases e
 ·exact e
theorem WR.unm_of_len (hw:WR φ h w B){o:Nat}(ho:h.length<=o):(∀g,φ.c o g=none)/\φ.m o=none:=by
 refine ⟨λg=>?_,?_⟩
 ·cases hc:φ.c o g with
  |none=>rfl
  |some l=>
   obtain ⟨c,he,_⟩:=hw.cell o g l hc
   rw[List.getElem?_eq_none ho] at he; cases he
 ·cases hc:φ.m o with
  |none=>rfl
  |some l=>
   obtain ⟨_,c,he,_⟩:=hw.map o l hc
   rw[List.getElem?_eq_none ho] at he; cases he
theorem a6S (w:World)(o:Obj):(w.alloc o).heap[w.heap.size]?=some o:=heap_alloc_new w o
theorem x6_ (w:World)(o:Obj)(k:Nat)(h:k<w.heap.size):(w.alloc o).heap[k]?=w.heap[k]?:=Below.heap_alloc w o k h
theorem S.lay (hs:S B w0 φ h w){o:Nat}{cs:List AV}(ho:h[o]?=some (.cells ⟨cs,0,0,false⟩))(hc:∀g,φ.c o g=none){vs rest:List Value}(hv:VRs φ cs vs)(h1:cs.all AV.one=true)(e:TypeId) :
  S B w0 (φ.setC o 0 ⟨w.heap.size,0,(vs++rest).length,cs.length⟩) h (w.alloc (.cells (vs++rest).toArray e)):=by
 have hle:φ.le (φ.setC o 0 ⟨w.heap.size,0,(vs++rest).length,cs.length⟩):=Ren.setC_le (hc 0)
 refine ⟨⟨λo' g' l' hl'=>?_,λo' b' hb'=>?_,?_,?_⟩,hs.below.alloc hs.base _,by simp; have:=hs.base; omega⟩
 ·simp only[Ren.setC] at hl'
  split at hl'
  ·rename_i hcc
   obtain ⟨rfl,rfl⟩:=hcc
   injection hl' with hl'
   subst hl'
   refine ⟨_,ho,⟨Nat.le_refl _,Nat.le_refl _,⟨_,e,(0,0),a6S w _,by simp,λ_=>⟨rfl,hs.base⟩,λ_=>⟨Nat.le_refl _,by simp[hv.length],λi hi=>?_⟩⟩,λ_=>rfl⟩⟩
   obtain ⟨v,hv',hr⟩:=hv.get (i:=i) (x:=cs[i]'hi) (List.getElem?_eq_getElem hi)
   refine ⟨cs[i]'hi,v,List.getElem?_eq_getElem hi,?_,hr.mono hle,?_⟩
   ·have:i<vs.length:=by rw[<-hv.length]; exact hi
    simp only[Nat.zero_add,List.getElem?_toArray]
    rw[List.getElem?_append_left this]
    exact hv'
   ·exact List.all_eq_true.1 h1 _ (List.getElem_mem hi)
  ·obtain ⟨c,h2,h3⟩:=hs.wr.cell o' g' l' hl'
   exact ⟨c,h2,(h3.move (x6_ w _ _ h3.lt)).mono hle⟩
 ·obtain ⟨ks,es,h2,h3,es',clk,h4,h5⟩:=hs.wr.map o' b' hb'
  exact ⟨ks,es,h2,h3,es',clk,(x6_ w _ _ (b0T h4)).trans h4,h5.mono hle⟩
 ·intro o1 g1 l1 o2 g2 l2 e1 e2 hb
  have new:∀o' g' l',φ.c o' g'=some l'->l'.b<w.heap.size:=λo' g' l' hl'=>by
   obtain ⟨c,_,h3⟩:=hs.wr.cell o' g' l' hl'
   exact h3.lt
  simp only[Ren.setC] at e1 e2
  split at e1
  ·rename_i c1
   injection e1 with e1
   subst e1
   split at e2
   ·rename_i c2
    injection e2 with e2
    subst e2
    exact .inl ⟨c1.1.trans c2.1.symm,rfl⟩
   ·have:=new _ _ _ e2
    simp only at hb
    omega
  ·split at e2
   ·injection e2 with e2
    subst e2
    have:=new _ _ _ e1
    simp only at hb
    omega
   ·exact hs.wr.sep _ _ _ _ _ _ e1 e2 hb
 ·exact hs.wr.msep
theorem S.push (hs:S B w0 φ h w)(x:AObj):S B w0 φ (h++[x]) w:=by
 have old:∀o y,h[o]?=some y->(h++[x])[o]?=some y:=λo y hy=>by
  rw[List.getElem?_append_left (List.getElem?_eq_some_iff.1 hy).1]; exact hy
 have ro:∀o y,h[o]?=some y->isRo (h++[x]) o=isRo h o:=λo y hy=>by simp only[isRo,old o y hy,hy]
 refine ⟨⟨λo g l hl=>?_,λo b hb=>?_,?_,hs.wr.msep⟩,hs.below,hs.base⟩
 ·obtain ⟨c,h2,h3⟩:=hs.wr.cell o g l hl
  exact ⟨c,old _ _ h2,h3⟩
 ·obtain ⟨ks,es,h2,h3⟩:=hs.wr.map o b hb
  exact ⟨ks,es,old _ _ h2,h3⟩
 ·intro o1 g1 l1 o2 g2 l2 e1 e2 hb
  obtain ⟨c1,k1,_⟩:=hs.wr.cell _ _ _ e1
  obtain ⟨c2,k2,_⟩:=hs.wr.cell _ _ _ e2
  rw[ro _ _ k1,ro _ _ k2]
  exact hs.wr.sep _ _ _ _ _ _ e1 e2 hb
theorem Kept.push (φ:Ren)(h:Heap)(x:AObj):Kept φ h φ (h++[x]):=
 ⟨.refl φ,by simp,λo ho a b=>⟨a,b,List.getElem?_append_left ho⟩⟩
theorem Kept.set {φ:Ren}{h:Heap}{o g:Nat}(ho:h.length<=o\/∃g' l',φ.c o g'=some l')(hn:φ.c o g=none):Kept φ h (φ.setC o g l) h:=by
 refine ⟨Ren.setC_le hn,Nat.le_refl _,λo' ho' hc hm=>⟨λg'=>?_,hm,rfl⟩⟩
 simp only[Ren.setC]
 split
 ·rename_i hcc
  obtain ⟨rfl,rfl⟩:=hcc
  rcases ho with ho|⟨g2,l2,h2⟩
  ·omega
  ·rw[hc] at h2; cases h2
 ·exact hc g'
end Go.Gm
namespace Go.Gm
open Go.RowKit
theorem b0Q (b d j:Nat):(⟨b,d,none⟩:Addr).add j=⟨b,d+j,none⟩:=by unfold Addr.add; split<;>simp_all
section
variable {B:Nat} {w0:World} {φ:Ren} {h:Heap} {w:World}
theorem S.cellAt (hs:S B w0 φ h w)(hl:φ.c o g=some l)(ho:h[o]?=some (.cells c))(hw:c.wg<=g){i:Nat}(hi:i<l.n) :
  ∃x v,c.cells[i]?=some x/\w.cell? ⟨l.b,l.d+i,none⟩=some v/\VR φ x v/\x.one=true:=by
 obtain ⟨c',ho',hc⟩:=hs.wr.cell o g l hl
 rw[ho] at ho'
 injection ho' with ho'
 injection ho' with ho'
 subst ho'
 obtain ⟨C,e,fr,a,b,_,d⟩:=hc.blk
 obtain ⟨x,v,k1,k2,k3,k4⟩:=(d hw).2.2 i hi
 exact ⟨x,v,k1,(cell_of_row w l.b _ C e fr a).trans k2,k3,k4⟩
theorem S.cellsAt (hs:S B w0 φ h w)(hl:φ.c o g=some l){off n:Nat}(hn:off+n<=l.n)(hr:rdc h o off n g=some cs) :
  ∃vs:List Value,vs.length=n/\VRs φ cs vs/\cs.all AV.one=true/\cs.length=n/\∀j v,vs[j]?=some v->w.cell? ((⟨l.b,l.d+off,none⟩:Addr).add j)=some v:=by
 obtain ⟨c,ho,hc⟩:=hs.wr.cell o g l hl
 unfold rdc at hr
 rw[ho] at hr
 simp only at hr
 split at hr
 ·rename_i hw
  injection hr with hr
  have hlen:l.n<=c.cells.length:=by
   obtain ⟨C,e,fr,_,_,_,d⟩:=hc.blk
   exact (d hw).1
  have hcl:cs.length=n:=by rw[<-hr]; simp; omega
  have get:∀j,j<n->∃x v,cs[j]?=some x/\w.cell? ⟨l.b,l.d+(off+j),none⟩=some v/\VR φ x v/\x.one=true:=by
   intro j hj
   obtain ⟨x,v,k1,k2,k3,k4⟩:=hs.cellAt hl ho hw (i:=off+j) oM
   refine ⟨x,v,?_,k2,k3,k4⟩
   rw[<-hr,List.getElem?_take,if_pos hj,List.getElem?_drop]
   exact k1
  refine ⟨(List.range n).map λj=>(w.cell? ⟨l.b,l.d+(off+j),none⟩).getD undef,by simp,VRs.of_get (by simp[hcl]) (λi x v hx hv=>?_),?_,hcl,λj v hv=>?_⟩
  ·have hi:i<n:=by rw[<-hcl]; exact (List.getElem?_eq_some_iff.1 hx).1
   obtain ⟨x',v',k1,k2,k3,_⟩:=get i hi
   rw[k1] at hx
   injection hx with hx
   subst hx
   simp only[List.getElem?_map,List.getElem?_range hi,Option.map_some,k2,Option.getD_some,Option.some.injEq] at hv
   subst hv
   exact k3
  ·refine List.all_eq_true.2 (λx hx=>?_)
   obtain ⟨i,hi⟩:=List.getElem?_of_mem hx
   have hin:i<n:=by rw[<-hcl]; exact (List.getElem?_eq_some_iff.1 hi).1
   obtain ⟨x',v',k1,_,_,k4⟩:=get i hin
   rw[k1] at hi
   injection hi with hi
   rw[<-hi]
   exact k4
  ·have hj:j<n:=by
    have:=(List.getElem?_eq_some_iff.1 hv).1
    simpa using this
   obtain ⟨x',v',k1,k2,_,_⟩:=get j hj
   simp only[List.getElem?_map,List.getElem?_range hj,Option.map_some,k2,Option.getD_some,Option.some.injEq] at hv
   subst hv
   rw[b0Q,Nat.add_assoc]
   exact k2
 ·cases hr
theorem S.ld1 (hs:S B w0 φ h w)(hp:VR φ a p)(hx:ld1 h a=some x):∃ad v,p=.pointer (some ad)/\w.cell? ad=some v/\VR φ x v/\x.one=true:=by
 cases hp with
 |@ptr o off hi g l hl hn=>
  simp only[Gm.ld1] at hx
  obtain ⟨c,ho,hc⟩:=hs.wr.cell o g l hl
  rw[ho] at hx
  simp only at hx
  split at hx
  ·rename_i hw
   obtain ⟨x',v,k1,k2,k3,k4⟩:=hs.cellAt hl ho hw.1 (i:=off) oM
   rw[hx] at k1
   injection k1 with k1
   subst k1
   exact ⟨_,v,rfl,k2,k3,k4⟩
  ·cases hx
 |_=>simp[Gm.ld1] at hx
theorem S.ldN (hs:S B w0 φ h w)(hp:VR φ a p)(hx:ldN n h a=some x) :
  ∃ad cs vs,p=.pointer (some ad)/\x=.agg cs/\vs.length=n/\VRs φ cs vs/\∀(j:Nat) v,vs[j]?=some v->w.cell? (ad.add j)=some v:=by
 cases hp with
 |@ptr o off hi g l hl hn=>
  simp only[Gm.ldN] at hx
  split at hx
  ·rename_i hh
   cases hr:rdc h o off n g with
   |none=>rw[hr] at hx; cases hx
   |some cs=>
    rw[hr] at hx
    injection hx with hx
    obtain ⟨vs,k1,k2,_,_,k5⟩:=hs.cellsAt hl oM hr
    exact ⟨_,cs,vs,rfl,hx.symm,k1,k2,k5⟩
  ·cases hx
 |_=>simp[Gm.ldN] at hx
theorem S.turn (hs:S B w0 φ h w){c:CObj}(hl:φ.c o c.gen=some l)(ho:h[o]?=some (.cells c))(hro:c.ro=false)(hb:w.heap[l.b]?=some (.cells C e (0,0))){c':CObj}{C':Array Value}(hsz:C'.size=C.size)(hro':c'.ro=false)(hwg:c'.wg<=c'.gen)(hle:φ.le ψ)(hm:ψ.m=φ.m)(hnew:∀o' g' l',ψ.c o' g'=some l'->φ.c o' g'=some l'\/(o'=o/\l'.b=l.b/\l'.d=l.d/\l'.N=l.N))(hgen:∀g' l',ψ.c o g'=some l'->g'<=c'.gen)(hlast:∀g' l',ψ.c o g'=some l'->g'=c'.gen->l'.n=c'.cells.length)(hcells:∀g' l',ψ.c o g'=some l'->l'.b=l.b->l'.d=l.d->c'.wg<=g'->CellsAt ψ c'.cells l' C')(hother:∀g' l',φ.c o g'=some l'->l'.b≠l.b->c'.wg<=g'->c.wg<=g'/\∀i,i<l'.n->c'.cells[i]?=c.cells[i]?) :
  S B w0 ψ (h.set o (.cells c')) (w.setRow l.b C'):=by
 have hol:o<h.length:=(List.getElem?_eq_some_iff.1 ho).1
 obtain ⟨c0,ho0,hc0⟩:=hs.wr.cell o _ l hl
 rw[ho] at ho0
 injection ho0 with ho0
 injection ho0 with ho0
 subst ho0
 obtain ⟨C0,e0,fr0,a0,b0,c0',_⟩:=hc0.blk
 rw[hb] at a0
 injection a0 with a0
 injection a0 with aC ae afr
 subst aC
 have hBb:=(c0' hro).2
 have rolf:isRo h o=false:=by simp[isRo,ho,hro]
 have same:∀o' g' l',φ.c o' g'=some l'->l'.b=l.b->o'=o/\l'.d=l.d:=λo' g' l' hl' hbb=>by
  rcases hs.wr.sep _ _ _ _ _ _ hl' hl hbb with k|k
  ·exact ⟨k.1,k.2⟩
  ·rw[rolf] at k; cases k.2
 have blk:∀k,k≠l.b->(w.setRow l.b C').heap[k]?=w.heap[k]?:=λk hk=>setRow_other w l.b k C' hk
 have here:=setRow_heap w l.b C C' e (0,0) hb
 have heapSet:∀o',o'≠o->(h.set o (.cells c'))[o']?=h[o']?:=λo' hne=>by rw[List.getElem?_set_ne (Ne.symm hne)]
 have heapO:(h.set o (.cells c'))[o]?=some (.cells c'):=by rw[List.getElem?_set_self hol]
 refine ⟨⟨λo' g' l' hl'=>?_,λo' b' hb'=>?_,?_,?_⟩,below_setRow hs.below hBb C',by simpa using hs.base⟩
 ·by_cases hoo:o'=o
  ·subst hoo
   refine ⟨c',heapO,⟨hgen _ _ hl',hwg,?_,hlast _ _ hl'⟩⟩
   by_cases hbb:l'.b=l.b
   ·rw[hbb]
    refine ⟨C',e,(0,0),here,?_,λ_=>⟨rfl,hBb⟩,λhw=>?_⟩
    ·rw[hsz]
     rcases hnew _ _ _ hl' with k|k
     ·obtain ⟨c2,k2,k3⟩:=hs.wr.cell _ _ _ k
      obtain ⟨C2,e2,fr2,m1,m2,_⟩:=k3.blk
      rw[hbb,hb] at m1
      injection m1 with m1
      injection m1 with m1
      rw[m1]; exact m2
     ·rw[k.2.2.2]; exact b0
    ·refine hcells _ _ hl' hbb ?_ hw
     rcases hnew _ _ _ hl' with k|k
     ·exact (same _ _ _ k hbb).2
     ·exact k.2.2.1
   ·rcases hnew _ _ _ hl' with k|k
    ·obtain ⟨c2,k2,k3⟩:=hs.wr.cell _ _ _ k
     rw[ho] at k2
     injection k2 with k2
     injection k2 with k2
     subst k2
     obtain ⟨C2,e2,fr2,m1,m2,m3,m4⟩:=k3.blk
     refine ⟨C2,e2,fr2,(blk _ hbb).trans m1,m2,λ_=>m3 hro,λhw=>?_⟩
     obtain ⟨n1,n2⟩:=hother _ _ k hbb hw
     obtain ⟨p1,p2,p3⟩:=m4 n1
     refine ⟨?_,p2,λi hi=>?_⟩
     ·rcases Nat.lt_or_ge c'.cells.length l'.n with hlt|hge
      ·have q:=n2 c'.cells.length hlt
       rw[List.getElem?_eq_none (Nat.le_refl _)] at q
       have:=List.getElem?_eq_none_iff.1 q.symm
       omega
      ·exact hge
     ·obtain ⟨x,v,q1,q2,q3,q4⟩:=p3 i hi
      exact ⟨x,v,(n2 i hi).trans q1,q2,q3.mono hle,q4⟩
    ·exact absurd k.2.1 hbb
  ·have k:φ.c o' g'=some l':=(hnew _ _ _ hl').resolve_right (λq=>hoo q.1)
   obtain ⟨c2,k2,k3⟩:=hs.wr.cell _ _ _ k
   refine ⟨c2,(heapSet _ hoo).trans k2,(k3.move (blk _ (λhbb=>hoo (same _ _ _ k hbb).1))).mono hle⟩
 ·rw[hm] at hb'
  obtain ⟨ks,es,k1,k2,es',clk,k3,k4⟩:=hs.wr.map o' b' hb'
  have hne:o'≠o:=by rintro rfl; rw[ho] at k1; cases k1
  have hbb:b'≠l.b:=by rintro rfl; rw[hb] at k3; cases k3
  exact ⟨ks,es,(heapSet _ hne).trans k1,k2,es',clk,(blk _ hbb).trans k3,k4.mono hle⟩
 ·intro o1 g1 l1 o2 g2 l2 e1 e2 hbb
  have ro1:∀o',isRo (h.set o (.cells c')) o'=isRo h o':=λo'=>by
   by_cases hoo:o'=o
   ·subst hoo; simp[isRo,heapO,hro',ho,hro]
   ·simp[isRo,heapSet _ hoo]
  rw[ro1,ro1]
  rcases hnew _ _ _ e1 with k1|k1
  ·rcases hnew _ _ _ e2 with k2|k2
   ·exact hs.wr.sep _ _ _ _ _ _ k1 k2 hbb
   ·have:=same _ _ _ k1 (hbb.trans k2.2.1)
    exact .inl ⟨this.1.trans k2.1.symm,this.2.trans k2.2.2.1.symm⟩
  ·rcases hnew _ _ _ e2 with k2|k2
   ·have:=same _ _ _ k2 (hbb.symm.trans k1.2.1)
    exact .inl ⟨k1.1.trans this.1.symm,k1.2.2.1.trans this.2.symm⟩
   ·exact .inl ⟨k1.1.trans k2.1.symm,k1.2.2.1.trans k2.2.2.1.symm⟩
 ·rw[hm]; exact hs.wr.msep
theorem b1v:∀(vs:List AV) (cs:List AV) (off:Nat),off+vs.length<=cs.length->(setAll cs off vs).length=cs.length/\∀i,(setAll cs off vs)[i]?=if off<=i/\i<off+vs.length then vs[i-off]? else cs[i]?
 |[],cs,off,_=>⟨rfl,fun i=>by simp only[setAll,List.length_nil,Nat.add_zero]; rw[if_neg (by omega)]⟩
 |v::vs,cs,off,hl=>by
  simp only[List.length_cons] at hl
  obtain ⟨h1,h2⟩:=b1v vs (cs.set off v) (off+1) (by simp; omega)
  refine ⟨by simp only[setAll]; rw[h1]; simp,λi=>?_⟩
  try simp only[setAll]
  rw[h2]
  simp only[List.length_cons]
  by_cases h0:i=off
  ·subst h0
   rw[if_neg (by omega),if_pos (by omega),List.getElem?_set_self (by omega)]
   simp
  ·by_cases h3:off+1<=i/\i<off+1+vs.length
   ·rw[if_pos h3,if_pos (by omega)]
    rw[show i-off=(i-(off+1))+1 by omega,List.getElem?_cons_succ]
   ·rw[if_neg h3,if_neg oM,List.getElem?_set_ne (Ne.symm h0)]
theorem S.wrc (hs:S B w0 φ h w){o off hi g:Nat}(hl:φ.c o g=some l)(hhi:hi<=l.n)(hv:VRs φ vs us)(hr:wrc h o off hi g vs=some h')(P:Program) :
  ∃w',(storeCells ⟨l.b,l.d+off,none⟩ us 0).run P w=.ok () w'/\S B w0 φ h' w'/\Kept φ h φ h':=by
 unfold Gm.wrc at hr
 obtain ⟨c,ho,hc⟩:=hs.wr.cell o g l hl
 rw[ho] at hr
 simp only at hr
 split at hr
 ·rename_i hcond
  obtain ⟨hro,hg,hlen,hone⟩:=hcond
  injection hr with hr
  subst hr
  subst hg
  obtain ⟨C,e,fr,a,b,c1,d⟩:=hc.blk
  obtain ⟨rfl,hB⟩:=c1 hro
  have hcells:=d hc.wg
  have hus:us.length=vs.length:=hv.length.symm
  have hrun:=run_storeCells_at P l.b (l.d+off) e us 0 C w a (by have:=hcells.2.1; rw[b]; omega) (hv.one_of hone)
  simp only[Nat.add_zero] at hrun
  have hln:=hc.last rfl
  have hlc:off+vs.length<=c.cells.length:=by rw[<-hln]; omega
  obtain ⟨q1,q2⟩:=b1v vs c.cells off hlc
  have hCs:∀i,(C.toList.take (l.d+off)++us++C.toList.drop (l.d+off+us.length)).toArray[i]?=if l.d+off<=i/\i<l.d+off+us.length then us[i-(l.d+off)]? else C[i]?:=by
   intro i
   have hds:l.d+off+us.length<=C.size:=by have:=hcells.2.1; omega
   simp only[List.getElem?_toArray,List.append_assoc]
   by_cases h1:i<l.d+off
   ·rw[List.getElem?_append_left (by simp; omega),if_neg (by omega),List.getElem?_take,if_pos h1,Array.getElem?_toList]
   ·rw[List.getElem?_append_right (by simp; omega)]
    simp only[List.length_take,Array.length_toList,Nat.min_eq_left (show l.d+off<=C.size by omega)]
    by_cases h2:i<l.d+off+us.length
    ·rw[if_pos (by omega),List.getElem?_append_left (by omega)]
    ·rw[if_neg (by omega),List.getElem?_append_right (by omega),List.getElem?_drop]
     rw[show l.d+off+us.length+(i-(l.d+off)-us.length)=i by omega,Array.getElem?_toList]
  have hsz:(C.toList.take (l.d+off)++us++C.toList.drop (l.d+off+us.length)).toArray.size=C.size:=by
   have:=hcells.2.1
   simp only[List.size_toArray,List.length_append,List.length_take,List.length_drop,Array.length_toList]
   omega
  refine ⟨_,hrun,?_,⟨.refl φ,by simp,λo' ho' hcn hmn=>⟨hcn,hmn,?_⟩⟩⟩
  ·refine hs.turn (c:=c) (c':={ c with cells:=setAll c.cells off vs,wg:=c.gen }) hl ho hro a hsz hro (Nat.le_refl _) (.refl φ) rfl (λ_ _ _ k=>.inl k) (λg' l' k=>?_) (λg' l' k hg'=>?_) (λg' l' k hb' hd' hw'=>?_) (λg' l' k hb' hw'=>?_)
   ·obtain ⟨c2,k2,k3⟩:=hs.wr.cell _ _ _ k
    rw[ho] at k2
    injection k2 with k2
    injection k2 with k2
    subst k2
    exact k3.gen
   ·have hg2:g'=c.gen:=hg'
    subst hg2
    rw[hl] at k
    injection k with k
    subst k
    show l.n=(setAll c.cells off vs).length
    rw[q1,hln]
   ·have hw2:c.gen<=g':=hw'
    have hgg:g'=c.gen:=by
     obtain ⟨c2,k2,k3⟩:=hs.wr.cell _ _ _ k
     rw[ho] at k2
     injection k2 with k2
     injection k2 with k2
     subst k2
     have:=k3.gen
     omega
    subst hgg
    rw[hl] at k
    injection k with k
    subst k
    refine ⟨by rw[q1]; exact hcells.1,hcells.2.1,λi hi'=>?_⟩
    obtain ⟨x,v,k1,k2,k3,k4⟩:=hcells.2.2 i hi'
    rw[hCs,q2]
    by_cases hin:off<=i/\i<off+vs.length
    ·have hx:vs[i-off]?=some (vs[i-off]'(by omega)):=List.getElem?_eq_getElem (by omega)
     obtain ⟨u,hu,hr2⟩:=hv.get hx
     refine ⟨_,u,by rw[if_pos hin]; exact hx,?_,hr2,List.all_eq_true.1 hone _ (List.getElem_mem _)⟩
     rw[if_pos (by omega),show l.d+i-(l.d+off)=i-off by omega]
     exact hu
    ·refine ⟨x,v,by rw[if_neg hin]; exact k1,?_,k3,k4⟩
     rw[if_neg oM]
     exact k2
   ·have hw2:c.gen<=g':=hw'
    exfalso
    obtain ⟨c2,k2,k3⟩:=hs.wr.cell _ _ _ k
    rw[ho] at k2
    injection k2 with k2
    injection k2 with k2
    subst k2
    have:=k3.gen
    have hgg:g'=c.gen:=oM
    subst hgg
    rw[hl] at k
    injection k with k
    exact hb' (by rw[k])
  ·have hne:o'≠o:=by rintro rfl; rw[hcn] at hl; cases hl
   rw[List.getElem?_set_ne (Ne.symm hne)]
 ·cases hr
end
end Go.Gm
namespace Go.Gm
open Go.RowKit
section
variable {B:Nat} {w0:World} {φ:Ren} {h:Heap} {w:World}
theorem S.drew (hs:S B w0 φ h w):S B w0 φ h w.drew:=
 ⟨⟨λo g l hl=>by obtain ⟨c,a,b⟩:=hs.wr.cell o g l hl; exact ⟨c,a,b.move rfl⟩,hs.wr.map,hs.wr.sep,hs.wr.msep⟩,hs.below.drew,hs.base⟩
theorem S.gen_none (hs:S B w0 φ h w){o:Nat}(ho:h[o]?=some (.cells c)):φ.c o (c.gen+1)=none:=by
 cases hc:φ.c o (c.gen+1) with
 |none=>rfl
 |some l=>
  obtain ⟨c2,k2,k3⟩:=hs.wr.cell _ _ _ hc
  rw[ho] at k2
  injection k2 with k2
  injection k2 with k2
  subst k2
  have:=k3.gen
  omega
theorem S.gen_le (hs:S B w0 φ h w)(hl:φ.c o g=some l)(ho:h[o]?=some (.cells c)):g<=c.gen/\CellOk φ w B c g l:=by
 obtain ⟨c2,k2,k3⟩:=hs.wr.cell _ _ _ hl
 rw[ho] at k2
 injection k2 with k2
 injection k2 with k2
 subst k2
 exact ⟨k3.gen,k3⟩
theorem S.make (hs:S B w0 φ h w){vs rest:List Value}(hv:VRs φ cs vs)(h1:cs.all AV.one=true)(e:TypeId) :
  ∃ψ,S B w0 ψ (mkObj h cs) (w.alloc (.cells (vs++rest).toArray e))/\Kept φ h ψ (mkObj h cs)/\ψ.c h.length 0=some ⟨w.heap.size,0,(vs++rest).length,cs.length⟩:=by
 have hun:=hs.wr.unm_of_len (o:=h.length) (Nat.le_refl _)
 have hp:=hs.push (.cells ⟨cs,0,0,false⟩)
 refine ⟨_,hp.lay (o:=h.length) (cs:=cs) (by simp) hun.1 hv h1 e (rest:=rest),⟨Ren.setC_le (hun.1 0),by simp[mkObj],λo' ho' hc hm=>⟨λg'=>?_,hm,List.getElem?_append_left ho'⟩⟩,by simp[Ren.setC]⟩
 simp only[Ren.setC]
 rw[if_neg oM]
 exact hc g'
theorem S.regrow (hs:S B w0 φ h w){o:Nat}(ho:h[o]?=some (.cells c))(hro:c.ro=false){k:Nat}{ns:List AV}{us rest:List Value}(hk:k<=c.cells.length)(hv:VRs φ (c.cells.take k++ns) us)(h1:(c.cells.take k++ns).all AV.one=true)(e:TypeId)(hwg:c.wg<=c.gen)(hm:∃l,φ.c o c.gen=some l) :
  ∃ψ,S B w0 ψ (h.set o (.cells { c with cells:=c.cells.take k++ns,gen:=c.gen+1,wg:=if k=c.cells.length then c.wg else c.gen+1 })) (w.alloc (.cells (us++rest).toArray e))/\
   Kept φ h ψ (h.set o (.cells { c with cells:=c.cells.take k++ns,gen:=c.gen+1,wg:=if k=c.cells.length then c.wg else c.gen+1 }))/\
   ψ.c o (c.gen+1)=some ⟨w.heap.size,0,(us++rest).length,(c.cells.take k++ns).length⟩:=by
 have hol:o<h.length:=(List.getElem?_eq_some_iff.1 ho).1
 have hnone:=hs.gen_none ho
 have hle:φ.le (φ.setC o (c.gen+1) ⟨w.heap.size,0,(us++rest).length,(c.cells.take k++ns).length⟩):=Ren.setC_le hnone
 have heapSet:∀o',o'≠o->(h.set o (.cells { c with cells:=c.cells.take k++ns,gen:=c.gen+1,wg:=if k=c.cells.length then c.wg else c.gen+1 }))[o']?=h[o']?:=λo' hne=>by rw[List.getElem?_set_ne (Ne.symm hne)]
 have heapO:(h.set o (.cells { c with cells:=c.cells.take k++ns,gen:=c.gen+1,wg:=if k=c.cells.length then c.wg else c.gen+1 }))[o]?=some (.cells { c with cells:=c.cells.take k++ns,gen:=c.gen+1,wg:=if k=c.cells.length then c.wg else c.gen+1 }):=by rw[List.getElem?_set_self hol]
 have hwg':(if k=c.cells.length then c.wg else c.gen+1)<=c.gen+1:=by split<;>omega
 have new:∀o' g' l',φ.c o' g'=some l'->l'.b<w.heap.size:=λo' g' l' hl'=>by
  obtain ⟨c,_,h3⟩:=hs.wr.cell o' g' l' hl'
  exact h3.lt
 refine ⟨φ.setC o (c.gen+1) ⟨w.heap.size,0,(us++rest).length,(c.cells.take k++ns).length⟩,⟨⟨λo' g' l' hl'=>?_,λo' b' hb'=>?_,?_,hs.wr.msep⟩,hs.below.alloc hs.base _,by simp; have:=hs.base; omega⟩,⟨hle,by simp,λo' ho' hc hm'=>⟨λg'=>?_,hm',?_⟩⟩,by simp[Ren.setC]⟩
 ·simp only[Ren.setC] at hl'
  split at hl'
  ·rename_i hcc
   obtain ⟨rfl,rfl⟩:=hcc
   injection hl' with hl'
   subst hl'
   refine ⟨_,heapO,⟨Nat.le_refl _,hwg',⟨_,e,(0,0),a6S w _,by simp,λ_=>⟨rfl,hs.base⟩,λ_=>⟨Nat.le_refl _,by simp[<-hv.length],λi hi=>?_⟩⟩,λ_=>rfl⟩⟩
   simp only at hi ⊢
   obtain ⟨v,hv',hr⟩:=hv.get (i:=i) (x:=(c.cells.take k++ns)[i]'hi) (List.getElem?_eq_getElem hi)
   refine ⟨_,v,List.getElem?_eq_getElem hi,?_,hr.mono hle,List.all_eq_true.1 h1 _ (List.getElem_mem hi)⟩
   have:i<us.length:=by rw[<-hv.length]; exact hi
   simp only[Nat.zero_add,List.getElem?_toArray]
   rw[List.getElem?_append_left this]
   exact hv'
  ·by_cases hoo:o'=o
   ·subst hoo
    obtain ⟨hg,hcell⟩:=hs.gen_le hl' ho
    refine ⟨_,heapO,⟨by simp only; omega,hwg',?_,λhgg=>by simp only at hgg; omega⟩⟩
    obtain ⟨C,e2,fr,a,b,c1,d⟩:=hcell.blk
    refine ⟨C,e2,fr,(x6_ w _ _ hcell.lt).trans a,b,c1,λhw=>?_⟩
    simp only at hw ⊢
    split at hw
    ·rename_i hkl
     obtain ⟨p1,p2,p3⟩:=d hw
     refine ⟨by simp; omega,p2,λi hi=>?_⟩
     obtain ⟨x,v,q1,q2,q3,q4⟩:=p3 i hi
     exact ⟨x,v,by rw[List.getElem?_append_left (by simp; omega),List.getElem?_take,if_pos oM]; exact q1,q2,q3.mono hle,q4⟩
    ·omega
   ·obtain ⟨c2,h2,h3⟩:=hs.wr.cell o' g' l' hl'
    exact ⟨c2,(heapSet _ hoo).trans h2,(h3.move (x6_ w _ _ h3.lt)).mono hle⟩
 ·obtain ⟨ks,es,h2,h3,es',clk,h4,h5⟩:=hs.wr.map o' b' hb'
  have hne:o'≠o:=by rintro rfl; rw[ho] at h2; cases h2
  exact ⟨ks,es,(heapSet _ hne).trans h2,h3,es',clk,(x6_ w _ _ (b0T h4)).trans h4,h5.mono hle⟩
 ·intro o1 g1 l1 o2 g2 l2 e1 e2 hbb
  have ro1:∀o',isRo (h.set o (.cells { c with cells:=c.cells.take k++ns,gen:=c.gen+1,wg:=if k=c.cells.length then c.wg else c.gen+1 })) o'=isRo h o':=λo'=>by
   by_cases hoo:o'=o
   ·subst hoo; simp[isRo,heapO,ho]
   ·simp[isRo,heapSet _ hoo]
  rw[ro1,ro1]
  simp only[Ren.setC] at e1 e2
  split at e1
  ·rename_i c1
   injection e1 with e1
   subst e1
   split at e2
   ·rename_i c2
    injection e2 with e2
    subst e2
    exact .inl ⟨c1.1.trans c2.1.symm,rfl⟩
   ·have:=new _ _ _ e2
    simp only at hbb
    omega
  ·split at e2
   ·injection e2 with e2
    subst e2
    have:=new _ _ _ e1
    simp only at hbb
    omega
   ·exact hs.wr.sep _ _ _ _ _ _ e1 e2 hbb
 ·have hne:o'≠o:=by
   rintro rfl
   obtain ⟨l,hl⟩:=hm
   rw[hc] at hl; cases hl
  simp only[Ren.setC]
  rw[if_neg (λq=>hne q.1)]
  exact hc g'
 ·have hne:o'≠o:=by
   rintro rfl
   obtain ⟨l,hl⟩:=hm
   rw[hc] at hl; cases hl
  exact heapSet _ hne
theorem S.grow (hs:S B w0 φ h w){o:Nat}(ho:h[o]?=some (.cells c))(hro:c.ro=false)(hl:φ.c o c.gen=some l){k:Nat}(hk:k<=c.cells.length)(hv:VRs φ ns us)(h1:ns.all AV.one=true)(hb:w.heap[l.b]?=some (.cells C e (0,0)))(hfit:l.d+k+us.length<=C.size) :
  ∃ψ,S B w0 ψ (h.set o (.cells { c with cells:=c.cells.take k++ns,gen:=c.gen+1,wg:=if k=c.cells.length then c.wg else c.gen+1 })) (w.setRow l.b (C.toList.take (l.d+k)++us++C.toList.drop (l.d+k+us.length)).toArray)/\
   Kept φ h ψ (h.set o (.cells { c with cells:=c.cells.take k++ns,gen:=c.gen+1,wg:=if k=c.cells.length then c.wg else c.gen+1 }))/\
   ψ.c o (c.gen+1)=some ⟨l.b,l.d,l.N,(c.cells.take k++ns).length⟩:=by
 have hnone:=hs.gen_none ho
 have hle:φ.le (φ.setC o (c.gen+1) ⟨l.b,l.d,l.N,(c.cells.take k++ns).length⟩):=Ren.setC_le hnone
 obtain ⟨_,hcell⟩:=hs.gen_le hl ho
 have hwg:=hcell.wg
 obtain ⟨C0,e0,fr0,a0,b0,c0,d0⟩:=hcell.blk
 rw[hb] at a0
 injection a0 with a0
 injection a0 with aC ae afr
 subst aC
 have hcells:=d0 hwg
 have hln:=hcell.last rfl
 have hus:=hv.length
 have hwg':(if k=c.cells.length then c.wg else c.gen+1)<=c.gen+1:=by split<;>omega
 have hsz:(C.toList.take (l.d+k)++us++C.toList.drop (l.d+k+us.length)).toArray.size=C.size:=by
  simp only[List.size_toArray,List.length_append,List.length_take,List.length_drop,Array.length_toList]
  omega
 have hCs:∀i,(C.toList.take (l.d+k)++us++C.toList.drop (l.d+k+us.length)).toArray[i]?=if l.d+k<=i/\i<l.d+k+us.length then us[i-(l.d+k)]? else C[i]?:=by
  intro i
  simp only[List.getElem?_toArray,List.append_assoc]
  by_cases h1:i<l.d+k
  ·rw[List.getElem?_append_left (by simp; omega),if_neg (by omega),List.getElem?_take,if_pos h1,Array.getElem?_toList]
  ·rw[List.getElem?_append_right (by simp; omega)]
   simp only[List.length_take,Array.length_toList,Nat.min_eq_left (show l.d+k<=C.size by omega)]
   by_cases h2:i<l.d+k+us.length
   ·rw[if_pos (by omega),List.getElem?_append_left (by omega)]
   ·rw[if_neg (by omega),List.getElem?_append_right (by omega),List.getElem?_drop]
    rw[show l.d+k+us.length+(i-(l.d+k)-us.length)=i by omega,Array.getElem?_toList]
 have hlen:(c.cells.take k++ns).length=k+us.length:=by simp[hus]; omega
 refine ⟨φ.setC o (c.gen+1) ⟨l.b,l.d,l.N,(c.cells.take k++ns).length⟩,hs.turn (c:=c) (c':={ c with cells:=c.cells.take k++ns,gen:=c.gen+1,wg:=if k=c.cells.length then c.wg else c.gen+1 }) hl ho hro hb hsz hro hwg' hle rfl (λo' g' l' k'=>?_) (λg' l' k'=>?_) (λg' l' k' hg'=>?_) (λg' l' k' hb' hd' hw'=>?_) (λg' l' k' hb' hw'=>?_),⟨hle,by simp,λo' ho' hc hm'=>⟨λg'=>?_,hm',?_⟩⟩,by simp[Ren.setC]⟩
 ·simp only[Ren.setC] at k'
  split at k'
  ·rename_i hcc
   injection k' with k'
   subst k'
   exact .inr ⟨hcc.1,rfl,rfl,rfl⟩
  ·exact .inl k'
 ·simp only[Ren.setC] at k'
  split at k'
  ·rename_i hcc
   show g'<=c.gen+1
   omega
  ·have:=(hs.gen_le k' ho).1
   show g'<=c.gen+1
   omega
 ·have hg2:g'=c.gen+1:=hg'
  simp only[Ren.setC] at k'
  split at k'
  ·injection k' with k'
   subst k'
   rfl
  ·have:=(hs.gen_le k' ho).1
   omega
 ·have hw2:(if k=c.cells.length then c.wg else c.gen+1)<=g':=hw'
  show CellsAt _ (c.cells.take k++ns) l' _
  have old:∀i,i<k->i<l.n->∃x v,(c.cells.take k++ns)[i]?=some x/\(C.toList.take (l.d+k)++us++C.toList.drop (l.d+k+us.length)).toArray[l.d+i]?=some v/\VR (φ.setC o (c.gen+1) ⟨l.b,l.d,l.N,(c.cells.take k++ns).length⟩) x v/\x.one=true:=by
   intro i hik hi
   obtain ⟨x,v,q1,q2,q3,q4⟩:=hcells.2.2 i hi
   refine ⟨x,v,?_,?_,q3.mono hle,q4⟩
   ·rw[List.getElem?_append_left (by simp; omega),List.getElem?_take,if_pos hik]; exact q1
   ·rw[hCs,if_neg oM]; exact q2
  simp only[Ren.setC] at k'
  split at k'
  ·injection k' with k'
   subst k'
   refine ⟨Nat.le_refl _,by simp only[hlen]; omega,λi hi=>?_⟩
   simp only[hlen] at hi
   simp only
   by_cases hik:i<k
   ·exact old i hik (by omega)
   ·have hin:i-k<ns.length:=by omega
    obtain ⟨u,hu,hr⟩:=hv.get (i:=i-k) (x:=ns[i-k]'hin) (List.getElem?_eq_getElem hin)
    refine ⟨ns[i-k]'hin,u,?_,?_,hr.mono hle,List.all_eq_true.1 h1 _ (List.getElem_mem hin)⟩
    ·rw[List.getElem?_append_right (by simp; omega)]
     simp only[List.length_take,Nat.min_eq_left hk]
     exact List.getElem?_eq_getElem hin
    ·rw[hCs,if_pos (by omega),show l.d+i-(l.d+k)=i-k by omega]
     exact hu
  ·obtain ⟨hgg,hcell2⟩:=hs.gen_le k' ho
   split at hw2
   ·rename_i hkl
    obtain ⟨C2,e2,fr2,m1,m2,m3,m4⟩:=hcell2.blk
    obtain ⟨p1,p2,p3⟩:=m4 hw2
    refine ⟨by rw[hlen]; omega,p2,λi hi=>?_⟩
    rw[hd']
    exact old i oM oM
   ·omega
 ·have hw2:(if k=c.cells.length then c.wg else c.gen+1)<=g':=hw'
  obtain ⟨hgg,hcell2⟩:=hs.gen_le k' ho
  split at hw2
  ·rename_i hkl
   refine ⟨hw2,λi hi=>?_⟩
   obtain ⟨C2,e2,fr2,m1,m2,m3,m4⟩:=hcell2.blk
   obtain ⟨p1,p2,p3⟩:=m4 hw2
   show (c.cells.take k++ns)[i]?=c.cells[i]?
   rw[List.getElem?_append_left (by simp; omega),List.getElem?_take,if_pos oM]
  ·omega
 ·have hne:o'≠o:=by rintro rfl; rw[hc] at hl; cases hl
  simp only[Ren.setC]
  rw[if_neg (λq=>hne q.1)]
  exact hc g'
 ·have hne:o'≠o:=by rintro rfl; rw[hc] at hl; cases hl
  rw[List.getElem?_set_ne (Ne.symm hne)]
end
end Go.Gm
namespace Go.Gm
open Go.RowKit
section
variable {P:Program} (w:World)
theorem b2j (t ty e:TypeId)(i:TypeInfo)(ht:P.underlying t=some (.slice e))(hi:P.info? e=some i)(g d sLen sCap:Nat)(cur:Array Value)(et:TypeId)(hg:w.heap[g]?=some (.cells cur et (0,0)))(a:Addr)(m c:Nat)(news:List Value)(hl:news.length=m*i.size)(hnews:∀j u,news[j]?=some u->w.cell? (a.add j)=some u)(h1:∀u∈news,u.oneCell'=true)(hroom:sLen+m<=sCap)(hfit:d+sLen*i.size+news.length<=cur.size) :
  (Builtin.append_ #[t,t] ty #[.slice (some ⟨g,d,none⟩) sLen sCap,.slice (some a) m c]).run P w =
   .ok (.slice (some ⟨g,d,none⟩) (sLen+m) sCap) (w.setRow g (cur.toList.take (d+sLen*i.size)++news++cur.toList.drop (d+sLen*i.size+news.length)).toArray):=by
 have hf:=run_firstCells_some (P:=P) w i.size m a m c news hl hnews
 have hst:=run_storeCells_at P g (d+sLen*i.size) et news 0 cur w hg (by simpa using hfit) h1
 simp only[Nat.add_zero] at hst
 simp[Builtin.append_,run_underlying ht,sizeOf,typeInfo,hi,Builtin.lenOf,hroom,hf,b0Q,hst]
theorem a3M (t ty e:TypeId)(i:TypeInfo)(ht:P.underlying t=some (.slice e))(hi:P.info? e=some i)(b:Option Addr)(sLen sCap:Nat)(hcap:sLen<=sCap)(a:Option Addr)(c:Nat) :
  (Builtin.append_ #[t,t] ty #[.slice b sLen sCap,.slice a 0 c]).run P w=.ok (.slice b sLen sCap) w:=by
 cases a<;>cases b<;>simp[Builtin.append_,run_underlying ht,sizeOf,typeInfo,hi,Builtin.lenOf,Builtin.firstCells,loadCells,loadCellsFrom,storeCells,hcap]
end
structure ElemOk (P:Program) (t e:TypeId) (i:TypeInfo) (z:Value) (sz bytes:Nat):Prop where
 under:P.underlying t=some (.slice e)
 info:P.info? e=some i
 zero:i.zero=some z
 size:i.size=sz
 bytes:i.bytes=bytes
 cells:z.cells.size=sz
theorem b6N {m G sz:Nat}(h:m<=G):G*sz=m*sz+(G-m)*sz:=by rw[<-Nat.add_mul,Nat.add_sub_cancel' h]
theorem a6a (w:World)(need old:Nat)(e:TypeId)(h:need<=140737488355328):grownCap w need old e<=maxLen:=grownCap_le_maxLen w need old e (by unfold maxLen; omega)
section
variable {B:Nat} {w0:World} {φ:Ren} {h:Heap} {w:World} {P:Program}
theorem VR.slice_form (hv:VR φ x v)(hx:x=.sl o off len sz lim g) :
  (∃l,φ.c o g=some l/\off<=l.n/\∃cap,v=.slice (some ⟨l.b,l.d+off,none⟩) len cap/\off+len*sz<=l.n/\len<=cap/\cap<=maxLen/\l.d+off+cap*sz<=l.N/\∀c,lim=some c->cap=c)\/
   (len=0/\∃a,v=.slice (some a) 0 0/\(∀c,lim=some c->c=0)/\(lim=none->∃l,φ.c o g=some l/\off<=l.n)):=by
 cases hv with
 |sl e a b c d f=>
  injection hx with h1 h2 h3 h4 h5 h6
  subst h1 h2 h3 h4 h5 h6
  exact .inl ⟨_,e,oM,_,rfl,a,b,c,d,f⟩
 |sl0 e b=>
  injection hx with h1 h2 h3 h4 h5 h6
  subst h1 h2 h3 h4 h5 h6
  exact .inr ⟨rfl,_,rfl,b,e⟩
 |_=>cases hx
theorem S.news (hs:S B w0 φ h w){sz m:Nat}{ns:List AV}(hx:VR φ x x')(hn:news sz x h=some (m,ns)) :
  (m=0/\∃a c,x'=.slice a 0 c)\/∃a c us,x'=.slice (some a) m c/\us.length=m*sz/\ns.length=m*sz/\VRs φ ns us/\ns.all AV.one=true/\∀(j:Nat) u,us[j]?=some u->w.cell? (a.add j)=some u:=by
 cases x with
 |nils=>
  simp only[Gm.news,Option.some.injEq,Prod.mk.injEq] at hn
  obtain ⟨rfl,rfl⟩:=hn
  cases hx
  exact .inl ⟨rfl,none,0,rfl⟩
 |sl o off len sz' lim g=>
  simp only[Gm.news] at hn
  split at hn
  ·rename_i hsz
   subst hsz
   cases hr:rdc h o off (len*sz') g with
   |none=>rw[hr] at hn; cases hn
   |some cs=>
    rw[hr] at hn
    simp only[Option.map_some,Option.some.injEq,Prod.mk.injEq] at hn
    obtain ⟨rfl,rfl⟩:=hn
    rcases hx.slice_form rfl with ⟨l,hl,_,hc⟩|hc
    ·obtain ⟨cap,rfl,h1,h2,h3,h4,h5⟩:=hc
     obtain ⟨us,k1,k2,k3,k4,k5⟩:=hs.cellsAt hl (n:=len*sz') h1 hr
     exact .inr ⟨_,cap,us,rfl,k1,k4,k2,k3,k5⟩
    ·obtain ⟨rfl,a,rfl,_⟩:=hc
     exact .inl ⟨rfl,some a,0,rfl⟩
  ·cases hn
 |_=>simp[Gm.news] at hn
theorem S.apnd (hs:S B w0 φ h w){t ty e:TypeId}{i:TypeInfo}{z:Value}{sz bytes:Nat}(he:ElemOk P t e i z sz bytes){s x:AV}{s' x':Value}(hsv:VR φ s s')(hx:VR φ x x'){v:AV}{h':Heap}(ha:apnd sz bytes s x h=some (v,h')) :
  ∃ψ v' w',(Builtin.append_ #[t,t] ty #[s',x']).run P w=.ok v' w'/\VR ψ v v'/\S B w0 ψ h' w'/\Kept φ h ψ h':=by
 obtain ⟨hu,hi,hz,hsz,hby,hzc⟩:=he
 unfold Gm.apnd at ha
 cases hn:Gm.news sz x h with
 |none=>rw[hn] at ha; cases ha
 |some p=>
  obtain ⟨m,ns⟩:=p
  rw[hn] at ha
  simp only at ha
  have hnews:=hs.news hx hn
  cases s with
  |nils=>
   cases hsv
   simp only at ha
   split at ha
   ·rename_i hm
    injection ha with ha
    injection ha with ha1 ha2
    subst ha1 ha2
    rcases hnews with ⟨_,a,c,rfl⟩|⟨a,c,us,rfl,_⟩
    ·exact ⟨φ,_,w,a3M w t ty e i hu hi none 0 0 (Nat.le_refl _) a c,.nils,hs,.refl _ _⟩
    ·subst hm
     exact ⟨φ,_,w,a3M w t ty e i hu hi none 0 0 (Nat.le_refl _) (some a) c,.nils,hs,.refl _ _⟩
   ·rename_i hm
    split at ha
    ·rename_i hb
     obtain ⟨hb1,hb2,hb3,hb4⟩:=hb
     injection ha with ha
     injection ha with ha1 ha2
     subst ha1 ha2
     rcases hnews with ⟨h0,_⟩|⟨a,c,us,rfl,k1,k2,k3,k4,k5⟩
     ·exact absurd h0 hm
     ·have hmb:m<=m*bytes:=Nat.le_mul_of_pos_right m hb4
      have hrun:=run_append_nil (P:=P) w t ty e i z hu hi hz a m c us (by rw[hsz]; exact k1) k5 (by omega) (by omega) (by rw[hby]; omega)
      have hcell:us.toArray++Builtin.zeroCells z.cells (grownCap w m 0 e-m)=(us++(Builtin.zeroCells z.cells (grownCap w m 0 e-m)).toList).toArray:=by
       apply Array.ext'; simp
      rw[hcell] at hrun
      obtain ⟨ψ,p1,p2,p3⟩:=hs.drew.make (cs:=ns) (vs:=us) (rest:=(Builtin.zeroCells z.cells (grownCap w m 0 e-m)).toList) k3 k4 e
      refine ⟨ψ,_,_,hrun,?_,p1,p2⟩
      have hcap:=grownCap_ge w m 0 e
      have hr:=b6N (sz:=sz) hcap
      exact VR.sl (φ:=ψ) (off:=0) (len:=m) (sz:=sz) (cap:=grownCap w m 0 e) (lim:=none) p3 (by simp only; omega) hcap (a6a w m 0 e (by omega))
       (by simp only[List.length_append,Array.length_toList,size_zeroCells,hzc,Nat.zero_add]; omega) (fun _ q=>by cases q)
    ·cases ha
  |sl o off len sz' lim g=>
   have hform:=hsv.slice_form rfl
   simp only at ha
   split at ha
   ·rename_i hm
    injection ha with ha
    injection ha with ha1 ha2
    subst ha1 ha2 hm
    have hx0:∃a c,x'=.slice a 0 c:=by
     rcases hnews with ⟨_,q⟩|⟨a,c,us,rfl,_⟩
     ·exact q
     ·exact ⟨_,_,rfl⟩
    obtain ⟨a,c,rfl⟩:=hx0
    rcases hform with ⟨_,_,_,cap,rfl,_,hcap,_⟩|⟨rfl,b,rfl,_⟩
    ·exact ⟨φ,_,w,a3M w t ty e i hu hi _ len cap hcap a c,hsv,hs,.refl _ _⟩
    ·exact ⟨φ,_,w,a3M w t ty e i hu hi _ 0 0 (Nat.le_refl _) a c,hsv,hs,.refl _ _⟩
   ·rename_i hm
    split at ha
    ·cases ha
    ·rename_i hb
     simp only[Decidable.not_not] at hb
     obtain ⟨hsz',hb1,hb2,hb3,hb4⟩:=hb
     subst hsz'
     obtain ⟨a,c,us,rfl,k1,k2,k3,k4,k5⟩:∃a c us,x'=.slice (some a) m c/\us.length=m*sz'/\ns.length=m*sz'/\VRs φ ns us/\ns.all AV.one=true/\∀(j:Nat) u,us[j]?=some u->w.cell? (a.add j)=some u:=by
      rcases hnews with ⟨h0,_⟩|q
      ·exact absurd h0 hm
      ·exact q
     have hmb:len+m<=(len+m)*bytes:=Nat.le_mul_of_pos_right _ hb4
     have grow:∀(b:Addr) (cap:Nat) (olds:List Value),olds.length=len*sz'->(∀(j:Nat) u,olds[j]?=some u->w.cell? (b.add j)=some u)->cap<len+m->
       ∃rest:List Value,(Builtin.append_ #[t,t] ty #[.slice (some b) len cap,.slice (some a) m c]).run P w=.ok (.slice (some ⟨w.heap.size,0,none⟩) (len+m) (grownCap w (len+m) cap e)) (w.drew.alloc (.cells ((olds++us)++rest).toArray e))/\((olds++us)++rest).length=grownCap w (len+m) cap e*sz':=by
      intro b cap olds ho1 ho2 hlt
      have hrun:=run_append_grow (P:=P) w t ty e i z hu hi hz b len cap olds (by rw[hsz]; exact ho1) ho2 a m c us (by rw[hsz]; exact k1) k5 hlt (by omega) (growslice_fits hlt (by rw[hby]; exact hb1))
      have hcell:olds.toArray++us.toArray++Builtin.zeroCells z.cells (grownCap w (len+m) cap e-(len+m))=((olds++us)++(Builtin.zeroCells z.cells (grownCap w (len+m) cap e-(len+m))).toList).toArray:=by
       apply Array.ext'; simp
      rw[hcell] at hrun
      refine ⟨_,hrun,?_⟩
      have hr:=b6N (sz:=sz') (grownCap_ge w (len+m) cap e)
      have hlm:(len+m)*sz'=len*sz'+m*sz':=Nat.add_mul ..
      simp only[List.length_append,Array.length_toList,size_zeroCells,hzc,ho1,k1]
      omega
     cases lim with
     |some cl=>
      simp only at ha
      split at ha
      ·cases ha
      ·rename_i hfull
       cases hr:rdc h o off (len*sz') g with
       |none=>rw[hr] at ha; cases ha
       |some old=>
        rw[hr] at ha
        simp only[Option.map_some,Option.some.injEq,Prod.mk.injEq] at ha
        obtain ⟨rfl,rfl⟩:=ha
        have fin:∀(b:Addr) (cap:Nat) (olds:List Value),s'=.slice (some b) len cap->cap<len+m->olds.length=len*sz'->VRs φ old olds->old.all AV.one=true->old.length=len*sz'->(∀(j:Nat) u,olds[j]?=some u->w.cell? (b.add j)=some u)->
          ∃ψ v' w',(Builtin.append_ #[t,t] ty #[s',.slice (some a) m c]).run P w=.ok v' w'/\VR ψ (.sl h.length 0 (len+m) sz' none 0) v'/\S B w0 ψ (mkObj h (old++ns)) w'/\Kept φ h ψ (mkObj h (old++ns)):=by
         intro b cap olds hs' hlt q1 q2 q3 q4 q5
         subst hs'
         obtain ⟨rest,hrun,hlen⟩:=grow b cap olds q1 q5 hlt
         obtain ⟨ψ,p1,p2,p3⟩:=hs.drew.make (cs:=old++ns) (vs:=olds++us) (rest:=rest) (q2.append k3) (by rw[List.all_append,q3,k4]; rfl) e
         refine ⟨ψ,_,_,hrun,?_,p1,p2⟩
         have hlm:(len+m)*sz'=len*sz'+m*sz':=Nat.add_mul ..
         exact VR.sl (φ:=ψ) (off:=0) (lim:=none) p3 (by simp only[List.length_append]; omega) (grownCap_ge ..) (a6a w _ _ e (by omega)) (by simp only[hlen]; omega) (fun _ q=>by cases q)
        rcases hform with ⟨l,hl,hoff,cap,hsv',h1,h2,h3,h4,h5⟩|⟨hl0,b,hsv',h5,_⟩
        ·have:=h5 cl rfl
         obtain ⟨olds,q1,q2,q3,q4,q5⟩:=hs.cellsAt hl h1 hr
         exact fin _ cap olds hsv' (by omega) q1 q2 q3 q4 q5
        ·subst hl0
         have ho0:old=[]:=by
          unfold rdc at hr
          split at hr
          ·split at hr
           ·injection hr with hr; rw[<-hr]; simp
           ·cases hr
          ·cases hr
         subst ho0
         exact fin b 0 [] hsv' (by omega) (by simp) .nil rfl (by simp) (fun j u q=>by simp at q)
     |none=>
      simp only at ha
      split at ha
      ·rename_i c2 ho
       split at ha
       ·rename_i hcond
        obtain ⟨hro,hg,hoff0⟩:=hcond
        injection ha with ha
        injection ha with ha1 ha2
        subst ha1 ha2 hg hoff0
        obtain ⟨l,hl,hoff⟩:∃l,φ.c o c2.gen=some l/\0<=l.n:=by
         rcases hform with ⟨l,hl,hoff,_⟩|⟨_,_,_,_,q⟩
         ·exact ⟨l,hl,hoff⟩
         ·exact q rfl
        obtain ⟨_,hcell⟩:=hs.gen_le hl ho
        have hln:=hcell.last rfl
        have hlm:(len+m)*sz'=len*sz'+m*sz':=Nat.add_mul ..
        have regrow:∀(b:Addr) (cap:Nat) (olds:List Value),s'=.slice (some b) len cap->cap<len+m->len*sz'<=c2.cells.length->olds.length=len*sz'->VRs φ (c2.cells.take (len*sz')) olds->(c2.cells.take (len*sz')).all AV.one=true->(∀(j:Nat) u,olds[j]?=some u->w.cell? (b.add j)=some u)->
          ∃ψ v' w',(Builtin.append_ #[t,t] ty #[s',.slice (some a) m c]).run P w=.ok v' w'/\VR ψ (.sl o 0 (len+m) sz' none (c2.gen+1)) v'/\S B w0 ψ (h.set o (.cells { c2 with cells:=c2.cells.take (len*sz')++ns,gen:=c2.gen+1,wg:=if len*sz'=c2.cells.length then c2.wg else c2.gen+1 })) w'/\Kept φ h ψ (h.set o (.cells { c2 with cells:=c2.cells.take (len*sz')++ns,gen:=c2.gen+1,wg:=if len*sz'=c2.cells.length then c2.wg else c2.gen+1 })):=by
         intro b cap olds hs' hlt q0 q1 q2 q3 q5
         subst hs'
         obtain ⟨rest,hrun,hlen⟩:=grow b cap olds q1 q5 hlt
         obtain ⟨ψ,p1,p2,p3⟩:=hs.drew.regrow ho hro (k:=len*sz') (ns:=ns) (us:=olds++us) (rest:=rest) q0 (q2.append k3) (by rw[List.all_append,q3,k4]; rfl) e hcell.wg ⟨l,hl⟩
         refine ⟨ψ,_,_,hrun,?_,p1,p2⟩
         exact VR.sl (φ:=ψ) (off:=0) (lim:=none) p3 (by simp only[List.length_append,List.length_take]; omega) (grownCap_ge ..) (a6a w _ _ e (by omega)) (by simp only[hlen]; omega) (fun _ q=>by cases q)
        rcases hform with ⟨l',hl',hoff',cap,hsv',h1,h2,h3,h4,h5⟩|⟨hl0,b,hsv',h5,_⟩
        ·obtain rfl:l=l':=by rw[hl] at hl'; injection hl'
         have hle:len*sz'<=c2.cells.length:=by omega
         by_cases hroom:len+m<=cap
         ·subst hsv'
          obtain ⟨C,et,fr,m1,m2,m3,m4⟩:=hcell.blk
          obtain ⟨rfl,hB⟩:=m3 hro
          have hcs:(len+m)*sz'<=cap*sz':=Nat.mul_le_mul_right _ hroom
          have hrun:=b2j (P:=P) w t ty e i hu hi l.b (l.d+0) len cap C et m1 a m c us (by rw[hsz]; exact k1) k5 (k3.one_of k4) hroom (by rw[hsz]; omega)
          obtain ⟨ψ,p1,p2,p3⟩:=hs.grow ho hro hl (k:=len*sz') (ns:=ns) (us:=us) hle k3 k4 m1 (by omega)
          rw[hsz] at hrun
          refine ⟨ψ,_,_,hrun,?_,p1,p2⟩
          exact VR.sl (φ:=ψ) (off:=0) (lim:=none) (l:=⟨l.b,l.d,l.N,(c2.cells.take (len*sz')++ns).length⟩) p3 (by simp only[List.length_append,List.length_take]; omega) hroom h3 h4 (fun _ q=>by cases q)
         ·have hrd:rdc h o 0 (len*sz') c2.gen=some (c2.cells.take (len*sz')):=by
           simp[rdc,ho,hcell.wg]
          obtain ⟨olds,q1,q2,q3,q4,q5⟩:=hs.cellsAt hl h1 hrd
          exact regrow _ cap olds hsv' (by omega) hle q1 q2 q3 q5
        ·subst hl0
         exact regrow b 0 [] hsv' (by omega) (by simp) (by simp) (by simpa using VRs.nil) (by simp) (fun j u q=>by simp at q)
       ·cases ha
      ·cases ha
  |_=>simp at ha
end
end Go.Gm
namespace Go.Gm
def ofVal1:Value->Option AV
 |.bool b=>some (.bool b)
 |.int k n=>some (.int k n)
 |.string s=>some (.str s)
 |.pointer none=>some .nilp
 |.slice none 0 0=>some .nils
 |.map none=>some .nilmap
 |.nilFunc=>some .nilfn
 |.nilIface=>some .nilifc
 |_=>none
def ofVals:List Value->Option (List AV)
 |[]=>some []
 |v::r=>(ofVal1 v).bind λx=>(ofVals r).map λxs=>x::xs
def ofVal:Value->Option AV
 |.agg cs=>(ofVals cs.toList).map .agg
 |v=>ofVal1 v
def compOpd:Operand->Option Opd
 |.tmp t=>some (.tmp t)
 |.const v=>(ofVal v).map .const
 |.func f=>some (.const (.fn f [] []))
 |.global _=>none
def compOpds (cmp:Operand->Option Opd):List Operand->Option (List Opd)
 |[]=>some []
 |x::r=>(cmp x).bind λy=>(compOpds cmp r).map λys=>y::ys
def compOpdO (cmp:Operand->Option Opd):Option Operand->Option (Option Opd)
 |none=>some none
 |some x=>(cmp x).map some
def szOf (P:Program)(t:TypeId):Option Nat:=(P.info? t).map (·.size)
def zeroOf (P:Program)(t:TypeId):Option AV:=((P.info? t).bind (·.zero)).bind ofVal
def aggOf (P:Program)(t:TypeId):Option (Option Nat):=
 match P.underlying t with
 |some (.struct _)|some (.array _ _)=>(szOf P t).map some
 |some _=>some none
 |none=>none
def sliceElem (P:Program)(t:TypeId):Option TypeId:=
 match P.underlying t with
 |some (.slice e)=>some e
 |_=>none
def eqKind (P:Program)(t:TypeId):Option EK:=
 match P.underlying t with
 |some (.pointer _)=>some .ptr
 |some (.slice _)=>some .slice
 |some (.map _ _)=>some .map
 |some .bool=>some .bool
 |some (.int _)=>some .scalar
 |some .string=>some .scalar
 |_=>none
def placesOf (P:Program)(fs:List Field):Option (List (Nat × Nat)):=fs.mapM (λf=>(P.info? f.type).map λi=>(f.offset,i.size))
def compPartL (cmp:Operand->Option Opd)(pl:List (Nat × Nat))(p:Nat × Operand):Option (Nat × Nat × Opd):=(cmp p.2).bind λx=>(pl[p.1]?).map λq=>(q.1,q.2,x)
def compPartsL (cmp:Operand->Option Opd)(pl:List (Nat × Nat)):List (Nat × Operand)->Option (List (Nat × Nat × Opd))
 |[]=>some []
 |p::r=>(compPartL cmp pl p).bind λx=>(compPartsL cmp pl r).map λxs=>x::xs
def compPartS (cmp:Operand->Option Opd)(s:Nat)(p:Nat × Operand):Option (Nat × Nat × Opd):=(cmp p.2).map λx=>(p.1*s,s,x)
def compPartsS (cmp:Operand->Option Opd)(s:Nat):List (Nat × Operand)->Option (List (Nat × Nat × Opd))
 |[]=>some []
 |p::r=>(compPartS cmp s p).bind λx=>(compPartsS cmp s r).map λxs=>x::xs
def elemOf? (P:Program)(e:TypeId):Option (Nat × Nat × List AV):=
 (P.info? e).bind λi=>i.zero.bind λz=>(ofVal z).bind λx=>if z.cells.size=i.size/\x.cells.length=i.size then some (i.size,i.bytes,x.cells) else none
def keyC (P:Program)(t:TypeId):Option KC:=
 match P.underlying t with
 |some (.int q)=>some (.i q)
 |some .string=>some .s
 |some .bool=>some .b
 |_=>none
def keyFs (P:Program)(i:Nat):List Field→Option (List KC)
 |[]=>some []
 |f::r=>(keyC P f.type).bind λc=>if f.offset=i∧P.cellsOf f.type=1∧(f.name != "_")=true then (keyFs P (i+1) r).map λcs=>c::cs else none
def keyWide (P:Program)(t:TypeId):Bool:=decide (1<=P.types.size/\P.types.size+2<=10000) && P.keyTypeAt (P.types.size+1) t && P.tiled (P.types.size+1) t
def keyShape (P:Program)(t:TypeId):Option KS:=
 match P.underlying t with
 |some (.array n e)=>if keyWide P t=true/\P.cellsOf t=n/\P.cellsOf e=1 then (keyC P e).map λc=>.row (List.replicate n c) else none
 |some (.struct fs)=>if keyWide P t=true/\P.cellsOf t=fs.size then (keyFs P 0 fs.toList).map .row else none
 |_=>(keyC P t).map .one
def compBuiltin (P:Program)(cmp:Operand->Option Opd)(b:Builtin)(args:List Operand)(ts:List TypeId):Option MOp:=
 match b,args,ts with
 |.len,[x],[t]=>(cmp x).bind λx=>match P.underlying t with
  |some (.slice _)=>some (.lenSl x)
  |some .string=>some (.lenStr x)
  |_=>none
 |.append,[s,x],[t,u]=>if t=u then (sliceElem P t).bind λe=>(elemOf? P e).bind λ(sz,by_,_)=>(cmp s).bind λs=>(cmp x).map λx=>.append sz by_ s x else none
 |.max,[x,y],_=>(cmp x).bind λx=>(cmp y).map λy=>.mm true x y
 |.min,[x,y],_=>(cmp x).bind λx=>(cmp y).map λy=>.mm false x y
 |_,_,_=>none
def compOp (P:Program)(cmp:Operand->Option Opd)(o:Op):Option MOp:=
 match o with
 |.move x|.assign x=>(cmp x).map .mv
 |.pick c a b=>(cmp c).bind λc=>(cmp a).bind λa=>(cmp b).map λb=>.pick c a b
 |.alloc t=>(zeroOf P t).map λz=>.alloc z.cells
 |.box _ x=>(cmp x).map .box
 |.build t ps=>(zeroOf P t).bind λz=>match P.underlying t with
  |some (.struct fs)=>(placesOf P fs.toList).bind λpl=>(compPartsL cmp pl ps.toList).map λps=>.build z.cells ps
  |some (.array _ e)=>(szOf P e).bind λs=>(compPartsS cmp s ps.toList).map λps=>.build z.cells ps
  |_=>none
 |.buildSlice t n ps=>(sliceElem P t).bind λe=>(elemOf? P e).bind λ(sz,_,z)=>if n*sz<=16777216/\0<sz then (compPartsS cmp sz ps.toList).map λps=>.buildSlice sz n ((List.range (n*sz)).map λj=>z.getD (j % sz) .undef) ps else none
 |.load t a=>(aggOf P t).bind λn=>(cmp a).map λa=>.load n a
 |.store t a x=>(szOf P t).bind λn=>(cmp a).bind λa=>(cmp x).map λx=>.store n a x
 |.nilCheck x=>(cmp x).map .nilCheck
 |.binOp op t x y _=>(eqKind P t).bind λk=>(cmp x).bind λx=>(cmp y).map λy=>.bin op k x y
 |.unOp op _ x=>(cmp x).map λx=>.un op x
 |.convert s d x=>(cmp x).bind λx=>match P.underlying s,P.underlying d with
  |some (.int _),some (.int k)=>some (.convI k x)
  |some (.slice e),some .string=>match P.underlying e with
   |some (.int .u8)=>some (.b2s x)
   |_=>none
  |_,_=>none
 |.makeInterface t x=>match P.underlying t with
  |some (.interface _)=>none
  |some _=>(cmp x).map λx=>.mkIfc t x
  |none=>none
 |.makeFunc (.func f) a b=>(compOpds cmp a.toList).bind λa=>(compOpds cmp b.toList).map λb=>.mkFn f a b
 |.makeMap t none=>match P.underlying t with
  |some (.map k _)=>(keyShape P k).map .mkMap
  |_=>none
 |.lookup t x k ok=>match P.underlying t with
  |some (.map kt e)=>(keyShape P kt).bind λks=>(zeroOf P e).bind λz=>(cmp x).bind λx=>(cmp k).map λk=>.lookup ks z ok x k
  |_=>none
 |.mapUpdate t m k v=>match P.underlying t with
  |some (.map kt _)=>(keyShape P kt).bind λks=>(cmp m).bind λm=>(cmp k).bind λk=>(cmp v).map λv=>.mapUpd ks m k v
  |_=>none
 |.insert t m k v=>match P.underlying t with
  |some (.map kt _)=>(keyShape P kt).bind λks=>(cmp m).bind λm=>(cmp k).bind λk=>(cmp v).map λv=>.mapUpd ks m k v
  |_=>none
 |.makeSlice t l c=>(sliceElem P t).bind λe=>(elemOf? P e).bind λ(sz,by_,z)=>if 0<sz then (cmp l).bind λl=>(cmp c).map λc=>.mkSlice z sz by_ l c else none
 |.slice t x lo hi mx=>(cmp x).bind λx=>(compOpdO cmp lo).bind λlo=>(compOpdO cmp hi).bind λhi=>(compOpdO cmp mx).bind λmx'=>match P.underlying t with
  |some (.slice e)=>(szOf P e).bind λsz=>if mx'.isSome && hi.isNone then none else some (.sliceSl sz x lo hi mx')
  |some .string=>if mx'.isSome then none else some (.sliceStr x lo hi)
  |_=>none
 |.fieldAddr t x f=>(cmp x).bind λx=>match P.underlying t with
  |some (.struct fs)=>(fs[f]?).bind λfd=>(szOf P fd.type).bind λs=>if s=0 then none else some (.fieldAddr fd.offset x)
  |_=>none
 |.field t x f=>(cmp x).bind λx=>match P.underlying t with
  |some (.struct fs)=>(fs[f]?).bind λfd=>(aggOf P fd.type).map λn=>.field fd.offset n x
  |_=>none
 |.indexAddr t x i=>(cmp x).bind λx=>(cmp i).bind λi=>match P.underlying t with
  |some (.array n e)=>(szOf P e).map λsz=>.idxArr n sz x i
  |some (.slice e)=>(szOf P e).map λsz=>.idxSl sz x i
  |_=>none
 |.index t x i=>(cmp x).bind λx=>(cmp i).bind λi=>match P.underlying t with
  |some (.array n e)=>(szOf P e).bind λsz=>(aggOf P e).map λm=>.ixArr n sz m x i
  |some .string=>some (.ixStr x i)
  |_=>none
 |.typeAssert x _ t ok=>match P.underlying t with
  |some (.interface _)=>none
  |some _=>(cmp x).bind λx=>(zeroOf P t).map λz=>.typeAssert t z ok x
  |none=>none
 |.extract x i=>(cmp x).map λx=>.extract i x
 |.call c=>match c.callee with
  |.builtin b=>compBuiltin P cmp b c.args.toList c.argTypes.toList
  |_=>none
 |_=>none
def compAny (P:Program)(cmp:Operand->Option Opd)(o:Op):Option MAny:=
 match o with
 |.call ⟨.value (.func f),args,_⟩=>(compOpds cmp args.toList).map λxs=>.call f xs
 |.call ⟨.value x,args,_⟩=>(cmp x).bind λx=>(compOpds cmp args.toList).map λxs=>.callV x xs
 |.call ⟨.invoke x nm,args,_⟩=>(cmp x).bind λx=>(compOpds cmp args.toList).map λxs=>.invoke nm x xs
 |o=>(compOp P cmp o).map .op
end Go.Gm
namespace Go.Gm
def compOper (P:Program)(ops:Array Oper)(o:Oper):Option MOper:=
 (compAny P compOpd o.op).bind λm=>match o.guard with
  |none=>some ⟨o.dst,m,none⟩
  |some (j,b)=>((ops[j]?).bind (·.dst)).map λd=>⟨o.dst,m,some (d,b)⟩
def compOpers (P:Program)(ops:Array Oper):List Oper->Option (List MOper)
 |[]=>some []
 |o::r=>(compOper P ops o).bind λm=>(compOpers P ops r).map λms=>m::ms
def writer (ops:Array Oper)(s:Nat):Option Nat:=(List.range ops.size).find? λj=>match ops[j]? with|some o=>decide (o.dst=some s)|none=>false
def cmpD (N:Nat)(ops:Array Oper)(pre:Nat->List Nat)(i:Nat):Operand->Option Opd
 |.tmp s=>if s<N then
   match writer ops s with
   |none=>some (.tmp s)
   |some j=>if (pre i).contains j then some (.tmp (N+j)) else if j=i\/(pre j).contains i=true then some (.tmp s) else none
  else none
 |x=>compOpd x
def compG (N:Nat)(ops:Array Oper)(pre:Nat->List Nat)(i:Nat):Option (Nat × Bool)->Option (Option (Nat × Bool))
 |none=>some none
 |some (g,b)=>if (pre i).contains g && ((ops[g]?).bind (·.dst)).isSome then some (some (N+g,b)) else none
def slotOk (N:Nat)(l:List Nat):Opd->Bool
 |.tmp s=>decide (s<N) || l.any λj=>s == N+j
 |.const _=>true
def slotsOk (N:Nat)(l:List Nat):MAny->Bool
 |.op m=>m.opds.all (slotOk N l)
 |_=>true
def compD1 (P:Program)(N:Nat)(ops:Array Oper)(pre:Nat->List Nat)(done:List DItem)(i:Nat):Option DItem:=
 (ops[i]?).bind λo=>
 if !(done.any λit=>it.i == i) && (o.after.all λe=>!Region.binds .any e || (decide (e.on<i) && done.any λit=>it.i == e.on)) &&
   ((pre i).all λj=>o.after.any λe=>Region.binds .any e && (e.on == j || (pre e.on).contains j)) &&
   (done.all λit=>!isEff it.op.op || (pre i).contains it.i) then
  (compAny P (cmpD N ops pre i) o.op).bind λm=>(compG N ops pre i o.guard).bind λg=>if !slotsOk N (pre i) m then none else
   some ⟨i,⟨some (N+i),m,g⟩,if isEff m then (done.filter λit=>isRead it.op.op && !(pre i).contains it.i).map λit=>(N+it.i,it.op) else []⟩
 else none
def compD (P:Program)(N:Nat)(ops:Array Oper)(pre:Nat->List Nat):List DItem->List Nat->Option (List DItem)
 |_,[]=>some []
 |done,i::r=>(compD1 P N ops pre done i).bind λit=>(compD P N ops pre (done++[it]) r).map λits=>it::its
def dstsOk (N:Nat)(ops:Array Oper):Bool:=(List.range ops.size).all λj=>match ops[j]? with
 |some o=>match o.dst with
  |some d=>decide (d<N) && decide (writer ops d=some j)
  |none=>true
 |none=>true
def outsOf (N:Nat)(ops:Array Oper):List (Nat × Nat):=(List.range ops.size).filterMap λj=>(ops[j]?).bind λo=>o.dst.map λd=>(d,N+j)
abbrev DHint:=(Nat->List Nat) × List Nat
structure Hint where
 N:Nat
 F:Nat->List Nat
 D:Nat->DHint
 J:List Nat
def labIf (b:Bool)(c:MCode):MCode:=if b then .lab c else c
def compReg (P:Program)(H:Hint)(id:Nat)(ops:Array Oper):Option MCode:=
 if dstsOk H.N ops && ((List.range ops.size).all λi=>(H.D id).2.contains i) && decide ((H.D id).2.length=ops.size) then (compD P H.N ops (H.D id).1 [] (H.D id).2).map λits=>.regionD H.N its (outsOf H.N ops) else none
def compC (P:Program)(H:Hint):Code->Nat->Option (MCode × Nat)
 |.skip,n=>some (.skip,n)
 |.region _ ops false,n=>(compOpers P ops ops.toList).map λms=>(.region ms,n)
 |.region id ops true,n=>if P.follows .mixedOrders then (compReg P H id ops).map λm=>(m,n) else none
 |.seq a b,n=>(compC P H a (n+1)).bind λ(a',n1)=>(compC P H b n1).map λ(b',n2)=>(.seq (H.F n) a' (labIf (H.J.contains n) b'),n2)
 |.cond c a b,n=>(compOpd c).bind λc'=>(compC P H a n).bind λ(a',n1)=>(compC P H b n1).map λ(b',n2)=>(.cond c' a' b',n2)
 |.block id c,n=>(compC P H c n).map λ(c',n1)=>(.block id c',n1)
 |.loop c,n=>(compC P H c (n+1)).map λ(c',n1)=>(.loop (H.F n) c',n1)
 |.exit id,n=>some (.exit id,n)
 |.ret,n=>some (.ret,n)
 |_,_=>none
def compRes (P:Program):ResultVar->Option (Nat × Option (Option Nat))
 |.tmp t=>some (t,none)
 |.cell a t=>(aggOf P t).map λn=>(a,some n)
def compRess (P:Program):List ResultVar->Option (List (Nat × Option (Option Nat)))
 |[]=>some []
 |r::rs=>(compRes P r).bind λx=>(compRess P rs).map λxs=>x::xs
def compFn (P:Program)(H:Hint)(fn:Func):Option MFn:=
 fn.body.bind λc=>(compC P H c 0).bind λ(m,_)=>(compRess P fn.results.toList).bind λrs=>
  if fn.name == "runtime.NumGoroutine" then none else some ⟨fn.ntmps,rs,m⟩
end Go.Gm
namespace Go.Gm
open Go.RowKit
def FR (φ:Ren)(fr:Frm)(a:Act):Prop:=VRs φ fr a.tmps.toList
theorem FR.mono (h:FR φ fr a)(hl:φ.le ψ):FR ψ fr a:=VRs.mono hl h
section
variable {φ:Ren}
theorem b2n (h:ofVal1 v=some x):VR φ x v/\x.one=true:=by
 unfold ofVal1 at h
 split at h<;>first
  |(injection h with h; subst h; exact ⟨by constructor,rfl⟩)
  |cases h
theorem b2o:∀{vs:List Value} {xs:List AV},ofVals vs=some xs->VRs φ xs vs/\xs.all AV.one=true
 |[],xs,h=>by injection h with h; subst h; exact ⟨.nil,rfl⟩
 |v::vs,xs,h=>by
  simp only[ofVals] at h
  cases h1:ofVal1 v with
  |none=>rw[h1] at h; cases h
  |some x=>
   rw[h1] at h
   simp only[Option.bind_some] at h
   cases h2:ofVals vs with
   |none=>rw[h2] at h; cases h
   |some ys=>
    rw[h2] at h
    injection h with h
    subst h
    obtain ⟨a,b⟩:=b2n (φ:=φ) h1
    obtain ⟨c,d⟩:=b2o h2
    exact ⟨.cons a c,by simp[b,d]⟩
theorem b3O (h:ofVal v=some x):VR φ x v:=by
 unfold ofVal at h
 split at h
 ·rename_i cs
  cases h2:ofVals cs.toList with
  |none=>rw[h2] at h; cases h
  |some ys=>
   rw[h2] at h
   injection h with h
   subst h
   exact .agg (b2o h2).1
 ·exact (b2n h).1
theorem a4W (h:ofVal v=some x):VRs φ x.cells v.cells.toList/\x.cells.all AV.one=true:=by
 unfold ofVal at h
 split at h
 ·rename_i cs
  cases h2:ofVals cs.toList with
  |none=>rw[h2] at h; cases h
  |some ys=>
   rw[h2] at h
   injection h with h
   subst h
   exact b2o h2
 ·rename_i h0
  obtain ⟨a,b⟩:=b2n (φ:=φ) h
  have e1:v.cells=#[v]:=by
   cases v<;>first|rfl|(rename_i cs; exact absurd rfl (h0 cs))
  have e2:x.cells=[x]:=by cases x<;>first|rfl|simp[AV.one] at b
  rw[e1,e2]
  exact ⟨.cons a .nil,by simp[b]⟩
theorem VR.cells_of (h:VR φ x v)(hu:x≠.undef):VRs φ x.cells v.cells.toList:=by
 cases h<;>first|exact absurd rfl hu|(simp only[AV.cells,Value.cells]; first|exact .cons (by first|constructor<;>assumption|constructor) .nil|assumption)
variable {fr:Frm} {a:Act}
theorem FR.getD (hf:FR φ fr a)(t:Nat):VR φ (fr.getD t .undef) (a.tmps.getD t undef):=by
 have hl:=VRs.length hf
 rw[List.getD_eq_getElem?_getD]
 cases hx:fr[t]? with
 |none=>exact .undef _
 |some x=>
  obtain ⟨v,hv,hr⟩:=VRs.get hf hx
  rw[Array.getElem?_toList] at hv
  simp only[Option.getD_some,Array.getD_eq_getD_getElem?,hv]
  exact hr
theorem FR.ev (hf:FR φ fr a)(hc:compOpd x=some y):VR φ (y.ev fr) (a.eval x):=by
 cases x with
 |tmp t=>injection hc with hc; subst hc; exact hf.getD t
 |const v=>
  simp only[compOpd] at hc
  cases h:ofVal v with
  |none=>rw[h] at hc; cases hc
  |some x=>rw[h] at hc; injection hc with hc; subst hc; exact b3O h
 |global g=>cases hc
 |func f=>injection hc with hc; subst hc; exact .fn (xs':=[]) (ys':=[]) .nil .nil
def EvOk (φ:Ren)(cmp:Operand->Option Opd)(fr:Frm)(ρ:Operand->Value):Prop:=∀x y,cmp x=some y->VR φ (y.ev fr) (ρ x)
theorem FR.evOk (hf:FR φ fr a):EvOk φ compOpd fr a.eval:=λ_ _ h=>hf.ev h
theorem EvOk.ev (hf:EvOk φ cmp fr ρ)(h:cmp x=some y):VR φ (y.ev fr) (ρ x):=hf x y h
theorem EvOk.evs (hf:EvOk φ cmp fr ρ):∀{xs:List Operand} {ys:List Opd},compOpds cmp xs=some ys->VRs φ (ys.map (·.ev fr)) (xs.map ρ)
 |[],ys,h=>by injection h with h; subst h; exact .nil
 |x::xs,ys,h=>by
  simp only[compOpds] at h
  cases h1:cmp x with
  |none=>rw[h1] at h; cases h
  |some y=>
   rw[h1] at h
   simp only[Option.bind_some] at h
   cases h2:compOpds cmp xs with
   |none=>rw[h2] at h; cases h
   |some zs=>
    rw[h2] at h
    injection h with h
    subst h
    exact .cons (hf.ev h1) (EvOk.evs hf h2)
theorem FR.put (hf:FR φ fr a)(hv:VR φ v v')(d:Option Nat):FR φ (put fr d v) (a.put d v'):=by
 cases d with
 |none=>exact hf
 |some d=>
  have hl:=VRs.length hf
  refine VRs.of_get (by simp[Gm.put,Act.put]; simpa using hl) (λi x u hx hu=>?_)
  simp only[Gm.put,Act.put,Array.toList_setIfInBounds] at hx hu
  rw[List.getElem?_set] at hx hu
  split at hx
  ·rename_i hid
   subst hid
   rw[if_pos rfl] at hu
   split at hx
   ·split at hu
    ·injection hx with hx; injection hu with hu; subst hx hu; exact hv
    ·cases hu
   ·cases hx
  ·rename_i hid
   rw[if_neg hid] at hu
   obtain ⟨u',hu',hr⟩:=VRs.get hf hx
   rw[hu] at hu'
   injection hu' with hu'
   subst hu'
   exact hr
end
theorem c0R (h:szOf P t=some n):∃i,P.info? t=some i/\i.size=n:=by
 unfold szOf at h
 cases hi:P.info? t with
 |none=>rw[hi] at h; cases h
 |some i=>rw[hi] at h; injection h with h; exact ⟨i,rfl,h⟩
theorem q4_ (h:szOf P t=some n)(w:World):(sizeOf t).run P w=.ok n w:=by
 obtain ⟨i,hi,rfl⟩:=c0R h
 simp[sizeOf,typeInfo,hi]
theorem a1B (h:sliceElem P t=some e):P.underlying t=some (.slice e):=by
 unfold sliceElem at h
 split at h
 ·rename_i hu; injection h with h; subst h; exact hu
 ·cases h
theorem a6b (h:zeroOf P t=some x):∃z,(∀w,(zeroValue t).run P w=.ok z w)/\ofVal z=some x:=by
 unfold zeroOf at h
 cases hi:P.info? t with
 |none=>rw[hi] at h; cases h
 |some i=>
  rw[hi] at h
  simp only[Option.bind_some] at h
  cases hz:i.zero with
  |none=>rw[hz] at h; cases h
  |some z=>rw[hz] at h; exact ⟨z,λw=>by simp[zeroValue,typeInfo,hi,hz],h⟩
theorem a7t {P:Program}{t e sz by_:Nat}{x:List AV}(hu:P.underlying t=some (.slice e))(h:elemOf? P e=some (sz,by_,x)) :
  ∃i z,ElemOk P t e i z sz by_/\∃y,ofVal z=some y/\y.cells=x/\x.length=sz:=by
 unfold elemOf? at h
 cases hi:P.info? e with
 |none=>rw[hi] at h; cases h
 |some i=>
  rw[hi] at h
  simp only[Option.bind_some] at h
  cases hz:i.zero with
  |none=>rw[hz] at h; cases h
  |some z=>
   rw[hz] at h
   simp only[Option.bind_some] at h
   cases hx:ofVal z with
   |none=>rw[hx] at h; cases h
   |some y=>
    rw[hx] at h
    simp only[Option.bind_some] at h
    split at h
    ·rename_i hs
     injection h with h
     injection h with h1 h2
     injection h2 with h2 h3
     exact ⟨i,z,⟨hu,hi,hz,h1,h2,by rw[<-h1]; exact hs.1⟩,y,hx,h3,by rw[<-h3,<-h1]; exact hs.2⟩
    ·cases h
theorem b5o (h:aggOf P t=some n)(w:World):(isAgg t).run P w=.ok n.isSome w/\∀k,n=some k->szOf P t=some k:=by
 unfold aggOf at h
 split at h
 ·rename_i hu
  cases hs:szOf P t with
  |none=>rw[hs] at h; cases h
  |some k=>rw[hs] at h; injection h with h; subst h; exact ⟨by simp[isAgg,run_underlying hu],λ_ q=>q⟩
 ·rename_i hu
  cases hs:szOf P t with
  |none=>rw[hs] at h; cases h
  |some k=>rw[hs] at h; injection h with h; subst h; exact ⟨by simp[isAgg,run_underlying hu],λ_ q=>q⟩
 ·rename_i d h1 h2 hu
  injection h with h
  subst h
  refine ⟨?_,λ_ q=>by cases q⟩
  simp only[isAgg,Sem.run_bind,run_underlying hu,Result.andThen_ok]
  cases d<;>first|rfl|exact absurd hu (by simp_all)
 ·cases h
section
variable {B:Nat} {w0:World} {φ:Ren} {h:Heap} {w:World} {P:Program}
theorem S.loadVar (hs:S B w0 φ h w)(hn:aggOf P t=some n)(hp:VR φ a p)(hx:(match n with|none=>Gm.ld1 h a|some n=>Gm.ldN n h a)=some x) :
  ∃ad v,p=.pointer (some ad)/\(loadVar t ad).run P w=.ok v w/\VR φ x v:=by
 obtain ⟨h1,h2⟩:=b5o hn w
 cases n with
 |none=>
  obtain ⟨ad,v,rfl,hc,hr,_⟩:=hs.ld1 hp hx
  exact ⟨ad,v,rfl,by simp[Go.loadVar,h1,hc],hr⟩
 |some k=>
  obtain ⟨ad,cs,vs,rfl,rfl,hl,hr,hc⟩:=hs.ldN hp hx
  have:=run_loadCells_list (P:=P) w ad vs hc
  rw[hl] at this
  exact ⟨ad,_,rfl,by simp[Go.loadVar,h1,q4_ (h2 k rfl),this],.agg hr⟩
theorem S.storeVar (hs:S B w0 φ h w)(hn:szOf P t=some n)(hp:VR φ a p)(hv:VR φ x v)(hx:stN n h a x=some h') :
  ∃ad w',p=.pointer (some ad)/\(storeVar t ad v).run P w=.ok () w'/\S B w0 φ h' w'/\Kept φ h φ h':=by
 unfold stN at hx
 split at hx
 ·rename_i o off hi g
  split at hx
  ·rename_i hlen
   cases hp with
   |@ptr _ _ _ _ l hl hhi=>
    have hu:x≠.undef:=by
     rintro rfl
     unfold Gm.wrc at hx
     split at hx
     ·split at hx
      ·rename_i hc; simp[AV.cells,AV.one] at hc
      ·cases hx
     ·cases hx
    have hcs:=hv.cells_of hu
    obtain ⟨w',hr,hs',hk⟩:=hs.wrc hl hhi hcs hx P
    refine ⟨_,w',rfl,?_,hs',hk⟩
    have hl2:v.cells.size=n:=by have:=hcs.length; simp at this; omega
    simp[Go.storeVar,q4_ hn,hl2,hr]
  ·cases hx
 ·cases hx
end
end Go.Gm
namespace Go.Gm
open Go.RowKit
def Gives (P:Program)(s:Sem Next)(w:World)(v:Value)(w':World):Prop:=
 s.run P w=.ok (.value v) w'\/(s.run P w=.ok .skip w'/\v=undef)
def sv:AV->Value
 |.int k n=>.int k n
 |.bool b=>.bool b
 |.str s=>.string s
 |_=>undef
def plainPair:Value->Value->Bool
 |.nilIface,.nilIface=>false
 |.agg _,.agg _=>false
 |_,_=>true
section
variable {φ:Ren} {P:Program}
theorem b5N (h:plainPair a b=true)(w:World):(eqGuard op t xo yo a b).run P w=.ok () w:=by
 unfold eqGuard
 cases a<;>cases b<;>first|(simp[plainPair] at h; done)|(cases op<;>simp)
theorem c4p (h:intI op k a b=some v):binOp op t (.int k a) (.int k b)=pure (sv v)/\VR φ v (sv v):=by
 cases op<;>simp only[intI] at h<;>first
  |(injection h with h; subst h
    refine ⟨?_,by constructor⟩
    simp only[binOp_add,binOp_sub,binOp_mul,binOp_and,binOp_or,binOp_xor,binOp_andNot,binOp_eql,binOp_neq,binOp_lss,binOp_leq,binOp_gtr,binOp_geq,Op.intArith,sv]
    try rfl)
  |(split at h
    ·cases h
    ·rename_i hb
     injection h with h; subst h
     refine ⟨?_,by constructor⟩
     simp only[binOp_quo,binOp_rem,Op.intDiv,if_neg hb,sv])
  |cases h
theorem b5p (h:shiftI op k a b=some v):binOp op t (.int k a) (.int k' b)=pure (sv v)/\VR φ v (sv v):=by
 unfold shiftI at h
 split at h
 ·cases h
 ·rename_i hb
  cases op<;>simp only at h<;>first
   |(injection h with h; subst h
     refine ⟨?_,by constructor⟩
     simp only[binOp_shl,binOp_shr,Op.shift,if_neg hb,sv])
   |cases h
theorem c4q (h:strS op a b=some v):binOp op t (.string a) (.string b)=pure (sv v)/\VR φ v (sv v):=by
 cases op<;>simp only[strS] at h<;>first
  |(split at h
    ·rename_i hb
     injection h with h; subst h
     refine ⟨?_,by constructor⟩
     have:¬(((a.size+b.size:Nat):Int) > IntKind.i64.max):=by simp only[IntKind.max,IntKind.signed,IntKind.bits]; simp; omega
     simp only[binOp,Op.stringOp,this,if_false,sv]
    ·cases h)
  |(injection h with h; subst h; exact ⟨by simp only[binOp,Op.stringOp,sv],by constructor⟩)
  |cases h
theorem a1N (he:eqOp op r=some v)(h1:binOp .eql t a b=(do pure (.bool (<-Op.equal t a b))))(h2:binOp .neq t a b=(do pure (.bool (!(<-Op.equal t a b)))))(hr:(Op.equal t a b).run P w=.ok r w):∃v',(binOp op t a b).run P w=.ok v' w/\VR φ v v':=by
 unfold eqOp at he
 split at he
 ·injection he with he; subst he; exact ⟨.bool r,by rw[h1,Sem.run_bind,hr]; rfl,.bool _⟩
 ·injection he with he; subst he; exact ⟨.bool (!r),by rw[h2,Sem.run_bind,hr]; rfl,.bool _⟩
 ·cases he
def UnderOk (P:Program)(t:TypeId):EK->Prop
 |.ptr=>∃e,P.underlying t=some (.pointer e)
 |.slice=>∃e,P.underlying t=some (.slice e)
 |.map=>∃k e,P.underlying t=some (.map k e)
 |.bool=>P.underlying t=some .bool
 |.scalar=>True
theorem b7d (h:eqKind P t=some k):UnderOk P t k:=by
 unfold eqKind at h
 split at h<;>first
  |(injection h with h; subst h; rename_i hu; first|exact ⟨_,hu⟩|exact ⟨_,_,hu⟩|exact hu|trivial)
  |cases h
theorem y7_ {x y:Value}(hu:P.underlying t=some d){r:Bool}(h:(match d,x,y with
   |.bool,.bool a,.bool b=>a == b
   |.pointer _,.pointer none,.pointer none=>true
   |.pointer _,.pointer none,.pointer (some _)=>false
   |.pointer _,.pointer (some _),.pointer none=>false
   |.slice _,.slice none _ _,.slice none _ _=>true
   |.slice _,.slice none _ _,.slice (some _) _ _=>false
   |.slice _,.slice (some _) _ _,.slice none _ _=>false
   |.map _ _,.map none,.map none=>true
   |.map _ _,.map none,.map (some _)=>false
   |.map _ _,.map (some _),.map none=>false
   |_,_,_=>!r)=r):(Op.equal t x y).run P w=.ok r w:=by
 unfold Op.equal Op.maxDepth Op.equalIn
 rw[Sem.run_bind,run_underlying hu,Result.andThen_ok]
 split at h<;>first
  |(subst h; rfl)
  |(cases r<;>simp at h)
theorem c4r (hk:eqKind P t=some k)(hx:VR φ x x')(hy:VR φ y y')(hv:binV op k x y=some v)(xo yo:Operand)(w:World) :
  ∃v',(do eqGuard op t xo yo x' y'; binOp op t x' y':Sem Value).run P w=.ok v' w/\VR φ v v':=by
 have hu:=b7d hk
 have guard:plainPair x' y'=true->(∃v',(binOp op t x' y').run P w=.ok v' w/\VR φ v v')->∃v',(do eqGuard op t xo yo x' y'; binOp op t x' y':Sem Value).run P w=.ok v' w/\VR φ v v':=by
  rintro h ⟨v',h1,h2⟩
  exact ⟨v',by rw[Sem.run_bind,b5N h]; exact h1,h2⟩
 unfold binV at hv
 split at hv
 ·cases hx; cases hy
  refine guard rfl ?_
  split at hv
  ·obtain ⟨e,r⟩:=b5p (φ:=φ) (t:=t) hv; exact ⟨_,by rw[e]; rfl,r⟩
  ·obtain ⟨e,r⟩:=b5p (φ:=φ) (t:=t) hv; exact ⟨_,by rw[e]; rfl,r⟩
  ·split at hv
   ·rename_i hkk; subst hkk; obtain ⟨e,r⟩:=c4p (φ:=φ) (t:=t) hv; exact ⟨_,by rw[e]; rfl,r⟩
   ·cases hv
 ·cases hx; cases hy; obtain ⟨e,r⟩:=c4q (φ:=φ) (t:=t) hv; exact guard rfl ⟨_,by rw[e]; rfl,r⟩
 ·cases hx; cases hy
  split at hv
  ·rename_i he; subst he
   have hu2:P.underlying t=some .bool:=hu
   exact guard rfl (a1N hv rfl rfl (y7_ hu2 rfl))
  ·cases hv
 ·cases hx; cases hy
  split at hv
  ·rename_i he; subst he; obtain ⟨e,hu2⟩:=hu
   exact guard rfl (a1N hv rfl rfl (y7_ hu2 rfl))
  ·cases hv
 ·cases hx; cases hy
  split at hv
  ·rename_i he; subst he; obtain ⟨e,hu2⟩:=hu
   exact guard rfl (a1N hv rfl rfl (y7_ hu2 rfl))
  ·cases hv
 ·cases hx; cases hy
  split at hv
  ·rename_i he; subst he; obtain ⟨e,hu2⟩:=hu
   exact guard rfl (a1N hv rfl rfl (y7_ hu2 rfl))
  ·cases hv
 ·cases hx; cases hy
  split at hv
  ·rename_i he; subst he; obtain ⟨e,hu2⟩:=hu
   exact guard rfl (a1N hv rfl rfl (y7_ hu2 rfl))
  ·cases hv
 ·cases hy
  split at hv
  ·rename_i he; subst he; obtain ⟨e,hu2⟩:=hu
   cases hx<;>exact guard rfl (a1N hv rfl rfl (y7_ hu2 rfl))
  ·cases hv
 ·cases hx
  split at hv
  ·rename_i he; subst he; obtain ⟨e,hu2⟩:=hu
   cases hy<;>exact guard rfl (a1N hv rfl rfl (y7_ hu2 rfl))
  ·cases hv
 ·cases hx; cases hy
  split at hv
  ·rename_i he; subst he; obtain ⟨k',e,hu2⟩:=hu
   exact guard rfl (a1N hv rfl rfl (y7_ hu2 rfl))
  ·cases hv
 ·cases hx; cases hy
  split at hv
  ·rename_i he; subst he; obtain ⟨k',e,hu2⟩:=hu
   exact guard rfl (a1N hv rfl rfl (y7_ hu2 rfl))
  ·cases hv
 ·cases hx; cases hy
  split at hv
  ·rename_i he; subst he; obtain ⟨k',e,hu2⟩:=hu
   exact guard rfl (a1N hv rfl rfl (y7_ hu2 rfl))
  ·cases hv
 ·cases hv
theorem c5C (hx:VR φ x x')(hv:unV op x=some v)(w:World):∃v',(Op.unary op x').run P w=.ok v' w/\VR φ v v':=by
 unfold unV at hv
 split at hv
 ·injection hv with hv; subst hv; cases hx; exact ⟨_,rfl,.int _ _⟩
 ·injection hv with hv; subst hv; cases hx; exact ⟨_,rfl,.bool _⟩
 ·cases hv
end
end Go.Gm
namespace Go.Gm
open Go.RowKit
section
variable {B:Nat} {w0:World} {φ:Ren} {h:Heap} {w:World} {P:Program} {fr:Frm} {a:Act}
theorem S.newVar (hs:S B w0 φ h w)(hv:VRs φ cs vs){v:AV}{h':Heap}(hn:newVar h cs=some (v,h'))(e:TypeId) :
  ∃ψ v',VR ψ v v'/\S B w0 ψ h' (w.alloc (.cells vs.toArray e))/\Kept φ h ψ h'/\v'=.pointer (some ⟨w.heap.size,0,none⟩):=by
 unfold Gm.newVar at hn
 split at hn
 ·rename_i h1
  injection hn with hn
  injection hn with hn1 hn2
  subst hn1 hn2
  obtain ⟨ψ,p1,p2,p3⟩:=hs.make (cs:=cs) (vs:=vs) (rest:=[]) hv h1 e
  rw[List.append_nil] at p1
  exact ⟨ψ,_,VR.ptr p3 (Nat.le_refl _),p1,p2,by simp⟩
 ·cases hn
theorem foldSet (off:Nat):∀(l:List Value) (k:Nat) (arr:Array Value),off+k+l.length<=arr.size->
  ((l.zipIdx k).foldl (λcs (p:Value × Nat)=>cs.setIfInBounds (off+p.2) p.1) arr).size=arr.size/\
  ∀i,((l.zipIdx k).foldl (λcs (p:Value × Nat)=>cs.setIfInBounds (off+p.2) p.1) arr)[i]?=if off+k<=i/\i<off+k+l.length then l[i-(off+k)]? else arr[i]?
 |[],k,arr,_=>⟨rfl,λi=>by rw[if_neg (by simp)]; rfl⟩
 |v::l,k,arr,hl=>by
  simp only[List.length_cons] at hl
  obtain ⟨h1,h2⟩:=foldSet off l (k+1) (arr.setIfInBounds (off+k) v) (by simp; omega)
  refine ⟨by simp only[List.zipIdx_cons,List.foldl_cons]; rw[h1]; simp,λi=>?_⟩
  simp only[List.zipIdx_cons,List.foldl_cons]
  rw[h2]
  simp only[List.length_cons]
  by_cases h0:i=off+k
  ·subst h0
   rw[if_neg (by omega),if_pos (by omega),Array.getElem?_setIfInBounds_self_of_lt (by omega)]
   simp
  ·by_cases h3:off+(k+1)<=i/\i<off+(k+1)+l.length
   ·rw[if_pos h3,if_pos (by omega),show i-(off+k)=(i-(off+(k+1)))+1 by omega,List.getElem?_cons_succ]
   ·rw[if_neg h3,if_neg oM,Array.getElem?_setIfInBounds_ne (Ne.symm h0)]
theorem b2B {place:Nat->Option (Nat × Nat)}:∀{qs:List (Nat × Nat × AV)} {ps:List (Nat × Value)} {cs:List AV} {us:List Value} {out:List AV},VRs φ cs us->ps.length=qs.length->
  (∀(i:Nat) p q,ps[i]?=some p->qs[i]?=some q->place p.1=some (q.1,q.2.1)/\VR φ q.2.2 p.2)->fillP cs qs=some out->
  ∃us',Instr.fill place us.toArray ps=some us'.toArray/\VRs φ out us'/\out.length=cs.length
 |[],ps,cs,us,out,hv,hl,_,hf=>by
  have:ps=[]:=List.eq_nil_of_length_eq_zero (by simpa using hl)
  subst this
  injection hf with hf
  subst hf
  exact ⟨us,rfl,hv,rfl⟩
 |q::qs,[],cs,us,out,hv,hl,_,hf=>by simp at hl
 |(off,size,x)::qs,(i,u)::ps,cs,us,out,hv,hl,hp,hf=>by
  obtain ⟨hpl,hr⟩:=hp 0 _ _ rfl rfl
  simp only at hpl hr
  simp only[fillP] at hf
  split at hf
  ·rename_i hc
   have hu:x≠.undef:=by rintro rfl; have:=hc.2.2; simp[AV.cells,AV.one] at this
   have hcu:=hr.cells_of hu
   have hus:=hv.length
   have hcl:=hcu.length
   simp only[Array.length_toList] at hcl
   obtain ⟨k1,k2⟩:=b1v x.cells cs off (by omega)
   have hset:VRs φ (setAll cs off x.cells) (us.take off++u.cells.toList++us.drop (off+u.cells.size)):=by
    refine VRs.of_get (by simp[k1]; omega) (λj y v hy hv'=>?_)
    rw[k2] at hy
    rw[List.append_assoc] at hv'
    by_cases h1:j<off
    ·rw[if_neg (by omega)] at hy
     rw[List.getElem?_append_left (by simp; omega),List.getElem?_take,if_pos h1] at hv'
     obtain ⟨v2,e2,r2⟩:=hv.get hy
     rw[hv'] at e2; injection e2 with e2; subst e2; exact r2
    ·rw[List.getElem?_append_right (by simp; omega)] at hv'
     simp only[List.length_take,Nat.min_eq_left (show off<=us.length by omega)] at hv'
     by_cases h2:j<off+x.cells.length
     ·rw[if_pos (by omega)] at hy
      rw[List.getElem?_append_left (by simp; omega)] at hv'
      obtain ⟨v2,e2,r2⟩:=hcu.get hy
      rw[hv'] at e2; injection e2 with e2; subst e2; exact r2
     ·rw[if_neg (by omega)] at hy
      rw[List.getElem?_append_right (by simp; omega),List.getElem?_drop] at hv'
      simp only[Array.length_toList] at hv'
      rw[show off+u.cells.size+(j-off-u.cells.size)=j by omega] at hv'
      obtain ⟨v2,e2,r2⟩:=hv.get hy
      rw[hv'] at e2; injection e2 with e2; subst e2; exact r2
   obtain ⟨us',e1,e2,e3⟩:=b2B (place:=place) hset (by simpa using hl) (λj p q h1 h2=>hp (j+1) p q (by simpa using h1) (by simpa using h2)) hf
   refine ⟨us',?_,e2,by rw[e3,k1]⟩
   have h2:=foldSet off u.cells.toList 0 us.toArray (by simp; omega)
   have e0:(u.cells.zipIdx.foldl (λcs (c,j)=>cs.setIfInBounds (off+j) c) us.toArray)=(us.take off++u.cells.toList++us.drop (off+u.cells.size)).toArray:=by
    rw[<-Array.foldl_toList,Array.toList_zipIdx]
    apply Array.ext_getElem?
    intro j
    rw[show (λ(cs:Array Value) (x:Value × Nat)=>match x with|(c,j)=>cs.setIfInBounds (off+j) c)=(λcs p=>cs.setIfInBounds (off+p.2) p.1) from rfl,h2.2 j]
    simp only[Nat.add_zero,Array.length_toList,List.getElem?_toArray]
    rw[List.append_assoc]
    by_cases h1:j<off
    ·rw[if_neg (by omega),List.getElem?_append_left (by simp; omega),List.getElem?_take,if_pos h1]
    ·rw[List.getElem?_append_right (by simp; omega)]
     simp only[List.length_take,Nat.min_eq_left (show off<=us.length by omega)]
     by_cases h3:j<off+u.cells.size
     ·rw[if_pos (by omega),List.getElem?_append_left (by simp; omega)]
     ·rw[if_neg (by omega),List.getElem?_append_right (by simp; omega),List.getElem?_drop]
      simp only[Array.length_toList]
      rw[show off+u.cells.size+(j-off-u.cells.size)=j by omega]
   simp only[Instr.fill,hpl]
   have hnot:((decide (u.cells.size≠size)) || decide (off+u.cells.size > us.toArray.size))=false:=by simp; omega
   simp only[hnot,Bool.false_eq_true,if_false]
   rw[e0]
   exact e1
  ·cases hf
end
end Go.Gm
namespace Go.Gm
open Go.RowKit
theorem q5_ {h h':Heap}{v:AV}(hp:pure1 h x=some (v,h')):x=some v/\h'=h:=by
 unfold pure1 at hp
 cases x with
 |none=>cases hp
 |some y=>injection hp with hp; injection hp with h1 h2; subst h1 h2; exact ⟨rfl,rfl⟩
section
variable {B:Nat} {w0:World} {φ:Ren} {h:Heap} {w:World} {P:Program} {fr:Frm} {a:Act}
def OpOk (P:Program)(B:Nat)(w0:World)(φ:Ren)(h:Heap)(w:World)(s:Sem Next)(v:AV)(h':Heap):Prop:=
 ∃ψ v' w',Gives P s w v' w'/\VR ψ v v'/\S B w0 ψ h' w'/\Kept φ h ψ h'
theorem b2p (hs:S B w0 φ h w){s:Sem Value}(hr:s.run P w=.ok v' w)(hv:VR φ v v'):OpOk P B w0 φ h w (do pure (.value (<-s))) v h:=
 ⟨φ,v',w,.inl (by rw[Sem.run_bind,hr]; rfl),hv,hs,.refl _ _⟩
theorem a6c {s:Sem Value}(hr:∃ψ v' w',s.run P w=.ok v' w'/\VR ψ v v'/\S B w0 ψ h' w'/\Kept φ h ψ h'):OpOk P B w0 φ h w (do pure (.value (<-s))) v h':=by
 obtain ⟨ψ,v',w',h1,h2,h3,h4⟩:=hr
 exact ⟨ψ,v',w',.inl (by rw[Sem.run_bind,h1]; rfl),h2,h3,h4⟩
theorem b8n (hn:aggOf P t=some n)(hc:VRs φ cs us)(hv:partL cs off n=some v)(w:World) :
  ∃v',(part t us.toArray off).run P w=.ok v' w/\VR φ v v':=by
 obtain ⟨h1,h2⟩:=b5o hn w
 cases n with
 |none=>
  obtain ⟨v',e,r⟩:=hc.get hv
  exact ⟨v',by simp[part,h1,e],r⟩
 |some k=>
  injection hv with hv
  subst hv
  refine ⟨_,by simp only[part,Sem.run_bind,h1,Result.andThen_ok,Option.isSome_some,if_true,q4_ (h2 k rfl)]; rfl,?_⟩
  have e:us.toArray.extract off (off+k)=((us.drop off).take k).toArray:=by
   simp[List.extract_eq_take_drop,Nat.add_sub_cancel_left]
  rw[e]
  exact .agg ((hc.drop off).take k)
theorem a4o {lo:Option AV}{lo':Option Value}(hlo:∀y,lo=some y->∃z,lo'=some z/\VR φ y z)(hlon:lo=none->lo'=none)(hb:bnd d lo=some n) :
  (lo'=none/\n=d)\/∃k,lo'=some (.int k n):=by
 cases lo with
 |none=>injection hb with hb; exact .inl ⟨hlon rfl,hb.symm⟩
 |some y=>
  obtain ⟨z,e,hr⟩:=hlo y rfl
  unfold bnd at hb
  split at hb
  ·rename_i q; cases q
  ·rename_i k m q
   injection q with q
   subst q
   split at hb
   ·rename_i h0
    injection hb with hb
    subst hb
    cases hr
    exact .inr ⟨k,by rw[e,Int.toNat_of_nonneg h0]⟩
   ·cases hb
  ·cases hb
theorem n4_ {n y:Nat}(h:n<=y)(code:BoundsCode)(w:World):(Instr.sliceBound (.int k n) y code).run P w=.ok n w:=by
 have:(0:Int)<=n/\(n:Int)<=y:=oM
 simp[Instr.sliceBound,asIntOf,this]
theorem a3N {len cap l h m:Nat}{lo hi mx:Option Value}(hlo:(lo=none/\l=0)\/∃k,lo=some (.int k l))(hhi:(hi=none/\h=len)\/∃k,hi=some (.int k h))(hmx:(mx=none/\m=cap)\/((∃k,mx=some (.int k m))/\hi≠none))(h1:l<=h)(h2:h<=m)(h3:m<=cap)(w:World):(Instr.sliceBounds isS len cap lo hi mx).run P w=.ok (l,h,m) w:=by
 unfold Instr.sliceBounds
 rcases hmx with ⟨rfl,rfl⟩|⟨⟨km,rfl⟩,hne⟩
 ·rcases hhi with ⟨rfl,rfl⟩|⟨kh,rfl⟩
  ·rcases hlo with ⟨rfl,rfl⟩|⟨kl,rfl⟩
   ·rfl
   ·simp[n4_ h1]
  ·rcases hlo with ⟨rfl,rfl⟩|⟨kl,rfl⟩
   ·simp[n4_ h2]
   ·simp[n4_ h2,n4_ h1]
 ·rcases hhi with ⟨rfl,rfl⟩|⟨kh,rfl⟩
  ·exact absurd rfl hne
  ·rcases hlo with ⟨rfl,rfl⟩|⟨kl,rfl⟩
   ·simp[n4_ h3,n4_ h2]
   ·simp[n4_ h3,n4_ h2,n4_ h1]
theorem b7e (hu:P.underlying t=some (.slice e))(hsz:szOf P e=some sz)(hx:VR φ x x'){lo hi mx:Option AV}{lo' hi' mx':Option Value}(hlo:∀y,lo=some y->∃z,lo'=some z/\VR φ y z)(hlon:lo=none->lo'=none)(hhi:∀y,hi=some y->∃z,hi'=some z/\VR φ y z)(hhin:hi=none->hi'=none)(hmx:∀y,mx=some y->∃z,mx'=some z/\VR φ y z)(hmxn:mx=none->mx'=none)(hmh:mx.isSome=true->hi.isSome=true)(hv:slSl sz x lo hi mx=some v)(w:World) :
  ∃v',(Instr.sliceAt t x' lo' hi' mx').run P w=.ok v' w/\VR φ v v':=by
 have hine:mx.isSome=true->hi'≠none:=λq=>by
  have:=hmh q
  cases hi with
  |none=>cases this
  |some y=>obtain ⟨z,e,_⟩:=hhi y rfl; rw[e]; simp
 cases x with
 |sl o off len sz' lim g=>
  simp only[slSl] at hv
  cases hl:bnd 0 lo with
  |none=>rw[hl] at hv; cases hv
  |some l=>
   cases hh:bnd len hi with
   |none=>rw[hl,hh] at hv; cases hv
   |some hh'=>
    rw[hl,hh] at hv
    simp only at hv
    have L:=a4o hlo hlon hl
    have H:=a4o hhi hhin hh
    split at hv
    ·rename_i hc
     obtain ⟨c1,c2,c3⟩:=hc
     subst c3
     have hform:=hx.slice_form rfl
     have hls:l*sz'<=len*sz':=Nat.mul_le_mul_right _ (by omega)
     have hsub:∀m,l<=m->l*sz'+(m-l)*sz'=m*sz':=λm hm=>by rw[<-Nat.add_mul,Nat.add_sub_cancel' hm]
     have fin:∀m (lim':Option Nat),hh'<=m->(∀q cap,x'=.slice q len cap->m<=cap/\((mx'=none/\m=cap)\/((∃k,mx'=some (.int k m))/\hi'≠none))/\∀c,lim'=some c->c=m-l)->(lim'=none->lim=none)->
       ∃v',(Instr.sliceAt t x' lo' hi' mx').run P w=.ok v' w/\VR φ (.sl o (off+l*sz') (hh'-l) sz' lim' g) v':=by
      intro m lim' hm hq hlm
      rcases hform with ⟨lc,hlc,hoff,cap,rfl,k1,k2,k3,k4,k5⟩|⟨hl0,ad,rfl,k5,k6⟩
      ·obtain ⟨q1,q2,q3⟩:=hq _ cap rfl
       have hb:=a3N (P:=P) (isS:=true) (len:=len) (cap:=cap) L H q2 c1 hm q1 w
       refine ⟨.slice (if m=l then some ⟨lc.b,lc.d+off,none⟩ else some ⟨lc.b,lc.d+(off+l*sz'),none⟩) (hh'-l) (m-l),?_,?_⟩
       ·simp only[Instr.sliceAt,Instr.slice,Sem.run_bind,run_underlying hu,Result.andThen_ok,hb,q4_ hsz,Sem.run_pure,Option.map_some,b0Q,Nat.add_assoc]
       ·by_cases hml:m=l
        ·rw[if_pos hml,show hh'-l=0 by omega,show m-l=0 by omega]
         exact .sl0 (λ_=>⟨lc,hlc,oM⟩) (λc q=>by have:=q3 c q; omega)
        ·rw[if_neg hml]
         have e1:=hsub hh' c1
         have e2:=hsub m oM
         have e3:hh'*sz'<=len*sz':=Nat.mul_le_mul_right _ c2
         have e4:m*sz'<=cap*sz':=Nat.mul_le_mul_right _ q1
         exact .sl hlc oM oM oM oM (λc q=>(q3 c q).symm)
      ·subst hl0
       obtain ⟨q1,q2,q3⟩:=hq _ 0 rfl
       have hb:=a3N (P:=P) (isS:=true) (len:=0) (cap:=0) L H q2 c1 hm q1 w
       have hm0:m=0:=oM
       have hl0:l=0:=oM
       have hh0:hh'=0:=oM
       subst hm0 hl0 hh0
       refine ⟨.slice (some ad) 0 0,?_,?_⟩
       ·simp only[Instr.sliceAt,Instr.slice,Sem.run_bind,run_underlying hu,Result.andThen_ok,hb,q4_ hsz,Sem.run_pure,if_true,Nat.sub_self]
       ·exact .sl0 (λq=>by
         obtain ⟨lc,hlc,ho⟩:=k6 (hlm q)
         exact ⟨lc,hlc,oM⟩) (λc q=>by have:=q3 c q; omega)
     cases mx with
     |none=>
      simp only at hv
      injection hv with hv
      subst hv
      rcases hform with ⟨lc,hlc,hoff,cap,rfl,k1,k2,k3,k4,k5⟩|⟨hl0,ad,rfl,k5,k6⟩
      ·exact fin cap _ oM (λq cap' e=>by
        injection e with _ _ e; subst e
        exact ⟨Nat.le_refl _,.inl ⟨hmxn rfl,rfl⟩,λc q=>by
         cases lim with
         |none=>cases q
         |some c0=>simp only[Option.map_some,Option.some.injEq] at q; rw[<-k5 c0 rfl] at q; exact q.symm⟩) (λq=>by cases lim<;>first|rfl|cases q)
      ·subst hl0
       exact fin 0 _ oM (λq cap' e=>by
        injection e with _ _ e; subst e
        exact ⟨Nat.le_refl _,.inl ⟨hmxn rfl,rfl⟩,λc q=>by
         cases lim with
         |none=>cases q
         |some c0=>simp only[Option.map_some,Option.some.injEq] at q; have:=k5 c0 rfl; omega⟩) (λq=>by cases lim<;>first|rfl|cases q)
     |some my=>
      simp only at hv
      cases hm:bnd 0 (some my) with
      |none=>rw[hm] at hv; cases hv
      |some m=>
       rw[hm] at hv
       simp only at hv
       split at hv
       ·rename_i hc2
        injection hv with hv
        subst hv
        have M:=a4o hmx hmxn hm
        have M':∃k,mx'=some (.int k m):=by
         rcases M with ⟨e,_⟩|q
         ·obtain ⟨z,e2,_⟩:=hmx my rfl; rw[e] at e2; cases e2
         ·exact q
        refine fin m _ hc2.1 (λq cap' e=>?_) (λq=>by cases q)
        have hlen:len<=cap':=by
         rcases hform with ⟨lc,hlc,hoff,cap,rfl,k1,k2,k3,k4,k5⟩|⟨hl0,ad,rfl,k5,k6⟩
         ·injection e with _ _ e; subst e; exact k2
         ·omega
        exact ⟨oM,.inr ⟨M',hine rfl⟩,λc q=>by injection q with q; exact q.symm⟩
       ·cases hv
    ·cases hv
 |nils=>
  cases hx
  simp only[slSl] at hv
  split at hv
  ·rename_i e1 e2 e3
   injection hv with hv
   subst hv
   have L:=a4o hlo hlon e1
   have H:=a4o hhi hhin e2
   have M:=a4o hmx hmxn e3
   have hb:=a3N (P:=P) (isS:=true) (len:=0) (cap:=0) (lo:=lo') (hi:=hi') (mx:=mx') L H (by
    rcases M with q|q
    ·exact .inl q
    ·refine .inr ⟨q,hine ?_⟩
     cases mx with
     |none=>obtain ⟨k,q⟩:=q; rw[hmxn rfl] at q; cases q
     |some _=>rfl) (Nat.le_refl _) (Nat.le_refl _) (Nat.le_refl _) w
   exact ⟨.slice none 0 0,by simp only[Instr.sliceAt,Instr.slice,Sem.run_bind,run_underlying hu,Result.andThen_ok,hb,q4_ hsz,Sem.run_pure,if_true,Nat.sub_self],.nils⟩
  ·cases hv
 |_=>simp[slSl] at hv
theorem b7f (hu:P.underlying t=some .string)(hx:VR φ x x'){lo hi:Option AV}{lo' hi':Option Value}(hlo:∀y,lo=some y->∃z,lo'=some z/\VR φ y z)(hlon:lo=none->lo'=none)(hhi:∀y,hi=some y->∃z,hi'=some z/\VR φ y z)(hhin:hi=none->hi'=none)(hv:slStr x lo hi=some v)(w:World):∃v',(Instr.sliceAt t x' lo' hi' none).run P w=.ok v' w/\VR φ v v':=by
 cases x with
 |str s=>
  cases hx
  simp only[slStr] at hv
  cases hl:bnd 0 lo with
  |none=>rw[hl] at hv; cases hv
  |some l=>
   cases hh:bnd s.size hi with
   |none=>rw[hl,hh] at hv; cases hv
   |some r=>
    rw[hl,hh] at hv
    simp only at hv
    split at hv
    ·rename_i hc
     injection hv with hv
     subst hv
     have hb:=a3N (P:=P) (isS:=false) (len:=s.size) (cap:=s.size) (mx:=none) (a4o hlo hlon hl) (a4o hhi hhin hh) (.inl ⟨rfl,rfl⟩) hc.1 hc.2 (Nat.le_refl _) w
     exact ⟨_,by simp only[Instr.sliceAt,Instr.slice,Sem.run_bind,run_underlying hu,Result.andThen_ok,hb,Option.isSome_none,Bool.false_eq_true,if_false,Sem.run_pure],.str _⟩
    ·cases hv
 |_=>simp[slStr] at hv
end
end Go.Gm
namespace Go.Gm
open Go.RowKit Go.Maps
theorem b2m {α β:Type}{f:α->Option β}:∀(l:List α),(∀x∈l,∃y,f x=some y)->∃ys,l.mapM f=some ys
 |[],_=>⟨[],rfl⟩
 |x::r,h=>by
  obtain ⟨y,hy⟩:=h x (by simp)
  obtain ⟨ys,hys⟩:=b2m r (λz hz=>h z (by simp[hz]))
  exact ⟨y::ys,by rw[List.mapM_cons,hy,hys]; rfl⟩
section
variable {φ:Ren} {P:Program}
theorem b3F:∀{cs:List KC} {vs:List AV},fitL cs vs=true->cs.length=vs.length
 |[],[],_=>rfl
 |c::cs,v::vs,h=>by simp only[fitL,Bool.and_eq_true] at h; simp[b3F h.2]
 |[],_::_,h=>by cases h
 |_::_,[],h=>by cases h
theorem b3G:∀{cs:List KC} {vs:List AV},fitL cs vs=true->∀{i:Nat} {c:KC} {v:AV},cs[i]?=some c->vs[i]?=some v->fitC c v=true
 |[],[],_,i,c,v,h,_=>by simp at h
 |c::cs,v::vs,h,0,c',v',h1,h2=>by
  simp only[fitL,Bool.and_eq_true] at h
  simp only[List.getElem?_cons_zero,Option.some.injEq] at h1 h2
  subst h1 h2; exact h.1
 |c::cs,v::vs,h,i+1,c',v',h1,h2=>by
  simp only[fitL,Bool.and_eq_true] at h
  exact b3G h.2 (by simpa using h1) (by simpa using h2)
 |[],_::_,h,_,_,_,_,_=>by cases h
 |_::_,[],h,_,_,_,_,_=>by cases h
theorem a1y (h:fitC c x=true):(∃q n,c=.i q/\x=.int q n/\q.min<=n/\n<=q.max)\/(∃s,c=.s/\x=.str s/\s.size<=maxLen)\/∃b,c=.b/\x=.bool b:=by
 unfold fitC at h
 split at h
 ·simp only[Bool.and_eq_true,decide_eq_true_eq] at h
  obtain ⟨rfl,h1,h2⟩:=h
  exact .inl ⟨_,_,rfl,rfl,h1,h2⟩
 ·simp only[decide_eq_true_eq] at h
  exact .inr (.inl ⟨_,rfl,rfl,Nat.le_trans h (by decide)⟩)
 ·exact .inr (.inr ⟨_,rfl,rfl⟩)
 ·cases h
theorem b6S (h:fitC c x=true)(k:fitC d y=true):AV.beq x y=true↔x=y:=by
 rcases a1y h with ⟨q,n,_,rfl,_⟩|⟨s,_,rfl,_⟩|⟨b,_,rfl⟩<;>rcases a1y k with ⟨q',n',_,rfl,_⟩|⟨s',_,rfl,_⟩|⟨b',_,rfl⟩<;>simp[AV.beq]
theorem b6T:∀{cs ds:List KC} {x y:List AV},fitL cs x=true->fitL ds y=true->(AV.beqs x y=true↔x=y)
 |[],[],[],[],_,_=>by simp[AV.beqs]
 |[],d::ds,[],y::ys,_,_=>by simp[AV.beqs]
 |c::cs,[],x::xs,[],_,_=>by simp[AV.beqs]
 |c::cs,d::ds,x::xs,y::ys,h,k=>by
  simp only[fitL,Bool.and_eq_true] at h k
  simp[AV.beqs,b6S h.1 k.1,b6T h.2 k.2]
 |[],_,_::_,_,h,_=>by cases h
 |_::_,_,[],_,h,_=>by cases h
 |_,[],_,_::_,_,h=>by cases h
 |_,_::_,_,[],_,h=>by cases h
theorem b3H (h:fitK ks x=true)(k:fitK ks y=true):AV.beq x y=true↔x=y:=by
 cases ks with
 |one c=>exact b6S (by simpa [fitK] using h) (by simpa [fitK] using k)
 |row cs=>
  cases x<;>simp only[fitK] at h<;>try (cases h; done)
  cases y<;>simp only[fitK] at k<;>try (cases k; done)
  simp[AV.beq,b6T h k]
theorem b6U (h:fitC c x=true)(k:fitC d y=true)(hu:VR φ x u)(hv:VR φ y v):u=v↔x=y:=by
 rcases a1y h with ⟨q,n,_,rfl,_⟩|⟨s,_,rfl,_⟩|⟨b,_,rfl⟩<;>rcases a1y k with ⟨q',n',_,rfl,_⟩|⟨s',_,rfl,_⟩|⟨b',_,rfl⟩<;>cases hu<;>cases hv<;>simp
theorem b6V:∀{cs ds:List KC} {x y:List AV} {u v:List Value},fitL cs x=true->fitL ds y=true->VRs φ x u->VRs φ y v->(u=v↔x=y)
 |[],[],[],[],_,_,_,_,.nil,.nil=>by simp
 |[],d::ds,[],y::ys,_,_,_,_,.nil,.cons _ _=>by simp
 |c::cs,[],x::xs,[],_,_,_,_,.cons _ _,.nil=>by simp
 |c::cs,d::ds,x::xs,y::ys,_,_,h,k,.cons a b,.cons a' b'=>by
  simp only[fitL,Bool.and_eq_true] at h k
  simp[b6U h.1 k.1 a a',b6V h.2 k.2 b b']
 |[],_,_::_,_,_,_,h,_,_,_=>by cases h
 |_::_,_,[],_,_,_,h,_,_,_=>by cases h
 |_,[],_,_::_,_,_,_,h,_,_=>by cases h
 |_,_::_,_,[],_,_,_,h,_,_=>by cases h
theorem b6W (h:fitK ks x=true)(k:fitK ks y=true)(hu:VR φ x u)(hv:VR φ y v):u=v↔x=y:=by
 cases ks with
 |one c=>exact b6U (by simpa [fitK] using h) (by simpa [fitK] using k) hu hv
 |row cs=>
  cases x<;>simp only[fitK] at h<;>try (cases h; done)
  cases y<;>simp only[fitK] at k<;>try (cases k; done)
  cases hu with
  |agg a=>
   cases hv with
   |agg b=>simp[b6V h k a b]
theorem plainLit (hc:keyC P t=some c)(hf:fitC c x=true)(hv:VR φ x v)(d:Nat):∃l,P.keyLits (d+1) t [v]=some l:=by
 unfold keyC at hc
 rcases a1y hf with ⟨q,n,rfl,rfl,h1,h2⟩|⟨s,rfl,rfl,h1⟩|⟨b,rfl,rfl⟩<;>cases hv<;>split at hc<;>simp only[Option.some.injEq,KC.i.injEq,reduceCtorEq] at hc
 ·subst hc
  rename_i hu
  exact ⟨_,by simp[Program.keyLits,hu,Lit.wf,h1,h2]; rfl⟩
 ·rename_i hu
  exact ⟨_,by simp[Program.keyLits,hu,h1]; rfl⟩
 ·rename_i hu
  exact ⟨_,by simp[Program.keyLits,hu]; rfl⟩
theorem plainKeyed (hc:keyC P t=some c):Keyed P t/\∀{x:AV} {v:Value},fitC c x=true->VR φ x v->∃l,keyOf P t v=some l:=by
 unfold keyC at hc
 split at hc<;>simp only[Option.some.injEq,reduceCtorEq] at hc<;>subst hc<;>rename_i hu
 ·refine ⟨int_keyed hu,λhf hv=>?_⟩
  rcases a1y hf with ⟨q,n,e,rfl,h1,h2⟩|⟨s,e,rfl,h1⟩|⟨b,e,rfl⟩<;>cases e
  cases hv
  exact ⟨_,keyOf_int_mk hu (by simp[Lit.wf,h1,h2])⟩
 ·refine ⟨string_keyed hu,λhf hv=>?_⟩
  rcases a1y hf with ⟨q,n,e,rfl,h1,h2⟩|⟨s,e,rfl,h1⟩|⟨b,e,rfl⟩<;>cases e
  cases hv
  exact ⟨_,WideMaps.keyOf_string_mk hu h1⟩
 ·refine ⟨bool_keyed hu,λhf hv=>?_⟩
  rcases a1y hf with ⟨q,n,e,rfl,h1,h2⟩|⟨s,e,rfl,h1⟩|⟨b,e,rfl⟩<;>cases e
  cases hv
  exact ⟨_,keyOf_bool_mk hu _⟩
theorem b5m:∀{fs:List Field} {i:Nat} {cs:List KC},keyFs P i fs=some cs→cs.length=fs.length∧∀j f,fs[j]?=some f→∃c,cs[j]?=some c∧keyC P f.type=some c∧f.offset=i+j∧P.cellsOf f.type=1∧(f.name != "_")=true
 |[],i,cs,h=>by injection h with h; subst h; exact ⟨rfl,λj f q=>by simp at q⟩
 |f::r,i,cs,h=>by
  simp only[keyFs,Option.bind_eq_some_iff] at h
  obtain ⟨c,h1,h2⟩:=h
  split at h2
  ·rename_i hc
   simp only[Option.map_eq_some_iff] at h2
   obtain ⟨cs',h3,rfl⟩:=h2
   obtain ⟨k1,k2⟩:=b5m h3
   refine ⟨by simp[k1],λj g hg=>?_⟩
   cases j with
   |zero=>
    simp only[List.getElem?_cons_zero,Option.some.injEq] at hg
    subst hg
    exact ⟨c,by simp,h1,by simpa using hc.1,hc.2.1,hc.2.2⟩
   |succ j=>
    obtain ⟨c',m1,m2,m3,m4⟩:=k2 j g (by simpa using hg)
    exact ⟨c',by simpa using m1,m2,oM,m4⟩
  ·cases h2
theorem b8i {us:List Value}{i:Nat}(h:us[i]?=some u):(us.drop i).take 1=[u]:=by
 obtain ⟨hi,e⟩:=List.getElem?_eq_some_iff.1 h
 rw[List.drop_eq_getElem_cons hi]
 simp[e]
theorem wideKeyed (hw:keyWide P t=true)(hd:(match P.underlying t with|some (.array _ _)|some (.struct _)=>true|_=>false)=true):Keyed P t:=by
 simp only[keyWide,Bool.and_eq_true,decide_eq_true_eq] at hw
 exact Keyed.of_law (deep_law (m:=P.types.size+1) oM hw.1.2 hw.2 hd)
theorem b0l (h:keyShape P t=some ks):Keyed P t/\∀{x:AV} {v:Value},fitK ks x=true->VR φ x v->∃l,keyOf P t v=some l:=by
 unfold keyShape at h
 split at h
 ·rename_i n e hu
  split at h
  ·rename_i hc
   obtain ⟨hw,hn,he⟩:=hc
   simp only[Option.map_eq_some_iff] at h
   obtain ⟨c,hkc,rfl⟩:=h
   refine ⟨wideKeyed hw (by simp[hu]),fun {x v} hf hv=>?_⟩
   simp only[keyWide,Bool.and_eq_true,decide_eq_true_eq] at hw
   obtain ⟨⟨⟨h1,h2⟩,h3⟩,h4⟩:=hw
   obtain ⟨d,hd⟩:∃d,P.types.size=d+1:=⟨P.types.size-1,oM⟩
   cases x<;>simp only[fitK] at hf<;>try (cases hf; done)
   rename_i cs
   cases hv
   rename_i us hus
   have hl:=b3F hf
   rw[List.length_replicate] at hl
   have hl2:=hus.length
   have hm:∃ls,P.keyLits (P.types.size+1) t us=some ls:=by
    obtain ⟨ys,hys⟩:=b2m (f:=λi=>P.keyLits (d+1) e ((us.drop (i*P.cellsOf e)).take (P.cellsOf e))) (List.range n) (λi hi=>by
     have hi':=List.mem_range.1 hi
     obtain ⟨u,hu1,hu2⟩:=hus.get (i:=i) (x:=cs[i]'oM) (List.getElem?_eq_getElem oM)
     rw[he,Nat.mul_one,b8i hu1]
     exact plainLit hkc (b3G hf (i:=i) (c:=c) (by rw[List.getElem?_replicate,if_pos hi']) (List.getElem?_eq_getElem oM)) hu2 d)
    refine ⟨ys.flatten,?_⟩
    rw[hd]
    unfold Program.keyLits
    try simp only[hu]
    rw[if_pos (by rw[hn]; omega)]
    simp only[hys,Option.map_some]
   obtain ⟨ls,hls⟩:=hm
   refine ⟨.string (keyBytes ls),?_⟩
   ·unfold keyOf
    simp only[hu,Program.keyType,h3,Value.formed,Value.cells,hls,Option.map_some,hn,Bool.true_and,List.size_toArray]
    rw[if_pos (by simp; omega)]
  ·cases h
 ·rename_i fs hu
  split at h
  ·rename_i hc
   obtain ⟨hw,hn⟩:=hc
   simp only[Option.map_eq_some_iff] at h
   obtain ⟨cc,hkc,rfl⟩:=h
   obtain ⟨g1,g2⟩:=b5m hkc
   refine ⟨wideKeyed hw (by simp[hu]),fun {x v} hf hv=>?_⟩
   simp only[keyWide,Bool.and_eq_true,decide_eq_true_eq] at hw
   obtain ⟨⟨⟨h1,h2⟩,h3⟩,h4⟩:=hw
   obtain ⟨d,hd⟩:∃d,P.types.size=d+1:=⟨P.types.size-1,oM⟩
   cases x<;>simp only[fitK] at hf<;>try (cases hf; done)
   rename_i cs
   cases hv
   rename_i us hus
   have hl:=b3F hf
   have hl2:=hus.length
   have hsz:fs.toList.length=fs.size:=by simp
   have hm:∃ls,P.keyLits (P.types.size+1) t us=some ls:=by
    obtain ⟨ys,hys⟩:=b2m (f:=λf:Field=>P.keyLits (d+1) f.type ((us.drop f.offset).take (P.cellsOf f.type))) fs.toList (λf hi=>by
     obtain ⟨j,hj⟩:=List.mem_iff_getElem?.1 hi
     obtain ⟨c,m1,m2,m3,m4,m5⟩:=g2 j f hj
     have hjl:=(List.getElem?_eq_some_iff.1 hj).1
     obtain ⟨u,hu1,hu2⟩:=hus.get (i:=j) (x:=cs[j]'oM) (List.getElem?_eq_getElem oM)
     rw[m4,m3,Nat.zero_add,b8i hu1]
     exact plainLit m2 (b3G hf m1 (List.getElem?_eq_getElem oM)) hu2 d)
    refine ⟨ys.flatten,?_⟩
    rw[hd]
    unfold Program.keyLits
    try simp only[hu]
    rw[if_pos ⟨by rw[hn]; omega,by
     rw[<-Array.all_toList,List.all_eq_true]
     intro f hi
     obtain ⟨j,hj⟩:=List.mem_iff_getElem?.1 hi
     obtain ⟨c,m1,m2,m3,m4,m5⟩:=g2 j f hj
     exact m5⟩]
    simp only[hys,Option.map_some]
   obtain ⟨ls,hls⟩:=hm
   refine ⟨.string (keyBytes ls),?_⟩
   ·unfold keyOf
    simp only[hu,Program.keyType,h3,Value.formed,Value.cells,hls,Option.map_some,hn,Bool.true_and,List.size_toArray]
    rw[if_pos (by simp; omega)]
  ·cases h
 ·simp only[Option.map_eq_some_iff] at h
  obtain ⟨c,hkc,rfl⟩:=h
  obtain ⟨k1,k2⟩:=plainKeyed (φ:=φ) hkc
  exact ⟨k1,λhf hv=>k2 (by simpa [fitK] using hf) hv⟩
theorem ERs.length:∀{es:List (AV × AV)} {es':List MapEntry},ERs φ ks es es'->es.length=es'.length
 |_,_,.nil=>rfl
 |_,_,.cons _ _ _ _ r=>by simp[r.length]
theorem ERs.get:∀{es:List (AV × AV)} {es':List MapEntry},ERs φ ks es es'->∀{j:Nat} {e:MapEntry},es'[j]?=some e->∃k v,es[j]?=some (k,v)/\fitK ks k=true/\VR φ k e.key/\VR φ v e.val
 |_,_,.nil,j,e,h=>by simp at h
 |_,_,.cons f n a b r,0,e,h=>by
  simp only[List.getElem?_cons_zero,Option.some.injEq] at h
  subst h
  exact ⟨_,_,rfl,f,a,b⟩
 |_,_,.cons f n a b r,j+1,e,h=>by
  obtain ⟨k,v,h1,h2⟩:=r.get (j:=j) (by simpa using h)
  exact ⟨k,v,by simpa using h1,h2⟩
theorem ERs.get' (h:ERs φ ks es es'){p:AV × AV}(hp:p∈es):∃(j:Nat) (e:MapEntry),es'[j]?=some e/\es[j]?=some p/\fitK ks p.1=true/\VR φ p.1 e.key:=by
 obtain ⟨j,hj⟩:=List.mem_iff_getElem?.1 hp
 have hjl:=(List.getElem?_eq_some_iff.1 hj).1
 have hl:=h.length
 obtain ⟨k,v,h1,h2,h3,_⟩:=h.get (j:=j) (e:=es'[j]'oM) (List.getElem?_eq_getElem oM)
 rw[hj] at h1
 injection h1 with h1
 subst h1
 exact ⟨j,_,List.getElem?_eq_getElem oM,hj,h2,h3⟩
theorem ERs.push {e:MapEntry}(hk:fitK ks k=true)(h1:VR φ k e.key)(h2:VR φ v e.val):∀{es:List (AV × AV)} {es':List MapEntry},ERs φ ks es es'->(∀p∈es,p.1≠k)->ERs φ ks (es++[(k,v)]) (es'++[e])
 |_,_,.nil,_=>.cons hk (by simp) h1 h2 .nil
 |_,_,.cons f n a b r,h=>.cons f (λp hp=>by
   rcases List.mem_append.1 hp with hp|hp
   ·exact n p hp
   ·have:=List.mem_singleton.1 hp
    subst this
    exact λq=>h _ (List.mem_cons_self ..) q.symm) a b (r.push hk h1 h2 λp hp=>h p (by simp[hp]))
theorem ERs.set {e:MapEntry}(h1:VR φ k e.key)(h2:VR φ v e.val):∀{es:List (AV × AV)} {es':List MapEntry},ERs φ ks es es'->∀{j:Nat} {v0:AV},es[j]?=some (k,v0)->ERs φ ks (es.set j (k,v)) (es'.set j e)
 |_,_,.nil,j,v0,h=>by simp at h
 |_,_,.cons f n a b r,0,v0,h=>by
  simp only[List.getElem?_cons_zero,Option.some.injEq,Prod.mk.injEq] at h
  obtain ⟨rfl,rfl⟩:=h
  exact .cons f n h1 h2 r
 |_,_,.cons f n a b r,j+1,v0,h=>by
  have h':=(List.getElem?_cons_succ▸h)
  refine .cons f (λp hp=>?_) a b (r.set h1 h2 h')
  rcases List.mem_or_eq_of_mem_set hp with hp|rfl
  ·exact n p hp
  ·exact n (k,v0) (List.mem_of_getElem? h')
theorem b4h (hk:fitK ks k=true):∀{es:List (AV × AV)},(∀p∈es,fitK ks p.1=true)->(∀p∈es,p.1≠k)->findV k es=none/\∀v,putE k v es=es++[(k,v)]
 |[],_,_=>⟨rfl,λ_=>rfl⟩
 |(k',v')::r,h1,h2=>by
  obtain ⟨i1,i2⟩:=b4h hk (es:=r) (λp hp=>h1 p (by simp[hp])) (λp hp=>h2 p (by simp[hp]))
  have hb:AV.beq k k'=false:=by
   cases hq:AV.beq k k' with
   |false=>rfl
   |true=>exact absurd ((b3H hk (h1 (k',v') (by simp))).1 hq).symm (h2 (k',v') (by simp))
  exact ⟨by simp[findV,hb,i1],λv=>by simp[putE,hb,i2]⟩
theorem b6X (hk:fitK ks k=true):∀{es:List (AV × AV)} {es':List MapEntry},ERs φ ks es es'->∀{j:Nat} {v:AV},es[j]?=some (k,v)->findV k es=some v/\∀u,putE k u es=es.set j (k,u)
 |_,_,.nil,j,v,h=>by simp at h
 |_,_,.cons f n a b r,0,v,h=>by
  simp only[List.getElem?_cons_zero,Option.some.injEq,Prod.mk.injEq] at h
  obtain ⟨rfl,rfl⟩:=h
  have hb:=(b3H hk hk).2 rfl
  exact ⟨by simp[findV,hb],λu=>by simp[putE,hb]⟩
 |_,_,.cons (k:=k') f n a b r,j+1,v,h=>by
  have h':=(List.getElem?_cons_succ▸h)
  obtain ⟨i1,i2⟩:=b6X hk r h'
  have hb:AV.beq k k'=false:=by
   cases hq:AV.beq k k' with
   |false=>rfl
   |true=>exact absurd ((b3H hk f).1 hq) (n _ (List.mem_of_getElem? h'))
  exact ⟨by simp[findV,hb,i1],λu=>by simp[putE,hb,i2]⟩
theorem b8j (hks:keyShape P t=some ks)(hE:ERs φ ks es es')(hk:fitK ks k=true)(hv:VR φ k kv)(w:World) :
  ((Instr.findKey t kv es').run P w=.ok none w/\findV k es=none/\(∀p∈es,p.1≠k)/\∀u,putE k u es=es++[(k,u)])\/
  ∃j e v,(Instr.findKey t kv es').run P w=.ok (some (j,e.val)) w/\es'[j]?=some e/\e.key=kv/\es[j]?=some (k,v)/\VR φ v e.val/\findV k es=some v/\∀u,putE k u es=es.set j (k,u):=by
 obtain ⟨K,hread⟩:=b0l (φ:=φ) hks
 obtain ⟨l,hl⟩:=hread hk hv
 have hall:∀e∈es',∃l,keyOf P t e.key=some l:=λe he=>by
  obtain ⟨j,hj⟩:=List.mem_iff_getElem?.1 he
  obtain ⟨k',v',_,h2,h3,_⟩:=hE.get hj
  exact hread h2 h3
 rcases K.find w hl es' hall with ⟨h1,h2⟩|⟨j,e,h1,h2,h3⟩
 ·have hne:∀p∈es,p.1≠k:=λp hp q=>by
   obtain ⟨j,e,m1,m2,m3,m4⟩:=hE.get' hp
   exact h2 e (List.mem_of_getElem? m1) ((b6W m3 hk m4 hv).2 q)
  obtain ⟨i1,i2⟩:=b4h hk (es:=es) (λp hp=>by obtain ⟨_,_,_,_,m3,_⟩:=hE.get' hp; exact m3) hne
  exact .inl ⟨h1,i1,hne,i2⟩
 ·obtain ⟨k',v',m1,m2,m3,m4⟩:=hE.get h2
  have hkk:k'=k:=(b6W m2 hk m3 hv).1 h3
  subst hkk
  obtain ⟨i1,i2⟩:=b6X hk hE m1
  exact .inr ⟨j,e,v',h1,h2,h3,m1,m4,i1,i2⟩
variable {B:Nat} {w0:World} {h h':Heap} {w:World}
theorem c2y (hs:S B w0 φ h w)(hu:P.underlying t=some (.map kt et))(hks:keyShape P kt=some ks)(hz:∀w,(zeroValue et).run P w=.ok zv w)(hzr:VR φ z zv)(hx:VR φ x x')(hk:VR φ k k')(hv:lookM ks z ok h x k=some v):∃v',(Instr.lookup t x' k' ok).run P w=.ok v' w/\VR φ v v':=by
 obtain ⟨K,hread⟩:=b0l (φ:=φ) hks
 have tell0:VR φ (told ok z none) (if ok then .tuple #[zv,.bool false] else zv):=by
  cases ok
  ·exact hzr
  ·exact .tup (cs':=[_,_]) (.cons hzr (.cons (.bool _) .nil))
 unfold lookM at hv
 split at hv
 ·rename_i hf
  obtain ⟨l,hl⟩:=hread hf hk
  split at hv
  ·injection hv with hv
   subst hv
   cases hx
   refine ⟨_,?_,tell0⟩
   have hfd:=K.find w hl [] (by simp)
   rcases hfd with ⟨h1,_⟩|⟨j,e,_,h2,_⟩
   ·simp[Instr.lookup,run_underlying hu,K.check w _ hl,h1,hz,Result.andThen]
   ·simp at h2
  ·rename_i o
   cases hx
   rename_i b hb
   obtain ⟨ks0,es,g1,g2,es',clk,g3,g4⟩:=hs.wr.map _ _ hb
   rw[g1] at hv
   simp only at hv
   split at hv
   ·rename_i hkk
    subst hkk
    injection hv with hv
    subst hv
    rcases b8j hks g4 hf hk w with ⟨h1,h2,_⟩|⟨j,e,v',h1,h2,h3,h4,h5,h6,_⟩
    ·refine ⟨_,?_,by rw[h2]; exact tell0⟩
     simp[Instr.lookup,run_underlying hu,MapKept.run_getObj_map g3,K.check w _ hl,h1,hz,Result.andThen]
    ·refine ⟨if ok then .tuple #[e.val,.bool true] else e.val,?_,?_⟩
     ·simp[Instr.lookup,run_underlying hu,MapKept.run_getObj_map g3,K.check w _ hl,h1,Result.andThen]
     ·rw[h6]
      cases ok
      ·exact h5
      ·exact .tup (cs':=[_,_]) (.cons h5 (.cons (.bool _) .nil))
   ·cases hv
  ·cases hv
 ·cases hv
theorem S.setMap (hs:S B w0 φ h w)(hm:φ.m o=some b)(ho:h[o]?=some (.map ks es)){es' es2':Array MapEntry}{clk clk2:Nat}(hb:w.heap[b]?=some (.map es' clk))(hBb:B<=b)(hE:ERs φ ks' es2 es2'.toList) :
  S B w0 φ (h.set o (.map ks' es2)) { w with heap:=w.heap.setIfInBounds b (.map es2' clk2) }/\Kept φ h φ (h.set o (.map ks' es2)):=by
 have hol:=(List.getElem?_eq_some_iff.1 ho).1
 have hbl:=b0T hb
 have heapSet:∀o',o'≠o->(h.set o (.map ks' es2))[o']?=h[o']?:=λo' hne=>by rw[List.getElem?_set_ne (Ne.symm hne)]
 have heapO:(h.set o (.map ks' es2))[o]?=some (.map ks' es2):=by rw[List.getElem?_set_self hol]
 have blk:∀k,k≠b->(w.heap.setIfInBounds b (.map es2' clk2))[k]?=w.heap[k]?:=λk hk=>by
  rw[Array.getElem?_setIfInBounds_ne (Ne.symm hk)]
 have here:(w.heap.setIfInBounds b (.map es2' clk2))[b]?=some (.map es2' clk2):=by
  rw[Array.getElem?_setIfInBounds_self_of_lt hbl]
 have ro1:∀o',isRo (h.set o (.map ks' es2)) o'=isRo h o':=λo'=>by
  by_cases hoo:o'=o
  ·subst hoo; simp[isRo,heapO,ho]
  ·simp[isRo,heapSet _ hoo]
 refine ⟨⟨⟨λo' g' l' hl'=>?_,λo' b' hb'=>?_,λo1 g1 l1 o2 g2 l2 e1 e2 e3=>?_,hs.wr.msep⟩,hs.below.trans ⟨rfl,rfl,rfl,by simp,λk hk=>blk k oM⟩,by simpa using hs.base⟩,.refl _,by simp,λo' ho' hc hm'=>⟨hc,hm',heapSet _ (by rintro rfl; rw[hm] at hm'; cases hm')⟩⟩
 ·obtain ⟨c,h2,h3⟩:=hs.wr.cell o' g' l' hl'
  have hne:o'≠o:=by rintro rfl; rw[ho] at h2; cases h2
  have hbb:l'.b≠b:=by
   intro q
   obtain ⟨C,e,fr,a,_⟩:=h3.blk
   rw[q,hb] at a; cases a
  exact ⟨c,(heapSet _ hne).trans h2,h3.move (blk _ hbb)⟩
 ·by_cases hoo:o'=o
  ·subst hoo
   rw[hm] at hb'
   injection hb' with hb'
   subst hb'
   exact ⟨ks',es2,heapO,hBb,es2',clk2,here,hE⟩
  ·obtain ⟨k0,e0,h2,h3,e0',c0,h4,h5⟩:=hs.wr.map o' b' hb'
   have hbb:b'≠b:=λq=>hoo (hs.wr.msep _ _ _ _ hb' hm q)
   exact ⟨k0,e0,(heapSet _ hoo).trans h2,h3,e0',c0,(blk _ hbb).trans h4,h5⟩
 ·rw[ro1,ro1]
  exact hs.wr.sep _ _ _ _ _ _ e1 e2 e3
theorem b8k (hs:S B w0 φ h w)(hu:P.underlying t=some (.map kt et))(hks:keyShape P kt=some ks)(hx:VR φ x x')(hk:VR φ k k')(hv:VR φ v v')(he:updM ks h x k v=some h'):∃w',(Instr.mapUpdate t x' k' v').run P w=.ok () w'/\S B w0 φ h' w'/\Kept φ h φ h':=by
 obtain ⟨K,hread⟩:=b0l (φ:=φ) hks
 unfold updM at he
 split at he
 ·rename_i hf
  obtain ⟨l,hl⟩:=hread hf hk
  split at he
  ·rename_i o
   cases hx
   rename_i b hb
   obtain ⟨ks0,es,g1,g2,es',clk,g3,g4⟩:=hs.wr.map _ _ hb
   rw[g1] at he
   simp only at he
   split at he
   ·rename_i hkk
    subst hkk
    injection he with he
    subst he
    rcases b8j hks g4 hf hk w with ⟨h1,h2,hne,hput⟩|⟨j,e,v0,h1,h2,h3,h4,h5,h6,hput⟩
    ·rw[hput]
     have hE:ERs φ ks0 (es++[(k,v)]) (es'.push ⟨k',v',clk⟩).toList:=by
      rw[Array.toList_push]
      exact g4.push (e:=⟨k',v',clk⟩) hf hk hv hne
     obtain ⟨s1,s2⟩:=hs.setMap (clk2:=clk+1) hb g1 g3 g2 hE
     refine ⟨_,?_,s1,s2⟩
     simp[Instr.mapUpdate,run_underlying hu,MapKept.run_getObj_map g3,K.check w false hl,h1,MapKept.run_setObj_map _ g3,Result.andThen]
    ·rw[hput]
     have hj:es'[j]?=some e:=by simpa using h2
     have hE:ERs φ ks0 (es.set j (k,v)) (es'.modify j (λe'=>{ e' with key:=k',val:=v' })).toList:=by
      rw[Array.toList_modify,ChangeMaps.modify_eq_set _ _ _ _ h2]
      exact g4.set (e:={ e with key:=k',val:=v' }) hk hv h4
     obtain ⟨s1,s2⟩:=hs.setMap (clk2:=clk) hb g1 g3 g2 hE
     refine ⟨_,?_,s1,s2⟩
     simp[Instr.mapUpdate,run_underlying hu,MapKept.run_getObj_map g3,K.check w false hl,h1,hj,h3,K.stays w hl,MapKept.run_setObj_map _ g3,Result.andThen]
   ·cases he
  ·cases he
 ·cases he
end
end Go.Gm
