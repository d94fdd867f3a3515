/- A part of the proof (GmLh, GmPr, GmTx, GmDj, GmRl, GmSb, GmNl, GmSl, GmNy, GmAQkb, GmAQta). -/
import Derived.Test.YtldnkafmanalmaaProductMoreP5
set_option linter.unusedVariables false
set_option linter.unusedSimpArgs false
set_option linter.unusedSectionVars false
namespace Go.Gm
theorem Pow.head {r:Nat->Nat->Prop}:∀{t i j:Nat},Pow r (t+1) i j↔∃m,r i m/\Pow r t m j
 |0,i,j=>by
  constructor
  ·rintro ⟨m,h,k⟩; cases h; exact ⟨j,k,rfl⟩
  ·rintro ⟨m,h,k⟩; cases k; exact ⟨i,rfl,h⟩
 |t+1,i,j=>by
  constructor
  ·rintro ⟨m,h,k⟩
   obtain ⟨p,h1,h2⟩:=(Pow.head (t:=t)).1 h
   exact ⟨p,h1,m,h2,k⟩
  ·rintro ⟨p,h1,m,h2,k⟩
   exact ⟨m,(Pow.head (t:=t)).2 ⟨p,h1,h2⟩,k⟩
theorem Star.imp {r r':Nat->Nat->Prop}(h:∀i j,r i j->r' i j){i j:Nat}(a:Star r i j):Star r' i j:=by
 induction a with
 |refl=>exact .refl _
 |tail _ b ih=>exact .tail ih (h _ _ b)
theorem Pow.imp {r r':Nat->Nat->Prop}(h:∀i j,r i j->r' i j):∀{t i j:Nat},Pow r t i j->Pow r' t i j
 |0,_,_,a=>a
 |t+1,_,_,⟨m,a,b⟩=>⟨m,Pow.imp h a,h _ _ b⟩
theorem a9e {n:Nd}{most:Nat}{p:List Int->Bool}(h:∀t,t<=most->∀w∈wl t,(In n w↔p w=true)):wordsN n most=((List.range (most+1)).flatMap wl).filter p:=by
 refine List.filter_congr fun w hw=>?_
 simp only[List.mem_flatMap,List.mem_range] at hw
 obtain ⟨t,h1,h2⟩:=hw
 have:=h t (by omega) w h2
 cases hp:p w with
 |true=>simp[this.2 hp]
 |false=>simp[show ¬In n w from fun q=>by rw[this.1 q] at hp; cases hp]
theorem a5Y {α:Type}(l:List Nat)(f:Nat->List α)(p:α->Bool):(l.flatMap f).filter p=l.flatMap fun t=>(f t).filter p:=by
 induction l with
 |nil=>rfl
 |cons a l ih=>simp[ih]
def bN (b:Bool):Nat:=if b then 1 else 0
def manyN (s:Nat):Nat:=bN (s.testBit 0)+bN (s.testBit 1)+bN (s.testBit 2)+bN (s.testBit 3)+bN (s.testBit 4)
def sel (p0 p1 p2 p3 p4:Bool)(c:Int):Bool:=if c=0 then p0 else if c=1 then p1 else if c=2 then p2 else if c=3 then p3 else p4
def selS (s:Nat)(c:Int):Bool:=sel (s.testBit 0) (s.testBit 1) (s.testBit 2) (s.testBit 3) (s.testBit 4) c
theorem a8v {s:Nat}{c:Int}(h0:0<=c)(h5:c<5):selS s c=s.testBit c.toNat:=by
 have:c=0\/c=1\/c=2\/c=3\/c=4:=by omega
 rcases this with rfl|rfl|rfl|rfl|rfl<;>rfl
def p1 (f:Int->Bool):List Int->Bool
 |[c]=>f c
 |_=>false
def p2 (f g:Int->Bool):List Int->Bool
 |[c,d]=>f c && g d
 |_=>false
theorem c1:∀p0 p1' p2' p3 p4:Bool,((wl 1).filter (p1 (sel p0 p1' p2' p3 p4))).length=bN p0+bN p1'+bN p2'+bN p3+bN p4:=by decide +kernel
theorem c2:∀p0 p1' p2' p3 p4 q0 q1 q2 q3 q4:Bool,((wl 2).filter (p2 (sel p0 p1' p2' p3 p4) (sel q0 q1 q2 q3 q4))).length=(bN p0+bN p1'+bN p2'+bN p3+bN p4)*(bN q0+bN q1+bN q2+bN q3+bN q4):=by decide +kernel
theorem a7Y {t:Nat}{p:List Int->Bool}(h:∀w:List Int,w.length=t->p w=false):(wl t).filter p=[]:=by
 rw[List.filter_eq_nil_iff]
 intro w hw
 rw[h w (a7q.1 hw).1]; simp
theorem p1_ne {f:Int->Bool}{t:Nat}(ht:t≠1)(w:List Int)(h:w.length=t):p1 f w=false:=by
 match w,h with
 |[],_=>rfl
 |[c],h=>simp at h; omega
 |_::_::_,_=>rfl
theorem In_p1 {s:Nat}{w:List Int}(hw:∀c∈w,0<=c/\c<5):In (.set s) w↔p1 (selS s) w=true:=by
 rw[b3g]
 constructor
 ·rintro ⟨c,rfl,h0,h5,hb⟩
  show selS s c=true
  rw[a8v h0 h5,hb]
 ·intro h
  match w,hw,h with
  |[c],hw,h=>
   have hc:=hw c (by simp)
   exact ⟨c,rfl,hc.1,hc.2,by rw[<-a8v hc.1 hc.2]; exact h⟩
theorem count_set {s most:Nat}(hm:most<=3):(wordsN (.set s) most).length=if most<1 then 0 else manyN s:=by
 rw[a9e (p:=p1 (selS s)) fun t _ w hw=>In_p1 (a7q.1 hw).2,a5Y]
 have h1:((wl 1).filter (p1 (selS s))).length=manyN s:=c1 ..
 have hn:∀t,t≠1->(wl t).filter (p1 (selS s))=[]:=fun t ht=>a7Y (p1_ne ht)
 have:most=0\/most=1\/most=2\/most=3:=by omega
 rcases this with rfl|rfl|rfl|rfl<;>simp[List.range_succ,hn,h1]
end Go.Gm
namespace Go.Gm
def bt (S:ByteArray)(p:Nat):Option Nat:=(S[p]?).map UInt8.toNat
def md (c:Nat):Option Nat:=if c=119 then some 0 else if c=98 then some 1 else if c=99 then some 2 else if c=102 then some 3 else if c=116 then some 4 else none
def clsF (S:ByteArray):Nat->Nat->Nat->Option (Nat × Nat)
 |0,_,_=>none
 |f+1,p,s=>match bt S p with
  |none=>none
  |some c=>if c=93/\0<s then some (s,p+1) else match md c with
   |none=>none
   |some m=>clsF S f (p+1) (s ||| 2 ^ m)
def dig (c:Option Nat):Option Nat:=match c with
 |some c=>if 48<=c/\c<=57 then some (c-48) else none
 |none=>none
def tms (S:ByteArray)(p:Nat):Option (Nat × Nat × Nat):=match dig (bt S p),dig (bt S (p+2)) with
 |some a,some b=>if bt S (p+1)=some 44/\bt S (p+3)=some 125/\a<=b then some (a,b,p+4) else none
 |_,_=>none
inductive PM where
 |at|pc|pcl (n:Nd)|jn|jnl (l:List Nd)|un|unl (l:List Nd)
def finJ:List Nd->Nd
 |[n]=>n
 |l=>.join l
def finU:List Nd->Nd
 |[n]=>n
 |l=>.uni l
def prs (S:ByteArray):Nat->Nat->PM->Nat->Option (Nd × Nat)
 |0,_,_,_=>none
 |f+1,d,.at,p=>match bt S p with
  |none=>none
  |some c=>
   if c=40 then
    if 30<=d then none else match prs S f (d+1) .un (p+1) with
     |some (n,q)=>if bt S q=some 41 then some (n,q+1) else none
     |none=>none
   else match md c with
    |some m=>some (.set (2 ^ m),p+1)
    |none=>if c=46 then some (.set 31,p+1) else if c=48 then some (.emp,p+1) else if c=95 then some (.eps,p+1)
     else if c=91 then (match clsF S f (p+1) 0 with|some (s,q)=>some (.set s,q)|none=>none) else none
 |f+1,d,.pc,p=>match prs S f d .at p with
  |some (n,q)=>prs S f d (.pcl n) q
  |none=>none
 |f+1,d,.pcl n,p=>match bt S p with
  |none=>some (n,p)
  |some c=>if c=42 then prs S f d (.pcl (.star n)) (p+1) else if c=43 then prs S f d (.pcl (.plus n)) (p+1) else if c=63 then prs S f d (.pcl (.opt n)) (p+1)
   else if c=123 then (match tms S (p+1) with|some (a,b,q)=>prs S f d (.pcl (.rep a b n)) q|none=>none) else some (n,p)
 |f+1,d,.jn,p=>match prs S f d .pc p with
  |some (n,q)=>prs S f d (.jnl [n]) q
  |none=>none
 |f+1,d,.jnl l,p=>match bt S p with
  |none=>some (finJ l,p)
  |some c=>if c=124 then some (finJ l,p) else if c=41 then some (finJ l,p) else match prs S f d .pc p with
   |some (n,q)=>prs S f d (.jnl (l++[n])) q
   |none=>none
 |f+1,d,.un,p=>match prs S f d .jn p with
  |some (n,q)=>prs S f d (.unl [n]) q
  |none=>none
 |f+1,d,.unl l,p=>match bt S p with
  |none=>some (finU l,p)
  |some c=>if c=124 then match prs S f d .jn (p+1) with
    |some (n,q)=>prs S f d (.unl (l++[n])) q
    |none=>none
   else some (finU l,p)
abbrev U8 (n:Nat):AV:=.int .u8 n
theorem bt_ix {S:ByteArray}{p c:Nat}(h:bt S p=some c):ixS (.str S) (I p)=some (U8 c):=by
 simp only[bt,Option.map_eq_some_iff] at h
 obtain ⟨b,h1,rfl⟩:=h
 simp[ixS,h1]
theorem bt_lt {S:ByteArray}{p c:Nat}(h:bt S p=some c):p<S.size:=by
 simp only[bt,Option.map_eq_some_iff] at h
 obtain ⟨b,h1,rfl⟩:=h
 exact (getElem?_eq_some_iff.1 h1).1
theorem b2f {S:ByteArray}{p:Nat}(h:bt S p=none):S.size<=p:=by
 simp only[bt,Option.map_eq_none_iff] at h
 by_cases hp:p<S.size
 ·rw[getElem?_pos S p hp] at h; cases h
 ·omega
theorem equ_t {a:Nat}{b:Int}(h:(a:Int)=b):binV .eql .scalar (U8 a) (.int .u8 b)=some (.bool true):=by
 show some (AV.bool ((a:Int) == b))=_
 rw[h]; simp
theorem equ_f {a:Nat}{b:Int}(h:¬(a:Int)=b):binV .eql .scalar (U8 a) (.int .u8 b)=some (.bool false):=by
 show some (AV.bool ((a:Int) == b))=_
 simp[h]
theorem neu_t {a:Nat}{b:Int}(h:¬(a:Int)=b):binV .neq .scalar (U8 a) (.int .u8 b)=some (.bool true):=by
 show some (AV.bool ((a:Int) != b))=_
 simp[bne,h]
theorem neu_f {a:Nat}{b:Int}(h:(a:Int)=b):binV .neq .scalar (U8 a) (.int .u8 b)=some (.bool false):=by
 show some (AV.bool ((a:Int) != b))=_
 rw[h]; simp
theorem lsu_f {a:Nat}{b:Int}(h:¬(a:Int)<b):binV .lss .scalar (U8 a) (.int .u8 b)=some (.bool false):=by
 show some (AV.bool (decide ((a:Int)<b)))=_
 simp[h]
theorem gtu_f {a:Nat}{b:Int}(h:¬(a:Int) > b):binV .gtr .scalar (U8 a) (.int .u8 b)=some (.bool false):=by
 show some (AV.bool (decide ((a:Int) > b)))=_
 simp[h]
end Go.Gm
namespace Go.Gm
def sgnB (m:Nat):Nat:=[119,98,99,102,116].getD m 0
def setS (s:Nat):List Nat:=((List.range 5).filter fun m=>s.testBit m).map sgnB
def setT (s:Nat):List Nat:=if s=31 then [46] else if (setS s).length=1 then setS s else 91::(setS s++[93])
def isU:Nd->Bool
 |.uni _=>true
 |_=>false
def isJ:Nd->Bool
 |.join _=>true
 |_=>false
def prn (b:Bool)(t:List Nat):List Nat:=if b then 40::(t++[41]) else t
mutual
def txt:Nd->List Nat
 |.set s=>setT s
 |.emp=>[48]
 |.eps=>[95]
 |.join l=>txtj l
 |.uni l=>txtu l
 |.star n=>prn (isU n || isJ n) (txt n)++[42]
 |.plus n=>prn (isU n || isJ n) (txt n)++[43]
 |.opt n=>prn (isU n || isJ n) (txt n)++[63]
 |.rep a b n=>prn (isU n || isJ n) (txt n)++[123,48+a,44,48+b,125]
def txtj:List Nd->List Nat
 |[]=>[]
 |n::l=>prn (isU n || isJ n) (txt n)++txtj l
def txtu:List Nd->List Nat
 |[]=>[]
 |n::l=>prn (isU n) (txt n)++txtr l
def txtr:List Nd->List Nat
 |[]=>[]
 |n::l=>124::(prn (isU n) (txt n)++txtr l)
end
abbrev pcT (n:Nd):List Nat:=prn (isU n || isJ n) (txt n)
abbrev jnT (n:Nd):List Nat:=prn (isU n) (txt n)
def Sd (S:ByteArray):Nat->List Nat->Prop
 |_,[]=>True
 |p,c::t=>bt S p=some c/\Sd S (p+1) t
theorem w2_ {S:ByteArray}:∀{a b:List Nat} {p:Nat},Sd S p (a++b)↔Sd S p a/\Sd S (p+a.length) b
 |[],b,p=>by simp[Sd]
 |c::a,b,p=>by
  simp only[List.cons_append,Sd,w2_ (a:=a),List.length_cons]
  rw[show p+1+a.length=p+(a.length+1) by omega,and_assoc]
mutual
def dp:Nd->Nat
 |.join l=>1+dps l
 |.uni l=>1+dps l
 |.star n=>dp n
 |.plus n=>dp n
 |.opt n=>dp n
 |.rep _ _ n=>dp n
 |_=>0
def dps:List Nd->Nat
 |[]=>0
 |n::l=>max (dp n) (dps l)
end
mutual
def cst:Nd->Nat
 |.join l=>20+csts l
 |.uni l=>20+csts l
 |.star n=>10+cst n
 |.plus n=>10+cst n
 |.opt n=>10+cst n
 |.rep _ _ n=>10+cst n
 |_=>50
def csts:List Nd->Nat
 |[]=>0
 |n::l=>20+cst n+csts l
end
def Rd (S:ByteArray)(K d:Nat)(m:PM)(p:Nat)(r:Nd × Nat):Prop:=∀f,K<=f->prs S f d m p=some r
section
variable {S:ByteArray} {K K' d p q:Nat} {n:Nd} {r:Nd × Nat} {l:List Nd}
theorem Rd.le {m:PM}(h:Rd S K d m p r)(hk:K<=K'):Rd S K' d m p r:=fun f hf=>h f (by omega)
theorem h2_ {K f:Nat}(h:K+1<=f):∃g,f=g+1/\K<=g:=⟨f-1,by omega,by omega⟩
theorem rd_pc (h1:Rd S K d .at p (n,q))(h2:Rd S K' d (.pcl n) q r):Rd S (K+K'+1) d .pc p r:=by
 intro f hf
 obtain ⟨g,rfl,hg⟩:=h2_ hf
 simp only[prs,h1 g (by omega),h2 g (by omega)]
def noSuf (x:Option Nat):Prop:=x≠some 42/\x≠some 43/\x≠some 63/\x≠some 123
theorem a8w (h:noSuf (bt S p)):Rd S 1 d (.pcl n) p (n,p):=by
 intro f hf
 obtain ⟨g,rfl,hg⟩:=h2_ hf
 simp only[prs]
 cases hb:bt S p with
 |none=>rfl
 |some c=>
  rw[hb] at h
  obtain ⟨h1,h2,h3,h4⟩:=h
  simp only
  rw[if_neg (fun z=>h1 (by rw[z])),if_neg (fun z=>h2 (by rw[z])),if_neg (fun z=>h3 (by rw[z])),if_neg (fun z=>h4 (by rw[z]))]
theorem b2g (hb:bt S p=some 42)(h:Rd S K d (.pcl (.star n)) (p+1) r):Rd S (K+1) d (.pcl n) p r:=by
 intro f hf
 obtain ⟨g,rfl,hg⟩:=h2_ hf
 simp only[prs,hb]
 exact h g hg
theorem b2h (hb:bt S p=some 43)(h:Rd S K d (.pcl (.plus n)) (p+1) r):Rd S (K+1) d (.pcl n) p r:=by
 intro f hf
 obtain ⟨g,rfl,hg⟩:=h2_ hf
 simp only[prs,hb]
 exact h g hg
theorem b3i (hb:bt S p=some 63)(h:Rd S K d (.pcl (.opt n)) (p+1) r):Rd S (K+1) d (.pcl n) p r:=by
 intro f hf
 obtain ⟨g,rfl,hg⟩:=h2_ hf
 simp only[prs,hb]
 exact h g hg
theorem b3j {a b:Nat}(hab:a<=b)(hb9:b<=9)(hs:Sd S p [123,48+a,44,48+b,125])(h:Rd S K d (.pcl (.rep a b n)) (p+5) r):Rd S (K+1) d (.pcl n) p r:=by
 obtain ⟨h0,h1,h2,h3,h4,_⟩:=hs
 intro f hf
 obtain ⟨g,rfl,hg⟩:=h2_ hf
 have ht:tms S (p+1)=some (a,b,p+5):=by
  rw[show p+1+1+1=p+1+2 by omega] at h3
  rw[show p+1+1+1+1=p+1+3 by omega] at h4
  simp only[tms,h1,h3,dig]
  rw[if_pos (by omega),if_pos (by omega)]
  simp only
  rw[if_pos ⟨h2,h4,by omega⟩]
  simp only[Nat.add_sub_cancel_left,Option.some.injEq,Prod.mk.injEq]
 simp only[prs,h0,ht]
 exact h g hg
theorem rd_jn (h1:Rd S K d .pc p (n,q))(h2:Rd S K' d (.jnl [n]) q r):Rd S (K+K'+1) d .jn p r:=by
 intro f hf
 obtain ⟨g,rfl,hg⟩:=h2_ hf
 simp only[prs,h1 g (by omega),h2 g (by omega)]
def endJ (x:Option Nat):Prop:=x=none\/x=some 124\/x=some 41
def endU (x:Option Nat):Prop:=x=none\/x=some 41
theorem endU.j {x:Option Nat}(h:endU x):endJ x:=h.imp id .inr
theorem endJ.suf {x:Option Nat}(h:endJ x):noSuf x:=by
 rcases h with rfl|rfl|rfl<;>simp[noSuf]
theorem a4L (h:endJ (bt S p)):Rd S 1 d (.jnl l) p (finJ l,p):=by
 intro f hf
 obtain ⟨g,rfl,hg⟩:=h2_ hf
 rcases h with h|h|h<;>simp[prs,h]
theorem b3k {c:Nat}(hb:bt S p=some c)(h1:c≠124)(h2:c≠41)(h3:Rd S K d .pc p (n,q))(h4:Rd S K' d (.jnl (l++[n])) q r):Rd S (K+K'+1) d (.jnl l) p r:=by
 intro f hf
 obtain ⟨g,rfl,hg⟩:=h2_ hf
 simp only[prs,hb,if_neg h1,if_neg h2,h3 g (by omega),h4 g (by omega)]
theorem rd_un (h1:Rd S K d .jn p (n,q))(h2:Rd S K' d (.unl [n]) q r):Rd S (K+K'+1) d .un p r:=by
 intro f hf
 obtain ⟨g,rfl,hg⟩:=h2_ hf
 simp only[prs,h1 g (by omega),h2 g (by omega)]
theorem a4M (h:endU (bt S p)):Rd S 1 d (.unl l) p (finU l,p):=by
 intro f hf
 obtain ⟨g,rfl,hg⟩:=h2_ hf
 rcases h with h|h<;>simp[prs,h]
theorem b0g (hb:bt S p=some 124)(h3:Rd S K d .jn (p+1) (n,q))(h4:Rd S K' d (.unl (l++[n])) q r):Rd S (K+K'+1) d (.unl l) p r:=by
 intro f hf
 obtain ⟨g,rfl,hg⟩:=h2_ hf
 simp only[prs,hb,h3 g (by omega),h4 g (by omega)]
 exact if_pos trivial
theorem b0h (hb:bt S p=some 40)(hd:d<30)(h:Rd S K (d+1) .un (p+1) (n,q))(h2:bt S q=some 41):Rd S (K+1) d .at p (n,q+1):=by
 intro f hf
 obtain ⟨g,rfl,hg⟩:=h2_ hf
 simp only[prs,hb]
 simp only[if_true,if_neg (show ¬30<=d by omega),h g hg,h2]
end
theorem b0i {S:ByteArray}:∀(ms:List Nat) (p s f:Nat),(∀m∈ms,m<5)->Sd S p (ms.map sgnB++[93])->0<s\/ms≠[]->ms.length<f->clsF S f p s=some (ms.foldl (fun s m=>s ||| 2 ^ m) s,p+ms.length+1)
 |[],p,s,f,_,h,h0,hf=>by
  obtain ⟨g,rfl,_⟩:=h2_ hf
  have hs:0<s:=h0.resolve_right (by simp)
  simp only[List.map_nil,List.nil_append,Sd] at h
  simp[clsF,h.1,hs]
 |m::ms,p,s,f,hm,h,h0,hf=>by
  obtain ⟨g,rfl,hg⟩:=h2_ hf
  simp only[List.map_cons,List.cons_append,Sd] at h
  have h5:=hm m (by simp)
  have hmd:md (sgnB m)=some m/\sgnB m≠93:=by
   have:m=0\/m=1\/m=2\/m=3\/m=4:=by omega
   rcases this with rfl|rfl|rfl|rfl|rfl<;>decide
  have hpos:0<s ||| 2 ^ m:=by
   have h1:2 ^ m<=s ||| 2 ^ m:=Nat.right_le_or
   have:0<2 ^ m:=Nat.two_pow_pos m
   omega
  rw[clsF,h.1]
  simp only
  rw[if_neg (fun z=>hmd.2 z.1),hmd.1]
  simp only
  rw[b0i ms (p+1) (s ||| 2 ^ m) g (fun x hx=>hm x (List.mem_cons_of_mem _ hx)) h.2 (.inl hpos) (by simp only[List.length_cons] at hf; omega)]
  simp only[List.foldl_cons,List.length_cons,Option.some.injEq,Prod.mk.injEq,true_and]
  omega
def msOf (s:Nat):List Nat:=(List.range 5).filter fun m=>s.testBit m
theorem b2i:∀s:Fin 32,(msOf s.val).foldl (fun (s m:Nat)=>s ||| 2 ^ m) 0=s.val:=by decide
theorem ms_ne:∀s:Fin 32,0<s.val->msOf s≠[]:=by decide
theorem b3l:∀s:Fin 32,(setS s).length=1->∃m,m<5/\setS s=[sgnB m]/\s.val=2 ^ m:=by
 intro s
 have:∀s:Fin 32,(setS s).length=1->∃m:Fin 5,setS s=[sgnB m]/\s.val=2 ^ m.val:=by decide
 intro h
 obtain ⟨m,h1,h2⟩:=this s h
 exact ⟨m,m.2,h1,h2⟩
theorem ms_lt (s:Nat):∀m∈msOf s,m<5:=fun m h=>by
 have:=(List.mem_filter.1 h).1
 simpa using this
theorem b3m (s:Nat):(msOf s).length<=5:=by
 have:=List.length_filter_le (fun m=>s.testBit m) (List.range 5)
 simpa [msOf] using this
theorem b3n {S:ByteArray}{d p s:Nat}(h1:1<=s)(h2:s<=31)(h:Sd S p (setT s)):Rd S 20 d .at p (.set s,p+(setT s).length):=by
 intro f hf
 obtain ⟨g,rfl,hg⟩:=h2_ hf
 rw[setT] at h ⊢
 by_cases q:s=31
 ·rw[if_pos q] at h ⊢
  obtain ⟨hb,_⟩:=h
  simp[prs,hb,md,q]
 ·rw[if_neg q] at h ⊢
  by_cases q2:(setS s).length=1
  ·rw[if_pos q2] at h ⊢
   obtain ⟨m,m5,e1,e2⟩:=b3l ⟨s,by omega⟩ q2
   simp only at e1 e2
   rw[e1] at h ⊢
   obtain ⟨hb,_⟩:=h
   have hmd:md (sgnB m)=some m/\sgnB m≠40:=by
    have:m=0\/m=1\/m=2\/m=3\/m=4:=by omega
    rcases this with rfl|rfl|rfl|rfl|rfl<;>decide
   simp only[prs,hb]
   rw[if_neg hmd.2,hmd.1,e2]
   rfl
  ·rw[if_neg q2] at h ⊢
   obtain ⟨hb,h⟩:=h
   have hc:=b0i (msOf s) (p+1) 0 g (ms_lt s) h (.inr (ms_ne ⟨s,by omega⟩ (by simp only; omega))) (by have:=b3m s; omega)
   rw[show (msOf s).foldl (fun s m=>s ||| 2 ^ m) 0=s from b2i ⟨s,by omega⟩] at hc
   simp only[prs,hb]
   rw[if_neg (by omega),show md 91=none from rfl]
   simp only
   rw[if_neg (by omega),if_neg (by omega),if_neg (by omega),if_pos trivial,hc]
   simp only[List.length_cons,List.length_append,List.length_nil,Option.some.injEq,Prod.mk.injEq,true_and]
   have:(setS s).length=(msOf s).length:=by simp[setS,msOf]
   omega
def okH (c:Nat):Prop:=c≠42/\c≠43/\c≠63/\c≠123/\c≠124/\c≠41
theorem b2j:∀s:Fin 32,∃c t,setT s.val=c::t/\okH c:=by
 have:∀s:Fin 32,(setT s.val).headD 42≠42/\(setT s.val).headD 42≠43/\(setT s.val).headD 42≠63/\(setT s.val).headD 42≠123/\(setT s.val).headD 42≠124/\(setT s.val).headD 42≠41:=by decide
 intro s
 have h:=this s
 cases hs:setT s.val with
 |nil=>rw[hs] at h; exact absurd rfl h.1
 |cons c t=>rw[hs] at h; exact ⟨c,t,rfl,h⟩
theorem a0W {b:Bool}{t:List Nat}(h:∃c u,t=c::u/\okH c):∃c u,prn b t=c::u/\okH c:=by
 cases b with
 |false=>exact h
 |true=>exact ⟨40,t++[41],rfl,by simp[okH]⟩
theorem a3J {t u:List Nat}(h:∃c v,t=c::v/\okH c):∃c v,t++u=c::v/\okH c:=by
 obtain ⟨c,v,rfl,h⟩:=h
 exact ⟨c,v++u,rfl,h⟩
theorem a7r (n:Nd):Gd n->∃c t,txt n=c::t/\okH c:=by
 refine Nd.ind (p:=fun n=>Gd n->∃c t,txt n=c::t/\okH c) (fun n ih g=>?_) n
 cases n with
 |set s=>exact b2j ⟨s,by have:=g.rt.2; omega⟩
 |emp=>exact ⟨48,[],by rw[txt],by simp[okH]⟩
 |eps=>exact ⟨95,[],by rw[txt],by simp[okH]⟩
 |star c=>rw[txt]; exact a3J (a0W (ih c (by simp[Nd.kids]) (g.kid c (by simp[Nd.kids]))))
 |plus c=>rw[txt]; exact a3J (a0W (ih c (by simp[Nd.kids]) (g.kid c (by simp[Nd.kids]))))
 |opt c=>rw[txt]; exact a3J (a0W (ih c (by simp[Nd.kids]) (g.kid c (by simp[Nd.kids]))))
 |rep a b c=>rw[txt]; exact a3J (a0W (ih c (by simp[Nd.kids]) (g.kid c (by simp[Nd.kids]))))
 |join l=>
  cases l with
  |nil=>have:2<=0:=g.rt; omega
  |cons c l=>rw[txt,txtj]; exact a3J (a0W (ih c (by simp[Nd.kids]) (g.kid c (by simp[Nd.kids]))))
 |uni l=>
  cases l with
  |nil=>have:2<=0:=g.rt; omega
  |cons c l=>rw[txt,txtu]; exact a3J (a0W (ih c (by simp[Nd.kids]) (g.kid c (by simp[Nd.kids]))))
section
variable {S:ByteArray}
def PS (S:ByteArray)(n:Nd):Prop:=∀(d p K:Nat) (r:Nd × Nat),d+dp n<=30->Sd S p (pcT n)->Rd S K d (.pcl n) (p+(pcT n).length) r->Rd S (K+cst n+10) d .pc p r
def JS (S:ByteArray)(n:Nd):Prop:=∀(d p:Nat),d+dp n<=30->Sd S p (jnT n)->endJ (bt S (p+(jnT n).length))->Rd S (cst n+15) d .jn p (n,p+(jnT n).length)
def US (S:ByteArray)(n:Nd):Prop:=∀(d p:Nat),d+dp n<=(if (isU n || isJ n)=true then 31 else 30)->Sd S p (txt n)->endU (bt S (p+(txt n).length))->Rd S (cst n+if (isU n || isJ n)=true then 0 else 18) d .un p (n,p+(txt n).length)
theorem PS.one {n:Nd}(h:PS S n){d p:Nat}(hd:d+dp n<=30)(hs:Sd S p (pcT n))(he:noSuf (bt S (p+(pcT n).length))):Rd S (cst n+11) d .pc p (n,p+(pcT n).length):=
 (h d p 1 _ hd hs (a8w he)).le (by omega)
theorem PS.js {n:Nd}(h:PS S n)(hj:isJ n=false):JS S n:=by
 intro d p hd hs he
 have e:jnT n=pcT n:=by simp[jnT,pcT,hj]
 rw[e] at hs he ⊢
 exact (rd_jn (h.one hd hs he.suf) (a4L he)).le (by omega)
theorem JS.us {n:Nd}(h:JS S n)(hu:isU n=false){d p:Nat}(hd:d+dp n<=30)(hs:Sd S p (txt n))(he:endU (bt S (p+(txt n).length))):Rd S (cst n+17) d .un p (n,p+(txt n).length):=by
 have e:jnT n=txt n:=by simp[jnT,prn,hu]
 have h1:=h d p hd (by rw[e]; exact hs) (by rw[e]; exact he.j)
 rw[e] at h1
 exact (rd_un h1 (a4M he)).le (by omega)
theorem b3o {n:Nd}(hb:(isU n || isJ n)=true):1<=dp n:=by
 cases n<;>simp[isU,isJ] at hb<;>rw[dp]<;>omega
theorem US.ps {n:Nd}(h:US S n)(hb:(isU n || isJ n)=true):PS S n:=by
 intro d p K r hd hs hr
 have h1:=b3o hb
 have e:pcT n=40::(txt n++[41]):=by simp only[pcT,prn,hb,if_true]
 rw[e] at hs hr
 obtain ⟨h0,hs⟩:=hs
 obtain ⟨h1,h2⟩:=w2_.1 hs
 obtain ⟨h2,_⟩:=h2
 have hu:=h (d+1) (p+1) (by rw[if_pos hb]; omega) h1 (.inr h2)
 rw[if_pos hb] at hu
 have h3:=b0h h0 (by omega) hu h2
 simp only[List.length_cons,List.length_append,List.length_nil] at hr
 rw[show p+((txt n).length+(0+1)+1)=p+1+(txt n).length+1 by omega] at hr
 exact (rd_pc h3 hr).le (by omega)
theorem b0j:∀(l:List Nd),(∀c∈l,PS S c/\Gd c)->∀(acc:List Nd) (d p:Nat),d+dps l<=30->Sd S p (txtj l)->endJ (bt S (p+(txtj l).length))->Rd S (csts l+1) d (.jnl acc) p (finJ (acc++l),p+(txtj l).length)
 |[],_,acc,d,p,_,_,he=>by
  rw[txtj] at he ⊢
  rw[List.append_nil]
  exact a4L he
 |n::l,hl,acc,d,p,hd,hs,he=>by
  rw[dps] at hd
  rw[txtj] at hs he ⊢
  obtain ⟨h1,h2⟩:=w2_.1 hs
  obtain ⟨hp,hg⟩:=hl n (by simp)
  obtain ⟨c,t,e1,e2⟩:=a0W (b:=isU n || isJ n) (a7r n hg)
  rw[List.length_append,<-Nat.add_assoc] at he ⊢
  have hb:bt S p=some c:=by rw[e1] at h1; exact h1.1
  have hn:noSuf (bt S (p+(prn (isU n || isJ n) (txt n)).length)):=by
   cases l with
   |nil=>
    rw[txtj] at he
    exact he.suf
   |cons m l=>
    obtain ⟨c',t',e3,e4⟩:=a0W (b:=isU m || isJ m) (a7r m (hl m (by simp)).2)
    rw[txtj,e3] at h2
    rw[h2.1]
    simp only[okH] at e4
    simp[noSuf,e4]
  have h3:=hp.one (d:=d) (by omega) h1 hn
  have ec:csts (n::l)=20+cst n+csts l:=by simp[csts]
  have h4:=b0j l (fun c hc=>hl c (List.mem_cons_of_mem _ hc)) (acc++[n]) d (p+(prn (isU n || isJ n) (txt n)).length) (by omega) h2 he
  rw[List.append_assoc,List.singleton_append] at h4
  exact (b3k hb e2.2.2.2.2.1 e2.2.2.2.2.2 h3 h4).le (by omega)
theorem b0k:∀(l:List Nd),(∀c∈l,JS S c)->∀(acc:List Nd) (d p:Nat),d+dps l<=30->Sd S p (txtr l)->endU (bt S (p+(txtr l).length))->Rd S (csts l+1) d (.unl acc) p (finU (acc++l),p+(txtr l).length)
 |[],_,acc,d,p,_,_,he=>by
  rw[txtr] at he ⊢
  rw[List.append_nil]
  exact a4M he
 |n::l,hl,acc,d,p,hd,hs,he=>by
  rw[dps] at hd
  rw[txtr] at hs he ⊢
  obtain ⟨h0,hs⟩:=hs
  obtain ⟨h1,h2⟩:=w2_.1 hs
  rw[List.length_cons,List.length_append] at he ⊢
  rw[show p+((prn (isU n) (txt n)).length+(txtr l).length+1)=p+1+(prn (isU n) (txt n)).length+(txtr l).length by omega] at he ⊢
  have hn:endJ (bt S (p+1+(prn (isU n) (txt n)).length)):=by
   cases l with
   |nil=>rw[txtr] at he; exact he.j
   |cons m l=>rw[txtr] at h2; exact .inr (.inl h2.1)
  have h3:=hl n (by simp) d (p+1) (by omega) h1 hn
  have ec:csts (n::l)=20+cst n+csts l:=by simp[csts]
  have h4:=b0k l (fun c hc=>hl c (List.mem_cons_of_mem _ hc)) (acc++[n]) d (p+1+(prn (isU n) (txt n)).length) (by omega) h2 he
  rw[List.append_assoc,List.singleton_append] at h4
  exact (b0g h0 h3 h4).le (by omega)
theorem read (n:Nd):Gd n->PS S n/\JS S n/\US S n:=by
 refine Nd.ind (p:=fun n=>Gd n->PS S n/\JS S n/\US S n) (fun n ih g=>?_) n
 have plain:(isU n || isJ n)=false->PS S n->PS S n/\JS S n/\US S n:=fun hb h=>by
  have hu:isU n=false:=by cases hq:isU n<;>simp_all
  have hj:isJ n=false:=by cases hq:isJ n<;>simp_all
  have h2:=h.js hj
  refine ⟨h,h2,fun d p hd hs he=>?_⟩
  rw[hb] at hd ⊢
  exact (h2.us hu (by simpa using hd) hs he).le (by simp)
 cases n with
 |set s=>
  have e:pcT (.set s)=setT s:=by simp[pcT,prn,isU,isJ,txt]
  refine plain rfl fun d p K r hd hs hr=>?_
  rw[e] at hs hr
  have ec:cst (.set s)=50:=by simp[cst]
  exact (rd_pc (b3n g.rt.1 g.rt.2 hs) hr).le (by omega)
 |emp=>
  have e:pcT .emp=[48]:=by simp[pcT,prn,isU,isJ,txt]
  refine plain rfl fun d p K r hd hs hr=>?_
  rw[e] at hs hr
  have ec:cst .emp=50:=by simp[cst]
  refine (rd_pc (K:=1) (n:=.emp) (q:=p+1) (fun f hf=>?_) hr).le (by omega)
  obtain ⟨g,rfl,hg⟩:=h2_ hf
  simp[prs,hs.1,md]
 |eps=>
  have e:pcT .eps=[95]:=by simp[pcT,prn,isU,isJ,txt]
  refine plain rfl fun d p K r hd hs hr=>?_
  rw[e] at hs hr
  have ec:cst .eps=50:=by simp[cst]
  refine (rd_pc (K:=1) (n:=.eps) (q:=p+1) (fun f hf=>?_) hr).le (by omega)
  obtain ⟨g,rfl,hg⟩:=h2_ hf
  simp[prs,hs.1,md]
 |star c=>
  have e:pcT (.star c)=pcT c++[42]:=by simp[pcT,prn,isU,isJ,txt]
  refine plain rfl fun d p K r hd hs hr=>?_
  rw[e] at hs hr
  obtain ⟨h1,h2⟩:=w2_.1 hs
  rw[List.length_append,<-Nat.add_assoc] at hr
  rw[dp] at hd
  have ec:cst (.star c)=10+cst c:=by simp[cst]
  exact ((ih c (by simp[Nd.kids]) (g.kid c (by simp[Nd.kids]))).1 d p (K+1) r hd h1 (b2g h2.1 hr)).le (by omega)
 |plus c=>
  have e:pcT (.plus c)=pcT c++[43]:=by simp[pcT,prn,isU,isJ,txt]
  refine plain rfl fun d p K r hd hs hr=>?_
  rw[e] at hs hr
  obtain ⟨h1,h2⟩:=w2_.1 hs
  rw[List.length_append,<-Nat.add_assoc] at hr
  rw[dp] at hd
  have ec:cst (.plus c)=10+cst c:=by simp[cst]
  exact ((ih c (by simp[Nd.kids]) (g.kid c (by simp[Nd.kids]))).1 d p (K+1) r hd h1 (b2h h2.1 hr)).le (by omega)
 |opt c=>
  have e:pcT (.opt c)=pcT c++[63]:=by simp[pcT,prn,isU,isJ,txt]
  refine plain rfl fun d p K r hd hs hr=>?_
  rw[e] at hs hr
  obtain ⟨h1,h2⟩:=w2_.1 hs
  rw[List.length_append,<-Nat.add_assoc] at hr
  rw[dp] at hd
  have ec:cst (.opt c)=10+cst c:=by simp[cst]
  exact ((ih c (by simp[Nd.kids]) (g.kid c (by simp[Nd.kids]))).1 d p (K+1) r hd h1 (b3i h2.1 hr)).le (by omega)
 |rep a b c=>
  have e:pcT (.rep a b c)=pcT c++[123,48+a,44,48+b,125]:=by simp[pcT,prn,isU,isJ,txt]
  refine plain rfl fun d p K r hd hs hr=>?_
  rw[e] at hs hr
  obtain ⟨h1,h2⟩:=w2_.1 hs
  rw[List.length_append,<-Nat.add_assoc] at hr
  rw[dp] at hd
  have ec:cst (.rep a b c)=10+cst c:=by simp[cst]
  exact ((ih c (by simp[Nd.kids]) (g.kid c (by simp[Nd.kids]))).1 d p (K+1) r hd h1 (b3j g.rt.1 g.rt.2 h2 hr)).le (by omega)
 |join l=>
  have hk:∀c∈l,PS S c/\Gd c:=fun c hc=>⟨(ih c hc (g.kid c hc)).1,g.kid c hc⟩
  have hl:2<=l.length:=g.rt
  have J:∀d p,d+dps l<=30->Sd S p (txtj l)->endJ (bt S (p+(txtj l).length))->Rd S (csts l) d .jn p (.join l,p+(txtj l).length):=by
   intro d p hd hs he
   match l,hl,hk,hd,hs,he with
   |a::b::r,_,hk,hd,hs,he=>
    rw[dps] at hd
    rw[txtj] at hs he ⊢
    obtain ⟨h1,h2⟩:=w2_.1 hs
    rw[List.length_append,<-Nat.add_assoc] at he ⊢
    obtain ⟨c',t',e3,e4⟩:=a0W (b:=isU b || isJ b) (a7r b (hk b (by simp)).2)
    have hn:noSuf (bt S (p+(prn (isU a || isJ a) (txt a)).length)):=by
     rw[txtj,e3] at h2
     rw[h2.1]
     simp only[okH] at e4
     simp[noSuf,e4]
    have h3:=(hk a (by simp)).1.one (d:=d) (by omega) h1 hn
    have h4:=b0j (b::r) (fun c hc=>hk c (List.mem_cons_of_mem _ hc)) [a] d (p+(prn (isU a || isJ a) (txt a)).length) (by omega) h2 he
    have ec:csts (a::b::r)=20+cst a+csts (b::r):=by simp[csts]
    exact (rd_jn h3 h4).le (by omega)
  have hU:US S (.join l):=by
   intro d p hd hs he
   have hd':d+dp (.join l)<=31:=by simpa [isU,isJ] using hd
   rw[dp] at hd'
   rw[txt] at hs he ⊢
   have ec:cst (.join l)=20+csts l:=by simp[cst]
   rw[if_pos (show (isU (.join l) || isJ (.join l))=true from rfl)]
   exact (rd_un (J d p (by omega) hs he.j) (a4M he)).le (by omega)
  refine ⟨hU.ps rfl,fun d p hd hs he=>?_,hU⟩
  have e:jnT (.join l)=txtj l:=by simp[jnT,prn,isU,txt]
  rw[e] at hs he ⊢
  rw[dp] at hd
  have ec:cst (.join l)=20+csts l:=by simp[cst]
  exact (J d p (by omega) hs he).le (by omega)
 |uni l=>
  have hk:∀c∈l,JS S c:=fun c hc=>(ih c hc (g.kid c hc)).2.1
  have hl:2<=l.length:=g.rt
  have hU:US S (.uni l):=by
   intro d p hd hs he
   have hd':d+dp (.uni l)<=31:=by simpa [isU,isJ] using hd
   rw[dp] at hd'
   rw[txt] at hs he ⊢
   rw[if_pos (show (isU (.uni l) || isJ (.uni l))=true from rfl)]
   have ec:cst (.uni l)=20+csts l:=by simp[cst]
   rw[ec]
   clear ec
   match l,hl,hk,hd',hs,he with
   |a::b::r,_,hk,hd,hs,he=>
    rw[dps] at hd
    rw[txtu] at hs he ⊢
    obtain ⟨h1,h2⟩:=w2_.1 hs
    rw[List.length_append,<-Nat.add_assoc] at he ⊢
    have hn:endJ (bt S (p+(prn (isU a) (txt a)).length)):=by
     rw[txtr] at h2; exact .inr (.inl h2.1)
    have h3:=hk a (by simp) d p (by omega) h1 hn
    have h4:=b0k (b::r) (fun c hc=>hk c (List.mem_cons_of_mem _ hc)) [a] d (p+(prn (isU a) (txt a)).length) (by omega) h2 he
    have ec:csts (a::b::r)=20+cst a+csts (b::r):=by simp[csts]
    exact (rd_un h3 h4).le (by omega)
  exact ⟨hU.ps rfl,(hU.ps rfl).js rfl,hU⟩
end
def ofL (l:List Nat):ByteArray:=⟨(l.map UInt8.ofNat).toArray⟩
theorem t0_ (l:List Nat):(ofL l).size=l.length:=by
 show (l.map UInt8.ofNat).toArray.size=_
 simp
theorem a7s {l:List Nat}(h:∀c∈l,c<256)(p:Nat):bt (ofL l) p=l[p]?:=by
 simp only[bt]
 by_cases hp:p<l.length
 ·have hp':p<(ofL l).size:=by rw[t0_]; exact hp
  rw[getElem?_pos (ofL l) p hp',List.getElem?_eq_getElem hp]
  have:(ofL l)[p]=UInt8.ofNat l[p]:=by
   show (l.map UInt8.ofNat).toArray[p]'(by simpa using hp)=_
   simp
  rw[this]
  simp only[Option.map_some,Option.some.injEq]
  have:=h l[p] (List.getElem_mem hp)
  simp[UInt8.toNat_ofNat',Nat.mod_eq_of_lt this]
 ·rw[List.getElem?_eq_none (by omega),getElem?_neg (ofL l) p (by rw[t0_]; exact hp)]
  rfl
theorem a7t {l:List Nat}(h:∀c∈l,c<256):∀(t:List Nat) (p:Nat),l.drop p=t->Sd (ofL l) p t
 |[],p,_=>trivial
 |c::t,p,e=>by
  have h1:l[p]?=some c:=by
   have:=congrArg List.head? e
   simpa [List.head?_drop] using this
  refine ⟨by rw[a7s h]; exact h1,a7t h t (p+1) ?_⟩
  rw[<-List.drop_drop,e]; rfl
theorem a5M {b:Bool}{t:List Nat}(h:∀c∈t,c<256):∀c∈prn b t,c<256:=by
 cases b with
 |false=>exact h
 |true=>
  intro c hc
  simp only[prn,if_true,List.mem_cons,List.mem_append,List.not_mem_nil,or_false] at hc
  rcases hc with rfl|hc|rfl
  ·omega
  ·exact h c hc
  ·omega
theorem b2k:∀s:Fin 32,∀c∈setT s,c<256:=by decide
theorem a8x:∀(l:List Nd),(∀c∈l,∀b∈txt c,b<256)->∀b∈txtj l,b<256
 |[],_,b,hb=>by rw[txtj] at hb; cases hb
 |n::l,h,b,hb=>by
  rw[txtj,List.mem_append] at hb
  rcases hb with hb|hb
  ·exact a5M (h n (by simp)) b hb
  ·exact a8x l (fun c hc=>h c (List.mem_cons_of_mem _ hc)) b hb
theorem a8y:∀(l:List Nd),(∀c∈l,∀b∈txt c,b<256)->∀b∈txtr l,b<256
 |[],_,b,hb=>by rw[txtr] at hb; cases hb
 |n::l,h,b,hb=>by
  rw[txtr,List.mem_cons,List.mem_append] at hb
  rcases hb with rfl|hb|hb
  ·omega
  ·exact a5M (h n (by simp)) b hb
  ·exact a8y l (fun c hc=>h c (List.mem_cons_of_mem _ hc)) b hb
theorem a7u (n:Nd):Gd n->∀b∈txt n,b<256:=by
 refine Nd.ind (p:=fun n=>Gd n->∀b∈txt n,b<256) (fun n ih g b hb=>?_) n
 have one:∀{c:Nd} {t:List Nat},c∈n.kids->(∀x∈t,x<256)->b∈prn (isU c || isJ c) (txt c)++t->b<256:=fun {c t} hc ht hb=>by
  rcases List.mem_append.1 hb with hb|hb
  ·exact a5M (ih c hc (g.kid c hc)) b hb
  ·exact ht b hb
 cases n with
 |set s=>rw[txt] at hb; exact b2k ⟨s,by have:=g.rt.2; omega⟩ b hb
 |emp=>rw[txt] at hb; simp at hb; omega
 |eps=>rw[txt] at hb; simp at hb; omega
 |star c=>rw[txt] at hb; exact one (by simp[Nd.kids]) (by simp) hb
 |plus c=>rw[txt] at hb; exact one (by simp[Nd.kids]) (by simp) hb
 |opt c=>rw[txt] at hb; exact one (by simp[Nd.kids]) (by simp) hb
 |rep x y c=>
  rw[txt] at hb
  obtain ⟨h1,h2⟩:x<=y/\y<=9:=g.rt
  refine one (by simp[Nd.kids]) (fun z hz=>?_) hb
  simp only[List.mem_cons,List.not_mem_nil,or_false] at hz
  omega
 |join l=>rw[txt] at hb; exact a8x l (fun c hc=>ih c hc (g.kid c hc)) b hb
 |uni l=>
  rw[txt] at hb
  cases l with
  |nil=>rw[txtu] at hb; cases hb
  |cons a l=>
   rw[txtu,List.mem_append] at hb
   rcases hb with hb|hb
   ·exact a5M (ih a (by simp[Nd.kids]) (g.kid a (by simp[Nd.kids]))) b hb
   ·exact a8y l (fun c hc=>ih c (by simp[Nd.kids,hc]) (g.kid c (by simp[Nd.kids,hc]))) b hb
theorem a8z {n:Nd}(g:Gd n)(hd:dp n<=30):prs (ofL (txt n)) (cst n+18) 0 .un 0=some (n,(ofL (txt n)).size):=by
 have h1:=a7u n g
 have h2:=(read (S:=ofL (txt n)) n g).2.2 0 0 (by split<;>omega) (a7t h1 _ 0 rfl) (.inl (by rw[a7s h1,Nat.zero_add]; simp)) (cst n+18) (by split<;>omega)
 rw[h2,t0_,Nat.zero_add]
end Go.Gm
namespace Go.Gm
abbrev Hop:=Nat × Nat × Int
inductive Wk (A:Nat->List Hop) (st:Nat->Prop):Nat->List Nat->Int->Prop
 |nil {x:Nat}:st x->Wk A st x [] 0
 |snoc {x y e:Nat} {l:List Nat} {c w:Int}:Wk A st x l c->(y,e,w)∈A x->Wk A st y (l++[e]) (c+w)
def Lst (A:Nat->List Hop)(st:Nat->Prop)(x:Nat)(c:Int):Prop:=(∃l,Wk A st x l c)/\∀l c',Wk A st x l c'->c<=c'
theorem Lst.uniq {A:Nat->List Hop}{st:Nat->Prop}{x:Nat}{c d:Int}(a:Lst A st x c)(b:Lst A st x d):c=d:=by
 obtain ⟨⟨l,h1⟩,h2⟩:=a
 obtain ⟨⟨l',h3⟩,h4⟩:=b
 have:=h2 _ _ h3
 have:=h4 _ _ h1
 omega
structure GOk (n:Nat) (W:Int) (A:Nat->List Hop):Prop where
 w0:0<=W
 hop:∀x,x<n->∀y e w,(y,e,w)∈A x->y<n/\0<=w/\w<=W
section
variable {n:Nat} {W:Int} {A:Nat->List Hop} {st:Nat->Prop}
theorem Wk.range (g:GOk n W A)(hs:∀x,st x->x<n){x:Nat}{l:List Nat}{c:Int}(h:Wk A st x l c):x<n/\0<=c:=by
 induction h with
 |nil h=>exact ⟨hs _ h,Int.le_refl _⟩
 |snoc _ k ih=>have:=g.hop _ ih.1 _ _ _ k; omega
structure DI (n:Nat) (W:Int) (A:Nat->List Hop) (st:Nat->Prop) (id:Nat) (todo:List Hop) (c:Nat->Int) (m:Nat->Option Int) (e f:Nat->Int) (r:Nat->Nat) (k:Nat):Prop where
 fin:∀x,x<n->0<=c x->Lst A st x (c x)
 neg:∀x,x<n->¬0<=c x->c x = -1
 que:∀x,x<n->∀v,m x=some v->c x = -1/\0<=v/\∃l,Wk A st x l v
 rel:∀x,x<n->0<=c x->∀y e w,(y,e,w)∈A x->(x=id/\(y,e,w)∈todo)\/0<=c y\/∃v,m y=some v/\v<=c x+w
 sta:∀x,x<n->st x->0<=c x\/m x=some 0
 ord:∀x y,x<n->y<n->0<=c x->∀v,m y=some v->c x<=v
 par:∀y,y<n->∀v,(0<=c y/\c y=v\/m y=some v)->(f y = -1/\st y/\v=0)\/∃x w,x<n/\f y=(x:Int)/\0<=c x/\0<=e y/\(y,(e y).toNat,w)∈A x/\v=c x+w/\(0<=c y->r x<r y)
 rk:∀x,x<n->0<=c x->r x<k
 bnd:∀x,x<n->∀v,(0<=c x/\c x=v\/m x=some v)->v<=k*W
 mx:∀x,x<n->0<=c x->c x<=c id
theorem DI.front {c:Nat->Int}{m:Nat->Option Int}{e f:Nat->Int}{r:Nat->Nat}{k id:Nat}(g:GOk n W A)(hs:∀x,st x->x<n)(d:DI n W A st id [] c m e f r k){y:Nat}{l:List Nat}{v:Int}(h:Wk A st y l v):(0<=c y/\c y<=v)\/∃z u,z<n/\m z=some u/\u<=v:=by
 induction h with
 |@nil x h=>
  have hx:=hs _ h
  rcases d.sta x hx h with h1|h1
  ·left
   have:=(d.fin x hx h1).2 [] 0 (.nil h)
   exact ⟨h1,this⟩
  ·exact .inr ⟨x,0,hx,h1,Int.le_refl _⟩
 |@snoc x y e l v w h1 h2 ih=>
  have hx:=(Wk.range g hs h1).1
  have hh:=g.hop x hx _ _ _ h2
  rcases ih with ⟨i1,i2⟩|⟨z,u,i1,i2,i3⟩
  ·rcases d.rel x hx i1 _ _ _ h2 with ⟨_,q⟩|q|⟨u,q1,q2⟩
   ·simp at q
   ·left
    exact ⟨q,(d.fin y hh.1 q).2 _ _ (.snoc h1 h2)⟩
   ·exact .inr ⟨y,u,hh.1,q1,by omega⟩
  ·exact .inr ⟨z,u,i1,i2,by omega⟩
theorem DI.all {c:Nat->Int}{m:Nat->Option Int}{e f:Nat->Int}{r:Nat->Nat}{k id:Nat}(g:GOk n W A)(hs:∀x,st x->x<n)(d:DI n W A st id [] c m e f r k)(hm:∀x,x<n->m x=none){y:Nat}{l:List Nat}{v:Int}(h:Wk A st y l v):0<=c y/\c y<=v:=by
 rcases d.front g hs h with h1|⟨z,u,h1,h2,_⟩
 ·exact h1
 ·rw[hm z h1] at h2; cases h2
theorem DI.pop {c:Nat->Int}{m:Nat->Option Int}{e f:Nat->Int}{r:Nat->Nat}{k id0:Nat}(g:GOk n W A)(hs:∀x,st x->x<n)(d:DI n W A st id0 [] c m e f r k){id:Nat}{key:Int}(hid:id<n)(hm:m id=some key)(hmin:∀z,z<n->∀u,m z=some u->key<=u) :
  DI n W A st id (A id) (fun x=>if x=id then key else c x) (fun x=>if x=id then none else m x) e f (fun x=>if x=id then k else r x) (k+1):=by
 obtain ⟨q1,q2,q3⟩:=d.que id hid key hm
 have hW:=g.w0
 have hkW:(k:Int)*W<=((k+1:Nat):Int)*W:=by
  rw[Int.natCast_add,Int.add_mul]; omega
 have least:∀l v,Wk A st id l v->key<=v:=by
  intro l v h
  rcases d.front g hs h with h1|⟨z,u,h1,h2,h3⟩
  ·omega
  ·have:=hmin z h1 u h2; omega
 refine ⟨fun x hx h=>?_,fun x hx h=>?_,fun x hx v h=>?_,fun x hx h y e' w h2=>?_,fun x hx h=>?_,fun x y hx hy h v h2=>?_,fun y hy v h=>?_,fun x hx h=>?_,fun x hx v h=>?_,fun x hx h=>?_⟩
 ·try simp only at h ⊢
  by_cases q:x=id
  ·subst q; rw[if_pos rfl] at h ⊢; exact ⟨q3,least⟩
  ·rw[if_neg q] at h ⊢; exact d.fin x hx h
 ·try simp only at h ⊢
  by_cases q:x=id
  ·subst q; rw[if_pos rfl] at h; exact absurd q2 h
  ·rw[if_neg q] at h ⊢; exact d.neg x hx h
 ·try simp only at h ⊢
  by_cases q:x=id
  ·rw[if_pos q] at h; cases h
  ·rw[if_neg q] at h ⊢; exact d.que x hx v h
 ·try simp only at h ⊢
  by_cases q:x=id
  ·subst q; exact .inl ⟨rfl,h2⟩
  ·rw[if_neg q] at h ⊢
   rcases d.rel x hx h _ _ _ h2 with ⟨_,z⟩|z|⟨v,z1,z2⟩
   ·simp at z
   ·right; left
    by_cases q':y=id
    ·rw[if_pos q']; exact q2
    ·rw[if_neg q']; exact z
   ·right
    by_cases q':y=id
    ·left; rw[if_pos q']; exact q2
    ·right; exact ⟨v,by rw[if_neg q']; exact z1,z2⟩
 ·try simp only
  by_cases q:x=id
  ·left; rw[if_pos q]; exact q2
  ·rw[if_neg q,if_neg q]; exact d.sta x hx h
 ·try simp only at h h2 ⊢
  by_cases q':y=id
  ·rw[if_pos q'] at h2; cases h2
  ·rw[if_neg q'] at h2
   by_cases q:x=id
   ·rw[if_pos q]; exact hmin y hy v h2
   ·rw[if_neg q] at h ⊢; exact d.ord x y hx hy h v h2
 ·try simp only at h ⊢
  have h':0<=c y/\c y=v\/m y=some v:=by
   by_cases q:y=id
   ·subst q
    rw[if_pos rfl,if_pos rfl] at h
    rcases h with h|h
    ·exact .inr (by rw[hm,h.2])
    ·cases h
   ·rw[if_neg q,if_neg q] at h; exact h
  rcases d.par y hy v h' with z|⟨x,w,z1,z2,z3,z4,z5,z6,z7⟩
  ·exact .inl z
  ·refine .inr ⟨x,w,z1,z2,?_,z4,z5,?_,fun _=>?_⟩
   ·by_cases q:x=id
    ·rw[if_pos q]; exact q2
    ·rw[if_neg q]; exact z3
   ·by_cases q:x=id
    ·subst q; omega
    ·rw[if_neg q]; exact z6
   ·have hxi:x≠id:=fun q=>by subst q; omega
    rw[if_neg hxi]
    by_cases q:y=id
    ·rw[if_pos q]; exact d.rk x z1 z3
    ·rw[if_neg q]
     refine z7 ?_
     rw[if_neg q,if_neg q] at h
     rcases h with h|h
     ·exact h.1
     ·have h0:0<=c y\/¬0<=c y:=by omega
      rcases h0 with h0|h0
      ·exact h0
      ·rename_i hc
       simp only[if_neg q] at hc
       exact hc
 ·try simp only at h ⊢
  by_cases q:x=id
  ·rw[if_pos q]; omega
  ·rw[if_neg q] at h ⊢; have:=d.rk x hx h; omega
 ·try simp only at h
  have h':0<=c x/\c x=v\/m x=some v:=by
   by_cases q:x=id
   ·subst q
    rw[if_pos rfl,if_pos rfl] at h
    rcases h with h|h
    ·exact .inr (by rw[hm,h.2])
    ·cases h
   ·rw[if_neg q,if_neg q] at h; exact h
  have:=d.bnd x hx v h'
  omega
 ·rw[if_pos rfl]
  by_cases q:x=id
  ·rw[if_pos q]; omega
  ·rw[if_neg q] at h ⊢; exact d.ord x id hx hid h key hm
theorem DI.skip {c:Nat->Int}{m:Nat->Option Int}{e f:Nat->Int}{r:Nat->Nat}{k id y ed:Nat}{w:Int}{todo:List Hop}(d:DI n W A st id ((y,ed,w)::todo) c m e f r k)(h:0<=c y\/∃v,m y=some v/\v<=c id+w):DI n W A st id todo c m e f r k:=by
 refine ⟨d.fin,d.neg,d.que,fun x hx h1 y' e' w' h2=>?_,d.sta,d.ord,d.par,d.rk,d.bnd,d.mx⟩
 rcases d.rel x hx h1 _ _ _ h2 with ⟨rfl,z⟩|z
 ·rcases List.mem_cons.1 z with z|z
  ·injection z with z1 z2
   injection z2 with z2 z3
   subst z1 z2 z3
   exact .inr h
  ·exact .inl ⟨rfl,z⟩
 ·exact .inr z
theorem DI.put {c:Nat->Int}{m:Nat->Option Int}{e f:Nat->Int}{r:Nat->Nat}{k id y ed:Nat}{w:Int}{todo:List Hop}(g:GOk n W A)(d:DI n W A st id ((y,ed,w)::todo) c m e f r (k+1))(hid:id<n)(hc:0<=c id)(hA:(y,ed,w)∈A id)(hy:c y<0)(hm:∀v,m y=some v->c id+w<v)(hk:c id<=k*W) :
  DI n W A st id todo c (fun x=>if x=y then some (c id+w) else m x) (fun x=>if x=y then (ed:Int) else e x) (fun x=>if x=y then (id:Int) else f x) r (k+1):=by
 have hh:=g.hop id hid _ _ _ hA
 have hyn:=d.neg y hh.1 (by omega)
 obtain ⟨⟨l,hl⟩,_⟩:=d.fin id hid hc
 refine ⟨d.fin,d.neg,fun x hx v h=>?_,fun x hx h1 y' e' w' h2=>?_,fun x hx h=>?_,fun x z hx hz h v h2=>?_,fun z hz v h=>?_,d.rk,fun x hx v h=>?_,d.mx⟩
 ·try simp only at h
  by_cases q:x=y
  ·subst q
   rw[if_pos rfl] at h
   injection h with h
   subst h
   exact ⟨hyn,by omega,_,.snoc hl hA⟩
  ·rw[if_neg q] at h; exact d.que x hx v h
 ·try simp only
  have key:∀z,(0<=c z\/∃v,m z=some v/\v<=c x+w')->(0<=c z\/∃v,(if z=y then some (c id+w) else m z)=some v/\v<=c x+w'):=by
   rintro z (q|⟨v,q1,q2⟩)
   ·exact .inl q
   ·by_cases qz:z=y
    ·subst qz
     right
     exact ⟨c id+w,by rw[if_pos rfl],by have:=hm v q1; omega⟩
    ·exact .inr ⟨v,by rw[if_neg qz]; exact q1,q2⟩
  rcases d.rel x hx h1 _ _ _ h2 with ⟨rfl,z⟩|z
  ·rcases List.mem_cons.1 z with z|z
   ·injection z with z1 z2
    injection z2 with z2 z3
    subst z1 z2 z3
    exact .inr (.inr ⟨c x+w',by rw[if_pos rfl],Int.le_refl _⟩)
   ·exact .inl ⟨rfl,z⟩
  ·exact .inr (key _ z)
 ·try simp only
  rcases d.sta x hx h with q|q
  ·exact .inl q
  ·by_cases qz:x=y
   ·subst qz
    have:=hm 0 q
    omega
   ·right; rw[if_neg qz]; exact q
 ·try simp only at h2
  by_cases q:z=y
  ·subst q
   rw[if_pos rfl] at h2
   injection h2 with h2
   subst h2
   have:=d.mx x hx h; omega
  ·rw[if_neg q] at h2; exact d.ord x z hx hz h v h2
 ·try simp only at h ⊢
  by_cases q:z=y
  ·subst q
   rw[if_pos rfl] at h
   right
   have hv:v=c id+w:=by
    rcases h with h|h
    ·omega
    ·injection h with h; exact h.symm
   refine ⟨id,w,hid,by rw[if_pos rfl],hc,by rw[if_pos rfl]; omega,by rw[if_pos rfl]; simpa using hA,hv,fun h=>by omega⟩
  ·rw[if_neg q] at h
   rw[if_neg q,if_neg q]
   exact d.par z hz v h
 ·try simp only at h
  by_cases q:x=y
  ·subst q
   rw[if_pos rfl] at h
   have hv:v=c id+w:=by
    rcases h with h|h
    ·omega
    ·injection h with h; exact h.symm
   rw[Int.natCast_add,Int.add_mul]
   omega
  ·rw[if_neg q] at h; exact d.bnd x hx v h
end
end Go.Gm
namespace Go.Gm
def sumN (f:Nat->Int):Nat->Int
 |0=>0
 |n+1=>sumN f n+f n
theorem a0X {f g:Nat->Int}:∀n,(∀x,x<n->f x=g x)->sumN f n=sumN g n
 |0,_=>rfl
 |n+1,h=>by rw[sumN,sumN,a0X n fun x hx=>h x (by omega),h n (by omega)]
theorem a5n {f:Nat->Int}{y:Nat}{a:Int}:∀n,y<n->sumN (fun x=>if x=y then a else f x) n=sumN f n-f y+a
 |0,h=>by omega
 |n+1,h=>by
  rw[sumN,sumN]
  by_cases q:y=n
  ·subst q
   rw[if_pos rfl,a0X y (g:=f) fun x hx=>if_neg (by omega)]
   omega
  ·rw[if_neg (fun z=>q z.symm),a5n n (by omega)]
   omega
theorem a4V {f:Nat->Int}:∀n,(∀x,x<n->0<=f x)->0<=sumN f n
 |0,_=>Int.le_refl _
 |n+1,h=>by
  have:=a4V n fun x hx=>h x (by omega)
  have:=h n (by omega)
  rw[sumN]; omega
theorem a8A {f:Nat->Int}:∀n,(∀x,x<n->f x<=1)->sumN f n<=n
 |0,_=>Int.le_refl _
 |n+1,h=>by
  have:=a8A n fun x hx=>h x (by omega)
  have:=h n (by omega)
  rw[sumN]; omega
def up (c:Nat->Int)(y:Nat)(v:Int):Nat->Int:=fun x=>if x=y then v else c x
def un (n:Nat)(c:Nat->Int):Int:=sumN (fun x=>if c x<0 then 1 else 0) n
def mu (n:Nat)(W:Int)(c:Nat->Int):Int:=sumN (fun x=>if c x<0 then n*W+1 else c x) n
theorem s4_ (n:Nat)(c:Nat->Int):0<=un n c:=a4V n fun x _=>by split<;>omega
theorem un_le (n:Nat)(c:Nat->Int):un n c<=n:=a8A n fun x _=>by split<;>omega
theorem un_up {n:Nat}{c:Nat->Int}{y:Nat}{v:Int}(hy:y<n)(hv:0<=v):un n (up c y v)=un n c-if c y<0 then 1 else 0:=by
 have:un n (up c y v)=sumN (fun x=>if x=y then 0 else (fun x=>if c x<0 then (1:Int) else 0) x) n:=by
  refine a0X n fun x hx=>?_
  by_cases q:x=y
  ·have e:up c y v x=v:=if_pos q
   simp only[e,if_pos q]
   rw[if_neg (by omega)]
  ·have e:up c y v x=c x:=if_neg q
   simp only[e,if_neg q]
 rw[this,a5n n hy,un]
 omega
structure RI (n:Nat) (W:Int) (A:Nat->List Hop) (st:Nat->Prop) (c:Nat->Int):Prop where
 wk:∀x,x<n->0<=c x->∃l,Wk A st x l (c x)
 neg:∀x,x<n->¬0<=c x->c x = -1
 sta:∀x,x<n->st x->c x=0
 bnd:∀x,x<n->c x+un n c*W<=n*W
def LC (n:Nat)(A:Nat->List Hop)(st:Nat->Prop)(c:Nat->Int):Prop:=∀x,x<n->(0<=c x/\Lst A st x (c x))\/(c x = -1/\∀l v,¬Wk A st x l v)
section
variable {n:Nat} {W:Int} {A:Nat->List Hop} {st:Nat->Prop} {c:Nat->Int}
theorem LC.uniq {d:Nat->Int}(a:LC n A st c)(b:LC n A st d):∀x,x<n->c x=d x:=by
 intro x hx
 rcases a x hx with ⟨a1,a2⟩|⟨a1,a2⟩<;>rcases b x hx with ⟨b1,b2⟩|⟨b1,b2⟩
 ·exact a2.uniq b2
 ·obtain ⟨⟨l,h⟩,_⟩:=a2
  exact absurd h (b2 _ _)
 ·obtain ⟨⟨l,h⟩,_⟩:=b2
  exact absurd h (a2 _ _)
 ·omega
theorem RI.le (hW:0<=W)(r:RI n W A st c){x:Nat}(hx:x<n):-1<=c x/\c x<=n*W:=by
 have h1:=r.bnd x hx
 have h2:0<=un n c*W:=Int.mul_nonneg (s4_ n c) hW
 have h3:=r.neg x hx
 omega
theorem RI.lst (g:GOk n W A)(hs:∀x,st x->x<n)(r:RI n W A st c)(hd:∀x,x<n->0<=c x->∀y e w,(y,e,w)∈A x->0<=c y/\c y<=c x+w):LC n A st c:=by
 have all:∀y l v,Wk A st y l v->0<=c y/\c y<=v:=by
  intro y l v h
  induction h with
  |nil h=>have:=r.sta _ (hs _ h) h; omega
  |snoc h1 h2 ih=>have:=hd _ (Wk.range g hs h1).1 ih.1 _ _ _ h2; omega
 intro x hx
 by_cases q:0<=c x
 ·exact .inl ⟨q,r.wk x hx q,fun l v h=>(all x l v h).2⟩
 ·exact .inr ⟨r.neg x hx q,fun l v h=>q (all x l v h).1⟩
theorem DI.lc {m:Nat->Option Int}{e f:Nat->Int}{r:Nat->Nat}{k id:Nat}(g:GOk n W A)(hs:∀x,st x->x<n)(d:DI n W A st id [] c m e f r k)(hm:∀x,x<n->m x=none):LC n A st c:=by
 intro x hx
 by_cases q:0<=c x
 ·exact .inl ⟨q,d.fin x hx q⟩
 ·exact .inr ⟨d.neg x hx q,fun l v h=>q (d.all g hs hm h).1⟩
theorem RI.start (g:GOk n W A){x0:Nat}(h0:x0<n)(hst:∀x,st x↔x=x0)(hc:∀x,x<n->c x=if x=x0 then 0 else -1):RI n W A st c:=by
 have hW:=g.w0
 have hu:un n c=n-1:=by
  have:un n c=sumN (fun x=>if x=x0 then 0 else (fun _=>(1:Int)) x) n:=by
   refine a0X n fun x hx=>?_
   simp only[hc x hx]
   by_cases q:x=x0
   ·rw[if_pos q,if_pos q,if_neg (by omega)]
   ·rw[if_neg q,if_neg q,if_pos (by omega)]
  have e1:∀n:Nat,sumN (fun _=>(1:Int)) n=n:=by
   intro n
   induction n with
   |zero=>rfl
   |succ n ih=>rw[sumN,ih]; omega
  rw[this,a5n n h0,e1]
  omega
 refine ⟨fun x hx h=>?_,fun x hx h=>?_,fun x hx h=>?_,fun x hx=>?_⟩
 ·rw[hc x hx] at h ⊢
  by_cases q:x=x0
  ·rw[if_pos q]; exact ⟨[],.nil ((hst x).2 q)⟩
  ·rw[if_neg q] at h; omega
 ·rw[hc x hx] at h ⊢
  by_cases q:x=x0
  ·rw[if_pos q] at h; omega
  ·rw[if_neg q]
 ·rw[hc x hx,if_pos ((hst x).1 h)]
 ·rw[hc x hx,hu,Int.sub_mul]
  have:(1:Int)*W=W:=Int.one_mul W
  split<;>omega
end
end Go.Gm
namespace Go.Gm
theorem tb_or (s q p:Nat):(s ||| 2 ^ q).testBit p=(s.testBit p || decide (p=q)):=by
 rw[Nat.testBit_or,Nat.testBit_two_pow]
 by_cases h:q=p
 ·subst h; simp
 ·simp[h,Ne.symm h]
def clo1 (fr:List (Nat × Nat))(s:Nat):Nat:=fr.foldl (fun s f=>if s.testBit f.1 then s ||| 2 ^ f.2 else s) s
def cloN (fr:List (Nat × Nat)):Nat->Nat->Nat
 |0,s=>s
 |k+1,s=>if clo1 fr s=s then s else cloN fr k (clo1 fr s)
def cloF (n:Nat)(fr:List (Nat × Nat))(s:Nat):Nat:=cloN fr (n+1) s
inductive Rch (fr:List (Nat × Nat)) (s:Nat):Nat->Prop
 |here {p:Nat}:s.testBit p=true->Rch fr s p
 |on {p q:Nat}:Rch fr s p->(p,q)∈fr->Rch fr s q
theorem Rch.mono {fr:List (Nat × Nat)}{s t:Nat}(h:∀p,s.testBit p=true->Rch fr t p){p:Nat}(k:Rch fr s p):Rch fr t p:=by
 induction k with
 |here h1=>exact h _ h1
 |on _ h2 ih=>exact .on ih h2
theorem a4N (fr0:List (Nat × Nat)):∀(fr:List (Nat × Nat)) (s:Nat),(∀f∈fr,f∈fr0)->(∀p,s.testBit p=true->(clo1 fr s).testBit p=true)/\(∀p,(clo1 fr s).testBit p=true->Rch fr0 s p)
 |[],s,_=>⟨fun p h=>h,fun p h=>.here h⟩
 |f::fr,s,hf=>by
  simp only[clo1,List.foldl_cons]
  by_cases h:s.testBit f.1=true
  ·rw[if_pos h]
   obtain ⟨h1,h2⟩:=a4N fr0 fr (s ||| 2 ^ f.2) fun g hg=>hf g (List.mem_cons_of_mem _ hg)
   refine ⟨fun p hp=>h1 p (by rw[tb_or,hp]; rfl),fun p hp=>(h2 p hp).mono fun q hq=>?_⟩
   rw[tb_or,Bool.or_eq_true,decide_eq_true_eq] at hq
   rcases hq with hq|hq
   ·exact .here hq
   ·rw[hq]; exact .on (.here h) (hf f (List.mem_cons_self ..))
  ·rw[if_neg h]
   exact a4N fr0 fr s fun g hg=>hf g (List.mem_cons_of_mem _ hg)
theorem a5o:∀(fr:List (Nat × Nat)) (s:Nat),clo1 fr s=s->∀f∈fr,s.testBit f.1=true->s.testBit f.2=true
 |[],s,_=>fun f hf=>by cases hf
 |f::fr,s,h=>by
  simp only[clo1,List.foldl_cons] at h
  intro g hg hs
  by_cases h1:s.testBit f.1=true
  ·rw[if_pos h1] at h
   have h2:s.testBit f.2=true:=by
    have:=(a4N fr fr (s ||| 2 ^ f.2) fun _ z=>z).1 f.2 (by rw[tb_or]; simp)
    rw[show clo1 fr (s ||| 2 ^ f.2)=s from h] at this
    exact this
   have h3:s ||| 2 ^ f.2=s:=by
    refine Nat.eq_of_testBit_eq fun p=>?_
    rw[tb_or]
    by_cases q:p=f.2
    ·subst q; rw[h2]; rfl
    ·simp[q]
   rw[h3] at h
   rcases List.mem_cons.1 hg with rfl|hg
   ·exact h2
   ·exact a5o fr s h g hg hs
  ·rw[if_neg h1] at h
   rcases List.mem_cons.1 hg with rfl|hg
   ·exact absurd hs h1
   ·exact a5o fr s h g hg hs
def outN (n s:Nat):Int:=un n fun p=>if s.testBit p=true then 0 else -1
theorem a8B {c d:Nat->Int}:∀n,(∀x,x<n->c x<0->d x<0)->un n c<=un n d
 |0,_=>Int.le_refl _
 |n+1,h=>by
  have h1:=a8B n fun x hx=>h x (by omega)
  show un n c+(if c n<0 then 1 else 0)<=un n d+(if d n<0 then 1 else 0)
  by_cases q:c n<0
  ·rw[if_pos q,if_pos (h n (by omega) q)]; omega
  ·rw[if_neg q]; split<;>omega
theorem un_lt {c d:Nat->Int}:∀n,(∀x,x<n->c x<0->d x<0)->∀x,x<n->¬c x<0->d x<0->un n c<un n d
 |0,_,x,hx,_,_=>by omega
 |n+1,h,x,hx,h1,h2=>by
  have h3:=a8B n fun x hx=>h x (by omega)
  show un n c+(if c n<0 then 1 else 0)<un n d+(if d n<0 then 1 else 0)
  by_cases q:x=n
  ·subst q; rw[if_neg h1,if_pos h2]; omega
  ·have h4:=un_lt n (fun x hx=>h x (by omega)) x (by omega) h1 h2
   by_cases q:c n<0
   ·rw[if_pos q,if_pos (h n (by omega) q)]; omega
   ·rw[if_neg q]; split<;>omega
theorem b2l {n s t:Nat}(h:∀p,s.testBit p=true->t.testBit p=true)(hn:∀p,t.testBit p=true->p<n)(hne:t≠s):outN n t<outN n s:=by
 obtain ⟨p,hp⟩:∃p,t.testBit p≠s.testBit p:=by
  refine Classical.byContradiction fun z=>hne (Nat.eq_of_testBit_eq fun p=>?_)
  exact Classical.byContradiction fun y=>z ⟨p,y⟩
 have ht:t.testBit p=true:=by
  cases hs:s.testBit p with
  |true=>exact h p hs
  |false=>rw[hs] at hp; simpa using hp
 have hs:¬s.testBit p=true:=fun z=>hp (by rw[ht,z])
 refine un_lt n (fun x hx h1=>?_) p (hn p ht) (by simp[ht]) (by simp[hs])
 by_cases q:s.testBit x=true
 ·rw[if_pos (h x q)] at h1; omega
 ·rw[if_neg q]; omega
theorem a8C {fr:List (Nat × Nat)}{n:Nat}(hf:∀f∈fr,f.2<n):∀(k s:Nat),(∀p,s.testBit p=true->p<n)->outN n s<k->clo1 fr (cloN fr k s)=cloN fr k s/\(∀p,s.testBit p=true->(cloN fr k s).testBit p=true)/\(∀p,(cloN fr k s).testBit p=true->Rch fr s p)
 |0,s,_,h=>by
  have:=s4_ n fun p=>if s.testBit p=true then 0 else -1
  unfold outN at h
  omega
 |k+1,s,hs,h=>by
  obtain ⟨h1,h2⟩:=a4N fr fr s fun _ z=>z
  rw[cloN]
  by_cases q:clo1 fr s=s
  ·rw[if_pos q]; exact ⟨q,fun p hp=>hp,fun p hp=>.here hp⟩
  ·rw[if_neg q]
   have hlt:∀p,(clo1 fr s).testBit p=true->p<n:=fun p hp=>by
    have:=h2 p hp
    cases this with
    |here h3=>exact hs p h3
    |on _ h4=>exact hf _ h4
   have:=b2l h1 hlt q
   obtain ⟨k1,k2,k3⟩:=a8C hf k (clo1 fr s) hlt (by omega)
   exact ⟨k1,fun p hp=>k2 p (h1 p hp),fun p hp=>(k3 p hp).mono h2⟩
theorem a2C {fr:List (Nat × Nat)}{n s:Nat}(hf:∀f∈fr,f.2<n)(hs:∀p,s.testBit p=true->p<n)(p:Nat):(cloF n fr s).testBit p=true↔Rch fr s p:=by
 have hle:outN n s<(n+1:Nat):=by
  have:=un_le n fun p=>if s.testBit p=true then 0 else -1
  unfold outN
  omega
 obtain ⟨h1,h2,h3⟩:=a8C hf (n+1) s hs hle
 refine ⟨h3 p,fun h=>?_⟩
 induction h with
 |here h=>exact h2 _ h
 |on _ h4 ih=>exact a5o fr _ h1 _ h4 ih
theorem a7v {fr:List (Nat × Nat)}{n s:Nat}(hf:∀f∈fr,f.2<n)(hs:∀p,s.testBit p=true->p<n){p:Nat}(h:Rch fr s p):p<n:=by
 cases h with
 |here h=>exact hs _ h
 |on _ h4=>exact hf _ h4
def stpF (st:List (Nat × Nat × Nat))(s m:Nat):Nat:=st.foldl (fun t x=>if s.testBit x.1 && x.2.2.testBit m then t ||| 2 ^ x.2.1 else t) 0
theorem a5Z {s m:Nat}:∀(st:List (Nat × Nat × Nat)) (t p:Nat),(st.foldl (fun t x=>if s.testBit x.1 && x.2.2.testBit m then t ||| 2 ^ x.2.1 else t) t).testBit p=true↔t.testBit p=true\/∃x∈st,s.testBit x.1=true/\x.2.2.testBit m=true/\x.2.1=p
 |[],t,p=>by simp
 |x::st,t,p=>by
  rw[List.foldl_cons]
  by_cases h:(s.testBit x.1 && x.2.2.testBit m)=true
  ·rw[if_pos h,a5Z st,tb_or]
   rw[Bool.and_eq_true] at h
   simp only[Bool.or_eq_true,decide_eq_true_eq,List.mem_cons,exists_eq_or_imp]
   constructor
   ·rintro ((h1|h1)|h1)
    ·exact .inl h1
    ·exact .inr (.inl ⟨h.1,h.2,h1.symm⟩)
    ·exact .inr (.inr h1)
   ·rintro (h1|⟨_,_,h1⟩|h1)
    ·exact .inl (.inl h1)
    ·exact .inl (.inr h1.symm)
    ·exact .inr h1
  ·rw[if_neg h,a5Z st]
   rw[Bool.and_eq_true] at h
   simp only[List.mem_cons,exists_eq_or_imp]
   constructor
   ·rintro (h1|h1)
    ·exact .inl h1
    ·exact .inr (.inr h1)
   ·rintro (h1|⟨h1,h2,_⟩|h1)
    ·exact .inl h1
    ·exact absurd ⟨h1,h2⟩ h
    ·exact .inr h1
theorem a2D {st:List (Nat × Nat × Nat)}{s m p:Nat}:(stpF st s m).testBit p=true↔∃x∈st,s.testBit x.1=true/\x.2.2.testBit m=true/\x.2.1=p:=by
 rw[stpF,a5Z]; simp
def idxF (x:Nat):Nat->List Nat->Option Nat
 |_,[]=>none
 |i,y::l=>if y=x then some i else idxF x (i+1) l
def rowF (nf:NF)(lim s:Nat):Nat->Nat->List Nat->List Int->Option (List Nat × List Int)
 |0,_,sets,row=>some (sets,row)
 |k+1,m,sets,row=>
  let to:=cloF nf.n nf.fr (stpF nf.st s m)
  match idxF to 0 sets with
  |some j=>rowF nf lim s k (m+1) sets (row++[(j:Int)])
  |none=>if lim<=sets.length then none else rowF nf lim s k (m+1) (sets++[to]) (row++[(sets.length:Int)])
def subL (nf:NF)(lim:Nat):Nat->Nat->List Nat->List (List Int)->List Bool->Option (List (List Int) × List Bool)
 |0,_,_,_,_=>none
 |f+1,i,sets,D,acc=>match sets[i]? with
  |none=>some (D,acc)
  |some s=>match rowF nf lim s 5 0 sets [] with
   |none=>none
   |some (sets',row)=>subL nf lim f (i+1) sets' (D++[row]) (acc++[s.testBit nf.e])
def subF (nf:NF)(lim:Nat):Option (List (List Int) × List Bool):=subL nf lim (lim+2) 0 [cloF nf.n nf.fr (2 ^ nf.s)] [] []
end Go.Gm
namespace Go.Gm
abbrev Stp:=List (Nat × Nat × Nat)
abbrev Fre:=List (Nat × Nat)
inductive Pt (w:List Int) (st:Stp) (fr:Fre) (q i:Nat):Nat->Nat->Prop
 |refl:Pt w st fr q i q i
 |free {p r j:Nat}:Pt w st fr q i p j->(p,r)∈fr->Pt w st fr q i r j
 |step {p r k j:Nat}:Pt w st fr q i p j->(p,r,k)∈st->hit w k j->Pt w st fr q i r (j+1)
section
variable {w:List Int} {st st':Stp} {fr fr':Fre}
theorem Pt.trans {q i p j r k:Nat}(a:Pt w st fr q i p j)(b:Pt w st fr p j r k):Pt w st fr q i r k:=by
 induction b with
 |refl=>exact a
 |free _ h ih=>exact .free ih h
 |step _ h1 h2 ih=>exact .step ih h1 h2
theorem Pt.one {q p i:Nat}(h:(q,p)∈fr):Pt w st fr q i p i:=.free .refl h
theorem Pt.mono (h1:∀x∈st,x∈st')(h2:∀x∈fr,x∈fr'){q i p j:Nat}(a:Pt w st fr q i p j):Pt w st' fr' q i p j:=by
 induction a with
 |refl=>exact .refl
 |free _ h ih=>exact .free ih (h2 _ h)
 |step _ h k ih=>exact .step ih (h1 _ h) k
def Clo (w:List Int)(st:Stp)(fr:Fre)(V:Nat->Nat->Prop):Prop:=(∀p r,(p,r)∈fr->∀j,V p j->V r j)/\∀p r k,(p,r,k)∈st->∀j,V p j->hit w k j->V r (j+1)
theorem Clo.pt {V:Nat->Nat->Prop}(c:Clo w st fr V){q i p j:Nat}(h:V q i)(a:Pt w st fr q i p j):V p j:=by
 induction a with
 |refl=>exact h
 |free _ h ih=>exact c.1 _ _ h _ ih
 |step _ h k ih=>exact c.2 _ _ _ h _ ih k
end
structure Frg (n:Nd) (b b':NS) (s e:Nat) (S:Stp) (F:Fre):Prop where
 st:b'.st=b.st++S
 fr:b'.fr=b.fr++F
 ls:b.n<=s/\s<b'.n
 le:b.n<=e/\e<b'.n
 eS:∀x∈S,b.n<=x.1/\x.1<b'.n/\b.n<=x.2.1/\x.2.1<b'.n
 eF:∀x∈F,b.n<=x.1/\x.1<b'.n/\b.n<=x.2/\x.2<b'.n
 com:∀w i j,R w n i j->Pt w S F s i e j
 snd:∀(w:List Int) (A:Nat->Prop),∃V:Nat->Nat->Prop,(∀q j,V q j->b.n<=q/\q<b'.n)/\Clo w S F V/\(∀j,A j->V s j)/\∀j,V e j->∃i,A i/\R w n i j
structure Frs (ns:List Nd) (b b':NS) (ft:List (Nat × Nat)) (S:Stp) (F:Fre):Prop where
 st:b'.st=b.st++S
 fr:b'.fr=b.fr++F
 len:ft.length=ns.length
 le:b.n<=b'.n
 lt:∀(k:Nat) (x:Nat × Nat),ft[k]?=some x->b.n<=x.1/\x.1<b'.n/\b.n<=x.2/\x.2<b'.n
 eS:∀x∈S,b.n<=x.1/\x.1<b'.n/\b.n<=x.2.1/\x.2.1<b'.n
 eF:∀x∈F,b.n<=x.1/\x.1<b'.n/\b.n<=x.2/\x.2<b'.n
 com:∀w (k:Nat) (x:Nat × Nat) n,ft[k]?=some x->ns[k]?=some n->∀i j,R w n i j->Pt w S F x.1 i x.2 j
 snd:∀(w:List Int) (A:Nat->Nat->Prop),∃V:Nat->Nat->Prop,(∀q j,V q j->b.n<=q/\q<b'.n)/\Clo w S F V/\∀(k:Nat) (x:Nat × Nat) n,ft[k]?=some x->ns[k]?=some n->(∀j,A k j->V x.1 j)/\∀j,V x.2 j->∃i,A k i/\R w n i j
theorem Frs.nil (b:NS):Frs [] b b [] [] []:=
 ⟨by simp,by simp,rfl,Nat.le_refl _,(fun k x h=>by simp at h),(fun x h=>by cases h),(fun x h=>by cases h),(fun w k x n h=>by simp at h),fun w A=>⟨fun _ _=>False,fun _ _ h=>h.elim,⟨(fun _ _ h=>by cases h),(fun _ _ _ h=>by cases h)⟩,fun k x n h=>by simp at h⟩⟩
theorem Frs.cons {n:Nd}{ns:List Nd}{b b1 b2:NS}{x:Nat × Nat}{ft:List (Nat × Nat)}{S S':Stp}{F F':Fre}(a:Frg n b b1 x.1 x.2 S F)(c:Frs ns b1 b2 ft S' F'):Frs (n::ns) b b2 (x::ft) (S++S') (F++F'):=by
 have h1:=a.ls
 have h2:=a.le
 have h3:=c.le
 refine ⟨by rw[c.st,a.st,List.append_assoc],by rw[c.fr,a.fr,List.append_assoc],by simp[c.len],by omega,fun k y h=>?_,fun y h=>?_,fun y h=>?_,fun w k y m h h' i j hr=>?_,fun w A=>?_⟩
 ·cases k with
  |zero=>simp at h; subst h; omega
  |succ k=>have:=c.lt k y (by simpa using h); omega
 ·rcases List.mem_append.1 h with h|h
  ·have:=a.eS y h; omega
  ·have:=c.eS y h; omega
 ·rcases List.mem_append.1 h with h|h
  ·have:=a.eF y h; omega
  ·have:=c.eF y h; omega
 ·cases k with
  |zero=>
   simp at h h'
   subst h h'
   exact (a.com w i j hr).mono (fun z hz=>List.mem_append_left _ hz) fun z hz=>List.mem_append_left _ hz
  |succ k=>exact (c.com w k y m (by simpa using h) (by simpa using h') i j hr).mono (fun z hz=>List.mem_append_right _ hz) fun z hz=>List.mem_append_right _ hz
 ·obtain ⟨V,v1,v2,v3,v4⟩:=a.snd w (A 0)
  obtain ⟨U,u1,u2,u3⟩:=c.snd w (fun k=>A (k+1))
  refine ⟨fun q j=>V q j\/U q j,fun q j h=>?_,⟨fun p r h j hv=>?_,fun p r k h j hv hh=>?_⟩,fun k y m h h'=>?_⟩
  ·rcases h with h|h
   ·have:=v1 q j h; omega
   ·have:=u1 q j h; omega
  ·rcases List.mem_append.1 h with h|h
   ·have he:=a.eF _ h
    rcases hv with hv|hv
    ·exact .inl (v2.1 p r h j hv)
    ·have:=u1 p j hv; simp only at he; omega
   ·have he:=c.eF _ h
    rcases hv with hv|hv
    ·have:=v1 p j hv; simp only at he; omega
    ·exact .inr (u2.1 p r h j hv)
  ·rcases List.mem_append.1 h with h|h
   ·have he:=a.eS _ h
    rcases hv with hv|hv
    ·exact .inl (v2.2 p r k h j hv hh)
    ·have:=u1 p j hv; simp only at he; omega
   ·have he:=c.eS _ h
    rcases hv with hv|hv
    ·have:=v1 p j hv; simp only at he; omega
    ·exact .inr (u2.2 p r k h j hv hh)
  ·cases k with
   |zero=>
    simp at h h'
    subst h h'
    refine ⟨fun j hj=>.inl (v3 j hj),fun j hj=>?_⟩
    rcases hj with hj|hj
    ·exact v4 j hj
    ·have:=u1 _ j hj; omega
   |succ k=>
    have hk:ft[k]?=some y:=by simpa using h
    obtain ⟨w1,w2⟩:=u3 k y m hk (by simpa using h')
    have hl:=c.lt k y hk
    refine ⟨fun j hj=>.inr (w1 j hj),fun j hj=>?_⟩
    rcases hj with hj|hj
    ·have:=v1 _ j hj; omega
    ·exact w2 j hj
def PSp (p:NS->List (Nat × Nat) × NS)(ns:List Nd):Prop:=∀b,(p b).2.much=false->b.much=false/\∃S F,Frs ns b (p b).2 (p b).1 S F
def NSp (n:Nd):Prop:=∀b,(NS.part n b).2.much=false->b.much=false/\∃S F,Frg n b (NS.part n b).2 (NS.part n b).1.1 (NS.part n b).1.2 S F
theorem PSp.none:PSp (fun b=>([],b)) []:=fun b h=>⟨h,[],[],Frs.nil b⟩
theorem a5p:∀(l:List Nd),(∀c∈l,NSp c)->PSp (NS.parts l) l
 |[],_=>fun b h=>⟨by simpa [NS.parts] using h,[],[],by simp only[NS.parts]; exact Frs.nil b⟩
 |n::l,hl=>fun b h=>by
  rw[NS.parts] at h ⊢
  by_cases q:b.much=true
  ·rw[if_pos q] at h; rw[q] at h; cases h
  ·rw[if_neg q] at h ⊢
   obtain ⟨h1,S',F',h2⟩:=a5p l (fun c hc=>hl c (List.mem_cons_of_mem _ hc)) _ h
   obtain ⟨h3,S,F,h4⟩:=hl n (by simp) b h1
   exact ⟨h3,_,_,Frs.cons h4 h2⟩
theorem a2E {n:Nd}(hn:NSp n):∀k,PSp (NS.times (NS.part n) k) (List.replicate k n)
 |0=>fun b h=>⟨by simpa [NS.times] using h,[],[],by simp only[NS.times]; exact Frs.nil b⟩
 |k+1=>fun b h=>by
  rw[NS.times] at h ⊢
  by_cases q:b.much=true
  ·rw[if_pos q] at h; rw[q] at h; cases h
  ·rw[if_neg q] at h ⊢
   obtain ⟨h1,S',F',h2⟩:=a2E hn k _ h
   obtain ⟨h3,S,F,h4⟩:=hn b h1
   exact ⟨h3,_,_,Frs.cons h4 h2⟩
theorem a7w {b:NS}(h:b.state.2.much=false):b.much=false/\b.state=(b.n,⟨b.n+1,b.much,b.st,b.fr⟩):=by
 rw[NS.state] at h ⊢
 by_cases q:1000<=b.n
 ·rw[if_pos q] at h; cases h
 ·rw[if_neg q] at h ⊢; exact ⟨h,rfl⟩
theorem b3p (b:NS)(s e:Nat)(l:List (Nat × Nat))(n:Nd):(b.lead s e l n).n=b.n/\(b.lead s e l n).much=b.much:=by
 cases n<;>exact ⟨rfl,rfl⟩
theorem u7_ {n:Nd}{ns:List Nd}{p:NS->List (Nat × Nat) × NS}(hp:PSp p ns)(b:NS)(h:(NS.around n p b).2.much=false) :
  b.much=false/\∃(b3:NS) (ft:List (Nat × Nat)) (S:Stp) (F:Fre),NS.around n p b=((b.n,b3.n-1),b3.lead b.n (b3.n-1) ft n)/\b.n+2<=b3.n/\Frs ns ⟨b.n+1,b.much,b.st,b.fr⟩ ⟨b3.n-1,b3.much,b3.st,b3.fr⟩ ft S F:=by
 simp only[NS.around] at h ⊢
 by_cases q:b.much=true
 ·rw[if_pos q] at h; rw[q] at h; cases h
 rw[if_neg q] at h ⊢
 simp only at h ⊢
 by_cases q2:(p b.state.2).2.state.2.much=true
 ·rw[if_pos q2] at h; rw[q2] at h; cases h
 rw[Bool.not_eq_true] at q2
 obtain ⟨h1,h2⟩:=a7w q2
 obtain ⟨h3,S,F,h4⟩:=hp _ h1
 obtain ⟨h5,h6⟩:=a7w h3
 rw[h6] at h1 h2 h4 ⊢
 simp only at h1 h2 h4 ⊢
 obtain ⟨r,hr⟩:∃r,p ⟨b.n+1,b.much,b.st,b.fr⟩=r:=⟨_,rfl⟩
 rw[hr] at h1 h2 h4 ⊢
 refine ⟨h5,⟨r.2.n+1,r.2.much,r.2.st,r.2.fr⟩,r.1,S,F,?_,?_,h4⟩
 ·rw[h2]
  simp only
  rw[if_neg (by rw[h1]; simp)]
  rfl
 ·have:=h4.le
  simp only at this ⊢
  omega
theorem Frs.around {n:Nd}{ns:List Nd}{b b3:NS}{ft:List (Nat × Nat)}{S S0:Stp}{F F0:Fre}(f:Frs ns ⟨b.n+1,b.much,b.st,b.fr⟩ ⟨b3.n-1,b3.much,b3.st,b3.fr⟩ ft S F)(h2:b.n+2<=b3.n)(hS:(b3.lead b.n (b3.n-1) ft n).st=b3.st++S0)(hF:(b3.lead b.n (b3.n-1) ft n).fr=b3.fr++F0)(eS:∀x∈S0,x.1=b.n/\x.2.1=b3.n-1)(eF:∀x∈F0,(x.1=b.n\/∃y∈ft,x.1=y.2)/\(x.2=b3.n-1\/∃y∈ft,x.2=y.1))(com:∀w i j,R w n i j->Pt w (S++S0) (F++F0) b.n i (b3.n-1) j)(snd:∀(w:List Int) (A:Nat->Prop),∃(B:Nat->Nat->Prop) (E:Nat->Prop),(∀j,E j->∃i,A i/\R w n i j)/\
   (∀p r k,(p,r,k)∈S0->∀j,A j->hit w k j->E (j+1))/\
   (∀V:Nat->Nat->Prop,(∀j,A j->V b.n j)->(∀j,V b.n j->A j)->(∀j,E j->V (b3.n-1) j)->(∀(k:Nat) (x:Nat × Nat) m,ft[k]?=some x->ns[k]?=some m->(∀j,B k j->V x.1 j)/\∀j,V x.2 j->∃i,B k i/\R w m i j)->∀p r,(p,r)∈F0->∀j,V p j->V r j)) :
  ∃S F,Frg n b (b3.lead b.n (b3.n-1) ft n) b.n (b3.n-1) S F:=by
 have hn:=(b3p b3 b.n (b3.n-1) ft n).1
 have hlt:∀y∈ft,b.n+1<=y.1/\y.1<b3.n-1/\b.n+1<=y.2/\y.2<b3.n-1:=fun y hy=>by
  obtain ⟨k,hk,h⟩:=List.getElem_of_mem hy
  exact f.lt k y (by rw[List.getElem?_eq_getElem hk,h])
 have fS:=f.eS
 have fF:=f.eF
 simp only at fS fF
 refine ⟨S++S0,F++F0,⟨by rw[hS,show b3.st=_ from f.st,List.append_assoc],by rw[hF,show b3.fr=_ from f.fr,List.append_assoc],by omega,by omega,fun x hx=>?_,fun x hx=>?_,com,fun w A=>?_⟩⟩
 ·rcases List.mem_append.1 hx with hx|hx
  ·have:=fS x hx; omega
  ·have:=eS x hx; omega
 ·rcases List.mem_append.1 hx with hx|hx
  ·have:=fF x hx; omega
  ·obtain ⟨h3,h4⟩:=eF x hx
   have h5:b.n<=x.1/\x.1<b3.n:=by
    rcases h3 with h3|⟨y,hy,h3⟩
    ·omega
    ·have:=hlt y hy; omega
   have h6:b.n<=x.2/\x.2<b3.n:=by
    rcases h4 with h4|⟨y,hy,h4⟩
    ·omega
    ·have:=hlt y hy; omega
   omega
 ·obtain ⟨B,E,s1,s2,s3⟩:=snd w A
  obtain ⟨V,v1,v2,v3⟩:=f.snd w B
  simp only at v1
  obtain ⟨U,hU⟩:∃U:Nat->Nat->Prop,U=fun q j=>(q=b.n/\A j)\/(q=b3.n-1/\E j)\/V q j:=⟨_,rfl⟩
  have u1:∀j,U b.n j->A j:=fun j h=>by
   rw[hU] at h
   rcases h with h|h|h
   ·exact h.2
   ·omega
   ·have:=v1 _ _ h; omega
  have u2:∀j,U (b3.n-1) j->E j:=fun j h=>by
   rw[hU] at h
   rcases h with h|h|h
   ·omega
   ·exact h.2
   ·have:=v1 _ _ h; omega
  have u3:∀q j,b.n+1<=q->q<b3.n-1->(U q j↔V q j):=fun q j h1 h2=>by
   rw[hU]
   constructor
   ·rintro (h|h|h)
    ·omega
    ·omega
    ·exact h
   ·exact fun h=>.inr (.inr h)
  have ua:∀j,A j->U b.n j:=fun j h=>by rw[hU]; exact .inl ⟨rfl,h⟩
  have ue:∀j,E j->U (b3.n-1) j:=fun j h=>by rw[hU]; exact .inr (.inl ⟨rfl,h⟩)
  refine ⟨U,fun q j h=>?_,⟨fun p r h j hv=>?_,fun p r k h j hv hh=>?_⟩,ua,fun j h=>s1 j (u2 j h)⟩
  ·rw[hU] at h
   rcases h with h|h|h
   ·omega
   ·omega
   ·have:=v1 _ _ h; omega
  ·rcases List.mem_append.1 h with h|h
   ·have:=fF _ h
    simp only at this
    rw[u3 p j (by omega) (by omega)] at hv
    rw[u3 r j (by omega) (by omega)]
    exact v2.1 p r h j hv
   ·refine s3 U ua u1 ue (fun k x m hk hm=>?_) p r h j hv
    obtain ⟨w1,w2⟩:=v3 k x m hk hm
    have hl:=f.lt k x hk
    simp only at hl
    exact ⟨fun j hj=>(u3 _ _ hl.1 hl.2.1).2 (w1 j hj),fun j hj=>w2 j ((u3 _ _ hl.2.2.1 hl.2.2.2).1 hj)⟩
  ·rcases List.mem_append.1 h with h|h
   ·have:=fS _ h
    simp only at this
    rw[u3 p j (by omega) (by omega)] at hv
    rw[u3 r (j+1) (by omega) (by omega)]
    exact v2.2 p r k h j hv hh
   ·have:=eS _ h
    simp only at this
    obtain ⟨rfl,rfl⟩:=this
    exact ue _ (s2 _ _ _ h j (u1 j hv) hh)
theorem a4O {α:Type}{l:List α}{x:α}(h:x∈l):∃k:Nat,l[k]?=some x:=by
 obtain ⟨k,hk,h⟩:=List.getElem_of_mem h
 exact ⟨k,by rw[List.getElem?_eq_getElem hk,h]⟩
theorem v4_ {α β:Type}{l:List α}{m:List β}(h:l.length=m.length){k:Nat}{x:α}(hk:l[k]?=some x):∃y,m[k]?=some y:=by
 have:=(List.getElem?_eq_some_iff.1 hk).1
 exact ⟨m[k],List.getElem?_eq_getElem (by omega)⟩
theorem b2m (k:Nat):NSp (.set k):=by
 intro b h
 rw[NS.part] at h ⊢
 obtain ⟨h1,b3,ft,S,F,h2,h3,h4⟩:=u7_ PSp.none b h
 rw[h2]
 refine ⟨h1,h4.around (S0:=[(b.n,b3.n-1,k)]) (F0:=[]) h3 rfl (by simp[NS.lead,NS.step]) (fun x hx=>by simp at hx; subst hx; exact ⟨rfl,rfl⟩) (fun x hx=>by cases hx) (fun w i j hr=>?_) fun w A=>⟨fun _ _=>False,fun j=>∃i,A i/\R w (.set k) i j,fun j h=>h,fun p r k' hx j hA hh=>?_,fun V _ _ _ _ p r hx=>by cases hx⟩⟩
 ·simp only[R] at hr
  obtain ⟨h5,rfl⟩:=hr
  exact .step .refl (by simp) h5
 ·simp at hx
  obtain ⟨_,_,rfl⟩:=hx
  exact ⟨j,hA,by simp only[R]; exact ⟨hh,trivial⟩⟩
theorem b2n:NSp .emp:=by
 intro b h
 rw[NS.part] at h ⊢
 obtain ⟨h1,b3,ft,S,F,h2,h3,h4⟩:=u7_ PSp.none b h
 rw[h2]
 refine ⟨h1,h4.around (S0:=[]) (F0:=[]) h3 (by simp[NS.lead]) (by simp[NS.lead]) (fun x hx=>by cases hx) (fun x hx=>by cases hx) (fun w i j hr=>?_) fun w A=>⟨fun _ _=>False,fun j=>∃i,A i/\R w .emp i j,fun j h=>h,(fun p r k' hx=>by cases hx),fun V _ _ _ _ p r hx=>by cases hx⟩⟩
 simp only[R] at hr
theorem b2o:NSp .eps:=by
 intro b h
 rw[NS.part] at h ⊢
 obtain ⟨h1,b3,ft,S,F,h2,h3,h4⟩:=u7_ PSp.none b h
 rw[h2]
 refine ⟨h1,h4.around (S0:=[]) (F0:=[(b.n,b3.n-1)]) h3 (by simp[NS.lead,NS.frees]) rfl (fun x hx=>by cases hx) (fun x hx=>by simp at hx; subst hx; exact ⟨.inl rfl,.inl rfl⟩) (fun w i j hr=>?_) fun w A=>⟨fun _ _=>False,fun j=>∃i,A i/\R w .eps i j,fun j h=>h,(fun p r k' hx=>by cases hx),fun V _ v2 v3 _ p r hx j hv=>?_⟩⟩
 ·simp only[R] at hr
  subst hr
  exact Pt.one (by simp)
 ·simp at hx
  obtain ⟨rfl,rfl⟩:=hx
  exact v3 j ⟨j,v2 j hv,by simp only[R]⟩
theorem b2p {l:List Nd}(hl:∀c∈l,NSp c):NSp (.uni l):=by
 intro b h
 rw[NS.part] at h ⊢
 obtain ⟨h1,b3,ft,S,F,h2,h3,h4⟩:=u7_ (a5p l hl) b h
 rw[h2]
 have mem:∀p r,(p,r)∈NS.uniE b.n (b3.n-1) ft↔∃x∈ft,(p=b.n/\r=x.1)\/(p=x.2/\r=b3.n-1):=fun p r=>by
  simp[NS.uniE,List.mem_flatMap]
 refine ⟨h1,h4.around (S0:=[]) (F0:=NS.uniE b.n (b3.n-1) ft) h3 (by simp[NS.lead,NS.frees]) rfl (fun x hx=>by cases hx) (fun x hx=>?_) (fun w i j hr=>?_) fun w A=>⟨fun _=>A,fun j=>∃i,A i/\R w (.uni l) i j,fun j h=>h,(fun p r k' hx=>by cases hx),fun V v1 v2 v3 v4 p r hx j hv=>?_⟩⟩
 ·obtain ⟨y,hy,h5|h5⟩:=(mem x.1 x.2).1 hx
  ·exact ⟨.inl h5.1,.inr ⟨y,hy,h5.2⟩⟩
  ·exact ⟨.inr ⟨y,hy,h5.1⟩,.inl h5.2⟩
 ·simp only[R] at hr
  obtain ⟨c,hc,hr⟩:=a7d.1 hr
  obtain ⟨k,hk⟩:=a4O hc
  obtain ⟨x,hx⟩:=v4_ h4.len.symm hk
  have hxm:=List.mem_of_getElem? hx
  refine .free ((Pt.one (List.mem_append_right _ ((mem _ _).2 ⟨x,hxm,.inl ⟨rfl,rfl⟩⟩))).trans ((h4.com w k x c hx hk i j hr).mono (fun z hz=>List.mem_append_left _ hz) fun z hz=>List.mem_append_left _ hz)) (List.mem_append_right _ ((mem _ _).2 ⟨x,hxm,.inr ⟨rfl,rfl⟩⟩))
 ·obtain ⟨x,hxm,h5|h5⟩:=(mem p r).1 hx
  ·obtain ⟨k,hk⟩:=a4O hxm
   obtain ⟨m,hm⟩:=v4_ h4.len hk
   rw[h5.2]
   rw[h5.1] at hv
   exact (v4 k x m hk hm).1 j (v2 j hv)
  ·obtain ⟨k,hk⟩:=a4O hxm
   obtain ⟨m,hm⟩:=v4_ h4.len hk
   rw[h5.2]
   rw[h5.1] at hv
   obtain ⟨i,h6,h7⟩:=(v4 k x m hk hm).2 j hv
   exact v3 j ⟨i,h6,by simp only[R]; exact a7d.2 ⟨m,List.mem_of_getElem? hm,h7⟩⟩
theorem a7x {n:Nd}{b b':NS}{ft:List (Nat × Nat)}{S:Stp}{F:Fre}(f:Frs (List.replicate 1 n) b b' ft S F):∃x,ft=[x]:=by
 have:=f.len
 match ft,this with
 |[x],_=>exact ⟨x,rfl⟩
theorem Star.snd {r:Nat->Nat->Prop}{a i j:Nat}(h:Star r a i)(k:r i j):∃m,r a m/\Star r m j:=by
 rcases Star.iff.1 h with rfl|⟨m,h1,h2⟩
 ·exact ⟨j,k,.refl _⟩
 ·exact ⟨m,h1,.tail h2 k⟩
theorem b0W {n:Nd}(hn:NSp n):NSp (.star n):=by
 intro b h
 rw[NS.part] at h ⊢
 obtain ⟨h1,b3,ft,S,F,h2,h3,h4⟩:=u7_ (a2E hn 1) b h
 rw[h2]
 obtain ⟨x,rfl⟩:=a7x h4
 have mem:∀p r,(p,r)∈[(b.n,x.1),(b.n,b3.n-1),(x.2,x.1),(x.2,b3.n-1)]↔(p=b.n/\r=x.1)\/(p=b.n/\r=b3.n-1)\/(p=x.2/\r=x.1)\/(p=x.2/\r=b3.n-1):=fun p r=>by simp
 have inS:∀{w:List Int} {i j:Nat},R w n i j->Pt w (S++[]) (F++[(b.n,x.1),(b.n,b3.n-1),(x.2,x.1),(x.2,b3.n-1)]) x.1 i x.2 j:=fun hr=>(h4.com _ 0 x n rfl rfl _ _ hr).mono (fun z hz=>List.mem_append_left _ hz) fun z hz=>List.mem_append_left _ hz
 refine ⟨h1,h4.around (S0:=[]) (F0:=[(b.n,x.1),(b.n,b3.n-1),(x.2,x.1),(x.2,b3.n-1)]) h3 (by simp[NS.lead,NS.frees]) rfl (fun x hx=>by cases hx) (fun y hy=>?_) (fun w i j hr=>?_) fun w A=>⟨fun _ j=>∃i,A i/\Star (R w n) i j,fun j=>∃i,A i/\R w (.star n) i j,fun j h=>h,(fun p r k' hx=>by cases hx),fun V v1 v2 v3 v4 p r hx j hv=>?_⟩⟩
 ·rcases (mem y.1 y.2).1 hy with h|h|h|h<;>simp[h]
 ·simp only[R] at hr
  have hx:i=j\/Pt w (S++[]) (F++[(b.n,x.1),(b.n,b3.n-1),(x.2,x.1),(x.2,b3.n-1)]) b.n i x.2 j:=by
   induction hr with
   |refl=>exact .inl rfl
   |tail _ h5 ih=>
    right
    rcases ih with rfl|ih
    ·exact (Pt.one (List.mem_append_right _ ((mem _ _).2 (.inl ⟨rfl,rfl⟩)))).trans (inS h5)
    ·exact (Pt.free ih (List.mem_append_right _ ((mem _ _).2 (.inr (.inr (.inl ⟨rfl,rfl⟩)))))).trans (inS h5)
  rcases hx with rfl|hx
  ·exact Pt.one (List.mem_append_right _ ((mem _ _).2 (.inr (.inl ⟨rfl,rfl⟩))))
  ·exact .free hx (List.mem_append_right _ ((mem _ _).2 (.inr (.inr (.inr ⟨rfl,rfl⟩)))))
 ·obtain ⟨w1,w2⟩:=v4 0 x n rfl rfl
  rcases (mem p r).1 hx with ⟨rfl,rfl⟩|⟨rfl,rfl⟩|⟨rfl,rfl⟩|⟨rfl,rfl⟩
  ·exact w1 j ⟨j,v2 j hv,.refl _⟩
  ·exact v3 j ⟨j,v2 j hv,by simp only[R]; exact .refl _⟩
  ·obtain ⟨i,⟨a,h5,h6⟩,h7⟩:=w2 j hv
   exact w1 j ⟨a,h5,.tail h6 h7⟩
  ·obtain ⟨i,⟨a,h5,h6⟩,h7⟩:=w2 j hv
   exact v3 j ⟨a,h5,by simp only[R]; exact .tail h6 h7⟩
theorem b0X {n:Nd}(hn:NSp n):NSp (.plus n):=by
 intro b h
 rw[NS.part] at h ⊢
 obtain ⟨h1,b3,ft,S,F,h2,h3,h4⟩:=u7_ (a2E hn 1) b h
 rw[h2]
 obtain ⟨x,rfl⟩:=a7x h4
 have mem:∀p r,(p,r)∈[(b.n,x.1),(x.2,x.1),(x.2,b3.n-1)]↔(p=b.n/\r=x.1)\/(p=x.2/\r=x.1)\/(p=x.2/\r=b3.n-1):=fun p r=>by simp
 have inS:∀{w:List Int} {i j:Nat},R w n i j->Pt w (S++[]) (F++[(b.n,x.1),(x.2,x.1),(x.2,b3.n-1)]) x.1 i x.2 j:=fun hr=>(h4.com _ 0 x n rfl rfl _ _ hr).mono (fun z hz=>List.mem_append_left _ hz) fun z hz=>List.mem_append_left _ hz
 refine ⟨h1,h4.around (S0:=[]) (F0:=[(b.n,x.1),(x.2,x.1),(x.2,b3.n-1)]) h3 (by simp[NS.lead,NS.frees]) rfl (fun x hx=>by cases hx) (fun y hy=>?_) (fun w i j hr=>?_) fun w A=>⟨fun _ j=>∃i,A i/\Star (R w n) i j,fun j=>∃i,A i/\R w (.plus n) i j,fun j h=>h,(fun p r k' hx=>by cases hx),fun V v1 v2 v3 v4 p r hx j hv=>?_⟩⟩
 ·rcases (mem y.1 y.2).1 hy with h|h|h<;>simp[h]
 ·simp only[R] at hr
  obtain ⟨m,h5,h6⟩:=hr
  refine .free ?_ (List.mem_append_right _ ((mem _ _).2 (.inr (.inr ⟨rfl,rfl⟩))))
  induction h6 with
  |refl=>exact (Pt.one (List.mem_append_right _ ((mem _ _).2 (.inl ⟨rfl,rfl⟩)))).trans (inS h5)
  |tail _ h7 ih=>exact (Pt.free ih (List.mem_append_right _ ((mem _ _).2 (.inr (.inl ⟨rfl,rfl⟩))))).trans (inS h7)
 ·obtain ⟨w1,w2⟩:=v4 0 x n rfl rfl
  rcases (mem p r).1 hx with ⟨rfl,rfl⟩|⟨rfl,rfl⟩|⟨rfl,rfl⟩
  ·exact w1 j ⟨j,v2 j hv,.refl _⟩
  ·obtain ⟨i,⟨a,h5,h6⟩,h7⟩:=w2 j hv
   exact w1 j ⟨a,h5,.tail h6 h7⟩
  ·obtain ⟨i,⟨a,h5,h6⟩,h7⟩:=w2 j hv
   exact v3 j ⟨a,h5,by simp only[R]; exact h6.snd h7⟩
theorem b2q {n:Nd}(hn:NSp n):NSp (.opt n):=by
 intro b h
 rw[NS.part] at h ⊢
 obtain ⟨h1,b3,ft,S,F,h2,h3,h4⟩:=u7_ (a2E hn 1) b h
 rw[h2]
 obtain ⟨x,rfl⟩:=a7x h4
 have mem:∀p r,(p,r)∈[(b.n,x.1),(b.n,b3.n-1),(x.2,b3.n-1)]↔(p=b.n/\r=x.1)\/(p=b.n/\r=b3.n-1)\/(p=x.2/\r=b3.n-1):=fun p r=>by simp
 refine ⟨h1,h4.around (S0:=[]) (F0:=[(b.n,x.1),(b.n,b3.n-1),(x.2,b3.n-1)]) h3 (by simp[NS.lead,NS.frees]) rfl (fun x hx=>by cases hx) (fun y hy=>?_) (fun w i j hr=>?_) fun w A=>⟨fun _=>A,fun j=>∃i,A i/\R w (.opt n) i j,fun j h=>h,(fun p r k' hx=>by cases hx),fun V v1 v2 v3 v4 p r hx j hv=>?_⟩⟩
 ·rcases (mem y.1 y.2).1 hy with h|h|h<;>simp[h]
 ·simp only[R] at hr
  rcases hr with rfl|hr
  ·exact Pt.one (List.mem_append_right _ ((mem _ _).2 (.inr (.inl ⟨rfl,rfl⟩))))
  ·exact .free ((Pt.one (List.mem_append_right _ ((mem _ _).2 (.inl ⟨rfl,rfl⟩)))).trans ((h4.com w 0 x n rfl rfl i j hr).mono (fun z hz=>List.mem_append_left _ hz) fun z hz=>List.mem_append_left _ hz)) (List.mem_append_right _ ((mem _ _).2 (.inr (.inr ⟨rfl,rfl⟩))))
 ·obtain ⟨w1,w2⟩:=v4 0 x n rfl rfl
  rcases (mem p r).1 hx with ⟨rfl,rfl⟩|⟨rfl,rfl⟩|⟨rfl,rfl⟩
  ·exact w1 j (v2 j hv)
  ·exact v3 j ⟨j,v2 j hv,by simp only[R]; exact .inl trivial⟩
  ·obtain ⟨i,h5,h6⟩:=w2 j hv
   exact v3 j ⟨i,h5,by simp only[R]; exact .inr h6⟩
theorem a2F {lo e:Nat}:∀(ft:List (Nat × Nat)) (i p r:Nat),(p,r)∈NS.repE lo e i ft↔(∃k x,ft[k]?=some x/\p=x.2/\r=e/\(k+1=ft.length\/lo<=i+k+1))\/∃k x y,ft[k]?=some x/\ft[k+1]?=some y/\p=x.2/\r=y.1
 |[],i,p,r=>by simp[NS.repE]
 |[f],i,p,r=>by
  simp only[NS.repE,List.mem_singleton,Prod.mk.injEq,List.length_cons,List.length_nil]
  constructor
  ·rintro ⟨rfl,rfl⟩; exact .inl ⟨0,f,rfl,rfl,rfl,.inl rfl⟩
  ·rintro (⟨k,x,h1,h2,h3,_⟩|⟨k,x,y,_,h2,_⟩)
   ·cases k with
    |zero=>simp at h1; subst h1; exact ⟨h2,h3⟩
    |succ k=>simp at h1
   ·simp at h2
 |f::g::l,i,p,r=>by
  have ih:=a2F (lo:=lo) (e:=e) (g::l) (i+1) p r
  simp only[NS.repE,List.mem_append,List.mem_cons,ih,Prod.mk.injEq]
  constructor
  ·rintro (h|h|h|h)
   ·split at h
    ·simp at h
     exact .inl ⟨0,f,rfl,h.1,h.2,.inr (by omega)⟩
    ·cases h
   ·exact .inr ⟨0,f,g,rfl,rfl,h.1,h.2⟩
   ·obtain ⟨k,x,h1,h2,h3,h4⟩:=h
    exact .inl ⟨k+1,x,by simpa using h1,h2,h3,h4.imp (fun z=>by simpa using z) fun z=>by omega⟩
   ·obtain ⟨k,x,y,h1,h2,h3,h4⟩:=h
    exact .inr ⟨k+1,x,y,by simpa using h1,by simpa using h2,h3,h4⟩
  ·rintro (⟨k,x,h1,h2,h3,h4⟩|⟨k,x,y,h1,h2,h3,h4⟩)
   ·cases k with
    |zero=>
     simp at h1
     subst h1
     have:lo<=i+1:=by
      rcases h4 with h4|h4
      ·simp at h4
      ·omega
     rw[if_pos this]
     exact .inl (by simp[h2,h3])
    |succ k=>exact .inr (.inr (.inl ⟨k,x,by simpa using h1,h2,h3,h4.imp (fun z=>by simpa using z) fun z=>by omega⟩))
   ·cases k with
    |zero=>
     simp at h1 h2
     subst h1 h2
     exact .inr (.inl ⟨h3,h4⟩)
    |succ k=>exact .inr (.inr (.inr ⟨k,x,y,by simpa using h1,by simpa using h2,h3,h4⟩))
theorem hd_of {ft:List (Nat × Nat)}{x:Nat × Nat}(h:ft[0]?=some x):NS.hd ft=x:=by
 cases ft with
 |nil=>simp at h
 |cons y l=>simp at h; subst h; rfl
theorem b2r {n:Nd}{lo hi:Nat}(hn:NSp n)(hlh:lo<=hi):NSp (.rep lo hi n):=by
 intro b h
 rw[NS.part] at h ⊢
 obtain ⟨h1,b3,ft,S,F,h2,h3,h4⟩:=u7_ (a2E hn hi) b h
 rw[h2]
 have hl:ft.length=hi:=by rw[h4.len]; simp
 obtain ⟨F0,hF0⟩:∃F0,F0=(if 0<hi then [(b.n,(NS.hd ft).1)] else [])++NS.repE lo (b3.n-1) 0 ft++(if lo=0 then [(b.n,b3.n-1)] else []):=⟨_,rfl⟩
 have mem:∀p r,(p,r)∈F0↔(∃x,ft[0]?=some x/\p=b.n/\r=x.1)\/(p,r)∈NS.repE lo (b3.n-1) 0 ft\/(lo=0/\p=b.n/\r=b3.n-1):=fun p r=>by
  rw[hF0]
  simp only[List.mem_append,or_assoc]
  refine or_congr ?_ (or_congr Iff.rfl ?_)
  ·by_cases q:0<hi
   ·rw[if_pos q]
    obtain ⟨x,hx⟩:∃x,ft[0]?=some x:=⟨ft[0],List.getElem?_eq_getElem (by omega)⟩
    rw[hd_of hx,hx]
    simp
   ·rw[if_neg q,List.getElem?_eq_none (by omega)]
    simp
  ·by_cases q:lo=0
   ·rw[if_pos q]; simp[q]
   ·rw[if_neg q]; simp[q]
 have ns:∀(k:Nat) (x:Nat × Nat),ft[k]?=some x->(List.replicate hi n)[k]?=some n:=fun k x hk=>by
  have:=(List.getElem?_eq_some_iff.1 hk).1
  rw[List.getElem?_eq_getElem (by simpa using (by omega:k<hi))]; simp
 refine ⟨h1,h4.around (S0:=[]) (F0:=F0) h3 (by simp[NS.lead,NS.frees]) (by rw[hF0]; rfl) (fun x hx=>by cases hx) (fun y hy=>?_) (fun w i j hr=>?_) fun w A=>⟨fun k j=>∃i,A i/\Pow (R w n) k i j,fun j=>∃i,A i/\R w (.rep lo hi n) i j,fun j h=>h,(fun p r k' hx=>by cases hx),fun V v1 v2 v3 v4 p r hx j hv=>?_⟩⟩
 ·rcases (mem y.1 y.2).1 hy with ⟨x,h5,h6,h7⟩|h5|⟨_,h6,h7⟩
  ·exact ⟨.inl h6,.inr ⟨x,List.mem_of_getElem? h5,h7⟩⟩
  ·rcases (a2F ft 0 y.1 y.2).1 h5 with ⟨k,x,h5,h6,h7,_⟩|⟨k,x,z,h5,h6,h7,h8⟩
   ·exact ⟨.inr ⟨x,List.mem_of_getElem? h5,h6⟩,.inl h7⟩
   ·exact ⟨.inr ⟨x,List.mem_of_getElem? h5,h7⟩,.inr ⟨z,List.mem_of_getElem? h6,h8⟩⟩
  ·exact ⟨.inl h6,.inl h7⟩
 ·simp only[R] at hr
  obtain ⟨t,t1,t2,hp⟩:=hr
  have inS:∀{k:Nat} {x:Nat × Nat} {i j},ft[k]?=some x->R w n i j->Pt w (S++[]) (F++F0) x.1 i x.2 j:=fun hk hr=>(h4.com _ _ _ n hk (ns _ _ hk) _ _ hr).mono (fun z hz=>List.mem_append_left _ hz) fun z hz=>List.mem_append_left _ hz
  have way:∀t x j,ft[t]?=some x->Pow (R w n) (t+1) i j->Pt w (S++[]) (F++F0) b.n i x.2 j:=by
   intro t
   induction t with
   |zero=>
    intro x j hx hp
    exact (Pt.one (List.mem_append_right _ ((mem _ _).2 (.inl ⟨x,hx,rfl,rfl⟩)))).trans (inS hx (Pow.one.1 hp))
   |succ t ih=>
    intro x j hx ⟨m,hp,hr⟩
    have hlt:=(List.getElem?_eq_some_iff.1 hx).1
    obtain ⟨y,hy⟩:∃y,ft[t]?=some y:=⟨ft[t],List.getElem?_eq_getElem (by omega)⟩
    exact (Pt.free (ih y m hy hp) (List.mem_append_right _ ((mem _ _).2 (.inr (.inl ((a2F ft 0 _ _).2 (.inr ⟨t,y,x,hy,hx,rfl,rfl⟩))))))).trans (inS hx hr)
  cases t with
  |zero=>
   have hp:i=j:=hp
   subst hp
   exact Pt.one (List.mem_append_right _ ((mem _ _).2 (.inr (.inr ⟨by omega,rfl,rfl⟩))))
  |succ t=>
   obtain ⟨x,hx⟩:∃x,ft[t]?=some x:=⟨ft[t],List.getElem?_eq_getElem (by omega)⟩
   exact .free (way t x j hx hp) (List.mem_append_right _ ((mem _ _).2 (.inr (.inl ((a2F ft 0 _ _).2 (.inl ⟨t,x,hx,rfl,rfl,.inr (by omega)⟩))))))
 ·rcases (mem p r).1 hx with ⟨x,h5,rfl,rfl⟩|h5|⟨h5,rfl,rfl⟩
  ·exact (v4 0 x n h5 (ns _ _ h5)).1 j ⟨j,v2 j hv,rfl⟩
  ·rcases (a2F ft 0 p r).1 h5 with ⟨k,x,h5',rfl,rfl,h8⟩|⟨k,x,z,h5',h6,rfl,rfl⟩
   ·obtain ⟨i,⟨a,h9,h10⟩,h11⟩:=(v4 k x n h5' (ns _ _ h5')).2 j hv
    have hlt:=(List.getElem?_eq_some_iff.1 h5').1
    refine v3 j ⟨a,h9,?_⟩
    simp only[R]
    exact ⟨k+1,by omega,by omega,i,h10,h11⟩
   ·obtain ⟨i,⟨a,h9,h10⟩,h11⟩:=(v4 k x n h5' (ns _ _ h5')).2 j hv
    exact (v4 (k+1) z n h6 (ns _ _ h6)).1 j ⟨a,h9,i,h10,h11⟩
  ·refine v3 j ⟨j,v2 j hv,?_⟩
   simp only[R]
   exact ⟨0,by omega,by omega,rfl⟩
theorem a3e:∀(ft:List (Nat × Nat)) (p r:Nat),(p,r)∈NS.joinE ft↔∃k x y,ft[k]?=some x/\ft[k+1]?=some y/\p=x.2/\r=y.1
 |[],p,r=>by simp[NS.joinE]
 |[f],p,r=>by simp[NS.joinE]
 |f::g::l,p,r=>by
  simp only[NS.joinE,List.mem_cons,a3e (g::l),Prod.mk.injEq]
  constructor
  ·rintro (h|⟨k,x,y,h1,h2,h3,h4⟩)
   ·exact ⟨0,f,g,rfl,rfl,h.1,h.2⟩
   ·exact ⟨k+1,x,y,by simpa using h1,by simpa using h2,h3,h4⟩
  ·rintro ⟨k,x,y,h1,h2,h3,h4⟩
   cases k with
   |zero=>simp at h1 h2; subst h1 h2; exact .inl ⟨h3,h4⟩
   |succ k=>exact .inr ⟨k,x,y,by simpa using h1,by simpa using h2,h3,h4⟩
theorem b0Y {l:List Nd}(hl:∀c∈l,NSp c)(hne:l≠[]):NSp (.join l):=by
 intro b h
 rw[NS.part] at h ⊢
 simp only[NS.joined] at h ⊢
 by_cases q:b.much=true
 ·rw[if_pos q] at h; rw[q] at h; cases h
 rw[if_neg q] at h ⊢
 by_cases q2:(NS.parts l b).2.much=true
 ·rw[if_pos q2] at h; rw[q2] at h; cases h
 rw[if_neg q2] at h ⊢
 simp only at h ⊢
 rw[Bool.not_eq_true] at q2
 obtain ⟨h1,S,F,f⟩:=a5p l hl b q2
 obtain ⟨ft,hft⟩:∃ft,(NS.parts l b).1=ft:=⟨_,rfl⟩
 obtain ⟨b2,hb2⟩:∃b2,(NS.parts l b).2=b2:=⟨_,rfl⟩
 rw[hft,hb2] at f ⊢
 have hlen:=f.len
 have hpos:0<l.length:=List.length_pos_iff.2 hne
 obtain ⟨x0,hx0⟩:∃x,ft[0]?=some x:=⟨ft[0],List.getElem?_eq_getElem (by omega)⟩
 obtain ⟨xl,hxl⟩:∃x,ft[ft.length-1]?=some x:=⟨ft[ft.length-1],List.getElem?_eq_getElem (by omega)⟩
 have hlast:ft.getLastD (0,0)=xl:=by
  rw[List.getLastD_eq_getLast?,List.getLast?_eq_getElem?,hxl]; rfl
 rw[hd_of hx0,hlast]
 have hl0:=f.lt 0 x0 hx0
 have hll:=f.lt _ xl hxl
 have inS:∀{w} {k:Nat} {x:Nat × Nat} {n i j},ft[k]?=some x->l[k]?=some n->R w n i j->Pt w S (F++NS.joinE ft) x.1 i x.2 j:=fun hk hn hr=>(f.com _ _ _ _ hk hn _ _ hr).mono (fun z hz=>hz) fun z hz=>List.mem_append_left _ hz
 refine ⟨h1,S,F++NS.joinE ft,⟨f.st,by show b2.fr++_=_; rw[f.fr,List.append_assoc],⟨hl0.1,hl0.2.1⟩,⟨hll.2.2.1,hll.2.2.2⟩,f.eS,fun y hy=>?_,fun w i j hr=>?_,fun w A=>?_⟩⟩
 ·rcases List.mem_append.1 hy with hy|hy
  ·exact f.eF y hy
  ·obtain ⟨k,x,z,h5,h6,h7,h8⟩:=(a3e ft y.1 y.2).1 hy
   have:=f.lt k x h5
   have:=f.lt _ z h6
   show b.n<=y.1/\y.1<b2.n/\b.n<=y.2/\y.2<b2.n
   omega
 ·simp only[R] at hr
  have way:∀k x j,ft[k]?=some x->RJ w (l.take (k+1)) i j->Pt w S (F++NS.joinE ft) x0.1 i x.2 j:=by
   intro k
   induction k with
   |zero=>
    intro x j hx hr
    rw[hx0] at hx
    injection hx with hx
    subst hx
    obtain ⟨n,hn⟩:∃n,l[0]?=some n:=⟨l[0],List.getElem?_eq_getElem (by omega)⟩
    have h9:RJ w [n] i j:=by simpa [List.take_add_one,hn] using hr
    simp only[RJ] at h9
    obtain ⟨m,h10,rfl⟩:=h9
    exact inS hx0 hn h10
   |succ k ih=>
    intro x j hx hr
    have hlt:=(List.getElem?_eq_some_iff.1 hx).1
    obtain ⟨n,hn⟩:∃n,l[k+1]?=some n:=⟨l[k+1],List.getElem?_eq_getElem (by omega)⟩
    rw[List.take_add_one,hn] at hr
    obtain ⟨m,h5,h6⟩:=a4I.1 hr
    obtain ⟨y,hy⟩:∃y,ft[k]?=some y:=⟨ft[k],List.getElem?_eq_getElem (by omega)⟩
    exact (Pt.free (ih y m hy h5) (List.mem_append_right _ ((a3e ft _ _).2 ⟨k,y,x,hy,hx,rfl,rfl⟩))).trans (inS hx hn h6)
  refine way (ft.length-1) xl j hxl ?_
  rw[List.take_of_length_le (by omega)]
  exact hr
 ·obtain ⟨V,v1,v2,v3⟩:=f.snd w (fun k j=>∃i,A i/\RJ w (l.take k) i j)
  have next:∀(k:Nat) (x:Nat × Nat) n,ft[k]?=some x->l[k]?=some n->∀j,V x.2 j->∃i,A i/\RJ w (l.take (k+1)) i j:=by
   intro k x n hk hn j hv
   obtain ⟨i,⟨a,h5,h6⟩,h7⟩:=(v3 k x n hk hn).2 j hv
   refine ⟨a,h5,?_⟩
   rw[List.take_add_one,hn]
   exact a4I.2 ⟨i,h6,h7⟩
  refine ⟨V,v1,⟨fun p r hx j hv=>?_,v2.2⟩,fun j hj=>?_,fun j hv=>?_⟩
  ·rcases List.mem_append.1 hx with hx|hx
   ·exact v2.1 p r hx j hv
   ·obtain ⟨k,x,y,h5,h6,rfl,rfl⟩:=(a3e ft p r).1 hx
    obtain ⟨n,hn⟩:=v4_ hlen h5
    obtain ⟨n',hn'⟩:=v4_ hlen h6
    exact (v3 (k+1) y n' h6 hn').1 j (next k x n h5 hn j hv)
  ·obtain ⟨n,hn⟩:=v4_ hlen hx0
   exact (v3 0 x0 n hx0 hn).1 j ⟨j,hj,by simp[RJ]⟩
  ·obtain ⟨n,hn⟩:=v4_ hlen hxl
   obtain ⟨i,h5,h6⟩:=next _ xl n hxl hn j hv
   rw[List.take_of_length_le (by omega)] at h6
   exact ⟨i,h5,by simp only[R]; exact h6⟩
theorem nsp (n:Nd):Gd n->NSp n:=by
 refine Nd.ind (p:=fun n=>Gd n->NSp n) (fun n ih g=>?_) n
 have k:∀c∈n.kids,NSp c:=fun c hc=>ih c hc (g.kid c hc)
 cases n with
 |set s=>exact b2m s
 |emp=>exact b2n
 |eps=>exact b2o
 |join l=>exact b0Y k (fun z=>by have:2<=l.length:=g.rt; rw[z] at this; simp at this)
 |uni l=>exact b2p k
 |star c=>exact b0W (k c (by simp[Nd.kids]))
 |plus c=>exact b0X (k c (by simp[Nd.kids]))
 |opt c=>exact b2q (k c (by simp[Nd.kids]))
 |rep lo hi c=>exact b2r (k c (by simp[Nd.kids])) g.rt.1
structure NfOk (nf:NF):Prop where
 s:nf.s<nf.n
 e:nf.e<nf.n
 st:∀x∈nf.st,x.1<nf.n/\x.2.1<nf.n
 fr:∀x∈nf.fr,x.1<nf.n/\x.2<nf.n
theorem b2t {n:Nd}(g:Gd n){nf:NF}(h:nfaF n=some nf):NfOk nf/\∀w,Pt w nf.st nf.fr nf.s 0 nf.e w.length↔In n w:=by
 simp only[nfaF] at h
 split at h
 ·cases h
 ·rename_i q
  rw[Bool.not_eq_true] at q
  injection h with h
  subst h
  obtain ⟨_,S,F,f⟩:=nsp n g NS.new q
  have e1:(NS.part n NS.new).2.st=S:=by rw[f.st]; rfl
  have e2:(NS.part n NS.new).2.fr=F:=by rw[f.fr]; rfl
  rw[e1,e2]
  refine ⟨⟨f.ls.2,f.le.2,fun x hx=>?_,fun x hx=>?_⟩,fun w=>⟨fun hp=>?_,fun hi=>f.com w 0 w.length hi⟩⟩
  ·have:=f.eS x hx; exact ⟨this.2.1,this.2.2.2⟩
  ·have:=f.eF x hx; exact ⟨this.2.1,this.2.2.2⟩
  ·obtain ⟨V,_,v2,v3,v4⟩:=f.snd w (fun j=>j=0)
   obtain ⟨i,rfl,h5⟩:=v4 _ (v2.pt (v3 0 rfl) hp)
   exact h5
end Go.Gm
namespace Go.Gm
theorem a6y {x:Nat}:∀{l:List Nat} {i j:Nat},idxF x i l=some j->i<=j/\l[j-i]?=some x
 |[],i,j,h=>by simp[idxF] at h
 |y::l,i,j,h=>by
  rw[idxF] at h
  by_cases q:y=x
  ·rw[if_pos q] at h
   injection h with h
   subst h
   exact ⟨Nat.le_refl _,by simp[q]⟩
  ·rw[if_neg q] at h
   obtain ⟨h1,h2⟩:=a6y h
   exact ⟨by omega,by rw[show j-i=j-(i+1)+1 by omega]; simpa using h2⟩
abbrev nxtF (nf:NF)(s m:Nat):Nat:=cloF nf.n nf.fr (stpF nf.st s m)
def RowOk (nf:NF)(sets:List Nat)(s:Nat)(r:List Int)(m0 k:Nat):Prop:=r.length=k/\∀t,t<k->∃j:Nat,r[t]?=some (j:Int)/\sets[j]?=some (nxtF nf s (m0+t))
theorem v5_ {α:Type}{l e:List α}{j:Nat}{x:α}(h:l[j]?=some x):(l++e)[j]?=some x:=by
 rw[List.getElem?_append_left (List.getElem?_eq_some_iff.1 h).1]; exact h
theorem a6a {nf:NF}{lim s:Nat}:∀(k m:Nat) (sets:List Nat) (row:List Int) {sets':List Nat} {row':List Int},rowF nf lim s k m sets row=some (sets',row')->(∃e,sets'=sets++e)/\(∃r,row'=row++r/\RowOk nf sets' s r m k)/\(sets'.length<=sets.length\/sets'.length<=lim)
 |0,m,sets,row,sets',row',h=>by
  simp only[rowF,Option.some.injEq,Prod.mk.injEq] at h
  obtain ⟨rfl,rfl⟩:=h
  exact ⟨⟨[],by simp⟩,⟨[],by simp,rfl,fun t ht=>by omega⟩,.inl (Nat.le_refl _)⟩
 |k+1,m,sets,row,sets',row',h=>by
  simp only[rowF] at h
  split at h
  ·rename_i j hj
   obtain ⟨⟨e,h1⟩,⟨r,h2,h3,h4⟩,h5⟩:=a6a k (m+1) _ _ h
   obtain ⟨_,hj2⟩:=a6y hj
   rw[Nat.sub_zero] at hj2
   refine ⟨⟨e,h1⟩,⟨(j:Int)::r,by rw[h2]; simp,by simp[h3],fun t ht=>?_⟩,h5⟩
   cases t with
   |zero=>exact ⟨j,rfl,by rw[h1]; exact v5_ hj2⟩
   |succ t=>
    obtain ⟨j',k1,k2⟩:=h4 t (by omega)
    exact ⟨j',by simpa using k1,by rw[k2,show m+1+t=m+(t+1) by omega]⟩
  ·rename_i hj
   split at h
   ·cases h
   ·rename_i hl
    obtain ⟨⟨e,h1⟩,⟨r,h2,h3,h4⟩,h5⟩:=a6a k (m+1) _ _ h
    refine ⟨⟨nxtF nf s m::e,by rw[h1]; simp⟩,⟨(sets.length:Int)::r,by rw[h2]; simp,by simp[h3],fun t ht=>?_⟩,?_⟩
    ·cases t with
     |zero=>exact ⟨sets.length,rfl,by rw[h1]; exact v5_ (by simp)⟩
     |succ t=>
      obtain ⟨j',k1,k2⟩:=h4 t (by omega)
      exact ⟨j',by simpa using k1,by rw[k2,show m+1+t=m+(t+1) by omega]⟩
    ·rcases h5 with h5|h5
     ·simp only[List.length_append,List.length_cons,List.length_nil] at h5
      right; omega
     ·exact .inr h5
theorem RowOk.grow {nf:NF}{sets:List Nat}{s m0 k:Nat}{r:List Int}(h:RowOk nf sets s r m0 k)(e:List Nat):RowOk nf (sets++e) s r m0 k:=
 ⟨h.1,fun t ht=>by obtain ⟨j,h1,h2⟩:=h.2 t ht; exact ⟨j,h1,v5_ h2⟩⟩
structure SubI (nf:NF) (lim:Nat) (sets:List Nat) (D:List (List Int)) (acc:List Bool) (i:Nat):Prop where
 s0:sets[0]?=some (cloF nf.n nf.fr (2 ^ nf.s))
 ld:D.length=i
 la:acc.length=i
 il:i<=sets.length
 sl:sets.length<=1\/sets.length<=lim
 row:∀a s,a<i->sets[a]?=some s->∃r,D[a]?=some r/\RowOk nf sets s r 0 5/\acc[a]?=some (s.testBit nf.e)
theorem SubI.add {nf:NF}{lim i s:Nat}{sets sets':List Nat}{D:List (List Int)}{acc:List Bool}{row:List Int}(h:SubI nf lim sets D acc i)(hs:sets[i]?=some s)(hr:rowF nf lim s 5 0 sets []=some (sets',row)):SubI nf lim sets' (D++[row]) (acc++[s.testBit nf.e]) (i+1):=by
 obtain ⟨⟨e,rfl⟩,⟨r,h2,h3⟩,h4⟩:=a6a 5 0 sets [] hr
 rw[List.nil_append] at h2
 subst h2
 have hi:=(List.getElem?_eq_some_iff.1 hs).1
 refine ⟨v5_ h.s0,by simp[h.ld],by simp[h.la],by simp; omega,?_,fun a t ha ht=>?_⟩
 ·rcases h4 with h4|h4
  ·rcases h.sl with h5|h5
   ·left; omega
   ·right; omega
  ·exact .inr h4
 ·by_cases q:a=i
  ·subst q
   rw[v5_ hs] at ht
   injection ht with ht
   subst ht
   refine ⟨row,?_,h3,?_⟩
   ·rw[<-h.ld]; simp
   ·rw[<-h.la]; simp
  ·have h5:sets[a]?=some t:=by
    rw[List.getElem?_append_left (by omega)] at ht; exact ht
   obtain ⟨r',k1,k2,k3⟩:=h.row a t (by omega) h5
   exact ⟨r',v5_ k1,k2.grow e,v5_ k3⟩
theorem a8D {nf:NF}{lim:Nat}:∀(f i:Nat) (sets:List Nat) (D:List (List Int)) (acc:List Bool) {D':List (List Int)} {acc':List Bool},subL nf lim f i sets D acc=some (D',acc')->SubI nf lim sets D acc i->∃sets',SubI nf lim sets' D' acc' sets'.length
 |0,i,sets,D,acc,D',acc',h,_=>by simp[subL] at h
 |f+1,i,sets,D,acc,D',acc',h,hi=>by
  simp only[subL] at h
  split at h
  ·rename_i hn
   injection h with h
   injection h with h1 h2
   subst h1 h2
   have h3:=List.getElem?_eq_none_iff.1 hn
   have h4:=hi.il
   have:i=sets.length:=by omega
   exact ⟨sets,this▸hi⟩
  ·rename_i s hs
   split at h
   ·cases h
   ·rename_i sets' row hr
    exact a8D f (i+1) _ _ _ h (hi.add hs hr)
theorem a6b {nf:NF}{lim:Nat}{D:List (List Int)}{acc:List Bool}(h:subF nf lim=some (D,acc)):∃sets,SubI nf lim sets D acc sets.length:=
 a8D _ _ _ _ _ h ⟨rfl,rfl,rfl,by simp,.inl (by simp),fun a s ha=>by omega⟩
section
variable {nf:NF} {w:List Int}
def Stn (nf:NF)(w:List Int)(s k:Nat):Prop:=∀q,s.testBit q=true↔Pt w nf.st nf.fr nf.s 0 q k
theorem Stn.zero (ok:NfOk nf):Stn nf w (cloF nf.n nf.fr (2 ^ nf.s)) 0:=by
 intro q
 have hb:∀p,(2 ^ nf.s).testBit p=true↔p=nf.s:=fun p=>by rw[Nat.testBit_two_pow]; simp[eq_comm]
 rw[a2C (fun f hf=>(ok.fr f hf).2) (fun p hp=>by rw[(hb p).1 hp]; exact ok.s)]
 constructor
 ·intro h
  induction h with
  |here h=>rw[(hb _).1 h]; exact .refl
  |on _ h ih=>exact .free ih h
 ·intro h
  have:∀p j,Pt w nf.st nf.fr nf.s 0 p j->j=0->Rch nf.fr (2 ^ nf.s) p:=by
   intro p j h
   induction h with
   |refl=>exact fun _=>.here ((hb _).2 rfl)
   |free _ h ih=>exact fun e=>.on (ih e) h
   |step _ _ _ _=>intro e; omega
  exact this q 0 h rfl
theorem Stn.next (ok:NfOk nf){s k:Nat}{m:Nat}(h:Stn nf w s k)(hw:w[k]?=some (m:Int))(hm:m<5):Stn nf w (nxtF nf s m) (k+1):=by
 intro q
 have hs:∀p,(stpF nf.st s m).testBit p=true->p<nf.n:=fun p hp=>by
  obtain ⟨x,hx,_,_,rfl⟩:=a2D.1 hp
  exact (ok.st x hx).2
 rw[nxtF,a2C (fun f hf=>(ok.fr f hf).2) hs]
 have hit:∀ks,hit w ks k↔ks.testBit m=true:=fun ks=>by
  constructor
  ·rintro ⟨c,h1,h2,h3,h4⟩
   rw[hw] at h1
   injection h1 with h1
   subst h1
   simpa using h4
  ·exact fun h4=>⟨m,hw,by omega,by omega,by simpa using h4⟩
 constructor
 ·intro hr
  induction hr with
  |here hp=>
   obtain ⟨⟨a,b,c⟩,hx,h1,h2,h3⟩:=a2D.1 hp
   simp only at h1 h2 h3
   subst h3
   exact .step ((h a).1 h1) hx ((hit c).2 h2)
  |on _ h ih=>exact .free ih h
 ·intro hp
  have:∀p j,Pt w nf.st nf.fr nf.s 0 p j->j=k+1->Rch nf.fr (stpF nf.st s m) p:=by
   intro p j hp
   induction hp with
   |refl=>intro e; omega
   |free _ h ih=>exact fun e=>.on (ih e) h
   |@step p r c j h1 h2 h3 _=>
    intro e
    obtain rfl:j=k:=by omega
    exact .here (a2D.2 ⟨(p,r,c),h2,(h p).2 h1,(hit c).1 h3,rfl⟩)
  exact this q _ hp rfl
abbrev goD (D:List (List Int))(s:Int)(w:List Int):Int:=w.foldl (fun s m=>gi (gi D s) m) s
theorem a8E {lim:Nat}{D:List (List Int)}{acc:List Bool}{sets:List Nat}(ok:NfOk nf)(si:SubI nf lim sets D acc sets.length)(hw:∀m∈w,0<=m/\m<5):∀k,k<=w.length->∃(j s:Nat),goD D 0 (w.take k)=j/\sets[j]?=some s/\Stn nf w s k
 |0,_=>⟨0,_,rfl,si.s0,Stn.zero ok⟩
 |k+1,hk=>by
  obtain ⟨j,s,h1,h2,h3⟩:=a8E ok si hw k (by omega)
  obtain ⟨m,hm⟩:∃m,w[k]?=some m:=⟨w[k],List.getElem?_eq_getElem (by omega)⟩
  have hmr:=hw m (List.mem_of_getElem? hm)
  obtain ⟨mn,rfl⟩:∃mn:Nat,m=mn:=⟨m.toNat,by omega⟩
  have hj:=(List.getElem?_eq_some_iff.1 h2).1
  obtain ⟨r,k1,k2,_⟩:=si.row j s hj h2
  obtain ⟨j',k3,k4⟩:=k2.2 mn (by omega)
  rw[Nat.zero_add] at k4
  refine ⟨j',_,?_,k4,h3.next ok hm (by omega)⟩
  rw[List.take_add_one,hm]
  simp only[goD,Option.toList_some,List.foldl_append,List.foldl_cons,List.foldl_nil] at h1 ⊢
  rw[h1]
  simp only[gi,Int.toNat_natCast,List.getD_eq_getElem?_getD,k1,Option.getD_some,k3]
theorem b0l {lim:Nat}{D:List (List Int)}{acc:List Bool}{n:Nd}(g:Gd n)(hn:nfaF n=some nf)(hs:subF nf lim=some (D,acc))(hw:∀m∈w,0<=m/\m<5):gi acc (goD D 0 w)=true↔In n w:=by
 obtain ⟨ok,hl⟩:=b2t g hn
 obtain ⟨sets,si⟩:=a6b hs
 obtain ⟨j,s,h1,h2,h3⟩:=a8E ok si hw w.length (Nat.le_refl _)
 rw[List.take_length] at h1
 have hj:=(List.getElem?_eq_some_iff.1 h2).1
 obtain ⟨r,_,_,k3⟩:=si.row j s hj h2
 rw[h1,<-hl w,<-h3]
 simp only[gi,Int.toNat_natCast,List.getD_eq_getElem?_getD,k3,Option.getD_some]
end
end Go.Gm
namespace Go.Gm
def Sv (b:NS):Prop:=∀x∈b.st,x.2.2<32
def SvN (n:Nd):Prop:=∀b,Sv b->Sv (NS.part n b).2
theorem a7y {b:NS}(h:Sv b):Sv b.state.2:=by
 rw[NS.state]; split<;>exact h
theorem a5q:∀(l:List Nd),(∀c∈l,SvN c)->∀b,Sv b->Sv (NS.parts l b).2
 |[],_,b,hb=>by rw[NS.parts]; exact hb
 |n::l,h,b,hb=>by
  rw[NS.parts]
  split
  ·exact hb
  ·exact a5q l (fun c hc=>h c (List.mem_cons_of_mem _ hc)) _ (h n (by simp) b hb)
theorem a2G {n:Nd}(h:SvN n):∀k b,Sv b->Sv (NS.times (NS.part n) k b).2
 |0,b,hb=>by rw[NS.times]; exact hb
 |k+1,b,hb=>by
  rw[NS.times]
  split
  ·exact hb
  ·exact a2G h k _ (h b hb)
theorem u8_ {n:Nd}{p:NS->List (Nat × Nat) × NS}(g:n.st<32)(hp:∀b,Sv b->Sv (p b).2)(b:NS)(hb:Sv b):Sv (NS.around n p b).2:=by
 simp only[NS.around]
 split
 ·exact hb
 ·have h1:=a7y (hp _ (a7y hb))
  simp only
  split
  ·exact h1
  ·cases n<;>try exact h1
   rename_i k
   intro x hx
   simp only[NS.lead,NS.step] at hx
   rcases List.mem_append.1 hx with hx|hx
   ·exact h1 x hx
   ·obtain rfl:=List.mem_singleton.1 hx; exact g
theorem st_lt {n:Nd}(g:Gd n):n.st<32:=by
 have:=g.rt
 cases n<;>simp[Nd.st,RtN] at *<;>omega
theorem svn (n:Nd):Gd n->SvN n:=by
 refine Nd.ind (p:=fun n=>Gd n->SvN n) (fun n ih g=>?_) n
 have k:∀c∈n.kids,SvN c:=fun c hc=>ih c hc (g.kid c hc)
 have s:=st_lt g
 cases n with
 |set s=>intro b hb; rw[NS.part]; exact u8_ s (fun b hb=>hb) b hb
 |emp=>intro b hb; rw[NS.part]; exact u8_ s (fun b hb=>hb) b hb
 |eps=>intro b hb; rw[NS.part]; exact u8_ s (fun b hb=>hb) b hb
 |uni l=>intro b hb; rw[NS.part]; exact u8_ s (a5q l k) b hb
 |star c=>intro b hb; rw[NS.part]; exact u8_ s (a2G (k c (by simp[Nd.kids])) 1) b hb
 |plus c=>intro b hb; rw[NS.part]; exact u8_ s (a2G (k c (by simp[Nd.kids])) 1) b hb
 |opt c=>intro b hb; rw[NS.part]; exact u8_ s (a2G (k c (by simp[Nd.kids])) 1) b hb
 |rep lo hi c=>intro b hb; rw[NS.part]; exact u8_ s (a2G (k c (by simp[Nd.kids])) hi) b hb
 |join l=>
  intro b hb
  rw[NS.part]
  simp only[NS.joined]
  have h1:=a5q l k b hb
  split
  ·exact hb
  ·split
   ·exact h1
   ·exact h1
theorem b3q {n:Nd}(g:Gd n){nf:NF}(h:nfaF n=some nf):nf.n<=1000/\nf.fr.length<=2000/\nf.st.length<=1000/\∀x∈nf.st,x.2.2<32:=by
 simp only[nfaF] at h
 split at h
 ·cases h
 ·injection h with h
  subst h
  have o:=NSok.new.sz (szn n g NS.new).1
  have:=o.n; have:=o.fr; have:=o.st
  exact ⟨by assumption,by simp only; omega,by simp only; omega,svn n g NS.new fun x hx=>by simp[NS.new] at hx⟩
end Go.Gm
namespace Go.Gm.AQ
open Go Go.Gm
def sumF (f:Nd->Nat)(l:List Nd):Nat:=(l.map f).sum
theorem b0m (n:Int)(ls:List Nd):∃(a b:List Nd),ptsN n ls=a++b/\a.Sublist ls/\(∀c∈b,∃m,c=sgn m)/\b.length<=2/\(a.length+b.length<=4):=by
 match ls with
 |[]=>exact ⟨[],[sgn (wr (n+((0:Nat):Int))),sgn (wr (n+((1:Nat):Int)))],rfl,by simp,(by simp; exact ⟨⟨_,rfl⟩,_,rfl⟩),by simp,by simp⟩
 |[a]=>exact ⟨[a],[sgn (wr (n+((1:Nat):Int)))],rfl,by simp,(by simp; exact ⟨_,rfl⟩),by simp,by simp⟩
 |[a,b]=>exact ⟨[a,b],[],rfl,by simp,by simp,by simp,by simp⟩
 |[a,b,c]=>exact ⟨[a,b,c],[],rfl,by simp,by simp,by simp,by simp⟩
 |a::b::c::d::l=>
  refine ⟨[a,b,c,d],[],?_,by simp,by simp,by simp,by simp⟩
  have:max 2 (min (a::b::c::d::l).length 4)=4:=by simp
  rw[ptsN,this]; rfl
theorem b2u {f:Nd->Nat}{a l:List Nd}(h:a.Sublist l):sumF f a<=sumF f l:=by
 induction h with
 |slnil=>exact Nat.le_refl _
 |cons x h ih=>simp only[sumF,List.map_cons,List.sum_cons] at *; omega
 |cons_cons x h ih=>simp only[sumF,List.map_cons,List.sum_cons] at *; omega
theorem a8F {f:Nd->Nat}{c:Nat}(hf:∀m,f (sgn m)<=c)(n:Int)(ls:List Nd):sumF f (ptsN n ls)<=2*c+sumF f ls:=by
 obtain ⟨a,b,e,h1,h2,h3,h4⟩:=b0m n ls
 have hb:sumF f b<=b.length*c:=by
  clear e h3 h4
  induction b with
  |nil=>simp[sumF]
  |cons x b ih=>
   have h5:=ih fun c hc=>h2 c (List.mem_cons_of_mem _ hc)
   obtain ⟨m,rfl⟩:=h2 x (by simp)
   have h6:=hf m
   simp only[sumF,List.map_cons,List.sum_cons,List.length_cons,Nat.succ_mul] at *; omega
 have ha:=b2u (f:=f) h1
 have:b.length*c<=2*c:=Nat.mul_le_mul_right _ h3
 rw[e]
 simp only[sumF,List.map_append,List.sum_append] at *; omega
theorem a7z {f:Nd->Nat}{c:Nat}(hf:∀m,f (sgn m)<=c)(n:Int)(ls:List Nd)(i:Nat):f (ptN n ls i)<=c+sumF f ls:=by
 rcases a4J (n:=n) (ls:=ls) (i:=i) with q|q
 ·have:∀(l:List Nd) (x:Nd),x∈l->f x<=sumF f l:=by
   intro l x hx
   induction l with
   |nil=>simp at hx
   |cons y l ih=>
    simp only[sumF,List.map_cons,List.sum_cons]
    rcases List.mem_cons.1 hx with rfl|hx
    ·omega
    ·have:=ih hx; simp only[sumF] at this; omega
  have:=this ls _ q; omega
 ·rw[q]; have:=hf (wr (n+i)); omega
theorem b3r:∀k:Fin 5,(2 ^ k.val:Nat)<=16/\1<=2 ^ k.val/\(setT (2 ^ k.val)).length=1:=by decide
theorem a8G (m:Int):∃s,sgn m=.set s/\1<=s/\s<=31/\(setT s).length=1:=by
 have a1:0<=m % 5/\m % 5<5:=⟨Int.emod_nonneg _ (by omega),Int.emod_lt_of_pos _ (by omega)⟩
 have:=b3r ⟨(m % 5).toNat,by omega⟩
 exact ⟨_,rfl,this.2.1,by have:=this.1; simp only at this ⊢; omega,this.2.2⟩
theorem a2n {n:Nd}(h:RtN n)(hk:n.kids=[]):Gd n:=.mk h (by simp[hk])
theorem a5N (m:Int):Gd (sgn m):=by
 obtain ⟨s,e,h1,h2,_⟩:=a8G m
 rw[e]; exact a2n ⟨h1,h2⟩ rfl
theorem gd_pt {n:Int}{ls:List Nd}(h:∀c∈ls,Gd c)(i:Nat):Gd (ptN n ls i):=by
 rcases a4J (n:=n) (ls:=ls) (i:=i) with q|q
 ·exact h _ q
 ·rw[q]; exact a5N _
theorem gd_of (k n:Int)(ls:List Nd)(h:∀c∈ls,Gd c):Gd (mkOf k n ls):=by
 have hp:=a5j n ls
 have h2:∀c∈ptsN n ls,Gd c:=fun c hc=>by
  simp only[ptsN,List.mem_map] at hc
  obtain ⟨i,_,rfl⟩:=hc
  exact gd_pt h i
 have h1:∀c∈[ptN n ls 0],Gd c:=fun c hc=>by rw[List.mem_singleton.1 hc]; exact gd_pt h 0
 have a1:0<=n % 4/\n % 4<4:=⟨Int.emod_nonneg _ (by omega),Int.emod_lt_of_pos _ (by omega)⟩
 have a2:0<=wr (n.tdiv 4) % 3/\wr (n.tdiv 4) % 3<3:=⟨Int.emod_nonneg _ (by omega),Int.emod_lt_of_pos _ (by omega)⟩
 have a3:0<=n % 31/\n % 31<31:=⟨Int.emod_nonneg _ (by omega),Int.emod_lt_of_pos _ (by omega)⟩
 unfold mkOf
 split
 ·exact a2n (show 1<=_/\_<=31 by omega) rfl
 ·exact a2n (show 1<=_/\_<=31 by omega) rfl
 ·exact a5N n
 ·exact a5N n
 ·split<;>exact a2n trivial rfl
 ·exact .mk (show 2<=(ptsN n ls).length by omega) h2
 ·exact .mk (show 2<=(ptsN n ls).length by omega) h2
 ·exact .mk (show 2<=(ptsN n ls).length by omega) h2
 ·exact .mk (show 2<=(ptsN n ls).length by omega) h2
 ·exact .mk (show 2<=(ptsN n ls).length by omega) h2
 ·exact .mk trivial h1
 ·exact .mk trivial h1
 ·exact .mk trivial h1
 ·exact .mk (show _<=_/\_<=9 by omega) h1
theorem a8H (r:Rw):Gd (mkX r):=by
 refine Rw.ind (p:=fun r=>Gd (mkX r)) ?_ r
 rintro ⟨k,n,l⟩ ih
 rw[mkX]
 refine gd_of k n _ fun c hc=>?_
 rw[a0E,List.mem_map] at hc
 obtain ⟨r,hr,rfl⟩:=hc
 exact ih r hr
theorem bd_of {n:Nd}(g:Gd n)(h:n.kids.length<=1000)(hk:∀c∈n.kids,Bd c):Bd n:=.mk (Nat.lt_trans (st_lt g) (by decide)) h hk
theorem b3s (m:Int):Bd (sgn m):=bd_of (a5N m) (by simp[sgn,Nd.kids]) (by simp[sgn,Nd.kids])
theorem b2v (r:Rw):Bd (mkX r):=by
 refine Rw.ind (p:=fun r=>Bd (mkX r)) ?_ r
 rintro ⟨k,n,l⟩ ih
 have g:=a8H (.mk k n l)
 rw[mkX] at g ⊢
 have hp:=a5j n (mkXs l)
 have hm:∀c∈mkXs l,Bd c:=fun c hc=>by
  rw[a0E,List.mem_map] at hc
  obtain ⟨r,hr,rfl⟩:=hc
  exact ih r hr
 have h0:∀i,Bd (ptN n (mkXs l) i):=fun i=>by
  rcases a4J (n:=n) (ls:=mkXs l) (i:=i) with q|q
  ·exact hm _ q
  ·rw[q]; exact b3s _
 have h2:∀c∈ptsN n (mkXs l),Bd c:=fun c hc=>by
  simp only[ptsN,List.mem_map] at hc
  obtain ⟨i,_,rfl⟩:=hc
  exact h0 i
 refine bd_of g ?_ ?_
 ·unfold mkOf
  split<;>(try split)<;>simp only[Nd.kids,sgn,List.length_nil,List.length_cons]<;>omega
 ·unfold mkOf
  intro c hc
  split at hc<;>(try split at hc)<;>simp only[Nd.kids,sgn,List.mem_singleton,List.not_mem_nil] at hc<;>first|exact h2 c hc|(rw[hc]; exact h0 0)
def wT (c:Nd):Nat:=(pcT c).length
theorem a6c (b:Bool)(t:List Nat):(prn b t).length=t.length+if b then 2 else 0:=by cases b<;>simp[prn]
theorem wT_eq (c:Nd):wT c=(txt c).length+if (isU c || isJ c)=true then 2 else 0:=a6c _ _
theorem a8I (c:Nd):wT (.star c)=wT c+1:=by rw[wT_eq,txt,List.length_append]; rfl
theorem a8J (c:Nd):wT (.plus c)=wT c+1:=by rw[wT_eq,txt,List.length_append]; rfl
theorem b0n (c:Nd):wT (.opt c)=wT c+1:=by rw[wT_eq,txt,List.length_append]; rfl
theorem b0o (a b:Nat)(c:Nd):wT (.rep a b c)=wT c+5:=by rw[wT_eq,txt,List.length_append]; rfl
theorem a8K (l:List Nd):wT (.join l)=(txtj l).length+2:=by rw[wT_eq,txt]; rfl
theorem b0p (l:List Nd):wT (.uni l)=(txtu l).length+2:=by rw[wT_eq,txt]; rfl
theorem jn_le (c:Nd):(prn (isU c) (txt c)).length<=wT c:=by
 rw[wT_eq,a6c]
 cases isU c<;>simp
theorem a7A (l:List Nd):(txtj l).length=sumF wT l:=by
 induction l with
 |nil=>rfl
 |cons c l ih=>rw[txtj,List.length_append,ih]; rfl
theorem b0Z (l:List Nd):(txtr l).length<=sumF wT l+l.length:=by
 induction l with
 |nil=>exact Nat.le_refl _
 |cons c l ih=>
  have:=jn_le c
  simp only[txtr,List.length_cons,List.length_append,sumF,List.map_cons,List.sum_cons] at *; omega
theorem a7B (l:List Nd):(txtu l).length<=sumF wT l+l.length:=by
 cases l with
 |nil=>exact Nat.le_refl _
 |cons c l=>
  have:=jn_le c
  have:=b0Z l
  simp only[txtu,List.length_cons,List.length_append,sumF,List.map_cons,List.sum_cons] at *; omega
theorem b1a (l:List Nd):csts l=sumF (fun c=>20+cst c) l:=by
 induction l with
 |nil=>rfl
 |cons c l ih=>simp only[csts,sumF,List.map_cons,List.sum_cons] at *; omega
theorem b3t {m:Nat}(l:List Nd)(h:∀c∈l,dp c<=m):dps l<=m:=by
 induction l with
 |nil=>exact Nat.zero_le _
 |cons c l ih=>
  have:=ih fun c hc=>h c (List.mem_cons_of_mem _ hc)
  have:=h c (by simp)
  rw[dps]; omega
theorem b1b:∀s:Fin 32,(setT s.val).length<=7:=by decide
theorem sgn_w (m:Int):wT (sgn m)<=1:=by
 obtain ⟨s,e,_,_,h⟩:=a8G m
 rw[e,wT_eq]; simp[txt,isU,isJ,h]
theorem sgn_c (m:Int):20+cst (sgn m)<=70:=Nat.le_refl _
theorem w_of (k n:Int)(ls:List Nd):wT (mkOf k n ls)<=8+sumF wT ls/\20+cst (mkOf k n ls)<=180+sumF (fun c=>20+cst c) ls:=by
 have h1:=a8F (f:=wT) (c:=1) sgn_w n ls
 have h2:=a7z (f:=wT) (c:=1) sgn_w n ls 0
 have h3:=a8F (f:=fun c=>20+cst c) (c:=70) sgn_c n ls
 have h4:=a7z (f:=fun c=>20+cst c) (c:=70) sgn_c n ls 0
 have h5:=a7A (ptsN n ls)
 have h6:=a7B (ptsN n ls)
 have h7:=b1a (ptsN n ls)
 have h8:=sgn_w n
 have hp:(ptsN n ls).length<=4:=by rw[a5j]; omega
 have h9:wT (.set (1+(n % 31).toNat))<=8:=by
  have a3:0<=n % 31/\n % 31<31:=⟨Int.emod_nonneg _ (by omega),Int.emod_lt_of_pos _ (by omega)⟩
  have:=b1b ⟨1+(n % 31).toNat,by omega⟩
  rw[wT_eq]; simp only[txt,isU,isJ] at *; simp; omega
 have hw:wT (ptN n ls 0)=(prn (isU (ptN n ls 0) || isJ (ptN n ls 0)) (txt (ptN n ls 0))).length:=rfl
 unfold mkOf
 split
 ·exact ⟨by omega,by simp[cst]; omega⟩
 ·exact ⟨by omega,by simp[cst]; omega⟩
 ·exact ⟨by omega,by have:=sgn_c n; omega⟩
 ·exact ⟨by omega,by have:=sgn_c n; omega⟩
 ·split<;>exact ⟨by rw[wT_eq]; simp[txt,isU,isJ]; omega,by simp[cst]; omega⟩
 all_goals first
  |(refine ⟨?_,?_⟩
    ·simp only[a8I,a8J,b0n,b0o,a8K,b0p]; omega
    ·simp only[cst]; omega)
theorem b0q (r:Rw):wT (mkX r)<=8*cntR r/\20+cst (mkX r)<=180*cntR r/\dp (mkX r)<=cntR r:=by
 refine Rw.ind (p:=fun r=>wT (mkX r)<=8*cntR r/\20+cst (mkX r)<=180*cntR r/\dp (mkX r)<=cntR r) ?_ r
 rintro ⟨k,n,l⟩ ih
 have key:∀l:List Rw,(∀c∈l,wT (mkX c)<=8*cntR c/\20+cst (mkX c)<=180*cntR c/\dp (mkX c)<=cntR c)->sumF wT (mkXs l)<=8*cntRs l/\sumF (fun c=>20+cst c) (mkXs l)<=180*cntRs l/\∀c∈mkXs l,dp c<=cntRs l:=by
  intro l
  induction l with
  |nil=>exact fun _=>⟨Nat.le_refl _,Nat.le_refl _,fun c hc=>by simp[mkXs] at hc⟩
  |cons r l ih=>
   intro h
   obtain ⟨h1,h2,h3⟩:=ih fun c hc=>h c (List.mem_cons_of_mem _ hc)
   obtain ⟨h4,h5,h6⟩:=h r (by simp)
   refine ⟨?_,?_,fun c hc=>?_⟩
   ·simp only[mkXs,sumF,List.map_cons,List.sum_cons,cntRs] at *; omega
   ·simp only[mkXs,sumF,List.map_cons,List.sum_cons,cntRs] at *; omega
   ·rw[mkXs] at hc
    rw[cntRs]
    rcases List.mem_cons.1 hc with rfl|hc
    ·omega
    ·have:=h3 c hc; omega
 obtain ⟨k1,k2,k3⟩:=key l ih
 obtain ⟨h1,h2⟩:=w_of k n (mkXs l)
 rw[mkX,cntR]
 have h0:∀i,dp (ptN n (mkXs l) i)<=cntRs l:=fun i=>by
  rcases a4J (n:=n) (ls:=mkXs l) (i:=i) with q|q
  ·exact k3 _ q
  ·rw[q]; exact Nat.zero_le _
 have h4:dps (ptsN n (mkXs l))<=cntRs l:=b3t _ fun c hc=>by
  simp only[ptsN,List.mem_map] at hc
  obtain ⟨i,_,rfl⟩:=hc
  exact h0 i
 have h5:=h0 0
 refine ⟨by omega,by omega,?_⟩
 unfold mkOf
 split<;>(try split)<;>simp only[dp,sgn]<;>omega
theorem a7C (l:List Rw):Gd (oneN l)/\Bd (oneN l):=by
 cases l with
 |nil=>exact ⟨a2n (show 1<=1/\1<=31 by omega) rfl,bd_of (a2n (show 1<=1/\1<=31 by omega) rfl) (by simp[oneN,Nd.kids]) (by simp[oneN,Nd.kids])⟩
 |cons r l=>exact ⟨a8H r,b2v r⟩
theorem b3u (l:List Rw)(h:szF 7 l<=14):(txt (oneN l)).length<=200/\cst (oneN l)+18<=900000/\dp (oneN l)<=30:=by
 have h1:=a7m 7 l h
 cases l with
 |nil=>exact ⟨by decide,by decide,by decide⟩
 |cons r l=>
  obtain ⟨w1,w2,w3⟩:=b0q r
  rw[cntRs] at h1
  have:=wT_eq (mkX r)
  simp only[oneN]
  exact ⟨by omega,by omega,by omega⟩
end Go.Gm.AQ
namespace Go.Gm.AQ
open Go Go.Gm
theorem b2w (a b:List Nat):ofL a++ofL b=ofL (a++b):=by
 apply ByteArray.ext
 rw[ByteArray.data_append]
 simp[ofL]
theorem add_s (a b:List Nat)(h:a.length+b.length<=1000000):binV .add .scalar (.str (ofL a)) (.str (ofL b))=some (.str (ofL (a++b))):=by
 rw[<-b2w]
 exact if_pos (by rw[t0_,t0_]; omega)
theorem len_s (a:List Nat):lenB (.str (ofL a))=some (I a.length):=by
 rw[show lenB (.str (ofL a))=some (I ((ofL a).size:Nat)) from rfl,t0_]
theorem sgn_s:∀i:Fin 5,slStr (.str ⟨#[119,98,99,102,116]⟩) (some (I (i.val:Nat))) (some (I ((i.val:Nat)+1)))=some (.str (ofL [sgnB i.val]))
 |⟨0,_⟩=>rfl
 |⟨1,_⟩=>rfl
 |⟨2,_⟩=>rfl
 |⟨3,_⟩=>rfl
 |⟨4,_⟩=>rfl
def setP (s i:Nat):List Nat:=((List.range i).filter fun m=>s.testBit m).map sgnB
theorem b0r (s i:Nat):setP s (i+1)=setP s i++if s.testBit i=true then [sgnB i] else []:=by
 simp only[setP,List.range_succ,List.filter_append,List.map_append]
 cases h:s.testBit i<;>simp[h]
theorem b1c {s : Nat} (hs : s ≤ 31) (h : Heap) : Tot tab l3_ [I s] h fun r h' => h = h' ∧ r = .str (ofL (setT s)) := by
  refine WP.tot (fun k => a3T k _ h) ?_
  have fin : WP (fun k : Nat => v3_ k (I s) (.str (ofL (setS s))) h) fun r h' => h = h' ∧ r = .str (ofL (setT s)) := by
    refine WP.congr (fun k => a2M k (I s) (.str (ofL (setS s))) h) ?_
    have hl := len_s (setS s)
    have hl5 : (setS s).length ≤ 5 := by rw [setS, List.length_map]; exact Nat.le_trans (List.length_filter_le ..) (by simp)
    have ha := add_s [91] (setS s) (by simp; omega)
    have hb := add_s ([91] ++ setS s) [93] (by simp; omega)
    by_cases q : s = 31
    · subst q
      simp -implicitDefEqProofs (disch := first | assumption | omega | (simp only [gL, gA] <;> omega) | fail) only [gC, reduceIte, Nat.reduceAdd, Nat.reduceMul]
      exact WP.ret ⟨rfl, rfl⟩
    · by_cases z : (setS s).length = 1
      · simp -implicitDefEqProofs (disch := first | assumption | omega | (simp only [gL, gA] <;> omega) | fail) only [gC, reduceIte, Nat.reduceAdd, Nat.reduceMul, hl]
        exact WP.ret ⟨rfl, by rw [setT, if_neg q, if_pos z]⟩
      · have ha' : binV .add .scalar (.str ⟨#[91]⟩) (.str (ofL (setS s))) = some (.str (ofL ([91] ++ setS s))) := ha
        have hb' : binV .add .scalar (.str (ofL ([91] ++ setS s))) (.str ⟨#[93]⟩) = some (.str (ofL ([91] ++ setS s ++ [93]))) := hb
        simp -implicitDefEqProofs (disch := first | assumption | omega | (simp only [gL, gA] <;> omega) | fail) only [gC, reduceIte, Nat.reduceAdd, Nat.reduceMul, hl]
        rw [ha']
        simp -implicitDefEqProofs (disch := first | assumption | omega | (simp only [gL, gA] <;> omega) | fail) only [gC, reduceIte, Nat.reduceAdd, Nat.reduceMul]
        rw [hb']
        simp -implicitDefEqProofs (disch := first | assumption | omega | (simp only [gL, gA] <;> omega) | fail) only [gC, reduceIte, Nat.reduceAdd, Nat.reduceMul]
        exact WP.ret ⟨rfl, by rw [setT, if_neg q, if_neg z]; rfl⟩
  have loop : ∀ d i : Nat, i + d = 5 → WP (fun p : Nat × Nat => k3_ p.1 p.2 (I s) (.str (ofL (setP s i))) (I i) h) fun r h' => h = h' ∧ r = .str (ofL (setT s)) := by
    intro d
    induction d with
    | zero =>
      intro i hi
      refine WP.rnd (fun i' j => a0f i' j (I s) (.str (ofL (setP s i))) (I i) h) ?_
      obtain rfl : i = 5 := by omega
      simp -implicitDefEqProofs (disch := first | assumption | omega | (simp only [gL, gA] <;> omega) | fail) only [gC, reduceIte, Nat.reduceAdd, Nat.reduceMul]
      exact WP.lv fin fun i j => rfl
    | succ d ih =>
      intro i hi
      refine WP.rnd (fun i' j => a0f i' j (I s) (.str (ofL (setP s i))) (I i) h) ?_
      have ss := sgn_s ⟨i, by omega⟩
      simp only at ss
      have hsh : binV .shr .scalar (I s) (.int .u64 i) = some (I ((s >>> i : Nat) : Int)) := shr_i (k := .u64) (s := s) (m := (i : Int)) (by omega) (by omega)
      have hle : s >>> i < 2 ^ 62 := Nat.lt_of_le_of_lt (by rw [Nat.shiftRight_eq_div_pow]; exact Nat.div_le_self _ _) (Nat.lt_of_le_of_lt hs (by decide))
      have han : binV .and .scalar (I ((s >>> i : Nat) : Int)) (.int .i64 1) = some (I (((s >>> i) &&& 1 : Nat) : Int)) := and_i (b := 1) hle (by decide)
      have hcv : convV .u64 (I i) = some (.int .u64 i) := a1k (by omega) (by omega)
      have hsn := b0r s i
      have hn := ih (i + 1) (by omega)
      obtain ⟨b2, hb2⟩ : ∃ b2, s.testBit i = b2 := ⟨_, rfl⟩
      rw [hb2] at hsn
      cases b2 with
      | false =>
        have hbt : binV .eql .scalar (I (((s >>> i) &&& 1 : Nat) : Int)) (.int .i64 1) = some (.bool false) := bit_f (m := (i : Int)) (by omega) hb2
        rw [if_neg (by decide), List.append_nil] at hsn
        rw [hsn] at hn
        simp -implicitDefEqProofs (disch := first | assumption | omega | (simp only [gL, gA] <;> omega) | fail) only [gC, reduceIte, Nat.reduceAdd, Nat.reduceMul, hcv, hsh, han, hbt]
        exact hn
      | true =>
        have hbt : binV .eql .scalar (I (((s >>> i) &&& 1 : Nat) : Int)) (.int .i64 1) = some (.bool true) := bit_t (m := (i : Int)) (by omega) hb2
        rw [if_pos rfl] at hsn
        rw [hsn] at hn
        have ha := add_s (setP s i) [sgnB i] (by have : (setP s i).length ≤ i := by { rw [setP, List.length_map]; exact Nat.le_trans (List.length_filter_le ..) (by simp) }
                                                 simp; omega)
        simp -implicitDefEqProofs (disch := first | assumption | omega | (simp only [gL, gA] <;> omega) | fail) only [gC, reduceIte, Nat.reduceAdd, Nat.reduceMul, hcv, hsh, han, hbt, ss, ha]
        exact hn
  exact WP.ent (loop 5 0 (by omega)) fun i => rfl
def TextS (n:Nd):Prop:=∀(h:Heap) (c5:List AV),NV h n c5->(txt n).length<=900000->Tot tab b8_ [.agg c5] h fun r h'=>Ext h h'/\r=.str (ofL (txt n))
theorem kinds (n:Nd):(isU n=true↔n.kind=5)/\(isJ n=true↔n.kind=4):=by cases n<;>simp[isU,isJ,Nd.kind]
theorem b2x {n:Nd}(hn:TextS n){h:Heap}{c5:List AV}(nv:NV h n c5)(hl:(txt n).length<=900000)(k:Int) :
  Tot tab o3_ [I k,.agg c5] h fun r h'=>Ext h h'/\r=.str (ofL (prn (isU n || (decide (k≠5) && isJ n)) (txt n))):=by
 refine WP.tot (fun k'=>a1Q k' _ _ h) ?_
 obtain ⟨sL,css,kv⟩:=kidsV nv
 have h5:=kv.sl.one
 obtain rfl:=kv.c
 obtain ⟨h1,hh1⟩:∃h1,h1=h++[AObj.cells ⟨[I n.kind,I n.st,I n.lo,I n.hi,sL],0,0,false⟩]:=⟨_,rfl⟩
 have e1:Ext h h1:=by rw[hh1]; exact Ext.push _ _
 have r1:h1[h.length]?=some (.cells ⟨[I n.kind,I n.st,I n.lo,I n.hi,sL],0,0,false⟩):=by rw[hh1]; simp
 simp -implicitDefEqProofs (disch:=first|assumption|omega|(simp only[gL,gA]<;>omega)|fail) only[gC,reduceIte,h5]
 rw[<-hh1]
 refine WP.call (hn h1 _ (nv.keeps (Keeps.ofExt e1)) hl) ?_
 rintro r h2 ⟨e2,rfl⟩
 have r2:=e2.get r1
 obtain ⟨ku,kj⟩:=kinds n
 have ha:binV .add .scalar (.str ⟨#[40]⟩) (.str (ofL (txt n)))=some (.str (ofL ([40]++txt n))):=add_s [40] _ (by simp; omega)
 have hb:binV .add .scalar (.str (ofL ([40]++txt n))) (.str ⟨#[41]⟩)=some (.str (ofL ([40]++txt n++[41]))):=add_s _ [41] (by simp; omega)
 by_cases q5:n.kind=5
 ·have e:prn (isU n || (decide (k≠5) && isJ n)) (txt n)=[40]++txt n++[41]:=by rw[ku.2 q5]; rfl
  simp -implicitDefEqProofs (disch:=first|assumption|omega|(simp only[gL,gA]<;>omega)|fail) only[gC,reduceIte,r2,q5,gd_tf]
  rw[ha]
  simp -implicitDefEqProofs (disch:=first|assumption|omega|(simp only[gL,gA]<;>omega)|fail) only[gC,reduceIte]
  rw[hb]
  simp -implicitDefEqProofs (disch:=first|assumption|omega|(simp only[gL,gA]<;>omega)|fail) only[gC,reduceIte]
  exact WP.ret ⟨e1.trans e2,by rw[e]⟩
 ·have hu:isU n=false:=by
   cases z:isU n with
   |false=>rfl
   |true=>exact absurd (ku.1 z) q5
  by_cases q4:n.kind=4
  ·by_cases qk:k=5
   ·subst qk
    have e:prn (isU n || (decide ((5:Int)≠5) && isJ n)) (txt n)=txt n:=by rw[hu]; rfl
    simp -implicitDefEqProofs (disch:=first|assumption|omega|(simp only[gL,gA]<;>omega)|fail) only[gC,reduceIte,r2,q5,q4]
    exact WP.ret ⟨e1.trans e2,by rw[e]⟩
   ·have e:prn (isU n || (decide (k≠5) && isJ n)) (txt n)=[40]++txt n++[41]:=by rw[hu,kj.2 q4,decide_eq_true qk]; rfl
    simp -implicitDefEqProofs (disch:=first|assumption|omega|(simp only[gL,gA]<;>omega)|fail) only[gC,reduceIte,r2,q5,q4]
    rw[ha]
    simp -implicitDefEqProofs (disch:=first|assumption|omega|(simp only[gL,gA]<;>omega)|fail) only[gC,reduceIte]
    rw[hb]
    simp -implicitDefEqProofs (disch:=first|assumption|omega|(simp only[gL,gA]<;>omega)|fail) only[gC,reduceIte]
    exact WP.ret ⟨e1.trans e2,by rw[e]⟩
  ·have hj:isJ n=false:=by
    cases z:isJ n with
    |false=>rfl
    |true=>exact absurd (kj.1 z) q4
   have e:prn (isU n || (decide (k≠5) && isJ n)) (txt n)=txt n:=by rw[hu,hj,Bool.and_false]; rfl
   simp -implicitDefEqProofs (disch:=first|assumption|omega|(simp only[gL,gA]<;>omega)|fail) only[gC,reduceIte,r2]
   exact WP.ret ⟨e1.trans e2,by rw[e]⟩
def rstT (n:Nd)(i:Nat):List Nat:=if n.kind=5 then (if i=0 then txtu n.kids else txtr (n.kids.drop i)) else txtj (n.kids.drop i)
def sufT:Nd->List Nat
 |.star _=>[42]
 |.plus _=>[43]
 |.opt _=>[63]
 |.rep a b _=>[123,48+a,44,48+b,125]
 |.join _=>[]
 |.uni _=>[]
 |.set _=>[]
 |.emp=>[]
 |.eps=>[]
theorem txtj1 (c:Nd):txtj [c]=prn (isU c || isJ c) (txt c):=by rw[txtj,txtj,List.append_nil]
theorem b2y {n:Nd}(h:4<=n.kind):txt n=rstT n 0++sufT n:=by
 cases n with
 |set s=>simp[Nd.kind] at h
 |emp=>simp[Nd.kind] at h
 |eps=>simp[Nd.kind] at h
 |join l=>rw[txt,sufT,List.append_nil]; rfl
 |uni l=>rw[txt,sufT,List.append_nil]; rfl
 |star c=>rw[txt]; exact congrArg (·++[42]) (txtj1 c).symm
 |plus c=>rw[txt]; exact congrArg (·++[43]) (txtj1 c).symm
 |opt c=>rw[txt]; exact congrArg (·++[63]) (txtj1 c).symm
 |rep a b c=>rw[txt]; exact congrArg (·++[123,48+a,44,48+b,125]) (txtj1 c).symm
theorem b2z (n:Nd){i:Nat}(h:n.kids.length<=i)(h2:n.kind=5->0<i):rstT n i=[]:=by
 rw[rstT]
 split
 ·rw[if_neg (by have:=h2 ‹_›; omega),List.drop_of_length_le h]; rfl
 ·rw[List.drop_of_length_le h]; rfl
theorem b1d {n c:Nd}{i:Nat}(h:n.kids[i]?=some c):rstT n i=(if 0<i/\n.kind=5 then [124] else [])++prn (isU c || (decide (n.kind≠5) && isJ c)) (txt c)++rstT n (i+1):=by
 have hi:=(List.getElem?_eq_some_iff.1 h).1
 have hd:n.kids.drop i=c::n.kids.drop (i+1):=by
  rw[List.drop_eq_getElem_cons hi]
  congr 1
  exact (List.getElem?_eq_some_iff.1 h).2
 simp only[rstT]
 by_cases q:n.kind=5
 ·have hq:decide (n.kind≠5)=false:=by simp[q]
  rw[if_pos q,if_pos q,if_neg (by omega:¬i+1=0),hq,Bool.false_and,Bool.or_false]
  by_cases z:i=0
  ·subst z
   rw[if_pos rfl,if_neg (by omega),List.nil_append]
   rw[List.drop_zero] at hd
   rw[hd,txtu]; rfl
  ·rw[if_neg z,if_pos ⟨by omega,q⟩,hd,txtr]; simp
 ·have hq:decide (n.kind≠5)=true:=by simp[q]
  rw[if_neg q,if_neg q,if_neg (fun z=>q z.2),hq,Bool.true_and,List.nil_append,hd,txtj]
theorem a8L {n:Int}(h0:0<=n)(h1:n<256):convV .u8 (I n)=some (.int .u8 n):=by
 show some (AV.int .u8 (IntKind.u8.wrap n))=_
 congr 2
 simp[IntKind.wrap,IntKind.bits,IntKind.signed]
 omega
theorem b2s5 (h:Heap)(a b:Nat):b2sV (h++[AObj.cells ⟨[.int .u8 123,.int .u8 (48+(a:Int)),.int .u8 44,.int .u8 (48+(b:Int)),.int .u8 125],0,0,false⟩]) (.sl h.length 0 5 1 none 0)=some (.str (ofL [123,48+a,44,48+b,125])):=by
 have ea:(48+(a:Int)).toNat=48+a:=by omega
 have eb:(48+(b:Int)).toNat=48+b:=by omega
 have e:rdc (h++[AObj.cells ⟨[.int .u8 123,.int .u8 (48+(a:Int)),.int .u8 44,.int .u8 (48+(b:Int)),.int .u8 125],0,0,false⟩]) h.length 0 5 0=some [.int .u8 123,.int .u8 (48+(a:Int)),.int .u8 44,.int .u8 (48+(b:Int)),.int .u8 125]:=by
  simp[rdc]
 simp only[b2sV,e,Option.bind_some,b2sL,ea,eb,Option.map_some]
 rfl
theorem b2A {n:Nd}(g:Gd n)(bd:n.kids.length<=1000)(hk:4<=n.kind)(ih:∀c∈n.kids,TextS c){h0 h1:Heap}{o:Nat}{sL:AV}{css:List (List AV)}(kv:KidsV h0 n [I n.kind,I n.st,I n.lo,I n.hi,sL] sL css)(hl:(txt n).length<=900000)(e0:Ext h0 h1)(ro:h1[o]?=some (.cells ⟨[I n.kind,I n.st,I n.lo,I n.hi,sL],0,0,false⟩)) :
  ∀(d i:Nat) (h:Heap) (t:List Nat),i+d=n.kids.length->Ext h1 h->t++rstT n i++sufT n=txt n->
   WP (fun p:Nat × Nat=>i7_ p.1 p.2 (.ptr o 0 5 0) (.str (ofL t)) (I i) h) fun r h'=>Ext h1 h'/\r=.str (ofL (txt n)):=by
 have lk:=kv.nv.length
 have fin:∀(h:Heap) (t:List Nat),Ext h1 h->t++sufT n=txt n->WP (fun k:Nat=>t8_ k (.ptr o 0 5 0) (.str (ofL t)) h) fun r h'=>Ext h1 h'/\r=.str (ofL (txt n)):=by
  intro h t e ht
  refine WP.congr (fun k=>a2w k (.ptr o 0 5 0) (.str (ofL t)) h) ?_
  have r:=e.get ro
  have hlt:t.length<=900000:=by rw[<-ht,List.length_append] at hl; omega
  have a1:binV .add .scalar (.str (ofL t)) (.str ⟨#[42]⟩)=some (.str (ofL (t++[42]))):=add_s t [42] (by simp; omega)
  have a2:binV .add .scalar (.str (ofL t)) (.str ⟨#[43]⟩)=some (.str (ofL (t++[43]))):=add_s t [43] (by simp; omega)
  have a3:binV .add .scalar (.str (ofL t)) (.str ⟨#[63]⟩)=some (.str (ofL (t++[63]))):=add_s t [63] (by simp; omega)
  rw[<-ht]
  cases n with
  |set s=>simp[Nd.kind] at hk
  |emp=>simp[Nd.kind] at hk
  |eps=>simp[Nd.kind] at hk
  |join l=>
   simp only[Nd.kind,Nd.st,Nd.lo,Nd.hi] at r
   simp -implicitDefEqProofs (disch:=first|assumption|omega|(simp only[gL,gA]<;>omega)|fail) only[gC,reduceIte,r]
   exact WP.ret ⟨e,by rw[sufT,List.append_nil]⟩
  |uni l=>
   simp only[Nd.kind,Nd.st,Nd.lo,Nd.hi] at r
   simp -implicitDefEqProofs (disch:=first|assumption|omega|(simp only[gL,gA]<;>omega)|fail) only[gC,reduceIte,r]
   exact WP.ret ⟨e,by rw[sufT,List.append_nil]⟩
  |star c=>
   simp only[Nd.kind,Nd.st,Nd.lo,Nd.hi] at r
   simp -implicitDefEqProofs (disch:=first|assumption|omega|(simp only[gL,gA]<;>omega)|fail) only[gC,reduceIte,r,a1]
   exact WP.ret ⟨e,rfl⟩
  |plus c=>
   simp only[Nd.kind,Nd.st,Nd.lo,Nd.hi] at r
   simp -implicitDefEqProofs (disch:=first|assumption|omega|(simp only[gL,gA]<;>omega)|fail) only[gC,reduceIte,r,a2]
   exact WP.ret ⟨e,rfl⟩
  |opt c=>
   simp only[Nd.kind,Nd.st,Nd.lo,Nd.hi] at r
   simp -implicitDefEqProofs (disch:=first|assumption|omega|(simp only[gL,gA]<;>omega)|fail) only[gC,reduceIte,r,a3]
   exact WP.ret ⟨e,rfl⟩
  |rep a b c=>
   simp only[Nd.kind,Nd.st,Nd.lo,Nd.hi] at r
   obtain ⟨g1,g2⟩:=g.rt
   have c1:=a8L (n:=48+(a:Int)) (by omega) (by omega)
   have c2:=a8L (n:=48+(b:Int)) (by omega) (by omega)
   have b5:=b2s5 h a b
   have hs:(sufT (.rep a b c)).length=5:=rfl
   have a5:=add_s t (sufT (.rep a b c)) (by rw[hs]; omega)
   simp -implicitDefEqProofs (disch:=first|assumption|omega|(simp only[gL,gA]<;>omega)|fail) only[gC,reduceIte,r,c1,c2]
   rw[b5]
   simp -implicitDefEqProofs (disch:=first|assumption|omega|(simp only[gL,gA]<;>omega)|fail) only[gC,reduceIte]
   rw[show binV .add .scalar (.str (ofL t)) (.str (ofL [123,48+a,44,48+b,125]))=some (.str (ofL (t++sufT (.rep a b c)))) from a5]
   simp -implicitDefEqProofs (disch:=first|assumption|omega|(simp only[gL,gA]<;>omega)|fail) only[gC,reduceIte]
   exact WP.ret ⟨e.trans (Ext.push _ _),rfl⟩
 intro d
 induction d with
 |zero=>
  intro i h t hi e ht
  refine WP.rnd (fun i' j=>y9_ i' j (.ptr o 0 5 0) (.str (ofL t)) (I i) h) ?_
  have r:=e.get ro
  have sl:=(kv.sl.ext e0).ext e
  have hr:rstT n i=[]:=b2z n (by omega) fun z=>by
   have:=g.rt
   cases n<;>simp[Nd.kind] at z
   simp only[RtN,Nd.kids] at *; omega
  rw[hr,List.append_nil] at ht
  simp -implicitDefEqProofs (disch:=first|assumption|omega|(simp only[gL,gA]<;>omega)|fail) only[gC,reduceIte,r,sl.lenG]
  exact WP.lv (fin h t e ht) fun i j=>rfl
 |succ d ih2=>
  intro i h t hi e ht
  refine WP.rnd (fun i' j=>y9_ i' j (.ptr o 0 5 0) (.str (ofL t)) (I i) h) ?_
  have r:=e.get ro
  have e':=e0.trans e
  have sl:=kv.sl.ext e'
  have hc:n.kids[i]?=some (n.kids[i]'(by omega)):=List.getElem?_eq_getElem (by omega)
  obtain ⟨c,hcc⟩:∃c,n.kids[i]'(by omega)=c:=⟨_,rfl⟩
  rw[hcc] at hc
  obtain ⟨cc,hg,nvc,hi2⟩:=kv.get hc
  have hs:=b1d hc
  have cm:c∈n.kids:=List.mem_of_getElem? hc
  have hle:(prn (isU c || (decide (n.kind≠5) && isJ c)) (txt c)).length<=900000/\t.length<=900000:=by
   rw[<-ht,hs] at hl
   simp only[List.length_append] at hl
   exact ⟨by omega,by omega⟩
  have hlc:(txt c).length<=900000:=by have:=hle.1; rw[a6c] at this; omega
  have key:∀(h2:Heap) (t2:List Nat),Ext h1 h2->t2++prn (isU c || (decide (n.kind≠5) && isJ c)) (txt c)++rstT n (i+1)++sufT n=txt n->
    WP (fun p:Nat × Nat=>n3_ p.1 p.2 (.ptr o 0 5 0) (.str (ofL t2)) (I i) h2) fun r h'=>Ext h1 h'/\r=.str (ofL (txt n)):=by
   intro h2 t2 e2 ht2
   refine WP.congr (fun p=>a2v p.1 p.2 (.ptr o 0 5 0) (.str (ofL t2)) (I i) h2) ?_
   have r:=e2.get ro
   have sl:=kv.sl.ext (e0.trans e2)
   have e0':=Ext.refl h2
   simp -implicitDefEqProofs (disch:=first|assumption|omega|exact Ext.refl _|(simp only[gL,gA]<;>omega)|fail) only[gC,reduceIte,r,sl.idxG,sl.ldN,hg,id]
   refine WP.call (b2x (ih c cm) (nvc.keeps (Keeps.ofExt (e0.trans e2))) hlc n.kind) ?_
   rintro rr h3 ⟨e3,rfl⟩
   have hlt:t2.length+(prn (isU c || (decide (n.kind≠5) && isJ c)) (txt c)).length<=900000:=by
    rw[<-ht2] at hl
    simp only[List.length_append] at hl
    omega
   have ha:=add_s t2 (prn (isU c || (decide (n.kind≠5) && isJ c)) (txt c)) (by omega)
   rw[ha]
   simp -implicitDefEqProofs (disch:=first|assumption|omega|(simp only[gL,gA]<;>omega)|fail) only[gC,reduceIte]
   exact ih2 (i+1) h3 _ (by omega) (e2.trans e3) ht2
  rw[hs] at ht
  by_cases q:0<i/\n.kind=5
  ·rw[if_pos q] at ht
   have ha:binV .add .scalar (.str (ofL t)) (.str ⟨#[124]⟩)=some (.str (ofL (t++[124]))):=add_s t [124] (by have:=hle.2; simp; omega)
   obtain ⟨q1,q2⟩:=q
   simp -implicitDefEqProofs (disch:=first|assumption|omega|(simp only[gL,gA]<;>omega)|fail) only[gC,reduceIte,r,sl.lenG,q2]
   rw[ha]
   simp -implicitDefEqProofs (disch:=first|assumption|omega|(simp only[gL,gA]<;>omega)|fail) only[gC,reduceIte]
   exact key h (t++[124]) e (by rw[<-ht]; simp)
  ·rw[if_neg q,List.nil_append] at ht
   by_cases z:0<i
   ·have q2:¬n.kind=5:=fun y=>q ⟨z,y⟩
    simp -implicitDefEqProofs (disch:=first|assumption|omega|(simp only[gL,gA]<;>omega)|fail) only[gC,reduceIte,r,sl.lenG]
    exact key h t e (by rw[<-ht]; simp)
   ·simp -implicitDefEqProofs (disch:=first|assumption|omega|(simp only[gL,gA]<;>omega)|fail) only[gC,reduceIte,r,sl.lenG]
    exact key h t e (by rw[<-ht]; simp)
end Go.Gm.AQ
