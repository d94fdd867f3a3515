/- A part of the proof (GmLh, GmPr, GmTx, GmDj, GmRl, GmSb, GmNl, GmSl, GmNy, GmAQkb, GmAQta, GmAQnt, GmBi, GmAQF). -/
import Derived.Test.YtldnkafmanalmaaProductCostsP5
set_option linter.unusedVariables false
set_option linter.unusedSimpArgs false
set_option linter.unusedSectionVars false
namespace Go.Gm
theorem Pow.head {r:Nat->Nat->Prop}:∀{t i j:Nat},Pow r (t+1) i j↔∃m,r i m/\Pow r t m j
 |0,i,j=>by
  constructor
  ·rintro ⟨m,h,k⟩; cases h; exact ⟨j,k,rfl⟩
  ·rintro ⟨m,h,k⟩; cases k; exact ⟨i,rfl,h⟩
 |t+1,i,j=>by
  constructor
  ·rintro ⟨m,h,k⟩
   obtain ⟨p,h1,h2⟩:=(Pow.head (t:=t)).1 h
   exact ⟨p,h1,m,h2,k⟩
  ·rintro ⟨p,h1,m,h2,k⟩
   exact ⟨m,(Pow.head (t:=t)).2 ⟨p,h1,h2⟩,k⟩
theorem Star.imp {r r':Nat->Nat->Prop}(h:∀i j,r i j->r' i j){i j:Nat}(a:Star r i j):Star r' i j:=by
 induction a with
 |refl=>exact .refl _
 |tail _ b ih=>exact .tail ih (h _ _ b)
theorem Pow.imp {r r':Nat->Nat->Prop}(h:∀i j,r i j->r' i j):∀{t i j:Nat},Pow r t i j->Pow r' t i j
 |0,_,_,a=>a
 |t+1,_,_,⟨m,a,b⟩=>⟨m,Pow.imp h a,h _ _ b⟩
theorem a9b {n:Nd}{most:Nat}{p:List Int->Bool}(h:∀t,t<=most->∀w∈wl t,(In n w↔p w=true)):wordsN n most=((List.range (most+1)).flatMap wl).filter p:=by
 refine List.filter_congr fun w hw=>?_
 simp only[List.mem_flatMap,List.mem_range] at hw
 obtain ⟨t,h1,h2⟩:=hw
 have:=h t (by omega) w h2
 cases hp:p w with
 |true=>simp[this.2 hp]
 |false=>simp[show ¬In n w from fun q=>by rw[this.1 q] at hp; cases hp]
theorem a6i {α:Type}(l:List Nat)(f:Nat->List α)(p:α->Bool):(l.flatMap f).filter p=l.flatMap fun t=>(f t).filter p:=by
 induction l with
 |nil=>rfl
 |cons a l ih=>simp[ih]
def bN (b:Bool):Nat:=if b then 1 else 0
def manyN (s:Nat):Nat:=bN (s.testBit 0)+bN (s.testBit 1)+bN (s.testBit 2)+bN (s.testBit 3)+bN (s.testBit 4)
def sel (p0 p1 p2 p3 p4:Bool)(c:Int):Bool:=if c=0 then p0 else if c=1 then p1 else if c=2 then p2 else if c=3 then p3 else p4
def selS (s:Nat)(c:Int):Bool:=sel (s.testBit 0) (s.testBit 1) (s.testBit 2) (s.testBit 3) (s.testBit 4) c
theorem a8w {s:Nat}{c:Int}(h0:0<=c)(h5:c<5):selS s c=s.testBit c.toNat:=by
 have:c=0\/c=1\/c=2\/c=3\/c=4:=by omega
 rcases this with rfl|rfl|rfl|rfl|rfl<;>rfl
def p1 (f:Int->Bool):List Int->Bool
 |[c]=>f c
 |_=>false
def p2 (f g:Int->Bool):List Int->Bool
 |[c,d]=>f c && g d
 |_=>false
theorem c1:∀p0 p1' p2' p3 p4:Bool,((wl 1).filter (p1 (sel p0 p1' p2' p3 p4))).length=bN p0+bN p1'+bN p2'+bN p3+bN p4:=by decide +kernel
theorem c2:∀p0 p1' p2' p3 p4 q0 q1 q2 q3 q4:Bool,((wl 2).filter (p2 (sel p0 p1' p2' p3 p4) (sel q0 q1 q2 q3 q4))).length=(bN p0+bN p1'+bN p2'+bN p3+bN p4)*(bN q0+bN q1+bN q2+bN q3+bN q4):=by decide +kernel
theorem a7X {t:Nat}{p:List Int->Bool}(h:∀w:List Int,w.length=t->p w=false):(wl t).filter p=[]:=by
 rw[List.filter_eq_nil_iff]
 intro w hw
 rw[h w (a7y.1 hw).1]; simp
theorem p1_ne {f:Int->Bool}{t:Nat}(ht:t≠1)(w:List Int)(h:w.length=t):p1 f w=false:=by
 match w,h with
 |[],_=>rfl
 |[c],h=>simp at h; omega
 |_::_::_,_=>rfl
theorem In_p1 {s:Nat}{w:List Int}(hw:∀c∈w,0<=c/\c<5):In (.set s) w↔p1 (selS s) w=true:=by
 rw[b3a]
 constructor
 ·rintro ⟨c,rfl,h0,h5,hb⟩
  show selS s c=true
  rw[a8w h0 h5,hb]
 ·intro h
  match w,hw,h with
  |[c],hw,h=>
   have hc:=hw c (by simp)
   exact ⟨c,rfl,hc.1,hc.2,by rw[<-a8w hc.1 hc.2]; exact h⟩
theorem count_set {s most:Nat}(hm:most<=3):(wordsN (.set s) most).length=if most<1 then 0 else manyN s:=by
 rw[a9b (p:=p1 (selS s)) fun t _ w hw=>In_p1 (a7y.1 hw).2,a6i]
 have h1:((wl 1).filter (p1 (selS s))).length=manyN s:=c1 ..
 have hn:∀t,t≠1->(wl t).filter (p1 (selS s))=[]:=fun t ht=>a7X (p1_ne ht)
 have:most=0\/most=1\/most=2\/most=3:=by omega
 rcases this with rfl|rfl|rfl|rfl<;>simp[List.range_succ,hn,h1]
end Go.Gm
namespace Go.Gm
def bt (S:ByteArray)(p:Nat):Option Nat:=(S[p]?).map UInt8.toNat
def md (c:Nat):Option Nat:=if c=119 then some 0 else if c=98 then some 1 else if c=99 then some 2 else if c=102 then some 3 else if c=116 then some 4 else none
def clsF (S:ByteArray):Nat->Nat->Nat->Option (Nat × Nat)
 |0,_,_=>none
 |f+1,p,s=>match bt S p with
  |none=>none
  |some c=>if c=93/\0<s then some (s,p+1) else match md c with
   |none=>none
   |some m=>clsF S f (p+1) (s ||| 2 ^ m)
def dig (c:Option Nat):Option Nat:=match c with
 |some c=>if 48<=c/\c<=57 then some (c-48) else none
 |none=>none
def tms (S:ByteArray)(p:Nat):Option (Nat × Nat × Nat):=match dig (bt S p),dig (bt S (p+2)) with
 |some a,some b=>if bt S (p+1)=some 44/\bt S (p+3)=some 125/\a<=b then some (a,b,p+4) else none
 |_,_=>none
inductive PM where
 |at|pc|pcl (n:Nd)|jn|jnl (l:List Nd)|un|unl (l:List Nd)
def finJ:List Nd->Nd
 |[n]=>n
 |l=>.join l
def finU:List Nd->Nd
 |[n]=>n
 |l=>.uni l
def prs (S:ByteArray):Nat->Nat->PM->Nat->Option (Nd × Nat)
 |0,_,_,_=>none
 |f+1,d,.at,p=>match bt S p with
  |none=>none
  |some c=>
   if c=40 then
    if 30<=d then none else match prs S f (d+1) .un (p+1) with
     |some (n,q)=>if bt S q=some 41 then some (n,q+1) else none
     |none=>none
   else match md c with
    |some m=>some (.set (2 ^ m),p+1)
    |none=>if c=46 then some (.set 31,p+1) else if c=48 then some (.emp,p+1) else if c=95 then some (.eps,p+1)
     else if c=91 then (match clsF S f (p+1) 0 with|some (s,q)=>some (.set s,q)|none=>none) else none
 |f+1,d,.pc,p=>match prs S f d .at p with
  |some (n,q)=>prs S f d (.pcl n) q
  |none=>none
 |f+1,d,.pcl n,p=>match bt S p with
  |none=>some (n,p)
  |some c=>if c=42 then prs S f d (.pcl (.star n)) (p+1) else if c=43 then prs S f d (.pcl (.plus n)) (p+1) else if c=63 then prs S f d (.pcl (.opt n)) (p+1)
   else if c=123 then (match tms S (p+1) with|some (a,b,q)=>prs S f d (.pcl (.rep a b n)) q|none=>none) else some (n,p)
 |f+1,d,.jn,p=>match prs S f d .pc p with
  |some (n,q)=>prs S f d (.jnl [n]) q
  |none=>none
 |f+1,d,.jnl l,p=>match bt S p with
  |none=>some (finJ l,p)
  |some c=>if c=124 then some (finJ l,p) else if c=41 then some (finJ l,p) else match prs S f d .pc p with
   |some (n,q)=>prs S f d (.jnl (l++[n])) q
   |none=>none
 |f+1,d,.un,p=>match prs S f d .jn p with
  |some (n,q)=>prs S f d (.unl [n]) q
  |none=>none
 |f+1,d,.unl l,p=>match bt S p with
  |none=>some (finU l,p)
  |some c=>if c=124 then match prs S f d .jn (p+1) with
    |some (n,q)=>prs S f d (.unl (l++[n])) q
    |none=>none
   else some (finU l,p)
abbrev U8 (n:Nat):AV:=.int .u8 n
theorem bt_ix {S:ByteArray}{p c:Nat}(h:bt S p=some c):ixS (.str S) (I p)=some (U8 c):=by
 simp only[bt,Option.map_eq_some_iff] at h
 obtain ⟨b,h1,rfl⟩:=h
 simp[ixS,h1]
theorem bt_lt {S:ByteArray}{p c:Nat}(h:bt S p=some c):p<S.size:=by
 simp only[bt,Option.map_eq_some_iff] at h
 obtain ⟨b,h1,rfl⟩:=h
 exact (getElem?_eq_some_iff.1 h1).1
theorem b2f {S:ByteArray}{p:Nat}(h:bt S p=none):S.size<=p:=by
 simp only[bt,Option.map_eq_none_iff] at h
 by_cases hp:p<S.size
 ·rw[getElem?_pos S p hp] at h; cases h
 ·omega
theorem equ_t {a:Nat}{b:Int}(h:(a:Int)=b):binV .eql .scalar (U8 a) (.int .u8 b)=some (.bool true):=by
 show some (AV.bool ((a:Int) == b))=_
 rw[h]; simp
theorem equ_f {a:Nat}{b:Int}(h:¬(a:Int)=b):binV .eql .scalar (U8 a) (.int .u8 b)=some (.bool false):=by
 show some (AV.bool ((a:Int) == b))=_
 simp[h]
theorem neu_t {a:Nat}{b:Int}(h:¬(a:Int)=b):binV .neq .scalar (U8 a) (.int .u8 b)=some (.bool true):=by
 show some (AV.bool ((a:Int) != b))=_
 simp[bne,h]
theorem neu_f {a:Nat}{b:Int}(h:(a:Int)=b):binV .neq .scalar (U8 a) (.int .u8 b)=some (.bool false):=by
 show some (AV.bool ((a:Int) != b))=_
 rw[h]; simp
theorem lsu_f {a:Nat}{b:Int}(h:¬(a:Int)<b):binV .lss .scalar (U8 a) (.int .u8 b)=some (.bool false):=by
 show some (AV.bool (decide ((a:Int)<b)))=_
 simp[h]
theorem gtu_f {a:Nat}{b:Int}(h:¬(a:Int) > b):binV .gtr .scalar (U8 a) (.int .u8 b)=some (.bool false):=by
 show some (AV.bool (decide ((a:Int) > b)))=_
 simp[h]
end Go.Gm
namespace Go.Gm
def sgnB (m:Nat):Nat:=[119,98,99,102,116].getD m 0
def setS (s:Nat):List Nat:=((List.range 5).filter fun m=>s.testBit m).map sgnB
def setT (s:Nat):List Nat:=if s=31 then [46] else if (setS s).length=1 then setS s else 91::(setS s++[93])
def isU:Nd->Bool
 |.uni _=>true
 |_=>false
def isJ:Nd->Bool
 |.join _=>true
 |_=>false
def prn (b:Bool)(t:List Nat):List Nat:=if b then 40::(t++[41]) else t
mutual
def txt:Nd->List Nat
 |.set s=>setT s
 |.emp=>[48]
 |.eps=>[95]
 |.join l=>txtj l
 |.uni l=>txtu l
 |.star n=>prn (isU n || isJ n) (txt n)++[42]
 |.plus n=>prn (isU n || isJ n) (txt n)++[43]
 |.opt n=>prn (isU n || isJ n) (txt n)++[63]
 |.rep a b n=>prn (isU n || isJ n) (txt n)++[123,48+a,44,48+b,125]
def txtj:List Nd->List Nat
 |[]=>[]
 |n::l=>prn (isU n || isJ n) (txt n)++txtj l
def txtu:List Nd->List Nat
 |[]=>[]
 |n::l=>prn (isU n) (txt n)++txtr l
def txtr:List Nd->List Nat
 |[]=>[]
 |n::l=>124::(prn (isU n) (txt n)++txtr l)
end
abbrev pcT (n:Nd):List Nat:=prn (isU n || isJ n) (txt n)
abbrev jnT (n:Nd):List Nat:=prn (isU n) (txt n)
def Sd (S:ByteArray):Nat->List Nat->Prop
 |_,[]=>True
 |p,c::t=>bt S p=some c/\Sd S (p+1) t
theorem a0J {S:ByteArray}:∀{a b:List Nat} {p:Nat},Sd S p (a++b)↔Sd S p a/\Sd S (p+a.length) b
 |[],b,p=>by simp[Sd]
 |c::a,b,p=>by
  simp only[List.cons_append,Sd,a0J (a:=a),List.length_cons]
  rw[show p+1+a.length=p+(a.length+1) by omega,and_assoc]
mutual
def dp:Nd->Nat
 |.join l=>1+dps l
 |.uni l=>1+dps l
 |.star n=>dp n
 |.plus n=>dp n
 |.opt n=>dp n
 |.rep _ _ n=>dp n
 |_=>0
def dps:List Nd->Nat
 |[]=>0
 |n::l=>max (dp n) (dps l)
end
mutual
def cst:Nd->Nat
 |.join l=>20+csts l
 |.uni l=>20+csts l
 |.star n=>10+cst n
 |.plus n=>10+cst n
 |.opt n=>10+cst n
 |.rep _ _ n=>10+cst n
 |_=>50
def csts:List Nd->Nat
 |[]=>0
 |n::l=>20+cst n+csts l
end
def Rd (S:ByteArray)(K d:Nat)(m:PM)(p:Nat)(r:Nd × Nat):Prop:=∀f,K<=f->prs S f d m p=some r
section
variable {S:ByteArray} {K K' d p q:Nat} {n:Nd} {r:Nd × Nat} {l:List Nd}
theorem Rd.le {m:PM}(h:Rd S K d m p r)(hk:K<=K'):Rd S K' d m p r:=fun f hf=>h f (by omega)
theorem g7_ {K f:Nat}(h:K+1<=f):∃g,f=g+1/\K<=g:=⟨f-1,by omega,by omega⟩
theorem rd_pc (h1:Rd S K d .at p (n,q))(h2:Rd S K' d (.pcl n) q r):Rd S (K+K'+1) d .pc p r:=by
 intro f hf
 obtain ⟨g,rfl,hg⟩:=g7_ hf
 simp only[prs,h1 g (by omega),h2 g (by omega)]
def noSuf (x:Option Nat):Prop:=x≠some 42/\x≠some 43/\x≠some 63/\x≠some 123
theorem b2g (h:noSuf (bt S p)):Rd S 1 d (.pcl n) p (n,p):=by
 intro f hf
 obtain ⟨g,rfl,hg⟩:=g7_ hf
 simp only[prs]
 cases hb:bt S p with
 |none=>rfl
 |some c=>
  rw[hb] at h
  obtain ⟨h1,h2,h3,h4⟩:=h
  simp only
  rw[if_neg (fun z=>h1 (by rw[z])),if_neg (fun z=>h2 (by rw[z])),if_neg (fun z=>h3 (by rw[z])),if_neg (fun z=>h4 (by rw[z]))]
theorem b2h (hb:bt S p=some 42)(h:Rd S K d (.pcl (.star n)) (p+1) r):Rd S (K+1) d (.pcl n) p r:=by
 intro f hf
 obtain ⟨g,rfl,hg⟩:=g7_ hf
 simp only[prs,hb]
 exact h g hg
theorem b2i (hb:bt S p=some 43)(h:Rd S K d (.pcl (.plus n)) (p+1) r):Rd S (K+1) d (.pcl n) p r:=by
 intro f hf
 obtain ⟨g,rfl,hg⟩:=g7_ hf
 simp only[prs,hb]
 exact h g hg
theorem b3b (hb:bt S p=some 63)(h:Rd S K d (.pcl (.opt n)) (p+1) r):Rd S (K+1) d (.pcl n) p r:=by
 intro f hf
 obtain ⟨g,rfl,hg⟩:=g7_ hf
 simp only[prs,hb]
 exact h g hg
theorem b3c {a b:Nat}(hab:a<=b)(hb9:b<=9)(hs:Sd S p [123,48+a,44,48+b,125])(h:Rd S K d (.pcl (.rep a b n)) (p+5) r):Rd S (K+1) d (.pcl n) p r:=by
 obtain ⟨h0,h1,h2,h3,h4,_⟩:=hs
 intro f hf
 obtain ⟨g,rfl,hg⟩:=g7_ hf
 have ht:tms S (p+1)=some (a,b,p+5):=by
  rw[show p+1+1+1=p+1+2 by omega] at h3
  rw[show p+1+1+1+1=p+1+3 by omega] at h4
  simp only[tms,h1,h3,dig]
  rw[if_pos (by omega),if_pos (by omega)]
  simp only
  rw[if_pos ⟨h2,h4,by omega⟩]
  simp only[Nat.add_sub_cancel_left,Option.some.injEq,Prod.mk.injEq]
 simp only[prs,h0,ht]
 exact h g hg
theorem rd_jn (h1:Rd S K d .pc p (n,q))(h2:Rd S K' d (.jnl [n]) q r):Rd S (K+K'+1) d .jn p r:=by
 intro f hf
 obtain ⟨g,rfl,hg⟩:=g7_ hf
 simp only[prs,h1 g (by omega),h2 g (by omega)]
def endJ (x:Option Nat):Prop:=x=none\/x=some 124\/x=some 41
def endU (x:Option Nat):Prop:=x=none\/x=some 41
theorem endU.j {x:Option Nat}(h:endU x):endJ x:=h.imp id .inr
theorem endJ.suf {x:Option Nat}(h:endJ x):noSuf x:=by
 rcases h with rfl|rfl|rfl<;>simp[noSuf]
theorem a8x (h:endJ (bt S p)):Rd S 1 d (.jnl l) p (finJ l,p):=by
 intro f hf
 obtain ⟨g,rfl,hg⟩:=g7_ hf
 rcases h with h|h|h<;>simp[prs,h]
theorem b3d {c:Nat}(hb:bt S p=some c)(h1:c≠124)(h2:c≠41)(h3:Rd S K d .pc p (n,q))(h4:Rd S K' d (.jnl (l++[n])) q r):Rd S (K+K'+1) d (.jnl l) p r:=by
 intro f hf
 obtain ⟨g,rfl,hg⟩:=g7_ hf
 simp only[prs,hb,if_neg h1,if_neg h2,h3 g (by omega),h4 g (by omega)]
theorem rd_un (h1:Rd S K d .jn p (n,q))(h2:Rd S K' d (.unl [n]) q r):Rd S (K+K'+1) d .un p r:=by
 intro f hf
 obtain ⟨g,rfl,hg⟩:=g7_ hf
 simp only[prs,h1 g (by omega),h2 g (by omega)]
theorem a6j (h:endU (bt S p)):Rd S 1 d (.unl l) p (finU l,p):=by
 intro f hf
 obtain ⟨g,rfl,hg⟩:=g7_ hf
 rcases h with h|h<;>simp[prs,h]
theorem b3e (hb:bt S p=some 124)(h3:Rd S K d .jn (p+1) (n,q))(h4:Rd S K' d (.unl (l++[n])) q r):Rd S (K+K'+1) d (.unl l) p r:=by
 intro f hf
 obtain ⟨g,rfl,hg⟩:=g7_ hf
 simp only[prs,hb,h3 g (by omega),h4 g (by omega)]
 exact if_pos trivial
theorem b3f (hb:bt S p=some 40)(hd:d<30)(h:Rd S K (d+1) .un (p+1) (n,q))(h2:bt S q=some 41):Rd S (K+1) d .at p (n,q+1):=by
 intro f hf
 obtain ⟨g,rfl,hg⟩:=g7_ hf
 simp only[prs,hb]
 simp only[if_true,if_neg (show ¬30<=d by omega),h g hg,h2]
end
theorem b0j {S:ByteArray}:∀(ms:List Nat) (p s f:Nat),(∀m∈ms,m<5)->Sd S p (ms.map sgnB++[93])->0<s\/ms≠[]->ms.length<f->clsF S f p s=some (ms.foldl (fun s m=>s ||| 2 ^ m) s,p+ms.length+1)
 |[],p,s,f,_,h,h0,hf=>by
  obtain ⟨g,rfl,_⟩:=g7_ hf
  have hs:0<s:=h0.resolve_right (by simp)
  simp only[List.map_nil,List.nil_append,Sd] at h
  simp[clsF,h.1,hs]
 |m::ms,p,s,f,hm,h,h0,hf=>by
  obtain ⟨g,rfl,hg⟩:=g7_ hf
  simp only[List.map_cons,List.cons_append,Sd] at h
  have h5:=hm m (by simp)
  have hmd:md (sgnB m)=some m/\sgnB m≠93:=by
   have:m=0\/m=1\/m=2\/m=3\/m=4:=by omega
   rcases this with rfl|rfl|rfl|rfl|rfl<;>decide
  have hpos:0<s ||| 2 ^ m:=by
   have h1:2 ^ m<=s ||| 2 ^ m:=Nat.right_le_or
   have:0<2 ^ m:=Nat.two_pow_pos m
   omega
  rw[clsF,h.1]
  simp only
  rw[if_neg (fun z=>hmd.2 z.1),hmd.1]
  simp only
  rw[b0j ms (p+1) (s ||| 2 ^ m) g (fun x hx=>hm x (List.mem_cons_of_mem _ hx)) h.2 (.inl hpos) (by simp only[List.length_cons] at hf; omega)]
  simp only[List.foldl_cons,List.length_cons,Option.some.injEq,Prod.mk.injEq,true_and]
  omega
def msOf (s:Nat):List Nat:=(List.range 5).filter fun m=>s.testBit m
theorem b2j:∀s:Fin 32,(msOf s.val).foldl (fun (s m:Nat)=>s ||| 2 ^ m) 0=s.val:=by decide
theorem ms_ne:∀s:Fin 32,0<s.val->msOf s≠[]:=by decide
theorem b3g:∀s:Fin 32,(setS s).length=1->∃m,m<5/\setS s=[sgnB m]/\s.val=2 ^ m:=by
 intro s
 have:∀s:Fin 32,(setS s).length=1->∃m:Fin 5,setS s=[sgnB m]/\s.val=2 ^ m.val:=by decide
 intro h
 obtain ⟨m,h1,h2⟩:=this s h
 exact ⟨m,m.2,h1,h2⟩
theorem ms_lt (s:Nat):∀m∈msOf s,m<5:=fun m h=>by
 have:=(List.mem_filter.1 h).1
 simpa using this
theorem b3h (s:Nat):(msOf s).length<=5:=by
 have:=List.length_filter_le (fun m=>s.testBit m) (List.range 5)
 simpa [msOf] using this
theorem b3i {S:ByteArray}{d p s:Nat}(h1:1<=s)(h2:s<=31)(h:Sd S p (setT s)):Rd S 20 d .at p (.set s,p+(setT s).length):=by
 intro f hf
 obtain ⟨g,rfl,hg⟩:=g7_ hf
 rw[setT] at h ⊢
 by_cases q:s=31
 ·rw[if_pos q] at h ⊢
  obtain ⟨hb,_⟩:=h
  simp[prs,hb,md,q]
 ·rw[if_neg q] at h ⊢
  by_cases q2:(setS s).length=1
  ·rw[if_pos q2] at h ⊢
   obtain ⟨m,m5,e1,e2⟩:=b3g ⟨s,by omega⟩ q2
   simp only at e1 e2
   rw[e1] at h ⊢
   obtain ⟨hb,_⟩:=h
   have hmd:md (sgnB m)=some m/\sgnB m≠40:=by
    have:m=0\/m=1\/m=2\/m=3\/m=4:=by omega
    rcases this with rfl|rfl|rfl|rfl|rfl<;>decide
   simp only[prs,hb]
   rw[if_neg hmd.2,hmd.1,e2]
   rfl
  ·rw[if_neg q2] at h ⊢
   obtain ⟨hb,h⟩:=h
   have hc:=b0j (msOf s) (p+1) 0 g (ms_lt s) h (.inr (ms_ne ⟨s,by omega⟩ (by simp only; omega))) (by have:=b3h s; omega)
   rw[show (msOf s).foldl (fun s m=>s ||| 2 ^ m) 0=s from b2j ⟨s,by omega⟩] at hc
   simp only[prs,hb]
   rw[if_neg (by omega),show md 91=none from rfl]
   simp only
   rw[if_neg (by omega),if_neg (by omega),if_neg (by omega),if_pos trivial,hc]
   simp only[List.length_cons,List.length_append,List.length_nil,Option.some.injEq,Prod.mk.injEq,true_and]
   have:(setS s).length=(msOf s).length:=by simp[setS,msOf]
   omega
def okH (c:Nat):Prop:=c≠42/\c≠43/\c≠63/\c≠123/\c≠124/\c≠41
theorem b2k:∀s:Fin 32,∃c t,setT s.val=c::t/\okH c:=by
 have:∀s:Fin 32,(setT s.val).headD 42≠42/\(setT s.val).headD 42≠43/\(setT s.val).headD 42≠63/\(setT s.val).headD 42≠123/\(setT s.val).headD 42≠124/\(setT s.val).headD 42≠41:=by decide
 intro s
 have h:=this s
 cases hs:setT s.val with
 |nil=>rw[hs] at h; exact absurd rfl h.1
 |cons c t=>rw[hs] at h; exact ⟨c,t,rfl,h⟩
theorem a1q {b:Bool}{t:List Nat}(h:∃c u,t=c::u/\okH c):∃c u,prn b t=c::u/\okH c:=by
 cases b with
 |false=>exact h
 |true=>exact ⟨40,t++[41],rfl,by simp[okH]⟩
theorem a4b {t u:List Nat}(h:∃c v,t=c::v/\okH c):∃c v,t++u=c::v/\okH c:=by
 obtain ⟨c,v,rfl,h⟩:=h
 exact ⟨c,v++u,rfl,h⟩
theorem a7z (n:Nd):Gd n->∃c t,txt n=c::t/\okH c:=by
 refine Nd.ind (p:=fun n=>Gd n->∃c t,txt n=c::t/\okH c) (fun n ih g=>?_) n
 cases n with
 |set s=>exact b2k ⟨s,by have:=g.rt.2; omega⟩
 |emp=>exact ⟨48,[],by rw[txt],by simp[okH]⟩
 |eps=>exact ⟨95,[],by rw[txt],by simp[okH]⟩
 |star c=>rw[txt]; exact a4b (a1q (ih c (by simp[Nd.kids]) (g.kid c (by simp[Nd.kids]))))
 |plus c=>rw[txt]; exact a4b (a1q (ih c (by simp[Nd.kids]) (g.kid c (by simp[Nd.kids]))))
 |opt c=>rw[txt]; exact a4b (a1q (ih c (by simp[Nd.kids]) (g.kid c (by simp[Nd.kids]))))
 |rep a b c=>rw[txt]; exact a4b (a1q (ih c (by simp[Nd.kids]) (g.kid c (by simp[Nd.kids]))))
 |join l=>
  cases l with
  |nil=>have:2<=0:=g.rt; omega
  |cons c l=>rw[txt,txtj]; exact a4b (a1q (ih c (by simp[Nd.kids]) (g.kid c (by simp[Nd.kids]))))
 |uni l=>
  cases l with
  |nil=>have:2<=0:=g.rt; omega
  |cons c l=>rw[txt,txtu]; exact a4b (a1q (ih c (by simp[Nd.kids]) (g.kid c (by simp[Nd.kids]))))
section
variable {S:ByteArray}
def PS (S:ByteArray)(n:Nd):Prop:=∀(d p K:Nat) (r:Nd × Nat),d+dp n<=30->Sd S p (pcT n)->Rd S K d (.pcl n) (p+(pcT n).length) r->Rd S (K+cst n+10) d .pc p r
def JS (S:ByteArray)(n:Nd):Prop:=∀(d p:Nat),d+dp n<=30->Sd S p (jnT n)->endJ (bt S (p+(jnT n).length))->Rd S (cst n+15) d .jn p (n,p+(jnT n).length)
def US (S:ByteArray)(n:Nd):Prop:=∀(d p:Nat),d+dp n<=(if (isU n || isJ n)=true then 31 else 30)->Sd S p (txt n)->endU (bt S (p+(txt n).length))->Rd S (cst n+if (isU n || isJ n)=true then 0 else 18) d .un p (n,p+(txt n).length)
theorem PS.one {n:Nd}(h:PS S n){d p:Nat}(hd:d+dp n<=30)(hs:Sd S p (pcT n))(he:noSuf (bt S (p+(pcT n).length))):Rd S (cst n+11) d .pc p (n,p+(pcT n).length):=
 (h d p 1 _ hd hs (b2g he)).le (by omega)
theorem PS.js {n:Nd}(h:PS S n)(hj:isJ n=false):JS S n:=by
 intro d p hd hs he
 have e:jnT n=pcT n:=by simp[jnT,pcT,hj]
 rw[e] at hs he ⊢
 exact (rd_jn (h.one hd hs he.suf) (a8x he)).le (by omega)
theorem JS.us {n:Nd}(h:JS S n)(hu:isU n=false){d p:Nat}(hd:d+dp n<=30)(hs:Sd S p (txt n))(he:endU (bt S (p+(txt n).length))):Rd S (cst n+17) d .un p (n,p+(txt n).length):=by
 have e:jnT n=txt n:=by simp[jnT,prn,hu]
 have h1:=h d p hd (by rw[e]; exact hs) (by rw[e]; exact he.j)
 rw[e] at h1
 exact (rd_un h1 (a6j he)).le (by omega)
theorem b3j {n:Nd}(hb:(isU n || isJ n)=true):1<=dp n:=by
 cases n<;>simp[isU,isJ] at hb<;>rw[dp]<;>omega
theorem US.ps {n:Nd}(h:US S n)(hb:(isU n || isJ n)=true):PS S n:=by
 intro d p K r hd hs hr
 have h1:=b3j hb
 have e:pcT n=40::(txt n++[41]):=by simp only[pcT,prn,hb,if_true]
 rw[e] at hs hr
 obtain ⟨h0,hs⟩:=hs
 obtain ⟨h1,h2⟩:=a0J.1 hs
 obtain ⟨h2,_⟩:=h2
 have hu:=h (d+1) (p+1) (by rw[if_pos hb]; omega) h1 (.inr h2)
 rw[if_pos hb] at hu
 have h3:=b3f h0 (by omega) hu h2
 simp only[List.length_cons,List.length_append,List.length_nil] at hr
 rw[show p+((txt n).length+(0+1)+1)=p+1+(txt n).length+1 by omega] at hr
 exact (rd_pc h3 hr).le (by omega)
theorem b0k:∀(l:List Nd),(∀c∈l,PS S c/\Gd c)->∀(acc:List Nd) (d p:Nat),d+dps l<=30->Sd S p (txtj l)->endJ (bt S (p+(txtj l).length))->Rd S (csts l+1) d (.jnl acc) p (finJ (acc++l),p+(txtj l).length)
 |[],_,acc,d,p,_,_,he=>by
  rw[txtj] at he ⊢
  rw[List.append_nil]
  exact a8x he
 |n::l,hl,acc,d,p,hd,hs,he=>by
  rw[dps] at hd
  rw[txtj] at hs he ⊢
  obtain ⟨h1,h2⟩:=a0J.1 hs
  obtain ⟨hp,hg⟩:=hl n (by simp)
  obtain ⟨c,t,e1,e2⟩:=a1q (b:=isU n || isJ n) (a7z n hg)
  rw[List.length_append,<-Nat.add_assoc] at he ⊢
  have hb:bt S p=some c:=by rw[e1] at h1; exact h1.1
  have hn:noSuf (bt S (p+(prn (isU n || isJ n) (txt n)).length)):=by
   cases l with
   |nil=>
    rw[txtj] at he
    exact he.suf
   |cons m l=>
    obtain ⟨c',t',e3,e4⟩:=a1q (b:=isU m || isJ m) (a7z m (hl m (by simp)).2)
    rw[txtj,e3] at h2
    rw[h2.1]
    simp only[okH] at e4
    simp[noSuf,e4]
  have h3:=hp.one (d:=d) (by omega) h1 hn
  have ec:csts (n::l)=20+cst n+csts l:=by simp[csts]
  have h4:=b0k l (fun c hc=>hl c (List.mem_cons_of_mem _ hc)) (acc++[n]) d (p+(prn (isU n || isJ n) (txt n)).length) (by omega) h2 he
  rw[List.append_assoc,List.singleton_append] at h4
  exact (b3d hb e2.2.2.2.2.1 e2.2.2.2.2.2 h3 h4).le (by omega)
theorem b0l:∀(l:List Nd),(∀c∈l,JS S c)->∀(acc:List Nd) (d p:Nat),d+dps l<=30->Sd S p (txtr l)->endU (bt S (p+(txtr l).length))->Rd S (csts l+1) d (.unl acc) p (finU (acc++l),p+(txtr l).length)
 |[],_,acc,d,p,_,_,he=>by
  rw[txtr] at he ⊢
  rw[List.append_nil]
  exact a6j he
 |n::l,hl,acc,d,p,hd,hs,he=>by
  rw[dps] at hd
  rw[txtr] at hs he ⊢
  obtain ⟨h0,hs⟩:=hs
  obtain ⟨h1,h2⟩:=a0J.1 hs
  rw[List.length_cons,List.length_append] at he ⊢
  rw[show p+((prn (isU n) (txt n)).length+(txtr l).length+1)=p+1+(prn (isU n) (txt n)).length+(txtr l).length by omega] at he ⊢
  have hn:endJ (bt S (p+1+(prn (isU n) (txt n)).length)):=by
   cases l with
   |nil=>rw[txtr] at he; exact he.j
   |cons m l=>rw[txtr] at h2; exact .inr (.inl h2.1)
  have h3:=hl n (by simp) d (p+1) (by omega) h1 hn
  have ec:csts (n::l)=20+cst n+csts l:=by simp[csts]
  have h4:=b0l l (fun c hc=>hl c (List.mem_cons_of_mem _ hc)) (acc++[n]) d (p+1+(prn (isU n) (txt n)).length) (by omega) h2 he
  rw[List.append_assoc,List.singleton_append] at h4
  exact (b3e h0 h3 h4).le (by omega)
theorem read (n:Nd):Gd n->PS S n/\JS S n/\US S n:=by
 refine Nd.ind (p:=fun n=>Gd n->PS S n/\JS S n/\US S n) (fun n ih g=>?_) n
 have plain:(isU n || isJ n)=false->PS S n->PS S n/\JS S n/\US S n:=fun hb h=>by
  have hu:isU n=false:=by cases hq:isU n<;>simp_all
  have hj:isJ n=false:=by cases hq:isJ n<;>simp_all
  have h2:=h.js hj
  refine ⟨h,h2,fun d p hd hs he=>?_⟩
  rw[hb] at hd ⊢
  exact (h2.us hu (by simpa using hd) hs he).le (by simp)
 cases n with
 |set s=>
  have e:pcT (.set s)=setT s:=by simp[pcT,prn,isU,isJ,txt]
  refine plain rfl fun d p K r hd hs hr=>?_
  rw[e] at hs hr
  have ec:cst (.set s)=50:=by simp[cst]
  exact (rd_pc (b3i g.rt.1 g.rt.2 hs) hr).le (by omega)
 |emp=>
  have e:pcT .emp=[48]:=by simp[pcT,prn,isU,isJ,txt]
  refine plain rfl fun d p K r hd hs hr=>?_
  rw[e] at hs hr
  have ec:cst .emp=50:=by simp[cst]
  refine (rd_pc (K:=1) (n:=.emp) (q:=p+1) (fun f hf=>?_) hr).le (by omega)
  obtain ⟨g,rfl,hg⟩:=g7_ hf
  simp[prs,hs.1,md]
 |eps=>
  have e:pcT .eps=[95]:=by simp[pcT,prn,isU,isJ,txt]
  refine plain rfl fun d p K r hd hs hr=>?_
  rw[e] at hs hr
  have ec:cst .eps=50:=by simp[cst]
  refine (rd_pc (K:=1) (n:=.eps) (q:=p+1) (fun f hf=>?_) hr).le (by omega)
  obtain ⟨g,rfl,hg⟩:=g7_ hf
  simp[prs,hs.1,md]
 |star c=>
  have e:pcT (.star c)=pcT c++[42]:=by simp[pcT,prn,isU,isJ,txt]
  refine plain rfl fun d p K r hd hs hr=>?_
  rw[e] at hs hr
  obtain ⟨h1,h2⟩:=a0J.1 hs
  rw[List.length_append,<-Nat.add_assoc] at hr
  rw[dp] at hd
  have ec:cst (.star c)=10+cst c:=by simp[cst]
  exact ((ih c (by simp[Nd.kids]) (g.kid c (by simp[Nd.kids]))).1 d p (K+1) r hd h1 (b2h h2.1 hr)).le (by omega)
 |plus c=>
  have e:pcT (.plus c)=pcT c++[43]:=by simp[pcT,prn,isU,isJ,txt]
  refine plain rfl fun d p K r hd hs hr=>?_
  rw[e] at hs hr
  obtain ⟨h1,h2⟩:=a0J.1 hs
  rw[List.length_append,<-Nat.add_assoc] at hr
  rw[dp] at hd
  have ec:cst (.plus c)=10+cst c:=by simp[cst]
  exact ((ih c (by simp[Nd.kids]) (g.kid c (by simp[Nd.kids]))).1 d p (K+1) r hd h1 (b2i h2.1 hr)).le (by omega)
 |opt c=>
  have e:pcT (.opt c)=pcT c++[63]:=by simp[pcT,prn,isU,isJ,txt]
  refine plain rfl fun d p K r hd hs hr=>?_
  rw[e] at hs hr
  obtain ⟨h1,h2⟩:=a0J.1 hs
  rw[List.length_append,<-Nat.add_assoc] at hr
  rw[dp] at hd
  have ec:cst (.opt c)=10+cst c:=by simp[cst]
  exact ((ih c (by simp[Nd.kids]) (g.kid c (by simp[Nd.kids]))).1 d p (K+1) r hd h1 (b3b h2.1 hr)).le (by omega)
 |rep a b c=>
  have e:pcT (.rep a b c)=pcT c++[123,48+a,44,48+b,125]:=by simp[pcT,prn,isU,isJ,txt]
  refine plain rfl fun d p K r hd hs hr=>?_
  rw[e] at hs hr
  obtain ⟨h1,h2⟩:=a0J.1 hs
  rw[List.length_append,<-Nat.add_assoc] at hr
  rw[dp] at hd
  have ec:cst (.rep a b c)=10+cst c:=by simp[cst]
  exact ((ih c (by simp[Nd.kids]) (g.kid c (by simp[Nd.kids]))).1 d p (K+1) r hd h1 (b3c g.rt.1 g.rt.2 h2 hr)).le (by omega)
 |join l=>
  have hk:∀c∈l,PS S c/\Gd c:=fun c hc=>⟨(ih c hc (g.kid c hc)).1,g.kid c hc⟩
  have hl:2<=l.length:=g.rt
  have J:∀d p,d+dps l<=30->Sd S p (txtj l)->endJ (bt S (p+(txtj l).length))->Rd S (csts l) d .jn p (.join l,p+(txtj l).length):=by
   intro d p hd hs he
   match l,hl,hk,hd,hs,he with
   |a::b::r,_,hk,hd,hs,he=>
    rw[dps] at hd
    rw[txtj] at hs he ⊢
    obtain ⟨h1,h2⟩:=a0J.1 hs
    rw[List.length_append,<-Nat.add_assoc] at he ⊢
    obtain ⟨c',t',e3,e4⟩:=a1q (b:=isU b || isJ b) (a7z b (hk b (by simp)).2)
    have hn:noSuf (bt S (p+(prn (isU a || isJ a) (txt a)).length)):=by
     rw[txtj,e3] at h2
     rw[h2.1]
     simp only[okH] at e4
     simp[noSuf,e4]
    have h3:=(hk a (by simp)).1.one (d:=d) (by omega) h1 hn
    have h4:=b0k (b::r) (fun c hc=>hk c (List.mem_cons_of_mem _ hc)) [a] d (p+(prn (isU a || isJ a) (txt a)).length) (by omega) h2 he
    have ec:csts (a::b::r)=20+cst a+csts (b::r):=by simp[csts]
    exact (rd_jn h3 h4).le (by omega)
  have hU:US S (.join l):=by
   intro d p hd hs he
   have hd':d+dp (.join l)<=31:=by simpa [isU,isJ] using hd
   rw[dp] at hd'
   rw[txt] at hs he ⊢
   have ec:cst (.join l)=20+csts l:=by simp[cst]
   rw[if_pos (show (isU (.join l) || isJ (.join l))=true from rfl)]
   exact (rd_un (J d p (by omega) hs he.j) (a6j he)).le (by omega)
  refine ⟨hU.ps rfl,fun d p hd hs he=>?_,hU⟩
  have e:jnT (.join l)=txtj l:=by simp[jnT,prn,isU,txt]
  rw[e] at hs he ⊢
  rw[dp] at hd
  have ec:cst (.join l)=20+csts l:=by simp[cst]
  exact (J d p (by omega) hs he).le (by omega)
 |uni l=>
  have hk:∀c∈l,JS S c:=fun c hc=>(ih c hc (g.kid c hc)).2.1
  have hl:2<=l.length:=g.rt
  have hU:US S (.uni l):=by
   intro d p hd hs he
   have hd':d+dp (.uni l)<=31:=by simpa [isU,isJ] using hd
   rw[dp] at hd'
   rw[txt] at hs he ⊢
   rw[if_pos (show (isU (.uni l) || isJ (.uni l))=true from rfl)]
   have ec:cst (.uni l)=20+csts l:=by simp[cst]
   rw[ec]
   clear ec
   match l,hl,hk,hd',hs,he with
   |a::b::r,_,hk,hd,hs,he=>
    rw[dps] at hd
    rw[txtu] at hs he ⊢
    obtain ⟨h1,h2⟩:=a0J.1 hs
    rw[List.length_append,<-Nat.add_assoc] at he ⊢
    have hn:endJ (bt S (p+(prn (isU a) (txt a)).length)):=by
     rw[txtr] at h2; exact .inr (.inl h2.1)
    have h3:=hk a (by simp) d p (by omega) h1 hn
    have h4:=b0l (b::r) (fun c hc=>hk c (List.mem_cons_of_mem _ hc)) [a] d (p+(prn (isU a) (txt a)).length) (by omega) h2 he
    have ec:csts (a::b::r)=20+cst a+csts (b::r):=by simp[csts]
    exact (rd_un h3 h4).le (by omega)
  exact ⟨hU.ps rfl,(hU.ps rfl).js rfl,hU⟩
end
def ofL (l:List Nat):ByteArray:=⟨(l.map UInt8.ofNat).toArray⟩
theorem a0X (l:List Nat):(ofL l).size=l.length:=by
 show (l.map UInt8.ofNat).toArray.size=_
 simp
theorem b0m {l:List Nat}(h:∀c∈l,c<256)(p:Nat):bt (ofL l) p=l[p]?:=by
 simp only[bt]
 by_cases hp:p<l.length
 ·have hp':p<(ofL l).size:=by rw[a0X]; exact hp
  rw[getElem?_pos (ofL l) p hp',List.getElem?_eq_getElem hp]
  have:(ofL l)[p]=UInt8.ofNat l[p]:=by
   show (l.map UInt8.ofNat).toArray[p]'(by simpa using hp)=_
   simp
  rw[this]
  simp only[Option.map_some,Option.some.injEq]
  have:=h l[p] (List.getElem_mem hp)
  simp[UInt8.toNat_ofNat',Nat.mod_eq_of_lt this]
 ·rw[List.getElem?_eq_none (by omega),getElem?_neg (ofL l) p (by rw[a0X]; exact hp)]
  rfl
theorem b0n {l:List Nat}(h:∀c∈l,c<256):∀(t:List Nat) (p:Nat),l.drop p=t->Sd (ofL l) p t
 |[],p,_=>trivial
 |c::t,p,e=>by
  have h1:l[p]?=some c:=by
   have:=congrArg List.head? e
   simpa [List.head?_drop] using this
  refine ⟨by rw[b0m h]; exact h1,b0n h t (p+1) ?_⟩
  rw[<-List.drop_drop,e]; rfl
theorem a5W {b:Bool}{t:List Nat}(h:∀c∈t,c<256):∀c∈prn b t,c<256:=by
 cases b with
 |false=>exact h
 |true=>
  intro c hc
  simp only[prn,if_true,List.mem_cons,List.mem_append,List.not_mem_nil,or_false] at hc
  rcases hc with rfl|hc|rfl
  ·omega
  ·exact h c hc
  ·omega
theorem b2l:∀s:Fin 32,∀c∈setT s,c<256:=by decide
theorem a8y:∀(l:List Nd),(∀c∈l,∀b∈txt c,b<256)->∀b∈txtj l,b<256
 |[],_,b,hb=>by rw[txtj] at hb; cases hb
 |n::l,h,b,hb=>by
  rw[txtj,List.mem_append] at hb
  rcases hb with hb|hb
  ·exact a5W (h n (by simp)) b hb
  ·exact a8y l (fun c hc=>h c (List.mem_cons_of_mem _ hc)) b hb
theorem a8z:∀(l:List Nd),(∀c∈l,∀b∈txt c,b<256)->∀b∈txtr l,b<256
 |[],_,b,hb=>by rw[txtr] at hb; cases hb
 |n::l,h,b,hb=>by
  rw[txtr,List.mem_cons,List.mem_append] at hb
  rcases hb with rfl|hb|hb
  ·omega
  ·exact a5W (h n (by simp)) b hb
  ·exact a8z l (fun c hc=>h c (List.mem_cons_of_mem _ hc)) b hb
theorem b3k (n:Nd):Gd n->∀b∈txt n,b<256:=by
 refine Nd.ind (p:=fun n=>Gd n->∀b∈txt n,b<256) (fun n ih g b hb=>?_) n
 have one:∀{c:Nd} {t:List Nat},c∈n.kids->(∀x∈t,x<256)->b∈prn (isU c || isJ c) (txt c)++t->b<256:=fun {c t} hc ht hb=>by
  rcases List.mem_append.1 hb with hb|hb
  ·exact a5W (ih c hc (g.kid c hc)) b hb
  ·exact ht b hb
 cases n with
 |set s=>rw[txt] at hb; exact b2l ⟨s,by have:=g.rt.2; omega⟩ b hb
 |emp=>rw[txt] at hb; simp at hb; omega
 |eps=>rw[txt] at hb; simp at hb; omega
 |star c=>rw[txt] at hb; exact one (by simp[Nd.kids]) (by simp) hb
 |plus c=>rw[txt] at hb; exact one (by simp[Nd.kids]) (by simp) hb
 |opt c=>rw[txt] at hb; exact one (by simp[Nd.kids]) (by simp) hb
 |rep x y c=>
  rw[txt] at hb
  obtain ⟨h1,h2⟩:x<=y/\y<=9:=g.rt
  refine one (by simp[Nd.kids]) (fun z hz=>?_) hb
  simp only[List.mem_cons,List.not_mem_nil,or_false] at hz
  omega
 |join l=>rw[txt] at hb; exact a8y l (fun c hc=>ih c hc (g.kid c hc)) b hb
 |uni l=>
  rw[txt] at hb
  cases l with
  |nil=>rw[txtu] at hb; cases hb
  |cons a l=>
   rw[txtu,List.mem_append] at hb
   rcases hb with hb|hb
   ·exact a5W (ih a (by simp[Nd.kids]) (g.kid a (by simp[Nd.kids]))) b hb
   ·exact a8z l (fun c hc=>ih c (by simp[Nd.kids,hc]) (g.kid c (by simp[Nd.kids,hc]))) b hb
theorem b2m {n:Nd}(g:Gd n)(hd:dp n<=30):prs (ofL (txt n)) (cst n+18) 0 .un 0=some (n,(ofL (txt n)).size):=by
 have h1:=b3k n g
 have h2:=(read (S:=ofL (txt n)) n g).2.2 0 0 (by split<;>omega) (b0n h1 _ 0 rfl) (.inl (by rw[b0m h1,Nat.zero_add]; simp)) (cst n+18) (by split<;>omega)
 rw[h2,a0X,Nat.zero_add]
end Go.Gm
namespace Go.Gm
abbrev Hop:=Nat × Nat × Int
inductive Wk (A:Nat->List Hop) (st:Nat->Prop):Nat->List Nat->Int->Prop
 |nil {x:Nat}:st x->Wk A st x [] 0
 |snoc {x y e:Nat} {l:List Nat} {c w:Int}:Wk A st x l c->(y,e,w)∈A x->Wk A st y (l++[e]) (c+w)
def Lst (A:Nat->List Hop)(st:Nat->Prop)(x:Nat)(c:Int):Prop:=(∃l,Wk A st x l c)/\∀l c',Wk A st x l c'->c<=c'
theorem Lst.uniq {A:Nat->List Hop}{st:Nat->Prop}{x:Nat}{c d:Int}(a:Lst A st x c)(b:Lst A st x d):c=d:=by
 obtain ⟨⟨l,h1⟩,h2⟩:=a
 obtain ⟨⟨l',h3⟩,h4⟩:=b
 have:=h2 _ _ h3
 have:=h4 _ _ h1
 omega
structure GOk (n:Nat) (W:Int) (A:Nat->List Hop):Prop where
 w0:0<=W
 hop:∀x,x<n->∀y e w,(y,e,w)∈A x->y<n/\0<=w/\w<=W
section
variable {n:Nat} {W:Int} {A:Nat->List Hop} {st:Nat->Prop}
theorem Wk.range (g:GOk n W A)(hs:∀x,st x->x<n){x:Nat}{l:List Nat}{c:Int}(h:Wk A st x l c):x<n/\0<=c:=by
 induction h with
 |nil h=>exact ⟨hs _ h,Int.le_refl _⟩
 |snoc _ k ih=>have:=g.hop _ ih.1 _ _ _ k; omega
structure DI (n:Nat) (W:Int) (A:Nat->List Hop) (st:Nat->Prop) (id:Nat) (todo:List Hop) (c:Nat->Int) (m:Nat->Option Int) (e f:Nat->Int) (r:Nat->Nat) (k:Nat):Prop where
 fin:∀x,x<n->0<=c x->Lst A st x (c x)
 neg:∀x,x<n->¬0<=c x->c x = -1
 que:∀x,x<n->∀v,m x=some v->c x = -1/\0<=v/\∃l,Wk A st x l v
 rel:∀x,x<n->0<=c x->∀y e w,(y,e,w)∈A x->(x=id/\(y,e,w)∈todo)\/0<=c y\/∃v,m y=some v/\v<=c x+w
 sta:∀x,x<n->st x->0<=c x\/m x=some 0
 ord:∀x y,x<n->y<n->0<=c x->∀v,m y=some v->c x<=v
 par:∀y,y<n->∀v,(0<=c y/\c y=v\/m y=some v)->(f y = -1/\st y/\v=0)\/∃x w,x<n/\f y=(x:Int)/\0<=c x/\0<=e y/\(y,(e y).toNat,w)∈A x/\v=c x+w/\(0<=c y->r x<r y)
 rk:∀x,x<n->0<=c x->r x<k
 bnd:∀x,x<n->∀v,(0<=c x/\c x=v\/m x=some v)->v<=k*W
 mx:∀x,x<n->0<=c x->c x<=c id
theorem DI.front {c:Nat->Int}{m:Nat->Option Int}{e f:Nat->Int}{r:Nat->Nat}{k id:Nat}(g:GOk n W A)(hs:∀x,st x->x<n)(d:DI n W A st id [] c m e f r k){y:Nat}{l:List Nat}{v:Int}(h:Wk A st y l v):(0<=c y/\c y<=v)\/∃z u,z<n/\m z=some u/\u<=v:=by
 induction h with
 |@nil x h=>
  have hx:=hs _ h
  rcases d.sta x hx h with h1|h1
  ·left
   have:=(d.fin x hx h1).2 [] 0 (.nil h)
   exact ⟨h1,this⟩
  ·exact .inr ⟨x,0,hx,h1,Int.le_refl _⟩
 |@snoc x y e l v w h1 h2 ih=>
  have hx:=(Wk.range g hs h1).1
  have hh:=g.hop x hx _ _ _ h2
  rcases ih with ⟨i1,i2⟩|⟨z,u,i1,i2,i3⟩
  ·rcases d.rel x hx i1 _ _ _ h2 with ⟨_,q⟩|q|⟨u,q1,q2⟩
   ·simp at q
   ·left
    exact ⟨q,(d.fin y hh.1 q).2 _ _ (.snoc h1 h2)⟩
   ·exact .inr ⟨y,u,hh.1,q1,by omega⟩
  ·exact .inr ⟨z,u,i1,i2,by omega⟩
theorem DI.all {c:Nat->Int}{m:Nat->Option Int}{e f:Nat->Int}{r:Nat->Nat}{k id:Nat}(g:GOk n W A)(hs:∀x,st x->x<n)(d:DI n W A st id [] c m e f r k)(hm:∀x,x<n->m x=none){y:Nat}{l:List Nat}{v:Int}(h:Wk A st y l v):0<=c y/\c y<=v:=by
 rcases d.front g hs h with h1|⟨z,u,h1,h2,_⟩
 ·exact h1
 ·rw[hm z h1] at h2; cases h2
theorem DI.pop {c:Nat->Int}{m:Nat->Option Int}{e f:Nat->Int}{r:Nat->Nat}{k id0:Nat}(g:GOk n W A)(hs:∀x,st x->x<n)(d:DI n W A st id0 [] c m e f r k){id:Nat}{key:Int}(hid:id<n)(hm:m id=some key)(hmin:∀z,z<n->∀u,m z=some u->key<=u) :
  DI n W A st id (A id) (fun x=>if x=id then key else c x) (fun x=>if x=id then none else m x) e f (fun x=>if x=id then k else r x) (k+1):=by
 obtain ⟨q1,q2,q3⟩:=d.que id hid key hm
 have hW:=g.w0
 have hkW:(k:Int)*W<=((k+1:Nat):Int)*W:=by
  rw[Int.natCast_add,Int.add_mul]; omega
 have least:∀l v,Wk A st id l v->key<=v:=by
  intro l v h
  rcases d.front g hs h with h1|⟨z,u,h1,h2,h3⟩
  ·omega
  ·have:=hmin z h1 u h2; omega
 refine ⟨fun x hx h=>?_,fun x hx h=>?_,fun x hx v h=>?_,fun x hx h y e' w h2=>?_,fun x hx h=>?_,fun x y hx hy h v h2=>?_,fun y hy v h=>?_,fun x hx h=>?_,fun x hx v h=>?_,fun x hx h=>?_⟩
 ·try simp only at h ⊢
  by_cases q:x=id
  ·subst q; rw[if_pos rfl] at h ⊢; exact ⟨q3,least⟩
  ·rw[if_neg q] at h ⊢; exact d.fin x hx h
 ·try simp only at h ⊢
  by_cases q:x=id
  ·subst q; rw[if_pos rfl] at h; exact absurd q2 h
  ·rw[if_neg q] at h ⊢; exact d.neg x hx h
 ·try simp only at h ⊢
  by_cases q:x=id
  ·rw[if_pos q] at h; cases h
  ·rw[if_neg q] at h ⊢; exact d.que x hx v h
 ·try simp only at h ⊢
  by_cases q:x=id
  ·subst q; exact .inl ⟨rfl,h2⟩
  ·rw[if_neg q] at h ⊢
   rcases d.rel x hx h _ _ _ h2 with ⟨_,z⟩|z|⟨v,z1,z2⟩
   ·simp at z
   ·right; left
    by_cases q':y=id
    ·rw[if_pos q']; exact q2
    ·rw[if_neg q']; exact z
   ·right
    by_cases q':y=id
    ·left; rw[if_pos q']; exact q2
    ·right; exact ⟨v,by rw[if_neg q']; exact z1,z2⟩
 ·try simp only
  by_cases q:x=id
  ·left; rw[if_pos q]; exact q2
  ·rw[if_neg q,if_neg q]; exact d.sta x hx h
 ·try simp only at h h2 ⊢
  by_cases q':y=id
  ·rw[if_pos q'] at h2; cases h2
  ·rw[if_neg q'] at h2
   by_cases q:x=id
   ·rw[if_pos q]; exact hmin y hy v h2
   ·rw[if_neg q] at h ⊢; exact d.ord x y hx hy h v h2
 ·try simp only at h ⊢
  have h':0<=c y/\c y=v\/m y=some v:=by
   by_cases q:y=id
   ·subst q
    rw[if_pos rfl,if_pos rfl] at h
    rcases h with h|h
    ·exact .inr (by rw[hm,h.2])
    ·cases h
   ·rw[if_neg q,if_neg q] at h; exact h
  rcases d.par y hy v h' with z|⟨x,w,z1,z2,z3,z4,z5,z6,z7⟩
  ·exact .inl z
  ·refine .inr ⟨x,w,z1,z2,?_,z4,z5,?_,fun _=>?_⟩
   ·by_cases q:x=id
    ·rw[if_pos q]; exact q2
    ·rw[if_neg q]; exact z3
   ·by_cases q:x=id
    ·subst q; omega
    ·rw[if_neg q]; exact z6
   ·have hxi:x≠id:=fun q=>by subst q; omega
    rw[if_neg hxi]
    by_cases q:y=id
    ·rw[if_pos q]; exact d.rk x z1 z3
    ·rw[if_neg q]
     refine z7 ?_
     rw[if_neg q,if_neg q] at h
     rcases h with h|h
     ·exact h.1
     ·have h0:0<=c y\/¬0<=c y:=by omega
      rcases h0 with h0|h0
      ·exact h0
      ·rename_i hc
       simp only[if_neg q] at hc
       exact hc
 ·try simp only at h ⊢
  by_cases q:x=id
  ·rw[if_pos q]; omega
  ·rw[if_neg q] at h ⊢; have:=d.rk x hx h; omega
 ·try simp only at h
  have h':0<=c x/\c x=v\/m x=some v:=by
   by_cases q:x=id
   ·subst q
    rw[if_pos rfl,if_pos rfl] at h
    rcases h with h|h
    ·exact .inr (by rw[hm,h.2])
    ·cases h
   ·rw[if_neg q,if_neg q] at h; exact h
  have:=d.bnd x hx v h'
  omega
 ·rw[if_pos rfl]
  by_cases q:x=id
  ·rw[if_pos q]; omega
  ·rw[if_neg q] at h ⊢; exact d.ord x id hx hid h key hm
theorem DI.skip {c:Nat->Int}{m:Nat->Option Int}{e f:Nat->Int}{r:Nat->Nat}{k id y ed:Nat}{w:Int}{todo:List Hop}(d:DI n W A st id ((y,ed,w)::todo) c m e f r k)(h:0<=c y\/∃v,m y=some v/\v<=c id+w):DI n W A st id todo c m e f r k:=by
 refine ⟨d.fin,d.neg,d.que,fun x hx h1 y' e' w' h2=>?_,d.sta,d.ord,d.par,d.rk,d.bnd,d.mx⟩
 rcases d.rel x hx h1 _ _ _ h2 with ⟨rfl,z⟩|z
 ·rcases List.mem_cons.1 z with z|z
  ·injection z with z1 z2
   injection z2 with z2 z3
   subst z1 z2 z3
   exact .inr h
  ·exact .inl ⟨rfl,z⟩
 ·exact .inr z
theorem DI.put {c:Nat->Int}{m:Nat->Option Int}{e f:Nat->Int}{r:Nat->Nat}{k id y ed:Nat}{w:Int}{todo:List Hop}(g:GOk n W A)(d:DI n W A st id ((y,ed,w)::todo) c m e f r (k+1))(hid:id<n)(hc:0<=c id)(hA:(y,ed,w)∈A id)(hy:c y<0)(hm:∀v,m y=some v->c id+w<v)(hk:c id<=k*W) :
  DI n W A st id todo c (fun x=>if x=y then some (c id+w) else m x) (fun x=>if x=y then (ed:Int) else e x) (fun x=>if x=y then (id:Int) else f x) r (k+1):=by
 have hh:=g.hop id hid _ _ _ hA
 have hyn:=d.neg y hh.1 (by omega)
 obtain ⟨⟨l,hl⟩,_⟩:=d.fin id hid hc
 refine ⟨d.fin,d.neg,fun x hx v h=>?_,fun x hx h1 y' e' w' h2=>?_,fun x hx h=>?_,fun x z hx hz h v h2=>?_,fun z hz v h=>?_,d.rk,fun x hx v h=>?_,d.mx⟩
 ·try simp only at h
  by_cases q:x=y
  ·subst q
   rw[if_pos rfl] at h
   injection h with h
   subst h
   exact ⟨hyn,by omega,_,.snoc hl hA⟩
  ·rw[if_neg q] at h; exact d.que x hx v h
 ·try simp only
  have key:∀z,(0<=c z\/∃v,m z=some v/\v<=c x+w')->(0<=c z\/∃v,(if z=y then some (c id+w) else m z)=some v/\v<=c x+w'):=by
   rintro z (q|⟨v,q1,q2⟩)
   ·exact .inl q
   ·by_cases qz:z=y
    ·subst qz
     right
     exact ⟨c id+w,by rw[if_pos rfl],by have:=hm v q1; omega⟩
    ·exact .inr ⟨v,by rw[if_neg qz]; exact q1,q2⟩
  rcases d.rel x hx h1 _ _ _ h2 with ⟨rfl,z⟩|z
  ·rcases List.mem_cons.1 z with z|z
   ·injection z with z1 z2
    injection z2 with z2 z3
    subst z1 z2 z3
    exact .inr (.inr ⟨c x+w',by rw[if_pos rfl],Int.le_refl _⟩)
   ·exact .inl ⟨rfl,z⟩
  ·exact .inr (key _ z)
 ·try simp only
  rcases d.sta x hx h with q|q
  ·exact .inl q
  ·by_cases qz:x=y
   ·subst qz
    have:=hm 0 q
    omega
   ·right; rw[if_neg qz]; exact q
 ·try simp only at h2
  by_cases q:z=y
  ·subst q
   rw[if_pos rfl] at h2
   injection h2 with h2
   subst h2
   have:=d.mx x hx h; omega
  ·rw[if_neg q] at h2; exact d.ord x z hx hz h v h2
 ·try simp only at h ⊢
  by_cases q:z=y
  ·subst q
   rw[if_pos rfl] at h
   right
   have hv:v=c id+w:=by
    rcases h with h|h
    ·omega
    ·injection h with h; exact h.symm
   refine ⟨id,w,hid,by rw[if_pos rfl],hc,by rw[if_pos rfl]; omega,by rw[if_pos rfl]; simpa using hA,hv,fun h=>by omega⟩
  ·rw[if_neg q] at h
   rw[if_neg q,if_neg q]
   exact d.par z hz v h
 ·try simp only at h
  by_cases q:x=y
  ·subst q
   rw[if_pos rfl] at h
   have hv:v=c id+w:=by
    rcases h with h|h
    ·omega
    ·injection h with h; exact h.symm
   rw[Int.natCast_add,Int.add_mul]
   omega
  ·rw[if_neg q] at h; exact d.bnd x hx v h
end
end Go.Gm
namespace Go.Gm
def sumN (f:Nat->Int):Nat->Int
 |0=>0
 |n+1=>sumN f n+f n
theorem a0t {f g:Nat->Int}:∀n,(∀x,x<n->f x=g x)->sumN f n=sumN g n
 |0,_=>rfl
 |n+1,h=>by rw[sumN,sumN,a0t n fun x hx=>h x (by omega),h n (by omega)]
theorem a4u {f:Nat->Int}{y:Nat}{a:Int}:∀n,y<n->sumN (fun x=>if x=y then a else f x) n=sumN f n-f y+a
 |0,h=>by omega
 |n+1,h=>by
  rw[sumN,sumN]
  by_cases q:y=n
  ·subst q
   rw[if_pos rfl,a0t y (g:=f) fun x hx=>if_neg (by omega)]
   omega
  ·rw[if_neg (fun z=>q z.symm),a4u n (by omega)]
   omega
theorem a3J {f:Nat->Int}:∀n,(∀x,x<n->0<=f x)->0<=sumN f n
 |0,_=>Int.le_refl _
 |n+1,h=>by
  have:=a3J n fun x hx=>h x (by omega)
  have:=h n (by omega)
  rw[sumN]; omega
theorem a8A {f:Nat->Int}:∀n,(∀x,x<n->f x<=1)->sumN f n<=n
 |0,_=>Int.le_refl _
 |n+1,h=>by
  have:=a8A n fun x hx=>h x (by omega)
  have:=h n (by omega)
  rw[sumN]; omega
def up (c:Nat->Int)(y:Nat)(v:Int):Nat->Int:=fun x=>if x=y then v else c x
def un (n:Nat)(c:Nat->Int):Int:=sumN (fun x=>if c x<0 then 1 else 0) n
def mu (n:Nat)(W:Int)(c:Nat->Int):Int:=sumN (fun x=>if c x<0 then n*W+1 else c x) n
theorem q1_ (n:Nat)(c:Nat->Int):0<=un n c:=a3J n fun x _=>by split<;>omega
theorem un_le (n:Nat)(c:Nat->Int):un n c<=n:=a8A n fun x _=>by split<;>omega
theorem a6H {n:Nat}{W:Int}(hW:0<=W)(c:Nat->Int):0<=mu n W c:=by
 have:0<=(n:Int)*W:=Int.mul_nonneg (by omega) hW
 exact a3J n fun x _=>by split<;>omega
theorem un_up {n:Nat}{c:Nat->Int}{y:Nat}{v:Int}(hy:y<n)(hv:0<=v):un n (up c y v)=un n c-if c y<0 then 1 else 0:=by
 have:un n (up c y v)=sumN (fun x=>if x=y then 0 else (fun x=>if c x<0 then (1:Int) else 0) x) n:=by
  refine a0t n fun x hx=>?_
  by_cases q:x=y
  ·have e:up c y v x=v:=if_pos q
   simp only[e,if_pos q]
   rw[if_neg (by omega)]
  ·have e:up c y v x=c x:=if_neg q
   simp only[e,if_neg q]
 rw[this,a4u n hy,un]
 omega
theorem mu_up {n:Nat}{W:Int}{c:Nat->Int}{y:Nat}{v:Int}(hy:y<n)(hv:0<=v):mu n W (up c y v)=mu n W c-(if c y<0 then n*W+1 else c y)+v:=by
 have:mu n W (up c y v)=sumN (fun x=>if x=y then v else (fun x=>if c x<0 then n*W+1 else c x) x) n:=by
  refine a0t n fun x hx=>?_
  by_cases q:x=y
  ·have e:up c y v x=v:=if_pos q
   simp only[e,if_pos q]
   rw[if_neg (by omega)]
  ·have e:up c y v x=c x:=if_neg q
   simp only[e,if_neg q]
 rw[this,a4u n hy,mu]
structure RI (n:Nat) (W:Int) (A:Nat->List Hop) (st:Nat->Prop) (c:Nat->Int):Prop where
 wk:∀x,x<n->0<=c x->∃l,Wk A st x l (c x)
 neg:∀x,x<n->¬0<=c x->c x = -1
 sta:∀x,x<n->st x->c x=0
 bnd:∀x,x<n->c x+un n c*W<=n*W
def LC (n:Nat)(A:Nat->List Hop)(st:Nat->Prop)(c:Nat->Int):Prop:=∀x,x<n->(0<=c x/\Lst A st x (c x))\/(c x = -1/\∀l v,¬Wk A st x l v)
section
variable {n:Nat} {W:Int} {A:Nat->List Hop} {st:Nat->Prop} {c:Nat->Int}
theorem LC.uniq {d:Nat->Int}(a:LC n A st c)(b:LC n A st d):∀x,x<n->c x=d x:=by
 intro x hx
 rcases a x hx with ⟨a1,a2⟩|⟨a1,a2⟩<;>rcases b x hx with ⟨b1,b2⟩|⟨b1,b2⟩
 ·exact a2.uniq b2
 ·obtain ⟨⟨l,h⟩,_⟩:=a2
  exact absurd h (b2 _ _)
 ·obtain ⟨⟨l,h⟩,_⟩:=b2
  exact absurd h (a2 _ _)
 ·omega
theorem RI.le (hW:0<=W)(r:RI n W A st c){x:Nat}(hx:x<n):-1<=c x/\c x<=n*W:=by
 have h1:=r.bnd x hx
 have h2:0<=un n c*W:=Int.mul_nonneg (q1_ n c) hW
 have h3:=r.neg x hx
 omega
theorem RI.relax (g:GOk n W A)(hs:∀x,st x->x<n)(r:RI n W A st c){x y e:Nat}{w:Int}(hx:x<n)(h:(y,e,w)∈A x)(h0:0<=c x)(hr:c y<0\/c x+w<c y) :
  RI n W A st (up c y (c x+w))/\mu n W (up c y (c x+w))<mu n W c:=by
 obtain ⟨hy,w0,w1⟩:=g.hop x hx _ _ _ h
 have hW:=g.w0
 have hv:0<=c x+w:=by omega
 obtain ⟨l,hl⟩:=r.wk x hx h0
 have bx:=r.bnd x hx
 have bu:=q1_ n (up c y (c x+w))
 have eu:=un_up (c:=c) hy hv
 have bm:=Int.mul_nonneg bu hW
 have key:c x+w+un n (up c y (c x+w))*W<=n*W:=by
  by_cases q:c y<0
  ·rw[if_pos q] at eu
   rw[eu,Int.sub_mul]
   omega
  ·rw[if_neg q] at eu
   have:=r.bnd y hy
   rw[eu,Int.sub_zero]
   omega
 refine ⟨⟨fun z hz hc=>?_,fun z hz hc=>?_,fun z hz hc=>?_,fun z hz=>?_⟩,?_⟩
 ·by_cases q:z=y
  ·subst q
   simp only[up,if_pos rfl]
   exact ⟨_,.snoc hl h⟩
  ·simp only[up,if_neg q] at hc ⊢
   exact r.wk z hz hc
 ·by_cases q:z=y
  ·simp only[up,if_pos q] at hc; omega
  ·simp only[up,if_neg q] at hc ⊢
   exact r.neg z hz hc
 ·by_cases q:z=y
  ·subst q
   have:=r.sta z hz hc
   omega
  ·simp only[up,if_neg q]
   exact r.sta z hz hc
 ·by_cases q:z=y
  ·subst q
   have:up c z (c x+w) z=c x+w:=if_pos rfl
   rw[this]; exact key
  ·have:up c y (c x+w) z=c z:=by simp only[up,if_neg q]
   rw[this]
   have h1:=r.bnd z hz
   have h2:un n (up c y (c x+w))*W<=un n c*W:=Int.mul_le_mul_of_nonneg_right (by rw[eu]; split<;>omega) hW
   omega
 ·rw[mu_up hy hv]
  split<;>omega
theorem RI.lst (g:GOk n W A)(hs:∀x,st x->x<n)(r:RI n W A st c)(hd:∀x,x<n->0<=c x->∀y e w,(y,e,w)∈A x->0<=c y/\c y<=c x+w):LC n A st c:=by
 have all:∀y l v,Wk A st y l v->0<=c y/\c y<=v:=by
  intro y l v h
  induction h with
  |nil h=>have:=r.sta _ (hs _ h) h; omega
  |snoc h1 h2 ih=>have:=hd _ (Wk.range g hs h1).1 ih.1 _ _ _ h2; omega
 intro x hx
 by_cases q:0<=c x
 ·exact .inl ⟨q,r.wk x hx q,fun l v h=>(all x l v h).2⟩
 ·exact .inr ⟨r.neg x hx q,fun l v h=>q (all x l v h).1⟩
theorem DI.lc {m:Nat->Option Int}{e f:Nat->Int}{r:Nat->Nat}{k id:Nat}(g:GOk n W A)(hs:∀x,st x->x<n)(d:DI n W A st id [] c m e f r k)(hm:∀x,x<n->m x=none):LC n A st c:=by
 intro x hx
 by_cases q:0<=c x
 ·exact .inl ⟨q,d.fin x hx q⟩
 ·exact .inr ⟨d.neg x hx q,fun l v h=>q (d.all g hs hm h).1⟩
theorem RI.start (g:GOk n W A){x0:Nat}(h0:x0<n)(hst:∀x,st x↔x=x0)(hc:∀x,x<n->c x=if x=x0 then 0 else -1):RI n W A st c:=by
 have hW:=g.w0
 have hu:un n c=n-1:=by
  have:un n c=sumN (fun x=>if x=x0 then 0 else (fun _=>(1:Int)) x) n:=by
   refine a0t n fun x hx=>?_
   simp only[hc x hx]
   by_cases q:x=x0
   ·rw[if_pos q,if_pos q,if_neg (by omega)]
   ·rw[if_neg q,if_neg q,if_pos (by omega)]
  have e1:∀n:Nat,sumN (fun _=>(1:Int)) n=n:=by
   intro n
   induction n with
   |zero=>rfl
   |succ n ih=>rw[sumN,ih]; omega
  rw[this,a4u n h0,e1]
  omega
 refine ⟨fun x hx h=>?_,fun x hx h=>?_,fun x hx h=>?_,fun x hx=>?_⟩
 ·rw[hc x hx] at h ⊢
  by_cases q:x=x0
  ·rw[if_pos q]; exact ⟨[],.nil ((hst x).2 q)⟩
  ·rw[if_neg q] at h; omega
 ·rw[hc x hx] at h ⊢
  by_cases q:x=x0
  ·rw[if_pos q] at h; omega
  ·rw[if_neg q]
 ·rw[hc x hx,if_pos ((hst x).1 h)]
 ·rw[hc x hx,hu,Int.sub_mul]
  have:(1:Int)*W=W:=Int.one_mul W
  split<;>omega
end
end Go.Gm
namespace Go.Gm
theorem tb_or (s q p:Nat):(s ||| 2 ^ q).testBit p=(s.testBit p || decide (p=q)):=by
 rw[Nat.testBit_or,Nat.testBit_two_pow]
 by_cases h:q=p
 ·subst h; simp
 ·simp[h,Ne.symm h]
def clo1 (fr:List (Nat × Nat))(s:Nat):Nat:=fr.foldl (fun s f=>if s.testBit f.1 then s ||| 2 ^ f.2 else s) s
def cloN (fr:List (Nat × Nat)):Nat->Nat->Nat
 |0,s=>s
 |k+1,s=>if clo1 fr s=s then s else cloN fr k (clo1 fr s)
def cloF (n:Nat)(fr:List (Nat × Nat))(s:Nat):Nat:=cloN fr (n+1) s
inductive Rch (fr:List (Nat × Nat)) (s:Nat):Nat->Prop
 |here {p:Nat}:s.testBit p=true->Rch fr s p
 |on {p q:Nat}:Rch fr s p->(p,q)∈fr->Rch fr s q
theorem Rch.mono {fr:List (Nat × Nat)}{s t:Nat}(h:∀p,s.testBit p=true->Rch fr t p){p:Nat}(k:Rch fr s p):Rch fr t p:=by
 induction k with
 |here h1=>exact h _ h1
 |on _ h2 ih=>exact .on ih h2
theorem a5d (fr0:List (Nat × Nat)):∀(fr:List (Nat × Nat)) (s:Nat),(∀f∈fr,f∈fr0)->(∀p,s.testBit p=true->(clo1 fr s).testBit p=true)/\(∀p,(clo1 fr s).testBit p=true->Rch fr0 s p)
 |[],s,_=>⟨fun p h=>h,fun p h=>.here h⟩
 |f::fr,s,hf=>by
  simp only[clo1,List.foldl_cons]
  by_cases h:s.testBit f.1=true
  ·rw[if_pos h]
   obtain ⟨h1,h2⟩:=a5d fr0 fr (s ||| 2 ^ f.2) fun g hg=>hf g (List.mem_cons_of_mem _ hg)
   refine ⟨fun p hp=>h1 p (by rw[tb_or,hp]; rfl),fun p hp=>(h2 p hp).mono fun q hq=>?_⟩
   rw[tb_or,Bool.or_eq_true,decide_eq_true_eq] at hq
   rcases hq with hq|hq
   ·exact .here hq
   ·rw[hq]; exact .on (.here h) (hf f (List.mem_cons_self ..))
  ·rw[if_neg h]
   exact a5d fr0 fr s fun g hg=>hf g (List.mem_cons_of_mem _ hg)
theorem a5C:∀(fr:List (Nat × Nat)) (s:Nat),clo1 fr s=s->∀f∈fr,s.testBit f.1=true->s.testBit f.2=true
 |[],s,_=>fun f hf=>by cases hf
 |f::fr,s,h=>by
  simp only[clo1,List.foldl_cons] at h
  intro g hg hs
  by_cases h1:s.testBit f.1=true
  ·rw[if_pos h1] at h
   have h2:s.testBit f.2=true:=by
    have:=(a5d fr fr (s ||| 2 ^ f.2) fun _ z=>z).1 f.2 (by rw[tb_or]; simp)
    rw[show clo1 fr (s ||| 2 ^ f.2)=s from h] at this
    exact this
   have h3:s ||| 2 ^ f.2=s:=by
    refine Nat.eq_of_testBit_eq fun p=>?_
    rw[tb_or]
    by_cases q:p=f.2
    ·subst q; rw[h2]; rfl
    ·simp[q]
   rw[h3] at h
   rcases List.mem_cons.1 hg with rfl|hg
   ·exact h2
   ·exact a5C fr s h g hg hs
  ·rw[if_neg h1] at h
   rcases List.mem_cons.1 hg with rfl|hg
   ·exact absurd hs h1
   ·exact a5C fr s h g hg hs
def outN (n s:Nat):Int:=un n fun p=>if s.testBit p=true then 0 else -1
theorem a8B {c d:Nat->Int}:∀n,(∀x,x<n->c x<0->d x<0)->un n c<=un n d
 |0,_=>Int.le_refl _
 |n+1,h=>by
  have h1:=a8B n fun x hx=>h x (by omega)
  show un n c+(if c n<0 then 1 else 0)<=un n d+(if d n<0 then 1 else 0)
  by_cases q:c n<0
  ·rw[if_pos q,if_pos (h n (by omega) q)]; omega
  ·rw[if_neg q]; split<;>omega
theorem un_lt {c d:Nat->Int}:∀n,(∀x,x<n->c x<0->d x<0)->∀x,x<n->¬c x<0->d x<0->un n c<un n d
 |0,_,x,hx,_,_=>by omega
 |n+1,h,x,hx,h1,h2=>by
  have h3:=a8B n fun x hx=>h x (by omega)
  show un n c+(if c n<0 then 1 else 0)<un n d+(if d n<0 then 1 else 0)
  by_cases q:x=n
  ·subst q; rw[if_neg h1,if_pos h2]; omega
  ·have h4:=un_lt n (fun x hx=>h x (by omega)) x (by omega) h1 h2
   by_cases q:c n<0
   ·rw[if_pos q,if_pos (h n (by omega) q)]; omega
   ·rw[if_neg q]; split<;>omega
theorem b2n {n s t:Nat}(h:∀p,s.testBit p=true->t.testBit p=true)(hn:∀p,t.testBit p=true->p<n)(hne:t≠s):outN n t<outN n s:=by
 obtain ⟨p,hp⟩:∃p,t.testBit p≠s.testBit p:=by
  refine Classical.byContradiction fun z=>hne (Nat.eq_of_testBit_eq fun p=>?_)
  exact Classical.byContradiction fun y=>z ⟨p,y⟩
 have ht:t.testBit p=true:=by
  cases hs:s.testBit p with
  |true=>exact h p hs
  |false=>rw[hs] at hp; simpa using hp
 have hs:¬s.testBit p=true:=fun z=>hp (by rw[ht,z])
 refine un_lt n (fun x hx h1=>?_) p (hn p ht) (by simp[ht]) (by simp[hs])
 by_cases q:s.testBit x=true
 ·rw[if_pos (h x q)] at h1; omega
 ·rw[if_neg q]; omega
theorem a8C {fr:List (Nat × Nat)}{n:Nat}(hf:∀f∈fr,f.2<n):∀(k s:Nat),(∀p,s.testBit p=true->p<n)->outN n s<k->clo1 fr (cloN fr k s)=cloN fr k s/\(∀p,s.testBit p=true->(cloN fr k s).testBit p=true)/\(∀p,(cloN fr k s).testBit p=true->Rch fr s p)
 |0,s,_,h=>by
  have:=q1_ n fun p=>if s.testBit p=true then 0 else -1
  unfold outN at h
  omega
 |k+1,s,hs,h=>by
  obtain ⟨h1,h2⟩:=a5d fr fr s fun _ z=>z
  rw[cloN]
  by_cases q:clo1 fr s=s
  ·rw[if_pos q]; exact ⟨q,fun p hp=>hp,fun p hp=>.here hp⟩
  ·rw[if_neg q]
   have hlt:∀p,(clo1 fr s).testBit p=true->p<n:=fun p hp=>by
    have:=h2 p hp
    cases this with
    |here h3=>exact hs p h3
    |on _ h4=>exact hf _ h4
   have:=b2n h1 hlt q
   obtain ⟨k1,k2,k3⟩:=a8C hf k (clo1 fr s) hlt (by omega)
   exact ⟨k1,fun p hp=>k2 p (h1 p hp),fun p hp=>(k3 p hp).mono h2⟩
theorem a2Y {fr:List (Nat × Nat)}{n s:Nat}(hf:∀f∈fr,f.2<n)(hs:∀p,s.testBit p=true->p<n)(p:Nat):(cloF n fr s).testBit p=true↔Rch fr s p:=by
 have hle:outN n s<(n+1:Nat):=by
  have:=un_le n fun p=>if s.testBit p=true then 0 else -1
  unfold outN
  omega
 obtain ⟨h1,h2,h3⟩:=a8C hf (n+1) s hs hle
 refine ⟨h3 p,fun h=>?_⟩
 induction h with
 |here h=>exact h2 _ h
 |on _ h4 ih=>exact a5C fr _ h1 _ h4 ih
theorem a7A {fr:List (Nat × Nat)}{n s:Nat}(hf:∀f∈fr,f.2<n)(hs:∀p,s.testBit p=true->p<n){p:Nat}(h:Rch fr s p):p<n:=by
 cases h with
 |here h=>exact hs _ h
 |on _ h4=>exact hf _ h4
def stpF (st:List (Nat × Nat × Nat))(s m:Nat):Nat:=st.foldl (fun t x=>if s.testBit x.1 && x.2.2.testBit m then t ||| 2 ^ x.2.1 else t) 0
theorem a6k {s m:Nat}:∀(st:List (Nat × Nat × Nat)) (t p:Nat),(st.foldl (fun t x=>if s.testBit x.1 && x.2.2.testBit m then t ||| 2 ^ x.2.1 else t) t).testBit p=true↔t.testBit p=true\/∃x∈st,s.testBit x.1=true/\x.2.2.testBit m=true/\x.2.1=p
 |[],t,p=>by simp
 |x::st,t,p=>by
  rw[List.foldl_cons]
  by_cases h:(s.testBit x.1 && x.2.2.testBit m)=true
  ·rw[if_pos h,a6k st,tb_or]
   rw[Bool.and_eq_true] at h
   simp only[Bool.or_eq_true,decide_eq_true_eq,List.mem_cons,exists_eq_or_imp]
   constructor
   ·rintro ((h1|h1)|h1)
    ·exact .inl h1
    ·exact .inr (.inl ⟨h.1,h.2,h1.symm⟩)
    ·exact .inr (.inr h1)
   ·rintro (h1|⟨_,_,h1⟩|h1)
    ·exact .inl (.inl h1)
    ·exact .inl (.inr h1.symm)
    ·exact .inr h1
  ·rw[if_neg h,a6k st]
   rw[Bool.and_eq_true] at h
   simp only[List.mem_cons,exists_eq_or_imp]
   constructor
   ·rintro (h1|h1)
    ·exact .inl h1
    ·exact .inr (.inr h1)
   ·rintro (h1|⟨h1,h2,_⟩|h1)
    ·exact .inl h1
    ·exact absurd ⟨h1,h2⟩ h
    ·exact .inr h1
theorem a2Z {st:List (Nat × Nat × Nat)}{s m p:Nat}:(stpF st s m).testBit p=true↔∃x∈st,s.testBit x.1=true/\x.2.2.testBit m=true/\x.2.1=p:=by
 rw[stpF,a6k]; simp
def idxF (x:Nat):Nat->List Nat->Option Nat
 |_,[]=>none
 |i,y::l=>if y=x then some i else idxF x (i+1) l
def rowF (nf:NF)(lim s:Nat):Nat->Nat->List Nat->List Int->Option (List Nat × List Int)
 |0,_,sets,row=>some (sets,row)
 |k+1,m,sets,row=>
  let to:=cloF nf.n nf.fr (stpF nf.st s m)
  match idxF to 0 sets with
  |some j=>rowF nf lim s k (m+1) sets (row++[(j:Int)])
  |none=>if lim<=sets.length then none else rowF nf lim s k (m+1) (sets++[to]) (row++[(sets.length:Int)])
def subL (nf:NF)(lim:Nat):Nat->Nat->List Nat->List (List Int)->List Bool->Option (List (List Int) × List Bool)
 |0,_,_,_,_=>none
 |f+1,i,sets,D,acc=>match sets[i]? with
  |none=>some (D,acc)
  |some s=>match rowF nf lim s 5 0 sets [] with
   |none=>none
   |some (sets',row)=>subL nf lim f (i+1) sets' (D++[row]) (acc++[s.testBit nf.e])
def subF (nf:NF)(lim:Nat):Option (List (List Int) × List Bool):=subL nf lim (lim+2) 0 [cloF nf.n nf.fr (2 ^ nf.s)] [] []
end Go.Gm
namespace Go.Gm
abbrev Stp:=List (Nat × Nat × Nat)
abbrev Fre:=List (Nat × Nat)
inductive Pt (w:List Int) (st:Stp) (fr:Fre) (q i:Nat):Nat->Nat->Prop
 |refl:Pt w st fr q i q i
 |free {p r j:Nat}:Pt w st fr q i p j->(p,r)∈fr->Pt w st fr q i r j
 |step {p r k j:Nat}:Pt w st fr q i p j->(p,r,k)∈st->hit w k j->Pt w st fr q i r (j+1)
section
variable {w:List Int} {st st':Stp} {fr fr':Fre}
theorem Pt.trans {q i p j r k:Nat}(a:Pt w st fr q i p j)(b:Pt w st fr p j r k):Pt w st fr q i r k:=by
 induction b with
 |refl=>exact a
 |free _ h ih=>exact .free ih h
 |step _ h1 h2 ih=>exact .step ih h1 h2
theorem Pt.one {q p i:Nat}(h:(q,p)∈fr):Pt w st fr q i p i:=.free .refl h
theorem Pt.mono (h1:∀x∈st,x∈st')(h2:∀x∈fr,x∈fr'){q i p j:Nat}(a:Pt w st fr q i p j):Pt w st' fr' q i p j:=by
 induction a with
 |refl=>exact .refl
 |free _ h ih=>exact .free ih (h2 _ h)
 |step _ h k ih=>exact .step ih (h1 _ h) k
def Clo (w:List Int)(st:Stp)(fr:Fre)(V:Nat->Nat->Prop):Prop:=(∀p r,(p,r)∈fr->∀j,V p j->V r j)/\∀p r k,(p,r,k)∈st->∀j,V p j->hit w k j->V r (j+1)
theorem Clo.pt {V:Nat->Nat->Prop}(c:Clo w st fr V){q i p j:Nat}(h:V q i)(a:Pt w st fr q i p j):V p j:=by
 induction a with
 |refl=>exact h
 |free _ h ih=>exact c.1 _ _ h _ ih
 |step _ h k ih=>exact c.2 _ _ _ h _ ih k
end
structure Frg (n:Nd) (b b':NS) (s e:Nat) (S:Stp) (F:Fre):Prop where
 st:b'.st=b.st++S
 fr:b'.fr=b.fr++F
 ls:b.n<=s/\s<b'.n
 le:b.n<=e/\e<b'.n
 eS:∀x∈S,b.n<=x.1/\x.1<b'.n/\b.n<=x.2.1/\x.2.1<b'.n
 eF:∀x∈F,b.n<=x.1/\x.1<b'.n/\b.n<=x.2/\x.2<b'.n
 com:∀w i j,R w n i j->Pt w S F s i e j
 snd:∀(w:List Int) (A:Nat->Prop),∃V:Nat->Nat->Prop,(∀q j,V q j->b.n<=q/\q<b'.n)/\Clo w S F V/\(∀j,A j->V s j)/\∀j,V e j->∃i,A i/\R w n i j
structure Frs (ns:List Nd) (b b':NS) (ft:List (Nat × Nat)) (S:Stp) (F:Fre):Prop where
 st:b'.st=b.st++S
 fr:b'.fr=b.fr++F
 len:ft.length=ns.length
 le:b.n<=b'.n
 lt:∀(k:Nat) (x:Nat × Nat),ft[k]?=some x->b.n<=x.1/\x.1<b'.n/\b.n<=x.2/\x.2<b'.n
 eS:∀x∈S,b.n<=x.1/\x.1<b'.n/\b.n<=x.2.1/\x.2.1<b'.n
 eF:∀x∈F,b.n<=x.1/\x.1<b'.n/\b.n<=x.2/\x.2<b'.n
 com:∀w (k:Nat) (x:Nat × Nat) n,ft[k]?=some x->ns[k]?=some n->∀i j,R w n i j->Pt w S F x.1 i x.2 j
 snd:∀(w:List Int) (A:Nat->Nat->Prop),∃V:Nat->Nat->Prop,(∀q j,V q j->b.n<=q/\q<b'.n)/\Clo w S F V/\∀(k:Nat) (x:Nat × Nat) n,ft[k]?=some x->ns[k]?=some n->(∀j,A k j->V x.1 j)/\∀j,V x.2 j->∃i,A k i/\R w n i j
theorem Frs.nil (b:NS):Frs [] b b [] [] []:=
 ⟨by simp,by simp,rfl,Nat.le_refl _,(fun k x h=>by simp at h),(fun x h=>by cases h),(fun x h=>by cases h),(fun w k x n h=>by simp at h),fun w A=>⟨fun _ _=>False,fun _ _ h=>h.elim,⟨(fun _ _ h=>by cases h),(fun _ _ _ h=>by cases h)⟩,fun k x n h=>by simp at h⟩⟩
theorem Frs.cons {n:Nd}{ns:List Nd}{b b1 b2:NS}{x:Nat × Nat}{ft:List (Nat × Nat)}{S S':Stp}{F F':Fre}(a:Frg n b b1 x.1 x.2 S F)(c:Frs ns b1 b2 ft S' F'):Frs (n::ns) b b2 (x::ft) (S++S') (F++F'):=by
 have h1:=a.ls
 have h2:=a.le
 have h3:=c.le
 refine ⟨by rw[c.st,a.st,List.append_assoc],by rw[c.fr,a.fr,List.append_assoc],by simp[c.len],by omega,fun k y h=>?_,fun y h=>?_,fun y h=>?_,fun w k y m h h' i j hr=>?_,fun w A=>?_⟩
 ·cases k with
  |zero=>simp at h; subst h; omega
  |succ k=>have:=c.lt k y (by simpa using h); omega
 ·rcases List.mem_append.1 h with h|h
  ·have:=a.eS y h; omega
  ·have:=c.eS y h; omega
 ·rcases List.mem_append.1 h with h|h
  ·have:=a.eF y h; omega
  ·have:=c.eF y h; omega
 ·cases k with
  |zero=>
   simp at h h'
   subst h h'
   exact (a.com w i j hr).mono (fun z hz=>List.mem_append_left _ hz) fun z hz=>List.mem_append_left _ hz
  |succ k=>exact (c.com w k y m (by simpa using h) (by simpa using h') i j hr).mono (fun z hz=>List.mem_append_right _ hz) fun z hz=>List.mem_append_right _ hz
 ·obtain ⟨V,v1,v2,v3,v4⟩:=a.snd w (A 0)
  obtain ⟨U,u1,u2,u3⟩:=c.snd w (fun k=>A (k+1))
  refine ⟨fun q j=>V q j\/U q j,fun q j h=>?_,⟨fun p r h j hv=>?_,fun p r k h j hv hh=>?_⟩,fun k y m h h'=>?_⟩
  ·rcases h with h|h
   ·have:=v1 q j h; omega
   ·have:=u1 q j h; omega
  ·rcases List.mem_append.1 h with h|h
   ·have he:=a.eF _ h
    rcases hv with hv|hv
    ·exact .inl (v2.1 p r h j hv)
    ·have:=u1 p j hv; simp only at he; omega
   ·have he:=c.eF _ h
    rcases hv with hv|hv
    ·have:=v1 p j hv; simp only at he; omega
    ·exact .inr (u2.1 p r h j hv)
  ·rcases List.mem_append.1 h with h|h
   ·have he:=a.eS _ h
    rcases hv with hv|hv
    ·exact .inl (v2.2 p r k h j hv hh)
    ·have:=u1 p j hv; simp only at he; omega
   ·have he:=c.eS _ h
    rcases hv with hv|hv
    ·have:=v1 p j hv; simp only at he; omega
    ·exact .inr (u2.2 p r k h j hv hh)
  ·cases k with
   |zero=>
    simp at h h'
    subst h h'
    refine ⟨fun j hj=>.inl (v3 j hj),fun j hj=>?_⟩
    rcases hj with hj|hj
    ·exact v4 j hj
    ·have:=u1 _ j hj; omega
   |succ k=>
    have hk:ft[k]?=some y:=by simpa using h
    obtain ⟨w1,w2⟩:=u3 k y m hk (by simpa using h')
    have hl:=c.lt k y hk
    refine ⟨fun j hj=>.inr (w1 j hj),fun j hj=>?_⟩
    rcases hj with hj|hj
    ·have:=v1 _ j hj; omega
    ·exact w2 j hj
def PSp (p:NS->List (Nat × Nat) × NS)(ns:List Nd):Prop:=∀b,(p b).2.much=false->b.much=false/\∃S F,Frs ns b (p b).2 (p b).1 S F
theorem PSp.none:PSp (fun b=>([],b)) []:=fun b h=>⟨h,[],[],Frs.nil b⟩
theorem b3l (b:NS)(s e:Nat)(l:List (Nat × Nat))(n:Nd):(b.lead s e l n).n=b.n/\(b.lead s e l n).much=b.much:=by
 cases n<;>exact ⟨rfl,rfl⟩
theorem Frs.around {n:Nd}{ns:List Nd}{b b3:NS}{ft:List (Nat × Nat)}{S S0:Stp}{F F0:Fre}(f:Frs ns ⟨b.n+1,b.much,b.st,b.fr⟩ ⟨b3.n-1,b3.much,b3.st,b3.fr⟩ ft S F)(h2:b.n+2<=b3.n)(hS:(b3.lead b.n (b3.n-1) ft n).st=b3.st++S0)(hF:(b3.lead b.n (b3.n-1) ft n).fr=b3.fr++F0)(eS:∀x∈S0,x.1=b.n/\x.2.1=b3.n-1)(eF:∀x∈F0,(x.1=b.n\/∃y∈ft,x.1=y.2)/\(x.2=b3.n-1\/∃y∈ft,x.2=y.1))(com:∀w i j,R w n i j->Pt w (S++S0) (F++F0) b.n i (b3.n-1) j)(snd:∀(w:List Int) (A:Nat->Prop),∃(B:Nat->Nat->Prop) (E:Nat->Prop),(∀j,E j->∃i,A i/\R w n i j)/\
   (∀p r k,(p,r,k)∈S0->∀j,A j->hit w k j->E (j+1))/\
   (∀V:Nat->Nat->Prop,(∀j,A j->V b.n j)->(∀j,V b.n j->A j)->(∀j,E j->V (b3.n-1) j)->(∀(k:Nat) (x:Nat × Nat) m,ft[k]?=some x->ns[k]?=some m->(∀j,B k j->V x.1 j)/\∀j,V x.2 j->∃i,B k i/\R w m i j)->∀p r,(p,r)∈F0->∀j,V p j->V r j)) :
  ∃S F,Frg n b (b3.lead b.n (b3.n-1) ft n) b.n (b3.n-1) S F:=by
 have hn:=(b3l b3 b.n (b3.n-1) ft n).1
 have hlt:∀y∈ft,b.n+1<=y.1/\y.1<b3.n-1/\b.n+1<=y.2/\y.2<b3.n-1:=fun y hy=>by
  obtain ⟨k,hk,h⟩:=List.getElem_of_mem hy
  exact f.lt k y (by rw[List.getElem?_eq_getElem hk,h])
 have fS:=f.eS
 have fF:=f.eF
 simp only at fS fF
 refine ⟨S++S0,F++F0,⟨by rw[hS,show b3.st=_ from f.st,List.append_assoc],by rw[hF,show b3.fr=_ from f.fr,List.append_assoc],by omega,by omega,fun x hx=>?_,fun x hx=>?_,com,fun w A=>?_⟩⟩
 ·rcases List.mem_append.1 hx with hx|hx
  ·have:=fS x hx; omega
  ·have:=eS x hx; omega
 ·rcases List.mem_append.1 hx with hx|hx
  ·have:=fF x hx; omega
  ·obtain ⟨h3,h4⟩:=eF x hx
   have h5:b.n<=x.1/\x.1<b3.n:=by
    rcases h3 with h3|⟨y,hy,h3⟩
    ·omega
    ·have:=hlt y hy; omega
   have h6:b.n<=x.2/\x.2<b3.n:=by
    rcases h4 with h4|⟨y,hy,h4⟩
    ·omega
    ·have:=hlt y hy; omega
   omega
 ·obtain ⟨B,E,s1,s2,s3⟩:=snd w A
  obtain ⟨V,v1,v2,v3⟩:=f.snd w B
  simp only at v1
  obtain ⟨U,hU⟩:∃U:Nat->Nat->Prop,U=fun q j=>(q=b.n/\A j)\/(q=b3.n-1/\E j)\/V q j:=⟨_,rfl⟩
  have u1:∀j,U b.n j->A j:=fun j h=>by
   rw[hU] at h
   rcases h with h|h|h
   ·exact h.2
   ·omega
   ·have:=v1 _ _ h; omega
  have u2:∀j,U (b3.n-1) j->E j:=fun j h=>by
   rw[hU] at h
   rcases h with h|h|h
   ·omega
   ·exact h.2
   ·have:=v1 _ _ h; omega
  have u3:∀q j,b.n+1<=q->q<b3.n-1->(U q j↔V q j):=fun q j h1 h2=>by
   rw[hU]
   constructor
   ·rintro (h|h|h)
    ·omega
    ·omega
    ·exact h
   ·exact fun h=>.inr (.inr h)
  have ua:∀j,A j->U b.n j:=fun j h=>by rw[hU]; exact .inl ⟨rfl,h⟩
  have ue:∀j,E j->U (b3.n-1) j:=fun j h=>by rw[hU]; exact .inr (.inl ⟨rfl,h⟩)
  refine ⟨U,fun q j h=>?_,⟨fun p r h j hv=>?_,fun p r k h j hv hh=>?_⟩,ua,fun j h=>s1 j (u2 j h)⟩
  ·rw[hU] at h
   rcases h with h|h|h
   ·omega
   ·omega
   ·have:=v1 _ _ h; omega
  ·rcases List.mem_append.1 h with h|h
   ·have:=fF _ h
    simp only at this
    rw[u3 p j (by omega) (by omega)] at hv
    rw[u3 r j (by omega) (by omega)]
    exact v2.1 p r h j hv
   ·refine s3 U ua u1 ue (fun k x m hk hm=>?_) p r h j hv
    obtain ⟨w1,w2⟩:=v3 k x m hk hm
    have hl:=f.lt k x hk
    simp only at hl
    exact ⟨fun j hj=>(u3 _ _ hl.1 hl.2.1).2 (w1 j hj),fun j hj=>w2 j ((u3 _ _ hl.2.2.1 hl.2.2.2).1 hj)⟩
  ·rcases List.mem_append.1 h with h|h
   ·have:=fS _ h
    simp only at this
    rw[u3 p j (by omega) (by omega)] at hv
    rw[u3 r (j+1) (by omega) (by omega)]
    exact v2.2 p r k h j hv hh
   ·have:=eS _ h
    simp only at this
    obtain ⟨rfl,rfl⟩:=this
    exact ue _ (s2 _ _ _ h j (u1 j hv) hh)
theorem b2o {α:Type}{l:List α}{x:α}(h:x∈l):∃k:Nat,l[k]?=some x:=by
 obtain ⟨k,hk,h⟩:=List.getElem_of_mem h
 exact ⟨k,by rw[List.getElem?_eq_getElem hk,h]⟩
theorem Star.snd {r:Nat->Nat->Prop}{a i j:Nat}(h:Star r a i)(k:r i j):∃m,r a m/\Star r m j:=by
 rcases Star.iff.1 h with rfl|⟨m,h1,h2⟩
 ·exact ⟨j,k,.refl _⟩
 ·exact ⟨m,h1,.tail h2 k⟩
structure NfOk (nf:NF):Prop where
 s:nf.s<nf.n
 e:nf.e<nf.n
 st:∀x∈nf.st,x.1<nf.n/\x.2.1<nf.n
 fr:∀x∈nf.fr,x.1<nf.n/\x.2<nf.n
end Go.Gm
namespace Go.Gm
theorem a6I {x:Nat}:∀{l:List Nat} {i j:Nat},idxF x i l=some j->i<=j/\l[j-i]?=some x
 |[],i,j,h=>by simp[idxF] at h
 |y::l,i,j,h=>by
  rw[idxF] at h
  by_cases q:y=x
  ·rw[if_pos q] at h
   injection h with h
   subst h
   exact ⟨Nat.le_refl _,by simp[q]⟩
  ·rw[if_neg q] at h
   obtain ⟨h1,h2⟩:=a6I h
   exact ⟨by omega,by rw[show j-i=j-(i+1)+1 by omega]; simpa using h2⟩
abbrev nxtF (nf:NF)(s m:Nat):Nat:=cloF nf.n nf.fr (stpF nf.st s m)
def RowOk (nf:NF)(sets:List Nat)(s:Nat)(r:List Int)(m0 k:Nat):Prop:=r.length=k/\∀t,t<k->∃j:Nat,r[t]?=some (j:Int)/\sets[j]?=some (nxtF nf s (m0+t))
theorem w3_ {α:Type}{l e:List α}{j:Nat}{x:α}(h:l[j]?=some x):(l++e)[j]?=some x:=by
 rw[List.getElem?_append_left (List.getElem?_eq_some_iff.1 h).1]; exact h
theorem a6l {nf:NF}{lim s:Nat}:∀(k m:Nat) (sets:List Nat) (row:List Int) {sets':List Nat} {row':List Int},rowF nf lim s k m sets row=some (sets',row')->(∃e,sets'=sets++e)/\(∃r,row'=row++r/\RowOk nf sets' s r m k)/\(sets'.length<=sets.length\/sets'.length<=lim)
 |0,m,sets,row,sets',row',h=>by
  simp only[rowF,Option.some.injEq,Prod.mk.injEq] at h
  obtain ⟨rfl,rfl⟩:=h
  exact ⟨⟨[],by simp⟩,⟨[],by simp,rfl,fun t ht=>by omega⟩,.inl (Nat.le_refl _)⟩
 |k+1,m,sets,row,sets',row',h=>by
  simp only[rowF] at h
  split at h
  ·rename_i j hj
   obtain ⟨⟨e,h1⟩,⟨r,h2,h3,h4⟩,h5⟩:=a6l k (m+1) _ _ h
   obtain ⟨_,hj2⟩:=a6I hj
   rw[Nat.sub_zero] at hj2
   refine ⟨⟨e,h1⟩,⟨(j:Int)::r,by rw[h2]; simp,by simp[h3],fun t ht=>?_⟩,h5⟩
   cases t with
   |zero=>exact ⟨j,rfl,by rw[h1]; exact w3_ hj2⟩
   |succ t=>
    obtain ⟨j',k1,k2⟩:=h4 t (by omega)
    exact ⟨j',by simpa using k1,by rw[k2,show m+1+t=m+(t+1) by omega]⟩
  ·rename_i hj
   split at h
   ·cases h
   ·rename_i hl
    obtain ⟨⟨e,h1⟩,⟨r,h2,h3,h4⟩,h5⟩:=a6l k (m+1) _ _ h
    refine ⟨⟨nxtF nf s m::e,by rw[h1]; simp⟩,⟨(sets.length:Int)::r,by rw[h2]; simp,by simp[h3],fun t ht=>?_⟩,?_⟩
    ·cases t with
     |zero=>exact ⟨sets.length,rfl,by rw[h1]; exact w3_ (by simp)⟩
     |succ t=>
      obtain ⟨j',k1,k2⟩:=h4 t (by omega)
      exact ⟨j',by simpa using k1,by rw[k2,show m+1+t=m+(t+1) by omega]⟩
    ·rcases h5 with h5|h5
     ·simp only[List.length_append,List.length_cons,List.length_nil] at h5
      right; omega
     ·exact .inr h5
theorem RowOk.grow {nf:NF}{sets:List Nat}{s m0 k:Nat}{r:List Int}(h:RowOk nf sets s r m0 k)(e:List Nat):RowOk nf (sets++e) s r m0 k:=
 ⟨h.1,fun t ht=>by obtain ⟨j,h1,h2⟩:=h.2 t ht; exact ⟨j,h1,w3_ h2⟩⟩
structure SubI (nf:NF) (lim:Nat) (sets:List Nat) (D:List (List Int)) (acc:List Bool) (i:Nat):Prop where
 s0:sets[0]?=some (cloF nf.n nf.fr (2 ^ nf.s))
 ld:D.length=i
 la:acc.length=i
 il:i<=sets.length
 sl:sets.length<=1\/sets.length<=lim
 row:∀a s,a<i->sets[a]?=some s->∃r,D[a]?=some r/\RowOk nf sets s r 0 5/\acc[a]?=some (s.testBit nf.e)
theorem SubI.add {nf:NF}{lim i s:Nat}{sets sets':List Nat}{D:List (List Int)}{acc:List Bool}{row:List Int}(h:SubI nf lim sets D acc i)(hs:sets[i]?=some s)(hr:rowF nf lim s 5 0 sets []=some (sets',row)):SubI nf lim sets' (D++[row]) (acc++[s.testBit nf.e]) (i+1):=by
 obtain ⟨⟨e,rfl⟩,⟨r,h2,h3⟩,h4⟩:=a6l 5 0 sets [] hr
 rw[List.nil_append] at h2
 subst h2
 have hi:=(List.getElem?_eq_some_iff.1 hs).1
 refine ⟨w3_ h.s0,by simp[h.ld],by simp[h.la],by simp; omega,?_,fun a t ha ht=>?_⟩
 ·rcases h4 with h4|h4
  ·rcases h.sl with h5|h5
   ·left; omega
   ·right; omega
  ·exact .inr h4
 ·by_cases q:a=i
  ·subst q
   rw[w3_ hs] at ht
   injection ht with ht
   subst ht
   refine ⟨row,?_,h3,?_⟩
   ·rw[<-h.ld]; simp
   ·rw[<-h.la]; simp
  ·have h5:sets[a]?=some t:=by
    rw[List.getElem?_append_left (by omega)] at ht; exact ht
   obtain ⟨r',k1,k2,k3⟩:=h.row a t (by omega) h5
   exact ⟨r',w3_ k1,k2.grow e,w3_ k3⟩
theorem a8D {nf:NF}{lim:Nat}:∀(f i:Nat) (sets:List Nat) (D:List (List Int)) (acc:List Bool) {D':List (List Int)} {acc':List Bool},subL nf lim f i sets D acc=some (D',acc')->SubI nf lim sets D acc i->∃sets',SubI nf lim sets' D' acc' sets'.length
 |0,i,sets,D,acc,D',acc',h,_=>by simp[subL] at h
 |f+1,i,sets,D,acc,D',acc',h,hi=>by
  simp only[subL] at h
  split at h
  ·rename_i hn
   injection h with h
   injection h with h1 h2
   subst h1 h2
   have h3:=List.getElem?_eq_none_iff.1 hn
   have h4:=hi.il
   have:i=sets.length:=by omega
   exact ⟨sets,this▸hi⟩
  ·rename_i s hs
   split at h
   ·cases h
   ·rename_i sets' row hr
    exact a8D f (i+1) _ _ _ h (hi.add hs hr)
theorem a8E {nf:NF}{lim:Nat}{D:List (List Int)}{acc:List Bool}(h:subF nf lim=some (D,acc)):∃sets,SubI nf lim sets D acc sets.length:=
 a8D _ _ _ _ _ h ⟨rfl,rfl,rfl,by simp,.inl (by simp),fun a s ha=>by omega⟩
section
variable {nf:NF} {w:List Int}
def Stn (nf:NF)(w:List Int)(s k:Nat):Prop:=∀q,s.testBit q=true↔Pt w nf.st nf.fr nf.s 0 q k
theorem Stn.zero (ok:NfOk nf):Stn nf w (cloF nf.n nf.fr (2 ^ nf.s)) 0:=by
 intro q
 have hb:∀p,(2 ^ nf.s).testBit p=true↔p=nf.s:=fun p=>by rw[Nat.testBit_two_pow]; simp[eq_comm]
 rw[a2Y (fun f hf=>(ok.fr f hf).2) (fun p hp=>by rw[(hb p).1 hp]; exact ok.s)]
 constructor
 ·intro h
  induction h with
  |here h=>rw[(hb _).1 h]; exact .refl
  |on _ h ih=>exact .free ih h
 ·intro h
  have:∀p j,Pt w nf.st nf.fr nf.s 0 p j->j=0->Rch nf.fr (2 ^ nf.s) p:=by
   intro p j h
   induction h with
   |refl=>exact fun _=>.here ((hb _).2 rfl)
   |free _ h ih=>exact fun e=>.on (ih e) h
   |step _ _ _ _=>intro e; omega
  exact this q 0 h rfl
theorem Stn.next (ok:NfOk nf){s k:Nat}{m:Nat}(h:Stn nf w s k)(hw:w[k]?=some (m:Int))(hm:m<5):Stn nf w (nxtF nf s m) (k+1):=by
 intro q
 have hs:∀p,(stpF nf.st s m).testBit p=true->p<nf.n:=fun p hp=>by
  obtain ⟨x,hx,_,_,rfl⟩:=a2Z.1 hp
  exact (ok.st x hx).2
 rw[nxtF,a2Y (fun f hf=>(ok.fr f hf).2) hs]
 have hit:∀ks,hit w ks k↔ks.testBit m=true:=fun ks=>by
  constructor
  ·rintro ⟨c,h1,h2,h3,h4⟩
   rw[hw] at h1
   injection h1 with h1
   subst h1
   simpa using h4
  ·exact fun h4=>⟨m,hw,by omega,by omega,by simpa using h4⟩
 constructor
 ·intro hr
  induction hr with
  |here hp=>
   obtain ⟨⟨a,b,c⟩,hx,h1,h2,h3⟩:=a2Z.1 hp
   simp only at h1 h2 h3
   subst h3
   exact .step ((h a).1 h1) hx ((hit c).2 h2)
  |on _ h ih=>exact .free ih h
 ·intro hp
  have:∀p j,Pt w nf.st nf.fr nf.s 0 p j->j=k+1->Rch nf.fr (stpF nf.st s m) p:=by
   intro p j hp
   induction hp with
   |refl=>intro e; omega
   |free _ h ih=>exact fun e=>.on (ih e) h
   |@step p r c j h1 h2 h3 _=>
    intro e
    obtain rfl:j=k:=by omega
    exact .here (a2Z.2 ⟨(p,r,c),h2,(h p).2 h1,(hit c).1 h3,rfl⟩)
  exact this q _ hp rfl
end
end Go.Gm
namespace Go.Gm
def Sv (b:NS):Prop:=∀x∈b.st,x.2.2<32
def SvN (n:Nd):Prop:=∀b,Sv b->Sv (NS.part n b).2
theorem a7B {b:NS}(h:Sv b):Sv b.state.2:=by
 rw[NS.state]; split<;>exact h
theorem a5D:∀(l:List Nd),(∀c∈l,SvN c)->∀b,Sv b->Sv (NS.parts l b).2
 |[],_,b,hb=>by rw[NS.parts]; exact hb
 |n::l,h,b,hb=>by
  rw[NS.parts]
  split
  ·exact hb
  ·exact a5D l (fun c hc=>h c (List.mem_cons_of_mem _ hc)) _ (h n (by simp) b hb)
theorem a3a {n:Nd}(h:SvN n):∀k b,Sv b->Sv (NS.times (NS.part n) k b).2
 |0,b,hb=>by rw[NS.times]; exact hb
 |k+1,b,hb=>by
  rw[NS.times]
  split
  ·exact hb
  ·exact a3a h k _ (h b hb)
theorem v7_ {n:Nd}{p:NS->List (Nat × Nat) × NS}(g:n.st<32)(hp:∀b,Sv b->Sv (p b).2)(b:NS)(hb:Sv b):Sv (NS.around n p b).2:=by
 simp only[NS.around]
 split
 ·exact hb
 ·have h1:=a7B (hp _ (a7B hb))
  simp only
  split
  ·exact h1
  ·cases n<;>try exact h1
   rename_i k
   intro x hx
   simp only[NS.lead,NS.step] at hx
   rcases List.mem_append.1 hx with hx|hx
   ·exact h1 x hx
   ·obtain rfl:=List.mem_singleton.1 hx; exact g
theorem st_lt {n:Nd}(g:Gd n):n.st<32:=by
 have:=g.rt
 cases n<;>simp[Nd.st,RtN] at *<;>omega
theorem svn (n:Nd):Gd n->SvN n:=by
 refine Nd.ind (p:=fun n=>Gd n->SvN n) (fun n ih g=>?_) n
 have k:∀c∈n.kids,SvN c:=fun c hc=>ih c hc (g.kid c hc)
 have s:=st_lt g
 cases n with
 |set s=>intro b hb; rw[NS.part]; exact v7_ s (fun b hb=>hb) b hb
 |emp=>intro b hb; rw[NS.part]; exact v7_ s (fun b hb=>hb) b hb
 |eps=>intro b hb; rw[NS.part]; exact v7_ s (fun b hb=>hb) b hb
 |uni l=>intro b hb; rw[NS.part]; exact v7_ s (a5D l k) b hb
 |star c=>intro b hb; rw[NS.part]; exact v7_ s (a3a (k c (by simp[Nd.kids])) 1) b hb
 |plus c=>intro b hb; rw[NS.part]; exact v7_ s (a3a (k c (by simp[Nd.kids])) 1) b hb
 |opt c=>intro b hb; rw[NS.part]; exact v7_ s (a3a (k c (by simp[Nd.kids])) 1) b hb
 |rep lo hi c=>intro b hb; rw[NS.part]; exact v7_ s (a3a (k c (by simp[Nd.kids])) hi) b hb
 |join l=>
  intro b hb
  rw[NS.part]
  simp only[NS.joined]
  have h1:=a5D l k b hb
  split
  ·exact hb
  ·split
   ·exact h1
   ·exact h1
theorem b3m {n:Nd}(g:Gd n){nf:NF}(h:nfaF n=some nf):nf.n<=1000/\nf.fr.length<=2000/\nf.st.length<=1000/\∀x∈nf.st,x.2.2<32:=by
 simp only[nfaF] at h
 split at h
 ·cases h
 ·injection h with h
  subst h
  have o:=NSok.new.sz (szn n g NS.new).1
  have:=o.n; have:=o.fr; have:=o.st
  exact ⟨by assumption,by simp only; omega,by simp only; omega,svn n g NS.new fun x hx=>by simp[NS.new] at hx⟩
end Go.Gm
namespace Go.Gm.AQ
open Go Go.Gm
def sumF (f:Nd->Nat)(l:List Nd):Nat:=(l.map f).sum
theorem b0o (n:Int)(ls:List Nd):∃(a b:List Nd),ptsN n ls=a++b/\a.Sublist ls/\(∀c∈b,∃m,c=sgn m)/\b.length<=2/\(a.length+b.length<=4):=by
 match ls with
 |[]=>exact ⟨[],[sgn (wr (n+((0:Nat):Int))),sgn (wr (n+((1:Nat):Int)))],rfl,by simp,(by simp; exact ⟨⟨_,rfl⟩,_,rfl⟩),by simp,by simp⟩
 |[a]=>exact ⟨[a],[sgn (wr (n+((1:Nat):Int)))],rfl,by simp,(by simp; exact ⟨_,rfl⟩),by simp,by simp⟩
 |[a,b]=>exact ⟨[a,b],[],rfl,by simp,by simp,by simp,by simp⟩
 |[a,b,c]=>exact ⟨[a,b,c],[],rfl,by simp,by simp,by simp,by simp⟩
 |a::b::c::d::l=>
  refine ⟨[a,b,c,d],[],?_,by simp,by simp,by simp,by simp⟩
  have:max 2 (min (a::b::c::d::l).length 4)=4:=by simp
  rw[ptsN,this]; rfl
theorem b2p {f:Nd->Nat}{a l:List Nd}(h:a.Sublist l):sumF f a<=sumF f l:=by
 induction h with
 |slnil=>exact Nat.le_refl _
 |cons x h ih=>simp only[sumF,List.map_cons,List.sum_cons] at *; omega
 |cons_cons x h ih=>simp only[sumF,List.map_cons,List.sum_cons] at *; omega
theorem a8F {f:Nd->Nat}{c:Nat}(hf:∀m,f (sgn m)<=c)(n:Int)(ls:List Nd):sumF f (ptsN n ls)<=2*c+sumF f ls:=by
 obtain ⟨a,b,e,h1,h2,h3,h4⟩:=b0o n ls
 have hb:sumF f b<=b.length*c:=by
  clear e h3 h4
  induction b with
  |nil=>simp[sumF]
  |cons x b ih=>
   have h5:=ih fun c hc=>h2 c (List.mem_cons_of_mem _ hc)
   obtain ⟨m,rfl⟩:=h2 x (by simp)
   have h6:=hf m
   simp only[sumF,List.map_cons,List.sum_cons,List.length_cons,Nat.succ_mul] at *; omega
 have ha:=b2p (f:=f) h1
 have:b.length*c<=2*c:=Nat.mul_le_mul_right _ h3
 rw[e]
 simp only[sumF,List.map_append,List.sum_append] at *; omega
theorem b0p {f:Nd->Nat}{c:Nat}(hf:∀m,f (sgn m)<=c)(n:Int)(ls:List Nd)(i:Nat):f (ptN n ls i)<=c+sumF f ls:=by
 rcases a5b (n:=n) (ls:=ls) (i:=i) with q|q
 ·have:∀(l:List Nd) (x:Nd),x∈l->f x<=sumF f l:=by
   intro l x hx
   induction l with
   |nil=>simp at hx
   |cons y l ih=>
    simp only[sumF,List.map_cons,List.sum_cons]
    rcases List.mem_cons.1 hx with rfl|hx
    ·omega
    ·have:=ih hx; simp only[sumF] at this; omega
  have:=this ls _ q; omega
 ·rw[q]; have:=hf (wr (n+i)); omega
theorem b3n:∀k:Fin 5,(2 ^ k.val:Nat)<=16/\1<=2 ^ k.val/\(setT (2 ^ k.val)).length=1:=by decide
theorem a8G (m:Int):∃s,sgn m=.set s/\1<=s/\s<=31/\(setT s).length=1:=by
 have a1:0<=m % 5/\m % 5<5:=⟨Int.emod_nonneg _ (by omega),Int.emod_lt_of_pos _ (by omega)⟩
 have:=b3n ⟨(m % 5).toNat,by omega⟩
 exact ⟨_,rfl,this.2.1,by have:=this.1; simp only at this ⊢; omega,this.2.2⟩
theorem a2J {n:Nd}(h:RtN n)(hk:n.kids=[]):Gd n:=.mk h (by simp[hk])
theorem a5X (m:Int):Gd (sgn m):=by
 obtain ⟨s,e,h1,h2,_⟩:=a8G m
 rw[e]; exact a2J ⟨h1,h2⟩ rfl
theorem gd_pt {n:Int}{ls:List Nd}(h:∀c∈ls,Gd c)(i:Nat):Gd (ptN n ls i):=by
 rcases a5b (n:=n) (ls:=ls) (i:=i) with q|q
 ·exact h _ q
 ·rw[q]; exact a5X _
theorem gd_of (k n:Int)(ls:List Nd)(h:∀c∈ls,Gd c):Gd (mkOf k n ls):=by
 have hp:=a5y n ls
 have h2:∀c∈ptsN n ls,Gd c:=fun c hc=>by
  simp only[ptsN,List.mem_map] at hc
  obtain ⟨i,_,rfl⟩:=hc
  exact gd_pt h i
 have h1:∀c∈[ptN n ls 0],Gd c:=fun c hc=>by rw[List.mem_singleton.1 hc]; exact gd_pt h 0
 have a1:0<=n % 4/\n % 4<4:=⟨Int.emod_nonneg _ (by omega),Int.emod_lt_of_pos _ (by omega)⟩
 have a2:0<=wr (n.tdiv 4) % 3/\wr (n.tdiv 4) % 3<3:=⟨Int.emod_nonneg _ (by omega),Int.emod_lt_of_pos _ (by omega)⟩
 have a3:0<=n % 31/\n % 31<31:=⟨Int.emod_nonneg _ (by omega),Int.emod_lt_of_pos _ (by omega)⟩
 unfold mkOf
 split
 ·exact a2J (show 1<=_/\_<=31 by omega) rfl
 ·exact a2J (show 1<=_/\_<=31 by omega) rfl
 ·exact a5X n
 ·exact a5X n
 ·split<;>exact a2J trivial rfl
 ·exact .mk (show 2<=(ptsN n ls).length by omega) h2
 ·exact .mk (show 2<=(ptsN n ls).length by omega) h2
 ·exact .mk (show 2<=(ptsN n ls).length by omega) h2
 ·exact .mk (show 2<=(ptsN n ls).length by omega) h2
 ·exact .mk (show 2<=(ptsN n ls).length by omega) h2
 ·exact .mk trivial h1
 ·exact .mk trivial h1
 ·exact .mk trivial h1
 ·exact .mk (show _<=_/\_<=9 by omega) h1
theorem a8H (r:Rw):Gd (mkX r):=by
 refine Rw.ind (p:=fun r=>Gd (mkX r)) ?_ r
 rintro ⟨k,n,l⟩ ih
 rw[mkX]
 refine gd_of k n _ fun c hc=>?_
 rw[a0W,List.mem_map] at hc
 obtain ⟨r,hr,rfl⟩:=hc
 exact ih r hr
theorem bd_of {n:Nd}(g:Gd n)(h:n.kids.length<=1000)(hk:∀c∈n.kids,Bd c):Bd n:=.mk (Nat.lt_trans (st_lt g) (by decide)) h hk
theorem b3o (m:Int):Bd (sgn m):=bd_of (a5X m) (by simp[sgn,Nd.kids]) (by simp[sgn,Nd.kids])
theorem b2q (r:Rw):Bd (mkX r):=by
 refine Rw.ind (p:=fun r=>Bd (mkX r)) ?_ r
 rintro ⟨k,n,l⟩ ih
 have g:=a8H (.mk k n l)
 rw[mkX] at g ⊢
 have hp:=a5y n (mkXs l)
 have hm:∀c∈mkXs l,Bd c:=fun c hc=>by
  rw[a0W,List.mem_map] at hc
  obtain ⟨r,hr,rfl⟩:=hc
  exact ih r hr
 have h0:∀i,Bd (ptN n (mkXs l) i):=fun i=>by
  rcases a5b (n:=n) (ls:=mkXs l) (i:=i) with q|q
  ·exact hm _ q
  ·rw[q]; exact b3o _
 have h2:∀c∈ptsN n (mkXs l),Bd c:=fun c hc=>by
  simp only[ptsN,List.mem_map] at hc
  obtain ⟨i,_,rfl⟩:=hc
  exact h0 i
 refine bd_of g ?_ ?_
 ·unfold mkOf
  split<;>(try split)<;>simp only[Nd.kids,sgn,List.length_nil,List.length_cons]<;>omega
 ·unfold mkOf
  intro c hc
  split at hc<;>(try split at hc)<;>simp only[Nd.kids,sgn,List.mem_singleton,List.not_mem_nil] at hc<;>first|exact h2 c hc|(rw[hc]; exact h0 0)
def wT (c:Nd):Nat:=(pcT c).length
theorem a6m (b:Bool)(t:List Nat):(prn b t).length=t.length+if b then 2 else 0:=by cases b<;>simp[prn]
theorem wT_eq (c:Nd):wT c=(txt c).length+if (isU c || isJ c)=true then 2 else 0:=a6m _ _
theorem b2r (c:Nd):wT (.star c)=wT c+1:=by rw[wT_eq,txt,List.length_append]; rfl
theorem b2t (c:Nd):wT (.plus c)=wT c+1:=by rw[wT_eq,txt,List.length_append]; rfl
theorem b3p (c:Nd):wT (.opt c)=wT c+1:=by rw[wT_eq,txt,List.length_append]; rfl
theorem b3q (a b:Nat)(c:Nd):wT (.rep a b c)=wT c+5:=by rw[wT_eq,txt,List.length_append]; rfl
theorem b2u (l:List Nd):wT (.join l)=(txtj l).length+2:=by rw[wT_eq,txt]; rfl
theorem b3r (l:List Nd):wT (.uni l)=(txtu l).length+2:=by rw[wT_eq,txt]; rfl
theorem jn_le (c:Nd):(prn (isU c) (txt c)).length<=wT c:=by
 rw[wT_eq,a6m]
 cases isU c<;>simp
theorem b0V (l:List Nd):(txtj l).length=sumF wT l:=by
 induction l with
 |nil=>rfl
 |cons c l ih=>rw[txtj,List.length_append,ih]; rfl
theorem b0W (l:List Nd):(txtr l).length<=sumF wT l+l.length:=by
 induction l with
 |nil=>exact Nat.le_refl _
 |cons c l ih=>
  have:=jn_le c
  simp only[txtr,List.length_cons,List.length_append,sumF,List.map_cons,List.sum_cons] at *; omega
theorem b0X (l:List Nd):(txtu l).length<=sumF wT l+l.length:=by
 cases l with
 |nil=>exact Nat.le_refl _
 |cons c l=>
  have:=jn_le c
  have:=b0W l
  simp only[txtu,List.length_cons,List.length_append,sumF,List.map_cons,List.sum_cons] at *; omega
theorem b0Y (l:List Nd):csts l=sumF (fun c=>20+cst c) l:=by
 induction l with
 |nil=>rfl
 |cons c l ih=>simp only[csts,sumF,List.map_cons,List.sum_cons] at *; omega
theorem b3s {m:Nat}(l:List Nd)(h:∀c∈l,dp c<=m):dps l<=m:=by
 induction l with
 |nil=>exact Nat.zero_le _
 |cons c l ih=>
  have:=ih fun c hc=>h c (List.mem_cons_of_mem _ hc)
  have:=h c (by simp)
  rw[dps]; omega
theorem b0Z:∀s:Fin 32,(setT s.val).length<=7:=by decide
theorem sgn_w (m:Int):wT (sgn m)<=1:=by
 obtain ⟨s,e,_,_,h⟩:=a8G m
 rw[e,wT_eq]; simp[txt,isU,isJ,h]
theorem sgn_c (m:Int):20+cst (sgn m)<=70:=Nat.le_refl _
theorem w_of (k n:Int)(ls:List Nd):wT (mkOf k n ls)<=8+sumF wT ls/\20+cst (mkOf k n ls)<=180+sumF (fun c=>20+cst c) ls:=by
 have h1:=a8F (f:=wT) (c:=1) sgn_w n ls
 have h2:=b0p (f:=wT) (c:=1) sgn_w n ls 0
 have h3:=a8F (f:=fun c=>20+cst c) (c:=70) sgn_c n ls
 have h4:=b0p (f:=fun c=>20+cst c) (c:=70) sgn_c n ls 0
 have h5:=b0V (ptsN n ls)
 have h6:=b0X (ptsN n ls)
 have h7:=b0Y (ptsN n ls)
 have h8:=sgn_w n
 have hp:(ptsN n ls).length<=4:=by rw[a5y]; omega
 have h9:wT (.set (1+(n % 31).toNat))<=8:=by
  have a3:0<=n % 31/\n % 31<31:=⟨Int.emod_nonneg _ (by omega),Int.emod_lt_of_pos _ (by omega)⟩
  have:=b0Z ⟨1+(n % 31).toNat,by omega⟩
  rw[wT_eq]; simp only[txt,isU,isJ] at *; simp; omega
 have hw:wT (ptN n ls 0)=(prn (isU (ptN n ls 0) || isJ (ptN n ls 0)) (txt (ptN n ls 0))).length:=rfl
 unfold mkOf
 split
 ·exact ⟨by omega,by simp[cst]; omega⟩
 ·exact ⟨by omega,by simp[cst]; omega⟩
 ·exact ⟨by omega,by have:=sgn_c n; omega⟩
 ·exact ⟨by omega,by have:=sgn_c n; omega⟩
 ·split<;>exact ⟨by rw[wT_eq]; simp[txt,isU,isJ]; omega,by simp[cst]; omega⟩
 all_goals first
  |(refine ⟨?_,?_⟩
    ·simp only[b2r,b2t,b3p,b3q,b2u,b3r]; omega
    ·simp only[cst]; omega)
theorem b3t (r:Rw):wT (mkX r)<=8*cntR r/\20+cst (mkX r)<=180*cntR r/\dp (mkX r)<=cntR r:=by
 refine Rw.ind (p:=fun r=>wT (mkX r)<=8*cntR r/\20+cst (mkX r)<=180*cntR r/\dp (mkX r)<=cntR r) ?_ r
 rintro ⟨k,n,l⟩ ih
 have key:∀l:List Rw,(∀c∈l,wT (mkX c)<=8*cntR c/\20+cst (mkX c)<=180*cntR c/\dp (mkX c)<=cntR c)->sumF wT (mkXs l)<=8*cntRs l/\sumF (fun c=>20+cst c) (mkXs l)<=180*cntRs l/\∀c∈mkXs l,dp c<=cntRs l:=by
  intro l
  induction l with
  |nil=>exact fun _=>⟨Nat.le_refl _,Nat.le_refl _,fun c hc=>by simp[mkXs] at hc⟩
  |cons r l ih=>
   intro h
   obtain ⟨h1,h2,h3⟩:=ih fun c hc=>h c (List.mem_cons_of_mem _ hc)
   obtain ⟨h4,h5,h6⟩:=h r (by simp)
   refine ⟨?_,?_,fun c hc=>?_⟩
   ·simp only[mkXs,sumF,List.map_cons,List.sum_cons,cntRs] at *; omega
   ·simp only[mkXs,sumF,List.map_cons,List.sum_cons,cntRs] at *; omega
   ·rw[mkXs] at hc
    rw[cntRs]
    rcases List.mem_cons.1 hc with rfl|hc
    ·omega
    ·have:=h3 c hc; omega
 obtain ⟨k1,k2,k3⟩:=key l ih
 obtain ⟨h1,h2⟩:=w_of k n (mkXs l)
 rw[mkX,cntR]
 have h0:∀i,dp (ptN n (mkXs l) i)<=cntRs l:=fun i=>by
  rcases a5b (n:=n) (ls:=mkXs l) (i:=i) with q|q
  ·exact k3 _ q
  ·rw[q]; exact Nat.zero_le _
 have h4:dps (ptsN n (mkXs l))<=cntRs l:=b3s _ fun c hc=>by
  simp only[ptsN,List.mem_map] at hc
  obtain ⟨i,_,rfl⟩:=hc
  exact h0 i
 have h5:=h0 0
 refine ⟨by omega,by omega,?_⟩
 unfold mkOf
 split<;>(try split)<;>simp only[dp,sgn]<;>omega
theorem b3u (l:List Rw):Gd (oneN l)/\Bd (oneN l):=by
 cases l with
 |nil=>exact ⟨a2J (show 1<=1/\1<=31 by omega) rfl,bd_of (a2J (show 1<=1/\1<=31 by omega) rfl) (by simp[oneN,Nd.kids]) (by simp[oneN,Nd.kids])⟩
 |cons r l=>exact ⟨a8H r,b2q r⟩
theorem b3v (l:List Rw)(h:szF 7 l<=14):(txt (oneN l)).length<=200/\cst (oneN l)+18<=900000/\dp (oneN l)<=30:=by
 have h1:=b0d 7 l h
 cases l with
 |nil=>exact ⟨by decide,by decide,by decide⟩
 |cons r l=>
  obtain ⟨w1,w2,w3⟩:=b3t r
  rw[cntRs] at h1
  have:=wT_eq (mkX r)
  simp only[oneN]
  exact ⟨by omega,by omega,by omega⟩
end Go.Gm.AQ
namespace Go.Gm.AQ
open Go Go.Gm
theorem b2v (a b:List Nat):ofL a++ofL b=ofL (a++b):=by
 apply ByteArray.ext
 rw[ByteArray.data_append]
 simp[ofL]
theorem add_s (a b:List Nat)(h:a.length+b.length<=1000000):binV .add .scalar (.str (ofL a)) (.str (ofL b))=some (.str (ofL (a++b))):=by
 rw[<-b2v]
 exact if_pos (by rw[a0X,a0X]; omega)
theorem len_s (a:List Nat):lenB (.str (ofL a))=some (I a.length):=by
 rw[show lenB (.str (ofL a))=some (I ((ofL a).size:Nat)) from rfl,a0X]
theorem sgn_s:∀i:Fin 5,slStr (.str ⟨#[119,98,99,102,116]⟩) (some (I (i.val:Nat))) (some (I ((i.val:Nat)+1)))=some (.str (ofL [sgnB i.val]))
 |⟨0,_⟩=>rfl
 |⟨1,_⟩=>rfl
 |⟨2,_⟩=>rfl
 |⟨3,_⟩=>rfl
 |⟨4,_⟩=>rfl
def setP (s i:Nat):List Nat:=((List.range i).filter fun m=>s.testBit m).map sgnB
theorem b0q (s i:Nat):setP s (i+1)=setP s i++if s.testBit i=true then [sgnB i] else []:=by
 simp only[setP,List.range_succ,List.filter_append,List.map_append]
 cases h:s.testBit i<;>simp[h]
theorem b1a {s : Nat} (hs : s ≤ 31) (h : Heap) : Tot tab l5_ [I s] h fun r h' => h = h' ∧ r = .str (ofL (setT s)) := by
  refine WP.tot (fun k => a4l k _ h) ?_
  have fin : WP (fun k : Nat => w2_ k (I s) (.str (ofL (setS s))) h) fun r h' => h = h' ∧ r = .str (ofL (setT s)) := by
    refine WP.congr (fun k => a3e k (I s) (.str (ofL (setS s))) h) ?_
    have hl := len_s (setS s)
    have hl5 : (setS s).length ≤ 5 := by rw [setS, List.length_map]; exact Nat.le_trans (List.length_filter_le ..) (by simp)
    have ha := add_s [91] (setS s) (by simp; omega)
    have hb := add_s ([91] ++ setS s) [93] (by simp; omega)
    by_cases q : s = 31
    · subst q
      simp -implicitDefEqProofs (disch := first | assumption | omega | (simp only [gL, gA] <;> omega) | fail) only [gC, reduceIte, Nat.reduceAdd, Nat.reduceMul]
      exact WP.ret ⟨rfl, rfl⟩
    · by_cases z : (setS s).length = 1
      · simp -implicitDefEqProofs (disch := first | assumption | omega | (simp only [gL, gA] <;> omega) | fail) only [gC, reduceIte, Nat.reduceAdd, Nat.reduceMul, hl]
        exact WP.ret ⟨rfl, by rw [setT, if_neg q, if_pos z]⟩
      · have ha' : binV .add .scalar (.str ⟨#[91]⟩) (.str (ofL (setS s))) = some (.str (ofL ([91] ++ setS s))) := ha
        have hb' : binV .add .scalar (.str (ofL ([91] ++ setS s))) (.str ⟨#[93]⟩) = some (.str (ofL ([91] ++ setS s ++ [93]))) := hb
        simp -implicitDefEqProofs (disch := first | assumption | omega | (simp only [gL, gA] <;> omega) | fail) only [gC, reduceIte, Nat.reduceAdd, Nat.reduceMul, hl]
        rw [ha']
        simp -implicitDefEqProofs (disch := first | assumption | omega | (simp only [gL, gA] <;> omega) | fail) only [gC, reduceIte, Nat.reduceAdd, Nat.reduceMul]
        rw [hb']
        simp -implicitDefEqProofs (disch := first | assumption | omega | (simp only [gL, gA] <;> omega) | fail) only [gC, reduceIte, Nat.reduceAdd, Nat.reduceMul]
        exact WP.ret ⟨rfl, by rw [setT, if_neg q, if_neg z]; rfl⟩
  have loop : ∀ d i : Nat, i + d = 5 → WP (fun p : Nat × Nat => k4_ p.1 p.2 (I s) (.str (ofL (setP s i))) (I i) h) fun r h' => h = h' ∧ r = .str (ofL (setT s)) := by
    intro d
    induction d with
    | zero =>
      intro i hi
      refine WP.rnd (fun i' j => a0u i' j (I s) (.str (ofL (setP s i))) (I i) h) ?_
      obtain rfl : i = 5 := by omega
      simp -implicitDefEqProofs (disch := first | assumption | omega | (simp only [gL, gA] <;> omega) | fail) only [gC, reduceIte, Nat.reduceAdd, Nat.reduceMul]
      exact WP.lv fin fun i j => rfl
    | succ d ih =>
      intro i hi
      refine WP.rnd (fun i' j => a0u i' j (I s) (.str (ofL (setP s i))) (I i) h) ?_
      have ss := sgn_s ⟨i, by omega⟩
      simp only at ss
      have hsh : binV .shr .scalar (I s) (.int .u64 i) = some (I ((s >>> i : Nat) : Int)) := shr_i (k := .u64) (s := s) (m := (i : Int)) (by omega) (by omega)
      have hle : s >>> i < 2 ^ 62 := Nat.lt_of_le_of_lt (by rw [Nat.shiftRight_eq_div_pow]; exact Nat.div_le_self _ _) (Nat.lt_of_le_of_lt hs (by decide))
      have han : binV .and .scalar (I ((s >>> i : Nat) : Int)) (.int .i64 1) = some (I (((s >>> i) &&& 1 : Nat) : Int)) := and_i (b := 1) hle (by decide)
      have hcv : convV .u64 (I i) = some (.int .u64 i) := a1E (by omega) (by omega)
      have hsn := b0q s i
      have hn := ih (i + 1) (by omega)
      obtain ⟨b2, hb2⟩ : ∃ b2, s.testBit i = b2 := ⟨_, rfl⟩
      rw [hb2] at hsn
      cases b2 with
      | false =>
        have hbt : binV .eql .scalar (I (((s >>> i) &&& 1 : Nat) : Int)) (.int .i64 1) = some (.bool false) := bit_f (m := (i : Int)) (by omega) hb2
        rw [if_neg (by decide), List.append_nil] at hsn
        rw [hsn] at hn
        simp -implicitDefEqProofs (disch := first | assumption | omega | (simp only [gL, gA] <;> omega) | fail) only [gC, reduceIte, Nat.reduceAdd, Nat.reduceMul, hcv, hsh, han, hbt]
        exact hn
      | true =>
        have hbt : binV .eql .scalar (I (((s >>> i) &&& 1 : Nat) : Int)) (.int .i64 1) = some (.bool true) := bit_t (m := (i : Int)) (by omega) hb2
        rw [if_pos rfl] at hsn
        rw [hsn] at hn
        have ha := add_s (setP s i) [sgnB i] (by have : (setP s i).length ≤ i := by { rw [setP, List.length_map]; exact Nat.le_trans (List.length_filter_le ..) (by simp) }
                                                 simp; omega)
        simp -implicitDefEqProofs (disch := first | assumption | omega | (simp only [gL, gA] <;> omega) | fail) only [gC, reduceIte, Nat.reduceAdd, Nat.reduceMul, hcv, hsh, han, hbt, ss, ha]
        exact hn
  exact WP.ent (loop 5 0 (by omega)) fun i => rfl
def TextS (n:Nd):Prop:=∀(h:Heap) (c5:List AV),NV h n c5->(txt n).length<=900000->Tot tab d9_ [.agg c5] h fun r h'=>Ext h h'/\r=.str (ofL (txt n))
theorem kinds (n:Nd):(isU n=true↔n.kind=5)/\(isJ n=true↔n.kind=4):=by cases n<;>simp[isU,isJ,Nd.kind]
theorem b2w {n:Nd}(hn:TextS n){h:Heap}{c5:List AV}(nv:NV h n c5)(hl:(txt n).length<=900000)(k:Int) :
  Tot tab p1_ [I k,.agg c5] h fun r h'=>Ext h h'/\r=.str (ofL (prn (isU n || (decide (k≠5) && isJ n)) (txt n))):=by
 refine WP.tot (fun k'=>a2i k' _ _ h) ?_
 obtain ⟨sL,css,kv⟩:=kidsV nv
 have h5:=kv.sl.one
 obtain rfl:=kv.c
 obtain ⟨h1,hh1⟩:∃h1,h1=h++[AObj.cells ⟨[I n.kind,I n.st,I n.lo,I n.hi,sL],0,0,false⟩]:=⟨_,rfl⟩
 have e1:Ext h h1:=by rw[hh1]; exact Ext.push _ _
 have r1:h1[h.length]?=some (.cells ⟨[I n.kind,I n.st,I n.lo,I n.hi,sL],0,0,false⟩):=by rw[hh1]; simp
 simp -implicitDefEqProofs (disch:=first|assumption|omega|(simp only[gL,gA]<;>omega)|fail) only[gC,reduceIte,h5]
 rw[<-hh1]
 refine WP.call (hn h1 _ (nv.keeps (Keeps.ofExt e1)) hl) ?_
 rintro r h2 ⟨e2,rfl⟩
 have r2:=e2.get r1
 obtain ⟨ku,kj⟩:=kinds n
 have ha:binV .add .scalar (.str ⟨#[40]⟩) (.str (ofL (txt n)))=some (.str (ofL ([40]++txt n))):=add_s [40] _ (by simp; omega)
 have hb:binV .add .scalar (.str (ofL ([40]++txt n))) (.str ⟨#[41]⟩)=some (.str (ofL ([40]++txt n++[41]))):=add_s _ [41] (by simp; omega)
 by_cases q5:n.kind=5
 ·have e:prn (isU n || (decide (k≠5) && isJ n)) (txt n)=[40]++txt n++[41]:=by rw[ku.2 q5]; rfl
  simp -implicitDefEqProofs (disch:=first|assumption|omega|(simp only[gL,gA]<;>omega)|fail) only[gC,reduceIte,r2,q5,gd_tf]
  rw[ha]
  simp -implicitDefEqProofs (disch:=first|assumption|omega|(simp only[gL,gA]<;>omega)|fail) only[gC,reduceIte]
  rw[hb]
  simp -implicitDefEqProofs (disch:=first|assumption|omega|(simp only[gL,gA]<;>omega)|fail) only[gC,reduceIte]
  exact WP.ret ⟨e1.trans e2,by rw[e]⟩
 ·have hu:isU n=false:=by
   cases z:isU n with
   |false=>rfl
   |true=>exact absurd (ku.1 z) q5
  by_cases q4:n.kind=4
  ·by_cases qk:k=5
   ·subst qk
    have e:prn (isU n || (decide ((5:Int)≠5) && isJ n)) (txt n)=txt n:=by rw[hu]; rfl
    simp -implicitDefEqProofs (disch:=first|assumption|omega|(simp only[gL,gA]<;>omega)|fail) only[gC,reduceIte,r2,q5,q4]
    exact WP.ret ⟨e1.trans e2,by rw[e]⟩
   ·have e:prn (isU n || (decide (k≠5) && isJ n)) (txt n)=[40]++txt n++[41]:=by rw[hu,kj.2 q4,decide_eq_true qk]; rfl
    simp -implicitDefEqProofs (disch:=first|assumption|omega|(simp only[gL,gA]<;>omega)|fail) only[gC,reduceIte,r2,q5,q4]
    rw[ha]
    simp -implicitDefEqProofs (disch:=first|assumption|omega|(simp only[gL,gA]<;>omega)|fail) only[gC,reduceIte]
    rw[hb]
    simp -implicitDefEqProofs (disch:=first|assumption|omega|(simp only[gL,gA]<;>omega)|fail) only[gC,reduceIte]
    exact WP.ret ⟨e1.trans e2,by rw[e]⟩
  ·have hj:isJ n=false:=by
    cases z:isJ n with
    |false=>rfl
    |true=>exact absurd (kj.1 z) q4
   have e:prn (isU n || (decide (k≠5) && isJ n)) (txt n)=txt n:=by rw[hu,hj,Bool.and_false]; rfl
   simp -implicitDefEqProofs (disch:=first|assumption|omega|(simp only[gL,gA]<;>omega)|fail) only[gC,reduceIte,r2]
   exact WP.ret ⟨e1.trans e2,by rw[e]⟩
def rstT (n:Nd)(i:Nat):List Nat:=if n.kind=5 then (if i=0 then txtu n.kids else txtr (n.kids.drop i)) else txtj (n.kids.drop i)
def sufT:Nd->List Nat
 |.star _=>[42]
 |.plus _=>[43]
 |.opt _=>[63]
 |.rep a b _=>[123,48+a,44,48+b,125]
 |.join _=>[]
 |.uni _=>[]
 |.set _=>[]
 |.emp=>[]
 |.eps=>[]
theorem txtj1 (c:Nd):txtj [c]=prn (isU c || isJ c) (txt c):=by rw[txtj,txtj,List.append_nil]
theorem b2x {n:Nd}(h:4<=n.kind):txt n=rstT n 0++sufT n:=by
 cases n with
 |set s=>simp[Nd.kind] at h
 |emp=>simp[Nd.kind] at h
 |eps=>simp[Nd.kind] at h
 |join l=>rw[txt,sufT,List.append_nil]; rfl
 |uni l=>rw[txt,sufT,List.append_nil]; rfl
 |star c=>rw[txt]; exact congrArg (·++[42]) (txtj1 c).symm
 |plus c=>rw[txt]; exact congrArg (·++[43]) (txtj1 c).symm
 |opt c=>rw[txt]; exact congrArg (·++[63]) (txtj1 c).symm
 |rep a b c=>rw[txt]; exact congrArg (·++[123,48+a,44,48+b,125]) (txtj1 c).symm
theorem b2y (n:Nd){i:Nat}(h:n.kids.length<=i)(h2:n.kind=5->0<i):rstT n i=[]:=by
 rw[rstT]
 split
 ·rw[if_neg (by have:=h2 ‹_›; omega),List.drop_of_length_le h]; rfl
 ·rw[List.drop_of_length_le h]; rfl
theorem b1b {n c:Nd}{i:Nat}(h:n.kids[i]?=some c):rstT n i=(if 0<i/\n.kind=5 then [124] else [])++prn (isU c || (decide (n.kind≠5) && isJ c)) (txt c)++rstT n (i+1):=by
 have hi:=(List.getElem?_eq_some_iff.1 h).1
 have hd:n.kids.drop i=c::n.kids.drop (i+1):=by
  rw[List.drop_eq_getElem_cons hi]
  congr 1
  exact (List.getElem?_eq_some_iff.1 h).2
 simp only[rstT]
 by_cases q:n.kind=5
 ·have hq:decide (n.kind≠5)=false:=by simp[q]
  rw[if_pos q,if_pos q,if_neg (by omega:¬i+1=0),hq,Bool.false_and,Bool.or_false]
  by_cases z:i=0
  ·subst z
   rw[if_pos rfl,if_neg (by omega),List.nil_append]
   rw[List.drop_zero] at hd
   rw[hd,txtu]; rfl
  ·rw[if_neg z,if_pos ⟨by omega,q⟩,hd,txtr]; simp
 ·have hq:decide (n.kind≠5)=true:=by simp[q]
  rw[if_neg q,if_neg q,if_neg (fun z=>q z.2),hq,Bool.true_and,List.nil_append,hd,txtj]
theorem a8I {n:Int}(h0:0<=n)(h1:n<256):convV .u8 (I n)=some (.int .u8 n):=by
 show some (AV.int .u8 (IntKind.u8.wrap n))=_
 congr 2
 simp[IntKind.wrap,IntKind.bits,IntKind.signed]
 omega
theorem b2s5 (h:Heap)(a b:Nat):b2sV (h++[AObj.cells ⟨[.int .u8 123,.int .u8 (48+(a:Int)),.int .u8 44,.int .u8 (48+(b:Int)),.int .u8 125],0,0,false⟩]) (.sl h.length 0 5 1 none 0)=some (.str (ofL [123,48+a,44,48+b,125])):=by
 have ea:(48+(a:Int)).toNat=48+a:=by omega
 have eb:(48+(b:Int)).toNat=48+b:=by omega
 have e:rdc (h++[AObj.cells ⟨[.int .u8 123,.int .u8 (48+(a:Int)),.int .u8 44,.int .u8 (48+(b:Int)),.int .u8 125],0,0,false⟩]) h.length 0 5 0=some [.int .u8 123,.int .u8 (48+(a:Int)),.int .u8 44,.int .u8 (48+(b:Int)),.int .u8 125]:=by
  simp[rdc]
 simp only[b2sV,e,Option.bind_some,b2sL,ea,eb,Option.map_some]
 rfl
theorem b2z {n:Nd}(g:Gd n)(bd:n.kids.length<=1000)(hk:4<=n.kind)(ih:∀c∈n.kids,TextS c){h0 h1:Heap}{o:Nat}{sL:AV}{css:List (List AV)}(kv:KidsV h0 n [I n.kind,I n.st,I n.lo,I n.hi,sL] sL css)(hl:(txt n).length<=900000)(e0:Ext h0 h1)(ro:h1[o]?=some (.cells ⟨[I n.kind,I n.st,I n.lo,I n.hi,sL],0,0,false⟩)) :
  ∀(d i:Nat) (h:Heap) (t:List Nat),i+d=n.kids.length->Ext h1 h->t++rstT n i++sufT n=txt n->
   WP (fun p:Nat × Nat=>i8_ p.1 p.2 (.ptr o 0 5 0) (.str (ofL t)) (I i) h) fun r h'=>Ext h1 h'/\r=.str (ofL (txt n)):=by
 have lk:=kv.nv.length
 have fin:∀(h:Heap) (t:List Nat),Ext h1 h->t++sufT n=txt n->WP (fun k:Nat=>u8_ k (.ptr o 0 5 0) (.str (ofL t)) h) fun r h'=>Ext h1 h'/\r=.str (ofL (txt n)):=by
  intro h t e ht
  refine WP.congr (fun k=>a2S k (.ptr o 0 5 0) (.str (ofL t)) h) ?_
  have r:=e.get ro
  have hlt:t.length<=900000:=by rw[<-ht,List.length_append] at hl; omega
  have a1:binV .add .scalar (.str (ofL t)) (.str ⟨#[42]⟩)=some (.str (ofL (t++[42]))):=add_s t [42] (by simp; omega)
  have a2:binV .add .scalar (.str (ofL t)) (.str ⟨#[43]⟩)=some (.str (ofL (t++[43]))):=add_s t [43] (by simp; omega)
  have a3:binV .add .scalar (.str (ofL t)) (.str ⟨#[63]⟩)=some (.str (ofL (t++[63]))):=add_s t [63] (by simp; omega)
  rw[<-ht]
  cases n with
  |set s=>simp[Nd.kind] at hk
  |emp=>simp[Nd.kind] at hk
  |eps=>simp[Nd.kind] at hk
  |join l=>
   simp only[Nd.kind,Nd.st,Nd.lo,Nd.hi] at r
   simp -implicitDefEqProofs (disch:=first|assumption|omega|(simp only[gL,gA]<;>omega)|fail) only[gC,reduceIte,r]
   exact WP.ret ⟨e,by rw[sufT,List.append_nil]⟩
  |uni l=>
   simp only[Nd.kind,Nd.st,Nd.lo,Nd.hi] at r
   simp -implicitDefEqProofs (disch:=first|assumption|omega|(simp only[gL,gA]<;>omega)|fail) only[gC,reduceIte,r]
   exact WP.ret ⟨e,by rw[sufT,List.append_nil]⟩
  |star c=>
   simp only[Nd.kind,Nd.st,Nd.lo,Nd.hi] at r
   simp -implicitDefEqProofs (disch:=first|assumption|omega|(simp only[gL,gA]<;>omega)|fail) only[gC,reduceIte,r,a1]
   exact WP.ret ⟨e,rfl⟩
  |plus c=>
   simp only[Nd.kind,Nd.st,Nd.lo,Nd.hi] at r
   simp -implicitDefEqProofs (disch:=first|assumption|omega|(simp only[gL,gA]<;>omega)|fail) only[gC,reduceIte,r,a2]
   exact WP.ret ⟨e,rfl⟩
  |opt c=>
   simp only[Nd.kind,Nd.st,Nd.lo,Nd.hi] at r
   simp -implicitDefEqProofs (disch:=first|assumption|omega|(simp only[gL,gA]<;>omega)|fail) only[gC,reduceIte,r,a3]
   exact WP.ret ⟨e,rfl⟩
  |rep a b c=>
   simp only[Nd.kind,Nd.st,Nd.lo,Nd.hi] at r
   obtain ⟨g1,g2⟩:=g.rt
   have c1:=a8I (n:=48+(a:Int)) (by omega) (by omega)
   have c2:=a8I (n:=48+(b:Int)) (by omega) (by omega)
   have b5:=b2s5 h a b
   have hs:(sufT (.rep a b c)).length=5:=rfl
   have a5:=add_s t (sufT (.rep a b c)) (by rw[hs]; omega)
   simp -implicitDefEqProofs (disch:=first|assumption|omega|(simp only[gL,gA]<;>omega)|fail) only[gC,reduceIte,r,c1,c2]
   rw[b5]
   simp -implicitDefEqProofs (disch:=first|assumption|omega|(simp only[gL,gA]<;>omega)|fail) only[gC,reduceIte]
   rw[show binV .add .scalar (.str (ofL t)) (.str (ofL [123,48+a,44,48+b,125]))=some (.str (ofL (t++sufT (.rep a b c)))) from a5]
   simp -implicitDefEqProofs (disch:=first|assumption|omega|(simp only[gL,gA]<;>omega)|fail) only[gC,reduceIte]
   exact WP.ret ⟨e.trans (Ext.push _ _),rfl⟩
 intro d
 induction d with
 |zero=>
  intro i h t hi e ht
  refine WP.rnd (fun i' j=>a0f i' j (.ptr o 0 5 0) (.str (ofL t)) (I i) h) ?_
  have r:=e.get ro
  have sl:=(kv.sl.ext e0).ext e
  have hr:rstT n i=[]:=b2y n (by omega) fun z=>by
   have:=g.rt
   cases n<;>simp[Nd.kind] at z
   simp only[RtN,Nd.kids] at *; omega
  rw[hr,List.append_nil] at ht
  simp -implicitDefEqProofs (disch:=first|assumption|omega|(simp only[gL,gA]<;>omega)|fail) only[gC,reduceIte,r,sl.lenG]
  exact WP.lv (fin h t e ht) fun i j=>rfl
 |succ d ih2=>
  intro i h t hi e ht
  refine WP.rnd (fun i' j=>a0f i' j (.ptr o 0 5 0) (.str (ofL t)) (I i) h) ?_
  have r:=e.get ro
  have e':=e0.trans e
  have sl:=kv.sl.ext e'
  have hc:n.kids[i]?=some (n.kids[i]'(by omega)):=List.getElem?_eq_getElem (by omega)
  obtain ⟨c,hcc⟩:∃c,n.kids[i]'(by omega)=c:=⟨_,rfl⟩
  rw[hcc] at hc
  obtain ⟨cc,hg,nvc,hi2⟩:=kv.get hc
  have hs:=b1b hc
  have cm:c∈n.kids:=List.mem_of_getElem? hc
  have hle:(prn (isU c || (decide (n.kind≠5) && isJ c)) (txt c)).length<=900000/\t.length<=900000:=by
   rw[<-ht,hs] at hl
   simp only[List.length_append] at hl
   exact ⟨by omega,by omega⟩
  have hlc:(txt c).length<=900000:=by have:=hle.1; rw[a6m] at this; omega
  have key:∀(h2:Heap) (t2:List Nat),Ext h1 h2->t2++prn (isU c || (decide (n.kind≠5) && isJ c)) (txt c)++rstT n (i+1)++sufT n=txt n->
    WP (fun p:Nat × Nat=>o0_ p.1 p.2 (.ptr o 0 5 0) (.str (ofL t2)) (I i) h2) fun r h'=>Ext h1 h'/\r=.str (ofL (txt n)):=by
   intro h2 t2 e2 ht2
   refine WP.congr (fun p=>a2R p.1 p.2 (.ptr o 0 5 0) (.str (ofL t2)) (I i) h2) ?_
   have r:=e2.get ro
   have sl:=kv.sl.ext (e0.trans e2)
   have e0':=Ext.refl h2
   simp -implicitDefEqProofs (disch:=first|assumption|omega|exact Ext.refl _|(simp only[gL,gA]<;>omega)|fail) only[gC,reduceIte,r,sl.idxG,sl.ldN,hg,id]
   refine WP.call (b2w (ih c cm) (nvc.keeps (Keeps.ofExt (e0.trans e2))) hlc n.kind) ?_
   rintro rr h3 ⟨e3,rfl⟩
   have hlt:t2.length+(prn (isU c || (decide (n.kind≠5) && isJ c)) (txt c)).length<=900000:=by
    rw[<-ht2] at hl
    simp only[List.length_append] at hl
    omega
   have ha:=add_s t2 (prn (isU c || (decide (n.kind≠5) && isJ c)) (txt c)) (by omega)
   rw[ha]
   simp -implicitDefEqProofs (disch:=first|assumption|omega|(simp only[gL,gA]<;>omega)|fail) only[gC,reduceIte]
   exact ih2 (i+1) h3 _ (by omega) (e2.trans e3) ht2
  rw[hs] at ht
  by_cases q:0<i/\n.kind=5
  ·rw[if_pos q] at ht
   have ha:binV .add .scalar (.str (ofL t)) (.str ⟨#[124]⟩)=some (.str (ofL (t++[124]))):=add_s t [124] (by have:=hle.2; simp; omega)
   obtain ⟨q1,q2⟩:=q
   simp -implicitDefEqProofs (disch:=first|assumption|omega|(simp only[gL,gA]<;>omega)|fail) only[gC,reduceIte,r,sl.lenG,q2]
   rw[ha]
   simp -implicitDefEqProofs (disch:=first|assumption|omega|(simp only[gL,gA]<;>omega)|fail) only[gC,reduceIte]
   exact key h (t++[124]) e (by rw[<-ht]; simp)
  ·rw[if_neg q,List.nil_append] at ht
   by_cases z:0<i
   ·have q2:¬n.kind=5:=fun y=>q ⟨z,y⟩
    simp -implicitDefEqProofs (disch:=first|assumption|omega|(simp only[gL,gA]<;>omega)|fail) only[gC,reduceIte,r,sl.lenG]
    exact key h t e (by rw[<-ht]; simp)
   ·simp -implicitDefEqProofs (disch:=first|assumption|omega|(simp only[gL,gA]<;>omega)|fail) only[gC,reduceIte,r,sl.lenG]
    exact key h t e (by rw[<-ht]; simp)
end Go.Gm.AQ
namespace Go.Gm.AQ
open Go Go.Gm
def jpE (ft:List (Nat × Nat)):Nat->List (Nat × Nat)
 |0=>[]
 |k+1=>jpE ft k++[((ft.getD k (0,0)).2,(ft.getD (k+1) (0,0)).1)]
theorem a8J (ft:List (Nat × Nat)):∀k,(jpE ft k).length=k
 |0=>rfl
 |k+1=>by simp[jpE,a8J ft k]
theorem a6J:∀(ft:List (Nat × Nat)),NS.joinE ft=(List.range (ft.length-1)).map fun k=>((ft.getD k (0,0)).2,(ft.getD (k+1) (0,0)).1)
 |[]=>rfl
 |[f]=>rfl
 |f::g::l=>by
  have ih:=a6J (g::l)
  rw[NS.joinE,ih,show (f::g::l).length-1=((g::l).length-1)+1 by simp,List.range_succ_eq_map,List.map_cons,List.map_map]
  rfl
theorem b1c (ft:List (Nat × Nat)):NS.joinE ft=jpE ft (ft.length-1):=by
 rw[a6J]
 have:∀n,(List.range n).map (fun k=>((ft.getD k (0,0)).2,(ft.getD (k+1) (0,0)).1))=jpE ft n:=by
  intro n
  induction n with
  |zero=>rfl
  |succ n ih=>rw[List.range_succ,List.map_append,ih,jpE]; rfl
 exact this _
section
variable {h0 hE:Heap} {W0:Nat->Prop} {ob o3:Nat} {c5:List AV} {l:List Nd} {sL:AV} {css:List (List AV)}
theorem b1d (kv:KidsV h0 (.join l) c5 sL css)(hll:l.length<=1000)(ih:∀c∈l,PartS c)(sz:∀c∈l,SzN c){ftE:List (Nat × Nat)}{bE:NS}{Q:AV->Heap->Prop}(hQ:∀h W sf st oA oB,PLs h0 hE h W0 W ob o3 bE c5 sf st oA oB ftE->NSok bE->WP (fun k:Nat=>k9_ k (.ptr ob 0 6 0) sf st h) Q) :
  ∀(d i:Nat) (h:Heap) (W:Nat->Prop) (b:NS) (sf st:AV) (oA oB:Nat) (ft:List (Nat × Nat)),i+d=l.length->ft.length=i->PLs h0 hE h W0 W ob o3 b c5 sf st oA oB ft->NSok b->ft++(NS.parts (l.drop i) b).1=ftE->(NS.parts (l.drop i) b).2=bE->
   WP (fun p:Nat × Nat=>f4_ p.1 p.2 (.ptr ob 0 6 0) (.ptr o3 0 5 0) sf st (I i) h) Q:=by
 have e5:=kv.c
 have lk:css.length=l.length:=(NVs.length kv.nv).symm
 intro d
 induction d with
 |zero=>
  intro i h W b sf st oA oB ft hi hfl p ok h1 h2
  refine WP.rnd (fun k j=>r0_ k j (.ptr ob 0 6 0) (.ptr o3 0 5 0) sf st (I i) h) ?_
  rw[List.drop_of_length_le (by omega),NS.parts] at h1 h2
  simp only[List.append_nil] at h1 h2
  subst h1 h2
  have r3:=p.r3
  rw[e5] at r3
  have sl:=(kv.sl.ext p.e0).lenG
  simp -implicitDefEqProofs (disch:=first|assumption|omega|(simp only[gL,gA]<;>omega)|fail) only[gC,reduceIte,r3,sl]
  exact WP.lv (hQ h W sf st oA oB p ok) fun i j=>rfl
 |succ d IH=>
  intro i h W b sf st oA oB ft hi hfl p ok h1 h2
  refine WP.rnd (fun k j=>r0_ k j (.ptr ob 0 6 0) (.ptr o3 0 5 0) sf st (I i) h) ?_
  obtain ⟨c,hc⟩:∃c,l[i]?=some c:=⟨l[i],List.getElem?_eq_getElem (by omega)⟩
  have hdr:l.drop i=c::l.drop (i+1):=by
   rw[List.getElem?_eq_getElem (by omega)] at hc
   injection hc with hc
   rw[<-hc]; exact List.drop_eq_getElem_cons (by omega)
  rw[hdr,NS.parts] at h1 h2
  obtain ⟨sS,sF,oS,oF,rb,_⟩:=p.bv
  have r3:=p.r3
  rw[e5] at r3
  have sv:=kv.sl.ext p.e0
  have sl:=sv.lenG
  by_cases m:b.much=true
  ·rw[if_pos m] at h1 h2
   simp only[List.append_nil] at h1 h2
   subst h1 h2
   rw[m] at rb
   simp -implicitDefEqProofs (disch:=first|assumption|omega|(simp only[gL,gA]<;>omega)|fail) only[gC,reduceIte,rb,r3,sl]
   exact WP.lv (hQ h W sf st oA oB p ok) fun i j=>rfl
  ·rw[if_neg m] at h1 h2
   simp only at h1 h2
   rw[Bool.not_eq_true] at m
   rw[m] at rb
   have hcm:=List.mem_of_getElem? hc
   obtain ⟨cc,k1,k2,k3⟩:=kv.get (show (Nd.join l).kids[i]?=some c from hc)
   simp -implicitDefEqProofs (disch:=first|assumption|omega|exact Ext.refl _|(simp only[gL,gA]<;>omega)|fail) only[gC,reduceIte,rb,r3,sl,sv.idxG,sv.ldN,id_eq,k1]
   refine WP.call (ih c hcm h0 h W ob b cc k2 p.e0 p.wl p.bv ok) ?_
   rintro _ h5 ⟨rfl,v5,f5⟩
   have p5:=p.call f5 v5
   obtain ⟨s1,h6,s2,h7,oA',oB',a1,a2,p7⟩:=p5.add (NS.part c b).1 (by omega)
   simp -implicitDefEqProofs (disch:=first|assumption|omega|(simp only[gL,gA]<;>omega)|fail) only[gC,reduceIte,d0_,d1_,a1,a2]
   exact IH (i+1) h7 _ _ s1 s2 oA' oB' _ (by omega) (by simp[hfl]) p7 (ok.sz (sz c hcm b).1) (by rw[List.append_assoc]; exact h1) h2
theorem b1e {W:Nat->Prop}{h:Heap}{b:NS}{sf st:AV}{ft:List (Nat × Nat)}(a:FT W h sf st ft)(hl:b.fr.length<=10000)(hft:ft.length<=2000)(h0f:0<ft.length){Q:AV->Heap->Prop}(hQ:∀h1,FQ W h ob b (NS.joinE ft) h1->Q (.tup [I (ft.getD 0 (0,0)).1,I (ft.getD (ft.length-1) (0,0)).2]) h1) :
  ∀(d i:Nat) (h1:Heap),i+d+1=ft.length->FQ W h ob b (jpE ft i) h1->
   WP (fun p:Nat × Nat=>f5_ p.1 p.2 (.ptr ob 0 6 0) sf st (I i) h1) Q:=by
 have lm1:(ft.map (·.1)).length=ft.length:=List.length_map ..
 have lm2:(ft.map (·.2)).length=ft.length:=List.length_map ..
 have getD_of:∀{i x},ft[i]?=some x->ft.getD i (0,0)=x:=fun h=>by rw[List.getD_eq_getElem?_getD,h]; rfl
 intro d
 induction d with
 |zero=>
  intro i h1 hi q
  refine WP.rnd (fun k j=>q9_ k j (.ptr ob 0 6 0) sf st (I i) h1) ?_
  have f1:=(a.frs q.2).f
  have t1:=(a.frs q.2).t
  have hf:=f1.lenG
  have ht:=t1.lenG
  rw[List.length_map] at hf ht
  obtain ⟨x,hx⟩:∃x,ft[0]?=some x:=⟨ft[0],List.getElem?_eq_getElem (by omega)⟩
  obtain ⟨y,hy⟩:∃y,ft[ft.length-1]?=some y:=⟨ft[ft.length-1],List.getElem?_eq_getElem (by omega)⟩
  have g1:gi (ft.map (·.1)) 0=x.1:=(a1d hx).1
  have g2:gi (ft.map (·.2)) ((ft.length:Int)-1)=y.2:=by
   rw[show (ft.length:Int)-1=((ft.length-1:Nat):Int) by omega]; exact (a1d hy).2.1
  obtain rfl:i=ft.length-1:=by omega
  rw[<-b1c] at q
  have hq:=hQ h1 q
  rw[getD_of hx,getD_of hy] at hq
  simp -implicitDefEqProofs (disch:=first|assumption|omega|(simp only[gL,gA]<;>omega)|fail) only[gC,reduceIte,hf]
  refine WP.lv (WP.congr (fun k:Nat=>a0Q k sf st h1) ?_) fun i j=>rfl
  simp -implicitDefEqProofs (disch:=first|assumption|omega|exact Ext.refl _|(simp only[gL,gA]<;>omega)|fail) only[gC,reduceIte,f1.idxG,f1.ld0,g1,ht,t1.idxG,t1.ld0,g2,encN',lm1,lm2]
  exact WP.ret hq
 |succ d ih=>
  intro i h1 hi q
  refine WP.rnd (fun k j=>q9_ k j (.ptr ob 0 6 0) sf st (I i) h1) ?_
  have f1:=(a.frs q.2).f
  have t1:=(a.frs q.2).t
  have hf:=f1.lenG
  rw[List.length_map] at hf
  obtain ⟨x,hx⟩:∃x,ft[i]?=some x:=⟨ft[i],List.getElem?_eq_getElem (by omega)⟩
  obtain ⟨y,hy⟩:∃y,ft[i+1]?=some y:=⟨ft[i+1],List.getElem?_eq_getElem (by omega)⟩
  have g1:gi (ft.map (·.2)) (i:Int)=x.2:=(a1d hx).2.1
  have g2:gi (ft.map (·.1)) ((i:Int)+1)=y.1:=by
   rw[show (i:Int)+1=((i+1:Nat):Int) by omega]; exact (a1d hy).1
  have hjl:=a8J ft i
  simp -implicitDefEqProofs (disch:=first|assumption|omega|exact Ext.refl _|(simp only[gL,gA]<;>omega)|fail) only[gC,reduceIte,hf,t1.idxG,t1.ld0,g1,f1.idxG,f1.ld0,g2,encN',lm1,lm2]
  refine WP.call (q.free (by omega) x.2 y.1) ?_
  rintro _ h2 ⟨rfl,q2⟩
  refine ih (i+1) h2 (by omega) ?_
  rw[jpE,getD_of hx,getD_of hy]; exact q2
theorem a9c {h:Heap}{W:Nat->Prop}{b:NS}(nv:NV h0 (.join l) c5)(e0:Ext h0 h)(hW:∀o,W o->h0.length<=o/\o<h.length)(v:BV W h ob b)(ok:NSok b)(m:b.much=false)(g:Gd (.join l))(d:Bd (.join l))(ih:∀c∈l,PartS c) :
  Tot tab b7_ [.ptr ob 0 6 0,.agg c5] h fun r h'=>r=.tup [I (NS.part (.join l) b).1.1,I (NS.part (.join l) b).1.2]/\BV (Wn W h h') h' ob (NS.part (.join l) b).2/\FrS W h h':=by
 refine WP.tot (fun k=>a1v k _ _ h) ?_
 obtain ⟨sL,css,kv⟩:=kidsV nv
 have h5:=kv.sl.one
 have hll:l.length<=1000:=d.len
 have hl2:2<=l.length:=g.rt
 have hcc:=kv.c
 have l0:=e0.len
 obtain ⟨h1,hh1⟩:∃h1,h1=h++[AObj.cells ⟨c5,0,0,false⟩]:=⟨_,rfl⟩
 have e1:Ext h h1:=by rw[hh1]; exact Ext.push _ _
 have l1:h1.length=h.length+1:=by rw[hh1]; simp
 have r1:h1[h.length]?=some (.cells ⟨c5,0,0,false⟩):=by rw[hh1]; simp
 have p0:PLs h0 h h1 W W ob h.length b c5 .nils .nils 0 0 []:=by
  refine ⟨e0.trans e1,l0,FrS.ofExt e1,fun o z=>by have:=hW o z; omega,fun o z=>.inl z,v.ext e1,fun z=>by have:=hW _ z; omega,r1,Nat.le_refl _,Gr.nil ..,Gr.nil ..,fun z=>absurd rfl z,fun z=>absurd rfl z⟩
 have szp:=a2c l (fun c hc=>szn c (g.kid c hc)) b
 rw[NS.part]
 simp only[NS.joined,m,if_false,Bool.false_eq_true]
 rw[hcc] at hh1
 conv=>lhs; rw[hcc]
 simp -implicitDefEqProofs (disch:=first|assumption|omega|(simp only[gL,gA]<;>omega)|fail) only[gC,reduceIte,h5]
 rw[<-hh1]
 refine WP.ent (b1d kv hll ih (fun c hc=>szn c (g.kid c hc)) (fun h2 W2 sf st oA oB p2 ok2=>?_) l.length 0 h1 W b .nils .nils 0 0 [] (by omega) rfl p0 ok rfl rfl) fun i=>rfl
 refine WP.congr (fun k:Nat=>a0R k (.ptr ob 0 6 0) sf st h2) ?_
 rw[List.drop_zero,List.nil_append] at p2
 rw[List.drop_zero] at ok2
 obtain ⟨sS,sF,oS,oF,rb,_⟩:=p2.bv
 have fin:∀{h3:Heap} {b3:NS},FrS W2 h2 h3->BV (Wn W2 h2 h3) h3 ob b3->BV (Wn W h h3) h3 ob b3/\FrS W h h3:=fun {h3 b3} f v=>by
  have p3:=p2.call f v
  refine ⟨v.mono fun o z1 z2=>?_,p3.fr⟩
  rcases p3.w0 o z2 with z|z
  ·exact .inl z
  ·exact .inr ⟨z,z1⟩
 by_cases m2:(NS.parts l b).2.much=true
 ·rw[m2] at rb
  rw[if_pos m2]
  simp -implicitDefEqProofs (disch:=first|assumption|omega|(simp only[gL,gA]<;>omega)|fail) only[gC,reduceIte,rb]
  exact WP.ret ⟨rfl,fin (FrS.refl _ _) (p2.bv.mono fun o _ z=>.inl z)⟩
 ·rw[if_neg m2]
  rw[Bool.not_eq_true] at m2
  rw[m2] at rb
  simp -implicitDefEqProofs (disch:=first|assumption|omega|(simp only[gL,gA]<;>omega)|fail) only[gC,reduceIte,rb]
  have hfl:=(szp.2.2 m2).2.1
  have hfr:=ok2.fr
  have hnn:=ok2.n
  generalize (NS.parts l b).1=ft at p2 hfl ⊢
  generalize (NS.parts l b).2=b2 at *
  refine WP.ent (b1e p2.ftv (by omega) (by omega) (by omega) (fun h3 q3=>?_) (ft.length-1) 0 h2 (by omega) (FQ.zero p2.bv)) fun i=>rfl
  have e1:(ft.getD 0 (0,0)).1=(NS.hd ft).1:=by cases ft<;>rfl
  have e2:(ft.getD (ft.length-1) (0,0)).2=(ft.getLastD (0,0)).2:=by
   rw[List.getLastD_eq_getLast?,List.getLast?_eq_getElem?,List.getD_eq_getElem?_getD]
  rw[e1,e2]
  exact ⟨rfl,fin q3.2 q3.1⟩
end
theorem a9d (n:Nd):Gd n->Bd n->PartS n:=by
 refine Nd.ind (p:=fun n=>Gd n->Bd n->PartS n) (fun n ih g d=>?_) n
 by_cases hk:n.kind=4
 ·cases n with
  |join l=>
   intro h0 h W ob b c5 nv e0 hW v ok
   refine WP.tot (fun k=>u0_ k _ _ h) ?_
   obtain ⟨sL,css,kv⟩:=kidsV nv
   have h5:=kv.sl.one
   have hcc:=kv.c
   obtain ⟨h1,hh1⟩:∃h1,h1=h++[AObj.cells ⟨c5,0,0,false⟩]:=⟨_,rfl⟩
   have e1:Ext h h1:=by rw[hh1]; exact Ext.push _ _
   have l1:h1.length=h.length+1:=by rw[hh1]; simp
   have r1:h1[h.length]?=some (.cells ⟨c5,0,0,false⟩):=by rw[hh1]; simp
   have v1:=v.ext e1
   obtain ⟨sS,sF,oS,oF,rb,_⟩:=v1
   have v1:=v.ext e1
   rw[hcc] at hh1 r1
   by_cases m:b.much=true
   ·rw[m] at rb
    have e:NS.part (.join l) b=((0,0),b):=by rw[NS.part]; simp only[NS.joined,m,if_true]
    rw[e,hcc]
    simp -implicitDefEqProofs (disch:=first|assumption|omega|(simp only[gL,gA]<;>omega)|fail) only[gC,reduceIte,h5]
    rw[<-hh1]
    simp -implicitDefEqProofs (disch:=first|assumption|omega|(simp only[gL,gA]<;>omega)|fail) only[gC,reduceIte,rb]
    exact WP.ret ⟨rfl,v1.mono fun o _ z=>.inl z,FrS.ofExt e1⟩
   ·rw[Bool.not_eq_true] at m
    rw[m] at rb
    have k4:(Nd.join l).kind=4:=rfl
    conv=>lhs; rw[hcc]
    simp -implicitDefEqProofs (disch:=first|assumption|omega|(simp only[gL,gA]<;>omega)|fail) only[gC,reduceIte,h5]
    rw[<-hh1]
    simp -implicitDefEqProofs (disch:=first|assumption|omega|(simp only[gL,gA]<;>omega)|fail) only[gC,reduceIte,rb,r1,k4]
    have hc4:c5=[I 4,I (Nd.join l).st,I (Nd.join l).lo,I (Nd.join l).hi,sL]:=hcc
    rw[<-hc4]
    refine WP.call (a9c nv (e0.trans e1) (fun o z=>by have:=hW o z; omega) v1 ok m g d (fun c hc=>ih c hc (g.kid c hc) (d.kid c hc))) ?_
    rintro _ h2 ⟨rfl,v2,f2⟩
    simp -implicitDefEqProofs (disch:=first|assumption|omega|(simp only[gL,gA]<;>omega)|fail) only[gC,reduceIte,d0_,d1_]
    exact WP.ret ⟨rfl,v2.mono fun o _ z=>z.elim .inl fun z=>.inr ⟨by omega,z.2⟩,(FrS.ofExt e1).trans f2⟩
  |_=>simp[Nd.kind] at hk
 ·exact b2e hk g d fun c hc=>ih c (a2X hc) (g.kid c (a2X hc)) (d.kid c (a2X hc))
end Go.Gm.AQ
namespace Go.Gm
section
variable {n:Nat} {W:Int} {A A':Nat->List Hop} {st en:Nat->Prop}
structure Rev (n:Nat) (A A':Nat->List Hop):Prop where
 to:∀x y e w,x<n->(y,e,w)∈A x->∃e',(x,e',w)∈A' y
 fro:∀x y e w,y<n->(x,e,w)∈A' y->∃e',(y,e',w)∈A x
theorem Rev.symm (r:Rev n A A'):Rev n A' A:=⟨fun x y e w hx h=>r.fro y x e w hx h,fun x y e w hy h=>r.to y x e w hy h⟩
theorem Wk.join (g:GOk n W A)(g':GOk n W A')(r:Rev n A A')(hs:∀x,st x->x<n)(he:∀x,en x->x<n){x:Nat}{l:List Nat}{u:Int}(h:Wk A' en x l u):∀{l' v},Wk A st x l' v->∃z,en z/\∃l'',Wk A st z l'' (v+u):=by
 induction h with
 |@nil x h=>
  intro l' v k
  exact ⟨x,h,l',by rw[Int.add_zero]; exact k⟩
 |@snoc y x e l u w h1 h2 ih=>
  intro l' v k
  have hy:=(Wk.range g' he h1).1
  obtain ⟨e',h3⟩:=r.fro x y e w hy h2
  obtain ⟨z,z1,l'',z2⟩:=ih (.snoc k h3)
  exact ⟨z,z1,l'',by rw[show v+(u+w)=v+w+u by omega]; exact z2⟩
structure Half (n:Nat) (A:Nat->List Hop) (st:Nat->Prop) (c:Nat->Int) (t:Int):Prop where
 front:∀y l v,Wk A st y l v->(0<=c y/\c y<=v)\/t<=v
structure Met (n:Nat) (A:Nat->List Hop) (st en:Nat->Prop) (c d:Nat->Int) (L:Int):Prop where
 a:∀x,x<n->0<=c x->en x->0<=L/\L<=c x
 b:∀x,x<n->0<=d x->st x->0<=L/\L<=d x
 m:∀x y e w,x<n->(y,e,w)∈A x->0<=c x->0<=d y->0<=L/\L<=c x+w+d y
theorem Met.low (g:GOk n W A)(g':GOk n W A')(r:Rev n A A')(hs:∀x,st x->x<n)(he:∀x,en x->x<n){c d:Nat->Int}{t t' L:Int}(p:Half n A st c t)(q:Half n A' en d t')(mt:Met n A st en c d L)(hL:L<=t+t'){x:Nat}{l:List Nat}{u:Int}(h:Wk A' en x l u) :
  ∀{v l'},Wk A st x l' v->0<=c x->c x<=v->L<=v+u:=by
 induction h with
 |@nil x h=>
  intro v l' k h0 h1
  have:=mt.a x (he x h) h0 h
  omega
 |@snoc y x e l u w h1 h2 ih=>
  intro v l' k h0 h3
  have hy:=(Wk.range g' he h1).1
  obtain ⟨e',h4⟩:=r.fro x y e w hy h2
  have hx:=(Wk.range g hs k).1
  rcases p.front y _ _ (.snoc k h4) with ⟨p1,p2⟩|p1
  ·have:=ih (.snoc k h4) p1 p2
   omega
  ·rcases q.front y _ _ h1 with ⟨q1,q2⟩|q1
   ·have:=mt.m x y e' w hx h4 h0 q1
    omega
   ·omega
theorem Met.all (g:GOk n W A)(g':GOk n W A')(r:Rev n A A')(hs:∀x,st x->x<n)(he:∀x,en x->x<n){c d:Nat->Int}{t t' L:Int}(p:Half n A st c t)(q:Half n A' en d t')(mt:Met n A st en c d L)(hL:L<=t+t')(hst:∀x,st x->0<=c x->c x<=0){x:Nat}(hx:st x){l:List Nat}{u:Int}(h:Wk A' en x l u):L<=u:=by
 by_cases h0:0<=c x
 ·have:=mt.low g g' r hs he p q hL h (.nil hx) h0 (hst x hx h0)
  omega
 ·rcases p.front x _ _ (.nil hx) with ⟨p1,_⟩|p1
  ·exact absurd p1 h0
  ·rcases q.front x _ _ h with ⟨q1,q2⟩|q1
   ·have:=mt.b x (hs x hx) q1 hx
    omega
   ·omega
theorem Met.least (g:GOk n W A)(g':GOk n W A')(r:Rev n A A')(hs:∀x,st x->x<n)(he:∀x,en x->x<n){c d:Nat->Int}{t t' L:Int}(p:Half n A st c t)(q:Half n A' en d t')(mt:Met n A st en c d L)(hL:L<=t+t')(hst:∀x,st x->0<=c x->c x<=0){z:Nat}(hz:en z){l:List Nat}{v:Int}(h:Wk A st z l v):L<=v:=by
 obtain ⟨x,hx,l',h'⟩:=Wk.join g' g r.symm he hs h (.nil hz)
 have:=mt.all g g' r hs he p q hL hst hx h'
 omega
theorem Met.symm (g:GOk n W A)(g':GOk n W A')(r:Rev n A A'){c d:Nat->Int}{L:Int}(mt:Met n A st en c d L):Met n A' en st d c L:=by
 refine ⟨mt.b,mt.a,fun x y e w hx h h1 h2=>?_⟩
 have hy:=(g'.hop x hx _ _ _ h).1
 obtain ⟨e',h3⟩:=r.fro y x e w hx h
 have:=mt.m y x e' w hy h3 h2 h1
 omega
theorem Met.step {c c' d:Nat->Int}{L L':Int}{id:Nat}(mt:Met n A st en c d L)(hc:∀x,x<n->x≠id->c' x=c x)(hmono:0<=L->0<=L'/\L'<=L)(ha:en id->0<=L'/\L'<=c' id)(hm:∀y e w,(y,e,w)∈A id->0<=d y->0<=L'/\L'<=c' id+w+d y):Met n A st en c' d L':=by
 refine ⟨fun x hx h1 h2=>?_,fun x hx h1 h2=>?_,fun x y e w hx h h1 h2=>?_⟩
 ·by_cases q:x=id
  ·subst q; exact ha h2
  ·rw[hc x hx q] at h1 ⊢
   have h3:=mt.a x hx h1 h2
   have h4:=hmono h3.1
   exact ⟨h4.1,by omega⟩
 ·have h3:=mt.b x hx h1 h2
  have h4:=hmono h3.1
  exact ⟨h4.1,by omega⟩
 ·by_cases q:x=id
  ·subst q; exact hm y e w h h2
  ·rw[hc x hx q] at h1 ⊢
   have h3:=mt.m x y e w hx h h1 h2
   have h4:=hmono h3.1
   exact ⟨h4.1,by omega⟩
def fnd (c:Nat->Int)(m:Nat->Option Int)(x:Nat):Int:=if 0<=c x then c x else (m x).getD (-1)
theorem b1f {c:Nat->Int}{m:Nat->Option Int}{e f:Nat->Int}{r:Nat->Nat}{k id:Nat}{todo:List Hop}(d:DI n W A st id todo c m e f r k){x:Nat}(hx:x<n)(h:0<=fnd c m x):∃l,Wk A st x l (fnd c m x):=by
 unfold fnd at h ⊢
 by_cases q:0<=c x
 ·rw[if_pos q]; exact (d.fin x hx q).1
 ·rw[if_neg q] at h ⊢
  cases hm:m x with
  |none=>rw[hm] at h; simp at h
  |some v=>exact (d.que x hx v hm).2.2
theorem b3w {c:Nat->Int}{m:Nat->Option Int}{e f:Nat->Int}{r:Nat->Nat}{k id:Nat}(d:DI n W A st id [] c m e f r k){x:Nat}(hx:x<n)(h:0<=c x){y e':Nat}{w:Int}(hh:(y,e',w)∈A x)(hy:y<n):0<=fnd c m y/\(fnd c m y<=c x+w\/0<=c y):=by
 unfold fnd
 rcases d.rel x hx h _ _ _ hh with ⟨_,q⟩|q|⟨v,q1,q2⟩
 ·simp at q
 ·rw[if_pos q]; exact ⟨q,.inr q⟩
 ·by_cases q:0<=c y
  ·rw[if_pos q]; exact ⟨q,.inr q⟩
  ·rw[if_neg q,q1]
   have:=(d.que y hy v q1).2.1
   exact ⟨this,.inl q2⟩
theorem b2A {c:Nat->Int}{m:Nat->Option Int}{e f:Nat->Int}{r:Nat->Nat}{k id:Nat}(d:DI n W A st id [] c m e f r k){x:Nat}(hx:x<n)(h:0<=c x){y e':Nat}{w:Int}(hh:(y,e',w)∈A x)(hy:y<n):0<=fnd c m y/\fnd c m y<=c x+w:=by
 obtain ⟨h1,h2⟩:=b3w d hx h hh hy
 refine ⟨h1,h2.elim (fun z=>z) fun z=>?_⟩
 obtain ⟨⟨l,hl⟩,_⟩:=d.fin x hx h
 have:=(d.fin y hy z).2 _ _ (.snoc hl hh)
 unfold fnd
 rw[if_pos z]; exact this
theorem b2B {c:Nat->Int}{m:Nat->Option Int}{e f:Nat->Int}{r:Nat->Nat}{k id:Nat}{todo:List Hop}(hW:0<=W)(d:DI n W A st id todo c m e f r k){x:Nat}(hx:x<n):fnd c m x<=k*W:=by
 have h0:0<=(k:Int)*W:=Int.mul_nonneg (by omega) hW
 unfold fnd
 by_cases q:0<=c x
 ·rw[if_pos q]; exact d.bnd x hx _ (.inl ⟨q,rfl⟩)
 ·rw[if_neg q]
  cases hm:m x with
  |none=>simp; omega
  |some v=>exact d.bnd x hx v (.inr hm)
end
end Go.Gm
namespace Go.Gm.AQ
open Go Go.Gm
def encR (r:List Int):List AV:=r.map I
structure DOk (D:List (List Int)) (acc:List Bool):Prop where
 l0:0<D.length
 l1:D.length<=2000
 la:acc.length=D.length
 row:∀s:Int,0<=s->s<D.length->(gi D s).length=5
 to:∀s m:Int,0<=s->s<D.length->0<=m->m<5->0<=gi (gi D s) m/\gi (gi D s) m<D.length
structure COk (es:List E):Prop where
 c:∀e∈es,0<=e.co/\e.co<=2147483647
abbrev nx (D:List (List Int))(s m:Int):Int:=gi (gi D s) m
def befTo (D:List (List Int))(t m:Int)(n:Nat):List Int:=((List.range n).filter fun (i:Nat)=>nx D i m == t).map fun (i:Nat)=>(i:Int)
abbrev bef (D:List (List Int))(t m:Int):List Int:=befTo D t m D.length
abbrev Tr:=Int × Int × Int
def encT (t:Tr):List AV:=[I t.1,I t.2.1,I t.2.2]
def onL (es:List E)(D:List (List Int))(v s:Int):List Tr:=(outL es v).map fun k=>((gi es k).to,nx D s (gi es k).md,k)
def hopOf (es:List E)(S:Nat)(t:Tr):Hop:=((t.1*S+t.2.1).toNat,t.2.2.toNat,(gi es t.2.2).co)
def hopA (es:List E)(S:Nat)(L:Int->Int->List Tr)(x:Nat):List Hop:=(L ((x / S:Nat):Int) ((x % S:Nat):Int)).map (hopOf es S)
structure GV (h:Heap) (g:AV) (N:Nat) (es:List E) (D:List (List Int)) (acc:List Bool):Prop where
 ex:∃sE a sD sA sB B,At h g [I N,sE,a,sD,sA,sB]/\Sl h 4 sE (es.map encE)/\AdjV h a N es/\Sl h 5 sD (D.map encR)/\Sl h 1 sA (acc.map encB)/\Sl h 5 sB (B.map id)/\
  B.length=D.length/\∀t m:Int,0<=t->t<D.length->0<=m->m<5->(gi B t).length=5/\Sl h 1 (gi (gi B t) m) ((bef D t m).map encI)
theorem GV.ext {h h':Heap}{g:AV}{N:Nat}{es:List E}{D:List (List Int)}{acc:List Bool}(v:GV h g N es D acc)(e:Ext h h'):GV h' g N es D acc:=by
 obtain ⟨sE,a,sD,sA,sB,B,h1,h2,h3,h4,h5,h6,h7,h8⟩:=v.ex
 exact ⟨sE,a,sD,sA,sB,B,h1.ext e,h2.ext e,h3.ext e,h4.ext e,h5.ext e,h6.ext e,h7,fun t m t0 t1 m0 m1=>⟨(h8 t m t0 t1 m0 m1).1,(h8 t m t0 t1 m0 m1).2.ext e⟩⟩
theorem b2C {sz:Nat}{h:Heap}{s:AV}{α:Type}[Inhabited α]{enc:α->List AV}{xs:List α}(a:Sl h sz s (xs.map enc)){i j:Int}(hi0:0<=i)(hi:i<xs.length)(h0:0<=j)(h1:j<sz):∃o off g,elP sz s i=.ptr o off (off+sz) g/\idxA sz 1 (elP sz s i) (I j)=some (.ptr o (off+j.toNat) (off+j.toNat+1) g):=by
 rcases a with ⟨rfl,hx⟩|⟨o,off,lim,g,c,rfl,_⟩
 ·cases xs with
  |nil=>simp at hi; omega
  |cons=>simp at hx
 ·refine ⟨o,off+i.toNat*sz,g,rfl,?_⟩
  simp only[elP,idxA,I,Nat.mul_one]
  rw[if_pos ⟨h0,h1,by omega⟩]
theorem b3x {h:Heap}{o off hi hi2 g:Nat}(h1:off<hi)(h2:off<hi2):Gm.ld1 h (.ptr o off hi g)=Gm.ld1 h (.ptr o off hi2 g):=by simp[Gm.ld1,h1,h2]
theorem b3y {h:Heap}{o off hi hi2 g:Nat}{v:AV}(h1:off<hi)(h2:off<hi2):stN 1 h (.ptr o off hi g) v=stN 1 h (.ptr o off hi2 g) v:=by
 simp only[stN,wrc]
 by_cases q:v.cells.length=1
 ·simp[q,show off+1<=hi by omega,show off+1<=hi2 by omega]
 ·simp[q]
theorem cellA {sz:Nat}{h H:Heap}{s:AV}{α:Type}[Inhabited α]{enc:α->List AV}{xs:List α}(a:Sl h sz s (xs.map enc))(e:Ext h H){i j:Int}(hi0:0<=i)(hi:i<xs.length)(h0:0<=j)(h1:j<sz) :
  ∃p,idxA sz 1 (elP sz s i) (I j)=some p/\Gm.ld1 H p=some ((enc (gi xs i)).getD j.toNat .undef)/\∀(H':Heap) (v:AV),stN 1 H' p v=stN 1 H' (fldP j.toNat (elP sz s i)) v:=by
 obtain ⟨o,off,g,k1,k2⟩:=b2C a hi0 hi h0 h1
 have:=a.ldf j.toNat e hi0 hi (by omega)
 rw[k1,a2M] at this
 refine ⟨_,k2,?_,fun H' v=>?_⟩
 ·rw[<-this]
  exact b3x (by omega) (by omega)
 ·rw[k1,a2M]
  exact b3y (by omega) (by omega)
section
variable {h0 h:Heap} {g:AV} {N:Nat} {es:List E} {D:List (List Int)} {acc:List Bool}
theorem a6n (gv:GV h g N es D acc)(ok:DOk D acc){v s:Int}(v0:0<=v)(v1:v<=100000)(s0:0<=s)(s1:s<=100000) :
  Tot tab n0_ [g,.agg [I v,I s]] h fun r h'=>r=I (v*D.length+s)/\Ext h h':=by
 obtain ⟨sE,a,sD,sA,sB,B,k1,k2,k3,k4,k5,k6,k7,k8⟩:=gv.ex
 refine WP.tot (fun k=>a4x k _ _ h) ?_
 have hl:=ok.l1
 have hm0:0<=v*(D.length:Int):=Int.mul_nonneg v0 (by omega)
 have hm1:v*(D.length:Int)<=100000*2000:=Int.mul_le_mul v1 (by omega) (by omega) (by omega)
 have hw:IntKind.i64.wrap (v*(D.length:Int))=v*D.length:=q2_ (by omega) (by omega)
 simp -implicitDefEqProofs (disch:=first|assumption|omega|(simp only[gL]<;>omega)|((repeat (first|exact Ext.refl _|assumption|apply Ext.app|apply Ext.mk|(refine Ext.setr ?_ (by (first|omega|(simp only[gL]<;>omega))) _))); done)|(simp only[gL,gA,k1.nil,k1.fldA0,k1.fldAf,k1.ldfE,k4.lenG,hw]<;>omega)|fail) only[gB,setAll,partL,fldV,reduceIte,Nat.reduceAdd,Nat.reduceMul,k1.nil,k1.fldA0,k1.fldAf,k1.ldfE,k4.lenG,hw]
 exact WP.ret ⟨rfl,by ((repeat (first|exact Ext.refl _|assumption|apply Ext.app|apply Ext.mk|(refine Ext.setr ?_ (by (first|omega|(simp only[gL]<;>omega))) _))))⟩
theorem b0r (gv:GV h g N es D acc)(ok:DOk D acc){x:Nat}(hx:x<=200000000) :
  Tot tab v9_ [g,I x] h fun r h'=>r=.agg [I ((x / D.length:Nat):Int),I ((x % D.length:Nat):Int)]/\Ext h h':=by
 obtain ⟨sE,a,sD,sA,sB,B,k1,k2,k3,k4,k5,k6,k7,k8⟩:=gv.ex
 refine WP.tot (fun k=>a3S k _ _ h) ?_
 have hl:=ok.l0
 have hd:x / D.length<=x:=Nat.div_le_self _ _
 have hw:IntKind.i64.wrap ((x:Int).tdiv (D.length:Int))=((x / D.length:Nat):Int):=by
  rw[<-Int.ofNat_tdiv]
  generalize x / D.length=q at hd
  exact q2_ (by omega) (by omega)
 have hr:(x:Int).tmod (D.length:Int)=((x % D.length:Nat):Int):=(Int.ofNat_tmod _ _).symm
 simp -implicitDefEqProofs (disch:=first|assumption|omega|(simp only[gL]<;>omega)|((repeat (first|exact Ext.refl _|assumption|apply Ext.app|apply Ext.mk|(refine Ext.setr ?_ (by (first|omega|(simp only[gL]<;>omega))) _))); done)|(simp only[gL,gA,k1.nil,k1.fldA0,k1.fldAf,k1.ldfE,k4.lenG,hw,hr]<;>omega)|fail) only[gB,setAll,partL,fldV,reduceIte,Nat.reduceAdd,Nat.reduceMul,k1.nil,k1.fldA0,k1.fldAf,k1.ldfE,k4.lenG,hw,hr]
 exact WP.ret ⟨rfl,by ((repeat (first|exact Ext.refl _|assumption|apply Ext.app|apply Ext.mk|(refine Ext.setr ?_ (by (first|omega|(simp only[gL]<;>omega))) _))))⟩
end
end Go.Gm.AQ
