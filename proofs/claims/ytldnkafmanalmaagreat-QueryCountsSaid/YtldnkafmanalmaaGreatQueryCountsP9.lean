/- A part of the proof (GmAZsg, GmPr, GmAZpa, GmAZpb, GmAZpc, GmNy, GmNw, GmAZsh, GmAZKN, GmTx, GmAZkn, GmAZtr). -/
import Derived.Test.YtldnkafmanalmaaGreatQueryCountsP8
set_option autoImplicit true
set_option relaxedAutoImplicit true
set_option linter.unusedVariables false
set_option linter.unusedSimpArgs false
set_option linter.unusedSectionVars false
namespace Go.Gm.AZ
open Go Go.Gm
section
variable {nf:NF} {sS sF:AV}
def SubQ (lo:Nat)(o:Option (List (List Int) × List Bool))(r:AV)(h':Heap):Prop:=
 match o with
 |none=>r=.tup [.agg [.nils,.nils],I 5]
 |some (D,acc)=>∃sN sA:AV,r=.tup [.agg [sN,sA],I 0]/\Gr lo h'.length h' 5 sN (D.map encR)/\Gr lo h'.length h' 1 sA (acc.map encB)
theorem c5r {h0 hb:Heap}{on ot:Nat}(v:NfV hb nf sS sF)(rn:hb[on]?=some (.cells ⟨nfC nf sS sF,0,0,false⟩))(rt:hb[ot]?=some (.cells ⟨[.nils,.nils],0,0,false⟩))(e0:Ext h0 hb)(hot:h0.length<=ot) :
  ∀(f i:Nat) (h:Heap) (states sN sA:AV) (oS oN oA:Nat) (B:List AV) (S:List Nat) (D:List (List Int)) (acc:List Bool),i+f=202->i<=S.length->S.length<=200->D.length=i->acc.length=i->SI hb h states sN sA oS oN oA B D acc->SetsV nf.n h (OffS hb states sN sA oS oN oA) B S->
   WP (λp:Nat × Nat=>t1_ p.1 p.2 (I 200) (.ptr on 0 5 0) (.ptr ot 0 2 0) states (.ptr (hb.length+1) 0 2 0) (I i) h) λr h'=>Ext h0 h'/\SubQ h0.length (subL nf 200 f i S D acc) r h':=by
 have l0:=e0.len
 have bt:=(List.getElem?_eq_some_iff.1 rt).1
 intro f
 induction f with
 |zero=>intro i h states sN sA oS oN oA B S D acc h1 h2 h3; omega
 |succ f ih=>
  intro i h states sN sA oS oN oA B S D acc h1 h2 h3 hD hA mi sv
  refine WP.rnd (a7o · · ..) ?_
  have gs:=mi.gs.sl.lenG
  have lB:=sv.1
  by_cases q:i=S.length
  ·have hs:subL nf 200 (f+1) i S D acc=some (D,acc):=by rw[subL,List.getElem?_eq_none oM]
   rw[hs]
   refine g2 @gs @lB ?_
   refine WP.lv (d:=λk:Nat=>a0G k (.ptr ot 0 2 0) (.ptr (hb.length+1) 0 2 0) h) ?_ λi j=>rfl
   refine WP.congr (a7n · ..) ?_
   have ro:=mi.ro
   have rt':=mi.eb.get rt
   have b0:=(List.getElem?_eq_some_iff.1 rt').1
   have o1:=mi.gn.sl.one
   have o2:=mi.gn.sl.cells
   have o3:=mi.ga.sl.one
   have o4:=mi.ga.sl.cells
   refine g6 @ro @rt' @o1 @o2 @o3 @o4 ?_
   have nl:∀{lo:Nat} {sz:Nat} {s:AV} {xs:List (List AV)} (x:AObj),Gr lo (lo+1) h sz s xs->(s≠.nils->hb.length<=lo/\lo<h.length)->Gr h0.length (h.set ot x).length (h.set ot x) sz s xs:=by
    intro lo sz s xs x g hq
    by_cases q:s=.nils
    ·subst q
     have:=g.isNil
     subst this
     exact Gr.nil ..
    ·have:=hq q
     exact (g.set (.inl oM) _).mono oM (by simp; omega)
   refine WP.ret ⟨(e0.trans mi.eb).setr hot _,sN,sA,rfl,nl _ mi.gn λz=>?_,nl _ mi.ga λz=>?_⟩
   ·have:=mi.pn z; omega
   ·have:=mi.pa z; omega
  ·have hx:S[i]?=some S[i]:=List.getElem?_eq_getElem oM
   obtain ⟨s,hs⟩:∃s,S[i]=s:=⟨_,rfl⟩
   rw[hs] at hx
   have hsub:subL nf 200 (f+1) i S D acc=match rowF nf 200 s 5 0 S [] with
    |none=>none
    |some (S',row)=>subL nf 200 f (i+1) S' (D++[row]) (acc++[s.testBit nf.e]):=by
    rw[subL]; simp only[hx]<;>cases rowF nf 200 s 5 0 S []<;>rfl
   rw[hsub]
   refine g2 @gs @lB ?_
   have bl:=mi.bl
   have e1:Ext h (h++[AObj.cells ⟨List.map I [0,0,0,0,0],0,0,false⟩]):=Ext.push _ _
   refine WP.ent (c5q (s:=s) (nx:=h.length) v rn rt e0 hot 5 0 (h++[AObj.cells ⟨List.map I [0,0,0,0,0],0,0,false⟩]) states oS B S [0,0,0,0,0] oM (mi.ext e1) (sv.go (D:=λ_=>False) (FrS.ofExt e1) λo z1 z2=>⟨id,z2,oM⟩) hx h3 ⟨by simp,rfl,bl,λz=>?_,λz=>?_,λz=>?_⟩ (λz h' z2=>?_) (λh2 states oS B S' nxs mi sv hi hl nk hr=>?_)) λi=>rfl
   ·have:=mi.ps z; omega
   ·have:=mi.pn z; omega
   ·have:=mi.pa z; omega
   ·rw[show List.take 0 [0,0,0,0,0]=([]:List Int) from rfl] at z
    rw[z]
    exact ⟨z2,rfl⟩
   ·rw[show List.take 0 [0,0,0,0,0]=([]:List Int) from rfl] at hr
    rw[hr]
    refine WP.congr (λp=>a7m p.1 p.2 ..) ?_
    obtain ⟨n1,n2,n3,n4,n5,n6⟩:=nk
    have ro:=mi.ro
    have b0:=(List.getElem?_eq_some_iff.1 ro).1
    obtain ⟨sN2,h3',oN2,q1,q2,q3,q4,mi3,f3,w3⟩:=mi.row n2 oM
    have b1:=(List.getElem?_eq_some_iff.1 q4).1
    have hmk:(nxs.map I).take 5=nxs.map I:=List.take_of_length_le (by simp[n2])
    obtain ⟨h4,hh4⟩:∃h4,h4=h3'.set (hb.length+1) (.cells ⟨[sN2,sA],0,0,false⟩):=⟨_,rfl⟩
    rw[<-hh4] at mi3 f3
    have sv3:SetsV nf.n h4 (OffS hb states sN2 sA oS oN2 oA) B S':=by
     refine sv.go f3 λo z1 z2=>⟨λz=>?_,z2.1.1,z2.1.2.1,λz=>?_,z2.1.2.2.2⟩
     ·rcases z with z|z
      ·exact z2.1.1 z
      ·exact z2.1.2.2.1 z.1 z.2
     ·rcases w3 z with ⟨y1,y2⟩|y1
      ·rw[y1]; exact z2.1.2.2.1 y2
      ·omega
    have ro4:=mi3.ro
    have b4:=(List.getElem?_eq_some_iff.1 ro4).1
    have rn4:=mi3.eb.get rn
    have gs4:=mi3.gs.sl
    have lB4:=sv3.1
    have hil:=(List.getElem?_eq_some_iff.1 hi).1
    obtain ⟨hsn,lo,hi',g4,_⟩:=sv3.2 i s hi
    have ha4:=g4.sl
    have lb:=a4i nf.n s
    have hen:=v.ok.e
    obtain ⟨bb,hbb⟩:∃bb,s.testBit nf.e=bb:=⟨_,rfl⟩
    have hgb:=a6O (s:=s) hen
    rw[hbb] at hgb
    rw[hbb]
    obtain ⟨sA2,h5,oA2,w1,w2,w3',w4,mi5,f5,w5⟩:=mi3.accept bb oM
    have b5:=(List.getElem?_eq_some_iff.1 w4).1
    have hld:rdNAt 5 h2[h.length]? 0 5 0=some (.agg (nxs.map I)):=by
     rw[n1]
     try simp only[rdNAt]
     rw[if_pos ⟨oM,Nat.le_refl _⟩,List.drop_zero,hmk]
    obtain ⟨c0,c1,c2,c3,c4,rfl⟩:∃c0 c1 c2 c3 c4,nxs=[c0,c1,c2,c3,c4]:=by
     match nxs,n2 with
     |[c0,c1,c2,c3,c4],_=>exact ⟨c0,c1,c2,c3,c4,rfl⟩
    simp only[List.map_cons,List.map_nil] at hld q1
    refine g6 @ro @hld @q1 @q4 @q2 @q3 ?_
    rw[<-hh4]
    simp -implicitDefEqProofs (disch:=first|assumption|omega|exact Ext.refl _|(simp only[gL,gA]<;>omega)|fail) only[cG,reduceIte,ro4,rn4,gs4.idxG,gs4.ld0,lB4,enc1,ha4.idxG,ha4.ld0,lb,hgb,encB,w1,w4,w2,w3']
    obtain ⟨h6,hh6⟩:∃h6,h6=h5.set (hb.length+1) (.cells ⟨[sN2,sA2],0,0,false⟩):=⟨_,rfl⟩
    rw[<-hh6] at mi5 f5 ⊢
    refine WP.congr (λp=>a7l p.1 p.2 ..) ?_
    refine g0 ?_
    refine ih (i+1) h6 states sN2 sA2 oS oN2 oA2 B S' (D++[[c0,c1,c2,c3,c4]]) (acc++[bb]) oM oM hl (by simp[hD]) (by simp[hA]) mi5 (sv3.go f5 λo z1 z2=>⟨λz=>?_,z2.1,z2.2.1,z2.2.2.1,λz=>?_⟩)
    ·rcases z with z|z
     ·exact z2.1 z
     ·exact z2.2.2.2 z.1 z.2
    ·rcases w5 z with ⟨y1,y2⟩|y1
     ·rw[y1]; exact z2.2.2.2 y2
     ·omega
theorem b6L (v:NfV h nf sS sF) :
  Tot tab d0_ [.agg (nfC nf sS sF),I 200] h λr h'=>Ext h h'/\SubQ h.length (subF nf 200) r h':=by
 refine WP.tot (a8X · ..) ?_
 have ss:=v.s.one
 have sf:=v.f.one
 obtain ⟨h1,hh1⟩:∃h1,h1=(h++[AObj.cells ⟨nfC nf sS sF,0,0,false⟩])++[AObj.cells ⟨[.nils,.nils],0,0,false⟩]:=⟨_,rfl⟩
 have e1:Ext h h1:=by rw[hh1]; exact eX
 have rn:h1[h.length]?=some (.cells ⟨nfC nf sS sF,0,0,false⟩):=by rw[hh1]; simp
 have rt:h1[h.length+1]?=some (.cells ⟨[.nils,.nils],0,0,false⟩):=by rw[hh1]; simp
 simp -implicitDefEqProofs (maxSteps:=1000000) (disch:=first|assumption|omega|(simp only[gL]<;>omega)|((repeat (first|exact Ext.refl _|assumption|apply Ext.app|apply Ext.mk|(refine Ext.setr ?_ (by (first|omega|(simp only[gL]<;>omega))) _))); done)|(simp only[gL,gA,ss,sf]<;>omega)|fail) only[gB,setAll,partL,fldV,reduceIte,Nat.reduceAdd,Nat.reduceMul,ss,sf]
 rw[<-hh1]
 refine WP.call (c2n (v.ext e1)) ?_
 rintro r h2 ⟨e2,g2⟩
 have r1:=g2.sl.one
 have r2:=g2.sl.cells
 simp -implicitDefEqProofs (maxSteps:=1000000) (disch:=first|assumption|omega|(simp only[gL]<;>omega)|((repeat (first|exact Ext.refl _|assumption|apply Ext.app|apply Ext.mk|(refine Ext.setr ?_ (by (first|omega|(simp only[gL]<;>omega))) _))); done)|(simp only[gL,gA,r1,r2]<;>omega)|fail) only[gB,setAll,partL,fldV,reduceIte,Nat.reduceAdd,Nat.reduceMul,r1,r2]
 obtain ⟨h3,hh3⟩:∃h3,h3=(h2++[AObj.cells ⟨[r],0,0,false⟩])++[AObj.cells ⟨[.nils,.nils],0,0,false⟩]:=⟨_,rfl⟩
 have e3:Ext h2 h3:=by rw[hh3]; exact eX
 have l3:h3.length=h2.length+2:=by rw[hh3]; simp
 have l2:=e2.len
 have g3:Gr h2.length (h2.length+1) h3 1 (.sl h2.length 0 1 1 none 0) ([r].map enc1):=by
  have:=Gr.lit (h:=h2) (sz:=1) (v:=[r]) rfl
  rw[a3_] at this
  rw[hh3]; exact this.app _
 have ro:h3[h2.length+1]?=some (.cells ⟨[.nils,.nils],0,0,false⟩):=by rw[hh3]; simp
 have hfr:∀f∈nf.fr,f.2<nf.n:=λf hf=>(v.ok.fr f hf).2
 have hs1:∀p,(2 ^ nf.s).testBit p=true->p<nf.n:=λp hp=>by
  rw[Nat.testBit_two_pow] at hp
  have:nf.s=p:=by simpa using hp
  have:=v.ok.s
  omega
 have hs2:∀p,(cloF nf.n nf.fr (2 ^ nf.s)).testBit p=true->p<nf.n:=λp hp=>b7h hfr hs1 ((a9p hfr hs1 p).1 hp)
 have mi:SI h2 h3 (.sl h2.length 0 1 1 none 0) .nils .nils h2.length 0 0 [r] [] []:=
  ⟨e3,ro,g3,Gr.nil ..,Gr.nil ..,λ_=>oM,λz=>absurd rfl z,λz=>absurd rfl z,oM⟩
 have e12:=e1.trans e2
 rw[<-hh3]
 refine WP.ent (c5r (ot:=h.length+1) (v.ext e12) (e2.get rn) (e2.get rt) e12 oM 202 0 h3 _ _ _ _ _ _ _ [cloF nf.n nf.fr (2 ^ nf.s)] [] [] oM (by simp) (by simp) rfl rfl mi ⟨rfl,λi s hi=>?_⟩) λi=>rfl
 have hil:=(List.getElem?_eq_some_iff.1 hi).1
 simp only[List.length_cons,List.length_nil] at hil
 obtain rfl:i=0:=oM
 simp at hi
 subst hi
 refine ⟨hs2,h1.length,h2.length,g2.ext e3,λo z1 z2=>⟨oM,oM,λ_=>oM,λz=>absurd rfl z,λz=>absurd rfl z⟩⟩
end
end Go.Gm.AZ
namespace Go.Gm
def bt (S:ByteArray)(p:Nat):Option Nat:=(S[p]?).map UInt8.toNat
def md (c:Nat):Option Nat:=if c=119 then some 0 else if c=98 then some 1 else if c=99 then some 2 else if c=102 then some 3 else if c=116 then some 4 else none
def clsF (S:ByteArray):Nat->Nat->Nat->Option (Nat × Nat)
 |0,_,_=>none
 |f+1,p,s=>match bt S p with
  |none=>none
  |some c=>if c=93/\0<s then some (s,p+1) else match md c with
   |none=>none
   |some m=>clsF S f (p+1) (s ||| 2 ^ m)
def dig (c:Option Nat):Option Nat:=match c with
 |some c=>if 48<=c/\c<=57 then some (c-48) else none
 |none=>none
def tms (S:ByteArray)(p:Nat):Option (Nat × Nat × Nat):=match dig (bt S p),dig (bt S (p+2)) with
 |some a,some b=>if bt S (p+1)=some 44/\bt S (p+3)=some 125/\a<=b then some (a,b,p+4) else none
 |_,_=>none
inductive PM where
 |at|pc|pcl (n:Nd)|jn|jnl (l:List Nd)|un|unl (l:List Nd)
def finJ:List Nd->Nd
 |[n]=>n
 |l=>.join l
def finU:List Nd->Nd
 |[n]=>n
 |l=>.uni l
def prs (S:ByteArray):Nat->Nat->PM->Nat->Option (Nd × Nat)
 |0,_,_,_=>none
 |f+1,d,.at,p=>match bt S p with
  |none=>none
  |some c=>
   if c=40 then
    if 30<=d then none else match prs S f (d+1) .un (p+1) with
     |some (n,q)=>if bt S q=some 41 then some (n,q+1) else none
     |none=>none
   else match md c with
    |some m=>some (.set (2 ^ m),p+1)
    |none=>if c=46 then some (.set 31,p+1) else if c=48 then some (.emp,p+1) else if c=95 then some (.eps,p+1)
     else if c=91 then (match clsF S f (p+1) 0 with|some (s,q)=>some (.set s,q)|none=>none) else none
 |f+1,d,.pc,p=>match prs S f d .at p with
  |some (n,q)=>prs S f d (.pcl n) q
  |none=>none
 |f+1,d,.pcl n,p=>match bt S p with
  |none=>some (n,p)
  |some c=>if c=42 then prs S f d (.pcl (.star n)) (p+1) else if c=43 then prs S f d (.pcl (.plus n)) (p+1) else if c=63 then prs S f d (.pcl (.opt n)) (p+1)
   else if c=123 then (match tms S (p+1) with|some (a,b,q)=>prs S f d (.pcl (.rep a b n)) q|none=>none) else some (n,p)
 |f+1,d,.jn,p=>match prs S f d .pc p with
  |some (n,q)=>prs S f d (.jnl [n]) q
  |none=>none
 |f+1,d,.jnl l,p=>match bt S p with
  |none=>some (finJ l,p)
  |some c=>if c=124 then some (finJ l,p) else if c=41 then some (finJ l,p) else match prs S f d .pc p with
   |some (n,q)=>prs S f d (.jnl (l++[n])) q
   |none=>none
 |f+1,d,.un,p=>match prs S f d .jn p with
  |some (n,q)=>prs S f d (.unl [n]) q
  |none=>none
 |f+1,d,.unl l,p=>match bt S p with
  |none=>some (finU l,p)
  |some c=>if c=124 then match prs S f d .jn (p+1) with
    |some (n,q)=>prs S f d (.unl (l++[n])) q
    |none=>none
   else some (finU l,p)
abbrev U8 (n:Nat):AV:=.int .u8 n
theorem bt_ix {S:ByteArray}{p c:Nat}(h:bt S p=some c):ixS (.str S) (I p)=some (U8 c):=by
 simp only[bt,Option.map_eq_some_iff] at h
 obtain ⟨b,h1,rfl⟩:=h
 simp[ixS,h1]
theorem bt_lt {S:ByteArray}{p c:Nat}(h:bt S p=some c):p<S.size:=by
 simp only[bt,Option.map_eq_some_iff] at h
 obtain ⟨b,h1,rfl⟩:=h
 exact (getElem?_eq_some_iff.1 h1).1
theorem c4v {S:ByteArray}{p:Nat}(h:bt S p=none):S.size<=p:=by
 simp only[bt,Option.map_eq_none_iff] at h
 by_cases hp:p<S.size
 ·rw[getElem?_pos S p hp] at h; cases h
 ·omega
theorem equ_t {a:Nat}{b:Int}(h:(a:Int)=b):binV .eql .scalar (U8 a) (.int .u8 b)=some (.bool true):=by
 show some (AV.bool ((a:Int) == b))=_
 rw[h]; simp
theorem equ_f {a:Nat}{b:Int}(h:¬(a:Int)=b):binV .eql .scalar (U8 a) (.int .u8 b)=some (.bool false):=by
 show some (AV.bool ((a:Int) == b))=_
 simp[h]
theorem neu_t {a:Nat}{b:Int}(h:¬(a:Int)=b):binV .neq .scalar (U8 a) (.int .u8 b)=some (.bool true):=by
 show some (AV.bool ((a:Int) != b))=_
 simp[bne,h]
theorem neu_f {a:Nat}{b:Int}(h:(a:Int)=b):binV .neq .scalar (U8 a) (.int .u8 b)=some (.bool false):=by
 show some (AV.bool ((a:Int) != b))=_
 rw[h]; simp
theorem lsu_f {a:Nat}{b:Int}(h:¬(a:Int)<b):binV .lss .scalar (U8 a) (.int .u8 b)=some (.bool false):=by
 show some (AV.bool (decide ((a:Int)<b)))=_
 simp[h]
theorem gtu_f {a:Nat}{b:Int}(h:¬(a:Int) > b):binV .gtr .scalar (U8 a) (.int .u8 b)=some (.bool false):=by
 show some (AV.bool (decide ((a:Int) > b)))=_
 simp[h]
end Go.Gm
namespace Go.Gm.AZ
open Go Go.Gm
section
variable {S:ByteArray} {ro:Nat}
theorem a5W {h:Heap}{p d c:Nat}(hr:h[ro]?=some (.cells ⟨[.str S,I p,I d,I 0],0,0,false⟩))(hb:bt S p=some c) :
  Tot tab b6_ [.ptr ro 0 4 0] h λv h'=>v=.tup [U8 c,.bool true]/\h=h':=by
 refine WP.tot (a2r · ..) ?_
 have hlt:=bt_lt hb
 have hix:=bt_ix hb
 have hlb:lenB (.str S)=some (I S.size):=rfl
 refine g3 @hr @hlb @hix ?_
 exact WP.ret ⟨rfl,rfl⟩
theorem b6B {h:Heap}{p d:Nat}(hr:h[ro]?=some (.cells ⟨[.str S,I p,I d,I 0],0,0,false⟩))(hb:bt S p=none) :
  Tot tab b6_ [.ptr ro 0 4 0] h λv h'=>v=.tup [U8 0,.bool false]/\h=h':=by
 refine WP.tot (a2r · ..) ?_
 have hle:=c4v hb
 have hlb:lenB (.str S)=some (I S.size):=rfl
 refine g2 @hr @hlb ?_
 exact WP.ret ⟨rfl,rfl⟩
def mdI (c:Nat):Int:=match md c with
 |some m=>m
 |none=>-1
theorem a5w (h:Heap):Tot tab i9_ [U8 c] h λv h'=>v=I (mdI c)/\h=h':=by
 refine WP.tot (b0J · ..) ?_
 have hix:∀(i b:Nat),([119,98,99,102,116]:List Nat)[i]?=some b->ixS (.str ⟨#[119,98,99,102,116]⟩) (I (i:Int))=some (U8 b):=by
  intro i b hi
  have hi5:=(List.getElem?_eq_some_iff.1 hi).1
  simp only[List.length_cons,List.length_nil] at hi5
  have:i=0\/i=1\/i=2\/i=3\/i=4:=oM
  rcases this with rfl|rfl|rfl|rfl|rfl<;>(simp at hi; subst hi; rfl)
 have loop:∀(d i:Nat),i+d=5->(∀(j b:Nat),j<i->([119,98,99,102,116]:List Nat)[j]?=some b->c≠b)->WP (λp:Nat × Nat=>a0d p.1 p.2 (U8 c) (I i) h) λv h'=>v=I (mdI c)/\h=h':=by
  intro d
  induction d with
  |zero=>
   intro i hi hn
   refine WP.rnd (a4f · · ..) ?_
   refine g0 ?_
   refine WP.lv (WP.ret ⟨?_,rfl⟩) λi j=>rfl
   have h0:=hn 0 119 oM rfl
   have h1:=hn 1 98 oM rfl
   have h2:=hn 2 99 oM rfl
   have h3:=hn 3 102 oM rfl
   have h4:=hn 4 116 oM rfl
   simp[mdI,md,h0,h1,h2,h3,h4]
  |succ d ih=>
   intro i hi hn
   refine WP.rnd (a4f · · ..) ?_
   obtain ⟨b,hb⟩:∃b,([119,98,99,102,116]:List Nat)[i]?=some b:=⟨_,List.getElem?_eq_getElem (by simp; omega)⟩
   have hx:=hix i b hb
   by_cases hc:b=c
   ·subst hc
    have he:binV .eql .scalar (U8 b) (U8 b)=some (.bool true):=equ_t rfl
    refine g2 @hx @he ?_
    refine WP.lv (WP.ret ⟨?_,rfl⟩) λi j=>rfl
    have:i=0\/i=1\/i=2\/i=3\/i=4:=oM
    rcases this with rfl|rfl|rfl|rfl|rfl<;>(simp at hb; subst hb; rfl)
   ·have he:binV .eql .scalar (U8 b) (U8 c)=some (.bool false):=equ_f oM
    refine g2 @hx @he ?_
    refine ih (i+1) oM λj b' hj hb'=>?_
    by_cases hji:j=i
    ·subst hji
     rw[hb] at hb'; injection hb' with hb'
     subst hb'; exact λq=>hc q.symm
    ·exact hn j b' oM hb'
 try rw[show I 0=I ((0:Nat):Int) from rfl]
 exact WP.ent (loop 5 0 rfl λj b hj=>oM) λi=>rfl
theorem mdI_t (h:md c=some m):mdI c=m/\m<5:=by
 refine ⟨by simp[mdI,h],?_⟩
 simp only[md] at h
 split at h
 ·injection h; omega
 split at h
 ·injection h; omega
 split at h
 ·injection h; omega
 split at h
 ·injection h; omega
 split at h
 ·injection h; omega
 ·cases h
theorem mdI_f (h:md c=none):mdI c = -1:=by simp[mdI,h]
def PR (S:ByteArray)(ro:Nat)(h:Heap)(d:Nat)(n:Nd)(q:Nat)(v:AV)(h':Heap):Prop:=
 FrS (λo=>o=ro) h h'/\h'[ro]?=some (.cells ⟨[.str S,I q,I d,I 0],0,0,false⟩)/\∃c5,v=.agg c5/\NVD h' (λo=>h.length<=o/\o<h'.length) n c5
theorem PR.fin {h H:Heap}{d q:Nat}{n:Nd}{c5:List AV}(hro:ro<h.length)(f:FrS (λo=>o=ro) h H)(hr:H[ro]?=some (.cells ⟨[.str S,I q,I d,I 0],0,0,false⟩))(nv:NVD H (λo=>h.length<o/\o<H.length) n c5) :
  PR S ro h d n q (.agg c5) (H.set h.length (.cells ⟨c5,0,0,false⟩)):=by
 refine ⟨⟨by simp; exact f.len,λo h1 h2=>?_⟩,?_,c5,rfl,nv.frs (FrS.set1 H h.length _) (λo h1 h2 h3=>oM) λo h1 h2=>⟨oM,by simp; exact h1⟩⟩
 ·rw[List.getElem?_set_ne oM]; exact f.get h1 h2
 ·rw[List.getElem?_set_ne oM]; exact hr
theorem a5X (f:FrS (λo=>o=ro) h H)(x:AObj):FrS (λo=>o=ro) h (H.set ro x):=
 ⟨by simp; exact f.len,λo h1 h2=>by rw[List.getElem?_set_ne (λq=>h1 q.symm)]; exact f.get h1 h2⟩
theorem c5f {h:Heap}(hro:ro<h.length){d:Nat}:∀(f p s s' q:Nat) (H:Heap),clsF S f p s=some (s',q)->S.size<=200->s<32->FrS (λo=>o=ro) h H->H[ro]?=some (.cells ⟨[.str S,I p,I d,I 0],0,0,false⟩)->H[h.length]?=some (.cells ⟨[I 0,I 0,I 0,I 0,.nils],0,0,false⟩)->
  WP (λp':Nat × Nat=>l6_ p'.1 p'.2 (.ptr ro 0 4 0) (.ptr h.length 0 5 0) (I s) H) (PR S ro h d (.set s') q):=by
 intro f
 induction f with
 |zero=>intro p s s' q H hc; simp[clsF] at hc
 |succ f ih=>
  intro p s s' q H hc hS hs fr hr ht
  refine WP.rnd (a5l · · ..) ?_
  have hlen:=fr.len
  have hHl:h.length<H.length:=(List.getElem?_eq_some_iff.1 ht).1
  simp only[clsF] at hc
  cases hb:bt S p with
  |none=>rw[hb] at hc; cases hc
  |some c=>
   rw[hb] at hc
   simp only at hc
   have hp:=bt_lt hb
   refine WP.call (a5W hr hb) ?_
   rintro _ _ ⟨rfl,rfl⟩
   have hne:¬ro=h.length:=oM
   have hne':¬h.length=ro:=oM
   by_cases h93:c=93/\0<s
   ·rw[if_pos h93] at hc
    injection hc with hc
    injection hc with hc1 hc2
    subst hc1 hc2
    obtain ⟨rfl,hs0⟩:=h93
    have he:binV .eql .scalar (U8 93) (.int .u8 93)=some (.bool true):=equ_t rfl
    have hg:binV .gtr .scalar (I (s:Int)) (I 0)=some (.bool true):=gtr_t oM
    have hrl:ro<H.length:=oM
    refine g5 @a1_ @he @hg @hr @ht ?_
    refine WP.lv (WP.ret ?_) λi j=>rfl
    refine PR.fin hro (a5X fr _) (by rw[List.getElem?_set_self hrl]; simp) (a9f (n:=.set s) rfl)
   ·rw[if_neg h93] at hc
    cases hm:md c with
    |none=>rw[hm] at hc; cases hc
    |some m=>
     rw[hm] at hc
     simp only at hc
     obtain ⟨hmi,hm5⟩:=mdI_t hm
     have hor:s ||| 2 ^ m<32:=Nat.or_lt_two_pow (n:=5) hs (Nat.pow_lt_pow_right oM hm5)
     have hori:=or_i (a:=s) (b:=2 ^ m) oM (Nat.pow_lt_pow_right oM oM)
     have hrl:ro<H.length:=oM
     have h93':¬((c:Int)=93):=by
      rintro q
      have:c=93:=oM
      subst this; simp[md] at hm
     have he:=equ_f h93'
     refine g2 @a1_ @he ?_
     refine WP.call (a5w H) ?_
     rintro _ _ ⟨rfl,rfl⟩
     rw[hmi]
     refine g0 ?_
     refine WP.call (a5w H) ?_
     rintro _ _ ⟨rfl,rfl⟩
     rw[hmi]
     have hcv:convV .u64 (I (m:Int))=some (.int .u64 m):=a5n oM oM
     have hsh:binV .shl .scalar (I 1) (.int .u64 (m:Int))=some (I ((2 ^ m:Nat):Int)):=by
      have:=shl_i (k:=.u64) (m:=(m:Int)) oM oM
      simpa using this
     refine g4 @hcv @hsh @hori @hr ?_
     refine ih (p+1) (s ||| 2 ^ m) s' q _ hc hS hor (a5X fr _) (by rw[List.getElem?_set_self hrl]; simp) (by rw[List.getElem?_set_ne hne]; exact ht)
theorem c1U {h:Heap}{f p d s' q:Nat}(hS:S.size<=200)(hc:clsF S f p 0=some (s',q))(hr:h[ro]?=some (.cells ⟨[.str S,I p,I d,I 0],0,0,false⟩)) :
  Tot tab n3_ [.ptr ro 0 4 0] h (PR S ro h d (.set s') q):=by
 refine WP.tot (a6p · ..) ?_
 have hro:=(List.getElem?_eq_some_iff.1 hr).1
 have e1:Ext h (h++[AObj.cells ⟨[I 0,I 0,I 0,I 0,.nils],0,0,false⟩]):=Ext.push _ _
 refine g0 ?_
 exact WP.ent (c5f hro f p 0 s' q _ hc hS (by omega) (FrS.ofExt e1) (e1.get hr) (by simp)) fun i=>rfl
theorem subu {a:Nat}(h:48<=a)(h2:a<=57):binV .sub .scalar (U8 a) (.int .u8 48)=some (U8 (a-48)):=by
 show some (AV.int .u8 (IntKind.u8.wrap ((a:Int)-48)))=_
 congr 2
 simp[IntKind.wrap,IntKind.bits,IntKind.signed]
 omega
theorem convu {a:Nat}(h:a<=255):convV .i64 (U8 a)=some (I a):=by
 show some (I (IntKind.i64.wrap (a:Int)))=_
 rw[d6_ oM oM]
theorem b6C {o n:Nat}{i:Int}(h0:0<=i)(h1:i<n):idxA n 1 (.ptr o 0 n 0) (I i)=some (.ptr o (i.toNat) (i.toNat+1) 0):=by
 simp[idxA,h0,h1]
theorem b6D {dd n3 t4:Nat}{at_:AV}{H:Heap}{i p d c:Nat}{x y:AV}{Q:AV->Heap->Prop}(hi:i<2)(hS:S.size<=200)(hb:bt S p=some c)(h48:48<=c)(h57:c<=57)(hs:bt S (p+1)=some (if i=0 then 44 else 125))(hr:H[ro]?=some (.cells ⟨[.str S,I p,I d,I 0],0,0,false⟩))(hd:H[dd]?=some (.cells ⟨[x,y],0,0,false⟩))(hne:ro≠dd)(hK:∀H',FrS (λo=>o=ro\/o=dd) H H'->H'.length=H.length->H'[ro]?=some (.cells ⟨[.str S,I ((p+2:Nat):Int),I d,I 0],0,0,false⟩)->H'[dd]?=some (.cells ⟨[x,y].set i (I ((c-48:Nat):Int)),0,0,false⟩)->
   WP (λp':Nat × Nat=>g8_ p'.1 p'.2 (.ptr ro 0 4 0) (.ptr n3 0 5 0) (.ptr t4 0 5 0) at_ (.ptr dd 0 2 0) (I ((i+1:Nat):Int)) H') Q) :
  WP (λp':Nat × Nat=>g8_ p'.1 p'.2 (.ptr ro 0 4 0) (.ptr n3 0 5 0) (.ptr t4 0 5 0) at_ (.ptr dd 0 2 0) (I i) H) Q:=by
 refine WP.rnd (a0N · · ..) ?_
 have hp:=bt_lt hb
 have hp1:=bt_lt hs
 have hrl:=(List.getElem?_eq_some_iff.1 hr).1
 have hdl:=(List.getElem?_eq_some_iff.1 hd).1
 refine g0 ?_
 refine WP.call (a5W hr hb) ?_
 rintro _ _ ⟨rfl,rfl⟩
 have a1:=lsu_f (a:=c) (b:=48) oM
 have a2:=gtu_f (a:=c) (b:=57) oM
 have a3:=subu h48 h57
 have a4:convV .i64 (U8 (c-48))=some (I ((c-48:Nat):Int)):=convu oM
 have a5:=b6C (o:=dd) (n:=2) (i:=(i:Int)) oM oM
 have hi2:i=0\/i=1:=oM
 have hne':¬dd=ro:=λq=>hne q.symm
 rcases hi2 with rfl|rfl
 ·have hs':bt S (p+1)=some 44:=by simpa using hs
  simp -implicitDefEqProofs (disch:=first|assumption|omega|(simp only[gL,gA]<;>omega)|fail) only[cG,reduceIte,a1_,a1,a2,a3,a4,a5,hr,hd]
  obtain ⟨H1,hH1⟩:∃H1,H1=(H.set dd (.cells ⟨[I ((c-48:Nat):Int),y],0,0,false⟩)).set ro (.cells ⟨[.str S,I ((p:Int)+1),I d,I 0],0,0,false⟩):=⟨_,rfl⟩
  have r1:H1[ro]?=some (.cells ⟨[.str S,I ((p+1:Nat):Int),I d,I 0],0,0,false⟩):=by rw[hH1,List.getElem?_set_self (by simp; exact hrl)]; rfl
  have d1:H1[dd]?=some (.cells ⟨[I ((c-48:Nat):Int),y],0,0,false⟩):=by rw[hH1,List.getElem?_set_ne hne,List.getElem?_set_self hdl]
  have f1:FrS (λo=>o=ro\/o=dd) H H1:=⟨by rw[hH1]; simp,λo h1 h2=>by rw[hH1,List.getElem?_set_ne (λq=>h1 (.inl q.symm)),List.getElem?_set_ne (λq=>h1 (.inr q.symm))]⟩
  have l1:H1.length=H.length:=by rw[hH1]; simp
  rw[<-hH1]
  refine WP.call (a5W r1 hs') ?_
  rintro _ _ ⟨rfl,rfl⟩
  have b1:=neu_f (a:=44) (b:=44) rfl
  have hrl1:ro<H1.length:=oM
  refine g3 @a1_ @b1 @r1 ?_
  refine hK _ ⟨by simp; omega,λo h1 h2=>?_⟩ (by simp; exact l1) (by rw[List.getElem?_set_self hrl1]; rfl) (by rw[List.getElem?_set_ne hne]; exact d1)
  rw[List.getElem?_set_ne (λq=>h1 (.inl q.symm))]
  exact f1.get h1 h2
 ·have hs':bt S (p+1)=some 125:=by simpa using hs
  simp -implicitDefEqProofs (disch:=first|assumption|omega|(simp only[gL,gA]<;>omega)|fail) only[cG,reduceIte,a1_,a1,a2,a3,a4,a5,hr,hd]
  obtain ⟨H1,hH1⟩:∃H1,H1=(H.set dd (.cells ⟨[x,I ((c-48:Nat):Int)],0,0,false⟩)).set ro (.cells ⟨[.str S,I ((p:Int)+1),I d,I 0],0,0,false⟩):=⟨_,rfl⟩
  have r1:H1[ro]?=some (.cells ⟨[.str S,I ((p+1:Nat):Int),I d,I 0],0,0,false⟩):=by rw[hH1,List.getElem?_set_self (by simp; exact hrl)]; rfl
  have d1:H1[dd]?=some (.cells ⟨[x,I ((c-48:Nat):Int)],0,0,false⟩):=by rw[hH1,List.getElem?_set_ne hne,List.getElem?_set_self hdl]
  have f1:FrS (λo=>o=ro\/o=dd) H H1:=⟨by rw[hH1]; simp,λo h1 h2=>by rw[hH1,List.getElem?_set_ne (λq=>h1 (.inl q.symm)),List.getElem?_set_ne (λq=>h1 (.inr q.symm))]⟩
  have l1:H1.length=H.length:=by rw[hH1]; simp
  rw[<-hH1]
  refine WP.call (a5W r1 hs') ?_
  rintro _ _ ⟨rfl,rfl⟩
  have b1:=neu_f (a:=125) (b:=125) rfl
  have hrl1:ro<H1.length:=oM
  refine g3 @a1_ @b1 @r1 ?_
  refine hK _ ⟨by simp; omega,λo h1 h2=>?_⟩ (by simp; exact l1) (by rw[List.getElem?_set_self hrl1]; rfl) (by rw[List.getElem?_set_ne hne]; exact d1)
  rw[List.getElem?_set_ne (λq=>h1 (.inl q.symm))]
  exact f1.get h1 h2
theorem c3z {p a b q:Nat}(h:tms S p=some (a,b,q)):∃c0 c1,bt S p=some c0/\48<=c0/\c0<=57/\a=c0-48/\bt S (p+1)=some 44/\bt S (p+2)=some c1/\48<=c1/\c1<=57/\b=c1-48/\bt S (p+3)=some 125/\a<=b/\q=p+4:=by
 have hd:∀{x:Option Nat} {m:Nat},dig x=some m->∃c,x=some c/\48<=c/\c<=57/\m=c-48:=by
  intro x m hx
  cases x with
  |none=>simp[dig] at hx
  |some c=>
   simp only[dig] at hx
   split at hx
   ·rename_i hc
    injection hx with hx
    exact ⟨c,rfl,hc.1,hc.2,hx.symm⟩
   ·cases hx
 simp only[tms] at h
 split at h
 ·rename_i x y h1 h2
  split at h
  ·rename_i hc
   injection h with h
   injection h with h3 h4
   injection h4 with h4 h5
   subst h3 h4 h5
   obtain ⟨c0,k1,k2,k3,k4⟩:=hd h1
   obtain ⟨c1,m1,m2,m3,m4⟩:=hd h2
   exact ⟨c0,c1,k1,k2,k3,k4,hc.1,m1,m2,m3,m4,hc.2.1,hc.2.2,rfl⟩
  ·cases h
 ·cases h
theorem c1V {h:Heap}{p d a b q:Nat}(hS:S.size<=200)(hc:tms S p=some (a,b,q))(hp0:0<p)(hr:h[ro]?=some (.cells ⟨[.str S,I p,I d,I 0],0,0,false⟩))(nv:NVD h D n c5)(hD:∀o,D o->o≠ro) :
  Tot tab h9_ [.ptr ro 0 4 0,.agg c5] h λv h'=>FrS (λo=>o=ro) h h'/\h'[ro]?=some (.cells ⟨[.str S,I q,I d,I 0],0,0,false⟩)/\∃c,v=.agg c/\NVD h' (λo=>(D o/\o<h.length)\/(h.length<=o/\o<h'.length)) (.rep a b n) c:=by
 refine WP.tot (a6o · ..) ?_
 obtain ⟨c0,c1,k1,k2,k3,rfl,k5,m1,m2,m3,rfl,m5,hab,rfl⟩:=c3z hc
 have hro:=(List.getElem?_eq_some_iff.1 hr).1
 have hp:=bt_lt k1
 obtain ⟨s5,rfl,ho5⟩:=nv.inv
 obtain ⟨H,hH⟩:∃H,H=((h++[AObj.cells ⟨[I n.kind,I n.st,I n.lo,I n.hi,s5],0,0,false⟩])++[AObj.cells ⟨[I 0,I 0,I 0,I 0,.nils],0,0,false⟩])++[AObj.cells ⟨[I 0,I 0],0,0,false⟩]:=⟨_,rfl⟩
 have eH:Ext h H:=by rw[hH]; exact eX
 have x0:H[h.length]?=some (.cells ⟨[I n.kind,I n.st,I n.lo,I n.hi,s5],0,0,false⟩):=by rw[hH]; simp
 have x1:H[h.length+1]?=some (.cells ⟨[I 0,I 0,I 0,I 0,.nils],0,0,false⟩):=by rw[hH]; simp
 have x2:H[h.length+2]?=some (.cells ⟨[I 0,I 0],0,0,false⟩):=by rw[hH]; simp
 have hl:H.length=h.length+3:=by rw[hH]; simp
 have hrH:=eH.get hr
 have hp2:h.length+1+1=h.length+2:=rfl
 refine g3 @ho5 @hr @hp2 ?_
 rw[<-hH,show I 0=I ((0:Nat):Int) from rfl]
 refine WP.ent (b6D (i:=0) (p:=p) (d:=d) (c:=c0) oM hS k1 k2 k3 (by simpa using k5) hrH x2 oM λH1 f1 l1 r1 d1=>?_) λi=>rfl
 refine b6D (i:=1) (p:=p+2) (d:=d) (c:=c1) (x:=I ((c0-48:Nat):Int)) (y:=I 0) oM hS m1 m2 m3 (by simpa using m5) r1 d1 oM λH2 f2 l2 r2 d2=>?_
 refine WP.rnd (a0N · · ..) ?_
 refine g0 ?_
 refine WP.lv (WP.congr (a5k · ..) ?_) λi j=>rfl
 have f12:=f1.trans f2
 have y0:H2[h.length]?=some (.cells ⟨[I n.kind,I n.st,I n.lo,I n.hi,s5],0,0,false⟩):=(f12.get oM oM).trans x0
 have y1:H2[h.length+1]?=some (.cells ⟨[I 0,I 0,I 0,I 0,.nils],0,0,false⟩):=(f12.get oM oM).trans x1
 have y2:H2[h.length+2]?=some (.cells ⟨[I ((c0-48:Nat):Int),I ((c1-48:Nat):Int)],0,0,false⟩):=d2
 have a0:=b6C (o:=h.length+2) (n:=2) (i:=0) oM oM
 have a1:=b6C (o:=h.length+2) (n:=2) (i:=1) oM oM
 have hl2:H2.length=h.length+3:=oM
 refine g8 @a0 @a1 @y0 @y1 @y2 @ho5 (show Int.toNat 0=0 from rfl) (show Int.toNat 1=1 from rfl) ?_
 have nvH:NVD H (λo=>D o/\o<h.length) n [I n.kind,I n.st,I n.lo,I n.hi,s5]:=nv.ext eH λo h1 h2=>⟨h2,h1⟩
 have nv2:NVD H2 (λo=>D o/\o<h.length) n [I n.kind,I n.st,I n.lo,I n.hi,s5]:=nvH.frs f12 (λo h1 h2 h3=>by
  rcases h3 with h3|h3
  ·exact hD o h2.1 h3
  ·omega) λ_ _ z=>z
 have e3:Ext H2 (H2++[AObj.cells ⟨[I n.kind,I n.st,I n.lo,I n.hi,s5],0,0,false⟩]):=Ext.push _ _
 have row3:(H2++[AObj.cells ⟨[I n.kind,I n.st,I n.lo,I n.hi,s5],0,0,false⟩])[H2.length]?=some (.cells ⟨[I n.kind,I n.st,I n.lo,I n.hi,s5],0,0,false⟩):=by simp
 generalize H2++[AObj.cells ⟨[I n.kind,I n.st,I n.lo,I n.hi,s5],0,0,false⟩]=H3 at *
 have l3:=e3.len
 have f3:∀(x:AObj),FrS (λo=>o=h.length+1) H3 (H3.set (h.length+1) x):=λx=>FrS.set1 ..
 have row3l:=(List.getElem?_eq_some_iff.1 row3).1
 have nv3:∀x,NVD (H3.set (h.length+1) x) (λo=>D o/\o<h.length) n [I n.kind,I n.st,I n.lo,I n.hi,s5]:=λx=>
  (nv2.ext e3 (D':=λo=>D o/\o<h.length) λ_ _ z=>z).frs (f3 x) (λo h1 h2 h3=>oM) λ_ _ z=>z
 refine WP.ret ⟨⟨by simp; omega,λo h1 h2=>?_⟩,?_,_,rfl,.mk (n:=.rep (c0-48) (c1-48) n) (css:=[[I n.kind,I n.st,I n.lo,I n.hi,s5]]) (b6y (by rw[List.getElem?_set_ne oM]; simpa using row3) rfl (by simp)) (λ_=>?_) ?_⟩
 ·rw[List.getElem?_set_ne oM,(a3i.1 e3).2 o oM,f12.get oM oM,(a3i.1 eH).2 o h2]
 ·rw[List.getElem?_set_ne oM]
  exact e3.get r2
 ·exact .inr ⟨by simp[AV.obj]; omega,by simp[AV.obj]; omega⟩
 ·refine .cons ((nv3 _).frs (FrS.refl (λ_=>False) _) (λ_ _ _ z=>z) λo _ z=>.inl z) .nil
end
end Go.Gm.AZ
namespace Go.Gm.AZ
open Go Go.Gm
abbrev RD (S:ByteArray)(p d:Nat):AObj:=.cells ⟨[.str S,I p,I d,I 0],0,0,false⟩
abbrev Z5:AObj:=.cells ⟨[I 0,I 0,I 0,I 0,.nils],0,0,false⟩
section
variable (S:ByteArray) (ro:Nat) (f:Nat)
def AtS:Prop:=∀(d p:Nat) (n:Nd) (q:Nat) (h:Heap),prs S f d .at p=some (n,q)->d<=30->h[ro]?=some (RD S p d)->Tot tab z2_ [.ptr ro 0 4 0] h (PR S ro h d n q)
def PcS:Prop:=∀(d p:Nat) (n:Nd) (q:Nat) (h:Heap),prs S f d .pc p=some (n,q)->d<=30->h[ro]?=some (RD S p d)->Tot tab f1_ [.ptr ro 0 4 0] h (PR S ro h d n q)
def JnS:Prop:=∀(d p:Nat) (n:Nd) (q:Nat) (h:Heap),prs S f d .jn p=some (n,q)->d<=30->h[ro]?=some (RD S p d)->Tot tab f4_ [.ptr ro 0 4 0] h (PR S ro h d n q)
def UnS:Prop:=∀(d p:Nat) (n:Nd) (q:Nat) (h:Heap),prs S f d .un p=some (n,q)->d<=30->h[ro]?=some (RD S p d)->Tot tab f0_ [.ptr ro 0 4 0] h (PR S ro h d n q)
def PclS:Prop:=∀(d p:Nat) (n m:Nd) (q:Nat) (h H:Heap) (no:Nat) (c5:List AV),prs S f d (.pcl n) p=some (m,q)->d<=30->ro<h.length->FrS (λo=>o=ro) h H->H[ro]?=some (RD S p d)->H[h.length]?=some Z5->h.length<no->H[no]?=some (.cells ⟨c5,0,0,false⟩)->
 NVD H (λo=>h.length<o/\o<H.length/\o≠no) n c5->WP (λp':Nat × Nat=>e3_ p'.1 p'.2 (.ptr ro 0 4 0) (.ptr h.length 0 5 0) (.ptr no 0 5 0) H) (PR S ro h d m q)
structure NL (S:ByteArray) (ro:Nat) (h H:Heap) (d p:Nat) (s:AV) (lg:Nat) (l:List Nd) (css:List (List AV)):Prop where
 hro:ro<h.length
 fr:FrS (λo=>o=ro) h H
 hr:H[ro]?=some (RD S p d)
 ht:H[h.length]?=some Z5
 gr:Gr lg (lg+1) H 5 s css
 lgl:h.length<lg/\lg<H.length
 nn:s≠.nils
 nvs:NVDs H (λo=>h.length<o/\o<H.length/\o≠lg) l css
def JnlS:Prop:=∀(d p:Nat) (l:List Nd) (m:Nd) (q:Nat) (h H:Heap) (s:AV) (lg:Nat) (css:List (List AV)),prs S f d (.jnl l) p=some (m,q)->d<=30->l≠[]->l.length+f<=1000000->NL S ro h H d p s lg l css->
 WP (λp':Nat × Nat=>n1_ p'.1 p'.2 (.ptr ro 0 4 0) (.ptr h.length 0 5 0) s H) (PR S ro h d m q)
def UnlS:Prop:=∀(d p:Nat) (l:List Nd) (m:Nd) (q:Nat) (h H:Heap) (s:AV) (lg:Nat) (css:List (List AV)),prs S f d (.unl l) p=some (m,q)->d<=30->l≠[]->l.length+f<=1000000->NL S ro h H d p s lg l css->
 WP (λp':Nat × Nat=>k9_ p'.1 p'.2 (.ptr ro 0 4 0) (.ptr h.length 0 5 0) s H) (PR S ro h d m q)
end
section
variable {S:ByteArray} {ro:Nat} {f:Nat}
theorem b9e (hU:UnS S ro f)(hS:S.size<=200){h:Heap}{p d q:Nat}{n:Nd}(hu:prs S f (d+1) .un p=some (n,q))(h41:bt S q=some 41)(hd:d<30)(hr:h[ro]?=some (RD S p d)) :
  Tot tab x4_ [.ptr ro 0 4 0] h (PR S ro h d n (q+1)):=by
 refine WP.tot (fun k=>a6q k _ h) ?_
 have hro:=(List.getElem?_eq_some_iff.1 hr).1
 have hq:=bt_lt h41
 obtain ⟨H1,hH1⟩:∃H1,H1=(h++[Z5]).set ro (.cells ⟨[.str S,I p,I ((d:Int)+1),I 0],0,0,false⟩):=⟨_,rfl⟩
 have r1:H1[ro]?=some (RD S p (d+1)):=by rw[hH1,List.getElem?_set_self (by simp; omega)]; rfl
 have t1:H1[h.length]?=some Z5:=by rw[hH1,List.getElem?_set_ne (by omega)]; simp
 have f1:FrS (fun o=>o=ro) h H1:=by rw[hH1]; exact a5X (FrS.ofExt (Ext.push _ _)) _
 have l1:H1.length=h.length+1:=by rw[hH1]; simp
 simp -implicitDefEqProofs (disch:=first|assumption|omega|(simp only[gL,gA]<;>omega)|fail) only[cG,reduceIte,hr]
 rw[<-hH1]
 refine WP.call (hU (d+1) p n q H1 hu (by omega) r1) ?_
 rintro _ H2 ⟨f2,r2,c5,rfl,nv⟩
 obtain ⟨s5,rfl,ho5⟩:=nv.inv
 have l2:=f2.len
 have t2:H2[h.length]?=some Z5:=(f2.get (by omega) (by omega)).trans t1
 have e3:Ext H2 (H2++[AObj.cells ⟨[I n.kind,I n.st,I n.lo,I n.hi,s5],0,0,false⟩]):=Ext.push _ _
 have r3:=e3.get r2
 have t3:=e3.get t2
 have x3:(H2++[AObj.cells ⟨[I n.kind,I n.st,I n.lo,I n.hi,s5],0,0,false⟩])[H2.length]?=some (.cells ⟨[I n.kind,I n.st,I n.lo,I n.hi,s5],0,0,false⟩):=by simp
 simp -implicitDefEqProofs (disch:=first|assumption|omega|(simp only[gL,gA]<;>omega)|fail) only[cG,reduceIte,ho5,c9_]
 have f3:FrS (fun o=>o=ro) h (H2++[AObj.cells ⟨[I n.kind,I n.st,I n.lo,I n.hi,s5],0,0,false⟩]):=(f1.trans f2).trans (FrS.ofExt e3)
 have nv3:=nv.ext e3 (D':=fun o=>h.length<o/\o<H2.length) fun o h1 h2=>by omega
 have l3:H2.length<(H2++[AObj.cells ⟨[I n.kind,I n.st,I n.lo,I n.hi,s5],0,0,false⟩]).length:=by simp
 generalize H2++[AObj.cells ⟨[I n.kind,I n.st,I n.lo,I n.hi,s5],0,0,false⟩]=H3 at *
 refine WP.call (a5W r3 h41) ?_
 rintro _ _ ⟨rfl,rfl⟩
 have b1:=neu_f (a:=41) (b:=41) rfl
 have hne:¬ro=h.length:=by omega
 have hne2:¬ro=H2.length:=by omega
 have hrl:ro<H3.length:=by omega
 have hd1:((d+1:Nat):Int)-1=d:=by omega
 simp -implicitDefEqProofs (disch:=first|assumption|omega|(simp only[gL,gA]<;>omega)|fail) only[cG,reduceIte,a1_,b1,r3,hd1,x3,ho5,t3]
 refine WP.ret (PR.fin hro (a5X (a5X f3 _) _) ?_ ((nv3.frs (FrS.set1 H3 ro _) (D':=fun o=>h.length<o/\o<H3.length) (fun o h1 h2 h3=>by omega) (fun o h1 h2=>by omega)).frs (FrS.set1 _ ro _) (fun o h1 h2 h3=>by omega) fun o h1 h2=>by simp; omega))
 rw[List.getElem?_set_self (by simp; exact hrl)]
 rfl
theorem c3A (hU:UnS S ro f)(hS:S.size<=200):AtS S ro (f+1):=by
 intro d p n q h hp hd hr
 refine WP.tot (a6N · ..) ?_
 have hro:=(List.getElem?_eq_some_iff.1 hr).1
 have e1:Ext h (h++[Z5]):=Ext.push _ _
 have r1:=e1.get hr
 have t1:(h++[Z5])[h.length]?=some Z5:=by simp
 have f1:FrS (λo=>o=ro) h (h++[Z5]):=FrS.ofExt e1
 have l1:(h++[Z5]).length=h.length+1:=by simp
 rw[prs] at hp
 cases hb:bt S p with
 |none=>rw[hb] at hp; cases hp
 |some c=>
 rw[hb] at hp
 simp only at hp
 have hlt:=bt_lt hb
 refine g0 ?_
 generalize h++[Z5]=H1 at *
 refine WP.call (a5W r1 hb) ?_
 rintro _ _ ⟨rfl,rfl⟩
 have hne:¬ro=h.length:=oM
 have hrl:ro<H1.length:=oM
 obtain ⟨H2,hH2⟩:∃H2,H2=H1.set ro (.cells ⟨[.str S,I ((p:Int)+1),I d,I 0],0,0,false⟩):=⟨_,rfl⟩
 have r2:H2[ro]?=some (RD S (p+1) d):=by rw[hH2,List.getElem?_set_self hrl]; rfl
 have t2:H2[h.length]?=some Z5:=by rw[hH2,List.getElem?_set_ne hne]; exact t1
 have f2:FrS (λo=>o=ro) h H2:=by rw[hH2]; exact a5X f1 _
 have l2:H2.length=h.length+1:=by rw[hH2]; simp; exact l1
 have leaf:∀{n:Nd},n.kids=[]->PR S ro h d n (p+1) (.agg [I n.kind,I n.st,I n.lo,I n.hi,.nils]) (H2.set h.length (.cells ⟨[I n.kind,I n.st,I n.lo,I n.hi,.nils],0,0,false⟩)):=λhk=>PR.fin hro f2 r2 (a9f hk)
 have callee:∀{n:Nd} {q:Nat} {v:AV} {H3:Heap},PR S ro H2 d n q v H3->∃s5,v=.agg [I n.kind,I n.st,I n.lo,I n.hi,s5]/\s5.one=true/\H3[h.length]?=some Z5/\h.length<H3.length/\PR S ro h d n q v (H3.set h.length (.cells ⟨[I n.kind,I n.st,I n.lo,I n.hi,s5],0,0,false⟩)):=by
  rintro n q v H3 ⟨f3,r3,c5,rfl,nv⟩
  obtain ⟨s5,rfl,ho5⟩:=nv.inv
  have:=f3.len
  exact ⟨s5,rfl,ho5,(f3.get oM oM).trans t2,oM,PR.fin hro (f2.trans f3) r3 (nv.frs (FrS.refl (λ_=>False) _) (λ_ _ _ z=>z) λo h1 h2=>oM)⟩
 by_cases h40:c=40
 ·subst h40
  rw[if_pos rfl] at hp
  by_cases h30:30<=d
  ·rw[if_pos h30] at hp; cases hp
  rw[if_neg h30] at hp
  cases hu:prs S f (d+1) .un (p+1) with
  |none=>rw[hu] at hp; cases hp
  |some x=>
  obtain ⟨n',q'⟩:=x
  rw[hu] at hp
  simp only at hp
  by_cases h41:bt S q'=some 41
  ·rw[if_pos h41] at hp
   injection hp with hp
   injection hp with hp1 hp2
   subst hp1 hp2
   have a1:=equ_t (a:=40) (b:=40) rfl
   have a2:=equ_f (a:=40) (b:=46) oM
   have a3:=equ_f (a:=40) (b:=48) oM
   have a4:=equ_f (a:=40) (b:=95) oM
   have a5:=equ_f (a:=40) (b:=91) oM
   refine g3 @a1_ @a1 @r1 ?_
   rw[<-hH2]
   refine WP.call (a5w H2) ?_
   rintro _ _ ⟨rfl,rfl⟩
   rw[show mdI 40 = -1 from rfl]
   refine g5 @a1 @a2 @a3 @a4 @a5 ?_
   refine WP.call (b9e hU hS hu h41 oM r2) ?_
   rintro v H3 hv
   obtain ⟨s5,rfl,ho5,t3,hl3,res⟩:=callee hv
   refine g2 @t3 @ho5 ?_
   exact WP.ret res
  ·rw[if_neg h41] at hp; cases hp
 ·rw[if_neg h40] at hp
  have a1:=equ_f (a:=c) (b:=40) oM
  cases hm:md c with
  |some m=>
   rw[hm] at hp
   injection hp with hp
   injection hp with hp1 hp2
   subst hp1 hp2
   obtain ⟨hmi,hm5⟩:=mdI_t hm
   refine g3 @a1_ @a1 @r1 ?_
   rw[<-hH2]
   refine WP.call (a5w H2) ?_
   rintro _ _ ⟨rfl,rfl⟩
   rw[hmi]
   refine g0 ?_
   refine WP.call (a5w _) ?_
   rintro _ _ ⟨rfl,rfl⟩
   rw[hmi]
   have hcv:convV .u64 (I (m:Int))=some (.int .u64 m):=a5n oM oM
   have hsh:binV .shl .scalar (I 1) (.int .u64 (m:Int))=some (I ((2 ^ m:Nat):Int)):=by
    have:=shl_i (k:=.u64) (m:=(m:Int)) oM oM
    simpa using this
   refine g3 @hcv @hsh @t2 ?_
   exact WP.ret (leaf (n:=.set (2 ^ m)) rfl)
  |none=>
   rw[hm] at hp
   simp only at hp
   have hmi:=mdI_f hm
   refine g3 @a1_ @a1 @r1 ?_
   rw[<-hH2]
   refine WP.call (a5w H2) ?_
   rintro _ _ ⟨rfl,rfl⟩
   rw[hmi]
   by_cases h46:c=46
   ·subst h46
    rw[if_pos rfl] at hp
    injection hp with hp
    injection hp with hp1 hp2
    subst hp1 hp2
    have a2:=equ_t (a:=46) (b:=46) rfl
    refine g2 @a2 @t2 ?_
    exact WP.ret (leaf (n:=.set 31) rfl)
   rw[if_neg h46] at hp
   have a2:=equ_f (a:=c) (b:=46) oM
   by_cases h48:c=48
   ·subst h48
    rw[if_pos rfl] at hp
    injection hp with hp
    injection hp with hp1 hp2
    subst hp1 hp2
    have a3:=equ_t (a:=48) (b:=48) rfl
    refine g3 @a2 @a3 @t2 ?_
    exact WP.ret (leaf (n:=.emp) rfl)
   rw[if_neg h48] at hp
   have a3:=equ_f (a:=c) (b:=48) oM
   by_cases h95:c=95
   ·subst h95
    rw[if_pos rfl] at hp
    injection hp with hp
    injection hp with hp1 hp2
    subst hp1 hp2
    have a4:=equ_t (a:=95) (b:=95) rfl
    refine g4 @a2 @a3 @a4 @t2 ?_
    exact WP.ret (leaf (n:=.eps) rfl)
   rw[if_neg h95] at hp
   have a4:=equ_f (a:=c) (b:=95) oM
   by_cases h91:c=91
   ·subst h91
    rw[if_pos rfl] at hp
    cases hcl:clsF S f (p+1) 0 with
    |none=>rw[hcl] at hp; cases hp
    |some x=>
    obtain ⟨s',q'⟩:=x
    rw[hcl] at hp
    injection hp with hp
    injection hp with hp1 hp2
    subst hp1 hp2
    have a5:=equ_t (a:=91) (b:=91) rfl
    refine g4 @a2 @a3 @a4 @a5 ?_
    refine WP.call (c1U hS hcl r2) ?_
    rintro v H3 hv
    obtain ⟨s5,rfl,ho5,t3,hl3,res⟩:=callee hv
    refine g2 @t3 @ho5 ?_
    exact WP.ret res
   ·rw[if_neg h91] at hp; cases hp
theorem c1W {d p:Nat}{h H:Heap}(hp:p<200)(hr:H[ro]?=some (RD S p d))(hK:WP (λp':Nat × Nat=>e3_ p'.1 p'.2 (.ptr ro 0 4 0) (.ptr h.length 0 5 0) (.ptr no 0 5 0) (H.set ro (RD S (p+1) d))) Q) :
  WP (λp':Nat × Nat=>e4_ p'.1 p'.2 (.ptr ro 0 4 0) (.ptr h.length 0 5 0) (.ptr no 0 5 0) H) Q:=by
 refine WP.congr (λp'=>a5i p'.1 p'.2 ..) ?_
 refine g1 @hr ?_
 exact hK
theorem c1X (ih:PclS S ro f)(hS:S.size<=200):PclS S ro (f+1):=by
 intro d p n m q h H no c5 hp hd hro fr hr ht hno hn nv
 refine WP.rnd (a5j · · ..) ?_
 rw[prs] at hp
 have htl:=(List.getElem?_eq_some_iff.1 ht).1
 have hnl:=(List.getElem?_eq_some_iff.1 hn).1
 have hrl:ro<H.length:=oM
 obtain ⟨s5,rfl,ho5⟩:=nv.inv
 have stop:∀{m:Nd},m=n->PR S ro h d m p (.agg [I n.kind,I n.st,I n.lo,I n.hi,s5]) (H.set h.length (.cells ⟨[I n.kind,I n.st,I n.lo,I n.hi,s5],0,0,false⟩)):=by
  rintro m rfl
  exact PR.fin hro fr hr (nv.frs (FrS.refl (λ_=>False) _) (λ_ _ _ z=>z) λo h1 h2=>⟨h2.1,h1⟩)
 have more:∀{n':Nd},n'.kids=[n]->FrS (λo=>o=ro) h (((H++[AObj.cells ⟨[I n.kind,I n.st,I n.lo,I n.hi,s5],0,0,false⟩]).set no (.cells ⟨[I n'.kind,I n'.st,I n'.lo,I n'.hi,.sl H.length 0 1 5 none 0],0,0,false⟩)))/\
   ((H++[AObj.cells ⟨[I n.kind,I n.st,I n.lo,I n.hi,s5],0,0,false⟩]).set no (.cells ⟨[I n'.kind,I n'.st,I n'.lo,I n'.hi,.sl H.length 0 1 5 none 0],0,0,false⟩))[h.length]?=some Z5/\
   NVD ((H++[AObj.cells ⟨[I n.kind,I n.st,I n.lo,I n.hi,s5],0,0,false⟩]).set no (.cells ⟨[I n'.kind,I n'.st,I n'.lo,I n'.hi,.sl H.length 0 1 5 none 0],0,0,false⟩)) (λo=>h.length<o/\o<H.length+1/\o≠no) n' [I n'.kind,I n'.st,I n'.lo,I n'.hi,.sl H.length 0 1 5 none 0]:=by
  intro n' hk
  have e1:Ext H (H++[AObj.cells ⟨[I n.kind,I n.st,I n.lo,I n.hi,s5],0,0,false⟩]):=Ext.push _ _
  refine ⟨⟨by simp; have:=fr.len; omega,λo h1 h2=>?_⟩,?_,.mk (css:=[[I n.kind,I n.st,I n.lo,I n.hi,s5]]) (b6y (by rw[List.getElem?_set_ne oM]; simp) rfl (by simp)) (λ_=>?_) ?_⟩
  ·rw[List.getElem?_set_ne oM,(a3i.1 e1).2 o oM,fr.get h1 h2]
  ·rw[List.getElem?_set_ne oM]; exact e1.get ht
  ·exact ⟨by simp[AV.obj]; omega,by simp[AV.obj],by simp[AV.obj]; omega⟩
  ·rw[hk]
   exact .cons ((nv.ext e1 (D':=λo=>h.length<o/\o<H.length/\o≠no) λ_ _ z=>z).frs (FrS.set1 _ no _) (λo h1 h2 h3=>h2.2.2 h3) λo h1 h2=>⟨h2.1,oM,h2.2.2⟩) .nil
 cases hb:bt S p with
 |none=>
  rw[hb] at hp
  injection hp with hp
  injection hp with hp1 hp2
  subst hp2
  refine WP.call (b6B hr hb) ?_
  rintro _ _ ⟨rfl,rfl⟩
  refine g4 @a1_ @hn @ho5 @ht ?_
  exact WP.lv (WP.ret (stop hp1.symm)) λi j=>rfl
 |some c=>
  rw[hb] at hp
  simp only at hp
  have hlt:=bt_lt hb
  refine WP.call (a5W hr hb) ?_
  rintro _ _ ⟨rfl,rfl⟩
  have cont:∀{n':Nd} (hk:n'.kids=[n]) (hq:prs S f d (.pcl n') (p+1)=some (m,q)),
    WP (λp':Nat × Nat=>e4_ p'.1 p'.2 (.ptr ro 0 4 0) (.ptr h.length 0 5 0) (.ptr no 0 5 0) ((H++[AObj.cells ⟨[I n.kind,I n.st,I n.lo,I n.hi,s5],0,0,false⟩]).set no (.cells ⟨[I n'.kind,I n'.st,I n'.lo,I n'.hi,.sl H.length 0 1 5 none 0],0,0,false⟩))) (PR S ro h d m q):=by
   intro n' hk hq
   obtain ⟨k1,k2,k3⟩:=more hk
   have e1:Ext H (H++[AObj.cells ⟨[I n.kind,I n.st,I n.lo,I n.hi,s5],0,0,false⟩]):=Ext.push _ _
   have hl1:(H++[AObj.cells ⟨[I n.kind,I n.st,I n.lo,I n.hi,s5],0,0,false⟩]).length=H.length+1:=by simp
   have r1:((H++[AObj.cells ⟨[I n.kind,I n.st,I n.lo,I n.hi,s5],0,0,false⟩]).set no (.cells ⟨[I n'.kind,I n'.st,I n'.lo,I n'.hi,.sl H.length 0 1 5 none 0],0,0,false⟩))[ro]?=some (RD S p d):=by
    rw[List.getElem?_set_ne oM]; exact e1.get hr
   have x1:((H++[AObj.cells ⟨[I n.kind,I n.st,I n.lo,I n.hi,s5],0,0,false⟩]).set no (.cells ⟨[I n'.kind,I n'.st,I n'.lo,I n'.hi,.sl H.length 0 1 5 none 0],0,0,false⟩))[no]?=some (.cells ⟨[I n'.kind,I n'.st,I n'.lo,I n'.hi,.sl H.length 0 1 5 none 0],0,0,false⟩):=List.getElem?_set_self oM
   have hl2:((H++[AObj.cells ⟨[I n.kind,I n.st,I n.lo,I n.hi,s5],0,0,false⟩]).set no (.cells ⟨[I n'.kind,I n'.st,I n'.lo,I n'.hi,.sl H.length 0 1 5 none 0],0,0,false⟩)).length=H.length+1:=by simp
   generalize ((H++[AObj.cells ⟨[I n.kind,I n.st,I n.lo,I n.hi,s5],0,0,false⟩]).set no (.cells ⟨[I n'.kind,I n'.st,I n'.lo,I n'.hi,.sl H.length 0 1 5 none 0],0,0,false⟩))=H2 at *
   refine c1W oM r1 ?_
   refine ih d (p+1) n' m q h _ no _ hq hd hro (a5X k1 _) (List.getElem?_set_self oM) (by rw[List.getElem?_set_ne oM]; exact k2) hno (by rw[List.getElem?_set_ne oM]; exact x1) ?_
   exact k3.frs (FrS.set1 H2 ro _) (λo h1 h2 h3=>oM) λo h1 h2=>⟨h2.1,by simp; omega,h2.2.2⟩
  by_cases h42:c=42
  ·subst h42
   rw[if_pos rfl] at hp
   have a1:=equ_t (a:=42) (b:=42) rfl
   refine g4 @a1_ @a1 @hn @ho5 ?_
   exact cont (n':=.star n) rfl hp
  rw[if_neg h42] at hp
  have a1:=equ_f (a:=c) (b:=42) oM
  by_cases h43:c=43
  ·subst h43
   rw[if_pos rfl] at hp
   have a2:=equ_t (a:=43) (b:=43) rfl
   refine g5 @a1_ @a1 @a2 @hn @ho5 ?_
   exact cont (n':=.plus n) rfl hp
  rw[if_neg h43] at hp
  have a2:=equ_f (a:=c) (b:=43) oM
  by_cases h63:c=63
  ·subst h63
   rw[if_pos rfl] at hp
   have a3:=equ_t (a:=63) (b:=63) rfl
   refine g6 @a1_ @a1 @a2 @a3 @hn @ho5 ?_
   exact cont (n':=.opt n) rfl hp
  rw[if_neg h63] at hp
  have a3:=equ_f (a:=c) (b:=63) oM
  by_cases h123:c=123
  ·subst h123
   rw[if_pos rfl] at hp
   cases htm:tms S (p+1) with
   |none=>rw[htm] at hp; cases hp
   |some x=>
   obtain ⟨a,b,q'⟩:=x
   rw[htm] at hp
   simp only at hp
   have a4:=equ_t (a:=123) (b:=123) rfl
   obtain ⟨H1,hH1⟩:∃H1,H1=H.set ro (.cells ⟨[.str S,I ((p:Int)+1),I d,I 0],0,0,false⟩):=⟨_,rfl⟩
   have r1:H1[ro]?=some (RD S (p+1) d):=by rw[hH1,List.getElem?_set_self hrl]; rfl
   have t1:H1[h.length]?=some Z5:=by rw[hH1,List.getElem?_set_ne oM]; exact ht
   have x1:H1[no]?=some (.cells ⟨[I n.kind,I n.st,I n.lo,I n.hi,s5],0,0,false⟩):=by rw[hH1,List.getElem?_set_ne oM]; exact hn
   have f1:FrS (λo=>o=ro) h H1:=by rw[hH1]; exact a5X fr _
   have l1:H1.length=H.length:=by rw[hH1]; simp
   have nv1:NVD H1 (λo=>h.length<o/\o<H.length/\o≠no) n [I n.kind,I n.st,I n.lo,I n.hi,s5]:=by
    rw[hH1]
    exact nv.frs (FrS.set1 H ro _) (λo h1 h2 h3=>oM) λ_ _ z=>z
   refine g6 @a1_ @a1 @a2 @a3 @a4 @hr ?_
   rw[<-hH1]
   refine g1 @hn ?_
   refine WP.call (c1V hS htm oM r1 nv1 (λo z=>oM)) ?_
   rintro _ H3 ⟨f3,r3,c,rfl,nv3⟩
   obtain ⟨s6,rfl,ho6⟩:=nv3.inv
   have l3:=f3.len
   have x3:=(f3.get (o:=no) oM oM).trans x1
   have t3:=(f3.get (o:=h.length) oM oM).trans t1
   refine g2 @x3 @ho6 ?_
   refine ih d q' (.rep a b n) m q h _ no _ hp hd hro (⟨by simp; have:=f1.len; omega,λo h1 h2=>?_⟩) (by rw[List.getElem?_set_ne oM]; exact r3) (by rw[List.getElem?_set_ne oM]; exact t3) hno (List.getElem?_set_self oM) ?_
   ·rw[List.getElem?_set_ne oM,f3.get h1 (by have:=f1.len; omega),f1.get h1 h2]
   ·exact nv3.frs (FrS.set1 H3 no _) (λo h1 h2 h3=>oM) λo h1 h2=>by simp; omega
  ·rw[if_neg h123] at hp
   injection hp with hp
   injection hp with hp1 hp2
   subst hp2
   have a4:=equ_f (a:=c) (b:=123) oM
   refine g8 @a1_ @a1 @a2 @a3 @a4 @hn @ho5 @ht ?_
   exact WP.lv (WP.ret (stop hp1.symm)) λi j=>rfl
theorem c3B (ha:AtS S ro f)(hl:PclS S ro f):PcS S ro (f+1):=by
 intro d p n q h hp hd hr
 refine WP.tot (a6m · ..) ?_
 have hro:=(List.getElem?_eq_some_iff.1 hr).1
 rw[prs] at hp
 cases hx:prs S f d .at p with
 |none=>rw[hx] at hp; cases hp
 |some x=>
 obtain ⟨n1,q1⟩:=x
 rw[hx] at hp
 simp only at hp
 have e1:Ext h (h++[Z5]):=Ext.push _ _
 have t1:(h++[Z5])[h.length]?=some Z5:=by simp
 have l1:(h++[Z5]).length=h.length+1:=by simp
 refine g0 ?_
 refine WP.call (ha d p n1 q1 (h++[Z5]) hx hd (e1.get hr)) ?_
 rintro _ H2 ⟨f2,r2,c5,rfl,nv⟩
 obtain ⟨s5,rfl,ho5⟩:=nv.inv
 have l2:=f2.len
 have t2:=(f2.get (o:=h.length) oM oM).trans t1
 have e3:Ext H2 (H2++[AObj.cells ⟨[I n1.kind,I n1.st,I n1.lo,I n1.hi,s5],0,0,false⟩]):=Ext.push _ _
 refine g2 @ho5 @c9_ ?_
 exact WP.ent (hl d q1 n1 n q h _ H2.length _ hp hd hro (((FrS.ofExt e1).trans f2).trans (FrS.ofExt e3)) (e3.get r2) (e3.get t2) oM (by simp) (nv.ext e3 λo h1 h2=>⟨oM,by simp; omega,oM⟩)) λi=>rfl
end
end Go.Gm.AZ
namespace Go.Gm.AZ
open Go Go.Gm
section
variable {S:ByteArray} {ro:Nat} {f:Nat} {h H:Heap} {d p:Nat} {s:AV} {lg:Nat} {l:List Nd} {css:List (List AV)}
theorem NL.setR (a:NL S ro h H d p s lg l css):NL S ro h (H.set ro (RD S p' d')) d' p' s lg l css:=by
 have h1:=a.hro
 have h2:=a.fr.len
 have h3:=a.lgl
 refine ⟨a.hro,a5X a.fr _,List.getElem?_set_self oM,by rw[List.getElem?_set_ne oM]; exact a.ht,a.gr.set oM _,by simp; exact a.lgl,a.nn,a.nvs.frs (FrS.set1 H ro _) (λo q1 q2 q3=>oM) λo q1 q2=>by simp; exact q2⟩
theorem NL.add (a:NL S ro h H d p s lg l css)(pr:PR S ro H d n q v H2)(hl:css.length<=2000000) :
  ∃s5 s' H3,v=.agg [I n.kind,I n.st,I n.lo,I n.hi,s5]/\s5.one=true/\apnd 5 56 s (.sl H2.length 0 1 5 none 0) (H2++[.cells ⟨[I n.kind,I n.st,I n.lo,I n.hi,s5],0,0,false⟩])=some (s',H3)/\NL S ro h H3 d q s' lg (l++[n]) (css++[[I n.kind,I n.st,I n.lo,I n.hi,s5]]):=by
 obtain ⟨f2,r2,c5,rfl,nv⟩:=pr
 obtain ⟨s5,rfl,ho5⟩:=nv.inv
 have h1:=a.hro
 have h2:=a.fr.len
 have h3:=a.lgl
 have h4:=f2.len
 have htl:=(List.getElem?_eq_some_iff.1 a.ht).1
 have g2:Gr lg (lg+1) H2 5 s css:=Gr.frs' a.gr f2 λ_ z=>oM
 have t2:=(f2.get (o:=h.length) oM oM).trans a.ht
 have n2:=a.nvs.frs f2 (D':=λo=>h.length<o/\o<H.length/\o≠lg) (λo q1 q2 q3=>oM) λ_ _ z=>z
 have e3:Ext H2 (H2++[AObj.cells ⟨[I n.kind,I n.st,I n.lo,I n.hi,s5],0,0,false⟩]):=Ext.push _ _
 have hl3:(H2++[AObj.cells ⟨[I n.kind,I n.st,I n.lo,I n.hi,s5],0,0,false⟩]).length=H2.length+1:=by simp
 obtain ⟨s',H3,lg',m1,m2,m3,m4,m5⟩:=Gr.appQ (bytes:=56) (g2.ext e3) (λ_=>oM) (Gr.lit (sz:=5) (v:=[I n.kind,I n.st,I n.lo,I n.hi,s5]) rfl).sl oM oM (by simp; omega)
 obtain rfl:=m5 a.nn
 have hs':s'≠.nils:=m2.nnil (by simp)
 have h5:=m4.len
 refine ⟨s5,s',H3,rfl,ho5,m1,a.hro,⟨oM,λo q1 q2=>?_⟩,(m4.get oM oM).trans (e3.get r2),(m4.get oM oM).trans (e3.get t2),m2,oM,hs',NVDs.snoc (n:=n) (cs:=[I n.kind,I n.st,I n.lo,I n.hi,s5]) ?_ ?_⟩
 ·rw[m4.get oM oM,(a3i.1 e3).2 o oM,f2.get q1 oM,a.fr.get q1 q2]
 ·exact (nv.ext e3 (D':=λo=>H.length<=o/\o<H2.length) λ_ _ z=>z).frs m4 (λo q1 q2 q3=>oM) λo q1 q2=>oM
 ·exact (n2.frs (E:=λ_=>False) (FrS.ofExt e3) (λ_ _ _ z=>z) (D':=λo=>h.length<o/\o<H.length/\o≠lg') λ_ _ z=>z).frs m4 (λo q1 q2 q3=>oM) λo q1 q2=>oM
theorem NL.one (hr:h[ro]?=some (RD S p d))(pr:PR S ro (h++[Z5]) d n q v H2) :
  ∃s5,v=.agg [I n.kind,I n.st,I n.lo,I n.hi,s5]/\s5.one=true/\NL S ro h (H2++[.cells ⟨[I n.kind,I n.st,I n.lo,I n.hi,s5],0,0,false⟩]) d q (.sl H2.length 0 1 5 none 0) H2.length [n] [[I n.kind,I n.st,I n.lo,I n.hi,s5]]:=by
 obtain ⟨f2,r2,c5,rfl,nv⟩:=pr
 obtain ⟨s5,rfl,ho5⟩:=nv.inv
 have hro:=(List.getElem?_eq_some_iff.1 hr).1
 have e1:Ext h (h++[Z5]):=Ext.push _ _
 have l1:(h++[Z5]).length=h.length+1:=by simp
 have l2:=f2.len
 have t1:(h++[Z5])[h.length]?=some Z5:=by simp
 have e3:Ext H2 (H2++[AObj.cells ⟨[I n.kind,I n.st,I n.lo,I n.hi,s5],0,0,false⟩]):=Ext.push _ _
 refine ⟨s5,rfl,ho5,hro,((FrS.ofExt e1).trans f2).trans (FrS.ofExt e3),e3.get r2,e3.get ((f2.get oM oM).trans t1),Gr.lit (sz:=5) rfl,⟨oM,by simp⟩,by simp,.cons (nv.ext e3 λo q1 q2=>⟨oM,by simp; omega,oM⟩) .nil⟩
theorem NL.fin1 (a:NL S ro h H d p s lg l css){n:Nd}(hl:l=[n]):∃s5,css=[[I n.kind,I n.st,I n.lo,I n.hi,s5]]/\s5.one=true/\PR S ro h d n p (.agg [I n.kind,I n.st,I n.lo,I n.hi,s5]) (H.set h.length (.cells ⟨[I n.kind,I n.st,I n.lo,I n.hi,s5],0,0,false⟩)):=by
 have hn:=a.nvs
 rw[hl] at hn
 cases hn with
 |cons x y=>
  cases y
  obtain ⟨s5,rfl,ho5⟩:=x.inv
  exact ⟨s5,rfl,ho5,PR.fin a.hro a.fr a.hr (x.frs (FrS.refl (λ_=>False) _) (λ_ _ _ z=>z) λo q1 q2=>⟨q2.1,q1⟩)⟩
theorem NL.finL (a:NL S ro h H d p s lg l css){n:Nd}(hk:n.kids=l)(h1:n.st=0)(h2:n.lo=0)(h3:n.hi=0):PR S ro h d n p (.agg [I n.kind,I 0,I 0,I 0,s]) (H.set h.length (.cells ⟨[I n.kind,I 0,I 0,I 0,s],0,0,false⟩)):=by
 have:=a.lgl
 have nv:NVD H (λo=>h.length<o/\o<H.length) n [I n.kind,I n.st,I n.lo,I n.hi,s]:=.mk a.gr.sl (λz=>by have:=a.gr.objIn z; omega) (by rw[hk]; exact a.nvs.frs (FrS.refl (λ_=>False) _) (λ_ _ _ z=>z) λo q1 q2=>⟨q2.1,q1⟩)
 rw[h1,h2,h3] at nv
 exact PR.fin a.hro a.fr a.hr nv
theorem b4K (a:NL S ro h H d p s lg l css)(hl:l≠[]):WP (λi:Nat=>x2_ i (.ptr h.length 0 5 0) s H) (PR S ro h d (finJ l) p):=by
 refine WP.congr (a5E · ..) ?_
 have ht:=a.ht
 have htl:=(List.getElem?_eq_some_iff.1 ht).1
 have sl':Sl H 5 s (css.map λx=>x):=by rw[List.map_id']; exact a.gr.sl
 have hln:=a.nvs.len
 have hso:=a.gr.sl.one
 have hsc:=a.gr.sl.cells
 match l,hl with
 |[n],_=>
  obtain ⟨s5,rfl,ho5,res⟩:=a.fin1 rfl
  have e0:=Ext.refl H
  have hg:gi [[I n.kind,I n.st,I n.lo,I n.hi,s5]] (0:Int)=[I n.kind,I n.st,I n.lo,I n.hi,s5]:=rfl
  refine g6 sl'.lenG sl'.idxG sl'.ldN @hg @ho5 @ht ?_
  exact WP.ret res
 |n1::n2::r,_=>
  have h2:2<=css.length:=by rw[<-hln]; simp
  refine g4 sl'.lenG @hso @hsc @ht ?_
  exact WP.ret (a.finL (n:=.join (n1::n2::r)) rfl rfl rfl rfl)
theorem b6E (a:NL S ro h H d p s lg l css)(hl:l≠[]):WP (λi:Nat=>u5_ i (.ptr h.length 0 5 0) s H) (PR S ro h d (finU l) p):=by
 refine WP.congr (a5b · ..) ?_
 have ht:=a.ht
 have htl:=(List.getElem?_eq_some_iff.1 ht).1
 have sl':Sl H 5 s (css.map λx=>x):=by rw[List.map_id']; exact a.gr.sl
 have hln:=a.nvs.len
 have hso:=a.gr.sl.one
 have hsc:=a.gr.sl.cells
 match l,hl with
 |[n],_=>
  obtain ⟨s5,rfl,ho5,res⟩:=a.fin1 rfl
  have e0:=Ext.refl H
  have hg:gi [[I n.kind,I n.st,I n.lo,I n.hi,s5]] (0:Int)=[I n.kind,I n.st,I n.lo,I n.hi,s5]:=rfl
  refine g6 sl'.lenG sl'.idxG sl'.ldN @hg @ho5 @ht ?_
  exact WP.ret res
 |n1::n2::r,_=>
  have h2:2<=css.length:=by rw[<-hln]; simp
  refine g4 sl'.lenG @hso @hsc @ht ?_
  exact WP.ret (a.finL (n:=.uni (n1::n2::r)) rfl rfl rfl rfl)
end
section
variable {S:ByteArray} {ro:Nat} {f:Nat}
theorem c1Y (hp:PcS S ro f)(ih:JnlS S ro f):JnlS S ro (f+1):=by
 intro d p l m q h H s lg css hx hd hl hlf a
 refine WP.rnd (a5F · · ..) ?_
 rw[prs] at hx
 cases hb:bt S p with
 |none=>
  rw[hb] at hx
  injection hx with hx
  injection hx with hx1 hx2
  subst hx1 hx2
  refine WP.call (b6B a.hr hb) ?_
  rintro _ _ ⟨rfl,rfl⟩
  refine g1 @a1_ ?_
  exact WP.lv (b4K a hl) λi j=>rfl
 |some c=>
  rw[hb] at hx
  simp only at hx
  refine WP.call (a5W a.hr hb) ?_
  rintro _ _ ⟨rfl,rfl⟩
  by_cases h124:c=124
  ·subst h124
   rw[if_pos rfl] at hx
   injection hx with hx
   injection hx with hx1 hx2
   subst hx1 hx2
   have a1:=equ_t (a:=124) (b:=124) rfl
   refine g2 @a1_ @a1 ?_
   exact WP.lv (b4K a hl) λi j=>rfl
  rw[if_neg h124] at hx
  have a1:=equ_f (a:=c) (b:=124) oM
  by_cases h41:c=41
  ·subst h41
   rw[if_pos rfl] at hx
   injection hx with hx
   injection hx with hx1 hx2
   subst hx1 hx2
   have a2:=equ_t (a:=41) (b:=41) rfl
   refine g3 @a1_ @a1 @a2 ?_
   exact WP.lv (b4K a hl) λi j=>rfl
  rw[if_neg h41] at hx
  have a2:=equ_f (a:=c) (b:=41) oM
  cases hy:prs S f d .pc p with
  |none=>rw[hy] at hx; cases hx
  |some y=>
  obtain ⟨n,q'⟩:=y
  rw[hy] at hx
  simp only at hx
  refine g3 @a1_ @a1 @a2 ?_
  refine WP.call (hp d p n q' H hy hd a.hr) ?_
  rintro v H2 hv
  have hln:=a.nvs.len
  obtain ⟨s5,s',H3,rfl,ho5,m1,a'⟩:=a.add hv oM
  refine g2 @ho5 @m1 ?_
  exact ih d q' (l++[n]) m q h H3 s' lg _ hx hd (by simp) (by simp; omega) a'
theorem c3C (hp:PcS S ro f)(hl:JnlS S ro f)(hf:f<=900000):JnS S ro (f+1):=by
 intro d p n q h hx hd hr
 refine WP.tot (a6M · ..) ?_
 rw[prs] at hx
 cases hy:prs S f d .pc p with
 |none=>rw[hy] at hx; cases hx
 |some y=>
 obtain ⟨n1,q1⟩:=y
 rw[hy] at hx
 simp only at hx
 have e1:Ext h (h++[Z5]):=Ext.push _ _
 refine g0 ?_
 refine WP.call (hp d p n1 q1 (h++[Z5]) hy hd (e1.get hr)) ?_
 rintro v H2 hv
 obtain ⟨s5,rfl,ho5,a⟩:=NL.one hr hv
 refine g1 @ho5 ?_
 exact WP.ent (hl d q1 [n1] n q h _ _ _ _ hx hd (by simp) (by simp; omega) a) λi=>rfl
theorem c1Z (hp:JnS S ro f)(ih:UnlS S ro f)(hS:S.size<=200):UnlS S ro (f+1):=by
 intro d p l m q h H s lg css hx hd hl hlf a
 refine WP.rnd (a5c · · ..) ?_
 rw[prs] at hx
 cases hb:bt S p with
 |none=>
  rw[hb] at hx
  injection hx with hx
  injection hx with hx1 hx2
  subst hx1 hx2
  refine WP.call (b6B a.hr hb) ?_
  rintro _ _ ⟨rfl,rfl⟩
  refine g1 @a1_ ?_
  exact WP.lv (b6E a hl) λi j=>rfl
 |some c=>
  rw[hb] at hx
  simp only at hx
  have hlt:=bt_lt hb
  refine WP.call (a5W a.hr hb) ?_
  rintro _ _ ⟨rfl,rfl⟩
  by_cases h124:c=124
  ·subst h124
   rw[if_pos rfl] at hx
   have a1:=neu_f (a:=124) (b:=124) rfl
   cases hy:prs S f d .jn (p+1) with
   |none=>rw[hy] at hx; cases hx
   |some y=>
   obtain ⟨n,q'⟩:=y
   rw[hy] at hx
   simp only at hx
   have hr:=a.hr
   have aR:=a.setR (p':=p+1) (d':=d)
   obtain ⟨H1,hH1⟩:∃H1,H1=H.set ro (.cells ⟨[.str S,I ((p:Int)+1),I d,I 0],0,0,false⟩):=⟨_,rfl⟩
   have hR:H.set ro (RD S (p+1) d)=H1:=by rw[hH1]; rfl
   rw[hR] at aR
   refine g3 @a1_ @a1 @hr ?_
   rw[<-hH1]
   refine WP.call (hp d (p+1) n q' H1 hy hd aR.hr) ?_
   rintro v H2 hv
   have hln:=a.nvs.len
   obtain ⟨s5,s',H3,rfl,ho5,m1,a'⟩:=aR.add hv oM
   refine g2 @ho5 @m1 ?_
   exact ih d q' (l++[n]) m q h H3 s' lg _ hx hd (by simp) (by simp; omega) a'
  ·rw[if_neg h124] at hx
   injection hx with hx
   injection hx with hx1 hx2
   subst hx1 hx2
   have a1:=neu_t (a:=c) (b:=124) oM
   refine g2 @a1_ @a1 ?_
   exact WP.lv (b6E a hl) λi j=>rfl
theorem c3D (hp:JnS S ro f)(hl:UnlS S ro f)(hf:f<=900000):UnS S ro (f+1):=by
 intro d p n q h hx hd hr
 refine WP.tot (a6j · ..) ?_
 rw[prs] at hx
 cases hy:prs S f d .jn p with
 |none=>rw[hy] at hx; cases hx
 |some y=>
 obtain ⟨n1,q1⟩:=y
 rw[hy] at hx
 simp only at hx
 have e1:Ext h (h++[Z5]):=Ext.push _ _
 refine g0 ?_
 refine WP.call (hp d p n1 q1 (h++[Z5]) hy hd (e1.get hr)) ?_
 rintro v H2 hv
 obtain ⟨s5,rfl,ho5,a⟩:=NL.one hr hv
 refine g1 @ho5 ?_
 exact WP.ent (hl d q1 [n1] n q h _ _ _ _ hx hd (by simp) (by simp; omega) a) λi=>rfl
theorem c3E (hS:S.size<=200):∀f,f<=900000->AtS S ro f/\PcS S ro f/\PclS S ro f/\JnS S ro f/\JnlS S ro f/\UnS S ro f/\UnlS S ro f:=by
 intro f
 induction f with
 |zero=>
  intro _
  refine ⟨?_,?_,?_,?_,?_,?_,?_⟩
  ·intro d p n q h hx; simp[prs] at hx
  ·intro d p n q h hx; simp[prs] at hx
  ·intro d p n m q h H no c5 hx; simp[prs] at hx
  ·intro d p n q h hx; simp[prs] at hx
  ·intro d p l m q h H s lg css hx; simp[prs] at hx
  ·intro d p n q h hx; simp[prs] at hx
  ·intro d p l m q h H s lg css hx; simp[prs] at hx
 |succ f ih=>
  intro hf
  obtain ⟨i1,i2,i3,i4,i5,i6,i7⟩:=ih oM
  exact ⟨c3A i6 hS,c3B i1 i3,c1X i3 hS,c3C i2 i5 oM,c1Y i2 i5,c3D i4 i7 oM,c1Z i4 i7 hS⟩
end
theorem c2a {S:ByteArray}{f:Nat}{n:Nd}(hS:S.size<=200)(hf:f<=900000)(hp:prs S f 0 .un 0=some (n,S.size))(h:Heap) :
  Tot tab a0f [.str S] h λv h'=>Ext h h'/\∃c5,v=.tup [.agg c5,I 0,I 0]/\NVD h' (λo=>h.length<=o/\o<h'.length) n c5:=by
 refine WP.tot (b0d · ..) ?_
 have hlb:lenB (.str S)=some (I S.size):=rfl
 have e1:Ext h ((h++[Z5])++[RD S 0 0]):=eX
 have hl1:((h++[Z5])++[RD S 0 0]).length=h.length+2:=by simp
 refine g1 @hlb ?_
 have hU:=(c3E (ro:=h.length+1) hS f hf).2.2.2.2.2.1
 refine WP.call (hU 0 0 n S.size ((h++[Z5])++[RD S 0 0]) hp oM (by simp)) ?_
 rintro v H2 ⟨f2,r2,c5,rfl,nv⟩
 obtain ⟨s5,rfl,ho5⟩:=nv.inv
 have l2:=f2.len
 have t2:=(f2.get (o:=h.length) oM oM).trans (show ((h++[Z5])++[RD S 0 0])[h.length]?=some Z5 by simp)
 have e3:Ext H2 (H2++[AObj.cells ⟨[I n.kind,I n.st,I n.lo,I n.hi,s5],0,0,false⟩]):=Ext.push _ _
 have r3:=e3.get r2
 have t3:=e3.get t2
 have x3:(H2++[AObj.cells ⟨[I n.kind,I n.st,I n.lo,I n.hi,s5],0,0,false⟩])[H2.length]?=some (.cells ⟨[I n.kind,I n.st,I n.lo,I n.hi,s5],0,0,false⟩):=by simp
 have l3:=e3.len
 have nv3:=nv.ext e3 (D':=λo=>h.length<o/\o<H2.length) λo q1 q2=>oM
 have f3:FrS (λo=>o=h.length+1) ((h++[Z5])++[RD S 0 0]) (H2++[AObj.cells ⟨[I n.kind,I n.st,I n.lo,I n.hi,s5],0,0,false⟩]):=f2.trans (FrS.ofExt e3)
 refine g2 @ho5 @c9_ ?_
 generalize H2++[AObj.cells ⟨[I n.kind,I n.st,I n.lo,I n.hi,s5],0,0,false⟩]=H3 at *
 refine g3 @r2 @r3 @hlb ?_
 refine WP.congr (a8j · ..) ?_
 refine g4 @r3 @x3 @ho5 @t3 ?_
 have e4:Ext h H3:=f3.ext e1 λo q1 q2=>oM
 refine WP.ret ⟨e4.set (Nat.le_refl _) _,_,rfl,nv3.frs (FrS.set1 H3 h.length _) (λo q1 q2 q3=>oM) λo q1 q2=>by simp; omega⟩
end Go.Gm.AZ
namespace Go.Gm
def Sv (b:NS):Prop:=∀x∈b.st,x.2.2<32
def SvN (n:Nd):Prop:=∀b,Sv b->Sv (NS.part n b).2
theorem b7c (h:Sv b):Sv b.state.2:=by
 rw[NS.state]; split<;>exact h
theorem b3K:∀(l:List Nd),(∀c∈l,SvN c)->∀b,Sv b->Sv (NS.parts l b).2
 |[],_,b,hb=>by rw[NS.parts]; exact hb
 |n::l,h,b,hb=>by
  rw[NS.parts]
  split
  ·exact hb
  ·exact b3K l (λc hc=>h c (List.mem_cons_of_mem _ hc)) _ (h n (by simp) b hb)
theorem a9o (h:SvN n):∀k b,Sv b->Sv (NS.times (NS.part n) k b).2
 |0,b,hb=>by rw[NS.times]; exact hb
 |k+1,b,hb=>by
  rw[NS.times]
  split
  ·exact hb
  ·exact a9o h k _ (h b hb)
theorem a2F {n:Nd}{p:NS->List (Nat × Nat) × NS}(g:n.st<32)(hp:∀b,Sv b->Sv (p b).2)(b:NS)(hb:Sv b):Sv (NS.around n p b).2:=by
 simp only[NS.around]
 split
 ·exact hb
 ·have h1:=b7c (hp _ (b7c hb))
  simp only
  split
  ·exact h1
  ·cases n<;>try exact h1
   rename_i k
   intro x hx
   simp only[NS.lead,NS.step] at hx
   rcases List.mem_append.1 hx with hx|hx
   ·exact h1 x hx
   ·obtain rfl:=List.mem_singleton.1 hx; exact g
theorem st_lt (g:Gd n):n.st<32:=by
 have:=g.rt
 cases n<;>simp[Nd.st,RtN] at *<;>omega
theorem svn (n:Nd):Gd n->SvN n:=by
 refine Nd.ind (p:=λn=>Gd n->SvN n) (λn ih g=>?_) n
 have k:∀c∈n.kids,SvN c:=λc hc=>ih c hc (g.kid c hc)
 have s:=st_lt g
 cases n with
 |set s=>intro b hb; rw[NS.part]; exact a2F s (λb hb=>hb) b hb
 |emp=>intro b hb; rw[NS.part]; exact a2F s (λb hb=>hb) b hb
 |eps=>intro b hb; rw[NS.part]; exact a2F s (λb hb=>hb) b hb
 |uni l=>intro b hb; rw[NS.part]; exact a2F s (b3K l k) b hb
 |star c=>intro b hb; rw[NS.part]; exact a2F s (a9o (k c (by simp[Nd.kids])) 1) b hb
 |plus c=>intro b hb; rw[NS.part]; exact a2F s (a9o (k c (by simp[Nd.kids])) 1) b hb
 |opt c=>intro b hb; rw[NS.part]; exact a2F s (a9o (k c (by simp[Nd.kids])) 1) b hb
 |rep lo hi c=>intro b hb; rw[NS.part]; exact a2F s (a9o (k c (by simp[Nd.kids])) hi) b hb
 |join l=>
  intro b hb
  rw[NS.part]
  simp only[NS.joined]
  have h1:=b3K l k b hb
  split
  ·exact hb
  ·split
   ·exact h1
   ·exact h1
theorem c5B (g:Gd n)(h:nfaF n=some nf):nf.n<=1000/\nf.fr.length<=2000/\nf.st.length<=1000/\∀x∈nf.st,x.2.2<32:=by
 simp only[nfaF] at h
 split at h
 ·cases h
 ·injection h with h
  subst h
  have o:=NSok.new.sz (szn n g NS.new).1
  have:=o.n; have:=o.fr; have:=o.st
  exact ⟨by assumption,by simp only; omega,by simp only; omega,svn n g NS.new λx hx=>by simp[NS.new] at hx⟩
end Go.Gm
namespace Go.Gm
structure Po (b:NS):Prop where
 st:∀x∈b.st,x.1<b.n/\x.2.1<b.n
 fr:∀x∈b.fr,x.1<b.n/\x.2<b.n
def Pf (n:Nat)(l:List (Nat × Nat)):Prop:=∀f∈l,f.1<n/\f.2<n
theorem Po.mono (p:Po b){n:Nat}{m:Bool}(h:b.n<=n):Po ⟨n,m,b.st,b.fr⟩:=
 ⟨λx hx=>by have:=p.st x hx; simp only; omega,λx hx=>by have:=p.fr x hx; simp only; omega⟩
theorem Pf.mono {a b:Nat}(p:Pf a l)(h:a<=b):Pf b l:=λf hf=>by have:=p f hf; omega
theorem b7a (p:Po b):Po b.state.2/\b.n<=b.state.2.n/\(b.state.2.much=false->b.state.1<b.state.2.n/\b.much=false):=by
 rw[NS.state]
 split
 ·exact ⟨p.mono (Nat.le_refl _),Nat.le_refl _,λz=>by cases z⟩
 ·exact ⟨p.mono (Nat.le_succ _),Nat.le_succ _,λz=>⟨Nat.lt_succ_self _,z⟩⟩
def PoP (g:NS->List (Nat × Nat) × NS):Prop:=∀b,Po b->Po (g b).2/\b.n<=(g b).2.n/\((g b).2.much=false->Pf (g b).2.n (g b).1/\b.much=false)
def PoN (n:Nd):Prop:=∀b,Po b->Po (NS.part n b).2/\b.n<=(NS.part n b).2.n/\((NS.part n b).2.much=false->((NS.part n b).1.1<(NS.part n b).2.n/\(NS.part n b).1.2<(NS.part n b).2.n)/\b.much=false)
theorem b0S:PoP (λb=>([],b)):=λb p=>⟨p,Nat.le_refl _,λz=>⟨λf hf=>by simp at hf,z⟩⟩
theorem b8l {x:(Nat × Nat) × NS}{y:List (Nat × Nat) × NS}{b:NS}(h:x.2.n<=y.2.n)(h1:x.2.much=false->(x.1.1<x.2.n/\x.1.2<x.2.n)/\b.much=false)(h2:y.2.much=false->Pf y.2.n y.1/\x.2.much=false)(z:y.2.much=false):Pf y.2.n (x.1::y.1)/\b.much=false:=by
 obtain ⟨p,q⟩:=h2 z
 obtain ⟨r,s⟩:=h1 q
 refine ⟨λf hf=>?_,s⟩
 rcases List.mem_cons.1 hf with rfl|hf
 ·omega
 ·exact p f hf
theorem b3J:∀(l:List Nd),(∀c∈l,PoN c)->PoP (NS.parts l)
 |[],_=>λb p=>by rw[NS.parts]; exact b0S b p
 |n::l,h=>λb p=>by
  rw[NS.parts]
  split
  ·rename_i q; exact ⟨p,Nat.le_refl _,λz=>by rw[q] at z; cases z⟩
  ·obtain ⟨a1,a2,a3⟩:=h n (by simp) b p
   obtain ⟨b1,b2,b3⟩:=b3J l (λc hc=>h c (List.mem_cons_of_mem _ hc)) _ a1
   exact ⟨b1,Nat.le_trans a2 b2,b8l b2 a3 b3⟩
theorem a9n (h:PoN n):∀k,PoP (NS.times (NS.part n) k)
 |0=>λb p=>by rw[NS.times]; exact b0S b p
 |k+1=>λb p=>by
  rw[NS.times]
  split
  ·rename_i q; exact ⟨p,Nat.le_refl _,λz=>by rw[q] at z; cases z⟩
  ·obtain ⟨a1,a2,a3⟩:=h b p
   obtain ⟨b1,b2,b3⟩:=a9n h k _ a1
   exact ⟨b1,Nat.le_trans a2 b2,b8l b2 a3 b3⟩
theorem hd_lt (p:Pf N l)(h:0<N):(NS.hd l).1<N/\(NS.hd l).2<N:=by
 cases l with
 |nil=>exact ⟨h,h⟩
 |cons f l=>exact p f (by simp)
theorem b8m {N lo e:Nat}(he:e<N):∀(l:List (Nat × Nat)) (i:Nat),Pf N l->Pf N (NS.repE lo e i l)
 |[],i,_=>λf hf=>by simp[NS.repE] at hf
 |[x],i,p=>λf hf=>by
  have:=p x (by simp)
  obtain rfl:=List.mem_singleton.1 hf
  exact ⟨this.2,he⟩
 |x::y::l,i,p=>λf hf=>by
  have hx:=p x (by simp)
  have hy:=p y (by simp)
  simp only[NS.repE] at hf
  rcases List.mem_append.1 hf with hf|hf
  ·split at hf
   ·obtain rfl:=List.mem_singleton.1 hf; exact ⟨hx.2,he⟩
   ·simp at hf
  ·rcases List.mem_cons.1 hf with rfl|hf
   ·exact ⟨hx.2,hy.1⟩
   ·exact b8m he (y::l) (i+1) (λg hg=>p g (List.mem_cons_of_mem _ hg)) f hf
theorem b7b:∀(l:List (Nat × Nat)),Pf N l->Pf N (NS.joinE l)
 |[],_=>λf hf=>by simp[NS.joinE] at hf
 |[x],_=>λf hf=>by simp[NS.joinE] at hf
 |x::y::l,p=>λf hf=>by
  have hx:=p x (by simp)
  have hy:=p y (by simp)
  simp only[NS.joinE] at hf
  rcases List.mem_cons.1 hf with rfl|hf
  ·exact ⟨hx.2,hy.1⟩
  ·exact b7b (y::l) (λg hg=>p g (List.mem_cons_of_mem _ hg)) f hf
theorem c4n {N s e:Nat}(hs:s<N)(he:e<N)(l:List (Nat × Nat))(p:Pf N l):Pf N (NS.uniE s e l):=λf hf=>by
 simp only[NS.uniE,List.mem_flatMap] at hf
 obtain ⟨x,hx,hf⟩:=hf
 have:=p x hx
 simp only[List.mem_cons,List.not_mem_nil,or_false] at hf
 rcases hf with rfl|rfl
 ·exact ⟨hs,this.1⟩
 ·exact ⟨this.2,he⟩
theorem Po.frees (p:Po b)(h:Pf b.n l):Po (b.frees l):=⟨p.st,λx hx=>by
 rcases List.mem_append.1 hx with hx|hx
 ·exact p.fr x hx
 ·exact h x hx⟩
theorem c4o (p:Po b){s e:Nat}(hs:s<b.n)(he:e<b.n)(hl:Pf b.n l)(n:Nd):Po (b.lead s e l n):=by
 obtain ⟨h1,h2⟩:=hd_lt hl oM
 have ev:∀{x:List (Nat × Nat)},(∀f∈x,f=(s,(NS.hd l).1)\/f=(s,e)\/f=((NS.hd l).2,(NS.hd l).1)\/f=((NS.hd l).2,e))->Pf b.n x:=λh f hf=>by
  rcases h f hf with rfl|rfl|rfl|rfl<;>exact ⟨by assumption,by assumption⟩
 cases n with
 |set k=>exact ⟨λx hx=>by
   rcases List.mem_append.1 hx with hx|hx
   ·exact p.st x hx
   ·obtain rfl:=List.mem_singleton.1 hx; exact ⟨hs,he⟩,p.fr⟩
 |eps=>exact p.frees (ev (by simp))
 |uni _=>exact p.frees (c4n hs he l hl)
 |star _=>exact p.frees (ev (by simp))
 |plus _=>exact p.frees (ev (by simp))
 |opt _=>exact p.frees (ev (by simp))
 |rep lo hi _=>
  refine p.frees λf hf=>?_
  rcases List.mem_append.1 hf with hf|hf
  ·rcases List.mem_append.1 hf with hf|hf
   ·split at hf
    ·obtain rfl:=List.mem_singleton.1 hf; exact ⟨hs,h1⟩
    ·simp at hf
   ·exact b8m he l 0 hl f hf
  ·split at hf
   ·obtain rfl:=List.mem_singleton.1 hf; exact ⟨hs,he⟩
   ·simp at hf
 |emp=>exact p
 |join _=>exact p
theorem a2E (hp:PoP g)(b:NS)(p:Po b):Po (NS.around n g b).2/\b.n<=(NS.around n g b).2.n/\((NS.around n g b).2.much=false->((NS.around n g b).1.1<(NS.around n g b).2.n/\(NS.around n g b).1.2<(NS.around n g b).2.n)/\b.much=false):=by
 simp only[NS.around]
 split
 ·rename_i q; exact ⟨p,Nat.le_refl _,λz=>by rw[q] at z; cases z⟩
 ·rename_i hb
  rw[Bool.not_eq_true] at hb
  obtain ⟨a1,a2,a3⟩:=b7a p
  obtain ⟨b1,b2,b3⟩:=hp _ a1
  obtain ⟨c1,c2,c3⟩:=b7a b1
  simp only
  split
  ·rename_i q; exact ⟨c1,oM,λz=>by rw[q] at z; cases z⟩
  ·rename_i q
   rw[Bool.not_eq_true] at q
   obtain ⟨d1,d2⟩:=c3 q
   obtain ⟨f1,f2⟩:=b3 d2
   obtain ⟨g1,_⟩:=a3 f2
   have hs:b.state.1<(g b.state.2).2.state.2.n:=oM
   have ln:((g b.state.2).2.state.2.lead b.state.1 (g b.state.2).2.state.1 (g b.state.2).1 n).n=(g b.state.2).2.state.2.n:=by cases n<;>rfl
   exact ⟨c4o c1 hs d1 (f1.mono c2) n,by rw[ln]; omega,λ_=>⟨⟨by rw[ln]; exact hs,by rw[ln]; exact d1⟩,hb⟩⟩
theorem po_n (n:Nd):Gd n->PoN n:=by
 refine Nd.ind (p:=λn=>Gd n->PoN n) (λn ih g=>?_) n
 have k:∀c∈n.kids,PoN c:=λc hc=>ih c hc (g.kid c hc)
 cases n with
 |set s=>intro b p; rw[NS.part]; exact a2E b0S b p
 |emp=>intro b p; rw[NS.part]; exact a2E b0S b p
 |eps=>intro b p; rw[NS.part]; exact a2E b0S b p
 |uni l=>intro b p; rw[NS.part]; exact a2E (b3J l k) b p
 |star c=>intro b p; rw[NS.part]; exact a2E (a9n (k c (by simp[Nd.kids])) 1) b p
 |plus c=>intro b p; rw[NS.part]; exact a2E (a9n (k c (by simp[Nd.kids])) 1) b p
 |opt c=>intro b p; rw[NS.part]; exact a2E (a9n (k c (by simp[Nd.kids])) 1) b p
 |rep lo hi c=>intro b p; rw[NS.part]; exact a2E (a9n (k c (by simp[Nd.kids])) hi) b p
 |join l=>
  intro b p
  have hl:2<=l.length:=g.rt
  rw[NS.part]
  simp only[NS.joined]
  obtain ⟨b1,b2,b3⟩:=b3J l k b p
  split
  ·rename_i q; exact ⟨p,Nat.le_refl _,λz=>by rw[q] at z; cases z⟩
  ·split
   ·rename_i q; exact ⟨b1,b2,λz=>by rw[q] at z; cases z⟩
   ·rename_i hb q
    rw[Bool.not_eq_true] at q hb
    obtain ⟨f1,f2⟩:=b3 q
    refine ⟨b1.frees (b7b _ f1),b2,λ_=>⟨?_,hb⟩⟩
    have hn:(NS.parts l b).1≠[]:=by
     obtain ⟨x,l',rfl⟩:∃x l',l=x::l':=by
      cases l with
      |nil=>simp at hl
      |cons x l'=>exact ⟨x,l',rfl⟩
     rw[NS.parts,if_neg (by rw[hb]; decide)]
     simp
    obtain ⟨x,l',hx⟩:∃x l',(NS.parts l b).1=x::l':=by
     cases hq:(NS.parts l b).1 with
     |nil=>exact absurd hq hn
     |cons x l'=>exact ⟨x,l',rfl⟩
    have h1:=f1 x (by rw[hx]; simp)
    have h2:(NS.parts l b).1.getLastD (0,0)∈(NS.parts l b).1:=by
     rw[List.getLastD_eq_getLast?,List.getLast?_eq_some_getLast hn]
     exact List.getLast_mem hn
    have h3:=f1 _ h2
    exact ⟨by rw[hx]; exact h1.1,h3.2⟩
theorem c5A (g:Gd n)(h:nfaF n=some nf):NfOk nf:=by
 simp only[nfaF] at h
 split at h
 ·cases h
 ·rename_i q
  rw[Bool.not_eq_true] at q
  injection h with h
  subst h
  obtain ⟨p1,p2,p3⟩:=po_n n g NS.new ⟨λx hx=>by simp[NS.new] at hx,λx hx=>by simp[NS.new] at hx⟩
  obtain ⟨p4,_⟩:=p3 q
  exact ⟨p4.1,p4.2,p1.st,p1.fr⟩
end Go.Gm
namespace Go.Gm.AZ
open Go Go.Gm
def BldQ (o:Option NF)(r:AV)(h':Heap):Prop:=
 match o with
 |none=>r=.tup [.agg [I 0,I 0,I 0,.nils,.nils],I 4]
 |some nf=>∃sS sF:AV,r=.tup [.agg (nfC nf sS sF),I 0]/\NfV h' nf sS sF
theorem b9i (nv:NV h n c5)(g:Gd n)(bd:Bd n) :
  Tot tab a2u [.agg c5] h λr h'=>Ext h h'/\BldQ (nfaF n) r h':=by
 refine WP.tot (b0e · ..) ?_
 have hok:=nv
 obtain ⟨s5,rfl,h5⟩:∃s,c5=[I n.kind,I n.st,I n.lo,I n.hi,s]/\s.one=true:=by
  cases nv with
  |mk a b=>exact ⟨_,rfl,a.one⟩
 obtain ⟨h1,hh1⟩:∃h1,h1=((h++[AObj.cells ⟨[I n.kind,I n.st,I n.lo,I n.hi,s5],0,0,false⟩])++[AObj.cells ⟨[I 0,I 0,I 0,.nils,.nils],0,0,false⟩])++[AObj.cells ⟨[I 0,I 0,I 0,.nils,.nils,.bool false],0,0,false⟩]:=⟨_,rfl⟩
 have e1:Ext h h1:=by rw[hh1]; exact eX
 have l1:h1.length=h.length+3:=by rw[hh1]; simp
 have rt:h1[h.length+1]?=some (.cells ⟨[I 0,I 0,I 0,.nils,.nils],0,0,false⟩):=by rw[hh1]; simp
 have rb:h1[h.length+2]?=some (.cells ⟨[I 0,I 0,I 0,.nils,.nils,.bool false],0,0,false⟩):=by rw[hh1]; simp
 have v:BV (λo=>o=h.length+2) h1 (h.length+2) NS.new:=⟨.nils,.nils,0,0,rb,Gr.nil ..,Gr.nil ..,rfl,λz=>absurd rfl z,λz=>absurd rfl z⟩
 refine g1 @h5 ?_
 rw[<-hh1]
 refine WP.call (b9d n g bd h h1 _ _ _ _ hok e1 (λo ho=>oM) v NSok.new) ?_
 rintro r h2 ⟨rfl,v2,f2⟩
 have l2:=f2.len
 have rt2:h2[h.length+1]?=_:=(f2.get oM oM).trans rt
 have bt:=(List.getElem?_eq_some_iff.1 rt2).1
 obtain ⟨sS,sF,oS,oF,r1,gS,gF,w1,w2,w3⟩:=v2
 have e2:Ext h h2:=f2.ext e1 λo z1 z2=>oM
 have b2:=(List.getElem?_eq_some_iff.1 r1).1
 have os:=gS.sl.one
 have of':=gF.sl.one
 have key:nfaF n=if (NS.part n NS.new).2.much=true then none else some ⟨(NS.part n NS.new).2.n,(NS.part n NS.new).1.1,(NS.part n NS.new).1.2,(NS.part n NS.new).2.st,(NS.part n NS.new).2.fr⟩:=rfl
 obtain ⟨mu,hmu⟩:∃mu,(NS.part n NS.new).2.much=mu:=⟨_,rfl⟩
 rw[hmu] at r1 key
 obtain ⟨pa,hpa⟩:∃a,(NS.part n NS.new).1.1=a:=⟨_,rfl⟩
 obtain ⟨pb,hpb⟩:∃b,(NS.part n NS.new).1.2=b:=⟨_,rfl⟩
 rw[hpa,hpb] at key ⊢
 cases mu with
 |true=>
  refine g3 @a1_ @r1 @rt2 ?_
  rw[key]
  exact WP.ret ⟨e2.set oM _,rfl⟩
 |false=>
  rw[if_neg (by decide)] at key
  refine g5 @a1_ @r1 @rt2 @os @of' ?_
  have g1:Gr oS (oS+1) (((h2.set (h.length+1+1) (.cells ⟨[I (NS.part n NS.new).2.n,I pa,I 0,sS,sF,.bool false],0,0,false⟩)).set (h.length+1+1) (.cells ⟨[I (NS.part n NS.new).2.n,I pa,I pb,sS,sF,.bool false],0,0,false⟩)).set (h.length+1) (.cells ⟨[I (NS.part n NS.new).2.n,I pa,I pb,sS,sF],0,0,false⟩)) 3 sS ((NS.part n NS.new).2.st.map encS):=by
   refine t6_ (D:=λo=>o=h.length+1\/o=h.length+2) gS ((((FrS.set1 _ _ _).mono λq _ z=>?_).trans ((FrS.set1 _ _ _).mono λq _ z=>?_)).trans ((FrS.set1 _ _ _).mono λq _ z=>?_)) λz=>?_
   ·right; omega
   ·right; omega
   ·left; omega
   ·obtain ⟨z1,z2,z3⟩:=w2 z
    rcases z1 with z1|z1
    ·exact absurd z1 z3
    ·omega
  have g2:Gr oF (oF+1) (((h2.set (h.length+1+1) (.cells ⟨[I (NS.part n NS.new).2.n,I pa,I 0,sS,sF,.bool false],0,0,false⟩)).set (h.length+1+1) (.cells ⟨[I (NS.part n NS.new).2.n,I pa,I pb,sS,sF,.bool false],0,0,false⟩)).set (h.length+1) (.cells ⟨[I (NS.part n NS.new).2.n,I pa,I pb,sS,sF],0,0,false⟩)) 2 sF ((NS.part n NS.new).2.fr.map encF):=by
   refine t6_ (D:=λo=>o=h.length+1\/o=h.length+2) gF ((((FrS.set1 _ _ _).mono λq _ z=>?_).trans ((FrS.set1 _ _ _).mono λq _ z=>?_)).trans ((FrS.set1 _ _ _).mono λq _ z=>?_)) λz=>?_
   ·right; omega
   ·right; omega
   ·left; omega
   ·obtain ⟨z1,z2,z3,_⟩:=w3 z
    rcases z1 with z1|z1
    ·exact absurd z1 z3
    ·omega
  obtain ⟨n1,n2,n3,n4⟩:=c5B g key
  rw[key]
  exact WP.ret ⟨((e2.set oM _).set oM _).set oM _,sS,sF,rfl,g1.sl,g2.sl,c5A g key,n1,oM,oM,λx hx=>Nat.lt_of_lt_of_le (n4 x hx) (by decide)⟩
theorem a9i {D:List (List Int)}{acc:List Bool}(h:subF nf 200=some (D,acc)):DOk D acc:=by
 obtain ⟨sets,si⟩:=b4Q h
 have ld:=si.ld
 have la:=si.la
 have l0:=(List.getElem?_eq_some_iff.1 si.s0).1
 have hl:sets.length<=200:=by rcases si.sl with z|z<;>omega
 have row:∀s:Int,0<=s->s<D.length->∃t,RowOk nf sets t (gi D s) 0 5:=λs s0 s1=>by
  have hx:sets[s.toNat]?=some (sets[s.toNat]'oM):=List.getElem?_eq_getElem oM
  obtain ⟨r,r1,r2,_⟩:=si.row s.toNat _ oM hx
  have:gi D s=r:=by
   obtain ⟨q1,q2⟩:=List.getElem?_eq_some_iff.1 r1
   rw[show s=((s.toNat:Nat):Int) by omega,b2_ q1]; exact q2
  exact ⟨_,this▸r2⟩
 refine ⟨oM,oM,oM,λs s0 s1=>?_,λs m s0 s1 m0 m1=>?_⟩
 ·obtain ⟨t,r⟩:=row s s0 s1; exact r.1
 ·obtain ⟨t,r⟩:=row s s0 s1
  obtain ⟨j,j1,j2⟩:=r.2 m.toNat oM
  have:gi (gi D s) m=j:=by
   obtain ⟨q1,q2⟩:=List.getElem?_eq_some_iff.1 j1
   rw[show m=((m.toNat:Nat):Int) by omega,b2_ q1]; exact q2
  have:=(List.getElem?_eq_some_iff.1 j2).1
  omega
theorem a6P {D:List (List Int)}{acc:List Bool}(h:subF nf 200=some (D,acc)):D.length<=200:=by
 obtain ⟨sets,si⟩:=b4Q h
 have ld:=si.ld
 rcases si.sl with z|z<;>omega
def CmpQ (n:Nd)(lo:Nat)(r:AV)(h':Heap):Prop:=
 match nfaF n with
 |none=>r=.tup [.agg [.nils,.nils],I 4]
 |some nf=>match subF nf 200 with
  |none=>r=.tup [.agg [.nils,.nils],I 5]
  |some (D,acc)=>∃v,r=.tup [v,I 0]/\MinQ D acc lo v h'
def CmpQ2 (n:Nd)(lo:Nat)(r:AV)(h':Heap):Prop:=
 match nfaF n with
 |none=>r=.tup [.agg [.nils,.nils],I 4]
 |some nf=>match subF nf 200 with
  |none=>r=.tup [.agg [.nils,.nils],I 5]
  |some (D,acc)=>∃v,r=.tup [v,I 0]/\MinQ2 D acc lo v h'
theorem CmpQ2.q (a:CmpQ2 n lo r h'):CmpQ n lo r h':=by
 unfold CmpQ2 at a
 unfold CmpQ
 split
 ·rename_i e; rw[e] at a; exact a
 ·rename_i nf e
  rw[e] at a
  simp only at a
  split
  ·rename_i e2; rw[e2] at a; exact a
  ·rename_i D acc e2
   rw[e2] at a
   obtain ⟨v,a1,a2⟩:=a
   exact ⟨v,a1,a2.q⟩
theorem MinQ2.set {lo lo' o:Nat}(q:MinQ2 D acc lo v h)(ho:o<lo)(hl:lo'<=lo)(x:AObj):MinQ2 D acc lo' v (h.set o x):=by
 obtain ⟨D',acc',sN,sA,q1,q2,q3,q4⟩:=q
 exact ⟨D',acc',sN,sA,q1,(q2.set (.inl ho) x).mono hl (by simp),(q3.set (.inl ho) x).mono hl (by simp),q4⟩
theorem c8h {S:ByteArray}{f:Nat}{n:Nd}(hS:S.size<=200)(hf:f<=900000)(hp:prs S f 0 .un 0=some (n,S.size))(g:Gd n)(bd:Bd n)(h:Heap) :
  Tot tab b0_ [.str S] h λr h'=>Ext h h'/\CmpQ2 n h.length r h':=by
 refine WP.tot (a8P · ..) ?_
 obtain ⟨h1,hh1⟩:∃h1,h1=h++[AObj.cells ⟨[.nils,.nils],0,0,false⟩]:=⟨_,rfl⟩
 have e1:Ext h h1:=by rw[hh1]; exact Ext.push _ _
 have l1:h1.length=h.length+1:=by rw[hh1]; simp
 have rt:h1[h.length]?=some (.cells ⟨[.nils,.nils],0,0,false⟩):=by rw[hh1]; simp
 refine g0 ?_
 rw[<-hh1]
 refine WP.call (c2a hS hf hp h1) ?_
 rintro r h2 ⟨e2,c5,rfl,nv⟩
 have l2:=e2.len
 have rt2:=e2.get rt
 obtain ⟨s5,rfl,h5⟩:=nv.inv
 obtain ⟨h3,hh3⟩:∃h3,h3=h2++[AObj.cells ⟨[I n.kind,I n.st,I n.lo,I n.hi,s5],0,0,false⟩]:=⟨_,rfl⟩
 have e3:Ext h2 h3:=by rw[hh3]; exact Ext.push _ _
 have l3:h3.length=h2.length+1:=by rw[hh3]; simp
 have rn:h3[h2.length]?=some (.cells ⟨[I n.kind,I n.st,I n.lo,I n.hi,s5],0,0,false⟩):=by rw[hh3]; simp
 have rt3:=e3.get rt2
 have b3:=(List.getElem?_eq_some_iff.1 rt3).1
 refine g3 @a1_ @h5 @c9_ ?_
 rw[<-hh3]
 refine WP.call (b9i (nv.nv.keeps (Keeps.ofExt e3)) g bd) ?_
 rintro r h4 ⟨e4,q4⟩
 have rt4:=e4.get rt3
 have l4:=e4.len
 have b4:=(List.getElem?_eq_some_iff.1 rt4).1
 have e04:=((e1.trans e2).trans e3).trans e4
 have e45:∀x,Ext h4 (h4++[x]):=λx=>Ext.push _ _
 unfold CmpQ2
 cases hnf:nfaF n with
 |none=>
  rw[hnf] at q4
  obtain rfl:=q4
  refine g2 @a1_ @rt4 ?_
  exact WP.ret ⟨(((e04.trans (e45 _)).set oM _).set oM _),rfl⟩
 |some nf=>
  rw[hnf] at q4
  obtain ⟨sS,sF,rfl,v⟩:=q4
  have o1:=v.s.one
  have o2:=v.f.one
  obtain ⟨h5,hh5⟩:∃h5,h5=h4++[AObj.cells ⟨nfC nf sS sF,0,0,false⟩]:=⟨_,rfl⟩
  have e5:Ext h4 h5:=by rw[hh5]; exact Ext.push _ _
  have l5:h5.length=h4.length+1:=by rw[hh5]; simp
  have rt5:=e5.get rt4
  have b5:=(List.getElem?_eq_some_iff.1 rt5).1
  refine g4 @a1_ @o1 @o2 @c9_ ?_
  rw[<-hh5]
  refine WP.call (b6L (v.ext e5)) ?_
  rintro r h6 ⟨e6,q6⟩
  have rt6:=e6.get rt5
  have l6:=e6.len
  have b6:=(List.getElem?_eq_some_iff.1 rt6).1
  have e06:=(e04.trans e5).trans e6
  cases hsb:subF nf 200 with
  |none=>
   rw[hsb] at q6
   obtain rfl:=q6
   refine g2 @a1_ @rt6 ?_
   exact WP.ret ⟨((e06.trans (Ext.push _ _)).set oM _).set oM _,rfl⟩
  |some p=>
   obtain ⟨D,acc⟩:=p
   rw[hsb] at q6
   obtain ⟨sN,sA,rfl,gN,gA⟩:=q6
   have o1:=gN.sl.one
   have o2:=gA.sl.one
   obtain ⟨h7,hh7⟩:∃h7,h7=h6++[AObj.cells ⟨[sN,sA],0,0,false⟩]:=⟨_,rfl⟩
   have e7:Ext h6 h7:=by rw[hh7]; exact Ext.push _ _
   have l7:h7.length=h6.length+1:=by rw[hh7]; simp
   have rt7:=e7.get rt6
   have b7:=(List.getElem?_eq_some_iff.1 rt7).1
   refine g1 @a1_ ?_
   have hw:wrAt 2 (h6++[AObj.cells ⟨[.nils,.nils],0,0,false⟩]) (some (AObj.cells ⟨[.nils,.nils],0,0,false⟩)) h6.length 0 2 0 [sN,sA]=some h7:=by
    refine (g5_ (n:=2) (off:=0) (hi:=2) (vs:=[sN,sA]) rfl rfl oM (by simp[o1,o2])).trans ?_
    rw[c9_ rfl,hh7]
    rfl
   have rd7:h7[h6.length]?=some (.cells ⟨[sN,sA],0,0,false⟩):=by rw[hh7]; simp
   refine g2 @hw @rd7 ?_
   refine WP.call (c8C (a9i hsb) (gN.sl.ext e7) (gA.sl.ext e7)) ?_
   rintro r h8 ⟨e8,q8⟩
   have rt8:=e8.get rt7
   have l8:=e8.len
   have b8:=(List.getElem?_eq_some_iff.1 rt8).1
   obtain ⟨D',acc',sN',sA',rfl,q2⟩:=q8
   have o1:=q2.1.sl.one
   have o2:=q2.2.1.sl.one
   have hw:wrAt 2 h8 (some (AObj.cells ⟨[.nils,.nils],0,0,false⟩)) h.length 0 2 0 [sN',sA']=some (h8.set h.length (.cells ⟨[sN',sA'],0,0,false⟩)):=g5_ (n:=2) (off:=0) (hi:=2) (vs:=[sN',sA']) rfl rfl oM (by simp[o1,o2])
   refine g2 @rt8 @hw ?_
   have mq:MinQ2 D acc h7.length (.agg [sN',sA']) h8:=⟨D',acc',sN',sA',rfl,q2⟩
   exact WP.ret ⟨((e06.trans e7).trans e8).set oM _,_,rfl,mq.set oM oM _⟩
theorem y9_ {S:ByteArray}{f:Nat}{n:Nd}(hS:S.size<=200)(hf:f<=900000)(hp:prs S f 0 .un 0=some (n,S.size))(g:Gd n)(bd:Bd n)(h:Heap) :
  Tot tab b0_ [.str S] h λr h'=>Ext h h'/\CmpQ n h.length r h':=(c8h hS hf hp g bd h).mono λr h' ⟨a,b⟩=>⟨a,b.q⟩
end Go.Gm.AZ
namespace Go.Gm.AZ
open Go Go.Gm
def kE:List E:=[⟨0,1,0,4⟩]
def kD:List (List Int):=[[0,0,0,0,0]]
theorem kNet:NetOk (2:Nat) kE:=⟨oM,oM,by simp[kE],λe he=>by simp[kE] at he; subst he; simp⟩
theorem kCo:COk kE:=⟨λe he=>by simp[kE] at he; subst he; simp⟩
theorem kDok:DOk kD [true]:=by
 refine ⟨by simp[kD],by simp[kD],by simp[kD],λs s0 s1=>?_,λs m s0 s1 m0 m1=>?_⟩
 ·simp[kD] at s1
  obtain rfl:s=0:=oM
  rfl
 ·simp[kD] at s1
  obtain rfl:s=0:=oM
  have:m=0\/m=1\/m=2\/m=3\/m=4:=oM
  rcases this with rfl|rfl|rfl|rfl|rfl<;>decide
section
variable {h:Heap} {sE sD sA:AV}
theorem b0p {h:Heap}{o sz:Nat}{v:List AV}(hr:h[o]?=some (.cells ⟨v,0,0,false⟩))(hv:v.length=sz):Sl h sz (.sl o 0 1 sz none 0) [v]:=
 .inr ⟨o,0,none,0,_,rfl,hr,Nat.le_refl _,by simp[List.take_of_length_le (Nat.le_of_eq hv)],by simp[hv]⟩
end
end Go.Gm.AZ
namespace Go.Gm
def sgnB (m:Nat):Nat:=[119,98,99,102,116].getD m 0
def setS (s:Nat):List Nat:=((List.range 5).filter λm=>s.testBit m).map sgnB
def setT (s:Nat):List Nat:=if s=31 then [46] else if (setS s).length=1 then setS s else 91::(setS s++[93])
def isU:Nd->Bool
 |.uni _=>true
 |_=>false
def isJ:Nd->Bool
 |.join _=>true
 |_=>false
def prn (b:Bool)(t:List Nat):List Nat:=if b then 40::(t++[41]) else t
mutual
def txt:Nd->List Nat
 |.set s=>setT s
 |.emp=>[48]
 |.eps=>[95]
 |.join l=>txtj l
 |.uni l=>txtu l
 |.star n=>prn (isU n || isJ n) (txt n)++[42]
 |.plus n=>prn (isU n || isJ n) (txt n)++[43]
 |.opt n=>prn (isU n || isJ n) (txt n)++[63]
 |.rep a b n=>prn (isU n || isJ n) (txt n)++[123,48+a,44,48+b,125]
def txtj:List Nd->List Nat
 |[]=>[]
 |n::l=>prn (isU n || isJ n) (txt n)++txtj l
def txtu:List Nd->List Nat
 |[]=>[]
 |n::l=>prn (isU n) (txt n)++txtr l
def txtr:List Nd->List Nat
 |[]=>[]
 |n::l=>124::(prn (isU n) (txt n)++txtr l)
end
abbrev pcT (n:Nd):List Nat:=prn (isU n || isJ n) (txt n)
abbrev jnT (n:Nd):List Nat:=prn (isU n) (txt n)
def Sd (S:ByteArray):Nat->List Nat->Prop
 |_,[]=>True
 |p,c::t=>bt S p=some c/\Sd S (p+1) t
theorem a3e {S:ByteArray}:∀{a b:List Nat} {p:Nat},Sd S p (a++b)↔Sd S p a/\Sd S (p+a.length) b
 |[],b,p=>by simp[Sd]
 |c::a,b,p=>by
  simp only[List.cons_append,Sd,a3e (a:=a),List.length_cons]
  rw[show p+1+a.length=p+(a.length+1) by omega,and_assoc]
mutual
def dp:Nd->Nat
 |.join l=>1+dps l
 |.uni l=>1+dps l
 |.star n=>dp n
 |.plus n=>dp n
 |.opt n=>dp n
 |.rep _ _ n=>dp n
 |_=>0
def dps:List Nd->Nat
 |[]=>0
 |n::l=>max (dp n) (dps l)
end
mutual
def cst:Nd->Nat
 |.join l=>20+csts l
 |.uni l=>20+csts l
 |.star n=>10+cst n
 |.plus n=>10+cst n
 |.opt n=>10+cst n
 |.rep _ _ n=>10+cst n
 |_=>50
def csts:List Nd->Nat
 |[]=>0
 |n::l=>20+cst n+csts l
end
def Rd (S:ByteArray)(K d:Nat)(m:PM)(p:Nat)(r:Nd × Nat):Prop:=∀f,K<=f->prs S f d m p=some r
section
variable {S:ByteArray} {K K' d p q:Nat} {n:Nd} {r:Nd × Nat} {l:List Nd}
theorem Rd.le (h:Rd S K d m p r)(hk:K<=K'):Rd S K' d m p r:=λf hf=>h f oM
theorem o6_ {K f:Nat}(h:K+1<=f):∃g,f=g+1/\K<=g:=⟨f-1,oM,oM⟩
theorem rd_pc (h1:Rd S K d .at p (n,q))(h2:Rd S K' d (.pcl n) q r):Rd S (K+K'+1) d .pc p r:=by
 intro f hf
 obtain ⟨g,rfl,hg⟩:=o6_ hf
 simp only[prs,h1 g oM,h2 g oM]
def noSuf (x:Option Nat):Prop:=x≠some 42/\x≠some 43/\x≠some 63/\x≠some 123
theorem b8t (h:noSuf (bt S p)):Rd S 1 d (.pcl n) p (n,p):=by
 intro f hf
 obtain ⟨g,rfl,hg⟩:=o6_ hf
 try simp only[prs]
 cases hb:bt S p with
 |none=>rfl
 |some c=>
  rw[hb] at h
  obtain ⟨h1,h2,h3,h4⟩:=h
  simp only
  rw[if_neg (λz=>h1 (by rw[z])),if_neg (λz=>h2 (by rw[z])),if_neg (λz=>h3 (by rw[z])),if_neg (λz=>h4 (by rw[z]))]
theorem c4y (hb:bt S p=some 42)(h:Rd S K d (.pcl (.star n)) (p+1) r):Rd S (K+1) d (.pcl n) p r:=by
 intro f hf
 obtain ⟨g,rfl,hg⟩:=o6_ hf
 simp only[prs,hb]
 exact h g hg
theorem c4z (hb:bt S p=some 43)(h:Rd S K d (.pcl (.plus n)) (p+1) r):Rd S (K+1) d (.pcl n) p r:=by
 intro f hf
 obtain ⟨g,rfl,hg⟩:=o6_ hf
 simp only[prs,hb]
 exact h g hg
theorem c5F (hb:bt S p=some 63)(h:Rd S K d (.pcl (.opt n)) (p+1) r):Rd S (K+1) d (.pcl n) p r:=by
 intro f hf
 obtain ⟨g,rfl,hg⟩:=o6_ hf
 simp only[prs,hb]
 exact h g hg
theorem c5G {a b:Nat}(hab:a<=b)(hb9:b<=9)(hs:Sd S p [123,48+a,44,48+b,125])(h:Rd S K d (.pcl (.rep a b n)) (p+5) r):Rd S (K+1) d (.pcl n) p r:=by
 obtain ⟨h0,h1,h2,h3,h4,_⟩:=hs
 intro f hf
 obtain ⟨g,rfl,hg⟩:=o6_ hf
 have ht:tms S (p+1)=some (a,b,p+5):=by
  rw[show p+1+1+1=p+1+2 by omega] at h3
  rw[show p+1+1+1+1=p+1+3 by omega] at h4
  simp only[tms,h1,h3,dig]
  rw[if_pos oM,if_pos oM]
  simp only
  rw[if_pos ⟨h2,h4,oM⟩]
  simp only[Nat.add_sub_cancel_left,Option.some.injEq,Prod.mk.injEq]
 simp only[prs,h0,ht]
 exact h g hg
theorem rd_jn (h1:Rd S K d .pc p (n,q))(h2:Rd S K' d (.jnl [n]) q r):Rd S (K+K'+1) d .jn p r:=by
 intro f hf
 obtain ⟨g,rfl,hg⟩:=o6_ hf
 simp only[prs,h1 g oM,h2 g oM]
def endJ (x:Option Nat):Prop:=x=none\/x=some 124\/x=some 41
def endU (x:Option Nat):Prop:=x=none\/x=some 41
theorem endU.j (h:endU x):endJ x:=h.imp id .inr
theorem endJ.suf (h:endJ x):noSuf x:=by
 rcases h with rfl|rfl|rfl<;>simp[noSuf]
theorem b2E (h:endJ (bt S p)):Rd S 1 d (.jnl l) p (finJ l,p):=by
 intro f hf
 obtain ⟨g,rfl,hg⟩:=o6_ hf
 rcases h with h|h|h<;>simp[prs,h]
theorem c5H (hb:bt S p=some c)(h1:c≠124)(h2:c≠41)(h3:Rd S K d .pc p (n,q))(h4:Rd S K' d (.jnl (l++[n])) q r):Rd S (K+K'+1) d (.jnl l) p r:=by
 intro f hf
 obtain ⟨g,rfl,hg⟩:=o6_ hf
 simp only[prs,hb,if_neg h1,if_neg h2,h3 g oM,h4 g oM]
theorem rd_un (h1:Rd S K d .jn p (n,q))(h2:Rd S K' d (.unl [n]) q r):Rd S (K+K'+1) d .un p r:=by
 intro f hf
 obtain ⟨g,rfl,hg⟩:=o6_ hf
 simp only[prs,h1 g oM,h2 g oM]
theorem b2F (h:endU (bt S p)):Rd S 1 d (.unl l) p (finU l,p):=by
 intro f hf
 obtain ⟨g,rfl,hg⟩:=o6_ hf
 rcases h with h|h<;>simp[prs,h]
theorem c0U (hb:bt S p=some 124)(h3:Rd S K d .jn (p+1) (n,q))(h4:Rd S K' d (.unl (l++[n])) q r):Rd S (K+K'+1) d (.unl l) p r:=by
 intro f hf
 obtain ⟨g,rfl,hg⟩:=o6_ hf
 simp only[prs,hb,h3 g oM,h4 g oM]
 exact if_pos trivial
theorem c0V (hb:bt S p=some 40)(hd:d<30)(h:Rd S K (d+1) .un (p+1) (n,q))(h2:bt S q=some 41):Rd S (K+1) d .at p (n,q+1):=by
 intro f hf
 obtain ⟨g,rfl,hg⟩:=o6_ hf
 simp only[prs,hb]
 simp only[if_true,if_neg (show ¬30<=d by omega),h g hg,h2]
end
theorem c0W {S:ByteArray}:∀(ms:List Nat) (p s f:Nat),(∀m∈ms,m<5)->Sd S p (ms.map sgnB++[93])->0<s\/ms≠[]->ms.length<f->clsF S f p s=some (ms.foldl (λs m=>s ||| 2 ^ m) s,p+ms.length+1)
 |[],p,s,f,_,h,h0,hf=>by
  obtain ⟨g,rfl,_⟩:=o6_ hf
  have hs:0<s:=h0.resolve_right (by simp)
  simp only[List.map_nil,List.nil_append,Sd] at h
  simp[clsF,h.1,hs]
 |m::ms,p,s,f,hm,h,h0,hf=>by
  obtain ⟨g,rfl,hg⟩:=o6_ hf
  simp only[List.map_cons,List.cons_append,Sd] at h
  have h5:=hm m (by simp)
  have hmd:md (sgnB m)=some m/\sgnB m≠93:=by
   have:m=0\/m=1\/m=2\/m=3\/m=4:=oM
   rcases this with rfl|rfl|rfl|rfl|rfl<;>decide
  have hpos:0<s ||| 2 ^ m:=by
   have h1:2 ^ m<=s ||| 2 ^ m:=Nat.right_le_or
   have:0<2 ^ m:=Nat.two_pow_pos m
   omega
  rw[clsF,h.1]
  simp only
  rw[if_neg (λz=>hmd.2 z.1),hmd.1]
  simp only
  rw[c0W ms (p+1) (s ||| 2 ^ m) g (λx hx=>hm x (List.mem_cons_of_mem _ hx)) h.2 (.inl hpos) (by simp only[List.length_cons] at hf; omega)]
  simp only[List.foldl_cons,List.length_cons,Option.some.injEq,Prod.mk.injEq,true_and]
  omega
def msOf (s:Nat):List Nat:=(List.range 5).filter λm=>s.testBit m
theorem c4A:∀s:Fin 32,(msOf s.val).foldl (λ(s m:Nat)=>s ||| 2 ^ m) 0=s.val:=by decide
theorem ms_ne:∀s:Fin 32,0<s.val->msOf s≠[]:=by decide
theorem c5I:∀s:Fin 32,(setS s).length=1->∃m,m<5/\setS s=[sgnB m]/\s.val=2 ^ m:=by
 intro s
 have:∀s:Fin 32,(setS s).length=1->∃m:Fin 5,setS s=[sgnB m]/\s.val=2 ^ m.val:=by decide
 intro h
 obtain ⟨m,h1,h2⟩:=this s h
 exact ⟨m,m.2,h1,h2⟩
theorem ms_lt (s:Nat):∀m∈msOf s,m<5:=λm h=>by
 have:=(List.mem_filter.1 h).1
 simpa using this
theorem c5J (s:Nat):(msOf s).length<=5:=by
 have:=List.length_filter_le (λm=>s.testBit m) (List.range 5)
 simpa [msOf] using this
theorem c5K {S:ByteArray}{d p s:Nat}(h1:1<=s)(h2:s<=31)(h:Sd S p (setT s)):Rd S 20 d .at p (.set s,p+(setT s).length):=by
 intro f hf
 obtain ⟨g,rfl,hg⟩:=o6_ hf
 rw[setT] at h ⊢
 by_cases q:s=31
 ·rw[if_pos q] at h ⊢
  obtain ⟨hb,_⟩:=h
  simp[prs,hb,md,q]
 ·rw[if_neg q] at h ⊢
  by_cases q2:(setS s).length=1
  ·rw[if_pos q2] at h ⊢
   obtain ⟨m,m5,e1,e2⟩:=c5I ⟨s,oM⟩ q2
   simp only at e1 e2
   rw[e1] at h ⊢
   obtain ⟨hb,_⟩:=h
   have hmd:md (sgnB m)=some m/\sgnB m≠40:=by
    have:m=0\/m=1\/m=2\/m=3\/m=4:=oM
    rcases this with rfl|rfl|rfl|rfl|rfl<;>decide
   simp only[prs,hb]
   rw[if_neg hmd.2,hmd.1,e2]
   rfl
  ·rw[if_neg q2] at h ⊢
   obtain ⟨hb,h⟩:=h
   have hc:=c0W (msOf s) (p+1) 0 g (ms_lt s) h (.inr (ms_ne ⟨s,oM⟩ (by simp only; omega))) (by have:=c5J s; omega)
   rw[show (msOf s).foldl (λs m=>s ||| 2 ^ m) 0=s from c4A ⟨s,oM⟩] at hc
   simp only[prs,hb]
   rw[if_neg oM,show md 91=none from rfl]
   simp only
   rw[if_neg oM,if_neg oM,if_neg oM,if_pos trivial,hc]
   simp only[List.length_cons,List.length_append,List.length_nil,Option.some.injEq,Prod.mk.injEq,true_and]
   have:(setS s).length=(msOf s).length:=by simp[setS,msOf]
   omega
def okH (c:Nat):Prop:=c≠42/\c≠43/\c≠63/\c≠123/\c≠124/\c≠41
theorem c4B:∀s:Fin 32,∃c t,setT s.val=c::t/\okH c:=by
 have:∀s:Fin 32,(setT s.val).headD 42≠42/\(setT s.val).headD 42≠43/\(setT s.val).headD 42≠63/\(setT s.val).headD 42≠123/\(setT s.val).headD 42≠124/\(setT s.val).headD 42≠41:=by decide
 intro s
 have h:=this s
 cases hs:setT s.val with
 |nil=>rw[hs] at h; exact absurd rfl h.1
 |cons c t=>rw[hs] at h; exact ⟨c,t,rfl,h⟩
theorem a6d {t:List Nat}(h:∃c u,t=c::u/\okH c):∃c u,prn b t=c::u/\okH c:=by
 cases b with
 |false=>exact h
 |true=>exact ⟨40,t++[41],rfl,by simp[okH]⟩
theorem b0U {t u:List Nat}(h:∃c v,t=c::v/\okH c):∃c v,t++u=c::v/\okH c:=by
 obtain ⟨c,v,rfl,h⟩:=h
 exact ⟨c,v++u,rfl,h⟩
theorem b7i (n:Nd):Gd n->∃c t,txt n=c::t/\okH c:=by
 refine Nd.ind (p:=λn=>Gd n->∃c t,txt n=c::t/\okH c) (λn ih g=>?_) n
 cases n with
 |set s=>exact c4B ⟨s,by have:=g.rt.2; omega⟩
 |emp=>exact ⟨48,[],by rw[txt],by simp[okH]⟩
 |eps=>exact ⟨95,[],by rw[txt],by simp[okH]⟩
 |star c=>rw[txt]; exact b0U (a6d (ih c (by simp[Nd.kids]) (g.kid c (by simp[Nd.kids]))))
 |plus c=>rw[txt]; exact b0U (a6d (ih c (by simp[Nd.kids]) (g.kid c (by simp[Nd.kids]))))
 |opt c=>rw[txt]; exact b0U (a6d (ih c (by simp[Nd.kids]) (g.kid c (by simp[Nd.kids]))))
 |rep a b c=>rw[txt]; exact b0U (a6d (ih c (by simp[Nd.kids]) (g.kid c (by simp[Nd.kids]))))
 |join l=>
  cases l with
  |nil=>have:2<=0:=g.rt; omega
  |cons c l=>rw[txt,txtj]; exact b0U (a6d (ih c (by simp[Nd.kids]) (g.kid c (by simp[Nd.kids]))))
 |uni l=>
  cases l with
  |nil=>have:2<=0:=g.rt; omega
  |cons c l=>rw[txt,txtu]; exact b0U (a6d (ih c (by simp[Nd.kids]) (g.kid c (by simp[Nd.kids]))))
section
variable {S:ByteArray}
def PS (S:ByteArray)(n:Nd):Prop:=∀(d p K:Nat) (r:Nd × Nat),d+dp n<=30->Sd S p (pcT n)->Rd S K d (.pcl n) (p+(pcT n).length) r->Rd S (K+cst n+10) d .pc p r
def JS (S:ByteArray)(n:Nd):Prop:=∀(d p:Nat),d+dp n<=30->Sd S p (jnT n)->endJ (bt S (p+(jnT n).length))->Rd S (cst n+15) d .jn p (n,p+(jnT n).length)
def US (S:ByteArray)(n:Nd):Prop:=∀(d p:Nat),d+dp n<=(if (isU n || isJ n)=true then 31 else 30)->Sd S p (txt n)->endU (bt S (p+(txt n).length))->Rd S (cst n+if (isU n || isJ n)=true then 0 else 18) d .un p (n,p+(txt n).length)
theorem PS.one (h:PS S n){d p:Nat}(hd:d+dp n<=30)(hs:Sd S p (pcT n))(he:noSuf (bt S (p+(pcT n).length))):Rd S (cst n+11) d .pc p (n,p+(pcT n).length):=
 (h d p 1 _ hd hs (b8t he)).le oM
theorem PS.js (h:PS S n)(hj:isJ n=false):JS S n:=by
 intro d p hd hs he
 have e:jnT n=pcT n:=by simp[jnT,pcT,hj]
 rw[e] at hs he ⊢
 exact (rd_jn (h.one hd hs he.suf) (b2E he)).le oM
theorem JS.us (h:JS S n)(hu:isU n=false){d p:Nat}(hd:d+dp n<=30)(hs:Sd S p (txt n))(he:endU (bt S (p+(txt n).length))):Rd S (cst n+17) d .un p (n,p+(txt n).length):=by
 have e:jnT n=txt n:=by simp[jnT,prn,hu]
 have h1:=h d p hd (by rw[e]; exact hs) (by rw[e]; exact he.j)
 rw[e] at h1
 exact (rd_un h1 (b2F he)).le oM
theorem c5L (hb:(isU n || isJ n)=true):1<=dp n:=by
 cases n<;>simp[isU,isJ] at hb<;>rw[dp]<;>omega
theorem US.ps (h:US S n)(hb:(isU n || isJ n)=true):PS S n:=by
 intro d p K r hd hs hr
 have h1:=c5L hb
 have e:pcT n=40::(txt n++[41]):=by simp only[pcT,prn,hb,if_true]
 rw[e] at hs hr
 obtain ⟨h0,hs⟩:=hs
 obtain ⟨h1,h2⟩:=a3e.1 hs
 obtain ⟨h2,_⟩:=h2
 have hu:=h (d+1) (p+1) (by rw[if_pos hb]; omega) h1 (.inr h2)
 rw[if_pos hb] at hu
 have h3:=c0V h0 oM hu h2
 simp only[List.length_cons,List.length_append,List.length_nil] at hr
 rw[show p+((txt n).length+(0+1)+1)=p+1+(txt n).length+1 by omega] at hr
 exact (rd_pc h3 hr).le oM
theorem c0X:∀(l:List Nd),(∀c∈l,PS S c/\Gd c)->∀(acc:List Nd) (d p:Nat),d+dps l<=30->Sd S p (txtj l)->endJ (bt S (p+(txtj l).length))->Rd S (csts l+1) d (.jnl acc) p (finJ (acc++l),p+(txtj l).length)
 |[],_,acc,d,p,_,_,he=>by
  rw[txtj] at he ⊢
  rw[List.append_nil]
  exact b2E he
 |n::l,hl,acc,d,p,hd,hs,he=>by
  rw[dps] at hd
  rw[txtj] at hs he ⊢
  obtain ⟨h1,h2⟩:=a3e.1 hs
  obtain ⟨hp,hg⟩:=hl n (by simp)
  obtain ⟨c,t,e1,e2⟩:=a6d (b:=isU n || isJ n) (b7i n hg)
  rw[List.length_append,<-Nat.add_assoc] at he ⊢
  have hb:bt S p=some c:=by rw[e1] at h1; exact h1.1
  have hn:noSuf (bt S (p+(prn (isU n || isJ n) (txt n)).length)):=by
   cases l with
   |nil=>
    rw[txtj] at he
    exact he.suf
   |cons m l=>
    obtain ⟨c',t',e3,e4⟩:=a6d (b:=isU m || isJ m) (b7i m (hl m (by simp)).2)
    rw[txtj,e3] at h2
    rw[h2.1]
    simp only[okH] at e4
    simp[noSuf,e4]
  have h3:=hp.one (d:=d) (by omega) h1 hn
  have ec:csts (n::l)=20+cst n+csts l:=by simp[csts]
  have h4:=c0X l (fun c hc=>hl c (List.mem_cons_of_mem _ hc)) (acc++[n]) d (p+(prn (isU n || isJ n) (txt n)).length) (by omega) h2 he
  rw[List.append_assoc,List.singleton_append] at h4
  exact (c5H hb e2.2.2.2.2.1 e2.2.2.2.2.2 h3 h4).le (by omega)
theorem c0Y:∀(l:List Nd),(∀c∈l,JS S c)->∀(acc:List Nd) (d p:Nat),d+dps l<=30->Sd S p (txtr l)->endU (bt S (p+(txtr l).length))->Rd S (csts l+1) d (.unl acc) p (finU (acc++l),p+(txtr l).length)
 |[],_,acc,d,p,_,_,he=>by
  rw[txtr] at he ⊢
  rw[List.append_nil]
  exact b2F he
 |n::l,hl,acc,d,p,hd,hs,he=>by
  rw[dps] at hd
  rw[txtr] at hs he ⊢
  obtain ⟨h0,hs⟩:=hs
  obtain ⟨h1,h2⟩:=a3e.1 hs
  rw[List.length_cons,List.length_append] at he ⊢
  rw[show p+((prn (isU n) (txt n)).length+(txtr l).length+1)=p+1+(prn (isU n) (txt n)).length+(txtr l).length by omega] at he ⊢
  have hn:endJ (bt S (p+1+(prn (isU n) (txt n)).length)):=by
   cases l with
   |nil=>rw[txtr] at he; exact he.j
   |cons m l=>rw[txtr] at h2; exact .inr (.inl h2.1)
  have h3:=hl n (by simp) d (p+1) (by omega) h1 hn
  have ec:csts (n::l)=20+cst n+csts l:=by simp[csts]
  have h4:=c0Y l (fun c hc=>hl c (List.mem_cons_of_mem _ hc)) (acc++[n]) d (p+1+(prn (isU n) (txt n)).length) (by omega) h2 he
  rw[List.append_assoc,List.singleton_append] at h4
  exact (c0U h0 h3 h4).le (by omega)
theorem read (n:Nd):Gd n->PS S n/\JS S n/\US S n:=by
 refine Nd.ind (p:=λn=>Gd n->PS S n/\JS S n/\US S n) (λn ih g=>?_) n
 have plain:(isU n || isJ n)=false->PS S n->PS S n/\JS S n/\US S n:=λhb h=>by
  have hu:isU n=false:=by cases hq:isU n<;>simp_all
  have hj:isJ n=false:=by cases hq:isJ n<;>simp_all
  have h2:=h.js hj
  refine ⟨h,h2,λd p hd hs he=>?_⟩
  rw[hb] at hd ⊢
  exact (h2.us hu (by simpa using hd) hs he).le (by simp)
 cases n with
 |set s=>
  have e:pcT (.set s)=setT s:=by simp[pcT,prn,isU,isJ,txt]
  refine plain rfl fun d p K r hd hs hr=>?_
  rw[e] at hs hr
  have ec:cst (.set s)=50:=by simp[cst]
  exact (rd_pc (c5K g.rt.1 g.rt.2 hs) hr).le (by omega)
 |emp=>
  have e:pcT .emp=[48]:=by simp[pcT,prn,isU,isJ,txt]
  refine plain rfl λd p K r hd hs hr=>?_
  rw[e] at hs hr
  have ec:cst .emp=50:=by simp[cst]
  refine (rd_pc (K:=1) (n:=.emp) (q:=p+1) (λf hf=>?_) hr).le oM
  obtain ⟨g,rfl,hg⟩:=o6_ hf
  simp[prs,hs.1,md]
 |eps=>
  have e:pcT .eps=[95]:=by simp[pcT,prn,isU,isJ,txt]
  refine plain rfl λd p K r hd hs hr=>?_
  rw[e] at hs hr
  have ec:cst .eps=50:=by simp[cst]
  refine (rd_pc (K:=1) (n:=.eps) (q:=p+1) (λf hf=>?_) hr).le oM
  obtain ⟨g,rfl,hg⟩:=o6_ hf
  simp[prs,hs.1,md]
 |star c=>
  have e:pcT (.star c)=pcT c++[42]:=by simp[pcT,prn,isU,isJ,txt]
  refine plain rfl λd p K r hd hs hr=>?_
  rw[e] at hs hr
  obtain ⟨h1,h2⟩:=a3e.1 hs
  rw[List.length_append,<-Nat.add_assoc] at hr
  rw[dp] at hd
  have ec:cst (.star c)=10+cst c:=by simp[cst]
  exact ((ih c (by simp[Nd.kids]) (g.kid c (by simp[Nd.kids]))).1 d p (K+1) r hd h1 (c4y h2.1 hr)).le oM
 |plus c=>
  have e:pcT (.plus c)=pcT c++[43]:=by simp[pcT,prn,isU,isJ,txt]
  refine plain rfl λd p K r hd hs hr=>?_
  rw[e] at hs hr
  obtain ⟨h1,h2⟩:=a3e.1 hs
  rw[List.length_append,<-Nat.add_assoc] at hr
  rw[dp] at hd
  have ec:cst (.plus c)=10+cst c:=by simp[cst]
  exact ((ih c (by simp[Nd.kids]) (g.kid c (by simp[Nd.kids]))).1 d p (K+1) r hd h1 (c4z h2.1 hr)).le oM
 |opt c=>
  have e:pcT (.opt c)=pcT c++[63]:=by simp[pcT,prn,isU,isJ,txt]
  refine plain rfl λd p K r hd hs hr=>?_
  rw[e] at hs hr
  obtain ⟨h1,h2⟩:=a3e.1 hs
  rw[List.length_append,<-Nat.add_assoc] at hr
  rw[dp] at hd
  have ec:cst (.opt c)=10+cst c:=by simp[cst]
  exact ((ih c (by simp[Nd.kids]) (g.kid c (by simp[Nd.kids]))).1 d p (K+1) r hd h1 (c5F h2.1 hr)).le oM
 |rep a b c=>
  have e:pcT (.rep a b c)=pcT c++[123,48+a,44,48+b,125]:=by simp[pcT,prn,isU,isJ,txt]
  refine plain rfl λd p K r hd hs hr=>?_
  rw[e] at hs hr
  obtain ⟨h1,h2⟩:=a3e.1 hs
  rw[List.length_append,<-Nat.add_assoc] at hr
  rw[dp] at hd
  have ec:cst (.rep a b c)=10+cst c:=by simp[cst]
  exact ((ih c (by simp[Nd.kids]) (g.kid c (by simp[Nd.kids]))).1 d p (K+1) r hd h1 (c5G g.rt.1 g.rt.2 h2 hr)).le oM
 |join l=>
  have hk:∀c∈l,PS S c/\Gd c:=fun c hc=>⟨(ih c hc (g.kid c hc)).1,g.kid c hc⟩
  have hl:2<=l.length:=g.rt
  have J:∀d p,d+dps l<=30->Sd S p (txtj l)->endJ (bt S (p+(txtj l).length))->Rd S (csts l) d .jn p (.join l,p+(txtj l).length):=by
   intro d p hd hs he
   match l,hl,hk,hd,hs,he with
   |a::b::r,_,hk,hd,hs,he=>
    rw[dps] at hd
    rw[txtj] at hs he ⊢
    obtain ⟨h1,h2⟩:=a3e.1 hs
    rw[List.length_append,<-Nat.add_assoc] at he ⊢
    obtain ⟨c',t',e3,e4⟩:=a6d (b:=isU b || isJ b) (b7i b (hk b (by simp)).2)
    have hn:noSuf (bt S (p+(prn (isU a || isJ a) (txt a)).length)):=by
     rw[txtj,e3] at h2
     rw[h2.1]
     simp only[okH] at e4
     simp[noSuf,e4]
    have h3:=(hk a (by simp)).1.one (d:=d) oM h1 hn
    have h4:=c0X (b::r) (λc hc=>hk c (List.mem_cons_of_mem _ hc)) [a] d (p+(prn (isU a || isJ a) (txt a)).length) oM h2 he
    have ec:csts (a::b::r)=20+cst a+csts (b::r):=by simp[csts]
    exact (rd_jn h3 h4).le oM
  have hU:US S (.join l):=by
   intro d p hd hs he
   have hd':d+dp (.join l)<=31:=by simpa [isU,isJ] using hd
   rw[dp] at hd'
   rw[txt] at hs he ⊢
   have ec:cst (.join l)=20+csts l:=by simp[cst]
   rw[if_pos (show (isU (.join l) || isJ (.join l))=true from rfl)]
   exact (rd_un (J d p oM hs he.j) (b2F he)).le oM
  refine ⟨hU.ps rfl,λd p hd hs he=>?_,hU⟩
  have e:jnT (.join l)=txtj l:=by simp[jnT,prn,isU,txt]
  rw[e] at hs he ⊢
  rw[dp] at hd
  have ec:cst (.join l)=20+csts l:=by simp[cst]
  exact (J d p oM hs he).le oM
 |uni l=>
  have hk:∀c∈l,JS S c:=fun c hc=>(ih c hc (g.kid c hc)).2.1
  have hl:2<=l.length:=g.rt
  have hU:US S (.uni l):=by
   intro d p hd hs he
   have hd':d+dp (.uni l)<=31:=by simpa [isU,isJ] using hd
   rw[dp] at hd'
   rw[txt] at hs he ⊢
   rw[if_pos (show (isU (.uni l) || isJ (.uni l))=true from rfl)]
   have ec:cst (.uni l)=20+csts l:=by simp[cst]
   rw[ec]
   clear ec
   match l,hl,hk,hd',hs,he with
   |a::b::r,_,hk,hd,hs,he=>
    rw[dps] at hd
    rw[txtu] at hs he ⊢
    obtain ⟨h1,h2⟩:=a3e.1 hs
    rw[List.length_append,<-Nat.add_assoc] at he ⊢
    have hn:endJ (bt S (p+(prn (isU a) (txt a)).length)):=by
     rw[txtr] at h2; exact .inr (.inl h2.1)
    have h3:=hk a (by simp) d p oM h1 hn
    have h4:=c0Y (b::r) (λc hc=>hk c (List.mem_cons_of_mem _ hc)) [a] d (p+(prn (isU a) (txt a)).length) oM h2 he
    have ec:csts (a::b::r)=20+cst a+csts (b::r):=by simp[csts]
    exact (rd_un h3 h4).le oM
  exact ⟨hU.ps rfl,(hU.ps rfl).js rfl,hU⟩
end
def ofL (l:List Nat):ByteArray:=⟨(l.map UInt8.ofNat).toArray⟩
theorem q7_ (l:List Nat):(ofL l).size=l.length:=by
 show (l.map UInt8.ofNat).toArray.size=_
 simp
theorem b7j {l:List Nat}(h:∀c∈l,c<256)(p:Nat):bt (ofL l) p=l[p]?:=by
 try simp only[bt]
 by_cases hp:p<l.length
 ·have hp':p<(ofL l).size:=by rw[q7_]; exact hp
  rw[getElem?_pos (ofL l) p hp',List.getElem?_eq_getElem hp]
  have:(ofL l)[p]=UInt8.ofNat l[p]:=by
   show (l.map UInt8.ofNat).toArray[p]'(by simpa using hp)=_
   simp
  rw[this]
  simp only[Option.map_some,Option.some.injEq]
  have:=h l[p] (List.getElem_mem hp)
  simp[UInt8.toNat_ofNat',Nat.mod_eq_of_lt this]
 ·rw[List.getElem?_eq_none oM,getElem?_neg (ofL l) p (by rw[q7_]; exact hp)]
  rfl
theorem b7k {l:List Nat}(h:∀c∈l,c<256):∀(t:List Nat) (p:Nat),l.drop p=t->Sd (ofL l) p t
 |[],p,_=>trivial
 |c::t,p,e=>by
  have h1:l[p]?=some c:=by
   have:=congrArg List.head? e
   simpa [List.head?_drop] using this
  refine ⟨by rw[b7j h]; exact h1,b7k h t (p+1) ?_⟩
  rw[<-List.drop_drop,e]; rfl
theorem b4l {t:List Nat}(h:∀c∈t,c<256):∀c∈prn b t,c<256:=by
 cases b with
 |false=>exact h
 |true=>
  intro c hc
  simp only[prn,if_true,List.mem_cons,List.mem_append,List.not_mem_nil,or_false] at hc
  rcases hc with rfl|hc|rfl
  ·omega
  ·exact h c hc
  ·omega
theorem c4C:∀s:Fin 32,∀c∈setT s,c<256:=by decide
theorem b8u:∀(l:List Nd),(∀c∈l,∀b∈txt c,b<256)->∀b∈txtj l,b<256
 |[],_,b,hb=>by rw[txtj] at hb; cases hb
 |n::l,h,b,hb=>by
  rw[txtj,List.mem_append] at hb
  rcases hb with hb|hb
  ·exact b4l (h n (by simp)) b hb
  ·exact b8u l (λc hc=>h c (List.mem_cons_of_mem _ hc)) b hb
theorem b8v:∀(l:List Nd),(∀c∈l,∀b∈txt c,b<256)->∀b∈txtr l,b<256
 |[],_,b,hb=>by rw[txtr] at hb; cases hb
 |n::l,h,b,hb=>by
  rw[txtr,List.mem_cons,List.mem_append] at hb
  rcases hb with rfl|hb|hb
  ·omega
  ·exact b4l (h n (by simp)) b hb
  ·exact b8v l (λc hc=>h c (List.mem_cons_of_mem _ hc)) b hb
theorem b7l (n:Nd):Gd n->∀b∈txt n,b<256:=by
 refine Nd.ind (p:=λn=>Gd n->∀b∈txt n,b<256) (λn ih g b hb=>?_) n
 have one:∀{c:Nd} {t:List Nat},c∈n.kids->(∀x∈t,x<256)->b∈prn (isU c || isJ c) (txt c)++t->b<256:=fun {c t} hc ht hb=>by
  rcases List.mem_append.1 hb with hb|hb
  ·exact b4l (ih c hc (g.kid c hc)) b hb
  ·exact ht b hb
 cases n with
 |set s=>rw[txt] at hb; exact c4C ⟨s,by have:=g.rt.2; omega⟩ b hb
 |emp=>rw[txt] at hb; simp at hb; omega
 |eps=>rw[txt] at hb; simp at hb; omega
 |star c=>rw[txt] at hb; exact one (by simp[Nd.kids]) (by simp) hb
 |plus c=>rw[txt] at hb; exact one (by simp[Nd.kids]) (by simp) hb
 |opt c=>rw[txt] at hb; exact one (by simp[Nd.kids]) (by simp) hb
 |rep x y c=>
  rw[txt] at hb
  obtain ⟨h1,h2⟩:x<=y/\y<=9:=g.rt
  refine one (by simp[Nd.kids]) (λz hz=>?_) hb
  simp only[List.mem_cons,List.not_mem_nil,or_false] at hz
  omega
 |join l=>rw[txt] at hb; exact b8u l (λc hc=>ih c hc (g.kid c hc)) b hb
 |uni l=>
  rw[txt] at hb
  cases l with
  |nil=>rw[txtu] at hb; cases hb
  |cons a l=>
   rw[txtu,List.mem_append] at hb
   rcases hb with hb|hb
   ·exact b4l (ih a (by simp[Nd.kids]) (g.kid a (by simp[Nd.kids]))) b hb
   ·exact b8v l (λc hc=>ih c (by simp[Nd.kids,hc]) (g.kid c (by simp[Nd.kids,hc]))) b hb
theorem a6T (g:Gd n)(hd:dp n<=30):prs (ofL (txt n)) (cst n+18) 0 .un 0=some (n,(ofL (txt n)).size):=by
 have h1:=b7l n g
 have h2:=(read (S:=ofL (txt n)) n g).2.2 0 0 (by split<;>omega) (b7k h1 _ 0 rfl) (.inl (by rw[b7j h1,Nat.zero_add]; simp)) (cst n+18) (by split<;>omega)
 rw[h2,q7_,Nat.zero_add]
end Go.Gm
namespace Go.Gm.AZ
open Go Go.Gm
mutual
def gdB:Nd->Bool
 |.set s=>decide (1<=s/\s<=31)
 |.emp=>true
 |.eps=>true
 |.join l=>decide (2<=l.length/\l.length<=1000) && gdBs l
 |.uni l=>decide (2<=l.length/\l.length<=1000) && gdBs l
 |.star n=>gdB n
 |.plus n=>gdB n
 |.opt n=>gdB n
 |.rep a b n=>decide (a<=b/\b<=9) && gdB n
def gdBs:List Nd->Bool
 |[]=>true
 |n::l=>gdB n && gdBs l
end
theorem b3t:∀{l:List Nd},gdBs l=true->∀c∈l,gdB c=true
 |[],_,c,hc=>by simp at hc
 |n::l,h,c,hc=>by
  simp only[gdBs,Bool.and_eq_true] at h
  rcases List.mem_cons.1 hc with rfl|hc
  ·exact h.1
  ·exact b3t h.2 c hc
theorem c5c (g:Gd n)(h:n.kids.length<=1000)(hk:∀c∈n.kids,Bd c):Bd n:=.mk (Nat.lt_trans (st_lt g) (by decide)) h hk
theorem b2c (n:Nd):gdB n=true->Gd n/\Bd n:=by
 refine Nd.ind (p:=λn=>gdB n=true->Gd n/\Bd n) (λn ih h=>?_) n
 have key:RtN n->n.kids.length<=1000->(∀c∈n.kids,gdB c=true)->Gd n/\Bd n:=λh1 h2 h3=>by
  have g:Gd n:=.mk h1 λc hc=>(ih c hc (h3 c hc)).1
  exact ⟨g,c5c g h2 λc hc=>(ih c hc (h3 c hc)).2⟩
 cases n with
 |set s=>simp only[gdB,decide_eq_true_eq] at h; exact key h (by simp[Nd.kids]) (by simp[Nd.kids])
 |emp=>exact key trivial (by simp[Nd.kids]) (by simp[Nd.kids])
 |eps=>exact key trivial (by simp[Nd.kids]) (by simp[Nd.kids])
 |join l=>simp only[gdB,Bool.and_eq_true,decide_eq_true_eq] at h; exact key h.1.1 h.1.2 (b3t h.2)
 |uni l=>simp only[gdB,Bool.and_eq_true,decide_eq_true_eq] at h; exact key h.1.1 h.1.2 (b3t h.2)
 |star c=>rw[gdB] at h; exact key trivial (by simp[Nd.kids]) (by simpa [Nd.kids] using h)
 |plus c=>rw[gdB] at h; exact key trivial (by simp[Nd.kids]) (by simpa [Nd.kids] using h)
 |opt c=>rw[gdB] at h; exact key trivial (by simp[Nd.kids]) (by simpa [Nd.kids] using h)
 |rep a b c=>simp only[gdB,Bool.and_eq_true,decide_eq_true_eq] at h; exact key h.1 (by simp[Nd.kids]) (by simpa [Nd.kids] using h.2)
structure Kn where
 n:Nd
 u:Nat
 b:Int
 l:List Nat
 p:List Int
 deriving Inhabited
def kns:List Kn:=[
 ⟨.star (.set 31),3,4,[0,1,3],[0,2,-1,1,-1,2,-1,4]⟩,
 ⟨.star (.set 1),2,2,[0,1],[0,-1,2,-1,1,3,-1,2,4,-1,-1,4]⟩,
 ⟨.star (.set 4),2,5,[2],[0,2,-1,-1,1,-1,-1,2,5,-1,4,-1]⟩,
 ⟨.join [.set 4,.opt (.set 2),.set 16],3,7,[2,3],[0,2,-1,5,-1,-1,1,-1,-1,-1,-1,2,5,-1,-1,-1,4,-1,-1,7]⟩,
 ⟨.join [.set 1,.set 1],2,2,[0,1],[0,-1,2,-1,-1,1,3,-1,-1,-1,4,2,-1,-1,4,-1]⟩,
 ⟨.join [.star (.set 1),.set 16],3,4,[0,1,3],[0,-1,2,-1,-1,1,3,-1,-1,2,4,-1,-1,-1,6,4]⟩,
 ⟨.join [.set 4,.set 16],3,7,[2,3],[0,2,-1,-1,-1,1,-1,-1,-1,2,5,-1,-1,4,-1,7]⟩,
 ⟨.join [.star (.set 31),.set 8],3,11,[0,1,3,5],[0,2,-1,-1,1,-1,-1,2,-1,-1,4,11]⟩,
 ⟨.join [.set 1,.set 1,.set 2,.set 1,.set 1,.set 16],3,6,[0,1,4,0,1,3],[0,-1,4,-1,2,-1,-1,-1,-1,1,5,-1,-1,3,-1,-1,-1,-1,5,2,-1,-1,4,-1,-1,-1,4,-1,-1,-1,-1,6]⟩,
 ⟨.eps,0,0,[],[0,2,-1,1,-1,2,-1,4]⟩,
 ⟨.emp,0,-1,[],[0,2,-1,1,-1,2,-1,4]⟩,
 ⟨.plus (.join [.set 1,.set 1,.set 2]),0,2,[0,1,4],[0,-1,5,-1,2,-1,1,6,-1,-1,-1,-1,5,2,-1,-1,-1,4,-1,-1]⟩,
 ⟨.join [.rep 4 4 (.set 1),.set 16],3,-1,[],[0,-1,2,-1,-1,-1,-1,-1,1,3,-1,-1,-1,-1,-1,-1,4,2,-1,-1,-1,-1,-1,4,-1,-1,-1,-1]⟩,
 ⟨.join [.rep 6 6 (.set 31),.star (.set 16)],3,6,[0,1,4,0,1,3],[0,-1,5,2,10,7,4,6,-1,-1,1,-1,6,3,11,8,5,-1,-1,5,2,10,7,4,12,6,-1,-1,-1,7,4,11,9,6,8,14]⟩]
end Go.Gm.AZ
namespace Go.Gm.AZ
open Go Go.Gm
theorem a3f (es:List E)(v:Int)(l l':List Nat):atV es v (l++l')=atV es (atV es v l) l':=by simp[atV]
theorem a0e (es:List E)(l l':List Nat):atC es (l++l')=atC es l+atC es l':=by
 have:∀(l':List Nat) (c:Int),l'.foldl (λc e=>c+(eg es e).co) c=c+l'.foldl (λc e=>c+(eg es e).co) 0:=by
  intro l'
  induction l' with
  |nil=>intro c; simp
  |cons a l' ih=>intro c; rw[List.foldl_cons,List.foldl_cons,ih,ih (0+_)]; omega
 rw[atC,List.foldl_append,this]; rfl
theorem b0M (h:OkW es v l)(h':OkW es (atV es v l) l'):OkW es v (l++l'):=by
 intro i e hi
 by_cases q:i<l.length
 ·rw[List.getElem?_append_left q] at hi
  rw[List.take_append_of_le_length oM]
  exact h i e hi
 ·rw[List.getElem?_append_right oM] at hi
  have:=h' _ e hi
  rw[List.take_append,List.take_of_length_le oM,a3f]
  exact this
structure Tn where
 n:Nd
 r:List (Nat × Nat)
 deriving Inhabited
end Go.Gm.AZ
