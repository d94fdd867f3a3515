/- A part of the proof (GmAQtb, GmAQKN, GmTw, GmAQmo, GmAQL6, GmEntry, GmRaw). -/
import Derived.OpenShut
import Derived.ChangeArms
import Derived.DataReads
import Derived.Test.YtldnkafmanalmaaProductMoreP9
set_option linter.unusedVariables false
set_option linter.unusedSimpArgs false
set_option linter.unusedSectionVars false
namespace Go.Gm.AQ
open Go Go.Gm
theorem a3g (n:Nd):Gd n->Bd n->TextS n:=by
 refine Nd.ind (p:=fun n=>Gd n->Bd n->TextS n) (fun n ih g bd=>?_) n
 intro h c5 nv hl
 refine WP.tot (fun k=>a3y k _ h) ?_
 obtain ⟨sL,css,kv⟩:=kidsV nv
 have h5:=kv.sl.one
 obtain rfl:=kv.c
 have e1:Ext h (h++[AObj.cells ⟨[I n.kind,I n.st,I n.lo,I n.hi,sL],0,0,false⟩]):=Ext.push _ _
 have r1:(h++[AObj.cells ⟨[I n.kind,I n.st,I n.lo,I n.hi,sL],0,0,false⟩])[h.length]?=some (.cells ⟨[I n.kind,I n.st,I n.lo,I n.hi,sL],0,0,false⟩):=by simp
 have big:4<=n.kind->WP (fun k:Nat=>i7_ k k (.ptr h.length 0 5 0) (.str ⟨#[]⟩) (I 0) (h++[AObj.cells ⟨[I n.kind,I n.st,I n.lo,I n.hi,sL],0,0,false⟩])) fun r h'=>Ext h h'/\r=.str (ofL (txt n)):=fun hk=>by
  refine WP.ent ((b2A (h0:=h) g bd.len hk (fun c hc=>ih c hc (g.kid c hc) (bd.kid c hc)) kv hl e1 r1 n.kids.length 0 _ [] (by omega) (Ext.refl _) (by rw[b2y hk]; rfl)).mono ?_) fun i=>rfl
  rintro r h' ⟨e,rfl⟩
  exact ⟨e1.trans e,rfl⟩
 obtain ⟨h1,hh1⟩:∃h1,h1=h++[AObj.cells ⟨[I n.kind,I n.st,I n.lo,I n.hi,sL],0,0,false⟩]:=⟨_,rfl⟩
 rw[<-hh1] at e1 r1 big
 simp -implicitDefEqProofs (disch:=first|assumption|omega|(simp only[gL,gA]<;>omega)|fail) only[gC,reduceIte,h5]
 rw[<-hh1]
 have g0:=g.rt
 cases n with
 |set s=>
  simp only[Nd.kind,Nd.st,Nd.lo,Nd.hi] at r1
  simp -implicitDefEqProofs (disch:=first|assumption|omega|(simp only[gL,gA]<;>omega)|fail) only[gC,reduceIte,Nd.kind,Nd.st,r1]
  refine WP.call (b1c g0.2 h1) ?_
  rintro r h2 ⟨rfl,rfl⟩
  exact WP.ret ⟨e1,by rw[txt]⟩
 |emp=>
  simp only[Nd.kind,Nd.st,Nd.lo,Nd.hi] at r1
  simp -implicitDefEqProofs (disch:=first|assumption|omega|(simp only[gL,gA]<;>omega)|fail) only[gC,reduceIte,Nd.kind,Nd.st,r1]
  exact WP.ret ⟨e1,by rw[txt]; rfl⟩
 |eps=>
  simp only[Nd.kind,Nd.st,Nd.lo,Nd.hi] at r1
  simp -implicitDefEqProofs (disch:=first|assumption|omega|(simp only[gL,gA]<;>omega)|fail) only[gC,reduceIte,Nd.kind,Nd.st,r1]
  exact WP.ret ⟨e1,by rw[txt]; rfl⟩
 |join l=>
  have bg:=big (by simp[Nd.kind])
  simp only[Nd.kind,Nd.st,Nd.lo,Nd.hi] at r1
  simp -implicitDefEqProofs (disch:=first|assumption|omega|(simp only[gL,gA]<;>omega)|fail) only[gC,reduceIte,Nd.kind,Nd.st,r1]
  exact bg
 |uni l=>
  have bg:=big (by simp[Nd.kind])
  simp only[Nd.kind,Nd.st,Nd.lo,Nd.hi] at r1
  simp -implicitDefEqProofs (disch:=first|assumption|omega|(simp only[gL,gA]<;>omega)|fail) only[gC,reduceIte,Nd.kind,Nd.st,r1]
  exact bg
 |star c=>
  have bg:=big (by simp[Nd.kind])
  simp only[Nd.kind,Nd.st,Nd.lo,Nd.hi] at r1
  simp -implicitDefEqProofs (disch:=first|assumption|omega|(simp only[gL,gA]<;>omega)|fail) only[gC,reduceIte,Nd.kind,Nd.st,r1]
  exact bg
 |plus c=>
  have bg:=big (by simp[Nd.kind])
  simp only[Nd.kind,Nd.st,Nd.lo,Nd.hi] at r1
  simp -implicitDefEqProofs (disch:=first|assumption|omega|(simp only[gL,gA]<;>omega)|fail) only[gC,reduceIte,Nd.kind,Nd.st,r1]
  exact bg
 |opt c=>
  have bg:=big (by simp[Nd.kind])
  simp only[Nd.kind,Nd.st,Nd.lo,Nd.hi] at r1
  simp -implicitDefEqProofs (disch:=first|assumption|omega|(simp only[gL,gA]<;>omega)|fail) only[gC,reduceIte,Nd.kind,Nd.st,r1]
  exact bg
 |rep a b c=>
  have bg:=big (by simp[Nd.kind])
  simp only[Nd.kind,Nd.st,Nd.lo,Nd.hi] at r1
  simp -implicitDefEqProofs (disch:=first|assumption|omega|(simp only[gL,gA]<;>omega)|fail) only[gC,reduceIte,Nd.kind,Nd.st,r1]
  exact bg
def MchQ (n:Nd)(lo:Nat)(r:AV)(h':Heap):Prop:=
 ∃(D:List (List Int)) (acc:List Bool) (sN sA:AV),r=.agg [sN,sA]/\Gr lo h'.length h' 5 sN (D.map encR)/\Gr lo h'.length h' 1 sA (acc.map encB)/\DOk D acc/\D.length<=200/\
  ((∃nf D0 acc0,nfaF n=some nf/\subF nf 200=some (D0,acc0)/\∀w:List Int,(∀m∈w,0<=m/\m<5)->gi acc0 (goS D0 0 w)=gi acc (goS D 0 w))\/
   ((∀nf,nfaF n=some nf->subF nf 200=none)/\D=[[0,0,0,0,0]]/\acc=[true]))
theorem a7Q {l:List Rw}{s:AV}{css:List (List AV)}{h:Heap}(hs:Sl h 3 s css)(hr:RVs h l css)(hf:szF 7 l<=14) :
  Tot tab r2_ [s] h fun r h'=>Ext h h'/\MchQ (oneN l) h.length r h':=by
 refine WP.tot (fun k=>a2t k _ h) ?_
 obtain ⟨h1,hh1⟩:∃h1,h1=h++[AObj.cells ⟨[.nils,.nils],0,0,false⟩]:=⟨_,rfl⟩
 have e1:Ext h h1:=by rw[hh1]; exact Ext.push _ _
 have l1:h1.length=h.length+1:=by rw[hh1]; simp
 have rt:h1[h.length]?=some (.cells ⟨[.nils,.nils],0,0,false⟩):=by rw[hh1]; simp
 obtain ⟨g,bd⟩:=a7C l
 obtain ⟨z1,z2,z3⟩:=b3u l hf
 simp -implicitDefEqProofs (disch:=first|assumption|omega|(simp only[gL,gA]<;>omega)|fail) only[gC,reduceIte]
 rw[<-hh1]
 refine WP.call (a3d (hs.ext e1) (hr.ext e1)) ?_
 rintro r h2 ⟨e2,c5,rfl,nv⟩
 refine WP.call (a3g _ g bd h2 c5 nv.nv (by omega)) ?_
 rintro r h3 ⟨e3,rfl⟩
 refine WP.call (a2J (by rw[t0_]; exact z1) z2 (a8z g z3) g bd h3) ?_
 rintro r h4 ⟨e4,q4⟩
 have e14:=(e2.trans e3).trans e4
 have rt4:=e14.get rt
 have l4:=e14.len
 have b4:=(List.getElem?_eq_some_iff.1 rt4).1
 have e04:=e1.trans e14
 unfold CmpQ at q4
 obtain ⟨H,hH⟩:∃H,H=List.set (List.set (h4++[AObj.cells ⟨[.nils,.nils],0,0,false⟩]) h4.length (.cells ⟨[.nils,.nils],0,0,false⟩)++[AObj.cells ⟨[I 0,I 0,I 0,I 0,I 0],0,0,false⟩]++[AObj.cells ⟨[.bool true],0,0,false⟩]) h.length (.cells ⟨[.sl (h4.length+1) 0 1 5 none 0,.sl (h4.length+1+1) 0 1 1 none 0],0,0,false⟩):=⟨_,rfl⟩
 have eH:Ext h H:=by
  rw[hH]
  exact ((((e04.trans (Ext.push _ _)).set (by omega) _).trans (Ext.push _ _)).trans (Ext.push _ _)).set (Nat.le_refl _) _
 have bad:(∀nf,nfaF (oneN l)=some nf->subF nf 200=none)->MchQ (oneN l) h.length (.agg [.sl (h4.length+1) 0 1 5 none 0,.sl (h4.length+1+1) 0 1 1 none 0]) H:=fun hb=>by
  obtain ⟨h5,hh5⟩:∃h5,h5=List.set (h4++[AObj.cells ⟨[.nils,.nils],0,0,false⟩]) h4.length (.cells ⟨[.nils,.nils],0,0,false⟩):=⟨_,rfl⟩
  have l5:h5.length=h4.length+1:=by rw[hh5]; simp
  have b1:=Gr.lit (h:=h5) (sz:=5) (v:=[I 0,I 0,I 0,I 0,I 0]) rfl
  rw[a3_] at b1
  have b2:=Gr.lit (h:=h5++[AObj.cells ⟨[I 0,I 0,I 0,I 0,I 0],0,0,false⟩]) (sz:=1) (v:=[.bool true]) rfl
  rw[a3_] at b2
  have l6:(h5++[AObj.cells ⟨[I 0,I 0,I 0,I 0,I 0],0,0,false⟩]).length=h4.length+1+1:=by simp[l5]
  rw[l6] at b2
  rw[l5] at b1
  rw[<-hh5] at hH
  have c1:=(b1.app [AObj.cells ⟨[.bool true],0,0,false⟩]).set (o:=h.length) (by omega) (.cells ⟨[.sl (h4.length+1) 0 1 5 none 0,.sl (h4.length+1+1) 0 1 1 none 0],0,0,false⟩)
  have c2:=b2.set (o:=h.length) (by omega) (.cells ⟨[.sl (h4.length+1) 0 1 5 none 0,.sl (h4.length+1+1) 0 1 1 none 0],0,0,false⟩)
  rw[<-hH] at c1 c2
  refine ⟨[[0,0,0,0,0]],[true],_,_,rfl,c1.mono (by omega) (by rw[hH]; simp; omega),c2.mono (by omega) (by rw[hH]; simp; omega),⟨by decide,by decide,rfl,fun s s0 s1=>?_,fun s m s0 s1 m0 m1=>?_⟩,by decide,.inr ⟨hb,rfl,rfl⟩⟩
  ·obtain rfl:s=0:=by simp at s1; omega
   rfl
  ·obtain rfl:s=0:=by simp at s1; omega
   obtain ⟨k,rfl⟩:∃k:Nat,m=k:=⟨m.toNat,by omega⟩
   match k,m1 with
   |0,_=>decide
   |1,_=>decide
   |2,_=>decide
   |3,_=>decide
   |4,_=>decide
   |k+5,m1=>omega
 cases hnf:nfaF (oneN l) with
 |none=>
  rw[hnf] at q4
  obtain rfl:=q4
  simp -implicitDefEqProofs (disch:=first|assumption|omega|(simp only[gL,gA]<;>omega)|fail) only[gC,reduceIte,a0_,rt4]
  exact WP.ret (hH▸⟨eH,bad fun nf z=>by rw[hnf] at z; cases z⟩)
 |some nf=>
  rw[hnf] at q4
  cases hsb:subF nf 200 with
  |none=>
   simp only[hsb] at q4
   obtain rfl:=q4
   simp -implicitDefEqProofs (disch:=first|assumption|omega|(simp only[gL,gA]<;>omega)|fail) only[gC,reduceIte,a0_,rt4]
   exact WP.ret (hH▸⟨eH,bad fun nf' z=>by rw[hnf] at z; cases z; exact hsb⟩)
  |some p=>
   obtain ⟨D0,acc0⟩:=p
   simp only[hsb] at q4
   obtain ⟨v,rfl,D,acc,sN,sA,rfl,gN,gA,ok,hle,hw⟩:=q4
   have o1:=gN.sl.one
   have o2:=gA.sl.one
   have hw1:wrAt 2 (h4++[AObj.cells ⟨[.nils,.nils],0,0,false⟩]) (some (AObj.cells ⟨[.nils,.nils],0,0,false⟩)) h4.length 0 2 0 [sN,sA]=some (h4++[AObj.cells ⟨[sN,sA],0,0,false⟩]):=by
    refine (p6_ (n:=2) (off:=0) (hi:=2) (vs:=[sN,sA]) rfl rfl (by omega) (by simp[o1,o2])).trans ?_
    rw[e0_ rfl]
    rfl
   simp -implicitDefEqProofs (disch:=first|assumption|omega|(simp only[gL,gA]<;>omega)|fail) only[gC,reduceIte,a0_,rt4,hw1]
   obtain ⟨h5,hh5⟩:∃h5,h5=h4++[AObj.cells ⟨[sN,sA],0,0,false⟩]:=⟨_,rfl⟩
   have e5:Ext h4 h5:=by rw[hh5]; exact Ext.push _ _
   have rt5:=e5.get rt4
   have b5:=(List.getElem?_eq_some_iff.1 rt5).1
   have hw2:wrAt 2 h5 (some (AObj.cells ⟨[.nils,.nils],0,0,false⟩)) h.length 0 2 0 [sN,sA]=some (h5.set h.length (.cells ⟨[sN,sA],0,0,false⟩)):=p6_ (n:=2) (off:=0) (hi:=2) (vs:=[sN,sA]) rfl rfl (by omega) (by simp[o1,o2])
   have l3:=(e2.trans e3).len
   rw[<-hh5]
   simp -implicitDefEqProofs (disch:=first|assumption|omega|(simp only[gL,gA]<;>omega)|fail) only[gC,reduceIte,rt5,hw2]
   have gN':=((gN.ext e5).set (o:=h.length) (.inl (by omega)) (.cells ⟨[sN,sA],0,0,false⟩)).mono (by omega:h.length<=h3.length) (by simp; have:=e5.len; omega:h4.length<=(h5.set h.length (.cells ⟨[sN,sA],0,0,false⟩)).length)
   have gA':=((gA.ext e5).set (o:=h.length) (.inl (by omega)) (.cells ⟨[sN,sA],0,0,false⟩)).mono (by omega:h.length<=h3.length) (by simp; have:=e5.len; omega:h4.length<=(h5.set h.length (.cells ⟨[sN,sA],0,0,false⟩)).length)
   exact WP.ret ⟨(e04.trans e5).set (Nat.le_refl _) _,D,acc,sN,sA,rfl,gN',gA',ok,Nat.le_trans hle (a7P hsb),.inl ⟨nf,D0,acc0,hnf,hsb,hw⟩⟩
end Go.Gm.AQ
namespace Go.Gm.AQ
open Go Go.Gm
def kE:List E:=[⟨0,1,0,4⟩]
def kD:List (List Int):=[[0,0,0,0,0]]
theorem kA0:hopA kE 1 (onL kE kD) 0=[(1,0,4)]:=by decide
theorem kA1:hopA kE 1 (onL kE kD) 1=[]:=by decide
theorem kNet:NetOk (2:Nat) kE:=⟨by omega,by omega,by simp[kE],fun e he=>by simp[kE] at he; subst he; simp⟩
theorem kCo:COk kE:=⟨fun e he=>by simp[kE] at he; subst he; simp⟩
theorem kDok:DOk kD [true]:=by
 refine ⟨by simp[kD],by simp[kD],by simp[kD],fun s s0 s1=>?_,fun s m s0 s1 m0 m1=>?_⟩
 ·simp[kD] at s1
  obtain rfl:s=0:=by omega
  rfl
 ·simp[kD] at s1
  obtain rfl:s=0:=by omega
  have:m=0\/m=1\/m=2\/m=3\/m=4:=by omega
  rcases this with rfl|rfl|rfl|rfl|rfl<;>decide
abbrev kA:=hopA kE 1 (onL kE kD)
theorem kHop {x y e:Nat}{w:Int}(hx:x<2)(h:(y,e,w)∈kA x):x=0/\y=1/\e=0/\w=4:=by
 have:x=0\/x=1:=by omega
 rcases this with rfl|rfl
 ·rw[kA,kA0] at h; simp at h; exact ⟨rfl,h.1,h.2.1,h.2.2⟩
 ·rw[kA,kA1] at h; simp at h
theorem kRange {st:Nat->Prop}(hs:∀x,st x->x<2){x:Nat}{l:List Nat}{c:Int}(h:Wk kA st x l c):x<2/\0<=c:=
 Wk.range (n:=2) (W:=2147483647) (⟨by omega,fun x hx y e w h=>by obtain ⟨rfl,rfl,rfl,rfl⟩:=kHop hx h; omega⟩) hs h
theorem kOne {l:List Nat}{c:Int}(h:Wk kA (fun x=>x=1*1) 1 l c):(l=[]/\c=0)\/4<=c:=by
 cases h with
 |nil _=>exact .inl ⟨rfl,rfl⟩
 |snoc h1 h2=>
  have hr:=kRange (fun x z=>by omega) h1
  obtain ⟨rfl,_,rfl,rfl⟩:=kHop hr.1 h2
  right; omega
theorem kZero {l:List Nat}{c:Int}(h:Wk kA (fun x=>x=0*1) 0 l c):l=[]/\c=0:=by
 cases h with
 |nil _=>exact ⟨rfl,rfl⟩
 |snoc h1 h2=>
  have hr:=kRange (fun x z=>by omega) h1
  obtain ⟨rfl,q,_⟩:=kHop hr.1 h2
  cases q
theorem kFour {l:List Nat}{c:Int}(h:Wk kA (fun x=>x=0*1) 1 l c):l=[0]/\c=4:=by
 cases h with
 |nil h=>simp at h
 |snoc h1 h2=>
  have hr:=kRange (fun x z=>by omega) h1
  obtain ⟨rfl,_,rfl,rfl⟩:=kHop hr.1 h2
  obtain ⟨rfl,rfl⟩:=kZero h1
  exact ⟨rfl,rfl⟩
theorem kBv {c:Nat->Int}{b:Nat}(hc:0<=c b):bv c [true] b 1=c b:=if_pos ⟨rfl,hc,.inl (show (-1:Int)<0 by decide)⟩
theorem kLc1 {c:Nat->Int}(lc:LC 2 kA (fun x=>x=1*1) c):c 1=0:=by
 rcases lc 1 (by omega) with ⟨h1,⟨l,h2⟩,h3⟩|⟨h1,h2⟩
 ·have:=h3 [] 0 (.nil rfl)
  omega
 ·exact absurd (Wk.nil (A:=kA) (st:=fun x=>x=1*1) (x:=1) rfl) (h2 _ _)
theorem kLc4 {c:Nat->Int}(lc:LC 2 kA (fun x=>x=0*1) c):c 1=4:=by
 have hw:Wk kA (fun x=>x=0*1) 1 ([]++[0]) (0+4):=.snoc (.nil rfl) (by rw[kA,kA0]; simp)
 rcases lc 1 (by omega) with ⟨h1,⟨l,h2⟩,h3⟩|⟨h1,h2⟩
 ·exact (kFour h2).2
 ·exact absurd hw (h2 _ _)
section
variable {h:Heap} {sE sD sA:AV}
theorem kRoute1 (hs:Sl h 4 sE (kE.map encE))(hD:Sl h 5 sD (kD.map encR))(hA:Sl h 1 sA ([true].map encB)):Tot tab m8_ [.agg [I 2,sE],.agg [sD,sA],I 1,I 1] h fun r h'=>Ext h h'/\∃sl,r=.tup [.agg [I 0,sl],.bool true]/\Sl h' 1 sl []:=by
 refine (a5Q (N:=2) (v:=1) (u:=1) kNet kCo (by simp[kD]) hs kDok hD hA (by omega) (by omega)).mono ?_
 rintro r h' ⟨e,c,lc,rq⟩
 have h1:c 1=0:=kLc1 lc
 have h2:bv c [true] (1*kD.length) kD.length=0:=by
  show bv c [true] 1 1=0
  rw[kBv (by omega),h1]
 refine ⟨e,?_⟩
 rcases rq with ⟨q,_⟩|⟨_,q,l,sl,q1,q2,q3,q4,q5,q6,q7⟩
 ·omega
 ·rw[h2] at q4 q6
  have hq:q=0:=by simp[kD] at q1; omega
  subst hq
  have:l=[]:=by
   rcases kOne (l:=l) (c:=0) q4 with ⟨z,_⟩|z
   ·exact z
   ·omega
  subst this
  exact ⟨sl,q6,q7.sl⟩
theorem kRoute4 (hs:Sl h 4 sE (kE.map encE))(hD:Sl h 5 sD (kD.map encR))(hA:Sl h 1 sA ([true].map encB)):Tot tab m8_ [.agg [I 2,sE],.agg [sD,sA],I 0,I 1] h fun r h'=>Ext h h'/\∃sl,r=.tup [.agg [I 4,sl],.bool true]/\Sl h' 1 sl [[I 0]]:=by
 refine (a5Q (N:=2) (v:=0) (u:=1) kNet kCo (by simp[kD]) hs kDok hD hA (by omega) (by omega)).mono ?_
 rintro r h' ⟨e,c,lc,rq⟩
 have h1:c 1=4:=kLc4 lc
 have h2:bv c [true] (1*kD.length) kD.length=4:=by
  show bv c [true] 1 1=4
  rw[kBv (by omega),h1]
 refine ⟨e,?_⟩
 rcases rq with ⟨q,_⟩|⟨_,q,l,sl,q1,q2,q3,q4,q5,q6,q7⟩
 ·omega
 ·rw[h2] at q4 q6
  have hq:q=0:=by simp[kD] at q1; omega
  subst hq
  obtain ⟨rfl,_⟩:=kFour (l:=l) (c:=4) q4
  exact ⟨sl,q6,q7.sl⟩
theorem kCosts (hs:Sl h 4 sE (kE.map encE))(hD:Sl h 5 sD (kD.map encR))(hA:Sl h 1 sA ([true].map encB)):Tot tab h0_ [.agg [I 2,sE],.agg [sD,sA],I 0] h fun r h'=>Ext h h'/\∃x,Sl h' 1 r ([x,(4:Int)].map encI):=by
 refine (a2k (N:=2) (v:=0) kNet kCo (by simp[kD]) hs kDok hD hA (by omega)).mono ?_
 rintro r h' ⟨e,c,lc,g⟩
 have h1:c 1=4:=kLc4 lc
 have h2:costL 2 kD.length c [true]=[bv c [true] 0 1,4]:=by
  show [bv c [true] (0*1) 1,bv c [true] (1*1) 1]=_
  rw[show 0*1=0 from rfl,show 1*1=1 from rfl,kBv (b:=1) (by omega),h1]
 rw[h2] at g
 exact ⟨e,_,g.sl⟩
theorem a7R {h:Heap}{o sz:Nat}{v:List AV}(hr:h[o]?=some (.cells ⟨v,0,0,false⟩))(hv:v.length=sz):Sl h sz (.sl o 0 1 sz none 0) [v]:=
 .inr ⟨o,0,none,0,_,rfl,hr,Nat.le_refl _,by simp[List.take_of_length_le (Nat.le_of_eq hv)],by simp[hv]⟩
end
theorem a9n (h:Heap):Tot tab t5_ [] h fun r h'=>r=.bool true/\Ext h h':=by
 refine WP.tot (fun k=>a3j k h) ?_
 simp -implicitDefEqProofs (maxSteps:=1000000) (disch:=first|assumption|omega|(simp only[gL]<;>omega)|((repeat (first|exact Ext.refl _|assumption|apply Ext.app|apply Ext.mk|(refine Ext.setr ?_ (by (first|omega|(simp only[gL]<;>omega))) _))); done)|(simp only[gL,gA]<;>omega)|fail) only[gB,setAll,partL,fldV,reduceIte,Nat.reduceAdd,Nat.reduceMul]
 obtain ⟨h1,hh1⟩:∃h1,h1=(List.set (List.set (h++[AObj.cells ⟨[AV.int .i64 0,AV.int .i64 1,AV.int .i64 0,AV.int .i64 4],0,0,false⟩]++[AObj.cells ⟨[AV.int .i64 0,.nils],0,0,false⟩]) (h.length+1) (AObj.cells ⟨[AV.int .i64 2,AV.sl h.length 0 1 4 none 0],0,0,false⟩) ++
   [AObj.cells ⟨[AV.int .i64 0,AV.int .i64 0,AV.int .i64 0,AV.int .i64 0,AV.int .i64 0],0,0,false⟩]++[AObj.cells ⟨[AV.bool true],0,0,false⟩]++[AObj.cells ⟨[.nils,.nils],0,0,false⟩])
   (h.length+1+1+1+1) (AObj.cells ⟨[AV.sl (h.length+1+1) 0 1 5 none 0,AV.sl (h.length+1+1+1) 0 1 1 none 0],0,0,false⟩)):=⟨_,rfl⟩
 have e1:Ext h h1:=by rw[hh1]; ((repeat (first|exact Ext.refl _|assumption|apply Ext.app|apply Ext.mk|(refine Ext.setr ?_ (by (first|omega|(simp only[gL]<;>omega))) _))))
 have r0:h1[h.length]?=some (.cells ⟨encE ⟨0,1,0,4⟩,0,0,false⟩):=by rw[hh1]; simp -implicitDefEqProofs (maxSteps:=1000000) (disch:=first|assumption|omega|(simp only[gL]<;>omega)|((repeat (first|exact Ext.refl _|assumption|apply Ext.app|apply Ext.mk|(refine Ext.setr ?_ (by (first|omega|(simp only[gL]<;>omega))) _))); done)|(simp only[gL,gA]<;>omega)|fail) only[gB,setAll,partL,fldV,reduceIte,Nat.reduceAdd,Nat.reduceMul]; try rfl
 have r1:h1[h.length+1]?=some (.cells ⟨[I 2,AV.sl h.length 0 1 4 none 0],0,0,false⟩):=by rw[hh1]; simp -implicitDefEqProofs (maxSteps:=1000000) (disch:=first|assumption|omega|(simp only[gL]<;>omega)|((repeat (first|exact Ext.refl _|assumption|apply Ext.app|apply Ext.mk|(refine Ext.setr ?_ (by (first|omega|(simp only[gL]<;>omega))) _))); done)|(simp only[gL,gA]<;>omega)|fail) only[gB,setAll,partL,fldV,reduceIte,Nat.reduceAdd,Nat.reduceMul]; try rfl
 have r2:h1[h.length+1+1]?=some (.cells ⟨encR [0,0,0,0,0],0,0,false⟩):=by rw[hh1]; simp -implicitDefEqProofs (maxSteps:=1000000) (disch:=first|assumption|omega|(simp only[gL]<;>omega)|((repeat (first|exact Ext.refl _|assumption|apply Ext.app|apply Ext.mk|(refine Ext.setr ?_ (by (first|omega|(simp only[gL]<;>omega))) _))); done)|(simp only[gL,gA]<;>omega)|fail) only[gB,setAll,partL,fldV,reduceIte,Nat.reduceAdd,Nat.reduceMul]; try rfl
 have r3:h1[h.length+1+1+1]?=some (.cells ⟨encB true,0,0,false⟩):=by rw[hh1]; simp -implicitDefEqProofs (maxSteps:=1000000) (disch:=first|assumption|omega|(simp only[gL]<;>omega)|((repeat (first|exact Ext.refl _|assumption|apply Ext.app|apply Ext.mk|(refine Ext.setr ?_ (by (first|omega|(simp only[gL]<;>omega))) _))); done)|(simp only[gL,gA]<;>omega)|fail) only[gB,setAll,partL,fldV,reduceIte,Nat.reduceAdd,Nat.reduceMul]; try rfl
 have r4:h1[h.length+1+1+1+1]?=some (.cells ⟨[AV.sl (h.length+1+1) 0 1 5 none 0,AV.sl (h.length+1+1+1) 0 1 1 none 0],0,0,false⟩):=by rw[hh1]; simp -implicitDefEqProofs (maxSteps:=1000000) (disch:=first|assumption|omega|(simp only[gL]<;>omega)|((repeat (first|exact Ext.refl _|assumption|apply Ext.app|apply Ext.mk|(refine Ext.setr ?_ (by (first|omega|(simp only[gL]<;>omega))) _))); done)|(simp only[gL,gA]<;>omega)|fail) only[gB,setAll,partL,fldV,reduceIte,Nat.reduceAdd,Nat.reduceMul]; try rfl
 have hs:Sl h1 4 (.sl h.length 0 1 4 none 0) (kE.map encE):=a7R r0 rfl
 have hD:Sl h1 5 (.sl (h.length+1+1) 0 1 5 none 0) (kD.map encR):=a7R r2 rfl
 have hA:Sl h1 1 (.sl (h.length+1+1+1) 0 1 1 none 0) ([true].map encB):=a7R r3 rfl
 rw[<-hh1]
 refine WP.call (kRoute1 hs hD hA) ?_
 rintro _ h2 ⟨e2,s2,rfl,z2⟩
 have r12:=e2.get r1
 have r42:=e2.get r4
 have b1:=(List.getElem?_eq_some_iff.1 r12).1
 have b4:=(List.getElem?_eq_some_iff.1 r42).1
 simp -implicitDefEqProofs (maxSteps:=1000000) (disch:=first|assumption|omega|(simp only[gL]<;>omega)|((repeat (first|exact Ext.refl _|assumption|apply Ext.app|apply Ext.mk|(refine Ext.setr ?_ (by (first|omega|(simp only[gL]<;>omega))) _))); done)|(simp only[gL,gA,d1_,d2_,z2.one,z2.cells,r12,r42]<;>omega)|fail) only[gB,setAll,partL,fldV,reduceIte,Nat.reduceAdd,Nat.reduceMul,d1_,d2_,z2.one,z2.cells,r12,r42]
 obtain ⟨h3,hh3⟩:∃h3,h3=((h2++[AObj.cells ⟨[AV.int .i64 0,.nils],0,0,false⟩]).set h2.length (.cells ⟨[I 0,s2],0,0,false⟩)):=⟨_,rfl⟩
 have e3:Ext h2 h3:=by rw[hh3]; ((repeat (first|exact Ext.refl _|assumption|apply Ext.app|apply Ext.mk|(refine Ext.setr ?_ (by (first|omega|(simp only[gL]<;>omega))) _))))
 have q3:h3[h2.length]?=some (.cells ⟨[I 0,s2],0,0,false⟩):=by rw[hh3]; exact a4_ (by simp)
 have e13:=e2.trans e3
 rw[<-hh3]
 refine WP.call (kRoute4 (hs.ext e13) (hD.ext e13) (hA.ext e13)) ?_
 rintro _ h4 ⟨e4,s4,rfl,z4⟩
 have r14:=(e3.trans e4).get r12
 have r44:=(e3.trans e4).get r42
 have q34:=e4.get q3
 have c1:=(List.getElem?_eq_some_iff.1 r14).1
 have c4:=(List.getElem?_eq_some_iff.1 r44).1
 have cq:=(List.getElem?_eq_some_iff.1 q34).1
 simp -implicitDefEqProofs (maxSteps:=1000000) (disch:=first|assumption|omega|(simp only[gL]<;>omega)|((repeat (first|exact Ext.refl _|assumption|apply Ext.app|apply Ext.mk|(refine Ext.setr ?_ (by (first|omega|(simp only[gL]<;>omega))) _))); done)|(simp only[gL,gA,d1_,d2_,z4.one,z4.cells,r14,r44]<;>omega)|fail) only[gB,setAll,partL,fldV,reduceIte,Nat.reduceAdd,Nat.reduceMul,d1_,d2_,z4.one,z4.cells,r14,r44]
 obtain ⟨h5,hh5⟩:∃h5,h5=((h4++[AObj.cells ⟨[AV.int .i64 0,.nils],0,0,false⟩]).set h4.length (.cells ⟨[I 4,s4],0,0,false⟩)):=⟨_,rfl⟩
 have e5:Ext h4 h5:=by rw[hh5]; ((repeat (first|exact Ext.refl _|assumption|apply Ext.app|apply Ext.mk|(refine Ext.setr ?_ (by (first|omega|(simp only[gL]<;>omega))) _))))
 have q5:h5[h4.length]?=some (.cells ⟨[I 4,s4],0,0,false⟩):=by rw[hh5]; exact a4_ (by simp)
 have e15:=(e13.trans e4).trans e5
 rw[<-hh5]
 refine WP.call (kCosts (hs.ext e15) (hD.ext e15) (hA.ext e15)) ?_
 rintro r h6 ⟨e6,x,z6⟩
 have q36:=(e5.trans e6).get q34
 have q56:=e6.get q5
 have l2:=z2.len
 have l4:=z4.len
 simp only[List.length_nil,List.length_cons] at l2 l4
 have g1:gi [x,(4:Int)] 1=4:=rfl
 simp -implicitDefEqProofs (maxSteps:=1000000) (disch:=first|assumption|omega|(simp only[gL]<;>omega)|((repeat (first|exact Ext.refl _|assumption|apply Ext.app|apply Ext.mk|(refine Ext.setr ?_ (by (first|omega|(simp only[gL]<;>omega))) _))); done)|(simp only[gL,gA,d1_,d2_,q36,q56,l2,l4,z6.lenG,z6.idxG,z6.ld0,g1,encI]<;>omega)|fail) only[gB,setAll,partL,fldV,reduceIte,Nat.reduceAdd,Nat.reduceMul,d1_,d2_,q36,q56,l2,l4,z6.lenG,z6.idxG,z6.ld0,g1,encI]
 exact WP.ret ⟨rfl,(e1.trans e15).trans e6⟩
end Go.Gm.AQ
namespace Go.Gm
def altT (a b:Nd):List Nat:=40::(txt a++(41::124::40::(txt b++[41])))
theorem b3K {S:ByteArray}{n:Nd}(g:Gd n){d p:Nat}(hd:d+dp n<=30)(hs:Sd S p (txt n))(he:endU (bt S (p+(txt n).length))):Rd S (cst n+18) d .un p (n,p+(txt n).length):=
 ((read (S:=S) n g).2.2 d p (by split<;>omega) hs he).le (by split<;>omega)
theorem rd_br {S:ByteArray}{n:Nd}(g:Gd n){d p:Nat}(hd:d+1+dp n<=30)(hs:Sd S p (40::(txt n++[41])))(he:noSuf (bt S (p+((txt n).length+2)))):Rd S (cst n+25) d .pc p (n,p+((txt n).length+2)):=by
 obtain ⟨h0,hs⟩:=hs
 obtain ⟨h1,h2⟩:=w2_.1 hs
 obtain ⟨h2,_⟩:=h2
 have hu:=b3K g (d:=d+1) (by omega) h1 (.inr h2)
 have h3:=b0h h0 (by omega) hu h2
 rw[show p+1+(txt n).length+1=p+((txt n).length+2) by omega] at h3
 exact (rd_pc h3 (a8w he)).le (by omega)
theorem b2Y {a b:Nd}(ga:Gd a)(gb:Gd b)(ha:dp a<=29)(hb:dp b<=29):prs (ofL (altT a b)) (cst a+cst b+100) 0 .un 0=some (.uni [a,b],(ofL (altT a b)).size):=by
 have lt:∀c∈altT a b,c<256:=fun c hc=>by
  simp only[altT,List.mem_cons,List.mem_append,List.not_mem_nil,or_false] at hc
  rcases hc with rfl|hc|rfl|rfl|rfl|hc|rfl
  ·decide
  ·exact a7u a ga c hc
  ·decide
  ·decide
  ·decide
  ·exact a7u b gb c hc
  ·decide
 have sd:=a7t lt _ 0 rfl
 have len:(altT a b).length=(txt a).length+2+1+((txt b).length+2):=by simp[altT]; omega
 have e1:altT a b=(40::(txt a++[41]))++(124::(40::(txt b++[41]))):=by simp[altT]
 rw[e1] at sd
 obtain ⟨s1,s2⟩:=w2_.1 sd
 have l1:(40::(txt a++[41])).length=(txt a).length+2:=by simp
 rw[<-e1,l1] at s2
 rw[<-e1] at s1
 obtain ⟨b1,s3⟩:=s2
 have r1:=rd_br ga (d:=0) (p:=0) (by omega) s1 (by rw[b1]; simp[noSuf])
 have j1:=rd_jn r1 (a4L (.inr (.inl b1)))
 have eE:bt (ofL (altT a b)) (0+((txt a).length+2)+1+((txt b).length+2))=none:=by rw[a7s lt,List.getElem?_eq_none]; rw[len]; omega
 have r2:=rd_br gb (d:=0) (by omega) s3 (by rw[eE]; simp[noSuf])
 have j2:=rd_jn r2 (a4L (.inl eE))
 have u2:=b0g (l:=[a]) b1 j2 (a4M (.inl eE))
 have u1:=rd_un j1 u2
 have:=u1 (cst a+cst b+100) (by omega)
 rw[this,t0_,len]
 simp only[finU,finJ,List.cons_append,List.nil_append,Option.some.injEq,Prod.mk.injEq,true_and]
 omega
end Go.Gm
namespace Go.Gm.AQ
open Go Go.Gm
theorem LW.sub {A B:List E}{v u:Int}{P R:List Int->Prop}{x y:Int}(hx:LW A v u P x)(hy:LW B v u R y)(h:∀l,OkW A v l->OkW B v l/\atV B v l=atV A v l/\wdOf B l=wdOf A l/\atC B l=atC A l)(hp:∀l,OkW A v l->P (wdOf A l)->R (wdOf A l)):x = -1\/(0<=x/\0<=y/\y<=x):=by
 rcases hx.ex with rfl|⟨x0,l,x1,x2,x3,x4⟩
 ·exact .inl rfl
 ·obtain ⟨h1,h2,h3,h4⟩:=h l x1
  have:=hy.le l h1 (by rw[h2]; exact x2) (by rw[h3]; exact hp l x1 x3)
  right; omega
theorem a5S {A:List E}(e:List E){i:Nat}(h:i<A.length):eg (A++e) i=eg A i:=by
 show gi (A++e) (i:Int)=gi A (i:Int)
 rw[d9_ (by rw[List.length_append]; omega),d9_ h]
 exact List.getElem_append_left h
theorem b1E (A e:List E)(v:Int)(l:List Nat)(ho:OkW A v l):OkW (A++e) v l/\atV (A++e) v l=atV A v l/\wdOf (A++e) l=wdOf A l/\atC (A++e) l=atC A l:=by
 have lt:∀k∈l,k<A.length:=fun k hk=>by
  obtain ⟨i,hi,rfl⟩:=List.mem_iff_getElem.1 hk
  exact (ho i _ (List.getElem?_eq_getElem hi)).1
 have fv:∀(l:List Nat) (v:Int),(∀k∈l,k<A.length)->atV (A++e) v l=atV A v l:=by
  intro l
  induction l with
  |nil=>intro v _; rfl
  |cons a l ih=>
   intro v hl
   show atV (A++e) (eg (A++e) a).to l=atV A (eg A a).to l
   rw[a5S e (hl a (by simp))]
   exact ih _ fun k hk=>hl k (List.mem_cons_of_mem _ hk)
 have fc:∀(l:List Nat) (c:Int),(∀k∈l,k<A.length)->l.foldl (fun c k=>c+(eg (A++e) k).co) c=l.foldl (fun c k=>c+(eg A k).co) c:=by
  intro l
  induction l with
  |nil=>intro c _; rfl
  |cons a l ih=>
   intro c hl
   rw[List.foldl_cons,List.foldl_cons,a5S e (hl a (by simp))]
   exact ih _ fun k hk=>hl k (List.mem_cons_of_mem _ hk)
 refine ⟨fun i k hi=>?_,fv l v lt,?_,fc l 0 lt⟩
 ·obtain ⟨h1,h2⟩:=ho i k hi
  have ht:∀k∈l.take i,k<A.length:=fun k hk=>lt k (List.mem_of_mem_take hk)
  exact ⟨by rw[List.length_append]; omega,by rw[a5S e h1,fv _ v ht]; exact h2⟩
 ·exact List.map_congr_left fun k hk=>by rw[a5S e (lt k hk)]
theorem pts_w (n:Int)(ls:List Nd):sumF wT (ptsN n ls)+(ptsN n ls).length<=4+sumF wT ls:=by
 match ls with
 |[]=>
  have h1:=sgn_w (wr (n+((0:Nat):Int)))
  have h2:=sgn_w (wr (n+((1:Nat):Int)))
  have:ptsN n []=[sgn (wr (n+((0:Nat):Int))),sgn (wr (n+((1:Nat):Int)))]:=rfl
  rw[this]; simp only[sumF,List.map_cons,List.map_nil,List.sum_cons,List.sum_nil,List.length_cons,List.length_nil]; omega
 |[a]=>
  have h2:=sgn_w (wr (n+((1:Nat):Int)))
  have:ptsN n [a]=[a,sgn (wr (n+((1:Nat):Int)))]:=rfl
  rw[this]; simp only[sumF,List.map_cons,List.map_nil,List.sum_cons,List.sum_nil,List.length_cons,List.length_nil]; omega
 |[a,b]=>
  have:ptsN n [a,b]=[a,b]:=rfl
  rw[this]; simp only[List.length_cons,List.length_nil]; omega
 |[a,b,c]=>
  have:ptsN n [a,b,c]=[a,b,c]:=rfl
  rw[this]; simp only[List.length_cons,List.length_nil]; omega
 |a::b::c::d::l=>
  have h4:max 2 (min (a::b::c::d::l).length 4)=4:=by simp
  have:ptsN n (a::b::c::d::l)=[a,b,c,d]:=by rw[ptsN,h4]; rfl
  rw[this]; simp only[sumF,List.map_cons,List.map_nil,List.sum_cons,List.sum_nil,List.length_cons,List.length_nil]; omega
theorem b0J:∀s:Fin 32,(setT s.val).length<=6:=by decide
theorem w_of6 (k n:Int)(ls:List Nd):wT (mkOf k n ls)<=6+sumF wT ls:=by
 have h1:=pts_w n ls
 have h2:=a7z (f:=wT) (c:=1) sgn_w n ls 0
 have h5:=a7A (ptsN n ls)
 have h6:=a7B (ptsN n ls)
 have h8:=sgn_w n
 have h9:wT (.set (1+(n % 31).toNat))<=6:=by
  have a3:0<=n % 31/\n % 31<31:=⟨Int.emod_nonneg _ (by omega),Int.emod_lt_of_pos _ (by omega)⟩
  have:=b0J ⟨1+(n % 31).toNat,by omega⟩
  rw[wT_eq]; simp only[txt,isU,isJ] at *; simp; omega
 unfold mkOf
 split
 ·omega
 ·omega
 ·omega
 ·omega
 ·split<;>(rw[wT_eq]; simp[txt,isU,isJ]; omega)
 all_goals (simp only[a8I,a8J,b0n,b0o,a8K,b0p]; omega)
theorem b2Z (r:Rw):wT (mkX r)<=6*cntR r:=by
 refine Rw.ind (p:=fun r=>wT (mkX r)<=6*cntR r) ?_ r
 rintro ⟨k,n,l⟩ ih
 have key:∀l:List Rw,(∀c∈l,wT (mkX c)<=6*cntR c)->sumF wT (mkXs l)<=6*cntRs l:=by
  intro l
  induction l with
  |nil=>exact fun _=>Nat.le_refl _
  |cons r l ih=>
   intro h
   have h1:=ih fun c hc=>h c (List.mem_cons_of_mem _ hc)
   have h4:=h r (by simp)
   simp only[mkXs,sumF,List.map_cons,List.sum_cons,cntRs] at *; omega
 have k1:=key l ih
 have h1:=w_of6 k n (mkXs l)
 rw[mkX,cntR]; omega
theorem a8Q (l:List Rw)(h:szF 7 l<=14):(txt (oneN l)).length<=84/\cst (oneN l)<=3000/\dp (oneN l)<=14:=by
 have h1:=a7m 7 l h
 cases l with
 |nil=>exact ⟨by decide,by decide,by decide⟩
 |cons r l=>
  obtain ⟨_,w2,w3⟩:=b0q r
  have w1:=b2Z r
  rw[cntRs] at h1
  have:=wT_eq (mkX r)
  simp only[oneN]
  exact ⟨by omega,by omega,by omega⟩
end Go.Gm.AQ
namespace Go.Gm.AQ
open Go Go.Gm
def NoM (A B:List Int)(N:Nat):Prop:=∀u,u<N->gi A (u:Int) = -1\/(0<=gi A (u:Int)/\0<=gi B (u:Int)/\gi B (u:Int)<=gi A (u:Int))
theorem NoM.rfl' {A:List Int}{N:Nat}{B:List Int}(h:NoM A B N):NoM A A N:=fun u hu=>by
 rcases h u hu with q|⟨q,_⟩
 ·exact .inl q
 ·exact .inr ⟨q,q,Int.le_refl _⟩
theorem b3a {h:Heap}{N on:Nat}{s a b c:AV}{A B C:List Int}(rn:h[on]?=some (.cells ⟨[I N,s],0,0,false⟩))(ha:Sl h 1 a (A.map encI))(hb:Sl h 1 b (B.map encI))(hc:Sl h 1 c (C.map encI))(la:A.length=N)(lb:B.length=N)(lc:C.length=N)(hN:N<=1000000)(hB:NoM A B N)(hC:NoM A C N):WP (fun k:Nat=>c7_ k (.ptr on 0 2 0) a b c h) fun r h'=>r=.bool true:=by
 have e:=Ext.refl h
 have loop:∀(d u:Nat),u+d=N->WP (fun p:Nat × Nat=>g3_ p.1 p.2 (.ptr on 0 2 0) a b c (I u) h) fun r h'=>r=.bool true:=by
  intro d
  induction d with
  |zero=>
   intro u hu
   refine WP.rnd (fun i' j=>r0_ i' j (.ptr on 0 2 0) a b c (I u) h) ?_
   simp -implicitDefEqProofs (disch:=first|assumption|omega|(simp only[gL,gA]<;>omega)|fail) only[gC,reduceIte,rn]
   exact WP.ret rfl
  |succ d ih=>
   intro u hu
   refine WP.rnd (fun i' j=>r0_ i' j (.ptr on 0 2 0) a b c (I u) h) ?_
   have hn:=ih (u+1) (by omega)
   rcases hB u (by omega) with q1|⟨q1,q2,q3⟩
   ·simp -implicitDefEqProofs (disch:=first|assumption|omega|exact Ext.refl _|(simp only[gL,gA]<;>omega)|fail) only[gC,reduceIte,rn,ha.idxG,ha.ld0,la,encI,q1]
    exact hn
   ·rcases hC u (by omega) with z|⟨_,z2,z3⟩
    ·omega
    ·obtain ⟨x,hx⟩:∃x,gi A (u:Int)=x:=⟨_,rfl⟩
     obtain ⟨y,hy⟩:∃y,gi B (u:Int)=y:=⟨_,rfl⟩
     obtain ⟨z,hz⟩:∃z,gi C (u:Int)=z:=⟨_,rfl⟩
     rw[hx] at q1 q3 z3
     rw[hy] at q2 q3
     rw[hz] at z2 z3
     simp -implicitDefEqProofs (disch:=first|assumption|omega|exact Ext.refl _|(simp only[gL,gA]<;>omega)|fail) only[gC,reduceIte,rn,ha.idxG,ha.ld0,la,encI,hx,hb.idxG,hb.ld0,lb,hy,hc.idxG,hc.ld0,lc,hz]
     exact hn
 refine WP.congr (fun k=>a0L k (.ptr on 0 2 0) a b c h) ?_
 simp -implicitDefEqProofs (disch:=first|assumption|omega|(simp only[gL,gA]<;>omega)|fail) only[gC,reduceIte,ha.lenG,la,rn,hb.lenG,lb,hc.lenG,lc]
 exact WP.ent (loop N 0 (by omega)) fun i=>rfl
set_option maxHeartbeats 2000000 in
set_option maxRecDepth 20000 in
theorem more_spec {h:Heap}{size modes frm extra:Int}{ns ls ms:AV}{zs:List Int}{l m:List Rw}{css dss:List (List AV)}(hns:Sl h 1 ns (zs.map encI))(hs:Sl h 3 ls css)(hr:RVs h l css)(hs2:Sl h 3 ms dss)(hr2:RVs h m dss) :
  Tot tab g9_ [I size,ns,I modes,ls,ms,I frm,I extra] h fun r _=>r=.bool true:=by
 refine WP.tot (fun k=>a1n k _ _ _ _ _ _ _ h) ?_
 refine WP.call (a9n h) ?_
 rintro _ h1 ⟨rfl,e1⟩
 simp -implicitDefEqProofs (maxSteps:=1000000) (disch:=first|assumption|omega|(simp only[gL]<;>omega)|((repeat (first|exact Ext.refl _|assumption|apply Ext.app|apply Ext.mk|(refine Ext.setr ?_ (by (first|omega|(simp only[gL]<;>omega))) _))); done)|(simp only[gL,gA]<;>omega)|fail) only[gB,setAll,partL,fldV,reduceIte,Nat.reduceAdd,Nat.reduceMul]
 refine WP.call (a7n (hs.ext e1) (hr.ext e1)) ?_
 rintro _ _ ⟨rfl,rfl⟩
 by_cases hf:szF 7 l<=14
 case neg=>
  rw[decide_eq_false hf]
  simp -implicitDefEqProofs (maxSteps:=1000000) (disch:=first|assumption|omega|(simp only[gL]<;>omega)|((repeat (first|exact Ext.refl _|assumption|apply Ext.app|apply Ext.mk|(refine Ext.setr ?_ (by (first|omega|(simp only[gL]<;>omega))) _))); done)|(simp only[gL,gA]<;>omega)|fail) only[gB,setAll,partL,fldV,reduceIte,Nat.reduceAdd,Nat.reduceMul]
  exact WP.ret rfl
 rw[decide_eq_true hf]
 simp -implicitDefEqProofs (maxSteps:=1000000) (disch:=first|assumption|omega|(simp only[gL]<;>omega)|((repeat (first|exact Ext.refl _|assumption|apply Ext.app|apply Ext.mk|(refine Ext.setr ?_ (by (first|omega|(simp only[gL]<;>omega))) _))); done)|(simp only[gL,gA]<;>omega)|fail) only[gB,setAll,partL,fldV,reduceIte,Nat.reduceAdd,Nat.reduceMul]
 refine WP.call (a7n (hs2.ext e1) (hr2.ext e1)) ?_
 rintro _ _ ⟨rfl,rfl⟩
 by_cases hf2:szF 7 m<=14
 case neg=>
  rw[decide_eq_false hf2]
  simp -implicitDefEqProofs (maxSteps:=1000000) (disch:=first|assumption|omega|(simp only[gL]<;>omega)|((repeat (first|exact Ext.refl _|assumption|apply Ext.app|apply Ext.mk|(refine Ext.setr ?_ (by (first|omega|(simp only[gL]<;>omega))) _))); done)|(simp only[gL,gA]<;>omega)|fail) only[gB,setAll,partL,fldV,reduceIte,Nat.reduceAdd,Nat.reduceMul]
  exact WP.ret rfl
 rw[decide_eq_true hf2]
 simp -implicitDefEqProofs (maxSteps:=1000000) (disch:=first|assumption|omega|(simp only[gL]<;>omega)|((repeat (first|exact Ext.refl _|assumption|apply Ext.app|apply Ext.mk|(refine Ext.setr ?_ (by (first|omega|(simp only[gL]<;>omega))) _))); done)|(simp only[gL,gA]<;>omega)|fail) only[gB,setAll,partL,fldV,reduceIte,Nat.reduceAdd,Nat.reduceMul]
 refine WP.call (a9K (hns.ext e1)) ?_
 rintro _ h2 ⟨e2,s,rfl,g2⟩
 have no:=b3f size zs modes
 have co:=b3C size zs modes
 have hl:=b1P size zs modes
 have hN:=a3b size
 obtain ⟨N,hNN⟩:∃N:Nat,mkN size=N:=⟨(mkN size).toNat,by omega⟩
 rw[hNN] at no hN
 rw[hNN]
 generalize mkE size zs modes=es at no co hl g2
 have gs:=g2.sl
 simp -implicitDefEqProofs (maxSteps:=1000000) (disch:=first|assumption|omega|(simp only[gL]<;>omega)|((repeat (first|exact Ext.refl _|assumption|apply Ext.app|apply Ext.mk|(refine Ext.setr ?_ (by (first|omega|(simp only[gL]<;>omega))) _))); done)|(simp only[gL,gA,gs.one,gs.cells,e0_]<;>omega)|fail) only[gB,setAll,partL,fldV,reduceIte,Nat.reduceAdd,Nat.reduceMul,gs.one,gs.cells,e0_]
 obtain ⟨h3,hh3⟩:∃h3,h3=h2++[AObj.cells ⟨[I N,s],0,0,false⟩]:=⟨_,rfl⟩
 have e3:Ext h2 h3:=by rw[hh3]; exact Ext.push _ _
 have rn:h3[h2.length]?=some (.cells ⟨[I N,s],0,0,false⟩):=by rw[hh3]; simp
 rw[<-hh3]
 have e13:=(e1.trans e2).trans e3
 refine WP.call (a7Q (hs.ext e13) (hr.ext e13) hf) ?_
 rintro _ h4 ⟨e4,D,acc,sD,sA,rfl,yD,yA,ok,lD,mq⟩
 have o1:=yD.sl.one
 have o2:=yA.sl.one
 have hw1:wrAt 2 (h4++[AObj.cells ⟨[.nils,.nils],0,0,false⟩]) (some (AObj.cells ⟨[.nils,.nils],0,0,false⟩)) h4.length 0 2 0 [sD,sA]=some (h4++[AObj.cells ⟨[sD,sA],0,0,false⟩]):=by
  refine (p6_ (n:=2) (off:=0) (hi:=2) (vs:=[sD,sA]) rfl rfl (by omega) (by simp[o1,o2])).trans ?_
  rw[e0_ rfl]
  rfl
 obtain ⟨h5,hh5⟩:∃h5,h5=h4++[AObj.cells ⟨[sD,sA],0,0,false⟩]:=⟨_,rfl⟩
 have e5:Ext h4 h5:=by rw[hh5]; exact Ext.push _ _
 have rd:h5[h4.length]?=some (.cells ⟨[sD,sA],0,0,false⟩):=by rw[hh5]; simp
 have e35:=e4.trans e5
 have rn5:=e35.get rn
 simp -implicitDefEqProofs (maxSteps:=1000000) (disch:=first|assumption|omega|(simp only[gL]<;>omega)|((repeat (first|exact Ext.refl _|assumption|apply Ext.app|apply Ext.mk|(refine Ext.setr ?_ (by (first|omega|(simp only[gL]<;>omega))) _))); done)|(simp only[gL,gA,hw1]<;>omega)|fail) only[gB,setAll,partL,fldV,reduceIte,Nat.reduceAdd,Nat.reduceMul,hw1]
 rw[<-hh5]
 simp -implicitDefEqProofs (maxSteps:=1000000) (disch:=first|assumption|omega|(simp only[gL]<;>omega)|((repeat (first|exact Ext.refl _|assumption|apply Ext.app|apply Ext.mk|(refine Ext.setr ?_ (by (first|omega|(simp only[gL]<;>omega))) _))); done)|(simp only[gL,gA,rn5]<;>omega)|fail) only[gB,setAll,partL,fldV,reduceIte,Nat.reduceAdd,Nat.reduceMul,rn5]
 refine WP.call (z8_ (by omega) (by unfold Fit; omega) _) ?_
 rintro _ _ ⟨rfl,rfl⟩
 have bn5:=(List.getElem?_eq_some_iff.1 rn5).1
 have bd5:=(List.getElem?_eq_some_iff.1 rd).1
 have l3:h3.length=h2.length+1:=by rw[hh3]; simp
 have l5:h5.length=h4.length+1:=by rw[hh5]; simp
 have l4:=e4.len
 have hlen:=no.len
 obtain ⟨h6,hh6⟩:∃h6,h6=h5++[AObj.cells ⟨[],0,0,false⟩]++[AObj.cells ⟨[AV.int .i64 0,.nils],0,0,false⟩]:=⟨_,rfl⟩
 have e6:Ext h5 h6:=by rw[hh6]; ((repeat (first|exact Ext.refl _|assumption|apply Ext.app|apply Ext.mk|(refine Ext.setr ?_ (by (first|omega|(simp only[gL]<;>omega))) _))))
 have l6:h6.length=h5.length+2:=by rw[hh6]; simp
 have rt6:h6[h5.length+1]?=some (.cells ⟨[I 0,.nils],0,0,false⟩):=by rw[hh6]; simp
 have ge:Gr h5.length (h5.length+1) h6 4 (.sl h5.length 0 0 4 none 0) []:=by
  have:=Gr.empty h5 4
  rw[a3_] at this
  rw[hh6]; exact this.app _
 have g6:=((g2.ext e3).ext e35).ext e6
 obtain ⟨s7,h7,o7,p1,p2,p3,p4⟩:=ge.appP (bytes:=32) (fun _=>by omega) g6.sl (by omega) (by omega) (by simp; omega)
 rw[List.nil_append] at p2
 have rn6:=e6.get rn5
 have rd6:=e6.get rd
 have rn7:=(p4.get (o:=h2.length) (fun z=>by omega) (by omega)).trans rn6
 have rd7:=(p4.get (o:=h4.length) (fun z=>by omega) (by omega)).trans rd6
 have rt7:=(p4.get (o:=h5.length+1) (fun z=>by omega) (by omega)).trans rt6
 simp -implicitDefEqProofs (maxSteps:=1000000) (disch:=first|assumption|omega|(simp only[gL]<;>omega)|((repeat (first|exact Ext.refl _|assumption|apply Ext.app|apply Ext.mk|(refine Ext.setr ?_ (by (first|omega|(simp only[gL]<;>omega))) _))); done)|(simp only[gL,gA,rn5]<;>omega)|fail) only[gB,setAll,partL,fldV,reduceIte,Nat.reduceAdd,Nat.reduceMul,rn5]
 rw[<-hh6]
 simp -implicitDefEqProofs (maxSteps:=1000000) (disch:=first|assumption|omega|(simp only[gL]<;>omega)|((repeat (first|exact Ext.refl _|assumption|apply Ext.app|apply Ext.mk|(refine Ext.setr ?_ (by (first|omega|(simp only[gL]<;>omega))) _))); done)|(simp only[gL,gA,p1,rn7]<;>omega)|fail) only[gB,setAll,partL,fldV,reduceIte,Nat.reduceAdd,Nat.reduceMul,p1,rn7]
 refine WP.call (z8_ (by omega) (by unfold Fit; omega) _) ?_
 rintro _ _ ⟨rfl,rfl⟩
 simp -implicitDefEqProofs (maxSteps:=1000000) (disch:=first|assumption|omega|(simp only[gL]<;>omega)|((repeat (first|exact Ext.refl _|assumption|apply Ext.app|apply Ext.mk|(refine Ext.setr ?_ (by (first|omega|(simp only[gL]<;>omega))) _))); done)|(simp only[gL,gA,rn7]<;>omega)|fail) only[gB,setAll,partL,fldV,reduceIte,Nat.reduceAdd,Nat.reduceMul,rn7]
 refine WP.call (z8_ (by omega) (by unfold Fit; omega) _) ?_
 rintro _ _ ⟨rfl,rfl⟩
 simp -implicitDefEqProofs (maxSteps:=1000000) (disch:=first|assumption|omega|(simp only[gL]<;>omega)|((repeat (first|exact Ext.refl _|assumption|apply Ext.app|apply Ext.mk|(refine Ext.setr ?_ (by (first|omega|(simp only[gL]<;>omega))) _))); done)|(simp only[gL,gA,rn7]<;>omega)|fail) only[gB,setAll,partL,fldV,reduceIte,Nat.reduceAdd,Nat.reduceMul,rn7]
 refine WP.call (z8_ (by omega) (by unfold Fit; omega) _) ?_
 rintro _ _ ⟨rfl,rfl⟩
 simp -implicitDefEqProofs (maxSteps:=1000000) (disch:=first|assumption|omega|(simp only[gL]<;>omega)|((repeat (first|exact Ext.refl _|assumption|apply Ext.app|apply Ext.mk|(refine Ext.setr ?_ (by (first|omega|(simp only[gL]<;>omega))) _))); done)|(simp only[gL,gA,rn7]<;>omega)|fail) only[gB,setAll,partL,fldV,reduceIte,Nat.reduceAdd,Nat.reduceMul,rn7]
 refine WP.call (z8_ (by omega) (by unfold Fit; omega) _) ?_
 rintro _ _ ⟨rfl,rfl⟩
 obtain ⟨e',he'⟩:∃e':E,e'=⟨extra % (N:Int),IntKind.i64.wrap (extra.tdiv 9) % (N:Int),IntKind.i64.wrap (extra.tdiv 99) % 5,IntKind.i64.wrap (extra.tdiv 7) % 5⟩:=⟨_,rfl⟩
 have hc4:encE e'=[I (extra % (N:Int)),I (IntKind.i64.wrap (extra.tdiv 9) % (N:Int)),I (IntKind.i64.wrap (extra.tdiv 99) % 5),I (IntKind.i64.wrap (extra.tdiv 7) % 5)]:=by rw[he']; rfl
 simp -implicitDefEqProofs (maxSteps:=1000000) (disch:=first|assumption|omega|(simp only[gL]<;>omega)|((repeat (first|exact Ext.refl _|assumption|apply Ext.app|apply Ext.mk|(refine Ext.setr ?_ (by (first|omega|(simp only[gL]<;>omega))) _))); done)|(simp only[gL,gA,rn7]<;>omega)|fail) only[gB,setAll,partL,fldV,reduceIte,Nat.reduceAdd,Nat.reduceMul,rn7]
 rw[<-hc4]
 have b8:=Gr.lit (h:=h7) (sz:=4) (v:=encE e') rfl
 rw[a3_] at b8
 have e8:Ext h7 (h7++[AObj.cells ⟨encE e',0,0,false⟩]):=Ext.push _ _
 have l78:(h7++[AObj.cells ⟨encE e',0,0,false⟩]).length=h7.length+1:=by simp
 have l7:=p4.len
 obtain ⟨s9,h9,o9,q1,q2,q3,q4⟩:=(p2.ext e8).appP (bytes:=32) (fun z=>by have:=p3 z; omega) b8.sl (by omega) (by omega) (by simp; omega)
 have rn9:=(q4.get (o:=h2.length) (fun z=>by have:=p3 z.1; omega) (by omega)).trans (e8.get rn7)
 have rd9:=(q4.get (o:=h4.length) (fun z=>by have:=p3 z.1; omega) (by omega)).trans (e8.get rd7)
 have rt9:=(q4.get (o:=h5.length+1) (fun z=>by have:=p3 z.1; omega) (by omega)).trans (e8.get rt7)
 have l9:=q4.len
 have es9:(es.map encE++[encE e'])=(es++[e']).map encE:=by simp
 rw[es9] at q2
 have so:=q2.sl.one
 have sc:=q2.sl.cells
 have hb9:h5.length+1<h9.length:=by omega
 have hwt:wrAt 2 h9 (some (AObj.cells ⟨[I 0,.nils],0,0,false⟩)) (h5.length+1) 0 2 0 [I N,s9]=some (h9.set (h5.length+1) (.cells ⟨[I N,s9],0,0,false⟩)):=p6_ (n:=2) (off:=0) (hi:=2) (vs:=[I N,s9]) rfl rfl (by omega) (by simp[so]; rfl)
 simp -implicitDefEqProofs (maxSteps:=1000000) (disch:=first|assumption|omega|(simp only[gL]<;>omega)|((repeat (first|exact Ext.refl _|assumption|apply Ext.app|apply Ext.mk|(refine Ext.setr ?_ (by (first|omega|(simp only[gL]<;>omega))) _))); done)|(simp only[gL,gA,q1,rn9,rt9,so,sc,hwt]<;>omega)|fail) only[gB,setAll,partL,fldV,reduceIte,Nat.reduceAdd,Nat.reduceMul,q1,rn9,rt9,so,sc,hwt]
 obtain ⟨h10,hh10⟩:∃h10,h10=h9.set (h5.length+1) (.cells ⟨[I N,s9],0,0,false⟩):=⟨_,rfl⟩
 have rm10:h10[h5.length+1]?=some (.cells ⟨[I N,s9],0,0,false⟩):=by rw[hh10]; exact a4_ hb9
 have rn10:h10[h2.length]?=some (.cells ⟨[I N,s],0,0,false⟩):=by rw[hh10,b2_ (by omega)]; exact rn9
 have rd10:h10[h4.length]?=some (.cells ⟨[sD,sA],0,0,false⟩):=by rw[hh10,b2_ (by omega)]; exact rd9
 have f10:FrS (fun o=>h5.length<=o) h6 h10:=by
  rw[hh10]
  exact ((p4.mono fun o _ z=>by omega).trans ((FrS.ofExt e8).trans (q4.mono fun o _ z=>by have:=p3 z.1; omega))).trans ((FrS.set1 _ _ _).mono fun o _ z=>by omega)
 have e10:Ext h5 h10:=f10.ext e6 fun o z1 z2=>by omega
 have gE:Sl h10 4 s (es.map encE):=(((g2.ext e3).ext e35).ext e10).sl
 have gE2:Sl h10 4 s9 ((es++[e']).map encE):=by
  by_cases z:s9=.nils
  ·have:=q2.nnil (by simp)
   exact absurd z this
  ·rw[hh10]
   exact (q2.set (by
    have h1:=q3 z
    rcases h1.1 with ⟨y1,y2⟩|y1
    ·have h2:=p3 y2; omega
    ·omega) _).sl
 have gD:Sl h10 5 sD (D.map encR):=((yD.ext e5).ext e10).sl
 have gA:Sl h10 1 sA (acc.map encB):=((yA.ext e5).ext e10).sl
 rw[<-hh10]
 obtain ⟨v,hv⟩:∃v:Nat,frm % (N:Int)=v:=⟨(frm % (N:Int)).toNat,by have:=Int.emod_nonneg frm (show (N:Int)≠0 by omega); omega⟩
 have hvN:v<N:=by have:=Int.emod_lt_of_pos frm (show (0:Int)<N by omega); omega
 rw[hv]
 have hn2:N*D.length<=1000000:=by
  have:N*D.length<=12*200:=Nat.mul_le_mul (by omega) lD
  omega
 have w5:=fun y:Int=>(⟨Int.emod_nonneg y (show (5:Int)≠0 by omega),Int.emod_lt_of_pos y (show (0:Int)<5 by omega)⟩:0<=y % 5/\y % 5<5)
 have wN:=fun y:Int=>(⟨Int.emod_nonneg y (show (N:Int)≠0 by omega),Int.emod_lt_of_pos y (show (0:Int)<N by omega)⟩:0<=y % (N:Int)/\y % (N:Int)<N)
 have no2:NetOk N (es++[e']):=⟨no.n0,no.n1,by simp; omega,fun x hx=>by
  rcases List.mem_append.1 hx with hx|hx
  ·exact no.edge x hx
  ·obtain rfl:=List.mem_singleton.1 hx
   rw[he']
   exact ⟨(wN _).1,(wN _).2,(wN _).1,(wN _).2,(w5 _).1,(w5 _).2⟩⟩
 have co2:COk (es++[e']):=⟨fun x hx=>by
  rcases List.mem_append.1 hx with hx|hx
  ·exact co.c x hx
  ·obtain rfl:=List.mem_singleton.1 hx
   have:=w5 (IntKind.i64.wrap (extra.tdiv 7))
   rw[he']
   exact ⟨this.1,by show _ % 5<=_; omega⟩⟩
 simp -implicitDefEqProofs (maxSteps:=1000000) (disch:=first|assumption|omega|(simp only[gL]<;>omega)|((repeat (first|exact Ext.refl _|assumption|apply Ext.app|apply Ext.mk|(refine Ext.setr ?_ (by (first|omega|(simp only[gL]<;>omega))) _))); done)|(simp only[gL,gA,rd9]<;>omega)|fail) only[gB,setAll,partL,fldV,reduceIte,Nat.reduceAdd,Nat.reduceMul,rd9]
 refine WP.call (a2k no co hn2 gE ok gD gA hvN) ?_
 rintro ra h11 ⟨e11,ca,la,ga⟩
 have rm11:=e11.get rm10
 have rd11:=e11.get rd10
 simp -implicitDefEqProofs (maxSteps:=1000000) (disch:=first|assumption|omega|(simp only[gL]<;>omega)|((repeat (first|exact Ext.refl _|assumption|apply Ext.app|apply Ext.mk|(refine Ext.setr ?_ (by (first|omega|(simp only[gL]<;>omega))) _))); done)|(simp only[gL,gA,rm11,rd11]<;>omega)|fail) only[gB,setAll,partL,fldV,reduceIte,Nat.reduceAdd,Nat.reduceMul,rm11,rd11]
 refine WP.call (a2k no2 co2 hn2 (gE2.ext e11) ok (gD.ext e11) (gA.ext e11) hvN) ?_
 rintro rb h12 ⟨e12,cb,lb,gb⟩
 have e10':=((e13.trans e35).trans e10).trans (e11.trans e12)
 have rn12:=(e11.trans e12).get rn10
 have xa:=(ga.ext e12).sl
 have xb:=gb.sl
 have hla:=a3f N D.length ca acc
 have hlb:=a3f N D.length cb acc
 have hB:NoM (costL N D.length ca acc) (costL N D.length cb acc) N:=fun u hu=>by
  have:=(bv_lw ok no hvN hu la).sub (bv_lw ok no2 hvN hu lb) (b1E es [e'] v) (fun l _ z=>z)
  rw[a2H (S:=D.length) (c:=ca) (acc:=acc) hu,a2H (S:=D.length) (c:=cb) (acc:=acc) hu]
  exact this
 obtain ⟨gd1,bd1⟩:=a7C l
 obtain ⟨gd2,bd2⟩:=a7C m
 obtain ⟨z1,z2,z3⟩:=a8Q l hf
 obtain ⟨y1,y2,y3⟩:=a8Q m hf2
 refine WP.call (a3d (hs.ext e10') (hr.ext e10')) ?_
 rintro _ h13 ⟨e13',c5,rfl,nv⟩
 refine WP.call (a3g _ gd1 bd1 h13 c5 nv.nv (by omega)) ?_
 rintro _ h14 ⟨e14,rfl⟩
 have t1:binV .add .scalar (.str ⟨#[40]⟩) (.str (ofL (txt (oneN l))))=some (.str (ofL ([40]++txt (oneN l)))):=add_s [40] _ (by simp; omega)
 have t2:binV .add .scalar (.str (ofL ([40]++txt (oneN l)))) (.str ⟨#[41,124,40]⟩)=some (.str (ofL ([40]++txt (oneN l)++[41,124,40]))):=add_s _ [41,124,40] (by simp; omega)
 rw[t1]
 simp -implicitDefEqProofs (maxSteps:=1000000) (disch:=first|assumption|omega|(simp only[gL]<;>omega)|((repeat (first|exact Ext.refl _|assumption|apply Ext.app|apply Ext.mk|(refine Ext.setr ?_ (by (first|omega|(simp only[gL]<;>omega))) _))); done)|(simp only[gL,gA]<;>omega)|fail) only[gB,setAll,partL,fldV,reduceIte,Nat.reduceAdd,Nat.reduceMul]
 rw[t2]
 simp -implicitDefEqProofs (maxSteps:=1000000) (disch:=first|assumption|omega|(simp only[gL]<;>omega)|((repeat (first|exact Ext.refl _|assumption|apply Ext.app|apply Ext.mk|(refine Ext.setr ?_ (by (first|omega|(simp only[gL]<;>omega))) _))); done)|(simp only[gL,gA]<;>omega)|fail) only[gB,setAll,partL,fldV,reduceIte,Nat.reduceAdd,Nat.reduceMul]
 have e10'':=(e10'.trans e13').trans e14
 refine WP.call (a3d (hs2.ext e10'') (hr2.ext e10'')) ?_
 rintro _ h15 ⟨e15,c6,rfl,nv2⟩
 refine WP.call (a3g _ gd2 bd2 h15 c6 nv2.nv (by omega)) ?_
 rintro _ h16 ⟨e16,rfl⟩
 have t3:binV .add .scalar (.str (ofL ([40]++txt (oneN l)++[41,124,40]))) (.str (ofL (txt (oneN m))))=some (.str (ofL ([40]++txt (oneN l)++[41,124,40]++txt (oneN m)))):=add_s _ _ (by simp; omega)
 have t4:binV .add .scalar (.str (ofL ([40]++txt (oneN l)++[41,124,40]++txt (oneN m)))) (.str ⟨#[41]⟩)=some (.str (ofL (altT (oneN l) (oneN m)))):=by
  rw[show altT (oneN l) (oneN m)=[40]++txt (oneN l)++[41,124,40]++txt (oneN m)++[41] by simp[altT]]
  exact add_s _ [41] (by simp; omega)
 rw[t3]
 simp -implicitDefEqProofs (maxSteps:=1000000) (disch:=first|assumption|omega|(simp only[gL]<;>omega)|((repeat (first|exact Ext.refl _|assumption|apply Ext.app|apply Ext.mk|(refine Ext.setr ?_ (by (first|omega|(simp only[gL]<;>omega))) _))); done)|(simp only[gL,gA]<;>omega)|fail) only[gB,setAll,partL,fldV,reduceIte,Nat.reduceAdd,Nat.reduceMul]
 rw[t4]
 simp -implicitDefEqProofs (maxSteps:=1000000) (disch:=first|assumption|omega|(simp only[gL]<;>omega)|((repeat (first|exact Ext.refl _|assumption|apply Ext.app|apply Ext.mk|(refine Ext.setr ?_ (by (first|omega|(simp only[gL]<;>omega))) _))); done)|(simp only[gL,gA]<;>omega)|fail) only[gB,setAll,partL,fldV,reduceIte,Nat.reduceAdd,Nat.reduceMul]
 have gu:Gd (.uni [oneN l,oneN m]):=.mk (by show 2<=2; omega) fun c hc=>by
  simp only[Nd.kids,List.mem_cons,List.not_mem_nil,or_false] at hc
  rcases hc with rfl|rfl
  ·exact gd1
  ·exact gd2
 have bu:Bd (.uni [oneN l,oneN m]):=bd_of gu (by simp[Nd.kids]) fun c hc=>by
  simp only[Nd.kids,List.mem_cons,List.not_mem_nil,or_false] at hc
  rcases hc with rfl|rfl
  ·exact bd1
  ·exact bd2
 have hal:(altT (oneN l) (oneN m)).length=(txt (oneN l)).length+(txt (oneN m)).length+5:=by simp[altT]; omega
 refine WP.call (a2J (by rw[t0_,hal]; omega) (show cst (oneN l)+cst (oneN m)+100<=900000 by omega) (b2Y gd1 gd2 (by omega) (by omega)) gu bu h16) ?_
 rintro _ h17 ⟨e17,q17⟩
 have e1017:=((e13'.trans e14).trans e15).trans (e16.trans e17)
 have fin:∀(H:Heap) (c:AV) (C:List Int),Ext h17 H->Sl H 1 c (C.map encI)->C.length=N->NoM (costL N D.length ca acc) C N->WP (fun k:Nat=>c7_ k (.ptr h2.length 0 2 0) ra rb c H) fun r h'=>r=.bool true:=fun H c C eH sc lc hC=>
  b3a ((e1017.trans eH).get rn12) (xa.ext (e1017.trans eH)) (xb.ext (e1017.trans eH)) sc hla hlb lc (by omega) hB hC
 unfold CmpQ at q17
 have eP:∀x y,Ext h17 ((h17++[x]).set h17.length y):=fun x y=>(Ext.push h17 [x]).setr (Nat.le_refl _) y
 cases hnf:nfaF (.uni [oneN l,oneN m]) with
 |none=>
  rw[hnf] at q17
  obtain rfl:=q17
  simp -implicitDefEqProofs (maxSteps:=1000000) (disch:=first|assumption|omega|(simp only[gL]<;>omega)|((repeat (first|exact Ext.refl _|assumption|apply Ext.app|apply Ext.mk|(refine Ext.setr ?_ (by (first|omega|(simp only[gL]<;>omega))) _))); done)|(simp only[gL,gA,a0_]<;>omega)|fail) only[gB,setAll,partL,fldV,reduceIte,Nat.reduceAdd,Nat.reduceMul,a0_]
  exact fin _ _ _ (eP _ _) ((xa.ext e1017).ext (eP _ _)) hla hB.rfl'
 |some nf=>
  rw[hnf] at q17
  cases hsb:subF nf 200 with
  |none=>
   simp only[hsb] at q17
   obtain rfl:=q17
   simp -implicitDefEqProofs (maxSteps:=1000000) (disch:=first|assumption|omega|(simp only[gL]<;>omega)|((repeat (first|exact Ext.refl _|assumption|apply Ext.app|apply Ext.mk|(refine Ext.setr ?_ (by (first|omega|(simp only[gL]<;>omega))) _))); done)|(simp only[gL,gA,a0_]<;>omega)|fail) only[gB,setAll,partL,fldV,reduceIte,Nat.reduceAdd,Nat.reduceMul,a0_]
   exact fin _ _ _ (eP _ _) ((xa.ext e1017).ext (eP _ _)) hla hB.rfl'
  |some p=>
   obtain ⟨DU,aU⟩:=p
   simp only[hsb] at q17
   obtain ⟨vv,rfl,D2,acc2,sN2,sA2,rfl,gN2,gA2,ok2,hle2,hw2⟩:=q17
   have o1:=gN2.sl.one
   have o2:=gA2.sl.one
   have hw3:wrAt 2 (h17++[AObj.cells ⟨[.nils,.nils],0,0,false⟩]) (some (AObj.cells ⟨[.nils,.nils],0,0,false⟩)) h17.length 0 2 0 [sN2,sA2]=some (h17++[AObj.cells ⟨[sN2,sA2],0,0,false⟩]):=by
    refine (p6_ (n:=2) (off:=0) (hi:=2) (vs:=[sN2,sA2]) rfl rfl (by omega) (by simp[o1,o2])).trans ?_
    rw[e0_ rfl]
    rfl
   simp -implicitDefEqProofs (maxSteps:=1000000) (disch:=first|assumption|omega|(simp only[gL]<;>omega)|((repeat (first|exact Ext.refl _|assumption|apply Ext.app|apply Ext.mk|(refine Ext.setr ?_ (by (first|omega|(simp only[gL]<;>omega))) _))); done)|(simp only[gL,gA,a0_,hw3]<;>omega)|fail) only[gB,setAll,partL,fldV,reduceIte,Nat.reduceAdd,Nat.reduceMul,a0_,hw3]
   obtain ⟨h18,hh18⟩:∃h18,h18=h17++[AObj.cells ⟨[sN2,sA2],0,0,false⟩]:=⟨_,rfl⟩
   have e18:Ext h17 h18:=by rw[hh18]; exact Ext.push _ _
   have ru:h18[h17.length]?=some (.cells ⟨[sN2,sA2],0,0,false⟩):=by rw[hh18]; simp
   rw[<-hh18]
   have eA:=(e10'.trans e1017).trans e18
   refine WP.call (a3d (hs.ext eA) (hr.ext eA)) ?_
   rintro _ h19 ⟨e19,c7,rfl,nv3⟩
   refine WP.call (a3g _ gd1 bd1 h19 c7 nv3.nv (by omega)) ?_
   rintro _ h20 ⟨e20,rfl⟩
   refine WP.call (a2J (by rw[t0_]; omega) (show cst (oneN l)+18<=900000 by omega) (a8z gd1 (by omega)) gd1 bd1 h20) ?_
   rintro _ h21 ⟨e21,q21⟩
   have e1721:=((e18.trans e19).trans e20).trans e21
   have eQ:∀x y,Ext h17 ((h21++[x]).set h21.length y):=fun x y=>(e1721.trans (Ext.push h21 [x])).setr (by have:=e1721.len; omega) y
   unfold CmpQ at q21
   cases hnf1:nfaF (oneN l) with
   |none=>
    rw[hnf1] at q21
    obtain rfl:=q21
    simp -implicitDefEqProofs (maxSteps:=1000000) (disch:=first|assumption|omega|(simp only[gL]<;>omega)|((repeat (first|exact Ext.refl _|assumption|apply Ext.app|apply Ext.mk|(refine Ext.setr ?_ (by (first|omega|(simp only[gL]<;>omega))) _))); done)|(simp only[gL,gA,a0_]<;>omega)|fail) only[gB,setAll,partL,fldV,reduceIte,Nat.reduceAdd,Nat.reduceMul,a0_]
    exact fin _ _ _ (eQ _ _) ((xa.ext e1017).ext (eQ _ _)) hla hB.rfl'
   |some nf1=>
    rw[hnf1] at q21
    cases hsb1:subF nf1 200 with
    |none=>
     simp only[hsb1] at q21
     obtain rfl:=q21
     simp -implicitDefEqProofs (maxSteps:=1000000) (disch:=first|assumption|omega|(simp only[gL]<;>omega)|((repeat (first|exact Ext.refl _|assumption|apply Ext.app|apply Ext.mk|(refine Ext.setr ?_ (by (first|omega|(simp only[gL]<;>omega))) _))); done)|(simp only[gL,gA,a0_]<;>omega)|fail) only[gB,setAll,partL,fldV,reduceIte,Nat.reduceAdd,Nat.reduceMul,a0_]
     exact fin _ _ _ (eQ _ _) ((xa.ext e1017).ext (eQ _ _)) hla hB.rfl'
    |some p1=>
     obtain ⟨D1,a1⟩:=p1
     simp only[hsb1] at q21
     obtain ⟨vv,rfl,D3,acc3,sN3,sA3,rfl,gN3,gA3,ok3,hle3,hw3'⟩:=q21
     have o1:=gN3.sl.one
     have o2:=gA3.sl.one
     have hw4:wrAt 2 (h21++[AObj.cells ⟨[.nils,.nils],0,0,false⟩]) (some (AObj.cells ⟨[.nils,.nils],0,0,false⟩)) h21.length 0 2 0 [sN3,sA3]=some (h21++[AObj.cells ⟨[sN3,sA3],0,0,false⟩]):=by
      refine (p6_ (n:=2) (off:=0) (hi:=2) (vs:=[sN3,sA3]) rfl rfl (by omega) (by simp[o1,o2])).trans ?_
      rw[e0_ rfl]
      rfl
     obtain ⟨h22,hh22⟩:∃h22,h22=h21++[AObj.cells ⟨[sN3,sA3],0,0,false⟩]:=⟨_,rfl⟩
     have e22:Ext h21 h22:=by rw[hh22]; exact Ext.push _ _
     have e1822:=((e19.trans e20).trans e21).trans e22
     have rn22:=((e1017.trans e18).trans e1822).get rn12
     have ru22:=e1822.get ru
     simp -implicitDefEqProofs (maxSteps:=1000000) (disch:=first|assumption|omega|(simp only[gL]<;>omega)|((repeat (first|exact Ext.refl _|assumption|apply Ext.app|apply Ext.mk|(refine Ext.setr ?_ (by (first|omega|(simp only[gL]<;>omega))) _))); done)|(simp only[gL,gA,a0_,hw4]<;>omega)|fail) only[gB,setAll,partL,fldV,reduceIte,Nat.reduceAdd,Nat.reduceMul,a0_,hw4]
     rw[<-hh22]
     simp -implicitDefEqProofs (maxSteps:=1000000) (disch:=first|assumption|omega|(simp only[gL]<;>omega)|((repeat (first|exact Ext.refl _|assumption|apply Ext.app|apply Ext.mk|(refine Ext.setr ?_ (by (first|omega|(simp only[gL]<;>omega))) _))); done)|(simp only[gL,gA,rn22,ru22]<;>omega)|fail) only[gB,setAll,partL,fldV,reduceIte,Nat.reduceAdd,Nat.reduceMul,rn22,ru22]
     have hn3:N*D2.length<=1000000:=by
      have:=a7P hsb
      have:N*D2.length<=12*200:=Nat.mul_le_mul (by omega) (by omega)
      omega
     have e1022:=((e11.trans e12).trans (e1017.trans e18)).trans e1822
     refine WP.call (a2k no co hn3 (gE.ext e1022) ok2 ((gN2.sl.ext e18).ext e1822) ((gA2.sl.ext e18).ext e1822) hvN) ?_
     rintro rc h23 ⟨e23,cc,lc,gc⟩
     have hlc:=a3f N D2.length cc acc2
     refine fin h23 rc _ ((e18.trans e1822).trans e23) gc.sl hlc fun u hu=>?_
     have:=(bv_lw ok no hvN hu la).sub (bv_lw ok2 no hvN hu lc) (fun l ho=>⟨ho,rfl,rfl,rfl⟩) (fun w ho z=>?_)
     ·rw[a2H (S:=D.length) (c:=ca) (acc:=acc) hu,a2H (S:=D2.length) (c:=cc) (acc:=acc2) hu]
      exact this
     ·have hm:=OkW.md no ho
      rcases mq with ⟨nf',D0,acc0,m1,m2,m3⟩|⟨m1,_⟩
      ·rw[<-hw2 _ hm]
       rw[<-m3 _ hm] at z
       exact (b0l gu hnf hsb hm).2 (b3h.2 (.inl ((b0l gd1 m1 m2 hm).1 z)))
      ·have:=m1 _ hnf1
       rw[hsb1] at this; cases this
end Go.Gm.AQ
namespace Go.Gm
open Go.RowKit
def roObj (cs:List AV):AObj:=.cells ⟨cs,0,0,true⟩
def initH (L:List (List AV × Option Loc)):Heap:=L.map fun p=>roObj p.1
def initR (L:List (List AV × Option Loc)):Ren:=⟨fun o g=>if g=0 then (L[o]?).bind (·.2) else none,fun _=>none⟩
def EntOk (W:World)(φ:Ren)(p:List AV × Option Loc):Prop:=∀l,p.2=some l->∃C e fr,W.heap[l.b]?=some (.cells C e fr)/\C.size=l.N/\l.n=p.1.length/\CellsAt φ p.1 l C
theorem initS {W:World}{L:List (List AV × Option Loc)}(hL:∀p∈L,EntOk W (initR L) p) :
  S W.heap.size W (initR L) (initH L) W:=by
 have got:∀o g l,(initR L).c o g=some l->g=0/\∃cs,L[o]?=some (cs,some l):=fun o g l h=>by
  simp only[initR] at h
  split at h
  ·rename_i hg
   cases hq:L[o]? with
   |none=>rw[hq] at h; cases h
   |some p=>rw[hq] at h; exact ⟨hg,p.1,by rw[<-(show p.2=some l from h)]⟩
  ·cases h
 have ro:∀o g l,(initR L).c o g=some l->isRo (initH L) o=true:=fun o g l h=>by
  obtain ⟨_,cs,hq⟩:=got o g l h
  simp[isRo,initH,hq,roObj]
 refine ⟨⟨fun o g l h=>?_,fun o b h=>(by cases h),fun o g l o' g' l' h h' _=>.inr ⟨ro o g l h,ro o' g' l' h'⟩,fun o b o' b' h=>(by cases h)⟩,Below.refl _ _,Nat.le_refl _⟩
 obtain ⟨hg,cs,hq⟩:=got o g l h
 subst hg
 obtain ⟨C,e,fr,h1,h2,h3,h4⟩:=hL _ (List.mem_of_getElem? hq) l rfl
 exact ⟨⟨cs,0,0,true⟩,by simp[initH,hq,roObj],Nat.le_refl _,Nat.le_refl _,⟨C,e,fr,h1,h2,fun q=>(by cases q),fun _=>h4⟩,fun _=>h3⟩
theorem entry {P:Program}{T:Tab}(hv:Valid P T){W:World}{L:List (List AV × Option Loc)}(hL:∀p∈L,EntOk W (initR L) p){f:FuncId}{args:List AV}{args':List Value}(ha:VRs (initR L) args args'){Q:AV->Heap->Prop}(ht:Tot T f args (initH L) Q)(hq:∀v h,Q v h->v=.bool true) :
  Calls P f args'.toArray W fun e w'=>e=.returned (.bool true)/\Below W.heap.size W w':=by
 obtain ⟨v,h',h1,N,hN⟩:=ht
 have hv1:=hq v h' h1
 subst hv1
 obtain ⟨_,h2⟩:=fnSim (B:=W.heap.size) (w0:=W) hv N f args (initH L) _ _ (hN N (Nat.le_refl N))
 refine (h2 _ W args' ha (initS hL)).mono ?_
 rintro e w' ⟨ψ,v',rfl,k1,k2,k3⟩
 cases k1
 exact ⟨rfl,k2.below⟩
theorem intsArg {W:World}{a:Addr}{len cap:Nat}{zs:List Int}(hl:len<=cap)(hm:cap<=maxLen)(hz:zs.length=cap)(hc:∀i,i<zs.length->W.cell? (a.add i)=some (.int .i64 (zs.getD i 0)))(o:Nat) :
  ∃(p:List AV × Option Loc) (x:AV),(∀φ,EntOk W φ p)/\∀L:List (List AV × Option Loc),L[o]?=some p->VR (initR L) x (.slice (some a) len cap)/\Sl (initH L) 1 x ((zs.take len).map fun n=>[I n]):=by
 by_cases h0:0<zs.length
 ·obtain ⟨b,off,rfl,hcell⟩:=Go.ints_at hc h0
  have h1:=hcell 0 h0
  obtain ⟨C,e,fr,hb,hC⟩:∃C e fr,W.heap[b]?=some (.cells C e fr)/\∀j,j<zs.length->C[off+j]?=some (.int .i64 (zs.getD j 0)):=by
   simp only[World.cell?] at h1
   cases hh:W.heap[b]? with
   |none=>rw[hh] at h1; cases h1
   |some ob=>
    cases ob with
    |cells C e fr=>
     refine ⟨C,e,fr,rfl,fun j hj=>?_⟩
     have:=hcell j hj
     simpa [World.cell?,hh] using this
    |_=>rw[hh] at h1; cases h1
  have hN:off+cap<=C.size:=by
   have:=(Array.getElem?_eq_some_iff.1 (hC (zs.length-1) (by omega))).1
   omega
  refine ⟨(zs.map I,some ⟨b,off,C.size,cap⟩),.sl o 0 len 1 (some cap) 0,fun φ l hl'=>?_,fun L hL=>⟨?_,?_⟩⟩
  ·injection hl' with hl'
   subst hl'
   refine ⟨C,e,fr,hb,rfl,by simp[hz],by simp[hz],hN,fun i hi=>?_⟩
   refine ⟨I (zs.getD i 0),_,?_,hC i (by simpa [hz] using hi),.int _ _,rfl⟩
   simp only at hi
   simp[List.getD_eq_getElem?_getD,hz,hi]
  ·refine VR.sl (l:=⟨b,off,C.size,cap⟩) ?_ (by simp; exact hl) hl hm (by simp; exact hN) (fun c q=>by injection q)
   simp[initR,hL]
  ·refine .inr ⟨o,0,some cap,0,⟨zs.map I,0,0,true⟩,?_,?_,Nat.le_refl _,?_,?_⟩
   ·simp[hz,Nat.min_eq_left hl]
   ·simp[initH,hL,roObj]
   ·simp only[List.drop_zero,List.length_map,Nat.mul_one]
    rw[List.length_take,hz,Nat.min_eq_left hl,<-List.map_take]
    generalize zs.take len=ys
    induction ys with
    |nil=>rfl
    |cons y ys ih=>simp[ih]
   ·intro x hx
    simp only[List.mem_map] at hx
    obtain ⟨n,_,rfl⟩:=hx
    rfl
 ·have hz0:zs=[]:=List.eq_nil_of_length_eq_zero (by omega)
  subst hz0
  simp only[List.length_nil] at hz
  subst hz
  obtain rfl:len=0:=by omega
  refine ⟨([],none),.sl o 0 0 1 (some 0) 0,fun φ l q=>(by cases q),fun L hL=>⟨.sl0 (fun q=>by cases q) (fun c q=>by injection q with q; exact q.symm),?_⟩⟩
  exact .inr ⟨o,0,some 0,0,⟨[],0,0,true⟩,rfl,by simp[initH,hL,roObj],Nat.le_refl _,rfl,fun x hx=>by simp at hx⟩
theorem rowArg {W:World}{a:Option Addr}{len cap:Nat}{zs:List Int}(w:(a=none/\len=0/\cap=0/\zs=[])\/∃x,a=some x/\len<=cap/\cap<=maxLen/\zs.length=cap/\(∀i,i<zs.length->W.cell? (x.add i)=some (.int .i64 (zs.getD i 0)))/\∀n∈zs,(Lit.int .i64 n).wf=true)(o:Nat) :
  ∃(p:List AV × Option Loc) (x:AV),(∀φ,EntOk W φ p)/\∀L:List (List AV × Option Loc),L[o]?=some p->VR (initR L) x (.slice a len cap)/\Sl (initH L) 1 x ((zs.take len).map fun n=>[I n]):=by
 rcases w with ⟨rfl,rfl,rfl,rfl⟩|⟨x,rfl,h1,h2,h3,h4,_⟩
 ·exact ⟨([],none),.nils,fun φ l q=>(by cases q),fun L hL=>⟨.nils,.inl ⟨rfl,rfl⟩⟩⟩
 ·exact intsArg h1 h2 h3 h4 o
end Go.Gm
namespace Go.Gm
structure RawTy (P:Program) (T E I3:TypeId):Prop where
 t:P.underlying T=some (.slice E)
 e:∃f0 f1 f2:Field,P.underlying E=some (.struct #[f0,f1,f2])/\f0.type=I3/\f0.offset=0/\f1.type=I3/\f1.offset=1/\f2.type=T/\f2.offset=2
 i:P.underlying I3=some (.int .i64)
 ce:P.cellsOf E=3
 ci:P.cellsOf I3=1
 ct:P.cellsOf T=1
def Emb (F:List (List AV × Option Loc))(o:Nat)(L:List (List AV × Option Loc)):Prop:=∀(i:Nat) p,F[i]?=some p->L[o+i]?=some p
theorem Emb.head {p:List AV × Option Loc}{F L:List (List AV × Option Loc)}{o:Nat}(e:Emb (p::F) o L):L[o]?=some p:=e 0 p rfl
theorem Emb.tail {p:List AV × Option Loc}{F L:List (List AV × Option Loc)}{o:Nat}(e:Emb (p::F) o L):Emb F (o+1) L:=fun i q h=>by
 have:=e (i+1) q (by simpa using h)
 rwa [show o+(i+1)=o+1+i by omega] at this
theorem Emb.left {F G L:List (List AV × Option Loc)}{o:Nat}(e:Emb (F++G) o L):Emb F o L:=fun i q h=>e i q (by rw[List.getElem?_append_left (List.getElem?_eq_some_iff.1 h).1]; exact h)
theorem Emb.right {F G L:List (List AV × Option Loc)}{o:Nat}(e:Emb (F++G) o L):Emb G (o+F.length) L:=fun i q h=>by
 have:=e (F.length+i) q (by rw[List.getElem?_append_right (by omega),Nat.add_sub_cancel_left]; exact h)
 rwa [show o+(F.length+i)=o+F.length+i by omega] at this
section
variable {H:Type} {enc:TypeId × Value->H} {P:Program} {T E I3:TypeId} {W:World}
def Came (W:World)(a:Option Addr)(len cap:Nat)(o:Nat)(F:List (List AV × Option Loc))(v:AV)(rs:List Rw)(css:List (List AV)):Prop:=
 ∀L,Emb F o L->(∀p∈F,EntOk W (initR L) p)/\VR (initR L) v (.slice a len cap)/\Sl (initH L) 3 v css/\RVs (initH L) rs css
theorem RVs.snoc {h:Heap}{r:Rw}{cs:List AV}(a:RV h r cs):∀{l:List Rw} {css:List (List AV)},RVs h l css->RVs h (l++[r]) (css++[cs])
 |_,_,.nil=>.cons a .nil
 |_,_,.cons x y=>.cons x (RVs.snoc a y)
theorem rawsArg (ty:RawTy P T E I3):∀(fuel:Nat) (cs:List Value) (x:DataW H × List MemPlace),DataW.trod enc P W 0 (fun _=>true) true fuel T cs=some x->
  ∃(a:Option Addr) (len cap:Nat),cs=[.slice a len cap]/\∀o,∃F v rs css,Came W a len cap o F v rs css:=by
 intro fuel
 induction fuel using Nat.strongRecOn with
 |_ fuel ih=>
 intro cs x hx
 rcases DataW.trod_slice ty.t hx with ⟨rfl,_⟩|⟨a,len,cap,elems,rest,n,rfl,rfl,_,_,hl,hm,hel,hE,hR,_⟩
 ·exact ⟨none,0,0,rfl,fun o=>⟨[],.nils,[],[],fun L _=>⟨fun p hp=>by simp at hp,.nils,.inl ⟨rfl,rfl⟩,.nil⟩⟩⟩
 ·refine ⟨some a,len,cap,rfl,fun o=>?_⟩
  obtain ⟨hrl,hR⟩:=hR rfl
  by_cases hc:cap=0
  ·subst hc
   obtain rfl:len=0:=by omega
   refine ⟨[([],none)],.sl o 0 0 3 (some 0) 0,[],[],fun L hL=>⟨fun p hp l q=>?_,.sl0 (fun q=>by cases q) (fun c q=>by injection q with q; exact q.symm),?_,.nil⟩⟩
   ·rw[List.mem_singleton.1 hp] at q; cases q
   ·exact .inr ⟨o,0,some 0,0,⟨[],0,0,true⟩,rfl,by simp[initH,hL.head,roObj],Nat.le_refl _,rfl,fun x hx=>by simp at hx⟩
  ·
   have each:∀i,i<cap->∃c3 y,W.cells? 0 (a.add (i*3)) 3=some c3/\DataW.trod enc P W 0 (fun _=>true) true n E c3=some y:=by
    intro i hi
    by_cases hil:i<len
    ·have h1:=hE i hil
     rw[List.getElem?_eq_getElem (by omega),Option.bind_eq_some_iff,ty.ce] at h1
     obtain ⟨c3,h2,h3⟩:=h1
     exact ⟨c3,_,h2,h3⟩
    ·have h1:=hR (i-len) (by omega)
     rw[List.getElem?_eq_getElem (by omega),Option.bind_eq_some_iff,ty.ce,show len+(i-len)=i by omega] at h1
     obtain ⟨c3,h2,h3⟩:=h1
     exact ⟨c3,_,h2,h3⟩
   obtain ⟨b,off,spot⟩:=a
   have hspot:spot=none:=by
    obtain ⟨c3,y,h1,_⟩:=each 0 (by omega)
    obtain ⟨_,h2,h3⟩:=World.cells?_some h1
    have h4:=h3 0 (by omega)
    rw[List.getElem?_eq_getElem (by omega)] at h4
    have:=World.cell?_spot h4
    simpa [Addr.add] using this
   subst hspot
   have cell:∀i,i<cap->∃(k m:Int) (s:Value) (y:DataW H × List MemPlace) (n':Nat),n'<n+1/\W.cell? ⟨b,off+i*3,none⟩=some (.int .i64 k)/\W.cell? ⟨b,off+i*3+1,none⟩=some (.int .i64 m)/\W.cell? ⟨b,off+i*3+2,none⟩=some s/\
     DataW.trod enc P W 0 (fun _=>true) true n' T [s]=some y:=by
    intro i hi
    obtain ⟨c3,y,h1,h2⟩:=each i hi
    obtain ⟨_,h3,h4⟩:=World.cells?_some h1
    obtain ⟨f0,f1,f2,e0,t0,o0,t1,o1,t2,o2⟩:=ty.e
    obtain ⟨xs,n',rfl,_,_,hxl,hf⟩:=DataW.trod_struct e0 h2
    match c3,h3 with
    |[v0,v1,v2],_=>
    have g0:=hf 0 f0 rfl
    have g1:=hf 1 f1 rfl
    have g2:=hf 2 f2 rfl
    simp only[List.size_toArray,List.length_cons,List.length_nil] at hxl
    rw[t0,o0,ty.ci] at g0
    rw[t1,o1,ty.ci] at g1
    rw[t2,o2,ty.ct] at g2
    simp only[List.drop_zero,List.drop_succ_cons,List.take_succ_cons,List.take_zero] at g0 g1 g2
    rw[List.getElem?_eq_getElem (by omega)] at g0 g1 g2
    obtain ⟨k,q0,_,_⟩:=DataW.trod_int ty.i g0
    obtain ⟨m,q1,_,_⟩:=DataW.trod_int ty.i g1
    have c0:=h4 0 (by omega)
    have c1:=h4 1 (by omega)
    have c2:=h4 2 (by omega)
    rw[Go.WideShapes.add_plain,Go.WideShapes.add_plain] at c0 c1 c2
    simp only[List.cons.injEq,and_true] at q0 q1
    subst q0 q1
    exact ⟨k,m,v2,_,n',by omega,by simpa using c0,by simpa using c1,by simpa using c2,g2⟩
   obtain ⟨C,e,fr,hb⟩:∃C e fr,W.heap[b]?=some (.cells C e fr):=by
    obtain ⟨k,m,s,y,n',_,h1,_⟩:=cell 0 (by omega)
    simp only[World.cell?] at h1
    cases hh:W.heap[b]? with
    |none=>rw[hh] at h1; cases h1
    |some ob=>
     cases ob with
     |cells C e fr=>exact ⟨C,e,fr,rfl⟩
     |_=>rw[hh] at h1; cases h1
   have cellC:∀j v,W.cell? ⟨b,j,none⟩=some v->C[j]?=some v:=fun j v h=>by simpa [World.cell?,hb] using h
   have hN:off+cap*3<=C.size:=by
    obtain ⟨k,m,s,y,n',_,_,_,h1,_⟩:=cell (cap-1) (by omega)
    have:=(Array.getElem?_eq_some_iff.1 (cellC _ _ h1)).1
    omega
   have rec_:∀m,m<=len->∀o',∃(F:List (List AV × Option Loc)) (rs:List Rw) (css:List (List AV)),css.length=m/\(∀c∈css,c.length=3)/\
     ∀L,Emb F o' L->(∀p∈F,EntOk W (initR L) p)/\RVs (initH L) rs css/\∀j,j<m*3->∃x v,css.flatten[j]?=some x/\C[off+j]?=some v/\VR (initR L) x v/\x.one=true:=by
    intro m
    induction m with
    |zero=>intro _ o'; exact ⟨[],[],[],rfl,fun c hc=>by simp at hc,fun L _=>⟨fun p hp=>by simp at hp,.nil,fun j hj=>by omega⟩⟩
    |succ m ihm=>
     intro hml o'
     obtain ⟨F,rs,css,h1,h2,h3⟩:=ihm (by omega) o'
     obtain ⟨k,mm,s,y,n',hn',c0,c1,c2,ht⟩:=cell m (by omega)
     obtain ⟨a',len',cap',es,hin⟩:=ih n' hn' [s] y ht
     obtain ⟨G,v,rs',css',hcame⟩:=hin (o'+F.length)
     simp only[List.cons.injEq,and_true] at es
     subst es
     refine ⟨F++G,rs++[.mk k mm rs'],css++[[I k,I mm,v]],by simp[h1],fun c hc=>?_,fun L hL=>?_⟩
     ·rcases List.mem_append.1 hc with hc|hc
      ·exact h2 c hc
      ·rw[List.mem_singleton.1 hc]; rfl
     ·obtain ⟨k1,k2,k3⟩:=h3 L hL.left
      obtain ⟨k4,k5,k6,k7⟩:=hcame L hL.right
      have hfl:=h3_ h2
      rw[h1] at hfl
      refine ⟨fun p hp=>(List.mem_append.1 hp).elim (k1 p) (k4 p),k2.snoc (.mk k6 k7),fun j hj=>?_⟩
      rw[List.flatten_append]
      by_cases hjm:j<m*3
      ·obtain ⟨x,v',q1,q2⟩:=k3 j hjm
       exact ⟨x,v',by rw[List.getElem?_append_left (by omega)]; exact q1,q2⟩
      ·rw[List.getElem?_append_right (by omega),hfl]
       have hj3:j-m*3=0\/j-m*3=1\/j-m*3=2:=by omega
       rcases hj3 with hj3|hj3|hj3
       ·rw[hj3]
        exact ⟨I k,_,rfl,by rw[show off+j=off+m*3 by omega]; exact cellC _ _ c0,.int _ _,rfl⟩
       ·rw[hj3]
        exact ⟨I mm,_,rfl,by rw[show off+j=off+m*3+1 by omega]; exact cellC _ _ c1,.int _ _,rfl⟩
       ·rw[hj3]
        exact ⟨v,_,rfl,by rw[show off+j=off+m*3+2 by omega]; exact cellC _ _ c2,k5,k6.one⟩
   obtain ⟨F,rs,css,h1,h2,h3⟩:=rec_ len (Nat.le_refl _) (o+1)
   have hfl:=h3_ h2
   rw[h1] at hfl
   refine ⟨(css.flatten,some ⟨b,off,C.size,len*3⟩)::F,.sl o 0 len 3 (some cap) 0,rs,css,fun L hL=>?_⟩
   obtain ⟨k1,k2,k3⟩:=h3 L hL.tail
   have hLo:=hL.head
   refine ⟨fun p hp=>?_,?_,?_,k2⟩
   ·rcases List.mem_cons.1 hp with rfl|hp
    ·intro l hl'
     injection hl' with hl'
     subst hl'
     exact ⟨C,e,fr,hb,rfl,by simp[hfl],by simp[hfl],by simp; omega,fun i hi=>k3 i hi⟩
    ·exact k1 p hp
   ·refine VR.sl (l:=⟨b,off,C.size,len*3⟩) ?_ (by simp) hl hm (by simp; exact hN) (fun c q=>by injection q)
    simp[initR,hLo]
   ·refine .inr ⟨o,0,some cap,0,⟨css.flatten,0,0,true⟩,by rw[h1],by simp[initH,hLo,roObj],Nat.le_refl _,?_,h2⟩
    rw[List.drop_zero,h1]
    exact List.take_of_length_le (by rw[hfl]; exact Nat.le_refl _)
end
end Go.Gm
