/- A part of the proof (GmAZRT, GmAZV, GmAZX, GmAZY, GmAZZ, GmAZMA, GmAZMB, GmAZBK, GmAZBM, GmAZBN, GmAZBO, GmAZBP, GmAZBQ, GmAZBR, GmAZBS, GmAZBT, GmAZBU, GmAZBV, GmAZCA, GmAZCB, GmPt, GmAZCC, GmAZCD, GmPu, GmAZCE). -/
import Derived.Test.YtldnkafmanalmaaGreatQueryCountsP6
set_option autoImplicit true
set_option relaxedAutoImplicit true
set_option linter.unusedVariables false
set_option linter.unusedSimpArgs false
set_option linter.unusedSectionVars false
namespace Go.Gm.AZ
open Go Go.Gm
section
variable {h:Heap} {N:Nat} {es:List E} {D:List (List Int)} {acc:List Bool}
def RouteQ (N:Nat)(es:List E)(D:List (List Int))(acc:List Bool)(v u:Nat)(c:Nat->Int)(lo:Nat)(r:AV)(h':Heap):Prop:=
 (bv c acc (u*D.length) D.length<0/\r=.tup [.agg [I 0,.nils],.bool false])\/
 (0<=bv c acc (u*D.length) D.length/\∃(q:Nat) (l:List Nat) (sl:AV),q<D.length/\gi acc (q:Int)=true/\bv c acc (u*D.length) D.length=c (u*D.length+q)/\Wk (hopA es D.length (onL es D)) (λx=>x=v*D.length) (u*D.length+q) l (bv c acc (u*D.length) D.length)/\
  l.length<=1000000/\r=.tup [.agg [I (bv c acc (u*D.length) D.length),sl],.bool true]/\Gr lo h'.length h' 1 sl ((l.map λ(e:Nat)=>(e:Int)).map encI))
theorem a8b (no:NetOk N es)(co:COk es)(hn2:N*D.length<=1000000)(hs:Sl h 4 sE (es.map encE))(ok:DOk D acc)(hD:Sl h 5 sD (D.map encR))(hA:Sl h 1 sA (acc.map encB)){v u:Nat}(hv:v<N)(hu:u<N) :
  Tot tab o5_ [.agg [I N,sE],.agg [sD,sA],I v,I u] h λr h'=>Ext h h'/\∃c,LC (N*D.length) (hopA es D.length (onL es D)) (λx=>x=v*D.length) c/\RouteQ N es D acc v u c h.length r h':=by
 refine WP.tot (b3m · ..) ?_
 have hN:N<=100000:=by have:=no.n1; omega
 obtain ⟨h1,hh1⟩:∃h1,h1=((h++[AObj.cells ⟨[I N,sE],0,0,false⟩])++[AObj.cells ⟨[sD,sA],0,0,false⟩])++[AObj.cells ⟨[I 0,.nils],0,0,false⟩]:=⟨_,rfl⟩
 have e1:Ext h h1:=by rw[hh1]; exact eX
 have hl1:h1.length=h.length+3:=by rw[hh1]; simp
 have r8:h1[h.length+1+1]?=some (.cells ⟨[I 0,.nils],0,0,false⟩):=by rw[hh1,r8_ (by simp)]; simp[I]
 simp -implicitDefEqProofs (maxSteps:=1000000) (disch:=first|assumption|omega|(simp only[gL]<;>omega)|((repeat (first|exact Ext.refl _|assumption|apply Ext.app|apply Ext.mk|(refine Ext.setr ?_ (by (first|omega|(simp only[gL]<;>omega))) _))); done)|(simp only[gL,gA,hs.one,hs.cells,hD.one,hD.cells,hA.one,hA.cells]<;>omega)|fail) only[gB,setAll,partL,fldV,reduceIte,Nat.reduceAdd,Nat.reduceMul,hs.one,hs.cells,hD.one,hD.cells,hA.one,hA.cells]
 rw[<-hh1]
 refine WP.call (a9I no (hs.ext e1) ok (hD.ext e1) (hA.ext e1)) ?_
 rintro g h2 ⟨e2,gv⟩
 obtain ⟨h3,hh3⟩:∃h3,h3=h2++[AObj.cells ⟨[I v,I 0],0,0,false⟩]:=⟨_,rfl⟩
 have e3:Ext h2 h3:=by rw[hh3]; exact Ext.push _ _
 have ha:Sl h3 2 (.sl h2.length 0 1 2 none 0) ([((v:Int),(0:Int))].map encP2):=by
  have:=(Gr.lit (h:=h2) (sz:=2) (v:=[I v,I 0]) rfl).sl
  rw[a3_] at this
  rw[hh3]; exact this
 rw[show I 0=I 0 from rfl] at hh3
 rw[<-hh3]
 have gv3:=gv.ext e3
 refine WP.call (a5L (n:=N*D.length) gv3 ok hN rfl hn2 ha (λa z=>?_) (by simp) (hopA es D.length (onL es D))) ?_
 ·obtain rfl:=List.mem_singleton.1 z
  have:=ok.l0
  exact ⟨by show (0:Int)<=v; omega,by show (v:Int)<N; omega,Int.le_refl _,by show (0:Int)<D.length; omega⟩
 rintro _ h4 ⟨e4,os,q,sc,se,sf,oc,oe,ov,cs,ds,fs,M,rfl,w4,d4,u4⟩
 have hst:atSt D.length [((v:Int),(0:Int))]=λx=>x=v*D.length:=by
  funext x; exact propext a7b
 rw[hst] at d4
 have hstn:∀x,x=v*D.length->x<N*D.length:=λx z=>by
  have:=spotN (S:=D.length) hv ok.l0
  omega
 refine WP.call (b0Z e4 (λo z=>z) gv3 ok co hN rfl hn2 (a6x gv3 ok no) hstn w4 d4 u4) ?_
 rintro _ h5 ⟨rfl,f5,id2,k2,ls2,rk2,cs2,ds2,fs2,M2,w5,d5,m5,u5⟩
 have e35:Ext h3 h5:=f5.ext e4 λo z1 z2=>oM
 have lc:=DI.lc ((a6x gv3 ok no).gok co) hstn d5 m5
 refine WP.call (b4Z (gv3.ext e35) ok hN rfl hn2 hu w5) ?_
 rintro _ h6 ⟨e6,out,rfl,b⟩
 have e06:=(((e1.trans e2).trans e3).trans e35).trans e6
 have r86:=(((e2.trans e3).trans e35).trans e6).get r8
 have b86:=(List.getElem?_eq_some_iff.1 r86).1
 obtain ⟨bn1,bn2,bn3⟩:=b.neg
 by_cases ho:out<0
 ·simp -implicitDefEqProofs (disch:=first|assumption|omega|(simp only[gL,gA]<;>omega)|fail) only[cG,reduceIte,r86]
  refine WP.ret ⟨e06.setr oM _,gf cs2,lc,.inl ⟨bn1.1 ho,rfl⟩⟩
 ·have w6:=w5.ext e6
  have ro6:=w6.row
  have lc6:=w6.lc
  rcases b with ⟨b1,_⟩|⟨qq,q1,rfl,q3,q4,q5⟩
  ·omega
  have hx:u*D.length+qq<N*D.length:=spotN hu q1
  have hun:=m1_ (N*D.length) (gf cs2)
  have gcs:=w6.gc.sl
  have hgc:gi cs2 ((u*D.length+qq:Nat):Int)=bv (gf cs2) acc (u*D.length) D.length:=q5.symm
  obtain ⟨x,hxx⟩:∃x,u*D.length+qq=x:=⟨_,rfl⟩
  rw[hxx] at hx hgc q4 q5 ho ⊢
  simp -implicitDefEqProofs (disch:=first|assumption|omega|exact Ext.refl _|(simp only[gL,gA]<;>omega)|fail) only[cG,reduceIte,ro6,gcs.idxG,gcs.ld0,encI,hgc]
  refine WP.call (b8O hn2 w6 d5 oM hx q4) ?_
  rintro sl h7 ⟨e7,l,hw,hl,g7⟩
  have w7:=w6.ext e7
  have ro7:=w7.row
  have gcs7:=w7.gc.sl
  have r87:=e7.get r86
  have b87:=(List.getElem?_eq_some_iff.1 r87).1
  simp -implicitDefEqProofs (maxSteps:=1000000) (disch:=first|assumption|omega|(simp only[gL]<;>omega)|((repeat (first|exact Ext.refl _|assumption|apply Ext.app|apply Ext.mk|(refine Ext.setr ?_ (by (first|omega|(simp only[gL]<;>omega))) _))); done)|(simp only[gL,gA,ro7,gcs7.ld0,encI,hgc,g7.sl.one,g7.sl.cells,r87]<;>omega)|fail) only[gB,setAll,partL,fldV,reduceIte,Nat.reduceAdd,Nat.reduceMul,ro7,gcs7.ld0,encI,hgc,g7.sl.one,g7.sl.cells,r87]
  refine WP.ret ⟨(e06.trans e7).setr (by omega) _,gf cs2,lc,.inr ⟨by rw[q5]; exact q4,qq,l,sl,q1,q3,?_,?_,hl,rfl,?_⟩⟩
  ·rw[hxx]; exact q5
  ·rw[hxx,q5]; exact hw
  ·have h67:=e06.len
   exact (g7.set oM _).mono h67 (by simp)
end
end Go.Gm.AZ
namespace Go.Gm.AZ
open Go Go.Gm
def rowL (c:Nat->Int)(S v:Nat):List Int:=(List.range S).map λs=>c (v*S+s)
theorem i5_ (c:Nat->Int)(S v:Nat):(rowL c S v).length=S:=by simp[rowL]
theorem b2w {S v s:Nat}(hs:s<S):gi (rowL c S v) (s:Int)=c (v*S+s):=by
 rw[b2_ (by simpa [rowL] using hs)]
 simp[rowL]
theorem b3g {S v s v' s':Nat}(h:s<S)(h':s'<S)(e:v*S+s=v'*S+s'):v=v'/\s=s':=by
 have h1:(v*S+s) / S=v:=by rw[Nat.mul_comm,Nat.mul_add_div oM,Nat.div_eq_of_lt h,Nat.add_zero]
 have h2:(v'*S+s') / S=v':=by rw[Nat.mul_comm,Nat.mul_add_div oM,Nat.div_eq_of_lt h',Nat.add_zero]
 have:v=v':=by rw[<-h1,<-h2,e]
 subst this
 exact ⟨rfl,oM⟩
theorem c3d {S V t:Nat}(ht:t<S)(x:Int)(v:Nat):rowL (up c (V*S+t) x) S v=if v=V then (rowL c S V).set t x else rowL c S v:=by
 apply List.ext_getElem
 ·split<;>simp[rowL]
 intro s h1 h2
 have hs:s<S:=by simpa [rowL] using h1
 by_cases q:v=V
 ·subst q
  simp only[if_true,rowL,List.getElem_map,List.getElem_range,List.getElem_set,up]
  by_cases q2:t=s
  ·subst q2; simp
  ·rw[if_neg q2,if_neg (λz=>q2 oM)]
 ·simp only[if_neg q,rowL,List.getElem_map,List.getElem_range,up]
  rw[if_neg λz=>q (b3g hs ht z).1]
theorem Fam.write0 {κ:Type}[DecidableEq κ]{W:Nat->Prop}{h:Heap}{A:κ->Prop}{S:κ->AV}{X:κ->List (List AV)}(f:Fam W h 1 A S X){t:κ}(ht:A t){i:Nat}(hi:i<(X t).length){v:AV}(hv:v.cells.length=1)(h1:v.cells.all AV.one=true) :
  ∃h',stN 1 h (elP 1 (S t) i) v=some h'/\Fam W h' 1 A S (λt'=>if t'=t then (X t).set i v.cells else X t')/\FrS W h h':=by
 obtain ⟨ob,f1,f2⟩:=f
 obtain ⟨g,g2⟩:=f1 t ht
 have hn:S t≠.nils:=g.nnil (by intro q; rw[q] at hi; simp at hi)
 obtain ⟨w1,w2⟩:=g2 hn
 obtain ⟨h',k1,k2,k3,k4⟩:=g.write0 (i:=(i:Int)) oM oM hv h1
 have fr:FrS (λo=>o=ob t) h h':=k3.s.mono λo z1 z2=>oM
 refine ⟨h',k1,⟨ob,λt' ht'=>?_,f2⟩,fr.mono λo _ z=>z▸w1⟩
 show Gr (ob t') (ob t'+1) h' 1 (S t') (if t'=t then (X t).set i v.cells else X t')/\_
 by_cases q:t'=t
 ·subst q
  rw[if_pos rfl]
  refine ⟨k2.cong (by rw[Int.toNat_natCast]),λz=>⟨w1,oM⟩⟩
 ·rw[if_neg q]
  obtain ⟨g',g2'⟩:=f1 t' ht'
  by_cases z:S t'=.nils
  ·refine ⟨?_,λq=>absurd z q⟩
   have hx:X t'=[]:=by rw[z] at g'; exact g'.isNil
   rw[hx,z]; exact Gr.nil ..
  ·refine ⟨g'.frs fr λo q1 q2 q3=>f2 t' t ht' ht q z hn oM,λq=>⟨(g2' q).1,by have:=(g2' q).2; omega⟩⟩
structure MatW (W:Nat->Prop) (oc:Nat) (c7:AV) (N S:Nat) (rows:List AV) (c:Nat->Int) (h:Heap):Prop where
 gc:Sl h 1 c7 (rows.map λs=>[s])
 oc:∀h',FrS W h h'->Sl h' 1 c7 (rows.map λs=>[s])
 lr:rows.length=N
 f:Fam W h 1 (λv:Nat=>v<N) (λv:Nat=>gi rows (v:Int)) (λv=>(rowL c S v).map encI)
theorem MatW.row {W:Nat->Prop}{oc:Nat}{c7:AV}{N S:Nat}{rows:List AV}{c:Nat->Int}{h:Heap}(w:MatW W oc c7 N S rows c h){v:Nat}(hv:v<N):Sl h 1 (gi rows (v:Int)) ((rowL c S v).map encI):=w.f.sl hv
theorem MatW.set {W:Nat->Prop}{oc:Nat}{c7:AV}{N S:Nat}{rows:List AV}{c:Nat->Int}{h:Heap}(w:MatW W oc c7 N S rows c h){v s:Nat}(hv:v<N)(hs:s<S)(x:Int) :
  ∃h',stN 1 h (elP 1 (gi rows (v:Int)) s) (I x)=some h'/\MatW W oc c7 N S rows (up c (v*S+s) x) h'/\FrS W h h':=by
 obtain ⟨h',k1,k2,k3⟩:=Fam.write0 w.f (t:=v) hv (i:=s) (by rw[List.length_map,i5_]; exact hs) (v:=I x) rfl rfl
 refine ⟨h',k1,⟨w.oc h' k3,λh2 f2=>w.oc h2 (k3.trans f2),w.lr,k2.congr λt ht=>⟨rfl,?_⟩⟩,k3⟩
 show (rowL (up c (v*S+s) x) S t).map encI=if t=v then _ else _
 rw[c3d hs]
 by_cases q:t=v
 ·rw[if_pos q,if_pos q,List.map_set]; rfl
 ·rw[if_neg q,if_neg q]
theorem MatW.ext {W:Nat->Prop}{oc:Nat}{c7:AV}{N S:Nat}{rows:List AV}{c:Nat->Int}{h h':Heap}(w:MatW W oc c7 N S rows c h)(e:Ext h h'):MatW W oc c7 N S rows c h':=
 ⟨w.oc h' (FrS.ofExt e),λh2 f2=>w.oc h2 ((FrS.ofExt e).trans f2),w.lr,w.f.frs (D:=λ_=>False) (FrS.ofExt e) λ_ _ _ z=>z⟩
section
variable {h0:Heap} {N:Nat} {es:List E} {D:List (List Int)} {acc:List Bool}
abbrev eg (es:List E)(i:Nat):E:=gi es (i:Int)
def src (es:List E)(S i s:Nat):Nat:=(eg es i).fr.toNat*S+s
def dst (es:List E)(D:List (List Int))(i s:Nat):Nat:=(eg es i).to.toNat*D.length+(nx D s (eg es i).md).toNat
def Rx (es:List E)(D:List (List Int))(c:Nat->Int)(i s:Nat):Prop:=0<=c (src es D.length i s)->0<=c (dst es D i s)/\c (dst es D i s)<=c (src es D.length i s)+(eg es i).co
def SatUp (es:List E)(D:List (List Int))(c:Nat->Int)(i s:Nat):Prop:=(∀i' s',i'<i->s'<D.length->Rx es D c i' s')/\∀s',s'<s->Rx es D c i s'
structure PI (es:List E) (D:List (List Int)) (N:Nat) (st:Nat->Prop) (b:Bool) (c0 c:Nat->Int) (i s:Nat):Prop where
 r:RI (N*D.length) 2147483647 (hopA es D.length (onL es D)) st c
 p:(b=false/\c=c0/\SatUp es D c i s)\/(b=true/\mu (N*D.length) 2147483647 c<mu (N*D.length) 2147483647 c0)
theorem b4A (ok:DOk D acc)(no:NetOk N es){i s:Nat}(hi:i<es.length)(hs:s<D.length):(dst es D i s,i,(eg es i).co)∈hopA es D.length (onL es D) (src es D.length i s):=by
 have he:0<=(eg es i).fr/\(eg es i).fr<N/\0<=(eg es i).to/\(eg es i).to<N/\0<=(eg es i).md/\(eg es i).md<5:=no.edge _ (b7_ (xs:=es) (i:=(i:Int)) oM oM)
 have ht:0<=nx D s (eg es i).md/\nx D s (eg es i).md<D.length:=ok.to s (eg es i).md oM oM he.2.2.2.2.1 he.2.2.2.2.2
 have hsp:=b3g (S:=D.length) (v:=(eg es i).fr.toNat) (s:=s) (v':=src es D.length i s / D.length) (s':=src es D.length i s % D.length) hs (Nat.mod_lt _ oM) (by
  rw[Nat.mul_comm (src es D.length i s / D.length),Nat.div_add_mod]; rfl)
 refine List.mem_map.2 ⟨((eg es i).to,nx D s (eg es i).md,(i:Int)),List.mem_map.2 ⟨(i:Int),?_,?_⟩,?_⟩
 ·refine q8_.2 ⟨oM,oM,?_⟩
  rw[<-hsp.1]
  try simp only[beq_iff_eq]
  show (eg es i).fr=_
  omega
 ·rw[<-hsp.2]
 ·simp only[hopOf,dst]
  congr 1
  have h1:(eg es i).to=((eg es i).to.toNat:Int):=oM
  have h2:nx D s (eg es i).md=((nx D s (eg es i).md).toNat:Int):=oM
  generalize (eg es i).to.toNat=a at h1
  generalize (nx D s (eg es i).md).toNat=b at h2
  rw[h1,h2,<-Int.natCast_mul,<-Int.natCast_add,Int.toNat_natCast]
theorem b4B (ok:DOk D acc)(no:NetOk N es){x y e:Nat}{w:Int}(hx:x<N*D.length)(h:(y,e,w)∈hopA es D.length (onL es D) x):∃i s,i<es.length/\s<D.length/\x=src es D.length i s/\y=dst es D i s/\w=(eg es i).co:=by
 obtain ⟨q1,q2⟩:=dm hx
 obtain ⟨t,ht,h1⟩:=List.mem_map.1 h
 obtain ⟨k,hk,rfl⟩:=List.mem_map.1 ht
 obtain ⟨k0,k1,k2⟩:=q8_.1 hk
 obtain ⟨i,rfl⟩:∃i:Nat,k=i:=⟨k.toNat,oM⟩
 simp only[beq_iff_eq] at k2
 have he:0<=(eg es i).fr/\(eg es i).fr<N/\0<=(eg es i).to/\(eg es i).to<N/\0<=(eg es i).md/\(eg es i).md<5:=no.edge _ (b7_ (xs:=es) (i:=(i:Int)) oM oM)
 have htt:0<=nx D ((x % D.length:Nat):Int) (eg es i).md/\nx D ((x % D.length:Nat):Int) (eg es i).md<D.length:=ok.to _ (eg es i).md (Int.natCast_nonneg _) (Int.ofNat_lt.2 q2) he.2.2.2.2.1 he.2.2.2.2.2
 refine ⟨i,x % D.length,oM,q2,?_,?_⟩
 ·have:(eg es i).fr.toNat=x / D.length:=by
   show (gi es (i:Int)).fr.toNat=_
   rw[k2,Int.toNat_natCast]
  rw[src,this,Nat.mul_comm,Nat.div_add_mod]
 ·simp only[hopOf] at h1
  cases h1
  refine ⟨?_,rfl⟩
  rw[dst]
  have h1:(eg es i).to=((eg es i).to.toNat:Int):=oM
  have h2:nx D ((x % D.length:Nat):Int) (eg es i).md=((nx D ((x % D.length:Nat):Int) (eg es i).md).toNat:Int):=oM
  generalize (eg es i).to.toNat=a at h1
  generalize (nx D ((x % D.length:Nat):Int) (eg es i).md).toNat=b at h2
  show ((eg es i).to*(D.length:Int)+nx D ((x % D.length:Nat):Int) (eg es i).md).toNat=_
  rw[h1,h2,<-Int.natCast_mul,<-Int.natCast_add,Int.toNat_natCast]
theorem PI.done {st:Nat->Prop}{b:Bool}(ok:DOk D acc)(no:NetOk N es)(co:COk es)(hg:GOk (N*D.length) 2147483647 (hopA es D.length (onL es D)))(hst:∀x,st x->x<N*D.length)(p:PI es D N st false c0 c es.length 0):LC (N*D.length) (hopA es D.length (onL es D)) st c:=by
 obtain ⟨_,_,hs,_⟩:=p.p.resolve_right (by simp)
 refine p.r.lst hg hst λx hx h0 y e w hm=>?_
 obtain ⟨i,s,i1,s1,rfl,rfl,rfl⟩:=b4B ok no hx hm
 exact hs i s i1 s1 h0
theorem PI.keep (p:PI es D N st b c0 c i s)(h:Rx es D c i s):PI es D N st b c0 c i (s+1):=by
 refine ⟨p.r,p.p.imp (λ⟨z1,z2,z3,z4⟩=>⟨z1,z2,z3,λs' hs'=>?_⟩) λz=>z⟩
 by_cases q:s'=s
 ·subst q; exact h
 ·exact z4 s' oM
theorem PI.next (p:PI es D N st b c0 c i D.length):PI es D N st b c0 c (i+1) 0:=by
 refine ⟨p.r,p.p.imp (λ⟨z1,z2,z3,z4⟩=>⟨z1,z2,λi' s' hi hs=>?_,λs' hs=>oM⟩) λz=>z⟩
 by_cases q:i'=i
 ·subst q; exact z4 s' hs
 ·exact z3 i' s' oM hs
theorem PI.relax {st:Nat->Prop}{i s:Nat}(ok:DOk D acc)(no:NetOk N es)(hg:GOk (N*D.length) 2147483647 (hopA es D.length (onL es D)))(hst:∀x,st x->x<N*D.length)(hi:i<es.length)(hs:s<D.length)(hx:src es D.length i s<N*D.length)(p:PI es D N st b c0 c i s)(h0:0<=c (src es D.length i s))(hr:c (dst es D i s)<0\/c (src es D.length i s)+(eg es i).co<c (dst es D i s)):PI es D N st true c0 (up c (dst es D i s) (c (src es D.length i s)+(eg es i).co)) i (s+1):=by
 obtain ⟨r1,r2⟩:=p.r.relax hg hst hx (b4A ok no hi hs) h0 hr
 refine ⟨r1,.inr ⟨rfl,?_⟩⟩
 rcases p.p with ⟨_,rfl,_⟩|⟨_,z⟩
 ·exact r2
 ·omega
end
end Go.Gm.AZ
namespace Go.Gm.AZ
open Go Go.Gm
section
variable {N:Nat} {es:List E} {D:List (List Int)} {acc:List Bool}
theorem c1y {W:Nat->Prop}{hb:Heap}{o3 o4 oe hcl i:Nat}{sE sD sA c7:AV}{st:Nat->Prop}(ok:DOk D acc)(no:NetOk N es)(co:COk es)(hn2:N*D.length<=1000000)(hg:GOk (N*D.length) 2147483647 (hopA es D.length (onL es D)))(hst:∀x,st x->x<N*D.length)(hW:∀o,W o->hb.length<=o/\o<hcl)(hD:Sl hb 5 sD (D.map encR))(r4:hb[o4]?=some (.cells ⟨[sD,sA],0,0,false⟩))(hi:i<es.length)(hoe:hcl<=oe)(hbe:hb.length<=hcl)(hQ:∀h b c,Ext hb h->hcl<=h.length->MatW W 0 c7 N D.length rows c h->PI es D N st b c0 c i D.length->WP (λp:(Nat × Nat) × Nat=>a1H p.1.1 p.1.2 p.2 (.ptr o3 0 2 0) (.ptr o4 0 2 0) c7 (.bool b) (I i) h) Q) :
  ∀(d s:Nat) (h:Heap) (b:Bool) (c:Nat->Int),s+d=D.length->Ext hb h->hcl<=h.length->MatW W 0 c7 N D.length rows c h->h[oe]?=some (.cells ⟨encE (eg es i),0,0,false⟩)->PI es D N st b c0 c i s->
   WP (λp:((Nat × Nat) × Nat) × Nat=>p3_ p.1.1.1 p.1.1.2 p.1.2 p.2 (.ptr o3 0 2 0) (.ptr o4 0 2 0) c7 (.bool b) (I i) (.ptr oe 0 4 0) (I s) h) Q:=by
 intro d
 induction d with
 |zero=>
  intro s h b c h1 e hl w re p
  refine WP.rnd (λi' j=>a3z i'.1.1 i'.1.2 i'.2 j ..) ?_
  obtain rfl:s=D.length:=oM
  have r4':=e.get r4
  refine g2 @r4' hD.lenG ?_
  exact WP.lv (hQ h b c e hl w p) λi j=>rfl
 |succ d ih=>
  intro s h b c h1 e hl w re p
  refine WP.rnd (λi' j=>a3z i'.1.1 i'.1.2 i'.2 j ..) ?_
  have hs:s<D.length:=oM
  have r4':=e.get r4
  have he:0<=(eg es i).fr/\(eg es i).fr<N/\0<=(eg es i).to/\(eg es i).to<N/\0<=(eg es i).md/\(eg es i).md<5:=no.edge _ (b7_ (xs:=es) (i:=(i:Int)) oM oM)
  have ht:0<=nx D s (eg es i).md/\nx D s (eg es i).md<D.length:=ok.to s (eg es i).md oM oM he.2.2.2.2.1 he.2.2.2.2.2
  have hco:0<=(eg es i).co/\(eg es i).co<=2147483647:=co.c _ (b7_ (xs:=es) (i:=(i:Int)) oM oM)
  obtain ⟨pp,p1,p2,-⟩:=cellA (H:=h) hD e (i:=(s:Int)) (j:=(eg es i).md) oM oM he.2.2.2.2.1 he.2.2.2.2.2
  rw[show (encR (gi D s)).getD (eg es i).md.toNat .undef=I (nx D s (eg es i).md) by
   have hr:=ok.row s oM oM
   simp only[encR,nx,List.getD_eq_getElem?_getD,List.getElem?_map]
   have:=c1_ (xs:=gi D s) he.2.2.2.2.1 oM
   rw[this]; rfl] at p2
  have hx1:src es D.length i s=(eg es i).fr.toNat*D.length+s:=rfl
  have hx2:dst es D i s=(eg es i).to.toNat*D.length+(nx D s (eg es i).md).toNat:=rfl
  have hsn:src es D.length i s<N*D.length:=by rw[hx1]; exact spotN oM hs
  have hdn:dst es D i s<N*D.length:=by rw[hx2]; exact spotN oM oM
  have hW0:(0:Int)<=2147483647:=oM
  have bs:=p.r.le hW0 hsn
  have bd:=p.r.le hW0 hdn
  have hnn:((N*D.length:Nat):Int)*2147483647<=1000000*2147483647:=oM
  have kp:=p.keep
  have rl:=p.relax ok no hg hst hi hs hsn
  simp only[Rx] at kp
  rw[hx1,hx2] at kp rl
  rw[hx1] at bs
  rw[hx2] at bd
  obtain ⟨f,hf⟩:∃f:Nat,(eg es i).fr=f:=⟨(eg es i).fr.toNat,oM⟩
  obtain ⟨t,hto⟩:∃t:Nat,(eg es i).to=t:=⟨(eg es i).to.toNat,oM⟩
  obtain ⟨u,hu⟩:∃u:Nat,nx D s (eg es i).md=u:=⟨(nx D s (eg es i).md).toNat,oM⟩
  obtain ⟨m,hm⟩:∃m:Int,(eg es i).md=m:=⟨_,rfl⟩
  obtain ⟨y,hy⟩:∃y:Int,(eg es i).co=y:=⟨_,rfl⟩
  have ncf:((f:Nat):Int).toNat=f:=Int.toNat_natCast f
  have nct:((t:Nat):Int).toNat=t:=Int.toNat_natCast t
  have ncu:((u:Nat):Int).toNat=u:=Int.toNat_natCast u
  rw[hu] at p2
  rw[hm] at p1
  simp only[hf,hto,hu,hy,ncf,nct,ncu] at kp rl bs bd hco
  simp only[encE,hf,hto,hm,hy] at re
  have hfN:f<N:=oM
  have htN:t<N:=oM
  have huS:u<D.length:=oM
  have lr:=w.lr
  have rf:=w.row hfN
  have rt:=w.row htN
  have gf1:=b2w (c:=c) (v:=f) hs
  have gt1:=b2w (c:=c) (v:=t) huS
  obtain ⟨x1,hx1'⟩:∃x1,c (f*D.length+s)=x1:=⟨_,rfl⟩
  obtain ⟨x2,hx2'⟩:∃x2,c (t*D.length+u)=x2:=⟨_,rfl⟩
  simp only[hx1',hx2'] at kp rl bs bd gf1 gt1
  by_cases c1:0<=x1
  ·by_cases c2:x2<0
   ·obtain ⟨h',s1,w1,f1⟩:=w.set htN huS (x1+y)
    refine g18 @r4' hD.lenG hD.idxG @re @p1 @p2 w.gc.idxG w.gc.ld0 @lr rf.idxG rf.ld0 rt.idxG rt.ld0 @i5_ @encI.eq_1 @gf1 @gt1 @s1 ?_
    have e1:Ext hb h':=f1.ext e λo z1 z2=>by have:=hW o z2; omega
    have hl1:=f1.len
    refine ih (s+1) h' true _ oM e1 oM w1 ?_ (rl c1 (.inl c2))
    rw[f1.get (λz=>by have:=hW _ z; omega) (List.getElem?_eq_some_iff.1 re).1,re]
    simp only[encE,hf,hto,hm,hy]
   ·by_cases c3:x1+y<x2
    ·obtain ⟨h',s1,w1,f1⟩:=w.set htN huS (x1+y)
     refine g18 @r4' hD.lenG hD.idxG @re @p1 @p2 w.gc.idxG w.gc.ld0 @lr rf.idxG rf.ld0 rt.idxG rt.ld0 @i5_ @encI.eq_1 @gf1 @gt1 @s1 ?_
     have e1:Ext hb h':=f1.ext e λo z1 z2=>by have:=hW o z2; omega
     have hl1:=f1.len
     refine ih (s+1) h' true _ oM e1 oM w1 ?_ (rl c1 (.inr c3))
     rw[f1.get (λz=>by have:=hW _ z; omega) (List.getElem?_eq_some_iff.1 re).1,re]
     simp only[encE,hf,hto,hm,hy]
    ·refine g17 @r4' hD.lenG hD.idxG @re @p1 @p2 w.gc.idxG w.gc.ld0 @lr rf.idxG rf.ld0 rt.idxG rt.ld0 @i5_ @encI.eq_1 @gf1 @gt1 ?_
     refine ih (s+1) h b c oM e hl w ?_ (kp λ_=>⟨oM,oM⟩)
     simp only[encE,hf,hto,hm,hy]; exact re
  ·refine g17 @r4' hD.lenG hD.idxG @re @p1 @p2 w.gc.idxG w.gc.ld0 @lr rf.idxG rf.ld0 rt.idxG rt.ld0 @i5_ @encI.eq_1 @gf1 @gt1 ?_
   refine ih (s+1) h b c oM e hl w ?_ (kp λz=>absurd z c1)
   simp only[encE,hf,hto,hm,hy]; exact re
end
end Go.Gm.AZ
namespace Go.Gm.AZ
open Go Go.Gm
section
variable {N:Nat} {es:List E} {D:List (List Int)} {acc:List Bool}
theorem b5Y {W:Nat->Prop}{hb:Heap}{o3 o4 hcl:Nat}{sE sD sA c7:AV}{st:Nat->Prop}(ok:DOk D acc)(no:NetOk N es)(co:COk es)(hn2:N*D.length<=1000000)(hg:GOk (N*D.length) 2147483647 (hopA es D.length (onL es D)))(hst:∀x,st x->x<N*D.length)(hW:∀o,W o->hb.length<=o/\o<hcl)(hE:Sl hb 4 sE (es.map encE))(hD:Sl hb 5 sD (D.map encR))(r3:hb[o3]?=some (.cells ⟨[I N,sE],0,0,false⟩))(r4:hb[o4]?=some (.cells ⟨[sD,sA],0,0,false⟩))(hbe:hb.length<=hcl)(hQ:∀h b c,Ext hb h->hcl<=h.length->MatW W 0 c7 N D.length rows c h->PI es D N st b c0 c es.length 0->WP (λp:Nat × Nat=>p2_ p.1 p.2 (.ptr o3 0 2 0) (.ptr o4 0 2 0) c7 (.bool b) h) Q) :
  ∀(d i:Nat) (h:Heap) (b:Bool) (c:Nat->Int),i+d=es.length->Ext hb h->hcl<=h.length->MatW W 0 c7 N D.length rows c h->PI es D N st b c0 c i 0->
   WP (λp:(Nat × Nat) × Nat=>y0_ p.1.1 p.1.2 p.2 (.ptr o3 0 2 0) (.ptr o4 0 2 0) c7 (.bool b) (I i) h) Q:=by
 have hle:=no.len
 intro d
 induction d with
 |zero=>
  intro i h b c h1 e hl w p
  refine WP.rnd (λi' j=>a3A i'.1 i'.2 j ..) ?_
  obtain rfl:i=es.length:=oM
  have r3':=e.get r3
  refine g2 @r3' hE.lenG ?_
  exact WP.lv (hQ h b c e hl w p) λi j=>rfl
 |succ d ih=>
  intro i h b c h1 e hl w p
  refine WP.rnd (λi' j=>a3A i'.1 i'.2 j ..) ?_
  have r3':=e.get r3
  obtain ⟨ed,hed⟩:∃ed,gi es (i:Int)=ed:=⟨_,rfl⟩
  refine g6 @r3' hE.lenG hE.idxG hE.ldN @hed @encE.eq_1 ?_
  obtain ⟨h2,hh2⟩:∃h2,h2=((h++[AObj.cells ⟨[I 0,I 0,I 0,I 0],0,0,false⟩]).set h.length (.cells ⟨[I ed.fr,I ed.to,I ed.md,I ed.co],0,0,false⟩)):=⟨_,rfl⟩
  have e2:Ext h h2:=by rw[hh2]; exact eX
  have r2:h2[h.length]?=some (.cells ⟨[I ed.fr,I ed.to,I ed.md,I ed.co],0,0,false⟩):=by rw[hh2]; exact a0_ (by simp)
  rw[<-hh2]
  have hl2:=e2.len
  refine WP.ent (c1y (sE:=sE) (c0:=c0) (N:=N) (acc:=acc) (st:=st) (rows:=rows) ok no co hn2 hg hst hW hD r4 (i:=i) oM (oe:=h.length) hl hbe (λh3 b3 c3 e3 hl3 w3 p3=>?_) D.length 0 h2 b c oM (e.trans e2) oM (w.ext e2) ?_ p) λi=>rfl
  ·refine WP.congr (λp=>a8g p.1.1 p.1.2 p.2 ..) ?_
   refine g0 ?_
   exact ih (i+1) h3 b3 c3 oM e3 hl3 w3 p3.next
  ·show h2[h.length]?=some (.cells ⟨encE (gi es (i:Int)),0,0,false⟩)
   rw[hed]; exact r2
theorem c1z {W:Nat->Prop}{hb:Heap}{o3 o4 hcl:Nat}{sE sD sA c7:AV}{st:Nat->Prop}{Q:AV->Heap->Prop}(ok:DOk D acc)(no:NetOk N es)(co:COk es)(hn2:N*D.length<=1000000)(hg:GOk (N*D.length) 2147483647 (hopA es D.length (onL es D)))(hst:∀x,st x->x<N*D.length)(hW:∀o,W o->hb.length<=o/\o<hcl)(hE:Sl hb 4 sE (es.map encE))(hD:Sl hb 5 sD (D.map encR))(r3:hb[o3]?=some (.cells ⟨[I N,sE],0,0,false⟩))(r4:hb[o4]?=some (.cells ⟨[sD,sA],0,0,false⟩))(hbe:hb.length<=hcl)(hQ:∀h c,Ext hb h->MatW W 0 c7 N D.length rows c h->LC (N*D.length) (hopA es D.length (onL es D)) st c->Q c7 h) :
  ∀(d:Nat) (h:Heap) (c:Nat->Int),mu (N*D.length) 2147483647 c<=d->Ext hb h->hcl<=h.length->MatW W 0 c7 N D.length rows c h->RI (N*D.length) 2147483647 (hopA es D.length (onL es D)) st c->
   WP (λp:Nat × Nat=>p2_ p.1 p.2 (.ptr o3 0 2 0) (.ptr o4 0 2 0) c7 (.bool true) h) Q:=by
 intro d
 induction d with
 |zero=>
  intro h c hm e hl w r
  refine WP.rnd (r9_ · · ..) ?_
  refine g0 ?_
  refine WP.ent (b5Y (c0:=c) (st:=st) (N:=N) (acc:=acc) (rows:=rows) ok no co hn2 hg hst hW hE hD r3 r4 hbe (λh3 b3 c3 e3 hl3 w3 p3=>?_) es.length 0 h false c oM e hl w ⟨r,.inl ⟨rfl,rfl,λi' s' hi _=>oM,λs' hs=>oM⟩⟩) λi=>rfl
  cases b3 with
  |false=>
   refine WP.rnd (r9_ · · ..) ?_
   refine g0 ?_
   exact WP.ret (hQ h3 c3 e3 w3 (p3.done (b:=false) ok no co hg hst))
  |true=>
   have:=b5t (n:=N*D.length) (W:=2147483647) oM c3
   rcases p3.p with ⟨z,_⟩|⟨_,z⟩
   ·cases z
   ·omega
 |succ d ih=>
  intro h c hm e hl w r
  refine WP.rnd (r9_ · · ..) ?_
  refine g0 ?_
  refine WP.ent (b5Y (c0:=c) (st:=st) (N:=N) (acc:=acc) (rows:=rows) ok no co hn2 hg hst hW hE hD r3 r4 hbe (λh3 b3 c3 e3 hl3 w3 p3=>?_) es.length 0 h false c oM e hl w ⟨r,.inl ⟨rfl,rfl,λi' s' hi _=>oM,λs' hs=>oM⟩⟩) λi=>rfl
  cases b3 with
  |false=>
   refine WP.rnd (r9_ · · ..) ?_
   refine g0 ?_
   exact WP.ret (hQ h3 c3 e3 w3 (p3.done (b:=false) ok no co hg hst))
  |true=>
   rcases p3.p with ⟨z,_⟩|⟨_,z⟩
   ·cases z
   ·exact ih h3 c3 oM e3 hl3 w3 p3.r
end
end Go.Gm.AZ
namespace Go.Gm.AZ
open Go Go.Gm
def BW (oc:Nat)(c7:AV)(N:Nat)(k:Nat->Nat)(h:Heap):Prop:=
 ∃rows:List AV,Gr oc (oc+1) h 1 c7 (rows.map λs=>[s])/\rows.length=N/\Fam (λo=>oc<o) h 1 (λv:Nat=>v<N) (λv:Nat=>gi rows (v:Int)) (λv=>(List.replicate (k v) (-1:Int)).map encI)
theorem BW.ext (b:BW oc c7 N k h)(e:Ext h h'):BW oc c7 N k h':=by
 obtain ⟨rows,g,l,f⟩:=b
 exact ⟨rows,g.ext e,l,f.frs (D:=λ_=>False) (FrS.ofExt e) λ_ _ _ z=>z⟩
theorem BW.congr {k k':Nat->Nat}(b:BW oc c7 N k h)(e:∀v,v<N->k' v=k v):BW oc c7 N k' h:=by
 obtain ⟨rows,g,l,f⟩:=b
 exact ⟨rows,g,l,f.congr λv hv=>⟨rfl,by rw[e v hv]⟩⟩
theorem BW.step (b:BW oc c7 N k h){v:Nat}(hv:v<N)(hk:k v<=100000)(hoc:oc<h.length) :
  ∃s1 s2 h2 h3,idxS 1 c7 (I v)=some (elP 1 c7 v)/\ld1 h (elP 1 c7 v)=some s1/\apnd 1 8 s1 (.sl h.length 0 1 1 none 0) (h++[AObj.cells ⟨[I (-1)],0,0,false⟩])=some (s2,h2)/\stN 1 h2 (elP 1 c7 v) s2=some h3/\
   BW oc c7 N (λt=>if t=v then k t+1 else k t) h3/\FrS (λo=>oc<=o) h h3:=by
 obtain ⟨rows,g,lr,f⟩:=b
 have b1:Sl (h++[AObj.cells ⟨[I (-1)],0,0,false⟩]) 1 (.sl h.length 0 1 1 none 0) [[I (-1)]]:=by
  have:=(Gr.lit (h:=h) (sz:=1) (v:=[I (-1)]) rfl).sl
  rwa [a3_] at this
 have e1:Ext h (h++[AObj.cells ⟨[I (-1)],0,0,false⟩]):=Ext.push _ _
 have f':=f.frs (D:=λ_=>False) (FrS.ofExt e1) λ_ _ _ z=>z
 obtain ⟨s2,h2,k1,k2,k3,k4⟩:=f'.append (bytes:=8) (t:=v) hv b1 (by simp) oM oM (by simp; omega)
 have g2:=(g.ext e1).frs k4 λo z1 z2=>oM
 have c2:s2.cells=[s2]:=by
  have:=(k3.sl (t:=v) hv).cells
  simpa using this
 obtain ⟨h3,n1,n2,n3,n4⟩:=g2.write0 (i:=(v:Int)) oM (by rw[List.length_map]; omega) (v:=s2) (by rw[c2]; rfl) (by rw[c2]; simp[k2])
 have hlq:=k4.len
 have gs:=g.sl
 refine ⟨gi rows (v:Int),s2,h2,h3,gs.idxG oM oM,?_,k1,n1,?_,?_⟩
 ·have:=gs.ld0 (Ext.refl _) (i:=(v:Int)) oM oM oM
  exact this
 ·refine ⟨rows.set v s2,n2.cong ?_,by rw[List.length_set]; exact lr,?_⟩
  ·rw[c2,List.map_set,Int.toNat_natCast]
  ·have f3:=k3.frs n3.s (λo z1 z2 z3=>by rcases z2 with z2|z2<;>simp only[List.length_append] at *<;>omega)
   refine (f3.mono λo z1 z2=>?_).congr λt ht=>⟨?_,?_⟩
   ·rcases z2 with z2|z2
    ·exact z2
    ·simp only[List.length_append] at z2; omega
   ·show gi (rows.set v s2) (t:Int)=if t=v then s2 else gi rows (t:Int)
    rw[giset2 oM]
   ·show (List.replicate (if t=v then k t+1 else k t) (-1:Int)).map encI=if t=v then (List.replicate (k v) (-1:Int)).map encI++[[I (-1)]] else (List.replicate (k t) (-1:Int)).map encI
    by_cases qt:t=v
    ·subst qt
     rw[if_pos rfl,if_pos rfl,List.replicate_succ',List.map_append]; rfl
    ·rw[if_neg qt,if_neg qt]
 ·have z1:FrS (λo=>oc<=o) h (h++[AObj.cells ⟨[I (-1)],0,0,false⟩]):=FrS.ofExt e1
  exact (z1.trans (k4.mono λo _ z=>Nat.le_of_lt z)).trans (n3.s.mono λo _ z=>z.1)
section
variable {N:Nat} {es:List E} {D:List (List Int)} {acc:List Bool}
def kk (S V s t:Nat):Nat:=if t<V then S else if t=V then s else 0
theorem c4R {hb:Heap}{o3 o4 oc V:Nat}{sD sA c7 vf:AV}(ok:DOk D acc)(hoc:hb.length<=oc)(hD:Sl hb 5 sD (D.map encR))(r4:hb[o4]?=some (.cells ⟨[sD,sA],0,0,false⟩))(hV:V<N)(hN:V<=1000000)(hQ:∀h,Ext hb h->oc<h.length->BW oc c7 N (kk D.length (V+1) 0) h->WP (λp:Nat × Nat=>p1_ p.1 p.2 vf (.ptr o3 0 2 0) (.ptr o4 0 2 0) c7 (I (V+1)) h) Q) :
  ∀(d s:Nat) (h:Heap),s+d=D.length->Ext hb h->oc<h.length->BW oc c7 N (kk D.length V s) h->
   WP (λp:(Nat × Nat) × Nat=>x9_ p.1.1 p.1.2 p.2 vf (.ptr o3 0 2 0) (.ptr o4 0 2 0) c7 (I V) (I s) h) Q:=by
 have l1:=ok.l1
 intro d
 induction d with
 |zero=>
  intro s h h1 e ho b
  refine WP.rnd (λi j=>a3y i.1 i.2 j ..) ?_
  obtain rfl:s=D.length:=oM
  have r4':=e.get r4
  refine g2 @r4' hD.lenG ?_
  have hb3:WP (λp:Nat × Nat=>a1F p.1 p.2 vf (.ptr o3 0 2 0) (.ptr o4 0 2 0) c7 (I V) h) Q:=by
   refine WP.congr (λp=>a8f p.1 p.2 ..) ?_
   have:V<=1000000:=hN
   refine g0 ?_
   refine hQ h e ho (b.congr λt ht=>?_)
   try simp only[kk]
   by_cases q:t<V
   ·rw[if_pos q,if_pos oM]
   ·by_cases q2:t=V
    ·rw[if_neg q,if_pos oM,if_pos q2]
    ·rw[if_neg q,if_neg oM,if_neg q2]
     split<;>rfl
  exact WP.lv hb3 λi j=>rfl
 |succ d ih=>
  intro s h h1 e ho b
  refine WP.rnd (λi j=>a3y i.1 i.2 j ..) ?_
  have r4':=e.get r4
  have hkv:kk D.length V s V=s:=by simp[kk]
  obtain ⟨s1,s2,h2,h3,k1,k2,k3,k4,k5,k6⟩:=b.step hV (by rw[hkv]; omega) ho
  refine g6 @r4' hD.lenG @k1 @k2 @k3 @k4 ?_
  have hl:=k6.len
  refine ih (s+1) h3 oM (k6.ext e λo z1 z2=>oM) oM (k5.congr λt ht=>?_)
  try simp only[kk]
  by_cases q:t=V
  ·subst q; simp
  ·by_cases q2:t<V
   ·simp[q,q2]
   ·simp[q,q2]
theorem c4S (ok:DOk D acc)(no:NetOk N es)(co:COk es):GOk (N*D.length) 2147483647 (hopA es D.length (onL es D)):=by
 refine ⟨oM,λx hx y e w hm=>?_⟩
 obtain ⟨i,s,i1,s1,rfl,rfl,rfl⟩:=b4B ok no hx hm
 have he:0<=(eg es i).fr/\(eg es i).fr<N/\0<=(eg es i).to/\(eg es i).to<N/\0<=(eg es i).md/\(eg es i).md<5:=no.edge _ (b7_ (xs:=es) (i:=(i:Int)) oM oM)
 have ht:0<=nx D s (eg es i).md/\nx D s (eg es i).md<D.length:=ok.to s (eg es i).md oM oM he.2.2.2.2.1 he.2.2.2.2.2
 have hco:0<=(eg es i).co/\(eg es i).co<=2147483647:=co.c _ (b7_ (xs:=es) (i:=(i:Int)) oM oM)
 exact ⟨spotN oM oM,hco.1,hco.2⟩
theorem b8Q (no:NetOk N es)(co:COk es)(hn2:N*D.length<=1000000)(hs:Sl h 4 sE (es.map encE))(ok:DOk D acc)(hD:Sl h 5 sD (D.map encR))(hA:Sl h 1 sA (acc.map encB)){v:Nat}(hv:v<N) :
  Tot tab c5_ [.agg [I N,sE],.agg [sD,sA],I v] h λr h'=>Ext h h'/\∃c rows W,LC (N*D.length) (hopA es D.length (onL es D)) (λx=>x=v*D.length) c/\MatW W 0 r N D.length rows c h':=by
 refine WP.tot (b0c · ..) ?_
 have hN:N<=100000:=by have:=no.n1; omega
 obtain ⟨h1,hh1⟩:∃h1,h1=(h++[AObj.cells ⟨[I N,sE],0,0,false⟩])++[AObj.cells ⟨[sD,sA],0,0,false⟩]:=⟨_,rfl⟩
 have e1:Ext h h1:=by rw[hh1]; exact eX
 have hl1:h1.length=h.length+2:=by rw[hh1]; simp
 have r3:h1[h.length]?=some (.cells ⟨[I N,sE],0,0,false⟩):=by rw[hh1]; simp
 have r4:h1[h.length+1]?=some (.cells ⟨[sD,sA],0,0,false⟩):=by rw[hh1]; simp
 obtain ⟨c7,h2,a2,g2,e2,_,l2⟩:=g0_ (zero:=[AV.nils]) (sz:=1) (bytes:=24) (n:=(N:Int)) h1 oM oM oM rfl rfl
 refine g6 hs.one hs.cells hD.one hD.cells hA.one hA.cells ?_
 rw[<-hh1]
 refine g1 @a2 ?_
 have b0:BW h1.length c7 N (kk D.length 0 0) h2:=by
  refine ⟨List.replicate N .nils,g2.cong (by simp),by simp,Fam.nil _ _ _ λt ht=>⟨w2_ oM oM,by simp[kk]⟩⟩
 have hg:=c4S ok no co
 have main:∀(d V:Nat) (h':Heap),V+d=N->Ext h1 h'->h1.length<h'.length->BW h1.length c7 N (kk D.length V 0) h'->
   WP (λp:Nat × Nat=>p1_ p.1 p.2 (I v) (.ptr h.length 0 2 0) (.ptr (h.length+1) 0 2 0) c7 (I V) h') λr h'=>Ext h h'/\∃c rows W,LC (N*D.length) (hopA es D.length (onL es D)) (λx=>x=v*D.length) c/\MatW W 0 r N D.length rows c h':=by
  intro d
  induction d with
  |zero=>
   intro V h' hV e ho b
   refine WP.rnd (a3B · · ..) ?_
   obtain rfl:V=N:=oM
   have r3':=e.get r3
   refine g1 @r3' ?_
   obtain ⟨rows,gc,lr,f⟩:=b
   have w:MatW (λo=>h1.length<o/\o<h'.length) 0 c7 V D.length rows (λ_=>-1) h':=by
    refine ⟨gc.sl,λh'' fr=>(gc.frs fr λo z1 z2 z3=>oM).sl,lr,(f.mono λo z1 z2=>⟨z2,z1⟩).congr λt ht=>⟨rfl,?_⟩⟩
    congr 1
    simp only[rowL,kk]
    rw[if_pos ht]
    apply List.ext_getElem<;>simp
   obtain ⟨h3,s3,w3,f3⟩:=w.set hv ok.l0 0
   have e3:Ext h1 h3:=f3.ext e λo z1 z2=>oM
   have rv:=w.row hv
   have gv0:=b2w (c:=λ_=>(-1:Int)) (v:=v) ok.l0
   have hb4:WP (λi:Nat=>a1G i (I v) (.ptr h.length 0 2 0) (.ptr (h.length+1) 0 2 0) c7 h') λr h'=>Ext h h'/\∃c rows W,LC (V*D.length) (hopA es D.length (onL es D)) (λx=>x=v*D.length) c/\MatW W 0 r V D.length rows c h':=by
    refine WP.congr (a8h · ..) ?_
    have l0:=ok.l0
    have s3':stN 1 h' (elP 1 (gi rows (v:Int)) 0) (I 0)=some h3:=s3
    refine g6 w.gc.idxG w.gc.ld0 @lr rv.idxG @i5_ @s3' ?_
    have hst:∀x,x=v*D.length->x<V*D.length:=λx z=>by
     have:=spotN (S:=D.length) hv ok.l0
     omega
    refine WP.ent (c1z (hb:=h1) (hcl:=h'.length) (st:=λx=>x=v*D.length) (rows:=rows) (W:=λo=>h1.length<o/\o<h'.length) (acc:=acc) ok no co hn2 hg hst (λo z=>⟨oM,z.2⟩) (hs.ext e1) (hD.ext e1) r3 r4 e.len (λh4 c4 e4 w4 lc4=>⟨e1.trans e4,c4,rows,_,lc4,w4⟩) (mu (V*D.length) 2147483647 (up (λ_=>-1) (v*D.length+0) 0)).toNat h3 _ (by have:=b5t (n:=V*D.length) (W:=2147483647) oM (up (λ_=>-1) (v*D.length+0) 0); omega) e3 f3.len w3 ?_) λi=>rfl
    refine RI.start hg (hst _ rfl) (λx=>Iff.rfl) λx hx=>?_
    simp only[up,Nat.add_zero]
   exact WP.lv hb4 λi j=>rfl
  |succ d ih=>
   intro V h' hV e ho b
   refine WP.rnd (a3B · · ..) ?_
   have r3':=e.get r3
   refine g1 @r3' ?_
   exact WP.ent (c4R ok (Nat.le_refl _) (hD.ext e1) r4 (V:=V) (N:=N) oM oM (λh4 e4 ho4 b4=>ih (V+1) h4 oM e4 ho4 b4) D.length 0 h' oM e ho b) λi=>rfl
 exact WP.ent (main N 0 h2 oM e2 oM b0) λi=>rfl
theorem b9R {hb:Heap}{o3 o4 lo v:Nat}{xs:List Int}(ok:DOk D acc)(hN:N<=100000)(hlo:hb.length<=lo)(w0:MatW W 0 c7 N D.length rows c hb)(hD:Sl hb 5 sD (D.map encR))(hA:Sl hb 1 sA (acc.map encB))(r4:hb[o4]?=some (.cells ⟨[sD,sA],0,0,false⟩))(hv:v<N)(hx:xs.length=v)(e:Ext hb h)(g:Gr hb.length h.length h 1 out (xs.map encI))(hQ:∀h' out',Ext hb h'->Gr hb.length h'.length h' 1 out' ((xs++[bv c acc (v*D.length) D.length]).map encI)->WP (λp:Nat × Nat=>o8_ p.1 p.2 (.ptr o3 0 2 0) (.ptr o4 0 2 0) c7 out' (I (v+1)) h') Q) :
  ∀(d s:Nat),s+d=D.length->
   WP (λp:(Nat × Nat) × Nat=>o9_ p.1.1 p.1.2 p.2 (.ptr o3 0 2 0) (.ptr o4 0 2 0) c7 out (I v) (I (bv c acc (v*D.length) s)) (I s) h) Q:=by
 have l1:=ok.l1
 have la:=ok.la
 have r4':=e.get r4
 have w:=w0.ext e
 intro d
 induction d with
 |zero=>
  intro s h1
  refine WP.rnd (λi j=>a3n i.1 i.2 j ..) ?_
  obtain rfl:s=D.length:=oM
  refine g2 @r4' hD.lenG ?_
  have hb3:WP (λp:Nat × Nat=>a1D p.1 p.2 (.ptr o3 0 2 0) (.ptr o4 0 2 0) c7 out (I v) (I (bv c acc (v*D.length) D.length)) h) Q:=by
   refine WP.congr (λp=>a8d p.1 p.2 ..) ?_
   have hlb:=e.len
   obtain ⟨s',h',q1,q2,q3⟩:=Gr.append1 (bytes:=8) g (v:=[I (bv c acc (v*D.length) D.length)]) rfl oM oM (by simp; omega) oM oM
   rw[a3_] at q1
   refine g1 @q1 ?_
   refine WP.congr (λp=>a8c p.1 p.2 ..) ?_
   refine g0 ?_
   exact hQ h' s' (q3.ext e oM) (q2.cong (by simp[encI]))
  exact WP.lv hb3 λi j=>rfl
 |succ d ih=>
  intro s h1
  refine WP.rnd (λi j=>a3n i.1 i.2 j ..) ?_
  have hs:s<D.length:=oM
  have lr:=w.lr
  have rf:=w.row hv
  have gf1:=b2w (c:=c) (v:=v) hs
  have hbs:bv c acc (v*D.length) (s+1)=if gi acc s=true/\0<=c (v*D.length+s)/\(bv c acc (v*D.length) s<0\/c (v*D.length+s)<bv c acc (v*D.length) s) then c (v*D.length+s) else bv c acc (v*D.length) s:=rfl
  have ihs:=ih (s+1) oM
  rw[hbs] at ihs
  obtain ⟨b,hbb⟩:∃b,bv c acc (v*D.length) s=b:=⟨_,rfl⟩
  obtain ⟨x,hxx⟩:∃x,c (v*D.length+s)=x:=⟨_,rfl⟩
  rw[hbb,hxx] at ihs
  rw[hxx] at gf1
  rw[hbb]
  have hA':=hA.ext e
  cases hac:gi acc (s:Int) with
  |false=>
   rw[if_neg (by rw[hac]; simp)] at ihs
   refine g6 @r4' hD.lenG hA'.idxG hA'.ld0 @encB.eq_1 @hac ?_
   exact ihs
  |true=>
   by_cases c1:0<=x
   ·by_cases c2:b<0
    ·rw[if_pos ⟨hac,c1,.inl c2⟩] at ihs
     refine g14 @r4' hD.lenG hA'.idxG hA'.ld0 @encB.eq_1 @hac w.gc.idxG w.gc.ld0 @lr rf.idxG rf.ld0 @i5_ @encI.eq_1 @gf1 ?_
     exact ihs
    ·by_cases c3:x<b
     ·rw[if_pos ⟨hac,c1,.inr c3⟩] at ihs
      refine g14 @r4' hD.lenG hA'.idxG hA'.ld0 @encB.eq_1 @hac w.gc.idxG w.gc.ld0 @lr rf.idxG rf.ld0 @i5_ @encI.eq_1 @gf1 ?_
      exact ihs
     ·rw[if_neg (λz=>oM)] at ihs
      refine g14 @r4' hD.lenG hA'.idxG hA'.ld0 @encB.eq_1 @hac w.gc.idxG w.gc.ld0 @lr rf.idxG rf.ld0 @i5_ @encI.eq_1 @gf1 ?_
      exact ihs
   ·rw[if_neg (λz=>oM)] at ihs
    refine g14 @r4' hD.lenG hA'.idxG hA'.ld0 @encB.eq_1 @hac w.gc.idxG w.gc.ld0 @lr rf.idxG rf.ld0 @i5_ @encI.eq_1 @gf1 ?_
    exact ihs
theorem b8R (N S:Nat)(c:Nat->Int)(acc:List Bool)(v:Nat):costL (v+1) S c acc=costL v S c acc++[bv c acc (v*S) S]:=by
 simp[costL,List.range_succ]
theorem a4K (no:NetOk N es)(co:COk es)(hn2:N*D.length<=1000000)(hs:Sl h 4 sE (es.map encE))(ok:DOk D acc)(hD:Sl h 5 sD (D.map encR))(hA:Sl h 1 sA (acc.map encB)){v:Nat}(hv:v<N) :
  Tot tab c4_ [.agg [I N,sE],.agg [sD,sA],I v] h λr h'=>Ext h h'/\∃c,LC (N*D.length) (hopA es D.length (onL es D)) (λx=>x=v*D.length) c/\Gr h.length h'.length h' 1 r ((costL N D.length c acc).map encI):=by
 refine WP.tot (a9Y · ..) ?_
 have hN:N<=100000:=by have:=no.n1; omega
 obtain ⟨h1,hh1⟩:∃h1,h1=(h++[AObj.cells ⟨[I N,sE],0,0,false⟩])++[AObj.cells ⟨[sD,sA],0,0,false⟩]:=⟨_,rfl⟩
 have e1:Ext h h1:=by rw[hh1]; exact eX
 have r3:h1[h.length]?=some (.cells ⟨[I N,sE],0,0,false⟩):=by rw[hh1]; simp
 have r4:h1[h.length+1]?=some (.cells ⟨[sD,sA],0,0,false⟩):=by rw[hh1]; simp
 refine g6 hs.one hs.cells hD.one hD.cells hA.one hA.cells ?_
 rw[<-hh1]
 refine WP.call (b8Q no co hn2 (hs.ext e1) ok (hD.ext e1) (hA.ext e1) hv) ?_
 rintro c7 h2 ⟨e2,c,rows,W,lc,w⟩
 have e12:=e1.trans e2
 have main:∀(d v':Nat) (h':Heap) (out:AV),v'+d=N->Ext h2 h'->Gr h2.length h'.length h' 1 out ((costL v' D.length c acc).map encI)->
   WP (λp:Nat × Nat=>o8_ p.1 p.2 (.ptr h.length 0 2 0) (.ptr (h.length+1) 0 2 0) c7 out (I v') h') λr h'=>Ext h h'/\∃c,LC (N*D.length) (hopA es D.length (onL es D)) (λx=>x=v*D.length) c/\Gr h.length h'.length h' 1 r ((costL N D.length c acc).map encI):=by
  intro d
  induction d with
  |zero=>
   intro v' h' out hV e g
   refine WP.rnd (a3o · · ..) ?_
   obtain rfl:v'=N:=oM
   have r3':=e.get (e2.get r3)
   refine g1 @r3' ?_
   exact WP.ret ⟨e12.trans e,c,lc,g.mono e12.len (Nat.le_refl _)⟩
  |succ d ih=>
   intro v' h' out hV e g
   refine WP.rnd (a3o · · ..) ?_
   have r3':=e.get (e2.get r3)
   refine g1 @r3' ?_
   refine WP.ent (b9R (hb:=h2) (lo:=h2.length) (c:=c) (v:=v') ok hN (Nat.le_refl _) w (hD.ext e12) (hA.ext e12) (e2.get r4) oM (i0_ v' D.length c acc) e g (λh3 out3 e3 g3=>ih (v'+1) h3 out3 oM e3 (g3.cong (by rw[b8R N]))) D.length 0 oM) λi=>rfl
 exact WP.ent (main N 0 h2 .nils oM (Ext.refl _) (Gr.nil ..)) λi=>rfl
end
end Go.Gm.AZ
namespace Go.Gm
theorem Gr.frsN (a:Gr o (o+1) h sz s xs)(f:FrS D h h')(hd:s≠.nils->¬D o):Gr o (o+1) h' sz s xs:=by
 by_cases hn:s=.nils
 ·subst hn
  have:=Gr.isNil a
  subst this
  exact Gr.nil ..
 ·exact Gr.frs a f λp z1 z2=>by rw[show p=o by omega]; exact hd hn
end Go.Gm
namespace Go.Gm.AZ
open Go Go.Gm
structure MK (h0:Heap) (n i:Nat) (D:List (List Int)) (acc:List Bool) (sD sA:AV) (oD oA:Nat) (h:Heap):Prop where
 ex:Ext h0 h
 r6:h[h0.length]?=some (.cells ⟨[.nils,.nils],0,0,false⟩)
 r7:h[h0.length+1]?=some (.cells ⟨[sD,sA],0,0,false⟩)
 gD:Gr oD (oD+1) h 5 sD (D.map encR)
 gA:Gr oA (oA+1) h 1 sA (acc.map encB)
 pD:sD≠.nils->h0.length+2<=oD/\oD<h.length
 pA:sA≠.nils->h0.length+2<=oA/\oA<h.length
 ne:sD≠.nils->sA≠.nils->oD≠oA
 lD:D.length=i
 lA:acc.length=i
 row:∀s:Int,0<=s->s<i->(gi D s).length=5
 to:∀s m:Int,0<=s->s<i->0<=m->m<5->0<=gi (gi D s) m/\gi (gi D s) m<n
theorem MK.frs (w:MK h0 n i D acc sD sA oD oA h)(f:FrS P h h')(hp:∀o,o<h.length->¬P o):MK h0 n i D acc sD sA oD oA h':=by
 have hl:=f.len
 have b6:=(List.getElem?_eq_some_iff.1 w.r6).1
 have b7:=(List.getElem?_eq_some_iff.1 w.r7).1
 exact ⟨f.ext w.ex λo z1 z2=>hp o oM z2,by rw[f.get (hp _ b6) b6]; exact w.r6,by rw[f.get (hp _ b7) b7]; exact w.r7,w.gD.frsN f λz=>hp _ (w.pD z).2,w.gA.frsN f λz=>hp _ (w.pA z).2,λz=>⟨(w.pD z).1,by have:=(w.pD z).2; omega⟩,λz=>⟨(w.pA z).1,by have:=(w.pA z).2; omega⟩,w.ne,w.lD,w.lA,w.row,w.to⟩
end Go.Gm.AZ
namespace Go.Gm.AZ
open Go Go.Gm
theorem a5I (size:Int)(zs:List Int)(modes:Int):COk (mkE size zs modes):=by
 refine ⟨λe he=>?_⟩
 simp only[mkE,List.mem_map] at he
 obtain ⟨k,_,rfl⟩:=he
 try simp only[mkEdge]
 split<;>omega
theorem b0q {o m:Nat}(hm:m<5):idxA 5 1 (.ptr o 0 5 0) (I m)=some (.ptr o m (m+1) 0):=by
 simp only[idxA,I]
 rw[if_pos ⟨oM,oM,oM⟩]
 simp
theorem stP {h:Heap}{o m:Nat}{cs:List AV}(hr:h[o]?=some (.cells ⟨cs,0,0,false⟩)):stN 1 h (.ptr o m (m+1) 0) (I x)=some (h.set o (.cells ⟨cs.set m (I x),0,0,false⟩)):=by
 have c1:(I x).cells=[I x]:=rfl
 have c2:(I x).one=true:=rfl
 simp only[stN,wrc,hr,c1,List.length_cons,List.length_nil,List.all_cons,List.all_nil,c2,setAll]
 simp
end Go.Gm.AZ
namespace Go.Gm.AZ
open Go Go.Gm
section
variable {h0 h:Heap} {g:AV} {N:Nat} {es:List E} {D:List (List Int)} {acc:List Bool}
end
end Go.Gm.AZ
namespace Go.Gm.AZ
open Go Go.Gm
section
variable {h0 h:Heap} {g:AV} {N:Nat} {es:List E} {D:List (List Int)} {acc:List Bool}
theorem a8u {S v s:Nat}(hs:s<S):(v*S+s) / S=v/\(v*S+s) % S=s:=by
 have h:=b3g (S:=S) (v:=v) (s:=s) (v':=(v*S+s) / S) (s':=(v*S+s) % S) hs (Nat.mod_lt _ oM) (by
  rw[Nat.mul_comm ((v*S+s) / S),Nat.div_add_mod])
 exact ⟨h.1.symm,h.2.symm⟩
end
end Go.Gm.AZ
namespace Go.Gm.AZ
open Go Go.Gm
end Go.Gm.AZ
namespace Go.Gm.AZ
open Go Go.Gm
def SB (W:Nat->Prop)(h:Heap)(os:Nat)(g:AV)(fh:FuncId)(n:Nat)(A:Nat->List Hop)(st:Nat->Prop)(c:Nat->Int)(m:Nat->Option Int)(ls:Int):Prop:=
 ∃(q sc se sf:AV) (oc oe ov:Nat) (cs ds fs:List Int) (M:List (Option Int)) (id k:Nat) (rk:Nat->Nat),SW W h os g (.fn fh [] []) q sc se sf oc oe ov n cs ds fs M ls/\DI n 2147483647 A st id [] (gf cs) (gf M) (gf ds) (gf fs) rk k/\un n (gf cs)+(k:Int)=n/\
  c=gf cs/\m=gf M
def LsOk (n:Nat)(m:Nat->Option Int)(ls:Int):Prop:=0<=ls/\ls<=4000000000000000000/\∀x:Nat,x<n->∀v,m x=some v->ls<=v
section
variable {W:Nat->Prop} {h0 h h':Heap} {os n:Nat} {g:AV} {fh:FuncId} {A:Nat->List Hop} {st:Nat->Prop} {c:Nat->Int} {m:Nat->Option Int} {ls:Int}
theorem SB.frs (s:SB W h os g fh n A st c m ls)(f:FrS D h h')(hd:∀o,o<h.length->W o->¬D o):SB W h' os g fh n A st c m ls:=by
 obtain ⟨q,sc,se,sf,oc,oe,ov,cs,ds,fs,M,id,k,rk,w,r⟩:=s
 exact ⟨q,sc,se,sf,oc,oe,ov,cs,ds,fs,M,id,k,rk,w.frs f hd,r⟩
theorem SB.mono (s:SB W h os g fh n A st c m ls){W':Nat->Prop}(hw:∀o,o<h.length->W o->W' o):SB W' h os g fh n A st c m ls:=by
 obtain ⟨q,sc,se,sf,oc,oe,ov,cs,ds,fs,M,id,k,rk,w,r⟩:=s
 exact ⟨q,sc,se,sf,oc,oe,ov,cs,ds,fs,M,id,k,rk,w.mono hw,r⟩
theorem SB.hop (s:SB W h os g fh n A st c m ls){x:Nat}(hx:x<n)(h0:0<=c x){y e':Nat}{w:Int}(hh:(y,e',w)∈A x)(hy:y<n):0<=fnd c m y/\fnd c m y<=c x+w:=by
 obtain ⟨q,sc,se,sf,oc,oe,ov,cs,ds,fs,M,id,k,rk,w,d,u,rfl,rfl⟩:=s
 exact c3Y d hx h0 hh hy
theorem SB.walk (s:SB W h os g fh n A st c m ls){x:Nat}(hx:x<n)(h0:0<=fnd c m x):∃l,Wk A st x l (fnd c m x):=by
 obtain ⟨q,sc,se,sf,oc,oe,ov,cs,ds,fs,M,id,k,rk,w,d,u,rfl,rfl⟩:=s
 exact c2u d hx h0
theorem SB.bnd (s:SB W h os g fh n A st c m ls)(hn2:n<=1000000){x:Nat}(hx:x<n):fnd c m x<=4000000000000000000:=by
 obtain ⟨q,sc,se,sf,oc,oe,ov,cs,ds,fs,M,id,k,rk,w,d,u,rfl,rfl⟩:=s
 have h1:=c3Z oM d hx
 have h2:=m1_ n (gf cs)
 omega
variable {N:Nat} {es:List E} {D:List (List Int)} {acc:List Bool} {L:Int->Int->List Tr}
theorem SB.step (e0:Ext h0 h)(hW:∀o,W o->h0.length<=o)(gv:GV h0 g N es D acc)(ok:DOk D acc)(co:COk es)(hN:N<=100000)(hn:n=N*D.length)(hn2:n<=1000000)(hh:HopsOk h0 g N es D fh L)(hst:∀x,st x->x<n)(s:SB W h os g fh n (hopA es D.length L) st c m ls) :
  Tot tab h7_ [.ptr os 0 7 0] h λr h'=>FrS W h h'/\
   ((r=.tup [I 0,.bool false]/\(∀x:Nat,x<n->m x=none)/\SB (λo=>W o\/h.length<=o) h' os g fh n (hopA es D.length L) st c m ls)\/
    ∃id key m2,id<n/\c id<0/\0<=key/\r=.tup [I id,.bool true]/\SB (λo=>W o\/h.length<=o) h' os g fh n (hopA es D.length L) st (up c id key) m2 key/\LsOk n m2 key):=by
 obtain ⟨q,sc,se,sf,oc,oe,ov,cs,ds,fs,M,id0,k,rk,w,d,u,rfl,rfl⟩:=s
 refine (b1Q e0 hW gv ok co hN hn hn2 hh hst w d u).mono ?_
 rintro r h2 ⟨f2,⟨rfl,hm,w2⟩|⟨id,key,ds2,fs2,M2,rk2,i1,i2,i3,rfl,w2,d2,k2⟩⟩
 ·exact ⟨f2,.inl ⟨rfl,hm,q,sc,se,sf,oc,oe,ov,cs,ds,fs,M,id0,k,rk,w2,d,u,rfl,rfl⟩⟩
 ·obtain ⟨q1,q2,_⟩:=d.que id i1 key i2
  have hcs:gf (cs.set id key)=up (gf cs) id key:=gset (by rw[w.lc]; exact i1) key
  have hid:gf (cs.set id key) id=key:=by rw[hcs]; exact if_pos rfl
  refine ⟨f2,.inr ⟨id,key,gf M2,i1,oM,q2,rfl,⟨q,sc,se,sf,oc,oe,ov,cs.set id key,ds2,fs2,M2,id,k+1,rk2,w2,d2,k2,hcs.symm,rfl⟩,q2,?_,λx hx v hv=>?_⟩⟩
  ·have h5:=d2.bnd id i1 key (.inl ⟨by rw[hid]; exact q2,hid⟩)
   have h6:=m1_ n (gf (cs.set id key))
   omega
  have:=d2.ord id x i1 hx (by rw[hid]; exact q2) v hv
  rw[hid] at this
  exact this
end
end Go.Gm.AZ
namespace Go.Gm.AZ
open Go Go.Gm
structure RowsB (h:Heap) (ot ob ol oz os1 os2:Nat) (L:Int):Prop where
 rt:h[ot]?=some (.cells ⟨[.ptr os1 0 7 0],0,0,false⟩)
 rb:h[ob]?=some (.cells ⟨[.ptr os2 0 7 0],0,0,false⟩)
 rl:h[ol]?=some (.cells ⟨[I L],0,0,false⟩)
 rz:h[oz]?=some (.cells ⟨[.ptr os1 0 7 0,.ptr os2 0 7 0],0,0,false⟩)
 ne:ot≠ol/\ob≠ol/\oz≠ol
section
variable {h h':Heap} {ot ob ol oz os1 os2:Nat} {L:Int}
theorem RowsB.frs (r:RowsB h ot ob ol oz os1 os2 L)(f:FrS D h h')(hd:¬D ot/\¬D ob/\¬D ol/\¬D oz):RowsB h' ot ob ol oz os1 os2 L:=by
 have b:=fun {o:Nat} {x:AObj} (z:h[o]?=some x)=>(List.getElem?_eq_some_iff.1 z).1
 exact ⟨by rw[f.get hd.1 (b r.rt)]; exact r.rt,by rw[f.get hd.2.1 (b r.rb)]; exact r.rb,by rw[f.get hd.2.2.1 (b r.rl)]; exact r.rl,by rw[f.get hd.2.2.2 (b r.rz)]; exact r.rz,r.ne⟩
variable {W1 W2:Nat->Prop} {n:Nat} {g:AV} {f1 f2:FuncId} {A A':Nat->List Hop} {st en:Nat->Prop} {c1 c2:Nat->Int} {m1 m2:Nat->Option Int} {ls1 ls2:Int}
def Snd (A:Nat->List Hop)(st en:Nat->Prop)(L:Int):Prop:=L = -1\/(0<=L/\∃z,en z/\∃l,Wk A st z l L)
end
end Go.Gm.AZ
namespace Go.Gm.AZ
open Go Go.Gm
section
variable {h0 hb:Heap} {ot ob ol oz os1 os2:Nat} {W1 W2:Nat->Prop} {n:Nat} {g:AV} {f1 f2:FuncId} {A A':Nat->List Hop} {st en:Nat->Prop} {c1 c2:Nat->Int} {m1 m2:Nat->Option Int} {ls1 ls2:Int}
variable {N:Nat} {es:List E} {D:List (List Int)} {acc:List Bool}
end
end Go.Gm.AZ
namespace Go.Gm.AZ
open Go Go.Gm
section
variable {h0 hb:Heap} {ot ob ol oz os1 os2:Nat} {W1 W2:Nat->Prop} {n:Nat} {g:AV} {f1 f2:FuncId} {A A':Nat->List Hop} {st en:Nat->Prop} {c1 c2:Nat->Int} {m1 m2:Nat->Option Int} {ls1 ls2:Int}
variable {N:Nat} {es:List E} {D:List (List Int)} {acc:List Bool}
theorem SB.row (s:SB W h os g fh n A st c m ls):W os/\∃q sc se sf,h[os]?=some (.cells ⟨[g,.fn fh [] [],q,sc,se,sf,I ls],0,0,false⟩):=by
 obtain ⟨q,sc,se,sf,oc,oe,ov,cs,ds,fs,M,id,k,rk,w,_⟩:=s
 exact ⟨w.ws,q,sc,se,sf,w.row⟩
end
end Go.Gm.AZ
namespace Go.Gm.AZ
open Go Go.Gm
section
variable {W:Nat->Prop} {h0 h h':Heap} {os n:Nat} {g:AV} {fh:FuncId} {A:Nat->List Hop} {st:Nat->Prop} {c:Nat->Int} {m:Nat->Option Int} {ls:Int}
variable {N:Nat} {es:List E} {D:List (List Int)} {acc:List Bool} {L:Int->Int->List Tr}
theorem SB.all (e0:Ext h0 h)(hW:∀o,W o->h0.length<=o)(gv:GV h0 g N es D acc)(ok:DOk D acc)(co:COk es)(hN:N<=100000)(hn:n=N*D.length)(hn2:n<=1000000)(hh:HopsOk h0 g N es D fh L)(hst:∀x,st x->x<n)(s:SB W h os g fh n (hopA es D.length L) st c m ls) :
  Tot tab i7_ [.ptr os 0 7 0] h λr h'=>r=.tup []/\FrS W h h'/\∃c2 m2 ls2,SB (λo=>W o\/h.length<=o) h' os g fh n (hopA es D.length L) st c2 m2 ls2/\∀x:Nat,x<n->m2 x=none:=by
 obtain ⟨q,sc,se,sf,oc,oe,ov,cs,ds,fs,M,id0,k,rk,w,d,u,rfl,rfl⟩:=s
 refine (b0Z e0 hW gv ok co hN hn hn2 hh hst w d u).mono ?_
 rintro r h2 ⟨rfl,f2,id2,k2,ls2,rk2,cs2,ds2,fs2,M2,w2,d2,m2,u2⟩
 exact ⟨rfl,f2,gf cs2,gf M2,ls2,⟨q,sc,se,sf,oc,oe,ov,cs2,ds2,fs2,M2,id2,k2,rk2,w2,d2,u2,rfl,rfl⟩,m2⟩
theorem SB.done (s:SB W h os g fh n A st c m ls)(hg:GOk n 2147483647 A)(hst:∀x,st x->x<n)(hm:∀x:Nat,x<n->m x=none)(h:Wk A st z l v):0<=c z/\c z<=v/\fnd c m z=c z:=by
 obtain ⟨q,sc,se,sf,oc,oe,ov,cs,ds,fs,M,id0,k,rk,w,d,u,rfl,rfl⟩:=s
 obtain ⟨h1,h2⟩:=d.all hg hst hm h
 exact ⟨h1,h2,if_pos h1⟩
end
section
variable {hb:Heap} {ot ob ol oz os1 os2:Nat} {W1 W2:Nat->Prop} {n:Nat} {g:AV} {f1 f2:FuncId} {A A':Nat->List Hop} {st en:Nat->Prop} {c1 c2:Nat->Int} {m1 m2:Nat->Option Int} {ls1 ls2:Int}
end
end Go.Gm.AZ
namespace Go.Gm.AZ
open Go Go.Gm
section
variable {h0:Heap} {ot ob ol oz os1 os2:Nat} {n:Nat} {g:AV} {st en:Nat->Prop}
variable {N:Nat} {es:List E} {D:List (List Int)} {acc:List Bool}
def Pl (h0 h:Heap)(ot ob ol oz:Nat)(W:Nat->Prop):Prop:=∀o,W o->h0.length<=o/\o<h.length/\o≠ot/\o≠ob/\o≠ol/\o≠oz
theorem Pl.grow {h h':Heap}(p:Pl h0 h ot ob ol oz W)(e0:h0.length<=h.length)(e:h.length<=h'.length)(hr:ot<h.length/\ob<h.length/\ol<h.length/\oz<h.length):Pl h0 h' ot ob ol oz (λo=>W o\/(h.length<=o/\o<h'.length)):=by
 intro o z
 rcases z with z|z
 ·have:=p o z; omega
 ·omega
end
end Go.Gm.AZ
namespace Go.Gm.AZ
open Go Go.Gm
section
variable {h0:Heap} {ot ob ol oz os1 os2 n:Nat} {g:AV} {f1 f2:FuncId} {st en:Nat->Prop} {L1 L2:Int->Int->List Tr}
variable {N:Nat} {es:List E} {D:List (List Int)} {acc:List Bool}
structure BI (h0 h:Heap) (ot ob ol oz os1 os2 n:Nat) (g:AV) (f1 f2:FuncId) (st en:Nat->Prop) (A1 A2:Nat->List Hop) (W1 W2:Nat->Prop) (c1 c2:Nat->Int) (m1 m2:Nat->Option Int) (ls1 ls2 L:Int):Prop where
 ex:Ext h0 h
 sa:SB W1 h os1 g f1 n A1 st c1 m1 ls1
 sb:SB W2 h os2 g f2 n A2 en c2 m2 ls2
 ka:LsOk n m1 ls1
 kb:LsOk n m2 ls2
 rr:RowsB h ot ob ol oz os1 os2 L
 sn:Snd A1 st en L
 mt:Met n A1 st en c1 c2 L
 pa:Pl h0 h ot ob ol oz W1
 pb:Pl h0 h ot ob ol oz W2
 dj:∀o,W1 o->¬W2 o
end
end Go.Gm.AZ
namespace Go.Gm.AZ
open Go Go.Gm
theorem a8H:∀n,(bv c acc b n = -1/\∀q:Nat,q<n->gi acc (q:Int)=true->c (b+q)<0)\/
  (∃q:Nat,q<n/\gi acc (q:Int)=true/\0<=c (b+q)/\bv c acc b n=c (b+q)/\∀q':Nat,q'<n->gi acc (q':Int)=true->0<=c (b+q')->bv c acc b n<=c (b+q'))
 |0=>.inl ⟨rfl,λq h=>oM⟩
 |n+1=>by
  by_cases t:gi acc n=true/\0<=c (b+n)/\(bv c acc b n<0\/c (b+n)<bv c acc b n)
  ·have e:bv c acc b (n+1)=c (b+n):=if_pos t
   refine .inr ⟨n,oM,t.1,t.2.1,e,λq hq h1 h2=>?_⟩
   rw[e]
   by_cases hn:q=n
   ·subst hn; omega
   ·rcases a8H (c:=c) (acc:=acc) (b:=b) n with ⟨k1,k2⟩|⟨q',k1,k2,k3,k4,k5⟩
    ·have:=k2 q oM h1
     omega
    ·have:=k5 q oM h1 h2
     omega
  ·have e:bv c acc b (n+1)=bv c acc b n:=if_neg t
   rcases a8H (c:=c) (acc:=acc) (b:=b) n with ⟨k1,k2⟩|⟨q',k1,k2,k3,k4,k5⟩
   ·refine .inl ⟨by rw[e]; exact k1,λq hq h1=>?_⟩
    by_cases hn:q=n
    ·subst hn
     exact Classical.byContradiction λz=>t ⟨h1,oM,.inl oM⟩
    ·exact k2 q oM h1
   ·refine .inr ⟨q',oM,k2,k3,by rw[e]; exact k4,λq hq h1 h2=>?_⟩
    rw[e]
    by_cases hn:q=n
    ·subst hn
     exact Classical.byContradiction λz=>t ⟨h1,h2,.inr oM⟩
    ·exact k5 q oM h1 h2
section
variable {h0:Heap} {N:Nat} {es:List E} {D:List (List Int)} {acc:List Bool}
end
end Go.Gm.AZ
namespace Go.Gm.AZ
open Go Go.Gm
def atV (es:List E)(v:Int)(l:List Nat):Int:=l.foldl (λ_ e=>(eg es e).to) v
def atS (es:List E)(D:List (List Int))(s:Int)(l:List Nat):Int:=l.foldl (λs e=>nx D s (eg es e).md) s
def atC (es:List E)(l:List Nat):Int:=l.foldl (λc e=>c+(eg es e).co) 0
def wdOf (es:List E)(l:List Nat):List Int:=l.map λe=>(eg es e).md
def goS (D:List (List Int))(s:Int)(w:List Int):Int:=w.foldl (λs m=>nx D s m) s
def OkW (es:List E)(v:Int)(l:List Nat):Prop:=∀i e,l[i]?=some e->e<es.length/\(eg es e).fr=atV es v (l.take i)
theorem q6_ (es:List E)(v:Int)(l:List Nat)(e:Nat):atV es v (l++[e])=(eg es e).to:=by simp[atV]
theorem b5R (es:List E)(D:List (List Int))(s:Int)(l:List Nat)(e:Nat):atS es D s (l++[e])=nx D (atS es D s l) (eg es e).md:=by simp[atS]
theorem w8_ (es:List E)(l:List Nat)(e:Nat):atC es (l++[e])=atC es l+(eg es e).co:=by simp[atC]
theorem a8I (es:List E)(D:List (List Int))(s:Int)(l:List Nat):atS es D s l=goS D s (wdOf es l):=by
 simp only[atS,goS,wdOf,List.foldl_map]
theorem OkW.snoc {e:Nat}(h:OkW es v l)(he:e<es.length)(hf:(eg es e).fr=atV es v l):OkW es v (l++[e]):=by
 intro i e' h1
 have hi:=(List.getElem?_eq_some_iff.1 h1).1
 simp only[List.length_append,List.length_cons,List.length_nil] at hi
 by_cases q:i<l.length
 ·rw[List.getElem?_append_left q] at h1
  rw[List.take_append_of_le_length oM]
  exact h i e' h1
 ·obtain rfl:i=l.length:=oM
  rw[List.getElem?_append_right (Nat.le_refl _)] at h1
  simp only[Nat.sub_self,List.getElem?_cons_zero,Option.some.injEq] at h1
  subst h1
  rw[List.take_left]
  exact ⟨he,hf⟩
theorem a8v (co:COk es):∀(l:List Nat),(∀e∈l,e<es.length)->∀c:Int,c<=l.foldl (λc e=>c+(eg es e).co) c/\l.foldl (λc e=>c+(eg es e).co) c<=c+l.length*2147483647
 |[],_,c=>by simp
 |e::l,h,c=>by
  have he:=h e (by simp)
  have h1:0<=(eg es e).co/\(eg es e).co<=2147483647:=co.c _ (b7_ (xs:=es) (i:=(e:Int)) oM oM)
  have h2:=a8v co l (λx hx=>h x (List.mem_cons_of_mem _ hx)) (c+(eg es e).co)
  simp only[List.foldl_cons,List.length_cons]
  refine ⟨oM,?_⟩
  have:((l.length+1:Nat):Int)*2147483647=l.length*2147483647+2147483647:=oM
  rw[this]
  have:(eg es e).co<=2147483647:=h1.2
  omega
theorem OkW.mem (h:OkW es v l):∀e∈l,e<es.length:=by
 intro e he
 obtain ⟨i,hi,h1⟩:=List.getElem_of_mem he
 exact (h i e (by rw[List.getElem?_eq_getElem hi,h1])).1
section
variable {N:Nat} {es:List E} {D:List (List Int)} {acc:List Bool}
theorem c1n (ok:DOk D acc)(no:NetOk N es){x y e:Nat}{w:Int}(hx:x<N*D.length)(h:(y,e,w)∈hopA es D.length (onL es D) x) :
  e<es.length/\(eg es e).fr=((x / D.length:Nat):Int)/\y / D.length=(eg es e).to.toNat/\y % D.length=(nx D ((x % D.length:Nat):Int) (eg es e).md).toNat/\w=(eg es e).co/\y<N*D.length:=by
 obtain ⟨q1,q2⟩:=dm hx
 obtain ⟨t,ht,h1⟩:=List.mem_map.1 h
 obtain ⟨k,hk,rfl⟩:=List.mem_map.1 ht
 obtain ⟨k0,k1,k2⟩:=q8_.1 hk
 obtain ⟨i,rfl⟩:∃i:Nat,k=i:=⟨k.toNat,oM⟩
 simp only[beq_iff_eq] at k2
 have he:0<=(eg es i).fr/\(eg es i).fr<N/\0<=(eg es i).to/\(eg es i).to<N/\0<=(eg es i).md/\(eg es i).md<5:=no.edge _ (b7_ (xs:=es) (i:=(i:Int)) oM oM)
 have htt:0<=nx D ((x % D.length:Nat):Int) (eg es i).md/\nx D ((x % D.length:Nat):Int) (eg es i).md<D.length:=ok.to _ (eg es i).md (Int.natCast_nonneg _) (Int.ofNat_lt.2 q2) he.2.2.2.2.1 he.2.2.2.2.2
 simp only[hopOf] at h1
 cases h1
 rw[Int.toNat_natCast]
 have h1:(eg es i).to=((eg es i).to.toNat:Int):=oM
 have h2:nx D ((x % D.length:Nat):Int) (eg es i).md=((nx D ((x % D.length:Nat):Int) (eg es i).md).toNat:Int):=oM
 have hy:((eg es i).to*(D.length:Int)+nx D ((x % D.length:Nat):Int) (eg es i).md).toNat=(eg es i).to.toNat*D.length+(nx D ((x % D.length:Nat):Int) (eg es i).md).toNat:=by
  generalize (eg es i).to.toNat=a at h1
  generalize (nx D ((x % D.length:Nat):Int) (eg es i).md).toNat=b at h2
  rw[h1,h2,<-Int.natCast_mul,<-Int.natCast_add,Int.toNat_natCast]
 rw[show gi es (i:Int)=eg es i from rfl,hy]
 obtain ⟨p1,p2⟩:=a8u (v:=(eg es i).to.toNat) (S:=D.length) (s:=(nx D ((x % D.length:Nat):Int) (eg es i).md).toNat) oM
 exact ⟨oM,k2,p1,p2,rfl,spotN oM oM⟩
theorem b4x (ok:DOk D acc)(no:NetOk N es){v x:Nat}(hv:v<N)(h:Wk (hopA es D.length (onL es D)) (λx=>x=v*D.length) x l c) :
  OkW es v l/\atV es v l=((x / D.length:Nat):Int)/\atS es D 0 l=((x % D.length:Nat):Int)/\atC es l=c/\x<N*D.length:=by
 induction h with
 |nil h=>
  subst h
  obtain ⟨p1,p2⟩:=a8u (v:=v) (S:=D.length) (s:=0) ok.l0
  simp only[Nat.add_zero] at p1 p2
  rw[p1,p2]
  exact ⟨λi e z=>by simp at z,rfl,rfl,rfl,by have:=spotN (S:=D.length) hv ok.l0; omega⟩
 |@snoc x y e l c w h1 h2 ih=>
  obtain ⟨i1,i2,i3,i4,i5⟩:=ih
  obtain ⟨k1,k2,k3,k4,k5,k6⟩:=c1n ok no i5 h2
  obtain ⟨q1,q2⟩:=dm i5
  have he:0<=(eg es e).fr/\(eg es e).fr<N/\0<=(eg es e).to/\(eg es e).to<N/\0<=(eg es e).md/\(eg es e).md<5:=no.edge _ (b7_ (xs:=es) (i:=(e:Int)) oM oM)
  have htt:0<=nx D ((x % D.length:Nat):Int) (eg es e).md/\nx D ((x % D.length:Nat):Int) (eg es e).md<D.length:=ok.to _ (eg es e).md (Int.natCast_nonneg _) (Int.ofNat_lt.2 q2) he.2.2.2.2.1 he.2.2.2.2.2
  refine ⟨i1.snoc k1 (k2.trans i2.symm),?_,?_,?_,k6⟩
  ·rw[q6_,k3]; omega
  ·rw[b5R,i3,k4]; omega
  ·rw[w8_,i4,k5]
theorem a3O {α:Type}{l:List α}{i:Nat}{e:α}(h:l[i]?=some e):l.take (i+1)=l.take i++[e]:=by
 rw[List.take_add_one,h]; rfl
theorem c2N {v u on:Nat}{l:List Nat}{Q:AV->Heap->Prop}(no:NetOk N es)(co:COk es)(hE:Sl hb 4 sE (es.map encE))(hl:Sl hb 1 sl ((l.map λ(e:Nat)=>(e:Int)).map encI))(hll:l.length<=1000000)(ow:OkW es v l)(hu:atV es v l=u)(rn:hb[on]?=some (.cells ⟨[I N,sE],0,0,false⟩))(hQ:∀h w,Ext hb h->Gr hb.length h.length h 1 w ((wdOf es l).map encI)->Q (.tup [I (atC es l),w,.bool true]) h) :
  ∀(d i:Nat) (h:Heap) (w:AV),i+d=l.length->Ext hb h->Gr hb.length h.length h 1 w ((wdOf es (l.take i)).map encI)->
   WP (λp:Nat × Nat=>r1_ p.1 p.2 (I (atV es v (l.take i))) (I u) sl (.ptr on 0 2 0) (I (atC es (l.take i))) w (I i) h) Q:=by
 intro d
 induction d with
 |zero=>
  intro i h w h1 e g1
  refine WP.rnd (a4a · · ..) ?_
  rw[List.take_of_length_le (show l.length<=i by omega)] at g1 ⊢
  rw[hu]
  have hlg:=(hl.ext e).lenG
  rw[List.length_map] at hlg
  simp -implicitDefEqProofs (disch:=first|assumption|omega|(simp only[gL,gA]<;>omega)|fail) only[cG,reduceIte,hlg]
  refine WP.lv (WP.congr (λk:Nat=>a8Y k (I u) (I u) (I (atC es l)) w h) ?_) λi j=>rfl
  refine g0 ?_
  exact WP.ret (hQ h w e g1)
 |succ d ih=>
  intro i h w h1 e g1
  refine WP.rnd (a4a · · ..) ?_
  have hil:i<l.length:=oM
  obtain ⟨ed,hed⟩:∃ed,l[i]?=some ed:=⟨l[i],List.getElem?_eq_getElem hil⟩
  obtain ⟨o1,o2⟩:=ow i ed hed
  have hg:gi (l.map λ(e:Nat)=>(e:Int)) (i:Int)=(ed:Int):=by
   rw[b2_ (by simpa using hil)]
   rw[List.getElem?_eq_getElem hil] at hed
   injection hed with hed
   simp[hed]
  have hlx:=hl.ext e
  have hlg:=hlx.lenG
  rw[List.length_map] at hlg
  have hE1:=hE.ext e
  have rn1:=e.get rn
  obtain ⟨x,hx⟩:∃x,eg es ed=x:=⟨_,rfl⟩
  have hxx:gi es (ed:Int)=x:=hx
  have he:=no.edge _ (b7_ (xs:=es) (i:=(ed:Int)) oM oM)
  have hc:=co.c _ (b7_ (xs:=es) (i:=(ed:Int)) oM oM)
  rw[hxx] at he hc
  rw[hx] at o2
  have b1:=a8v co (l.take i) (λz hz=>ow.mem z (List.mem_of_mem_take hz)) 0
  have b2:(l.take i).length<=1000000:=by rw[List.length_take]; omega
  obtain ⟨c,hcc⟩:∃c,atC es (l.take i)=c:=⟨_,rfl⟩
  have b3:0<=c/\c<=(l.take i).length*2147483647:=by rw[<-hcc]; exact ⟨b1.1,by have:=b1.2; simpa [atC] using this⟩
  have hlh:=e.len
  obtain ⟨h2,hh2⟩:∃h2,h2=((h++[AObj.cells ⟨[I 0,I 0,I 0,I 0],0,0,false⟩]).set h.length (.cells ⟨[I x.fr,I x.to,I x.md,I x.co],0,0,false⟩)):=⟨_,rfl⟩
  have e2:Ext h h2:=by rw[hh2]; exact eX
  have r2:h2[h.length]?=some (.cells ⟨[I x.fr,I x.to,I x.md,I x.co],0,0,false⟩):=by rw[hh2]; exact a0_ (by simp)
  have hl2:h2.length=h.length+1:=by rw[hh2]; simp
  obtain ⟨s',h',q1,q2,q3⟩:=Gr.append1 (bytes:=8) (g1.ext e2) (v:=[I x.md]) rfl oM oM (by simp[wdOf]; omega) oM oM
  rw[a3_,hl2] at q1
  have hml:(l.map λ(e:Nat)=>(e:Int)).length=l.length:=List.length_map ..
  rw[<-o2,hcc]
  simp -implicitDefEqProofs (disch:=first|assumption|omega|exact Ext.refl _|(simp only[gL,gA]<;>omega)|fail) only[cG,reduceIte,hlg,hlx.idxG,hlx.ld0,hml,hg,encI,rn1,hE1.lenG,hE1.idxG,hE1.ldf,hE1.ld0,hE1.ldN,hxx,encE]
  rw[show I 0=I 0 from rfl,<-hh2]
  simp -implicitDefEqProofs (disch:=first|assumption|omega|(simp only[gL,gA]<;>omega)|fail) only[cG,reduceIte,q1]
  have hv':x.to=atV es v (l.take (i+1)):=by rw[a3O hed,q6_,hx]
  have hc':c+x.co=atC es (l.take (i+1)):=by rw[a3O hed,w8_,hx,hcc]
  rw[hv',hc']
  refine ih (i+1) h' s' oM (q3.ext (e.trans e2) oM) ((q2.mono (Nat.le_refl _) (Nat.le_refl _)).cong ?_)
  rw[a3O hed]
  simp[wdOf,hx,encI]
theorem b9H {v u:Nat}{l:List Nat}(no:NetOk N es)(co:COk es)(hE:Sl h 4 sE (es.map encE))(hl:Sl h 1 sl ((l.map λ(e:Nat)=>(e:Int)).map encI))(hll:l.length<=1000000)(hv:v<N)(huN:u<N)(ow:OkW es v l)(hu:atV es v l=u) :
  Tot tab t8_ [.agg [I N,sE],I v,I u,sl] h λr h'=>Ext h h'/\∃w,r=.tup [I (atC es l),w,.bool true]/\Sl h' 1 w ((wdOf es l).map encI):=by
 refine WP.tot (b0B · ..) ?_
 obtain ⟨h1,hh1⟩:∃h1,h1=h++[AObj.cells ⟨[I N,sE],0,0,false⟩]:=⟨_,rfl⟩
 have e1:Ext h h1:=by rw[hh1]; exact Ext.push _ _
 have rn:h1[h.length]?=some (.cells ⟨[I N,sE],0,0,false⟩):=by rw[hh1]; simp
 have:=no.n1
 refine g2 hE.one hE.cells ?_
 rw[<-hh1]
 refine WP.ent (c2:=λp:Nat × Nat=>r1_ p.1 p.2 (I (atV es v (l.take 0))) (I u) sl (.ptr h.length 0 2 0) (I (atC es (l.take 0))) .nils (I (0:Nat)) h1) (c2N no co (hE.ext e1) (hl.ext e1) hll ow hu rn (λh' w e' g'=>⟨e1.trans e',w,rfl,g'.sl⟩) l.length 0 h1 .nils oM (Ext.refl _) (Gr.nil ..)) λi=>rfl
theorem a6w (ok:DOk D acc):∀(w:List Int) (s:Int),0<=s->s<D.length->(∀m∈w,0<=m/\m<5)->0<=goS D s w/\goS D s w<D.length
 |[],s,h0,h1,_=>⟨h0,h1⟩
 |m::w,s,h0,h1,h=>by
  have hm:=h m (by simp)
  have:=ok.to s m h0 h1 hm.1 hm.2
  exact a6w ok w (nx D s m) this.1 this.2 λz hz=>h z (List.mem_cons_of_mem _ hz)
theorem go_l1 {sD sA sw:AV}{od:Nat}{w:List Int}(ok:DOk D acc)(hD:Sl h 5 sD (D.map encR))(hw:Sl h 1 sw (w.map encI))(hwl:w.length<=1000000000)(hm:∀m∈w,0<=m/\m<5)(rd:h[od]?=some (.cells ⟨[sD,sA],0,0,false⟩)) :
  ∀(d i:Nat),i+d=w.length->WP (λp:Nat × Nat=>w4_ p.1 p.2 (I (goS D 0 (w.take i))) sw (.ptr od 0 2 0) (I i) h) λr h'=>r=I (goS D 0 w)/\h=h':=by
 intro d
 induction d with
 |zero=>
  intro i h1
  refine WP.rnd (a4P · · ..) ?_
  rw[List.take_of_length_le (show w.length<=i by omega)]
  refine g1 hw.lenG ?_
  exact WP.ret ⟨rfl,rfl⟩
 |succ d ih=>
  intro i h1
  refine WP.rnd (a4P · · ..) ?_
  have hil:i<w.length:=oM
  obtain ⟨m,hmm⟩:∃m,gi w (i:Int)=m:=⟨_,rfl⟩
  have hmr:=hm m (hmm▸b7_ oM oM)
  have htk:w.take (i+1)=w.take i++[m]:=by
   have:=c1_ (xs:=w) (i:=(i:Int)) oM oM
   rw[hmm] at this
   exact a3O (by simpa using this)
  obtain ⟨s,hs⟩:∃s,goS D 0 (w.take i)=s:=⟨_,rfl⟩
  have hsr:=a6w ok (w.take i) 0 oM (by have:=ok.l0; omega) λz hz=>hm z (List.mem_of_mem_take hz)
  rw[hs] at hsr
  obtain ⟨p,p1,p2,-⟩:=cellA (H:=h) hD (Ext.refl _) hsr.1 hsr.2 hmr.1 hmr.2
  rw[show (encR (gi D s)).getD m.toNat .undef=I (nx D s m) by
   have hr:=ok.row s hsr.1 hsr.2
   simp only[encR,nx,List.getD_eq_getElem?_getD,List.getElem?_map]
   have:=c1_ (xs:=gi D s) hmr.1 oM
   rw[this]; rfl] at p2
  rw[hs]
  simp -implicitDefEqProofs (disch:=first|assumption|omega|exact Ext.refl _|(simp only[gL,gA]<;>omega)|fail) only[cG,reduceIte,hw.lenG,hw.idxG,hw.ld0,hmm,encI,rd,hD.idxG,p1,p2]
  have hs':nx D s m=goS D 0 (w.take (i+1)):=by
   rw[htk]
   simp only[goS,List.foldl_append,List.foldl_cons,List.foldl_nil]
   rw[show List.foldl (λs m=>nx D s m) 0 (w.take i)=s from hs]
  rw[hs']
  exact ih (i+1) oM
theorem c1o {h:Heap}{sD sA sw:AV}{w:List Int}(ok:DOk D acc)(hD:Sl h 5 sD (D.map encR))(hA:Sl h 1 sA (acc.map encB))(hw:Sl h 1 sw (w.map encI))(hwl:w.length<=1000000000)(hm:∀m∈w,0<=m/\m<5) :
  Tot tab a3j [.agg [sD,sA],sw] h λr h'=>r=.bool (gi acc (goS D 0 w))/\Ext h h':=by
 refine WP.tot (b1f · ..) ?_
 obtain ⟨h1,hh1⟩:∃h1,h1=h++[AObj.cells ⟨[sD,sA],0,0,false⟩]:=⟨_,rfl⟩
 have e1:Ext h h1:=by rw[hh1]; exact Ext.push _ _
 have rd:h1[h.length]?=some (.cells ⟨[sD,sA],0,0,false⟩):=by rw[hh1]; simp
 refine g4 hD.one hD.cells hA.one hA.cells ?_
 rw[<-hh1]
 have hgo:Tot tab a1w [.agg [sD,sA],I 0,sw] h1 λr h'=>r=I (goS D 0 w)/\Ext h1 h':=by
  refine WP.tot (b1J · ..) ?_
  obtain ⟨h2,hh2⟩:∃h2,h2=h1++[AObj.cells ⟨[sD,sA],0,0,false⟩]:=⟨_,rfl⟩
  have e2:Ext h1 h2:=by rw[hh2]; exact Ext.push _ _
  have rd2:h2[h1.length]?=some (.cells ⟨[sD,sA],0,0,false⟩):=by rw[hh2]; simp
  have hD2:=(hD.ext e1).ext e2
  have:=ok.l0
  have:=ok.l1
  refine g4 hD.one hD.cells hA.one hA.cells ?_
  rw[<-hh2]
  refine g2 @rd2 hD2.lenG ?_
  refine WP.ent (c2:=λp:Nat × Nat=>w4_ p.1 p.2 (I (goS D 0 (w.take 0))) sw (.ptr h1.length 0 2 0) (I (0:Nat)) h2) ((go_l1 ok hD2 ((hw.ext e1).ext e2) hwl hm rd2 w.length 0 oM).mono ?_) λi=>rfl
  rintro r h' ⟨rfl,rfl⟩
  exact ⟨rfl,e2⟩
 refine WP.call hgo ?_
 rintro _ h2 ⟨rfl,e2⟩
 obtain ⟨g1,g2⟩:=a6w ok w 0 oM (by have:=ok.l0; omega) hm
 generalize goS D 0 w=s at g1 g2 ⊢
 have hA2:=(hA.ext e1).ext e2
 have rd2:=e2.get rd
 have la:=ok.la
 refine g4 @rd2 hA2.idxG hA2.ld0 @encB.eq_1 ?_
 exact WP.ret ⟨rfl,e1.trans e2⟩
theorem a7Z {h:Heap}{sE sD sA sl:AV}{v u:Nat}{l:List Nat}{cost:Int}(no:NetOk N es)(co:COk es)(ok:DOk D acc)(hE:Sl h 4 sE (es.map encE))(hD:Sl h 5 sD (D.map encR))(hA:Sl h 1 sA (acc.map encB))(hl:Sl h 1 sl ((l.map λ(e:Nat)=>(e:Int)).map encI))(hll:l.length<=1000000)(hv:v<N)(huN:u<N)(ow:OkW es v l)(hu:atV es v l=u)(hc:atC es l=cost)(hacc:gi acc (atS es D 0 l)=true) :
  Tot tab k7_ [.agg [I N,sE],.agg [sD,sA],I v,I u,.agg [I cost,sl],I cost] h λr h'=>r=.bool true/\Ext h h':=by
 refine WP.tot (a9Z · ..) ?_
 obtain ⟨h1,hh1⟩:∃h1,h1=((h++[AObj.cells ⟨[I N,sE],0,0,false⟩])++[AObj.cells ⟨[sD,sA],0,0,false⟩])++[AObj.cells ⟨[I cost,sl],0,0,false⟩]:=⟨_,rfl⟩
 have e1:Ext h h1:=by rw[hh1]; exact eX
 have rd:h1[h.length+1]?=some (.cells ⟨[sD,sA],0,0,false⟩):=by rw[hh1]; simp
 have rr:h1[h.length+1+1]?=some (.cells ⟨[I cost,sl],0,0,false⟩):=by rw[hh1,r8_ (by simp)]; simp
 refine g8 hE.one hE.cells hD.one hD.cells hA.one hA.cells hl.one hl.cells ?_
 rw[<-hh1]
 refine WP.call (b9H no co (hE.ext e1) (hl.ext e1) hll hv huN ow hu) ?_
 rintro _ h2 ⟨e2,w,rfl,gw⟩
 rw[hc]
 have rd2:=e2.get rd
 have rr2:=e2.get rr
 have x2:extr 2 (.tup [I cost,w,.bool true])=some (.bool true):=rfl
 refine g5 @a4_ @a5_ @x2 @rd2 @rr2 ?_
 refine WP.call (c1o ok ((hD.ext e1).ext e2) ((hA.ext e1).ext e2) gw (by simp[wdOf]; omega) λm hm=>?_) ?_
 ·obtain ⟨e,he,rfl⟩:=List.mem_map.1 hm
  have h3:=ow.mem e he
  have:=no.edge _ (b7_ (xs:=es) (i:=(e:Int)) oM oM)
  exact ⟨this.2.2.2.2.1,this.2.2.2.2.2⟩
 ·rintro _ h3 ⟨rfl,e3⟩
  rw[<-a8I,hacc]
  exact WP.ret ⟨rfl,(e1.trans e2).trans e3⟩
end
end Go.Gm.AZ
namespace Go.Gm.AZ
open Go Go.Gm
structure LW (es:List E) (v u:Int) (P:List Int->Prop) (b:Int):Prop where
 ex:b = -1\/(0<=b/\∃l,OkW es v l/\atV es v l=u/\P (wdOf es l)/\atC es l=b)
 le:∀l,OkW es v l->atV es v l=u->P (wdOf es l)->0<=b/\b<=atC es l
theorem LW.uniq (x:LW es v u P a)(y:LW es v u P b):a=b:=by
 rcases x.ex with rfl|⟨x0,l,x1,x2,x3,x4⟩
 ·rcases y.ex with rfl|⟨y0,l',y1,y2,y3,y4⟩
  ·rfl
  ·have:=x.le l' y1 y2 y3
   omega
 ·have h1:=y.le l x1 x2 x3
  rcases y.ex with rfl|⟨y0,l',y1,y2,y3,y4⟩
  ·omega
  ·have:=x.le l' y1 y2 y3
   omega
theorem LW.congr {P Q:List Int->Prop}(x:LW es v u P b)(h:∀l,OkW es v l->(P (wdOf es l)↔Q (wdOf es l))):LW es v u Q b:=by
 refine ⟨x.ex.imp id λ⟨x0,l,x1,x2,x3,x4⟩=>⟨x0,l,x1,x2,(h l x1).1 x3,x4⟩,λl h1 h2 h3=>x.le l h1 h2 ((h l h1).2 h3)⟩
section
variable {N:Nat} {es:List E} {D:List (List Int)} {acc:List Bool}
theorem OkW.md (no:NetOk N es)(h:OkW es v l):∀m∈wdOf es l,0<=m/\m<5:=by
 intro m hm
 obtain ⟨e,he,rfl⟩:=List.mem_map.1 hm
 have h3:=h.mem e he
 have:=no.edge _ (b7_ (xs:=es) (i:=(e:Int)) oM oM)
 exact ⟨this.2.2.2.2.1,this.2.2.2.2.2⟩
theorem OkW.take (h:OkW es v l)(k:Nat):OkW es v (l.take k):=by
 intro i e h1
 have hi:=(List.getElem?_eq_some_iff.1 h1).1
 rw[List.length_take] at hi
 rw[List.getElem?_take,if_pos oM] at h1
 rw[List.take_take,Nat.min_eq_left oM]
 exact h i e h1
theorem OkW.range (no:NetOk N es){v:Nat}(hv:v<N)(h:OkW es v l):0<=atV es v l/\atV es v l<N:=by
 rcases List.eq_nil_or_concat l with rfl|⟨l',e,rfl⟩
 ·exact ⟨by show (0:Int)<=v; omega,by show (v:Int)<N; omega⟩
 ·rw[List.concat_eq_append] at h ⊢
  rw[q6_]
  have he:=h.mem e (by simp)
  have:=no.edge _ (b7_ (xs:=es) (i:=(e:Int)) oM oM)
  exact ⟨this.2.2.1,this.2.2.2.1⟩
theorem b9I (ok:DOk D acc)(no:NetOk N es){v:Nat}(hv:v<N)(h:OkW es v l):∀k,k<=l.length->
  Wk (hopA es D.length (onL es D)) (λx=>x=v*D.length) ((atV es v (l.take k)).toNat*D.length+(atS es D 0 (l.take k)).toNat) (l.take k) (atC es (l.take k))
 |0,_=>by
  simp only[List.take_zero]
  refine .nil ?_
  show (v:Int).toNat*D.length+(0:Int).toNat=v*D.length
  simp
 |k+1,hk=>by
  have ih:=b9I ok no hv h k oM
  obtain ⟨e,he⟩:∃e,l[k]?=some e:=⟨l[k],List.getElem?_eq_getElem oM⟩
  obtain ⟨h1,h2⟩:=h k e he
  have hr:=(h.take k).range no hv
  have hs:=a6w ok (wdOf es (l.take k)) 0 oM (by have:=ok.l0; omega) ((h.take k).md no)
  rw[<-a8I] at hs
  rw[a3O he,q6_,b5R,w8_]
  have hm:=b4A (s:=(atS es D 0 (l.take k)).toNat) ok no h1 oM
  have e1:src es D.length e (atS es D 0 (l.take k)).toNat=(atV es v (l.take k)).toNat*D.length+(atS es D 0 (l.take k)).toNat:=by rw[src,h2]
  have e2:dst es D e (atS es D 0 (l.take k)).toNat=(eg es e).to.toNat*D.length+(nx D (atS es D 0 (l.take k)) (eg es e).md).toNat:=by
   rw[dst,show (((atS es D 0 (l.take k)).toNat:Nat):Int)=atS es D 0 (l.take k) by omega]
  rw[e1,e2] at hm
  exact .snoc ih hm
theorem bv_lw (ok:DOk D acc)(no:NetOk N es){v u:Nat}(hv:v<N)(hu:u<N)(lc:LC (N*D.length) (hopA es D.length (onL es D)) (λx=>x=v*D.length) c) :
  LW es v u (λw=>gi acc (goS D 0 w)=true) (bv c acc (u*D.length) D.length):=by
 have main:∀l,OkW es v l->atV es v l=u->gi acc (goS D 0 (wdOf es l))=true->0<=bv c acc (u*D.length) D.length/\bv c acc (u*D.length) D.length<=atC es l:=by
  intro l h1 h2 h3
  have hw:=b9I ok no hv h1 l.length (Nat.le_refl _)
  rw[List.take_length,h2,a8I,Int.toNat_natCast] at hw
  have hs:=a6w ok (wdOf es l) 0 oM (by have:=ok.l0; omega) (h1.md no)
  have hx:=spotN (N:=N) (v:=u) (S:=D.length) (s:=(goS D 0 (wdOf es l)).toNat) hu oM
  have h4:0<=c (u*D.length+(goS D 0 (wdOf es l)).toNat)/\c (u*D.length+(goS D 0 (wdOf es l)).toNat)<=atC es l:=by
   rcases lc _ hx with ⟨k1,_,k2⟩|⟨_,k2⟩
   ·exact ⟨k1,k2 _ _ hw⟩
   ·exact absurd hw (k2 _ _)
  have h5:gi acc (((goS D 0 (wdOf es l)).toNat:Nat):Int)=true:=by rw[show (((goS D 0 (wdOf es l)).toNat:Nat):Int)=goS D 0 (wdOf es l) by omega]; exact h3
  rcases a8H (c:=c) (acc:=acc) (b:=u*D.length) D.length with ⟨k1,k2⟩|⟨q,k1,k2,k3,k4,k5⟩
  ·have:=k2 _ oM h5
   omega
  ·have:=k5 _ oM h5 h4.1
   omega
 refine ⟨?_,main⟩
 rcases a8H (c:=c) (acc:=acc) (b:=u*D.length) D.length with ⟨k1,k2⟩|⟨q,k1,k2,k3,k4,k5⟩
 ·exact .inl k1
 ·rcases lc _ (spotN hu k1) with ⟨p1,⟨l,p2⟩,p3⟩|⟨p1,_⟩
  ·obtain ⟨w1,w2,w3,w4,w5⟩:=b4x ok no hv p2
   obtain ⟨d1,d2⟩:=a8u (v:=u) (S:=D.length) (s:=q) k1
   rw[d1] at w2
   rw[d2,a8I] at w3
   exact .inr ⟨oM,l,w1,w2,by rw[w3]; exact k2,by rw[w4,k4]⟩
  ·omega
end
end Go.Gm.AZ
namespace Go.Gm
section
variable {δ:Nat->Nat->Nat} {S:Nat} {c x:Nat->Int} {acc:Nat->Bool}
def Alk (δ:Nat->Nat->Nat)(c:Nat->Int)(a b:Nat):Prop:=c a=c b/\∀m,m<5->c (δ a m)=c (δ b m)
theorem Alk.refl (a:Nat):Alk δ c a a:=⟨rfl,λ_ _=>rfl⟩
theorem Alk.symm (h:Alk δ c a b):Alk δ c b a:=⟨h.1.symm,λm hm=>(h.2 m hm).symm⟩
theorem Alk.trans (h:Alk δ c a b)(k:Alk δ c b d):Alk δ c a d:=⟨h.1.trans k.1,λm hm=>(h.2 m hm).trans (k.2 m hm)⟩
def Neu (c:Nat->Int)(i:Nat):Prop:=∀j,j<i->c j≠c i
noncomputable def cntP (p:Nat->Prop):Nat->Nat
 |0=>0
 |n+1=>cntP p n+(open Classical in if p n then 1 else 0)
theorem a7u {p:Nat->Prop}(h:p n):cntP p (n+1)=cntP p n+1:=by simp[cntP,h]
theorem a7v {p:Nat->Prop}(h:¬p n):cntP p (n+1)=cntP p n:=by simp[cntP,h]
theorem b2C (p:Nat->Prop):∀n,cntP p n<=n
 |0=>Nat.le_refl _
 |n+1=>by
  have:=b2C p n
  by_cases h:p n
  ·rw[a7u h]; omega
  ·rw[a7v h]; omega
theorem a7w {p q:Nat->Prop}:∀n,(∀i,i<n->p i->q i)->cntP p n<=cntP q n
 |0,_=>Nat.le_refl _
 |n+1,h=>by
  have:=a7w n λi hi=>h i oM
  by_cases hp:p n
  ·rw[a7u hp,a7u (h n oM hp)]; omega
  ·by_cases hq:q n
   ·rw[a7v hp,a7u hq]; omega
   ·rw[a7v hp,a7v hq]; omega
theorem b4N {p q:Nat->Prop}:∀n,(∀i,i<n->p i->q i)->cntP p n=cntP q n->∀i,i<n->q i->p i
 |0,_,_=>λi hi=>oM
 |n+1,h,e=>by
  have h1:=a7w n λi hi=>h i oM
  intro i hi hqi
  by_cases hp:p n
  ·rw[a7u hp,a7u (h n oM hp)] at e
   by_cases q:i=n
   ·subst q; exact hp
   ·exact b4N n (λi hi=>h i oM) oM i oM hqi
  ·by_cases hq:q n
   ·rw[a7v hp,a7u hq] at e; omega
   ·rw[a7v hp,a7v hq] at e
    by_cases q':i=n
    ·subst q'; exact absurd hqi hq
    ·exact b4N n (λi hi=>h i oM) e i oM hqi
theorem b4k {p q:Nat->Prop}(n:Nat)(h:∀i,i<n->(p i↔q i)):cntP p n=cntP q n:=
 Nat.le_antisymm (a7w n λi hi=>(h i hi).1) (a7w n λi hi=>(h i hi).2)
structure Finer (δ:Nat->Nat->Nat) (S:Nat) (c x:Nat->Int) (k:Nat):Prop where
 al:∀a b,a<S->b<S->(x a=x b↔Alk δ c a b)
 rng:∀a,a<S->0<=x a/\x a<k
 cnt:k=cntP (Neu x) S
theorem Finer.neu (f:Finer δ S c x k):∀i,i<S->Neu c i->Neu x i:=λi hi h j hj e=>h j hj ((f.al j i oM hi).1 e).1
theorem Finer.le (f:Finer δ S c x k):cntP (Neu c) S<=k:=by rw[f.cnt]; exact a7w S f.neu
theorem Finer.kS (f:Finer δ S c x k):k<=S:=by rw[f.cnt]; exact b2C _ _
theorem Finer.pos (f:Finer δ S c x k)(hS:0<S):0<k:=by have:=f.rng 0 hS; omega
theorem rep (x:Nat->Int):∀a,∃j,j<=a/\x j=x a/\Neu x j:=by
 intro a
 induction a using Nat.strongRecOn with
 |ind a ih=>
  by_cases h:Neu x a
  ·exact ⟨a,Nat.le_refl _,rfl,h⟩
  ·obtain ⟨j,h1⟩:=Classical.not_forall.1 h
   obtain ⟨hj,h2⟩:=Classical.not_imp.1 h1
   obtain ⟨r,r1,r2,r3⟩:=ih j hj
   exact ⟨r,oM,r2.trans (Classical.not_not.1 h2),r3⟩
theorem Finer.same (f:Finer δ S c x k)(hk:k=cntP (Neu c) S){a b:Nat}(ha:a<S)(hb:b<S)(h:c a=c b):x a=x b:=by
 have hn:=b4N S f.neu (hk.symm.trans f.cnt)
 obtain ⟨i,i1,i2,i3⟩:=rep x a
 obtain ⟨j,j1,j2,j3⟩:=rep x b
 have n1:=hn i oM i3
 have n2:=hn j oM j3
 have e1:=((f.al i a oM ha).1 i2).1
 have e2:=((f.al j b oM hb).1 j2).1
 have e3:c i=c j:=e1.trans (h.trans e2.symm)
 have:i=j:=by
  rcases Nat.lt_trichotomy i j with q|q|q
  ·exact absurd e3 (n2 i q)
  ·exact q
  ·exact absurd e3.symm (n1 j q)
 subst this
 exact i2.symm.trans j2
structure Stab (δ:Nat->Nat->Nat) (acc:Nat->Bool) (S:Nat) (x:Nat->Int):Prop where
 ac:∀a b,a<S->b<S->x a=x b->acc a=acc b
 to:∀a b,a<S->b<S->x a=x b->∀m,m<5->x (δ a m)=x (δ b m)
 rng:∀a,a<S->0<=x a/\x a<S
theorem Finer.stab (f:Finer δ S c x k)(hk:k=cntP (Neu c) S)(hδ:∀a m,a<S->m<5->δ a m<S)(hc:∀a b,a<S->b<S->c a=c b->acc a=acc b):Stab δ acc S x:=
 ⟨λa b ha hb h=>hc a b ha hb ((f.al a b ha hb).1 h).1,λa b ha hb h m hm=>f.same hk (hδ a m ha hm) (hδ b m hb hm) (((f.al a b ha hb).1 h).2 m hm),λa ha=>by have:=f.rng a ha; have:=f.kS; omega⟩
structure FI (δ:Nat->Nat->Nat) (c:Nat->Int) (F:Nat->Nat) (n:Nat) (x:Nat->Int) (i:Nat):Prop where
 le:∀r,r<n->F r<i/\x (F r)=r
 cl:∀j,j<i->0<=x j/\x j<n/\Alk δ c (F (x j).toNat) j
 ds:∀r s,r<n->s<n->Alk δ c (F r) (F s)->r=s
 ct:n=cntP (Neu x) i
theorem FI.zero (F:Nat->Nat)(x:Nat->Int):FI δ c F 0 x 0:=⟨λr h=>oM,λj h=>oM,λr s h=>oM,rfl⟩
theorem FI.old (f:FI δ c F n x i){k:Nat}(hk:k<n)(h:Alk δ c (F k) i):FI δ c F n (λj=>if j=i then (k:Int) else x j) (i+1):=by
 have hne:∀j,j<i->¬j=i:=λj h=>oM
 refine ⟨λr hr=>?_,λj hj=>?_,f.ds,?_⟩
 ·obtain ⟨h1,h2⟩:=f.le r hr
  exact ⟨oM,by rw[if_neg (hne _ h1)]; exact h2⟩
 ·by_cases q:j=i
  ·subst q
   simp only[if_true,Int.toNat_natCast]
   exact ⟨oM,oM,h⟩
  ·simp only[if_neg q]
   exact f.cl j oM
 ·have hc:cntP (Neu λj=>if j=i then (k:Int) else x j) i=cntP (Neu x) i:=b4k i λj hj=>by
   constructor
   ·intro h2 j' hj' e
    refine h2 j' hj' ?_
    simp only[if_neg (hne j' oM),if_neg (hne j hj)]; exact e
   ·intro h2 j' hj' e
    simp only[if_neg (hne j' oM),if_neg (hne j hj)] at e
    exact h2 j' hj' e
  rw[a7v,hc]
  ·exact f.ct
  ·intro h2
   obtain ⟨h3,h4⟩:=f.le k hk
   refine h2 (F k) h3 ?_
   simp only[if_neg (hne _ h3),if_true]; exact h4
theorem FI.neu (f:FI δ c F n x i)(h:∀k,k<n->¬Alk δ c (F k) i):FI δ c (λr=>if r=n then i else F r) (n+1) (λj=>if j=i then (n:Int) else x j) (i+1):=by
 have hne:∀j,j<i->¬j=i:=λj h=>oM
 have hnn:∀j,j<n->¬j=n:=λj h=>oM
 refine ⟨λr hr=>?_,λj hj=>?_,λr s hr hs h2=>?_,?_⟩
 ·by_cases q:r=n
  ·subst q; simp only[if_true]; exact ⟨oM,trivial⟩
  ·obtain ⟨h1,h2⟩:=f.le r oM
   simp only[if_neg q,if_neg (hne _ h1)]; exact ⟨oM,h2⟩
 ·by_cases q:j=i
  ·subst q
   simp only[if_true,Int.toNat_natCast]
   exact ⟨oM,oM,Alk.refl j⟩
  ·obtain ⟨h1,h2,h3⟩:=f.cl j oM
   simp only[if_neg q,if_neg (hnn (x j).toNat oM)]
   exact ⟨h1,oM,h3⟩
 ·by_cases q:r=n
  ·subst q
   by_cases q2:s=r
   ·exact q2.symm
   ·simp only[if_true,if_neg q2] at h2
    exact absurd h2.symm (h s oM)
  ·by_cases q2:s=n
   ·subst q2
    simp only[if_true,if_neg q] at h2
    exact absurd h2 (h r oM)
   ·simp only[if_neg q,if_neg q2] at h2
    exact f.ds r s oM oM h2
 ·have hc:cntP (Neu λj=>if j=i then (n:Int) else x j) i=cntP (Neu x) i:=b4k i λj hj=>by
   constructor
   ·intro h2 j' hj' e
    refine h2 j' hj' ?_
    simp only[if_neg (hne j' oM),if_neg (hne j hj)]; exact e
   ·intro h2 j' hj' e
    simp only[if_neg (hne j' oM),if_neg (hne j hj)] at e
    exact h2 j' hj' e
  rw[a7u,hc,<-f.ct]
  intro j hj e
  simp only[if_neg (hne j hj),if_true] at e
  have:=f.cl j hj
  omega
theorem FI.fin (f:FI δ c F n x S):Finer δ S c x n:=by
 refine ⟨λa b ha hb=>⟨λh=>?_,λh=>?_⟩,λa ha=>⟨(f.cl a ha).1,(f.cl a ha).2.1⟩,f.ct⟩
 ·have h1:=(f.cl a ha).2.2
  have h2:=(f.cl b hb).2.2
  rw[h] at h1
  exact h1.symm.trans h2
 ·obtain ⟨a1,a2,a3⟩:=f.cl a ha
  obtain ⟨b1,b2,b3⟩:=f.cl b hb
  have:=f.ds _ _ oM oM ((a3.trans h).trans b3.symm)
  omega
end
end Go.Gm
namespace Go.Gm.AZ
open Go Go.Gm
def dl (D:List (List Int))(a m:Nat):Nat:=(nx D a m).toNat
section
variable {D:List (List Int)} {acc:List Bool} {h:Heap}
theorem dl_lt (ok:DOk D acc){a m:Nat}(ha:a<D.length)(hm:m<5):dl D a m<D.length:=by
 have:=ok.to a m oM oM oM oM
 have:0<=nx D a m/\nx D a m<D.length:=this
 rw[dl]; omega
theorem cellN (ok:DOk D acc)(hD:Sl h 5 sD (D.map encR))(e:Ext h H){a m:Nat}(ha:a<D.length)(hm:m<5) :
  ∃p,idxA 5 1 (elP 5 sD a) (I m)=some p/\Gm.ld1 H p=some (I (dl D a m)):=by
 obtain ⟨p,p1,p2,-⟩:=cellA (H:=H) hD e (i:=(a:Int)) (j:=(m:Int)) oM oM oM oM
 have hr:=ok.row a oM oM
 have h2:0<=nx D a m/\nx D a m<D.length:=ok.to a m oM oM oM oM
 refine ⟨p,p1,p2.trans ?_⟩
 simp only[encR,List.getD_eq_getElem?_getD,List.getElem?_map,Int.toNat_natCast]
 have:=c1_ (xs:=gi D a) (i:=(m:Int)) oM oM
 rw[Int.toNat_natCast] at this
 rw[this]
 show some (I (nx D a m))=some (I ((nx D a m).toNat:Int))
 rw[show ((nx D a m).toNat:Int)=nx D a m by omega]
theorem c1p {sD sA sc:AV}{cs:List Int}{a b od:Nat}(ok:DOk D acc)(hD:Sl h 5 sD (D.map encR))(hc:Sl h 1 sc (cs.map encI))(lc:cs.length=D.length)(ha:a<D.length)(hb:b<D.length)(he:gf cs a=gf cs b)(rd:h[od]?=some (.cells ⟨[sD,sA],0,0,false⟩)) :
  ∀(d m:Nat),m+d=5->(∀m',m'<m->gf cs (dl D a m')=gf cs (dl D b m'))->
   WP (λp:Nat × Nat=>y3_ p.1 p.2 sc (I a) (I b) (.ptr od 0 2 0) (I m) h) λr h'=>h=h'/\∃t,r=.bool t/\(t=true↔Alk (dl D) (gf cs) a b):=by
 intro d
 induction d with
 |zero=>
  intro m h1 hm
  refine WP.rnd (a3K · · ..) ?_
  obtain rfl:m=5:=oM
  refine g0 ?_
  exact WP.ret ⟨rfl,true,rfl,λ_=>⟨he,hm⟩,λ_=>rfl⟩
 |succ d ih=>
  intro m h1 hm
  refine WP.rnd (a3K · · ..) ?_
  obtain ⟨p,p1,p2⟩:=cellN ok hD (Ext.refl h) ha (m:=m) oM
  obtain ⟨q,q1,q2⟩:=cellN ok hD (Ext.refl h) hb (m:=m) oM
  have x1:=dl_lt ok ha (m:=m) oM
  have x2:=dl_lt ok hb (m:=m) oM
  by_cases q:gi cs (dl D a m:Int)=gi cs (dl D b m:Int)
  ·simp -implicitDefEqProofs (disch:=first|assumption|omega|exact Ext.refl _|(simp only[gL,gA]<;>omega)|fail) only[cG,reduceIte,rd,hD.idxG,p1,p2,q1,q2,hc.idxG,hc.ld0,encI,q]
   refine ih (m+1) oM λm' hm'=>?_
   by_cases z:m'=m
   ·subst z; exact q
   ·exact hm m' oM
  ·simp -implicitDefEqProofs (disch:=first|assumption|omega|exact Ext.refl _|(simp only[gL,gA]<;>omega)|fail) only[cG,reduceIte,rd,hD.idxG,p1,p2,q1,q2,hc.idxG,hc.ld0,encI]
   exact WP.ret ⟨rfl,false,rfl,λz=>by simp at z,λz=>absurd (z.2 m oM) q⟩
theorem b8L {cs:List Int}{a b:Nat}(ok:DOk D acc)(hD:Sl h 5 sD (D.map encR))(hA:Sl h 1 sA (acc.map encB))(hc:Sl h 1 sc (cs.map encI))(lc:cs.length=D.length)(ha:a<D.length)(hb:b<D.length) :
  Tot tab a0j [.agg [sD,sA],sc,I a,I b] h λr h'=>Ext h h'/\∃t,r=.bool t/\(t=true↔Alk (dl D) (gf cs) a b):=by
 refine WP.tot (b0k · ..) ?_
 obtain ⟨h1,hh1⟩:∃h1,h1=h++[AObj.cells ⟨[sD,sA],0,0,false⟩]:=⟨_,rfl⟩
 have e1:Ext h h1:=by rw[hh1]; exact Ext.push _ _
 have rd:h1[h.length]?=some (.cells ⟨[sD,sA],0,0,false⟩):=by rw[hh1]; simp
 have hc1:=hc.ext e1
 by_cases q:gi cs (a:Int)=gi cs (b:Int)
 ·refine g5 hD.one hD.cells hA.one hA.cells hc.idxG ?_
  rw[<-hh1]
  refine g3 hc1.ld0 @encI.eq_1 @q ?_
  refine WP.ent ((c1p ok (hD.ext e1) hc1 lc ha hb q rd 5 0 oM λm hm=>oM).mono ?_) λi=>rfl
  rintro r h' ⟨rfl,t,rfl,ht⟩
  exact ⟨e1,t,rfl,ht⟩
 ·refine g5 hD.one hD.cells hA.one hA.cells hc.idxG ?_
  rw[<-hh1]
  refine g2 hc1.ld0 @encI.eq_1 ?_
  exact WP.ret ⟨e1,false,rfl,λz=>by simp at z,λz=>absurd z.1 q⟩
def encN (n:Nat):List AV:=[I n]
theorem b7O (F:List Nat)(i:Nat):gf (F++[i])=λr:Nat=>if r=F.length then i else gf F r:=by
 funext r
 simp only[gf,gi,Int.toNat_natCast,List.getD_eq_getElem?_getD]
 by_cases q:r<F.length
 ·rw[List.getElem?_append_left q,if_neg oM]
 ·by_cases q2:r=F.length
  ·subst q2; simp
  ·rw[if_neg q2,List.getElem?_eq_none (by simp; omega),List.getElem?_eq_none oM]
theorem c1q {cs:List Int}{F:List Nat}{i od:Nat}(ok:DOk D acc)(hD:Sl h 5 sD (D.map encR))(hA:Sl h 1 sA (acc.map encB))(hc:Sl h 1 sc (cs.map encI))(lc:cs.length=D.length)(rd:h[od]?=some (.cells ⟨[sD,sA],0,0,false⟩))(hF:Sl h 1 first (F.map encN))(hFS:∀r,r<F.length->gf F r<D.length)(hFl:F.length<=100000)(hi:i<D.length)(hQ:∀h' kk,Ext h h'->kk<=F.length->(kk<F.length->Alk (dl D) (gf cs) (gf F kk) i)->(∀k,k<kk->¬Alk (dl D) (gf cs) (gf F k) i)->
   WP (λp:Nat × Nat=>a1K p.1 p.2 sc (.ptr od 0 2 0) out first (I i) (I kk) h') Q) :
  ∀(d k:Nat) (h1:Heap),k+d=F.length->Ext h h1->(∀k',k'<k->¬Alk (dl D) (gf cs) (gf F k') i)->
   WP (λp:(Nat × Nat) × Nat=>y2_ p.1.1 p.1.2 p.2 sc (.ptr od 0 2 0) out first (I i) (I k) h1) Q:=by
 intro d
 induction d with
 |zero=>
  intro k h1 hk e hn
  refine WP.rnd (λi' j=>a3G i'.1 i'.2 j ..) ?_
  obtain rfl:k=F.length:=oM
  have hF1:=hF.ext e
  refine g1 hF1.lenG ?_
  exact WP.lv (hQ h1 F.length e (Nat.le_refl _) (λz=>oM) hn) λi j=>rfl
 |succ d ih=>
  intro k h1 hk e hn
  refine WP.rnd (λi' j=>a3G i'.1 i'.2 j ..) ?_
  have hF1:=hF.ext e
  have rd1:=e.get rd
  have hkF:k<F.length:=oM
  obtain ⟨f,hf⟩:∃f,gi F (k:Int)=f:=⟨_,rfl⟩
  have hfS:f<D.length:=hf▸hFS k hkF
  refine g6 hF1.lenG hF1.idxG hF1.ld0 @hf @encN.eq_1 @rd1 ?_
  refine WP.call (b8L ok (hD.ext e) (hA.ext e) (hc.ext e) lc hfS hi) ?_
  rintro _ h2 ⟨e2,t,rfl,ht⟩
  cases t with
  |true=>
   refine g0 ?_
   refine WP.lv (hQ h2 k (e.trans e2) oM (λ_=>?_) hn) λi j=>rfl
   rw[show gf F k=f from hf]; exact ht.1 rfl
  |false=>
   refine g0 ?_
   refine ih (k+1) h2 oM (e.trans e2) λk' hk'=>?_
   by_cases z:k'=k
   ·subst z
    rw[show gf F k'=f from hf]
    intro z2
    have:=ht.2 z2
    simp at this
   ·exact hn k' oM
theorem c1r {cs:List Int}{od oo:Nat}(ok:DOk D acc)(hD:Sl hb 5 sD (D.map encR))(hA:Sl hb 1 sA (acc.map encB))(hc:Sl hb 1 sc (cs.map encI))(lc:cs.length=D.length)(rd:hb[od]?=some (.cells ⟨[sD,sA],0,0,false⟩))(ho:hb.length<=oo) :
  ∀(d i:Nat) (h:Heap) (first:AV) (xs:List Int) (F:List Nat),i+d=D.length->Ext hb h->oo<h.length->Gr oo (oo+1) h 1 out (xs.map encI)->xs.length=D.length->Gr (oo+1) h.length h 1 first (F.map encN)->
   FI (dl D) (gf cs) (gf F) F.length (gf xs) i->
   WP (λp:Nat × Nat=>y1_ p.1 p.2 sc (.ptr od 0 2 0) out first (I i) h) λr h'=>Ext hb h'/\∃(k:Nat) (xs:List Int),r=.tup [out,I k]/\Gr oo (oo+1) h' 1 out (xs.map encI)/\xs.length=D.length/\Finer (dl D) D.length (gf cs) (gf xs) k:=by
 have l1:=ok.l1
 intro d
 induction d with
 |zero=>
  intro i h first xs F h1 e hoo g lx gF fi
  refine WP.rnd (a3H · · ..) ?_
  obtain rfl:i=D.length:=oM
  have hc1:=hc.ext e
  refine g2 hc1.lenG @lc ?_
  refine WP.lv (WP.congr (λk:Nat=>a8q k out first h) ?_) λi j=>rfl
  refine g1 gF.sl.lenG ?_
  exact WP.ret ⟨e,F.length,xs,rfl,g,lx,fi.fin⟩
 |succ d ih=>
  intro i h first xs F h1 e hoo g lx gF fi
  refine WP.rnd (a3H · · ..) ?_
  have hc1:=hc.ext e
  have hiD:i<D.length:=oM
  have hFn:F.length<=i:=by rw[fi.ct]; exact b2C _ _
  refine g2 hc1.lenG @lc ?_
  refine WP.ent (c1q ok (hD.ext e) (hA.ext e) hc1 lc (e.get rd) gF.sl (λr hr=>?_) oM hiD (λh2 kk e2 k1 k2 k3=>?_) F.length 0 h oM (Ext.refl _) λk' hk'=>oM) λi=>rfl
  ·have:=(fi.le r hr).1; omega
  ·refine WP.congr (λp=>a8p p.1 p.2 ..) ?_
   have gF2:=gF.ext e2
   have l2:=e2.len
   by_cases q:kk=F.length
   ·have hcz:gf (xs.set i (F.length:Int))=λj=>if j=i then (F.length:Int) else gf xs j:=gset oM _
    obtain ⟨s',h3,q1,q2,q3⟩:=Gr.append1 (bytes:=8) (gF2.low h2.length (Nat.le_refl _)) (v:=encN i) rfl oM oM (by simp; omega) oM (Nat.le_refl _)
    rw[a3_] at q1
    simp only[encN] at q1
    have l3:=q3.1
    have g3:=(g.ext e2).fr q3 (.inl (Nat.le_refl _))
    have e3:Ext hb h3:=q3.ext (e.trans e2) oM
    obtain ⟨h4,w1,w2,w3,w4⟩:=g3.write0 (i:=(i:Int)) (v:=I F.length) oM (by simp; omega) rfl rfl
    refine g2 gF2.sl.lenG @q1 ?_
    refine WP.congr (λp=>a3F p.1 p.2 ..) ?_
    rw[q]
    refine g2 g3.sl.idxG @w1 ?_
    refine WP.congr (λp=>a3E p.1 p.2 ..) ?_
    refine g0 ?_
    refine ih (i+1) h4 s' (xs.set i (F.length:Int)) (F++[i]) oM (w3.ext e3 oM) oM (w2.cong ?_) (by simpa using lx) (((q2.fr w3 (.inr (Nat.le_refl _))).mono (Nat.le_refl _) oM).cong ?_) ?_
    ·rw[List.map_set]; rfl
    ·rw[List.map_append]; rfl
    ·rw[b7O,hcz,List.length_append]
     exact fi.neu λk hk=>k3 k oM
   ·have hkk:kk<F.length:=oM
    have hcz:gf (xs.set i (kk:Int))=λj=>if j=i then (kk:Int) else gf xs j:=gset oM _
    have g3:=g.ext e2
    obtain ⟨h4,w1,w2,w3,w4⟩:=g3.write0 (i:=(i:Int)) (v:=I kk) oM (by simp; omega) rfl rfl
    refine g1 gF2.sl.lenG ?_
    refine WP.congr (λp=>a3F p.1 p.2 ..) ?_
    refine g2 g3.sl.idxG @w1 ?_
    refine WP.congr (λp=>a3E p.1 p.2 ..) ?_
    refine g0 ?_
    refine ih (i+1) h4 first (xs.set i (kk:Int)) F oM (w3.ext (e.trans e2) oM) oM (w2.cong ?_) (by simpa using lx) ((gF2.fr w3 (.inr (Nat.le_refl _))).mono (Nat.le_refl _) oM) ?_
    ·rw[List.map_set]; rfl
    ·rw[hcz]; exact fi.old hkk (k2 hkk)
theorem b8M {cs:List Int}(ok:DOk D acc)(hD:Sl h 5 sD (D.map encR))(hA:Sl h 1 sA (acc.map encB))(hc:Sl h 1 sc (cs.map encI))(lc:cs.length=D.length) :
  Tot tab e2_ [.agg [sD,sA],sc] h λr h'=>Ext h h'/\∃(out:AV) (k:Nat) (xs:List Int),r=.tup [out,I k]/\Gr h.length h'.length h' 1 out (xs.map encI)/\xs.length=D.length/\Finer (dl D) D.length (gf cs) (gf xs) k:=by
 refine WP.tot (b0j · ..) ?_
 have l1:=ok.l1
 obtain ⟨h1,hh1⟩:∃h1,h1=h++[AObj.cells ⟨[sD,sA],0,0,false⟩]:=⟨_,rfl⟩
 have e1:Ext h h1:=by rw[hh1]; exact Ext.push _ _
 have rd:h1[h.length]?=some (.cells ⟨[sD,sA],0,0,false⟩):=by rw[hh1]; simp
 have hl1:h1.length=h.length+1:=by rw[hh1]; simp
 obtain ⟨s2,h2,a2,g2,e2,_,l2⟩:=g0_ (zero:=[I 0]) (sz:=1) (bytes:=8) (n:=(D.length:Int)) h1 oM oM oM rfl rfl
 have hre:List.replicate (D.length:Int).toNat [I 0]=(List.replicate D.length (0:Int)).map encI:=by simp[encI,I]
 rw[hre] at g2
 refine g6 hD.one hD.cells hA.one hA.cells hc.lenG @lc ?_
 rw[<-hh1]
 refine g1 @a2 ?_
 refine WP.ent ((c1r ok (hD.ext e1) (hA.ext e1) (hc.ext e1) lc rd (Nat.le_refl _) D.length 0 h2 .nils _ [] oM e2 oM g2 (by simp) (Gr.nil ..) (FI.zero ..)).mono ?_) λi=>rfl
 rintro r h3 ⟨e3,k,xs,rfl,g3,lx,f3⟩
 exact ⟨e1.trans e3,s2,k,xs,rfl,(g3.low _ (Nat.le_refl _)).mono oM (Nat.le_refl _),lx,f3⟩
end
end Go.Gm.AZ
namespace Go.Gm.AZ
open Go Go.Gm
section
variable {D:List (List Int)} {acc:List Bool} {h:Heap}
theorem b9J {od:Nat}(ok:DOk D acc)(hD:Sl hb 5 sD (D.map encR))(hA:Sl hb 1 sA (acc.map encB))(rd:hb[od]?=some (.cells ⟨[sD,sA],0,0,false⟩)) :
  ∀(d:Nat) (n:Nat) (h:Heap) (sc:AV) (cs:List Int),D.length+1<=d+n->Ext hb h->Gr hb.length h.length h 1 sc (cs.map encI)->cs.length=D.length->(n=0\/n=cntP (Neu (gf cs)) D.length)->(∀a b,a<D.length->b<D.length->gf cs a=gf cs b->gi acc (a:Int)=gi acc (b:Int))->
   WP (λp:Nat × Nat=>v5_ p.1 p.2 (.ptr od 0 2 0) sc (I n) h) λr h'=>Ext hb h'/\∃xs:List Int,Gr hb.length h'.length h' 1 r (xs.map encI)/\xs.length=D.length/\Stab (dl D) (λa:Nat=>gi acc (a:Int)) D.length (gf xs):=by
 have l0:=ok.l0
 have l1:=ok.l1
 intro d
 induction d with
 |zero=>
  intro n h sc cs h1 e g lc hn hac
  have:n<=D.length:=by
   rcases hn with rfl|rfl
   ·omega
   ·exact b2C _ _
  omega
 |succ d ih=>
  intro n h sc cs h1 e g lc hn hac
  refine WP.rnd (a7L · · ..) ?_
  have rd1:=e.get rd
  simp -implicitDefEqProofs (disch:=first|assumption|omega|(simp only[gL,gA]<;>omega)|fail) only[cG,reduceIte,rd1]
  refine WP.call (b8M ok (hD.ext e) (hA.ext e) g.sl lc) ?_
  rintro _ h2 ⟨e2,out,k,xs,rfl,g2,lx,f2⟩
  have l2:=e.len
  have g2':Gr hb.length h2.length h2 1 out (xs.map encI):=g2.mono l2 (Nat.le_refl _)
  by_cases q:k=n
  ·simp -implicitDefEqProofs (disch:=first|assumption|omega|(simp only[gL,gA]<;>omega)|fail) only[cG,reduceIte,a4_,a5_]
   refine WP.ret ⟨e.trans e2,xs,g2',lx,?_⟩
   refine f2.stab ?_ (λa m ha hm=>dl_lt ok ha hm) hac
   rcases hn with hn|hn
   ·have:=f2.pos l0; omega
   ·omega
  ·have hkn:n<k:=by
    rcases hn with hn|hn
    ·have:=f2.pos l0; omega
    ·have:=f2.le; omega
   simp -implicitDefEqProofs (disch:=first|assumption|omega|(simp only[gL,gA]<;>omega)|fail) only[cG,reduceIte,a4_,a5_]
   refine ih k h2 out xs (by omega) (e.trans e2) g2' lx (.inr f2.cnt) fun a b ha hb hab=>hac a b ha hb ((f2.al a b ha hb).1 hab).1
theorem b9K {od:Nat}(ok:DOk D acc)(hD:Sl hb 5 sD (D.map encR))(hA:Sl hb 1 sA (acc.map encB))(rd:hb[od]?=some (.cells ⟨[sD,sA],0,0,false⟩)) :
  ∀(d i:Nat) (h:Heap) (cs:List Int),i+d=D.length->Ext hb h->hb.length+1=h.length->Gr hb.length (hb.length+1) h 1 sc (cs.map encI)->cs.length=D.length->(∀a:Nat,a<D.length->gf cs a=if a<i/\gi acc (a:Int)=true then 1 else 0)->
   WP (λp:Nat × Nat=>n5_ p.1 p.2 (.ptr od 0 2 0) sc (I i) h) λr h'=>Ext hb h'/\∃xs:List Int,Gr hb.length h'.length h' 1 r (xs.map encI)/\xs.length=D.length/\Stab (dl D) (λa:Nat=>gi acc (a:Int)) D.length (gf xs):=by
 have l0:=ok.l0
 have l1:=ok.l1
 have la:=ok.la
 intro d
 induction d with
 |zero=>
  intro i h cs h1 e hl g lc hv
  refine WP.rnd (a2U · · ..) ?_
  obtain rfl:i=D.length:=oM
  refine g2 g.sl.lenG @lc ?_
  refine WP.lv (WP.congr (λk:Nat=>a7M k (.ptr od 0 2 0) sc h) ?_) λi j=>rfl
  refine WP.ent (b9J ok hD hA rd (D.length+1) 0 h sc cs oM e (g.low _ (Nat.le_refl _)) lc (.inl rfl) λa b ha hb hab=>?_) λi=>rfl
  rw[hv a ha,hv b hb] at hab
  by_cases qa:gi acc (a:Int)=true
  ·by_cases qb:gi acc (b:Int)=true
   ·rw[qa,qb]
   ·rw[if_pos ⟨ha,qa⟩,if_neg λz=>qb z.2] at hab; omega
  ·by_cases qb:gi acc (b:Int)=true
   ·rw[if_neg λz=>qa z.2,if_pos ⟨hb,qb⟩] at hab; omega
   ·rw[Bool.not_eq_true] at qa qb; rw[qa,qb]
 |succ d ih=>
  intro i h cs h1 e hl g lc hv
  refine WP.rnd (a2U · · ..) ?_
  have hA1:=hA.ext e
  have rd1:=e.get rd
  have hiD:i<D.length:=oM
  obtain ⟨b,hb'⟩:∃b,gi acc (i:Int)=b:=⟨_,rfl⟩
  cases b with
  |true=>
   obtain ⟨h4,w1,w2,w3,w4⟩:=g.write0 (i:=(i:Int)) (v:=I 1) oM (by simp; omega) rfl rfl
   refine g9 g.sl.lenG @lc @rd1 hA1.idxG hA1.ld0 @hb' @encB.eq_1 g.sl.idxG @w1 ?_
   refine ih (i+1) h4 (cs.set i 1) oM (w3.ext e (Nat.le_refl _)) oM (w2.cong ?_) (by simpa using lc) λa ha=>?_
   ·rw[List.map_set]; rfl
   ·rw[show gf (cs.set i 1)=_ from gset oM 1]
    by_cases q:a=i
    ·subst q; simp[hb']
    ·simp only[if_neg q]
     rw[show gi cs (a:Int)=gf cs a from rfl,hv a ha]
     by_cases q2:a<i
     ·simp[q2,show a<i+1 by omega]
     ·simp[q2,show ¬a<i+1 by omega]
  |false=>
   refine g7 g.sl.lenG @lc @rd1 hA1.idxG hA1.ld0 @hb' @encB.eq_1 ?_
   refine ih (i+1) h cs oM e hl g lc λa ha=>?_
   rw[hv a ha]
   by_cases q:a=i
   ·subst q; simp[hb']
   ·by_cases q2:a<i
    ·simp[q2,show a<i+1 by omega]
    ·simp[q2,show ¬a<i+1 by omega]
theorem b7w (ok:DOk D acc)(hD:Sl h 5 sD (D.map encR))(hA:Sl h 1 sA (acc.map encB)) :
  Tot tab j5_ [.agg [sD,sA]] h λr h'=>Ext h h'/\∃xs:List Int,Gr h.length h'.length h' 1 r (xs.map encI)/\xs.length=D.length/\Stab (dl D) (λa:Nat=>gi acc (a:Int)) D.length (gf xs):=by
 refine WP.tot (a9B · ..) ?_
 have l1:=ok.l1
 obtain ⟨h1,hh1⟩:∃h1,h1=h++[AObj.cells ⟨[sD,sA],0,0,false⟩]:=⟨_,rfl⟩
 have e1:Ext h h1:=by rw[hh1]; exact Ext.push _ _
 have rd:h1[h.length]?=some (.cells ⟨[sD,sA],0,0,false⟩):=by rw[hh1]; simp
 have hl1:h1.length=h.length+1:=by rw[hh1]; simp
 obtain ⟨s2,h2,a2,g2,e2,_,l2⟩:=g0_ (zero:=[I 0]) (sz:=1) (bytes:=8) (n:=(D.length:Int)) h1 oM oM oM rfl rfl
 have hre:List.replicate (D.length:Int).toNat [I 0]=(List.replicate D.length (0:Int)).map encI:=by simp[encI,I]
 rw[hre] at g2
 refine g5 hD.one hD.cells hA.one hA.cells hD.lenG ?_
 rw[<-hh1]
 refine g1 @a2 ?_
 refine WP.ent ((b9K ok (hD.ext e1) (hA.ext e1) rd D.length 0 h2 _ oM e2 oM g2 (by simp) λa ha=>?_).mono ?_) λi=>rfl
 ·rw[if_neg oM]
  exact w2_ oM oM
 ·rintro r h3 ⟨e3,xs,g3,lx,f3⟩
  exact ⟨e1.trans e3,xs,g3.mono oM (Nat.le_refl _),lx,f3⟩
end
end Go.Gm.AZ
namespace Go.Gm
section
variable {δ:Nat->Nat->Nat} {S n:Nat} {x rk:Nat->Int} {s:Nat->Nat} {acc:Nat->Bool}
structure PMs (x:Nat->Int) (S:Nat) (rk:Nat->Int) (s:Nat->Nat) (n:Nat):Prop where
 lt:∀j,j<n->s j<S
 rel:∀v:Nat,v<S->(rk v=0/\∀j,j<n->x (s j)≠v)\/∃j:Nat,j<n/\rk v=j+1/\x (s j)=v
 ct:un S (λv=>rk v-1)+n=S
theorem PMs.le (p:PMs x S rk s n):n<=S:=by
 have:=p.ct
 have:=m1_ S (λv=>rk v-1)
 omega
theorem PMs.has (p:PMs x S rk s n){v:Nat}(hv:v<S)(h:rk v≠0):∃j:Nat,j<n/\rk v=j+1/\x (s j)=v:=by
 rcases p.rel v hv with ⟨h1,_⟩|h1
 ·exact absurd h1 h
 ·exact h1
theorem PMs.neu (p:PMs x S rk s n){v to:Nat}(hv:v<S)(ht:to<S)(hx:x to=v)(h:rk v=0):PMs x S (up rk v (n+1)) (λr=>if r=n then to else s r) (n+1):=by
 have hnn:∀j,j<n->¬j=n:=λj h=>oM
 refine ⟨λj hj=>?_,λw hw=>?_,?_⟩
 ·by_cases q:j=n
  ·simp only[if_pos q]; exact ht
  ·simp only[if_neg q]; exact p.lt j oM
 ·by_cases q:w=v
  ·subst q
   refine .inr ⟨n,oM,?_,?_⟩
   ·simp[up]
   ·simp only[if_true]; exact hx
  ·rcases p.rel w hw with ⟨h1,h2⟩|⟨j,h1,h2,h3⟩
   ·refine .inl ⟨by rw[up,if_neg q]; exact h1,λj hj=>?_⟩
    by_cases q2:j=n
    ·simp only[if_pos q2]; rw[hx]; omega
    ·simp only[if_neg q2]; exact h2 j oM
   ·refine .inr ⟨j,oM,by rw[up,if_neg q]; exact h2,?_⟩
    simp only[if_neg (hnn j h1)]; exact h3
 ·have e:(λw=>up rk v (n+1) w-1)=up (λw=>rk w-1) v n:=by
   funext w
   try simp only[up]
   split<;>omega
  rw[e,un_up hv oM,if_pos oM]
  have:=p.ct
  omega
def POw (δ:Nat->Nat->Nat)(acc:Nat->Bool)(x:Nat->Int)(s:Nat->Nat)(n:Nat)(nxt:Nat->Nat->Int)(ac:Nat->Bool)(i:Nat):Prop:=
 ∀a,a<i->ac a=acc (s a)/\∀m,m<5->∃j:Nat,j<n/\nxt a m=j/\x (s j)=x (δ (s a) m)
def PRw (δ:Nat->Nat->Nat)(x:Nat->Int)(s:Nat->Nat)(n:Nat)(a:Nat)(nx:Nat->Int)(m:Nat):Prop:=∀m',m'<m->∃j:Nat,j<n/\nx m'=j/\x (s j)=x (δ a m')
theorem POw.grow {nxt:Nat->Nat->Int}{ac:Nat->Bool}{i:Nat}(p:POw δ acc x s n nxt ac i)(hi:i<=n)(to:Nat):POw δ acc x (λr=>if r=n then to else s r) (n+1) nxt ac i:=by
 intro a ha
 obtain ⟨h1,h2⟩:=p a ha
 refine ⟨by simp only[if_neg (show ¬a=n by omega)]; exact h1,λm hm=>?_⟩
 obtain ⟨j,k1,k2,k3⟩:=h2 m hm
 refine ⟨j,oM,k2,?_⟩
 simp only[if_neg (show ¬a=n by omega),if_neg (show ¬j=n by omega)]
 exact k3
theorem PRw.grow (p:PRw δ x s n a nx m)(to:Nat):PRw δ x (λr=>if r=n then to else s r) (n+1) a nx m:=by
 intro m' hm
 obtain ⟨j,k1,k2,k3⟩:=p m' hm
 refine ⟨j,oM,k2,?_⟩
 simp only[if_neg (show ¬j=n by omega)]
 exact k3
end
end Go.Gm
namespace Go.Gm.AZ
open Go Go.Gm
section
variable {D:List (List Int)} {acc:List Bool} {h:Heap}
structure MI (S:Nat) (hb h:Heap) (rank states sN sA:AV) (oS oN oA:Nat) (rk:List Int) (Ss:List Nat) (D':List (List Int)) (acc':List Bool):Prop where
 eb:Ext hb h
 ro:h[hb.length]?=some (.cells ⟨[sN,sA],0,0,false⟩)
 gr:Gr (hb.length+1) (hb.length+2) h 1 rank (rk.map encI)
 gs:Gr oS (oS+1) h 1 states (Ss.map encN)
 gn:Gr oN (oN+1) h 5 sN (D'.map encR)
 ga:Gr oA (oA+1) h 1 sA (acc'.map encB)
 ps:states≠.nils->hb.length+2<=oS/\oS<h.length
 pn:sN≠.nils->hb.length+2<=oN/\oN<h.length/\(states≠.nils->oN≠oS)
 pa:sA≠.nils->hb.length+2<=oA/\oA<h.length/\(states≠.nils->oA≠oS)/\(sN≠.nils->oA≠oN)
 lr:rk.length=S
 bl:hb.length+2<=h.length
section
variable {S:Nat} {hb:Heap} {rank states sN sA:AV} {oS oN oA:Nat} {rk:List Int} {Ss:List Nat} {D':List (List Int)} {acc':List Bool}
theorem MI.ext (p:MI S hb h rank states sN sA oS oN oA rk Ss D' acc')(e:Ext h h'):MI S hb h' rank states sN sA oS oN oA rk Ss D' acc':=by
 have l:=e.len
 refine ⟨p.eb.trans e,e.get p.ro,p.gr.ext e,p.gs.ext e,p.gn.ext e,p.ga.ext e,λz=>?_,λz=>?_,λz=>?_,p.lr,by have:=p.bl; omega⟩
 ·have:=p.ps z; omega
 ·have:=p.pn z; exact ⟨this.1,oM,this.2.2⟩
 ·have:=p.pa z; exact ⟨this.1,oM,this.2.2⟩
theorem MI.frs (p:MI S hb h rank states sN sA oS oN oA rk Ss D' acc'){o:Nat}(f:FrS (λq=>q=o) h h')(ho:hb.length+2<=o)(h1:states≠.nils->o≠oS)(h2:sN≠.nils->o≠oN)(h3:sA≠.nils->o≠oA):MI S hb h' rank states sN sA oS oN oA rk Ss D' acc':=by
 have l:=f.len
 have bl:=p.bl
 have nl:∀{lo:Nat} {sz:Nat} {s:AV} {xs:List (List AV)},Gr lo (lo+1) h sz s xs->(s≠.nils->o≠lo)->Gr lo (lo+1) h' sz s xs:=by
  intro lo sz s xs g hq
  by_cases q:s=.nils
  ·subst q
   have:=g.isNil
   subst this
   exact Gr.nil ..
  ·exact g.frs f λr r1 r2=>by have:=hq q; omega
 refine ⟨f.ext p.eb λq q1=>oM,by rw[f.get oM oM]; exact p.ro,p.gr.frs f λq q1 q2=>oM,nl p.gs h1,nl p.gn h2,nl p.ga h3,λz=>?_,λz=>?_,λz=>?_,p.lr,oM⟩
 ·have:=p.ps z; omega
 ·have:=p.pn z; exact ⟨this.1,oM,this.2.2⟩
 ·have:=p.pa z; exact ⟨this.1,oM,this.2.2⟩
theorem MI.addS (p:MI S hb h rank states sN sA oS oN oA rk Ss D' acc')(to:Nat)(hl:Ss.length<=100000) :
  ∃s' h' o',apnd 1 8 states (.sl h.length 0 1 1 none 0) (h++[AObj.cells ⟨[I to],0,0,false⟩])=some (s',h')/\MI S hb h' rank s' sN sA o' oN oA rk (Ss++[to]) D' acc'/\FrS (λq=>states≠.nils/\q=oS) h h'/\(s'≠.nils->(o'=oS/\states≠.nils)\/h.length<=o'):=by
 have b:=Gr.lit (h:=h) (sz:=1) (v:=encN to) rfl
 rw[a3_] at b
 have e1:Ext h (h++[AObj.cells ⟨encN to,0,0,false⟩]):=Ext.push _ _
 obtain ⟨s',h',o',q1,q2,q3,q4⟩:=(p.gs.ext e1).appP (λz=>by have:=p.ps z; simp; omega) b.sl oM (bytes:=8) oM (by simp; omega)
 have f:=(FrS.ofExt (D:=λq=>states≠.nils/\q=oS) e1).trans q4
 have l:=f.len
 have bl:=p.bl
 have l1:(h++[AObj.cells ⟨encN to,0,0,false⟩]).length=h.length+1:=by simp
 have ps:=p.ps
 have pn:=p.pn
 have pa:=p.pa
 have q3':s'≠.nils->(o'=oS/\states≠.nils)\/h.length<=o':=λz=>by
  rcases (q3 z).1 with q|q
  ·exact .inl q
  ·exact .inr oM
 have nl:∀{lo:Nat} {sz:Nat} {s:AV} {xs:List (List AV)},Gr lo (lo+1) h sz s xs->(s≠.nils->states≠.nils->lo≠oS)->Gr lo (lo+1) h' sz s xs:=by
  intro lo sz s xs g hq
  by_cases q:s=.nils
  ·subst q
   have:=g.isNil
   subst this
   exact Gr.nil ..
  ·exact g.frs f λr r1 r2 z=>by have:=hq q z.1; omega
 refine ⟨s',h',o',q1,⟨f.ext p.eb λq z1 z2=>by have:=ps z2.1; omega,by rw[f.get (λz=>by have:=ps z.1; omega) oM]; exact p.ro,p.gr.frs f λq z1 z2 z3=>by have:=ps z3.1; omega,q2.cong (by simp[encN]),nl p.gn λz1 z2=>(pn z1).2.2 z2,nl p.ga λz1 z2=>(pa z1).2.2.1 z2,λz=>?_,λz=>?_,λz=>?_,p.lr,oM⟩,f,q3'⟩
 ·have h1:=(q3 z).2
  rcases q3' z with ⟨h2,h3⟩|h2
  ·have:=ps h3; omega
  ·omega
 ·have h1:=pn z
  refine ⟨h1.1,oM,λz2=>?_⟩
  rcases q3' z2 with ⟨h2,h3⟩|h2
  ·have:=h1.2.2 h3; omega
  ·omega
 ·have h1:=pa z
  refine ⟨h1.1,oM,λz2=>?_,h1.2.2.2⟩
  rcases q3' z2 with ⟨h2,h3⟩|h2
  ·have:=h1.2.2.1 h3; omega
  ·omega
theorem MI.setRk (p:MI S hb h rank states sN sA oS oN oA rk Ss D' acc'){v:Nat}(hv:v<S)(k:Int) :
  ∃h',stN 1 h (elP 1 rank v) (I k)=some h'/\MI S hb h' rank states sN sA oS oN oA (rk.set v k) Ss D' acc'/\FrS (λq=>q=hb.length+1) h h':=by
 obtain ⟨h',w1,w2,w3,w4⟩:=p.gr.write0 (i:=(v:Int)) (v:=I k) oM (by rw[List.length_map,p.lr]; omega) rfl rfl
 have f:FrS (λq=>q=hb.length+1) h h':=w3.s.mono λq z1 z2=>oM
 have bl:=p.bl
 have nl:∀{lo:Nat} {sz:Nat} {s:AV} {xs:List (List AV)},Gr lo (lo+1) h sz s xs->(s≠.nils->hb.length+2<=lo)->Gr lo (lo+1) h' sz s xs:=by
  intro lo sz s xs g hq
  by_cases q:s=.nils
  ·subst q
   have:=g.isNil
   subst this
   exact Gr.nil ..
  ·exact g.frs f λr r1 r2=>by have:=hq q; omega
 refine ⟨h',w1,⟨f.ext p.eb λq z1 z2=>oM,by rw[f.get oM oM]; exact p.ro,w2.cong (by rw[List.map_set]; rfl),nl p.gs λz=>(p.ps z).1,nl p.gn λz=>(p.pn z).1,nl p.ga λz=>(p.pa z).1,?_,?_,?_,by rw[List.length_set]; exact p.lr,oM⟩,f⟩
 ·rw[w4]; exact p.ps
 ·rw[w4]; exact p.pn
 ·rw[w4]; exact p.pa
theorem MI.row (p:MI S hb h rank states sN sA oS oN oA rk Ss D' acc'){r:List Int}(hr:r.length=5)(hl:D'.length<=100000) :
  ∃s' h' o',apnd 5 40 sN (.sl h.length 0 1 5 none 0) (h++[AObj.cells ⟨r.map I,0,0,false⟩])=some (s',h')/\s'.one=true/\s'.cells=[s']/\h'[hb.length]?=some (.cells ⟨[sN,sA],0,0,false⟩)/\
   MI S hb (h'.set hb.length (.cells ⟨[s',sA],0,0,false⟩)) rank states s' sA oS o' oA rk Ss (D'++[r]) acc':=by
 have b:=Gr.lit (h:=h) (sz:=5) (v:=r.map I) (by simp[hr])
 rw[a3_] at b
 have e1:Ext h (h++[AObj.cells ⟨r.map I,0,0,false⟩]):=Ext.push _ _
 obtain ⟨s',h',o',q1,q2,q3,q4⟩:=(p.gn.ext e1).appP (λz=>by have:=p.pn z; simp; omega) b.sl oM (bytes:=40) oM (by simp; omega)
 have f:=(FrS.ofExt (D:=λq=>sN≠.nils/\q=oN) e1).trans q4
 have l:=f.len
 have bl:=p.bl
 have ps:=p.ps
 have pn:=p.pn
 have pa:=p.pa
 have l1:(h++[AObj.cells ⟨r.map I,0,0,false⟩]).length=h.length+1:=by simp
 have q3':s'≠.nils->(o'=oN/\sN≠.nils)\/h.length<=o':=λz=>by
  rcases (q3 z).1 with q|q
  ·exact .inl q
  ·exact .inr oM
 have ro:=p.ro
 have ro':h'[hb.length]?=some (.cells ⟨[sN,sA],0,0,false⟩):=by rw[f.get (λz=>by have:=pn z.1; omega) oM]; exact ro
 have nl:∀{lo:Nat} {sz:Nat} {s:AV} {xs:List (List AV)},Gr lo (lo+1) h sz s xs->(s≠.nils->sN≠.nils->oN≠lo)->Gr lo (lo+1) h' sz s xs:=by
  intro lo sz s xs g hq
  by_cases q:s=.nils
  ·subst q
   have:=g.isNil
   subst this
   exact Gr.nil ..
  ·exact g.frs f λr r1 r2 z=>by have:=hq q z.1; omega
 have st:∀{lo:Nat} {sz:Nat} {s:AV} {xs:List (List AV)} (x:AObj),Gr lo (lo+1) h' sz s xs->(s≠.nils->hb.length<lo)->Gr lo (lo+1) (h'.set hb.length x) sz s xs:=by
  intro lo sz s xs x g hq
  by_cases q:s=.nils
  ·subst q
   have:=g.isNil
   subst this
   exact Gr.nil ..
  ·exact g.set (.inl (hq q)) _
 have q5:∀z:s'≠.nils,hb.length+2<=o'/\o'<h'.length:=λz=>by
  have h1:=(q3 z).2
  rcases q3' z with ⟨h2,h3⟩|h2
  ·have:=pn h3; omega
  ·omega
 refine ⟨s',h',o',q1,q2.sl.one,q2.sl.cells,ro',⟨(f.ext p.eb λq z1 z2=>by have:=pn z2.1; omega).setr (Nat.le_refl _) _,a0_ oM,(p.gr.frs f λq z1 z2 z3=>by have:=pn z3.1; omega).set (.inl oM) _,st _ (nl p.gs λz1 z2=>(pn z2).2.2 z1) λz=>by have:=ps z; omega,st _ (q2.cong (by simp[encR])) λz=>by have:=q5 z; omega,st _ (nl p.ga λz1 z2=>((pa z1).2.2.2 z2).symm) λz=>by have:=pa z; omega,?_,?_,?_,p.lr,by simp; omega⟩⟩
 ·intro z; have:=ps z; simp; omega
 ·intro z
  have h1:=q5 z
  refine ⟨h1.1,by simp; exact h1.2,λz2=>?_⟩
  rcases q3' z with ⟨h2,h3⟩|h2
  ·have:=(pn h3).2.2 z2; omega
  ·have:=ps z2; omega
 ·intro z
  have h1:=pa z
  refine ⟨h1.1,by simp; omega,h1.2.2.1,λz2=>?_⟩
  rcases q3' z2 with ⟨h2,h3⟩|h2
  ·have:=h1.2.2.2 h3; omega
  ·omega
theorem MI.accept (p:MI S hb h rank states sN sA oS oN oA rk Ss D' acc')(b:Bool)(hl:acc'.length<=100000) :
  ∃s' h' o',apnd 1 1 sA (.sl h.length 0 1 1 none 0) (h++[AObj.cells ⟨[.bool b],0,0,false⟩])=some (s',h')/\s'.one=true/\s'.cells=[s']/\h'[hb.length]?=some (.cells ⟨[sN,sA],0,0,false⟩)/\
   MI S hb (h'.set hb.length (.cells ⟨[sN,s'],0,0,false⟩)) rank states sN s' oS oN o' rk Ss D' (acc'++[b]):=by
 have b0:=Gr.lit (h:=h) (sz:=1) (v:=encB b) rfl
 rw[a3_] at b0
 have e1:Ext h (h++[AObj.cells ⟨encB b,0,0,false⟩]):=Ext.push _ _
 obtain ⟨s',h',o',q1,q2,q3,q4⟩:=(p.ga.ext e1).appP (λz=>by have:=p.pa z; simp; omega) b0.sl oM (bytes:=1) oM (by simp; omega)
 have f:=(FrS.ofExt (D:=λq=>sA≠.nils/\q=oA) e1).trans q4
 have l:=f.len
 have bl:=p.bl
 have ps:=p.ps
 have pn:=p.pn
 have pa:=p.pa
 have l1:(h++[AObj.cells ⟨encB b,0,0,false⟩]).length=h.length+1:=by simp
 have q3':s'≠.nils->(o'=oA/\sA≠.nils)\/h.length<=o':=λz=>by
  rcases (q3 z).1 with q|q
  ·exact .inl q
  ·exact .inr oM
 have ro:=p.ro
 have ro':h'[hb.length]?=some (.cells ⟨[sN,sA],0,0,false⟩):=by rw[f.get (λz=>by have:=pa z.1; omega) oM]; exact ro
 have nl:∀{lo:Nat} {sz:Nat} {s:AV} {xs:List (List AV)},Gr lo (lo+1) h sz s xs->(s≠.nils->sA≠.nils->oA≠lo)->Gr lo (lo+1) h' sz s xs:=by
  intro lo sz s xs g hq
  by_cases q:s=.nils
  ·subst q
   have:=g.isNil
   subst this
   exact Gr.nil ..
  ·exact g.frs f λr r1 r2 z=>by have:=hq q z.1; omega
 have st:∀{lo:Nat} {sz:Nat} {s:AV} {xs:List (List AV)} (x:AObj),Gr lo (lo+1) h' sz s xs->(s≠.nils->hb.length<lo)->Gr lo (lo+1) (h'.set hb.length x) sz s xs:=by
  intro lo sz s xs x g hq
  by_cases q:s=.nils
  ·subst q
   have:=g.isNil
   subst this
   exact Gr.nil ..
  ·exact g.set (.inl (hq q)) _
 have q5:∀z:s'≠.nils,hb.length+2<=o'/\o'<h'.length:=λz=>by
  have h1:=(q3 z).2
  rcases q3' z with ⟨h2,h3⟩|h2
  ·have:=pa h3; omega
  ·omega
 refine ⟨s',h',o',q1,q2.sl.one,q2.sl.cells,ro',⟨(f.ext p.eb λq z1 z2=>by have:=pa z2.1; omega).setr (Nat.le_refl _) _,a0_ oM,(p.gr.frs f λq z1 z2 z3=>by have:=pa z3.1; omega).set (.inl oM) _,st _ (nl p.gs λz1 z2=>(pa z2).2.2.1 z1) λz=>by have:=ps z; omega,st _ (nl p.gn λz1 z2=>(pa z2).2.2.2 z1) λz=>by have:=pn z; omega,st _ (q2.cong (by simp[encB])) λz=>by have:=q5 z; omega,?_,?_,?_,p.lr,by simp; omega⟩⟩
 ·intro z; have:=ps z; simp; omega
 ·intro z; have:=pn z; exact ⟨this.1,by simp; omega,this.2.2⟩
 ·intro z
  have h1:=q5 z
  refine ⟨h1.1,by simp; exact h1.2,λz2=>?_,λz2=>?_⟩
  ·rcases q3' z with ⟨h2,h3⟩|h2
   ·have:=(pa h3).2.2.1 z2; omega
   ·have:=ps z2; omega
  ·rcases q3' z with ⟨h2,h3⟩|h2
   ·have:=(pa h3).2.2.2 z2; omega
   ·have:=pn z2; omega
end
end
end Go.Gm.AZ
