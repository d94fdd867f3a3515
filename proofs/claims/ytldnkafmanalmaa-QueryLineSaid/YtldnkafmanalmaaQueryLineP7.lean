/- A part of the proof (GmAQV, GmAQX, GmAQY, GmAQZ, GmAQMA, GmAQMB, GmAQBK, GmAQBM, GmAQBN, GmAQBO, GmAQBP, GmAQBQ, GmAQBR, GmAQBS, GmAQBT, GmAQBU, GmAQBV, GmAQCA, GmAQCB, GmPt, GmAQCC, GmAQCD, GmPu, GmAQCE, GmAQCF, GmAQCG, GmSb, GmWd, GmLg, GmLh). -/
import Derived.Test.YtldnkafmanalmaaQueryLineP6
set_option linter.unusedVariables false
set_option linter.unusedSimpArgs false
set_option linter.unusedSectionVars false
namespace Go.Gm.AQ
open Go Go.Gm
def rowL (c:Nat->Int)(S v:Nat):List Int:=(List.range S).map fun s=>c (v*S+s)
theorem i5_ (c:Nat->Int)(S v:Nat):(rowL c S v).length=S:=by simp[rowL]
theorem b3g {S v s v' s':Nat}(h:s<S)(h':s'<S)(e:v*S+s=v'*S+s'):v=v'/\s=s':=by
 have h1:(v*S+s) / S=v:=by rw[Nat.mul_comm,Nat.mul_add_div oM,Nat.div_eq_of_lt h,Nat.add_zero]
 have h2:(v'*S+s') / S=v':=by rw[Nat.mul_comm,Nat.mul_add_div oM,Nat.div_eq_of_lt h',Nat.add_zero]
 have:v=v':=by rw[<-h1,<-h2,e]
 subst this
 exact ⟨rfl,oM⟩
theorem c3d {c:Nat->Int}{S V t:Nat}(ht:t<S)(x:Int)(v:Nat):rowL (up c (V*S+t) x) S v=if v=V then (rowL c S V).set t x else rowL c S v:=by
 apply List.ext_getElem
 ·split<;>simp[rowL]
 intro s h1 h2
 have hs:s<S:=by simpa [rowL] using h1
 by_cases q:v=V
 ·subst q
  simp only[if_true,rowL,List.getElem_map,List.getElem_range,List.getElem_set,up]
  by_cases q2:t=s
  ·subst q2; simp
  ·rw[if_neg q2,if_neg (fun z=>q2 oM)]
 ·simp only[if_neg q,rowL,List.getElem_map,List.getElem_range,up]
  rw[if_neg fun z=>q (b3g hs ht z).1]
theorem Fam.write0 {κ:Type}[DecidableEq κ]{W:Nat->Prop}{h:Heap}{A:κ->Prop}{S:κ->AV}{X:κ->List (List AV)}(f:Fam W h 1 A S X){t:κ}(ht:A t){i:Nat}(hi:i<(X t).length){v:AV}(hv:v.cells.length=1)(h1:v.cells.all AV.one=true) :
  ∃h',stN 1 h (elP 1 (S t) i) v=some h'/\Fam W h' 1 A S (fun t'=>if t'=t then (X t).set i v.cells else X t')/\FrS W h h':=by
 obtain ⟨ob,f1,f2⟩:=f
 obtain ⟨g,g2⟩:=f1 t ht
 have hn:S t≠.nils:=g.nnil (by intro q; rw[q] at hi; simp at hi)
 obtain ⟨w1,w2⟩:=g2 hn
 obtain ⟨h',k1,k2,k3,k4⟩:=g.write0 (i:=(i:Int)) oM oM hv h1
 have fr:FrS (fun o=>o=ob t) h h':=k3.s.mono fun o z1 z2=>oM
 refine ⟨h',k1,⟨ob,fun t' ht'=>?_,f2⟩,fr.mono fun o _ z=>z▸w1⟩
 show Gr (ob t') (ob t'+1) h' 1 (S t') (if t'=t then (X t).set i v.cells else X t')/\_
 by_cases q:t'=t
 ·subst q
  rw[if_pos rfl]
  refine ⟨k2.cong (by rw[Int.toNat_natCast]),fun z=>⟨w1,oM⟩⟩
 ·rw[if_neg q]
  obtain ⟨g',g2'⟩:=f1 t' ht'
  by_cases z:S t'=.nils
  ·refine ⟨?_,fun q=>absurd z q⟩
   have hx:X t'=[]:=by rw[z] at g'; exact g'.isNil
   rw[hx,z]; exact Gr.nil ..
  ·refine ⟨g'.frs fr fun o q1 q2 q3=>f2 t' t ht' ht q z hn oM,fun q=>⟨(g2' q).1,by have:=(g2' q).2; omega⟩⟩
structure MatW (W:Nat->Prop) (oc:Nat) (c7:AV) (N S:Nat) (rows:List AV) (c:Nat->Int) (h:Heap):Prop where
 gc:Sl h 1 c7 (rows.map fun s=>[s])
 oc:∀h',FrS W h h'->Sl h' 1 c7 (rows.map fun s=>[s])
 lr:rows.length=N
 f:Fam W h 1 (fun v:Nat=>v<N) (fun v:Nat=>gi rows (v:Int)) (fun v=>(rowL c S v).map encI)
theorem MatW.row {W:Nat->Prop}{oc:Nat}{c7:AV}{N S:Nat}{rows:List AV}{c:Nat->Int}{h:Heap}(w:MatW W oc c7 N S rows c h){v:Nat}(hv:v<N):Sl h 1 (gi rows (v:Int)) ((rowL c S v).map encI):=w.f.sl hv
theorem MatW.set {W:Nat->Prop}{oc:Nat}{c7:AV}{N S:Nat}{rows:List AV}{c:Nat->Int}{h:Heap}(w:MatW W oc c7 N S rows c h){v s:Nat}(hv:v<N)(hs:s<S)(x:Int) :
  ∃h',stN 1 h (elP 1 (gi rows (v:Int)) s) (I x)=some h'/\MatW W oc c7 N S rows (up c (v*S+s) x) h'/\FrS W h h':=by
 obtain ⟨h',k1,k2,k3⟩:=Fam.write0 w.f (t:=v) hv (i:=s) (by rw[List.length_map,i5_]; exact hs) (v:=I x) rfl rfl
 refine ⟨h',k1,⟨w.oc h' k3,fun h2 f2=>w.oc h2 (k3.trans f2),w.lr,k2.congr fun t ht=>⟨rfl,?_⟩⟩,k3⟩
 show (rowL (up c (v*S+s) x) S t).map encI=if t=v then _ else _
 rw[c3d hs]
 by_cases q:t=v
 ·rw[if_pos q,if_pos q,List.map_set]; rfl
 ·rw[if_neg q,if_neg q]
theorem MatW.ext {W:Nat->Prop}{oc:Nat}{c7:AV}{N S:Nat}{rows:List AV}{c:Nat->Int}{h h':Heap}(w:MatW W oc c7 N S rows c h)(e:Ext h h'):MatW W oc c7 N S rows c h':=
 ⟨w.oc h' (FrS.ofExt e),fun h2 f2=>w.oc h2 ((FrS.ofExt e).trans f2),w.lr,w.f.frs (D:=fun _=>False) (FrS.ofExt e) fun _ _ _ z=>z⟩
section
variable {h0:Heap} {N:Nat} {es:List E} {D:List (List Int)} {acc:List Bool}
abbrev eg (es:List E)(i:Nat):E:=gi es (i:Int)
def src (es:List E)(S i s:Nat):Nat:=(eg es i).fr.toNat*S+s
def dst (es:List E)(D:List (List Int))(i s:Nat):Nat:=(eg es i).to.toNat*D.length+(nx D s (eg es i).md).toNat
def Rx (es:List E)(D:List (List Int))(c:Nat->Int)(i s:Nat):Prop:=0<=c (src es D.length i s)->0<=c (dst es D i s)/\c (dst es D i s)<=c (src es D.length i s)+(eg es i).co
def SatUp (es:List E)(D:List (List Int))(c:Nat->Int)(i s:Nat):Prop:=(∀i' s',i'<i->s'<D.length->Rx es D c i' s')/\∀s',s'<s->Rx es D c i s'
structure PI (es:List E) (D:List (List Int)) (N:Nat) (st:Nat->Prop) (b:Bool) (c0 c:Nat->Int) (i s:Nat):Prop where
 r:RI (N*D.length) 2147483647 (hopA es D.length (onL es D)) st c
 p:(b=false/\c=c0/\SatUp es D c i s)\/(b=true/\mu (N*D.length) 2147483647 c<mu (N*D.length) 2147483647 c0)
theorem b4A (ok:DOk D acc)(no:NetOk N es){i s:Nat}(hi:i<es.length)(hs:s<D.length):(dst es D i s,i,(eg es i).co)∈hopA es D.length (onL es D) (src es D.length i s):=by
 have he:0<=(eg es i).fr/\(eg es i).fr<N/\0<=(eg es i).to/\(eg es i).to<N/\0<=(eg es i).md/\(eg es i).md<5:=no.edge _ (b7_ (xs:=es) (i:=(i:Int)) oM oM)
 have ht:0<=nx D s (eg es i).md/\nx D s (eg es i).md<D.length:=ok.to s (eg es i).md oM oM he.2.2.2.2.1 he.2.2.2.2.2
 have hsp:=b3g (S:=D.length) (v:=(eg es i).fr.toNat) (s:=s) (v':=src es D.length i s / D.length) (s':=src es D.length i s % D.length) hs (Nat.mod_lt _ oM) (by
  rw[Nat.mul_comm (src es D.length i s / D.length),Nat.div_add_mod]; rfl)
 refine List.mem_map.2 ⟨((eg es i).to,nx D s (eg es i).md,(i:Int)),List.mem_map.2 ⟨(i:Int),?_,?_⟩,?_⟩
 ·refine q8_.2 ⟨oM,oM,?_⟩
  rw[<-hsp.1]
  simp only[beq_iff_eq]
  show (eg es i).fr=_
  omega
 ·rw[<-hsp.2]
 ·simp only[hopOf,dst]
  congr 1
  have h1:(eg es i).to=((eg es i).to.toNat:Int):=oM
  have h2:nx D s (eg es i).md=((nx D s (eg es i).md).toNat:Int):=oM
  generalize (eg es i).to.toNat=a at h1
  generalize (nx D s (eg es i).md).toNat=b at h2
  rw[h1,h2,<-Int.natCast_mul,<-Int.natCast_add,Int.toNat_natCast]
theorem b4B (ok:DOk D acc)(no:NetOk N es){x y e:Nat}{w:Int}(hx:x<N*D.length)(h:(y,e,w)∈hopA es D.length (onL es D) x):∃i s,i<es.length/\s<D.length/\x=src es D.length i s/\y=dst es D i s/\w=(eg es i).co:=by
 obtain ⟨q1,q2⟩:=dm hx
 obtain ⟨t,ht,h1⟩:=List.mem_map.1 h
 obtain ⟨k,hk,rfl⟩:=List.mem_map.1 ht
 obtain ⟨k0,k1,k2⟩:=q8_.1 hk
 obtain ⟨i,rfl⟩:∃i:Nat,k=i:=⟨k.toNat,oM⟩
 simp only[beq_iff_eq] at k2
 have he:0<=(eg es i).fr/\(eg es i).fr<N/\0<=(eg es i).to/\(eg es i).to<N/\0<=(eg es i).md/\(eg es i).md<5:=no.edge _ (b7_ (xs:=es) (i:=(i:Int)) oM oM)
 have htt:0<=nx D ((x % D.length:Nat):Int) (eg es i).md/\nx D ((x % D.length:Nat):Int) (eg es i).md<D.length:=ok.to _ (eg es i).md (Int.natCast_nonneg _) (Int.ofNat_lt.2 q2) he.2.2.2.2.1 he.2.2.2.2.2
 refine ⟨i,x % D.length,oM,q2,?_,?_⟩
 ·have:(eg es i).fr.toNat=x / D.length:=by
   show (gi es (i:Int)).fr.toNat=_
   rw[k2,Int.toNat_natCast]
  rw[src,this,Nat.mul_comm,Nat.div_add_mod]
 ·simp only[hopOf] at h1
  cases h1
  refine ⟨?_,rfl⟩
  rw[dst]
  have h1:(eg es i).to=((eg es i).to.toNat:Int):=oM
  have h2:nx D ((x % D.length:Nat):Int) (eg es i).md=((nx D ((x % D.length:Nat):Int) (eg es i).md).toNat:Int):=oM
  generalize (eg es i).to.toNat=a at h1
  generalize (nx D ((x % D.length:Nat):Int) (eg es i).md).toNat=b at h2
  show ((eg es i).to*(D.length:Int)+nx D ((x % D.length:Nat):Int) (eg es i).md).toNat=_
  rw[h1,h2,<-Int.natCast_mul,<-Int.natCast_add,Int.toNat_natCast]
theorem PI.done {st:Nat->Prop}{b:Bool}{c0 c:Nat->Int}(ok:DOk D acc)(no:NetOk N es)(co:COk es)(hg:GOk (N*D.length) 2147483647 (hopA es D.length (onL es D)))(hst:∀x,st x->x<N*D.length)(p:PI es D N st false c0 c es.length 0):LC (N*D.length) (hopA es D.length (onL es D)) st c:=by
 obtain ⟨_,_,hs,_⟩:=p.p.resolve_right (by simp)
 refine p.r.lst hg hst fun x hx h0 y e w hm=>?_
 obtain ⟨i,s,i1,s1,rfl,rfl,rfl⟩:=b4B ok no hx hm
 exact hs i s i1 s1 h0
theorem PI.keep {st:Nat->Prop}{b:Bool}{c0 c:Nat->Int}{i s:Nat}(p:PI es D N st b c0 c i s)(h:Rx es D c i s):PI es D N st b c0 c i (s+1):=by
 refine ⟨p.r,p.p.imp (fun ⟨z1,z2,z3,z4⟩=>⟨z1,z2,z3,fun s' hs'=>?_⟩) fun z=>z⟩
 by_cases q:s'=s
 ·subst q; exact h
 ·exact z4 s' oM
theorem PI.next {st:Nat->Prop}{b:Bool}{c0 c:Nat->Int}{i:Nat}(p:PI es D N st b c0 c i D.length):PI es D N st b c0 c (i+1) 0:=by
 refine ⟨p.r,p.p.imp (fun ⟨z1,z2,z3,z4⟩=>⟨z1,z2,fun i' s' hi hs=>?_,fun s' hs=>oM⟩) fun z=>z⟩
 by_cases q:i'=i
 ·subst q; exact z4 s' hs
 ·exact z3 i' s' oM hs
end
end Go.Gm.AQ
namespace Go.Gm.AQ
open Go Go.Gm
section
variable {N:Nat} {es:List E} {D:List (List Int)} {acc:List Bool}
end
end Go.Gm.AQ
namespace Go.Gm.AQ
open Go Go.Gm
section
variable {N:Nat} {es:List E} {D:List (List Int)} {acc:List Bool}
end
end Go.Gm.AQ
namespace Go.Gm.AQ
open Go Go.Gm
def BW (oc:Nat)(c7:AV)(N:Nat)(k:Nat->Nat)(h:Heap):Prop:=
 ∃rows:List AV,Gr oc (oc+1) h 1 c7 (rows.map fun s=>[s])/\rows.length=N/\Fam (fun o=>oc<o) h 1 (fun v:Nat=>v<N) (fun v:Nat=>gi rows (v:Int)) (fun v=>(List.replicate (k v) (-1:Int)).map encI)
theorem BW.ext {oc:Nat}{c7:AV}{N:Nat}{k:Nat->Nat}{h h':Heap}(b:BW oc c7 N k h)(e:Ext h h'):BW oc c7 N k h':=by
 obtain ⟨rows,g,l,f⟩:=b
 exact ⟨rows,g.ext e,l,f.frs (D:=fun _=>False) (FrS.ofExt e) fun _ _ _ z=>z⟩
theorem BW.congr {oc:Nat}{c7:AV}{N:Nat}{k k':Nat->Nat}{h:Heap}(b:BW oc c7 N k h)(e:∀v,v<N->k' v=k v):BW oc c7 N k' h:=by
 obtain ⟨rows,g,l,f⟩:=b
 exact ⟨rows,g,l,f.congr fun v hv=>⟨rfl,by rw[e v hv]⟩⟩
theorem BW.step {oc:Nat}{c7:AV}{N:Nat}{k:Nat->Nat}{h:Heap}(b:BW oc c7 N k h){v:Nat}(hv:v<N)(hk:k v<=100000)(hoc:oc<h.length) :
  ∃s1 s2 h2 h3,idxS 1 c7 (I v)=some (elP 1 c7 v)/\ld1 h (elP 1 c7 v)=some s1/\apnd 1 8 s1 (.sl h.length 0 1 1 none 0) (h++[AObj.cells ⟨[I (-1)],0,0,false⟩])=some (s2,h2)/\stN 1 h2 (elP 1 c7 v) s2=some h3/\
   BW oc c7 N (fun t=>if t=v then k t+1 else k t) h3/\FrS (fun o=>oc<=o) h h3:=by
 obtain ⟨rows,g,lr,f⟩:=b
 have b1:Sl (h++[AObj.cells ⟨[I (-1)],0,0,false⟩]) 1 (.sl h.length 0 1 1 none 0) [[I (-1)]]:=by
  have:=(Gr.lit (h:=h) (sz:=1) (v:=[I (-1)]) rfl).sl
  rwa [a3_] at this
 have e1:Ext h (h++[AObj.cells ⟨[I (-1)],0,0,false⟩]):=Ext.push _ _
 have f':=f.frs (D:=fun _=>False) (FrS.ofExt e1) fun _ _ _ z=>z
 obtain ⟨s2,h2,k1,k2,k3,k4⟩:=f'.append (bytes:=8) (t:=v) hv b1 (by simp) oM oM (by simp; omega)
 have g2:=(g.ext e1).frs k4 fun o z1 z2=>oM
 have c2:s2.cells=[s2]:=by
  have:=(k3.sl (t:=v) hv).cells
  simpa using this
 obtain ⟨h3,n1,n2,n3,n4⟩:=g2.write0 (i:=(v:Int)) oM (by rw[List.length_map]; omega) (v:=s2) (by rw[c2]; rfl) (by rw[c2]; simp[k2])
 have hlq:=k4.len
 have gs:=g.sl
 refine ⟨gi rows (v:Int),s2,h2,h3,gs.idxG oM oM,?_,k1,n1,?_,?_⟩
 ·have:=gs.ld0 (Ext.refl _) (i:=(v:Int)) oM oM oM
  exact this
 ·refine ⟨rows.set v s2,n2.cong ?_,by rw[List.length_set]; exact lr,?_⟩
  ·rw[c2,List.map_set,Int.toNat_natCast]
  ·have f3:=k3.frs n3.s (fun o z1 z2 z3=>by rcases z2 with z2|z2<;>simp only[List.length_append] at *<;>omega)
   refine (f3.mono fun o z1 z2=>?_).congr fun t ht=>⟨?_,?_⟩
   ·rcases z2 with z2|z2
    ·exact z2
    ·simp only[List.length_append] at z2; omega
   ·show gi (rows.set v s2) (t:Int)=if t=v then s2 else gi rows (t:Int)
    rw[giset2 oM]
   ·show (List.replicate (if t=v then k t+1 else k t) (-1:Int)).map encI=if t=v then (List.replicate (k v) (-1:Int)).map encI++[[I (-1)]] else (List.replicate (k t) (-1:Int)).map encI
    by_cases qt:t=v
    ·subst qt
     rw[if_pos rfl,if_pos rfl,List.replicate_succ',List.map_append]; rfl
    ·rw[if_neg qt,if_neg qt]
 ·have z1:FrS (fun o=>oc<=o) h (h++[AObj.cells ⟨[I (-1)],0,0,false⟩]):=FrS.ofExt e1
  exact (z1.trans (k4.mono fun o _ z=>Nat.le_of_lt z)).trans (n3.s.mono fun o _ z=>z.1)
section
variable {N:Nat} {es:List E} {D:List (List Int)} {acc:List Bool}
def kk (S V s t:Nat):Nat:=if t<V then S else if t=V then s else 0
end
end Go.Gm.AQ
namespace Go.Gm
theorem Gr.frsN {D:Nat->Prop}{o:Nat}{h h':Heap}{sz:Nat}{s:AV}{xs:List (List AV)}(a:Gr o (o+1) h sz s xs)(f:FrS D h h')(hd:s≠.nils->¬D o):Gr o (o+1) h' sz s xs:=by
 by_cases hn:s=.nils
 ·subst hn
  have:=Gr.isNil a
  subst this
  exact Gr.nil ..
 ·exact Gr.frs a f fun p z1 z2=>by rw[show p=o by omega]; exact hd hn
end Go.Gm
namespace Go.Gm.AQ
open Go Go.Gm
structure MK (h0:Heap) (n i:Nat) (D:List (List Int)) (acc:List Bool) (sD sA:AV) (oD oA:Nat) (h:Heap):Prop where
 ex:Ext h0 h
 r6:h[h0.length]?=some (.cells ⟨[.nils,.nils],0,0,false⟩)
 r7:h[h0.length+1]?=some (.cells ⟨[sD,sA],0,0,false⟩)
 gD:Gr oD (oD+1) h 5 sD (D.map encR)
 gA:Gr oA (oA+1) h 1 sA (acc.map encB)
 pD:sD≠.nils->h0.length+2<=oD/\oD<h.length
 pA:sA≠.nils->h0.length+2<=oA/\oA<h.length
 ne:sD≠.nils->sA≠.nils->oD≠oA
 lD:D.length=i
 lA:acc.length=i
 row:∀s:Int,0<=s->s<i->(gi D s).length=5
 to:∀s m:Int,0<=s->s<i->0<=m->m<5->0<=gi (gi D s) m/\gi (gi D s) m<n
theorem MK.frs {h0 h h':Heap}{n i:Nat}{D:List (List Int)}{acc:List Bool}{sD sA:AV}{oD oA:Nat}(w:MK h0 n i D acc sD sA oD oA h){P:Nat->Prop}(f:FrS P h h')(hp:∀o,o<h.length->¬P o):MK h0 n i D acc sD sA oD oA h':=by
 have hl:=f.len
 have b6:=(List.getElem?_eq_some_iff.1 w.r6).1
 have b7:=(List.getElem?_eq_some_iff.1 w.r7).1
 exact ⟨f.ext w.ex fun o z1 z2=>hp o oM z2,by rw[f.get (hp _ b6) b6]; exact w.r6,by rw[f.get (hp _ b7) b7]; exact w.r7,w.gD.frsN f fun z=>hp _ (w.pD z).2,w.gA.frsN f fun z=>hp _ (w.pA z).2,fun z=>⟨(w.pD z).1,by have:=(w.pD z).2; omega⟩,fun z=>⟨(w.pA z).1,by have:=(w.pA z).2; omega⟩,w.ne,w.lD,w.lA,w.row,w.to⟩
end Go.Gm.AQ
namespace Go.Gm.AQ
open Go Go.Gm
theorem b0q {o m:Nat}(hm:m<5):idxA 5 1 (.ptr o 0 5 0) (I m)=some (.ptr o m (m+1) 0):=by
 simp only[idxA,I]
 rw[if_pos ⟨oM,oM,oM⟩]
 simp
theorem stP {h:Heap}{o m:Nat}{cs:List AV}{x:Int}(hr:h[o]?=some (.cells ⟨cs,0,0,false⟩)):stN 1 h (.ptr o m (m+1) 0) (I x)=some (h.set o (.cells ⟨cs.set m (I x),0,0,false⟩)):=by
 have c1:(I x).cells=[I x]:=rfl
 have c2:(I x).one=true:=rfl
 simp only[stN,wrc,hr,c1,List.length_cons,List.length_nil,List.all_cons,List.all_nil,c2,setAll]
 simp
end Go.Gm.AQ
namespace Go.Gm.AQ
open Go Go.Gm
section
variable {h0 h:Heap} {g:AV} {N:Nat} {es:List E} {D:List (List Int)} {acc:List Bool}
end
end Go.Gm.AQ
namespace Go.Gm.AQ
open Go Go.Gm
section
variable {h0 h:Heap} {g:AV} {N:Nat} {es:List E} {D:List (List Int)} {acc:List Bool}
theorem a8u {S v s:Nat}(hs:s<S):(v*S+s) / S=v/\(v*S+s) % S=s:=by
 have h:=b3g (S:=S) (v:=v) (s:=s) (v':=(v*S+s) / S) (s':=(v*S+s) % S) hs (Nat.mod_lt _ oM) (by
  rw[Nat.mul_comm ((v*S+s) / S),Nat.div_add_mod])
 exact ⟨h.1.symm,h.2.symm⟩
end
end Go.Gm.AQ
namespace Go.Gm.AQ
open Go Go.Gm
end Go.Gm.AQ
namespace Go.Gm.AQ
open Go Go.Gm
def SB (W:Nat->Prop)(h:Heap)(os:Nat)(g:AV)(fh:FuncId)(n:Nat)(A:Nat->List Hop)(st:Nat->Prop)(c:Nat->Int)(m:Nat->Option Int)(ls:Int):Prop:=
 ∃(q sc se sf:AV) (oc oe ov:Nat) (cs ds fs:List Int) (M:List (Option Int)) (id k:Nat) (rk:Nat->Nat),SW W h os g (.fn fh [] []) q sc se sf oc oe ov n cs ds fs M ls/\DI n 2147483647 A st id [] (gf cs) (gf M) (gf ds) (gf fs) rk k/\un n (gf cs)+(k:Int)=n/\
  c=gf cs/\m=gf M
def LsOk (n:Nat)(m:Nat->Option Int)(ls:Int):Prop:=0<=ls/\ls<=4000000000000000000/\∀x:Nat,x<n->∀v,m x=some v->ls<=v
section
variable {W:Nat->Prop} {h0 h h':Heap} {os n:Nat} {g:AV} {fh:FuncId} {A:Nat->List Hop} {st:Nat->Prop} {c:Nat->Int} {m:Nat->Option Int} {ls:Int}
theorem SB.frs (s:SB W h os g fh n A st c m ls){D:Nat->Prop}(f:FrS D h h')(hd:∀o,o<h.length->W o->¬D o):SB W h' os g fh n A st c m ls:=by
 obtain ⟨q,sc,se,sf,oc,oe,ov,cs,ds,fs,M,id,k,rk,w,r⟩:=s
 exact ⟨q,sc,se,sf,oc,oe,ov,cs,ds,fs,M,id,k,rk,w.frs f hd,r⟩
theorem SB.mono (s:SB W h os g fh n A st c m ls){W':Nat->Prop}(hw:∀o,o<h.length->W o->W' o):SB W' h os g fh n A st c m ls:=by
 obtain ⟨q,sc,se,sf,oc,oe,ov,cs,ds,fs,M,id,k,rk,w,r⟩:=s
 exact ⟨q,sc,se,sf,oc,oe,ov,cs,ds,fs,M,id,k,rk,w.mono hw,r⟩
theorem SB.hop (s:SB W h os g fh n A st c m ls){x:Nat}(hx:x<n)(h0:0<=c x){y e':Nat}{w:Int}(hh:(y,e',w)∈A x)(hy:y<n):0<=fnd c m y/\fnd c m y<=c x+w:=by
 obtain ⟨q,sc,se,sf,oc,oe,ov,cs,ds,fs,M,id,k,rk,w,d,u,rfl,rfl⟩:=s
 exact c3Y d hx h0 hh hy
theorem SB.walk (s:SB W h os g fh n A st c m ls){x:Nat}(hx:x<n)(h0:0<=fnd c m x):∃l,Wk A st x l (fnd c m x):=by
 obtain ⟨q,sc,se,sf,oc,oe,ov,cs,ds,fs,M,id,k,rk,w,d,u,rfl,rfl⟩:=s
 exact c2u d hx h0
theorem SB.bnd (s:SB W h os g fh n A st c m ls)(hn2:n<=1000000){x:Nat}(hx:x<n):fnd c m x<=4000000000000000000:=by
 obtain ⟨q,sc,se,sf,oc,oe,ov,cs,ds,fs,M,id,k,rk,w,d,u,rfl,rfl⟩:=s
 have h1:=c3Z oM d hx
 have h2:=m1_ n (gf cs)
 omega
variable {N:Nat} {es:List E} {D:List (List Int)} {acc:List Bool} {L:Int->Int->List Tr}
theorem SB.step (e0:Ext h0 h)(hW:∀o,W o->h0.length<=o)(gv:GV h0 g N es D acc)(ok:DOk D acc)(co:COk es)(hN:N<=100000)(hn:n=N*D.length)(hn2:n<=1000000)(hh:HopsOk h0 g N es D fh L)(hst:∀x,st x->x<n)(s:SB W h os g fh n (hopA es D.length L) st c m ls) :
  Tot tab h7_ [.ptr os 0 7 0] h fun r h'=>FrS W h h'/\
   ((r=.tup [I 0,.bool false]/\(∀x:Nat,x<n->m x=none)/\SB (fun o=>W o\/h.length<=o) h' os g fh n (hopA es D.length L) st c m ls)\/
    ∃id key m2,id<n/\c id<0/\0<=key/\r=.tup [I id,.bool true]/\SB (fun o=>W o\/h.length<=o) h' os g fh n (hopA es D.length L) st (up c id key) m2 key/\LsOk n m2 key):=by
 obtain ⟨q,sc,se,sf,oc,oe,ov,cs,ds,fs,M,id0,k,rk,w,d,u,rfl,rfl⟩:=s
 refine (b1Q e0 hW gv ok co hN hn hn2 hh hst w d u).mono ?_
 rintro r h2 ⟨f2,⟨rfl,hm,w2⟩|⟨id,key,ds2,fs2,M2,rk2,i1,i2,i3,rfl,w2,d2,k2⟩⟩
 ·exact ⟨f2,.inl ⟨rfl,hm,q,sc,se,sf,oc,oe,ov,cs,ds,fs,M,id0,k,rk,w2,d,u,rfl,rfl⟩⟩
 ·obtain ⟨q1,q2,_⟩:=d.que id i1 key i2
  have hcs:gf (cs.set id key)=up (gf cs) id key:=gset (by rw[w.lc]; exact i1) key
  have hid:gf (cs.set id key) id=key:=by rw[hcs]; exact if_pos rfl
  refine ⟨f2,.inr ⟨id,key,gf M2,i1,oM,q2,rfl,⟨q,sc,se,sf,oc,oe,ov,cs.set id key,ds2,fs2,M2,id,k+1,rk2,w2,d2,k2,hcs.symm,rfl⟩,q2,?_,fun x hx v hv=>?_⟩⟩
  ·have h5:=d2.bnd id i1 key (.inl ⟨by rw[hid]; exact q2,hid⟩)
   have h6:=m1_ n (gf (cs.set id key))
   omega
  have:=d2.ord id x i1 hx (by rw[hid]; exact q2) v hv
  rw[hid] at this
  exact this
end
end Go.Gm.AQ
namespace Go.Gm.AQ
open Go Go.Gm
structure RowsB (h:Heap) (ot ob ol oz os1 os2:Nat) (L:Int):Prop where
 rt:h[ot]?=some (.cells ⟨[.ptr os1 0 7 0],0,0,false⟩)
 rb:h[ob]?=some (.cells ⟨[.ptr os2 0 7 0],0,0,false⟩)
 rl:h[ol]?=some (.cells ⟨[I L],0,0,false⟩)
 rz:h[oz]?=some (.cells ⟨[.ptr os1 0 7 0,.ptr os2 0 7 0],0,0,false⟩)
 ne:ot≠ol/\ob≠ol/\oz≠ol
section
variable {h h':Heap} {ot ob ol oz os1 os2:Nat} {L:Int}
theorem RowsB.frs (r:RowsB h ot ob ol oz os1 os2 L){D:Nat->Prop}(f:FrS D h h')(hd:¬D ot/\¬D ob/\¬D ol/\¬D oz):RowsB h' ot ob ol oz os1 os2 L:=by
 have b:=fun {o:Nat} {x:AObj} (z:h[o]?=some x)=>(List.getElem?_eq_some_iff.1 z).1
 exact ⟨by rw[f.get hd.1 (b r.rt)]; exact r.rt,by rw[f.get hd.2.1 (b r.rb)]; exact r.rb,by rw[f.get hd.2.2.1 (b r.rl)]; exact r.rl,by rw[f.get hd.2.2.2 (b r.rz)]; exact r.rz,r.ne⟩
variable {W1 W2:Nat->Prop} {n:Nat} {g:AV} {f1 f2:FuncId} {A A':Nat->List Hop} {st en:Nat->Prop} {c1 c2:Nat->Int} {m1 m2:Nat->Option Int} {ls1 ls2:Int}
def Snd (A:Nat->List Hop)(st en:Nat->Prop)(L:Int):Prop:=L = -1\/(0<=L/\∃z,en z/\∃l,Wk A st z l L)
end
end Go.Gm.AQ
namespace Go.Gm.AQ
open Go Go.Gm
section
variable {h0 hb:Heap} {ot ob ol oz os1 os2:Nat} {W1 W2:Nat->Prop} {n:Nat} {g:AV} {f1 f2:FuncId} {A A':Nat->List Hop} {st en:Nat->Prop} {c1 c2:Nat->Int} {m1 m2:Nat->Option Int} {ls1 ls2:Int}
variable {N:Nat} {es:List E} {D:List (List Int)} {acc:List Bool}
end
end Go.Gm.AQ
namespace Go.Gm.AQ
open Go Go.Gm
section
variable {h0 hb:Heap} {ot ob ol oz os1 os2:Nat} {W1 W2:Nat->Prop} {n:Nat} {g:AV} {f1 f2:FuncId} {A A':Nat->List Hop} {st en:Nat->Prop} {c1 c2:Nat->Int} {m1 m2:Nat->Option Int} {ls1 ls2:Int}
variable {N:Nat} {es:List E} {D:List (List Int)} {acc:List Bool}
theorem SB.row {W:Nat->Prop}{h:Heap}{os:Nat}{fh:FuncId}{c:Nat->Int}{m:Nat->Option Int}{ls:Int}(s:SB W h os g fh n A st c m ls):W os/\∃q sc se sf,h[os]?=some (.cells ⟨[g,.fn fh [] [],q,sc,se,sf,I ls],0,0,false⟩):=by
 obtain ⟨q,sc,se,sf,oc,oe,ov,cs,ds,fs,M,id,k,rk,w,_⟩:=s
 exact ⟨w.ws,q,sc,se,sf,w.row⟩
end
end Go.Gm.AQ
namespace Go.Gm.AQ
open Go Go.Gm
section
variable {W:Nat->Prop} {h0 h h':Heap} {os n:Nat} {g:AV} {fh:FuncId} {A:Nat->List Hop} {st:Nat->Prop} {c:Nat->Int} {m:Nat->Option Int} {ls:Int}
variable {N:Nat} {es:List E} {D:List (List Int)} {acc:List Bool} {L:Int->Int->List Tr}
theorem SB.all (e0:Ext h0 h)(hW:∀o,W o->h0.length<=o)(gv:GV h0 g N es D acc)(ok:DOk D acc)(co:COk es)(hN:N<=100000)(hn:n=N*D.length)(hn2:n<=1000000)(hh:HopsOk h0 g N es D fh L)(hst:∀x,st x->x<n)(s:SB W h os g fh n (hopA es D.length L) st c m ls) :
  Tot tab i7_ [.ptr os 0 7 0] h fun r h'=>r=.tup []/\FrS W h h'/\∃c2 m2 ls2,SB (fun o=>W o\/h.length<=o) h' os g fh n (hopA es D.length L) st c2 m2 ls2/\∀x:Nat,x<n->m2 x=none:=by
 obtain ⟨q,sc,se,sf,oc,oe,ov,cs,ds,fs,M,id0,k,rk,w,d,u,rfl,rfl⟩:=s
 refine (b0Z e0 hW gv ok co hN hn hn2 hh hst w d u).mono ?_
 rintro r h2 ⟨rfl,f2,id2,k2,ls2,rk2,cs2,ds2,fs2,M2,w2,d2,m2,u2⟩
 exact ⟨rfl,f2,gf cs2,gf M2,ls2,⟨q,sc,se,sf,oc,oe,ov,cs2,ds2,fs2,M2,id2,k2,rk2,w2,d2,u2,rfl,rfl⟩,m2⟩
theorem SB.done (s:SB W h os g fh n A st c m ls)(hg:GOk n 2147483647 A)(hst:∀x,st x->x<n)(hm:∀x:Nat,x<n->m x=none){z:Nat}{l:List Nat}{v:Int}(h:Wk A st z l v):0<=c z/\c z<=v/\fnd c m z=c z:=by
 obtain ⟨q,sc,se,sf,oc,oe,ov,cs,ds,fs,M,id0,k,rk,w,d,u,rfl,rfl⟩:=s
 obtain ⟨h1,h2⟩:=d.all hg hst hm h
 exact ⟨h1,h2,if_pos h1⟩
end
section
variable {hb:Heap} {ot ob ol oz os1 os2:Nat} {W1 W2:Nat->Prop} {n:Nat} {g:AV} {f1 f2:FuncId} {A A':Nat->List Hop} {st en:Nat->Prop} {c1 c2:Nat->Int} {m1 m2:Nat->Option Int} {ls1 ls2:Int}
end
end Go.Gm.AQ
namespace Go.Gm.AQ
open Go Go.Gm
section
variable {h0:Heap} {ot ob ol oz os1 os2:Nat} {n:Nat} {g:AV} {st en:Nat->Prop}
variable {N:Nat} {es:List E} {D:List (List Int)} {acc:List Bool}
def Pl (h0 h:Heap)(ot ob ol oz:Nat)(W:Nat->Prop):Prop:=∀o,W o->h0.length<=o/\o<h.length/\o≠ot/\o≠ob/\o≠ol/\o≠oz
theorem Pl.grow {h h':Heap}{W:Nat->Prop}(p:Pl h0 h ot ob ol oz W)(e0:h0.length<=h.length)(e:h.length<=h'.length)(hr:ot<h.length/\ob<h.length/\ol<h.length/\oz<h.length):Pl h0 h' ot ob ol oz (fun o=>W o\/(h.length<=o/\o<h'.length)):=by
 intro o z
 rcases z with z|z
 ·have:=p o z; omega
 ·omega
end
end Go.Gm.AQ
namespace Go.Gm.AQ
open Go Go.Gm
section
variable {h0:Heap} {ot ob ol oz os1 os2 n:Nat} {g:AV} {f1 f2:FuncId} {st en:Nat->Prop} {L1 L2:Int->Int->List Tr}
variable {N:Nat} {es:List E} {D:List (List Int)} {acc:List Bool}
structure BI (h0 h:Heap) (ot ob ol oz os1 os2 n:Nat) (g:AV) (f1 f2:FuncId) (st en:Nat->Prop) (A1 A2:Nat->List Hop) (W1 W2:Nat->Prop) (c1 c2:Nat->Int) (m1 m2:Nat->Option Int) (ls1 ls2 L:Int):Prop where
 ex:Ext h0 h
 sa:SB W1 h os1 g f1 n A1 st c1 m1 ls1
 sb:SB W2 h os2 g f2 n A2 en c2 m2 ls2
 ka:LsOk n m1 ls1
 kb:LsOk n m2 ls2
 rr:RowsB h ot ob ol oz os1 os2 L
 sn:Snd A1 st en L
 mt:Met n A1 st en c1 c2 L
 pa:Pl h0 h ot ob ol oz W1
 pb:Pl h0 h ot ob ol oz W2
 dj:∀o,W1 o->¬W2 o
end
end Go.Gm.AQ
namespace Go.Gm.AQ
open Go Go.Gm
theorem a8H {c:Nat->Int}{acc:List Bool}{b:Nat}:∀n,(bv c acc b n = -1/\∀q:Nat,q<n->gi acc (q:Int)=true->c (b+q)<0)\/
  (∃q:Nat,q<n/\gi acc (q:Int)=true/\0<=c (b+q)/\bv c acc b n=c (b+q)/\∀q':Nat,q'<n->gi acc (q':Int)=true->0<=c (b+q')->bv c acc b n<=c (b+q'))
 |0=>.inl ⟨rfl,fun q h=>oM⟩
 |n+1=>by
  by_cases t:gi acc n=true/\0<=c (b+n)/\(bv c acc b n<0\/c (b+n)<bv c acc b n)
  ·have e:bv c acc b (n+1)=c (b+n):=if_pos t
   refine .inr ⟨n,oM,t.1,t.2.1,e,fun q hq h1 h2=>?_⟩
   rw[e]
   by_cases hn:q=n
   ·subst hn; omega
   ·rcases a8H (c:=c) (acc:=acc) (b:=b) n with ⟨k1,k2⟩|⟨q',k1,k2,k3,k4,k5⟩
    ·have:=k2 q oM h1
     omega
    ·have:=k5 q oM h1 h2
     omega
  ·have e:bv c acc b (n+1)=bv c acc b n:=if_neg t
   rcases a8H (c:=c) (acc:=acc) (b:=b) n with ⟨k1,k2⟩|⟨q',k1,k2,k3,k4,k5⟩
   ·refine .inl ⟨by rw[e]; exact k1,fun q hq h1=>?_⟩
    by_cases hn:q=n
    ·subst hn
     exact Classical.byContradiction fun z=>t ⟨h1,oM,.inl oM⟩
    ·exact k2 q oM h1
   ·refine .inr ⟨q',oM,k2,k3,by rw[e]; exact k4,fun q hq h1 h2=>?_⟩
    rw[e]
    by_cases hn:q=n
    ·subst hn
     exact Classical.byContradiction fun z=>t ⟨h1,h2,.inr oM⟩
    ·exact k5 q oM h1 h2
section
variable {h0:Heap} {N:Nat} {es:List E} {D:List (List Int)} {acc:List Bool}
end
end Go.Gm.AQ
namespace Go.Gm.AQ
open Go Go.Gm
def atV (es:List E)(v:Int)(l:List Nat):Int:=l.foldl (fun _ e=>(eg es e).to) v
def atS (es:List E)(D:List (List Int))(s:Int)(l:List Nat):Int:=l.foldl (fun s e=>nx D s (eg es e).md) s
def atC (es:List E)(l:List Nat):Int:=l.foldl (fun c e=>c+(eg es e).co) 0
def wdOf (es:List E)(l:List Nat):List Int:=l.map fun e=>(eg es e).md
def goS (D:List (List Int))(s:Int)(w:List Int):Int:=w.foldl (fun s m=>nx D s m) s
def OkW (es:List E)(v:Int)(l:List Nat):Prop:=∀i e,l[i]?=some e->e<es.length/\(eg es e).fr=atV es v (l.take i)
theorem q6_ (es:List E)(v:Int)(l:List Nat)(e:Nat):atV es v (l++[e])=(eg es e).to:=by simp[atV]
theorem b5R (es:List E)(D:List (List Int))(s:Int)(l:List Nat)(e:Nat):atS es D s (l++[e])=nx D (atS es D s l) (eg es e).md:=by simp[atS]
theorem w8_ (es:List E)(l:List Nat)(e:Nat):atC es (l++[e])=atC es l+(eg es e).co:=by simp[atC]
theorem a8I (es:List E)(D:List (List Int))(s:Int)(l:List Nat):atS es D s l=goS D s (wdOf es l):=by
 simp only[atS,goS,wdOf,List.foldl_map]
theorem OkW.snoc {es:List E}{v:Int}{l:List Nat}{e:Nat}(h:OkW es v l)(he:e<es.length)(hf:(eg es e).fr=atV es v l):OkW es v (l++[e]):=by
 intro i e' h1
 have hi:=(List.getElem?_eq_some_iff.1 h1).1
 simp only[List.length_append,List.length_cons,List.length_nil] at hi
 by_cases q:i<l.length
 ·rw[List.getElem?_append_left q] at h1
  rw[List.take_append_of_le_length oM]
  exact h i e' h1
 ·obtain rfl:i=l.length:=oM
  rw[List.getElem?_append_right (Nat.le_refl _)] at h1
  simp only[Nat.sub_self,List.getElem?_cons_zero,Option.some.injEq] at h1
  subst h1
  rw[List.take_left]
  exact ⟨he,hf⟩
theorem a8v {es:List E}(co:COk es):∀(l:List Nat),(∀e∈l,e<es.length)->∀c:Int,c<=l.foldl (fun c e=>c+(eg es e).co) c/\l.foldl (fun c e=>c+(eg es e).co) c<=c+l.length*2147483647
 |[],_,c=>by simp
 |e::l,h,c=>by
  have he:=h e (by simp)
  have h1:0<=(eg es e).co/\(eg es e).co<=2147483647:=co.c _ (b7_ (xs:=es) (i:=(e:Int)) oM oM)
  have h2:=a8v co l (fun x hx=>h x (List.mem_cons_of_mem _ hx)) (c+(eg es e).co)
  simp only[List.foldl_cons,List.length_cons]
  refine ⟨oM,?_⟩
  have:((l.length+1:Nat):Int)*2147483647=l.length*2147483647+2147483647:=oM
  rw[this]
  have:(eg es e).co<=2147483647:=h1.2
  omega
theorem OkW.mem {es:List E}{v:Int}{l:List Nat}(h:OkW es v l):∀e∈l,e<es.length:=by
 intro e he
 obtain ⟨i,hi,h1⟩:=List.getElem_of_mem he
 exact (h i e (by rw[List.getElem?_eq_getElem hi,h1])).1
section
variable {N:Nat} {es:List E} {D:List (List Int)} {acc:List Bool}
theorem c1n (ok:DOk D acc)(no:NetOk N es){x y e:Nat}{w:Int}(hx:x<N*D.length)(h:(y,e,w)∈hopA es D.length (onL es D) x) :
  e<es.length/\(eg es e).fr=((x / D.length:Nat):Int)/\y / D.length=(eg es e).to.toNat/\y % D.length=(nx D ((x % D.length:Nat):Int) (eg es e).md).toNat/\w=(eg es e).co/\y<N*D.length:=by
 obtain ⟨q1,q2⟩:=dm hx
 obtain ⟨t,ht,h1⟩:=List.mem_map.1 h
 obtain ⟨k,hk,rfl⟩:=List.mem_map.1 ht
 obtain ⟨k0,k1,k2⟩:=q8_.1 hk
 obtain ⟨i,rfl⟩:∃i:Nat,k=i:=⟨k.toNat,oM⟩
 simp only[beq_iff_eq] at k2
 have he:0<=(eg es i).fr/\(eg es i).fr<N/\0<=(eg es i).to/\(eg es i).to<N/\0<=(eg es i).md/\(eg es i).md<5:=no.edge _ (b7_ (xs:=es) (i:=(i:Int)) oM oM)
 have htt:0<=nx D ((x % D.length:Nat):Int) (eg es i).md/\nx D ((x % D.length:Nat):Int) (eg es i).md<D.length:=ok.to _ (eg es i).md (Int.natCast_nonneg _) (Int.ofNat_lt.2 q2) he.2.2.2.2.1 he.2.2.2.2.2
 simp only[hopOf] at h1
 cases h1
 rw[Int.toNat_natCast]
 have h1:(eg es i).to=((eg es i).to.toNat:Int):=oM
 have h2:nx D ((x % D.length:Nat):Int) (eg es i).md=((nx D ((x % D.length:Nat):Int) (eg es i).md).toNat:Int):=oM
 have hy:((eg es i).to*(D.length:Int)+nx D ((x % D.length:Nat):Int) (eg es i).md).toNat=(eg es i).to.toNat*D.length+(nx D ((x % D.length:Nat):Int) (eg es i).md).toNat:=by
  generalize (eg es i).to.toNat=a at h1
  generalize (nx D ((x % D.length:Nat):Int) (eg es i).md).toNat=b at h2
  rw[h1,h2,<-Int.natCast_mul,<-Int.natCast_add,Int.toNat_natCast]
 rw[show gi es (i:Int)=eg es i from rfl,hy]
 obtain ⟨p1,p2⟩:=a8u (v:=(eg es i).to.toNat) (S:=D.length) (s:=(nx D ((x % D.length:Nat):Int) (eg es i).md).toNat) oM
 exact ⟨oM,k2,p1,p2,rfl,spotN oM oM⟩
theorem b4x (ok:DOk D acc)(no:NetOk N es){v x:Nat}{l:List Nat}{c:Int}(hv:v<N)(h:Wk (hopA es D.length (onL es D)) (fun x=>x=v*D.length) x l c) :
  OkW es v l/\atV es v l=((x / D.length:Nat):Int)/\atS es D 0 l=((x % D.length:Nat):Int)/\atC es l=c/\x<N*D.length:=by
 induction h with
 |nil h=>
  subst h
  obtain ⟨p1,p2⟩:=a8u (v:=v) (S:=D.length) (s:=0) ok.l0
  simp only[Nat.add_zero] at p1 p2
  rw[p1,p2]
  exact ⟨fun i e z=>by simp at z,rfl,rfl,rfl,by have:=spotN (S:=D.length) hv ok.l0; omega⟩
 |@snoc x y e l c w h1 h2 ih=>
  obtain ⟨i1,i2,i3,i4,i5⟩:=ih
  obtain ⟨k1,k2,k3,k4,k5,k6⟩:=c1n ok no i5 h2
  obtain ⟨q1,q2⟩:=dm i5
  have he:0<=(eg es e).fr/\(eg es e).fr<N/\0<=(eg es e).to/\(eg es e).to<N/\0<=(eg es e).md/\(eg es e).md<5:=no.edge _ (b7_ (xs:=es) (i:=(e:Int)) oM oM)
  have htt:0<=nx D ((x % D.length:Nat):Int) (eg es e).md/\nx D ((x % D.length:Nat):Int) (eg es e).md<D.length:=ok.to _ (eg es e).md (Int.natCast_nonneg _) (Int.ofNat_lt.2 q2) he.2.2.2.2.1 he.2.2.2.2.2
  refine ⟨i1.snoc k1 (k2.trans i2.symm),?_,?_,?_,k6⟩
  ·rw[q6_,k3]; omega
  ·rw[b5R,i3,k4]; omega
  ·rw[w8_,i4,k5]
theorem a3O {α:Type}{l:List α}{i:Nat}{e:α}(h:l[i]?=some e):l.take (i+1)=l.take i++[e]:=by
 rw[List.take_add_one,h]; rfl
theorem c2N {hb:Heap}{sE sl:AV}{v u on:Nat}{l:List Nat}{Q:AV->Heap->Prop}(no:NetOk N es)(co:COk es)(hE:Sl hb 4 sE (es.map encE))(hl:Sl hb 1 sl ((l.map fun (e:Nat)=>(e:Int)).map encI))(hll:l.length<=1000000)(ow:OkW es v l)(hu:atV es v l=u)(rn:hb[on]?=some (.cells ⟨[I N,sE],0,0,false⟩))(hQ:∀h w,Ext hb h->Gr hb.length h.length h 1 w ((wdOf es l).map encI)->Q (.tup [I (atC es l),w,.bool true]) h) :
  ∀(d i:Nat) (h:Heap) (w:AV),i+d=l.length->Ext hb h->Gr hb.length h.length h 1 w ((wdOf es (l.take i)).map encI)->
   WP (fun p:Nat × Nat=>r1_ p.1 p.2 (I (atV es v (l.take i))) (I u) sl (.ptr on 0 2 0) (I (atC es (l.take i))) w (I i) h) Q:=by
 intro d
 induction d with
 |zero=>
  intro i h w h1 e g1
  refine WP.rnd (fun i' j=>a4a i' j (I (atV es v (l.take i))) (I u) sl (.ptr on 0 2 0) (I (atC es (l.take i))) w (I i) h) ?_
  rw[List.take_of_length_le (show l.length<=i by omega)] at g1 ⊢
  rw[hu]
  have hlg:=(hl.ext e).lenG
  rw[List.length_map] at hlg
  simp -implicitDefEqProofs (disch:=first|assumption|omega|(simp only[gL,gA]<;>omega)|fail) only[gC,reduceIte,hlg]
  refine WP.lv (WP.congr (fun k:Nat=>a8Y k (I u) (I u) (I (atC es l)) w h) ?_) fun i j=>rfl
  refine g0 ?_
  exact WP.ret (hQ h w e g1)
 |succ d ih=>
  intro i h w h1 e g1
  refine WP.rnd (fun i' j=>a4a i' j (I (atV es v (l.take i))) (I u) sl (.ptr on 0 2 0) (I (atC es (l.take i))) w (I i) h) ?_
  have hil:i<l.length:=oM
  obtain ⟨ed,hed⟩:∃ed,l[i]?=some ed:=⟨l[i],List.getElem?_eq_getElem hil⟩
  obtain ⟨o1,o2⟩:=ow i ed hed
  have hg:gi (l.map fun (e:Nat)=>(e:Int)) (i:Int)=(ed:Int):=by
   rw[b2_ (by simpa using hil)]
   rw[List.getElem?_eq_getElem hil] at hed
   injection hed with hed
   simp[hed]
  have hlx:=hl.ext e
  have hlg:=hlx.lenG
  rw[List.length_map] at hlg
  have hE1:=hE.ext e
  have rn1:=e.get rn
  obtain ⟨x,hx⟩:∃x,eg es ed=x:=⟨_,rfl⟩
  have hxx:gi es (ed:Int)=x:=hx
  have he:=no.edge _ (b7_ (xs:=es) (i:=(ed:Int)) oM oM)
  have hc:=co.c _ (b7_ (xs:=es) (i:=(ed:Int)) oM oM)
  rw[hxx] at he hc
  rw[hx] at o2
  have b1:=a8v co (l.take i) (fun z hz=>ow.mem z (List.mem_of_mem_take hz)) 0
  have b2:(l.take i).length<=1000000:=by rw[List.length_take]; omega
  obtain ⟨c,hcc⟩:∃c,atC es (l.take i)=c:=⟨_,rfl⟩
  have b3:0<=c/\c<=(l.take i).length*2147483647:=by rw[<-hcc]; exact ⟨b1.1,by have:=b1.2; simpa [atC] using this⟩
  have hlh:=e.len
  obtain ⟨h2,hh2⟩:∃h2,h2=((h++[AObj.cells ⟨[I 0,I 0,I 0,I 0],0,0,false⟩]).set h.length (.cells ⟨[I x.fr,I x.to,I x.md,I x.co],0,0,false⟩)):=⟨_,rfl⟩
  have e2:Ext h h2:=by rw[hh2]; exact eX
  have r2:h2[h.length]?=some (.cells ⟨[I x.fr,I x.to,I x.md,I x.co],0,0,false⟩):=by rw[hh2]; exact a0_ (by simp)
  have hl2:h2.length=h.length+1:=by rw[hh2]; simp
  obtain ⟨s',h',q1,q2,q3⟩:=Gr.append1 (bytes:=8) (g1.ext e2) (v:=[I x.md]) rfl oM oM (by simp[wdOf]; omega) oM oM
  rw[a3_,hl2] at q1
  have hml:(l.map fun (e:Nat)=>(e:Int)).length=l.length:=List.length_map ..
  rw[<-o2,hcc]
  simp -implicitDefEqProofs (disch:=first|assumption|omega|exact Ext.refl _|(simp only[gL,gA]<;>omega)|fail) only[gC,reduceIte,hlg,hlx.idxG,hlx.ld0,hml,hg,encI,rn1,hE1.lenG,hE1.idxG,hE1.ldf,hE1.ld0,hE1.ldN,hxx,encE]
  rw[show AV.int .i64 0=I 0 from rfl,<-hh2]
  simp -implicitDefEqProofs (disch:=first|assumption|omega|(simp only[gL,gA]<;>omega)|fail) only[gC,reduceIte,q1]
  have hv':x.to=atV es v (l.take (i+1)):=by rw[a3O hed,q6_,hx]
  have hc':c+x.co=atC es (l.take (i+1)):=by rw[a3O hed,w8_,hx,hcc]
  rw[hv',hc']
  refine ih (i+1) h' s' oM (q3.ext (e.trans e2) oM) ((q2.mono (Nat.le_refl _) (Nat.le_refl _)).cong ?_)
  rw[a3O hed]
  simp[wdOf,hx,encI]
theorem b9H {h:Heap}{sE sl:AV}{v u:Nat}{l:List Nat}(no:NetOk N es)(co:COk es)(hE:Sl h 4 sE (es.map encE))(hl:Sl h 1 sl ((l.map fun (e:Nat)=>(e:Int)).map encI))(hll:l.length<=1000000)(hv:v<N)(huN:u<N)(ow:OkW es v l)(hu:atV es v l=u) :
  Tot tab t8_ [.agg [I N,sE],I v,I u,sl] h fun r h'=>Ext h h'/\∃w,r=.tup [I (atC es l),w,.bool true]/\Sl h' 1 w ((wdOf es l).map encI):=by
 refine WP.tot (fun k=>b0B k _ _ _ _ h) ?_
 obtain ⟨h1,hh1⟩:∃h1,h1=h++[AObj.cells ⟨[I N,sE],0,0,false⟩]:=⟨_,rfl⟩
 have e1:Ext h h1:=by rw[hh1]; exact Ext.push _ _
 have rn:h1[h.length]?=some (.cells ⟨[I N,sE],0,0,false⟩):=by rw[hh1]; simp
 have:=no.n1
 refine g2 hE.one hE.cells ?_
 rw[<-hh1]
 refine WP.ent (c2:=fun p:Nat × Nat=>r1_ p.1 p.2 (I (atV es v (l.take 0))) (I u) sl (.ptr h.length 0 2 0) (I (atC es (l.take 0))) .nils (I (0:Nat)) h1) (c2N no co (hE.ext e1) (hl.ext e1) hll ow hu rn (fun h' w e' g'=>⟨e1.trans e',w,rfl,g'.sl⟩) l.length 0 h1 .nils oM (Ext.refl _) (Gr.nil ..)) fun i=>rfl
theorem a6w (ok:DOk D acc):∀(w:List Int) (s:Int),0<=s->s<D.length->(∀m∈w,0<=m/\m<5)->0<=goS D s w/\goS D s w<D.length
 |[],s,h0,h1,_=>⟨h0,h1⟩
 |m::w,s,h0,h1,h=>by
  have hm:=h m (by simp)
  have:=ok.to s m h0 h1 hm.1 hm.2
  exact a6w ok w (nx D s m) this.1 this.2 fun z hz=>h z (List.mem_cons_of_mem _ hz)
theorem go_l1 {h:Heap}{sD sA sw:AV}{od:Nat}{w:List Int}(ok:DOk D acc)(hD:Sl h 5 sD (D.map encR))(hw:Sl h 1 sw (w.map encI))(hwl:w.length<=1000000000)(hm:∀m∈w,0<=m/\m<5)(rd:h[od]?=some (.cells ⟨[sD,sA],0,0,false⟩)) :
  ∀(d i:Nat),i+d=w.length->WP (fun p:Nat × Nat=>w4_ p.1 p.2 (I (goS D 0 (w.take i))) sw (.ptr od 0 2 0) (I i) h) fun r h'=>r=I (goS D 0 w)/\h=h':=by
 intro d
 induction d with
 |zero=>
  intro i h1
  refine WP.rnd (fun i' j=>a4P i' j (I (goS D 0 (w.take i))) sw (.ptr od 0 2 0) (I i) h) ?_
  rw[List.take_of_length_le (show w.length<=i by omega)]
  refine g1 hw.lenG ?_
  exact WP.ret ⟨rfl,rfl⟩
 |succ d ih=>
  intro i h1
  refine WP.rnd (fun i' j=>a4P i' j (I (goS D 0 (w.take i))) sw (.ptr od 0 2 0) (I i) h) ?_
  have hil:i<w.length:=oM
  obtain ⟨m,hmm⟩:∃m,gi w (i:Int)=m:=⟨_,rfl⟩
  have hmr:=hm m (hmm▸b7_ oM oM)
  have htk:w.take (i+1)=w.take i++[m]:=by
   have:=c1_ (xs:=w) (i:=(i:Int)) oM oM
   rw[hmm] at this
   exact a3O (by simpa using this)
  obtain ⟨s,hs⟩:∃s,goS D 0 (w.take i)=s:=⟨_,rfl⟩
  have hsr:=a6w ok (w.take i) 0 oM (by have:=ok.l0; omega) fun z hz=>hm z (List.mem_of_mem_take hz)
  rw[hs] at hsr
  obtain ⟨p,p1,p2,-⟩:=cellA (H:=h) hD (Ext.refl _) hsr.1 hsr.2 hmr.1 hmr.2
  rw[show (encR (gi D s)).getD m.toNat .undef=I (nx D s m) by
   have hr:=ok.row s hsr.1 hsr.2
   simp only[encR,nx,List.getD_eq_getElem?_getD,List.getElem?_map]
   have:=c1_ (xs:=gi D s) hmr.1 oM
   rw[this]; rfl] at p2
  rw[hs]
  simp -implicitDefEqProofs (disch:=first|assumption|omega|exact Ext.refl _|(simp only[gL,gA]<;>omega)|fail) only[gC,reduceIte,hw.lenG,hw.idxG,hw.ld0,hmm,encI,rd,hD.idxG,p1,p2]
  have hs':nx D s m=goS D 0 (w.take (i+1)):=by
   rw[htk]
   simp only[goS,List.foldl_append,List.foldl_cons,List.foldl_nil]
   rw[show List.foldl (fun s m=>nx D s m) 0 (w.take i)=s from hs]
  rw[hs']
  exact ih (i+1) oM
theorem c1o {h:Heap}{sD sA sw:AV}{w:List Int}(ok:DOk D acc)(hD:Sl h 5 sD (D.map encR))(hA:Sl h 1 sA (acc.map encB))(hw:Sl h 1 sw (w.map encI))(hwl:w.length<=1000000000)(hm:∀m∈w,0<=m/\m<5) :
  Tot tab a3j [.agg [sD,sA],sw] h fun r h'=>r=.bool (gi acc (goS D 0 w))/\Ext h h':=by
 refine WP.tot (fun k=>b1f k _ _ h) ?_
 obtain ⟨h1,hh1⟩:∃h1,h1=h++[AObj.cells ⟨[sD,sA],0,0,false⟩]:=⟨_,rfl⟩
 have e1:Ext h h1:=by rw[hh1]; exact Ext.push _ _
 have rd:h1[h.length]?=some (.cells ⟨[sD,sA],0,0,false⟩):=by rw[hh1]; simp
 refine g4 hD.one hD.cells hA.one hA.cells ?_
 rw[<-hh1]
 have hgo:Tot tab a1w [.agg [sD,sA],I 0,sw] h1 fun r h'=>r=I (goS D 0 w)/\Ext h1 h':=by
  refine WP.tot (fun k=>b1J k _ _ _ h1) ?_
  obtain ⟨h2,hh2⟩:∃h2,h2=h1++[AObj.cells ⟨[sD,sA],0,0,false⟩]:=⟨_,rfl⟩
  have e2:Ext h1 h2:=by rw[hh2]; exact Ext.push _ _
  have rd2:h2[h1.length]?=some (.cells ⟨[sD,sA],0,0,false⟩):=by rw[hh2]; simp
  have hD2:=(hD.ext e1).ext e2
  have:=ok.l0
  have:=ok.l1
  refine g4 hD.one hD.cells hA.one hA.cells ?_
  rw[<-hh2]
  refine g2 @rd2 hD2.lenG ?_
  refine WP.ent (c2:=fun p:Nat × Nat=>w4_ p.1 p.2 (I (goS D 0 (w.take 0))) sw (.ptr h1.length 0 2 0) (I (0:Nat)) h2) ((go_l1 ok hD2 ((hw.ext e1).ext e2) hwl hm rd2 w.length 0 oM).mono ?_) fun i=>rfl
  rintro r h' ⟨rfl,rfl⟩
  exact ⟨rfl,e2⟩
 refine WP.call hgo ?_
 rintro _ h2 ⟨rfl,e2⟩
 obtain ⟨g1,g2⟩:=a6w ok w 0 oM (by have:=ok.l0; omega) hm
 generalize goS D 0 w=s at g1 g2 ⊢
 have hA2:=(hA.ext e1).ext e2
 have rd2:=e2.get rd
 have la:=ok.la
 refine g4 @rd2 hA2.idxG hA2.ld0 @encB.eq_1 ?_
 exact WP.ret ⟨rfl,e1.trans e2⟩
theorem a7Z {h:Heap}{sE sD sA sl:AV}{v u:Nat}{l:List Nat}{cost:Int}(no:NetOk N es)(co:COk es)(ok:DOk D acc)(hE:Sl h 4 sE (es.map encE))(hD:Sl h 5 sD (D.map encR))(hA:Sl h 1 sA (acc.map encB))(hl:Sl h 1 sl ((l.map fun (e:Nat)=>(e:Int)).map encI))(hll:l.length<=1000000)(hv:v<N)(huN:u<N)(ow:OkW es v l)(hu:atV es v l=u)(hc:atC es l=cost)(hacc:gi acc (atS es D 0 l)=true) :
  Tot tab k7_ [.agg [I N,sE],.agg [sD,sA],I v,I u,.agg [I cost,sl],I cost] h fun r h'=>r=.bool true/\Ext h h':=by
 refine WP.tot (fun k=>a9Z k _ _ _ _ _ _ h) ?_
 obtain ⟨h1,hh1⟩:∃h1,h1=((h++[AObj.cells ⟨[I N,sE],0,0,false⟩])++[AObj.cells ⟨[sD,sA],0,0,false⟩])++[AObj.cells ⟨[I cost,sl],0,0,false⟩]:=⟨_,rfl⟩
 have e1:Ext h h1:=by rw[hh1]; exact eX
 have rd:h1[h.length+1]?=some (.cells ⟨[sD,sA],0,0,false⟩):=by rw[hh1]; simp
 have rr:h1[h.length+1+1]?=some (.cells ⟨[I cost,sl],0,0,false⟩):=by rw[hh1,r8_ (by simp)]; simp
 refine g8 hE.one hE.cells hD.one hD.cells hA.one hA.cells hl.one hl.cells ?_
 rw[<-hh1]
 refine WP.call (b9H no co (hE.ext e1) (hl.ext e1) hll hv huN ow hu) ?_
 rintro _ h2 ⟨e2,w,rfl,gw⟩
 rw[hc]
 have rd2:=e2.get rd
 have rr2:=e2.get rr
 have x2:extr 2 (.tup [I cost,w,.bool true])=some (.bool true):=rfl
 refine g5 @a4_ @a5_ @x2 @rd2 @rr2 ?_
 refine WP.call (c1o ok ((hD.ext e1).ext e2) ((hA.ext e1).ext e2) gw (by simp[wdOf]; omega) fun m hm=>?_) ?_
 ·obtain ⟨e,he,rfl⟩:=List.mem_map.1 hm
  have h3:=ow.mem e he
  have:=no.edge _ (b7_ (xs:=es) (i:=(e:Int)) oM oM)
  exact ⟨this.2.2.2.2.1,this.2.2.2.2.2⟩
 ·rintro _ h3 ⟨rfl,e3⟩
  rw[<-a8I,hacc]
  exact WP.ret ⟨rfl,(e1.trans e2).trans e3⟩
end
end Go.Gm.AQ
namespace Go.Gm.AQ
open Go Go.Gm
structure LW (es:List E) (v u:Int) (P:List Int->Prop) (b:Int):Prop where
 ex:b = -1\/(0<=b/\∃l,OkW es v l/\atV es v l=u/\P (wdOf es l)/\atC es l=b)
 le:∀l,OkW es v l->atV es v l=u->P (wdOf es l)->0<=b/\b<=atC es l
theorem LW.uniq {es:List E}{v u:Int}{P:List Int->Prop}{a b:Int}(x:LW es v u P a)(y:LW es v u P b):a=b:=by
 rcases x.ex with rfl|⟨x0,l,x1,x2,x3,x4⟩
 ·rcases y.ex with rfl|⟨y0,l',y1,y2,y3,y4⟩
  ·rfl
  ·have:=x.le l' y1 y2 y3
   omega
 ·have h1:=y.le l x1 x2 x3
  rcases y.ex with rfl|⟨y0,l',y1,y2,y3,y4⟩
  ·omega
  ·have:=x.le l' y1 y2 y3
   omega
theorem LW.congr {es:List E}{v u:Int}{P Q:List Int->Prop}{b:Int}(x:LW es v u P b)(h:∀l,OkW es v l->(P (wdOf es l)↔Q (wdOf es l))):LW es v u Q b:=by
 refine ⟨x.ex.imp id fun ⟨x0,l,x1,x2,x3,x4⟩=>⟨x0,l,x1,x2,(h l x1).1 x3,x4⟩,fun l h1 h2 h3=>x.le l h1 h2 ((h l h1).2 h3)⟩
section
variable {N:Nat} {es:List E} {D:List (List Int)} {acc:List Bool}
theorem OkW.md (no:NetOk N es){v:Int}{l:List Nat}(h:OkW es v l):∀m∈wdOf es l,0<=m/\m<5:=by
 intro m hm
 obtain ⟨e,he,rfl⟩:=List.mem_map.1 hm
 have h3:=h.mem e he
 have:=no.edge _ (b7_ (xs:=es) (i:=(e:Int)) oM oM)
 exact ⟨this.2.2.2.2.1,this.2.2.2.2.2⟩
theorem OkW.take {v:Int}{l:List Nat}(h:OkW es v l)(k:Nat):OkW es v (l.take k):=by
 intro i e h1
 have hi:=(List.getElem?_eq_some_iff.1 h1).1
 rw[List.length_take] at hi
 rw[List.getElem?_take,if_pos oM] at h1
 rw[List.take_take,Nat.min_eq_left oM]
 exact h i e h1
theorem OkW.range (no:NetOk N es){v:Nat}(hv:v<N){l:List Nat}(h:OkW es v l):0<=atV es v l/\atV es v l<N:=by
 rcases List.eq_nil_or_concat l with rfl|⟨l',e,rfl⟩
 ·exact ⟨by show (0:Int)<=v; omega,by show (v:Int)<N; omega⟩
 ·rw[List.concat_eq_append] at h ⊢
  rw[q6_]
  have he:=h.mem e (by simp)
  have:=no.edge _ (b7_ (xs:=es) (i:=(e:Int)) oM oM)
  exact ⟨this.2.2.1,this.2.2.2.1⟩
theorem b9I (ok:DOk D acc)(no:NetOk N es){v:Nat}(hv:v<N){l:List Nat}(h:OkW es v l):∀k,k<=l.length->
  Wk (hopA es D.length (onL es D)) (fun x=>x=v*D.length) ((atV es v (l.take k)).toNat*D.length+(atS es D 0 (l.take k)).toNat) (l.take k) (atC es (l.take k))
 |0,_=>by
  simp only[List.take_zero]
  refine .nil ?_
  show (v:Int).toNat*D.length+(0:Int).toNat=v*D.length
  simp
 |k+1,hk=>by
  have ih:=b9I ok no hv h k oM
  obtain ⟨e,he⟩:∃e,l[k]?=some e:=⟨l[k],List.getElem?_eq_getElem oM⟩
  obtain ⟨h1,h2⟩:=h k e he
  have hr:=(h.take k).range no hv
  have hs:=a6w ok (wdOf es (l.take k)) 0 oM (by have:=ok.l0; omega) ((h.take k).md no)
  rw[<-a8I] at hs
  rw[a3O he,q6_,b5R,w8_]
  have hm:=b4A (s:=(atS es D 0 (l.take k)).toNat) ok no h1 oM
  have e1:src es D.length e (atS es D 0 (l.take k)).toNat=(atV es v (l.take k)).toNat*D.length+(atS es D 0 (l.take k)).toNat:=by rw[src,h2]
  have e2:dst es D e (atS es D 0 (l.take k)).toNat=(eg es e).to.toNat*D.length+(nx D (atS es D 0 (l.take k)) (eg es e).md).toNat:=by
   rw[dst,show (((atS es D 0 (l.take k)).toNat:Nat):Int)=atS es D 0 (l.take k) by omega]
  rw[e1,e2] at hm
  exact .snoc ih hm
theorem bv_lw (ok:DOk D acc)(no:NetOk N es){v u:Nat}(hv:v<N)(hu:u<N){c:Nat->Int}(lc:LC (N*D.length) (hopA es D.length (onL es D)) (fun x=>x=v*D.length) c) :
  LW es v u (fun w=>gi acc (goS D 0 w)=true) (bv c acc (u*D.length) D.length):=by
 have main:∀l,OkW es v l->atV es v l=u->gi acc (goS D 0 (wdOf es l))=true->0<=bv c acc (u*D.length) D.length/\bv c acc (u*D.length) D.length<=atC es l:=by
  intro l h1 h2 h3
  have hw:=b9I ok no hv h1 l.length (Nat.le_refl _)
  rw[List.take_length,h2,a8I,Int.toNat_natCast] at hw
  have hs:=a6w ok (wdOf es l) 0 oM (by have:=ok.l0; omega) (h1.md no)
  have hx:=spotN (N:=N) (v:=u) (S:=D.length) (s:=(goS D 0 (wdOf es l)).toNat) hu oM
  have h4:0<=c (u*D.length+(goS D 0 (wdOf es l)).toNat)/\c (u*D.length+(goS D 0 (wdOf es l)).toNat)<=atC es l:=by
   rcases lc _ hx with ⟨k1,_,k2⟩|⟨_,k2⟩
   ·exact ⟨k1,k2 _ _ hw⟩
   ·exact absurd hw (k2 _ _)
  have h5:gi acc (((goS D 0 (wdOf es l)).toNat:Nat):Int)=true:=by rw[show (((goS D 0 (wdOf es l)).toNat:Nat):Int)=goS D 0 (wdOf es l) by omega]; exact h3
  rcases a8H (c:=c) (acc:=acc) (b:=u*D.length) D.length with ⟨k1,k2⟩|⟨q,k1,k2,k3,k4,k5⟩
  ·have:=k2 _ oM h5
   omega
  ·have:=k5 _ oM h5 h4.1
   omega
 refine ⟨?_,main⟩
 rcases a8H (c:=c) (acc:=acc) (b:=u*D.length) D.length with ⟨k1,k2⟩|⟨q,k1,k2,k3,k4,k5⟩
 ·exact .inl k1
 ·rcases lc _ (spotN hu k1) with ⟨p1,⟨l,p2⟩,p3⟩|⟨p1,_⟩
  ·obtain ⟨w1,w2,w3,w4,w5⟩:=b4x ok no hv p2
   obtain ⟨d1,d2⟩:=a8u (v:=u) (S:=D.length) (s:=q) k1
   rw[d1] at w2
   rw[d2,a8I] at w3
   exact .inr ⟨oM,l,w1,w2,by rw[w3]; exact k2,by rw[w4,k4]⟩
  ·omega
end
end Go.Gm.AQ
namespace Go.Gm
section
variable {δ:Nat->Nat->Nat} {S:Nat} {c x:Nat->Int} {acc:Nat->Bool}
def Alk (δ:Nat->Nat->Nat)(c:Nat->Int)(a b:Nat):Prop:=c a=c b/\∀m,m<5->c (δ a m)=c (δ b m)
theorem Alk.refl (a:Nat):Alk δ c a a:=⟨rfl,fun _ _=>rfl⟩
theorem Alk.symm {a b:Nat}(h:Alk δ c a b):Alk δ c b a:=⟨h.1.symm,fun m hm=>(h.2 m hm).symm⟩
theorem Alk.trans {a b d:Nat}(h:Alk δ c a b)(k:Alk δ c b d):Alk δ c a d:=⟨h.1.trans k.1,fun m hm=>(h.2 m hm).trans (k.2 m hm)⟩
def Neu (c:Nat->Int)(i:Nat):Prop:=∀j,j<i->c j≠c i
noncomputable def cntP (p:Nat->Prop):Nat->Nat
 |0=>0
 |n+1=>cntP p n+(open Classical in if p n then 1 else 0)
theorem a7u {p:Nat->Prop}{n:Nat}(h:p n):cntP p (n+1)=cntP p n+1:=by simp[cntP,h]
theorem a7v {p:Nat->Prop}{n:Nat}(h:¬p n):cntP p (n+1)=cntP p n:=by simp[cntP,h]
theorem b2C (p:Nat->Prop):∀n,cntP p n<=n
 |0=>Nat.le_refl _
 |n+1=>by
  have:=b2C p n
  by_cases h:p n
  ·rw[a7u h]; omega
  ·rw[a7v h]; omega
theorem a7w {p q:Nat->Prop}:∀n,(∀i,i<n->p i->q i)->cntP p n<=cntP q n
 |0,_=>Nat.le_refl _
 |n+1,h=>by
  have:=a7w n fun i hi=>h i oM
  by_cases hp:p n
  ·rw[a7u hp,a7u (h n oM hp)]; omega
  ·by_cases hq:q n
   ·rw[a7v hp,a7u hq]; omega
   ·rw[a7v hp,a7v hq]; omega
theorem b4N {p q:Nat->Prop}:∀n,(∀i,i<n->p i->q i)->cntP p n=cntP q n->∀i,i<n->q i->p i
 |0,_,_=>fun i hi=>oM
 |n+1,h,e=>by
  have h1:=a7w n fun i hi=>h i oM
  intro i hi hqi
  by_cases hp:p n
  ·rw[a7u hp,a7u (h n oM hp)] at e
   by_cases q:i=n
   ·subst q; exact hp
   ·exact b4N n (fun i hi=>h i oM) oM i oM hqi
  ·by_cases hq:q n
   ·rw[a7v hp,a7u hq] at e; omega
   ·rw[a7v hp,a7v hq] at e
    by_cases q':i=n
    ·subst q'; exact absurd hqi hq
    ·exact b4N n (fun i hi=>h i oM) e i oM hqi
theorem b4k {p q:Nat->Prop}(n:Nat)(h:∀i,i<n->(p i↔q i)):cntP p n=cntP q n:=
 Nat.le_antisymm (a7w n fun i hi=>(h i hi).1) (a7w n fun i hi=>(h i hi).2)
structure Finer (δ:Nat->Nat->Nat) (S:Nat) (c x:Nat->Int) (k:Nat):Prop where
 al:∀a b,a<S->b<S->(x a=x b↔Alk δ c a b)
 rng:∀a,a<S->0<=x a/\x a<k
 cnt:k=cntP (Neu x) S
theorem Finer.neu {k:Nat}(f:Finer δ S c x k):∀i,i<S->Neu c i->Neu x i:=fun i hi h j hj e=>h j hj ((f.al j i oM hi).1 e).1
theorem Finer.le {k:Nat}(f:Finer δ S c x k):cntP (Neu c) S<=k:=by rw[f.cnt]; exact a7w S f.neu
theorem Finer.kS {k:Nat}(f:Finer δ S c x k):k<=S:=by rw[f.cnt]; exact b2C _ _
theorem Finer.pos {k:Nat}(f:Finer δ S c x k)(hS:0<S):0<k:=by have:=f.rng 0 hS; omega
theorem rep (x:Nat->Int):∀a,∃j,j<=a/\x j=x a/\Neu x j:=by
 intro a
 induction a using Nat.strongRecOn with
 |ind a ih=>
  by_cases h:Neu x a
  ·exact ⟨a,Nat.le_refl _,rfl,h⟩
  ·obtain ⟨j,h1⟩:=Classical.not_forall.1 h
   obtain ⟨hj,h2⟩:=Classical.not_imp.1 h1
   obtain ⟨r,r1,r2,r3⟩:=ih j hj
   exact ⟨r,oM,r2.trans (Classical.not_not.1 h2),r3⟩
theorem Finer.same {k:Nat}(f:Finer δ S c x k)(hk:k=cntP (Neu c) S){a b:Nat}(ha:a<S)(hb:b<S)(h:c a=c b):x a=x b:=by
 have hn:=b4N S f.neu (hk.symm.trans f.cnt)
 obtain ⟨i,i1,i2,i3⟩:=rep x a
 obtain ⟨j,j1,j2,j3⟩:=rep x b
 have n1:=hn i oM i3
 have n2:=hn j oM j3
 have e1:=((f.al i a oM ha).1 i2).1
 have e2:=((f.al j b oM hb).1 j2).1
 have e3:c i=c j:=e1.trans (h.trans e2.symm)
 have:i=j:=by
  rcases Nat.lt_trichotomy i j with q|q|q
  ·exact absurd e3 (n2 i q)
  ·exact q
  ·exact absurd e3.symm (n1 j q)
 subst this
 exact i2.symm.trans j2
structure Stab (δ:Nat->Nat->Nat) (acc:Nat->Bool) (S:Nat) (x:Nat->Int):Prop where
 ac:∀a b,a<S->b<S->x a=x b->acc a=acc b
 to:∀a b,a<S->b<S->x a=x b->∀m,m<5->x (δ a m)=x (δ b m)
 rng:∀a,a<S->0<=x a/\x a<S
theorem Finer.stab {k:Nat}(f:Finer δ S c x k)(hk:k=cntP (Neu c) S)(hδ:∀a m,a<S->m<5->δ a m<S)(hc:∀a b,a<S->b<S->c a=c b->acc a=acc b):Stab δ acc S x:=
 ⟨fun a b ha hb h=>hc a b ha hb ((f.al a b ha hb).1 h).1,fun a b ha hb h m hm=>f.same hk (hδ a m ha hm) (hδ b m hb hm) (((f.al a b ha hb).1 h).2 m hm),fun a ha=>by have:=f.rng a ha; have:=f.kS; omega⟩
structure FI (δ:Nat->Nat->Nat) (c:Nat->Int) (F:Nat->Nat) (n:Nat) (x:Nat->Int) (i:Nat):Prop where
 le:∀r,r<n->F r<i/\x (F r)=r
 cl:∀j,j<i->0<=x j/\x j<n/\Alk δ c (F (x j).toNat) j
 ds:∀r s,r<n->s<n->Alk δ c (F r) (F s)->r=s
 ct:n=cntP (Neu x) i
theorem FI.zero (F:Nat->Nat)(x:Nat->Int):FI δ c F 0 x 0:=⟨fun r h=>oM,fun j h=>oM,fun r s h=>oM,rfl⟩
theorem FI.old {F:Nat->Nat}{n i:Nat}(f:FI δ c F n x i){k:Nat}(hk:k<n)(h:Alk δ c (F k) i):FI δ c F n (fun j=>if j=i then (k:Int) else x j) (i+1):=by
 have hne:∀j,j<i->¬j=i:=fun j h=>oM
 refine ⟨fun r hr=>?_,fun j hj=>?_,f.ds,?_⟩
 ·obtain ⟨h1,h2⟩:=f.le r hr
  exact ⟨oM,by rw[if_neg (hne _ h1)]; exact h2⟩
 ·by_cases q:j=i
  ·subst q
   simp only[if_true,Int.toNat_natCast]
   exact ⟨oM,oM,h⟩
  ·simp only[if_neg q]
   exact f.cl j oM
 ·have hc:cntP (Neu fun j=>if j=i then (k:Int) else x j) i=cntP (Neu x) i:=b4k i fun j hj=>by
   constructor
   ·intro h2 j' hj' e
    refine h2 j' hj' ?_
    simp only[if_neg (hne j' oM),if_neg (hne j hj)]; exact e
   ·intro h2 j' hj' e
    simp only[if_neg (hne j' oM),if_neg (hne j hj)] at e
    exact h2 j' hj' e
  rw[a7v,hc]
  ·exact f.ct
  ·intro h2
   obtain ⟨h3,h4⟩:=f.le k hk
   refine h2 (F k) h3 ?_
   simp only[if_neg (hne _ h3),if_true]; exact h4
theorem FI.neu {F:Nat->Nat}{n i:Nat}(f:FI δ c F n x i)(h:∀k,k<n->¬Alk δ c (F k) i):FI δ c (fun r=>if r=n then i else F r) (n+1) (fun j=>if j=i then (n:Int) else x j) (i+1):=by
 have hne:∀j,j<i->¬j=i:=fun j h=>oM
 have hnn:∀j,j<n->¬j=n:=fun j h=>oM
 refine ⟨fun r hr=>?_,fun j hj=>?_,fun r s hr hs h2=>?_,?_⟩
 ·by_cases q:r=n
  ·subst q; simp only[if_true]; exact ⟨oM,trivial⟩
  ·obtain ⟨h1,h2⟩:=f.le r oM
   simp only[if_neg q,if_neg (hne _ h1)]; exact ⟨oM,h2⟩
 ·by_cases q:j=i
  ·subst q
   simp only[if_true,Int.toNat_natCast]
   exact ⟨oM,oM,Alk.refl j⟩
  ·obtain ⟨h1,h2,h3⟩:=f.cl j oM
   simp only[if_neg q,if_neg (hnn (x j).toNat oM)]
   exact ⟨h1,oM,h3⟩
 ·by_cases q:r=n
  ·subst q
   by_cases q2:s=r
   ·exact q2.symm
   ·simp only[if_true,if_neg q2] at h2
    exact absurd h2.symm (h s oM)
  ·by_cases q2:s=n
   ·subst q2
    simp only[if_true,if_neg q] at h2
    exact absurd h2 (h r oM)
   ·simp only[if_neg q,if_neg q2] at h2
    exact f.ds r s oM oM h2
 ·have hc:cntP (Neu fun j=>if j=i then (n:Int) else x j) i=cntP (Neu x) i:=b4k i fun j hj=>by
   constructor
   ·intro h2 j' hj' e
    refine h2 j' hj' ?_
    simp only[if_neg (hne j' oM),if_neg (hne j hj)]; exact e
   ·intro h2 j' hj' e
    simp only[if_neg (hne j' oM),if_neg (hne j hj)] at e
    exact h2 j' hj' e
  rw[a7u,hc,<-f.ct]
  intro j hj e
  simp only[if_neg (hne j hj),if_true] at e
  have:=f.cl j hj
  omega
theorem FI.fin {F:Nat->Nat}{n:Nat}(f:FI δ c F n x S):Finer δ S c x n:=by
 refine ⟨fun a b ha hb=>⟨fun h=>?_,fun h=>?_⟩,fun a ha=>⟨(f.cl a ha).1,(f.cl a ha).2.1⟩,f.ct⟩
 ·have h1:=(f.cl a ha).2.2
  have h2:=(f.cl b hb).2.2
  rw[h] at h1
  exact h1.symm.trans h2
 ·obtain ⟨a1,a2,a3⟩:=f.cl a ha
  obtain ⟨b1,b2,b3⟩:=f.cl b hb
  have:=f.ds _ _ oM oM ((a3.trans h).trans b3.symm)
  omega
end
end Go.Gm
namespace Go.Gm.AQ
open Go Go.Gm
def dl (D:List (List Int))(a m:Nat):Nat:=(nx D a m).toNat
section
variable {D:List (List Int)} {acc:List Bool} {h:Heap}
theorem dl_lt (ok:DOk D acc){a m:Nat}(ha:a<D.length)(hm:m<5):dl D a m<D.length:=by
 have:=ok.to a m oM oM oM oM
 have:0<=nx D a m/\nx D a m<D.length:=this
 rw[dl]; omega
theorem cellN {sD:AV}(ok:DOk D acc)(hD:Sl h 5 sD (D.map encR)){H:Heap}(e:Ext h H){a m:Nat}(ha:a<D.length)(hm:m<5) :
  ∃p,idxA 5 1 (elP 5 sD a) (I m)=some p/\Gm.ld1 H p=some (I (dl D a m)):=by
 obtain ⟨p,p1,p2,-⟩:=cellA (H:=H) hD e (i:=(a:Int)) (j:=(m:Int)) oM oM oM oM
 have hr:=ok.row a oM oM
 have h2:0<=nx D a m/\nx D a m<D.length:=ok.to a m oM oM oM oM
 refine ⟨p,p1,p2.trans ?_⟩
 simp only[encR,List.getD_eq_getElem?_getD,List.getElem?_map,Int.toNat_natCast]
 have:=c1_ (xs:=gi D a) (i:=(m:Int)) oM oM
 rw[Int.toNat_natCast] at this
 rw[this]
 show some (I (nx D a m))=some (I ((nx D a m).toNat:Int))
 rw[show ((nx D a m).toNat:Int)=nx D a m by omega]
theorem c1p {sD sA sc:AV}{cs:List Int}{a b od:Nat}(ok:DOk D acc)(hD:Sl h 5 sD (D.map encR))(hc:Sl h 1 sc (cs.map encI))(lc:cs.length=D.length)(ha:a<D.length)(hb:b<D.length)(he:gf cs a=gf cs b)(rd:h[od]?=some (.cells ⟨[sD,sA],0,0,false⟩)) :
  ∀(d m:Nat),m+d=5->(∀m',m'<m->gf cs (dl D a m')=gf cs (dl D b m'))->
   WP (fun p:Nat × Nat=>y3_ p.1 p.2 sc (I a) (I b) (.ptr od 0 2 0) (I m) h) fun r h'=>h=h'/\∃t,r=.bool t/\(t=true↔Alk (dl D) (gf cs) a b):=by
 intro d
 induction d with
 |zero=>
  intro m h1 hm
  refine WP.rnd (fun i j=>a3K i j sc (I a) (I b) (.ptr od 0 2 0) (I m) h) ?_
  obtain rfl:m=5:=oM
  refine g0 ?_
  exact WP.ret ⟨rfl,true,rfl,fun _=>⟨he,hm⟩,fun _=>rfl⟩
 |succ d ih=>
  intro m h1 hm
  refine WP.rnd (fun i j=>a3K i j sc (I a) (I b) (.ptr od 0 2 0) (I m) h) ?_
  obtain ⟨p,p1,p2⟩:=cellN ok hD (Ext.refl h) ha (m:=m) oM
  obtain ⟨q,q1,q2⟩:=cellN ok hD (Ext.refl h) hb (m:=m) oM
  have x1:=dl_lt ok ha (m:=m) oM
  have x2:=dl_lt ok hb (m:=m) oM
  by_cases q:gi cs (dl D a m:Int)=gi cs (dl D b m:Int)
  ·simp -implicitDefEqProofs (disch:=first|assumption|omega|exact Ext.refl _|(simp only[gL,gA]<;>omega)|fail) only[gC,reduceIte,rd,hD.idxG,p1,p2,q1,q2,hc.idxG,hc.ld0,encI,q]
   refine ih (m+1) oM fun m' hm'=>?_
   by_cases z:m'=m
   ·subst z; exact q
   ·exact hm m' oM
  ·simp -implicitDefEqProofs (disch:=first|assumption|omega|exact Ext.refl _|(simp only[gL,gA]<;>omega)|fail) only[gC,reduceIte,rd,hD.idxG,p1,p2,q1,q2,hc.idxG,hc.ld0,encI]
   exact WP.ret ⟨rfl,false,rfl,fun z=>by simp at z,fun z=>absurd (z.2 m oM) q⟩
theorem b8L {sD sA sc:AV}{cs:List Int}{a b:Nat}(ok:DOk D acc)(hD:Sl h 5 sD (D.map encR))(hA:Sl h 1 sA (acc.map encB))(hc:Sl h 1 sc (cs.map encI))(lc:cs.length=D.length)(ha:a<D.length)(hb:b<D.length) :
  Tot tab a0j [.agg [sD,sA],sc,I a,I b] h fun r h'=>Ext h h'/\∃t,r=.bool t/\(t=true↔Alk (dl D) (gf cs) a b):=by
 refine WP.tot (fun k=>b0k k _ _ _ _ h) ?_
 obtain ⟨h1,hh1⟩:∃h1,h1=h++[AObj.cells ⟨[sD,sA],0,0,false⟩]:=⟨_,rfl⟩
 have e1:Ext h h1:=by rw[hh1]; exact Ext.push _ _
 have rd:h1[h.length]?=some (.cells ⟨[sD,sA],0,0,false⟩):=by rw[hh1]; simp
 have hc1:=hc.ext e1
 by_cases q:gi cs (a:Int)=gi cs (b:Int)
 ·refine g5 hD.one hD.cells hA.one hA.cells hc.idxG ?_
  rw[<-hh1]
  refine g3 hc1.ld0 @encI.eq_1 @q ?_
  refine WP.ent ((c1p ok (hD.ext e1) hc1 lc ha hb q rd 5 0 oM fun m hm=>oM).mono ?_) fun i=>rfl
  rintro r h' ⟨rfl,t,rfl,ht⟩
  exact ⟨e1,t,rfl,ht⟩
 ·refine g5 hD.one hD.cells hA.one hA.cells hc.idxG ?_
  rw[<-hh1]
  refine g2 hc1.ld0 @encI.eq_1 ?_
  exact WP.ret ⟨e1,false,rfl,fun z=>by simp at z,fun z=>absurd z.1 q⟩
def encN (n:Nat):List AV:=[I n]
theorem b7O (F:List Nat)(i:Nat):gf (F++[i])=fun r:Nat=>if r=F.length then i else gf F r:=by
 funext r
 simp only[gf,gi,Int.toNat_natCast,List.getD_eq_getElem?_getD]
 by_cases q:r<F.length
 ·rw[List.getElem?_append_left q,if_neg oM]
 ·by_cases q2:r=F.length
  ·subst q2; simp
  ·rw[if_neg q2,List.getElem?_eq_none (by simp; omega),List.getElem?_eq_none oM]
theorem c1q {sD sA sc out first:AV}{cs:List Int}{F:List Nat}{i od:Nat}{Q:AV->Heap->Prop}(ok:DOk D acc)(hD:Sl h 5 sD (D.map encR))(hA:Sl h 1 sA (acc.map encB))(hc:Sl h 1 sc (cs.map encI))(lc:cs.length=D.length)(rd:h[od]?=some (.cells ⟨[sD,sA],0,0,false⟩))(hF:Sl h 1 first (F.map encN))(hFS:∀r,r<F.length->gf F r<D.length)(hFl:F.length<=100000)(hi:i<D.length)(hQ:∀h' kk,Ext h h'->kk<=F.length->(kk<F.length->Alk (dl D) (gf cs) (gf F kk) i)->(∀k,k<kk->¬Alk (dl D) (gf cs) (gf F k) i)->
   WP (fun p:Nat × Nat=>a1K p.1 p.2 sc (.ptr od 0 2 0) out first (I i) (I kk) h') Q) :
  ∀(d k:Nat) (h1:Heap),k+d=F.length->Ext h h1->(∀k',k'<k->¬Alk (dl D) (gf cs) (gf F k') i)->
   WP (fun p:(Nat × Nat) × Nat=>y2_ p.1.1 p.1.2 p.2 sc (.ptr od 0 2 0) out first (I i) (I k) h1) Q:=by
 intro d
 induction d with
 |zero=>
  intro k h1 hk e hn
  refine WP.rnd (fun i' j=>a3G i'.1 i'.2 j sc (.ptr od 0 2 0) out first (I i) (I k) h1) ?_
  obtain rfl:k=F.length:=oM
  have hF1:=hF.ext e
  refine g1 hF1.lenG ?_
  exact WP.lv (hQ h1 F.length e (Nat.le_refl _) (fun z=>oM) hn) fun i j=>rfl
 |succ d ih=>
  intro k h1 hk e hn
  refine WP.rnd (fun i' j=>a3G i'.1 i'.2 j sc (.ptr od 0 2 0) out first (I i) (I k) h1) ?_
  have hF1:=hF.ext e
  have rd1:=e.get rd
  have hkF:k<F.length:=oM
  obtain ⟨f,hf⟩:∃f,gi F (k:Int)=f:=⟨_,rfl⟩
  have hfS:f<D.length:=hf▸hFS k hkF
  refine g6 hF1.lenG hF1.idxG hF1.ld0 @hf @encN.eq_1 @rd1 ?_
  refine WP.call (b8L ok (hD.ext e) (hA.ext e) (hc.ext e) lc hfS hi) ?_
  rintro _ h2 ⟨e2,t,rfl,ht⟩
  cases t with
  |true=>
   refine g0 ?_
   refine WP.lv (hQ h2 k (e.trans e2) oM (fun _=>?_) hn) fun i j=>rfl
   rw[show gf F k=f from hf]; exact ht.1 rfl
  |false=>
   refine g0 ?_
   refine ih (k+1) h2 oM (e.trans e2) fun k' hk'=>?_
   by_cases z:k'=k
   ·subst z
    rw[show gf F k'=f from hf]
    intro z2
    have:=ht.2 z2
    simp at this
   ·exact hn k' oM
theorem c1r {hb:Heap}{sD sA sc out:AV}{cs:List Int}{od oo:Nat}(ok:DOk D acc)(hD:Sl hb 5 sD (D.map encR))(hA:Sl hb 1 sA (acc.map encB))(hc:Sl hb 1 sc (cs.map encI))(lc:cs.length=D.length)(rd:hb[od]?=some (.cells ⟨[sD,sA],0,0,false⟩))(ho:hb.length<=oo) :
  ∀(d i:Nat) (h:Heap) (first:AV) (xs:List Int) (F:List Nat),i+d=D.length->Ext hb h->oo<h.length->Gr oo (oo+1) h 1 out (xs.map encI)->xs.length=D.length->Gr (oo+1) h.length h 1 first (F.map encN)->
   FI (dl D) (gf cs) (gf F) F.length (gf xs) i->
   WP (fun p:Nat × Nat=>y1_ p.1 p.2 sc (.ptr od 0 2 0) out first (I i) h) fun r h'=>Ext hb h'/\∃(k:Nat) (xs:List Int),r=.tup [out,I k]/\Gr oo (oo+1) h' 1 out (xs.map encI)/\xs.length=D.length/\Finer (dl D) D.length (gf cs) (gf xs) k:=by
 have l1:=ok.l1
 intro d
 induction d with
 |zero=>
  intro i h first xs F h1 e hoo g lx gF fi
  refine WP.rnd (fun i' j=>a3H i' j sc (.ptr od 0 2 0) out first (I i) h) ?_
  obtain rfl:i=D.length:=oM
  have hc1:=hc.ext e
  refine g2 hc1.lenG @lc ?_
  refine WP.lv (WP.congr (fun k:Nat=>a8q k out first h) ?_) fun i j=>rfl
  refine g1 gF.sl.lenG ?_
  exact WP.ret ⟨e,F.length,xs,rfl,g,lx,fi.fin⟩
 |succ d ih=>
  intro i h first xs F h1 e hoo g lx gF fi
  refine WP.rnd (fun i' j=>a3H i' j sc (.ptr od 0 2 0) out first (I i) h) ?_
  have hc1:=hc.ext e
  have hiD:i<D.length:=oM
  have hFn:F.length<=i:=by rw[fi.ct]; exact b2C _ _
  refine g2 hc1.lenG @lc ?_
  refine WP.ent (c1q ok (hD.ext e) (hA.ext e) hc1 lc (e.get rd) gF.sl (fun r hr=>?_) oM hiD (fun h2 kk e2 k1 k2 k3=>?_) F.length 0 h oM (Ext.refl _) fun k' hk'=>oM) fun i=>rfl
  ·have:=(fi.le r hr).1; omega
  ·refine WP.congr (fun p=>a8p p.1 p.2 sc (.ptr od 0 2 0) out first (I i) (I kk) h2) ?_
   have gF2:=gF.ext e2
   have l2:=e2.len
   by_cases q:kk=F.length
   ·have hcz:gf (xs.set i (F.length:Int))=fun j=>if j=i then (F.length:Int) else gf xs j:=gset oM _
    obtain ⟨s',h3,q1,q2,q3⟩:=Gr.append1 (bytes:=8) (gF2.low h2.length (Nat.le_refl _)) (v:=encN i) rfl oM oM (by simp; omega) oM (Nat.le_refl _)
    rw[a3_] at q1
    simp only[encN] at q1
    have l3:=q3.1
    have g3:=(g.ext e2).fr q3 (.inl (Nat.le_refl _))
    have e3:Ext hb h3:=q3.ext (e.trans e2) oM
    obtain ⟨h4,w1,w2,w3,w4⟩:=g3.write0 (i:=(i:Int)) (v:=I F.length) oM (by simp; omega) rfl rfl
    refine g2 gF2.sl.lenG @q1 ?_
    refine WP.congr (fun p=>a3F p.1 p.2 sc (.ptr od 0 2 0) out s' (I i) (I kk) h3) ?_
    rw[q]
    refine g2 g3.sl.idxG @w1 ?_
    refine WP.congr (fun p=>a3E p.1 p.2 sc (.ptr od 0 2 0) out s' (I i) h4) ?_
    refine g0 ?_
    refine ih (i+1) h4 s' (xs.set i (F.length:Int)) (F++[i]) oM (w3.ext e3 oM) oM (w2.cong ?_) (by simpa using lx) (((q2.fr w3 (.inr (Nat.le_refl _))).mono (Nat.le_refl _) oM).cong ?_) ?_
    ·rw[List.map_set]; rfl
    ·rw[List.map_append]; rfl
    ·rw[b7O,hcz,List.length_append]
     exact fi.neu fun k hk=>k3 k oM
   ·have hkk:kk<F.length:=oM
    have hcz:gf (xs.set i (kk:Int))=fun j=>if j=i then (kk:Int) else gf xs j:=gset oM _
    have g3:=g.ext e2
    obtain ⟨h4,w1,w2,w3,w4⟩:=g3.write0 (i:=(i:Int)) (v:=I kk) oM (by simp; omega) rfl rfl
    refine g1 gF2.sl.lenG ?_
    refine WP.congr (fun p=>a3F p.1 p.2 sc (.ptr od 0 2 0) out first (I i) (I kk) h2) ?_
    refine g2 g3.sl.idxG @w1 ?_
    refine WP.congr (fun p=>a3E p.1 p.2 sc (.ptr od 0 2 0) out first (I i) h4) ?_
    refine g0 ?_
    refine ih (i+1) h4 first (xs.set i (kk:Int)) F oM (w3.ext (e.trans e2) oM) oM (w2.cong ?_) (by simpa using lx) ((gF2.fr w3 (.inr (Nat.le_refl _))).mono (Nat.le_refl _) oM) ?_
    ·rw[List.map_set]; rfl
    ·rw[hcz]; exact fi.old hkk (k2 hkk)
theorem b8M {sD sA sc:AV}{cs:List Int}(ok:DOk D acc)(hD:Sl h 5 sD (D.map encR))(hA:Sl h 1 sA (acc.map encB))(hc:Sl h 1 sc (cs.map encI))(lc:cs.length=D.length) :
  Tot tab e2_ [.agg [sD,sA],sc] h fun r h'=>Ext h h'/\∃(out:AV) (k:Nat) (xs:List Int),r=.tup [out,I k]/\Gr h.length h'.length h' 1 out (xs.map encI)/\xs.length=D.length/\Finer (dl D) D.length (gf cs) (gf xs) k:=by
 refine WP.tot (fun k=>b0j k _ _ h) ?_
 have l1:=ok.l1
 obtain ⟨h1,hh1⟩:∃h1,h1=h++[AObj.cells ⟨[sD,sA],0,0,false⟩]:=⟨_,rfl⟩
 have e1:Ext h h1:=by rw[hh1]; exact Ext.push _ _
 have rd:h1[h.length]?=some (.cells ⟨[sD,sA],0,0,false⟩):=by rw[hh1]; simp
 have hl1:h1.length=h.length+1:=by rw[hh1]; simp
 obtain ⟨s2,h2,a2,g2,e2,_,l2⟩:=g0_ (zero:=[AV.int .i64 0]) (sz:=1) (bytes:=8) (n:=(D.length:Int)) h1 oM oM oM rfl rfl
 have hre:List.replicate (D.length:Int).toNat [AV.int .i64 0]=(List.replicate D.length (0:Int)).map encI:=by simp[encI,I]
 rw[hre] at g2
 refine g6 hD.one hD.cells hA.one hA.cells hc.lenG @lc ?_
 rw[<-hh1]
 refine g1 @a2 ?_
 refine WP.ent ((c1r ok (hD.ext e1) (hA.ext e1) (hc.ext e1) lc rd (Nat.le_refl _) D.length 0 h2 .nils _ [] oM e2 oM g2 (by simp) (Gr.nil ..) (FI.zero ..)).mono ?_) fun i=>rfl
 rintro r h3 ⟨e3,k,xs,rfl,g3,lx,f3⟩
 exact ⟨e1.trans e3,s2,k,xs,rfl,(g3.low _ (Nat.le_refl _)).mono oM (Nat.le_refl _),lx,f3⟩
end
end Go.Gm.AQ
namespace Go.Gm.AQ
open Go Go.Gm
section
variable {D:List (List Int)} {acc:List Bool} {h:Heap}
theorem b9J {hb:Heap}{sD sA:AV}{od:Nat}(ok:DOk D acc)(hD:Sl hb 5 sD (D.map encR))(hA:Sl hb 1 sA (acc.map encB))(rd:hb[od]?=some (.cells ⟨[sD,sA],0,0,false⟩)) :
  ∀(d:Nat) (n:Nat) (h:Heap) (sc:AV) (cs:List Int),D.length+1<=d+n->Ext hb h->Gr hb.length h.length h 1 sc (cs.map encI)->cs.length=D.length->(n=0\/n=cntP (Neu (gf cs)) D.length)->(∀a b,a<D.length->b<D.length->gf cs a=gf cs b->gi acc (a:Int)=gi acc (b:Int))->
   WP (fun p:Nat × Nat=>v5_ p.1 p.2 (.ptr od 0 2 0) sc (I n) h) fun r h'=>Ext hb h'/\∃xs:List Int,Gr hb.length h'.length h' 1 r (xs.map encI)/\xs.length=D.length/\Stab (dl D) (fun a:Nat=>gi acc (a:Int)) D.length (gf xs):=by
 have l0:=ok.l0
 have l1:=ok.l1
 intro d
 induction d with
 |zero=>
  intro n h sc cs h1 e g lc hn hac
  have:n<=D.length:=by
   rcases hn with rfl|rfl
   ·omega
   ·exact b2C _ _
  omega
 |succ d ih=>
  intro n h sc cs h1 e g lc hn hac
  refine WP.rnd (fun i' j=>a7L i' j (.ptr od 0 2 0) sc (I n) h) ?_
  have rd1:=e.get rd
  simp -implicitDefEqProofs (disch:=first|assumption|omega|(simp only[gL,gA]<;>omega)|fail) only[gC,reduceIte,rd1]
  refine WP.call (b8M ok (hD.ext e) (hA.ext e) g.sl lc) ?_
  rintro _ h2 ⟨e2,out,k,xs,rfl,g2,lx,f2⟩
  have l2:=e.len
  have g2':Gr hb.length h2.length h2 1 out (xs.map encI):=g2.mono l2 (Nat.le_refl _)
  by_cases q:k=n
  ·simp -implicitDefEqProofs (disch:=first|assumption|omega|(simp only[gL,gA]<;>omega)|fail) only[gC,reduceIte,a4_,a5_]
   refine WP.ret ⟨e.trans e2,xs,g2',lx,?_⟩
   refine f2.stab ?_ (fun a m ha hm=>dl_lt ok ha hm) hac
   rcases hn with hn|hn
   ·have:=f2.pos l0; omega
   ·omega
  ·have hkn:n<k:=by
    rcases hn with hn|hn
    ·have:=f2.pos l0; omega
    ·have:=f2.le; omega
   simp -implicitDefEqProofs (disch:=first|assumption|omega|(simp only[gL,gA]<;>omega)|fail) only[gC,reduceIte,a4_,a5_]
   refine ih k h2 out xs (by omega) (e.trans e2) g2' lx (.inr f2.cnt) fun a b ha hb hab=>hac a b ha hb ((f2.al a b ha hb).1 hab).1
theorem b9K {hb:Heap}{sD sA sc:AV}{od:Nat}(ok:DOk D acc)(hD:Sl hb 5 sD (D.map encR))(hA:Sl hb 1 sA (acc.map encB))(rd:hb[od]?=some (.cells ⟨[sD,sA],0,0,false⟩)) :
  ∀(d i:Nat) (h:Heap) (cs:List Int),i+d=D.length->Ext hb h->hb.length+1=h.length->Gr hb.length (hb.length+1) h 1 sc (cs.map encI)->cs.length=D.length->(∀a:Nat,a<D.length->gf cs a=if a<i/\gi acc (a:Int)=true then 1 else 0)->
   WP (fun p:Nat × Nat=>n5_ p.1 p.2 (.ptr od 0 2 0) sc (I i) h) fun r h'=>Ext hb h'/\∃xs:List Int,Gr hb.length h'.length h' 1 r (xs.map encI)/\xs.length=D.length/\Stab (dl D) (fun a:Nat=>gi acc (a:Int)) D.length (gf xs):=by
 have l0:=ok.l0
 have l1:=ok.l1
 have la:=ok.la
 intro d
 induction d with
 |zero=>
  intro i h cs h1 e hl g lc hv
  refine WP.rnd (fun i' j=>a2U i' j (.ptr od 0 2 0) sc (I i) h) ?_
  obtain rfl:i=D.length:=oM
  refine g2 g.sl.lenG @lc ?_
  refine WP.lv (WP.congr (fun k:Nat=>a7M k (.ptr od 0 2 0) sc h) ?_) fun i j=>rfl
  refine WP.ent (b9J ok hD hA rd (D.length+1) 0 h sc cs oM e (g.low _ (Nat.le_refl _)) lc (.inl rfl) fun a b ha hb hab=>?_) fun i=>rfl
  rw[hv a ha,hv b hb] at hab
  by_cases qa:gi acc (a:Int)=true
  ·by_cases qb:gi acc (b:Int)=true
   ·rw[qa,qb]
   ·rw[if_pos ⟨ha,qa⟩,if_neg fun z=>qb z.2] at hab; omega
  ·by_cases qb:gi acc (b:Int)=true
   ·rw[if_neg fun z=>qa z.2,if_pos ⟨hb,qb⟩] at hab; omega
   ·rw[Bool.not_eq_true] at qa qb; rw[qa,qb]
 |succ d ih=>
  intro i h cs h1 e hl g lc hv
  refine WP.rnd (fun i' j=>a2U i' j (.ptr od 0 2 0) sc (I i) h) ?_
  have hA1:=hA.ext e
  have rd1:=e.get rd
  have hiD:i<D.length:=oM
  obtain ⟨b,hb'⟩:∃b,gi acc (i:Int)=b:=⟨_,rfl⟩
  cases b with
  |true=>
   obtain ⟨h4,w1,w2,w3,w4⟩:=g.write0 (i:=(i:Int)) (v:=I 1) oM (by simp; omega) rfl rfl
   refine g9 g.sl.lenG @lc @rd1 hA1.idxG hA1.ld0 @hb' @encB.eq_1 g.sl.idxG @w1 ?_
   refine ih (i+1) h4 (cs.set i 1) oM (w3.ext e (Nat.le_refl _)) oM (w2.cong ?_) (by simpa using lc) fun a ha=>?_
   ·rw[List.map_set]; rfl
   ·rw[show gf (cs.set i 1)=_ from gset oM 1]
    by_cases q:a=i
    ·subst q; simp[hb']
    ·simp only[if_neg q]
     rw[show gi cs (a:Int)=gf cs a from rfl,hv a ha]
     by_cases q2:a<i
     ·simp[q2,show a<i+1 by omega]
     ·simp[q2,show ¬a<i+1 by omega]
  |false=>
   refine g7 g.sl.lenG @lc @rd1 hA1.idxG hA1.ld0 @hb' @encB.eq_1 ?_
   refine ih (i+1) h cs oM e hl g lc fun a ha=>?_
   rw[hv a ha]
   by_cases q:a=i
   ·subst q; simp[hb']
   ·by_cases q2:a<i
    ·simp[q2,show a<i+1 by omega]
    ·simp[q2,show ¬a<i+1 by omega]
theorem b7w {sD sA:AV}(ok:DOk D acc)(hD:Sl h 5 sD (D.map encR))(hA:Sl h 1 sA (acc.map encB)) :
  Tot tab j5_ [.agg [sD,sA]] h fun r h'=>Ext h h'/\∃xs:List Int,Gr h.length h'.length h' 1 r (xs.map encI)/\xs.length=D.length/\Stab (dl D) (fun a:Nat=>gi acc (a:Int)) D.length (gf xs):=by
 refine WP.tot (fun k=>a9B k _ h) ?_
 have l1:=ok.l1
 obtain ⟨h1,hh1⟩:∃h1,h1=h++[AObj.cells ⟨[sD,sA],0,0,false⟩]:=⟨_,rfl⟩
 have e1:Ext h h1:=by rw[hh1]; exact Ext.push _ _
 have rd:h1[h.length]?=some (.cells ⟨[sD,sA],0,0,false⟩):=by rw[hh1]; simp
 have hl1:h1.length=h.length+1:=by rw[hh1]; simp
 obtain ⟨s2,h2,a2,g2,e2,_,l2⟩:=g0_ (zero:=[AV.int .i64 0]) (sz:=1) (bytes:=8) (n:=(D.length:Int)) h1 oM oM oM rfl rfl
 have hre:List.replicate (D.length:Int).toNat [AV.int .i64 0]=(List.replicate D.length (0:Int)).map encI:=by simp[encI,I]
 rw[hre] at g2
 refine g5 hD.one hD.cells hA.one hA.cells hD.lenG ?_
 rw[<-hh1]
 refine g1 @a2 ?_
 refine WP.ent ((b9K ok (hD.ext e1) (hA.ext e1) rd D.length 0 h2 _ oM e2 oM g2 (by simp) fun a ha=>?_).mono ?_) fun i=>rfl
 ·rw[if_neg oM]
  exact w2_ oM oM
 ·rintro r h3 ⟨e3,xs,g3,lx,f3⟩
  exact ⟨e1.trans e3,xs,g3.mono oM (Nat.le_refl _),lx,f3⟩
end
end Go.Gm.AQ
namespace Go.Gm
section
variable {δ:Nat->Nat->Nat} {S n:Nat} {x rk:Nat->Int} {s:Nat->Nat} {acc:Nat->Bool}
structure PMs (x:Nat->Int) (S:Nat) (rk:Nat->Int) (s:Nat->Nat) (n:Nat):Prop where
 lt:∀j,j<n->s j<S
 rel:∀v:Nat,v<S->(rk v=0/\∀j,j<n->x (s j)≠v)\/∃j:Nat,j<n/\rk v=j+1/\x (s j)=v
 ct:un S (fun v=>rk v-1)+n=S
theorem PMs.le (p:PMs x S rk s n):n<=S:=by
 have:=p.ct
 have:=m1_ S (fun v=>rk v-1)
 omega
theorem PMs.has (p:PMs x S rk s n){v:Nat}(hv:v<S)(h:rk v≠0):∃j:Nat,j<n/\rk v=j+1/\x (s j)=v:=by
 rcases p.rel v hv with ⟨h1,_⟩|h1
 ·exact absurd h1 h
 ·exact h1
theorem PMs.neu (p:PMs x S rk s n){v to:Nat}(hv:v<S)(ht:to<S)(hx:x to=v)(h:rk v=0):PMs x S (up rk v (n+1)) (fun r=>if r=n then to else s r) (n+1):=by
 have hnn:∀j,j<n->¬j=n:=fun j h=>oM
 refine ⟨fun j hj=>?_,fun w hw=>?_,?_⟩
 ·by_cases q:j=n
  ·simp only[if_pos q]; exact ht
  ·simp only[if_neg q]; exact p.lt j oM
 ·by_cases q:w=v
  ·subst q
   refine .inr ⟨n,oM,?_,?_⟩
   ·simp[up]
   ·simp only[if_true]; exact hx
  ·rcases p.rel w hw with ⟨h1,h2⟩|⟨j,h1,h2,h3⟩
   ·refine .inl ⟨by rw[up,if_neg q]; exact h1,fun j hj=>?_⟩
    by_cases q2:j=n
    ·simp only[if_pos q2]; rw[hx]; omega
    ·simp only[if_neg q2]; exact h2 j oM
   ·refine .inr ⟨j,oM,by rw[up,if_neg q]; exact h2,?_⟩
    simp only[if_neg (hnn j h1)]; exact h3
 ·have e:(fun w=>up rk v (n+1) w-1)=up (fun w=>rk w-1) v n:=by
   funext w
   simp only[up]
   split<;>omega
  rw[e,un_up hv oM,if_pos oM]
  have:=p.ct
  omega
def POw (δ:Nat->Nat->Nat)(acc:Nat->Bool)(x:Nat->Int)(s:Nat->Nat)(n:Nat)(nxt:Nat->Nat->Int)(ac:Nat->Bool)(i:Nat):Prop:=
 ∀a,a<i->ac a=acc (s a)/\∀m,m<5->∃j:Nat,j<n/\nxt a m=j/\x (s j)=x (δ (s a) m)
def PRw (δ:Nat->Nat->Nat)(x:Nat->Int)(s:Nat->Nat)(n:Nat)(a:Nat)(nx:Nat->Int)(m:Nat):Prop:=∀m',m'<m->∃j:Nat,j<n/\nx m'=j/\x (s j)=x (δ a m')
theorem POw.grow {nxt:Nat->Nat->Int}{ac:Nat->Bool}{i:Nat}(p:POw δ acc x s n nxt ac i)(hi:i<=n)(to:Nat):POw δ acc x (fun r=>if r=n then to else s r) (n+1) nxt ac i:=by
 intro a ha
 obtain ⟨h1,h2⟩:=p a ha
 refine ⟨by simp only[if_neg (show ¬a=n by omega)]; exact h1,fun m hm=>?_⟩
 obtain ⟨j,k1,k2,k3⟩:=h2 m hm
 refine ⟨j,oM,k2,?_⟩
 simp only[if_neg (show ¬a=n by omega),if_neg (show ¬j=n by omega)]
 exact k3
theorem PRw.grow {nx:Nat->Int}{a m:Nat}(p:PRw δ x s n a nx m)(to:Nat):PRw δ x (fun r=>if r=n then to else s r) (n+1) a nx m:=by
 intro m' hm
 obtain ⟨j,k1,k2,k3⟩:=p m' hm
 refine ⟨j,oM,k2,?_⟩
 simp only[if_neg (show ¬j=n by omega)]
 exact k3
end
end Go.Gm
namespace Go.Gm.AQ
open Go Go.Gm
section
variable {D:List (List Int)} {acc:List Bool} {h:Heap}
structure MI (S:Nat) (hb h:Heap) (rank states sN sA:AV) (oS oN oA:Nat) (rk:List Int) (Ss:List Nat) (D':List (List Int)) (acc':List Bool):Prop where
 eb:Ext hb h
 ro:h[hb.length]?=some (.cells ⟨[sN,sA],0,0,false⟩)
 gr:Gr (hb.length+1) (hb.length+2) h 1 rank (rk.map encI)
 gs:Gr oS (oS+1) h 1 states (Ss.map encN)
 gn:Gr oN (oN+1) h 5 sN (D'.map encR)
 ga:Gr oA (oA+1) h 1 sA (acc'.map encB)
 ps:states≠.nils->hb.length+2<=oS/\oS<h.length
 pn:sN≠.nils->hb.length+2<=oN/\oN<h.length/\(states≠.nils->oN≠oS)
 pa:sA≠.nils->hb.length+2<=oA/\oA<h.length/\(states≠.nils->oA≠oS)/\(sN≠.nils->oA≠oN)
 lr:rk.length=S
 bl:hb.length+2<=h.length
section
variable {S:Nat} {hb:Heap} {rank states sN sA:AV} {oS oN oA:Nat} {rk:List Int} {Ss:List Nat} {D':List (List Int)} {acc':List Bool}
theorem MI.ext (p:MI S hb h rank states sN sA oS oN oA rk Ss D' acc'){h':Heap}(e:Ext h h'):MI S hb h' rank states sN sA oS oN oA rk Ss D' acc':=by
 have l:=e.len
 refine ⟨p.eb.trans e,e.get p.ro,p.gr.ext e,p.gs.ext e,p.gn.ext e,p.ga.ext e,fun z=>?_,fun z=>?_,fun z=>?_,p.lr,by have:=p.bl; omega⟩
 ·have:=p.ps z; omega
 ·have:=p.pn z; exact ⟨this.1,oM,this.2.2⟩
 ·have:=p.pa z; exact ⟨this.1,oM,this.2.2⟩
theorem MI.frs (p:MI S hb h rank states sN sA oS oN oA rk Ss D' acc'){h':Heap}{o:Nat}(f:FrS (fun q=>q=o) h h')(ho:hb.length+2<=o)(h1:states≠.nils->o≠oS)(h2:sN≠.nils->o≠oN)(h3:sA≠.nils->o≠oA):MI S hb h' rank states sN sA oS oN oA rk Ss D' acc':=by
 have l:=f.len
 have bl:=p.bl
 have nl:∀{lo:Nat} {sz:Nat} {s:AV} {xs:List (List AV)},Gr lo (lo+1) h sz s xs->(s≠.nils->o≠lo)->Gr lo (lo+1) h' sz s xs:=by
  intro lo sz s xs g hq
  by_cases q:s=.nils
  ·subst q
   have:=g.isNil
   subst this
   exact Gr.nil ..
  ·exact g.frs f fun r r1 r2=>by have:=hq q; omega
 refine ⟨f.ext p.eb fun q q1=>oM,by rw[f.get oM oM]; exact p.ro,p.gr.frs f fun q q1 q2=>oM,nl p.gs h1,nl p.gn h2,nl p.ga h3,fun z=>?_,fun z=>?_,fun z=>?_,p.lr,oM⟩
 ·have:=p.ps z; omega
 ·have:=p.pn z; exact ⟨this.1,oM,this.2.2⟩
 ·have:=p.pa z; exact ⟨this.1,oM,this.2.2⟩
theorem MI.addS (p:MI S hb h rank states sN sA oS oN oA rk Ss D' acc')(to:Nat)(hl:Ss.length<=100000) :
  ∃s' h' o',apnd 1 8 states (.sl h.length 0 1 1 none 0) (h++[AObj.cells ⟨[I to],0,0,false⟩])=some (s',h')/\MI S hb h' rank s' sN sA o' oN oA rk (Ss++[to]) D' acc'/\FrS (fun q=>states≠.nils/\q=oS) h h'/\(s'≠.nils->(o'=oS/\states≠.nils)\/h.length<=o'):=by
 have b:=Gr.lit (h:=h) (sz:=1) (v:=encN to) rfl
 rw[a3_] at b
 have e1:Ext h (h++[AObj.cells ⟨encN to,0,0,false⟩]):=Ext.push _ _
 obtain ⟨s',h',o',q1,q2,q3,q4⟩:=(p.gs.ext e1).appP (fun z=>by have:=p.ps z; simp; omega) b.sl oM (bytes:=8) oM (by simp; omega)
 have f:=(FrS.ofExt (D:=fun q=>states≠.nils/\q=oS) e1).trans q4
 have l:=f.len
 have bl:=p.bl
 have l1:(h++[AObj.cells ⟨encN to,0,0,false⟩]).length=h.length+1:=by simp
 have ps:=p.ps
 have pn:=p.pn
 have pa:=p.pa
 have q3':s'≠.nils->(o'=oS/\states≠.nils)\/h.length<=o':=fun z=>by
  rcases (q3 z).1 with q|q
  ·exact .inl q
  ·exact .inr oM
 have nl:∀{lo:Nat} {sz:Nat} {s:AV} {xs:List (List AV)},Gr lo (lo+1) h sz s xs->(s≠.nils->states≠.nils->lo≠oS)->Gr lo (lo+1) h' sz s xs:=by
  intro lo sz s xs g hq
  by_cases q:s=.nils
  ·subst q
   have:=g.isNil
   subst this
   exact Gr.nil ..
  ·exact g.frs f fun r r1 r2 z=>by have:=hq q z.1; omega
 refine ⟨s',h',o',q1,⟨f.ext p.eb fun q z1 z2=>by have:=ps z2.1; omega,by rw[f.get (fun z=>by have:=ps z.1; omega) oM]; exact p.ro,p.gr.frs f fun q z1 z2 z3=>by have:=ps z3.1; omega,q2.cong (by simp[encN]),nl p.gn fun z1 z2=>(pn z1).2.2 z2,nl p.ga fun z1 z2=>(pa z1).2.2.1 z2,fun z=>?_,fun z=>?_,fun z=>?_,p.lr,oM⟩,f,q3'⟩
 ·have h1:=(q3 z).2
  rcases q3' z with ⟨h2,h3⟩|h2
  ·have:=ps h3; omega
  ·omega
 ·have h1:=pn z
  refine ⟨h1.1,oM,fun z2=>?_⟩
  rcases q3' z2 with ⟨h2,h3⟩|h2
  ·have:=h1.2.2 h3; omega
  ·omega
 ·have h1:=pa z
  refine ⟨h1.1,oM,fun z2=>?_,h1.2.2.2⟩
  rcases q3' z2 with ⟨h2,h3⟩|h2
  ·have:=h1.2.2.1 h3; omega
  ·omega
theorem MI.setRk (p:MI S hb h rank states sN sA oS oN oA rk Ss D' acc'){v:Nat}(hv:v<S)(k:Int) :
  ∃h',stN 1 h (elP 1 rank v) (I k)=some h'/\MI S hb h' rank states sN sA oS oN oA (rk.set v k) Ss D' acc'/\FrS (fun q=>q=hb.length+1) h h':=by
 obtain ⟨h',w1,w2,w3,w4⟩:=p.gr.write0 (i:=(v:Int)) (v:=I k) oM (by rw[List.length_map,p.lr]; omega) rfl rfl
 have f:FrS (fun q=>q=hb.length+1) h h':=w3.s.mono fun q z1 z2=>oM
 have bl:=p.bl
 have nl:∀{lo:Nat} {sz:Nat} {s:AV} {xs:List (List AV)},Gr lo (lo+1) h sz s xs->(s≠.nils->hb.length+2<=lo)->Gr lo (lo+1) h' sz s xs:=by
  intro lo sz s xs g hq
  by_cases q:s=.nils
  ·subst q
   have:=g.isNil
   subst this
   exact Gr.nil ..
  ·exact g.frs f fun r r1 r2=>by have:=hq q; omega
 refine ⟨h',w1,⟨f.ext p.eb fun q z1 z2=>oM,by rw[f.get oM oM]; exact p.ro,w2.cong (by rw[List.map_set]; rfl),nl p.gs fun z=>(p.ps z).1,nl p.gn fun z=>(p.pn z).1,nl p.ga fun z=>(p.pa z).1,?_,?_,?_,by rw[List.length_set]; exact p.lr,oM⟩,f⟩
 ·rw[w4]; exact p.ps
 ·rw[w4]; exact p.pn
 ·rw[w4]; exact p.pa
theorem MI.row (p:MI S hb h rank states sN sA oS oN oA rk Ss D' acc'){r:List Int}(hr:r.length=5)(hl:D'.length<=100000) :
  ∃s' h' o',apnd 5 40 sN (.sl h.length 0 1 5 none 0) (h++[AObj.cells ⟨r.map I,0,0,false⟩])=some (s',h')/\s'.one=true/\s'.cells=[s']/\h'[hb.length]?=some (.cells ⟨[sN,sA],0,0,false⟩)/\
   MI S hb (h'.set hb.length (.cells ⟨[s',sA],0,0,false⟩)) rank states s' sA oS o' oA rk Ss (D'++[r]) acc':=by
 have b:=Gr.lit (h:=h) (sz:=5) (v:=r.map I) (by simp[hr])
 rw[a3_] at b
 have e1:Ext h (h++[AObj.cells ⟨r.map I,0,0,false⟩]):=Ext.push _ _
 obtain ⟨s',h',o',q1,q2,q3,q4⟩:=(p.gn.ext e1).appP (fun z=>by have:=p.pn z; simp; omega) b.sl oM (bytes:=40) oM (by simp; omega)
 have f:=(FrS.ofExt (D:=fun q=>sN≠.nils/\q=oN) e1).trans q4
 have l:=f.len
 have bl:=p.bl
 have ps:=p.ps
 have pn:=p.pn
 have pa:=p.pa
 have l1:(h++[AObj.cells ⟨r.map I,0,0,false⟩]).length=h.length+1:=by simp
 have q3':s'≠.nils->(o'=oN/\sN≠.nils)\/h.length<=o':=fun z=>by
  rcases (q3 z).1 with q|q
  ·exact .inl q
  ·exact .inr oM
 have ro:=p.ro
 have ro':h'[hb.length]?=some (.cells ⟨[sN,sA],0,0,false⟩):=by rw[f.get (fun z=>by have:=pn z.1; omega) oM]; exact ro
 have nl:∀{lo:Nat} {sz:Nat} {s:AV} {xs:List (List AV)},Gr lo (lo+1) h sz s xs->(s≠.nils->sN≠.nils->oN≠lo)->Gr lo (lo+1) h' sz s xs:=by
  intro lo sz s xs g hq
  by_cases q:s=.nils
  ·subst q
   have:=g.isNil
   subst this
   exact Gr.nil ..
  ·exact g.frs f fun r r1 r2 z=>by have:=hq q z.1; omega
 have st:∀{lo:Nat} {sz:Nat} {s:AV} {xs:List (List AV)} (x:AObj),Gr lo (lo+1) h' sz s xs->(s≠.nils->hb.length<lo)->Gr lo (lo+1) (h'.set hb.length x) sz s xs:=by
  intro lo sz s xs x g hq
  by_cases q:s=.nils
  ·subst q
   have:=g.isNil
   subst this
   exact Gr.nil ..
  ·exact g.set (.inl (hq q)) _
 have q5:∀z:s'≠.nils,hb.length+2<=o'/\o'<h'.length:=fun z=>by
  have h1:=(q3 z).2
  rcases q3' z with ⟨h2,h3⟩|h2
  ·have:=pn h3; omega
  ·omega
 refine ⟨s',h',o',q1,q2.sl.one,q2.sl.cells,ro',⟨(f.ext p.eb fun q z1 z2=>by have:=pn z2.1; omega).setr (Nat.le_refl _) _,a0_ oM,(p.gr.frs f fun q z1 z2 z3=>by have:=pn z3.1; omega).set (.inl oM) _,st _ (nl p.gs fun z1 z2=>(pn z2).2.2 z1) fun z=>by have:=ps z; omega,st _ (q2.cong (by simp[encR])) fun z=>by have:=q5 z; omega,st _ (nl p.ga fun z1 z2=>((pa z1).2.2.2 z2).symm) fun z=>by have:=pa z; omega,?_,?_,?_,p.lr,by simp; omega⟩⟩
 ·intro z; have:=ps z; simp; omega
 ·intro z
  have h1:=q5 z
  refine ⟨h1.1,by simp; exact h1.2,fun z2=>?_⟩
  rcases q3' z with ⟨h2,h3⟩|h2
  ·have:=(pn h3).2.2 z2; omega
  ·have:=ps z2; omega
 ·intro z
  have h1:=pa z
  refine ⟨h1.1,by simp; omega,h1.2.2.1,fun z2=>?_⟩
  rcases q3' z2 with ⟨h2,h3⟩|h2
  ·have:=h1.2.2.2 h3; omega
  ·omega
theorem MI.accept (p:MI S hb h rank states sN sA oS oN oA rk Ss D' acc')(b:Bool)(hl:acc'.length<=100000) :
  ∃s' h' o',apnd 1 1 sA (.sl h.length 0 1 1 none 0) (h++[AObj.cells ⟨[.bool b],0,0,false⟩])=some (s',h')/\s'.one=true/\s'.cells=[s']/\h'[hb.length]?=some (.cells ⟨[sN,sA],0,0,false⟩)/\
   MI S hb (h'.set hb.length (.cells ⟨[sN,s'],0,0,false⟩)) rank states sN s' oS oN o' rk Ss D' (acc'++[b]):=by
 have b0:=Gr.lit (h:=h) (sz:=1) (v:=encB b) rfl
 rw[a3_] at b0
 have e1:Ext h (h++[AObj.cells ⟨encB b,0,0,false⟩]):=Ext.push _ _
 obtain ⟨s',h',o',q1,q2,q3,q4⟩:=(p.ga.ext e1).appP (fun z=>by have:=p.pa z; simp; omega) b0.sl oM (bytes:=1) oM (by simp; omega)
 have f:=(FrS.ofExt (D:=fun q=>sA≠.nils/\q=oA) e1).trans q4
 have l:=f.len
 have bl:=p.bl
 have ps:=p.ps
 have pn:=p.pn
 have pa:=p.pa
 have l1:(h++[AObj.cells ⟨encB b,0,0,false⟩]).length=h.length+1:=by simp
 have q3':s'≠.nils->(o'=oA/\sA≠.nils)\/h.length<=o':=fun z=>by
  rcases (q3 z).1 with q|q
  ·exact .inl q
  ·exact .inr oM
 have ro:=p.ro
 have ro':h'[hb.length]?=some (.cells ⟨[sN,sA],0,0,false⟩):=by rw[f.get (fun z=>by have:=pa z.1; omega) oM]; exact ro
 have nl:∀{lo:Nat} {sz:Nat} {s:AV} {xs:List (List AV)},Gr lo (lo+1) h sz s xs->(s≠.nils->sA≠.nils->oA≠lo)->Gr lo (lo+1) h' sz s xs:=by
  intro lo sz s xs g hq
  by_cases q:s=.nils
  ·subst q
   have:=g.isNil
   subst this
   exact Gr.nil ..
  ·exact g.frs f fun r r1 r2 z=>by have:=hq q z.1; omega
 have st:∀{lo:Nat} {sz:Nat} {s:AV} {xs:List (List AV)} (x:AObj),Gr lo (lo+1) h' sz s xs->(s≠.nils->hb.length<lo)->Gr lo (lo+1) (h'.set hb.length x) sz s xs:=by
  intro lo sz s xs x g hq
  by_cases q:s=.nils
  ·subst q
   have:=g.isNil
   subst this
   exact Gr.nil ..
  ·exact g.set (.inl (hq q)) _
 have q5:∀z:s'≠.nils,hb.length+2<=o'/\o'<h'.length:=fun z=>by
  have h1:=(q3 z).2
  rcases q3' z with ⟨h2,h3⟩|h2
  ·have:=pa h3; omega
  ·omega
 refine ⟨s',h',o',q1,q2.sl.one,q2.sl.cells,ro',⟨(f.ext p.eb fun q z1 z2=>by have:=pa z2.1; omega).setr (Nat.le_refl _) _,a0_ oM,(p.gr.frs f fun q z1 z2 z3=>by have:=pa z3.1; omega).set (.inl oM) _,st _ (nl p.gs fun z1 z2=>(pa z2).2.2.1 z1) fun z=>by have:=ps z; omega,st _ (nl p.gn fun z1 z2=>(pa z2).2.2.2 z1) fun z=>by have:=pn z; omega,st _ (q2.cong (by simp[encB])) fun z=>by have:=q5 z; omega,?_,?_,?_,p.lr,by simp; omega⟩⟩
 ·intro z; have:=ps z; simp; omega
 ·intro z; have:=pn z; exact ⟨this.1,by simp; omega,this.2.2⟩
 ·intro z
  have h1:=q5 z
  refine ⟨h1.1,by simp; exact h1.2,fun z2=>?_,fun z2=>?_⟩
  ·rcases q3' z with ⟨h2,h3⟩|h2
   ·have:=(pa h3).2.2.1 z2; omega
   ·have:=ps z2; omega
  ·rcases q3' z with ⟨h2,h3⟩|h2
   ·have:=(pa h3).2.2.2 z2; omega
   ·have:=pn z2; omega
end
end
end Go.Gm.AQ
namespace Go.Gm.AQ
open Go Go.Gm
section
variable {D:List (List Int)} {acc:List Bool} {hb:Heap} {sD sA0 sc rank:AV} {xs:List Int} {od:Nat}
structure MBs (D:List (List Int)) (acc:List Bool) (hb:Heap) (sD sA0 sc:AV) (xs:List Int) (od:Nat):Prop where
 ok:DOk D acc
 hD:Sl hb 5 sD (D.map encR)
 hA:Sl hb 1 sA0 (acc.map encB)
 hc:Sl hb 1 sc (xs.map encI)
 lx:xs.length=D.length
 st:Stab (dl D) (fun a:Nat=>gi acc (a:Int)) D.length (gf xs)
 rd:hb[od]?=some (.cells ⟨[sD,sA0],0,0,false⟩)
structure MKn (D:List (List Int)) (acc:List Bool) (xs rk:List Int) (Ss:List Nat) (D':List (List Int)) (acc':List Bool) (i:Nat):Prop where
 pm:PMs (gf xs) D.length (gf rk) (gf Ss) Ss.length
 po:POw (dl D) (fun a:Nat=>gi acc (a:Int)) (gf xs) (gf Ss) Ss.length (fun a m=>nx D' (a:Int) (m:Int)) (fun a:Nat=>gi acc' (a:Int)) i
 z0:gf Ss 0=0
 il:i<=Ss.length
 s0:0<Ss.length
 ld:D'.length=i
 la:acc'.length=i
 l5:∀r∈D',r.length=5
def NxOk (h:Heap)(hb:Heap)(on:Nat)(nxs:List Int)(states sN sA:AV)(oS oN oA:Nat):Prop:=
 h[on]?=some (.cells ⟨nxs.map I,0,0,false⟩)/\nxs.length=5/\hb.length+2<=on/\(states≠.nils->on≠oS)/\(sN≠.nils->on≠oN)/\(sA≠.nils->on≠oA)
theorem c4H (b:MBs D acc hb sD sA0 sc xs od){ot i on:Nat}{sN sA:AV}{oN oA:Nat}{D':List (List Int)}{acc':List Bool}{Q:AV->Heap->Prop}(hQ:∀h states oS rk Ss nxs,MI D.length hb h rank states sN sA oS oN oA rk Ss D' acc'->MKn D acc xs rk Ss D' acc' i->i<Ss.length->NxOk h hb on nxs states sN sA oS oN oA->PRw (dl D) (gf xs) (gf Ss) Ss.length (gf Ss i) (gf nxs) 5->
   WP (fun p:Nat × Nat=>a0r p.1 p.2 (.ptr od 0 2 0) (.ptr ot 0 2 0) sc (.ptr hb.length 0 2 0) rank states (I i) (.ptr on 0 5 0) h) Q) :
  ∀(d m:Nat) (h:Heap) (states:AV) (oS:Nat) (rk:List Int) (Ss:List Nat) (nxs:List Int),m+d=5->MI D.length hb h rank states sN sA oS oN oA rk Ss D' acc'->MKn D acc xs rk Ss D' acc' i->i<Ss.length->NxOk h hb on nxs states sN sA oS oN oA->PRw (dl D) (gf xs) (gf Ss) Ss.length (gf Ss i) (gf nxs) m->
   WP (fun p:(Nat × Nat) × Nat=>s4_ p.1.1 p.1.2 p.2 (.ptr od 0 2 0) (.ptr ot 0 2 0) sc (.ptr hb.length 0 2 0) rank states (I i) (.ptr on 0 5 0) (I m) h) Q:=by
 have l1:=b.ok.l1
 have lx:=b.lx
 intro d
 induction d with
 |zero=>
  intro m h states oS rk Ss nxs h1 mi mk hi nk pr
  refine WP.rnd (fun i' j=>a2j i'.1 i'.2 j (.ptr od 0 2 0) (.ptr ot 0 2 0) sc (.ptr hb.length 0 2 0) rank states (I i) (.ptr on 0 5 0) (I m) h) ?_
  obtain rfl:m=5:=oM
  refine g0 ?_
  exact WP.lv (hQ h states oS rk Ss nxs mi mk hi nk pr) fun i j=>rfl
 |succ d ih=>
  intro m h states oS rk Ss nxs h1 mi mk hi nk pr
  refine WP.rnd (fun i' j=>a2j i'.1 i'.2 j (.ptr od 0 2 0) (.ptr ot 0 2 0) sc (.ptr hb.length 0 2 0) rank states (I i) (.ptr on 0 5 0) (I m) h) ?_
  have hm5:m<5:=oM
  obtain ⟨si,hsi⟩:∃si,gi Ss (i:Int)=si:=⟨_,rfl⟩
  have hsl:si<D.length:=hsi▸mk.pm.lt i hi
  obtain ⟨to,hto⟩:∃to,dl D si m=to:=⟨_,rfl⟩
  have htl:to<D.length:=hto▸dl_lt b.ok hsl hm5
  obtain ⟨v,hv⟩:∃v:Nat,gi xs (to:Int)=v:=⟨(gi xs (to:Int)).toNat,by have:0<=gi xs (to:Int):=(b.st.rng to htl).1; omega⟩
  have hvl:v<D.length:=by
   have:gi xs (to:Int)<D.length:=(b.st.rng to htl).2
   omega
  have key:∀(h:Heap) (states:AV) (oS:Nat) (rk:List Int) (Ss:List Nat),MI D.length hb h rank states sN sA oS oN oA rk Ss D' acc'->MKn D acc xs rk Ss D' acc' i->i<Ss.length->NxOk h hb on nxs states sN sA oS oN oA->PRw (dl D) (gf xs) (gf Ss) Ss.length (gf Ss i) (gf nxs) m->gf Ss i=si->gf rk v≠0->
    WP (fun p:(Nat × Nat) × Nat=>s5_ p.1.1 p.1.2 p.2 (.ptr od 0 2 0) (.ptr ot 0 2 0) sc (.ptr hb.length 0 2 0) rank states (I i) (.ptr on 0 5 0) (I m) (I to) h) Q:=by
   intro h states oS rk Ss mi mk hi nk pr hsi hrk
   refine WP.congr (fun p=>a6G p.1.1 p.1.2 p.2 (.ptr od 0 2 0) (.ptr ot 0 2 0) sc (.ptr hb.length 0 2 0) rank states (I i) (.ptr on 0 5 0) (I m) (I to) h) ?_
   obtain ⟨j,j1,j2,j3⟩:=mk.pm.has hvl hrk
   have j2':gi rk (v:Int)=(j:Int)+1:=j2
   have hcl:=b.hc.ext mi.eb
   have grl:=mi.gr.sl
   have lr:=mi.lr
   have hSl:=mk.pm.le
   obtain ⟨n1,n2,n3,n4,n5,n6⟩:=nk
   have hst:=stP (x:=j) (m:=m) n1
   have hia:=b0q (o:=on) hm5
   have bon:=(List.getElem?_eq_some_iff.1 n1).1
   have hw:h.set on (.cells ⟨(nxs.map I).set m (I j),0,0,false⟩)=h.set on (.cells ⟨(nxs.set m (j:Int)).map I,0,0,false⟩):=by rw[List.map_set]
   rw[hw] at hst
   refine g8 hcl.idxG hcl.ld0 @encI.eq_1 @hv grl.idxG grl.ld0 @j2' @hia ?_
   rw[show (j:Int)+1-1=j by omega]
   have f:FrS (fun q=>q=on) h (h.set on (.cells ⟨(nxs.set m (j:Int)).map I,0,0,false⟩)):=⟨by simp,fun p p1 p2=>a9_ fun z=>p1 z.symm⟩
   have hwr:wrAt 1 h h[on]? on m (m+1) 0 [I j]=some (h.set on (.cells ⟨(nxs.set m (j:Int)).map I,0,0,false⟩)):=by
    rw[b0V] at hst; exact hst
   refine g1 @hwr ?_
   refine ih (m+1) _ states oS rk Ss (nxs.set m (j:Int)) oM (mi.frs f n3 n4 n5 n6) mk hi ⟨a0_ bon,by simpa using n2,n3,n4,n5,n6⟩ fun m' hm'=>?_
   rw[show gf (nxs.set m (j:Int))=_ from gset oM _]
   by_cases q:m'=m
   ·subst q
    refine ⟨j,j1,if_pos rfl,?_⟩
    rw[hsi,hto]
    show gf xs (gf Ss j)=gi xs (to:Int)
    rw[hv]; exact j3
   ·simp only[if_neg q]
    exact pr m' oM
  have hgs:=mi.gs.sl
  have rd:=mi.eb.get b.rd
  have hDx:=b.hD.ext mi.eb
  obtain ⟨p,p1,p2⟩:=cellN b.ok hDx (Ext.refl h) hsl hm5
  rw[hto] at p2
  have hcx:=b.hc.ext mi.eb
  have grl:=mi.gr.sl
  have lr:=mi.lr
  have hSl:=mk.pm.le
  by_cases q:gi rk (v:Int)=0
  ·obtain ⟨s',h2,o',a1,mi2,a3,a4⟩:=mi.addS to oM
   have hne:states≠.nils:=fun z=>by
    rw[z] at hgs
    rcases hgs with ⟨_,k⟩|⟨_,_,_,_,_,k,_⟩
    ·have hz:Ss=[]:=by simpa using k
     have:=mk.s0
     rw[hz] at this
     simp at this
    ·cases k
   obtain ⟨h3,w1,mi3,w3⟩:=mi2.setRk hvl ((Ss.length+1:Nat):Int)
   have hcx2:=b.hc.ext mi2.eb
   have grl2:=mi2.gr.sl
   have gsl2:=mi2.gs.sl.lenG
   rw[List.length_append] at gsl2
   simp -implicitDefEqProofs (disch:=first|assumption|omega|exact Ext.refl _|(simp only[gL,gA]<;>omega)|fail) only[gC,reduceIte,rd,hgs.idxG,hgs.ld0,hsi,encN,hDx.idxG,p1,p2,hcx.idxG,hcx.ld0,encI,hv,grl.idxG,grl.ld0,q,a1,hcx2.ld0,gsl2,w1]
   have bon:=(List.getElem?_eq_some_iff.1 nk.1).1
   have l2:=a3.len
   obtain ⟨n1,n2,n3,n4,n5,n6⟩:=nk
   have nk3:NxOk h3 hb on nxs s' sN sA o' oN oA:=by
    refine ⟨?_,n2,n3,fun z=>?_,n5,n6⟩
    ·rw[w3.get oM oM,a3.get (fun z=>n4 z.1 z.2) bon]; exact n1
    ·rcases a4 z with ⟨z1,z2⟩|z1
     ·rw[z1]; exact n4 z2
     ·omega
   have hrk:gf (rk.set v ((Ss.length+1:Nat):Int))=up (gf rk) v ((Ss.length:Int)+1):=by
    rw[show gf (rk.set v ((Ss.length+1:Nat):Int))=_ from gset oM _]; rfl
   have hpush:=b7O Ss to
   have hsi':gf (Ss++[to]) i=si:=by
    rw[hpush]; exact (if_neg oM).trans hsi
   refine key h3 s' o' _ _ mi3 ⟨?_,?_,?_,by rw[List.length_append]; omega,by rw[List.length_append]; omega,mk.ld,mk.la,mk.l5⟩ (by rw[List.length_append]; omega) nk3 ?_ hsi' ?_
   ·rw[hrk,hpush,List.length_append]
    exact mk.pm.neu hvl htl hv q
   ·rw[hpush,List.length_append]
    exact mk.po.grow mk.il to
   ·rw[hpush]; exact (if_neg (by have:=mk.s0; omega)).trans mk.z0
   ·have hps:(fun r:Nat=>if r=Ss.length then to else gf Ss r) i=gf Ss i:=if_neg oM
    rw[hpush,List.length_append,hps]
    exact pr.grow to
   ·rw[hrk,up,if_pos rfl]; omega
  ·simp -implicitDefEqProofs (disch:=first|assumption|omega|exact Ext.refl _|(simp only[gL,gA]<;>omega)|fail) only[gC,reduceIte,rd,hgs.idxG,hgs.ld0,hsi,encN,hDx.idxG,p1,p2,hcx.idxG,hcx.ld0,encI,hv,grl.idxG,grl.ld0]
   exact key h states oS rk Ss mi mk hi nk pr hsi q
end
end Go.Gm.AQ
namespace Go.Gm.AQ
open Go Go.Gm
section
variable {D:List (List Int)} {acc:List Bool}
theorem MKn.bis {xs rk:List Int}{Ss:List Nat}{D':List (List Int)}{acc':List Bool}(ok:DOk D acc)(st:Stab (dl D) (fun a:Nat=>gi acc (a:Int)) D.length (gf xs))(k:MKn D acc xs rk Ss D' acc' Ss.length) :
  ∀(w:List Int),(∀m∈w,0<=m/\m<5)->∀a j:Nat,a<D.length->j<Ss.length->gf xs a=gf xs (gf Ss j)->gi acc (goS D a w)=gi acc' (goS D' j w)
 |[],_,a,j,ha,hj,h=>by
  have h1:=st.ac a (gf Ss j) ha (k.pm.lt j hj) h
  exact h1.trans (k.po j hj).1.symm
 |m::w,hm,a,j,ha,hj,h=>by
  have hmm:=hm m (by simp)
  obtain ⟨mn,rfl⟩:∃mn:Nat,m=mn:=⟨m.toNat,oM⟩
  obtain ⟨j',j1,j2,j3⟩:=(k.po j hj).2 mn oM
  have h1:=st.to a (gf Ss j) ha (k.pm.lt j hj) h mn oM
  have h2:0<=nx D a mn/\nx D a mn<D.length:=ok.to a mn oM oM oM oM
  have e1:nx D a mn=(dl D a mn:Nat):=by rw[dl]; omega
  have ih:=bis ok st k w (fun z hz=>hm z (List.mem_cons_of_mem _ hz)) (dl D a mn) j' (dl_lt ok ha oM) j1 (h1.trans j3.symm)
  show gi acc (goS D (nx D a mn) w)=gi acc' (goS D' (nx D' j mn) w)
  rw[e1,show nx D' (j:Int) (mn:Int)=(j':Int) from j2]
  exact ih
theorem MKn.dok {xs rk:List Int}{Ss:List Nat}{D':List (List Int)}{acc':List Bool}(ok:DOk D acc)(k:MKn D acc xs rk Ss D' acc' Ss.length):DOk D' acc'/\D'.length<=D.length:=by
 have h1:=k.pm.le
 have h2:=k.s0
 have h3:=k.ld
 have l1:=ok.l1
 refine ⟨⟨oM,oM,k.la.trans h3.symm,fun s s0 s1=>k.l5 _ (b7_ s0 s1),fun s m s0 s1 m0 m1=>?_⟩,oM⟩
 obtain ⟨a,rfl⟩:∃a:Nat,s=a:=⟨s.toNat,oM⟩
 obtain ⟨b,rfl⟩:∃b:Nat,m=b:=⟨m.toNat,oM⟩
 obtain ⟨j,j1,j2,_⟩:=(k.po a oM).2 b oM
 have:gi (gi D' (a:Int)) (b:Int)=j:=j2
 omega
def MinQ (D:List (List Int))(acc:List Bool)(lo:Nat)(r:AV)(h':Heap):Prop:=
 ∃(D':List (List Int)) (acc':List Bool) (sN sA:AV),r=.agg [sN,sA]/\Gr lo h'.length h' 5 sN (D'.map encR)/\Gr lo h'.length h' 1 sA (acc'.map encB)/\DOk D' acc'/\D'.length<=D.length/\
  ∀w:List Int,(∀m∈w,0<=m/\m<5)->gi acc (goS D 0 w)=gi acc' (goS D' 0 w)
theorem c4I {h0 hb:Heap}{sD sA0 sc rank:AV}{xs:List Int}{od ot:Nat}(b:MBs D acc hb sD sA0 sc xs od)(e0:Ext h0 hb)(hot:h0.length<=ot)(rt:hb[ot]?=some (.cells ⟨[.nils,.nils],0,0,false⟩)) :
  ∀(d i:Nat) (h:Heap) (states sN sA:AV) (oS oN oA:Nat) (rk:List Int) (Ss:List Nat) (D':List (List Int)) (acc':List Bool),i+d=D.length->MI D.length hb h rank states sN sA oS oN oA rk Ss D' acc'->MKn D acc xs rk Ss D' acc' i->
   WP (fun p:Nat × Nat=>s3_ p.1 p.2 (.ptr od 0 2 0) (.ptr ot 0 2 0) sc (.ptr hb.length 0 2 0) rank states (I i) h) fun r h'=>Ext h0 h'/\MinQ D acc h0.length r h':=by
 have l1:=b.ok.l1
 have bt:=(List.getElem?_eq_some_iff.1 rt).1
 intro d
 induction d with
 |zero=>
  intro i h states sN sA oS oN oA rk Ss D' acc' h1 mi mk
  refine WP.rnd (fun i' j=>a2k i' j (.ptr od 0 2 0) (.ptr ot 0 2 0) sc (.ptr hb.length 0 2 0) rank states (I i) h) ?_
  have hle:=mk.pm.le
  have hil:=mk.il
  obtain rfl:i=Ss.length:=oM
  have gs:=mi.gs.sl.lenG
  have ro:=mi.ro
  have rt':=mi.eb.get rt
  have b0:=(List.getElem?_eq_some_iff.1 rt').1
  have o1:=mi.gn.sl.one
  have o2:=mi.gn.sl.cells
  have o3:=mi.ga.sl.one
  have o4:=mi.ga.sl.cells
  refine g7 @gs @ro @rt' @o1 @o2 @o3 @o4 ?_
  obtain ⟨k1,k2⟩:=mk.dok b.ok
  have l0:=e0.len
  have nl:∀{lo:Nat} {sz:Nat} {s:AV} {xs:List (List AV)} (x:AObj),Gr lo (lo+1) h sz s xs->(s≠.nils->hb.length<=lo/\lo<h.length)->Gr h0.length (h.set ot x).length (h.set ot x) sz s xs:=by
   intro lo sz s xs x g hq
   by_cases q:s=.nils
   ·subst q
    have:=g.isNil
    subst this
    exact Gr.nil ..
   ·have:=hq q
    exact (g.set (.inl oM) _).mono oM (by simp; omega)
  refine WP.ret ⟨(e0.trans mi.eb).setr hot _,D',acc',sN,sA,rfl,nl _ mi.gn fun z=>?_,nl _ mi.ga fun z=>?_,k1,k2,fun w hw=>?_⟩
  ·have:=mi.pn z; omega
  ·have:=mi.pa z; omega
  ·exact mk.bis b.ok b.st w hw 0 0 b.ok.l0 mk.s0 (by rw[mk.z0])
 |succ d ih=>
  intro i h states sN sA oS oN oA rk Ss D' acc' h1 mi mk
  refine WP.rnd (fun i' j=>a2k i' j (.ptr od 0 2 0) (.ptr ot 0 2 0) sc (.ptr hb.length 0 2 0) rank states (I i) h) ?_
  have hle:=mk.pm.le
  have hil:=mk.il
  have gs:=mi.gs.sl.lenG
  by_cases q:i=Ss.length
  ·subst q
   have ro:=mi.ro
   have rt':=mi.eb.get rt
   have b0:=(List.getElem?_eq_some_iff.1 rt').1
   have o1:=mi.gn.sl.one
   have o2:=mi.gn.sl.cells
   have o3:=mi.ga.sl.one
   have o4:=mi.ga.sl.cells
   refine g7 @gs @ro @rt' @o1 @o2 @o3 @o4 ?_
   obtain ⟨k1,k2⟩:=mk.dok b.ok
   have l0:=e0.len
   have nl:∀{lo:Nat} {sz:Nat} {s:AV} {xs:List (List AV)} (x:AObj),Gr lo (lo+1) h sz s xs->(s≠.nils->hb.length<=lo/\lo<h.length)->Gr h0.length (h.set ot x).length (h.set ot x) sz s xs:=by
    intro lo sz s xs x g hq
    by_cases q:s=.nils
    ·subst q
     have:=g.isNil
     subst this
     exact Gr.nil ..
    ·have:=hq q
     exact (g.set (.inl oM) _).mono oM (by simp; omega)
   refine WP.ret ⟨(e0.trans mi.eb).setr hot _,D',acc',sN,sA,rfl,nl _ mi.gn fun z=>?_,nl _ mi.ga fun z=>?_,k1,k2,fun w hw=>?_⟩
   ·have:=mi.pn z; omega
   ·have:=mi.pa z; omega
   ·exact mk.bis b.ok b.st w hw 0 0 b.ok.l0 mk.s0 (by rw[mk.z0])
  ·have hi:i<Ss.length:=oM
   refine g1 @gs ?_
   have bl:=mi.bl
   have e1:Ext h (h++[AObj.cells ⟨List.map I [0,0,0,0,0],0,0,false⟩]):=Ext.push _ _
   refine WP.ent (c4H (ot:=ot) (on:=h.length) b (fun h2 states oS rk Ss nxs mi mk hi nk pr=>?_) 5 0 (h++[AObj.cells ⟨List.map I [0,0,0,0,0],0,0,false⟩]) states oS rk Ss [0,0,0,0,0] oM (mi.ext e1) mk hi ⟨by simp,rfl,bl,fun z=>?_,fun z=>?_,fun z=>?_⟩ fun m' hm'=>oM) fun i=>rfl
   ·refine WP.congr (fun p=>a6I p.1 p.2 (.ptr od 0 2 0) (.ptr ot 0 2 0) sc (.ptr hb.length 0 2 0) rank states (I i) (.ptr h.length 0 5 0) h2) ?_
    obtain ⟨n1,n2,n3,n4,n5,n6⟩:=nk
    have hDl:=mk.ld
    have hAl:=mk.la
    have hle2:=mk.pm.le
    have ro:=mi.ro
    have b0:=(List.getElem?_eq_some_iff.1 ro).1
    obtain ⟨sN2,h3,oN2,q1,q2,q3,q4,mi3⟩:=mi.row n2 oM
    have b1:=(List.getElem?_eq_some_iff.1 q4).1
    have hmk:(nxs.map I).take 5=nxs.map I:=List.take_of_length_le (by simp[n2])
    obtain ⟨h4,hh4⟩:∃h4,h4=h3.set hb.length (.cells ⟨[sN2,sA],0,0,false⟩):=⟨_,rfl⟩
    rw[<-hh4] at mi3
    have ro4:=mi3.ro
    have b4:=(List.getElem?_eq_some_iff.1 ro4).1
    have rd4:=mi3.eb.get b.rd
    have gs4:=mi3.gs.sl
    obtain ⟨si,hsi⟩:∃si,gi Ss (i:Int)=si:=⟨_,rfl⟩
    have hsl:si<D.length:=hsi▸mk.pm.lt i hi
    have hA4:=b.hA.ext mi3.eb
    have la:=b.ok.la
    obtain ⟨bb,hbb⟩:∃bb,gi acc (si:Int)=bb:=⟨_,rfl⟩
    obtain ⟨sA2,h5,oA2,w1,w2,w3,w4,mi5⟩:=mi3.accept bb oM
    have b5:=(List.getElem?_eq_some_iff.1 w4).1
    have hld:rdNAt 5 h2[h.length]? 0 5 0=some (.agg (nxs.map I)):=by
     rw[n1]
     simp only[rdNAt]
     rw[if_pos ⟨oM,Nat.le_refl _⟩,List.drop_zero,hmk]
    obtain ⟨c0,c1,c2,c3,c4,rfl⟩:∃c0 c1 c2 c3 c4,nxs=[c0,c1,c2,c3,c4]:=by
     match nxs,n2 with
     |[c0,c1,c2,c3,c4],_=>exact ⟨c0,c1,c2,c3,c4,rfl⟩
    simp only[List.map_cons,List.map_nil] at hld q1
    refine g6 @ro @hld @q1 @q4 @q2 @q3 ?_
    rw[<-hh4]
    refine g14 @ro4 @rd4 gs4.idxG gs4.ld0 @hsi @encN.eq_1 hA4.idxG hA4.ld0 @hbb @encB.eq_1 @w1 @w4 @w2 @w3 ?_
    obtain ⟨h6,hh6⟩:∃h6,h6=h5.set hb.length (.cells ⟨[sN2,sA2],0,0,false⟩):=⟨_,rfl⟩
    rw[<-hh6] at mi5 ⊢
    refine WP.congr (fun p=>a6H p.1 p.2 (.ptr od 0 2 0) (.ptr ot 0 2 0) sc (.ptr hb.length 0 2 0) rank states (I i) h6) ?_
    refine g0 ?_
    refine ih (i+1) h6 states sN2 sA2 oS oN2 oA2 rk Ss (D'++[[c0,c1,c2,c3,c4]]) (acc'++[bb]) oM mi5 ⟨mk.pm,fun a ha=>?_,mk.z0,oM,mk.s0,by simp[hDl],by simp[hAl],fun r hr=>?_⟩
    ·by_cases z:a=i
     ·subst z
      have z1:gi (acc'++[bb]) (a:Int)=bb:=by
       rw[b2_ (by simp[hAl])]; simp[<-hAl]
      have z2:gi (D'++[[c0,c1,c2,c3,c4]]) (a:Int)=[c0,c1,c2,c3,c4]:=by
       rw[b2_ (by simp[hDl])]; simp[<-hDl]
      refine ⟨z1.trans (by rw[<-hbb,<-hsi]),fun m hm=>?_⟩
      obtain ⟨j,j1,j2,j3⟩:=pr m hm
      refine ⟨j,j1,?_,j3⟩
      show gi (gi (D'++[[c0,c1,c2,c3,c4]]) (a:Int)) (m:Int)=j
      rw[z2]; exact j2
     ·obtain ⟨z1,z2⟩:=mk.po a oM
      have y1:gi (acc'++[bb]) (a:Int)=gi acc' (a:Int):=a3h oM oM
      have y2:gi (D'++[[c0,c1,c2,c3,c4]]) (a:Int)=gi D' (a:Int):=a3h oM oM
      refine ⟨y1.trans z1,fun m hm=>?_⟩
      obtain ⟨j,j1,j2,j3⟩:=z2 m hm
      refine ⟨j,j1,?_,j3⟩
      show gi (gi (D'++[[c0,c1,c2,c3,c4]]) (a:Int)) (m:Int)=j
      rw[y2]; exact j2
    ·rcases List.mem_append.1 hr with z|z
     ·exact mk.l5 r z
     ·obtain rfl:=List.mem_singleton.1 z; rfl
   ·have:=mi.ps z; omega
   ·have:=mi.pn z; omega
   ·have:=mi.pa z; omega
theorem b5A {h:Heap}{sD sA:AV}(ok:DOk D acc)(hD:Sl h 5 sD (D.map encR))(hA:Sl h 1 sA (acc.map encB)) :
  Tot tab d8_ [.agg [sD,sA]] h fun r h'=>Ext h h'/\MinQ D acc h.length r h':=by
 refine WP.tot (fun k=>a8k k _ h) ?_
 have l0:=ok.l0
 have l1:=ok.l1
 obtain ⟨h1,hh1⟩:∃h1,h1=(h++[AObj.cells ⟨[sD,sA],0,0,false⟩])++[AObj.cells ⟨[.nils,.nils],0,0,false⟩]:=⟨_,rfl⟩
 have e1:Ext h h1:=by rw[hh1]; exact eX
 have rd:h1[h.length]?=some (.cells ⟨[sD,sA],0,0,false⟩):=by rw[hh1]; simp
 have rt:h1[h.length+1]?=some (.cells ⟨[.nils,.nils],0,0,false⟩):=by rw[hh1]; simp
 refine g4 hD.one hD.cells hA.one hA.cells ?_
 rw[<-hh1]
 refine WP.call (b7w ok (hD.ext e1) (hA.ext e1)) ?_
 rintro sc h2 ⟨e2,xs,g2,lx,st⟩
 have rd2:=e2.get rd
 have rt2:=e2.get rt
 have hc2:=g2.sl
 have hD2:=(hD.ext e1).ext e2
 have hA2:=(hA.ext e1).ext e2
 obtain ⟨h3,hh3⟩:∃h3,h3=h2++[AObj.cells ⟨[.nils,.nils],0,0,false⟩]:=⟨_,rfl⟩
 have e3:Ext h2 h3:=by rw[hh3]; exact Ext.push _ _
 have l3:h3.length=h2.length+1:=by rw[hh3]; simp
 have ro3:h3[h2.length]?=some (.cells ⟨[.nils,.nils],0,0,false⟩):=by rw[hh3]; simp
 obtain ⟨rank,h4,a4,g4,e4,_,l4⟩:=g0_ (zero:=[AV.int .i64 0]) (sz:=1) (bytes:=8) (n:=(D.length:Int)) h3 oM oM oM rfl rfl
 have hre:List.replicate (D.length:Int).toNat [AV.int .i64 0]=(List.replicate D.length (0:Int)).map encI:=by simp[encI,I]
 rw[hre] at g4
 obtain ⟨h5,hh5⟩:∃h5,h5=h4++[AObj.cells ⟨encN 0,0,0,false⟩]:=⟨_,rfl⟩
 have e5:Ext h4 h5:=by rw[hh5]; exact Ext.push _ _
 have l5:h5.length=h4.length+1:=by rw[hh5]; simp
 have gs5:Gr h4.length (h4.length+1) h5 1 (.sl h4.length 0 1 1 none 0) ([0].map encN):=by
  have:=Gr.lit (h:=h4) (sz:=1) (v:=encN 0) rfl
  rw[a3_] at this
  rw[hh5]; exact this
 have e25:=(e3.trans e4).trans e5
 obtain ⟨v,hv⟩:∃v:Nat,gi xs 0=v:=⟨(gi xs 0).toNat,by have:0<=gi xs ((0:Nat):Int):=(st.rng 0 l0).1; exact (Int.toNat_of_nonneg this).symm⟩
 have hvl:v<D.length:=by
  have:gi xs ((0:Nat):Int)<D.length:=(st.rng 0 l0).2
  have:gi xs 0<D.length:=this
  omega
 have mi5:MI D.length h2 h5 rank (.sl h4.length 0 1 1 none 0) .nils .nils h4.length 0 0 (List.replicate D.length 0) [0] [] []:=by
  refine ⟨e25,(e4.trans e5).get ro3,(g4.ext e5).mono oM oM,gs5,Gr.nil ..,Gr.nil ..,fun _=>oM,fun z=>absurd rfl z,fun z=>absurd rfl z,by simp,oM⟩
 obtain ⟨h6,w1,mi6,w3⟩:=mi5.setRk hvl 1
 have gr5:=(g4.ext e5).sl
 have hc5:=hc2.ext e25
 have s5:h4++[AObj.cells ⟨[AV.int .i64 0],0,0,false⟩]=h5:=by rw[hh5]; rfl
 have rd3:=e3.get rd2
 have hD3:=hD2.ext e3
 rw[<-hh3]
 refine g3 @rd3 hD3.lenG @a4 ?_
 rw[s5]
 refine g6 hc5.idxG hc5.ld0 @hv @encI.eq_1 gr5.idxG @w1 ?_
 have b:MBs D acc h2 sD sA sc xs h.length:=⟨ok,hD2,hA2,hc2,lx,st,rd2⟩
 refine WP.ent (c4I (ot:=h.length+1) b (e1.trans e2) oM rt2 D.length 0 h6 _ _ _ _ _ _ _ _ _ _ oM mi6 ⟨⟨fun j hj=>?_,fun w hw=>?_,?_⟩,fun a ha=>oM,rfl,by simp,by simp,rfl,rfl,fun r hr=>by simp at hr⟩) fun i=>rfl
 ·simp only[List.length_cons,List.length_nil] at hj
  obtain rfl:j=0:=oM
  exact l0
 ·rw[show gf ((List.replicate D.length (0:Int)).set v 1)=_ from gset (by simpa using hvl) _]
  by_cases q:w=v
  ·subst q
   exact .inr ⟨0,by simp,by simp,hv⟩
  ·refine .inl ⟨?_,fun j hj=>?_⟩
   ·simp only[if_neg q]
    exact w2_ oM oM
   ·simp only[List.length_cons,List.length_nil] at hj
    obtain rfl:j=0:=oM
    have:gf xs (gf [0] 0)=(v:Int):=hv
    rw[this]; omega
 ·have e:(fun w:Nat=>gf ((List.replicate D.length (0:Int)).set v 1) w-1)=up (fun w:Nat=>gf (List.replicate D.length (0:Int)) w-1) v 0:=by
   funext w
   rw[show gf ((List.replicate D.length (0:Int)).set v 1)=_ from gset (by simpa using hvl) _]
   simp only[up]
   split<;>rfl
  have z:∀x:Nat,x<D.length->gf (List.replicate D.length (0:Int)) x-1 = -1:=fun x hx=>by
   have:gf (List.replicate D.length (0:Int)) x=0:=w2_ oM oM
   omega
  rw[e,un_up hvl (Int.le_refl _),if_pos (by have:=z v hvl; omega),b5S z]
  simp
end
end Go.Gm.AQ
namespace Go.Gm
theorem tb_or (s q p:Nat):(s ||| 2 ^ q).testBit p=(s.testBit p || decide (p=q)):=by
 rw[Nat.testBit_or,Nat.testBit_two_pow]
 by_cases h:q=p
 ·subst h; simp
 ·simp[h,Ne.symm h]
def clo1 (fr:List (Nat × Nat))(s:Nat):Nat:=fr.foldl (fun s f=>if s.testBit f.1 then s ||| 2 ^ f.2 else s) s
def cloN (fr:List (Nat × Nat)):Nat->Nat->Nat
 |0,s=>s
 |k+1,s=>if clo1 fr s=s then s else cloN fr k (clo1 fr s)
def cloF (n:Nat)(fr:List (Nat × Nat))(s:Nat):Nat:=cloN fr (n+1) s
inductive Rch (fr:List (Nat × Nat)) (s:Nat):Nat->Prop
 |here {p:Nat}:s.testBit p=true->Rch fr s p
 |on {p q:Nat}:Rch fr s p->(p,q)∈fr->Rch fr s q
theorem Rch.mono {fr:List (Nat × Nat)}{s t:Nat}(h:∀p,s.testBit p=true->Rch fr t p){p:Nat}(k:Rch fr s p):Rch fr t p:=by
 induction k with
 |here h1=>exact h _ h1
 |on _ h2 ih=>exact .on ih h2
theorem b2D (fr0:List (Nat × Nat)):∀(fr:List (Nat × Nat)) (s:Nat),(∀f∈fr,f∈fr0)->(∀p,s.testBit p=true->(clo1 fr s).testBit p=true)/\(∀p,(clo1 fr s).testBit p=true->Rch fr0 s p)
 |[],s,_=>⟨fun p h=>h,fun p h=>.here h⟩
 |f::fr,s,hf=>by
  simp only[clo1,List.foldl_cons]
  by_cases h:s.testBit f.1=true
  ·rw[if_pos h]
   obtain ⟨h1,h2⟩:=b2D fr0 fr (s ||| 2 ^ f.2) fun g hg=>hf g (List.mem_cons_of_mem _ hg)
   refine ⟨fun p hp=>h1 p (by rw[tb_or,hp]; rfl),fun p hp=>(h2 p hp).mono fun q hq=>?_⟩
   rw[tb_or,Bool.or_eq_true,decide_eq_true_eq] at hq
   rcases hq with hq|hq
   ·exact .here hq
   ·rw[hq]; exact .on (.here h) (hf f (List.mem_cons_self ..))
  ·rw[if_neg h]
   exact b2D fr0 fr s fun g hg=>hf g (List.mem_cons_of_mem _ hg)
theorem b3Q:∀(fr:List (Nat × Nat)) (s:Nat),clo1 fr s=s->∀f∈fr,s.testBit f.1=true->s.testBit f.2=true
 |[],s,_=>fun f hf=>by cases hf
 |f::fr,s,h=>by
  simp only[clo1,List.foldl_cons] at h
  intro g hg hs
  by_cases h1:s.testBit f.1=true
  ·rw[if_pos h1] at h
   have h2:s.testBit f.2=true:=by
    have:=(b2D fr fr (s ||| 2 ^ f.2) fun _ z=>z).1 f.2 (by rw[tb_or]; simp)
    rw[show clo1 fr (s ||| 2 ^ f.2)=s from h] at this
    exact this
   have h3:s ||| 2 ^ f.2=s:=by
    refine Nat.eq_of_testBit_eq fun p=>?_
    rw[tb_or]
    by_cases q:p=f.2
    ·subst q; rw[h2]; rfl
    ·simp[q]
   rw[h3] at h
   rcases List.mem_cons.1 hg with rfl|hg
   ·exact h2
   ·exact b3Q fr s h g hg hs
  ·rw[if_neg h1] at h
   rcases List.mem_cons.1 hg with rfl|hg
   ·exact absurd hs h1
   ·exact b3Q fr s h g hg hs
def outN (n s:Nat):Int:=un n fun p=>if s.testBit p=true then 0 else -1
theorem b8p {c d:Nat->Int}:∀n,(∀x,x<n->c x<0->d x<0)->un n c<=un n d
 |0,_=>Int.le_refl _
 |n+1,h=>by
  have h1:=b8p n fun x hx=>h x oM
  show un n c+(if c n<0 then 1 else 0)<=un n d+(if d n<0 then 1 else 0)
  by_cases q:c n<0
  ·rw[if_pos q,if_pos (h n oM q)]; omega
  ·rw[if_neg q]; split<;>omega
theorem un_lt {c d:Nat->Int}:∀n,(∀x,x<n->c x<0->d x<0)->∀x,x<n->¬c x<0->d x<0->un n c<un n d
 |0,_,x,hx,_,_=>oM
 |n+1,h,x,hx,h1,h2=>by
  have h3:=b8p n fun x hx=>h x oM
  show un n c+(if c n<0 then 1 else 0)<un n d+(if d n<0 then 1 else 0)
  by_cases q:x=n
  ·subst q; rw[if_neg h1,if_pos h2]; omega
  ·have h4:=un_lt n (fun x hx=>h x oM) x oM h1 h2
   by_cases q:c n<0
   ·rw[if_pos q,if_pos (h n oM q)]; omega
   ·rw[if_neg q]; split<;>omega
theorem c4w {n s t:Nat}(h:∀p,s.testBit p=true->t.testBit p=true)(hn:∀p,t.testBit p=true->p<n)(hne:t≠s):outN n t<outN n s:=by
 obtain ⟨p,hp⟩:∃p,t.testBit p≠s.testBit p:=by
  refine Classical.byContradiction fun z=>hne (Nat.eq_of_testBit_eq fun p=>?_)
  exact Classical.byContradiction fun y=>z ⟨p,y⟩
 have ht:t.testBit p=true:=by
  cases hs:s.testBit p with
  |true=>exact h p hs
  |false=>rw[hs] at hp; simpa using hp
 have hs:¬s.testBit p=true:=fun z=>hp (by rw[ht,z])
 refine un_lt n (fun x hx h1=>?_) p (hn p ht) (by simp[ht]) (by simp[hs])
 by_cases q:s.testBit x=true
 ·rw[if_pos (h x q)] at h1; omega
 ·rw[if_neg q]; omega
theorem b8q {fr:List (Nat × Nat)}{n:Nat}(hf:∀f∈fr,f.2<n):∀(k s:Nat),(∀p,s.testBit p=true->p<n)->outN n s<k->clo1 fr (cloN fr k s)=cloN fr k s/\(∀p,s.testBit p=true->(cloN fr k s).testBit p=true)/\(∀p,(cloN fr k s).testBit p=true->Rch fr s p)
 |0,s,_,h=>by
  have:=m1_ n fun p=>if s.testBit p=true then 0 else -1
  unfold outN at h
  omega
 |k+1,s,hs,h=>by
  obtain ⟨h1,h2⟩:=b2D fr fr s fun _ z=>z
  rw[cloN]
  by_cases q:clo1 fr s=s
  ·rw[if_pos q]; exact ⟨q,fun p hp=>hp,fun p hp=>.here hp⟩
  ·rw[if_neg q]
   have hlt:∀p,(clo1 fr s).testBit p=true->p<n:=fun p hp=>by
    have:=h2 p hp
    cases this with
    |here h3=>exact hs p h3
    |on _ h4=>exact hf _ h4
   have:=c4w h1 hlt q
   obtain ⟨k1,k2,k3⟩:=b8q hf k (clo1 fr s) hlt oM
   exact ⟨k1,fun p hp=>k2 p (h1 p hp),fun p hp=>(k3 p hp).mono h2⟩
theorem a9p {fr:List (Nat × Nat)}{n s:Nat}(hf:∀f∈fr,f.2<n)(hs:∀p,s.testBit p=true->p<n)(p:Nat):(cloF n fr s).testBit p=true↔Rch fr s p:=by
 have hle:outN n s<(n+1:Nat):=by
  have:=un_le n fun p=>if s.testBit p=true then 0 else -1
  unfold outN
  omega
 obtain ⟨h1,h2,h3⟩:=b8q hf (n+1) s hs hle
 refine ⟨h3 p,fun h=>?_⟩
 induction h with
 |here h=>exact h2 _ h
 |on _ h4 ih=>exact b3Q fr _ h1 _ h4 ih
theorem b7h {fr:List (Nat × Nat)}{n s:Nat}(hf:∀f∈fr,f.2<n)(hs:∀p,s.testBit p=true->p<n){p:Nat}(h:Rch fr s p):p<n:=by
 cases h with
 |here h=>exact hs _ h
 |on _ h4=>exact hf _ h4
def stpF (st:List (Nat × Nat × Nat))(s m:Nat):Nat:=st.foldl (fun t x=>if s.testBit x.1 && x.2.2.testBit m then t ||| 2 ^ x.2.1 else t) 0
theorem b4O {s m:Nat}:∀(st:List (Nat × Nat × Nat)) (t p:Nat),(st.foldl (fun t x=>if s.testBit x.1 && x.2.2.testBit m then t ||| 2 ^ x.2.1 else t) t).testBit p=true↔t.testBit p=true\/∃x∈st,s.testBit x.1=true/\x.2.2.testBit m=true/\x.2.1=p
 |[],t,p=>by simp
 |x::st,t,p=>by
  rw[List.foldl_cons]
  by_cases h:(s.testBit x.1 && x.2.2.testBit m)=true
  ·rw[if_pos h,b4O st,tb_or]
   rw[Bool.and_eq_true] at h
   simp only[Bool.or_eq_true,decide_eq_true_eq,List.mem_cons,exists_eq_or_imp]
   constructor
   ·rintro ((h1|h1)|h1)
    ·exact .inl h1
    ·exact .inr (.inl ⟨h.1,h.2,h1.symm⟩)
    ·exact .inr (.inr h1)
   ·rintro (h1|⟨_,_,h1⟩|h1)
    ·exact .inl (.inl h1)
    ·exact .inl (.inr h1.symm)
    ·exact .inr h1
  ·rw[if_neg h,b4O st]
   rw[Bool.and_eq_true] at h
   simp only[List.mem_cons,exists_eq_or_imp]
   constructor
   ·rintro (h1|h1)
    ·exact .inl h1
    ·exact .inr (.inr h1)
   ·rintro (h1|⟨h1,h2,_⟩|h1)
    ·exact .inl h1
    ·exact absurd ⟨h1,h2⟩ h
    ·exact .inr h1
theorem a9q {st:List (Nat × Nat × Nat)}{s m p:Nat}:(stpF st s m).testBit p=true↔∃x∈st,s.testBit x.1=true/\x.2.2.testBit m=true/\x.2.1=p:=by
 rw[stpF,b4O]; simp
def idxF (x:Nat):Nat->List Nat->Option Nat
 |_,[]=>none
 |i,y::l=>if y=x then some i else idxF x (i+1) l
def rowF (nf:NF)(lim s:Nat):Nat->Nat->List Nat->List Int->Option (List Nat × List Int)
 |0,_,sets,row=>some (sets,row)
 |k+1,m,sets,row=>
  let to:=cloF nf.n nf.fr (stpF nf.st s m)
  match idxF to 0 sets with
  |some j=>rowF nf lim s k (m+1) sets (row++[(j:Int)])
  |none=>if lim<=sets.length then none else rowF nf lim s k (m+1) (sets++[to]) (row++[(sets.length:Int)])
def subL (nf:NF)(lim:Nat):Nat->Nat->List Nat->List (List Int)->List Bool->Option (List (List Int) × List Bool)
 |0,_,_,_,_=>none
 |f+1,i,sets,D,acc=>match sets[i]? with
  |none=>some (D,acc)
  |some s=>match rowF nf lim s 5 0 sets [] with
   |none=>none
   |some (sets',row)=>subL nf lim f (i+1) sets' (D++[row]) (acc++[s.testBit nf.e])
def subF (nf:NF)(lim:Nat):Option (List (List Int) × List Bool):=subL nf lim (lim+2) 0 [cloF nf.n nf.fr (2 ^ nf.s)] [] []
end Go.Gm
namespace Go.Gm
def longer (l:List (List Int)):List (List Int):=l.flatMap fun w=>[w++[0],w++[1],w++[2],w++[3],w++[4]]
def wl:Nat->List (List Int)
 |0=>[[]]
 |t+1=>longer (wl t)
theorem a7y:∀{t:Nat} {w:List Int},w∈wl t↔w.length=t/\∀c∈w,0<=c/\c<5
 |0,w=>by
  simp only[wl,List.mem_singleton]
  constructor
  ·rintro rfl; simp
  ·rintro ⟨h,_⟩; exact List.eq_nil_of_length_eq_zero h
 |t+1,w=>by
  simp only[wl,longer,List.mem_flatMap,a7y (t:=t),List.mem_cons,List.not_mem_nil,or_false]
  constructor
  ·rintro ⟨v,⟨h1,h2⟩,h⟩
   have hc:∀k:Int,0<=k->k<5->(v++[k]).length=t+1/\∀c∈v++[k],0<=c/\c<5:=by
    intro k k0 k1
    refine ⟨by simp[h1],fun c hc=>?_⟩
    rcases List.mem_append.1 hc with hc|hc
    ·exact h2 c hc
    ·rw[List.mem_singleton.1 hc]; exact ⟨k0,k1⟩
   rcases h with rfl|rfl|rfl|rfl|rfl
   ·exact hc 0 oM oM
   ·exact hc 1 oM oM
   ·exact hc 2 oM oM
   ·exact hc 3 oM oM
   ·exact hc 4 oM oM
  ·rintro ⟨h1,h2⟩
   have hne:w≠[]:=by rintro rfl; simp at h1
   refine ⟨w.dropLast,⟨by simp[h1],fun c hc=>h2 c (List.dropLast_subset _ hc)⟩,?_⟩
   have hl:=h2 (w.getLast hne) (List.getLast_mem hne)
   have he:w.dropLast++[w.getLast hne]=w:=List.dropLast_concat_getLast hne
   obtain ⟨k,hk⟩:∃k,w.getLast hne=k:=⟨_,rfl⟩
   rw[hk] at hl he
   have:k=0\/k=1\/k=2\/k=3\/k=4:=oM
   rcases this with q|q|q|q|q<;>subst q<;>simp[he]
open Classical in
noncomputable def wordsN (n:Nd) (most:Nat):List (List Int):=((List.range (most+1)).flatMap wl).filter fun w=>decide (In n w)
def incR:List Int->List Int × Bool
 |[]=>([],true)
 |c::r=>if c+1<5 then ((c+1)::r,false) else (0::(incR r).1,(incR r).2)
def inc (w:List Int):List Int × Bool:=((incR w.reverse).1.reverse,(incR w.reverse).2)
def nxt (w:List Int):List Int:=if (inc w).2 then (inc w).1++[0] else (inc w).1
end Go.Gm
namespace Go.Gm
theorem b2l {s:Nat}{w:List Int}:In (.set s) w↔∃c,w=[c]/\0<=c/\c<5/\s.testBit c.toNat=true:=by
 simp only[In,R,hit]
 constructor
 ·rintro ⟨⟨c,h1,h2⟩,h3⟩
  match w,h1,h3 with
  |[x],h1,_=>simp at h1; subst h1; exact ⟨x,rfl,h2⟩
 ·rintro ⟨c,rfl,h⟩
  exact ⟨⟨c,rfl,h⟩,rfl⟩
theorem Star.iff {r:Nat->Nat->Prop}{i j:Nat}:Star r i j↔i=j\/∃m,r i m/\Star r m j:=by
 constructor
 ·intro h
  induction h with
  |refl=>exact .inl rfl
  |tail a b ih=>
   rcases ih with rfl|⟨m,u1,u2⟩
   ·exact .inr ⟨_,b,.refl _⟩
   ·exact .inr ⟨m,u1,.tail u2 b⟩
 ·rintro (rfl|⟨m,h1,h2⟩)
  ·exact .refl _
  ·exact .head h1 h2
section
variable {k L:Nat} {r r':Nat->Nat->Prop}
theorem Star.up (h:∀i j,r' i j->r (k+i) (k+j)){i j:Nat}(a:Star r' i j):Star r (k+i) (k+j):=by
 induction a with
 |refl=>exact .refl _
 |tail _ b ih=>exact .tail ih (h _ _ b)
theorem Pow.up (h:∀i j,r' i j->r (k+i) (k+j)):∀{t i j:Nat},Pow r' t i j->Pow r t (k+i) (k+j)
 |0,i,j,a=>by cases a; exact rfl
 |t+1,i,j,⟨m,a,b⟩=>⟨k+m,Pow.up h a,h _ _ b⟩
theorem Star.dn (hm:∀i j,r i j->i<=j)(h:∀i y,r (k+i) y->y<=k+L->∃j,y=k+j/\r' i j){x y:Nat}(a:Star r x y):∀i,x=k+i->y<=k+L->∃j,y=k+j/\Star r' i j:=by
 induction a with
 |refl=>intro i hi _; exact ⟨i,hi,.refl _⟩
 |tail _ b ih=>
  intro i hi hy
  obtain ⟨j,rfl,h1⟩:=ih i hi (Nat.le_trans (hm _ _ b) hy)
  obtain ⟨j',rfl,h2⟩:=h _ _ b hy
  exact ⟨j',rfl,.tail h1 h2⟩
theorem Pow.dn (hm:∀i j,r i j->i<=j)(h:∀i y,r (k+i) y->y<=k+L->∃j,y=k+j/\r' i j):∀{t i y:Nat},Pow r t (k+i) y->y<=k+L->∃j,y=k+j/\Pow r' t i j
 |0,i,y,a,_=>⟨i,(show k+i=y from a).symm,rfl⟩
 |t+1,i,y,⟨m,a,b⟩,hy=>by
  obtain ⟨j,rfl,h1⟩:=Pow.dn hm h a (Nat.le_trans (hm _ _ b) hy)
  obtain ⟨j',rfl,h2⟩:=h _ _ b hy
  exact ⟨j',rfl,j,h1,h2⟩
end
section
variable (u v z:List Int)
end
end Go.Gm
namespace Go.Gm
theorem Pow.head {r:Nat->Nat->Prop}:∀{t i j:Nat},Pow r (t+1) i j↔∃m,r i m/\Pow r t m j
 |0,i,j=>by
  constructor
  ·rintro ⟨m,h,k⟩; cases h; exact ⟨j,k,rfl⟩
  ·rintro ⟨m,h,k⟩; cases k; exact ⟨i,rfl,h⟩
 |t+1,i,j=>by
  constructor
  ·rintro ⟨m,h,k⟩
   obtain ⟨p,h1,h2⟩:=(Pow.head (t:=t)).1 h
   exact ⟨p,h1,m,h2,k⟩
  ·rintro ⟨p,h1,m,h2,k⟩
   exact ⟨m,(Pow.head (t:=t)).2 ⟨p,h1,h2⟩,k⟩
theorem Star.imp {r r':Nat->Nat->Prop}(h:∀i j,r i j->r' i j){i j:Nat}(a:Star r i j):Star r' i j:=by
 induction a with
 |refl=>exact .refl _
 |tail _ b ih=>exact .tail ih (h _ _ b)
theorem Pow.imp {r r':Nat->Nat->Prop}(h:∀i j,r i j->r' i j):∀{t i j:Nat},Pow r t i j->Pow r' t i j
 |0,_,_,a=>a
 |t+1,_,_,⟨m,a,b⟩=>⟨m,Pow.imp h a,h _ _ b⟩
theorem b1u {n:Nd}{most:Nat}{p:List Int->Bool}(h:∀t,t<=most->∀w∈wl t,(In n w↔p w=true)):wordsN n most=((List.range (most+1)).flatMap wl).filter p:=by
 refine List.filter_congr fun w hw=>?_
 simp only[List.mem_flatMap,List.mem_range] at hw
 obtain ⟨t,h1,h2⟩:=hw
 have:=h t oM w h2
 cases hp:p w with
 |true=>simp[this.2 hp]
 |false=>simp[show ¬In n w from fun q=>by rw[this.1 q] at hp; cases hp]
theorem b0P {α:Type}(l:List Nat)(f:Nat->List α)(p:α->Bool):(l.flatMap f).filter p=l.flatMap fun t=>(f t).filter p:=by
 induction l with
 |nil=>rfl
 |cons a l ih=>simp[ih]
def bN (b:Bool):Nat:=if b then 1 else 0
def manyN (s:Nat):Nat:=bN (s.testBit 0)+bN (s.testBit 1)+bN (s.testBit 2)+bN (s.testBit 3)+bN (s.testBit 4)
def sel (p0 p1 p2 p3 p4:Bool)(c:Int):Bool:=if c=0 then p0 else if c=1 then p1 else if c=2 then p2 else if c=3 then p3 else p4
def selS (s:Nat)(c:Int):Bool:=sel (s.testBit 0) (s.testBit 1) (s.testBit 2) (s.testBit 3) (s.testBit 4) c
theorem a8D {s:Nat}{c:Int}(h0:0<=c)(h5:c<5):selS s c=s.testBit c.toNat:=by
 have:c=0\/c=1\/c=2\/c=3\/c=4:=oM
 rcases this with rfl|rfl|rfl|rfl|rfl<;>rfl
def p1 (f:Int->Bool):List Int->Bool
 |[c]=>f c
 |_=>false
def p2 (f g:Int->Bool):List Int->Bool
 |[c,d]=>f c && g d
 |_=>false
theorem c1:∀p0 p1' p2' p3 p4:Bool,((wl 1).filter (p1 (sel p0 p1' p2' p3 p4))).length=bN p0+bN p1'+bN p2'+bN p3+bN p4:=by decide +kernel
theorem c2:∀p0 p1' p2' p3 p4 q0 q1 q2 q3 q4:Bool,((wl 2).filter (p2 (sel p0 p1' p2' p3 p4) (sel q0 q1 q2 q3 q4))).length=(bN p0+bN p1'+bN p2'+bN p3+bN p4)*(bN q0+bN q1+bN q2+bN q3+bN q4):=by decide +kernel
theorem b3d {t:Nat}{p:List Int->Bool}(h:∀w:List Int,w.length=t->p w=false):(wl t).filter p=[]:=by
 rw[List.filter_eq_nil_iff]
 intro w hw
 rw[h w (a7y.1 hw).1]; simp
theorem p1_ne {f:Int->Bool}{t:Nat}(ht:t≠1)(w:List Int)(h:w.length=t):p1 f w=false:=by
 match w,h with
 |[],_=>rfl
 |[c],h=>simp at h; omega
 |_::_::_,_=>rfl
theorem In_p1 {s:Nat}{w:List Int}(hw:∀c∈w,0<=c/\c<5):In (.set s) w↔p1 (selS s) w=true:=by
 rw[b2l]
 constructor
 ·rintro ⟨c,rfl,h0,h5,hb⟩
  show selS s c=true
  rw[a8D h0 h5,hb]
 ·intro h
  match w,hw,h with
  |[c],hw,h=>
   have hc:=hw c (by simp)
   exact ⟨c,rfl,hc.1,hc.2,by rw[<-a8D hc.1 hc.2]; exact h⟩
theorem count_set {s most:Nat}(hm:most<=3):(wordsN (.set s) most).length=if most<1 then 0 else manyN s:=by
 rw[b1u (p:=p1 (selS s)) fun t _ w hw=>In_p1 (a7y.1 hw).2,b0P]
 have h1:((wl 1).filter (p1 (selS s))).length=manyN s:=c1 ..
 have hn:∀t,t≠1->(wl t).filter (p1 (selS s))=[]:=fun t ht=>b3d (p1_ne ht)
 have:most=0\/most=1\/most=2\/most=3:=oM
 rcases this with rfl|rfl|rfl|rfl<;>simp[List.range_succ,hn,h1]
end Go.Gm
