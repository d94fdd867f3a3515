/- A part of the proof (GmAQqm, GmAQqn, GmAQqo, GmAQqp, GmAQL2, GmAQqr, GmEntry). -/
import Derived.OpenShut
import Derived.Test.YtldnkafmanalmaaQueryKnownP11
set_option linter.unusedVariables false
set_option linter.unusedSimpArgs false
set_option linter.unusedSectionVars false
namespace Go.Gm.AQ
open Go Go.Gm
def RtQ (es:List E)(D:List (List Int))(acc:List Bool)(v u lo:Nat)(r:AV)(h':Heap):Prop:=
 ∃b,LW es v u (fun w=>gi acc (goS D 0 w)=true) b/\((b<0/\r=.tup [.agg [I 0,.nils],.bool false])\/
  (0<=b/\∃sl ll,r=.tup [.agg [I b,sl],.bool true]/\Gr lo h'.length h' 1 sl ((ll.map fun (e:Nat)=>(e:Int)).map encI)/\ll.length<=1000000/\OkW es v ll/\atV es v ll=u/\gi acc (atS es D 0 ll)=true/\atC es ll=b))
theorem a7z (l:List Nat):l.map natE=(l.map fun (e:Nat)=>(e:Int)).map encI:=by rw[List.map_map]; rfl
section
variable {h:Heap} {N:Nat} {es:List E} {A:List Ar} {Up Dn:List (List Int)} {D:List (List Int)} {acc:List Bool} {x sD sAc:AV}
theorem a6U (hN:N<=100)(no:NetOk N es)(co:COk es)(xv:IxV h x N es A Up Dn)(ix:IxC N es A Up Dn)(ok:DOk D acc)(hD:Sl h 5 sD (D.map encR))(hA:Sl h 1 sAc (acc.map encB))(hn2:2*(N*D.length)*(N+1)<=1000000){v u:Nat}(hv:v<N)(hu:u<N) :
  Tot tab i3_ [x,.agg [sD,sAc],I v,I u] h fun r h'=>Ext h h'/\RtQ es D acc v u h.length r h':=by
 refine WP.tot (fun k=>a7Y k _ _ _ _ h) ?_
 have hn3:2*(N*D.length)<=1000000:=Nat.le_trans (Nat.le_mul_of_pos_right _ (by omega)) hn2
 obtain ⟨sE,sR,sA,sU,sDn,us,ds,hx,hE,hR,hAr,hU,hDn,lu,ldd,hUp,hDp⟩:=xv.ex
 have o1:=hE.one
 have o2:=hAr.one
 have o3:=hU.one
 have o4:=hDn.one
 have o5:=hD.one
 have o6:=hA.one
 have hz:AV.int .i64 0=I 0:=rfl
 simp only[hz]
 obtain ⟨h1,hh1⟩:∃h1,h1=((h++[AObj.cells ⟨[I N,sE,sR,sA,sU,sDn],0,0,false⟩])++[AObj.cells ⟨[sD,sAc],0,0,false⟩])++[AObj.cells ⟨[I 0,.nils],0,0,false⟩]:=⟨_,rfl⟩
 have e1:Ext h h1:=by rw[hh1]; exact ((Ext.push _ _).app _).app _
 have l1:h1.length=h.length+3:=by rw[hh1]; simp
 have rx:h1[h.length]?=some (.cells ⟨[I N,sE,sR,sA,sU,sDn],0,0,false⟩):=by rw[hh1,q9_ (by simp),q9_ (by simp)]; simp
 have rd:h1[h.length+1]?=some (.cells ⟨[sD,sAc],0,0,false⟩):=by rw[hh1,q9_ (by simp),u5_ (by simp)]; simp
 have rt:h1[h.length+1+1]?=some (.cells ⟨[I 0,.nils],0,0,false⟩):=by rw[hh1,u5_ (by simp)]; simp
 have hr2:∀a b c d e f:AV,rdNAt 2 (some (AObj.cells ⟨[a,b,c,d,e,f],0,0,false⟩)) 0 6 0=some (.agg [a,b]):=fun _ _ _ _ _ _=>rfl
 have hr6:rdNAt 6 (some (AObj.cells ⟨[I N,sE,sR,sA,sU,sDn],0,0,false⟩)) 0 6 0=some (.agg [I N,sE,sR,sA,sU,sDn]):=rfl
 rw[hx]
 simp -implicitDefEqProofs (maxSteps:=1000000) (disch:=first|assumption|omega|(simp only[gL]<;>omega)|((repeat (first|exact Ext.refl _|assumption|apply Ext.app|apply Ext.mk|(refine Ext.setr ?_ (by (first|omega|(simp only[gL]<;>omega))) _))); done)|(simp only[gL,gA,o1,hR,o2,o3,o4,o5,o6]<;>omega)|fail) only[gB,setAll,partL,fldV,reduceIte,Nat.reduceAdd,Nat.reduceMul,o1,hR,o2,o3,o4,o5,o6]
 rw[<-hh1]
 refine WP.call (a6T ok (hD.ext e1) (hA.ext e1)) ?_
 rintro _ h2 ⟨e2,rfl⟩
 have e12:=e1.trans e2
 have rx2:=e2.get rx
 have rd2:=e2.get rd
 have rt2:=e2.get rt
 cases hst:stdyB D with
 |false=>
  simp -implicitDefEqProofs (maxSteps:=1000000) (disch:=first|assumption|omega|(simp only[gL]<;>omega)|((repeat (first|exact Ext.refl _|assumption|apply Ext.app|apply Ext.mk|(refine Ext.setr ?_ (by (first|omega|(simp only[gL]<;>omega))) _))); done)|(simp only[gL,gA,rx2,rd2,hr2]<;>omega)|fail) only[gB,setAll,partL,fldV,reduceIte,Nat.reduceAdd,Nat.reduceMul,rx2,rd2,hr2]
  refine WP.call (b1m no co (by omega) (hE.ext e12) ok (hD.ext e12) (hA.ext e12) hv hu) ?_
  rintro r h3 ⟨e3,c,lc,rq⟩
  have rt3:=e3.get rt2
  have lw:=bv_lw ok no hv hu lc
  have lt3:h.length+1+1<h3.length:=(List.getElem?_eq_some_iff.1 rt3).1
  have e13:=e12.trans e3
  rcases rq with ⟨c0,rfl⟩|⟨c0,q,l,sl,q1,q2,q3,q4,q5,rfl,q7⟩
  ·simp -implicitDefEqProofs (maxSteps:=1000000) (disch:=first|assumption|omega|(simp only[gL]<;>omega)|((repeat (first|exact Ext.refl _|assumption|apply Ext.app|apply Ext.mk|(refine Ext.setr ?_ (by (first|omega|(simp only[gL]<;>omega))) _))); done)|(simp only[gL,gA,b1_,b2_,rt3]<;>omega)|fail) only[gB,setAll,partL,fldV,reduceIte,Nat.reduceAdd,Nat.reduceMul,b1_,b2_,rt3]
   refine WP.ret ⟨by ((repeat (first|exact Ext.refl _|assumption|apply Ext.app|apply Ext.mk|(refine Ext.setr ?_ (by (first|omega|(simp only[gL]<;>omega))) _)))),_,lw,.inl ⟨c0,rfl⟩⟩
  ·obtain ⟨a1,a2,a3,a4,a5⟩:=b0I ok no hv q4
   obtain ⟨d1,d2⟩:=a6z (v:=u) (S:=D.length) (s:=q) q1
   rw[d1] at a2
   rw[d2] at a3
   have os:=q7.sl.one
   have cs:=q7.sl.cells
   simp -implicitDefEqProofs (maxSteps:=1000000) (disch:=first|assumption|omega|(simp only[gL]<;>omega)|((repeat (first|exact Ext.refl _|assumption|apply Ext.app|apply Ext.mk|(refine Ext.setr ?_ (by (first|omega|(simp only[gL]<;>omega))) _))); done)|(simp only[gL,gA,b1_,b2_,rt3,os,cs]<;>omega)|fail) only[gB,setAll,partL,fldV,reduceIte,Nat.reduceAdd,Nat.reduceMul,b1_,b2_,rt3,os,cs]
   refine WP.ret ⟨by ((repeat (first|exact Ext.refl _|assumption|apply Ext.app|apply Ext.mk|(refine Ext.setr ?_ (by (first|omega|(simp only[gL]<;>omega))) _)))),_,lw,.inr ⟨c0,sl,l,rfl,?_,q5,a1,a2,by rw[a3]; exact q2,a4⟩⟩
   exact ((q7.set (by have:=e2.len; omega) _).mono (by have:=e2.len; omega) (by simp))
 |true=>
  have sd:=a4F.1 hst
  have xv2:IxV h2 (.agg [I N,sE,sR,sA,sU,sDn]) N es A Up Dn:=hx▸xv.ext e12
  simp -implicitDefEqProofs (maxSteps:=1000000) (disch:=first|assumption|omega|(simp only[gL]<;>omega)|((repeat (first|exact Ext.refl _|assumption|apply Ext.app|apply Ext.mk|(refine Ext.setr ?_ (by (first|omega|(simp only[gL]<;>omega))) _))); done)|(simp only[gL,gA,rx2,rd2,hr6]<;>omega)|fail) only[gB,setAll,partL,fldV,reduceIte,Nat.reduceAdd,Nat.reduceMul,rx2,rd2,hr6]
  refine WP.call (a9U hN xv2 ix.toIxS (hD.ext e12) (hA.ext e12)) ?_
  rintro wp h3 ⟨e3,wv⟩
  refine WP.call (a8L wv ix.toIxS ok hN (n:=2*(N*D.length)) rfl hn3 hv) ?_
  rintro _ h4 ⟨e4,os,q,sc,se,sf,oc,oe,ov,rfl,id2,k2,rk2,cs2,ds2,fs2,M2,sw,di,hM,hk⟩
  refine WP.call (a7T (wv.ext e4) ok hN rfl hn3 sw hu) ?_
  rintro _ h5 ⟨e5,out,rfl,qb⟩
  have hg:=a7y ix.toIxS ok
  have hvS:v*D.length<N*D.length:=by
   have:=spotN (N:=N) (v:=v) (S:=D.length) (s:=0) hv ok.l0
   simpa using this
  have lc:=di.lc hg (fun y hy=>by have:y=2*(v*D.length):=hy; omega) hM
  have lw:=q_lw no co ix ok sd hv hu lc qb
  have e15:=((e12.trans e3).trans e4).trans e5
  have rx5:=((e3.trans e4).trans e5).get rx2
  have rt5:=((e3.trans e4).trans e5).get rt2
  have lt5:h.length+1+1<h5.length:=(List.getElem?_eq_some_iff.1 rt5).1
  by_cases o0:out<0
  ·rw[if_pos o0] at lw
   simp -implicitDefEqProofs (maxSteps:=1000000) (disch:=first|assumption|omega|(simp only[gL]<;>omega)|((repeat (first|exact Ext.refl _|assumption|apply Ext.app|apply Ext.mk|(refine Ext.setr ?_ (by (first|omega|(simp only[gL]<;>omega))) _))); done)|(simp only[gL,gA,rt5]<;>omega)|fail) only[gB,setAll,partL,fldV,reduceIte,Nat.reduceAdd,Nat.reduceMul,rt5]
   refine WP.ret ⟨by ((repeat (first|exact Ext.refl _|assumption|apply Ext.app|apply Ext.mk|(refine Ext.setr ?_ (by (first|omega|(simp only[gL]<;>omega))) _)))),_,lw,.inl ⟨by omega,rfl⟩⟩
  ·rw[if_neg o0] at lw
   obtain ⟨y,hy⟩:∃y:Nat,out=y:=⟨out.toNat,by omega⟩
   subst hy
   rw[Int.toNat_natCast] at lw
   have sw5:=sw.ext e5
   have ro5:=sw5.row
   rcases qb with ⟨qb,_⟩|⟨y',qy,qa,qc,_⟩
   ·omega
   obtain rfl:y=y':=by omega
   have hyr:y<2*(N*D.length)/\((y / 2 / D.length:Nat):Int)=u/\gi acc ((y / 2 % D.length:Nat):Int)=true:=by
    obtain ⟨s,s1,s2,bb,hs⟩:=qa
    have la:=ok.la
    have h1:=a0U (N:=N) (S:=D.length) (v:=(u:Int)) (s:=(s:Int)) (by omega) (by omega) (by omega) (by omega) bb
    obtain ⟨_,e2,e3⟩:=a3P (S:=D.length) (v:=(u:Int)) (s:=(s:Int)) (by omega) (by omega) (by omega) bb
    rw[<-hs] at e2 e3
    exact ⟨by omega,e2,by rw[e3]; exact s2⟩
   have gcs:=sw5.gc.sl
   have idy:=gcs.idxG (i:=(y:Int)) (by omega) (by rw[sw5.lc]; omega)
   have ldy:=gcs.ld0 (H:=h5) (i:=(y:Int)) (Ext.refl _) (by omega) (by rw[sw5.lc]; omega) (by omega)
   obtain ⟨cost,hcost⟩:∃cost,gf cs2 y=cost:=⟨_,rfl⟩
   replace ldy:Gm.ld1 h5 (elP 1 sc (y:Int))=some (I cost):=by rw[<-hcost]; exact ldy
   obtain ⟨h6,hh6⟩:∃h6,h6=(h5++[AObj.cells ⟨[I 0,.nils],0,0,false⟩]).set h5.length (.cells ⟨[I cost,.nils],0,0,false⟩):=⟨_,rfl⟩
   have e6:Ext h5 h6:=by rw[hh6]; ((repeat (first|exact Ext.refl _|assumption|apply Ext.app|apply Ext.mk|(refine Ext.setr ?_ (by (first|omega|(simp only[gL]<;>omega))) _))))
   have l6:h6.length=h5.length+1:=by rw[hh6]; simp
   have ro6:h6[h5.length]?=some (.cells ⟨[I cost,.nils],0,0,false⟩):=by rw[hh6]; exact a2_ (by simp)
   simp -implicitDefEqProofs (maxSteps:=1000000) (disch:=first|assumption|omega|(simp only[gL]<;>omega)|((repeat (first|exact Ext.refl _|assumption|apply Ext.app|apply Ext.mk|(refine Ext.setr ?_ (by (first|omega|(simp only[gL]<;>omega))) _))); done)|(simp only[gL,gA,ro5,idy,ldy]<;>omega)|fail) only[gB,setAll,partL,fldV,reduceIte,Nat.reduceAdd,Nat.reduceMul,ro5,idy,ldy]
   rw[<-hh6]
   have hun:=o8_ (2*(N*D.length)) (gf cs2)
   have hrk:=di.rk y hyr.1 qc
   rw[hcost] at qc lw
   refine WP.ent (qr_l1 (x4:=.ptr h.length 0 6 0) (t8:=.ptr (h.length+1+1) 0 2 0) (out12:=.ptr h5.length 0 2 0) hn3 (sw5.ext e6) di (by omega) (x0:=y) (fun x' ks h7 arcs oa hstx hxn hch hkl e7 ga pa=>?_) (2*(N*D.length)+1) y h6 .nils 0 [] 0 (by omega) (by simp) hyr.1 (by omega) (Ext.refl _) (Gr.nil ..) (fun z=>absurd rfl z) .nil (by omega)) fun i=>rfl
   have hx':x'=2*(v*D.length):=hstx
   have hx2:x' / 2=v*D.length:=by omega
   obtain ⟨ll,u1,u2,u3,u4,u5⟩:=b2U no ix.toIxS ok sd hch (by omega)
   rw[hx2,Nat.mul_div_cancel _ ok.l0] at u2 u3
   rw[hx2,Nat.mul_mod_left] at u4
   rw[hcost] at u5
   have hlll:=u1.len
   have hll:ll.length<=1000000:=by
    have:ks.length*(N+1)<=2*(N*D.length)*(N+1):=Nat.mul_le_mul_right _ hkl
    omega
   refine WP.congr (fun i=>a6F i ..) ?_
   obtain ⟨lo,ga',hlo⟩:∃lo,Gr lo (lo+1) h7 1 arcs ((ks.reverse.map fun (e:Nat)=>(e:Int)).map encI)/\h6.length<=lo:=by
    by_cases q:arcs=.nils
    ·subst q
     have hks:ks=[]:=by simpa using ga.isNil
     subst hks
     exact ⟨h6.length,Gr.nil ..,Nat.le_refl _⟩
    ·exact ⟨oa,ga.cong (a7z _),(pa q).1⟩
   refine WP.call (a9w (by simp; omega) ga') ?_
   rintro _ h8 ⟨rfl,f8,g8⟩
   have e68:Ext h6 h8:=f8.ext e7 hlo
   obtain ⟨oa',pa',g8'⟩:=(g8.cong (ys:=ks.map natE) (by rw[<-List.map_reverse,List.reverse_reverse,a7z])).point
   have lna:lenS arcs=some (I ks.length):=by rw[g8'.sl.lenG]
   have e58:=e6.trans e68
   simp -implicitDefEqProofs (maxSteps:=1000000) (disch:=first|assumption|omega|(simp only[gL]<;>omega)|((repeat (first|exact Ext.refl _|assumption|apply Ext.app|apply Ext.mk|(refine Ext.setr ?_ (by (first|omega|(simp only[gL]<;>omega))) _))); done)|(simp only[gL,gA,lna]<;>omega)|fail) only[gB,setAll,partL,fldV,reduceIte,Nat.reduceAdd,Nat.reduceMul,lna]
   have hfin:=qr_l3 (LL:=N+1) (by omega) (hAr.ext e15) (by have:=ix.la; omega) o1 hR o3 o4 rx5 rt5 (ks:=ks) (by omega) (ll:=ll) (by omega) (cost:=cost) ks.length 0 h8 .nils 0 [] ll (by omega) e58 (e68.get ro6) (Gr.nil ..) (fun z=>absurd rfl z) g8' (fun z=>by have:=pa' z; omega) (by rw[List.drop_zero]; exact u1) rfl
   refine WP.ent (hfin.mono fun r h9 ⟨⟨sl,r1,r2⟩,r3,r4⟩=>⟨?_,cost,lw,.inr ⟨by omega,sl,ll,r1,by rw[<-a7z]; exact r2.mono (by have:=e15.len; omega) (Nat.le_refl _),hll,u2,u3.trans hyr.2.1,?_,u5⟩⟩) fun i=>rfl
   ·rw[a0g]
    refine ⟨by have:=e15.len; omega,fun o ho=>?_⟩
    rw[r4 o (by have:=e15.len; omega) (by omega)]
    obtain ⟨z,hz'⟩:∃z,h[o]?=some z:=⟨h[o],List.getElem?_eq_getElem ho⟩
    rw[hz',e15.get hz']
   ·have h0:((0:Nat):Int)=0:=rfl
    rw[h0] at u4
    rw[u4]; exact hyr.2.2
end
end Go.Gm.AQ
namespace Go.Gm.AQ
open Go Go.Gm
section
variable {N LL:Nat} {es:List E} {A:List Ar} {Up Dn:List (List Int)} {D:List (List Int)} {acc:List Bool} {sD sAc:AV}
def ManyQ (es:List E)(D:List (List Int))(acc:List Bool)(v:Nat)(ts bs:List Int):Prop:=∀i:Nat,i<bs.length->LW es v (gi ts i) (fun w=>gi acc (goS D 0 w)=true) (gi bs i)
theorem ManyQ.snoc {v:Nat}{ts bs:List Int}{b:Int}(m:ManyQ es D acc v ts bs)(h:LW es v (gi ts bs.length) (fun w=>gi acc (goS D 0 w)=true) b):ManyQ es D acc v ts (bs++[b]):=by
 intro i hi
 rw[List.length_append,List.length_singleton] at hi
 by_cases q:i<bs.length
 ·rw[a0h (by omega) (by omega)]; exact m i q
 ·obtain rfl:i=bs.length:=by omega
  rw[a2v]; exact h
theorem app1I {oc:Nat}{h:Heap}{out:AV}{bs:List Int}(g:Gr oc (oc+1) h 1 out (bs.map encI))(ho:out≠.nils->oc<h.length)(hl:bs.length<=1000000000)(b:Int) :
  ∃s' h' o',apnd 1 8 out (.sl h.length 0 1 1 none 0) (h++[AObj.cells ⟨[I b],0,0,false⟩])=some (s',h')/\Gr o' (o'+1) h' 1 s' ((bs++[b]).map encI)/\(s'≠.nils->((o'=oc/\out≠.nils)\/h.length<=o')/\o'<h'.length)/\FrS (fun p=>out≠.nils/\p=oc) h h':=by
 have b0:=Gr.lit (h:=h) (sz:=1) (v:=[I b]) rfl
 rw[a3_] at b0
 have e1:Ext h (h++[AObj.cells ⟨[I b],0,0,false⟩]):=Ext.push _ _
 obtain ⟨s',h',o',q1,q2,q3,q4⟩:=(g.ext e1).appP (fun z=>by have:=ho z; simp; omega) b0.sl (by omega) (bytes:=8) (by omega) (by simp; omega)
 refine ⟨s',h',o',q1,q2.cong (by simp[encI]),fun z=>⟨?_,(q3 z).2⟩,(FrS.ofExt e1).trans q4⟩
 rcases (q3 z).1 with h1|h1
 ·exact .inl h1
 ·right; simp at h1; omega
theorem b4Y {hb b1:Heap}{all tA:AV}{oo la ha v:Nat}{ts:List Int}{c:Nat->Int}(eb:Ext hb b1)(hoo:hb.length<=oo)(hT:Sl hb 1 tA (ts.map encI))(hA:Gr la ha b1 1 all ((costL N D.length c acc).map encI))(hla:oo<la)(hha:ha<=b1.length)(ht:∀t∈ts,0<=t/\t<N)(htl:ts.length<=1000000)(hlw:∀u:Nat,u<N->LW es v u (fun w=>gi acc (goS D 0 w)=true) (bv c acc (u*D.length) D.length)) :
  ∀(d i:Nat) (h:Heap) (out:AV) (oc:Nat) (bs:List Int),i+d=ts.length->FrS (fun o=>o=oo\/b1.length<=o) b1 h->Gr oc (oc+1) h 1 out (bs.map encI)->(out≠.nils->(oc=oo\/b1.length<=oc)/\oc<h.length)->bs.length=i->ManyQ es D acc v ts bs->
   WP (fun p:Nat × Nat=>a1v p.1 p.2 out all tA (I ts.length) (I i) h) fun r h'=>Ext hb h'/\∃bs:List Int,bs.length=ts.length/\Sl h' 1 r (bs.map encI)/\ManyQ es D acc v ts bs:=by
 have ebl:=eb.len
 intro d
 induction d with
 |zero=>
  intro i h out oc bs hi f g po hbl m
  refine WP.rnd (fun i j=>a3Y i j ..) ?_
  obtain rfl:i=ts.length:=by omega
  simp -implicitDefEqProofs (disch:=first|assumption|omega|(simp only[gL,gA]<;>omega)|fail) only[gC,reduceIte]
  exact WP.ret ⟨f.ext eb fun o o1 o2=>by omega,bs,hbl,g.sl,m⟩
 |succ d ih=>
  intro i h out oc bs hi f g po hbl m
  refine WP.rnd (fun i j=>a3Y i j ..) ?_
  have e:=f.ext eb fun o o1 o2=>by omega
  have hT':=hT.ext e
  have hA':=(hA.frs f fun o o1 o2 o3=>by omega).sl
  have hit:(i:Int)<ts.length:=by omega
  have ldt:=hT'.ld0 (H:=h) (i:=(i:Int)) (Ext.refl _) (by omega) hit (by omega)
  obtain ⟨t0,t1⟩:=ht _ (a9_ (xs:=ts) (i:=(i:Int)) (by omega) hit)
  obtain ⟨t,htt⟩:∃t:Nat,gi ts (i:Int)=t:=⟨(gi ts (i:Int)).toNat,by omega⟩
  rw[htt] at ldt t0 t1
  replace ldt:Gm.ld1 h (elP 1 tA (i:Int))=some (I (t:Int)):=ldt
  have idt:=hT'.idxG (i:=(i:Int)) (by omega) hit
  have htN:t<N:=by omega
  have idA:=hA'.idxG (i:=(t:Int)) (by omega) (by rw[a6p]; omega)
  have ldA:=hA'.ld0 (H:=h) (i:=(t:Int)) (Ext.refl _) (by omega) (by rw[a6p]; omega) (by omega)
  rw[a9v htN] at ldA
  obtain ⟨b,hbv⟩:∃b,bv c acc (t*D.length) D.length=b:=⟨_,rfl⟩
  rw[hbv] at ldA
  replace ldA:Gm.ld1 h (elP 1 all (t:Int))=some (I b):=ldA
  obtain ⟨s',h',o',k1,k2,k3,k4⟩:=app1I g (fun z=>(po z).2) (by omega) b
  have hl1:=f.len
  have hl2:=k4.len
  simp -implicitDefEqProofs (disch:=first|assumption|omega|(simp only[gL,gA]<;>omega)|fail) only[gC,reduceIte,idt,ldt,idA,ldA,k1]
  refine ih (i+1) h' s' o' (bs++[b]) (by omega) (f.trans (k4.mono fun o _ z=>by have:=(po z.1).1; omega)) k2 (fun z=>?_) (by simp[hbl]) (m.snoc ?_)
  ·rcases (k3 z).1 with ⟨z1,z2⟩|z1
   ·have:=(po z2).1; exact ⟨by omega,(k3 z).2⟩
   ·exact ⟨.inr (by omega),(k3 z).2⟩
  ·rw[hbl,htt,<-hbv]
   exact hlw t htN
theorem b4Z {hb b1:Heap}{wp tA:AV}{oo c0 v:Nat}{ts:List Int}{W:Nat->Prop}{os oc' oe ov n:Nat}{q sc se sf:AV}{cs ds fs:List Int}{M:List (Option Int)}(hoo:hb.length<=oo)(ho0:oo<c0)(hT:Sl hb 1 tA (ts.map encI))(ht:∀t∈ts,0<=t/\t<N)(htl:ts.length<=1000000)(wv:WyV2 hb c0 b1 wp N es A Up Dn D acc)(ok:DOk D acc)(hN:N<=100)(hn:n=2*(N*D.length))(hn2:n<=1000000)(w0:SchW W b1 os wp q sc se sf oc' oe ov n cs ds fs M)(hW:∀o,W o->c0<=o)(hlw:∀(u:Nat) (out:Int),u<N->QB (gf cs) (AccS acc D.length u acc.length) out->LW es v u (fun w=>gi acc (goS D 0 w)=true) (if out<0 then -1 else gf cs out.toNat)) :
  ∀(d i:Nat) (h:Heap) (out:AV) (oc:Nat) (bs:List Int),i+d=ts.length->FrS (fun o=>o=oo\/b1.length<=o) b1 h->Gr oc (oc+1) h 1 out (bs.map encI)->(out≠.nils->(oc=oo\/b1.length<=oc)/\oc<h.length)->bs.length=i->ManyQ es D acc v ts bs->
   WP (fun p:Nat × Nat=>a1w p.1 p.2 out (.ptr os 0 5 0) (.fn e8_ [] []) tA (I ts.length) (I i) h) fun r h'=>Ext hb h'/\∃bs:List Int,bs.length=ts.length/\Sl h' 1 r (bs.map encI)/\ManyQ es D acc v ts bs:=by
 have eb:=wv.eb
 have ebl:=eb.len
 intro d
 induction d with
 |zero=>
  intro i h out oc bs hi f g po hbl m
  refine WP.rnd (fun i j=>a3Z i j ..) ?_
  obtain rfl:i=ts.length:=by omega
  simp -implicitDefEqProofs (disch:=first|assumption|omega|(simp only[gL,gA]<;>omega)|fail) only[gC,reduceIte]
  exact WP.ret ⟨f.ext eb fun o o1 o2=>by omega,bs,hbl,g.sl,m⟩
 |succ d ih=>
  intro i h out oc bs hi f g po hbl m
  refine WP.rnd (fun i j=>a3Z i j ..) ?_
  have e:=f.ext eb fun o o1 o2=>by omega
  have hT':=hT.ext e
  have hit:(i:Int)<ts.length:=by omega
  have ldt:=hT'.ld0 (H:=h) (i:=(i:Int)) (Ext.refl _) (by omega) hit (by omega)
  obtain ⟨t0,t1⟩:=ht _ (a9_ (xs:=ts) (i:=(i:Int)) (by omega) hit)
  obtain ⟨t,htt⟩:∃t:Nat,gi ts (i:Int)=t:=⟨(gi ts (i:Int)).toNat,by omega⟩
  rw[htt] at ldt t0 t1
  replace ldt:Gm.ld1 h (elP 1 tA (i:Int))=some (I (t:Int)):=ldt
  have idt:=hT'.idxG (i:=(i:Int)) (by omega) hit
  have htN:t<N:=by omega
  have wvh:=(wv.frs f fun o o1 o2=>by omega).wy
  have wh:=w0.frs f fun o o1 o2 o3=>by have:=hW o o2; omega
  have hl1:=f.len
  simp -implicitDefEqProofs (disch:=first|assumption|omega|(simp only[gL,gA]<;>omega)|fail) only[gC,reduceIte,idt,ldt]
  refine WP.call (a7T wvh ok hN hn hn2 wh htN) ?_
  rintro _ h2 ⟨e2,o,rfl,qb⟩
  have lw:=hlw t o htN qb
  have f2:=f.trans (FrS.ofExt (D:=fun o=>o=oo\/b1.length<=o) e2)
  have hl2:=e2.len
  have fin:∀b,LW es v t (fun w=>gi acc (goS D 0 w)=true) b->WP (fun p:Nat × Nat=>a1x p.1 p.2 out (.ptr os 0 5 0) (.fn e8_ [] []) (I b) tA (I ts.length) (I i) h2) fun r h'=>Ext hb h'/\∃bs:List Int,bs.length=ts.length/\Sl h' 1 r (bs.map encI)/\ManyQ es D acc v ts bs:=by
   intro b hlb
   refine WP.congr (fun i=>a7g i.1 i.2 ..) ?_
   obtain ⟨s',h',o',k1,k2,k3,k4⟩:=app1I (g.ext e2) (fun z=>by have:=(po z).2; omega) (by omega) b
   have hl3:=k4.len
   simp -implicitDefEqProofs (disch:=first|assumption|omega|(simp only[gL,gA]<;>omega)|fail) only[gC,reduceIte,k1]
   refine ih (i+1) h' s' o' (bs++[b]) (by omega) (f2.trans (k4.mono fun o _ z=>by have:=(po z.1).1; omega)) k2 (fun z=>?_) (by simp[hbl]) (m.snoc ?_)
   ·rcases (k3 z).1 with ⟨z1,z2⟩|z1
    ·have:=(po z2).1; exact ⟨by omega,(k3 z).2⟩
    ·exact ⟨.inr (by omega),(k3 z).2⟩
   ·rw[hbl,htt]; exact hlb
  by_cases o0:o<0
  ·rw[if_pos o0] at lw
   simp -implicitDefEqProofs (disch:=first|assumption|omega|(simp only[gL,gA]<;>omega)|fail) only[gC,reduceIte]
   exact fin (-1) lw
  ·rw[if_neg o0] at lw
   have bnd:=qb.bnd (n:=n) (fun x hx=>by
    obtain ⟨s,s1,s2,bb,rfl⟩:=hx
    have la:=ok.la
    have h1:=a0U (N:=N) (S:=D.length) (v:=(t:Int)) (s:=(s:Int)) (by omega) (by omega) (by omega) (by omega) bb
    omega)
   have w2:=wh.ext e2
   have ro:=w2.row
   have gc:=w2.gc.sl
   have idc:=gc.idxG (i:=o) (by omega) (by rw[w2.lc]; omega)
   have ldc:=gc.ld0 (H:=h2) (i:=o) (Ext.refl _) (by omega) (by rw[w2.lc]; omega) (by omega)
   replace ldc:Gm.ld1 h2 (elP 1 sc o)=some (I (gi cs o)):=ldc
   have hgc:gf cs o.toNat=gi cs o:=by show gi cs ((o.toNat:Nat):Int)=_; rw[Int.toNat_of_nonneg (by omega)]
   rw[hgc] at lw
   simp -implicitDefEqProofs (disch:=first|assumption|omega|(simp only[gL,gA]<;>omega)|fail) only[gC,reduceIte,ro,idc,ldc]
   exact fin _ lw
end
section
variable {h:Heap} {N:Nat} {es:List E} {A:List Ar} {Up Dn:List (List Int)} {D:List (List Int)} {acc:List Bool} {x sD sAc tA:AV}
theorem a7U (hN:N<=100)(no:NetOk N es)(co:COk es)(xv:IxV h x N es A Up Dn)(ix:IxC N es A Up Dn)(ok:DOk D acc)(hD:Sl h 5 sD (D.map encR))(hA:Sl h 1 sAc (acc.map encB))(hn2:2*(N*D.length)<=1000000){v:Nat}(hv:v<N){ts:List Int}(hT:Sl h 1 tA (ts.map encI))(ht:∀t∈ts,0<=t/\t<N)(htl:ts.length<=1000000) :
  Tot tab h5_ [x,.agg [sD,sAc],I v,tA] h fun r h'=>Ext h h'/\∃bs:List Int,bs.length=ts.length/\Sl h' 1 r (bs.map encI)/\ManyQ es D acc v ts bs:=by
 refine WP.tot (fun k=>a8O k _ _ _ _ h) ?_
 obtain ⟨sE,sR,sA,sU,sDn,us,ds,hx,hE,hR,hAr,hU,hDn,lu,ldd,hUp,hDp⟩:=xv.ex
 have o1:=hE.one
 have o2:=hAr.one
 have o3:=hU.one
 have o4:=hDn.one
 have o5:=hD.one
 have o6:=hA.one
 obtain ⟨h1,hh1⟩:∃h1,h1=(h++[AObj.cells ⟨[I N,sE,sR,sA,sU,sDn],0,0,false⟩])++[AObj.cells ⟨[sD,sAc],0,0,false⟩]:=⟨_,rfl⟩
 have e1:Ext h h1:=by rw[hh1]; exact (Ext.push _ _).app _
 have l1:h1.length=h.length+2:=by rw[hh1]; simp
 have rx:h1[h.length]?=some (.cells ⟨[I N,sE,sR,sA,sU,sDn],0,0,false⟩):=by rw[hh1,q9_ (by simp)]; simp
 have rd:h1[h.length+1]?=some (.cells ⟨[sD,sAc],0,0,false⟩):=by rw[hh1,u5_ (by simp)]; simp
 have hr2:∀a b c d e f:AV,rdNAt 2 (some (AObj.cells ⟨[a,b,c,d,e,f],0,0,false⟩)) 0 6 0=some (.agg [a,b]):=fun _ _ _ _ _ _=>rfl
 have hr6:rdNAt 6 (some (AObj.cells ⟨[I N,sE,sR,sA,sU,sDn],0,0,false⟩)) 0 6 0=some (.agg [I N,sE,sR,sA,sU,sDn]):=rfl
 have lnT:=hT.lenG
 have hmk:∀H:Heap,mkSl [AV.int .i64 0] 1 8 (AV.int .i64 0) (I ts.length) H=some (.sl H.length 0 0 1 none 0,mkObj H []):=fun H=>b1Q (l:=0) (c:=ts.length) (Int.le_refl _) (by omega) (by omega) (by omega) rfl rfl
 rw[hx]
 simp -implicitDefEqProofs (maxSteps:=1000000) (disch:=first|assumption|omega|(simp only[gL]<;>omega)|((repeat (first|exact Ext.refl _|assumption|apply Ext.app|apply Ext.mk|(refine Ext.setr ?_ (by (first|omega|(simp only[gL]<;>omega))) _))); done)|(simp only[gL,gA,o1,hR,o2,o3,o4,o5,o6,lnT]<;>omega)|fail) only[gB,setAll,partL,fldV,reduceIte,Nat.reduceAdd,Nat.reduceMul,o1,hR,o2,o3,o4,o5,o6,lnT]
 rw[<-hh1]
 rw[hmk]
 simp only[ob_some]
 have gO:=Gr.empty h1 1
 rw[a3_] at gO
 obtain ⟨h2,hh2⟩:∃h2,h2=h1++[AObj.cells ⟨[],0,0,false⟩]:=⟨_,rfl⟩
 have e2:Ext h1 h2:=by rw[hh2]; exact Ext.push _ _
 have l2:h2.length=h1.length+1:=by rw[hh2]; simp
 have rx2:=e2.get rx
 have rd2:=e2.get rd
 rw[a3_,<-hh2]
 rw[<-hh2] at gO
 simp -implicitDefEqProofs (maxSteps:=1000000) (disch:=first|assumption|omega|(simp only[gL]<;>omega)|((repeat (first|exact Ext.refl _|assumption|apply Ext.app|apply Ext.mk|(refine Ext.setr ?_ (by (first|omega|(simp only[gL]<;>omega))) _))); done)|(simp only[gL,gA,rd2]<;>omega)|fail) only[gB,setAll,partL,fldV,reduceIte,Nat.reduceAdd,Nat.reduceMul,rd2]
 have e12:=e1.trans e2
 refine WP.call (a6T ok (hD.ext e12) (hA.ext e12)) ?_
 rintro _ h3 ⟨e3,rfl⟩
 have e13:=e12.trans e3
 have rx3:=e3.get rx2
 have rd3:=e3.get rd2
 cases hst:stdyB D with
 |false=>
  simp -implicitDefEqProofs (maxSteps:=1000000) (disch:=first|assumption|omega|(simp only[gL]<;>omega)|((repeat (first|exact Ext.refl _|assumption|apply Ext.app|apply Ext.mk|(refine Ext.setr ?_ (by (first|omega|(simp only[gL]<;>omega))) _))); done)|(simp only[gL,gA,rx3,rd3,hr2]<;>omega)|fail) only[gB,setAll,partL,fldV,reduceIte,Nat.reduceAdd,Nat.reduceMul,rx3,rd3,hr2]
  refine WP.call (b1k no co (by omega) (hE.ext e13) ok (hD.ext e13) (hA.ext e13) hv) ?_
  rintro all h4 ⟨e4,c,lc,ga⟩
  have e14:=e13.trans e4
  have hT4:=hT.ext e14
  have lnT4:=hT4.lenG
  have h3l:=e3.len
  have h4l:=e4.len
  exact WP.ent (b4Y (hb:=h) (b1:=h4) (oo:=h1.length) (N:=N) (es:=es) e14 (by omega) hT ga (by omega) (Nat.le_refl _) ht htl (fun u hu=>bv_lw ok no hv hu lc) ts.length 0 h4 _ h1.length [] (by omega) (FrS.refl _ _) ((gO.ext e3).ext e4) (fun _=>⟨.inl rfl,by omega⟩) rfl (fun i hi=>by simp at hi)) fun i=>rfl
 |true=>
  have sd:=a4F.1 hst
  simp -implicitDefEqProofs (maxSteps:=1000000) (disch:=first|assumption|omega|(simp only[gL]<;>omega)|((repeat (first|exact Ext.refl _|assumption|apply Ext.app|apply Ext.mk|(refine Ext.setr ?_ (by (first|omega|(simp only[gL]<;>omega))) _))); done)|(simp only[gL,gA,rx3,rd3]<;>omega)|fail) only[gB,setAll,partL,fldV,reduceIte,Nat.reduceAdd,Nat.reduceMul,rx3,rd3]
  refine WP.congr (fun i=>a7h i ..) ?_
  simp -implicitDefEqProofs (maxSteps:=1000000) (disch:=first|assumption|omega|(simp only[gL]<;>omega)|((repeat (first|exact Ext.refl _|assumption|apply Ext.app|apply Ext.mk|(refine Ext.setr ?_ (by (first|omega|(simp only[gL]<;>omega))) _))); done)|(simp only[gL,gA,rx3,rd3,hr6,lnT]<;>omega)|fail) only[gB,setAll,partL,fldV,reduceIte,Nat.reduceAdd,Nat.reduceMul,rx3,rd3,hr6,lnT]
  have xv':IxV h (.agg [I N,sE,sR,sA,sU,sDn]) N es A Up Dn:=hx▸xv
  refine WP.call (a5Q e13 hN xv' ix.toIxS hD hA) ?_
  rintro wp h4 ⟨e4,wv⟩
  refine WP.call (a8L wv.wy ix.toIxS ok hN (n:=2*(N*D.length)) rfl hn2 hv) ?_
  rintro _ h5 ⟨e5,os,q,sc,se,sf,oc,oe,ov,rfl,id2,k2,rk2,cs2,ds2,fs2,M2,sw,di,hM,hk⟩
  have hvS:v*D.length<N*D.length:=by
   have:=spotN (N:=N) (v:=v) (S:=D.length) (s:=0) hv ok.l0
   simpa using this
  have lc:=di.lc (a7y ix.toIxS ok) (fun y hy=>by have:y=2*(v*D.length):=hy; omega) hM
  have h3l:=e3.len
  have h4l:=e4.len
  have h5l:=e5.len
  have e15:=(e13.trans e4).trans e5
  have lnT5:=(hT.ext e15).lenG
  exact WP.ent (b4Z (hb:=h) (b1:=h5) (oo:=h1.length) (c0:=h3.length) (by omega) (by omega) hT ht htl (wv.frs (FrS.ofExt (D:=fun _=>False) e5) fun o _ z=>z.elim) ok hN rfl hn2 sw (fun o z=>by omega) (fun u o hu qb=>q_lw no co ix ok sd hv hu lc qb) ts.length 0 h5 _ h1.length [] (by omega) (FrS.refl _ _) (((gO.ext e3).ext e4).ext e5) (fun _=>⟨.inl rfl,by omega⟩) rfl (fun i hi=>by simp at hi)) fun i=>rfl
end
end Go.Gm.AQ
namespace Go.Gm.AQ
open Go Go.Gm
theorem kOkW {l:List Nat}(h:OkW kE 0 l):l=[]\/l=[0]:=by
 rcases l with _|⟨a,_|⟨b,t⟩⟩
 ·exact .inl rfl
 ·have:=(h 0 a rfl).1
  simp[kE] at this
  exact .inr (by rw[this])
 ·have h1:=(h 0 a rfl).1
  have h2:=h 1 b rfl
  simp[kE] at h1 h2
  obtain ⟨rfl,h3⟩:=h2
  subst h1
  exact absurd h3 (by decide)
theorem kLW1:LW kE 0 1 (fun w=>gi [true] (goS kD 0 w)=true) 4:=by
 refine ⟨.inr ⟨by omega,[0],?_,rfl,rfl,rfl⟩,fun l h1 h2 _=>?_⟩
 ·exact OkW.snoc (l:=[]) (fun i e h=>by simp at h) (by simp[kE]) rfl
 ·rcases kOkW h1 with rfl|rfl
  ·exact absurd h2 (by decide)
  ·exact ⟨by omega,by decide⟩
theorem kLW0:LW kE 0 0 (fun w=>gi [true] (goS kD 0 w)=true) 0:=by
 refine ⟨.inr ⟨by omega,[],?_,rfl,rfl,rfl⟩,fun l h1 h2 _=>?_⟩
 ·exact fun i e h=>by simp at h
 ·rcases kOkW h1 with rfl|rfl
  ·exact ⟨by omega,by decide⟩
  ·exact absurd h2 (by decide)
section
variable {h:Heap} {A:List Ar} {Up Dn:List (List Int)} {x sD sAc tA:AV}
theorem kqRoute (xv:IxV h x 2 kE A Up Dn)(ix:IxC 2 kE A Up Dn)(hD:Sl h 5 sD (kD.map encR))(hA:Sl h 1 sAc ([true].map encB)) :
  Tot tab i3_ [x,.agg [sD,sAc],I 0,I 1] h fun r h'=>Ext h h'/\∃sl,r=.tup [.agg [I 4,sl],.bool true]/\Sl h' 1 sl [[I 0]]:=by
 refine (a6U (N:=2) (v:=0) (u:=1) (by omega) kNet kCo xv ix kDok hD hA (by simp[kD]) (by omega) (by omega)).mono ?_
 rintro r h' ⟨e,b,lw,rq⟩
 obtain rfl:=lw.uniq kLW1
 refine ⟨e,?_⟩
 rcases rq with ⟨q,_⟩|⟨_,sl,ll,q2,q3,q4,q5,q6,_⟩
 ·omega
 ·rcases kOkW q5 with rfl|rfl
  ·exact absurd q6 (by decide)
  ·exact ⟨sl,q2,q3.sl⟩
theorem kqMany (xv:IxV h x 2 kE A Up Dn)(ix:IxC 2 kE A Up Dn)(hD:Sl h 5 sD (kD.map encR))(hA:Sl h 1 sAc ([true].map encB))(hT:Sl h 1 tA [[I 1],[I 0]]) :
  Tot tab h5_ [x,.agg [sD,sAc],I 0,tA] h fun r h'=>Ext h h'/\Sl h' 1 r ([(4:Int),0].map encI):=by
 refine (a7U (N:=2) (v:=0) (ts:=[1,0]) (by omega) kNet kCo xv ix kDok hD hA (by simp[kD]) (by omega) hT (by simp) (by simp)).mono ?_
 rintro r h' ⟨e,bs,hb,sl,m⟩
 refine ⟨e,?_⟩
 match bs,hb with
 |[a,b],_=>
  have h1:=m 0 (by simp)
  have h2:=m 1 (by simp)
  have e1:gi [a,b] 0=4:=h1.uniq kLW1
  have e2:gi [a,b] 1=0:=h2.uniq kLW0
  obtain rfl:a=4:=e1
  obtain rfl:b=0:=e2
  exact sl
theorem kqMany0 (xv:IxV h x 2 kE A Up Dn)(ix:IxC 2 kE A Up Dn)(hD:Sl h 5 sD (kD.map encR))(hA:Sl h 1 sAc ([true].map encB)) :
  Tot tab h5_ [x,.agg [sD,sAc],I 0,.nils] h fun r h'=>Ext h h'/\Sl h' 1 r []:=by
 refine (a7U (N:=2) (v:=0) (ts:=[]) (by omega) kNet kCo xv ix kDok hD hA (by simp[kD]) (by omega) (.inl ⟨rfl,rfl⟩) (by simp) (by simp)).mono ?_
 rintro r h' ⟨e,bs,hb,sl,m⟩
 obtain rfl:=List.eq_nil_of_length_eq_zero hb
 exact ⟨e,sl⟩
end
theorem a9W (h:Heap):Tot tab v3_ [] h fun r h'=>r=.bool true/\Ext h h':=by
 refine WP.tot (fun k=>a4l k h) ?_
 simp -implicitDefEqProofs (maxSteps:=1000000) (disch:=first|assumption|omega|(simp only[gL]<;>omega)|((repeat (first|exact Ext.refl _|assumption|apply Ext.app|apply Ext.mk|(refine Ext.setr ?_ (by (first|omega|(simp only[gL]<;>omega))) _))); done)|(simp only[gL,gA]<;>omega)|fail) only[gB,setAll,partL,fldV,reduceIte,Nat.reduceAdd,Nat.reduceMul]
 obtain ⟨h1,hh1⟩:∃h1,h1=h++[AObj.cells ⟨[AV.int .i64 0,AV.int .i64 1,AV.int .i64 0,AV.int .i64 4],0,0,false⟩]:=⟨_,rfl⟩
 have e1:Ext h h1:=by rw[hh1]; ((repeat (first|exact Ext.refl _|assumption|apply Ext.app|apply Ext.mk|(refine Ext.setr ?_ (by (first|omega|(simp only[gL]<;>omega))) _))))
 have r0:h1[h.length]?=some (.cells ⟨encE ⟨0,1,0,4⟩,0,0,false⟩):=by rw[hh1]; simp -implicitDefEqProofs (maxSteps:=1000000) (disch:=first|assumption|omega|(simp only[gL]<;>omega)|((repeat (first|exact Ext.refl _|assumption|apply Ext.app|apply Ext.mk|(refine Ext.setr ?_ (by (first|omega|(simp only[gL]<;>omega))) _))); done)|(simp only[gL,gA]<;>omega)|fail) only[gB,setAll,partL,fldV,reduceIte,Nat.reduceAdd,Nat.reduceMul]; try rfl
 have hs:Sl h1 4 (.sl h.length 0 1 4 none 0) (kE.map encE):=a9M r0 rfl
 rw[<-hh1]
 refine WP.call (a6S (N:=2) (by omega) kNet kCo hs) ?_
 rintro x h2 ⟨e2,A,Up,Dn,xv,ix⟩
 obtain ⟨sE,sR,sA,sU,sDn,us,ds,hx,hE,hR,hAr,hU,hDn,lu,ldd,hUp,hDp⟩:=xv.ex
 have o1:=hE.one
 have o2:=hAr.one
 have o3:=hU.one
 have o4:=hDn.one
 have hr6:rdNAt 6 (some (AObj.cells ⟨[I (2:Nat),sE,sR,sA,sU,sDn],0,0,false⟩)) 0 6 0=some (.agg [I (2:Nat),sE,sR,sA,sU,sDn]):=rfl
 have hr2:∀a b:AV,rdNAt 2 (some (AObj.cells ⟨[a,b],0,0,false⟩)) 0 2 0=some (.agg [a,b]):=fun _ _=>rfl
 rw[hx]
 simp -implicitDefEqProofs (maxSteps:=1000000) (disch:=first|assumption|omega|(simp only[gL]<;>omega)|((repeat (first|exact Ext.refl _|assumption|apply Ext.app|apply Ext.mk|(refine Ext.setr ?_ (by (first|omega|(simp only[gL]<;>omega))) _))); done)|(simp only[gL,gA,o1,hR,o2,o3,o4]<;>omega)|fail) only[gB,setAll,partL,fldV,reduceIte,Nat.reduceAdd,Nat.reduceMul,o1,hR,o2,o3,o4]
 obtain ⟨h3,hh3⟩:∃h3,h3=(List.set (List.set (h2++[AObj.cells ⟨[AV.int .i64 0,.nils,.nils,.nils,.nils,.nils],0,0,false⟩]) h2.length (AObj.cells ⟨[I (2:Nat),sE,sR,sA,sU,sDn],0,0,false⟩) ++
   [AObj.cells ⟨[AV.int .i64 0,AV.int .i64 0,AV.int .i64 0,AV.int .i64 0,AV.int .i64 0],0,0,false⟩]++[AObj.cells ⟨[AV.bool true],0,0,false⟩]++[AObj.cells ⟨[.nils,.nils],0,0,false⟩])
   (h2.length+1+1+1) (AObj.cells ⟨[AV.sl (h2.length+1) 0 1 5 none 0,AV.sl (h2.length+1+1) 0 1 1 none 0],0,0,false⟩)):=⟨_,rfl⟩
 have e3:Ext h2 h3:=by rw[hh3]; ((repeat (first|exact Ext.refl _|assumption|apply Ext.app|apply Ext.mk|(refine Ext.setr ?_ (by (first|omega|(simp only[gL]<;>omega))) _))))
 have r1:h3[h2.length]?=some (.cells ⟨[I (2:Nat),sE,sR,sA,sU,sDn],0,0,false⟩):=by rw[hh3]; simp -implicitDefEqProofs (maxSteps:=1000000) (disch:=first|assumption|omega|(simp only[gL]<;>omega)|((repeat (first|exact Ext.refl _|assumption|apply Ext.app|apply Ext.mk|(refine Ext.setr ?_ (by (first|omega|(simp only[gL]<;>omega))) _))); done)|(simp only[gL,gA]<;>omega)|fail) only[gB,setAll,partL,fldV,reduceIte,Nat.reduceAdd,Nat.reduceMul]; try rfl
 have r2:h3[h2.length+1]?=some (.cells ⟨encR [0,0,0,0,0],0,0,false⟩):=by rw[hh3]; simp -implicitDefEqProofs (maxSteps:=1000000) (disch:=first|assumption|omega|(simp only[gL]<;>omega)|((repeat (first|exact Ext.refl _|assumption|apply Ext.app|apply Ext.mk|(refine Ext.setr ?_ (by (first|omega|(simp only[gL]<;>omega))) _))); done)|(simp only[gL,gA]<;>omega)|fail) only[gB,setAll,partL,fldV,reduceIte,Nat.reduceAdd,Nat.reduceMul]; try rfl
 have r3:h3[h2.length+1+1]?=some (.cells ⟨encB true,0,0,false⟩):=by rw[hh3]; simp -implicitDefEqProofs (maxSteps:=1000000) (disch:=first|assumption|omega|(simp only[gL]<;>omega)|((repeat (first|exact Ext.refl _|assumption|apply Ext.app|apply Ext.mk|(refine Ext.setr ?_ (by (first|omega|(simp only[gL]<;>omega))) _))); done)|(simp only[gL,gA]<;>omega)|fail) only[gB,setAll,partL,fldV,reduceIte,Nat.reduceAdd,Nat.reduceMul]; try rfl
 have r4:h3[h2.length+1+1+1]?=some (.cells ⟨[AV.sl (h2.length+1) 0 1 5 none 0,AV.sl (h2.length+1+1) 0 1 1 none 0],0,0,false⟩):=by rw[hh3]; simp -implicitDefEqProofs (maxSteps:=1000000) (disch:=first|assumption|omega|(simp only[gL]<;>omega)|((repeat (first|exact Ext.refl _|assumption|apply Ext.app|apply Ext.mk|(refine Ext.setr ?_ (by (first|omega|(simp only[gL]<;>omega))) _))); done)|(simp only[gL,gA]<;>omega)|fail) only[gB,setAll,partL,fldV,reduceIte,Nat.reduceAdd,Nat.reduceMul]; try rfl
 have hD:Sl h3 5 (.sl (h2.length+1) 0 1 5 none 0) (kD.map encR):=a9M r2 rfl
 have hA:Sl h3 1 (.sl (h2.length+1+1) 0 1 1 none 0) ([true].map encB):=a9M r3 rfl
 have xv3:=(hx▸xv:IxV h2 (.agg [I (2:Nat),sE,sR,sA,sU,sDn]) 2 kE A Up Dn).ext e3
 rw[<-hh3]
 refine WP.call (kqRoute xv3 ix hD hA) ?_
 rintro _ h4 ⟨e4,sl,rfl,hsl⟩
 have r14:=e4.get r1
 have r44:=e4.get r4
 have b1:=(List.getElem?_eq_some_iff.1 r14).1
 have b4:=(List.getElem?_eq_some_iff.1 r44).1
 simp -implicitDefEqProofs (maxSteps:=1000000) (disch:=first|assumption|omega|(simp only[gL]<;>omega)|((repeat (first|exact Ext.refl _|assumption|apply Ext.app|apply Ext.mk|(refine Ext.setr ?_ (by (first|omega|(simp only[gL]<;>omega))) _))); done)|(simp only[gL,gA,b1_,b2_,hsl.one,hsl.cells,r14,r44,hr6,hr2]<;>omega)|fail) only[gB,setAll,partL,fldV,reduceIte,Nat.reduceAdd,Nat.reduceMul,b1_,b2_,hsl.one,hsl.cells,r14,r44,hr6,hr2]
 obtain ⟨h5,hh5⟩:∃h5,h5=((h4++[AObj.cells ⟨[AV.int .i64 0,.nils],0,0,false⟩]).set h4.length (.cells ⟨[I 4,sl],0,0,false⟩))++[AObj.cells ⟨[AV.int .i64 1,AV.int .i64 0],0,0,false⟩]:=⟨_,rfl⟩
 have e5:Ext h4 h5:=by rw[hh5]; ((repeat (first|exact Ext.refl _|assumption|apply Ext.app|apply Ext.mk|(refine Ext.setr ?_ (by (first|omega|(simp only[gL]<;>omega))) _))))
 have q5:h5[h4.length]?=some (.cells ⟨[I 4,sl],0,0,false⟩):=by rw[hh5]; simp -implicitDefEqProofs (maxSteps:=1000000) (disch:=first|assumption|omega|(simp only[gL]<;>omega)|((repeat (first|exact Ext.refl _|assumption|apply Ext.app|apply Ext.mk|(refine Ext.setr ?_ (by (first|omega|(simp only[gL]<;>omega))) _))); done)|(simp only[gL,gA]<;>omega)|fail) only[gB,setAll,partL,fldV,reduceIte,Nat.reduceAdd,Nat.reduceMul]; try rfl
 have t5:h5[h4.length+1]?=some (.cells ⟨[I 1,I 0],0,0,false⟩):=by rw[hh5]; simp -implicitDefEqProofs (maxSteps:=1000000) (disch:=first|assumption|omega|(simp only[gL]<;>omega)|((repeat (first|exact Ext.refl _|assumption|apply Ext.app|apply Ext.mk|(refine Ext.setr ?_ (by (first|omega|(simp only[gL]<;>omega))) _))); done)|(simp only[gL,gA]<;>omega)|fail) only[gB,setAll,partL,fldV,reduceIte,Nat.reduceAdd,Nat.reduceMul]; try rfl
 have hT:Sl h5 1 (.sl (h4.length+1) 0 2 1 none 0) [[I 1],[I 0]]:=.inr ⟨_,0,none,0,_,rfl,t5,Nat.le_refl _,rfl,by simp⟩
 have e45:=e4.trans e5
 rw[<-hh5]
 refine WP.call (kqMany (xv3.ext e45) ix (hD.ext e45) (hA.ext e45) hT) ?_
 rintro m2 h6 ⟨e6,z6⟩
 have r16:=(e5.trans e6).get r14
 have r46:=(e5.trans e6).get r44
 simp -implicitDefEqProofs (maxSteps:=1000000) (disch:=first|assumption|omega|(simp only[gL]<;>omega)|((repeat (first|exact Ext.refl _|assumption|apply Ext.app|apply Ext.mk|(refine Ext.setr ?_ (by (first|omega|(simp only[gL]<;>omega))) _))); done)|(simp only[gL,gA,r16,r46,hr6,hr2]<;>omega)|fail) only[gB,setAll,partL,fldV,reduceIte,Nat.reduceAdd,Nat.reduceMul,r16,r46,hr6,hr2]
 have e46:=e45.trans e6
 refine WP.call (kqMany0 (xv3.ext e46) ix (hD.ext e46) (hA.ext e46)) ?_
 rintro m0 h7 ⟨e7,z7⟩
 have q7:=(e6.trans e7).get q5
 have l7:=z7.len
 have ls:=hsl.len
 simp only[List.length_nil,List.length_cons] at l7 ls
 have z67:=z6.ext e7
 have g0:gi [(4:Int),0] 0=4:=rfl
 have g1:gi [(4:Int),0] 1=0:=rfl
 simp -implicitDefEqProofs (maxSteps:=1000000) (disch:=first|assumption|omega|(simp only[gL]<;>omega)|((repeat (first|exact Ext.refl _|assumption|apply Ext.app|apply Ext.mk|(refine Ext.setr ?_ (by (first|omega|(simp only[gL]<;>omega))) _))); done)|(simp only[gL,gA,q7,l7,ls,z67.lenG,z67.idxG,z67.ld0,g0,g1,encI]<;>omega)|fail) only[gB,setAll,partL,fldV,reduceIte,Nat.reduceAdd,Nat.reduceMul,q7,l7,ls,z67.lenG,z67.idxG,z67.ld0,g0,g1,encI]
 exact WP.ret ⟨rfl,((((e1.trans e2).trans e3).trans e46)).trans e7⟩
end Go.Gm.AQ
namespace Go.Gm.AQ
open Go Go.Gm
theorem a8T {a n:Int}(hn:0<n)(hf:Fit n)(h:Heap):Tot tab t0_ [I a,I n] h fun v h'=>v=I (a % n)/\h=h':=by
 refine WP.tot (fun k=>a3V k _ _ h) ?_
 refine WP.oa (b0s a n (by omega)) ?_
 refine WP.oa (a7W _ _) ?_
 have hlt:=Int.tmod_lt_of_pos a hn
 have hgt:=Int.lt_tmod_of_pos a hn
 have h1:=Int.tmod_eq_emod (a:=a) (b:=n)
 have h2:=Int.emod_nonneg a (by omega:n≠0)
 have h3:=Int.emod_lt_of_pos a hn
 by_cases h0:a.tmod n<0
 ·simp only[decide_eq_true h0,cond2_true]
  refine WP.oa (b0r _ _ (by unfold Fit at *; omega)) (WP.ret ⟨?_,rfl⟩)
  congr 1
  split at h1<;>omega
 ·simp only[decide_eq_false h0,cond2_false]
  refine WP.ret ⟨?_,rfl⟩
  congr 1
  split at h1<;>omega
theorem DOk.wr {D:List (List Int)}{acc:List Bool}(ok:DOk D acc){s m:Nat}{x:Int}(s1:s<D.length)(m1:m<5)(x0:0<=x)(x1:x<D.length):DOk (D.set s ((gi D s).set m x)) acc:=by
 have hr:=ok.row s (by omega) (by omega)
 refine ⟨by simpa using ok.l0,by simpa using ok.l1,by simpa using ok.la,fun t t0 t1=>?_,fun t k t0 t1 k0 k1=>?_⟩
 ·obtain ⟨t,rfl⟩:∃t':Nat,t=t':=⟨t.toNat,by omega⟩
  simp only[List.length_set] at t1
  rw[giset2 s1]
  split
  ·rw[List.length_set]; exact hr
  ·exact ok.row _ t0 t1
 ·obtain ⟨t,rfl⟩:∃t':Nat,t=t':=⟨t.toNat,by omega⟩
  obtain ⟨k,rfl⟩:∃k':Nat,k=k':=⟨k.toNat,by omega⟩
  simp only[List.length_set] at t1 ⊢
  rw[giset2 s1]
  split
  ·rename_i q
   rw[giset2 (by omega)]
   split
   ·exact ⟨x0,x1⟩
   ·exact ok.to _ _ (by omega) (by omega) k0 k1
  ·exact ok.to _ _ t0 t1 k0 k1
structure RI (hb:Heap) (oD n:Nat) (sD:AV) (acc:List Bool) (h:Heap) (D:List (List Int)):Prop where
 fr:FrS (fun o=>o=oD) hb h
 g:Gr oD (oD+1) h 5 sD (D.map encR)
 ok:DOk D acc
 ln:D.length=n
end Go.Gm.AQ
namespace Go.Gm.AQ
open Go Go.Gm
theorem a5n {h:Heap}{o sz:Nat}{css:List (List AV)}{n:Nat}(hr:h[o]?=some (.cells ⟨css.flatten,0,0,false⟩))(hn:n=css.length)(hl:∀c∈css,c.length=sz):Sl h sz (.sl o 0 n sz none 0) css:=by
 subst hn
 exact .inr ⟨o,0,none,0,_,rfl,hr,Nat.le_refl _,by rw[List.drop_zero,List.take_of_length_le (by rw[Go.Gm.flatten_len hl]; omega)],hl⟩
def kS:List AV:=kns.map fun x=>.str (ofL (txt x.n))
def kU:List Int:=kns.map fun x=>(x.u:Int)
end Go.Gm.AQ
namespace Go.Gm.AQ
open Go Go.Gm
def qE:List E:=[⟨0,1,0,1⟩,⟨1,2,0,1⟩,⟨2,3,0,1⟩,⟨0,3,0,9⟩,⟨3,4,3,2⟩,⟨4,5,0,1⟩,⟨5,4,0,1⟩,⟨3,0,2,4⟩]
structure Kq where
 n:Nd
 v:Nat
 u:Nat
 b:Int
 l:List Nat
 p:List Int
 deriving Inhabited
def kqs:List Kq:=[
 ⟨.star (.set 1),0,3,3,[0,1,2],[0,-1,7,-1,1,8,-1,2,9,-1,3,10,-1,-1,5,-1,-1,6]⟩,
 ⟨.plus (.set 1),0,2,2,[0,1],[0,-1,7,-1,1,8,-1,2,9,-1,3,10,-1,-1,5,-1,-1,6]⟩,
 ⟨.join [.set 1,.set 1,.set 1],0,3,3,[0,1,2],[0,-1,7,-1,-1,-1,1,8,-1,-1,-1,-1,9,2,-1,-1,9,10,-1,3,-1,-1,5,-1,-1,-1,-1,6,-1,-1]⟩,
 ⟨.set 1,0,3,9,[3],[0,-1,7,-1,1,8,-1,-1,2,-1,9,3,-1,-1,5,-1,-1,6]⟩,
 ⟨.star (.set 31),0,5,6,[0,1,2,4,5],[0,7,-1,1,-1,2,-1,3,-1,5,-1,6]⟩,
 ⟨.join [.star (.set 1),.plus (.set 8),.star (.set 1)],0,4,5,[0,1,2,4],[0,-1,7,-1,-1,-1,1,8,-1,-1,-1,2,9,-1,-1,-1,3,10,-1,-1,-1,-1,12,5,7,-1,-1,13,-1,6]⟩,
 ⟨.join [.star (.set 1),.plus (.set 8),.plus (.set 1)],0,4,7,[0,1,2,4,5,6],[0,-1,7,-1,-1,-1,1,8,-1,-1,-1,2,9,-1,-1,-1,3,10,-1,-1,-1,-1,12,5,7,-1,-1,13,-1,6]⟩,
 ⟨.join [.star (.set 1),.plus (.set 4)],0,0,7,[0,1,2,7],[0,-1,14,7,-1,1,8,-1,-1,2,9,-1,-1,3,10,-1,-1,-1,5,-1,-1,-1,6,-1]⟩,
 ⟨.join [.plus (.set 1),.plus (.set 4),.plus (.set 1)],0,3,10,[0,1,2,7,0,1,2],[0,-1,14,7,-1,-1,1,15,-1,8,-1,2,16,-1,9,-1,3,17,-1,10,-1,-1,5,-1,-1,-1,-1,6,-1,-1]⟩,
 ⟨.star (.join [.plus (.set 1),.plus (.set 4)]),0,0,0,[],[0,-1,-1,7,-1,1,-1,-1,-1,2,-1,-1,-1,3,-1,-1,-1,-1,5,-1,-1,-1,6,-1]⟩,
 ⟨.plus (.set 8),3,4,2,[4],[-1,4,-1,-1,5,-1,-1,6,-1,0,7,-1,-1,4,2,-1,3,-1]⟩,
 ⟨.join [.star (.set 1),.plus (.set 8),.star (.set 1)],3,5,3,[4,5],[-1,-1,4,-1,-1,-1,-1,5,-1,-1,-1,-1,6,-1,-1,0,-1,7,-1,-1,-1,-1,9,2,4,-1,-1,10,-1,3]⟩]
def kqB (x:Kq):Bool:=
 gdB x.n && (decide ((txt x.n).length<=200/\cst x.n+18<=900000/\dp x.n<=30) && (decide (x.v<6/\x.u<6/\0<=x.b) &&
  match nfaF x.n with
  |none=>false
  |some nf=>match subF nf 200 with
   |none=>false
   |some (D,acc)=>lwB qE D acc x.v x.u x.p x.b x.l))
theorem b5M:kqs.all kqB=true:=by decide +kernel
theorem qNet:NetOk (6:Nat) qE:=⟨by decide,by decide,by decide,by decide⟩
theorem qCo:COk qE:=⟨by decide⟩
theorem b5N {x:Kq}(h:x∈kqs):Gd x.n/\Bd x.n/\((txt x.n).length<=200/\cst x.n+18<=900000/\dp x.n<=30)/\(x.v<6/\x.u<6/\0<=x.b)/\∃nf D acc,nfaF x.n=some nf/\subF nf 200=some (D,acc)/\LW qE x.v x.u (fun w=>gi acc (goS D 0 w)=true) x.b:=by
 have h1:=List.all_eq_true.1 b5M x h
 simp only[kqB,Bool.and_eq_true,decide_eq_true_eq] at h1
 obtain ⟨h2,h3,h4,h5⟩:=h1
 obtain ⟨g,bd⟩:=b5F _ h2
 cases hn:nfaF x.n with
 |none=>rw[hn] at h5; cases h5
 |some nf=>
  rw[hn] at h5
  cases hs:subF nf 200 with
  |none=>simp only[hs] at h5; cases h5
  |some p=>
   obtain ⟨D,acc⟩:=p
   simp only[hs] at h5
   exact ⟨g,bd,h3,h4,nf,D,acc,rfl,hs,b5D qNet (a9K hs) h5⟩
def qS:List AV:=kqs.map fun x=>.str (ofL (txt x.n))
def qV:List Int:=kqs.map fun x=>(x.v:Int)
def qU:List Int:=kqs.map fun x=>(x.u:Int)
def qB:List Int:=kqs.map fun x=>x.b
theorem qS_eq:[.str ⟨#[119,42]⟩,.str ⟨#[119,43]⟩,.str ⟨#[119,119,119]⟩,.str ⟨#[119]⟩,.str ⟨#[46,42]⟩,.str ⟨#[119,42,102,43,119,42]⟩,.str ⟨#[119,42,102,43,119,43]⟩,.str ⟨#[119,42,99,43]⟩,.str ⟨#[119,43,99,43,119,43]⟩,.str ⟨#[40,119,43,99,43,41,42]⟩,.str ⟨#[102,43]⟩,.str ⟨#[119,42,102,43,119,42]⟩]=(qS.map enc1).flatten:=by kernel_rfl
theorem qV_eq:([.int .i64 0,.int .i64 0,.int .i64 0,.int .i64 0,.int .i64 0,.int .i64 0,.int .i64 0,.int .i64 0,.int .i64 0,.int .i64 0,.int .i64 3,.int .i64 3]:List AV)=(qV.map encI).flatten:=by kernel_rfl
theorem qU_eq:([.int .i64 3,.int .i64 2,.int .i64 3,.int .i64 3,.int .i64 5,.int .i64 4,.int .i64 4,.int .i64 0,.int .i64 3,.int .i64 0,.int .i64 4,.int .i64 5]:List AV)=(qU.map encI).flatten:=by kernel_rfl
theorem qB_eq:([.int .i64 3,.int .i64 2,.int .i64 3,.int .i64 9,.int .i64 6,.int .i64 5,.int .i64 7,.int .i64 7,.int .i64 10,.int .i64 0,.int .i64 2,.int .i64 3]:List AV)=(qB.map encI).flatten:=by kernel_rfl
theorem qE_eq:([.int .i64 0,.int .i64 1,.int .i64 0,.int .i64 1,.int .i64 1,.int .i64 2,.int .i64 0,.int .i64 1,.int .i64 2,.int .i64 3,.int .i64 0,.int .i64 1,.int .i64 0,.int .i64 3,.int .i64 0,.int .i64 9,.int .i64 3,.int .i64 4,.int .i64 3,.int .i64 2,.int .i64 4,.int .i64 5,.int .i64 0,.int .i64 1,.int .i64 5,.int .i64 4,.int .i64 0,.int .i64 1,.int .i64 3,.int .i64 0,.int .i64 2,.int .i64 4]:List AV)=(qE.map encE).flatten:=by kernel_rfl
theorem b0i {h:Heap}{which:Int} :
  Tot tab x8_ [I which] h fun r _=>r=.bool true:=by
 refine WP.tot (fun k=>a2x k _ h) ?_
 refine WP.call (a9W h) ?_
 rintro _ h1 ⟨rfl,e1⟩
 simp -implicitDefEqProofs (disch:=first|assumption|omega|(simp only[gL,gA]<;>omega)|fail) only[gC,reduceIte]
 rw[qS_eq,qV_eq,qU_eq,qB_eq,qE_eq]
 refine WP.call (a8T (by omega) (by unfold Fit; omega) _) ?_
 rintro _ _ ⟨rfl,rfl⟩
 obtain ⟨h2,hh2⟩:∃h2,h2=(List.set (h1++[AObj.cells ⟨(qE.map encE).flatten,0,0,false⟩]++[AObj.cells ⟨[AV.int .i64 0,.nils],0,0,false⟩]) (h1.length+1) (AObj.cells ⟨[AV.int .i64 6,.sl h1.length 0 8 4 none 0],0,0,false⟩)++[AObj.cells ⟨(qS.map enc1).flatten,0,0,false⟩]++[AObj.cells ⟨(qV.map encI).flatten,0,0,false⟩]++[AObj.cells ⟨(qU.map encI).flatten,0,0,false⟩]++[AObj.cells ⟨(qB.map encI).flatten,0,0,false⟩]):=⟨_,rfl⟩
 rw[<-hh2]
 have rn:h2[h1.length+1]?=some (.cells ⟨[I 6,.sl h1.length 0 8 4 none 0],0,0,false⟩):=by rw[hh2]; simp -implicitDefEqProofs (disch:=first|assumption|omega|(simp only[gL,gA]<;>omega)|fail) only[gC,reduceIte]
 have rE:h2[h1.length]?=some (.cells ⟨(qE.map encE).flatten,0,0,false⟩):=by rw[hh2]; simp -implicitDefEqProofs (disch:=first|assumption|omega|(simp only[gL,gA]<;>omega)|fail) only[gC,reduceIte]
 have rS:h2[h1.length+1+1]?=some (.cells ⟨(qS.map enc1).flatten,0,0,false⟩):=by rw[hh2]; simp -implicitDefEqProofs (disch:=first|assumption|omega|(simp only[gL,gA]<;>omega)|fail) only[gC,reduceIte]
 have rV:h2[h1.length+1+1+1]?=some (.cells ⟨(qV.map encI).flatten,0,0,false⟩):=by rw[hh2]; simp -implicitDefEqProofs (disch:=first|assumption|omega|(simp only[gL,gA]<;>omega)|fail) only[gC,reduceIte]
 have rU:h2[h1.length+1+1+1+1]?=some (.cells ⟨(qU.map encI).flatten,0,0,false⟩):=by rw[hh2]; simp -implicitDefEqProofs (disch:=first|assumption|omega|(simp only[gL,gA]<;>omega)|fail) only[gC,reduceIte]
 have rB:h2[h1.length+1+1+1+1+1]?=some (.cells ⟨(qB.map encI).flatten,0,0,false⟩):=by rw[hh2]; simp -implicitDefEqProofs (disch:=first|assumption|omega|(simp only[gL,gA]<;>omega)|fail) only[gC,reduceIte]
 clear hh2
 have sE:Sl h2 4 (.sl h1.length 0 8 4 none 0) (qE.map encE):=a5n rE rfl fun c hc=>by obtain ⟨x,_,rfl⟩:=List.mem_map.1 hc; rfl
 have sS:Sl h2 1 (.sl (h1.length+1+1) 0 12 1 none 0) (qS.map enc1):=a5n rS rfl fun c hc=>by obtain ⟨x,_,rfl⟩:=List.mem_map.1 hc; rfl
 have sV:Sl h2 1 (.sl (h1.length+1+1+1) 0 12 1 none 0) (qV.map encI):=a5n rV rfl fun c hc=>by obtain ⟨x,_,rfl⟩:=List.mem_map.1 hc; rfl
 have sU:Sl h2 1 (.sl (h1.length+1+1+1+1) 0 12 1 none 0) (qU.map encI):=a5n rU rfl fun c hc=>by obtain ⟨x,_,rfl⟩:=List.mem_map.1 hc; rfl
 have sB:Sl h2 1 (.sl (h1.length+1+1+1+1+1) 0 12 1 none 0) (qB.map encI):=a5n rB rfl fun c hc=>by obtain ⟨x,_,rfl⟩:=List.mem_map.1 hc; rfl
 generalize AV.sl (h1.length+1+1) 0 12 1 none 0=tS at sS ⊢
 generalize AV.sl (h1.length+1+1+1) 0 12 1 none 0=tV at sV ⊢
 generalize AV.sl (h1.length+1+1+1+1) 0 12 1 none 0=tU at sU ⊢
 generalize AV.sl (h1.length+1+1+1+1+1) 0 12 1 none 0=tB at sB ⊢
 clear rE rS rV rU rB
 have lS:qS.length=12:=rfl
 have lV:qV.length=12:=rfl
 have lU:qU.length=12:=rfl
 have lB:qB.length=12:=rfl
 obtain ⟨k,hk⟩:∃k:Nat,which % ((12:Nat):Int)=k:=⟨(which % ((12:Nat):Int)).toNat,by omega⟩
 have hk12:k<12:=by omega
 rw[hk]
 obtain ⟨x,hx⟩:∃x,x=kqs[k]'hk12:=⟨_,rfl⟩
 have hm:x∈kqs:=by rw[hx]; exact List.getElem_mem _
 have gS:gi qS (k:Int)=.str (ofL (txt x.n)):=by rw[c5_ (by omega),hx]; exact List.getElem_map _
 have gV:gi qV (k:Int)=(x.v:Int):=by rw[c5_ (by omega),hx]; exact List.getElem_map _
 have gU:gi qU (k:Int)=(x.u:Int):=by rw[c5_ (by omega),hx]; exact List.getElem_map _
 have gB':gi qB (k:Int)=x.b:=by rw[c5_ (by omega),hx]; exact List.getElem_map _
 obtain ⟨g,bd,⟨z1,z2,z3⟩,⟨hv,hu,hb0⟩,nf,D0,acc0,hnf,hsb,lw0⟩:=b5N hm
 have e0:=Ext.refl h2
 simp -implicitDefEqProofs (disch:=first|assumption|omega|exact Ext.refl _|(simp only[gL,gA]<;>omega)|fail) only[gC,reduceIte,sS.idxG,sS.ld0,enc1,gS]
 refine WP.call (a9L (by rw[a5K]; exact z1) z2 (b4O g z3) g bd h2) ?_
 rintro r h3 ⟨e3,q3⟩
 simp only[CmpQ,hnf,hsb] at q3
 obtain ⟨vv,rfl,D,acc,sN,sA,rfl,gN,gA,ok,hle,hw⟩:=q3
 have o1:=gN.sl.one
 have o2:=gA.sl.one
 have hw1:wrAt 2 (h3++[AObj.cells ⟨[.nils,.nils],0,0,false⟩]) (some (AObj.cells ⟨[.nils,.nils],0,0,false⟩)) h3.length 0 2 0 [sN,sA]=some (h3++[AObj.cells ⟨[sN,sA],0,0,false⟩]):=by
  refine (a1y (n:=2) (off:=0) (hi:=2) (vs:=[sN,sA]) rfl rfl (by omega) (by simp[o1,o2])).trans ?_
  rw[k9_ rfl]
  rfl
 obtain ⟨h4,hh4⟩:∃h4,h4=h3++[AObj.cells ⟨[sN,sA],0,0,false⟩]:=⟨_,rfl⟩
 have e4:Ext h3 h4:=by rw[hh4]; exact Ext.push _ _
 have rd:h4[h3.length]?=some (.cells ⟨[sN,sA],0,0,false⟩):=by rw[hh4]; simp
 have e34:=e3.trans e4
 have rn4:=e34.get rn
 have sV4:=sV.ext e34
 have sU4:=sU.ext e34
 simp -implicitDefEqProofs (disch:=first|assumption|omega|(simp only[gL,gA]<;>omega)|fail) only[gC,reduceIte,a1_,hw1]
 rw[<-hh4]
 have e44:=Ext.refl h4
 simp -implicitDefEqProofs (disch:=first|assumption|omega|exact Ext.refl _|(simp only[gL,gA]<;>omega)|fail) only[gC,reduceIte,rn4,rd,sV4.idxG,sV4.ld0,sU4.idxG,sU4.ld0,encI,gV,gU]
 obtain ⟨h5,hh5⟩:∃h5,h5=h4++[AObj.cells ⟨[AV.int .i64 0,.nils],0,0,false⟩]:=⟨_,rfl⟩
 have e5:Ext h4 h5:=by rw[hh5]; exact Ext.push _ _
 have r5:h5[h4.length]?=some (.cells ⟨[I 0,.nils],0,0,false⟩):=by rw[hh5]; simp[I]
 rw[<-hh5]
 have e35:=e34.trans e5
 refine WP.call (a6S (N:=6) (by omega) qNet qCo (sE.ext e35)) ?_
 rintro xx h6 ⟨e6,A,Up,Dn,xv,ix⟩
 have e56:=e5.trans e6
 have rd6:=e56.get rd
 have sV6:=sV4.ext e56
 have sU6:=sU4.ext e56
 have e66:=Ext.refl h6
 simp -implicitDefEqProofs (disch:=first|assumption|omega|exact Ext.refl _|(simp only[gL,gA]<;>omega)|fail) only[gC,reduceIte,rd6,sV6.ld0,sU6.ld0,encI,gV,gU]
 have ln:D.length<=200:=by
  have:=b3C hsb
  omega
 have hn2:2*(6*D.length)*(6+1)<=1000000:=by omega
 have e36:=e35.trans e6
 refine WP.call (a6U (N:=6) (by omega) qNet qCo xv ix ok (gN.sl.ext (e4.trans e56)) (gA.sl.ext (e4.trans e56)) hn2 hv hu) ?_
 rintro _ h7 ⟨e7,b,lw,rq⟩
 have hlw:LW qE x.v x.u (fun w=>gi acc (goS D 0 w)=true) x.b:=by
  refine ⟨?_,fun l l1 l2 l3=>lw0.le l l1 l2 (by rw[hw _ (OkW.md qNet l1)]; exact l3)⟩
  rcases lw0.ex with y|⟨y0,l,y1,y2,y3,y4⟩
  ·exact .inl y
  ·exact .inr ⟨y0,l,y1,y2,by rw[<-hw _ (OkW.md qNet y1)]; exact y3,y4⟩
 obtain rfl:=lw.uniq hlw
 rcases rq with ⟨c0,_⟩|⟨c0,sl,ll,rfl,hgl,hll,ow,hu',hac,hc⟩
 ·omega
 have l4:h4.length=h3.length+1:=by rw[hh4]; simp
 have l56:=e6.len
 have l5:h5.length=h4.length+1:=by rw[hh5]; simp
 have r7:h7[h3.length+1]?=some (.cells ⟨[I 0,.nils],0,0,false⟩):=by rw[<-l4]; exact e7.get (e6.get r5)
 have b7:=(List.getElem?_eq_some_iff.1 r7).1
 have hsl:=hgl.sl
 have os:=hsl.one
 have hw2:wrAt 2 h7 (some (AObj.cells ⟨[I 0,.nils],0,0,false⟩)) (h3.length+1) 0 2 0 [I x.b,sl]=some (h7.set (h3.length+1) (.cells ⟨[I x.b,sl],0,0,false⟩)):=
  a1y (n:=2) (off:=0) (hi:=2) (vs:=[I x.b,sl]) rfl rfl (by omega) (by simp[os,I,a3O])
 simp -implicitDefEqProofs (disch:=first|assumption|omega|(simp only[gL,gA]<;>omega)|fail) only[gC,reduceIte,b1_,b2_,hsl.one,hsl.cells,r7]
 simp only[hw2,oh_some]
 simp -implicitDefEqProofs (disch:=first|assumption|omega|(simp only[gL,gA]<;>omega)|fail) only[gC,reduceIte]
 obtain ⟨h8,hh8⟩:∃h8,h8=h7.set (h3.length+1) (.cells ⟨[I x.b,sl],0,0,false⟩):=⟨_,rfl⟩
 have e48:Ext h4 h8:=by
  have e47:=e56.trans e7
  rw[hh8]; ((repeat (first|exact Ext.refl _|assumption|apply Ext.app|apply Ext.mk|(refine Ext.setr ?_ (by (first|omega|(simp only[gL]<;>omega))) _))))
 have r8:h8[h3.length+1]?=some (.cells ⟨[I x.b,sl],0,0,false⟩):=by rw[hh8]; exact a2_ b7
 have s8:Sl h8 1 sl ((ll.map fun (e:Nat)=>(e:Int)).map encI):=by rw[hh8]; exact (hgl.set (by omega) _).sl
 rw[<-hh8]
 have e38:=e34.trans e48
 have rn8:=e48.get rn4
 have rd8:=e48.get rd
 have sV8:=sV4.ext e48
 have sU8:=sU4.ext e48
 have sB8:=sB.ext e38
 have e88:=Ext.refl h8
 simp -implicitDefEqProofs (disch:=first|assumption|omega|exact Ext.refl _|(simp only[gL,gA]<;>omega)|fail) only[gC,reduceIte,r8,sB8.idxG,sB8.ld0,encI,gB',rn8,rd8,sV8.idxG,sV8.ld0,sU8.idxG,sU8.ld0,gV,gU]
 refine WP.call (b1n (N:=6) qNet qCo ok (sE.ext e38) (gN.sl.ext (e4.trans e48)) (gA.sl.ext (e4.trans e48)) s8 hll hv hu ow hu' hc hac) ?_
 rintro _ h9 ⟨rfl,e9⟩
 exact WP.ret rfl
end Go.Gm.AQ
namespace Go.Gm
open Go.RowKit
def roObj (cs:List AV):AObj:=.cells ⟨cs,0,0,true⟩
def initH (L:List (List AV × Option Loc)):Heap:=L.map fun p=>roObj p.1
def initR (L:List (List AV × Option Loc)):Ren:=⟨fun o g=>if g=0 then (L[o]?).bind (·.2) else none,fun _=>none⟩
def EntOk (W:World)(φ:Ren)(p:List AV × Option Loc):Prop:=∀l,p.2=some l->∃C e fr,W.heap[l.b]?=some (.cells C e fr)/\C.size=l.N/\l.n=p.1.length/\CellsAt φ p.1 l C
theorem initS {W:World}{L:List (List AV × Option Loc)}(hL:∀p∈L,EntOk W (initR L) p) :
  S W.heap.size W (initR L) (initH L) W:=by
 have got:∀o g l,(initR L).c o g=some l->g=0/\∃cs,L[o]?=some (cs,some l):=fun o g l h=>by
  simp only[initR] at h
  split at h
  ·rename_i hg
   cases hq:L[o]? with
   |none=>rw[hq] at h; cases h
   |some p=>rw[hq] at h; exact ⟨hg,p.1,by rw[<-(show p.2=some l from h)]⟩
  ·cases h
 have ro:∀o g l,(initR L).c o g=some l->isRo (initH L) o=true:=fun o g l h=>by
  obtain ⟨_,cs,hq⟩:=got o g l h
  simp[isRo,initH,hq,roObj]
 refine ⟨⟨fun o g l h=>?_,fun o b h=>(by cases h),fun o g l o' g' l' h h' _=>.inr ⟨ro o g l h,ro o' g' l' h'⟩,fun o b o' b' h=>(by cases h)⟩,Below.refl _ _,Nat.le_refl _⟩
 obtain ⟨hg,cs,hq⟩:=got o g l h
 subst hg
 obtain ⟨C,e,fr,h1,h2,h3,h4⟩:=hL _ (List.mem_of_getElem? hq) l rfl
 exact ⟨⟨cs,0,0,true⟩,by simp[initH,hq,roObj],Nat.le_refl _,Nat.le_refl _,⟨C,e,fr,h1,h2,fun q=>(by cases q),fun _=>h4⟩,fun _=>h3⟩
theorem entry {P:Program}{T:Tab}(hv:Valid P T){W:World}{L:List (List AV × Option Loc)}(hL:∀p∈L,EntOk W (initR L) p){f:FuncId}{args:List AV}{args':List Value}(ha:VRs (initR L) args args'){Q:AV->Heap->Prop}(ht:Tot T f args (initH L) Q)(hq:∀v h,Q v h->v=.bool true) :
  Calls P f args'.toArray W fun e w'=>e=.returned (.bool true)/\Below W.heap.size W w':=by
 obtain ⟨v,h',h1,N,hN⟩:=ht
 have hv1:=hq v h' h1
 subst hv1
 obtain ⟨_,h2⟩:=fnSim (B:=W.heap.size) (w0:=W) hv N f args (initH L) _ _ (hN N (Nat.le_refl N))
 refine (h2 _ W args' ha (initS hL)).mono ?_
 rintro e w' ⟨ψ,v',rfl,k1,k2,k3⟩
 cases k1
 exact ⟨rfl,k2.below⟩
end Go.Gm
