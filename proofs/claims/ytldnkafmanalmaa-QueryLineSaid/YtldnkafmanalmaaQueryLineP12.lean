/- A part of the proof (GmAQqm, GmAQqn, GmAQqo, GmAQqp, GmAQqs, GmAQqt, GmAQqu, GmAQqv, GmAQqw, GmAQqx, GmEntry, GmRw, GmRaw). -/
import Derived.OpenShut
import Derived.ChangeArms
import Derived.DataReads
import Derived.Test.YtldnkafmanalmaaQueryLineP11
set_option linter.unusedVariables false
set_option linter.unusedSimpArgs false
set_option linter.unusedSectionVars false
namespace Go.Gm.AQ
open Go Go.Gm
def RtQ (es:List E)(D:List (List Int))(acc:List Bool)(v u lo:Nat)(r:AV)(h':Heap):Prop:=
 ∃b,LW es v u (fun w=>gi acc (goS D 0 w)=true) b/\((b<0/\r=.tup [.agg [I 0,.nils],.bool false])\/
  (0<=b/\∃sl ll,r=.tup [.agg [I b,sl],.bool true]/\Gr lo h'.length h' 1 sl ((ll.map fun (e:Nat)=>(e:Int)).map encI)/\ll.length<=1000000/\OkW es v ll/\atV es v ll=u/\gi acc (atS es D 0 ll)=true/\atC es ll=b))
theorem b3w (l:List Nat):l.map natE=(l.map fun (e:Nat)=>(e:Int)).map encI:=by rw[List.map_map]; rfl
section
variable {h:Heap} {N:Nat} {es:List E} {A:List Ar} {Up Dn:List (List Int)} {D:List (List Int)} {acc:List Bool} {x sD sAc:AV}
theorem y4_ (hN:N<=100)(no:NetOk N es)(co:COk es)(xv:IxV h x N es A Up Dn)(ix:IxC N es A Up Dn)(ok:DOk D acc)(hD:Sl h 5 sD (D.map encR))(hA:Sl h 1 sAc (acc.map encB))(hn2:2*(N*D.length)*(N+1)<=1000000){v u:Nat}(hv:v<N)(hu:u<N) :
  Tot tab d4_ [x,.agg [sD,sAc],I v,I u] h fun r h'=>Ext h h'/\RtQ es D acc v u h.length r h':=by
 refine WP.tot (fun k=>b4E k _ _ _ _ h) ?_
 have hn3:2*(N*D.length)<=1000000:=Nat.le_trans (Nat.le_mul_of_pos_right _ oM) hn2
 obtain ⟨sE,sR,sA,sU,sDn,us,ds,hx,hE,hR,hAr,hU,hDn,lu,ldd,hUp,hDp⟩:=xv.ex
 have o1:=hE.one
 have o2:=hAr.one
 have o3:=hU.one
 have o4:=hDn.one
 have o5:=hD.one
 have o6:=hA.one
 have hz:AV.int .i64 0=I 0:=rfl
 simp only[hz]
 obtain ⟨h1,hh1⟩:∃h1,h1=((h++[AObj.cells ⟨[I N,sE,sR,sA,sU,sDn],0,0,false⟩])++[AObj.cells ⟨[sD,sAc],0,0,false⟩])++[AObj.cells ⟨[I 0,.nils],0,0,false⟩]:=⟨_,rfl⟩
 have e1:Ext h h1:=by rw[hh1]; exact ((Ext.push _ _).app _).app _
 have l1:h1.length=h.length+3:=by rw[hh1]; simp
 have rx:h1[h.length]?=some (.cells ⟨[I N,sE,sR,sA,sU,sDn],0,0,false⟩):=by rw[hh1,m2_ (by simp),m2_ (by simp)]; simp
 have rd:h1[h.length+1]?=some (.cells ⟨[sD,sAc],0,0,false⟩):=by rw[hh1,m2_ (by simp),r8_ (by simp)]; simp
 have rt:h1[h.length+1+1]?=some (.cells ⟨[I 0,.nils],0,0,false⟩):=by rw[hh1,r8_ (by simp)]; simp
 have hr2:∀a b c d e f:AV,rdNAt 2 (some (AObj.cells ⟨[a,b,c,d,e,f],0,0,false⟩)) 0 6 0=some (.agg [a,b]):=fun _ _ _ _ _ _=>rfl
 have hr6:rdNAt 6 (some (AObj.cells ⟨[I N,sE,sR,sA,sU,sDn],0,0,false⟩)) 0 6 0=some (.agg [I N,sE,sR,sA,sU,sDn]):=rfl
 rw[hx]
 refine g7 @o1 @hR @o2 @o3 @o4 @o5 @o6 ?_
 rw[<-hh1]
 refine WP.call (b3a ok (hD.ext e1) (hA.ext e1)) ?_
 rintro _ h2 ⟨e2,rfl⟩
 have e12:=e1.trans e2
 have rx2:=e2.get rx
 have rd2:=e2.get rd
 have rt2:=e2.get rt
 cases hst:stdyB D with
 |false=>
  refine g3 @rx2 @rd2 @hr2 ?_
  refine WP.call (a8b no co oM (hE.ext e12) ok (hD.ext e12) (hA.ext e12) hv hu) ?_
  rintro r h3 ⟨e3,c,lc,rq⟩
  have rt3:=e3.get rt2
  have lw:=bv_lw ok no hv hu lc
  have lt3:h.length+1+1<h3.length:=(List.getElem?_eq_some_iff.1 rt3).1
  have e13:=e12.trans e3
  rcases rq with ⟨c0,rfl⟩|⟨c0,q,l,sl,q1,q2,q3,q4,q5,rfl,q7⟩
  ·refine g3 @a4_ @a5_ @rt3 ?_
   refine WP.ret ⟨eX,_,lw,.inl ⟨c0,rfl⟩⟩
  ·obtain ⟨a1,a2,a3,a4,a5⟩:=b4x ok no hv q4
   obtain ⟨d1,d2⟩:=a8u (v:=u) (S:=D.length) (s:=q) q1
   rw[d1] at a2
   rw[d2] at a3
   have os:=q7.sl.one
   have cs:=q7.sl.cells
   refine g5 @a4_ @a5_ @rt3 @os @cs ?_
   refine WP.ret ⟨eX,_,lw,.inr ⟨c0,sl,l,rfl,?_,q5,a1,a2,by rw[a3]; exact q2,a4⟩⟩
   exact ((q7.set (by have:=e2.len; omega) _).mono (by have:=e2.len; omega) (by simp))
 |true=>
  have sd:=a9N.1 hst
  have xv2:IxV h2 (.agg [I N,sE,sR,sA,sU,sDn]) N es A Up Dn:=hx▸xv.ext e12
  refine g3 @rx2 @rd2 @hr6 ?_
  refine WP.call (b6F hN xv2 ix.toIxS (hD.ext e12) (hA.ext e12)) ?_
  rintro wp h3 ⟨e3,wv⟩
  refine WP.call (b5e wv ix.toIxS ok hN (n:=2*(N*D.length)) rfl hn3 hv) ?_
  rintro _ h4 ⟨e4,os,q,sc,se,sf,oc,oe,ov,rfl,id2,k2,rk2,cs2,ds2,fs2,M2,sw,di,hM,hk⟩
  refine WP.call (b4f (wv.ext e4) ok hN rfl hn3 sw hu) ?_
  rintro _ h5 ⟨e5,out,rfl,qb⟩
  have hg:=b3v ix.toIxS ok
  have hvS:v*D.length<N*D.length:=by
   have:=spotN (N:=N) (v:=v) (S:=D.length) (s:=0) hv ok.l0
   simpa using this
  have lc:=di.lc hg (fun y hy=>by have:y=2*(v*D.length):=hy; omega) hM
  have lw:=q_lw no co ix ok sd hv hu lc qb
  have e15:=((e12.trans e3).trans e4).trans e5
  have rx5:=((e3.trans e4).trans e5).get rx2
  have rt5:=((e3.trans e4).trans e5).get rt2
  have lt5:h.length+1+1<h5.length:=(List.getElem?_eq_some_iff.1 rt5).1
  by_cases o0:out<0
  ·rw[if_pos o0] at lw
   refine g1 @rt5 ?_
   refine WP.ret ⟨eX,_,lw,.inl ⟨oM,rfl⟩⟩
  ·rw[if_neg o0] at lw
   obtain ⟨y,hy⟩:∃y:Nat,out=y:=⟨out.toNat,oM⟩
   subst hy
   rw[Int.toNat_natCast] at lw
   have sw5:=sw.ext e5
   have ro5:=sw5.row
   rcases qb with ⟨qb,_⟩|⟨y',qy,qa,qc,_⟩
   ·omega
   obtain rfl:y=y':=oM
   have hyr:y<2*(N*D.length)/\((y / 2 / D.length:Nat):Int)=u/\gi acc ((y / 2 % D.length:Nat):Int)=true:=by
    obtain ⟨s,s1,s2,bb,hs⟩:=qa
    have la:=ok.la
    have h1:=a4g (N:=N) (S:=D.length) (v:=(u:Int)) (s:=(s:Int)) oM oM oM oM bb
    obtain ⟨_,e2,e3⟩:=a8y (S:=D.length) (v:=(u:Int)) (s:=(s:Int)) oM oM oM bb
    rw[<-hs] at e2 e3
    exact ⟨oM,e2,by rw[e3]; exact s2⟩
   have gcs:=sw5.gc.sl
   have idy:=gcs.idxG (i:=(y:Int)) oM (by rw[sw5.lc]; omega)
   have ldy:=gcs.ld0 (H:=h5) (i:=(y:Int)) (Ext.refl _) oM (by rw[sw5.lc]; omega) oM
   obtain ⟨cost,hcost⟩:∃cost,gf cs2 y=cost:=⟨_,rfl⟩
   replace ldy:Gm.ld1 h5 (elP 1 sc (y:Int))=some (I cost):=by rw[<-hcost]; exact ldy
   obtain ⟨h6,hh6⟩:∃h6,h6=(h5++[AObj.cells ⟨[I 0,.nils],0,0,false⟩]).set h5.length (.cells ⟨[I cost,.nils],0,0,false⟩):=⟨_,rfl⟩
   have e6:Ext h5 h6:=by rw[hh6]; exact eX
   have l6:h6.length=h5.length+1:=by rw[hh6]; simp
   have ro6:h6[h5.length]?=some (.cells ⟨[I cost,.nils],0,0,false⟩):=by rw[hh6]; exact a0_ (by simp)
   refine g3 @ro5 @idy @ldy ?_
   rw[<-hh6]
   have hun:=m1_ (2*(N*D.length)) (gf cs2)
   have hrk:=di.rk y hyr.1 qc
   rw[hcost] at qc lw
   refine WP.ent (qr_l1 (x4:=.ptr h.length 0 6 0) (t8:=.ptr (h.length+1+1) 0 2 0) (out12:=.ptr h5.length 0 2 0) hn3 (sw5.ext e6) di oM (x0:=y) (fun x' ks h7 arcs oa hstx hxn hch hkl e7 ga pa=>?_) (2*(N*D.length)+1) y h6 .nils 0 [] 0 oM (by simp) hyr.1 oM (Ext.refl _) (Gr.nil ..) (fun z=>absurd rfl z) .nil oM) fun i=>rfl
   have hx':x'=2*(v*D.length):=hstx
   have hx2:x' / 2=v*D.length:=oM
   obtain ⟨ll,u1,u2,u3,u4,u5⟩:=c0o no ix.toIxS ok sd hch oM
   rw[hx2,Nat.mul_div_cancel _ ok.l0] at u2 u3
   rw[hx2,Nat.mul_mod_left] at u4
   rw[hcost] at u5
   have hlll:=u1.len
   have hll:ll.length<=1000000:=by
    have:ks.length*(N+1)<=2*(N*D.length)*(N+1):=Nat.mul_le_mul_right _ hkl
    omega
   refine WP.congr (fun i=>b2M i ..) ?_
   obtain ⟨lo,ga',hlo⟩:∃lo,Gr lo (lo+1) h7 1 arcs ((ks.reverse.map fun (e:Nat)=>(e:Int)).map encI)/\h6.length<=lo:=by
    by_cases q:arcs=.nils
    ·subst q
     have hks:ks=[]:=by simpa using ga.isNil
     subst hks
     exact ⟨h6.length,Gr.nil ..,Nat.le_refl _⟩
    ·exact ⟨oa,ga.cong (b3w _),(pa q).1⟩
   refine WP.call (b5U (by simp; omega) ga') ?_
   rintro _ h8 ⟨rfl,f8,g8⟩
   have e68:Ext h6 h8:=f8.ext e7 hlo
   obtain ⟨oa',pa',g8'⟩:=(g8.cong (ys:=ks.map natE) (by rw[<-List.map_reverse,List.reverse_reverse,b3w])).point
   have lna:lenS arcs=some (I ks.length):=by rw[g8'.sl.lenG]
   have e58:=e6.trans e68
   refine g1 @lna ?_
   have hfin:=qr_l3 (LL:=N+1) oM (hAr.ext e15) (by have:=ix.la; omega) o1 hR o3 o4 rx5 rt5 (ks:=ks) oM (ll:=ll) oM (cost:=cost) ks.length 0 h8 .nils 0 [] ll oM e58 (e68.get ro6) (Gr.nil ..) (fun z=>absurd rfl z) g8' (fun z=>by have:=pa' z; omega) (by rw[List.drop_zero]; exact u1) rfl
   refine WP.ent (hfin.mono fun r h9 ⟨⟨sl,r1,r2⟩,r3,r4⟩=>⟨?_,cost,lw,.inr ⟨oM,sl,ll,r1,by rw[<-b3w]; exact r2.mono (by have:=e15.len; omega) (Nat.le_refl _),hll,u2,u3.trans hyr.2.1,?_,u5⟩⟩) fun i=>rfl
   ·rw[a3i]
    refine ⟨by have:=e15.len; omega,fun o ho=>?_⟩
    rw[r4 o (by have:=e15.len; omega) oM]
    obtain ⟨z,hz'⟩:∃z,h[o]?=some z:=⟨h[o],List.getElem?_eq_getElem ho⟩
    rw[hz',e15.get hz']
   ·have h0:((0:Nat):Int)=0:=rfl
    rw[h0] at u4
    rw[u4]; exact hyr.2.2
end
end Go.Gm.AQ
namespace Go.Gm.AQ
open Go Go.Gm
section
variable {N LL:Nat} {es:List E} {A:List Ar} {Up Dn:List (List Int)} {D:List (List Int)} {acc:List Bool} {sD sAc:AV}
def ManyQ (es:List E)(D:List (List Int))(acc:List Bool)(v:Nat)(ts bs:List Int):Prop:=∀i:Nat,i<bs.length->LW es v (gi ts i) (fun w=>gi acc (goS D 0 w)=true) (gi bs i)
theorem ManyQ.snoc {v:Nat}{ts bs:List Int}{b:Int}(m:ManyQ es D acc v ts bs)(h:LW es v (gi ts bs.length) (fun w=>gi acc (goS D 0 w)=true) b):ManyQ es D acc v ts (bs++[b]):=by
 intro i hi
 rw[List.length_append,List.length_singleton] at hi
 by_cases q:i<bs.length
 ·rw[a3h oM oM]; exact m i q
 ·obtain rfl:i=bs.length:=oM
  rw[a6R]; exact h
theorem app1I {oc:Nat}{h:Heap}{out:AV}{bs:List Int}(g:Gr oc (oc+1) h 1 out (bs.map encI))(ho:out≠.nils->oc<h.length)(hl:bs.length<=1000000000)(b:Int) :
  ∃s' h' o',apnd 1 8 out (.sl h.length 0 1 1 none 0) (h++[AObj.cells ⟨[I b],0,0,false⟩])=some (s',h')/\Gr o' (o'+1) h' 1 s' ((bs++[b]).map encI)/\(s'≠.nils->((o'=oc/\out≠.nils)\/h.length<=o')/\o'<h'.length)/\FrS (fun p=>out≠.nils/\p=oc) h h':=by
 have b0:=Gr.lit (h:=h) (sz:=1) (v:=[I b]) rfl
 rw[a3_] at b0
 have e1:Ext h (h++[AObj.cells ⟨[I b],0,0,false⟩]):=Ext.push _ _
 obtain ⟨s',h',o',q1,q2,q3,q4⟩:=(g.ext e1).appP (fun z=>by have:=ho z; simp; omega) b0.sl oM (bytes:=8) oM (by simp; omega)
 refine ⟨s',h',o',q1,q2.cong (by simp[encI]),fun z=>⟨?_,(q3 z).2⟩,(FrS.ofExt e1).trans q4⟩
 rcases (q3 z).1 with h1|h1
 ·exact .inl h1
 ·right; simp at h1; omega
theorem c3H {hb b1:Heap}{all tA:AV}{oo la ha v:Nat}{ts:List Int}{c:Nat->Int}(eb:Ext hb b1)(hoo:hb.length<=oo)(hT:Sl hb 1 tA (ts.map encI))(hA:Gr la ha b1 1 all ((costL N D.length c acc).map encI))(hla:oo<la)(hha:ha<=b1.length)(ht:∀t∈ts,0<=t/\t<N)(htl:ts.length<=1000000)(hlw:∀u:Nat,u<N->LW es v u (fun w=>gi acc (goS D 0 w)=true) (bv c acc (u*D.length) D.length)) :
  ∀(d i:Nat) (h:Heap) (out:AV) (oc:Nat) (bs:List Int),i+d=ts.length->FrS (fun o=>o=oo\/b1.length<=o) b1 h->Gr oc (oc+1) h 1 out (bs.map encI)->(out≠.nils->(oc=oo\/b1.length<=oc)/\oc<h.length)->bs.length=i->ManyQ es D acc v ts bs->
   WP (fun p:Nat × Nat=>a4X p.1 p.2 out all tA (I ts.length) (I i) h) fun r h'=>Ext hb h'/\∃bs:List Int,bs.length=ts.length/\Sl h' 1 r (bs.map encI)/\ManyQ es D acc v ts bs:=by
 have ebl:=eb.len
 intro d
 induction d with
 |zero=>
  intro i h out oc bs hi f g po hbl m
  refine WP.rnd (fun i j=>a8Z i j ..) ?_
  obtain rfl:i=ts.length:=oM
  refine g0 ?_
  exact WP.ret ⟨f.ext eb fun o o1 o2=>oM,bs,hbl,g.sl,m⟩
 |succ d ih=>
  intro i h out oc bs hi f g po hbl m
  refine WP.rnd (fun i j=>a8Z i j ..) ?_
  have e:=f.ext eb fun o o1 o2=>oM
  have hT':=hT.ext e
  have hA':=(hA.frs f fun o o1 o2 o3=>oM).sl
  have hit:(i:Int)<ts.length:=oM
  have ldt:=hT'.ld0 (H:=h) (i:=(i:Int)) (Ext.refl _) oM hit oM
  obtain ⟨t0,t1⟩:=ht _ (b7_ (xs:=ts) (i:=(i:Int)) oM hit)
  obtain ⟨t,htt⟩:∃t:Nat,gi ts (i:Int)=t:=⟨(gi ts (i:Int)).toNat,oM⟩
  rw[htt] at ldt t0 t1
  replace ldt:Gm.ld1 h (elP 1 tA (i:Int))=some (I (t:Int)):=ldt
  have idt:=hT'.idxG (i:=(i:Int)) oM hit
  have htN:t<N:=oM
  have idA:=hA'.idxG (i:=(t:Int)) oM (by rw[i0_]; omega)
  have ldA:=hA'.ld0 (H:=h) (i:=(t:Int)) (Ext.refl _) oM (by rw[i0_]; omega) oM
  rw[j6_ htN] at ldA
  obtain ⟨b,hbv⟩:∃b,bv c acc (t*D.length) D.length=b:=⟨_,rfl⟩
  rw[hbv] at ldA
  replace ldA:Gm.ld1 h (elP 1 all (t:Int))=some (I b):=ldA
  obtain ⟨s',h',o',k1,k2,k3,k4⟩:=app1I g (fun z=>(po z).2) oM b
  have hl1:=f.len
  have hl2:=k4.len
  refine g5 @idt @ldt @idA @ldA @k1 ?_
  refine ih (i+1) h' s' o' (bs++[b]) oM (f.trans (k4.mono fun o _ z=>by have:=(po z.1).1; omega)) k2 (fun z=>?_) (by simp[hbl]) (m.snoc ?_)
  ·rcases (k3 z).1 with ⟨z1,z2⟩|z1
   ·have:=(po z2).1; exact ⟨oM,(k3 z).2⟩
   ·exact ⟨.inr oM,(k3 z).2⟩
  ·rw[hbl,htt,<-hbv]
   exact hlw t htN
theorem c3I {hb b1:Heap}{wp tA:AV}{oo c0 v:Nat}{ts:List Int}{W:Nat->Prop}{os oc' oe ov n:Nat}{q sc se sf:AV}{cs ds fs:List Int}{M:List (Option Int)}(hoo:hb.length<=oo)(ho0:oo<c0)(hT:Sl hb 1 tA (ts.map encI))(ht:∀t∈ts,0<=t/\t<N)(htl:ts.length<=1000000)(wv:WyV2 hb c0 b1 wp N es A Up Dn D acc)(ok:DOk D acc)(hN:N<=100)(hn:n=2*(N*D.length))(hn2:n<=1000000)(w0:SchW W b1 os wp q sc se sf oc' oe ov n cs ds fs M)(hW:∀o,W o->c0<=o)(hlw:∀(u:Nat) (out:Int),u<N->QB (gf cs) (AccS acc D.length u acc.length) out->LW es v u (fun w=>gi acc (goS D 0 w)=true) (if out<0 then -1 else gf cs out.toNat)) :
  ∀(d i:Nat) (h:Heap) (out:AV) (oc:Nat) (bs:List Int),i+d=ts.length->FrS (fun o=>o=oo\/b1.length<=o) b1 h->Gr oc (oc+1) h 1 out (bs.map encI)->(out≠.nils->(oc=oo\/b1.length<=oc)/\oc<h.length)->bs.length=i->ManyQ es D acc v ts bs->
   WP (fun p:Nat × Nat=>a4Y p.1 p.2 out (.ptr os 0 5 0) (.fn j8_ [] []) tA (I ts.length) (I i) h) fun r h'=>Ext hb h'/\∃bs:List Int,bs.length=ts.length/\Sl h' 1 r (bs.map encI)/\ManyQ es D acc v ts bs:=by
 have eb:=wv.eb
 have ebl:=eb.len
 intro d
 induction d with
 |zero=>
  intro i h out oc bs hi f g po hbl m
  refine WP.rnd (fun i j=>a9a i j ..) ?_
  obtain rfl:i=ts.length:=oM
  refine g0 ?_
  exact WP.ret ⟨f.ext eb fun o o1 o2=>oM,bs,hbl,g.sl,m⟩
 |succ d ih=>
  intro i h out oc bs hi f g po hbl m
  refine WP.rnd (fun i j=>a9a i j ..) ?_
  have e:=f.ext eb fun o o1 o2=>oM
  have hT':=hT.ext e
  have hit:(i:Int)<ts.length:=oM
  have ldt:=hT'.ld0 (H:=h) (i:=(i:Int)) (Ext.refl _) oM hit oM
  obtain ⟨t0,t1⟩:=ht _ (b7_ (xs:=ts) (i:=(i:Int)) oM hit)
  obtain ⟨t,htt⟩:∃t:Nat,gi ts (i:Int)=t:=⟨(gi ts (i:Int)).toNat,oM⟩
  rw[htt] at ldt t0 t1
  replace ldt:Gm.ld1 h (elP 1 tA (i:Int))=some (I (t:Int)):=ldt
  have idt:=hT'.idxG (i:=(i:Int)) oM hit
  have htN:t<N:=oM
  have wvh:=(wv.frs f fun o o1 o2=>oM).wy
  have wh:=w0.frs f fun o o1 o2 o3=>by have:=hW o o2; omega
  have hl1:=f.len
  refine g2 @idt @ldt ?_
  refine WP.call (b4f wvh ok hN hn hn2 wh htN) ?_
  rintro _ h2 ⟨e2,o,rfl,qb⟩
  have lw:=hlw t o htN qb
  have f2:=f.trans (FrS.ofExt (D:=fun o=>o=oo\/b1.length<=o) e2)
  have hl2:=e2.len
  have fin:∀b,LW es v t (fun w=>gi acc (goS D 0 w)=true) b->WP (fun p:Nat × Nat=>a4Z p.1 p.2 out (.ptr os 0 5 0) (.fn j8_ [] []) (I b) tA (I ts.length) (I i) h2) fun r h'=>Ext hb h'/\∃bs:List Int,bs.length=ts.length/\Sl h' 1 r (bs.map encI)/\ManyQ es D acc v ts bs:=by
   intro b hlb
   refine WP.congr (fun i=>b3n i.1 i.2 ..) ?_
   obtain ⟨s',h',o',k1,k2,k3,k4⟩:=app1I (g.ext e2) (fun z=>by have:=(po z).2; omega) oM b
   have hl3:=k4.len
   refine g1 @k1 ?_
   refine ih (i+1) h' s' o' (bs++[b]) oM (f2.trans (k4.mono fun o _ z=>by have:=(po z.1).1; omega)) k2 (fun z=>?_) (by simp[hbl]) (m.snoc ?_)
   ·rcases (k3 z).1 with ⟨z1,z2⟩|z1
    ·have:=(po z2).1; exact ⟨oM,(k3 z).2⟩
    ·exact ⟨.inr oM,(k3 z).2⟩
   ·rw[hbl,htt]; exact hlb
  by_cases o0:o<0
  ·rw[if_pos o0] at lw
   refine g0 ?_
   exact fin (-1) lw
  ·rw[if_neg o0] at lw
   have bnd:=qb.bnd (n:=n) (fun x hx=>by
    obtain ⟨s,s1,s2,bb,rfl⟩:=hx
    have la:=ok.la
    have h1:=a4g (N:=N) (S:=D.length) (v:=(t:Int)) (s:=(s:Int)) oM oM oM oM bb
    omega)
   have w2:=wh.ext e2
   have ro:=w2.row
   have gc:=w2.gc.sl
   have idc:=gc.idxG (i:=o) oM (by rw[w2.lc]; omega)
   have ldc:=gc.ld0 (H:=h2) (i:=o) (Ext.refl _) oM (by rw[w2.lc]; omega) oM
   replace ldc:Gm.ld1 h2 (elP 1 sc o)=some (I (gi cs o)):=ldc
   have hgc:gf cs o.toNat=gi cs o:=by show gi cs ((o.toNat:Nat):Int)=_; rw[Int.toNat_of_nonneg oM]
   rw[hgc] at lw
   refine g3 @ro @idc @ldc ?_
   exact fin _ lw
end
section
variable {h:Heap} {N:Nat} {es:List E} {A:List Ar} {Up Dn:List (List Int)} {D:List (List Int)} {acc:List Bool} {x sD sAc tA:AV}
theorem b4g (hN:N<=100)(no:NetOk N es)(co:COk es)(xv:IxV h x N es A Up Dn)(ix:IxC N es A Up Dn)(ok:DOk D acc)(hD:Sl h 5 sD (D.map encR))(hA:Sl h 1 sAc (acc.map encB))(hn2:2*(N*D.length)<=1000000){v:Nat}(hv:v<N){ts:List Int}(hT:Sl h 1 tA (ts.map encI))(ht:∀t∈ts,0<=t/\t<N)(htl:ts.length<=1000000) :
  Tot tab p9_ [x,.agg [sD,sAc],I v,tA] h fun r h'=>Ext h h'/\∃bs:List Int,bs.length=ts.length/\Sl h' 1 r (bs.map encI)/\ManyQ es D acc v ts bs:=by
 refine WP.tot (fun k=>b5D k _ _ _ _ h) ?_
 obtain ⟨sE,sR,sA,sU,sDn,us,ds,hx,hE,hR,hAr,hU,hDn,lu,ldd,hUp,hDp⟩:=xv.ex
 have o1:=hE.one
 have o2:=hAr.one
 have o3:=hU.one
 have o4:=hDn.one
 have o5:=hD.one
 have o6:=hA.one
 obtain ⟨h1,hh1⟩:∃h1,h1=(h++[AObj.cells ⟨[I N,sE,sR,sA,sU,sDn],0,0,false⟩])++[AObj.cells ⟨[sD,sAc],0,0,false⟩]:=⟨_,rfl⟩
 have e1:Ext h h1:=by rw[hh1]; exact (Ext.push _ _).app _
 have l1:h1.length=h.length+2:=by rw[hh1]; simp
 have rx:h1[h.length]?=some (.cells ⟨[I N,sE,sR,sA,sU,sDn],0,0,false⟩):=by rw[hh1,m2_ (by simp)]; simp
 have rd:h1[h.length+1]?=some (.cells ⟨[sD,sAc],0,0,false⟩):=by rw[hh1,r8_ (by simp)]; simp
 have hr2:∀a b c d e f:AV,rdNAt 2 (some (AObj.cells ⟨[a,b,c,d,e,f],0,0,false⟩)) 0 6 0=some (.agg [a,b]):=fun _ _ _ _ _ _=>rfl
 have hr6:rdNAt 6 (some (AObj.cells ⟨[I N,sE,sR,sA,sU,sDn],0,0,false⟩)) 0 6 0=some (.agg [I N,sE,sR,sA,sU,sDn]):=rfl
 have lnT:=hT.lenG
 have hmk:∀H:Heap,mkSl [AV.int .i64 0] 1 8 (AV.int .i64 0) (I ts.length) H=some (.sl H.length 0 0 1 none 0,mkObj H []):=fun H=>c1j (l:=0) (c:=ts.length) (Int.le_refl _) oM oM oM rfl rfl
 rw[hx]
 refine g8 @o1 @hR @o2 @o3 @o4 @o5 @o6 @lnT ?_
 rw[<-hh1]
 rw[hmk]
 simp only[b0O]
 have gO:=Gr.empty h1 1
 rw[a3_] at gO
 obtain ⟨h2,hh2⟩:∃h2,h2=h1++[AObj.cells ⟨[],0,0,false⟩]:=⟨_,rfl⟩
 have e2:Ext h1 h2:=by rw[hh2]; exact Ext.push _ _
 have l2:h2.length=h1.length+1:=by rw[hh2]; simp
 have rx2:=e2.get rx
 have rd2:=e2.get rd
 rw[a3_,<-hh2]
 rw[<-hh2] at gO
 refine g1 @rd2 ?_
 have e12:=e1.trans e2
 refine WP.call (b3a ok (hD.ext e12) (hA.ext e12)) ?_
 rintro _ h3 ⟨e3,rfl⟩
 have e13:=e12.trans e3
 have rx3:=e3.get rx2
 have rd3:=e3.get rd2
 cases hst:stdyB D with
 |false=>
  refine g3 @rx3 @rd3 @hr2 ?_
  refine WP.call (a2G no co oM (hE.ext e13) ok (hD.ext e13) (hA.ext e13) hv) ?_
  rintro all h4 ⟨e4,c,lc,ga⟩
  have e14:=e13.trans e4
  have hT4:=hT.ext e14
  have lnT4:=hT4.lenG
  have h3l:=e3.len
  have h4l:=e4.len
  exact WP.ent (c3H (hb:=h) (b1:=h4) (oo:=h1.length) (N:=N) (es:=es) e14 oM hT ga oM (Nat.le_refl _) ht htl (fun u hu=>bv_lw ok no hv hu lc) ts.length 0 h4 _ h1.length [] oM (FrS.refl _ _) ((gO.ext e3).ext e4) (fun _=>⟨.inl rfl,oM⟩) rfl (fun i hi=>by simp at hi)) fun i=>rfl
 |true=>
  have sd:=a9N.1 hst
  refine g2 @rx3 @rd3 ?_
  refine WP.congr (fun i=>b3o i ..) ?_
  refine g4 @rx3 @rd3 @hr6 @lnT ?_
  have xv':IxV h (.agg [I N,sE,sR,sA,sU,sDn]) N es A Up Dn:=hx▸xv
  refine WP.call (b1F e13 hN xv' ix.toIxS hD hA) ?_
  rintro wp h4 ⟨e4,wv⟩
  refine WP.call (b5e wv.wy ix.toIxS ok hN (n:=2*(N*D.length)) rfl hn2 hv) ?_
  rintro _ h5 ⟨e5,os,q,sc,se,sf,oc,oe,ov,rfl,id2,k2,rk2,cs2,ds2,fs2,M2,sw,di,hM,hk⟩
  have hvS:v*D.length<N*D.length:=by
   have:=spotN (N:=N) (v:=v) (S:=D.length) (s:=0) hv ok.l0
   simpa using this
  have lc:=di.lc (b3v ix.toIxS ok) (fun y hy=>by have:y=2*(v*D.length):=hy; omega) hM
  have h3l:=e3.len
  have h4l:=e4.len
  have h5l:=e5.len
  have e15:=(e13.trans e4).trans e5
  have lnT5:=(hT.ext e15).lenG
  exact WP.ent (c3I (hb:=h) (b1:=h5) (oo:=h1.length) (c0:=h3.length) oM oM hT ht htl (wv.frs (FrS.ofExt (D:=fun _=>False) e5) fun o _ z=>z.elim) ok hN rfl hn2 sw (fun o z=>oM) (fun u o hu qb=>q_lw no co ix ok sd hv hu lc qb) ts.length 0 h5 _ h1.length [] oM (FrS.refl _ _) (((gO.ext e3).ext e4).ext e5) (fun _=>⟨.inl rfl,oM⟩) rfl (fun i hi=>by simp at hi)) fun i=>rfl
end
end Go.Gm.AQ
namespace Go.Gm.AQ
open Go Go.Gm
theorem kOkW {l:List Nat}(h:OkW kE 0 l):l=[]\/l=[0]:=by
 rcases l with _|⟨a,_|⟨b,t⟩⟩
 ·exact .inl rfl
 ·have:=(h 0 a rfl).1
  simp[kE] at this
  exact .inr (by rw[this])
 ·have h1:=(h 0 a rfl).1
  have h2:=h 1 b rfl
  simp[kE] at h1 h2
  obtain ⟨rfl,h3⟩:=h2
  subst h1
  exact absurd h3 (by decide)
theorem kLW1:LW kE 0 1 (fun w=>gi [true] (goS kD 0 w)=true) 4:=by
 refine ⟨.inr ⟨oM,[0],?_,rfl,rfl,rfl⟩,fun l h1 h2 _=>?_⟩
 ·exact OkW.snoc (l:=[]) (fun i e h=>by simp at h) (by simp[kE]) rfl
 ·rcases kOkW h1 with rfl|rfl
  ·exact absurd h2 (by decide)
  ·exact ⟨oM,by decide⟩
theorem kLW0:LW kE 0 0 (fun w=>gi [true] (goS kD 0 w)=true) 0:=by
 refine ⟨.inr ⟨oM,[],?_,rfl,rfl,rfl⟩,fun l h1 h2 _=>?_⟩
 ·exact fun i e h=>by simp at h
 ·rcases kOkW h1 with rfl|rfl
  ·exact ⟨oM,by decide⟩
  ·exact absurd h2 (by decide)
section
variable {h:Heap} {A:List Ar} {Up Dn:List (List Int)} {x sD sAc tA:AV}
theorem kqRoute (xv:IxV h x 2 kE A Up Dn)(ix:IxC 2 kE A Up Dn)(hD:Sl h 5 sD (kD.map encR))(hA:Sl h 1 sAc ([true].map encB)) :
  Tot tab d4_ [x,.agg [sD,sAc],I 0,I 1] h fun r h'=>Ext h h'/\∃sl,r=.tup [.agg [I 4,sl],.bool true]/\Sl h' 1 sl [[I 0]]:=by
 refine (y4_ (N:=2) (v:=0) (u:=1) oM kNet kCo xv ix kDok hD hA (by simp[kD]) oM oM).mono ?_
 rintro r h' ⟨e,b,lw,rq⟩
 obtain rfl:=lw.uniq kLW1
 refine ⟨e,?_⟩
 rcases rq with ⟨q,_⟩|⟨_,sl,ll,q2,q3,q4,q5,q6,_⟩
 ·omega
 ·rcases kOkW q5 with rfl|rfl
  ·exact absurd q6 (by decide)
  ·exact ⟨sl,q2,q3.sl⟩
theorem kqMany (xv:IxV h x 2 kE A Up Dn)(ix:IxC 2 kE A Up Dn)(hD:Sl h 5 sD (kD.map encR))(hA:Sl h 1 sAc ([true].map encB))(hT:Sl h 1 tA [[I 1],[I 0]]) :
  Tot tab p9_ [x,.agg [sD,sAc],I 0,tA] h fun r h'=>Ext h h'/\Sl h' 1 r ([(4:Int),0].map encI):=by
 refine (b4g (N:=2) (v:=0) (ts:=[1,0]) oM kNet kCo xv ix kDok hD hA (by simp[kD]) oM hT (by simp) (by simp)).mono ?_
 rintro r h' ⟨e,bs,hb,sl,m⟩
 refine ⟨e,?_⟩
 match bs,hb with
 |[a,b],_=>
  have h1:=m 0 (by simp)
  have h2:=m 1 (by simp)
  have e1:gi [a,b] 0=4:=h1.uniq kLW1
  have e2:gi [a,b] 1=0:=h2.uniq kLW0
  obtain rfl:a=4:=e1
  obtain rfl:b=0:=e2
  exact sl
theorem kqMany0 (xv:IxV h x 2 kE A Up Dn)(ix:IxC 2 kE A Up Dn)(hD:Sl h 5 sD (kD.map encR))(hA:Sl h 1 sAc ([true].map encB)) :
  Tot tab p9_ [x,.agg [sD,sAc],I 0,.nils] h fun r h'=>Ext h h'/\Sl h' 1 r []:=by
 refine (b4g (N:=2) (v:=0) (ts:=[]) oM kNet kCo xv ix kDok hD hA (by simp[kD]) oM (.inl ⟨rfl,rfl⟩) (by simp) (by simp)).mono ?_
 rintro r h' ⟨e,bs,hb,sl,m⟩
 obtain rfl:=List.eq_nil_of_length_eq_zero hb
 exact ⟨e,sl⟩
end
theorem a4h (h:Heap):Tot tab g3_ [] h fun r h'=>r=.bool true/\Ext h h':=by
 refine WP.tot (fun k=>a9s k h) ?_
 refine g0 ?_
 obtain ⟨h1,hh1⟩:∃h1,h1=h++[AObj.cells ⟨[AV.int .i64 0,AV.int .i64 1,AV.int .i64 0,AV.int .i64 4],0,0,false⟩]:=⟨_,rfl⟩
 have e1:Ext h h1:=by rw[hh1]; exact eX
 have r0:h1[h.length]?=some (.cells ⟨encE ⟨0,1,0,4⟩,0,0,false⟩):=by rw[hh1]; refine g0 ?_; try rfl
 have hs:Sl h1 4 (.sl h.length 0 1 4 none 0) (kE.map encE):=b0p r0 rfl
 rw[<-hh1]
 refine WP.call (a4L (N:=2) oM kNet kCo hs) ?_
 rintro x h2 ⟨e2,A,Up,Dn,xv,ix⟩
 obtain ⟨sE,sR,sA,sU,sDn,us,ds,hx,hE,hR,hAr,hU,hDn,lu,ldd,hUp,hDp⟩:=xv.ex
 have o1:=hE.one
 have o2:=hAr.one
 have o3:=hU.one
 have o4:=hDn.one
 have hr6:rdNAt 6 (some (AObj.cells ⟨[I (2:Nat),sE,sR,sA,sU,sDn],0,0,false⟩)) 0 6 0=some (.agg [I (2:Nat),sE,sR,sA,sU,sDn]):=rfl
 have hr2:∀a b:AV,rdNAt 2 (some (AObj.cells ⟨[a,b],0,0,false⟩)) 0 2 0=some (.agg [a,b]):=fun _ _=>rfl
 rw[hx]
 refine g5 @o1 @hR @o2 @o3 @o4 ?_
 obtain ⟨h3,hh3⟩:∃h3,h3=(List.set (List.set (h2++[AObj.cells ⟨[AV.int .i64 0,.nils,.nils,.nils,.nils,.nils],0,0,false⟩]) h2.length (AObj.cells ⟨[I (2:Nat),sE,sR,sA,sU,sDn],0,0,false⟩) ++
   [AObj.cells ⟨[AV.int .i64 0,AV.int .i64 0,AV.int .i64 0,AV.int .i64 0,AV.int .i64 0],0,0,false⟩]++[AObj.cells ⟨[AV.bool true],0,0,false⟩]++[AObj.cells ⟨[.nils,.nils],0,0,false⟩])
   (h2.length+1+1+1) (AObj.cells ⟨[AV.sl (h2.length+1) 0 1 5 none 0,AV.sl (h2.length+1+1) 0 1 1 none 0],0,0,false⟩)):=⟨_,rfl⟩
 have e3:Ext h2 h3:=by rw[hh3]; exact eX
 have r1:h3[h2.length]?=some (.cells ⟨[I (2:Nat),sE,sR,sA,sU,sDn],0,0,false⟩):=by rw[hh3]; simp -implicitDefEqProofs (disch:=first|assumption|omega|(simp only[gL,gA]<;>omega)|fail) only[gC,reduceIte]; try rfl
 have r2:h3[h2.length+1]?=some (.cells ⟨encR [0,0,0,0,0],0,0,false⟩):=by rw[hh3]; refine g0 ?_; try rfl
 have r3:h3[h2.length+1+1]?=some (.cells ⟨encB true,0,0,false⟩):=by rw[hh3]; refine g0 ?_; try rfl
 have r4:h3[h2.length+1+1+1]?=some (.cells ⟨[AV.sl (h2.length+1) 0 1 5 none 0,AV.sl (h2.length+1+1) 0 1 1 none 0],0,0,false⟩):=by rw[hh3]; simp -implicitDefEqProofs (disch:=first|assumption|omega|(simp only[gL,gA]<;>omega)|fail) only[gC,reduceIte]; try rfl
 have hD:Sl h3 5 (.sl (h2.length+1) 0 1 5 none 0) (kD.map encR):=b0p r2 rfl
 have hA:Sl h3 1 (.sl (h2.length+1+1) 0 1 1 none 0) ([true].map encB):=b0p r3 rfl
 have xv3:=(hx▸xv:IxV h2 (.agg [I (2:Nat),sE,sR,sA,sU,sDn]) 2 kE A Up Dn).ext e3
 rw[<-hh3]
 refine WP.call (kqRoute xv3 ix hD hA) ?_
 rintro _ h4 ⟨e4,sl,rfl,hsl⟩
 have r14:=e4.get r1
 have r44:=e4.get r4
 have b1:=(List.getElem?_eq_some_iff.1 r14).1
 have b4:=(List.getElem?_eq_some_iff.1 r44).1
 refine g8 @a4_ @a5_ hsl.one hsl.cells @r14 @r44 @hr6 @hr2 ?_
 obtain ⟨h5,hh5⟩:∃h5,h5=((h4++[AObj.cells ⟨[AV.int .i64 0,.nils],0,0,false⟩]).set h4.length (.cells ⟨[I 4,sl],0,0,false⟩))++[AObj.cells ⟨[AV.int .i64 1,AV.int .i64 0],0,0,false⟩]:=⟨_,rfl⟩
 have e5:Ext h4 h5:=by rw[hh5]; exact eX
 have q5:h5[h4.length]?=some (.cells ⟨[I 4,sl],0,0,false⟩):=by rw[hh5]; simp -implicitDefEqProofs (disch:=first|assumption|omega|(simp only[gL,gA]<;>omega)|fail) only[gC,reduceIte]; try rfl
 have t5:h5[h4.length+1]?=some (.cells ⟨[I 1,I 0],0,0,false⟩):=by rw[hh5]; simp -implicitDefEqProofs (disch:=first|assumption|omega|(simp only[gL,gA]<;>omega)|fail) only[gC,reduceIte]; try rfl
 have hT:Sl h5 1 (.sl (h4.length+1) 0 2 1 none 0) [[I 1],[I 0]]:=.inr ⟨_,0,none,0,_,rfl,t5,Nat.le_refl _,rfl,by simp⟩
 have e45:=e4.trans e5
 rw[<-hh5]
 refine WP.call (kqMany (xv3.ext e45) ix (hD.ext e45) (hA.ext e45) hT) ?_
 rintro m2 h6 ⟨e6,z6⟩
 have r16:=(e5.trans e6).get r14
 have r46:=(e5.trans e6).get r44
 refine g4 @r16 @r46 @hr6 @hr2 ?_
 have e46:=e45.trans e6
 refine WP.call (kqMany0 (xv3.ext e46) ix (hD.ext e46) (hA.ext e46)) ?_
 rintro m0 h7 ⟨e7,z7⟩
 have q7:=(e6.trans e7).get q5
 have l7:=z7.len
 have ls:=hsl.len
 simp only[List.length_nil,List.length_cons] at l7 ls
 have z67:=z6.ext e7
 have g0:gi [(4:Int),0] 0=4:=rfl
 have g1:gi [(4:Int),0] 1=0:=rfl
 refine g9 @q7 @l7 @ls z67.lenG z67.idxG z67.ld0 @g0 @g1 @encI.eq_1 ?_
 exact WP.ret ⟨rfl,((((e1.trans e2).trans e3).trans e46)).trans e7⟩
end Go.Gm.AQ
namespace Go.Gm.AQ
open Go Go.Gm
theorem h0_ {a n:Int}(hn:0<n)(hf:Fit n)(h:Heap):Tot tab b1_ [I a,I n] h fun v h'=>v=I (a % n)/\h=h':=by
 refine WP.tot (fun k=>a8V k _ _ h) ?_
 refine WP.oa (a8F a n oM) ?_
 refine WP.oa (a6U _ _) ?_
 have hlt:=Int.tmod_lt_of_pos a hn
 have hgt:=Int.lt_tmod_of_pos a hn
 have h1:=Int.tmod_eq_emod (a:=a) (b:=n)
 have h2:=Int.emod_nonneg a (by omega:n≠0)
 have h3:=Int.emod_lt_of_pos a hn
 by_cases h0:a.tmod n<0
 ·simp only[decide_eq_true h0,a2L]
  refine WP.oa (a8E _ _ (by unfold Fit at *; omega)) (WP.ret ⟨?_,rfl⟩)
  congr 1
  split at h1<;>omega
 ·simp only[decide_eq_false h0,a1M]
  refine WP.ret ⟨?_,rfl⟩
  congr 1
  split at h1<;>omega
theorem DOk.wr {D:List (List Int)}{acc:List Bool}(ok:DOk D acc){s m:Nat}{x:Int}(s1:s<D.length)(m1:m<5)(x0:0<=x)(x1:x<D.length):DOk (D.set s ((gi D s).set m x)) acc:=by
 have hr:=ok.row s oM oM
 refine ⟨by simpa using ok.l0,by simpa using ok.l1,by simpa using ok.la,fun t t0 t1=>?_,fun t k t0 t1 k0 k1=>?_⟩
 ·obtain ⟨t,rfl⟩:∃t':Nat,t=t':=⟨t.toNat,oM⟩
  simp only[List.length_set] at t1
  rw[giset2 s1]
  split
  ·rw[List.length_set]; exact hr
  ·exact ok.row _ t0 t1
 ·obtain ⟨t,rfl⟩:∃t':Nat,t=t':=⟨t.toNat,oM⟩
  obtain ⟨k,rfl⟩:∃k':Nat,k=k':=⟨k.toNat,oM⟩
  simp only[List.length_set] at t1 ⊢
  rw[giset2 s1]
  split
  ·rename_i q
   rw[giset2 oM]
   split
   ·exact ⟨x0,x1⟩
   ·exact ok.to _ _ oM oM k0 k1
  ·exact ok.to _ _ t0 t1 k0 k1
structure RI (hb:Heap) (oD n:Nat) (sD:AV) (acc:List Bool) (h:Heap) (D:List (List Int)):Prop where
 fr:FrS (fun o=>o=oD) hb h
 g:Gr oD (oD+1) h 5 sD (D.map encR)
 ok:DOk D acc
 ln:D.length=n
end Go.Gm.AQ
namespace Go.Gm.AQ
open Go Go.Gm
def starB (D:List (List Int))(acc:List Bool)(f:Int->Bool):Bool:=gi acc 0 && ((List.range D.length).all fun s=>(List.range 5).all fun k=>gi acc (nx D (s:Int) (k:Int)) == (gi acc (s:Int) && f (k:Int)))
theorem c2d {D:List (List Int)}{acc:List Bool}{f:Int->Bool}(ok:DOk D acc)(h:starB D acc f=true):∀(w:List Int) (s:Int),(∀m∈w,0<=m/\m<5)->0<=s->s<D.length->gi acc (goS D s w)=(gi acc s && w.all f):=by
 simp only[starB,Bool.and_eq_true,List.all_eq_true,List.mem_range,beq_iff_eq] at h
 intro w
 induction w with
 |nil=>intro s _ _ _; simp[goS]
 |cons m w ih=>
  intro s hm s0 s1
  have m0:=hm m (by simp)
  have n0:=ok.to s m s0 s1 m0.1 m0.2
  have h1:=h.2 s.toNat oM m.toNat oM
  rw[Int.toNat_of_nonneg s0,Int.toNat_of_nonneg m0.1] at h1
  show gi acc (goS D (nx D s m) w)=_
  rw[ih _ (fun x hx=>hm x (List.mem_cons_of_mem _ hx)) n0.1 n0.2,h1,List.all_cons,Bool.and_assoc]
def smB (n:Nd)(f:Int->Bool):Bool:=
 gdB n && (decide ((txt n).length<=200/\cst n+18<=900000/\dp n<=30) &&
  match nfaF n with
  |none=>false
  |some nf=>match subF nf 200 with
   |none=>false
   |some (D,acc)=>decide (D.length<=3) && starB D acc f)
def stM (m:Nat):Nd:=.star (.set (2 ^ m))
theorem smB_m {m:Nat}(h:m<5):smB (stM m) (fun k=>k == (m:Int))=true:=by
 have:m=0\/m=1\/m=2\/m=3\/m=4:=oM
 rcases this with rfl|rfl|rfl|rfl|rfl<;>decide +kernel
theorem b3x {n:Nd}{f:Int->Bool}(hb:smB n f=true)(h:Heap):Tot tab b0_ [.str (ofL (txt n))] h fun r h'=>Ext h h'/\∃D acc sN sA,r=.tup [.agg [sN,sA],I 0]/\DOk D acc/\D.length<=3/\Gr h.length h'.length h' 5 sN (D.map encR)/\Gr h.length h'.length h' 1 sA (acc.map encB)/\∀w,(∀m∈w,0<=m/\m<5)->(gi acc (goS D 0 w)=true↔∀m∈w,f m=true):=by
 simp only[smB,Bool.and_eq_true,decide_eq_true_eq] at hb
 obtain ⟨h2,⟨z1,z2,z3⟩,h5⟩:=hb
 obtain ⟨g,bd⟩:=b2c _ h2
 cases hn:nfaF n with
 |none=>rw[hn] at h5; cases h5
 |some nf=>
  rw[hn] at h5
  cases hs:subF nf 200 with
  |none=>simp only[hs] at h5; cases h5
  |some p=>
   obtain ⟨D0,acc0⟩:=p
   simp only[hs,Bool.and_eq_true,decide_eq_true_eq] at h5
   refine (y9_ (by rw[q7_]; exact z1) z2 (a6T g z3) g bd h).mono ?_
   rintro r h' ⟨e,q3⟩
   simp only[CmpQ,hn,hs] at q3
   obtain ⟨vv,rfl,D,acc,sN,sA,rfl,gN,gA,ok,hle,hw⟩:=q3
   refine ⟨e,D,acc,sN,sA,rfl,ok,oM,gN,gA,fun w hm=>?_⟩
   have ok0:=a9i hs
   have h6:=c2d ok0 h5.2 w 0 hm oM (by have:=ok0.l0; omega)
   have h7:gi acc0 0=true:=by
    have:=h5.2
    simp only[starB,Bool.and_eq_true] at this
    exact this.1
   rw[h7,Bool.true_and] at h6
   rw[<-hw w hm,h6,List.all_eq_true]
theorem mstr {m:Nat}(h:m<5):∃t,slStr (.str ⟨#[119,98,99,102,116]⟩) (some (I (m:Int))) (some (I ((m:Int)+1)))=some t/\binV .add .scalar t (.str ⟨#[42]⟩)=some (.str (ofL (txt (stM m)))):=by
 have:m=0\/m=1\/m=2\/m=3\/m=4:=oM
 refine ⟨.str (ofL (txt (.set (2 ^ m)))),?_,?_⟩<;>rcases this with rfl|rfl|rfl|rfl|rfl<;>kernel_rfl
end Go.Gm.AQ
namespace Go.Gm.AQ
open Go Go.Gm
def ofM (es:List E)(m:Nat):List E:=es.filter fun e=>e.md == (m:Int)
theorem a5Y {A:List E}{e:Nat}(h:e<A.length):eg A e∈A:=b7_ oM oM
theorem a9h {A:List E}{x:E}(h:x∈A):∃e,e<A.length/\eg A e=x:=by
 obtain ⟨i,hi,rfl⟩:=List.mem_iff_getElem.1 h
 exact ⟨i,hi,b2_ hi⟩
structure PkI (h0:Heap) (on oo N m:Nat) (s:AV) (es:List E) (i:Nat) (h:Heap) (s2:AV):Prop where
 fr:FrS (fun o=>o=oo\/h0.length<=o) h0 h
 ro:h[oo]?=some (.cells ⟨[I N,s2],0,0,false⟩)
 g:Gr h0.length h.length h 4 s2 ((ofM (es.take i) m).map encE)
end Go.Gm.AQ
namespace Go.Gm.AQ
open Go Go.Gm
theorem wr2 {h:Heap}{a b:AV}(o1:a.one=true)(o2:b.one=true):wrAt 2 (h++[AObj.cells ⟨[.nils,.nils],0,0,false⟩]) (some (AObj.cells ⟨[.nils,.nils],0,0,false⟩)) h.length 0 2 0 [a,b]=some (h++[AObj.cells ⟨[a,b],0,0,false⟩]):=by
 refine (g5_ (n:=2) (off:=0) (hi:=2) (vs:=[a,b]) rfl rfl oM (by simp[o1,o2])).trans ?_
 rw[c9_ rfl]
 rfl
end Go.Gm.AQ
namespace Go.Gm.AQ
open Go Go.Gm
def lnS (C:Nat->Int):Nat->Int
 |0=>0
 |i+1=>lnS C i+C i
def lnE (m:Nat)(C:Nat->Int)(n:Nat):List E:=(List.range n).flatMap fun (i:Nat)=>[⟨(i:Int),(i:Int)+1,m,C i⟩,⟨(i:Int)+1,(i:Int),m,C i⟩]
def lnL (C:Nat->Int)(n:Nat):List Int:=(List.range n).map (lnS C)
theorem b3y (m:Nat)(C:Nat->Int)(n:Nat):lnE m C (n+1)=lnE m C n++[⟨(n:Int),(n:Int)+1,m,C n⟩,⟨(n:Int)+1,(n:Int),m,C n⟩]:=by
 simp[lnE,List.range_succ,List.flatMap_append]
theorem c2h (C:Nat->Int)(n:Nat):lnL C (n+1)=lnL C n++[lnS C n]:=by simp[lnL,List.range_succ]
theorem b4L (m:Nat)(C:Nat->Int):∀n,(lnE m C n).length=2*n
 |0=>rfl
 |n+1=>by rw[b3y,List.length_append,b4L m C n]; simp; omega
theorem b6I (C:Nat->Int){n i:Nat}(h:i<n):gi (lnL C n) (i:Int)=lnS C i:=by
 rw[b2_ (by simp[lnL]; exact h)]
 simp[lnL]
theorem a8z {m:Nat}{C:Nat->Int}{n:Nat}{e:E}:e∈lnE m C n↔∃i:Nat,i<n/\(e=⟨(i:Int),(i:Int)+1,m,C i⟩\/e=⟨(i:Int)+1,(i:Int),m,C i⟩):=by
 simp[lnE,List.mem_flatMap,List.mem_range]
theorem b2z {C:Nat->Int}(hC:∀i,i<60->0<=C i/\C i<=2147483647):∀i:Nat,i<=60->0<=lnS C i/\lnS C i<=i*2147483647
 |0,_=>by simp[lnS]
 |i+1,h=>by
  have h1:=b2z hC i oM
  have h2:=hC i oM
  simp only[lnS]
  omega
theorem ln_no {m n:Nat}{C:Nat->Int}(hm:m<5)(hn:1<=n/\n<=50)(hC:∀i,i<60->0<=C i/\C i<=2147483647):NetOk ((n+1:Nat):Int) (lnE m C n):=by
 refine ⟨oM,oM,by rw[b4L]; omega,fun e he=>?_⟩
 obtain ⟨i,hi,rfl|rfl⟩:=a8z.1 he
 ·exact ⟨by show 0<=(i:Int); omega,by show (i:Int)<_; omega,by show 0<=(i:Int)+1; omega,by show (i:Int)+1<_; omega,by show 0<=(m:Int); omega,by show (m:Int)<5; omega⟩
 ·exact ⟨by show 0<=(i:Int)+1; omega,by show (i:Int)+1<_; omega,by show 0<=(i:Int); omega,by show (i:Int)<_; omega,by show 0<=(m:Int); omega,by show (m:Int)<5; omega⟩
theorem ln_co {m n:Nat}{C:Nat->Int}(hn:1<=n/\n<=50)(hC:∀i,i<60->0<=C i/\C i<=2147483647):COk (lnE m C n):=by
 refine ⟨fun e he=>?_⟩
 obtain ⟨i,hi,rfl|rfl⟩:=a8z.1 he<;>exact hC i oM
theorem c2i {es:List E}{S:Int->Int}(h:∀e∈es,S e.to-S e.fr<=e.co/\S e.fr-S e.to<=e.co){v:Int}:∀(k:Nat) (l:List Nat),l.length=k->OkW es v l->S (atV es v l)-S v<=atC es l/\S v-S (atV es v l)<=atC es l:=by
 intro k
 induction k with
 |zero=>
  intro l hl _
  obtain rfl:l=[]:=List.length_eq_zero_iff.1 hl
  simp[atV,atC]
 |succ k ih=>
  intro l hl ho
  obtain ⟨l0,e,rfl⟩:∃l0 e,l=l0++[e]:=⟨l.dropLast,l.getLast (by intro z; simp[z] at hl),(List.dropLast_concat_getLast _).symm⟩
  obtain ⟨k1,k2,k3⟩:=b1r ho
  have h1:=ih l0 (by simpa using hl) k1
  have h2:=h _ (a5Y k2)
  rw[k3] at h2
  rw[q6_,w8_]
  omega
theorem ln_up {m n:Nat}{C:Nat->Int}(v:Nat):∀d:Nat,v+d<=n->∃l,OkW (lnE m C n) v l/\atV (lnE m C n) v l=((v+d:Nat):Int)/\atC (lnE m C n) l=lnS C (v+d)-lnS C v
 |0,_=>⟨[],fun i e h=>by simp at h,rfl,by simp[atC]⟩
 |d+1,h=>by
  obtain ⟨l,h1,h2,h3⟩:=ln_up (m:=m) (n:=n) (C:=C) v d oM
  obtain ⟨e,e1,e2⟩:=a9h (A:=lnE m C n) (x:=⟨((v+d:Nat):Int),((v+d:Nat):Int)+1,m,C (v+d)⟩) (a8z.2 ⟨v+d,oM,.inl rfl⟩)
  refine ⟨l++[e],h1.snoc e1 (by rw[e2,h2]),by rw[q6_,e2]; show ((v+d:Nat):Int)+1=_; omega,?_⟩
  rw[w8_,e2,h3]
  show lnS C (v+d)-lnS C v+C (v+d)=lnS C (v+d+1)-lnS C v
  simp only[lnS]; omega
theorem ln_dn {m n:Nat}{C:Nat->Int}(u:Nat):∀d:Nat,u+d<=n->∀k:Nat,k<=d->∃l,OkW (lnE m C n) ((u+d:Nat):Int) l/\atV (lnE m C n) ((u+d:Nat):Int) l=((u+(d-k):Nat):Int)/\atC (lnE m C n) l=lnS C (u+d)-lnS C (u+(d-k)):=by
 intro d hd k
 induction k with
 |zero=>intro _; exact ⟨[],fun i e h=>by simp at h,rfl,by simp[atC]⟩
 |succ k ih=>
  intro hk
  obtain ⟨l,h1,h2,h3⟩:=ih oM
  obtain ⟨j,hj⟩:∃j,u+(d-k)=j+1:=⟨u+(d-k)-1,oM⟩
  have hj2:u+(d-(k+1))=j:=oM
  rw[hj] at h2 h3
  rw[hj2]
  obtain ⟨e,e1,e2⟩:=a9h (A:=lnE m C n) (x:=⟨(j:Int)+1,(j:Int),m,C j⟩) (a8z.2 ⟨j,oM,.inr rfl⟩)
  refine ⟨l++[e],h1.snoc e1 (by rw[e2,h2]; show (j:Int)+1=_; omega),by rw[q6_,e2],?_⟩
  rw[w8_,e2,h3]
  show lnS C (u+d)-lnS C (j+1)+C j=_
  simp only[lnS]; omega
theorem ln_lw {m n:Nat}{C:Nat->Int}{P:List Int->Prop}(hm:m<5)(hn:1<=n/\n<=50)(hC:∀i,i<60->0<=C i/\C i<=2147483647)(hP:∀w,(∀k∈w,0<=k/\k<5)->(P w↔∀k∈w,(k == (m:Int))=true)){v u:Nat}(hv:v<=n)(hu:u<=n) :
  LW (lnE m C n) v u P (if lnS C u-lnS C v<0 then lnS C v-lnS C u else lnS C u-lnS C v):=by
 have no:=ln_no (C:=C) hm hn hC
 have hw:∀l,OkW (lnE m C n) v l->P (wdOf (lnE m C n) l):=fun l hl=>(hP _ (OkW.md no hl)).2 fun k hk=>by
  obtain ⟨e,he,rfl⟩:=List.mem_map.1 hk
  obtain ⟨i,_,q|q⟩:=a8z.1 (a5Y (hl.mem e he))<;>rw[q]<;>simp
 refine ⟨.inr ⟨by split<;>omega,?_⟩,fun l h1 h2 _=>?_⟩
 ·by_cases q:v<=u
  ·obtain ⟨l,a1,a2,a3⟩:=ln_up (m:=m) (n:=n) (C:=C) v (u-v) oM
   rw[show v+(u-v)=u by omega] at a2 a3
   have:=a8v (ln_co (m:=m) hn hC) l (fun e he=>a1.mem e he) 0
   have a3':atC (lnE m C n) l=lnS C u-lnS C v:=a3
   have h0:0<=atC (lnE m C n) l:=this.1
   exact ⟨l,a1,a2,hw l a1,by rw[if_neg oM]; exact a3⟩
  ·obtain ⟨l,a1,a2,a3⟩:=ln_dn (m:=m) (n:=n) (C:=C) u (v-u) oM (v-u) (Nat.le_refl _)
   rw[show u+(v-u)=v by omega] at a1 a2 a3
   rw[Nat.sub_self,Nat.add_zero] at a2 a3
   have h0:0<=atC (lnE m C n) l:=(a8v (ln_co (m:=m) hn hC) l (fun e he=>a1.mem e he) 0).1
   refine ⟨l,a1,a2,hw l a1,?_⟩
   split<;>omega
 ·have:=c2i (es:=lnE m C n) (S:=fun x=>lnS C x.toNat) (fun e he=>by
   obtain ⟨i,hi,rfl|rfl⟩:=a8z.1 he
   ·have:=hC i oM
    show lnS C ((i:Int)+1).toNat-lnS C (i:Int).toNat<=C i/\lnS C (i:Int).toNat-lnS C ((i:Int)+1).toNat<=C i
    rw[show ((i:Int)+1).toNat=i+1 by omega,Int.toNat_natCast]; simp only[lnS]; omega
   ·have:=hC i oM
    show lnS C (i:Int).toNat-lnS C ((i:Int)+1).toNat<=C i/\lnS C ((i:Int)+1).toNat-lnS C (i:Int).toNat<=C i
    rw[show ((i:Int)+1).toNat=i+1 by omega,Int.toNat_natCast]; simp only[lnS]; omega) l.length l rfl h1
  simp only[h2,Int.toNat_natCast] at this
  constructor
  ·split<;>omega
  ·split<;>omega
end Go.Gm.AQ
namespace Go.Gm.AQ
open Go Go.Gm
structure LnI (h0:Heap) (ox K m:Nat) (C:Nat->Int) (i:Nat) (h:Heap) (sE sm:AV) (oE oS:Nat):Prop where
 fr:FrS (fun o=>o=ox\/h0.length<=o) h0 h
 ro:h[ox]?=some (.cells ⟨[I K,sE],0,0,false⟩)
 gE:Gr oE (oE+1) h 4 sE ((lnE m C i).map encE)
 pE:sE≠.nils->h0.length<=oE/\oE<h.length/\oE≠oS
 gS:Gr oS (oS+1) h 1 sm ((lnL C (i+1)).map encI)
 nS:sm≠.nils
 pS:h0.length<=oS/\oS<h.length
theorem b8d {h0:Heap}{ox K m i:Nat}{frm to:Int}{cs:AV}{C:Nat->Int}{Q:AV->Heap->Prop}(hox:ox<h0.length)(hC:∀i,i<60->0<=C i/\C i<=2147483647)(hi:i<50)(hQ:∀h sE sm oE oS,LnI h0 ox K m C (i+1) h sE sm oE oS->WP (fun p:Nat × Nat=>i1_ p.1 p.2 cs (I frm) (I to) (I K) (.ptr ox 0 2 0) sm (I m) (I (i+1)) h) Q){h:Heap}{sE sm:AV}{oE oS:Nat}(w:LnI h0 ox K m C i h sE sm oE oS) :
  WP (fun p:Nat × Nat=>o1_ p.1 p.2 cs (I frm) (I to) (I K) (.ptr ox 0 2 0) sm (I m) (I i) (I (C i)) h) Q:=by
 refine WP.congr (fun p=>a5N p.1 p.2 ..) ?_
 have ro:=w.ro
 have hl:=w.fr.len
 have bo:=(List.getElem?_eq_some_iff.1 ro).1
 obtain ⟨h1,hh1⟩:∃h1,h1=h++[AObj.cells ⟨[I (i:Int),I ((i:Int)+1),I m,I (C i),I ((i:Int)+1),I (i:Int),I m,I (C i)],0,0,false⟩]:=⟨_,rfl⟩
 have e1:Ext h h1:=by rw[hh1]; exact Ext.push _ _
 have l1:h1.length=h.length+1:=by rw[hh1]; simp
 have b1:Sl h1 4 (.sl h.length 0 2 4 none 0) ([⟨(i:Int),(i:Int)+1,m,C i⟩,⟨(i:Int)+1,(i:Int),m,C i⟩].map encE):=.inr ⟨_,0,none,0,_,rfl,by rw[hh1]; simp; rfl,Nat.le_refl _,rfl,by simp[encE]⟩
 have le:=b4L m C i
 obtain ⟨s',h2,o',k1,k2,k3,k4⟩:=(w.gE.ext e1).appP (bytes:=32) (fun z=>by have:=(w.pE z).2.1; omega) b1 oM oM (by simp; omega)
 rw[<-List.map_append,<-b3y] at k2
 have l2:=k4.len
 have ro1:=e1.get ro
 have ro2:h2[ox]?=some (.cells ⟨[I K,sE],0,0,false⟩):=by
  rw[k4.get (fun z=>by have:=w.pE z.1; omega) oM]; exact ro1
 rw[hh1] at k1
 refine g5 @ro @k1 @ro2 k2.sl.one k2.sl.cells ?_
 obtain ⟨h3,hh3⟩:∃h3,h3=h2.set ox (.cells ⟨[I K,s'],0,0,false⟩):=⟨_,rfl⟩
 have l3:h3.length=h2.length:=by rw[hh3]; simp
 have pS:=w.pS
 have ho':s'≠.nils:=k2.nnil (by rw[b3y]; simp)
 have ko:=k3 ho'
 have f13:FrS (fun o=>(sE≠.nils/\o=oE)\/o=ox) h1 h3:=by
  rw[hh3]; exact (k4.mono fun o _ z=>.inl z).trans ((FrS.set1 ..).mono fun o _ z=>.inr z)
 have gS3:Gr oS (oS+1) h3 1 sm ((lnL C (i+1)).map encI):=(w.gS.ext e1).frs f13 fun o o1 o2 z=>by
  rcases z with z|z
  ·have:=w.pE z.1; omega
  ·omega
 have gE3:Gr o' (o'+1) h3 4 s' ((lnE m C (i+1)).map encE):=by
  rw[hh3]
  refine k2.set ?_ _
  rcases ko.1 with ⟨z1,z2⟩|z1
  ·have:=w.pE z2; omega
  ·omega
 have ro3:h3[ox]?=some (.cells ⟨[I K,s'],0,0,false⟩):=by rw[hh3]; exact a0_ oM
 rw[<-hh3]
 have hSl:=gS3.sl
 have ll:(lnL C (i+1)).length=i+1:=by simp[lnL]
 have gg:=b6I C (n:=i+1) (i:=i) oM
 have is:=hSl.idxG (i:=(i:Int)) oM oM
 have ls:=hSl.ld0 (H:=h3) (i:=(i:Int)) (Ext.refl _) oM oM oM
 rw[gg] at ls
 replace ls:Gm.ld1 h3 (elP 1 sm (i:Int))=some (I (lnS C i)):=ls
 have bS:=b2z hC i oM
 have bC:=hC i oM
 obtain ⟨s4,h4,o4,q1,q2,q3,q4⟩:=app1I gS3 (fun _=>oM) oM (lnS C i+C i)
 have q3':=q3 (q2.nnil (by simp))
 have l4:=q4.len
 refine g3 @is @ls @q1 ?_
 have hd:o'≠oS:=by
  rcases ko.1 with ⟨z1,z2⟩|z1
  ·have:=w.pE z2; omega
  ·omega
 refine hQ h4 s' s4 o' o4 ⟨((w.fr.trans (FrS.ofExt e1)).trans (f13.mono fun o _ z=>?_)).trans (q4.mono fun o _ z=>oM),?_,?_,fun _=>⟨?_,oM,?_⟩,q2.cong (by rw[show i+1+1=(i+1)+1 from rfl,c2h C (i+1)]; rfl),q2.nnil (by simp),?_⟩
 ·rcases z with z|z
  ·have:=w.pE z.1; omega
  ·omega
 ·rw[q4.get (fun z=>oM) oM]; exact ro3
 ·exact gE3.frs q4 fun o o1 o2 z=>oM
 ·rcases ko.1 with ⟨z1,z2⟩|z1
  ·have:=w.pE z2; omega
  ·omega
 ·rcases q3'.1 with ⟨z1,z2⟩|z1
  ·omega
  ·omega
 ·rcases q3'.1 with ⟨z1,z2⟩|z1
  ·omega
  ·omega
theorem c3L {h0:Heap}{ox K m:Nat}{frm to:Int}{cs:AV}{zs:List Int}{C:Nat->Int}{Q:AV->Heap->Prop}(hK:K<=51)(hox:ox<h0.length)(hC:∀i,i<60->0<=C i/\C i<=2147483647)(hcs:∀h,FrS (fun o=>o=ox\/h0.length<=o) h0 h->Sl h 1 cs (zs.map encI))(hC1:∀i:Nat,i<zs.length->C i=gi zs (i:Int) % 2147483648)(hC2:∀i:Nat,zs.length<=i->C i=7*i)(hQ:∀h sE sm oE oS,LnI h0 ox K m C (K-1) h sE sm oE oS->WP (fun i:Nat=>o2_ i (I frm) (I to) (I K) (.ptr ox 0 2 0) sm (I m) h) Q) :
  ∀(d i:Nat) (h:Heap) (sE sm:AV) (oE oS:Nat),i+1+d=K->LnI h0 ox K m C i h sE sm oE oS->
   WP (fun p:Nat × Nat=>i1_ p.1 p.2 cs (I frm) (I to) (I K) (.ptr ox 0 2 0) sm (I m) (I i) h) Q:=by
 intro d
 induction d with
 |zero=>
  intro i h sE sm oE oS hi w
  refine WP.rnd (fun i' j=>a1t i' j ..) ?_
  obtain rfl:K=i+1:=oM
  refine g0 ?_
  exact WP.lv (hQ h sE sm oE oS w) fun i j=>rfl
 |succ d ih=>
  intro i h sE sm oE oS hi w
  refine WP.rnd (fun i' j=>a1t i' j ..) ?_
  have hcs':=hcs h w.fr
  have hw7:IntKind.i64.wrap (7*(i:Int))=7*i:=d6_ oM oM
  by_cases c1:i<zs.length
  ·have ic:=hcs'.idxG (i:=(i:Int)) oM oM
   have lc:=hcs'.ld0 (H:=h) (i:=(i:Int)) (Ext.refl _) oM oM oM
   replace lc:Gm.ld1 h (elP 1 cs (i:Int))=some (I (gi zs (i:Int))):=lc
   refine g4 @hw7 hcs'.lenG @ic @lc ?_
   refine WP.call (h0_ (n:=2147483648) oM (by unfold Fit; omega) _) ?_
   rintro _ _ ⟨rfl,rfl⟩
   rw[<-hC1 i c1]
   exact b8d (cs:=cs) (frm:=frm) (to:=to) hox hC oM (fun h sE sm oE oS w=>ih (i+1) h sE sm oE oS oM w) w
  ·refine g2 @hw7 hcs'.lenG ?_
   rw[<-hC2 i oM]
   exact b8d (cs:=cs) (frm:=frm) (to:=to) hox hC oM (fun h sE sm oE oS w=>ih (i+1) h sE sm oE oS oM w) w
end Go.Gm.AQ
namespace Go.Gm.AQ
open Go Go.Gm
theorem c3M {h:Heap}{K v u ox od orr:Nat}{b:Int}{sE sD sA sl:AV}{es:List E}{D:List (List Int)}{acc:List Bool}{ll:List Nat}(no:NetOk K es)(co:COk es)(ok:DOk D acc)(hE:Sl h 4 sE (es.map encE))(hD:Sl h 5 sD (D.map encR))(hA:Sl h 1 sA (acc.map encB))(hl:Sl h 1 sl ((ll.map fun (e:Nat)=>(e:Int)).map encI))(hll:ll.length<=1000000)(hv:v<K)(hu:u<K)(ow:OkW es v ll)(hu':atV es v ll=u)(hc:atC es ll=b)(hac:gi acc (atS es D 0 ll)=true)(rx:h[ox]?=some (.cells ⟨[I K,sE],0,0,false⟩))(rd:h[od]?=some (.cells ⟨[sD,sA],0,0,false⟩))(rr:h[orr]?=some (.cells ⟨[I b,sl],0,0,false⟩)) :
  WP (fun i:Nat=>o3_ i (.ptr ox 0 2 0) (.ptr od 0 2 0) (I 0) (I v) (I u) (.ptr orr 0 2 0) (.bool true) (I b) h) fun r _=>r=.bool true:=by
 refine WP.congr (fun i=>a5O i ..) ?_
 refine g3 @rx @rd @rr ?_
 refine WP.call (a7Z no co ok hE hD hA hl hll hv hu ow hu' hc hac) ?_
 rintro _ h9 ⟨rfl,e9⟩
 exact WP.ret rfl
set_option maxHeartbeats 2000000 in
theorem c3N {h:Heap} {n m ox:Nat} {frm to:Int} {sE sm:AV} {C:Nat->Int} (hn:1<=n/\n<=50) (hm:m<5) (hC:∀i,i<60->0<=C i/\C i<=2147483647) (ro:h[ox]?=some (.cells ⟨[I ((n+1:Nat):Int),sE],0,0,false⟩)) (hE:Sl h 4 sE ((lnE m C n).map encE)) (hS:Sl h 1 sm ((lnL C (n+1)).map encI)) :
  WP (fun i:Nat=>o2_ i (I frm) (I to) (I ((n+1:Nat):Int)) (.ptr ox 0 2 0) sm (I m) h) fun r _=>r=.bool true:=by
 refine WP.congr (fun i=>a5P i ..) ?_
 have no:=ln_no (C:=C) hm hn hC
 have co:=ln_co (C:=C) (m:=m) hn hC
 obtain ⟨K,hK⟩:∃K,K=n+1:=⟨_,rfl⟩
 rw[<-hK] at ro no ⊢
 obtain ⟨t,ht1,ht2⟩:=mstr hm
 refine g2 @ht1 @ht2 ?_
 refine WP.call (b3x (smB_m hm) h) ?_
 rintro _ h1 ⟨e1,D,acc,nD,nA,rfl,ok,lD,gN,gA,hw⟩
 have hw1:=wr2 (h:=h1) gN.sl.one gA.sl.one
 refine g2 @a1_ @hw1 ?_
 obtain ⟨h2,hh2⟩:∃h2,h2=h1++[AObj.cells ⟨[nD,nA],0,0,false⟩]:=⟨_,rfl⟩
 have e2:Ext h1 h2:=by rw[hh2]; exact Ext.push _ _
 have rd:h2[h1.length]?=some (.cells ⟨[nD,nA],0,0,false⟩):=by rw[hh2]; simp
 rw[<-hh2]
 refine WP.call (h0_ oM (by unfold Fit; omega) _) ?_
 rintro _ _ ⟨rfl,rfl⟩
 obtain ⟨v,hv⟩:∃v:Nat,frm % (K:Int)=v:=⟨(frm % (K:Int)).toNat,by have:=Int.emod_nonneg frm (show (K:Int)≠0 by omega); omega⟩
 have hvK:v<K:=by have:=Int.emod_lt_of_pos frm (show (0:Int)<K by omega); omega
 rw[hv]
 refine WP.call (h0_ oM (by unfold Fit; omega) _) ?_
 rintro _ _ ⟨rfl,rfl⟩
 obtain ⟨u,hu⟩:∃u:Nat,to % (K:Int)=u:=⟨(to % (K:Int)).toNat,by have:=Int.emod_nonneg to (show (K:Int)≠0 by omega); omega⟩
 have huK:u<K:=by have:=Int.emod_lt_of_pos to (show (0:Int)<K by omega); omega
 rw[hu]
 have e02:=e1.trans e2
 have ro2:=e02.get ro
 refine g2 @ro2 @rd ?_
 obtain ⟨h3,hh3⟩:∃h3,h3=h2++[AObj.cells ⟨[AV.int .i64 0,.nils],0,0,false⟩]:=⟨_,rfl⟩
 have e3:Ext h2 h3:=by rw[hh3]; exact Ext.push _ _
 have l3:h3.length=h2.length+1:=by rw[hh3]; simp
 have r3:h3[h2.length]?=some (.cells ⟨[I 0,.nils],0,0,false⟩):=by rw[hh3]; simp[I]
 have l2:h2.length=h1.length+1:=by rw[hh2]; simp
 rw[<-hh3]
 have e03:=e02.trans e3
 refine WP.call (a4L (N:=K) ⟨oM,oM⟩ no co (hE.ext e03)) ?_
 rintro xx h4 ⟨e4,A,Up,Dn,xv,ix⟩
 have rd4:=(e3.trans e4).get rd
 refine g1 @rd4 ?_
 have hn2:2*(K*D.length)*(K+1)<=1000000:=by
  have h1:K*D.length<=51*3:=Nat.mul_le_mul oM lD
  have h2:2*(K*D.length)*(K+1)<=306*52:=Nat.mul_le_mul oM oM
  omega
 have e24:=e3.trans e4
 refine WP.call (y4_ (N:=K) oM no co xv ix ok (gN.sl.ext (e2.trans e24)) (gA.sl.ext (e2.trans e24)) hn2 hvK huK) ?_
 rintro _ h5 ⟨e5,b,lw,rq⟩
 have hlw:=ln_lw (C:=C) hm hn hC hw (v:=v) (u:=u) oM oM
 have hb:=lw.uniq hlw
 rcases rq with ⟨c0,_⟩|⟨c0,sl,ll,rfl,hgl,hll,ow,hu',hac,hc⟩
 ·split at hb<;>omega
 have l4:=e4.len
 have r5:h5[h2.length]?=some (.cells ⟨[I 0,.nils],0,0,false⟩):=e5.get (e4.get r3)
 have b5:=(List.getElem?_eq_some_iff.1 r5).1
 have hsl:=hgl.sl
 have os:=hsl.one
 have hw2:wrAt 2 h5 (some (AObj.cells ⟨[I 0,.nils],0,0,false⟩)) (h2.length) 0 2 0 [I b,sl]=some (h5.set (h2.length) (.cells ⟨[I b,sl],0,0,false⟩)):=
  g5_ (n:=2) (off:=0) (hi:=2) (vs:=[I b,sl]) rfl rfl oM (by simp[os,I,a4x])
 refine g5 @a4_ @a5_ @os hsl.cells @r5 ?_
 simp only[hw2,a8B]
 obtain ⟨h6,hh6⟩:∃h6,h6=h5.set (h2.length) (.cells ⟨[I b,sl],0,0,false⟩):=⟨_,rfl⟩
 have e26:Ext h2 h6:=by
  have e25:=e24.trans e5
  rw[hh6]; exact eX
 have r6:h6[h2.length]?=some (.cells ⟨[I b,sl],0,0,false⟩):=by rw[hh6]; exact a0_ b5
 have s6:Sl h6 1 sl ((ll.map fun (e:Nat)=>(e:Int)).map encI):=by rw[hh6]; exact (hgl.set oM _).sl
 rw[<-hh6]
 have e06:=e02.trans e26
 have hS6:=hS.ext e06
 have lS:(lnL C (n+1)).length=n+1:=by simp[lnL]
 have iu:=hS6.idxG (i:=(u:Int)) oM oM
 have lu:=hS6.ld0 (H:=h6) (i:=(u:Int)) (Ext.refl _) oM oM oM
 rw[b6I C oM] at lu
 replace lu:Gm.ld1 h6 (elP 1 sm (u:Int))=some (I (lnS C u)):=lu
 have iv:=hS6.idxG (i:=(v:Int)) oM oM
 have lv:=hS6.ld0 (H:=h6) (i:=(v:Int)) (Ext.refl _) oM oM oM
 rw[b6I C oM] at lv
 replace lv:Gm.ld1 h6 (elP 1 sm (v:Int))=some (I (lnS C v)):=lv
 have bu:=b2z hC u oM
 have bv':=b2z hC v oM
 have fin:=c3M (h:=h6) (K:=K) no co ok (hE.ext e06) (gN.sl.ext (e2.trans e26)) (gA.sl.ext (e2.trans e26)) s6 hll hvK huK ow hu' hc hac (e06.get ro) (e26.get rd) r6
 by_cases q:lnS C u-lnS C v<0
 ·rw[if_pos q] at hb
  refine g4 @iu @lu @iv @lv ?_
  rw[show 0-(lnS C u-lnS C v)=b by omega]
  exact fin
 ·rw[if_neg q] at hb
  refine g4 @iu @lu @iv @lv ?_
  rw[<-hb]
  exact fin
theorem qline_spec {h:Heap}{n0 frm to mode:Int}{cs:AV}{zs:List Int}(hcs:Sl h 1 cs (zs.map encI)) :
  Tot tab f9_ [I n0,cs,I frm,I to,I mode] h fun r _=>r=.bool true:=by
 refine WP.tot (fun k=>a7c k ..) ?_
 refine WP.call (a4h h) ?_
 rintro _ h1 ⟨rfl,e1⟩
 refine g0 ?_
 refine WP.call (h0_ (n:=50) oM (by unfold Fit; omega) _) ?_
 rintro _ _ ⟨rfl,rfl⟩
 obtain ⟨n,hn⟩:∃n:Nat,n0 % 50=n:=⟨(n0 % 50).toNat,oM⟩
 have hn50:n<50:=oM
 rw[hn]
 refine g0 ?_
 obtain ⟨K,hK⟩:∃K:Nat,2+(n:Int)=K:=⟨n+2,oM⟩
 rw[hK]
 obtain ⟨h2,hh2⟩:∃h2,h2=(h1++[AObj.cells ⟨[AV.int .i64 0,.nils],0,0,false⟩]).set h1.length (.cells ⟨[AV.int .i64 K,.nils],0,0,false⟩):=⟨_,rfl⟩
 have l2:h2.length=h1.length+1:=by rw[hh2]; simp
 have e2:Ext h1 h2:=by rw[hh2]; exact eX
 have r2:h2[h1.length]?=some (.cells ⟨[I K,.nils],0,0,false⟩):=by rw[hh2]; exact a0_ (by simp)
 rw[<-hh2]
 obtain ⟨h3,hh3⟩:∃h3,h3=h2++[AObj.cells ⟨[I 0],0,0,false⟩]:=⟨_,rfl⟩
 have e3:Ext h2 h3:=by rw[hh3]; exact Ext.push _ _
 have l3:h3.length=h2.length+1:=by rw[hh3]; simp
 have g3:Gr h2.length (h2.length+1) h3 1 (.sl h2.length 0 1 1 none 0) [[I 0]]:=by
  have:=Gr.lit (h:=h2) (sz:=1) (v:=[I 0]) rfl
  rw[a3_] at this
  rw[hh3]; exact this
 have hi0:AV.int .i64 0=I 0:=rfl
 rw[hi0,<-hh3]
 refine WP.call (h0_ (n:=5) oM (by unfold Fit; omega) _) ?_
 rintro _ _ ⟨rfl,rfl⟩
 obtain ⟨m,hm⟩:∃m:Nat,mode % 5=m:=⟨(mode % 5).toNat,oM⟩
 have hm5:m<5:=oM
 rw[hm]
 obtain ⟨C,hC⟩:∃C:Nat->Int,C=fun i=>if i<zs.length then gi zs (i:Int) % 2147483648 else 7*(i:Int):=⟨_,rfl⟩
 have hCb:∀i,i<60->0<=C i/\C i<=2147483647:=fun i hi=>by
  rw[hC]
  show 0<=(if i<zs.length then gi zs (i:Int) % 2147483648 else 7*(i:Int))/\(if i<zs.length then gi zs (i:Int) % 2147483648 else 7*(i:Int))<=2147483647
  split<;>omega
 have hcs3:=((hcs.ext e1).ext e2)
 rw[<-l2]
 refine WP.ent (c3L (h0:=h2) (ox:=h1.length) (K:=K) (m:=m) (frm:=frm) (to:=to) (cs:=cs) (zs:=zs) (C:=C) oM oM hCb (fun h f=>?_) (fun i hi=>by rw[hC]; exact if_pos hi) (fun i hi=>by rw[hC]; exact if_neg oM) (fun h sE sm oE oS w=>?_) (K-1) 0 h3 .nils (.sl h2.length 0 1 1 none 0) 0 h2.length oM ⟨FrS.ofExt e3,e3.get r2,Gr.nil ..,fun z=>absurd rfl z,g3,by simp,oM⟩) fun i=>rfl
 ·exact ((hcs.ext e1).ext (f.ext e2 fun o ho=>oM))
 ·obtain ⟨n',hn'⟩:∃n',K=n'+1:=⟨K-1,oM⟩
  subst hn'
  rw[Nat.add_sub_cancel] at w
  exact c3N (n:=n') oM hm5 hCb w.ro w.gE.sl w.gS.sl
end Go.Gm.AQ
namespace Go.Gm
open Go.RowKit
def roObj (cs:List AV):AObj:=.cells ⟨cs,0,0,true⟩
def initH (L:List (List AV × Option Loc)):Heap:=L.map fun p=>roObj p.1
def initR (L:List (List AV × Option Loc)):Ren:=⟨fun o g=>if g=0 then (L[o]?).bind (·.2) else none,fun _=>none⟩
def EntOk (W:World)(φ:Ren)(p:List AV × Option Loc):Prop:=∀l,p.2=some l->∃C e fr,W.heap[l.b]?=some (.cells C e fr)/\C.size=l.N/\l.n=p.1.length/\CellsAt φ p.1 l C
theorem initS {W:World}{L:List (List AV × Option Loc)}(hL:∀p∈L,EntOk W (initR L) p) :
  S W.heap.size W (initR L) (initH L) W:=by
 have got:∀o g l,(initR L).c o g=some l->g=0/\∃cs,L[o]?=some (cs,some l):=fun o g l h=>by
  simp only[initR] at h
  split at h
  ·rename_i hg
   cases hq:L[o]? with
   |none=>rw[hq] at h; cases h
   |some p=>rw[hq] at h; exact ⟨hg,p.1,by rw[<-(show p.2=some l from h)]⟩
  ·cases h
 have ro:∀o g l,(initR L).c o g=some l->isRo (initH L) o=true:=fun o g l h=>by
  obtain ⟨_,cs,hq⟩:=got o g l h
  simp[isRo,initH,hq,roObj]
 refine ⟨⟨fun o g l h=>?_,fun o b h=>(by cases h),fun o g l o' g' l' h h' _=>.inr ⟨ro o g l h,ro o' g' l' h'⟩,fun o b o' b' h=>(by cases h)⟩,Below.refl _ _,Nat.le_refl _⟩
 obtain ⟨hg,cs,hq⟩:=got o g l h
 subst hg
 obtain ⟨C,e,fr,h1,h2,h3,h4⟩:=hL _ (List.mem_of_getElem? hq) l rfl
 exact ⟨⟨cs,0,0,true⟩,by simp[initH,hq,roObj],Nat.le_refl _,Nat.le_refl _,⟨C,e,fr,h1,h2,fun q=>(by cases q),fun _=>h4⟩,fun _=>h3⟩
theorem entry {P:Program}{T:Tab}(hv:Valid P T){W:World}{L:List (List AV × Option Loc)}(hL:∀p∈L,EntOk W (initR L) p){f:FuncId}{args:List AV}{args':List Value}(ha:VRs (initR L) args args'){Q:AV->Heap->Prop}(ht:Tot T f args (initH L) Q)(hq:∀v h,Q v h->v=.bool true) :
  Calls P f args'.toArray W fun e w'=>e=.returned (.bool true)/\Below W.heap.size W w':=by
 obtain ⟨v,h',h1,N,hN⟩:=ht
 have hv1:=hq v h' h1
 subst hv1
 obtain ⟨_,h2⟩:=fnSim (B:=W.heap.size) (w0:=W) hv N f args (initH L) _ _ (hN N (Nat.le_refl N))
 refine (h2 _ W args' ha (initS hL)).mono ?_
 rintro e w' ⟨ψ,v',rfl,k1,k2,k3⟩
 cases k1
 exact ⟨rfl,k2.below⟩
theorem intsArg {W:World}{a:Addr}{len cap:Nat}{zs:List Int}(hl:len<=cap)(hm:cap<=maxLen)(hz:zs.length=cap)(hc:∀i,i<zs.length->W.cell? (a.add i)=some (.int .i64 (zs.getD i 0)))(o:Nat) :
  ∃(p:List AV × Option Loc) (x:AV),(∀φ,EntOk W φ p)/\∀L:List (List AV × Option Loc),L[o]?=some p->VR (initR L) x (.slice (some a) len cap)/\Sl (initH L) 1 x ((zs.take len).map fun n=>[I n]):=by
 by_cases h0:0<zs.length
 ·obtain ⟨b,off,rfl,hcell⟩:=Go.ints_at hc h0
  have h1:=hcell 0 h0
  obtain ⟨C,e,fr,hb,hC⟩:∃C e fr,W.heap[b]?=some (.cells C e fr)/\∀j,j<zs.length->C[off+j]?=some (.int .i64 (zs.getD j 0)):=by
   simp only[World.cell?] at h1
   cases hh:W.heap[b]? with
   |none=>rw[hh] at h1; cases h1
   |some ob=>
    cases ob with
    |cells C e fr=>
     refine ⟨C,e,fr,rfl,fun j hj=>?_⟩
     have:=hcell j hj
     simpa [World.cell?,hh] using this
    |_=>rw[hh] at h1; cases h1
  have hN:off+cap<=C.size:=by
   have:=(Array.getElem?_eq_some_iff.1 (hC (zs.length-1) oM)).1
   omega
  refine ⟨(zs.map I,some ⟨b,off,C.size,cap⟩),.sl o 0 len 1 (some cap) 0,fun φ l hl'=>?_,fun L hL=>⟨?_,?_⟩⟩
  ·injection hl' with hl'
   subst hl'
   refine ⟨C,e,fr,hb,rfl,by simp[hz],by simp[hz],hN,fun i hi=>?_⟩
   refine ⟨I (zs.getD i 0),_,?_,hC i (by simpa [hz] using hi),.int _ _,rfl⟩
   simp only at hi
   simp[List.getD_eq_getElem?_getD,hz,hi]
  ·refine VR.sl (l:=⟨b,off,C.size,cap⟩) ?_ (by simp; exact hl) hl hm (by simp; exact hN) (fun c q=>by injection q)
   simp[initR,hL]
  ·refine .inr ⟨o,0,some cap,0,⟨zs.map I,0,0,true⟩,?_,?_,Nat.le_refl _,?_,?_⟩
   ·simp[hz,Nat.min_eq_left hl]
   ·simp[initH,hL,roObj]
   ·simp only[List.drop_zero,List.length_map,Nat.mul_one]
    rw[List.length_take,hz,Nat.min_eq_left hl,<-List.map_take]
    generalize zs.take len=ys
    induction ys with
    |nil=>rfl
    |cons y ys ih=>simp[ih]
   ·intro x hx
    simp only[List.mem_map] at hx
    obtain ⟨n,_,rfl⟩:=hx
    rfl
 ·have hz0:zs=[]:=List.eq_nil_of_length_eq_zero oM
  subst hz0
  simp only[List.length_nil] at hz
  subst hz
  obtain rfl:len=0:=oM
  refine ⟨([],none),.sl o 0 0 1 (some 0) 0,fun φ l q=>(by cases q),fun L hL=>⟨.sl0 (fun q=>by cases q) (fun c q=>by injection q with q; exact q.symm),?_⟩⟩
  exact .inr ⟨o,0,some 0,0,⟨[],0,0,true⟩,rfl,by simp[initH,hL,roObj],Nat.le_refl _,rfl,fun x hx=>by simp at hx⟩
theorem rowArg {W:World}{a:Option Addr}{len cap:Nat}{zs:List Int}(w:(a=none/\len=0/\cap=0/\zs=[])\/∃x,a=some x/\len<=cap/\cap<=maxLen/\zs.length=cap/\(∀i,i<zs.length->W.cell? (x.add i)=some (.int .i64 (zs.getD i 0)))/\∀n∈zs,(Lit.int .i64 n).wf=true)(o:Nat) :
  ∃(p:List AV × Option Loc) (x:AV),(∀φ,EntOk W φ p)/\∀L:List (List AV × Option Loc),L[o]?=some p->VR (initR L) x (.slice a len cap)/\Sl (initH L) 1 x ((zs.take len).map fun n=>[I n]):=by
 rcases w with ⟨rfl,rfl,rfl,rfl⟩|⟨x,rfl,h1,h2,h3,h4,_⟩
 ·exact ⟨([],none),.nils,fun φ l q=>(by cases q),fun L hL=>⟨.nils,.inl ⟨rfl,rfl⟩⟩⟩
 ·exact intsArg h1 h2 h3 h4 o
end Go.Gm
namespace Go.Gm
inductive Rw where
 |mk (k n:Int) (l:List Rw)
 deriving Inhabited
def Rw.kids:Rw->List Rw
 |.mk _ _ l=>l
theorem Rw.kid_lt {c r:Rw}(h:c∈r.kids):SizeOf.sizeOf c<SizeOf.sizeOf r:=by
 cases r with
 |mk k n l=>have:=List.sizeOf_lt_of_mem (show c∈l from h); simp only[Rw.mk.sizeOf_spec]; omega
theorem Rw.ind {p:Rw->Prop}(h:∀r,(∀c∈r.kids,p c)->p r)(r:Rw):p r:=by
 have:∀(N:Nat) (r:Rw),SizeOf.sizeOf r<=N->p r:=by
  intro N
  induction N with
  |zero=>intro r hr; exact h r fun c hc=>by have:=Rw.kid_lt hc; omega
  |succ N ih=>intro r hr; exact h r fun c hc=>ih c (by have:=Rw.kid_lt hc; omega)
 exact this _ r (Nat.le_refl _)
mutual
inductive RV (h:Heap):Rw->List AV->Prop
 |mk {k n:Int} {l:List Rw} {s:AV} {css:List (List AV)}:Sl h 3 s css->RVs h l css->RV h (.mk k n l) [I k,I n,s]
inductive RVs (h:Heap):List Rw->List (List AV)->Prop
 |nil:RVs h [] []
 |cons {r:Rw} {cs:List AV} {l:List Rw} {css:List (List AV)}:RV h r cs->RVs h l css->RVs h (r::l) (cs::css)
end
mutual
theorem RV.ext {h h':Heap} (e:Ext h h'):∀{r:Rw} {cs:List AV},RV h r cs->RV h' r cs
 |_,_,.mk a b=>.mk (a.ext e) (RVs.ext e b)
theorem RVs.ext {h h':Heap} (e:Ext h h'):∀{l:List Rw} {css:List (List AV)},RVs h l css->RVs h' l css
 |_,_,.nil=>.nil
 |_,_,.cons a b=>.cons (RV.ext e a) (RVs.ext e b)
end
theorem RVs.len {h:Heap}:∀{l:List Rw} {css:List (List AV)},RVs h l css->l.length=css.length
 |_,_,.nil=>rfl
 |_,_,.cons _ b=>by simp[RVs.len b]
theorem RVs.get {h:Heap}:∀{l:List Rw} {css:List (List AV)},RVs h l css->∀{i:Nat} {r:Rw},l[i]?=some r->∃cs,css[i]?=some cs/\RV h r cs
 |_,_,.nil,i,r,q=>by simp at q
 |_,_,.cons a b,0,r,q=>by
  simp only[List.getElem?_cons_zero,Option.some.injEq] at q
  subst q; exact ⟨_,rfl,a⟩
 |_,_,.cons a b,i+1,r,q=>by
  obtain ⟨cs,h1,h2⟩:=RVs.get b (i:=i) (by simpa using q)
  exact ⟨cs,by simpa using h1,h2⟩
theorem RV.len {h:Heap}{r:Rw}{cs:List AV}(a:RV h r cs):cs.length=3:=by cases a; rfl
theorem RV.one {h:Heap}{r:Rw}{cs:List AV}(a:RV h r cs):cs.all AV.one=true:=by
 cases a with
 |mk a b=>simp only[List.all_cons,List.all_nil,a4x,a.one,Bool.and_self]
end Go.Gm
namespace Go.Gm
structure RawTy (P:Program) (T E I3:TypeId):Prop where
 t:P.underlying T=some (.slice E)
 e:∃f0 f1 f2:Field,P.underlying E=some (.struct #[f0,f1,f2])/\f0.type=I3/\f0.offset=0/\f1.type=I3/\f1.offset=1/\f2.type=T/\f2.offset=2
 i:P.underlying I3=some (.int .i64)
 ce:P.cellsOf E=3
 ci:P.cellsOf I3=1
 ct:P.cellsOf T=1
def Emb (F:List (List AV × Option Loc))(o:Nat)(L:List (List AV × Option Loc)):Prop:=∀(i:Nat) p,F[i]?=some p->L[o+i]?=some p
theorem Emb.head {p:List AV × Option Loc}{F L:List (List AV × Option Loc)}{o:Nat}(e:Emb (p::F) o L):L[o]?=some p:=e 0 p rfl
theorem Emb.tail {p:List AV × Option Loc}{F L:List (List AV × Option Loc)}{o:Nat}(e:Emb (p::F) o L):Emb F (o+1) L:=fun i q h=>by
 have:=e (i+1) q (by simpa using h)
 rwa [show o+(i+1)=o+1+i by omega] at this
theorem Emb.left {F G L:List (List AV × Option Loc)}{o:Nat}(e:Emb (F++G) o L):Emb F o L:=fun i q h=>e i q (by rw[List.getElem?_append_left (List.getElem?_eq_some_iff.1 h).1]; exact h)
theorem Emb.right {F G L:List (List AV × Option Loc)}{o:Nat}(e:Emb (F++G) o L):Emb G (o+F.length) L:=fun i q h=>by
 have:=e (F.length+i) q (by rw[List.getElem?_append_right oM,Nat.add_sub_cancel_left]; exact h)
 rwa [show o+(F.length+i)=o+F.length+i by omega] at this
section
variable {H:Type} {enc:TypeId × Value->H} {P:Program} {T E I3:TypeId} {W:World}
theorem RVs.snoc {h:Heap}{r:Rw}{cs:List AV}(a:RV h r cs):∀{l:List Rw} {css:List (List AV)},RVs h l css->RVs h (l++[r]) (css++[cs])
 |_,_,.nil=>.cons a .nil
 |_,_,.cons x y=>.cons x (RVs.snoc a y)
end
end Go.Gm
