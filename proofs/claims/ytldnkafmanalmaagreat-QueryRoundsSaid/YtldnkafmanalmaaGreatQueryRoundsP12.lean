/- A part of the proof (GmAZql, GmAZqm, GmAZqn, GmAZqo, GmAZqp, GmAZqs, GmAZqt, GmAZL2, GmAZqy, GmAZ4, GmEntry). -/
import Derived.OpenShut
import Derived.Test.YtldnkafmanalmaaGreatQueryRoundsP11
set_option autoImplicit true
set_option relaxedAutoImplicit true
set_option linter.unusedVariables false
set_option linter.unusedSimpArgs false
set_option linter.unusedSectionVars false
namespace Go.Gm.AZ
open Go Go.Gm
section
variable {b0:Heap} {A:List Ar} {LL N:Nat} {sE sR sA sU sDn:AV} {ox ot:Nat} {ks:List Nat} {cost:Int}
theorem qr_l3 (hLL:LL<=1000)(hA:Sl b0 7 sA (A.map encA))(hlA:A.length<=100000000)(hE1:sE.one=true)(hR1:sR.one=true)(hU1:sU.one=true)(hD1:sDn.one=true)(rx:b0[ox]?=some (.cells ⟨[I N,sE,sR,sA,sU,sDn],0,0,false⟩))(rt:b0[ot]?=some (.cells ⟨[I 0,.nils],0,0,false⟩))(hkl:ks.length<=1000000){ll:List Nat}(hll:ll.length<=10000000){arcs:AV}{oa:Nat} :
  ∀(d i:Nat) (h:Heap) (se:AV) (oe:Nat) (l1 l2:List Nat),i+d=ks.length->Ext b0 h->h[b0.length]?=some (.cells ⟨[I cost,se],0,0,false⟩)->Gr oe (oe+1) h 1 se (l1.map natE)->(se≠.nils->b0.length<oe/\oe<h.length/\(arcs≠.nils->oe≠oa))->
   Gr oa (oa+1) h 1 arcs (ks.map natE)->(arcs≠.nils->b0.length<oa/\oa<h.length)->UnpL A LL (ks.drop i) l2->ll=l1++l2->
   WP (λp:Nat × Nat=>a4r p.1 p.2 (.ptr ox 0 6 0) (.ptr ot 0 2 0) (.ptr b0.length 0 2 0) arcs (I ks.length) (I i) h) λr h'=>(∃sl,r=.tup [.agg [I cost,sl],.bool true]/\Gr b0.length h'.length h' 1 sl (ll.map natE))/\h'.length>=b0.length/\∀o,o<b0.length->o≠ot->h'[o]?=b0[o]?:=by
 have hox:ox<b0.length:=(List.getElem?_eq_some_iff.1 rx).1
 have hot:ot<b0.length:=(List.getElem?_eq_some_iff.1 rt).1
 intro d
 induction d with
 |zero=>
  intro i h se oe l1 l2 hi e ro ge pe ga pa hu hl
  refine WP.rnd (a7V · · ..) ?_
  obtain rfl:i=ks.length:=oM
  rw[List.drop_length] at hu
  cases hu
  rw[List.append_nil] at hl
  subst hl
  refine g0 ?_
  refine WP.lv ?_ λi j=>rfl
  refine WP.congr (b2L · ..) ?_
  refine g1 @ro ?_
  refine WP.call (a8a ge.sl (by simp; omega)) ?_
  rintro r h2 ⟨e2,g2⟩
  have ro2:=e2.get ro
  have hoo:b0.length<h2.length:=(List.getElem?_eq_some_iff.1 ro2).1
  have rt2:=(e.trans e2).get rt
  have c1:=g2.sl.cells
  have o1:=g2.sl.one
  have hol:b0.length<h.length:=(List.getElem?_eq_some_iff.1 ro).1
  refine g4 @ro2 @rt2 @c1 @o1 ?_
  refine WP.ret ⟨⟨r,rfl,?_⟩,by simp; omega,λo ho hne=>?_⟩
  ·have f:FrS (λo=>o=b0.length\/o=ot) h2 ((h2.set b0.length (.cells ⟨[I cost,r],0,0,false⟩)).set ot (.cells ⟨[I cost,r],0,0,false⟩)):=((FrS.set1 ..).mono λo _ z=>.inl z).trans ((FrS.set1 ..).mono λo _ z=>.inr z)
   exact (g2.frs f λo z1 z2 z3=>oM).mono (by have:=e.len; omega) (by simp)
  ·rw[a9_ oM,a9_ oM]
   have e3:=e.trans e2
   obtain ⟨y,hy⟩:∃y,b0[o]?=some y:=⟨b0[o],List.getElem?_eq_getElem ho⟩
   rw[hy,e3.get hy]
 |succ d ih=>
  intro i h se oe l1 l2 hi e ro ge pe ga pa hu hl
  refine WP.rnd (a7V · · ..) ?_
  have hik:(i:Int)<ks.length:=oM
  obtain ⟨k,hk⟩:∃k:Nat,ks[i]?=some k:=⟨ks[i],List.getElem?_eq_getElem oM⟩
  have hgk:gi ks (i:Int)=k:=by
   have:=c1_ (xs:=ks) (i:=(i:Int)) oM hik
   rw[Int.toNat_natCast,hk] at this
   injection this with this
   exact this.symm
  have hdr:ks.drop i=k::ks.drop (i+1):=by
   rw[List.drop_eq_getElem_cons oM]
   congr 1
   have:=List.getElem?_eq_getElem (l:=ks) (i:=i) oM
   rw[hk] at this
   injection this with this
   exact this.symm
  rw[hdr] at hu
  obtain ⟨l,ls,hlt,hun,hlen,hrest,hl2⟩:∃l ls,k<A.length/\Unp A k l/\l.length<=LL/\UnpL A LL (ks.drop (i+1)) ls/\l2=l++ls:=by
   cases hu with
   |cons a1 a2 a3 a4=>exact ⟨_,_,a1,a2,a3,a4,rfl⟩
  subst hl2
  have gas:=ga.sl
  have ldk:=gas.ld0 (H:=h) (i:=(i:Int)) (Ext.refl _) oM hik oM
  rw[hgk] at ldk
  replace ldk:Gm.ld1 h (elP 1 arcs (i:Int))=some (I (k:Int)):=ldk
  have idk:=gas.idxG (i:=(i:Int)) oM hik
  have rx':=e.get rx
  have hr6:rdNAt 6 (some (AObj.cells ⟨[I N,sE,sR,sA,sU,sDn],0,0,false⟩)) 0 6 0=some (.agg [I N,sE,sR,sA,sU,sDn]):=rfl
  refine g5 @idk @ldk @ro @rx' @hr6 ?_
  refine WP.call (b7E hlA (hA.ext e) hE1 hR1 hU1 hD1 hun oM) ?_
  rintro ru h2 ⟨e2,g2⟩
  have ro2:=e2.get ro
  have hoo:b0.length<h.length:=(List.getElem?_eq_some_iff.1 ro).1
  have hlen2:=congrArg List.length hl
  simp only[List.length_append] at hlen2
  obtain ⟨s',h3,oe',q1,q2,q3,q4⟩:=(ge.ext e2).appP (λz=>by have:=(pe z).2.1; have:=e2.len; omega) g2.sl oM (bytes:=8) oM (by simp; omega)
  have ro3:h3[b0.length]?=some (.cells ⟨[I cost,se],0,0,false⟩):=by rw[q4.get (λz=>by have:=pe z.1; omega) (by have:=e2.len; omega)]; exact ro2
  have c1:=q2.sl.cells
  have o1:=q2.sl.one
  have l3:=q4.len
  have l2':=e2.len
  refine g5 @ro2 @q1 @ro3 @c1 @o1 ?_
  obtain ⟨h4,hh4⟩:∃h4,h4=h3.set b0.length (.cells ⟨[I cost,s'],0,0,false⟩):=⟨_,rfl⟩
  have f4:FrS (λo=>o=b0.length) h3 h4:=by rw[hh4]; exact FrS.set1 ..
  have ro4:h4[b0.length]?=some (.cells ⟨[I cost,s'],0,0,false⟩):=by rw[hh4]; exact a0_ oM
  have l4:=f4.len
  rw[<-hh4]
  have q3':s'≠.nils->b0.length<oe'/\oe'<h4.length/\(arcs≠.nils->oe'≠oa):=λz=>by
   have q5:=(q3 z).2
   rcases (q3 z).1 with ⟨z1,z2⟩|z1
   ·have:=pe z2; exact ⟨oM,oM,λz3=>by have:=this.2.2 z3; omega⟩
   ·exact ⟨oM,oM,λz3=>by have:=pa z3; omega⟩
  refine ih (i+1) h4 s' oe' (l1++l) ls oM ?_ ro4 ((q2.keep f4 λz=>by have:=q3' z; omega).cong (by simp)) q3' (((ga.ext e2).keep q4 λz z2=>(pe z2.1).2.2 z z2.2.symm).keep f4 λz=>by have:=pa z; omega) (λz=>by have:=pa z; omega) hrest (by rw[hl,List.append_assoc])
  exact (f4.ext (q4.ext (e.trans e2) λo o1 o2=>by have:=pe o2.1; omega) λo o1 o2=>oM)
end
end Go.Gm.AZ
namespace Go.Gm.AZ
open Go Go.Gm
def RtQ (es:List E)(D:List (List Int))(acc:List Bool)(v u lo:Nat)(r:AV)(h':Heap):Prop:=
 ∃b,LW es v u (λw=>gi acc (goS D 0 w)=true) b/\((b<0/\r=.tup [.agg [I 0,.nils],.bool false])\/
  (0<=b/\∃sl ll,r=.tup [.agg [I b,sl],.bool true]/\Gr lo h'.length h' 1 sl ((ll.map λ(e:Nat)=>(e:Int)).map encI)/\ll.length<=1000000/\OkW es v ll/\atV es v ll=u/\gi acc (atS es D 0 ll)=true/\atC es ll=b))
theorem b3w (l:List Nat):l.map natE=(l.map λ(e:Nat)=>(e:Int)).map encI:=by rw[List.map_map]; rfl
section
variable {h:Heap} {N:Nat} {es:List E} {A:List Ar} {Up Dn:List (List Int)} {D:List (List Int)} {acc:List Bool} {x sD sAc:AV}
theorem y4_ (hN:N<=100)(no:NetOk N es)(co:COk es)(xv:IxV h x N es A Up Dn)(ix:IxC N es A Up Dn)(ok:DOk D acc)(hD:Sl h 5 sD (D.map encR))(hA:Sl h 1 sAc (acc.map encB))(hn2:2*(N*D.length)*(N+1)<=1000000){v u:Nat}(hv:v<N)(hu:u<N) :
  Tot tab d4_ [x,.agg [sD,sAc],I v,I u] h λr h'=>Ext h h'/\RtQ es D acc v u h.length r h':=by
 refine WP.tot (b4E · ..) ?_
 have hn3:2*(N*D.length)<=1000000:=Nat.le_trans (Nat.le_mul_of_pos_right _ oM) hn2
 obtain ⟨sE,sR,sA,sU,sDn,us,ds,hx,hE,hR,hAr,hU,hDn,lu,ldd,hUp,hDp⟩:=xv.ex
 have o1:=hE.one
 have o2:=hAr.one
 have o3:=hU.one
 have o4:=hDn.one
 have o5:=hD.one
 have o6:=hA.one
 have hz:I 0=I 0:=rfl
 try simp only[hz]
 obtain ⟨h1,hh1⟩:∃h1,h1=((h++[AObj.cells ⟨[I N,sE,sR,sA,sU,sDn],0,0,false⟩])++[AObj.cells ⟨[sD,sAc],0,0,false⟩])++[AObj.cells ⟨[I 0,.nils],0,0,false⟩]:=⟨_,rfl⟩
 have e1:Ext h h1:=by rw[hh1]; exact ((Ext.push _ _).app _).app _
 have l1:h1.length=h.length+3:=by rw[hh1]; simp
 have rx:h1[h.length]?=some (.cells ⟨[I N,sE,sR,sA,sU,sDn],0,0,false⟩):=by rw[hh1,m2_ (by simp),m2_ (by simp)]; simp
 have rd:h1[h.length+1]?=some (.cells ⟨[sD,sAc],0,0,false⟩):=by rw[hh1,m2_ (by simp),r8_ (by simp)]; simp
 have rt:h1[h.length+1+1]?=some (.cells ⟨[I 0,.nils],0,0,false⟩):=by rw[hh1,r8_ (by simp)]; simp
 have hr2:∀a b c d e f:AV,rdNAt 2 (some (AObj.cells ⟨[a,b,c,d,e,f],0,0,false⟩)) 0 6 0=some (.agg [a,b]):=λ_ _ _ _ _ _=>rfl
 have hr6:rdNAt 6 (some (AObj.cells ⟨[I N,sE,sR,sA,sU,sDn],0,0,false⟩)) 0 6 0=some (.agg [I N,sE,sR,sA,sU,sDn]):=rfl
 rw[hx]
 refine g7 @o1 @hR @o2 @o3 @o4 @o5 @o6 ?_
 rw[<-hh1]
 refine WP.call (b3a ok (hD.ext e1) (hA.ext e1)) ?_
 rintro _ h2 ⟨e2,rfl⟩
 have e12:=e1.trans e2
 have rx2:=e2.get rx
 have rd2:=e2.get rd
 have rt2:=e2.get rt
 cases hst:stdyB D with
 |false=>
  refine g3 @rx2 @rd2 @hr2 ?_
  refine WP.call (a8b no co oM (hE.ext e12) ok (hD.ext e12) (hA.ext e12) hv hu) ?_
  rintro r h3 ⟨e3,c,lc,rq⟩
  have rt3:=e3.get rt2
  have lw:=bv_lw ok no hv hu lc
  have lt3:h.length+1+1<h3.length:=(List.getElem?_eq_some_iff.1 rt3).1
  have e13:=e12.trans e3
  rcases rq with ⟨c0,rfl⟩|⟨c0,q,l,sl,q1,q2,q3,q4,q5,rfl,q7⟩
  ·refine g3 @a4_ @a5_ @rt3 ?_
   refine WP.ret ⟨eX,_,lw,.inl ⟨c0,rfl⟩⟩
  ·obtain ⟨a1,a2,a3,a4,a5⟩:=b4x ok no hv q4
   obtain ⟨d1,d2⟩:=a8u (v:=u) (S:=D.length) (s:=q) q1
   rw[d1] at a2
   rw[d2] at a3
   have os:=q7.sl.one
   have cs:=q7.sl.cells
   refine g5 @a4_ @a5_ @rt3 @os @cs ?_
   refine WP.ret ⟨eX,_,lw,.inr ⟨c0,sl,l,rfl,?_,q5,a1,a2,by rw[a3]; exact q2,a4⟩⟩
   exact ((q7.set (by have:=e2.len; omega) _).mono (by have:=e2.len; omega) (by simp))
 |true=>
  have sd:=a9N.1 hst
  have xv2:IxV h2 (.agg [I N,sE,sR,sA,sU,sDn]) N es A Up Dn:=hx▸xv.ext e12
  refine g3 @rx2 @rd2 @hr6 ?_
  refine WP.call (b6F hN xv2 ix.toIxS (hD.ext e12) (hA.ext e12)) ?_
  rintro wp h3 ⟨e3,wv⟩
  refine WP.call (b5e wv ix.toIxS ok hN (n:=2*(N*D.length)) rfl hn3 hv) ?_
  rintro _ h4 ⟨e4,os,q,sc,se,sf,oc,oe,ov,rfl,id2,k2,rk2,cs2,ds2,fs2,M2,sw,di,hM,hk⟩
  refine WP.call (b4f (wv.ext e4) ok hN rfl hn3 sw hu) ?_
  rintro _ h5 ⟨e5,out,rfl,qb⟩
  have hg:=b3v ix.toIxS ok
  have hvS:v*D.length<N*D.length:=by
   have:=spotN (N:=N) (v:=v) (S:=D.length) (s:=0) hv ok.l0
   simpa using this
  have lc:=di.lc hg (λy hy=>by have:y=2*(v*D.length):=hy; omega) hM
  have lw:=q_lw no co ix ok sd hv hu lc qb
  have e15:=((e12.trans e3).trans e4).trans e5
  have rx5:=((e3.trans e4).trans e5).get rx2
  have rt5:=((e3.trans e4).trans e5).get rt2
  have lt5:h.length+1+1<h5.length:=(List.getElem?_eq_some_iff.1 rt5).1
  by_cases o0:out<0
  ·rw[if_pos o0] at lw
   refine g1 @rt5 ?_
   refine WP.ret ⟨eX,_,lw,.inl ⟨oM,rfl⟩⟩
  ·rw[if_neg o0] at lw
   obtain ⟨y,hy⟩:∃y:Nat,out=y:=⟨out.toNat,oM⟩
   subst hy
   rw[Int.toNat_natCast] at lw
   have sw5:=sw.ext e5
   have ro5:=sw5.row
   rcases qb with ⟨qb,_⟩|⟨y',qy,qa,qc,_⟩
   ·omega
   obtain rfl:y=y':=oM
   have hyr:y<2*(N*D.length)/\((y / 2 / D.length:Nat):Int)=u/\gi acc ((y / 2 % D.length:Nat):Int)=true:=by
    obtain ⟨s,s1,s2,bb,hs⟩:=qa
    have la:=ok.la
    have h1:=a4g (N:=N) (S:=D.length) (v:=(u:Int)) (s:=(s:Int)) oM oM oM oM bb
    obtain ⟨_,e2,e3⟩:=a8y (S:=D.length) (v:=(u:Int)) (s:=(s:Int)) oM oM oM bb
    rw[<-hs] at e2 e3
    exact ⟨oM,e2,by rw[e3]; exact s2⟩
   have gcs:=sw5.gc.sl
   have idy:=gcs.idxG (i:=(y:Int)) oM (by rw[sw5.lc]; omega)
   have ldy:=gcs.ld0 (H:=h5) (i:=(y:Int)) (Ext.refl _) oM (by rw[sw5.lc]; omega) oM
   obtain ⟨cost,hcost⟩:∃cost,gf cs2 y=cost:=⟨_,rfl⟩
   replace ldy:Gm.ld1 h5 (elP 1 sc (y:Int))=some (I cost):=by rw[<-hcost]; exact ldy
   obtain ⟨h6,hh6⟩:∃h6,h6=(h5++[AObj.cells ⟨[I 0,.nils],0,0,false⟩]).set h5.length (.cells ⟨[I cost,.nils],0,0,false⟩):=⟨_,rfl⟩
   have e6:Ext h5 h6:=by rw[hh6]; exact eX
   have l6:h6.length=h5.length+1:=by rw[hh6]; simp
   have ro6:h6[h5.length]?=some (.cells ⟨[I cost,.nils],0,0,false⟩):=by rw[hh6]; exact a0_ (by simp)
   refine g3 @ro5 @idy @ldy ?_
   rw[<-hh6]
   have hun:=m1_ (2*(N*D.length)) (gf cs2)
   have hrk:=di.rk y hyr.1 qc
   rw[hcost] at qc lw
   refine WP.ent (qr_l1 (x4:=.ptr h.length 0 6 0) (t8:=.ptr (h.length+1+1) 0 2 0) (out12:=.ptr h5.length 0 2 0) hn3 (sw5.ext e6) di oM (x0:=y) (λx' ks h7 arcs oa hstx hxn hch hkl e7 ga pa=>?_) (2*(N*D.length)+1) y h6 .nils 0 [] 0 oM (by simp) hyr.1 oM (Ext.refl _) (Gr.nil ..) (λz=>absurd rfl z) .nil oM) λi=>rfl
   have hx':x'=2*(v*D.length):=hstx
   have hx2:x' / 2=v*D.length:=oM
   obtain ⟨ll,u1,u2,u3,u4,u5⟩:=c0o no ix.toIxS ok sd hch oM
   rw[hx2,Nat.mul_div_cancel _ ok.l0] at u2 u3
   rw[hx2,Nat.mul_mod_left] at u4
   rw[hcost] at u5
   have hlll:=u1.len
   have hll:ll.length<=1000000:=by
    have:ks.length*(N+1)<=2*(N*D.length)*(N+1):=Nat.mul_le_mul_right _ hkl
    omega
   refine WP.congr (b2M · ..) ?_
   obtain ⟨lo,ga',hlo⟩:∃lo,Gr lo (lo+1) h7 1 arcs ((ks.reverse.map λ(e:Nat)=>(e:Int)).map encI)/\h6.length<=lo:=by
    by_cases q:arcs=.nils
    ·subst q
     have hks:ks=[]:=by simpa using ga.isNil
     subst hks
     exact ⟨h6.length,Gr.nil ..,Nat.le_refl _⟩
    ·exact ⟨oa,ga.cong (b3w _),(pa q).1⟩
   refine WP.call (b5U (by simp; omega) ga') ?_
   rintro _ h8 ⟨rfl,f8,g8⟩
   have e68:Ext h6 h8:=f8.ext e7 hlo
   obtain ⟨oa',pa',g8'⟩:=(g8.cong (ys:=ks.map natE) (by rw[<-List.map_reverse,List.reverse_reverse,b3w])).point
   have lna:lenS arcs=some (I ks.length):=by rw[g8'.sl.lenG]
   have e58:=e6.trans e68
   refine g1 @lna ?_
   have hfin:=qr_l3 (LL:=N+1) oM (hAr.ext e15) (by have:=ix.la; omega) o1 hR o3 o4 rx5 rt5 (ks:=ks) oM (ll:=ll) oM (cost:=cost) ks.length 0 h8 .nils 0 [] ll oM e58 (e68.get ro6) (Gr.nil ..) (λz=>absurd rfl z) g8' (λz=>by have:=pa' z; omega) (by rw[List.drop_zero]; exact u1) rfl
   refine WP.ent (hfin.mono λr h9 ⟨⟨sl,r1,r2⟩,r3,r4⟩=>⟨?_,cost,lw,.inr ⟨oM,sl,ll,r1,by rw[<-b3w]; exact r2.mono (by have:=e15.len; omega) (Nat.le_refl _),hll,u2,u3.trans hyr.2.1,?_,u5⟩⟩) λi=>rfl
   ·rw[a3i]
    refine ⟨by have:=e15.len; omega,λo ho=>?_⟩
    rw[r4 o (by have:=e15.len; omega) oM]
    obtain ⟨z,hz'⟩:∃z,h[o]?=some z:=⟨h[o],List.getElem?_eq_getElem ho⟩
    rw[hz',e15.get hz']
   ·have h0:((0:Nat):Int)=0:=rfl
    rw[h0] at u4
    rw[u4]; exact hyr.2.2
end
end Go.Gm.AZ
namespace Go.Gm.AZ
open Go Go.Gm
section
variable {N LL:Nat} {es:List E} {A:List Ar} {Up Dn:List (List Int)} {D:List (List Int)} {acc:List Bool} {sD sAc:AV}
def ManyQ (es:List E)(D:List (List Int))(acc:List Bool)(v:Nat)(ts bs:List Int):Prop:=∀i:Nat,i<bs.length->LW es v (gi ts i) (λw=>gi acc (goS D 0 w)=true) (gi bs i)
theorem ManyQ.snoc (m:ManyQ es D acc v ts bs)(h:LW es v (gi ts bs.length) (λw=>gi acc (goS D 0 w)=true) b):ManyQ es D acc v ts (bs++[b]):=by
 intro i hi
 rw[List.length_append,List.length_singleton] at hi
 by_cases q:i<bs.length
 ·rw[a3h oM oM]; exact m i q
 ·obtain rfl:i=bs.length:=oM
  rw[a6R]; exact h
theorem app1I {bs:List Int}(g:Gr oc (oc+1) h 1 out (bs.map encI))(ho:out≠.nils->oc<h.length)(hl:bs.length<=1000000000)(b:Int) :
  ∃s' h' o',apnd 1 8 out (.sl h.length 0 1 1 none 0) (h++[AObj.cells ⟨[I b],0,0,false⟩])=some (s',h')/\Gr o' (o'+1) h' 1 s' ((bs++[b]).map encI)/\(s'≠.nils->((o'=oc/\out≠.nils)\/h.length<=o')/\o'<h'.length)/\FrS (λp=>out≠.nils/\p=oc) h h':=by
 have b0:=Gr.lit (h:=h) (sz:=1) (v:=[I b]) rfl
 rw[a3_] at b0
 have e1:Ext h (h++[AObj.cells ⟨[I b],0,0,false⟩]):=Ext.push _ _
 obtain ⟨s',h',o',q1,q2,q3,q4⟩:=(g.ext e1).appP (λz=>by have:=ho z; simp; omega) b0.sl oM (bytes:=8) oM (by simp; omega)
 refine ⟨s',h',o',q1,q2.cong (by simp[encI]),λz=>⟨?_,(q3 z).2⟩,(FrS.ofExt e1).trans q4⟩
 rcases (q3 z).1 with h1|h1
 ·exact .inl h1
 ·right; simp at h1; omega
theorem c3H {oo la ha v:Nat}{ts:List Int}(eb:Ext hb b1)(hoo:hb.length<=oo)(hT:Sl hb 1 tA (ts.map encI))(hA:Gr la ha b1 1 all ((costL N D.length c acc).map encI))(hla:oo<la)(hha:ha<=b1.length)(ht:∀t∈ts,0<=t/\t<N)(htl:ts.length<=1000000)(hlw:∀u:Nat,u<N->LW es v u (λw=>gi acc (goS D 0 w)=true) (bv c acc (u*D.length) D.length)) :
  ∀(d i:Nat) (h:Heap) (out:AV) (oc:Nat) (bs:List Int),i+d=ts.length->FrS (λo=>o=oo\/b1.length<=o) b1 h->Gr oc (oc+1) h 1 out (bs.map encI)->(out≠.nils->(oc=oo\/b1.length<=oc)/\oc<h.length)->bs.length=i->ManyQ es D acc v ts bs->
   WP (λp:Nat × Nat=>a4X p.1 p.2 out all tA (I ts.length) (I i) h) λr h'=>Ext hb h'/\∃bs:List Int,bs.length=ts.length/\Sl h' 1 r (bs.map encI)/\ManyQ es D acc v ts bs:=by
 have ebl:=eb.len
 intro d
 induction d with
 |zero=>
  intro i h out oc bs hi f g po hbl m
  refine WP.rnd (a8Z · · ..) ?_
  obtain rfl:i=ts.length:=oM
  refine g0 ?_
  exact WP.ret ⟨f.ext eb λo o1 o2=>oM,bs,hbl,g.sl,m⟩
 |succ d ih=>
  intro i h out oc bs hi f g po hbl m
  refine WP.rnd (a8Z · · ..) ?_
  have e:=f.ext eb λo o1 o2=>oM
  have hT':=hT.ext e
  have hA':=(hA.frs f λo o1 o2 o3=>oM).sl
  have hit:(i:Int)<ts.length:=oM
  have ldt:=hT'.ld0 (H:=h) (i:=(i:Int)) (Ext.refl _) oM hit oM
  obtain ⟨t0,t1⟩:=ht _ (b7_ (xs:=ts) (i:=(i:Int)) oM hit)
  obtain ⟨t,htt⟩:∃t:Nat,gi ts (i:Int)=t:=⟨(gi ts (i:Int)).toNat,oM⟩
  rw[htt] at ldt t0 t1
  replace ldt:Gm.ld1 h (elP 1 tA (i:Int))=some (I (t:Int)):=ldt
  have idt:=hT'.idxG (i:=(i:Int)) oM hit
  have htN:t<N:=oM
  have idA:=hA'.idxG (i:=(t:Int)) oM (by rw[i0_]; omega)
  have ldA:=hA'.ld0 (H:=h) (i:=(t:Int)) (Ext.refl _) oM (by rw[i0_]; omega) oM
  rw[j6_ htN] at ldA
  obtain ⟨b,hbv⟩:∃b,bv c acc (t*D.length) D.length=b:=⟨_,rfl⟩
  rw[hbv] at ldA
  replace ldA:Gm.ld1 h (elP 1 all (t:Int))=some (I b):=ldA
  obtain ⟨s',h',o',k1,k2,k3,k4⟩:=app1I g (λz=>(po z).2) oM b
  have hl1:=f.len
  have hl2:=k4.len
  refine g5 @idt @ldt @idA @ldA @k1 ?_
  refine ih (i+1) h' s' o' (bs++[b]) oM (f.trans (k4.mono λo _ z=>by have:=(po z.1).1; omega)) k2 (λz=>?_) (by simp[hbl]) (m.snoc ?_)
  ·rcases (k3 z).1 with ⟨z1,z2⟩|z1
   ·have:=(po z2).1; exact ⟨oM,(k3 z).2⟩
   ·exact ⟨.inr oM,(k3 z).2⟩
  ·rw[hbl,htt,<-hbv]
   exact hlw t htN
theorem c3I {hb b1:Heap}{oo c0 v:Nat}{ts:List Int}{os oc' oe ov n:Nat}(hoo:hb.length<=oo)(ho0:oo<c0)(hT:Sl hb 1 tA (ts.map encI))(ht:∀t∈ts,0<=t/\t<N)(htl:ts.length<=1000000)(wv:WyV2 hb c0 b1 wp N es A Up Dn D acc)(ok:DOk D acc)(hN:N<=100)(hn:n=2*(N*D.length))(hn2:n<=1000000)(w0:SchW W b1 os wp q sc se sf oc' oe ov n cs ds fs M)(hW:∀o,W o->c0<=o)(hlw:∀(u:Nat) (out:Int),u<N->QB (gf cs) (AccS acc D.length u acc.length) out->LW es v u (λw=>gi acc (goS D 0 w)=true) (if out<0 then -1 else gf cs out.toNat)) :
  ∀(d i:Nat) (h:Heap) (out:AV) (oc:Nat) (bs:List Int),i+d=ts.length->FrS (λo=>o=oo\/b1.length<=o) b1 h->Gr oc (oc+1) h 1 out (bs.map encI)->(out≠.nils->(oc=oo\/b1.length<=oc)/\oc<h.length)->bs.length=i->ManyQ es D acc v ts bs->
   WP (λp:Nat × Nat=>a4Y p.1 p.2 out (.ptr os 0 5 0) (.fn j8_ [] []) tA (I ts.length) (I i) h) λr h'=>Ext hb h'/\∃bs:List Int,bs.length=ts.length/\Sl h' 1 r (bs.map encI)/\ManyQ es D acc v ts bs:=by
 have eb:=wv.eb
 have ebl:=eb.len
 intro d
 induction d with
 |zero=>
  intro i h out oc bs hi f g po hbl m
  refine WP.rnd (a9a · · ..) ?_
  obtain rfl:i=ts.length:=oM
  refine g0 ?_
  exact WP.ret ⟨f.ext eb λo o1 o2=>oM,bs,hbl,g.sl,m⟩
 |succ d ih=>
  intro i h out oc bs hi f g po hbl m
  refine WP.rnd (a9a · · ..) ?_
  have e:=f.ext eb λo o1 o2=>oM
  have hT':=hT.ext e
  have hit:(i:Int)<ts.length:=oM
  have ldt:=hT'.ld0 (H:=h) (i:=(i:Int)) (Ext.refl _) oM hit oM
  obtain ⟨t0,t1⟩:=ht _ (b7_ (xs:=ts) (i:=(i:Int)) oM hit)
  obtain ⟨t,htt⟩:∃t:Nat,gi ts (i:Int)=t:=⟨(gi ts (i:Int)).toNat,oM⟩
  rw[htt] at ldt t0 t1
  replace ldt:Gm.ld1 h (elP 1 tA (i:Int))=some (I (t:Int)):=ldt
  have idt:=hT'.idxG (i:=(i:Int)) oM hit
  have htN:t<N:=oM
  have wvh:=(wv.frs f λo o1 o2=>oM).wy
  have wh:=w0.frs f λo o1 o2 o3=>by have:=hW o o2; omega
  have hl1:=f.len
  refine g2 @idt @ldt ?_
  refine WP.call (b4f wvh ok hN hn hn2 wh htN) ?_
  rintro _ h2 ⟨e2,o,rfl,qb⟩
  have lw:=hlw t o htN qb
  have f2:=f.trans (FrS.ofExt (D:=λo=>o=oo\/b1.length<=o) e2)
  have hl2:=e2.len
  have fin:∀b,LW es v t (λw=>gi acc (goS D 0 w)=true) b->WP (λp:Nat × Nat=>a4Z p.1 p.2 out (.ptr os 0 5 0) (.fn j8_ [] []) (I b) tA (I ts.length) (I i) h2) λr h'=>Ext hb h'/\∃bs:List Int,bs.length=ts.length/\Sl h' 1 r (bs.map encI)/\ManyQ es D acc v ts bs:=by
   intro b hlb
   refine WP.congr (λi=>b3n i.1 i.2 ..) ?_
   obtain ⟨s',h',o',k1,k2,k3,k4⟩:=app1I (g.ext e2) (λz=>by have:=(po z).2; omega) oM b
   have hl3:=k4.len
   refine g1 @k1 ?_
   refine ih (i+1) h' s' o' (bs++[b]) oM (f2.trans (k4.mono λo _ z=>by have:=(po z.1).1; omega)) k2 (λz=>?_) (by simp[hbl]) (m.snoc ?_)
   ·rcases (k3 z).1 with ⟨z1,z2⟩|z1
    ·have:=(po z2).1; exact ⟨oM,(k3 z).2⟩
    ·exact ⟨.inr oM,(k3 z).2⟩
   ·rw[hbl,htt]; exact hlb
  by_cases o0:o<0
  ·rw[if_pos o0] at lw
   refine g0 ?_
   exact fin (-1) lw
  ·rw[if_neg o0] at lw
   have bnd:=qb.bnd (n:=n) (λx hx=>by
    obtain ⟨s,s1,s2,bb,rfl⟩:=hx
    have la:=ok.la
    have h1:=a4g (N:=N) (S:=D.length) (v:=(t:Int)) (s:=(s:Int)) oM oM oM oM bb
    omega)
   have w2:=wh.ext e2
   have ro:=w2.row
   have gc:=w2.gc.sl
   have idc:=gc.idxG (i:=o) oM (by rw[w2.lc]; omega)
   have ldc:=gc.ld0 (H:=h2) (i:=o) (Ext.refl _) oM (by rw[w2.lc]; omega) oM
   replace ldc:Gm.ld1 h2 (elP 1 sc o)=some (I (gi cs o)):=ldc
   have hgc:gf cs o.toNat=gi cs o:=by show gi cs ((o.toNat:Nat):Int)=_; rw[Int.toNat_of_nonneg oM]
   rw[hgc] at lw
   refine g3 @ro @idc @ldc ?_
   exact fin _ lw
end
section
variable {h:Heap} {N:Nat} {es:List E} {A:List Ar} {Up Dn:List (List Int)} {D:List (List Int)} {acc:List Bool} {x sD sAc tA:AV}
theorem b4g (hN:N<=100)(no:NetOk N es)(co:COk es)(xv:IxV h x N es A Up Dn)(ix:IxC N es A Up Dn)(ok:DOk D acc)(hD:Sl h 5 sD (D.map encR))(hA:Sl h 1 sAc (acc.map encB))(hn2:2*(N*D.length)<=1000000){v:Nat}(hv:v<N){ts:List Int}(hT:Sl h 1 tA (ts.map encI))(ht:∀t∈ts,0<=t/\t<N)(htl:ts.length<=1000000) :
  Tot tab p9_ [x,.agg [sD,sAc],I v,tA] h λr h'=>Ext h h'/\∃bs:List Int,bs.length=ts.length/\Sl h' 1 r (bs.map encI)/\ManyQ es D acc v ts bs:=by
 refine WP.tot (b5D · ..) ?_
 obtain ⟨sE,sR,sA,sU,sDn,us,ds,hx,hE,hR,hAr,hU,hDn,lu,ldd,hUp,hDp⟩:=xv.ex
 have o1:=hE.one
 have o2:=hAr.one
 have o3:=hU.one
 have o4:=hDn.one
 have o5:=hD.one
 have o6:=hA.one
 obtain ⟨h1,hh1⟩:∃h1,h1=(h++[AObj.cells ⟨[I N,sE,sR,sA,sU,sDn],0,0,false⟩])++[AObj.cells ⟨[sD,sAc],0,0,false⟩]:=⟨_,rfl⟩
 have e1:Ext h h1:=by rw[hh1]; exact (Ext.push _ _).app _
 have l1:h1.length=h.length+2:=by rw[hh1]; simp
 have rx:h1[h.length]?=some (.cells ⟨[I N,sE,sR,sA,sU,sDn],0,0,false⟩):=by rw[hh1,m2_ (by simp)]; simp
 have rd:h1[h.length+1]?=some (.cells ⟨[sD,sAc],0,0,false⟩):=by rw[hh1,r8_ (by simp)]; simp
 have hr2:∀a b c d e f:AV,rdNAt 2 (some (AObj.cells ⟨[a,b,c,d,e,f],0,0,false⟩)) 0 6 0=some (.agg [a,b]):=λ_ _ _ _ _ _=>rfl
 have hr6:rdNAt 6 (some (AObj.cells ⟨[I N,sE,sR,sA,sU,sDn],0,0,false⟩)) 0 6 0=some (.agg [I N,sE,sR,sA,sU,sDn]):=rfl
 have lnT:=hT.lenG
 have hmk:∀H:Heap,mkSl [I 0] 1 8 (I 0) (I ts.length) H=some (.sl H.length 0 0 1 none 0,mkObj H []):=λH=>c1j (l:=0) (c:=ts.length) (Int.le_refl _) oM oM oM rfl rfl
 rw[hx]
 refine g8 @o1 @hR @o2 @o3 @o4 @o5 @o6 @lnT ?_
 rw[<-hh1]
 rw[hmk]
 try simp only[b0O]
 have gO:=Gr.empty h1 1
 rw[a3_] at gO
 obtain ⟨h2,hh2⟩:∃h2,h2=h1++[AObj.cells ⟨[],0,0,false⟩]:=⟨_,rfl⟩
 have e2:Ext h1 h2:=by rw[hh2]; exact Ext.push _ _
 have l2:h2.length=h1.length+1:=by rw[hh2]; simp
 have rx2:=e2.get rx
 have rd2:=e2.get rd
 rw[a3_,<-hh2]
 rw[<-hh2] at gO
 refine g1 @rd2 ?_
 have e12:=e1.trans e2
 refine WP.call (b3a ok (hD.ext e12) (hA.ext e12)) ?_
 rintro _ h3 ⟨e3,rfl⟩
 have e13:=e12.trans e3
 have rx3:=e3.get rx2
 have rd3:=e3.get rd2
 cases hst:stdyB D with
 |false=>
  refine g3 @rx3 @rd3 @hr2 ?_
  refine WP.call (a2G no co oM (hE.ext e13) ok (hD.ext e13) (hA.ext e13) hv) ?_
  rintro all h4 ⟨e4,c,lc,ga⟩
  have e14:=e13.trans e4
  have hT4:=hT.ext e14
  have lnT4:=hT4.lenG
  have h3l:=e3.len
  have h4l:=e4.len
  exact WP.ent (c3H (hb:=h) (b1:=h4) (oo:=h1.length) (N:=N) (es:=es) e14 oM hT ga oM (Nat.le_refl _) ht htl (λu hu=>bv_lw ok no hv hu lc) ts.length 0 h4 _ h1.length [] oM (FrS.refl _ _) ((gO.ext e3).ext e4) (λ_=>⟨.inl rfl,oM⟩) rfl (λi hi=>by simp at hi)) λi=>rfl
 |true=>
  have sd:=a9N.1 hst
  refine g2 @rx3 @rd3 ?_
  refine WP.congr (b3o · ..) ?_
  refine g4 @rx3 @rd3 @hr6 @lnT ?_
  have xv':IxV h (.agg [I N,sE,sR,sA,sU,sDn]) N es A Up Dn:=hx▸xv
  refine WP.call (b1F e13 hN xv' ix.toIxS hD hA) ?_
  rintro wp h4 ⟨e4,wv⟩
  refine WP.call (b5e wv.wy ix.toIxS ok hN (n:=2*(N*D.length)) rfl hn2 hv) ?_
  rintro _ h5 ⟨e5,os,q,sc,se,sf,oc,oe,ov,rfl,id2,k2,rk2,cs2,ds2,fs2,M2,sw,di,hM,hk⟩
  have hvS:v*D.length<N*D.length:=by
   have:=spotN (N:=N) (v:=v) (S:=D.length) (s:=0) hv ok.l0
   simpa using this
  have lc:=di.lc (b3v ix.toIxS ok) (λy hy=>by have:y=2*(v*D.length):=hy; omega) hM
  have h3l:=e3.len
  have h4l:=e4.len
  have h5l:=e5.len
  have e15:=(e13.trans e4).trans e5
  have lnT5:=(hT.ext e15).lenG
  exact WP.ent (c3I (hb:=h) (b1:=h5) (oo:=h1.length) (c0:=h3.length) oM oM hT ht htl (wv.frs (FrS.ofExt (D:=λ_=>False) e5) λo _ z=>z.elim) ok hN rfl hn2 sw (λo z=>oM) (λu o hu qb=>q_lw no co ix ok sd hv hu lc qb) ts.length 0 h5 _ h1.length [] oM (FrS.refl _ _) (((gO.ext e3).ext e4).ext e5) (λ_=>⟨.inl rfl,oM⟩) rfl (λi hi=>by simp at hi)) λi=>rfl
end
end Go.Gm.AZ
namespace Go.Gm.AZ
open Go Go.Gm
theorem kOkW (h:OkW kE 0 l):l=[]\/l=[0]:=by
 rcases l with _|⟨a,_|⟨b,t⟩⟩
 ·exact .inl rfl
 ·have:=(h 0 a rfl).1
  simp[kE] at this
  exact .inr (by rw[this])
 ·have h1:=(h 0 a rfl).1
  have h2:=h 1 b rfl
  simp[kE] at h1 h2
  obtain ⟨rfl,h3⟩:=h2
  subst h1
  exact absurd h3 (by decide)
theorem kLW1:LW kE 0 1 (λw=>gi [true] (goS kD 0 w)=true) 4:=by
 refine ⟨.inr ⟨oM,[0],?_,rfl,rfl,rfl⟩,λl h1 h2 _=>?_⟩
 ·exact OkW.snoc (l:=[]) (λi e h=>by simp at h) (by simp[kE]) rfl
 ·rcases kOkW h1 with rfl|rfl
  ·exact absurd h2 (by decide)
  ·exact ⟨oM,by decide⟩
theorem kLW0:LW kE 0 0 (λw=>gi [true] (goS kD 0 w)=true) 0:=by
 refine ⟨.inr ⟨oM,[],?_,rfl,rfl,rfl⟩,λl h1 h2 _=>?_⟩
 ·exact λi e h=>by simp at h
 ·rcases kOkW h1 with rfl|rfl
  ·exact ⟨oM,by decide⟩
  ·exact absurd h2 (by decide)
section
variable {h:Heap} {A:List Ar} {Up Dn:List (List Int)} {x sD sAc tA:AV}
theorem kqRoute (xv:IxV h x 2 kE A Up Dn)(ix:IxC 2 kE A Up Dn)(hD:Sl h 5 sD (kD.map encR))(hA:Sl h 1 sAc ([true].map encB)) :
  Tot tab d4_ [x,.agg [sD,sAc],I 0,I 1] h λr h'=>Ext h h'/\∃sl,r=.tup [.agg [I 4,sl],.bool true]/\Sl h' 1 sl [[I 0]]:=by
 refine (y4_ (N:=2) (v:=0) (u:=1) oM kNet kCo xv ix kDok hD hA (by simp[kD]) oM oM).mono ?_
 rintro r h' ⟨e,b,lw,rq⟩
 obtain rfl:=lw.uniq kLW1
 refine ⟨e,?_⟩
 rcases rq with ⟨q,_⟩|⟨_,sl,ll,q2,q3,q4,q5,q6,_⟩
 ·omega
 ·rcases kOkW q5 with rfl|rfl
  ·exact absurd q6 (by decide)
  ·exact ⟨sl,q2,q3.sl⟩
theorem kqMany (xv:IxV h x 2 kE A Up Dn)(ix:IxC 2 kE A Up Dn)(hD:Sl h 5 sD (kD.map encR))(hA:Sl h 1 sAc ([true].map encB))(hT:Sl h 1 tA [[I 1],[I 0]]) :
  Tot tab p9_ [x,.agg [sD,sAc],I 0,tA] h λr h'=>Ext h h'/\Sl h' 1 r ([(4:Int),0].map encI):=by
 refine (b4g (N:=2) (v:=0) (ts:=[1,0]) oM kNet kCo xv ix kDok hD hA (by simp[kD]) oM hT (by simp) (by simp)).mono ?_
 rintro r h' ⟨e,bs,hb,sl,m⟩
 refine ⟨e,?_⟩
 match bs,hb with
 |[a,b],_=>
  have h1:=m 0 (by simp)
  have h2:=m 1 (by simp)
  have e1:gi [a,b] 0=4:=h1.uniq kLW1
  have e2:gi [a,b] 1=0:=h2.uniq kLW0
  obtain rfl:a=4:=e1
  obtain rfl:b=0:=e2
  exact sl
theorem kqMany0 (xv:IxV h x 2 kE A Up Dn)(ix:IxC 2 kE A Up Dn)(hD:Sl h 5 sD (kD.map encR))(hA:Sl h 1 sAc ([true].map encB)) :
  Tot tab p9_ [x,.agg [sD,sAc],I 0,.nils] h λr h'=>Ext h h'/\Sl h' 1 r []:=by
 refine (b4g (N:=2) (v:=0) (ts:=[]) oM kNet kCo xv ix kDok hD hA (by simp[kD]) oM (.inl ⟨rfl,rfl⟩) (by simp) (by simp)).mono ?_
 rintro r h' ⟨e,bs,hb,sl,m⟩
 obtain rfl:=List.eq_nil_of_length_eq_zero hb
 exact ⟨e,sl⟩
end
theorem a4h (h:Heap):Tot tab g3_ [] h λr h'=>r=.bool true/\Ext h h':=by
 refine WP.tot (a9s · ..) ?_
 refine g0 ?_
 obtain ⟨h1,hh1⟩:∃h1,h1=h++[AObj.cells ⟨[I 0,I 1,I 0,I 4],0,0,false⟩]:=⟨_,rfl⟩
 have e1:Ext h h1:=by rw[hh1]; exact eX
 have r0:h1[h.length]?=some (.cells ⟨encE ⟨0,1,0,4⟩,0,0,false⟩):=by rw[hh1]; refine g0 ?_; try rfl
 have hs:Sl h1 4 (.sl h.length 0 1 4 none 0) (kE.map encE):=b0p r0 rfl
 rw[<-hh1]
 refine WP.call (a4L (N:=2) oM kNet kCo hs) ?_
 rintro x h2 ⟨e2,A,Up,Dn,xv,ix⟩
 obtain ⟨sE,sR,sA,sU,sDn,us,ds,hx,hE,hR,hAr,hU,hDn,lu,ldd,hUp,hDp⟩:=xv.ex
 have o1:=hE.one
 have o2:=hAr.one
 have o3:=hU.one
 have o4:=hDn.one
 have hr6:rdNAt 6 (some (AObj.cells ⟨[I (2:Nat),sE,sR,sA,sU,sDn],0,0,false⟩)) 0 6 0=some (.agg [I (2:Nat),sE,sR,sA,sU,sDn]):=rfl
 have hr2:∀a b:AV,rdNAt 2 (some (AObj.cells ⟨[a,b],0,0,false⟩)) 0 2 0=some (.agg [a,b]):=λ_ _=>rfl
 rw[hx]
 refine g5 @o1 @hR @o2 @o3 @o4 ?_
 obtain ⟨h3,hh3⟩:∃h3,h3=(List.set (List.set (h2++[AObj.cells ⟨[I 0,.nils,.nils,.nils,.nils,.nils],0,0,false⟩]) h2.length (AObj.cells ⟨[I (2:Nat),sE,sR,sA,sU,sDn],0,0,false⟩) ++
   [AObj.cells ⟨[I 0,I 0,I 0,I 0,I 0],0,0,false⟩]++[AObj.cells ⟨[AV.bool true],0,0,false⟩]++[AObj.cells ⟨[.nils,.nils],0,0,false⟩])
   (h2.length+1+1+1) (AObj.cells ⟨[AV.sl (h2.length+1) 0 1 5 none 0,AV.sl (h2.length+1+1) 0 1 1 none 0],0,0,false⟩)):=⟨_,rfl⟩
 have e3:Ext h2 h3:=by rw[hh3]; exact eX
 have r1:h3[h2.length]?=some (.cells ⟨[I (2:Nat),sE,sR,sA,sU,sDn],0,0,false⟩):=by rw[hh3]; simp -implicitDefEqProofs (disch:=first|assumption|omega|(simp only[gL,gA]<;>omega)|fail) only[cG,reduceIte]; try rfl
 have r2:h3[h2.length+1]?=some (.cells ⟨encR [0,0,0,0,0],0,0,false⟩):=by rw[hh3]; refine g0 ?_; try rfl
 have r3:h3[h2.length+1+1]?=some (.cells ⟨encB true,0,0,false⟩):=by rw[hh3]; refine g0 ?_; try rfl
 have r4:h3[h2.length+1+1+1]?=some (.cells ⟨[AV.sl (h2.length+1) 0 1 5 none 0,AV.sl (h2.length+1+1) 0 1 1 none 0],0,0,false⟩):=by rw[hh3]; simp -implicitDefEqProofs (disch:=first|assumption|omega|(simp only[gL,gA]<;>omega)|fail) only[cG,reduceIte]; try rfl
 have hD:Sl h3 5 (.sl (h2.length+1) 0 1 5 none 0) (kD.map encR):=b0p r2 rfl
 have hA:Sl h3 1 (.sl (h2.length+1+1) 0 1 1 none 0) ([true].map encB):=b0p r3 rfl
 have xv3:=(hx▸xv:IxV h2 (.agg [I (2:Nat),sE,sR,sA,sU,sDn]) 2 kE A Up Dn).ext e3
 rw[<-hh3]
 refine WP.call (kqRoute xv3 ix hD hA) ?_
 rintro _ h4 ⟨e4,sl,rfl,hsl⟩
 have r14:=e4.get r1
 have r44:=e4.get r4
 have b1:=(List.getElem?_eq_some_iff.1 r14).1
 have b4:=(List.getElem?_eq_some_iff.1 r44).1
 refine g8 @a4_ @a5_ hsl.one hsl.cells @r14 @r44 @hr6 @hr2 ?_
 obtain ⟨h5,hh5⟩:∃h5,h5=((h4++[AObj.cells ⟨[I 0,.nils],0,0,false⟩]).set h4.length (.cells ⟨[I 4,sl],0,0,false⟩))++[AObj.cells ⟨[I 1,I 0],0,0,false⟩]:=⟨_,rfl⟩
 have e5:Ext h4 h5:=by rw[hh5]; exact eX
 have q5:h5[h4.length]?=some (.cells ⟨[I 4,sl],0,0,false⟩):=by rw[hh5]; simp -implicitDefEqProofs (disch:=first|assumption|omega|(simp only[gL,gA]<;>omega)|fail) only[cG,reduceIte]; try rfl
 have t5:h5[h4.length+1]?=some (.cells ⟨[I 1,I 0],0,0,false⟩):=by rw[hh5]; simp -implicitDefEqProofs (disch:=first|assumption|omega|(simp only[gL,gA]<;>omega)|fail) only[cG,reduceIte]; try rfl
 have hT:Sl h5 1 (.sl (h4.length+1) 0 2 1 none 0) [[I 1],[I 0]]:=.inr ⟨_,0,none,0,_,rfl,t5,Nat.le_refl _,rfl,by simp⟩
 have e45:=e4.trans e5
 rw[<-hh5]
 refine WP.call (kqMany (xv3.ext e45) ix (hD.ext e45) (hA.ext e45) hT) ?_
 rintro m2 h6 ⟨e6,z6⟩
 have r16:=(e5.trans e6).get r14
 have r46:=(e5.trans e6).get r44
 refine g4 @r16 @r46 @hr6 @hr2 ?_
 have e46:=e45.trans e6
 refine WP.call (kqMany0 (xv3.ext e46) ix (hD.ext e46) (hA.ext e46)) ?_
 rintro m0 h7 ⟨e7,z7⟩
 have q7:=(e6.trans e7).get q5
 have l7:=z7.len
 have ls:=hsl.len
 simp only[List.length_nil,List.length_cons] at l7 ls
 have z67:=z6.ext e7
 have g0:gi [(4:Int),0] 0=4:=rfl
 have g1:gi [(4:Int),0] 1=0:=rfl
 refine g9 @q7 @l7 @ls z67.lenG z67.idxG z67.ld0 @g0 @g1 @encI.eq_1 ?_
 exact WP.ret ⟨rfl,((((e1.trans e2).trans e3).trans e46)).trans e7⟩
end Go.Gm.AZ
namespace Go.Gm.AZ
open Go Go.Gm
theorem h0_ {a n:Int}(hn:0<n)(hf:Fit n)(h:Heap):Tot tab b1_ [I a,I n] h λv h'=>v=I (a % n)/\h=h':=by
 refine WP.tot (a8V · ..) ?_
 refine WP.oa (a8F a n oM) ?_
 refine WP.oa (a6U _ _) ?_
 have hlt:=Int.tmod_lt_of_pos a hn
 have hgt:=Int.lt_tmod_of_pos a hn
 have h1:=Int.tmod_eq_emod (a:=a) (b:=n)
 have h2:=Int.emod_nonneg a (by omega:n≠0)
 have h3:=Int.emod_lt_of_pos a hn
 by_cases h0:a.tmod n<0
 ·simp only[decide_eq_true h0,a2L]
  refine WP.oa (a8E _ _ (by unfold Fit at *; omega)) (WP.ret ⟨?_,rfl⟩)
  congr 1
  split at h1<;>omega
 ·simp only[decide_eq_false h0,a1M]
  refine WP.ret ⟨?_,rfl⟩
  congr 1
  split at h1<;>omega
theorem DOk.wr (ok:DOk D acc){s m:Nat}{x:Int}(s1:s<D.length)(m1:m<5)(x0:0<=x)(x1:x<D.length):DOk (D.set s ((gi D s).set m x)) acc:=by
 have hr:=ok.row s oM oM
 refine ⟨by simpa using ok.l0,by simpa using ok.l1,by simpa using ok.la,λt t0 t1=>?_,λt k t0 t1 k0 k1=>?_⟩
 ·obtain ⟨t,rfl⟩:∃t':Nat,t=t':=⟨t.toNat,oM⟩
  simp only[List.length_set] at t1
  rw[giset2 s1]
  split
  ·rw[List.length_set]; exact hr
  ·exact ok.row _ t0 t1
 ·obtain ⟨t,rfl⟩:∃t':Nat,t=t':=⟨t.toNat,oM⟩
  obtain ⟨k,rfl⟩:∃k':Nat,k=k':=⟨k.toNat,oM⟩
  simp only[List.length_set] at t1 ⊢
  rw[giset2 s1]
  split
  ·rename_i q
   rw[giset2 oM]
   split
   ·exact ⟨x0,x1⟩
   ·exact ok.to _ _ oM oM k0 k1
  ·exact ok.to _ _ t0 t1 k0 k1
structure RI (hb:Heap) (oD n:Nat) (sD:AV) (acc:List Bool) (h:Heap) (D:List (List Int)):Prop where
 fr:FrS (λo=>o=oD) hb h
 g:Gr oD (oD+1) h 5 sD (D.map encR)
 ok:DOk D acc
 ln:D.length=n
end Go.Gm.AZ
namespace Go.Gm.AZ
open Go Go.Gm
end Go.Gm.AZ
namespace Go.Gm.AZ
open Go Go.Gm
def ofM (es:List E)(m:Nat):List E:=es.filter λe=>e.md == (m:Int)
structure PkI (h0:Heap) (on oo N m:Nat) (s:AV) (es:List E) (i:Nat) (h:Heap) (s2:AV):Prop where
 fr:FrS (λo=>o=oo\/h0.length<=o) h0 h
 ro:h[oo]?=some (.cells ⟨[I N,s2],0,0,false⟩)
 g:Gr h0.length h.length h 4 s2 ((ofM (es.take i) m).map encE)
end Go.Gm.AZ
namespace Go.Gm.AZ
open Go Go.Gm
def kS:List AV:=kns.map λx=>.str (ofL (txt x.n))
def kU:List Int:=kns.map λx=>(x.u:Int)
end Go.Gm.AZ
namespace Go.Gm.AZ
open Go Go.Gm
end Go.Gm.AZ
namespace Go.Gm.AZ
open Go Go.Gm
theorem c9p {hb h:Heap}{od i:Nat}{sD sA:AV}(ok:DOk D acc)(hD:Sl h 5 sD (D.map encR))(rd:h[od]?=some (.cells ⟨[sD,sA],0,0,false⟩))(sd:SdyE D)(hi:i<D.length)(hQ:WP (λp:Nat × Nat=>c6P p.1 p.2 (.ptr od 0 2 0) (I (i+1)) h) Q) :
  ∀(d m:Nat),m+d=5->WP (λp:(Nat × Nat) × Nat=>c7e p.1.1 p.1.2 p.2 (.ptr od 0 2 0) (I i) (I m) h) Q:=by
 have l1:=ok.l1
 intro d
 induction d with
 |zero=>
  intro m hm
  refine WP.rnd (λi' j=>c7M i'.1 i'.2 j ..) ?_
  obtain rfl:m=5:=oM
  refine g0 ?_
  have hb3:WP (λp:Nat × Nat=>c7r p.1 p.2 (.ptr od 0 2 0) (I i) h) Q:=by
   refine WP.congr (λp=>c8d p.1 p.2 ..) ?_
   refine g0 ?_
   exact hQ
  exact WP.lv hb3 λi j=>rfl
 |succ d ih=>
  intro m hm
  refine WP.rnd (λi' j=>c7M i'.1 i'.2 j ..) ?_
  obtain ⟨p,p1,p2⟩:=dcell ok hD (Ext.refl h) (s:=(i:Int)) (m:=(m:Int)) oM oM oM oM
  obtain ⟨x0,x1⟩:=ok.to i m oM oM oM oM
  have st:=sd i m hi oM
  replace x1:nx D (i:Int) (m:Int)<D.length:=x1
  replace x0:0<=nx D (i:Int) (m:Int):=x0
  obtain ⟨t,ht'⟩:∃t:Nat,nx D (i:Int) (m:Int)=t:=⟨(nx D (i:Int) (m:Int)).toNat,oM⟩
  rw[ht'] at p2 st x1
  obtain ⟨q,q1,q2⟩:=dcell ok hD (Ext.refl h) (s:=(t:Int)) (m:=(m:Int)) oM oM oM oM
  rw[st] at q2
  have ii:=hD.idxG (i:=(i:Int)) oM oM
  have it:=hD.idxG (i:=(t:Int)) oM oM
  refine g7 @rd @ii @p1 @p2 @it @q1 @q2 ?_
  exact ih (m+1) oM
theorem c9q {od:Nat}{sD sA:AV}(ok:DOk D acc)(hD:Sl h 5 sD (D.map encR))(rd:h[od]?=some (.cells ⟨[sD,sA],0,0,false⟩))(sd:SdyE D) :
  ∀(d i:Nat),i+d=D.length->WP (λp:Nat × Nat=>c6P p.1 p.2 (.ptr od 0 2 0) (I i) h) λr h'=>r=.bool true/\h=h':=by
 have l1:=ok.l1
 intro d
 induction d with
 |zero=>
  intro i hi
  refine WP.rnd (c7N · · ..) ?_
  obtain rfl:i=D.length:=oM
  refine g2 @rd hD.lenG ?_
  exact WP.ret ⟨rfl,rfl⟩
 |succ d ih=>
  intro i hi
  refine WP.rnd (c7N · · ..) ?_
  refine g2 @rd hD.lenG ?_
  exact WP.ent (c9p (hb:=h) ok hD rd sd oM (ih (i+1) oM) 5 0 oM) λi=>rfl
theorem c8Q (ok:DOk D acc)(hD:Sl h 5 sD (D.map encR))(hA:Sl h 1 sA (acc.map encB))(sd:SdyE D) :
  Tot tab c6J [.agg [sD,sA]] h λr h'=>r=.bool true/\Ext h h':=by
 refine WP.tot (c8e · ..) ?_
 refine g4 hD.one hD.cells hA.one hA.cells ?_
 obtain ⟨h1,hh1⟩:∃h1,h1=h++[AObj.cells ⟨[sD,sA],0,0,false⟩]:=⟨_,rfl⟩
 have e1:Ext h h1:=by rw[hh1]; exact Ext.push _ _
 have rd:h1[h.length]?=some (.cells ⟨[sD,sA],0,0,false⟩):=by rw[hh1]; simp
 rw[<-hh1]
 exact WP.ent ((c9q ok (hD.ext e1) rd sd D.length 0 oM).mono λr h' q=>⟨q.1,q.2▸e1⟩) λi=>rfl
def sdB (n:Nd):Bool:=
 gdB n && (decide ((txt n).length<=200/\cst n+18<=900000/\dp n<=30) &&
  match nfaF n with
  |none=>false
  |some nf=>match subF nf 200 with
   |none=>false
   |some (D,acc)=>(List.range D.length).all λs=>(List.range 5).all λm=>nx D (nx D (s:Int) (m:Int)) (m:Int) == nx D (s:Int) (m:Int))
theorem c9r (hb:sdB n=true)(h:Heap):Tot tab b0_ [.str (ofL (txt n))] h λr h'=>Ext h h'/\∃D acc sN sA,r=.tup [.agg [sN,sA],I 0]/\DOk D acc/\D.length<=200/\Gr h.length h'.length h' 5 sN (D.map encR)/\Gr h.length h'.length h' 1 sA (acc.map encB)/\SdyE D:=by
 simp only[sdB,Bool.and_eq_true,decide_eq_true_eq] at hb
 obtain ⟨h2,⟨z1,z2,z3⟩,h5⟩:=hb
 obtain ⟨g,bd⟩:=b2c _ h2
 cases hn:nfaF n with
 |none=>rw[hn] at h5; cases h5
 |some nf=>
  rw[hn] at h5
  cases hs:subF nf 200 with
  |none=>simp only[hs] at h5; cases h5
  |some p=>
   obtain ⟨D0,acc0⟩:=p
   simp only[hs] at h5
   refine (c8h (by rw[q7_]; exact z1) z2 (a6T g z3) g bd h).mono ?_
   rintro r h' ⟨e,q3⟩
   simp only[CmpQ2,hn,hs] at q3
   obtain ⟨vv,rfl,D,acc,sN,sA,rfl,gN,gcc,ok,hle,hw,hsd⟩:=q3
   have hl:=a6P hs
   refine ⟨e,D,acc,sN,sA,rfl,ok,oM,gN,gcc,hsd ?_⟩
   intro s m hs hm
   simp only[List.all_eq_true,List.mem_range,beq_iff_eq] at h5
   exact h5 s hs m hm
def rdM (m:Nat)(st:Bool):Nd:=if st then .star (.set (2 ^ m)) else .plus (.set (2 ^ m))
theorem c9u {m:Nat}(h:m<5)(st:Bool):sdB (rdM m st)=true:=by
 have:m=0\/m=1\/m=2\/m=3\/m=4:=oM
 cases st<;>rcases this with rfl|rfl|rfl|rfl|rfl<;>decide +kernel
theorem rstr {m:Nat}(h:m<5):∃t u,slStr (.str ⟨#[119,98,99,102,116]⟩) (some (I (m:Int))) (some (I ((m:Int)+1)))=some t/\binV .add .scalar t (.str ⟨#[43]⟩)=some (.str (ofL (txt (rdM m false))))/\slStr (.str (ofL (txt (rdM m false)))) none (some (I 1))=some u/\binV .add .scalar u (.str ⟨#[42]⟩)=some (.str (ofL (txt (rdM m true)))):=by
 have:m=0\/m=1\/m=2\/m=3\/m=4:=oM
 refine ⟨.str (ofL (txt (.set (2 ^ m)))),.str (ofL (txt (.set (2 ^ m)))),?_,?_,?_,?_⟩<;>rcases this with rfl|rfl|rfl|rfl|rfl<;>kernel_rfl
set_option maxHeartbeats 2000000 in
theorem c9n {h0:Heap} {on od ox:Nat} {s sX sD sA sR sAr sU sDn:AV} {es:List E} {A:List Ar} {Up Dn:List (List Int)} {D:List (List Int)} {acc:List Bool} (no:NetOk (3:Nat) es) (co:COk es) (xv:IxV h0 (.agg [I 3,sX,sR,sAr,sU,sDn]) 3 es A Up Dn) (ix:IxC 3 es A Up Dn) (lD:D.length<=200) (ok:DOk D acc) (sd:SdyE D)
  (hE:Sl h0 4 s (es.map encE)) (hD:Sl h0 5 sD (D.map encR)) (hA:Sl h0 1 sA (acc.map encB)) (rn:h0[on]?=some (.cells ⟨[I 3,s],0,0,false⟩)) (rd:h0[od]?=some (.cells ⟨[sD,sA],0,0,false⟩)) (rx:h0[ox]?=some (.cells ⟨[I 3,sX,sR,sAr,sU,sDn],0,0,false⟩)) :
  ∀(d v:Nat) (h:Heap),v+d=3->Ext h0 h->WP (λp:Nat × Nat=>c6N p.1 p.2 (.ptr on 0 2 0) (.ptr od 0 2 0) (.ptr ox 0 6 0) (I v) h) λr h'=>r=.bool true:=by
 intro d
 induction d with
 |zero=>
  intro v h hv e
  refine WP.rnd (c7o · · ..) ?_
  obtain rfl:v=3:=oM
  have rd0:=e.get rd
  refine g0 ?_
  have hb4:WP (λi=>c6W i (.ptr od 0 2 0) h) λr h'=>r=.bool true:=by
   refine WP.congr (c7Q · ..) ?_
   refine g1 @rd0 ?_
   refine WP.call (c8Q ok (hD.ext e) (hA.ext e) sd) ?_
   rintro _ h1 ⟨rfl,e1⟩
   exact WP.ret rfl
  exact WP.lv hb4 λi j=>rfl
 |succ d ih=>
  intro v h hv e
  refine WP.rnd (c7o · · ..) ?_
  have rn0:=e.get rn
  have rd0:=e.get rd
  have hvN:v<3:=oM
  refine g2 @rn0 @rd0 ?_
  refine WP.call (a4K no co oM (hE.ext e) ok (hD.ext e) (hA.ext e) hvN) ?_
  rintro xcs h1 ⟨e1,c,lc,g1⟩
  have ee:=e.trans e1
  have rn1:=ee.get rn
  have rd1:=ee.get rd
  have rx1:=ee.get rx
  have hcl:=i0_ 3 D.length c acc
  have hcg:=j6_ (S:=D.length) (c:=c) (acc:=acc) hvN
  obtain ⟨B,hB⟩:∃B,bv c acc (v*D.length) D.length=B:=⟨_,rfl⟩
  have lw:=bv_lw ok no hvN hvN lc
  rw[hB] at lw hcg
  have hr6:rdNAt 6 (some (AObj.cells ⟨[I 3,sX,sR,sAr,sU,sDn],0,0,false⟩)) 0 6 0=some (.agg [I 3,sX,sR,sAr,sU,sDn]):=rfl
  refine g4 @rn1 @rd1 @rx1 @hr6 ?_
  refine WP.call (y4_ oM no co (xv.ext ee) ix ok (hD.ext ee) (hA.ext ee) oM hvN hvN) ?_
  rintro rr h6 ⟨e6,b,lw6,rq⟩
  obtain rfl:=lw.uniq lw6
  have rn6:=e6.get rn1
  have rd6:=e6.get rd1
  have bn6:=(List.getElem?_eq_some_iff.1 rn6).1
  have bd6:=(List.getElem?_eq_some_iff.1 rd6).1
  have hn:=λH eH=>ih (v+1) H oM ((ee.trans e6).trans eH)
  rcases rq with ⟨c0,rfl⟩|⟨c0,sl,ll,rfl,hgl,hll,ow,hu',hac,hc⟩
  ·refine g4 @a4_ @a5_ @rn6 @rd6 ?_
   obtain ⟨h7,hh7⟩:∃h7,h7=((h6++[AObj.cells ⟨[I 0,.nils],0,0,false⟩]).set h6.length (.cells ⟨[I 0,.nils],0,0,false⟩)):=⟨_,rfl⟩
   have e7:Ext h6 h7:=by rw[hh7]; exact eX
   have r7:h7[h6.length]?=some (.cells ⟨[I 0,.nils],0,0,false⟩):=by rw[hh7]; exact a0_ (by simp)
   have xc7:=g1.sl.ext (e6.trans e7)
   rw[<-hh7]
   have hneg:¬0<=B:=oM
   refine g8 xc7.idxG xc7.ld0 @hcl @encI.eq_1 @hcg (decide_eq_false hneg) @neq_b @r7 ?_
   exact hn h7 e7
  ·have hsl:=hgl.sl
   refine g6 @a4_ @a5_ hsl.one hsl.cells @rn6 @rd6 ?_
   obtain ⟨h7,hh7⟩:∃h7,h7=((h6++[AObj.cells ⟨[I 0,.nils],0,0,false⟩]).set h6.length (.cells ⟨[I B,sl],0,0,false⟩)):=⟨_,rfl⟩
   have e7:Ext h6 h7:=by rw[hh7]; exact eX
   have r7:h7[h6.length]?=some (.cells ⟨[I B,sl],0,0,false⟩):=by rw[hh7]; exact a0_ (by simp)
   have e07:=(ee.trans e6).trans e7
   have rn7:=e7.get rn6
   have rd7:=e7.get rd6
   have xc7:=g1.sl.ext (e6.trans e7)
   rw[<-hh7]
   refine g10 xc7.idxG xc7.ld0 @hcl @encI.eq_1 @hcg (decide_eq_true c0) @neq_b @r7 @rn7 @rd7 ?_
   refine WP.call (a7Z no co ok (hE.ext e07) (hD.ext e07) (hA.ext e07) (hsl.ext e7) hll hvN hvN ow hu' hc hac) ?_
   rintro _ h8 ⟨rfl,e8⟩
   refine g0 ?_
   exact hn h8 (e7.trans e8)
theorem c8G {on m:Nat}(hm:m<5)(no:NetOk (3:Nat) es)(co:COk es)(hE:Sl h 4 s (es.map encE))(rn:h[on]?=some (.cells ⟨[I 3,s],0,0,false⟩)) :
  WP (λi=>c6M i (.ptr on 0 2 0) (.str (ofL (txt (rdM m st)))) h) λr h'=>r=.bool true:=by
 refine WP.congr (c7R · ..) ?_
 refine WP.call (c9r (c9u hm st) h) ?_
 rintro _ h1 ⟨e1,D,acc,sD,sA,rfl,ok,lD,gN,gcc,sd⟩
 have o1:=gN.sl.one
 have o2:=gcc.sl.one
 have rn1:=e1.get rn
 refine g3 @a1_ @o1 @o2 ?_
 obtain ⟨h2,hh2⟩:∃h2,h2=(h1++[AObj.cells ⟨[.nils,.nils],0,0,false⟩]).set h1.length (AObj.cells ⟨[sD,sA],0,0,false⟩):=⟨_,rfl⟩
 have e2:Ext h1 h2:=by rw[hh2]; exact eX
 have rd:h2[h1.length]?=some (.cells ⟨[sD,sA],0,0,false⟩):=by rw[hh2]; exact t0'
 rw[<-hh2]
 have rn2:=e2.get rn1
 have e02:=e1.trans e2
 refine g1 @rn2 ?_
 refine WP.call (a4L (N:=3) oM no co (hE.ext e02)) ?_
 rintro x h3 ⟨e3,A,Up,Dn,xv,ix⟩
 obtain ⟨sE,sR,sAr,sU,sDn,us,ds,hx,hE2,hR,hAr,hU,hDn,lu,ldd,hUp,hDp⟩:=xv.ex
 have o1:=hE2.one
 have o2:=hAr.one
 have o3:=hU.one
 have o4:=hDn.one
 rw[hx]
 refine g5 @o1 @hR @o2 @o3 @o4 ?_
 obtain ⟨h4,hh4⟩:∃h4,h4=(h3++[AObj.cells ⟨[I 0,.nils,.nils,.nils,.nils,.nils],0,0,false⟩]).set h3.length (AObj.cells ⟨[I (3:Nat),sE,sR,sAr,sU,sDn],0,0,false⟩):=⟨_,rfl⟩
 have e4:Ext h3 h4:=by rw[hh4]; exact eX
 have rx4:h4[h3.length]?=some (.cells ⟨[I (3:Nat),sE,sR,sAr,sU,sDn],0,0,false⟩):=by rw[hh4]; exact a0_ (by simp)
 rw[<-hh4]
 have xv':IxV h3 (.agg [I (3:Nat),sE,sR,sAr,sU,sDn]) 3 es A Up Dn:=hx▸xv
 have e24:=e3.trans e4
 exact WP.ent (c9n no co (xv'.ext e4) ix lD ok sd (hE.ext (e02.trans e24)) (gN.sl.ext (e2.trans e24)) (gcc.sl.ext (e2.trans e24)) (e24.get rn2) (e24.get rd) rx4 3 0 h4 oM (Ext.refl _)) λi=>rfl
theorem c9z {on m:Nat}(hm:m<5)(no:NetOk (3:Nat) es)(co:COk es)(hE:Sl h 4 s (es.map encE))(rn:h[on]?=some (.cells ⟨[I 3,s],0,0,false⟩)) :
  WP (λi=>c6L i (I which) (I m) (.ptr on 0 2 0) h) λr h'=>r=.bool true:=by
 refine WP.congr (c7S · ..) ?_
 obtain ⟨t,u,q1,q2,q3,q4⟩:=rstr hm
 refine g2 @q1 @q2 ?_
 refine WP.call (h0_ oM (by unfold Fit; omega) _) ?_
 rintro _ _ ⟨rfl,rfl⟩
 have h0:=Int.emod_nonneg which (show (2:Int)≠0 by omega)
 by_cases q:which % (2:Int)=0
 ·rw[q]
  refine g2 @q3 @q4 ?_
  exact c8G hm no co hE rn
 ·refine g0 ?_
  exact c8G hm no co hE rn
theorem qrounds_spec :
  Tot tab c6H [I mode,I cost,I loop,.bool stay,I which] h λr _=>r=.bool true:=by
 refine WP.tot (c7Z · ..) ?_
 refine WP.call (a4h h) ?_
 rintro _ h1 ⟨rfl,e1⟩
 refine g0 ?_
 refine WP.call (h0_ oM (by unfold Fit; omega) _) ?_
 rintro _ _ ⟨rfl,rfl⟩
 obtain ⟨m,hm⟩:∃m:Nat,mode % (5:Int)=m:=⟨(mode % (5:Int)).toNat,by have:=Int.emod_nonneg mode (show (5:Int)≠0 by omega); omega⟩
 have hm5:m<5:=by have:=Int.emod_lt_of_pos mode (show (0:Int)<5 by omega); omega
 rw[hm]
 refine g0 ?_
 refine WP.call (h0_ oM (by unfold Fit; omega) _) ?_
 rintro _ _ ⟨rfl,rfl⟩
 obtain ⟨o,ho⟩:∃o:Nat,((m:Int)+1) % (5:Int)=o:=⟨(((m:Int)+1) % (5:Int)).toNat,by have:=Int.emod_nonneg ((m:Int)+1) (show (5:Int)≠0 by omega); omega⟩
 have ho5:o<5:=by have:=Int.emod_lt_of_pos ((m:Int)+1) (show (0:Int)<5 by omega); omega
 rw[ho]
 refine WP.call (h0_ oM (by unfold Fit; omega) _) ?_
 rintro _ _ ⟨rfl,rfl⟩
 obtain ⟨c1,hc1⟩:∃c:Nat,cost % (9:Int)=c:=⟨(cost % (9:Int)).toNat,by have:=Int.emod_nonneg cost (show (9:Int)≠0 by omega); omega⟩
 have hc1':c1<9:=by have:=Int.emod_lt_of_pos cost (show (0:Int)<9 by omega); omega
 rw[hc1]
 obtain ⟨q,hq⟩:∃q,q=IntKind.i64.wrap (cost.tdiv 9):=⟨_,rfl⟩
 refine g0 ?_
 rw[<-hq]
 refine WP.call (h0_ oM (by unfold Fit; omega) _) ?_
 rintro _ _ ⟨rfl,rfl⟩
 obtain ⟨c2,hc2⟩:∃c:Nat,q % (9:Int)=c:=⟨(q % (9:Int)).toNat,by have:=Int.emod_nonneg q (show (9:Int)≠0 by omega); omega⟩
 have hc2':c2<9:=by have:=Int.emod_lt_of_pos q (show (0:Int)<9 by omega); omega
 rw[hc2]
 refine g0 ?_
 refine WP.call (h0_ oM (by unfold Fit; omega) _) ?_
 rintro _ _ ⟨rfl,rfl⟩
 obtain ⟨c3,hc3⟩:∃c:Nat,loop % (9:Int)=c:=⟨(loop % (9:Int)).toNat,by have:=Int.emod_nonneg loop (show (9:Int)≠0 by omega); omega⟩
 have hc3':c3<9:=by have:=Int.emod_lt_of_pos loop (show (0:Int)<9 by omega); omega
 rw[hc3]
 refine g0 ?_
 have hl0:=Int.emod_nonneg loop (show (2:Int)≠0 by omega)
 have hl1:=Int.emod_lt_of_pos loop (show (0:Int)<2 by omega)
 obtain ⟨l,hl⟩:∃l:Nat,loop % (2:Int)=l:=⟨(loop % (2:Int)).toNat,oM⟩
 obtain ⟨es,hes⟩:∃es:List E,es=[⟨0,1,m,c1⟩,⟨1,0,m,c2⟩,⟨1,1,m,c3⟩]:=⟨_,rfl⟩
 obtain ⟨h2,hh2⟩:∃h2,h2=(h1++[AObj.cells ⟨[I 0,I 1,I m,I c1,I 1,I 0,I m,I c2,I 1,I 1,I m,I c3],0,0,false⟩]++[AObj.cells ⟨[I 0,.nils],0,0,false⟩]).set (h1.length+1) (AObj.cells ⟨[I 3,.sl h1.length 0 3 4 none 0],0,0,false⟩):=⟨_,rfl⟩
 have l2:h2.length=h1.length+2:=by rw[hh2]; simp
 have rn:h2[h1.length+1]?=some (.cells ⟨[I 3,.sl h1.length 0 3 4 none 0],0,0,false⟩):=by rw[hh2]; exact a0_ (by simp)
 have gE:Gr h1.length (h1.length+1) h2 4 (.sl h1.length 0 3 4 none 0) (es.map encE):=by
  refine .inr ⟨h1.length,0,0,_,Nat.le_refl _,oM,by rw[hes]; rfl,by rw[hh2,List.getElem?_set_ne oM,m2_ (by simp),r8_ (by simp)]; simp; rfl,Nat.le_refl _,by rw[hes]; rfl,by simp[hes,encE]⟩
 have no:NetOk (3:Nat) es:=⟨oM,oM,by rw[hes]; simp,λe he=>by
  rw[hes] at he
  simp only[List.mem_cons,List.not_mem_nil,or_false] at he
  rcases he with rfl|rfl|rfl<;>refine ⟨?_,?_,?_,?_,?_,?_⟩<;>dsimp only<;>omega⟩
 have co:COk es:=⟨λe he=>by
  rw[hes] at he
  simp only[List.mem_cons,List.not_mem_nil,or_false] at he
  rcases he with rfl|rfl|rfl<;>dsimp only<;>omega⟩
 rw[<-hh2]
 cases stay with
 |false=>
  refine g0 ?_
  exact c9z hm5 no co gE.sl rn
 |true=>
  refine g0 ?_
  refine WP.call (h0_ oM (by unfold Fit; omega) _) ?_
  rintro _ _ ⟨rfl,rfl⟩
  rw[hl]
  have hx:=Gr.lit (h:=h2) (sz:=4) (v:=encE ⟨l,2,o,1⟩) rfl
  obtain ⟨s',h3,o',k1,k2,k3,k4⟩:=(gE.ext (Ext.push h2 [AObj.cells ⟨encE ⟨l,2,o,1⟩,0,0,false⟩])).appP (bytes:=32) (λ_=>by simp; omega) hx.sl oM oM (by rw[hes]; simp)
  have rn3:h3[h1.length+1]?=some (.cells ⟨[I 3,.sl h1.length 0 3 4 none 0],0,0,false⟩):=by
   rw[k4.get (λz=>oM) (by simp; omega)]; exact (Ext.push h2 _).get rn
  have l3:=k4.len
  simp only[List.length_append,List.length_cons,List.length_nil] at l3
  have os:=k2.sl.one
  have cs:=k2.sl.cells
  simp only[a3_,encE] at k1
  refine g5 @rn @k1 @rn3 @os @cs ?_
  have hne:s'≠.nils:=k2.nnil (by simp)
  have ho:=k3 hne
  simp only[List.length_append,List.length_cons,List.length_nil] at ho
  replace ho:o'≠h1.length+1:=oM
  obtain ⟨h4,hh4⟩:∃h4,h4=h3.set (h1.length+1) (AObj.cells ⟨[I 3,s'],0,0,false⟩):=⟨_,rfl⟩
  have rn4:h4[h1.length+1]?=some (.cells ⟨[I 3,s'],0,0,false⟩):=by rw[hh4]; exact a0_ oM
  have gE4:Sl h4 4 s' ((es++[(⟨l,2,o,1⟩:E)]).map encE):=by
   rw[hh4,List.map_append]
   exact (k2.set (o:=h1.length+1) oM _).sl
  rw[<-hh4]
  refine c9z (es:=es++[(⟨l,2,o,1⟩:E)]) hm5 ⟨oM,oM,by rw[hes]; simp,λe he=>?_⟩ (COk.mk λe he=>?_) gE4 rn4
  ·rcases List.mem_append.1 he with he|he
   ·exact no.edge e he
   ·rw[List.mem_singleton] at he
    subst he
    refine ⟨?_,?_,?_,?_,?_,?_⟩<;>dsimp only<;>omega
  ·rcases List.mem_append.1 he with he|he
   ·exact co.c e he
   ·rw[List.mem_singleton] at he
    subst he
    refine ⟨?_,?_⟩<;>dsimp only<;>omega
end Go.Gm.AZ
namespace Go.Gm
open Go.RowKit
def roObj (cs:List AV):AObj:=.cells ⟨cs,0,0,true⟩
def initH (L:List (List AV × Option Loc)):Heap:=L.map λp=>roObj p.1
def initR (L:List (List AV × Option Loc)):Ren:=⟨λo g=>if g=0 then (L[o]?).bind (·.2) else none,λ_=>none⟩
def EntOk (W:World)(φ:Ren)(p:List AV × Option Loc):Prop:=∀l,p.2=some l->∃C e fr,W.heap[l.b]?=some (.cells C e fr)/\C.size=l.N/\l.n=p.1.length/\CellsAt φ p.1 l C
theorem initS {L:List (List AV × Option Loc)}(hL:∀p∈L,EntOk W (initR L) p) :
  S W.heap.size W (initR L) (initH L) W:=by
 have got:∀o g l,(initR L).c o g=some l->g=0/\∃cs,L[o]?=some (cs,some l):=λo g l h=>by
  simp only[initR] at h
  split at h
  ·rename_i hg
   cases hq:L[o]? with
   |none=>rw[hq] at h; cases h
   |some p=>rw[hq] at h; exact ⟨hg,p.1,by rw[<-(show p.2=some l from h)]⟩
  ·cases h
 have ro:∀o g l,(initR L).c o g=some l->isRo (initH L) o=true:=λo g l h=>by
  obtain ⟨_,cs,hq⟩:=got o g l h
  simp[isRo,initH,hq,roObj]
 refine ⟨⟨λo g l h=>?_,λo b h=>(by cases h),λo g l o' g' l' h h' _=>.inr ⟨ro o g l h,ro o' g' l' h'⟩,λo b o' b' h=>(by cases h)⟩,Below.refl _ _,Nat.le_refl _⟩
 obtain ⟨hg,cs,hq⟩:=got o g l h
 subst hg
 obtain ⟨C,e,fr,h1,h2,h3,h4⟩:=hL _ (List.mem_of_getElem? hq) l rfl
 exact ⟨⟨cs,0,0,true⟩,by simp[initH,hq,roObj],Nat.le_refl _,Nat.le_refl _,⟨C,e,fr,h1,h2,λq=>(by cases q),λ_=>h4⟩,λ_=>h3⟩
theorem entry (hv:Valid P T){L:List (List AV × Option Loc)}(hL:∀p∈L,EntOk W (initR L) p)(ha:VRs (initR L) args args')(ht:Tot T f args (initH L) Q)(hq:∀v h,Q v h->v=.bool true) :
  Calls P f args'.toArray W λe w'=>e=.returned (.bool true)/\Below W.heap.size W w':=by
 obtain ⟨v,h',h1,N,hN⟩:=ht
 have hv1:=hq v h' h1
 subst hv1
 obtain ⟨_,h2⟩:=fnSim (B:=W.heap.size) (w0:=W) hv N f args (initH L) _ _ (hN N (Nat.le_refl N))
 refine (h2 _ W args' ha (initS hL)).mono ?_
 rintro e w' ⟨ψ,v',rfl,k1,k2,k3⟩
 cases k1
 exact ⟨rfl,k2.below⟩
end Go.Gm
