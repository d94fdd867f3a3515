/- A part of the proof (GmAZql, GmAZqm, GmAZqn, GmAZqo, GmAZqp, GmAZqs, GmAZqt, GmAZL2, GmAZqy, GmRw, GmAZja, GmAZka, GmAZkb). -/
import Derived.Test.YtldnkafmanalmaaGreatQueryManyP11
set_option autoImplicit true
set_option relaxedAutoImplicit true
set_option linter.unusedVariables false
set_option linter.unusedSimpArgs false
set_option linter.unusedSectionVars false
namespace Go.Gm.AZ
open Go Go.Gm
section
variable {b0:Heap} {A:List Ar} {LL N:Nat} {sE sR sA sU sDn:AV} {ox ot:Nat} {ks:List Nat} {cost:Int}
theorem qr_l3 (hLL:LL<=1000)(hA:Sl b0 7 sA (A.map encA))(hlA:A.length<=100000000)(hE1:sE.one=true)(hR1:sR.one=true)(hU1:sU.one=true)(hD1:sDn.one=true)(rx:b0[ox]?=some (.cells ⟨[I N,sE,sR,sA,sU,sDn],0,0,false⟩))(rt:b0[ot]?=some (.cells ⟨[I 0,.nils],0,0,false⟩))(hkl:ks.length<=1000000){ll:List Nat}(hll:ll.length<=10000000){arcs:AV}{oa:Nat} :
  ∀(d i:Nat) (h:Heap) (se:AV) (oe:Nat) (l1 l2:List Nat),i+d=ks.length->Ext b0 h->h[b0.length]?=some (.cells ⟨[I cost,se],0,0,false⟩)->Gr oe (oe+1) h 1 se (l1.map natE)->(se≠.nils->b0.length<oe/\oe<h.length/\(arcs≠.nils->oe≠oa))->
   Gr oa (oa+1) h 1 arcs (ks.map natE)->(arcs≠.nils->b0.length<oa/\oa<h.length)->UnpL A LL (ks.drop i) l2->ll=l1++l2->
   WP (λp:Nat × Nat=>a4r p.1 p.2 (.ptr ox 0 6 0) (.ptr ot 0 2 0) (.ptr b0.length 0 2 0) arcs (I ks.length) (I i) h) λr h'=>(∃sl,r=.tup [.agg [I cost,sl],.bool true]/\Gr b0.length h'.length h' 1 sl (ll.map natE))/\h'.length>=b0.length/\∀o,o<b0.length->o≠ot->h'[o]?=b0[o]?:=by
 have hox:ox<b0.length:=(List.getElem?_eq_some_iff.1 rx).1
 have hot:ot<b0.length:=(List.getElem?_eq_some_iff.1 rt).1
 intro d
 induction d with
 |zero=>
  intro i h se oe l1 l2 hi e ro ge pe ga pa hu hl
  refine WP.rnd (a7V · · ..) ?_
  obtain rfl:i=ks.length:=oM
  rw[List.drop_length] at hu
  cases hu
  rw[List.append_nil] at hl
  subst hl
  refine g0 ?_
  refine WP.lv ?_ λi j=>rfl
  refine WP.congr (b2L · ..) ?_
  refine g1 @ro ?_
  refine WP.call (a8a ge.sl (by simp; omega)) ?_
  rintro r h2 ⟨e2,g2⟩
  have ro2:=e2.get ro
  have hoo:b0.length<h2.length:=(List.getElem?_eq_some_iff.1 ro2).1
  have rt2:=(e.trans e2).get rt
  have c1:=g2.sl.cells
  have o1:=g2.sl.one
  have hol:b0.length<h.length:=(List.getElem?_eq_some_iff.1 ro).1
  refine g4 @ro2 @rt2 @c1 @o1 ?_
  refine WP.ret ⟨⟨r,rfl,?_⟩,by simp; omega,λo ho hne=>?_⟩
  ·have f:FrS (λo=>o=b0.length\/o=ot) h2 ((h2.set b0.length (.cells ⟨[I cost,r],0,0,false⟩)).set ot (.cells ⟨[I cost,r],0,0,false⟩)):=((FrS.set1 ..).mono λo _ z=>.inl z).trans ((FrS.set1 ..).mono λo _ z=>.inr z)
   exact (g2.frs f λo z1 z2 z3=>oM).mono (by have:=e.len; omega) (by simp)
  ·rw[a9_ oM,a9_ oM]
   have e3:=e.trans e2
   obtain ⟨y,hy⟩:∃y,b0[o]?=some y:=⟨b0[o],List.getElem?_eq_getElem ho⟩
   rw[hy,e3.get hy]
 |succ d ih=>
  intro i h se oe l1 l2 hi e ro ge pe ga pa hu hl
  refine WP.rnd (a7V · · ..) ?_
  have hik:(i:Int)<ks.length:=oM
  obtain ⟨k,hk⟩:∃k:Nat,ks[i]?=some k:=⟨ks[i],List.getElem?_eq_getElem oM⟩
  have hgk:gi ks (i:Int)=k:=by
   have:=c1_ (xs:=ks) (i:=(i:Int)) oM hik
   rw[Int.toNat_natCast,hk] at this
   injection this with this
   exact this.symm
  have hdr:ks.drop i=k::ks.drop (i+1):=by
   rw[List.drop_eq_getElem_cons oM]
   congr 1
   have:=List.getElem?_eq_getElem (l:=ks) (i:=i) oM
   rw[hk] at this
   injection this with this
   exact this.symm
  rw[hdr] at hu
  obtain ⟨l,ls,hlt,hun,hlen,hrest,hl2⟩:∃l ls,k<A.length/\Unp A k l/\l.length<=LL/\UnpL A LL (ks.drop (i+1)) ls/\l2=l++ls:=by
   cases hu with
   |cons a1 a2 a3 a4=>exact ⟨_,_,a1,a2,a3,a4,rfl⟩
  subst hl2
  have gas:=ga.sl
  have ldk:=gas.ld0 (H:=h) (i:=(i:Int)) (Ext.refl _) oM hik oM
  rw[hgk] at ldk
  replace ldk:Gm.ld1 h (elP 1 arcs (i:Int))=some (I (k:Int)):=ldk
  have idk:=gas.idxG (i:=(i:Int)) oM hik
  have rx':=e.get rx
  have hr6:rdNAt 6 (some (AObj.cells ⟨[I N,sE,sR,sA,sU,sDn],0,0,false⟩)) 0 6 0=some (.agg [I N,sE,sR,sA,sU,sDn]):=rfl
  refine g5 @idk @ldk @ro @rx' @hr6 ?_
  refine WP.call (b7E hlA (hA.ext e) hE1 hR1 hU1 hD1 hun oM) ?_
  rintro ru h2 ⟨e2,g2⟩
  have ro2:=e2.get ro
  have hoo:b0.length<h.length:=(List.getElem?_eq_some_iff.1 ro).1
  have hlen2:=congrArg List.length hl
  simp only[List.length_append] at hlen2
  obtain ⟨s',h3,oe',q1,q2,q3,q4⟩:=(ge.ext e2).appP (λz=>by have:=(pe z).2.1; have:=e2.len; omega) g2.sl oM (bytes:=8) oM (by simp; omega)
  have ro3:h3[b0.length]?=some (.cells ⟨[I cost,se],0,0,false⟩):=by rw[q4.get (λz=>by have:=pe z.1; omega) (by have:=e2.len; omega)]; exact ro2
  have c1:=q2.sl.cells
  have o1:=q2.sl.one
  have l3:=q4.len
  have l2':=e2.len
  refine g5 @ro2 @q1 @ro3 @c1 @o1 ?_
  obtain ⟨h4,hh4⟩:∃h4,h4=h3.set b0.length (.cells ⟨[I cost,s'],0,0,false⟩):=⟨_,rfl⟩
  have f4:FrS (λo=>o=b0.length) h3 h4:=by rw[hh4]; exact FrS.set1 ..
  have ro4:h4[b0.length]?=some (.cells ⟨[I cost,s'],0,0,false⟩):=by rw[hh4]; exact a0_ oM
  have l4:=f4.len
  rw[<-hh4]
  have q3':s'≠.nils->b0.length<oe'/\oe'<h4.length/\(arcs≠.nils->oe'≠oa):=λz=>by
   have q5:=(q3 z).2
   rcases (q3 z).1 with ⟨z1,z2⟩|z1
   ·have:=pe z2; exact ⟨oM,oM,λz3=>by have:=this.2.2 z3; omega⟩
   ·exact ⟨oM,oM,λz3=>by have:=pa z3; omega⟩
  refine ih (i+1) h4 s' oe' (l1++l) ls oM ?_ ro4 ((q2.keep f4 λz=>by have:=q3' z; omega).cong (by simp)) q3' (((ga.ext e2).keep q4 λz z2=>(pe z2.1).2.2 z z2.2.symm).keep f4 λz=>by have:=pa z; omega) (λz=>by have:=pa z; omega) hrest (by rw[hl,List.append_assoc])
  exact (f4.ext (q4.ext (e.trans e2) λo o1 o2=>by have:=pe o2.1; omega) λo o1 o2=>oM)
end
end Go.Gm.AZ
namespace Go.Gm.AZ
open Go Go.Gm
def RtQ (es:List E)(D:List (List Int))(acc:List Bool)(v u lo:Nat)(r:AV)(h':Heap):Prop:=
 ∃b,LW es v u (λw=>gi acc (goS D 0 w)=true) b/\((b<0/\r=.tup [.agg [I 0,.nils],.bool false])\/
  (0<=b/\∃sl ll,r=.tup [.agg [I b,sl],.bool true]/\Gr lo h'.length h' 1 sl ((ll.map λ(e:Nat)=>(e:Int)).map encI)/\ll.length<=1000000/\OkW es v ll/\atV es v ll=u/\gi acc (atS es D 0 ll)=true/\atC es ll=b))
theorem b3w (l:List Nat):l.map natE=(l.map λ(e:Nat)=>(e:Int)).map encI:=by rw[List.map_map]; rfl
section
variable {h:Heap} {N:Nat} {es:List E} {A:List Ar} {Up Dn:List (List Int)} {D:List (List Int)} {acc:List Bool} {x sD sAc:AV}
theorem y4_ (hN:N<=100)(no:NetOk N es)(co:COk es)(xv:IxV h x N es A Up Dn)(ix:IxC N es A Up Dn)(ok:DOk D acc)(hD:Sl h 5 sD (D.map encR))(hA:Sl h 1 sAc (acc.map encB))(hn2:2*(N*D.length)*(N+1)<=1000000){v u:Nat}(hv:v<N)(hu:u<N) :
  Tot tab d4_ [x,.agg [sD,sAc],I v,I u] h λr h'=>Ext h h'/\RtQ es D acc v u h.length r h':=by
 refine WP.tot (b4E · ..) ?_
 have hn3:2*(N*D.length)<=1000000:=Nat.le_trans (Nat.le_mul_of_pos_right _ oM) hn2
 obtain ⟨sE,sR,sA,sU,sDn,us,ds,hx,hE,hR,hAr,hU,hDn,lu,ldd,hUp,hDp⟩:=xv.ex
 have o1:=hE.one
 have o2:=hAr.one
 have o3:=hU.one
 have o4:=hDn.one
 have o5:=hD.one
 have o6:=hA.one
 have hz:I 0=I 0:=rfl
 try simp only[hz]
 obtain ⟨h1,hh1⟩:∃h1,h1=((h++[AObj.cells ⟨[I N,sE,sR,sA,sU,sDn],0,0,false⟩])++[AObj.cells ⟨[sD,sAc],0,0,false⟩])++[AObj.cells ⟨[I 0,.nils],0,0,false⟩]:=⟨_,rfl⟩
 have e1:Ext h h1:=by rw[hh1]; exact ((Ext.push _ _).app _).app _
 have l1:h1.length=h.length+3:=by rw[hh1]; simp
 have rx:h1[h.length]?=some (.cells ⟨[I N,sE,sR,sA,sU,sDn],0,0,false⟩):=by rw[hh1,m2_ (by simp),m2_ (by simp)]; simp
 have rd:h1[h.length+1]?=some (.cells ⟨[sD,sAc],0,0,false⟩):=by rw[hh1,m2_ (by simp),r8_ (by simp)]; simp
 have rt:h1[h.length+1+1]?=some (.cells ⟨[I 0,.nils],0,0,false⟩):=by rw[hh1,r8_ (by simp)]; simp
 have hr2:∀a b c d e f:AV,rdNAt 2 (some (AObj.cells ⟨[a,b,c,d,e,f],0,0,false⟩)) 0 6 0=some (.agg [a,b]):=λ_ _ _ _ _ _=>rfl
 have hr6:rdNAt 6 (some (AObj.cells ⟨[I N,sE,sR,sA,sU,sDn],0,0,false⟩)) 0 6 0=some (.agg [I N,sE,sR,sA,sU,sDn]):=rfl
 rw[hx]
 refine g7 @o1 @hR @o2 @o3 @o4 @o5 @o6 ?_
 rw[<-hh1]
 refine WP.call (b3a ok (hD.ext e1) (hA.ext e1)) ?_
 rintro _ h2 ⟨e2,rfl⟩
 have e12:=e1.trans e2
 have rx2:=e2.get rx
 have rd2:=e2.get rd
 have rt2:=e2.get rt
 cases hst:stdyB D with
 |false=>
  refine g3 @rx2 @rd2 @hr2 ?_
  refine WP.call (a8b no co oM (hE.ext e12) ok (hD.ext e12) (hA.ext e12) hv hu) ?_
  rintro r h3 ⟨e3,c,lc,rq⟩
  have rt3:=e3.get rt2
  have lw:=bv_lw ok no hv hu lc
  have lt3:h.length+1+1<h3.length:=(List.getElem?_eq_some_iff.1 rt3).1
  have e13:=e12.trans e3
  rcases rq with ⟨c0,rfl⟩|⟨c0,q,l,sl,q1,q2,q3,q4,q5,rfl,q7⟩
  ·refine g3 @a4_ @a5_ @rt3 ?_
   refine WP.ret ⟨eX,_,lw,.inl ⟨c0,rfl⟩⟩
  ·obtain ⟨a1,a2,a3,a4,a5⟩:=b4x ok no hv q4
   obtain ⟨d1,d2⟩:=a8u (v:=u) (S:=D.length) (s:=q) q1
   rw[d1] at a2
   rw[d2] at a3
   have os:=q7.sl.one
   have cs:=q7.sl.cells
   refine g5 @a4_ @a5_ @rt3 @os @cs ?_
   refine WP.ret ⟨eX,_,lw,.inr ⟨c0,sl,l,rfl,?_,q5,a1,a2,by rw[a3]; exact q2,a4⟩⟩
   exact ((q7.set (by have:=e2.len; omega) _).mono (by have:=e2.len; omega) (by simp))
 |true=>
  have sd:=a9N.1 hst
  have xv2:IxV h2 (.agg [I N,sE,sR,sA,sU,sDn]) N es A Up Dn:=hx▸xv.ext e12
  refine g3 @rx2 @rd2 @hr6 ?_
  refine WP.call (b6F hN xv2 ix.toIxS (hD.ext e12) (hA.ext e12)) ?_
  rintro wp h3 ⟨e3,wv⟩
  refine WP.call (b5e wv ix.toIxS ok hN (n:=2*(N*D.length)) rfl hn3 hv) ?_
  rintro _ h4 ⟨e4,os,q,sc,se,sf,oc,oe,ov,rfl,id2,k2,rk2,cs2,ds2,fs2,M2,sw,di,hM,hk⟩
  refine WP.call (b4f (wv.ext e4) ok hN rfl hn3 sw hu) ?_
  rintro _ h5 ⟨e5,out,rfl,qb⟩
  have hg:=b3v ix.toIxS ok
  have hvS:v*D.length<N*D.length:=by
   have:=spotN (N:=N) (v:=v) (S:=D.length) (s:=0) hv ok.l0
   simpa using this
  have lc:=di.lc hg (λy hy=>by have:y=2*(v*D.length):=hy; omega) hM
  have lw:=q_lw no co ix ok sd hv hu lc qb
  have e15:=((e12.trans e3).trans e4).trans e5
  have rx5:=((e3.trans e4).trans e5).get rx2
  have rt5:=((e3.trans e4).trans e5).get rt2
  have lt5:h.length+1+1<h5.length:=(List.getElem?_eq_some_iff.1 rt5).1
  by_cases o0:out<0
  ·rw[if_pos o0] at lw
   refine g1 @rt5 ?_
   refine WP.ret ⟨eX,_,lw,.inl ⟨oM,rfl⟩⟩
  ·rw[if_neg o0] at lw
   obtain ⟨y,hy⟩:∃y:Nat,out=y:=⟨out.toNat,oM⟩
   subst hy
   rw[Int.toNat_natCast] at lw
   have sw5:=sw.ext e5
   have ro5:=sw5.row
   rcases qb with ⟨qb,_⟩|⟨y',qy,qa,qc,_⟩
   ·omega
   obtain rfl:y=y':=oM
   have hyr:y<2*(N*D.length)/\((y / 2 / D.length:Nat):Int)=u/\gi acc ((y / 2 % D.length:Nat):Int)=true:=by
    obtain ⟨s,s1,s2,bb,hs⟩:=qa
    have la:=ok.la
    have h1:=a4g (N:=N) (S:=D.length) (v:=(u:Int)) (s:=(s:Int)) oM oM oM oM bb
    obtain ⟨_,e2,e3⟩:=a8y (S:=D.length) (v:=(u:Int)) (s:=(s:Int)) oM oM oM bb
    rw[<-hs] at e2 e3
    exact ⟨oM,e2,by rw[e3]; exact s2⟩
   have gcs:=sw5.gc.sl
   have idy:=gcs.idxG (i:=(y:Int)) oM (by rw[sw5.lc]; omega)
   have ldy:=gcs.ld0 (H:=h5) (i:=(y:Int)) (Ext.refl _) oM (by rw[sw5.lc]; omega) oM
   obtain ⟨cost,hcost⟩:∃cost,gf cs2 y=cost:=⟨_,rfl⟩
   replace ldy:Gm.ld1 h5 (elP 1 sc (y:Int))=some (I cost):=by rw[<-hcost]; exact ldy
   obtain ⟨h6,hh6⟩:∃h6,h6=(h5++[AObj.cells ⟨[I 0,.nils],0,0,false⟩]).set h5.length (.cells ⟨[I cost,.nils],0,0,false⟩):=⟨_,rfl⟩
   have e6:Ext h5 h6:=by rw[hh6]; exact eX
   have l6:h6.length=h5.length+1:=by rw[hh6]; simp
   have ro6:h6[h5.length]?=some (.cells ⟨[I cost,.nils],0,0,false⟩):=by rw[hh6]; exact a0_ (by simp)
   refine g3 @ro5 @idy @ldy ?_
   rw[<-hh6]
   have hun:=m1_ (2*(N*D.length)) (gf cs2)
   have hrk:=di.rk y hyr.1 qc
   rw[hcost] at qc lw
   refine WP.ent (qr_l1 (x4:=.ptr h.length 0 6 0) (t8:=.ptr (h.length+1+1) 0 2 0) (out12:=.ptr h5.length 0 2 0) hn3 (sw5.ext e6) di oM (x0:=y) (λx' ks h7 arcs oa hstx hxn hch hkl e7 ga pa=>?_) (2*(N*D.length)+1) y h6 .nils 0 [] 0 oM (by simp) hyr.1 oM (Ext.refl _) (Gr.nil ..) (λz=>absurd rfl z) .nil oM) λi=>rfl
   have hx':x'=2*(v*D.length):=hstx
   have hx2:x' / 2=v*D.length:=oM
   obtain ⟨ll,u1,u2,u3,u4,u5⟩:=c0o no ix.toIxS ok sd hch oM
   rw[hx2,Nat.mul_div_cancel _ ok.l0] at u2 u3
   rw[hx2,Nat.mul_mod_left] at u4
   rw[hcost] at u5
   have hlll:=u1.len
   have hll:ll.length<=1000000:=by
    have:ks.length*(N+1)<=2*(N*D.length)*(N+1):=Nat.mul_le_mul_right _ hkl
    omega
   refine WP.congr (b2M · ..) ?_
   obtain ⟨lo,ga',hlo⟩:∃lo,Gr lo (lo+1) h7 1 arcs ((ks.reverse.map λ(e:Nat)=>(e:Int)).map encI)/\h6.length<=lo:=by
    by_cases q:arcs=.nils
    ·subst q
     have hks:ks=[]:=by simpa using ga.isNil
     subst hks
     exact ⟨h6.length,Gr.nil ..,Nat.le_refl _⟩
    ·exact ⟨oa,ga.cong (b3w _),(pa q).1⟩
   refine WP.call (b5U (by simp; omega) ga') ?_
   rintro _ h8 ⟨rfl,f8,g8⟩
   have e68:Ext h6 h8:=f8.ext e7 hlo
   obtain ⟨oa',pa',g8'⟩:=(g8.cong (ys:=ks.map natE) (by rw[<-List.map_reverse,List.reverse_reverse,b3w])).point
   have lna:lenS arcs=some (I ks.length):=by rw[g8'.sl.lenG]
   have e58:=e6.trans e68
   refine g1 @lna ?_
   have hfin:=qr_l3 (LL:=N+1) oM (hAr.ext e15) (by have:=ix.la; omega) o1 hR o3 o4 rx5 rt5 (ks:=ks) oM (ll:=ll) oM (cost:=cost) ks.length 0 h8 .nils 0 [] ll oM e58 (e68.get ro6) (Gr.nil ..) (λz=>absurd rfl z) g8' (λz=>by have:=pa' z; omega) (by rw[List.drop_zero]; exact u1) rfl
   refine WP.ent (hfin.mono λr h9 ⟨⟨sl,r1,r2⟩,r3,r4⟩=>⟨?_,cost,lw,.inr ⟨oM,sl,ll,r1,by rw[<-b3w]; exact r2.mono (by have:=e15.len; omega) (Nat.le_refl _),hll,u2,u3.trans hyr.2.1,?_,u5⟩⟩) λi=>rfl
   ·rw[a3i]
    refine ⟨by have:=e15.len; omega,λo ho=>?_⟩
    rw[r4 o (by have:=e15.len; omega) oM]
    obtain ⟨z,hz'⟩:∃z,h[o]?=some z:=⟨h[o],List.getElem?_eq_getElem ho⟩
    rw[hz',e15.get hz']
   ·have h0:((0:Nat):Int)=0:=rfl
    rw[h0] at u4
    rw[u4]; exact hyr.2.2
end
end Go.Gm.AZ
namespace Go.Gm.AZ
open Go Go.Gm
section
variable {N LL:Nat} {es:List E} {A:List Ar} {Up Dn:List (List Int)} {D:List (List Int)} {acc:List Bool} {sD sAc:AV}
def ManyQ (es:List E)(D:List (List Int))(acc:List Bool)(v:Nat)(ts bs:List Int):Prop:=∀i:Nat,i<bs.length->LW es v (gi ts i) (λw=>gi acc (goS D 0 w)=true) (gi bs i)
theorem ManyQ.snoc (m:ManyQ es D acc v ts bs)(h:LW es v (gi ts bs.length) (λw=>gi acc (goS D 0 w)=true) b):ManyQ es D acc v ts (bs++[b]):=by
 intro i hi
 rw[List.length_append,List.length_singleton] at hi
 by_cases q:i<bs.length
 ·rw[a3h oM oM]; exact m i q
 ·obtain rfl:i=bs.length:=oM
  rw[a6R]; exact h
theorem app1I {bs:List Int}(g:Gr oc (oc+1) h 1 out (bs.map encI))(ho:out≠.nils->oc<h.length)(hl:bs.length<=1000000000)(b:Int) :
  ∃s' h' o',apnd 1 8 out (.sl h.length 0 1 1 none 0) (h++[AObj.cells ⟨[I b],0,0,false⟩])=some (s',h')/\Gr o' (o'+1) h' 1 s' ((bs++[b]).map encI)/\(s'≠.nils->((o'=oc/\out≠.nils)\/h.length<=o')/\o'<h'.length)/\FrS (λp=>out≠.nils/\p=oc) h h':=by
 have b0:=Gr.lit (h:=h) (sz:=1) (v:=[I b]) rfl
 rw[a3_] at b0
 have e1:Ext h (h++[AObj.cells ⟨[I b],0,0,false⟩]):=Ext.push _ _
 obtain ⟨s',h',o',q1,q2,q3,q4⟩:=(g.ext e1).appP (λz=>by have:=ho z; simp; omega) b0.sl oM (bytes:=8) oM (by simp; omega)
 refine ⟨s',h',o',q1,q2.cong (by simp[encI]),λz=>⟨?_,(q3 z).2⟩,(FrS.ofExt e1).trans q4⟩
 rcases (q3 z).1 with h1|h1
 ·exact .inl h1
 ·right; simp at h1; omega
theorem c3H {oo la ha v:Nat}{ts:List Int}(eb:Ext hb b1)(hoo:hb.length<=oo)(hT:Sl hb 1 tA (ts.map encI))(hA:Gr la ha b1 1 all ((costL N D.length c acc).map encI))(hla:oo<la)(hha:ha<=b1.length)(ht:∀t∈ts,0<=t/\t<N)(htl:ts.length<=1000000)(hlw:∀u:Nat,u<N->LW es v u (λw=>gi acc (goS D 0 w)=true) (bv c acc (u*D.length) D.length)) :
  ∀(d i:Nat) (h:Heap) (out:AV) (oc:Nat) (bs:List Int),i+d=ts.length->FrS (λo=>o=oo\/b1.length<=o) b1 h->Gr oc (oc+1) h 1 out (bs.map encI)->(out≠.nils->(oc=oo\/b1.length<=oc)/\oc<h.length)->bs.length=i->ManyQ es D acc v ts bs->
   WP (λp:Nat × Nat=>a4X p.1 p.2 out all tA (I ts.length) (I i) h) λr h'=>Ext hb h'/\∃bs:List Int,bs.length=ts.length/\Sl h' 1 r (bs.map encI)/\ManyQ es D acc v ts bs:=by
 have ebl:=eb.len
 intro d
 induction d with
 |zero=>
  intro i h out oc bs hi f g po hbl m
  refine WP.rnd (a8Z · · ..) ?_
  obtain rfl:i=ts.length:=oM
  refine g0 ?_
  exact WP.ret ⟨f.ext eb λo o1 o2=>oM,bs,hbl,g.sl,m⟩
 |succ d ih=>
  intro i h out oc bs hi f g po hbl m
  refine WP.rnd (a8Z · · ..) ?_
  have e:=f.ext eb λo o1 o2=>oM
  have hT':=hT.ext e
  have hA':=(hA.frs f λo o1 o2 o3=>oM).sl
  have hit:(i:Int)<ts.length:=oM
  have ldt:=hT'.ld0 (H:=h) (i:=(i:Int)) (Ext.refl _) oM hit oM
  obtain ⟨t0,t1⟩:=ht _ (b7_ (xs:=ts) (i:=(i:Int)) oM hit)
  obtain ⟨t,htt⟩:∃t:Nat,gi ts (i:Int)=t:=⟨(gi ts (i:Int)).toNat,oM⟩
  rw[htt] at ldt t0 t1
  replace ldt:Gm.ld1 h (elP 1 tA (i:Int))=some (I (t:Int)):=ldt
  have idt:=hT'.idxG (i:=(i:Int)) oM hit
  have htN:t<N:=oM
  have idA:=hA'.idxG (i:=(t:Int)) oM (by rw[i0_]; omega)
  have ldA:=hA'.ld0 (H:=h) (i:=(t:Int)) (Ext.refl _) oM (by rw[i0_]; omega) oM
  rw[j6_ htN] at ldA
  obtain ⟨b,hbv⟩:∃b,bv c acc (t*D.length) D.length=b:=⟨_,rfl⟩
  rw[hbv] at ldA
  replace ldA:Gm.ld1 h (elP 1 all (t:Int))=some (I b):=ldA
  obtain ⟨s',h',o',k1,k2,k3,k4⟩:=app1I g (λz=>(po z).2) oM b
  have hl1:=f.len
  have hl2:=k4.len
  refine g5 @idt @ldt @idA @ldA @k1 ?_
  refine ih (i+1) h' s' o' (bs++[b]) oM (f.trans (k4.mono λo _ z=>by have:=(po z.1).1; omega)) k2 (λz=>?_) (by simp[hbl]) (m.snoc ?_)
  ·rcases (k3 z).1 with ⟨z1,z2⟩|z1
   ·have:=(po z2).1; exact ⟨oM,(k3 z).2⟩
   ·exact ⟨.inr oM,(k3 z).2⟩
  ·rw[hbl,htt,<-hbv]
   exact hlw t htN
theorem c3I {hb b1:Heap}{oo c0 v:Nat}{ts:List Int}{os oc' oe ov n:Nat}(hoo:hb.length<=oo)(ho0:oo<c0)(hT:Sl hb 1 tA (ts.map encI))(ht:∀t∈ts,0<=t/\t<N)(htl:ts.length<=1000000)(wv:WyV2 hb c0 b1 wp N es A Up Dn D acc)(ok:DOk D acc)(hN:N<=100)(hn:n=2*(N*D.length))(hn2:n<=1000000)(w0:SchW W b1 os wp q sc se sf oc' oe ov n cs ds fs M)(hW:∀o,W o->c0<=o)(hlw:∀(u:Nat) (out:Int),u<N->QB (gf cs) (AccS acc D.length u acc.length) out->LW es v u (λw=>gi acc (goS D 0 w)=true) (if out<0 then -1 else gf cs out.toNat)) :
  ∀(d i:Nat) (h:Heap) (out:AV) (oc:Nat) (bs:List Int),i+d=ts.length->FrS (λo=>o=oo\/b1.length<=o) b1 h->Gr oc (oc+1) h 1 out (bs.map encI)->(out≠.nils->(oc=oo\/b1.length<=oc)/\oc<h.length)->bs.length=i->ManyQ es D acc v ts bs->
   WP (λp:Nat × Nat=>a4Y p.1 p.2 out (.ptr os 0 5 0) (.fn j8_ [] []) tA (I ts.length) (I i) h) λr h'=>Ext hb h'/\∃bs:List Int,bs.length=ts.length/\Sl h' 1 r (bs.map encI)/\ManyQ es D acc v ts bs:=by
 have eb:=wv.eb
 have ebl:=eb.len
 intro d
 induction d with
 |zero=>
  intro i h out oc bs hi f g po hbl m
  refine WP.rnd (a9a · · ..) ?_
  obtain rfl:i=ts.length:=oM
  refine g0 ?_
  exact WP.ret ⟨f.ext eb λo o1 o2=>oM,bs,hbl,g.sl,m⟩
 |succ d ih=>
  intro i h out oc bs hi f g po hbl m
  refine WP.rnd (a9a · · ..) ?_
  have e:=f.ext eb λo o1 o2=>oM
  have hT':=hT.ext e
  have hit:(i:Int)<ts.length:=oM
  have ldt:=hT'.ld0 (H:=h) (i:=(i:Int)) (Ext.refl _) oM hit oM
  obtain ⟨t0,t1⟩:=ht _ (b7_ (xs:=ts) (i:=(i:Int)) oM hit)
  obtain ⟨t,htt⟩:∃t:Nat,gi ts (i:Int)=t:=⟨(gi ts (i:Int)).toNat,oM⟩
  rw[htt] at ldt t0 t1
  replace ldt:Gm.ld1 h (elP 1 tA (i:Int))=some (I (t:Int)):=ldt
  have idt:=hT'.idxG (i:=(i:Int)) oM hit
  have htN:t<N:=oM
  have wvh:=(wv.frs f λo o1 o2=>oM).wy
  have wh:=w0.frs f λo o1 o2 o3=>by have:=hW o o2; omega
  have hl1:=f.len
  refine g2 @idt @ldt ?_
  refine WP.call (b4f wvh ok hN hn hn2 wh htN) ?_
  rintro _ h2 ⟨e2,o,rfl,qb⟩
  have lw:=hlw t o htN qb
  have f2:=f.trans (FrS.ofExt (D:=λo=>o=oo\/b1.length<=o) e2)
  have hl2:=e2.len
  have fin:∀b,LW es v t (λw=>gi acc (goS D 0 w)=true) b->WP (λp:Nat × Nat=>a4Z p.1 p.2 out (.ptr os 0 5 0) (.fn j8_ [] []) (I b) tA (I ts.length) (I i) h2) λr h'=>Ext hb h'/\∃bs:List Int,bs.length=ts.length/\Sl h' 1 r (bs.map encI)/\ManyQ es D acc v ts bs:=by
   intro b hlb
   refine WP.congr (λi=>b3n i.1 i.2 ..) ?_
   obtain ⟨s',h',o',k1,k2,k3,k4⟩:=app1I (g.ext e2) (λz=>by have:=(po z).2; omega) oM b
   have hl3:=k4.len
   refine g1 @k1 ?_
   refine ih (i+1) h' s' o' (bs++[b]) oM (f2.trans (k4.mono λo _ z=>by have:=(po z.1).1; omega)) k2 (λz=>?_) (by simp[hbl]) (m.snoc ?_)
   ·rcases (k3 z).1 with ⟨z1,z2⟩|z1
    ·have:=(po z2).1; exact ⟨oM,(k3 z).2⟩
    ·exact ⟨.inr oM,(k3 z).2⟩
   ·rw[hbl,htt]; exact hlb
  by_cases o0:o<0
  ·rw[if_pos o0] at lw
   refine g0 ?_
   exact fin (-1) lw
  ·rw[if_neg o0] at lw
   have bnd:=qb.bnd (n:=n) (λx hx=>by
    obtain ⟨s,s1,s2,bb,rfl⟩:=hx
    have la:=ok.la
    have h1:=a4g (N:=N) (S:=D.length) (v:=(t:Int)) (s:=(s:Int)) oM oM oM oM bb
    omega)
   have w2:=wh.ext e2
   have ro:=w2.row
   have gc:=w2.gc.sl
   have idc:=gc.idxG (i:=o) oM (by rw[w2.lc]; omega)
   have ldc:=gc.ld0 (H:=h2) (i:=o) (Ext.refl _) oM (by rw[w2.lc]; omega) oM
   replace ldc:Gm.ld1 h2 (elP 1 sc o)=some (I (gi cs o)):=ldc
   have hgc:gf cs o.toNat=gi cs o:=by show gi cs ((o.toNat:Nat):Int)=_; rw[Int.toNat_of_nonneg oM]
   rw[hgc] at lw
   refine g3 @ro @idc @ldc ?_
   exact fin _ lw
end
section
variable {h:Heap} {N:Nat} {es:List E} {A:List Ar} {Up Dn:List (List Int)} {D:List (List Int)} {acc:List Bool} {x sD sAc tA:AV}
theorem b4g (hN:N<=100)(no:NetOk N es)(co:COk es)(xv:IxV h x N es A Up Dn)(ix:IxC N es A Up Dn)(ok:DOk D acc)(hD:Sl h 5 sD (D.map encR))(hA:Sl h 1 sAc (acc.map encB))(hn2:2*(N*D.length)<=1000000){v:Nat}(hv:v<N){ts:List Int}(hT:Sl h 1 tA (ts.map encI))(ht:∀t∈ts,0<=t/\t<N)(htl:ts.length<=1000000) :
  Tot tab p9_ [x,.agg [sD,sAc],I v,tA] h λr h'=>Ext h h'/\∃bs:List Int,bs.length=ts.length/\Sl h' 1 r (bs.map encI)/\ManyQ es D acc v ts bs:=by
 refine WP.tot (b5D · ..) ?_
 obtain ⟨sE,sR,sA,sU,sDn,us,ds,hx,hE,hR,hAr,hU,hDn,lu,ldd,hUp,hDp⟩:=xv.ex
 have o1:=hE.one
 have o2:=hAr.one
 have o3:=hU.one
 have o4:=hDn.one
 have o5:=hD.one
 have o6:=hA.one
 obtain ⟨h1,hh1⟩:∃h1,h1=(h++[AObj.cells ⟨[I N,sE,sR,sA,sU,sDn],0,0,false⟩])++[AObj.cells ⟨[sD,sAc],0,0,false⟩]:=⟨_,rfl⟩
 have e1:Ext h h1:=by rw[hh1]; exact (Ext.push _ _).app _
 have l1:h1.length=h.length+2:=by rw[hh1]; simp
 have rx:h1[h.length]?=some (.cells ⟨[I N,sE,sR,sA,sU,sDn],0,0,false⟩):=by rw[hh1,m2_ (by simp)]; simp
 have rd:h1[h.length+1]?=some (.cells ⟨[sD,sAc],0,0,false⟩):=by rw[hh1,r8_ (by simp)]; simp
 have hr2:∀a b c d e f:AV,rdNAt 2 (some (AObj.cells ⟨[a,b,c,d,e,f],0,0,false⟩)) 0 6 0=some (.agg [a,b]):=λ_ _ _ _ _ _=>rfl
 have hr6:rdNAt 6 (some (AObj.cells ⟨[I N,sE,sR,sA,sU,sDn],0,0,false⟩)) 0 6 0=some (.agg [I N,sE,sR,sA,sU,sDn]):=rfl
 have lnT:=hT.lenG
 have hmk:∀H:Heap,mkSl [I 0] 1 8 (I 0) (I ts.length) H=some (.sl H.length 0 0 1 none 0,mkObj H []):=λH=>c1j (l:=0) (c:=ts.length) (Int.le_refl _) oM oM oM rfl rfl
 rw[hx]
 refine g8 @o1 @hR @o2 @o3 @o4 @o5 @o6 @lnT ?_
 rw[<-hh1]
 rw[hmk]
 try simp only[b0O]
 have gO:=Gr.empty h1 1
 rw[a3_] at gO
 obtain ⟨h2,hh2⟩:∃h2,h2=h1++[AObj.cells ⟨[],0,0,false⟩]:=⟨_,rfl⟩
 have e2:Ext h1 h2:=by rw[hh2]; exact Ext.push _ _
 have l2:h2.length=h1.length+1:=by rw[hh2]; simp
 have rx2:=e2.get rx
 have rd2:=e2.get rd
 rw[a3_,<-hh2]
 rw[<-hh2] at gO
 refine g1 @rd2 ?_
 have e12:=e1.trans e2
 refine WP.call (b3a ok (hD.ext e12) (hA.ext e12)) ?_
 rintro _ h3 ⟨e3,rfl⟩
 have e13:=e12.trans e3
 have rx3:=e3.get rx2
 have rd3:=e3.get rd2
 cases hst:stdyB D with
 |false=>
  refine g3 @rx3 @rd3 @hr2 ?_
  refine WP.call (a2G no co oM (hE.ext e13) ok (hD.ext e13) (hA.ext e13) hv) ?_
  rintro all h4 ⟨e4,c,lc,ga⟩
  have e14:=e13.trans e4
  have hT4:=hT.ext e14
  have lnT4:=hT4.lenG
  have h3l:=e3.len
  have h4l:=e4.len
  exact WP.ent (c3H (hb:=h) (b1:=h4) (oo:=h1.length) (N:=N) (es:=es) e14 oM hT ga oM (Nat.le_refl _) ht htl (λu hu=>bv_lw ok no hv hu lc) ts.length 0 h4 _ h1.length [] oM (FrS.refl _ _) ((gO.ext e3).ext e4) (λ_=>⟨.inl rfl,oM⟩) rfl (λi hi=>by simp at hi)) λi=>rfl
 |true=>
  have sd:=a9N.1 hst
  refine g2 @rx3 @rd3 ?_
  refine WP.congr (b3o · ..) ?_
  refine g4 @rx3 @rd3 @hr6 @lnT ?_
  have xv':IxV h (.agg [I N,sE,sR,sA,sU,sDn]) N es A Up Dn:=hx▸xv
  refine WP.call (b1F e13 hN xv' ix.toIxS hD hA) ?_
  rintro wp h4 ⟨e4,wv⟩
  refine WP.call (b5e wv.wy ix.toIxS ok hN (n:=2*(N*D.length)) rfl hn2 hv) ?_
  rintro _ h5 ⟨e5,os,q,sc,se,sf,oc,oe,ov,rfl,id2,k2,rk2,cs2,ds2,fs2,M2,sw,di,hM,hk⟩
  have hvS:v*D.length<N*D.length:=by
   have:=spotN (N:=N) (v:=v) (S:=D.length) (s:=0) hv ok.l0
   simpa using this
  have lc:=di.lc (b3v ix.toIxS ok) (λy hy=>by have:y=2*(v*D.length):=hy; omega) hM
  have h3l:=e3.len
  have h4l:=e4.len
  have h5l:=e5.len
  have e15:=(e13.trans e4).trans e5
  have lnT5:=(hT.ext e15).lenG
  exact WP.ent (c3I (hb:=h) (b1:=h5) (oo:=h1.length) (c0:=h3.length) oM oM hT ht htl (wv.frs (FrS.ofExt (D:=λ_=>False) e5) λo _ z=>z.elim) ok hN rfl hn2 sw (λo z=>oM) (λu o hu qb=>q_lw no co ix ok sd hv hu lc qb) ts.length 0 h5 _ h1.length [] oM (FrS.refl _ _) (((gO.ext e3).ext e4).ext e5) (λ_=>⟨.inl rfl,oM⟩) rfl (λi hi=>by simp at hi)) λi=>rfl
end
end Go.Gm.AZ
namespace Go.Gm.AZ
open Go Go.Gm
theorem kOkW (h:OkW kE 0 l):l=[]\/l=[0]:=by
 rcases l with _|⟨a,_|⟨b,t⟩⟩
 ·exact .inl rfl
 ·have:=(h 0 a rfl).1
  simp[kE] at this
  exact .inr (by rw[this])
 ·have h1:=(h 0 a rfl).1
  have h2:=h 1 b rfl
  simp[kE] at h1 h2
  obtain ⟨rfl,h3⟩:=h2
  subst h1
  exact absurd h3 (by decide)
theorem kLW1:LW kE 0 1 (λw=>gi [true] (goS kD 0 w)=true) 4:=by
 refine ⟨.inr ⟨oM,[0],?_,rfl,rfl,rfl⟩,λl h1 h2 _=>?_⟩
 ·exact OkW.snoc (l:=[]) (λi e h=>by simp at h) (by simp[kE]) rfl
 ·rcases kOkW h1 with rfl|rfl
  ·exact absurd h2 (by decide)
  ·exact ⟨oM,by decide⟩
theorem kLW0:LW kE 0 0 (λw=>gi [true] (goS kD 0 w)=true) 0:=by
 refine ⟨.inr ⟨oM,[],?_,rfl,rfl,rfl⟩,λl h1 h2 _=>?_⟩
 ·exact λi e h=>by simp at h
 ·rcases kOkW h1 with rfl|rfl
  ·exact ⟨oM,by decide⟩
  ·exact absurd h2 (by decide)
section
variable {h:Heap} {A:List Ar} {Up Dn:List (List Int)} {x sD sAc tA:AV}
theorem kqRoute (xv:IxV h x 2 kE A Up Dn)(ix:IxC 2 kE A Up Dn)(hD:Sl h 5 sD (kD.map encR))(hA:Sl h 1 sAc ([true].map encB)) :
  Tot tab d4_ [x,.agg [sD,sAc],I 0,I 1] h λr h'=>Ext h h'/\∃sl,r=.tup [.agg [I 4,sl],.bool true]/\Sl h' 1 sl [[I 0]]:=by
 refine (y4_ (N:=2) (v:=0) (u:=1) oM kNet kCo xv ix kDok hD hA (by simp[kD]) oM oM).mono ?_
 rintro r h' ⟨e,b,lw,rq⟩
 obtain rfl:=lw.uniq kLW1
 refine ⟨e,?_⟩
 rcases rq with ⟨q,_⟩|⟨_,sl,ll,q2,q3,q4,q5,q6,_⟩
 ·omega
 ·rcases kOkW q5 with rfl|rfl
  ·exact absurd q6 (by decide)
  ·exact ⟨sl,q2,q3.sl⟩
theorem kqMany (xv:IxV h x 2 kE A Up Dn)(ix:IxC 2 kE A Up Dn)(hD:Sl h 5 sD (kD.map encR))(hA:Sl h 1 sAc ([true].map encB))(hT:Sl h 1 tA [[I 1],[I 0]]) :
  Tot tab p9_ [x,.agg [sD,sAc],I 0,tA] h λr h'=>Ext h h'/\Sl h' 1 r ([(4:Int),0].map encI):=by
 refine (b4g (N:=2) (v:=0) (ts:=[1,0]) oM kNet kCo xv ix kDok hD hA (by simp[kD]) oM hT (by simp) (by simp)).mono ?_
 rintro r h' ⟨e,bs,hb,sl,m⟩
 refine ⟨e,?_⟩
 match bs,hb with
 |[a,b],_=>
  have h1:=m 0 (by simp)
  have h2:=m 1 (by simp)
  have e1:gi [a,b] 0=4:=h1.uniq kLW1
  have e2:gi [a,b] 1=0:=h2.uniq kLW0
  obtain rfl:a=4:=e1
  obtain rfl:b=0:=e2
  exact sl
theorem kqMany0 (xv:IxV h x 2 kE A Up Dn)(ix:IxC 2 kE A Up Dn)(hD:Sl h 5 sD (kD.map encR))(hA:Sl h 1 sAc ([true].map encB)) :
  Tot tab p9_ [x,.agg [sD,sAc],I 0,.nils] h λr h'=>Ext h h'/\Sl h' 1 r []:=by
 refine (b4g (N:=2) (v:=0) (ts:=[]) oM kNet kCo xv ix kDok hD hA (by simp[kD]) oM (.inl ⟨rfl,rfl⟩) (by simp) (by simp)).mono ?_
 rintro r h' ⟨e,bs,hb,sl,m⟩
 obtain rfl:=List.eq_nil_of_length_eq_zero hb
 exact ⟨e,sl⟩
end
theorem a4h (h:Heap):Tot tab g3_ [] h λr h'=>r=.bool true/\Ext h h':=by
 refine WP.tot (a9s · ..) ?_
 refine g0 ?_
 obtain ⟨h1,hh1⟩:∃h1,h1=h++[AObj.cells ⟨[I 0,I 1,I 0,I 4],0,0,false⟩]:=⟨_,rfl⟩
 have e1:Ext h h1:=by rw[hh1]; exact eX
 have r0:h1[h.length]?=some (.cells ⟨encE ⟨0,1,0,4⟩,0,0,false⟩):=by rw[hh1]; refine g0 ?_; try rfl
 have hs:Sl h1 4 (.sl h.length 0 1 4 none 0) (kE.map encE):=b0p r0 rfl
 rw[<-hh1]
 refine WP.call (a4L (N:=2) oM kNet kCo hs) ?_
 rintro x h2 ⟨e2,A,Up,Dn,xv,ix⟩
 obtain ⟨sE,sR,sA,sU,sDn,us,ds,hx,hE,hR,hAr,hU,hDn,lu,ldd,hUp,hDp⟩:=xv.ex
 have o1:=hE.one
 have o2:=hAr.one
 have o3:=hU.one
 have o4:=hDn.one
 have hr6:rdNAt 6 (some (AObj.cells ⟨[I (2:Nat),sE,sR,sA,sU,sDn],0,0,false⟩)) 0 6 0=some (.agg [I (2:Nat),sE,sR,sA,sU,sDn]):=rfl
 have hr2:∀a b:AV,rdNAt 2 (some (AObj.cells ⟨[a,b],0,0,false⟩)) 0 2 0=some (.agg [a,b]):=λ_ _=>rfl
 rw[hx]
 refine g5 @o1 @hR @o2 @o3 @o4 ?_
 obtain ⟨h3,hh3⟩:∃h3,h3=(List.set (List.set (h2++[AObj.cells ⟨[I 0,.nils,.nils,.nils,.nils,.nils],0,0,false⟩]) h2.length (AObj.cells ⟨[I (2:Nat),sE,sR,sA,sU,sDn],0,0,false⟩) ++
   [AObj.cells ⟨[I 0,I 0,I 0,I 0,I 0],0,0,false⟩]++[AObj.cells ⟨[AV.bool true],0,0,false⟩]++[AObj.cells ⟨[.nils,.nils],0,0,false⟩])
   (h2.length+1+1+1) (AObj.cells ⟨[AV.sl (h2.length+1) 0 1 5 none 0,AV.sl (h2.length+1+1) 0 1 1 none 0],0,0,false⟩)):=⟨_,rfl⟩
 have e3:Ext h2 h3:=by rw[hh3]; exact eX
 have r1:h3[h2.length]?=some (.cells ⟨[I (2:Nat),sE,sR,sA,sU,sDn],0,0,false⟩):=by rw[hh3]; simp -implicitDefEqProofs (disch:=first|assumption|omega|(simp only[gL,gA]<;>omega)|fail) only[cG,reduceIte]; try rfl
 have r2:h3[h2.length+1]?=some (.cells ⟨encR [0,0,0,0,0],0,0,false⟩):=by rw[hh3]; refine g0 ?_; try rfl
 have r3:h3[h2.length+1+1]?=some (.cells ⟨encB true,0,0,false⟩):=by rw[hh3]; refine g0 ?_; try rfl
 have r4:h3[h2.length+1+1+1]?=some (.cells ⟨[AV.sl (h2.length+1) 0 1 5 none 0,AV.sl (h2.length+1+1) 0 1 1 none 0],0,0,false⟩):=by rw[hh3]; simp -implicitDefEqProofs (disch:=first|assumption|omega|(simp only[gL,gA]<;>omega)|fail) only[cG,reduceIte]; try rfl
 have hD:Sl h3 5 (.sl (h2.length+1) 0 1 5 none 0) (kD.map encR):=b0p r2 rfl
 have hA:Sl h3 1 (.sl (h2.length+1+1) 0 1 1 none 0) ([true].map encB):=b0p r3 rfl
 have xv3:=(hx▸xv:IxV h2 (.agg [I (2:Nat),sE,sR,sA,sU,sDn]) 2 kE A Up Dn).ext e3
 rw[<-hh3]
 refine WP.call (kqRoute xv3 ix hD hA) ?_
 rintro _ h4 ⟨e4,sl,rfl,hsl⟩
 have r14:=e4.get r1
 have r44:=e4.get r4
 have b1:=(List.getElem?_eq_some_iff.1 r14).1
 have b4:=(List.getElem?_eq_some_iff.1 r44).1
 refine g8 @a4_ @a5_ hsl.one hsl.cells @r14 @r44 @hr6 @hr2 ?_
 obtain ⟨h5,hh5⟩:∃h5,h5=((h4++[AObj.cells ⟨[I 0,.nils],0,0,false⟩]).set h4.length (.cells ⟨[I 4,sl],0,0,false⟩))++[AObj.cells ⟨[I 1,I 0],0,0,false⟩]:=⟨_,rfl⟩
 have e5:Ext h4 h5:=by rw[hh5]; exact eX
 have q5:h5[h4.length]?=some (.cells ⟨[I 4,sl],0,0,false⟩):=by rw[hh5]; simp -implicitDefEqProofs (disch:=first|assumption|omega|(simp only[gL,gA]<;>omega)|fail) only[cG,reduceIte]; try rfl
 have t5:h5[h4.length+1]?=some (.cells ⟨[I 1,I 0],0,0,false⟩):=by rw[hh5]; simp -implicitDefEqProofs (disch:=first|assumption|omega|(simp only[gL,gA]<;>omega)|fail) only[cG,reduceIte]; try rfl
 have hT:Sl h5 1 (.sl (h4.length+1) 0 2 1 none 0) [[I 1],[I 0]]:=.inr ⟨_,0,none,0,_,rfl,t5,Nat.le_refl _,rfl,by simp⟩
 have e45:=e4.trans e5
 rw[<-hh5]
 refine WP.call (kqMany (xv3.ext e45) ix (hD.ext e45) (hA.ext e45) hT) ?_
 rintro m2 h6 ⟨e6,z6⟩
 have r16:=(e5.trans e6).get r14
 have r46:=(e5.trans e6).get r44
 refine g4 @r16 @r46 @hr6 @hr2 ?_
 have e46:=e45.trans e6
 refine WP.call (kqMany0 (xv3.ext e46) ix (hD.ext e46) (hA.ext e46)) ?_
 rintro m0 h7 ⟨e7,z7⟩
 have q7:=(e6.trans e7).get q5
 have l7:=z7.len
 have ls:=hsl.len
 simp only[List.length_nil,List.length_cons] at l7 ls
 have z67:=z6.ext e7
 have g0:gi [(4:Int),0] 0=4:=rfl
 have g1:gi [(4:Int),0] 1=0:=rfl
 refine g9 @q7 @l7 @ls z67.lenG z67.idxG z67.ld0 @g0 @g1 @encI.eq_1 ?_
 exact WP.ret ⟨rfl,((((e1.trans e2).trans e3).trans e46)).trans e7⟩
end Go.Gm.AZ
namespace Go.Gm.AZ
open Go Go.Gm
theorem h0_ {a n:Int}(hn:0<n)(hf:Fit n)(h:Heap):Tot tab b1_ [I a,I n] h λv h'=>v=I (a % n)/\h=h':=by
 refine WP.tot (a8V · ..) ?_
 refine WP.oa (a8F a n oM) ?_
 refine WP.oa (a6U _ _) ?_
 have hlt:=Int.tmod_lt_of_pos a hn
 have hgt:=Int.lt_tmod_of_pos a hn
 have h1:=Int.tmod_eq_emod (a:=a) (b:=n)
 have h2:=Int.emod_nonneg a (by omega:n≠0)
 have h3:=Int.emod_lt_of_pos a hn
 by_cases h0:a.tmod n<0
 ·simp only[decide_eq_true h0,a2L]
  refine WP.oa (a8E _ _ (by unfold Fit at *; omega)) (WP.ret ⟨?_,rfl⟩)
  congr 1
  split at h1<;>omega
 ·simp only[decide_eq_false h0,a1M]
  refine WP.ret ⟨?_,rfl⟩
  congr 1
  split at h1<;>omega
theorem DOk.wr (ok:DOk D acc){s m:Nat}{x:Int}(s1:s<D.length)(m1:m<5)(x0:0<=x)(x1:x<D.length):DOk (D.set s ((gi D s).set m x)) acc:=by
 have hr:=ok.row s oM oM
 refine ⟨by simpa using ok.l0,by simpa using ok.l1,by simpa using ok.la,λt t0 t1=>?_,λt k t0 t1 k0 k1=>?_⟩
 ·obtain ⟨t,rfl⟩:∃t':Nat,t=t':=⟨t.toNat,oM⟩
  simp only[List.length_set] at t1
  rw[giset2 s1]
  split
  ·rw[List.length_set]; exact hr
  ·exact ok.row _ t0 t1
 ·obtain ⟨t,rfl⟩:∃t':Nat,t=t':=⟨t.toNat,oM⟩
  obtain ⟨k,rfl⟩:∃k':Nat,k=k':=⟨k.toNat,oM⟩
  simp only[List.length_set] at t1 ⊢
  rw[giset2 s1]
  split
  ·rename_i q
   rw[giset2 oM]
   split
   ·exact ⟨x0,x1⟩
   ·exact ok.to _ _ oM oM k0 k1
  ·exact ok.to _ _ t0 t1 k0 k1
structure RI (hb:Heap) (oD n:Nat) (sD:AV) (acc:List Bool) (h:Heap) (D:List (List Int)):Prop where
 fr:FrS (λo=>o=oD) hb h
 g:Gr oD (oD+1) h 5 sD (D.map encR)
 ok:DOk D acc
 ln:D.length=n
end Go.Gm.AZ
namespace Go.Gm.AZ
open Go Go.Gm
end Go.Gm.AZ
namespace Go.Gm.AZ
open Go Go.Gm
def ofM (es:List E)(m:Nat):List E:=es.filter λe=>e.md == (m:Int)
structure PkI (h0:Heap) (on oo N m:Nat) (s:AV) (es:List E) (i:Nat) (h:Heap) (s2:AV):Prop where
 fr:FrS (λo=>o=oo\/h0.length<=o) h0 h
 ro:h[oo]?=some (.cells ⟨[I N,s2],0,0,false⟩)
 g:Gr h0.length h.length h 4 s2 ((ofM (es.take i) m).map encE)
end Go.Gm.AZ
namespace Go.Gm.AZ
open Go Go.Gm
theorem a2d {h:Heap}{o sz:Nat}{css:List (List AV)}{n:Nat}(hr:h[o]?=some (.cells ⟨css.flatten,0,0,false⟩))(hn:n=css.length)(hl:∀c∈css,c.length=sz):Sl h sz (.sl o 0 n sz none 0) css:=by
 subst hn
 exact .inr ⟨o,0,none,0,_,rfl,hr,Nat.le_refl _,by rw[List.drop_zero,List.take_of_length_le (by rw[Go.Gm.flatten_len hl]; omega)],hl⟩
def kS:List AV:=kns.map λx=>.str (ofL (txt x.n))
def kU:List Int:=kns.map λx=>(x.u:Int)
end Go.Gm.AZ
namespace Go.Gm.AZ
open Go Go.Gm
def sns:List Nd:=[.star (.set 31),.join [.star (.set 1),.star (.set 2)],.plus (.set 1),.join [.star (.set 5),.plus (.set 8),.star (.set 31)],.join [.star (.set 1),.uni [.plus (.set 4),.plus (.set 2)],.star (.set 1)],.star (.uni [.set 1,.set 2]),.join [.star (.set 1),.plus (.set 4),.star (.set 1)],.join [.star (.set 31),.plus (.set 16),.star (.set 31)],.eps,.emp,.join [.star (.uni [.set 2,.set 4]),.star (.set 1)],.join [.star (.set 1),.star (.set 8),.star (.set 16)],.join [.plus (.set 1),.plus (.set 2),.plus (.set 4)],.join [.star (.set 3),.uni [.plus (.set 8),.plus (.set 16)],.star (.set 3)],.join [.star (.join [.star (.set 1),.star (.set 2)]),.star (.set 4)],.uni [.star (.set 1),.star (.set 2),.star (.set 4)]]
def snB (n:Nd):Bool:=
 gdB n && (decide ((txt n).length<=200/\cst n+18<=900000/\dp n<=30) &&
  match nfaF n with
  |none=>false
  |some nf=>(subF nf 200).isSome)
theorem c5m:sns.all snB=true:=by decide +kernel
theorem c5n {n:Nd}(h:n∈sns):Gd n/\Bd n/\((txt n).length<=200/\cst n+18<=900000/\dp n<=30)/\∃nf D acc,nfaF n=some nf/\subF nf 200=some (D,acc):=by
 have h1:=List.all_eq_true.1 c5m n h
 simp only[snB,Bool.and_eq_true,decide_eq_true_eq] at h1
 obtain ⟨h2,h3,h4⟩:=h1
 obtain ⟨g,bd⟩:=b2c _ h2
 cases hn:nfaF n with
 |none=>rw[hn] at h4; cases h4
 |some nf=>
  rw[hn] at h4
  obtain ⟨⟨D,acc⟩,hs⟩:=Option.isSome_iff_exists.1 h4
  exact ⟨g,bd,h3,nf,D,acc,rfl,hs⟩
def snS:List AV:=sns.map λn=>.str (ofL (txt n))
theorem c5o:[.str ⟨#[46,42]⟩,.str ⟨#[119,42,98,42]⟩,.str ⟨#[119,43]⟩,.str ⟨#[91,119,99,93,42,102,43,46,42]⟩,.str ⟨#[119,42,40,99,43,124,98,43,41,119,42]⟩,.str ⟨#[40,119,124,98,41,42]⟩,.str ⟨#[119,42,99,43,119,42]⟩,.str ⟨#[46,42,116,43,46,42]⟩,.str ⟨#[95]⟩,.str ⟨#[48]⟩,.str ⟨#[40,98,124,99,41,42,119,42]⟩,.str ⟨#[119,42,102,42,116,42]⟩,.str ⟨#[119,43,98,43,99,43]⟩,.str ⟨#[91,119,98,93,42,40,102,43,124,116,43,41,91,119,98,93,42]⟩,.str ⟨#[40,119,42,98,42,41,42,99,42]⟩,.str ⟨#[119,42,124,98,42,124,99,42]⟩]=(snS.map enc1).flatten:=by kernel_rfl
theorem b5K :
  Tot tab a1q [I which] h λr h'=>Ext h h'/\∃D acc sN sA,r=.agg [sN,sA]/\DOk D acc/\D.length<=200/\Gr h.length h'.length h' 5 sN (D.map encR)/\Gr h.length h'.length h' 1 sA (acc.map encB):=by
 refine WP.tot (a8W · ..) ?_
 refine g0 ?_
 rw[c5o]
 refine WP.call (h0_ oM (by unfold Fit; omega) _) ?_
 rintro _ _ ⟨rfl,rfl⟩
 obtain ⟨h2,hh2⟩:∃h2,h2=h++[AObj.cells ⟨[.nils,.nils],0,0,false⟩]++[AObj.cells ⟨(snS.map enc1).flatten,0,0,false⟩]:=⟨_,rfl⟩
 have e2:Ext h h2:=by rw[hh2]; exact eX
 have l2:h2.length=h.length+2:=by rw[hh2]; simp
 have r2:h2[h.length]?=some (.cells ⟨[.nils,.nils],0,0,false⟩):=by rw[hh2]; simp
 have rS:h2[h.length+1]?=some (.cells ⟨(snS.map enc1).flatten,0,0,false⟩):=by rw[hh2]; simp
 rw[<-hh2]
 have sS:Sl h2 1 (.sl (h.length+1) 0 16 1 none 0) (snS.map enc1):=a2d rS rfl λc hc=>by obtain ⟨x,_,rfl⟩:=List.mem_map.1 hc; rfl
 generalize AV.sl (h.length+1) 0 16 1 none 0=tS at sS ⊢
 clear rS
 have lS:snS.length=16:=rfl
 obtain ⟨k,hk⟩:∃k:Nat,which % ((16:Nat):Int)=k:=⟨(which % ((16:Nat):Int)).toNat,oM⟩
 have hk16:k<16:=oM
 rw[hk]
 obtain ⟨x,hx⟩:∃x,x=sns[k]'hk16:=⟨_,rfl⟩
 have hm:x∈sns:=by rw[hx]; exact List.getElem_mem _
 have gS:gi snS (k:Int)=.str (ofL (txt x)):=by rw[b2_ oM,hx]; exact List.getElem_map _
 obtain ⟨g,bd,⟨z1,z2,z3⟩,nf,D0,acc0,hnf,hsb⟩:=c5n hm
 have e0:=Ext.refl h2
 simp -implicitDefEqProofs (disch:=first|assumption|omega|exact Ext.refl _|(simp only[gL,gA]<;>omega)|fail) only[cG,reduceIte,sS.idxG,sS.ld0,enc1,gS]
 refine WP.call (y9_ (by rw[q7_]; exact z1) z2 (a6T g z3) g bd h2) ?_
 rintro r h3 ⟨e3,q3⟩
 simp only[CmpQ,hnf,hsb] at q3
 obtain ⟨vv,rfl,D,acc,sN,sA,rfl,gN,gA,ok,hle,hw⟩:=q3
 have o1:=gN.sl.one
 have o2:=gA.sl.one
 have hw1:wrAt 2 (h3++[AObj.cells ⟨[.nils,.nils],0,0,false⟩]) (some (AObj.cells ⟨[.nils,.nils],0,0,false⟩)) h3.length 0 2 0 [sN,sA]=some (h3++[AObj.cells ⟨[sN,sA],0,0,false⟩]):=by
  refine (g5_ (n:=2) (off:=0) (hi:=2) (vs:=[sN,sA]) rfl rfl oM (by simp[o1,o2])).trans ?_
  rw[c9_ rfl]
  rfl
 have r3:=e3.get r2
 have b3:=(List.getElem?_eq_some_iff.1 r3).1
 have l3:=e3.len
 refine g5 @a1_ @hw1 @r3 @o1 @o2 ?_
 have hw4:wrAt 2 (h3++[AObj.cells ⟨[sN,sA],0,0,false⟩]) (some (AObj.cells ⟨[.nils,.nils],0,0,false⟩)) h.length 0 2 0 [sN,sA]=some ((h3++[AObj.cells ⟨[sN,sA],0,0,false⟩]).set h.length (.cells ⟨[sN,sA],0,0,false⟩)):=
  g5_ (n:=2) (off:=0) (hi:=2) (vs:=[sN,sA]) rfl rfl oM (by simp[o1,o2])
 simp only[hw4,a8B]
 have r5:((h3++[AObj.cells ⟨[sN,sA],0,0,false⟩]).set h.length (.cells ⟨[sN,sA],0,0,false⟩))[h.length]?=some (.cells ⟨[sN,sA],0,0,false⟩):=a0_ (by simp; omega)
 have hr:rdNAt 2 (some (AObj.cells ⟨[sN,sA],0,0,false⟩)) 0 2 0=some (.agg [sN,sA]):=rfl
 simp only[r5,hr,b0N]
 have e23:=e2.trans e3
 have hlen:=a6P hsb
 refine WP.ret ⟨?_,D,acc,sN,sA,rfl,ok,oM,?_,?_⟩
 ·exact ((e23.trans (Ext.push h3 _)).setr oM _)
 ·exact (((gN.app _).set oM _).mono oM (by simp))
 ·exact (((gA.app _).set oM _).mono oM (by simp))
end Go.Gm.AZ
namespace Go.Gm
inductive Rw where
 |mk (k n:Int) (l:List Rw)
 deriving Inhabited
def Rw.kids:Rw->List Rw
 |.mk _ _ l=>l
theorem Rw.kid_lt {c r:Rw}(h:c∈r.kids):SizeOf.sizeOf c<SizeOf.sizeOf r:=by
 cases r with
 |mk k n l=>have:=List.sizeOf_lt_of_mem (show c∈l from h); simp only[Rw.mk.sizeOf_spec]; omega
theorem Rw.ind {p:Rw->Prop}(h:∀r,(∀c∈r.kids,p c)->p r)(r:Rw):p r:=by
 have:∀(N:Nat) (r:Rw),SizeOf.sizeOf r<=N->p r:=by
  intro N
  induction N with
  |zero=>intro r hr; exact h r λc hc=>by have:=Rw.kid_lt hc; omega
  |succ N ih=>intro r hr; exact h r λc hc=>ih c (by have:=Rw.kid_lt hc; omega)
 exact this _ r (Nat.le_refl _)
mutual
inductive RV (h:Heap):Rw->List AV->Prop
 |mk {k n:Int} {l:List Rw} {s:AV} {css:List (List AV)}:Sl h 3 s css->RVs h l css->RV h (.mk k n l) [I k,I n,s]
inductive RVs (h:Heap):List Rw->List (List AV)->Prop
 |nil:RVs h [] []
 |cons {r:Rw} {cs:List AV} {l:List Rw} {css:List (List AV)}:RV h r cs->RVs h l css->RVs h (r::l) (cs::css)
end
mutual
theorem RV.ext {h h':Heap} (e:Ext h h'):∀{r:Rw} {cs:List AV},RV h r cs->RV h' r cs
 |_,_,.mk a b=>.mk (a.ext e) (RVs.ext e b)
theorem RVs.ext {h h':Heap} (e:Ext h h'):∀{l:List Rw} {css:List (List AV)},RVs h l css->RVs h' l css
 |_,_,.nil=>.nil
 |_,_,.cons a b=>.cons (RV.ext e a) (RVs.ext e b)
end
theorem RVs.len:∀{l:List Rw} {css:List (List AV)},RVs h l css->l.length=css.length
 |_,_,.nil=>rfl
 |_,_,.cons _ b=>by simp[RVs.len b]
theorem RVs.get:∀{l:List Rw} {css:List (List AV)},RVs h l css->∀{i:Nat} {r:Rw},l[i]?=some r->∃cs,css[i]?=some cs/\RV h r cs
 |_,_,.nil,i,r,q=>by simp at q
 |_,_,.cons a b,0,r,q=>by
  simp only[List.getElem?_cons_zero,Option.some.injEq] at q
  subst q; exact ⟨_,rfl,a⟩
 |_,_,.cons a b,i+1,r,q=>by
  obtain ⟨cs,h1,h2⟩:=RVs.get b (i:=i) (by simpa using q)
  exact ⟨cs,by simpa using h1,h2⟩
theorem RV.len (a:RV h r cs):cs.length=3:=by cases a; rfl
theorem RV.one (a:RV h r cs):cs.all AV.one=true:=by
 cases a with
 |mk a b=>simp only[List.all_cons,List.all_nil,a4x,a.one,Bool.and_self]
end Go.Gm
namespace Go.Gm.AZ
open Go Go.Gm
theorem a0O {a n:Int}(hn:0<n)(hf:Fit n)(h:Heap):Tot tab d5_ [I a,I n] h λv h'=>v=I (a % n)/\h=h':=by
 refine WP.tot (a9A · ..) ?_
 refine WP.oa (a8F a n oM) ?_
 refine WP.oa (a6U _ _) ?_
 have hlt:=Int.tmod_lt_of_pos a hn
 have hgt:=Int.lt_tmod_of_pos a hn
 have h1:=Int.tmod_eq_emod (a:=a) (b:=n)
 have h2:=Int.emod_nonneg a (by omega:n≠0)
 have h3:=Int.emod_lt_of_pos a hn
 by_cases h0:a.tmod n<0
 ·simp only[decide_eq_true h0,a2L]
  refine WP.oa (a8E _ _ (by unfold Fit at *; omega)) (WP.ret ⟨?_,rfl⟩)
  congr 1
  split at h1<;>omega
 ·simp only[decide_eq_false h0,a1M]
  refine WP.ret ⟨?_,rfl⟩
  congr 1
  split at h1<;>omega
theorem b6k {α:Type}[Inhabited α]{xs:List α}{i:Nat}{x:α}(h:xs[i]?=some x):gi xs (i:Int)=x:=by
 simp[gi,List.getD_eq_getElem?_getD,h]
def szF:Nat->List Rw->Int
 |0,_=>1000
 |d+1,rs=>rs.foldl (λn r=>if n<=14 then n+1+szF d r.kids else n) 0
def szAdd (d:Nat)(n:Int)(rs:List Rw):Int:=rs.foldl (λn r=>if n<=14 then n+1+szF d r.kids else n) n
theorem b1q (d:Nat):∀(rs:List Rw) {n:Int},¬n<=14->szAdd d n rs=n
 |[],n,_=>rfl
 |r::rs,n,h=>by
  show szAdd d (if n<=14 then _ else n) rs=n
  rw[if_neg h]; exact b1q d rs h
theorem b6l:∀(d:Nat) (rs:List Rw),0<=szF d rs/\szF d rs<=1000+15*d
 |0,rs=>by simp[szF]
 |d+1,rs=>by
  have:∀(rs:List Rw) (n:Int),0<=n->n<=1000+15*(d+1)->0<=szAdd d n rs/\szAdd d n rs<=1000+15*(d+1):=by
   intro rs
   induction rs with
   |nil=>intro n h1 h2; exact ⟨h1,h2⟩
   |cons r rs ih=>
    intro n h1 h2
    show 0<=szAdd d (if n<=14 then n+1+szF d r.kids else n) rs/\szAdd d (if n<=14 then n+1+szF d r.kids else n) rs<=_
    have:=b6l d r.kids
    split
    ·exact ih _ oM oM
    ·exact ih _ h1 h2
  have:=this rs 0 oM oM
  exact ⟨this.1,by have:=this.2; simp only[szAdd] at this; simp only[szF]; omega⟩
theorem b9Y:∀(d:Nat),d<=7->∀(rs:List Rw) (s:AV) (css:List (List AV)) (h:Heap),Sl h 3 s css->RVs h rs css->
  Tot tab t7_ [s,I (7-(d:Int))] h λr h'=>r=I (szF d rs)/\h'=h:=by
 intro d
 induction d with
 |zero=>
  intro _ rs s css h hs hr
  refine WP.tot (a5q · ..) ?_
  refine g0 ?_
  exact WP.ret ⟨rfl,rfl⟩
 |succ d ihd=>
  intro hd rs s css h hs hr
  refine WP.tot (a5q · ..) ?_
  refine g0 ?_
  have hs':Sl h 3 s (css.map λx=>x):=by rw[List.map_id']; exact hs
  have hlen:=hr.len
  have loop:∀(e i:Nat) (n:Int),i+e=rs.length->(i:Int)<=n->n<=2000->szAdd d n (rs.drop i)=szF (d+1) rs->WP (λp:Nat × Nat=>z6_ p.1 p.2 s (I (7-((d+1:Nat):Int))) (I n) (I i) h) λr h'=>r=I (szF (d+1) rs)/\h'=h:=by
   intro e
   induction e with
   |zero=>
    intro i n h1 h2 h3 h4
    refine WP.rnd (a3V · · ..) ?_
    refine g1 hs'.lenG ?_
    rw[List.drop_of_length_le oM] at h4
    exact WP.lv (WP.ret ⟨by rw[<-h4]; rfl,rfl⟩) λi j=>rfl
   |succ e ih=>
    intro i n h1 h2 h3 h4
    refine WP.rnd (a3V · · ..) ?_
    by_cases hn:n<=14
    ·have hil:i<rs.length:=oM
     have hdr:rs.drop i=rs[i]::rs.drop (i+1):=List.drop_eq_getElem_cons hil
     obtain ⟨r,hr2⟩:∃r,rs[i]=r:=⟨_,rfl⟩
     rw[hr2] at hdr
     have hri:rs[i]?=some r:=by rw[List.getElem?_eq_getElem hil,hr2]
     obtain ⟨cs,hcs,rv⟩:=hr.get hri
     have hg:gi css (i:Int)=cs:=b6k hcs
     have e0:=Ext.refl h
     rw[hdr] at h4
     cases rv with
     |@mk k m l s2 css2 sl2 rv2=>
     refine g4 hs'.lenG hs'.idxG hs'.ldf @hg ?_
     have:=ihd oM l s2 css2 h sl2 rv2
     rw[show (7:Int)-(d:Int)=7-((d+1:Nat):Int)+1 by omega] at this
     refine WP.call this ?_
     rintro _ _ ⟨rfl,rfl⟩
     have hrg:=b6l d l
     refine g0 ?_
     refine ih (i+1) (n+1+szF d l) oM oM oM ?_
     rw[<-h4]
     show _=szAdd d (if n<=14 then n+1+szF d l else n) _
     rw[if_pos hn]
    ·refine g1 hs'.lenG ?_
     rw[b1q d _ hn] at h4
     exact WP.lv (WP.ret ⟨by rw[<-h4],rfl⟩) λi j=>rfl
  try rw[show I 0=I ((0:Nat):Int) from rfl]
  exact WP.ent (loop rs.length 0 0 oM oM oM rfl) λi=>rfl
abbrev wr (n:Int):Int:=IntKind.i64.wrap n
theorem b9Z (a b:Int):binV .add .scalar (I a) (I b)=some (I (wr (a+b))):=rfl
def sgn (n:Int):Nd:=.set (2 ^ (n % 5).toNat)
def ptN (n:Int)(ls:List Nd)(i:Nat):Nd:=ls.getD i (sgn (wr (n+i)))
def ptsN (n:Int)(ls:List Nd):List Nd:=(List.range (max 2 (min ls.length 4))).map (ptN n ls)
def mkOf (k n:Int)(ls:List Nd):Nd:=
 match (k % 14).toNat with
 |0|1=>.set (1+(n % 31).toNat)
 |2|3=>sgn n
 |4=>if n % 3=0 then .emp else .eps
 |5|6|7=>.join (ptsN n ls)
 |8|9=>.uni (ptsN n ls)
 |10=>.star (ptN n ls 0)
 |11=>.plus (ptN n ls 0)
 |12=>.opt (ptN n ls 0)
 |_=>.rep (n % 4).toNat ((n % 4).toNat+(wr (n.tdiv 4) % 3).toNat) (ptN n ls 0)
mutual
def mkX:Rw->Nd
 |.mk k n l=>mkOf k n (mkXs l)
def mkXs:List Rw->List Nd
 |[]=>[]
 |r::l=>mkX r::mkXs l
end
theorem a5m:∀l:List Rw,mkXs l=l.map mkX
 |[]=>rfl
 |r::l=>by rw[mkXs,a5m l]; rfl
abbrev NewN (h:Heap)(n:Nd)(v:AV)(h':Heap):Prop:=Ext h h'/\∃c5,v=.agg c5/\NVD h' (λo=>h.length<=o/\o<h'.length) n c5
def MakeS (r:Rw):Prop:=∀(c3:List AV) (h:Heap),RV h r c3->Tot tab c0_ [.agg c3] h (NewN h (mkX r))
structure RA (h:Heap) (p:AV) (k n:Int) (l:List Rw) (s:AV) (css:List (List AV)):Prop where
 at_:At h p [I k,I n,s]
 sl:Sl h 3 s css
 rv:RVs h l css
theorem RA.ext (a:RA h p k n l s css)(e:Ext h h'):RA h' p k n l s css:=⟨a.at_.ext e,a.sl.ext e,a.rv.ext e⟩
theorem a2A {l:List Rw}(hS:∀c∈l,MakeS c)(c3:List AV)(rv:RV h (.mk k n l) c3){i:Nat}(hi:i<=1000) :
  Tot tab d9_ [.agg c3,I i] h (NewN h (ptN n (mkXs l) i)):=by
 refine WP.tot (a8n · ..) ?_
 cases rv with
 |@mk _ _ _ s css sl rv=>
 have hso:=sl.one
 obtain ⟨h1,hh1⟩:∃h1,h1=(h++[AObj.cells ⟨[I k,I n,s],0,0,false⟩])++[AObj.cells ⟨[I 0,I 0,I 0,I 0,.nils],0,0,false⟩]:=⟨_,rfl⟩
 have e1:Ext h h1:=by rw[hh1]; exact eX
 have hl1:h1.length=h.length+2:=by rw[hh1]; simp
 have hx0:h1[h.length]?=some (.cells ⟨[I k,I n,s],0,0,false⟩):=by rw[hh1]; simp
 have hx1:h1[h.length+1]?=some (.cells ⟨[I 0,I 0,I 0,I 0,.nils],0,0,false⟩):=by rw[hh1]; simp
 have sl':Sl h1 3 s (css.map λx=>x):=by rw[List.map_id']; exact sl.ext e1
 have hlen:=rv.len
 refine g1 @hso ?_
 rw[<-hh1]
 refine g2 @hx0 sl'.lenG ?_
 have fin:∀{n':Nd} {c5:List AV} {H:Heap} (e:Ext h1 H) (nv:NVD H (λo=>h1.length<=o/\o<H.length) n' c5),NewN h n' (.agg c5) (H.set (h.length+1) (.cells ⟨c5,0,0,false⟩)):=by
  intro n' c5 H e nv
  have:=e.len
  refine ⟨(e1.trans e).set oM _,c5,rfl,nv.frs (FrS.set1 H (h.length+1) _) (λo h1 h2 h3=>oM) λo h1 h2=>⟨oM,by simp; exact h2.2⟩⟩
 by_cases hil:i<l.length
 ·obtain ⟨r,hr⟩:∃r,l[i]?=some r:=⟨_,List.getElem?_eq_getElem hil⟩
  obtain ⟨cs,hcs,rvr⟩:=rv.get hr
  have hg:gi css (i:Int)=cs:=b6k hcs
  have e0:=Ext.refl h1
  refine g4 @hx0 sl'.idxG sl'.ldN @hg ?_
  refine WP.call (hS r (List.mem_of_getElem? hr) cs h1 (rvr.ext e1)) ?_
  rintro _ H ⟨e2,c5,rfl,nv⟩
  have hx2:=e2.get hx1
  obtain ⟨s5,rfl,ho5⟩:=nv.inv
  have hHl:=e2.len
  refine g2 @hx2 @ho5 ?_
  have hp:mkX r=ptN n (mkXs l) i:=by simp[ptN,a5m,List.getD_eq_getElem?_getD,hr]
  rw[<-hp]
  exact WP.ret (fin e2 nv)
 ·refine g3 @hx0 sl'.lenG @b9Z ?_
  refine WP.call (a0O (n:=5) oM (by unfold Fit; omega) h1) ?_
  rintro _ _ ⟨rfl,rfl⟩
  have h5:0<=wr (n+i) % 5/\wr (n+i) % 5<5:=⟨Int.emod_nonneg _ oM,Int.emod_lt_of_pos _ oM⟩
  obtain ⟨m,hm⟩:∃m:Int,wr (n+i) % 5=m:=⟨_,rfl⟩
  rw[hm] at h5
  rw[hm]
  refine g1 @hx1 ?_
  have:=fin (Ext.refl _) (a9f (h:=h1) (D:=λo=>h1.length<=o/\o<h1.length) (n:=.set (2 ^ m.toNat)) rfl)
  have hp:ptN n (mkXs l) i=.set (2 ^ m.toNat):=by
   have:(mkXs l)[i]?=none:=by rw[a5m,List.getElem?_eq_none]; simp; omega
   simp only[ptN,List.getD_eq_getElem?_getD,this,Option.getD_none,sgn,hm]
  rw[hp]
  exact WP.ret this
theorem b6m (h:Heap)(x y:AObj):(h++[x]).set h.length y=h++[y]:=by simp
structure MC (h h1:Heap) (k n:Int) (l:List Rw) (s:AV) (css:List (List AV)):Prop where
 ext:Ext h h1
 len:h1.length=h.length+2
 r0:h1[h.length]?=some (.cells ⟨[I k,I n,s],0,0,false⟩)
 r1:h1[h.length+1]?=some (.cells ⟨[I 0,I 0,I 0,I 0,.nils],0,0,false⟩)
 sl:Sl h1 3 s css
 rv:RVs h1 l css
theorem MC.fin (mc:MC h h1 k n l s css)(e:Ext h1 H)(nv:NVD H (λo=>h1.length<=o/\o<H.length) n' c5):NewN h n' (.agg c5) (H.set (h.length+1) (.cells ⟨c5,0,0,false⟩)):=by
 have:=e.len
 have:=mc.len
 refine ⟨(mc.ext.trans e).set oM _,c5,rfl,nv.frs (FrS.set1 H (h.length+1) _) (λo h1 h2 h3=>oM) λo h1 h2=>⟨oM,by simp; exact h2.2⟩⟩
theorem c3l (mc:MC h h1 k n l s css)(hS:∀c∈l,MakeS c) :
  ∀(d i:Nat) (s4:AV) (lg:Nat) (cs4:List (List AV)) (H:Heap),i+d=max 2 (min l.length 4)->NB h1 H [I 4,I 0,I 0,I 0] s4 lg ((ptsN n (mkXs l)).take i) cs4->
   WP (λp:Nat × Nat=>s1_ p.1 p.2 (.ptr h.length 0 3 0) (.ptr (h.length+1) 0 5 0) (.ptr h1.length 0 5 0) (I i) H) (NewN h (.join (ptsN n (mkXs l)))):=by
 have hml:(mkXs l).length=l.length:=by rw[a5m,List.length_map]
 have hpl:(ptsN n (mkXs l)).length=max 2 (min l.length 4):=by simp[ptsN,hml]
 have h1l:=mc.len
 intro d
 induction d with
 |zero=>
  intro i s4 lg cs4 H hi nb
  refine WP.rnd (a2h · · ..) ?_
  have hx0:=nb.ext.get mc.r0
  have hx1:=nb.ext.get mc.r1
  have sl':Sl H 3 s (css.map λx=>x):=by rw[List.map_id']; exact mc.sl.ext nb.ext
  have hlen:=mc.rv.len
  have hrow:H[h1.length]?=some (.cells ⟨[I 4,I 0,I 0,I 0,s4],0,0,false⟩):=nb.row
  have hso:=nb.gr.sl.one
  have hno:=nb.no
  rw[List.take_of_length_le oM] at nb
  have nv:=nb.done (n:=.join (ptsN n (mkXs l))) rfl rfl
  have fin:=mc.fin nb.ext (nv.frs (FrS.refl (λ_=>False) H) (λ_ _ _ z=>z) (D':=λo=>h1.length<=o/\o<H.length) λo _ z=>⟨oM,z.2⟩)
  by_cases h4:i<l.length
  ·refine g5 @hx0 sl'.lenG @hrow @hx1 @hso ?_
   exact WP.lv (WP.ret fin) λi j=>rfl
  ·refine g5 @hx0 sl'.lenG @hrow @hx1 @hso ?_
   exact WP.lv (WP.ret fin) λi j=>rfl
 |succ d ih=>
  intro i s4 lg cs4 H hi nb
  refine WP.rnd (a2h · · ..) ?_
  have hx0:=nb.ext.get mc.r0
  have sl':Sl H 3 s (css.map λx=>x):=by rw[List.map_id']; exact mc.sl.ext nb.ext
  have hlen:=mc.rv.len
  have hrow:H[h1.length]?=some (.cells ⟨[I 4,I 0,I 0,I 0,s4],0,0,false⟩):=nb.row
  have hcl:cs4.length<=1000:=by rw[<-nb.nvs.len,List.length_take]; omega
  have hil:i<4:=oM
  have htk:(ptsN n (mkXs l)).take (i+1)=(ptsN n (mkXs l)).take i++[ptN n (mkXs l) i]:=by
   rw[List.take_add_one]
   congr 1
   simp[ptsN,hml,show i<max 2 (min l.length 4) by omega]
  by_cases h2:i<2
  ·refine g2 @hx0 @hrow ?_
   refine WP.call (a2A (k:=k) hS [I k,I n,s] (.mk (mc.sl.ext nb.ext) (mc.rv.ext nb.ext)) (i:=i) oM) ?_
   rintro _ H1 ⟨e1,c5,rfl,nv⟩
   obtain ⟨s5,rfl,ho5⟩:=nv.inv
   have hrow1:=e1.get hrow
   obtain ⟨s',H3,m1,m2,m3,m4,lg',nb'⟩:=nb.add rfl e1 nv hcl
   have m4':H3[h1.length]?=some (.cells ⟨[I 4,I 0,I 0,I 0,s4],0,0,false⟩):=m4
   rw[a3_] at m1
   refine g6 @hrow1 @ho5 @m1 @m4' @m2 @m3 ?_
   rw[<-htk] at nb'
   exact ih (i+1) s' lg' _ _ oM nb'
  ·refine g3 @hx0 sl'.lenG @hrow ?_
   refine WP.call (a2A (k:=k) hS [I k,I n,s] (.mk (mc.sl.ext nb.ext) (mc.rv.ext nb.ext)) (i:=i) oM) ?_
   rintro _ H1 ⟨e1,c5,rfl,nv⟩
   obtain ⟨s5,rfl,ho5⟩:=nv.inv
   have hrow1:=e1.get hrow
   obtain ⟨s',H3,m1,m2,m3,m4,lg',nb'⟩:=nb.add rfl e1 nv hcl
   have m4':H3[h1.length]?=some (.cells ⟨[I 4,I 0,I 0,I 0,s4],0,0,false⟩):=m4
   rw[a3_] at m1
   refine g6 @hrow1 @ho5 @m1 @m4' @m2 @m3 ?_
   rw[<-htk] at nb'
   exact ih (i+1) s' lg' _ _ oM nb'
theorem c3m (mc:MC h h1 k n l s css)(hS:∀c∈l,MakeS c) :
  ∀(d i:Nat) (s4:AV) (lg:Nat) (cs4:List (List AV)) (H:Heap),i+d=max 2 (min l.length 4)->NB h1 H [I 5,I 0,I 0,I 0] s4 lg ((ptsN n (mkXs l)).take i) cs4->
   WP (λp:Nat × Nat=>s2_ p.1 p.2 (.ptr h.length 0 3 0) (.ptr (h.length+1) 0 5 0) (.ptr h1.length 0 5 0) (I i) H) (NewN h (.uni (ptsN n (mkXs l)))):=by
 have hml:(mkXs l).length=l.length:=by rw[a5m,List.length_map]
 have hpl:(ptsN n (mkXs l)).length=max 2 (min l.length 4):=by simp[ptsN,hml]
 have h1l:=mc.len
 intro d
 induction d with
 |zero=>
  intro i s4 lg cs4 H hi nb
  refine WP.rnd (a2i · · ..) ?_
  have hx0:=nb.ext.get mc.r0
  have hx1:=nb.ext.get mc.r1
  have sl':Sl H 3 s (css.map λx=>x):=by rw[List.map_id']; exact mc.sl.ext nb.ext
  have hlen:=mc.rv.len
  have hrow:H[h1.length]?=some (.cells ⟨[I 5,I 0,I 0,I 0,s4],0,0,false⟩):=nb.row
  have hso:=nb.gr.sl.one
  have hno:=nb.no
  rw[List.take_of_length_le oM] at nb
  have nv:=nb.done (n:=.uni (ptsN n (mkXs l))) rfl rfl
  have fin:=mc.fin nb.ext (nv.frs (FrS.refl (λ_=>False) H) (λ_ _ _ z=>z) (D':=λo=>h1.length<=o/\o<H.length) λo _ z=>⟨oM,z.2⟩)
  by_cases h4:i<l.length
  ·refine g5 @hx0 sl'.lenG @hrow @hx1 @hso ?_
   exact WP.lv (WP.ret fin) λi j=>rfl
  ·refine g5 @hx0 sl'.lenG @hrow @hx1 @hso ?_
   exact WP.lv (WP.ret fin) λi j=>rfl
 |succ d ih=>
  intro i s4 lg cs4 H hi nb
  refine WP.rnd (a2i · · ..) ?_
  have hx0:=nb.ext.get mc.r0
  have sl':Sl H 3 s (css.map λx=>x):=by rw[List.map_id']; exact mc.sl.ext nb.ext
  have hlen:=mc.rv.len
  have hrow:H[h1.length]?=some (.cells ⟨[I 5,I 0,I 0,I 0,s4],0,0,false⟩):=nb.row
  have hcl:cs4.length<=1000:=by rw[<-nb.nvs.len,List.length_take]; omega
  have hil:i<4:=oM
  have htk:(ptsN n (mkXs l)).take (i+1)=(ptsN n (mkXs l)).take i++[ptN n (mkXs l) i]:=by
   rw[List.take_add_one]
   congr 1
   simp[ptsN,hml,show i<max 2 (min l.length 4) by omega]
  by_cases h2:i<2
  ·refine g2 @hx0 @hrow ?_
   refine WP.call (a2A (k:=k) hS [I k,I n,s] (.mk (mc.sl.ext nb.ext) (mc.rv.ext nb.ext)) (i:=i) oM) ?_
   rintro _ H1 ⟨e1,c5,rfl,nv⟩
   obtain ⟨s5,rfl,ho5⟩:=nv.inv
   have hrow1:=e1.get hrow
   obtain ⟨s',H3,m1,m2,m3,m4,lg',nb'⟩:=nb.add rfl e1 nv hcl
   have m4':H3[h1.length]?=some (.cells ⟨[I 5,I 0,I 0,I 0,s4],0,0,false⟩):=m4
   rw[a3_] at m1
   refine g6 @hrow1 @ho5 @m1 @m4' @m2 @m3 ?_
   rw[<-htk] at nb'
   exact ih (i+1) s' lg' _ _ oM nb'
  ·refine g3 @hx0 sl'.lenG @hrow ?_
   refine WP.call (a2A (k:=k) hS [I k,I n,s] (.mk (mc.sl.ext nb.ext) (mc.rv.ext nb.ext)) (i:=i) oM) ?_
   rintro _ H1 ⟨e1,c5,rfl,nv⟩
   obtain ⟨s5,rfl,ho5⟩:=nv.inv
   have hrow1:=e1.get hrow
   obtain ⟨s',H3,m1,m2,m3,m4,lg',nb'⟩:=nb.add rfl e1 nv hcl
   have m4':H3[h1.length]?=some (.cells ⟨[I 5,I 0,I 0,I 0,s4],0,0,false⟩):=m4
   rw[a3_] at m1
   refine g6 @hrow1 @ho5 @m1 @m4' @m2 @m3 ?_
   rw[<-htk] at nb'
   exact ih (i+1) s' lg' _ _ oM nb'
theorem MC.leaf (mc:MC h h1 k n l s css){n':Nd}(hn:n'.kids=[])(e:Ext h1 H):NewN h n' (.agg [I n'.kind,I n'.st,I n'.lo,I n'.hi,.nils]) (H.set (h.length+1) (.cells ⟨[I n'.kind,I n'.st,I n'.lo,I n'.hi,.nils],0,0,false⟩)):=mc.fin e (a9f hn)
theorem MC.kid (mc:MC h h1 k n l s css){n' c:Nd}(hn:n'.kids=[c])(e:Ext h1 H1)(nv:NVD H1 (λo=>h1.length<=o/\o<H1.length) c c5) :
  NewN h n' (.agg [I n'.kind,I n'.st,I n'.lo,I n'.hi,.sl H1.length 0 1 5 none 0]) ((H1++[AObj.cells ⟨c5,0,0,false⟩]).set (h.length+1) (.cells ⟨[I n'.kind,I n'.st,I n'.lo,I n'.hi,.sl H1.length 0 1 5 none 0],0,0,false⟩)):=by
 have e3:Ext H1 (H1++[AObj.cells ⟨c5,0,0,false⟩]):=Ext.push H1 _
 have hle:=e.len
 refine mc.fin (e.trans e3) (.mk (css:=[c5]) (Gr.lit (sz:=5) nv.len).sl (λ_=>⟨hle,by simp[AV.obj]⟩) ?_)
 rw[hn]
 exact .cons (nv.ext e3 λo h1 h2=>⟨h2.1,by simp; omega⟩) .nil
section
variable {h h1:Heap} {k n:Int} {l:List Rw} {s:AV} {css:List (List AV)}
theorem c3n (mc:MC h h1 k n l s css)(hS:∀c∈l,MakeS c):WP (λi:Nat=>a0q i (.ptr h.length 0 3 0) (.ptr (h.length+1) 0 5 0) h1) (NewN h (.rep (n % 4).toNat ((n % 4).toNat+(wr (n.tdiv 4) % 3).toNat) (ptN n (mkXs l) 0))):=by
 refine WP.congr (a6F · ..) ?_
 have hx0:=mc.r0
 refine g1 @hx0 ?_
 refine WP.call (a0O (n:=4) oM (by unfold Fit; omega) h1) ?_
 rintro _ _ ⟨rfl,rfl⟩
 refine g1 @hx0 ?_
 refine WP.call (a0O (n:=3) oM (by unfold Fit; omega) h1) ?_
 rintro _ _ ⟨rfl,rfl⟩
 have a1:0<=n % 4/\n % 4<4:=⟨Int.emod_nonneg _ oM,Int.emod_lt_of_pos _ oM⟩
 have a2:0<=wr (n.tdiv 4) % 3/\wr (n.tdiv 4) % 3<3:=⟨Int.emod_nonneg _ oM,Int.emod_lt_of_pos _ oM⟩
 obtain ⟨a,ha⟩:∃a:Nat,n % 4=a:=⟨(n % 4).toNat,oM⟩
 obtain ⟨b,hb⟩:∃b:Nat,wr (n.tdiv 4) % 3=b:=⟨(wr (n.tdiv 4) % 3).toNat,oM⟩
 have hb':IntKind.i64.wrap (n.tdiv 4) % 3=b:=hb
 refine g4 @hx0 @ha @hb @hb' ?_
 try rw[show I 0=I ((0:Nat):Int) from rfl]
 refine WP.call (a2A (k:=k) hS [I k,I n,s] (.mk mc.sl mc.rv) (i:=0) oM) ?_
 rintro _ H1 ⟨e1,c5,rfl,nv⟩
 obtain ⟨s5,rfl,ho5⟩:=nv.inv
 have hx1:=e1.get mc.r1
 have hle:=e1.len
 have hl1:=mc.len
 refine g2 @hx1 @ho5 ?_
 have:=mc.kid (n':=.rep a (a+b) (ptN n (mkXs l) 0)) rfl e1 nv
 try rw[show (n % 4).toNat=a by omega,show (wr (n.tdiv 4) % 3).toNat=b by omega]
 simp only[Nd.kind,Nd.st,Nd.lo,Nd.hi,Int.natCast_add] at this
 exact WP.ret this
theorem c1J (mc:MC h h1 k n l s css)(hS:∀c∈l,MakeS c):WP (λi:Nat=>d1_ i (.ptr h.length 0 3 0) (.ptr (h.length+1) 0 5 0) (I 10) (.bool false) h1) (NewN h (.star (ptN n (mkXs l) 0))):=by
 refine WP.congr (h3_ · ..) ?_
 have hx0:=mc.r0
 refine g1 @hx0 ?_
 try rw[show I 0=I ((0:Nat):Int) from rfl]
 refine WP.call (a2A (k:=k) hS [I k,I n,s] (.mk mc.sl mc.rv) (i:=0) oM) ?_
 rintro _ H1 ⟨e1,c5,rfl,nv⟩
 obtain ⟨s5,rfl,ho5⟩:=nv.inv
 have hx1:=e1.get mc.r1
 have hle:=e1.len
 have hl1:=mc.len
 refine g2 @hx1 @ho5 ?_
 have:=mc.kid (n':=.star (ptN n (mkXs l) 0)) rfl e1 nv
 simp only[Nd.kind,Nd.st,Nd.lo,Nd.hi] at this
 exact WP.ret this
theorem c1K (mc:MC h h1 k n l s css)(hS:∀c∈l,MakeS c):WP (λi:Nat=>d1_ i (.ptr h.length 0 3 0) (.ptr (h.length+1) 0 5 0) (I 11) (.bool false) h1) (NewN h (.plus (ptN n (mkXs l) 0))):=by
 refine WP.congr (h3_ · ..) ?_
 have hx0:=mc.r0
 refine g1 @hx0 ?_
 try rw[show I 0=I ((0:Nat):Int) from rfl]
 refine WP.call (a2A (k:=k) hS [I k,I n,s] (.mk mc.sl mc.rv) (i:=0) oM) ?_
 rintro _ H1 ⟨e1,c5,rfl,nv⟩
 obtain ⟨s5,rfl,ho5⟩:=nv.inv
 have hx1:=e1.get mc.r1
 have hle:=e1.len
 have hl1:=mc.len
 refine g2 @hx1 @ho5 ?_
 have:=mc.kid (n':=.plus (ptN n (mkXs l) 0)) rfl e1 nv
 simp only[Nd.kind,Nd.st,Nd.lo,Nd.hi] at this
 exact WP.ret this
theorem c1L (mc:MC h h1 k n l s css)(hS:∀c∈l,MakeS c):WP (λi:Nat=>d1_ i (.ptr h.length 0 3 0) (.ptr (h.length+1) 0 5 0) (I 12) (.bool false) h1) (NewN h (.opt (ptN n (mkXs l) 0))):=by
 refine WP.congr (h3_ · ..) ?_
 have hx0:=mc.r0
 refine g1 @hx0 ?_
 try rw[show I 0=I ((0:Nat):Int) from rfl]
 refine WP.call (a2A (k:=k) hS [I k,I n,s] (.mk mc.sl mc.rv) (i:=0) oM) ?_
 rintro _ H1 ⟨e1,c5,rfl,nv⟩
 obtain ⟨s5,rfl,ho5⟩:=nv.inv
 have hx1:=e1.get mc.r1
 have hle:=e1.len
 have hl1:=mc.len
 refine g2 @hx1 @ho5 ?_
 have:=mc.kid (n':=.opt (ptN n (mkXs l) 0)) rfl e1 nv
 simp only[Nd.kind,Nd.st,Nd.lo,Nd.hi] at this
 exact WP.ret this
theorem c1M (mc:MC h h1 k n l s css)(hS:∀c∈l,MakeS c):WP (λi:Nat=>d1_ i (.ptr h.length 0 3 0) (.ptr (h.length+1) 0 5 0) (I 13) (.bool false) h1) (NewN h (.rep (n % 4).toNat ((n % 4).toNat+(wr (n.tdiv 4) % 3).toNat) (ptN n (mkXs l) 0))):=by
 refine WP.congr (h3_ · ..) ?_
 refine g0 ?_
 exact c3n mc hS
theorem b6n (mc:MC h h1 k n l s css)(hS:∀c∈l,MakeS c)(c:AV):WP (λi:Nat=>d1_ i (.ptr h.length 0 3 0) (.ptr (h.length+1) 0 5 0) c (.bool true) h1) (NewN h (.uni (ptsN n (mkXs l)))):=by
 refine WP.congr (h3_ · ..) ?_
 refine g0 ?_
 rw[b6m]
 exact WP.ent (c3m mc hS (max 2 (min l.length 4)) 0 .nils 0 [] _ oM (NB.new h1 _)) λi=>rfl
theorem b2b (mc:MC h h1 k n l s css)(hS:∀c∈l,MakeS c)(c:AV):WP (λi:Nat=>k1_ i (.ptr h.length 0 3 0) (.ptr (h.length+1) 0 5 0) c (.bool true) h1) (NewN h (.join (ptsN n (mkXs l)))):=by
 refine WP.congr (d2_ · ..) ?_
 refine g0 ?_
 rw[b6m]
 exact WP.ent (c3l mc hS (max 2 (min l.length 4)) 0 .nils 0 [] _ oM (NB.new h1 _)) λi=>rfl
theorem b6o (mc:MC h h1 k n l s css)(c:AV):WP (λi:Nat=>s0_ i (.ptr h.length 0 3 0) (.ptr (h.length+1) 0 5 0) c (.bool true) h1) (NewN h (.set (1+(n % 31).toNat))):=by
 refine WP.congr (a8_ · ..) ?_
 have hx0:=mc.r0
 have hx1:=mc.r1
 have hl1:=mc.len
 refine g1 @hx0 ?_
 refine WP.call (a0O (n:=31) oM (by unfold Fit; omega) h1) ?_
 rintro _ _ ⟨rfl,rfl⟩
 have a1:0<=n % 31/\n % 31<31:=⟨Int.emod_nonneg _ oM,Int.emod_lt_of_pos _ oM⟩
 obtain ⟨a,ha⟩:∃a:Nat,n % 31=a:=⟨(n % 31).toNat,oM⟩
 refine g2 @hx1 @ha ?_
 have:=mc.leaf (n':=.set (1+a)) rfl (Ext.refl _)
 try rw[show (n % 31).toNat=a by omega]
 simp only[Nd.kind,Nd.st,Nd.lo,Nd.hi,Int.natCast_add] at this
 exact WP.ret this
theorem b6p (mc:MC h h1 k n l s css)(c:AV):WP (λi:Nat=>k0_ i (.ptr h.length 0 3 0) (.ptr (h.length+1) 0 5 0) c (.bool true) h1) (NewN h (sgn n)):=by
 refine WP.congr (b4_ · ..) ?_
 have hx0:=mc.r0
 have hx1:=mc.r1
 have hl1:=mc.len
 refine g1 @hx0 ?_
 refine WP.call (a0O (n:=5) oM (by unfold Fit; omega) h1) ?_
 rintro _ _ ⟨rfl,rfl⟩
 have a1:0<=n % 5/\n % 5<5:=⟨Int.emod_nonneg _ oM,Int.emod_lt_of_pos _ oM⟩
 obtain ⟨m,hm⟩:∃m:Int,n % 5=m:=⟨_,rfl⟩
 rw[hm] at a1
 refine g2 @hx1 @hm ?_
 have:=mc.leaf (n':=.set (2 ^ m.toNat)) rfl (Ext.refl _)
 rw[show sgn n=.set (2 ^ m.toNat) by rw[sgn,hm]]
 simp only[Nd.kind,Nd.st,Nd.lo,Nd.hi] at this
 exact WP.ret this
theorem c3o (mc:MC h h1 k n l s css):WP (λi:Nat=>k0_ i (.ptr h.length 0 3 0) (.ptr (h.length+1) 0 5 0) (I 4) (.bool false) h1) (NewN h (if n % 3=0 then .emp else .eps)):=by
 refine WP.congr (b4_ · ..) ?_
 obtain ⟨h2,hh2⟩:∃h2,h2=h1++[AObj.cells ⟨[I 2,I 3,I 3],0,0,false⟩]:=⟨_,rfl⟩
 have e2:Ext h1 h2:=by rw[hh2]; exact eX
 have hx0:=e2.get mc.r0
 have hx1:=e2.get mc.r1
 have hl1:=mc.len
 have hl2:h2.length=h1.length+1:=by rw[hh2]; simp
 have hx2:h2[h1.length]?=some (.cells ⟨[I 2,I 3,I 3],0,0,false⟩):=by rw[hh2]; simp
 refine g0 ?_
 rw[<-hh2]
 refine g1 mc.r0 ?_
 refine WP.call (a0O (n:=3) oM (by unfold Fit; omega) h2) ?_
 rintro _ _ ⟨rfl,rfl⟩
 have a1:0<=n % 3/\n % 3<3:=⟨Int.emod_nonneg _ oM,Int.emod_lt_of_pos _ oM⟩
 have a2:n % 3=0\/n % 3=1\/n % 3=2:=oM
 rcases a2 with a2|a2|a2
 ·rw[if_pos a2]
  refine g4 @hx1 @hx2 @a2 (show Int.toNat 0=0 from rfl) ?_
  exact WP.ret (mc.leaf (n':=.emp) rfl e2)
 ·rw[if_neg oM]
  refine g4 @hx1 @hx2 @a2 (show Int.toNat 1=1 from rfl) ?_
  exact WP.ret (mc.leaf (n':=.eps) rfl e2)
 ·rw[if_neg oM]
  refine g4 @hx1 @hx2 @a2 (show Int.toNat 2=2 from rfl) ?_
  exact WP.ret (mc.leaf (n':=.eps) rfl e2)
end
theorem b6q (r:Rw):MakeS r:=by
 refine Rw.ind (p:=MakeS) ?_ r
 rintro ⟨k,n,l⟩ hS c3 h rv
 cases rv with
 |@mk _ _ _ s css sl rv=>
 refine WP.tot (a8i · ..) ?_
 have hso:=sl.one
 obtain ⟨h1,hh1⟩:∃h1,h1=(h++[AObj.cells ⟨[I k,I n,s],0,0,false⟩])++[AObj.cells ⟨[I 0,I 0,I 0,I 0,.nils],0,0,false⟩]:=⟨_,rfl⟩
 have e1:Ext h h1:=by rw[hh1]; exact eX
 have mc:MC h h1 k n l s css:=⟨e1,by rw[hh1]; simp,by rw[hh1]; simp,by rw[hh1]; simp,sl.ext e1,rv.ext e1⟩
 have hx0:=mc.r0
 refine g1 @hso ?_
 rw[<-hh1]
 refine WP.call (a0O (n:=14) oM (by unfold Fit; omega) h1) ?_
 rintro _ _ ⟨rfl,rfl⟩
 have a1:0<=k % 14/\k % 14<14:=⟨Int.emod_nonneg _ oM,Int.emod_lt_of_pos _ oM⟩
 obtain ⟨c,hc⟩:∃c:Nat,k % 14=c:=⟨(k % 14).toNat,oM⟩
 have hmk:mkX (.mk k n l)=mkOf k n (mkXs l):=by rw[mkX]
 have hct:(k % 14).toNat=c:=oM
 rw[hmk]
 unfold mkOf
 rw[hct,hc]
 have hcc:c=0\/c=1\/c=2\/c=3\/c=4\/c=5\/c=6\/c=7\/c=8\/c=9\/c=10\/c=11\/c=12\/c=13:=oM
 rcases hcc with rfl|rfl|rfl|rfl|rfl|rfl|rfl|rfl|rfl|rfl|rfl|rfl|rfl|rfl
 ·refine g0 ?_
  exact b6o mc _
 ·refine g0 ?_
  exact b6o mc _
 ·refine g0 ?_
  refine WP.congr (a8_ · ..) ?_
  refine g0 ?_
  exact b6p mc _
 ·refine g0 ?_
  refine WP.congr (a8_ · ..) ?_
  refine g0 ?_
  exact b6p mc _
 ·refine g0 ?_
  refine WP.congr (a8_ · ..) ?_
  refine g0 ?_
  exact c3o mc
 ·refine g0 ?_
  refine WP.congr (a8_ · ..) ?_
  refine g0 ?_
  refine WP.congr (b4_ · ..) ?_
  refine g0 ?_
  exact b2b mc hS _
 ·refine g0 ?_
  refine WP.congr (a8_ · ..) ?_
  refine g0 ?_
  refine WP.congr (b4_ · ..) ?_
  refine g0 ?_
  exact b2b mc hS _
 ·refine g0 ?_
  refine WP.congr (a8_ · ..) ?_
  refine g0 ?_
  refine WP.congr (b4_ · ..) ?_
  refine g0 ?_
  exact b2b mc hS _
 ·refine g0 ?_
  refine WP.congr (a8_ · ..) ?_
  refine g0 ?_
  refine WP.congr (b4_ · ..) ?_
  refine g0 ?_
  refine WP.congr (d2_ · ..) ?_
  refine g0 ?_
  exact b6n mc hS _
 ·refine g0 ?_
  refine WP.congr (a8_ · ..) ?_
  refine g0 ?_
  refine WP.congr (b4_ · ..) ?_
  refine g0 ?_
  refine WP.congr (d2_ · ..) ?_
  refine g0 ?_
  exact b6n mc hS _
 ·refine g0 ?_
  refine WP.congr (a8_ · ..) ?_
  refine g0 ?_
  refine WP.congr (b4_ · ..) ?_
  refine g0 ?_
  refine WP.congr (d2_ · ..) ?_
  refine g0 ?_
  exact c1J mc hS
 ·refine g0 ?_
  refine WP.congr (a8_ · ..) ?_
  refine g0 ?_
  refine WP.congr (b4_ · ..) ?_
  refine g0 ?_
  refine WP.congr (d2_ · ..) ?_
  refine g0 ?_
  exact c1K mc hS
 ·refine g0 ?_
  refine WP.congr (a8_ · ..) ?_
  refine g0 ?_
  refine WP.congr (b4_ · ..) ?_
  refine g0 ?_
  refine WP.congr (d2_ · ..) ?_
  refine g0 ?_
  exact c1L mc hS
 ·refine g0 ?_
  refine WP.congr (a8_ · ..) ?_
  refine g0 ?_
  refine WP.congr (b4_ · ..) ?_
  refine g0 ?_
  refine WP.congr (d2_ · ..) ?_
  refine g0 ?_
  exact c1M mc hS
end Go.Gm.AZ
namespace Go.Gm.AZ
open Go Go.Gm
mutual
def cntR:Rw->Nat
 |.mk _ _ l=>1+cntRs l
def cntRs:List Rw->Nat
 |[]=>0
 |r::l=>cntR r+cntRs l
end
theorem c0a (r:Rw):cntR r=1+cntRs r.kids:=by cases r; rw[cntR]; rfl
theorem b6r:∀(d:Nat) (rs:List Rw),szF d rs<=14->(cntRs rs:Int)<=szF d rs
 |0,rs,h=>by simp[szF] at h
 |d+1,rs,h=>by
  have:∀(rs:List Rw) (n:Int),0<=n->szAdd d n rs<=14->n+cntRs rs<=szAdd d n rs:=by
   intro rs
   induction rs with
   |nil=>intro n h0 h; simp[szAdd,cntRs]
   |cons r rs ih=>
    intro n hp h
    have hs:szAdd d n (r::rs)=szAdd d (if n<=14 then n+1+szF d r.kids else n) rs:=rfl
    rw[hs] at h ⊢
    by_cases hn:n<=14
    ·rw[if_pos hn] at h ⊢
     have hr:=b6l d r.kids
     have h1:=ih _ oM h
     have h2:n+1+szF d r.kids<=14:=by
      by_cases q:n+1+szF d r.kids<=14
      ·exact q
      ·rw[b1q d rs q] at h; omega
     have h0:=b6r d r.kids oM
     rw[cntRs,c0a]
     omega
    ·rw[if_neg hn,b1q d rs hn] at h
     omega
  have:=this rs 0 oM h
  simp only[szAdd] at this
  simp only[szF]; omega
theorem b2x:ptN n ls i∈ls\/ptN n ls i=sgn (wr (n+i)):=by
 simp only[ptN,List.getD_eq_getElem?_getD]
 cases h:ls[i]? with
 |none=>exact .inr rfl
 |some c=>exact .inl (List.mem_of_getElem? h)
theorem b3s (n:Int)(ls:List Nd):(ptsN n ls).length=max 2 (min ls.length 4):=by simp[ptsN]
def oneN:List Rw->Nd
 |[]=>.set 1
 |r::_=>mkX r
theorem a9e (hs:Sl h 3 s css)(hr:RVs h l css) :
  Tot tab g9_ [s] h λr h'=>r=.bool (decide (szF 7 l<=14))/\h=h':=by
 refine WP.tot (b1c · ..) ?_
 have:=b9Y 7 oM l s css h hs hr
 rw[show (7:Int)-((7:Nat):Int)=0 by omega] at this
 refine WP.call this ?_
 rintro _ _ ⟨rfl,rfl⟩
 refine g1 @b2G ?_
 exact WP.ret ⟨rfl,rfl⟩
theorem a9M (hs:Sl h 3 s css)(hr:RVs h l css) :
  Tot tab j7_ [s] h (NewN h (oneN l)):=by
 refine WP.tot (b1d · ..) ?_
 obtain ⟨h1,hh1⟩:∃h1,h1=h++[AObj.cells ⟨[I 0,I 0,I 0,I 0,.nils],0,0,false⟩]:=⟨_,rfl⟩
 have e1:Ext h h1:=by rw[hh1]; exact eX
 have hl1:h1.length=h.length+1:=by rw[hh1]; simp
 have hx1:h1[h.length]?=some (.cells ⟨[I 0,I 0,I 0,I 0,.nils],0,0,false⟩):=by rw[hh1]; simp
 have sl':Sl h1 3 s (css.map λx=>x):=by rw[List.map_id']; exact hs.ext e1
 have hlen:=hr.len
 refine g0 ?_
 rw[<-hh1]
 have fin:∀{n':Nd} {c5:List AV} {H:Heap} (e:Ext h1 H) (nv:NVD H (λo=>h1.length<=o/\o<H.length) n' c5),NewN h n' (.agg c5) (H.set h.length (.cells ⟨c5,0,0,false⟩)):=by
  intro n' c5 H e nv
  have:=e.len
  refine ⟨(e1.trans e).set oM _,c5,rfl,nv.frs (FrS.set1 H h.length _) (λo h1 h2 h3=>oM) λo h1 h2=>⟨oM,by simp; exact h2.2⟩⟩
 cases l with
 |nil=>
  have h0:css.length=0:=by simpa using hlen.symm
  refine g2 sl'.lenG @hx1 ?_
  exact WP.ret (fin (Ext.refl _) (a9f (n:=.set 1) rfl))
 |cons r l=>
  obtain ⟨cs,hcs,rv⟩:=hr.get (i:=0) (r:=r) rfl
  have hg:gi css (0:Int)=cs:=b6k hcs
  have h0:0<css.length:=by rw[<-hlen]; simp
  have e0:=Ext.refl h1
  refine g4 sl'.lenG sl'.idxG sl'.ldN @hg ?_
  refine WP.call (b6q r cs h1 (rv.ext e1)) ?_
  rintro _ H ⟨e2,c5,rfl,nv⟩
  have hx2:=e2.get hx1
  obtain ⟨s5,rfl,ho5⟩:=nv.inv
  have hHl:=e2.len
  refine g2 @hx2 @ho5 ?_
  exact WP.ret (fin e2 nv)
end Go.Gm.AZ
namespace Go.Gm.AZ
open Go Go.Gm
def sumF (f:Nd->Nat)(l:List Nd):Nat:=(l.map f).sum
theorem c0b (n:Int)(ls:List Nd):∃(a b:List Nd),ptsN n ls=a++b/\a.Sublist ls/\(∀c∈b,∃m,c=sgn m)/\b.length<=2/\(a.length+b.length<=4):=by
 match ls with
 |[]=>exact ⟨[],[sgn (wr (n+((0:Nat):Int))),sgn (wr (n+((1:Nat):Int)))],rfl,by simp,(by simp; exact ⟨⟨_,rfl⟩,_,rfl⟩),by simp,by simp⟩
 |[a]=>exact ⟨[a],[sgn (wr (n+((1:Nat):Int)))],rfl,by simp,(by simp; exact ⟨_,rfl⟩),by simp,by simp⟩
 |[a,b]=>exact ⟨[a,b],[],rfl,by simp,by simp,by simp,by simp⟩
 |[a,b,c]=>exact ⟨[a,b,c],[],rfl,by simp,by simp,by simp,by simp⟩
 |a::b::c::d::l=>
  refine ⟨[a,b,c,d],[],?_,by simp,by simp,by simp,by simp⟩
  have:max 2 (min (a::b::c::d::l).length 4)=4:=by simp
  rw[ptsN,this]; rfl
theorem c3p {a l:List Nd}(h:a.Sublist l):sumF f a<=sumF f l:=by
 induction h with
 |slnil=>exact Nat.le_refl _
 |cons x h ih=>simp only[sumF,List.map_cons,List.sum_cons] at *; omega
 |cons_cons x h ih=>simp only[sumF,List.map_cons,List.sum_cons] at *; omega
theorem b7S {f:Nd->Nat}{c:Nat}(hf:∀m,f (sgn m)<=c)(n:Int)(ls:List Nd):sumF f (ptsN n ls)<=2*c+sumF f ls:=by
 obtain ⟨a,b,e,h1,h2,h3,h4⟩:=c0b n ls
 have hb:sumF f b<=b.length*c:=by
  clear e h3 h4
  induction b with
  |nil=>simp[sumF]
  |cons x b ih=>
   have h5:=ih λc hc=>h2 c (List.mem_cons_of_mem _ hc)
   obtain ⟨m,rfl⟩:=h2 x (by simp)
   have h6:=hf m
   simp only[sumF,List.map_cons,List.sum_cons,List.length_cons,Nat.succ_mul] at *; omega
 have ha:=c3p (f:=f) h1
 have:b.length*c<=2*c:=Nat.mul_le_mul_right _ h3
 rw[e]
 simp only[sumF,List.map_append,List.sum_append] at *; omega
theorem b6s {f:Nd->Nat}{c:Nat}(hf:∀m,f (sgn m)<=c)(n:Int)(ls:List Nd)(i:Nat):f (ptN n ls i)<=c+sumF f ls:=by
 rcases b2x (n:=n) (ls:=ls) (i:=i) with q|q
 ·have:∀(l:List Nd) (x:Nd),x∈l->f x<=sumF f l:=by
   intro l x hx
   induction l with
   |nil=>simp at hx
   |cons y l ih=>
    simp only[sumF,List.map_cons,List.sum_cons]
    rcases List.mem_cons.1 hx with rfl|hx
    ·omega
    ·have:=ih hx; simp only[sumF] at this; omega
  have:=this ls _ q; omega
 ·rw[q]; have:=hf (wr (n+i)); omega
theorem c4Y:∀k:Fin 5,(2 ^ k.val:Nat)<=16/\1<=2 ^ k.val/\(setT (2 ^ k.val)).length=1:=by decide
theorem b7T (m:Int):∃s,sgn m=.set s/\1<=s/\s<=31/\(setT s).length=1:=by
 have a1:0<=m % 5/\m % 5<5:=⟨Int.emod_nonneg _ oM,Int.emod_lt_of_pos _ oM⟩
 have:=c4Y ⟨(m % 5).toNat,oM⟩
 exact ⟨_,rfl,this.2.1,by have:=this.1; simp only at this ⊢; omega,this.2.2⟩
theorem a8x (h:RtN n)(hk:n.kids=[]):Gd n:=.mk h (by simp[hk])
theorem b4c (m:Int):Gd (sgn m):=by
 obtain ⟨s,e,h1,h2,_⟩:=b7T m
 rw[e]; exact a8x ⟨h1,h2⟩ rfl
theorem gd_pt {ls:List Nd}(h:∀c∈ls,Gd c)(i:Nat):Gd (ptN n ls i):=by
 rcases b2x (n:=n) (ls:=ls) (i:=i) with q|q
 ·exact h _ q
 ·rw[q]; exact b4c _
theorem gd_of (k n:Int)(ls:List Nd)(h:∀c∈ls,Gd c):Gd (mkOf k n ls):=by
 have hp:=b3s n ls
 have h2:∀c∈ptsN n ls,Gd c:=λc hc=>by
  simp only[ptsN,List.mem_map] at hc
  obtain ⟨i,_,rfl⟩:=hc
  exact gd_pt h i
 have h1:∀c∈[ptN n ls 0],Gd c:=λc hc=>by rw[List.mem_singleton.1 hc]; exact gd_pt h 0
 have a1:0<=n % 4/\n % 4<4:=⟨Int.emod_nonneg _ oM,Int.emod_lt_of_pos _ oM⟩
 have a2:0<=wr (n.tdiv 4) % 3/\wr (n.tdiv 4) % 3<3:=⟨Int.emod_nonneg _ oM,Int.emod_lt_of_pos _ oM⟩
 have a3:0<=n % 31/\n % 31<31:=⟨Int.emod_nonneg _ oM,Int.emod_lt_of_pos _ oM⟩
 unfold mkOf
 split
 ·exact a8x (show 1<=_/\_<=31 by omega) rfl
 ·exact a8x (show 1<=_/\_<=31 by omega) rfl
 ·exact b4c n
 ·exact b4c n
 ·split<;>exact a8x trivial rfl
 ·exact .mk (show 2<=(ptsN n ls).length by omega) h2
 ·exact .mk (show 2<=(ptsN n ls).length by omega) h2
 ·exact .mk (show 2<=(ptsN n ls).length by omega) h2
 ·exact .mk (show 2<=(ptsN n ls).length by omega) h2
 ·exact .mk (show 2<=(ptsN n ls).length by omega) h2
 ·exact .mk trivial h1
 ·exact .mk trivial h1
 ·exact .mk trivial h1
 ·exact .mk (show _<=_/\_<=9 by omega) h1
theorem b7U (r:Rw):Gd (mkX r):=by
 refine Rw.ind (p:=λr=>Gd (mkX r)) ?_ r
 rintro ⟨k,n,l⟩ ih
 rw[mkX]
 refine gd_of k n _ λc hc=>?_
 rw[a5m,List.mem_map] at hc
 obtain ⟨r,hr,rfl⟩:=hc
 exact ih r hr
theorem bd_of (g:Gd n)(h:n.kids.length<=1000)(hk:∀c∈n.kids,Bd c):Bd n:=.mk (Nat.lt_trans (st_lt g) (by decide)) h hk
theorem c4Z (m:Int):Bd (sgn m):=bd_of (b4c m) (by simp[sgn,Nd.kids]) (by simp[sgn,Nd.kids])
theorem c3q (r:Rw):Bd (mkX r):=by
 refine Rw.ind (p:=λr=>Bd (mkX r)) ?_ r
 rintro ⟨k,n,l⟩ ih
 have g:=b7U (.mk k n l)
 rw[mkX] at g ⊢
 have hp:=b3s n (mkXs l)
 have hm:∀c∈mkXs l,Bd c:=λc hc=>by
  rw[a5m,List.mem_map] at hc
  obtain ⟨r,hr,rfl⟩:=hc
  exact ih r hr
 have h0:∀i,Bd (ptN n (mkXs l) i):=λi=>by
  rcases b2x (n:=n) (ls:=mkXs l) (i:=i) with q|q
  ·exact hm _ q
  ·rw[q]; exact c4Z _
 have h2:∀c∈ptsN n (mkXs l),Bd c:=λc hc=>by
  simp only[ptsN,List.mem_map] at hc
  obtain ⟨i,_,rfl⟩:=hc
  exact h0 i
 refine bd_of g ?_ ?_
 ·unfold mkOf
  split<;>(try split)<;>simp only[Nd.kids,sgn,List.length_nil,List.length_cons]<;>omega
 ·unfold mkOf
  intro c hc
  split at hc<;>(try split at hc)<;>simp only[Nd.kids,sgn,List.mem_singleton,List.not_mem_nil] at hc<;>first|exact h2 c hc|(rw[hc]; exact h0 0)
def wT (c:Nd):Nat:=(pcT c).length
theorem b4J (b:Bool)(t:List Nat):(prn b t).length=t.length+if b then 2 else 0:=by cases b<;>simp[prn]
theorem wT_eq (c:Nd):wT c=(txt c).length+if (isU c || isJ c)=true then 2 else 0:=b4J _ _
theorem b7V (c:Nd):wT (.star c)=wT c+1:=by rw[wT_eq,txt,List.length_append]; rfl
theorem b7W (c:Nd):wT (.plus c)=wT c+1:=by rw[wT_eq,txt,List.length_append]; rfl
theorem c0c (c:Nd):wT (.opt c)=wT c+1:=by rw[wT_eq,txt,List.length_append]; rfl
theorem c0d (a b:Nat)(c:Nd):wT (.rep a b c)=wT c+5:=by rw[wT_eq,txt,List.length_append]; rfl
theorem b7X (l:List Nd):wT (.join l)=(txtj l).length+2:=by rw[wT_eq,txt]; rfl
theorem c0e (l:List Nd):wT (.uni l)=(txtu l).length+2:=by rw[wT_eq,txt]; rfl
theorem jn_le (c:Nd):(prn (isU c) (txt c)).length<=wT c:=by
 rw[wT_eq,b4J]
 cases isU c<;>simp
theorem b6t (l:List Nd):(txtj l).length=sumF wT l:=by
 induction l with
 |nil=>rfl
 |cons c l ih=>rw[txtj,List.length_append,ih]; rfl
theorem c1N (l:List Nd):(txtr l).length<=sumF wT l+l.length:=by
 induction l with
 |nil=>exact Nat.le_refl _
 |cons c l ih=>
  have:=jn_le c
  simp only[txtr,List.length_cons,List.length_append,sumF,List.map_cons,List.sum_cons] at *; omega
theorem b6u (l:List Nd):(txtu l).length<=sumF wT l+l.length:=by
 cases l with
 |nil=>exact Nat.le_refl _
 |cons c l=>
  have:=jn_le c
  have:=c1N l
  simp only[txtu,List.length_cons,List.length_append,sumF,List.map_cons,List.sum_cons] at *; omega
theorem c1O (l:List Nd):csts l=sumF (λc=>20+cst c) l:=by
 induction l with
 |nil=>rfl
 |cons c l ih=>simp only[csts,sumF,List.map_cons,List.sum_cons] at *; omega
theorem c5a {m:Nat}(l:List Nd)(h:∀c∈l,dp c<=m):dps l<=m:=by
 induction l with
 |nil=>exact Nat.zero_le _
 |cons c l ih=>
  have:=ih λc hc=>h c (List.mem_cons_of_mem _ hc)
  have:=h c (by simp)
  rw[dps]; omega
theorem c1P:∀s:Fin 32,(setT s.val).length<=7:=by decide
theorem sgn_w (m:Int):wT (sgn m)<=1:=by
 obtain ⟨s,e,_,_,h⟩:=b7T m
 rw[e,wT_eq]; simp[txt,isU,isJ,h]
theorem sgn_c (m:Int):20+cst (sgn m)<=70:=Nat.le_refl _
theorem w_of (k n:Int)(ls:List Nd):wT (mkOf k n ls)<=8+sumF wT ls/\20+cst (mkOf k n ls)<=180+sumF (λc=>20+cst c) ls:=by
 have h1:=b7S (f:=wT) (c:=1) sgn_w n ls
 have h2:=b6s (f:=wT) (c:=1) sgn_w n ls 0
 have h3:=b7S (f:=λc=>20+cst c) (c:=70) sgn_c n ls
 have h4:=b6s (f:=λc=>20+cst c) (c:=70) sgn_c n ls 0
 have h5:=b6t (ptsN n ls)
 have h6:=b6u (ptsN n ls)
 have h7:=c1O (ptsN n ls)
 have h8:=sgn_w n
 have hp:(ptsN n ls).length<=4:=by rw[b3s]; omega
 have h9:wT (.set (1+(n % 31).toNat))<=8:=by
  have a3:0<=n % 31/\n % 31<31:=⟨Int.emod_nonneg _ oM,Int.emod_lt_of_pos _ oM⟩
  have:=c1P ⟨1+(n % 31).toNat,oM⟩
  rw[wT_eq]; simp only[txt,isU,isJ] at *; simp; omega
 have hw:wT (ptN n ls 0)=(prn (isU (ptN n ls 0) || isJ (ptN n ls 0)) (txt (ptN n ls 0))).length:=rfl
 unfold mkOf
 split
 ·exact ⟨oM,by simp[cst]; omega⟩
 ·exact ⟨oM,by simp[cst]; omega⟩
 ·exact ⟨oM,by have:=sgn_c n; omega⟩
 ·exact ⟨oM,by have:=sgn_c n; omega⟩
 ·split<;>exact ⟨by rw[wT_eq]; simp[txt,isU,isJ]; omega,by simp[cst]; omega⟩
 all_goals first
  |(refine ⟨?_,?_⟩
    ·simp only[b7V,b7W,c0c,c0d,b7X,c0e]; omega
    ·simp only[cst]; omega)
theorem c0f (r:Rw):wT (mkX r)<=8*cntR r/\20+cst (mkX r)<=180*cntR r/\dp (mkX r)<=cntR r:=by
 refine Rw.ind (p:=λr=>wT (mkX r)<=8*cntR r/\20+cst (mkX r)<=180*cntR r/\dp (mkX r)<=cntR r) ?_ r
 rintro ⟨k,n,l⟩ ih
 have key:∀l:List Rw,(∀c∈l,wT (mkX c)<=8*cntR c/\20+cst (mkX c)<=180*cntR c/\dp (mkX c)<=cntR c)->sumF wT (mkXs l)<=8*cntRs l/\sumF (λc=>20+cst c) (mkXs l)<=180*cntRs l/\∀c∈mkXs l,dp c<=cntRs l:=by
  intro l
  induction l with
  |nil=>exact λ_=>⟨Nat.le_refl _,Nat.le_refl _,λc hc=>by simp[mkXs] at hc⟩
  |cons r l ih=>
   intro h
   obtain ⟨h1,h2,h3⟩:=ih λc hc=>h c (List.mem_cons_of_mem _ hc)
   obtain ⟨h4,h5,h6⟩:=h r (by simp)
   refine ⟨?_,?_,λc hc=>?_⟩
   ·simp only[mkXs,sumF,List.map_cons,List.sum_cons,cntRs] at *; omega
   ·simp only[mkXs,sumF,List.map_cons,List.sum_cons,cntRs] at *; omega
   ·rw[mkXs] at hc
    rw[cntRs]
    rcases List.mem_cons.1 hc with rfl|hc
    ·omega
    ·have:=h3 c hc; omega
 obtain ⟨k1,k2,k3⟩:=key l ih
 obtain ⟨h1,h2⟩:=w_of k n (mkXs l)
 rw[mkX,cntR]
 have h0:∀i,dp (ptN n (mkXs l) i)<=cntRs l:=λi=>by
  rcases b2x (n:=n) (ls:=mkXs l) (i:=i) with q|q
  ·exact k3 _ q
  ·rw[q]; exact Nat.zero_le _
 have h4:dps (ptsN n (mkXs l))<=cntRs l:=c5a _ λc hc=>by
  simp only[ptsN,List.mem_map] at hc
  obtain ⟨i,_,rfl⟩:=hc
  exact h0 i
 have h5:=h0 0
 refine ⟨oM,oM,?_⟩
 unfold mkOf
 split<;>(try split)<;>simp only[dp,sgn]<;>omega
theorem b6v (l:List Rw):Gd (oneN l)/\Bd (oneN l):=by
 cases l with
 |nil=>exact ⟨a8x (show 1<=1/\1<=31 by omega) rfl,bd_of (a8x (show 1<=1/\1<=31 by omega) rfl) (by simp[oneN,Nd.kids]) (by simp[oneN,Nd.kids])⟩
 |cons r l=>exact ⟨b7U r,c3q r⟩
theorem c5b (l:List Rw)(h:szF 7 l<=14):(txt (oneN l)).length<=200/\cst (oneN l)+18<=900000/\dp (oneN l)<=30:=by
 have h1:=b6r 7 l h
 cases l with
 |nil=>exact ⟨by decide,by decide,by decide⟩
 |cons r l=>
  obtain ⟨w1,w2,w3⟩:=c0f r
  rw[cntRs] at h1
  have:=wT_eq (mkX r)
  try simp only[oneN]
  exact ⟨oM,oM,oM⟩
end Go.Gm.AZ
