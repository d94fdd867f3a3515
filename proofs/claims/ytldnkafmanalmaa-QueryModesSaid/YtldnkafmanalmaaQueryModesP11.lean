/- A part of the proof (GmAQqd, GmAQqe, GmAQqf, GmAQqg, GmAQqh, GmAQqi, GmAQqj, GmAQqk, GmAQql, GmAQqm, GmAQqn, GmAQqo, GmAQqp, GmAQqs). -/
import Derived.Test.YtldnkafmanalmaaQueryModesP10
set_option linter.unusedVariables false
set_option linter.unusedSimpArgs false
set_option linter.unusedSectionVars false
namespace Go.Gm.AQ
open Go Go.Gm
structure WyV2 (b:Heap) (c0:Nat) (h:Heap) (w:AV) (N:Nat) (es:List E) (A:List Ar) (Up Dn:List (List Int)) (D:List (List Int)) (acc:List Bool):Prop where
 eb:Ext b h
 ex:∃o oF sE sR sA sU sDn sD sAc sF us B,w=.ptr o 0 9 0/\h[o]?=some (.cells ⟨[I N,sE,sR,sA,sU,sDn,sD,sAc,sF],0,0,false⟩)/\c0<=o/\Sl b 7 sA (A.map encA)/\Sl b 1 sU (us.map one1)/\us.length=N/\Sl b 5 sD (D.map encR)/\Sl b 1 sAc (acc.map encB)/\Gr oF (oF+1) h 1 sF (B.map one1)/\c0<=oF/\B.length=N/\
  (∀v:Int,0<=v->v<N->Sl b 1 (gi us v) ((gi Up v).map encI))/\Fam (fun o=>c0<=o) h 1 (fun t:Nat=>t<N) (fun t=>gi B (t:Int)) (fun t=>(fallX A (allD Dn N) t).map encI)
theorem WyV2.wy {b h:Heap}{c0:Nat}{w:AV}{N:Nat}{es:List E}{A:List Ar}{Up Dn:List (List Int)}{D:List (List Int)}{acc:List Bool}(x:WyV2 b c0 h w N es A Up Dn D acc):WyV h w N es A Up Dn D acc:=by
 obtain ⟨o,oF,sE,sR,sA,sU,sDn,sD,sAc,sF,us,B,h1,h2,_,h3,h4,h5,h6,h7,h8,_,h9,h10,h11⟩:=x.ex
 exact ⟨o,sE,sR,sA,sU,sDn,sD,sAc,sF,us,B,h1,h2,h3.ext x.eb,h4.ext x.eb,h5,h6.ext x.eb,h7.ext x.eb,h8.sl,h9,fun v v0 v1=>(h10 v v0 v1).ext x.eb,fun v hv=>h11.sl hv⟩
theorem WyV2.frs {b h h':Heap}{c0:Nat}{w:AV}{N:Nat}{es:List E}{A:List Ar}{Up Dn:List (List Int)}{D:List (List Int)}{acc:List Bool}(x:WyV2 b c0 h w N es A Up Dn D acc){P:Nat->Prop}(f:FrS P h h')(hP:∀o,o<h.length->P o->b.length<=o/\o<c0):WyV2 b c0 h' w N es A Up Dn D acc:=by
 obtain ⟨o,oF,sE,sR,sA,sU,sDn,sD,sAc,sF,us,B,h1,h2,ho,h3,h4,h5,h6,h7,h8,hF,h9,h10,h11⟩:=x.ex
 have lo:o<h.length:=(List.getElem?_eq_some_iff.1 h2).1
 have lb:=x.eb.len
 refine ⟨f.ext x.eb fun p hp z=>by have:=hP p oM z; omega,o,oF,sE,sR,sA,sU,sDn,sD,sAc,sF,us,B,h1,by rw[f.get (fun z=>by have:=hP o lo z; omega) lo]; exact h2,ho,h3,h4,h5,h6,h7,?_,hF,h9,h10,h11.frs f fun p hp q z=>by have:=hP p hp z; omega⟩
 by_cases q:sF=.nils
 ·subst q
  have:=h8.isNil
  rw[this]
  exact Gr.nil ..
 ·obtain ⟨oo,po,g'⟩:=h8.point
  have:=po q
  exact h8.frs f fun p p1 p2 z=>by have:=hP p oM z; omega
section
variable {h:Heap} {N LL:Nat} {es:List E} {A:List Ar} {Up Dn:List (List Int)} {D:List (List Int)} {acc:List Bool} {x w sD sAc:AV}
theorem b1F {b:Heap}(eb:Ext b h)(hN:N<=100)(xv:IxV b x N es A Up Dn)(ix:IxS LL N es A Up Dn)(hDb:Sl b 5 sD (D.map encR))(hAb:Sl b 1 sAc (acc.map encB)) :
  Tot tab t9_ [x,.agg [sD,sAc]] h fun r h'=>Ext h h'/\WyV2 b h.length h' r N es A Up Dn D acc:=by
 have hD:=hDb.ext eb
 have hA:=hAb.ext eb
 refine WP.tot (fun k=>b3p k _ _ h) ?_
 obtain ⟨sE,sR,sA,sU,sDn,us,ds,rfl,_,hR,hArb,hUb,_,lu,_,hUpb,_⟩:=xv.ex
 obtain ⟨_,_,_,_,_,us',ds,he,hE,_,hAr,hU,hDn,_,ldd,_,hDp⟩:=(xv.ext eb).ex
 cases he
 have o1:=hE.one
 have o2:=hAr.one
 have o3:=hU.one
 have o4:=hDn.one
 have o5:=hD.one
 have o6:=hA.one
 obtain ⟨h2,hh2⟩:∃h2,h2=(h++[AObj.cells ⟨[I N,sE,sR,sA,sU,sDn],0,0,false⟩])++[AObj.cells ⟨[sD,sAc],0,0,false⟩]:=⟨_,rfl⟩
 have e2:Ext h h2:=by rw[hh2]; exact (Ext.push _ _).app _
 have l2:h2.length=h.length+2:=by rw[hh2]; simp
 have rx:h2[h.length]?=some (.cells ⟨[I N,sE,sR,sA,sU,sDn],0,0,false⟩):=by rw[hh2,m2_ (by simp)]; simp
 have rd:h2[h.length+1]?=some (.cells ⟨[sD,sAc],0,0,false⟩):=by rw[hh2,r8_ (by simp)]; simp
 obtain ⟨sF,h3,c1,c2,c3,c4,c5⟩:=g0_ (zero:=[.nils]) (sz:=1) (bytes:=24) (n:=(N:Int)) h2 oM oM oM rfl rfl
 rw[Int.toNat_natCast] at c2
 have o7:=c2.sl.one
 have o8:=c2.sl.cells
 obtain ⟨h4,hh4⟩:∃h4,h4=h3++[AObj.cells ⟨[I N,sE,sR,sA,sU,sDn,sD,sAc,sF],0,0,false⟩]:=⟨_,rfl⟩
 have e4:Ext h3 h4:=by rw[hh4]; exact Ext.push _ _
 have l4:h4.length=h.length+4:=by rw[hh4]; simp; omega
 have l3:h3.length=h.length+3:=oM
 have rw4:h4[h.length+3]?=some (.cells ⟨[I N,sE,sR,sA,sU,sDn,sD,sAc,sF],0,0,false⟩):=by rw[hh4,<-l3]; simp
 have rx3:=c3.get rx
 have rx4:=e4.get rx3
 have eh:=(e2.trans c3).trans e4
 refine g7 @o1 @hR @o2 @o3 @o4 @o5 @o6 ?_
 rw[<-hh2]
 refine g12 @rx @rd @c1 @o1 @hR @o2 @o3 @o4 @o5 @o6 @o7 @o8 ?_
 rw[<-hh4]
 have lnd:lenS sDn=some (I N):=by rw[hDn.lenG,ldd]
 refine g3 @rx3 @rx4 @lnd ?_
 rw[l3]
 have f0:FL (h.length+4) (h.length+2) sF N (fallX A (allD Dn 0)) h4:=by
  refine ⟨List.replicate N .nils,?_,by simp,Fam.nil _ _ _ fun t ht=>⟨w2_ oM oM,by simp[allD,fallX]⟩⟩
  rw[l2] at c2
  exact (c2.ext e4).cong (by simp[one1])
 refine WP.ent (b9h (h0:=h) hN hAr ix hDn ldd hDp (Q:=fun r h'=>Ext h h'/\WyV2 b h.length h' r N es A Up Dn D acc) (fun h' e' rw' f=>?_) N 0 h4 oM eh rx4 rw4 f0 (by simp[allD]) oM) fun i=>rfl
 obtain ⟨B,g,lB,fm⟩:=f
 exact ⟨e',eb.trans e',h.length+3,h.length+2,sE,sR,sA,sU,sDn,sD,sAc,sF,us,B,rfl,rw',oM,hArb,hUb,lu,hDb,hAb,g,oM,lB,hUpb,fm.mono fun o _ z=>oM⟩
theorem b6F (hN:N<=100)(xv:IxV h x N es A Up Dn)(ix:IxS LL N es A Up Dn)(hD:Sl h 5 sD (D.map encR))(hA:Sl h 1 sAc (acc.map encB)) :
  Tot tab t9_ [x,.agg [sD,sAc]] h fun r h'=>Ext h h'/\WyV h' r N es A Up Dn D acc:=
 (b1F (Ext.refl h) hN xv ix hD hA).mono fun r h' ⟨e,w⟩=>⟨e,w.wy⟩
def idQ (S:Nat)(v s:Int)(b:Bool):Int:=2*(v*S+s)+if b then 1 else 0
theorem b3u (wy:WyV h w N es A Up Dn D acc)(ok:DOk D acc){v s:Int}(v0:0<=v)(v1:v<=100000)(s0:0<=s)(s1:s<=100000)(b:Bool) :
  Tot tab a1x [w,.agg [I v,I s,.bool b]] h fun r h'=>r=I (idQ D.length v s b)/\Ext h h':=by
 obtain ⟨o,sE,sR,sA,sU,sDn,sD,sAc,sF,us,B,rfl,hr,h3,h4,h5,h6,h7,h8,h9,h10,h11⟩:=wy.ex
 refine WP.tot (fun k=>b3q k _ _ h) ?_
 have hl:=ok.l1
 have hm0:0<=v*(D.length:Int):=Int.mul_nonneg v0 oM
 have hm1:v*(D.length:Int)<=100000*2000:=Int.mul_le_mul v1 oM oM oM
 have hw:IntKind.i64.wrap (v*(D.length:Int))=v*D.length:=d6_ oM oM
 have hw2:IntKind.i64.wrap (2*(v*(D.length:Int)+s))=2*(v*D.length+s):=d6_ oM oM
 have hol:o<h.length:=(List.getElem?_eq_some_iff.1 hr).1
 unfold idQ
 generalize hP:v*(D.length:Int)=P at *
 cases b with
 |true=>
  refine g5 @hr h6.lenG @hw @hw2 @hP ?_
  exact WP.ret ⟨rfl,eX⟩
 |false=>
  refine g5 @hr h6.lenG @hw @hw2 @hP ?_
  refine WP.ret ⟨?_,eX⟩
  simp
theorem b4e (wy:WyV h w N es A Up Dn D acc)(ok:DOk D acc){x:Nat}(hx:x<=400000000) :
  Tot tab a2c [w,I x] h fun r h'=>r=.agg [I ((x / 2 / D.length:Nat):Int),I ((x / 2 % D.length:Nat):Int),.bool (x % 2 == 1)]/\Ext h h':=by
 obtain ⟨o,sE,sR,sA,sU,sDn,sD,sAc,sF,us,B,rfl,hr,h3,h4,h5,h6,h7,h8,h9,h10,h11⟩:=wy.ex
 refine WP.tot (fun k=>b1Y k _ _ h) ?_
 have hl:=ok.l0
 have hol:o<h.length:=(List.getElem?_eq_some_iff.1 hr).1
 have hd:x / 2 / D.length<=x / 2:=Nat.div_le_self _ _
 have hw0:IntKind.i64.wrap ((x:Int).tdiv 2)=((x / 2:Nat):Int):=by
  rw[show (2:Int)=((2:Nat):Int) from rfl,<-Int.ofNat_tdiv]
  exact d6_ oM oM
 have hw:IntKind.i64.wrap (((x / 2:Nat):Int).tdiv (D.length:Int))=((x / 2 / D.length:Nat):Int):=by
  rw[<-Int.ofNat_tdiv]
  generalize x / 2 / D.length=q at hd
  exact d6_ oM oM
 have hrm:((x / 2:Nat):Int).tmod (D.length:Int)=((x / 2 % D.length:Nat):Int):=(Int.ofNat_tmod _ _).symm
 have hr2:(x:Int).tmod 2=((x % 2:Nat):Int):=(Int.ofNat_tmod x 2).symm
 by_cases hb:x % 2=1
 ·have hbi:((x % 2:Nat):Int)=1:=oM
  refine g7 @hr h6.lenG @hw0 @hw @hrm @hr2 @hbi ?_
  refine WP.ret ⟨by simp[hb],eX⟩
 ·have hbi:¬((x % 2:Nat):Int)=1:=oM
  refine g7 @hr h6.lenG @hw0 @hw @hrm @hr2 @hbi ?_
  refine WP.ret ⟨by simp[hb],eX⟩
end
end Go.Gm.AQ
namespace Go.Gm.AQ
open Go Go.Gm
structure SchW (W:Nat->Prop) (h:Heap) (os:Nat) (wy q sc se sf:AV) (oc oe ov:Nat) (n:Nat) (cs ds fs:List Int) (M:List (Option Int)):Prop where
 row:h[os]?=some (.cells ⟨[wy,q,sc,se,sf],0,0,false⟩)
 gc:Gr oc (oc+1) h 1 sc (cs.map encI)
 ge:Gr oe (oe+1) h 1 se (ds.map encI)
 gf:Gr ov (ov+1) h 1 sf (fs.map encI)
 lc:cs.length=n
 le:ds.length=n
 lf:fs.length=n
 o1:oc<oe
 o2:oe<ov
 o3:ov<os
 wc:W oc
 we:W oe
 wv:W ov
 ws:W os
 qv:SQ (fun o=>W o/\o≠oc/\o≠oe/\o≠ov/\o≠os) h q n M
section
variable {W:Nat->Prop} {h h':Heap} {os oc oe ov n:Nat} {wy q sc se sf:AV} {cs ds fs:List Int} {M:List (Option Int)}
theorem SchW.os_lt (w:SchW W h os wy q sc se sf oc oe ov n cs ds fs M):os<h.length:=(List.getElem?_eq_some_iff.1 w.row).1
theorem SchW.frs (w:SchW W h os wy q sc se sf oc oe ov n cs ds fs M){D:Nat->Prop}(f:FrS D h h')(hd:∀o,o<h.length->W o->¬D o):SchW W h' os wy q sc se sf oc oe ov n cs ds fs M:=by
 have h1:=w.os_lt
 have:=w.o1
 have:=w.o2
 have:=w.o3
 refine ⟨by rw[f.get (hd _ h1 w.ws) h1]; exact w.row,w.gc.frs f fun o q1 q2=>?_,w.ge.frs f fun o q1 q2=>?_,w.gf.frs f fun o q1 q2=>?_,w.lc,w.le,w.lf,w.o1,w.o2,w.o3,w.wc,w.we,w.wv,w.ws,w.qv.frs f fun o q1 q2=>hd o q1 q2.1⟩
 ·rw[show o=oc by omega]; exact hd _ oM w.wc
 ·rw[show o=oe by omega]; exact hd _ oM w.we
 ·rw[show o=ov by omega]; exact hd _ oM w.wv
theorem SchW.ext (w:SchW W h os wy q sc se sf oc oe ov n cs ds fs M)(e:Ext h h'):SchW W h' os wy q sc se sf oc oe ov n cs ds fs M:=w.frs (D:=fun _=>False) (FrS.ofExt e) fun _ _ _ z=>z
theorem SchW.mono (w:SchW W h os wy q sc se sf oc oe ov n cs ds fs M){W':Nat->Prop}(hw:∀o,o<h.length->W o->W' o):SchW W' h os wy q sc se sf oc oe ov n cs ds fs M:=by
 have h1:=w.os_lt
 have:=w.o1
 have:=w.o2
 have:=w.o3
 refine ⟨w.row,w.gc,w.ge,w.gf,w.lc,w.le,w.lf,w.o1,w.o2,w.o3,hw _ oM w.wc,hw _ oM w.we,hw _ oM w.wv,hw _ h1 w.ws,?_⟩
 obtain ⟨Wq,q1,q2⟩:=w.qv
 exact ⟨Wq,fun o z=>⟨⟨hw o (q1 o z).2 (q1 o z).1.1,(q1 o z).1.2⟩,(q1 o z).2⟩,q2⟩
theorem SchW.setC (w:SchW W h os wy q sc se sf oc oe ov n cs ds fs M){y:Nat}(hy:y<n)(v:Int) :
  ∃h',stN 1 h (elP 1 sc y) (I v)=some h'/\SchW W h' os wy q sc se sf oc oe ov n (cs.set y v) ds fs M/\FrS (fun o=>o=oc) h h':=by
 have:=w.o1
 have:=w.o2
 have:=w.o3
 obtain ⟨h',k1,k2,k3,k4⟩:=w.gc.write0 (i:=(y:Int)) (v:=I v) oM (by rw[List.length_map,w.lc]; omega) rfl rfl
 have f:FrS (fun o=>o=oc) h h':=k3.s.mono fun o z1 z2=>oM
 refine ⟨h',k1,⟨by rw[f.get oM w.os_lt]; exact w.row,k2.cong ?_,w.ge.frs f fun o z1 z2=>oM,w.gf.frs f fun o z1 z2=>oM,by rw[List.length_set]; exact w.lc,w.le,w.lf,w.o1,w.o2,w.o3,w.wc,w.we,w.wv,w.ws,w.qv.frs f fun o z1 z2=>z2.2.1⟩,f⟩
 rw[List.map_set]; simp[encI]; rfl
theorem SchW.setE (w:SchW W h os wy q sc se sf oc oe ov n cs ds fs M){y:Nat}(hy:y<n)(v:Int) :
  ∃h',stN 1 h (elP 1 se y) (I v)=some h'/\SchW W h' os wy q sc se sf oc oe ov n cs (ds.set y v) fs M/\FrS (fun o=>o=oe) h h':=by
 have:=w.o1
 have:=w.o2
 have:=w.o3
 obtain ⟨h',k1,k2,k3,k4⟩:=w.ge.write0 (i:=(y:Int)) (v:=I v) oM (by rw[List.length_map,w.le]; omega) rfl rfl
 have f:FrS (fun o=>o=oe) h h':=k3.s.mono fun o z1 z2=>oM
 refine ⟨h',k1,⟨by rw[f.get oM w.os_lt]; exact w.row,w.gc.frs f fun o z1 z2=>oM,k2.cong ?_,w.gf.frs f fun o z1 z2=>oM,w.lc,by rw[List.length_set]; exact w.le,w.lf,w.o1,w.o2,w.o3,w.wc,w.we,w.wv,w.ws,w.qv.frs f fun o z1 z2=>z2.2.2.1⟩,f⟩
 rw[List.map_set]; simp[encI]; rfl
theorem SchW.setF (w:SchW W h os wy q sc se sf oc oe ov n cs ds fs M){y:Nat}(hy:y<n)(v:Int) :
  ∃h',stN 1 h (elP 1 sf y) (I v)=some h'/\SchW W h' os wy q sc se sf oc oe ov n cs ds (fs.set y v) M/\FrS (fun o=>o=ov) h h':=by
 have:=w.o1
 have:=w.o2
 have:=w.o3
 obtain ⟨h',k1,k2,k3,k4⟩:=w.gf.write0 (i:=(y:Int)) (v:=I v) oM (by rw[List.length_map,w.lf]; omega) rfl rfl
 have f:FrS (fun o=>o=ov) h h':=k3.s.mono fun o z1 z2=>oM
 refine ⟨h',k1,⟨by rw[f.get oM w.os_lt]; exact w.row,w.gc.frs f fun o z1 z2=>oM,w.ge.frs f fun o z1 z2=>oM,k2.cong ?_,w.lc,w.le,by rw[List.length_set]; exact w.lf,w.o1,w.o2,w.o3,w.wc,w.we,w.wv,w.ws,w.qv.frs f fun o z1 z2=>z2.2.2.2.1⟩,f⟩
 rw[List.map_set]; simp[encI]; rfl
theorem SchW.q' (w:SchW W h os wy q sc se sf oc oe ov n cs ds fs M){D:Nat->Prop}(f:FrS D h h')(hd:∀o,D o->o≠oc/\o≠oe/\o≠ov/\o≠os){M':List (Option Int)}(v:SQ (fun o=>W o/\o≠oc/\o≠oe/\o≠ov/\o≠os) h' q n M'):SchW W h' os wy q sc se sf oc oe ov n cs ds fs M':=by
 refine ⟨by rw[f.get (fun z=>(hd _ z).2.2.2 rfl) w.os_lt]; exact w.row,w.gc.frs f fun o q1 q2 z=>(hd o z).1 oM,w.ge.frs f fun o q1 q2 z=>(hd o z).2.1 oM,w.gf.frs f fun o q1 q2 z=>(hd o z).2.2.1 oM,w.lc,w.le,w.lf,w.o1,w.o2,w.o3,w.wc,w.we,w.wv,w.ws,v⟩
end
abbrev WQ:Int:=1000000000000
def hopK (A:List Ar)(D:List (List Int))(b:Bool)(s k:Int):Hop:=((idQ D.length (gi A k).to (nx D s (gi A k).md) b).toNat,k.toNat,(gi A k).co)
def hopQ (N:Nat)(A:List Ar)(Up Dn:List (List Int))(D:List (List Int))(x:Nat):List Hop:=
 (if x % 2=1 then [] else (gi Up ((x / 2 / D.length:Nat):Int)).map (hopK A D false ((x / 2 % D.length:Nat):Int)))++(fallX A (allD Dn N) (x / 2 / D.length)).map (hopK A D true ((x / 2 % D.length:Nat):Int))
theorem a4g {N S:Nat}{v s:Int}(v0:0<=v)(v1:v<N)(s0:0<=s)(s1:s<S)(b:Bool):0<=idQ S v s b/\idQ S v s b<((2*(N*S):Nat):Int):=by
 obtain ⟨h1,h2⟩:=b0o v0 v1 s0 s1
 have h3:((2*(N*S):Nat):Int)=2*((N*S:Nat):Int):=by simp
 unfold idQ
 rw[h3]
 cases b<;>simp<;>omega
section
variable {h0 h:Heap} {wp:AV} {N LL:Nat} {es:List E} {A:List Ar} {Up Dn:List (List Int)} {D:List (List Int)} {acc:List Bool}
theorem by_l1 {W:Nat->Prop}{hb:Heap}{os oc oe ov oat:Nat}{q sc se sf t19:AV}{n:Nat}{Ah:Nat->List Hop}{st:Nat->Prop}{ks:List Int}{rest:List Hop}{id k:Nat}{key v s:Int}{dn d0:Bool}{rk:Nat->Nat}{cs:List Int}(e0:Ext h0 hb)(hW:∀o,W o->h0.length<=o)(hWn:∀o,hb.length<=o->W o)(wv:WyV h0 wp N es A Up Dn D acc)(ix:IxS LL N es A Up Dn)(ok:DOk D acc)(hN:N<=100)(hn:n=2*(N*D.length))(hn2:n<=1000000)(hg:GOk n WQ Ah)(hks:∀k∈ks,0<=k/\k<A.length)(hAt:∀k∈ks,hopK A D dn s k∈Ah id)(ht:Sl h0 1 t19 (ks.map encI))(hid:id<n)(hl:ks.length<=10000000000)(s0:0<=s)(s1:s<D.length)(rat:hb[oat]?=some (.cells ⟨[I v,I s,.bool d0],0,0,false⟩))(hoat:¬W oat)(hc:gi cs id=key)(hk0:0<=key)(hk1:key<=k*WQ)(hkn:k<n) :
  ∀(d i:Nat) (h:Heap) (ds fs:List Int) (M:List (Option Int)),i+d=ks.length->FrS W hb h->SchW W h os wp q sc se sf oc oe ov n cs ds fs M->DI n WQ Ah st id ((ks.drop i).map (hopK A D dn s)++rest) (gf cs) (gf M) (gf ds) (gf fs) rk (k+1)->
   WP (fun p:Nat × Nat=>y8_ p.1 p.2 (.ptr os 0 5 0) (I id) (.bool dn) (.ptr oat 0 3 0) t19 (I ks.length) (I i) h) fun r h'=>r=.tup []/\FrS W hb h'/\
    ∃ds2 fs2 M2,SchW W h' os wp q sc se sf oc oe ov n cs ds2 fs2 M2/\DI n WQ Ah st id rest (gf cs) (gf M2) (gf ds2) (gf fs2) rk (k+1):=by
 have hoat':oat<hb.length:=(List.getElem?_eq_some_iff.1 rat).1
 intro d
 induction d with
 |zero=>
  intro i h ds fs M h1 f w di
  refine WP.rnd (fun i' j=>a5u i' j ..) ?_
  rw[List.drop_eq_nil_of_le oM,List.map_nil,List.nil_append] at di
  refine g0 ?_
  exact WP.ret ⟨rfl,f,ds,fs,M,w,di⟩
 |succ d ih=>
  intro i h ds fs M h1 f w di
  refine WP.rnd (fun i' j=>a5u i' j ..) ?_
  obtain ⟨a,hti⟩:∃a,gi ks i=a:=⟨_,rfl⟩
  have hil:(i:Int)<ks.length:=oM
  have htm:a∈ks:=hti▸b7_ oM hil
  obtain ⟨a0,a1⟩:=hks a htm
  have hdr:ks.drop i=a::ks.drop (i+1):=by
   rw[List.drop_eq_getElem_cons oM]
   congr 1
   rw[<-hti,b2_ oM]
  rw[hdr,List.map_cons,List.cons_append] at di
  obtain ⟨ar,har⟩:∃ar,gi A a=ar:=⟨_,rfl⟩
  have ak:=(ix.arc _ _ (c1_ a0 a1)).1
  rw[har] at ak
  have hto:0<=nx D s ar.md/\nx D s ar.md<D.length:=ok.to s ar.md s0 s1 ak.m0 ak.m1
  obtain ⟨sp1,sp2⟩:=a4g (S:=D.length) ak.t0 ak.t1 hto.1 hto.2 dn
  obtain ⟨y,hy⟩:∃y:Nat,idQ D.length ar.to (nx D s ar.md) dn=y:=⟨(idQ D.length ar.to (nx D s ar.md) dn).toNat,oM⟩
  have hho:hopK A D dn s a=(y,a.toNat,ar.co):=by
   simp only[hopK,har,hy]; rfl
  rw[hho] at di
  have hyn:y<n:=oM
  have hA:(y,a.toNat,ar.co)∈Ah id:=hho▸hAt a htm
  have ex:Ext h0 h:=f.ext e0 fun o q1 q2=>by have:=hW o q2; omega
  have hlo:=ex.len
  have hlb:=f.len
  have hos:=w.os_lt
  obtain ⟨ow,sE,sR,sA,sU,sDn,sD,sAc,sF,us,B,rfl,rw0,wA,wU,wlu,wD,wAc,wF,wlB,wUp,wFl⟩:=wv.ex
  have wA':=wA.ext ex
  have rww:=ex.get rw0
  have how:ow<h.length:=(List.getElem?_eq_some_iff.1 rww).1
  have rath:h[oat]?=some (.cells ⟨[I v,I s,.bool d0],0,0,false⟩):=by rw[f.get hoat hoat']; exact rat
  have ts:=ht.ext ex
  have ldk:=ts.ld0 (H:=h) (i:=(i:Int)) (Ext.refl _) oM hil oM
  rw[hti] at ldk
  replace ldk:Gm.ld1 h (elP 1 t19 (i:Int))=some (I a):=ldk
  have idk:=ts.idxG (i:=(i:Int)) oM hil
  have ida:=wA'.idxG a0 a1
  have ldn:∀H,Ext h H->Gm.ldN 7 H (elP 7 sA a)=some (.agg [I ar.fr,I ar.to,I ar.md,I ar.co,I ar.ed,I ar.a,I ar.b]):=fun H e=>by have:=wA'.ldN (H:=H) (i:=a) e a0 a1; rw[har] at this; exact this
  have hz:AV.int .i64 0=I 0:=rfl
  simp only[hz]
  obtain ⟨h2,hh2⟩:∃h2,h2=(h++[AObj.cells ⟨[I 0,I 0,I 0,I 0,I 0,I 0,I 0],0,0,false⟩]).set h.length (.cells ⟨[I ar.fr,I ar.to,I ar.md,I ar.co,I ar.ed,I ar.a,I ar.b],0,0,false⟩):=⟨_,rfl⟩
  have e2:Ext h h2:=by rw[hh2]; exact eX
  have hl2:h2.length=h.length+1:=by rw[hh2]; simp
  have r2:h2[h.length]?=some (.cells ⟨[I ar.fr,I ar.to,I ar.md,I ar.co,I ar.ed,I ar.a,I ar.b],0,0,false⟩):=by rw[hh2]; exact a0_ (by simp)
  have w2:=w.ext e2
  have ro2:=w2.row
  have ro1:=w.row
  have rw2:=e2.get rww
  have rat2:=e2.get rath
  have wD2:=wD.ext (ex.trans e2)
  obtain ⟨pp,pp1,pp2⟩:=dcell (H:=h2) ok wD2 (Ext.refl _) s0 s1 ak.m0 ak.m1
  have idd:=wD2.idxG s0 s1
  refine g6 @idk @ldk @ro1 @rww @ida @ldn ?_
  rw[<-hh2]
  refine g7 @ro2 @r2 @rw2 @rath @idd @pp1 @pp2 ?_
  refine WP.call (b3u (wv.ext (ex.trans e2)) ok ak.t0 (by have:=ak.t1; omega) hto.1 (by have:=ok.l1; omega) dn) ?_
  rintro _ h3 ⟨rfl,e3⟩
  rw[hy]
  have w3:=w2.ext e3
  have ro3:=w3.row
  have r3:=e3.get r2
  have hl3:=e3.len
  have ex3:=(ex.trans e2).trans e3
  have f3:FrS W hb h3:=f.trans ((FrS.ofExt e2).trans (FrS.ofExt e3))
  have gc3:=w3.gc.sl
  have idc:=gc3.idxG (i:=(y:Int)) oM (by rw[w3.lc]; omega)
  have ldc:=gc3.ld0 (H:=h3) (i:=(y:Int)) (Ext.refl _) oM (by rw[w3.lc]; omega) oM
  replace ldc:Gm.ld1 h3 (elP 1 sc (y:Int))=some (I (gi cs y)):=ldc
  have idi:=gc3.idxG (i:=(id:Int)) oM (by rw[w3.lc]; omega)
  have ldi:=gc3.ld0 (H:=h3) (i:=(id:Int)) (Ext.refl _) oM (by rw[w3.lc]; omega) oM
  replace ldi:Gm.ld1 h3 (elP 1 sc (id:Int))=some (I key):=by rw[ldi,hc]; rfl
  by_cases hcy:0<=gi cs y
  ·refine g3 @ro3 @idc @ldc ?_
   exact ih (i+1) h3 ds fs M oM f3 w3 (di.skip (.inl hcy))
  ·have hcm:=di.neg y hyn hcy
   have hkb:(k:Int)*WQ<=1000000*WQ:=Int.mul_le_mul_of_nonneg_right oM (by decide)
   have c0:=ak.c0
   have c1:=ak.c1
   have hkey:key<=1000000*1000000000000:=by have h5:(1000000:Int)*WQ=1000000*1000000000000:=rfl; omega
   have hq3:SQ (fun o=>(W o/\o≠oc/\o≠oe/\o≠ov/\o≠os)/\o≠h.length) h3 q n M:=((w.qv.wide (P':=fun o=>(W o/\o≠oc/\o≠oe/\o≠ov/\o≠os)/\o≠h.length) fun o o1 o2=>⟨o2,oM⟩).ext e2).ext e3
   have hmu:=hq3.put hn2 (fun o ho=>⟨⟨hWn o oM,by have:=w3.o1; have:=w3.o2; have:=w3.o3; have:=w3.os_lt; omega⟩,oM⟩) (y:Int) (key+ar.co)
   refine g6 @ro3 @idc @ldc @idi @ldi @r3 ?_
   refine WP.call hmu ?_
   rintro _ h4 ⟨rfl,v4,f4⟩
   have w4:=w3.q' f4 (fun o z=>z.1.2) (v4.wide fun o _ z=>z.1)
   have f4b:FrS W hb h4:=f3.trans (f4.mono fun o _ z=>z.1.1)
   have hml:=w.qv.lm
   have gy:gf M y=gi M y:=rfl
   have skip:∀v,gi M y=some v->v<=key+ar.co->putM n M y (key+ar.co)=(M,false):=by
    intro v h1 h2
    rw[putM,if_pos ⟨oM,oM⟩,h1]
    exact if_pos h2
   have put:(∀v,gi M y=some v->¬v<=key+ar.co)->putM n M y (key+ar.co)=(M.set y (some (key+ar.co)),true):=by
    intro h1
    rw[putM,if_pos ⟨oM,oM⟩]
    cases hm:gi M (y:Int) with
    |none=>rfl
    |some v=>exact if_neg (h1 v hm)
   by_cases hm:∃v,gi M y=some v/\v<=key+ar.co
   ·obtain ⟨v,m1,m2⟩:=hm
    rw[skip v m1 m2] at w4 ⊢
    refine g0 ?_
    refine ih (i+1) h4 ds fs M oM f4b w4 (di.skip (.inr ⟨v,m1,?_⟩))
    show v<=gi cs id+ar.co
    omega
   ·have m1:∀v,gi M y=some v->¬v<=key+ar.co:=fun v z1 z2=>hm ⟨v,z1,z2⟩
    rw[put m1] at w4 ⊢
    have ro4:=w4.row
    obtain ⟨h5,s1',w5,f5⟩:=w4.setE hyn a
    obtain ⟨h6,s2',w6,f6⟩:=w5.setF hyn id
    refine g7 @ro4 w4.ge.sl.idxG w4.gf.sl.idxG w4.le w4.lf @s1' @s2' ?_
    refine ih (i+1) h6 _ _ _ oM ((f4b.trans (f5.mono fun o _ z=>z▸w.we)).trans (f6.mono fun o _ z=>z▸w.wv)) w6 ?_
    have:=di.put hg hid (by show 0<=gi cs id; omega) hA (by show gi cs y<0; omega) (fun v z=>by have:=m1 v z; show gi cs id+ar.co<v; omega) (by show gi cs id<=_; omega)
    rw[show gf (M.set y (some (key+ar.co)))=_ from gset oM _,show gf (ds.set y a)=_ from gset (by rw[w.le]; omega) _,show gf (fs.set y (id:Int))=_ from gset (by rw[w.lf]; omega) _]
    have hcc:gf cs id=key:=hc
    have hti2:((a.toNat:Nat):Int)=a:=oM
    rw[hcc,hti2] at this
    exact this
end
end Go.Gm.AQ
namespace Go.Gm.AQ
open Go Go.Gm
section
variable {h0 h:Heap} {wp:AV} {N LL:Nat} {es:List E} {A:List Ar} {Up Dn:List (List Int)} {D:List (List Int)} {acc:List Bool}
theorem b8c {W:Nat->Prop}{os oc oe ov:Nat}{q sc se sf t19:AV}{n:Nat}{Ah:Nat->List Hop}{st:Nat->Prop}{ks:List Int}{rest:List Hop}{id k:Nat}{key:Int}{dn:Bool}{rk:Nat->Nat}{cs ds fs:List Int}{M:List (Option Int)}(e0:Ext h0 h)(hW:∀o,W o->h0.length<=o)(wv:WyV h0 wp N es A Up Dn D acc)(ix:IxS LL N es A Up Dn)(ok:DOk D acc)(hN:N<=100)(hn:n=2*(N*D.length))(hn2:n<=1000000)(hg:GOk n WQ Ah)(hks:∀k∈ks,0<=k/\k<A.length)(hAt:∀k∈ks,hopK A D dn ((id / 2 % D.length:Nat):Int) k∈Ah id)(ht:Sl h0 1 t19 (ks.map encI))(hid:id<n)(hl:ks.length<=10000000000)(hc:gi cs id=key)(hk0:0<=key)(hk1:key<=k*WQ)(hkn:k<n)(w:SchW W h os wp q sc se sf oc oe ov n cs ds fs M)(di:DI n WQ Ah st id (ks.map (hopK A D dn ((id / 2 % D.length:Nat):Int))++rest) (gf cs) (gf M) (gf ds) (gf fs) rk (k+1)) :
  Tot tab a0p [.ptr os 0 5 0,I id,.bool dn,t19] h fun r h'=>r=.tup []/\FrS W h h'/\
    ∃ds2 fs2 M2,SchW (fun o=>W o\/h.length<=o) h' os wp q sc se sf oc oe ov n cs ds2 fs2 M2/\DI n WQ Ah st id rest (gf cs) (gf M2) (gf ds2) (gf fs2) rk (k+1):=by
 refine WP.tot (fun k=>b1Z k _ _ _ _ h) ?_
 have ro:=w.row
 have hS:=ok.l0
 have hos:=w.os_lt
 refine g1 @ro ?_
 refine WP.call (b4e (wv.ext e0) ok (x:=id) oM) ?_
 rintro _ h1 ⟨rfl,e1⟩
 have hz:AV.int .i64 0=I 0:=rfl
 simp only[hz]
 obtain ⟨h2,hh2⟩:∃h2,h2=(h1++[AObj.cells ⟨[I 0,I 0,.bool false],0,0,false⟩]).set h1.length (.cells ⟨[I ((id / 2 / D.length:Nat):Int),I ((id / 2 % D.length:Nat):Int),.bool (id % 2 == 1)],0,0,false⟩):=⟨_,rfl⟩
 have e2:Ext h1 h2:=by rw[hh2]; exact eX
 have l2:h2.length=h1.length+1:=by rw[hh2]; simp
 have r2:h2[h1.length]?=some (.cells ⟨[I ((id / 2 / D.length:Nat):Int),I ((id / 2 % D.length:Nat):Int),.bool (id % 2 == 1)],0,0,false⟩):=by rw[hh2]; exact a0_ (by simp)
 have lnk:=(ht.ext e0).lenG
 refine g1 @lnk ?_
 rw[<-hh2]
 have e12:=e1.trans e2
 have hl1:=e1.len
 have w2:=w.ext e12
 refine WP.ent ((by_l1 (W:=fun o=>(W o/\o<h.length)\/h2.length<=o) (hb:=h2) (st:=st) (Ah:=Ah) (rk:=rk) (k:=k) (rest:=rest) (dn:=dn) (e0.trans e12)
  (fun o z=>?_) (fun o z=>.inr z) wv ix ok hN hn hn2 hg hks hAt ht hid hl (Int.natCast_nonneg _) (Int.ofNat_lt.2 (Nat.mod_lt _ hS)) r2 (fun z=>?_) hc hk0 hk1 hkn ks.length 0 h2 ds fs M (Nat.zero_add _) (FrS.refl _ _) ((w.mono (W':=fun o=>(W o/\o<h.length)\/h2.length<=o) fun o z1 z2=>.inl ⟨z2,z1⟩).ext e12) (by rw[List.drop_zero]; exact di)).mono ?_) fun i=>rfl
 ·rcases z with z|z
  ·exact hW o z.1
  ·have:=(e0.trans e12).len; omega
 ·rcases z with z|z<;>omega
 ·rintro r h' ⟨rfl,f,ds2,fs2,M2,w3,d3⟩
  refine ⟨rfl,⟨by have:=f.len; omega,fun o z1 z2=>?_⟩,ds2,fs2,M2,w3.mono fun o z1 z2=>?_,d3⟩
  ·rw[f.get (fun z=>z.elim (fun z=>z1 z.1) (fun z=>oM)) oM]
   exact (FrS.ofExt (D:=W) e12).get z1 z2
  ·rcases z2 with z|z
   ·exact .inl z.1
   ·exact .inr oM
theorem b3v (ix:IxS LL N es A Up Dn)(ok:DOk D acc):GOk (2*(N*D.length)) WQ (hopQ N A Up Dn D):=by
 refine ⟨by decide,fun x hx y e w hm=>?_⟩
 have hS:=ok.l0
 have hx2:x / 2<N*D.length:=oM
 obtain ⟨d1,d2⟩:=dm hx2
 have key:∀(b:Bool) (k:Int),0<=k->k<A.length->hopK A D b ((x / 2 % D.length:Nat):Int) k=(y,e,w)->y<2*(N*D.length)/\0<=w/\w<=WQ:=by
  intro b k k0 k1 hk
  have ak:=(ix.arc _ _ (c1_ k0 k1)).1
  have hto:0<=nx D ((x / 2 % D.length:Nat):Int) (gi A k).md/\nx D ((x / 2 % D.length:Nat):Int) (gi A k).md<D.length:=ok.to _ _ (Int.natCast_nonneg _) (Int.ofNat_lt.2 d2) ak.m0 ak.m1
  have h1:=a4g (S:=D.length) ak.t0 ak.t1 hto.1 hto.2 b
  simp only[hopK] at hk
  cases hk
  exact ⟨oM,ak.c0,ak.c1⟩
 rcases List.mem_append.1 hm with hm|hm
 ·split at hm
  ·cases hm
  ·obtain ⟨k,hk,he⟩:=List.mem_map.1 hm
   obtain ⟨k0,k1,_⟩:=(ix.rU _ (Int.natCast_nonneg _) (Int.ofNat_lt.2 d1)).2 k hk
   exact key false k k0 k1 he
 ·obtain ⟨k,hk,he⟩:=List.mem_map.1 hm
  have h2:=(List.mem_filter.1 hk).1
  obtain ⟨u,hu,hk2⟩:=List.mem_flatMap.1 h2
  rw[List.mem_range] at hu
  obtain ⟨k0,k1,_⟩:=(ix.rD u oM oM).2 k hk2
  exact key true k k0 k1 he
theorem b1s (ix:IxS LL N es A Up Dn){t:Nat}{k:Int}(hk:k∈fallX A (allD Dn N) t):0<=k/\k<A.length/\(gi A k).fr=(t:Int):=by
 obtain ⟨h2,h3⟩:=List.mem_filter.1 hk
 obtain ⟨u,hu,hk2⟩:=List.mem_flatMap.1 h2
 rw[List.mem_range] at hu
 obtain ⟨k0,k1,_⟩:=(ix.rD u oM oM).2 k hk2
 exact ⟨k0,k1,of_decide_eq_true h3⟩
theorem b6G (ix:IxS LL N es A Up Dn):∀n,n<=N->(allD Dn n).length<=n*50000000
 |0,_=>by simp[allD]
 |n+1,h=>by
  rw[b2e,List.length_append,Nat.succ_mul]
  have:=b6G ix n oM
  have:=(ix.rD n oM oM).1
  omega
end
end Go.Gm.AQ
namespace Go.Gm.AQ
open Go Go.Gm
section
variable {h0 h:Heap} {wp:AV} {N LL:Nat} {es:List E} {A:List Ar} {Up Dn:List (List Int)} {D:List (List Int)} {acc:List Bool}
def QDone (N:Nat)(A:List Ar)(Up Dn D:List (List Int))(st:Nat->Prop)(W:Nat->Prop)(h':Heap)(os:Nat)(wp q sc se sf:AV)(oc oe ov n:Nat):Prop:=
 ∃id2 k2 rk2 cs2 ds2 fs2 M2,SchW W h' os wp q sc se sf oc oe ov n cs2 ds2 fs2 M2/\DI n WQ (hopQ N A Up Dn D) st id2 [] (gf cs2) (gf M2) (gf ds2) (gf fs2) rk2 k2/\(∀x:Nat,x<n->gf M2 x=none)/\un n (gf cs2)+(k2:Int)=n
theorem c3F {W:Nat->Prop}{hb:Heap}{os oc oe ov:Nat}{q sc se sf:AV}{n:Nat}{st:Nat->Prop}(e0:Ext h0 hb)(hW:∀o,W o->h0.length<=o)(hWn:∀o,hb.length<=o->W o)(wv:WyV h0 wp N es A Up Dn D acc)(ix:IxS LL N es A Up Dn)(ok:DOk D acc)(hN:N<=100)(hn:n=2*(N*D.length))(hn2:n<=1000000)(hst:∀x,st x->x<n) :
  ∀(d:Nat) (h:Heap) (id0 k:Nat) (rk:Nat->Nat) (cs ds fs:List Int) (M:List (Option Int)),n+1<=d+k->FrS W hb h->SchW W h os wp q sc se sf oc oe ov n cs ds fs M->DI n WQ (hopQ N A Up Dn D) st id0 [] (gf cs) (gf M) (gf ds) (gf fs) rk k->un n (gf cs)+k=n->
   WP (fun p:Nat × Nat=>a1Z p.1 p.2 (.ptr os 0 5 0) h) fun r h'=>r=.ptr os 0 5 0/\FrS W hb h'/\QDone N A Up Dn D st W h' os wp q sc se sf oc oe ov n:=by
 have hg:=b3v ix ok
 rw[<-hn] at hg
 intro d
 induction d with
 |zero=>
  intro h id0 k rk cs ds fs M hd f w di hk
  have:=m1_ n (gf cs)
  omega
 |succ d ih=>
  intro h id0 k rk cs ds fs M hd f w di hk
  refine WP.rnd (fun i j=>b1h i j ..) ?_
  have ex:Ext h0 h:=f.ext e0 fun o q1 q2=>by have:=hW o q2; omega
  have hbl:=f.len
  have hml:=w.qv.lm
  have wa:SchW (fun o=>W o/\o<h.length) h os wp q sc se sf oc oe ov n cs ds fs M:=w.mono fun o z1 z2=>⟨z2,z1⟩
  have ro:=w.row
  simp -implicitDefEqProofs (maxSteps:=1000000) (disch:=first|assumption|omega|(simp only[gL]<;>omega)|((repeat (first|exact Ext.refl _|assumption|apply Ext.app|apply Ext.mk|(refine Ext.setr ?_ (by (first|omega|(simp only[gL]<;>omega))) _))); done)|(simp only[gL,gA,ro]<;>omega)|fail) only[gB,setAll,partL,fldV,reduceIte,Nat.reduceAdd,Nat.reduceMul,ro]
  refine WP.call (wa.qv.pop hn2) ?_
  rintro r h1 ⟨M2,pq,v1,f1⟩
  have w1:=wa.q' f1 (fun o z=>z.2) v1
  have ro1:=w1.row
  have f1W:FrS W h h1:=f1.mono fun o _ z=>z.1.1
  have fl1:=f1.len
  rcases pq with ⟨p1,rfl,rfl⟩|⟨idI,key,p1,rfl,rfl⟩
  ·simp -implicitDefEqProofs (maxSteps:=1000000) (disch:=first|assumption|omega|(simp only[gL]<;>omega)|((repeat (first|exact Ext.refl _|assumption|apply Ext.app|apply Ext.mk|(refine Ext.setr ?_ (by (first|omega|(simp only[gL]<;>omega))) _))); done)|(simp only[gL,gA,a4_,a5_,a6Z]<;>omega)|fail) only[gB,setAll,partL,fldV,reduceIte,Nat.reduceAdd,Nat.reduceMul,a4_,a5_,a6Z]
   exact WP.ret ⟨rfl,f.trans f1W,id0,k,rk,cs,ds,fs,_,w1.mono fun o _ z=>z.1,di,fun x hx=>b0Y p1 (by omega) (by omega),hk⟩
  ·obtain ⟨id,rfl⟩:∃id:Nat,idI=id:=⟨idI.toNat,by have:=p1.i0; omega⟩
   have hid:id<n:=by have:=p1.i1; omega
   have hmin:∀z:Nat,z<n->∀u,gf M z=some u->key<=u:=by
    intro z hz u hu
    have:=p1.m z u (by omega) (by omega) hu
    simp only[ltI] at this
    omega
   have di2:=di.pop hg hst hid p1.k hmin
   obtain ⟨q1,q2,q3⟩:=di.que id hid key p1.k
   have hk1:=di.bnd id hid key (.inr p1.k)
   have hup:=b9N (c:=gf cs) hid (by omega)
   have hkn:k<n:=by omega
   rw[show (id:Int).toNat=id by omega] at w1
   obtain ⟨h2,s2,w2,f2⟩:=w1.setC hid key
   have ro2:=w2.row
   have f2W:FrS W h h2:=f1W.trans (f2.mono fun o _ z=>z▸w.wc)
   have fl2:=f2.len
   have ex2:Ext h0 h2:=f2W.ext ex fun o z1 z2=>by have:=hW o z2; omega
   have gr1:Gr oc (oc+1) h1 1 sc (cs.map encI):=w1.gc
   simp -implicitDefEqProofs (maxSteps:=1000000) (disch:=first|assumption|omega|(simp only[gL]<;>omega)|((repeat (first|exact Ext.refl _|assumption|apply Ext.app|apply Ext.mk|(refine Ext.setr ?_ (by (first|omega|(simp only[gL]<;>omega))) _))); done)|(simp only[gL,gA,a4_,a5_,a6Z,ro1,gr1.sl.idxG,w.lc,s2,ro2]<;>omega)|fail) only[gB,setAll,partL,fldV,reduceIte,Nat.reduceAdd,Nat.reduceMul,a4_,a5_,a6Z,ro1,gr1.sl.idxG,w.lc,s2,ro2]
   refine WP.call (b4e (wv.ext ex2) ok (x:=id) (by omega)) ?_
   rintro _ h3 ⟨rfl,e3⟩
   have hz:AV.int .i64 0=I 0:=rfl
   simp only[hz]
   obtain ⟨v,hv⟩:∃v,v=id / 2 / D.length:=⟨_,rfl⟩
   obtain ⟨s,hs⟩:∃s,s=id / 2 % D.length:=⟨_,rfl⟩
   obtain ⟨d1,d2⟩:=dm (N:=N) (S:=D.length) (x:=id / 2) (by omega)
   rw[<-hv,<-hs]
   rw[<-hv] at d1
   obtain ⟨h4,hh4⟩:∃h4,h4=(h3++[AObj.cells ⟨[I 0,I 0,.bool false],0,0,false⟩]).set h3.length (.cells ⟨[I (v:Int),I (s:Int),.bool (id % 2 == 1)],0,0,false⟩):=⟨_,rfl⟩
   have e4:Ext h3 h4:=by rw[hh4]; ((repeat (first|exact Ext.refl _|assumption|apply Ext.app|apply Ext.mk|(refine Ext.setr ?_ (by (first|omega|(simp only[gL]<;>omega))) _))))
   have l4:h4.length=h3.length+1:=by rw[hh4]; simp
   have r4:h4[h3.length]?=some (.cells ⟨[I (v:Int),I (s:Int),.bool (id % 2 == 1)],0,0,false⟩):=by rw[hh4]; exact a0_ (by simp)
   have e34:=e3.trans e4
   have fl3:=e3.len
   have w4:=w2.ext e34
   have ro4:=w4.row
   have ex4:=ex2.trans e34
   have f4W:FrS W hb h4:=(f.trans f2W).trans (FrS.ofExt e34)
   obtain ⟨ow,sE,sR,sA,sU,sDn,sD,sAc,sF,us,B,hwp,rw0,wA,wU,wlu,wD,wAc,wF,wlB,wUp,wFl⟩:=wv.ex
   have hcid:gi (cs.set id key) (id:Int)=key:=by
    have:=congrFun (gset (xs:=cs) (y:=id) (by rw[w.lc]; exact hid) key) id
    rw[if_pos rfl] at this
    exact this
   have fin:∀(h5:Heap) (W5:Nat->Prop) (ds5 fs5:List Int) (M5:List (Option Int)),FrS W hb h5->h4.length<=h5.length->(∀o,W5 o->W o)->h5[h3.length]?=some (.cells ⟨[I (v:Int),I (s:Int),.bool (id % 2 == 1)],0,0,false⟩)->SchW W5 h5 os wp q sc se sf oc oe ov n (cs.set id key) ds5 fs5 M5->
     DI n WQ (hopQ N A Up Dn D) st id ((fallX A (allD Dn N) v).map (hopK A D true (s:Int))) (gf (cs.set id key)) (gf M5) (gf ds5) (gf fs5) (fun x=>if x=id then k else rk x) (k+1)->
     WP (fun p:Nat × Nat=>a2a p.1 p.2 (.ptr os 0 5 0) (I (id:Int)) (.ptr h3.length 0 3 0) h5) fun r h'=>r=.ptr os 0 5 0/\FrS W hb h'/\QDone N A Up Dn D st W h' os wp q sc se sf oc oe ov n:=by
    intro h5 W5 ds5 fs5 M5 f5 hl5 hW5 r5 w5 d5
    refine WP.congr (fun i=>b1g i.1 i.2 ..) ?_
    have ex5:Ext h0 h5:=f5.ext e0 fun o q1 q2=>by have:=hW o q2; omega
    have ro5:=w5.row
    have rw5:=ex5.get rw0
    have wF5:=wF.ext ex5
    have ldF:=wF5.ld0 (H:=h5) (i:=(v:Int)) (Ext.refl _) (by omega) (by omega) (by omega)
    replace ldF:Gm.ld1 h5 (elP 1 sF (v:Int))=some (gi B (v:Int)):=ldF
    have idF:=wF5.idxG (i:=(v:Int)) (by omega) (by omega)
    rw[hwp] at ro5
    simp -implicitDefEqProofs (maxSteps:=1000000) (disch:=first|assumption|omega|(simp only[gL]<;>omega)|((repeat (first|exact Ext.refl _|assumption|apply Ext.app|apply Ext.mk|(refine Ext.setr ?_ (by (first|omega|(simp only[gL]<;>omega))) _))); done)|(simp only[gL,gA,ro5,rw5,r5,idF,ldF]<;>omega)|fail) only[gB,setAll,partL,fldV,reduceIte,Nat.reduceAdd,Nat.reduceMul,ro5,rw5,r5,idF,ldF]
    have hfl:(fallX A (allD Dn N) v).length<=10000000000:=by
     have a1:(fallX A (allD Dn N) v).length<=(allD Dn N).length:=List.length_filter_le _ _
     have a2:=b6G ix N (Nat.le_refl _)
     omega
    refine WP.call (b8c (st:=st) (rk:=fun x=>if x=id then k else rk x) (k:=k) (rest:=[]) (W:=W5) ex5 (fun o z=>hW o (hW5 o z)) wv ix ok hN hn hn2 hg (ks:=fallX A (allD Dn N) v) (dn:=true) (fun k hk=>⟨(b1s ix hk).1,(b1s ix hk).2.1⟩) (fun k hk=>?_) (wFl v d1) hid hfl hcid q2 hk1 hkn w5 (by rw[List.append_nil,<-hs]; exact d5)) ?_
    ·rw[<-hs]
     refine List.mem_append.2 (.inr ?_)
     rw[<-hv,<-hs]
     exact List.mem_map_of_mem hk
    ·rintro _ h6 ⟨rfl,f6,ds6,fs6,M6,w6,d6⟩
     have hk6:un n (gf (cs.set id key))+((k+1:Nat):Int)=n:=by
      have:gf (cs.set id key)=up (gf cs) id key:=gset (by rw[w.lc]; exact hid) _
      rw[this,un_up hid q2,if_pos (by show gf cs id<0; omega)]
      omega
     have:=f5.len
     exact ih h6 id (k+1) _ _ ds6 fs6 M6 (by omega) (f5.trans (f6.mono fun o _ z=>hW5 o z)) (w6.mono fun o _ z=>z.elim (hW5 o) fun z=>hWn o (by omega)) d6 hk6
   have gC:gf (cs.set id key)=fun x=>if x=id then key else gf cs x:=gset (by rw[w.lc]; exact hid) _
   have gM:gf (M.set id none)=fun x=>if x=id then none else gf M x:=gset (by omega) _
   have dq:DI n WQ (hopQ N A Up Dn D) st id (hopQ N A Up Dn D id) (gf (cs.set id key)) (gf (M.set id none)) (gf ds) (gf fs) (fun x=>if x=id then k else rk x) (k+1):=by
    rw[gC,gM]; exact di2
   by_cases hb1:id % 2=1
   ·have hbb:(id % 2 == 1)=true:=by simp[hb1]
    have hq:hopQ N A Up Dn D id=(fallX A (allD Dn N) v).map (hopK A D true (s:Int)):=by
     rw[hopQ,if_pos hb1,List.nil_append,<-hv,<-hs]
    rw[hq] at dq
    rw[hbb] at hh4 r4 fin
    simp -implicitDefEqProofs (maxSteps:=1000000) (disch:=first|assumption|omega|(simp only[gL]<;>omega)|((repeat (first|exact Ext.refl _|assumption|apply Ext.app|apply Ext.mk|(refine Ext.setr ?_ (by (first|omega|(simp only[gL]<;>omega))) _))); done)|(simp only[gL,gA,hbb]<;>omega)|fail) only[gB,setAll,partL,fldV,reduceIte,Nat.reduceAdd,Nat.reduceMul,hbb]
    rw[<-hh4]
    exact fin h4 _ ds fs _ f4W (Nat.le_refl _) (fun o z=>z.1) r4 w4 dq
   ·have hbb:(id % 2 == 1)=false:=by simp[hb1]
    have hq:hopQ N A Up Dn D id=(gi Up (v:Int)).map (hopK A D false (s:Int))++(fallX A (allD Dn N) v).map (hopK A D true (s:Int)):=by
     rw[hopQ,if_neg hb1,<-hv,<-hs]
    rw[hq] at dq
    rw[hbb] at hh4 r4 fin
    have rw4:=ex4.get rw0
    have wU4:=wU.ext ex4
    have ldU:=wU4.ld0 (H:=h4) (i:=(v:Int)) (Ext.refl _) (by omega) (by omega) (by omega)
    replace ldU:Gm.ld1 h4 (elP 1 sU (v:Int))=some (gi us (v:Int)):=ldU
    have idU:=wU4.idxG (i:=(v:Int)) (by omega) (by omega)
    have hr:=ix.rU (v:Int) (by omega) (by omega)
    simp -implicitDefEqProofs (maxSteps:=1000000) (disch:=first|assumption|omega|(simp only[gL]<;>omega)|((repeat (first|exact Ext.refl _|assumption|apply Ext.app|apply Ext.mk|(refine Ext.setr ?_ (by (first|omega|(simp only[gL]<;>omega))) _))); done)|(simp only[gL,gA,hbb]<;>omega)|fail) only[gB,setAll,partL,fldV,reduceIte,Nat.reduceAdd,Nat.reduceMul,hbb]
    rw[<-hh4]
    have ro4':=ro4
    rw[hwp] at ro4'
    simp -implicitDefEqProofs (maxSteps:=1000000) (disch:=first|assumption|omega|(simp only[gL]<;>omega)|((repeat (first|exact Ext.refl _|assumption|apply Ext.app|apply Ext.mk|(refine Ext.setr ?_ (by (first|omega|(simp only[gL]<;>omega))) _))); done)|(simp only[gL,gA,ro4',rw4,r4,idU,ldU]<;>omega)|fail) only[gB,setAll,partL,fldV,reduceIte,Nat.reduceAdd,Nat.reduceMul,ro4',rw4,r4,idU,ldU]
    refine WP.call (b8c (st:=st) (rk:=fun x=>if x=id then k else rk x) (k:=k) (rest:=(fallX A (allD Dn N) v).map (hopK A D true (s:Int))) ex4 (fun o z=>hW o z.1) wv ix ok hN hn hn2 hg (ks:=gi Up (v:Int)) (dn:=false) (fun k hk=>⟨(hr.2 k hk).1,(hr.2 k hk).2.1⟩) (fun k hk=>?_) (wUp v (by omega) (by omega)) hid (by have:=hr.1; omega) hcid q2 hk1 hkn w4 (by rw[<-hs]; exact dq)) ?_
    ·rw[<-hs]
     have:=List.mem_map_of_mem (f:=hopK A D false (s:Int)) hk
     rw[hq]
     exact List.mem_append.2 (.inl this)
    ·rintro _ h5 ⟨rfl,f5,ds5,fs5,M5,w5,d5⟩
     exact fin h5 _ ds5 fs5 M5 (f4W.trans (f5.mono fun o _ z=>z.1)) f5.len (fun o z=>z.elim (fun z=>z.1) fun z=>hWn o (by omega)) (by rw[f5.get (fun z=>by omega) (by omega)]; exact r4) w5 d5
end
end Go.Gm.AQ
namespace Go.Gm.AQ
open Go Go.Gm
section
variable {h0 h:Heap} {wp:AV} {N LL:Nat} {es:List E} {A:List Ar} {Up Dn:List (List Int)} {D:List (List Int)} {acc:List Bool}
theorem c3G {hb:Heap}{W:Nat->Prop}{os oc oe ov n:Nat}{q sc se sf fromv:AV}{M:List (Option Int)}{Q:AV->Heap->Prop}(hn2:n<=1000000)(hW:∀o,W o->hb.length<=o)(hQ:∀h cs ds fs,Ext hb h->SchW W h os wp q sc se sf oc oe ov n cs ds fs M->(∀x:Nat,x<n->gf cs x = -1/\gf ds x = -1/\gf fs x = -1)->WP (fun i:Nat=>a4G i fromv (.ptr os 0 5 0) h) Q) :
  ∀(d i:Nat) (h:Heap) (cs ds fs:List Int),i+d=n->Ext hb h->SchW W h os wp q sc se sf oc oe ov n cs ds fs M->(∀x:Nat,x<i->gf cs x = -1/\gf ds x = -1/\gf fs x = -1)->
   WP (fun p:Nat × Nat=>a1Y p.1 p.2 fromv (.ptr os 0 5 0) (I n) (I i) h) Q:=by
 intro d
 induction d with
 |zero=>
  intro i h cs ds fs h1 e w hm
  refine WP.rnd (fun i' j=>a5S i' j ..) ?_
  obtain rfl:i=n:=oM
  refine g0 ?_
  exact WP.lv (hQ h cs ds fs e w hm) fun i j=>rfl
 |succ d ih=>
  intro i h cs ds fs h1 e w hm
  refine WP.rnd (fun i' j=>a5S i' j ..) ?_
  have hin:i<n:=oM
  have ro:=w.row
  obtain ⟨h2,s2,w2,f2⟩:=w.setC hin (-1)
  obtain ⟨h3,s3,w3,f3⟩:=w2.setE hin (-1)
  obtain ⟨h4,s4,w4,f4⟩:=w3.setF hin (-1)
  have gc:=w.gc.sl
  have ge:=w.ge.sl
  have gf':=w.gf.sl
  refine g10 @ro gc.idxG ge.idxG gf'.idxG w.lc w.le w.lf @s2 @s3 @s4 ?_
  have e2:=f2.ext e fun o q1 q2=>by have:=hW _ w.wc; omega
  have e3:=f3.ext e2 fun o q1 q2=>by have:=hW _ w.we; omega
  have e4:=f4.ext e3 fun o q1 q2=>by have:=hW _ w.wv; omega
  refine ih (i+1) h4 _ _ _ oM e4 w4 fun x hx=>?_
  have lc:=w.lc
  have le:=w.le
  have lf:=w.lf
  rw[show gf (cs.set i (-1))=_ from gset oM _,show gf (ds.set i (-1))=_ from gset oM _,show gf (fs.set i (-1))=_ from gset oM _]
  by_cases qx:x=i
  ·simp[qx]
  ·simp only[if_neg qx]
   exact hm x oM
theorem b5e (wv:WyV h wp N es A Up Dn D acc)(ix:IxS LL N es A Up Dn)(ok:DOk D acc)(hN:N<=100){n:Nat}(hn:n=2*(N*D.length))(hn2:n<=1000000){v:Nat}(hv:v<N) :
  Tot tab m0_ [wp,I v] h fun r h'=>Ext h h'/\∃os q sc se sf oc oe ov,r=.ptr os 0 5 0/\QDone N A Up Dn D (fun x=>x=2*(v*D.length)) (fun o=>h.length<=o) h' os wp q sc se sf oc oe ov n:=by
 obtain ⟨ow,sE,sR,sA,sU,sDn,sD,sAc,sF,us,B,hwp,rw0,wA,wU,wlu,wD,wAc,wF,wlB,wUp,wFl⟩:=wv.ex
 refine WP.tot (fun k=>b2P k _ _ h) ?_
 have hS:=ok.l0
 have hS1:=ok.l1
 have hNS:N*D.length<=500000:=oM
 have hw1:IntKind.i64.wrap (2*(N:Int))=2*(N:Int):=d6_ oM oM
 have hw:IntKind.i64.wrap (2*(N:Int)*(D.length:Int))=(n:Int):=by
  rw[show 2*(N:Int)*(D.length:Int)=(n:Int) by rw[hn,Int.natCast_mul,Int.natCast_mul,Int.mul_assoc]; rfl]
  exact d6_ oM oM
 obtain ⟨s1,h1,a1,g1,e1,_,l1⟩:=g0_ (zero:=[AV.int .i64 0]) (sz:=1) (bytes:=8) (n:=(n:Int)) h oM oM oM rfl rfl
 obtain ⟨s2,h2,a2,g2,e2,_,l2⟩:=g0_ (zero:=[AV.int .i64 0]) (sz:=1) (bytes:=8) (n:=(n:Int)) h1 oM oM oM rfl rfl
 obtain ⟨s3,h3,a3,g3,e3,_,l3⟩:=g0_ (zero:=[AV.int .i64 0]) (sz:=1) (bytes:=8) (n:=(n:Int)) h2 oM oM oM rfl rfl
 have hre:List.replicate (n:Int).toNat [AV.int .i64 0]=(List.replicate n (0:Int)).map encI:=by simp[encI,I]
 rw[hre] at g1 g2 g3
 have hgp:wp.one=true/\wp.cells=[wp]:=by rw[hwp]; exact ⟨rfl,rfl⟩
 have lD:=wD.lenG
 rw[hwp]
 refine g7 @rw0 @lD @hw1 @hw @a1 @a2 @a3 ?_
 rw[<-hwp]
 refine WP.call (b4V n hn2 h3) ?_
 rintro q h4 ⟨v4,e4⟩
 have l4:=e4.len
 have hqp:q.one=true/\q.cells=[q]:=by
  obtain ⟨oq,_,_,hq,_⟩:=v4
  rw[hq]; exact ⟨rfl,rfl⟩
 simp -implicitDefEqProofs (maxSteps:=1000000) (disch:=first|assumption|omega|(simp only[gL]<;>omega)|((repeat (first|exact Ext.refl _|assumption|apply Ext.app|apply Ext.mk|(refine Ext.setr ?_ (by (first|omega|(simp only[gL]<;>omega))) _))); done)|(simp only[gL,gA,hqp.1,hqp.2,hgp.1,hgp.2,g1.sl.one,g1.sl.cells,g2.sl.one,g2.sl.cells,g3.sl.one,g3.sl.cells]<;>omega)|fail) only[gB,setAll,partL,fldV,reduceIte,Nat.reduceAdd,Nat.reduceMul,hqp.1,hqp.2,hgp.1,hgp.2,g1.sl.one,g1.sl.cells,g2.sl.one,g2.sl.cells,g3.sl.one,g3.sl.cells]
 obtain ⟨h5,hh5⟩:∃h5,h5=h4++[AObj.cells ⟨[wp,q,s1,s2,s3],0,0,false⟩]:=⟨_,rfl⟩
 have e5:Ext h4 h5:=by rw[hh5]; exact Ext.push _ _
 have ro:h5[h4.length]?=some (.cells ⟨[wp,q,s1,s2,s3],0,0,false⟩):=by rw[hh5]; simp
 rw[<-hh5]
 have e35:=e4.trans e5
 have e05:=((e1.trans e2).trans e3).trans e35
 have w:SchW (fun o=>h.length<=o) h5 h4.length wp q s1 s2 s3 h.length h1.length h2.length n (List.replicate n 0) (List.replicate n 0) (List.replicate n 0) (List.replicate n none):=by
  refine ⟨ro,((g1.ext e2).ext e3).ext e35,(g2.ext e3).ext e35,g3.ext e35,by simp,by simp,by simp,oM,oM,oM,Nat.le_refl _,by show h.length<=_; omega,by show h.length<=_; omega,by show h.length<=_; omega,?_⟩
  refine (SQ.ext (P:=fun o=>(h.length<=o/\o≠h.length/\o≠h1.length/\o≠h2.length/\o≠h4.length)) (v4.sq fun o z1 z2=>?_) e5)
  omega
 have lc5:=w.gc.sl.lenG
 rw[List.length_replicate] at lc5
 simp -implicitDefEqProofs (disch:=first|assumption|omega|(simp only[gL,gA]<;>omega)|fail) only[gC,reduceIte,ro,lc5]
 refine WP.ent (c3G (hb:=h) (W:=fun o=>h.length<=o) (n:=n) hn2 (fun o z=>z) (fun h6 cs ds fs e6 w6 m6=>?_) n 0 h5 _ _ _ (by omega) e05 w fun x hx=>by omega) fun i=>rfl
 refine WP.congr (fun i=>b1i i ..) ?_
 have ro6:=w6.row
 simp -implicitDefEqProofs (disch:=first|assumption|omega|(simp only[gL,gA]<;>omega)|fail) only[gC,reduceIte,ro6]
 refine WP.call (b3u (wv.ext e6) ok (v:=(v:Int)) (s:=0) (by omega) (by omega) (Int.le_refl _) (by omega) false) ?_
 rintro _ h7 ⟨rfl,e7⟩
 have w7:=w6.ext e7
 have ro7:=w7.row
 have e67:=e6.trans e7
 have hidv:idQ D.length (v:Int) 0 false=((2*(v*D.length):Nat):Int):=by
  unfold idQ; simp
 rw[hidv]
 have hvS:v*D.length<N*D.length:=by
  have:=spotN (N:=N) (v:=v) (S:=D.length) (s:=0) hv hS
  simpa using this
 simp -implicitDefEqProofs (disch:=first|assumption|omega|(simp only[gL,gA]<;>omega)|fail) only[gC,reduceIte,ro7]
 have fl7:=e67.len
 refine WP.call (w7.qv.put hn2 (fun o ho=>⟨oM,by have:=w7.o1; have:=w7.o2; have:=w7.o3; have:=w7.os_lt; omega⟩) _ 0) ?_
 rintro _ h8 ⟨rfl,v8,f8⟩
 have w8:=w7.q' f8 (fun o z=>z.2) v8
 have e8:Ext h h8:=f8.ext e67 fun o q1 q2=>oM
 have hpm:(putM n (List.replicate n none) ((2*(v*D.length):Nat):Int) 0).1=(List.replicate n none).set (2*(v*D.length)) (some 0):=by
  rw[putM,if_pos ⟨oM,oM⟩,w2_ oM oM,Int.toNat_natCast]
 rw[hpm] at w8
 have gM:gf ((List.replicate n (none:Option Int)).set (2*(v*D.length)) (some 0))=fun x=>if x=2*(v*D.length) then some 0 else gf (List.replicate n none) x:=gset (by simp; omega) _
 have hw8:FrS (fun o=>h.length<=o) h h8:=FrS.ofExt e8
 refine WP.ent ((c3F (h0:=h) (hb:=h) (W:=fun o=>h.length<=o) (st:=fun x=>x=2*(v*D.length)) (Ext.refl _) (fun o z=>z) (fun o z=>z) wv ix ok hN hn hn2 (fun x z=>oM) (n+1) h8 0 0 (fun _=>0) cs ds fs _ oM hw8 w8 (DI.start (fun x hx=>(m6 x hx).1) (fun x hx=>(m6 x hx).2.2) (fun x hx=>?_)) (by rw[b5S fun x hx=>(m6 x hx).1]; omega)).mono ?_) fun i=>rfl
 ·rw[gM]
  by_cases qx:x=2*(v*D.length)
  ·exact .inl ⟨qx,if_pos qx⟩
  ·refine .inr ⟨qx,?_⟩
   show (if x=2*(v*D.length) then some 0 else gf (List.replicate n none) x)=none
   rw[if_neg qx]
   exact w2_ oM oM
 ·rintro r h9 ⟨rfl,f9,qd⟩
  exact ⟨f9.ext (Ext.refl _) fun o q1 q2=>oM,_,_,_,_,_,_,_,_,rfl,qd⟩
end
end Go.Gm.AQ
namespace Go.Gm.AQ
open Go Go.Gm
def QB (c:Nat->Int)(P:Nat->Prop)(out:Int):Prop:=(out = -1/\∀x,P x->¬0<=c x)\/∃y:Nat,out=(y:Int)/\P y/\0<=c y/\∀x,P x->0<=c x->c y<=c x
theorem QB.skip {c:Nat->Int}{P:Nat->Prop}{out:Int}{i:Nat}(b:QB c P out)(h:¬(0<=c i/\(out<0\/c i<c out.toNat))):QB c (fun x=>P x\/x=i) out:=by
 rcases b with ⟨h1,h2⟩|⟨y,h1,h2,h3,h4⟩
 ·refine .inl ⟨h1,fun x hx=>hx.elim (h2 x) fun q hc=>h ⟨q▸hc,.inl oM⟩⟩
 ·refine .inr ⟨y,h1,.inl h2,h3,fun x hx hc=>hx.elim (fun z=>h4 x z hc) fun q=>?_⟩
  subst q
  have h5:c out.toNat=c y:=by rw[h1,Int.toNat_natCast]
  by_cases q:c x<c y
  ·exact absurd ⟨hc,.inr oM⟩ h
  ·omega
theorem QB.take {c:Nat->Int}{P:Nat->Prop}{out:Int}{i:Nat}(b:QB c P out)(h1:0<=c i)(h2:out<0\/c i<c out.toNat):QB c (fun x=>P x\/x=i) (i:Int):=by
 refine .inr ⟨i,rfl,.inr rfl,h1,fun x hx hc=>hx.elim (fun z=>?_) fun q=>by subst q; exact Int.le_refl _⟩
 rcases b with ⟨b1,b2⟩|⟨y,b1,b2,b3,b4⟩
 ·exact absurd hc (b2 x z)
 ·have h5:c out.toNat=c y:=by rw[b1,Int.toNat_natCast]
  have:=b4 x z hc
  rcases h2 with h2|h2<;>omega
theorem QB.bnd {c:Nat->Int}{P:Nat->Prop}{out:Int}(b:QB c P out){n:Nat}(hP:∀x,P x->x<n):-1<=out/\out<n:=by
 rcases b with ⟨h1,h2⟩|⟨y,h1,h2,h3,h4⟩
 ·omega
 ·have:=hP y h2; omega
section
variable {hb h:Heap} {wp:AV} {N:Nat} {es:List E} {A:List Ar} {Up Dn:List (List Int)} {D:List (List Int)} {acc:List Bool}
theorem b5f {W:Nat->Prop}{os oc oe ov n o2 oo:Nat}{q sc se sf:AV}{cs ds fs:List Int}{M:List (Option Int)}{P:Nat->Prop}{out:Int}(wv:WyV hb wp N es A Up Dn D acc)(ok:DOk D acc)(hN:N<=100)(hn:n=2*(N*D.length))(hn2:n<=1000000)(w0:SchW W hb os wp q sc se sf oc oe ov n cs ds fs M)(e:Ext hb h)(r2:h[o2]?=some (.cells ⟨[.ptr os 0 5 0],0,0,false⟩))(ro:h[oo]?=some (.cells ⟨[I out],0,0,false⟩))(ho:hb.length<=oo)(b:QB (gf cs) P out)(hP:∀x,P x->x<n){v s:Nat}(hv:v<N)(hs:s<D.length)(dn:Bool) :
  Tot tab a0h [.agg [I v,I s,.bool dn],.ptr o2 0 1 0,.ptr oo 0 1 0] h fun r h'=>r=.tup []/\∃out',h'[oo]?=some (.cells ⟨[I out'],0,0,false⟩)/\FrS (fun o=>o=oo) h h'/\QB (gf cs) (fun x=>P x\/x=(idQ D.length v s dn).toNat) out':=by
 refine WP.tot (fun k=>b0h k _ _ _ h) ?_
 obtain ⟨h1,hh1⟩:∃h1,h1=h++[AObj.cells ⟨[I (v:Int),I (s:Int),.bool dn],0,0,false⟩]:=⟨_,rfl⟩
 have e1:Ext h h1:=by rw[hh1]; exact Ext.push _ _
 have rp:h1[h.length]?=some (.cells ⟨[I (v:Int),I (s:Int),.bool dn],0,0,false⟩):=by rw[hh1]; simp
 have r21:=e1.get r2
 have ro1:=e1.get ro
 have w1:=(w0.ext e).ext e1
 have rs1:=w1.row
 have l2:o2<h.length:=(List.getElem?_eq_some_iff.1 r2).1
 have los:os<h.length:=(w0.ext e).os_lt
 have loo:oo<h.length:=(List.getElem?_eq_some_iff.1 ro).1
 have rs0:=(w0.ext e).row
 refine g2 @r2 @rs0 ?_
 rw[<-hh1]
 refine WP.call (b3u (wv.ext (e.trans e1)) ok (v:=(v:Int)) (s:=(s:Int)) oM oM oM (by have:=ok.l1; omega) dn) ?_
 rintro _ h3 ⟨rfl,e3⟩
 obtain ⟨sp1,sp2⟩:=a4g (N:=N) (S:=D.length) (v:=(v:Int)) (s:=(s:Int)) oM oM oM oM dn
 obtain ⟨i,hi⟩:∃i:Nat,idQ D.length v s dn=i:=⟨(idQ D.length v s dn).toNat,oM⟩
 rw[hi] at sp1 sp2 ⊢
 rw[Int.toNat_natCast]
 have hin:i<n:=oM
 have w3:=w1.ext e3
 have r23:=e3.get r21
 have ro3:=e3.get ro1
 have rs3:=w3.row
 have gc:=w3.gc.sl
 have idc:=gc.idxG (i:=(i:Int)) oM (by rw[w3.lc]; omega)
 have ldc:=gc.ld0 (H:=h3) (i:=(i:Int)) (Ext.refl _) oM (by rw[w3.lc]; omega) oM
 obtain ⟨ci,hci⟩:∃ci,gi cs (i:Int)=ci:=⟨_,rfl⟩
 rw[hci] at ldc
 replace ldc:Gm.ld1 h3 (elP 1 sc (i:Int))=some (I ci):=ldc
 have f3:FrS (fun o=>o=oo) h h3:=FrS.ofExt (e1.trans e3)
 have l3:=f3.len
 have skip:¬(0<=ci/\(out<0\/ci<gf cs out.toNat))->QB (gf cs) (fun x=>P x\/x=i) out:=fun hc=>b.skip (by rw[show gf cs i=ci from hci]; exact hc)
 have bb:=b.bnd hP
 by_cases c0:0<=ci
 ·by_cases o0:out<0
  ·have hq:=b.take (i:=i) (by show 0<=gi cs (i:Int); omega) (.inl o0)
   refine g5 @r23 @rs3 @idc @ldc @ro3 ?_
   refine WP.ret ⟨rfl,i,a0_ oM,f3.trans (FrS.set1 ..),hq⟩
  ·obtain ⟨y,hy⟩:∃y:Nat,out=y:=⟨out.toNat,oM⟩
   subst hy
   have ido:=gc.idxG (i:=(y:Int)) oM (by rw[w3.lc]; omega)
   have ldo:=gc.ld0 (H:=h3) (i:=(y:Int)) (Ext.refl _) oM (by rw[w3.lc]; omega) oM
   replace ldo:Gm.ld1 h3 (elP 1 sc (y:Int))=some (I (gi cs (y:Int))):=ldo
   by_cases c1:ci<gi cs (y:Int)
   ·have hq:=b.take (i:=i) (by show 0<=gi cs (i:Int); omega) (.inr (by rw[Int.toNat_natCast]; show gi cs (i:Int)<gi cs (y:Int); omega))
    refine g7 @r23 @rs3 @idc @ldc @ro3 @ido @ldo ?_
    refine WP.ret ⟨rfl,i,a0_ oM,f3.trans (FrS.set1 ..),hq⟩
   ·refine g7 @r23 @rs3 @idc @ldc @ro3 @ido @ldo ?_
    refine WP.ret ⟨rfl,y,ro3,f3,skip fun z=>?_⟩
    rcases z.2 with z|z
    ·omega
    ·rw[Int.toNat_natCast] at z; exact c1 z
 ·refine g4 @r23 @rs3 @idc @ldc ?_
  exact WP.ret ⟨rfl,out,ro3,f3,skip fun z=>c0 z.1⟩
def AccS (acc:List Bool)(S:Nat)(v i:Nat)(x:Nat):Prop:=∃s:Nat,s<i/\gi acc (s:Int)=true/\∃b,x=(idQ S v s b).toNat
theorem c2b {W:Nat->Prop}{os oc oe ov n o2 oo:Nat}{q sc se sf sAc:AV}{cs ds fs:List Int}{M:List (Option Int)}(wv:WyV hb wp N es A Up Dn D acc)(ok:DOk D acc)(hN:N<=100)(hn:n=2*(N*D.length))(hn2:n<=1000000)(w0:SchW W hb os wp q sc se sf oc oe ov n cs ds fs M)(hA:Sl hb 1 sAc (acc.map encB))(ho:hb.length<=oo)(ho2:hb.length<=o2)(hne:o2≠oo){v:Nat}(hv:v<N) :
  ∀(d i:Nat) (h:Heap) (out:Int),i+d=acc.length->Ext hb h->h[o2]?=some (.cells ⟨[.ptr os 0 5 0],0,0,false⟩)->h[oo]?=some (.cells ⟨[I out],0,0,false⟩)->QB (gf cs) (AccS acc D.length v i) out->
   WP (fun p:Nat × Nat=>t5_ p.1 p.2 (I v) (.ptr oo 0 1 0) (.fn a0h [] [.ptr o2 0 1 0,.ptr oo 0 1 0]) sAc (I acc.length) (I i) h) fun r h'=>Ext hb h'/\∃out,r=I out/\QB (gf cs) (AccS acc D.length v acc.length) out:=by
 have la:=ok.la
 have l1:=ok.l1
 intro d
 induction d with
 |zero=>
  intro i h out h1 e r2 ro b
  refine WP.rnd (fun i' j=>a4A i' j ..) ?_
  obtain rfl:i=acc.length:=oM
  refine g1 @ro ?_
  exact WP.ret ⟨e,out,rfl,b⟩
 |succ d ih=>
  intro i h out h1 e r2 ro b
  refine WP.rnd (fun i' j=>a4A i' j ..) ?_
  have hA':=hA.ext e
  have hia:(i:Int)<acc.length:=oM
  have lda:=hA'.ld0 (H:=h) (i:=(i:Int)) (Ext.refl _) oM hia oM
  replace lda:Gm.ld1 h (elP 1 sAc (i:Int))=some (.bool (gi acc (i:Int))):=lda
  have ida:=hA'.idxG (i:=(i:Int)) oM hia
  have bnd:∀(j:Nat) (x:Nat),j<=acc.length->AccS acc D.length v j x->x<n:=by
   rintro j x hj ⟨s,s1,s2,bb,rfl⟩
   have:=a4g (N:=N) (S:=D.length) (v:=(v:Int)) (s:=(s:Int)) oM oM oM oM bb
   omega
  cases ha:gi acc (i:Int) with
  |false=>
   rw[ha] at lda
   refine g2 @ida @lda ?_
   refine ih (i+1) h out oM e r2 ro ?_
   have:AccS acc D.length v (i+1)=AccS acc D.length v i:=by
    funext x
    refine propext ⟨fun ⟨s,s1,s2,s3⟩=>⟨s,?_,s2,s3⟩,fun ⟨s,s1,s2,s3⟩=>⟨s,oM,s2,s3⟩⟩
    by_cases q:s=i
    ·subst q; rw[ha] at s2; cases s2
    ·omega
   rw[this]
   exact b
  |true=>
   rw[ha] at lda
   refine g2 @ida @lda ?_
   refine WP.call (b5f wv ok hN hn hn2 w0 e r2 ro ho b (fun x=>bnd i x oM) hv (s:=i) oM false) ?_
   rintro _ h2 ⟨rfl,out2,ro2,f2,b2⟩
   have e2:=f2.ext e fun o q1 q2=>oM
   have l2:o2<h.length:=(List.getElem?_eq_some_iff.1 r2).1
   have r22:h2[o2]?=some (.cells ⟨[.ptr os 0 5 0],0,0,false⟩):=by rw[f2.get hne l2]; exact r2
   refine WP.call (b5f wv ok hN hn hn2 w0 e2 r22 ro2 ho b2 (fun x hx=>?_) hv (s:=i) oM true) ?_
   ·rcases hx with hx|rfl
    ·exact bnd i x oM hx
    ·have:=a4g (N:=N) (S:=D.length) (v:=(v:Int)) (s:=(i:Int)) oM oM oM oM false
     omega
   ·rintro _ h3 ⟨rfl,out3,ro3,f3,b3⟩
    have e3:=f3.ext e2 fun o q1 q2=>oM
    have l22:o2<h2.length:=(List.getElem?_eq_some_iff.1 r22).1
    have r23:h3[o2]?=some (.cells ⟨[.ptr os 0 5 0],0,0,false⟩):=by rw[f3.get hne l22]; exact r22
    refine ih (i+1) h3 out3 oM e3 r23 ro3 ?_
    have:AccS acc D.length v (i+1)=fun x=>(AccS acc D.length v i x\/x=(idQ D.length v i false).toNat)\/x=(idQ D.length v i true).toNat:=by
     funext x
     refine propext ⟨fun ⟨s,s1,s2,bb,s3⟩=>?_,fun hx=>?_⟩
     ·by_cases q:s=i
      ·subst q
       cases bb with
       |false=>exact .inl (.inr s3)
       |true=>exact .inr s3
      ·exact .inl (.inl ⟨s,oM,s2,bb,s3⟩)
     ·rcases hx with (⟨s,s1,s2,s3⟩|hx)|hx
      ·exact ⟨s,oM,s2,s3⟩
      ·exact ⟨i,oM,ha,false,hx⟩
      ·exact ⟨i,oM,ha,true,hx⟩
    rw[this]
    exact b3
theorem b4f {W:Nat->Prop}{os oc oe ov n:Nat}{q sc se sf:AV}{cs ds fs:List Int}{M:List (Option Int)}(wv:WyV h wp N es A Up Dn D acc)(ok:DOk D acc)(hN:N<=100)(hn:n=2*(N*D.length))(hn2:n<=1000000)(w:SchW W h os wp q sc se sf oc oe ov n cs ds fs M){v:Nat}(hv:v<N) :
  Tot tab j8_ [.ptr os 0 5 0,I v] h fun r h'=>Ext h h'/\∃out,r=I out/\QB (gf cs) (AccS acc D.length v acc.length) out:=by
 refine WP.tot (fun k=>b1j k _ _ h) ?_
 obtain ⟨ow,sE,sR,sA,sU,sDn,sD,sAc,sF,us,B,hwp,rw0,wA,wU,wlu,wD,wAc,wF,wlB,wUp,wFl⟩:=wv.ex
 have los:=w.os_lt
 have low:ow<h.length:=(List.getElem?_eq_some_iff.1 rw0).1
 have rs:=w.row
 have rs':=rs
 rw[hwp] at rs'
 have hz:AV.int .i64 0=I 0:=rfl
 simp only[hz]
 obtain ⟨h2,hh2⟩:∃h2,h2=((h++[AObj.cells ⟨[.ptr os 0 5 0],0,0,false⟩])++[AObj.cells ⟨[I 0],0,0,false⟩]).set (h.length+1) (.cells ⟨[I (-1)],0,0,false⟩):=⟨_,rfl⟩
 have e2:Ext h h2:=by rw[hh2]; exact eX
 have r2:h2[h.length]?=some (.cells ⟨[.ptr os 0 5 0],0,0,false⟩):=by rw[hh2,a9_ oM,m2_ (by simp)]; simp
 have ro:h2[h.length+1]?=some (.cells ⟨[I (-1)],0,0,false⟩):=by rw[hh2]; exact a0_ (by simp)
 have lA:=wAc.lenG
 refine g3 @rs' @rw0 @lA ?_
 rw[show AV.int .i64 (-1)=I (-1) from rfl]
 rw[<-hh2]
 refine WP.ent (c2b wv ok hN hn hn2 w wAc (Nat.le_succ _) (Nat.le_refl _) oM hv acc.length 0 h2 (-1) oM e2 r2 ro (.inl ⟨rfl,fun x ⟨s,s1,_⟩=>oM⟩)) fun i=>rfl
end
end Go.Gm.AQ
namespace Go.Gm.AQ
open Go Go.Gm
theorem a8y {S:Nat}{v s:Int}(v0:0<=v)(s0:0<=s)(s1:s<S)(b:Bool):(idQ S v s b).toNat % 2=(if b then 1 else 0)/\(((idQ S v s b).toNat / 2 / S:Nat):Int)=v/\(((idQ S v s b).toNat / 2 % S:Nat):Int)=s:=by
 obtain ⟨a,rfl⟩:∃a:Nat,v=a:=⟨v.toNat,oM⟩
 obtain ⟨t,rfl⟩:∃t:Nat,s=t:=⟨s.toNat,oM⟩
 have h1:(idQ S a t b).toNat=2*(a*S+t)+if b then 1 else 0:=by
  unfold idQ
  rw[<-Int.natCast_mul]
  cases b<;>simp<;>omega
 have h2:(idQ S a t b).toNat / 2=a*S+t:=by rw[h1]; cases b<;>simp<;>omega
 have hS:0<S:=oM
 refine ⟨by rw[h1]; cases b<;>simp,?_,?_⟩
 ·rw[h2,Nat.add_comm,Nat.add_mul_div_right _ _ hS,Nat.div_eq_of_lt oM]; simp
 ·rw[h2,Nat.add_comm,Nat.add_mul_mod_self_right,Nat.mod_eq_of_lt oM]
section
variable {N LL:Nat} {es:List E} {A:List Ar} {Up Dn:List (List Int)} {D:List (List Int)} {acc:List Bool}
def QR (N:Nat)(A:List Ar)(Up Dn D:List (List Int)):HopR:=fun v s b v' s' b' c=>
 0<=v/\v<N/\0<=s/\s<D.length/\∃k:Nat,((idQ D.length v' s' b').toNat,k,c)∈hopQ N A Up Dn D (idQ D.length v s b).toNat
theorem qr_hr (ix:IxS LL N es A Up Dn)(ok:DOk D acc):HR D (UpA N A Up) (DnA N A Dn) (QR N A Up Dn D):=by
 refine ⟨fun v w m c s hu s0 s1=>?_,fun v u m c s b hd s0 s1=>?_⟩
 ·obtain ⟨v0,v1,k,k1,k2,k3,rfl,rfl,rfl⟩:=hu
  obtain ⟨d1,d2,d3⟩:=a8y v0 s0 s1 false
  refine ⟨v0,v1,s0,s1,k.toNat,List.mem_append.2 (.inl ?_)⟩
  rw[if_neg (by rw[d1]; simp),d2,d3]
  exact List.mem_map_of_mem (f:=hopK A D false s) k1
 ·obtain ⟨v0,v1,k,k1,k2,k3,rfl,rfl,rfl⟩:=hd
  have ak:=(ix.arc _ _ (c1_ k2 k3)).1
  obtain ⟨d1,d2,d3⟩:=a8y ak.f0 s0 s1 b
  have hto:=((ix.rD v v0 v1).2 k k1).2.2
  refine ⟨ak.f0,ak.f1,s0,s1,k.toNat,List.mem_append.2 (.inr ?_)⟩
  rw[d3]
  have hm:k∈fallX A (allD Dn N) ((idQ D.length (gi A k).fr s b).toNat / 2 / D.length):=by
   refine List.mem_filter.2 ⟨List.mem_flatMap.2 ⟨v.toNat,by rw[List.mem_range]; omega,by rw[Int.toNat_of_nonneg v0]; exact k1⟩,?_⟩
   rw[decide_eq_true_eq,d2]
  have:=List.mem_map_of_mem (f:=hopK A D true s) hm
  rw[<-hto]
  exact this
theorem pq_wk {v s v2 s2 c:Int}{b b2:Bool}(p:Pq (QR N A Up Dn D) v s b v2 s2 b2 c):∃l,Wk (hopQ N A Up Dn D) (fun x=>x=(idQ D.length v s b).toNat) (idQ D.length v2 s2 b2).toNat l c:=by
 induction p with
 |nil=>exact ⟨[],.nil rfl⟩
 |snoc p k ih=>
  obtain ⟨l,hl⟩:=ih
  obtain ⟨_,_,_,_,e,he⟩:=k
  exact ⟨_,.snoc hl he⟩
theorem c2c (no:NetOk N es)(ix:IxS LL N es A Up Dn)(ok:DOk D acc)(sd:Stdy D){v:Nat}(hv:v<N){x:Nat}{l:List Nat}{c:Int}(w:Wk (hopQ N A Up Dn D) (fun x=>x=2*(v*D.length)) x l c) :
  x / 2<N*D.length/\∃ll,OkW es v ll/\atV es v ll=((x / 2 / D.length:Nat):Int)/\atS es D 0 ll=((x / 2 % D.length:Nat):Int)/\atC es ll=c:=by
 have hS:=ok.l0
 induction w with
 |@nil x h=>
  subst h
  have h1:2*(v*D.length) / 2=v*D.length:=oM
  have h2:=spotN (N:=N) (v:=v) (S:=D.length) (s:=0) hv hS
  refine ⟨oM,[],fun i e hi=>by simp at hi,?_,?_,rfl⟩
  ·rw[h1,Nat.mul_div_cancel _ hS]; rfl
  ·rw[h1,Nat.mul_mod_left]; rfl
 |@snoc x y e l c w' _ hm ih=>
  obtain ⟨hx,ll,a1,a2,a3,a4⟩:=ih
  obtain ⟨d1,d2⟩:=dm hx
  have key:∃(b:Bool) (k:Int),0<=k/\k<A.length/\(gi A k).fr=((x / 2 / D.length:Nat):Int)/\hopK A D b ((x / 2 % D.length:Nat):Int) k=(y,e,w'):=by
   rcases List.mem_append.1 hm with hm|hm
   ·split at hm
    ·cases hm
    ·obtain ⟨k,hk,he⟩:=List.mem_map.1 hm
     obtain ⟨k0,k1,k2⟩:=(ix.rU _ (Int.natCast_nonneg _) (Int.ofNat_lt.2 d1)).2 k hk
     exact ⟨false,k,k0,k1,k2,he⟩
   ·obtain ⟨k,hk,he⟩:=List.mem_map.1 hm
    obtain ⟨k0,k1,k2⟩:=b1s ix hk
    exact ⟨true,k,k0,k1,k2,he⟩
  obtain ⟨b,k,k0,k1,k2,he⟩:=key
  obtain ⟨ak,l',_,h3,h4,h5⟩:=ix.arc _ _ (c1_ k0 k1)
  have hto:0<=nx D ((x / 2 % D.length:Nat):Int) (gi A k).md/\nx D ((x / 2 % D.length:Nat):Int) (gi A k).md<D.length:=ok.to _ _ (Int.natCast_nonneg _) (Int.ofNat_lt.2 d2) ak.m0 ak.m1
  have h6:=a4g (S:=D.length) ak.t0 ak.t1 hto.1 hto.2 b
  obtain ⟨e1,e2,e3⟩:=a8y ak.t0 hto.1 hto.2 b
  simp only[hopK] at he
  cases he
  have h7:=h3.ok
  rw[k2,<-a2] at h7
  refine ⟨oM,ll++l',b0M a1 h7.1,?_,?_,?_⟩
  ·rw[a3f,h7.2.1,e2]
  ·rw[b0s,a3,h3.st no ok sd _ (Int.natCast_nonneg _) (Int.ofNat_lt.2 d2),e3]
  ·rw[a0e,a4,h4]
theorem q_lw (no:NetOk N es)(co:COk es)(ix:IxC N es A Up Dn)(ok:DOk D acc)(sd:Stdy D){v u:Nat}(hv:v<N)(hu:u<N){c:Nat->Int}(lc:LC (2*(N*D.length)) (hopQ N A Up Dn D) (fun x=>x=2*(v*D.length)) c){out:Int}(b:QB c (AccS acc D.length u acc.length) out) :
  LW es v u (fun w=>gi acc (goS D 0 w)=true) (if out<0 then -1 else c out.toNat):=by
 have hS:=ok.l0
 have la:=ok.la
 have h0:(idQ D.length v 0 false).toNat=2*(v*D.length):=by
  unfold idQ
  rw[<-Int.natCast_mul]
  simp
  omega
 have acs:∀x,AccS acc D.length u acc.length x->x<2*(N*D.length)/\((x / 2 / D.length:Nat):Int)=u/\gi acc ((x / 2 % D.length:Nat):Int)=true:=by
  rintro x ⟨s,s1,s2,bb,rfl⟩
  have h1:=a4g (N:=N) (S:=D.length) (v:=(u:Int)) (s:=(s:Int)) oM oM oM oM bb
  obtain ⟨_,e2,e3⟩:=a8y (S:=D.length) (v:=(u:Int)) (s:=(s:Int)) oM oM oM bb
  exact ⟨oM,e2,by rw[e3]; exact s2⟩
 have all:∀l,OkW es v l->atV es v l=u->gi acc (goS D 0 (wdOf es l))=true->∃x,AccS acc D.length u acc.length x/\0<=c x/\c x<=atC es l:=by
  intro l h1 h2 h3
  obtain ⟨vs,nd,om,st,fin⟩:=ix.cmp
  have cm:=b6d no ok co sd (qr_hr ix.toIxS ok) vs (fun _=>False) (fun x hx=>hx.elim (fun z=>z.elim) (om x)) nd (fun x _ z=>z) (fun a b w hw=>by
   have e:(fun x=>False\/x∈a)=fun x:Int=>x∈a:=by funext x; simp
   rw[e]; exact st a b w hw) (fun w x m l' hw hx hs=>by
   have e:(fun x=>False\/x∈vs)=fun x:Int=>x∈vs:=by funext x; simp
   rw[e] at hs
   exact fin w x m l' (fun z=>hw (.inr z)) (fun z=>hx (.inr z)) hs)
  obtain ⟨bb,c',p1,p2⟩:=cm l v 0 (fun z=>z) (fun z=>z) h1 (Int.le_refl _) oM
  obtain ⟨ll,hw⟩:=pq_wk p1
  rw[h0,h2] at hw
  have hs:=a9K ok no h1 (s:=0) (Int.le_refl _) oM
  have hlt:=a4g (N:=N) (S:=D.length) (v:=(u:Int)) oM oM hs.1 hs.2 bb
  have hc:0<=c (idQ D.length u (atS es D 0 l) bb).toNat/\c (idQ D.length u (atS es D 0 l) bb).toNat<=c':=by
   rcases lc _ (show (idQ D.length u (atS es D 0 l) bb).toNat<2*(N*D.length) by omega) with ⟨k1,_,k2⟩|⟨_,k2⟩
   ·exact ⟨k1,k2 _ _ hw⟩
   ·exact absurd hw (k2 _ _)
  refine ⟨_,⟨(atS es D 0 l).toNat,oM,?_,bb,?_⟩,hc.1,oM⟩
  ·rw[Int.toNat_of_nonneg hs.1,a8I]; exact h3
  ·rw[Int.toNat_of_nonneg hs.1]
 rcases b with ⟨b1,b2⟩|⟨y,b1,b2,b3,b4⟩
 ·rw[if_pos oM]
  refine ⟨.inl rfl,fun l h1 h2 h3=>?_⟩
  obtain ⟨x,x1,x2,x3⟩:=all l h1 h2 h3
  exact absurd x2 (b2 x x1)
 ·rw[if_neg oM,b1,Int.toNat_natCast]
  refine ⟨.inr ⟨b3,?_⟩,fun l h1 h2 h3=>?_⟩
  ·obtain ⟨y1,y2,y3⟩:=acs y b2
   rcases lc y y1 with ⟨_,⟨l,hw⟩,_⟩|⟨q,_⟩
   ·obtain ⟨_,ll,a1,a2,a3,a4⟩:=c2c no ix.toIxS ok sd hv hw
    exact ⟨ll,a1,a2.trans y2,by rw[<-a8I,a3]; exact y3,a4⟩
   ·omega
  ·obtain ⟨x,x1,x2,x3⟩:=all l h1 h2 h3
   have:=b4 x x1 x2
   omega
end
end Go.Gm.AQ
namespace Go.Gm.AQ
open Go Go.Gm
inductive Chn (Ah:Nat->List Hop):Nat->List Nat->Int->Nat->Prop
 |nil {x:Nat}:Chn Ah x [] 0 x
 |cons {x y z k:Nat} {ks:List Nat} {w c:Int}:(y,k,w)∈Ah x->Chn Ah y ks c z->Chn Ah x (k::ks) (w+c) z
inductive UnpL (A:List Ar) (LL:Nat):List Nat->List Nat->Prop
 |nil:UnpL A LL [] []
 |cons {k:Nat} {ks l ls:List Nat}:k<A.length->Unp A k l->l.length<=LL->UnpL A LL ks ls->UnpL A LL (k::ks) (l++ls)
theorem UnpL.len {A:List Ar}{LL:Nat}{ks ls:List Nat}(h:UnpL A LL ks ls):ls.length<=ks.length*LL:=by
 induction h with
 |nil=>simp
 |cons _ _ h2 _ ih=>rw[List.length_append,List.length_cons,Nat.succ_mul]; omega
section
variable {N LL:Nat} {es:List E} {A:List Ar} {Up Dn:List (List Int)} {D:List (List Int)} {acc:List Bool}
theorem c0o (no:NetOk N es)(ix:IxS LL N es A Up Dn)(ok:DOk D acc)(sd:Stdy D){x z:Nat}{ks:List Nat}{c:Int}(h:Chn (hopQ N A Up Dn D) x ks c z):x / 2<N*D.length->
  ∃ll,UnpL A LL ks ll/\OkW es ((x / 2 / D.length:Nat):Int) ll/\atV es ((x / 2 / D.length:Nat):Int) ll=((z / 2 / D.length:Nat):Int)/\atS es D ((x / 2 % D.length:Nat):Int) ll=((z / 2 % D.length:Nat):Int)/\atC es ll=c:=by
 induction h with
 |nil=>intro _; exact ⟨[],.nil,fun i e hi=>by simp at hi,rfl,rfl,rfl⟩
 |@cons x y z k' ks w c hm _ ih=>
  intro hx
  obtain ⟨d1,d2⟩:=dm hx
  have key:∃(b:Bool) (k:Int),0<=k/\k<A.length/\(gi A k).fr=((x / 2 / D.length:Nat):Int)/\hopK A D b ((x / 2 % D.length:Nat):Int) k=(y,k',w):=by
   rcases List.mem_append.1 hm with hm|hm
   ·split at hm
    ·cases hm
    ·obtain ⟨k,hk,he⟩:=List.mem_map.1 hm
     obtain ⟨k0,k1,k2⟩:=(ix.rU _ (Int.natCast_nonneg _) (Int.ofNat_lt.2 d1)).2 k hk
     exact ⟨false,k,k0,k1,k2,he⟩
   ·obtain ⟨k,hk,he⟩:=List.mem_map.1 hm
    obtain ⟨k0,k1,k2⟩:=b1s ix hk
    exact ⟨true,k,k0,k1,k2,he⟩
  obtain ⟨b,k,k0,k1,k2,he⟩:=key
  obtain ⟨ak,l',h2,h3,h4,h5⟩:=ix.arc _ _ (c1_ k0 k1)
  have hto:0<=nx D ((x / 2 % D.length:Nat):Int) (gi A k).md/\nx D ((x / 2 % D.length:Nat):Int) (gi A k).md<D.length:=ok.to _ _ (Int.natCast_nonneg _) (Int.ofNat_lt.2 d2) ak.m0 ak.m1
  have h6:=a4g (S:=D.length) ak.t0 ak.t1 hto.1 hto.2 b
  obtain ⟨e1,e2,e3⟩:=a8y ak.t0 hto.1 hto.2 b
  simp only[hopK] at he
  cases he
  obtain ⟨ll,a0,a1,a2,a3,a4⟩:=ih oM
  have h7:=h3.ok
  rw[k2] at h7
  rw[e2] at a1 a2
  rw[e3] at a3
  refine ⟨l'++ll,.cons oM h2 h5 a0,b0M h7.1 (by rw[h7.2.1]; exact a1),?_,?_,?_⟩
  ·rw[a3f,h7.2.1,a2]
  ·rw[b0s,h3.st no ok sd _ (Int.natCast_nonneg _) (Int.ofNat_lt.2 d2),a3]
  ·rw[a0e,a4,h4]
end
section
variable {h0 hb:Heap} {wp:AV} {N LL:Nat} {es:List E} {A:List Ar} {Up Dn:List (List Int)} {D:List (List Int)} {acc:List Bool}
theorem qr_l1 {W:Nat->Prop}{os oc oe ov n:Nat}{q sc se sf x4 t8 out12:AV}{cs ds fs:List Int}{M:List (Option Int)}{st:Nat->Prop}{id0 k:Nat}{rk:Nat->Nat}(hn2:n<=1000000)(w0:SchW W hb os wp q sc se sf oc oe ov n cs ds fs M)(di:DI n WQ (hopQ N A Up Dn D) st id0 [] (gf cs) (gf M) (gf ds) (gf fs) rk k)(hkn:k<=n){x0:Nat}{Q:AV->Heap->Prop}(hQ:∀(x:Nat) (ks:List Nat) (h:Heap) (arcs:AV) (oa:Nat),st x->x<n->Chn (hopQ N A Up Dn D) x ks (gf cs x0) x0->ks.length<=n->Ext hb h->Gr oa (oa+1) h 1 arcs ((ks.reverse).map natE)->(arcs≠.nils->hb.length<=oa/\oa<h.length)->WP (fun i:Nat=>a6E i x4 t8 out12 arcs h) Q) :
  ∀(d x:Nat) (h:Heap) (arcs:AV) (oa:Nat) (ks:List Nat) (c:Int),rk x<d->d+ks.length<=n+1->x<n->0<=gf cs x->Ext hb h->Gr oa (oa+1) h 1 arcs ((ks.reverse).map natE)->(arcs≠.nils->hb.length<=oa/\oa<h.length)->Chn (hopQ N A Up Dn D) x ks c x0->gf cs x+c=gf cs x0->
   WP (fun p:Nat × Nat=>a4q p.1 p.2 x4 t8 (.ptr os 0 5 0) (I x) out12 arcs h) Q:=by
 intro d
 induction d with
 |zero=>intro x h arcs oa ks c hr; omega
 |succ d ih=>
  intro x h arcs oa ks c hr hd hx hc e ga pa ch hs
  refine WP.rnd (fun i j=>b2N i j ..) ?_
  have w:=w0.ext e
  have ro:=w.row
  have gfr:=w.gf.sl
  have idf:=gfr.idxG (i:=(x:Int)) oM (by rw[w.lf]; omega)
  have ldf:=gfr.ld0 (H:=h) (i:=(x:Int)) (Ext.refl _) oM (by rw[w.lf]; omega) oM
  replace ldf:Gm.ld1 h (elP 1 sf (x:Int))=some (I (gf fs x)):=ldf
  rcases di.par x hx (gf cs x) (.inl ⟨hc,rfl⟩) with ⟨p1,p2,p3⟩|⟨y,wt,y1,y2,y3,y4,y5,y6,y7⟩
  ·rw[p1] at ldf
   refine g3 @ro @idf @ldf ?_
   refine WP.lv (hQ x ks h arcs oa p2 hx ?_ oM e ga pa) fun i j=>rfl
   rw[p3] at hs
   rw[<-hs]
   simpa using ch
  ·rw[y2] at ldf
   obtain ⟨a,ha⟩:∃a:Nat,gf ds x=a:=⟨(gf ds x).toNat,oM⟩
   have ge:=w.ge.sl
   have ide:=ge.idxG (i:=(x:Int)) oM (by rw[w.le]; omega)
   have lde:=ge.ld0 (H:=h) (i:=(x:Int)) (Ext.refl _) oM (by rw[w.le]; omega) oM
   replace lde:Gm.ld1 h (elP 1 se (x:Int))=some (I (a:Int)):=by rw[<-ha]; exact lde
   have b:=Gr.lit (h:=h) (sz:=1) (v:=[I (a:Int)]) rfl
   rw[a3_] at b
   obtain ⟨h2,hh2⟩:∃h2,h2=h++[AObj.cells ⟨[I (a:Int)],0,0,false⟩]:=⟨_,rfl⟩
   rw[<-hh2] at b
   have e2:Ext h h2:=by rw[hh2]; exact Ext.push _ _
   have l2:h2.length=h.length+1:=by rw[hh2]; simp
   obtain ⟨sa,h3,oa',q1,q2,q3,q4⟩:=(ga.ext e2).appP (fun z=>by have:=(pa z).2; omega) b.sl oM (bytes:=8) oM (by simp; omega)
   have hq1:apnd 1 8 arcs (.sl h.length 0 1 1 none 0) (h++[AObj.cells ⟨[AV.int .i64 (a:Int)],0,0,false⟩])=some (sa,h3):=by rw[hh2] at q1; exact q1
   have f3:=(FrS.ofExt (D:=fun p=>arcs≠.nils/\p=oa) e2).trans q4
   have e3:Ext hb h3:=f3.ext e fun o o1 o2=>by have:=pa o2.1; omega
   have w3:=w0.ext e3
   have ro3:=w3.row
   have gf3:=w3.gf.sl
   have idf3:=gf3.idxG (i:=(x:Int)) oM (by rw[w3.lf]; omega)
   have ldf3:=gf3.ld0 (H:=h3) (i:=(x:Int)) (Ext.refl _) oM (by rw[w3.lf]; omega) oM
   replace ldf3:Gm.ld1 h3 (elP 1 sf (x:Int))=some (I (gf fs x)):=ldf3
   rw[y2] at ldf3
   have hl3:=q4.len
   have el:=e.len
   refine g9 @ro @idf @ldf @ide @lde @hq1 @ro3 @idf3 @ldf3 ?_
   refine ih y h3 sa oa' (a::ks) (wt+c) (by have:=y7 hc; omega) (by simp; omega) y1 y3 e3 (q2.cong (by simp[natE])) (fun z=>?_) (.cons (by rw[ha] at y5; exact y5) ch) oM
   rcases (q3 z).1 with ⟨z1,z2⟩|z1
   ·have:=pa z2; exact ⟨oM,(q3 z).2⟩
   ·exact ⟨oM,(q3 z).2⟩
end
end Go.Gm.AQ
namespace Go.Gm.AQ
open Go Go.Gm
section
variable {b0:Heap} {A:List Ar} {LL N:Nat} {sE sR sA sU sDn:AV} {ox ot:Nat} {ks:List Nat} {cost:Int}
theorem qr_l3 (hLL:LL<=1000)(hA:Sl b0 7 sA (A.map encA))(hlA:A.length<=100000000)(hE1:sE.one=true)(hR1:sR.one=true)(hU1:sU.one=true)(hD1:sDn.one=true)(rx:b0[ox]?=some (.cells ⟨[I N,sE,sR,sA,sU,sDn],0,0,false⟩))(rt:b0[ot]?=some (.cells ⟨[I 0,.nils],0,0,false⟩))(hkl:ks.length<=1000000){ll:List Nat}(hll:ll.length<=10000000){arcs:AV}{oa:Nat} :
  ∀(d i:Nat) (h:Heap) (se:AV) (oe:Nat) (l1 l2:List Nat),i+d=ks.length->Ext b0 h->h[b0.length]?=some (.cells ⟨[I cost,se],0,0,false⟩)->Gr oe (oe+1) h 1 se (l1.map natE)->(se≠.nils->b0.length<oe/\oe<h.length/\(arcs≠.nils->oe≠oa))->
   Gr oa (oa+1) h 1 arcs (ks.map natE)->(arcs≠.nils->b0.length<oa/\oa<h.length)->UnpL A LL (ks.drop i) l2->ll=l1++l2->
   WP (fun p:Nat × Nat=>a4r p.1 p.2 (.ptr ox 0 6 0) (.ptr ot 0 2 0) (.ptr b0.length 0 2 0) arcs (I ks.length) (I i) h) fun r h'=>(∃sl,r=.tup [.agg [I cost,sl],.bool true]/\Gr b0.length h'.length h' 1 sl (ll.map natE))/\h'.length>=b0.length/\∀o,o<b0.length->o≠ot->h'[o]?=b0[o]?:=by
 have hox:ox<b0.length:=(List.getElem?_eq_some_iff.1 rx).1
 have hot:ot<b0.length:=(List.getElem?_eq_some_iff.1 rt).1
 intro d
 induction d with
 |zero=>
  intro i h se oe l1 l2 hi e ro ge pe ga pa hu hl
  refine WP.rnd (fun i' j=>a7V i' j ..) ?_
  obtain rfl:i=ks.length:=oM
  rw[List.drop_length] at hu
  cases hu
  rw[List.append_nil] at hl
  subst hl
  refine g0 ?_
  refine WP.lv ?_ fun i j=>rfl
  refine WP.congr (fun i=>b2L i ..) ?_
  refine g1 @ro ?_
  refine WP.call (a8a ge.sl (by simp; omega)) ?_
  rintro r h2 ⟨e2,g2⟩
  have ro2:=e2.get ro
  have hoo:b0.length<h2.length:=(List.getElem?_eq_some_iff.1 ro2).1
  have rt2:=(e.trans e2).get rt
  have c1:=g2.sl.cells
  have o1:=g2.sl.one
  have hol:b0.length<h.length:=(List.getElem?_eq_some_iff.1 ro).1
  refine g4 @ro2 @rt2 @c1 @o1 ?_
  refine WP.ret ⟨⟨r,rfl,?_⟩,by simp; omega,fun o ho hne=>?_⟩
  ·have f:FrS (fun o=>o=b0.length\/o=ot) h2 ((h2.set b0.length (.cells ⟨[I cost,r],0,0,false⟩)).set ot (.cells ⟨[I cost,r],0,0,false⟩)):=((FrS.set1 ..).mono fun o _ z=>.inl z).trans ((FrS.set1 ..).mono fun o _ z=>.inr z)
   exact (g2.frs f fun o z1 z2 z3=>oM).mono (by have:=e.len; omega) (by simp)
  ·rw[a9_ oM,a9_ oM]
   have e3:=e.trans e2
   obtain ⟨y,hy⟩:∃y,b0[o]?=some y:=⟨b0[o],List.getElem?_eq_getElem ho⟩
   rw[hy,e3.get hy]
 |succ d ih=>
  intro i h se oe l1 l2 hi e ro ge pe ga pa hu hl
  refine WP.rnd (fun i' j=>a7V i' j ..) ?_
  have hik:(i:Int)<ks.length:=oM
  obtain ⟨k,hk⟩:∃k:Nat,ks[i]?=some k:=⟨ks[i],List.getElem?_eq_getElem oM⟩
  have hgk:gi ks (i:Int)=k:=by
   have:=c1_ (xs:=ks) (i:=(i:Int)) oM hik
   rw[Int.toNat_natCast,hk] at this
   injection this with this
   exact this.symm
  have hdr:ks.drop i=k::ks.drop (i+1):=by
   rw[List.drop_eq_getElem_cons oM]
   congr 1
   have:=List.getElem?_eq_getElem (l:=ks) (i:=i) oM
   rw[hk] at this
   injection this with this
   exact this.symm
  rw[hdr] at hu
  obtain ⟨l,ls,hlt,hun,hlen,hrest,hl2⟩:∃l ls,k<A.length/\Unp A k l/\l.length<=LL/\UnpL A LL (ks.drop (i+1)) ls/\l2=l++ls:=by
   cases hu with
   |cons a1 a2 a3 a4=>exact ⟨_,_,a1,a2,a3,a4,rfl⟩
  subst hl2
  have gas:=ga.sl
  have ldk:=gas.ld0 (H:=h) (i:=(i:Int)) (Ext.refl _) oM hik oM
  rw[hgk] at ldk
  replace ldk:Gm.ld1 h (elP 1 arcs (i:Int))=some (I (k:Int)):=ldk
  have idk:=gas.idxG (i:=(i:Int)) oM hik
  have rx':=e.get rx
  have hr6:rdNAt 6 (some (AObj.cells ⟨[I N,sE,sR,sA,sU,sDn],0,0,false⟩)) 0 6 0=some (.agg [I N,sE,sR,sA,sU,sDn]):=rfl
  refine g5 @idk @ldk @ro @rx' @hr6 ?_
  refine WP.call (b7E hlA (hA.ext e) hE1 hR1 hU1 hD1 hun oM) ?_
  rintro ru h2 ⟨e2,g2⟩
  have ro2:=e2.get ro
  have hoo:b0.length<h.length:=(List.getElem?_eq_some_iff.1 ro).1
  have hlen2:=congrArg List.length hl
  simp only[List.length_append] at hlen2
  obtain ⟨s',h3,oe',q1,q2,q3,q4⟩:=(ge.ext e2).appP (fun z=>by have:=(pe z).2.1; have:=e2.len; omega) g2.sl oM (bytes:=8) oM (by simp; omega)
  have ro3:h3[b0.length]?=some (.cells ⟨[I cost,se],0,0,false⟩):=by rw[q4.get (fun z=>by have:=pe z.1; omega) (by have:=e2.len; omega)]; exact ro2
  have c1:=q2.sl.cells
  have o1:=q2.sl.one
  have l3:=q4.len
  have l2':=e2.len
  refine g5 @ro2 @q1 @ro3 @c1 @o1 ?_
  obtain ⟨h4,hh4⟩:∃h4,h4=h3.set b0.length (.cells ⟨[I cost,s'],0,0,false⟩):=⟨_,rfl⟩
  have f4:FrS (fun o=>o=b0.length) h3 h4:=by rw[hh4]; exact FrS.set1 ..
  have ro4:h4[b0.length]?=some (.cells ⟨[I cost,s'],0,0,false⟩):=by rw[hh4]; exact a0_ oM
  have l4:=f4.len
  rw[<-hh4]
  have q3':s'≠.nils->b0.length<oe'/\oe'<h4.length/\(arcs≠.nils->oe'≠oa):=fun z=>by
   have q5:=(q3 z).2
   rcases (q3 z).1 with ⟨z1,z2⟩|z1
   ·have:=pe z2; exact ⟨oM,oM,fun z3=>by have:=this.2.2 z3; omega⟩
   ·exact ⟨oM,oM,fun z3=>by have:=pa z3; omega⟩
  refine ih (i+1) h4 s' oe' (l1++l) ls oM ?_ ro4 ((q2.keep f4 fun z=>by have:=q3' z; omega).cong (by simp)) q3' (((ga.ext e2).keep q4 fun z z2=>(pe z2.1).2.2 z z2.2.symm).keep f4 fun z=>by have:=pa z; omega) (fun z=>by have:=pa z; omega) hrest (by rw[hl,List.append_assoc])
  exact (f4.ext (q4.ext (e.trans e2) fun o o1 o2=>by have:=pe o2.1; omega) fun o o1 o2=>oM)
end
end Go.Gm.AQ
namespace Go.Gm.AQ
open Go Go.Gm
def RtQ (es:List E)(D:List (List Int))(acc:List Bool)(v u lo:Nat)(r:AV)(h':Heap):Prop:=
 ∃b,LW es v u (fun w=>gi acc (goS D 0 w)=true) b/\((b<0/\r=.tup [.agg [I 0,.nils],.bool false])\/
  (0<=b/\∃sl ll,r=.tup [.agg [I b,sl],.bool true]/\Gr lo h'.length h' 1 sl ((ll.map fun (e:Nat)=>(e:Int)).map encI)/\ll.length<=1000000/\OkW es v ll/\atV es v ll=u/\gi acc (atS es D 0 ll)=true/\atC es ll=b))
theorem b3w (l:List Nat):l.map natE=(l.map fun (e:Nat)=>(e:Int)).map encI:=by rw[List.map_map]; rfl
section
variable {h:Heap} {N:Nat} {es:List E} {A:List Ar} {Up Dn:List (List Int)} {D:List (List Int)} {acc:List Bool} {x sD sAc:AV}
theorem y4_ (hN:N<=100)(no:NetOk N es)(co:COk es)(xv:IxV h x N es A Up Dn)(ix:IxC N es A Up Dn)(ok:DOk D acc)(hD:Sl h 5 sD (D.map encR))(hA:Sl h 1 sAc (acc.map encB))(hn2:2*(N*D.length)*(N+1)<=1000000){v u:Nat}(hv:v<N)(hu:u<N) :
  Tot tab d4_ [x,.agg [sD,sAc],I v,I u] h fun r h'=>Ext h h'/\RtQ es D acc v u h.length r h':=by
 refine WP.tot (fun k=>b4E k _ _ _ _ h) ?_
 have hn3:2*(N*D.length)<=1000000:=Nat.le_trans (Nat.le_mul_of_pos_right _ oM) hn2
 obtain ⟨sE,sR,sA,sU,sDn,us,ds,hx,hE,hR,hAr,hU,hDn,lu,ldd,hUp,hDp⟩:=xv.ex
 have o1:=hE.one
 have o2:=hAr.one
 have o3:=hU.one
 have o4:=hDn.one
 have o5:=hD.one
 have o6:=hA.one
 have hz:AV.int .i64 0=I 0:=rfl
 simp only[hz]
 obtain ⟨h1,hh1⟩:∃h1,h1=((h++[AObj.cells ⟨[I N,sE,sR,sA,sU,sDn],0,0,false⟩])++[AObj.cells ⟨[sD,sAc],0,0,false⟩])++[AObj.cells ⟨[I 0,.nils],0,0,false⟩]:=⟨_,rfl⟩
 have e1:Ext h h1:=by rw[hh1]; exact ((Ext.push _ _).app _).app _
 have l1:h1.length=h.length+3:=by rw[hh1]; simp
 have rx:h1[h.length]?=some (.cells ⟨[I N,sE,sR,sA,sU,sDn],0,0,false⟩):=by rw[hh1,m2_ (by simp),m2_ (by simp)]; simp
 have rd:h1[h.length+1]?=some (.cells ⟨[sD,sAc],0,0,false⟩):=by rw[hh1,m2_ (by simp),r8_ (by simp)]; simp
 have rt:h1[h.length+1+1]?=some (.cells ⟨[I 0,.nils],0,0,false⟩):=by rw[hh1,r8_ (by simp)]; simp
 have hr2:∀a b c d e f:AV,rdNAt 2 (some (AObj.cells ⟨[a,b,c,d,e,f],0,0,false⟩)) 0 6 0=some (.agg [a,b]):=fun _ _ _ _ _ _=>rfl
 have hr6:rdNAt 6 (some (AObj.cells ⟨[I N,sE,sR,sA,sU,sDn],0,0,false⟩)) 0 6 0=some (.agg [I N,sE,sR,sA,sU,sDn]):=rfl
 rw[hx]
 refine g7 @o1 @hR @o2 @o3 @o4 @o5 @o6 ?_
 rw[<-hh1]
 refine WP.call (b3a ok (hD.ext e1) (hA.ext e1)) ?_
 rintro _ h2 ⟨e2,rfl⟩
 have e12:=e1.trans e2
 have rx2:=e2.get rx
 have rd2:=e2.get rd
 have rt2:=e2.get rt
 cases hst:stdyB D with
 |false=>
  refine g3 @rx2 @rd2 @hr2 ?_
  refine WP.call (a8b no co oM (hE.ext e12) ok (hD.ext e12) (hA.ext e12) hv hu) ?_
  rintro r h3 ⟨e3,c,lc,rq⟩
  have rt3:=e3.get rt2
  have lw:=bv_lw ok no hv hu lc
  have lt3:h.length+1+1<h3.length:=(List.getElem?_eq_some_iff.1 rt3).1
  have e13:=e12.trans e3
  rcases rq with ⟨c0,rfl⟩|⟨c0,q,l,sl,q1,q2,q3,q4,q5,rfl,q7⟩
  ·refine g3 @a4_ @a5_ @rt3 ?_
   refine WP.ret ⟨eX,_,lw,.inl ⟨c0,rfl⟩⟩
  ·obtain ⟨a1,a2,a3,a4,a5⟩:=b4x ok no hv q4
   obtain ⟨d1,d2⟩:=a8u (v:=u) (S:=D.length) (s:=q) q1
   rw[d1] at a2
   rw[d2] at a3
   have os:=q7.sl.one
   have cs:=q7.sl.cells
   refine g5 @a4_ @a5_ @rt3 @os @cs ?_
   refine WP.ret ⟨eX,_,lw,.inr ⟨c0,sl,l,rfl,?_,q5,a1,a2,by rw[a3]; exact q2,a4⟩⟩
   exact ((q7.set (by have:=e2.len; omega) _).mono (by have:=e2.len; omega) (by simp))
 |true=>
  have sd:=a9N.1 hst
  have xv2:IxV h2 (.agg [I N,sE,sR,sA,sU,sDn]) N es A Up Dn:=hx▸xv.ext e12
  refine g3 @rx2 @rd2 @hr6 ?_
  refine WP.call (b6F hN xv2 ix.toIxS (hD.ext e12) (hA.ext e12)) ?_
  rintro wp h3 ⟨e3,wv⟩
  refine WP.call (b5e wv ix.toIxS ok hN (n:=2*(N*D.length)) rfl hn3 hv) ?_
  rintro _ h4 ⟨e4,os,q,sc,se,sf,oc,oe,ov,rfl,id2,k2,rk2,cs2,ds2,fs2,M2,sw,di,hM,hk⟩
  refine WP.call (b4f (wv.ext e4) ok hN rfl hn3 sw hu) ?_
  rintro _ h5 ⟨e5,out,rfl,qb⟩
  have hg:=b3v ix.toIxS ok
  have hvS:v*D.length<N*D.length:=by
   have:=spotN (N:=N) (v:=v) (S:=D.length) (s:=0) hv ok.l0
   simpa using this
  have lc:=di.lc hg (fun y hy=>by have:y=2*(v*D.length):=hy; omega) hM
  have lw:=q_lw no co ix ok sd hv hu lc qb
  have e15:=((e12.trans e3).trans e4).trans e5
  have rx5:=((e3.trans e4).trans e5).get rx2
  have rt5:=((e3.trans e4).trans e5).get rt2
  have lt5:h.length+1+1<h5.length:=(List.getElem?_eq_some_iff.1 rt5).1
  by_cases o0:out<0
  ·rw[if_pos o0] at lw
   refine g1 @rt5 ?_
   refine WP.ret ⟨eX,_,lw,.inl ⟨oM,rfl⟩⟩
  ·rw[if_neg o0] at lw
   obtain ⟨y,hy⟩:∃y:Nat,out=y:=⟨out.toNat,oM⟩
   subst hy
   rw[Int.toNat_natCast] at lw
   have sw5:=sw.ext e5
   have ro5:=sw5.row
   rcases qb with ⟨qb,_⟩|⟨y',qy,qa,qc,_⟩
   ·omega
   obtain rfl:y=y':=oM
   have hyr:y<2*(N*D.length)/\((y / 2 / D.length:Nat):Int)=u/\gi acc ((y / 2 % D.length:Nat):Int)=true:=by
    obtain ⟨s,s1,s2,bb,hs⟩:=qa
    have la:=ok.la
    have h1:=a4g (N:=N) (S:=D.length) (v:=(u:Int)) (s:=(s:Int)) oM oM oM oM bb
    obtain ⟨_,e2,e3⟩:=a8y (S:=D.length) (v:=(u:Int)) (s:=(s:Int)) oM oM oM bb
    rw[<-hs] at e2 e3
    exact ⟨oM,e2,by rw[e3]; exact s2⟩
   have gcs:=sw5.gc.sl
   have idy:=gcs.idxG (i:=(y:Int)) oM (by rw[sw5.lc]; omega)
   have ldy:=gcs.ld0 (H:=h5) (i:=(y:Int)) (Ext.refl _) oM (by rw[sw5.lc]; omega) oM
   obtain ⟨cost,hcost⟩:∃cost,gf cs2 y=cost:=⟨_,rfl⟩
   replace ldy:Gm.ld1 h5 (elP 1 sc (y:Int))=some (I cost):=by rw[<-hcost]; exact ldy
   obtain ⟨h6,hh6⟩:∃h6,h6=(h5++[AObj.cells ⟨[I 0,.nils],0,0,false⟩]).set h5.length (.cells ⟨[I cost,.nils],0,0,false⟩):=⟨_,rfl⟩
   have e6:Ext h5 h6:=by rw[hh6]; exact eX
   have l6:h6.length=h5.length+1:=by rw[hh6]; simp
   have ro6:h6[h5.length]?=some (.cells ⟨[I cost,.nils],0,0,false⟩):=by rw[hh6]; exact a0_ (by simp)
   refine g3 @ro5 @idy @ldy ?_
   rw[<-hh6]
   have hun:=m1_ (2*(N*D.length)) (gf cs2)
   have hrk:=di.rk y hyr.1 qc
   rw[hcost] at qc lw
   refine WP.ent (qr_l1 (x4:=.ptr h.length 0 6 0) (t8:=.ptr (h.length+1+1) 0 2 0) (out12:=.ptr h5.length 0 2 0) hn3 (sw5.ext e6) di oM (x0:=y) (fun x' ks h7 arcs oa hstx hxn hch hkl e7 ga pa=>?_) (2*(N*D.length)+1) y h6 .nils 0 [] 0 oM (by simp) hyr.1 oM (Ext.refl _) (Gr.nil ..) (fun z=>absurd rfl z) .nil oM) fun i=>rfl
   have hx':x'=2*(v*D.length):=hstx
   have hx2:x' / 2=v*D.length:=oM
   obtain ⟨ll,u1,u2,u3,u4,u5⟩:=c0o no ix.toIxS ok sd hch oM
   rw[hx2,Nat.mul_div_cancel _ ok.l0] at u2 u3
   rw[hx2,Nat.mul_mod_left] at u4
   rw[hcost] at u5
   have hlll:=u1.len
   have hll:ll.length<=1000000:=by
    have:ks.length*(N+1)<=2*(N*D.length)*(N+1):=Nat.mul_le_mul_right _ hkl
    omega
   refine WP.congr (fun i=>b2M i ..) ?_
   obtain ⟨lo,ga',hlo⟩:∃lo,Gr lo (lo+1) h7 1 arcs ((ks.reverse.map fun (e:Nat)=>(e:Int)).map encI)/\h6.length<=lo:=by
    by_cases q:arcs=.nils
    ·subst q
     have hks:ks=[]:=by simpa using ga.isNil
     subst hks
     exact ⟨h6.length,Gr.nil ..,Nat.le_refl _⟩
    ·exact ⟨oa,ga.cong (b3w _),(pa q).1⟩
   refine WP.call (b5U (by simp; omega) ga') ?_
   rintro _ h8 ⟨rfl,f8,g8⟩
   have e68:Ext h6 h8:=f8.ext e7 hlo
   obtain ⟨oa',pa',g8'⟩:=(g8.cong (ys:=ks.map natE) (by rw[<-List.map_reverse,List.reverse_reverse,b3w])).point
   have lna:lenS arcs=some (I ks.length):=by rw[g8'.sl.lenG]
   have e58:=e6.trans e68
   refine g1 @lna ?_
   have hfin:=qr_l3 (LL:=N+1) oM (hAr.ext e15) (by have:=ix.la; omega) o1 hR o3 o4 rx5 rt5 (ks:=ks) oM (ll:=ll) oM (cost:=cost) ks.length 0 h8 .nils 0 [] ll oM e58 (e68.get ro6) (Gr.nil ..) (fun z=>absurd rfl z) g8' (fun z=>by have:=pa' z; omega) (by rw[List.drop_zero]; exact u1) rfl
   refine WP.ent (hfin.mono fun r h9 ⟨⟨sl,r1,r2⟩,r3,r4⟩=>⟨?_,cost,lw,.inr ⟨oM,sl,ll,r1,by rw[<-b3w]; exact r2.mono (by have:=e15.len; omega) (Nat.le_refl _),hll,u2,u3.trans hyr.2.1,?_,u5⟩⟩) fun i=>rfl
   ·rw[a3i]
    refine ⟨by have:=e15.len; omega,fun o ho=>?_⟩
    rw[r4 o (by have:=e15.len; omega) oM]
    obtain ⟨z,hz'⟩:∃z,h[o]?=some z:=⟨h[o],List.getElem?_eq_getElem ho⟩
    rw[hz',e15.get hz']
   ·have h0:((0:Nat):Int)=0:=rfl
    rw[h0] at u4
    rw[u4]; exact hyr.2.2
end
end Go.Gm.AQ
namespace Go.Gm.AQ
open Go Go.Gm
section
variable {N LL:Nat} {es:List E} {A:List Ar} {Up Dn:List (List Int)} {D:List (List Int)} {acc:List Bool} {sD sAc:AV}
def ManyQ (es:List E)(D:List (List Int))(acc:List Bool)(v:Nat)(ts bs:List Int):Prop:=∀i:Nat,i<bs.length->LW es v (gi ts i) (fun w=>gi acc (goS D 0 w)=true) (gi bs i)
theorem ManyQ.snoc {v:Nat}{ts bs:List Int}{b:Int}(m:ManyQ es D acc v ts bs)(h:LW es v (gi ts bs.length) (fun w=>gi acc (goS D 0 w)=true) b):ManyQ es D acc v ts (bs++[b]):=by
 intro i hi
 rw[List.length_append,List.length_singleton] at hi
 by_cases q:i<bs.length
 ·rw[a3h oM oM]; exact m i q
 ·obtain rfl:i=bs.length:=oM
  rw[a6R]; exact h
theorem app1I {oc:Nat}{h:Heap}{out:AV}{bs:List Int}(g:Gr oc (oc+1) h 1 out (bs.map encI))(ho:out≠.nils->oc<h.length)(hl:bs.length<=1000000000)(b:Int) :
  ∃s' h' o',apnd 1 8 out (.sl h.length 0 1 1 none 0) (h++[AObj.cells ⟨[I b],0,0,false⟩])=some (s',h')/\Gr o' (o'+1) h' 1 s' ((bs++[b]).map encI)/\(s'≠.nils->((o'=oc/\out≠.nils)\/h.length<=o')/\o'<h'.length)/\FrS (fun p=>out≠.nils/\p=oc) h h':=by
 have b0:=Gr.lit (h:=h) (sz:=1) (v:=[I b]) rfl
 rw[a3_] at b0
 have e1:Ext h (h++[AObj.cells ⟨[I b],0,0,false⟩]):=Ext.push _ _
 obtain ⟨s',h',o',q1,q2,q3,q4⟩:=(g.ext e1).appP (fun z=>by have:=ho z; simp; omega) b0.sl oM (bytes:=8) oM (by simp; omega)
 refine ⟨s',h',o',q1,q2.cong (by simp[encI]),fun z=>⟨?_,(q3 z).2⟩,(FrS.ofExt e1).trans q4⟩
 rcases (q3 z).1 with h1|h1
 ·exact .inl h1
 ·right; simp at h1; omega
theorem c3H {hb b1:Heap}{all tA:AV}{oo la ha v:Nat}{ts:List Int}{c:Nat->Int}(eb:Ext hb b1)(hoo:hb.length<=oo)(hT:Sl hb 1 tA (ts.map encI))(hA:Gr la ha b1 1 all ((costL N D.length c acc).map encI))(hla:oo<la)(hha:ha<=b1.length)(ht:∀t∈ts,0<=t/\t<N)(htl:ts.length<=1000000)(hlw:∀u:Nat,u<N->LW es v u (fun w=>gi acc (goS D 0 w)=true) (bv c acc (u*D.length) D.length)) :
  ∀(d i:Nat) (h:Heap) (out:AV) (oc:Nat) (bs:List Int),i+d=ts.length->FrS (fun o=>o=oo\/b1.length<=o) b1 h->Gr oc (oc+1) h 1 out (bs.map encI)->(out≠.nils->(oc=oo\/b1.length<=oc)/\oc<h.length)->bs.length=i->ManyQ es D acc v ts bs->
   WP (fun p:Nat × Nat=>a4X p.1 p.2 out all tA (I ts.length) (I i) h) fun r h'=>Ext hb h'/\∃bs:List Int,bs.length=ts.length/\Sl h' 1 r (bs.map encI)/\ManyQ es D acc v ts bs:=by
 have ebl:=eb.len
 intro d
 induction d with
 |zero=>
  intro i h out oc bs hi f g po hbl m
  refine WP.rnd (fun i j=>a8Z i j ..) ?_
  obtain rfl:i=ts.length:=oM
  refine g0 ?_
  exact WP.ret ⟨f.ext eb fun o o1 o2=>oM,bs,hbl,g.sl,m⟩
 |succ d ih=>
  intro i h out oc bs hi f g po hbl m
  refine WP.rnd (fun i j=>a8Z i j ..) ?_
  have e:=f.ext eb fun o o1 o2=>oM
  have hT':=hT.ext e
  have hA':=(hA.frs f fun o o1 o2 o3=>oM).sl
  have hit:(i:Int)<ts.length:=oM
  have ldt:=hT'.ld0 (H:=h) (i:=(i:Int)) (Ext.refl _) oM hit oM
  obtain ⟨t0,t1⟩:=ht _ (b7_ (xs:=ts) (i:=(i:Int)) oM hit)
  obtain ⟨t,htt⟩:∃t:Nat,gi ts (i:Int)=t:=⟨(gi ts (i:Int)).toNat,oM⟩
  rw[htt] at ldt t0 t1
  replace ldt:Gm.ld1 h (elP 1 tA (i:Int))=some (I (t:Int)):=ldt
  have idt:=hT'.idxG (i:=(i:Int)) oM hit
  have htN:t<N:=oM
  have idA:=hA'.idxG (i:=(t:Int)) oM (by rw[i0_]; omega)
  have ldA:=hA'.ld0 (H:=h) (i:=(t:Int)) (Ext.refl _) oM (by rw[i0_]; omega) oM
  rw[j6_ htN] at ldA
  obtain ⟨b,hbv⟩:∃b,bv c acc (t*D.length) D.length=b:=⟨_,rfl⟩
  rw[hbv] at ldA
  replace ldA:Gm.ld1 h (elP 1 all (t:Int))=some (I b):=ldA
  obtain ⟨s',h',o',k1,k2,k3,k4⟩:=app1I g (fun z=>(po z).2) oM b
  have hl1:=f.len
  have hl2:=k4.len
  refine g5 @idt @ldt @idA @ldA @k1 ?_
  refine ih (i+1) h' s' o' (bs++[b]) oM (f.trans (k4.mono fun o _ z=>by have:=(po z.1).1; omega)) k2 (fun z=>?_) (by simp[hbl]) (m.snoc ?_)
  ·rcases (k3 z).1 with ⟨z1,z2⟩|z1
   ·have:=(po z2).1; exact ⟨oM,(k3 z).2⟩
   ·exact ⟨.inr oM,(k3 z).2⟩
  ·rw[hbl,htt,<-hbv]
   exact hlw t htN
theorem c3I {hb b1:Heap}{wp tA:AV}{oo c0 v:Nat}{ts:List Int}{W:Nat->Prop}{os oc' oe ov n:Nat}{q sc se sf:AV}{cs ds fs:List Int}{M:List (Option Int)}(hoo:hb.length<=oo)(ho0:oo<c0)(hT:Sl hb 1 tA (ts.map encI))(ht:∀t∈ts,0<=t/\t<N)(htl:ts.length<=1000000)(wv:WyV2 hb c0 b1 wp N es A Up Dn D acc)(ok:DOk D acc)(hN:N<=100)(hn:n=2*(N*D.length))(hn2:n<=1000000)(w0:SchW W b1 os wp q sc se sf oc' oe ov n cs ds fs M)(hW:∀o,W o->c0<=o)(hlw:∀(u:Nat) (out:Int),u<N->QB (gf cs) (AccS acc D.length u acc.length) out->LW es v u (fun w=>gi acc (goS D 0 w)=true) (if out<0 then -1 else gf cs out.toNat)) :
  ∀(d i:Nat) (h:Heap) (out:AV) (oc:Nat) (bs:List Int),i+d=ts.length->FrS (fun o=>o=oo\/b1.length<=o) b1 h->Gr oc (oc+1) h 1 out (bs.map encI)->(out≠.nils->(oc=oo\/b1.length<=oc)/\oc<h.length)->bs.length=i->ManyQ es D acc v ts bs->
   WP (fun p:Nat × Nat=>a4Y p.1 p.2 out (.ptr os 0 5 0) (.fn j8_ [] []) tA (I ts.length) (I i) h) fun r h'=>Ext hb h'/\∃bs:List Int,bs.length=ts.length/\Sl h' 1 r (bs.map encI)/\ManyQ es D acc v ts bs:=by
 have eb:=wv.eb
 have ebl:=eb.len
 intro d
 induction d with
 |zero=>
  intro i h out oc bs hi f g po hbl m
  refine WP.rnd (fun i j=>a9a i j ..) ?_
  obtain rfl:i=ts.length:=oM
  refine g0 ?_
  exact WP.ret ⟨f.ext eb fun o o1 o2=>oM,bs,hbl,g.sl,m⟩
 |succ d ih=>
  intro i h out oc bs hi f g po hbl m
  refine WP.rnd (fun i j=>a9a i j ..) ?_
  have e:=f.ext eb fun o o1 o2=>oM
  have hT':=hT.ext e
  have hit:(i:Int)<ts.length:=oM
  have ldt:=hT'.ld0 (H:=h) (i:=(i:Int)) (Ext.refl _) oM hit oM
  obtain ⟨t0,t1⟩:=ht _ (b7_ (xs:=ts) (i:=(i:Int)) oM hit)
  obtain ⟨t,htt⟩:∃t:Nat,gi ts (i:Int)=t:=⟨(gi ts (i:Int)).toNat,oM⟩
  rw[htt] at ldt t0 t1
  replace ldt:Gm.ld1 h (elP 1 tA (i:Int))=some (I (t:Int)):=ldt
  have idt:=hT'.idxG (i:=(i:Int)) oM hit
  have htN:t<N:=oM
  have wvh:=(wv.frs f fun o o1 o2=>oM).wy
  have wh:=w0.frs f fun o o1 o2 o3=>by have:=hW o o2; omega
  have hl1:=f.len
  refine g2 @idt @ldt ?_
  refine WP.call (b4f wvh ok hN hn hn2 wh htN) ?_
  rintro _ h2 ⟨e2,o,rfl,qb⟩
  have lw:=hlw t o htN qb
  have f2:=f.trans (FrS.ofExt (D:=fun o=>o=oo\/b1.length<=o) e2)
  have hl2:=e2.len
  have fin:∀b,LW es v t (fun w=>gi acc (goS D 0 w)=true) b->WP (fun p:Nat × Nat=>a4Z p.1 p.2 out (.ptr os 0 5 0) (.fn j8_ [] []) (I b) tA (I ts.length) (I i) h2) fun r h'=>Ext hb h'/\∃bs:List Int,bs.length=ts.length/\Sl h' 1 r (bs.map encI)/\ManyQ es D acc v ts bs:=by
   intro b hlb
   refine WP.congr (fun i=>b3n i.1 i.2 ..) ?_
   obtain ⟨s',h',o',k1,k2,k3,k4⟩:=app1I (g.ext e2) (fun z=>by have:=(po z).2; omega) oM b
   have hl3:=k4.len
   refine g1 @k1 ?_
   refine ih (i+1) h' s' o' (bs++[b]) oM (f2.trans (k4.mono fun o _ z=>by have:=(po z.1).1; omega)) k2 (fun z=>?_) (by simp[hbl]) (m.snoc ?_)
   ·rcases (k3 z).1 with ⟨z1,z2⟩|z1
    ·have:=(po z2).1; exact ⟨oM,(k3 z).2⟩
    ·exact ⟨.inr oM,(k3 z).2⟩
   ·rw[hbl,htt]; exact hlb
  by_cases o0:o<0
  ·rw[if_pos o0] at lw
   refine g0 ?_
   exact fin (-1) lw
  ·rw[if_neg o0] at lw
   have bnd:=qb.bnd (n:=n) (fun x hx=>by
    obtain ⟨s,s1,s2,bb,rfl⟩:=hx
    have la:=ok.la
    have h1:=a4g (N:=N) (S:=D.length) (v:=(t:Int)) (s:=(s:Int)) oM oM oM oM bb
    omega)
   have w2:=wh.ext e2
   have ro:=w2.row
   have gc:=w2.gc.sl
   have idc:=gc.idxG (i:=o) oM (by rw[w2.lc]; omega)
   have ldc:=gc.ld0 (H:=h2) (i:=o) (Ext.refl _) oM (by rw[w2.lc]; omega) oM
   replace ldc:Gm.ld1 h2 (elP 1 sc o)=some (I (gi cs o)):=ldc
   have hgc:gf cs o.toNat=gi cs o:=by show gi cs ((o.toNat:Nat):Int)=_; rw[Int.toNat_of_nonneg oM]
   rw[hgc] at lw
   refine g3 @ro @idc @ldc ?_
   exact fin _ lw
end
section
variable {h:Heap} {N:Nat} {es:List E} {A:List Ar} {Up Dn:List (List Int)} {D:List (List Int)} {acc:List Bool} {x sD sAc tA:AV}
theorem b4g (hN:N<=100)(no:NetOk N es)(co:COk es)(xv:IxV h x N es A Up Dn)(ix:IxC N es A Up Dn)(ok:DOk D acc)(hD:Sl h 5 sD (D.map encR))(hA:Sl h 1 sAc (acc.map encB))(hn2:2*(N*D.length)<=1000000){v:Nat}(hv:v<N){ts:List Int}(hT:Sl h 1 tA (ts.map encI))(ht:∀t∈ts,0<=t/\t<N)(htl:ts.length<=1000000) :
  Tot tab p9_ [x,.agg [sD,sAc],I v,tA] h fun r h'=>Ext h h'/\∃bs:List Int,bs.length=ts.length/\Sl h' 1 r (bs.map encI)/\ManyQ es D acc v ts bs:=by
 refine WP.tot (fun k=>b5D k _ _ _ _ h) ?_
 obtain ⟨sE,sR,sA,sU,sDn,us,ds,hx,hE,hR,hAr,hU,hDn,lu,ldd,hUp,hDp⟩:=xv.ex
 have o1:=hE.one
 have o2:=hAr.one
 have o3:=hU.one
 have o4:=hDn.one
 have o5:=hD.one
 have o6:=hA.one
 obtain ⟨h1,hh1⟩:∃h1,h1=(h++[AObj.cells ⟨[I N,sE,sR,sA,sU,sDn],0,0,false⟩])++[AObj.cells ⟨[sD,sAc],0,0,false⟩]:=⟨_,rfl⟩
 have e1:Ext h h1:=by rw[hh1]; exact (Ext.push _ _).app _
 have l1:h1.length=h.length+2:=by rw[hh1]; simp
 have rx:h1[h.length]?=some (.cells ⟨[I N,sE,sR,sA,sU,sDn],0,0,false⟩):=by rw[hh1,m2_ (by simp)]; simp
 have rd:h1[h.length+1]?=some (.cells ⟨[sD,sAc],0,0,false⟩):=by rw[hh1,r8_ (by simp)]; simp
 have hr2:∀a b c d e f:AV,rdNAt 2 (some (AObj.cells ⟨[a,b,c,d,e,f],0,0,false⟩)) 0 6 0=some (.agg [a,b]):=fun _ _ _ _ _ _=>rfl
 have hr6:rdNAt 6 (some (AObj.cells ⟨[I N,sE,sR,sA,sU,sDn],0,0,false⟩)) 0 6 0=some (.agg [I N,sE,sR,sA,sU,sDn]):=rfl
 have lnT:=hT.lenG
 have hmk:∀H:Heap,mkSl [AV.int .i64 0] 1 8 (AV.int .i64 0) (I ts.length) H=some (.sl H.length 0 0 1 none 0,mkObj H []):=fun H=>c1j (l:=0) (c:=ts.length) (Int.le_refl _) oM oM oM rfl rfl
 rw[hx]
 refine g8 @o1 @hR @o2 @o3 @o4 @o5 @o6 @lnT ?_
 rw[<-hh1]
 rw[hmk]
 simp only[b0O]
 have gO:=Gr.empty h1 1
 rw[a3_] at gO
 obtain ⟨h2,hh2⟩:∃h2,h2=h1++[AObj.cells ⟨[],0,0,false⟩]:=⟨_,rfl⟩
 have e2:Ext h1 h2:=by rw[hh2]; exact Ext.push _ _
 have l2:h2.length=h1.length+1:=by rw[hh2]; simp
 have rx2:=e2.get rx
 have rd2:=e2.get rd
 rw[a3_,<-hh2]
 rw[<-hh2] at gO
 refine g1 @rd2 ?_
 have e12:=e1.trans e2
 refine WP.call (b3a ok (hD.ext e12) (hA.ext e12)) ?_
 rintro _ h3 ⟨e3,rfl⟩
 have e13:=e12.trans e3
 have rx3:=e3.get rx2
 have rd3:=e3.get rd2
 cases hst:stdyB D with
 |false=>
  refine g3 @rx3 @rd3 @hr2 ?_
  refine WP.call (a2G no co oM (hE.ext e13) ok (hD.ext e13) (hA.ext e13) hv) ?_
  rintro all h4 ⟨e4,c,lc,ga⟩
  have e14:=e13.trans e4
  have hT4:=hT.ext e14
  have lnT4:=hT4.lenG
  have h3l:=e3.len
  have h4l:=e4.len
  exact WP.ent (c3H (hb:=h) (b1:=h4) (oo:=h1.length) (N:=N) (es:=es) e14 oM hT ga oM (Nat.le_refl _) ht htl (fun u hu=>bv_lw ok no hv hu lc) ts.length 0 h4 _ h1.length [] oM (FrS.refl _ _) ((gO.ext e3).ext e4) (fun _=>⟨.inl rfl,oM⟩) rfl (fun i hi=>by simp at hi)) fun i=>rfl
 |true=>
  have sd:=a9N.1 hst
  refine g2 @rx3 @rd3 ?_
  refine WP.congr (fun i=>b3o i ..) ?_
  refine g4 @rx3 @rd3 @hr6 @lnT ?_
  have xv':IxV h (.agg [I N,sE,sR,sA,sU,sDn]) N es A Up Dn:=hx▸xv
  refine WP.call (b1F e13 hN xv' ix.toIxS hD hA) ?_
  rintro wp h4 ⟨e4,wv⟩
  refine WP.call (b5e wv.wy ix.toIxS ok hN (n:=2*(N*D.length)) rfl hn2 hv) ?_
  rintro _ h5 ⟨e5,os,q,sc,se,sf,oc,oe,ov,rfl,id2,k2,rk2,cs2,ds2,fs2,M2,sw,di,hM,hk⟩
  have hvS:v*D.length<N*D.length:=by
   have:=spotN (N:=N) (v:=v) (S:=D.length) (s:=0) hv ok.l0
   simpa using this
  have lc:=di.lc (b3v ix.toIxS ok) (fun y hy=>by have:y=2*(v*D.length):=hy; omega) hM
  have h3l:=e3.len
  have h4l:=e4.len
  have h5l:=e5.len
  have e15:=(e13.trans e4).trans e5
  have lnT5:=(hT.ext e15).lenG
  exact WP.ent (c3I (hb:=h) (b1:=h5) (oo:=h1.length) (c0:=h3.length) oM oM hT ht htl (wv.frs (FrS.ofExt (D:=fun _=>False) e5) fun o _ z=>z.elim) ok hN rfl hn2 sw (fun o z=>oM) (fun u o hu qb=>q_lw no co ix ok sd hv hu lc qb) ts.length 0 h5 _ h1.length [] oM (FrS.refl _ _) (((gO.ext e3).ext e4).ext e5) (fun _=>⟨.inl rfl,oM⟩) rfl (fun i hi=>by simp at hi)) fun i=>rfl
end
end Go.Gm.AQ
namespace Go.Gm.AQ
open Go Go.Gm
theorem kOkW {l:List Nat}(h:OkW kE 0 l):l=[]\/l=[0]:=by
 rcases l with _|⟨a,_|⟨b,t⟩⟩
 ·exact .inl rfl
 ·have:=(h 0 a rfl).1
  simp[kE] at this
  exact .inr (by rw[this])
 ·have h1:=(h 0 a rfl).1
  have h2:=h 1 b rfl
  simp[kE] at h1 h2
  obtain ⟨rfl,h3⟩:=h2
  subst h1
  exact absurd h3 (by decide)
theorem kLW1:LW kE 0 1 (fun w=>gi [true] (goS kD 0 w)=true) 4:=by
 refine ⟨.inr ⟨oM,[0],?_,rfl,rfl,rfl⟩,fun l h1 h2 _=>?_⟩
 ·exact OkW.snoc (l:=[]) (fun i e h=>by simp at h) (by simp[kE]) rfl
 ·rcases kOkW h1 with rfl|rfl
  ·exact absurd h2 (by decide)
  ·exact ⟨oM,by decide⟩
theorem kLW0:LW kE 0 0 (fun w=>gi [true] (goS kD 0 w)=true) 0:=by
 refine ⟨.inr ⟨oM,[],?_,rfl,rfl,rfl⟩,fun l h1 h2 _=>?_⟩
 ·exact fun i e h=>by simp at h
 ·rcases kOkW h1 with rfl|rfl
  ·exact ⟨oM,by decide⟩
  ·exact absurd h2 (by decide)
section
variable {h:Heap} {A:List Ar} {Up Dn:List (List Int)} {x sD sAc tA:AV}
theorem kqRoute (xv:IxV h x 2 kE A Up Dn)(ix:IxC 2 kE A Up Dn)(hD:Sl h 5 sD (kD.map encR))(hA:Sl h 1 sAc ([true].map encB)) :
  Tot tab d4_ [x,.agg [sD,sAc],I 0,I 1] h fun r h'=>Ext h h'/\∃sl,r=.tup [.agg [I 4,sl],.bool true]/\Sl h' 1 sl [[I 0]]:=by
 refine (y4_ (N:=2) (v:=0) (u:=1) oM kNet kCo xv ix kDok hD hA (by simp[kD]) oM oM).mono ?_
 rintro r h' ⟨e,b,lw,rq⟩
 obtain rfl:=lw.uniq kLW1
 refine ⟨e,?_⟩
 rcases rq with ⟨q,_⟩|⟨_,sl,ll,q2,q3,q4,q5,q6,_⟩
 ·omega
 ·rcases kOkW q5 with rfl|rfl
  ·exact absurd q6 (by decide)
  ·exact ⟨sl,q2,q3.sl⟩
theorem kqMany (xv:IxV h x 2 kE A Up Dn)(ix:IxC 2 kE A Up Dn)(hD:Sl h 5 sD (kD.map encR))(hA:Sl h 1 sAc ([true].map encB))(hT:Sl h 1 tA [[I 1],[I 0]]) :
  Tot tab p9_ [x,.agg [sD,sAc],I 0,tA] h fun r h'=>Ext h h'/\Sl h' 1 r ([(4:Int),0].map encI):=by
 refine (b4g (N:=2) (v:=0) (ts:=[1,0]) oM kNet kCo xv ix kDok hD hA (by simp[kD]) oM hT (by simp) (by simp)).mono ?_
 rintro r h' ⟨e,bs,hb,sl,m⟩
 refine ⟨e,?_⟩
 match bs,hb with
 |[a,b],_=>
  have h1:=m 0 (by simp)
  have h2:=m 1 (by simp)
  have e1:gi [a,b] 0=4:=h1.uniq kLW1
  have e2:gi [a,b] 1=0:=h2.uniq kLW0
  obtain rfl:a=4:=e1
  obtain rfl:b=0:=e2
  exact sl
theorem kqMany0 (xv:IxV h x 2 kE A Up Dn)(ix:IxC 2 kE A Up Dn)(hD:Sl h 5 sD (kD.map encR))(hA:Sl h 1 sAc ([true].map encB)) :
  Tot tab p9_ [x,.agg [sD,sAc],I 0,.nils] h fun r h'=>Ext h h'/\Sl h' 1 r []:=by
 refine (b4g (N:=2) (v:=0) (ts:=[]) oM kNet kCo xv ix kDok hD hA (by simp[kD]) oM (.inl ⟨rfl,rfl⟩) (by simp) (by simp)).mono ?_
 rintro r h' ⟨e,bs,hb,sl,m⟩
 obtain rfl:=List.eq_nil_of_length_eq_zero hb
 exact ⟨e,sl⟩
end
theorem a4h (h:Heap):Tot tab g3_ [] h fun r h'=>r=.bool true/\Ext h h':=by
 refine WP.tot (fun k=>a9s k h) ?_
 refine g0 ?_
 obtain ⟨h1,hh1⟩:∃h1,h1=h++[AObj.cells ⟨[AV.int .i64 0,AV.int .i64 1,AV.int .i64 0,AV.int .i64 4],0,0,false⟩]:=⟨_,rfl⟩
 have e1:Ext h h1:=by rw[hh1]; exact eX
 have r0:h1[h.length]?=some (.cells ⟨encE ⟨0,1,0,4⟩,0,0,false⟩):=by rw[hh1]; refine g0 ?_; try rfl
 have hs:Sl h1 4 (.sl h.length 0 1 4 none 0) (kE.map encE):=b0p r0 rfl
 rw[<-hh1]
 refine WP.call (a4L (N:=2) oM kNet kCo hs) ?_
 rintro x h2 ⟨e2,A,Up,Dn,xv,ix⟩
 obtain ⟨sE,sR,sA,sU,sDn,us,ds,hx,hE,hR,hAr,hU,hDn,lu,ldd,hUp,hDp⟩:=xv.ex
 have o1:=hE.one
 have o2:=hAr.one
 have o3:=hU.one
 have o4:=hDn.one
 have hr6:rdNAt 6 (some (AObj.cells ⟨[I (2:Nat),sE,sR,sA,sU,sDn],0,0,false⟩)) 0 6 0=some (.agg [I (2:Nat),sE,sR,sA,sU,sDn]):=rfl
 have hr2:∀a b:AV,rdNAt 2 (some (AObj.cells ⟨[a,b],0,0,false⟩)) 0 2 0=some (.agg [a,b]):=fun _ _=>rfl
 rw[hx]
 refine g5 @o1 @hR @o2 @o3 @o4 ?_
 obtain ⟨h3,hh3⟩:∃h3,h3=(List.set (List.set (h2++[AObj.cells ⟨[AV.int .i64 0,.nils,.nils,.nils,.nils,.nils],0,0,false⟩]) h2.length (AObj.cells ⟨[I (2:Nat),sE,sR,sA,sU,sDn],0,0,false⟩) ++
   [AObj.cells ⟨[AV.int .i64 0,AV.int .i64 0,AV.int .i64 0,AV.int .i64 0,AV.int .i64 0],0,0,false⟩]++[AObj.cells ⟨[AV.bool true],0,0,false⟩]++[AObj.cells ⟨[.nils,.nils],0,0,false⟩])
   (h2.length+1+1+1) (AObj.cells ⟨[AV.sl (h2.length+1) 0 1 5 none 0,AV.sl (h2.length+1+1) 0 1 1 none 0],0,0,false⟩)):=⟨_,rfl⟩
 have e3:Ext h2 h3:=by rw[hh3]; exact eX
 have r1:h3[h2.length]?=some (.cells ⟨[I (2:Nat),sE,sR,sA,sU,sDn],0,0,false⟩):=by rw[hh3]; simp -implicitDefEqProofs (disch:=first|assumption|omega|(simp only[gL,gA]<;>omega)|fail) only[gC,reduceIte]; try rfl
 have r2:h3[h2.length+1]?=some (.cells ⟨encR [0,0,0,0,0],0,0,false⟩):=by rw[hh3]; refine g0 ?_; try rfl
 have r3:h3[h2.length+1+1]?=some (.cells ⟨encB true,0,0,false⟩):=by rw[hh3]; refine g0 ?_; try rfl
 have r4:h3[h2.length+1+1+1]?=some (.cells ⟨[AV.sl (h2.length+1) 0 1 5 none 0,AV.sl (h2.length+1+1) 0 1 1 none 0],0,0,false⟩):=by rw[hh3]; simp -implicitDefEqProofs (disch:=first|assumption|omega|(simp only[gL,gA]<;>omega)|fail) only[gC,reduceIte]; try rfl
 have hD:Sl h3 5 (.sl (h2.length+1) 0 1 5 none 0) (kD.map encR):=b0p r2 rfl
 have hA:Sl h3 1 (.sl (h2.length+1+1) 0 1 1 none 0) ([true].map encB):=b0p r3 rfl
 have xv3:=(hx▸xv:IxV h2 (.agg [I (2:Nat),sE,sR,sA,sU,sDn]) 2 kE A Up Dn).ext e3
 rw[<-hh3]
 refine WP.call (kqRoute xv3 ix hD hA) ?_
 rintro _ h4 ⟨e4,sl,rfl,hsl⟩
 have r14:=e4.get r1
 have r44:=e4.get r4
 have b1:=(List.getElem?_eq_some_iff.1 r14).1
 have b4:=(List.getElem?_eq_some_iff.1 r44).1
 refine g8 @a4_ @a5_ hsl.one hsl.cells @r14 @r44 @hr6 @hr2 ?_
 obtain ⟨h5,hh5⟩:∃h5,h5=((h4++[AObj.cells ⟨[AV.int .i64 0,.nils],0,0,false⟩]).set h4.length (.cells ⟨[I 4,sl],0,0,false⟩))++[AObj.cells ⟨[AV.int .i64 1,AV.int .i64 0],0,0,false⟩]:=⟨_,rfl⟩
 have e5:Ext h4 h5:=by rw[hh5]; exact eX
 have q5:h5[h4.length]?=some (.cells ⟨[I 4,sl],0,0,false⟩):=by rw[hh5]; simp -implicitDefEqProofs (disch:=first|assumption|omega|(simp only[gL,gA]<;>omega)|fail) only[gC,reduceIte]; try rfl
 have t5:h5[h4.length+1]?=some (.cells ⟨[I 1,I 0],0,0,false⟩):=by rw[hh5]; simp -implicitDefEqProofs (disch:=first|assumption|omega|(simp only[gL,gA]<;>omega)|fail) only[gC,reduceIte]; try rfl
 have hT:Sl h5 1 (.sl (h4.length+1) 0 2 1 none 0) [[I 1],[I 0]]:=.inr ⟨_,0,none,0,_,rfl,t5,Nat.le_refl _,rfl,by simp⟩
 have e45:=e4.trans e5
 rw[<-hh5]
 refine WP.call (kqMany (xv3.ext e45) ix (hD.ext e45) (hA.ext e45) hT) ?_
 rintro m2 h6 ⟨e6,z6⟩
 have r16:=(e5.trans e6).get r14
 have r46:=(e5.trans e6).get r44
 refine g4 @r16 @r46 @hr6 @hr2 ?_
 have e46:=e45.trans e6
 refine WP.call (kqMany0 (xv3.ext e46) ix (hD.ext e46) (hA.ext e46)) ?_
 rintro m0 h7 ⟨e7,z7⟩
 have q7:=(e6.trans e7).get q5
 have l7:=z7.len
 have ls:=hsl.len
 simp only[List.length_nil,List.length_cons] at l7 ls
 have z67:=z6.ext e7
 have g0:gi [(4:Int),0] 0=4:=rfl
 have g1:gi [(4:Int),0] 1=0:=rfl
 refine g9 @q7 @l7 @ls z67.lenG z67.idxG z67.ld0 @g0 @g1 @encI.eq_1 ?_
 exact WP.ret ⟨rfl,((((e1.trans e2).trans e3).trans e46)).trans e7⟩
end Go.Gm.AQ
namespace Go.Gm.AQ
open Go Go.Gm
theorem h0_ {a n:Int}(hn:0<n)(hf:Fit n)(h:Heap):Tot tab b1_ [I a,I n] h fun v h'=>v=I (a % n)/\h=h':=by
 refine WP.tot (fun k=>a8V k _ _ h) ?_
 refine WP.oa (a8F a n oM) ?_
 refine WP.oa (a6U _ _) ?_
 have hlt:=Int.tmod_lt_of_pos a hn
 have hgt:=Int.lt_tmod_of_pos a hn
 have h1:=Int.tmod_eq_emod (a:=a) (b:=n)
 have h2:=Int.emod_nonneg a (by omega:n≠0)
 have h3:=Int.emod_lt_of_pos a hn
 by_cases h0:a.tmod n<0
 ·simp only[decide_eq_true h0,a2L]
  refine WP.oa (a8E _ _ (by unfold Fit at *; omega)) (WP.ret ⟨?_,rfl⟩)
  congr 1
  split at h1<;>omega
 ·simp only[decide_eq_false h0,a1M]
  refine WP.ret ⟨?_,rfl⟩
  congr 1
  split at h1<;>omega
theorem DOk.wr {D:List (List Int)}{acc:List Bool}(ok:DOk D acc){s m:Nat}{x:Int}(s1:s<D.length)(m1:m<5)(x0:0<=x)(x1:x<D.length):DOk (D.set s ((gi D s).set m x)) acc:=by
 have hr:=ok.row s oM oM
 refine ⟨by simpa using ok.l0,by simpa using ok.l1,by simpa using ok.la,fun t t0 t1=>?_,fun t k t0 t1 k0 k1=>?_⟩
 ·obtain ⟨t,rfl⟩:∃t':Nat,t=t':=⟨t.toNat,oM⟩
  simp only[List.length_set] at t1
  rw[giset2 s1]
  split
  ·rw[List.length_set]; exact hr
  ·exact ok.row _ t0 t1
 ·obtain ⟨t,rfl⟩:∃t':Nat,t=t':=⟨t.toNat,oM⟩
  obtain ⟨k,rfl⟩:∃k':Nat,k=k':=⟨k.toNat,oM⟩
  simp only[List.length_set] at t1 ⊢
  rw[giset2 s1]
  split
  ·rename_i q
   rw[giset2 oM]
   split
   ·exact ⟨x0,x1⟩
   ·exact ok.to _ _ oM oM k0 k1
  ·exact ok.to _ _ t0 t1 k0 k1
structure RI (hb:Heap) (oD n:Nat) (sD:AV) (acc:List Bool) (h:Heap) (D:List (List Int)):Prop where
 fr:FrS (fun o=>o=oD) hb h
 g:Gr oD (oD+1) h 5 sD (D.map encR)
 ok:DOk D acc
 ln:D.length=n
end Go.Gm.AQ
namespace Go.Gm.AQ
open Go Go.Gm
def starB (D:List (List Int))(acc:List Bool)(f:Int->Bool):Bool:=gi acc 0 && ((List.range D.length).all fun s=>(List.range 5).all fun k=>gi acc (nx D (s:Int) (k:Int)) == (gi acc (s:Int) && f (k:Int)))
theorem c2d {D:List (List Int)}{acc:List Bool}{f:Int->Bool}(ok:DOk D acc)(h:starB D acc f=true):∀(w:List Int) (s:Int),(∀m∈w,0<=m/\m<5)->0<=s->s<D.length->gi acc (goS D s w)=(gi acc s && w.all f):=by
 simp only[starB,Bool.and_eq_true,List.all_eq_true,List.mem_range,beq_iff_eq] at h
 intro w
 induction w with
 |nil=>intro s _ _ _; simp[goS]
 |cons m w ih=>
  intro s hm s0 s1
  have m0:=hm m (by simp)
  have n0:=ok.to s m s0 s1 m0.1 m0.2
  have h1:=h.2 s.toNat oM m.toNat oM
  rw[Int.toNat_of_nonneg s0,Int.toNat_of_nonneg m0.1] at h1
  show gi acc (goS D (nx D s m) w)=_
  rw[ih _ (fun x hx=>hm x (List.mem_cons_of_mem _ hx)) n0.1 n0.2,h1,List.all_cons,Bool.and_assoc]
def smB (n:Nd)(f:Int->Bool):Bool:=
 gdB n && (decide ((txt n).length<=200/\cst n+18<=900000/\dp n<=30) &&
  match nfaF n with
  |none=>false
  |some nf=>match subF nf 200 with
   |none=>false
   |some (D,acc)=>decide (D.length<=3) && starB D acc f)
def stM (m:Nat):Nd:=.star (.set (2 ^ m))
theorem smB_m {m:Nat}(h:m<5):smB (stM m) (fun k=>k == (m:Int))=true:=by
 have:m=0\/m=1\/m=2\/m=3\/m=4:=oM
 rcases this with rfl|rfl|rfl|rfl|rfl<;>decide +kernel
theorem c3K:smB (.star (.set 31)) (fun _=>true)=true:=by decide +kernel
theorem b3x {n:Nd}{f:Int->Bool}(hb:smB n f=true)(h:Heap):Tot tab b0_ [.str (ofL (txt n))] h fun r h'=>Ext h h'/\∃D acc sN sA,r=.tup [.agg [sN,sA],I 0]/\DOk D acc/\D.length<=3/\Gr h.length h'.length h' 5 sN (D.map encR)/\Gr h.length h'.length h' 1 sA (acc.map encB)/\∀w,(∀m∈w,0<=m/\m<5)->(gi acc (goS D 0 w)=true↔∀m∈w,f m=true):=by
 simp only[smB,Bool.and_eq_true,decide_eq_true_eq] at hb
 obtain ⟨h2,⟨z1,z2,z3⟩,h5⟩:=hb
 obtain ⟨g,bd⟩:=b2c _ h2
 cases hn:nfaF n with
 |none=>rw[hn] at h5; cases h5
 |some nf=>
  rw[hn] at h5
  cases hs:subF nf 200 with
  |none=>simp only[hs] at h5; cases h5
  |some p=>
   obtain ⟨D0,acc0⟩:=p
   simp only[hs,Bool.and_eq_true,decide_eq_true_eq] at h5
   refine (y9_ (by rw[q7_]; exact z1) z2 (a6T g z3) g bd h).mono ?_
   rintro r h' ⟨e,q3⟩
   simp only[CmpQ,hn,hs] at q3
   obtain ⟨vv,rfl,D,acc,sN,sA,rfl,gN,gA,ok,hle,hw⟩:=q3
   refine ⟨e,D,acc,sN,sA,rfl,ok,oM,gN,gA,fun w hm=>?_⟩
   have ok0:=a9i hs
   have h6:=c2d ok0 h5.2 w 0 hm oM (by have:=ok0.l0; omega)
   have h7:gi acc0 0=true:=by
    have:=h5.2
    simp only[starB,Bool.and_eq_true] at this
    exact this.1
   rw[h7,Bool.true_and] at h6
   rw[<-hw w hm,h6,List.all_eq_true]
theorem mstr {m:Nat}(h:m<5):∃t,slStr (.str ⟨#[119,98,99,102,116]⟩) (some (I (m:Int))) (some (I ((m:Int)+1)))=some t/\binV .add .scalar t (.str ⟨#[42]⟩)=some (.str (ofL (txt (stM m)))):=by
 have:m=0\/m=1\/m=2\/m=3\/m=4:=oM
 refine ⟨.str (ofL (txt (.set (2 ^ m)))),?_,?_⟩<;>rcases this with rfl|rfl|rfl|rfl|rfl<;>kernel_rfl
theorem anystr:(⟨#[46,42]⟩:ByteArray)=ofL (txt (.star (.set 31))):=by kernel_rfl
end Go.Gm.AQ
