/- A part of the proof (GmAQqg, GmAQqh, GmAQqi, GmAQqj, GmAQqk, GmAQql, GmAQqm, GmAQqn, GmAQqo, GmAQqp, GmEntry, GmRw, GmRaw). -/
import Derived.OpenShut
import Derived.ChangeArms
import Derived.DataReads
import Derived.Test.YtldnkafmanalmaaQueryRawP8
set_option linter.unusedVariables false
set_option linter.unusedSimpArgs false
set_option linter.unusedSectionVars false
namespace Go.Gm.AQ
open Go Go.Gm
section
variable {h0 h:Heap} {wp:AV} {N LL:Nat} {es:List E} {A:List Ar} {Up Dn:List (List Int)} {D:List (List Int)} {acc:List Bool}
def QDone (N:Nat)(A:List Ar)(Up Dn D:List (List Int))(st:Nat->Prop)(W:Nat->Prop)(h':Heap)(os:Nat)(wp q sc se sf:AV)(oc oe ov n:Nat):Prop:=
 ∃id2 k2 rk2 cs2 ds2 fs2 M2,SchW W h' os wp q sc se sf oc oe ov n cs2 ds2 fs2 M2/\DI n WQ (hopQ N A Up Dn D) st id2 [] (gf cs2) (gf M2) (gf ds2) (gf fs2) rk2 k2/\(∀x:Nat,x<n->gf M2 x=none)/\un n (gf cs2)+(k2:Int)=n
theorem b0D {W:Nat->Prop}{hb:Heap}{os oc oe ov:Nat}{q sc se sf:AV}{n:Nat}{st:Nat->Prop}(e0:Ext h0 hb)(hW:∀o,W o->h0.length<=o)(hWn:∀o,hb.length<=o->W o)(wv:WyV h0 wp N es A Up Dn D acc)(ix:IxS LL N es A Up Dn)(ok:DOk D acc)(hN:N<=100)(hn:n=2*(N*D.length))(hn2:n<=1000000)(hst:∀x,st x->x<n) :
  ∀(d:Nat) (h:Heap) (id0 k:Nat) (rk:Nat->Nat) (cs ds fs:List Int) (M:List (Option Int)),n+1<=d+k->FrS W hb h->SchW W h os wp q sc se sf oc oe ov n cs ds fs M->DI n WQ (hopQ N A Up Dn D) st id0 [] (gf cs) (gf M) (gf ds) (gf fs) rk k->un n (gf cs)+k=n->
   WP (fun p:Nat × Nat=>r1_ p.1 p.2 (.ptr os 0 5 0) h) fun r h'=>r=.ptr os 0 5 0/\FrS W hb h'/\QDone N A Up Dn D st W h' os wp q sc se sf oc oe ov n:=by
 have hg:=a4U ix ok
 rw[<-hn] at hg
 intro d
 induction d with
 |zero=>
  intro h id0 k rk cs ds fs M hd f w di hk
  have:=i4_ n (gf cs)
  omega
 |succ d ih=>
  intro h id0 k rk cs ds fs M hd f w di hk
  refine WP.rnd (fun i j=>a2Z i j ..) ?_
  have ex:Ext h0 h:=f.ext e0 fun o q1 q2=>by have:=hW o q2; omega
  have hbl:=f.len
  have hml:=w.qv.lm
  have wa:SchW (fun o=>W o/\o<h.length) h os wp q sc se sf oc oe ov n cs ds fs M:=w.mono fun o z1 z2=>⟨z2,z1⟩
  have ro:=w.row
  simp -implicitDefEqProofs (maxSteps:=1000000) (disch:=first|assumption|omega|(simp only[gL]<;>omega)|((repeat (first|exact Ext.refl _|assumption|apply Ext.app|apply Ext.mk|(refine Ext.setr ?_ (by (first|omega|(simp only[gL]<;>omega))) _))); done)|(simp only[gL,gA,ro]<;>omega)|fail) only[gB,setAll,partL,fldV,reduceIte,Nat.reduceAdd,Nat.reduceMul,ro]
  refine WP.call (wa.qv.pop hn2) ?_
  rintro r h1 ⟨M2,pq,v1,f1⟩
  have w1:=wa.q' f1 (fun o z=>z.2) v1
  have ro1:=w1.row
  have f1W:FrS W h h1:=f1.mono fun o _ z=>z.1.1
  have fl1:=f1.len
  rcases pq with ⟨p1,rfl,rfl⟩|⟨idI,key,p1,rfl,rfl⟩
  ·simp -implicitDefEqProofs (maxSteps:=1000000) (disch:=first|assumption|omega|(simp only[gL]<;>omega)|((repeat (first|exact Ext.refl _|assumption|apply Ext.app|apply Ext.mk|(refine Ext.setr ?_ (by (first|omega|(simp only[gL]<;>omega))) _))); done)|(simp only[gL,gA,b5_,b6_,a0P]<;>omega)|fail) only[gB,setAll,partL,fldV,reduceIte,Nat.reduceAdd,Nat.reduceMul,b5_,b6_,a0P]
   exact WP.ret ⟨rfl,f.trans f1W,id0,k,rk,cs,ds,fs,_,w1.mono fun o _ z=>z.1,di,fun x hx=>a3j p1 (by omega) (by omega),hk⟩
  ·obtain ⟨id,rfl⟩:∃id:Nat,idI=id:=⟨idI.toNat,by have:=p1.i0; omega⟩
   have hid:id<n:=by have:=p1.i1; omega
   have hmin:∀z:Nat,z<n->∀u,gf M z=some u->key<=u:=by
    intro z hz u hu
    have:=p1.m z u (by omega) (by omega) hu
    simp only[ltI] at this
    omega
   have di2:=di.pop hg hst hid p1.k hmin
   obtain ⟨q1,q2,q3⟩:=di.que id hid key p1.k
   have hk1:=di.bnd id hid key (.inr p1.k)
   have hup:=a9a (c:=gf cs) hid (by omega)
   have hkn:k<n:=by omega
   rw[show (id:Int).toNat=id by omega] at w1
   obtain ⟨h2,s2,w2,f2⟩:=w1.setC hid key
   have ro2:=w2.row
   have f2W:FrS W h h2:=f1W.trans (f2.mono fun o _ z=>z▸w.wc)
   have fl2:=f2.len
   have ex2:Ext h0 h2:=f2W.ext ex fun o z1 z2=>by have:=hW o z2; omega
   have gr1:Gr oc (oc+1) h1 1 sc (cs.map encI):=w1.gc
   simp -implicitDefEqProofs (maxSteps:=1000000) (disch:=first|assumption|omega|(simp only[gL]<;>omega)|((repeat (first|exact Ext.refl _|assumption|apply Ext.app|apply Ext.mk|(refine Ext.setr ?_ (by (first|omega|(simp only[gL]<;>omega))) _))); done)|(simp only[gL,gA,b5_,b6_,a0P,ro1,gr1.sl.idxG,w.lc,s2,ro2]<;>omega)|fail) only[gB,setAll,partL,fldV,reduceIte,Nat.reduceAdd,Nat.reduceMul,b5_,b6_,a0P,ro1,gr1.sl.idxG,w.lc,s2,ro2]
   refine WP.call (a5o (wv.ext ex2) ok (x:=id) (by omega)) ?_
   rintro _ h3 ⟨rfl,e3⟩
   have hz:AV.int .i64 0=I 0:=rfl
   simp only[hz]
   obtain ⟨v,hv⟩:∃v,v=id / 2 / D.length:=⟨_,rfl⟩
   obtain ⟨s,hs⟩:∃s,s=id / 2 % D.length:=⟨_,rfl⟩
   obtain ⟨d1,d2⟩:=dm (N:=N) (S:=D.length) (x:=id / 2) (by omega)
   rw[<-hv,<-hs]
   rw[<-hv] at d1
   obtain ⟨h4,hh4⟩:∃h4,h4=(h3++[AObj.cells ⟨[I 0,I 0,.bool false],0,0,false⟩]).set h3.length (.cells ⟨[I (v:Int),I (s:Int),.bool (id % 2 == 1)],0,0,false⟩):=⟨_,rfl⟩
   have e4:Ext h3 h4:=by rw[hh4]; ((repeat (first|exact Ext.refl _|assumption|apply Ext.app|apply Ext.mk|(refine Ext.setr ?_ (by (first|omega|(simp only[gL]<;>omega))) _))))
   have l4:h4.length=h3.length+1:=by rw[hh4]; simp
   have r4:h4[h3.length]?=some (.cells ⟨[I (v:Int),I (s:Int),.bool (id % 2 == 1)],0,0,false⟩):=by rw[hh4]; exact a0_ (by simp)
   have e34:=e3.trans e4
   have fl3:=e3.len
   have w4:=w2.ext e34
   have ro4:=w4.row
   have ex4:=ex2.trans e34
   have f4W:FrS W hb h4:=(f.trans f2W).trans (FrS.ofExt e34)
   obtain ⟨ow,sE,sR,sA,sU,sDn,sD,sAc,sF,us,B,hwp,rw0,wA,wU,wlu,wD,wAc,wF,wlB,wUp,wFl⟩:=wv.ex
   have hcid:gi (cs.set id key) (id:Int)=key:=by
    have:=congrFun (gset (xs:=cs) (y:=id) (by rw[w.lc]; exact hid) key) id
    rw[if_pos rfl] at this
    exact this
   have fin:∀(h5:Heap) (W5:Nat->Prop) (ds5 fs5:List Int) (M5:List (Option Int)),FrS W hb h5->h4.length<=h5.length->(∀o,W5 o->W o)->h5[h3.length]?=some (.cells ⟨[I (v:Int),I (s:Int),.bool (id % 2 == 1)],0,0,false⟩)->SchW W5 h5 os wp q sc se sf oc oe ov n (cs.set id key) ds5 fs5 M5->
     DI n WQ (hopQ N A Up Dn D) st id ((fallX A (allD Dn N) v).map (hopK A D true (s:Int))) (gf (cs.set id key)) (gf M5) (gf ds5) (gf fs5) (fun x=>if x=id then k else rk x) (k+1)->
     WP (fun p:Nat × Nat=>r2_ p.1 p.2 (.ptr os 0 5 0) (I (id:Int)) (.ptr h3.length 0 3 0) h5) fun r h'=>r=.ptr os 0 5 0/\FrS W hb h'/\QDone N A Up Dn D st W h' os wp q sc se sf oc oe ov n:=by
    intro h5 W5 ds5 fs5 M5 f5 hl5 hW5 r5 w5 d5
    refine WP.congr (fun i=>a2Y i.1 i.2 ..) ?_
    have ex5:Ext h0 h5:=f5.ext e0 fun o q1 q2=>by have:=hW o q2; omega
    have ro5:=w5.row
    have rw5:=ex5.get rw0
    have wF5:=wF.ext ex5
    have ldF:=wF5.ld0 (H:=h5) (i:=(v:Int)) (Ext.refl _) (by omega) (by omega) (by omega)
    replace ldF:Gm.ld1 h5 (elP 1 sF (v:Int))=some (gi B (v:Int)):=ldF
    have idF:=wF5.idxG (i:=(v:Int)) (by omega) (by omega)
    rw[hwp] at ro5
    simp -implicitDefEqProofs (maxSteps:=1000000) (disch:=first|assumption|omega|(simp only[gL]<;>omega)|((repeat (first|exact Ext.refl _|assumption|apply Ext.app|apply Ext.mk|(refine Ext.setr ?_ (by (first|omega|(simp only[gL]<;>omega))) _))); done)|(simp only[gL,gA,ro5,rw5,r5,idF,ldF]<;>omega)|fail) only[gB,setAll,partL,fldV,reduceIte,Nat.reduceAdd,Nat.reduceMul,ro5,rw5,r5,idF,ldF]
    have hfl:(fallX A (allD Dn N) v).length<=10000000000:=by
     have a1:(fallX A (allD Dn N) v).length<=(allD Dn N).length:=List.length_filter_le _ _
     have a2:=a6U ix N (Nat.le_refl _)
     omega
    refine WP.call (a7J (st:=st) (rk:=fun x=>if x=id then k else rk x) (k:=k) (rest:=[]) (W:=W5) ex5 (fun o z=>hW o (hW5 o z)) wv ix ok hN hn hn2 hg (ks:=fallX A (allD Dn N) v) (dn:=true) (fun k hk=>⟨(a3p ix hk).1,(a3p ix hk).2.1⟩) (fun k hk=>?_) (wFl v d1) hid hfl hcid q2 hk1 hkn w5 (by rw[List.append_nil,<-hs]; exact d5)) ?_
    ·rw[<-hs]
     refine List.mem_append.2 (.inr ?_)
     rw[<-hv,<-hs]
     exact List.mem_map_of_mem hk
    ·rintro _ h6 ⟨rfl,f6,ds6,fs6,M6,w6,d6⟩
     have hk6:un n (gf (cs.set id key))+((k+1:Nat):Int)=n:=by
      have:gf (cs.set id key)=up (gf cs) id key:=gset (by rw[w.lc]; exact hid) _
      rw[this,un_up hid q2,if_pos (by show gf cs id<0; omega)]
      omega
     have:=f5.len
     exact ih h6 id (k+1) _ _ ds6 fs6 M6 (by omega) (f5.trans (f6.mono fun o _ z=>hW5 o z)) (w6.mono fun o _ z=>z.elim (hW5 o) fun z=>hWn o (by omega)) d6 hk6
   have gC:gf (cs.set id key)=fun x=>if x=id then key else gf cs x:=gset (by rw[w.lc]; exact hid) _
   have gM:gf (M.set id none)=fun x=>if x=id then none else gf M x:=gset (by omega) _
   have dq:DI n WQ (hopQ N A Up Dn D) st id (hopQ N A Up Dn D id) (gf (cs.set id key)) (gf (M.set id none)) (gf ds) (gf fs) (fun x=>if x=id then k else rk x) (k+1):=by
    rw[gC,gM]; exact di2
   by_cases hb1:id % 2=1
   ·have hbb:(id % 2 == 1)=true:=by simp[hb1]
    have hq:hopQ N A Up Dn D id=(fallX A (allD Dn N) v).map (hopK A D true (s:Int)):=by
     rw[hopQ,if_pos hb1,List.nil_append,<-hv,<-hs]
    rw[hq] at dq
    rw[hbb] at hh4 r4 fin
    simp -implicitDefEqProofs (maxSteps:=1000000) (disch:=first|assumption|omega|(simp only[gL]<;>omega)|((repeat (first|exact Ext.refl _|assumption|apply Ext.app|apply Ext.mk|(refine Ext.setr ?_ (by (first|omega|(simp only[gL]<;>omega))) _))); done)|(simp only[gL,gA,hbb]<;>omega)|fail) only[gB,setAll,partL,fldV,reduceIte,Nat.reduceAdd,Nat.reduceMul,hbb]
    rw[<-hh4]
    exact fin h4 _ ds fs _ f4W (Nat.le_refl _) (fun o z=>z.1) r4 w4 dq
   ·have hbb:(id % 2 == 1)=false:=by simp[hb1]
    have hq:hopQ N A Up Dn D id=(gi Up (v:Int)).map (hopK A D false (s:Int))++(fallX A (allD Dn N) v).map (hopK A D true (s:Int)):=by
     rw[hopQ,if_neg hb1,<-hv,<-hs]
    rw[hq] at dq
    rw[hbb] at hh4 r4 fin
    have rw4:=ex4.get rw0
    have wU4:=wU.ext ex4
    have ldU:=wU4.ld0 (H:=h4) (i:=(v:Int)) (Ext.refl _) (by omega) (by omega) (by omega)
    replace ldU:Gm.ld1 h4 (elP 1 sU (v:Int))=some (gi us (v:Int)):=ldU
    have idU:=wU4.idxG (i:=(v:Int)) (by omega) (by omega)
    have hr:=ix.rU (v:Int) (by omega) (by omega)
    simp -implicitDefEqProofs (maxSteps:=1000000) (disch:=first|assumption|omega|(simp only[gL]<;>omega)|((repeat (first|exact Ext.refl _|assumption|apply Ext.app|apply Ext.mk|(refine Ext.setr ?_ (by (first|omega|(simp only[gL]<;>omega))) _))); done)|(simp only[gL,gA,hbb]<;>omega)|fail) only[gB,setAll,partL,fldV,reduceIte,Nat.reduceAdd,Nat.reduceMul,hbb]
    rw[<-hh4]
    have ro4':=ro4
    rw[hwp] at ro4'
    simp -implicitDefEqProofs (maxSteps:=1000000) (disch:=first|assumption|omega|(simp only[gL]<;>omega)|((repeat (first|exact Ext.refl _|assumption|apply Ext.app|apply Ext.mk|(refine Ext.setr ?_ (by (first|omega|(simp only[gL]<;>omega))) _))); done)|(simp only[gL,gA,ro4',rw4,r4,idU,ldU]<;>omega)|fail) only[gB,setAll,partL,fldV,reduceIte,Nat.reduceAdd,Nat.reduceMul,ro4',rw4,r4,idU,ldU]
    refine WP.call (a7J (st:=st) (rk:=fun x=>if x=id then k else rk x) (k:=k) (rest:=(fallX A (allD Dn N) v).map (hopK A D true (s:Int))) ex4 (fun o z=>hW o z.1) wv ix ok hN hn hn2 hg (ks:=gi Up (v:Int)) (dn:=false) (fun k hk=>⟨(hr.2 k hk).1,(hr.2 k hk).2.1⟩) (fun k hk=>?_) (wUp v (by omega) (by omega)) hid (by have:=hr.1; omega) hcid q2 hk1 hkn w4 (by rw[<-hs]; exact dq)) ?_
    ·rw[<-hs]
     have:=List.mem_map_of_mem (f:=hopK A D false (s:Int)) hk
     rw[hq]
     exact List.mem_append.2 (.inl this)
    ·rintro _ h5 ⟨rfl,f5,ds5,fs5,M5,w5,d5⟩
     exact fin h5 _ ds5 fs5 M5 (f4W.trans (f5.mono fun o _ z=>z.1)) f5.len (fun o z=>z.elim (fun z=>z.1) fun z=>hWn o (by omega)) (by rw[f5.get (fun z=>by omega) (by omega)]; exact r4) w5 d5
end
end Go.Gm.AQ
namespace Go.Gm.AQ
open Go Go.Gm
section
variable {h0 h:Heap} {wp:AV} {N LL:Nat} {es:List E} {A:List Ar} {Up Dn:List (List Int)} {D:List (List Int)} {acc:List Bool}
theorem b0E {hb:Heap}{W:Nat->Prop}{os oc oe ov n:Nat}{q sc se sf fromv:AV}{M:List (Option Int)}{Q:AV->Heap->Prop}(hn2:n<=1000000)(hW:∀o,W o->hb.length<=o)(hQ:∀h cs ds fs,Ext hb h->SchW W h os wp q sc se sf oc oe ov n cs ds fs M->(∀x:Nat,x<n->gf cs x = -1/\gf ds x = -1/\gf fs x = -1)->WP (fun i:Nat=>y6_ i fromv (.ptr os 0 5 0) h) Q) :
  ∀(d i:Nat) (h:Heap) (cs ds fs:List Int),i+d=n->Ext hb h->SchW W h os wp q sc se sf oc oe ov n cs ds fs M->(∀x:Nat,x<i->gf cs x = -1/\gf ds x = -1/\gf fs x = -1)->
   WP (fun p:Nat × Nat=>r0_ p.1 p.2 fromv (.ptr os 0 5 0) (I n) (I i) h) Q:=by
 intro d
 induction d with
 |zero=>
  intro i h cs ds fs h1 e w hm
  refine WP.rnd (fun i' j=>a0j i' j ..) ?_
  obtain rfl:i=n:=by omega
  simp -implicitDefEqProofs (maxSteps:=1000000) (disch:=first|assumption|omega|(simp only[gL]<;>omega)|((repeat (first|exact Ext.refl _|assumption|apply Ext.app|apply Ext.mk|(refine Ext.setr ?_ (by (first|omega|(simp only[gL]<;>omega))) _))); done)|(simp only[gL,gA]<;>omega)|fail) only[gB,setAll,partL,fldV,reduceIte,Nat.reduceAdd,Nat.reduceMul]
  exact WP.lv (hQ h cs ds fs e w hm) fun i j=>rfl
 |succ d ih=>
  intro i h cs ds fs h1 e w hm
  refine WP.rnd (fun i' j=>a0j i' j ..) ?_
  have hin:i<n:=by omega
  have ro:=w.row
  obtain ⟨h2,s2,w2,f2⟩:=w.setC hin (-1)
  obtain ⟨h3,s3,w3,f3⟩:=w2.setE hin (-1)
  obtain ⟨h4,s4,w4,f4⟩:=w3.setF hin (-1)
  have gc:=w.gc.sl
  have ge:=w.ge.sl
  have gf':=w.gf.sl
  simp -implicitDefEqProofs (maxSteps:=1000000) (disch:=first|assumption|omega|(simp only[gL]<;>omega)|((repeat (first|exact Ext.refl _|assumption|apply Ext.app|apply Ext.mk|(refine Ext.setr ?_ (by (first|omega|(simp only[gL]<;>omega))) _))); done)|(simp only[gL,gA,ro,gc.idxG,ge.idxG,gf'.idxG,w.lc,w.le,w.lf,s2,s3,s4]<;>omega)|fail) only[gB,setAll,partL,fldV,reduceIte,Nat.reduceAdd,Nat.reduceMul,ro,gc.idxG,ge.idxG,gf'.idxG,w.lc,w.le,w.lf,s2,s3,s4]
  have e2:=f2.ext e fun o q1 q2=>by have:=hW _ w.wc; omega
  have e3:=f3.ext e2 fun o q1 q2=>by have:=hW _ w.we; omega
  have e4:=f4.ext e3 fun o q1 q2=>by have:=hW _ w.wv; omega
  refine ih (i+1) h4 _ _ _ (by omega) e4 w4 fun x hx=>?_
  have lc:=w.lc
  have le:=w.le
  have lf:=w.lf
  rw[show gf (cs.set i (-1))=_ from gset (by omega) _,show gf (ds.set i (-1))=_ from gset (by omega) _,show gf (fs.set i (-1))=_ from gset (by omega) _]
  by_cases qx:x=i
  ·simp[qx]
  ·simp only[if_neg qx]
   exact hm x (by omega)
theorem a6d (wv:WyV h wp N es A Up Dn D acc)(ix:IxS LL N es A Up Dn)(ok:DOk D acc)(hN:N<=100){n:Nat}(hn:n=2*(N*D.length))(hn2:n<=1000000){v:Nat}(hv:v<N) :
  Tot tab d8_ [wp,I v] h fun r h'=>Ext h h'/\∃os q sc se sf oc oe ov,r=.ptr os 0 5 0/\QDone N A Up Dn D (fun x=>x=2*(v*D.length)) (fun o=>h.length<=o) h' os wp q sc se sf oc oe ov n:=by
 obtain ⟨ow,sE,sR,sA,sU,sDn,sD,sAc,sF,us,B,hwp,rw0,wA,wU,wlu,wD,wAc,wF,wlB,wUp,wFl⟩:=wv.ex
 refine WP.tot (fun k=>a4i k _ _ h) ?_
 have hS:=ok.l0
 have hS1:=ok.l1
 have hNS:N*D.length<=500000:=by omega
 have hw1:IntKind.i64.wrap (2*(N:Int))=2*(N:Int):=b2_ (by omega) (by omega)
 have hw:IntKind.i64.wrap (2*(N:Int)*(D.length:Int))=(n:Int):=by
  rw[show 2*(N:Int)*(D.length:Int)=(n:Int) by rw[hn,Int.natCast_mul,Int.natCast_mul,Int.mul_assoc]; rfl]
  exact b2_ (by omega) (by omega)
 obtain ⟨s1,h1,a1,g1,e1,_,l1⟩:=e7_ (zero:=[AV.int .i64 0]) (sz:=1) (bytes:=8) (n:=(n:Int)) h (by omega) (by omega) (by omega) rfl rfl
 obtain ⟨s2,h2,a2,g2,e2,_,l2⟩:=e7_ (zero:=[AV.int .i64 0]) (sz:=1) (bytes:=8) (n:=(n:Int)) h1 (by omega) (by omega) (by omega) rfl rfl
 obtain ⟨s3,h3,a3,g3,e3,_,l3⟩:=e7_ (zero:=[AV.int .i64 0]) (sz:=1) (bytes:=8) (n:=(n:Int)) h2 (by omega) (by omega) (by omega) rfl rfl
 have hre:List.replicate (n:Int).toNat [AV.int .i64 0]=(List.replicate n (0:Int)).map encI:=by simp[encI,I]
 rw[hre] at g1 g2 g3
 have hgp:wp.one=true/\wp.cells=[wp]:=by rw[hwp]; exact ⟨rfl,rfl⟩
 have lD:=wD.lenG
 rw[hwp]
 simp -implicitDefEqProofs (maxSteps:=1000000) (disch:=first|assumption|omega|(simp only[gL]<;>omega)|((repeat (first|exact Ext.refl _|assumption|apply Ext.app|apply Ext.mk|(refine Ext.setr ?_ (by (first|omega|(simp only[gL]<;>omega))) _))); done)|(simp only[gL,gA,rw0,lD,hw1,hw,a1,a2,a3]<;>omega)|fail) only[gB,setAll,partL,fldV,reduceIte,Nat.reduceAdd,Nat.reduceMul,rw0,lD,hw1,hw,a1,a2,a3]
 rw[<-hwp]
 refine WP.call (a5W n hn2 h3) ?_
 rintro q h4 ⟨v4,e4⟩
 have l4:=e4.len
 have hqp:q.one=true/\q.cells=[q]:=by
  obtain ⟨oq,_,_,hq,_⟩:=v4
  rw[hq]; exact ⟨rfl,rfl⟩
 simp -implicitDefEqProofs (maxSteps:=1000000) (disch:=first|assumption|omega|(simp only[gL]<;>omega)|((repeat (first|exact Ext.refl _|assumption|apply Ext.app|apply Ext.mk|(refine Ext.setr ?_ (by (first|omega|(simp only[gL]<;>omega))) _))); done)|(simp only[gL,gA,hqp.1,hqp.2,hgp.1,hgp.2,g1.sl.one,g1.sl.cells,g2.sl.one,g2.sl.cells,g3.sl.one,g3.sl.cells]<;>omega)|fail) only[gB,setAll,partL,fldV,reduceIte,Nat.reduceAdd,Nat.reduceMul,hqp.1,hqp.2,hgp.1,hgp.2,g1.sl.one,g1.sl.cells,g2.sl.one,g2.sl.cells,g3.sl.one,g3.sl.cells]
 obtain ⟨h5,hh5⟩:∃h5,h5=h4++[AObj.cells ⟨[wp,q,s1,s2,s3],0,0,false⟩]:=⟨_,rfl⟩
 have e5:Ext h4 h5:=by rw[hh5]; exact Ext.push _ _
 have ro:h5[h4.length]?=some (.cells ⟨[wp,q,s1,s2,s3],0,0,false⟩):=by rw[hh5]; simp
 rw[<-hh5]
 have e35:=e4.trans e5
 have e05:=((e1.trans e2).trans e3).trans e35
 have w:SchW (fun o=>h.length<=o) h5 h4.length wp q s1 s2 s3 h.length h1.length h2.length n (List.replicate n 0) (List.replicate n 0) (List.replicate n 0) (List.replicate n none):=by
  refine ⟨ro,((g1.ext e2).ext e3).ext e35,(g2.ext e3).ext e35,g3.ext e35,by simp,by simp,by simp,by omega,by omega,by omega,Nat.le_refl _,by show h.length<=_; omega,by show h.length<=_; omega,by show h.length<=_; omega,?_⟩
  refine (SQ.ext (P:=fun o=>(h.length<=o/\o≠h.length/\o≠h1.length/\o≠h2.length/\o≠h4.length)) (v4.sq fun o z1 z2=>?_) e5)
  omega
 have lc5:=w.gc.sl.lenG
 rw[List.length_replicate] at lc5
 simp -implicitDefEqProofs (maxSteps:=1000000) (disch:=first|assumption|omega|(simp only[gL]<;>omega)|((repeat (first|exact Ext.refl _|assumption|apply Ext.app|apply Ext.mk|(refine Ext.setr ?_ (by (first|omega|(simp only[gL]<;>omega))) _))); done)|(simp only[gL,gA,ro,lc5]<;>omega)|fail) only[gB,setAll,partL,fldV,reduceIte,Nat.reduceAdd,Nat.reduceMul,ro,lc5]
 refine WP.ent (b0E (hb:=h) (W:=fun o=>h.length<=o) (n:=n) hn2 (fun o z=>z) (fun h6 cs ds fs e6 w6 m6=>?_) n 0 h5 _ _ _ (by omega) e05 w fun x hx=>by omega) fun i=>rfl
 refine WP.congr (fun i=>a3a i ..) ?_
 have ro6:=w6.row
 simp -implicitDefEqProofs (maxSteps:=1000000) (disch:=first|assumption|omega|(simp only[gL]<;>omega)|((repeat (first|exact Ext.refl _|assumption|apply Ext.app|apply Ext.mk|(refine Ext.setr ?_ (by (first|omega|(simp only[gL]<;>omega))) _))); done)|(simp only[gL,gA,ro6]<;>omega)|fail) only[gB,setAll,partL,fldV,reduceIte,Nat.reduceAdd,Nat.reduceMul,ro6]
 refine WP.call (a4T (wv.ext e6) ok (v:=(v:Int)) (s:=0) (by omega) (by omega) (Int.le_refl _) (by omega) false) ?_
 rintro _ h7 ⟨rfl,e7⟩
 have w7:=w6.ext e7
 have ro7:=w7.row
 have e67:=e6.trans e7
 have hidv:idQ D.length (v:Int) 0 false=((2*(v*D.length):Nat):Int):=by
  unfold idQ; simp
 rw[hidv]
 have hvS:v*D.length<N*D.length:=by
  have:=spotN (N:=N) (v:=v) (S:=D.length) (s:=0) hv hS
  simpa using this
 simp -implicitDefEqProofs (maxSteps:=1000000) (disch:=first|assumption|omega|(simp only[gL]<;>omega)|((repeat (first|exact Ext.refl _|assumption|apply Ext.app|apply Ext.mk|(refine Ext.setr ?_ (by (first|omega|(simp only[gL]<;>omega))) _))); done)|(simp only[gL,gA,ro7]<;>omega)|fail) only[gB,setAll,partL,fldV,reduceIte,Nat.reduceAdd,Nat.reduceMul,ro7]
 have fl7:=e67.len
 refine WP.call (w7.qv.put hn2 (fun o ho=>⟨by omega,by have:=w7.o1; have:=w7.o2; have:=w7.o3; have:=w7.os_lt; omega⟩) _ 0) ?_
 rintro _ h8 ⟨rfl,v8,f8⟩
 have w8:=w7.q' f8 (fun o z=>z.2) v8
 have e8:Ext h h8:=f8.ext e67 fun o q1 q2=>by omega
 have hpm:(putM n (List.replicate n none) ((2*(v*D.length):Nat):Int) 0).1=(List.replicate n none).set (2*(v*D.length)) (some 0):=by
  rw[putM,if_pos ⟨by omega,by omega⟩,p6_ (by omega) (by omega),Int.toNat_natCast]
 rw[hpm] at w8
 have gM:gf ((List.replicate n (none:Option Int)).set (2*(v*D.length)) (some 0))=fun x=>if x=2*(v*D.length) then some 0 else gf (List.replicate n none) x:=gset (by simp; omega) _
 have hw8:FrS (fun o=>h.length<=o) h h8:=FrS.ofExt e8
 refine WP.ent ((b0D (h0:=h) (hb:=h) (W:=fun o=>h.length<=o) (st:=fun x=>x=2*(v*D.length)) (Ext.refl _) (fun o z=>z) (fun o z=>z) wv ix ok hN hn hn2 (fun x z=>by omega) (n+1) h8 0 0 (fun _=>0) cs ds fs _ (by omega) hw8 w8 (DI.start (fun x hx=>(m6 x hx).1) (fun x hx=>(m6 x hx).2.2) (fun x hx=>?_)) (by rw[a9b fun x hx=>(m6 x hx).1]; omega)).mono ?_) fun i=>rfl
 ·rw[gM]
  by_cases qx:x=2*(v*D.length)
  ·exact .inl ⟨qx,if_pos qx⟩
  ·refine .inr ⟨qx,?_⟩
   show (if x=2*(v*D.length) then some 0 else gf (List.replicate n none) x)=none
   rw[if_neg qx]
   exact p6_ (by omega) (by omega)
 ·rintro r h9 ⟨rfl,f9,qd⟩
  exact ⟨f9.ext (Ext.refl _) fun o q1 q2=>by omega,_,_,_,_,_,_,_,_,rfl,qd⟩
end
end Go.Gm.AQ
namespace Go.Gm.AQ
open Go Go.Gm
def QB (c:Nat->Int)(P:Nat->Prop)(out:Int):Prop:=(out = -1/\∀x,P x->¬0<=c x)\/∃y:Nat,out=(y:Int)/\P y/\0<=c y/\∀x,P x->0<=c x->c y<=c x
theorem QB.skip {c:Nat->Int}{P:Nat->Prop}{out:Int}{i:Nat}(b:QB c P out)(h:¬(0<=c i/\(out<0\/c i<c out.toNat))):QB c (fun x=>P x\/x=i) out:=by
 rcases b with ⟨h1,h2⟩|⟨y,h1,h2,h3,h4⟩
 ·refine .inl ⟨h1,fun x hx=>hx.elim (h2 x) fun q hc=>h ⟨q▸hc,.inl (by omega)⟩⟩
 ·refine .inr ⟨y,h1,.inl h2,h3,fun x hx hc=>hx.elim (fun z=>h4 x z hc) fun q=>?_⟩
  subst q
  have h5:c out.toNat=c y:=by rw[h1,Int.toNat_natCast]
  by_cases q:c x<c y
  ·exact absurd ⟨hc,.inr (by omega)⟩ h
  ·omega
theorem QB.take {c:Nat->Int}{P:Nat->Prop}{out:Int}{i:Nat}(b:QB c P out)(h1:0<=c i)(h2:out<0\/c i<c out.toNat):QB c (fun x=>P x\/x=i) (i:Int):=by
 refine .inr ⟨i,rfl,.inr rfl,h1,fun x hx hc=>hx.elim (fun z=>?_) fun q=>by subst q; exact Int.le_refl _⟩
 rcases b with ⟨b1,b2⟩|⟨y,b1,b2,b3,b4⟩
 ·exact absurd hc (b2 x z)
 ·have h5:c out.toNat=c y:=by rw[b1,Int.toNat_natCast]
  have:=b4 x z hc
  rcases h2 with h2|h2<;>omega
theorem QB.bnd {c:Nat->Int}{P:Nat->Prop}{out:Int}(b:QB c P out){n:Nat}(hP:∀x,P x->x<n):-1<=out/\out<n:=by
 rcases b with ⟨h1,h2⟩|⟨y,h1,h2,h3,h4⟩
 ·omega
 ·have:=hP y h2; omega
section
variable {hb h:Heap} {wp:AV} {N:Nat} {es:List E} {A:List Ar} {Up Dn:List (List Int)} {D:List (List Int)} {acc:List Bool}
theorem a6e {W:Nat->Prop}{os oc oe ov n o2 oo:Nat}{q sc se sf:AV}{cs ds fs:List Int}{M:List (Option Int)}{P:Nat->Prop}{out:Int}(wv:WyV hb wp N es A Up Dn D acc)(ok:DOk D acc)(hN:N<=100)(hn:n=2*(N*D.length))(hn2:n<=1000000)(w0:SchW W hb os wp q sc se sf oc oe ov n cs ds fs M)(e:Ext hb h)(r2:h[o2]?=some (.cells ⟨[.ptr os 0 5 0],0,0,false⟩))(ro:h[oo]?=some (.cells ⟨[I out],0,0,false⟩))(ho:hb.length<=oo)(b:QB (gf cs) P out)(hP:∀x,P x->x<n){v s:Nat}(hv:v<N)(hs:s<D.length)(dn:Bool) :
  Tot tab l4_ [.agg [I v,I s,.bool dn],.ptr o2 0 1 0,.ptr oo 0 1 0] h fun r h'=>r=.tup []/\∃out',h'[oo]?=some (.cells ⟨[I out'],0,0,false⟩)/\FrS (fun o=>o=oo) h h'/\QB (gf cs) (fun x=>P x\/x=(idQ D.length v s dn).toNat) out':=by
 refine WP.tot (fun k=>a2y k _ _ _ h) ?_
 obtain ⟨h1,hh1⟩:∃h1,h1=h++[AObj.cells ⟨[I (v:Int),I (s:Int),.bool dn],0,0,false⟩]:=⟨_,rfl⟩
 have e1:Ext h h1:=by rw[hh1]; exact Ext.push _ _
 have rp:h1[h.length]?=some (.cells ⟨[I (v:Int),I (s:Int),.bool dn],0,0,false⟩):=by rw[hh1]; simp
 have r21:=e1.get r2
 have ro1:=e1.get ro
 have w1:=(w0.ext e).ext e1
 have rs1:=w1.row
 have l2:o2<h.length:=(List.getElem?_eq_some_iff.1 r2).1
 have los:os<h.length:=(w0.ext e).os_lt
 have loo:oo<h.length:=(List.getElem?_eq_some_iff.1 ro).1
 have rs0:=(w0.ext e).row
 simp -implicitDefEqProofs (disch:=first|assumption|omega|(simp only[gL,gA]<;>omega)|fail) only[gC,reduceIte,r2,rs0]
 rw[<-hh1]
 refine WP.call (a4T (wv.ext (e.trans e1)) ok (v:=(v:Int)) (s:=(s:Int)) (by omega) (by omega) (by omega) (by have:=ok.l1; omega) dn) ?_
 rintro _ h3 ⟨rfl,e3⟩
 obtain ⟨sp1,sp2⟩:=x3_ (N:=N) (S:=D.length) (v:=(v:Int)) (s:=(s:Int)) (by omega) (by omega) (by omega) (by omega) dn
 obtain ⟨i,hi⟩:∃i:Nat,idQ D.length v s dn=i:=⟨(idQ D.length v s dn).toNat,by omega⟩
 rw[hi] at sp1 sp2 ⊢
 rw[Int.toNat_natCast]
 have hin:i<n:=by omega
 have w3:=w1.ext e3
 have r23:=e3.get r21
 have ro3:=e3.get ro1
 have rs3:=w3.row
 have gc:=w3.gc.sl
 have idc:=gc.idxG (i:=(i:Int)) (by omega) (by rw[w3.lc]; omega)
 have ldc:=gc.ld0 (H:=h3) (i:=(i:Int)) (Ext.refl _) (by omega) (by rw[w3.lc]; omega) (by omega)
 obtain ⟨ci,hci⟩:∃ci,gi cs (i:Int)=ci:=⟨_,rfl⟩
 rw[hci] at ldc
 replace ldc:Gm.ld1 h3 (elP 1 sc (i:Int))=some (I ci):=ldc
 have f3:FrS (fun o=>o=oo) h h3:=FrS.ofExt (e1.trans e3)
 have l3:=f3.len
 have skip:¬(0<=ci/\(out<0\/ci<gf cs out.toNat))->QB (gf cs) (fun x=>P x\/x=i) out:=fun hc=>b.skip (by rw[show gf cs i=ci from hci]; exact hc)
 have bb:=b.bnd hP
 by_cases c0:0<=ci
 ·by_cases o0:out<0
  ·have hq:=b.take (i:=i) (by show 0<=gi cs (i:Int); omega) (.inl o0)
   simp -implicitDefEqProofs (disch:=first|assumption|omega|(simp only[gL,gA]<;>omega)|fail) only[gC,reduceIte,r23,rs3,idc,ldc,ro3]
   refine WP.ret ⟨rfl,i,a0_ (by omega),f3.trans (FrS.set1 ..),hq⟩
  ·obtain ⟨y,hy⟩:∃y:Nat,out=y:=⟨out.toNat,by omega⟩
   subst hy
   have ido:=gc.idxG (i:=(y:Int)) (by omega) (by rw[w3.lc]; omega)
   have ldo:=gc.ld0 (H:=h3) (i:=(y:Int)) (Ext.refl _) (by omega) (by rw[w3.lc]; omega) (by omega)
   replace ldo:Gm.ld1 h3 (elP 1 sc (y:Int))=some (I (gi cs (y:Int))):=ldo
   by_cases c1:ci<gi cs (y:Int)
   ·have hq:=b.take (i:=i) (by show 0<=gi cs (i:Int); omega) (.inr (by rw[Int.toNat_natCast]; show gi cs (i:Int)<gi cs (y:Int); omega))
    simp -implicitDefEqProofs (disch:=first|assumption|omega|(simp only[gL,gA]<;>omega)|fail) only[gC,reduceIte,r23,rs3,idc,ldc,ro3,ido,ldo]
    refine WP.ret ⟨rfl,i,a0_ (by omega),f3.trans (FrS.set1 ..),hq⟩
   ·simp -implicitDefEqProofs (disch:=first|assumption|omega|(simp only[gL,gA]<;>omega)|fail) only[gC,reduceIte,r23,rs3,idc,ldc,ro3,ido,ldo]
    refine WP.ret ⟨rfl,y,ro3,f3,skip fun z=>?_⟩
    rcases z.2 with z|z
    ·omega
    ·rw[Int.toNat_natCast] at z; exact c1 z
 ·simp -implicitDefEqProofs (disch:=first|assumption|omega|(simp only[gL,gA]<;>omega)|fail) only[gC,reduceIte,r23,rs3,idc,ldc]
  exact WP.ret ⟨rfl,out,ro3,f3,skip fun z=>c0 z.1⟩
def AccS (acc:List Bool)(S:Nat)(v i:Nat)(x:Nat):Prop:=∃s:Nat,s<i/\gi acc (s:Int)=true/\∃b,x=(idQ S v s b).toNat
theorem a9R {W:Nat->Prop}{os oc oe ov n o2 oo:Nat}{q sc se sf sAc:AV}{cs ds fs:List Int}{M:List (Option Int)}(wv:WyV hb wp N es A Up Dn D acc)(ok:DOk D acc)(hN:N<=100)(hn:n=2*(N*D.length))(hn2:n<=1000000)(w0:SchW W hb os wp q sc se sf oc oe ov n cs ds fs M)(hA:Sl hb 1 sAc (acc.map encB))(ho:hb.length<=oo)(ho2:hb.length<=o2)(hne:o2≠oo){v:Nat}(hv:v<N) :
  ∀(d i:Nat) (h:Heap) (out:Int),i+d=acc.length->Ext hb h->h[o2]?=some (.cells ⟨[.ptr os 0 5 0],0,0,false⟩)->h[oo]?=some (.cells ⟨[I out],0,0,false⟩)->QB (gf cs) (AccS acc D.length v i) out->
   WP (fun p:Nat × Nat=>i3_ p.1 p.2 (I v) (.ptr oo 0 1 0) (.fn l4_ [] [.ptr o2 0 1 0,.ptr oo 0 1 0]) sAc (I acc.length) (I i) h) fun r h'=>Ext hb h'/\∃out,r=I out/\QB (gf cs) (AccS acc D.length v acc.length) out:=by
 have la:=ok.la
 have l1:=ok.l1
 intro d
 induction d with
 |zero=>
  intro i h out h1 e r2 ro b
  refine WP.rnd (fun i' j=>y2_ i' j ..) ?_
  obtain rfl:i=acc.length:=by omega
  simp -implicitDefEqProofs (disch:=first|assumption|omega|(simp only[gL,gA]<;>omega)|fail) only[gC,reduceIte,ro]
  exact WP.ret ⟨e,out,rfl,b⟩
 |succ d ih=>
  intro i h out h1 e r2 ro b
  refine WP.rnd (fun i' j=>y2_ i' j ..) ?_
  have hA':=hA.ext e
  have hia:(i:Int)<acc.length:=by omega
  have lda:=hA'.ld0 (H:=h) (i:=(i:Int)) (Ext.refl _) (by omega) hia (by omega)
  replace lda:Gm.ld1 h (elP 1 sAc (i:Int))=some (.bool (gi acc (i:Int))):=lda
  have ida:=hA'.idxG (i:=(i:Int)) (by omega) hia
  have bnd:∀(j:Nat) (x:Nat),j<=acc.length->AccS acc D.length v j x->x<n:=by
   rintro j x hj ⟨s,s1,s2,bb,rfl⟩
   have:=x3_ (N:=N) (S:=D.length) (v:=(v:Int)) (s:=(s:Int)) (by omega) (by omega) (by omega) (by omega) bb
   omega
  cases ha:gi acc (i:Int) with
  |false=>
   rw[ha] at lda
   simp -implicitDefEqProofs (disch:=first|assumption|omega|(simp only[gL,gA]<;>omega)|fail) only[gC,reduceIte,ida,lda]
   refine ih (i+1) h out (by omega) e r2 ro ?_
   have:AccS acc D.length v (i+1)=AccS acc D.length v i:=by
    funext x
    refine propext ⟨fun ⟨s,s1,s2,s3⟩=>⟨s,?_,s2,s3⟩,fun ⟨s,s1,s2,s3⟩=>⟨s,by omega,s2,s3⟩⟩
    by_cases q:s=i
    ·subst q; rw[ha] at s2; cases s2
    ·omega
   rw[this]
   exact b
  |true=>
   rw[ha] at lda
   simp -implicitDefEqProofs (disch:=first|assumption|omega|(simp only[gL,gA]<;>omega)|fail) only[gC,reduceIte,ida,lda]
   refine WP.call (a6e wv ok hN hn hn2 w0 e r2 ro ho b (fun x=>bnd i x (by omega)) hv (s:=i) (by omega) false) ?_
   rintro _ h2 ⟨rfl,out2,ro2,f2,b2⟩
   have e2:=f2.ext e fun o q1 q2=>by omega
   have l2:o2<h.length:=(List.getElem?_eq_some_iff.1 r2).1
   have r22:h2[o2]?=some (.cells ⟨[.ptr os 0 5 0],0,0,false⟩):=by rw[f2.get hne l2]; exact r2
   refine WP.call (a6e wv ok hN hn hn2 w0 e2 r22 ro2 ho b2 (fun x hx=>?_) hv (s:=i) (by omega) true) ?_
   ·rcases hx with hx|rfl
    ·exact bnd i x (by omega) hx
    ·have:=x3_ (N:=N) (S:=D.length) (v:=(v:Int)) (s:=(i:Int)) (by omega) (by omega) (by omega) (by omega) false
     omega
   ·rintro _ h3 ⟨rfl,out3,ro3,f3,b3⟩
    have e3:=f3.ext e2 fun o q1 q2=>by omega
    have l22:o2<h2.length:=(List.getElem?_eq_some_iff.1 r22).1
    have r23:h3[o2]?=some (.cells ⟨[.ptr os 0 5 0],0,0,false⟩):=by rw[f3.get hne l22]; exact r22
    refine ih (i+1) h3 out3 (by omega) e3 r23 ro3 ?_
    have:AccS acc D.length v (i+1)=fun x=>(AccS acc D.length v i x\/x=(idQ D.length v i false).toNat)\/x=(idQ D.length v i true).toNat:=by
     funext x
     refine propext ⟨fun ⟨s,s1,s2,bb,s3⟩=>?_,fun hx=>?_⟩
     ·by_cases q:s=i
      ·subst q
       cases bb with
       |false=>exact .inl (.inr s3)
       |true=>exact .inr s3
      ·exact .inl (.inl ⟨s,by omega,s2,bb,s3⟩)
     ·rcases hx with (⟨s,s1,s2,s3⟩|hx)|hx
      ·exact ⟨s,by omega,s2,s3⟩
      ·exact ⟨i,by omega,ha,false,hx⟩
      ·exact ⟨i,by omega,ha,true,hx⟩
    rw[this]
    exact b3
theorem a5p {W:Nat->Prop}{os oc oe ov n:Nat}{q sc se sf:AV}{cs ds fs:List Int}{M:List (Option Int)}(wv:WyV h wp N es A Up Dn D acc)(ok:DOk D acc)(hN:N<=100)(hn:n=2*(N*D.length))(hn2:n<=1000000)(w:SchW W h os wp q sc se sf oc oe ov n cs ds fs M){v:Nat}(hv:v<N) :
  Tot tab d1_ [.ptr os 0 5 0,I v] h fun r h'=>Ext h h'/\∃out,r=I out/\QB (gf cs) (AccS acc D.length v acc.length) out:=by
 refine WP.tot (fun k=>a3b k _ _ h) ?_
 obtain ⟨ow,sE,sR,sA,sU,sDn,sD,sAc,sF,us,B,hwp,rw0,wA,wU,wlu,wD,wAc,wF,wlB,wUp,wFl⟩:=wv.ex
 have los:=w.os_lt
 have low:ow<h.length:=(List.getElem?_eq_some_iff.1 rw0).1
 have rs:=w.row
 have rs':=rs
 rw[hwp] at rs'
 have hz:AV.int .i64 0=I 0:=rfl
 simp only[hz]
 obtain ⟨h2,hh2⟩:∃h2,h2=((h++[AObj.cells ⟨[.ptr os 0 5 0],0,0,false⟩])++[AObj.cells ⟨[I 0],0,0,false⟩]).set (h.length+1) (.cells ⟨[I (-1)],0,0,false⟩):=⟨_,rfl⟩
 have e2:Ext h h2:=by rw[hh2]; ((repeat (first|exact Ext.refl _|assumption|apply Ext.app|apply Ext.mk|(refine Ext.setr ?_ (by (first|omega|(simp only[gL]<;>omega))) _))))
 have r2:h2[h.length]?=some (.cells ⟨[.ptr os 0 5 0],0,0,false⟩):=by rw[hh2,a5_ (by omega),e6_ (by simp)]; simp
 have ro:h2[h.length+1]?=some (.cells ⟨[I (-1)],0,0,false⟩):=by rw[hh2]; exact a0_ (by simp)
 have lA:=wAc.lenG
 simp -implicitDefEqProofs (disch:=first|assumption|omega|(simp only[gL,gA]<;>omega)|fail) only[gC,reduceIte,rs',rw0,lA]
 rw[show AV.int .i64 (-1)=I (-1) from rfl]
 rw[<-hh2]
 refine WP.ent (a9R wv ok hN hn hn2 w wAc (Nat.le_succ _) (Nat.le_refl _) (by omega) hv acc.length 0 h2 (-1) (by omega) e2 r2 ro (.inl ⟨rfl,fun x ⟨s,s1,_⟩=>by omega⟩)) fun i=>rfl
end
end Go.Gm.AQ
namespace Go.Gm.AQ
open Go Go.Gm
theorem a1B {S:Nat}{v s:Int}(v0:0<=v)(s0:0<=s)(s1:s<S)(b:Bool):(idQ S v s b).toNat % 2=(if b then 1 else 0)/\(((idQ S v s b).toNat / 2 / S:Nat):Int)=v/\(((idQ S v s b).toNat / 2 % S:Nat):Int)=s:=by
 obtain ⟨a,rfl⟩:∃a:Nat,v=a:=⟨v.toNat,by omega⟩
 obtain ⟨t,rfl⟩:∃t:Nat,s=t:=⟨s.toNat,by omega⟩
 have h1:(idQ S a t b).toNat=2*(a*S+t)+if b then 1 else 0:=by
  unfold idQ
  rw[<-Int.natCast_mul]
  cases b<;>simp<;>omega
 have h2:(idQ S a t b).toNat / 2=a*S+t:=by rw[h1]; cases b<;>simp<;>omega
 have hS:0<S:=by omega
 refine ⟨by rw[h1]; cases b<;>simp,?_,?_⟩
 ·rw[h2,Nat.add_comm,Nat.add_mul_div_right _ _ hS,Nat.div_eq_of_lt (by omega)]; simp
 ·rw[h2,Nat.add_comm,Nat.add_mul_mod_self_right,Nat.mod_eq_of_lt (by omega)]
section
variable {N LL:Nat} {es:List E} {A:List Ar} {Up Dn:List (List Int)} {D:List (List Int)} {acc:List Bool}
def QR (N:Nat)(A:List Ar)(Up Dn D:List (List Int)):HopR:=fun v s b v' s' b' c=>
 0<=v/\v<N/\0<=s/\s<D.length/\∃k:Nat,((idQ D.length v' s' b').toNat,k,c)∈hopQ N A Up Dn D (idQ D.length v s b).toNat
theorem qr_hr (ix:IxS LL N es A Up Dn)(ok:DOk D acc):HR D (UpA N A Up) (DnA N A Dn) (QR N A Up Dn D):=by
 refine ⟨fun v w m c s hu s0 s1=>?_,fun v u m c s b hd s0 s1=>?_⟩
 ·obtain ⟨v0,v1,k,k1,k2,k3,rfl,rfl,rfl⟩:=hu
  obtain ⟨d1,d2,d3⟩:=a1B v0 s0 s1 false
  refine ⟨v0,v1,s0,s1,k.toNat,List.mem_append.2 (.inl ?_)⟩
  rw[if_neg (by rw[d1]; simp),d2,d3]
  exact List.mem_map_of_mem (f:=hopK A D false s) k1
 ·obtain ⟨v0,v1,k,k1,k2,k3,rfl,rfl,rfl⟩:=hd
  have ak:=(ix.arc _ _ (a7_ k2 k3)).1
  obtain ⟨d1,d2,d3⟩:=a1B ak.f0 s0 s1 b
  have hto:=((ix.rD v v0 v1).2 k k1).2.2
  refine ⟨ak.f0,ak.f1,s0,s1,k.toNat,List.mem_append.2 (.inr ?_)⟩
  rw[d3]
  have hm:k∈fallX A (allD Dn N) ((idQ D.length (gi A k).fr s b).toNat / 2 / D.length):=by
   refine List.mem_filter.2 ⟨List.mem_flatMap.2 ⟨v.toNat,by rw[List.mem_range]; omega,by rw[Int.toNat_of_nonneg v0]; exact k1⟩,?_⟩
   rw[decide_eq_true_eq,d2]
  have:=List.mem_map_of_mem (f:=hopK A D true s) hm
  rw[<-hto]
  exact this
theorem pq_wk {v s v2 s2 c:Int}{b b2:Bool}(p:Pq (QR N A Up Dn D) v s b v2 s2 b2 c):∃l,Wk (hopQ N A Up Dn D) (fun x=>x=(idQ D.length v s b).toNat) (idQ D.length v2 s2 b2).toNat l c:=by
 induction p with
 |nil=>exact ⟨[],.nil rfl⟩
 |snoc p k ih=>
  obtain ⟨l,hl⟩:=ih
  obtain ⟨_,_,_,_,e,he⟩:=k
  exact ⟨_,.snoc hl he⟩
theorem a9S (no:NetOk N es)(ix:IxS LL N es A Up Dn)(ok:DOk D acc)(sd:Stdy D){v:Nat}(hv:v<N){x:Nat}{l:List Nat}{c:Int}(w:Wk (hopQ N A Up Dn D) (fun x=>x=2*(v*D.length)) x l c) :
  x / 2<N*D.length/\∃ll,OkW es v ll/\atV es v ll=((x / 2 / D.length:Nat):Int)/\atS es D 0 ll=((x / 2 % D.length:Nat):Int)/\atC es ll=c:=by
 have hS:=ok.l0
 induction w with
 |@nil x h=>
  subst h
  have h1:2*(v*D.length) / 2=v*D.length:=by omega
  have h2:=spotN (N:=N) (v:=v) (S:=D.length) (s:=0) hv hS
  refine ⟨by omega,[],fun i e hi=>by simp at hi,?_,?_,rfl⟩
  ·rw[h1,Nat.mul_div_cancel _ hS]; rfl
  ·rw[h1,Nat.mul_mod_left]; rfl
 |@snoc x y e l c w' _ hm ih=>
  obtain ⟨hx,ll,a1,a2,a3,a4⟩:=ih
  obtain ⟨d1,d2⟩:=dm hx
  have key:∃(b:Bool) (k:Int),0<=k/\k<A.length/\(gi A k).fr=((x / 2 / D.length:Nat):Int)/\hopK A D b ((x / 2 % D.length:Nat):Int) k=(y,e,w'):=by
   rcases List.mem_append.1 hm with hm|hm
   ·split at hm
    ·cases hm
    ·obtain ⟨k,hk,he⟩:=List.mem_map.1 hm
     obtain ⟨k0,k1,k2⟩:=(ix.rU _ (Int.natCast_nonneg _) (Int.ofNat_lt.2 d1)).2 k hk
     exact ⟨false,k,k0,k1,k2,he⟩
   ·obtain ⟨k,hk,he⟩:=List.mem_map.1 hm
    obtain ⟨k0,k1,k2⟩:=a3p ix hk
    exact ⟨true,k,k0,k1,k2,he⟩
  obtain ⟨b,k,k0,k1,k2,he⟩:=key
  obtain ⟨ak,l',_,h3,h4,h5⟩:=ix.arc _ _ (a7_ k0 k1)
  have hto:0<=nx D ((x / 2 % D.length:Nat):Int) (gi A k).md/\nx D ((x / 2 % D.length:Nat):Int) (gi A k).md<D.length:=ok.to _ _ (Int.natCast_nonneg _) (Int.ofNat_lt.2 d2) ak.m0 ak.m1
  have h6:=x3_ (S:=D.length) ak.t0 ak.t1 hto.1 hto.2 b
  obtain ⟨e1,e2,e3⟩:=a1B ak.t0 hto.1 hto.2 b
  simp only[hopK] at he
  cases he
  have h7:=h3.ok
  rw[k2,<-a2] at h7
  refine ⟨by omega,ll++l',a4e a1 h7.1,?_,?_,?_⟩
  ·rw[y0_,h7.2.1,e2]
  ·rw[a2P,a3,h3.st no ok sd _ (Int.natCast_nonneg _) (Int.ofNat_lt.2 d2),e3]
  ·rw[o8_,a4,h4]
theorem q_lw (no:NetOk N es)(co:COk es)(ix:IxC N es A Up Dn)(ok:DOk D acc)(sd:Stdy D){v u:Nat}(hv:v<N)(hu:u<N){c:Nat->Int}(lc:LC (2*(N*D.length)) (hopQ N A Up Dn D) (fun x=>x=2*(v*D.length)) c){out:Int}(b:QB c (AccS acc D.length u acc.length) out) :
  LW es v u (fun w=>gi acc (goS D 0 w)=true) (if out<0 then -1 else c out.toNat):=by
 have hS:=ok.l0
 have la:=ok.la
 have h0:(idQ D.length v 0 false).toNat=2*(v*D.length):=by
  unfold idQ
  rw[<-Int.natCast_mul]
  simp
  omega
 have acs:∀x,AccS acc D.length u acc.length x->x<2*(N*D.length)/\((x / 2 / D.length:Nat):Int)=u/\gi acc ((x / 2 % D.length:Nat):Int)=true:=by
  rintro x ⟨s,s1,s2,bb,rfl⟩
  have h1:=x3_ (N:=N) (S:=D.length) (v:=(u:Int)) (s:=(s:Int)) (by omega) (by omega) (by omega) (by omega) bb
  obtain ⟨_,e2,e3⟩:=a1B (S:=D.length) (v:=(u:Int)) (s:=(s:Int)) (by omega) (by omega) (by omega) bb
  exact ⟨by omega,e2,by rw[e3]; exact s2⟩
 have all:∀l,OkW es v l->atV es v l=u->gi acc (goS D 0 (wdOf es l))=true->∃x,AccS acc D.length u acc.length x/\0<=c x/\c x<=atC es l:=by
  intro l h1 h2 h3
  obtain ⟨vs,nd,om,st,fin⟩:=ix.cmp
  have cm:=a6P no ok co sd (qr_hr ix.toIxS ok) vs (fun _=>False) (fun x hx=>hx.elim (fun z=>z.elim) (om x)) nd (fun x _ z=>z) (fun a b w hw=>by
   have e:(fun x=>False\/x∈a)=fun x:Int=>x∈a:=by funext x; simp
   rw[e]; exact st a b w hw) (fun w x m l' hw hx hs=>by
   have e:(fun x=>False\/x∈vs)=fun x:Int=>x∈vs:=by funext x; simp
   rw[e] at hs
   exact fin w x m l' (fun z=>hw (.inr z)) (fun z=>hx (.inr z)) hs)
  obtain ⟨bb,c',p1,p2⟩:=cm l v 0 (fun z=>z) (fun z=>z) h1 (Int.le_refl _) (by omega)
  obtain ⟨ll,hw⟩:=pq_wk p1
  rw[h0,h2] at hw
  have hs:=a2n ok no h1 (s:=0) (Int.le_refl _) (by omega)
  have hlt:=x3_ (N:=N) (S:=D.length) (v:=(u:Int)) (by omega) (by omega) hs.1 hs.2 bb
  have hc:0<=c (idQ D.length u (atS es D 0 l) bb).toNat/\c (idQ D.length u (atS es D 0 l) bb).toNat<=c':=by
   rcases lc _ (show (idQ D.length u (atS es D 0 l) bb).toNat<2*(N*D.length) by omega) with ⟨k1,_,k2⟩|⟨_,k2⟩
   ·exact ⟨k1,k2 _ _ hw⟩
   ·exact absurd hw (k2 _ _)
  refine ⟨_,⟨(atS es D 0 l).toNat,by omega,?_,bb,?_⟩,hc.1,by omega⟩
  ·rw[Int.toNat_of_nonneg hs.1,a1Q]; exact h3
  ·rw[Int.toNat_of_nonneg hs.1]
 rcases b with ⟨b1,b2⟩|⟨y,b1,b2,b3,b4⟩
 ·rw[if_pos (by omega)]
  refine ⟨.inl rfl,fun l h1 h2 h3=>?_⟩
  obtain ⟨x,x1,x2,x3⟩:=all l h1 h2 h3
  exact absurd x2 (b2 x x1)
 ·rw[if_neg (by omega),b1,Int.toNat_natCast]
  refine ⟨.inr ⟨b3,?_⟩,fun l h1 h2 h3=>?_⟩
  ·obtain ⟨y1,y2,y3⟩:=acs y b2
   rcases lc y y1 with ⟨_,⟨l,hw⟩,_⟩|⟨q,_⟩
   ·obtain ⟨_,ll,a1,a2,a3,a4⟩:=a9S no ix.toIxS ok sd hv hw
    exact ⟨ll,a1,a2.trans y2,by rw[<-a1Q,a3]; exact y3,a4⟩
   ·omega
  ·obtain ⟨x,x1,x2,x3⟩:=all l h1 h2 h3
   have:=b4 x x1 x2
   omega
end
end Go.Gm.AQ
namespace Go.Gm.AQ
open Go Go.Gm
inductive Chn (Ah:Nat->List Hop):Nat->List Nat->Int->Nat->Prop
 |nil {x:Nat}:Chn Ah x [] 0 x
 |cons {x y z k:Nat} {ks:List Nat} {w c:Int}:(y,k,w)∈Ah x->Chn Ah y ks c z->Chn Ah x (k::ks) (w+c) z
inductive UnpL (A:List Ar) (LL:Nat):List Nat->List Nat->Prop
 |nil:UnpL A LL [] []
 |cons {k:Nat} {ks l ls:List Nat}:k<A.length->Unp A k l->l.length<=LL->UnpL A LL ks ls->UnpL A LL (k::ks) (l++ls)
theorem UnpL.len {A:List Ar}{LL:Nat}{ks ls:List Nat}(h:UnpL A LL ks ls):ls.length<=ks.length*LL:=by
 induction h with
 |nil=>simp
 |cons _ _ h2 _ ih=>rw[List.length_append,List.length_cons,Nat.succ_mul]; omega
section
variable {N LL:Nat} {es:List E} {A:List Ar} {Up Dn:List (List Int)} {D:List (List Int)} {acc:List Bool}
theorem a9p (no:NetOk N es)(ix:IxS LL N es A Up Dn)(ok:DOk D acc)(sd:Stdy D){x z:Nat}{ks:List Nat}{c:Int}(h:Chn (hopQ N A Up Dn D) x ks c z):x / 2<N*D.length->
  ∃ll,UnpL A LL ks ll/\OkW es ((x / 2 / D.length:Nat):Int) ll/\atV es ((x / 2 / D.length:Nat):Int) ll=((z / 2 / D.length:Nat):Int)/\atS es D ((x / 2 % D.length:Nat):Int) ll=((z / 2 % D.length:Nat):Int)/\atC es ll=c:=by
 induction h with
 |nil=>intro _; exact ⟨[],.nil,fun i e hi=>by simp at hi,rfl,rfl,rfl⟩
 |@cons x y z k' ks w c hm _ ih=>
  intro hx
  obtain ⟨d1,d2⟩:=dm hx
  have key:∃(b:Bool) (k:Int),0<=k/\k<A.length/\(gi A k).fr=((x / 2 / D.length:Nat):Int)/\hopK A D b ((x / 2 % D.length:Nat):Int) k=(y,k',w):=by
   rcases List.mem_append.1 hm with hm|hm
   ·split at hm
    ·cases hm
    ·obtain ⟨k,hk,he⟩:=List.mem_map.1 hm
     obtain ⟨k0,k1,k2⟩:=(ix.rU _ (Int.natCast_nonneg _) (Int.ofNat_lt.2 d1)).2 k hk
     exact ⟨false,k,k0,k1,k2,he⟩
   ·obtain ⟨k,hk,he⟩:=List.mem_map.1 hm
    obtain ⟨k0,k1,k2⟩:=a3p ix hk
    exact ⟨true,k,k0,k1,k2,he⟩
  obtain ⟨b,k,k0,k1,k2,he⟩:=key
  obtain ⟨ak,l',h2,h3,h4,h5⟩:=ix.arc _ _ (a7_ k0 k1)
  have hto:0<=nx D ((x / 2 % D.length:Nat):Int) (gi A k).md/\nx D ((x / 2 % D.length:Nat):Int) (gi A k).md<D.length:=ok.to _ _ (Int.natCast_nonneg _) (Int.ofNat_lt.2 d2) ak.m0 ak.m1
  have h6:=x3_ (S:=D.length) ak.t0 ak.t1 hto.1 hto.2 b
  obtain ⟨e1,e2,e3⟩:=a1B ak.t0 hto.1 hto.2 b
  simp only[hopK] at he
  cases he
  obtain ⟨ll,a0,a1,a2,a3,a4⟩:=ih (by omega)
  have h7:=h3.ok
  rw[k2] at h7
  rw[e2] at a1 a2
  rw[e3] at a3
  refine ⟨l'++ll,.cons (by omega) h2 h5 a0,a4e h7.1 (by rw[h7.2.1]; exact a1),?_,?_,?_⟩
  ·rw[y0_,h7.2.1,a2]
  ·rw[a2P,h3.st no ok sd _ (Int.natCast_nonneg _) (Int.ofNat_lt.2 d2),a3]
  ·rw[o8_,a4,h4]
end
section
variable {h0 hb:Heap} {wp:AV} {N LL:Nat} {es:List E} {A:List Ar} {Up Dn:List (List Int)} {D:List (List Int)} {acc:List Bool}
theorem qr_l1 {W:Nat->Prop}{os oc oe ov n:Nat}{q sc se sf x4 t8 out12:AV}{cs ds fs:List Int}{M:List (Option Int)}{st:Nat->Prop}{id0 k:Nat}{rk:Nat->Nat}(hn2:n<=1000000)(w0:SchW W hb os wp q sc se sf oc oe ov n cs ds fs M)(di:DI n WQ (hopQ N A Up Dn D) st id0 [] (gf cs) (gf M) (gf ds) (gf fs) rk k)(hkn:k<=n){x0:Nat}{Q:AV->Heap->Prop}(hQ:∀(x:Nat) (ks:List Nat) (h:Heap) (arcs:AV) (oa:Nat),st x->x<n->Chn (hopQ N A Up Dn D) x ks (gf cs x0) x0->ks.length<=n->Ext hb h->Gr oa (oa+1) h 1 arcs ((ks.reverse).map natE)->(arcs≠.nils->hb.length<=oa/\oa<h.length)->WP (fun i:Nat=>a0A i x4 t8 out12 arcs h) Q) :
  ∀(d x:Nat) (h:Heap) (arcs:AV) (oa:Nat) (ks:List Nat) (c:Int),rk x<d->d+ks.length<=n+1->x<n->0<=gf cs x->Ext hb h->Gr oa (oa+1) h 1 arcs ((ks.reverse).map natE)->(arcs≠.nils->hb.length<=oa/\oa<h.length)->Chn (hopQ N A Up Dn D) x ks c x0->gf cs x+c=gf cs x0->
   WP (fun p:Nat × Nat=>x6_ p.1 p.2 x4 t8 (.ptr os 0 5 0) (I x) out12 arcs h) Q:=by
 intro d
 induction d with
 |zero=>intro x h arcs oa ks c hr; omega
 |succ d ih=>
  intro x h arcs oa ks c hr hd hx hc e ga pa ch hs
  refine WP.rnd (fun i j=>a4h i j ..) ?_
  have w:=w0.ext e
  have ro:=w.row
  have gfr:=w.gf.sl
  have idf:=gfr.idxG (i:=(x:Int)) (by omega) (by rw[w.lf]; omega)
  have ldf:=gfr.ld0 (H:=h) (i:=(x:Int)) (Ext.refl _) (by omega) (by rw[w.lf]; omega) (by omega)
  replace ldf:Gm.ld1 h (elP 1 sf (x:Int))=some (I (gf fs x)):=ldf
  rcases di.par x hx (gf cs x) (.inl ⟨hc,rfl⟩) with ⟨p1,p2,p3⟩|⟨y,wt,y1,y2,y3,y4,y5,y6,y7⟩
  ·rw[p1] at ldf
   simp -implicitDefEqProofs (disch:=first|assumption|omega|(simp only[gL,gA]<;>omega)|fail) only[gC,reduceIte,ro,idf,ldf]
   refine WP.lv (hQ x ks h arcs oa p2 hx ?_ (by omega) e ga pa) fun i j=>rfl
   rw[p3] at hs
   rw[<-hs]
   simpa using ch
  ·rw[y2] at ldf
   obtain ⟨a,ha⟩:∃a:Nat,gf ds x=a:=⟨(gf ds x).toNat,by omega⟩
   have ge:=w.ge.sl
   have ide:=ge.idxG (i:=(x:Int)) (by omega) (by rw[w.le]; omega)
   have lde:=ge.ld0 (H:=h) (i:=(x:Int)) (Ext.refl _) (by omega) (by rw[w.le]; omega) (by omega)
   replace lde:Gm.ld1 h (elP 1 se (x:Int))=some (I (a:Int)):=by rw[<-ha]; exact lde
   have b:=Gr.lit (h:=h) (sz:=1) (v:=[I (a:Int)]) rfl
   rw[a1_] at b
   obtain ⟨h2,hh2⟩:∃h2,h2=h++[AObj.cells ⟨[I (a:Int)],0,0,false⟩]:=⟨_,rfl⟩
   rw[<-hh2] at b
   have e2:Ext h h2:=by rw[hh2]; exact Ext.push _ _
   have l2:h2.length=h.length+1:=by rw[hh2]; simp
   obtain ⟨sa,h3,oa',q1,q2,q3,q4⟩:=(ga.ext e2).appP (fun z=>by have:=(pa z).2; omega) b.sl (by omega) (bytes:=8) (by omega) (by simp; omega)
   have hq1:apnd 1 8 arcs (.sl h.length 0 1 1 none 0) (h++[AObj.cells ⟨[AV.int .i64 (a:Int)],0,0,false⟩])=some (sa,h3):=by rw[hh2] at q1; exact q1
   have f3:=(FrS.ofExt (D:=fun p=>arcs≠.nils/\p=oa) e2).trans q4
   have e3:Ext hb h3:=f3.ext e fun o o1 o2=>by have:=pa o2.1; omega
   have w3:=w0.ext e3
   have ro3:=w3.row
   have gf3:=w3.gf.sl
   have idf3:=gf3.idxG (i:=(x:Int)) (by omega) (by rw[w3.lf]; omega)
   have ldf3:=gf3.ld0 (H:=h3) (i:=(x:Int)) (Ext.refl _) (by omega) (by rw[w3.lf]; omega) (by omega)
   replace ldf3:Gm.ld1 h3 (elP 1 sf (x:Int))=some (I (gf fs x)):=ldf3
   rw[y2] at ldf3
   have hl3:=q4.len
   have el:=e.len
   simp -implicitDefEqProofs (disch:=first|assumption|omega|(simp only[gL,gA]<;>omega)|fail) only[gC,reduceIte,ro,idf,ldf,ide,lde,hq1,ro3,idf3,ldf3]
   refine ih y h3 sa oa' (a::ks) (wt+c) (by have:=y7 hc; omega) (by simp; omega) y1 y3 e3 (q2.cong (by simp[natE])) (fun z=>?_) (.cons (by rw[ha] at y5; exact y5) ch) (by omega)
   rcases (q3 z).1 with ⟨z1,z2⟩|z1
   ·have:=pa z2; exact ⟨by omega,(q3 z).2⟩
   ·exact ⟨by omega,(q3 z).2⟩
end
end Go.Gm.AQ
namespace Go.Gm.AQ
open Go Go.Gm
section
variable {b0:Heap} {A:List Ar} {LL N:Nat} {sE sR sA sU sDn:AV} {ox ot:Nat} {ks:List Nat} {cost:Int}
theorem qr_l3 (hLL:LL<=1000)(hA:Sl b0 7 sA (A.map encA))(hlA:A.length<=100000000)(hE1:sE.one=true)(hR1:sR.one=true)(hU1:sU.one=true)(hD1:sDn.one=true)(rx:b0[ox]?=some (.cells ⟨[I N,sE,sR,sA,sU,sDn],0,0,false⟩))(rt:b0[ot]?=some (.cells ⟨[I 0,.nils],0,0,false⟩))(hkl:ks.length<=1000000){ll:List Nat}(hll:ll.length<=10000000){arcs:AV}{oa:Nat} :
  ∀(d i:Nat) (h:Heap) (se:AV) (oe:Nat) (l1 l2:List Nat),i+d=ks.length->Ext b0 h->h[b0.length]?=some (.cells ⟨[I cost,se],0,0,false⟩)->Gr oe (oe+1) h 1 se (l1.map natE)->(se≠.nils->b0.length<oe/\oe<h.length/\(arcs≠.nils->oe≠oa))->
   Gr oa (oa+1) h 1 arcs (ks.map natE)->(arcs≠.nils->b0.length<oa/\oa<h.length)->UnpL A LL (ks.drop i) l2->ll=l1++l2->
   WP (fun p:Nat × Nat=>x7_ p.1 p.2 (.ptr ox 0 6 0) (.ptr ot 0 2 0) (.ptr b0.length 0 2 0) arcs (I ks.length) (I i) h) fun r h'=>(∃sl,r=.tup [.agg [I cost,sl],.bool true]/\Sl h' 1 sl (ll.map natE))/\h'.length>=b0.length/\∀o,o<b0.length->o≠ot->h'[o]?=b0[o]?:=by
 have hox:ox<b0.length:=(List.getElem?_eq_some_iff.1 rx).1
 have hot:ot<b0.length:=(List.getElem?_eq_some_iff.1 rt).1
 intro d
 induction d with
 |zero=>
  intro i h se oe l1 l2 hi e ro ge pe ga pa hu hl
  refine WP.rnd (fun i' j=>a1i i' j ..) ?_
  obtain rfl:i=ks.length:=by omega
  rw[List.drop_length] at hu
  cases hu
  rw[List.append_nil] at hl
  subst hl
  simp -implicitDefEqProofs (disch:=first|assumption|omega|(simp only[gL,gA]<;>omega)|fail) only[gC,reduceIte]
  refine WP.lv ?_ fun i j=>rfl
  refine WP.congr (fun i=>a4f i ..) ?_
  simp -implicitDefEqProofs (disch:=first|assumption|omega|(simp only[gL,gA]<;>omega)|fail) only[gC,reduceIte,ro]
  refine WP.call (a1x ge.sl (by simp; omega)) ?_
  rintro r h2 ⟨e2,g2⟩
  have ro2:=e2.get ro
  have hoo:b0.length<h2.length:=(List.getElem?_eq_some_iff.1 ro2).1
  have rt2:=(e.trans e2).get rt
  have c1:=g2.sl.cells
  have o1:=g2.sl.one
  have hol:b0.length<h.length:=(List.getElem?_eq_some_iff.1 ro).1
  simp -implicitDefEqProofs (disch:=first|assumption|omega|(simp only[gL,gA]<;>omega)|fail) only[gC,reduceIte,ro2,rt2,c1,o1]
  refine WP.ret ⟨⟨r,rfl,?_⟩,by simp; omega,fun o ho hne=>?_⟩
  ·have f:FrS (fun o=>o=b0.length\/o=ot) h2 ((h2.set b0.length (.cells ⟨[I cost,r],0,0,false⟩)).set ot (.cells ⟨[I cost,r],0,0,false⟩)):=((FrS.set1 ..).mono fun o _ z=>.inl z).trans ((FrS.set1 ..).mono fun o _ z=>.inr z)
   exact (g2.frs f fun o z1 z2 z3=>by omega).sl
  ·rw[a5_ (by omega),a5_ (by omega)]
   have e3:=e.trans e2
   obtain ⟨y,hy⟩:∃y,b0[o]?=some y:=⟨b0[o],List.getElem?_eq_getElem ho⟩
   rw[hy,e3.get hy]
 |succ d ih=>
  intro i h se oe l1 l2 hi e ro ge pe ga pa hu hl
  refine WP.rnd (fun i' j=>a1i i' j ..) ?_
  have hik:(i:Int)<ks.length:=by omega
  obtain ⟨k,hk⟩:∃k:Nat,ks[i]?=some k:=⟨ks[i],List.getElem?_eq_getElem (by omega)⟩
  have hgk:gi ks (i:Int)=k:=by
   have:=a7_ (xs:=ks) (i:=(i:Int)) (by omega) hik
   rw[Int.toNat_natCast,hk] at this
   injection this with this
   exact this.symm
  have hdr:ks.drop i=k::ks.drop (i+1):=by
   rw[List.drop_eq_getElem_cons (by omega)]
   congr 1
   have:=List.getElem?_eq_getElem (l:=ks) (i:=i) (by omega)
   rw[hk] at this
   injection this with this
   exact this.symm
  rw[hdr] at hu
  obtain ⟨l,ls,hlt,hun,hlen,hrest,hl2⟩:∃l ls,k<A.length/\Unp A k l/\l.length<=LL/\UnpL A LL (ks.drop (i+1)) ls/\l2=l++ls:=by
   cases hu with
   |cons a1 a2 a3 a4=>exact ⟨_,_,a1,a2,a3,a4,rfl⟩
  subst hl2
  have gas:=ga.sl
  have ldk:=gas.ld0 (H:=h) (i:=(i:Int)) (Ext.refl _) (by omega) hik (by omega)
  rw[hgk] at ldk
  replace ldk:Gm.ld1 h (elP 1 arcs (i:Int))=some (I (k:Int)):=ldk
  have idk:=gas.idxG (i:=(i:Int)) (by omega) hik
  have rx':=e.get rx
  have hr6:rdNAt 6 (some (AObj.cells ⟨[I N,sE,sR,sA,sU,sDn],0,0,false⟩)) 0 6 0=some (.agg [I N,sE,sR,sA,sU,sDn]):=rfl
  simp -implicitDefEqProofs (disch:=first|assumption|omega|(simp only[gL,gA]<;>omega)|fail) only[gC,reduceIte,idk,ldk,ro,rx',hr6]
  refine WP.call (a7f hlA (hA.ext e) hE1 hR1 hU1 hD1 hun (by omega)) ?_
  rintro ru h2 ⟨e2,g2⟩
  have ro2:=e2.get ro
  have hoo:b0.length<h.length:=(List.getElem?_eq_some_iff.1 ro).1
  have hlen2:=congrArg List.length hl
  simp only[List.length_append] at hlen2
  obtain ⟨s',h3,oe',q1,q2,q3,q4⟩:=(ge.ext e2).appP (fun z=>by have:=(pe z).2.1; have:=e2.len; omega) g2.sl (by omega) (bytes:=8) (by omega) (by simp; omega)
  have ro3:h3[b0.length]?=some (.cells ⟨[I cost,se],0,0,false⟩):=by rw[q4.get (fun z=>by have:=pe z.1; omega) (by have:=e2.len; omega)]; exact ro2
  have c1:=q2.sl.cells
  have o1:=q2.sl.one
  have l3:=q4.len
  have l2':=e2.len
  simp -implicitDefEqProofs (disch:=first|assumption|omega|(simp only[gL,gA]<;>omega)|fail) only[gC,reduceIte,ro2,q1,ro3,c1,o1]
  obtain ⟨h4,hh4⟩:∃h4,h4=h3.set b0.length (.cells ⟨[I cost,s'],0,0,false⟩):=⟨_,rfl⟩
  have f4:FrS (fun o=>o=b0.length) h3 h4:=by rw[hh4]; exact FrS.set1 ..
  have ro4:h4[b0.length]?=some (.cells ⟨[I cost,s'],0,0,false⟩):=by rw[hh4]; exact a0_ (by omega)
  have l4:=f4.len
  rw[<-hh4]
  have q3':s'≠.nils->b0.length<oe'/\oe'<h4.length/\(arcs≠.nils->oe'≠oa):=fun z=>by
   have q5:=(q3 z).2
   rcases (q3 z).1 with ⟨z1,z2⟩|z1
   ·have:=pe z2; exact ⟨by omega,by omega,fun z3=>by have:=this.2.2 z3; omega⟩
   ·exact ⟨by omega,by omega,fun z3=>by have:=pa z3; omega⟩
  refine ih (i+1) h4 s' oe' (l1++l) ls (by omega) ?_ ro4 ((q2.keep f4 fun z=>by have:=q3' z; omega).cong (by simp)) q3' (((ga.ext e2).keep q4 fun z z2=>(pe z2.1).2.2 z z2.2.symm).keep f4 fun z=>by have:=pa z; omega) (fun z=>by have:=pa z; omega) hrest (by rw[hl,List.append_assoc])
  exact (f4.ext (q4.ext (e.trans e2) fun o o1 o2=>by have:=pe o2.1; omega) fun o o1 o2=>by omega)
end
end Go.Gm.AQ
namespace Go.Gm.AQ
open Go Go.Gm
def RtQ (es:List E)(D:List (List Int))(acc:List Bool)(v u:Nat)(r:AV)(h':Heap):Prop:=
 ∃b,LW es v u (fun w=>gi acc (goS D 0 w)=true) b/\((b<0/\r=.tup [.agg [I 0,.nils],.bool false])\/
  (0<=b/\∃sl ll,r=.tup [.agg [I b,sl],.bool true]/\Sl h' 1 sl ((ll.map fun (e:Nat)=>(e:Int)).map encI)/\ll.length<=1000000/\OkW es v ll/\atV es v ll=u/\gi acc (atS es D 0 ll)=true/\atC es ll=b))
theorem a4V (l:List Nat):l.map natE=(l.map fun (e:Nat)=>(e:Int)).map encI:=by rw[List.map_map]; rfl
section
variable {h:Heap} {N:Nat} {es:List E} {A:List Ar} {Up Dn:List (List Int)} {D:List (List Int)} {acc:List Bool} {x sD sAc:AV}
theorem a4s (hN:N<=100)(no:NetOk N es)(co:COk es)(xv:IxV h x N es A Up Dn)(ix:IxC N es A Up Dn)(ok:DOk D acc)(hD:Sl h 5 sD (D.map encR))(hA:Sl h 1 sAc (acc.map encB))(hn2:2*(N*D.length)*(N+1)<=1000000){v u:Nat}(hv:v<N)(hu:u<N) :
  Tot tab g3_ [x,.agg [sD,sAc],I v,I u] h fun r h'=>Ext h h'/\RtQ es D acc v u r h':=by
 refine WP.tot (fun k=>a5u k _ _ _ _ h) ?_
 have hn3:2*(N*D.length)<=1000000:=Nat.le_trans (Nat.le_mul_of_pos_right _ (by omega)) hn2
 obtain ⟨sE,sR,sA,sU,sDn,us,ds,hx,hE,hR,hAr,hU,hDn,lu,ldd,hUp,hDp⟩:=xv.ex
 have o1:=hE.one
 have o2:=hAr.one
 have o3:=hU.one
 have o4:=hDn.one
 have o5:=hD.one
 have o6:=hA.one
 have hz:AV.int .i64 0=I 0:=rfl
 simp only[hz]
 obtain ⟨h1,hh1⟩:∃h1,h1=((h++[AObj.cells ⟨[I N,sE,sR,sA,sU,sDn],0,0,false⟩])++[AObj.cells ⟨[sD,sAc],0,0,false⟩])++[AObj.cells ⟨[I 0,.nils],0,0,false⟩]:=⟨_,rfl⟩
 have e1:Ext h h1:=by rw[hh1]; exact ((Ext.push _ _).app _).app _
 have l1:h1.length=h.length+3:=by rw[hh1]; simp
 have rx:h1[h.length]?=some (.cells ⟨[I N,sE,sR,sA,sU,sDn],0,0,false⟩):=by rw[hh1,e6_ (by simp),e6_ (by simp)]; simp
 have rd:h1[h.length+1]?=some (.cells ⟨[sD,sAc],0,0,false⟩):=by rw[hh1,e6_ (by simp),m6_ (by simp)]; simp
 have rt:h1[h.length+1+1]?=some (.cells ⟨[I 0,.nils],0,0,false⟩):=by rw[hh1,m6_ (by simp)]; simp
 have hr2:∀a b c d e f:AV,rdNAt 2 (some (AObj.cells ⟨[a,b,c,d,e,f],0,0,false⟩)) 0 6 0=some (.agg [a,b]):=fun _ _ _ _ _ _=>rfl
 have hr6:rdNAt 6 (some (AObj.cells ⟨[I N,sE,sR,sA,sU,sDn],0,0,false⟩)) 0 6 0=some (.agg [I N,sE,sR,sA,sU,sDn]):=rfl
 rw[hx]
 simp -implicitDefEqProofs (maxSteps:=1000000) (disch:=first|assumption|omega|(simp only[gL]<;>omega)|((repeat (first|exact Ext.refl _|assumption|apply Ext.app|apply Ext.mk|(refine Ext.setr ?_ (by (first|omega|(simp only[gL]<;>omega))) _))); done)|(simp only[gL,gA,o1,hR,o2,o3,o4,o5,o6]<;>omega)|fail) only[gB,setAll,partL,fldV,reduceIte,Nat.reduceAdd,Nat.reduceMul,o1,hR,o2,o3,o4,o5,o6]
 rw[<-hh1]
 refine WP.call (a4r ok (hD.ext e1) (hA.ext e1)) ?_
 rintro _ h2 ⟨e2,rfl⟩
 have e12:=e1.trans e2
 have rx2:=e2.get rx
 have rd2:=e2.get rd
 have rt2:=e2.get rt
 cases hst:stdyB D with
 |false=>
  simp -implicitDefEqProofs (maxSteps:=1000000) (disch:=first|assumption|omega|(simp only[gL]<;>omega)|((repeat (first|exact Ext.refl _|assumption|apply Ext.app|apply Ext.mk|(refine Ext.setr ?_ (by (first|omega|(simp only[gL]<;>omega))) _))); done)|(simp only[gL,gA,rx2,rd2,hr2]<;>omega)|fail) only[gB,setAll,partL,fldV,reduceIte,Nat.reduceAdd,Nat.reduceMul,rx2,rd2,hr2]
  refine WP.call (a7Y no co (by omega) (hE.ext e12) ok (hD.ext e12) (hA.ext e12) hv hu) ?_
  rintro r h3 ⟨e3,c,lc,rq⟩
  have rt3:=e3.get rt2
  have lw:=bv_lw ok no hv hu lc
  have lt3:h.length+1+1<h3.length:=(List.getElem?_eq_some_iff.1 rt3).1
  have e13:=e12.trans e3
  rcases rq with ⟨c0,rfl⟩|⟨c0,q,l,sl,q1,q2,q3,q4,q5,rfl,q7⟩
  ·simp -implicitDefEqProofs (maxSteps:=1000000) (disch:=first|assumption|omega|(simp only[gL]<;>omega)|((repeat (first|exact Ext.refl _|assumption|apply Ext.app|apply Ext.mk|(refine Ext.setr ?_ (by (first|omega|(simp only[gL]<;>omega))) _))); done)|(simp only[gL,gA,b5_,b6_,rt3]<;>omega)|fail) only[gB,setAll,partL,fldV,reduceIte,Nat.reduceAdd,Nat.reduceMul,b5_,b6_,rt3]
   refine WP.ret ⟨by ((repeat (first|exact Ext.refl _|assumption|apply Ext.app|apply Ext.mk|(refine Ext.setr ?_ (by (first|omega|(simp only[gL]<;>omega))) _)))),_,lw,.inl ⟨c0,rfl⟩⟩
  ·obtain ⟨a1,a2,a3,a4,a5⟩:=a7F ok no hv q4
   obtain ⟨d1,d2⟩:=a4b (v:=u) (S:=D.length) (s:=q) q1
   rw[d1] at a2
   rw[d2] at a3
   have os:=q7.sl.one
   have cs:=q7.sl.cells
   simp -implicitDefEqProofs (maxSteps:=1000000) (disch:=first|assumption|omega|(simp only[gL]<;>omega)|((repeat (first|exact Ext.refl _|assumption|apply Ext.app|apply Ext.mk|(refine Ext.setr ?_ (by (first|omega|(simp only[gL]<;>omega))) _))); done)|(simp only[gL,gA,b5_,b6_,rt3,os,cs]<;>omega)|fail) only[gB,setAll,partL,fldV,reduceIte,Nat.reduceAdd,Nat.reduceMul,b5_,b6_,rt3,os,cs]
   refine WP.ret ⟨by ((repeat (first|exact Ext.refl _|assumption|apply Ext.app|apply Ext.mk|(refine Ext.setr ?_ (by (first|omega|(simp only[gL]<;>omega))) _)))),_,lw,.inr ⟨c0,sl,l,rfl,?_,q5,a1,a2,by rw[a3]; exact q2,a4⟩⟩
   exact (q7.set (by have:=e2.len; omega) _).sl
 |true=>
  have sd:=a2p.1 hst
  have xv2:IxV h2 (.agg [I N,sE,sR,sA,sU,sDn]) N es A Up Dn:=hx▸xv.ext e12
  simp -implicitDefEqProofs (maxSteps:=1000000) (disch:=first|assumption|omega|(simp only[gL]<;>omega)|((repeat (first|exact Ext.refl _|assumption|apply Ext.app|apply Ext.mk|(refine Ext.setr ?_ (by (first|omega|(simp only[gL]<;>omega))) _))); done)|(simp only[gL,gA,rx2,rd2,hr6]<;>omega)|fail) only[gB,setAll,partL,fldV,reduceIte,Nat.reduceAdd,Nat.reduceMul,rx2,rd2,hr6]
  refine WP.call (a6T hN xv2 ix.toIxS (hD.ext e12) (hA.ext e12)) ?_
  rintro wp h3 ⟨e3,wv⟩
  refine WP.call (a6d wv ix.toIxS ok hN (n:=2*(N*D.length)) rfl hn3 hv) ?_
  rintro _ h4 ⟨e4,os,q,sc,se,sf,oc,oe,ov,rfl,id2,k2,rk2,cs2,ds2,fs2,M2,sw,di,hM,hk⟩
  refine WP.call (a5p (wv.ext e4) ok hN rfl hn3 sw hu) ?_
  rintro _ h5 ⟨e5,out,rfl,qb⟩
  have hg:=a4U ix.toIxS ok
  have hvS:v*D.length<N*D.length:=by
   have:=spotN (N:=N) (v:=v) (S:=D.length) (s:=0) hv ok.l0
   simpa using this
  have lc:=di.lc hg (fun y hy=>by have:y=2*(v*D.length):=hy; omega) hM
  have lw:=q_lw no co ix ok sd hv hu lc qb
  have e15:=((e12.trans e3).trans e4).trans e5
  have rx5:=((e3.trans e4).trans e5).get rx2
  have rt5:=((e3.trans e4).trans e5).get rt2
  have lt5:h.length+1+1<h5.length:=(List.getElem?_eq_some_iff.1 rt5).1
  by_cases o0:out<0
  ·rw[if_pos o0] at lw
   simp -implicitDefEqProofs (maxSteps:=1000000) (disch:=first|assumption|omega|(simp only[gL]<;>omega)|((repeat (first|exact Ext.refl _|assumption|apply Ext.app|apply Ext.mk|(refine Ext.setr ?_ (by (first|omega|(simp only[gL]<;>omega))) _))); done)|(simp only[gL,gA,rt5]<;>omega)|fail) only[gB,setAll,partL,fldV,reduceIte,Nat.reduceAdd,Nat.reduceMul,rt5]
   refine WP.ret ⟨by ((repeat (first|exact Ext.refl _|assumption|apply Ext.app|apply Ext.mk|(refine Ext.setr ?_ (by (first|omega|(simp only[gL]<;>omega))) _)))),_,lw,.inl ⟨by omega,rfl⟩⟩
  ·rw[if_neg o0] at lw
   obtain ⟨y,hy⟩:∃y:Nat,out=y:=⟨out.toNat,by omega⟩
   subst hy
   rw[Int.toNat_natCast] at lw
   have sw5:=sw.ext e5
   have ro5:=sw5.row
   rcases qb with ⟨qb,_⟩|⟨y',qy,qa,qc,_⟩
   ·omega
   obtain rfl:y=y':=by omega
   have hyr:y<2*(N*D.length)/\((y / 2 / D.length:Nat):Int)=u/\gi acc ((y / 2 % D.length:Nat):Int)=true:=by
    obtain ⟨s,s1,s2,bb,hs⟩:=qa
    have la:=ok.la
    have h1:=x3_ (N:=N) (S:=D.length) (v:=(u:Int)) (s:=(s:Int)) (by omega) (by omega) (by omega) (by omega) bb
    obtain ⟨_,e2,e3⟩:=a1B (S:=D.length) (v:=(u:Int)) (s:=(s:Int)) (by omega) (by omega) (by omega) bb
    rw[<-hs] at e2 e3
    exact ⟨by omega,e2,by rw[e3]; exact s2⟩
   have gcs:=sw5.gc.sl
   have idy:=gcs.idxG (i:=(y:Int)) (by omega) (by rw[sw5.lc]; omega)
   have ldy:=gcs.ld0 (H:=h5) (i:=(y:Int)) (Ext.refl _) (by omega) (by rw[sw5.lc]; omega) (by omega)
   obtain ⟨cost,hcost⟩:∃cost,gf cs2 y=cost:=⟨_,rfl⟩
   replace ldy:Gm.ld1 h5 (elP 1 sc (y:Int))=some (I cost):=by rw[<-hcost]; exact ldy
   obtain ⟨h6,hh6⟩:∃h6,h6=(h5++[AObj.cells ⟨[I 0,.nils],0,0,false⟩]).set h5.length (.cells ⟨[I cost,.nils],0,0,false⟩):=⟨_,rfl⟩
   have e6:Ext h5 h6:=by rw[hh6]; ((repeat (first|exact Ext.refl _|assumption|apply Ext.app|apply Ext.mk|(refine Ext.setr ?_ (by (first|omega|(simp only[gL]<;>omega))) _))))
   have l6:h6.length=h5.length+1:=by rw[hh6]; simp
   have ro6:h6[h5.length]?=some (.cells ⟨[I cost,.nils],0,0,false⟩):=by rw[hh6]; exact a0_ (by simp)
   simp -implicitDefEqProofs (maxSteps:=1000000) (disch:=first|assumption|omega|(simp only[gL]<;>omega)|((repeat (first|exact Ext.refl _|assumption|apply Ext.app|apply Ext.mk|(refine Ext.setr ?_ (by (first|omega|(simp only[gL]<;>omega))) _))); done)|(simp only[gL,gA,ro5,idy,ldy]<;>omega)|fail) only[gB,setAll,partL,fldV,reduceIte,Nat.reduceAdd,Nat.reduceMul,ro5,idy,ldy]
   rw[<-hh6]
   have hun:=i4_ (2*(N*D.length)) (gf cs2)
   have hrk:=di.rk y hyr.1 qc
   rw[hcost] at qc lw
   refine WP.ent (qr_l1 (x4:=.ptr h.length 0 6 0) (t8:=.ptr (h.length+1+1) 0 2 0) (out12:=.ptr h5.length 0 2 0) hn3 (sw5.ext e6) di (by omega) (x0:=y) (fun x' ks h7 arcs oa hstx hxn hch hkl e7 ga pa=>?_) (2*(N*D.length)+1) y h6 .nils 0 [] 0 (by omega) (by simp) hyr.1 (by omega) (Ext.refl _) (Gr.nil ..) (fun z=>absurd rfl z) .nil (by omega)) fun i=>rfl
   have hx':x'=2*(v*D.length):=hstx
   have hx2:x' / 2=v*D.length:=by omega
   obtain ⟨ll,u1,u2,u3,u4,u5⟩:=a9p no ix.toIxS ok sd hch (by omega)
   rw[hx2,Nat.mul_div_cancel _ ok.l0] at u2 u3
   rw[hx2,Nat.mul_mod_left] at u4
   rw[hcost] at u5
   have hlll:=u1.len
   have hll:ll.length<=1000000:=by
    have:ks.length*(N+1)<=2*(N*D.length)*(N+1):=Nat.mul_le_mul_right _ hkl
    omega
   refine WP.congr (fun i=>a4g i ..) ?_
   obtain ⟨lo,ga',hlo⟩:∃lo,Gr lo (lo+1) h7 1 arcs ((ks.reverse.map fun (e:Nat)=>(e:Int)).map encI)/\h6.length<=lo:=by
    by_cases q:arcs=.nils
    ·subst q
     have hks:ks=[]:=by simpa using ga.isNil
     subst hks
     exact ⟨h6.length,Gr.nil ..,Nat.le_refl _⟩
    ·exact ⟨oa,ga.cong (a4V _),(pa q).1⟩
   refine WP.call (a6I (by simp; omega) ga') ?_
   rintro _ h8 ⟨rfl,f8,g8⟩
   have e68:Ext h6 h8:=f8.ext e7 hlo
   obtain ⟨oa',pa',g8'⟩:=(g8.cong (ys:=ks.map natE) (by rw[<-List.map_reverse,List.reverse_reverse,a4V])).point
   have lna:lenS arcs=some (I ks.length):=by rw[g8'.sl.lenG]
   have e58:=e6.trans e68
   simp -implicitDefEqProofs (maxSteps:=1000000) (disch:=first|assumption|omega|(simp only[gL]<;>omega)|((repeat (first|exact Ext.refl _|assumption|apply Ext.app|apply Ext.mk|(refine Ext.setr ?_ (by (first|omega|(simp only[gL]<;>omega))) _))); done)|(simp only[gL,gA,lna]<;>omega)|fail) only[gB,setAll,partL,fldV,reduceIte,Nat.reduceAdd,Nat.reduceMul,lna]
   have hfin:=qr_l3 (LL:=N+1) (by omega) (hAr.ext e15) (by have:=ix.la; omega) o1 hR o3 o4 rx5 rt5 (ks:=ks) (by omega) (ll:=ll) (by omega) (cost:=cost) ks.length 0 h8 .nils 0 [] ll (by omega) e58 (e68.get ro6) (Gr.nil ..) (fun z=>absurd rfl z) g8' (fun z=>by have:=pa' z; omega) (by rw[List.drop_zero]; exact u1) rfl
   refine WP.ent (hfin.mono fun r h9 ⟨⟨sl,r1,r2⟩,r3,r4⟩=>⟨?_,cost,lw,.inr ⟨by omega,sl,ll,r1,by rw[<-a4V]; exact r2,hll,u2,u3.trans hyr.2.1,?_,u5⟩⟩) fun i=>rfl
   ·rw[a0x]
    refine ⟨by have:=e15.len; omega,fun o ho=>?_⟩
    rw[r4 o (by have:=e15.len; omega) (by omega)]
    obtain ⟨z,hz'⟩:∃z,h[o]?=some z:=⟨h[o],List.getElem?_eq_getElem ho⟩
    rw[hz',e15.get hz']
   ·have h0:((0:Nat):Int)=0:=rfl
    rw[h0] at u4
    rw[u4]; exact hyr.2.2
end
end Go.Gm.AQ
namespace Go.Gm.AQ
open Go Go.Gm
section
variable {N LL:Nat} {es:List E} {A:List Ar} {Up Dn:List (List Int)} {D:List (List Int)} {acc:List Bool} {sD sAc:AV}
def ManyQ (es:List E)(D:List (List Int))(acc:List Bool)(v:Nat)(ts bs:List Int):Prop:=∀i:Nat,i<bs.length->LW es v (gi ts i) (fun w=>gi acc (goS D 0 w)=true) (gi bs i)
theorem ManyQ.snoc {v:Nat}{ts bs:List Int}{b:Int}(m:ManyQ es D acc v ts bs)(h:LW es v (gi ts bs.length) (fun w=>gi acc (goS D 0 w)=true) b):ManyQ es D acc v ts (bs++[b]):=by
 intro i hi
 rw[List.length_append,List.length_singleton] at hi
 by_cases q:i<bs.length
 ·rw[z8_ (by omega) (by omega)]; exact m i q
 ·obtain rfl:i=bs.length:=by omega
  rw[a0y]; exact h
theorem app1I {oc:Nat}{h:Heap}{out:AV}{bs:List Int}(g:Gr oc (oc+1) h 1 out (bs.map encI))(ho:out≠.nils->oc<h.length)(hl:bs.length<=1000000000)(b:Int) :
  ∃s' h' o',apnd 1 8 out (.sl h.length 0 1 1 none 0) (h++[AObj.cells ⟨[I b],0,0,false⟩])=some (s',h')/\Gr o' (o'+1) h' 1 s' ((bs++[b]).map encI)/\(s'≠.nils->((o'=oc/\out≠.nils)\/h.length<=o')/\o'<h'.length)/\FrS (fun p=>out≠.nils/\p=oc) h h':=by
 have b0:=Gr.lit (h:=h) (sz:=1) (v:=[I b]) rfl
 rw[a1_] at b0
 have e1:Ext h (h++[AObj.cells ⟨[I b],0,0,false⟩]):=Ext.push _ _
 obtain ⟨s',h',o',q1,q2,q3,q4⟩:=(g.ext e1).appP (fun z=>by have:=ho z; simp; omega) b0.sl (by omega) (bytes:=8) (by omega) (by simp; omega)
 refine ⟨s',h',o',q1,q2.cong (by simp[encI]),fun z=>⟨?_,(q3 z).2⟩,(FrS.ofExt e1).trans q4⟩
 rcases (q3 z).1 with h1|h1
 ·exact .inl h1
 ·right; simp at h1; omega
theorem b0F {hb b1:Heap}{all tA:AV}{oo la ha v:Nat}{ts:List Int}{c:Nat->Int}(eb:Ext hb b1)(hoo:hb.length<=oo)(hT:Sl hb 1 tA (ts.map encI))(hA:Gr la ha b1 1 all ((costL N D.length c acc).map encI))(hla:oo<la)(hha:ha<=b1.length)(ht:∀t∈ts,0<=t/\t<N)(htl:ts.length<=1000000)(hlw:∀u:Nat,u<N->LW es v u (fun w=>gi acc (goS D 0 w)=true) (bv c acc (u*D.length) D.length)) :
  ∀(d i:Nat) (h:Heap) (out:AV) (oc:Nat) (bs:List Int),i+d=ts.length->FrS (fun o=>o=oo\/b1.length<=o) b1 h->Gr oc (oc+1) h 1 out (bs.map encI)->(out≠.nils->(oc=oo\/b1.length<=oc)/\oc<h.length)->bs.length=i->ManyQ es D acc v ts bs->
   WP (fun p:Nat × Nat=>z4_ p.1 p.2 out all tA (I ts.length) (I i) h) fun r h'=>Ext hb h'/\∃bs:List Int,bs.length=ts.length/\Sl h' 1 r (bs.map encI)/\ManyQ es D acc v ts bs:=by
 have ebl:=eb.len
 intro d
 induction d with
 |zero=>
  intro i h out oc bs hi f g po hbl m
  refine WP.rnd (fun i j=>a1M i j ..) ?_
  obtain rfl:i=ts.length:=by omega
  simp -implicitDefEqProofs (disch:=first|assumption|omega|(simp only[gL,gA]<;>omega)|fail) only[gC,reduceIte]
  exact WP.ret ⟨f.ext eb fun o o1 o2=>by omega,bs,hbl,g.sl,m⟩
 |succ d ih=>
  intro i h out oc bs hi f g po hbl m
  refine WP.rnd (fun i j=>a1M i j ..) ?_
  have e:=f.ext eb fun o o1 o2=>by omega
  have hT':=hT.ext e
  have hA':=(hA.frs f fun o o1 o2 o3=>by omega).sl
  have hit:(i:Int)<ts.length:=by omega
  have ldt:=hT'.ld0 (H:=h) (i:=(i:Int)) (Ext.refl _) (by omega) hit (by omega)
  obtain ⟨t0,t1⟩:=ht _ (a4_ (xs:=ts) (i:=(i:Int)) (by omega) hit)
  obtain ⟨t,htt⟩:∃t:Nat,gi ts (i:Int)=t:=⟨(gi ts (i:Int)).toNat,by omega⟩
  rw[htt] at ldt t0 t1
  replace ldt:Gm.ld1 h (elP 1 tA (i:Int))=some (I (t:Int)):=ldt
  have idt:=hT'.idxG (i:=(i:Int)) (by omega) hit
  have htN:t<N:=by omega
  have idA:=hA'.idxG (i:=(t:Int)) (by omega) (by rw[a0R]; omega)
  have ldA:=hA'.ld0 (H:=h) (i:=(t:Int)) (Ext.refl _) (by omega) (by rw[a0R]; omega) (by omega)
  rw[a4M htN] at ldA
  obtain ⟨b,hbv⟩:∃b,bv c acc (t*D.length) D.length=b:=⟨_,rfl⟩
  rw[hbv] at ldA
  replace ldA:Gm.ld1 h (elP 1 all (t:Int))=some (I b):=ldA
  obtain ⟨s',h',o',k1,k2,k3,k4⟩:=app1I g (fun z=>(po z).2) (by omega) b
  have hl1:=f.len
  have hl2:=k4.len
  simp -implicitDefEqProofs (disch:=first|assumption|omega|(simp only[gL,gA]<;>omega)|fail) only[gC,reduceIte,idt,ldt,idA,ldA,k1]
  refine ih (i+1) h' s' o' (bs++[b]) (by omega) (f.trans (k4.mono fun o _ z=>by have:=(po z.1).1; omega)) k2 (fun z=>?_) (by simp[hbl]) (m.snoc ?_)
  ·rcases (k3 z).1 with ⟨z1,z2⟩|z1
   ·have:=(po z2).1; exact ⟨by omega,(k3 z).2⟩
   ·exact ⟨.inr (by omega),(k3 z).2⟩
  ·rw[hbl,htt,<-hbv]
   exact hlw t htN
theorem b0G {hb b1:Heap}{wp tA:AV}{oo c0 v:Nat}{ts:List Int}{W:Nat->Prop}{os oc' oe ov n:Nat}{q sc se sf:AV}{cs ds fs:List Int}{M:List (Option Int)}(hoo:hb.length<=oo)(ho0:oo<c0)(hT:Sl hb 1 tA (ts.map encI))(ht:∀t∈ts,0<=t/\t<N)(htl:ts.length<=1000000)(wv:WyV2 hb c0 b1 wp N es A Up Dn D acc)(ok:DOk D acc)(hN:N<=100)(hn:n=2*(N*D.length))(hn2:n<=1000000)(w0:SchW W b1 os wp q sc se sf oc' oe ov n cs ds fs M)(hW:∀o,W o->c0<=o)(hlw:∀(u:Nat) (out:Int),u<N->QB (gf cs) (AccS acc D.length u acc.length) out->LW es v u (fun w=>gi acc (goS D 0 w)=true) (if out<0 then -1 else gf cs out.toNat)) :
  ∀(d i:Nat) (h:Heap) (out:AV) (oc:Nat) (bs:List Int),i+d=ts.length->FrS (fun o=>o=oo\/b1.length<=o) b1 h->Gr oc (oc+1) h 1 out (bs.map encI)->(out≠.nils->(oc=oo\/b1.length<=oc)/\oc<h.length)->bs.length=i->ManyQ es D acc v ts bs->
   WP (fun p:Nat × Nat=>z5_ p.1 p.2 out (.ptr os 0 5 0) (.fn d1_ [] []) tA (I ts.length) (I i) h) fun r h'=>Ext hb h'/\∃bs:List Int,bs.length=ts.length/\Sl h' 1 r (bs.map encI)/\ManyQ es D acc v ts bs:=by
 have eb:=wv.eb
 have ebl:=eb.len
 intro d
 induction d with
 |zero=>
  intro i h out oc bs hi f g po hbl m
  refine WP.rnd (fun i j=>a1N i j ..) ?_
  obtain rfl:i=ts.length:=by omega
  simp -implicitDefEqProofs (disch:=first|assumption|omega|(simp only[gL,gA]<;>omega)|fail) only[gC,reduceIte]
  exact WP.ret ⟨f.ext eb fun o o1 o2=>by omega,bs,hbl,g.sl,m⟩
 |succ d ih=>
  intro i h out oc bs hi f g po hbl m
  refine WP.rnd (fun i j=>a1N i j ..) ?_
  have e:=f.ext eb fun o o1 o2=>by omega
  have hT':=hT.ext e
  have hit:(i:Int)<ts.length:=by omega
  have ldt:=hT'.ld0 (H:=h) (i:=(i:Int)) (Ext.refl _) (by omega) hit (by omega)
  obtain ⟨t0,t1⟩:=ht _ (a4_ (xs:=ts) (i:=(i:Int)) (by omega) hit)
  obtain ⟨t,htt⟩:∃t:Nat,gi ts (i:Int)=t:=⟨(gi ts (i:Int)).toNat,by omega⟩
  rw[htt] at ldt t0 t1
  replace ldt:Gm.ld1 h (elP 1 tA (i:Int))=some (I (t:Int)):=ldt
  have idt:=hT'.idxG (i:=(i:Int)) (by omega) hit
  have htN:t<N:=by omega
  have wvh:=(wv.frs f fun o o1 o2=>by omega).wy
  have wh:=w0.frs f fun o o1 o2 o3=>by have:=hW o o2; omega
  have hl1:=f.len
  simp -implicitDefEqProofs (disch:=first|assumption|omega|(simp only[gL,gA]<;>omega)|fail) only[gC,reduceIte,idt,ldt]
  refine WP.call (a5p wvh ok hN hn hn2 wh htN) ?_
  rintro _ h2 ⟨e2,o,rfl,qb⟩
  have lw:=hlw t o htN qb
  have f2:=f.trans (FrS.ofExt (D:=fun o=>o=oo\/b1.length<=o) e2)
  have hl2:=e2.len
  have fin:∀b,LW es v t (fun w=>gi acc (goS D 0 w)=true) b->WP (fun p:Nat × Nat=>z6_ p.1 p.2 out (.ptr os 0 5 0) (.fn d1_ [] []) (I b) tA (I ts.length) (I i) h2) fun r h'=>Ext hb h'/\∃bs:List Int,bs.length=ts.length/\Sl h' 1 r (bs.map encI)/\ManyQ es D acc v ts bs:=by
   intro b hlb
   refine WP.congr (fun i=>a4G i.1 i.2 ..) ?_
   obtain ⟨s',h',o',k1,k2,k3,k4⟩:=app1I (g.ext e2) (fun z=>by have:=(po z).2; omega) (by omega) b
   have hl3:=k4.len
   simp -implicitDefEqProofs (disch:=first|assumption|omega|(simp only[gL,gA]<;>omega)|fail) only[gC,reduceIte,k1]
   refine ih (i+1) h' s' o' (bs++[b]) (by omega) (f2.trans (k4.mono fun o _ z=>by have:=(po z.1).1; omega)) k2 (fun z=>?_) (by simp[hbl]) (m.snoc ?_)
   ·rcases (k3 z).1 with ⟨z1,z2⟩|z1
    ·have:=(po z2).1; exact ⟨by omega,(k3 z).2⟩
    ·exact ⟨.inr (by omega),(k3 z).2⟩
   ·rw[hbl,htt]; exact hlb
  by_cases o0:o<0
  ·rw[if_pos o0] at lw
   simp -implicitDefEqProofs (disch:=first|assumption|omega|(simp only[gL,gA]<;>omega)|fail) only[gC,reduceIte]
   exact fin (-1) lw
  ·rw[if_neg o0] at lw
   have bnd:=qb.bnd (n:=n) (fun x hx=>by
    obtain ⟨s,s1,s2,bb,rfl⟩:=hx
    have la:=ok.la
    have h1:=x3_ (N:=N) (S:=D.length) (v:=(t:Int)) (s:=(s:Int)) (by omega) (by omega) (by omega) (by omega) bb
    omega)
   have w2:=wh.ext e2
   have ro:=w2.row
   have gc:=w2.gc.sl
   have idc:=gc.idxG (i:=o) (by omega) (by rw[w2.lc]; omega)
   have ldc:=gc.ld0 (H:=h2) (i:=o) (Ext.refl _) (by omega) (by rw[w2.lc]; omega) (by omega)
   replace ldc:Gm.ld1 h2 (elP 1 sc o)=some (I (gi cs o)):=ldc
   have hgc:gf cs o.toNat=gi cs o:=by show gi cs ((o.toNat:Nat):Int)=_; rw[Int.toNat_of_nonneg (by omega)]
   rw[hgc] at lw
   simp -implicitDefEqProofs (disch:=first|assumption|omega|(simp only[gL,gA]<;>omega)|fail) only[gC,reduceIte,ro,idc,ldc]
   exact fin _ lw
end
section
variable {h:Heap} {N:Nat} {es:List E} {A:List Ar} {Up Dn:List (List Int)} {D:List (List Int)} {acc:List Bool} {x sD sAc tA:AV}
theorem a5q (hN:N<=100)(no:NetOk N es)(co:COk es)(xv:IxV h x N es A Up Dn)(ix:IxC N es A Up Dn)(ok:DOk D acc)(hD:Sl h 5 sD (D.map encR))(hA:Sl h 1 sAc (acc.map encB))(hn2:2*(N*D.length)<=1000000){v:Nat}(hv:v<N){ts:List Int}(hT:Sl h 1 tA (ts.map encI))(ht:∀t∈ts,0<=t/\t<N)(htl:ts.length<=1000000) :
  Tot tab e9_ [x,.agg [sD,sAc],I v,tA] h fun r h'=>Ext h h'/\∃bs:List Int,bs.length=ts.length/\Sl h' 1 r (bs.map encI)/\ManyQ es D acc v ts bs:=by
 refine WP.tot (fun k=>a6g k _ _ _ _ h) ?_
 obtain ⟨sE,sR,sA,sU,sDn,us,ds,hx,hE,hR,hAr,hU,hDn,lu,ldd,hUp,hDp⟩:=xv.ex
 have o1:=hE.one
 have o2:=hAr.one
 have o3:=hU.one
 have o4:=hDn.one
 have o5:=hD.one
 have o6:=hA.one
 obtain ⟨h1,hh1⟩:∃h1,h1=(h++[AObj.cells ⟨[I N,sE,sR,sA,sU,sDn],0,0,false⟩])++[AObj.cells ⟨[sD,sAc],0,0,false⟩]:=⟨_,rfl⟩
 have e1:Ext h h1:=by rw[hh1]; exact (Ext.push _ _).app _
 have l1:h1.length=h.length+2:=by rw[hh1]; simp
 have rx:h1[h.length]?=some (.cells ⟨[I N,sE,sR,sA,sU,sDn],0,0,false⟩):=by rw[hh1,e6_ (by simp)]; simp
 have rd:h1[h.length+1]?=some (.cells ⟨[sD,sAc],0,0,false⟩):=by rw[hh1,m6_ (by simp)]; simp
 have hr2:∀a b c d e f:AV,rdNAt 2 (some (AObj.cells ⟨[a,b,c,d,e,f],0,0,false⟩)) 0 6 0=some (.agg [a,b]):=fun _ _ _ _ _ _=>rfl
 have hr6:rdNAt 6 (some (AObj.cells ⟨[I N,sE,sR,sA,sU,sDn],0,0,false⟩)) 0 6 0=some (.agg [I N,sE,sR,sA,sU,sDn]):=rfl
 have lnT:=hT.lenG
 have hmk:∀H:Heap,mkSl [AV.int .i64 0] 1 8 (AV.int .i64 0) (I ts.length) H=some (.sl H.length 0 0 1 none 0,mkObj H []):=fun H=>a8B (l:=0) (c:=ts.length) (Int.le_refl _) (by omega) (by omega) (by omega) rfl rfl
 rw[hx]
 simp -implicitDefEqProofs (maxSteps:=1000000) (disch:=first|assumption|omega|(simp only[gL]<;>omega)|((repeat (first|exact Ext.refl _|assumption|apply Ext.app|apply Ext.mk|(refine Ext.setr ?_ (by (first|omega|(simp only[gL]<;>omega))) _))); done)|(simp only[gL,gA,o1,hR,o2,o3,o4,o5,o6,lnT]<;>omega)|fail) only[gB,setAll,partL,fldV,reduceIte,Nat.reduceAdd,Nat.reduceMul,o1,hR,o2,o3,o4,o5,o6,lnT]
 rw[<-hh1]
 rw[hmk]
 simp only[ob_some]
 have gO:=Gr.empty h1 1
 rw[a1_] at gO
 obtain ⟨h2,hh2⟩:∃h2,h2=h1++[AObj.cells ⟨[],0,0,false⟩]:=⟨_,rfl⟩
 have e2:Ext h1 h2:=by rw[hh2]; exact Ext.push _ _
 have l2:h2.length=h1.length+1:=by rw[hh2]; simp
 have rx2:=e2.get rx
 have rd2:=e2.get rd
 rw[a1_,<-hh2]
 rw[<-hh2] at gO
 simp -implicitDefEqProofs (maxSteps:=1000000) (disch:=first|assumption|omega|(simp only[gL]<;>omega)|((repeat (first|exact Ext.refl _|assumption|apply Ext.app|apply Ext.mk|(refine Ext.setr ?_ (by (first|omega|(simp only[gL]<;>omega))) _))); done)|(simp only[gL,gA,rd2]<;>omega)|fail) only[gB,setAll,partL,fldV,reduceIte,Nat.reduceAdd,Nat.reduceMul,rd2]
 have e12:=e1.trans e2
 refine WP.call (a4r ok (hD.ext e12) (hA.ext e12)) ?_
 rintro _ h3 ⟨e3,rfl⟩
 have e13:=e12.trans e3
 have rx3:=e3.get rx2
 have rd3:=e3.get rd2
 cases hst:stdyB D with
 |false=>
  simp -implicitDefEqProofs (maxSteps:=1000000) (disch:=first|assumption|omega|(simp only[gL]<;>omega)|((repeat (first|exact Ext.refl _|assumption|apply Ext.app|apply Ext.mk|(refine Ext.setr ?_ (by (first|omega|(simp only[gL]<;>omega))) _))); done)|(simp only[gL,gA,rx3,rd3,hr2]<;>omega)|fail) only[gB,setAll,partL,fldV,reduceIte,Nat.reduceAdd,Nat.reduceMul,rx3,rd3,hr2]
  refine WP.call (a7W no co (by omega) (hE.ext e13) ok (hD.ext e13) (hA.ext e13) hv) ?_
  rintro all h4 ⟨e4,c,lc,ga⟩
  have e14:=e13.trans e4
  have hT4:=hT.ext e14
  have lnT4:=hT4.lenG
  have h3l:=e3.len
  have h4l:=e4.len
  exact WP.ent (b0F (hb:=h) (b1:=h4) (oo:=h1.length) (N:=N) (es:=es) e14 (by omega) hT ga (by omega) (Nat.le_refl _) ht htl (fun u hu=>bv_lw ok no hv hu lc) ts.length 0 h4 _ h1.length [] (by omega) (FrS.refl _ _) ((gO.ext e3).ext e4) (fun _=>⟨.inl rfl,by omega⟩) rfl (fun i hi=>by simp at hi)) fun i=>rfl
 |true=>
  have sd:=a2p.1 hst
  simp -implicitDefEqProofs (maxSteps:=1000000) (disch:=first|assumption|omega|(simp only[gL]<;>omega)|((repeat (first|exact Ext.refl _|assumption|apply Ext.app|apply Ext.mk|(refine Ext.setr ?_ (by (first|omega|(simp only[gL]<;>omega))) _))); done)|(simp only[gL,gA,rx3,rd3]<;>omega)|fail) only[gB,setAll,partL,fldV,reduceIte,Nat.reduceAdd,Nat.reduceMul,rx3,rd3]
  refine WP.congr (fun i=>a4H i ..) ?_
  simp -implicitDefEqProofs (maxSteps:=1000000) (disch:=first|assumption|omega|(simp only[gL]<;>omega)|((repeat (first|exact Ext.refl _|assumption|apply Ext.app|apply Ext.mk|(refine Ext.setr ?_ (by (first|omega|(simp only[gL]<;>omega))) _))); done)|(simp only[gL,gA,rx3,rd3,hr6,lnT]<;>omega)|fail) only[gB,setAll,partL,fldV,reduceIte,Nat.reduceAdd,Nat.reduceMul,rx3,rd3,hr6,lnT]
  have xv':IxV h (.agg [I N,sE,sR,sA,sU,sDn]) N es A Up Dn:=hx▸xv
  refine WP.call (a3s e13 hN xv' ix.toIxS hD hA) ?_
  rintro wp h4 ⟨e4,wv⟩
  refine WP.call (a6d wv.wy ix.toIxS ok hN (n:=2*(N*D.length)) rfl hn2 hv) ?_
  rintro _ h5 ⟨e5,os,q,sc,se,sf,oc,oe,ov,rfl,id2,k2,rk2,cs2,ds2,fs2,M2,sw,di,hM,hk⟩
  have hvS:v*D.length<N*D.length:=by
   have:=spotN (N:=N) (v:=v) (S:=D.length) (s:=0) hv ok.l0
   simpa using this
  have lc:=di.lc (a4U ix.toIxS ok) (fun y hy=>by have:y=2*(v*D.length):=hy; omega) hM
  have h3l:=e3.len
  have h4l:=e4.len
  have h5l:=e5.len
  have e15:=(e13.trans e4).trans e5
  have lnT5:=(hT.ext e15).lenG
  exact WP.ent (b0G (hb:=h) (b1:=h5) (oo:=h1.length) (c0:=h3.length) (by omega) (by omega) hT ht htl (wv.frs (FrS.ofExt (D:=fun _=>False) e5) fun o _ z=>z.elim) ok hN rfl hn2 sw (fun o z=>by omega) (fun u o hu qb=>q_lw no co ix ok sd hv hu lc qb) ts.length 0 h5 _ h1.length [] (by omega) (FrS.refl _ _) (((gO.ext e3).ext e4).ext e5) (fun _=>⟨.inl rfl,by omega⟩) rfl (fun i hi=>by simp at hi)) fun i=>rfl
end
end Go.Gm.AQ
namespace Go.Gm.AQ
open Go Go.Gm
theorem kOkW {l:List Nat}(h:OkW kE 0 l):l=[]\/l=[0]:=by
 rcases l with _|⟨a,_|⟨b,t⟩⟩
 ·exact .inl rfl
 ·have:=(h 0 a rfl).1
  simp[kE] at this
  exact .inr (by rw[this])
 ·have h1:=(h 0 a rfl).1
  have h2:=h 1 b rfl
  simp[kE] at h1 h2
  obtain ⟨rfl,h3⟩:=h2
  subst h1
  exact absurd h3 (by decide)
theorem kLW1:LW kE 0 1 (fun w=>gi [true] (goS kD 0 w)=true) 4:=by
 refine ⟨.inr ⟨by omega,[0],?_,rfl,rfl,rfl⟩,fun l h1 h2 _=>?_⟩
 ·exact OkW.snoc (l:=[]) (fun i e h=>by simp at h) (by simp[kE]) rfl
 ·rcases kOkW h1 with rfl|rfl
  ·exact absurd h2 (by decide)
  ·exact ⟨by omega,by decide⟩
theorem kLW0:LW kE 0 0 (fun w=>gi [true] (goS kD 0 w)=true) 0:=by
 refine ⟨.inr ⟨by omega,[],?_,rfl,rfl,rfl⟩,fun l h1 h2 _=>?_⟩
 ·exact fun i e h=>by simp at h
 ·rcases kOkW h1 with rfl|rfl
  ·exact ⟨by omega,by decide⟩
  ·exact absurd h2 (by decide)
section
variable {h:Heap} {A:List Ar} {Up Dn:List (List Int)} {x sD sAc tA:AV}
theorem kqRoute (xv:IxV h x 2 kE A Up Dn)(ix:IxC 2 kE A Up Dn)(hD:Sl h 5 sD (kD.map encR))(hA:Sl h 1 sAc ([true].map encB)) :
  Tot tab g3_ [x,.agg [sD,sAc],I 0,I 1] h fun r h'=>Ext h h'/\∃sl,r=.tup [.agg [I 4,sl],.bool true]/\Sl h' 1 sl [[I 0]]:=by
 refine (a4s (N:=2) (v:=0) (u:=1) (by omega) kNet kCo xv ix kDok hD hA (by simp[kD]) (by omega) (by omega)).mono ?_
 rintro r h' ⟨e,b,lw,rq⟩
 obtain rfl:=lw.uniq kLW1
 refine ⟨e,?_⟩
 rcases rq with ⟨q,_⟩|⟨_,sl,ll,q2,q3,q4,q5,q6,_⟩
 ·omega
 ·rcases kOkW q5 with rfl|rfl
  ·exact absurd q6 (by decide)
  ·exact ⟨sl,q2,q3⟩
theorem kqMany (xv:IxV h x 2 kE A Up Dn)(ix:IxC 2 kE A Up Dn)(hD:Sl h 5 sD (kD.map encR))(hA:Sl h 1 sAc ([true].map encB))(hT:Sl h 1 tA [[I 1],[I 0]]) :
  Tot tab e9_ [x,.agg [sD,sAc],I 0,tA] h fun r h'=>Ext h h'/\Sl h' 1 r ([(4:Int),0].map encI):=by
 refine (a5q (N:=2) (v:=0) (ts:=[1,0]) (by omega) kNet kCo xv ix kDok hD hA (by simp[kD]) (by omega) hT (by simp) (by simp)).mono ?_
 rintro r h' ⟨e,bs,hb,sl,m⟩
 refine ⟨e,?_⟩
 match bs,hb with
 |[a,b],_=>
  have h1:=m 0 (by simp)
  have h2:=m 1 (by simp)
  have e1:gi [a,b] 0=4:=h1.uniq kLW1
  have e2:gi [a,b] 1=0:=h2.uniq kLW0
  obtain rfl:a=4:=e1
  obtain rfl:b=0:=e2
  exact sl
theorem kqMany0 (xv:IxV h x 2 kE A Up Dn)(ix:IxC 2 kE A Up Dn)(hD:Sl h 5 sD (kD.map encR))(hA:Sl h 1 sAc ([true].map encB)) :
  Tot tab e9_ [x,.agg [sD,sAc],I 0,.nils] h fun r h'=>Ext h h'/\Sl h' 1 r []:=by
 refine (a5q (N:=2) (v:=0) (ts:=[]) (by omega) kNet kCo xv ix kDok hD hA (by simp[kD]) (by omega) (.inl ⟨rfl,rfl⟩) (by simp) (by simp)).mono ?_
 rintro r h' ⟨e,bs,hb,sl,m⟩
 obtain rfl:=List.eq_nil_of_length_eq_zero hb
 exact ⟨e,sl⟩
end
theorem a6V (h:Heap):Tot tab p8_ [] h fun r h'=>r=.bool true/\Ext h h':=by
 refine WP.tot (fun k=>a1U k h) ?_
 simp -implicitDefEqProofs (maxSteps:=1000000) (disch:=first|assumption|omega|(simp only[gL]<;>omega)|((repeat (first|exact Ext.refl _|assumption|apply Ext.app|apply Ext.mk|(refine Ext.setr ?_ (by (first|omega|(simp only[gL]<;>omega))) _))); done)|(simp only[gL,gA]<;>omega)|fail) only[gB,setAll,partL,fldV,reduceIte,Nat.reduceAdd,Nat.reduceMul]
 obtain ⟨h1,hh1⟩:∃h1,h1=h++[AObj.cells ⟨[AV.int .i64 0,AV.int .i64 1,AV.int .i64 0,AV.int .i64 4],0,0,false⟩]:=⟨_,rfl⟩
 have e1:Ext h h1:=by rw[hh1]; ((repeat (first|exact Ext.refl _|assumption|apply Ext.app|apply Ext.mk|(refine Ext.setr ?_ (by (first|omega|(simp only[gL]<;>omega))) _))))
 have r0:h1[h.length]?=some (.cells ⟨encE ⟨0,1,0,4⟩,0,0,false⟩):=by rw[hh1]; simp -implicitDefEqProofs (maxSteps:=1000000) (disch:=first|assumption|omega|(simp only[gL]<;>omega)|((repeat (first|exact Ext.refl _|assumption|apply Ext.app|apply Ext.mk|(refine Ext.setr ?_ (by (first|omega|(simp only[gL]<;>omega))) _))); done)|(simp only[gL,gA]<;>omega)|fail) only[gB,setAll,partL,fldV,reduceIte,Nat.reduceAdd,Nat.reduceMul]; try rfl
 have hs:Sl h1 4 (.sl h.length 0 1 4 none 0) (kE.map encE):=a6N r0 rfl
 rw[<-hh1]
 refine WP.call (a4q (N:=2) (by omega) kNet kCo hs) ?_
 rintro x h2 ⟨e2,A,Up,Dn,xv,ix⟩
 obtain ⟨sE,sR,sA,sU,sDn,us,ds,hx,hE,hR,hAr,hU,hDn,lu,ldd,hUp,hDp⟩:=xv.ex
 have o1:=hE.one
 have o2:=hAr.one
 have o3:=hU.one
 have o4:=hDn.one
 have hr6:rdNAt 6 (some (AObj.cells ⟨[I (2:Nat),sE,sR,sA,sU,sDn],0,0,false⟩)) 0 6 0=some (.agg [I (2:Nat),sE,sR,sA,sU,sDn]):=rfl
 have hr2:∀a b:AV,rdNAt 2 (some (AObj.cells ⟨[a,b],0,0,false⟩)) 0 2 0=some (.agg [a,b]):=fun _ _=>rfl
 rw[hx]
 simp -implicitDefEqProofs (maxSteps:=1000000) (disch:=first|assumption|omega|(simp only[gL]<;>omega)|((repeat (first|exact Ext.refl _|assumption|apply Ext.app|apply Ext.mk|(refine Ext.setr ?_ (by (first|omega|(simp only[gL]<;>omega))) _))); done)|(simp only[gL,gA,o1,hR,o2,o3,o4]<;>omega)|fail) only[gB,setAll,partL,fldV,reduceIte,Nat.reduceAdd,Nat.reduceMul,o1,hR,o2,o3,o4]
 obtain ⟨h3,hh3⟩:∃h3,h3=(List.set (List.set (h2++[AObj.cells ⟨[AV.int .i64 0,.nils,.nils,.nils,.nils,.nils],0,0,false⟩]) h2.length (AObj.cells ⟨[I (2:Nat),sE,sR,sA,sU,sDn],0,0,false⟩) ++
   [AObj.cells ⟨[AV.int .i64 0,AV.int .i64 0,AV.int .i64 0,AV.int .i64 0,AV.int .i64 0],0,0,false⟩]++[AObj.cells ⟨[AV.bool true],0,0,false⟩]++[AObj.cells ⟨[.nils,.nils],0,0,false⟩])
   (h2.length+1+1+1) (AObj.cells ⟨[AV.sl (h2.length+1) 0 1 5 none 0,AV.sl (h2.length+1+1) 0 1 1 none 0],0,0,false⟩)):=⟨_,rfl⟩
 have e3:Ext h2 h3:=by rw[hh3]; ((repeat (first|exact Ext.refl _|assumption|apply Ext.app|apply Ext.mk|(refine Ext.setr ?_ (by (first|omega|(simp only[gL]<;>omega))) _))))
 have r1:h3[h2.length]?=some (.cells ⟨[I (2:Nat),sE,sR,sA,sU,sDn],0,0,false⟩):=by rw[hh3]; simp -implicitDefEqProofs (maxSteps:=1000000) (disch:=first|assumption|omega|(simp only[gL]<;>omega)|((repeat (first|exact Ext.refl _|assumption|apply Ext.app|apply Ext.mk|(refine Ext.setr ?_ (by (first|omega|(simp only[gL]<;>omega))) _))); done)|(simp only[gL,gA]<;>omega)|fail) only[gB,setAll,partL,fldV,reduceIte,Nat.reduceAdd,Nat.reduceMul]; try rfl
 have r2:h3[h2.length+1]?=some (.cells ⟨encR [0,0,0,0,0],0,0,false⟩):=by rw[hh3]; simp -implicitDefEqProofs (maxSteps:=1000000) (disch:=first|assumption|omega|(simp only[gL]<;>omega)|((repeat (first|exact Ext.refl _|assumption|apply Ext.app|apply Ext.mk|(refine Ext.setr ?_ (by (first|omega|(simp only[gL]<;>omega))) _))); done)|(simp only[gL,gA]<;>omega)|fail) only[gB,setAll,partL,fldV,reduceIte,Nat.reduceAdd,Nat.reduceMul]; try rfl
 have r3:h3[h2.length+1+1]?=some (.cells ⟨encB true,0,0,false⟩):=by rw[hh3]; simp -implicitDefEqProofs (maxSteps:=1000000) (disch:=first|assumption|omega|(simp only[gL]<;>omega)|((repeat (first|exact Ext.refl _|assumption|apply Ext.app|apply Ext.mk|(refine Ext.setr ?_ (by (first|omega|(simp only[gL]<;>omega))) _))); done)|(simp only[gL,gA]<;>omega)|fail) only[gB,setAll,partL,fldV,reduceIte,Nat.reduceAdd,Nat.reduceMul]; try rfl
 have r4:h3[h2.length+1+1+1]?=some (.cells ⟨[AV.sl (h2.length+1) 0 1 5 none 0,AV.sl (h2.length+1+1) 0 1 1 none 0],0,0,false⟩):=by rw[hh3]; simp -implicitDefEqProofs (maxSteps:=1000000) (disch:=first|assumption|omega|(simp only[gL]<;>omega)|((repeat (first|exact Ext.refl _|assumption|apply Ext.app|apply Ext.mk|(refine Ext.setr ?_ (by (first|omega|(simp only[gL]<;>omega))) _))); done)|(simp only[gL,gA]<;>omega)|fail) only[gB,setAll,partL,fldV,reduceIte,Nat.reduceAdd,Nat.reduceMul]; try rfl
 have hD:Sl h3 5 (.sl (h2.length+1) 0 1 5 none 0) (kD.map encR):=a6N r2 rfl
 have hA:Sl h3 1 (.sl (h2.length+1+1) 0 1 1 none 0) ([true].map encB):=a6N r3 rfl
 have xv3:=(hx▸xv:IxV h2 (.agg [I (2:Nat),sE,sR,sA,sU,sDn]) 2 kE A Up Dn).ext e3
 rw[<-hh3]
 refine WP.call (kqRoute xv3 ix hD hA) ?_
 rintro _ h4 ⟨e4,sl,rfl,hsl⟩
 have r14:=e4.get r1
 have r44:=e4.get r4
 have b1:=(List.getElem?_eq_some_iff.1 r14).1
 have b4:=(List.getElem?_eq_some_iff.1 r44).1
 simp -implicitDefEqProofs (maxSteps:=1000000) (disch:=first|assumption|omega|(simp only[gL]<;>omega)|((repeat (first|exact Ext.refl _|assumption|apply Ext.app|apply Ext.mk|(refine Ext.setr ?_ (by (first|omega|(simp only[gL]<;>omega))) _))); done)|(simp only[gL,gA,b5_,b6_,hsl.one,hsl.cells,r14,r44,hr6,hr2]<;>omega)|fail) only[gB,setAll,partL,fldV,reduceIte,Nat.reduceAdd,Nat.reduceMul,b5_,b6_,hsl.one,hsl.cells,r14,r44,hr6,hr2]
 obtain ⟨h5,hh5⟩:∃h5,h5=((h4++[AObj.cells ⟨[AV.int .i64 0,.nils],0,0,false⟩]).set h4.length (.cells ⟨[I 4,sl],0,0,false⟩))++[AObj.cells ⟨[AV.int .i64 1,AV.int .i64 0],0,0,false⟩]:=⟨_,rfl⟩
 have e5:Ext h4 h5:=by rw[hh5]; ((repeat (first|exact Ext.refl _|assumption|apply Ext.app|apply Ext.mk|(refine Ext.setr ?_ (by (first|omega|(simp only[gL]<;>omega))) _))))
 have q5:h5[h4.length]?=some (.cells ⟨[I 4,sl],0,0,false⟩):=by rw[hh5]; simp -implicitDefEqProofs (maxSteps:=1000000) (disch:=first|assumption|omega|(simp only[gL]<;>omega)|((repeat (first|exact Ext.refl _|assumption|apply Ext.app|apply Ext.mk|(refine Ext.setr ?_ (by (first|omega|(simp only[gL]<;>omega))) _))); done)|(simp only[gL,gA]<;>omega)|fail) only[gB,setAll,partL,fldV,reduceIte,Nat.reduceAdd,Nat.reduceMul]; try rfl
 have t5:h5[h4.length+1]?=some (.cells ⟨[I 1,I 0],0,0,false⟩):=by rw[hh5]; simp -implicitDefEqProofs (maxSteps:=1000000) (disch:=first|assumption|omega|(simp only[gL]<;>omega)|((repeat (first|exact Ext.refl _|assumption|apply Ext.app|apply Ext.mk|(refine Ext.setr ?_ (by (first|omega|(simp only[gL]<;>omega))) _))); done)|(simp only[gL,gA]<;>omega)|fail) only[gB,setAll,partL,fldV,reduceIte,Nat.reduceAdd,Nat.reduceMul]; try rfl
 have hT:Sl h5 1 (.sl (h4.length+1) 0 2 1 none 0) [[I 1],[I 0]]:=.inr ⟨_,0,none,0,_,rfl,t5,Nat.le_refl _,rfl,by simp⟩
 have e45:=e4.trans e5
 rw[<-hh5]
 refine WP.call (kqMany (xv3.ext e45) ix (hD.ext e45) (hA.ext e45) hT) ?_
 rintro m2 h6 ⟨e6,z6⟩
 have r16:=(e5.trans e6).get r14
 have r46:=(e5.trans e6).get r44
 simp -implicitDefEqProofs (maxSteps:=1000000) (disch:=first|assumption|omega|(simp only[gL]<;>omega)|((repeat (first|exact Ext.refl _|assumption|apply Ext.app|apply Ext.mk|(refine Ext.setr ?_ (by (first|omega|(simp only[gL]<;>omega))) _))); done)|(simp only[gL,gA,r16,r46,hr6,hr2]<;>omega)|fail) only[gB,setAll,partL,fldV,reduceIte,Nat.reduceAdd,Nat.reduceMul,r16,r46,hr6,hr2]
 have e46:=e45.trans e6
 refine WP.call (kqMany0 (xv3.ext e46) ix (hD.ext e46) (hA.ext e46)) ?_
 rintro m0 h7 ⟨e7,z7⟩
 have q7:=(e6.trans e7).get q5
 have l7:=z7.len
 have ls:=hsl.len
 simp only[List.length_nil,List.length_cons] at l7 ls
 have z67:=z6.ext e7
 have g0:gi [(4:Int),0] 0=4:=rfl
 have g1:gi [(4:Int),0] 1=0:=rfl
 simp -implicitDefEqProofs (maxSteps:=1000000) (disch:=first|assumption|omega|(simp only[gL]<;>omega)|((repeat (first|exact Ext.refl _|assumption|apply Ext.app|apply Ext.mk|(refine Ext.setr ?_ (by (first|omega|(simp only[gL]<;>omega))) _))); done)|(simp only[gL,gA,q7,l7,ls,z67.lenG,z67.idxG,z67.ld0,g0,g1,encI]<;>omega)|fail) only[gB,setAll,partL,fldV,reduceIte,Nat.reduceAdd,Nat.reduceMul,q7,l7,ls,z67.lenG,z67.idxG,z67.ld0,g0,g1,encI]
 exact WP.ret ⟨rfl,((((e1.trans e2).trans e3).trans e46)).trans e7⟩
end Go.Gm.AQ
namespace Go.Gm.AQ
open Go Go.Gm
theorem a6k {a n:Int}(hn:0<n)(hf:Fit n)(h:Heap):Tot tab n8_ [I a,I n] h fun v h'=>v=I (a % n)/\h=h':=by
 refine WP.tot (fun k=>a1K k _ _ h) ?_
 refine WP.oa (a3T a n (by omega)) ?_
 refine WP.oa (a2D _ _) ?_
 have hlt:=Int.tmod_lt_of_pos a hn
 have hgt:=Int.lt_tmod_of_pos a hn
 have h1:=Int.tmod_eq_emod (a:=a) (b:=n)
 have h2:=Int.emod_nonneg a (by omega:n≠0)
 have h3:=Int.emod_lt_of_pos a hn
 by_cases h0:a.tmod n<0
 ·simp only[decide_eq_true h0,cond2_true]
  refine WP.oa (a3S _ _ (by unfold Fit at *; omega)) (WP.ret ⟨?_,rfl⟩)
  congr 1
  split at h1<;>omega
 ·simp only[decide_eq_false h0,cond2_false]
  refine WP.ret ⟨?_,rfl⟩
  congr 1
  split at h1<;>omega
set_option maxHeartbeats 2000000 in
theorem a7g {h0:Heap} {N on od ox v:Nat} {s sX sD sA xcs sR sAr sU sDn:AV} {es:List E} {A:List Ar} {Up Dn:List (List Int)} {D:List (List Int)} {acc:List Bool} {c:Nat->Int} (hN100:N<=100) (no:NetOk N es) (co:COk es) (xv:IxV h0 (.agg [I N,sX,sR,sAr,sU,sDn]) N es A Up Dn) (ix:IxC N es A Up Dn) (hn2:2*(N*D.length)*(N+1)<=1000000) (ok:DOk D acc) (hvN:v<N)
  (hE:Sl h0 4 s (es.map encE)) (hD:Sl h0 5 sD (D.map encR)) (hA:Sl h0 1 sA (acc.map encB)) (rn:h0[on]?=some (.cells ⟨[I N,s],0,0,false⟩)) (rd:h0[od]?=some (.cells ⟨[sD,sA],0,0,false⟩)) (rx:h0[ox]?=some (.cells ⟨[I N,sX,sR,sAr,sU,sDn],0,0,false⟩))
  (lc:LC (N*D.length) (hopA es D.length (onL es D)) (fun x=>x=v*D.length) c) (xc:Sl h0 1 xcs ((costL N D.length c acc).map encI)) :
  ∀(d u:Nat) (h:Heap),u+d=N->Ext h0 h->WP (fun p:Nat × Nat=>i2_ p.1 p.2 (I v) (.ptr on 0 2 0) (.ptr od 0 2 0) (.ptr ox 0 6 0) xcs (I u) h) fun r h'=>r=.bool true/\Ext h0 h':=by
 intro d
 induction d with
 |zero=>
  intro u h hu e
  refine WP.rnd (fun i' j=>r9_ i' j ..) ?_
  have rn0:=e.get rn
  simp -implicitDefEqProofs (maxSteps:=1000000) (disch:=first|assumption|omega|(simp only[gL]<;>omega)|((repeat (first|exact Ext.refl _|assumption|apply Ext.app|apply Ext.mk|(refine Ext.setr ?_ (by (first|omega|(simp only[gL]<;>omega))) _))); done)|(simp only[gL,gA,rn0]<;>omega)|fail) only[gB,setAll,partL,fldV,reduceIte,Nat.reduceAdd,Nat.reduceMul,rn0]
  exact WP.ret ⟨rfl,e⟩
 |succ d ih=>
  intro u h hu e
  refine WP.rnd (fun i' j=>r9_ i' j ..) ?_
  have rn0:=e.get rn
  have rd0:=e.get rd
  have rx0:=e.get rx
  have huN:u<N:=by omega
  have hN:=no.n1
  have hcl:=a0R N D.length c acc
  have hcg:=a4M (S:=D.length) (c:=c) (acc:=acc) huN
  obtain ⟨B,hB⟩:∃B,bv c acc (u*D.length) D.length=B:=⟨_,rfl⟩
  have lw:=bv_lw ok no hvN huN lc
  rw[hB] at lw hcg
  have hr6:rdNAt 6 (some (AObj.cells ⟨[I N,sX,sR,sAr,sU,sDn],0,0,false⟩)) 0 6 0=some (.agg [I N,sX,sR,sAr,sU,sDn]):=rfl
  simp -implicitDefEqProofs (maxSteps:=1000000) (disch:=first|assumption|omega|(simp only[gL]<;>omega)|((repeat (first|exact Ext.refl _|assumption|apply Ext.app|apply Ext.mk|(refine Ext.setr ?_ (by (first|omega|(simp only[gL]<;>omega))) _))); done)|(simp only[gL,gA,rn0,rd0,rx0,hr6]<;>omega)|fail) only[gB,setAll,partL,fldV,reduceIte,Nat.reduceAdd,Nat.reduceMul,rn0,rd0,rx0,hr6]
  refine WP.call (a4s hN100 no co (xv.ext e) ix ok (hD.ext e) (hA.ext e) hn2 hvN huN) ?_
  rintro rr h6 ⟨e6,b,lw6,rq⟩
  obtain rfl:=lw.uniq lw6
  have rn6:=e6.get rn0
  have rd6:=e6.get rd0
  have bn6:=(List.getElem?_eq_some_iff.1 rn6).1
  have bd6:=(List.getElem?_eq_some_iff.1 rd6).1
  have hn:=fun H eH=>ih (u+1) H (by omega) ((e.trans e6).trans eH)
  rcases rq with ⟨c0,rfl⟩|⟨c0,sl,ll,rfl,hsl,hll,ow,hu',hac,hc⟩
  ·simp -implicitDefEqProofs (maxSteps:=1000000) (disch:=first|assumption|omega|(simp only[gL]<;>omega)|((repeat (first|exact Ext.refl _|assumption|apply Ext.app|apply Ext.mk|(refine Ext.setr ?_ (by (first|omega|(simp only[gL]<;>omega))) _))); done)|(simp only[gL,gA,b5_,b6_,rn6,rd6]<;>omega)|fail) only[gB,setAll,partL,fldV,reduceIte,Nat.reduceAdd,Nat.reduceMul,b5_,b6_,rn6,rd6]
   obtain ⟨h7,hh7⟩:∃h7,h7=((h6++[AObj.cells ⟨[AV.int .i64 0,.nils],0,0,false⟩]).set h6.length (.cells ⟨[I 0,.nils],0,0,false⟩)):=⟨_,rfl⟩
   have e7:Ext h6 h7:=by rw[hh7]; ((repeat (first|exact Ext.refl _|assumption|apply Ext.app|apply Ext.mk|(refine Ext.setr ?_ (by (first|omega|(simp only[gL]<;>omega))) _))))
   have r7:h7[h6.length]?=some (.cells ⟨[I 0,.nils],0,0,false⟩):=by rw[hh7]; exact a0_ (by simp)
   have xc7:=xc.ext ((e.trans e6).trans e7)
   rw[<-hh7]
   have hneg:¬0<=B:=by omega
   simp -implicitDefEqProofs (maxSteps:=1000000) (disch:=first|assumption|omega|(simp only[gL]<;>omega)|((repeat (first|exact Ext.refl _|assumption|apply Ext.app|apply Ext.mk|(refine Ext.setr ?_ (by (first|omega|(simp only[gL]<;>omega))) _))); done)|(simp only[gL,gA,xc7.idxG,xc7.ld0,hcl,encI,hcg,decide_eq_false hneg,neq_b,r7]<;>omega)|fail) only[gB,setAll,partL,fldV,reduceIte,Nat.reduceAdd,Nat.reduceMul,xc7.idxG,xc7.ld0,hcl,encI,hcg,decide_eq_false hneg,neq_b,r7]
   exact hn h7 e7
  ·simp -implicitDefEqProofs (maxSteps:=1000000) (disch:=first|assumption|omega|(simp only[gL]<;>omega)|((repeat (first|exact Ext.refl _|assumption|apply Ext.app|apply Ext.mk|(refine Ext.setr ?_ (by (first|omega|(simp only[gL]<;>omega))) _))); done)|(simp only[gL,gA,b5_,b6_,hsl.one,hsl.cells,rn6,rd6]<;>omega)|fail) only[gB,setAll,partL,fldV,reduceIte,Nat.reduceAdd,Nat.reduceMul,b5_,b6_,hsl.one,hsl.cells,rn6,rd6]
   obtain ⟨h7,hh7⟩:∃h7,h7=((h6++[AObj.cells ⟨[AV.int .i64 0,.nils],0,0,false⟩]).set h6.length (.cells ⟨[I B,sl],0,0,false⟩)):=⟨_,rfl⟩
   have e7:Ext h6 h7:=by rw[hh7]; ((repeat (first|exact Ext.refl _|assumption|apply Ext.app|apply Ext.mk|(refine Ext.setr ?_ (by (first|omega|(simp only[gL]<;>omega))) _))))
   have r7:h7[h6.length]?=some (.cells ⟨[I B,sl],0,0,false⟩):=by rw[hh7]; exact a0_ (by simp)
   have e07:=(e.trans e6).trans e7
   have rn7:=e7.get rn6
   have rd7:=e7.get rd6
   have xc7:=xc.ext e07
   rw[<-hh7]
   simp -implicitDefEqProofs (maxSteps:=1000000) (disch:=first|assumption|omega|(simp only[gL]<;>omega)|((repeat (first|exact Ext.refl _|assumption|apply Ext.app|apply Ext.mk|(refine Ext.setr ?_ (by (first|omega|(simp only[gL]<;>omega))) _))); done)|(simp only[gL,gA,xc7.idxG,xc7.ld0,hcl,encI,hcg,decide_eq_true c0,neq_b,r7,rn7,rd7]<;>omega)|fail) only[gB,setAll,partL,fldV,reduceIte,Nat.reduceAdd,Nat.reduceMul,xc7.idxG,xc7.ld0,hcl,encI,hcg,decide_eq_true c0,neq_b,r7,rn7,rd7]
   refine WP.call (a8c no co ok (hE.ext e07) (hD.ext e07) (hA.ext e07) (hsl.ext e7) hll hvN huN ow hu' hc hac) ?_
   rintro _ h8 ⟨rfl,e8⟩
   simp -implicitDefEqProofs (maxSteps:=1000000) (disch:=first|assumption|omega|(simp only[gL]<;>omega)|((repeat (first|exact Ext.refl _|assumption|apply Ext.app|apply Ext.mk|(refine Ext.setr ?_ (by (first|omega|(simp only[gL]<;>omega))) _))); done)|(simp only[gL,gA]<;>omega)|fail) only[gB,setAll,partL,fldV,reduceIte,Nat.reduceAdd,Nat.reduceMul]
   exact hn h8 (e7.trans e8)
theorem a6l {h:Heap}{N v:Nat}{s sD sA:AV}{es:List E}{D:List (List Int)}{acc:List Bool}(hN:1<=N/\N<=100)(no:NetOk N es)(co:COk es)(hn2:2*(N*D.length)*(N+1)<=1000000)(ok:DOk D acc)(hvN:v<N)(hE:Sl h 4 s (es.map encE))(hD:Sl h 5 sD (D.map encR))(hA:Sl h 1 sA (acc.map encB)) :
  Tot tab i5_ [.agg [I N,s],.agg [sD,sA],I v] h fun r h'=>r=.bool true/\Ext h h':=by
 refine WP.tot (fun k=>a1J k _ _ _ h) ?_
 obtain ⟨h1,hh1⟩:∃h1,h1=(h++[AObj.cells ⟨[I N,s],0,0,false⟩])++[AObj.cells ⟨[sD,sA],0,0,false⟩]:=⟨_,rfl⟩
 have e1:Ext h h1:=by rw[hh1]; ((repeat (first|exact Ext.refl _|assumption|apply Ext.app|apply Ext.mk|(refine Ext.setr ?_ (by (first|omega|(simp only[gL]<;>omega))) _))))
 have rn:h1[h.length]?=some (.cells ⟨[I N,s],0,0,false⟩):=by rw[hh1]; simp
 have rd:h1[h.length+1]?=some (.cells ⟨[sD,sA],0,0,false⟩):=by rw[hh1]; simp
 simp -implicitDefEqProofs (maxSteps:=1000000) (disch:=first|assumption|omega|(simp only[gL]<;>omega)|((repeat (first|exact Ext.refl _|assumption|apply Ext.app|apply Ext.mk|(refine Ext.setr ?_ (by (first|omega|(simp only[gL]<;>omega))) _))); done)|(simp only[gL,gA,hE.one,hE.cells,hD.one,hD.cells,hA.one,hA.cells]<;>omega)|fail) only[gB,setAll,partL,fldV,reduceIte,Nat.reduceAdd,Nat.reduceMul,hE.one,hE.cells,hD.one,hD.cells,hA.one,hA.cells]
 rw[<-hh1]
 refine WP.call (a4q hN no co (hE.ext e1)) ?_
 rintro x h2 ⟨e2,A,Up,Dn,xv,ix⟩
 obtain ⟨sE,sR,sAr,sU,sDn,us,ds,hx,hE2,hR,hAr,hU,hDn,lu,ldd,hUp,hDp⟩:=xv.ex
 have o1:=hE2.one
 have o2:=hAr.one
 have o3:=hU.one
 have o4:=hDn.one
 have rn2:=e2.get rn
 have rd2:=e2.get rd
 have bn:=(List.getElem?_eq_some_iff.1 rn2).1
 have bd:=(List.getElem?_eq_some_iff.1 rd2).1
 rw[hx]
 simp -implicitDefEqProofs (maxSteps:=1000000) (disch:=first|assumption|omega|(simp only[gL]<;>omega)|((repeat (first|exact Ext.refl _|assumption|apply Ext.app|apply Ext.mk|(refine Ext.setr ?_ (by (first|omega|(simp only[gL]<;>omega))) _))); done)|(simp only[gL,gA,o1,hR,o2,o3,o4,rn2,rd2]<;>omega)|fail) only[gB,setAll,partL,fldV,reduceIte,Nat.reduceAdd,Nat.reduceMul,o1,hR,o2,o3,o4,rn2,rd2]
 obtain ⟨h3,hh3⟩:∃h3,h3=(h2++[AObj.cells ⟨[AV.int .i64 0,.nils,.nils,.nils,.nils,.nils],0,0,false⟩]).set h2.length (AObj.cells ⟨[I N,sE,sR,sAr,sU,sDn],0,0,false⟩):=⟨_,rfl⟩
 have e3:Ext h2 h3:=by rw[hh3]; ((repeat (first|exact Ext.refl _|assumption|apply Ext.app|apply Ext.mk|(refine Ext.setr ?_ (by (first|omega|(simp only[gL]<;>omega))) _))))
 have rx3:h3[h2.length]?=some (.cells ⟨[I N,sE,sR,sAr,sU,sDn],0,0,false⟩):=by rw[hh3]; exact a0_ (by simp)
 have e13:=(e1.trans e2).trans e3
 have hn3:N*D.length<=1000000:=by
  have h1:2*(N*D.length)<=2*(N*D.length)*(N+1):=Nat.le_mul_of_pos_right _ (by omega)
  omega
 have xv':IxV h2 (.agg [I N,sE,sR,sAr,sU,sDn]) N es A Up Dn:=hx▸xv
 rw[<-hh3]
 refine WP.call (a7b no co hn3 (hE.ext e13) ok (hD.ext e13) (hA.ext e13) hvN) ?_
 rintro xcs h4 ⟨e4,c,lc,g4⟩
 have e14:=e13.trans e4
 exact WP.ent ((a7g (h0:=h4) hN.2 no co (xv'.ext (e3.trans e4)) ix hn2 ok hvN (hE.ext e14) (hD.ext e14) (hA.ext e14) (e4.get (e3.get rn2)) (e4.get (e3.get rd2)) (e4.get rx3) lc g4.sl N 0 h4 (by omega) (Ext.refl _)).mono fun r h' q=>⟨q.1,e14.trans q.2⟩) fun i=>rfl
theorem DOk.wr {D:List (List Int)}{acc:List Bool}(ok:DOk D acc){s m:Nat}{x:Int}(s1:s<D.length)(m1:m<5)(x0:0<=x)(x1:x<D.length):DOk (D.set s ((gi D s).set m x)) acc:=by
 have hr:=ok.row s (by omega) (by omega)
 refine ⟨by simpa using ok.l0,by simpa using ok.l1,by simpa using ok.la,fun t t0 t1=>?_,fun t k t0 t1 k0 k1=>?_⟩
 ·obtain ⟨t,rfl⟩:∃t':Nat,t=t':=⟨t.toNat,by omega⟩
  simp only[List.length_set] at t1
  rw[giset2 s1]
  split
  ·rw[List.length_set]; exact hr
  ·exact ok.row _ t0 t1
 ·obtain ⟨t,rfl⟩:∃t':Nat,t=t':=⟨t.toNat,by omega⟩
  obtain ⟨k,rfl⟩:∃k':Nat,k=k':=⟨k.toNat,by omega⟩
  simp only[List.length_set] at t1 ⊢
  rw[giset2 s1]
  split
  ·rename_i q
   rw[giset2 (by omega)]
   split
   ·exact ⟨x0,x1⟩
   ·exact ok.to _ _ (by omega) (by omega) k0 k1
  ·exact ok.to _ _ t0 t1 k0 k1
theorem b0H {lo hi lo' hi':Nat}{h:Heap}{sD sA:AV}{D:List (List Int)}{acc:List Bool}(ok:DOk D acc)(a:Gr lo hi h 5 sD (D.map encR))(b:Gr lo' hi' h 1 sA (acc.map encB)):∃oD oA,oD≠oA/\lo<=oD/\oD<hi/\oD<h.length/\lo'<=oA/\oA<hi'/\oA<h.length/\Gr oD (oD+1) h 5 sD (D.map encR)/\Gr oA (oA+1) h 1 sA (acc.map encB):=by
 have l0:=ok.l0
 have la:=ok.la
 obtain ⟨d,t,hd⟩:=List.exists_cons_of_ne_nil (l:=D) (fun z=>by simp[z] at l0)
 obtain ⟨c,u,hc⟩:=List.exists_cons_of_ne_nil (l:=acc) (fun z=>by simp[z] at la; omega)
 have r0:=ok.row 0 (by omega) (by omega)
 rw[hd] at r0
 have r1:d.length=5:=r0
 obtain ⟨x,y,hx⟩:=List.exists_cons_of_ne_nil (l:=d) (fun z=>by simp[z] at r1)
 have nD:=a.nnil (by simp[hd])
 have nA:=b.nnil (by simp[hc])
 obtain ⟨oD,p1,p2⟩:=a.point
 obtain ⟨oA,q1,q2⟩:=b.point
 refine ⟨oD,oA,?_,(p1 nD).1,(p1 nD).2.1,(p1 nD).2.2,(q1 nA).1,(q1 nA).2.1,(q1 nA).2.2,p2,q2⟩
 rintro rfl
 rcases p2 with ⟨z,_⟩|⟨o,g,wg,cs,k1,k2,rfl,k4,k5,k6,k7⟩
 ·exact nD z
 rcases q2 with ⟨z,_⟩|⟨o',g',wg',cs',j1,j2,rfl,j4,j5,j6,j7⟩
 ·exact nA z
 obtain rfl:o=o':=by omega
 have jj:=Option.some.inj (k4.symm.trans j4)
 injection jj with jj
 injection jj with jj
 subst jj
 have h1:=congrArg (fun l=>l[0]?) k6
 have h2:=congrArg (fun l=>l[0]?) j6
 simp[hd,hx,hc,encR,encB,List.getElem?_take] at h1 h2
 rw[h1] at h2
 simp[I] at h2
structure RI (hb:Heap) (oD n:Nat) (sD:AV) (acc:List Bool) (h:Heap) (D:List (List Int)):Prop where
 fr:FrS (fun o=>o=oD) hb h
 g:Gr oD (oD+1) h 5 sD (D.map encR)
 ok:DOk D acc
 ln:D.length=n
theorem b1i {hb:Heap}{oD on od n i:Nat}{frm:Int}{sD sA:AV}{acc:List Bool}{Q:AV->Heap->Prop}(rd:hb[od]?=some (.cells ⟨[sD,sA],0,0,false⟩))(hod:od≠oD)(hi:i<n)(hQ:∀h D,RI hb oD n sD acc h D->WP (fun p:Nat × Nat=>c7_ p.1 p.2 (I frm) (.ptr on 0 2 0) (.ptr od 0 2 0) (I (i+1)) h) Q) :
  ∀(d m:Nat) (h:Heap) (D:List (List Int)),m+d=5->RI hb oD n sD acc h D->WP (fun p:(Nat × Nat) × Nat=>g4_ p.1.1 p.1.2 p.2 (I frm) (.ptr on 0 2 0) (.ptr od 0 2 0) (I i) (I m) h) Q:=by
 have bd:=(List.getElem?_eq_some_iff.1 rd).1
 intro d
 induction d with
 |zero=>
  intro m h D hm w
  refine WP.rnd (fun i' j=>q4_ i'.1 i'.2 j ..) ?_
  obtain rfl:m=5:=by omega
  have hl:=w.ok.l1
  have ln:=w.ln
  simp -implicitDefEqProofs (disch:=first|assumption|omega|(simp only[gL,gA]<;>omega)|fail) only[gC,reduceIte]
  have hb3:WP (fun p:Nat × Nat=>l9_ p.1 p.2 (I frm) (.ptr on 0 2 0) (.ptr od 0 2 0) (I i) h) Q:=by
   refine WP.congr (fun p=>a0p p.1 p.2 ..) ?_
   simp -implicitDefEqProofs (disch:=first|assumption|omega|(simp only[gL,gA]<;>omega)|fail) only[gC,reduceIte]
   exact hQ h D w
  exact WP.lv hb3 fun i j=>rfl
 |succ d ih=>
  intro m h D hm w
  refine WP.rnd (fun i' j=>q4_ i'.1 i'.2 j ..) ?_
  have ok:=w.ok
  have hl:=ok.l1
  have ln:=w.ln
  have rd':h[od]?=some (.cells ⟨[sD,sA],0,0,false⟩):=by rw[w.fr.get hod bd]; exact rd
  have hD:=w.g.sl
  obtain ⟨p,p1,p2⟩:=dcell ok hD (Ext.refl h) (s:=(i:Int)) (m:=(m:Int)) (by omega) (by omega) (by omega) (by omega)
  obtain ⟨x0,x1⟩:=ok.to i m (by omega) (by omega) (by omega) (by omega)
  obtain ⟨t,ht'⟩:∃t:Nat,gi (gi D (i:Int)) (m:Int)=t:=⟨(gi (gi D (i:Int)) (m:Int)).toNat,by omega⟩
  have ht:nx D (i:Int) (m:Int)=t:=ht'
  rw[ht'] at x0 x1
  rw[ht] at p2
  obtain ⟨q,q1,q2,q3⟩:=cellA (H:=h) hD (Ext.refl h) (i:=(t:Int)) (j:=(m:Int)) (by omega) (by omega) (by omega) (by omega)
  have ii:=hD.idxG (i:=(i:Int)) (by omega) (by omega)
  have it:=hD.idxG (i:=(t:Int)) (by omega) (by omega)
  obtain ⟨h',k1,k2,k3,k4⟩:=w.g.write (i:=(t:Int)) (by omega) (x:=encR (gi D t)) (by have:=a7_ (xs:=D) (i:=(t:Int)) (by omega) (by omega); simp only[Int.toNat_natCast] at this ⊢; simp[this]) m 1 (v:=I t) rfl (by omega) rfl
  have st:stN 1 h q (I (t:Int))=some h':=by
   rw[q3,Int.toNat_natCast]; exact k1
  simp -implicitDefEqProofs (disch:=first|assumption|omega|(simp only[gL,gA]<;>omega)|fail) only[gC,reduceIte,rd',ii,p1,p2,it,q1,st]
  refine ih (m+1) h' (D.set t ((gi D t).set m t)) (by omega) ⟨w.fr.trans ?_,k2.cong ?_,ok.wr (by omega) (by omega) (by omega) (by omega),by rw[List.length_set]; exact ln⟩
  ·exact ⟨by omega,fun o o1 o2=>k3.get (by omega) (by omega)⟩
  ·rw[Int.toNat_natCast,List.map_set]
   congr 1
   simp only[encR,List.map_set]
   rfl
theorem a9q {h:Heap}{N on od:Nat}{frm:Int}{s sD sA:AV}{es:List E}{D:List (List Int)}{acc:List Bool}(hN:1<=N/\N<=12)(no:NetOk N es)(co:COk es)(ok:DOk D acc)(lD:D.length<=9)(hE:Sl h 4 s (es.map encE))(hD:Sl h 5 sD (D.map encR))(hA:Sl h 1 sA (acc.map encB))(rn:h[on]?=some (.cells ⟨[I N,s],0,0,false⟩))(rd:h[od]?=some (.cells ⟨[sD,sA],0,0,false⟩)) :
  WP (fun i=>g5_ i (I frm) (.ptr on 0 2 0) (.ptr od 0 2 0) h) fun r _=>r=.bool true:=by
 refine WP.congr (fun i=>a0q i ..) ?_
 simp -implicitDefEqProofs (disch:=first|assumption|omega|(simp only[gL,gA]<;>omega)|fail) only[gC,reduceIte,rn,rd]
 refine WP.call (a6k (by omega) (by unfold Fit; omega) _) ?_
 rintro _ _ ⟨rfl,rfl⟩
 obtain ⟨v,hv⟩:∃v:Nat,frm % (N:Int)=v:=⟨(frm % (N:Int)).toNat,by have:=Int.emod_nonneg frm (show (N:Int)≠0 by omega); omega⟩
 have hvN:v<N:=by have:=Int.emod_lt_of_pos frm (show (0:Int)<N by omega); omega
 rw[hv]
 have hn2:2*(N*D.length)*(N+1)<=1000000:=by
  have h1:N*D.length<=12*9:=Nat.mul_le_mul hN.2 lD
  have h2:2*(N*D.length)*(N+1)<=216*13:=Nat.mul_le_mul (by omega) (by omega)
  omega
 simp -implicitDefEqProofs (disch:=first|assumption|omega|(simp only[gL,gA]<;>omega)|fail) only[gC,reduceIte,rn,rd]
 refine WP.call (a6l ⟨hN.1,by omega⟩ no co hn2 ok hvN hE hD hA) ?_
 rintro _ h2 ⟨rfl,e2⟩
 exact WP.ret rfl
theorem b1j {hb:Heap}{N oD on od n:Nat}{frm:Int}{s sD sA:AV}{es:List E}{acc:List Bool}(hN:1<=N/\N<=12)(no:NetOk N es)(co:COk es)(hn:n<=9)(hE:∀h,FrS (fun o=>o=oD) hb h->Sl h 4 s (es.map encE))(hA:∀h,FrS (fun o=>o=oD) hb h->Sl h 1 sA (acc.map encB))(rn:hb[on]?=some (.cells ⟨[I N,s],0,0,false⟩))(hon:on≠oD)(rd:hb[od]?=some (.cells ⟨[sD,sA],0,0,false⟩))(hod:od≠oD) :
  ∀(d i:Nat) (h:Heap) (D:List (List Int)),i+d=n->RI hb oD n sD acc h D->WP (fun p:Nat × Nat=>c7_ p.1 p.2 (I frm) (.ptr on 0 2 0) (.ptr od 0 2 0) (I i) h) fun r _=>r=.bool true:=by
 have bn:=(List.getElem?_eq_some_iff.1 rn).1
 have bd:=(List.getElem?_eq_some_iff.1 rd).1
 intro d
 induction d with
 |zero=>
  intro i h D hi w
  refine WP.rnd (fun i' j=>q5_ i' j ..) ?_
  have rn':h[on]?=some (.cells ⟨[I N,s],0,0,false⟩):=by rw[w.fr.get hon bn]; exact rn
  have rd':h[od]?=some (.cells ⟨[sD,sA],0,0,false⟩):=by rw[w.fr.get hod bd]; exact rd
  have ln:=w.ln
  have hD:=w.g.sl
  obtain rfl:i=n:=by omega
  simp -implicitDefEqProofs (disch:=first|assumption|omega|(simp only[gL,gA]<;>omega)|fail) only[gC,reduceIte,rd',hD.lenG]
  exact WP.lv (a9q hN no co w.ok (by omega) (hE h w.fr) hD (hA h w.fr) rn' rd') fun i j=>rfl
 |succ d ih=>
  intro i h D hi w
  refine WP.rnd (fun i' j=>q5_ i' j ..) ?_
  have rd':h[od]?=some (.cells ⟨[sD,sA],0,0,false⟩):=by rw[w.fr.get hod bd]; exact rd
  have ln:=w.ln
  have hD:=w.g.sl
  simp -implicitDefEqProofs (disch:=first|assumption|omega|(simp only[gL,gA]<;>omega)|fail) only[gC,reduceIte,rd',hD.lenG]
  exact WP.ent (b1i (on:=on) (frm:=frm) rd hod (by omega) (fun h' D' w'=>ih (i+1) h' D' (by omega) w') 5 0 h D (by omega) w) fun i=>rfl
theorem a9r {h:Heap}{size modes states acc2 frm:Int}{ns ms:AV}{st:Bool}{zs zm:List Int}(hns:Sl h 1 ns (zs.map encI))(hms:Sl h 1 ms (zm.map encI)) :
  Tot tab b9_ [I size,ns,I modes,I states,ms,I acc2,I frm,.bool st] h fun r _=>r=.bool true:=by
 refine WP.tot (fun k=>a0U k ..) ?_
 refine WP.call (a6V h) ?_
 rintro _ h1 ⟨rfl,e1⟩
 simp -implicitDefEqProofs (maxSteps:=1000000) (disch:=first|assumption|omega|(simp only[gL]<;>omega)|((repeat (first|exact Ext.refl _|assumption|apply Ext.app|apply Ext.mk|(refine Ext.setr ?_ (by (first|omega|(simp only[gL]<;>omega))) _))); done)|(simp only[gL,gA]<;>omega)|fail) only[gB,setAll,partL,fldV,reduceIte,Nat.reduceAdd,Nat.reduceMul]
 refine WP.call (a8J (hns.ext e1)) ?_
 rintro _ h2 ⟨e2,s,rfl,g2⟩
 refine WP.call (a8b (hms.ext (e1.trans e2))) ?_
 rintro _ h3 ⟨e3,D,acc,sD,sA,rfl,ok,lD,yD,yA⟩
 have no:=b0L size zs modes
 have co:=b0V size zs modes
 have hN:=a2l size
 obtain ⟨N,hNN⟩:∃N:Nat,mkN size=N:=⟨(mkN size).toNat,by omega⟩
 rw[hNN] at no hN
 rw[hNN]
 generalize mkE size zs modes=es at no co g2
 have gs:=g2.sl
 have zD:=yD.sl
 have zA:=yA.sl
 simp -implicitDefEqProofs (maxSteps:=1000000) (disch:=first|assumption|omega|(simp only[gL]<;>omega)|((repeat (first|exact Ext.refl _|assumption|apply Ext.app|apply Ext.mk|(refine Ext.setr ?_ (by (first|omega|(simp only[gL]<;>omega))) _))); done)|(simp only[gL,gA,gs.one,gs.cells,zD.one,zD.cells,zA.one,zA.cells]<;>omega)|fail) only[gB,setAll,partL,fldV,reduceIte,Nat.reduceAdd,Nat.reduceMul,gs.one,gs.cells,zD.one,zD.cells,zA.one,zA.cells]
 obtain ⟨h4,hh4⟩:∃h4,h4=(List.set (h3++[AObj.cells ⟨[AV.int .i64 0,.nils],0,0,false⟩]++[AObj.cells ⟨[.nils,.nils],0,0,false⟩]) h3.length (AObj.cells ⟨[I N,s],0,0,false⟩)).set (h3.length+1) (AObj.cells ⟨[sD,sA],0,0,false⟩):=⟨_,rfl⟩
 have e4:Ext h3 h4:=by rw[hh4]; ((repeat (first|exact Ext.refl _|assumption|apply Ext.app|apply Ext.mk|(refine Ext.setr ?_ (by (first|omega|(simp only[gL]<;>omega))) _))))
 have rn:h4[h3.length]?=some (.cells ⟨[I N,s],0,0,false⟩):=by rw[hh4]; simp -implicitDefEqProofs (maxSteps:=1000000) (disch:=first|assumption|omega|(simp only[gL]<;>omega)|((repeat (first|exact Ext.refl _|assumption|apply Ext.app|apply Ext.mk|(refine Ext.setr ?_ (by (first|omega|(simp only[gL]<;>omega))) _))); done)|(simp only[gL,gA]<;>omega)|fail) only[gB,setAll,partL,fldV,reduceIte,Nat.reduceAdd,Nat.reduceMul]
 have rd:h4[h3.length+1]?=some (.cells ⟨[sD,sA],0,0,false⟩):=by rw[hh4]; simp -implicitDefEqProofs (maxSteps:=1000000) (disch:=first|assumption|omega|(simp only[gL]<;>omega)|((repeat (first|exact Ext.refl _|assumption|apply Ext.app|apply Ext.mk|(refine Ext.setr ?_ (by (first|omega|(simp only[gL]<;>omega))) _))); done)|(simp only[gL,gA]<;>omega)|fail) only[gB,setAll,partL,fldV,reduceIte,Nat.reduceAdd,Nat.reduceMul]
 rw[<-hh4]
 have l2:=e2.len
 have l3:=e3.len
 obtain ⟨oD,oA,hne,d1,d2,d3,a1,a2,a3,gD,gA⟩:=b0H ok yD yA
 cases st with
 |false=>
  simp -implicitDefEqProofs (maxSteps:=1000000) (disch:=first|assumption|omega|(simp only[gL]<;>omega)|((repeat (first|exact Ext.refl _|assumption|apply Ext.app|apply Ext.mk|(refine Ext.setr ?_ (by (first|omega|(simp only[gL]<;>omega))) _))); done)|(simp only[gL,gA]<;>omega)|fail) only[gB,setAll,partL,fldV,reduceIte,Nat.reduceAdd,Nat.reduceMul]
  exact a9q (by omega) no co ok lD ((g2.ext e3).ext e4).sl (zD.ext e4) (zA.ext e4) rn rd
 |true=>
  simp -implicitDefEqProofs (maxSteps:=1000000) (disch:=first|assumption|omega|(simp only[gL]<;>omega)|((repeat (first|exact Ext.refl _|assumption|apply Ext.app|apply Ext.mk|(refine Ext.setr ?_ (by (first|omega|(simp only[gL]<;>omega))) _))); done)|(simp only[gL,gA]<;>omega)|fail) only[gB,setAll,partL,fldV,reduceIte,Nat.reduceAdd,Nat.reduceMul]
  exact WP.ent (b1j (N:=N) (oD:=oD) (on:=h3.length) (od:=h3.length+1) (n:=D.length) (sD:=sD) (frm:=frm) (by omega) no co lD (fun h f=>(((g2.ext e3).ext e4).frs f fun o o1 o2 z=>by omega).sl) (fun h f=>((gA.ext e4).frs f fun o o1 o2 z=>by omega).sl) rn (by omega) rd (by omega) D.length 0 h4 D (by omega) ⟨FrS.refl _ _,gD.ext e4,ok,rfl⟩) fun i=>rfl
end Go.Gm.AQ
namespace Go.Gm
open Go.RowKit
def roObj (cs:List AV):AObj:=.cells ⟨cs,0,0,true⟩
def initH (L:List (List AV × Option Loc)):Heap:=L.map fun p=>roObj p.1
def initR (L:List (List AV × Option Loc)):Ren:=⟨fun o g=>if g=0 then (L[o]?).bind (·.2) else none,fun _=>none⟩
def EntOk (W:World)(φ:Ren)(p:List AV × Option Loc):Prop:=∀l,p.2=some l->∃C e fr,W.heap[l.b]?=some (.cells C e fr)/\C.size=l.N/\l.n=p.1.length/\CellsAt φ p.1 l C
theorem initS {W:World}{L:List (List AV × Option Loc)}(hL:∀p∈L,EntOk W (initR L) p) :
  S W.heap.size W (initR L) (initH L) W:=by
 have got:∀o g l,(initR L).c o g=some l->g=0/\∃cs,L[o]?=some (cs,some l):=fun o g l h=>by
  simp only[initR] at h
  split at h
  ·rename_i hg
   cases hq:L[o]? with
   |none=>rw[hq] at h; cases h
   |some p=>rw[hq] at h; exact ⟨hg,p.1,by rw[<-(show p.2=some l from h)]⟩
  ·cases h
 have ro:∀o g l,(initR L).c o g=some l->isRo (initH L) o=true:=fun o g l h=>by
  obtain ⟨_,cs,hq⟩:=got o g l h
  simp[isRo,initH,hq,roObj]
 refine ⟨⟨fun o g l h=>?_,fun o b h=>(by cases h),fun o g l o' g' l' h h' _=>.inr ⟨ro o g l h,ro o' g' l' h'⟩,fun o b o' b' h=>(by cases h)⟩,Below.refl _ _,Nat.le_refl _⟩
 obtain ⟨hg,cs,hq⟩:=got o g l h
 subst hg
 obtain ⟨C,e,fr,h1,h2,h3,h4⟩:=hL _ (List.mem_of_getElem? hq) l rfl
 exact ⟨⟨cs,0,0,true⟩,by simp[initH,hq,roObj],Nat.le_refl _,Nat.le_refl _,⟨C,e,fr,h1,h2,fun q=>(by cases q),fun _=>h4⟩,fun _=>h3⟩
theorem entry {P:Program}{T:Tab}(hv:Valid P T){W:World}{L:List (List AV × Option Loc)}(hL:∀p∈L,EntOk W (initR L) p){f:FuncId}{args:List AV}{args':List Value}(ha:VRs (initR L) args args'){Q:AV->Heap->Prop}(ht:Tot T f args (initH L) Q)(hq:∀v h,Q v h->v=.bool true) :
  Calls P f args'.toArray W fun e w'=>e=.returned (.bool true)/\Below W.heap.size W w':=by
 obtain ⟨v,h',h1,N,hN⟩:=ht
 have hv1:=hq v h' h1
 subst hv1
 obtain ⟨_,h2⟩:=fnSim (B:=W.heap.size) (w0:=W) hv N f args (initH L) _ _ (hN N (Nat.le_refl N))
 refine (h2 _ W args' ha (initS hL)).mono ?_
 rintro e w' ⟨ψ,v',rfl,k1,k2,k3⟩
 cases k1
 exact ⟨rfl,k2.below⟩
theorem intsArg {W:World}{a:Addr}{len cap:Nat}{zs:List Int}(hl:len<=cap)(hm:cap<=maxLen)(hz:zs.length=cap)(hc:∀i,i<zs.length->W.cell? (a.add i)=some (.int .i64 (zs.getD i 0)))(o:Nat) :
  ∃(p:List AV × Option Loc) (x:AV),(∀φ,EntOk W φ p)/\∀L:List (List AV × Option Loc),L[o]?=some p->VR (initR L) x (.slice (some a) len cap)/\Sl (initH L) 1 x ((zs.take len).map fun n=>[I n]):=by
 by_cases h0:0<zs.length
 ·obtain ⟨b,off,rfl,hcell⟩:=Go.ints_at hc h0
  have h1:=hcell 0 h0
  obtain ⟨C,e,fr,hb,hC⟩:∃C e fr,W.heap[b]?=some (.cells C e fr)/\∀j,j<zs.length->C[off+j]?=some (.int .i64 (zs.getD j 0)):=by
   simp only[World.cell?] at h1
   cases hh:W.heap[b]? with
   |none=>rw[hh] at h1; cases h1
   |some ob=>
    cases ob with
    |cells C e fr=>
     refine ⟨C,e,fr,rfl,fun j hj=>?_⟩
     have:=hcell j hj
     simpa [World.cell?,hh] using this
    |_=>rw[hh] at h1; cases h1
  have hN:off+cap<=C.size:=by
   have:=(Array.getElem?_eq_some_iff.1 (hC (zs.length-1) (by omega))).1
   omega
  refine ⟨(zs.map I,some ⟨b,off,C.size,cap⟩),.sl o 0 len 1 (some cap) 0,fun φ l hl'=>?_,fun L hL=>⟨?_,?_⟩⟩
  ·injection hl' with hl'
   subst hl'
   refine ⟨C,e,fr,hb,rfl,by simp[hz],by simp[hz],hN,fun i hi=>?_⟩
   refine ⟨I (zs.getD i 0),_,?_,hC i (by simpa [hz] using hi),.int _ _,rfl⟩
   simp only at hi
   simp[List.getD_eq_getElem?_getD,hz,hi]
  ·refine VR.sl (l:=⟨b,off,C.size,cap⟩) ?_ (by simp; exact hl) hl hm (by simp; exact hN) (fun c q=>by injection q)
   simp[initR,hL]
  ·refine .inr ⟨o,0,some cap,0,⟨zs.map I,0,0,true⟩,?_,?_,Nat.le_refl _,?_,?_⟩
   ·simp[hz,Nat.min_eq_left hl]
   ·simp[initH,hL,roObj]
   ·simp only[List.drop_zero,List.length_map,Nat.mul_one]
    rw[List.length_take,hz,Nat.min_eq_left hl,<-List.map_take]
    generalize zs.take len=ys
    induction ys with
    |nil=>rfl
    |cons y ys ih=>simp[ih]
   ·intro x hx
    simp only[List.mem_map] at hx
    obtain ⟨n,_,rfl⟩:=hx
    rfl
 ·have hz0:zs=[]:=List.eq_nil_of_length_eq_zero (by omega)
  subst hz0
  simp only[List.length_nil] at hz
  subst hz
  obtain rfl:len=0:=by omega
  refine ⟨([],none),.sl o 0 0 1 (some 0) 0,fun φ l q=>(by cases q),fun L hL=>⟨.sl0 (fun q=>by cases q) (fun c q=>by injection q with q; exact q.symm),?_⟩⟩
  exact .inr ⟨o,0,some 0,0,⟨[],0,0,true⟩,rfl,by simp[initH,hL,roObj],Nat.le_refl _,rfl,fun x hx=>by simp at hx⟩
theorem rowArg {W:World}{a:Option Addr}{len cap:Nat}{zs:List Int}(w:(a=none/\len=0/\cap=0/\zs=[])\/∃x,a=some x/\len<=cap/\cap<=maxLen/\zs.length=cap/\(∀i,i<zs.length->W.cell? (x.add i)=some (.int .i64 (zs.getD i 0)))/\∀n∈zs,(Lit.int .i64 n).wf=true)(o:Nat) :
  ∃(p:List AV × Option Loc) (x:AV),(∀φ,EntOk W φ p)/\∀L:List (List AV × Option Loc),L[o]?=some p->VR (initR L) x (.slice a len cap)/\Sl (initH L) 1 x ((zs.take len).map fun n=>[I n]):=by
 rcases w with ⟨rfl,rfl,rfl,rfl⟩|⟨x,rfl,h1,h2,h3,h4,_⟩
 ·exact ⟨([],none),.nils,fun φ l q=>(by cases q),fun L hL=>⟨.nils,.inl ⟨rfl,rfl⟩⟩⟩
 ·exact intsArg h1 h2 h3 h4 o
end Go.Gm
namespace Go.Gm
inductive Rw where
 |mk (k n:Int) (l:List Rw)
 deriving Inhabited
def Rw.kids:Rw->List Rw
 |.mk _ _ l=>l
theorem Rw.kid_lt {c r:Rw}(h:c∈r.kids):SizeOf.sizeOf c<SizeOf.sizeOf r:=by
 cases r with
 |mk k n l=>have:=List.sizeOf_lt_of_mem (show c∈l from h); simp only[Rw.mk.sizeOf_spec]; omega
theorem Rw.ind {p:Rw->Prop}(h:∀r,(∀c∈r.kids,p c)->p r)(r:Rw):p r:=by
 have:∀(N:Nat) (r:Rw),SizeOf.sizeOf r<=N->p r:=by
  intro N
  induction N with
  |zero=>intro r hr; exact h r fun c hc=>by have:=Rw.kid_lt hc; omega
  |succ N ih=>intro r hr; exact h r fun c hc=>ih c (by have:=Rw.kid_lt hc; omega)
 exact this _ r (Nat.le_refl _)
mutual
inductive RV (h:Heap):Rw->List AV->Prop
 |mk {k n:Int} {l:List Rw} {s:AV} {css:List (List AV)}:Sl h 3 s css->RVs h l css->RV h (.mk k n l) [I k,I n,s]
inductive RVs (h:Heap):List Rw->List (List AV)->Prop
 |nil:RVs h [] []
 |cons {r:Rw} {cs:List AV} {l:List Rw} {css:List (List AV)}:RV h r cs->RVs h l css->RVs h (r::l) (cs::css)
end
mutual
theorem RV.ext {h h':Heap} (e:Ext h h'):∀{r:Rw} {cs:List AV},RV h r cs->RV h' r cs
 |_,_,.mk a b=>.mk (a.ext e) (RVs.ext e b)
theorem RVs.ext {h h':Heap} (e:Ext h h'):∀{l:List Rw} {css:List (List AV)},RVs h l css->RVs h' l css
 |_,_,.nil=>.nil
 |_,_,.cons a b=>.cons (RV.ext e a) (RVs.ext e b)
end
theorem RVs.len {h:Heap}:∀{l:List Rw} {css:List (List AV)},RVs h l css->l.length=css.length
 |_,_,.nil=>rfl
 |_,_,.cons _ b=>by simp[RVs.len b]
theorem RVs.get {h:Heap}:∀{l:List Rw} {css:List (List AV)},RVs h l css->∀{i:Nat} {r:Rw},l[i]?=some r->∃cs,css[i]?=some cs/\RV h r cs
 |_,_,.nil,i,r,q=>by simp at q
 |_,_,.cons a b,0,r,q=>by
  simp only[List.getElem?_cons_zero,Option.some.injEq] at q
  subst q; exact ⟨_,rfl,a⟩
 |_,_,.cons a b,i+1,r,q=>by
  obtain ⟨cs,h1,h2⟩:=RVs.get b (i:=i) (by simpa using q)
  exact ⟨cs,by simpa using h1,h2⟩
theorem RV.len {h:Heap}{r:Rw}{cs:List AV}(a:RV h r cs):cs.length=3:=by cases a; rfl
theorem RV.one {h:Heap}{r:Rw}{cs:List AV}(a:RV h r cs):cs.all AV.one=true:=by
 cases a with
 |mk a b=>simp only[List.all_cons,List.all_nil,a1A,a.one,Bool.and_self]
end Go.Gm
namespace Go.Gm
structure RawTy (P:Program) (T E I3:TypeId):Prop where
 t:P.underlying T=some (.slice E)
 e:∃f0 f1 f2:Field,P.underlying E=some (.struct #[f0,f1,f2])/\f0.type=I3/\f0.offset=0/\f1.type=I3/\f1.offset=1/\f2.type=T/\f2.offset=2
 i:P.underlying I3=some (.int .i64)
 ce:P.cellsOf E=3
 ci:P.cellsOf I3=1
 ct:P.cellsOf T=1
def Emb (F:List (List AV × Option Loc))(o:Nat)(L:List (List AV × Option Loc)):Prop:=∀(i:Nat) p,F[i]?=some p->L[o+i]?=some p
theorem Emb.head {p:List AV × Option Loc}{F L:List (List AV × Option Loc)}{o:Nat}(e:Emb (p::F) o L):L[o]?=some p:=e 0 p rfl
theorem Emb.tail {p:List AV × Option Loc}{F L:List (List AV × Option Loc)}{o:Nat}(e:Emb (p::F) o L):Emb F (o+1) L:=fun i q h=>by
 have:=e (i+1) q (by simpa using h)
 rwa [show o+(i+1)=o+1+i by omega] at this
theorem Emb.left {F G L:List (List AV × Option Loc)}{o:Nat}(e:Emb (F++G) o L):Emb F o L:=fun i q h=>e i q (by rw[List.getElem?_append_left (List.getElem?_eq_some_iff.1 h).1]; exact h)
theorem Emb.right {F G L:List (List AV × Option Loc)}{o:Nat}(e:Emb (F++G) o L):Emb G (o+F.length) L:=fun i q h=>by
 have:=e (F.length+i) q (by rw[List.getElem?_append_right (by omega),Nat.add_sub_cancel_left]; exact h)
 rwa [show o+(F.length+i)=o+F.length+i by omega] at this
section
variable {H:Type} {enc:TypeId × Value->H} {P:Program} {T E I3:TypeId} {W:World}
theorem RVs.snoc {h:Heap}{r:Rw}{cs:List AV}(a:RV h r cs):∀{l:List Rw} {css:List (List AV)},RVs h l css->RVs h (l++[r]) (css++[cs])
 |_,_,.nil=>.cons a .nil
 |_,_,.cons x y=>.cons x (RVs.snoc a y)
end
end Go.Gm
