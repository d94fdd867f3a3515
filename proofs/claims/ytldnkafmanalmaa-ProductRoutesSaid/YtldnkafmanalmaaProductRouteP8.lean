/- A part of the proof (GmAQRV, GmAQRT, GmAQV, GmAQX, GmAQY, GmAQZ, GmAQMA, GmAQMB, GmAQBK, GmAQBM, GmAQBN, GmAQBO, GmAQBP, GmAQBQ, GmAQBR, GmAQBS, GmAQBT, GmAQBU). -/
import Derived.Test.YtldnkafmanalmaaProductRouteP7
set_option linter.unusedVariables false
set_option linter.unusedSimpArgs false
set_option linter.unusedSectionVars false
namespace Go.Gm.AQ
open Go Go.Gm
theorem b5k {xs:List Int}{k:Int}(h0:0<=k)(h1:k<xs.length):gi xs.reverse k=gi xs (xs.length-1-k):=by
 obtain ⟨i,rfl⟩:∃i:Nat,k=i:=⟨k.toNat,by omega⟩
 rw[e2_ (by simpa using h1),List.getElem_reverse]
 have:=e2_ (xs:=xs) (n:=xs.length-1-i) (by omega)
 rw[<-this]
 congr 1
 omega
theorem b5l {lo hi:Nat}{hb:Heap}{s:AV}{xs:List Int}(hl:xs.length<=1000000):∀(d:Nat) (i j:Int) (h:Heap) (ys:List Int),j-i<d->0<=i->i+j=xs.length-1->ys.length=xs.length->Fr lo hi hb h->Gr lo hi h 1 s (ys.map encI)->
  (∀k:Int,0<=k->k<xs.length->gi ys k=if i<=k/\k<=j then gi xs k else gi xs (xs.length-1-k))->
  WP (fun p:Nat × Nat=>p4_ p.1 p.2 s (I i) (I j) h) fun r h'=>r=.tup []/\Fr lo hi hb h'/\Gr lo hi h' 1 s (xs.reverse.map encI):=by
 have fin:∀(i j:Int) (ys:List Int),¬i<j->0<=i->i+j=xs.length-1->ys.length=xs.length->(∀k:Int,0<=k->k<xs.length->gi ys k=if i<=k/\k<=j then gi xs k else gi xs (xs.length-1-k))->ys=xs.reverse:=by
  intro i j ys hij h0 hs hy hk
  apply List.ext_getElem (by simpa using hy)
  intro k k1 k2
  have a1:=hk k (by omega) (by omega)
  have a2:=b5k (xs:=xs) (k:=(k:Int)) (by omega) (by omega)
  rw[e2_ k1] at a1
  rw[e2_ k2] at a2
  rw[a1,a2]
  split
  ·rw[show (xs.length:Int)-1-k=k by omega]
  ·rfl
 intro d
 induction d with
 |zero=>
  intro i j h ys hd h0 hs hy f g hk
  refine WP.rnd (fun i' j'=>a0H i' j' s (I i) (I j) h) ?_
  have hij:¬i<j:=by omega
  simp -implicitDefEqProofs (disch:=first|assumption|omega|(simp only[gL,gA]<;>omega)|fail) only[gC,reduceIte]
  exact WP.ret ⟨rfl,f,g.cong (by rw[fin i j ys hij h0 hs hy hk])⟩
 |succ d ih=>
  intro i j h ys hd h0 hs hy f g hk
  refine WP.rnd (fun i' j'=>a0H i' j' s (I i) (I j) h) ?_
  by_cases hij:i<j
  ·obtain ⟨a,ha⟩:∃a,gi ys i=a:=⟨_,rfl⟩
   obtain ⟨b,hb⟩:∃b,gi ys j=b:=⟨_,rfl⟩
   obtain ⟨h2,s2,g2,f2,l2⟩:=g.write0 (i:=i) (v:=I b) h0 (by rw[List.length_map]; omega) rfl rfl
   obtain ⟨h3,s3,g3,f3,l3⟩:=g2.write0 (i:=j) (v:=I a) (by omega) (by rw[List.length_set,List.length_map]; omega) rfl rfl
   have gs:=g.sl
   simp -implicitDefEqProofs (disch:=first|assumption|omega|exact Ext.refl _|(simp only[gL,gA]<;>omega)|fail) only[gC,reduceIte,gs.idxG,gs.ld0,ha,hb,encI,s2,s3]
   have e1:((ys.map encI).set i.toNat (I b).cells).set j.toNat (I a).cells=((ys.set i.toNat b).set j.toNat a).map encI:=by
    rw[List.map_set,List.map_set]; rfl
   rw[e1] at g3
   refine ih (i+1) (j-1) h3 _ (by omega) (by omega) (by omega) (by simpa using hy) ((f.trans f2).trans f3) g3 fun k k0 k1=>?_
   rw[n2_ (by omega) (by simp; omega) k0,n2_ h0 (by omega) k0]
   have hi:=hk i h0 (by omega)
   have hj:=hk j (by omega) (by omega)
   rw[if_pos ⟨by omega,by omega⟩,ha] at hi
   rw[if_pos ⟨by omega,by omega⟩,hb] at hj
   by_cases q1:k=j
   ·rw[if_pos q1,if_neg (by omega),hi]; congr 1; omega
   ·rw[if_neg q1]
    by_cases q2:k=i
    ·rw[if_pos q2,if_neg (by omega),hj]; congr 1; omega
    ·rw[if_neg q2,hk k k0 k1]
     by_cases q3:i<=k/\k<=j
     ·rw[if_pos q3,if_pos ⟨by omega,by omega⟩]
     ·rw[if_neg q3,if_neg (by omega)]
  ·simp -implicitDefEqProofs (disch:=first|assumption|omega|(simp only[gL,gA]<;>omega)|fail) only[gC,reduceIte]
   exact WP.ret ⟨rfl,f,g.cong (by rw[fin i j ys hij h0 hs hy hk])⟩
theorem b2G {lo hi:Nat}{h:Heap}{s:AV}{xs:List Int}(hl:xs.length<=1000000)(g:Gr lo hi h 1 s (xs.map encI)):Tot tab q3_ [s] h fun r h'=>r=.tup []/\Fr lo hi h h'/\Gr lo hi h' 1 s (xs.reverse.map encI):=by
 refine WP.tot (fun k=>a4G k _ h) ?_
 have gs:=g.sl
 simp -implicitDefEqProofs (disch:=first|assumption|omega|(simp only[gL,gA]<;>omega)|fail) only[gC,reduceIte,gs.lenG]
 exact WP.ent (b5l hl (xs.length+1) 0 (xs.length-1) h xs (by omega) (by omega) (by omega) rfl (Fr.refl _ _ _) g fun k k0 k1=>by rw[if_pos ⟨by omega,by omega⟩]) fun i=>rfl
section
variable {h0 h:Heap} {g:AV} {N:Nat} {es:List E} {D:List (List Int)} {acc:List Bool}
theorem b2H {W:Nat->Prop}{hb:Heap}{os oc oe ov n:Nat}{fh q sc se sf:AV}{cs ds fs:List Int}{M:List (Option Int)}{ls:Int}{A:Nat->List Hop}{st:Nat->Prop}{id0 k:Nat}{rk:Nat->Nat}(hn2:n<=1000000)(hW:∀o,W o->o<hb.length)(w0:SW W hb os g fh q sc se sf oc oe ov n cs ds fs M ls)(di:DI n 2147483647 A st id0 [] (gf cs) (gf M) (gf ds) (gf fs) rk k){x0:Nat}{Q:AV->Heap->Prop}{k0:Nat}(hk0:k<=k0)(hk1:k0<=1000000)(hQ:∀(l:List Nat) (h':Heap) (out':AV),Ext hb h'->Gr hb.length h'.length h' 1 out' ((l.reverse.map fun (e:Nat)=>(e:Int)).map encI)->l.length<=1000000->Wk A st x0 l (gf cs x0)->WP (fun i:Nat=>t2_ i out' h') Q) :
  ∀(d x:Nat) (h:Heap) (out:AV) (l:List Nat),rk x<d->d+l.length<=k0+1->x<n->0<=gf cs x->Ext hb h->Gr hb.length h.length h 1 out ((l.reverse.map fun (e:Nat)=>(e:Int)).map encI)->(∀l',Wk A st x l' (gf cs x)->Wk A st x0 (l'++l) (gf cs x0))->
   WP (fun p:Nat × Nat=>m2_ p.1 p.2 (.ptr os 0 7 0) (I x) out h) Q:=by
 intro d
 induction d with
 |zero=>intro x h out l h1; omega
 |succ d ih=>
  intro x h out l h1 h2 hx hc e gr hw
  refine WP.rnd (fun i j=>a2O i j (.ptr os 0 7 0) (I x) out h) ?_
  have w:=w0.ext e
  have ro:=w.row
  have lf:=w.lf
  have le:=w.le
  have gfs:=w.gf.sl
  have ges:=w.ge.sl
  rcases di.par x hx (gf cs x) (.inl ⟨hc,rfl⟩) with ⟨p1,p2,p3⟩|⟨y,v,y1,y2,y3,y4,y5,y6,y7⟩
  ·have p1':gi fs (x:Int) = -1:=p1
   simp -implicitDefEqProofs (disch:=first|assumption|omega|exact Ext.refl _|(simp only[gL,gA]<;>omega)|fail) only[gC,reduceIte,ro,gfs.idxG,gfs.ld0,encI,p1']
   refine WP.lv (hQ l h out e gr (by omega) ?_) fun i j=>rfl
   have:=hw [] (by rw[p3]; exact .nil p2)
   simpa using this
  ·have y2':gi fs (x:Int)=y:=y2
   obtain ⟨e1,he1⟩:∃e1:Nat,gi ds (x:Int)=e1:=⟨(gi ds (x:Int)).toNat,by have:0<=gi ds (x:Int):=y4; omega⟩
   have hlb:=e.len
   obtain ⟨s',h',q1,q2,q3⟩:=Gr.append1 (bytes:=8) gr (v:=[I e1]) rfl (by omega) (by omega) (by simp; omega) (by omega) (by omega)
   rw[a4_] at q1
   have e':Ext hb h':=q3.ext e (by omega)
   have w':=w0.ext e'
   have ro':=w'.row
   have gfs':=w'.gf.sl
   simp -implicitDefEqProofs (disch:=first|assumption|omega|exact Ext.refl _|(simp only[gL,gA]<;>omega)|fail) only[gC,reduceIte,ro,gfs.idxG,gfs.ld0,ges.idxG,ges.ld0,encI,y2',he1,q1,ro',gfs'.idxG,gfs'.ld0]
   have hr:=y7 hc
   refine ih y h' s' (e1::l) (by omega) (by simp; omega) y1 y3 e' (q2.cong (by simp[encI])) fun l' hl'=>?_
   have:=hw (l'++[e1]) (by
    rw[y6]
    refine .snoc hl' ?_
    have he2:gf ds x=(e1:Int):=he1
    rw[he2,Int.toNat_natCast] at y5
    exact y5)
   simpa using this
theorem b0x {W:Nat->Prop}{os oc oe ov n:Nat}{fh q sc se sf:AV}{cs ds fs:List Int}{M:List (Option Int)}{ls:Int}{A:Nat->List Hop}{st:Nat->Prop}{id0 k:Nat}{rk:Nat->Nat}(hn2:n<=1000000)(w:SW W h os g fh q sc se sf oc oe ov n cs ds fs M ls)(di:DI n 2147483647 A st id0 [] (gf cs) (gf M) (gf ds) (gf fs) rk k)(hk:k<=n){x:Nat}(hx:x<n)(hc:0<=gf cs x) :
  Tot tab h5_ [.ptr os 0 7 0,I x] h fun r h'=>Ext h h'/\∃l:List Nat,Wk A st x l (gf cs x)/\l.length<=1000000/\Gr h.length h'.length h' 1 r ((l.map fun (e:Nat)=>(e:Int)).map encI):=by
 refine WP.tot (fun k=>a3O k _ _ h) ?_
 have hr:=di.rk x hx hc
 refine WP.ent (b2H (x0:=x) (k0:=n) (k:=k) hn2 (W:=fun o=>W o/\o<h.length) (fun o z=>z.2) (w.mono fun o z1 z2=>⟨z2,z1⟩) di hk (by omega) (fun l h2 out e2 g2 hl hw=>?_) (rk x+1) x h .nils [] (by omega) (by simp; omega) hx hc (Ext.refl _) (Gr.nil ..) fun l' hl'=>by simpa using hl') fun i=>rfl
 refine WP.congr (fun i=>a2N i out h2) ?_
 refine WP.call (b2G (by simpa using hl) g2) ?_
 rintro _ h3 ⟨rfl,f3,g3⟩
 have e3:Ext h h3:=f3.ext e2 (Nat.le_refl _)
 refine WP.call (a7a g3.sl (by simpa using (show l.length<=10000000 by omega))) ?_
 rintro r h4 ⟨e4,g4⟩
 refine WP.ret ⟨e3.trans e4,l,hw,hl,(g4.mono e3.len (Nat.le_refl _)).cong ?_⟩
 rw[<-List.map_reverse,List.reverse_reverse]
end
end Go.Gm.AQ
namespace Go.Gm.AQ
open Go Go.Gm
section
variable {h:Heap} {N:Nat} {es:List E} {D:List (List Int)} {acc:List Bool}
def RouteQ (N:Nat)(es:List E)(D:List (List Int))(acc:List Bool)(v u:Nat)(c:Nat->Int)(lo:Nat)(r:AV)(h':Heap):Prop:=
 (bv c acc (u*D.length) D.length<0/\r=.tup [.agg [I 0,.nils],.bool false])\/
 (0<=bv c acc (u*D.length) D.length/\∃(q:Nat) (l:List Nat) (sl:AV),q<D.length/\gi acc (q:Int)=true/\bv c acc (u*D.length) D.length=c (u*D.length+q)/\Wk (hopA es D.length (onL es D)) (fun x=>x=v*D.length) (u*D.length+q) l (bv c acc (u*D.length) D.length)/\
  l.length<=1000000/\r=.tup [.agg [I (bv c acc (u*D.length) D.length),sl],.bool true]/\Gr lo h'.length h' 1 sl ((l.map fun (e:Nat)=>(e:Int)).map encI))
theorem a5l {sE sD sA:AV}(no:NetOk N es)(co:COk es)(hn2:N*D.length<=1000000)(hs:Sl h 4 sE (es.map encE))(ok:DOk D acc)(hD:Sl h 5 sD (D.map encR))(hA:Sl h 1 sA (acc.map encB)){v u:Nat}(hv:v<N)(hu:u<N) :
  Tot tab k7_ [.agg [I N,sE],.agg [sD,sA],I v,I u] h fun r h'=>Ext h h'/\∃c,LC (N*D.length) (hopA es D.length (onL es D)) (fun x=>x=v*D.length) c/\RouteQ N es D acc v u c h.length r h':=by
 refine WP.tot (fun k=>a6z k _ _ _ _ h) ?_
 have hN:N<=100000:=by have:=no.n1; omega
 obtain ⟨h1,hh1⟩:∃h1,h1=((h++[AObj.cells ⟨[I N,sE],0,0,false⟩])++[AObj.cells ⟨[sD,sA],0,0,false⟩])++[AObj.cells ⟨[AV.int .i64 0,.nils],0,0,false⟩]:=⟨_,rfl⟩
 have e1:Ext h h1:=by rw[hh1]; ((repeat (first|exact Ext.refl _|assumption|apply Ext.app|apply Ext.mk|(refine Ext.setr ?_ (by (first|omega|(simp only[gL]<;>omega))) _))))
 have hl1:h1.length=h.length+3:=by rw[hh1]; simp
 have r8:h1[h.length+1+1]?=some (.cells ⟨[I 0,.nils],0,0,false⟩):=by rw[hh1,a2r (by simp)]; simp[I]
 simp -implicitDefEqProofs (maxSteps:=1000000) (disch:=first|assumption|omega|(simp only[gL]<;>omega)|((repeat (first|exact Ext.refl _|assumption|apply Ext.app|apply Ext.mk|(refine Ext.setr ?_ (by (first|omega|(simp only[gL]<;>omega))) _))); done)|(simp only[gL,gA,hs.one,hs.cells,hD.one,hD.cells,hA.one,hA.cells]<;>omega)|fail) only[gB,setAll,partL,fldV,reduceIte,Nat.reduceAdd,Nat.reduceMul,hs.one,hs.cells,hD.one,hD.cells,hA.one,hA.cells]
 rw[<-hh1]
 refine WP.call (a5P no (hs.ext e1) ok (hD.ext e1) (hA.ext e1)) ?_
 rintro g h2 ⟨e2,gv⟩
 obtain ⟨h3,hh3⟩:∃h3,h3=h2++[AObj.cells ⟨[I v,AV.int .i64 0],0,0,false⟩]:=⟨_,rfl⟩
 have e3:Ext h2 h3:=by rw[hh3]; exact Ext.push _ _
 have ha:Sl h3 2 (.sl h2.length 0 1 2 none 0) ([((v:Int),(0:Int))].map encP2):=by
  have:=(Gr.lit (h:=h2) (sz:=2) (v:=[I v,I 0]) rfl).sl
  rw[a4_] at this
  rw[hh3]; exact this
 rw[show AV.int .i64 0=I 0 from rfl] at hh3
 rw[<-hh3]
 have gv3:=gv.ext e3
 refine WP.call (a3l (n:=N*D.length) gv3 ok hN rfl hn2 ha (fun a z=>?_) (by simp) (hopA es D.length (onL es D))) ?_
 ·obtain rfl:=List.mem_singleton.1 z
  have:=ok.l0
  exact ⟨by show (0:Int)<=v; omega,by show (v:Int)<N; omega,Int.le_refl _,by show (0:Int)<D.length; omega⟩
 rintro _ h4 ⟨e4,os,q,sc,se,sf,oc,oe,ov,cs,ds,fs,M,rfl,w4,d4,u4⟩
 have hst:atSt D.length [((v:Int),(0:Int))]=fun x=>x=v*D.length:=by
  funext x; exact propext a5R
 rw[hst] at d4
 have hstn:∀x,x=v*D.length->x<N*D.length:=fun x z=>by
  have:=spotN (S:=D.length) hv ok.l0
  omega
 refine WP.call (a6J e4 (fun o z=>z) gv3 ok co hN rfl hn2 (a4P gv3 ok no) hstn w4 d4 u4) ?_
 rintro _ h5 ⟨rfl,f5,id2,k2,ls2,rk2,cs2,ds2,fs2,M2,w5,d5,m5,u5⟩
 have e35:Ext h3 h5:=f5.ext e4 fun o z1 z2=>by omega
 have lc:=DI.lc ((a4P gv3 ok no).gok co) hstn d5 m5
 refine WP.call (a7V (gv3.ext e35) ok hN rfl hn2 hu w5) ?_
 rintro _ h6 ⟨e6,out,rfl,b⟩
 have e06:=(((e1.trans e2).trans e3).trans e35).trans e6
 have r86:=(((e2.trans e3).trans e35).trans e6).get r8
 have b86:=(List.getElem?_eq_some_iff.1 r86).1
 obtain ⟨bn1,bn2,bn3⟩:=b.neg
 by_cases ho:out<0
 ·simp -implicitDefEqProofs (maxSteps:=1000000) (disch:=first|assumption|omega|(simp only[gL]<;>omega)|((repeat (first|exact Ext.refl _|assumption|apply Ext.app|apply Ext.mk|(refine Ext.setr ?_ (by (first|omega|(simp only[gL]<;>omega))) _))); done)|(simp only[gL,gA,r86]<;>omega)|fail) only[gB,setAll,partL,fldV,reduceIte,Nat.reduceAdd,Nat.reduceMul,r86]
  refine WP.ret ⟨e06.setr (by omega) _,gf cs2,lc,.inl ⟨bn1.1 ho,rfl⟩⟩
 ·have w6:=w5.ext e6
  have ro6:=w6.row
  have lc6:=w6.lc
  rcases b with ⟨b1,_⟩|⟨qq,q1,rfl,q3,q4,q5⟩
  ·omega
  have hx:u*D.length+qq<N*D.length:=spotN hu q1
  have hun:=l7_ (N*D.length) (gf cs2)
  have gcs:=w6.gc.sl
  have hgc:gi cs2 ((u*D.length+qq:Nat):Int)=bv (gf cs2) acc (u*D.length) D.length:=q5.symm
  obtain ⟨x,hxx⟩:∃x,u*D.length+qq=x:=⟨_,rfl⟩
  rw[hxx] at hx hgc q4 q5 ho ⊢
  simp -implicitDefEqProofs (maxSteps:=1000000) (disch:=first|assumption|omega|(simp only[gL]<;>omega)|((repeat (first|exact Ext.refl _|assumption|apply Ext.app|apply Ext.mk|(refine Ext.setr ?_ (by (first|omega|(simp only[gL]<;>omega))) _))); done)|(simp only[gL,gA,ro6,gcs.idxG,gcs.ld0,encI,hgc]<;>omega)|fail) only[gB,setAll,partL,fldV,reduceIte,Nat.reduceAdd,Nat.reduceMul,ro6,gcs.idxG,gcs.ld0,encI,hgc]
  refine WP.call (b0x hn2 w6 d5 (by omega) hx q4) ?_
  rintro sl h7 ⟨e7,l,hw,hl,g7⟩
  have w7:=w6.ext e7
  have ro7:=w7.row
  have gcs7:=w7.gc.sl
  have r87:=e7.get r86
  have b87:=(List.getElem?_eq_some_iff.1 r87).1
  simp -implicitDefEqProofs (maxSteps:=1000000) (disch:=first|assumption|omega|(simp only[gL]<;>omega)|((repeat (first|exact Ext.refl _|assumption|apply Ext.app|apply Ext.mk|(refine Ext.setr ?_ (by (first|omega|(simp only[gL]<;>omega))) _))); done)|(simp only[gL,gA,ro7,gcs7.ld0,encI,hgc,g7.sl.one,g7.sl.cells,r87]<;>omega)|fail) only[gB,setAll,partL,fldV,reduceIte,Nat.reduceAdd,Nat.reduceMul,ro7,gcs7.ld0,encI,hgc,g7.sl.one,g7.sl.cells,r87]
  refine WP.ret ⟨(e06.trans e7).setr (by omega) _,gf cs2,lc,.inr ⟨by rw[q5]; exact q4,qq,l,sl,q1,q3,?_,?_,hl,rfl,?_⟩⟩
  ·rw[hxx]; exact q5
  ·rw[hxx,q5]; exact hw
  ·have h67:=e06.len
   exact (g7.set (by omega) _).mono h67 (by simp)
end
end Go.Gm.AQ
namespace Go.Gm.AQ
open Go Go.Gm
def rowL (c:Nat->Int)(S v:Nat):List Int:=(List.range S).map fun s=>c (v*S+s)
theorem e7_ (c:Nat->Int)(S v:Nat):(rowL c S v).length=S:=by simp[rowL]
theorem a6h {c:Nat->Int}{S v s:Nat}(hs:s<S):gi (rowL c S v) (s:Int)=c (v*S+s):=by
 rw[e2_ (by simpa [rowL] using hs)]
 simp[rowL]
theorem a6K {S v s v' s':Nat}(h:s<S)(h':s'<S)(e:v*S+s=v'*S+s'):v=v'/\s=s':=by
 have h1:(v*S+s) / S=v:=by rw[Nat.mul_comm,Nat.mul_add_div (by omega),Nat.div_eq_of_lt h,Nat.add_zero]
 have h2:(v'*S+s') / S=v':=by rw[Nat.mul_comm,Nat.mul_add_div (by omega),Nat.div_eq_of_lt h',Nat.add_zero]
 have:v=v':=by rw[<-h1,<-h2,e]
 subst this
 exact ⟨rfl,by omega⟩
theorem b4j {c:Nat->Int}{S V t:Nat}(ht:t<S)(x:Int)(v:Nat):rowL (up c (V*S+t) x) S v=if v=V then (rowL c S V).set t x else rowL c S v:=by
 apply List.ext_getElem
 ·split<;>simp[rowL]
 intro s h1 h2
 have hs:s<S:=by simpa [rowL] using h1
 by_cases q:v=V
 ·subst q
  simp only[if_true,rowL,List.getElem_map,List.getElem_range,List.getElem_set,up]
  by_cases q2:t=s
  ·subst q2; simp
  ·rw[if_neg q2,if_neg (fun z=>q2 (by omega))]
 ·simp only[if_neg q,rowL,List.getElem_map,List.getElem_range,up]
  rw[if_neg fun z=>q (a6K hs ht z).1]
theorem Fam.write0 {κ:Type}[DecidableEq κ]{W:Nat->Prop}{h:Heap}{A:κ->Prop}{S:κ->AV}{X:κ->List (List AV)}(f:Fam W h 1 A S X){t:κ}(ht:A t){i:Nat}(hi:i<(X t).length){v:AV}(hv:v.cells.length=1)(h1:v.cells.all AV.one=true) :
  ∃h',stN 1 h (elP 1 (S t) i) v=some h'/\Fam W h' 1 A S (fun t'=>if t'=t then (X t).set i v.cells else X t')/\FrS W h h':=by
 obtain ⟨ob,f1,f2⟩:=f
 obtain ⟨g,g2⟩:=f1 t ht
 have hn:S t≠.nils:=g.nnil (by intro q; rw[q] at hi; simp at hi)
 obtain ⟨w1,w2⟩:=g2 hn
 obtain ⟨h',k1,k2,k3,k4⟩:=g.write0 (i:=(i:Int)) (by omega) (by omega) hv h1
 have fr:FrS (fun o=>o=ob t) h h':=k3.s.mono fun o z1 z2=>by omega
 refine ⟨h',k1,⟨ob,fun t' ht'=>?_,f2⟩,fr.mono fun o _ z=>z▸w1⟩
 show Gr (ob t') (ob t'+1) h' 1 (S t') (if t'=t then (X t).set i v.cells else X t')/\_
 by_cases q:t'=t
 ·subst q
  rw[if_pos rfl]
  refine ⟨k2.cong (by rw[Int.toNat_natCast]),fun z=>⟨w1,by omega⟩⟩
 ·rw[if_neg q]
  obtain ⟨g',g2'⟩:=f1 t' ht'
  by_cases z:S t'=.nils
  ·refine ⟨?_,fun q=>absurd z q⟩
   have hx:X t'=[]:=by rw[z] at g'; exact g'.isNil
   rw[hx,z]; exact Gr.nil ..
  ·refine ⟨g'.frs fr fun o q1 q2 q3=>f2 t' t ht' ht q z hn (by omega),fun q=>⟨(g2' q).1,by have:=(g2' q).2; omega⟩⟩
structure MatW (W:Nat->Prop) (oc:Nat) (c7:AV) (N S:Nat) (rows:List AV) (c:Nat->Int) (h:Heap):Prop where
 gc:Sl h 1 c7 (rows.map fun s=>[s])
 oc:∀h',FrS W h h'->Sl h' 1 c7 (rows.map fun s=>[s])
 lr:rows.length=N
 f:Fam W h 1 (fun v:Nat=>v<N) (fun v:Nat=>gi rows (v:Int)) (fun v=>(rowL c S v).map encI)
theorem MatW.row {W:Nat->Prop}{oc:Nat}{c7:AV}{N S:Nat}{rows:List AV}{c:Nat->Int}{h:Heap}(w:MatW W oc c7 N S rows c h){v:Nat}(hv:v<N):Sl h 1 (gi rows (v:Int)) ((rowL c S v).map encI):=w.f.sl hv
theorem MatW.set {W:Nat->Prop}{oc:Nat}{c7:AV}{N S:Nat}{rows:List AV}{c:Nat->Int}{h:Heap}(w:MatW W oc c7 N S rows c h){v s:Nat}(hv:v<N)(hs:s<S)(x:Int) :
  ∃h',stN 1 h (elP 1 (gi rows (v:Int)) s) (I x)=some h'/\MatW W oc c7 N S rows (up c (v*S+s) x) h'/\FrS W h h':=by
 obtain ⟨h',k1,k2,k3⟩:=Fam.write0 w.f (t:=v) hv (i:=s) (by rw[List.length_map,e7_]; exact hs) (v:=I x) rfl rfl
 refine ⟨h',k1,⟨w.oc h' k3,fun h2 f2=>w.oc h2 (k3.trans f2),w.lr,k2.congr fun t ht=>⟨rfl,?_⟩⟩,k3⟩
 show (rowL (up c (v*S+s) x) S t).map encI=if t=v then _ else _
 rw[b4j hs]
 by_cases q:t=v
 ·rw[if_pos q,if_pos q,List.map_set]; rfl
 ·rw[if_neg q,if_neg q]
theorem MatW.ext {W:Nat->Prop}{oc:Nat}{c7:AV}{N S:Nat}{rows:List AV}{c:Nat->Int}{h h':Heap}(w:MatW W oc c7 N S rows c h)(e:Ext h h'):MatW W oc c7 N S rows c h':=
 ⟨w.oc h' (FrS.ofExt e),fun h2 f2=>w.oc h2 ((FrS.ofExt e).trans f2),w.lr,w.f.frs (D:=fun _=>False) (FrS.ofExt e) fun _ _ _ z=>z⟩
section
variable {h0:Heap} {N:Nat} {es:List E} {D:List (List Int)} {acc:List Bool}
abbrev eg (es:List E)(i:Nat):E:=gi es (i:Int)
def src (es:List E)(S i s:Nat):Nat:=(eg es i).fr.toNat*S+s
def dst (es:List E)(D:List (List Int))(i s:Nat):Nat:=(eg es i).to.toNat*D.length+(nx D s (eg es i).md).toNat
def Rx (es:List E)(D:List (List Int))(c:Nat->Int)(i s:Nat):Prop:=0<=c (src es D.length i s)->0<=c (dst es D i s)/\c (dst es D i s)<=c (src es D.length i s)+(eg es i).co
def SatUp (es:List E)(D:List (List Int))(c:Nat->Int)(i s:Nat):Prop:=(∀i' s',i'<i->s'<D.length->Rx es D c i' s')/\∀s',s'<s->Rx es D c i s'
structure PI (es:List E) (D:List (List Int)) (N:Nat) (st:Nat->Prop) (b:Bool) (c0 c:Nat->Int) (i s:Nat):Prop where
 r:RI (N*D.length) 2147483647 (hopA es D.length (onL es D)) st c
 p:(b=false/\c=c0/\SatUp es D c i s)\/(b=true/\mu (N*D.length) 2147483647 c<mu (N*D.length) 2147483647 c0)
theorem a7v (ok:DOk D acc)(no:NetOk N es){i s:Nat}(hi:i<es.length)(hs:s<D.length):(dst es D i s,i,(eg es i).co)∈hopA es D.length (onL es D) (src es D.length i s):=by
 have he:0<=(eg es i).fr/\(eg es i).fr<N/\0<=(eg es i).to/\(eg es i).to<N/\0<=(eg es i).md/\(eg es i).md<5:=no.edge _ (c4_ (xs:=es) (i:=(i:Int)) (by omega) (by omega))
 have ht:0<=nx D s (eg es i).md/\nx D s (eg es i).md<D.length:=ok.to s (eg es i).md (by omega) (by omega) he.2.2.2.2.1 he.2.2.2.2.2
 have hsp:=a6K (S:=D.length) (v:=(eg es i).fr.toNat) (s:=s) (v':=src es D.length i s / D.length) (s':=src es D.length i s % D.length) hs (Nat.mod_lt _ (by omega)) (by
  rw[Nat.mul_comm (src es D.length i s / D.length),Nat.div_add_mod]; rfl)
 refine List.mem_map.2 ⟨((eg es i).to,nx D s (eg es i).md,(i:Int)),List.mem_map.2 ⟨(i:Int),?_,?_⟩,?_⟩
 ·refine j7_.2 ⟨by omega,by omega,?_⟩
  rw[<-hsp.1]
  simp only[beq_iff_eq]
  show (eg es i).fr=_
  omega
 ·rw[<-hsp.2]
 ·simp only[hopOf,dst]
  congr 1
  have h1:(eg es i).to=((eg es i).to.toNat:Int):=by omega
  have h2:nx D s (eg es i).md=((nx D s (eg es i).md).toNat:Int):=by omega
  generalize (eg es i).to.toNat=a at h1
  generalize (nx D s (eg es i).md).toNat=b at h2
  rw[h1,h2,<-Int.natCast_mul,<-Int.natCast_add,Int.toNat_natCast]
theorem a7w (ok:DOk D acc)(no:NetOk N es){x y e:Nat}{w:Int}(hx:x<N*D.length)(h:(y,e,w)∈hopA es D.length (onL es D) x):∃i s,i<es.length/\s<D.length/\x=src es D.length i s/\y=dst es D i s/\w=(eg es i).co:=by
 obtain ⟨q1,q2⟩:=dm hx
 obtain ⟨t,ht,h1⟩:=List.mem_map.1 h
 obtain ⟨k,hk,rfl⟩:=List.mem_map.1 ht
 obtain ⟨k0,k1,k2⟩:=j7_.1 hk
 obtain ⟨i,rfl⟩:∃i:Nat,k=i:=⟨k.toNat,by omega⟩
 simp only[beq_iff_eq] at k2
 have he:0<=(eg es i).fr/\(eg es i).fr<N/\0<=(eg es i).to/\(eg es i).to<N/\0<=(eg es i).md/\(eg es i).md<5:=no.edge _ (c4_ (xs:=es) (i:=(i:Int)) (by omega) (by omega))
 have htt:0<=nx D ((x % D.length:Nat):Int) (eg es i).md/\nx D ((x % D.length:Nat):Int) (eg es i).md<D.length:=ok.to _ (eg es i).md (Int.natCast_nonneg _) (Int.ofNat_lt.2 q2) he.2.2.2.2.1 he.2.2.2.2.2
 refine ⟨i,x % D.length,by omega,q2,?_,?_⟩
 ·have:(eg es i).fr.toNat=x / D.length:=by
   show (gi es (i:Int)).fr.toNat=_
   rw[k2,Int.toNat_natCast]
  rw[src,this,Nat.mul_comm,Nat.div_add_mod]
 ·simp only[hopOf] at h1
  cases h1
  refine ⟨?_,rfl⟩
  rw[dst]
  have h1:(eg es i).to=((eg es i).to.toNat:Int):=by omega
  have h2:nx D ((x % D.length:Nat):Int) (eg es i).md=((nx D ((x % D.length:Nat):Int) (eg es i).md).toNat:Int):=by omega
  generalize (eg es i).to.toNat=a at h1
  generalize (nx D ((x % D.length:Nat):Int) (eg es i).md).toNat=b at h2
  show ((eg es i).to*(D.length:Int)+nx D ((x % D.length:Nat):Int) (eg es i).md).toNat=_
  rw[h1,h2,<-Int.natCast_mul,<-Int.natCast_add,Int.toNat_natCast]
theorem PI.done {st:Nat->Prop}{b:Bool}{c0 c:Nat->Int}(ok:DOk D acc)(no:NetOk N es)(co:COk es)(hg:GOk (N*D.length) 2147483647 (hopA es D.length (onL es D)))(hst:∀x,st x->x<N*D.length)(p:PI es D N st false c0 c es.length 0):LC (N*D.length) (hopA es D.length (onL es D)) st c:=by
 obtain ⟨_,_,hs,_⟩:=p.p.resolve_right (by simp)
 refine p.r.lst hg hst fun x hx h0 y e w hm=>?_
 obtain ⟨i,s,i1,s1,rfl,rfl,rfl⟩:=a7w ok no hx hm
 exact hs i s i1 s1 h0
theorem PI.keep {st:Nat->Prop}{b:Bool}{c0 c:Nat->Int}{i s:Nat}(p:PI es D N st b c0 c i s)(h:Rx es D c i s):PI es D N st b c0 c i (s+1):=by
 refine ⟨p.r,p.p.imp (fun ⟨z1,z2,z3,z4⟩=>⟨z1,z2,z3,fun s' hs'=>?_⟩) fun z=>z⟩
 by_cases q:s'=s
 ·subst q; exact h
 ·exact z4 s' (by omega)
theorem PI.next {st:Nat->Prop}{b:Bool}{c0 c:Nat->Int}{i:Nat}(p:PI es D N st b c0 c i D.length):PI es D N st b c0 c (i+1) 0:=by
 refine ⟨p.r,p.p.imp (fun ⟨z1,z2,z3,z4⟩=>⟨z1,z2,fun i' s' hi hs=>?_,fun s' hs=>by omega⟩) fun z=>z⟩
 by_cases q:i'=i
 ·subst q; exact z4 s' hs
 ·exact z3 i' s' (by omega) hs
theorem PI.relax {st:Nat->Prop}{b:Bool}{c0 c:Nat->Int}{i s:Nat}(ok:DOk D acc)(no:NetOk N es)(hg:GOk (N*D.length) 2147483647 (hopA es D.length (onL es D)))(hst:∀x,st x->x<N*D.length)(hi:i<es.length)(hs:s<D.length)(hx:src es D.length i s<N*D.length)(p:PI es D N st b c0 c i s)(h0:0<=c (src es D.length i s))(hr:c (dst es D i s)<0\/c (src es D.length i s)+(eg es i).co<c (dst es D i s)):PI es D N st true c0 (up c (dst es D i s) (c (src es D.length i s)+(eg es i).co)) i (s+1):=by
 obtain ⟨r1,r2⟩:=p.r.relax hg hst hx (a7v ok no hi hs) h0 hr
 refine ⟨r1,.inr ⟨rfl,?_⟩⟩
 rcases p.p with ⟨_,rfl,_⟩|⟨_,z⟩
 ·exact r2
 ·omega
end
end Go.Gm.AQ
namespace Go.Gm.AQ
open Go Go.Gm
section
variable {N:Nat} {es:List E} {D:List (List Int)} {acc:List Bool}
theorem b2I {W:Nat->Prop}{hb:Heap}{o3 o4 oe hcl i:Nat}{sE sD sA c7:AV}{rows:List AV}{st:Nat->Prop}{c0:Nat->Int}{Q:AV->Heap->Prop}(ok:DOk D acc)(no:NetOk N es)(co:COk es)(hn2:N*D.length<=1000000)(hg:GOk (N*D.length) 2147483647 (hopA es D.length (onL es D)))(hst:∀x,st x->x<N*D.length)(hW:∀o,W o->hb.length<=o/\o<hcl)(hD:Sl hb 5 sD (D.map encR))(r4:hb[o4]?=some (.cells ⟨[sD,sA],0,0,false⟩))(hi:i<es.length)(hoe:hcl<=oe)(hbe:hb.length<=hcl)(hQ:∀h b c,Ext hb h->hcl<=h.length->MatW W 0 c7 N D.length rows c h->PI es D N st b c0 c i D.length->WP (fun p:(Nat × Nat) × Nat=>v1_ p.1.1 p.1.2 p.2 (.ptr o3 0 2 0) (.ptr o4 0 2 0) c7 (.bool b) (I i) h) Q) :
  ∀(d s:Nat) (h:Heap) (b:Bool) (c:Nat->Int),s+d=D.length->Ext hb h->hcl<=h.length->MatW W 0 c7 N D.length rows c h->h[oe]?=some (.cells ⟨encE (eg es i),0,0,false⟩)->PI es D N st b c0 c i s->
   WP (fun p:((Nat × Nat) × Nat) × Nat=>i1_ p.1.1.1 p.1.1.2 p.1.2 p.2 (.ptr o3 0 2 0) (.ptr o4 0 2 0) c7 (.bool b) (I i) (.ptr oe 0 4 0) (I s) h) Q:=by
 intro d
 induction d with
 |zero=>
  intro s h b c h1 e hl w re p
  refine WP.rnd (fun i' j=>a0h i'.1.1 i'.1.2 i'.2 j (.ptr o3 0 2 0) (.ptr o4 0 2 0) c7 (.bool b) (I i) (.ptr oe 0 4 0) (I s) h) ?_
  obtain rfl:s=D.length:=by omega
  have r4':=e.get r4
  simp -implicitDefEqProofs (maxSteps:=1000000) (disch:=first|assumption|omega|(simp only[gL]<;>omega)|((repeat (first|exact Ext.refl _|assumption|apply Ext.app|apply Ext.mk|(refine Ext.setr ?_ (by (first|omega|(simp only[gL]<;>omega))) _))); done)|(simp only[gL,gA,r4',hD.lenG]<;>omega)|fail) only[gB,setAll,partL,fldV,reduceIte,Nat.reduceAdd,Nat.reduceMul,r4',hD.lenG]
  exact WP.lv (hQ h b c e hl w p) fun i j=>rfl
 |succ d ih=>
  intro s h b c h1 e hl w re p
  refine WP.rnd (fun i' j=>a0h i'.1.1 i'.1.2 i'.2 j (.ptr o3 0 2 0) (.ptr o4 0 2 0) c7 (.bool b) (I i) (.ptr oe 0 4 0) (I s) h) ?_
  have hs:s<D.length:=by omega
  have r4':=e.get r4
  have he:0<=(eg es i).fr/\(eg es i).fr<N/\0<=(eg es i).to/\(eg es i).to<N/\0<=(eg es i).md/\(eg es i).md<5:=no.edge _ (c4_ (xs:=es) (i:=(i:Int)) (by omega) (by omega))
  have ht:0<=nx D s (eg es i).md/\nx D s (eg es i).md<D.length:=ok.to s (eg es i).md (by omega) (by omega) he.2.2.2.2.1 he.2.2.2.2.2
  have hco:0<=(eg es i).co/\(eg es i).co<=2147483647:=co.c _ (c4_ (xs:=es) (i:=(i:Int)) (by omega) (by omega))
  obtain ⟨pp,p1,p2,-⟩:=cellA (H:=h) hD e (i:=(s:Int)) (j:=(eg es i).md) (by omega) (by omega) he.2.2.2.2.1 he.2.2.2.2.2
  rw[show (encR (gi D s)).getD (eg es i).md.toNat .undef=I (nx D s (eg es i).md) by
   have hr:=ok.row s (by omega) (by omega)
   simp only[encR,nx,List.getD_eq_getElem?_getD,List.getElem?_map]
   have:=f3_ (xs:=gi D s) he.2.2.2.2.1 (by omega)
   rw[this]; rfl] at p2
  have hx1:src es D.length i s=(eg es i).fr.toNat*D.length+s:=rfl
  have hx2:dst es D i s=(eg es i).to.toNat*D.length+(nx D s (eg es i).md).toNat:=rfl
  have hsn:src es D.length i s<N*D.length:=by rw[hx1]; exact spotN (by omega) hs
  have hdn:dst es D i s<N*D.length:=by rw[hx2]; exact spotN (by omega) (by omega)
  have hW0:(0:Int)<=2147483647:=by omega
  have bs:=p.r.le hW0 hsn
  have bd:=p.r.le hW0 hdn
  have hnn:((N*D.length:Nat):Int)*2147483647<=1000000*2147483647:=by omega
  have kp:=p.keep
  have rl:=p.relax ok no hg hst hi hs hsn
  simp only[Rx] at kp
  rw[hx1,hx2] at kp rl
  rw[hx1] at bs
  rw[hx2] at bd
  obtain ⟨f,hf⟩:∃f:Nat,(eg es i).fr=f:=⟨(eg es i).fr.toNat,by omega⟩
  obtain ⟨t,hto⟩:∃t:Nat,(eg es i).to=t:=⟨(eg es i).to.toNat,by omega⟩
  obtain ⟨u,hu⟩:∃u:Nat,nx D s (eg es i).md=u:=⟨(nx D s (eg es i).md).toNat,by omega⟩
  obtain ⟨m,hm⟩:∃m:Int,(eg es i).md=m:=⟨_,rfl⟩
  obtain ⟨y,hy⟩:∃y:Int,(eg es i).co=y:=⟨_,rfl⟩
  have ncf:((f:Nat):Int).toNat=f:=Int.toNat_natCast f
  have nct:((t:Nat):Int).toNat=t:=Int.toNat_natCast t
  have ncu:((u:Nat):Int).toNat=u:=Int.toNat_natCast u
  rw[hu] at p2
  rw[hm] at p1
  simp only[hf,hto,hu,hy,ncf,nct,ncu] at kp rl bs bd hco
  simp only[encE,hf,hto,hm,hy] at re
  have hfN:f<N:=by omega
  have htN:t<N:=by omega
  have huS:u<D.length:=by omega
  have lr:=w.lr
  have rf:=w.row hfN
  have rt:=w.row htN
  have gf1:=a6h (c:=c) (v:=f) hs
  have gt1:=a6h (c:=c) (v:=t) huS
  obtain ⟨x1,hx1'⟩:∃x1,c (f*D.length+s)=x1:=⟨_,rfl⟩
  obtain ⟨x2,hx2'⟩:∃x2,c (t*D.length+u)=x2:=⟨_,rfl⟩
  simp only[hx1',hx2'] at kp rl bs bd gf1 gt1
  by_cases c1:0<=x1
  ·by_cases c2:x2<0
   ·obtain ⟨h',s1,w1,f1⟩:=w.set htN huS (x1+y)
    simp -implicitDefEqProofs (maxSteps:=1000000) (disch:=first|assumption|omega|(simp only[gL]<;>omega)|((repeat (first|exact Ext.refl _|assumption|apply Ext.app|apply Ext.mk|(refine Ext.setr ?_ (by (first|omega|(simp only[gL]<;>omega))) _))); done)|(simp only[gL,gA,r4',hD.lenG,hD.idxG,re,p1,p2,w.gc.idxG,w.gc.ld0,lr,rf.idxG,rf.ld0,rt.idxG,rt.ld0,e7_,encI,gf1,gt1,s1]<;>omega)|fail) only[gB,setAll,partL,fldV,reduceIte,Nat.reduceAdd,Nat.reduceMul,r4',hD.lenG,hD.idxG,re,p1,p2,w.gc.idxG,w.gc.ld0,lr,rf.idxG,rf.ld0,rt.idxG,rt.ld0,e7_,encI,gf1,gt1,s1]
    have e1:Ext hb h':=f1.ext e fun o z1 z2=>by have:=hW o z2; omega
    have hl1:=f1.len
    refine ih (s+1) h' true _ (by omega) e1 (by omega) w1 ?_ (rl c1 (.inl c2))
    rw[f1.get (fun z=>by have:=hW _ z; omega) (List.getElem?_eq_some_iff.1 re).1,re]
    simp only[encE,hf,hto,hm,hy]
   ·by_cases c3:x1+y<x2
    ·obtain ⟨h',s1,w1,f1⟩:=w.set htN huS (x1+y)
     simp -implicitDefEqProofs (maxSteps:=1000000) (disch:=first|assumption|omega|(simp only[gL]<;>omega)|((repeat (first|exact Ext.refl _|assumption|apply Ext.app|apply Ext.mk|(refine Ext.setr ?_ (by (first|omega|(simp only[gL]<;>omega))) _))); done)|(simp only[gL,gA,r4',hD.lenG,hD.idxG,re,p1,p2,w.gc.idxG,w.gc.ld0,lr,rf.idxG,rf.ld0,rt.idxG,rt.ld0,e7_,encI,gf1,gt1,s1]<;>omega)|fail) only[gB,setAll,partL,fldV,reduceIte,Nat.reduceAdd,Nat.reduceMul,r4',hD.lenG,hD.idxG,re,p1,p2,w.gc.idxG,w.gc.ld0,lr,rf.idxG,rf.ld0,rt.idxG,rt.ld0,e7_,encI,gf1,gt1,s1]
     have e1:Ext hb h':=f1.ext e fun o z1 z2=>by have:=hW o z2; omega
     have hl1:=f1.len
     refine ih (s+1) h' true _ (by omega) e1 (by omega) w1 ?_ (rl c1 (.inr c3))
     rw[f1.get (fun z=>by have:=hW _ z; omega) (List.getElem?_eq_some_iff.1 re).1,re]
     simp only[encE,hf,hto,hm,hy]
    ·simp -implicitDefEqProofs (maxSteps:=1000000) (disch:=first|assumption|omega|(simp only[gL]<;>omega)|((repeat (first|exact Ext.refl _|assumption|apply Ext.app|apply Ext.mk|(refine Ext.setr ?_ (by (first|omega|(simp only[gL]<;>omega))) _))); done)|(simp only[gL,gA,r4',hD.lenG,hD.idxG,re,p1,p2,w.gc.idxG,w.gc.ld0,lr,rf.idxG,rf.ld0,rt.idxG,rt.ld0,e7_,encI,gf1,gt1]<;>omega)|fail) only[gB,setAll,partL,fldV,reduceIte,Nat.reduceAdd,Nat.reduceMul,r4',hD.lenG,hD.idxG,re,p1,p2,w.gc.idxG,w.gc.ld0,lr,rf.idxG,rf.ld0,rt.idxG,rt.ld0,e7_,encI,gf1,gt1]
     refine ih (s+1) h b c (by omega) e hl w ?_ (kp fun _=>⟨by omega,by omega⟩)
     simp only[encE,hf,hto,hm,hy]; exact re
  ·simp -implicitDefEqProofs (maxSteps:=1000000) (disch:=first|assumption|omega|(simp only[gL]<;>omega)|((repeat (first|exact Ext.refl _|assumption|apply Ext.app|apply Ext.mk|(refine Ext.setr ?_ (by (first|omega|(simp only[gL]<;>omega))) _))); done)|(simp only[gL,gA,r4',hD.lenG,hD.idxG,re,p1,p2,w.gc.idxG,w.gc.ld0,lr,rf.idxG,rf.ld0,rt.idxG,rt.ld0,e7_,encI,gf1,gt1]<;>omega)|fail) only[gB,setAll,partL,fldV,reduceIte,Nat.reduceAdd,Nat.reduceMul,r4',hD.lenG,hD.idxG,re,p1,p2,w.gc.idxG,w.gc.ld0,lr,rf.idxG,rf.ld0,rt.idxG,rt.ld0,e7_,encI,gf1,gt1]
   refine ih (s+1) h b c (by omega) e hl w ?_ (kp fun z=>absurd z c1)
   simp only[encE,hf,hto,hm,hy]; exact re
end
end Go.Gm.AQ
namespace Go.Gm.AQ
open Go Go.Gm
section
variable {N:Nat} {es:List E} {D:List (List Int)} {acc:List Bool}
theorem a8Q {W:Nat->Prop}{hb:Heap}{o3 o4 hcl:Nat}{sE sD sA c7:AV}{rows:List AV}{st:Nat->Prop}{c0:Nat->Int}{Q:AV->Heap->Prop}(ok:DOk D acc)(no:NetOk N es)(co:COk es)(hn2:N*D.length<=1000000)(hg:GOk (N*D.length) 2147483647 (hopA es D.length (onL es D)))(hst:∀x,st x->x<N*D.length)(hW:∀o,W o->hb.length<=o/\o<hcl)(hE:Sl hb 4 sE (es.map encE))(hD:Sl hb 5 sD (D.map encR))(r3:hb[o3]?=some (.cells ⟨[I N,sE],0,0,false⟩))(r4:hb[o4]?=some (.cells ⟨[sD,sA],0,0,false⟩))(hbe:hb.length<=hcl)(hQ:∀h b c,Ext hb h->hcl<=h.length->MatW W 0 c7 N D.length rows c h->PI es D N st b c0 c es.length 0->WP (fun p:Nat × Nat=>i0_ p.1 p.2 (.ptr o3 0 2 0) (.ptr o4 0 2 0) c7 (.bool b) h) Q) :
  ∀(d i:Nat) (h:Heap) (b:Bool) (c:Nat->Int),i+d=es.length->Ext hb h->hcl<=h.length->MatW W 0 c7 N D.length rows c h->PI es D N st b c0 c i 0->
   WP (fun p:(Nat × Nat) × Nat=>o1_ p.1.1 p.1.2 p.2 (.ptr o3 0 2 0) (.ptr o4 0 2 0) c7 (.bool b) (I i) h) Q:=by
 have hle:=no.len
 intro d
 induction d with
 |zero=>
  intro i h b c h1 e hl w p
  refine WP.rnd (fun i' j=>a0i i'.1 i'.2 j (.ptr o3 0 2 0) (.ptr o4 0 2 0) c7 (.bool b) (I i) h) ?_
  obtain rfl:i=es.length:=by omega
  have r3':=e.get r3
  simp -implicitDefEqProofs (disch:=first|assumption|omega|(simp only[gL,gA]<;>omega)|fail) only[gC,reduceIte,r3',hE.lenG]
  exact WP.lv (hQ h b c e hl w p) fun i j=>rfl
 |succ d ih=>
  intro i h b c h1 e hl w p
  refine WP.rnd (fun i' j=>a0i i'.1 i'.2 j (.ptr o3 0 2 0) (.ptr o4 0 2 0) c7 (.bool b) (I i) h) ?_
  have r3':=e.get r3
  obtain ⟨ed,hed⟩:∃ed,gi es (i:Int)=ed:=⟨_,rfl⟩
  simp -implicitDefEqProofs (disch:=first|assumption|omega|exact Ext.refl _|(simp only[gL,gA]<;>omega)|fail) only[gC,reduceIte,r3',hE.lenG,hE.idxG,hE.ldN,hed,encE]
  obtain ⟨h2,hh2⟩:∃h2,h2=((h++[AObj.cells ⟨[AV.int .i64 0,AV.int .i64 0,AV.int .i64 0,AV.int .i64 0],0,0,false⟩]).set h.length (.cells ⟨[I ed.fr,I ed.to,I ed.md,I ed.co],0,0,false⟩)):=⟨_,rfl⟩
  have e2:Ext h h2:=by rw[hh2]; ((repeat (first|exact Ext.refl _|assumption|apply Ext.app|apply Ext.mk|(refine Ext.setr ?_ (by (first|omega|(simp only[gL]<;>omega))) _))))
  have r2:h2[h.length]?=some (.cells ⟨[I ed.fr,I ed.to,I ed.md,I ed.co],0,0,false⟩):=by rw[hh2]; exact a3_ (by simp)
  rw[<-hh2]
  have hl2:=e2.len
  refine WP.ent (b2I (sE:=sE) (c0:=c0) (N:=N) (acc:=acc) (st:=st) (rows:=rows) ok no co hn2 hg hst hW hD r4 (i:=i) (by omega) (oe:=h.length) hl hbe (fun h3 b3 c3 e3 hl3 w3 p3=>?_) D.length 0 h2 b c (by omega) (e.trans e2) (by omega) (w.ext e2) ?_ p) fun i=>rfl
  ·refine WP.congr (fun p=>a3b p.1.1 p.1.2 p.2 (.ptr o3 0 2 0) (.ptr o4 0 2 0) c7 (.bool b3) (I i) h3) ?_
   simp -implicitDefEqProofs (disch:=first|assumption|omega|(simp only[gL,gA]<;>omega)|fail) only[gC,reduceIte]
   exact ih (i+1) h3 b3 c3 (by omega) e3 hl3 w3 p3.next
  ·show h2[h.length]?=some (.cells ⟨encE (gi es (i:Int)),0,0,false⟩)
   rw[hed]; exact r2
theorem b2J {W:Nat->Prop}{hb:Heap}{o3 o4 hcl:Nat}{sE sD sA c7:AV}{rows:List AV}{st:Nat->Prop}{Q:AV->Heap->Prop}(ok:DOk D acc)(no:NetOk N es)(co:COk es)(hn2:N*D.length<=1000000)(hg:GOk (N*D.length) 2147483647 (hopA es D.length (onL es D)))(hst:∀x,st x->x<N*D.length)(hW:∀o,W o->hb.length<=o/\o<hcl)(hE:Sl hb 4 sE (es.map encE))(hD:Sl hb 5 sD (D.map encR))(r3:hb[o3]?=some (.cells ⟨[I N,sE],0,0,false⟩))(r4:hb[o4]?=some (.cells ⟨[sD,sA],0,0,false⟩))(hbe:hb.length<=hcl)(hQ:∀h c,Ext hb h->MatW W 0 c7 N D.length rows c h->LC (N*D.length) (hopA es D.length (onL es D)) st c->Q c7 h) :
  ∀(d:Nat) (h:Heap) (c:Nat->Int),mu (N*D.length) 2147483647 c<=d->Ext hb h->hcl<=h.length->MatW W 0 c7 N D.length rows c h->RI (N*D.length) 2147483647 (hopA es D.length (onL es D)) st c->
   WP (fun p:Nat × Nat=>i0_ p.1 p.2 (.ptr o3 0 2 0) (.ptr o4 0 2 0) c7 (.bool true) h) Q:=by
 intro d
 induction d with
 |zero=>
  intro h c hm e hl w r
  refine WP.rnd (fun i j=>j8_ i j (.ptr o3 0 2 0) (.ptr o4 0 2 0) c7 (.bool true) h) ?_
  simp -implicitDefEqProofs (disch:=first|assumption|omega|(simp only[gL,gA]<;>omega)|fail) only[gC,reduceIte]
  refine WP.ent (a8Q (c0:=c) (st:=st) (N:=N) (acc:=acc) (rows:=rows) ok no co hn2 hg hst hW hE hD r3 r4 hbe (fun h3 b3 c3 e3 hl3 w3 p3=>?_) es.length 0 h false c (by omega) e hl w ⟨r,.inl ⟨rfl,rfl,fun i' s' hi _=>by omega,fun s' hs=>by omega⟩⟩) fun i=>rfl
  cases b3 with
  |false=>
   refine WP.rnd (fun i j=>j8_ i j (.ptr o3 0 2 0) (.ptr o4 0 2 0) c7 (.bool false) h3) ?_
   simp -implicitDefEqProofs (disch:=first|assumption|omega|(simp only[gL,gA]<;>omega)|fail) only[gC,reduceIte]
   exact WP.ret (hQ h3 c3 e3 w3 (p3.done (b:=false) ok no co hg hst))
  |true=>
   have:=a7R (n:=N*D.length) (W:=2147483647) (by omega) c3
   rcases p3.p with ⟨z,_⟩|⟨_,z⟩
   ·cases z
   ·omega
 |succ d ih=>
  intro h c hm e hl w r
  refine WP.rnd (fun i j=>j8_ i j (.ptr o3 0 2 0) (.ptr o4 0 2 0) c7 (.bool true) h) ?_
  simp -implicitDefEqProofs (disch:=first|assumption|omega|(simp only[gL,gA]<;>omega)|fail) only[gC,reduceIte]
  refine WP.ent (a8Q (c0:=c) (st:=st) (N:=N) (acc:=acc) (rows:=rows) ok no co hn2 hg hst hW hE hD r3 r4 hbe (fun h3 b3 c3 e3 hl3 w3 p3=>?_) es.length 0 h false c (by omega) e hl w ⟨r,.inl ⟨rfl,rfl,fun i' s' hi _=>by omega,fun s' hs=>by omega⟩⟩) fun i=>rfl
  cases b3 with
  |false=>
   refine WP.rnd (fun i j=>j8_ i j (.ptr o3 0 2 0) (.ptr o4 0 2 0) c7 (.bool false) h3) ?_
   simp -implicitDefEqProofs (disch:=first|assumption|omega|(simp only[gL,gA]<;>omega)|fail) only[gC,reduceIte]
   exact WP.ret (hQ h3 c3 e3 w3 (p3.done (b:=false) ok no co hg hst))
  |true=>
   rcases p3.p with ⟨z,_⟩|⟨_,z⟩
   ·cases z
   ·exact ih h3 c3 (by omega) e3 hl3 w3 p3.r
end
end Go.Gm.AQ
namespace Go.Gm.AQ
open Go Go.Gm
def BW (oc:Nat)(c7:AV)(N:Nat)(k:Nat->Nat)(h:Heap):Prop:=
 ∃rows:List AV,Gr oc (oc+1) h 1 c7 (rows.map fun s=>[s])/\rows.length=N/\Fam (fun o=>oc<o) h 1 (fun v:Nat=>v<N) (fun v:Nat=>gi rows (v:Int)) (fun v=>(List.replicate (k v) (-1:Int)).map encI)
theorem BW.ext {oc:Nat}{c7:AV}{N:Nat}{k:Nat->Nat}{h h':Heap}(b:BW oc c7 N k h)(e:Ext h h'):BW oc c7 N k h':=by
 obtain ⟨rows,g,l,f⟩:=b
 exact ⟨rows,g.ext e,l,f.frs (D:=fun _=>False) (FrS.ofExt e) fun _ _ _ z=>z⟩
theorem BW.congr {oc:Nat}{c7:AV}{N:Nat}{k k':Nat->Nat}{h:Heap}(b:BW oc c7 N k h)(e:∀v,v<N->k' v=k v):BW oc c7 N k' h:=by
 obtain ⟨rows,g,l,f⟩:=b
 exact ⟨rows,g,l,f.congr fun v hv=>⟨rfl,by rw[e v hv]⟩⟩
theorem BW.step {oc:Nat}{c7:AV}{N:Nat}{k:Nat->Nat}{h:Heap}(b:BW oc c7 N k h){v:Nat}(hv:v<N)(hk:k v<=100000)(hoc:oc<h.length) :
  ∃s1 s2 h2 h3,idxS 1 c7 (I v)=some (elP 1 c7 v)/\ld1 h (elP 1 c7 v)=some s1/\apnd 1 8 s1 (.sl h.length 0 1 1 none 0) (h++[AObj.cells ⟨[I (-1)],0,0,false⟩])=some (s2,h2)/\stN 1 h2 (elP 1 c7 v) s2=some h3/\
   BW oc c7 N (fun t=>if t=v then k t+1 else k t) h3/\FrS (fun o=>oc<=o) h h3:=by
 obtain ⟨rows,g,lr,f⟩:=b
 have b1:Sl (h++[AObj.cells ⟨[I (-1)],0,0,false⟩]) 1 (.sl h.length 0 1 1 none 0) [[I (-1)]]:=by
  have:=(Gr.lit (h:=h) (sz:=1) (v:=[I (-1)]) rfl).sl
  rwa [a4_] at this
 have e1:Ext h (h++[AObj.cells ⟨[I (-1)],0,0,false⟩]):=Ext.push _ _
 have f':=f.frs (D:=fun _=>False) (FrS.ofExt e1) fun _ _ _ z=>z
 obtain ⟨s2,h2,k1,k2,k3,k4⟩:=f'.append (bytes:=8) (t:=v) hv b1 (by simp) (by omega) (by omega) (by simp; omega)
 have g2:=(g.ext e1).frs k4 fun o z1 z2=>by omega
 have c2:s2.cells=[s2]:=by
  have:=(k3.sl (t:=v) hv).cells
  simpa using this
 obtain ⟨h3,n1,n2,n3,n4⟩:=g2.write0 (i:=(v:Int)) (by omega) (by rw[List.length_map]; omega) (v:=s2) (by rw[c2]; rfl) (by rw[c2]; simp[k2])
 have hlq:=k4.len
 have gs:=g.sl
 refine ⟨gi rows (v:Int),s2,h2,h3,gs.idxG (by omega) (by omega),?_,k1,n1,?_,?_⟩
 ·have:=gs.ld0 (Ext.refl _) (i:=(v:Int)) (by omega) (by omega) (by omega)
  exact this
 ·refine ⟨rows.set v s2,n2.cong ?_,by rw[List.length_set]; exact lr,?_⟩
  ·rw[c2,List.map_set,Int.toNat_natCast]
  ·have f3:=k3.frs n3.s (fun o z1 z2 z3=>by rcases z2 with z2|z2<;>simp only[List.length_append] at *<;>omega)
   refine (f3.mono fun o z1 z2=>?_).congr fun t ht=>⟨?_,?_⟩
   ·rcases z2 with z2|z2
    ·exact z2
    ·simp only[List.length_append] at z2; omega
   ·show gi (rows.set v s2) (t:Int)=if t=v then s2 else gi rows (t:Int)
    rw[giset2 (by omega)]
   ·show (List.replicate (if t=v then k t+1 else k t) (-1:Int)).map encI=if t=v then (List.replicate (k v) (-1:Int)).map encI++[[I (-1)]] else (List.replicate (k t) (-1:Int)).map encI
    by_cases qt:t=v
    ·subst qt
     rw[if_pos rfl,if_pos rfl,List.replicate_succ',List.map_append]; rfl
    ·rw[if_neg qt,if_neg qt]
 ·have z1:FrS (fun o=>oc<=o) h (h++[AObj.cells ⟨[I (-1)],0,0,false⟩]):=FrS.ofExt e1
  exact (z1.trans (k4.mono fun o _ z=>Nat.le_of_lt z)).trans (n3.s.mono fun o _ z=>z.1)
section
variable {N:Nat} {es:List E} {D:List (List Int)} {acc:List Bool}
def kk (S V s t:Nat):Nat:=if t<V then S else if t=V then s else 0
theorem b5m {hb:Heap}{o3 o4 oc V:Nat}{sD sA c7 vf:AV}(ok:DOk D acc)(hoc:hb.length<=oc)(hD:Sl hb 5 sD (D.map encR))(r4:hb[o4]?=some (.cells ⟨[sD,sA],0,0,false⟩))(hV:V<N)(hN:V<=1000000){Q:AV->Heap->Prop}(hQ:∀h,Ext hb h->oc<h.length->BW oc c7 N (kk D.length (V+1) 0) h->WP (fun p:Nat × Nat=>h9_ p.1 p.2 vf (.ptr o3 0 2 0) (.ptr o4 0 2 0) c7 (I (V+1)) h) Q) :
  ∀(d s:Nat) (h:Heap),s+d=D.length->Ext hb h->oc<h.length->BW oc c7 N (kk D.length V s) h->
   WP (fun p:(Nat × Nat) × Nat=>o0_ p.1.1 p.1.2 p.2 vf (.ptr o3 0 2 0) (.ptr o4 0 2 0) c7 (I V) (I s) h) Q:=by
 have l1:=ok.l1
 intro d
 induction d with
 |zero=>
  intro s h h1 e ho b
  refine WP.rnd (fun i j=>a0g i.1 i.2 j vf (.ptr o3 0 2 0) (.ptr o4 0 2 0) c7 (I V) (I s) h) ?_
  obtain rfl:s=D.length:=by omega
  have r4':=e.get r4
  simp -implicitDefEqProofs (disch:=first|assumption|omega|(simp only[gL,gA]<;>omega)|fail) only[gC,reduceIte,r4',hD.lenG]
  have hb3:WP (fun p:Nat × Nat=>u9_ p.1 p.2 vf (.ptr o3 0 2 0) (.ptr o4 0 2 0) c7 (I V) h) Q:=by
   refine WP.congr (fun p=>a3a p.1 p.2 vf (.ptr o3 0 2 0) (.ptr o4 0 2 0) c7 (I V) h) ?_
   have:V<=1000000:=hN
   simp -implicitDefEqProofs (disch:=first|assumption|omega|(simp only[gL,gA]<;>omega)|fail) only[gC,reduceIte]
   refine hQ h e ho (b.congr fun t ht=>?_)
   simp only[kk]
   by_cases q:t<V
   ·rw[if_pos q,if_pos (by omega)]
   ·by_cases q2:t=V
    ·rw[if_neg q,if_pos (by omega),if_pos q2]
    ·rw[if_neg q,if_neg (by omega),if_neg q2]
     split<;>rfl
  exact WP.lv hb3 fun i j=>rfl
 |succ d ih=>
  intro s h h1 e ho b
  refine WP.rnd (fun i j=>a0g i.1 i.2 j vf (.ptr o3 0 2 0) (.ptr o4 0 2 0) c7 (I V) (I s) h) ?_
  have r4':=e.get r4
  have hkv:kk D.length V s V=s:=by simp[kk]
  obtain ⟨s1,s2,h2,h3,k1,k2,k3,k4,k5,k6⟩:=b.step hV (by rw[hkv]; omega) ho
  simp -implicitDefEqProofs (disch:=first|assumption|omega|(simp only[gL,gA]<;>omega)|fail) only[gC,reduceIte,r4',hD.lenG,k1,k2,k3,k4]
  have hl:=k6.len
  refine ih (s+1) h3 (by omega) (k6.ext e fun o z1 z2=>by omega) (by omega) (k5.congr fun t ht=>?_)
  simp only[kk]
  by_cases q:t=V
  ·subst q; simp
  ·by_cases q2:t<V
   ·simp[q,q2]
   ·simp[q,q2]
theorem b5n (ok:DOk D acc)(no:NetOk N es)(co:COk es):GOk (N*D.length) 2147483647 (hopA es D.length (onL es D)):=by
 refine ⟨by omega,fun x hx y e w hm=>?_⟩
 obtain ⟨i,s,i1,s1,rfl,rfl,rfl⟩:=a7w ok no hx hm
 have he:0<=(eg es i).fr/\(eg es i).fr<N/\0<=(eg es i).to/\(eg es i).to<N/\0<=(eg es i).md/\(eg es i).md<5:=no.edge _ (c4_ (xs:=es) (i:=(i:Int)) (by omega) (by omega))
 have ht:0<=nx D s (eg es i).md/\nx D s (eg es i).md<D.length:=ok.to s (eg es i).md (by omega) (by omega) he.2.2.2.2.1 he.2.2.2.2.2
 have hco:0<=(eg es i).co/\(eg es i).co<=2147483647:=co.c _ (c4_ (xs:=es) (i:=(i:Int)) (by omega) (by omega))
 exact ⟨spotN (by omega) (by omega),hco.1,hco.2⟩
theorem b0y {h:Heap}{sE sD sA:AV}(no:NetOk N es)(co:COk es)(hn2:N*D.length<=1000000)(hs:Sl h 4 sE (es.map encE))(ok:DOk D acc)(hD:Sl h 5 sD (D.map encR))(hA:Sl h 1 sA (acc.map encB)){v:Nat}(hv:v<N) :
  Tot tab b4_ [.agg [I N,sE],.agg [sD,sA],I v] h fun r h'=>Ext h h'/\∃c rows W,LC (N*D.length) (hopA es D.length (onL es D)) (fun x=>x=v*D.length) c/\MatW W 0 r N D.length rows c h':=by
 refine WP.tot (fun k=>a4n k _ _ _ h) ?_
 have hN:N<=100000:=by have:=no.n1; omega
 obtain ⟨h1,hh1⟩:∃h1,h1=(h++[AObj.cells ⟨[I N,sE],0,0,false⟩])++[AObj.cells ⟨[sD,sA],0,0,false⟩]:=⟨_,rfl⟩
 have e1:Ext h h1:=by rw[hh1]; ((repeat (first|exact Ext.refl _|assumption|apply Ext.app|apply Ext.mk|(refine Ext.setr ?_ (by (first|omega|(simp only[gL]<;>omega))) _))))
 have hl1:h1.length=h.length+2:=by rw[hh1]; simp
 have r3:h1[h.length]?=some (.cells ⟨[I N,sE],0,0,false⟩):=by rw[hh1]; simp
 have r4:h1[h.length+1]?=some (.cells ⟨[sD,sA],0,0,false⟩):=by rw[hh1]; simp
 obtain ⟨c7,h2,a2,g2,e2,_,l2⟩:=n1_ (zero:=[AV.nils]) (sz:=1) (bytes:=24) (n:=(N:Int)) h1 (by omega) (by omega) (by omega) rfl rfl
 simp -implicitDefEqProofs (maxSteps:=1000000) (disch:=first|assumption|omega|(simp only[gL]<;>omega)|((repeat (first|exact Ext.refl _|assumption|apply Ext.app|apply Ext.mk|(refine Ext.setr ?_ (by (first|omega|(simp only[gL]<;>omega))) _))); done)|(simp only[gL,gA,hs.one,hs.cells,hD.one,hD.cells,hA.one,hA.cells]<;>omega)|fail) only[gB,setAll,partL,fldV,reduceIte,Nat.reduceAdd,Nat.reduceMul,hs.one,hs.cells,hD.one,hD.cells,hA.one,hA.cells]
 rw[<-hh1]
 simp -implicitDefEqProofs (maxSteps:=1000000) (disch:=first|assumption|omega|(simp only[gL]<;>omega)|((repeat (first|exact Ext.refl _|assumption|apply Ext.app|apply Ext.mk|(refine Ext.setr ?_ (by (first|omega|(simp only[gL]<;>omega))) _))); done)|(simp only[gL,gA,a2]<;>omega)|fail) only[gB,setAll,partL,fldV,reduceIte,Nat.reduceAdd,Nat.reduceMul,a2]
 have b0:BW h1.length c7 N (kk D.length 0 0) h2:=by
  refine ⟨List.replicate N .nils,g2.cong (by simp),by simp,Fam.nil _ _ _ fun t ht=>⟨a1P (by omega) (by omega),by simp[kk]⟩⟩
 have hg:=b5n ok no co
 have main:∀(d V:Nat) (h':Heap),V+d=N->Ext h1 h'->h1.length<h'.length->BW h1.length c7 N (kk D.length V 0) h'->
   WP (fun p:Nat × Nat=>h9_ p.1 p.2 (I v) (.ptr h.length 0 2 0) (.ptr (h.length+1) 0 2 0) c7 (I V) h') fun r h'=>Ext h h'/\∃c rows W,LC (N*D.length) (hopA es D.length (onL es D)) (fun x=>x=v*D.length) c/\MatW W 0 r N D.length rows c h':=by
  intro d
  induction d with
  |zero=>
   intro V h' hV e ho b
   refine WP.rnd (fun i j=>a0j i j (I v) (.ptr h.length 0 2 0) (.ptr (h.length+1) 0 2 0) c7 (I V) h') ?_
   obtain rfl:V=N:=by omega
   have r3':=e.get r3
   simp -implicitDefEqProofs (maxSteps:=1000000) (disch:=first|assumption|omega|(simp only[gL]<;>omega)|((repeat (first|exact Ext.refl _|assumption|apply Ext.app|apply Ext.mk|(refine Ext.setr ?_ (by (first|omega|(simp only[gL]<;>omega))) _))); done)|(simp only[gL,gA,r3']<;>omega)|fail) only[gB,setAll,partL,fldV,reduceIte,Nat.reduceAdd,Nat.reduceMul,r3']
   obtain ⟨rows,gc,lr,f⟩:=b
   have w:MatW (fun o=>h1.length<o/\o<h'.length) 0 c7 V D.length rows (fun _=>-1) h':=by
    refine ⟨gc.sl,fun h'' fr=>(gc.frs fr fun o z1 z2 z3=>by omega).sl,lr,(f.mono fun o z1 z2=>⟨z2,z1⟩).congr fun t ht=>⟨rfl,?_⟩⟩
    congr 1
    simp only[rowL,kk]
    rw[if_pos ht]
    apply List.ext_getElem<;>simp
   obtain ⟨h3,s3,w3,f3⟩:=w.set hv ok.l0 0
   have e3:Ext h1 h3:=f3.ext e fun o z1 z2=>by omega
   have rv:=w.row hv
   have gv0:=a6h (c:=fun _=>(-1:Int)) (v:=v) ok.l0
   have hb4:WP (fun i:Nat=>v0_ i (I v) (.ptr h.length 0 2 0) (.ptr (h.length+1) 0 2 0) c7 h') fun r h'=>Ext h h'/\∃c rows W,LC (V*D.length) (hopA es D.length (onL es D)) (fun x=>x=v*D.length) c/\MatW W 0 r V D.length rows c h':=by
    refine WP.congr (fun i=>a3c i (I v) (.ptr h.length 0 2 0) (.ptr (h.length+1) 0 2 0) c7 h') ?_
    have l0:=ok.l0
    have s3':stN 1 h' (elP 1 (gi rows (v:Int)) 0) (I 0)=some h3:=s3
    simp -implicitDefEqProofs (maxSteps:=1000000) (disch:=first|assumption|omega|(simp only[gL]<;>omega)|((repeat (first|exact Ext.refl _|assumption|apply Ext.app|apply Ext.mk|(refine Ext.setr ?_ (by (first|omega|(simp only[gL]<;>omega))) _))); done)|(simp only[gL,gA,w.gc.idxG,w.gc.ld0,lr,rv.idxG,e7_,s3']<;>omega)|fail) only[gB,setAll,partL,fldV,reduceIte,Nat.reduceAdd,Nat.reduceMul,w.gc.idxG,w.gc.ld0,lr,rv.idxG,e7_,s3']
    have hst:∀x,x=v*D.length->x<V*D.length:=fun x z=>by
     have:=spotN (S:=D.length) hv ok.l0
     omega
    refine WP.ent (b2J (hb:=h1) (hcl:=h'.length) (st:=fun x=>x=v*D.length) (rows:=rows) (W:=fun o=>h1.length<o/\o<h'.length) (acc:=acc) ok no co hn2 hg hst (fun o z=>⟨by omega,z.2⟩) (hs.ext e1) (hD.ext e1) r3 r4 e.len (fun h4 c4 e4 w4 lc4=>⟨e1.trans e4,c4,rows,_,lc4,w4⟩) (mu (V*D.length) 2147483647 (up (fun _=>-1) (v*D.length+0) 0)).toNat h3 _ (by have:=a7R (n:=V*D.length) (W:=2147483647) (by omega) (up (fun _=>-1) (v*D.length+0) 0); omega) e3 f3.len w3 ?_) fun i=>rfl
    refine RI.start hg (hst _ rfl) (fun x=>Iff.rfl) fun x hx=>?_
    simp only[up,Nat.add_zero]
   exact WP.lv hb4 fun i j=>rfl
  |succ d ih=>
   intro V h' hV e ho b
   refine WP.rnd (fun i j=>a0j i j (I v) (.ptr h.length 0 2 0) (.ptr (h.length+1) 0 2 0) c7 (I V) h') ?_
   have r3':=e.get r3
   simp -implicitDefEqProofs (maxSteps:=1000000) (disch:=first|assumption|omega|(simp only[gL]<;>omega)|((repeat (first|exact Ext.refl _|assumption|apply Ext.app|apply Ext.mk|(refine Ext.setr ?_ (by (first|omega|(simp only[gL]<;>omega))) _))); done)|(simp only[gL,gA,r3']<;>omega)|fail) only[gB,setAll,partL,fldV,reduceIte,Nat.reduceAdd,Nat.reduceMul,r3']
   exact WP.ent (b5m ok (Nat.le_refl _) (hD.ext e1) r4 (V:=V) (N:=N) (by omega) (by omega) (fun h4 e4 ho4 b4=>ih (V+1) h4 (by omega) e4 ho4 b4) D.length 0 h' (by omega) e ho b) fun i=>rfl
 exact WP.ent (main N 0 h2 (by omega) e2 (by omega) b0) fun i=>rfl
theorem b1K {hb:Heap}{o3 o4 lo v:Nat}{sD sA c7:AV}{rows:List AV}{W:Nat->Prop}{c:Nat->Int}{xs:List Int}(ok:DOk D acc)(hN:N<=100000)(hlo:hb.length<=lo)(w0:MatW W 0 c7 N D.length rows c hb)(hD:Sl hb 5 sD (D.map encR))(hA:Sl hb 1 sA (acc.map encB))(r4:hb[o4]?=some (.cells ⟨[sD,sA],0,0,false⟩))(hv:v<N)(hx:xs.length=v){out:AV}{h:Heap}(e:Ext hb h)(g:Gr hb.length h.length h 1 out (xs.map encI)){Q:AV->Heap->Prop}(hQ:∀h' out',Ext hb h'->Gr hb.length h'.length h' 1 out' ((xs++[bv c acc (v*D.length) D.length]).map encI)->WP (fun p:Nat × Nat=>h6_ p.1 p.2 (.ptr o3 0 2 0) (.ptr o4 0 2 0) c7 out' (I (v+1)) h') Q) :
  ∀(d s:Nat),s+d=D.length->
   WP (fun p:(Nat × Nat) × Nat=>h7_ p.1.1 p.1.2 p.2 (.ptr o3 0 2 0) (.ptr o4 0 2 0) c7 out (I v) (I (bv c acc (v*D.length) s)) (I s) h) Q:=by
 have l1:=ok.l1
 have la:=ok.la
 have r4':=e.get r4
 have w:=w0.ext e
 intro d
 induction d with
 |zero=>
  intro s h1
  refine WP.rnd (fun i j=>z5_ i.1 i.2 j (.ptr o3 0 2 0) (.ptr o4 0 2 0) c7 out (I v) (I (bv c acc (v*D.length) s)) (I s) h) ?_
  obtain rfl:s=D.length:=by omega
  simp -implicitDefEqProofs (maxSteps:=1000000) (disch:=first|assumption|omega|(simp only[gL]<;>omega)|((repeat (first|exact Ext.refl _|assumption|apply Ext.app|apply Ext.mk|(refine Ext.setr ?_ (by (first|omega|(simp only[gL]<;>omega))) _))); done)|(simp only[gL,gA,r4',hD.lenG]<;>omega)|fail) only[gB,setAll,partL,fldV,reduceIte,Nat.reduceAdd,Nat.reduceMul,r4',hD.lenG]
  have hb3:WP (fun p:Nat × Nat=>u7_ p.1 p.2 (.ptr o3 0 2 0) (.ptr o4 0 2 0) c7 out (I v) (I (bv c acc (v*D.length) D.length)) h) Q:=by
   refine WP.congr (fun p=>a2Y p.1 p.2 (.ptr o3 0 2 0) (.ptr o4 0 2 0) c7 out (I v) (I (bv c acc (v*D.length) D.length)) h) ?_
   have hlb:=e.len
   obtain ⟨s',h',q1,q2,q3⟩:=Gr.append1 (bytes:=8) g (v:=[I (bv c acc (v*D.length) D.length)]) rfl (by omega) (by omega) (by simp; omega) (by omega) (by omega)
   rw[a4_] at q1
   simp -implicitDefEqProofs (maxSteps:=1000000) (disch:=first|assumption|omega|(simp only[gL]<;>omega)|((repeat (first|exact Ext.refl _|assumption|apply Ext.app|apply Ext.mk|(refine Ext.setr ?_ (by (first|omega|(simp only[gL]<;>omega))) _))); done)|(simp only[gL,gA,q1]<;>omega)|fail) only[gB,setAll,partL,fldV,reduceIte,Nat.reduceAdd,Nat.reduceMul,q1]
   refine WP.congr (fun p=>a2X p.1 p.2 (.ptr o3 0 2 0) (.ptr o4 0 2 0) c7 s' (I v) h') ?_
   simp -implicitDefEqProofs (maxSteps:=1000000) (disch:=first|assumption|omega|(simp only[gL]<;>omega)|((repeat (first|exact Ext.refl _|assumption|apply Ext.app|apply Ext.mk|(refine Ext.setr ?_ (by (first|omega|(simp only[gL]<;>omega))) _))); done)|(simp only[gL,gA]<;>omega)|fail) only[gB,setAll,partL,fldV,reduceIte,Nat.reduceAdd,Nat.reduceMul]
   exact hQ h' s' (q3.ext e (by omega)) (q2.cong (by simp[encI]))
  exact WP.lv hb3 fun i j=>rfl
 |succ d ih=>
  intro s h1
  refine WP.rnd (fun i j=>z5_ i.1 i.2 j (.ptr o3 0 2 0) (.ptr o4 0 2 0) c7 out (I v) (I (bv c acc (v*D.length) s)) (I s) h) ?_
  have hs:s<D.length:=by omega
  have lr:=w.lr
  have rf:=w.row hv
  have gf1:=a6h (c:=c) (v:=v) hs
  have hbs:bv c acc (v*D.length) (s+1)=if gi acc s=true/\0<=c (v*D.length+s)/\(bv c acc (v*D.length) s<0\/c (v*D.length+s)<bv c acc (v*D.length) s) then c (v*D.length+s) else bv c acc (v*D.length) s:=rfl
  have ihs:=ih (s+1) (by omega)
  rw[hbs] at ihs
  obtain ⟨b,hbb⟩:∃b,bv c acc (v*D.length) s=b:=⟨_,rfl⟩
  obtain ⟨x,hxx⟩:∃x,c (v*D.length+s)=x:=⟨_,rfl⟩
  rw[hbb,hxx] at ihs
  rw[hxx] at gf1
  rw[hbb]
  have hA':=hA.ext e
  cases hac:gi acc (s:Int) with
  |false=>
   rw[if_neg (by rw[hac]; simp)] at ihs
   simp -implicitDefEqProofs (maxSteps:=1000000) (disch:=first|assumption|omega|(simp only[gL]<;>omega)|((repeat (first|exact Ext.refl _|assumption|apply Ext.app|apply Ext.mk|(refine Ext.setr ?_ (by (first|omega|(simp only[gL]<;>omega))) _))); done)|(simp only[gL,gA,r4',hD.lenG,hA'.idxG,hA'.ld0,encB,hac]<;>omega)|fail) only[gB,setAll,partL,fldV,reduceIte,Nat.reduceAdd,Nat.reduceMul,r4',hD.lenG,hA'.idxG,hA'.ld0,encB,hac]
   exact ihs
  |true=>
   by_cases c1:0<=x
   ·by_cases c2:b<0
    ·rw[if_pos ⟨hac,c1,.inl c2⟩] at ihs
     simp -implicitDefEqProofs (maxSteps:=1000000) (disch:=first|assumption|omega|(simp only[gL]<;>omega)|((repeat (first|exact Ext.refl _|assumption|apply Ext.app|apply Ext.mk|(refine Ext.setr ?_ (by (first|omega|(simp only[gL]<;>omega))) _))); done)|(simp only[gL,gA,r4',hD.lenG,hA'.idxG,hA'.ld0,encB,hac,w.gc.idxG,w.gc.ld0,lr,rf.idxG,rf.ld0,e7_,encI,gf1]<;>omega)|fail) only[gB,setAll,partL,fldV,reduceIte,Nat.reduceAdd,Nat.reduceMul,r4',hD.lenG,hA'.idxG,hA'.ld0,encB,hac,w.gc.idxG,w.gc.ld0,lr,rf.idxG,rf.ld0,e7_,encI,gf1]
     exact ihs
    ·by_cases c3:x<b
     ·rw[if_pos ⟨hac,c1,.inr c3⟩] at ihs
      simp -implicitDefEqProofs (maxSteps:=1000000) (disch:=first|assumption|omega|(simp only[gL]<;>omega)|((repeat (first|exact Ext.refl _|assumption|apply Ext.app|apply Ext.mk|(refine Ext.setr ?_ (by (first|omega|(simp only[gL]<;>omega))) _))); done)|(simp only[gL,gA,r4',hD.lenG,hA'.idxG,hA'.ld0,encB,hac,w.gc.idxG,w.gc.ld0,lr,rf.idxG,rf.ld0,e7_,encI,gf1]<;>omega)|fail) only[gB,setAll,partL,fldV,reduceIte,Nat.reduceAdd,Nat.reduceMul,r4',hD.lenG,hA'.idxG,hA'.ld0,encB,hac,w.gc.idxG,w.gc.ld0,lr,rf.idxG,rf.ld0,e7_,encI,gf1]
      exact ihs
     ·rw[if_neg (fun z=>by omega)] at ihs
      simp -implicitDefEqProofs (maxSteps:=1000000) (disch:=first|assumption|omega|(simp only[gL]<;>omega)|((repeat (first|exact Ext.refl _|assumption|apply Ext.app|apply Ext.mk|(refine Ext.setr ?_ (by (first|omega|(simp only[gL]<;>omega))) _))); done)|(simp only[gL,gA,r4',hD.lenG,hA'.idxG,hA'.ld0,encB,hac,w.gc.idxG,w.gc.ld0,lr,rf.idxG,rf.ld0,e7_,encI,gf1]<;>omega)|fail) only[gB,setAll,partL,fldV,reduceIte,Nat.reduceAdd,Nat.reduceMul,r4',hD.lenG,hA'.idxG,hA'.ld0,encB,hac,w.gc.idxG,w.gc.ld0,lr,rf.idxG,rf.ld0,e7_,encI,gf1]
      exact ihs
   ·rw[if_neg (fun z=>by omega)] at ihs
    simp -implicitDefEqProofs (maxSteps:=1000000) (disch:=first|assumption|omega|(simp only[gL]<;>omega)|((repeat (first|exact Ext.refl _|assumption|apply Ext.app|apply Ext.mk|(refine Ext.setr ?_ (by (first|omega|(simp only[gL]<;>omega))) _))); done)|(simp only[gL,gA,r4',hD.lenG,hA'.idxG,hA'.ld0,encB,hac,w.gc.idxG,w.gc.ld0,lr,rf.idxG,rf.ld0,e7_,encI,gf1]<;>omega)|fail) only[gB,setAll,partL,fldV,reduceIte,Nat.reduceAdd,Nat.reduceMul,r4',hD.lenG,hA'.idxG,hA'.ld0,encB,hac,w.gc.idxG,w.gc.ld0,lr,rf.idxG,rf.ld0,e7_,encI,gf1]
    exact ihs
theorem b0z (N S:Nat)(c:Nat->Int)(acc:List Bool)(v:Nat):costL (v+1) S c acc=costL v S c acc++[bv c acc (v*S) S]:=by
 simp[costL,List.range_succ]
theorem a9l {h:Heap}{sE sD sA:AV}(no:NetOk N es)(co:COk es)(hn2:N*D.length<=1000000)(hs:Sl h 4 sE (es.map encE))(ok:DOk D acc)(hD:Sl h 5 sD (D.map encR))(hA:Sl h 1 sA (acc.map encB)){v:Nat}(hv:v<N) :
  Tot tab d7_ [.agg [I N,sE],.agg [sD,sA],I v] h fun r h'=>Ext h h'/\∃c,LC (N*D.length) (hopA es D.length (onL es D)) (fun x=>x=v*D.length) c/\Gr h.length h'.length h' 1 r ((costL N D.length c acc).map encI):=by
 refine WP.tot (fun k=>a4j k _ _ _ h) ?_
 have hN:N<=100000:=by have:=no.n1; omega
 obtain ⟨h1,hh1⟩:∃h1,h1=(h++[AObj.cells ⟨[I N,sE],0,0,false⟩])++[AObj.cells ⟨[sD,sA],0,0,false⟩]:=⟨_,rfl⟩
 have e1:Ext h h1:=by rw[hh1]; ((repeat (first|exact Ext.refl _|assumption|apply Ext.app|apply Ext.mk|(refine Ext.setr ?_ (by (first|omega|(simp only[gL]<;>omega))) _))))
 have r3:h1[h.length]?=some (.cells ⟨[I N,sE],0,0,false⟩):=by rw[hh1]; simp
 have r4:h1[h.length+1]?=some (.cells ⟨[sD,sA],0,0,false⟩):=by rw[hh1]; simp
 simp -implicitDefEqProofs (maxSteps:=1000000) (disch:=first|assumption|omega|(simp only[gL]<;>omega)|((repeat (first|exact Ext.refl _|assumption|apply Ext.app|apply Ext.mk|(refine Ext.setr ?_ (by (first|omega|(simp only[gL]<;>omega))) _))); done)|(simp only[gL,gA,hs.one,hs.cells,hD.one,hD.cells,hA.one,hA.cells]<;>omega)|fail) only[gB,setAll,partL,fldV,reduceIte,Nat.reduceAdd,Nat.reduceMul,hs.one,hs.cells,hD.one,hD.cells,hA.one,hA.cells]
 rw[<-hh1]
 refine WP.call (b0y no co hn2 (hs.ext e1) ok (hD.ext e1) (hA.ext e1) hv) ?_
 rintro c7 h2 ⟨e2,c,rows,W,lc,w⟩
 have e12:=e1.trans e2
 have main:∀(d v':Nat) (h':Heap) (out:AV),v'+d=N->Ext h2 h'->Gr h2.length h'.length h' 1 out ((costL v' D.length c acc).map encI)->
   WP (fun p:Nat × Nat=>h6_ p.1 p.2 (.ptr h.length 0 2 0) (.ptr (h.length+1) 0 2 0) c7 out (I v') h') fun r h'=>Ext h h'/\∃c,LC (N*D.length) (hopA es D.length (onL es D)) (fun x=>x=v*D.length) c/\Gr h.length h'.length h' 1 r ((costL N D.length c acc).map encI):=by
  intro d
  induction d with
  |zero=>
   intro v' h' out hV e g
   refine WP.rnd (fun i j=>z6_ i j (.ptr h.length 0 2 0) (.ptr (h.length+1) 0 2 0) c7 out (I v') h') ?_
   obtain rfl:v'=N:=by omega
   have r3':=e.get (e2.get r3)
   simp -implicitDefEqProofs (maxSteps:=1000000) (disch:=first|assumption|omega|(simp only[gL]<;>omega)|((repeat (first|exact Ext.refl _|assumption|apply Ext.app|apply Ext.mk|(refine Ext.setr ?_ (by (first|omega|(simp only[gL]<;>omega))) _))); done)|(simp only[gL,gA,r3']<;>omega)|fail) only[gB,setAll,partL,fldV,reduceIte,Nat.reduceAdd,Nat.reduceMul,r3']
   exact WP.ret ⟨e12.trans e,c,lc,g.mono e12.len (Nat.le_refl _)⟩
  |succ d ih=>
   intro v' h' out hV e g
   refine WP.rnd (fun i j=>z6_ i j (.ptr h.length 0 2 0) (.ptr (h.length+1) 0 2 0) c7 out (I v') h') ?_
   have r3':=e.get (e2.get r3)
   simp -implicitDefEqProofs (maxSteps:=1000000) (disch:=first|assumption|omega|(simp only[gL]<;>omega)|((repeat (first|exact Ext.refl _|assumption|apply Ext.app|apply Ext.mk|(refine Ext.setr ?_ (by (first|omega|(simp only[gL]<;>omega))) _))); done)|(simp only[gL,gA,r3']<;>omega)|fail) only[gB,setAll,partL,fldV,reduceIte,Nat.reduceAdd,Nat.reduceMul,r3']
   refine WP.ent (b1K (hb:=h2) (lo:=h2.length) (c:=c) (v:=v') ok hN (Nat.le_refl _) w (hD.ext e12) (hA.ext e12) (e2.get r4) (by omega) (a5Q v' D.length c acc) e g (fun h3 out3 e3 g3=>ih (v'+1) h3 out3 (by omega) e3 (g3.cong (by rw[b0z N]))) D.length 0 (by omega)) fun i=>rfl
 exact WP.ent (main N 0 h2 .nils (by omega) (Ext.refl _) (Gr.nil ..)) fun i=>rfl
end
end Go.Gm.AQ
namespace Go.Gm
theorem Gr.frsN {D:Nat->Prop}{o:Nat}{h h':Heap}{sz:Nat}{s:AV}{xs:List (List AV)}(a:Gr o (o+1) h sz s xs)(f:FrS D h h')(hd:s≠.nils->¬D o):Gr o (o+1) h' sz s xs:=by
 by_cases hn:s=.nils
 ·subst hn
  have:=Gr.isNil a
  subst this
  exact Gr.nil ..
 ·exact Gr.frs a f fun p z1 z2=>by rw[show p=o by omega]; exact hd hn
end Go.Gm
namespace Go.Gm.AQ
open Go Go.Gm
structure MK (h0:Heap) (n i:Nat) (D:List (List Int)) (acc:List Bool) (sD sA:AV) (oD oA:Nat) (h:Heap):Prop where
 ex:Ext h0 h
 r6:h[h0.length]?=some (.cells ⟨[.nils,.nils],0,0,false⟩)
 r7:h[h0.length+1]?=some (.cells ⟨[sD,sA],0,0,false⟩)
 gD:Gr oD (oD+1) h 5 sD (D.map encR)
 gA:Gr oA (oA+1) h 1 sA (acc.map encB)
 pD:sD≠.nils->h0.length+2<=oD/\oD<h.length
 pA:sA≠.nils->h0.length+2<=oA/\oA<h.length
 ne:sD≠.nils->sA≠.nils->oD≠oA
 lD:D.length=i
 lA:acc.length=i
 row:∀s:Int,0<=s->s<i->(gi D s).length=5
 to:∀s m:Int,0<=s->s<i->0<=m->m<5->0<=gi (gi D s) m/\gi (gi D s) m<n
theorem MK.frs {h0 h h':Heap}{n i:Nat}{D:List (List Int)}{acc:List Bool}{sD sA:AV}{oD oA:Nat}(w:MK h0 n i D acc sD sA oD oA h){P:Nat->Prop}(f:FrS P h h')(hp:∀o,o<h.length->¬P o):MK h0 n i D acc sD sA oD oA h':=by
 have hl:=f.len
 have b6:=(List.getElem?_eq_some_iff.1 w.r6).1
 have b7:=(List.getElem?_eq_some_iff.1 w.r7).1
 exact ⟨f.ext w.ex fun o z1 z2=>hp o (by omega) z2,by rw[f.get (hp _ b6) b6]; exact w.r6,by rw[f.get (hp _ b7) b7]; exact w.r7,w.gD.frsN f fun z=>hp _ (w.pD z).2,w.gA.frsN f fun z=>hp _ (w.pA z).2,fun z=>⟨(w.pD z).1,by have:=(w.pD z).2; omega⟩,fun z=>⟨(w.pA z).1,by have:=(w.pA z).2; omega⟩,w.ne,w.lD,w.lA,w.row,w.to⟩
end Go.Gm.AQ
namespace Go.Gm.AQ
open Go Go.Gm
theorem b5o (size:Int)(zs:List Int)(modes:Int):COk (mkE size zs modes):=by
 refine ⟨fun e he=>?_⟩
 simp only[mkE,List.mem_map] at he
 obtain ⟨k,_,rfl⟩:=he
 simp only[mkEdge]
 split<;>omega
theorem b1L {o m:Nat}(hm:m<5):idxA 5 1 (.ptr o 0 5 0) (I m)=some (.ptr o m (m+1) 0):=by
 simp only[idxA,I]
 rw[if_pos ⟨by omega,by omega,by omega⟩]
 simp
theorem stP {h:Heap}{o m:Nat}{cs:List AV}{x:Int}(hr:h[o]?=some (.cells ⟨cs,0,0,false⟩)):stN 1 h (.ptr o m (m+1) 0) (I x)=some (h.set o (.cells ⟨cs.set m (I x),0,0,false⟩)):=by
 have c1:(I x).cells=[I x]:=rfl
 have c2:(I x).one=true:=rfl
 simp only[stN,wrc,hr,c1,List.length_cons,List.length_nil,List.all_cons,List.all_nil,c2,setAll]
 simp
theorem b4k {o lo hi:Nat}{h:Heap}{sz:Nat}{s:AV}{xs:List (List AV)}(a:Gr o (o+1) h sz s xs)(ho:s≠.nils->lo<=o/\o<hi):Gr lo hi h sz s xs:=by
 by_cases hn:s=.nils
 ·subst hn
  have:=Gr.isNil a
  subst this
  exact Gr.nil ..
 ·exact Gr.mono a (ho hn).1 (ho hn).2
end Go.Gm.AQ
namespace Go.Gm.AQ
open Go Go.Gm
section
variable {h0 h:Heap} {g:AV} {N:Nat} {es:List E} {D:List (List Int)} {acc:List Bool}
theorem b4l {oe n:Nat}{x t17 t18 t41:AV}{k:Int}{ed:E}{ps:List Int}{X:List Tr}{Q:AV->Heap->Prop}(hpl:ps.length<=100000)(hX:X.length<=1000000000)(ht:Sl h0 1 t41 (ps.map encI))(hn:n<=1000000)(hQ:∀h out,Ext h0 h->Gr h0.length h.length h 3 out ((X++ps.map fun s'=>((ed.fr,s',k):Tr)).map encT)->WP (fun p:Nat × Nat=>j4_ p.1 p.2 g x out t17 t18 (I (n+1)) h) Q) :
  ∀(d m:Nat) (h:Heap) (out:AV) (o:Nat),m+d=ps.length->Ext h0 h->h[oe]?=some (.cells ⟨encE ed,0,0,false⟩)->Gr o (o+1) h 3 out ((X++(ps.take m).map fun s'=>((ed.fr,s',k):Tr)).map encT)->(out≠.nils->h0.length<=o/\o<h.length/\o≠oe)->
   WP (fun p:(Nat × Nat) × Nat=>p3_ p.1.1 p.1.2 p.2 g x out (I k) (.ptr oe 0 4 0) t17 t18 (I n) t41 (I ps.length) (I m) h) Q:=by
 intro d
 induction d with
 |zero=>
  intro m h out o h1 e re g1 ho
  refine WP.rnd (fun i j=>a0E i.1 i.2 j g x out (I k) (.ptr oe 0 4 0) t17 t18 (I n) t41 (I ps.length) (I m) h) ?_
  rw[List.take_of_length_le (by omega)] at g1
  simp -implicitDefEqProofs (disch:=first|assumption|omega|(simp only[gL,gA]<;>omega)|fail) only[gC,reduceIte]
  exact WP.lv (hQ h out e (b4k g1 fun z=>⟨(ho z).1,(ho z).2.1⟩)) fun i j=>rfl
 |succ d ih=>
  intro m h out o h1 e re g1 ho
  refine WP.rnd (fun i j=>a0E i.1 i.2 j g x out (I k) (.ptr oe 0 4 0) t17 t18 (I n) t41 (I ps.length) (I m) h) ?_
  obtain ⟨s',hs'⟩:∃s',gi ps m=s':=⟨_,rfl⟩
  have htk:ps.take (m+1)=ps.take m++[s']:=by
   rw[List.take_add_one,show ps[m]?=some s' by
    have:=f3_ (xs:=ps) (i:=(m:Int)) (by omega) (by omega)
    rw[hs'] at this; simpa using this]
   rfl
  have re':=re
  simp only[encE] at re'
  have boe:=(List.getElem?_eq_some_iff.1 re).1
  have hlb:=e.len
  have e1:Ext h (h++[AObj.cells ⟨[I ed.fr,I s',I k],0,0,false⟩]):=Ext.push _ _
  have b1:Sl (h++[AObj.cells ⟨[I ed.fr,I s',I k],0,0,false⟩]) 3 (.sl h.length 0 1 3 none 0) [[I ed.fr,I s',I k]]:=by
   have:=(Gr.lit (h:=h) (sz:=3) (v:=[I ed.fr,I s',I k]) rfl).sl
   rwa [a4_] at this
  obtain ⟨s2,h',o',q1,q2,q3,q4⟩:=(g1.ext e1).appP (bytes:=24) (fun z=>by have:=(ho z).2.1; simp; omega) b1 (by omega) (by omega) (by simp; omega)
  have hl':=q4.len
  simp only[List.length_append,List.length_cons,List.length_nil] at hl' q3
  simp -implicitDefEqProofs (disch:=first|assumption|omega|exact Ext.refl _|(simp only[gL,gA]<;>omega)|fail) only[gC,reduceIte,ht.idxG,ht.ld0,hs',encI,re',q1]
  refine ih (m+1) h' s2 o' (by omega) (q4.ext (e.trans e1) fun p z1 z2=>by have:=(ho z2.1).1; omega) ?_ (q2.cong ?_) fun z=>?_
  ·rw[q4.get (fun z=>(ho z.1).2.2 z.2.symm) (by simp; omega)]
   exact e1.get re
  ·rw[htk]
   simp[encT]
  ·rcases (q3 z).1 with ⟨z1,z2⟩|z1
   ·rw[z1]; exact ⟨(ho z2).1,by have:=(ho z2).2.1; omega,(ho z2).2.2⟩
   ·exact ⟨by omega,(q3 z).2,by omega⟩
theorem b4m (gv:GV h0 g N es D acc)(ok:DOk D acc)(no:NetOk N es){v s:Int}(s0:0<=s)(s1:s<D.length){ks:List Int}(hks:∀k∈ks,0<=k/\k<es.length)(hlk:ks.length<=100000){x t15:AV}(hx:At h0 x [I v,I s])(ht:Sl h0 1 t15 (ks.map encI)) :
  ∀(d n:Nat) (h:Heap) (out:AV),n+d=ks.length->Ext h0 h->Gr h0.length h.length h 3 out (((ks.take n).flatMap fun k=>(bef D s (gi es k).md).map fun s'=>(((gi es k).fr,s',k):Tr)).map encT)->
   WP (fun p:Nat × Nat=>j4_ p.1 p.2 g x out t15 (I ks.length) (I n) h) fun r h'=>Ext h0 h'/\Gr h0.length h'.length h' 3 r ((ks.flatMap fun k=>(bef D s (gi es k).md).map fun s'=>(((gi es k).fr,s',k):Tr)).map encT):=by
 obtain ⟨sE,a,sD,sA,sB,B,k1,k2,k3,k4,k5,k6,k7,k8⟩:=gv.ex
 have l1:=ok.l1
 intro d
 induction d with
 |zero=>
  intro n h out h1 e g1
  refine WP.rnd (fun i j=>a0F i j g x out t15 (I ks.length) (I n) h) ?_
  rw[List.take_of_length_le (by omega)] at g1
  simp -implicitDefEqProofs (disch:=first|assumption|omega|(simp only[gL,gA]<;>omega)|fail) only[gC,reduceIte]
  exact WP.ret ⟨e,g1⟩
 |succ d ih=>
  intro n h out h1 e g1
  refine WP.rnd (fun i j=>a0F i j g x out t15 (I ks.length) (I n) h) ?_
  obtain ⟨k,hk⟩:∃k,gi ks n=k:=⟨_,rfl⟩
  have hkr:=hks k (hk▸c4_ (by omega) (by omega))
  have he:=no.edge _ (c4_ (xs:=es) hkr.1 hkr.2)
  obtain ⟨ed,hed⟩:∃ed,gi es k=ed:=⟨_,rfl⟩
  rw[hed] at he
  have htk:ks.take (n+1)=ks.take n++[k]:=by
   rw[List.take_add_one,show ks[n]?=some k by
    have:=f3_ (xs:=ks) (i:=(n:Int)) (by omega) (by omega)
    rw[hk] at this; simpa using this]
   rfl
  have hlo:=e.len
  obtain ⟨h2,hh2⟩:∃h2,h2=((h++[AObj.cells ⟨[I 0,I 0,I 0,I 0],0,0,false⟩]).set h.length (.cells ⟨[I ed.fr,I ed.to,I ed.md,I ed.co],0,0,false⟩)):=⟨_,rfl⟩
  have hl2:h2.length=h.length+1:=by rw[hh2]; simp
  have e2:Ext h h2:=by rw[hh2]; ((repeat (first|exact Ext.refl _|assumption|apply Ext.app|apply Ext.mk|(refine Ext.setr ?_ (by (first|omega|(simp only[gL]<;>omega))) _))))
  have r2:h2[h.length]?=some (.cells ⟨[I ed.fr,I ed.to,I ed.md,I ed.co],0,0,false⟩):=by rw[hh2]; exact a3_ (by simp)
  have e02:=e.trans e2
  obtain ⟨b5,bs⟩:=k8 s ed.md s0 s1 he.2.2.2.2.1 he.2.2.2.2.2
  obtain ⟨p,p1,p2,-⟩:=cellA (H:=h2) k6 e02 s0 (by rw[k7]; exact s1) he.2.2.2.2.1 he.2.2.2.2.2
  rw[show (id (gi B s)).getD ed.md.toNat .undef=gi (gi B s) ed.md by
   rw[id,List.getD_eq_getElem?_getD,f3_ he.2.2.2.2.1 (by omega)]; rfl] at p2
  have bs2:=bs.ext e02
  have hbl:(bef D s ed.md).length<=100000:=by
   have:=a4f D s ed.md D.length
   show (befTo D s ed.md D.length).length<=_
   omega
  have hXl:(((ks.take n).flatMap fun k=>(bef D s (gi es k).md).map fun s'=>(((gi es k).fr,s',k):Tr))).length<=1000000000:=by
   have:∀l:List Int,(l.flatMap fun k=>(bef D s (gi es k).md).map fun s'=>(((gi es k).fr,s',k):Tr)).length<=l.length*2000:=by
    intro l
    induction l with
    |nil=>simp
    |cons a l ih=>
     have h3:=a4f D s (gi es a).md D.length
     have h4:((bef D s (gi es a).md).map fun s'=>(((gi es a).fr,s',a):Tr)).length<=2000:=by
      rw[List.length_map]; show (befTo D s (gi es a).md D.length).length<=_; omega
     rw[List.flatMap_cons,List.length_append,List.length_cons,Nat.add_mul]
     omega
   have h5:=this (ks.take n)
   rw[List.length_take] at h5
   have:min n ks.length*2000<=100000*2000:=Nat.mul_le_mul_right _ (by omega)
   omega
  simp -implicitDefEqProofs (disch:=first|assumption|omega|exact Ext.refl _|(simp only[gL,gA]<;>omega)|fail) only[gC,reduceIte,k1.nil,k1.fldA0,k1.fldAf,k1.ldfE,ht.idxG,ht.ld0,hk,encI,k2.idxG,k2.ldN,hed,encE]
  rw[show AV.int .i64 0=I 0 from rfl,<-hh2]
  simp -implicitDefEqProofs (disch:=first|assumption|omega|(simp only[gL,gA]<;>omega)|fail) only[gC,reduceIte,k1.nil,k1.fldA0,k1.fldAf,k1.ldfE,r2,hx.fldA0,hx.ldfE,k6.idxG,k7,p1,p2,bs2.lenG]
  obtain ⟨o,o1,o2⟩:=g1.point
  refine WP.ent (b4l (oe:=h.length) (ed:=ed) (k:=k) hbl hXl bs (by omega) (fun h3 out3 e3 g3=>ih (n+1) h3 out3 (by omega) e3 (g3.cong ?_)) (bef D s ed.md).length 0 h2 out o (by omega) e02 (by rw[r2]; rfl) ((o2.ext e2).cong (by simp)) (fun z=>⟨(o1 z).1,by have:=(o1 z).2.1; omega,by have:=(o1 z).2.1; omega⟩)) fun i=>rfl
  rw[htk,List.flatMap_append]
  simp[hed]
theorem b1M (gv:GV h g N es D acc)(ok:DOk D acc)(no:NetOk N es){v s:Int}(s0:0<=s)(s1:s<D.length) :
  Tot tab e5_ [g,.agg [I v,I s]] h fun r h'=>Ext h h'/\Gr h.length h'.length h' 3 r ((backL es D v s).map encT):=by
 obtain ⟨sE,a,sD,sA,sB,B,k1,k2,k3,k4,k5,k6,k7,k8⟩:=gv.ex
 refine WP.tot (fun k=>a4D k _ _ h) ?_
 have e1:Ext h (h++[AObj.cells ⟨[I v,I s],0,0,false⟩]):=by ((repeat (first|exact Ext.refl _|assumption|apply Ext.app|apply Ext.mk|(refine Ext.setr ?_ (by (first|omega|(simp only[gL]<;>omega))) _))))
 simp -implicitDefEqProofs (disch:=first|assumption|omega|(simp only[gL,gA]<;>omega)|fail) only[gC,reduceIte,k1.nil,k1.fldA0,k1.fldAf,k1.ldfE]
 refine WP.call (b3p no (k3.ext e1)) ?_
 rintro r h2 ⟨e2,g2⟩
 have hl2:(inL es v).length<=100000:=Nat.le_trans (r2_ ..) no.len
 have hl:=e2.len
 simp only[List.length_append,List.length_cons,List.length_nil] at hl
 have hx:At h2 (.ptr h.length 0 2 0) [I v,I s]:=At.row (wg:=0) (g:=0) (ro:=false) (e2.get (by simp)) (Nat.le_refl _) rfl
 simp -implicitDefEqProofs (disch:=first|assumption|omega|(simp only[gL,gA]<;>omega)|fail) only[gC,reduceIte,g2.sl.lenG]
 refine WP.ent ((b4m (gv.ext (e1.trans e2)) ok no s0 s1 (ks:=inL es v) (fun k hk=>⟨(j7_.1 hk).1,(j7_.1 hk).2.1⟩) hl2 hx g2.sl (inL es v).length 0 h2 .nils (by omega) (Ext.refl _) (Gr.nil ..)).mono ?_) fun i=>rfl
 rintro r h3 ⟨e3,g3⟩
 exact ⟨(e1.trans e2).trans e3,g3.mono (by omega) (Nat.le_refl _)⟩
end
end Go.Gm.AQ
namespace Go.Gm.AQ
open Go Go.Gm
section
variable {h0 h:Heap} {g:AV} {N:Nat} {es:List E} {D:List (List Int)} {acc:List Bool}
theorem a5S {D:List (List Int)}{t m:Int}{n:Nat}{s:Int}:s∈befTo D t m n↔0<=s/\s<n/\nx D s m=t:=by
 simp only[befTo,List.mem_map,List.mem_filter,List.mem_range,beq_iff_eq]
 constructor
 ·rintro ⟨a,⟨h1,h2⟩,rfl⟩
  exact ⟨by omega,by omega,h2⟩
 ·rintro ⟨h1,h2,h3⟩
  exact ⟨s.toNat,⟨by omega,by rw[show ((s.toNat:Nat):Int)=s by omega]; exact h3⟩,by omega⟩
theorem a7g (no:NetOk N es){i:Nat}(hi:i<es.length):0<=(eg es i).fr/\(eg es i).fr<N/\0<=(eg es i).to/\(eg es i).to<N/\0<=(eg es i).md/\(eg es i).md<5:=no.edge _ (c4_ (xs:=es) (i:=(i:Int)) (by omega) (by omega))
theorem nx_r (ok:DOk D acc)(no:NetOk N es){i s:Nat}(hi:i<es.length)(hs:s<D.length):0<=nx D s (eg es i).md/\nx D s (eg es i).md<D.length:=
 ok.to s (eg es i).md (by omega) (by omega) (a7g no hi).2.2.2.2.1 (a7g no hi).2.2.2.2.2
theorem a4Q {S v s:Nat}(hs:s<S):(v*S+s) / S=v/\(v*S+s) % S=s:=by
 have h:=a6K (S:=S) (v:=v) (s:=s) (v':=(v*S+s) / S) (s':=(v*S+s) % S) hs (Nat.mod_lt _ (by omega)) (by
  rw[Nat.mul_comm ((v*S+s) / S),Nat.div_add_mod])
 exact ⟨h.1.symm,h.2.symm⟩
theorem b2K (ok:DOk D acc)(no:NetOk N es){i s:Nat}(hi:i<es.length)(hs:s<D.length):(src es D.length i s,i,(eg es i).co)∈hopA es D.length (backL es D) (dst es D i s):=by
 have he:=a7g no hi
 have ht:=nx_r ok no hi hs
 obtain ⟨d1,d2⟩:=a4Q (S:=D.length) (v:=(eg es i).to.toNat) (s:=(nx D s (eg es i).md).toNat) (by omega)
 refine List.mem_map.2 ⟨((eg es i).fr,(s:Int),(i:Int)),List.mem_flatMap.2 ⟨(i:Int),?_,List.mem_map.2 ⟨(s:Int),?_,rfl⟩⟩,?_⟩
 ·refine j7_.2 ⟨by omega,by omega,?_⟩
  rw[dst,d1]
  simp only[beq_iff_eq]
  show (eg es i).to=_
  omega
 ·refine a5S.2 ⟨by omega,by omega,?_⟩
  rw[dst,d2]
  show nx D s (eg es i).md=_
  omega
 ·simp only[hopOf,src]
  congr 1
  have h1:(eg es i).fr=((eg es i).fr.toNat:Int):=by omega
  generalize (eg es i).fr.toNat=a at h1
  rw[h1,<-Int.natCast_mul,<-Int.natCast_add,Int.toNat_natCast]
theorem b2L (ok:DOk D acc)(no:NetOk N es){x y e:Nat}{w:Int}(hx:x<N*D.length)(h:(y,e,w)∈hopA es D.length (backL es D) x):∃i s,i<es.length/\s<D.length/\y=src es D.length i s/\x=dst es D i s/\w=(eg es i).co:=by
 obtain ⟨q1,q2⟩:=dm hx
 obtain ⟨t,ht,h1⟩:=List.mem_map.1 h
 obtain ⟨k,hk,ht⟩:=List.mem_flatMap.1 ht
 obtain ⟨s',hs',rfl⟩:=List.mem_map.1 ht
 obtain ⟨k0,k1,k2⟩:=j7_.1 hk
 obtain ⟨i,rfl⟩:∃i:Nat,k=i:=⟨k.toNat,by omega⟩
 obtain ⟨b0,b1,b2⟩:=a5S.1 hs'
 obtain ⟨s,rfl⟩:∃s:Nat,s'=s:=⟨s'.toNat,by omega⟩
 simp only[beq_iff_eq] at k2
 have hi:i<es.length:=by omega
 have hs:s<D.length:=by omega
 have he:=a7g no hi
 have e1:(eg es i).to.toNat=x / D.length:=by
  show (gi es (i:Int)).to.toNat=_
  rw[k2,Int.toNat_natCast]
 have e2:(nx D s (eg es i).md).toNat=x % D.length:=by
  show (nx D s (gi es (i:Int)).md).toNat=_
  rw[b2,Int.toNat_natCast]
 refine ⟨i,s,hi,hs,?_,?_,?_⟩
 ·simp only[hopOf] at h1
  cases h1
  rw[src]
  have h1:(eg es i).fr=((eg es i).fr.toNat:Int):=by omega
  generalize (eg es i).fr.toNat=a at h1
  show ((eg es i).fr*(D.length:Int)+(s:Int)).toNat=_
  rw[h1,<-Int.natCast_mul,<-Int.natCast_add,Int.toNat_natCast]
 ·rw[dst,e1,e2,Nat.mul_comm,Nat.div_add_mod]
 ·simp only[hopOf] at h1
  cases h1
  rfl
theorem b4n (ok:DOk D acc)(no:NetOk N es):Rev (N*D.length) (hopA es D.length (onL es D)) (hopA es D.length (backL es D)):=by
 refine ⟨fun x y e w hx h=>?_,fun x y e w hy h=>?_⟩
 ·obtain ⟨i,s,i1,s1,rfl,rfl,rfl⟩:=a7w ok no hx h
  exact ⟨_,b2K ok no i1 s1⟩
 ·obtain ⟨i,s,i1,s1,rfl,rfl,rfl⟩:=b2L ok no hy h
  exact ⟨_,a7v ok no i1 s1⟩
theorem b1N (gv:GV h0 g N es D acc)(ok:DOk D acc)(no:NetOk N es)(hl:es.length*D.length<=10000000):HopsOk h0 g N es D e5_ (backL es D):=by
 refine ⟨fun h e v s v0 v1 s0 s1=>b1M (gv.ext e) ok no s0 s1,fun v s v0 v1 s0 s1 t ht=>?_,fun v s v0 v1 s0 s1=>?_⟩
 ·obtain ⟨k,hk,ht⟩:=List.mem_flatMap.1 ht
  obtain ⟨s',hs',rfl⟩:=List.mem_map.1 ht
  obtain ⟨k0,k1,_⟩:=j7_.1 hk
  obtain ⟨b0,b1,_⟩:=a5S.1 hs'
  have he:=no.edge _ (c4_ k0 k1)
  exact ⟨he.1,he.2.1,b0,b1,k0,k1⟩
 ·have h1:∀l:List Int,(l.flatMap fun k=>(bef D s (gi es k).md).map fun s'=>(((gi es k).fr,s',k):Tr)).length<=l.length*D.length:=by
   intro l
   induction l with
   |nil=>simp
   |cons a l ih=>
    have h3:=a4f D s (gi es a).md D.length
    rw[List.flatMap_cons,List.length_append,List.length_map,List.length_cons,Nat.add_mul]
    have:(bef D s (gi es a).md).length<=D.length:=h3
    omega
  have h2:=h1 (inL es v)
  have h3:(inL es v).length<=es.length:=r2_ _ _ _
  have h4:=Nat.mul_le_mul_right D.length h3
  show (backL es D v s).length<=_
  rw[backL]
  omega
theorem a7h {W:Nat->Prop}{os oc oe ov n x:Nat}{fh q sc se sf:AV}{cs ds fs:List Int}{M:List (Option Int)}{ls:Int}(w:SW W h os g fh q sc se sf oc oe ov n cs ds fs M ls)(hx:x<n) :
  Tot tab n7_ [.ptr os 0 7 0,I x] h fun r h'=>r=I (fnd (gf cs) (gf M) x)/\h=h':=by
 refine WP.tot (fun k=>a3P k _ _ h) ?_
 have ro:=w.row
 have lc:=w.lc
 have gcs:=w.gc.sl
 obtain ⟨c,hc⟩:∃c,gi cs (x:Int)=c:=⟨_,rfl⟩
 have e1:fnd (gf cs) (gf M) x=if 0<=c then c else (gi M (x:Int)).getD (-1):=by
  show (if 0<=gi cs (x:Int) then gi cs (x:Int) else _)=_
  rw[hc]
 by_cases h0:0<=c
 ·simp -implicitDefEqProofs (disch:=first|assumption|omega|exact Ext.refl _|(simp only[gL,gA]<;>omega)|fail) only[gC,reduceIte,ro,gcs.idxG,gcs.ld0,lc,hc,encI]
  exact WP.ret ⟨by rw[e1,if_pos h0],rfl⟩
 ·have hml:=w.qv.lm
  simp -implicitDefEqProofs (disch:=first|assumption|omega|exact Ext.refl _|(simp only[gL,gA]<;>omega)|fail) only[gC,reduceIte,ro,gcs.idxG,gcs.ld0,lc,hc,encI]
  refine WP.call (w.qv.key (x:Int)) ?_
  rintro _ _ ⟨rfl,rfl⟩
  have hk:keyM n M (x:Int)=gi M (x:Int):=if_pos ⟨by omega,by omega⟩
  rw[hk]
  cases hm:gi M (x:Int) with
  |none=>
   simp -implicitDefEqProofs (disch:=first|assumption|omega|(simp only[gL,gA]<;>omega)|fail) only[gC,reduceIte,a9_,b0_]
   exact WP.ret ⟨by rw[e1,if_neg h0,hm]; rfl,rfl⟩
  |some k=>
   simp -implicitDefEqProofs (disch:=first|assumption|omega|(simp only[gL,gA]<;>omega)|fail) only[gC,reduceIte,a9_,b0_]
   exact WP.ret ⟨by rw[e1,if_neg h0,hm]; rfl,rfl⟩
end
end Go.Gm.AQ
namespace Go.Gm.AQ
open Go Go.Gm
theorem b1O {h:Heap}{W1 W2:Nat->Prop}{os1 oc1 oe1 ov1 os2 oc2 oe2 ov2 n x ot ob ol:Nat}{g1 fh1 q1 sc1 se1 sf1 g2 fh2 q2 sc2 se2 sf2:AV}{cs1 ds1 fs1 cs2 ds2 fs2:List Int}{M1 M2:List (Option Int)}{ls1 ls2 L:Int}(w1:SW W1 h os1 g1 fh1 q1 sc1 se1 sf1 oc1 oe1 ov1 n cs1 ds1 fs1 M1 ls1)(w2:SW W2 h os2 g2 fh2 q2 sc2 se2 sf2 oc2 oe2 ov2 n cs2 ds2 fs2 M2 ls2)(hx:x<n)(rt:h[ot]?=some (.cells ⟨[.ptr os1 0 7 0],0,0,false⟩))(rb:h[ob]?=some (.cells ⟨[.ptr os2 0 7 0],0,0,false⟩))(rl:h[ol]?=some (.cells ⟨[I L],0,0,false⟩))(b1:fnd (gf cs1) (gf M1) x<=4000000000000000000)(b2:fnd (gf cs2) (gf M2) x<=4000000000000000000) :
  Tot tab r5_ [I x,.ptr ot 0 1 0,.ptr ob 0 1 0,.ptr ol 0 1 0] h fun r h'=>r=.tup []/\h'[ol]?=some (.cells ⟨[I (mtL L (fnd (gf cs1) (gf M1) x) (fnd (gf cs2) (gf M2) x))],0,0,false⟩)/\FrS (fun o=>o=ol) h h':=by
 refine WP.tot (fun k=>a6k k _ _ _ _ h) ?_
 simp -implicitDefEqProofs (disch:=first|assumption|omega|(simp only[gL,gA]<;>omega)|fail) only[gC,reduceIte,rt,rb]
 refine WP.call (a7h w1 hx) ?_
 rintro _ _ ⟨rfl,rfl⟩
 simp -implicitDefEqProofs (disch:=first|assumption|omega|(simp only[gL,gA]<;>omega)|fail) only[gC,reduceIte,rt,rb]
 refine WP.call (a7h w2 hx) ?_
 rintro _ _ ⟨rfl,rfl⟩
 generalize fnd (gf cs1) (gf M1) x=a at b1 ⊢
 generalize fnd (gf cs2) (gf M2) x=b at b2 ⊢
 have bl:=(List.getElem?_eq_some_iff.1 rl).1
 by_cases ha:0<=a
 ·by_cases hb:0<=b
  ·by_cases hL:L<0
   ·simp -implicitDefEqProofs (disch:=first|assumption|omega|(simp only[gL,gA]<;>omega)|fail) only[gC,reduceIte,rl]
    refine WP.ret ⟨rfl,?_,⟨by simp,fun p p1 p2=>b5_ fun z=>p1 z.symm⟩⟩
    rw[a3_ bl,mtL,if_pos ⟨ha,hb,.inl hL⟩]
   ·by_cases hs:a+b<L
    ·simp -implicitDefEqProofs (disch:=first|assumption|omega|(simp only[gL,gA]<;>omega)|fail) only[gC,reduceIte,rl]
     refine WP.ret ⟨rfl,?_,⟨by simp,fun p p1 p2=>b5_ fun z=>p1 z.symm⟩⟩
     rw[a3_ bl,mtL,if_pos ⟨ha,hb,.inr hs⟩]
    ·simp -implicitDefEqProofs (disch:=first|assumption|omega|(simp only[gL,gA]<;>omega)|fail) only[gC,reduceIte,rl]
     refine WP.ret ⟨rfl,?_,FrS.refl _ _⟩
     rw[mtL,if_neg (fun z=>z.2.2.elim hL hs)]
     exact rl
  ·simp -implicitDefEqProofs (disch:=first|assumption|omega|(simp only[gL,gA]<;>omega)|fail) only[gC,reduceIte,rl]
   refine WP.ret ⟨rfl,?_,FrS.refl _ _⟩
   rw[mtL,if_neg (fun z=>hb z.2.1)]
   exact rl
 ·simp -implicitDefEqProofs (disch:=first|assumption|omega|(simp only[gL,gA]<;>omega)|fail) only[gC,reduceIte,rl]
  refine WP.ret ⟨rfl,?_,FrS.refl _ _⟩
  rw[mtL,if_neg (fun z=>ha z.1)]
  exact rl
end Go.Gm.AQ
namespace Go.Gm.AQ
open Go Go.Gm
def SB (W:Nat->Prop)(h:Heap)(os:Nat)(g:AV)(fh:FuncId)(n:Nat)(A:Nat->List Hop)(st:Nat->Prop)(c:Nat->Int)(m:Nat->Option Int)(ls:Int):Prop:=
 ∃(q sc se sf:AV) (oc oe ov:Nat) (cs ds fs:List Int) (M:List (Option Int)) (id k:Nat) (rk:Nat->Nat),SW W h os g (.fn fh [] []) q sc se sf oc oe ov n cs ds fs M ls/\DI n 2147483647 A st id [] (gf cs) (gf M) (gf ds) (gf fs) rk k/\un n (gf cs)+(k:Int)=n/\
  c=gf cs/\m=gf M
def LsOk (n:Nat)(m:Nat->Option Int)(ls:Int):Prop:=0<=ls/\ls<=4000000000000000000/\∀x:Nat,x<n->∀v,m x=some v->ls<=v
section
variable {W:Nat->Prop} {h0 h h':Heap} {os n:Nat} {g:AV} {fh:FuncId} {A:Nat->List Hop} {st:Nat->Prop} {c:Nat->Int} {m:Nat->Option Int} {ls:Int}
theorem SB.frs (s:SB W h os g fh n A st c m ls){D:Nat->Prop}(f:FrS D h h')(hd:∀o,o<h.length->W o->¬D o):SB W h' os g fh n A st c m ls:=by
 obtain ⟨q,sc,se,sf,oc,oe,ov,cs,ds,fs,M,id,k,rk,w,r⟩:=s
 exact ⟨q,sc,se,sf,oc,oe,ov,cs,ds,fs,M,id,k,rk,w.frs f hd,r⟩
theorem SB.mono (s:SB W h os g fh n A st c m ls){W':Nat->Prop}(hw:∀o,o<h.length->W o->W' o):SB W' h os g fh n A st c m ls:=by
 obtain ⟨q,sc,se,sf,oc,oe,ov,cs,ds,fs,M,id,k,rk,w,r⟩:=s
 exact ⟨q,sc,se,sf,oc,oe,ov,cs,ds,fs,M,id,k,rk,w.mono hw,r⟩
theorem SB.half (s:SB W h os g fh n A st c m ls)(lo:LsOk n m ls)(hg:GOk n 2147483647 A)(hst:∀x,st x->x<n):Half n A st c ls:=by
 obtain ⟨q,sc,se,sf,oc,oe,ov,cs,ds,fs,M,id,k,rk,w,d,u,rfl,rfl⟩:=s
 exact d.half hg hst lo.2.2
theorem SB.st0 (s:SB W h os g fh n A st c m ls){x:Nat}(hx:x<n)(hs:st x):fnd c m x=0:=by
 obtain ⟨q,sc,se,sf,oc,oe,ov,cs,ds,fs,M,id,k,rk,w,d,u,rfl,rfl⟩:=s
 exact b5f d hx hs
theorem SB.hop (s:SB W h os g fh n A st c m ls){x:Nat}(hx:x<n)(h0:0<=c x){y e':Nat}{w:Int}(hh:(y,e',w)∈A x)(hy:y<n):0<=fnd c m y/\fnd c m y<=c x+w:=by
 obtain ⟨q,sc,se,sf,oc,oe,ov,cs,ds,fs,M,id,k,rk,w,d,u,rfl,rfl⟩:=s
 exact b4a d hx h0 hh hy
theorem SB.walk (s:SB W h os g fh n A st c m ls){x:Nat}(hx:x<n)(h0:0<=fnd c m x):∃l,Wk A st x l (fnd c m x):=by
 obtain ⟨q,sc,se,sf,oc,oe,ov,cs,ds,fs,M,id,k,rk,w,d,u,rfl,rfl⟩:=s
 exact b2C d hx h0
theorem SB.bnd (s:SB W h os g fh n A st c m ls)(hn2:n<=1000000){x:Nat}(hx:x<n):fnd c m x<=4000000000000000000:=by
 obtain ⟨q,sc,se,sf,oc,oe,ov,cs,ds,fs,M,id,k,rk,w,d,u,rfl,rfl⟩:=s
 have h1:=b4b (by omega) d hx
 have h2:=l7_ n (gf cs)
 omega
variable {N:Nat} {es:List E} {D:List (List Int)} {acc:List Bool} {L:Int->Int->List Tr}
theorem SB.step (e0:Ext h0 h)(hW:∀o,W o->h0.length<=o)(gv:GV h0 g N es D acc)(ok:DOk D acc)(co:COk es)(hN:N<=100000)(hn:n=N*D.length)(hn2:n<=1000000)(hh:HopsOk h0 g N es D fh L)(hst:∀x,st x->x<n)(s:SB W h os g fh n (hopA es D.length L) st c m ls) :
  Tot tab d9_ [.ptr os 0 7 0] h fun r h'=>FrS W h h'/\
   ((r=.tup [I 0,.bool false]/\(∀x:Nat,x<n->m x=none)/\SB (fun o=>W o\/h.length<=o) h' os g fh n (hopA es D.length L) st c m ls)\/
    ∃id key m2,id<n/\c id<0/\0<=key/\r=.tup [I id,.bool true]/\SB (fun o=>W o\/h.length<=o) h' os g fh n (hopA es D.length L) st (up c id key) m2 key/\LsOk n m2 key):=by
 obtain ⟨q,sc,se,sf,oc,oe,ov,cs,ds,fs,M,id0,k,rk,w,d,u,rfl,rfl⟩:=s
 refine (a5O e0 hW gv ok co hN hn hn2 hh hst w d u).mono ?_
 rintro r h2 ⟨f2,⟨rfl,hm,w2⟩|⟨id,key,ds2,fs2,M2,rk2,i1,i2,i3,rfl,w2,d2,k2⟩⟩
 ·exact ⟨f2,.inl ⟨rfl,hm,q,sc,se,sf,oc,oe,ov,cs,ds,fs,M,id0,k,rk,w2,d,u,rfl,rfl⟩⟩
 ·obtain ⟨q1,q2,_⟩:=d.que id i1 key i2
  have hcs:gf (cs.set id key)=up (gf cs) id key:=gset (by rw[w.lc]; exact i1) key
  have hid:gf (cs.set id key) id=key:=by rw[hcs]; exact if_pos rfl
  refine ⟨f2,.inr ⟨id,key,gf M2,i1,by omega,q2,rfl,⟨q,sc,se,sf,oc,oe,ov,cs.set id key,ds2,fs2,M2,id,k+1,rk2,w2,d2,k2,hcs.symm,rfl⟩,q2,?_,fun x hx v hv=>?_⟩⟩
  ·have h5:=d2.bnd id i1 key (.inl ⟨by rw[hid]; exact q2,hid⟩)
   have h6:=l7_ n (gf (cs.set id key))
   omega
  have:=d2.ord id x i1 hx (by rw[hid]; exact q2) v hv
  rw[hid] at this
  exact this
end
end Go.Gm.AQ
namespace Go.Gm.AQ
open Go Go.Gm
structure RowsB (h:Heap) (ot ob ol oz os1 os2:Nat) (L:Int):Prop where
 rt:h[ot]?=some (.cells ⟨[.ptr os1 0 7 0],0,0,false⟩)
 rb:h[ob]?=some (.cells ⟨[.ptr os2 0 7 0],0,0,false⟩)
 rl:h[ol]?=some (.cells ⟨[I L],0,0,false⟩)
 rz:h[oz]?=some (.cells ⟨[.ptr os1 0 7 0,.ptr os2 0 7 0],0,0,false⟩)
 ne:ot≠ol/\ob≠ol/\oz≠ol
section
variable {h h':Heap} {ot ob ol oz os1 os2:Nat} {L:Int}
theorem RowsB.frs (r:RowsB h ot ob ol oz os1 os2 L){D:Nat->Prop}(f:FrS D h h')(hd:¬D ot/\¬D ob/\¬D ol/\¬D oz):RowsB h' ot ob ol oz os1 os2 L:=by
 have b:=fun {o:Nat} {x:AObj} (z:h[o]?=some x)=>(List.getElem?_eq_some_iff.1 z).1
 exact ⟨by rw[f.get hd.1 (b r.rt)]; exact r.rt,by rw[f.get hd.2.1 (b r.rb)]; exact r.rb,by rw[f.get hd.2.2.1 (b r.rl)]; exact r.rl,by rw[f.get hd.2.2.2 (b r.rz)]; exact r.rz,r.ne⟩
variable {W1 W2:Nat->Prop} {n:Nat} {g:AV} {f1 f2:FuncId} {A A':Nat->List Hop} {st en:Nat->Prop} {c1 c2:Nat->Int} {m1 m2:Nat->Option Int} {ls1 ls2:Int}
theorem a7x (s1:SB W1 h os1 g f1 n A st c1 m1 ls1)(s2:SB W2 h os2 g f2 n A' en c2 m2 ls2)(hn2:n<=1000000)(r:RowsB h ot ob ol oz os1 os2 L){x:Nat}(hx:x<n) :
  Tot tab r5_ [I x,.ptr ot 0 1 0,.ptr ob 0 1 0,.ptr ol 0 1 0] h fun v h'=>v=.tup []/\RowsB h' ot ob ol oz os1 os2 (mtL L (fnd c1 m1 x) (fnd c2 m2 x))/\FrS (fun o=>o=ol) h h':=by
 have b1:=s1.bnd hn2 hx
 have b2:=s2.bnd hn2 hx
 obtain ⟨q,sc,se,sf,oc,oe,ov,cs,ds,fs,M,id,k,rk,w,d,u,rfl,rfl⟩:=s1
 obtain ⟨q',sc',se',sf',oc',oe',ov',cs',ds',fs',M',id',k',rk',w',d',u',rfl,rfl⟩:=s2
 refine (b1O w w' hx r.rt r.rb r.rl b1 b2).mono ?_
 rintro v h2 ⟨rfl,rl,f⟩
 have b:=fun {o:Nat} {x:AObj} (z:h[o]?=some x)=>(List.getElem?_eq_some_iff.1 z).1
 exact ⟨rfl,⟨by rw[f.get r.ne.1 (b r.rt)]; exact r.rt,by rw[f.get r.ne.2.1 (b r.rb)]; exact r.rb,rl,by rw[f.get r.ne.2.2 (b r.rz)]; exact r.rz,r.ne⟩,f⟩
def Snd (A:Nat->List Hop)(st en:Nat->Prop)(L:Int):Prop:=L = -1\/(0<=L/\∃z,en z/\∃l,Wk A st z l L)
theorem Snd.meet (hg:GOk n 2147483647 A)(hg':GOk n 2147483647 A')(rv:Rev n A A')(hst:∀x,st x->x<n)(hen:∀x,en x->x<n)(s1:SB W1 h os1 g f1 n A st c1 m1 ls1)(s2:SB W2 h os2 g f2 n A' en c2 m2 ls2)(s:Snd A st en L){x:Nat}(hx:x<n):Snd A st en (mtL L (fnd c1 m1 x) (fnd c2 m2 x)):=by
 unfold mtL
 split
 ·rename_i q
  obtain ⟨l,hl⟩:=s1.walk hx q.1
  obtain ⟨l',hl'⟩:=s2.walk hx q.2.1
  obtain ⟨z,z1,l'',z2⟩:=Wk.join hg hg' rv hst hen hl' hl
  exact .inr ⟨by omega,z,z1,l'',z2⟩
 ·exact s
end
end Go.Gm.AQ
namespace Go.Gm.AQ
open Go Go.Gm
section
variable {h0 hb:Heap} {ot ob ol oz os1 os2:Nat} {W1 W2:Nat->Prop} {n:Nat} {g:AV} {f1 f2:FuncId} {A A':Nat->List Hop} {st en:Nat->Prop} {c1 c2:Nat->Int} {m1 m2:Nat->Option Int} {ls1 ls2:Int}
variable {N:Nat} {es:List E} {D:List (List Int)} {acc:List Bool}
abbrev meetV (ot ob ol:Nat):AV:=.fn r5_ [] [.ptr ot 0 1 0,.ptr ob 0 1 0,.ptr ol 0 1 0]
theorem b4o {kk:Int}{t112:AV}{ts:List Tr}{L0:Int}{Q:AV->Heap->Prop}(e0:Ext h0 hb)(gv:GV h0 g N es D acc)(ok:DOk D acc)(hN:N<=100000)(hn:n=N*D.length)(hn2:n<=1000000)(hg:GOk n 2147483647 A)(hg':GOk n 2147483647 A')(rv:Rev n A A')(hst:∀x,st x->x<n)(hen:∀x,en x->x<n)(s1:SB W1 hb os1 g f1 n A st c1 m1 ls1)(s2:SB W2 hb os2 g f2 n A' en c2 m2 ls2)(hw:¬W1 ol/\¬W2 ol)(hol:h0.length<=ol)(hro:ot<hb.length/\ob<hb.length/\ol<hb.length/\oz<hb.length)(hts:∀t∈ts,TrOk N es D t)(htl:ts.length<=10000000)(hsl:∀h,FrS (fun o=>o=ol\/hb.length<=o) hb h->Sl h 3 t112 (ts.map encT))(hQ:∀h L,FrS (fun o=>o=ol\/hb.length<=o) hb h->RowsB h ot ob ol oz os1 os2 L->Snd A st en L->(0<=L0->0<=L/\L<=L0)->(∀t∈ts,0<=fnd c1 m1 (hopOf es D.length t).1->0<=fnd c2 m2 (hopOf es D.length t).1->0<=L/\L<=fnd c1 m1 (hopOf es D.length t).1+fnd c2 m2 (hopOf es D.length t).1)->
   WP (fun p:Nat × Nat=>a0b p.1 p.2 g (.ptr ot 0 1 0) (.ptr ob 0 1 0) (.ptr ol 0 1 0) (meetV ot ob ol) (.ptr oz 0 2 0) (I kk) h) Q) :
  ∀(d i:Nat) (h:Heap) (L:Int),i+d=ts.length->FrS (fun o=>o=ol\/hb.length<=o) hb h->RowsB h ot ob ol oz os1 os2 L->Snd A st en L->(0<=L0->0<=L/\L<=L0)->
   (∀t∈ts.take i,0<=fnd c1 m1 (hopOf es D.length t).1->0<=fnd c2 m2 (hopOf es D.length t).1->0<=L/\L<=fnd c1 m1 (hopOf es D.length t).1+fnd c2 m2 (hopOf es D.length t).1)->
   WP (fun p:(Nat × Nat) × Nat=>a0a p.1.1 p.1.2 p.2 g (.ptr ot 0 1 0) (.ptr ob 0 1 0) (.ptr ol 0 1 0) (meetV ot ob ol) (.ptr oz 0 2 0) (I kk) t112 (I ts.length) (I i) h) Q:=by
 intro d
 induction d with
 |zero=>
  intro i h L h1 f r s hm ha
  refine WP.rnd (fun i' j=>a2v i'.1 i'.2 j g (.ptr ot 0 1 0) (.ptr ob 0 1 0) (.ptr ol 0 1 0) (meetV ot ob ol) (.ptr oz 0 2 0) (I kk) t112 (I ts.length) (I i) h) ?_
  rw[List.take_of_length_le (by omega)] at ha
  simp -implicitDefEqProofs (disch:=first|assumption|omega|(simp only[gL,gA]<;>omega)|fail) only[gC,reduceIte]
  exact WP.lv (hQ h L f r s hm ha) fun i j=>rfl
 |succ d ih=>
  intro i h L h1 f r s hm ha
  refine WP.rnd (fun i' j=>a2v i'.1 i'.2 j g (.ptr ot 0 1 0) (.ptr ob 0 1 0) (.ptr ol 0 1 0) (meetV ot ob ol) (.ptr oz 0 2 0) (I kk) t112 (I ts.length) (I i) h) ?_
  obtain ⟨t,hti⟩:∃t,gi ts i=t:=⟨_,rfl⟩
  have htm:t∈ts:=hti▸c4_ (by omega) (by omega)
  obtain ⟨t1,t2,t3,t4,t5,t6⟩:=hts t htm
  obtain ⟨sp1,sp2⟩:=a6g (S:=D.length) t1 t2 t3 t4
  obtain ⟨y,hy⟩:∃y:Nat,t.1*(D.length:Int)+t.2.1=y:=⟨(t.1*(D.length:Int)+t.2.1).toNat,by omega⟩
  have hyn:y<n:=by omega
  have hho:(hopOf es D.length t).1=y:=by simp only[hopOf,hy]; rfl
  have htk:ts.take (i+1)=ts.take i++[t]:=by
   rw[List.take_add_one,show ts[i]?=some t by
    have:=f3_ (xs:=ts) (i:=(i:Int)) (by omega) (by omega)
    rw[hti] at this; simpa using this]
   rfl
  have l0:=e0.len
  have lb:=f.len
  have ex:Ext h0 h:=f.ext e0 fun o q1 q2=>by omega
  have sl:=hsl h f
  obtain ⟨h2,hh2⟩:∃h2,h2=((h++[AObj.cells ⟨[I 0,I 0,I 0],0,0,false⟩]).set h.length (.cells ⟨[I t.1,I t.2.1,I t.2.2],0,0,false⟩)):=⟨_,rfl⟩
  have e2:Ext h h2:=by rw[hh2]; ((repeat (first|exact Ext.refl _|assumption|apply Ext.app|apply Ext.mk|(refine Ext.setr ?_ (by (first|omega|(simp only[gL]<;>omega))) _))))
  simp -implicitDefEqProofs (disch:=first|assumption|omega|exact Ext.refl _|(simp only[gL,gA]<;>omega)|fail) only[gC,reduceIte,sl.idxG,sl.ldN,hti,encT]
  rw[show AV.int .i64 0=I 0 from rfl,<-hh2]
  refine WP.call (a6f (gv.ext (ex.trans e2)) ok t1 (by omega) t3 (by have:=ok.l1; omega)) ?_
  rintro _ h3 ⟨rfl,e3⟩
  rw[hy]
  have f3:FrS (fun o=>o=ol\/hb.length<=o) hb h3:=f.trans ((FrS.ofExt e2).trans (FrS.ofExt e3))
  have r3:RowsB h3 ot ob ol oz os1 os2 L:=r.frs (D:=fun _=>False) ((FrS.ofExt e2).trans (FrS.ofExt e3)) ⟨id,id,id,id⟩
  have s13:=s1.frs f3 fun o q1 q2 q3=>q3.elim (fun z=>hw.1 (z▸q2)) fun z=>by omega
  have s23:=s2.frs f3 fun o q1 q2 q3=>q3.elim (fun z=>hw.2 (z▸q2)) fun z=>by omega
  refine WP.call (a7x s13 s23 hn2 r3 hyn) ?_
  rintro _ h4 ⟨rfl,r4,f4⟩
  have mono:0<=L->0<=mtL L (fnd c1 m1 y) (fnd c2 m2 y)/\mtL L (fnd c1 m1 y) (fnd c2 m2 y)<=L:=a6I
  refine ih (i+1) h4 _ (by omega) (f3.trans (f4.mono fun o _ z=>.inl z)) r4 (Snd.meet hg hg' rv hst hen s13 s23 s hyn) (fun z=>?_) fun t' ht'=>?_
  ·have h5:=hm z
   have h6:=mono h5.1
   exact ⟨h6.1,by omega⟩
  ·rw[htk] at ht'
   intro p1 p2
   rcases List.mem_append.1 ht' with q|q
   ·have h5:=ha t' q p1 p2
    have h6:=mono h5.1
    exact ⟨h6.1,by omega⟩
   ·obtain rfl:=List.mem_singleton.1 q
    rw[hho] at p1 p2 ⊢
    exact a8O p1 p2
end
end Go.Gm.AQ
namespace Go.Gm.AQ
open Go Go.Gm
section
variable {h0 hb:Heap} {ot ob ol oz os1 os2:Nat} {W1 W2:Nat->Prop} {n:Nat} {g:AV} {f1 f2:FuncId} {A A':Nat->List Hop} {st en:Nat->Prop} {c1 c2:Nat->Int} {m1 m2:Nat->Option Int} {ls1 ls2:Int}
variable {N:Nat} {es:List E} {D:List (List Int)} {acc:List Bool}
theorem SB.row {W:Nat->Prop}{h:Heap}{os:Nat}{fh:FuncId}{c:Nat->Int}{m:Nat->Option Int}{ls:Int}(s:SB W h os g fh n A st c m ls):W os/\∃q sc se sf,h[os]?=some (.cells ⟨[g,.fn fh [] [],q,sc,se,sf,I ls],0,0,false⟩):=by
 obtain ⟨q,sc,se,sf,oc,oe,ov,cs,ds,fs,M,id,k,rk,w,_⟩:=s
 exact ⟨w.ws,q,sc,se,sf,w.row⟩
theorem a9W {kk osk id:Nat}{fk:FuncId}{Wk':Nat->Prop}{lsk L0:Int}{LL:Int->Int->List Tr}{Ak:Nat->List Hop}{sk:Nat->Prop}{ck:Nat->Int}{mk':Nat->Option Int}{Q:AV->Heap->Prop}(e0:Ext h0 hb)(gv:GV h0 g N es D acc)(ok:DOk D acc)(hN:N<=100000)(hn:n=N*D.length)(hn2:n<=1000000)(hg:GOk n 2147483647 A)(hg':GOk n 2147483647 A')(rv:Rev n A A')(hst:∀x,st x->x<n)(hen:∀x,en x->x<n)(s1:SB W1 hb os1 g f1 n A st c1 m1 ls1)(s2:SB W2 hb os2 g f2 n A' en c2 m2 ls2)(hw:¬W1 ol/\¬W2 ol)(hol:h0.length<=ol)(sK:SB Wk' hb osk g fk n Ak sk ck mk' lsk)(hwk:¬Wk' ol)(hk:(kk=0/\osk=os1)\/(kk=1/\osk=os2))(hh:HopsOk h0 g N es D fk LL)(hid:id<n)(r:RowsB hb ot ob ol oz os1 os2 L0)(s:Snd A st en L0)(hQ:∀h L,FrS (fun o=>o=ol\/hb.length<=o) hb h->RowsB h ot ob ol oz os1 os2 L->Snd A st en L->(0<=L0->0<=L/\L<=L0)->(0<=fnd c1 m1 id->0<=fnd c2 m2 id->0<=L/\L<=fnd c1 m1 id+fnd c2 m2 id)->
   (∀t∈LL ((id / D.length:Nat):Int) ((id % D.length:Nat):Int),0<=fnd c1 m1 (hopOf es D.length t).1->0<=fnd c2 m2 (hopOf es D.length t).1->0<=L/\L<=fnd c1 m1 (hopOf es D.length t).1+fnd c2 m2 (hopOf es D.length t).1)->
   WP (fun p:Nat × Nat=>a0b p.1 p.2 g (.ptr ot 0 1 0) (.ptr ob 0 1 0) (.ptr ol 0 1 0) (meetV ot ob ol) (.ptr oz 0 2 0) (I kk) h) Q) :
  WP (fun p:Nat × Nat=>a1L p.1 p.2 g (.ptr ot 0 1 0) (.ptr ob 0 1 0) (.ptr ol 0 1 0) (meetV ot ob ol) (.ptr oz 0 2 0) (I kk) (I id) hb) Q:=by
 refine WP.congr (fun p=>a5F p.1 p.2 g (.ptr ot 0 1 0) (.ptr ob 0 1 0) (.ptr ol 0 1 0) (meetV ot ob ol) (.ptr oz 0 2 0) (I kk) (I id) hb) ?_
 have b:=fun {h:Heap} {o:Nat} {x:AObj} (z:h[o]?=some x)=>(List.getElem?_eq_some_iff.1 z).1
 have hro:ot<hb.length/\ob<hb.length/\ol<hb.length/\oz<hb.length:=⟨b r.rt,b r.rb,b r.rl,b r.rz⟩
 refine WP.call (a7x s1 s2 hn2 r hid) ?_
 rintro _ h1 ⟨rfl,r1,fr1⟩
 have l1:=fr1.len
 have ex1:Ext h0 h1:=fr1.ext e0 fun o z1 z2=>by omega
 have s11:=s1.frs fr1 fun o z1 z2 z3=>hw.1 (z3▸z2)
 have s21:=s2.frs fr1 fun o z1 z2 z3=>hw.2 (z3▸z2)
 have sK1:=sK.frs fr1 fun o z1 z2 z3=>hwk (z3▸z2)
 obtain ⟨_,q,sc,se,sf,ro⟩:=sK1.row
 have hix:idxA 2 1 (.ptr oz 0 2 0) (I kk)=some (.ptr oz kk (kk+1) 0):=by
  simp only[idxA,I]
  rw[if_pos ⟨by omega,by omega,by omega⟩]
  simp
 have hld:∀h,RowsB h ot ob ol oz os1 os2 (mtL L0 (fnd c1 m1 id) (fnd c2 m2 id))->Gm.ld1 h (.ptr oz kk (kk+1) 0)=some (.ptr osk 0 7 0):=by
  intro h rr
  have rz:=rr.rz
  rcases hk with ⟨rfl,rfl⟩|⟨rfl,rfl⟩
  ·simp[Gm.ld1,rz]
  ·simp[Gm.ld1,rz]
 have hld':rdAt h1[oz]? kk (kk+1) 0=some (.ptr osk 0 7 0):=hld h1 r1
 simp -implicitDefEqProofs (disch:=first|assumption|omega|(simp only[gL,gA]<;>omega)|fail) only[gC,reduceIte,hix,hld',ro]
 refine WP.call (a7U (gv.ext ex1) ok (by omega)) ?_
 rintro _ h2 ⟨rfl,e2⟩
 have ro2:=e2.get ro
 have r2:=r1.frs (D:=fun _=>False) (FrS.ofExt e2) ⟨fun z=>z,fun z=>z,fun z=>z,fun z=>z⟩
 have hld2:rdAt h2[oz]? kk (kk+1) 0=some (.ptr osk 0 7 0):=hld h2 r2
 obtain ⟨d1,d2⟩:=dm (N:=N) (S:=D.length) (hn▸hid)
 simp -implicitDefEqProofs (disch:=first|assumption|omega|(simp only[gL,gA]<;>omega)|fail) only[gC,reduceIte,hld2,ro2]
 refine WP.call (hh.call h2 (ex1.trans e2) _ _ (Int.natCast_nonneg _) (Int.ofNat_lt.2 d1) (Int.natCast_nonneg _) (Int.ofNat_lt.2 d2)) ?_
 rintro t112 h3 ⟨e3,g3⟩
 simp -implicitDefEqProofs (disch:=first|assumption|omega|(simp only[gL,gA]<;>omega)|fail) only[gC,reduceIte,g3.sl.lenG]
 have e13:=e2.trans e3
 have ex3:=ex1.trans e13
 have l2:=e2.len
 have l3:=e3.len
 have r3:=r1.frs (D:=fun _=>False) (FrS.ofExt e13) ⟨fun z=>z,fun z=>z,fun z=>z,fun z=>z⟩
 have s13:=s11.frs (FrS.ofExt (D:=fun _=>False) e13) fun _ _ _ z=>z
 have s23:=s21.frs (FrS.ofExt (D:=fun _=>False) e13) fun _ _ _ z=>z
 have fb3:FrS (fun o=>o=ol\/hb.length<=o) hb h3:=(fr1.mono fun o _ z=>.inl z).trans (FrS.ofExt e13)
 refine WP.ent (b4o (L0:=mtL L0 (fnd c1 m1 id) (fnd c2 m2 id)) (hb:=h3) (kk:=kk) ex3 gv ok hN hn hn2 hg hg' rv hst hen s13 s23 hw hol ⟨by omega,by omega,by omega,by omega⟩
  (hh.tr _ _ (Int.natCast_nonneg _) (Int.ofNat_lt.2 d1) (Int.natCast_nonneg _) (Int.ofNat_lt.2 d2)) (hh.len _ _ (Int.natCast_nonneg _) (Int.ofNat_lt.2 d1) (Int.natCast_nonneg _) (Int.ofNat_lt.2 d2))
  (fun h f=>(g3.frs f fun o z1 z2 z3=>by omega).sl) (fun h L f rr ss hm ha=>hQ h L (fb3.trans (f.mono fun o z1 z2=>z2.elim .inl fun z=>.inr (by omega))) rr ss (fun z=>?_) (fun z1 z2=>?_) ha) _ 0 h3 _ (Nat.zero_add _) (FrS.refl _ _) r3 (Snd.meet hg hg' rv hst hen s11 s21 s hid) (fun z=>⟨z,Int.le_refl _⟩) (fun t ht=>by simp at ht)) fun i=>rfl
 ·have h5:=a6I (a:=fnd c1 m1 id) (b:=fnd c2 m2 id) z
  have h6:=hm h5.1
  exact ⟨h6.1,by omega⟩
 ·have h5:=a8O (L:=L0) z1 z2
  have h6:=hm h5.1
  exact ⟨h6.1,by omega⟩
end
end Go.Gm.AQ
namespace Go.Gm.AQ
open Go Go.Gm
section
variable {W:Nat->Prop} {h0 h h':Heap} {os n:Nat} {g:AV} {fh:FuncId} {A:Nat->List Hop} {st:Nat->Prop} {c:Nat->Int} {m:Nat->Option Int} {ls:Int}
variable {N:Nat} {es:List E} {D:List (List Int)} {acc:List Bool} {L:Int->Int->List Tr}
theorem SB.all (e0:Ext h0 h)(hW:∀o,W o->h0.length<=o)(gv:GV h0 g N es D acc)(ok:DOk D acc)(co:COk es)(hN:N<=100000)(hn:n=N*D.length)(hn2:n<=1000000)(hh:HopsOk h0 g N es D fh L)(hst:∀x,st x->x<n)(s:SB W h os g fh n (hopA es D.length L) st c m ls) :
  Tot tab e4_ [.ptr os 0 7 0] h fun r h'=>r=.tup []/\FrS W h h'/\∃c2 m2 ls2,SB (fun o=>W o\/h.length<=o) h' os g fh n (hopA es D.length L) st c2 m2 ls2/\∀x:Nat,x<n->m2 x=none:=by
 obtain ⟨q,sc,se,sf,oc,oe,ov,cs,ds,fs,M,id0,k,rk,w,d,u,rfl,rfl⟩:=s
 refine (a6J e0 hW gv ok co hN hn hn2 hh hst w d u).mono ?_
 rintro r h2 ⟨rfl,f2,id2,k2,ls2,rk2,cs2,ds2,fs2,M2,w2,d2,m2,u2⟩
 exact ⟨rfl,f2,gf cs2,gf M2,ls2,⟨q,sc,se,sf,oc,oe,ov,cs2,ds2,fs2,M2,id2,k2,rk2,w2,d2,u2,rfl,rfl⟩,m2⟩
theorem SB.done (s:SB W h os g fh n A st c m ls)(hg:GOk n 2147483647 A)(hst:∀x,st x->x<n)(hm:∀x:Nat,x<n->m x=none){z:Nat}{l:List Nat}{v:Int}(h:Wk A st z l v):0<=c z/\c z<=v/\fnd c m z=c z:=by
 obtain ⟨q,sc,se,sf,oc,oe,ov,cs,ds,fs,M,id0,k,rk,w,d,u,rfl,rfl⟩:=s
 obtain ⟨h1,h2⟩:=d.all hg hst hm h
 exact ⟨h1,h2,if_pos h1⟩
end
section
variable {hb:Heap} {ot ob ol oz os1 os2:Nat} {W1 W2:Nat->Prop} {n:Nat} {g:AV} {f1 f2:FuncId} {A A':Nat->List Hop} {st en:Nat->Prop} {c1 c2:Nat->Int} {m1 m2:Nat->Option Int} {ls1 ls2:Int}
theorem a9X {ι:Type}{h:Heap}{L:Int}(r:RowsB h ot ob ol oz os1 os2 L)(k:ι->Nat)[Fuel ι]{Q:AV->Heap->Prop}(hQ:Q (.tup [I (max L 0),.bool (decide (0<=L))]) h) :
  WP (fun p:ι=>z9_ (k p) (.ptr ol 0 1 0) h) Q:=by
 refine WP.congr (fun p=>a5E (k p) (.ptr ol 0 1 0) h) ?_
 have rl:=r.rl
 by_cases h0:0<=L
 ·have:decide (0<=L)=true:=decide_eq_true h0
  rw[this] at hQ
  simp -implicitDefEqProofs (disch:=first|assumption|omega|(simp only[gL,gA]<;>omega)|fail) only[gC,reduceIte,rl]
  exact WP.ret hQ
 ·have:decide (0<=L)=false:=decide_eq_false h0
  rw[this] at hQ
  simp -implicitDefEqProofs (disch:=first|assumption|omega|(simp only[gL,gA]<;>omega)|fail) only[gC,reduceIte,rl]
  exact WP.ret hQ
theorem a9Y {Q:AV->Heap->Prop}(hn2:n<=1000000)(hg:GOk n 2147483647 A)(hg':GOk n 2147483647 A')(rv:Rev n A A')(hst:∀x,st x->x<n)(hen:∀x,en x->x<n)(s1:SB W1 hb os1 g f1 n A st c1 m1 ls1)(s2:SB W2 hb os2 g f2 n A' en c2 m2 ls2)(hw:¬W1 ol/\¬W2 ol)(hQ:∀h L,FrS (fun o=>o=ol) hb h->Snd A st en L->(∀x:Nat,x<n->0<=fnd c1 m1 x->0<=fnd c2 m2 x->0<=L/\L<=fnd c1 m1 x+fnd c2 m2 x)->Q (.tup [I (max L 0),.bool (decide (0<=L))]) h) :
  ∀(d i:Nat) (h:Heap) (L:Int),i+d=n->FrS (fun o=>o=ol) hb h->RowsB h ot ob ol oz os1 os2 L->Snd A st en L->
   (∀x:Nat,x<i->0<=fnd c1 m1 x->0<=fnd c2 m2 x->0<=L/\L<=fnd c1 m1 x+fnd c2 m2 x)->
   WP (fun p:(Nat × Nat) × Nat=>z8_ p.1.1 p.1.2 p.2 (.ptr ol 0 1 0) (meetV ot ob ol) (I n) (I i) h) Q:=by
 intro d
 induction d with
 |zero=>
  intro i h L h1 f r s ha
  refine WP.rnd (fun i' j=>a2t i'.1 i'.2 j (.ptr ol 0 1 0) (meetV ot ob ol) (I n) (I i) h) ?_
  obtain rfl:i=n:=by omega
  simp -implicitDefEqProofs (disch:=first|assumption|omega|(simp only[gL,gA]<;>omega)|fail) only[gC,reduceIte]
  exact WP.lv (a9X (ι:=Nat × Nat) r (fun p=>p.1) (hQ h L f s ha)) fun i j=>rfl
 |succ d ih=>
  intro i h L h1 f r s ha
  refine WP.rnd (fun i' j=>a2t i'.1 i'.2 j (.ptr ol 0 1 0) (meetV ot ob ol) (I n) (I i) h) ?_
  have hin:i<n:=by omega
  have s13:=s1.frs f fun o q1 q2 q3=>hw.1 (q3▸q2)
  have s23:=s2.frs f fun o q1 q2 q3=>hw.2 (q3▸q2)
  simp -implicitDefEqProofs (disch:=first|assumption|omega|(simp only[gL,gA]<;>omega)|fail) only[gC,reduceIte]
  refine WP.call (a7x s13 s23 hn2 r hin) ?_
  rintro _ h4 ⟨rfl,r4,f4⟩
  refine ih (i+1) h4 _ (by omega) (f.trans f4) r4 (Snd.meet hg hg' rv hst hen s13 s23 s hin) fun x hx p1 p2=>?_
  by_cases q:x=i
  ·subst q; exact a8O p1 p2
  ·have h5:=ha x (by omega) p1 p2
   have h6:=a6I (a:=fnd c1 m1 i) (b:=fnd c2 m2 i) h5.1
   exact ⟨h6.1,by omega⟩
end
end Go.Gm.AQ
namespace Go.Gm.AQ
open Go Go.Gm
section
variable {h0:Heap} {ot ob ol oz os1 os2:Nat} {n:Nat} {g:AV} {st en:Nat->Prop}
variable {N:Nat} {es:List E} {D:List (List Int)} {acc:List Bool}
def Pl (h0 h:Heap)(ot ob ol oz:Nat)(W:Nat->Prop):Prop:=∀o,W o->h0.length<=o/\o<h.length/\o≠ot/\o≠ob/\o≠ol/\o≠oz
theorem Pl.grow {h h':Heap}{W:Nat->Prop}(p:Pl h0 h ot ob ol oz W)(e0:h0.length<=h.length)(e:h.length<=h'.length)(hr:ot<h.length/\ob<h.length/\ol<h.length/\oz<h.length):Pl h0 h' ot ob ol oz (fun o=>W o\/(h.length<=o/\o<h'.length)):=by
 intro o z
 rcases z with z|z
 ·have:=p o z; omega
 ·omega
theorem a9Z {A A':Nat->List Hop}{os:Nat}{W1 W2:Nat->Prop}{h:Heap}{f1 f2:FuncId}{c1 c2:Nat->Int}{m1 m2 m1':Nat->Option Int}{ls1 ls2 key L L':Int}{id:Nat}{LL:Int->Int->List Tr}(hid:id<n)(hneg:c1 id<0)(hkey:0<=key)(hg:GOk n 2147483647 (hopA es D.length LL))(hen:∀x,en x->x<n)(s1:SB W1 h os1 g f1 n (hopA es D.length LL) st (up c1 id key) m1' key)(s2:SB W2 h os2 g f2 n A' en c2 m2 ls2)(mt:Met n (hopA es D.length LL) st en c1 c2 L)(hmono:0<=L->0<=L'/\L'<=L)(hme:0<=fnd (up c1 id key) m1' id->0<=fnd c2 m2 id->0<=L'/\L'<=fnd (up c1 id key) m1' id+fnd c2 m2 id)(hal:∀t∈LL ((id / D.length:Nat):Int) ((id % D.length:Nat):Int),0<=fnd (up c1 id key) m1' (hopOf es D.length t).1->0<=fnd c2 m2 (hopOf es D.length t).1->0<=L'/\L'<=fnd (up c1 id key) m1' (hopOf es D.length t).1+fnd c2 m2 (hopOf es D.length t).1) :
  Met n (hopA es D.length LL) st en (up c1 id key) c2 L':=by
 have e1:up c1 id key id=key:=if_pos rfl
 have e2:fnd (up c1 id key) m1' id=key:=by rw[fnd,e1,if_pos hkey]
 refine mt.step (fun x hx q=>if_neg q) hmono (fun q=>?_) fun y e w hh hd=>?_
 ·have h1:=s2.st0 hid q
  have h2:=hme (by omega) (by omega)
  rw[e2,h1] at h2
  rw[e1]; omega
 ·obtain ⟨t,ht,h1⟩:=List.mem_map.1 hh
  have hy:=(hg.hop id hid _ _ _ hh).1
  have h2:=s1.hop hid (by rw[e1]; exact hkey) hh hy
  have h3:(hopOf es D.length t).1=y:=by rw[h1]
  have h4:=hal t ht
  rw[h3] at h4
  have h5:fnd c2 m2 y=c2 y:=if_pos hd
  have h6:=h4 h2.1 (by rw[h5]; exact hd)
  rw[h5] at h6
  have h7:=h2.2
  omega
end
end Go.Gm.AQ
namespace Go.Gm.AQ
open Go Go.Gm
theorem b0A {ι:Type}[Fuel ι]{h:Heap}{ot oB ol oz os1 os2:Nat}{L ls1 ls2:Int}{a1 b1 q1 x1 y1 z1 a2 b2 q2 x2 y2 z2:AV}{K:ι->AV->Heap->Option (AV × Heap)}{Q:AV->Heap->Prop}(r:RowsB h ot oB ol oz os1 os2 L)(r1:h[os1]?=some (.cells ⟨[a1,b1,q1,x1,y1,z1,I ls1],0,0,false⟩))(r2:h[os2]?=some (.cells ⟨[a2,b2,q2,x2,y2,z2,I ls2],0,0,false⟩))(h1:0<=ls1/\ls1<=4000000000000000000)(h2:0<=ls2/\ls2<=4000000000000000000)(hQ:WP (fun i=>K i (.bool (decide (L<0\/ls1+ls2<L))) h) Q) :
  WP (fun i=>
  oa (ld1 h (.ptr ol 0 1 0)) fun t129_1=>
  oa (binV .lss .scalar t129_1 (.int .i64 0)) fun t130_2=>
  ob (gd t130_2 false (pure1 h (ld1 h (.ptr ot 0 1 0))) h) fun t132_3 h_4=>
  ob (gd t130_2 false (pure1 h_4 (nilCk t132_3)) h_4) fun t133_5 h_6=>
  ob (gd t130_2 false (pure1 h_6 (fldA 6 t133_5)) h_6) fun t134_7 h_8=>
  ob (gd t130_2 false (pure1 h_8 (ld1 h_8 t134_7)) h_8) fun t135_9 h_10=>
  ob (gd t130_2 false (pure1 h_10 (ld1 h_10 (.ptr oB 0 1 0))) h_10) fun t136_11 h_12=>
  ob (gd t130_2 false (pure1 h_12 (nilCk t136_11)) h_12) fun t137_13 h_14=>
  ob (gd t130_2 false (pure1 h_14 (fldA 6 t137_13)) h_14) fun t138_15 h_16=>
  ob (gd t130_2 false (pure1 h_16 (ld1 h_16 t138_15)) h_16) fun t139_17 h_18=>
  ob (gd t130_2 false (pure1 h_18 (binV .add .scalar t135_9 t139_17)) h_18) fun t140_19 h_20=>
  ob (gd t130_2 false (pure1 h_20 (ld1 h_20 (.ptr ol 0 1 0))) h_20) fun t141_21 h_22=>
  ob (gd t130_2 false (pure1 h_22 (binV .lss .scalar t140_19 t141_21)) h_22) fun t142_23 h_24=>
  oa (pickV t130_2 (.bool true) t142_23) fun t143_25=>K i t143_25 h_24) Q:=by
 have rt:=r.rt
 have rb:=r.rb
 have rl:=r.rl
 by_cases q0:L<0
 ·rw[decide_eq_true (Or.inl q0)] at hQ
  simp -implicitDefEqProofs (disch:=first|assumption|omega|(simp only[gL,gA]<;>omega)|fail) only[gC,reduceIte,rt,rb,rl,r1,r2]
  exact hQ
 ·by_cases q1:ls1+ls2<L
  ·rw[decide_eq_true (Or.inr q1)] at hQ
   simp -implicitDefEqProofs (disch:=first|assumption|omega|(simp only[gL,gA]<;>omega)|fail) only[gC,reduceIte,rt,rb,rl,r1,r2]
   exact hQ
  ·rw[decide_eq_false (fun z=>z.elim q0 q1)] at hQ
   simp -implicitDefEqProofs (disch:=first|assumption|omega|(simp only[gL,gA]<;>omega)|fail) only[gC,reduceIte,rt,rb,rl,r1,r2]
   exact hQ
section
variable {h0:Heap} {ot ob ol oz os1 os2 n:Nat} {g:AV} {f1 f2:FuncId} {st en:Nat->Prop} {L1 L2:Int->Int->List Tr}
variable {N:Nat} {es:List E} {D:List (List Int)} {acc:List Bool}
structure BI (h0 h:Heap) (ot ob ol oz os1 os2 n:Nat) (g:AV) (f1 f2:FuncId) (st en:Nat->Prop) (A1 A2:Nat->List Hop) (W1 W2:Nat->Prop) (c1 c2:Nat->Int) (m1 m2:Nat->Option Int) (ls1 ls2 L:Int):Prop where
 ex:Ext h0 h
 sa:SB W1 h os1 g f1 n A1 st c1 m1 ls1
 sb:SB W2 h os2 g f2 n A2 en c2 m2 ls2
 ka:LsOk n m1 ls1
 kb:LsOk n m2 ls2
 rr:RowsB h ot ob ol oz os1 os2 L
 sn:Snd A1 st en L
 mt:Met n A1 st en c1 c2 L
 pa:Pl h0 h ot ob ol oz W1
 pb:Pl h0 h ot ob ol oz W2
 dj:∀o,W1 o->¬W2 o
theorem b4p (gv:GV h0 g N es D acc)(ok:DOk D acc)(co:COk es)(hN:N<=100000)(hn:n=N*D.length)(hn2:n<=1000000)(hh1:HopsOk h0 g N es D f1 L1)(hh2:HopsOk h0 g N es D f2 L2)(rv:Rev n (hopA es D.length L1) (hopA es D.length L2))(hst:∀x,st x->x<n)(hen:∀x,en x->x<n)(hro:h0.length<=ot/\h0.length<=ob/\h0.length<=ol/\h0.length<=oz){Q:AV->Heap->Prop}(hQ:∀h L,Ext h0 h->Snd (hopA es D.length L1) st en L->(∀z l v,en z->Wk (hopA es D.length L1) st z l v->0<=L/\L<=v)->Q (.tup [I (max L 0),.bool (decide (0<=L))]) h) :
  ∀(d:Nat) (W1 W2:Nat->Prop) (c1 c2:Nat->Int) (m1 m2:Nat->Option Int) (ls1 ls2 L:Int) (h:Heap) (kk:Int),un n c1+un n c2<d->(kk=0\/kk=1)->
   BI h0 h ot ob ol oz os1 os2 n g f1 f2 st en (hopA es D.length L1) (hopA es D.length L2) W1 W2 c1 c2 m1 m2 ls1 ls2 L->
   WP (fun p:Nat × Nat=>z7_ p.1 p.2 g (.ptr ot 0 1 0) (.ptr ob 0 1 0) (.ptr ol 0 1 0) (meetV ot ob ol) (.ptr oz 0 2 0) (I kk) h) Q:=by
 have hg1:GOk n 2147483647 (hopA es D.length L1):=hn▸hh1.gok co
 have hg2:GOk n 2147483647 (hopA es D.length L2):=hn▸hh2.gok co
 intro d
 induction d with
 |zero=>
  intro W1 W2 c1 c2 m1 m2 ls1 ls2 L h kk hd
  have:=l7_ n c1
  have:=l7_ n c2
  omega
 |succ d ih=>
  intro W1 W2 c1 c2 m1 m2 ls1 ls2 L h kk hd hk b
  refine WP.rnd (fun i j=>a5G i j g (.ptr ot 0 1 0) (.ptr ob 0 1 0) (.ptr ol 0 1 0) (meetV ot ob ol) (.ptr oz 0 2 0) (I kk) h) ?_
  obtain ⟨ws1,a1,a2,a3,a4,ro1⟩:=b.sa.row
  obtain ⟨ws2,b1,b2,b3,b4,ro2⟩:=b.sb.row
  refine b0A b.rr ro1 ro2 ⟨b.ka.1,b.ka.2.1⟩ ⟨b.kb.1,b.kb.2.1⟩ ?_
  have lt:=fun {o:Nat} {x:AObj} (z:h[o]?=some x)=>(List.getElem?_eq_some_iff.1 z).1
  have hlt:=lt b.rr.rt
  have hlb:=lt b.rr.rb
  have hll:=lt b.rr.rl
  have hlz:=lt b.rr.rz
  have e0:=b.ex.len
  have w1l:¬W1 ol:=fun z=>(b.pa _ z).2.2.2.2.1 rfl
  have w2l:¬W2 ol:=fun z=>(b.pb _ z).2.2.2.2.1 rfl
  have na:¬W1 ot/\¬W1 ob/\¬W1 ol/\¬W1 oz:=⟨fun z=>(b.pa _ z).2.2.1 rfl,fun z=>(b.pa _ z).2.2.2.1 rfl,w1l,fun z=>(b.pa _ z).2.2.2.2.2 rfl⟩
  have nb:¬W2 ot/\¬W2 ob/\¬W2 ol/\¬W2 oz:=⟨fun z=>(b.pb _ z).2.2.1 rfl,fun z=>(b.pb _ z).2.2.2.1 rfl,w2l,fun z=>(b.pb _ z).2.2.2.2.2 rfl⟩
  by_cases hc:L<0\/ls1+ls2<L
  ·rw[decide_eq_true hc]
   have hix0:idxA 2 1 (.ptr oz 0 2 0) (I 0)=some (.ptr oz 0 1 0):=by simp[idxA,I]
   have hix1:idxA 2 1 (.ptr oz 0 2 0) (I 1)=some (.ptr oz 1 2 0):=by simp[idxA,I]
   have hld0:∀{h':Heap} {L':Int},RowsB h' ot ob ol oz os1 os2 L'->rdAt h'[oz]? 0 1 0=some (.ptr os1 0 7 0):=by
    intro h' L' r'
    rw[r'.rz]; simp[rdAt]
   have hld1:∀{h':Heap} {L':Int},RowsB h' ot ob ol oz os1 os2 L'->rdAt h'[oz]? 1 2 0=some (.ptr os2 0 7 0):=by
    intro h' L' r'
    rw[r'.rz]; simp[rdAt]
   rcases hk with rfl|rfl
   ·have hx:=hld0 b.rr
    simp -implicitDefEqProofs (disch:=first|assumption|omega|(simp only[gL,gA]<;>omega)|fail) only[gC,reduceIte,hix0,hx]
    refine WP.call (b.sa.step b.ex (fun o z=>(b.pa o z).1) gv ok co hN hn hn2 hh1 hst) ?_
    rintro _ h2 ⟨fa,⟨rfl,hm,sa2⟩|⟨id,key,m1',i1,i2,i3,rfl,sa2,lo2⟩⟩
    ·have l2:=fa.len
     have ex2:Ext h0 h2:=fa.ext b.ex fun o q1 q2=>by have:=(b.pa o q2).1; omega
     have r2:=b.rr.frs fa na
     have sb2:=b.sb.frs fa fun o q1 q2 q3=>b.dj o q3 q2
     have hx2:=hld1 r2
     simp -implicitDefEqProofs (disch:=first|assumption|omega|(simp only[gL,gA]<;>omega)|fail) only[gC,reduceIte,a9_,b0_,show (1:Int)-0=1 from rfl,hix1,hx2]
     refine WP.call (sb2.all ex2 (fun o z=>(b.pb o z).1) gv ok co hN hn hn2 hh2 hen) ?_
     rintro _ h3 ⟨rfl,fb,c2',m2',ls2',sb3,hm2⟩
     have l3:=fb.len
     have ex3:Ext h0 h3:=fb.ext ex2 fun o q1 q2=>by have:=(b.pb o q2).1; omega
     have r3:=r2.frs fb nb
     have sa3:=sa2.frs fb fun o q1 q2 q3=>q2.elim (fun z=>b.dj o z q3) fun z=>by have:=(b.pb o q3).2.1; omega
     have rt:=r3.rt
     obtain ⟨sc,ob',g3,row3⟩:∃sc,(∃x:AObj,True)/\lenS sc=some (I n)/\∃q se sf,h3[os1]?=some (.cells ⟨[g,.fn f1 [] [],q,sc,se,sf,I ls1],0,0,false⟩):=by
      obtain ⟨q,sc,se,sf,oc,oe,ov,cs,ds,fs,M,id,k,rk,w,_⟩:=sa3
      refine ⟨sc,⟨.cells ⟨[],0,0,false⟩,trivial⟩,?_,q,se,sf,w.row⟩
      have:=w.gc.sl.len
      rw[List.length_map,w.lc] at this
      exact this
     obtain ⟨q,se,sf,row3⟩:=row3
     simp -implicitDefEqProofs (disch:=first|assumption|omega|(simp only[gL,gA]<;>omega)|fail) only[gC,reduceIte,rt,row3,g3]
     refine WP.ent (a9Y hn2 hg1 hg2 rv hst hen sa3 sb3 ⟨fun z=>z.elim w1l fun z=>by omega,fun z=>z.elim w2l fun z=>by omega⟩ (fun h' L' f s ha=>hQ h' L' (f.ext ex3 fun o q1 q2=>by omega) s fun z l v hz hw=>?_) n 0 h3 L (Nat.zero_add _) (FrS.refl _ _) r3 b.sn (fun x hx=>absurd hx (by omega))) fun i=>rfl
     have h5:=sa3.done hg1 hst hm hw
     have h6:=sb3.st0 (hen z hz) hz
     have h7:=ha z (hen z hz) (by omega) (by omega)
     omega
    ·have l2:=fa.len
     have ex2:Ext h0 h2:=fa.ext b.ex fun o q1 q2=>by have:=(b.pa o q2).1; omega
     have r2:=b.rr.frs fa na
     have sb2:=b.sb.frs fa fun o q1 q2 q3=>b.dj o q3 q2
     have sa3:=sa2.mono (W':=fun o=>W1 o\/(h.length<=o/\o<h2.length)) fun o q1 q2=>q2.elim .inl fun z=>.inr ⟨z,q1⟩
     have pa2:=b.pa.grow e0 l2 ⟨hlt,hlb,hll,hlz⟩
     have w1l':¬(W1 ol\/(h.length<=ol/\ol<h2.length)):=fun z=>z.elim w1l fun z=>by omega
     simp -implicitDefEqProofs (disch:=first|assumption|omega|(simp only[gL,gA]<;>omega)|fail) only[gC,reduceIte,a9_,b0_]
     refine a9W (L0:=L) ex2 gv ok hN hn hn2 hg1 hg2 rv hst hen sa3 sb2 ⟨w1l',w2l⟩ hro.2.2.1 sa3 w1l' (.inl ⟨rfl,rfl⟩) hh1 i1 r2 b.sn ?_
     intro h4 L' f4 r4 sn4 hmo hme hal
     refine WP.congr (fun p=>a2u p.1 p.2 g (.ptr ot 0 1 0) (.ptr ob 0 1 0) (.ptr ol 0 1 0) (meetV ot ob ol) (.ptr oz 0 2 0) (I 0) h4) ?_
     have l4:=f4.len
     have sa4:=sa3.frs f4 fun o q1 q2 q3=>q3.elim (fun z=>w1l' (z▸q2)) fun z=>by omega
     have sb4:=sb2.frs f4 fun o q1 q2 q3=>q3.elim (fun z=>w2l (z▸q2)) fun z=>by omega
     have hu:=un_up (n:=n) (c:=c1) (y:=id) (v:=key) i1 i3
     rw[if_pos i2] at hu
     simp -implicitDefEqProofs (disch:=first|assumption|omega|(simp only[gL,gA]<;>omega)|fail) only[gC,reduceIte]
     refine ih (fun o=>W1 o\/(h.length<=o/\o<h2.length)) W2 (up c1 id key) c2 m1' m2 key ls2 L' h4 1 (by omega) (.inr rfl) ⟨f4.ext ex2 fun o q1 q2=>by omega,sa4,sb4,lo2,b.kb,r4,sn4,a9Z (os:=0) (A:=fun _=>[]) (m1:=m1) (ls1:=0) i1 i2 i3 hg1 hen sa4 sb4 b.mt hmo hme hal,fun o z=>?_,fun o z=>?_,fun o z1 z2=>?_⟩
     ·have:=pa2 o z
      exact ⟨this.1,by omega,this.2.2⟩
     ·have:=b.pb o z
      exact ⟨this.1,by omega,this.2.2⟩
     ·rcases z1 with z1|z1
      ·exact b.dj o z1 z2
      ·have:=b.pb o z2
       omega
   ·have hx:=hld1 b.rr
    simp -implicitDefEqProofs (disch:=first|assumption|omega|(simp only[gL,gA]<;>omega)|fail) only[gC,reduceIte,hix1,hx]
    refine WP.call (b.sb.step b.ex (fun o z=>(b.pb o z).1) gv ok co hN hn hn2 hh2 hen) ?_
    rintro _ h2 ⟨fa,⟨rfl,hm,sb2⟩|⟨id,key,m2',i1,i2,i3,rfl,sb2,lo2⟩⟩
    ·have l2:=fa.len
     have ex2:Ext h0 h2:=fa.ext b.ex fun o q1 q2=>by have:=(b.pb o q2).1; omega
     have r2:=b.rr.frs fa nb
     have sa2:=b.sa.frs fa fun o q1 q2 q3=>b.dj o q2 q3
     have hx2:=hld0 r2
     simp -implicitDefEqProofs (disch:=first|assumption|omega|(simp only[gL,gA]<;>omega)|fail) only[gC,reduceIte,a9_,b0_,show (1:Int)-1=0 from rfl,hix0,hx2]
     refine WP.call (sa2.all ex2 (fun o z=>(b.pa o z).1) gv ok co hN hn hn2 hh1 hst) ?_
     rintro _ h3 ⟨rfl,fb,c1',m1',ls1',sa3,hm2⟩
     have l3:=fb.len
     have ex3:Ext h0 h3:=fb.ext ex2 fun o q1 q2=>by have:=(b.pa o q2).1; omega
     have r3:=r2.frs fb na
     have sb3:=sb2.frs fb fun o q1 q2 q3=>q2.elim (fun z=>b.dj o q3 z) fun z=>by have:=(b.pa o q3).2.1; omega
     have rt:=r3.rt
     obtain ⟨sc,g3,row3⟩:∃sc,lenS sc=some (I n)/\∃q se sf,h3[os1]?=some (.cells ⟨[g,.fn f1 [] [],q,sc,se,sf,I ls1'],0,0,false⟩):=by
      obtain ⟨q,sc,se,sf,oc,oe,ov,cs,ds,fs,M,id,k,rk,w,_⟩:=sa3
      refine ⟨sc,?_,q,se,sf,w.row⟩
      have:=w.gc.sl.len
      rw[List.length_map,w.lc] at this
      exact this
     obtain ⟨q,se,sf,row3⟩:=row3
     simp -implicitDefEqProofs (disch:=first|assumption|omega|(simp only[gL,gA]<;>omega)|fail) only[gC,reduceIte,rt,row3,g3]
     refine WP.ent (a9Y hn2 hg1 hg2 rv hst hen sa3 sb3 ⟨fun z=>z.elim w1l fun z=>by omega,fun z=>z.elim w2l fun z=>by omega⟩ (fun h' L' f s ha=>hQ h' L' (f.ext ex3 fun o q1 q2=>by omega) s fun z l v hz hw=>?_) n 0 h3 L (Nat.zero_add _) (FrS.refl _ _) r3 b.sn (fun x hx=>absurd hx (by omega))) fun i=>rfl
     have h5:=sa3.done hg1 hst hm2 hw
     have h6:=sb3.st0 (hen z hz) hz
     have h7:=ha z (hen z hz) (by omega) (by omega)
     omega
    ·have l2:=fa.len
     have ex2:Ext h0 h2:=fa.ext b.ex fun o q1 q2=>by have:=(b.pb o q2).1; omega
     have r2:=b.rr.frs fa nb
     have sa2:=b.sa.frs fa fun o q1 q2 q3=>b.dj o q2 q3
     have sb3:=sb2.mono (W':=fun o=>W2 o\/(h.length<=o/\o<h2.length)) fun o q1 q2=>q2.elim .inl fun z=>.inr ⟨z,q1⟩
     have pb2:=b.pb.grow e0 l2 ⟨hlt,hlb,hll,hlz⟩
     have w2l':¬(W2 ol\/(h.length<=ol/\ol<h2.length)):=fun z=>z.elim w2l fun z=>by omega
     simp -implicitDefEqProofs (disch:=first|assumption|omega|(simp only[gL,gA]<;>omega)|fail) only[gC,reduceIte,a9_,b0_]
     refine a9W (L0:=L) ex2 gv ok hN hn hn2 hg1 hg2 rv hst hen sa2 sb3 ⟨w1l,w2l'⟩ hro.2.2.1 sb3 w2l' (.inr ⟨rfl,rfl⟩) hh2 i1 r2 b.sn ?_
     intro h4 L' f4 r4 sn4 hmo hme hal
     refine WP.congr (fun p=>a2u p.1 p.2 g (.ptr ot 0 1 0) (.ptr ob 0 1 0) (.ptr ol 0 1 0) (meetV ot ob ol) (.ptr oz 0 2 0) (I 1) h4) ?_
     have l4:=f4.len
     have sb4:=sb3.frs f4 fun o q1 q2 q3=>q3.elim (fun z=>w2l' (z▸q2)) fun z=>by omega
     have sa4:=sa2.frs f4 fun o q1 q2 q3=>q3.elim (fun z=>w1l (z▸q2)) fun z=>by omega
     have hu:=un_up (n:=n) (c:=c2) (y:=id) (v:=key) i1 i3
     rw[if_pos i2] at hu
     simp -implicitDefEqProofs (disch:=first|assumption|omega|(simp only[gL,gA]<;>omega)|fail) only[gC,reduceIte]
     refine ih W1 (fun o=>W2 o\/(h.length<=o/\o<h2.length)) c1 (up c2 id key) m1 m2' ls1 key L' h4 0 (by omega) (.inl rfl) ⟨f4.ext ex2 fun o q1 q2=>by omega,sa4,sb4,b.ka,lo2,r4,sn4,(a9Z (os:=0) (A:=fun _=>[]) (m1:=m1) (ls1:=0) i1 i2 i3 hg2 hst sb4 sa4 (b.mt.symm hg1 hg2 rv) hmo (fun z1 z2=>?_) (fun t ht z1 z2=>?_)).symm hg2 hg1 rv.symm,fun o z=>?_,fun o z=>?_,fun o z1 z2=>?_⟩
     ·have:=hme z2 z1
      omega
     ·have:=hal t ht z2 z1
      omega
     ·have:=b.pa o z
      exact ⟨this.1,by omega,this.2.2⟩
     ·have:=pb2 o z
      exact ⟨this.1,by omega,this.2.2⟩
     ·rcases z2 with z2|z2
      ·exact b.dj o z1 z2
      ·have:=b.pa o z1
       omega
  ·rw[decide_eq_false hc]
   simp -implicitDefEqProofs (disch:=first|assumption|omega|(simp only[gL,gA]<;>omega)|fail) only[gC,reduceIte]
   refine a9X (ι:=Nat × Nat) b.rr (fun p=>p.1) (hQ h L b.ex b.sn fun z l v hz hw=>?_)
   have h5:=b.mt.least hg1 hg2 rv hst hen (b.sa.half b.ka hg1 hst) (b.sb.half b.kb hg2 hen) (by omega) (fun x hx h0=>?_) hz hw
   ·omega
   ·have h6:=b.sa.st0 (hst x hx) hx
    rw[fnd,if_pos h0] at h6
    omega
end
end Go.Gm.AQ
