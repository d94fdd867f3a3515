/- A part of the proof (GmAQN, GmAQM, GmAQA, GmAQB, GmAQC, GmAQD, GmAQE, GmE, GmN, GmAQna, GmNf, GmNz, GmAQnf, GmAQnp, GmAQnq, GmAQnr, GmAQns, GmAQnt). -/
import Derived.Test.YtldnkafmanalmaaQueryRawP3
set_option linter.unusedVariables false
set_option linter.unusedSimpArgs false
set_option linter.unusedSectionVars false
namespace Go.Gm.AQ
open Go Go.Gm
theorem j8_ {α:Type}[Inhabited α]{xs:List α}{i j:Int}(h0:0<=i)(h1:i<xs.length)(hj:0<=j)(x:α):gi (xs.set i.toNat x) j=if j=i then x else gi xs j:=by
 simp only[gi,List.getD_eq_getElem?_getD]
 by_cases h:j=i
 ·subst h
  rw[if_pos rfl,List.getElem?_set_self (by omega)]; rfl
 ·rw[if_neg h,List.getElem?_set_ne (by omega)]
theorem a6F {κ:Type}[DecidableEq κ]{W:Nat->Prop}{h:Heap}{A:κ->Prop}{S:κ->AV}{X:κ->List (List AV)}(f:Fam W h 1 A S X){t1 t2:κ}(a1:A t1)(a2:A t2)(hne:t1≠t2){q:Nat}(hq:¬W q)(hqh:q<h.length){arr:AV}{L:List (AV × AV)}(g:Gr q (q+1) h 2 arr (L.map encP)){v:Int}(v0:0<=v)(v1:v<L.length)(e1:(gi L v).1=S t1)(e2:(gi L v).2=S t2)(edge other:Int)(l1:(X t1).length<=1000000)(l2:(X t2).length<=1000000) :
  Tot tab x5_ [elP 2 arr v,I edge,I other] h fun r h'=>∃s1 s2,Gr q (q+1) h' 2 arr ((L.set v.toNat (s1,s2)).map encP)/\
   Fam (fun o=>W o\/h.length<=o) h' 1 A (fun t=>if t=t2 then s2 else if t=t1 then s1 else S t) (fun t=>if t=t2 then X t2++[[I other]] else if t=t1 then X t1++[[I edge]] else X t)/\FrS (fun o=>o=q\/W o) h h':=by
 refine WP.tot (fun k=>a5f k _ _ _ h) ?_
 have b1:Sl ((h++[AObj.cells ⟨[I edge],0,0,false⟩])++[AObj.cells ⟨[I other],0,0,false⟩]) 1 (.sl h.length 0 1 1 none 0) [[I edge]]:=((Gr.lit (h:=h) (sz:=1) (v:=[I edge]) rfl).sl).ext (by rw[a1_]; ((repeat (first|exact Ext.refl _|assumption|apply Ext.app|apply Ext.mk|(refine Ext.setr ?_ (by (first|omega|(simp only[gL]<;>omega))) _)))))
 have b2:Sl ((h++[AObj.cells ⟨[I edge],0,0,false⟩])++[AObj.cells ⟨[I other],0,0,false⟩]) 1 (.sl (h.length+1) 0 1 1 none 0) [[I other]]:=by
  have:=(Gr.lit (h:=h++[AObj.cells ⟨[I edge],0,0,false⟩]) (sz:=1) (v:=[I other]) rfl).sl
  simpa [a1_] using this
 have ex0:Ext h (h++[AObj.cells ⟨[I edge],0,0,false⟩]):=by ((repeat (first|exact Ext.refl _|assumption|apply Ext.app|apply Ext.mk|(refine Ext.setr ?_ (by (first|omega|(simp only[gL]<;>omega))) _))))
 have ex:Ext h ((h++[AObj.cells ⟨[I edge],0,0,false⟩])++[AObj.cells ⟨[I other],0,0,false⟩]):=by ((repeat (first|exact Ext.refl _|assumption|apply Ext.app|apply Ext.mk|(refine Ext.setr ?_ (by (first|omega|(simp only[gL]<;>omega))) _))))
 have hl2:((h++[AObj.cells ⟨[I edge],0,0,false⟩])++[AObj.cells ⟨[I other],0,0,false⟩]).length=h.length+2:=by simp
 obtain ⟨h2,hh⟩:∃h2,h2=((h++[AObj.cells ⟨[I edge],0,0,false⟩])++[AObj.cells ⟨[I other],0,0,false⟩]):=⟨_,rfl⟩
 rw[<-hh] at b1 b2 ex hl2
 have f2:Fam (fun o=>W o/\o<h.length) h2 1 A S X:=(f.mono fun o q1 q2=>⟨q2,q1⟩).frs (D:=fun _=>False) (FrS.ofExt ex) (fun _ _ _ q=>q)
 obtain ⟨s1,h3,k1,k2,k3,k4⟩:=f2.append (bytes:=8) a1 b1 (by simp) (by omega) (by omega) (by simp; omega)
 have b2':Sl h3 1 (.sl (h.length+1) 0 1 1 none 0) [[I other]]:=by
  obtain ⟨o,off,lim,gg,c,q1,q2,q3⟩:=b2.resolve_left (by simp)
  injection q1 with p1 p2 p3 p4 p5 p6
  refine .inr ⟨o,off,lim,gg,c,by rw[<-p1,<-p2,<-p3,<-p5,<-p6],?_,q3⟩
  rw[k4.get (by omega) (by omega)]
  exact q2
 obtain ⟨s2,h4,m1,m2,m3,m4⟩:=k3.append (bytes:=8) (t:=t2) a2 b2' (by simp) (by omega) (by omega) (by rw[if_neg (fun q=>hne q.symm)]; simp; omega)
 simp only[if_neg (show ¬t2=t1 from fun q=>hne q.symm)] at m1 m3
 have g3:=(g.ext ex).frs k4 (fun o q1 q2 q3=>hq (by rw[show q=o by omega]; exact q3.1))
 have g4:=g3.frs m4 (fun o q1 q2 q3=>by
  rcases q3 with q3|q3
  ·exact hq (by rw[show q=o by omega]; exact q3.1)
  ·omega)
 have c1:s1.cells=[s1]:=by
  have:=(k3.sl a1).cells
  simpa using this
 have c2:s2.cells=[s2]:=by
  have:=(m3.sl a2).cells
  simpa using this
 obtain ⟨h5,n1,n2,n3,n4⟩:=g4.write (i:=v) v0 (x:=encP (gi L v)) (by simp[a7_ v0 v1]) 0 1 (v:=s1) (by rw[c1]; rfl) (by omega) (by rw[c1]; simp[k2])
 rw[c1] at n2
 obtain ⟨h6,r1,r2,r3,r4⟩:=n2.write (i:=v) v0 (x:=setAll (encP (gi L v)) 0 [s1]) (by rw[List.getElem?_set_self (by simp; omega)]) 1 1 (v:=s2) (by rw[c2]; rfl) (by omega) (by rw[c2]; simp[m2])
 rw[c2,List.set_set] at r2
 have g3s:=g3.sl
 rw[hh] at k1
 have ldk:ld1 h3 (fldP 1 (elP 2 arr v))=some (S t2):=by
  have:=g3s.ldf 1 (i:=v) (Ext.refl _) v0 v1 (by omega)
  simpa [encP,e2] using this
 simp -implicitDefEqProofs (disch:=first|assumption|omega|exact Ext.refl _|(simp only[gL,gA]<;>omega)|fail) only[gC,reduceIte,g.sl.ldf,encP,e1,e2,k1,ldk,m1,n1,r1]
 refine WP.ret ⟨s1,s2,?_,?_,?_⟩
 ·refine r2.cong ?_
  rw[List.map_set]; rfl
 ·have f4:=(m3.frs n3.s (fun o q1 q2 q3=>?_)).frs r3.s (fun o q1 q2 q3=>?_)
  ·refine (f4.mono fun o q1 q2=>?_).congr fun t ht=>?_
   ·rcases q2 with (q2|q2)|q2
    ·exact .inl q2.1
    ·exact .inr (by omega)
    ·have:=k4.len
     exact .inr (by omega)
   ·by_cases x2:t=t2
    ·simp[x2]
    ·simp[x2]
  ·have:o=q:=by omega
   subst this
   rcases q2 with (q2|q2)|q2
   ·exact hq q2.1
   ·omega
   ·have:=k4.len; omega
  ·have:o=q:=by omega
   subst this
   rcases q2 with (q2|q2)|q2
   ·exact hq q2.1
   ·omega
   ·have:=k4.len; omega
 ·have z1:FrS (fun o=>o=q\/W o) h h2:=FrS.ofExt ex
  have z2:FrS (fun o=>o=q\/W o) h2 h3:=k4.mono fun o q1 q2=>.inr q2.1
  have z3:FrS (fun o=>o=q\/W o\/h2.length<=o) h3 h4:=m4.mono fun o q1 q2=>by
   rcases q2 with q2|q2
   ·exact .inr (.inl q2.1)
   ·exact .inr (.inr q2)
  have z4:FrS (fun o=>o=q) h4 h6:=(n3.s.mono fun o q1 q2=>by omega).trans (r3.s.mono fun o q1 q2=>by omega)
  refine ⟨by have:=z1.len; have:=z2.len; have:=z3.len; have:=z4.len; omega,fun o q1 q2=>?_⟩
  have l1:=z1.len
  have l2:=z2.len
  have l3:=z3.len
  rw[z4.get (fun q=>q1 (.inl q)) (by omega),z3.get (fun q=>?_) (by omega),z2.get q1 (by omega),z1.get q1 q2]
  rcases q with q|q|q
  ·exact q1 (.inl q)
  ·exact q1 (.inr q)
  ·omega
def Sf (O J:List (AV × AV))(t:Nat × Nat):AV:=match t with
 |(0,v)=>(gi O v).1
 |(1,v)=>(gi O v).2
 |(2,v)=>(gi J v).1
 |(_,v)=>(gi J v).2
def Xf (es:List E)(n:Nat)(t:Nat × Nat):List Int:=match t with
 |(0,v)=>idxTo (fun e=>e.fr == (v:Int)) es n
 |(1,v)=>(idxTo (fun e=>e.fr == (v:Int)) es n).map fun k=>(gi es k).to
 |(2,v)=>idxTo (fun e=>e.to == (v:Int)) es n
 |(_,v)=>(idxTo (fun e=>e.to == (v:Int)) es n).map fun k=>(gi es k).fr
theorem a5h (es:List E)(n:Nat)(t:Nat × Nat):(Xf es n t).length<=n:=by
 obtain ⟨j,v⟩:=t
 match j with
 |0=>simp only[Xf]; exact l3_ ..
 |1=>simp only[Xf,List.length_map]; exact l3_ ..
 |2=>simp only[Xf]; exact l3_ ..
 |j+3=>simp only[Xf,List.length_map]; exact l3_ ..
structure NewI (hb:Heap) (N:Nat) (es:List E) (q1 q2:Nat) (so si:AV) (n:Nat) (h:Heap) (O J:List (AV × AV)):Prop where
 fr:FrS (fun o=>o=q1\/o=q2\/hb.length<=o) hb h
 go:Gr q1 (q1+1) h 2 so (O.map encP)
 gj:Gr q2 (q2+1) h 2 si (J.map encP)
 lo:O.length=N
 lj:J.length=N
 fam:Fam (fun o=>hb.length<=o) h 1 (fun t:Nat × Nat=>t.1<4/\t.2<N) (Sf O J) fun t=>(Xf es n t).map encI
theorem a9x {hb:Heap}{N:Nat}{es:List E}{q1 q2 qa:Nat}{s s' so si:AV}(ok:NetOk N es)(hq1:q1<hb.length)(hq2:q2<hb.length)(hqa:qa<hb.length)(hne:q1≠q2)(hna1:qa≠q1)(hna2:qa≠q2)(ha:hb[qa]?=some (.cells ⟨[I N,s',so,si],0,0,false⟩)){Q:AV->Heap->Prop}(hs:∀h,FrS (fun o=>o=q1\/o=q2\/hb.length<=o) hb h->Sl h 4 s (es.map encE))(hQ:∀h O J,NewI hb N es q1 q2 so si es.length h O J->Q (.ptr qa 0 4 0) h) :
  ∀(d n:Nat) (h:Heap) (O J:List (AV × AV)),n+d=es.length->NewI hb N es q1 q2 so si n h O J->
   WP (fun p:Nat × Nat=>a0k p.1 p.2 (.ptr qa 0 4 0) s (I es.length) (I n) h) Q:=by
 intro d
 induction d with
 |zero=>
  intro n h O J h1 w
  refine WP.rnd (fun i' j=>a3r i' j (.ptr qa 0 4 0) s (I es.length) (I n) h) ?_
  simp -implicitDefEqProofs (disch:=first|assumption|omega|(simp only[gL,gA]<;>omega)|fail) only[gC,reduceIte]
  refine WP.ret (hQ h O J ?_)
  rw[<-show n=es.length by omega]; exact w
 |succ d ih=>
  intro n h O J h1 w
  have hln:=ok.len
  refine WP.rnd (fun i' j=>a3r i' j (.ptr qa 0 4 0) s (I es.length) (I n) h) ?_
  obtain ⟨e,he⟩:∃e,gi es n=e:=⟨_,rfl⟩
  have hed:=ok.edge _ (a4_ (xs:=es) (i:=(n:Int)) (by omega) (by omega))
  rw[he] at hed
  have hsl:=hs h w.fr
  have hwl:=w.fr.len
  obtain ⟨h6,hh6⟩:∃h6,h6=(h++[AObj.cells ⟨[I 0,I 0,I 0,I 0],0,0,false⟩]).set h.length (.cells ⟨encE e,0,0,false⟩):=⟨_,rfl⟩
  have ex:Ext h h6:=by rw[hh6]; ((repeat (first|exact Ext.refl _|assumption|apply Ext.app|apply Ext.mk|(refine Ext.setr ?_ (by (first|omega|(simp only[gL]<;>omega))) _))))
  have hr6:h6[h.length]?=some (.cells ⟨encE e,0,0,false⟩):=by rw[hh6]; simp
  have hl6:h6.length=h.length+1:=by rw[hh6]; simp
  have hp6:At h6 (.ptr qa 0 4 0) [I N,s',so,si]:=by
   exact At.row (ex.get (by rw[w.fr.get (by omega) hqa]; exact ha)) (Nat.le_refl _) rfl
  have he6:At h6 (.ptr h.length 0 4 0) (encE e):=At.row hr6 (Nat.le_refl _) rfl
  have so6:=w.go.ext ex
  have sj6:=w.gj.ext ex
  have f6:Fam (fun o=>hb.length<=o/\o<h.length) h6 1 (fun t:Nat × Nat=>t.1<4/\t.2<N) (Sf O J) fun t=>(Xf es n t).map encI:=
   (w.fam.mono fun o q1 q2=>⟨q2,q1⟩).frs (D:=fun _=>False) (FrS.ofExt ex) (fun _ _ _ q=>q)
  have hlo:=w.lo
  have hlj:=w.lj
  have hx0:=a5h es n (0,e.fr.toNat)
  have hx1:=a5h es n (1,e.fr.toNat)
  have hx2:=a5h es n (2,e.to.toNat)
  have hx3:=a5h es n (3,e.to.toNat)
  have hfn:((e.fr.toNat:Nat):Int)=e.fr:=by omega
  have htn:((e.to.toNat:Nat):Int)=e.to:=by omega
  simp -implicitDefEqProofs (disch:=first|assumption|omega|exact Ext.refl _|(simp only[gL,gA]<;>omega)|fail) only[gC,reduceIte,hsl.idxG,hsl.ldN,he,encE]
  simp only[encE] at hh6
  rw[<-hh6]
  refine WP.call (a5y hp6 so6.sl) ?_
  rintro _ h7 ⟨rfl,e7⟩
  obtain rfl:=e7
  simp only[encE] at hr6
  have hra:h6[qa]?=some (.cells ⟨[I N,s',so,si],0,0,false⟩):=ex.get (by rw[w.fr.get (by omega) hqa]; exact ha)
  simp -implicitDefEqProofs (disch:=first|assumption|omega|(simp only[gL,gA]<;>omega)|fail) only[gC,reduceIte,show decide (0<=e.fr/\e.fr<(O.length:Int))=true from decide_eq_true (by omega),hr6,hra]
  refine WP.call (a5y hp6 so6.sl) ?_
  rintro _ h7 ⟨rfl,e7⟩
  obtain rfl:=e7
  simp -implicitDefEqProofs (disch:=first|assumption|omega|(simp only[gL,gA]<;>omega)|fail) only[gC,reduceIte,show decide (0<=e.to/\e.to<(O.length:Int))=true from decide_eq_true (by omega),hr6,hra,so6.sl.idxG]
  refine WP.call (a6F f6 (t1:=(0,e.fr.toNat)) (t2:=(1,e.fr.toNat)) ⟨by simp,by simp; omega⟩ ⟨by simp,by simp; omega⟩ (by simp) (by omega) (by omega) so6 hed.1 (by omega) (by simp only[Sf,hfn]) (by simp only[Sf,hfn]) n e.to (by simp; omega) (by simp; omega)) ?_
  rintro r8 h8 ⟨s1,s2,so8,f8,fr8⟩
  have hl8:=fr8.len
  have hr8:h8[h.length]?=some (.cells ⟨[I e.fr,I e.to,I e.md,I e.co],0,0,false⟩):=by rw[fr8.get (by omega) (by omega)]; exact hr6
  have hra8:h8[qa]?=some (.cells ⟨[I N,s',so,si],0,0,false⟩):=by rw[fr8.get (by omega) (by omega)]; exact hra
  have sj8:=sj6.frs fr8 (fun o q1 q2=>by omega)
  simp -implicitDefEqProofs (disch:=first|assumption|omega|(simp only[gL,gA]<;>omega)|fail) only[gC,reduceIte,hr8,hra8,sj8.sl.idxG]
  refine WP.call (a6F f8 (t1:=(2,e.to.toNat)) (t2:=(3,e.to.toNat)) ⟨by simp,by simp; omega⟩ ⟨by simp,by simp; omega⟩ (by simp) (by omega) (by omega) sj8 hed.2.2.1 (by omega) (by simp[Sf,htn]) (by simp[Sf,htn]) n e.fr (by simp; omega) (by simp; omega)) ?_
  rintro r9 h9 ⟨s3,s4,sj9,f9,fr9⟩
  have hl9:=fr9.len
  have so9:=so8.frs fr9 (fun o q1 q2=>by omega)
  refine ih (n+1) h9 _ _ (by omega) ⟨?_,so9,sj9,by simp; exact hlo,by simp; exact hlj,?_⟩
  ·have z1:=(w.fr.trans (FrS.ofExt ex)).trans (fr8.mono fun o q1 q2=>by omega)
   exact z1.trans (fr9.mono fun o q1 q2=>by omega)
  ·refine (f9.mono fun o q1 q2=>by omega).congr fun t ht=>?_
   have hgo:∀v:Nat,v<N->gi (O.set e.fr.toNat (s1,s2)) (v:Int)=if (v:Int)=e.fr then (s1,s2) else gi O v:=fun v hv=>j8_ hed.1 (by omega) (by omega) _
   have hgj:∀v:Nat,v<N->gi (J.set e.to.toNat (s3,s4)) (v:Int)=if (v:Int)=e.to then (s3,s4) else gi J v:=fun v hv=>j8_ hed.2.2.1 (by omega) (by omega) _
   obtain ⟨j,v⟩:=t
   obtain ⟨hj,hv⟩:=ht
   simp only at hj hv
   have efr:((v:Int)=e.fr)↔v=e.fr.toNat:=by omega
   have eto:((v:Int)=e.to)↔v=e.to.toNat:=by omega
   have hxs:=fun p=>a0n p es n
   match j,hj with
   |0,_=>
    simp only[Sf,Xf,hgo v hv,efr,hxs,he,Prod.mk.injEq]
    by_cases hvf:v=e.fr.toNat
    ·subst hvf; simp[encI,hfn,Sf,Xf]
    ·have:¬e.fr=(v:Int):=fun q=>hvf (efr.1 q.symm)
     simp[hvf,this,Sf,Xf]
   |1,_=>
    simp only[Sf,Xf,hgo v hv,efr,hxs,he,Prod.mk.injEq]
    by_cases hvf:v=e.fr.toNat
    ·subst hvf; simp[encI,hfn,Sf,Xf,he]
    ·have:¬e.fr=(v:Int):=fun q=>hvf (efr.1 q.symm)
     simp[hvf,this,Sf,Xf]
   |2,_=>
    simp only[Sf,Xf,hgj v hv,eto,hxs,he,Prod.mk.injEq]
    by_cases hvf:v=e.to.toNat
    ·subst hvf; simp[encI,htn,Sf,Xf]
    ·have:¬e.to=(v:Int):=fun q=>hvf (eto.1 q.symm)
     simp[hvf,this,Sf,Xf]
   |3,_=>
    simp only[Sf,Xf,hgj v hv,eto,hxs,he,Prod.mk.injEq]
    by_cases hvf:v=e.to.toNat
    ·subst hvf; simp[encI,htn,Sf,Xf,he]
    ·have:¬e.to=(v:Int):=fun q=>hvf (eto.1 q.symm)
     simp[hvf,this,Sf,Xf]
theorem a8I {h:Heap}{N:Nat}{s:AV}{es:List E}(ok:NetOk N es)(hs:Sl h 4 s (es.map encE)) :
  Tot tab a2j [.agg [I N,s]] h fun r h'=>Ext h h'/\(∀H,(∀o,h.length<=o->o<h'.length->H[o]?=h'[o]?)->AdjV H r N es)/\∃o,h.length<=o/\r=.ptr o 0 4 0:=by
 have hnb:=ok.n1
 have hln:=ok.len
 refine WP.tot (fun k=>a7S k _ h) ?_
 have e1:Ext h (h++[AObj.cells ⟨[I N,s],0,0,false⟩]):=by ((repeat (first|exact Ext.refl _|assumption|apply Ext.app|apply Ext.mk|(refine Ext.setr ?_ (by (first|omega|(simp only[gL]<;>omega))) _))))
 obtain ⟨h1,hh1⟩:∃h1,h1=h++[AObj.cells ⟨[I N,s],0,0,false⟩]:=⟨_,rfl⟩
 rw[<-hh1] at e1
 have hr1:h1[h.length]?=some (.cells ⟨[I N,s],0,0,false⟩):=by rw[hh1]; simp
 have hl1:h1.length=h.length+1:=by rw[hh1]; simp
 have hmx:max (N:Int) 0=N:=by omega
 obtain ⟨so,h2,k1,k2,k3,k4,k5⟩:=e7_ (zero:=[AV.nils,.nils]) (sz:=2) (bytes:=48) (n:=(N:Int)) h1 (by omega) (by omega) (by omega) rfl rfl
 obtain ⟨si,h3,m1,m2,m3,m4,m5⟩:=e7_ (zero:=[AV.nils,.nils]) (sz:=2) (bytes:=48) (n:=(N:Int)) h2 (by omega) (by omega) (by omega) rfl rfl
 have hr2:=k3.get hr1
 have hr3:=m3.get hr2
 have e4:Ext h3 (h3++[AObj.cells ⟨[I 0,.nils,so,si],0,0,false⟩]):=by ((repeat (first|exact Ext.refl _|assumption|apply Ext.app|apply Ext.mk|(refine Ext.setr ?_ (by (first|omega|(simp only[gL]<;>omega))) _))))
 obtain ⟨h4,hh4⟩:∃h4,h4=h3++[AObj.cells ⟨[I 0,.nils,so,si],0,0,false⟩]:=⟨_,rfl⟩
 rw[<-hh4] at e4
 have hr4:=e4.get hr3
 have hl4:h4.length=h3.length+1:=by rw[hh4]; simp
 have hra:h4[h3.length]?=some (.cells ⟨[I 0,.nils,so,si],0,0,false⟩):=by rw[hh4]; simp
 simp -implicitDefEqProofs (disch:=first|assumption|omega|(simp only[gL]<;>omega)|((repeat (first|exact Ext.refl _|assumption|apply Ext.app|apply Ext.mk|(refine Ext.setr ?_ (by (first|omega|(simp only[gL]<;>omega))) _))); done)|(simp only[gL,gA,hs.one,hs.cells]<;>omega)|fail) only[gB,setAll,partL,fldV,reduceIte,Nat.reduceAdd,Nat.reduceMul,hs.one,hs.cells]
 rw[<-hh1]
 simp -implicitDefEqProofs (disch:=first|assumption|omega|(simp only[gL]<;>omega)|((repeat (first|exact Ext.refl _|assumption|apply Ext.app|apply Ext.mk|(refine Ext.setr ?_ (by (first|omega|(simp only[gL]<;>omega))) _))); done)|(simp only[gL,gA,hr1,hmx,k1,hr2,m1,hr3,k2.sl.one,k2.sl.cells,m2.sl.one,m2.sl.cells]<;>omega)|fail) only[gB,setAll,partL,fldV,reduceIte,Nat.reduceAdd,Nat.reduceMul,hr1,hmx,k1,hr2,m1,hr3,k2.sl.one,k2.sl.cells,m2.sl.one,m2.sl.cells]
 rw[show AV.int .i64 0=I 0 from rfl,<-hh4]
 refine WP.call (a6Z (hs.ext ((e1.trans k3).trans (m3.trans e4))) (by simp; omega)) ?_
 rintro s' h5 ⟨e5,g5⟩
 have hr5:=e5.get hr4
 have hra5:=e5.get hra
 have hl5:=e5.len
 obtain ⟨h6,hh6⟩:∃h6,h6=h5.set h3.length (.cells ⟨[I N,s',so,si],0,0,false⟩):=⟨_,rfl⟩
 have hl6:h6.length=h5.length:=by rw[hh6]; simp
 have f6:FrS (fun o=>o=h3.length) h5 h6:=by rw[hh6]; exact ⟨by simp,fun o q1 q2=>List.getElem?_set_ne (fun q=>q1 q.symm)⟩
 have e6:Ext h h6:=f6.ext (((e1.trans k3).trans (m3.trans e4)).trans e5) (fun o q1 q2=>by omega)
 have e25:Ext h2 h5:=(m3.trans e4).trans e5
 have e35:Ext h3 h5:=e4.trans e5
 have hr6:h6[h.length]?=some (.cells ⟨[I N,s],0,0,false⟩):=by rw[f6.get (by omega) (by omega)]; exact hr5
 have hra6:h6[h3.length]?=some (.cells ⟨[I N,s',so,si],0,0,false⟩):=by rw[hh6]; exact a0_ (by omega)
 have hgg:Gr h4.length h6.length h6 4 s' (es.map encE):=(g5.frs f6 (fun o q1 q2=>by omega)).mono (Nat.le_refl _) (by omega)
 have go6:Gr h1.length (h1.length+1) h6 2 so (List.replicate N [AV.nils,.nils]):=(k2.ext e25).frs f6 (fun o q1 q2=>by omega)
 have gi6:Gr h2.length (h2.length+1) h6 2 si (List.replicate N [AV.nils,.nils]):=(m2.ext e35).frs f6 (fun o q1 q2=>by omega)
 have hrep:List.replicate N [AV.nils,.nils]=(List.replicate N (AV.nils,AV.nils)).map encP:=by rw[List.map_replicate]; rfl
 rw[hrep] at go6 gi6
 simp only[I] at hr5 hra5 hr6 hh6
 simp -implicitDefEqProofs (disch:=first|assumption|omega|(simp only[gL]<;>omega)|((repeat (first|exact Ext.refl _|assumption|apply Ext.app|apply Ext.mk|(refine Ext.setr ?_ (by (first|omega|(simp only[gL]<;>omega))) _))); done)|(simp only[gL,gA,hr5,hra5,g5.sl.one,g5.sl.cells]<;>omega)|fail) only[gB,setAll,partL,fldV,reduceIte,Nat.reduceAdd,Nat.reduceMul,hr5,hra5,g5.sl.one,g5.sl.cells]
 rw[<-hh6]
 simp -implicitDefEqProofs (disch:=first|assumption|omega|(simp only[gL]<;>omega)|((repeat (first|exact Ext.refl _|assumption|apply Ext.app|apply Ext.mk|(refine Ext.setr ?_ (by (first|omega|(simp only[gL]<;>omega))) _))); done)|(simp only[gL,gA,hr6,hs.lenG]<;>omega)|fail) only[gB,setAll,partL,fldV,reduceIte,Nat.reduceAdd,Nat.reduceMul,hr6,hs.lenG]
 have hgi:∀v,0<=v->v<(N:Int)->gi (List.replicate N (AV.nils,AV.nils)) v=(AV.nils,AV.nils):=fun v v0 v1=>by
  have:v.toNat<N:=by omega
  simp[gi,List.getD_eq_getElem?_getD,List.getElem?_replicate,this]
 refine WP.ent (a9x (q1:=h1.length) (q2:=h2.length) (qa:=h3.length) (hb:=h6) (s':=s') (so:=so) (si:=si) ok (by omega) (by omega) (by omega) (by omega) (by omega) (by omega) hra6 (fun H f=>hs.ext (f.ext e6 (fun o q1 q2=>by omega))) ?_ es.length 0 h6 _ _ (by omega)
  ⟨FrS.refl _ _,go6,gi6,by simp,by simp,Fam.nil _ _ _ fun t ht=>?_⟩) fun i=>rfl
 ·intro H O J w
  refine ⟨w.fr.ext e6 (fun o q1 q2=>by omega),fun H2 hag=>⟨s',so,si,O,J,?_,?_,(w.go.agree fun o q1 q2 q3=>hag o (by omega) q3).sl,(w.gj.agree fun o q1 q2 q3=>hag o (by omega) q3).sl,by have:=w.lo; omega,by have:=w.lj; omega,?_,?_,?_,?_⟩,⟨h3.length,by omega,rfl⟩⟩
  ·exact At.row (by rw[hag _ (by omega) (by have:=w.fr.len; omega),w.fr.get (by omega) (by omega)]; exact hra6) (Nat.le_refl _) rfl
  ·exact ((hgg.frs w.fr (fun o q1 q2=>by omega)).agree fun o q1 q2 q3=>hag o (by omega) q3).sl
  ·intro v v0 v1
   have:=w.fam.slA (t:=(0,v.toNat)) ⟨by simp,by simp; omega⟩ (fun o q1 q2=>hag o (by omega) q2)
   simpa only[Sf,Xf,outL,inL,show ((v.toNat:Nat):Int)=v by omega] using this
  ·intro v v0 v1
   have:=w.fam.slA (t:=(1,v.toNat)) ⟨by simp,by simp; omega⟩ (fun o q1 q2=>hag o (by omega) q2)
   simpa only[Sf,Xf,outL,inL,show ((v.toNat:Nat):Int)=v by omega] using this
  ·intro v v0 v1
   have:=w.fam.slA (t:=(2,v.toNat)) ⟨by simp,by simp; omega⟩ (fun o q1 q2=>hag o (by omega) q2)
   simpa only[Sf,Xf,outL,inL,show ((v.toNat:Nat):Int)=v by omega] using this
  ·intro v v0 v1
   have:=w.fam.slA (t:=(3,v.toNat)) ⟨by simp,by simp; omega⟩ (fun o q1 q2=>hag o (by omega) q2)
   simpa only[Sf,Xf,outL,inL,show ((v.toNat:Nat):Int)=v by omega] using this
 ·obtain ⟨j,v⟩:=t
  obtain ⟨hj,hv⟩:=ht
  simp only at hj hv
  have hg:=hgi v (by omega) (by omega)
  match j,hj with
  |0,_=>simp[Sf,Xf,hg,idxTo]
  |1,_=>simp[Sf,Xf,hg,idxTo]
  |2,_=>simp[Sf,Xf,hg,idxTo]
  |3,_=>simp[Sf,Xf,hg,idxTo]
end Go.Gm.AQ
namespace Go.Gm.AQ
open Go Go.Gm
def mkN (size:Int):Int:=1+size % 12
def mkEdge (N modes k:Int):E:=
 let fr:=k % N
 let to:=IntKind.i64.wrap (k.tdiv 13) % N
 let md:=IntKind.i64.wrap (k.tdiv 170) % 5
 ⟨fr,to,if modes % 3=0 then (fr+to) % 2 else if modes % 3=1 then IntKind.i64.wrap (md*fr) % 3 else md,
  if k % 31=0 then 2147483647-IntKind.i64.wrap (k.tdiv 31) % 3 else IntKind.i64.wrap (k.tdiv 900) % 9⟩
def mkE (size:Int)(zs:List Int)(modes:Int):List E:=(zs.take 40).map (mkEdge (mkN size) modes)
theorem a2l (size:Int):1<=mkN size/\mkN size<=12:=by unfold mkN; omega
theorem b0L (size:Int)(zs:List Int)(modes:Int):NetOk (mkN size) (mkE size zs modes):=by
 have hN:=a2l size
 refine ⟨by omega,by omega,by simp[mkE]; omega,?_⟩
 intro e he
 simp only[mkE,List.mem_map] at he
 obtain ⟨k,_,rfl⟩:=he
 simp only[mkEdge]
 have h1:=Int.emod_nonneg k (show mkN size≠0 by omega)
 have h2:=Int.emod_lt_of_pos k (show 0<mkN size by omega)
 have h3:=Int.emod_nonneg (IntKind.i64.wrap (k.tdiv 13)) (show mkN size≠0 by omega)
 have h4:=Int.emod_lt_of_pos (IntKind.i64.wrap (k.tdiv 13)) (show 0<mkN size by omega)
 refine ⟨h1,h2,h3,h4,?_⟩
 split
 ·omega
 ·split<;>omega
structure MkI (h0:Heap) (N:Int) (xs:List E) (h:Heap) (s:AV) (hi:Nat):Prop where
 ext:Ext h0 h
 r6:h[h0.length]?=some (.cells ⟨[I 0,.nils],0,0,false⟩)
 r7:h[h0.length+1]?=some (.cells ⟨[I N,s],0,0,false⟩)
 gr:Gr (h0.length+2) hi h 4 s (xs.map encE)
 hin:hi<=h.length
 lon:h0.length+2<=hi
theorem a7z {h0:Heap}{N modes:Int}{ns:AV}{xs:List E}{n:Nat}{Q:AV->Heap->Prop}(hx:xs.length<=1000)(hn:n<=1000){e:E}(ih:∀h s,MkI h0 N (xs++[e]) h s h.length->WP (fun p:Nat × Nat=>d4_ p.1 p.2 ns (I modes) (.ptr h0.length 0 2 0) (.ptr (h0.length+1) 0 2 0) (I (n+1)) h) Q){h:Heap}{s:AV}{oe:Nat}(w:MkI h0 N xs h s oe)(he:h[oe]?=some (.cells ⟨encE e,0,0,false⟩)) :
  WP (fun p:Nat × Nat=>l6_ p.1 p.2 ns (I modes) (.ptr h0.length 0 2 0) (.ptr (h0.length+1) 0 2 0) (I n) (.ptr oe 0 4 0) h) Q:=by
 refine WP.congr (fun p=>a1F p.1 p.2 ns (I modes) (.ptr h0.length 0 2 0) (.ptr (h0.length+1) 0 2 0) (I n) (.ptr oe 0 4 0) h) ?_
 have hlo:=w.lon
 have hhi:=w.hin
 have hoe:oe<h.length:=(List.getElem?_eq_some_iff.1 he).1
 obtain ⟨s',h',k1,k2,k3⟩:=w.gr.append1 (bytes:=32) (v:=encE e) rfl (by omega) (by omega) (by simp; omega) (by omega) (by omega)
 have r6':h'[h0.length]?=some (.cells ⟨[I 0,.nils],0,0,false⟩):=by rw[k3.get (by omega) (by omega)]; exact w.r6
 have r7':h'[h0.length+1]?=some (.cells ⟨[I N,s],0,0,false⟩):=by rw[k3.get (by omega) (by omega)]; exact w.r7
 have hl':=k3.len
 have w7:=w.r7
 rw[a1_] at k1
 simp only[encE] at he k1
 simp -implicitDefEqProofs (disch:=first|assumption|omega|(simp only[gL]<;>omega)|((repeat (first|exact Ext.refl _|assumption|apply Ext.app|apply Ext.mk|(refine Ext.setr ?_ (by (first|omega|(simp only[gL]<;>omega))) _))); done)|(simp only[gL,gA,w7,he,k1,r7',k2.sl.one,k2.sl.cells]<;>omega)|fail) only[gB,setAll,partL,fldV,reduceIte,Nat.reduceAdd,Nat.reduceMul,w7,he,k1,r7',k2.sl.one,k2.sl.cells]
 refine ih _ s' ⟨?_,?_,?_,?_,by simp,by simp; omega⟩
 ·have:=k3.ext w.ext (by omega)
  ((repeat (first|exact Ext.refl _|assumption|apply Ext.app|apply Ext.mk|(refine Ext.setr ?_ (by (first|omega|(simp only[gL]<;>omega))) _))))
 ·rw[a5_ (by omega)]; exact r6'
 ·rw[a0_ (by omega)]
 ·refine ((k2.set (by omega) _).mono (Nat.le_refl _) (by simp)).cong ?_
  simp[encE]
theorem b0d {h0:Heap}{N modes k:Int}{ns:AV}{xs:List E}{n:Nat}{Q:AV->Heap->Prop}(hx:xs.length<=1000)(hn:n<=1000){e:E}(ih:∀h s,MkI h0 N (xs++[{ e with co:=if k % 31=0 then 2147483647-IntKind.i64.wrap (k.tdiv 31) % 3 else e.co }]) h s h.length->WP (fun p:Nat × Nat=>d4_ p.1 p.2 ns (I modes) (.ptr h0.length 0 2 0) (.ptr (h0.length+1) 0 2 0) (I (n+1)) h) Q){h:Heap}{s:AV}{oe:Nat}(w:MkI h0 N xs h s oe)(he:h[oe]?=some (.cells ⟨encE e,0,0,false⟩)) :
  WP (fun p:Nat × Nat=>d5_ p.1 p.2 ns (I modes) (.ptr h0.length 0 2 0) (.ptr (h0.length+1) 0 2 0) (I n) (I k) (.ptr oe 0 4 0) h) Q:=by
 refine WP.congr (fun p=>a1G p.1 p.2 ns (I modes) (.ptr h0.length 0 2 0) (.ptr (h0.length+1) 0 2 0) (I n) (I k) (.ptr oe 0 4 0) h) ?_
 have hlo:=w.lon
 have hhi:=w.hin
 have hoe:oe<h.length:=(List.getElem?_eq_some_iff.1 he).1
 refine WP.call (g0_ (by omega) (by unfold Fit; omega) h) ?_
 rintro _ h1 ⟨rfl,e1⟩
 obtain rfl:=e1
 by_cases h31:k % 31=0
 ·simp -implicitDefEqProofs (disch:=first|assumption|omega|(simp only[gL,gA]<;>omega)|fail) only[gC,reduceIte]
  refine WP.call (g0_ (by omega) (by unfold Fit; omega) h) ?_
  rintro _ h1 ⟨rfl,e1⟩
  obtain rfl:=e1
  simp only[encE] at he
  simp -implicitDefEqProofs (disch:=first|assumption|omega|(simp only[gL,gA]<;>omega)|fail) only[gC,reduceIte,he]
  refine a7z hx hn ih (s:=s) ⟨?_,?_,?_,w.gr.set (by omega) _,by simp; omega,hlo⟩ ?_
  ·have:=w.ext
   ((repeat (first|exact Ext.refl _|assumption|apply Ext.app|apply Ext.mk|(refine Ext.setr ?_ (by (first|omega|(simp only[gL]<;>omega))) _))))
  ·rw[a5_ (by omega)]; exact w.r6
  ·rw[a5_ (by omega)]; exact w.r7
  ·rw[a0_ (by omega)]; simp[encE,h31]
 ·simp -implicitDefEqProofs (disch:=first|assumption|omega|(simp only[gL,gA]<;>omega)|fail) only[gC,reduceIte]
  refine a7z hx hn ih (s:=s) w ?_
  rw[he]; simp[encE,h31]
theorem b0e {h0:Heap}{size modes:Int}{ns:AV}{zs:List Int}(hns:Sl h0 1 ns (zs.map encI)){Q:AV->Heap->Prop}(hQ:∀h s,MkI h0 (mkN size) (mkE size zs modes) h s h.length->∀h',Ext h0 h'->(Gr (h0.length+2) h.length h' 4 s ((mkE size zs modes).map encE))->Q (.agg [I (mkN size),s]) h') :
  ∀(d n:Nat) (h:Heap) (s:AV),n+d=(zs.take 40).length->MkI h0 (mkN size) ((zs.take n).map (mkEdge (mkN size) modes)) h s h.length->
   WP (fun p:Nat × Nat=>d4_ p.1 p.2 ns (I modes) (.ptr h0.length 0 2 0) (.ptr (h0.length+1) 0 2 0) (I n) h) Q:=by
 have hN:=a2l size
 intro d
 induction d with
 |zero=>
  intro n h s h1 w
  refine WP.rnd (fun i' j=>w4_ i' j ns (I modes) (.ptr h0.length 0 2 0) (.ptr (h0.length+1) 0 2 0) (I n) h) ?_
  have hl0:=w.ext.len
  have hlo:=w.lon
  have r6:=w.r6
  have r7:=w.r7
  have hz:zs.take n=zs.take 40:=by
   rw[List.length_take] at h1
   by_cases hz:zs.length<=40
   ·rw[List.take_of_length_le (by omega),List.take_of_length_le (by omega)]
   ·rw[show n=40 by omega]
  have hfin:WP (fun p:Nat × Nat=>some (AV.agg [I (mkN size),s],h.set h0.length (.cells ⟨[I (mkN size),s],0,0,false⟩))) Q:=by
   have w':MkI h0 (mkN size) (mkE size zs modes) h s h.length:=by
    have:=w
    rw[hz] at this; exact this
   refine WP.ret (hQ h s w' _ (w.ext.setr (by omega) _) (w'.gr.set (by omega) _))
  rw[List.length_take] at h1
  by_cases hn:n<zs.length
  ·simp -implicitDefEqProofs (disch:=first|assumption|omega|(simp only[gL]<;>omega)|((repeat (first|exact Ext.refl _|assumption|apply Ext.app|apply Ext.mk|(refine Ext.setr ?_ (by (first|omega|(simp only[gL]<;>omega))) _))); done)|(simp only[gL,gA,hns.lenG,r7,r6,w.gr.sl.one]<;>omega)|fail) only[gB,setAll,partL,fldV,reduceIte,Nat.reduceAdd,Nat.reduceMul,hns.lenG,r7,r6,w.gr.sl.one]
   exact hfin
  ·simp -implicitDefEqProofs (disch:=first|assumption|omega|(simp only[gL]<;>omega)|((repeat (first|exact Ext.refl _|assumption|apply Ext.app|apply Ext.mk|(refine Ext.setr ?_ (by (first|omega|(simp only[gL]<;>omega))) _))); done)|(simp only[gL,gA,hns.lenG,r7,r6,w.gr.sl.one]<;>omega)|fail) only[gB,setAll,partL,fldV,reduceIte,Nat.reduceAdd,Nat.reduceMul,hns.lenG,r7,r6,w.gr.sl.one]
   exact hfin
 |succ d ih=>
  intro n h s h1 w
  rw[List.length_take] at h1
  refine WP.rnd (fun i' j=>w4_ i' j ns (I modes) (.ptr h0.length 0 2 0) (.ptr (h0.length+1) 0 2 0) (I n) h) ?_
  obtain ⟨k,hk⟩:∃k,gi zs n=k:=⟨_,rfl⟩
  have hl0:=w.ext.len
  have hlo:=w.lon
  have r6:=w.r6
  have r7:=w.r7
  have ex:=w.ext
  have htk:zs.take (n+1)=zs.take n++[k]:=by
   rw[List.take_add_one,show zs[n]?=some k by
    have:=a7_ (xs:=zs) (i:=(n:Int)) (by omega) (by omega)
    rw[hk] at this; simpa using this]
   rfl
  simp -implicitDefEqProofs (disch:=first|assumption|omega|(simp only[gL]<;>omega)|((repeat (first|exact Ext.refl _|assumption|apply Ext.app|apply Ext.mk|(refine Ext.setr ?_ (by (first|omega|(simp only[gL]<;>omega))) _))); done)|(simp only[gL,gA,hns.lenG,hns.idxG,hns.ld0,hk,encI,r7]<;>omega)|fail) only[gB,setAll,partL,fldV,reduceIte,Nat.reduceAdd,Nat.reduceMul,hns.lenG,hns.idxG,hns.ld0,hk,encI,r7]
  refine WP.call (g0_ (by omega) (by unfold Fit; omega) _) ?_
  rintro _ _ ⟨rfl,rfl⟩
  simp -implicitDefEqProofs (disch:=first|assumption|omega|(simp only[gL]<;>omega)|((repeat (first|exact Ext.refl _|assumption|apply Ext.app|apply Ext.mk|(refine Ext.setr ?_ (by (first|omega|(simp only[gL]<;>omega))) _))); done)|(simp only[gL,gA,r7]<;>omega)|fail) only[gB,setAll,partL,fldV,reduceIte,Nat.reduceAdd,Nat.reduceMul,r7]
  refine WP.call (g0_ (by omega) (by unfold Fit; omega) _) ?_
  rintro _ _ ⟨rfl,rfl⟩
  refine WP.call (g0_ (by omega) (by unfold Fit; omega) _) ?_
  rintro _ _ ⟨rfl,rfl⟩
  refine WP.call (g0_ (by omega) (by unfold Fit; omega) _) ?_
  rintro _ _ ⟨rfl,rfl⟩
  simp -implicitDefEqProofs (disch:=first|assumption|omega|(simp only[gL]<;>omega)|((repeat (first|exact Ext.refl _|assumption|apply Ext.app|apply Ext.mk|(refine Ext.setr ?_ (by (first|omega|(simp only[gL]<;>omega))) _))); done)|(simp only[gL,gA]<;>omega)|fail) only[gB,setAll,partL,fldV,reduceIte,Nat.reduceAdd,Nat.reduceMul]
  refine WP.call (g0_ (by omega) (by unfold Fit; omega) _) ?_
  rintro _ _ ⟨rfl,rfl⟩
  have hb:∀x y z t:Int,MkI h0 (mkN size) ((zs.take n).map (mkEdge (mkN size) modes)) ((h++[AObj.cells ⟨[I 0,I 0,I 0,I 0],0,0,false⟩]).set h.length (.cells ⟨encE ⟨x,y,z,t⟩,0,0,false⟩)) s h.length:=by
   intro x y z t
   refine ⟨by ((repeat (first|exact Ext.refl _|assumption|apply Ext.app|apply Ext.mk|(refine Ext.setr ?_ (by (first|omega|(simp only[gL]<;>omega))) _)))),?_,?_,(w.gr.app _).set (by omega) _,by simp,hlo⟩
   ·rw[a5_ (by omega),e6_ (by omega)]; exact r6
   ·rw[a5_ (by omega),e6_ (by omega)]; exact r7
  have fin:∀(h':Heap) (e:E),MkI h0 (mkN size) ((zs.take n).map (mkEdge (mkN size) modes)) h' s h.length->h'[h.length]?=some (.cells ⟨encE e,0,0,false⟩)->
    { e with co:=if k % 31=0 then 2147483647-IntKind.i64.wrap (k.tdiv 31) % 3 else e.co }=mkEdge (mkN size) modes k->
    WP (fun p:Nat × Nat=>d5_ p.1 p.2 ns (I modes) (.ptr h0.length 0 2 0) (.ptr (h0.length+1) 0 2 0) (I n) (I k) (.ptr h.length 0 4 0) h') Q:=by
   intro h' e w' he hee
   refine b0d (n:=n) (xs:=(zs.take n).map (mkEdge (mkN size) modes)) (by simp; omega) (by omega) (fun h'' s' w''=>?_) w' he
   rw[hee] at w''
   refine ih (n+1) h'' s' (by rw[List.length_take]; omega) ?_
   rw[htk,List.map_append]
   exact w''
  have rd:∀x:AObj,((h++[AObj.cells ⟨[I 0,I 0,I 0,I 0],0,0,false⟩]).set h.length x)[h.length]?=some x:=fun x=>a0_ (by simp)
  have q1:=Int.emod_nonneg k (show mkN size≠0 by omega)
  have q2:=Int.emod_lt_of_pos k (show 0<mkN size by omega)
  have q3:=Int.emod_nonneg (IntKind.i64.wrap (k.tdiv 13)) (show mkN size≠0 by omega)
  have q4:=Int.emod_lt_of_pos (IntKind.i64.wrap (k.tdiv 13)) (show 0<mkN size by omega)
  by_cases hm0:modes % 3=0
  ·simp -implicitDefEqProofs (disch:=first|assumption|omega|(simp only[gL]<;>omega)|((repeat (first|exact Ext.refl _|assumption|apply Ext.app|apply Ext.mk|(refine Ext.setr ?_ (by (first|omega|(simp only[gL]<;>omega))) _))); done)|(simp only[gL,gA]<;>omega)|fail) only[gB,setAll,partL,fldV,reduceIte,Nat.reduceAdd,Nat.reduceMul]
   refine WP.call (g0_ (by omega) (by unfold Fit; omega) _) ?_
   rintro _ _ ⟨rfl,rfl⟩
   simp -implicitDefEqProofs (disch:=first|assumption|omega|(simp only[gL]<;>omega)|((repeat (first|exact Ext.refl _|assumption|apply Ext.app|apply Ext.mk|(refine Ext.setr ?_ (by (first|omega|(simp only[gL]<;>omega))) _))); done)|(simp only[gL,gA]<;>omega)|fail) only[gB,setAll,partL,fldV,reduceIte,Nat.reduceAdd,Nat.reduceMul]
   refine fin _ ⟨k % mkN size,IntKind.i64.wrap (k.tdiv 13) % mkN size,(k % mkN size+IntKind.i64.wrap (k.tdiv 13) % mkN size) % 2,IntKind.i64.wrap (k.tdiv 900) % 9⟩ ?_ ?_ ?_
   ·exact ⟨(hb _ _ _ _).ext.setr (by omega) _,by rw[a5_ (by omega)]; exact (hb _ _ _ _).r6,by rw[a5_ (by omega)]; exact (hb _ _ _ _).r7,(hb _ _ _ _).gr.set (by omega) _,by simp,hlo⟩
   ·rw[a0_ (by simp)]; rfl
   ·simp[mkEdge,hm0]
  ·simp -implicitDefEqProofs (disch:=first|assumption|omega|(simp only[gL]<;>omega)|((repeat (first|exact Ext.refl _|assumption|apply Ext.app|apply Ext.mk|(refine Ext.setr ?_ (by (first|omega|(simp only[gL]<;>omega))) _))); done)|(simp only[gL,gA]<;>omega)|fail) only[gB,setAll,partL,fldV,reduceIte,Nat.reduceAdd,Nat.reduceMul]
   refine WP.call (g0_ (by omega) (by unfold Fit; omega) _) ?_
   rintro _ _ ⟨rfl,rfl⟩
   by_cases hm1:modes % 3=1
   ·simp -implicitDefEqProofs (disch:=first|assumption|omega|(simp only[gL]<;>omega)|((repeat (first|exact Ext.refl _|assumption|apply Ext.app|apply Ext.mk|(refine Ext.setr ?_ (by (first|omega|(simp only[gL]<;>omega))) _))); done)|(simp only[gL,gA]<;>omega)|fail) only[gB,setAll,partL,fldV,reduceIte,Nat.reduceAdd,Nat.reduceMul]
    refine WP.call (g0_ (by omega) (by unfold Fit; omega) _) ?_
    rintro _ _ ⟨rfl,rfl⟩
    simp -implicitDefEqProofs (disch:=first|assumption|omega|(simp only[gL]<;>omega)|((repeat (first|exact Ext.refl _|assumption|apply Ext.app|apply Ext.mk|(refine Ext.setr ?_ (by (first|omega|(simp only[gL]<;>omega))) _))); done)|(simp only[gL,gA]<;>omega)|fail) only[gB,setAll,partL,fldV,reduceIte,Nat.reduceAdd,Nat.reduceMul]
    refine fin _ ⟨k % mkN size,IntKind.i64.wrap (k.tdiv 13) % mkN size,IntKind.i64.wrap (IntKind.i64.wrap (k.tdiv 170) % 5*(k % mkN size)) % 3,IntKind.i64.wrap (k.tdiv 900) % 9⟩ ?_ ?_ ?_
    ·exact ⟨(hb _ _ _ _).ext.setr (by omega) _,by rw[a5_ (by omega)]; exact (hb _ _ _ _).r6,by rw[a5_ (by omega)]; exact (hb _ _ _ _).r7,(hb _ _ _ _).gr.set (by omega) _,by simp,hlo⟩
    ·rw[a0_ (by simp)]; rfl
    ·simp[mkEdge,hm1]
   ·simp -implicitDefEqProofs (disch:=first|assumption|omega|(simp only[gL]<;>omega)|((repeat (first|exact Ext.refl _|assumption|apply Ext.app|apply Ext.mk|(refine Ext.setr ?_ (by (first|omega|(simp only[gL]<;>omega))) _))); done)|(simp only[gL,gA]<;>omega)|fail) only[gB,setAll,partL,fldV,reduceIte,Nat.reduceAdd,Nat.reduceMul]
    refine fin _ ⟨k % mkN size,IntKind.i64.wrap (k.tdiv 13) % mkN size,IntKind.i64.wrap (k.tdiv 170) % 5,IntKind.i64.wrap (k.tdiv 900) % 9⟩ ?_ ?_ ?_
    ·exact hb _ _ _ _
    ·rw[a0_ (by simp)]; rfl
    ·simp[mkEdge,hm0,hm1]
theorem a8J {h:Heap}{size modes:Int}{ns:AV}{zs:List Int}(hns:Sl h 1 ns (zs.map encI)) :
  Tot tab e2_ [I size,ns,I modes] h fun r h'=>Ext h h'/\∃s,r=.agg [I (mkN size),s]/\Gr h.length h'.length h' 4 s ((mkE size zs modes).map encE):=by
 refine WP.tot (fun k=>a2E k _ _ _ h) ?_
 have hN:=a2l size
 simp -implicitDefEqProofs (disch:=first|assumption|omega|(simp only[gL,gA]<;>omega)|fail) only[gC,reduceIte]
 refine WP.call (g0_ (by omega) (by unfold Fit; omega) _) ?_
 rintro _ _ ⟨rfl,rfl⟩
 simp -implicitDefEqProofs (disch:=first|assumption|omega|(simp only[gL,gA]<;>omega)|fail) only[gC,reduceIte]
 refine WP.ent (b0e (size:=size) (modes:=modes) hns ?_ (zs.take 40).length 0 _ .nils (by omega) ⟨?_,?_,?_,Gr.nil ..,by simp,by simp⟩) fun i=>rfl
 ·intro h1 s w h' e g
  exact ⟨e,s,rfl,(g.mono (by omega) (Nat.le_refl _)).low _ (Nat.le_refl _)⟩
 ·((repeat (first|exact Ext.refl _|assumption|apply Ext.app|apply Ext.mk|(refine Ext.setr ?_ (by (first|omega|(simp only[gL]<;>omega))) _))))
 ·rw[a5_ (by omega),e6_ (by simp),m6_ (by omega)]; simp
 ·rw[a0_ (by simp)]; rfl
end Go.Gm.AQ
namespace Go.Gm.AQ
open Go Go.Gm
abbrev tyIt:TypeId:=198
abbrev tyHp:TypeId:=218
def encIt (x:Int × Int):List AV:=[I x.1,I x.2]
theorem a0E (call:CallF)(o off hi g:Nat)(args:List AV)(h:Heap):callMeth tab call "Len" (.ifc tyHp (.ptr o off hi g)) args h=call p4_ (.ptr o off hi g::args) h:=rfl
theorem m8_ (call:CallF)(o off hi g:Nat)(args:List AV)(h:Heap):callMeth tab call "Less" (.ifc tyHp (.ptr o off hi g)) args h=call u0_ (.ptr o off hi g::args) h:=rfl
theorem a0c (call:CallF)(o off hi g:Nat)(args:List AV)(h:Heap):callMeth tab call "Swap" (.ifc tyHp (.ptr o off hi g)) args h=call n4_ (.ptr o off hi g::args) h:=rfl
theorem a5V (call:CallF)(o off hi g:Nat)(args:List AV)(h:Heap):callMeth tab call "Push" (.ifc tyHp (.ptr o off hi g)) args h=call u1_ (.ptr o off hi g::args) h:=rfl
theorem a6G (call:CallF)(o off hi g:Nat)(args:List AV)(h:Heap):callMeth tab call "Pop" (.ifc tyHp (.ptr o off hi g)) args h=call w3_ (.ptr o off hi g::args) h:=rfl
theorem a1y (call:CallF)(o off hi g:Nat)(args:List AV)(h:Heap):callMeth tab call "milestone/queue.place" (.ifc tyHp (.ptr o off hi g)) args h=call s4_ (.ptr o off hi g::args) h:=rfl
theorem a2m (t:TypeId)(z v:AV):tAssert t z true (.ifc t v)=some (.tup [v,.bool true]):=by simp[tAssert]
theorem b5_ (a:AV)(l:List AV):extr 0 (.tup (a::l))=some a:=rfl
theorem b6_ (a b:AV)(l:List AV):extr 1 (.tup (a::b::l))=some b:=rfl
theorem a0P (a b c:AV)(l:List AV):extr 2 (.tup (a::b::c::l))=some c:=rfl
structure QW (W:Nat->Prop) (h:Heap) (oq:Nat) (xs:List (Int × Int)) (at':List Int) (s1 s2:AV) (o1 o2:Nat):Prop where
 row:h[oq]?=some (.cells ⟨[s1,s2],0,0,false⟩)
 g1:Gr o1 (o1+1) h 2 s1 (xs.map encIt)
 n1:s1≠.nils->W o1/\o1≠oq/\o1≠o2/\o1<h.length
 g2:Gr o2 (o2+1) h 1 s2 (at'.map encI)
 w2:W o2
 d2:o2≠oq
 l2:o2<h.length
 wq:W oq
 len:xs.length<=10000000
 lat:at'.length<=10000000
def QS (W:Nat->Prop)(h:Heap)(oq:Nat)(xs:List (Int × Int))(at':List Int):Prop:=∃s1 s2 o1 o2,QW W h oq xs at' s1 s2 o1 o2
section
variable {W:Nat->Prop} {h h':Heap} {oq:Nat} {xs:List (Int × Int)} {at':List Int} {s1 s2:AV} {o1 o2:Nat}
theorem QW.ext (q:QW W h oq xs at' s1 s2 o1 o2)(e:Ext h h'):QW W h' oq xs at' s1 s2 o1 o2:=
 ⟨e.get q.row,q.g1.ext e,fun n=>let ⟨a,b,c,d⟩:=q.n1 n; ⟨a,b,c,Nat.lt_of_lt_of_le d e.len⟩,q.g2.ext e,q.w2,q.d2,Nat.lt_of_lt_of_le q.l2 e.len,q.wq,q.len,q.lat⟩
theorem QS.ext (q:QS W h oq xs at')(e:Ext h h'):QS W h' oq xs at':=let ⟨s1,s2,o1,o2,q⟩:=q; ⟨s1,s2,o1,o2,q.ext e⟩
theorem QS.mono {W':Nat->Prop}(q:QS W h oq xs at')(hw:∀o,o<h.length->W o->W' o):QS W' h oq xs at':=by
 obtain ⟨s1,s2,o1,o2,q⟩:=q
 have hq:=(List.getElem?_eq_some_iff.1 q.row).1
 exact ⟨s1,s2,o1,o2,q.row,q.g1,fun n=>let ⟨a,b,c,d⟩:=q.n1 n; ⟨hw _ d a,b,c,d⟩,q.g2,hw _ q.l2 q.w2,q.d2,q.l2,hw _ hq q.wq,q.len,q.lat⟩
theorem QS.frs {D:Nat->Prop}(q:QS W h oq xs at')(f:FrS D h h')(hd:∀o,o<h.length->W o->¬D o):QS W h' oq xs at':=by
 obtain ⟨s1,s2,o1,o2,q⟩:=q
 have hq:=(List.getElem?_eq_some_iff.1 q.row).1
 refine ⟨s1,s2,o1,o2,by rw[f.get (hd _ hq q.wq) hq]; exact q.row,?_,fun n=>let ⟨a,b,c,d⟩:=q.n1 n; ⟨a,b,c,Nat.lt_of_lt_of_le d f.len⟩,q.g2.frs f fun o k1 k2=>?_,q.w2,q.d2,Nat.lt_of_lt_of_le q.l2 f.len,q.wq,q.len,q.lat⟩
 ·by_cases hn:s1=.nils
  ·rcases q.g1 with k|⟨o,g,wg,cs,_,_,k,_⟩
   ·exact .inl k
   ·rw[hn] at k; cases k
  ·obtain ⟨a,b,c,d⟩:=q.n1 hn
   exact q.g1.frs f fun o k1 k2=>by
    obtain rfl:o=o1:=by omega
    exact hd _ d a
 ·obtain rfl:o=o2:=by omega
  exact hd _ q.l2 q.w2
theorem a3i (q:QS W h oq xs at'):Tot tab p4_ [.ptr oq 0 2 0] h fun r h'=>r=I xs.length/\h=h':=by
 obtain ⟨s1,s2,o1,o2,q⟩:=q
 refine WP.tot (fun k=>a3y k _ h) ?_
 simp -implicitDefEqProofs (disch:=first|assumption|omega|(simp only[gL,gA]<;>omega)|fail) only[gC,reduceIte,q.row,q.g1.sl.lenG]
 exact WP.ret ⟨rfl,rfl⟩
theorem a5i (q:QS W h oq xs at')(id:Int):Tot tab s4_ [.ptr oq 0 2 0,I id] h fun r h'=>r=I (if 0<=id/\id<at'.length then gi at' id else -1)/\h=h':=by
 obtain ⟨s1,s2,o1,o2,q⟩:=q
 refine WP.tot (fun k=>a2O k _ _ h) ?_
 by_cases h0:0<=id
 ·by_cases h1:id<at'.length
  ·simp -implicitDefEqProofs (disch:=first|assumption|omega|exact Ext.refl _|(simp only[gL,gA]<;>omega)|fail) only[gC,reduceIte,q.row,q.g2.sl.lenG,q.g2.sl.idxG,q.g2.sl.ld0,encI]
   exact WP.ret ⟨by rw[if_pos ⟨h0,h1⟩],rfl⟩
  ·simp -implicitDefEqProofs (disch:=first|assumption|omega|(simp only[gL,gA]<;>omega)|fail) only[gC,reduceIte,q.row,q.g2.sl.lenG]
   exact WP.ret ⟨by rw[if_neg (fun q=>h1 q.2)],rfl⟩
 ·simp -implicitDefEqProofs (disch:=first|assumption|omega|(simp only[gL,gA]<;>omega)|fail) only[gC,reduceIte]
  exact WP.ret ⟨by rw[if_neg (fun q=>h0 q.1)],rfl⟩
theorem a7a (x y:Int × Int)(h:Heap):Tot tab t9_ [.agg (encIt x),.agg (encIt y)] h fun r h'=>r=.bool (decide (ltI x y))/\Ext h h':=by
 refine WP.tot (fun k=>a3e k _ _ h) ?_
 simp only[encIt]
 by_cases h1:x.2=y.2
 ·by_cases h2:x.1<y.1
  ·simp -implicitDefEqProofs (disch:=first|assumption|omega|(simp only[gL,gA]<;>omega)|fail) only[gC,reduceIte]
   exact WP.ret ⟨by simp[ltI,h1,h2],by ((repeat (first|exact Ext.refl _|assumption|apply Ext.app|apply Ext.mk|(refine Ext.setr ?_ (by (first|omega|(simp only[gL]<;>omega))) _))))⟩
  ·simp -implicitDefEqProofs (disch:=first|assumption|omega|(simp only[gL,gA]<;>omega)|fail) only[gC,reduceIte]
   exact WP.ret ⟨by simp[ltI,h1,h2],by ((repeat (first|exact Ext.refl _|assumption|apply Ext.app|apply Ext.mk|(refine Ext.setr ?_ (by (first|omega|(simp only[gL]<;>omega))) _))))⟩
 ·by_cases h2:x.2<y.2
  ·simp -implicitDefEqProofs (disch:=first|assumption|omega|(simp only[gL,gA]<;>omega)|fail) only[gC,reduceIte]
   exact WP.ret ⟨by simp[ltI,h1,h2],by ((repeat (first|exact Ext.refl _|assumption|apply Ext.app|apply Ext.mk|(refine Ext.setr ?_ (by (first|omega|(simp only[gL]<;>omega))) _))))⟩
  ·simp -implicitDefEqProofs (disch:=first|assumption|omega|(simp only[gL,gA]<;>omega)|fail) only[gC,reduceIte]
   exact WP.ret ⟨by simp[ltI,h1,h2],by ((repeat (first|exact Ext.refl _|assumption|apply Ext.app|apply Ext.mk|(refine Ext.setr ?_ (by (first|omega|(simp only[gL]<;>omega))) _))))⟩
theorem a0Q (q:QS W h oq xs at'){i j:Int}(i0:0<=i)(i1:i<xs.length)(j0:0<=j)(j1:j<xs.length):Tot tab u0_ [.ptr oq 0 2 0,I i,I j] h fun r h'=>r=.bool (decide (ltI (gi xs i) (gi xs j)))/\Ext h h':=by
 obtain ⟨s1,s2,o1,o2,q⟩:=q
 refine WP.tot (fun k=>a3f k _ _ _ h) ?_
 simp -implicitDefEqProofs (disch:=first|assumption|omega|exact Ext.refl _|(simp only[gL,gA]<;>omega)|fail) only[gC,reduceIte,q.row,q.g1.sl.idxG,q.g1.sl.ldN]
 refine WP.call (a7a _ _ _) ?_
 rintro _ h' ⟨rfl,e⟩
 exact WP.ret ⟨rfl,e⟩
theorem a4n (x:Int × Int):(AV.agg (encIt x)).cells=encIt x:=rfl
theorem a8K (q:QS W h oq xs at'){i j:Int}(i0:0<=i)(i1:i<xs.length)(j0:0<=j)(j1:j<xs.length)(ai:0<=(gi xs i).1/\(gi xs i).1<at'.length)(aj:0<=(gi xs j).1/\(gi xs j).1<at'.length) :
  Tot tab n4_ [.ptr oq 0 2 0,I i,I j] h fun r h'=>QS W h' oq (sw xs i j) ((at'.set (gi xs j).1.toNat i).set (gi xs i).1.toNat j)/\FrS W h h':=by
 obtain ⟨s1,s2,o1,o2,q⟩:=q
 refine WP.tot (fun k=>a3h k _ _ _ h) ?_
 have hq:=(List.getElem?_eq_some_iff.1 q.row).1
 have hn:s1≠.nils:=q.g1.nnil (by intro hx; rw[List.map_eq_nil_iff] at hx; rw[hx] at i1; simp at i1; omega)
 obtain ⟨w1,d1,d12,l1⟩:=q.n1 hn
 obtain ⟨h1,k1,k2,k3,k4⟩:=q.g1.write0 (i:=i) (v:=.agg (encIt (gi xs j))) i0 (by simp; omega) rfl rfl
 rw[a4n,<-List.map_set] at k2
 obtain ⟨h2,m1,m2,m3,m4⟩:=k2.write0 (i:=j) (v:=.agg (encIt (gi xs i))) j0 (by simp; omega) rfl rfl
 rw[a4n,<-List.map_set] at m2
 have m2':Gr o1 (o1+1) h2 2 s1 ((sw xs i j).map encIt):=m2
 have row1:h1[oq]?=some (.cells ⟨[s1,s2],0,0,false⟩):=by rw[k3.get (by omega) hq]; exact q.row
 have row2:h2[oq]?=some (.cells ⟨[s1,s2],0,0,false⟩):=by rw[m3.get (by omega) (by omega)]; exact row1
 have g22:Gr o2 (o2+1) h2 1 s2 (at'.map encI):=(q.g2.fr k3 (by omega)).fr m3 (by omega)
 have hl:=a0L xs i j
 have gi1:gi (sw xs i j) i=gi xs j:=by
  rw[gi_sw i0 i1 j0 j1 i0]
  by_cases hij:i=j
  ·rw[if_pos hij,hij]
  ·rw[if_neg hij,if_pos rfl]
 have gj1:gi (sw xs i j) j=gi xs i:=by rw[gi_sw i0 i1 j0 j1 j0,if_pos rfl]
 obtain ⟨h3,p1,p2,p3,p4⟩:=g22.write0 (i:=(gi xs j).1) (v:=I i) aj.1 (by simp; omega) rfl rfl
 have row3:h3[oq]?=some (.cells ⟨[s1,s2],0,0,false⟩):=by rw[p3.get (by have:=q.d2; omega) (by omega)]; exact row2
 obtain ⟨h4,r1,r2,r3,r4⟩:=p2.write0 (i:=(gi xs i).1) (v:=I j) ai.1 (by simp; omega) rfl rfl
 have row4:h4[oq]?=some (.cells ⟨[s1,s2],0,0,false⟩):=by rw[r3.get (by have:=q.d2; omega) (by omega)]; exact row3
 simp only[encIt] at k1 m1
 simp -implicitDefEqProofs (disch:=first|assumption|omega|exact Ext.refl _|(simp only[gL,gA]<;>omega)|fail) only[gC,reduceIte,q.row,q.g1.sl.idxG,q.g1.sl.ldN,k1,m1,row2,g22.sl.idxG,m2'.sl.idxG,m2'.sl.ldf,encIt,gi1,gj1,p1,r1,row1,row3]
 have hd2:=q.d2
 refine WP.ret ⟨⟨s1,s2,o1,o2,row4,(m2'.fr p3 (by omega)).fr r3 (by omega),fun _=>⟨w1,d1,d12,by omega⟩,r2.cong ?_,q.w2,q.d2,by have:=q.l2; omega,q.wq,by rw[hl]; exact q.len,by simp; exact q.lat⟩,?_⟩
 ·rw[p1_,p1_,List.map_set,List.map_set]; rfl
 ·have f1:FrS W h h2:=(k3.trans m3).s.mono fun o _ k=>by
   obtain rfl:o=o1:=by omega
   exact w1
  exact f1.trans ((p3.trans r3).s.mono fun o _ k=>by
   obtain rfl:o=o2:=by omega
   exact q.w2)
theorem a8L (q:QS W h oq xs at'){id key:Int}(h0:0<=id)(h1:id<at'.length)(hlen:xs.length+1<=10000000) :
  Tot tab u1_ [.ptr oq 0 2 0,.ifc tyIt (.agg (encIt (id,key)))] h fun r h'=>QS (fun o=>W o\/h.length<=o) h' oq (xs++[(id,key)]) (at'.set id.toNat xs.length)/\FrS W h h':=by
 obtain ⟨s1,s2,o1,o2,q⟩:=q
 refine WP.tot (fun k=>a3g k _ _ h) ?_
 have hq:=(List.getElem?_eq_some_iff.1 q.row).1
 have hd2:=q.d2
 have hl2:=q.l2
 have hql:=q.len
 have hqa:=q.lat
 obtain ⟨hA,hhA⟩:∃hA,hA=(h++[AObj.cells ⟨[I 0,I 0],0,0,false⟩]).set h.length (.cells ⟨[I id,I key],0,0,false⟩):=⟨_,rfl⟩
 have eA:Ext h hA:=by rw[hhA]; ((repeat (first|exact Ext.refl _|assumption|apply Ext.app|apply Ext.mk|(refine Ext.setr ?_ (by (first|omega|(simp only[gL]<;>omega))) _))))
 have hlA:hA.length=h.length+1:=by rw[hhA]; simp
 have rA:hA[h.length]?=some (.cells ⟨[I id,I key],0,0,false⟩):=by rw[hhA]; exact a0_ (by simp)
 have rowA:=eA.get q.row
 have g2A:=q.g2.ext eA
 obtain ⟨hB,p1,p2,p3,p4⟩:=g2A.write0 (i:=id) (v:=I xs.length) h0 (by simp; omega) rfl rfl
 have rowB:hB[oq]?=some (.cells ⟨[s1,s2],0,0,false⟩):=by rw[p3.get (by omega) (by omega)]; exact rowA
 have rB:hB[h.length]?=some (.cells ⟨[I id,I key],0,0,false⟩):=by rw[p3.get (by omega) (by omega)]; exact rA
 have g1B:Gr o1 (o1+1) hB 2 s1 (xs.map encIt):=by
  by_cases hn:s1=.nils
  ·subst hn
   rw[q.g1.isNil]; exact .inl ⟨rfl,rfl⟩
  ·have:=q.n1 hn
   exact (q.g1.ext eA).fr p3 (by omega)
 have eC:Ext hB (mkObj hB (encIt (id,key))):=Ext.push _ _
 obtain ⟨s3,hD,o3,m1,m2,m3,m4⟩:=(g1B.ext eC).appP (bytes:=16) (fun hn=>by have:=q.n1 hn; simp[mkObj]; omega) ((Gr.lit (h:=hB) (sz:=2) (v:=encIt (id,key)) rfl).sl) (by omega) (by omega) (by simp; omega)
 have hn3:s3≠.nils:=m2.nnil (by simp)
 obtain ⟨m5,m6⟩:=m3 hn3
 have hlC:(mkObj hB (encIt (id,key))).length=h.length+2:=by simp[mkObj]; omega
 have hlD:=m4.len
 have rowD:hD[oq]?=some (.cells ⟨[s1,s2],0,0,false⟩):=by
  rw[m4.get (fun z=>by have:=q.n1 z.1; omega) (by omega)]; exact eC.get rowB
 have g2D:Gr o2 (o2+1) hD 1 s2 ((at'.map encI).set id.toNat (I xs.length).cells):=(p2.ext eC).frs m4 fun o k1 k2 z=>by have:=q.n1 z.1; omega
 rw[a1_] at m1
 simp only[encIt] at m1
 simp -implicitDefEqProofs (disch:=first|assumption|omega|(simp only[gL]<;>omega)|((repeat (first|exact Ext.refl _|assumption|apply Ext.app|apply Ext.mk|(refine Ext.setr ?_ (by (first|omega|(simp only[gL]<;>omega))) _))); done)|(simp only[gL,gA,a2m,b5_,b6_,encIt]<;>omega)|fail) only[gB,setAll,partL,fldV,reduceIte,Nat.reduceAdd,Nat.reduceMul,a2m,b5_,b6_,encIt]
 rw[show AV.int .i64 0=I 0 from rfl,<-hhA]
 simp -implicitDefEqProofs (disch:=first|assumption|omega|(simp only[gL]<;>omega)|((repeat (first|exact Ext.refl _|assumption|apply Ext.app|apply Ext.mk|(refine Ext.setr ?_ (by (first|omega|(simp only[gL]<;>omega))) _))); done)|(simp only[gL,gA,q.row,rowA,rA,q.g1.sl.lenG,g2A.sl.idxG,p1,rowB,rB,m1,rowD,m2.sl.one,m2.sl.cells]<;>omega)|fail) only[gB,setAll,partL,fldV,reduceIte,Nat.reduceAdd,Nat.reduceMul,q.row,rowA,rA,q.g1.sl.lenG,g2A.sl.idxG,p1,rowB,rB,m1,rowD,m2.sl.one,m2.sl.cells]
 have ho3q:oq≠o3:=by
  rcases m5 with ⟨rfl,z⟩|z
  ·exact (q.n1 z).2.1.symm
  ·omega
 have ho32:o3≠o2:=by
  rcases m5 with ⟨rfl,z⟩|z
  ·exact (q.n1 z).2.2.1
  ·omega
 refine WP.ret ⟨⟨s3,s2,o3,o2,?_,?_,fun _=>⟨?_,ho3q.symm,ho32,by simp; omega⟩,?_,.inl q.w2,q.d2,by simp; omega,.inl q.wq,by simp; omega,by simp; exact q.lat⟩,?_⟩
 ·rw[a0_ (by omega)]
 ·refine (m2.set (by omega) _).cong (by simp)
 ·rcases m5 with ⟨rfl,z⟩|z
  ·exact .inl (q.n1 z).1
  ·exact .inr (by omega)
 ·refine (g2D.set (by omega) _).cong ?_
  rw[p1_,List.map_set]; rfl
 ·have f1:FrS W h hB:=(FrS.ofExt eA).trans (p3.s.mono fun o _ k=>by
   obtain rfl:o=o2:=by omega
   exact q.w2)
  have f2:FrS W hB hD:=(FrS.ofExt eC).trans (m4.mono fun o _ k=>by
   rw[k.2]; exact (q.n1 k.1).1)
  refine (f1.trans f2).trans ⟨by simp,fun o k1 k2=>List.getElem?_set_ne (fun z=>?_)⟩
  exact k1 (z▸q.wq)
theorem a8M (q:QS W h oq xs at'){n:Nat}(hn:xs.length=n+1)(an:0<=(gi xs n).1/\(gi xs n).1<at'.length) :
  Tot tab w3_ [.ptr oq 0 2 0] h fun r h'=>r=.ifc tyIt (.agg (encIt (gi xs n)))/\QS W h' oq (xs.take n) (at'.set (gi xs n).1.toNat (-1))/\FrS W h h':=by
 obtain ⟨s1,s2,o1,o2,q⟩:=q
 refine WP.tot (fun k=>a3z k _ h) ?_
 have hq:=(List.getElem?_eq_some_iff.1 q.row).1
 have hd2:=q.d2
 have hl2:=q.l2
 have hql:=q.len
 have hqa:=q.lat
 have hnn:s1≠.nils:=q.g1.nnil (by intro hx; rw[List.map_eq_nil_iff] at hx; rw[hx] at hn; simp at hn)
 obtain ⟨w1,d1,d12,l1⟩:=q.n1 hnn
 obtain ⟨x,hx⟩:∃x,gi xs n=x:=⟨_,rfl⟩
 rw[hx] at an ⊢
 obtain ⟨hA,hhA⟩:∃hA,hA=(h++[AObj.cells ⟨[I 0,I 0],0,0,false⟩]).set h.length (.cells ⟨[I x.1,I x.2],0,0,false⟩):=⟨_,rfl⟩
 have eA:Ext h hA:=by rw[hhA]; ((repeat (first|exact Ext.refl _|assumption|apply Ext.app|apply Ext.mk|(refine Ext.setr ?_ (by (first|omega|(simp only[gL]<;>omega))) _))))
 have hlA:hA.length=h.length+1:=by rw[hhA]; simp
 have rA:hA[h.length]?=some (.cells ⟨[I x.1,I x.2],0,0,false⟩):=by rw[hhA]; exact a0_ (by simp)
 have rowA:=eA.get q.row
 have g1A:=q.g1.ext eA
 have g2A:=q.g2.ext eA
 obtain ⟨s3,t1,t2,t3⟩:=g1A.take (n:=(n:Int)) (by omega) (by simp; omega) hnn
 obtain ⟨hB,hhB⟩:∃hB,hB=hA.set oq (.cells ⟨[s3,s2],0,0,false⟩):=⟨_,rfl⟩
 have hlB:hB.length=hA.length:=by rw[hhB]; simp
 have rowB:hB[oq]?=some (.cells ⟨[s3,s2],0,0,false⟩):=by rw[hhB]; exact a0_ (by omega)
 have rB:hB[h.length]?=some (.cells ⟨[I x.1,I x.2],0,0,false⟩):=by rw[hhB,a5_ (by omega)]; exact rA
 have g1B:Gr o1 (o1+1) hB 2 s3 ((xs.map encIt).take (n:Int).toNat):=by rw[hhB]; exact t2.set (by omega) _
 have g2B:Gr o2 (o2+1) hB 1 s2 (at'.map encI):=by rw[hhB]; exact g2A.set (by omega) _
 obtain ⟨hC,p1,p2,p3,p4⟩:=g2B.write0 (i:=x.1) (v:=I (-1)) an.1 (by simp; omega) rfl rfl
 have rC:hC[h.length]?=some (.cells ⟨[I x.1,I x.2],0,0,false⟩):=by rw[p3.get (by omega) (by omega)]; exact rB
 have rowC:hC[oq]?=some (.cells ⟨[s3,s2],0,0,false⟩):=by rw[p3.get (by omega) (by omega)]; exact rowB
 have hn1:((xs.length:Nat):Int)-1=n:=by omega
 simp -implicitDefEqProofs (disch:=first|assumption|omega|(simp only[gL]<;>omega)|((repeat (first|exact Ext.refl _|assumption|apply Ext.app|apply Ext.mk|(refine Ext.setr ?_ (by (first|omega|(simp only[gL]<;>omega))) _))); done)|(simp only[gL,gA,q.row,q.g1.sl.lenG,hn1,q.g1.sl.idxG,q.g1.sl.ldN,hx,encIt]<;>omega)|fail) only[gB,setAll,partL,fldV,reduceIte,Nat.reduceAdd,Nat.reduceMul,q.row,q.g1.sl.lenG,hn1,q.g1.sl.idxG,q.g1.sl.ldN,hx,encIt]
 rw[show AV.int .i64 0=I 0 from rfl,<-hhA]
 simp -implicitDefEqProofs (disch:=first|assumption|omega|(simp only[gL]<;>omega)|((repeat (first|exact Ext.refl _|assumption|apply Ext.app|apply Ext.mk|(refine Ext.setr ?_ (by (first|omega|(simp only[gL]<;>omega))) _))); done)|(simp only[gL,gA,q.row,rowA,t1,t2.sl.one,t2.sl.cells]<;>omega)|fail) only[gB,setAll,partL,fldV,reduceIte,Nat.reduceAdd,Nat.reduceMul,q.row,rowA,t1,t2.sl.one,t2.sl.cells]
 rw[<-hhB]
 simp -implicitDefEqProofs (disch:=first|assumption|omega|(simp only[gL]<;>omega)|((repeat (first|exact Ext.refl _|assumption|apply Ext.app|apply Ext.mk|(refine Ext.setr ?_ (by (first|omega|(simp only[gL]<;>omega))) _))); done)|(simp only[gL,gA,rA,rowB,rB,g2B.sl.idxG,p1,rC]<;>omega)|fail) only[gB,setAll,partL,fldV,reduceIte,Nat.reduceAdd,Nat.reduceMul,rA,rowB,rB,g2B.sl.idxG,p1,rC]
 refine WP.ret ⟨rfl,⟨s3,s2,o1,o2,rowC,?_,fun _=>⟨w1,d1,d12,by omega⟩,?_,q.w2,q.d2,by omega,q.wq,by have:=q.len; simp; omega,by simp; exact q.lat⟩,?_⟩
 ·refine (g1B.fr p3 (by omega)).cong ?_
  rw[Int.toNat_natCast,List.map_take]
 ·refine p2.cong ?_
  rw[p1_,List.map_set]; rfl
 ·have f1:FrS W hA hB:=by
   rw[hhB]
   exact ⟨by simp,fun o k1 k2=>List.getElem?_set_ne (fun z=>by subst z; exact k1 q.wq)⟩
  exact ((FrS.ofExt eA).trans f1).trans (p3.s.mono fun o _ k=>by
   obtain rfl:o=o2:=by omega
   exact q.w2)
end
end Go.Gm.AQ
namespace Go.Gm.AQ
open Go Go.Gm
section
variable {W:Nat->Prop} {oq:Nat} {N:Nat} {M:List (Option Int)}
theorem QS.len {h:Heap}{xs:List (Int × Int)}{at':List Int}(q:QS W h oq xs at'):xs.length<=10000000:=by
 obtain ⟨s1,s2,o1,o2,q⟩:=q; exact q.len
theorem swapR {h:Heap}{xs:List (Int × Int)}{at':List Int}(q:QS W h oq xs at')(r:Rep N xs at' M){i j:Int}(i0:0<=i)(i1:i<xs.length)(j0:0<=j)(j1:j<xs.length) :
  Tot tab n4_ [.ptr oq 0 2 0,I i,I j] h fun _ h'=>∃at2,QS W h' oq (sw xs i j) at2/\Rep N (sw xs i j) at2 M/\FrS W h h':=by
 have ai:=r.a i i0 i1
 have aj:=r.a j j0 j1
 have la:=r.la
 exact (a8K q i0 i1 j0 j1 ⟨ai.1,by omega⟩ ⟨aj.1,by omega⟩).mono fun _ h' ⟨a,b⟩=>⟨_,a,r.swap i0 i1 j0 j1,b⟩
theorem b0f {h0:Heap}{L:Nat}:∀(d:Nat) (j:Int) (h:Heap) (xs:List (Int × Int)) (at':List Int),j<=d->0<=j->j<L->xs.length=L->QS W h oq xs at'->Rep N xs at' M->UpI L xs j->FrS W h0 h->
  WP (fun p:Nat × Nat=>m4_ p.1 p.2 (.ifc tyHp (.ptr oq 0 2 0)) (I j) h) fun _ h'=>∃xs2 at2,QS W h' oq xs2 at2/\Rep N xs2 at2 M/\Hp L xs2/\xs2.length=L/\FrS W h0 h':=by
 intro d
 induction d with
 |zero=>
  intro j h xs at' hd j0 j1 hl q r u fr
  refine WP.rnd (fun i' j'=>y4_ i' j' (.ifc tyHp (.ptr oq 0 2 0)) (I j) h) ?_
  obtain rfl:j=0:=by omega
  have hw:IntKind.i64.wrap (((0:Int)-1).tdiv 2)=0:=by decide
  simp -implicitDefEqProofs (disch:=first|assumption|omega|(simp only[gL,gA]<;>omega)|fail) only[gC,reduceIte,hw]
  exact WP.ret ⟨xs,at',q,r,u.done (.inl rfl),hl,fr⟩
 |succ d ih=>
  intro j h xs at' hd j0 j1 hl q r u fr
  refine WP.rnd (fun i' j'=>y4_ i' j' (.ifc tyHp (.ptr oq 0 2 0)) (I j) h) ?_
  by_cases hj:j=0
  ·subst hj
   have hw:IntKind.i64.wrap (((0:Int)-1).tdiv 2)=0:=by decide
   simp -implicitDefEqProofs (disch:=first|assumption|omega|(simp only[gL,gA]<;>omega)|fail) only[gC,reduceIte,hw]
   exact WP.ret ⟨xs,at',q,r,u.done (.inl rfl),hl,fr⟩
  ·have hlen:=q.len
   have hp:=j5_ (i:=j) (by omega)
   have hw:IntKind.i64.wrap ((j-1).tdiv 2)=par j:=by
    rw[Int.tdiv_eq_ediv_of_nonneg (by omega)]
    exact b2_ (by omega) (by omega)
   simp -implicitDefEqProofs (disch:=first|assumption|omega|(simp only[gL,gA]<;>omega)|fail) only[gC,reduceIte,hw,m8_]
   refine WP.call (a0Q q j0 (by omega) hp.1 (by omega)) ?_
   rintro _ h1 ⟨rfl,e1⟩
   have fr1:=fr.trans (FrS.ofExt (D:=W) e1)
   by_cases hlt:ltI (gi xs j) (gi xs (par j))
   ·simp -implicitDefEqProofs (disch:=first|assumption|omega|(simp only[gL,gA]<;>omega)|fail) only[gC,reduceIte,decide_eq_true hlt,a0c]
    refine WP.call (swapR (q.ext e1) r hp.1 (by omega) j0 (by omega)) ?_
    rintro _ h2 ⟨at2,q2,r2,f2⟩
    exact ih (par j) h2 (sw xs (par j) j) at2 (by omega) hp.1 (by omega) (by rw[a0L]; exact hl) q2 r2 (u.swap (by omega) j1 (by omega) hlt) (fr1.trans f2)
   ·simp -implicitDefEqProofs (disch:=first|assumption|omega|(simp only[gL,gA]<;>omega)|fail) only[gC,reduceIte,decide_eq_false hlt]
    exact WP.ret ⟨xs,at',q.ext e1,r,u.done (.inr hlt),hl,fr1⟩
theorem a7A {h:Heap}{xs:List (Int × Int)}{at':List Int}{j:Int}(j0:0<=j)(j1:j<xs.length)(q:QS W h oq xs at')(r:Rep N xs at' M)(u:UpI xs.length xs j) :
  Tot tab j6_ [.ifc tyHp (.ptr oq 0 2 0),I j] h fun _ h'=>∃xs2 at2,QS W h' oq xs2 at2/\Rep N xs2 at2 M/\Hp xs.length xs2/\xs2.length=xs.length/\FrS W h h':=
 WP.tot (fun k=>a3d k _ _ h) (WP.ent (b0f j.toNat j h xs at' (by omega) j0 j1 rfl q r u (FrS.refl _ _)) fun i=>rfl)
theorem a8N {h0:Heap}{L n:Nat}{i0:Int}{rt:Int × Int}(hn:n<=L):∀(d:Nat) (i:Int) (h:Heap) (xs:List (Int × Int)) (at':List Int),(n:Int)-i<=d->0<=i->i<=n->xs.length=L->QS W h oq xs at'->Rep N xs at' M->DnI n xs i->(∀p:Int,n<=p->p<L->gi xs p=rt)->FrS W h0 h->
  WP (fun p:Nat × Nat=>f7_ p.1 p.2 (.ifc tyHp (.ptr oq 0 2 0)) (I i0) (I n) (I i) h) fun r h'=>(∃b,r=.bool b)/\∃xs2 at2,QS W h' oq xs2 at2/\Rep N xs2 at2 M/\Hp n xs2/\xs2.length=L/\(∀p:Int,n<=p->p<L->gi xs2 p=rt)/\FrS W h0 h':=by
 have fin:∀(i:Int) (h:Heap) (xs:List (Int × Int)) (at':List Int),xs.length=L->QS W h oq xs at'->Rep N xs at' M->Hp n xs->(∀p:Int,n<=p->p<L->gi xs p=rt)->FrS W h0 h->
   WP (fun k:Nat=>f8_ k (I i0) (I i) h) fun r h'=>(∃b,r=.bool b)/\∃xs2 at2,QS W h' oq xs2 at2/\Rep N xs2 at2 M/\Hp n xs2/\xs2.length=L/\(∀p:Int,n<=p->p<L->gi xs2 p=rt)/\FrS W h0 h':=by
  intro i h xs at' hl q r hp hrt fr
  refine WP.congr (fun k=>v6_ k (I i0) (I i) h) ?_
  refine WP.oa (a5s _ _) ?_
  exact WP.ret ⟨⟨_,rfl⟩,xs,at',q,r,hp,hl,hrt,fr⟩
 intro d
 induction d with
 |zero=>
  intro i h xs at' hd hi0 hin hl q r u hrt fr
  refine WP.rnd (fun i' j'=>m5_ i' j' (.ifc tyHp (.ptr oq 0 2 0)) (I i0) (I n) (I i) h) ?_
  have hlen:=q.len
  have hw:IntKind.i64.wrap (2*i)=2*i:=b2_ (by omega) (by omega)
  simp -implicitDefEqProofs (disch:=first|assumption|omega|(simp only[gL,gA]<;>omega)|fail) only[gC,reduceIte,hw]
  exact WP.lv (fin i h xs at' hl q r (u.done fun c c0 c1 hc=>by unfold par at hc; omega) hrt fr) fun i j=>rfl
 |succ d ih=>
  intro i h xs at' hd hi0 hin hl q r u hrt fr
  refine WP.rnd (fun i' j'=>m5_ i' j' (.ifc tyHp (.ptr oq 0 2 0)) (I i0) (I n) (I i) h) ?_
  have hlen:=q.len
  have hw:IntKind.i64.wrap (2*i)=2*i:=b2_ (by omega) (by omega)
  by_cases hc1:2*i+1<n
  ·
   have part:∀(j:Int) (h:Heap),par j=i->0<j->j<n->(∀c:Int,0<c->c<n->par c=i->¬ltI (gi xs c) (gi xs j))->QS W h oq xs at'->FrS W h0 h->
     WP (fun p:Nat × Nat=>f9_ p.1 p.2 (.ifc tyHp (.ptr oq 0 2 0)) (I i0) (I n) (I i) (I j) h) fun r h'=>(∃b,r=.bool b)/\∃xs2 at2,QS W h' oq xs2 at2/\Rep N xs2 at2 M/\Hp n xs2/\xs2.length=L/\(∀p:Int,n<=p->p<L->gi xs2 p=rt)/\FrS W h0 h':=by
    intro j h hj j0 j1 hs q fr
    have hpj:=j5_ j0
    refine WP.congr (fun p=>v7_ p.1 p.2 (.ifc tyHp (.ptr oq 0 2 0)) (I i0) (I n) (I i) (I j) h) ?_
    simp -implicitDefEqProofs (disch:=first|assumption|omega|(simp only[gL,gA]<;>omega)|fail) only[gC,reduceIte,m8_]
    refine WP.call (a0Q q (i:=j) (j:=i) (by omega) (by omega) hi0 (by omega)) ?_
    rintro _ h1 ⟨rfl,e1⟩
    have fr1:=fr.trans (FrS.ofExt (D:=W) e1)
    by_cases hlt:ltI (gi xs j) (gi xs i)
    ·simp -implicitDefEqProofs (disch:=first|assumption|omega|(simp only[gL,gA]<;>omega)|fail) only[gC,reduceIte,decide_eq_true hlt,a0c]
     refine WP.call (swapR (q.ext e1) r hi0 (by omega) (by omega) (by omega)) ?_
     rintro _ h2 ⟨at2,q2,r2,f2⟩
     refine ih j h2 (sw xs i j) at2 (by omega) (by omega) (by omega) (by rw[a0L]; exact hl) q2 r2 (u.swap hi0 hj j0 j1 (by omega) hlt hs) (fun p p0 p1=>?_) (fr1.trans f2)
     rw[gi_sw hi0 (by omega) (by omega) (by omega) (by omega),if_neg (by omega),if_neg (by omega)]
     exact hrt p p0 p1
    ·simp -implicitDefEqProofs (disch:=first|assumption|omega|(simp only[gL,gA]<;>omega)|fail) only[gC,reduceIte,decide_eq_false hlt]
     refine WP.lv (fin i h1 xs at' hl (q.ext e1) r (u.done fun c c0 c1 hc=>?_) hrt fr1) fun i j=>rfl
     have:=hs c c0 c1 hc
     unfold ltI at *; omega
   have hpar:∀c,par c=i->c=2*i+1\/c=2*i+1+1:=fun c hc=>by unfold par at hc; omega
   by_cases hc2:2*i+1+1<n
   ·simp -implicitDefEqProofs (disch:=first|assumption|omega|(simp only[gL,gA]<;>omega)|fail) only[gC,reduceIte,hw,m8_]
    refine WP.call (a0Q q (i:=2*i+1+1) (j:=2*i+1) (by omega) (by omega) (by omega) (by omega)) ?_
    rintro _ h1 ⟨rfl,e1⟩
    have fr1:=fr.trans (FrS.ofExt (D:=W) e1)
    by_cases hlt:ltI (gi xs (2*i+1+1)) (gi xs (2*i+1))
    ·simp -implicitDefEqProofs (disch:=first|assumption|omega|(simp only[gL,gA]<;>omega)|fail) only[gC,reduceIte,decide_eq_true hlt]
     refine part (2*i+1+1) h1 (by unfold par; omega) (by omega) hc2 (fun c c0 c1 hc=>?_) (q.ext e1) fr1
     rcases hpar c hc with rfl|rfl<;>(unfold ltI at *; omega)
    ·simp -implicitDefEqProofs (disch:=first|assumption|omega|(simp only[gL,gA]<;>omega)|fail) only[gC,reduceIte,decide_eq_false hlt]
     refine part (2*i+1) h1 (by unfold par; omega) (by omega) hc1 (fun c c0 c1 hc=>?_) (q.ext e1) fr1
     rcases hpar c hc with rfl|rfl<;>(unfold ltI at *; omega)
   ·simp -implicitDefEqProofs (disch:=first|assumption|omega|(simp only[gL,gA]<;>omega)|fail) only[gC,reduceIte,hw]
    refine part (2*i+1) h (by unfold par; omega) (by omega) hc1 (fun c c0 c1 hc=>?_) q fr
    rcases hpar c hc with rfl|rfl
    ·unfold ltI; omega
    ·omega
  ·simp -implicitDefEqProofs (disch:=first|assumption|omega|(simp only[gL,gA]<;>omega)|fail) only[gC,reduceIte,hw]
   exact WP.lv (fin i h xs at' hl q r (u.done fun c c0 c1 hc=>by unfold par at hc; omega) hrt fr) fun i j=>rfl
theorem a8O {h:Heap}{xs:List (Int × Int)}{at':List Int}{n:Nat}{i:Int}{rt:Int × Int}(hn:n<=xs.length)(i0:0<=i)(i1:i<=n)(q:QS W h oq xs at')(r:Rep N xs at' M)(u:DnI n xs i)(hrt:∀p:Int,n<=p->p<xs.length->gi xs p=rt) :
  Tot tab b4_ [.ifc tyHp (.ptr oq 0 2 0),I i,I n] h fun r h'=>(∃b,r=.bool b)/\∃xs2 at2,QS W h' oq xs2 at2/\Rep N xs2 at2 M/\Hp n xs2/\xs2.length=xs.length/\(∀p:Int,n<=p->p<xs.length->gi xs2 p=rt)/\FrS W h h':=
 WP.tot (fun k=>z3_ k _ _ _ h) (WP.ent (a8N hn ((n:Int)-i).toNat i h xs at' (by omega) i0 i1 rfl q r u hrt (FrS.refl _ _)) fun i=>rfl)
theorem a8P {h:Heap}{xs:List (Int × Int)}{at':List Int}{i:Int}(i0:0<=i)(i1:i<xs.length)(q:QS W h oq xs at')(hc:∀c,0<c->c<(xs.length:Int)->par c=i->¬ltI (gi xs c) (gi xs i)) :
  Tot tab b4_ [.ifc tyHp (.ptr oq 0 2 0),I i,I xs.length] h fun r h'=>r=.bool false/\Ext h h':=by
 refine WP.tot (fun k=>z3_ k _ _ _ h) ?_
 have hlen:=q.len
 have hw:IntKind.i64.wrap (2*i)=2*i:=b2_ (by omega) (by omega)
 refine WP.ent (c2:=fun p=>f7_ p.1 p.2 (.ifc tyHp (.ptr oq 0 2 0)) (I i) (I xs.length) (I i) h) ?_ fun i=>rfl
 refine WP.rnd (fun i' j'=>m5_ i' j' (.ifc tyHp (.ptr oq 0 2 0)) (I i) (I xs.length) (I i) h) ?_
 have fin:∀h',Ext h h'->WP (fun k:Nat=>f8_ k (I i) (I i) h') fun r h'=>r=.bool false/\Ext h h':=by
  intro h' e
  refine WP.congr (fun k=>v6_ k (I i) (I i) h') ?_
  simp -implicitDefEqProofs (disch:=first|assumption|omega|(simp only[gL,gA]<;>omega)|fail) only[gC,reduceIte]
  exact WP.ret ⟨rfl,e⟩
 by_cases hc1:2*i+1<xs.length
 ·have part:∀(j:Int) (h':Heap),par j=i->0<j->j<xs.length->Ext h h'->
    WP (fun p:Nat × Nat=>f9_ p.1 p.2 (.ifc tyHp (.ptr oq 0 2 0)) (I i) (I xs.length) (I i) (I j) h') fun r h'=>r=.bool false/\Ext h h':=by
   intro j h' hj j0 j1 e
   refine WP.congr (fun p=>v7_ p.1 p.2 (.ifc tyHp (.ptr oq 0 2 0)) (I i) (I xs.length) (I i) (I j) h') ?_
   simp -implicitDefEqProofs (disch:=first|assumption|omega|(simp only[gL,gA]<;>omega)|fail) only[gC,reduceIte,m8_]
   refine WP.call (a0Q (q.ext e) (i:=j) (j:=i) (by omega) (by omega) i0 (by omega)) ?_
   rintro _ h1 ⟨rfl,e1⟩
   simp -implicitDefEqProofs (disch:=first|assumption|omega|(simp only[gL,gA]<;>omega)|fail) only[gC,reduceIte,decide_eq_false (hc j j0 j1 hj)]
   exact WP.lv (fin h1 (e.trans e1)) fun i j=>rfl
  by_cases hc2:2*i+1+1<xs.length
  ·simp -implicitDefEqProofs (disch:=first|assumption|omega|(simp only[gL,gA]<;>omega)|fail) only[gC,reduceIte,hw,m8_]
   refine WP.call (a0Q q (i:=2*i+1+1) (j:=2*i+1) (by omega) (by omega) (by omega) (by omega)) ?_
   rintro _ h1 ⟨rfl,e1⟩
   by_cases hlt:ltI (gi xs (2*i+1+1)) (gi xs (2*i+1))
   ·simp -implicitDefEqProofs (disch:=first|assumption|omega|(simp only[gL,gA]<;>omega)|fail) only[gC,reduceIte,decide_eq_true hlt]
    exact part (2*i+1+1) h1 (by unfold par; omega) (by omega) hc2 e1
   ·simp -implicitDefEqProofs (disch:=first|assumption|omega|(simp only[gL,gA]<;>omega)|fail) only[gC,reduceIte,decide_eq_false hlt]
    exact part (2*i+1) h1 (by unfold par; omega) (by omega) hc1 e1
  ·simp -implicitDefEqProofs (disch:=first|assumption|omega|(simp only[gL,gA]<;>omega)|fail) only[gC,reduceIte,hw]
   exact part (2*i+1) h (by unfold par; omega) (by omega) hc1 (Ext.refl _)
 ·simp -implicitDefEqProofs (disch:=first|assumption|omega|(simp only[gL,gA]<;>omega)|fail) only[gC,reduceIte,hw]
  exact WP.lv (fin h (Ext.refl _)) fun i j=>rfl
end
end Go.Gm.AQ
namespace Go.Gm.AQ
open Go Go.Gm
def cnt (M:List (Option Int)):Nat:=M.countP (·.isSome)
theorem a8Q (M:List (Option Int)):cnt M<=M.length:=List.countP_le_length
theorem a5z {M:List (Option Int)}{i:Int}(h0:0<=i)(h1:i<M.length)(x:Option Int):cnt (M.set i.toNat x)+(if (gi M i).isSome then 1 else 0)=cnt M+(if x.isSome then 1 else 0):=by
 have hi:i.toNat<M.length:=by omega
 have hx:M[i.toNat]=gi M i:=by
  have:=a7_ h0 h1
  rw[List.getElem?_eq_getElem hi] at this
  injection this
 have h2:=List.countP_set (p:=fun y:Option Int=>y.isSome) (a:=x) hi
 rw[hx] at h2
 have h3:(gi M i).isSome=true->0<cnt M:=fun q=>List.countP_pos_iff.2 ⟨gi M i,a4_ h0 h1,q⟩
 unfold cnt at *
 rw[h2]
 by_cases h4:(gi M i).isSome=true
 ·have:=h3 h4
  simp only[h4,if_true]
  omega
 ·simp only[if_neg h4]
  omega
def putM (N:Nat)(M:List (Option Int))(id key:Int):List (Option Int) × Bool:=
 if 0<=id/\id<N then match gi M id with
  |none=>(M.set id.toNat (some key),true)
  |some k=>if k<=key then (M,false) else (M.set id.toNat (some key),true)
 else (M,false)
def keyM (N:Nat)(M:List (Option Int))(id:Int):Option Int:=if 0<=id/\id<N then gi M id else none
structure IsMin (N:Nat) (M:List (Option Int)) (id key:Int):Prop where
 i0:0<=id
 i1:id<N
 k:gi M id=some key
 m:∀id' k':Int,0<=id'->id'<N->gi M id'=some k'->¬ltI (id',k') (id,key)
theorem IsMin.uniq {N:Nat}{M:List (Option Int)}{a b c d:Int}(h:IsMin N M a b)(k:IsMin N M c d):a=c/\b=d:=by
 have h1:=h.m c d k.i0 k.i1 k.k
 have h2:=k.m a b h.i0 h.i1 h.k
 simp only[ltI] at h1 h2
 omega
def QV (W:Nat->Prop)(h:Heap)(q:AV)(N:Nat)(M:List (Option Int)):Prop:=
 ∃oq xs at',q=.ptr oq 0 2 0/\QS W h oq xs at'/\Rep N xs at' M/\Hp xs.length xs/\xs.length=cnt M
section
variable {W:Nat->Prop} {h h':Heap} {q:AV} {N:Nat} {M:List (Option Int)}
theorem QV.ext (v:QV W h q N M)(e:Ext h h'):QV W h' q N M:=let ⟨oq,xs,a,h1,h2,h3⟩:=v; ⟨oq,xs,a,h1,h2.ext e,h3⟩
theorem QV.mono {W':Nat->Prop}(v:QV W h q N M)(hw:∀o,o<h.length->W o->W' o):QV W' h q N M:=let ⟨oq,xs,a,h1,h2,h3⟩:=v; ⟨oq,xs,a,h1,h2.mono hw,h3⟩
theorem QV.frs {D:Nat->Prop}(v:QV W h q N M)(f:FrS D h h')(hd:∀o,o<h.length->W o->¬D o):QV W h' q N M:=let ⟨oq,xs,a,h1,h2,h3⟩:=v; ⟨oq,xs,a,h1,h2.frs f hd,h3⟩
theorem QV.lm (v:QV W h q N M):M.length=N:=let ⟨oq,xs,a,h1,h2,h3,_⟩:=v; h3.lm
theorem a3O (oq:Nat)(h:Heap):Tot tab h1_ [.ptr oq 0 2 0] h fun r h'=>r=.ifc tyHp (.ptr oq 0 2 0)/\h=h':=by
 refine WP.tot (fun k=>a3x k _ h) ?_
 simp -implicitDefEqProofs (disch:=first|assumption|omega|(simp only[gL,gA]<;>omega)|fail) only[gC,reduceIte]
 exact WP.ret ⟨rfl,rfl⟩
theorem a8R (v:QV W h q N M)(id:Int):Tot tab y5_ [q,I id] h fun r h'=>(r=match keyM N M id with|some k=>.tup [I k,.bool true]|none=>.tup [I 0,.bool false])/\h=h':=by
 obtain ⟨oq,xs,a,rfl,qs,r,hp,hc⟩:=v
 refine WP.tot (fun k=>a3K k _ _ h) ?_
 refine WP.call (a3O oq h) ?_
 rintro _ _ ⟨rfl,rfl⟩
 simp -implicitDefEqProofs (disch:=first|assumption|omega|(simp only[gL,gA]<;>omega)|fail) only[gC,reduceIte,a1y]
 refine WP.call (a5i qs id) ?_
 rintro _ _ ⟨rfl,rfl⟩
 have la:=r.la
 by_cases hid:0<=id/\id<N
 ·rw[if_pos (by omega),keyM,if_pos hid]
  rcases r.b id hid.1 hid.2 with ⟨h1,h2⟩|⟨h1,h2,h3,h4⟩
  ·rw[h1,h2]
   simp -implicitDefEqProofs (disch:=first|assumption|omega|(simp only[gL,gA]<;>omega)|fail) only[gC,reduceIte]
   exact WP.ret ⟨rfl,rfl⟩
  ·rw[h4]
   obtain ⟨s1,s2,o1,o2,qs⟩:=qs
   simp -implicitDefEqProofs (disch:=first|assumption|omega|exact Ext.refl _|(simp only[gL,gA]<;>omega)|fail) only[gC,reduceIte,qs.row,qs.g1.sl.idxG,qs.g1.sl.ldf,encIt]
   exact WP.ret ⟨rfl,rfl⟩
 ·rw[if_neg (by omega),keyM,if_neg hid]
  simp -implicitDefEqProofs (disch:=first|assumption|omega|(simp only[gL,gA]<;>omega)|fail) only[gC,reduceIte]
  exact WP.ret ⟨rfl,rfl⟩
theorem a7T {oq:Nat}{xs:List (Int × Int)}{at':List Int}(qs:QS W h oq xs at')(r:Rep N xs at' M)(hp:Hp xs.length xs){id key:Int}(h0:0<=id)(h1:id<N)(hn:gi at' id = -1)(hlen:xs.length+1<=10000000) :
  Tot tab l5_ [.ifc tyHp (.ptr oq 0 2 0),.ifc tyIt (.agg (encIt (id,key)))] h fun _ h'=>∃xs2 at2,QS (fun o=>W o\/h.length<=o) h' oq xs2 at2/\Rep N xs2 at2 (M.set id.toNat (some key))/\Hp xs2.length xs2/\xs2.length=xs.length+1/\FrS W h h':=by
 refine WP.tot (fun k=>a2z k _ _ h) ?_
 have la:=r.la
 simp -implicitDefEqProofs (disch:=first|assumption|omega|(simp only[gL,gA]<;>omega)|fail) only[gC,reduceIte,a5V]
 refine WP.call (a8L qs h0 (by omega) hlen) ?_
 rintro _ h2 ⟨q2,f2⟩
 simp -implicitDefEqProofs (disch:=first|assumption|omega|(simp only[gL,gA]<;>omega)|fail) only[gC,reduceIte,a0E]
 refine WP.call (a3i q2) ?_
 rintro _ _ ⟨rfl,rfl⟩
 have hl:(xs++[(id,key)]).length=xs.length+1:=by simp
 have r2:=r.push (key:=key) h0 h1 hn
 have hj:((xs++[(id,key)]).length:Int)-1=xs.length:=by omega
 simp only[hl] at hj ⊢
 simp -implicitDefEqProofs (disch:=first|assumption|omega|(simp only[gL,gA]<;>omega)|fail) only[gC,reduceIte,hj]
 refine WP.call (a7A (j:=xs.length) (by omega) (by omega) q2 r2 (by rw[hl]; exact hp.push rfl _)) ?_
 rintro _ h3 ⟨xs2,at2,q3,r3,hp3,hl3,f3⟩
 rw[hl] at hl3 hp3
 refine WP.ret ⟨xs2,at2,q3,r3,by rw[hl3]; exact hp3,hl3,⟨by have:=f2.len; have:=f3.len; omega,fun o k1 k2=>?_⟩⟩
 have:=f2.len
 rw[f3.get (fun z=>by rcases z with z|z; exact k1 z; omega) (by omega),f2.get k1 k2]
theorem a8S {oq:Nat}{xs:List (Int × Int)}{at':List Int}{n:Nat}(qs:QS W h oq xs at')(r:Rep N xs at' M)(hp:Hp xs.length xs)(hn:xs.length=n+1) :
  Tot tab s3_ [.ifc tyHp (.ptr oq 0 2 0)] h fun v h'=>v=.ifc tyIt (.agg (encIt (gi xs 0)))/\∃xs2 at2,QS W h' oq xs2 at2/\Rep N xs2 at2 (M.set (gi xs 0).1.toNat none)/\Hp xs2.length xs2/\xs2.length=n/\FrS W h h':=by
 refine WP.tot (fun k=>a2N k _ h) ?_
 have hlen:=qs.len
 simp -implicitDefEqProofs (disch:=first|assumption|omega|(simp only[gL,gA]<;>omega)|fail) only[gC,reduceIte,a0E]
 refine WP.call (a3i qs) ?_
 rintro _ _ ⟨rfl,rfl⟩
 have hj:(xs.length:Int)-1=n:=by omega
 simp -implicitDefEqProofs (disch:=first|assumption|omega|(simp only[gL,gA]<;>omega)|fail) only[gC,reduceIte,hj,a0c]
 refine WP.call (swapR qs r (i:=0) (j:=(n:Int)) (by omega) (by omega) (by omega) (by omega)) ?_
 rintro _ h2 ⟨at2,q2,r2,f2⟩
 rw[hn] at hp
 refine WP.call (a8O (n:=n) (i:=0) (rt:=gi xs 0) (by rw[a0L]; omega) (by omega) (by omega) q2 r2 (hp.begin hn) (fun p p0 p1=>?_)) ?_
 ·rw[a0L] at p1
  rw[gi_sw (by omega) (by omega) (by omega) (by omega) (by omega),if_pos (by omega)]
 rintro _ h3 ⟨⟨b,rfl⟩,xs3,at3,q3,r3,hp3,hl3,hr3,f3⟩
 rw[a0L] at hl3 hr3
 have hr3n:=hr3 n (Int.le_refl _) (by omega)
 have an:=r3.a n (by omega) (by omega)
 have la3:=r3.la
 simp -implicitDefEqProofs (disch:=first|assumption|omega|(simp only[gL,gA]<;>omega)|fail) only[gC,reduceIte,a6G]
 refine WP.call (a8M q3 (n:=n) (by omega) ⟨an.1,by omega⟩) ?_
 rintro _ h4 ⟨rfl,q4,f4⟩
 have r4:=r3.pop (n:=n) (by omega)
 rw[hr3n] at q4 r4 ⊢
 have hl4:(xs3.take n).length=n:=by simp; omega
 refine WP.ret ⟨rfl,xs3.take n,_,q4,r4,?_,hl4,(f2.trans f3).trans f4⟩
 rw[hl4]
 intro i i0 i1
 have:=j5_ i0
 rw[a2W (by omega) (by omega),a2W (by omega) (by omega)]
 exact hp3 i i0 i1
theorem a8T {oq:Nat}{xs:List (Int × Int)}{at':List Int}{i:Int}(qs:QS W h oq xs at')(r:Rep N xs at' M)(i0:0<=i)(i1:i<xs.length)(u:UpI xs.length xs i)(hc:∀c,0<c->c<(xs.length:Int)->par c=i->¬ltI (gi xs c) (gi xs i)) :
  Tot tab m3_ [.ifc tyHp (.ptr oq 0 2 0),I i] h fun v h'=>∃xs2 at2,QS W h' oq xs2 at2/\Rep N xs2 at2 M/\Hp xs2.length xs2/\xs2.length=xs.length/\FrS W h h':=by
 refine WP.tot (fun k=>a2M k _ _ h) ?_
 simp -implicitDefEqProofs (disch:=first|assumption|omega|(simp only[gL,gA]<;>omega)|fail) only[gC,reduceIte,a0E]
 refine WP.call (a3i qs) ?_
 rintro _ _ ⟨rfl,rfl⟩
 refine WP.call (a8P i0 i1 qs hc) ?_
 rintro _ h2 ⟨rfl,e2⟩
 simp -implicitDefEqProofs (disch:=first|assumption|omega|(simp only[gL,gA]<;>omega)|fail) only[gC,reduceIte]
 refine WP.call (a7A i0 i1 (qs.ext e2) r u) ?_
 rintro _ h3 ⟨xs3,at3,q3,r3,hp3,hl3,f3⟩
 exact WP.ret ⟨xs3,at3,q3,r3,by rw[hl3]; exact hp3,hl3,(FrS.ofExt e2).trans f3⟩
theorem a8U (v:QV W h q N M)(hN:N≤1000000)(id key:Int):Tot tab e5_ [q,I id,I key] h fun r h'=>r=.bool (putM N M id key).2∧QV (fun o=>W o∨h.length≤o) h' q N (putM N M id key).1∧FrS W h h':=by
 have vv:=v
 obtain ⟨oq,xs,a,rfl,qs,r,hp,hc⟩:=v
 refine WP.tot (fun k=>a3J k _ _ _ h) ?_
 have la:=r.la
 have lm:=r.lm
 have hcl:=a8Q M
 have hmono:∀o,o<h.length→W o→W o∨h.length≤o:=fun o _ z=>.inl z
 by_cases h0:0≤id
 ·by_cases h1:id<N
  ·have hif:0≤id∧id<(N:Int):=⟨h0,h1⟩
   have hgo:WP (fun k:Nat=>ob (evalFn tab k h1_ [.ptr oq 0 2 0] h) fun t22_19 h_20=>
     ob (callMeth tab (evalFn tab k) "milestone/queue.place" t22_19 [I id] h_20) fun t25_21 h_22=>
     oa (binV .lss .scalar t25_21 (.int .i64 0)) fun t27_23=>
     cond2 t27_23
      (oa (buildV [.int .i64 0,.int .i64 0] [(0,1,I id),(1,1,I key)]) fun t31_24=>
       ob (evalFn tab k l5_ [t22_19,(.ifc tyIt t31_24)] h_22) fun t33_25 h_26=>some ((.bool true),h_26))
      (oa (nilCk (.ptr oq 0 2 0)) fun t35_27=>oa (fldA 0 t35_27) fun t36_28=>oa (fldA 0 t36_28) fun t37_29=>oa (ld1 h_22 t37_29) fun t38_30=>oa (idxS 2 t38_30 t25_21) fun t40_31=>oa (fldA 1 t40_31) fun t41_32=>oa (ld1 h_22 t41_32) fun t42_33=>
       oa (binV .leq .scalar t42_33 (I key)) fun t44_34=>
       cond2 t44_34 (some ((.bool false),h_22))
        (oa (nilCk (.ptr oq 0 2 0)) fun t46_35=>oa (fldA 0 t46_35) fun t47_36=>oa (fldA 0 t47_36) fun t48_37=>oa (ld1 h_22 t48_37) fun t49_38=>oa (idxS 2 t49_38 t25_21) fun t52_39=>oa (fldA 1 t52_39) fun t53_40=>
         oh (stN 1 h_22 t53_40 (I key)) fun h_41=>ob (evalFn tab k m3_ [t22_19,t25_21] h_41) fun t56_42 h_43=>some ((.bool true),h_43))))
     fun r h'=>r=.bool (putM N M id key).2∧QV (fun o=>W o∨h.length≤o) h' (.ptr oq 0 2 0) N (putM N M id key).1∧FrS W h h':=by
    refine WP.call (a3O oq h) ?_
    rintro _ _ ⟨rfl,rfl⟩
    simp -implicitDefEqProofs (disch:=first|assumption|omega|(simp only[gL,gA]<;>omega)|fail) only[gC,reduceIte,a1y]
    refine WP.call (a5i qs id) ?_
    rintro _ _ ⟨rfl,rfl⟩
    rw[if_pos (by omega)]
    rcases r.b id h0 h1 with ⟨k1,k2⟩|⟨k1,k2,k3,k4⟩
    ·have hpm:putM N M id key=(M.set id.toNat (some key),true):=by simp only[putM,if_pos hif,k2]
     have hcs:=a5z (M:=M) (i:=id) h0 (by omega) (some key)
     rw[k2] at hcs
     simp at hcs
     rw[hpm,k1]
     simp -implicitDefEqProofs (disch:=first|assumption|omega|(simp only[gL,gA]<;>omega)|fail) only[gC,reduceIte]
     refine WP.call (a7T qs r hp (key:=key) h0 h1 k1 (by omega)) ?_
     rintro _ h3 ⟨xs3,at3,q3,r3,hp3,hl3,f3⟩
     exact WP.ret ⟨rfl,⟨oq,xs3,at3,rfl,q3,r3,hp3,by omega⟩,f3⟩
    ·obtain ⟨s1,s2,o1,o2,qw⟩:=qs
     by_cases hle:(gi xs (gi a id)).2≤key
     ·have hpm:putM N M id key=(M,false):=by simp only[putM,if_pos hif,k4,if_pos hle]
      rw[hpm]
      simp -implicitDefEqProofs (disch:=first|assumption|omega|exact Ext.refl _|(simp only[gL,gA]<;>omega)|fail) only[gC,reduceIte,qw.row,qw.g1.sl.idxG,qw.g1.sl.ldf,encIt]
      exact WP.ret ⟨rfl,vv.mono hmono,FrS.refl _ _⟩
     ·have hpm:putM N M id key=(M.set id.toNat (some key),true):=by simp only[putM,if_pos hif,k4,if_neg hle]
      have hcs:=a5z (M:=M) (i:=id) h0 (by omega) (some key)
      rw[k4] at hcs
      simp at hcs
      rw[hpm]
      have hn:s1≠.nils:=qw.g1.nnil (by intro hx; rw[List.map_eq_nil_iff] at hx; rw[hx] at k2; simp at k2; omega)
      obtain ⟨w1,d1,d12,l1⟩:=qw.n1 hn
      have hq:=(List.getElem?_eq_some_iff.1 qw.row).1
      obtain ⟨hA,m1,m2,m3,m4⟩:=qw.g1.write (i:=gi a id) k1 (x:=encIt (gi xs (gi a id))) (by simp[a7_ k1 k2]) 1 1 (v:=I key) rfl (by omega) rfl
      have hset:(xs.map encIt).set (gi a id).toNat (setAll (encIt (gi xs (gi a id))) 1 (I key).cells)=(xs.set (gi a id).toNat (id,key)).map encIt:=by
       rw[List.map_set]
       congr 1
       simp only[encIt,p1_,setAll,List.set_cons_succ,List.set_cons_zero,k3]
      rw[hset] at m2
      have d2:=qw.d2
      have l2:=qw.l2
      have qA:QS W hA oq (xs.set (gi a id).toNat (id,key)) a:=⟨s1,s2,o1,o2,by rw[m3.get (by omega) hq]; exact qw.row,m2,fun _=>⟨w1,d1,d12,by omega⟩,qw.g2.fr m3 (by omega),qw.w2,qw.d2,by omega,qw.wq,by simp; exact qw.len,qw.lat⟩
      have rA:=r.lower (key:=key) h0 h1 k1
      have hlow:=hp.lower (p:=gi a id) (x:=(id,key)) k1 k2 (Int.le_refl _) (by unfold ltI; omega)
      have hls:(xs.set (gi a id).toNat (id,key)).length=xs.length:=by simp
      simp -implicitDefEqProofs (disch:=first|assumption|omega|exact Ext.refl _|(simp only[gL,gA]<;>omega)|fail) only[gC,reduceIte,qw.row,qw.g1.sl.idxG,qw.g1.sl.ldf,encIt,m1]
      refine WP.call (a8T (i:=gi a id) qA rA k1 (by rw[hls]; exact k2) (by rw[hls]; exact hlow.1) (by rw[hls]; exact hlow.2)) ?_
      rintro _ h3 ⟨xs3,at3,q3,r3,hp3,hl3,f3⟩
      refine WP.ret ⟨rfl,QV.mono (W:=W) ⟨oq,xs3,at3,rfl,q3,r3,hp3,by omega⟩ (fun o _ z=>.inl z),?_⟩
      exact (m3.s.mono fun o _ z=>by
       obtain rfl:o=o1:=by omega
       exact w1).trans f3
   obtain ⟨s1,s2,o1,o2,qw⟩:=qs
   simp -implicitDefEqProofs (disch:=first|assumption|omega|(simp only[gL,gA]<;>omega)|fail) only[gC,reduceIte,qw.row,qw.g2.sl.lenG]
   exact hgo
  ·have hpm:putM N M id key=(M,false):=by simp only[putM,if_neg (show ¬(0≤id∧id<(N:Int)) by omega)]
   rw[hpm]
   obtain ⟨s1,s2,o1,o2,qw⟩:=qs
   simp -implicitDefEqProofs (disch:=first|assumption|omega|(simp only[gL,gA]<;>omega)|fail) only[gC,reduceIte,qw.row,qw.g2.sl.lenG]
   exact WP.ret ⟨rfl,vv.mono hmono,FrS.refl _ _⟩
 ·have hpm:putM N M id key=(M,false):=by simp only[putM,if_neg (show ¬(0≤id∧id<(N:Int)) by omega)]
  rw[hpm]
  simp -implicitDefEqProofs (disch:=first|assumption|omega|(simp only[gL,gA]<;>omega)|fail) only[gC,reduceIte]
  exact WP.ret ⟨rfl,vv.mono hmono,FrS.refl _ _⟩
end
end Go.Gm.AQ
namespace Go.Gm.AQ
open Go Go.Gm
section
variable {W:Nat->Prop} {h h':Heap} {q:AV} {N:Nat} {M:List (Option Int)}
def PopQ (N:Nat)(M:List (Option Int))(r:AV)(M2:List (Option Int)):Prop:=
 (cnt M=0/\r=.tup [I 0,I 0,.bool false]/\M2=M)\/∃id key,IsMin N M id key/\r=.tup [I id,I key,.bool true]/\M2=M.set id.toNat none
theorem a3j {M:List (Option Int)}(h:cnt M=0){i:Int}(h0:0<=i)(h1:i<M.length):gi M i=none:=by
 rw[cnt,List.countP_eq_zero] at h
 have:=h _ (a4_ h0 h1)
 cases hx:gi M i with
 |none=>rfl
 |some k=>rw[hx] at this; simp at this
theorem PopQ.uniq {r r2:AV}{M2 M3:List (Option Int)}(hl:M.length=N)(a:PopQ N M r M2)(b:PopQ N M r2 M3):r=r2/\M2=M3:=by
 rcases a with ⟨a1,rfl,rfl⟩|⟨i,k,a1,rfl,rfl⟩
 ·rcases b with ⟨b1,rfl,rfl⟩|⟨i,k,b1,rfl,rfl⟩
  ·exact ⟨rfl,rfl⟩
  ·have:=a3j a1 b1.i0 (by have:=b1.i1; omega)
   rw[b1.k] at this; cases this
 ·rcases b with ⟨b1,rfl,rfl⟩|⟨i2,k2,b1,rfl,rfl⟩
  ·have:=a3j b1 a1.i0 (by have:=a1.i1; omega)
   rw[a1.k] at this; cases this
  ·obtain ⟨rfl,rfl⟩:=a1.uniq b1
   exact ⟨rfl,rfl⟩
theorem a8V (v:QV W h q N M)(hN:N<=1000000):Tot tab m1_ [q] h fun r h'=>∃M2,PopQ N M r M2/\QV W h' q N M2/\FrS W h h':=by
 have vv:=v
 obtain ⟨oq,xs,a,rfl,qs,r,hp,hc⟩:=v
 refine WP.tot (fun k=>a3L k _ h) ?_
 have hcl:=a8Q M
 have lm:=r.lm
 simp -implicitDefEqProofs (disch:=first|assumption|omega|(simp only[gL,gA]<;>omega)|fail) only[gC,reduceIte]
 refine WP.call (a3i qs) ?_
 rintro _ _ ⟨rfl,rfl⟩
 by_cases h0:xs.length=0
 ·simp -implicitDefEqProofs (disch:=first|assumption|omega|(simp only[gL,gA]<;>omega)|fail) only[gC,reduceIte]
  exact WP.ret ⟨M,.inl ⟨by omega,rfl,rfl⟩,vv,FrS.refl _ _⟩
 ·obtain ⟨n,hn⟩:∃n,xs.length=n+1:=⟨xs.length-1,by omega⟩
  simp -implicitDefEqProofs (disch:=first|assumption|omega|(simp only[gL,gA]<;>omega)|fail) only[gC,reduceIte]
  refine WP.call (a3O oq h) ?_
  rintro _ _ ⟨rfl,rfl⟩
  refine WP.call (a8S qs r hp hn) ?_
  rintro _ h2 ⟨rfl,xs2,at2,q2,r2,hp2,hl2,f2⟩
  have a0:=r.a 0 (by omega) (by omega)
  have hb:gi M (gi xs 0).1=some (gi xs 0).2:=by
   rcases r.b _ a0.1 a0.2.1 with z|z
   ·omega
   ·rw[z.2.2.2,a0.2.2]
  have hcs:=a5z (M:=M) (i:=(gi xs 0).1) a0.1 (by omega) none
  rw[hb] at hcs
  simp at hcs
  simp -implicitDefEqProofs (disch:=first|assumption|omega|(simp only[gL,gA]<;>omega)|fail) only[gC,reduceIte,a2m,b5_,b6_,encIt]
  refine WP.ret ⟨_,.inr ⟨(gi xs 0).1,(gi xs 0).2,⟨a0.1,a0.2.1,hb,fun id' k' i0 i1 hk=>?_⟩,rfl,rfl⟩,?_,f2.trans (FrS.ofExt (by ((repeat (first|exact Ext.refl _|assumption|apply Ext.app|apply Ext.mk|(refine Ext.setr ?_ (by (first|omega|(simp only[gL]<;>omega))) _))))))⟩
  ·rcases r.b id' i0 i1 with z|⟨z0,z1,z2,z3⟩
   ·rw[z.2] at hk; cases hk
   ·have:=hp.root (gi a id').toNat (gi a id') (by omega) z0 z1
    rw[z3] at hk
    injection hk with hk
    rw[<-z2,<-hk]
    exact this
  ·exact QV.ext ⟨oq,xs2,at2,rfl,q2,r2,hp2,by omega⟩ (by ((repeat (first|exact Ext.refl _|assumption|apply Ext.app|apply Ext.mk|(refine Ext.setr ?_ (by (first|omega|(simp only[gL]<;>omega))) _)))))
theorem a8W {q1:Nat}{s2:AV}:∀(d n:Nat) (h:Heap) (at':List Int),n+d=at'.length->at'.length<=1000000->(∀i:Int,0<=i->i<n->gi at' i = -1)->h[q1+1]?=some (.cells ⟨[.nils,s2],0,0,false⟩)->Gr q1 (q1+1) h 1 s2 (at'.map encI)->
  WP (fun p:Nat × Nat=>a0l p.1 p.2 (.ptr (q1+1) 0 2 0) (I at'.length) (I n) h) fun r h'=>r=.ptr (q1+1) 0 2 0/\h'.length=h.length/\FrS (fun o=>o=q1) h h'/\∃at2:List Int,at2.length=at'.length/\(∀i:Int,0<=i->i<at2.length->gi at2 i = -1)/\h'[q1+1]?=some (.cells ⟨[.nils,s2],0,0,false⟩)/\Gr q1 (q1+1) h' 1 s2 (at2.map encI):=by
 intro d
 induction d with
 |zero=>
  intro n h at' h1 hl ha row g
  refine WP.rnd (fun i' j=>a2k i' j (.ptr (q1+1) 0 2 0) (I at'.length) (I n) h) ?_
  simp -implicitDefEqProofs (disch:=first|assumption|omega|(simp only[gL,gA]<;>omega)|fail) only[gC,reduceIte]
  exact WP.ret ⟨rfl,rfl,FrS.refl _ _,at',rfl,fun i i0 i1=>ha i i0 (by omega),row,g⟩
 |succ d ih=>
  intro n h at' h1 hl ha row g
  refine WP.rnd (fun i' j=>a2k i' j (.ptr (q1+1) 0 2 0) (I at'.length) (I n) h) ?_
  have hq:=(List.getElem?_eq_some_iff.1 row).1
  obtain ⟨h2,k1,k2,k3,k4⟩:=g.write0 (i:=(n:Int)) (v:=I (-1)) (by omega) (by simp; omega) rfl rfl
  have row2:h2[q1+1]?=some (.cells ⟨[.nils,s2],0,0,false⟩):=by rw[k3.get (by omega) hq]; exact row
  have hll:(at'.set n (-1)).length=at'.length:=by simp
  have:=ih (n+1) h2 (at'.set n (-1)) (by rw[hll]; omega) (by rw[hll]; exact hl) (fun i i0 i1=>?_) row2 (k2.cong (by rw[List.map_set]; rfl))
  ·simp -implicitDefEqProofs (disch:=first|assumption|omega|(simp only[gL,gA]<;>omega)|fail) only[gC,reduceIte,row,g.sl.idxG,k1]
   rw[hll] at this
   refine this.mono ?_
   rintro r h3 ⟨a1,a2,a3,a4⟩
   exact ⟨a1,by omega,(k3.s.mono fun o _ z=>by omega).trans a3,a4⟩
  ·have:=k0_ (xs:=at') (i:=(n:Int)) (j:=i) (by omega) (by omega) i0 (-1)
   rw[Int.toNat_natCast] at this
   rw[this]
   split
   ·rfl
   ·exact ha i i0 (by omega)
theorem p6_ {α:Type}[Inhabited α]{n:Nat}{x:α}{i:Int}(h0:0<=i)(h1:i<n):gi (List.replicate n x) i=x:=by
 have:i.toNat<n:=by omega
 simp[gi,List.getD_eq_getElem?_getD,List.getElem?_replicate,this]
theorem b0g (n:Nat):cnt (List.replicate n (none:Option Int))=0:=by
 rw[cnt,List.countP_eq_zero]
 intro x hx
 rw[(List.mem_replicate.1 hx).2]; simp
theorem a5W (n:Nat)(hn:n<=1000000)(h:Heap):Tot tab y8_ [I n] h fun r h'=>QV (fun o=>h.length<=o) h' r n (List.replicate n none)/\Ext h h':=by
 refine WP.tot (fun k=>a6E k _ h) ?_
 have hmx:max (n:Int) 0=n:=by omega
 obtain ⟨s2,h1,k1,k2,k3,k4,k5⟩:=e7_ (zero:=[AV.int .i64 0]) (sz:=1) (bytes:=8) (n:=(n:Int)) h (by omega) (by omega) (by omega) rfl rfl
 have hre:List.replicate (n:Int).toNat [AV.int .i64 0]=(List.replicate n (0:Int)).map encI:=by
  rw[List.map_replicate]; rfl
 rw[hre] at k2
 obtain ⟨h2,hh2⟩:∃h2,h2=h1++[AObj.cells ⟨[.nils,s2],0,0,false⟩]:=⟨_,rfl⟩
 have e2:Ext h1 h2:=by rw[hh2]; ((repeat (first|exact Ext.refl _|assumption|apply Ext.app|apply Ext.mk|(refine Ext.setr ?_ (by (first|omega|(simp only[gL]<;>omega))) _))))
 have r2:h2[h1.length]?=some (.cells ⟨[.nils,s2],0,0,false⟩):=by rw[hh2]; simp
 have hl2:h2.length=h.length+2:=by rw[hh2]; simp; omega
 simp -implicitDefEqProofs (disch:=first|assumption|omega|(simp only[gL]<;>omega)|((repeat (first|exact Ext.refl _|assumption|apply Ext.app|apply Ext.mk|(refine Ext.setr ?_ (by (first|omega|(simp only[gL]<;>omega))) _))); done)|(simp only[gL,gA,hmx,k1,k2.sl.one,k2.sl.cells]<;>omega)|fail) only[gB,setAll,partL,fldV,reduceIte,Nat.reduceAdd,Nat.reduceMul,hmx,k1,k2.sl.one,k2.sl.cells]
 rw[<-hh2]
 have g2:=k2.ext e2
 rw[k5] at r2
 have hlr:((List.replicate n (0:Int)).length:Int)=n:=by simp
 have hnl:=a8W (q1:=h.length) n 0 h2 (List.replicate n 0) (by simp) (by simp; omega) (fun i i0 i1=>by omega) r2 g2
 rw[hlr] at hnl
 simp -implicitDefEqProofs (disch:=first|assumption|omega|(simp only[gL]<;>omega)|((repeat (first|exact Ext.refl _|assumption|apply Ext.app|apply Ext.mk|(refine Ext.setr ?_ (by (first|omega|(simp only[gL]<;>omega))) _))); done)|(simp only[gL,gA,r2,g2.sl.lenG,k5,hlr]<;>omega)|fail) only[gB,setAll,partL,fldV,reduceIte,Nat.reduceAdd,Nat.reduceMul,r2,g2.sl.lenG,k5,hlr]
 refine WP.ent (hnl.mono ?_) fun i=>rfl
 rintro r h3 ⟨rfl,hl3,f3,at2,hla,ha,row3,g3⟩
 simp only[List.length_replicate] at hla
 refine ⟨⟨h.length+1,[],at2,rfl,⟨.nils,s2,0,h.length,row3,.inl ⟨rfl,rfl⟩,fun q=>absurd rfl q,g3,Nat.le_refl _,by omega,by omega,Nat.le_add_right _ _,by simp,by omega⟩,⟨hla,by simp,fun i i0 i1=>by simp at i1; omega,fun id i0 i1=>.inl ⟨ha id i0 (by omega),p6_ i0 i1⟩⟩,fun i i0 i1=>by simp at i1; omega,by rw[b0g]; rfl⟩,f3.ext (k3.trans e2) (fun o q1 q2=>by omega)⟩
end
end Go.Gm.AQ
namespace Go.Gm.AQ
open Go Go.Gm
def SQ (P:Nat->Prop)(h:Heap)(q:AV)(N:Nat)(M:List (Option Int)):Prop:=∃W,(∀o,W o->P o/\o<h.length)/\QV W h q N M
section
variable {P:Nat->Prop} {hB h h':Heap} {q x:AV} {N:Nat} {M:List (Option Int)}
theorem QV.sq {W:Nat->Prop}(v:QV W h q N M)(hp:∀o,o<h.length->W o->P o):SQ P h q N M:=
 ⟨fun o=>W o/\o<h.length,fun o z=>⟨hp o z.2 z.1,z.2⟩,v.mono fun o z1 z2=>⟨z2,z1⟩⟩
theorem SQ.frs {D:Nat->Prop}(v:SQ P h q N M)(f:FrS D h h')(hd:∀o,o<h.length->P o->¬D o):SQ P h' q N M:=
 let ⟨W,h1,h2⟩:=v
 ⟨W,fun o z=>⟨(h1 o z).1,Nat.lt_of_lt_of_le (h1 o z).2 f.len⟩,h2.frs f fun o z1 z2=>hd o z1 (h1 o z2).1⟩
theorem SQ.ext (v:SQ P h q N M)(e:Ext h h'):SQ P h' q N M:=v.frs (D:=fun _=>False) (FrS.ofExt e) fun _ _ _ z=>z
theorem SQ.lm (v:SQ P h q N M):M.length=N:=let ⟨W,h1,h2⟩:=v; h2.lm
theorem SQ.put (v:SQ P h q N M)(hN:N<=1000000)(hp:∀o,h.length<=o->P o)(id key:Int):Tot tab e5_ [q,I id,I key] h fun r h'=>r=.bool (putM N M id key).2/\SQ P h' q N (putM N M id key).1/\FrS P h h':=by
 obtain ⟨W,h1,h2⟩:=v
 refine (a8U h2 hN id key).mono ?_
 rintro r h' ⟨a,b,c⟩
 exact ⟨a,b.sq fun o z1 z2=>by
  rcases z2 with z2|z2
  ·exact (h1 o z2).1
  ·exact hp o z2,c.mono fun o z1 z2=>(h1 o z2).1⟩
theorem SQ.pop (v:SQ P h q N M)(hN:N<=1000000):Tot tab m1_ [q] h fun r h'=>∃M2,PopQ N M r M2/\SQ P h' q N M2/\FrS P h h':=by
 obtain ⟨W,h1,h2⟩:=v
 refine (a8V h2 hN).mono ?_
 rintro r h' ⟨M2,a,b,c⟩
 exact ⟨M2,a,b.sq fun o z1 z2=>(h1 o z2).1,c.mono fun o z1 z2=>(h1 o z2).1⟩
theorem SQ.key (v:SQ P h q N M)(id:Int):Tot tab y5_ [q,I id] h fun r h'=>(r=match keyM N M id with|some k=>.tup [I k,.bool true]|none=>.tup [I 0,.bool false])/\h=h':=by
 obtain ⟨W,h1,h2⟩:=v
 exact a8R h2 id
end
end Go.Gm.AQ
namespace Go.Gm
theorem AV.beq_iff {a b:AV}:AV.beq a b=true↔a=b:=⟨AV.beq_eq,fun h=>h▸AV.beq_refl a⟩
instance:DecidableEq AV:=fun a b=>if h:AV.beq a b=true then isTrue (AV.beq_iff.1 h) else isFalse fun q=>h (AV.beq_iff.2 q)
structure ExM (k:Nat) (h h':Heap):Prop where
 len:h.length<=h'.length
 get:∀o,o≠k->o<h.length->h'[o]?=h[o]?
 isM:∃ks es es',h[k]?=some (.map ks es)/\h'[k]?=some (.map ks es')
section
variable {k:Nat} {h h' h'':Heap}
theorem ExM.lt (a:ExM k h h'):k<h.length:=by
 obtain ⟨_,_,_,e,_⟩:=a.isM
 exact (List.getElem?_eq_some_iff.1 e).1
theorem ExM.refl {ks:KS}{es:List (AV × AV)}(e:h[k]?=some (.map ks es)):ExM k h h:=⟨Nat.le_refl _,fun _ _ _=>rfl,ks,es,es,e,e⟩
theorem ExM.trans (a:ExM k h h')(b:ExM k h' h''):ExM k h h'':=by
 refine ⟨Nat.le_trans a.len b.len,fun o h1 h2=>(b.get o h1 (Nat.lt_of_lt_of_le h2 a.len)).trans (a.get o h1 h2),?_⟩
 obtain ⟨ks,es,es',e1,e2⟩:=a.isM
 obtain ⟨ks2,es2,es3,e3,e4⟩:=b.isM
 rw[e2] at e3
 injection e3 with e3
 injection e3 with e3 e5
 subst e3 e5
 exact ⟨ks,es,es3,e1,e4⟩
theorem ExM.ofExt {ks:KS}{es:List (AV × AV)}(e:h[k]?=some (.map ks es))(x:Ext h h'):ExM k h h':=
 ⟨x.len,fun o _ h2=>(a0x.1 x).2 o h2,ks,es,es,e,x.get e⟩
theorem ExM.ext (a:ExM k h h')(x:Ext h' h''):ExM k h h'':=by
 obtain ⟨ks,es,es',e1,e2⟩:=a.isM
 exact a.trans (ExM.ofExt e2 x)
theorem ExM.fr (a:ExM k h h'){lo hi:Nat}(f:Fr lo hi h' h'')(hl:h.length<=lo):ExM k h h'':=by
 have hk:=a.lt
 have hlen:=a.len
 refine ⟨Nat.le_trans a.len f.len,fun o h1 h2=>(f.get (by omega) (by omega)).trans (a.get o h1 h2),?_⟩
 obtain ⟨ks,es,es',e1,e2⟩:=a.isM
 exact ⟨ks,es,es',e1,(f.get (by omega) (by omega)).trans e2⟩
theorem ExM.put {ks:KS}{es:List (AV × AV)}(e:h[k]?=some (.map ks es))(es':List (AV × AV)):ExM k h (h.set k (.map ks es')):=by
 refine ⟨by simp,fun o h1 h2=>List.getElem?_set_ne (Ne.symm h1),ks,es,es',e,?_⟩
 rw[List.getElem?_set_self (List.getElem?_eq_some_iff.1 e).1]
theorem ExM.cells (a:ExM k h h'){o:Nat}{c:CObj}(e:h[o]?=some (.cells c)):h'[o]?=some (.cells c):=by
 have:o≠k:=by
  rintro rfl
  obtain ⟨_,_,_,e1,_⟩:=a.isM
  rw[e] at e1; cases e1
 exact (a.get o this (List.getElem?_eq_some_iff.1 e).1).trans e
end
theorem Sl.fr {lo hi:Nat}{h h':Heap}{sz:Nat}{s:AV}{xs:List (List AV)}(a:Sl h sz s xs)(f:Fr lo hi h h')(hd:s≠.nils->s.obj<lo\/hi<=s.obj):Sl h' sz s xs:=by
 rcases a with a|⟨o,off,lim,g,c,rfl,h2,h3⟩
 ·exact .inl a
 ·exact .inr ⟨o,off,lim,g,c,rfl,(f.get (hd (by simp)) (List.getElem?_eq_some_iff.1 h2).1).trans h2,h3⟩
theorem Sl.objLt {h:Heap}{sz:Nat}{s:AV}{xs:List (List AV)}(a:Sl h sz s xs)(hs:s≠.nils):s.obj<h.length:=by
 rcases a with a|⟨o,off,lim,g,c,rfl,h2,h3⟩
 ·exact absurd a.1 hs
 ·exact (List.getElem?_eq_some_iff.1 h2).1
theorem Sl.nnil {h:Heap}{sz:Nat}{s:AV}{xs:List (List AV)}(a:Sl h sz s xs)(hx:xs≠[]):s≠.nils:=by
 rcases a with a|⟨o,off,lim,g,c,rfl,h2,h3⟩
 ·exact absurd a.2 hx
 ·simp
theorem Gr.objIn {lo hi:Nat}{h:Heap}{sz:Nat}{s:AV}{xs:List (List AV)}(a:Gr lo hi h sz s xs)(hs:s≠.nils):lo<=s.obj/\s.obj<hi:=by
 rcases a with a|⟨o,g,wg,cs,h1,h2,rfl,_⟩
 ·exact absurd a.1 hs
 ·exact ⟨h1,h2⟩
end Go.Gm
namespace Go.Gm
inductive Nd where
 |set (s:Nat)|emp|eps|join (l:List Nd)|uni (l:List Nd)|star (n:Nd)|plus (n:Nd)|opt (n:Nd)|rep (lo hi:Nat) (n:Nd)
 deriving Inhabited
namespace Nd
def kids:Nd->List Nd
 |.join l|.uni l=>l
 |.star n|.plus n|.opt n|.rep _ _ n=>[n]
 |.set _|.emp|.eps=>[]
def kind:Nd->Int
 |.set _=>1|.emp=>2|.eps=>3|.join _=>4|.uni _=>5|.star _=>6|.plus _=>7|.opt _=>8|.rep ..=>9
def st:Nd->Nat
 |.set s=>s
 |_=>0
def lo:Nd->Nat
 |.rep lo _ _=>lo
 |_=>0
def hi:Nd->Nat
 |.rep _ hi _=>hi
 |_=>0
theorem kid_lt {c n:Nd}(h:c∈n.kids):SizeOf.sizeOf c<SizeOf.sizeOf n:=by
 cases n with
 |join l=>have:=List.sizeOf_lt_of_mem (show c∈l from h); simp only[Nd.join.sizeOf_spec]; omega
 |uni l=>have:=List.sizeOf_lt_of_mem (show c∈l from h); simp only[Nd.uni.sizeOf_spec]; omega
 |star n=>simp only[kids,List.mem_singleton] at h; subst h; simp only[Nd.star.sizeOf_spec]; omega
 |plus n=>simp only[kids,List.mem_singleton] at h; subst h; simp only[Nd.plus.sizeOf_spec]; omega
 |opt n=>simp only[kids,List.mem_singleton] at h; subst h; simp only[Nd.opt.sizeOf_spec]; omega
 |rep a b n=>simp only[kids,List.mem_singleton] at h; subst h; simp only[Nd.rep.sizeOf_spec]; omega
 |_=>simp[kids] at h
theorem ind {p:Nd->Prop}(h:∀n,(∀c∈n.kids,p c)->p n)(n:Nd):p n:=by
 have:∀(N:Nat) (n:Nd),SizeOf.sizeOf n<=N->p n:=by
  intro N
  induction N with
  |zero=>intro n hn; exact h n fun c hc=>by have:=kid_lt hc; omega
  |succ N ih=>intro n hn; exact h n fun c hc=>ih c (by have:=kid_lt hc; omega)
 exact this _ n (Nat.le_refl _)
end Nd
inductive Star (r:Nat->Nat->Prop):Nat->Nat->Prop
 |refl (i:Nat):Star r i i
 |tail {i m j:Nat}:Star r i m->r m j->Star r i j
def Pow (r:Nat->Nat->Prop):Nat->Nat->Nat->Prop
 |0,i,j=>i=j
 |t+1,i,j=>∃m,Pow r t i m/\r m j
section
variable {r:Nat->Nat->Prop}
theorem Star.one {i j:Nat}(h:r i j):Star r i j:=.tail (.refl _) h
theorem Star.trans {i m j:Nat}(a:Star r i m)(b:Star r m j):Star r i j:=by
 induction b with
 |refl=>exact a
 |tail _ h ih=>exact .tail ih h
theorem Star.head {i m j:Nat}(a:r i m)(b:Star r m j):Star r i j:=(Star.one a).trans b
theorem Star.inv {P:Nat->Prop}(hP:∀i j,P i->r i j->P j){i j:Nat}(a:Star r i j)(h:P i):P j:=by
 induction a with
 |refl=>exact h
 |tail _ k ih=>exact hP _ _ ih k
theorem Pow.star:∀{t i j:Nat},Pow r t i j->Star r i j
 |0,i,j,h=>by cases h; exact .refl _
 |t+1,i,j,⟨m,h,k⟩=>.tail (Pow.star h) k
theorem Pow.add {s:Nat}{i m:Nat}(a:Pow r s i m):∀{t j:Nat},Pow r t m j->Pow r (s+t) i j
 |0,j,h=>by cases h; exact a
 |t+1,j,⟨p,h,k⟩=>⟨p,Pow.add a h,k⟩
theorem Pow.split:∀{t s i j:Nat},Pow r (s+t) i j->∃m,Pow r s i m/\Pow r t m j
 |0,s,i,j,h=>⟨j,h,rfl⟩
 |t+1,s,i,j,⟨p,h,k⟩=>by
  obtain ⟨m,h1,h2⟩:=Pow.split (t:=t) h
  exact ⟨m,h1,p,h2,k⟩
theorem Pow.one {i j:Nat}:Pow r 1 i j↔r i j:=⟨fun ⟨m,h,k⟩=>by cases h; exact k,fun h=>⟨i,rfl,h⟩⟩
end
def hit (w:List Int)(s i:Nat):Prop:=∃c,w[i]?=some c/\0<=c/\c<5/\s.testBit c.toNat=true
mutual
def R (w:List Int):Nd->Nat->Nat->Prop
 |.set s=>fun i j=>hit w s i/\j=i+1
 |.emp=>fun _ _=>False
 |.eps=>fun i j=>i=j
 |.join l=>RJ w l
 |.uni l=>RU w l
 |.star n=>Star (R w n)
 |.plus n=>fun i j=>∃m,R w n i m/\Star (R w n) m j
 |.opt n=>fun i j=>i=j\/R w n i j
 |.rep lo hi n=>fun i j=>∃t,lo<=t/\t<=hi/\Pow (R w n) t i j
def RJ (w:List Int):List Nd->Nat->Nat->Prop
 |[]=>fun i j=>i=j
 |n::l=>fun i j=>∃m,R w n i m/\RJ w l m j
def RU (w:List Int):List Nd->Nat->Nat->Prop
 |[]=>fun _ _=>False
 |n::l=>fun i j=>R w n i j\/RU w l i j
end
section
variable {w:List Int}
end
def Is (w:List Int)(bs:List Bool)(P:Nat->Prop):Prop:=bs.length=w.length+1/\∀j,bs.getD j false=true↔P j
theorem Is.cong {w:List Int}{bs:List Bool}{P Q:Nat->Prop}(a:Is w bs P)(h:∀j,P j↔Q j):Is w bs Q:=⟨a.1,fun j=>(a.2 j).trans (h j)⟩
theorem Is.le {w:List Int}{bs:List Bool}{P:Nat->Prop}(a:Is w bs P){j:Nat}(h:P j):j<=w.length:=by
 have h2:=(a.2 j).2 h
 by_cases hj:j<bs.length
 ·have:=a.1; omega
 ·rw[List.getD_eq_getElem?_getD,List.getElem?_eq_none (by omega)] at h2
  cases h2
def In (n:Nd)(w:List Int):Prop:=R w n 0 w.length
theorem Is.none {w:List Int}:Is w (List.replicate (w.length+1) false) fun _=>False:=by
 refine ⟨by simp,fun j=>?_⟩
 rw[List.getD_eq_getElem?_getD,List.getElem?_replicate]
 split<;>simp
theorem Is.set {w:List Int}{bs:List Bool}{P:Nat->Prop}(a:Is w bs P){i:Nat}(h:i<=w.length):Is w (bs.set i true) fun j=>j=i\/P j:=by
 refine ⟨by simp[a.1],fun j=>?_⟩
 have h2:=a.2 j
 rw[List.getD_eq_getElem?_getD] at h2 ⊢
 by_cases hj:j=i
 ·subst hj; rw[List.getElem?_set_self (by have:=a.1; omega)]; simp
 ·rw[List.getElem?_set_ne (Ne.symm hj),h2]; simp[hj]
end Go.Gm
namespace Go.Gm.AQ
open Go Go.Gm
mutual
inductive NV (h:Heap):Nd->List AV->Prop
 |mk {n:Nd} {s:AV} {css:List (List AV)}:Sl h 5 s css->NVs h n.kids css->NV h n [I n.kind,I n.st,I n.lo,I n.hi,s]
inductive NVs (h:Heap):List Nd->List (List AV)->Prop
 |nil:NVs h [] []
 |cons {n:Nd} {cs:List AV} {l:List Nd} {css:List (List AV)}:NV h n cs->NVs h l css->NVs h (n::l) (cs::css)
end
structure Keeps (h h':Heap):Prop where
 cells:∀(o:Nat) (c:CObj),h[o]?=some (.cells c)->h'[o]?=some (.cells c)
theorem Keeps.ofExt {h h':Heap}(e:Ext h h'):Keeps h h':=⟨fun _ _ q=>e.get q⟩
theorem Keeps.sl {h h':Heap}(e:Keeps h h'){sz:Nat}{s:AV}{xs:List (List AV)}(a:Sl h sz s xs):Sl h' sz s xs:=by
 rcases a with a|⟨o,off,lim,g,c,h1,h2,h3⟩
 ·exact .inl a
 ·exact .inr ⟨o,off,lim,g,c,h1,e.cells _ _ h2,h3⟩
theorem NVs.length {h:Heap}:∀{l:List Nd} {css:List (List AV)},NVs h l css->l.length=css.length
 |_,_,.nil=>rfl
 |_,_,.cons _ b=>by simp[NVs.length b]
theorem NVs.get {h:Heap}:∀{l:List Nd} {css:List (List AV)},NVs h l css->∀{i:Nat} {n:Nd},l[i]?=some n->∃cs,css[i]?=some cs/\NV h n cs
 |_,_,.nil,i,n,q=>by simp at q
 |_,_,.cons a b,0,n,q=>by
  simp only[List.getElem?_cons_zero,Option.some.injEq] at q
  subst q; exact ⟨_,rfl,a⟩
 |_,_,.cons a b,i+1,n,q=>by
  obtain ⟨cs,h1,h2⟩:=NVs.get b (i:=i) (by simpa using q)
  exact ⟨cs,by simpa using h1,h2⟩
theorem NVs.snoc {h:Heap}{n:Nd}{cs:List AV}(a:NV h n cs):∀{l:List Nd} {css:List (List AV)},NVs h l css->NVs h (l++[n]) (css++[cs])
 |_,_,.nil=>.cons a .nil
 |_,_,.cons x y=>.cons x (NVs.snoc a y)
theorem NV.len {h:Heap}{n:Nd}{cs:List AV}(a:NV h n cs):cs.length=5:=by cases a; rfl
theorem NV.one {h:Heap}{n:Nd}{cs:List AV}(a:NV h n cs):cs.all AV.one=true:=by
 cases a with
 |mk a b=>simp only[List.all_cons,List.all_nil,a1A,a.one,Bool.and_self]
theorem NV.inv {h:Heap}{n:Nd}{cs:List AV}(a:NV h n cs):∃s css,cs=[I n.kind,I n.st,I n.lo,I n.hi,s]/\Sl h 5 s css/\NVs h n.kids css:=by
 cases a with
 |mk a b=>exact ⟨_,_,rfl,a,b⟩
theorem Gr.appQ {o:Nat}{h:Heap}{sz bytes:Nat}{s x:AV}{xs ys:List (List AV)}(a:Gr o (o+1) h sz s xs)(ho:s≠.nils->o<h.length)(b:Sl h sz x ys)(hsz:0<sz)(hb:0<bytes)(hl:(xs.length+ys.length)*bytes<=140737488355328) :
  ∃s' h' o',apnd sz bytes s x h=some (s',h')/\Gr o' (o'+1) h' sz s' (xs++ys)/\(s'≠.nils->((o'=o/\s≠.nils)\/h.length<=o')/\o'<h'.length)/\FrS (fun p=>s≠.nils/\p=o) h h'/\(s≠.nils->o'=o):=by
 by_cases hn:s=.nils
 ·obtain ⟨s',h',o',k1,k2,k3,k4⟩:=a.appP ho b hsz hb hl
  exact ⟨s',h',o',k1,k2,k3,k4,fun q=>absurd hn q⟩
 ·have ho':=ho hn
  obtain ⟨s',h',k1,k2,k3,k4⟩:=a.appendS b hsz hb hl (by omega) (by omega)
  have:=k3.len
  exact ⟨s',h',o,k1,(k4 hn).1,fun q=>⟨.inl ⟨rfl,hn⟩,by omega⟩,k3.s.mono fun p _ q=>⟨hn,by omega⟩,fun _=>rfl⟩
theorem Sl.frs {D:Nat->Prop}{h h':Heap}{sz:Nat}{s:AV}{xs:List (List AV)}(a:Sl h sz s xs)(f:FrS D h h')(hd:s≠.nils->¬D s.obj):Sl h' sz s xs:=by
 rcases a with a|⟨o,off,lim,g,c,rfl,h2,h3⟩
 ·exact .inl a
 ·exact .inr ⟨o,off,lim,g,c,rfl,(f.get (hd (by simp)) (List.getElem?_eq_some_iff.1 h2).1).trans h2,h3⟩
theorem Gr.frs' {o:Nat}{h h':Heap}{sz:Nat}{s:AV}{xs:List (List AV)}(a:Gr o (o+1) h sz s xs){D:Nat->Prop}(f:FrS D h h')(hd:s≠.nils->¬D o):Gr o (o+1) h' sz s xs:=by
 by_cases hs:s=.nils
 ·subst hs
  have:=a.isNil
  subst this
  exact Gr.nil ..
 ·exact a.frs f fun p q1 q2=>by
   have:p=o:=by omega
   subst this; exact hd hs
mutual
inductive NVD (h:Heap) (D:Nat->Prop):Nd->List AV->Prop
 |mk {n:Nd} {s:AV} {css:List (List AV)}:Sl h 5 s css->(s≠.nils->D s.obj)->NVDs h D n.kids css->NVD h D n [I n.kind,I n.st,I n.lo,I n.hi,s]
inductive NVDs (h:Heap) (D:Nat->Prop):List Nd->List (List AV)->Prop
 |nil:NVDs h D [] []
 |cons {n:Nd} {cs:List AV} {l:List Nd} {css:List (List AV)}:NVD h D n cs->NVDs h D l css->NVDs h D (n::l) (cs::css)
end
mutual
theorem NVD.nv {h:Heap} {D:Nat->Prop}:∀{n:Nd} {cs:List AV},NVD h D n cs->NV h n cs
 |_,_,.mk a _ b=>.mk a (NVDs.nvs b)
theorem NVDs.nvs {h:Heap} {D:Nat->Prop}:∀{l:List Nd} {css:List (List AV)},NVDs h D l css->NVs h l css
 |_,_,.nil=>.nil
 |_,_,.cons a b=>.cons (NVD.nv a) (NVDs.nvs b)
end
mutual
theorem NVD.frs {h h':Heap} {D D' E:Nat->Prop} (f:FrS E h h') (h1:∀o,o<h.length->D o->¬E o) (h2:∀o,o<h.length->D o->D' o):∀{n:Nd} {cs:List AV},NVD h D n cs->NVD h' D' n cs
 |_,_,.mk a d b=>.mk (Sl.frs a f fun q=>h1 _ (a.objLt q) (d q)) (fun q=>h2 _ (a.objLt q) (d q)) (NVDs.frs f h1 h2 b)
theorem NVDs.frs {h h':Heap} {D D' E:Nat->Prop} (f:FrS E h h') (h1:∀o,o<h.length->D o->¬E o) (h2:∀o,o<h.length->D o->D' o):∀{l:List Nd} {css:List (List AV)},NVDs h D l css->NVDs h' D' l css
 |_,_,.nil=>.nil
 |_,_,.cons a b=>.cons (NVD.frs f h1 h2 a) (NVDs.frs f h1 h2 b)
end
theorem NVDs.snoc {h:Heap}{D:Nat->Prop}{n:Nd}{cs:List AV}(a:NVD h D n cs):∀{l:List Nd} {css:List (List AV)},NVDs h D l css->NVDs h D (l++[n]) (css++[cs])
 |_,_,.nil=>.cons a .nil
 |_,_,.cons x y=>.cons x (NVDs.snoc a y)
theorem NVD.ext {h h':Heap}{D D':Nat->Prop}(e:Ext h h')(h2:∀o,o<h.length->D o->D' o){n:Nd}{cs:List AV}(a:NVD h D n cs):NVD h' D' n cs:=a.frs (E:=fun _=>False) (FrS.ofExt e) (fun _ _ _ q=>q) h2
theorem NVD.inv {h:Heap}{D:Nat->Prop}{n:Nd}{cs:List AV}(a:NVD h D n cs):∃s,cs=[I n.kind,I n.st,I n.lo,I n.hi,s]/\s.one=true:=by
 cases a with
 |mk a b c=>exact ⟨_,rfl,a.one⟩
theorem FrS.set1 (h:Heap)(o:Nat)(x:AObj):FrS (fun p=>p=o) h (h.set o x):=⟨by simp,fun p h1 _=>List.getElem?_set_ne (fun q=>h1 q.symm)⟩
theorem NVD.len {h:Heap}{D:Nat->Prop}{n:Nd}{cs:List AV}(a:NVD h D n cs):cs.length=5:=a.nv.len
theorem NVD.one {h:Heap}{D:Nat->Prop}{n:Nd}{cs:List AV}(a:NVD h D n cs):cs.all AV.one=true:=a.nv.one
theorem NVDs.len {h:Heap}{D:Nat->Prop}{l:List Nd}{css:List (List AV)}(a:NVDs h D l css):l.length=css.length:=a.nvs.length
structure NB (Hb H:Heap) (q:List AV) (s:AV) (lg:Nat) (l:List Nd) (css:List (List AV)):Prop where
 ext:Ext Hb H
 no:Hb.length<H.length
 row:H[Hb.length]?=some (.cells ⟨q++[s],0,0,false⟩)
 gr:Gr lg (lg+1) H 5 s css
 lgl:s≠.nils->Hb.length<lg/\lg<H.length
 nvs:NVDs H (fun o=>Hb.length<o/\o<H.length/\¬(s≠.nils/\o=lg)) l css
theorem NB.new (Hb:Heap)(q:List AV):NB Hb (Hb++[.cells ⟨q++[.nils],0,0,false⟩]) q .nils 0 [] [] where
 ext:=Ext.push _ _
 no:=by simp
 row:=by simp
 gr:=Gr.nil ..
 lgl q:=absurd rfl q
 nvs:=.nil
section
variable {Hb H:Heap} {q:List AV} {s:AV} {lg:Nat} {l:List Nd} {css:List (List AV)}
theorem NB.at (a:NB Hb H q s lg l css)(hq:q.length=4):At H (.ptr Hb.length 0 5 0) (q++[s]):=At.row a.row (Nat.le_refl _) (by simp[hq])
theorem NB.extH {H':Heap}(a:NB Hb H q s lg l css)(e:Ext H H'):NB Hb H' q s lg l css where
 ext:=a.ext.trans e
 no:=Nat.lt_of_lt_of_le a.no e.len
 row:=e.get a.row
 gr:=a.gr.ext e
 lgl q:=⟨(a.lgl q).1,Nat.lt_of_lt_of_le (a.lgl q).2 e.len⟩
 nvs:=a.nvs.frs (E:=fun _=>False) (FrS.ofExt e) (fun _ _ _ q=>q) fun o h1 h2=>⟨h2.1,Nat.lt_of_lt_of_le h1 e.len,h2.2.2⟩
theorem NB.add (a:NB Hb H q s lg l css)(hq:q.length=4){H1:Heap}(e:Ext H H1){n:Nd}{c5:List AV}(nv:NVD H1 (fun o=>H.length<=o/\o<H1.length) n c5)(hl:css.length<=1000) :
  ∃s' H3,apnd 5 56 s (.sl H1.length 0 1 5 none 0) (mkObj H1 c5)=some (s',H3)/\s'.one=true/\s'.cells=[s']/\H3[Hb.length]?=some (.cells ⟨q++[s],0,0,false⟩)/\∃lg',NB Hb (H3.set Hb.length (.cells ⟨q++[s'],0,0,false⟩)) q s' lg' (l++[n]) (css++[c5]):=by
 have a1:=a.extH e
 have e3:Ext H1 (mkObj H1 c5):=Ext.push H1 _
 have a3:=a1.extH e3
 have hl3:(mkObj H1 c5).length=H1.length+1:=by simp[mkObj]
 have hH:=a.no
 have hH1:=e.len
 obtain ⟨s',H3,lg',m1,m2,m3,m4,m5⟩:=Gr.appQ (bytes:=56) a3.gr (fun q=>(a3.lgl q).2) (Gr.lit (sz:=5) (v:=c5) nv.len).sl (by omega) (by omega) (by simp; omega)
 have hlen:=m4.len
 have hnn:s≠.nils->Hb.length≠lg:=fun q1 q2=>by have:=(a.lgl q1).1; omega
 have hrow:H3[Hb.length]?=some (.cells ⟨q++[s],0,0,false⟩):=(m4.get (fun z=>hnn z.1 z.2) (by omega)).trans a3.row
 refine ⟨s',H3,m1,m2.sl.one,m2.sl.cells,hrow,lg',?_⟩
 have hs':s'≠.nils:=m2.nnil (by simp)
 have hlg':Hb.length<lg':=by
  rcases (m3 hs').1 with ⟨q1,q2⟩|q1
  ·rw[q1]; exact (a.lgl q2).1
  ·omega
 have f:FrS (fun o=>o=Hb.length\/(s≠.nils/\o=lg)) (mkObj H1 c5) (H3.set Hb.length (.cells ⟨q++[s'],0,0,false⟩)):=by
  refine ⟨by simp; omega,fun o h1 h2=>?_⟩
  rw[List.getElem?_set_ne (fun z=>h1 (.inl z.symm)),m4.get (fun z=>h1 (.inr z)) h2]
 have hold:∀o,o<H1.length+1->o=lg'->s≠.nils/\o=lg:=by
  intro o h1 h2
  rcases (m3 hs').1 with ⟨q1,q2⟩|q1
  ·exact ⟨q2,h2.trans q1⟩
  ·omega
 refine ⟨?_,by simp; omega,by rw[List.getElem?_set_self (by omega)],?_,fun _=>⟨hlg',by simp; exact (m3 hs').2⟩,?_⟩
 ·exact f.ext a3.ext fun o h1 h2=>by
   rcases h2 with h2|⟨h2,h4⟩
   ·omega
   ·have:=(a.lgl h2).1; omega
 ·exact (m2.set (by omega) _)
 ·have hl4:(H3.set Hb.length (.cells ⟨q++[s'],0,0,false⟩)).length=H3.length:=by simp
  refine NVDs.snoc (n:=n) (cs:=c5) ?_ ?_
  ·refine (nv.ext e3 (D':=fun o=>H.length<=o/\o<H1.length) fun _ _ z=>z).frs f (fun o h1 h2 h3=>?_) fun o h1 h2=>⟨by omega,by rw[hl4]; omega,fun z=>?_⟩
   ·rcases h3 with h3|⟨h3,h4⟩
    ·omega
    ·have:=(a.lgl h3).2; omega
   ·have z2:=hold o (by omega) z.2
    have:=(a.lgl z2.1).2; omega
  ·refine a3.nvs.frs f (fun o h1 h2 h3=>?_) fun o h1 h2=>⟨h2.1,by rw[hl4]; omega,fun z=>?_⟩
   ·rcases h3 with h3|h3
    ·omega
    ·exact h2.2.2 h3
   ·exact h2.2.2 (hold o (by omega) z.2)
theorem NB.cong {css':List (List AV)}{l':List Nd}(a:NB Hb H q s lg l css)(e:l=l'):NB Hb H q s lg l' css:=e▸a
theorem NB.done (a:NB Hb H q s lg l css){n:Nd}(hq:q=[I n.kind,I n.st,I n.lo,I n.hi])(hl:n.kids=l):NVD H (fun o=>Hb.length<o/\o<H.length) n (q++[s]):=by
 subst hq hl
 exact .mk a.gr.sl (fun z=>by have h1:=a.gr.objIn z; have h2:=a.lgl z; omega) (a.nvs.frs (FrS.refl (fun _=>False) _) (fun _ _ _ z=>z) fun o _ z=>⟨z.1,z.2.1⟩)
end
end Go.Gm.AQ
namespace Go.Gm
structure NS where
 n:Nat
 much:Bool
 st:List (Nat × Nat × Nat)
 fr:List (Nat × Nat)
namespace NS
def new:NS:=⟨0,false,[],[]⟩
def state (b:NS):Nat × NS:=if 1000<=b.n then (0,⟨b.n,true,b.st,b.fr⟩) else (b.n,⟨b.n+1,b.much,b.st,b.fr⟩)
def frees (b:NS)(l:List (Nat × Nat)):NS:=⟨b.n,b.much,b.st,b.fr++l⟩
def step (b:NS)(s e k:Nat):NS:=⟨b.n,b.much,b.st++[(s,e,k)],b.fr⟩
def repE (lo e:Nat):Nat->List (Nat × Nat)->List (Nat × Nat)
 |_,[]=>[]
 |_,[ft]=>[(ft.2,e)]
 |i,ft::gt::r=>(if lo<=i+1 then [(ft.2,e)] else [])++(ft.2,gt.1)::repE lo e (i+1) (gt::r)
def joinE:List (Nat × Nat)->List (Nat × Nat)
 |ft::gt::r=>(ft.2,gt.1)::joinE (gt::r)
 |_=>[]
def uniE (s e:Nat)(l:List (Nat × Nat)):List (Nat × Nat):=l.flatMap fun ft=>[(s,ft.1),(ft.2,e)]
def hd (l:List (Nat × Nat)):Nat × Nat:=l.headD (0,0)
def lead (b:NS)(s e:Nat)(l:List (Nat × Nat)):Nd->NS
 |.set k=>b.step s e k
 |.eps=>b.frees [(s,e)]
 |.uni _=>b.frees (uniE s e l)
 |.star _=>b.frees [(s,(hd l).1),(s,e),((hd l).2,(hd l).1),((hd l).2,e)]
 |.plus _=>b.frees [(s,(hd l).1),((hd l).2,(hd l).1),((hd l).2,e)]
 |.opt _=>b.frees [(s,(hd l).1),(s,e),((hd l).2,e)]
 |.rep lo hi _=>b.frees ((if 0<hi then [(s,(hd l).1)] else [])++repE lo e 0 l++if lo=0 then [(s,e)] else [])
 |.emp=>b
 |.join _=>b
def times (g:NS->(Nat × Nat) × NS):Nat->NS->List (Nat × Nat) × NS
 |0,b=>([],b)
 |k+1,b=>if b.much then ([],b) else ((g b).1::(times g k (g b).2).1,(times g k (g b).2).2)
def around (n:Nd)(p:NS->List (Nat × Nat) × NS)(b:NS):(Nat × Nat) × NS:=
 if b.much then ((0,0),b) else
 let s:=b.state
 let l:=p s.2
 let e:=l.2.state
 ((s.1,e.1),if e.2.much then e.2 else e.2.lead s.1 e.1 l.1 n)
def joined (p:NS->List (Nat × Nat) × NS)(b:NS):(Nat × Nat) × NS:=
 if b.much then ((0,0),b) else
 let l:=p b
 if l.2.much then ((0,0),l.2) else (((hd l.1).1,(l.1.getLastD (0,0)).2),l.2.frees (joinE l.1))
mutual
def part:Nd->NS->(Nat × Nat) × NS
 |.join l=>joined (parts l)
 |.uni l=>around (.uni l) (parts l)
 |.star n=>around (.star n) (times (part n) 1)
 |.plus n=>around (.plus n) (times (part n) 1)
 |.opt n=>around (.opt n) (times (part n) 1)
 |.rep lo hi n=>around (.rep lo hi n) (times (part n) hi)
 |.set k=>around (.set k) (fun b=>([],b))
 |.eps=>around .eps (fun b=>([],b))
 |.emp=>around .emp (fun b=>([],b))
def parts:List Nd->NS->List (Nat × Nat) × NS
 |[],b=>([],b)
 |n::l,b=>if b.much then ([],b) else ((part n b).1::(parts l (part n b).2).1,(parts l (part n b).2).2)
end
end NS
structure NF where
 n:Nat
 s:Nat
 e:Nat
 st:List (Nat × Nat × Nat)
 fr:List (Nat × Nat)
def RtN:Nd->Prop
 |.set s=>1<=s/\s<=31
 |.emp|.eps=>True
 |.join l=>2<=l.length
 |.uni l=>2<=l.length
 |.star _|.plus _|.opt _=>True
 |.rep a b _=>a<=b/\b<=9
inductive Gd:Nd->Prop
 |mk {n:Nd}:RtN n->(∀c∈n.kids,Gd c)->Gd n
theorem Gd.rt {n:Nd}(g:Gd n):RtN n:=by cases g; assumption
end Go.Gm
namespace Go.Gm
structure Sz (b b':NS) (k:Nat):Prop where
 n:b.n<=b'.n
 fr:b'.fr.length+k<=b.fr.length+2*(b'.n-b.n)
 st:b'.st.length<=b.st.length+(b'.n-b.n)
 top:b.n<=1000->b'.n<=1000
theorem Sz.refl (b:NS):Sz b b 0:=⟨Nat.le_refl _,by omega,by omega,id⟩
theorem Sz.trans {a b c:NS}{k l:Nat}(x:Sz a b k)(y:Sz b c l):Sz a c (k+l):=by
 have:=x.n; have:=x.fr; have:=x.st; have:=y.n; have:=y.fr; have:=y.st
 exact ⟨by omega,by omega,by omega,fun z=>y.top (x.top z)⟩
theorem Sz.le {b b':NS}{k l:Nat}(x:Sz b b' k)(h:l<=k):Sz b b' l:=⟨x.n,by have:=x.fr; omega,x.st,x.top⟩
structure NSok (b:NS):Prop where
 n:b.n<=1000
 fr:b.fr.length<=2*b.n
 st:b.st.length<=b.n
theorem NSok.new:NSok NS.new:=⟨by simp[NS.new],by simp[NS.new],by simp[NS.new]⟩
theorem NSok.sz {b b':NS}{k:Nat}(o:NSok b)(s:Sz b b' k):NSok b':=by
 have:=o.fr; have:=o.st; have:=s.n; have:=s.fr; have:=s.st
 exact ⟨s.top o.n,by omega,by omega⟩
end Go.Gm
namespace Go.Gm.AQ
open Go Go.Gm
def encS (x:Nat × Nat × Nat):List AV:=[I x.1,I x.2.1,I x.2.2]
def encF (x:Nat × Nat):List AV:=[I x.1,I x.2]
def encN' (n:Nat):List AV:=[I n]
def BV (W:Nat->Prop)(h:Heap)(ob:Nat)(b:NS):Prop:=
 ∃(sS sF:AV) (oS oF:Nat),h[ob]?=some (.cells ⟨[I b.n,I 0,I 0,sS,sF,.bool b.much],0,0,false⟩)/\Gr oS (oS+1) h 3 sS (b.st.map encS)/\Gr oF (oF+1) h 2 sF (b.fr.map encF)/\W ob/\
  (sS≠.nils->W oS/\oS<h.length/\oS≠ob)/\(sF≠.nils->W oF/\oF<h.length/\oF≠ob/\(sS≠.nils->oF≠oS))
section
variable {W:Nat->Prop} {h h':Heap} {ob:Nat} {b:NS}
theorem BV.lt (v:BV W h ob b):ob<h.length/\W ob:=by
 obtain ⟨sS,sF,oS,oF,h1,_,_,h4,_⟩:=v
 exact ⟨(List.getElem?_eq_some_iff.1 h1).1,h4⟩
theorem a0o {D:Nat->Prop}{lo sz:Nat}{s:AV}{xs:List (List AV)}(g:Gr lo (lo+1) h sz s xs)(f:FrS D h h')(hd:s≠.nils->¬D lo):Gr lo (lo+1) h' sz s xs:=by
 by_cases q:s=.nils
 ·subst q
  have:=g.isNil
  subst this
  exact Gr.nil ..
 ·exact g.frs f fun o q1 q2=>by rw[show o=lo by omega]; exact hd q
theorem BV.frs (v:BV W h ob b){D:Nat->Prop}(f:FrS D h h')(hd:∀o,o<h.length->W o->¬D o):BV W h' ob b:=by
 have ⟨l1,l2⟩:=v.lt
 have l:=f.len
 obtain ⟨sS,sF,oS,oF,h1,h2,h3,h4,h5,h6⟩:=v
 refine ⟨sS,sF,oS,oF,by rw[f.get (hd _ l1 l2) l1]; exact h1,a0o h2 f fun z=>hd _ (h5 z).2.1 (h5 z).1,a0o h3 f fun z=>hd _ (h6 z).2.1 (h6 z).1,h4,fun z=>?_,fun z=>?_⟩
 ·have:=h5 z; exact ⟨this.1,by omega,this.2.2⟩
 ·have:=h6 z; exact ⟨this.1,by omega,this.2.2⟩
theorem BV.ext (v:BV W h ob b)(e:Ext h h'):BV W h' ob b:=v.frs (D:=fun _=>False) (FrS.ofExt e) fun _ _ _ z=>z
theorem BV.mono (v:BV W h ob b){W':Nat->Prop}(hw:∀o,o<h.length->W o->W' o):BV W' h ob b:=by
 have ⟨l1,l2⟩:=v.lt
 obtain ⟨sS,sF,oS,oF,h1,h2,h3,h4,h5,h6⟩:=v
 exact ⟨sS,sF,oS,oF,h1,h2,h3,hw _ l1 l2,fun z=>⟨hw _ (h5 z).2.1 (h5 z).1,(h5 z).2⟩,fun z=>⟨hw _ (h6 z).2.1 (h6 z).1,(h6 z).2⟩⟩
def Wn (W:Nat->Prop)(h h':Heap):Nat->Prop:=fun o=>W o\/(h.length<=o/\o<h'.length)
theorem a7U (v:BV W h ob b)(hl:b.fr.length<=1000000)(x y:Nat):Tot tab k1_ [.ptr ob 0 6 0,I x,I y] h fun r h'=>r=.tup []/\BV (Wn W h h') h' ob (b.frees [(x,y)])/\FrS W h h':=by
 refine WP.tot (fun k=>a0s k _ _ _ h) ?_
 have ⟨l1,l2⟩:=v.lt
 obtain ⟨sS,sF,oS,oF,h1,h2,h3,h4,h5,h6⟩:=v
 have lit:=Gr.lit (h:=h) (sz:=2) (v:=encF (x,y)) rfl
 have e1:Ext h (mkObj h (encF (x,y))):=Ext.push _ _
 rw[a1_] at lit e1
 obtain ⟨s',h',o',q1,q2,q3,q4,q5⟩:=Gr.appQ (bytes:=16) (h3.ext e1) (fun z=>by have:=h6 z; simp; omega) lit.sl (by omega) (by omega) (by simp; omega)
 have f:=(FrS.ofExt (D:=fun p=>sF≠.nils/\p=oF) e1).trans q4
 have hl2:=f.len
 have hll:(h++[AObj.cells ⟨encF (x,y),0,0,false⟩]).length=h.length+1:=by simp
 have ro:=(f.get (o:=ob) (fun z=>(h6 z.1).2.2.1 z.2.symm) l1).trans h1
 have bo:=(List.getElem?_eq_some_iff.1 ro).1
 have o1:=q2.sl.one
 have o2:=q2.sl.cells
 simp only[encF] at q1
 simp -implicitDefEqProofs (disch:=first|assumption|omega|(simp only[gL,gA]<;>omega)|fail) only[gC,reduceIte,h1,q1,ro,o1,o2]
 have fs:∀y,FrS (fun p=>p=ob) h' (h'.set ob y):=fun y=>⟨by simp,fun p p1 p2=>a5_ fun z=>p1 z.symm⟩
 have q3':s'≠.nils->(W o'\/(h.length<=o'/\o'<h'.length))/\o'<h'.length/\o'≠ob/\(sS≠.nils->o'≠oS):=fun z=>by
  obtain ⟨z1,z2⟩:=q3 z
  rcases z1 with ⟨rfl,z3⟩|z1
  ·have:=h6 z3
   exact ⟨.inl this.1,z2,this.2.2⟩
  ·refine ⟨.inr ⟨by omega,z2⟩,z2,by omega,fun z4=>?_⟩
   have:=h5 z4; omega
 have gS:=a0o h2 f fun z1 z2=>(h6 z2.1).2.2.2 z1 z2.2.symm
 refine WP.ret ⟨rfl,⟨sS,s',oS,o',a0_ bo,a0o gS (fs _) fun z=>(h5 z).2.2,a0o (q2.cong ?_) (fs _) fun z=>(q3' z).2.2.1,.inl h4,fun z=>⟨.inl (h5 z).1,by have:=(h5 z).2.1; simp; omega,(h5 z).2.2⟩,fun z=>⟨by simpa [Wn] using (q3' z).1,by simpa using (q3' z).2.1,(q3' z).2.2⟩⟩,⟨by simp; omega,fun p p1 p2=>?_⟩⟩
 ·simp[NS.frees,encF]
 ·rw[a5_ (o:=ob) (p:=p) (fun z=>p1 (by rw[<-z]; exact l2)),f.get (o:=p) (fun z=>p1 (by rw[z.2]; exact (h6 z.1).1)) p2]
def FQ (W:Nat->Prop)(h:Heap)(ob:Nat)(b:NS)(l:List (Nat × Nat))(h':Heap):Prop:=BV (Wn W h h') h' ob (b.frees l)/\FrS W h h'
theorem Wn.step {h1 h2:Heap}(l1:h.length<=h1.length)(l2:h1.length<=h2.length):∀o,Wn (Wn W h h1) h1 h2 o->Wn W h h2 o:=by
 intro o z
 rcases z with (z|z)|z
 ·exact .inl z
 ·exact .inr ⟨z.1,by omega⟩
 ·exact .inr ⟨by omega,z.2⟩
theorem FrS.wn {h1 h2:Heap}(f1:FrS W h h1)(f2:FrS (Wn W h h1) h1 h2):FrS W h h2:=
 ⟨Nat.le_trans f1.1 f2.1,fun o o1 o2=>(f2.get (fun z=>by
  rcases z with z|z
  ·exact o1 z
  ·omega) (Nat.lt_of_lt_of_le o2 f1.1)).trans (f1.get o1 o2)⟩
end
end Go.Gm.AQ
namespace Go.Gm.AQ
open Go Go.Gm
section
variable {W:Nat->Prop} {h h':Heap} {ob:Nat} {b:NS}
theorem a8X (b:NS):b.frees []=b:=by cases b; simp[NS.frees]
theorem a8Y (b:NS)(x y:List (Nat × Nat)):(b.frees x).frees y=b.frees (x++y):=by simp[NS.frees]
theorem FQ.zero (v:BV W h ob b):FQ W h ob b [] h:=⟨by rw[a8X]; exact v.mono fun o _ z=>.inl z,FrS.refl _ _⟩
theorem FQ.free {l:List (Nat × Nat)}{h1:Heap}(q:FQ W h ob b l h1)(hl:b.fr.length+l.length<=1000000)(x y:Nat):Tot tab k1_ [.ptr ob 0 6 0,I x,I y] h1 fun r h2=>r=.tup []/\FQ W h ob b (l++[(x,y)]) h2:=by
 refine (a7U q.1 (by simp[NS.frees]; exact hl) x y).mono ?_
 rintro _ h2 ⟨rfl,v,f⟩
 rw[a8Y] at v
 exact ⟨rfl,v.mono fun o _ z=>Wn.step q.2.len f.len o z,FrS.wn q.2 f⟩
structure FT (W:Nat->Prop) (h:Heap) (sf st:AV) (ft:List (Nat × Nat)):Prop where
 f:Sl h 1 sf ((ft.map (·.1)).map encN')
 t:Sl h 1 st ((ft.map (·.2)).map encN')
 nf:sf≠.nils->¬W sf.obj
 nt:st≠.nils->¬W st.obj
theorem FT.frs {sf st:AV}{ft:List (Nat × Nat)}(a:FT W h sf st ft)(f:FrS W h h'):FT W h' sf st ft:=⟨Sl.frs a.f f a.nf,Sl.frs a.t f a.nt,a.nf,a.nt⟩
theorem FT.ext {sf st:AV}{ft:List (Nat × Nat)}(a:FT W h sf st ft)(e:Ext h h'):FT W h' sf st ft:=⟨a.f.ext e,a.t.ext e,a.nf,a.nt⟩
end
end Go.Gm.AQ
namespace Go.Gm.AQ
open Go Go.Gm
section
variable {W:Nat->Prop} {h h':Heap} {ob:Nat} {b:NS}
theorem FT.box {sf st:AV}{ft:List (Nat × Nat)}(a:FT W h sf st ft)(x:AObj):FT W (h++[x]) sf st ft:=a.ext (Ext.push _ _)
theorem FQ.out {l:List (Nat × Nat)}{h2 h3:Heap}(e:Ext h h2)(q:FQ W h2 ob b l h3):BV (Wn W h h3) h3 ob (b.frees l)/\FrS W h h3:=
 ⟨q.1.mono fun o _ z=>z.elim .inl fun z=>.inr ⟨by have:=e.len; omega,z.2⟩,(FrS.ofExt e).trans (q.2.mono fun o _ z=>z)⟩
end
end Go.Gm.AQ
namespace Go.Gm.AQ
open Go Go.Gm
structure PLs (h0 hE h:Heap) (W0 W:Nat->Prop) (ob o3:Nat) (b:NS) (c5:List AV) (sf st:AV) (oA oB:Nat) (ft:List (Nat × Nat)):Prop where
 e0:Ext h0 h
 le:h0.length<=hE.length
 fr:FrS W0 hE h
 wl:∀o,W o->h0.length<=o/\o<h.length
 w0:∀o,W o->W0 o\/hE.length<=o
 bv:BV W h ob b
 n3:¬W o3
 r3:h[o3]?=some (.cells ⟨c5,0,0,false⟩)
 l3:hE.length<=o3
 gA:Gr oA (oA+1) h 1 sf ((ft.map (·.1)).map encN')
 gB:Gr oB (oB+1) h 1 st ((ft.map (·.2)).map encN')
 nA:sf≠.nils->¬W oA/\oA<h.length/\oA≠o3/\hE.length<=oA
 nB:st≠.nils->¬W oB/\oB<h.length/\oB≠o3/\hE.length<=oB/\(sf≠.nils->oB≠oA)
section
variable {h0 hE h h':Heap} {W0 W:Nat->Prop} {ob o3:Nat} {b b1:NS} {c5:List AV} {sf st:AV} {oA oB:Nat} {ft:List (Nat × Nat)}
theorem PLs.ext (p:PLs h0 hE h W0 W ob o3 b c5 sf st oA oB ft)(e:Ext h h'):PLs h0 hE h' W0 W ob o3 b c5 sf st oA oB ft:=by
 have l:=e.len
 refine ⟨p.e0.trans e,p.le,p.fr.trans (FrS.ofExt e),fun o z=>by have:=p.wl o z; omega,p.w0,p.bv.ext e,p.n3,e.get p.r3,p.l3,p.gA.ext e,p.gB.ext e,fun z=>?_,fun z=>?_⟩
 ·have:=p.nA z; exact ⟨this.1,by omega,this.2.2⟩
 ·have:=p.nB z; exact ⟨this.1,by omega,this.2.2⟩
theorem PLs.call (p:PLs h0 hE h W0 W ob o3 b c5 sf st oA oB ft)(f:FrS W h h')(v:BV (Wn W h h') h' ob b1):PLs h0 hE h' W0 (Wn W h h') ob o3 b1 c5 sf st oA oB ft:=by
 have l:=f.len
 have l3:=(List.getElem?_eq_some_iff.1 p.r3).1
 have le:=p.le
 have lE:=p.fr.len
 refine ⟨f.ext p.e0 fun o z1 z2=>by have:=p.wl o z2; omega,p.le,⟨Nat.le_trans p.fr.1 f.1,fun o z1 z2=>(f.get (fun z=>?_) (by omega)).trans (p.fr.get z1 z2)⟩,fun o z=>?_,fun o z=>?_,v,fun z=>?_,by rw[f.get p.n3 l3]; exact p.r3,p.l3,a0o p.gA f fun z=>(p.nA z).1,a0o p.gB f fun z=>(p.nB z).1,fun z=>?_,fun z=>?_⟩
 ·rcases p.w0 o z with z|z
  ·exact z1 z
  ·omega
 ·rcases z with z|z
  ·have:=p.wl o z; omega
  ·omega
 ·rcases z with z|z
  ·exact p.w0 o z
  ·exact .inr (by omega)
 ·rcases z with z|z
  ·exact p.n3 z
  ·omega
 ·have:=p.nA z
  refine ⟨fun y=>?_,by omega,this.2.2⟩
  rcases y with y|y
  ·exact this.1 y
  ·omega
 ·have:=p.nB z
  refine ⟨fun y=>?_,by omega,this.2.2⟩
  rcases y with y|y
  ·exact this.1 y
  ·omega
theorem PLs.add (p:PLs h0 hE h W0 W ob o3 b c5 sf st oA oB ft)(x:Nat × Nat)(hl:ft.length<=100000) :
  ∃s1 h2 s2 h3 oA' oB',apnd 1 8 sf (.sl h.length 0 1 1 none 0) (h++[AObj.cells ⟨[I x.1],0,0,false⟩])=some (s1,h2)/\apnd 1 8 st (.sl h2.length 0 1 1 none 0) (h2++[AObj.cells ⟨[I x.2],0,0,false⟩])=some (s2,h3)/\PLs h0 hE h3 W0 W ob o3 b c5 s1 s2 oA' oB' (ft++[x]):=by
 have l3:=(List.getElem?_eq_some_iff.1 p.r3).1
 have le:=p.le
 have lE:=p.fr.len
 have litA:=Gr.lit (h:=h) (sz:=1) (v:=encN' x.1) rfl
 have e1:Ext h (mkObj h (encN' x.1)):=Ext.push _ _
 rw[a1_] at litA e1
 have hl1:(h++[AObj.cells ⟨encN' x.1,0,0,false⟩]).length=h.length+1:=by simp
 obtain ⟨s1,h2,oA',a1,a2,a3,a4,a5⟩:=Gr.appQ (bytes:=8) (p.gA.ext e1) (fun z=>by have:=p.nA z; omega) litA.sl (by omega) (by omega) (by simp; omega)
 have f1:=(FrS.ofExt (D:=fun q=>sf≠.nils/\q=oA) e1).trans a4
 have l2:=f1.len
 have l12:=a4.len
 have gB1:=a0o p.gB f1 fun z1 z2=>(p.nB z1).2.2.2.2 z2.1 z2.2
 have v1:=p.bv.frs f1 fun o z1 z2 z3=>(p.nA z3.1).1 (z3.2▸z2)
 have A':s1≠.nils->((oA'=oA/\sf≠.nils)\/h.length<=oA')/\oA'<h2.length:=fun z=>by
  obtain ⟨z1,z2⟩:=a3 z
  exact ⟨z1.imp id fun z=>by omega,z2⟩
 have litB:=Gr.lit (h:=h2) (sz:=1) (v:=encN' x.2) rfl
 have e2:Ext h2 (mkObj h2 (encN' x.2)):=Ext.push _ _
 rw[a1_] at litB e2
 have hl2:(h2++[AObj.cells ⟨encN' x.2,0,0,false⟩]).length=h2.length+1:=by simp
 obtain ⟨s2,h3,oB',b1,b2,b3,b4,b5⟩:=Gr.appQ (bytes:=8) (gB1.ext e2) (fun z=>by have:=p.nB z; omega) litB.sl (by omega) (by omega) (by simp; omega)
 have f2:=(FrS.ofExt (D:=fun q=>st≠.nils/\q=oB) e2).trans b4
 have l3':=f2.len
 have l23:=b4.len
 have B':s2≠.nils->((oB'=oB/\st≠.nils)\/h2.length<=oB')/\oB'<h3.length:=fun z=>by
  obtain ⟨z1,z2⟩:=b3 z
  exact ⟨z1.imp id fun z=>by omega,z2⟩
 have gA2:=a0o (a2.cong (show _=((ft++[x]).map (·.1)).map encN' by simp)) f2 fun z1 z2=>by
  rcases (A' z1).1 with ⟨y1,y2⟩|y
  ·exact (p.nB z2.1).2.2.2.2 y2 (by rw[<-y1]; exact z2.2.symm)
  ·have:=p.nB z2.1; omega
 have v2:=v1.frs f2 fun o z1 z2 z3=>(p.nB z3.1).1 (z3.2▸z2)
 have F:FrS (fun q=>(sf≠.nils/\q=oA)\/(st≠.nils/\q=oB)) h h3:=(f1.mono fun o _ z=>.inl z).trans (f2.mono fun o _ z=>.inr z)
 have hF3:¬((sf≠.nils/\o3=oA)\/(st≠.nils/\o3=oB)):=fun z=>by
  rcases z with z|z
  ·have:=p.nA z.1; omega
  ·have:=p.nB z.1; omega
 refine ⟨s1,h2,s2,h3,oA',oB',a1,b1,⟨F.ext p.e0 fun o z1 z2=>?_,p.le,⟨by omega,fun o z1 z2=>(F.get (fun z=>?_) (by omega)).trans (p.fr.get z1 z2)⟩,fun o z=>by have:=p.wl o z; omega,p.w0,v2,p.n3,by rw[F.get hF3 l3]; exact p.r3,p.l3,gA2,b2.cong (by simp),fun z=>?_,fun z=>?_⟩⟩
 ·rcases z2 with z2|z2
  ·have:=p.nA z2.1; omega
  ·have:=p.nB z2.1; omega
 ·rcases z with z|z
  ·have:=p.nA z.1; omega
  ·have:=p.nB z.1; omega
 ·obtain ⟨z1,z2⟩:=A' z
  rcases z1 with ⟨y1,y2⟩|y
  ·have:=p.nA y2
   rw[y1]; exact ⟨this.1,by omega,this.2.2⟩
  ·exact ⟨fun w=>by have:=p.wl _ w; omega,by omega,by omega,by omega⟩
 ·obtain ⟨z1,z2⟩:=B' z
  rcases z1 with ⟨y1,y2⟩|y
  ·have h6:=p.nB y2
   rw[y1]
   refine ⟨h6.1,by omega,h6.2.2.1,h6.2.2.2.1,fun w=>?_⟩
   rcases (A' w).1 with ⟨x1,x2⟩|x1
   ·rw[x1]; exact h6.2.2.2.2 x2
   ·omega
  ·refine ⟨fun w=>by have:=p.wl _ w; omega,by omega,by omega,by omega,fun w=>?_⟩
   have:=(A' w).2; omega
end
structure KidsV (h0:Heap) (n:Nd) (c5:List AV) (sL:AV) (css:List (List AV)):Prop where
 c:c5=[I n.kind,I n.st,I n.lo,I n.hi,sL]
 sl:Sl h0 5 sL (css.map id)
 nv:NVs h0 n.kids css
theorem KidsV.get {h0:Heap}{n c:Nd}{c5:List AV}{sL:AV}{css:List (List AV)}(k:KidsV h0 n c5 sL css){i:Nat}(hi:n.kids[i]?=some c):∃cc,gi css (i:Int)=cc/\NV h0 c cc/\i<css.length:=by
 obtain ⟨cc,h1,h2⟩:=NVs.get k.nv hi
 have:=(List.getElem?_eq_some_iff.1 h1).1
 refine ⟨cc,?_,h2,this⟩
 rw[h8_ this]
 rw[List.getElem?_eq_getElem this] at h1
 injection h1
section
variable {h0 hE:Heap} {W0:Nat->Prop} {ob o3:Nat} {c5:List AV} {n:Nd} {sL:AV} {css:List (List AV)}
end
end Go.Gm.AQ
namespace Go.Gm.AQ
open Go Go.Gm
inductive Bd:Nd->Prop
 |mk {n:Nd}:n.st<2 ^ 62->n.kids.length<=1000->(∀c∈n.kids,Bd c)->Bd n
theorem Bd.len {n:Nd}(g:Bd n):n.kids.length<=1000:=by cases g; assumption
section
variable {h0 h:Heap} {W:Nat->Prop} {ob:Nat} {b:NS} {c5:List AV} {n:Nd}
end
end Go.Gm.AQ
namespace Go.Gm.AQ
open Go Go.Gm
section
variable {h0 hE:Heap} {W0:Nat->Prop} {ob o3:Nat} {c5:List AV} {l:List Nd} {sL:AV} {css:List (List AV)}
end
end Go.Gm.AQ
