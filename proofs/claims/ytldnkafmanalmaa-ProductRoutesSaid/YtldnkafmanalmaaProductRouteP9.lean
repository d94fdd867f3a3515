/- A part of the proof (GmAQBV, GmAQCA, GmAQCB, GmPt, GmAQCC, GmAQCD, GmPu, GmAQCE, GmAQCF, GmAQCG, GmAQsa, GmAQsb). -/
import Derived.Test.YtldnkafmanalmaaProductRouteP8
set_option linter.unusedVariables false
set_option linter.unusedSimpArgs false
set_option linter.unusedSectionVars false
namespace Go.Gm.AQ
open Go Go.Gm
theorem a3I {c:Nat->Int}{acc:List Bool}{b:Nat}:∀n,(bv c acc b n = -1/\∀q:Nat,q<n->gi acc (q:Int)=true->c (b+q)<0)\/
  (∃q:Nat,q<n/\gi acc (q:Int)=true/\0<=c (b+q)/\bv c acc b n=c (b+q)/\∀q':Nat,q'<n->gi acc (q':Int)=true->0<=c (b+q')->bv c acc b n<=c (b+q'))
 |0=>.inl ⟨rfl,fun q h=>by omega⟩
 |n+1=>by
  by_cases t:gi acc n=true/\0<=c (b+n)/\(bv c acc b n<0\/c (b+n)<bv c acc b n)
  ·have e:bv c acc b (n+1)=c (b+n):=if_pos t
   refine .inr ⟨n,by omega,t.1,t.2.1,e,fun q hq h1 h2=>?_⟩
   rw[e]
   by_cases hn:q=n
   ·subst hn; omega
   ·rcases a3I (c:=c) (acc:=acc) (b:=b) n with ⟨k1,k2⟩|⟨q',k1,k2,k3,k4,k5⟩
    ·have:=k2 q (by omega) h1
     omega
    ·have:=k5 q (by omega) h1 h2
     omega
  ·have e:bv c acc b (n+1)=bv c acc b n:=if_neg t
   rcases a3I (c:=c) (acc:=acc) (b:=b) n with ⟨k1,k2⟩|⟨q',k1,k2,k3,k4,k5⟩
   ·refine .inl ⟨by rw[e]; exact k1,fun q hq h1=>?_⟩
    by_cases hn:q=n
    ·subst hn
     exact Classical.byContradiction fun z=>t ⟨h1,by omega,.inl (by omega)⟩
    ·exact k2 q (by omega) h1
   ·refine .inr ⟨q',by omega,k2,k3,by rw[e]; exact k4,fun q hq h1 h2=>?_⟩
    rw[e]
    by_cases hn:q=n
    ·subst hn
     exact Classical.byContradiction fun z=>t ⟨h1,h2,.inr (by omega)⟩
    ·exact k5 q (by omega) h1 h2
theorem a7y {c:Nat->Int}:∀n,un n c=n->∀x:Nat,x<n->c x<0
 |0,_=>fun x hx=>by omega
 |n+1,h=>by
  have h1:=un_le n c
  have h2:un (n+1) c=un n c+if c n<0 then 1 else 0:=rfl
  intro x hx
  by_cases q:c n<0
  ·rw[if_pos q] at h2
   by_cases hn:x=n
   ·subst hn; exact q
   ·exact a7y n (by omega) x (by omega)
  ·rw[if_neg q] at h2
   omega
def endsL (acc:List Bool)(u:Int)(n:Nat):List (Int × Int):=((List.range n).filter fun (q:Nat)=>gi acc (q:Int)).map fun (q:Nat)=>(u,(q:Int))
theorem a7i (acc:List Bool)(u:Int)(n:Nat):endsL acc u (n+1)=endsL acc u n++if gi acc (n:Int)=true then [(u,(n:Int))] else []:=by
 simp only[endsL,List.range_succ,List.filter_append,List.map_append]
 congr 1
 by_cases q:gi acc (n:Int)=true
 ·simp[List.filter,q]
 ·simp[List.filter,q]
theorem a5T {acc:List Bool}{u:Int}{n:Nat}{a:Int × Int}:a∈endsL acc u n↔∃q:Nat,q<n/\gi acc (q:Int)=true/\a=(u,(q:Int)):=by
 simp only[endsL,List.mem_map,List.mem_filter,List.mem_range]
 constructor
 ·rintro ⟨q,⟨h1,h2⟩,rfl⟩; exact ⟨q,h1,h2,rfl⟩
 ·rintro ⟨q,h1,h2,rfl⟩; exact ⟨q,⟨h1,h2⟩,rfl⟩
theorem a7W (acc:List Bool)(u:Int)(n:Nat):(endsL acc u n).length<=n:=by
 simp only[endsL,List.length_map]
 exact Nat.le_trans (List.length_filter_le ..) (by simp)
theorem a6i {acc:List Bool}{S u:Nat}{x:Nat}:atSt S (endsL acc (u:Int) S) x↔∃q:Nat,q<S/\gi acc (q:Int)=true/\x=u*S+q:=by
 constructor
 ·rintro ⟨a,h1,h2⟩
  obtain ⟨q,k1,k2,rfl⟩:=a5T.1 h1
  refine ⟨q,k1,k2,?_⟩
  simp only at h2
  rw[<-Int.natCast_mul] at h2
  omega
 ·rintro ⟨q,k1,k2,rfl⟩
  refine ⟨_,a5T.2 ⟨q,k1,k2,rfl⟩,?_⟩
  simp only
  rw[<-Int.natCast_mul]
  omega
section
variable {h0:Heap} {N:Nat} {es:List E} {D:List (List Int)} {acc:List Bool}
theorem b4q {h:Heap}{g en:AV}{n u ot os1:Nat}{W1:Nat->Prop}{st:Nat->Prop}{c1:Nat->Int}{m1:Nat->Option Int}{Q:AV->Heap->Prop}(gv:GV h0 g N es D acc)(ok:DOk D acc)(no:NetOk N es)(co:COk es)(hN:N<=100000)(hn:n=N*D.length)(hn2:n<=1000000)(hl:es.length*D.length<=10000000)(hu:u<N)(hst:∀x,st x->x<n)(e0:Ext h0 h)(s1:SB W1 h os1 g c9_ n (hopA es D.length (onL es D)) st c1 m1 0)(k1:LsOk n m1 0)(hc1:∀x,x<n->c1 x<0)(p1:∀o,W1 o->h0.length<=o/\o<ot)(hot:h0.length<=ot)(rt:h[ot]?=some (.cells ⟨[.ptr os1 0 7 0],0,0,false⟩))(hen:Sl h 2 en ((endsL acc u D.length).map encP2))(hQ:∀h' L,Ext h0 h'->Snd (hopA es D.length (onL es D)) st (atSt D.length (endsL acc u D.length)) L->(∀z l v,atSt D.length (endsL acc u D.length) z->Wk (hopA es D.length (onL es D)) st z l v->0<=L/\L<=v)->Q (.tup [I (max L 0),.bool (decide (0<=L))]) h') :
  WP (fun i:Nat=>a1K i g (.ptr ot 0 1 0) en h) Q:=by
 refine WP.congr (fun i:Nat=>a5H i g (.ptr ot 0 1 0) en h) ?_
 have hl1:=ok.l1
 have hel:=a7W acc u D.length
 refine WP.call (a3l (n:=n) (gv.ext e0) ok hN hn hn2 hen (fun a z=>?_) (by omega) (hopA es D.length (backL es D))) ?_
 ·obtain ⟨q,q1,q2,rfl⟩:=a5T.1 z
  exact ⟨by show (0:Int)<=u; omega,by show (u:Int)<N; omega,by show (0:Int)<=q; omega,by show (q:Int)<D.length; omega⟩
 rintro _ h2 ⟨e2,os2,q,sc,se,sf,oc,oe,ov,cs,ds,fs,M,rfl,w2,d2,u2⟩
 have l0:=e0.len
 have l2:=e2.len
 have lot:=(List.getElem?_eq_some_iff.1 rt).1
 have rt2:=e2.get rt
 obtain ⟨h3,hh3⟩:∃h3,h3=h2++[AObj.cells ⟨[AV.ptr os2 0 7 0],0,0,false⟩]:=⟨_,rfl⟩
 obtain ⟨h4,hh4⟩:∃h4,h4=h3++[AObj.cells ⟨[I (-1)],0,0,false⟩]:=⟨_,rfl⟩
 obtain ⟨h5,hh5⟩:∃h5,h5=h4++[AObj.cells ⟨[AV.ptr os1 0 7 0,AV.ptr os2 0 7 0],0,0,false⟩]:=⟨_,rfl⟩
 have e3:Ext h2 h3:=by rw[hh3]; exact Ext.push _ _
 have e4:Ext h3 h4:=by rw[hh4]; exact Ext.push _ _
 have e5:Ext h4 h5:=by rw[hh5]; exact Ext.push _ _
 have l3:h3.length=h2.length+1:=by rw[hh3]; simp
 have l4:h4.length=h2.length+2:=by rw[hh4]; simp; omega
 have l5:h5.length=h2.length+3:=by rw[hh5]; simp; omega
 have s5:((((h2++[AObj.cells ⟨[AV.nilp],0,0,false⟩]).set h2.length (AObj.cells ⟨[AV.ptr os2 0 7 0],0,0,false⟩))++[AObj.cells ⟨[AV.int .i64 0],0,0,false⟩]).set (h2.length+1) (AObj.cells ⟨[AV.int .i64 (-1)],0,0,false⟩)++[AObj.cells ⟨[AV.nilp,AV.nilp],0,0,false⟩]).set (h2.length+1+1) (AObj.cells ⟨[AV.ptr os1 0 7 0,AV.ptr os2 0 7 0],0,0,false⟩)=h5:=by
  rw[hh5,hh4,hh3]; simp[I]; rw[List.set_append_right _ _ (by omega),show h2.length+1+1-h2.length=2 by omega]; rfl
 have rb3:h3[h2.length]?=some (.cells ⟨[AV.ptr os2 0 7 0],0,0,false⟩):=by rw[hh3]; simp
 have rl4:h4[h2.length+1]?=some (.cells ⟨[I (-1)],0,0,false⟩):=by rw[<-l3,hh4]; simp
 have rz5:h5[h2.length+1+1]?=some (.cells ⟨[AV.ptr os1 0 7 0,AV.ptr os2 0 7 0],0,0,false⟩):=by rw[<-l4,hh5]; simp
 have rt4:=(e3.trans e4).get rt2
 have rb4:=e4.get rb3
 simp -implicitDefEqProofs (disch:=first|assumption|omega|(simp only[gL,gA]<;>omega)|fail) only[gC,reduceIte,rt2]
 rw[s5]
 have e25:=(e3.trans e4).trans e5
 have hg1:=(a4P gv ok no)
 have hg2:=(b1N gv ok no hl)
 have hst2:∀x,atSt D.length (endsL acc u D.length) x->x<n:=fun x z=>by
  obtain ⟨q,q1,q2,rfl⟩:=a6i.1 z
  have:=spotN (S:=D.length) hu q1
  omega
 have hc2:=a7y n (c:=Gm.AQ.gf cs) (by simpa using u2)
 have sb:SB (fun o=>h.length<=o/\o<h2.length) h2 os2 g e5_ n (hopA es D.length (backL es D)) (atSt D.length (endsL acc u D.length)) (Gm.AQ.gf cs) (Gm.AQ.gf M) 0:=
  SB.mono ⟨q,sc,se,sf,oc,oe,ov,cs,ds,fs,M,0,0,fun _=>0,w2,d2,u2,rfl,rfl⟩ fun o z1 z2=>⟨z2,z1⟩
 refine WP.ent (b4p (ot:=ot) (ob:=h2.length) (ol:=h2.length+1) (oz:=h2.length+1+1) gv ok co hN hn hn2 hg1 hg2 (hn▸b4n ok no) hst hst2 ⟨hot,by omega,by omega,by omega⟩ hQ ((un n c1+un n (Gm.AQ.gf cs)).toNat+1) W1 (fun o=>h.length<=o/\o<h2.length) c1 (Gm.AQ.gf cs) m1 (Gm.AQ.gf M) 0 0 (-1) h5 0 (by omega) (.inl rfl) ⟨(e0.trans e2).trans e25,(s1.frs (D:=fun _=>False) (FrS.ofExt (e2.trans e25)) fun _ _ _ z=>z),(sb.frs (D:=fun _=>False) (FrS.ofExt e25) fun _ _ _ z=>z),k1,⟨Int.le_refl _,by omega,fun x hx v hv=>(d2.que x hx v hv).2.1⟩,⟨e5.get rt4,e5.get rb4,e5.get rl4,rz5,by omega,by omega,by omega⟩,.inl rfl,⟨fun x hx z=>?_,fun x hx z=>?_,fun x y e w hx _ z=>?_⟩,fun o z=>?_,fun o z=>?_,fun o z1 z2=>?_⟩) fun i=>rfl
 ·have:=hc1 x hx; omega
 ·have:=hc2 x hx; omega
 ·have:=hc1 x hx; omega
 ·have:=p1 o z; omega
 ·omega
 ·have:=p1 o z1; omega
theorem b4r {hb:Heap}{g tA:AV}{n u ot os1:Nat}{W1:Nat->Prop}{st:Nat->Prop}{c1:Nat->Int}{m1:Nat->Option Int}{Q:AV->Heap->Prop}(gv:GV h0 g N es D acc)(ok:DOk D acc)(no:NetOk N es)(co:COk es)(hN:N<=100000)(hn:n=N*D.length)(hn2:n<=1000000)(hl:es.length*D.length<=10000000)(hu:u<N)(hst:∀x,st x->x<n)(e0:Ext h0 hb)(s1:SB W1 hb os1 g c9_ n (hopA es D.length (onL es D)) st c1 m1 0)(k1:LsOk n m1 0)(hc1:∀x,x<n->c1 x<0)(p1:∀o,W1 o->h0.length<=o/\o<ot)(hot:h0.length<=ot)(rt:hb[ot]?=some (.cells ⟨[.ptr os1 0 7 0],0,0,false⟩))(hA:Sl hb 1 tA (acc.map encB))(hQ:∀h' L,Ext h0 h'->Snd (hopA es D.length (onL es D)) st (atSt D.length (endsL acc u D.length)) L->(∀z l v,atSt D.length (endsL acc u D.length) z->Wk (hopA es D.length (onL es D)) st z l v->0<=L/\L<=v)->Q (.tup [I (max L 0),.bool (decide (0<=L))]) h') :
  ∀(d i:Nat) (h:Heap) (en:AV),i+d=D.length->Ext hb h->Gr hb.length h.length h 2 en ((endsL acc u i).map encP2)->
   WP (fun p:Nat × Nat=>u2_ p.1 p.2 (I u) g (.ptr ot 0 1 0) en tA (I D.length) (I i) h) Q:=by
 intro d
 induction d with
 |zero=>
  intro i h en h1 e g1
  refine WP.rnd (fun i' j=>a2w i' j (I u) g (.ptr ot 0 1 0) en tA (I D.length) (I i) h) ?_
  obtain rfl:i=D.length:=by omega
  simp -implicitDefEqProofs (disch:=first|assumption|omega|(simp only[gL,gA]<;>omega)|fail) only[gC,reduceIte]
  refine WP.lv (b4q gv ok no co hN hn hn2 hl hu hst (e0.trans e) (s1.frs (D:=fun _=>False) (FrS.ofExt e) fun _ _ _ z=>z) k1 hc1 p1 hot (e.get rt) g1.sl hQ) fun i j=>rfl
 |succ d ih=>
  intro i h en h1 e g1
  refine WP.rnd (fun i' j=>a2w i' j (I u) g (.ptr ot 0 1 0) en tA (I D.length) (I i) h) ?_
  have la:=ok.la
  have hl1:=ok.l1
  have hlo:=e.len
  have sl:=hA.ext e
  obtain ⟨b,hb'⟩:∃b,gi acc (i:Int)=b:=⟨_,rfl⟩
  cases b with
  |true=>
   have hel:=a7W acc u i
   obtain ⟨s',h',q1,q2,q3⟩:=Gr.append1 (bytes:=16) g1 (v:=[I u,I i]) rfl (by omega) (by omega) (by simp; omega) (by omega) (by omega)
   rw[a4_] at q1
   simp -implicitDefEqProofs (disch:=first|assumption|omega|exact Ext.refl _|(simp only[gL,gA]<;>omega)|fail) only[gC,reduceIte,sl.idxG,sl.ld0,hb',encB,q1]
   refine ih (i+1) h' s' (by omega) (q3.ext e (by omega)) ((q2.mono (Nat.le_refl _) (Nat.le_refl _)).cong ?_)
   rw[a7i,if_pos hb',List.map_append]
   rfl
  |false=>
   simp -implicitDefEqProofs (disch:=first|assumption|omega|exact Ext.refl _|(simp only[gL,gA]<;>omega)|fail) only[gC,reduceIte,sl.idxG,sl.ld0,hb',encB]
   refine ih (i+1) h en (by omega) e (g1.cong ?_)
   rw[a7i,if_neg (by rw[hb']; simp),List.append_nil]
theorem b1P {h:Heap}{sE sD sA:AV}(no:NetOk N es)(co:COk es)(hn2:N*D.length<=1000000)(hl:es.length*D.length<=10000000)(hs:Sl h 4 sE (es.map encE))(ok:DOk D acc)(hD:Sl h 5 sD (D.map encR))(hA:Sl h 1 sA (acc.map encB)){v u:Nat}(hv:v<N)(hu:u<N) :
  Tot tab d8_ [.agg [I N,sE],.agg [sD,sA],I v,I u] h fun r h'=>Ext h h'/\∃L,r=.tup [I (max L 0),.bool (decide (0<=L))]/\
   ∀c,LC (N*D.length) (hopA es D.length (onL es D)) (fun x=>x=v*D.length) c->L=bv c acc (u*D.length) D.length:=by
 refine WP.tot (fun k=>a6W k _ _ _ _ h) ?_
 have hN:N<=100000:=by have:=no.n1; omega
 obtain ⟨h1,hh1⟩:∃h1,h1=((h++[AObj.cells ⟨[I N,sE],0,0,false⟩])++[AObj.cells ⟨[sD,sA],0,0,false⟩]):=⟨_,rfl⟩
 have e1:Ext h h1:=by rw[hh1]; ((repeat (first|exact Ext.refl _|assumption|apply Ext.app|apply Ext.mk|(refine Ext.setr ?_ (by (first|omega|(simp only[gL]<;>omega))) _))))
 have r1:h1[h.length+1]?=some (.cells ⟨[sD,sA],0,0,false⟩):=by rw[hh1]; simp
 simp -implicitDefEqProofs (maxSteps:=1000000) (disch:=first|assumption|omega|(simp only[gL]<;>omega)|((repeat (first|exact Ext.refl _|assumption|apply Ext.app|apply Ext.mk|(refine Ext.setr ?_ (by (first|omega|(simp only[gL]<;>omega))) _))); done)|(simp only[gL,gA,hs.one,hs.cells,hD.one,hD.cells,hA.one,hA.cells]<;>omega)|fail) only[gB,setAll,partL,fldV,reduceIte,Nat.reduceAdd,Nat.reduceMul,hs.one,hs.cells,hD.one,hD.cells,hA.one,hA.cells]
 rw[<-hh1]
 refine WP.call (a5P no (hs.ext e1) ok (hD.ext e1) (hA.ext e1)) ?_
 rintro g h2 ⟨e2,gv⟩
 obtain ⟨h3,hh3⟩:∃h3,h3=h2++[AObj.cells ⟨[I v,AV.int .i64 0],0,0,false⟩]:=⟨_,rfl⟩
 have e3:Ext h2 h3:=by rw[hh3]; exact Ext.push _ _
 have ha:Sl h3 2 (.sl h2.length 0 1 2 none 0) ([((v:Int),(0:Int))].map encP2):=by
  have:=(Gr.lit (h:=h2) (sz:=2) (v:=[I v,I 0]) rfl).sl
  rw[a4_] at this
  rw[hh3]; exact this
 rw[show AV.int .i64 0=I 0 from rfl] at hh3
 rw[<-hh3]
 have gv3:=gv.ext e3
 refine WP.call (a3l (n:=N*D.length) gv3 ok hN rfl hn2 ha (fun a z=>?_) (by simp) (hopA es D.length (onL es D))) ?_
 ·obtain rfl:=List.mem_singleton.1 z
  have:=ok.l0
  exact ⟨by show (0:Int)<=v; omega,by show (v:Int)<N; omega,Int.le_refl _,by show (0:Int)<D.length; omega⟩
 rintro _ h4 ⟨e4,os,q,sc,se,sf,oc,oe,ov,cs,ds,fs,M,rfl,w4,d4,u4⟩
 have hst:atSt D.length [((v:Int),(0:Int))]=fun x=>x=v*D.length:=by
  funext x; exact propext a5R
 rw[hst] at d4
 have hstn:∀x,x=v*D.length->x<N*D.length:=fun x z=>by
  have:=spotN (S:=D.length) hv ok.l0
  omega
 obtain ⟨h5,hh5⟩:∃h5,h5=h4++[AObj.cells ⟨[AV.ptr os 0 7 0],0,0,false⟩]:=⟨_,rfl⟩
 have e5:Ext h4 h5:=by rw[hh5]; exact Ext.push _ _
 have s5:(h4++[AObj.cells ⟨[AV.nilp],0,0,false⟩]).set h4.length (AObj.cells ⟨[AV.ptr os 0 7 0],0,0,false⟩)=h5:=by rw[hh5]; simp
 have rt:h5[h4.length]?=some (.cells ⟨[AV.ptr os 0 7 0],0,0,false⟩):=by rw[hh5]; simp
 have e15:=(((e2.trans e3).trans e4).trans e5)
 have r15:=e15.get r1
 have hA5:=hA.ext (e1.trans e15)
 simp -implicitDefEqProofs (maxSteps:=1000000) (disch:=first|assumption|omega|(simp only[gL]<;>omega)|((repeat (first|exact Ext.refl _|assumption|apply Ext.app|apply Ext.mk|(refine Ext.setr ?_ (by (first|omega|(simp only[gL]<;>omega))) _))); done)|(simp only[gL,gA]<;>omega)|fail) only[gB,setAll,partL,fldV,reduceIte,Nat.reduceAdd,Nat.reduceMul]
 rw[s5]
 simp -implicitDefEqProofs (maxSteps:=1000000) (disch:=first|assumption|omega|(simp only[gL]<;>omega)|((repeat (first|exact Ext.refl _|assumption|apply Ext.app|apply Ext.mk|(refine Ext.setr ?_ (by (first|omega|(simp only[gL]<;>omega))) _))); done)|(simp only[gL,gA,r15,hA5.lenG,ok.la]<;>omega)|fail) only[gB,setAll,partL,fldV,reduceIte,Nat.reduceAdd,Nat.reduceMul,r15,hA5.lenG,ok.la]
 have sa:SB (fun o=>h3.length<=o/\o<h4.length) h4 os g c9_ (N*D.length) (hopA es D.length (onL es D)) (fun x=>x=v*D.length) (Gm.AQ.gf cs) (Gm.AQ.gf M) 0:=
  SB.mono ⟨q,sc,se,sf,oc,oe,ov,cs,ds,fs,M,0,0,fun _=>0,w4,d4,u4,rfl,rfl⟩ fun o z1 z2=>⟨z2,z1⟩
 have l4:=e4.len
 refine WP.ent (b4r gv3 ok no co hN rfl hn2 hl hu hstn (e4.trans e5) (sa.frs (D:=fun _=>False) (FrS.ofExt e5) fun _ _ _ z=>z) ⟨Int.le_refl _,by omega,fun x hx v hv=>(d4.que x hx v hv).2.1⟩ (a7y _ (c:=Gm.AQ.gf cs) (by simpa using u4)) (fun o z=>z) l4 rt hA5 (fun h' L e' sn le=>⟨((e1.trans e2).trans e3).trans e',L,rfl,fun c lc=>?_⟩) D.length 0 h5 .nils (by omega) (Ext.refl _) (Gr.nil ..)) fun i=>rfl
 have iff:∀q:Nat,q<D.length->gi acc (q:Int)=true->atSt D.length (endsL acc u D.length) (u*D.length+q):=fun q q1 q2=>a6i.2 ⟨q,q1,q2,rfl⟩
 rcases a3I (c:=c) (acc:=acc) (b:=u*D.length) D.length with ⟨k1,k2⟩|⟨q,k1,k2,k3,k4,k5⟩
 ·rw[k1]
  rcases sn with z|⟨z0,z,z1,l,z2⟩
  ·exact z
  ·obtain ⟨q,q1,q2,rfl⟩:=a6i.1 z1
   have h6:=k2 q q1 q2
   rcases lc _ (spotN hu q1) with ⟨p1,_⟩|⟨_,p2⟩
   ·omega
   ·exact absurd z2 (p2 _ _)
 ·have hx:=spotN hu k1
  rcases lc _ hx with ⟨p1,⟨l,p2⟩,p3⟩|⟨p1,_⟩
  ·have h6:=le _ _ _ (iff q k1 k2) p2
   rcases sn with z|⟨z0,z,z1,l',z2⟩
   ·omega
   ·obtain ⟨q',q1,q2,rfl⟩:=a6i.1 z1
    rcases lc _ (spotN hu q1) with ⟨r1,_,r2⟩|⟨_,r2⟩
    ·have h7:=r2 _ _ z2
     have h8:=k5 q' q1 q2 r1
     omega
    ·exact absurd z2 (r2 _ _)
  ·omega
end
end Go.Gm.AQ
namespace Go.Gm.AQ
open Go Go.Gm
def atV (es:List E)(v:Int)(l:List Nat):Int:=l.foldl (fun _ e=>(eg es e).to) v
def atS (es:List E)(D:List (List Int))(s:Int)(l:List Nat):Int:=l.foldl (fun s e=>nx D s (eg es e).md) s
def atC (es:List E)(l:List Nat):Int:=l.foldl (fun c e=>c+(eg es e).co) 0
def wdOf (es:List E)(l:List Nat):List Int:=l.map fun e=>(eg es e).md
def goS (D:List (List Int))(s:Int)(w:List Int):Int:=w.foldl (fun s m=>nx D s m) s
def OkW (es:List E)(v:Int)(l:List Nat):Prop:=∀i e,l[i]?=some e->e<es.length/\(eg es e).fr=atV es v (l.take i)
theorem a5m (es:List E)(v:Int)(l:List Nat)(e:Nat):atV es v (l++[e])=(eg es e).to:=by simp[atV]
theorem a8R (es:List E)(D:List (List Int))(s:Int)(l:List Nat)(e:Nat):atS es D s (l++[e])=nx D (atS es D s l) (eg es e).md:=by simp[atS]
theorem a6L (es:List E)(l:List Nat)(e:Nat):atC es (l++[e])=atC es l+(eg es e).co:=by simp[atC]
theorem a7j (es:List E)(D:List (List Int))(s:Int)(l:List Nat):atS es D s l=goS D s (wdOf es l):=by
 simp only[atS,goS,wdOf,List.foldl_map]
theorem OkW.snoc {es:List E}{v:Int}{l:List Nat}{e:Nat}(h:OkW es v l)(he:e<es.length)(hf:(eg es e).fr=atV es v l):OkW es v (l++[e]):=by
 intro i e' h1
 have hi:=(List.getElem?_eq_some_iff.1 h1).1
 simp only[List.length_append,List.length_cons,List.length_nil] at hi
 by_cases q:i<l.length
 ·rw[List.getElem?_append_left q] at h1
  rw[List.take_append_of_le_length (by omega)]
  exact h i e' h1
 ·obtain rfl:i=l.length:=by omega
  rw[List.getElem?_append_right (Nat.le_refl _)] at h1
  simp only[Nat.sub_self,List.getElem?_cons_zero,Option.some.injEq] at h1
  subst h1
  rw[List.take_left]
  exact ⟨he,hf⟩
theorem b0a {es:List E}(co:COk es):∀(l:List Nat),(∀e∈l,e<es.length)->∀c:Int,c<=l.foldl (fun c e=>c+(eg es e).co) c/\l.foldl (fun c e=>c+(eg es e).co) c<=c+l.length*2147483647
 |[],_,c=>by simp
 |e::l,h,c=>by
  have he:=h e (by simp)
  have h1:0<=(eg es e).co/\(eg es e).co<=2147483647:=co.c _ (c4_ (xs:=es) (i:=(e:Int)) (by omega) (by omega))
  have h2:=b0a co l (fun x hx=>h x (List.mem_cons_of_mem _ hx)) (c+(eg es e).co)
  simp only[List.foldl_cons,List.length_cons]
  refine ⟨by omega,?_⟩
  have:((l.length+1:Nat):Int)*2147483647=l.length*2147483647+2147483647:=by omega
  rw[this]
  have:(eg es e).co<=2147483647:=h1.2
  omega
theorem OkW.mem {es:List E}{v:Int}{l:List Nat}(h:OkW es v l):∀e∈l,e<es.length:=by
 intro e he
 obtain ⟨i,hi,h1⟩:=List.getElem_of_mem he
 exact (h i e (by rw[List.getElem?_eq_getElem hi,h1])).1
section
variable {N:Nat} {es:List E} {D:List (List Int)} {acc:List Bool}
theorem b2M (ok:DOk D acc)(no:NetOk N es){x y e:Nat}{w:Int}(hx:x<N*D.length)(h:(y,e,w)∈hopA es D.length (onL es D) x) :
  e<es.length/\(eg es e).fr=((x / D.length:Nat):Int)/\y / D.length=(eg es e).to.toNat/\y % D.length=(nx D ((x % D.length:Nat):Int) (eg es e).md).toNat/\w=(eg es e).co/\y<N*D.length:=by
 obtain ⟨q1,q2⟩:=dm hx
 obtain ⟨t,ht,h1⟩:=List.mem_map.1 h
 obtain ⟨k,hk,rfl⟩:=List.mem_map.1 ht
 obtain ⟨k0,k1,k2⟩:=j7_.1 hk
 obtain ⟨i,rfl⟩:∃i:Nat,k=i:=⟨k.toNat,by omega⟩
 simp only[beq_iff_eq] at k2
 have he:0<=(eg es i).fr/\(eg es i).fr<N/\0<=(eg es i).to/\(eg es i).to<N/\0<=(eg es i).md/\(eg es i).md<5:=no.edge _ (c4_ (xs:=es) (i:=(i:Int)) (by omega) (by omega))
 have htt:0<=nx D ((x % D.length:Nat):Int) (eg es i).md/\nx D ((x % D.length:Nat):Int) (eg es i).md<D.length:=ok.to _ (eg es i).md (Int.natCast_nonneg _) (Int.ofNat_lt.2 q2) he.2.2.2.2.1 he.2.2.2.2.2
 simp only[hopOf] at h1
 cases h1
 rw[Int.toNat_natCast]
 have h1:(eg es i).to=((eg es i).to.toNat:Int):=by omega
 have h2:nx D ((x % D.length:Nat):Int) (eg es i).md=((nx D ((x % D.length:Nat):Int) (eg es i).md).toNat:Int):=by omega
 have hy:((eg es i).to*(D.length:Int)+nx D ((x % D.length:Nat):Int) (eg es i).md).toNat=(eg es i).to.toNat*D.length+(nx D ((x % D.length:Nat):Int) (eg es i).md).toNat:=by
  generalize (eg es i).to.toNat=a at h1
  generalize (nx D ((x % D.length:Nat):Int) (eg es i).md).toNat=b at h2
  rw[h1,h2,<-Int.natCast_mul,<-Int.natCast_add,Int.toNat_natCast]
 rw[show gi es (i:Int)=eg es i from rfl,hy]
 obtain ⟨p1,p2⟩:=a4Q (v:=(eg es i).to.toNat) (S:=D.length) (s:=(nx D ((x % D.length:Nat):Int) (eg es i).md).toNat) (by omega)
 exact ⟨by omega,k2,p1,p2,rfl,spotN (by omega) (by omega)⟩
theorem b0b (ok:DOk D acc)(no:NetOk N es){v x:Nat}{l:List Nat}{c:Int}(hv:v<N)(h:Wk (hopA es D.length (onL es D)) (fun x=>x=v*D.length) x l c) :
  OkW es v l/\atV es v l=((x / D.length:Nat):Int)/\atS es D 0 l=((x % D.length:Nat):Int)/\atC es l=c/\x<N*D.length:=by
 induction h with
 |nil h=>
  subst h
  obtain ⟨p1,p2⟩:=a4Q (v:=v) (S:=D.length) (s:=0) ok.l0
  simp only[Nat.add_zero] at p1 p2
  rw[p1,p2]
  exact ⟨fun i e z=>by simp at z,rfl,rfl,rfl,by have:=spotN (S:=D.length) hv ok.l0; omega⟩
 |@snoc x y e l c w h1 h2 ih=>
  obtain ⟨i1,i2,i3,i4,i5⟩:=ih
  obtain ⟨k1,k2,k3,k4,k5,k6⟩:=b2M ok no i5 h2
  obtain ⟨q1,q2⟩:=dm i5
  have he:0<=(eg es e).fr/\(eg es e).fr<N/\0<=(eg es e).to/\(eg es e).to<N/\0<=(eg es e).md/\(eg es e).md<5:=no.edge _ (c4_ (xs:=es) (i:=(e:Int)) (by omega) (by omega))
  have htt:0<=nx D ((x % D.length:Nat):Int) (eg es e).md/\nx D ((x % D.length:Nat):Int) (eg es e).md<D.length:=ok.to _ (eg es e).md (Int.natCast_nonneg _) (Int.ofNat_lt.2 q2) he.2.2.2.2.1 he.2.2.2.2.2
  refine ⟨i1.snoc k1 (k2.trans i2.symm),?_,?_,?_,k6⟩
  ·rw[a5m,k3]; omega
  ·rw[a8R,i3,k4]; omega
  ·rw[a6L,i4,k5]
theorem a2H {α:Type}{l:List α}{i:Nat}{e:α}(h:l[i]?=some e):l.take (i+1)=l.take i++[e]:=by
 rw[List.take_add_one,h]; rfl
theorem b4s {hb:Heap}{sE sl:AV}{v u on:Nat}{l:List Nat}{Q:AV->Heap->Prop}(no:NetOk N es)(co:COk es)(hE:Sl hb 4 sE (es.map encE))(hl:Sl hb 1 sl ((l.map fun (e:Nat)=>(e:Int)).map encI))(hll:l.length<=1000000)(ow:OkW es v l)(hu:atV es v l=u)(rn:hb[on]?=some (.cells ⟨[I N,sE],0,0,false⟩))(hQ:∀h w,Ext hb h->Gr hb.length h.length h 1 w ((wdOf es l).map encI)->Q (.tup [I (atC es l),w,.bool true]) h) :
  ∀(d i:Nat) (h:Heap) (w:AV),i+d=l.length->Ext hb h->Gr hb.length h.length h 1 w ((wdOf es (l.take i)).map encI)->
   WP (fun p:Nat × Nat=>j5_ p.1 p.2 (I (atV es v (l.take i))) (I u) sl (.ptr on 0 2 0) (I (atC es (l.take i))) w (I i) h) Q:=by
 intro d
 induction d with
 |zero=>
  intro i h w h1 e g1
  refine WP.rnd (fun i' j=>a0G i' j (I (atV es v (l.take i))) (I u) sl (.ptr on 0 2 0) (I (atC es (l.take i))) w (I i) h) ?_
  rw[List.take_of_length_le (show l.length<=i by omega)] at g1 ⊢
  rw[hu]
  have hlg:=(hl.ext e).lenG
  rw[List.length_map] at hlg
  simp -implicitDefEqProofs (disch:=first|assumption|omega|(simp only[gL,gA]<;>omega)|fail) only[gC,reduceIte,hlg]
  refine WP.lv (WP.congr (fun k:Nat=>a3A k (I u) (I u) (I (atC es l)) w h) ?_) fun i j=>rfl
  simp -implicitDefEqProofs (disch:=first|assumption|omega|(simp only[gL,gA]<;>omega)|fail) only[gC,reduceIte]
  exact WP.ret (hQ h w e g1)
 |succ d ih=>
  intro i h w h1 e g1
  refine WP.rnd (fun i' j=>a0G i' j (I (atV es v (l.take i))) (I u) sl (.ptr on 0 2 0) (I (atC es (l.take i))) w (I i) h) ?_
  have hil:i<l.length:=by omega
  obtain ⟨ed,hed⟩:∃ed,l[i]?=some ed:=⟨l[i],List.getElem?_eq_getElem hil⟩
  obtain ⟨o1,o2⟩:=ow i ed hed
  have hg:gi (l.map fun (e:Nat)=>(e:Int)) (i:Int)=(ed:Int):=by
   rw[e2_ (by simpa using hil)]
   rw[List.getElem?_eq_getElem hil] at hed
   injection hed with hed
   simp[hed]
  have hlx:=hl.ext e
  have hlg:=hlx.lenG
  rw[List.length_map] at hlg
  have hE1:=hE.ext e
  have rn1:=e.get rn
  obtain ⟨x,hx⟩:∃x,eg es ed=x:=⟨_,rfl⟩
  have hxx:gi es (ed:Int)=x:=hx
  have he:=no.edge _ (c4_ (xs:=es) (i:=(ed:Int)) (by omega) (by omega))
  have hc:=co.c _ (c4_ (xs:=es) (i:=(ed:Int)) (by omega) (by omega))
  rw[hxx] at he hc
  rw[hx] at o2
  have b1:=b0a co (l.take i) (fun z hz=>ow.mem z (List.mem_of_mem_take hz)) 0
  have b2:(l.take i).length<=1000000:=by rw[List.length_take]; omega
  obtain ⟨c,hcc⟩:∃c,atC es (l.take i)=c:=⟨_,rfl⟩
  have b3:0<=c/\c<=(l.take i).length*2147483647:=by rw[<-hcc]; exact ⟨b1.1,by have:=b1.2; simpa [atC] using this⟩
  have hlh:=e.len
  obtain ⟨h2,hh2⟩:∃h2,h2=((h++[AObj.cells ⟨[I 0,I 0,I 0,I 0],0,0,false⟩]).set h.length (.cells ⟨[I x.fr,I x.to,I x.md,I x.co],0,0,false⟩)):=⟨_,rfl⟩
  have e2:Ext h h2:=by rw[hh2]; ((repeat (first|exact Ext.refl _|assumption|apply Ext.app|apply Ext.mk|(refine Ext.setr ?_ (by (first|omega|(simp only[gL]<;>omega))) _))))
  have r2:h2[h.length]?=some (.cells ⟨[I x.fr,I x.to,I x.md,I x.co],0,0,false⟩):=by rw[hh2]; exact a3_ (by simp)
  have hl2:h2.length=h.length+1:=by rw[hh2]; simp
  obtain ⟨s',h',q1,q2,q3⟩:=Gr.append1 (bytes:=8) (g1.ext e2) (v:=[I x.md]) rfl (by omega) (by omega) (by simp[wdOf]; omega) (by omega) (by omega)
  rw[a4_,hl2] at q1
  have hml:(l.map fun (e:Nat)=>(e:Int)).length=l.length:=List.length_map ..
  rw[<-o2,hcc]
  simp -implicitDefEqProofs (disch:=first|assumption|omega|exact Ext.refl _|(simp only[gL,gA]<;>omega)|fail) only[gC,reduceIte,hlg,hlx.idxG,hlx.ld0,hml,hg,encI,rn1,hE1.lenG,hE1.idxG,hE1.ldf,hE1.ld0,hE1.ldN,hxx,encE]
  rw[show AV.int .i64 0=I 0 from rfl,<-hh2]
  simp -implicitDefEqProofs (disch:=first|assumption|omega|(simp only[gL,gA]<;>omega)|fail) only[gC,reduceIte,q1]
  have hv':x.to=atV es v (l.take (i+1)):=by rw[a2H hed,a5m,hx]
  have hc':c+x.co=atC es (l.take (i+1)):=by rw[a2H hed,a6L,hx,hcc]
  rw[hv',hc']
  refine ih (i+1) h' s' (by omega) (q3.ext (e.trans e2) (by omega)) ((q2.mono (Nat.le_refl _) (Nat.le_refl _)).cong ?_)
  rw[a2H hed]
  simp[wdOf,hx,encI]
theorem b1Q {h:Heap}{sE sl:AV}{v u:Nat}{l:List Nat}(no:NetOk N es)(co:COk es)(hE:Sl h 4 sE (es.map encE))(hl:Sl h 1 sl ((l.map fun (e:Nat)=>(e:Int)).map encI))(hll:l.length<=1000000)(hv:v<N)(huN:u<N)(ow:OkW es v l)(hu:atV es v l=u) :
  Tot tab k9_ [.agg [I N,sE],I v,I u,sl] h fun r h'=>Ext h h'/\∃w,r=.tup [I (atC es l),w,.bool true]/\Sl h' 1 w ((wdOf es l).map encI):=by
 refine WP.tot (fun k=>a4F k _ _ _ _ h) ?_
 obtain ⟨h1,hh1⟩:∃h1,h1=h++[AObj.cells ⟨[I N,sE],0,0,false⟩]:=⟨_,rfl⟩
 have e1:Ext h h1:=by rw[hh1]; exact Ext.push _ _
 have rn:h1[h.length]?=some (.cells ⟨[I N,sE],0,0,false⟩):=by rw[hh1]; simp
 have:=no.n1
 simp -implicitDefEqProofs (maxSteps:=1000000) (disch:=first|assumption|omega|(simp only[gL]<;>omega)|((repeat (first|exact Ext.refl _|assumption|apply Ext.app|apply Ext.mk|(refine Ext.setr ?_ (by (first|omega|(simp only[gL]<;>omega))) _))); done)|(simp only[gL,gA,hE.one,hE.cells]<;>omega)|fail) only[gB,setAll,partL,fldV,reduceIte,Nat.reduceAdd,Nat.reduceMul,hE.one,hE.cells]
 rw[<-hh1]
 refine WP.ent (c2:=fun p:Nat × Nat=>j5_ p.1 p.2 (I (atV es v (l.take 0))) (I u) sl (.ptr h.length 0 2 0) (I (atC es (l.take 0))) .nils (I (0:Nat)) h1) (b4s no co (hE.ext e1) (hl.ext e1) hll ow hu rn (fun h' w e' g'=>⟨e1.trans e',w,rfl,g'.sl⟩) l.length 0 h1 .nils (by omega) (Ext.refl _) (Gr.nil ..)) fun i=>rfl
theorem a3J (ok:DOk D acc):∀(w:List Int) (s:Int),0<=s->s<D.length->(∀m∈w,0<=m/\m<5)->0<=goS D s w/\goS D s w<D.length
 |[],s,h0,h1,_=>⟨h0,h1⟩
 |m::w,s,h0,h1,h=>by
  have hm:=h m (by simp)
  have:=ok.to s m h0 h1 hm.1 hm.2
  exact a3J ok w (nx D s m) this.1 this.2 fun z hz=>h z (List.mem_cons_of_mem _ hz)
theorem go_l1 {h:Heap}{sD sA sw:AV}{od:Nat}{w:List Int}(ok:DOk D acc)(hD:Sl h 5 sD (D.map encR))(hw:Sl h 1 sw (w.map encI))(hwl:w.length<=1000000000)(hm:∀m∈w,0<=m/\m<5)(rd:h[od]?=some (.cells ⟨[sD,sA],0,0,false⟩)) :
  ∀(d i:Nat),i+d=w.length->WP (fun p:Nat × Nat=>m9_ p.1 p.2 (I (goS D 0 (w.take i))) sw (.ptr od 0 2 0) (I i) h) fun r h'=>r=I (goS D 0 w)/\h=h':=by
 intro d
 induction d with
 |zero=>
  intro i h1
  refine WP.rnd (fun i' j=>a1c i' j (I (goS D 0 (w.take i))) sw (.ptr od 0 2 0) (I i) h) ?_
  rw[List.take_of_length_le (show w.length<=i by omega)]
  simp -implicitDefEqProofs (disch:=first|assumption|omega|(simp only[gL,gA]<;>omega)|fail) only[gC,reduceIte,hw.lenG]
  exact WP.ret ⟨rfl,rfl⟩
 |succ d ih=>
  intro i h1
  refine WP.rnd (fun i' j=>a1c i' j (I (goS D 0 (w.take i))) sw (.ptr od 0 2 0) (I i) h) ?_
  have hil:i<w.length:=by omega
  obtain ⟨m,hmm⟩:∃m,gi w (i:Int)=m:=⟨_,rfl⟩
  have hmr:=hm m (hmm▸c4_ (by omega) (by omega))
  have htk:w.take (i+1)=w.take i++[m]:=by
   have:=f3_ (xs:=w) (i:=(i:Int)) (by omega) (by omega)
   rw[hmm] at this
   exact a2H (by simpa using this)
  obtain ⟨s,hs⟩:∃s,goS D 0 (w.take i)=s:=⟨_,rfl⟩
  have hsr:=a3J ok (w.take i) 0 (by omega) (by have:=ok.l0; omega) fun z hz=>hm z (List.mem_of_mem_take hz)
  rw[hs] at hsr
  obtain ⟨p,p1,p2,-⟩:=cellA (H:=h) hD (Ext.refl _) hsr.1 hsr.2 hmr.1 hmr.2
  rw[show (encR (gi D s)).getD m.toNat .undef=I (nx D s m) by
   have hr:=ok.row s hsr.1 hsr.2
   simp only[encR,nx,List.getD_eq_getElem?_getD,List.getElem?_map]
   have:=f3_ (xs:=gi D s) hmr.1 (by omega)
   rw[this]; rfl] at p2
  rw[hs]
  simp -implicitDefEqProofs (disch:=first|assumption|omega|exact Ext.refl _|(simp only[gL,gA]<;>omega)|fail) only[gC,reduceIte,hw.lenG,hw.idxG,hw.ld0,hmm,encI,rd,hD.idxG,p1,p2]
  have hs':nx D s m=goS D 0 (w.take (i+1)):=by
   rw[htk]
   simp only[goS,List.foldl_append,List.foldl_cons,List.foldl_nil]
   rw[show List.foldl (fun s m=>nx D s m) 0 (w.take i)=s from hs]
  rw[hs']
  exact ih (i+1) (by omega)
theorem b2N {h:Heap}{sD sA sw:AV}{w:List Int}(ok:DOk D acc)(hD:Sl h 5 sD (D.map encR))(hA:Sl h 1 sA (acc.map encB))(hw:Sl h 1 sw (w.map encI))(hwl:w.length<=1000000000)(hm:∀m∈w,0<=m/\m<5) :
  Tot tab y8_ [.agg [sD,sA],sw] h fun r h'=>r=.bool (gi acc (goS D 0 w))/\Ext h h':=by
 refine WP.tot (fun k=>a5b k _ _ h) ?_
 obtain ⟨h1,hh1⟩:∃h1,h1=h++[AObj.cells ⟨[sD,sA],0,0,false⟩]:=⟨_,rfl⟩
 have e1:Ext h h1:=by rw[hh1]; exact Ext.push _ _
 have rd:h1[h.length]?=some (.cells ⟨[sD,sA],0,0,false⟩):=by rw[hh1]; simp
 simp -implicitDefEqProofs (maxSteps:=1000000) (disch:=first|assumption|omega|(simp only[gL]<;>omega)|((repeat (first|exact Ext.refl _|assumption|apply Ext.app|apply Ext.mk|(refine Ext.setr ?_ (by (first|omega|(simp only[gL]<;>omega))) _))); done)|(simp only[gL,gA,hD.one,hD.cells,hA.one,hA.cells]<;>omega)|fail) only[gB,setAll,partL,fldV,reduceIte,Nat.reduceAdd,Nat.reduceMul,hD.one,hD.cells,hA.one,hA.cells]
 rw[<-hh1]
 have hgo:Tot tab u0_ [.agg [sD,sA],I 0,sw] h1 fun r h'=>r=I (goS D 0 w)/\Ext h1 h':=by
  refine WP.tot (fun k=>a5r k _ _ _ h1) ?_
  obtain ⟨h2,hh2⟩:∃h2,h2=h1++[AObj.cells ⟨[sD,sA],0,0,false⟩]:=⟨_,rfl⟩
  have e2:Ext h1 h2:=by rw[hh2]; exact Ext.push _ _
  have rd2:h2[h1.length]?=some (.cells ⟨[sD,sA],0,0,false⟩):=by rw[hh2]; simp
  have hD2:=(hD.ext e1).ext e2
  have:=ok.l0
  have:=ok.l1
  simp -implicitDefEqProofs (maxSteps:=1000000) (disch:=first|assumption|omega|(simp only[gL]<;>omega)|((repeat (first|exact Ext.refl _|assumption|apply Ext.app|apply Ext.mk|(refine Ext.setr ?_ (by (first|omega|(simp only[gL]<;>omega))) _))); done)|(simp only[gL,gA,hD.one,hD.cells,hA.one,hA.cells]<;>omega)|fail) only[gB,setAll,partL,fldV,reduceIte,Nat.reduceAdd,Nat.reduceMul,hD.one,hD.cells,hA.one,hA.cells]
  rw[<-hh2]
  simp -implicitDefEqProofs (maxSteps:=1000000) (disch:=first|assumption|omega|(simp only[gL]<;>omega)|((repeat (first|exact Ext.refl _|assumption|apply Ext.app|apply Ext.mk|(refine Ext.setr ?_ (by (first|omega|(simp only[gL]<;>omega))) _))); done)|(simp only[gL,gA,rd2,hD2.lenG]<;>omega)|fail) only[gB,setAll,partL,fldV,reduceIte,Nat.reduceAdd,Nat.reduceMul,rd2,hD2.lenG]
  refine WP.ent (c2:=fun p:Nat × Nat=>m9_ p.1 p.2 (I (goS D 0 (w.take 0))) sw (.ptr h1.length 0 2 0) (I (0:Nat)) h2) ((go_l1 ok hD2 ((hw.ext e1).ext e2) hwl hm rd2 w.length 0 (by omega)).mono ?_) fun i=>rfl
  rintro r h' ⟨rfl,rfl⟩
  exact ⟨rfl,e2⟩
 refine WP.call hgo ?_
 rintro _ h2 ⟨rfl,e2⟩
 obtain ⟨g1,g2⟩:=a3J ok w 0 (by omega) (by have:=ok.l0; omega) hm
 generalize goS D 0 w=s at g1 g2 ⊢
 have hA2:=(hA.ext e1).ext e2
 have rd2:=e2.get rd
 have la:=ok.la
 simp -implicitDefEqProofs (maxSteps:=1000000) (disch:=first|assumption|omega|(simp only[gL]<;>omega)|((repeat (first|exact Ext.refl _|assumption|apply Ext.app|apply Ext.mk|(refine Ext.setr ?_ (by (first|omega|(simp only[gL]<;>omega))) _))); done)|(simp only[gL,gA,rd2,hA2.idxG,hA2.ld0,encB]<;>omega)|fail) only[gB,setAll,partL,fldV,reduceIte,Nat.reduceAdd,Nat.reduceMul,rd2,hA2.idxG,hA2.ld0,encB]
 exact WP.ret ⟨rfl,e1.trans e2⟩
theorem b0B {h:Heap}{sE sD sA sl:AV}{v u:Nat}{l:List Nat}{cost:Int}(no:NetOk N es)(co:COk es)(ok:DOk D acc)(hE:Sl h 4 sE (es.map encE))(hD:Sl h 5 sD (D.map encR))(hA:Sl h 1 sA (acc.map encB))(hl:Sl h 1 sl ((l.map fun (e:Nat)=>(e:Int)).map encI))(hll:l.length<=1000000)(hv:v<N)(huN:u<N)(ow:OkW es v l)(hu:atV es v l=u)(hc:atC es l=cost)(hacc:gi acc (atS es D 0 l)=true) :
  Tot tab w1_ [.agg [I N,sE],.agg [sD,sA],I v,I u,.agg [I cost,sl],I cost] h fun r h'=>r=.bool true/\Ext h h':=by
 refine WP.tot (fun k=>a4k k _ _ _ _ _ _ h) ?_
 obtain ⟨h1,hh1⟩:∃h1,h1=((h++[AObj.cells ⟨[I N,sE],0,0,false⟩])++[AObj.cells ⟨[sD,sA],0,0,false⟩])++[AObj.cells ⟨[I cost,sl],0,0,false⟩]:=⟨_,rfl⟩
 have e1:Ext h h1:=by rw[hh1]; ((repeat (first|exact Ext.refl _|assumption|apply Ext.app|apply Ext.mk|(refine Ext.setr ?_ (by (first|omega|(simp only[gL]<;>omega))) _))))
 have rd:h1[h.length+1]?=some (.cells ⟨[sD,sA],0,0,false⟩):=by rw[hh1]; simp
 have rr:h1[h.length+1+1]?=some (.cells ⟨[I cost,sl],0,0,false⟩):=by rw[hh1,a2r (by simp)]; simp
 simp -implicitDefEqProofs (maxSteps:=1000000) (disch:=first|assumption|omega|(simp only[gL]<;>omega)|((repeat (first|exact Ext.refl _|assumption|apply Ext.app|apply Ext.mk|(refine Ext.setr ?_ (by (first|omega|(simp only[gL]<;>omega))) _))); done)|(simp only[gL,gA,hE.one,hE.cells,hD.one,hD.cells,hA.one,hA.cells,hl.one,hl.cells]<;>omega)|fail) only[gB,setAll,partL,fldV,reduceIte,Nat.reduceAdd,Nat.reduceMul,hE.one,hE.cells,hD.one,hD.cells,hA.one,hA.cells,hl.one,hl.cells]
 rw[<-hh1]
 refine WP.call (b1Q no co (hE.ext e1) (hl.ext e1) hll hv huN ow hu) ?_
 rintro _ h2 ⟨e2,w,rfl,gw⟩
 rw[hc]
 have rd2:=e2.get rd
 have rr2:=e2.get rr
 have x2:extr 2 (.tup [I cost,w,.bool true])=some (.bool true):=rfl
 simp -implicitDefEqProofs (maxSteps:=1000000) (disch:=first|assumption|omega|(simp only[gL]<;>omega)|((repeat (first|exact Ext.refl _|assumption|apply Ext.app|apply Ext.mk|(refine Ext.setr ?_ (by (first|omega|(simp only[gL]<;>omega))) _))); done)|(simp only[gL,gA,a9_,b0_,x2,rd2,rr2]<;>omega)|fail) only[gB,setAll,partL,fldV,reduceIte,Nat.reduceAdd,Nat.reduceMul,a9_,b0_,x2,rd2,rr2]
 refine WP.call (b2N ok ((hD.ext e1).ext e2) ((hA.ext e1).ext e2) gw (by simp[wdOf]; omega) fun m hm=>?_) ?_
 ·obtain ⟨e,he,rfl⟩:=List.mem_map.1 hm
  have h3:=ow.mem e he
  have:=no.edge _ (c4_ (xs:=es) (i:=(e:Int)) (by omega) (by omega))
  exact ⟨this.2.2.2.2.1,this.2.2.2.2.2⟩
 ·rintro _ h3 ⟨rfl,e3⟩
  rw[<-a7j,hacc]
  exact WP.ret ⟨rfl,(e1.trans e2).trans e3⟩
end
end Go.Gm.AQ
namespace Go.Gm.AQ
open Go Go.Gm
structure LW (es:List E) (v u:Int) (P:List Int->Prop) (b:Int):Prop where
 ex:b = -1\/(0<=b/\∃l,OkW es v l/\atV es v l=u/\P (wdOf es l)/\atC es l=b)
 le:∀l,OkW es v l->atV es v l=u->P (wdOf es l)->0<=b/\b<=atC es l
theorem LW.uniq {es:List E}{v u:Int}{P:List Int->Prop}{a b:Int}(x:LW es v u P a)(y:LW es v u P b):a=b:=by
 rcases x.ex with rfl|⟨x0,l,x1,x2,x3,x4⟩
 ·rcases y.ex with rfl|⟨y0,l',y1,y2,y3,y4⟩
  ·rfl
  ·have:=x.le l' y1 y2 y3
   omega
 ·have h1:=y.le l x1 x2 x3
  rcases y.ex with rfl|⟨y0,l',y1,y2,y3,y4⟩
  ·omega
  ·have:=x.le l' y1 y2 y3
   omega
theorem LW.congr {es:List E}{v u:Int}{P Q:List Int->Prop}{b:Int}(x:LW es v u P b)(h:∀l,OkW es v l->(P (wdOf es l)↔Q (wdOf es l))):LW es v u Q b:=by
 refine ⟨x.ex.imp id fun ⟨x0,l,x1,x2,x3,x4⟩=>⟨x0,l,x1,x2,(h l x1).1 x3,x4⟩,fun l h1 h2 h3=>x.le l h1 h2 ((h l h1).2 h3)⟩
section
variable {N:Nat} {es:List E} {D:List (List Int)} {acc:List Bool}
theorem OkW.md (no:NetOk N es){v:Int}{l:List Nat}(h:OkW es v l):∀m∈wdOf es l,0<=m/\m<5:=by
 intro m hm
 obtain ⟨e,he,rfl⟩:=List.mem_map.1 hm
 have h3:=h.mem e he
 have:=no.edge _ (c4_ (xs:=es) (i:=(e:Int)) (by omega) (by omega))
 exact ⟨this.2.2.2.2.1,this.2.2.2.2.2⟩
theorem OkW.take {v:Int}{l:List Nat}(h:OkW es v l)(k:Nat):OkW es v (l.take k):=by
 intro i e h1
 have hi:=(List.getElem?_eq_some_iff.1 h1).1
 rw[List.length_take] at hi
 rw[List.getElem?_take,if_pos (by omega)] at h1
 rw[List.take_take,Nat.min_eq_left (by omega)]
 exact h i e h1
theorem OkW.range (no:NetOk N es){v:Nat}(hv:v<N){l:List Nat}(h:OkW es v l):0<=atV es v l/\atV es v l<N:=by
 rcases List.eq_nil_or_concat l with rfl|⟨l',e,rfl⟩
 ·exact ⟨by show (0:Int)<=v; omega,by show (v:Int)<N; omega⟩
 ·rw[List.concat_eq_append] at h ⊢
  rw[a5m]
  have he:=h.mem e (by simp)
  have:=no.edge _ (c4_ (xs:=es) (i:=(e:Int)) (by omega) (by omega))
  exact ⟨this.2.2.1,this.2.2.2.1⟩
theorem b1R (ok:DOk D acc)(no:NetOk N es){v:Nat}(hv:v<N){l:List Nat}(h:OkW es v l):∀k,k<=l.length->
  Wk (hopA es D.length (onL es D)) (fun x=>x=v*D.length) ((atV es v (l.take k)).toNat*D.length+(atS es D 0 (l.take k)).toNat) (l.take k) (atC es (l.take k))
 |0,_=>by
  simp only[List.take_zero]
  refine .nil ?_
  show (v:Int).toNat*D.length+(0:Int).toNat=v*D.length
  simp
 |k+1,hk=>by
  have ih:=b1R ok no hv h k (by omega)
  obtain ⟨e,he⟩:∃e,l[k]?=some e:=⟨l[k],List.getElem?_eq_getElem (by omega)⟩
  obtain ⟨h1,h2⟩:=h k e he
  have hr:=(h.take k).range no hv
  have hs:=a3J ok (wdOf es (l.take k)) 0 (by omega) (by have:=ok.l0; omega) ((h.take k).md no)
  rw[<-a7j] at hs
  rw[a2H he,a5m,a8R,a6L]
  have hm:=a7v (s:=(atS es D 0 (l.take k)).toNat) ok no h1 (by omega)
  have e1:src es D.length e (atS es D 0 (l.take k)).toNat=(atV es v (l.take k)).toNat*D.length+(atS es D 0 (l.take k)).toNat:=by rw[src,h2]
  have e2:dst es D e (atS es D 0 (l.take k)).toNat=(eg es e).to.toNat*D.length+(nx D (atS es D 0 (l.take k)) (eg es e).md).toNat:=by
   rw[dst,show (((atS es D 0 (l.take k)).toNat:Nat):Int)=atS es D 0 (l.take k) by omega]
  rw[e1,e2] at hm
  exact .snoc ih hm
theorem bv_lw (ok:DOk D acc)(no:NetOk N es){v u:Nat}(hv:v<N)(hu:u<N){c:Nat->Int}(lc:LC (N*D.length) (hopA es D.length (onL es D)) (fun x=>x=v*D.length) c) :
  LW es v u (fun w=>gi acc (goS D 0 w)=true) (bv c acc (u*D.length) D.length):=by
 have main:∀l,OkW es v l->atV es v l=u->gi acc (goS D 0 (wdOf es l))=true->0<=bv c acc (u*D.length) D.length/\bv c acc (u*D.length) D.length<=atC es l:=by
  intro l h1 h2 h3
  have hw:=b1R ok no hv h1 l.length (Nat.le_refl _)
  rw[List.take_length,h2,a7j,Int.toNat_natCast] at hw
  have hs:=a3J ok (wdOf es l) 0 (by omega) (by have:=ok.l0; omega) (h1.md no)
  have hx:=spotN (N:=N) (v:=u) (S:=D.length) (s:=(goS D 0 (wdOf es l)).toNat) hu (by omega)
  have h4:0<=c (u*D.length+(goS D 0 (wdOf es l)).toNat)/\c (u*D.length+(goS D 0 (wdOf es l)).toNat)<=atC es l:=by
   rcases lc _ hx with ⟨k1,_,k2⟩|⟨_,k2⟩
   ·exact ⟨k1,k2 _ _ hw⟩
   ·exact absurd hw (k2 _ _)
  have h5:gi acc (((goS D 0 (wdOf es l)).toNat:Nat):Int)=true:=by rw[show (((goS D 0 (wdOf es l)).toNat:Nat):Int)=goS D 0 (wdOf es l) by omega]; exact h3
  rcases a3I (c:=c) (acc:=acc) (b:=u*D.length) D.length with ⟨k1,k2⟩|⟨q,k1,k2,k3,k4,k5⟩
  ·have:=k2 _ (by omega) h5
   omega
  ·have:=k5 _ (by omega) h5 h4.1
   omega
 refine ⟨?_,main⟩
 rcases a3I (c:=c) (acc:=acc) (b:=u*D.length) D.length with ⟨k1,k2⟩|⟨q,k1,k2,k3,k4,k5⟩
 ·exact .inl k1
 ·rcases lc _ (spotN hu k1) with ⟨p1,⟨l,p2⟩,p3⟩|⟨p1,_⟩
  ·obtain ⟨w1,w2,w3,w4,w5⟩:=b0b ok no hv p2
   obtain ⟨d1,d2⟩:=a4Q (v:=u) (S:=D.length) (s:=q) k1
   rw[d1] at w2
   rw[d2,a7j] at w3
   exact .inr ⟨by omega,l,w1,w2,by rw[w3]; exact k2,by rw[w4,k4]⟩
  ·omega
end
end Go.Gm.AQ
namespace Go.Gm
section
variable {δ:Nat->Nat->Nat} {S:Nat} {c x:Nat->Int} {acc:Nat->Bool}
def Alk (δ:Nat->Nat->Nat)(c:Nat->Int)(a b:Nat):Prop:=c a=c b/\∀m,m<5->c (δ a m)=c (δ b m)
theorem Alk.refl (a:Nat):Alk δ c a a:=⟨rfl,fun _ _=>rfl⟩
theorem Alk.symm {a b:Nat}(h:Alk δ c a b):Alk δ c b a:=⟨h.1.symm,fun m hm=>(h.2 m hm).symm⟩
theorem Alk.trans {a b d:Nat}(h:Alk δ c a b)(k:Alk δ c b d):Alk δ c a d:=⟨h.1.trans k.1,fun m hm=>(h.2 m hm).trans (k.2 m hm)⟩
def Neu (c:Nat->Int)(i:Nat):Prop:=∀j,j<i->c j≠c i
noncomputable def cntP (p:Nat->Prop):Nat->Nat
 |0=>0
 |n+1=>cntP p n+(open Classical in if p n then 1 else 0)
theorem a2I {p:Nat->Prop}{n:Nat}(h:p n):cntP p (n+1)=cntP p n+1:=by simp[cntP,h]
theorem a2J {p:Nat->Prop}{n:Nat}(h:¬p n):cntP p (n+1)=cntP p n:=by simp[cntP,h]
theorem a6j (p:Nat->Prop):∀n,cntP p n<=n
 |0=>Nat.le_refl _
 |n+1=>by
  have:=a6j p n
  by_cases h:p n
  ·rw[a2I h]; omega
  ·rw[a2J h]; omega
theorem a2K {p q:Nat->Prop}:∀n,(∀i,i<n->p i->q i)->cntP p n<=cntP q n
 |0,_=>Nat.le_refl _
 |n+1,h=>by
  have:=a2K n fun i hi=>h i (by omega)
  by_cases hp:p n
  ·rw[a2I hp,a2I (h n (by omega) hp)]; omega
  ·by_cases hq:q n
   ·rw[a2J hp,a2I hq]; omega
   ·rw[a2J hp,a2J hq]; omega
theorem a7z {p q:Nat->Prop}:∀n,(∀i,i<n->p i->q i)->cntP p n=cntP q n->∀i,i<n->q i->p i
 |0,_,_=>fun i hi=>by omega
 |n+1,h,e=>by
  have h1:=a2K n fun i hi=>h i (by omega)
  intro i hi hqi
  by_cases hp:p n
  ·rw[a2I hp,a2I (h n (by omega) hp)] at e
   by_cases q:i=n
   ·subst q; exact hp
   ·exact a7z n (fun i hi=>h i (by omega)) (by omega) i (by omega) hqi
  ·by_cases hq:q n
   ·rw[a2J hp,a2I hq] at e; omega
   ·rw[a2J hp,a2J hq] at e
    by_cases q':i=n
    ·subst q'; exact absurd hqi hq
    ·exact a7z n (fun i hi=>h i (by omega)) e i (by omega) hqi
theorem a7k {p q:Nat->Prop}(n:Nat)(h:∀i,i<n->(p i↔q i)):cntP p n=cntP q n:=
 Nat.le_antisymm (a2K n fun i hi=>(h i hi).1) (a2K n fun i hi=>(h i hi).2)
structure Finer (δ:Nat->Nat->Nat) (S:Nat) (c x:Nat->Int) (k:Nat):Prop where
 al:∀a b,a<S->b<S->(x a=x b↔Alk δ c a b)
 rng:∀a,a<S->0<=x a/\x a<k
 cnt:k=cntP (Neu x) S
theorem Finer.neu {k:Nat}(f:Finer δ S c x k):∀i,i<S->Neu c i->Neu x i:=fun i hi h j hj e=>h j hj ((f.al j i (by omega) hi).1 e).1
theorem Finer.le {k:Nat}(f:Finer δ S c x k):cntP (Neu c) S<=k:=by rw[f.cnt]; exact a2K S f.neu
theorem Finer.kS {k:Nat}(f:Finer δ S c x k):k<=S:=by rw[f.cnt]; exact a6j _ _
theorem Finer.pos {k:Nat}(f:Finer δ S c x k)(hS:0<S):0<k:=by have:=f.rng 0 hS; omega
theorem rep (x:Nat->Int):∀a,∃j,j<=a/\x j=x a/\Neu x j:=by
 intro a
 induction a using Nat.strongRecOn with
 |ind a ih=>
  by_cases h:Neu x a
  ·exact ⟨a,Nat.le_refl _,rfl,h⟩
  ·obtain ⟨j,h1⟩:=Classical.not_forall.1 h
   obtain ⟨hj,h2⟩:=Classical.not_imp.1 h1
   obtain ⟨r,r1,r2,r3⟩:=ih j hj
   exact ⟨r,by omega,r2.trans (Classical.not_not.1 h2),r3⟩
theorem Finer.same {k:Nat}(f:Finer δ S c x k)(hk:k=cntP (Neu c) S){a b:Nat}(ha:a<S)(hb:b<S)(h:c a=c b):x a=x b:=by
 have hn:=a7z S f.neu (hk.symm.trans f.cnt)
 obtain ⟨i,i1,i2,i3⟩:=rep x a
 obtain ⟨j,j1,j2,j3⟩:=rep x b
 have n1:=hn i (by omega) i3
 have n2:=hn j (by omega) j3
 have e1:=((f.al i a (by omega) ha).1 i2).1
 have e2:=((f.al j b (by omega) hb).1 j2).1
 have e3:c i=c j:=e1.trans (h.trans e2.symm)
 have:i=j:=by
  rcases Nat.lt_trichotomy i j with q|q|q
  ·exact absurd e3 (n2 i q)
  ·exact q
  ·exact absurd e3.symm (n1 j q)
 subst this
 exact i2.symm.trans j2
structure Stab (δ:Nat->Nat->Nat) (acc:Nat->Bool) (S:Nat) (x:Nat->Int):Prop where
 ac:∀a b,a<S->b<S->x a=x b->acc a=acc b
 to:∀a b,a<S->b<S->x a=x b->∀m,m<5->x (δ a m)=x (δ b m)
 rng:∀a,a<S->0<=x a/\x a<S
theorem Finer.stab {k:Nat}(f:Finer δ S c x k)(hk:k=cntP (Neu c) S)(hδ:∀a m,a<S->m<5->δ a m<S)(hc:∀a b,a<S->b<S->c a=c b->acc a=acc b):Stab δ acc S x:=
 ⟨fun a b ha hb h=>hc a b ha hb ((f.al a b ha hb).1 h).1,fun a b ha hb h m hm=>f.same hk (hδ a m ha hm) (hδ b m hb hm) (((f.al a b ha hb).1 h).2 m hm),fun a ha=>by have:=f.rng a ha; have:=f.kS; omega⟩
structure FI (δ:Nat->Nat->Nat) (c:Nat->Int) (F:Nat->Nat) (n:Nat) (x:Nat->Int) (i:Nat):Prop where
 le:∀r,r<n->F r<i/\x (F r)=r
 cl:∀j,j<i->0<=x j/\x j<n/\Alk δ c (F (x j).toNat) j
 ds:∀r s,r<n->s<n->Alk δ c (F r) (F s)->r=s
 ct:n=cntP (Neu x) i
theorem FI.zero (F:Nat->Nat)(x:Nat->Int):FI δ c F 0 x 0:=⟨fun r h=>by omega,fun j h=>by omega,fun r s h=>by omega,rfl⟩
theorem FI.old {F:Nat->Nat}{n i:Nat}(f:FI δ c F n x i){k:Nat}(hk:k<n)(h:Alk δ c (F k) i):FI δ c F n (fun j=>if j=i then (k:Int) else x j) (i+1):=by
 have hne:∀j,j<i->¬j=i:=fun j h=>by omega
 refine ⟨fun r hr=>?_,fun j hj=>?_,f.ds,?_⟩
 ·obtain ⟨h1,h2⟩:=f.le r hr
  exact ⟨by omega,by rw[if_neg (hne _ h1)]; exact h2⟩
 ·by_cases q:j=i
  ·subst q
   simp only[if_true,Int.toNat_natCast]
   exact ⟨by omega,by omega,h⟩
  ·simp only[if_neg q]
   exact f.cl j (by omega)
 ·have hc:cntP (Neu fun j=>if j=i then (k:Int) else x j) i=cntP (Neu x) i:=a7k i fun j hj=>by
   constructor
   ·intro h2 j' hj' e
    refine h2 j' hj' ?_
    simp only[if_neg (hne j' (by omega)),if_neg (hne j hj)]; exact e
   ·intro h2 j' hj' e
    simp only[if_neg (hne j' (by omega)),if_neg (hne j hj)] at e
    exact h2 j' hj' e
  rw[a2J,hc]
  ·exact f.ct
  ·intro h2
   obtain ⟨h3,h4⟩:=f.le k hk
   refine h2 (F k) h3 ?_
   simp only[if_neg (hne _ h3),if_true]; exact h4
theorem FI.neu {F:Nat->Nat}{n i:Nat}(f:FI δ c F n x i)(h:∀k,k<n->¬Alk δ c (F k) i):FI δ c (fun r=>if r=n then i else F r) (n+1) (fun j=>if j=i then (n:Int) else x j) (i+1):=by
 have hne:∀j,j<i->¬j=i:=fun j h=>by omega
 have hnn:∀j,j<n->¬j=n:=fun j h=>by omega
 refine ⟨fun r hr=>?_,fun j hj=>?_,fun r s hr hs h2=>?_,?_⟩
 ·by_cases q:r=n
  ·subst q; simp only[if_true]; exact ⟨by omega,trivial⟩
  ·obtain ⟨h1,h2⟩:=f.le r (by omega)
   simp only[if_neg q,if_neg (hne _ h1)]; exact ⟨by omega,h2⟩
 ·by_cases q:j=i
  ·subst q
   simp only[if_true,Int.toNat_natCast]
   exact ⟨by omega,by omega,Alk.refl j⟩
  ·obtain ⟨h1,h2,h3⟩:=f.cl j (by omega)
   simp only[if_neg q,if_neg (hnn (x j).toNat (by omega))]
   exact ⟨h1,by omega,h3⟩
 ·by_cases q:r=n
  ·subst q
   by_cases q2:s=r
   ·exact q2.symm
   ·simp only[if_true,if_neg q2] at h2
    exact absurd h2.symm (h s (by omega))
  ·by_cases q2:s=n
   ·subst q2
    simp only[if_true,if_neg q] at h2
    exact absurd h2 (h r (by omega))
   ·simp only[if_neg q,if_neg q2] at h2
    exact f.ds r s (by omega) (by omega) h2
 ·have hc:cntP (Neu fun j=>if j=i then (n:Int) else x j) i=cntP (Neu x) i:=a7k i fun j hj=>by
   constructor
   ·intro h2 j' hj' e
    refine h2 j' hj' ?_
    simp only[if_neg (hne j' (by omega)),if_neg (hne j hj)]; exact e
   ·intro h2 j' hj' e
    simp only[if_neg (hne j' (by omega)),if_neg (hne j hj)] at e
    exact h2 j' hj' e
  rw[a2I,hc,<-f.ct]
  intro j hj e
  simp only[if_neg (hne j hj),if_true] at e
  have:=f.cl j hj
  omega
theorem FI.fin {F:Nat->Nat}{n:Nat}(f:FI δ c F n x S):Finer δ S c x n:=by
 refine ⟨fun a b ha hb=>⟨fun h=>?_,fun h=>?_⟩,fun a ha=>⟨(f.cl a ha).1,(f.cl a ha).2.1⟩,f.ct⟩
 ·have h1:=(f.cl a ha).2.2
  have h2:=(f.cl b hb).2.2
  rw[h] at h1
  exact h1.symm.trans h2
 ·obtain ⟨a1,a2,a3⟩:=f.cl a ha
  obtain ⟨b1,b2,b3⟩:=f.cl b hb
  have:=f.ds _ _ (by omega) (by omega) ((a3.trans h).trans b3.symm)
  omega
end
end Go.Gm
namespace Go.Gm.AQ
open Go Go.Gm
def dl (D:List (List Int))(a m:Nat):Nat:=(nx D a m).toNat
section
variable {D:List (List Int)} {acc:List Bool} {h:Heap}
theorem dl_lt (ok:DOk D acc){a m:Nat}(ha:a<D.length)(hm:m<5):dl D a m<D.length:=by
 have:=ok.to a m (by omega) (by omega) (by omega) (by omega)
 have:0<=nx D a m/\nx D a m<D.length:=this
 rw[dl]; omega
theorem cellN {sD:AV}(ok:DOk D acc)(hD:Sl h 5 sD (D.map encR)){H:Heap}(e:Ext h H){a m:Nat}(ha:a<D.length)(hm:m<5) :
  ∃p,idxA 5 1 (elP 5 sD a) (I m)=some p/\Gm.ld1 H p=some (I (dl D a m)):=by
 obtain ⟨p,p1,p2,-⟩:=cellA (H:=H) hD e (i:=(a:Int)) (j:=(m:Int)) (by omega) (by omega) (by omega) (by omega)
 have hr:=ok.row a (by omega) (by omega)
 have h2:0<=nx D a m/\nx D a m<D.length:=ok.to a m (by omega) (by omega) (by omega) (by omega)
 refine ⟨p,p1,p2.trans ?_⟩
 simp only[encR,List.getD_eq_getElem?_getD,List.getElem?_map,Int.toNat_natCast]
 have:=f3_ (xs:=gi D a) (i:=(m:Int)) (by omega) (by omega)
 rw[Int.toNat_natCast] at this
 rw[this]
 show some (I (nx D a m))=some (I ((nx D a m).toNat:Int))
 rw[show ((nx D a m).toNat:Int)=nx D a m by omega]
theorem b2O {sD sA sc:AV}{cs:List Int}{a b od:Nat}(ok:DOk D acc)(hD:Sl h 5 sD (D.map encR))(hc:Sl h 1 sc (cs.map encI))(lc:cs.length=D.length)(ha:a<D.length)(hb:b<D.length)(he:gf cs a=gf cs b)(rd:h[od]?=some (.cells ⟨[sD,sA],0,0,false⟩)) :
  ∀(d m:Nat),m+d=5->(∀m',m'<m->gf cs (dl D a m')=gf cs (dl D b m'))->
   WP (fun p:Nat × Nat=>o4_ p.1 p.2 sc (I a) (I b) (.ptr od 0 2 0) (I m) h) fun r h'=>h=h'/\∃t,r=.bool t/\(t=true↔Alk (dl D) (gf cs) a b):=by
 intro d
 induction d with
 |zero=>
  intro m h1 hm
  refine WP.rnd (fun i j=>a0s i j sc (I a) (I b) (.ptr od 0 2 0) (I m) h) ?_
  obtain rfl:m=5:=by omega
  simp -implicitDefEqProofs (disch:=first|assumption|omega|(simp only[gL,gA]<;>omega)|fail) only[gC,reduceIte]
  exact WP.ret ⟨rfl,true,rfl,fun _=>⟨he,hm⟩,fun _=>rfl⟩
 |succ d ih=>
  intro m h1 hm
  refine WP.rnd (fun i j=>a0s i j sc (I a) (I b) (.ptr od 0 2 0) (I m) h) ?_
  obtain ⟨p,p1,p2⟩:=cellN ok hD (Ext.refl h) ha (m:=m) (by omega)
  obtain ⟨q,q1,q2⟩:=cellN ok hD (Ext.refl h) hb (m:=m) (by omega)
  have x1:=dl_lt ok ha (m:=m) (by omega)
  have x2:=dl_lt ok hb (m:=m) (by omega)
  by_cases q:gi cs (dl D a m:Int)=gi cs (dl D b m:Int)
  ·simp -implicitDefEqProofs (disch:=first|assumption|omega|exact Ext.refl _|(simp only[gL,gA]<;>omega)|fail) only[gC,reduceIte,rd,hD.idxG,p1,p2,q1,q2,hc.idxG,hc.ld0,encI,q]
   refine ih (m+1) (by omega) fun m' hm'=>?_
   by_cases z:m'=m
   ·subst z; exact q
   ·exact hm m' (by omega)
  ·simp -implicitDefEqProofs (disch:=first|assumption|omega|exact Ext.refl _|(simp only[gL,gA]<;>omega)|fail) only[gC,reduceIte,rd,hD.idxG,p1,p2,q1,q2,hc.idxG,hc.ld0,encI]
   exact WP.ret ⟨rfl,false,rfl,fun z=>by simp at z,fun z=>absurd (z.2 m (by omega)) q⟩
theorem b0C {sD sA sc:AV}{cs:List Int}{a b:Nat}(ok:DOk D acc)(hD:Sl h 5 sD (D.map encR))(hA:Sl h 1 sA (acc.map encB))(hc:Sl h 1 sc (cs.map encI))(lc:cs.length=D.length)(ha:a<D.length)(hb:b<D.length) :
  Tot tab o8_ [.agg [sD,sA],sc,I a,I b] h fun r h'=>Ext h h'/\∃t,r=.bool t/\(t=true↔Alk (dl D) (gf cs) a b):=by
 refine WP.tot (fun k=>a4u k _ _ _ _ h) ?_
 obtain ⟨h1,hh1⟩:∃h1,h1=h++[AObj.cells ⟨[sD,sA],0,0,false⟩]:=⟨_,rfl⟩
 have e1:Ext h h1:=by rw[hh1]; exact Ext.push _ _
 have rd:h1[h.length]?=some (.cells ⟨[sD,sA],0,0,false⟩):=by rw[hh1]; simp
 have hc1:=hc.ext e1
 by_cases q:gi cs (a:Int)=gi cs (b:Int)
 ·simp -implicitDefEqProofs (maxSteps:=1000000) (disch:=first|assumption|omega|(simp only[gL]<;>omega)|((repeat (first|exact Ext.refl _|assumption|apply Ext.app|apply Ext.mk|(refine Ext.setr ?_ (by (first|omega|(simp only[gL]<;>omega))) _))); done)|(simp only[gL,gA,hD.one,hD.cells,hA.one,hA.cells,hc.idxG]<;>omega)|fail) only[gB,setAll,partL,fldV,reduceIte,Nat.reduceAdd,Nat.reduceMul,hD.one,hD.cells,hA.one,hA.cells,hc.idxG]
  rw[<-hh1]
  simp -implicitDefEqProofs (maxSteps:=1000000) (disch:=first|assumption|omega|(simp only[gL]<;>omega)|((repeat (first|exact Ext.refl _|assumption|apply Ext.app|apply Ext.mk|(refine Ext.setr ?_ (by (first|omega|(simp only[gL]<;>omega))) _))); done)|(simp only[gL,gA,hc1.ld0,encI,q]<;>omega)|fail) only[gB,setAll,partL,fldV,reduceIte,Nat.reduceAdd,Nat.reduceMul,hc1.ld0,encI,q]
  refine WP.ent ((b2O ok (hD.ext e1) hc1 lc ha hb q rd 5 0 (by omega) fun m hm=>by omega).mono ?_) fun i=>rfl
  rintro r h' ⟨rfl,t,rfl,ht⟩
  exact ⟨e1,t,rfl,ht⟩
 ·simp -implicitDefEqProofs (maxSteps:=1000000) (disch:=first|assumption|omega|(simp only[gL]<;>omega)|((repeat (first|exact Ext.refl _|assumption|apply Ext.app|apply Ext.mk|(refine Ext.setr ?_ (by (first|omega|(simp only[gL]<;>omega))) _))); done)|(simp only[gL,gA,hD.one,hD.cells,hA.one,hA.cells,hc.idxG]<;>omega)|fail) only[gB,setAll,partL,fldV,reduceIte,Nat.reduceAdd,Nat.reduceMul,hD.one,hD.cells,hA.one,hA.cells,hc.idxG]
  rw[<-hh1]
  simp -implicitDefEqProofs (maxSteps:=1000000) (disch:=first|assumption|omega|(simp only[gL]<;>omega)|((repeat (first|exact Ext.refl _|assumption|apply Ext.app|apply Ext.mk|(refine Ext.setr ?_ (by (first|omega|(simp only[gL]<;>omega))) _))); done)|(simp only[gL,gA,hc1.ld0,encI]<;>omega)|fail) only[gB,setAll,partL,fldV,reduceIte,Nat.reduceAdd,Nat.reduceMul,hc1.ld0,encI]
  exact WP.ret ⟨e1,false,rfl,fun z=>by simp at z,fun z=>absurd z.1 q⟩
def encN (n:Nat):List AV:=[I n]
theorem b0c (F:List Nat)(i:Nat):gf (F++[i])=fun r:Nat=>if r=F.length then i else gf F r:=by
 funext r
 simp only[gf,gi,Int.toNat_natCast,List.getD_eq_getElem?_getD]
 by_cases q:r<F.length
 ·rw[List.getElem?_append_left q,if_neg (by omega)]
 ·by_cases q2:r=F.length
  ·subst q2; simp
  ·rw[if_neg q2,List.getElem?_eq_none (by simp; omega),List.getElem?_eq_none (by omega)]
theorem b2P {sD sA sc out first:AV}{cs:List Int}{F:List Nat}{i od:Nat}{Q:AV->Heap->Prop}(ok:DOk D acc)(hD:Sl h 5 sD (D.map encR))(hA:Sl h 1 sA (acc.map encB))(hc:Sl h 1 sc (cs.map encI))(lc:cs.length=D.length)(rd:h[od]?=some (.cells ⟨[sD,sA],0,0,false⟩))(hF:Sl h 1 first (F.map encN))(hFS:∀r,r<F.length->gf F r<D.length)(hFl:F.length<=100000)(hi:i<D.length)(hQ:∀h' kk,Ext h h'->kk<=F.length->(kk<F.length->Alk (dl D) (gf cs) (gf F kk) i)->(∀k,k<kk->¬Alk (dl D) (gf cs) (gf F k) i)->
   WP (fun p:Nat × Nat=>v3_ p.1 p.2 sc (.ptr od 0 2 0) out first (I i) (I kk) h') Q) :
  ∀(d k:Nat) (h1:Heap),k+d=F.length->Ext h h1->(∀k',k'<k->¬Alk (dl D) (gf cs) (gf F k') i)->
   WP (fun p:(Nat × Nat) × Nat=>o3_ p.1.1 p.1.2 p.2 sc (.ptr od 0 2 0) out first (I i) (I k) h1) Q:=by
 intro d
 induction d with
 |zero=>
  intro k h1 hk e hn
  refine WP.rnd (fun i' j=>a0o i'.1 i'.2 j sc (.ptr od 0 2 0) out first (I i) (I k) h1) ?_
  obtain rfl:k=F.length:=by omega
  have hF1:=hF.ext e
  simp -implicitDefEqProofs (disch:=first|assumption|omega|(simp only[gL,gA]<;>omega)|fail) only[gC,reduceIte,hF1.lenG]
  exact WP.lv (hQ h1 F.length e (Nat.le_refl _) (fun z=>by omega) hn) fun i j=>rfl
 |succ d ih=>
  intro k h1 hk e hn
  refine WP.rnd (fun i' j=>a0o i'.1 i'.2 j sc (.ptr od 0 2 0) out first (I i) (I k) h1) ?_
  have hF1:=hF.ext e
  have rd1:=e.get rd
  have hkF:k<F.length:=by omega
  obtain ⟨f,hf⟩:∃f,gi F (k:Int)=f:=⟨_,rfl⟩
  have hfS:f<D.length:=hf▸hFS k hkF
  simp -implicitDefEqProofs (disch:=first|assumption|omega|exact Ext.refl _|(simp only[gL,gA]<;>omega)|fail) only[gC,reduceIte,hF1.lenG,hF1.idxG,hF1.ld0,hf,encN,rd1]
  refine WP.call (b0C ok (hD.ext e) (hA.ext e) (hc.ext e) lc hfS hi) ?_
  rintro _ h2 ⟨e2,t,rfl,ht⟩
  cases t with
  |true=>
   simp -implicitDefEqProofs (disch:=first|assumption|omega|(simp only[gL,gA]<;>omega)|fail) only[gC,reduceIte]
   refine WP.lv (hQ h2 k (e.trans e2) (by omega) (fun _=>?_) hn) fun i j=>rfl
   rw[show gf F k=f from hf]; exact ht.1 rfl
  |false=>
   simp -implicitDefEqProofs (disch:=first|assumption|omega|(simp only[gL,gA]<;>omega)|fail) only[gC,reduceIte]
   refine ih (k+1) h2 (by omega) (e.trans e2) fun k' hk'=>?_
   by_cases z:k'=k
   ·subst z
    rw[show gf F k'=f from hf]
    intro z2
    have:=ht.2 z2
    simp at this
   ·exact hn k' (by omega)
theorem b2Q {hb:Heap}{sD sA sc out:AV}{cs:List Int}{od oo:Nat}(ok:DOk D acc)(hD:Sl hb 5 sD (D.map encR))(hA:Sl hb 1 sA (acc.map encB))(hc:Sl hb 1 sc (cs.map encI))(lc:cs.length=D.length)(rd:hb[od]?=some (.cells ⟨[sD,sA],0,0,false⟩))(ho:hb.length<=oo) :
  ∀(d i:Nat) (h:Heap) (first:AV) (xs:List Int) (F:List Nat),i+d=D.length->Ext hb h->oo<h.length->Gr oo (oo+1) h 1 out (xs.map encI)->xs.length=D.length->Gr (oo+1) h.length h 1 first (F.map encN)->
   FI (dl D) (gf cs) (gf F) F.length (gf xs) i->
   WP (fun p:Nat × Nat=>o2_ p.1 p.2 sc (.ptr od 0 2 0) out first (I i) h) fun r h'=>Ext hb h'/\∃(k:Nat) (xs:List Int),r=.tup [out,I k]/\Gr oo (oo+1) h' 1 out (xs.map encI)/\xs.length=D.length/\Finer (dl D) D.length (gf cs) (gf xs) k:=by
 have l1:=ok.l1
 intro d
 induction d with
 |zero=>
  intro i h first xs F h1 e hoo g lx gF fi
  refine WP.rnd (fun i' j=>a0p i' j sc (.ptr od 0 2 0) out first (I i) h) ?_
  obtain rfl:i=D.length:=by omega
  have hc1:=hc.ext e
  simp -implicitDefEqProofs (disch:=first|assumption|omega|(simp only[gL,gA]<;>omega)|fail) only[gC,reduceIte,hc1.lenG,lc]
  refine WP.lv (WP.congr (fun k:Nat=>a3j k out first h) ?_) fun i j=>rfl
  simp -implicitDefEqProofs (disch:=first|assumption|omega|(simp only[gL,gA]<;>omega)|fail) only[gC,reduceIte,gF.sl.lenG]
  exact WP.ret ⟨e,F.length,xs,rfl,g,lx,fi.fin⟩
 |succ d ih=>
  intro i h first xs F h1 e hoo g lx gF fi
  refine WP.rnd (fun i' j=>a0p i' j sc (.ptr od 0 2 0) out first (I i) h) ?_
  have hc1:=hc.ext e
  have hiD:i<D.length:=by omega
  have hFn:F.length<=i:=by rw[fi.ct]; exact a6j _ _
  simp -implicitDefEqProofs (disch:=first|assumption|omega|(simp only[gL,gA]<;>omega)|fail) only[gC,reduceIte,hc1.lenG,lc]
  refine WP.ent (b2P ok (hD.ext e) (hA.ext e) hc1 lc (e.get rd) gF.sl (fun r hr=>?_) (by omega) hiD (fun h2 kk e2 k1 k2 k3=>?_) F.length 0 h (by omega) (Ext.refl _) fun k' hk'=>by omega) fun i=>rfl
  ·have:=(fi.le r hr).1; omega
  ·refine WP.congr (fun p=>a3i p.1 p.2 sc (.ptr od 0 2 0) out first (I i) (I kk) h2) ?_
   have gF2:=gF.ext e2
   have l2:=e2.len
   by_cases q:kk=F.length
   ·have hcz:gf (xs.set i (F.length:Int))=fun j=>if j=i then (F.length:Int) else gf xs j:=gset (by omega) _
    obtain ⟨s',h3,q1,q2,q3⟩:=Gr.append1 (bytes:=8) (gF2.low h2.length (Nat.le_refl _)) (v:=encN i) rfl (by omega) (by omega) (by simp; omega) (by omega) (Nat.le_refl _)
    rw[a4_] at q1
    simp only[encN] at q1
    have l3:=q3.1
    have g3:=(g.ext e2).fr q3 (.inl (Nat.le_refl _))
    have e3:Ext hb h3:=q3.ext (e.trans e2) (by omega)
    obtain ⟨h4,w1,w2,w3,w4⟩:=g3.write0 (i:=(i:Int)) (v:=I F.length) (by omega) (by simp; omega) rfl rfl
    simp -implicitDefEqProofs (disch:=first|assumption|omega|(simp only[gL,gA]<;>omega)|fail) only[gC,reduceIte,gF2.sl.lenG,q1]
    refine WP.congr (fun p=>a0n p.1 p.2 sc (.ptr od 0 2 0) out s' (I i) (I kk) h3) ?_
    rw[q]
    simp -implicitDefEqProofs (disch:=first|assumption|omega|(simp only[gL,gA]<;>omega)|fail) only[gC,reduceIte,g3.sl.idxG,w1]
    refine WP.congr (fun p=>a0m p.1 p.2 sc (.ptr od 0 2 0) out s' (I i) h4) ?_
    simp -implicitDefEqProofs (disch:=first|assumption|omega|(simp only[gL,gA]<;>omega)|fail) only[gC,reduceIte]
    refine ih (i+1) h4 s' (xs.set i (F.length:Int)) (F++[i]) (by omega) (w3.ext e3 (by omega)) (by omega) (w2.cong ?_) (by simpa using lx) (((q2.fr w3 (.inr (Nat.le_refl _))).mono (Nat.le_refl _) (by omega)).cong ?_) ?_
    ·rw[List.map_set]; rfl
    ·rw[List.map_append]; rfl
    ·rw[b0c,hcz,List.length_append]
     exact fi.neu fun k hk=>k3 k (by omega)
   ·have hkk:kk<F.length:=by omega
    have hcz:gf (xs.set i (kk:Int))=fun j=>if j=i then (kk:Int) else gf xs j:=gset (by omega) _
    have g3:=g.ext e2
    obtain ⟨h4,w1,w2,w3,w4⟩:=g3.write0 (i:=(i:Int)) (v:=I kk) (by omega) (by simp; omega) rfl rfl
    simp -implicitDefEqProofs (disch:=first|assumption|omega|(simp only[gL,gA]<;>omega)|fail) only[gC,reduceIte,gF2.sl.lenG]
    refine WP.congr (fun p=>a0n p.1 p.2 sc (.ptr od 0 2 0) out first (I i) (I kk) h2) ?_
    simp -implicitDefEqProofs (disch:=first|assumption|omega|(simp only[gL,gA]<;>omega)|fail) only[gC,reduceIte,g3.sl.idxG,w1]
    refine WP.congr (fun p=>a0m p.1 p.2 sc (.ptr od 0 2 0) out first (I i) h4) ?_
    simp -implicitDefEqProofs (disch:=first|assumption|omega|(simp only[gL,gA]<;>omega)|fail) only[gC,reduceIte]
    refine ih (i+1) h4 first (xs.set i (kk:Int)) F (by omega) (w3.ext (e.trans e2) (by omega)) (by omega) (w2.cong ?_) (by simpa using lx) ((gF2.fr w3 (.inr (Nat.le_refl _))).mono (Nat.le_refl _) (by omega)) ?_
    ·rw[List.map_set]; rfl
    ·rw[hcz]; exact fi.old hkk (k2 hkk)
theorem b0D {sD sA sc:AV}{cs:List Int}(ok:DOk D acc)(hD:Sl h 5 sD (D.map encR))(hA:Sl h 1 sA (acc.map encB))(hc:Sl h 1 sc (cs.map encI))(lc:cs.length=D.length) :
  Tot tab c6_ [.agg [sD,sA],sc] h fun r h'=>Ext h h'/\∃(out:AV) (k:Nat) (xs:List Int),r=.tup [out,I k]/\Gr h.length h'.length h' 1 out (xs.map encI)/\xs.length=D.length/\Finer (dl D) D.length (gf cs) (gf xs) k:=by
 refine WP.tot (fun k=>a4t k _ _ h) ?_
 have l1:=ok.l1
 obtain ⟨h1,hh1⟩:∃h1,h1=h++[AObj.cells ⟨[sD,sA],0,0,false⟩]:=⟨_,rfl⟩
 have e1:Ext h h1:=by rw[hh1]; exact Ext.push _ _
 have rd:h1[h.length]?=some (.cells ⟨[sD,sA],0,0,false⟩):=by rw[hh1]; simp
 have hl1:h1.length=h.length+1:=by rw[hh1]; simp
 obtain ⟨s2,h2,a2,g2,e2,_,l2⟩:=n1_ (zero:=[AV.int .i64 0]) (sz:=1) (bytes:=8) (n:=(D.length:Int)) h1 (by omega) (by omega) (by omega) rfl rfl
 have hre:List.replicate (D.length:Int).toNat [AV.int .i64 0]=(List.replicate D.length (0:Int)).map encI:=by simp[encI,I]
 rw[hre] at g2
 simp -implicitDefEqProofs (maxSteps:=1000000) (disch:=first|assumption|omega|(simp only[gL]<;>omega)|((repeat (first|exact Ext.refl _|assumption|apply Ext.app|apply Ext.mk|(refine Ext.setr ?_ (by (first|omega|(simp only[gL]<;>omega))) _))); done)|(simp only[gL,gA,hD.one,hD.cells,hA.one,hA.cells,hc.lenG,lc]<;>omega)|fail) only[gB,setAll,partL,fldV,reduceIte,Nat.reduceAdd,Nat.reduceMul,hD.one,hD.cells,hA.one,hA.cells,hc.lenG,lc]
 rw[<-hh1]
 simp -implicitDefEqProofs (maxSteps:=1000000) (disch:=first|assumption|omega|(simp only[gL]<;>omega)|((repeat (first|exact Ext.refl _|assumption|apply Ext.app|apply Ext.mk|(refine Ext.setr ?_ (by (first|omega|(simp only[gL]<;>omega))) _))); done)|(simp only[gL,gA,a2]<;>omega)|fail) only[gB,setAll,partL,fldV,reduceIte,Nat.reduceAdd,Nat.reduceMul,a2]
 refine WP.ent ((b2Q ok (hD.ext e1) (hA.ext e1) (hc.ext e1) lc rd (Nat.le_refl _) D.length 0 h2 .nils _ [] (by omega) e2 (by omega) g2 (by simp) (Gr.nil ..) (FI.zero ..)).mono ?_) fun i=>rfl
 rintro r h3 ⟨e3,k,xs,rfl,g3,lx,f3⟩
 exact ⟨e1.trans e3,s2,k,xs,rfl,(g3.low _ (Nat.le_refl _)).mono (by omega) (Nat.le_refl _),lx,f3⟩
end
end Go.Gm.AQ
namespace Go.Gm.AQ
open Go Go.Gm
section
variable {D:List (List Int)} {acc:List Bool} {h:Heap}
theorem b1S {hb:Heap}{sD sA:AV}{od:Nat}(ok:DOk D acc)(hD:Sl hb 5 sD (D.map encR))(hA:Sl hb 1 sA (acc.map encB))(rd:hb[od]?=some (.cells ⟨[sD,sA],0,0,false⟩)) :
  ∀(d:Nat) (n:Nat) (h:Heap) (sc:AV) (cs:List Int),D.length+1<=d+n->Ext hb h->Gr hb.length h.length h 1 sc (cs.map encI)->cs.length=D.length->(n=0\/n=cntP (Neu (gf cs)) D.length)->(∀a b,a<D.length->b<D.length->gf cs a=gf cs b->gi acc (a:Int)=gi acc (b:Int))->
   WP (fun p:Nat × Nat=>m3_ p.1 p.2 (.ptr od 0 2 0) sc (I n) h) fun r h'=>Ext hb h'/\∃xs:List Int,Gr hb.length h'.length h' 1 r (xs.map encI)/\xs.length=D.length/\Stab (dl D) (fun a:Nat=>gi acc (a:Int)) D.length (gf xs):=by
 have l0:=ok.l0
 have l1:=ok.l1
 intro d
 induction d with
 |zero=>
  intro n h sc cs h1 e g lc hn hac
  have:n<=D.length:=by
   rcases hn with rfl|rfl
   ·omega
   ·exact a6j _ _
  omega
 |succ d ih=>
  intro n h sc cs h1 e g lc hn hac
  refine WP.rnd (fun i' j=>a2P i' j (.ptr od 0 2 0) sc (I n) h) ?_
  have rd1:=e.get rd
  simp -implicitDefEqProofs (disch:=first|assumption|omega|(simp only[gL,gA]<;>omega)|fail) only[gC,reduceIte,rd1]
  refine WP.call (b0D ok (hD.ext e) (hA.ext e) g.sl lc) ?_
  rintro _ h2 ⟨e2,out,k,xs,rfl,g2,lx,f2⟩
  have l2:=e.len
  have g2':Gr hb.length h2.length h2 1 out (xs.map encI):=g2.mono l2 (Nat.le_refl _)
  by_cases q:k=n
  ·simp -implicitDefEqProofs (disch:=first|assumption|omega|(simp only[gL,gA]<;>omega)|fail) only[gC,reduceIte,a9_,b0_]
   refine WP.ret ⟨e.trans e2,xs,g2',lx,?_⟩
   refine f2.stab ?_ (fun a m ha hm=>dl_lt ok ha hm) hac
   rcases hn with hn|hn
   ·have:=f2.pos l0; omega
   ·omega
  ·have hkn:n<k:=by
    rcases hn with hn|hn
    ·have:=f2.pos l0; omega
    ·have:=f2.le; omega
   simp -implicitDefEqProofs (disch:=first|assumption|omega|(simp only[gL,gA]<;>omega)|fail) only[gC,reduceIte,a9_,b0_]
   refine ih k h2 out xs (by omega) (e.trans e2) g2' lx (.inr f2.cnt) fun a b ha hb hab=>hac a b ha hb ((f2.al a b ha hb).1 hab).1
theorem b1T {hb:Heap}{sD sA sc:AV}{od:Nat}(ok:DOk D acc)(hD:Sl hb 5 sD (D.map encR))(hA:Sl hb 1 sA (acc.map encB))(rd:hb[od]?=some (.cells ⟨[sD,sA],0,0,false⟩)) :
  ∀(d i:Nat) (h:Heap) (cs:List Int),i+d=D.length->Ext hb h->hb.length+1=h.length->Gr hb.length (hb.length+1) h 1 sc (cs.map encI)->cs.length=D.length->(∀a:Nat,a<D.length->gf cs a=if a<i/\gi acc (a:Int)=true then 1 else 0)->
   WP (fun p:Nat × Nat=>h0_ p.1 p.2 (.ptr od 0 2 0) sc (I i) h) fun r h'=>Ext hb h'/\∃xs:List Int,Gr hb.length h'.length h' 1 r (xs.map encI)/\xs.length=D.length/\Stab (dl D) (fun a:Nat=>gi acc (a:Int)) D.length (gf xs):=by
 have l0:=ok.l0
 have l1:=ok.l1
 have la:=ok.la
 intro d
 induction d with
 |zero=>
  intro i h cs h1 e hl g lc hv
  refine WP.rnd (fun i' j=>y0_ i' j (.ptr od 0 2 0) sc (I i) h) ?_
  obtain rfl:i=D.length:=by omega
  simp -implicitDefEqProofs (disch:=first|assumption|omega|(simp only[gL,gA]<;>omega)|fail) only[gC,reduceIte,g.sl.lenG,lc]
  refine WP.lv (WP.congr (fun k:Nat=>a2Q k (.ptr od 0 2 0) sc h) ?_) fun i j=>rfl
  refine WP.ent (b1S ok hD hA rd (D.length+1) 0 h sc cs (by omega) e (g.low _ (Nat.le_refl _)) lc (.inl rfl) fun a b ha hb hab=>?_) fun i=>rfl
  rw[hv a ha,hv b hb] at hab
  by_cases qa:gi acc (a:Int)=true
  ·by_cases qb:gi acc (b:Int)=true
   ·rw[qa,qb]
   ·rw[if_pos ⟨ha,qa⟩,if_neg fun z=>qb z.2] at hab; omega
  ·by_cases qb:gi acc (b:Int)=true
   ·rw[if_neg fun z=>qa z.2,if_pos ⟨hb,qb⟩] at hab; omega
   ·rw[Bool.not_eq_true] at qa qb; rw[qa,qb]
 |succ d ih=>
  intro i h cs h1 e hl g lc hv
  refine WP.rnd (fun i' j=>y0_ i' j (.ptr od 0 2 0) sc (I i) h) ?_
  have hA1:=hA.ext e
  have rd1:=e.get rd
  have hiD:i<D.length:=by omega
  obtain ⟨b,hb'⟩:∃b,gi acc (i:Int)=b:=⟨_,rfl⟩
  cases b with
  |true=>
   obtain ⟨h4,w1,w2,w3,w4⟩:=g.write0 (i:=(i:Int)) (v:=I 1) (by omega) (by simp; omega) rfl rfl
   simp -implicitDefEqProofs (disch:=first|assumption|omega|exact Ext.refl _|(simp only[gL,gA]<;>omega)|fail) only[gC,reduceIte,g.sl.lenG,lc,rd1,hA1.idxG,hA1.ld0,hb',encB,g.sl.idxG,w1]
   refine ih (i+1) h4 (cs.set i 1) (by omega) (w3.ext e (Nat.le_refl _)) (by omega) (w2.cong ?_) (by simpa using lc) fun a ha=>?_
   ·rw[List.map_set]; rfl
   ·rw[show gf (cs.set i 1)=_ from gset (by omega) 1]
    by_cases q:a=i
    ·subst q; simp[hb']
    ·simp only[if_neg q]
     rw[show gi cs (a:Int)=gf cs a from rfl,hv a ha]
     by_cases q2:a<i
     ·simp[q2,show a<i+1 by omega]
     ·simp[q2,show ¬a<i+1 by omega]
  |false=>
   simp -implicitDefEqProofs (disch:=first|assumption|omega|exact Ext.refl _|(simp only[gL,gA]<;>omega)|fail) only[gC,reduceIte,g.sl.lenG,lc,rd1,hA1.idxG,hA1.ld0,hb',encB]
   refine ih (i+1) h cs (by omega) e hl g lc fun a ha=>?_
   rw[hv a ha]
   by_cases q:a=i
   ·subst q; simp[hb']
   ·by_cases q2:a<i
    ·simp[q2,show a<i+1 by omega]
    ·simp[q2,show ¬a<i+1 by omega]
theorem a9m {sD sA:AV}(ok:DOk D acc)(hD:Sl h 5 sD (D.map encR))(hA:Sl h 1 sA (acc.map encB)) :
  Tot tab e9_ [.agg [sD,sA]] h fun r h'=>Ext h h'/\∃xs:List Int,Gr h.length h'.length h' 1 r (xs.map encI)/\xs.length=D.length/\Stab (dl D) (fun a:Nat=>gi acc (a:Int)) D.length (gf xs):=by
 refine WP.tot (fun k=>a3R k _ h) ?_
 have l1:=ok.l1
 obtain ⟨h1,hh1⟩:∃h1,h1=h++[AObj.cells ⟨[sD,sA],0,0,false⟩]:=⟨_,rfl⟩
 have e1:Ext h h1:=by rw[hh1]; exact Ext.push _ _
 have rd:h1[h.length]?=some (.cells ⟨[sD,sA],0,0,false⟩):=by rw[hh1]; simp
 have hl1:h1.length=h.length+1:=by rw[hh1]; simp
 obtain ⟨s2,h2,a2,g2,e2,_,l2⟩:=n1_ (zero:=[AV.int .i64 0]) (sz:=1) (bytes:=8) (n:=(D.length:Int)) h1 (by omega) (by omega) (by omega) rfl rfl
 have hre:List.replicate (D.length:Int).toNat [AV.int .i64 0]=(List.replicate D.length (0:Int)).map encI:=by simp[encI,I]
 rw[hre] at g2
 simp -implicitDefEqProofs (maxSteps:=1000000) (disch:=first|assumption|omega|(simp only[gL]<;>omega)|((repeat (first|exact Ext.refl _|assumption|apply Ext.app|apply Ext.mk|(refine Ext.setr ?_ (by (first|omega|(simp only[gL]<;>omega))) _))); done)|(simp only[gL,gA,hD.one,hD.cells,hA.one,hA.cells,hD.lenG]<;>omega)|fail) only[gB,setAll,partL,fldV,reduceIte,Nat.reduceAdd,Nat.reduceMul,hD.one,hD.cells,hA.one,hA.cells,hD.lenG]
 rw[<-hh1]
 simp -implicitDefEqProofs (maxSteps:=1000000) (disch:=first|assumption|omega|(simp only[gL]<;>omega)|((repeat (first|exact Ext.refl _|assumption|apply Ext.app|apply Ext.mk|(refine Ext.setr ?_ (by (first|omega|(simp only[gL]<;>omega))) _))); done)|(simp only[gL,gA,a2]<;>omega)|fail) only[gB,setAll,partL,fldV,reduceIte,Nat.reduceAdd,Nat.reduceMul,a2]
 refine WP.ent ((b1T ok (hD.ext e1) (hA.ext e1) rd D.length 0 h2 _ (by omega) e2 (by omega) g2 (by simp) fun a ha=>?_).mono ?_) fun i=>rfl
 ·rw[if_neg (by omega)]
  exact a1P (by omega) (by omega)
 ·rintro r h3 ⟨e3,xs,g3,lx,f3⟩
  exact ⟨e1.trans e3,xs,g3.mono (by omega) (Nat.le_refl _),lx,f3⟩
end
end Go.Gm.AQ
namespace Go.Gm
section
variable {δ:Nat->Nat->Nat} {S n:Nat} {x rk:Nat->Int} {s:Nat->Nat} {acc:Nat->Bool}
structure PMs (x:Nat->Int) (S:Nat) (rk:Nat->Int) (s:Nat->Nat) (n:Nat):Prop where
 lt:∀j,j<n->s j<S
 rel:∀v:Nat,v<S->(rk v=0/\∀j,j<n->x (s j)≠v)\/∃j:Nat,j<n/\rk v=j+1/\x (s j)=v
 ct:un S (fun v=>rk v-1)+n=S
theorem PMs.le (p:PMs x S rk s n):n<=S:=by
 have:=p.ct
 have:=l7_ S (fun v=>rk v-1)
 omega
theorem PMs.has (p:PMs x S rk s n){v:Nat}(hv:v<S)(h:rk v≠0):∃j:Nat,j<n/\rk v=j+1/\x (s j)=v:=by
 rcases p.rel v hv with ⟨h1,_⟩|h1
 ·exact absurd h1 h
 ·exact h1
theorem PMs.neu (p:PMs x S rk s n){v to:Nat}(hv:v<S)(ht:to<S)(hx:x to=v)(h:rk v=0):PMs x S (up rk v (n+1)) (fun r=>if r=n then to else s r) (n+1):=by
 have hnn:∀j,j<n->¬j=n:=fun j h=>by omega
 refine ⟨fun j hj=>?_,fun w hw=>?_,?_⟩
 ·by_cases q:j=n
  ·simp only[if_pos q]; exact ht
  ·simp only[if_neg q]; exact p.lt j (by omega)
 ·by_cases q:w=v
  ·subst q
   refine .inr ⟨n,by omega,?_,?_⟩
   ·simp[up]
   ·simp only[if_true]; exact hx
  ·rcases p.rel w hw with ⟨h1,h2⟩|⟨j,h1,h2,h3⟩
   ·refine .inl ⟨by rw[up,if_neg q]; exact h1,fun j hj=>?_⟩
    by_cases q2:j=n
    ·simp only[if_pos q2]; rw[hx]; omega
    ·simp only[if_neg q2]; exact h2 j (by omega)
   ·refine .inr ⟨j,by omega,by rw[up,if_neg q]; exact h2,?_⟩
    simp only[if_neg (hnn j h1)]; exact h3
 ·have e:(fun w=>up rk v (n+1) w-1)=up (fun w=>rk w-1) v n:=by
   funext w
   simp only[up]
   split<;>omega
  rw[e,un_up hv (by omega),if_pos (by omega)]
  have:=p.ct
  omega
def POw (δ:Nat->Nat->Nat)(acc:Nat->Bool)(x:Nat->Int)(s:Nat->Nat)(n:Nat)(nxt:Nat->Nat->Int)(ac:Nat->Bool)(i:Nat):Prop:=
 ∀a,a<i->ac a=acc (s a)/\∀m,m<5->∃j:Nat,j<n/\nxt a m=j/\x (s j)=x (δ (s a) m)
def PRw (δ:Nat->Nat->Nat)(x:Nat->Int)(s:Nat->Nat)(n:Nat)(a:Nat)(nx:Nat->Int)(m:Nat):Prop:=∀m',m'<m->∃j:Nat,j<n/\nx m'=j/\x (s j)=x (δ a m')
theorem POw.grow {nxt:Nat->Nat->Int}{ac:Nat->Bool}{i:Nat}(p:POw δ acc x s n nxt ac i)(hi:i<=n)(to:Nat):POw δ acc x (fun r=>if r=n then to else s r) (n+1) nxt ac i:=by
 intro a ha
 obtain ⟨h1,h2⟩:=p a ha
 refine ⟨by simp only[if_neg (show ¬a=n by omega)]; exact h1,fun m hm=>?_⟩
 obtain ⟨j,k1,k2,k3⟩:=h2 m hm
 refine ⟨j,by omega,k2,?_⟩
 simp only[if_neg (show ¬a=n by omega),if_neg (show ¬j=n by omega)]
 exact k3
theorem PRw.grow {nx:Nat->Int}{a m:Nat}(p:PRw δ x s n a nx m)(to:Nat):PRw δ x (fun r=>if r=n then to else s r) (n+1) a nx m:=by
 intro m' hm
 obtain ⟨j,k1,k2,k3⟩:=p m' hm
 refine ⟨j,by omega,k2,?_⟩
 simp only[if_neg (show ¬j=n by omega)]
 exact k3
end
end Go.Gm
namespace Go.Gm.AQ
open Go Go.Gm
section
variable {D:List (List Int)} {acc:List Bool} {h:Heap}
structure MI (S:Nat) (hb h:Heap) (rank states sN sA:AV) (oS oN oA:Nat) (rk:List Int) (Ss:List Nat) (D':List (List Int)) (acc':List Bool):Prop where
 eb:Ext hb h
 ro:h[hb.length]?=some (.cells ⟨[sN,sA],0,0,false⟩)
 gr:Gr (hb.length+1) (hb.length+2) h 1 rank (rk.map encI)
 gs:Gr oS (oS+1) h 1 states (Ss.map encN)
 gn:Gr oN (oN+1) h 5 sN (D'.map encR)
 ga:Gr oA (oA+1) h 1 sA (acc'.map encB)
 ps:states≠.nils->hb.length+2<=oS/\oS<h.length
 pn:sN≠.nils->hb.length+2<=oN/\oN<h.length/\(states≠.nils->oN≠oS)
 pa:sA≠.nils->hb.length+2<=oA/\oA<h.length/\(states≠.nils->oA≠oS)/\(sN≠.nils->oA≠oN)
 lr:rk.length=S
 bl:hb.length+2<=h.length
section
variable {S:Nat} {hb:Heap} {rank states sN sA:AV} {oS oN oA:Nat} {rk:List Int} {Ss:List Nat} {D':List (List Int)} {acc':List Bool}
theorem MI.ext (p:MI S hb h rank states sN sA oS oN oA rk Ss D' acc'){h':Heap}(e:Ext h h'):MI S hb h' rank states sN sA oS oN oA rk Ss D' acc':=by
 have l:=e.len
 refine ⟨p.eb.trans e,e.get p.ro,p.gr.ext e,p.gs.ext e,p.gn.ext e,p.ga.ext e,fun z=>?_,fun z=>?_,fun z=>?_,p.lr,by have:=p.bl; omega⟩
 ·have:=p.ps z; omega
 ·have:=p.pn z; exact ⟨this.1,by omega,this.2.2⟩
 ·have:=p.pa z; exact ⟨this.1,by omega,this.2.2⟩
theorem MI.frs (p:MI S hb h rank states sN sA oS oN oA rk Ss D' acc'){h':Heap}{o:Nat}(f:FrS (fun q=>q=o) h h')(ho:hb.length+2<=o)(h1:states≠.nils->o≠oS)(h2:sN≠.nils->o≠oN)(h3:sA≠.nils->o≠oA):MI S hb h' rank states sN sA oS oN oA rk Ss D' acc':=by
 have l:=f.len
 have bl:=p.bl
 have nl:∀{lo:Nat} {sz:Nat} {s:AV} {xs:List (List AV)},Gr lo (lo+1) h sz s xs->(s≠.nils->o≠lo)->Gr lo (lo+1) h' sz s xs:=by
  intro lo sz s xs g hq
  by_cases q:s=.nils
  ·subst q
   have:=g.isNil
   subst this
   exact Gr.nil ..
  ·exact g.frs f fun r r1 r2=>by have:=hq q; omega
 refine ⟨f.ext p.eb fun q q1=>by omega,by rw[f.get (by omega) (by omega)]; exact p.ro,p.gr.frs f fun q q1 q2=>by omega,nl p.gs h1,nl p.gn h2,nl p.ga h3,fun z=>?_,fun z=>?_,fun z=>?_,p.lr,by omega⟩
 ·have:=p.ps z; omega
 ·have:=p.pn z; exact ⟨this.1,by omega,this.2.2⟩
 ·have:=p.pa z; exact ⟨this.1,by omega,this.2.2⟩
theorem MI.addS (p:MI S hb h rank states sN sA oS oN oA rk Ss D' acc')(to:Nat)(hl:Ss.length<=100000) :
  ∃s' h' o',apnd 1 8 states (.sl h.length 0 1 1 none 0) (h++[AObj.cells ⟨[I to],0,0,false⟩])=some (s',h')/\MI S hb h' rank s' sN sA o' oN oA rk (Ss++[to]) D' acc'/\FrS (fun q=>states≠.nils/\q=oS) h h'/\(s'≠.nils->(o'=oS/\states≠.nils)\/h.length<=o'):=by
 have b:=Gr.lit (h:=h) (sz:=1) (v:=encN to) rfl
 rw[a4_] at b
 have e1:Ext h (h++[AObj.cells ⟨encN to,0,0,false⟩]):=Ext.push _ _
 obtain ⟨s',h',o',q1,q2,q3,q4⟩:=(p.gs.ext e1).appP (fun z=>by have:=p.ps z; simp; omega) b.sl (by omega) (bytes:=8) (by omega) (by simp; omega)
 have f:=(FrS.ofExt (D:=fun q=>states≠.nils/\q=oS) e1).trans q4
 have l:=f.len
 have bl:=p.bl
 have l1:(h++[AObj.cells ⟨encN to,0,0,false⟩]).length=h.length+1:=by simp
 have ps:=p.ps
 have pn:=p.pn
 have pa:=p.pa
 have q3':s'≠.nils->(o'=oS/\states≠.nils)\/h.length<=o':=fun z=>by
  rcases (q3 z).1 with q|q
  ·exact .inl q
  ·exact .inr (by omega)
 have nl:∀{lo:Nat} {sz:Nat} {s:AV} {xs:List (List AV)},Gr lo (lo+1) h sz s xs->(s≠.nils->states≠.nils->lo≠oS)->Gr lo (lo+1) h' sz s xs:=by
  intro lo sz s xs g hq
  by_cases q:s=.nils
  ·subst q
   have:=g.isNil
   subst this
   exact Gr.nil ..
  ·exact g.frs f fun r r1 r2 z=>by have:=hq q z.1; omega
 refine ⟨s',h',o',q1,⟨f.ext p.eb fun q z1 z2=>by have:=ps z2.1; omega,by rw[f.get (fun z=>by have:=ps z.1; omega) (by omega)]; exact p.ro,p.gr.frs f fun q z1 z2 z3=>by have:=ps z3.1; omega,q2.cong (by simp[encN]),nl p.gn fun z1 z2=>(pn z1).2.2 z2,nl p.ga fun z1 z2=>(pa z1).2.2.1 z2,fun z=>?_,fun z=>?_,fun z=>?_,p.lr,by omega⟩,f,q3'⟩
 ·have h1:=(q3 z).2
  rcases q3' z with ⟨h2,h3⟩|h2
  ·have:=ps h3; omega
  ·omega
 ·have h1:=pn z
  refine ⟨h1.1,by omega,fun z2=>?_⟩
  rcases q3' z2 with ⟨h2,h3⟩|h2
  ·have:=h1.2.2 h3; omega
  ·omega
 ·have h1:=pa z
  refine ⟨h1.1,by omega,fun z2=>?_,h1.2.2.2⟩
  rcases q3' z2 with ⟨h2,h3⟩|h2
  ·have:=h1.2.2.1 h3; omega
  ·omega
theorem MI.setRk (p:MI S hb h rank states sN sA oS oN oA rk Ss D' acc'){v:Nat}(hv:v<S)(k:Int) :
  ∃h',stN 1 h (elP 1 rank v) (I k)=some h'/\MI S hb h' rank states sN sA oS oN oA (rk.set v k) Ss D' acc'/\FrS (fun q=>q=hb.length+1) h h':=by
 obtain ⟨h',w1,w2,w3,w4⟩:=p.gr.write0 (i:=(v:Int)) (v:=I k) (by omega) (by rw[List.length_map,p.lr]; omega) rfl rfl
 have f:FrS (fun q=>q=hb.length+1) h h':=w3.s.mono fun q z1 z2=>by omega
 have bl:=p.bl
 have nl:∀{lo:Nat} {sz:Nat} {s:AV} {xs:List (List AV)},Gr lo (lo+1) h sz s xs->(s≠.nils->hb.length+2<=lo)->Gr lo (lo+1) h' sz s xs:=by
  intro lo sz s xs g hq
  by_cases q:s=.nils
  ·subst q
   have:=g.isNil
   subst this
   exact Gr.nil ..
  ·exact g.frs f fun r r1 r2=>by have:=hq q; omega
 refine ⟨h',w1,⟨f.ext p.eb fun q z1 z2=>by omega,by rw[f.get (by omega) (by omega)]; exact p.ro,w2.cong (by rw[List.map_set]; rfl),nl p.gs fun z=>(p.ps z).1,nl p.gn fun z=>(p.pn z).1,nl p.ga fun z=>(p.pa z).1,?_,?_,?_,by rw[List.length_set]; exact p.lr,by omega⟩,f⟩
 ·rw[w4]; exact p.ps
 ·rw[w4]; exact p.pn
 ·rw[w4]; exact p.pa
theorem MI.row (p:MI S hb h rank states sN sA oS oN oA rk Ss D' acc'){r:List Int}(hr:r.length=5)(hl:D'.length<=100000) :
  ∃s' h' o',apnd 5 40 sN (.sl h.length 0 1 5 none 0) (h++[AObj.cells ⟨r.map I,0,0,false⟩])=some (s',h')/\s'.one=true/\s'.cells=[s']/\h'[hb.length]?=some (.cells ⟨[sN,sA],0,0,false⟩)/\
   MI S hb (h'.set hb.length (.cells ⟨[s',sA],0,0,false⟩)) rank states s' sA oS o' oA rk Ss (D'++[r]) acc':=by
 have b:=Gr.lit (h:=h) (sz:=5) (v:=r.map I) (by simp[hr])
 rw[a4_] at b
 have e1:Ext h (h++[AObj.cells ⟨r.map I,0,0,false⟩]):=Ext.push _ _
 obtain ⟨s',h',o',q1,q2,q3,q4⟩:=(p.gn.ext e1).appP (fun z=>by have:=p.pn z; simp; omega) b.sl (by omega) (bytes:=40) (by omega) (by simp; omega)
 have f:=(FrS.ofExt (D:=fun q=>sN≠.nils/\q=oN) e1).trans q4
 have l:=f.len
 have bl:=p.bl
 have ps:=p.ps
 have pn:=p.pn
 have pa:=p.pa
 have l1:(h++[AObj.cells ⟨r.map I,0,0,false⟩]).length=h.length+1:=by simp
 have q3':s'≠.nils->(o'=oN/\sN≠.nils)\/h.length<=o':=fun z=>by
  rcases (q3 z).1 with q|q
  ·exact .inl q
  ·exact .inr (by omega)
 have ro:=p.ro
 have ro':h'[hb.length]?=some (.cells ⟨[sN,sA],0,0,false⟩):=by rw[f.get (fun z=>by have:=pn z.1; omega) (by omega)]; exact ro
 have nl:∀{lo:Nat} {sz:Nat} {s:AV} {xs:List (List AV)},Gr lo (lo+1) h sz s xs->(s≠.nils->sN≠.nils->oN≠lo)->Gr lo (lo+1) h' sz s xs:=by
  intro lo sz s xs g hq
  by_cases q:s=.nils
  ·subst q
   have:=g.isNil
   subst this
   exact Gr.nil ..
  ·exact g.frs f fun r r1 r2 z=>by have:=hq q z.1; omega
 have st:∀{lo:Nat} {sz:Nat} {s:AV} {xs:List (List AV)} (x:AObj),Gr lo (lo+1) h' sz s xs->(s≠.nils->hb.length<lo)->Gr lo (lo+1) (h'.set hb.length x) sz s xs:=by
  intro lo sz s xs x g hq
  by_cases q:s=.nils
  ·subst q
   have:=g.isNil
   subst this
   exact Gr.nil ..
  ·exact g.set (.inl (hq q)) _
 have q5:∀z:s'≠.nils,hb.length+2<=o'/\o'<h'.length:=fun z=>by
  have h1:=(q3 z).2
  rcases q3' z with ⟨h2,h3⟩|h2
  ·have:=pn h3; omega
  ·omega
 refine ⟨s',h',o',q1,q2.sl.one,q2.sl.cells,ro',⟨(f.ext p.eb fun q z1 z2=>by have:=pn z2.1; omega).setr (Nat.le_refl _) _,a3_ (by omega),(p.gr.frs f fun q z1 z2 z3=>by have:=pn z3.1; omega).set (.inl (by omega)) _,st _ (nl p.gs fun z1 z2=>(pn z2).2.2 z1) fun z=>by have:=ps z; omega,st _ (q2.cong (by simp[encR])) fun z=>by have:=q5 z; omega,st _ (nl p.ga fun z1 z2=>((pa z1).2.2.2 z2).symm) fun z=>by have:=pa z; omega,?_,?_,?_,p.lr,by simp; omega⟩⟩
 ·intro z; have:=ps z; simp; omega
 ·intro z
  have h1:=q5 z
  refine ⟨h1.1,by simp; exact h1.2,fun z2=>?_⟩
  rcases q3' z with ⟨h2,h3⟩|h2
  ·have:=(pn h3).2.2 z2; omega
  ·have:=ps z2; omega
 ·intro z
  have h1:=pa z
  refine ⟨h1.1,by simp; omega,h1.2.2.1,fun z2=>?_⟩
  rcases q3' z2 with ⟨h2,h3⟩|h2
  ·have:=h1.2.2.2 h3; omega
  ·omega
theorem MI.accept (p:MI S hb h rank states sN sA oS oN oA rk Ss D' acc')(b:Bool)(hl:acc'.length<=100000) :
  ∃s' h' o',apnd 1 1 sA (.sl h.length 0 1 1 none 0) (h++[AObj.cells ⟨[.bool b],0,0,false⟩])=some (s',h')/\s'.one=true/\s'.cells=[s']/\h'[hb.length]?=some (.cells ⟨[sN,sA],0,0,false⟩)/\
   MI S hb (h'.set hb.length (.cells ⟨[sN,s'],0,0,false⟩)) rank states sN s' oS oN o' rk Ss D' (acc'++[b]):=by
 have b0:=Gr.lit (h:=h) (sz:=1) (v:=encB b) rfl
 rw[a4_] at b0
 have e1:Ext h (h++[AObj.cells ⟨encB b,0,0,false⟩]):=Ext.push _ _
 obtain ⟨s',h',o',q1,q2,q3,q4⟩:=(p.ga.ext e1).appP (fun z=>by have:=p.pa z; simp; omega) b0.sl (by omega) (bytes:=1) (by omega) (by simp; omega)
 have f:=(FrS.ofExt (D:=fun q=>sA≠.nils/\q=oA) e1).trans q4
 have l:=f.len
 have bl:=p.bl
 have ps:=p.ps
 have pn:=p.pn
 have pa:=p.pa
 have l1:(h++[AObj.cells ⟨encB b,0,0,false⟩]).length=h.length+1:=by simp
 have q3':s'≠.nils->(o'=oA/\sA≠.nils)\/h.length<=o':=fun z=>by
  rcases (q3 z).1 with q|q
  ·exact .inl q
  ·exact .inr (by omega)
 have ro:=p.ro
 have ro':h'[hb.length]?=some (.cells ⟨[sN,sA],0,0,false⟩):=by rw[f.get (fun z=>by have:=pa z.1; omega) (by omega)]; exact ro
 have nl:∀{lo:Nat} {sz:Nat} {s:AV} {xs:List (List AV)},Gr lo (lo+1) h sz s xs->(s≠.nils->sA≠.nils->oA≠lo)->Gr lo (lo+1) h' sz s xs:=by
  intro lo sz s xs g hq
  by_cases q:s=.nils
  ·subst q
   have:=g.isNil
   subst this
   exact Gr.nil ..
  ·exact g.frs f fun r r1 r2 z=>by have:=hq q z.1; omega
 have st:∀{lo:Nat} {sz:Nat} {s:AV} {xs:List (List AV)} (x:AObj),Gr lo (lo+1) h' sz s xs->(s≠.nils->hb.length<lo)->Gr lo (lo+1) (h'.set hb.length x) sz s xs:=by
  intro lo sz s xs x g hq
  by_cases q:s=.nils
  ·subst q
   have:=g.isNil
   subst this
   exact Gr.nil ..
  ·exact g.set (.inl (hq q)) _
 have q5:∀z:s'≠.nils,hb.length+2<=o'/\o'<h'.length:=fun z=>by
  have h1:=(q3 z).2
  rcases q3' z with ⟨h2,h3⟩|h2
  ·have:=pa h3; omega
  ·omega
 refine ⟨s',h',o',q1,q2.sl.one,q2.sl.cells,ro',⟨(f.ext p.eb fun q z1 z2=>by have:=pa z2.1; omega).setr (Nat.le_refl _) _,a3_ (by omega),(p.gr.frs f fun q z1 z2 z3=>by have:=pa z3.1; omega).set (.inl (by omega)) _,st _ (nl p.gs fun z1 z2=>(pa z2).2.2.1 z1) fun z=>by have:=ps z; omega,st _ (nl p.gn fun z1 z2=>(pa z2).2.2.2 z1) fun z=>by have:=pn z; omega,st _ (q2.cong (by simp[encB])) fun z=>by have:=q5 z; omega,?_,?_,?_,p.lr,by simp; omega⟩⟩
 ·intro z; have:=ps z; simp; omega
 ·intro z; have:=pn z; exact ⟨this.1,by simp; omega,this.2.2⟩
 ·intro z
  have h1:=q5 z
  refine ⟨h1.1,by simp; exact h1.2,fun z2=>?_,fun z2=>?_⟩
  ·rcases q3' z with ⟨h2,h3⟩|h2
   ·have:=(pa h3).2.2.1 z2; omega
   ·have:=ps z2; omega
  ·rcases q3' z with ⟨h2,h3⟩|h2
   ·have:=(pa h3).2.2.2 z2; omega
   ·have:=pn z2; omega
end
end
end Go.Gm.AQ
namespace Go.Gm.AQ
open Go Go.Gm
section
variable {D:List (List Int)} {acc:List Bool} {hb:Heap} {sD sA0 sc rank:AV} {xs:List Int} {od:Nat}
structure MBs (D:List (List Int)) (acc:List Bool) (hb:Heap) (sD sA0 sc:AV) (xs:List Int) (od:Nat):Prop where
 ok:DOk D acc
 hD:Sl hb 5 sD (D.map encR)
 hA:Sl hb 1 sA0 (acc.map encB)
 hc:Sl hb 1 sc (xs.map encI)
 lx:xs.length=D.length
 st:Stab (dl D) (fun a:Nat=>gi acc (a:Int)) D.length (gf xs)
 rd:hb[od]?=some (.cells ⟨[sD,sA0],0,0,false⟩)
structure MKn (D:List (List Int)) (acc:List Bool) (xs rk:List Int) (Ss:List Nat) (D':List (List Int)) (acc':List Bool) (i:Nat):Prop where
 pm:PMs (gf xs) D.length (gf rk) (gf Ss) Ss.length
 po:POw (dl D) (fun a:Nat=>gi acc (a:Int)) (gf xs) (gf Ss) Ss.length (fun a m=>nx D' (a:Int) (m:Int)) (fun a:Nat=>gi acc' (a:Int)) i
 z0:gf Ss 0=0
 il:i<=Ss.length
 s0:0<Ss.length
 ld:D'.length=i
 la:acc'.length=i
 l5:∀r∈D',r.length=5
def NxOk (h:Heap)(hb:Heap)(on:Nat)(nxs:List Int)(states sN sA:AV)(oS oN oA:Nat):Prop:=
 h[on]?=some (.cells ⟨nxs.map I,0,0,false⟩)/\nxs.length=5/\hb.length+2<=on/\(states≠.nils->on≠oS)/\(sN≠.nils->on≠oN)/\(sA≠.nils->on≠oA)
theorem b5p (b:MBs D acc hb sD sA0 sc xs od){ot i on:Nat}{sN sA:AV}{oN oA:Nat}{D':List (List Int)}{acc':List Bool}{Q:AV->Heap->Prop}(hQ:∀h states oS rk Ss nxs,MI D.length hb h rank states sN sA oS oN oA rk Ss D' acc'->MKn D acc xs rk Ss D' acc' i->i<Ss.length->NxOk h hb on nxs states sN sA oS oN oA->PRw (dl D) (gf xs) (gf Ss) Ss.length (gf Ss i) (gf nxs) 5->
   WP (fun p:Nat × Nat=>q8_ p.1 p.2 (.ptr od 0 2 0) (.ptr ot 0 2 0) sc (.ptr hb.length 0 2 0) rank states (I i) (.ptr on 0 5 0) h) Q) :
  ∀(d m:Nat) (h:Heap) (states:AV) (oS:Nat) (rk:List Int) (Ss:List Nat) (nxs:List Int),m+d=5->MI D.length hb h rank states sN sA oS oN oA rk Ss D' acc'->MKn D acc xs rk Ss D' acc' i->i<Ss.length->NxOk h hb on nxs states sN sA oS oN oA->PRw (dl D) (gf xs) (gf Ss) Ss.length (gf Ss i) (gf nxs) m->
   WP (fun p:(Nat × Nat) × Nat=>k3_ p.1.1 p.1.2 p.2 (.ptr od 0 2 0) (.ptr ot 0 2 0) sc (.ptr hb.length 0 2 0) rank states (I i) (.ptr on 0 5 0) (I m) h) Q:=by
 have l1:=b.ok.l1
 have lx:=b.lx
 intro d
 induction d with
 |zero=>
  intro m h states oS rk Ss nxs h1 mi mk hi nk pr
  refine WP.rnd (fun i' j=>w7_ i'.1 i'.2 j (.ptr od 0 2 0) (.ptr ot 0 2 0) sc (.ptr hb.length 0 2 0) rank states (I i) (.ptr on 0 5 0) (I m) h) ?_
  obtain rfl:m=5:=by omega
  simp -implicitDefEqProofs (disch:=first|assumption|omega|(simp only[gL,gA]<;>omega)|fail) only[gC,reduceIte]
  exact WP.lv (hQ h states oS rk Ss nxs mi mk hi nk pr) fun i j=>rfl
 |succ d ih=>
  intro m h states oS rk Ss nxs h1 mi mk hi nk pr
  refine WP.rnd (fun i' j=>w7_ i'.1 i'.2 j (.ptr od 0 2 0) (.ptr ot 0 2 0) sc (.ptr hb.length 0 2 0) rank states (I i) (.ptr on 0 5 0) (I m) h) ?_
  have hm5:m<5:=by omega
  obtain ⟨si,hsi⟩:∃si,gi Ss (i:Int)=si:=⟨_,rfl⟩
  have hsl:si<D.length:=hsi▸mk.pm.lt i hi
  obtain ⟨to,hto⟩:∃to,dl D si m=to:=⟨_,rfl⟩
  have htl:to<D.length:=hto▸dl_lt b.ok hsl hm5
  obtain ⟨v,hv⟩:∃v:Nat,gi xs (to:Int)=v:=⟨(gi xs (to:Int)).toNat,by have:0<=gi xs (to:Int):=(b.st.rng to htl).1; omega⟩
  have hvl:v<D.length:=by
   have:gi xs (to:Int)<D.length:=(b.st.rng to htl).2
   omega
  have key:∀(h:Heap) (states:AV) (oS:Nat) (rk:List Int) (Ss:List Nat),MI D.length hb h rank states sN sA oS oN oA rk Ss D' acc'->MKn D acc xs rk Ss D' acc' i->i<Ss.length->NxOk h hb on nxs states sN sA oS oN oA->PRw (dl D) (gf xs) (gf Ss) Ss.length (gf Ss i) (gf nxs) m->gf Ss i=si->gf rk v≠0->
    WP (fun p:(Nat × Nat) × Nat=>k4_ p.1.1 p.1.2 p.2 (.ptr od 0 2 0) (.ptr ot 0 2 0) sc (.ptr hb.length 0 2 0) rank states (I i) (.ptr on 0 5 0) (I m) (I to) h) Q:=by
   intro h states oS rk Ss mi mk hi nk pr hsi hrk
   refine WP.congr (fun p=>a2g p.1.1 p.1.2 p.2 (.ptr od 0 2 0) (.ptr ot 0 2 0) sc (.ptr hb.length 0 2 0) rank states (I i) (.ptr on 0 5 0) (I m) (I to) h) ?_
   obtain ⟨j,j1,j2,j3⟩:=mk.pm.has hvl hrk
   have j2':gi rk (v:Int)=(j:Int)+1:=j2
   have hcl:=b.hc.ext mi.eb
   have grl:=mi.gr.sl
   have lr:=mi.lr
   have hSl:=mk.pm.le
   obtain ⟨n1,n2,n3,n4,n5,n6⟩:=nk
   have hst:=stP (x:=j) (m:=m) n1
   have hia:=b1L (o:=on) hm5
   have bon:=(List.getElem?_eq_some_iff.1 n1).1
   have hw:h.set on (.cells ⟨(nxs.map I).set m (I j),0,0,false⟩)=h.set on (.cells ⟨(nxs.set m (j:Int)).map I,0,0,false⟩):=by rw[List.map_set]
   rw[hw] at hst
   simp -implicitDefEqProofs (disch:=first|assumption|omega|exact Ext.refl _|(simp only[gL,gA]<;>omega)|fail) only[gC,reduceIte,hcl.idxG,hcl.ld0,encI,hv,grl.idxG,grl.ld0,j2',hia]
   rw[show (j:Int)+1-1=j by omega]
   have f:FrS (fun q=>q=on) h (h.set on (.cells ⟨(nxs.set m (j:Int)).map I,0,0,false⟩)):=⟨by simp,fun p p1 p2=>b5_ fun z=>p1 z.symm⟩
   have hwr:wrAt 1 h h[on]? on m (m+1) 0 [I j]=some (h.set on (.cells ⟨(nxs.set m (j:Int)).map I,0,0,false⟩)):=by
    rw[a4z] at hst; exact hst
   simp -implicitDefEqProofs (disch:=first|assumption|omega|(simp only[gL,gA]<;>omega)|fail) only[gC,reduceIte,hwr]
   refine ih (m+1) _ states oS rk Ss (nxs.set m (j:Int)) (by omega) (mi.frs f n3 n4 n5 n6) mk hi ⟨a3_ bon,by simpa using n2,n3,n4,n5,n6⟩ fun m' hm'=>?_
   rw[show gf (nxs.set m (j:Int))=_ from gset (by omega) _]
   by_cases q:m'=m
   ·subst q
    refine ⟨j,j1,if_pos rfl,?_⟩
    rw[hsi,hto]
    show gf xs (gf Ss j)=gi xs (to:Int)
    rw[hv]; exact j3
   ·simp only[if_neg q]
    exact pr m' (by omega)
  have hgs:=mi.gs.sl
  have rd:=mi.eb.get b.rd
  have hDx:=b.hD.ext mi.eb
  obtain ⟨p,p1,p2⟩:=cellN b.ok hDx (Ext.refl h) hsl hm5
  rw[hto] at p2
  have hcx:=b.hc.ext mi.eb
  have grl:=mi.gr.sl
  have lr:=mi.lr
  have hSl:=mk.pm.le
  by_cases q:gi rk (v:Int)=0
  ·obtain ⟨s',h2,o',a1,mi2,a3,a4⟩:=mi.addS to (by omega)
   have hne:states≠.nils:=fun z=>by
    rw[z] at hgs
    rcases hgs with ⟨_,k⟩|⟨_,_,_,_,_,k,_⟩
    ·have hz:Ss=[]:=by simpa using k
     have:=mk.s0
     rw[hz] at this
     simp at this
    ·cases k
   obtain ⟨h3,w1,mi3,w3⟩:=mi2.setRk hvl ((Ss.length+1:Nat):Int)
   have hcx2:=b.hc.ext mi2.eb
   have grl2:=mi2.gr.sl
   have gsl2:=mi2.gs.sl.lenG
   rw[List.length_append] at gsl2
   simp -implicitDefEqProofs (disch:=first|assumption|omega|exact Ext.refl _|(simp only[gL,gA]<;>omega)|fail) only[gC,reduceIte,rd,hgs.idxG,hgs.ld0,hsi,encN,hDx.idxG,p1,p2,hcx.idxG,hcx.ld0,encI,hv,grl.idxG,grl.ld0,q,a1,hcx2.ld0,gsl2,w1]
   have bon:=(List.getElem?_eq_some_iff.1 nk.1).1
   have l2:=a3.len
   obtain ⟨n1,n2,n3,n4,n5,n6⟩:=nk
   have nk3:NxOk h3 hb on nxs s' sN sA o' oN oA:=by
    refine ⟨?_,n2,n3,fun z=>?_,n5,n6⟩
    ·rw[w3.get (by omega) (by omega),a3.get (fun z=>n4 z.1 z.2) bon]; exact n1
    ·rcases a4 z with ⟨z1,z2⟩|z1
     ·rw[z1]; exact n4 z2
     ·omega
   have hrk:gf (rk.set v ((Ss.length+1:Nat):Int))=up (gf rk) v ((Ss.length:Int)+1):=by
    rw[show gf (rk.set v ((Ss.length+1:Nat):Int))=_ from gset (by omega) _]; rfl
   have hpush:=b0c Ss to
   have hsi':gf (Ss++[to]) i=si:=by
    rw[hpush]; exact (if_neg (by omega)).trans hsi
   refine key h3 s' o' _ _ mi3 ⟨?_,?_,?_,by rw[List.length_append]; omega,by rw[List.length_append]; omega,mk.ld,mk.la,mk.l5⟩ (by rw[List.length_append]; omega) nk3 ?_ hsi' ?_
   ·rw[hrk,hpush,List.length_append]
    exact mk.pm.neu hvl htl hv q
   ·rw[hpush,List.length_append]
    exact mk.po.grow mk.il to
   ·rw[hpush]; exact (if_neg (by have:=mk.s0; omega)).trans mk.z0
   ·have hps:(fun r:Nat=>if r=Ss.length then to else gf Ss r) i=gf Ss i:=if_neg (by omega)
    rw[hpush,List.length_append,hps]
    exact pr.grow to
   ·rw[hrk,up,if_pos rfl]; omega
  ·simp -implicitDefEqProofs (disch:=first|assumption|omega|exact Ext.refl _|(simp only[gL,gA]<;>omega)|fail) only[gC,reduceIte,rd,hgs.idxG,hgs.ld0,hsi,encN,hDx.idxG,p1,p2,hcx.idxG,hcx.ld0,encI,hv,grl.idxG,grl.ld0]
   exact key h states oS rk Ss mi mk hi nk pr hsi q
end
end Go.Gm.AQ
namespace Go.Gm.AQ
open Go Go.Gm
section
variable {D:List (List Int)} {acc:List Bool}
theorem MKn.bis {xs rk:List Int}{Ss:List Nat}{D':List (List Int)}{acc':List Bool}(ok:DOk D acc)(st:Stab (dl D) (fun a:Nat=>gi acc (a:Int)) D.length (gf xs))(k:MKn D acc xs rk Ss D' acc' Ss.length) :
  ∀(w:List Int),(∀m∈w,0<=m/\m<5)->∀a j:Nat,a<D.length->j<Ss.length->gf xs a=gf xs (gf Ss j)->gi acc (goS D a w)=gi acc' (goS D' j w)
 |[],_,a,j,ha,hj,h=>by
  have h1:=st.ac a (gf Ss j) ha (k.pm.lt j hj) h
  exact h1.trans (k.po j hj).1.symm
 |m::w,hm,a,j,ha,hj,h=>by
  have hmm:=hm m (by simp)
  obtain ⟨mn,rfl⟩:∃mn:Nat,m=mn:=⟨m.toNat,by omega⟩
  obtain ⟨j',j1,j2,j3⟩:=(k.po j hj).2 mn (by omega)
  have h1:=st.to a (gf Ss j) ha (k.pm.lt j hj) h mn (by omega)
  have h2:0<=nx D a mn/\nx D a mn<D.length:=ok.to a mn (by omega) (by omega) (by omega) (by omega)
  have e1:nx D a mn=(dl D a mn:Nat):=by rw[dl]; omega
  have ih:=bis ok st k w (fun z hz=>hm z (List.mem_cons_of_mem _ hz)) (dl D a mn) j' (dl_lt ok ha (by omega)) j1 (h1.trans j3.symm)
  show gi acc (goS D (nx D a mn) w)=gi acc' (goS D' (nx D' j mn) w)
  rw[e1,show nx D' (j:Int) (mn:Int)=(j':Int) from j2]
  exact ih
theorem MKn.dok {xs rk:List Int}{Ss:List Nat}{D':List (List Int)}{acc':List Bool}(ok:DOk D acc)(k:MKn D acc xs rk Ss D' acc' Ss.length):DOk D' acc'/\D'.length<=D.length:=by
 have h1:=k.pm.le
 have h2:=k.s0
 have h3:=k.ld
 have l1:=ok.l1
 refine ⟨⟨by omega,by omega,k.la.trans h3.symm,fun s s0 s1=>k.l5 _ (c4_ s0 s1),fun s m s0 s1 m0 m1=>?_⟩,by omega⟩
 obtain ⟨a,rfl⟩:∃a:Nat,s=a:=⟨s.toNat,by omega⟩
 obtain ⟨b,rfl⟩:∃b:Nat,m=b:=⟨m.toNat,by omega⟩
 obtain ⟨j,j1,j2,_⟩:=(k.po a (by omega)).2 b (by omega)
 have:gi (gi D' (a:Int)) (b:Int)=j:=j2
 omega
def MinQ (D:List (List Int))(acc:List Bool)(lo:Nat)(r:AV)(h':Heap):Prop:=
 ∃(D':List (List Int)) (acc':List Bool) (sN sA:AV),r=.agg [sN,sA]/\Gr lo h'.length h' 5 sN (D'.map encR)/\Gr lo h'.length h' 1 sA (acc'.map encB)/\DOk D' acc'/\D'.length<=D.length/\
  ∀w:List Int,(∀m∈w,0<=m/\m<5)->gi acc (goS D 0 w)=gi acc' (goS D' 0 w)
theorem b5q {h0 hb:Heap}{sD sA0 sc rank:AV}{xs:List Int}{od ot:Nat}(b:MBs D acc hb sD sA0 sc xs od)(e0:Ext h0 hb)(hot:h0.length<=ot)(rt:hb[ot]?=some (.cells ⟨[.nils,.nils],0,0,false⟩)) :
  ∀(d i:Nat) (h:Heap) (states sN sA:AV) (oS oN oA:Nat) (rk:List Int) (Ss:List Nat) (D':List (List Int)) (acc':List Bool),i+d=D.length->MI D.length hb h rank states sN sA oS oN oA rk Ss D' acc'->MKn D acc xs rk Ss D' acc' i->
   WP (fun p:Nat × Nat=>k2_ p.1 p.2 (.ptr od 0 2 0) (.ptr ot 0 2 0) sc (.ptr hb.length 0 2 0) rank states (I i) h) fun r h'=>Ext h0 h'/\MinQ D acc h0.length r h':=by
 have l1:=b.ok.l1
 have bt:=(List.getElem?_eq_some_iff.1 rt).1
 intro d
 induction d with
 |zero=>
  intro i h states sN sA oS oN oA rk Ss D' acc' h1 mi mk
  refine WP.rnd (fun i' j=>w8_ i' j (.ptr od 0 2 0) (.ptr ot 0 2 0) sc (.ptr hb.length 0 2 0) rank states (I i) h) ?_
  have hle:=mk.pm.le
  have hil:=mk.il
  obtain rfl:i=Ss.length:=by omega
  have gs:=mi.gs.sl.lenG
  have ro:=mi.ro
  have rt':=mi.eb.get rt
  have b0:=(List.getElem?_eq_some_iff.1 rt').1
  have o1:=mi.gn.sl.one
  have o2:=mi.gn.sl.cells
  have o3:=mi.ga.sl.one
  have o4:=mi.ga.sl.cells
  simp -implicitDefEqProofs (maxSteps:=1000000) (disch:=first|assumption|omega|(simp only[gL]<;>omega)|((repeat (first|exact Ext.refl _|assumption|apply Ext.app|apply Ext.mk|(refine Ext.setr ?_ (by (first|omega|(simp only[gL]<;>omega))) _))); done)|(simp only[gL,gA,gs,ro,rt',o1,o2,o3,o4]<;>omega)|fail) only[gB,setAll,partL,fldV,reduceIte,Nat.reduceAdd,Nat.reduceMul,gs,ro,rt',o1,o2,o3,o4]
  obtain ⟨k1,k2⟩:=mk.dok b.ok
  have l0:=e0.len
  have nl:∀{lo:Nat} {sz:Nat} {s:AV} {xs:List (List AV)} (x:AObj),Gr lo (lo+1) h sz s xs->(s≠.nils->hb.length<=lo/\lo<h.length)->Gr h0.length (h.set ot x).length (h.set ot x) sz s xs:=by
   intro lo sz s xs x g hq
   by_cases q:s=.nils
   ·subst q
    have:=g.isNil
    subst this
    exact Gr.nil ..
   ·have:=hq q
    exact (g.set (.inl (by omega)) _).mono (by omega) (by simp; omega)
  refine WP.ret ⟨(e0.trans mi.eb).setr hot _,D',acc',sN,sA,rfl,nl _ mi.gn fun z=>?_,nl _ mi.ga fun z=>?_,k1,k2,fun w hw=>?_⟩
  ·have:=mi.pn z; omega
  ·have:=mi.pa z; omega
  ·exact mk.bis b.ok b.st w hw 0 0 b.ok.l0 mk.s0 (by rw[mk.z0])
 |succ d ih=>
  intro i h states sN sA oS oN oA rk Ss D' acc' h1 mi mk
  refine WP.rnd (fun i' j=>w8_ i' j (.ptr od 0 2 0) (.ptr ot 0 2 0) sc (.ptr hb.length 0 2 0) rank states (I i) h) ?_
  have hle:=mk.pm.le
  have hil:=mk.il
  have gs:=mi.gs.sl.lenG
  by_cases q:i=Ss.length
  ·subst q
   have ro:=mi.ro
   have rt':=mi.eb.get rt
   have b0:=(List.getElem?_eq_some_iff.1 rt').1
   have o1:=mi.gn.sl.one
   have o2:=mi.gn.sl.cells
   have o3:=mi.ga.sl.one
   have o4:=mi.ga.sl.cells
   simp -implicitDefEqProofs (maxSteps:=1000000) (disch:=first|assumption|omega|(simp only[gL]<;>omega)|((repeat (first|exact Ext.refl _|assumption|apply Ext.app|apply Ext.mk|(refine Ext.setr ?_ (by (first|omega|(simp only[gL]<;>omega))) _))); done)|(simp only[gL,gA,gs,ro,rt',o1,o2,o3,o4]<;>omega)|fail) only[gB,setAll,partL,fldV,reduceIte,Nat.reduceAdd,Nat.reduceMul,gs,ro,rt',o1,o2,o3,o4]
   obtain ⟨k1,k2⟩:=mk.dok b.ok
   have l0:=e0.len
   have nl:∀{lo:Nat} {sz:Nat} {s:AV} {xs:List (List AV)} (x:AObj),Gr lo (lo+1) h sz s xs->(s≠.nils->hb.length<=lo/\lo<h.length)->Gr h0.length (h.set ot x).length (h.set ot x) sz s xs:=by
    intro lo sz s xs x g hq
    by_cases q:s=.nils
    ·subst q
     have:=g.isNil
     subst this
     exact Gr.nil ..
    ·have:=hq q
     exact (g.set (.inl (by omega)) _).mono (by omega) (by simp; omega)
   refine WP.ret ⟨(e0.trans mi.eb).setr hot _,D',acc',sN,sA,rfl,nl _ mi.gn fun z=>?_,nl _ mi.ga fun z=>?_,k1,k2,fun w hw=>?_⟩
   ·have:=mi.pn z; omega
   ·have:=mi.pa z; omega
   ·exact mk.bis b.ok b.st w hw 0 0 b.ok.l0 mk.s0 (by rw[mk.z0])
  ·have hi:i<Ss.length:=by omega
   simp -implicitDefEqProofs (maxSteps:=1000000) (disch:=first|assumption|omega|(simp only[gL]<;>omega)|((repeat (first|exact Ext.refl _|assumption|apply Ext.app|apply Ext.mk|(refine Ext.setr ?_ (by (first|omega|(simp only[gL]<;>omega))) _))); done)|(simp only[gL,gA,gs]<;>omega)|fail) only[gB,setAll,partL,fldV,reduceIte,Nat.reduceAdd,Nat.reduceMul,gs]
   have bl:=mi.bl
   have e1:Ext h (h++[AObj.cells ⟨List.map I [0,0,0,0,0],0,0,false⟩]):=Ext.push _ _
   refine WP.ent (b5p (ot:=ot) (on:=h.length) b (fun h2 states oS rk Ss nxs mi mk hi nk pr=>?_) 5 0 (h++[AObj.cells ⟨List.map I [0,0,0,0,0],0,0,false⟩]) states oS rk Ss [0,0,0,0,0] (by omega) (mi.ext e1) mk hi ⟨by simp,rfl,bl,fun z=>?_,fun z=>?_,fun z=>?_⟩ fun m' hm'=>by omega) fun i=>rfl
   ·refine WP.congr (fun p=>a2i p.1 p.2 (.ptr od 0 2 0) (.ptr ot 0 2 0) sc (.ptr hb.length 0 2 0) rank states (I i) (.ptr h.length 0 5 0) h2) ?_
    obtain ⟨n1,n2,n3,n4,n5,n6⟩:=nk
    have hDl:=mk.ld
    have hAl:=mk.la
    have hle2:=mk.pm.le
    have ro:=mi.ro
    have b0:=(List.getElem?_eq_some_iff.1 ro).1
    obtain ⟨sN2,h3,oN2,q1,q2,q3,q4,mi3⟩:=mi.row n2 (by omega)
    have b1:=(List.getElem?_eq_some_iff.1 q4).1
    have hmk:(nxs.map I).take 5=nxs.map I:=List.take_of_length_le (by simp[n2])
    obtain ⟨h4,hh4⟩:∃h4,h4=h3.set hb.length (.cells ⟨[sN2,sA],0,0,false⟩):=⟨_,rfl⟩
    rw[<-hh4] at mi3
    have ro4:=mi3.ro
    have b4:=(List.getElem?_eq_some_iff.1 ro4).1
    have rd4:=mi3.eb.get b.rd
    have gs4:=mi3.gs.sl
    obtain ⟨si,hsi⟩:∃si,gi Ss (i:Int)=si:=⟨_,rfl⟩
    have hsl:si<D.length:=hsi▸mk.pm.lt i hi
    have hA4:=b.hA.ext mi3.eb
    have la:=b.ok.la
    obtain ⟨bb,hbb⟩:∃bb,gi acc (si:Int)=bb:=⟨_,rfl⟩
    obtain ⟨sA2,h5,oA2,w1,w2,w3,w4,mi5⟩:=mi3.accept bb (by omega)
    have b5:=(List.getElem?_eq_some_iff.1 w4).1
    have hld:rdNAt 5 h2[h.length]? 0 5 0=some (.agg (nxs.map I)):=by
     rw[n1]
     simp only[rdNAt]
     rw[if_pos ⟨by omega,Nat.le_refl _⟩,List.drop_zero,hmk]
    obtain ⟨c0,c1,c2,c3,c4,rfl⟩:∃c0 c1 c2 c3 c4,nxs=[c0,c1,c2,c3,c4]:=by
     match nxs,n2 with
     |[c0,c1,c2,c3,c4],_=>exact ⟨c0,c1,c2,c3,c4,rfl⟩
    simp only[List.map_cons,List.map_nil] at hld q1
    simp -implicitDefEqProofs (maxSteps:=1000000) (disch:=first|assumption|omega|(simp only[gL]<;>omega)|((repeat (first|exact Ext.refl _|assumption|apply Ext.app|apply Ext.mk|(refine Ext.setr ?_ (by (first|omega|(simp only[gL]<;>omega))) _))); done)|(simp only[gL,gA,ro,hld,q1,q4,q2,q3]<;>omega)|fail) only[gB,setAll,partL,fldV,reduceIte,Nat.reduceAdd,Nat.reduceMul,ro,hld,q1,q4,q2,q3]
    rw[<-hh4]
    simp -implicitDefEqProofs (maxSteps:=1000000) (disch:=first|assumption|omega|(simp only[gL]<;>omega)|((repeat (first|exact Ext.refl _|assumption|apply Ext.app|apply Ext.mk|(refine Ext.setr ?_ (by (first|omega|(simp only[gL]<;>omega))) _))); done)|(simp only[gL,gA,ro4,rd4,gs4.idxG,gs4.ld0,hsi,encN,hA4.idxG,hA4.ld0,hbb,encB,w1,w4,w2,w3]<;>omega)|fail) only[gB,setAll,partL,fldV,reduceIte,Nat.reduceAdd,Nat.reduceMul,ro4,rd4,gs4.idxG,gs4.ld0,hsi,encN,hA4.idxG,hA4.ld0,hbb,encB,w1,w4,w2,w3]
    obtain ⟨h6,hh6⟩:∃h6,h6=h5.set hb.length (.cells ⟨[sN2,sA2],0,0,false⟩):=⟨_,rfl⟩
    rw[<-hh6] at mi5 ⊢
    refine WP.congr (fun p=>a2h p.1 p.2 (.ptr od 0 2 0) (.ptr ot 0 2 0) sc (.ptr hb.length 0 2 0) rank states (I i) h6) ?_
    simp -implicitDefEqProofs (maxSteps:=1000000) (disch:=first|assumption|omega|(simp only[gL]<;>omega)|((repeat (first|exact Ext.refl _|assumption|apply Ext.app|apply Ext.mk|(refine Ext.setr ?_ (by (first|omega|(simp only[gL]<;>omega))) _))); done)|(simp only[gL,gA]<;>omega)|fail) only[gB,setAll,partL,fldV,reduceIte,Nat.reduceAdd,Nat.reduceMul]
    refine ih (i+1) h6 states sN2 sA2 oS oN2 oA2 rk Ss (D'++[[c0,c1,c2,c3,c4]]) (acc'++[bb]) (by omega) mi5 ⟨mk.pm,fun a ha=>?_,mk.z0,by omega,mk.s0,by simp[hDl],by simp[hAl],fun r hr=>?_⟩
    ·by_cases z:a=i
     ·subst z
      have z1:gi (acc'++[bb]) (a:Int)=bb:=by
       rw[e2_ (by simp[hAl])]; simp[<-hAl]
      have z2:gi (D'++[[c0,c1,c2,c3,c4]]) (a:Int)=[c0,c1,c2,c3,c4]:=by
       rw[e2_ (by simp[hDl])]; simp[<-hDl]
      refine ⟨z1.trans (by rw[<-hbb,<-hsi]),fun m hm=>?_⟩
      obtain ⟨j,j1,j2,j3⟩:=pr m hm
      refine ⟨j,j1,?_,j3⟩
      show gi (gi (D'++[[c0,c1,c2,c3,c4]]) (a:Int)) (m:Int)=j
      rw[z2]; exact j2
     ·obtain ⟨z1,z2⟩:=mk.po a (by omega)
      have y1:gi (acc'++[bb]) (a:Int)=gi acc' (a:Int):=a2e (by omega) (by omega)
      have y2:gi (D'++[[c0,c1,c2,c3,c4]]) (a:Int)=gi D' (a:Int):=a2e (by omega) (by omega)
      refine ⟨y1.trans z1,fun m hm=>?_⟩
      obtain ⟨j,j1,j2,j3⟩:=z2 m hm
      refine ⟨j,j1,?_,j3⟩
      show gi (gi (D'++[[c0,c1,c2,c3,c4]]) (a:Int)) (m:Int)=j
      rw[y2]; exact j2
    ·rcases List.mem_append.1 hr with z|z
     ·exact mk.l5 r z
     ·obtain rfl:=List.mem_singleton.1 z; rfl
   ·have:=mi.ps z; omega
   ·have:=mi.pn z; omega
   ·have:=mi.pa z; omega
theorem a8b {h:Heap}{sD sA:AV}(ok:DOk D acc)(hD:Sl h 5 sD (D.map encR))(hA:Sl h 1 sA (acc.map encB)) :
  Tot tab c2_ [.agg [sD,sA]] h fun r h'=>Ext h h'/\MinQ D acc h.length r h':=by
 refine WP.tot (fun k=>a3f k _ h) ?_
 have l0:=ok.l0
 have l1:=ok.l1
 obtain ⟨h1,hh1⟩:∃h1,h1=(h++[AObj.cells ⟨[sD,sA],0,0,false⟩])++[AObj.cells ⟨[.nils,.nils],0,0,false⟩]:=⟨_,rfl⟩
 have e1:Ext h h1:=by rw[hh1]; ((repeat (first|exact Ext.refl _|assumption|apply Ext.app|apply Ext.mk|(refine Ext.setr ?_ (by (first|omega|(simp only[gL]<;>omega))) _))))
 have rd:h1[h.length]?=some (.cells ⟨[sD,sA],0,0,false⟩):=by rw[hh1]; simp
 have rt:h1[h.length+1]?=some (.cells ⟨[.nils,.nils],0,0,false⟩):=by rw[hh1]; simp
 simp -implicitDefEqProofs (maxSteps:=1000000) (disch:=first|assumption|omega|(simp only[gL]<;>omega)|((repeat (first|exact Ext.refl _|assumption|apply Ext.app|apply Ext.mk|(refine Ext.setr ?_ (by (first|omega|(simp only[gL]<;>omega))) _))); done)|(simp only[gL,gA,hD.one,hD.cells,hA.one,hA.cells]<;>omega)|fail) only[gB,setAll,partL,fldV,reduceIte,Nat.reduceAdd,Nat.reduceMul,hD.one,hD.cells,hA.one,hA.cells]
 rw[<-hh1]
 refine WP.call (a9m ok (hD.ext e1) (hA.ext e1)) ?_
 rintro sc h2 ⟨e2,xs,g2,lx,st⟩
 have rd2:=e2.get rd
 have rt2:=e2.get rt
 have hc2:=g2.sl
 have hD2:=(hD.ext e1).ext e2
 have hA2:=(hA.ext e1).ext e2
 obtain ⟨h3,hh3⟩:∃h3,h3=h2++[AObj.cells ⟨[.nils,.nils],0,0,false⟩]:=⟨_,rfl⟩
 have e3:Ext h2 h3:=by rw[hh3]; exact Ext.push _ _
 have l3:h3.length=h2.length+1:=by rw[hh3]; simp
 have ro3:h3[h2.length]?=some (.cells ⟨[.nils,.nils],0,0,false⟩):=by rw[hh3]; simp
 obtain ⟨rank,h4,a4,g4,e4,_,l4⟩:=n1_ (zero:=[AV.int .i64 0]) (sz:=1) (bytes:=8) (n:=(D.length:Int)) h3 (by omega) (by omega) (by omega) rfl rfl
 have hre:List.replicate (D.length:Int).toNat [AV.int .i64 0]=(List.replicate D.length (0:Int)).map encI:=by simp[encI,I]
 rw[hre] at g4
 obtain ⟨h5,hh5⟩:∃h5,h5=h4++[AObj.cells ⟨encN 0,0,0,false⟩]:=⟨_,rfl⟩
 have e5:Ext h4 h5:=by rw[hh5]; exact Ext.push _ _
 have l5:h5.length=h4.length+1:=by rw[hh5]; simp
 have gs5:Gr h4.length (h4.length+1) h5 1 (.sl h4.length 0 1 1 none 0) ([0].map encN):=by
  have:=Gr.lit (h:=h4) (sz:=1) (v:=encN 0) rfl
  rw[a4_] at this
  rw[hh5]; exact this
 have e25:=(e3.trans e4).trans e5
 obtain ⟨v,hv⟩:∃v:Nat,gi xs 0=v:=⟨(gi xs 0).toNat,by have:0<=gi xs ((0:Nat):Int):=(st.rng 0 l0).1; exact (Int.toNat_of_nonneg this).symm⟩
 have hvl:v<D.length:=by
  have:gi xs ((0:Nat):Int)<D.length:=(st.rng 0 l0).2
  have:gi xs 0<D.length:=this
  omega
 have mi5:MI D.length h2 h5 rank (.sl h4.length 0 1 1 none 0) .nils .nils h4.length 0 0 (List.replicate D.length 0) [0] [] []:=by
  refine ⟨e25,(e4.trans e5).get ro3,(g4.ext e5).mono (by omega) (by omega),gs5,Gr.nil ..,Gr.nil ..,fun _=>by omega,fun z=>absurd rfl z,fun z=>absurd rfl z,by simp,by omega⟩
 obtain ⟨h6,w1,mi6,w3⟩:=mi5.setRk hvl 1
 have gr5:=(g4.ext e5).sl
 have hc5:=hc2.ext e25
 have s5:h4++[AObj.cells ⟨[AV.int .i64 0],0,0,false⟩]=h5:=by rw[hh5]; rfl
 have rd3:=e3.get rd2
 have hD3:=hD2.ext e3
 rw[<-hh3]
 simp -implicitDefEqProofs (maxSteps:=1000000) (disch:=first|assumption|omega|(simp only[gL]<;>omega)|((repeat (first|exact Ext.refl _|assumption|apply Ext.app|apply Ext.mk|(refine Ext.setr ?_ (by (first|omega|(simp only[gL]<;>omega))) _))); done)|(simp only[gL,gA,rd3,hD3.lenG,a4]<;>omega)|fail) only[gB,setAll,partL,fldV,reduceIte,Nat.reduceAdd,Nat.reduceMul,rd3,hD3.lenG,a4]
 rw[s5]
 simp -implicitDefEqProofs (maxSteps:=1000000) (disch:=first|assumption|omega|(simp only[gL]<;>omega)|((repeat (first|exact Ext.refl _|assumption|apply Ext.app|apply Ext.mk|(refine Ext.setr ?_ (by (first|omega|(simp only[gL]<;>omega))) _))); done)|(simp only[gL,gA,hc5.idxG,hc5.ld0,hv,encI,gr5.idxG,w1]<;>omega)|fail) only[gB,setAll,partL,fldV,reduceIte,Nat.reduceAdd,Nat.reduceMul,hc5.idxG,hc5.ld0,hv,encI,gr5.idxG,w1]
 have b:MBs D acc h2 sD sA sc xs h.length:=⟨ok,hD2,hA2,hc2,lx,st,rd2⟩
 refine WP.ent (b5q (ot:=h.length+1) b (e1.trans e2) (by omega) rt2 D.length 0 h6 _ _ _ _ _ _ _ _ _ _ (by omega) mi6 ⟨⟨fun j hj=>?_,fun w hw=>?_,?_⟩,fun a ha=>by omega,rfl,by simp,by simp,rfl,rfl,fun r hr=>by simp at hr⟩) fun i=>rfl
 ·simp only[List.length_cons,List.length_nil] at hj
  obtain rfl:j=0:=by omega
  exact l0
 ·rw[show gf ((List.replicate D.length (0:Int)).set v 1)=_ from gset (by simpa using hvl) _]
  by_cases q:w=v
  ·subst q
   exact .inr ⟨0,by simp,by simp,hv⟩
  ·refine .inl ⟨?_,fun j hj=>?_⟩
   ·simp only[if_neg q]
    exact a1P (by omega) (by omega)
   ·simp only[List.length_cons,List.length_nil] at hj
    obtain rfl:j=0:=by omega
    have:gf xs (gf [0] 0)=(v:Int):=hv
    rw[this]; omega
 ·have e:(fun w:Nat=>gf ((List.replicate D.length (0:Int)).set v 1) w-1)=up (fun w:Nat=>gf (List.replicate D.length (0:Int)) w-1) v 0:=by
   funext w
   rw[show gf ((List.replicate D.length (0:Int)).set v 1)=_ from gset (by simpa using hvl) _]
   simp only[up]
   split<;>rfl
  have z:∀x:Nat,x<D.length->gf (List.replicate D.length (0:Int)) x-1 = -1:=fun x hx=>by
   have:gf (List.replicate D.length (0:Int)) x=0:=a1P (by omega) (by omega)
   omega
  rw[e,un_up hvl (Int.le_refl _),if_pos (by have:=z v hvl; omega),b1I z]
  simp
end
end Go.Gm.AQ
namespace Go.Gm.AQ
open Go Go.Gm
def bits (n s:Nat):List Bool:=(List.range n).map fun p=>s.testBit p
theorem a0M (n s:Nat):(bits n s).length=n:=by simp[bits]
theorem a2m {n s p:Nat}(hp:p<n):gi (bits n s) (p:Int)=s.testBit p:=by
 rw[e2_ (by simpa [bits] using hp)]; simp[bits]
def outs (fr:List (Nat × Nat))(t:Nat):List Nat:=(fr.filter fun f=>f.1 == t).map (·.2)
theorem b1U (fr:List (Nat × Nat))(f:Nat × Nat)(t:Nat):outs (fr++[f]) t=outs fr t++if f.1=t then [f.2] else []:=by
 simp only[outs,List.filter_append,List.map_append]
 congr 1
 by_cases q:f.1=t
 ·simp[List.filter,q]
 ·have:(f.1 == t)=false:=by simpa using q
  simp[List.filter,q,this]
theorem a8S (fr:List (Nat × Nat))(t:Nat):(outs fr t).length<=fr.length:=by
 simp only[outs,List.length_map]; exact List.length_filter_le ..
theorem a8T {fr:List (Nat × Nat)}{t q:Nat}:q∈outs fr t↔(t,q)∈fr:=by
 simp only[outs,List.mem_map,List.mem_filter,beq_iff_eq]
 constructor
 ·rintro ⟨⟨a,b⟩,⟨h1,h2⟩,rfl⟩; simp only at h2; rw[<-h2]; exact h1
 ·exact fun h=>⟨(t,q),⟨h,rfl⟩,rfl⟩
def RwI (W:Nat->Prop)(hb:Heap)(q:Nat)(sB:AV)(N:Nat)(X:Nat->List Nat)(h:Heap):Prop:=
 ∃B:List AV,Gr q (q+1) h 1 sB (B.map fun s=>[s])/\B.length=N/\Fam W h 1 (fun t:Nat=>t<N) (fun t=>gi B (t:Int)) (fun t=>(X t).map encN')/\(∀o,W o->hb.length<=o)/\FrS (fun o=>o=q\/hb.length<=o) hb h
def enc1 (s:AV):List AV:=[s]
theorem RwI.get {W:Nat->Prop}{hb h:Heap}{q N:Nat}{sB:AV}{X:Nat->List Nat}(r:RwI W hb q sB N X h){t:Nat}(ht:t<N):∃s,(∀H,Ext h H->ld1 H (elP 1 sB t)=some s)/\idxS 1 sB (I t)=some (elP 1 sB t)/\Sl h 1 s ((X t).map encN'):=by
 obtain ⟨B,g,lB,f,hW,fr⟩:=r
 have sl:Sl h 1 sB (B.map enc1):=g.sl
 exact ⟨gi B t,fun H e=>by rw[sl.ld0 e (by omega) (by omega) (by omega)]; rfl,sl.idxG (by omega) (by omega),f.sl ht⟩
theorem RwI.step {W:Nat->Prop}{hb h:Heap}{q N:Nat}{sB:AV}{X:Nat->List Nat}(r:RwI W hb q sB N X h)(hq:q<hb.length){t:Nat}(ht:t<N)(v:Nat)(hl:(X t).length<=100000) :
  ∃s1 s2 h2 h3,(∀H,Ext h H->ld1 H (elP 1 sB t)=some s1)/\idxS 1 sB (I t)=some (elP 1 sB t)/\apnd 1 8 s1 (.sl h.length 0 1 1 none 0) (h++[AObj.cells ⟨[I v],0,0,false⟩])=some (s2,h2)/\stN 1 h2 (elP 1 sB t) s2=some h3/\
   RwI (fun o=>W o\/h.length<=o) hb q sB N (fun t'=>if t'=t then X t++[v] else X t') h3/\FrS W h h2:=by
 obtain ⟨B,g,lB,f,hW,fr⟩:=r
 have hlb:=fr.len
 have sl:Sl h 1 sB (B.map enc1):=g.sl
 have b1:Sl (h++[AObj.cells ⟨[I v],0,0,false⟩]) 1 (.sl h.length 0 1 1 none 0) [encN' v]:=by
  have:=(Gr.lit (h:=h) (sz:=1) (v:=encN' v) rfl).sl
  rwa [a4_] at this
 have e1:Ext h (h++[AObj.cells ⟨[I v],0,0,false⟩]):=Ext.push _ _
 have f':=f.frs (D:=fun _=>False) (FrS.ofExt e1) fun _ _ _ z=>z
 obtain ⟨s2,h2,k1,k2,k3,k4⟩:=f'.append (bytes:=8) (t:=t) ht b1 (by simp) (by omega) (by omega) (by simp; omega)
 have g2:=(g.ext e1).frs k4 fun o z1 z2 z3=>by have:=hW o z3; omega
 have c2:s2.cells=[s2]:=by
  have:=(k3.sl (t:=t) ht).cells
  simpa using this
 obtain ⟨h3,n1,n2,n3,n4⟩:=g2.write0 (i:=(t:Int)) (v:=s2) (by omega) (by simp; omega) (by rw[c2]; rfl) (by rw[c2]; simp[k2])
 refine ⟨gi B t,s2,h2,h3,fun H e=>by rw[sl.ld0 e (by omega) (by omega) (by omega)]; rfl,sl.idxG (by omega) (by omega),k1,n1,?_,(FrS.ofExt e1).trans k4⟩
 have hlq:=k4.len
 have f3:=k3.frs n3.s (fun o z1 z2 z3=>by
  rcases z2 with z2|z2
  ·have:=hW o z2; omega
  ·simp only[List.length_append] at *; omega)
 refine ⟨B.set t s2,?_,by rw[List.length_set]; exact lB,?_,fun o z=>?_,?_⟩
 ·refine n2.cong ?_
  rw[c2,show ((t:Int)).toNat=t by omega,List.map_set]
 ·refine (f3.mono fun o z1 z2=>?_).congr fun t' ht'=>⟨?_,?_⟩
  ·rcases z2 with z2|z2
   ·exact .inl z2
   ·simp only[List.length_append] at z2; exact .inr (by omega)
  ·show gi (B.set t s2) (t':Int)=if t'=t then s2 else gi B t'
   rw[giset2 (by omega)]
  ·show (if t'=t then X t++[v] else X t').map encN'=if t'=t then (X t).map encN'++[encN' v] else (X t').map encN'
   by_cases qt:t'=t
   ·simp[qt]
   ·rw[if_neg qt,if_neg qt]
 ·rcases z with z|z
  ·exact hW o z
  ·omega
 ·have z1:FrS (fun o=>o=q\/hb.length<=o) h (h++[AObj.cells ⟨[I v],0,0,false⟩]):=FrS.ofExt e1
  exact ((fr.trans z1).trans (k4.mono fun o _ z=>.inr (hW o z))).trans (n3.s.mono fun o _ z=>.inl (by omega))
structure CL (N:Nat) (fr:List (Nat × Nat)) (s:Nat) (bs:List Bool) (L:List Nat):Prop where
 lb:bs.length=N
 lt:∀p∈L,p<N
 tr:∀p∈L,gi bs (p:Int)=true
 me:∀p:Nat,p<N->gi bs (p:Int)=true->p∈L
 rc:∀p∈L,Rch fr s p
 su:∀p:Nat,p<N->s.testBit p=true->gi bs (p:Int)=true
 ct:un N (fun p=>if gi bs (p:Int)=true then 0 else -1)+L.length=N
theorem CL.le {N s:Nat}{fr:List (Nat × Nat)}{bs:List Bool}{L:List Nat}(c:CL N fr s bs L):L.length<=N:=by
 have:=c.ct
 have:=l7_ N fun p=>if gi bs (p:Int)=true then 0 else -1
 omega
theorem CL.add {N s p q:Nat}{fr:List (Nat × Nat)}{bs:List Bool}{L:List Nat}(c:CL N fr s bs L)(hp:p∈L)(hf:(p,q)∈fr)(hq:q<N)(hn:gi bs (q:Int)=false):CL N fr s (bs.set q true) (L++[q]):=by
 have lb:=c.lb
 have hg:∀x:Nat,gi (bs.set q true) (x:Int)=if x=q then true else gi bs (x:Int):=fun x=>giset2 (by omega) true
 refine ⟨by simp[lb],fun x hx=>?_,fun x hx=>?_,fun x hx h=>?_,fun x hx=>?_,fun x hx h=>?_,?_⟩
 ·rcases List.mem_append.1 hx with hx|hx
  ·exact c.lt x hx
  ·rw[List.mem_singleton.1 hx]; exact hq
 ·rw[hg]
  rcases List.mem_append.1 hx with hx|hx
  ·split
   ·rfl
   ·exact c.tr x hx
  ·rw[List.mem_singleton.1 hx,if_pos rfl]
 ·rw[hg] at h
  by_cases z:x=q
  ·rw[z]; simp
  ·rw[if_neg z] at h
   exact List.mem_append_left _ (c.me x hx h)
 ·rcases List.mem_append.1 hx with hx|hx
  ·exact c.rc x hx
  ·rw[List.mem_singleton.1 hx]; exact .on (c.rc p hp) hf
 ·rw[hg]
  split
  ·rfl
  ·exact c.su x hx h
 ·have e:(fun x:Nat=>if gi (bs.set q true) (x:Int)=true then (0:Int) else -1)=up (fun x:Nat=>if gi bs (x:Int)=true then (0:Int) else -1) q 0:=by
   funext x
   rw[hg,up]
   by_cases z:x=q
   ·simp[z]
   ·simp[z]
  rw[e,un_up hq (Int.le_refl _),if_pos (by simp[hn])]
  have:=c.ct
  simp only[List.length_append,List.length_cons,List.length_nil]
  omega
theorem CL.done {N s:Nat}{fr:List (Nat × Nat)}{bs:List Bool}{L:List Nat}(c:CL N fr s bs L)(hf:∀f∈fr,f.2<N)(hs:∀p,s.testBit p=true->p<N)(hd:∀p∈L,∀q,(p,q)∈fr->gi bs (q:Int)=true):bs=bits N (cloF N fr s):=by
 have key:∀p:Nat,p<N->gi bs (p:Int)=(cloF N fr s).testBit p:=by
  intro p hp
  have h1:gi bs (p:Int)=true↔(cloF N fr s).testBit p=true:=by
   rw[a3F hf hs]
   constructor
   ·exact fun h=>c.rc p (c.me p hp h)
   ·intro h
    have:∀x,Rch fr s x->x<N->gi bs (x:Int)=true:=by
     intro x hx
     induction hx with
     |here h=>exact fun hx=>c.su _ hx h
     |@on a b h1 h2 ih=>
      intro hb
      have ha:=a8M hf hs h1
      exact hd a (c.me a ha (ih ha)) b h2
    exact this p h hp
  cases h2:gi bs (p:Int)<;>cases h3:(cloF N fr s).testBit p<;>simp_all
 refine List.ext_getElem (by rw[c.lb,a0M]) fun p h1 h2=>?_
 rw[<-e2_ h1,<-e2_ h2,key p (by have:=c.lb; omega),a2m (by have:=c.lb; omega)]
def onF (bs:List Bool)(i:Nat):List Nat:=(List.range i).filter fun p:Nat=>gi bs (p:Int)
theorem a6M (bs:List Bool)(i:Nat):onF bs (i+1)=onF bs i++if gi bs (i:Int)=true then [i] else []:=by
 simp only[onF,List.range_succ,List.filter_append]
 congr 1
 by_cases q:gi bs (i:Int)=true
 ·simp[List.filter,q]
 ·simp[List.filter,q]
theorem b4t (bs:List Bool)(i:Nat):(onF bs i).length<=i:=Nat.le_trans (List.length_filter_le ..) (by simp)
theorem CL.zero {N s:Nat}{fr:List (Nat × Nat)}:CL N fr s (bits N s) (onF (bits N s) N):=by
 refine ⟨a0M ..,fun p hp=>?_,fun p hp=>?_,fun p h1 h2=>?_,fun p hp=>?_,fun p h1 h2=>by rw[a2m h1]; exact h2,?_⟩
 ·have:=(List.mem_filter.1 hp).1; simpa using this
 ·exact (List.mem_filter.1 hp).2
 ·exact List.mem_filter.2 ⟨by simpa using h1,h2⟩
 ·obtain ⟨h1,h2⟩:=List.mem_filter.1 hp
  have h1:p<N:=by simpa using h1
  rw[a2m h1] at h2
  exact .here h2
 ·have:∀n,un n (fun p=>if gi (bits N s) (p:Int)=true then 0 else -1)+(onF (bits N s) n).length=n:=by
   intro n
   induction n with
   |zero=>rfl
   |succ n ih=>
    rw[a6M,List.length_append]
    show un n _+(if (if gi (bits N s) (n:Int)=true then (0:Int) else -1)<0 then 1 else 0)+_=_
    by_cases q:gi (bits N s) (n:Int)=true
    ·simp only[if_pos q]; simp; omega
    ·simp only[if_neg q]; simp; omega
  exact this N
end Go.Gm.AQ
namespace Go.Gm.AQ
open Go Go.Gm
structure NfV (h:Heap) (nf:NF) (sS sF:AV):Prop where
 s:Sl h 3 sS (nf.st.map encS)
 f:Sl h 2 sF (nf.fr.map encF)
 ok:NfOk nf
 n0:nf.n<=1000
 ls:nf.st.length<=100000
 lf:nf.fr.length<=100000
 sv:∀x∈nf.st,x.2.2<2 ^ 62
theorem NfV.ext {h h':Heap}{nf:NF}{sS sF:AV}(v:NfV h nf sS sF)(e:Ext h h'):NfV h' nf sS sF:=⟨v.s.ext e,v.f.ext e,v.ok,v.n0,v.ls,v.lf,v.sv⟩
abbrev nfC (nf:NF)(sS sF:AV):List AV:=[I nf.n,I nf.s,I nf.e,sS,sF]
section
variable {nf:NF} {sS sF:AV}
theorem a7X {W:Nat->Prop}{hb h h':Heap}{q:Nat}{sB:AV}(r:RwI W hb q sB nf.n (outs nf.fr) h){D:Nat->Prop}(f:FrS D h h')(hd:∀o,o<h.length->D o->o≠q/\o<hb.length)(hq:q<hb.length) :
  ∀t,t<nf.n->∃s,ld1 h' (elP 1 sB t)=some s/\idxS 1 sB (I t)=some (elP 1 sB t)/\Sl h' 1 s ((outs nf.fr t).map encN'):=by
 intro t ht
 obtain ⟨B,g,lB,fm,hW,fr⟩:=r
 have g':=g.frs f fun o z1 z2 z3=>by have:=fr.len; have:=hd o (by omega) z3; omega
 have sl:Sl h' 1 sB (B.map enc1):=g'.sl
 have fm':=fm.frs f fun o z1 z2 z3=>by have:=hd o z1 z3; have:=hW o z2; omega
 exact ⟨gi B t,by rw[sl.ld0 (Ext.refl _) (by omega) (by omega) (by omega)]; rfl,sl.idxG (by omega) (by omega),fm'.sl ht⟩
theorem b1V {W2 : Nat → Prop} {hb h2 hr : Heap} {oo orr i p s : Nat} {out rows : AV} (ok : NfOk nf) (hn : nf.n ≤ 1000) (hlf : nf.fr.length ≤ 100000) (hs : ∀ q, s.testBit q = true → q < nf.n)
    (rw0 : RwI W2 h2 orr rows nf.n (outs nf.fr) hr) (e2 : Ext hb h2) (ho2 : oo < h2.length ∧ oo ≠ orr ∧ orr < h2.length) {l0 : AV} {ol0 : Nat} (hl0 : l0 ≠ .nils → ol0 < h2.length ∧ ol0 ≠ orr) {Q : AV → Heap → Prop}
    (hQ : ∀ h bs L l ol, FrS (fun o => o = oo ∨ (l0 ≠ .nils ∧ o = ol0) ∨ hr.length ≤ o) hr h → Gr oo (oo + 1) h 1 out (bs.map encB) → Gr ol (ol + 1) h 1 l (L.map encN') → (l ≠ .nils → ((l0 ≠ .nils ∧ ol = ol0) ∨ hr.length ≤ ol) ∧ ol < h.length ∧ ol ≠ oo) → CL nf.n nf.fr s bs L → i < L.length → L[i]? = some p → (∀ q, (p, q) ∈ nf.fr → gi bs (q : Int) = true) → (∀ (k : Nat) x, k < i → L[k]? = some x → ∀ q, (x, q) ∈ nf.fr → gi bs (q : Int) = true) →
      WP (fun p : Nat × Nat => t4_ p.1 p.2 out l rows (I i) h) Q) :
    ∀ (d k : Nat) (h : Heap) (bs : List Bool) (L : List Nat) (l : AV) (ol : Nat), k + d = (outs nf.fr p).length → FrS (fun o => o = oo ∨ (l0 ≠ .nils ∧ o = ol0) ∨ hr.length ≤ o) hr h → Gr oo (oo + 1) h 1 out (bs.map encB) → Gr ol (ol + 1) h 1 l (L.map encN') → (l ≠ .nils → ((l0 ≠ .nils ∧ ol = ol0) ∨ hr.length ≤ ol) ∧ ol < h.length ∧ ol ≠ oo) → CL nf.n nf.fr s bs L → L[i]? = some p →
      (∀ q ∈ (outs nf.fr p).take k, gi bs (q : Int) = true) → (∀ (k : Nat) x, k < i → L[k]? = some x → ∀ q, (x, q) ∈ nf.fr → gi bs (q : Int) = true) →
      WP (fun p : (Nat × Nat) × Nat => h2_ p.1.1 p.1.2 p.2 out l rows (I i) (I k) h) Q := by
  have hrl := (show FrS _ h2 hr by obtain ⟨B, _, _, _, _, fr⟩ := rw0; exact fr).len
  intro d
  induction d with
  | zero =>
    intro k h bs L l ol hk f go gl lh cl hp hd hold
    refine WP.rnd (fun i' j => y1_ i'.1 i'.2 j out l rows (I i) (I k) h) ?_
    have hiL := (List.getElem?_eq_some_iff.1 hp).1
    have hpn := cl.lt p (List.mem_of_getElem? hp)
    have gp : gi L (i : Int) = p := by rw [e2_ hiL]; rw [List.getElem?_eq_getElem hiL] at hp; injection hp
    obtain ⟨sr, r1, r2, r3⟩ := a7X rw0 f (fun o z1 z2 => by
      rcases z2 with z2 | z2 | z2
      · exact ⟨by omega, by omega⟩
      · have := hl0 z2.1; omega
      · omega) ho2.2.2 p hpn
    have hle := cl.le
    have r4 := r3.lenG
    rw [List.take_of_length_le (by omega)] at hd
    simp -implicitDefEqProofs (disch := first | assumption | omega | exact Ext.refl _ | (simp only [gL, gA] <;> omega) | fail) only [gC, reduceIte, Nat.reduceAdd, Nat.reduceMul, gl.sl.idxG, gl.sl.ld0, gp, encN', r1, r2, r4]
    exact WP.lv (hQ h bs L l ol f go gl lh cl hiL hp (fun q hq => hd q (a8T.2 hq)) hold) fun i j => rfl
  | succ d ih =>
    intro k h bs L l ol hk f go gl lh cl hp hd hold
    refine WP.rnd (fun i' j => y1_ i'.1 i'.2 j out l rows (I i) (I k) h) ?_
    have hiL := (List.getElem?_eq_some_iff.1 hp).1
    have hpm := List.mem_of_getElem? hp
    have hpn := cl.lt p hpm
    have gp : gi L (i : Int) = p := by rw [e2_ hiL]; rw [List.getElem?_eq_getElem hiL] at hp; injection hp
    obtain ⟨sr, r1, r2, r3⟩ := a7X rw0 f (fun o z1 z2 => by
      rcases z2 with z2 | z2 | z2
      · exact ⟨by omega, by omega⟩
      · have := hl0 z2.1; omega
      · omega) ho2.2.2 p hpn
    have hle := cl.le
    have r4 := r3.lenG
    have hol := a8S nf.fr p
    obtain ⟨q, hq⟩ : ∃ q, (outs nf.fr p)[k]? = some q := ⟨(outs nf.fr p)[k], List.getElem?_eq_getElem (by omega)⟩
    have gq : gi (outs nf.fr p) (k : Int) = q := by rw [e2_ (by omega)]; rw [List.getElem?_eq_getElem (by omega)] at hq; injection hq
    have hqf := a8T.1 (List.mem_of_getElem? hq)
    have hqn : q < nf.n := (ok.fr _ hqf).2
    have lb := cl.lb
    have htk : (outs nf.fr p).take (k + 1) = (outs nf.fr p).take k ++ [q] := a6d hq
    obtain ⟨b, hb'⟩ : ∃ b, gi bs (q : Int) = b := ⟨_, rfl⟩
    cases b with
    | true =>
      simp -implicitDefEqProofs (disch := first | assumption | omega | exact Ext.refl _ | (simp only [gL, gA] <;> omega) | fail) only [gC, reduceIte, Nat.reduceAdd, Nat.reduceMul, gl.sl.idxG, gl.sl.ld0, gp, encN', r1, r2, r4, r3.idxG, r3.ld0, gq, go.sl.idxG, go.sl.ld0, hb', encB]
      refine ih (k + 1) h bs L l ol (by omega) f go gl lh cl hp (fun x hx => ?_) hold
      rw [htk] at hx
      rcases List.mem_append.1 hx with hx | hx
      · exact hd x hx
      · rw [List.mem_singleton.1 hx]; exact hb'
    | false =>
      have hlne : l ≠ .nils := gl.nnil (by intro z; have : L = [] := by simpa using z
                                           rw [this] at hp; simp at hp)
      obtain ⟨h3, w1, w2, w3, w4⟩ := go.write0 (i := (q : Int)) (v := .bool true) (by omega) (by simp; omega) rfl rfl
      have f3 : FrS (fun o => o = oo) h h3 := w3.s.mono fun o z1 z2 => by omega
      have gl3 := l5_ gl f3 fun z => (lh z).2.2
      have lit := Gr.lit (h := h3) (sz := 1) (v := encN' q) rfl
      have e1 : Ext h3 (mkObj h3 (encN' q)) := Ext.push _ _
      rw [a4_] at lit e1
      have hll : (h3 ++ [AObj.cells ⟨encN' q, 0, 0, false⟩]).length = h3.length + 1 := by simp
      obtain ⟨s', h4, o', a1, a2, a3, a4, a5⟩ := Gr.appQ (bytes := 8) (gl3.ext e1) (fun z => by have := lh z; omega) lit.sl (by omega) (by omega) (by simp; omega)
      have f4 := (FrS.ofExt (D := fun x => l ≠ .nils ∧ x = ol) e1).trans a4
      have ho' : o' = ol := a5 hlne
      subst ho'
      have lh' := lh hlne
      have hh1 := f.len
      have hh4 := f4.len
      have fD : FrS (fun o => o = oo ∨ (l0 ≠ .nils ∧ o = ol0) ∨ hr.length ≤ o) hr h4 := by
        refine ⟨by omega, fun o z1 z2 => ?_⟩
        rw [f4.get (fun z => ?_) (by omega), f3.get (fun z => z1 (.inl z)) (by omega)]
        · exact f.get z1 z2
        · rcases lh'.1 with y | y
          · exact z1 (.inr (.inl ⟨y.1, by rw [z.2]; exact y.2⟩))
          · exact z1 (.inr (.inr (by rw [z.2]; exact y)))
      have go4 := l5_ w2 f4 fun _ z => lh'.2.2 z.2.symm
      simp only [encN'] at a1
      have r3' := r3
      have goe : Gr oo (oo + 1) h4 1 out ((bs.set q true).map encB) := go4.cong (by rw [List.map_set]; rfl)
      have hgs : ∀ x : Nat, gi (bs.set q true) (x : Int) = if x = q then true else gi bs (x : Int) := fun x => giset2 (by omega) true
      simp -implicitDefEqProofs (disch := first | assumption | omega | exact Ext.refl _ | (simp only [gL, gA] <;> omega) | fail) only [gC, reduceIte, Nat.reduceAdd, Nat.reduceMul, gl.sl.idxG, gl.sl.ld0, gp, encN', r1, r2, r4, r3.idxG, r3.ld0, gq, go.sl.idxG, go.sl.ld0, hb', encB, w1, a1]
      refine ih (k + 1) h4 (bs.set q true) (L ++ [q]) s' o' (by omega) fD goe (a2.cong (by simp [encN'])) (fun z => ⟨lh'.1, (a3 z).2, lh'.2.2⟩) (cl.add hpm hqf hqn hb') (x8_ hp) (fun x hx => ?_) fun k' x hk' hx y hy => ?_
      · rw [htk] at hx
        rw [hgs]
        rcases List.mem_append.1 hx with hx | hx
        · split
          · rfl
          · exact hd x hx
        · rw [List.mem_singleton.1 hx, if_pos rfl]
      · rw [List.getElem?_append_left (by omega)] at hx
        rw [hgs]
        split
        · rfl
        · exact hold k' x hk' hx y hy
end
end Go.Gm.AQ
