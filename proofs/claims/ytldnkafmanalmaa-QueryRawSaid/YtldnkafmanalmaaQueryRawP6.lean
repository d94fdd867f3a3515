/- A part of the proof (GmAQX, GmAQY, GmAQZ, GmAQMA, GmAQMB, GmAQBK, GmAQBM, GmAQBN, GmAQBO, GmAQBP, GmAQBQ, GmAQBR, GmAQBS, GmAQBT, GmAQBU, GmAQBV, GmAQCA, GmAQCB, GmPt, GmAQCC, GmAQCD, GmPu, GmAQCE, GmAQCF, GmAQCG, GmSb, GmWd, GmLg, GmLh, GmNl, GmSl). -/
import Derived.Test.YtldnkafmanalmaaQueryRawP5
set_option linter.unusedVariables false
set_option linter.unusedSimpArgs false
set_option linter.unusedSectionVars false
namespace Go.Gm.AQ
open Go Go.Gm
section
variable {N:Nat} {es:List E} {D:List (List Int)} {acc:List Bool}
theorem a9D {W:Nat->Prop}{hb:Heap}{o3 o4 oe hcl i:Nat}{sE sD sA c7:AV}{rows:List AV}{st:Nat->Prop}{c0:Nat->Int}{Q:AV->Heap->Prop}(ok:DOk D acc)(no:NetOk N es)(co:COk es)(hn2:N*D.length<=1000000)(hg:GOk (N*D.length) 2147483647 (hopA es D.length (onL es D)))(hst:∀x,st x->x<N*D.length)(hW:∀o,W o->hb.length<=o/\o<hcl)(hD:Sl hb 5 sD (D.map encR))(r4:hb[o4]?=some (.cells ⟨[sD,sA],0,0,false⟩))(hi:i<es.length)(hoe:hcl<=oe)(hbe:hb.length<=hcl)(hQ:∀h b c,Ext hb h->hcl<=h.length->MatW W 0 c7 N D.length rows c h->PI es D N st b c0 c i D.length->WP (fun p:(Nat × Nat) × Nat=>q3_ p.1.1 p.1.2 p.2 (.ptr o3 0 2 0) (.ptr o4 0 2 0) c7 (.bool b) (I i) h) Q) :
  ∀(d s:Nat) (h:Heap) (b:Bool) (c:Nat->Int),s+d=D.length->Ext hb h->hcl<=h.length->MatW W 0 c7 N D.length rows c h->h[oe]?=some (.cells ⟨encE (eg es i),0,0,false⟩)->PI es D N st b c0 c i s->
   WP (fun p:((Nat × Nat) × Nat) × Nat=>f5_ p.1.1.1 p.1.1.2 p.1.2 p.2 (.ptr o3 0 2 0) (.ptr o4 0 2 0) c7 (.bool b) (I i) (.ptr oe 0 4 0) (I s) h) Q:=by
 intro d
 induction d with
 |zero=>
  intro s h b c h1 e hl w re p
  refine WP.rnd (fun i' j=>v2_ i'.1.1 i'.1.2 i'.2 j (.ptr o3 0 2 0) (.ptr o4 0 2 0) c7 (.bool b) (I i) (.ptr oe 0 4 0) (I s) h) ?_
  obtain rfl:s=D.length:=by omega
  have r4':=e.get r4
  simp -implicitDefEqProofs (maxSteps:=1000000) (disch:=first|assumption|omega|(simp only[gL]<;>omega)|((repeat (first|exact Ext.refl _|assumption|apply Ext.app|apply Ext.mk|(refine Ext.setr ?_ (by (first|omega|(simp only[gL]<;>omega))) _))); done)|(simp only[gL,gA,r4',hD.lenG]<;>omega)|fail) only[gB,setAll,partL,fldV,reduceIte,Nat.reduceAdd,Nat.reduceMul,r4',hD.lenG]
  exact WP.lv (hQ h b c e hl w p) fun i j=>rfl
 |succ d ih=>
  intro s h b c h1 e hl w re p
  refine WP.rnd (fun i' j=>v2_ i'.1.1 i'.1.2 i'.2 j (.ptr o3 0 2 0) (.ptr o4 0 2 0) c7 (.bool b) (I i) (.ptr oe 0 4 0) (I s) h) ?_
  have hs:s<D.length:=by omega
  have r4':=e.get r4
  have he:0<=(eg es i).fr/\(eg es i).fr<N/\0<=(eg es i).to/\(eg es i).to<N/\0<=(eg es i).md/\(eg es i).md<5:=no.edge _ (a4_ (xs:=es) (i:=(i:Int)) (by omega) (by omega))
  have ht:0<=nx D s (eg es i).md/\nx D s (eg es i).md<D.length:=ok.to s (eg es i).md (by omega) (by omega) he.2.2.2.2.1 he.2.2.2.2.2
  have hco:0<=(eg es i).co/\(eg es i).co<=2147483647:=co.c _ (a4_ (xs:=es) (i:=(i:Int)) (by omega) (by omega))
  obtain ⟨pp,p1,p2,-⟩:=cellA (H:=h) hD e (i:=(s:Int)) (j:=(eg es i).md) (by omega) (by omega) he.2.2.2.2.1 he.2.2.2.2.2
  rw[show (encR (gi D s)).getD (eg es i).md.toNat .undef=I (nx D s (eg es i).md) by
   have hr:=ok.row s (by omega) (by omega)
   simp only[encR,nx,List.getD_eq_getElem?_getD,List.getElem?_map]
   have:=a7_ (xs:=gi D s) he.2.2.2.2.1 (by omega)
   rw[this]; rfl] at p2
  have hx1:src es D.length i s=(eg es i).fr.toNat*D.length+s:=rfl
  have hx2:dst es D i s=(eg es i).to.toNat*D.length+(nx D s (eg es i).md).toNat:=rfl
  have hsn:src es D.length i s<N*D.length:=by rw[hx1]; exact spotN (by omega) hs
  have hdn:dst es D i s<N*D.length:=by rw[hx2]; exact spotN (by omega) (by omega)
  have hW0:(0:Int)<=2147483647:=by omega
  have bs:=p.r.le hW0 hsn
  have bd:=p.r.le hW0 hdn
  have hnn:((N*D.length:Nat):Int)*2147483647<=1000000*2147483647:=by omega
  have kp:=p.keep
  have rl:=p.relax ok no hg hst hi hs hsn
  simp only[Rx] at kp
  rw[hx1,hx2] at kp rl
  rw[hx1] at bs
  rw[hx2] at bd
  obtain ⟨f,hf⟩:∃f:Nat,(eg es i).fr=f:=⟨(eg es i).fr.toNat,by omega⟩
  obtain ⟨t,hto⟩:∃t:Nat,(eg es i).to=t:=⟨(eg es i).to.toNat,by omega⟩
  obtain ⟨u,hu⟩:∃u:Nat,nx D s (eg es i).md=u:=⟨(nx D s (eg es i).md).toNat,by omega⟩
  obtain ⟨m,hm⟩:∃m:Int,(eg es i).md=m:=⟨_,rfl⟩
  obtain ⟨y,hy⟩:∃y:Int,(eg es i).co=y:=⟨_,rfl⟩
  have ncf:((f:Nat):Int).toNat=f:=Int.toNat_natCast f
  have nct:((t:Nat):Int).toNat=t:=Int.toNat_natCast t
  have ncu:((u:Nat):Int).toNat=u:=Int.toNat_natCast u
  rw[hu] at p2
  rw[hm] at p1
  simp only[hf,hto,hu,hy,ncf,nct,ncu] at kp rl bs bd hco
  simp only[encE,hf,hto,hm,hy] at re
  have hfN:f<N:=by omega
  have htN:t<N:=by omega
  have huS:u<D.length:=by omega
  have lr:=w.lr
  have rf:=w.row hfN
  have rt:=w.row htN
  have gf1:=a4a (c:=c) (v:=f) hs
  have gt1:=a4a (c:=c) (v:=t) huS
  obtain ⟨x1,hx1'⟩:∃x1,c (f*D.length+s)=x1:=⟨_,rfl⟩
  obtain ⟨x2,hx2'⟩:∃x2,c (t*D.length+u)=x2:=⟨_,rfl⟩
  simp only[hx1',hx2'] at kp rl bs bd gf1 gt1
  by_cases c1:0<=x1
  ·by_cases c2:x2<0
   ·obtain ⟨h',s1,w1,f1⟩:=w.set htN huS (x1+y)
    simp -implicitDefEqProofs (maxSteps:=1000000) (disch:=first|assumption|omega|(simp only[gL]<;>omega)|((repeat (first|exact Ext.refl _|assumption|apply Ext.app|apply Ext.mk|(refine Ext.setr ?_ (by (first|omega|(simp only[gL]<;>omega))) _))); done)|(simp only[gL,gA,r4',hD.lenG,hD.idxG,re,p1,p2,w.gc.idxG,w.gc.ld0,lr,rf.idxG,rf.ld0,rt.idxG,rt.ld0,c6_,encI,gf1,gt1,s1]<;>omega)|fail) only[gB,setAll,partL,fldV,reduceIte,Nat.reduceAdd,Nat.reduceMul,r4',hD.lenG,hD.idxG,re,p1,p2,w.gc.idxG,w.gc.ld0,lr,rf.idxG,rf.ld0,rt.idxG,rt.ld0,c6_,encI,gf1,gt1,s1]
    have e1:Ext hb h':=f1.ext e fun o z1 z2=>by have:=hW o z2; omega
    have hl1:=f1.len
    refine ih (s+1) h' true _ (by omega) e1 (by omega) w1 ?_ (rl c1 (.inl c2))
    rw[f1.get (fun z=>by have:=hW _ z; omega) (List.getElem?_eq_some_iff.1 re).1,re]
    simp only[encE,hf,hto,hm,hy]
   ·by_cases c3:x1+y<x2
    ·obtain ⟨h',s1,w1,f1⟩:=w.set htN huS (x1+y)
     simp -implicitDefEqProofs (maxSteps:=1000000) (disch:=first|assumption|omega|(simp only[gL]<;>omega)|((repeat (first|exact Ext.refl _|assumption|apply Ext.app|apply Ext.mk|(refine Ext.setr ?_ (by (first|omega|(simp only[gL]<;>omega))) _))); done)|(simp only[gL,gA,r4',hD.lenG,hD.idxG,re,p1,p2,w.gc.idxG,w.gc.ld0,lr,rf.idxG,rf.ld0,rt.idxG,rt.ld0,c6_,encI,gf1,gt1,s1]<;>omega)|fail) only[gB,setAll,partL,fldV,reduceIte,Nat.reduceAdd,Nat.reduceMul,r4',hD.lenG,hD.idxG,re,p1,p2,w.gc.idxG,w.gc.ld0,lr,rf.idxG,rf.ld0,rt.idxG,rt.ld0,c6_,encI,gf1,gt1,s1]
     have e1:Ext hb h':=f1.ext e fun o z1 z2=>by have:=hW o z2; omega
     have hl1:=f1.len
     refine ih (s+1) h' true _ (by omega) e1 (by omega) w1 ?_ (rl c1 (.inr c3))
     rw[f1.get (fun z=>by have:=hW _ z; omega) (List.getElem?_eq_some_iff.1 re).1,re]
     simp only[encE,hf,hto,hm,hy]
    ·simp -implicitDefEqProofs (maxSteps:=1000000) (disch:=first|assumption|omega|(simp only[gL]<;>omega)|((repeat (first|exact Ext.refl _|assumption|apply Ext.app|apply Ext.mk|(refine Ext.setr ?_ (by (first|omega|(simp only[gL]<;>omega))) _))); done)|(simp only[gL,gA,r4',hD.lenG,hD.idxG,re,p1,p2,w.gc.idxG,w.gc.ld0,lr,rf.idxG,rf.ld0,rt.idxG,rt.ld0,c6_,encI,gf1,gt1]<;>omega)|fail) only[gB,setAll,partL,fldV,reduceIte,Nat.reduceAdd,Nat.reduceMul,r4',hD.lenG,hD.idxG,re,p1,p2,w.gc.idxG,w.gc.ld0,lr,rf.idxG,rf.ld0,rt.idxG,rt.ld0,c6_,encI,gf1,gt1]
     refine ih (s+1) h b c (by omega) e hl w ?_ (kp fun _=>⟨by omega,by omega⟩)
     simp only[encE,hf,hto,hm,hy]; exact re
  ·simp -implicitDefEqProofs (maxSteps:=1000000) (disch:=first|assumption|omega|(simp only[gL]<;>omega)|((repeat (first|exact Ext.refl _|assumption|apply Ext.app|apply Ext.mk|(refine Ext.setr ?_ (by (first|omega|(simp only[gL]<;>omega))) _))); done)|(simp only[gL,gA,r4',hD.lenG,hD.idxG,re,p1,p2,w.gc.idxG,w.gc.ld0,lr,rf.idxG,rf.ld0,rt.idxG,rt.ld0,c6_,encI,gf1,gt1]<;>omega)|fail) only[gB,setAll,partL,fldV,reduceIte,Nat.reduceAdd,Nat.reduceMul,r4',hD.lenG,hD.idxG,re,p1,p2,w.gc.idxG,w.gc.ld0,lr,rf.idxG,rf.ld0,rt.idxG,rt.ld0,c6_,encI,gf1,gt1]
   refine ih (s+1) h b c (by omega) e hl w ?_ (kp fun z=>absurd z c1)
   simp only[encE,hf,hto,hm,hy]; exact re
end
end Go.Gm.AQ
namespace Go.Gm.AQ
open Go Go.Gm
section
variable {N:Nat} {es:List E} {D:List (List Int)} {acc:List Bool}
theorem a6J {W:Nat->Prop}{hb:Heap}{o3 o4 hcl:Nat}{sE sD sA c7:AV}{rows:List AV}{st:Nat->Prop}{c0:Nat->Int}{Q:AV->Heap->Prop}(ok:DOk D acc)(no:NetOk N es)(co:COk es)(hn2:N*D.length<=1000000)(hg:GOk (N*D.length) 2147483647 (hopA es D.length (onL es D)))(hst:∀x,st x->x<N*D.length)(hW:∀o,W o->hb.length<=o/\o<hcl)(hE:Sl hb 4 sE (es.map encE))(hD:Sl hb 5 sD (D.map encR))(r3:hb[o3]?=some (.cells ⟨[I N,sE],0,0,false⟩))(r4:hb[o4]?=some (.cells ⟨[sD,sA],0,0,false⟩))(hbe:hb.length<=hcl)(hQ:∀h b c,Ext hb h->hcl<=h.length->MatW W 0 c7 N D.length rows c h->PI es D N st b c0 c es.length 0->WP (fun p:Nat × Nat=>f4_ p.1 p.2 (.ptr o3 0 2 0) (.ptr o4 0 2 0) c7 (.bool b) h) Q) :
  ∀(d i:Nat) (h:Heap) (b:Bool) (c:Nat->Int),i+d=es.length->Ext hb h->hcl<=h.length->MatW W 0 c7 N D.length rows c h->PI es D N st b c0 c i 0->
   WP (fun p:(Nat × Nat) × Nat=>k9_ p.1.1 p.1.2 p.2 (.ptr o3 0 2 0) (.ptr o4 0 2 0) c7 (.bool b) (I i) h) Q:=by
 have hle:=no.len
 intro d
 induction d with
 |zero=>
  intro i h b c h1 e hl w p
  refine WP.rnd (fun i' j=>v3_ i'.1 i'.2 j (.ptr o3 0 2 0) (.ptr o4 0 2 0) c7 (.bool b) (I i) h) ?_
  obtain rfl:i=es.length:=by omega
  have r3':=e.get r3
  simp -implicitDefEqProofs (disch:=first|assumption|omega|(simp only[gL,gA]<;>omega)|fail) only[gC,reduceIte,r3',hE.lenG]
  exact WP.lv (hQ h b c e hl w p) fun i j=>rfl
 |succ d ih=>
  intro i h b c h1 e hl w p
  refine WP.rnd (fun i' j=>v3_ i'.1 i'.2 j (.ptr o3 0 2 0) (.ptr o4 0 2 0) c7 (.bool b) (I i) h) ?_
  have r3':=e.get r3
  obtain ⟨ed,hed⟩:∃ed,gi es (i:Int)=ed:=⟨_,rfl⟩
  simp -implicitDefEqProofs (disch:=first|assumption|omega|exact Ext.refl _|(simp only[gL,gA]<;>omega)|fail) only[gC,reduceIte,r3',hE.lenG,hE.idxG,hE.ldN,hed,encE]
  obtain ⟨h2,hh2⟩:∃h2,h2=((h++[AObj.cells ⟨[AV.int .i64 0,AV.int .i64 0,AV.int .i64 0,AV.int .i64 0],0,0,false⟩]).set h.length (.cells ⟨[I ed.fr,I ed.to,I ed.md,I ed.co],0,0,false⟩)):=⟨_,rfl⟩
  have e2:Ext h h2:=by rw[hh2]; ((repeat (first|exact Ext.refl _|assumption|apply Ext.app|apply Ext.mk|(refine Ext.setr ?_ (by (first|omega|(simp only[gL]<;>omega))) _))))
  have r2:h2[h.length]?=some (.cells ⟨[I ed.fr,I ed.to,I ed.md,I ed.co],0,0,false⟩):=by rw[hh2]; exact a0_ (by simp)
  rw[<-hh2]
  have hl2:=e2.len
  refine WP.ent (a9D (sE:=sE) (c0:=c0) (N:=N) (acc:=acc) (st:=st) (rows:=rows) ok no co hn2 hg hst hW hD r4 (i:=i) (by omega) (oe:=h.length) hl hbe (fun h3 b3 c3 e3 hl3 w3 p3=>?_) D.length 0 h2 b c (by omega) (e.trans e2) (by omega) (w.ext e2) ?_ p) fun i=>rfl
  ·refine WP.congr (fun p=>a1s p.1.1 p.1.2 p.2 (.ptr o3 0 2 0) (.ptr o4 0 2 0) c7 (.bool b3) (I i) h3) ?_
   simp -implicitDefEqProofs (disch:=first|assumption|omega|(simp only[gL,gA]<;>omega)|fail) only[gC,reduceIte]
   exact ih (i+1) h3 b3 c3 (by omega) e3 hl3 w3 p3.next
  ·show h2[h.length]?=some (.cells ⟨encE (gi es (i:Int)),0,0,false⟩)
   rw[hed]; exact r2
theorem a9E {W:Nat->Prop}{hb:Heap}{o3 o4 hcl:Nat}{sE sD sA c7:AV}{rows:List AV}{st:Nat->Prop}{Q:AV->Heap->Prop}(ok:DOk D acc)(no:NetOk N es)(co:COk es)(hn2:N*D.length<=1000000)(hg:GOk (N*D.length) 2147483647 (hopA es D.length (onL es D)))(hst:∀x,st x->x<N*D.length)(hW:∀o,W o->hb.length<=o/\o<hcl)(hE:Sl hb 4 sE (es.map encE))(hD:Sl hb 5 sD (D.map encR))(r3:hb[o3]?=some (.cells ⟨[I N,sE],0,0,false⟩))(r4:hb[o4]?=some (.cells ⟨[sD,sA],0,0,false⟩))(hbe:hb.length<=hcl)(hQ:∀h c,Ext hb h->MatW W 0 c7 N D.length rows c h->LC (N*D.length) (hopA es D.length (onL es D)) st c->Q c7 h) :
  ∀(d:Nat) (h:Heap) (c:Nat->Int),mu (N*D.length) 2147483647 c<=d->Ext hb h->hcl<=h.length->MatW W 0 c7 N D.length rows c h->RI (N*D.length) 2147483647 (hopA es D.length (onL es D)) st c->
   WP (fun p:Nat × Nat=>f4_ p.1 p.2 (.ptr o3 0 2 0) (.ptr o4 0 2 0) c7 (.bool true) h) Q:=by
 intro d
 induction d with
 |zero=>
  intro h c hm e hl w r
  refine WP.rnd (fun i j=>h4_ i j (.ptr o3 0 2 0) (.ptr o4 0 2 0) c7 (.bool true) h) ?_
  simp -implicitDefEqProofs (disch:=first|assumption|omega|(simp only[gL,gA]<;>omega)|fail) only[gC,reduceIte]
  refine WP.ent (a6J (c0:=c) (st:=st) (N:=N) (acc:=acc) (rows:=rows) ok no co hn2 hg hst hW hE hD r3 r4 hbe (fun h3 b3 c3 e3 hl3 w3 p3=>?_) es.length 0 h false c (by omega) e hl w ⟨r,.inl ⟨rfl,rfl,fun i' s' hi _=>by omega,fun s' hs=>by omega⟩⟩) fun i=>rfl
  cases b3 with
  |false=>
   refine WP.rnd (fun i j=>h4_ i j (.ptr o3 0 2 0) (.ptr o4 0 2 0) c7 (.bool false) h3) ?_
   simp -implicitDefEqProofs (disch:=first|assumption|omega|(simp only[gL,gA]<;>omega)|fail) only[gC,reduceIte]
   exact WP.ret (hQ h3 c3 e3 w3 (p3.done (b:=false) ok no co hg hst))
  |true=>
   have:=a5X (n:=N*D.length) (W:=2147483647) (by omega) c3
   rcases p3.p with ⟨z,_⟩|⟨_,z⟩
   ·cases z
   ·omega
 |succ d ih=>
  intro h c hm e hl w r
  refine WP.rnd (fun i j=>h4_ i j (.ptr o3 0 2 0) (.ptr o4 0 2 0) c7 (.bool true) h) ?_
  simp -implicitDefEqProofs (disch:=first|assumption|omega|(simp only[gL,gA]<;>omega)|fail) only[gC,reduceIte]
  refine WP.ent (a6J (c0:=c) (st:=st) (N:=N) (acc:=acc) (rows:=rows) ok no co hn2 hg hst hW hE hD r3 r4 hbe (fun h3 b3 c3 e3 hl3 w3 p3=>?_) es.length 0 h false c (by omega) e hl w ⟨r,.inl ⟨rfl,rfl,fun i' s' hi _=>by omega,fun s' hs=>by omega⟩⟩) fun i=>rfl
  cases b3 with
  |false=>
   refine WP.rnd (fun i j=>h4_ i j (.ptr o3 0 2 0) (.ptr o4 0 2 0) c7 (.bool false) h3) ?_
   simp -implicitDefEqProofs (disch:=first|assumption|omega|(simp only[gL,gA]<;>omega)|fail) only[gC,reduceIte]
   exact WP.ret (hQ h3 c3 e3 w3 (p3.done (b:=false) ok no co hg hst))
  |true=>
   rcases p3.p with ⟨z,_⟩|⟨_,z⟩
   ·cases z
   ·exact ih h3 c3 (by omega) e3 hl3 w3 p3.r
end
end Go.Gm.AQ
namespace Go.Gm.AQ
open Go Go.Gm
def BW (oc:Nat)(c7:AV)(N:Nat)(k:Nat->Nat)(h:Heap):Prop:=
 ∃rows:List AV,Gr oc (oc+1) h 1 c7 (rows.map fun s=>[s])/\rows.length=N/\Fam (fun o=>oc<o) h 1 (fun v:Nat=>v<N) (fun v:Nat=>gi rows (v:Int)) (fun v=>(List.replicate (k v) (-1:Int)).map encI)
theorem BW.ext {oc:Nat}{c7:AV}{N:Nat}{k:Nat->Nat}{h h':Heap}(b:BW oc c7 N k h)(e:Ext h h'):BW oc c7 N k h':=by
 obtain ⟨rows,g,l,f⟩:=b
 exact ⟨rows,g.ext e,l,f.frs (D:=fun _=>False) (FrS.ofExt e) fun _ _ _ z=>z⟩
theorem BW.congr {oc:Nat}{c7:AV}{N:Nat}{k k':Nat->Nat}{h:Heap}(b:BW oc c7 N k h)(e:∀v,v<N->k' v=k v):BW oc c7 N k' h:=by
 obtain ⟨rows,g,l,f⟩:=b
 exact ⟨rows,g,l,f.congr fun v hv=>⟨rfl,by rw[e v hv]⟩⟩
theorem BW.step {oc:Nat}{c7:AV}{N:Nat}{k:Nat->Nat}{h:Heap}(b:BW oc c7 N k h){v:Nat}(hv:v<N)(hk:k v<=100000)(hoc:oc<h.length) :
  ∃s1 s2 h2 h3,idxS 1 c7 (I v)=some (elP 1 c7 v)/\ld1 h (elP 1 c7 v)=some s1/\apnd 1 8 s1 (.sl h.length 0 1 1 none 0) (h++[AObj.cells ⟨[I (-1)],0,0,false⟩])=some (s2,h2)/\stN 1 h2 (elP 1 c7 v) s2=some h3/\
   BW oc c7 N (fun t=>if t=v then k t+1 else k t) h3/\FrS (fun o=>oc<=o) h h3:=by
 obtain ⟨rows,g,lr,f⟩:=b
 have b1:Sl (h++[AObj.cells ⟨[I (-1)],0,0,false⟩]) 1 (.sl h.length 0 1 1 none 0) [[I (-1)]]:=by
  have:=(Gr.lit (h:=h) (sz:=1) (v:=[I (-1)]) rfl).sl
  rwa [a1_] at this
 have e1:Ext h (h++[AObj.cells ⟨[I (-1)],0,0,false⟩]):=Ext.push _ _
 have f':=f.frs (D:=fun _=>False) (FrS.ofExt e1) fun _ _ _ z=>z
 obtain ⟨s2,h2,k1,k2,k3,k4⟩:=f'.append (bytes:=8) (t:=v) hv b1 (by simp) (by omega) (by omega) (by simp; omega)
 have g2:=(g.ext e1).frs k4 fun o z1 z2=>by omega
 have c2:s2.cells=[s2]:=by
  have:=(k3.sl (t:=v) hv).cells
  simpa using this
 obtain ⟨h3,n1,n2,n3,n4⟩:=g2.write0 (i:=(v:Int)) (by omega) (by rw[List.length_map]; omega) (v:=s2) (by rw[c2]; rfl) (by rw[c2]; simp[k2])
 have hlq:=k4.len
 have gs:=g.sl
 refine ⟨gi rows (v:Int),s2,h2,h3,gs.idxG (by omega) (by omega),?_,k1,n1,?_,?_⟩
 ·have:=gs.ld0 (Ext.refl _) (i:=(v:Int)) (by omega) (by omega) (by omega)
  exact this
 ·refine ⟨rows.set v s2,n2.cong ?_,by rw[List.length_set]; exact lr,?_⟩
  ·rw[c2,List.map_set,Int.toNat_natCast]
  ·have f3:=k3.frs n3.s (fun o z1 z2 z3=>by rcases z2 with z2|z2<;>simp only[List.length_append] at *<;>omega)
   refine (f3.mono fun o z1 z2=>?_).congr fun t ht=>⟨?_,?_⟩
   ·rcases z2 with z2|z2
    ·exact z2
    ·simp only[List.length_append] at z2; omega
   ·show gi (rows.set v s2) (t:Int)=if t=v then s2 else gi rows (t:Int)
    rw[giset2 (by omega)]
   ·show (List.replicate (if t=v then k t+1 else k t) (-1:Int)).map encI=if t=v then (List.replicate (k v) (-1:Int)).map encI++[[I (-1)]] else (List.replicate (k t) (-1:Int)).map encI
    by_cases qt:t=v
    ·subst qt
     rw[if_pos rfl,if_pos rfl,List.replicate_succ',List.map_append]; rfl
    ·rw[if_neg qt,if_neg qt]
 ·have z1:FrS (fun o=>oc<=o) h (h++[AObj.cells ⟨[I (-1)],0,0,false⟩]):=FrS.ofExt e1
  exact (z1.trans (k4.mono fun o _ z=>Nat.le_of_lt z)).trans (n3.s.mono fun o _ z=>z.1)
section
variable {N:Nat} {es:List E} {D:List (List Int)} {acc:List Bool}
def kk (S V s t:Nat):Nat:=if t<V then S else if t=V then s else 0
theorem b0S {hb:Heap}{o3 o4 oc V:Nat}{sD sA c7 vf:AV}(ok:DOk D acc)(hoc:hb.length<=oc)(hD:Sl hb 5 sD (D.map encR))(r4:hb[o4]?=some (.cells ⟨[sD,sA],0,0,false⟩))(hV:V<N)(hN:V<=1000000){Q:AV->Heap->Prop}(hQ:∀h,Ext hb h->oc<h.length->BW oc c7 N (kk D.length (V+1) 0) h->WP (fun p:Nat × Nat=>f3_ p.1 p.2 vf (.ptr o3 0 2 0) (.ptr o4 0 2 0) c7 (I (V+1)) h) Q) :
  ∀(d s:Nat) (h:Heap),s+d=D.length->Ext hb h->oc<h.length->BW oc c7 N (kk D.length V s) h->
   WP (fun p:(Nat × Nat) × Nat=>k8_ p.1.1 p.1.2 p.2 vf (.ptr o3 0 2 0) (.ptr o4 0 2 0) c7 (I V) (I s) h) Q:=by
 have l1:=ok.l1
 intro d
 induction d with
 |zero=>
  intro s h h1 e ho b
  refine WP.rnd (fun i j=>v1_ i.1 i.2 j vf (.ptr o3 0 2 0) (.ptr o4 0 2 0) c7 (I V) (I s) h) ?_
  obtain rfl:s=D.length:=by omega
  have r4':=e.get r4
  simp -implicitDefEqProofs (disch:=first|assumption|omega|(simp only[gL,gA]<;>omega)|fail) only[gC,reduceIte,r4',hD.lenG]
  have hb3:WP (fun p:Nat × Nat=>q1_ p.1 p.2 vf (.ptr o3 0 2 0) (.ptr o4 0 2 0) c7 (I V) h) Q:=by
   refine WP.congr (fun p=>a1r p.1 p.2 vf (.ptr o3 0 2 0) (.ptr o4 0 2 0) c7 (I V) h) ?_
   have:V<=1000000:=hN
   simp -implicitDefEqProofs (disch:=first|assumption|omega|(simp only[gL,gA]<;>omega)|fail) only[gC,reduceIte]
   refine hQ h e ho (b.congr fun t ht=>?_)
   simp only[kk]
   by_cases q:t<V
   ·rw[if_pos q,if_pos (by omega)]
   ·by_cases q2:t=V
    ·rw[if_neg q,if_pos (by omega),if_pos q2]
    ·rw[if_neg q,if_neg (by omega),if_neg q2]
     split<;>rfl
  exact WP.lv hb3 fun i j=>rfl
 |succ d ih=>
  intro s h h1 e ho b
  refine WP.rnd (fun i j=>v1_ i.1 i.2 j vf (.ptr o3 0 2 0) (.ptr o4 0 2 0) c7 (I V) (I s) h) ?_
  have r4':=e.get r4
  have hkv:kk D.length V s V=s:=by simp[kk]
  obtain ⟨s1,s2,h2,h3,k1,k2,k3,k4,k5,k6⟩:=b.step hV (by rw[hkv]; omega) ho
  simp -implicitDefEqProofs (disch:=first|assumption|omega|(simp only[gL,gA]<;>omega)|fail) only[gC,reduceIte,r4',hD.lenG,k1,k2,k3,k4]
  have hl:=k6.len
  refine ih (s+1) h3 (by omega) (k6.ext e fun o z1 z2=>by omega) (by omega) (k5.congr fun t ht=>?_)
  simp only[kk]
  by_cases q:t=V
  ·subst q; simp
  ·by_cases q2:t<V
   ·simp[q,q2]
   ·simp[q,q2]
theorem b0T (ok:DOk D acc)(no:NetOk N es)(co:COk es):GOk (N*D.length) 2147483647 (hopA es D.length (onL es D)):=by
 refine ⟨by omega,fun x hx y e w hm=>?_⟩
 obtain ⟨i,s,i1,s1,rfl,rfl,rfl⟩:=a7D ok no hx hm
 have he:0<=(eg es i).fr/\(eg es i).fr<N/\0<=(eg es i).to/\(eg es i).to<N/\0<=(eg es i).md/\(eg es i).md<5:=no.edge _ (a4_ (xs:=es) (i:=(i:Int)) (by omega) (by omega))
 have ht:0<=nx D s (eg es i).md/\nx D s (eg es i).md<D.length:=ok.to s (eg es i).md (by omega) (by omega) he.2.2.2.2.1 he.2.2.2.2.2
 have hco:0<=(eg es i).co/\(eg es i).co<=2147483647:=co.c _ (a4_ (xs:=es) (i:=(i:Int)) (by omega) (by omega))
 exact ⟨spotN (by omega) (by omega),hco.1,hco.2⟩
theorem a7Z {h:Heap}{sE sD sA:AV}(no:NetOk N es)(co:COk es)(hn2:N*D.length<=1000000)(hs:Sl h 4 sE (es.map encE))(ok:DOk D acc)(hD:Sl h 5 sD (D.map encR))(hA:Sl h 1 sA (acc.map encB)){v:Nat}(hv:v<N) :
  Tot tab a6_ [.agg [I N,sE],.agg [sD,sA],I v] h fun r h'=>Ext h h'/\∃c rows W,LC (N*D.length) (hopA es D.length (onL es D)) (fun x=>x=v*D.length) c/\MatW W 0 r N D.length rows c h':=by
 refine WP.tot (fun k=>a2w k _ _ _ h) ?_
 have hN:N<=100000:=by have:=no.n1; omega
 obtain ⟨h1,hh1⟩:∃h1,h1=(h++[AObj.cells ⟨[I N,sE],0,0,false⟩])++[AObj.cells ⟨[sD,sA],0,0,false⟩]:=⟨_,rfl⟩
 have e1:Ext h h1:=by rw[hh1]; ((repeat (first|exact Ext.refl _|assumption|apply Ext.app|apply Ext.mk|(refine Ext.setr ?_ (by (first|omega|(simp only[gL]<;>omega))) _))))
 have hl1:h1.length=h.length+2:=by rw[hh1]; simp
 have r3:h1[h.length]?=some (.cells ⟨[I N,sE],0,0,false⟩):=by rw[hh1]; simp
 have r4:h1[h.length+1]?=some (.cells ⟨[sD,sA],0,0,false⟩):=by rw[hh1]; simp
 obtain ⟨c7,h2,a2,g2,e2,_,l2⟩:=e7_ (zero:=[AV.nils]) (sz:=1) (bytes:=24) (n:=(N:Int)) h1 (by omega) (by omega) (by omega) rfl rfl
 simp -implicitDefEqProofs (maxSteps:=1000000) (disch:=first|assumption|omega|(simp only[gL]<;>omega)|((repeat (first|exact Ext.refl _|assumption|apply Ext.app|apply Ext.mk|(refine Ext.setr ?_ (by (first|omega|(simp only[gL]<;>omega))) _))); done)|(simp only[gL,gA,hs.one,hs.cells,hD.one,hD.cells,hA.one,hA.cells]<;>omega)|fail) only[gB,setAll,partL,fldV,reduceIte,Nat.reduceAdd,Nat.reduceMul,hs.one,hs.cells,hD.one,hD.cells,hA.one,hA.cells]
 rw[<-hh1]
 simp -implicitDefEqProofs (maxSteps:=1000000) (disch:=first|assumption|omega|(simp only[gL]<;>omega)|((repeat (first|exact Ext.refl _|assumption|apply Ext.app|apply Ext.mk|(refine Ext.setr ?_ (by (first|omega|(simp only[gL]<;>omega))) _))); done)|(simp only[gL,gA,a2]<;>omega)|fail) only[gB,setAll,partL,fldV,reduceIte,Nat.reduceAdd,Nat.reduceMul,a2]
 have b0:BW h1.length c7 N (kk D.length 0 0) h2:=by
  refine ⟨List.replicate N .nils,g2.cong (by simp),by simp,Fam.nil _ _ _ fun t ht=>⟨p6_ (by omega) (by omega),by simp[kk]⟩⟩
 have hg:=b0T ok no co
 have main:∀(d V:Nat) (h':Heap),V+d=N->Ext h1 h'->h1.length<h'.length->BW h1.length c7 N (kk D.length V 0) h'->
   WP (fun p:Nat × Nat=>f3_ p.1 p.2 (I v) (.ptr h.length 0 2 0) (.ptr (h.length+1) 0 2 0) c7 (I V) h') fun r h'=>Ext h h'/\∃c rows W,LC (N*D.length) (hopA es D.length (onL es D)) (fun x=>x=v*D.length) c/\MatW W 0 r N D.length rows c h':=by
  intro d
  induction d with
  |zero=>
   intro V h' hV e ho b
   refine WP.rnd (fun i j=>v4_ i j (I v) (.ptr h.length 0 2 0) (.ptr (h.length+1) 0 2 0) c7 (I V) h') ?_
   obtain rfl:V=N:=by omega
   have r3':=e.get r3
   simp -implicitDefEqProofs (maxSteps:=1000000) (disch:=first|assumption|omega|(simp only[gL]<;>omega)|((repeat (first|exact Ext.refl _|assumption|apply Ext.app|apply Ext.mk|(refine Ext.setr ?_ (by (first|omega|(simp only[gL]<;>omega))) _))); done)|(simp only[gL,gA,r3']<;>omega)|fail) only[gB,setAll,partL,fldV,reduceIte,Nat.reduceAdd,Nat.reduceMul,r3']
   obtain ⟨rows,gc,lr,f⟩:=b
   have w:MatW (fun o=>h1.length<o/\o<h'.length) 0 c7 V D.length rows (fun _=>-1) h':=by
    refine ⟨gc.sl,fun h'' fr=>(gc.frs fr fun o z1 z2 z3=>by omega).sl,lr,(f.mono fun o z1 z2=>⟨z2,z1⟩).congr fun t ht=>⟨rfl,?_⟩⟩
    congr 1
    simp only[rowL,kk]
    rw[if_pos ht]
    apply List.ext_getElem<;>simp
   obtain ⟨h3,s3,w3,f3⟩:=w.set hv ok.l0 0
   have e3:Ext h1 h3:=f3.ext e fun o z1 z2=>by omega
   have rv:=w.row hv
   have gv0:=a4a (c:=fun _=>(-1:Int)) (v:=v) ok.l0
   have hb4:WP (fun i:Nat=>q2_ i (I v) (.ptr h.length 0 2 0) (.ptr (h.length+1) 0 2 0) c7 h') fun r h'=>Ext h h'/\∃c rows W,LC (V*D.length) (hopA es D.length (onL es D)) (fun x=>x=v*D.length) c/\MatW W 0 r V D.length rows c h':=by
    refine WP.congr (fun i=>a1t i (I v) (.ptr h.length 0 2 0) (.ptr (h.length+1) 0 2 0) c7 h') ?_
    have l0:=ok.l0
    have s3':stN 1 h' (elP 1 (gi rows (v:Int)) 0) (I 0)=some h3:=s3
    simp -implicitDefEqProofs (maxSteps:=1000000) (disch:=first|assumption|omega|(simp only[gL]<;>omega)|((repeat (first|exact Ext.refl _|assumption|apply Ext.app|apply Ext.mk|(refine Ext.setr ?_ (by (first|omega|(simp only[gL]<;>omega))) _))); done)|(simp only[gL,gA,w.gc.idxG,w.gc.ld0,lr,rv.idxG,c6_,s3']<;>omega)|fail) only[gB,setAll,partL,fldV,reduceIte,Nat.reduceAdd,Nat.reduceMul,w.gc.idxG,w.gc.ld0,lr,rv.idxG,c6_,s3']
    have hst:∀x,x=v*D.length->x<V*D.length:=fun x z=>by
     have:=spotN (S:=D.length) hv ok.l0
     omega
    refine WP.ent (a9E (hb:=h1) (hcl:=h'.length) (st:=fun x=>x=v*D.length) (rows:=rows) (W:=fun o=>h1.length<o/\o<h'.length) (acc:=acc) ok no co hn2 hg hst (fun o z=>⟨by omega,z.2⟩) (hs.ext e1) (hD.ext e1) r3 r4 e.len (fun h4 c4 e4 w4 lc4=>⟨e1.trans e4,c4,rows,_,lc4,w4⟩) (mu (V*D.length) 2147483647 (up (fun _=>-1) (v*D.length+0) 0)).toNat h3 _ (by have:=a5X (n:=V*D.length) (W:=2147483647) (by omega) (up (fun _=>-1) (v*D.length+0) 0); omega) e3 f3.len w3 ?_) fun i=>rfl
    refine RI.start hg (hst _ rfl) (fun x=>Iff.rfl) fun x hx=>?_
    simp only[up,Nat.add_zero]
   exact WP.lv hb4 fun i j=>rfl
  |succ d ih=>
   intro V h' hV e ho b
   refine WP.rnd (fun i j=>v4_ i j (I v) (.ptr h.length 0 2 0) (.ptr (h.length+1) 0 2 0) c7 (I V) h') ?_
   have r3':=e.get r3
   simp -implicitDefEqProofs (maxSteps:=1000000) (disch:=first|assumption|omega|(simp only[gL]<;>omega)|((repeat (first|exact Ext.refl _|assumption|apply Ext.app|apply Ext.mk|(refine Ext.setr ?_ (by (first|omega|(simp only[gL]<;>omega))) _))); done)|(simp only[gL,gA,r3']<;>omega)|fail) only[gB,setAll,partL,fldV,reduceIte,Nat.reduceAdd,Nat.reduceMul,r3']
   exact WP.ent (b0S ok (Nat.le_refl _) (hD.ext e1) r4 (V:=V) (N:=N) (by omega) (by omega) (fun h4 e4 ho4 b4=>ih (V+1) h4 (by omega) e4 ho4 b4) D.length 0 h' (by omega) e ho b) fun i=>rfl
 exact WP.ent (main N 0 h2 (by omega) e2 (by omega) b0) fun i=>rfl
theorem a9d {hb:Heap}{o3 o4 lo v:Nat}{sD sA c7:AV}{rows:List AV}{W:Nat->Prop}{c:Nat->Int}{xs:List Int}(ok:DOk D acc)(hN:N<=100000)(hlo:hb.length<=lo)(w0:MatW W 0 c7 N D.length rows c hb)(hD:Sl hb 5 sD (D.map encR))(hA:Sl hb 1 sA (acc.map encB))(r4:hb[o4]?=some (.cells ⟨[sD,sA],0,0,false⟩))(hv:v<N)(hx:xs.length=v){out:AV}{h:Heap}(e:Ext hb h)(g:Gr hb.length h.length h 1 out (xs.map encI)){Q:AV->Heap->Prop}(hQ:∀h' out',Ext hb h'->Gr hb.length h'.length h' 1 out' ((xs++[bv c acc (v*D.length) D.length]).map encI)->WP (fun p:Nat × Nat=>f0_ p.1 p.2 (.ptr o3 0 2 0) (.ptr o4 0 2 0) c7 out' (I (v+1)) h') Q) :
  ∀(d s:Nat),s+d=D.length->
   WP (fun p:(Nat × Nat) × Nat=>f1_ p.1.1 p.1.2 p.2 (.ptr o3 0 2 0) (.ptr o4 0 2 0) c7 out (I v) (I (bv c acc (v*D.length) s)) (I s) h) Q:=by
 have l1:=ok.l1
 have la:=ok.la
 have r4':=e.get r4
 have w:=w0.ext e
 intro d
 induction d with
 |zero=>
  intro s h1
  refine WP.rnd (fun i j=>u5_ i.1 i.2 j (.ptr o3 0 2 0) (.ptr o4 0 2 0) c7 out (I v) (I (bv c acc (v*D.length) s)) (I s) h) ?_
  obtain rfl:s=D.length:=by omega
  simp -implicitDefEqProofs (maxSteps:=1000000) (disch:=first|assumption|omega|(simp only[gL]<;>omega)|((repeat (first|exact Ext.refl _|assumption|apply Ext.app|apply Ext.mk|(refine Ext.setr ?_ (by (first|omega|(simp only[gL]<;>omega))) _))); done)|(simp only[gL,gA,r4',hD.lenG]<;>omega)|fail) only[gB,setAll,partL,fldV,reduceIte,Nat.reduceAdd,Nat.reduceMul,r4',hD.lenG]
  have hb3:WP (fun p:Nat × Nat=>p9_ p.1 p.2 (.ptr o3 0 2 0) (.ptr o4 0 2 0) c7 out (I v) (I (bv c acc (v*D.length) D.length)) h) Q:=by
   refine WP.congr (fun p=>a1p p.1 p.2 (.ptr o3 0 2 0) (.ptr o4 0 2 0) c7 out (I v) (I (bv c acc (v*D.length) D.length)) h) ?_
   have hlb:=e.len
   obtain ⟨s',h',q1,q2,q3⟩:=Gr.append1 (bytes:=8) g (v:=[I (bv c acc (v*D.length) D.length)]) rfl (by omega) (by omega) (by simp; omega) (by omega) (by omega)
   rw[a1_] at q1
   simp -implicitDefEqProofs (maxSteps:=1000000) (disch:=first|assumption|omega|(simp only[gL]<;>omega)|((repeat (first|exact Ext.refl _|assumption|apply Ext.app|apply Ext.mk|(refine Ext.setr ?_ (by (first|omega|(simp only[gL]<;>omega))) _))); done)|(simp only[gL,gA,q1]<;>omega)|fail) only[gB,setAll,partL,fldV,reduceIte,Nat.reduceAdd,Nat.reduceMul,q1]
   refine WP.congr (fun p=>a1o p.1 p.2 (.ptr o3 0 2 0) (.ptr o4 0 2 0) c7 s' (I v) h') ?_
   simp -implicitDefEqProofs (maxSteps:=1000000) (disch:=first|assumption|omega|(simp only[gL]<;>omega)|((repeat (first|exact Ext.refl _|assumption|apply Ext.app|apply Ext.mk|(refine Ext.setr ?_ (by (first|omega|(simp only[gL]<;>omega))) _))); done)|(simp only[gL,gA]<;>omega)|fail) only[gB,setAll,partL,fldV,reduceIte,Nat.reduceAdd,Nat.reduceMul]
   exact hQ h' s' (q3.ext e (by omega)) (q2.cong (by simp[encI]))
  exact WP.lv hb3 fun i j=>rfl
 |succ d ih=>
  intro s h1
  refine WP.rnd (fun i j=>u5_ i.1 i.2 j (.ptr o3 0 2 0) (.ptr o4 0 2 0) c7 out (I v) (I (bv c acc (v*D.length) s)) (I s) h) ?_
  have hs:s<D.length:=by omega
  have lr:=w.lr
  have rf:=w.row hv
  have gf1:=a4a (c:=c) (v:=v) hs
  have hbs:bv c acc (v*D.length) (s+1)=if gi acc s=true/\0<=c (v*D.length+s)/\(bv c acc (v*D.length) s<0\/c (v*D.length+s)<bv c acc (v*D.length) s) then c (v*D.length+s) else bv c acc (v*D.length) s:=rfl
  have ihs:=ih (s+1) (by omega)
  rw[hbs] at ihs
  obtain ⟨b,hbb⟩:∃b,bv c acc (v*D.length) s=b:=⟨_,rfl⟩
  obtain ⟨x,hxx⟩:∃x,c (v*D.length+s)=x:=⟨_,rfl⟩
  rw[hbb,hxx] at ihs
  rw[hxx] at gf1
  rw[hbb]
  have hA':=hA.ext e
  cases hac:gi acc (s:Int) with
  |false=>
   rw[if_neg (by rw[hac]; simp)] at ihs
   simp -implicitDefEqProofs (maxSteps:=1000000) (disch:=first|assumption|omega|(simp only[gL]<;>omega)|((repeat (first|exact Ext.refl _|assumption|apply Ext.app|apply Ext.mk|(refine Ext.setr ?_ (by (first|omega|(simp only[gL]<;>omega))) _))); done)|(simp only[gL,gA,r4',hD.lenG,hA'.idxG,hA'.ld0,encB,hac]<;>omega)|fail) only[gB,setAll,partL,fldV,reduceIte,Nat.reduceAdd,Nat.reduceMul,r4',hD.lenG,hA'.idxG,hA'.ld0,encB,hac]
   exact ihs
  |true=>
   by_cases c1:0<=x
   ·by_cases c2:b<0
    ·rw[if_pos ⟨hac,c1,.inl c2⟩] at ihs
     simp -implicitDefEqProofs (maxSteps:=1000000) (disch:=first|assumption|omega|(simp only[gL]<;>omega)|((repeat (first|exact Ext.refl _|assumption|apply Ext.app|apply Ext.mk|(refine Ext.setr ?_ (by (first|omega|(simp only[gL]<;>omega))) _))); done)|(simp only[gL,gA,r4',hD.lenG,hA'.idxG,hA'.ld0,encB,hac,w.gc.idxG,w.gc.ld0,lr,rf.idxG,rf.ld0,c6_,encI,gf1]<;>omega)|fail) only[gB,setAll,partL,fldV,reduceIte,Nat.reduceAdd,Nat.reduceMul,r4',hD.lenG,hA'.idxG,hA'.ld0,encB,hac,w.gc.idxG,w.gc.ld0,lr,rf.idxG,rf.ld0,c6_,encI,gf1]
     exact ihs
    ·by_cases c3:x<b
     ·rw[if_pos ⟨hac,c1,.inr c3⟩] at ihs
      simp -implicitDefEqProofs (maxSteps:=1000000) (disch:=first|assumption|omega|(simp only[gL]<;>omega)|((repeat (first|exact Ext.refl _|assumption|apply Ext.app|apply Ext.mk|(refine Ext.setr ?_ (by (first|omega|(simp only[gL]<;>omega))) _))); done)|(simp only[gL,gA,r4',hD.lenG,hA'.idxG,hA'.ld0,encB,hac,w.gc.idxG,w.gc.ld0,lr,rf.idxG,rf.ld0,c6_,encI,gf1]<;>omega)|fail) only[gB,setAll,partL,fldV,reduceIte,Nat.reduceAdd,Nat.reduceMul,r4',hD.lenG,hA'.idxG,hA'.ld0,encB,hac,w.gc.idxG,w.gc.ld0,lr,rf.idxG,rf.ld0,c6_,encI,gf1]
      exact ihs
     ·rw[if_neg (fun z=>by omega)] at ihs
      simp -implicitDefEqProofs (maxSteps:=1000000) (disch:=first|assumption|omega|(simp only[gL]<;>omega)|((repeat (first|exact Ext.refl _|assumption|apply Ext.app|apply Ext.mk|(refine Ext.setr ?_ (by (first|omega|(simp only[gL]<;>omega))) _))); done)|(simp only[gL,gA,r4',hD.lenG,hA'.idxG,hA'.ld0,encB,hac,w.gc.idxG,w.gc.ld0,lr,rf.idxG,rf.ld0,c6_,encI,gf1]<;>omega)|fail) only[gB,setAll,partL,fldV,reduceIte,Nat.reduceAdd,Nat.reduceMul,r4',hD.lenG,hA'.idxG,hA'.ld0,encB,hac,w.gc.idxG,w.gc.ld0,lr,rf.idxG,rf.ld0,c6_,encI,gf1]
      exact ihs
   ·rw[if_neg (fun z=>by omega)] at ihs
    simp -implicitDefEqProofs (maxSteps:=1000000) (disch:=first|assumption|omega|(simp only[gL]<;>omega)|((repeat (first|exact Ext.refl _|assumption|apply Ext.app|apply Ext.mk|(refine Ext.setr ?_ (by (first|omega|(simp only[gL]<;>omega))) _))); done)|(simp only[gL,gA,r4',hD.lenG,hA'.idxG,hA'.ld0,encB,hac,w.gc.idxG,w.gc.ld0,lr,rf.idxG,rf.ld0,c6_,encI,gf1]<;>omega)|fail) only[gB,setAll,partL,fldV,reduceIte,Nat.reduceAdd,Nat.reduceMul,r4',hD.lenG,hA'.idxG,hA'.ld0,encB,hac,w.gc.idxG,w.gc.ld0,lr,rf.idxG,rf.ld0,c6_,encI,gf1]
    exact ihs
theorem a8a (N S:Nat)(c:Nat->Int)(acc:List Bool)(v:Nat):costL (v+1) S c acc=costL v S c acc++[bv c acc (v*S) S]:=by
 simp[costL,List.range_succ]
theorem a7b {h:Heap}{sE sD sA:AV}(no:NetOk N es)(co:COk es)(hn2:N*D.length<=1000000)(hs:Sl h 4 sE (es.map encE))(ok:DOk D acc)(hD:Sl h 5 sD (D.map encR))(hA:Sl h 1 sA (acc.map encB)){v:Nat}(hv:v<N) :
  Tot tab c0_ [.agg [I N,sE],.agg [sD,sA],I v] h fun r h'=>Ext h h'/\∃c,LC (N*D.length) (hopA es D.length (onL es D)) (fun x=>x=v*D.length) c/\Gr h.length h'.length h' 1 r ((costL N D.length c acc).map encI):=by
 refine WP.tot (fun k=>a2s k _ _ _ h) ?_
 have hN:N<=100000:=by have:=no.n1; omega
 obtain ⟨h1,hh1⟩:∃h1,h1=(h++[AObj.cells ⟨[I N,sE],0,0,false⟩])++[AObj.cells ⟨[sD,sA],0,0,false⟩]:=⟨_,rfl⟩
 have e1:Ext h h1:=by rw[hh1]; ((repeat (first|exact Ext.refl _|assumption|apply Ext.app|apply Ext.mk|(refine Ext.setr ?_ (by (first|omega|(simp only[gL]<;>omega))) _))))
 have r3:h1[h.length]?=some (.cells ⟨[I N,sE],0,0,false⟩):=by rw[hh1]; simp
 have r4:h1[h.length+1]?=some (.cells ⟨[sD,sA],0,0,false⟩):=by rw[hh1]; simp
 simp -implicitDefEqProofs (maxSteps:=1000000) (disch:=first|assumption|omega|(simp only[gL]<;>omega)|((repeat (first|exact Ext.refl _|assumption|apply Ext.app|apply Ext.mk|(refine Ext.setr ?_ (by (first|omega|(simp only[gL]<;>omega))) _))); done)|(simp only[gL,gA,hs.one,hs.cells,hD.one,hD.cells,hA.one,hA.cells]<;>omega)|fail) only[gB,setAll,partL,fldV,reduceIte,Nat.reduceAdd,Nat.reduceMul,hs.one,hs.cells,hD.one,hD.cells,hA.one,hA.cells]
 rw[<-hh1]
 refine WP.call (a7Z no co hn2 (hs.ext e1) ok (hD.ext e1) (hA.ext e1) hv) ?_
 rintro c7 h2 ⟨e2,c,rows,W,lc,w⟩
 have e12:=e1.trans e2
 have main:∀(d v':Nat) (h':Heap) (out:AV),v'+d=N->Ext h2 h'->Gr h2.length h'.length h' 1 out ((costL v' D.length c acc).map encI)->
   WP (fun p:Nat × Nat=>f0_ p.1 p.2 (.ptr h.length 0 2 0) (.ptr (h.length+1) 0 2 0) c7 out (I v') h') fun r h'=>Ext h h'/\∃c,LC (N*D.length) (hopA es D.length (onL es D)) (fun x=>x=v*D.length) c/\Gr h.length h'.length h' 1 r ((costL N D.length c acc).map encI):=by
  intro d
  induction d with
  |zero=>
   intro v' h' out hV e g
   refine WP.rnd (fun i j=>u6_ i j (.ptr h.length 0 2 0) (.ptr (h.length+1) 0 2 0) c7 out (I v') h') ?_
   obtain rfl:v'=N:=by omega
   have r3':=e.get (e2.get r3)
   simp -implicitDefEqProofs (maxSteps:=1000000) (disch:=first|assumption|omega|(simp only[gL]<;>omega)|((repeat (first|exact Ext.refl _|assumption|apply Ext.app|apply Ext.mk|(refine Ext.setr ?_ (by (first|omega|(simp only[gL]<;>omega))) _))); done)|(simp only[gL,gA,r3']<;>omega)|fail) only[gB,setAll,partL,fldV,reduceIte,Nat.reduceAdd,Nat.reduceMul,r3']
   exact WP.ret ⟨e12.trans e,c,lc,g.mono e12.len (Nat.le_refl _)⟩
  |succ d ih=>
   intro v' h' out hV e g
   refine WP.rnd (fun i j=>u6_ i j (.ptr h.length 0 2 0) (.ptr (h.length+1) 0 2 0) c7 out (I v') h') ?_
   have r3':=e.get (e2.get r3)
   simp -implicitDefEqProofs (maxSteps:=1000000) (disch:=first|assumption|omega|(simp only[gL]<;>omega)|((repeat (first|exact Ext.refl _|assumption|apply Ext.app|apply Ext.mk|(refine Ext.setr ?_ (by (first|omega|(simp only[gL]<;>omega))) _))); done)|(simp only[gL,gA,r3']<;>omega)|fail) only[gB,setAll,partL,fldV,reduceIte,Nat.reduceAdd,Nat.reduceMul,r3']
   refine WP.ent (a9d (hb:=h2) (lo:=h2.length) (c:=c) (v:=v') ok hN (Nat.le_refl _) w (hD.ext e12) (hA.ext e12) (e2.get r4) (by omega) (a0R v' D.length c acc) e g (fun h3 out3 e3 g3=>ih (v'+1) h3 out3 (by omega) e3 (g3.cong (by rw[a8a N]))) D.length 0 (by omega)) fun i=>rfl
 exact WP.ent (main N 0 h2 .nils (by omega) (Ext.refl _) (Gr.nil ..)) fun i=>rfl
end
end Go.Gm.AQ
namespace Go.Gm
theorem Gr.frsN {D:Nat->Prop}{o:Nat}{h h':Heap}{sz:Nat}{s:AV}{xs:List (List AV)}(a:Gr o (o+1) h sz s xs)(f:FrS D h h')(hd:s≠.nils->¬D o):Gr o (o+1) h' sz s xs:=by
 by_cases hn:s=.nils
 ·subst hn
  have:=Gr.isNil a
  subst this
  exact Gr.nil ..
 ·exact Gr.frs a f fun p z1 z2=>by rw[show p=o by omega]; exact hd hn
end Go.Gm
namespace Go.Gm.AQ
open Go Go.Gm
theorem add_w (a b:Int):binV .add .scalar (I a) (I b)=some (I (IntKind.i64.wrap (a+b))):=rfl
theorem b0U (a:Int){m:Int}(h0:0<=m):∃w,binV .shr .scalar (I a) (.int .u64 m)=some (I w):=by
 show ∃w,shiftI .shr .i64 a m=some (I w)
 simp only[shiftI]
 rw[if_neg (by omega)]
 exact ⟨_,rfl⟩
structure MK (h0:Heap) (n i:Nat) (D:List (List Int)) (acc:List Bool) (sD sA:AV) (oD oA:Nat) (h:Heap):Prop where
 ex:Ext h0 h
 r6:h[h0.length]?=some (.cells ⟨[.nils,.nils],0,0,false⟩)
 r7:h[h0.length+1]?=some (.cells ⟨[sD,sA],0,0,false⟩)
 gD:Gr oD (oD+1) h 5 sD (D.map encR)
 gA:Gr oA (oA+1) h 1 sA (acc.map encB)
 pD:sD≠.nils->h0.length+2<=oD/\oD<h.length
 pA:sA≠.nils->h0.length+2<=oA/\oA<h.length
 ne:sD≠.nils->sA≠.nils->oD≠oA
 lD:D.length=i
 lA:acc.length=i
 row:∀s:Int,0<=s->s<i->(gi D s).length=5
 to:∀s m:Int,0<=s->s<i->0<=m->m<5->0<=gi (gi D s) m/\gi (gi D s) m<n
theorem MK.frs {h0 h h':Heap}{n i:Nat}{D:List (List Int)}{acc:List Bool}{sD sA:AV}{oD oA:Nat}(w:MK h0 n i D acc sD sA oD oA h){P:Nat->Prop}(f:FrS P h h')(hp:∀o,o<h.length->¬P o):MK h0 n i D acc sD sA oD oA h':=by
 have hl:=f.len
 have b6:=(List.getElem?_eq_some_iff.1 w.r6).1
 have b7:=(List.getElem?_eq_some_iff.1 w.r7).1
 exact ⟨f.ext w.ex fun o z1 z2=>hp o (by omega) z2,by rw[f.get (hp _ b6) b6]; exact w.r6,by rw[f.get (hp _ b7) b7]; exact w.r7,w.gD.frsN f fun z=>hp _ (w.pD z).2,w.gA.frsN f fun z=>hp _ (w.pA z).2,fun z=>⟨(w.pD z).1,by have:=(w.pD z).2; omega⟩,fun z=>⟨(w.pA z).1,by have:=(w.pA z).2; omega⟩,w.ne,w.lD,w.lA,w.row,w.to⟩
theorem mk_b3 {h0:Heap}{n i on:Nat}{acc2:Int}{ns:AV}{D:List (List Int)}{acc:List Bool}{sD sA:AV}{oD oA:Nat}{vals:List Int}{Q:AV->Heap->Prop}(hn:n<=9)(hi:i<n)(hQ:∀h D acc sD sA oD oA,MK h0 n (i+1) D acc sD sA oD oA h->WP (fun p:Nat × Nat=>d6_ p.1 p.2 ns (I acc2) (.ptr h0.length 0 2 0) (.ptr (h0.length+1) 0 2 0) (I n) (I (i+1)) h) Q){h:Heap}(w:MK h0 n i D acc sD sA oD oA h)(hv:vals.length=5)(hvr:∀j:Int,0<=j->j<5->0<=gi vals j/\gi vals j<n)(ro:h[on]?=some (.cells ⟨encR vals,0,0,false⟩)) :
  WP (fun p:Nat × Nat=>r4_ p.1 p.2 ns (I acc2) (.ptr h0.length 0 2 0) (.ptr (h0.length+1) 0 2 0) (I n) (I i) (.ptr on 0 5 0) h) Q:=by
 refine WP.congr (fun p=>a1I p.1 p.2 ns (I acc2) (.ptr h0.length 0 2 0) (.ptr (h0.length+1) 0 2 0) (I n) (I i) (.ptr on 0 5 0) h) ?_
 obtain ⟨x0,x1,x2,x3,x4,hx⟩:∃x0 x1 x2 x3 x4,vals=[x0,x1,x2,x3,x4]:=by
  match vals,hv with
  |[x0,x1,x2,x3,x4],_=>exact ⟨x0,x1,x2,x3,x4,rfl⟩
 have ro':h[on]?=some (.cells ⟨[I x0,I x1,I x2,I x3,I x4],0,0,false⟩):=by rw[ro,hx]; rfl
 have lD:=w.lD
 have lA:=w.lA
 have b7:=(List.getElem?_eq_some_iff.1 w.r7).1
 have b6:=(List.getElem?_eq_some_iff.1 w.r6).1
 have r7:=w.r7
 obtain ⟨h1,hh1⟩:∃h1,h1=h++[AObj.cells ⟨[I x0,I x1,I x2,I x3,I x4],0,0,false⟩]:=⟨_,rfl⟩
 have e1:Ext h h1:=by rw[hh1]; exact Ext.push _ _
 have l1:h1.length=h.length+1:=by rw[hh1]; simp
 have w1:=w.frs (P:=fun _=>False) (FrS.ofExt e1) fun _ _ z=>z
 have b1:Sl h1 5 (.sl h.length 0 1 5 none 0) [[I x0,I x1,I x2,I x3,I x4]]:=by
  have:=(Gr.lit (h:=h) (sz:=5) (v:=[I x0,I x1,I x2,I x3,I x4]) rfl).sl
  rw[a1_] at this; rw[hh1]; exact this
 obtain ⟨sD2,h2,oD2,k1,k2,k3,k4⟩:=w1.gD.appP (bytes:=40) (fun z=>(w1.pD z).2) b1 (by omega) (by omega) (by simp; omega)
 have hl2:=k4.len
 have hnn:sD2≠.nils:=by
  intro z
  rw[z] at k2
  have:=k2.isNil
  simp at this
 have k3':=k3 hnn
 have r72:h2[h0.length+1]?=some (.cells ⟨[sD,sA],0,0,false⟩):=by
  rw[k4.get (fun z=>by have:=(w.pD z.1).1; omega) (by omega)]; exact w1.r7
 obtain ⟨h3,hh3⟩:∃h3,h3=h2.set (h0.length+1) (.cells ⟨[sD2,sA],0,0,false⟩):=⟨_,rfl⟩
 have l3:h3.length=h2.length:=by rw[hh3]; simp
 have r73:h3[h0.length+1]?=some (.cells ⟨[sD2,sA],0,0,false⟩):=by rw[hh3]; exact a0_ (by omega)
 have f3:FrS (fun o=>o=h0.length+1) h2 h3:=by rw[hh3]; exact ⟨by simp,fun p p1 p2=>a5_ fun z=>p1 z.symm⟩
 have gA3:Gr oA (oA+1) h3 1 sA (acc.map encB):=(w1.gA.frsN k4 fun z q=>w.ne q.1 z q.2.symm).frsN f3 fun z=>by have:=(w.pA z).1; omega
 have gD3:Gr oD2 (oD2+1) h3 5 sD2 (D.map encR++[[I x0,I x1,I x2,I x3,I x4]]):=k2.frsN f3 fun z=>by
  rcases k3'.1 with ⟨q,z⟩|q
  ·have:=(w.pD z).1; omega
  ·omega
 have c2:sD2.one=true:=k2.sl.one
 have c2':sD2.cells=[sD2]:=k2.sl.cells
 rw[hh1] at k1
 obtain ⟨wv,hwv⟩:=b0U acc2 (m:=(i:Int)) (by omega)
 have hcv:=a4D (n:=(i:Int)) (by omega) (by omega)
 simp -implicitDefEqProofs (disch:=first|assumption|omega|(simp only[gL,gA]<;>omega)|fail) only[gC,reduceIte,r7,ro',k1,r72,c2,c2']
 rw[<-hh3]
 simp -implicitDefEqProofs (disch:=first|assumption|omega|(simp only[gL,gA]<;>omega)|fail) only[gC,reduceIte,r73,hcv,hwv]
 refine WP.call (a0m (by omega) (by unfold Fit; omega) _) ?_
 rintro _ _ ⟨rfl,rfl⟩
 obtain ⟨bb,hbb⟩:∃bb:Bool,binV .eql .scalar (I (wv % 2)) (I 1)=some (.bool bb):=by
  by_cases q:wv % 2=1
  ·exact ⟨true,by rw[q]; rfl⟩
  ·exact ⟨false,eql_f q⟩
 obtain ⟨h4,hh4⟩:∃h4,h4=h3++[AObj.cells ⟨[.bool bb],0,0,false⟩]:=⟨_,rfl⟩
 have e4:Ext h3 h4:=by rw[hh4]; exact Ext.push _ _
 have l4:h4.length=h3.length+1:=by rw[hh4]; simp
 have b4:Sl h4 1 (.sl h3.length 0 1 1 none 0) [[.bool bb]]:=by
  have:=(Gr.lit (h:=h3) (sz:=1) (v:=[.bool bb]) rfl).sl
  rw[a1_] at this; rw[hh4]; exact this
 obtain ⟨sA2,h5,oA2,m1,m2,m3,m4⟩:=(gA3.ext e4).appP (bytes:=1) (fun z=>by have:=(w.pA z).2; omega) b4 (by omega) (by omega) (by simp; omega)
 have hl5:=m4.len
 have hnA:sA2≠.nils:=by
  intro z
  rw[z] at m2
  have:=m2.isNil
  simp at this
 have m3':=m3 hnA
 have r75:h5[h0.length+1]?=some (.cells ⟨[sD2,sA],0,0,false⟩):=by
  rw[m4.get (fun z=>by have:=(w.pA z.1).1; omega) (by omega)]; exact e4.get r73
 have c3:sA2.one=true:=m2.sl.one
 have c3':sA2.cells=[sA2]:=m2.sl.cells
 rw[hh4] at m1
 simp -implicitDefEqProofs (disch:=first|assumption|omega|(simp only[gL,gA]<;>omega)|fail) only[gC,reduceIte,r73,hbb,m1,r75,c3,c3']
 obtain ⟨h6,hh6⟩:∃h6,h6=h5.set (h0.length+1) (.cells ⟨[sD2,sA2],0,0,false⟩):=⟨_,rfl⟩
 have l6:h6.length=h5.length:=by rw[hh6]; simp
 have f6:FrS (fun o=>o=h0.length+1) h5 h6:=by rw[hh6]; exact ⟨by simp,fun p p1 p2=>a5_ fun z=>p1 z.symm⟩
 rw[<-hh6]
 refine WP.congr (fun p=>a1H p.1 p.2 ns (I acc2) (.ptr h0.length 0 2 0) (.ptr (h0.length+1) 0 2 0) (I n) (I i) h6) ?_
 simp -implicitDefEqProofs (disch:=first|assumption|omega|(simp only[gL,gA]<;>omega)|fail) only[gC,reduceIte]
 have hoD2:h0.length+2<=oD2/\oD2<h2.length:=by
  rcases k3'.1 with ⟨q,z⟩|q
  ·have:=(w.pD z).1; have:=k3'.2; omega
  ·have:=k3'.2; omega
 have hoA2:h0.length+2<=oA2/\oA2<h5.length:=by
  rcases m3'.1 with ⟨q,z⟩|q
  ·have:=(w.pA z).1; have:=m3'.2; omega
  ·have:=m3'.2; omega
 have hDA:sA≠.nils->oD2≠oA:=fun z=>by
  have:=(w.pA z).2
  rcases k3'.1 with ⟨q,q2⟩|q
  ·rw[q]; exact w.ne q2 z
  ·omega
 have e06:Ext h0 h6:=by
  have z1:Ext h0 h2:=k4.ext w1.ex fun o q1 q2=>by have:=(w.pD q2.1).1; omega
  have z2:Ext h0 h4:=(f3.ext z1 fun o q1 q2=>by omega).trans e4
  exact f6.ext (m4.ext z2 fun o q1 q2=>by have:=(w.pA q2.1).1; omega) fun o q1 q2=>by omega
 have r65:h6[h0.length]?=some (.cells ⟨[.nils,.nils],0,0,false⟩):=by
  rw[f6.get (by omega) (by omega),m4.get (fun z=>by have:=(w.pA z.1).1; omega) (by omega)]
  refine e4.get ?_
  rw[f3.get (by omega) (by omega),k4.get (fun z=>by have:=(w.pD z.1).1; omega) (by omega)]
  exact w1.r6
 refine hQ h6 (D++[vals]) (acc++[bb]) sD2 sA2 oD2 oA2 ⟨e06,r65,by rw[hh6]; exact a0_ (by omega),?_,?_,fun _=>by omega,fun _=>by omega,fun _ _=>?_,by simp; omega,by simp; omega,fun s s0 s1=>?_,fun s m s0 s1 m0 m1=>?_⟩
 ·refine (((gD3.ext e4).frsN m4 fun z q=>hDA q.1 q.2).frsN f6 fun z=>by omega).cong ?_
  rw[List.map_append,hx]; rfl
 ·refine (m2.frsN f6 fun z=>by omega).cong ?_
  rw[List.map_append]; rfl
 ·rcases m3'.1 with ⟨q,z⟩|q
  ·rw[q]; exact hDA z
  ·omega
 ·by_cases q:s=i
  ·subst q
   rw[h8_ (by simp; omega)]
   simp[<-lD,hv]
  ·have h8:gi (D++[vals]) s=gi D s:=by
    simp only[gi,List.getD_eq_getElem?_getD]
    rw[List.getElem?_append_left (by omega)]
   rw[h8]; exact w.row s s0 (by omega)
 ·by_cases q:s=i
  ·subst q
   have h8:gi (D++[vals]) (i:Int)=vals:=by
    rw[h8_ (by simp; omega)]
    simp[<-lD]
   rw[h8]; exact hvr m m0 m1
  ·have h8:gi (D++[vals]) s=gi D s:=by
    simp only[gi,List.getD_eq_getElem?_getD]
    rw[List.getElem?_append_left (by omega)]
   rw[h8]; exact w.to s m s0 (by omega) m0 m1
end Go.Gm.AQ
namespace Go.Gm.AQ
open Go Go.Gm
theorem b0V (size:Int)(zs:List Int)(modes:Int):COk (mkE size zs modes):=by
 refine ⟨fun e he=>?_⟩
 simp only[mkE,List.mem_map] at he
 obtain ⟨k,_,rfl⟩:=he
 simp only[mkEdge]
 split<;>omega
theorem a5l {o m:Nat}(hm:m<5):idxA 5 1 (.ptr o 0 5 0) (I m)=some (.ptr o m (m+1) 0):=by
 simp only[idxA,I]
 rw[if_pos ⟨by omega,by omega,by omega⟩]
 simp
theorem stP {h:Heap}{o m:Nat}{cs:List AV}{x:Int}(hr:h[o]?=some (.cells ⟨cs,0,0,false⟩)):stN 1 h (.ptr o m (m+1) 0) (I x)=some (h.set o (.cells ⟨cs.set m (I x),0,0,false⟩)):=by
 have c1:(I x).cells=[I x]:=rfl
 have c2:(I x).one=true:=rfl
 simp only[stN,wrc,hr,c1,List.length_cons,List.length_nil,List.all_cons,List.all_nil,c2,setAll]
 simp
theorem mk_l2 {h0 h2:Heap}{n i:Nat}{acc2:Int}{ns:AV}{zs:List Int}{D:List (List Int)}{acc:List Bool}{sD sA:AV}{oD oA on:Nat}{Q:AV->Heap->Prop}(hn:n<=9)(hi:i<n)(hns:Sl h0 1 ns (zs.map encI))(hon:h0.length<=on)(honl:on<h2.length)(e2:Ext h0 h2)(w:∀h,FrS (fun o=>o=on) h2 h->MK h0 n i D acc sD sA oD oA h)(hQ:∀h D acc sD sA oD oA,MK h0 n (i+1) D acc sD sA oD oA h->WP (fun p:Nat × Nat=>d6_ p.1 p.2 ns (I acc2) (.ptr h0.length 0 2 0) (.ptr (h0.length+1) 0 2 0) (I n) (I (i+1)) h) Q) :
  ∀(d m:Nat) (h:Heap) (vals:List Int),m+d=5->FrS (fun o=>o=on) h2 h->vals.length=5->(∀j:Int,0<=j->j<m->0<=gi vals j/\gi vals j<n)->h[on]?=some (.cells ⟨encR vals,0,0,false⟩)->
   WP (fun p:(Nat × Nat) × Nat=>d7_ p.1.1 p.1.2 p.2 ns (I acc2) (.ptr h0.length 0 2 0) (.ptr (h0.length+1) 0 2 0) (I n) (I i) (.ptr on 0 5 0) (I m) h) Q:=by
 intro d
 induction d with
 |zero=>
  intro m h vals h1 f lv hv ro
  refine WP.rnd (fun i' j=>w5_ i'.1 i'.2 j ns (I acc2) (.ptr h0.length 0 2 0) (.ptr (h0.length+1) 0 2 0) (I n) (I i) (.ptr on 0 5 0) (I m) h) ?_
  obtain rfl:m=5:=by omega
  simp -implicitDefEqProofs (disch:=first|assumption|omega|(simp only[gL,gA]<;>omega)|fail) only[gC,reduceIte]
  exact WP.lv (mk_b3 hn hi hQ (w h f) lv hv ro) fun i j=>rfl
 |succ d ih=>
  intro m h vals h1 f lv hv ro
  refine WP.rnd (fun i' j=>w5_ i'.1 i'.2 j ns (I acc2) (.ptr h0.length 0 2 0) (.ptr (h0.length+1) 0 2 0) (I n) (I i) (.ptr on 0 5 0) (I m) h) ?_
  have hm5:m<5:=by omega
  have e:Ext h0 h:=by
   have:=w h f
   exact this.ex
  have hw:IntKind.i64.wrap (5*(i:Int))=5*i:=b2_ (by omega) (by omega)
  have key:∀(x:Int),WP (fun p:(Nat × Nat) × Nat=>d7_ p.1.1 p.1.2 p.2 ns (I acc2) (.ptr h0.length 0 2 0) (.ptr (h0.length+1) 0 2 0) (I n) (I i) (.ptr on 0 5 0) (I (m+1)) (h.set on (.cells ⟨(encR vals).set m (I (x % n)),0,0,false⟩))) Q:=by
   intro x
   have x0:=Int.emod_nonneg x (show (n:Int)≠0 by omega)
   have x1:=Int.emod_lt_of_pos x (show (0:Int)<n by omega)
   refine ih (m+1) _ (vals.set m (x % n)) (by omega) (f.trans ⟨by simp,fun p p1 p2=>a5_ fun z=>p1 z.symm⟩) (by simpa using lv) (fun j j0 j1=>?_) ?_
   ·obtain ⟨k,rfl⟩:∃k:Nat,j=k:=⟨j.toNat,by omega⟩
    rw[giset2 (by omega)]
    by_cases q:k=m
    ·rw[if_pos q]; exact ⟨x0,x1⟩
    ·rw[if_neg q]; exact hv k j0 (by omega)
   ·rw[a0_ (by have:=f.len; omega)]
    simp only[encR,List.map_set]
  by_cases c1:5*(i:Int)+m<zs.length
  ·obtain ⟨x,hx⟩:∃x,gi zs (5*(i:Int)+m)=x:=⟨_,rfl⟩
   simp -implicitDefEqProofs (disch:=first|assumption|omega|exact Ext.refl _|(simp only[gL,gA]<;>omega)|fail) only[gC,reduceIte,hw,hns.lenG,hns.idxG,hns.ld0,hx,encI]
   refine WP.call (a0m (by omega) (by unfold Fit; omega) _) ?_
   rintro _ _ ⟨rfl,rfl⟩
   simp -implicitDefEqProofs (disch:=first|assumption|omega|(simp only[gL,gA]<;>omega)|fail) only[gC,reduceIte,a5l hm5,stP ro]
   exact key x
  ·simp -implicitDefEqProofs (disch:=first|assumption|omega|(simp only[gL,gA]<;>omega)|fail) only[gC,reduceIte,hw,hns.lenG,add_w]
   refine WP.call (a0m (by omega) (by unfold Fit; omega) _) ?_
   rintro _ _ ⟨rfl,rfl⟩
   simp -implicitDefEqProofs (disch:=first|assumption|omega|(simp only[gL,gA]<;>omega)|fail) only[gC,reduceIte,a5l hm5,stP ro]
   exact key _
theorem mk_l1 {h0:Heap}{n:Nat}{acc2:Int}{ns:AV}{zs:List Int}{Q:AV->Heap->Prop}(hn:n<=9)(hns:Sl h0 1 ns (zs.map encI))(hQ:∀h D acc sD sA oD oA,MK h0 n n D acc sD sA oD oA h->Q (.agg [sD,sA]) (h.set h0.length (.cells ⟨[sD,sA],0,0,false⟩))) :
  ∀(d i:Nat) (h:Heap) (D:List (List Int)) (acc:List Bool) (sD sA:AV) (oD oA:Nat),i+d=n->MK h0 n i D acc sD sA oD oA h->
   WP (fun p:Nat × Nat=>d6_ p.1 p.2 ns (I acc2) (.ptr h0.length 0 2 0) (.ptr (h0.length+1) 0 2 0) (I n) (I i) h) Q:=by
 intro d
 induction d with
 |zero=>
  intro i h D acc sD sA oD oA h1 w
  refine WP.rnd (fun i' j=>w6_ i' j ns (I acc2) (.ptr h0.length 0 2 0) (.ptr (h0.length+1) 0 2 0) (I n) (I i) h) ?_
  obtain rfl:i=n:=by omega
  have r6:=w.r6
  have r7:=w.r7
  have b6:=(List.getElem?_eq_some_iff.1 r6).1
  simp -implicitDefEqProofs (maxSteps:=1000000) (disch:=first|assumption|omega|(simp only[gL]<;>omega)|((repeat (first|exact Ext.refl _|assumption|apply Ext.app|apply Ext.mk|(refine Ext.setr ?_ (by (first|omega|(simp only[gL]<;>omega))) _))); done)|(simp only[gL,gA,r6,r7,w.gD.sl.one,w.gD.sl.cells,w.gA.sl.one,w.gA.sl.cells]<;>omega)|fail) only[gB,setAll,partL,fldV,reduceIte,Nat.reduceAdd,Nat.reduceMul,r6,r7,w.gD.sl.one,w.gD.sl.cells,w.gA.sl.one,w.gA.sl.cells]
  exact WP.ret (hQ h D acc sD sA oD oA w)
 |succ d ih=>
  intro i h D acc sD sA oD oA h1 w
  refine WP.rnd (fun i' j=>w6_ i' j ns (I acc2) (.ptr h0.length 0 2 0) (.ptr (h0.length+1) 0 2 0) (I n) (I i) h) ?_
  simp -implicitDefEqProofs (maxSteps:=1000000) (disch:=first|assumption|omega|(simp only[gL]<;>omega)|((repeat (first|exact Ext.refl _|assumption|apply Ext.app|apply Ext.mk|(refine Ext.setr ?_ (by (first|omega|(simp only[gL]<;>omega))) _))); done)|(simp only[gL,gA]<;>omega)|fail) only[gB,setAll,partL,fldV,reduceIte,Nat.reduceAdd,Nat.reduceMul]
  obtain ⟨h2,hh2⟩:∃h2,h2=h++[AObj.cells ⟨[AV.int .i64 0,AV.int .i64 0,AV.int .i64 0,AV.int .i64 0,AV.int .i64 0],0,0,false⟩]:=⟨_,rfl⟩
  have e2:Ext h h2:=by rw[hh2]; exact Ext.push _ _
  have l2:h2.length=h.length+1:=by rw[hh2]; simp
  have ro:h2[h.length]?=some (.cells ⟨encR [0,0,0,0,0],0,0,false⟩):=by rw[hh2]; simp[encR,I]
  rw[<-hh2]
  refine WP.ent (mk_l2 (on:=h.length) (h2:=h2) hn (by omega) hns (by have:=w.ex.len; omega) (by omega) (w.ex.trans e2) (fun h3 f=>w.frs (P:=fun o=>o=h.length) (⟨by have:=e2.len; have:=f.len; omega,fun o z1 z2=>by rw[f.get z1 (by omega),hh2,e6_ z2]⟩) fun o z1 z2=>by omega) (fun h3 D3 acc3 sD3 sA3 oD3 oA3 w3=>ih (i+1) h3 D3 acc3 sD3 sA3 oD3 oA3 (by omega) w3) 5 0 h2 [0,0,0,0,0] (by omega) (FrS.refl _ _) rfl (fun j j0 j1=>by omega) ro) fun i=>rfl
theorem a7E {o lo hi:Nat}{h:Heap}{sz:Nat}{s:AV}{xs:List (List AV)}(a:Gr o (o+1) h sz s xs)(ho:s≠.nils->lo<=o/\o<hi):Gr lo hi h sz s xs:=by
 by_cases hn:s=.nils
 ·subst hn
  have:=Gr.isNil a
  subst this
  exact Gr.nil ..
 ·exact Gr.mono a (ho hn).1 (ho hn).2
theorem a8b {h:Heap}{size acc2:Int}{ns:AV}{zs:List Int}(hns:Sl h 1 ns (zs.map encI)) :
  Tot tab c5_ [I size,ns,I acc2] h fun r h'=>Ext h h'/\∃D acc sD sA,r=.agg [sD,sA]/\DOk D acc/\D.length<=9/\Gr h.length h'.length h' 5 sD (D.map encR)/\Gr h.length h'.length h' 1 sA (acc.map encB):=by
 refine WP.tot (fun k=>a2F k _ _ _ h) ?_
 simp -implicitDefEqProofs (disch:=first|assumption|omega|(simp only[gL,gA]<;>omega)|fail) only[gC,reduceIte]
 refine WP.call (a0m (by omega) (by unfold Fit; omega) _) ?_
 rintro _ _ ⟨rfl,rfl⟩
 obtain ⟨n,hn⟩:∃n:Nat,1+size % 9=n:=⟨(1+size % 9).toNat,by omega⟩
 simp -implicitDefEqProofs (disch:=first|assumption|omega|(simp only[gL,gA]<;>omega)|fail) only[gC,reduceIte,hn]
 refine WP.ent (mk_l1 (n:=n) (by omega) hns (fun h3 D acc sD sA oD oA w=>?_) n 0 _ [] [] .nils .nils 0 0 (by omega) ⟨?_,?_,?_,Gr.nil ..,Gr.nil ..,fun z=>absurd rfl z,fun z=>absurd rfl z,fun z=>absurd rfl z,rfl,rfl,fun s s0 s1=>by omega,fun s m s0 s1=>by omega⟩) fun i=>rfl
 ·have f:FrS (fun o=>o=h.length) h3 (h3.set h.length (.cells ⟨[sD,sA],0,0,false⟩)):=⟨by simp,fun p p1 p2=>a5_ fun z=>p1 z.symm⟩
  refine ⟨f.ext w.ex fun o z1 z2=>by omega,D,acc,sD,sA,rfl,⟨?_,?_,?_,fun s s0 s1=>w.row s s0 (by rw[w.lD] at s1; exact s1),fun s m s0 s1 m0 m1=>?_⟩,by rw[w.lD]; omega,a7E (w.gD.frsN f fun z q=>by have:=(w.pD z).1; omega) fun z=>⟨by have:=(w.pD z).1; omega,by have:=(w.pD z).2; have:=f.len; omega⟩,a7E (w.gA.frsN f fun z q=>by have:=(w.pA z).1; omega) fun z=>⟨by have:=(w.pA z).1; omega,by have:=(w.pA z).2; have:=f.len; omega⟩⟩
  ·rw[w.lD]; omega
  ·rw[w.lD]; omega
  ·rw[w.lD,w.lA]
  ·rw[w.lD] at s1 ⊢; exact w.to s m s0 s1 m0 m1
 ·((repeat (first|exact Ext.refl _|assumption|apply Ext.app|apply Ext.mk|(refine Ext.setr ?_ (by (first|omega|(simp only[gL]<;>omega))) _))))
 ·simp
 ·simp
end Go.Gm.AQ
namespace Go.Gm.AQ
open Go Go.Gm
section
variable {h0 h:Heap} {g:AV} {N:Nat} {es:List E} {D:List (List Int)} {acc:List Bool}
end
end Go.Gm.AQ
namespace Go.Gm.AQ
open Go Go.Gm
section
variable {h0 h:Heap} {g:AV} {N:Nat} {es:List E} {D:List (List Int)} {acc:List Bool}
theorem a4b {S v s:Nat}(hs:s<S):(v*S+s) / S=v/\(v*S+s) % S=s:=by
 have h:=a4N (S:=S) (v:=v) (s:=s) (v':=(v*S+s) / S) (s':=(v*S+s) % S) hs (Nat.mod_lt _ (by omega)) (by
  rw[Nat.mul_comm ((v*S+s) / S),Nat.div_add_mod])
 exact ⟨h.1.symm,h.2.symm⟩
end
end Go.Gm.AQ
namespace Go.Gm.AQ
open Go Go.Gm
end Go.Gm.AQ
namespace Go.Gm.AQ
open Go Go.Gm
def SB (W:Nat->Prop)(h:Heap)(os:Nat)(g:AV)(fh:FuncId)(n:Nat)(A:Nat->List Hop)(st:Nat->Prop)(c:Nat->Int)(m:Nat->Option Int)(ls:Int):Prop:=
 ∃(q sc se sf:AV) (oc oe ov:Nat) (cs ds fs:List Int) (M:List (Option Int)) (id k:Nat) (rk:Nat->Nat),SW W h os g (.fn fh [] []) q sc se sf oc oe ov n cs ds fs M ls/\DI n 2147483647 A st id [] (gf cs) (gf M) (gf ds) (gf fs) rk k/\un n (gf cs)+(k:Int)=n/\
  c=gf cs/\m=gf M
def LsOk (n:Nat)(m:Nat->Option Int)(ls:Int):Prop:=0<=ls/\ls<=4000000000000000000/\∀x:Nat,x<n->∀v,m x=some v->ls<=v
section
variable {W:Nat->Prop} {h0 h h':Heap} {os n:Nat} {g:AV} {fh:FuncId} {A:Nat->List Hop} {st:Nat->Prop} {c:Nat->Int} {m:Nat->Option Int} {ls:Int}
theorem SB.frs (s:SB W h os g fh n A st c m ls){D:Nat->Prop}(f:FrS D h h')(hd:∀o,o<h.length->W o->¬D o):SB W h' os g fh n A st c m ls:=by
 obtain ⟨q,sc,se,sf,oc,oe,ov,cs,ds,fs,M,id,k,rk,w,r⟩:=s
 exact ⟨q,sc,se,sf,oc,oe,ov,cs,ds,fs,M,id,k,rk,w.frs f hd,r⟩
theorem SB.mono (s:SB W h os g fh n A st c m ls){W':Nat->Prop}(hw:∀o,o<h.length->W o->W' o):SB W' h os g fh n A st c m ls:=by
 obtain ⟨q,sc,se,sf,oc,oe,ov,cs,ds,fs,M,id,k,rk,w,r⟩:=s
 exact ⟨q,sc,se,sf,oc,oe,ov,cs,ds,fs,M,id,k,rk,w.mono hw,r⟩
theorem SB.hop (s:SB W h os g fh n A st c m ls){x:Nat}(hx:x<n)(h0:0<=c x){y e':Nat}{w:Int}(hh:(y,e',w)∈A x)(hy:y<n):0<=fnd c m y/\fnd c m y<=c x+w:=by
 obtain ⟨q,sc,se,sf,oc,oe,ov,cs,ds,fs,M,id,k,rk,w,d,u,rfl,rfl⟩:=s
 exact b0h d hx h0 hh hy
theorem SB.walk (s:SB W h os g fh n A st c m ls){x:Nat}(hx:x<n)(h0:0<=fnd c m x):∃l,Wk A st x l (fnd c m x):=by
 obtain ⟨q,sc,se,sf,oc,oe,ov,cs,ds,fs,M,id,k,rk,w,d,u,rfl,rfl⟩:=s
 exact a9y d hx h0
theorem SB.bnd (s:SB W h os g fh n A st c m ls)(hn2:n<=1000000){x:Nat}(hx:x<n):fnd c m x<=4000000000000000000:=by
 obtain ⟨q,sc,se,sf,oc,oe,ov,cs,ds,fs,M,id,k,rk,w,d,u,rfl,rfl⟩:=s
 have h1:=b0i (by omega) d hx
 have h2:=i4_ n (gf cs)
 omega
variable {N:Nat} {es:List E} {D:List (List Int)} {acc:List Bool} {L:Int->Int->List Tr}
theorem SB.step (e0:Ext h0 h)(hW:∀o,W o->h0.length<=o)(gv:GV h0 g N es D acc)(ok:DOk D acc)(co:COk es)(hN:N<=100000)(hn:n=N*D.length)(hn2:n<=1000000)(hh:HopsOk h0 g N es D fh L)(hst:∀x,st x->x<n)(s:SB W h os g fh n (hopA es D.length L) st c m ls) :
  Tot tab d3_ [.ptr os 0 7 0] h fun r h'=>FrS W h h'/\
   ((r=.tup [I 0,.bool false]/\(∀x:Nat,x<n->m x=none)/\SB (fun o=>W o\/h.length<=o) h' os g fh n (hopA es D.length L) st c m ls)\/
    ∃id key m2,id<n/\c id<0/\0<=key/\r=.tup [I id,.bool true]/\SB (fun o=>W o\/h.length<=o) h' os g fh n (hopA es D.length L) st (up c id key) m2 key/\LsOk n m2 key):=by
 obtain ⟨q,sc,se,sf,oc,oe,ov,cs,ds,fs,M,id0,k,rk,w,d,u,rfl,rfl⟩:=s
 refine (a3P e0 hW gv ok co hN hn hn2 hh hst w d u).mono ?_
 rintro r h2 ⟨f2,⟨rfl,hm,w2⟩|⟨id,key,ds2,fs2,M2,rk2,i1,i2,i3,rfl,w2,d2,k2⟩⟩
 ·exact ⟨f2,.inl ⟨rfl,hm,q,sc,se,sf,oc,oe,ov,cs,ds,fs,M,id0,k,rk,w2,d,u,rfl,rfl⟩⟩
 ·obtain ⟨q1,q2,_⟩:=d.que id i1 key i2
  have hcs:gf (cs.set id key)=up (gf cs) id key:=gset (by rw[w.lc]; exact i1) key
  have hid:gf (cs.set id key) id=key:=by rw[hcs]; exact if_pos rfl
  refine ⟨f2,.inr ⟨id,key,gf M2,i1,by omega,q2,rfl,⟨q,sc,se,sf,oc,oe,ov,cs.set id key,ds2,fs2,M2,id,k+1,rk2,w2,d2,k2,hcs.symm,rfl⟩,q2,?_,fun x hx v hv=>?_⟩⟩
  ·have h5:=d2.bnd id i1 key (.inl ⟨by rw[hid]; exact q2,hid⟩)
   have h6:=i4_ n (gf (cs.set id key))
   omega
  have:=d2.ord id x i1 hx (by rw[hid]; exact q2) v hv
  rw[hid] at this
  exact this
end
end Go.Gm.AQ
namespace Go.Gm.AQ
open Go Go.Gm
structure RowsB (h:Heap) (ot ob ol oz os1 os2:Nat) (L:Int):Prop where
 rt:h[ot]?=some (.cells ⟨[.ptr os1 0 7 0],0,0,false⟩)
 rb:h[ob]?=some (.cells ⟨[.ptr os2 0 7 0],0,0,false⟩)
 rl:h[ol]?=some (.cells ⟨[I L],0,0,false⟩)
 rz:h[oz]?=some (.cells ⟨[.ptr os1 0 7 0,.ptr os2 0 7 0],0,0,false⟩)
 ne:ot≠ol/\ob≠ol/\oz≠ol
section
variable {h h':Heap} {ot ob ol oz os1 os2:Nat} {L:Int}
theorem RowsB.frs (r:RowsB h ot ob ol oz os1 os2 L){D:Nat->Prop}(f:FrS D h h')(hd:¬D ot/\¬D ob/\¬D ol/\¬D oz):RowsB h' ot ob ol oz os1 os2 L:=by
 have b:=fun {o:Nat} {x:AObj} (z:h[o]?=some x)=>(List.getElem?_eq_some_iff.1 z).1
 exact ⟨by rw[f.get hd.1 (b r.rt)]; exact r.rt,by rw[f.get hd.2.1 (b r.rb)]; exact r.rb,by rw[f.get hd.2.2.1 (b r.rl)]; exact r.rl,by rw[f.get hd.2.2.2 (b r.rz)]; exact r.rz,r.ne⟩
variable {W1 W2:Nat->Prop} {n:Nat} {g:AV} {f1 f2:FuncId} {A A':Nat->List Hop} {st en:Nat->Prop} {c1 c2:Nat->Int} {m1 m2:Nat->Option Int} {ls1 ls2:Int}
def Snd (A:Nat->List Hop)(st en:Nat->Prop)(L:Int):Prop:=L = -1\/(0<=L/\∃z,en z/\∃l,Wk A st z l L)
end
end Go.Gm.AQ
namespace Go.Gm.AQ
open Go Go.Gm
section
variable {h0 hb:Heap} {ot ob ol oz os1 os2:Nat} {W1 W2:Nat->Prop} {n:Nat} {g:AV} {f1 f2:FuncId} {A A':Nat->List Hop} {st en:Nat->Prop} {c1 c2:Nat->Int} {m1 m2:Nat->Option Int} {ls1 ls2:Int}
variable {N:Nat} {es:List E} {D:List (List Int)} {acc:List Bool}
end
end Go.Gm.AQ
namespace Go.Gm.AQ
open Go Go.Gm
section
variable {h0 hb:Heap} {ot ob ol oz os1 os2:Nat} {W1 W2:Nat->Prop} {n:Nat} {g:AV} {f1 f2:FuncId} {A A':Nat->List Hop} {st en:Nat->Prop} {c1 c2:Nat->Int} {m1 m2:Nat->Option Int} {ls1 ls2:Int}
variable {N:Nat} {es:List E} {D:List (List Int)} {acc:List Bool}
theorem SB.row {W:Nat->Prop}{h:Heap}{os:Nat}{fh:FuncId}{c:Nat->Int}{m:Nat->Option Int}{ls:Int}(s:SB W h os g fh n A st c m ls):W os/\∃q sc se sf,h[os]?=some (.cells ⟨[g,.fn fh [] [],q,sc,se,sf,I ls],0,0,false⟩):=by
 obtain ⟨q,sc,se,sf,oc,oe,ov,cs,ds,fs,M,id,k,rk,w,_⟩:=s
 exact ⟨w.ws,q,sc,se,sf,w.row⟩
end
end Go.Gm.AQ
namespace Go.Gm.AQ
open Go Go.Gm
section
variable {W:Nat->Prop} {h0 h h':Heap} {os n:Nat} {g:AV} {fh:FuncId} {A:Nat->List Hop} {st:Nat->Prop} {c:Nat->Int} {m:Nat->Option Int} {ls:Int}
variable {N:Nat} {es:List E} {D:List (List Int)} {acc:List Bool} {L:Int->Int->List Tr}
theorem SB.all (e0:Ext h0 h)(hW:∀o,W o->h0.length<=o)(gv:GV h0 g N es D acc)(ok:DOk D acc)(co:COk es)(hN:N<=100000)(hn:n=N*D.length)(hn2:n<=1000000)(hh:HopsOk h0 g N es D fh L)(hst:∀x,st x->x<n)(s:SB W h os g fh n (hopA es D.length L) st c m ls) :
  Tot tab e3_ [.ptr os 0 7 0] h fun r h'=>r=.tup []/\FrS W h h'/\∃c2 m2 ls2,SB (fun o=>W o\/h.length<=o) h' os g fh n (hopA es D.length L) st c2 m2 ls2/\∀x:Nat,x<n->m2 x=none:=by
 obtain ⟨q,sc,se,sf,oc,oe,ov,cs,ds,fs,M,id0,k,rk,w,d,u,rfl,rfl⟩:=s
 refine (a4L e0 hW gv ok co hN hn hn2 hh hst w d u).mono ?_
 rintro r h2 ⟨rfl,f2,id2,k2,ls2,rk2,cs2,ds2,fs2,M2,w2,d2,m2,u2⟩
 exact ⟨rfl,f2,gf cs2,gf M2,ls2,⟨q,sc,se,sf,oc,oe,ov,cs2,ds2,fs2,M2,id2,k2,rk2,w2,d2,u2,rfl,rfl⟩,m2⟩
theorem SB.done (s:SB W h os g fh n A st c m ls)(hg:GOk n 2147483647 A)(hst:∀x,st x->x<n)(hm:∀x:Nat,x<n->m x=none){z:Nat}{l:List Nat}{v:Int}(h:Wk A st z l v):0<=c z/\c z<=v/\fnd c m z=c z:=by
 obtain ⟨q,sc,se,sf,oc,oe,ov,cs,ds,fs,M,id0,k,rk,w,d,u,rfl,rfl⟩:=s
 obtain ⟨h1,h2⟩:=d.all hg hst hm h
 exact ⟨h1,h2,if_pos h1⟩
end
section
variable {hb:Heap} {ot ob ol oz os1 os2:Nat} {W1 W2:Nat->Prop} {n:Nat} {g:AV} {f1 f2:FuncId} {A A':Nat->List Hop} {st en:Nat->Prop} {c1 c2:Nat->Int} {m1 m2:Nat->Option Int} {ls1 ls2:Int}
end
end Go.Gm.AQ
namespace Go.Gm.AQ
open Go Go.Gm
section
variable {h0:Heap} {ot ob ol oz os1 os2:Nat} {n:Nat} {g:AV} {st en:Nat->Prop}
variable {N:Nat} {es:List E} {D:List (List Int)} {acc:List Bool}
def Pl (h0 h:Heap)(ot ob ol oz:Nat)(W:Nat->Prop):Prop:=∀o,W o->h0.length<=o/\o<h.length/\o≠ot/\o≠ob/\o≠ol/\o≠oz
theorem Pl.grow {h h':Heap}{W:Nat->Prop}(p:Pl h0 h ot ob ol oz W)(e0:h0.length<=h.length)(e:h.length<=h'.length)(hr:ot<h.length/\ob<h.length/\ol<h.length/\oz<h.length):Pl h0 h' ot ob ol oz (fun o=>W o\/(h.length<=o/\o<h'.length)):=by
 intro o z
 rcases z with z|z
 ·have:=p o z; omega
 ·omega
end
end Go.Gm.AQ
namespace Go.Gm.AQ
open Go Go.Gm
section
variable {h0:Heap} {ot ob ol oz os1 os2 n:Nat} {g:AV} {f1 f2:FuncId} {st en:Nat->Prop} {L1 L2:Int->Int->List Tr}
variable {N:Nat} {es:List E} {D:List (List Int)} {acc:List Bool}
structure BI (h0 h:Heap) (ot ob ol oz os1 os2 n:Nat) (g:AV) (f1 f2:FuncId) (st en:Nat->Prop) (A1 A2:Nat->List Hop) (W1 W2:Nat->Prop) (c1 c2:Nat->Int) (m1 m2:Nat->Option Int) (ls1 ls2 L:Int):Prop where
 ex:Ext h0 h
 sa:SB W1 h os1 g f1 n A1 st c1 m1 ls1
 sb:SB W2 h os2 g f2 n A2 en c2 m2 ls2
 ka:LsOk n m1 ls1
 kb:LsOk n m2 ls2
 rr:RowsB h ot ob ol oz os1 os2 L
 sn:Snd A1 st en L
 mt:Met n A1 st en c1 c2 L
 pa:Pl h0 h ot ob ol oz W1
 pb:Pl h0 h ot ob ol oz W2
 dj:∀o,W1 o->¬W2 o
end
end Go.Gm.AQ
namespace Go.Gm.AQ
open Go Go.Gm
theorem a3l {c:Nat->Int}{acc:List Bool}{b:Nat}:∀n,(bv c acc b n = -1/\∀q:Nat,q<n->gi acc (q:Int)=true->c (b+q)<0)\/
  (∃q:Nat,q<n/\gi acc (q:Int)=true/\0<=c (b+q)/\bv c acc b n=c (b+q)/\∀q':Nat,q'<n->gi acc (q':Int)=true->0<=c (b+q')->bv c acc b n<=c (b+q'))
 |0=>.inl ⟨rfl,fun q h=>by omega⟩
 |n+1=>by
  by_cases t:gi acc n=true/\0<=c (b+n)/\(bv c acc b n<0\/c (b+n)<bv c acc b n)
  ·have e:bv c acc b (n+1)=c (b+n):=if_pos t
   refine .inr ⟨n,by omega,t.1,t.2.1,e,fun q hq h1 h2=>?_⟩
   rw[e]
   by_cases hn:q=n
   ·subst hn; omega
   ·rcases a3l (c:=c) (acc:=acc) (b:=b) n with ⟨k1,k2⟩|⟨q',k1,k2,k3,k4,k5⟩
    ·have:=k2 q (by omega) h1
     omega
    ·have:=k5 q (by omega) h1 h2
     omega
  ·have e:bv c acc b (n+1)=bv c acc b n:=if_neg t
   rcases a3l (c:=c) (acc:=acc) (b:=b) n with ⟨k1,k2⟩|⟨q',k1,k2,k3,k4,k5⟩
   ·refine .inl ⟨by rw[e]; exact k1,fun q hq h1=>?_⟩
    by_cases hn:q=n
    ·subst hn
     exact Classical.byContradiction fun z=>t ⟨h1,by omega,.inl (by omega)⟩
    ·exact k2 q (by omega) h1
   ·refine .inr ⟨q',by omega,k2,k3,by rw[e]; exact k4,fun q hq h1 h2=>?_⟩
    rw[e]
    by_cases hn:q=n
    ·subst hn
     exact Classical.byContradiction fun z=>t ⟨h1,h2,.inr (by omega)⟩
    ·exact k5 q (by omega) h1 h2
section
variable {h0:Heap} {N:Nat} {es:List E} {D:List (List Int)} {acc:List Bool}
end
end Go.Gm.AQ
namespace Go.Gm.AQ
open Go Go.Gm
def atV (es:List E)(v:Int)(l:List Nat):Int:=l.foldl (fun _ e=>(eg es e).to) v
def atS (es:List E)(D:List (List Int))(s:Int)(l:List Nat):Int:=l.foldl (fun s e=>nx D s (eg es e).md) s
def atC (es:List E)(l:List Nat):Int:=l.foldl (fun c e=>c+(eg es e).co) 0
def wdOf (es:List E)(l:List Nat):List Int:=l.map fun e=>(eg es e).md
def goS (D:List (List Int))(s:Int)(w:List Int):Int:=w.foldl (fun s m=>nx D s m) s
def OkW (es:List E)(v:Int)(l:List Nat):Prop:=∀i e,l[i]?=some e->e<es.length/\(eg es e).fr=atV es v (l.take i)
theorem a3m (es:List E)(v:Int)(l:List Nat)(e:Nat):atV es v (l++[e])=(eg es e).to:=by simp[atV]
theorem a6K (es:List E)(D:List (List Int))(s:Int)(l:List Nat)(e:Nat):atS es D s (l++[e])=nx D (atS es D s l) (eg es e).md:=by simp[atS]
theorem a4O (es:List E)(l:List Nat)(e:Nat):atC es (l++[e])=atC es l+(eg es e).co:=by simp[atC]
theorem a1Q (es:List E)(D:List (List Int))(s:Int)(l:List Nat):atS es D s l=goS D s (wdOf es l):=by
 simp only[atS,goS,wdOf,List.foldl_map]
theorem OkW.snoc {es:List E}{v:Int}{l:List Nat}{e:Nat}(h:OkW es v l)(he:e<es.length)(hf:(eg es e).fr=atV es v l):OkW es v (l++[e]):=by
 intro i e' h1
 have hi:=(List.getElem?_eq_some_iff.1 h1).1
 simp only[List.length_append,List.length_cons,List.length_nil] at hi
 by_cases q:i<l.length
 ·rw[List.getElem?_append_left q] at h1
  rw[List.take_append_of_le_length (by omega)]
  exact h i e' h1
 ·obtain rfl:i=l.length:=by omega
  rw[List.getElem?_append_right (Nat.le_refl _)] at h1
  simp only[Nat.sub_self,List.getElem?_cons_zero,Option.some.injEq] at h1
  subst h1
  rw[List.take_left]
  exact ⟨he,hf⟩
theorem a4c {es:List E}(co:COk es):∀(l:List Nat),(∀e∈l,e<es.length)->∀c:Int,c<=l.foldl (fun c e=>c+(eg es e).co) c/\l.foldl (fun c e=>c+(eg es e).co) c<=c+l.length*2147483647
 |[],_,c=>by simp
 |e::l,h,c=>by
  have he:=h e (by simp)
  have h1:0<=(eg es e).co/\(eg es e).co<=2147483647:=co.c _ (a4_ (xs:=es) (i:=(e:Int)) (by omega) (by omega))
  have h2:=a4c co l (fun x hx=>h x (List.mem_cons_of_mem _ hx)) (c+(eg es e).co)
  simp only[List.foldl_cons,List.length_cons]
  refine ⟨by omega,?_⟩
  have:((l.length+1:Nat):Int)*2147483647=l.length*2147483647+2147483647:=by omega
  rw[this]
  have:(eg es e).co<=2147483647:=h1.2
  omega
theorem OkW.mem {es:List E}{v:Int}{l:List Nat}(h:OkW es v l):∀e∈l,e<es.length:=by
 intro e he
 obtain ⟨i,hi,h1⟩:=List.getElem_of_mem he
 exact (h i e (by rw[List.getElem?_eq_getElem hi,h1])).1
section
variable {N:Nat} {es:List E} {D:List (List Int)} {acc:List Bool}
theorem a9F (ok:DOk D acc)(no:NetOk N es){x y e:Nat}{w:Int}(hx:x<N*D.length)(h:(y,e,w)∈hopA es D.length (onL es D) x) :
  e<es.length/\(eg es e).fr=((x / D.length:Nat):Int)/\y / D.length=(eg es e).to.toNat/\y % D.length=(nx D ((x % D.length:Nat):Int) (eg es e).md).toNat/\w=(eg es e).co/\y<N*D.length:=by
 obtain ⟨q1,q2⟩:=dm hx
 obtain ⟨t,ht,h1⟩:=List.mem_map.1 h
 obtain ⟨k,hk,rfl⟩:=List.mem_map.1 ht
 obtain ⟨k0,k1,k2⟩:=x0_.1 hk
 obtain ⟨i,rfl⟩:∃i:Nat,k=i:=⟨k.toNat,by omega⟩
 simp only[beq_iff_eq] at k2
 have he:0<=(eg es i).fr/\(eg es i).fr<N/\0<=(eg es i).to/\(eg es i).to<N/\0<=(eg es i).md/\(eg es i).md<5:=no.edge _ (a4_ (xs:=es) (i:=(i:Int)) (by omega) (by omega))
 have htt:0<=nx D ((x % D.length:Nat):Int) (eg es i).md/\nx D ((x % D.length:Nat):Int) (eg es i).md<D.length:=ok.to _ (eg es i).md (Int.natCast_nonneg _) (Int.ofNat_lt.2 q2) he.2.2.2.2.1 he.2.2.2.2.2
 simp only[hopOf] at h1
 cases h1
 rw[Int.toNat_natCast]
 have h1:(eg es i).to=((eg es i).to.toNat:Int):=by omega
 have h2:nx D ((x % D.length:Nat):Int) (eg es i).md=((nx D ((x % D.length:Nat):Int) (eg es i).md).toNat:Int):=by omega
 have hy:((eg es i).to*(D.length:Int)+nx D ((x % D.length:Nat):Int) (eg es i).md).toNat=(eg es i).to.toNat*D.length+(nx D ((x % D.length:Nat):Int) (eg es i).md).toNat:=by
  generalize (eg es i).to.toNat=a at h1
  generalize (nx D ((x % D.length:Nat):Int) (eg es i).md).toNat=b at h2
  rw[h1,h2,<-Int.natCast_mul,<-Int.natCast_add,Int.toNat_natCast]
 rw[show gi es (i:Int)=eg es i from rfl,hy]
 obtain ⟨p1,p2⟩:=a4b (v:=(eg es i).to.toNat) (S:=D.length) (s:=(nx D ((x % D.length:Nat):Int) (eg es i).md).toNat) (by omega)
 exact ⟨by omega,k2,p1,p2,rfl,spotN (by omega) (by omega)⟩
theorem a7F (ok:DOk D acc)(no:NetOk N es){v x:Nat}{l:List Nat}{c:Int}(hv:v<N)(h:Wk (hopA es D.length (onL es D)) (fun x=>x=v*D.length) x l c) :
  OkW es v l/\atV es v l=((x / D.length:Nat):Int)/\atS es D 0 l=((x % D.length:Nat):Int)/\atC es l=c/\x<N*D.length:=by
 induction h with
 |nil h=>
  subst h
  obtain ⟨p1,p2⟩:=a4b (v:=v) (S:=D.length) (s:=0) ok.l0
  simp only[Nat.add_zero] at p1 p2
  rw[p1,p2]
  exact ⟨fun i e z=>by simp at z,rfl,rfl,rfl,by have:=spotN (S:=D.length) hv ok.l0; omega⟩
 |@snoc x y e l c w h1 h2 ih=>
  obtain ⟨i1,i2,i3,i4,i5⟩:=ih
  obtain ⟨k1,k2,k3,k4,k5,k6⟩:=a9F ok no i5 h2
  obtain ⟨q1,q2⟩:=dm i5
  have he:0<=(eg es e).fr/\(eg es e).fr<N/\0<=(eg es e).to/\(eg es e).to<N/\0<=(eg es e).md/\(eg es e).md<5:=no.edge _ (a4_ (xs:=es) (i:=(e:Int)) (by omega) (by omega))
  have htt:0<=nx D ((x % D.length:Nat):Int) (eg es e).md/\nx D ((x % D.length:Nat):Int) (eg es e).md<D.length:=ok.to _ (eg es e).md (Int.natCast_nonneg _) (Int.ofNat_lt.2 q2) he.2.2.2.2.1 he.2.2.2.2.2
  refine ⟨i1.snoc k1 (k2.trans i2.symm),?_,?_,?_,k6⟩
  ·rw[a3m,k3]; omega
  ·rw[a6K,i3,k4]; omega
  ·rw[a4O,i4,k5]
theorem x1_ {α:Type}{l:List α}{i:Nat}{e:α}(h:l[i]?=some e):l.take (i+1)=l.take i++[e]:=by
 rw[List.take_add_one,h]; rfl
theorem b0r {hb:Heap}{sE sl:AV}{v u on:Nat}{l:List Nat}{Q:AV->Heap->Prop}(no:NetOk N es)(co:COk es)(hE:Sl hb 4 sE (es.map encE))(hl:Sl hb 1 sl ((l.map fun (e:Nat)=>(e:Int)).map encI))(hll:l.length<=1000000)(ow:OkW es v l)(hu:atV es v l=u)(rn:hb[on]?=some (.cells ⟨[I N,sE],0,0,false⟩))(hQ:∀h w,Ext hb h->Gr hb.length h.length h 1 w ((wdOf es l).map encI)->Q (.tup [I (atC es l),w,.bool true]) h) :
  ∀(d i:Nat) (h:Heap) (w:AV),i+d=l.length->Ext hb h->Gr hb.length h.length h 1 w ((wdOf es (l.take i)).map encI)->
   WP (fun p:Nat × Nat=>h2_ p.1 p.2 (I (atV es v (l.take i))) (I u) sl (.ptr on 0 2 0) (I (atC es (l.take i))) w (I i) h) Q:=by
 intro d
 induction d with
 |zero=>
  intro i h w h1 e g1
  refine WP.rnd (fun i' j=>w8_ i' j (I (atV es v (l.take i))) (I u) sl (.ptr on 0 2 0) (I (atC es (l.take i))) w (I i) h) ?_
  rw[List.take_of_length_le (show l.length<=i by omega)] at g1 ⊢
  rw[hu]
  have hlg:=(hl.ext e).lenG
  rw[List.length_map] at hlg
  simp -implicitDefEqProofs (disch:=first|assumption|omega|(simp only[gL,gA]<;>omega)|fail) only[gC,reduceIte,hlg]
  refine WP.lv (WP.congr (fun k:Nat=>a1L k (I u) (I u) (I (atC es l)) w h) ?_) fun i j=>rfl
  simp -implicitDefEqProofs (disch:=first|assumption|omega|(simp only[gL,gA]<;>omega)|fail) only[gC,reduceIte]
  exact WP.ret (hQ h w e g1)
 |succ d ih=>
  intro i h w h1 e g1
  refine WP.rnd (fun i' j=>w8_ i' j (I (atV es v (l.take i))) (I u) sl (.ptr on 0 2 0) (I (atC es (l.take i))) w (I i) h) ?_
  have hil:i<l.length:=by omega
  obtain ⟨ed,hed⟩:∃ed,l[i]?=some ed:=⟨l[i],List.getElem?_eq_getElem hil⟩
  obtain ⟨o1,o2⟩:=ow i ed hed
  have hg:gi (l.map fun (e:Nat)=>(e:Int)) (i:Int)=(ed:Int):=by
   rw[h8_ (by simpa using hil)]
   rw[List.getElem?_eq_getElem hil] at hed
   injection hed with hed
   simp[hed]
  have hlx:=hl.ext e
  have hlg:=hlx.lenG
  rw[List.length_map] at hlg
  have hE1:=hE.ext e
  have rn1:=e.get rn
  obtain ⟨x,hx⟩:∃x,eg es ed=x:=⟨_,rfl⟩
  have hxx:gi es (ed:Int)=x:=hx
  have he:=no.edge _ (a4_ (xs:=es) (i:=(ed:Int)) (by omega) (by omega))
  have hc:=co.c _ (a4_ (xs:=es) (i:=(ed:Int)) (by omega) (by omega))
  rw[hxx] at he hc
  rw[hx] at o2
  have b1:=a4c co (l.take i) (fun z hz=>ow.mem z (List.mem_of_mem_take hz)) 0
  have b2:(l.take i).length<=1000000:=by rw[List.length_take]; omega
  obtain ⟨c,hcc⟩:∃c,atC es (l.take i)=c:=⟨_,rfl⟩
  have b3:0<=c/\c<=(l.take i).length*2147483647:=by rw[<-hcc]; exact ⟨b1.1,by have:=b1.2; simpa [atC] using this⟩
  have hlh:=e.len
  obtain ⟨h2,hh2⟩:∃h2,h2=((h++[AObj.cells ⟨[I 0,I 0,I 0,I 0],0,0,false⟩]).set h.length (.cells ⟨[I x.fr,I x.to,I x.md,I x.co],0,0,false⟩)):=⟨_,rfl⟩
  have e2:Ext h h2:=by rw[hh2]; ((repeat (first|exact Ext.refl _|assumption|apply Ext.app|apply Ext.mk|(refine Ext.setr ?_ (by (first|omega|(simp only[gL]<;>omega))) _))))
  have r2:h2[h.length]?=some (.cells ⟨[I x.fr,I x.to,I x.md,I x.co],0,0,false⟩):=by rw[hh2]; exact a0_ (by simp)
  have hl2:h2.length=h.length+1:=by rw[hh2]; simp
  obtain ⟨s',h',q1,q2,q3⟩:=Gr.append1 (bytes:=8) (g1.ext e2) (v:=[I x.md]) rfl (by omega) (by omega) (by simp[wdOf]; omega) (by omega) (by omega)
  rw[a1_,hl2] at q1
  have hml:(l.map fun (e:Nat)=>(e:Int)).length=l.length:=List.length_map ..
  rw[<-o2,hcc]
  simp -implicitDefEqProofs (disch:=first|assumption|omega|exact Ext.refl _|(simp only[gL,gA]<;>omega)|fail) only[gC,reduceIte,hlg,hlx.idxG,hlx.ld0,hml,hg,encI,rn1,hE1.lenG,hE1.idxG,hE1.ldf,hE1.ld0,hE1.ldN,hxx,encE]
  rw[show AV.int .i64 0=I 0 from rfl,<-hh2]
  simp -implicitDefEqProofs (disch:=first|assumption|omega|(simp only[gL,gA]<;>omega)|fail) only[gC,reduceIte,q1]
  have hv':x.to=atV es v (l.take (i+1)):=by rw[x1_ hed,a3m,hx]
  have hc':c+x.co=atC es (l.take (i+1)):=by rw[x1_ hed,a4O,hx,hcc]
  rw[hv',hc']
  refine ih (i+1) h' s' (by omega) (q3.ext (e.trans e2) (by omega)) ((q2.mono (Nat.le_refl _) (Nat.le_refl _)).cong ?_)
  rw[x1_ hed]
  simp[wdOf,hx,encI]
theorem a9e {h:Heap}{sE sl:AV}{v u:Nat}{l:List Nat}(no:NetOk N es)(co:COk es)(hE:Sl h 4 sE (es.map encE))(hl:Sl h 1 sl ((l.map fun (e:Nat)=>(e:Int)).map encI))(hll:l.length<=1000000)(hv:v<N)(huN:u<N)(ow:OkW es v l)(hu:atV es v l=u) :
  Tot tab h9_ [.agg [I N,sE],I v,I u,sl] h fun r h'=>Ext h h'/\∃w,r=.tup [I (atC es l),w,.bool true]/\Sl h' 1 w ((wdOf es l).map encI):=by
 refine WP.tot (fun k=>a2J k _ _ _ _ h) ?_
 obtain ⟨h1,hh1⟩:∃h1,h1=h++[AObj.cells ⟨[I N,sE],0,0,false⟩]:=⟨_,rfl⟩
 have e1:Ext h h1:=by rw[hh1]; exact Ext.push _ _
 have rn:h1[h.length]?=some (.cells ⟨[I N,sE],0,0,false⟩):=by rw[hh1]; simp
 have:=no.n1
 simp -implicitDefEqProofs (maxSteps:=1000000) (disch:=first|assumption|omega|(simp only[gL]<;>omega)|((repeat (first|exact Ext.refl _|assumption|apply Ext.app|apply Ext.mk|(refine Ext.setr ?_ (by (first|omega|(simp only[gL]<;>omega))) _))); done)|(simp only[gL,gA,hE.one,hE.cells]<;>omega)|fail) only[gB,setAll,partL,fldV,reduceIte,Nat.reduceAdd,Nat.reduceMul,hE.one,hE.cells]
 rw[<-hh1]
 refine WP.ent (c2:=fun p:Nat × Nat=>h2_ p.1 p.2 (I (atV es v (l.take 0))) (I u) sl (.ptr h.length 0 2 0) (I (atC es (l.take 0))) .nils (I (0:Nat)) h1) (b0r no co (hE.ext e1) (hl.ext e1) hll ow hu rn (fun h' w e' g'=>⟨e1.trans e',w,rfl,g'.sl⟩) l.length 0 h1 .nils (by omega) (Ext.refl _) (Gr.nil ..)) fun i=>rfl
theorem a0F (ok:DOk D acc):∀(w:List Int) (s:Int),0<=s->s<D.length->(∀m∈w,0<=m/\m<5)->0<=goS D s w/\goS D s w<D.length
 |[],s,h0,h1,_=>⟨h0,h1⟩
 |m::w,s,h0,h1,h=>by
  have hm:=h m (by simp)
  have:=ok.to s m h0 h1 hm.1 hm.2
  exact a0F ok w (nx D s m) this.1 this.2 fun z hz=>h z (List.mem_cons_of_mem _ hz)
theorem go_l1 {h:Heap}{sD sA sw:AV}{od:Nat}{w:List Int}(ok:DOk D acc)(hD:Sl h 5 sD (D.map encR))(hw:Sl h 1 sw (w.map encI))(hwl:w.length<=1000000000)(hm:∀m∈w,0<=m/\m<5)(rd:h[od]?=some (.cells ⟨[sD,sA],0,0,false⟩)) :
  ∀(d i:Nat),i+d=w.length->WP (fun p:Nat × Nat=>j7_ p.1 p.2 (I (goS D 0 (w.take i))) sw (.ptr od 0 2 0) (I i) h) fun r h'=>r=I (goS D 0 w)/\h=h':=by
 intro d
 induction d with
 |zero=>
  intro i h1
  refine WP.rnd (fun i' j=>z2_ i' j (I (goS D 0 (w.take i))) sw (.ptr od 0 2 0) (I i) h) ?_
  rw[List.take_of_length_le (show w.length<=i by omega)]
  simp -implicitDefEqProofs (disch:=first|assumption|omega|(simp only[gL,gA]<;>omega)|fail) only[gC,reduceIte,hw.lenG]
  exact WP.ret ⟨rfl,rfl⟩
 |succ d ih=>
  intro i h1
  refine WP.rnd (fun i' j=>z2_ i' j (I (goS D 0 (w.take i))) sw (.ptr od 0 2 0) (I i) h) ?_
  have hil:i<w.length:=by omega
  obtain ⟨m,hmm⟩:∃m,gi w (i:Int)=m:=⟨_,rfl⟩
  have hmr:=hm m (hmm▸a4_ (by omega) (by omega))
  have htk:w.take (i+1)=w.take i++[m]:=by
   have:=a7_ (xs:=w) (i:=(i:Int)) (by omega) (by omega)
   rw[hmm] at this
   exact x1_ (by simpa using this)
  obtain ⟨s,hs⟩:∃s,goS D 0 (w.take i)=s:=⟨_,rfl⟩
  have hsr:=a0F ok (w.take i) 0 (by omega) (by have:=ok.l0; omega) fun z hz=>hm z (List.mem_of_mem_take hz)
  rw[hs] at hsr
  obtain ⟨p,p1,p2,-⟩:=cellA (H:=h) hD (Ext.refl _) hsr.1 hsr.2 hmr.1 hmr.2
  rw[show (encR (gi D s)).getD m.toNat .undef=I (nx D s m) by
   have hr:=ok.row s hsr.1 hsr.2
   simp only[encR,nx,List.getD_eq_getElem?_getD,List.getElem?_map]
   have:=a7_ (xs:=gi D s) hmr.1 (by omega)
   rw[this]; rfl] at p2
  rw[hs]
  simp -implicitDefEqProofs (disch:=first|assumption|omega|exact Ext.refl _|(simp only[gL,gA]<;>omega)|fail) only[gC,reduceIte,hw.lenG,hw.idxG,hw.ld0,hmm,encI,rd,hD.idxG,p1,p2]
  have hs':nx D s m=goS D 0 (w.take (i+1)):=by
   rw[htk]
   simp only[goS,List.foldl_append,List.foldl_cons,List.foldl_nil]
   rw[show List.foldl (fun s m=>nx D s m) 0 (w.take i)=s from hs]
  rw[hs']
  exact ih (i+1) (by omega)
theorem a9G {h:Heap}{sD sA sw:AV}{w:List Int}(ok:DOk D acc)(hD:Sl h 5 sD (D.map encR))(hA:Sl h 1 sA (acc.map encB))(hw:Sl h 1 sw (w.map encI))(hwl:w.length<=1000000000)(hm:∀m∈w,0<=m/\m<5) :
  Tot tab t8_ [.agg [sD,sA],sw] h fun r h'=>r=.bool (gi acc (goS D 0 w))/\Ext h h':=by
 refine WP.tot (fun k=>a2X k _ _ h) ?_
 obtain ⟨h1,hh1⟩:∃h1,h1=h++[AObj.cells ⟨[sD,sA],0,0,false⟩]:=⟨_,rfl⟩
 have e1:Ext h h1:=by rw[hh1]; exact Ext.push _ _
 have rd:h1[h.length]?=some (.cells ⟨[sD,sA],0,0,false⟩):=by rw[hh1]; simp
 simp -implicitDefEqProofs (maxSteps:=1000000) (disch:=first|assumption|omega|(simp only[gL]<;>omega)|((repeat (first|exact Ext.refl _|assumption|apply Ext.app|apply Ext.mk|(refine Ext.setr ?_ (by (first|omega|(simp only[gL]<;>omega))) _))); done)|(simp only[gL,gA,hD.one,hD.cells,hA.one,hA.cells]<;>omega)|fail) only[gB,setAll,partL,fldV,reduceIte,Nat.reduceAdd,Nat.reduceMul,hD.one,hD.cells,hA.one,hA.cells]
 rw[<-hh1]
 have hgo:Tot tab p2_ [.agg [sD,sA],I 0,sw] h1 fun r h'=>r=I (goS D 0 w)/\Ext h1 h':=by
  refine WP.tot (fun k=>a3w k _ _ _ h1) ?_
  obtain ⟨h2,hh2⟩:∃h2,h2=h1++[AObj.cells ⟨[sD,sA],0,0,false⟩]:=⟨_,rfl⟩
  have e2:Ext h1 h2:=by rw[hh2]; exact Ext.push _ _
  have rd2:h2[h1.length]?=some (.cells ⟨[sD,sA],0,0,false⟩):=by rw[hh2]; simp
  have hD2:=(hD.ext e1).ext e2
  have:=ok.l0
  have:=ok.l1
  simp -implicitDefEqProofs (maxSteps:=1000000) (disch:=first|assumption|omega|(simp only[gL]<;>omega)|((repeat (first|exact Ext.refl _|assumption|apply Ext.app|apply Ext.mk|(refine Ext.setr ?_ (by (first|omega|(simp only[gL]<;>omega))) _))); done)|(simp only[gL,gA,hD.one,hD.cells,hA.one,hA.cells]<;>omega)|fail) only[gB,setAll,partL,fldV,reduceIte,Nat.reduceAdd,Nat.reduceMul,hD.one,hD.cells,hA.one,hA.cells]
  rw[<-hh2]
  simp -implicitDefEqProofs (maxSteps:=1000000) (disch:=first|assumption|omega|(simp only[gL]<;>omega)|((repeat (first|exact Ext.refl _|assumption|apply Ext.app|apply Ext.mk|(refine Ext.setr ?_ (by (first|omega|(simp only[gL]<;>omega))) _))); done)|(simp only[gL,gA,rd2,hD2.lenG]<;>omega)|fail) only[gB,setAll,partL,fldV,reduceIte,Nat.reduceAdd,Nat.reduceMul,rd2,hD2.lenG]
  refine WP.ent (c2:=fun p:Nat × Nat=>j7_ p.1 p.2 (I (goS D 0 (w.take 0))) sw (.ptr h1.length 0 2 0) (I (0:Nat)) h2) ((go_l1 ok hD2 ((hw.ext e1).ext e2) hwl hm rd2 w.length 0 (by omega)).mono ?_) fun i=>rfl
  rintro r h' ⟨rfl,rfl⟩
  exact ⟨rfl,e2⟩
 refine WP.call hgo ?_
 rintro _ h2 ⟨rfl,e2⟩
 obtain ⟨g1,g2⟩:=a0F ok w 0 (by omega) (by have:=ok.l0; omega) hm
 generalize goS D 0 w=s at g1 g2 ⊢
 have hA2:=(hA.ext e1).ext e2
 have rd2:=e2.get rd
 have la:=ok.la
 simp -implicitDefEqProofs (maxSteps:=1000000) (disch:=first|assumption|omega|(simp only[gL]<;>omega)|((repeat (first|exact Ext.refl _|assumption|apply Ext.app|apply Ext.mk|(refine Ext.setr ?_ (by (first|omega|(simp only[gL]<;>omega))) _))); done)|(simp only[gL,gA,rd2,hA2.idxG,hA2.ld0,encB]<;>omega)|fail) only[gB,setAll,partL,fldV,reduceIte,Nat.reduceAdd,Nat.reduceMul,rd2,hA2.idxG,hA2.ld0,encB]
 exact WP.ret ⟨rfl,e1.trans e2⟩
theorem a8c {h:Heap}{sE sD sA sl:AV}{v u:Nat}{l:List Nat}{cost:Int}(no:NetOk N es)(co:COk es)(ok:DOk D acc)(hE:Sl h 4 sE (es.map encE))(hD:Sl h 5 sD (D.map encR))(hA:Sl h 1 sA (acc.map encB))(hl:Sl h 1 sl ((l.map fun (e:Nat)=>(e:Int)).map encI))(hll:l.length<=1000000)(hv:v<N)(huN:u<N)(ow:OkW es v l)(hu:atV es v l=u)(hc:atC es l=cost)(hacc:gi acc (atS es D 0 l)=true) :
  Tot tab r3_ [.agg [I N,sE],.agg [sD,sA],I v,I u,.agg [I cost,sl],I cost] h fun r h'=>r=.bool true/\Ext h h':=by
 refine WP.tot (fun k=>a2t k _ _ _ _ _ _ h) ?_
 obtain ⟨h1,hh1⟩:∃h1,h1=((h++[AObj.cells ⟨[I N,sE],0,0,false⟩])++[AObj.cells ⟨[sD,sA],0,0,false⟩])++[AObj.cells ⟨[I cost,sl],0,0,false⟩]:=⟨_,rfl⟩
 have e1:Ext h h1:=by rw[hh1]; ((repeat (first|exact Ext.refl _|assumption|apply Ext.app|apply Ext.mk|(refine Ext.setr ?_ (by (first|omega|(simp only[gL]<;>omega))) _))))
 have rd:h1[h.length+1]?=some (.cells ⟨[sD,sA],0,0,false⟩):=by rw[hh1]; simp
 have rr:h1[h.length+1+1]?=some (.cells ⟨[I cost,sl],0,0,false⟩):=by rw[hh1,m6_ (by simp)]; simp
 simp -implicitDefEqProofs (maxSteps:=1000000) (disch:=first|assumption|omega|(simp only[gL]<;>omega)|((repeat (first|exact Ext.refl _|assumption|apply Ext.app|apply Ext.mk|(refine Ext.setr ?_ (by (first|omega|(simp only[gL]<;>omega))) _))); done)|(simp only[gL,gA,hE.one,hE.cells,hD.one,hD.cells,hA.one,hA.cells,hl.one,hl.cells]<;>omega)|fail) only[gB,setAll,partL,fldV,reduceIte,Nat.reduceAdd,Nat.reduceMul,hE.one,hE.cells,hD.one,hD.cells,hA.one,hA.cells,hl.one,hl.cells]
 rw[<-hh1]
 refine WP.call (a9e no co (hE.ext e1) (hl.ext e1) hll hv huN ow hu) ?_
 rintro _ h2 ⟨e2,w,rfl,gw⟩
 rw[hc]
 have rd2:=e2.get rd
 have rr2:=e2.get rr
 have x2:extr 2 (.tup [I cost,w,.bool true])=some (.bool true):=rfl
 simp -implicitDefEqProofs (maxSteps:=1000000) (disch:=first|assumption|omega|(simp only[gL]<;>omega)|((repeat (first|exact Ext.refl _|assumption|apply Ext.app|apply Ext.mk|(refine Ext.setr ?_ (by (first|omega|(simp only[gL]<;>omega))) _))); done)|(simp only[gL,gA,b5_,b6_,x2,rd2,rr2]<;>omega)|fail) only[gB,setAll,partL,fldV,reduceIte,Nat.reduceAdd,Nat.reduceMul,b5_,b6_,x2,rd2,rr2]
 refine WP.call (a9G ok ((hD.ext e1).ext e2) ((hA.ext e1).ext e2) gw (by simp[wdOf]; omega) fun m hm=>?_) ?_
 ·obtain ⟨e,he,rfl⟩:=List.mem_map.1 hm
  have h3:=ow.mem e he
  have:=no.edge _ (a4_ (xs:=es) (i:=(e:Int)) (by omega) (by omega))
  exact ⟨this.2.2.2.2.1,this.2.2.2.2.2⟩
 ·rintro _ h3 ⟨rfl,e3⟩
  rw[<-a1Q,hacc]
  exact WP.ret ⟨rfl,(e1.trans e2).trans e3⟩
end
end Go.Gm.AQ
namespace Go.Gm.AQ
open Go Go.Gm
structure LW (es:List E) (v u:Int) (P:List Int->Prop) (b:Int):Prop where
 ex:b = -1\/(0<=b/\∃l,OkW es v l/\atV es v l=u/\P (wdOf es l)/\atC es l=b)
 le:∀l,OkW es v l->atV es v l=u->P (wdOf es l)->0<=b/\b<=atC es l
theorem LW.uniq {es:List E}{v u:Int}{P:List Int->Prop}{a b:Int}(x:LW es v u P a)(y:LW es v u P b):a=b:=by
 rcases x.ex with rfl|⟨x0,l,x1,x2,x3,x4⟩
 ·rcases y.ex with rfl|⟨y0,l',y1,y2,y3,y4⟩
  ·rfl
  ·have:=x.le l' y1 y2 y3
   omega
 ·have h1:=y.le l x1 x2 x3
  rcases y.ex with rfl|⟨y0,l',y1,y2,y3,y4⟩
  ·omega
  ·have:=x.le l' y1 y2 y3
   omega
theorem LW.congr {es:List E}{v u:Int}{P Q:List Int->Prop}{b:Int}(x:LW es v u P b)(h:∀l,OkW es v l->(P (wdOf es l)↔Q (wdOf es l))):LW es v u Q b:=by
 refine ⟨x.ex.imp id fun ⟨x0,l,x1,x2,x3,x4⟩=>⟨x0,l,x1,x2,(h l x1).1 x3,x4⟩,fun l h1 h2 h3=>x.le l h1 h2 ((h l h1).2 h3)⟩
section
variable {N:Nat} {es:List E} {D:List (List Int)} {acc:List Bool}
theorem OkW.md (no:NetOk N es){v:Int}{l:List Nat}(h:OkW es v l):∀m∈wdOf es l,0<=m/\m<5:=by
 intro m hm
 obtain ⟨e,he,rfl⟩:=List.mem_map.1 hm
 have h3:=h.mem e he
 have:=no.edge _ (a4_ (xs:=es) (i:=(e:Int)) (by omega) (by omega))
 exact ⟨this.2.2.2.2.1,this.2.2.2.2.2⟩
theorem OkW.take {v:Int}{l:List Nat}(h:OkW es v l)(k:Nat):OkW es v (l.take k):=by
 intro i e h1
 have hi:=(List.getElem?_eq_some_iff.1 h1).1
 rw[List.length_take] at hi
 rw[List.getElem?_take,if_pos (by omega)] at h1
 rw[List.take_take,Nat.min_eq_left (by omega)]
 exact h i e h1
theorem OkW.range (no:NetOk N es){v:Nat}(hv:v<N){l:List Nat}(h:OkW es v l):0<=atV es v l/\atV es v l<N:=by
 rcases List.eq_nil_or_concat l with rfl|⟨l',e,rfl⟩
 ·exact ⟨by show (0:Int)<=v; omega,by show (v:Int)<N; omega⟩
 ·rw[List.concat_eq_append] at h ⊢
  rw[a3m]
  have he:=h.mem e (by simp)
  have:=no.edge _ (a4_ (xs:=es) (i:=(e:Int)) (by omega) (by omega))
  exact ⟨this.2.2.1,this.2.2.2.1⟩
theorem a9f (ok:DOk D acc)(no:NetOk N es){v:Nat}(hv:v<N){l:List Nat}(h:OkW es v l):∀k,k<=l.length->
  Wk (hopA es D.length (onL es D)) (fun x=>x=v*D.length) ((atV es v (l.take k)).toNat*D.length+(atS es D 0 (l.take k)).toNat) (l.take k) (atC es (l.take k))
 |0,_=>by
  simp only[List.take_zero]
  refine .nil ?_
  show (v:Int).toNat*D.length+(0:Int).toNat=v*D.length
  simp
 |k+1,hk=>by
  have ih:=a9f ok no hv h k (by omega)
  obtain ⟨e,he⟩:∃e,l[k]?=some e:=⟨l[k],List.getElem?_eq_getElem (by omega)⟩
  obtain ⟨h1,h2⟩:=h k e he
  have hr:=(h.take k).range no hv
  have hs:=a0F ok (wdOf es (l.take k)) 0 (by omega) (by have:=ok.l0; omega) ((h.take k).md no)
  rw[<-a1Q] at hs
  rw[x1_ he,a3m,a6K,a4O]
  have hm:=a7C (s:=(atS es D 0 (l.take k)).toNat) ok no h1 (by omega)
  have e1:src es D.length e (atS es D 0 (l.take k)).toNat=(atV es v (l.take k)).toNat*D.length+(atS es D 0 (l.take k)).toNat:=by rw[src,h2]
  have e2:dst es D e (atS es D 0 (l.take k)).toNat=(eg es e).to.toNat*D.length+(nx D (atS es D 0 (l.take k)) (eg es e).md).toNat:=by
   rw[dst,show (((atS es D 0 (l.take k)).toNat:Nat):Int)=atS es D 0 (l.take k) by omega]
  rw[e1,e2] at hm
  exact .snoc ih hm
theorem bv_lw (ok:DOk D acc)(no:NetOk N es){v u:Nat}(hv:v<N)(hu:u<N){c:Nat->Int}(lc:LC (N*D.length) (hopA es D.length (onL es D)) (fun x=>x=v*D.length) c) :
  LW es v u (fun w=>gi acc (goS D 0 w)=true) (bv c acc (u*D.length) D.length):=by
 have main:∀l,OkW es v l->atV es v l=u->gi acc (goS D 0 (wdOf es l))=true->0<=bv c acc (u*D.length) D.length/\bv c acc (u*D.length) D.length<=atC es l:=by
  intro l h1 h2 h3
  have hw:=a9f ok no hv h1 l.length (Nat.le_refl _)
  rw[List.take_length,h2,a1Q,Int.toNat_natCast] at hw
  have hs:=a0F ok (wdOf es l) 0 (by omega) (by have:=ok.l0; omega) (h1.md no)
  have hx:=spotN (N:=N) (v:=u) (S:=D.length) (s:=(goS D 0 (wdOf es l)).toNat) hu (by omega)
  have h4:0<=c (u*D.length+(goS D 0 (wdOf es l)).toNat)/\c (u*D.length+(goS D 0 (wdOf es l)).toNat)<=atC es l:=by
   rcases lc _ hx with ⟨k1,_,k2⟩|⟨_,k2⟩
   ·exact ⟨k1,k2 _ _ hw⟩
   ·exact absurd hw (k2 _ _)
  have h5:gi acc (((goS D 0 (wdOf es l)).toNat:Nat):Int)=true:=by rw[show (((goS D 0 (wdOf es l)).toNat:Nat):Int)=goS D 0 (wdOf es l) by omega]; exact h3
  rcases a3l (c:=c) (acc:=acc) (b:=u*D.length) D.length with ⟨k1,k2⟩|⟨q,k1,k2,k3,k4,k5⟩
  ·have:=k2 _ (by omega) h5
   omega
  ·have:=k5 _ (by omega) h5 h4.1
   omega
 refine ⟨?_,main⟩
 rcases a3l (c:=c) (acc:=acc) (b:=u*D.length) D.length with ⟨k1,k2⟩|⟨q,k1,k2,k3,k4,k5⟩
 ·exact .inl k1
 ·rcases lc _ (spotN hu k1) with ⟨p1,⟨l,p2⟩,p3⟩|⟨p1,_⟩
  ·obtain ⟨w1,w2,w3,w4,w5⟩:=a7F ok no hv p2
   obtain ⟨d1,d2⟩:=a4b (v:=u) (S:=D.length) (s:=q) k1
   rw[d1] at w2
   rw[d2,a1Q] at w3
   exact .inr ⟨by omega,l,w1,w2,by rw[w3]; exact k2,by rw[w4,k4]⟩
  ·omega
end
end Go.Gm.AQ
namespace Go.Gm
section
variable {δ:Nat->Nat->Nat} {S:Nat} {c x:Nat->Int} {acc:Nat->Bool}
def Alk (δ:Nat->Nat->Nat)(c:Nat->Int)(a b:Nat):Prop:=c a=c b/\∀m,m<5->c (δ a m)=c (δ b m)
theorem Alk.refl (a:Nat):Alk δ c a a:=⟨rfl,fun _ _=>rfl⟩
theorem Alk.symm {a b:Nat}(h:Alk δ c a b):Alk δ c b a:=⟨h.1.symm,fun m hm=>(h.2 m hm).symm⟩
theorem Alk.trans {a b d:Nat}(h:Alk δ c a b)(k:Alk δ c b d):Alk δ c a d:=⟨h.1.trans k.1,fun m hm=>(h.2 m hm).trans (k.2 m hm)⟩
def Neu (c:Nat->Int)(i:Nat):Prop:=∀j,j<i->c j≠c i
noncomputable def cntP (p:Nat->Prop):Nat->Nat
 |0=>0
 |n+1=>cntP p n+(open Classical in if p n then 1 else 0)
theorem a1R {p:Nat->Prop}{n:Nat}(h:p n):cntP p (n+1)=cntP p n+1:=by simp[cntP,h]
theorem a1S {p:Nat->Prop}{n:Nat}(h:¬p n):cntP p (n+1)=cntP p n:=by simp[cntP,h]
theorem a0S {p q:Nat->Prop}:∀n,(∀i,i<n->p i->q i)->cntP p n<=cntP q n
 |0,_=>Nat.le_refl _
 |n+1,h=>by
  have:=a0S n fun i hi=>h i (by omega)
  by_cases hp:p n
  ·rw[a1R hp,a1R (h n (by omega) hp)]; omega
  ·by_cases hq:q n
   ·rw[a1S hp,a1R hq]; omega
   ·rw[a1S hp,a1S hq]; omega
theorem a5B {p q:Nat->Prop}:∀n,(∀i,i<n->p i->q i)->cntP p n=cntP q n->∀i,i<n->q i->p i
 |0,_,_=>fun i hi=>by omega
 |n+1,h,e=>by
  have h1:=a0S n fun i hi=>h i (by omega)
  intro i hi hqi
  by_cases hp:p n
  ·rw[a1R hp,a1R (h n (by omega) hp)] at e
   by_cases q:i=n
   ·subst q; exact hp
   ·exact a5B n (fun i hi=>h i (by omega)) (by omega) i (by omega) hqi
  ·by_cases hq:q n
   ·rw[a1S hp,a1R hq] at e; omega
   ·rw[a1S hp,a1S hq] at e
    by_cases q':i=n
    ·subst q'; exact absurd hqi hq
    ·exact a5B n (fun i hi=>h i (by omega)) e i (by omega) hqi
theorem a5m {p q:Nat->Prop}(n:Nat)(h:∀i,i<n->(p i↔q i)):cntP p n=cntP q n:=
 Nat.le_antisymm (a0S n fun i hi=>(h i hi).1) (a0S n fun i hi=>(h i hi).2)
structure Finer (δ:Nat->Nat->Nat) (S:Nat) (c x:Nat->Int) (k:Nat):Prop where
 al:∀a b,a<S->b<S->(x a=x b↔Alk δ c a b)
 rng:∀a,a<S->0<=x a/\x a<k
 cnt:k=cntP (Neu x) S
theorem Finer.neu {k:Nat}(f:Finer δ S c x k):∀i,i<S->Neu c i->Neu x i:=fun i hi h j hj e=>h j hj ((f.al j i (by omega) hi).1 e).1
theorem Finer.le {k:Nat}(f:Finer δ S c x k):cntP (Neu c) S<=k:=by rw[f.cnt]; exact a0S S f.neu
theorem Finer.pos {k:Nat}(f:Finer δ S c x k)(hS:0<S):0<k:=by have:=f.rng 0 hS; omega
theorem rep (x:Nat->Int):∀a,∃j,j<=a/\x j=x a/\Neu x j:=by
 intro a
 induction a using Nat.strongRecOn with
 |ind a ih=>
  by_cases h:Neu x a
  ·exact ⟨a,Nat.le_refl _,rfl,h⟩
  ·obtain ⟨j,h1⟩:=Classical.not_forall.1 h
   obtain ⟨hj,h2⟩:=Classical.not_imp.1 h1
   obtain ⟨r,r1,r2,r3⟩:=ih j hj
   exact ⟨r,by omega,r2.trans (Classical.not_not.1 h2),r3⟩
theorem Finer.same {k:Nat}(f:Finer δ S c x k)(hk:k=cntP (Neu c) S){a b:Nat}(ha:a<S)(hb:b<S)(h:c a=c b):x a=x b:=by
 have hn:=a5B S f.neu (hk.symm.trans f.cnt)
 obtain ⟨i,i1,i2,i3⟩:=rep x a
 obtain ⟨j,j1,j2,j3⟩:=rep x b
 have n1:=hn i (by omega) i3
 have n2:=hn j (by omega) j3
 have e1:=((f.al i a (by omega) ha).1 i2).1
 have e2:=((f.al j b (by omega) hb).1 j2).1
 have e3:c i=c j:=e1.trans (h.trans e2.symm)
 have:i=j:=by
  rcases Nat.lt_trichotomy i j with q|q|q
  ·exact absurd e3 (n2 i q)
  ·exact q
  ·exact absurd e3.symm (n1 j q)
 subst this
 exact i2.symm.trans j2
structure Stab (δ:Nat->Nat->Nat) (acc:Nat->Bool) (S:Nat) (x:Nat->Int):Prop where
 ac:∀a b,a<S->b<S->x a=x b->acc a=acc b
 to:∀a b,a<S->b<S->x a=x b->∀m,m<5->x (δ a m)=x (δ b m)
 rng:∀a,a<S->0<=x a/\x a<S
structure FI (δ:Nat->Nat->Nat) (c:Nat->Int) (F:Nat->Nat) (n:Nat) (x:Nat->Int) (i:Nat):Prop where
 le:∀r,r<n->F r<i/\x (F r)=r
 cl:∀j,j<i->0<=x j/\x j<n/\Alk δ c (F (x j).toNat) j
 ds:∀r s,r<n->s<n->Alk δ c (F r) (F s)->r=s
 ct:n=cntP (Neu x) i
theorem FI.zero (F:Nat->Nat)(x:Nat->Int):FI δ c F 0 x 0:=⟨fun r h=>by omega,fun j h=>by omega,fun r s h=>by omega,rfl⟩
theorem FI.old {F:Nat->Nat}{n i:Nat}(f:FI δ c F n x i){k:Nat}(hk:k<n)(h:Alk δ c (F k) i):FI δ c F n (fun j=>if j=i then (k:Int) else x j) (i+1):=by
 have hne:∀j,j<i->¬j=i:=fun j h=>by omega
 refine ⟨fun r hr=>?_,fun j hj=>?_,f.ds,?_⟩
 ·obtain ⟨h1,h2⟩:=f.le r hr
  exact ⟨by omega,by rw[if_neg (hne _ h1)]; exact h2⟩
 ·by_cases q:j=i
  ·subst q
   simp only[if_true,Int.toNat_natCast]
   exact ⟨by omega,by omega,h⟩
  ·simp only[if_neg q]
   exact f.cl j (by omega)
 ·have hc:cntP (Neu fun j=>if j=i then (k:Int) else x j) i=cntP (Neu x) i:=a5m i fun j hj=>by
   constructor
   ·intro h2 j' hj' e
    refine h2 j' hj' ?_
    simp only[if_neg (hne j' (by omega)),if_neg (hne j hj)]; exact e
   ·intro h2 j' hj' e
    simp only[if_neg (hne j' (by omega)),if_neg (hne j hj)] at e
    exact h2 j' hj' e
  rw[a1S,hc]
  ·exact f.ct
  ·intro h2
   obtain ⟨h3,h4⟩:=f.le k hk
   refine h2 (F k) h3 ?_
   simp only[if_neg (hne _ h3),if_true]; exact h4
theorem FI.neu {F:Nat->Nat}{n i:Nat}(f:FI δ c F n x i)(h:∀k,k<n->¬Alk δ c (F k) i):FI δ c (fun r=>if r=n then i else F r) (n+1) (fun j=>if j=i then (n:Int) else x j) (i+1):=by
 have hne:∀j,j<i->¬j=i:=fun j h=>by omega
 have hnn:∀j,j<n->¬j=n:=fun j h=>by omega
 refine ⟨fun r hr=>?_,fun j hj=>?_,fun r s hr hs h2=>?_,?_⟩
 ·by_cases q:r=n
  ·subst q; simp only[if_true]; exact ⟨by omega,trivial⟩
  ·obtain ⟨h1,h2⟩:=f.le r (by omega)
   simp only[if_neg q,if_neg (hne _ h1)]; exact ⟨by omega,h2⟩
 ·by_cases q:j=i
  ·subst q
   simp only[if_true,Int.toNat_natCast]
   exact ⟨by omega,by omega,Alk.refl j⟩
  ·obtain ⟨h1,h2,h3⟩:=f.cl j (by omega)
   simp only[if_neg q,if_neg (hnn (x j).toNat (by omega))]
   exact ⟨h1,by omega,h3⟩
 ·by_cases q:r=n
  ·subst q
   by_cases q2:s=r
   ·exact q2.symm
   ·simp only[if_true,if_neg q2] at h2
    exact absurd h2.symm (h s (by omega))
  ·by_cases q2:s=n
   ·subst q2
    simp only[if_true,if_neg q] at h2
    exact absurd h2 (h r (by omega))
   ·simp only[if_neg q,if_neg q2] at h2
    exact f.ds r s (by omega) (by omega) h2
 ·have hc:cntP (Neu fun j=>if j=i then (n:Int) else x j) i=cntP (Neu x) i:=a5m i fun j hj=>by
   constructor
   ·intro h2 j' hj' e
    refine h2 j' hj' ?_
    simp only[if_neg (hne j' (by omega)),if_neg (hne j hj)]; exact e
   ·intro h2 j' hj' e
    simp only[if_neg (hne j' (by omega)),if_neg (hne j hj)] at e
    exact h2 j' hj' e
  rw[a1R,hc,<-f.ct]
  intro j hj e
  simp only[if_neg (hne j hj),if_true] at e
  have:=f.cl j hj
  omega
theorem FI.fin {F:Nat->Nat}{n:Nat}(f:FI δ c F n x S):Finer δ S c x n:=by
 refine ⟨fun a b ha hb=>⟨fun h=>?_,fun h=>?_⟩,fun a ha=>⟨(f.cl a ha).1,(f.cl a ha).2.1⟩,f.ct⟩
 ·have h1:=(f.cl a ha).2.2
  have h2:=(f.cl b hb).2.2
  rw[h] at h1
  exact h1.symm.trans h2
 ·obtain ⟨a1,a2,a3⟩:=f.cl a ha
  obtain ⟨b1,b2,b3⟩:=f.cl b hb
  have:=f.ds _ _ (by omega) (by omega) ((a3.trans h).trans b3.symm)
  omega
end
end Go.Gm
namespace Go.Gm.AQ
open Go Go.Gm
def dl (D:List (List Int))(a m:Nat):Nat:=(nx D a m).toNat
section
variable {D:List (List Int)} {acc:List Bool} {h:Heap}
def encN (n:Nat):List AV:=[I n]
end
end Go.Gm.AQ
namespace Go.Gm.AQ
open Go Go.Gm
section
variable {D:List (List Int)} {acc:List Bool} {h:Heap}
end
end Go.Gm.AQ
namespace Go.Gm
section
variable {δ:Nat->Nat->Nat} {S n:Nat} {x rk:Nat->Int} {s:Nat->Nat} {acc:Nat->Bool}
structure PMs (x:Nat->Int) (S:Nat) (rk:Nat->Int) (s:Nat->Nat) (n:Nat):Prop where
 lt:∀j,j<n->s j<S
 rel:∀v:Nat,v<S->(rk v=0/\∀j,j<n->x (s j)≠v)\/∃j:Nat,j<n/\rk v=j+1/\x (s j)=v
 ct:un S (fun v=>rk v-1)+n=S
theorem PMs.le (p:PMs x S rk s n):n<=S:=by
 have:=p.ct
 have:=i4_ S (fun v=>rk v-1)
 omega
theorem PMs.has (p:PMs x S rk s n){v:Nat}(hv:v<S)(h:rk v≠0):∃j:Nat,j<n/\rk v=j+1/\x (s j)=v:=by
 rcases p.rel v hv with ⟨h1,_⟩|h1
 ·exact absurd h1 h
 ·exact h1
theorem PMs.neu (p:PMs x S rk s n){v to:Nat}(hv:v<S)(ht:to<S)(hx:x to=v)(h:rk v=0):PMs x S (up rk v (n+1)) (fun r=>if r=n then to else s r) (n+1):=by
 have hnn:∀j,j<n->¬j=n:=fun j h=>by omega
 refine ⟨fun j hj=>?_,fun w hw=>?_,?_⟩
 ·by_cases q:j=n
  ·simp only[if_pos q]; exact ht
  ·simp only[if_neg q]; exact p.lt j (by omega)
 ·by_cases q:w=v
  ·subst q
   refine .inr ⟨n,by omega,?_,?_⟩
   ·simp[up]
   ·simp only[if_true]; exact hx
  ·rcases p.rel w hw with ⟨h1,h2⟩|⟨j,h1,h2,h3⟩
   ·refine .inl ⟨by rw[up,if_neg q]; exact h1,fun j hj=>?_⟩
    by_cases q2:j=n
    ·simp only[if_pos q2]; rw[hx]; omega
    ·simp only[if_neg q2]; exact h2 j (by omega)
   ·refine .inr ⟨j,by omega,by rw[up,if_neg q]; exact h2,?_⟩
    simp only[if_neg (hnn j h1)]; exact h3
 ·have e:(fun w=>up rk v (n+1) w-1)=up (fun w=>rk w-1) v n:=by
   funext w
   simp only[up]
   split<;>omega
  rw[e,un_up hv (by omega),if_pos (by omega)]
  have:=p.ct
  omega
def POw (δ:Nat->Nat->Nat)(acc:Nat->Bool)(x:Nat->Int)(s:Nat->Nat)(n:Nat)(nxt:Nat->Nat->Int)(ac:Nat->Bool)(i:Nat):Prop:=
 ∀a,a<i->ac a=acc (s a)/\∀m,m<5->∃j:Nat,j<n/\nxt a m=j/\x (s j)=x (δ (s a) m)
def PRw (δ:Nat->Nat->Nat)(x:Nat->Int)(s:Nat->Nat)(n:Nat)(a:Nat)(nx:Nat->Int)(m:Nat):Prop:=∀m',m'<m->∃j:Nat,j<n/\nx m'=j/\x (s j)=x (δ a m')
theorem POw.grow {nxt:Nat->Nat->Int}{ac:Nat->Bool}{i:Nat}(p:POw δ acc x s n nxt ac i)(hi:i<=n)(to:Nat):POw δ acc x (fun r=>if r=n then to else s r) (n+1) nxt ac i:=by
 intro a ha
 obtain ⟨h1,h2⟩:=p a ha
 refine ⟨by simp only[if_neg (show ¬a=n by omega)]; exact h1,fun m hm=>?_⟩
 obtain ⟨j,k1,k2,k3⟩:=h2 m hm
 refine ⟨j,by omega,k2,?_⟩
 simp only[if_neg (show ¬a=n by omega),if_neg (show ¬j=n by omega)]
 exact k3
theorem PRw.grow {nx:Nat->Int}{a m:Nat}(p:PRw δ x s n a nx m)(to:Nat):PRw δ x (fun r=>if r=n then to else s r) (n+1) a nx m:=by
 intro m' hm
 obtain ⟨j,k1,k2,k3⟩:=p m' hm
 refine ⟨j,by omega,k2,?_⟩
 simp only[if_neg (show ¬j=n by omega)]
 exact k3
end
end Go.Gm
namespace Go.Gm.AQ
open Go Go.Gm
section
variable {D:List (List Int)} {acc:List Bool} {h:Heap}
structure MI (S:Nat) (hb h:Heap) (rank states sN sA:AV) (oS oN oA:Nat) (rk:List Int) (Ss:List Nat) (D':List (List Int)) (acc':List Bool):Prop where
 eb:Ext hb h
 ro:h[hb.length]?=some (.cells ⟨[sN,sA],0,0,false⟩)
 gr:Gr (hb.length+1) (hb.length+2) h 1 rank (rk.map encI)
 gs:Gr oS (oS+1) h 1 states (Ss.map encN)
 gn:Gr oN (oN+1) h 5 sN (D'.map encR)
 ga:Gr oA (oA+1) h 1 sA (acc'.map encB)
 ps:states≠.nils->hb.length+2<=oS/\oS<h.length
 pn:sN≠.nils->hb.length+2<=oN/\oN<h.length/\(states≠.nils->oN≠oS)
 pa:sA≠.nils->hb.length+2<=oA/\oA<h.length/\(states≠.nils->oA≠oS)/\(sN≠.nils->oA≠oN)
 lr:rk.length=S
 bl:hb.length+2<=h.length
section
variable {S:Nat} {hb:Heap} {rank states sN sA:AV} {oS oN oA:Nat} {rk:List Int} {Ss:List Nat} {D':List (List Int)} {acc':List Bool}
theorem MI.ext (p:MI S hb h rank states sN sA oS oN oA rk Ss D' acc'){h':Heap}(e:Ext h h'):MI S hb h' rank states sN sA oS oN oA rk Ss D' acc':=by
 have l:=e.len
 refine ⟨p.eb.trans e,e.get p.ro,p.gr.ext e,p.gs.ext e,p.gn.ext e,p.ga.ext e,fun z=>?_,fun z=>?_,fun z=>?_,p.lr,by have:=p.bl; omega⟩
 ·have:=p.ps z; omega
 ·have:=p.pn z; exact ⟨this.1,by omega,this.2.2⟩
 ·have:=p.pa z; exact ⟨this.1,by omega,this.2.2⟩
theorem MI.frs (p:MI S hb h rank states sN sA oS oN oA rk Ss D' acc'){h':Heap}{o:Nat}(f:FrS (fun q=>q=o) h h')(ho:hb.length+2<=o)(h1:states≠.nils->o≠oS)(h2:sN≠.nils->o≠oN)(h3:sA≠.nils->o≠oA):MI S hb h' rank states sN sA oS oN oA rk Ss D' acc':=by
 have l:=f.len
 have bl:=p.bl
 have nl:∀{lo:Nat} {sz:Nat} {s:AV} {xs:List (List AV)},Gr lo (lo+1) h sz s xs->(s≠.nils->o≠lo)->Gr lo (lo+1) h' sz s xs:=by
  intro lo sz s xs g hq
  by_cases q:s=.nils
  ·subst q
   have:=g.isNil
   subst this
   exact Gr.nil ..
  ·exact g.frs f fun r r1 r2=>by have:=hq q; omega
 refine ⟨f.ext p.eb fun q q1=>by omega,by rw[f.get (by omega) (by omega)]; exact p.ro,p.gr.frs f fun q q1 q2=>by omega,nl p.gs h1,nl p.gn h2,nl p.ga h3,fun z=>?_,fun z=>?_,fun z=>?_,p.lr,by omega⟩
 ·have:=p.ps z; omega
 ·have:=p.pn z; exact ⟨this.1,by omega,this.2.2⟩
 ·have:=p.pa z; exact ⟨this.1,by omega,this.2.2⟩
theorem MI.row (p:MI S hb h rank states sN sA oS oN oA rk Ss D' acc'){r:List Int}(hr:r.length=5)(hl:D'.length<=100000) :
  ∃s' h' o',apnd 5 40 sN (.sl h.length 0 1 5 none 0) (h++[AObj.cells ⟨r.map I,0,0,false⟩])=some (s',h')/\s'.one=true/\s'.cells=[s']/\h'[hb.length]?=some (.cells ⟨[sN,sA],0,0,false⟩)/\
   MI S hb (h'.set hb.length (.cells ⟨[s',sA],0,0,false⟩)) rank states s' sA oS o' oA rk Ss (D'++[r]) acc':=by
 have b:=Gr.lit (h:=h) (sz:=5) (v:=r.map I) (by simp[hr])
 rw[a1_] at b
 have e1:Ext h (h++[AObj.cells ⟨r.map I,0,0,false⟩]):=Ext.push _ _
 obtain ⟨s',h',o',q1,q2,q3,q4⟩:=(p.gn.ext e1).appP (fun z=>by have:=p.pn z; simp; omega) b.sl (by omega) (bytes:=40) (by omega) (by simp; omega)
 have f:=(FrS.ofExt (D:=fun q=>sN≠.nils/\q=oN) e1).trans q4
 have l:=f.len
 have bl:=p.bl
 have ps:=p.ps
 have pn:=p.pn
 have pa:=p.pa
 have l1:(h++[AObj.cells ⟨r.map I,0,0,false⟩]).length=h.length+1:=by simp
 have q3':s'≠.nils->(o'=oN/\sN≠.nils)\/h.length<=o':=fun z=>by
  rcases (q3 z).1 with q|q
  ·exact .inl q
  ·exact .inr (by omega)
 have ro:=p.ro
 have ro':h'[hb.length]?=some (.cells ⟨[sN,sA],0,0,false⟩):=by rw[f.get (fun z=>by have:=pn z.1; omega) (by omega)]; exact ro
 have nl:∀{lo:Nat} {sz:Nat} {s:AV} {xs:List (List AV)},Gr lo (lo+1) h sz s xs->(s≠.nils->sN≠.nils->oN≠lo)->Gr lo (lo+1) h' sz s xs:=by
  intro lo sz s xs g hq
  by_cases q:s=.nils
  ·subst q
   have:=g.isNil
   subst this
   exact Gr.nil ..
  ·exact g.frs f fun r r1 r2 z=>by have:=hq q z.1; omega
 have st:∀{lo:Nat} {sz:Nat} {s:AV} {xs:List (List AV)} (x:AObj),Gr lo (lo+1) h' sz s xs->(s≠.nils->hb.length<lo)->Gr lo (lo+1) (h'.set hb.length x) sz s xs:=by
  intro lo sz s xs x g hq
  by_cases q:s=.nils
  ·subst q
   have:=g.isNil
   subst this
   exact Gr.nil ..
  ·exact g.set (.inl (hq q)) _
 have q5:∀z:s'≠.nils,hb.length+2<=o'/\o'<h'.length:=fun z=>by
  have h1:=(q3 z).2
  rcases q3' z with ⟨h2,h3⟩|h2
  ·have:=pn h3; omega
  ·omega
 refine ⟨s',h',o',q1,q2.sl.one,q2.sl.cells,ro',⟨(f.ext p.eb fun q z1 z2=>by have:=pn z2.1; omega).setr (Nat.le_refl _) _,a0_ (by omega),(p.gr.frs f fun q z1 z2 z3=>by have:=pn z3.1; omega).set (.inl (by omega)) _,st _ (nl p.gs fun z1 z2=>(pn z2).2.2 z1) fun z=>by have:=ps z; omega,st _ (q2.cong (by simp[encR])) fun z=>by have:=q5 z; omega,st _ (nl p.ga fun z1 z2=>((pa z1).2.2.2 z2).symm) fun z=>by have:=pa z; omega,?_,?_,?_,p.lr,by simp; omega⟩⟩
 ·intro z; have:=ps z; simp; omega
 ·intro z
  have h1:=q5 z
  refine ⟨h1.1,by simp; exact h1.2,fun z2=>?_⟩
  rcases q3' z with ⟨h2,h3⟩|h2
  ·have:=(pn h3).2.2 z2; omega
  ·have:=ps z2; omega
 ·intro z
  have h1:=pa z
  refine ⟨h1.1,by simp; omega,h1.2.2.1,fun z2=>?_⟩
  rcases q3' z2 with ⟨h2,h3⟩|h2
  ·have:=h1.2.2.2 h3; omega
  ·omega
end
end
end Go.Gm.AQ
namespace Go.Gm.AQ
open Go Go.Gm
section
variable {D:List (List Int)} {acc:List Bool} {hb:Heap} {sD sA0 sc rank:AV} {xs:List Int} {od:Nat}
structure MBs (D:List (List Int)) (acc:List Bool) (hb:Heap) (sD sA0 sc:AV) (xs:List Int) (od:Nat):Prop where
 ok:DOk D acc
 hD:Sl hb 5 sD (D.map encR)
 hA:Sl hb 1 sA0 (acc.map encB)
 hc:Sl hb 1 sc (xs.map encI)
 lx:xs.length=D.length
 st:Stab (dl D) (fun a:Nat=>gi acc (a:Int)) D.length (gf xs)
 rd:hb[od]?=some (.cells ⟨[sD,sA0],0,0,false⟩)
structure MKn (D:List (List Int)) (acc:List Bool) (xs rk:List Int) (Ss:List Nat) (D':List (List Int)) (acc':List Bool) (i:Nat):Prop where
 pm:PMs (gf xs) D.length (gf rk) (gf Ss) Ss.length
 po:POw (dl D) (fun a:Nat=>gi acc (a:Int)) (gf xs) (gf Ss) Ss.length (fun a m=>nx D' (a:Int) (m:Int)) (fun a:Nat=>gi acc' (a:Int)) i
 z0:gf Ss 0=0
 il:i<=Ss.length
 s0:0<Ss.length
 ld:D'.length=i
 la:acc'.length=i
 l5:∀r∈D',r.length=5
end
end Go.Gm.AQ
namespace Go.Gm.AQ
open Go Go.Gm
section
variable {D:List (List Int)} {acc:List Bool}
def MinQ (D:List (List Int))(acc:List Bool)(lo:Nat)(r:AV)(h':Heap):Prop:=
 ∃(D':List (List Int)) (acc':List Bool) (sN sA:AV),r=.agg [sN,sA]/\Gr lo h'.length h' 5 sN (D'.map encR)/\Gr lo h'.length h' 1 sA (acc'.map encB)/\DOk D' acc'/\D'.length<=D.length/\
  ∀w:List Int,(∀m∈w,0<=m/\m<5)->gi acc (goS D 0 w)=gi acc' (goS D' 0 w)
end
end Go.Gm.AQ
namespace Go.Gm
theorem tb_or (s q p:Nat):(s ||| 2 ^ q).testBit p=(s.testBit p || decide (p=q)):=by
 rw[Nat.testBit_or,Nat.testBit_two_pow]
 by_cases h:q=p
 ·subst h; simp
 ·simp[h,Ne.symm h]
def clo1 (fr:List (Nat × Nat))(s:Nat):Nat:=fr.foldl (fun s f=>if s.testBit f.1 then s ||| 2 ^ f.2 else s) s
def cloN (fr:List (Nat × Nat)):Nat->Nat->Nat
 |0,s=>s
 |k+1,s=>if clo1 fr s=s then s else cloN fr k (clo1 fr s)
def cloF (n:Nat)(fr:List (Nat × Nat))(s:Nat):Nat:=cloN fr (n+1) s
inductive Rch (fr:List (Nat × Nat)) (s:Nat):Nat->Prop
 |here {p:Nat}:s.testBit p=true->Rch fr s p
 |on {p q:Nat}:Rch fr s p->(p,q)∈fr->Rch fr s q
theorem Rch.mono {fr:List (Nat × Nat)}{s t:Nat}(h:∀p,s.testBit p=true->Rch fr t p){p:Nat}(k:Rch fr s p):Rch fr t p:=by
 induction k with
 |here h1=>exact h _ h1
 |on _ h2 ih=>exact .on ih h2
theorem a4d (fr0:List (Nat × Nat)):∀(fr:List (Nat × Nat)) (s:Nat),(∀f∈fr,f∈fr0)->(∀p,s.testBit p=true->(clo1 fr s).testBit p=true)/\(∀p,(clo1 fr s).testBit p=true->Rch fr0 s p)
 |[],s,_=>⟨fun p h=>h,fun p h=>.here h⟩
 |f::fr,s,hf=>by
  simp only[clo1,List.foldl_cons]
  by_cases h:s.testBit f.1=true
  ·rw[if_pos h]
   obtain ⟨h1,h2⟩:=a4d fr0 fr (s ||| 2 ^ f.2) fun g hg=>hf g (List.mem_cons_of_mem _ hg)
   refine ⟨fun p hp=>h1 p (by rw[tb_or,hp]; rfl),fun p hp=>(h2 p hp).mono fun q hq=>?_⟩
   rw[tb_or,Bool.or_eq_true,decide_eq_true_eq] at hq
   rcases hq with hq|hq
   ·exact .here hq
   ·rw[hq]; exact .on (.here h) (hf f (List.mem_cons_self ..))
  ·rw[if_neg h]
   exact a4d fr0 fr s fun g hg=>hf g (List.mem_cons_of_mem _ hg)
theorem a4P:∀(fr:List (Nat × Nat)) (s:Nat),clo1 fr s=s->∀f∈fr,s.testBit f.1=true->s.testBit f.2=true
 |[],s,_=>fun f hf=>by cases hf
 |f::fr,s,h=>by
  simp only[clo1,List.foldl_cons] at h
  intro g hg hs
  by_cases h1:s.testBit f.1=true
  ·rw[if_pos h1] at h
   have h2:s.testBit f.2=true:=by
    have:=(a4d fr fr (s ||| 2 ^ f.2) fun _ z=>z).1 f.2 (by rw[tb_or]; simp)
    rw[show clo1 fr (s ||| 2 ^ f.2)=s from h] at this
    exact this
   have h3:s ||| 2 ^ f.2=s:=by
    refine Nat.eq_of_testBit_eq fun p=>?_
    rw[tb_or]
    by_cases q:p=f.2
    ·subst q; rw[h2]; rfl
    ·simp[q]
   rw[h3] at h
   rcases List.mem_cons.1 hg with rfl|hg
   ·exact h2
   ·exact a4P fr s h g hg hs
  ·rw[if_neg h1] at h
   rcases List.mem_cons.1 hg with rfl|hg
   ·exact absurd hs h1
   ·exact a4P fr s h g hg hs
def outN (n s:Nat):Int:=un n fun p=>if s.testBit p=true then 0 else -1
theorem a7G {c d:Nat->Int}:∀n,(∀x,x<n->c x<0->d x<0)->un n c<=un n d
 |0,_=>Int.le_refl _
 |n+1,h=>by
  have h1:=a7G n fun x hx=>h x (by omega)
  show un n c+(if c n<0 then 1 else 0)<=un n d+(if d n<0 then 1 else 0)
  by_cases q:c n<0
  ·rw[if_pos q,if_pos (h n (by omega) q)]; omega
  ·rw[if_neg q]; split<;>omega
theorem un_lt {c d:Nat->Int}:∀n,(∀x,x<n->c x<0->d x<0)->∀x,x<n->¬c x<0->d x<0->un n c<un n d
 |0,_,x,hx,_,_=>by omega
 |n+1,h,x,hx,h1,h2=>by
  have h3:=a7G n fun x hx=>h x (by omega)
  show un n c+(if c n<0 then 1 else 0)<un n d+(if d n<0 then 1 else 0)
  by_cases q:x=n
  ·subst q; rw[if_neg h1,if_pos h2]; omega
  ·have h4:=un_lt n (fun x hx=>h x (by omega)) x (by omega) h1 h2
   by_cases q:c n<0
   ·rw[if_pos q,if_pos (h n (by omega) q)]; omega
   ·rw[if_neg q]; split<;>omega
theorem b0s {n s t:Nat}(h:∀p,s.testBit p=true->t.testBit p=true)(hn:∀p,t.testBit p=true->p<n)(hne:t≠s):outN n t<outN n s:=by
 obtain ⟨p,hp⟩:∃p,t.testBit p≠s.testBit p:=by
  refine Classical.byContradiction fun z=>hne (Nat.eq_of_testBit_eq fun p=>?_)
  exact Classical.byContradiction fun y=>z ⟨p,y⟩
 have ht:t.testBit p=true:=by
  cases hs:s.testBit p with
  |true=>exact h p hs
  |false=>rw[hs] at hp; simpa using hp
 have hs:¬s.testBit p=true:=fun z=>hp (by rw[ht,z])
 refine un_lt n (fun x hx h1=>?_) p (hn p ht) (by simp[ht]) (by simp[hs])
 by_cases q:s.testBit x=true
 ·rw[if_pos (h x q)] at h1; omega
 ·rw[if_neg q]; omega
theorem a7H {fr:List (Nat × Nat)}{n:Nat}(hf:∀f∈fr,f.2<n):∀(k s:Nat),(∀p,s.testBit p=true->p<n)->outN n s<k->clo1 fr (cloN fr k s)=cloN fr k s/\(∀p,s.testBit p=true->(cloN fr k s).testBit p=true)/\(∀p,(cloN fr k s).testBit p=true->Rch fr s p)
 |0,s,_,h=>by
  have:=i4_ n fun p=>if s.testBit p=true then 0 else -1
  unfold outN at h
  omega
 |k+1,s,hs,h=>by
  obtain ⟨h1,h2⟩:=a4d fr fr s fun _ z=>z
  rw[cloN]
  by_cases q:clo1 fr s=s
  ·rw[if_pos q]; exact ⟨q,fun p hp=>hp,fun p hp=>.here hp⟩
  ·rw[if_neg q]
   have hlt:∀p,(clo1 fr s).testBit p=true->p<n:=fun p hp=>by
    have:=h2 p hp
    cases this with
    |here h3=>exact hs p h3
    |on _ h4=>exact hf _ h4
   have:=b0s h1 hlt q
   obtain ⟨k1,k2,k3⟩:=a7H hf k (clo1 fr s) hlt (by omega)
   exact ⟨k1,fun p hp=>k2 p (h1 p hp),fun p hp=>(k3 p hp).mono h2⟩
theorem a4Q {fr:List (Nat × Nat)}{n s:Nat}(hf:∀f∈fr,f.2<n)(hs:∀p,s.testBit p=true->p<n)(p:Nat):(cloF n fr s).testBit p=true↔Rch fr s p:=by
 have hle:outN n s<(n+1:Nat):=by
  have:=un_le n fun p=>if s.testBit p=true then 0 else -1
  unfold outN
  omega
 obtain ⟨h1,h2,h3⟩:=a7H hf (n+1) s hs hle
 refine ⟨h3 p,fun h=>?_⟩
 induction h with
 |here h=>exact h2 _ h
 |on _ h4 ih=>exact a4P fr _ h1 _ h4 ih
theorem b0W {fr:List (Nat × Nat)}{n s:Nat}(hf:∀f∈fr,f.2<n)(hs:∀p,s.testBit p=true->p<n){p:Nat}(h:Rch fr s p):p<n:=by
 cases h with
 |here h=>exact hs _ h
 |on _ h4=>exact hf _ h4
def stpF (st:List (Nat × Nat × Nat))(s m:Nat):Nat:=st.foldl (fun t x=>if s.testBit x.1 && x.2.2.testBit m then t ||| 2 ^ x.2.1 else t) 0
theorem a5C {s m:Nat}:∀(st:List (Nat × Nat × Nat)) (t p:Nat),(st.foldl (fun t x=>if s.testBit x.1 && x.2.2.testBit m then t ||| 2 ^ x.2.1 else t) t).testBit p=true↔t.testBit p=true\/∃x∈st,s.testBit x.1=true/\x.2.2.testBit m=true/\x.2.1=p
 |[],t,p=>by simp
 |x::st,t,p=>by
  rw[List.foldl_cons]
  by_cases h:(s.testBit x.1 && x.2.2.testBit m)=true
  ·rw[if_pos h,a5C st,tb_or]
   rw[Bool.and_eq_true] at h
   simp only[Bool.or_eq_true,decide_eq_true_eq,List.mem_cons,exists_eq_or_imp]
   constructor
   ·rintro ((h1|h1)|h1)
    ·exact .inl h1
    ·exact .inr (.inl ⟨h.1,h.2,h1.symm⟩)
    ·exact .inr (.inr h1)
   ·rintro (h1|⟨_,_,h1⟩|h1)
    ·exact .inl (.inl h1)
    ·exact .inl (.inr h1.symm)
    ·exact .inr h1
  ·rw[if_neg h,a5C st]
   rw[Bool.and_eq_true] at h
   simp only[List.mem_cons,exists_eq_or_imp]
   constructor
   ·rintro (h1|h1)
    ·exact .inl h1
    ·exact .inr (.inr h1)
   ·rintro (h1|⟨h1,h2,_⟩|h1)
    ·exact .inl h1
    ·exact absurd ⟨h1,h2⟩ h
    ·exact .inr h1
theorem a4R {st:List (Nat × Nat × Nat)}{s m p:Nat}:(stpF st s m).testBit p=true↔∃x∈st,s.testBit x.1=true/\x.2.2.testBit m=true/\x.2.1=p:=by
 rw[stpF,a5C]; simp
def idxF (x:Nat):Nat->List Nat->Option Nat
 |_,[]=>none
 |i,y::l=>if y=x then some i else idxF x (i+1) l
def rowF (nf:NF)(lim s:Nat):Nat->Nat->List Nat->List Int->Option (List Nat × List Int)
 |0,_,sets,row=>some (sets,row)
 |k+1,m,sets,row=>
  let to:=cloF nf.n nf.fr (stpF nf.st s m)
  match idxF to 0 sets with
  |some j=>rowF nf lim s k (m+1) sets (row++[(j:Int)])
  |none=>if lim<=sets.length then none else rowF nf lim s k (m+1) (sets++[to]) (row++[(sets.length:Int)])
end Go.Gm
namespace Go.Gm
def longer (l:List (List Int)):List (List Int):=l.flatMap fun w=>[w++[0],w++[1],w++[2],w++[3],w++[4]]
def wl:Nat->List (List Int)
 |0=>[[]]
 |t+1=>longer (wl t)
theorem a6L:∀{t:Nat} {w:List Int},w∈wl t↔w.length=t/\∀c∈w,0<=c/\c<5
 |0,w=>by
  simp only[wl,List.mem_singleton]
  constructor
  ·rintro rfl; simp
  ·rintro ⟨h,_⟩; exact List.eq_nil_of_length_eq_zero h
 |t+1,w=>by
  simp only[wl,longer,List.mem_flatMap,a6L (t:=t),List.mem_cons,List.not_mem_nil,or_false]
  constructor
  ·rintro ⟨v,⟨h1,h2⟩,h⟩
   have hc:∀k:Int,0<=k->k<5->(v++[k]).length=t+1/\∀c∈v++[k],0<=c/\c<5:=by
    intro k k0 k1
    refine ⟨by simp[h1],fun c hc=>?_⟩
    rcases List.mem_append.1 hc with hc|hc
    ·exact h2 c hc
    ·rw[List.mem_singleton.1 hc]; exact ⟨k0,k1⟩
   rcases h with rfl|rfl|rfl|rfl|rfl
   ·exact hc 0 (by omega) (by omega)
   ·exact hc 1 (by omega) (by omega)
   ·exact hc 2 (by omega) (by omega)
   ·exact hc 3 (by omega) (by omega)
   ·exact hc 4 (by omega) (by omega)
  ·rintro ⟨h1,h2⟩
   have hne:w≠[]:=by rintro rfl; simp at h1
   refine ⟨w.dropLast,⟨by simp[h1],fun c hc=>h2 c (List.dropLast_subset _ hc)⟩,?_⟩
   have hl:=h2 (w.getLast hne) (List.getLast_mem hne)
   have he:w.dropLast++[w.getLast hne]=w:=List.dropLast_concat_getLast hne
   obtain ⟨k,hk⟩:∃k,w.getLast hne=k:=⟨_,rfl⟩
   rw[hk] at hl he
   have:k=0\/k=1\/k=2\/k=3\/k=4:=by omega
   rcases this with q|q|q|q|q<;>subst q<;>simp[he]
open Classical in
noncomputable def wordsN (n:Nd) (most:Nat):List (List Int):=((List.range (most+1)).flatMap wl).filter fun w=>decide (In n w)
def incR:List Int->List Int × Bool
 |[]=>([],true)
 |c::r=>if c+1<5 then ((c+1)::r,false) else (0::(incR r).1,(incR r).2)
def inc (w:List Int):List Int × Bool:=((incR w.reverse).1.reverse,(incR w.reverse).2)
def nxt (w:List Int):List Int:=if (inc w).2 then (inc w).1++[0] else (inc w).1
end Go.Gm
namespace Go.Gm
theorem b0X {s:Nat}{w:List Int}:In (.set s) w↔∃c,w=[c]/\0<=c/\c<5/\s.testBit c.toNat=true:=by
 simp only[In,R,hit]
 constructor
 ·rintro ⟨⟨c,h1,h2⟩,h3⟩
  match w,h1,h3 with
  |[x],h1,_=>simp at h1; subst h1; exact ⟨x,rfl,h2⟩
 ·rintro ⟨c,rfl,h⟩
  exact ⟨⟨c,rfl,h⟩,rfl⟩
theorem Star.iff {r:Nat->Nat->Prop}{i j:Nat}:Star r i j↔i=j\/∃m,r i m/\Star r m j:=by
 constructor
 ·intro h
  induction h with
  |refl=>exact .inl rfl
  |tail a b ih=>
   rcases ih with rfl|⟨m,u1,u2⟩
   ·exact .inr ⟨_,b,.refl _⟩
   ·exact .inr ⟨m,u1,.tail u2 b⟩
 ·rintro (rfl|⟨m,h1,h2⟩)
  ·exact .refl _
  ·exact .head h1 h2
section
variable {k L:Nat} {r r':Nat->Nat->Prop}
theorem Star.up (h:∀i j,r' i j->r (k+i) (k+j)){i j:Nat}(a:Star r' i j):Star r (k+i) (k+j):=by
 induction a with
 |refl=>exact .refl _
 |tail _ b ih=>exact .tail ih (h _ _ b)
theorem Pow.up (h:∀i j,r' i j->r (k+i) (k+j)):∀{t i j:Nat},Pow r' t i j->Pow r t (k+i) (k+j)
 |0,i,j,a=>by cases a; exact rfl
 |t+1,i,j,⟨m,a,b⟩=>⟨k+m,Pow.up h a,h _ _ b⟩
theorem Star.dn (hm:∀i j,r i j->i<=j)(h:∀i y,r (k+i) y->y<=k+L->∃j,y=k+j/\r' i j){x y:Nat}(a:Star r x y):∀i,x=k+i->y<=k+L->∃j,y=k+j/\Star r' i j:=by
 induction a with
 |refl=>intro i hi _; exact ⟨i,hi,.refl _⟩
 |tail _ b ih=>
  intro i hi hy
  obtain ⟨j,rfl,h1⟩:=ih i hi (Nat.le_trans (hm _ _ b) hy)
  obtain ⟨j',rfl,h2⟩:=h _ _ b hy
  exact ⟨j',rfl,.tail h1 h2⟩
theorem Pow.dn (hm:∀i j,r i j->i<=j)(h:∀i y,r (k+i) y->y<=k+L->∃j,y=k+j/\r' i j):∀{t i y:Nat},Pow r t (k+i) y->y<=k+L->∃j,y=k+j/\Pow r' t i j
 |0,i,y,a,_=>⟨i,(show k+i=y from a).symm,rfl⟩
 |t+1,i,y,⟨m,a,b⟩,hy=>by
  obtain ⟨j,rfl,h1⟩:=Pow.dn hm h a (Nat.le_trans (hm _ _ b) hy)
  obtain ⟨j',rfl,h2⟩:=h _ _ b hy
  exact ⟨j',rfl,j,h1,h2⟩
end
section
variable (u v z:List Int)
end
end Go.Gm
namespace Go.Gm
theorem Pow.head {r:Nat->Nat->Prop}:∀{t i j:Nat},Pow r (t+1) i j↔∃m,r i m/\Pow r t m j
 |0,i,j=>by
  constructor
  ·rintro ⟨m,h,k⟩; cases h; exact ⟨j,k,rfl⟩
  ·rintro ⟨m,h,k⟩; cases k; exact ⟨i,rfl,h⟩
 |t+1,i,j=>by
  constructor
  ·rintro ⟨m,h,k⟩
   obtain ⟨p,h1,h2⟩:=(Pow.head (t:=t)).1 h
   exact ⟨p,h1,m,h2,k⟩
  ·rintro ⟨p,h1,m,h2,k⟩
   exact ⟨m,(Pow.head (t:=t)).2 ⟨p,h1,h2⟩,k⟩
theorem Star.imp {r r':Nat->Nat->Prop}(h:∀i j,r i j->r' i j){i j:Nat}(a:Star r i j):Star r' i j:=by
 induction a with
 |refl=>exact .refl _
 |tail _ b ih=>exact .tail ih (h _ _ b)
theorem Pow.imp {r r':Nat->Nat->Prop}(h:∀i j,r i j->r' i j):∀{t i j:Nat},Pow r t i j->Pow r' t i j
 |0,_,_,a=>a
 |t+1,_,_,⟨m,a,b⟩=>⟨m,Pow.imp h a,h _ _ b⟩
theorem a8d {n:Nd}{most:Nat}{p:List Int->Bool}(h:∀t,t<=most->∀w∈wl t,(In n w↔p w=true)):wordsN n most=((List.range (most+1)).flatMap wl).filter p:=by
 refine List.filter_congr fun w hw=>?_
 simp only[List.mem_flatMap,List.mem_range] at hw
 obtain ⟨t,h1,h2⟩:=hw
 have:=h t (by omega) w h2
 cases hp:p w with
 |true=>simp[this.2 hp]
 |false=>simp[show ¬In n w from fun q=>by rw[this.1 q] at hp; cases hp]
theorem a5D {α:Type}(l:List Nat)(f:Nat->List α)(p:α->Bool):(l.flatMap f).filter p=l.flatMap fun t=>(f t).filter p:=by
 induction l with
 |nil=>rfl
 |cons a l ih=>simp[ih]
def bN (b:Bool):Nat:=if b then 1 else 0
def manyN (s:Nat):Nat:=bN (s.testBit 0)+bN (s.testBit 1)+bN (s.testBit 2)+bN (s.testBit 3)+bN (s.testBit 4)
def sel (p0 p1 p2 p3 p4:Bool)(c:Int):Bool:=if c=0 then p0 else if c=1 then p1 else if c=2 then p2 else if c=3 then p3 else p4
def selS (s:Nat)(c:Int):Bool:=sel (s.testBit 0) (s.testBit 1) (s.testBit 2) (s.testBit 3) (s.testBit 4) c
theorem a7I {s:Nat}{c:Int}(h0:0<=c)(h5:c<5):selS s c=s.testBit c.toNat:=by
 have:c=0\/c=1\/c=2\/c=3\/c=4:=by omega
 rcases this with rfl|rfl|rfl|rfl|rfl<;>rfl
def p1 (f:Int->Bool):List Int->Bool
 |[c]=>f c
 |_=>false
def p2 (f g:Int->Bool):List Int->Bool
 |[c,d]=>f c && g d
 |_=>false
theorem c1:∀p0 p1' p2' p3 p4:Bool,((wl 1).filter (p1 (sel p0 p1' p2' p3 p4))).length=bN p0+bN p1'+bN p2'+bN p3+bN p4:=by decide +kernel
theorem c2:∀p0 p1' p2' p3 p4 q0 q1 q2 q3 q4:Bool,((wl 2).filter (p2 (sel p0 p1' p2' p3 p4) (sel q0 q1 q2 q3 q4))).length=(bN p0+bN p1'+bN p2'+bN p3+bN p4)*(bN q0+bN q1+bN q2+bN q3+bN q4):=by decide +kernel
theorem a7c {t:Nat}{p:List Int->Bool}(h:∀w:List Int,w.length=t->p w=false):(wl t).filter p=[]:=by
 rw[List.filter_eq_nil_iff]
 intro w hw
 rw[h w (a6L.1 hw).1]; simp
theorem p1_ne {f:Int->Bool}{t:Nat}(ht:t≠1)(w:List Int)(h:w.length=t):p1 f w=false:=by
 match w,h with
 |[],_=>rfl
 |[c],h=>simp at h; omega
 |_::_::_,_=>rfl
theorem In_p1 {s:Nat}{w:List Int}(hw:∀c∈w,0<=c/\c<5):In (.set s) w↔p1 (selS s) w=true:=by
 rw[b0X]
 constructor
 ·rintro ⟨c,rfl,h0,h5,hb⟩
  show selS s c=true
  rw[a7I h0 h5,hb]
 ·intro h
  match w,hw,h with
  |[c],hw,h=>
   have hc:=hw c (by simp)
   exact ⟨c,rfl,hc.1,hc.2,by rw[<-a7I hc.1 hc.2]; exact h⟩
theorem count_set {s most:Nat}(hm:most<=3):(wordsN (.set s) most).length=if most<1 then 0 else manyN s:=by
 rw[a8d (p:=p1 (selS s)) fun t _ w hw=>In_p1 (a6L.1 hw).2,a5D]
 have h1:((wl 1).filter (p1 (selS s))).length=manyN s:=c1 ..
 have hn:∀t,t≠1->(wl t).filter (p1 (selS s))=[]:=fun t ht=>a7c (p1_ne ht)
 have:most=0\/most=1\/most=2\/most=3:=by omega
 rcases this with rfl|rfl|rfl|rfl<;>simp[List.range_succ,hn,h1]
end Go.Gm
namespace Go.Gm
abbrev Stp:=List (Nat × Nat × Nat)
abbrev Fre:=List (Nat × Nat)
inductive Pt (w:List Int) (st:Stp) (fr:Fre) (q i:Nat):Nat->Nat->Prop
 |refl:Pt w st fr q i q i
 |free {p r j:Nat}:Pt w st fr q i p j->(p,r)∈fr->Pt w st fr q i r j
 |step {p r k j:Nat}:Pt w st fr q i p j->(p,r,k)∈st->hit w k j->Pt w st fr q i r (j+1)
section
variable {w:List Int} {st st':Stp} {fr fr':Fre}
theorem Pt.trans {q i p j r k:Nat}(a:Pt w st fr q i p j)(b:Pt w st fr p j r k):Pt w st fr q i r k:=by
 induction b with
 |refl=>exact a
 |free _ h ih=>exact .free ih h
 |step _ h1 h2 ih=>exact .step ih h1 h2
theorem Pt.one {q p i:Nat}(h:(q,p)∈fr):Pt w st fr q i p i:=.free .refl h
theorem Pt.mono (h1:∀x∈st,x∈st')(h2:∀x∈fr,x∈fr'){q i p j:Nat}(a:Pt w st fr q i p j):Pt w st' fr' q i p j:=by
 induction a with
 |refl=>exact .refl
 |free _ h ih=>exact .free ih (h2 _ h)
 |step _ h k ih=>exact .step ih (h1 _ h) k
def Clo (w:List Int)(st:Stp)(fr:Fre)(V:Nat->Nat->Prop):Prop:=(∀p r,(p,r)∈fr->∀j,V p j->V r j)/\∀p r k,(p,r,k)∈st->∀j,V p j->hit w k j->V r (j+1)
theorem Clo.pt {V:Nat->Nat->Prop}(c:Clo w st fr V){q i p j:Nat}(h:V q i)(a:Pt w st fr q i p j):V p j:=by
 induction a with
 |refl=>exact h
 |free _ h ih=>exact c.1 _ _ h _ ih
 |step _ h k ih=>exact c.2 _ _ _ h _ ih k
end
structure Frg (n:Nd) (b b':NS) (s e:Nat) (S:Stp) (F:Fre):Prop where
 st:b'.st=b.st++S
 fr:b'.fr=b.fr++F
 ls:b.n<=s/\s<b'.n
 le:b.n<=e/\e<b'.n
 eS:∀x∈S,b.n<=x.1/\x.1<b'.n/\b.n<=x.2.1/\x.2.1<b'.n
 eF:∀x∈F,b.n<=x.1/\x.1<b'.n/\b.n<=x.2/\x.2<b'.n
 com:∀w i j,R w n i j->Pt w S F s i e j
 snd:∀(w:List Int) (A:Nat->Prop),∃V:Nat->Nat->Prop,(∀q j,V q j->b.n<=q/\q<b'.n)/\Clo w S F V/\(∀j,A j->V s j)/\∀j,V e j->∃i,A i/\R w n i j
structure Frs (ns:List Nd) (b b':NS) (ft:List (Nat × Nat)) (S:Stp) (F:Fre):Prop where
 st:b'.st=b.st++S
 fr:b'.fr=b.fr++F
 len:ft.length=ns.length
 le:b.n<=b'.n
 lt:∀(k:Nat) (x:Nat × Nat),ft[k]?=some x->b.n<=x.1/\x.1<b'.n/\b.n<=x.2/\x.2<b'.n
 eS:∀x∈S,b.n<=x.1/\x.1<b'.n/\b.n<=x.2.1/\x.2.1<b'.n
 eF:∀x∈F,b.n<=x.1/\x.1<b'.n/\b.n<=x.2/\x.2<b'.n
 com:∀w (k:Nat) (x:Nat × Nat) n,ft[k]?=some x->ns[k]?=some n->∀i j,R w n i j->Pt w S F x.1 i x.2 j
 snd:∀(w:List Int) (A:Nat->Nat->Prop),∃V:Nat->Nat->Prop,(∀q j,V q j->b.n<=q/\q<b'.n)/\Clo w S F V/\∀(k:Nat) (x:Nat × Nat) n,ft[k]?=some x->ns[k]?=some n->(∀j,A k j->V x.1 j)/\∀j,V x.2 j->∃i,A k i/\R w n i j
theorem Frs.nil (b:NS):Frs [] b b [] [] []:=
 ⟨by simp,by simp,rfl,Nat.le_refl _,(fun k x h=>by simp at h),(fun x h=>by cases h),(fun x h=>by cases h),(fun w k x n h=>by simp at h),fun w A=>⟨fun _ _=>False,fun _ _ h=>h.elim,⟨(fun _ _ h=>by cases h),(fun _ _ _ h=>by cases h)⟩,fun k x n h=>by simp at h⟩⟩
theorem Frs.cons {n:Nd}{ns:List Nd}{b b1 b2:NS}{x:Nat × Nat}{ft:List (Nat × Nat)}{S S':Stp}{F F':Fre}(a:Frg n b b1 x.1 x.2 S F)(c:Frs ns b1 b2 ft S' F'):Frs (n::ns) b b2 (x::ft) (S++S') (F++F'):=by
 have h1:=a.ls
 have h2:=a.le
 have h3:=c.le
 refine ⟨by rw[c.st,a.st,List.append_assoc],by rw[c.fr,a.fr,List.append_assoc],by simp[c.len],by omega,fun k y h=>?_,fun y h=>?_,fun y h=>?_,fun w k y m h h' i j hr=>?_,fun w A=>?_⟩
 ·cases k with
  |zero=>simp at h; subst h; omega
  |succ k=>have:=c.lt k y (by simpa using h); omega
 ·rcases List.mem_append.1 h with h|h
  ·have:=a.eS y h; omega
  ·have:=c.eS y h; omega
 ·rcases List.mem_append.1 h with h|h
  ·have:=a.eF y h; omega
  ·have:=c.eF y h; omega
 ·cases k with
  |zero=>
   simp at h h'
   subst h h'
   exact (a.com w i j hr).mono (fun z hz=>List.mem_append_left _ hz) fun z hz=>List.mem_append_left _ hz
  |succ k=>exact (c.com w k y m (by simpa using h) (by simpa using h') i j hr).mono (fun z hz=>List.mem_append_right _ hz) fun z hz=>List.mem_append_right _ hz
 ·obtain ⟨V,v1,v2,v3,v4⟩:=a.snd w (A 0)
  obtain ⟨U,u1,u2,u3⟩:=c.snd w (fun k=>A (k+1))
  refine ⟨fun q j=>V q j\/U q j,fun q j h=>?_,⟨fun p r h j hv=>?_,fun p r k h j hv hh=>?_⟩,fun k y m h h'=>?_⟩
  ·rcases h with h|h
   ·have:=v1 q j h; omega
   ·have:=u1 q j h; omega
  ·rcases List.mem_append.1 h with h|h
   ·have he:=a.eF _ h
    rcases hv with hv|hv
    ·exact .inl (v2.1 p r h j hv)
    ·have:=u1 p j hv; simp only at he; omega
   ·have he:=c.eF _ h
    rcases hv with hv|hv
    ·have:=v1 p j hv; simp only at he; omega
    ·exact .inr (u2.1 p r h j hv)
  ·rcases List.mem_append.1 h with h|h
   ·have he:=a.eS _ h
    rcases hv with hv|hv
    ·exact .inl (v2.2 p r k h j hv hh)
    ·have:=u1 p j hv; simp only at he; omega
   ·have he:=c.eS _ h
    rcases hv with hv|hv
    ·have:=v1 p j hv; simp only at he; omega
    ·exact .inr (u2.2 p r k h j hv hh)
  ·cases k with
   |zero=>
    simp at h h'
    subst h h'
    refine ⟨fun j hj=>.inl (v3 j hj),fun j hj=>?_⟩
    rcases hj with hj|hj
    ·exact v4 j hj
    ·have:=u1 _ j hj; omega
   |succ k=>
    have hk:ft[k]?=some y:=by simpa using h
    obtain ⟨w1,w2⟩:=u3 k y m hk (by simpa using h')
    have hl:=c.lt k y hk
    refine ⟨fun j hj=>.inr (w1 j hj),fun j hj=>?_⟩
    rcases hj with hj|hj
    ·have:=v1 _ j hj; omega
    ·exact w2 j hj
def PSp (p:NS->List (Nat × Nat) × NS)(ns:List Nd):Prop:=∀b,(p b).2.much=false->b.much=false/\∃S F,Frs ns b (p b).2 (p b).1 S F
theorem PSp.none:PSp (fun b=>([],b)) []:=fun b h=>⟨h,[],[],Frs.nil b⟩
theorem b0Y (b:NS)(s e:Nat)(l:List (Nat × Nat))(n:Nd):(b.lead s e l n).n=b.n/\(b.lead s e l n).much=b.much:=by
 cases n<;>exact ⟨rfl,rfl⟩
theorem Frs.around {n:Nd}{ns:List Nd}{b b3:NS}{ft:List (Nat × Nat)}{S S0:Stp}{F F0:Fre}(f:Frs ns ⟨b.n+1,b.much,b.st,b.fr⟩ ⟨b3.n-1,b3.much,b3.st,b3.fr⟩ ft S F)(h2:b.n+2<=b3.n)(hS:(b3.lead b.n (b3.n-1) ft n).st=b3.st++S0)(hF:(b3.lead b.n (b3.n-1) ft n).fr=b3.fr++F0)(eS:∀x∈S0,x.1=b.n/\x.2.1=b3.n-1)(eF:∀x∈F0,(x.1=b.n\/∃y∈ft,x.1=y.2)/\(x.2=b3.n-1\/∃y∈ft,x.2=y.1))(com:∀w i j,R w n i j->Pt w (S++S0) (F++F0) b.n i (b3.n-1) j)(snd:∀(w:List Int) (A:Nat->Prop),∃(B:Nat->Nat->Prop) (E:Nat->Prop),(∀j,E j->∃i,A i/\R w n i j)/\
   (∀p r k,(p,r,k)∈S0->∀j,A j->hit w k j->E (j+1))/\
   (∀V:Nat->Nat->Prop,(∀j,A j->V b.n j)->(∀j,V b.n j->A j)->(∀j,E j->V (b3.n-1) j)->(∀(k:Nat) (x:Nat × Nat) m,ft[k]?=some x->ns[k]?=some m->(∀j,B k j->V x.1 j)/\∀j,V x.2 j->∃i,B k i/\R w m i j)->∀p r,(p,r)∈F0->∀j,V p j->V r j)) :
  ∃S F,Frg n b (b3.lead b.n (b3.n-1) ft n) b.n (b3.n-1) S F:=by
 have hn:=(b0Y b3 b.n (b3.n-1) ft n).1
 have hlt:∀y∈ft,b.n+1<=y.1/\y.1<b3.n-1/\b.n+1<=y.2/\y.2<b3.n-1:=fun y hy=>by
  obtain ⟨k,hk,h⟩:=List.getElem_of_mem hy
  exact f.lt k y (by rw[List.getElem?_eq_getElem hk,h])
 have fS:=f.eS
 have fF:=f.eF
 simp only at fS fF
 refine ⟨S++S0,F++F0,⟨by rw[hS,show b3.st=_ from f.st,List.append_assoc],by rw[hF,show b3.fr=_ from f.fr,List.append_assoc],by omega,by omega,fun x hx=>?_,fun x hx=>?_,com,fun w A=>?_⟩⟩
 ·rcases List.mem_append.1 hx with hx|hx
  ·have:=fS x hx; omega
  ·have:=eS x hx; omega
 ·rcases List.mem_append.1 hx with hx|hx
  ·have:=fF x hx; omega
  ·obtain ⟨h3,h4⟩:=eF x hx
   have h5:b.n<=x.1/\x.1<b3.n:=by
    rcases h3 with h3|⟨y,hy,h3⟩
    ·omega
    ·have:=hlt y hy; omega
   have h6:b.n<=x.2/\x.2<b3.n:=by
    rcases h4 with h4|⟨y,hy,h4⟩
    ·omega
    ·have:=hlt y hy; omega
   omega
 ·obtain ⟨B,E,s1,s2,s3⟩:=snd w A
  obtain ⟨V,v1,v2,v3⟩:=f.snd w B
  simp only at v1
  obtain ⟨U,hU⟩:∃U:Nat->Nat->Prop,U=fun q j=>(q=b.n/\A j)\/(q=b3.n-1/\E j)\/V q j:=⟨_,rfl⟩
  have u1:∀j,U b.n j->A j:=fun j h=>by
   rw[hU] at h
   rcases h with h|h|h
   ·exact h.2
   ·omega
   ·have:=v1 _ _ h; omega
  have u2:∀j,U (b3.n-1) j->E j:=fun j h=>by
   rw[hU] at h
   rcases h with h|h|h
   ·omega
   ·exact h.2
   ·have:=v1 _ _ h; omega
  have u3:∀q j,b.n+1<=q->q<b3.n-1->(U q j↔V q j):=fun q j h1 h2=>by
   rw[hU]
   constructor
   ·rintro (h|h|h)
    ·omega
    ·omega
    ·exact h
   ·exact fun h=>.inr (.inr h)
  have ua:∀j,A j->U b.n j:=fun j h=>by rw[hU]; exact .inl ⟨rfl,h⟩
  have ue:∀j,E j->U (b3.n-1) j:=fun j h=>by rw[hU]; exact .inr (.inl ⟨rfl,h⟩)
  refine ⟨U,fun q j h=>?_,⟨fun p r h j hv=>?_,fun p r k h j hv hh=>?_⟩,ua,fun j h=>s1 j (u2 j h)⟩
  ·rw[hU] at h
   rcases h with h|h|h
   ·omega
   ·omega
   ·have:=v1 _ _ h; omega
  ·rcases List.mem_append.1 h with h|h
   ·have:=fF _ h
    simp only at this
    rw[u3 p j (by omega) (by omega)] at hv
    rw[u3 r j (by omega) (by omega)]
    exact v2.1 p r h j hv
   ·refine s3 U ua u1 ue (fun k x m hk hm=>?_) p r h j hv
    obtain ⟨w1,w2⟩:=v3 k x m hk hm
    have hl:=f.lt k x hk
    simp only at hl
    exact ⟨fun j hj=>(u3 _ _ hl.1 hl.2.1).2 (w1 j hj),fun j hj=>w2 j ((u3 _ _ hl.2.2.1 hl.2.2.2).1 hj)⟩
  ·rcases List.mem_append.1 h with h|h
   ·have:=fS _ h
    simp only at this
    rw[u3 p j (by omega) (by omega)] at hv
    rw[u3 r (j+1) (by omega) (by omega)]
    exact v2.2 p r k h j hv hh
   ·have:=eS _ h
    simp only at this
    obtain ⟨rfl,rfl⟩:=this
    exact ue _ (s2 _ _ _ h j (u1 j hv) hh)
theorem Star.snd {r:Nat->Nat->Prop}{a i j:Nat}(h:Star r a i)(k:r i j):∃m,r a m/\Star r m j:=by
 rcases Star.iff.1 h with rfl|⟨m,h1,h2⟩
 ·exact ⟨j,k,.refl _⟩
 ·exact ⟨m,h1,.tail h2 k⟩
structure NfOk (nf:NF):Prop where
 s:nf.s<nf.n
 e:nf.e<nf.n
 st:∀x∈nf.st,x.1<nf.n/\x.2.1<nf.n
 fr:∀x∈nf.fr,x.1<nf.n/\x.2<nf.n
end Go.Gm
namespace Go.Gm
theorem a6a {x:Nat}:∀{l:List Nat} {i j:Nat},idxF x i l=some j->i<=j/\l[j-i]?=some x
 |[],i,j,h=>by simp[idxF] at h
 |y::l,i,j,h=>by
  rw[idxF] at h
  by_cases q:y=x
  ·rw[if_pos q] at h
   injection h with h
   subst h
   exact ⟨Nat.le_refl _,by simp[q]⟩
  ·rw[if_neg q] at h
   obtain ⟨h1,h2⟩:=a6a h
   exact ⟨by omega,by rw[show j-i=j-(i+1)+1 by omega]; simpa using h2⟩
abbrev nxtF (nf:NF)(s m:Nat):Nat:=cloF nf.n nf.fr (stpF nf.st s m)
def RowOk (nf:NF)(sets:List Nat)(s:Nat)(r:List Int)(m0 k:Nat):Prop:=r.length=k/\∀t,t<k->∃j:Nat,r[t]?=some (j:Int)/\sets[j]?=some (nxtF nf s (m0+t))
theorem z7_ {α:Type}{l e:List α}{j:Nat}{x:α}(h:l[j]?=some x):(l++e)[j]?=some x:=by
 rw[List.getElem?_append_left (List.getElem?_eq_some_iff.1 h).1]; exact h
theorem a5E {nf:NF}{lim s:Nat}:∀(k m:Nat) (sets:List Nat) (row:List Int) {sets':List Nat} {row':List Int},rowF nf lim s k m sets row=some (sets',row')->(∃e,sets'=sets++e)/\(∃r,row'=row++r/\RowOk nf sets' s r m k)/\(sets'.length<=sets.length\/sets'.length<=lim)
 |0,m,sets,row,sets',row',h=>by
  simp only[rowF,Option.some.injEq,Prod.mk.injEq] at h
  obtain ⟨rfl,rfl⟩:=h
  exact ⟨⟨[],by simp⟩,⟨[],by simp,rfl,fun t ht=>by omega⟩,.inl (Nat.le_refl _)⟩
 |k+1,m,sets,row,sets',row',h=>by
  simp only[rowF] at h
  split at h
  ·rename_i j hj
   obtain ⟨⟨e,h1⟩,⟨r,h2,h3,h4⟩,h5⟩:=a5E k (m+1) _ _ h
   obtain ⟨_,hj2⟩:=a6a hj
   rw[Nat.sub_zero] at hj2
   refine ⟨⟨e,h1⟩,⟨(j:Int)::r,by rw[h2]; simp,by simp[h3],fun t ht=>?_⟩,h5⟩
   cases t with
   |zero=>exact ⟨j,rfl,by rw[h1]; exact z7_ hj2⟩
   |succ t=>
    obtain ⟨j',k1,k2⟩:=h4 t (by omega)
    exact ⟨j',by simpa using k1,by rw[k2,show m+1+t=m+(t+1) by omega]⟩
  ·rename_i hj
   split at h
   ·cases h
   ·rename_i hl
    obtain ⟨⟨e,h1⟩,⟨r,h2,h3,h4⟩,h5⟩:=a5E k (m+1) _ _ h
    refine ⟨⟨nxtF nf s m::e,by rw[h1]; simp⟩,⟨(sets.length:Int)::r,by rw[h2]; simp,by simp[h3],fun t ht=>?_⟩,?_⟩
    ·cases t with
     |zero=>exact ⟨sets.length,rfl,by rw[h1]; exact z7_ (by simp)⟩
     |succ t=>
      obtain ⟨j',k1,k2⟩:=h4 t (by omega)
      exact ⟨j',by simpa using k1,by rw[k2,show m+1+t=m+(t+1) by omega]⟩
    ·rcases h5 with h5|h5
     ·simp only[List.length_append,List.length_cons,List.length_nil] at h5
      right; omega
     ·exact .inr h5
theorem RowOk.grow {nf:NF}{sets:List Nat}{s m0 k:Nat}{r:List Int}(h:RowOk nf sets s r m0 k)(e:List Nat):RowOk nf (sets++e) s r m0 k:=
 ⟨h.1,fun t ht=>by obtain ⟨j,h1,h2⟩:=h.2 t ht; exact ⟨j,h1,z7_ h2⟩⟩
structure SubI (nf:NF) (lim:Nat) (sets:List Nat) (D:List (List Int)) (acc:List Bool) (i:Nat):Prop where
 s0:sets[0]?=some (cloF nf.n nf.fr (2 ^ nf.s))
 ld:D.length=i
 la:acc.length=i
 il:i<=sets.length
 sl:sets.length<=1\/sets.length<=lim
 row:∀a s,a<i->sets[a]?=some s->∃r,D[a]?=some r/\RowOk nf sets s r 0 5/\acc[a]?=some (s.testBit nf.e)
theorem SubI.add {nf:NF}{lim i s:Nat}{sets sets':List Nat}{D:List (List Int)}{acc:List Bool}{row:List Int}(h:SubI nf lim sets D acc i)(hs:sets[i]?=some s)(hr:rowF nf lim s 5 0 sets []=some (sets',row)):SubI nf lim sets' (D++[row]) (acc++[s.testBit nf.e]) (i+1):=by
 obtain ⟨⟨e,rfl⟩,⟨r,h2,h3⟩,h4⟩:=a5E 5 0 sets [] hr
 rw[List.nil_append] at h2
 subst h2
 have hi:=(List.getElem?_eq_some_iff.1 hs).1
 refine ⟨z7_ h.s0,by simp[h.ld],by simp[h.la],by simp; omega,?_,fun a t ha ht=>?_⟩
 ·rcases h4 with h4|h4
  ·rcases h.sl with h5|h5
   ·left; omega
   ·right; omega
  ·exact .inr h4
 ·by_cases q:a=i
  ·subst q
   rw[z7_ hs] at ht
   injection ht with ht
   subst ht
   refine ⟨row,?_,h3,?_⟩
   ·rw[<-h.ld]; simp
   ·rw[<-h.la]; simp
  ·have h5:sets[a]?=some t:=by
    rw[List.getElem?_append_left (by omega)] at ht; exact ht
   obtain ⟨r',k1,k2,k3⟩:=h.row a t (by omega) h5
   exact ⟨r',z7_ k1,k2.grow e,z7_ k3⟩
section
variable {nf:NF} {w:List Int}
def Stn (nf:NF)(w:List Int)(s k:Nat):Prop:=∀q,s.testBit q=true↔Pt w nf.st nf.fr nf.s 0 q k
theorem Stn.zero (ok:NfOk nf):Stn nf w (cloF nf.n nf.fr (2 ^ nf.s)) 0:=by
 intro q
 have hb:∀p,(2 ^ nf.s).testBit p=true↔p=nf.s:=fun p=>by rw[Nat.testBit_two_pow]; simp[eq_comm]
 rw[a4Q (fun f hf=>(ok.fr f hf).2) (fun p hp=>by rw[(hb p).1 hp]; exact ok.s)]
 constructor
 ·intro h
  induction h with
  |here h=>rw[(hb _).1 h]; exact .refl
  |on _ h ih=>exact .free ih h
 ·intro h
  have:∀p j,Pt w nf.st nf.fr nf.s 0 p j->j=0->Rch nf.fr (2 ^ nf.s) p:=by
   intro p j h
   induction h with
   |refl=>exact fun _=>.here ((hb _).2 rfl)
   |free _ h ih=>exact fun e=>.on (ih e) h
   |step _ _ _ _=>intro e; omega
  exact this q 0 h rfl
theorem Stn.next (ok:NfOk nf){s k:Nat}{m:Nat}(h:Stn nf w s k)(hw:w[k]?=some (m:Int))(hm:m<5):Stn nf w (nxtF nf s m) (k+1):=by
 intro q
 have hs:∀p,(stpF nf.st s m).testBit p=true->p<nf.n:=fun p hp=>by
  obtain ⟨x,hx,_,_,rfl⟩:=a4R.1 hp
  exact (ok.st x hx).2
 rw[nxtF,a4Q (fun f hf=>(ok.fr f hf).2) hs]
 have hit:∀ks,hit w ks k↔ks.testBit m=true:=fun ks=>by
  constructor
  ·rintro ⟨c,h1,h2,h3,h4⟩
   rw[hw] at h1
   injection h1 with h1
   subst h1
   simpa using h4
  ·exact fun h4=>⟨m,hw,by omega,by omega,by simpa using h4⟩
 constructor
 ·intro hr
  induction hr with
  |here hp=>
   obtain ⟨⟨a,b,c⟩,hx,h1,h2,h3⟩:=a4R.1 hp
   simp only at h1 h2 h3
   subst h3
   exact .step ((h a).1 h1) hx ((hit c).2 h2)
  |on _ h ih=>exact .free ih h
 ·intro hp
  have:∀p j,Pt w nf.st nf.fr nf.s 0 p j->j=k+1->Rch nf.fr (stpF nf.st s m) p:=by
   intro p j hp
   induction hp with
   |refl=>intro e; omega
   |free _ h ih=>exact fun e=>.on (ih e) h
   |@step p r c j h1 h2 h3 _=>
    intro e
    obtain rfl:j=k:=by omega
    exact .here (a4R.2 ⟨(p,r,c),h2,(h p).2 h1,(hit c).1 h3,rfl⟩)
  exact this q _ hp rfl
end
end Go.Gm
