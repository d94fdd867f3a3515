/- A part of the proof (GmAQwk, GmEntry, GmRaw). -/
import Derived.OpenShut
import Derived.ChangeArms
import Derived.DataReads
import Derived.Test.YtldnkafmanalmaaProductWalksP11
set_option autoImplicit true
set_option relaxedAutoImplicit true
set_option linter.unusedVariables false
set_option linter.unusedSimpArgs false
set_option linter.unusedSectionVars false
namespace Go.Gm.AQ
open Go Go.Gm
theorem gd_ok:Gd n->Bd n->M5.Ok n/\M5.Wf n:=by
 refine Nd.ind (p:=λn=>Gd n->Bd n->M5.Ok n/\M5.Wf n) (λn ih g b=>?_) n
 have h1:∀c∈n.kids,M5.Ok c/\M5.Wf c:=λc hc=>ih c hc (g.kid c hc) (b.kid c hc)
 have rt:=g.rt
 have hst:n.st<2 ^ 62:=by cases b; assumption
 have hlh:n.lo<=n.hi/\n.hi<=100:=by
  cases n<;>simp only[Nd.lo,Nd.hi,RtN] at rt ⊢<;>omega
 exact ⟨.mk hst oM hlh.2 b.len λc hc=>(h1 c hc).1,.mk hlh.1 λc hc=>(h1 c hc).2⟩
structure WkC (hb:Heap) (on ox N v:Nat) (n:Nd) (s pk cA s5:AV) (es:List E) (zp:List Int) (D:List (List Int)) (acc:List Bool) (c:Nat->Int):Prop where
 no:NetOk N es
 co:COk es
 ok:DOk D acc
 le:es.length<=1000
 hv:v<N
 hE:Sl hb 4 s (es.map encE)
 hP:Sl hb 1 pk (zp.map encI)
 hC:Sl hb 1 cA ((costL N D.length c acc).map encI)
 rn:hb[on]?=some (.cells ⟨[I N,s],0,0,false⟩)
 rx:hb[ox]?=some (.cells ⟨[I n.kind,I n.st,I n.lo,I n.hi,s5],0,0,false⟩)
 nv:NV hb n [I n.kind,I n.st,I n.lo,I n.hi,s5]
 o5:s5.one=true
 g:Gd n
 bd:Bd n
 sz:(txt n).length<=200/\cst n+18<=900000/\dp n<=30
 lw:∀u:Nat,u<N->LW es v u (λw=>gi acc (goS D 0 w)=true) (bv c acc (u*D.length) D.length)
 lang:∀nf D0 acc0 w,nfaF n=some nf->subF nf 200=some (D0,acc0)->(∀m∈w,0<=m/\m<5)->In n w->gi acc (goS D 0 w)=true
section
variable {hb:Heap} {on ox N v:Nat} {n:Nd} {s pk cA s5:AV} {es:List E} {zp:List Int} {D:List (List Int)} {acc:List Bool} {c:Nat->Int}
structure WkI (hb:Heap) (es:List E) (v:Nat) (l:List Nat) (w:AV) (ow:Nat) (h:Heap):Prop where
 fr:FrS (λo=>hb.length<=o) hb h
 gw:Gr ow (ow+1) h 1 w ((wdOf es l).map encI)
 pw:w≠.nils->hb.length<=ow/\ow<h.length
 wk:OkW es v l
theorem WkI.ex (a:WkI hb es v l w ow h):Ext hb h:=a.fr.ext (Ext.refl _) λo o1 o2=>oM
theorem c9L (C:WkC hb on ox N v n s pk cA s5 es zp D acc c){ow i:Nat}(a:WkI hb es v l w ow h)(hl:l.length=i)(hi:i<12)(hip:i<zp.length)(ho:Sl h 1 out ((idxTo (λe=>e.fr == atV es v l) es es.length).map encI))(hQ:∀l' w' ow' h',WkI hb es v l' w' ow' h'->l'.length=i+1->WP (λp:Nat × Nat=>u4_ p.1 p.2 pk (.ptr on 0 2 0) (.ptr ox 0 5 0) cA w' (I (atV es v l')) (I (atC es l')) (I ((i:Int)+1)) h') λr _=>r=.bool true) :
  WP (λp:Nat × Nat=>a1O p.1 p.2 pk (.ptr on 0 2 0) (.ptr ox 0 5 0) cA w (I (atC es l)) (I i) out h) λr _=>r=.bool true:=by
 refine WP.congr (λp=>b3j p.1 p.2 ..) ?_
 obtain ⟨os,hos⟩:∃os,os=idxTo (λe=>e.fr == atV es v l) es es.length:=⟨_,rfl⟩
 have hol:os.length<=es.length:=by rw[hos]; exact o0_ ..
 have hom:∀k∈os,0<=k/\k<es.length/\(gi es k).fr=atV es v l:=λk hk=>by
  rw[hos] at hk
  obtain ⟨k0,k1,k2⟩:=q8_.1 hk
  exact ⟨k0,k1,by simpa using k2⟩
 rw[<-hos] at ho
 clear hos
 have lE:=C.le
 have ex:=a.ex
 have rn:=ex.get C.rn
 by_cases q:os.length=0
 ·refine g2 ho.lenG @q ?_
  exact WP.ret rfl
 ·have hP:=C.hP.ext ex
  have hE:=C.hE.ext ex
  have e0:=Ext.refl h
  refine g5 ho.lenG @rn hP.idxG hP.ld0 @encI.eq_1 ?_
  refine WP.call (g1_ oM (by unfold Fit; omega) _) ?_
  rintro _ _ ⟨rfl,rfl⟩
  obtain ⟨k,hk⟩:∃k:Nat,gi zp (i:Int) % (os.length:Int)=k:=⟨(gi zp (i:Int) % (os.length:Int)).toNat,by have:=Int.emod_nonneg (gi zp (i:Int)) (show (os.length:Int)≠0 by omega); omega⟩
  have hkl:k<os.length:=by have:=Int.emod_lt_of_pos (gi zp (i:Int)) (show (0:Int)<os.length by omega); omega
  rw[hk]
  obtain ⟨m0,m1,m2⟩:=hom _ (b7_ (xs:=os) (i:=(k:Int)) oM oM)
  obtain ⟨e,he⟩:∃e:Nat,gi os (k:Int)=e:=⟨(gi os (k:Int)).toNat,oM⟩
  rw[he] at m0 m1 m2
  obtain ⟨h1,hh1⟩:∃h1,h1=h++[AObj.cells ⟨[I 0,I 0,I 0,I 0],0,0,false⟩]:=⟨_,rfl⟩
  have e1:Ext h h1:=by rw[hh1]; exact Ext.push _ _
  have l1:h1.length=h.length+1:=by rw[hh1]; simp
  have re1:h1[h.length]?=some (.cells ⟨[I 0,I 0,I 0,I 0],0,0,false⟩):=by rw[hh1]; simp
  have rn1:=e1.get rn
  have ho1:=ho.ext e1
  have hE1:=hE.ext e1
  obtain ⟨x,hx⟩:∃x,gi es (e:Int)=x:=⟨_,rfl⟩
  have xr:0<=x.fr/\x.fr<N/\0<=x.to/\x.to<N/\0<=x.md/\x.md<5:=by rw[<-hx]; exact C.no.edge _ (b7_ oM m1)
  have xc:0<=x.co/\x.co<=2147483647:=by rw[<-hx]; exact C.co.c _ (b7_ oM m1)
  have hac:=a8v C.co l a.wk.mem 0
  replace hac:0<=atC es l/\atC es l<=0+l.length*2147483647:=hac
  have hcl:atC es l<=12*2147483647:=by
   have:(l.length:Int)*2147483647<=12*2147483647:=oM
   omega
  rw[<-hh1]
  refine g10 @rn1 ho1.idxG ho1.ld0 @he hE1.idxG hE1.ldN @encI.eq_1 @hx @encE.eq_1 @re1 ?_
  obtain ⟨h2,hh2⟩:∃h2,h2=h1.set h.length (.cells ⟨[I x.fr,I x.to,I x.md,I x.co],0,0,false⟩):=⟨_,rfl⟩
  have e2:Ext h h2:=by rw[hh2]; exact e1.setr (Nat.le_refl _) _
  have l2:h2.length=h.length+1:=by rw[hh2]; simp[l1]
  have re2:h2[h.length]?=some (.cells ⟨[I x.fr,I x.to,I x.md,I x.co],0,0,false⟩):=by rw[hh2]; exact a0_ oM
  rw[<-hh2]
  obtain ⟨w3,h3,o3,k1,k2,k3,k4⟩:=app1I (a.gw.ext e2) (λz=>by have:=(a.pw z).2; omega) (by simp[wdOf]; omega) x.md
  have l3:=k4.len
  have la:=a.fr.len
  have re3:h3[h.length]?=some (.cells ⟨[I x.fr,I x.to,I x.md,I x.co],0,0,false⟩):=by
   rw[k4.get (λz=>by have:=(a.pw z.1).2; omega) oM]; exact re2
  have f3:FrS (λo=>hb.length<=o) hb h3:=(a.fr.trans (FrS.ofExt e2)).trans (k4.mono λo _ z=>by have:=(a.pw z.1).1; omega)
  have ex3:Ext hb h3:=f3.ext (Ext.refl _) λo o1 o2=>oM
  have rx3:=ex3.get C.rx
  have o5:=C.o5
  have he':e<es.length:=oM
  have wk':OkW es v (l++[e]):=a.wk.snoc he' (show (eg es e).fr=_ from m2)
  have hto:atV es v (l++[e])=x.to:=by rw[q6_]; show (gi es (e:Int)).to=_; rw[hx]
  have hco:atC es (l++[e])=atC es l+x.co:=by rw[w8_]; show _+(gi es (e:Int)).co=_; rw[hx]
  have hwd:wdOf es (l++[e])=wdOf es l++[x.md]:=by
   simp only[wdOf,List.map_append,List.map_cons,List.map_nil]
   show _++[(gi es (e:Int)).md]=_
   rw[hx]
  have hnx:∀H,Ext h3 H->WP (λp:Nat × Nat=>a1P p.1 p.2 pk (.ptr on 0 2 0) (.ptr ox 0 5 0) cA w3 (I x.to) (I (atC es l+x.co)) (I i) H) λr _=>r=.bool true:=λH eH=>by
   refine WP.congr (λp=>b3i p.1 p.2 ..) ?_
   refine g0 ?_
   have lH:=eH.len
   have:=hQ (l++[e]) w3 o3 H ⟨f3.trans (FrS.ofExt eH),by rw[hwd]; exact k2.ext eH,λz=>?_,wk'⟩ (by simp[hl])
   ·rw[hto,hco] at this
    exact this
   ·have:=k3 z
    refine ⟨?_,oM⟩
    rcases this.1 with ⟨z1,z2⟩|z1
    ·have:=(a.pw z2).1; omega
    ·omega
  rw[show h1.length=h2.length by omega]
  refine g3 @k1 @re3 @rx3 ?_
  have nv3:=C.nv.keeps (Keeps.ofExt ex3)
  obtain ⟨z1,z2,z3⟩:=C.sz
  refine WP.call (a9O _ C.g C.bd h3 _ nv3 oM) ?_
  rintro r h4 ⟨e4,rfl⟩
  refine WP.call (y9_ (by rw[q7_]; exact z1) z2 (a6T C.g z3) C.g C.bd h4) ?_
  rintro r h5 ⟨e5,q5⟩
  have e35:=e4.trans e5
  have rx5:=e35.get rx3
  have bx5:=(List.getElem?_eq_some_iff.1 rx5).1
  unfold CmpQ at q5
  cases hnf:nfaF n with
  |none=>
   rw[hnf] at q5
   obtain rfl:=q5
   refine g2 @a4_ @a5_ ?_
   exact hnx _ (e35.trans eX)
  |some nf=>
   cases hsb:subF nf 200 with
   |none=>
    simp only[hnf,hsb] at q5
    obtain rfl:=q5
    refine g2 @a4_ @a5_ ?_
    exact hnx _ (e35.trans eX)
   |some p=>
    obtain ⟨D0,acc0⟩:=p
    simp only[hnf,hsb] at q5
    obtain ⟨vv,rfl,D',acc',sD,sA,rfl,gD,gcc,ok',-,-⟩:=q5
    have o1:=gD.sl.one
    have o2:=gcc.sl.one
    refine g4 @a4_ @a5_ @o1 @o2 ?_
    obtain ⟨h6,hh6⟩:∃h6,h6=(h5++[AObj.cells ⟨[.nils,.nils],0,0,false⟩]).set h5.length (AObj.cells ⟨[sD,sA],0,0,false⟩):=⟨_,rfl⟩
    have e6:Ext h5 h6:=by rw[hh6]; exact eX
    rw[<-hh6]
    have rx6:=e6.get rx5
    have e36:=e35.trans e6
    have ex6:=ex3.trans e36
    obtain ⟨M1,M2⟩:=gd_ok C.g C.bd
    refine g1 @rx5 ?_
    refine WP.call (M5.rmatch_spec (C.nv.keeps (Keeps.ofExt ex6)) M1 M2 (k2.ext e36).sl (by simp[wdOf]; omega)) ?_
    rintro _ h7 ⟨e7,b,rfl,hb⟩
    cases b with
    |false=>
     refine g0 ?_
     exact hnx _ (e36.trans e7)
    |true=>
     have hin:=hb.1 rfl
     rw[<-hwd] at hin
     have hacc:=C.lang nf D0 acc0 _ hnf hsb (OkW.md C.no wk') hin
     obtain ⟨u,hu⟩:∃u:Nat,x.to=u:=⟨x.to.toNat,oM⟩
     have huN:u<N:=oM
     obtain ⟨c0,c1⟩:=(C.lw u huN).le _ wk' (by rw[hto,hu]) hacc
     rw[hco] at c1
     have hcl':=i0_ N D.length c acc
     have hcg:=j6_ (S:=D.length) (c:=c) (acc:=acc) huN
     have hC7:=C.hC.ext (ex6.trans e7)
     obtain ⟨B,hB⟩:∃B,bv c acc (u*D.length) D.length=B:=⟨_,rfl⟩
     rw[hB] at c0 c1 hcg
     rw[hu]
     rw[hu] at hnx
     have e0':=Ext.refl h7
     refine g5 hC7.idxG hC7.ld0 @hcl' @hcg @encI.eq_1 ?_
     exact hnx _ (e36.trans e7)
theorem c9M (C:WkC hb on ox N v n s pk cA s5 es zp D acc c){ow i:Nat}(a:WkI hb es v l w ow h1)(hl:l.length=i)(hi:i<12)(hip:i<zp.length)(hQ:∀l' w' ow' h',WkI hb es v l' w' ow' h'->l'.length=i+1->WP (λp:Nat × Nat=>u4_ p.1 p.2 pk (.ptr on 0 2 0) (.ptr ox 0 5 0) cA w' (I (atV es v l')) (I (atC es l')) (I ((i:Int)+1)) h') λr _=>r=.bool true) :
  ∀(d k:Nat) (h:Heap) (out:AV) (oo:Nat),k+d=es.length->FrS (λo=>h1.length<=o) h1 h->Gr oo (oo+1) h 1 out ((idxTo (λe=>e.fr == atV es v l) es k).map encI)->(out≠.nils->h1.length<=oo/\oo<h.length)->
   WP (λp:(Nat × Nat) × Nat=>k8_ p.1.1 p.1.2 p.2 pk (.ptr on 0 2 0) (.ptr ox 0 5 0) cA w (I (atV es v l)) (I (atC es l)) (I i) out (I k) h) λr _=>r=.bool true:=by
 have lE:=C.le
 intro d
 induction d with
 |zero=>
  intro k h out oo hk f g po
  refine WP.rnd (λi' j=>b3k i'.1 i'.2 j ..) ?_
  obtain rfl:k=es.length:=oM
  have e1:=f.ext (Ext.refl _) λo o1 o2=>oM
  have ex:=a.ex.trans e1
  have rn:=ex.get C.rn
  have hE:=C.hE.ext ex
  refine g2 @rn hE.lenG ?_
  have a':WkI hb es v l w ow h:=⟨a.fr.trans (f.mono λo _ z=>by have:=a.fr.len; omega),a.gw.ext e1,λz=>by have:=a.pw z; have:=e1.len; omega,a.wk⟩
  exact WP.lv (c9L C a' hl hi hip g.sl hQ) λi j=>rfl
 |succ d ih=>
  intro k h out oo hk f g po
  refine WP.rnd (λi' j=>b3k i'.1 i'.2 j ..) ?_
  have e1:=f.ext (Ext.refl _) λo o1 o2=>oM
  have ex:=a.ex.trans e1
  have rn:=ex.get C.rn
  have hE:=C.hE.ext ex
  have e0:=Ext.refl h
  have hsucc:=a5K (λe=>e.fr == atV es v l) es k
  by_cases q:(gi es (k:Int)).fr=atV es v l
  ·have hil:=o0_ (λe=>e.fr == atV es v l) es k
   obtain ⟨s',h',o',k1,k2,k3,k4⟩:=app1I g (λz=>(po z).2) oM (k:Int)
   have hl1:=f.len
   have hl2:=k4.len
   refine g7 @rn hE.lenG hE.idxG hE.ldf @encE.eq_1 @q @k1 ?_
   refine ih (k+1) h' s' o' oM (f.trans (k4.mono λo _ z=>by have:=(po z.1).1; omega)) (k2.cong ?_) (λz=>?_)
   ·rw[hsucc,if_pos (by simpa using q)]
   ·rcases (k3 z).1 with ⟨z1,z2⟩|z1
    ·have:=(po z2).1; exact ⟨oM,(k3 z).2⟩
    ·exact ⟨oM,(k3 z).2⟩
  ·have q':¬(gi es (k:Int)).fr=atV es v l:=q
   refine g5 @rn hE.lenG hE.idxG hE.ldf @encE.eq_1 ?_
   refine ih (k+1) h out oo oM f (g.cong ?_) po
   rw[hsucc,if_neg (by simpa using q),List.append_nil]
theorem c9N (C:WkC hb on ox N v n s pk cA s5 es zp D acc c) :
  ∀(d i:Nat) (h:Heap) (l:List Nat) (w:AV) (ow:Nat),i+d=12->WkI hb es v l w ow h->l.length=i->
   WP (λp:Nat × Nat=>u4_ p.1 p.2 pk (.ptr on 0 2 0) (.ptr ox 0 5 0) cA w (I (atV es v l)) (I (atC es l)) (I i) h) λr _=>r=.bool true:=by
 intro d
 induction d with
 |zero=>
  intro i h l w ow hi a hl
  refine WP.rnd (b3l · · ..) ?_
  obtain rfl:i=12:=oM
  have hP:=C.hP.ext a.ex
  by_cases q:(12:Nat)<zp.length
  ·refine g1 hP.lenG ?_
   exact WP.ret rfl
  ·refine g1 hP.lenG ?_
   exact WP.ret rfl
 |succ d ih=>
  intro i h l w ow hi a hl
  refine WP.rnd (b3l · · ..) ?_
  have hP:=C.hP.ext a.ex
  by_cases q:i<zp.length
  ·refine g1 hP.lenG ?_
   exact WP.ent (c9M C a hl oM q (λl' w' ow' h' a' hl'=>ih (i+1) h' l' w' ow' oM a' hl') es.length 0 h .nils h.length oM (FrS.refl _ _) (Gr.nil ..) (λz=>absurd rfl z)) λi=>rfl
  ·refine g1 hP.lenG ?_
   exact WP.ret rfl
theorem pwalks_spec {h:Heap}{size modes frm:Int}{ns ls pk:AV}{zs zp:List Int}{l:List Rw}{css:List (List AV)}(hns:Sl h 1 ns (zs.map encI))(hs:Sl h 3 ls css)(hr:RVs h l css)(hP:Sl h 1 pk (zp.map encI)) :
  Tot tab h5_ [I size,ns,I modes,ls,I frm,pk] h fun r _=>r=.bool true:=by
 refine WP.tot (fun k=>b4s k ..) ?_
 refine WP.call (a4p h) ?_
 rintro _ h1 ⟨rfl,e1⟩
 simp -implicitDefEqProofs (maxSteps:=1000000) (disch:=first|assumption|omega|(simp only[gL]<;>omega)|((repeat (first|exact Ext.refl _|assumption|apply Ext.app|apply Ext.mk|(refine Ext.setr ?_ (by (first|omega|(simp only[gL]<;>omega))) _))); done)|(simp only[gL,gA]<;>omega)|fail) only[gB,setAll,partL,fldV,reduceIte,Nat.reduceAdd,Nat.reduceMul]
 refine WP.call (a9e (hs.ext e1) (hr.ext e1)) ?_
 rintro _ _ ⟨rfl,rfl⟩
 by_cases hf:szF 7 l<=14
 ·rw[decide_eq_true hf]
  simp -implicitDefEqProofs (maxSteps:=1000000) (disch:=first|assumption|omega|(simp only[gL]<;>omega)|((repeat (first|exact Ext.refl _|assumption|apply Ext.app|apply Ext.mk|(refine Ext.setr ?_ (by (first|omega|(simp only[gL]<;>omega))) _))); done)|(simp only[gL,gA]<;>omega)|fail) only[gB,setAll,partL,fldV,reduceIte,Nat.reduceAdd,Nat.reduceMul]
  refine WP.call (a0B (hns.ext e1)) ?_
  rintro _ h2 ⟨e2,s,rfl,g2⟩
  have no:=a5H size zs modes
  have co:=a5I size zs modes
  have hl:=a8w size zs modes
  have hN:=u3_ size
  obtain ⟨N,hNN⟩:∃N:Nat,mkN size=N:=⟨(mkN size).toNat,by omega⟩
  rw[hNN] at no hN
  rw[hNN]
  generalize mkE size zs modes=es at no co hl g2
  have gs:=g2.sl
  have e12:=e1.trans e2
  refine WP.call (a9M (hs.ext e12) (hr.ext e12)) ?_
  rintro r h3 ⟨e3,c5,rfl,nv⟩
  obtain ⟨g,bd⟩:=b6v l
  have sz:=c5b l hf
  generalize hn:oneN l=n at nv g bd sz
  obtain ⟨s5,rfl,o5⟩:=nv.inv
  have nv':=nv.nv
  simp -implicitDefEqProofs (maxSteps:=1000000) (disch:=first|assumption|omega|(simp only[gL]<;>omega)|((repeat (first|exact Ext.refl _|assumption|apply Ext.app|apply Ext.mk|(refine Ext.setr ?_ (by (first|omega|(simp only[gL]<;>omega))) _))); done)|(simp only[gL,gA,gs.one,gs.cells,o5]<;>omega)|fail) only[gB,setAll,partL,fldV,reduceIte,Nat.reduceAdd,Nat.reduceMul,gs.one,gs.cells,o5]
  obtain ⟨h4,hh4⟩:∃h4,h4=(List.set (h3++[AObj.cells ⟨[AV.int .i64 0,.nils],0,0,false⟩]++[AObj.cells ⟨[AV.int .i64 0,AV.int .i64 0,AV.int .i64 0,AV.int .i64 0,.nils],0,0,false⟩]) h3.length (AObj.cells ⟨[I N,s],0,0,false⟩)).set (h3.length+1) (AObj.cells ⟨[I n.kind,I n.st,I n.lo,I n.hi,s5],0,0,false⟩):=⟨_,rfl⟩
  have e4:Ext h3 h4:=by rw[hh4]; ((repeat (first|exact Ext.refl _|assumption|apply Ext.app|apply Ext.mk|(refine Ext.setr ?_ (by (first|omega|(simp only[gL]<;>omega))) _))))
  have rn:h4[h3.length]?=some (.cells ⟨[I N,s],0,0,false⟩):=by rw[hh4]; simp -implicitDefEqProofs (maxSteps:=1000000) (disch:=first|assumption|omega|(simp only[gL]<;>omega)|((repeat (first|exact Ext.refl _|assumption|apply Ext.app|apply Ext.mk|(refine Ext.setr ?_ (by (first|omega|(simp only[gL]<;>omega))) _))); done)|(simp only[gL,gA]<;>omega)|fail) only[gB,setAll,partL,fldV,reduceIte,Nat.reduceAdd,Nat.reduceMul]
  have rx:h4[h3.length+1]?=some (.cells ⟨[I n.kind,I n.st,I n.lo,I n.hi,s5],0,0,false⟩):=by rw[hh4]; simp -implicitDefEqProofs (maxSteps:=1000000) (disch:=first|assumption|omega|(simp only[gL]<;>omega)|((repeat (first|exact Ext.refl _|assumption|apply Ext.app|apply Ext.mk|(refine Ext.setr ?_ (by (first|omega|(simp only[gL]<;>omega))) _))); done)|(simp only[gL,gA]<;>omega)|fail) only[gB,setAll,partL,fldV,reduceIte,Nat.reduceAdd,Nat.reduceMul]
  rw[<-hh4]
  have e34:=e3.trans e4
  refine WP.call (a5Z ((hs.ext e12).ext e34) ((hr.ext e12).ext e34) hf) ?_
  rintro _ h5 ⟨e5,D,acc,sD,sA,rfl,yD,yA,ok,lD,lang⟩
  rw[hn] at lang
  have zD:=yD.sl
  have zA:=yA.sl
  have rn5:=e5.get rn
  have bn5:=(List.getElem?_eq_some_iff.1 rn5).1
  simp -implicitDefEqProofs (maxSteps:=1000000) (disch:=first|assumption|omega|(simp only[gL]<;>omega)|((repeat (first|exact Ext.refl _|assumption|apply Ext.app|apply Ext.mk|(refine Ext.setr ?_ (by (first|omega|(simp only[gL]<;>omega))) _))); done)|(simp only[gL,gA,zD.one,zD.cells,zA.one,zA.cells,rn5]<;>omega)|fail) only[gB,setAll,partL,fldV,reduceIte,Nat.reduceAdd,Nat.reduceMul,zD.one,zD.cells,zA.one,zA.cells,rn5]
  obtain ⟨h6,hh6⟩:∃h6,h6=(h5++[AObj.cells ⟨[.nils,.nils],0,0,false⟩]).set h5.length (AObj.cells ⟨[sD,sA],0,0,false⟩):=⟨_,rfl⟩
  have e6:Ext h5 h6:=by rw[hh6]; ((repeat (first|exact Ext.refl _|assumption|apply Ext.app|apply Ext.mk|(refine Ext.setr ?_ (by (first|omega|(simp only[gL]<;>omega))) _))))
  have rd6:h6[h5.length]?=some (.cells ⟨[sD,sA],0,0,false⟩):=by rw[hh6]; simp -implicitDefEqProofs (maxSteps:=1000000) (disch:=first|assumption|omega|(simp only[gL]<;>omega)|((repeat (first|exact Ext.refl _|assumption|apply Ext.app|apply Ext.mk|(refine Ext.setr ?_ (by (first|omega|(simp only[gL]<;>omega))) _))); done)|(simp only[gL,gA]<;>omega)|fail) only[gB,setAll,partL,fldV,reduceIte,Nat.reduceAdd,Nat.reduceMul]
  rw[<-hh6]
  refine WP.call (g1_ (by omega) (by unfold Fit; omega) _) ?_
  rintro _ _ ⟨rfl,rfl⟩
  obtain ⟨v,hv⟩:∃v:Nat,frm % (N:Int)=v:=⟨(frm % (N:Int)).toNat,by have:=Int.emod_nonneg frm (show (N:Int)≠0 by omega); omega⟩
  have hvN:v<N:=by have:=Int.emod_lt_of_pos frm (show (0:Int)<N by omega); omega
  rw[hv]
  have hn2:N*D.length<=1000000:=by
   have:N*D.length<=12*200:=Nat.mul_le_mul (by omega) lD
   omega
  have e26:=(e34.trans e5).trans e6
  have hE:=g2.ext e26 |>.sl
  have rn6:=e6.get rn5
  simp -implicitDefEqProofs (maxSteps:=1000000) (disch:=first|assumption|omega|(simp only[gL]<;>omega)|((repeat (first|exact Ext.refl _|assumption|apply Ext.app|apply Ext.mk|(refine Ext.setr ?_ (by (first|omega|(simp only[gL]<;>omega))) _))); done)|(simp only[gL,gA,rn6,rd6]<;>omega)|fail) only[gB,setAll,partL,fldV,reduceIte,Nat.reduceAdd,Nat.reduceMul,rn6,rd6]
  refine WP.call (a2G no co hn2 hE ok (zD.ext e6) (zA.ext e6) hvN) ?_
  rintro ra h7 ⟨e7,c,lc,g7⟩
  have rn7:=e7.get rn6
  have hcl:=i0_ N D.length c acc
  have g7s:=g7.sl
  have e47:=(e5.trans e6).trans e7
  simp -implicitDefEqProofs (maxSteps:=1000000) (disch:=first|assumption|omega|(simp only[gL]<;>omega)|((repeat (first|exact Ext.refl _|assumption|apply Ext.app|apply Ext.mk|(refine Ext.setr ?_ (by (first|omega|(simp only[gL]<;>omega))) _))); done)|(simp only[gL,gA,rn7,g7s.lenG,hcl]<;>omega)|fail) only[gB,setAll,partL,fldV,reduceIte,Nat.reduceAdd,Nat.reduceMul,rn7,g7s.lenG,hcl]
  have hlang:∀nf D0 acc0 w,nfaF n=some nf->subF nf 200=some (D0,acc0)->(∀m∈w,0<=m/\m<5)->In n w->gi acc (goS D 0 w)=true:=fun nf D0 acc0 w h1 h2 h3 h4=>by
   rcases lang with ⟨nf',D1,acc1,k1,k2,k3⟩|⟨k1,_,_⟩
   ·rw[h1] at k1
    obtain rfl:=Option.some.inj k1
    rw[h2] at k2
    obtain ⟨rfl,rfl⟩:=Prod.mk.inj (Option.some.inj k2)
    rw[<-k3 w h3]
    exact (c0T g h1 h2 h3).2 h4
   ·rw[k1 nf h1] at h2; cases h2
  have hC:WkC h7 h3.length (h3.length+1) N v n s pk ra s5 es zp D acc c:=⟨no,co,ok,by omega,hvN,hE.ext e7,((hP.ext e12).ext e34).ext e47,g7s,rn7,e47.get rx,nv'.keeps (Keeps.ofExt (e4.trans e47)),o5,g,bd,sz,fun u hu=>bv_lw ok no hvN hu lc,hlang⟩
  exact WP.ent (c9N hC 12 0 h7 [] .nils h7.length (by omega) ⟨FrS.refl _ _,Gr.nil ..,fun z=>absurd rfl z,fun i e z=>by simp at z⟩ rfl) fun i=>rfl
 ·rw[decide_eq_false hf]
  simp -implicitDefEqProofs (maxSteps:=1000000) (disch:=first|assumption|omega|(simp only[gL]<;>omega)|((repeat (first|exact Ext.refl _|assumption|apply Ext.app|apply Ext.mk|(refine Ext.setr ?_ (by (first|omega|(simp only[gL]<;>omega))) _))); done)|(simp only[gL,gA]<;>omega)|fail) only[gB,setAll,partL,fldV,reduceIte,Nat.reduceAdd,Nat.reduceMul]
  exact WP.ret rfl
end
end Go.Gm.AQ
namespace Go.Gm
open Go.RowKit
def roObj (cs:List AV):AObj:=.cells ⟨cs,0,0,true⟩
def initH (L:List (List AV × Option Loc)):Heap:=L.map λp=>roObj p.1
def initR (L:List (List AV × Option Loc)):Ren:=⟨λo g=>if g=0 then (L[o]?).bind (·.2) else none,λ_=>none⟩
def EntOk (W:World)(φ:Ren)(p:List AV × Option Loc):Prop:=∀l,p.2=some l->∃C e fr,W.heap[l.b]?=some (.cells C e fr)/\C.size=l.N/\l.n=p.1.length/\CellsAt φ p.1 l C
theorem initS {L:List (List AV × Option Loc)}(hL:∀p∈L,EntOk W (initR L) p) :
  S W.heap.size W (initR L) (initH L) W:=by
 have got:∀o g l,(initR L).c o g=some l->g=0/\∃cs,L[o]?=some (cs,some l):=λo g l h=>by
  simp only[initR] at h
  split at h
  ·rename_i hg
   cases hq:L[o]? with
   |none=>rw[hq] at h; cases h
   |some p=>rw[hq] at h; exact ⟨hg,p.1,by rw[<-(show p.2=some l from h)]⟩
  ·cases h
 have ro:∀o g l,(initR L).c o g=some l->isRo (initH L) o=true:=λo g l h=>by
  obtain ⟨_,cs,hq⟩:=got o g l h
  simp[isRo,initH,hq,roObj]
 refine ⟨⟨λo g l h=>?_,λo b h=>(by cases h),λo g l o' g' l' h h' _=>.inr ⟨ro o g l h,ro o' g' l' h'⟩,λo b o' b' h=>(by cases h)⟩,Below.refl _ _,Nat.le_refl _⟩
 obtain ⟨hg,cs,hq⟩:=got o g l h
 subst hg
 obtain ⟨C,e,fr,h1,h2,h3,h4⟩:=hL _ (List.mem_of_getElem? hq) l rfl
 exact ⟨⟨cs,0,0,true⟩,by simp[initH,hq,roObj],Nat.le_refl _,Nat.le_refl _,⟨C,e,fr,h1,h2,λq=>(by cases q),λ_=>h4⟩,λ_=>h3⟩
theorem entry (hv:Valid P T){L:List (List AV × Option Loc)}(hL:∀p∈L,EntOk W (initR L) p)(ha:VRs (initR L) args args')(ht:Tot T f args (initH L) Q)(hq:∀v h,Q v h->v=.bool true) :
  Calls P f args'.toArray W λe w'=>e=.returned (.bool true)/\Below W.heap.size W w':=by
 obtain ⟨v,h',h1,N,hN⟩:=ht
 have hv1:=hq v h' h1
 subst hv1
 obtain ⟨_,h2⟩:=fnSim (B:=W.heap.size) (w0:=W) hv N f args (initH L) _ _ (hN N (Nat.le_refl N))
 refine (h2 _ W args' ha (initS hL)).mono ?_
 rintro e w' ⟨ψ,v',rfl,k1,k2,k3⟩
 cases k1
 exact ⟨rfl,k2.below⟩
theorem intsArg {W:World}{a:Addr}{len cap:Nat}{zs:List Int}(hl:len<=cap)(hm:cap<=maxLen)(hz:zs.length=cap)(hc:∀i,i<zs.length->W.cell? (a.add i)=some (.int .i64 (zs.getD i 0)))(o:Nat) :
  ∃(p:List AV × Option Loc) (x:AV),(∀φ,EntOk W φ p)/\∀L:List (List AV × Option Loc),L[o]?=some p->VR (initR L) x (.slice (some a) len cap)/\Sl (initH L) 1 x ((zs.take len).map fun n=>[I n]):=by
 by_cases h0:0<zs.length
 ·obtain ⟨b,off,rfl,hcell⟩:=Go.ints_at hc h0
  have h1:=hcell 0 h0
  obtain ⟨C,e,fr,hb,hC⟩:∃C e fr,W.heap[b]?=some (.cells C e fr)/\∀j,j<zs.length->C[off+j]?=some (.int .i64 (zs.getD j 0)):=by
   simp only[World.cell?] at h1
   cases hh:W.heap[b]? with
   |none=>rw[hh] at h1; cases h1
   |some ob=>
    cases ob with
    |cells C e fr=>
     refine ⟨C,e,fr,rfl,fun j hj=>?_⟩
     have:=hcell j hj
     simpa [World.cell?,hh] using this
    |_=>rw[hh] at h1; cases h1
  have hN:off+cap<=C.size:=by
   have:=(Array.getElem?_eq_some_iff.1 (hC (zs.length-1) (by omega))).1
   omega
  refine ⟨(zs.map I,some ⟨b,off,C.size,cap⟩),.sl o 0 len 1 (some cap) 0,fun φ l hl'=>?_,fun L hL=>⟨?_,?_⟩⟩
  ·injection hl' with hl'
   subst hl'
   refine ⟨C,e,fr,hb,rfl,by simp[hz],by simp[hz],hN,fun i hi=>?_⟩
   refine ⟨I (zs.getD i 0),_,?_,hC i (by simpa [hz] using hi),.int _ _,rfl⟩
   simp only at hi
   simp[List.getD_eq_getElem?_getD,hz,hi]
  ·refine VR.sl (l:=⟨b,off,C.size,cap⟩) ?_ (by simp; exact hl) hl hm (by simp; exact hN) (fun c q=>by injection q)
   simp[initR,hL]
  ·refine .inr ⟨o,0,some cap,0,⟨zs.map I,0,0,true⟩,?_,?_,Nat.le_refl _,?_,?_⟩
   ·simp[hz,Nat.min_eq_left hl]
   ·simp[initH,hL,roObj]
   ·simp only[List.drop_zero,List.length_map,Nat.mul_one]
    rw[List.length_take,hz,Nat.min_eq_left hl,<-List.map_take]
    generalize zs.take len=ys
    induction ys with
    |nil=>rfl
    |cons y ys ih=>simp[ih]
   ·intro x hx
    simp only[List.mem_map] at hx
    obtain ⟨n,_,rfl⟩:=hx
    rfl
 ·have hz0:zs=[]:=List.eq_nil_of_length_eq_zero (by omega)
  subst hz0
  simp only[List.length_nil] at hz
  subst hz
  obtain rfl:len=0:=by omega
  refine ⟨([],none),.sl o 0 0 1 (some 0) 0,fun φ l q=>(by cases q),fun L hL=>⟨.sl0 (fun q=>by cases q) (fun c q=>by injection q with q; exact q.symm),?_⟩⟩
  exact .inr ⟨o,0,some 0,0,⟨[],0,0,true⟩,rfl,by simp[initH,hL,roObj],Nat.le_refl _,rfl,fun x hx=>by simp at hx⟩
theorem rowArg {W:World}{a:Option Addr}{len cap:Nat}{zs:List Int}(w:(a=none/\len=0/\cap=0/\zs=[])\/∃x,a=some x/\len<=cap/\cap<=maxLen/\zs.length=cap/\(∀i,i<zs.length->W.cell? (x.add i)=some (.int .i64 (zs.getD i 0)))/\∀n∈zs,(Lit.int .i64 n).wf=true)(o:Nat) :
  ∃(p:List AV × Option Loc) (x:AV),(∀φ,EntOk W φ p)/\∀L:List (List AV × Option Loc),L[o]?=some p->VR (initR L) x (.slice a len cap)/\Sl (initH L) 1 x ((zs.take len).map fun n=>[I n]):=by
 rcases w with ⟨rfl,rfl,rfl,rfl⟩|⟨x,rfl,h1,h2,h3,h4,_⟩
 ·exact ⟨([],none),.nils,fun φ l q=>(by cases q),fun L hL=>⟨.nils,.inl ⟨rfl,rfl⟩⟩⟩
 ·exact intsArg h1 h2 h3 h4 o
end Go.Gm
namespace Go.Gm
structure RawTy (P:Program) (T E I3:TypeId):Prop where
 t:P.underlying T=some (.slice E)
 e:∃f0 f1 f2:Field,P.underlying E=some (.struct #[f0,f1,f2])/\f0.type=I3/\f0.offset=0/\f1.type=I3/\f1.offset=1/\f2.type=T/\f2.offset=2
 i:P.underlying I3=some (.int .i64)
 ce:P.cellsOf E=3
 ci:P.cellsOf I3=1
 ct:P.cellsOf T=1
def Emb (F:List (List AV × Option Loc))(o:Nat)(L:List (List AV × Option Loc)):Prop:=∀(i:Nat) p,F[i]?=some p->L[o+i]?=some p
theorem Emb.head {p:List AV × Option Loc}{F L:List (List AV × Option Loc)}(e:Emb (p::F) o L):L[o]?=some p:=e 0 p rfl
theorem Emb.tail {p:List AV × Option Loc}{F L:List (List AV × Option Loc)}(e:Emb (p::F) o L):Emb F (o+1) L:=λi q h=>by
 have:=e (i+1) q (by simpa using h)
 rwa [show o+(i+1)=o+1+i by omega] at this
theorem Emb.left {F G L:List (List AV × Option Loc)}(e:Emb (F++G) o L):Emb F o L:=λi q h=>e i q (by rw[List.getElem?_append_left (List.getElem?_eq_some_iff.1 h).1]; exact h)
theorem Emb.right {F G L:List (List AV × Option Loc)}(e:Emb (F++G) o L):Emb G (o+F.length) L:=λi q h=>by
 have:=e (F.length+i) q (by rw[List.getElem?_append_right oM,Nat.add_sub_cancel_left]; exact h)
 rwa [show o+(F.length+i)=o+F.length+i by omega] at this
section
variable {H:Type} {enc:TypeId × Value->H} {P:Program} {T E I3:TypeId} {W:World}
def Came (W:World)(a:Option Addr)(len cap:Nat)(o:Nat)(F:List (List AV × Option Loc))(v:AV)(rs:List Rw)(css:List (List AV)):Prop:=
 ∀L,Emb F o L->(∀p∈F,EntOk W (initR L) p)/\VR (initR L) v (.slice a len cap)/\Sl (initH L) 3 v css/\RVs (initH L) rs css
theorem RVs.snoc (a:RV h r cs):∀{l:List Rw} {css:List (List AV)},RVs h l css->RVs h (l++[r]) (css++[cs])
 |_,_,.nil=>.cons a .nil
 |_,_,.cons x y=>.cons x (RVs.snoc a y)
theorem rawsArg (ty:RawTy P T E I3):∀(fuel:Nat) (cs:List Value) (x:DataW H × List MemPlace),DataW.trod enc P W 0 (λ_=>true) true fuel T cs=some x->
  ∃(a:Option Addr) (len cap:Nat),cs=[.slice a len cap]/\∀o,∃F v rs css,Came W a len cap o F v rs css:=by
 intro fuel
 induction fuel using Nat.strongRecOn with
 |_ fuel ih=>
 intro cs x hx
 rcases DataW.trod_slice ty.t hx with ⟨rfl,_⟩|⟨a,len,cap,elems,rest,n,rfl,rfl,_,_,hl,hm,hel,hE,hR,_⟩
 ·exact ⟨none,0,0,rfl,λo=>⟨[],.nils,[],[],λL _=>⟨λp hp=>by simp at hp,.nils,.inl ⟨rfl,rfl⟩,.nil⟩⟩⟩
 ·refine ⟨some a,len,cap,rfl,λo=>?_⟩
  obtain ⟨hrl,hR⟩:=hR rfl
  by_cases hc:cap=0
  ·subst hc
   obtain rfl:len=0:=oM
   refine ⟨[([],none)],.sl o 0 0 3 (some 0) 0,[],[],λL hL=>⟨λp hp l q=>?_,.sl0 (λq=>by cases q) (λc q=>by injection q with q; exact q.symm),?_,.nil⟩⟩
   ·rw[List.mem_singleton.1 hp] at q; cases q
   ·exact .inr ⟨o,0,some 0,0,⟨[],0,0,true⟩,rfl,by simp[initH,hL.head,roObj],Nat.le_refl _,rfl,λx hx=>by simp at hx⟩
  ·
   have each:∀i,i<cap->∃c3 y,W.cells? 0 (a.add (i*3)) 3=some c3/\DataW.trod enc P W 0 (λ_=>true) true n E c3=some y:=by
    intro i hi
    by_cases hil:i<len
    ·have h1:=hE i hil
     rw[List.getElem?_eq_getElem oM,Option.bind_eq_some_iff,ty.ce] at h1
     obtain ⟨c3,h2,h3⟩:=h1
     exact ⟨c3,_,h2,h3⟩
    ·have h1:=hR (i-len) oM
     rw[List.getElem?_eq_getElem oM,Option.bind_eq_some_iff,ty.ce,show len+(i-len)=i by omega] at h1
     obtain ⟨c3,h2,h3⟩:=h1
     exact ⟨c3,_,h2,h3⟩
   obtain ⟨b,off,spot⟩:=a
   have hspot:spot=none:=by
    obtain ⟨c3,y,h1,_⟩:=each 0 oM
    obtain ⟨_,h2,h3⟩:=World.cells?_some h1
    have h4:=h3 0 oM
    rw[List.getElem?_eq_getElem (by omega)] at h4
    have:=World.cell?_spot h4
    simpa [Addr.add] using this
   subst hspot
   have cell:∀i,i<cap->∃(k m:Int) (s:Value) (y:DataW H × List MemPlace) (n':Nat),n'<n+1/\W.cell? ⟨b,off+i*3,none⟩=some (.int .i64 k)/\W.cell? ⟨b,off+i*3+1,none⟩=some (.int .i64 m)/\W.cell? ⟨b,off+i*3+2,none⟩=some s/\
     DataW.trod enc P W 0 (λ_=>true) true n' T [s]=some y:=by
    intro i hi
    obtain ⟨c3,y,h1,h2⟩:=each i hi
    obtain ⟨_,h3,h4⟩:=World.cells?_some h1
    obtain ⟨f0,f1,f2,e0,t0,o0,t1,o1,t2,o2⟩:=ty.e
    obtain ⟨xs,n',rfl,_,_,hxl,hf⟩:=DataW.trod_struct e0 h2
    match c3,h3 with
    |[v0,v1,v2],_=>
    have g0:=hf 0 f0 rfl
    have g1:=hf 1 f1 rfl
    have g2:=hf 2 f2 rfl
    simp only[List.size_toArray,List.length_cons,List.length_nil] at hxl
    rw[t0,o0,ty.ci] at g0
    rw[t1,o1,ty.ci] at g1
    rw[t2,o2,ty.ct] at g2
    simp only[List.drop_zero,List.drop_succ_cons,List.take_succ_cons,List.take_zero] at g0 g1 g2
    rw[List.getElem?_eq_getElem oM] at g0 g1 g2
    obtain ⟨k,q0,_,_⟩:=DataW.trod_int ty.i g0
    obtain ⟨m,q1,_,_⟩:=DataW.trod_int ty.i g1
    have c0:=h4 0 oM
    have c1:=h4 1 oM
    have c2:=h4 2 oM
    rw[Go.WideShapes.add_plain,Go.WideShapes.add_plain] at c0 c1 c2
    simp only[List.cons.injEq,and_true] at q0 q1
    subst q0 q1
    exact ⟨k,m,v2,_,n',oM,by simpa using c0,by simpa using c1,by simpa using c2,g2⟩
   obtain ⟨C,e,fr,hb⟩:∃C e fr,W.heap[b]?=some (.cells C e fr):=by
    obtain ⟨k,m,s,y,n',_,h1,_⟩:=cell 0 (by omega)
    simp only[World.cell?] at h1
    cases hh:W.heap[b]? with
    |none=>rw[hh] at h1; cases h1
    |some ob=>
     cases ob with
     |cells C e fr=>exact ⟨C,e,fr,rfl⟩
     |_=>rw[hh] at h1; cases h1
   have cellC:∀j v,W.cell? ⟨b,j,none⟩=some v->C[j]?=some v:=λj v h=>by simpa [World.cell?,hb] using h
   have hN:off+cap*3<=C.size:=by
    obtain ⟨k,m,s,y,n',_,_,_,h1,_⟩:=cell (cap-1) oM
    have:=(Array.getElem?_eq_some_iff.1 (cellC _ _ h1)).1
    omega
   have rec_:∀m,m<=len->∀o',∃(F:List (List AV × Option Loc)) (rs:List Rw) (css:List (List AV)),css.length=m/\(∀c∈css,c.length=3)/\
     ∀L,Emb F o' L->(∀p∈F,EntOk W (initR L) p)/\RVs (initH L) rs css/\∀j,j<m*3->∃x v,css.flatten[j]?=some x/\C[off+j]?=some v/\VR (initR L) x v/\x.one=true:=by
    intro m
    induction m with
    |zero=>intro _ o'; exact ⟨[],[],[],rfl,λc hc=>by simp at hc,λL _=>⟨λp hp=>by simp at hp,.nil,λj hj=>oM⟩⟩
    |succ m ihm=>
     intro hml o'
     obtain ⟨F,rs,css,h1,h2,h3⟩:=ihm oM o'
     obtain ⟨k,mm,s,y,n',hn',c0,c1,c2,ht⟩:=cell m oM
     obtain ⟨a',len',cap',es,hin⟩:=ih n' hn' [s] y ht
     obtain ⟨G,v,rs',css',hcame⟩:=hin (o'+F.length)
     simp only[List.cons.injEq,and_true] at es
     subst es
     refine ⟨F++G,rs++[.mk k mm rs'],css++[[I k,I mm,v]],by simp[h1],λc hc=>?_,λL hL=>?_⟩
     ·rcases List.mem_append.1 hc with hc|hc
      ·exact h2 c hc
      ·rw[List.mem_singleton.1 hc]; rfl
     ·obtain ⟨k1,k2,k3⟩:=h3 L hL.left
      obtain ⟨k4,k5,k6,k7⟩:=hcame L hL.right
      have hfl:=flatten_len h2
      rw[h1] at hfl
      refine ⟨λp hp=>(List.mem_append.1 hp).elim (k1 p) (k4 p),k2.snoc (.mk k6 k7),λj hj=>?_⟩
      rw[List.flatten_append]
      by_cases hjm:j<m*3
      ·obtain ⟨x,v',q1,q2⟩:=k3 j hjm
       exact ⟨x,v',by rw[List.getElem?_append_left oM]; exact q1,q2⟩
      ·rw[List.getElem?_append_right oM,hfl]
       have hj3:j-m*3=0\/j-m*3=1\/j-m*3=2:=oM
       rcases hj3 with hj3|hj3|hj3
       ·rw[hj3]
        exact ⟨I k,_,rfl,by rw[show off+j=off+m*3 by omega]; exact cellC _ _ c0,.int _ _,rfl⟩
       ·rw[hj3]
        exact ⟨I mm,_,rfl,by rw[show off+j=off+m*3+1 by omega]; exact cellC _ _ c1,.int _ _,rfl⟩
       ·rw[hj3]
        exact ⟨v,_,rfl,by rw[show off+j=off+m*3+2 by omega]; exact cellC _ _ c2,k5,k6.one⟩
   obtain ⟨F,rs,css,h1,h2,h3⟩:=rec_ len (Nat.le_refl _) (o+1)
   have hfl:=flatten_len h2
   rw[h1] at hfl
   refine ⟨(css.flatten,some ⟨b,off,C.size,len*3⟩)::F,.sl o 0 len 3 (some cap) 0,rs,css,λL hL=>?_⟩
   obtain ⟨k1,k2,k3⟩:=h3 L hL.tail
   have hLo:=hL.head
   refine ⟨λp hp=>?_,?_,?_,k2⟩
   ·rcases List.mem_cons.1 hp with rfl|hp
    ·intro l hl'
     injection hl' with hl'
     subst hl'
     exact ⟨C,e,fr,hb,rfl,by simp[hfl],by simp[hfl],by simp; omega,λi hi=>k3 i hi⟩
    ·exact k1 p hp
   ·refine VR.sl (l:=⟨b,off,C.size,len*3⟩) ?_ (by simp) hl hm (by simp; exact hN) (λc q=>by injection q)
    simp[initR,hLo]
   ·refine .inr ⟨o,0,some cap,0,⟨css.flatten,0,0,true⟩,by rw[h1],by simp[initH,hLo,roObj],Nat.le_refl _,?_,h2⟩
    rw[List.drop_zero,h1]
    exact List.take_of_length_le (by rw[hfl]; exact Nat.le_refl _)
end
end Go.Gm
