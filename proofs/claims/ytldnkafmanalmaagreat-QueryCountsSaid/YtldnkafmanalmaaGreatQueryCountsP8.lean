/- A part of the proof (GmAZCF, GmPv, GmAZCG, GmSb, GmWd, GmLg, GmLh, GmNl, GmSl, GmAZsa, GmAZsb, GmAZsc, GmAZsd, GmAZse, GmAZsf). -/
import Derived.Test.YtldnkafmanalmaaGreatQueryCountsP7
set_option autoImplicit true
set_option relaxedAutoImplicit true
set_option linter.unusedVariables false
set_option linter.unusedSimpArgs false
set_option linter.unusedSectionVars false
namespace Go.Gm.AZ
open Go Go.Gm
section
variable {D:List (List Int)} {acc:List Bool} {hb:Heap} {sD sA0 sc rank:AV} {xs:List Int} {od:Nat}
structure MBs (D:List (List Int)) (acc:List Bool) (hb:Heap) (sD sA0 sc:AV) (xs:List Int) (od:Nat):Prop where
 ok:DOk D acc
 hD:Sl hb 5 sD (D.map encR)
 hA:Sl hb 1 sA0 (acc.map encB)
 hc:Sl hb 1 sc (xs.map encI)
 lx:xs.length=D.length
 st:Stab (dl D) (λa:Nat=>gi acc (a:Int)) D.length (gf xs)
 rd:hb[od]?=some (.cells ⟨[sD,sA0],0,0,false⟩)
structure MKn (D:List (List Int)) (acc:List Bool) (xs rk:List Int) (Ss:List Nat) (D':List (List Int)) (acc':List Bool) (i:Nat):Prop where
 pm:PMs (gf xs) D.length (gf rk) (gf Ss) Ss.length
 po:POw (dl D) (λa:Nat=>gi acc (a:Int)) (gf xs) (gf Ss) Ss.length (λa m=>nx D' (a:Int) (m:Int)) (λa:Nat=>gi acc' (a:Int)) i
 z0:gf Ss 0=0
 il:i<=Ss.length
 s0:0<Ss.length
 ld:D'.length=i
 la:acc'.length=i
 l5:∀r∈D',r.length=5
def NxOk (h:Heap)(hb:Heap)(on:Nat)(nxs:List Int)(states sN sA:AV)(oS oN oA:Nat):Prop:=
 h[on]?=some (.cells ⟨nxs.map I,0,0,false⟩)/\nxs.length=5/\hb.length+2<=on/\(states≠.nils->on≠oS)/\(sN≠.nils->on≠oN)/\(sA≠.nils->on≠oA)
theorem c4H (b:MBs D acc hb sD sA0 sc xs od)(hQ:∀h states oS rk Ss nxs,MI D.length hb h rank states sN sA oS oN oA rk Ss D' acc'->MKn D acc xs rk Ss D' acc' i->i<Ss.length->NxOk h hb on nxs states sN sA oS oN oA->PRw (dl D) (gf xs) (gf Ss) Ss.length (gf Ss i) (gf nxs) 5->
   WP (λp:Nat × Nat=>a0r p.1 p.2 (.ptr od 0 2 0) (.ptr ot 0 2 0) sc (.ptr hb.length 0 2 0) rank states (I i) (.ptr on 0 5 0) h) Q) :
  ∀(d m:Nat) (h:Heap) (states:AV) (oS:Nat) (rk:List Int) (Ss:List Nat) (nxs:List Int),m+d=5->MI D.length hb h rank states sN sA oS oN oA rk Ss D' acc'->MKn D acc xs rk Ss D' acc' i->i<Ss.length->NxOk h hb on nxs states sN sA oS oN oA->PRw (dl D) (gf xs) (gf Ss) Ss.length (gf Ss i) (gf nxs) m->
   WP (λp:(Nat × Nat) × Nat=>s4_ p.1.1 p.1.2 p.2 (.ptr od 0 2 0) (.ptr ot 0 2 0) sc (.ptr hb.length 0 2 0) rank states (I i) (.ptr on 0 5 0) (I m) h) Q:=by
 have l1:=b.ok.l1
 have lx:=b.lx
 intro d
 induction d with
 |zero=>
  intro m h states oS rk Ss nxs h1 mi mk hi nk pr
  refine WP.rnd (λi' j=>a2j i'.1 i'.2 j ..) ?_
  obtain rfl:m=5:=oM
  refine g0 ?_
  exact WP.lv (hQ h states oS rk Ss nxs mi mk hi nk pr) λi j=>rfl
 |succ d ih=>
  intro m h states oS rk Ss nxs h1 mi mk hi nk pr
  refine WP.rnd (λi' j=>a2j i'.1 i'.2 j ..) ?_
  have hm5:m<5:=oM
  obtain ⟨si,hsi⟩:∃si,gi Ss (i:Int)=si:=⟨_,rfl⟩
  have hsl:si<D.length:=hsi▸mk.pm.lt i hi
  obtain ⟨to,hto⟩:∃to,dl D si m=to:=⟨_,rfl⟩
  have htl:to<D.length:=hto▸dl_lt b.ok hsl hm5
  obtain ⟨v,hv⟩:∃v:Nat,gi xs (to:Int)=v:=⟨(gi xs (to:Int)).toNat,by have:0<=gi xs (to:Int):=(b.st.rng to htl).1; omega⟩
  have hvl:v<D.length:=by
   have:gi xs (to:Int)<D.length:=(b.st.rng to htl).2
   omega
  have key:∀(h:Heap) (states:AV) (oS:Nat) (rk:List Int) (Ss:List Nat),MI D.length hb h rank states sN sA oS oN oA rk Ss D' acc'->MKn D acc xs rk Ss D' acc' i->i<Ss.length->NxOk h hb on nxs states sN sA oS oN oA->PRw (dl D) (gf xs) (gf Ss) Ss.length (gf Ss i) (gf nxs) m->gf Ss i=si->gf rk v≠0->
    WP (λp:(Nat × Nat) × Nat=>s5_ p.1.1 p.1.2 p.2 (.ptr od 0 2 0) (.ptr ot 0 2 0) sc (.ptr hb.length 0 2 0) rank states (I i) (.ptr on 0 5 0) (I m) (I to) h) Q:=by
   intro h states oS rk Ss mi mk hi nk pr hsi hrk
   refine WP.congr (λp=>a6G p.1.1 p.1.2 p.2 ..) ?_
   obtain ⟨j,j1,j2,j3⟩:=mk.pm.has hvl hrk
   have j2':gi rk (v:Int)=(j:Int)+1:=j2
   have hcl:=b.hc.ext mi.eb
   have grl:=mi.gr.sl
   have lr:=mi.lr
   have hSl:=mk.pm.le
   obtain ⟨n1,n2,n3,n4,n5,n6⟩:=nk
   have hst:=stP (x:=j) (m:=m) n1
   have hia:=b0q (o:=on) hm5
   have bon:=(List.getElem?_eq_some_iff.1 n1).1
   have hw:h.set on (.cells ⟨(nxs.map I).set m (I j),0,0,false⟩)=h.set on (.cells ⟨(nxs.set m (j:Int)).map I,0,0,false⟩):=by rw[List.map_set]
   rw[hw] at hst
   refine g8 hcl.idxG hcl.ld0 @encI.eq_1 @hv grl.idxG grl.ld0 @j2' @hia ?_
   rw[show (j:Int)+1-1=j by omega]
   have f:FrS (λq=>q=on) h (h.set on (.cells ⟨(nxs.set m (j:Int)).map I,0,0,false⟩)):=⟨by simp,λp p1 p2=>a9_ λz=>p1 z.symm⟩
   have hwr:wrAt 1 h h[on]? on m (m+1) 0 [I j]=some (h.set on (.cells ⟨(nxs.set m (j:Int)).map I,0,0,false⟩)):=by
    rw[b0V] at hst; exact hst
   refine g1 @hwr ?_
   refine ih (m+1) _ states oS rk Ss (nxs.set m (j:Int)) oM (mi.frs f n3 n4 n5 n6) mk hi ⟨a0_ bon,by simpa using n2,n3,n4,n5,n6⟩ λm' hm'=>?_
   rw[show gf (nxs.set m (j:Int))=_ from gset oM _]
   by_cases q:m'=m
   ·subst q
    refine ⟨j,j1,if_pos rfl,?_⟩
    rw[hsi,hto]
    show gf xs (gf Ss j)=gi xs (to:Int)
    rw[hv]; exact j3
   ·simp only[if_neg q]
    exact pr m' oM
  have hgs:=mi.gs.sl
  have rd:=mi.eb.get b.rd
  have hDx:=b.hD.ext mi.eb
  obtain ⟨p,p1,p2⟩:=cellN b.ok hDx (Ext.refl h) hsl hm5
  rw[hto] at p2
  have hcx:=b.hc.ext mi.eb
  have grl:=mi.gr.sl
  have lr:=mi.lr
  have hSl:=mk.pm.le
  by_cases q:gi rk (v:Int)=0
  ·obtain ⟨s',h2,o',a1,mi2,a3,a4⟩:=mi.addS to oM
   have hne:states≠.nils:=λz=>by
    rw[z] at hgs
    rcases hgs with ⟨_,k⟩|⟨_,_,_,_,_,k,_⟩
    ·have hz:Ss=[]:=by simpa using k
     have:=mk.s0
     rw[hz] at this
     simp at this
    ·cases k
   obtain ⟨h3,w1,mi3,w3⟩:=mi2.setRk hvl ((Ss.length+1:Nat):Int)
   have hcx2:=b.hc.ext mi2.eb
   have grl2:=mi2.gr.sl
   have gsl2:=mi2.gs.sl.lenG
   rw[List.length_append] at gsl2
   simp -implicitDefEqProofs (disch:=first|assumption|omega|exact Ext.refl _|(simp only[gL,gA]<;>omega)|fail) only[cG,reduceIte,rd,hgs.idxG,hgs.ld0,hsi,encN,hDx.idxG,p1,p2,hcx.idxG,hcx.ld0,encI,hv,grl.idxG,grl.ld0,q,a1,hcx2.ld0,gsl2,w1]
   have bon:=(List.getElem?_eq_some_iff.1 nk.1).1
   have l2:=a3.len
   obtain ⟨n1,n2,n3,n4,n5,n6⟩:=nk
   have nk3:NxOk h3 hb on nxs s' sN sA o' oN oA:=by
    refine ⟨?_,n2,n3,λz=>?_,n5,n6⟩
    ·rw[w3.get oM oM,a3.get (λz=>n4 z.1 z.2) bon]; exact n1
    ·rcases a4 z with ⟨z1,z2⟩|z1
     ·rw[z1]; exact n4 z2
     ·omega
   have hrk:gf (rk.set v ((Ss.length+1:Nat):Int))=up (gf rk) v ((Ss.length:Int)+1):=by
    rw[show gf (rk.set v ((Ss.length+1:Nat):Int))=_ from gset oM _]; rfl
   have hpush:=b7O Ss to
   have hsi':gf (Ss++[to]) i=si:=by
    rw[hpush]; exact (if_neg oM).trans hsi
   refine key h3 s' o' _ _ mi3 ⟨?_,?_,?_,by rw[List.length_append]; omega,by rw[List.length_append]; omega,mk.ld,mk.la,mk.l5⟩ (by rw[List.length_append]; omega) nk3 ?_ hsi' ?_
   ·rw[hrk,hpush,List.length_append]
    exact mk.pm.neu hvl htl hv q
   ·rw[hpush,List.length_append]
    exact mk.po.grow mk.il to
   ·rw[hpush]; exact (if_neg (by have:=mk.s0; omega)).trans mk.z0
   ·have hps:(λr:Nat=>if r=Ss.length then to else gf Ss r) i=gf Ss i:=if_neg oM
    rw[hpush,List.length_append,hps]
    exact pr.grow to
   ·rw[hrk,up,if_pos rfl]; omega
  ·simp -implicitDefEqProofs (disch:=first|assumption|omega|exact Ext.refl _|(simp only[gL,gA]<;>omega)|fail) only[cG,reduceIte,rd,hgs.idxG,hgs.ld0,hsi,encN,hDx.idxG,p1,p2,hcx.idxG,hcx.ld0,encI,hv,grl.idxG,grl.ld0]
   exact key h states oS rk Ss mi mk hi nk pr hsi q
end
end Go.Gm.AZ
namespace Go.Gm
theorem c9j {v0:Nat}:∀S,cntP P S<=cntP (λv=>P v/\v≠v0) S+1/\(S<=v0->cntP P S<=cntP (λv=>P v/\v≠v0) S)
 |0=>⟨by simp[cntP],λ_=>by simp[cntP]⟩
 |n+1=>by
  obtain ⟨h1,h2⟩:=c9j (P:=P) (v0:=v0) n
  by_cases hp:P n
  ·rw[a7u hp]
   by_cases q:n=v0
   ·rw[a7v (by simp[q])]
    have:=h2 oM
    exact ⟨oM,λ_=>oM⟩
   ·rw[a7u (p:=λv=>P v/\v≠v0) ⟨hp,q⟩]
    refine ⟨oM,λz=>?_⟩
    have:=h2 oM
    omega
  ·rw[a7v hp,a7v (p:=λv=>P v/\v≠v0) (λz=>hp z.1)]
   exact ⟨h1,λz=>h2 oM⟩
theorem c8W {P:Nat->Prop}:∀S,(∀v,v<S->¬P v)->cntP P S=0
 |0,_=>rfl
 |n+1,h=>by rw[a7v (h n oM),c8W n λv hv=>h v oM]
theorem c9w {S:Nat}:∀(n:Nat) (P:Nat->Prop) (g:Nat->Nat),(∀v,v<S->P v->g v<n)->(∀v w,v<S->w<S->P v->P w->g v=g w->v=w)->cntP P S<=n:=by
 intro n
 induction n with
 |zero=>intro P g h _; rw[c8W S λv hv hp=>by have:=h v hv hp; omega]; exact Nat.le_refl _
 |succ n ih=>
  intro P g h inj
  by_cases q:∃v,v<S/\P v/\g v=n
  ·obtain ⟨v0,a1,a2,a3⟩:=q
   have h1:=(c9j (P:=P) (v0:=v0) S).1
   have h2:=ih (λv=>P v/\v≠v0) g (λv hv hp=>by
    have h3:=h v hv hp.1
    have h4:g v≠n:=λz=>hp.2 (inj v v0 hv a1 hp.1 a2 (z.trans a3.symm))
    omega) λv w hv hw hp hq e=>inj v w hv hw hp.1 hq.1 e
   omega
  ·have:=ih P g (λv hv hp=>by
    have h3:=h v hv hp
    have h4:g v≠n:=λz=>q ⟨v,hv,hp,z⟩
    omega) inj
   omega
theorem c9x {S n:Nat}{P:Nat->Prop}{g:Nat->Nat}(h:∀v,v<S->P v->g v<n)(inj:∀v w,v<S->w<S->P v->P w->g v=g w->v=w)(hc:n<=cntP P S){i:Nat}(hi:i<n):∃v,v<S/\P v/\g v=i:=by
 refine Classical.byContradiction λq=>?_
 have q':∀v,v<S->P v->g v≠i:=λv hv hp z=>q ⟨v,hv,hp,z⟩
 have:=c9w (S:=S) (n-1) P (λv=>if g v=n-1 then i else g v) (λv hv hp=>by
  have h1:=h v hv hp
  have h2:=q' v hv hp
  show (if g v=n-1 then i else g v)<n-1
  split<;>omega) (λv w hv hw hp hq e=>inj v w hv hw hp hq (by
   have h1:=q' v hv hp
   have h2:=q' w hw hq
   replace e:(if g v=n-1 then i else g v)=(if g w=n-1 then i else g w):=e
   split at e<;>split at e<;>omega))
 omega
theorem c9o (c:Nat->Int):∀S,un S c+(cntP (λv=>¬c v<0) S:Int)=S
 |0=>rfl
 |n+1=>by
  have h1:=c9o c n
  have h2:un (n+1) c=un n c+(if c n<0 then 1 else 0):=rfl
  rw[h2]
  by_cases q:c n<0
  ·rw[if_pos q,a7v (by simp[q])]; omega
  ·rw[if_neg q,a7u (p:=λv=>¬c v<0) q]; omega
theorem PMs.inj {x:Nat->Int}{S n:Nat}{rk:Nat->Int}{s:Nat->Nat}(p:PMs x S rk s n)(hx:∀a,a<S->0<=x a/\x a<S){i j:Nat}(hi:i<n)(hj:j<n)(h:x (s i)=x (s j)):i=j:=by
 have hc:=c9o (λv=>rk v-1) S
 have hct:=p.ct
 have met:∀v,v<S->¬(rk v-1<0)->∃k:Nat,k<n/\rk v=k+1/\x (s k)=v:=λv hv q=>p.has hv λz=>q oM
 have key:∀i,i<n->∃v:Nat,v<S/\rk v=i+1/\x (s i)=v:=λi hi=>by
  obtain ⟨v,v1,v2,v3⟩:=c9x (S:=S) (n:=n) (P:=λv=>¬(rk v-1<0)) (g:=λv=>(rk v-1).toNat) (λv hv q=>by
   obtain ⟨k,k1,k2,_⟩:=met v hv q
   show (rk v-1).toNat<n
   omega) (λv w hv hw q r e=>by
   obtain ⟨k,k1,k2,k3⟩:=met v hv q
   obtain ⟨l,l1,l2,l3⟩:=met w hw r
   replace e:(rk v-1).toNat=(rk w-1).toNat:=e
   obtain rfl:k=l:=oM
   omega) oM hi
  obtain ⟨k,k1,k2,k3⟩:=met v v1 v2
  replace v3:(rk v-1).toNat=i:=v3
  obtain rfl:k=i:=oM
  exact ⟨v,v1,k2,k3⟩
 obtain ⟨v,v1,v2,v3⟩:=key i hi
 obtain ⟨w,w1,w2,w3⟩:=key j hj
 have:v=w:=oM
 subst this
 omega
end Go.Gm
namespace Go.Gm.AZ
open Go Go.Gm
section
variable {D:List (List Int)} {acc:List Bool}
theorem MKn.bis (ok:DOk D acc)(st:Stab (dl D) (λa:Nat=>gi acc (a:Int)) D.length (gf xs))(k:MKn D acc xs rk Ss D' acc' Ss.length) :
  ∀(w:List Int),(∀m∈w,0<=m/\m<5)->∀a j:Nat,a<D.length->j<Ss.length->gf xs a=gf xs (gf Ss j)->gi acc (goS D a w)=gi acc' (goS D' j w)
 |[],_,a,j,ha,hj,h=>by
  have h1:=st.ac a (gf Ss j) ha (k.pm.lt j hj) h
  exact h1.trans (k.po j hj).1.symm
 |m::w,hm,a,j,ha,hj,h=>by
  have hmm:=hm m (by simp)
  obtain ⟨mn,rfl⟩:∃mn:Nat,m=mn:=⟨m.toNat,oM⟩
  obtain ⟨j',j1,j2,j3⟩:=(k.po j hj).2 mn oM
  have h1:=st.to a (gf Ss j) ha (k.pm.lt j hj) h mn oM
  have h2:0<=nx D a mn/\nx D a mn<D.length:=ok.to a mn oM oM oM oM
  have e1:nx D a mn=(dl D a mn:Nat):=by rw[dl]; omega
  have ih:=bis ok st k w (λz hz=>hm z (List.mem_cons_of_mem _ hz)) (dl D a mn) j' (dl_lt ok ha oM) j1 (h1.trans j3.symm)
  show gi acc (goS D (nx D a mn) w)=gi acc' (goS D' (nx D' j mn) w)
  rw[e1,show nx D' (j:Int) (mn:Int)=(j':Int) from j2]
  exact ih
theorem MKn.dok (ok:DOk D acc)(k:MKn D acc xs rk Ss D' acc' Ss.length):DOk D' acc'/\D'.length<=D.length:=by
 have h1:=k.pm.le
 have h2:=k.s0
 have h3:=k.ld
 have l1:=ok.l1
 refine ⟨⟨oM,oM,k.la.trans h3.symm,λs s0 s1=>k.l5 _ (b7_ s0 s1),λs m s0 s1 m0 m1=>?_⟩,oM⟩
 obtain ⟨a,rfl⟩:∃a:Nat,s=a:=⟨s.toNat,oM⟩
 obtain ⟨b,rfl⟩:∃b:Nat,m=b:=⟨m.toNat,oM⟩
 obtain ⟨j,j1,j2,_⟩:=(k.po a oM).2 b oM
 have:gi (gi D' (a:Int)) (b:Int)=j:=j2
 omega
def SdyE (D:List (List Int)):Prop:=∀s m:Nat,s<D.length->m<5->nx D (nx D (s:Int) (m:Int)) (m:Int)=nx D (s:Int) (m:Int)
theorem MKn.sdy (ok:DOk D acc)(st:Stab (dl D) (λa:Nat=>gi acc (a:Int)) D.length (gf xs))(k:MKn D acc xs rk Ss D' acc' Ss.length)(h:SdyE D):SdyE D':=by
 intro a m ha hm
 have ld:=k.ld
 obtain ⟨j,j1,j2,j3⟩:=(k.po a oM).2 m hm
 obtain ⟨i,i1,i2,i3⟩:=(k.po j j1).2 m hm
 have q1:=k.pm.lt a oM
 have q2:=k.pm.lt j j1
 have q3:=dl_lt ok q1 hm
 have h1:=st.to _ _ q2 q3 j3 m hm
 have e1:∀s:Nat,s<D.length->nx D (s:Int) (m:Int)=(dl D s m:Nat):=λs hs=>by
  have:0<=nx D s m/\nx D s m<D.length:=ok.to s m oM oM oM oM
  rw[dl]; omega
 have h2:=h (gf Ss a) m q1 hm
 rw[e1 _ q1,e1 _ q3] at h2
 have h3:dl D (dl D (gf Ss a) m) m=dl D (gf Ss a) m:=by omega
 rw[h3] at h1
 have:=k.pm.inj st.rng i1 j1 (by rw[i3,h1,j3])
 replace j2:nx D' (a:Int) (m:Int)=(j:Int):=j2
 replace i2:nx D' (j:Int) (m:Int)=(i:Int):=i2
 rw[j2,i2,this]
def MinQ2 (D:List (List Int))(acc:List Bool)(lo:Nat)(r:AV)(h':Heap):Prop:=
 ∃(D':List (List Int)) (acc':List Bool) (sN sA:AV),r=.agg [sN,sA]/\Gr lo h'.length h' 5 sN (D'.map encR)/\Gr lo h'.length h' 1 sA (acc'.map encB)/\DOk D' acc'/\D'.length<=D.length/\
  (∀w:List Int,(∀m∈w,0<=m/\m<5)->(gi acc (goS D 0 w)=gi acc' (goS D' 0 w)))/\(SdyE D->SdyE D')
theorem c4I {h0 hb:Heap}{sD sA0 sc rank:AV}{xs:List Int}{od ot:Nat}(b:MBs D acc hb sD sA0 sc xs od)(e0:Ext h0 hb)(hot:h0.length<=ot)(rt:hb[ot]?=some (.cells ⟨[.nils,.nils],0,0,false⟩)) :
  ∀(d i:Nat) (h:Heap) (states sN sA:AV) (oS oN oA:Nat) (rk:List Int) (Ss:List Nat) (D':List (List Int)) (acc':List Bool),i+d=D.length->MI D.length hb h rank states sN sA oS oN oA rk Ss D' acc'->MKn D acc xs rk Ss D' acc' i->
   WP (λp:Nat × Nat=>s3_ p.1 p.2 (.ptr od 0 2 0) (.ptr ot 0 2 0) sc (.ptr hb.length 0 2 0) rank states (I i) h) λr h'=>Ext h0 h'/\MinQ2 D acc h0.length r h':=by
 have l1:=b.ok.l1
 have bt:=(List.getElem?_eq_some_iff.1 rt).1
 intro d
 induction d with
 |zero=>
  intro i h states sN sA oS oN oA rk Ss D' acc' h1 mi mk
  refine WP.rnd (a2k · · ..) ?_
  have hle:=mk.pm.le
  have hil:=mk.il
  obtain rfl:i=Ss.length:=oM
  have gs:=mi.gs.sl.lenG
  have ro:=mi.ro
  have rt':=mi.eb.get rt
  have b0:=(List.getElem?_eq_some_iff.1 rt').1
  have o1:=mi.gn.sl.one
  have o2:=mi.gn.sl.cells
  have o3:=mi.ga.sl.one
  have o4:=mi.ga.sl.cells
  refine g7 @gs @ro @rt' @o1 @o2 @o3 @o4 ?_
  obtain ⟨k1,k2⟩:=mk.dok b.ok
  have l0:=e0.len
  have nl:∀{lo:Nat} {sz:Nat} {s:AV} {xs:List (List AV)} (x:AObj),Gr lo (lo+1) h sz s xs->(s≠.nils->hb.length<=lo/\lo<h.length)->Gr h0.length (h.set ot x).length (h.set ot x) sz s xs:=by
   intro lo sz s xs x g hq
   by_cases q:s=.nils
   ·subst q
    have:=g.isNil
    subst this
    exact Gr.nil ..
   ·have:=hq q
    exact (g.set (.inl oM) _).mono oM (by simp; omega)
  refine WP.ret ⟨(e0.trans mi.eb).setr hot _,D',acc',sN,sA,rfl,nl _ mi.gn λz=>?_,nl _ mi.ga λz=>?_,k1,k2,λw hw=>?_,mk.sdy b.ok b.st⟩
  ·have:=mi.pn z; omega
  ·have:=mi.pa z; omega
  ·exact mk.bis b.ok b.st w hw 0 0 b.ok.l0 mk.s0 (by rw[mk.z0])
 |succ d ih=>
  intro i h states sN sA oS oN oA rk Ss D' acc' h1 mi mk
  refine WP.rnd (a2k · · ..) ?_
  have hle:=mk.pm.le
  have hil:=mk.il
  have gs:=mi.gs.sl.lenG
  by_cases q:i=Ss.length
  ·subst q
   have ro:=mi.ro
   have rt':=mi.eb.get rt
   have b0:=(List.getElem?_eq_some_iff.1 rt').1
   have o1:=mi.gn.sl.one
   have o2:=mi.gn.sl.cells
   have o3:=mi.ga.sl.one
   have o4:=mi.ga.sl.cells
   refine g7 @gs @ro @rt' @o1 @o2 @o3 @o4 ?_
   obtain ⟨k1,k2⟩:=mk.dok b.ok
   have l0:=e0.len
   have nl:∀{lo:Nat} {sz:Nat} {s:AV} {xs:List (List AV)} (x:AObj),Gr lo (lo+1) h sz s xs->(s≠.nils->hb.length<=lo/\lo<h.length)->Gr h0.length (h.set ot x).length (h.set ot x) sz s xs:=by
    intro lo sz s xs x g hq
    by_cases q:s=.nils
    ·subst q
     have:=g.isNil
     subst this
     exact Gr.nil ..
    ·have:=hq q
     exact (g.set (.inl oM) _).mono oM (by simp; omega)
   refine WP.ret ⟨(e0.trans mi.eb).setr hot _,D',acc',sN,sA,rfl,nl _ mi.gn λz=>?_,nl _ mi.ga λz=>?_,k1,k2,λw hw=>?_,mk.sdy b.ok b.st⟩
   ·have:=mi.pn z; omega
   ·have:=mi.pa z; omega
   ·exact mk.bis b.ok b.st w hw 0 0 b.ok.l0 mk.s0 (by rw[mk.z0])
  ·have hi:i<Ss.length:=oM
   refine g1 @gs ?_
   have bl:=mi.bl
   have e1:Ext h (h++[AObj.cells ⟨List.map I [0,0,0,0,0],0,0,false⟩]):=Ext.push _ _
   refine WP.ent (c4H (ot:=ot) (on:=h.length) b (λh2 states oS rk Ss nxs mi mk hi nk pr=>?_) 5 0 (h++[AObj.cells ⟨List.map I [0,0,0,0,0],0,0,false⟩]) states oS rk Ss [0,0,0,0,0] oM (mi.ext e1) mk hi ⟨by simp,rfl,bl,λz=>?_,λz=>?_,λz=>?_⟩ λm' hm'=>oM) λi=>rfl
   ·refine WP.congr (λp=>a6I p.1 p.2 ..) ?_
    obtain ⟨n1,n2,n3,n4,n5,n6⟩:=nk
    have hDl:=mk.ld
    have hAl:=mk.la
    have hle2:=mk.pm.le
    have ro:=mi.ro
    have b0:=(List.getElem?_eq_some_iff.1 ro).1
    obtain ⟨sN2,h3,oN2,q1,q2,q3,q4,mi3⟩:=mi.row n2 oM
    have b1:=(List.getElem?_eq_some_iff.1 q4).1
    have hmk:(nxs.map I).take 5=nxs.map I:=List.take_of_length_le (by simp[n2])
    obtain ⟨h4,hh4⟩:∃h4,h4=h3.set hb.length (.cells ⟨[sN2,sA],0,0,false⟩):=⟨_,rfl⟩
    rw[<-hh4] at mi3
    have ro4:=mi3.ro
    have b4:=(List.getElem?_eq_some_iff.1 ro4).1
    have rd4:=mi3.eb.get b.rd
    have gs4:=mi3.gs.sl
    obtain ⟨si,hsi⟩:∃si,gi Ss (i:Int)=si:=⟨_,rfl⟩
    have hsl:si<D.length:=hsi▸mk.pm.lt i hi
    have hA4:=b.hA.ext mi3.eb
    have la:=b.ok.la
    obtain ⟨bb,hbb⟩:∃bb,gi acc (si:Int)=bb:=⟨_,rfl⟩
    obtain ⟨sA2,h5,oA2,w1,w2,w3,w4,mi5⟩:=mi3.accept bb oM
    have b5:=(List.getElem?_eq_some_iff.1 w4).1
    have hld:rdNAt 5 h2[h.length]? 0 5 0=some (.agg (nxs.map I)):=by
     rw[n1]
     try simp only[rdNAt]
     rw[if_pos ⟨oM,Nat.le_refl _⟩,List.drop_zero,hmk]
    obtain ⟨c0,c1,c2,c3,c4,rfl⟩:∃c0 c1 c2 c3 c4,nxs=[c0,c1,c2,c3,c4]:=by
     match nxs,n2 with
     |[c0,c1,c2,c3,c4],_=>exact ⟨c0,c1,c2,c3,c4,rfl⟩
    simp only[List.map_cons,List.map_nil] at hld q1
    refine g6 @ro @hld @q1 @q4 @q2 @q3 ?_
    rw[<-hh4]
    refine g14 @ro4 @rd4 gs4.idxG gs4.ld0 @hsi @encN.eq_1 hA4.idxG hA4.ld0 @hbb @encB.eq_1 @w1 @w4 @w2 @w3 ?_
    obtain ⟨h6,hh6⟩:∃h6,h6=h5.set hb.length (.cells ⟨[sN2,sA2],0,0,false⟩):=⟨_,rfl⟩
    rw[<-hh6] at mi5 ⊢
    refine WP.congr (λp=>a6H p.1 p.2 ..) ?_
    refine g0 ?_
    refine ih (i+1) h6 states sN2 sA2 oS oN2 oA2 rk Ss (D'++[[c0,c1,c2,c3,c4]]) (acc'++[bb]) oM mi5 ⟨mk.pm,λa ha=>?_,mk.z0,oM,mk.s0,by simp[hDl],by simp[hAl],λr hr=>?_⟩
    ·by_cases z:a=i
     ·subst z
      have z1:gi (acc'++[bb]) (a:Int)=bb:=by
       rw[b2_ (by simp[hAl])]; simp[<-hAl]
      have z2:gi (D'++[[c0,c1,c2,c3,c4]]) (a:Int)=[c0,c1,c2,c3,c4]:=by
       rw[b2_ (by simp[hDl])]; simp[<-hDl]
      refine ⟨z1.trans (by rw[<-hbb,<-hsi]),λm hm=>?_⟩
      obtain ⟨j,j1,j2,j3⟩:=pr m hm
      refine ⟨j,j1,?_,j3⟩
      show gi (gi (D'++[[c0,c1,c2,c3,c4]]) (a:Int)) (m:Int)=j
      rw[z2]; exact j2
     ·obtain ⟨z1,z2⟩:=mk.po a oM
      have y1:gi (acc'++[bb]) (a:Int)=gi acc' (a:Int):=a3h oM oM
      have y2:gi (D'++[[c0,c1,c2,c3,c4]]) (a:Int)=gi D' (a:Int):=a3h oM oM
      refine ⟨y1.trans z1,λm hm=>?_⟩
      obtain ⟨j,j1,j2,j3⟩:=z2 m hm
      refine ⟨j,j1,?_,j3⟩
      show gi (gi (D'++[[c0,c1,c2,c3,c4]]) (a:Int)) (m:Int)=j
      rw[y2]; exact j2
    ·rcases List.mem_append.1 hr with z|z
     ·exact mk.l5 r z
     ·obtain rfl:=List.mem_singleton.1 z; rfl
   ·have:=mi.ps z; omega
   ·have:=mi.pn z; omega
   ·have:=mi.pa z; omega
theorem c8C (ok:DOk D acc)(hD:Sl h 5 sD (D.map encR))(hA:Sl h 1 sA (acc.map encB)) :
  Tot tab d8_ [.agg [sD,sA]] h λr h'=>Ext h h'/\MinQ2 D acc h.length r h':=by
 refine WP.tot (a8k · ..) ?_
 have l0:=ok.l0
 have l1:=ok.l1
 obtain ⟨h1,hh1⟩:∃h1,h1=(h++[AObj.cells ⟨[sD,sA],0,0,false⟩])++[AObj.cells ⟨[.nils,.nils],0,0,false⟩]:=⟨_,rfl⟩
 have e1:Ext h h1:=by rw[hh1]; exact eX
 have rd:h1[h.length]?=some (.cells ⟨[sD,sA],0,0,false⟩):=by rw[hh1]; simp
 have rt:h1[h.length+1]?=some (.cells ⟨[.nils,.nils],0,0,false⟩):=by rw[hh1]; simp
 refine g4 hD.one hD.cells hA.one hA.cells ?_
 rw[<-hh1]
 refine WP.call (b7w ok (hD.ext e1) (hA.ext e1)) ?_
 rintro sc h2 ⟨e2,xs,g2,lx,st⟩
 have rd2:=e2.get rd
 have rt2:=e2.get rt
 have hc2:=g2.sl
 have hD2:=(hD.ext e1).ext e2
 have hA2:=(hA.ext e1).ext e2
 obtain ⟨h3,hh3⟩:∃h3,h3=h2++[AObj.cells ⟨[.nils,.nils],0,0,false⟩]:=⟨_,rfl⟩
 have e3:Ext h2 h3:=by rw[hh3]; exact Ext.push _ _
 have l3:h3.length=h2.length+1:=by rw[hh3]; simp
 have ro3:h3[h2.length]?=some (.cells ⟨[.nils,.nils],0,0,false⟩):=by rw[hh3]; simp
 obtain ⟨rank,h4,a4,g4,e4,_,l4⟩:=g0_ (zero:=[I 0]) (sz:=1) (bytes:=8) (n:=(D.length:Int)) h3 oM oM oM rfl rfl
 have hre:List.replicate (D.length:Int).toNat [I 0]=(List.replicate D.length (0:Int)).map encI:=by simp[encI,I]
 rw[hre] at g4
 obtain ⟨h5,hh5⟩:∃h5,h5=h4++[AObj.cells ⟨encN 0,0,0,false⟩]:=⟨_,rfl⟩
 have e5:Ext h4 h5:=by rw[hh5]; exact Ext.push _ _
 have l5:h5.length=h4.length+1:=by rw[hh5]; simp
 have gs5:Gr h4.length (h4.length+1) h5 1 (.sl h4.length 0 1 1 none 0) ([0].map encN):=by
  have:=Gr.lit (h:=h4) (sz:=1) (v:=encN 0) rfl
  rw[a3_] at this
  rw[hh5]; exact this
 have e25:=(e3.trans e4).trans e5
 obtain ⟨v,hv⟩:∃v:Nat,gi xs 0=v:=⟨(gi xs 0).toNat,by have:0<=gi xs ((0:Nat):Int):=(st.rng 0 l0).1; exact (Int.toNat_of_nonneg this).symm⟩
 have hvl:v<D.length:=by
  have:gi xs ((0:Nat):Int)<D.length:=(st.rng 0 l0).2
  have:gi xs 0<D.length:=this
  omega
 have mi5:MI D.length h2 h5 rank (.sl h4.length 0 1 1 none 0) .nils .nils h4.length 0 0 (List.replicate D.length 0) [0] [] []:=by
  refine ⟨e25,(e4.trans e5).get ro3,(g4.ext e5).mono oM oM,gs5,Gr.nil ..,Gr.nil ..,λ_=>oM,λz=>absurd rfl z,λz=>absurd rfl z,by simp,oM⟩
 obtain ⟨h6,w1,mi6,w3⟩:=mi5.setRk hvl 1
 have gr5:=(g4.ext e5).sl
 have hc5:=hc2.ext e25
 have s5:h4++[AObj.cells ⟨[I 0],0,0,false⟩]=h5:=by rw[hh5]; rfl
 have rd3:=e3.get rd2
 have hD3:=hD2.ext e3
 rw[<-hh3]
 refine g3 @rd3 hD3.lenG @a4 ?_
 rw[s5]
 refine g6 hc5.idxG hc5.ld0 @hv @encI.eq_1 gr5.idxG @w1 ?_
 have b:MBs D acc h2 sD sA sc xs h.length:=⟨ok,hD2,hA2,hc2,lx,st,rd2⟩
 refine WP.ent (c4I (ot:=h.length+1) b (e1.trans e2) oM rt2 D.length 0 h6 _ _ _ _ _ _ _ _ _ _ oM mi6 ⟨⟨λj hj=>?_,λw hw=>?_,?_⟩,λa ha=>oM,rfl,by simp,by simp,rfl,rfl,λr hr=>by simp at hr⟩) λi=>rfl
 ·simp only[List.length_cons,List.length_nil] at hj
  obtain rfl:j=0:=oM
  exact l0
 ·rw[show gf ((List.replicate D.length (0:Int)).set v 1)=_ from gset (by simpa using hvl) _]
  by_cases q:w=v
  ·subst q
   exact .inr ⟨0,by simp,by simp,hv⟩
  ·refine .inl ⟨?_,λj hj=>?_⟩
   ·simp only[if_neg q]
    exact w2_ oM oM
   ·simp only[List.length_cons,List.length_nil] at hj
    obtain rfl:j=0:=oM
    have:gf xs (gf [0] 0)=(v:Int):=hv
    rw[this]; omega
 ·have e:(λw:Nat=>gf ((List.replicate D.length (0:Int)).set v 1) w-1)=up (λw:Nat=>gf (List.replicate D.length (0:Int)) w-1) v 0:=by
   funext w
   rw[show gf ((List.replicate D.length (0:Int)).set v 1)=_ from gset (by simpa using hvl) _]
   try simp only[up]
   split<;>rfl
  have z:∀x:Nat,x<D.length->gf (List.replicate D.length (0:Int)) x-1 = -1:=λx hx=>by
   have:gf (List.replicate D.length (0:Int)) x=0:=w2_ oM oM
   omega
  rw[e,un_up hvl (Int.le_refl _),if_pos (by have:=z v hvl; omega),b5S z]
  simp
def MinQ (D:List (List Int))(acc:List Bool)(lo:Nat)(r:AV)(h':Heap):Prop:=
 ∃(D':List (List Int)) (acc':List Bool) (sN sA:AV),r=.agg [sN,sA]/\Gr lo h'.length h' 5 sN (D'.map encR)/\Gr lo h'.length h' 1 sA (acc'.map encB)/\DOk D' acc'/\D'.length<=D.length/\
  ∀w:List Int,(∀m∈w,0<=m/\m<5)->gi acc (goS D 0 w)=gi acc' (goS D' 0 w)
theorem MinQ2.q (a:MinQ2 D acc lo r h'):MinQ D acc lo r h':=by
 obtain ⟨D',acc',sN,sA,a1,a2,a3,a4,a5,a6,_⟩:=a
 exact ⟨D',acc',sN,sA,a1,a2,a3,a4,a5,a6⟩
end
end Go.Gm.AZ
namespace Go.Gm
theorem tb_or (s q p:Nat):(s ||| 2 ^ q).testBit p=(s.testBit p || decide (p=q)):=by
 rw[Nat.testBit_or,Nat.testBit_two_pow]
 by_cases h:q=p
 ·subst h; simp
 ·simp[h,Ne.symm h]
def clo1 (fr:List (Nat × Nat))(s:Nat):Nat:=fr.foldl (λs f=>if s.testBit f.1 then s ||| 2 ^ f.2 else s) s
def cloN (fr:List (Nat × Nat)):Nat->Nat->Nat
 |0,s=>s
 |k+1,s=>if clo1 fr s=s then s else cloN fr k (clo1 fr s)
def cloF (n:Nat)(fr:List (Nat × Nat))(s:Nat):Nat:=cloN fr (n+1) s
inductive Rch (fr:List (Nat × Nat)) (s:Nat):Nat->Prop
 |here {p:Nat}:s.testBit p=true->Rch fr s p
 |on {p q:Nat}:Rch fr s p->(p,q)∈fr->Rch fr s q
theorem Rch.mono {s t:Nat}(h:∀p,s.testBit p=true->Rch fr t p){p:Nat}(k:Rch fr s p):Rch fr t p:=by
 induction k with
 |here h1=>exact h _ h1
 |on _ h2 ih=>exact .on ih h2
theorem b2D (fr0:List (Nat × Nat)):∀(fr:List (Nat × Nat)) (s:Nat),(∀f∈fr,f∈fr0)->(∀p,s.testBit p=true->(clo1 fr s).testBit p=true)/\(∀p,(clo1 fr s).testBit p=true->Rch fr0 s p)
 |[],s,_=>⟨λp h=>h,λp h=>.here h⟩
 |f::fr,s,hf=>by
  simp only[clo1,List.foldl_cons]
  by_cases h:s.testBit f.1=true
  ·rw[if_pos h]
   obtain ⟨h1,h2⟩:=b2D fr0 fr (s ||| 2 ^ f.2) λg hg=>hf g (List.mem_cons_of_mem _ hg)
   refine ⟨λp hp=>h1 p (by rw[tb_or,hp]; rfl),λp hp=>(h2 p hp).mono λq hq=>?_⟩
   rw[tb_or,Bool.or_eq_true,decide_eq_true_eq] at hq
   rcases hq with hq|hq
   ·exact .here hq
   ·rw[hq]; exact .on (.here h) (hf f (List.mem_cons_self ..))
  ·rw[if_neg h]
   exact b2D fr0 fr s λg hg=>hf g (List.mem_cons_of_mem _ hg)
theorem b3Q:∀(fr:List (Nat × Nat)) (s:Nat),clo1 fr s=s->∀f∈fr,s.testBit f.1=true->s.testBit f.2=true
 |[],s,_=>λf hf=>by cases hf
 |f::fr,s,h=>by
  simp only[clo1,List.foldl_cons] at h
  intro g hg hs
  by_cases h1:s.testBit f.1=true
  ·rw[if_pos h1] at h
   have h2:s.testBit f.2=true:=by
    have:=(b2D fr fr (s ||| 2 ^ f.2) λ_ z=>z).1 f.2 (by rw[tb_or]; simp)
    rw[show clo1 fr (s ||| 2 ^ f.2)=s from h] at this
    exact this
   have h3:s ||| 2 ^ f.2=s:=by
    refine Nat.eq_of_testBit_eq λp=>?_
    rw[tb_or]
    by_cases q:p=f.2
    ·subst q; rw[h2]; rfl
    ·simp[q]
   rw[h3] at h
   rcases List.mem_cons.1 hg with rfl|hg
   ·exact h2
   ·exact b3Q fr s h g hg hs
  ·rw[if_neg h1] at h
   rcases List.mem_cons.1 hg with rfl|hg
   ·exact absurd hs h1
   ·exact b3Q fr s h g hg hs
def outN (n s:Nat):Int:=un n λp=>if s.testBit p=true then 0 else -1
theorem b8p {c d:Nat->Int}:∀n,(∀x,x<n->c x<0->d x<0)->un n c<=un n d
 |0,_=>Int.le_refl _
 |n+1,h=>by
  have h1:=b8p n λx hx=>h x oM
  show un n c+(if c n<0 then 1 else 0)<=un n d+(if d n<0 then 1 else 0)
  by_cases q:c n<0
  ·rw[if_pos q,if_pos (h n oM q)]; omega
  ·rw[if_neg q]; split<;>omega
theorem un_lt {c d:Nat->Int}:∀n,(∀x,x<n->c x<0->d x<0)->∀x,x<n->¬c x<0->d x<0->un n c<un n d
 |0,_,x,hx,_,_=>oM
 |n+1,h,x,hx,h1,h2=>by
  have h3:=b8p n λx hx=>h x oM
  show un n c+(if c n<0 then 1 else 0)<un n d+(if d n<0 then 1 else 0)
  by_cases q:x=n
  ·subst q; rw[if_neg h1,if_pos h2]; omega
  ·have h4:=un_lt n (λx hx=>h x oM) x oM h1 h2
   by_cases q:c n<0
   ·rw[if_pos q,if_pos (h n oM q)]; omega
   ·rw[if_neg q]; split<;>omega
theorem c4w {n s t:Nat}(h:∀p,s.testBit p=true->t.testBit p=true)(hn:∀p,t.testBit p=true->p<n)(hne:t≠s):outN n t<outN n s:=by
 obtain ⟨p,hp⟩:∃p,t.testBit p≠s.testBit p:=by
  refine Classical.byContradiction λz=>hne (Nat.eq_of_testBit_eq λp=>?_)
  exact Classical.byContradiction λy=>z ⟨p,y⟩
 have ht:t.testBit p=true:=by
  cases hs:s.testBit p with
  |true=>exact h p hs
  |false=>rw[hs] at hp; simpa using hp
 have hs:¬s.testBit p=true:=λz=>hp (by rw[ht,z])
 refine un_lt n (λx hx h1=>?_) p (hn p ht) (by simp[ht]) (by simp[hs])
 by_cases q:s.testBit x=true
 ·rw[if_pos (h x q)] at h1; omega
 ·rw[if_neg q]; omega
theorem b8q {fr:List (Nat × Nat)}{n:Nat}(hf:∀f∈fr,f.2<n):∀(k s:Nat),(∀p,s.testBit p=true->p<n)->outN n s<k->clo1 fr (cloN fr k s)=cloN fr k s/\(∀p,s.testBit p=true->(cloN fr k s).testBit p=true)/\(∀p,(cloN fr k s).testBit p=true->Rch fr s p)
 |0,s,_,h=>by
  have:=m1_ n λp=>if s.testBit p=true then 0 else -1
  unfold outN at h
  omega
 |k+1,s,hs,h=>by
  obtain ⟨h1,h2⟩:=b2D fr fr s λ_ z=>z
  rw[cloN]
  by_cases q:clo1 fr s=s
  ·rw[if_pos q]; exact ⟨q,λp hp=>hp,λp hp=>.here hp⟩
  ·rw[if_neg q]
   have hlt:∀p,(clo1 fr s).testBit p=true->p<n:=λp hp=>by
    have:=h2 p hp
    cases this with
    |here h3=>exact hs p h3
    |on _ h4=>exact hf _ h4
   have:=c4w h1 hlt q
   obtain ⟨k1,k2,k3⟩:=b8q hf k (clo1 fr s) hlt oM
   exact ⟨k1,λp hp=>k2 p (h1 p hp),λp hp=>(k3 p hp).mono h2⟩
theorem a9p {fr:List (Nat × Nat)}{n s:Nat}(hf:∀f∈fr,f.2<n)(hs:∀p,s.testBit p=true->p<n)(p:Nat):(cloF n fr s).testBit p=true↔Rch fr s p:=by
 have hle:outN n s<(n+1:Nat):=by
  have:=un_le n λp=>if s.testBit p=true then 0 else -1
  unfold outN
  omega
 obtain ⟨h1,h2,h3⟩:=b8q hf (n+1) s hs hle
 refine ⟨h3 p,λh=>?_⟩
 induction h with
 |here h=>exact h2 _ h
 |on _ h4 ih=>exact b3Q fr _ h1 _ h4 ih
theorem b7h {fr:List (Nat × Nat)}{n s:Nat}(hf:∀f∈fr,f.2<n)(hs:∀p,s.testBit p=true->p<n){p:Nat}(h:Rch fr s p):p<n:=by
 cases h with
 |here h=>exact hs _ h
 |on _ h4=>exact hf _ h4
def stpF (st:List (Nat × Nat × Nat))(s m:Nat):Nat:=st.foldl (λt x=>if s.testBit x.1 && x.2.2.testBit m then t ||| 2 ^ x.2.1 else t) 0
theorem b4O {s m:Nat}:∀(st:List (Nat × Nat × Nat)) (t p:Nat),(st.foldl (λt x=>if s.testBit x.1 && x.2.2.testBit m then t ||| 2 ^ x.2.1 else t) t).testBit p=true↔t.testBit p=true\/∃x∈st,s.testBit x.1=true/\x.2.2.testBit m=true/\x.2.1=p
 |[],t,p=>by simp
 |x::st,t,p=>by
  rw[List.foldl_cons]
  by_cases h:(s.testBit x.1 && x.2.2.testBit m)=true
  ·rw[if_pos h,b4O st,tb_or]
   rw[Bool.and_eq_true] at h
   simp only[Bool.or_eq_true,decide_eq_true_eq,List.mem_cons,exists_eq_or_imp]
   constructor
   ·rintro ((h1|h1)|h1)
    ·exact .inl h1
    ·exact .inr (.inl ⟨h.1,h.2,h1.symm⟩)
    ·exact .inr (.inr h1)
   ·rintro (h1|⟨_,_,h1⟩|h1)
    ·exact .inl (.inl h1)
    ·exact .inl (.inr h1.symm)
    ·exact .inr h1
  ·rw[if_neg h,b4O st]
   rw[Bool.and_eq_true] at h
   simp only[List.mem_cons,exists_eq_or_imp]
   constructor
   ·rintro (h1|h1)
    ·exact .inl h1
    ·exact .inr (.inr h1)
   ·rintro (h1|⟨h1,h2,_⟩|h1)
    ·exact .inl h1
    ·exact absurd ⟨h1,h2⟩ h
    ·exact .inr h1
theorem a9q:(stpF st s m).testBit p=true↔∃x∈st,s.testBit x.1=true/\x.2.2.testBit m=true/\x.2.1=p:=by
 rw[stpF,b4O]; simp
def idxF (x:Nat):Nat->List Nat->Option Nat
 |_,[]=>none
 |i,y::l=>if y=x then some i else idxF x (i+1) l
def rowF (nf:NF)(lim s:Nat):Nat->Nat->List Nat->List Int->Option (List Nat × List Int)
 |0,_,sets,row=>some (sets,row)
 |k+1,m,sets,row=>
  let to:=cloF nf.n nf.fr (stpF nf.st s m)
  match idxF to 0 sets with
  |some j=>rowF nf lim s k (m+1) sets (row++[(j:Int)])
  |none=>if lim<=sets.length then none else rowF nf lim s k (m+1) (sets++[to]) (row++[(sets.length:Int)])
def subL (nf:NF)(lim:Nat):Nat->Nat->List Nat->List (List Int)->List Bool->Option (List (List Int) × List Bool)
 |0,_,_,_,_=>none
 |f+1,i,sets,D,acc=>match sets[i]? with
  |none=>some (D,acc)
  |some s=>match rowF nf lim s 5 0 sets [] with
   |none=>none
   |some (sets',row)=>subL nf lim f (i+1) sets' (D++[row]) (acc++[s.testBit nf.e])
def subF (nf:NF)(lim:Nat):Option (List (List Int) × List Bool):=subL nf lim (lim+2) 0 [cloF nf.n nf.fr (2 ^ nf.s)] [] []
end Go.Gm
namespace Go.Gm
def longer (l:List (List Int)):List (List Int):=l.flatMap λw=>[w++[0],w++[1],w++[2],w++[3],w++[4]]
def wl:Nat->List (List Int)
 |0=>[[]]
 |t+1=>longer (wl t)
theorem a7y:∀{t:Nat} {w:List Int},w∈wl t↔w.length=t/\∀c∈w,0<=c/\c<5
 |0,w=>by
  simp only[wl,List.mem_singleton]
  constructor
  ·rintro rfl; simp
  ·rintro ⟨h,_⟩; exact List.eq_nil_of_length_eq_zero h
 |t+1,w=>by
  simp only[wl,longer,List.mem_flatMap,a7y (t:=t),List.mem_cons,List.not_mem_nil,or_false]
  constructor
  ·rintro ⟨v,⟨h1,h2⟩,h⟩
   have hc:∀k:Int,0<=k->k<5->(v++[k]).length=t+1/\∀c∈v++[k],0<=c/\c<5:=by
    intro k k0 k1
    refine ⟨by simp[h1],λc hc=>?_⟩
    rcases List.mem_append.1 hc with hc|hc
    ·exact h2 c hc
    ·rw[List.mem_singleton.1 hc]; exact ⟨k0,k1⟩
   rcases h with rfl|rfl|rfl|rfl|rfl
   ·exact hc 0 oM oM
   ·exact hc 1 oM oM
   ·exact hc 2 oM oM
   ·exact hc 3 oM oM
   ·exact hc 4 oM oM
  ·rintro ⟨h1,h2⟩
   have hne:w≠[]:=by rintro rfl; simp at h1
   refine ⟨w.dropLast,⟨by simp[h1],λc hc=>h2 c (List.dropLast_subset _ hc)⟩,?_⟩
   have hl:=h2 (w.getLast hne) (List.getLast_mem hne)
   have he:w.dropLast++[w.getLast hne]=w:=List.dropLast_concat_getLast hne
   obtain ⟨k,hk⟩:∃k,w.getLast hne=k:=⟨_,rfl⟩
   rw[hk] at hl he
   have:k=0\/k=1\/k=2\/k=3\/k=4:=oM
   rcases this with q|q|q|q|q<;>subst q<;>simp[he]
open Classical in
noncomputable def wordsN (n:Nd) (most:Nat):List (List Int):=((List.range (most+1)).flatMap wl).filter λw=>decide (In n w)
def incR:List Int->List Int × Bool
 |[]=>([],true)
 |c::r=>if c+1<5 then ((c+1)::r,false) else (0::(incR r).1,(incR r).2)
def inc (w:List Int):List Int × Bool:=((incR w.reverse).1.reverse,(incR w.reverse).2)
def nxt (w:List Int):List Int:=if (inc w).2 then (inc w).1++[0] else (inc w).1
end Go.Gm
namespace Go.Gm
theorem b2l:In (.set s) w↔∃c,w=[c]/\0<=c/\c<5/\s.testBit c.toNat=true:=by
 simp only[In,R,hit]
 constructor
 ·rintro ⟨⟨c,h1,h2⟩,h3⟩
  match w,h1,h3 with
  |[x],h1,_=>simp at h1; subst h1; exact ⟨x,rfl,h2⟩
 ·rintro ⟨c,rfl,h⟩
  exact ⟨⟨c,rfl,h⟩,rfl⟩
theorem Star.iff:Star r i j↔i=j\/∃m,r i m/\Star r m j:=by
 constructor
 ·intro h
  induction h with
  |refl=>exact .inl rfl
  |tail a b ih=>
   rcases ih with rfl|⟨m,u1,u2⟩
   ·exact .inr ⟨_,b,.refl _⟩
   ·exact .inr ⟨m,u1,.tail u2 b⟩
 ·rintro (rfl|⟨m,h1,h2⟩)
  ·exact .refl _
  ·exact .head h1 h2
section
variable {k L:Nat} {r r':Nat->Nat->Prop}
theorem Star.up (h:∀i j,r' i j->r (k+i) (k+j)){i j:Nat}(a:Star r' i j):Star r (k+i) (k+j):=by
 induction a with
 |refl=>exact .refl _
 |tail _ b ih=>exact .tail ih (h _ _ b)
theorem Pow.up (h:∀i j,r' i j->r (k+i) (k+j)):∀{t i j:Nat},Pow r' t i j->Pow r t (k+i) (k+j)
 |0,i,j,a=>by cases a; exact rfl
 |t+1,i,j,⟨m,a,b⟩=>⟨k+m,Pow.up h a,h _ _ b⟩
theorem Star.dn (hm:∀i j,r i j->i<=j)(h:∀i y,r (k+i) y->y<=k+L->∃j,y=k+j/\r' i j){x y:Nat}(a:Star r x y):∀i,x=k+i->y<=k+L->∃j,y=k+j/\Star r' i j:=by
 induction a with
 |refl=>intro i hi _; exact ⟨i,hi,.refl _⟩
 |tail _ b ih=>
  intro i hi hy
  obtain ⟨j,rfl,h1⟩:=ih i hi (Nat.le_trans (hm _ _ b) hy)
  obtain ⟨j',rfl,h2⟩:=h _ _ b hy
  exact ⟨j',rfl,.tail h1 h2⟩
theorem Pow.dn (hm:∀i j,r i j->i<=j)(h:∀i y,r (k+i) y->y<=k+L->∃j,y=k+j/\r' i j):∀{t i y:Nat},Pow r t (k+i) y->y<=k+L->∃j,y=k+j/\Pow r' t i j
 |0,i,y,a,_=>⟨i,(show k+i=y from a).symm,rfl⟩
 |t+1,i,y,⟨m,a,b⟩,hy=>by
  obtain ⟨j,rfl,h1⟩:=Pow.dn hm h a (Nat.le_trans (hm _ _ b) hy)
  obtain ⟨j',rfl,h2⟩:=h _ _ b hy
  exact ⟨j',rfl,j,h1,h2⟩
end
section
variable (u v z:List Int)
end
end Go.Gm
namespace Go.Gm
theorem Pow.head:∀{t i j:Nat},Pow r (t+1) i j↔∃m,r i m/\Pow r t m j
 |0,i,j=>by
  constructor
  ·rintro ⟨m,h,k⟩; cases h; exact ⟨j,k,rfl⟩
  ·rintro ⟨m,h,k⟩; cases k; exact ⟨i,rfl,h⟩
 |t+1,i,j=>by
  constructor
  ·rintro ⟨m,h,k⟩
   obtain ⟨p,h1,h2⟩:=(Pow.head (t:=t)).1 h
   exact ⟨p,h1,m,h2,k⟩
  ·rintro ⟨p,h1,m,h2,k⟩
   exact ⟨m,(Pow.head (t:=t)).2 ⟨p,h1,h2⟩,k⟩
theorem Star.imp {r r':Nat->Nat->Prop}(h:∀i j,r i j->r' i j){i j:Nat}(a:Star r i j):Star r' i j:=by
 induction a with
 |refl=>exact .refl _
 |tail _ b ih=>exact .tail ih (h _ _ b)
theorem Pow.imp {r r':Nat->Nat->Prop}(h:∀i j,r i j->r' i j):∀{t i j:Nat},Pow r t i j->Pow r' t i j
 |0,_,_,a=>a
 |t+1,_,_,⟨m,a,b⟩=>⟨m,Pow.imp h a,h _ _ b⟩
theorem b1u {most:Nat}{p:List Int->Bool}(h:∀t,t<=most->∀w∈wl t,(In n w↔p w=true)):wordsN n most=((List.range (most+1)).flatMap wl).filter p:=by
 refine List.filter_congr λw hw=>?_
 simp only[List.mem_flatMap,List.mem_range] at hw
 obtain ⟨t,h1,h2⟩:=hw
 have:=h t oM w h2
 cases hp:p w with
 |true=>simp[this.2 hp]
 |false=>simp[show ¬In n w from λq=>by rw[this.1 q] at hp; cases hp]
theorem b0P {α:Type}(l:List Nat)(f:Nat->List α)(p:α->Bool):(l.flatMap f).filter p=l.flatMap λt=>(f t).filter p:=by
 induction l with
 |nil=>rfl
 |cons a l ih=>simp[ih]
def bN (b:Bool):Nat:=if b then 1 else 0
def manyN (s:Nat):Nat:=bN (s.testBit 0)+bN (s.testBit 1)+bN (s.testBit 2)+bN (s.testBit 3)+bN (s.testBit 4)
def sel (p0 p1 p2 p3 p4:Bool)(c:Int):Bool:=if c=0 then p0 else if c=1 then p1 else if c=2 then p2 else if c=3 then p3 else p4
def selS (s:Nat)(c:Int):Bool:=sel (s.testBit 0) (s.testBit 1) (s.testBit 2) (s.testBit 3) (s.testBit 4) c
theorem a8D {c:Int}(h0:0<=c)(h5:c<5):selS s c=s.testBit c.toNat:=by
 have:c=0\/c=1\/c=2\/c=3\/c=4:=oM
 rcases this with rfl|rfl|rfl|rfl|rfl<;>rfl
def p1 (f:Int->Bool):List Int->Bool
 |[c]=>f c
 |_=>false
def p2 (f g:Int->Bool):List Int->Bool
 |[c,d]=>f c && g d
 |_=>false
theorem c1:∀p0 p1' p2' p3 p4:Bool,((wl 1).filter (p1 (sel p0 p1' p2' p3 p4))).length=bN p0+bN p1'+bN p2'+bN p3+bN p4:=by decide +kernel
theorem c2:∀p0 p1' p2' p3 p4 q0 q1 q2 q3 q4:Bool,((wl 2).filter (p2 (sel p0 p1' p2' p3 p4) (sel q0 q1 q2 q3 q4))).length=(bN p0+bN p1'+bN p2'+bN p3+bN p4)*(bN q0+bN q1+bN q2+bN q3+bN q4):=by decide +kernel
theorem b3d {t:Nat}{p:List Int->Bool}(h:∀w:List Int,w.length=t->p w=false):(wl t).filter p=[]:=by
 rw[List.filter_eq_nil_iff]
 intro w hw
 rw[h w (a7y.1 hw).1]; simp
theorem p1_ne {t:Nat}(ht:t≠1)(w:List Int)(h:w.length=t):p1 f w=false:=by
 match w,h with
 |[],_=>rfl
 |[c],h=>simp at h; omega
 |_::_::_,_=>rfl
theorem In_p1 {w:List Int}(hw:∀c∈w,0<=c/\c<5):In (.set s) w↔p1 (selS s) w=true:=by
 rw[b2l]
 constructor
 ·rintro ⟨c,rfl,h0,h5,hb⟩
  show selS s c=true
  rw[a8D h0 h5,hb]
 ·intro h
  match w,hw,h with
  |[c],hw,h=>
   have hc:=hw c (by simp)
   exact ⟨c,rfl,hc.1,hc.2,by rw[<-a8D hc.1 hc.2]; exact h⟩
theorem count_set {s most:Nat}(hm:most<=3):(wordsN (.set s) most).length=if most<1 then 0 else manyN s:=by
 rw[b1u (p:=p1 (selS s)) λt _ w hw=>In_p1 (a7y.1 hw).2,b0P]
 have h1:((wl 1).filter (p1 (selS s))).length=manyN s:=c1 ..
 have hn:∀t,t≠1->(wl t).filter (p1 (selS s))=[]:=λt ht=>b3d (p1_ne ht)
 have:most=0\/most=1\/most=2\/most=3:=oM
 rcases this with rfl|rfl|rfl|rfl<;>simp[List.range_succ,hn,h1]
end Go.Gm
namespace Go.Gm
abbrev Stp:=List (Nat × Nat × Nat)
abbrev Fre:=List (Nat × Nat)
inductive Pt (w:List Int) (st:Stp) (fr:Fre) (q i:Nat):Nat->Nat->Prop
 |refl:Pt w st fr q i q i
 |free {p r j:Nat}:Pt w st fr q i p j->(p,r)∈fr->Pt w st fr q i r j
 |step {p r k j:Nat}:Pt w st fr q i p j->(p,r,k)∈st->hit w k j->Pt w st fr q i r (j+1)
section
variable {w:List Int} {st st':Stp} {fr fr':Fre}
theorem Pt.trans (a:Pt w st fr q i p j)(b:Pt w st fr p j r k):Pt w st fr q i r k:=by
 induction b with
 |refl=>exact a
 |free _ h ih=>exact .free ih h
 |step _ h1 h2 ih=>exact .step ih h1 h2
theorem Pt.one {q p i:Nat}(h:(q,p)∈fr):Pt w st fr q i p i:=.free .refl h
theorem Pt.mono (h1:∀x∈st,x∈st')(h2:∀x∈fr,x∈fr')(a:Pt w st fr q i p j):Pt w st' fr' q i p j:=by
 induction a with
 |refl=>exact .refl
 |free _ h ih=>exact .free ih (h2 _ h)
 |step _ h k ih=>exact .step ih (h1 _ h) k
def Clo (w:List Int)(st:Stp)(fr:Fre)(V:Nat->Nat->Prop):Prop:=(∀p r,(p,r)∈fr->∀j,V p j->V r j)/\∀p r k,(p,r,k)∈st->∀j,V p j->hit w k j->V r (j+1)
theorem Clo.pt (c:Clo w st fr V)(h:V q i)(a:Pt w st fr q i p j):V p j:=by
 induction a with
 |refl=>exact h
 |free _ h ih=>exact c.1 _ _ h _ ih
 |step _ h k ih=>exact c.2 _ _ _ h _ ih k
end
structure Frg (n:Nd) (b b':NS) (s e:Nat) (S:Stp) (F:Fre):Prop where
 st:b'.st=b.st++S
 fr:b'.fr=b.fr++F
 ls:b.n<=s/\s<b'.n
 le:b.n<=e/\e<b'.n
 eS:∀x∈S,b.n<=x.1/\x.1<b'.n/\b.n<=x.2.1/\x.2.1<b'.n
 eF:∀x∈F,b.n<=x.1/\x.1<b'.n/\b.n<=x.2/\x.2<b'.n
 com:∀w i j,R w n i j->Pt w S F s i e j
 snd:∀(w:List Int) (A:Nat->Prop),∃V:Nat->Nat->Prop,(∀q j,V q j->b.n<=q/\q<b'.n)/\Clo w S F V/\(∀j,A j->V s j)/\∀j,V e j->∃i,A i/\R w n i j
structure Frs (ns:List Nd) (b b':NS) (ft:List (Nat × Nat)) (S:Stp) (F:Fre):Prop where
 st:b'.st=b.st++S
 fr:b'.fr=b.fr++F
 len:ft.length=ns.length
 le:b.n<=b'.n
 lt:∀(k:Nat) (x:Nat × Nat),ft[k]?=some x->b.n<=x.1/\x.1<b'.n/\b.n<=x.2/\x.2<b'.n
 eS:∀x∈S,b.n<=x.1/\x.1<b'.n/\b.n<=x.2.1/\x.2.1<b'.n
 eF:∀x∈F,b.n<=x.1/\x.1<b'.n/\b.n<=x.2/\x.2<b'.n
 com:∀w (k:Nat) (x:Nat × Nat) n,ft[k]?=some x->ns[k]?=some n->∀i j,R w n i j->Pt w S F x.1 i x.2 j
 snd:∀(w:List Int) (A:Nat->Nat->Prop),∃V:Nat->Nat->Prop,(∀q j,V q j->b.n<=q/\q<b'.n)/\Clo w S F V/\∀(k:Nat) (x:Nat × Nat) n,ft[k]?=some x->ns[k]?=some n->(∀j,A k j->V x.1 j)/\∀j,V x.2 j->∃i,A k i/\R w n i j
theorem Frs.nil (b:NS):Frs [] b b [] [] []:=
 ⟨by simp,by simp,rfl,Nat.le_refl _,(λk x h=>by simp at h),(λx h=>by cases h),(λx h=>by cases h),(λw k x n h=>by simp at h),λw A=>⟨λ_ _=>False,λ_ _ h=>h.elim,⟨(λ_ _ h=>by cases h),(λ_ _ _ h=>by cases h)⟩,λk x n h=>by simp at h⟩⟩
theorem Frs.cons {n:Nd}{ns:List Nd}{b b1 b2:NS}{x:Nat × Nat}{ft:List (Nat × Nat)}{S S':Stp}{F F':Fre}(a:Frg n b b1 x.1 x.2 S F)(c:Frs ns b1 b2 ft S' F'):Frs (n::ns) b b2 (x::ft) (S++S') (F++F'):=by
 have h1:=a.ls
 have h2:=a.le
 have h3:=c.le
 refine ⟨by rw[c.st,a.st,List.append_assoc],by rw[c.fr,a.fr,List.append_assoc],by simp[c.len],oM,λk y h=>?_,λy h=>?_,λy h=>?_,λw k y m h h' i j hr=>?_,λw A=>?_⟩
 ·cases k with
  |zero=>simp at h; subst h; omega
  |succ k=>have:=c.lt k y (by simpa using h); omega
 ·rcases List.mem_append.1 h with h|h
  ·have:=a.eS y h; omega
  ·have:=c.eS y h; omega
 ·rcases List.mem_append.1 h with h|h
  ·have:=a.eF y h; omega
  ·have:=c.eF y h; omega
 ·cases k with
  |zero=>
   simp at h h'
   subst h h'
   exact (a.com w i j hr).mono (λz hz=>List.mem_append_left _ hz) λz hz=>List.mem_append_left _ hz
  |succ k=>exact (c.com w k y m (by simpa using h) (by simpa using h') i j hr).mono (λz hz=>List.mem_append_right _ hz) λz hz=>List.mem_append_right _ hz
 ·obtain ⟨V,v1,v2,v3,v4⟩:=a.snd w (A 0)
  obtain ⟨U,u1,u2,u3⟩:=c.snd w (λk=>A (k+1))
  refine ⟨λq j=>V q j\/U q j,λq j h=>?_,⟨λp r h j hv=>?_,λp r k h j hv hh=>?_⟩,λk y m h h'=>?_⟩
  ·rcases h with h|h
   ·have:=v1 q j h; omega
   ·have:=u1 q j h; omega
  ·rcases List.mem_append.1 h with h|h
   ·have he:=a.eF _ h
    rcases hv with hv|hv
    ·exact .inl (v2.1 p r h j hv)
    ·have:=u1 p j hv; simp only at he; omega
   ·have he:=c.eF _ h
    rcases hv with hv|hv
    ·have:=v1 p j hv; simp only at he; omega
    ·exact .inr (u2.1 p r h j hv)
  ·rcases List.mem_append.1 h with h|h
   ·have he:=a.eS _ h
    rcases hv with hv|hv
    ·exact .inl (v2.2 p r k h j hv hh)
    ·have:=u1 p j hv; simp only at he; omega
   ·have he:=c.eS _ h
    rcases hv with hv|hv
    ·have:=v1 p j hv; simp only at he; omega
    ·exact .inr (u2.2 p r k h j hv hh)
  ·cases k with
   |zero=>
    simp at h h'
    subst h h'
    refine ⟨λj hj=>.inl (v3 j hj),λj hj=>?_⟩
    rcases hj with hj|hj
    ·exact v4 j hj
    ·have:=u1 _ j hj; omega
   |succ k=>
    have hk:ft[k]?=some y:=by simpa using h
    obtain ⟨w1,w2⟩:=u3 k y m hk (by simpa using h')
    have hl:=c.lt k y hk
    refine ⟨λj hj=>.inr (w1 j hj),λj hj=>?_⟩
    rcases hj with hj|hj
    ·have:=v1 _ j hj; omega
    ·exact w2 j hj
def PSp (p:NS->List (Nat × Nat) × NS)(ns:List Nd):Prop:=∀b,(p b).2.much=false->b.much=false/\∃S F,Frs ns b (p b).2 (p b).1 S F
theorem PSp.none:PSp (λb=>([],b)) []:=λb h=>⟨h,[],[],Frs.nil b⟩
theorem c5z (b:NS)(s e:Nat)(l:List (Nat × Nat))(n:Nd):(b.lead s e l n).n=b.n/\(b.lead s e l n).much=b.much:=by
 cases n<;>exact ⟨rfl,rfl⟩
theorem Frs.around {b b3:NS}{S S0:Stp}{F F0:Fre}(f:Frs ns ⟨b.n+1,b.much,b.st,b.fr⟩ ⟨b3.n-1,b3.much,b3.st,b3.fr⟩ ft S F)(h2:b.n+2<=b3.n)(hS:(b3.lead b.n (b3.n-1) ft n).st=b3.st++S0)(hF:(b3.lead b.n (b3.n-1) ft n).fr=b3.fr++F0)(eS:∀x∈S0,x.1=b.n/\x.2.1=b3.n-1)(eF:∀x∈F0,(x.1=b.n\/∃y∈ft,x.1=y.2)/\(x.2=b3.n-1\/∃y∈ft,x.2=y.1))(com:∀w i j,R w n i j->Pt w (S++S0) (F++F0) b.n i (b3.n-1) j)(snd:∀(w:List Int) (A:Nat->Prop),∃(B:Nat->Nat->Prop) (E:Nat->Prop),(∀j,E j->∃i,A i/\R w n i j)/\
   (∀p r k,(p,r,k)∈S0->∀j,A j->hit w k j->E (j+1))/\
   (∀V:Nat->Nat->Prop,(∀j,A j->V b.n j)->(∀j,V b.n j->A j)->(∀j,E j->V (b3.n-1) j)->(∀(k:Nat) (x:Nat × Nat) m,ft[k]?=some x->ns[k]?=some m->(∀j,B k j->V x.1 j)/\∀j,V x.2 j->∃i,B k i/\R w m i j)->∀p r,(p,r)∈F0->∀j,V p j->V r j)) :
  ∃S F,Frg n b (b3.lead b.n (b3.n-1) ft n) b.n (b3.n-1) S F:=by
 have hn:=(c5z b3 b.n (b3.n-1) ft n).1
 have hlt:∀y∈ft,b.n+1<=y.1/\y.1<b3.n-1/\b.n+1<=y.2/\y.2<b3.n-1:=λy hy=>by
  obtain ⟨k,hk,h⟩:=List.getElem_of_mem hy
  exact f.lt k y (by rw[List.getElem?_eq_getElem hk,h])
 have fS:=f.eS
 have fF:=f.eF
 simp only at fS fF
 refine ⟨S++S0,F++F0,⟨by rw[hS,show b3.st=_ from f.st,List.append_assoc],by rw[hF,show b3.fr=_ from f.fr,List.append_assoc],oM,oM,λx hx=>?_,λx hx=>?_,com,λw A=>?_⟩⟩
 ·rcases List.mem_append.1 hx with hx|hx
  ·have:=fS x hx; omega
  ·have:=eS x hx; omega
 ·rcases List.mem_append.1 hx with hx|hx
  ·have:=fF x hx; omega
  ·obtain ⟨h3,h4⟩:=eF x hx
   have h5:b.n<=x.1/\x.1<b3.n:=by
    rcases h3 with h3|⟨y,hy,h3⟩
    ·omega
    ·have:=hlt y hy; omega
   have h6:b.n<=x.2/\x.2<b3.n:=by
    rcases h4 with h4|⟨y,hy,h4⟩
    ·omega
    ·have:=hlt y hy; omega
   omega
 ·obtain ⟨B,E,s1,s2,s3⟩:=snd w A
  obtain ⟨V,v1,v2,v3⟩:=f.snd w B
  simp only at v1
  obtain ⟨U,hU⟩:∃U:Nat->Nat->Prop,U=λq j=>(q=b.n/\A j)\/(q=b3.n-1/\E j)\/V q j:=⟨_,rfl⟩
  have u1:∀j,U b.n j->A j:=λj h=>by
   rw[hU] at h
   rcases h with h|h|h
   ·exact h.2
   ·omega
   ·have:=v1 _ _ h; omega
  have u2:∀j,U (b3.n-1) j->E j:=λj h=>by
   rw[hU] at h
   rcases h with h|h|h
   ·omega
   ·exact h.2
   ·have:=v1 _ _ h; omega
  have u3:∀q j,b.n+1<=q->q<b3.n-1->(U q j↔V q j):=λq j h1 h2=>by
   rw[hU]
   constructor
   ·rintro (h|h|h)
    ·omega
    ·omega
    ·exact h
   ·exact λh=>.inr (.inr h)
  have ua:∀j,A j->U b.n j:=λj h=>by rw[hU]; exact .inl ⟨rfl,h⟩
  have ue:∀j,E j->U (b3.n-1) j:=λj h=>by rw[hU]; exact .inr (.inl ⟨rfl,h⟩)
  refine ⟨U,λq j h=>?_,⟨λp r h j hv=>?_,λp r k h j hv hh=>?_⟩,ua,λj h=>s1 j (u2 j h)⟩
  ·rw[hU] at h
   rcases h with h|h|h
   ·omega
   ·omega
   ·have:=v1 _ _ h; omega
  ·rcases List.mem_append.1 h with h|h
   ·have:=fF _ h
    simp only at this
    rw[u3 p j oM oM] at hv
    rw[u3 r j oM oM]
    exact v2.1 p r h j hv
   ·refine s3 U ua u1 ue (λk x m hk hm=>?_) p r h j hv
    obtain ⟨w1,w2⟩:=v3 k x m hk hm
    have hl:=f.lt k x hk
    simp only at hl
    exact ⟨λj hj=>(u3 _ _ hl.1 hl.2.1).2 (w1 j hj),λj hj=>w2 j ((u3 _ _ hl.2.2.1 hl.2.2.2).1 hj)⟩
  ·rcases List.mem_append.1 h with h|h
   ·have:=fS _ h
    simp only at this
    rw[u3 p j oM oM] at hv
    rw[u3 r (j+1) oM oM]
    exact v2.2 p r k h j hv hh
   ·have:=eS _ h
    simp only at this
    obtain ⟨rfl,rfl⟩:=this
    exact ue _ (s2 _ _ _ h j (u1 j hv) hh)
theorem b2A {α:Type}{l:List α}{x:α}(h:x∈l):∃k:Nat,l[k]?=some x:=by
 obtain ⟨k,hk,h⟩:=List.getElem_of_mem h
 exact ⟨k,by rw[List.getElem?_eq_getElem hk,h]⟩
theorem Star.snd (h:Star r a i)(k:r i j):∃m,r a m/\Star r m j:=by
 rcases Star.iff.1 h with rfl|⟨m,h1,h2⟩
 ·exact ⟨j,k,.refl _⟩
 ·exact ⟨m,h1,.tail h2 k⟩
structure NfOk (nf:NF):Prop where
 s:nf.s<nf.n
 e:nf.e<nf.n
 st:∀x∈nf.st,x.1<nf.n/\x.2.1<nf.n
 fr:∀x∈nf.fr,x.1<nf.n/\x.2<nf.n
end Go.Gm
namespace Go.Gm
theorem b5u:∀{l:List Nat} {i j:Nat},idxF x i l=some j->i<=j/\l[j-i]?=some x
 |[],i,j,h=>by simp[idxF] at h
 |y::l,i,j,h=>by
  rw[idxF] at h
  by_cases q:y=x
  ·rw[if_pos q] at h
   injection h with h
   subst h
   exact ⟨Nat.le_refl _,by simp[q]⟩
  ·rw[if_neg q] at h
   obtain ⟨h1,h2⟩:=b5u h
   exact ⟨oM,by rw[show j-i=j-(i+1)+1 by omega]; simpa using h2⟩
abbrev nxtF (nf:NF)(s m:Nat):Nat:=cloF nf.n nf.fr (stpF nf.st s m)
def RowOk (nf:NF)(sets:List Nat)(s:Nat)(r:List Int)(m0 k:Nat):Prop:=r.length=k/\∀t,t<k->∃j:Nat,r[t]?=some (j:Int)/\sets[j]?=some (nxtF nf s (m0+t))
theorem a2N {α:Type}{l e:List α}{j:Nat}{x:α}(h:l[j]?=some x):(l++e)[j]?=some x:=by
 rw[List.getElem?_append_left (List.getElem?_eq_some_iff.1 h).1]; exact h
theorem b4P:∀(k m:Nat) (sets:List Nat) (row:List Int) {sets':List Nat} {row':List Int},rowF nf lim s k m sets row=some (sets',row')->(∃e,sets'=sets++e)/\(∃r,row'=row++r/\RowOk nf sets' s r m k)/\(sets'.length<=sets.length\/sets'.length<=lim)
 |0,m,sets,row,sets',row',h=>by
  simp only[rowF,Option.some.injEq,Prod.mk.injEq] at h
  obtain ⟨rfl,rfl⟩:=h
  exact ⟨⟨[],by simp⟩,⟨[],by simp,rfl,λt ht=>oM⟩,.inl (Nat.le_refl _)⟩
 |k+1,m,sets,row,sets',row',h=>by
  simp only[rowF] at h
  split at h
  ·rename_i j hj
   obtain ⟨⟨e,h1⟩,⟨r,h2,h3,h4⟩,h5⟩:=b4P k (m+1) _ _ h
   obtain ⟨_,hj2⟩:=b5u hj
   rw[Nat.sub_zero] at hj2
   refine ⟨⟨e,h1⟩,⟨(j:Int)::r,by rw[h2]; simp,by simp[h3],λt ht=>?_⟩,h5⟩
   cases t with
   |zero=>exact ⟨j,rfl,by rw[h1]; exact a2N hj2⟩
   |succ t=>
    obtain ⟨j',k1,k2⟩:=h4 t oM
    exact ⟨j',by simpa using k1,by rw[k2,show m+1+t=m+(t+1) by omega]⟩
  ·rename_i hj
   split at h
   ·cases h
   ·rename_i hl
    obtain ⟨⟨e,h1⟩,⟨r,h2,h3,h4⟩,h5⟩:=b4P k (m+1) _ _ h
    refine ⟨⟨nxtF nf s m::e,by rw[h1]; simp⟩,⟨(sets.length:Int)::r,by rw[h2]; simp,by simp[h3],λt ht=>?_⟩,?_⟩
    ·cases t with
     |zero=>exact ⟨sets.length,rfl,by rw[h1]; exact a2N (by simp)⟩
     |succ t=>
      obtain ⟨j',k1,k2⟩:=h4 t oM
      exact ⟨j',by simpa using k1,by rw[k2,show m+1+t=m+(t+1) by omega]⟩
    ·rcases h5 with h5|h5
     ·simp only[List.length_append,List.length_cons,List.length_nil] at h5
      right; omega
     ·exact .inr h5
theorem RowOk.grow (h:RowOk nf sets s r m0 k)(e:List Nat):RowOk nf (sets++e) s r m0 k:=
 ⟨h.1,λt ht=>by obtain ⟨j,h1,h2⟩:=h.2 t ht; exact ⟨j,h1,a2N h2⟩⟩
structure SubI (nf:NF) (lim:Nat) (sets:List Nat) (D:List (List Int)) (acc:List Bool) (i:Nat):Prop where
 s0:sets[0]?=some (cloF nf.n nf.fr (2 ^ nf.s))
 ld:D.length=i
 la:acc.length=i
 il:i<=sets.length
 sl:sets.length<=1\/sets.length<=lim
 row:∀a s,a<i->sets[a]?=some s->∃r,D[a]?=some r/\RowOk nf sets s r 0 5/\acc[a]?=some (s.testBit nf.e)
theorem SubI.add {sets sets':List Nat}{row:List Int}(h:SubI nf lim sets D acc i)(hs:sets[i]?=some s)(hr:rowF nf lim s 5 0 sets []=some (sets',row)):SubI nf lim sets' (D++[row]) (acc++[s.testBit nf.e]) (i+1):=by
 obtain ⟨⟨e,rfl⟩,⟨r,h2,h3⟩,h4⟩:=b4P 5 0 sets [] hr
 rw[List.nil_append] at h2
 subst h2
 have hi:=(List.getElem?_eq_some_iff.1 hs).1
 refine ⟨a2N h.s0,by simp[h.ld],by simp[h.la],by simp; omega,?_,λa t ha ht=>?_⟩
 ·rcases h4 with h4|h4
  ·rcases h.sl with h5|h5
   ·left; omega
   ·right; omega
  ·exact .inr h4
 ·by_cases q:a=i
  ·subst q
   rw[a2N hs] at ht
   injection ht with ht
   subst ht
   refine ⟨row,?_,h3,?_⟩
   ·rw[<-h.ld]; simp
   ·rw[<-h.la]; simp
  ·have h5:sets[a]?=some t:=by
    rw[List.getElem?_append_left oM] at ht; exact ht
   obtain ⟨r',k1,k2,k3⟩:=h.row a t oM h5
   exact ⟨r',a2N k1,k2.grow e,a2N k3⟩
theorem b8r:∀(f i:Nat) (sets:List Nat) (D:List (List Int)) (acc:List Bool) {D':List (List Int)} {acc':List Bool},subL nf lim f i sets D acc=some (D',acc')->SubI nf lim sets D acc i->∃sets',SubI nf lim sets' D' acc' sets'.length
 |0,i,sets,D,acc,D',acc',h,_=>by simp[subL] at h
 |f+1,i,sets,D,acc,D',acc',h,hi=>by
  simp only[subL] at h
  split at h
  ·rename_i hn
   injection h with h
   injection h with h1 h2
   subst h1 h2
   have h3:=List.getElem?_eq_none_iff.1 hn
   have h4:=hi.il
   have:i=sets.length:=oM
   exact ⟨sets,this▸hi⟩
  ·rename_i s hs
   split at h
   ·cases h
   ·rename_i sets' row hr
    exact b8r f (i+1) _ _ _ h (hi.add hs hr)
theorem b4Q {D:List (List Int)}{acc:List Bool}(h:subF nf lim=some (D,acc)):∃sets,SubI nf lim sets D acc sets.length:=
 b8r _ _ _ _ _ h ⟨rfl,rfl,rfl,by simp,.inl (by simp),λa s ha=>oM⟩
section
variable {nf:NF} {w:List Int}
def Stn (nf:NF)(w:List Int)(s k:Nat):Prop:=∀q,s.testBit q=true↔Pt w nf.st nf.fr nf.s 0 q k
theorem Stn.zero (ok:NfOk nf):Stn nf w (cloF nf.n nf.fr (2 ^ nf.s)) 0:=by
 intro q
 have hb:∀p,(2 ^ nf.s).testBit p=true↔p=nf.s:=λp=>by rw[Nat.testBit_two_pow]; simp[eq_comm]
 rw[a9p (λf hf=>(ok.fr f hf).2) (λp hp=>by rw[(hb p).1 hp]; exact ok.s)]
 constructor
 ·intro h
  induction h with
  |here h=>rw[(hb _).1 h]; exact .refl
  |on _ h ih=>exact .free ih h
 ·intro h
  have:∀p j,Pt w nf.st nf.fr nf.s 0 p j->j=0->Rch nf.fr (2 ^ nf.s) p:=by
   intro p j h
   induction h with
   |refl=>exact λ_=>.here ((hb _).2 rfl)
   |free _ h ih=>exact λe=>.on (ih e) h
   |step _ _ _ _=>intro e; omega
  exact this q 0 h rfl
theorem Stn.next (ok:NfOk nf){m:Nat}(h:Stn nf w s k)(hw:w[k]?=some (m:Int))(hm:m<5):Stn nf w (nxtF nf s m) (k+1):=by
 intro q
 have hs:∀p,(stpF nf.st s m).testBit p=true->p<nf.n:=λp hp=>by
  obtain ⟨x,hx,_,_,rfl⟩:=a9q.1 hp
  exact (ok.st x hx).2
 rw[nxtF,a9p (λf hf=>(ok.fr f hf).2) hs]
 have hit:∀ks,hit w ks k↔ks.testBit m=true:=λks=>by
  constructor
  ·rintro ⟨c,h1,h2,h3,h4⟩
   rw[hw] at h1
   injection h1 with h1
   subst h1
   simpa using h4
  ·exact λh4=>⟨m,hw,oM,oM,by simpa using h4⟩
 constructor
 ·intro hr
  induction hr with
  |here hp=>
   obtain ⟨⟨a,b,c⟩,hx,h1,h2,h3⟩:=a9q.1 hp
   simp only at h1 h2 h3
   subst h3
   exact .step ((h a).1 h1) hx ((hit c).2 h2)
  |on _ h ih=>exact .free ih h
 ·intro hp
  have:∀p j,Pt w nf.st nf.fr nf.s 0 p j->j=k+1->Rch nf.fr (stpF nf.st s m) p:=by
   intro p j hp
   induction hp with
   |refl=>intro e; omega
   |free _ h ih=>exact λe=>.on (ih e) h
   |@step p r c j h1 h2 h3 _=>
    intro e
    obtain rfl:j=k:=oM
    exact .here (a9q.2 ⟨(p,r,c),h2,(h p).2 h1,(hit c).1 h3,rfl⟩)
  exact this q _ hp rfl
end
end Go.Gm
namespace Go.Gm.AZ
open Go Go.Gm
def bits (n s:Nat):List Bool:=(List.range n).map λp=>s.testBit p
theorem a4i (n s:Nat):(bits n s).length=n:=by simp[bits]
theorem a6O {n s p:Nat}(hp:p<n):gi (bits n s) (p:Int)=s.testBit p:=by
 rw[b2_ (by simpa [bits] using hp)]; simp[bits]
def outs (fr:List (Nat × Nat))(t:Nat):List Nat:=(fr.filter λf=>f.1 == t).map (·.2)
theorem c0s (fr:List (Nat × Nat))(f:Nat × Nat)(t:Nat):outs (fr++[f]) t=outs fr t++if f.1=t then [f.2] else []:=by
 simp only[outs,List.filter_append,List.map_append]
 congr 1
 by_cases q:f.1=t
 ·simp[List.filter,q]
 ·have:(f.1 == t)=false:=by simpa using q
  simp[List.filter,q,this]
theorem b6J (fr:List (Nat × Nat))(t:Nat):(outs fr t).length<=fr.length:=by
 simp only[outs,List.length_map]; exact List.length_filter_le ..
theorem b6K {t q:Nat}:q∈outs fr t↔(t,q)∈fr:=by
 simp only[outs,List.mem_map,List.mem_filter,beq_iff_eq]
 constructor
 ·rintro ⟨⟨a,b⟩,⟨h1,h2⟩,rfl⟩; simp only at h2; rw[<-h2]; exact h1
 ·exact λh=>⟨(t,q),⟨h,rfl⟩,rfl⟩
def RwI (W:Nat->Prop)(hb:Heap)(q:Nat)(sB:AV)(N:Nat)(X:Nat->List Nat)(h:Heap):Prop:=
 ∃B:List AV,Gr q (q+1) h 1 sB (B.map λs=>[s])/\B.length=N/\Fam W h 1 (λt:Nat=>t<N) (λt=>gi B (t:Int)) (λt=>(X t).map encN')/\(∀o,W o->hb.length<=o)/\FrS (λo=>o=q\/hb.length<=o) hb h
def enc1 (s:AV):List AV:=[s]
theorem RwI.get (r:RwI W hb q sB N X h){t:Nat}(ht:t<N):∃s,(∀H,Ext h H->ld1 H (elP 1 sB t)=some s)/\idxS 1 sB (I t)=some (elP 1 sB t)/\Sl h 1 s ((X t).map encN'):=by
 obtain ⟨B,g,lB,f,hW,fr⟩:=r
 have sl:Sl h 1 sB (B.map enc1):=g.sl
 exact ⟨gi B t,λH e=>by rw[sl.ld0 e oM oM oM]; rfl,sl.idxG oM oM,f.sl ht⟩
theorem RwI.step (r:RwI W hb q sB N X h)(hq:q<hb.length){t:Nat}(ht:t<N)(v:Nat)(hl:(X t).length<=100000) :
  ∃s1 s2 h2 h3,(∀H,Ext h H->ld1 H (elP 1 sB t)=some s1)/\idxS 1 sB (I t)=some (elP 1 sB t)/\apnd 1 8 s1 (.sl h.length 0 1 1 none 0) (h++[AObj.cells ⟨[I v],0,0,false⟩])=some (s2,h2)/\stN 1 h2 (elP 1 sB t) s2=some h3/\
   RwI (λo=>W o\/h.length<=o) hb q sB N (λt'=>if t'=t then X t++[v] else X t') h3/\FrS W h h2:=by
 obtain ⟨B,g,lB,f,hW,fr⟩:=r
 have hlb:=fr.len
 have sl:Sl h 1 sB (B.map enc1):=g.sl
 have b1:Sl (h++[AObj.cells ⟨[I v],0,0,false⟩]) 1 (.sl h.length 0 1 1 none 0) [encN' v]:=by
  have:=(Gr.lit (h:=h) (sz:=1) (v:=encN' v) rfl).sl
  rwa [a3_] at this
 have e1:Ext h (h++[AObj.cells ⟨[I v],0,0,false⟩]):=Ext.push _ _
 have f':=f.frs (D:=λ_=>False) (FrS.ofExt e1) λ_ _ _ z=>z
 obtain ⟨s2,h2,k1,k2,k3,k4⟩:=f'.append (bytes:=8) (t:=t) ht b1 (by simp) oM oM (by simp; omega)
 have g2:=(g.ext e1).frs k4 λo z1 z2 z3=>by have:=hW o z3; omega
 have c2:s2.cells=[s2]:=by
  have:=(k3.sl (t:=t) ht).cells
  simpa using this
 obtain ⟨h3,n1,n2,n3,n4⟩:=g2.write0 (i:=(t:Int)) (v:=s2) oM (by simp; omega) (by rw[c2]; rfl) (by rw[c2]; simp[k2])
 refine ⟨gi B t,s2,h2,h3,λH e=>by rw[sl.ld0 e oM oM oM]; rfl,sl.idxG oM oM,k1,n1,?_,(FrS.ofExt e1).trans k4⟩
 have hlq:=k4.len
 have f3:=k3.frs n3.s (λo z1 z2 z3=>by
  rcases z2 with z2|z2
  ·have:=hW o z2; omega
  ·simp only[List.length_append] at *; omega)
 refine ⟨B.set t s2,?_,by rw[List.length_set]; exact lB,?_,λo z=>?_,?_⟩
 ·refine n2.cong ?_
  rw[c2,show ((t:Int)).toNat=t by omega,List.map_set]
 ·refine (f3.mono λo z1 z2=>?_).congr λt' ht'=>⟨?_,?_⟩
  ·rcases z2 with z2|z2
   ·exact .inl z2
   ·simp only[List.length_append] at z2; exact .inr oM
  ·show gi (B.set t s2) (t':Int)=if t'=t then s2 else gi B t'
   rw[giset2 oM]
  ·show (if t'=t then X t++[v] else X t').map encN'=if t'=t then (X t).map encN'++[encN' v] else (X t').map encN'
   by_cases qt:t'=t
   ·simp[qt]
   ·rw[if_neg qt,if_neg qt]
 ·rcases z with z|z
  ·exact hW o z
  ·omega
 ·have z1:FrS (λo=>o=q\/hb.length<=o) h (h++[AObj.cells ⟨[I v],0,0,false⟩]):=FrS.ofExt e1
  exact ((fr.trans z1).trans (k4.mono λo _ z=>.inr (hW o z))).trans (n3.s.mono λo _ z=>.inl oM)
structure CL (N:Nat) (fr:List (Nat × Nat)) (s:Nat) (bs:List Bool) (L:List Nat):Prop where
 lb:bs.length=N
 lt:∀p∈L,p<N
 tr:∀p∈L,gi bs (p:Int)=true
 me:∀p:Nat,p<N->gi bs (p:Int)=true->p∈L
 rc:∀p∈L,Rch fr s p
 su:∀p:Nat,p<N->s.testBit p=true->gi bs (p:Int)=true
 ct:un N (λp=>if gi bs (p:Int)=true then 0 else -1)+L.length=N
theorem CL.le (c:CL N fr s bs L):L.length<=N:=by
 have:=c.ct
 have:=m1_ N λp=>if gi bs (p:Int)=true then 0 else -1
 omega
theorem CL.add {N s p q:Nat}(c:CL N fr s bs L)(hp:p∈L)(hf:(p,q)∈fr)(hq:q<N)(hn:gi bs (q:Int)=false):CL N fr s (bs.set q true) (L++[q]):=by
 have lb:=c.lb
 have hg:∀x:Nat,gi (bs.set q true) (x:Int)=if x=q then true else gi bs (x:Int):=λx=>giset2 oM true
 refine ⟨by simp[lb],λx hx=>?_,λx hx=>?_,λx hx h=>?_,λx hx=>?_,λx hx h=>?_,?_⟩
 ·rcases List.mem_append.1 hx with hx|hx
  ·exact c.lt x hx
  ·rw[List.mem_singleton.1 hx]; exact hq
 ·rw[hg]
  rcases List.mem_append.1 hx with hx|hx
  ·split
   ·rfl
   ·exact c.tr x hx
  ·rw[List.mem_singleton.1 hx,if_pos rfl]
 ·rw[hg] at h
  by_cases z:x=q
  ·rw[z]; simp
  ·rw[if_neg z] at h
   exact List.mem_append_left _ (c.me x hx h)
 ·rcases List.mem_append.1 hx with hx|hx
  ·exact c.rc x hx
  ·rw[List.mem_singleton.1 hx]; exact .on (c.rc p hp) hf
 ·rw[hg]
  split
  ·rfl
  ·exact c.su x hx h
 ·have e:(λx:Nat=>if gi (bs.set q true) (x:Int)=true then (0:Int) else -1)=up (λx:Nat=>if gi bs (x:Int)=true then (0:Int) else -1) q 0:=by
   funext x
   rw[hg,up]
   by_cases z:x=q
   ·simp[z]
   ·simp[z]
  rw[e,un_up hq (Int.le_refl _),if_pos (by simp[hn])]
  have:=c.ct
  simp only[List.length_append,List.length_cons,List.length_nil]
  omega
theorem CL.done (c:CL N fr s bs L)(hf:∀f∈fr,f.2<N)(hs:∀p,s.testBit p=true->p<N)(hd:∀p∈L,∀q,(p,q)∈fr->gi bs (q:Int)=true):bs=bits N (cloF N fr s):=by
 have key:∀p:Nat,p<N->gi bs (p:Int)=(cloF N fr s).testBit p:=by
  intro p hp
  have h1:gi bs (p:Int)=true↔(cloF N fr s).testBit p=true:=by
   rw[a9p hf hs]
   constructor
   ·exact λh=>c.rc p (c.me p hp h)
   ·intro h
    have:∀x,Rch fr s x->x<N->gi bs (x:Int)=true:=by
     intro x hx
     induction hx with
     |here h=>exact λhx=>c.su _ hx h
     |@on a b h1 h2 ih=>
      intro hb
      have ha:=b7h hf hs h1
      exact hd a (c.me a ha (ih ha)) b h2
    exact this p h hp
  cases h2:gi bs (p:Int)<;>cases h3:(cloF N fr s).testBit p<;>simp_all
 refine List.ext_getElem (by rw[c.lb,a4i]) λp h1 h2=>?_
 rw[<-b2_ h1,<-b2_ h2,key p (by have:=c.lb; omega),a6O (by have:=c.lb; omega)]
def onF (bs:List Bool)(i:Nat):List Nat:=(List.range i).filter λp:Nat=>gi bs (p:Int)
theorem b3z (bs:List Bool)(i:Nat):onF bs (i+1)=onF bs i++if gi bs (i:Int)=true then [i] else []:=by
 simp only[onF,List.range_succ,List.filter_append]
 congr 1
 by_cases q:gi bs (i:Int)=true
 ·simp[List.filter,q]
 ·simp[List.filter,q]
theorem c3P (bs:List Bool)(i:Nat):(onF bs i).length<=i:=Nat.le_trans (List.length_filter_le ..) (by simp)
theorem CL.zero:CL N fr s (bits N s) (onF (bits N s) N):=by
 refine ⟨a4i ..,λp hp=>?_,λp hp=>?_,λp h1 h2=>?_,λp hp=>?_,λp h1 h2=>by rw[a6O h1]; exact h2,?_⟩
 ·have:=(List.mem_filter.1 hp).1; simpa using this
 ·exact (List.mem_filter.1 hp).2
 ·exact List.mem_filter.2 ⟨by simpa using h1,h2⟩
 ·obtain ⟨h1,h2⟩:=List.mem_filter.1 hp
  have h1:p<N:=by simpa using h1
  rw[a6O h1] at h2
  exact .here h2
 ·have:∀n,un n (λp=>if gi (bits N s) (p:Int)=true then 0 else -1)+(onF (bits N s) n).length=n:=by
   intro n
   induction n with
   |zero=>rfl
   |succ n ih=>
    rw[b3z,List.length_append]
    show un n _+(if (if gi (bits N s) (n:Int)=true then (0:Int) else -1)<0 then 1 else 0)+_=_
    by_cases q:gi (bits N s) (n:Int)=true
    ·simp only[if_pos q]; simp; omega
    ·simp only[if_neg q]; simp; omega
  exact this N
end Go.Gm.AZ
namespace Go.Gm.AZ
open Go Go.Gm
structure NfV (h:Heap) (nf:NF) (sS sF:AV):Prop where
 s:Sl h 3 sS (nf.st.map encS)
 f:Sl h 2 sF (nf.fr.map encF)
 ok:NfOk nf
 n0:nf.n<=1000
 ls:nf.st.length<=100000
 lf:nf.fr.length<=100000
 sv:∀x∈nf.st,x.2.2<2 ^ 62
theorem NfV.ext (v:NfV h nf sS sF)(e:Ext h h'):NfV h' nf sS sF:=⟨v.s.ext e,v.f.ext e,v.ok,v.n0,v.ls,v.lf,v.sv⟩
abbrev nfC (nf:NF)(sS sF:AV):List AV:=[I nf.n,I nf.s,I nf.e,sS,sF]
section
variable {nf:NF} {sS sF:AV}
theorem b5g (r:RwI W hb q sB nf.n (outs nf.fr) h)(f:FrS D h h')(hd:∀o,o<h.length->D o->o≠q/\o<hb.length)(hq:q<hb.length) :
  ∀t,t<nf.n->∃s,ld1 h' (elP 1 sB t)=some s/\idxS 1 sB (I t)=some (elP 1 sB t)/\Sl h' 1 s ((outs nf.fr t).map encN'):=by
 intro t ht
 obtain ⟨B,g,lB,fm,hW,fr⟩:=r
 have g':=g.frs f λo z1 z2 z3=>by have:=fr.len; have:=hd o oM z3; omega
 have sl:Sl h' 1 sB (B.map enc1):=g'.sl
 have fm':=fm.frs f λo z1 z2 z3=>by have:=hd o z1 z3; have:=hW o z2; omega
 exact ⟨gi B t,by rw[sl.ld0 (Ext.refl _) oM oM oM]; rfl,sl.idxG oM oM,fm'.sl ht⟩
theorem c0t {W2 : Nat → Prop} {hb h2 hr : Heap} {oo orr i p s : Nat} {out rows : AV} (ok : NfOk nf) (hn : nf.n ≤ 1000) (hlf : nf.fr.length ≤ 100000) (hs : ∀ q, s.testBit q = true → q < nf.n)
    (rw0 : RwI W2 h2 orr rows nf.n (outs nf.fr) hr) (e2 : Ext hb h2) (ho2 : oo < h2.length ∧ oo ≠ orr ∧ orr < h2.length) {l0 : AV} {ol0 : Nat} (hl0 : l0 ≠ .nils → ol0 < h2.length ∧ ol0 ≠ orr) {Q : AV → Heap → Prop}
    (hQ : ∀ h bs L l ol, FrS (fun o => o = oo ∨ (l0 ≠ .nils ∧ o = ol0) ∨ hr.length ≤ o) hr h → Gr oo (oo + 1) h 1 out (bs.map encB) → Gr ol (ol + 1) h 1 l (L.map encN') → (l ≠ .nils → ((l0 ≠ .nils ∧ ol = ol0) ∨ hr.length ≤ ol) ∧ ol < h.length ∧ ol ≠ oo) → CL nf.n nf.fr s bs L → i < L.length → L[i]? = some p → (∀ q, (p, q) ∈ nf.fr → gi bs (q : Int) = true) → (∀ (k : Nat) x, k < i → L[k]? = some x → ∀ q, (x, q) ∈ nf.fr → gi bs (q : Int) = true) →
      WP (fun p : Nat × Nat => a1p p.1 p.2 out l rows (I i) h) Q) :
    ∀ (d k : Nat) (h : Heap) (bs : List Bool) (L : List Nat) (l : AV) (ol : Nat), k + d = (outs nf.fr p).length → FrS (fun o => o = oo ∨ (l0 ≠ .nils ∧ o = ol0) ∨ hr.length ≤ o) hr h → Gr oo (oo + 1) h 1 out (bs.map encB) → Gr ol (ol + 1) h 1 l (L.map encN') → (l ≠ .nils → ((l0 ≠ .nils ∧ ol = ol0) ∨ hr.length ≤ ol) ∧ ol < h.length ∧ ol ≠ oo) → CL nf.n nf.fr s bs L → L[i]? = some p →
      (∀ q ∈ (outs nf.fr p).take k, gi bs (q : Int) = true) → (∀ (k : Nat) x, k < i → L[k]? = some x → ∀ q, (x, q) ∈ nf.fr → gi bs (q : Int) = true) →
      WP (fun p : (Nat × Nat) × Nat => n8_ p.1.1 p.1.2 p.2 out l rows (I i) (I k) h) Q := by
  have hrl := (show FrS _ h2 hr by obtain ⟨B, _, _, _, _, fr⟩ := rw0; exact fr).len
  intro d
  induction d with
  | zero =>
    intro k h bs L l ol hk f go gl lh cl hp hd hold
    refine WP.rnd (fun i' j => a2Y i'.1 i'.2 j out l rows (I i) (I k) h) ?_
    have hiL := (List.getElem?_eq_some_iff.1 hp).1
    have hpn := cl.lt p (List.mem_of_getElem? hp)
    have gp : gi L (i : Int) = p := by rw [b2_ hiL]; rw [List.getElem?_eq_getElem hiL] at hp; injection hp
    obtain ⟨sr, r1, r2, r3⟩ := b5g rw0 f (fun o z1 z2 => by
      rcases z2 with z2 | z2 | z2
      · exact ⟨by omega, by omega⟩
      · have := hl0 z2.1; omega
      · omega) ho2.2.2 p hpn
    have hle := cl.le
    have r4 := r3.lenG
    rw [List.take_of_length_le (by omega)] at hd
    simp -implicitDefEqProofs (disch := first | assumption | omega | exact Ext.refl _ | (simp only [gL, gA] <;> omega) | fail) only [cG, reduceIte, Nat.reduceAdd, Nat.reduceMul, gl.sl.idxG, gl.sl.ld0, gp, encN', r1, r2, r4]
    exact WP.lv (hQ h bs L l ol f go gl lh cl hiL hp (fun q hq => hd q (b6K.2 hq)) hold) fun i j => rfl
  | succ d ih =>
    intro k h bs L l ol hk f go gl lh cl hp hd hold
    refine WP.rnd (fun i' j => a2Y i'.1 i'.2 j out l rows (I i) (I k) h) ?_
    have hiL := (List.getElem?_eq_some_iff.1 hp).1
    have hpm := List.mem_of_getElem? hp
    have hpn := cl.lt p hpm
    have gp : gi L (i : Int) = p := by rw [b2_ hiL]; rw [List.getElem?_eq_getElem hiL] at hp; injection hp
    obtain ⟨sr, r1, r2, r3⟩ := b5g rw0 f (fun o z1 z2 => by
      rcases z2 with z2 | z2 | z2
      · exact ⟨by omega, by omega⟩
      · have := hl0 z2.1; omega
      · omega) ho2.2.2 p hpn
    have hle := cl.le
    have r4 := r3.lenG
    have hol := b6J nf.fr p
    obtain ⟨q, hq⟩ : ∃ q, (outs nf.fr p)[k]? = some q := ⟨(outs nf.fr p)[k], List.getElem?_eq_getElem (by omega)⟩
    have gq : gi (outs nf.fr p) (k : Int) = q := by rw [b2_ (by omega)]; rw [List.getElem?_eq_getElem (by omega)] at hq; injection hq
    have hqf := b6K.1 (List.mem_of_getElem? hq)
    have hqn : q < nf.n := (ok.fr _ hqf).2
    have lb := cl.lb
    have htk : (outs nf.fr p).take (k + 1) = (outs nf.fr p).take k ++ [q] := b2y hq
    obtain ⟨b, hb'⟩ : ∃ b, gi bs (q : Int) = b := ⟨_, rfl⟩
    cases b with
    | true =>
      simp -implicitDefEqProofs (disch := first | assumption | omega | exact Ext.refl _ | (simp only [gL, gA] <;> omega) | fail) only [cG, reduceIte, Nat.reduceAdd, Nat.reduceMul, gl.sl.idxG, gl.sl.ld0, gp, encN', r1, r2, r4, r3.idxG, r3.ld0, gq, go.sl.idxG, go.sl.ld0, hb', encB]
      refine ih (k + 1) h bs L l ol (by omega) f go gl lh cl hp (fun x hx => ?_) hold
      rw [htk] at hx
      rcases List.mem_append.1 hx with hx | hx
      · exact hd x hx
      · rw [List.mem_singleton.1 hx]; exact hb'
    | false =>
      have hlne : l ≠ .nils := gl.nnil (by intro z; have : L = [] := by simpa using z
                                           rw [this] at hp; simp at hp)
      obtain ⟨h3, w1, w2, w3, w4⟩ := go.write0 (i := (q : Int)) (v := .bool true) (by omega) (by simp; omega) rfl rfl
      have f3 : FrS (fun o => o = oo) h h3 := w3.s.mono fun o z1 z2 => by omega
      have gl3 := t6_ gl f3 fun z => (lh z).2.2
      have lit := Gr.lit (h := h3) (sz := 1) (v := encN' q) rfl
      have e1 : Ext h3 (mkObj h3 (encN' q)) := Ext.push _ _
      rw [a3_] at lit e1
      have hll : (h3 ++ [AObj.cells ⟨encN' q, 0, 0, false⟩]).length = h3.length + 1 := by simp
      obtain ⟨s', h4, o', a1, a2, a3, a4, a5⟩ := Gr.appQ (bytes := 8) (gl3.ext e1) (fun z => by have := lh z; omega) lit.sl (by omega) (by omega) (by simp; omega)
      have f4 := (FrS.ofExt (D := fun x => l ≠ .nils ∧ x = ol) e1).trans a4
      have ho' : o' = ol := a5 hlne
      subst ho'
      have lh' := lh hlne
      have hh1 := f.len
      have hh4 := f4.len
      have fD : FrS (fun o => o = oo ∨ (l0 ≠ .nils ∧ o = ol0) ∨ hr.length ≤ o) hr h4 := by
        refine ⟨by omega, fun o z1 z2 => ?_⟩
        rw [f4.get (fun z => ?_) (by omega), f3.get (fun z => z1 (.inl z)) (by omega)]
        · exact f.get z1 z2
        · rcases lh'.1 with y | y
          · exact z1 (.inr (.inl ⟨y.1, by rw [z.2]; exact y.2⟩))
          · exact z1 (.inr (.inr (by rw [z.2]; exact y)))
      have go4 := t6_ w2 f4 fun _ z => lh'.2.2 z.2.symm
      simp only [encN'] at a1
      have r3' := r3
      have goe : Gr oo (oo + 1) h4 1 out ((bs.set q true).map encB) := go4.cong (by rw [List.map_set]; rfl)
      have hgs : ∀ x : Nat, gi (bs.set q true) (x : Int) = if x = q then true else gi bs (x : Int) := fun x => giset2 (by omega) true
      simp -implicitDefEqProofs (disch := first | assumption | omega | exact Ext.refl _ | (simp only [gL, gA] <;> omega) | fail) only [cG, reduceIte, Nat.reduceAdd, Nat.reduceMul, gl.sl.idxG, gl.sl.ld0, gp, encN', r1, r2, r4, r3.idxG, r3.ld0, gq, go.sl.idxG, go.sl.ld0, hb', encB, w1, a1]
      refine ih (k + 1) h4 (bs.set q true) (L ++ [q]) s' o' (by omega) fD goe (a2.cong (by simp [encN'])) (fun z => ⟨lh'.1, (a3 z).2, lh'.2.2⟩) (cl.add hpm hqf hqn hb') (a2N hp) (fun x hx => ?_) fun k' x hk' hx y hy => ?_
      · rw [htk] at hx
        rw [hgs]
        rcases List.mem_append.1 hx with hx | hx
        · split
          · rfl
          · exact hd x hx
        · rw [List.mem_singleton.1 hx, if_pos rfl]
      · rw [List.getElem?_append_left (by omega)] at hx
        rw [hgs]
        split
        · rfl
        · exact hold k' x hk' hx y hy
end
end Go.Gm.AZ
namespace Go.Gm.AZ
open Go Go.Gm
section
variable {nf:NF} {sS sF:AV}
theorem c0u {oo orr s:Nat}(ok:NfOk nf)(hn:nf.n<=1000)(hlf:nf.fr.length<=100000)(hs:∀q,s.testBit q=true->q<nf.n)(rw0:RwI W2 h2 orr rows nf.n (outs nf.fr) hr)(e2:Ext hb h2)(ho2:oo<h2.length/\oo≠orr/\orr<h2.length){l0:AV}{ol0:Nat}(hl0:l0≠.nils->ol0<h2.length/\ol0≠orr){Q:AV->Heap->Prop}(hQ:∀h,FrS (λo=>o=oo\/(l0≠.nils/\o=ol0)\/hr.length<=o) hr h->Gr oo (oo+1) h 1 out ((bits nf.n (cloF nf.n nf.fr s)).map encB)->Q out h) :
  ∀(d i:Nat) (h:Heap) (bs:List Bool) (L:List Nat) (l:AV) (ol:Nat),i+d=nf.n->i<=L.length->FrS (λo=>o=oo\/(l0≠.nils/\o=ol0)\/hr.length<=o) hr h->Gr oo (oo+1) h 1 out (bs.map encB)->Gr ol (ol+1) h 1 l (L.map encN')->(l≠.nils->((l0≠.nils/\ol=ol0)\/hr.length<=ol)/\ol<h.length/\ol≠oo)->CL nf.n nf.fr s bs L->
   (∀(k:Nat) x,k<i->L[k]?=some x->∀q,(x,q)∈nf.fr->gi bs (q:Int)=true)->
   WP (λp:Nat × Nat=>v9_ p.1 p.2 out l rows (I i) h) Q:=by
 have fin:∀(i:Nat) (h:Heap) (bs:List Bool) (L:List Nat) (l:AV) (ol:Nat),i=L.length->FrS (λo=>o=oo\/(l0≠.nils/\o=ol0)\/hr.length<=o) hr h->Gr oo (oo+1) h 1 out (bs.map encB)->CL nf.n nf.fr s bs L->(∀(k:Nat) x,k<i->L[k]?=some x->∀q,(x,q)∈nf.fr->gi bs (q:Int)=true)->Q out h:=by
  intro i h bs L l ol hi f go cl hd
  have:=cl.done (λf hf=>(ok.fr f hf).2) hs λp hp q hq=>by
   obtain ⟨k,hk⟩:=b2A hp
   exact hd k p (by have:=(List.getElem?_eq_some_iff.1 hk).1; omega) hk q hq
  rw[this] at go
  exact hQ h f go
 intro d
 induction d with
 |zero=>
  intro i h bs L l ol hi hiL f go gl lh cl hd
  refine WP.rnd (a2Z · · ..) ?_
  have hle:=cl.le
  have hli:i=L.length:=oM
  refine g1 gl.sl.lenG ?_
  exact WP.ret (fin i h bs L l ol hli f go cl hd)
 |succ d ih=>
  intro i h bs L l ol hi hiL f go gl lh cl hd
  refine WP.rnd (a2Z · · ..) ?_
  have hle:=cl.le
  by_cases q:i=L.length
  ·refine g1 gl.sl.lenG ?_
   exact WP.ret (fin i h bs L l ol q f go cl hd)
  ·obtain ⟨p,hp⟩:∃p,L[i]?=some p:=⟨L[i],List.getElem?_eq_getElem oM⟩
   refine g1 gl.sl.lenG ?_
   refine WP.ent (c0t ok hn hlf hs rw0 e2 ho2 hl0 (λh' bs' L' l' ol' f' go' gl' lh' cl' hi' hp' hd' hold'=>?_) (outs nf.fr p).length 0 h bs L l ol oM f go gl lh cl hp (λq hq=>by simp at hq) hd) λi=>rfl
   refine WP.congr (λp=>a7Q p.1 p.2 ..) ?_
   have:=cl'.le
   refine g0 ?_
   refine ih (i+1) h' bs' L' l' ol' oM hi' f' go' gl' lh' cl' λk x hk hx y hy=>?_
   by_cases z:k=i
   ·subst z
    rw[hp'] at hx
    injection hx with hx
    subst hx
    exact hd' y hy
   ·exact hold' k x oM hx y hy
theorem c0v {on orr:Nat}(v:NfV hb nf sS sF)(e2:Ext hb h2)(ho2:orr<h2.length)(hor:hb.length<=orr)(rn:hb[on]?=some (.cells ⟨nfC nf sS sF,0,0,false⟩))(hQ:∀h W,RwI W h2 orr rows nf.n (outs nf.fr) h->WP (λk:Nat=>a1o k out l rows h) Q) :
  ∀(d i:Nat) (h:Heap) (W:Nat->Prop),i+d=nf.fr.length->RwI W h2 orr rows nf.n (outs (nf.fr.take i)) h->
   WP (λp:Nat × Nat=>v8_ p.1 p.2 (.ptr on 0 5 0) out l rows (I i) h) Q:=by
 have ok:=v.ok
 have hlf:=v.lf
 intro d
 induction d with
 |zero=>
  intro i h W hi r
  refine WP.rnd (a3a · · ..) ?_
  have eh:Ext hb h:=by
   obtain ⟨B,_,_,_,_,fr⟩:=r
   exact fr.ext e2 λo z1 z2=>by have:=e2.len; omega
  have rn1:=eh.get rn
  have sl:=(v.ext eh).f.lenG
  rw[List.take_of_length_le oM] at r
  refine g2 @rn1 @sl ?_
  exact WP.lv (hQ h W r) λi j=>rfl
 |succ d ih=>
  intro i h W hi r
  refine WP.rnd (a3a · · ..) ?_
  have frr:FrS (λo=>o=orr\/h2.length<=o) h2 h:=by obtain ⟨B,_,_,_,_,fr⟩:=r; exact fr
  have eh:Ext hb h:=frr.ext e2 λo z1 z2=>by have:=e2.len; omega
  have rn1:=eh.get rn
  have sf:=(v.ext eh).f
  have sl:=sf.lenG
  obtain ⟨f,hf⟩:∃f,nf.fr[i]?=some f:=⟨nf.fr[i],List.getElem?_eq_getElem oM⟩
  have gf':gi nf.fr (i:Int)=f:=by rw[b2_ oM]; rw[List.getElem?_eq_getElem oM] at hf; injection hf
  obtain ⟨f1,f2⟩:=ok.fr f (List.mem_of_getElem? hf)
  obtain ⟨h3,hh3⟩:∃h3,h3=((h++[AObj.cells ⟨[I 0,I 0],0,0,false⟩]).set h.length (.cells ⟨[I f.1,I f.2],0,0,false⟩)):=⟨_,rfl⟩
  have e3:Ext h h3:=by rw[hh3]; exact eX
  have r3:h3[h.length]?=some (.cells ⟨[I f.1,I f.2],0,0,false⟩):=by rw[hh3]; exact a0_ (by simp)
  have l3:h3.length=h.length+1:=by rw[hh3]; simp
  have hlen:=frr.len
  have rr3:RwI (λo=>W o/\o<h.length) h2 orr rows nf.n (outs (nf.fr.take i)) h3:=by
   obtain ⟨B,g,lB,fm,hW,fr⟩:=r
   exact ⟨B,g.ext e3,lB,(fm.mono λo z1 z2=>⟨z2,z1⟩).frs (D:=λ_=>False) (FrS.ofExt e3) λ_ _ _ z=>z,λo z=>hW o z.1,fr.trans (FrS.ofExt e3)⟩
  have hol:=b6J (nf.fr.take i) f.1
  rw[List.length_take] at hol
  obtain ⟨s1,s2,h4,h5,k1,k2,k3,k4,k5,k6⟩:=rr3.step ho2 f1 f.2 oM
  rw[l3] at k3
  have k1':=k1 h3 (Ext.refl _)
  have b5:=(List.getElem?_eq_some_iff.1 r3).1
  have r4:h4[h.length]?=some (.cells ⟨[I f.1,I f.2],0,0,false⟩):=by
   rw[k6.get (λz=>oM) b5]; exact r3
  have i0:idxA 2 1 (.ptr h.length 0 2 0) (I 0)=some (.ptr h.length 0 1 0):=by simp[idxA]
  have i1:idxA 2 1 (.ptr h.length 0 2 0) (I 1)=some (.ptr h.length 1 2 0):=by simp[idxA]
  have k4':stN 1 h4 (elP 1 rows f.1) s2=some h5:=k4
  refine g8 @rn1 @sl sf.idxG sf.ldN @gf' @encF.eq_1 @i0 @i1 ?_
  rw[show I 0=I 0 from rfl,<-hh3]
  refine g6 @r3 @k2 @k1' @k3 @r4 @k4' ?_
  refine ih (i+1) h5 (λo=>(W o/\o<h.length)\/h3.length<=o) oM ?_
  have e:(λt'=>if t'=f.1 then outs (nf.fr.take i) f.1++[f.2] else outs (nf.fr.take i) t')=outs (nf.fr.take (i+1)):=by
   funext t
   rw[b2y hf,c0s]
   by_cases z:t=f.1
   ·rw[if_pos z,if_pos z.symm,z]
   ·rw[if_neg z,if_neg (λy=>z y.symm),List.append_nil]
  rw[e] at k5
  exact k5
theorem c0w {on oo s:Nat}(v:NfV hb nf sS sF)(e1:Ext hb h1)(hoo:hb.length<=oo/\oo<h1.length)(rn:hb[on]?=some (.cells ⟨nfC nf sS sF,0,0,false⟩))(go:Gr oo (oo+1) h1 1 out ((bits nf.n s).map encB))(hs:∀q,s.testBit q=true->q<nf.n) :
  ∀(d i:Nat) (h:Heap) (l:AV),i+d=nf.n->Ext h1 h->Gr h1.length h.length h 1 l ((onF (bits nf.n s) i).map encN')->
   WP (λp:Nat × Nat=>n7_ p.1 p.2 (.ptr on 0 5 0) out l (I i) h) λr h'=>Ext hb h'/\Gr hb.length h'.length h' 1 r ((bits nf.n (cloF nf.n nf.fr s)).map encB):=by
 have hn:=v.n0
 have lb:=a4i nf.n s
 intro d
 induction d with
 |zero=>
  intro i h l hi e gl
  refine WP.rnd (a3b · · ..) ?_
  have goh:=go.ext e
  have l1:=e1.len
  have l2:=e.len
  obtain rfl:i=nf.n:=oM
  refine g2 goh.sl.lenG @lb ?_
  refine WP.lv (WP.congr (λk:Nat=>a7S k (.ptr on 0 5 0) out l h) ?_) λi j=>rfl
  have rn1:=(e1.trans e).get rn
  obtain ⟨s2,h2,a2,g2,e2,_,l3⟩:=g0_ (zero:=[AV.nils]) (sz:=1) (bytes:=24) (n:=(nf.n:Int)) h oM oM oM rfl rfl
  have r0:RwI (λo=>h2.length<=o) h2 h.length s2 nf.n (outs (nf.fr.take 0)) h2:=by
   refine ⟨List.replicate nf.n .nils,g2.cong (by simp),by simp,Fam.nil _ _ _ λt ht=>⟨w2_ oM oM,by simp[outs]⟩,λo z=>z,FrS.refl _ _⟩
  simp -implicitDefEqProofs (disch:=first|assumption|omega|(simp only[gL,gA]<;>omega)|fail) only[cG,reduceIte,rn1,a2]
  refine WP.ent (c0v v ((e1.trans e).trans e2) (by omega) (by omega) rn (fun h3 W3 r3=>?_) nf.fr.length 0 h2 _ (by omega) r0) fun i=>rfl
  refine WP.congr (λk:Nat=>a7R k out l s2 h3) ?_
  obtain ⟨ol,g1,g3⟩:=gl.point
  have fr3:FrS (λo=>o=h.length\/h2.length<=o) h2 h3:=by obtain ⟨B,_,_,_,_,fr⟩:=r3; exact fr
  have l4:=fr3.len
  have go3:=(goh.ext e2).frs fr3 λo z1 z2 z3=>oM
  have gl3:=t6_ (g3.ext e2) fr3 λz1 z2=>by have:=g1 z1; omega
  have eh3:Ext hb h3:=fr3.ext ((e1.trans e).trans e2) λo z1 z2=>oM
  refine WP.ent (c0u v.ok hn v.lf hs r3 ((e1.trans e).trans e2) ⟨oM,oM,oM⟩ (l0:=l) (ol0:=ol) (λz=>by have:=g1 z; omega) (λh4 f4 g4=>⟨f4.ext eh3 λo z1 z2=>?_,?_⟩) nf.n 0 h3 (bits nf.n s) (onF (bits nf.n s) nf.n) l ol oM oM (FrS.refl _ _) go3 gl3 (λz=>by have:=g1 z; exact ⟨.inl ⟨z,rfl⟩,oM,oM⟩) CL.zero λk x hk=>oM) λi=>rfl
  ·rcases z2 with z2|z2|z2
   ·omega
   ·have:=g1 z2.1; omega
   ·omega
  ·have:=f4.len
   exact (g4.low _ (Nat.le_refl _)).mono hoo.1 (Nat.le_refl _)
 |succ d ih=>
  intro i h l hi e gl
  refine WP.rnd (a3b · · ..) ?_
  have goh:=go.ext e
  have l2:=e.len
  have hol:=c3P (bits nf.n s) i
  obtain ⟨b,hb'⟩:∃b,gi (bits nf.n s) (i:Int)=b:=⟨_,rfl⟩
  cases b with
  |true=>
   obtain ⟨s',h',q1,q2,q3⟩:=Gr.append1 (bytes:=8) gl (v:=encN' i) rfl oM oM (by simp; omega) oM (Nat.le_refl _)
   rw[a3_] at q1
   simp only[encN'] at q1
   refine g7 goh.sl.lenG @lb goh.sl.idxG goh.sl.ld0 @hb' @encB.eq_1 @q1 ?_
   refine ih (i+1) h' s' oM (q3.ext e (Nat.le_refl _)) (q2.cong ?_)
   rw[b3z,if_pos hb',List.map_append]; rfl
  |false=>
   refine g6 goh.sl.lenG @lb goh.sl.idxG goh.sl.ld0 @hb' @encB.eq_1 ?_
   refine ih (i+1) h l oM e (gl.cong ?_)
   rw[b3z,if_neg (by rw[hb']; simp),List.append_nil]
theorem b3b (v:NfV h nf sS sF)(hi:Sl h 1 is ((bits nf.n s).map encB))(hs:∀q,s.testBit q=true->q<nf.n) :
  Tot tab c3_ [.agg (nfC nf sS sF),is] h λr h'=>Ext h h'/\Gr h.length h'.length h' 1 r ((bits nf.n (cloF nf.n nf.fr s)).map encB):=by
 refine WP.tot (a9E · ..) ?_
 have hn:=v.n0
 have lb:=a4i nf.n s
 have ss:=v.s.one
 have sf:=v.f.one
 obtain ⟨h1,hh1⟩:∃h1,h1=h++[AObj.cells ⟨nfC nf sS sF,0,0,false⟩]:=⟨_,rfl⟩
 have e1:Ext h h1:=by rw[hh1]; exact Ext.push _ _
 have l1:h1.length=h.length+1:=by rw[hh1]; simp
 have rn:h1[h.length]?=some (.cells ⟨nfC nf sS sF,0,0,false⟩):=by rw[hh1]; simp
 have e2:Ext h1 (mkObj h1 []):=Ext.push _ _
 have ge:=Gr.empty h1 1
 rw[a3_] at e2 ge
 have ll:(h1++[AObj.cells ⟨[],0,0,false⟩]).length=h1.length+1:=by simp
 obtain ⟨s',h3,q1,q2,q3,q4⟩:=ge.appendS (bytes:=1) ((hi.ext e1).ext e2) oM oM (by simp[lb]; omega) oM oM
 have q5:=(q4 (by simp)).1
 rw[List.nil_append] at q5
 have l3:=q3.len
 have e3:Ext h1 h3:=q3.ext e2 (Nat.le_refl _)
 rw[l1] at q1
 refine g2 @ss @sf ?_
 rw[<-hh1]
 refine g1 @q1 ?_
 refine WP.ent ((c0w (v.ext e1) e3 ⟨Nat.le_refl _,oM⟩ rn q5 hs nf.n 0 h3 .nils oM (Ext.refl _) (Gr.nil ..)).mono ?_) λi=>rfl
 rintro r h4 ⟨e4,g4⟩
 exact ⟨e1.trans e4,g4.mono oM (Nat.le_refl _)⟩
theorem c2n (v:NfV h nf sS sF) :
  Tot tab a2v [.agg (nfC nf sS sF)] h λr h'=>Ext h h'/\Gr h.length h'.length h' 1 r ((bits nf.n (cloF nf.n nf.fr (2 ^ nf.s))).map encB):=by
 refine WP.tot (b0g · ..) ?_
 have hn:=v.n0
 have ss:=v.s.one
 have sf:=v.f.one
 have hsn:=v.ok.s
 obtain ⟨h1,hh1⟩:∃h1,h1=h++[AObj.cells ⟨nfC nf sS sF,0,0,false⟩]:=⟨_,rfl⟩
 have e1:Ext h h1:=by rw[hh1]; exact Ext.push _ _
 have l1:h1.length=h.length+1:=by rw[hh1]; simp
 have rn:h1[h.length]?=some (.cells ⟨nfC nf sS sF,0,0,false⟩):=by rw[hh1]; simp
 obtain ⟨s2,h2,a2,g2,e2,_,l2⟩:=g0_ (zero:=[AV.bool false]) (sz:=1) (bytes:=1) (n:=(nf.n:Int)) h1 oM oM oM rfl rfl
 have hre:List.replicate (nf.n:Int).toNat [AV.bool false]=(List.replicate nf.n false).map encB:=by simp[encB]
 rw[hre] at g2
 obtain ⟨h3,w1,w2,w3,w4⟩:=g2.write0 (i:=(nf.s:Int)) (v:=.bool true) oM (by simp; omega) rfl rfl
 have e3:Ext h h3:=w3.ext (e1.trans e2) oM
 have rn2:=e2.get rn
 have rn3:h3[h.length]?=some (.cells ⟨nfC nf sS sF,0,0,false⟩):=by rw[w3.get oM oM]; exact rn2
 have eb:(List.replicate nf.n false).set nf.s true=bits nf.n (2 ^ nf.s):=by
  refine List.ext_getElem (by simp[bits]) λp h1 h2=>?_
  simp only[List.getElem_set,List.getElem_replicate,bits,List.getElem_map,List.getElem_range,Nat.testBit_two_pow]
  by_cases q:nf.s=p
  ·simp[q]
  ·simp[q]
 have g3:Gr h1.length (h1.length+1) h3 1 s2 ((bits nf.n (2 ^ nf.s)).map encB):=w2.cong (by rw[<-eb,List.map_set]; rfl)
 simp -implicitDefEqProofs (maxSteps:=1000000) (disch:=first|assumption|omega|(simp only[gL]<;>omega)|((repeat (first|exact Ext.refl _|assumption|apply Ext.app|apply Ext.mk|(refine Ext.setr ?_ (by (first|omega|(simp only[gL]<;>omega))) _))); done)|(simp only[gL,gA,ss,sf]<;>omega)|fail) only[gB,setAll,partL,fldV,reduceIte,Nat.reduceAdd,Nat.reduceMul,ss,sf]
 rw[<-hh1]
 refine g6 @a2 @rn2 g2.sl.idxG @List.length_replicate.{0} @w1 @rn3 ?_
 refine WP.call (b3b (v.ext e3) g3.sl λq hq=>?_) ?_
 ·rw[Nat.testBit_two_pow] at hq
  have:nf.s=q:=by simpa using hq
  omega
 rintro r h4 ⟨e4,g4⟩
 exact WP.ret ⟨e3.trans e4,g4.mono e3.len (Nat.le_refl _)⟩
theorem c0x (st:List (Nat × Nat × Nat))(x:Nat × Nat × Nat)(s m:Nat):stpF (st++[x]) s m=if s.testBit x.1 && x.2.2.testBit m then stpF st s m ||| 2 ^ x.2.1 else stpF st s m:=by
 simp[stpF]
theorem c2o:(bits n s).set q true=bits n (s ||| 2 ^ q):=by
 refine List.ext_getElem (by simp[bits]) λp h1 h2=>?_
 simp only[List.getElem_set,bits,List.getElem_map,List.getElem_range,tb_or]
 by_cases z:q=p
 ·simp[z]
 ·simp[z,Ne.symm z]
theorem c2p {on oo s m:Nat}(v:NfV hb nf sS sF)(hoo:hb.length<=oo)(hi:Sl hb 1 is ((bits nf.n s).map encB))(hm:m<5)(rn:hb[on]?=some (.cells ⟨nfC nf sS sF,0,0,false⟩)) :
  ∀(d i:Nat) (h:Heap),i+d=nf.st.length->Ext hb h->oo<h.length->Gr oo (oo+1) h 1 to ((bits nf.n (stpF (nf.st.take i) s m)).map encB)->
   WP (λp:Nat × Nat=>r2_ p.1 p.2 is (I m) (.ptr on 0 5 0) to (I i) h) λr h'=>Ext hb h'/\Gr hb.length h'.length h' 1 r ((bits nf.n (nxtF nf s m)).map encB):=by
 have hn:=v.n0
 have hls:=v.ls
 have lb:∀s,(bits nf.n s).length=nf.n:=a4i nf.n
 intro d
 induction d with
 |zero=>
  intro i h hid e hol g
  refine WP.rnd (a4c · · ..) ?_
  have rn1:=e.get rn
  have sl:=(v.ext e).s.lenG
  rw[List.take_of_length_le oM] at g
  refine g2 @rn1 @sl ?_
  refine WP.lv (WP.congr (λk:Nat=>a9b k (.ptr on 0 5 0) to h) ?_) λi j=>rfl
  refine g1 @rn1 ?_
  refine WP.call (b3b (v.ext e) g.sl λq hq=>?_) ?_
  ·obtain ⟨x,hx,_,_,rfl⟩:=a9q.1 hq
   exact (v.ok.st x hx).2
  rintro r h2 ⟨e2,g2⟩
  exact WP.ret ⟨e.trans e2,g2.mono e.len (Nat.le_refl _)⟩
 |succ d ih=>
  intro i h hid e hol g
  refine WP.rnd (a4c · · ..) ?_
  have rn1:=e.get rn
  have sv:=(v.ext e).s
  have sl:=sv.lenG
  obtain ⟨x,hx⟩:∃x,nf.st[i]?=some x:=⟨nf.st[i],List.getElem?_eq_getElem oM⟩
  have gx:gi nf.st (i:Int)=x:=by rw[b2_ oM]; rw[List.getElem?_eq_getElem oM] at hx; injection hx
  have hxm:=List.mem_of_getElem? hx
  obtain ⟨x1,x2⟩:=v.ok.st x hxm
  have x3:=v.sv x hxm
  obtain ⟨h3,hh3⟩:∃h3,h3=((h++[AObj.cells ⟨[I 0,I 0,I 0],0,0,false⟩]).set h.length (.cells ⟨[I x.1,I x.2.1,I x.2.2],0,0,false⟩)):=⟨_,rfl⟩
  have e3:Ext h h3:=by rw[hh3]; exact eX
  have r3:h3[h.length]?=some (.cells ⟨[I x.1,I x.2.1,I x.2.2],0,0,false⟩):=by rw[hh3]; exact a0_ (by simp)
  have g3:=g.ext e3
  have hi3:=(hi.ext e).ext e3
  have l3:=e3.len
  have lbs:=lb s
  have lb2:=lb (stpF (nf.st.take i) s m)
  have gs:gi (bits nf.n s) (x.1:Int)=s.testBit x.1:=a6O x1
  have hsh:binV .shr .scalar (I (x.2.2:Nat)) (.int .u64 m)=some (I ((x.2.2 >>> m:Nat):Int)):=shr_i (k:=.u64) (s:=x.2.2) (m:=(m:Int)) oM oM
  have hle:x.2.2 >>> m<2 ^ 62:=Nat.lt_of_le_of_lt (by rw[Nat.shiftRight_eq_div_pow]; exact Nat.div_le_self _ _) x3
  have han:binV .and .scalar (I ((x.2.2 >>> m:Nat):Int)) (I 1)=some (I (((x.2.2 >>> m) &&& 1:Nat):Int)):=and_i (b:=1) hle (by decide)
  have hcv:convV .u64 (I m)=some (.int .u64 m):=a5n oM oM
  have hsn:=c0x (nf.st.take i) x s m
  rw[<-b2y hx] at hsn
  have on1:oo+1<=h.length:=hol
  obtain ⟨b1,hb1⟩:∃b1,s.testBit x.1=b1:=⟨_,rfl⟩
  rw[hb1] at gs hsn
  cases b1 with
  |false=>
   refine g6 @rn1 @sl sv.idxG sv.ldN @gx @encS.eq_1 ?_
   rw[show I 0=I 0 from rfl,<-hh3]
   refine g6 @r3 hi3.idxG hi3.ld0 @lbs @gs @encB.eq_1 ?_
   refine ih (i+1) h3 oM (e.trans e3) oM ?_
   rw[hsn]; exact g3
  |true=>
   obtain ⟨b2,hb2⟩:∃b2,x.2.2.testBit m=b2:=⟨_,rfl⟩
   rw[hb2] at hsn
   cases b2 with
   |false=>
    have hbt:binV .eql .scalar (I (((x.2.2 >>> m) &&& 1:Nat):Int)) (I 1)=some (.bool false):=bit_f (m:=(m:Int)) oM hb2
    refine g6 @rn1 @sl sv.idxG sv.ldN @gx @encS.eq_1 ?_
    rw[show I 0=I 0 from rfl,<-hh3]
    refine g10 @r3 hi3.idxG hi3.ld0 @lbs @gs @encB.eq_1 @hcv @hsh @han @hbt ?_
    refine ih (i+1) h3 oM (e.trans e3) oM ?_
    rw[hsn]; exact g3
   |true=>
    have hbt:binV .eql .scalar (I (((x.2.2 >>> m) &&& 1:Nat):Int)) (I 1)=some (.bool true):=bit_t (m:=(m:Int)) oM hb2
    obtain ⟨h4,w1,w2,w3,w4⟩:=g3.write0 (i:=(x.2.1:Int)) (v:=.bool true) oM (by simp[lb2]; omega) rfl rfl
    refine g6 @rn1 @sl sv.idxG sv.ldN @gx @encS.eq_1 ?_
    rw[show I 0=I 0 from rfl,<-hh3]
    refine g13 @r3 hi3.idxG hi3.ld0 @lbs @gs @encB.eq_1 @hcv @hsh @han @hbt g3.sl.idxG @lb2 @w1 ?_
    refine ih (i+1) h4 oM (w3.ext (e.trans e3) hoo) oM (w2.cong ?_)
    rw[hsn,if_pos (by rfl),<-c2o,List.map_set]; rfl
theorem c3Q {s m:Nat}(v:NfV h nf sS sF)(hi:Sl h 1 is ((bits nf.n s).map encB))(hm:m<5) :
  Tot tab u1_ [.agg (nfC nf sS sF),is,I m] h λr h'=>Ext h h'/\Gr h.length h'.length h' 1 r ((bits nf.n (nxtF nf s m)).map encB):=by
 refine WP.tot (b0E · ..) ?_
 have hn:=v.n0
 have ss:=v.s.one
 have sf:=v.f.one
 obtain ⟨h1,hh1⟩:∃h1,h1=h++[AObj.cells ⟨nfC nf sS sF,0,0,false⟩]:=⟨_,rfl⟩
 have e1:Ext h h1:=by rw[hh1]; exact Ext.push _ _
 have l1:h1.length=h.length+1:=by rw[hh1]; simp
 have rn:h1[h.length]?=some (.cells ⟨nfC nf sS sF,0,0,false⟩):=by rw[hh1]; simp
 obtain ⟨s2,h2,a2,g2,e2,_,l2⟩:=g0_ (zero:=[AV.bool false]) (sz:=1) (bytes:=1) (n:=(nf.n:Int)) h1 oM oM oM rfl rfl
 have hre:List.replicate (nf.n:Int).toNat [AV.bool false]=(bits nf.n (stpF (nf.st.take 0) s m)).map encB:=by
  simp only[List.take_zero,stpF,List.foldl_nil,bits,Int.toNat_natCast,List.map_map]
  refine List.ext_getElem (by simp) λp h1 h2=>by simp[encB]
 rw[hre] at g2
 simp -implicitDefEqProofs (maxSteps:=1000000) (disch:=first|assumption|omega|(simp only[gL]<;>omega)|((repeat (first|exact Ext.refl _|assumption|apply Ext.app|apply Ext.mk|(refine Ext.setr ?_ (by (first|omega|(simp only[gL]<;>omega))) _))); done)|(simp only[gL,gA,ss,sf]<;>omega)|fail) only[gB,setAll,partL,fldV,reduceIte,Nat.reduceAdd,Nat.reduceMul,ss,sf]
 rw[<-hh1]
 refine g1 @a2 ?_
 refine WP.ent ((c2p (v.ext e1) (Nat.le_refl _) (hi.ext e1) hm rn nf.st.length 0 h2 oM e2 oM g2).mono ?_) λi=>rfl
 rintro r h3 ⟨e3,g3⟩
 exact ⟨e1.trans e3,g3.mono oM (Nat.le_refl _)⟩
end
end Go.Gm.AZ
namespace Go.Gm.AZ
open Go Go.Gm
section
variable {h:Heap}
structure SI (hb h:Heap) (states sN sA:AV) (oS oN oA:Nat) (xs:List AV) (D':List (List Int)) (acc':List Bool):Prop where
 eb:Ext hb h
 ro:h[hb.length+1]?=some (.cells ⟨[sN,sA],0,0,false⟩)
 gs:Gr oS (oS+1) h 1 states (xs.map enc1)
 gn:Gr oN (oN+1) h 5 sN (D'.map encR)
 ga:Gr oA (oA+1) h 1 sA (acc'.map encB)
 ps:states≠.nils->hb.length<=oS/\oS≠hb.length+1/\oS<h.length
 pn:sN≠.nils->hb.length+2<=oN/\oN<h.length/\(states≠.nils->oN≠oS)
 pa:sA≠.nils->hb.length+2<=oA/\oA<h.length/\(states≠.nils->oA≠oS)/\(sN≠.nils->oA≠oN)
 bl:hb.length+2<=h.length
section
variable {hb:Heap} {states sN sA:AV} {oS oN oA:Nat} {xs:List AV} {D':List (List Int)} {acc':List Bool}
theorem SI.ext (p:SI hb h states sN sA oS oN oA xs D' acc')(e:Ext h h'):SI hb h' states sN sA oS oN oA xs D' acc':=by
 have l:=e.len
 refine ⟨p.eb.trans e,e.get p.ro,p.gs.ext e,p.gn.ext e,p.ga.ext e,λz=>?_,λz=>?_,λz=>?_,by have:=p.bl; omega⟩
 ·have:=p.ps z; omega
 ·have:=p.pn z; exact ⟨this.1,oM,this.2.2⟩
 ·have:=p.pa z; exact ⟨this.1,oM,this.2.2⟩
theorem SI.frs (p:SI hb h states sN sA oS oN oA xs D' acc'){o:Nat}(f:FrS (λq=>q=o) h h')(ho:hb.length<=o/\o≠hb.length+1)(h1:states≠.nils->o≠oS)(h2:sN≠.nils->o≠oN)(h3:sA≠.nils->o≠oA):SI hb h' states sN sA oS oN oA xs D' acc':=by
 have l:=f.len
 have bl:=p.bl
 have nl:∀{lo:Nat} {sz:Nat} {s:AV} {xs:List (List AV)},Gr lo (lo+1) h sz s xs->(s≠.nils->o≠lo)->Gr lo (lo+1) h' sz s xs:=by
  intro lo sz s xs g hq
  by_cases q:s=.nils
  ·subst q
   have:=g.isNil
   subst this
   exact Gr.nil ..
  ·exact g.frs f λr r1 r2=>by have:=hq q; omega
 refine ⟨f.ext p.eb λq q1=>oM,by rw[f.get oM oM]; exact p.ro,nl p.gs h1,nl p.gn h2,nl p.ga h3,λz=>?_,λz=>?_,λz=>?_,oM⟩
 ·have:=p.ps z; omega
 ·have:=p.pn z; exact ⟨this.1,oM,this.2.2⟩
 ·have:=p.pa z; exact ⟨this.1,oM,this.2.2⟩
theorem SI.addS (p:SI hb h states sN sA oS oN oA xs D' acc')(to:AV)(h1:to.cells=[to])(hl:xs.length<=100000) :
  ∃s' h' o',apnd 1 24 states (.sl h.length 0 1 1 none 0) (h++[AObj.cells ⟨[to],0,0,false⟩])=some (s',h')/\SI hb h' s' sN sA o' oN oA (xs++[to]) D' acc'/\FrS (λq=>states≠.nils/\q=oS) h h'/\(s'≠.nils->(o'=oS/\states≠.nils)\/h.length<=o'):=by
 have b:=Gr.lit (h:=h) (sz:=1) (v:=[to]) rfl
 rw[a3_] at b
 have e1:Ext h (h++[AObj.cells ⟨[to],0,0,false⟩]):=Ext.push _ _
 obtain ⟨s',h',o',q1,q2,q3,q4⟩:=(p.gs.ext e1).appP (λz=>by have:=p.ps z; simp; omega) b.sl oM (bytes:=24) oM (by simp; omega)
 have f:=(FrS.ofExt (D:=λq=>states≠.nils/\q=oS) e1).trans q4
 have l:=f.len
 have bl:=p.bl
 have l1:(h++[AObj.cells ⟨[to],0,0,false⟩]).length=h.length+1:=by simp
 have ps:=p.ps
 have pn:=p.pn
 have pa:=p.pa
 have q3':s'≠.nils->(o'=oS/\states≠.nils)\/h.length<=o':=λz=>by
  rcases (q3 z).1 with q|q
  ·exact .inl q
  ·exact .inr oM
 have nl:∀{lo:Nat} {sz:Nat} {s:AV} {xs:List (List AV)},Gr lo (lo+1) h sz s xs->(s≠.nils->states≠.nils->lo≠oS)->Gr lo (lo+1) h' sz s xs:=by
  intro lo sz s xs g hq
  by_cases q:s=.nils
  ·subst q
   have:=g.isNil
   subst this
   exact Gr.nil ..
  ·exact g.frs f λr r1 r2 z=>by have:=hq q z.1; omega
 refine ⟨s',h',o',q1,⟨f.ext p.eb λq z1 z2=>by have:=ps z2.1; omega,by rw[f.get (λz=>by have:=ps z.1; omega) oM]; exact p.ro,q2.cong (by simp[enc1]),nl p.gn λz1 z2=>(pn z1).2.2 z2,nl p.ga λz1 z2=>(pa z1).2.2.1 z2,λz=>?_,λz=>?_,λz=>?_,oM⟩,f,q3'⟩
 ·have h1:=(q3 z).2
  rcases q3' z with ⟨h2,h3⟩|h2
  ·have:=ps h3; omega
  ·omega
 ·have h1:=pn z
  refine ⟨h1.1,oM,λz2=>?_⟩
  rcases q3' z2 with ⟨h2,h3⟩|h2
  ·have:=h1.2.2 h3; omega
  ·omega
 ·have h1:=pa z
  refine ⟨h1.1,oM,λz2=>?_,h1.2.2.2⟩
  rcases q3' z2 with ⟨h2,h3⟩|h2
  ·have:=h1.2.2.1 h3; omega
  ·omega
theorem SI.row (p:SI hb h states sN sA oS oN oA xs D' acc'){r:List Int}(hr:r.length=5)(hl:D'.length<=100000) :
  ∃s' h' o',apnd 5 40 sN (.sl h.length 0 1 5 none 0) (h++[AObj.cells ⟨r.map I,0,0,false⟩])=some (s',h')/\s'.one=true/\s'.cells=[s']/\h'[hb.length+1]?=some (.cells ⟨[sN,sA],0,0,false⟩)/\
   SI hb (h'.set (hb.length+1) (.cells ⟨[s',sA],0,0,false⟩)) states s' sA oS o' oA xs (D'++[r]) acc'/\FrS (λq=>q=hb.length+1\/(sN≠.nils/\q=oN)) h (h'.set (hb.length+1) (.cells ⟨[s',sA],0,0,false⟩))/\(s'≠.nils->(o'=oN/\sN≠.nils)\/h.length<=o'):=by
 have b:=Gr.lit (h:=h) (sz:=5) (v:=r.map I) (by simp[hr])
 rw[a3_] at b
 have e1:Ext h (h++[AObj.cells ⟨r.map I,0,0,false⟩]):=Ext.push _ _
 obtain ⟨s',h',o',q1,q2,q3,q4⟩:=(p.gn.ext e1).appP (λz=>by have:=p.pn z; simp; omega) b.sl oM (bytes:=40) oM (by simp; omega)
 have f:=(FrS.ofExt (D:=λq=>sN≠.nils/\q=oN) e1).trans q4
 have l:=f.len
 have bl:=p.bl
 have ps:=p.ps
 have pn:=p.pn
 have pa:=p.pa
 have l1:(h++[AObj.cells ⟨r.map I,0,0,false⟩]).length=h.length+1:=by simp
 have q3':s'≠.nils->(o'=oN/\sN≠.nils)\/h.length<=o':=λz=>by
  rcases (q3 z).1 with q|q
  ·exact .inl q
  ·exact .inr oM
 have ro:=p.ro
 have ro':h'[hb.length+1]?=some (.cells ⟨[sN,sA],0,0,false⟩):=by rw[f.get (λz=>by have:=pn z.1; omega) oM]; exact ro
 have nl:∀{lo:Nat} {sz:Nat} {s:AV} {xs:List (List AV)},Gr lo (lo+1) h sz s xs->(s≠.nils->sN≠.nils->oN≠lo)->Gr lo (lo+1) h' sz s xs:=by
  intro lo sz s xs g hq
  by_cases q:s=.nils
  ·subst q
   have:=g.isNil
   subst this
   exact Gr.nil ..
  ·exact g.frs f λr r1 r2 z=>by have:=hq q z.1; omega
 have st:∀{lo:Nat} {sz:Nat} {s:AV} {xs:List (List AV)} (x:AObj),Gr lo (lo+1) h' sz s xs->(s≠.nils->lo≠hb.length+1)->Gr lo (lo+1) (h'.set (hb.length+1) x) sz s xs:=by
  intro lo sz s xs x g hq
  by_cases q:s=.nils
  ·subst q
   have:=g.isNil
   subst this
   exact Gr.nil ..
  ·exact g.set (by have:=hq q; omega) _
 have q5:∀z:s'≠.nils,hb.length+2<=o'/\o'<h'.length:=λz=>by
  have h1:=(q3 z).2
  rcases q3' z with ⟨h2,h3⟩|h2
  ·have:=pn h3; omega
  ·omega
 refine ⟨s',h',o',q1,q2.sl.one,q2.sl.cells,ro',⟨(f.ext p.eb λq z1 z2=>by have:=pn z2.1; omega).setr (Nat.le_succ _) _,a0_ oM,st _ (nl p.gs λz1 z2=>(pn z2).2.2 z1) λz=>by have:=ps z; omega,st _ (q2.cong (by simp[encR])) λz=>by have:=q5 z; omega,st _ (nl p.ga λz1 z2=>((pa z1).2.2.2 z2).symm) λz=>by have:=pa z; omega,?_,?_,?_,by simp; omega⟩,(f.mono λq _ z=>Or.inr z).trans ((FrS.set1 _ _ _).mono λq _ z=>Or.inl z),q3'⟩
 ·intro z; have:=ps z; simp; omega
 ·intro z
  have h1:=q5 z
  refine ⟨h1.1,by simp; exact h1.2,λz2=>?_⟩
  rcases q3' z with ⟨h2,h3⟩|h2
  ·have:=(pn h3).2.2 z2; omega
  ·have:=ps z2; omega
 ·intro z
  have h1:=pa z
  refine ⟨h1.1,by simp; omega,h1.2.2.1,λz2=>?_⟩
  rcases q3' z2 with ⟨h2,h3⟩|h2
  ·have:=h1.2.2.2 h3; omega
  ·omega
theorem SI.accept (p:SI hb h states sN sA oS oN oA xs D' acc')(b:Bool)(hl:acc'.length<=100000) :
  ∃s' h' o',apnd 1 1 sA (.sl h.length 0 1 1 none 0) (h++[AObj.cells ⟨[.bool b],0,0,false⟩])=some (s',h')/\s'.one=true/\s'.cells=[s']/\h'[hb.length+1]?=some (.cells ⟨[sN,sA],0,0,false⟩)/\
   SI hb (h'.set (hb.length+1) (.cells ⟨[sN,s'],0,0,false⟩)) states sN s' oS oN o' xs D' (acc'++[b])/\FrS (λq=>q=hb.length+1\/(sA≠.nils/\q=oA)) h (h'.set (hb.length+1) (.cells ⟨[sN,s'],0,0,false⟩))/\(s'≠.nils->(o'=oA/\sA≠.nils)\/h.length<=o'):=by
 have b0:=Gr.lit (h:=h) (sz:=1) (v:=encB b) rfl
 rw[a3_] at b0
 have e1:Ext h (h++[AObj.cells ⟨encB b,0,0,false⟩]):=Ext.push _ _
 obtain ⟨s',h',o',q1,q2,q3,q4⟩:=(p.ga.ext e1).appP (λz=>by have:=p.pa z; simp; omega) b0.sl oM (bytes:=1) oM (by simp; omega)
 have f:=(FrS.ofExt (D:=λq=>sA≠.nils/\q=oA) e1).trans q4
 have l:=f.len
 have bl:=p.bl
 have ps:=p.ps
 have pn:=p.pn
 have pa:=p.pa
 have l1:(h++[AObj.cells ⟨encB b,0,0,false⟩]).length=h.length+1:=by simp
 have q3':s'≠.nils->(o'=oA/\sA≠.nils)\/h.length<=o':=λz=>by
  rcases (q3 z).1 with q|q
  ·exact .inl q
  ·exact .inr oM
 have ro:=p.ro
 have ro':h'[hb.length+1]?=some (.cells ⟨[sN,sA],0,0,false⟩):=by rw[f.get (λz=>by have:=pa z.1; omega) oM]; exact ro
 have nl:∀{lo:Nat} {sz:Nat} {s:AV} {xs:List (List AV)},Gr lo (lo+1) h sz s xs->(s≠.nils->sA≠.nils->oA≠lo)->Gr lo (lo+1) h' sz s xs:=by
  intro lo sz s xs g hq
  by_cases q:s=.nils
  ·subst q
   have:=g.isNil
   subst this
   exact Gr.nil ..
  ·exact g.frs f λr r1 r2 z=>by have:=hq q z.1; omega
 have st:∀{lo:Nat} {sz:Nat} {s:AV} {xs:List (List AV)} (x:AObj),Gr lo (lo+1) h' sz s xs->(s≠.nils->lo≠hb.length+1)->Gr lo (lo+1) (h'.set (hb.length+1) x) sz s xs:=by
  intro lo sz s xs x g hq
  by_cases q:s=.nils
  ·subst q
   have:=g.isNil
   subst this
   exact Gr.nil ..
  ·exact g.set (by have:=hq q; omega) _
 have q5:∀z:s'≠.nils,hb.length+2<=o'/\o'<h'.length:=λz=>by
  have h1:=(q3 z).2
  rcases q3' z with ⟨h2,h3⟩|h2
  ·have:=pa h3; omega
  ·omega
 refine ⟨s',h',o',q1,q2.sl.one,q2.sl.cells,ro',⟨(f.ext p.eb λq z1 z2=>by have:=pa z2.1; omega).setr (Nat.le_succ _) _,a0_ oM,st _ (nl p.gs λz1 z2=>(pa z2).2.2.1 z1) λz=>by have:=ps z; omega,st _ (nl p.gn λz1 z2=>(pa z2).2.2.2 z1) λz=>by have:=pn z; omega,st _ (q2.cong (by simp[encB])) λz=>by have:=q5 z; omega,?_,?_,?_,by simp; omega⟩,(f.mono λq _ z=>Or.inr z).trans ((FrS.set1 _ _ _).mono λq _ z=>Or.inl z),q3'⟩
 ·intro z; have:=ps z; simp; omega
 ·intro z; have:=pn z; exact ⟨this.1,by simp; omega,this.2.2⟩
 ·intro z
  have h1:=q5 z
  refine ⟨h1.1,by simp; exact h1.2,λz2=>?_,λz2=>?_⟩
  ·rcases q3' z with ⟨h2,h3⟩|h2
   ·have:=(pa h3).2.2.1 z2; omega
   ·have:=ps z2; omega
  ·rcases q3' z with ⟨h2,h3⟩|h2
   ·have:=(pa h3).2.2.2 z2; omega
   ·have:=pn z2; omega
end
end
end Go.Gm.AZ
namespace Go.Gm.AZ
open Go Go.Gm
def SetsV (n:Nat)(h:Heap)(W:Nat->Prop)(B:List AV)(S:List Nat):Prop:=
 B.length=S.length/\∀(i s:Nat),S[i]?=some s->(∀p,s.testBit p=true->p<n)/\∃lo hi,Gr lo hi h 1 (gi B (i:Int)) ((bits n s).map encB)/\∀o,lo<=o->o<hi->o<h.length/\W o
theorem SetsV.go {n:Nat}{h h':Heap}{W W' D:Nat->Prop}{B:List AV}{S:List Nat}(v:SetsV n h W B S)(f:FrS D h h')(hd:∀o,o<h.length->W o->¬D o/\W' o):SetsV n h' W' B S:=by
 refine ⟨v.1,λi s hi=>?_⟩
 obtain ⟨hs,lo,hi',g,r⟩:=v.2 i s hi
 have l:=f.len
 refine ⟨hs,lo,hi',g.frs f λo z1 z2=>?_,λo z1 z2=>?_⟩
 ·have:=r o z1 z2; exact (hd o this.1 this.2).1
 ·have:=r o z1 z2; exact ⟨oM,(hd o this.1 this.2).2⟩
theorem SetsV.ext {n:Nat}{h h':Heap}{W:Nat->Prop}{B:List AV}{S:List Nat}(v:SetsV n h W B S)(e:Ext h h'):SetsV n h' W B S:=
 v.go (D:=λ_=>False) (FrS.ofExt e) λo _ w=>⟨id,w⟩
theorem SetsV.snoc {n:Nat}{h:Heap}{W:Nat->Prop}{B:List AV}{S:List Nat}(v:SetsV n h W B S){a:AV}{t lo hi:Nat}(ht:∀p,t.testBit p=true->p<n)(g:Gr lo hi h 1 a ((bits n t).map encB))(r:∀o,lo<=o->o<hi->o<h.length/\W o):SetsV n h W (B++[a]) (S++[t]):=by
 refine ⟨by simp[v.1],λi s hi'=>?_⟩
 by_cases q:i<S.length
 ·rw[List.getElem?_append_left q] at hi'
  obtain ⟨hs,lo',hi2,g',r'⟩:=v.2 i s hi'
  refine ⟨hs,lo',hi2,?_,r'⟩
  rw[show gi (B++[a]) (i:Int)=gi B (i:Int) from a3h oM (by have:=v.1; omega)]; exact g'
 ·have hl:=(List.getElem?_eq_some_iff.1 hi').1
  simp only[List.length_append,List.length_cons,List.length_nil] at hl
  obtain rfl:i=S.length:=oM
  rw[List.getElem?_append_right (Nat.le_refl _)] at hi'
  simp at hi'
  subst hi'
  refine ⟨ht,lo,hi,?_,r⟩
  rw[b2_ (by simp[v.1])]
  simp[<-v.1]
  exact g
theorem c0y (va:Sl h 1 a ((bits n s).map encB))(vb:Sl h 1 b ((bits n t).map encB))(hn:n<=1000)(hs:∀p,s.testBit p=true->p<n)(ht:∀p,t.testBit p=true->p<n) :
  Tot tab a0z [a,b] h λr h'=>h=h'/\∃x:Bool,r=.bool x/\(x=true↔s=t):=by
 refine WP.tot (b0H · ..) ?_
 have la:=a4i n s
 have lb:=a4i n t
 have loop:∀d i:Nat,i+d=n->(∀p,p<i->s.testBit p=t.testBit p)->WP (λp:Nat × Nat=>a0c p.1 p.2 a b (I i) h) λr h'=>h=h'/\∃x:Bool,r=.bool x/\(x=true↔s=t):=by
  intro d
  induction d with
  |zero=>
   intro i hi hp
   refine WP.rnd (a4e · · ..) ?_
   refine g2 va.lenG @la ?_
   refine WP.ret ⟨rfl,true,rfl,⟨λ_=>?_,λ_=>rfl⟩⟩
   refine Nat.eq_of_testBit_eq λp=>?_
   by_cases q:p<n
   ·exact hp p oM
   ·cases h1:s.testBit p with
    |true=>exact absurd (hs p h1) q
    |false=>
     cases h2:t.testBit p with
     |true=>exact absurd (ht p h2) q
     |false=>rfl
  |succ d ih=>
   intro i hi hp
   refine WP.rnd (a4e · · ..) ?_
   have h1:=a6O (s:=s) (n:=n) (p:=i) oM
   have h2:=a6O (s:=t) (n:=n) (p:=i) oM
   obtain ⟨x,hx⟩:∃x,s.testBit i=x:=⟨_,rfl⟩
   obtain ⟨y,hy⟩:∃y,t.testBit i=y:=⟨_,rfl⟩
   rw[hx] at h1
   rw[hy] at h2
   by_cases q:x=y
   ·subst q
    have hxx:(!(x == x))=false:=by simp
    refine g12 va.lenG @la va.idxG va.ld0 vb.idxG vb.ld0 @lb @h1 @h2 @encB.eq_1 @neq_b @hxx ?_
    refine ih (i+1) oM λp hp'=>?_
    by_cases z:p=i
    ·rw[z,hx,hy]
    ·exact hp p oM
   ·have hxx:(!(x == y))=true:=by simp[q]
    refine g12 va.lenG @la va.idxG va.ld0 vb.idxG vb.ld0 @lb @h1 @h2 @encB.eq_1 @neq_b @hxx ?_
    refine WP.ret ⟨rfl,false,rfl,⟨λz=>absurd z (by decide),λz=>?_⟩⟩
    subst z
    exact absurd (hx.symm.trans hy) q
 exact WP.ent (loop n 0 oM λp hp=>oM) λi=>rfl
def idxI (t:Nat)(i:Nat)(S:List Nat):Int:=match idxF t i S with
 |some j=>(j:Int)
 |none=>-1
theorem c0z {h:Heap}{states b:AV}{W:Nat->Prop}{B:List AV}{S:List Nat}{t n:Nat}(gs:Sl h 1 states (B.map enc1))(sv:SetsV n h W B S)(vb:Sl h 1 b ((bits n t).map encB))(hn:n<=1000)(hS:S.length<=100000)(ht:∀p,t.testBit p=true->p<n) :
  Tot tab a0x [states,b] h λr h'=>h=h'/\r=I (idxI t 0 S):=by
 refine WP.tot (b0F · ..) ?_
 have lB:=sv.1
 have loop:∀d i:Nat,i+d=S.length->idxI t i (List.drop i S)=idxI t 0 S->WP (λp:Nat × Nat=>a0a p.1 p.2 states b (I i) h) λr h'=>h=h'/\r=I (idxI t 0 S):=by
  intro d
  induction d with
  |zero=>
   intro i hi hp
   refine WP.rnd (a4d · · ..) ?_
   refine g2 gs.lenG @lB ?_
   refine WP.ret ⟨rfl,?_⟩
   rw[<-hp,List.drop_of_length_le oM]
   rfl
  |succ d ih=>
   intro i hi hp
   refine WP.rnd (a4d · · ..) ?_
   have hx:S[i]?=some S[i]:=List.getElem?_eq_getElem oM
   obtain ⟨hs,lo,hi',g,_⟩:=sv.2 i _ hx
   have hdr:S.drop i=S[i]::S.drop (i+1):=List.drop_eq_getElem_cons oM
   simp -implicitDefEqProofs (disch:=first|assumption|omega|exact Ext.refl _|(simp only[gL,gA]<;>omega)|fail) only[cG,reduceIte,gs.lenG,lB,gs.idxG,gs.ld0,enc1]
   refine WP.call (c0y g.sl vb hn hs ht) ?_
   rintro r h' ⟨rfl,x,rfl,hx2⟩
   rw[hdr,idxI,idxF] at hp
   cases x with
   |true=>
    refine g0 ?_
    refine WP.ret ⟨rfl,?_⟩
    rw[<-hp,if_pos (hx2.1 rfl)]
   |false=>
    refine g0 ?_
    have hne:¬S[i]=t:=λz=>by have:=hx2.2 z; cases this
    rw[if_neg hne] at hp
    exact ih (i+1) oM hp
 exact WP.ent (loop S.length 0 oM (by rw[List.drop_zero])) λi=>rfl
end Go.Gm.AZ
namespace Go.Gm.AZ
open Go Go.Gm
section
variable {nf:NF} {sS sF:AV}
def OffS (hb:Heap)(states sN sA:AV)(oS oN oA:Nat)(o:Nat):Prop:=o≠hb.length+1/\(states≠.nils->o≠oS)/\(sN≠.nils->o≠oN)/\(sA≠.nils->o≠oA)
theorem c2q {xs:List Int}{m:Nat}(hm:m<xs.length)(j:Int):(xs.set m j).take (m+1)=xs.take m++[j]:=by
 refine List.ext_getElem? λp=>?_
 by_cases q:p<m
 ·rw[List.getElem?_take_of_lt oM,List.getElem?_set_ne oM,List.getElem?_append_left (by simp; omega),List.getElem?_take_of_lt q]
 ·by_cases z:p=m
  ·subst z
   rw[List.getElem?_take_of_lt oM,List.getElem?_set_self hm,List.getElem?_append_right (by simp; omega)]
   simp[Nat.min_eq_left (Nat.le_of_lt hm)]
  ·rw[List.getElem?_eq_none (by simp; omega),List.getElem?_eq_none (by simp; omega)]
theorem c5p (ok:NfOk nf)(s m:Nat):∀p,(nxtF nf s m).testBit p=true->p<nf.n:=by
 have hs:∀p,(stpF nf.st s m).testBit p=true->p<nf.n:=λp hp=>by
  obtain ⟨x,x1,_,_,x4⟩:=a9q.1 hp
  rw[<-x4]; exact (ok.st x x1).2
 exact λp hp=>b7h (λf hf=>(ok.fr f hf).2) hs ((a9p (λf hf=>(ok.fr f hf).2) hs p).1 hp)
theorem c5q {h0 hb:Heap}{on ot i s nx:Nat}{sN sA:AV}{oN oA:Nat}{D':List (List Int)}{acc':List Bool}{Q:AV->Heap->Prop}(v:NfV hb nf sS sF)(rn:hb[on]?=some (.cells ⟨nfC nf sS sF,0,0,false⟩))(rt:hb[ot]?=some (.cells ⟨[.nils,.nils],0,0,false⟩))(e0:Ext h0 hb)(hot:h0.length<=ot) :
  ∀(d m:Nat) (h:Heap) (states:AV) (oS:Nat) (B:List AV) (S:List Nat) (nxs:List Int),m+d=5->SI hb h states sN sA oS oN oA B D' acc'->SetsV nf.n h (fun o=>OffS hb states sN sA oS oN oA o/\o≠nx) B S->S[i]?=some s->S.length<=200->NxOk h hb nx nxs states sN sA oS oN oA->
   (rowF nf 200 s d m S (nxs.take m)=none->∀h',Ext h0 h'->Q (.tup [.agg [.nils,.nils],I 5]) h')->
   (∀h2 states2 oS2 B2 S2 nxs2,SI hb h2 states2 sN sA oS2 oN oA B2 D' acc'->SetsV nf.n h2 (fun o=>OffS hb states2 sN sA oS2 oN oA o/\o≠nx) B2 S2->S2[i]?=some s->S2.length<=200->NxOk h2 hb nx nxs2 states2 sN sA oS2 oN oA->rowF nf 200 s d m S (nxs.take m)=some (S2,nxs2)->
    WP (fun p:Nat × Nat=>a0F p.1 p.2 (I 200) (.ptr on 0 5 0) (.ptr ot 0 2 0) states2 (.ptr (hb.length+1) 0 2 0) (I i) (.ptr nx 0 5 0) h2) Q)->
   WP (fun p:(Nat × Nat) × Nat=>t2_ p.1.1 p.1.2 p.2 (I 200) (.ptr on 0 5 0) (.ptr ot 0 2 0) states (.ptr (hb.length+1) 0 2 0) (I i) (.ptr nx 0 5 0) (I m) h) Q:=by
 have hn:=v.n0
 intro d
 induction d with
 |zero=>
  intro m h states oS B S nxs h1 mi sv hi hl nk q1 q2
  refine WP.rnd (fun i' j=>a2y i'.1 i'.2 j (I 200) (.ptr on 0 5 0) (.ptr ot 0 2 0) states (.ptr (hb.length+1) 0 2 0) (I i) (.ptr nx 0 5 0) (I m) h) ?_
  obtain rfl:m=5:=by omega
  have ht:nxs.take 5=nxs:=List.take_of_length_le (by rw[nk.2.1]; omega)
  simp -implicitDefEqProofs (maxSteps:=1000000) (disch:=first|assumption|omega|(simp only[gL]<;>omega)|((repeat (first|exact Ext.refl _|assumption|apply Ext.app|apply Ext.mk|(refine Ext.setr ?_ (by (first|omega|(simp only[gL]<;>omega))) _))); done)|(simp only[gL,gA]<;>omega)|fail) only[gB,setAll,partL,fldV,reduceIte,Nat.reduceAdd,Nat.reduceMul]
  exact WP.lv (q2 h states oS B S nxs mi sv hi hl nk (by rw[ht]; rfl)) fun i j=>rfl
 |succ d ih=>
  intro m h states oS B S nxs h1 mi sv hi hl nk q1 q2
  refine WP.rnd (fun i' j=>a2y i'.1 i'.2 j (I 200) (.ptr on 0 5 0) (.ptr ot 0 2 0) states (.ptr (hb.length+1) 0 2 0) (I i) (.ptr nx 0 5 0) (I m) h) ?_
  have hm5:m<5:=by omega
  obtain ⟨t,ht⟩:∃t,nxtF nf s m=t:=⟨_,rfl⟩
  have htn:∀p,t.testBit p=true->p<nf.n:=ht▸c5p v.ok s m
  have key:∀(h:Heap) (states:AV) (oS:Nat) (B:List AV) (S':List Nat) (j:Nat),SI hb h states sN sA oS oN oA B D' acc'->SetsV nf.n h (fun o=>OffS hb states sN sA oS oN oA o/\o≠nx) B S'->S'[i]?=some s->S'.length<=200->NxOk h hb nx nxs states sN sA oS oN oA->rowF nf 200 s (d+1) m S (nxs.take m)=rowF nf 200 s d (m+1) S' (nxs.take m++[(j:Int)])->
    WP (fun p:(Nat × Nat) × Nat=>t3_ p.1.1 p.1.2 p.2 (I 200) (.ptr on 0 5 0) (.ptr ot 0 2 0) states (.ptr (hb.length+1) 0 2 0) (I i) (.ptr nx 0 5 0) (I m) (I j) h) Q:=by
   intro h states oS B S' j mi sv hi hl nk hr
   refine WP.congr (fun p=>a7k p.1.1 p.1.2 p.2 (I 200) (.ptr on 0 5 0) (.ptr ot 0 2 0) states (.ptr (hb.length+1) 0 2 0) (I i) (.ptr nx 0 5 0) (I m) (I j) h) ?_
   obtain ⟨n1,n2,n3,n4,n5,n6⟩:=nk
   have hst:=stP (x:=j) (m:=m) n1
   have hia:=b0q (o:=nx) hm5
   have bon:=(List.getElem?_eq_some_iff.1 n1).1
   have hw:h.set nx (.cells ⟨(nxs.map I).set m (I j),0,0,false⟩)=h.set nx (.cells ⟨(nxs.set m (j:Int)).map I,0,0,false⟩):=by rw[List.map_set]
   rw[hw] at hst
   simp -implicitDefEqProofs (maxSteps:=1000000) (disch:=first|assumption|omega|(simp only[gL]<;>omega)|((repeat (first|exact Ext.refl _|assumption|apply Ext.app|apply Ext.mk|(refine Ext.setr ?_ (by (first|omega|(simp only[gL]<;>omega))) _))); done)|(simp only[gL,gA,hia]<;>omega)|fail) only[gB,setAll,partL,fldV,reduceIte,Nat.reduceAdd,Nat.reduceMul,hia]
   have f:FrS (fun q=>q=nx) h (h.set nx (.cells ⟨(nxs.set m (j:Int)).map I,0,0,false⟩)):=⟨by simp,fun p p1 p2=>a9_ fun z=>p1 z.symm⟩
   have hwr:wrAt 1 h h[nx]? nx m (m+1) 0 [I j]=some (h.set nx (.cells ⟨(nxs.set m (j:Int)).map I,0,0,false⟩)):=by
    rw[b0V] at hst; exact hst
   simp -implicitDefEqProofs (maxSteps:=1000000) (disch:=first|assumption|omega|(simp only[gL]<;>omega)|((repeat (first|exact Ext.refl _|assumption|apply Ext.app|apply Ext.mk|(refine Ext.setr ?_ (by (first|omega|(simp only[gL]<;>omega))) _))); done)|(simp only[gL,gA,hwr]<;>omega)|fail) only[gB,setAll,partL,fldV,reduceIte,Nat.reduceAdd,Nat.reduceMul,hwr]
   have htk:=c2q (xs:=nxs) (m:=m) (by omega) (j:Int)
   refine ih (m+1) _ states oS B S' (nxs.set m (j:Int)) (by omega) (mi.frs f ⟨by omega,by omega⟩ n4 n5 n6) (sv.go f fun o z1 z2=>⟨z2.2,z2⟩) hi hl ⟨a0_ bon,by simpa using n2,n3,n4,n5,n6⟩ (fun z=>q1 (by rw[hr,<-htk]; exact z)) fun h2 states2 oS2 B2 S2 nxs2 y1 y2 y3 y4 y5 y6=>q2 h2 states2 oS2 B2 S2 nxs2 y1 y2 y3 y4 y5 (by rw[hr,<-htk]; exact y6)
  have hgs:=mi.gs.sl
  have rn':=mi.eb.get rn
  have rt':=mi.eb.get rt
  have hil:=(List.getElem?_eq_some_iff.1 hi).1
  have lB:=sv.1
  obtain ⟨hs,lo,hi',g,_⟩:=sv.2 i s hi
  simp -implicitDefEqProofs (maxSteps:=1000000) (disch:=first|assumption|omega|(simp only[gL]<;>omega)|((repeat (first|exact Ext.refl _|assumption|apply Ext.app|apply Ext.mk|(refine Ext.setr ?_ (by (first|omega|(simp only[gL]<;>omega))) _))); done)|(simp only[gL,gA,rn',hgs.idxG,lB,hgs.ld0,enc1]<;>omega)|fail) only[gB,setAll,partL,fldV,reduceIte,Nat.reduceAdd,Nat.reduceMul,rn',hgs.idxG,lB,hgs.ld0,enc1]
  refine WP.call (c3Q (v.ext mi.eb) g.sl hm5) ?_
  rintro r h2 ⟨e2,g2⟩
  rw[ht] at g2
  have mi2:=mi.ext e2
  have sv2:=sv.ext e2
  have hgs2:=mi2.gs.sl
  refine WP.call (c0z hgs2 sv2 g2.sl hn (by omega) htn) ?_
  rintro r2 h2' ⟨rfl,rfl⟩
  have rt2:=e2.get rt'
  have bnx:=(List.getElem?_eq_some_iff.1 nk.1).1
  have nk2:NxOk h2 hb nx nxs states sN sA oS oN oA:=⟨e2.get nk.1,nk.2⟩
  cases hix:idxF t 0 S with
  |some j=>
   have e:idxI t 0 S=(j:Int):=by rw[idxI,hix]
   rw[e]
   simp -implicitDefEqProofs (maxSteps:=1000000) (disch:=first|assumption|omega|(simp only[gL]<;>omega)|((repeat (first|exact Ext.refl _|assumption|apply Ext.app|apply Ext.mk|(refine Ext.setr ?_ (by (first|omega|(simp only[gL]<;>omega))) _))); done)|(simp only[gL,gA]<;>omega)|fail) only[gB,setAll,partL,fldV,reduceIte,Nat.reduceAdd,Nat.reduceMul]
   exact key h2 states oS B S j mi2 sv2 hi hl nk2 (by rw[rowF]; simp only[ht,hix])
  |none=>
   have e:idxI t 0 S = -1:=by rw[idxI,hix]
   rw[e]
   by_cases q:200<=S.length
   ·have b1:=(List.getElem?_eq_some_iff.1 rt2).1
    simp -implicitDefEqProofs (maxSteps:=1000000) (disch:=first|assumption|omega|(simp only[gL]<;>omega)|((repeat (first|exact Ext.refl _|assumption|apply Ext.app|apply Ext.mk|(refine Ext.setr ?_ (by (first|omega|(simp only[gL]<;>omega))) _))); done)|(simp only[gL,gA,hgs2.lenG,lB,rt2]<;>omega)|fail) only[gB,setAll,partL,fldV,reduceIte,Nat.reduceAdd,Nat.reduceMul,hgs2.lenG,lB,rt2]
    refine WP.ret (q1 (by rw[rowF]; simp only[ht,hix,if_pos q]) _ ((e0.trans mi2.eb).setr hot _))
   ·obtain ⟨s',h3,o',a1,mi3,a3,a4⟩:=mi2.addS r g2.sl.cells (by omega)
    have r1:=g2.sl.one
    have r2:=g2.sl.cells
    simp -implicitDefEqProofs (maxSteps:=1000000) (disch:=first|assumption|omega|(simp only[gL]<;>omega)|((repeat (first|exact Ext.refl _|assumption|apply Ext.app|apply Ext.mk|(refine Ext.setr ?_ (by (first|omega|(simp only[gL]<;>omega))) _))); done)|(simp only[gL,gA,hgs2.lenG,lB,r1,r2,a1]<;>omega)|fail) only[gB,setAll,partL,fldV,reduceIte,Nat.reduceAdd,Nat.reduceMul,hgs2.lenG,lB,r1,r2,a1]
    have l3:=a3.len
    have le2:=e2.len
    refine key h3 s' o' (B++[r]) (S++[t]) S.length mi3 ?_ (a2N hi) (by rw[List.length_append]; simp; omega) ?_ (by rw[rowF]; simp only[ht,hix,if_neg q])
    ·have base:SetsV nf.n h3 (fun o=>OffS hb s' sN sA o' oN oA o/\o≠nx) B S:=sv.go (D:=fun q=>states≠.nils/\q=oS) ((FrS.ofExt e2).trans a3) fun o z1 z2=>⟨fun z=>z2.1.2.1 z.1 z.2,⟨z2.1.1,fun z=>?_,z2.1.2.2.1,z2.1.2.2.2⟩,z2.2⟩
     ·refine base.snoc htn (g2.frs a3 fun o z1 z2 z3=>?_) fun o z1 z2=>⟨by omega,⟨?_,fun z=>?_,fun z=>?_,fun z=>?_⟩,by omega⟩
      ·have:=mi.ps z3.1; omega
      ·have:=mi.bl; omega
      ·rcases a4 z with ⟨w1,w2⟩|w1
       ·have:=mi.ps w2; omega
       ·omega
      ·have:=mi.pn z; omega
      ·have:=mi.pa z; omega
     ·rcases a4 z with ⟨w1,w2⟩|w1
      ·rw[w1]; exact z2.1.2.1 w2
      ·omega
    ·obtain ⟨n1,n2,n3,n4,n5,n6⟩:=nk2
     refine ⟨?_,n2,n3,fun z=>?_,n5,n6⟩
     ·rw[a3.get (fun z=>n4 z.1 z.2) (by omega)]; exact n1
     ·rcases a4 z with ⟨z1,z2⟩|z1
      ·rw[z1]; exact n4 z2
      ·omega
end
end Go.Gm.AZ
