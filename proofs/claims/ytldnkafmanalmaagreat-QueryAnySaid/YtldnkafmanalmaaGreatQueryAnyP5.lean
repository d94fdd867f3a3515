/- A part of the proof (GmAZB, GmAZC, GmAZD, GmAZE, GmE, GmN, GmAZna, GmRw, GmAZja, GmAZka, GmNf, GmNz). -/
import Derived.Test.YtldnkafmanalmaaGreatQueryAnyP4
set_option autoImplicit true
set_option relaxedAutoImplicit true
set_option linter.unusedVariables false
set_option linter.unusedSimpArgs false
set_option linter.unusedSectionVars false
namespace Go.Gm.AZ
open Go Go.Gm
section
variable {W:Nat->Prop} {oq:Nat} {N:Nat} {M:List (Option Int)}
theorem QS.len (q:QS W h oq xs at'):xs.length<=10000000:=by
 obtain ⟨s1,s2,o1,o2,q⟩:=q; exact q.len
theorem swapR (q:QS W h oq xs at')(r:Rep N xs at' M){i j:Int}(i0:0<=i)(i1:i<xs.length)(j0:0<=j)(j1:j<xs.length) :
  Tot tab a0S [.ptr oq 0 2 0,I i,I j] h λ_ h'=>∃at2,QS W h' oq (sw xs i j) at2/\Rep N (sw xs i j) at2 M/\FrS W h h':=by
 have ai:=r.a i i0 i1
 have aj:=r.a j j0 j1
 have la:=r.la
 exact (b9r q i0 i1 j0 j1 ⟨ai.1,oM⟩ ⟨aj.1,oM⟩).mono λ_ h' ⟨a,b⟩=>⟨_,a,r.swap i0 i1 j0 j1,b⟩
theorem c2F {L:Nat}:∀(d:Nat) (j:Int) (h:Heap) (xs:List (Int × Int)) (at':List Int),j<=d->0<=j->j<L->xs.length=L->QS W h oq xs at'->Rep N xs at' M->UpI L xs j->FrS W h0 h->
  WP (λp:Nat × Nat=>a0s p.1 p.2 (.ifc tyHp (.ptr oq 0 2 0)) (I j) h) λ_ h'=>∃xs2 at2,QS W h' oq xs2 at2/\Rep N xs2 at2 M/\Hp L xs2/\xs2.length=L/\FrS W h0 h':=by
 intro d
 induction d with
 |zero=>
  intro j h xs at' hd j0 j1 hl q r u fr
  refine WP.rnd (a4F · · ..) ?_
  obtain rfl:j=0:=oM
  have hw:IntKind.i64.wrap (((0:Int)-1).tdiv 2)=0:=by decide
  refine g1 @hw ?_
  exact WP.ret ⟨xs,at',q,r,u.done (.inl rfl),hl,fr⟩
 |succ d ih=>
  intro j h xs at' hd j0 j1 hl q r u fr
  refine WP.rnd (a4F · · ..) ?_
  by_cases hj:j=0
  ·subst hj
   have hw:IntKind.i64.wrap (((0:Int)-1).tdiv 2)=0:=by decide
   refine g1 @hw ?_
   exact WP.ret ⟨xs,at',q,r,u.done (.inl rfl),hl,fr⟩
  ·have hlen:=q.len
   have hp:=w7_ (i:=j) oM
   have hw:IntKind.i64.wrap ((j-1).tdiv 2)=par j:=by
    rw[Int.tdiv_eq_ediv_of_nonneg oM]
    exact d6_ oM oM
   refine g2 @hw @a0A ?_
   refine WP.call (a7a q j0 oM hp.1 oM) ?_
   rintro _ h1 ⟨rfl,e1⟩
   have fr1:=fr.trans (FrS.ofExt (D:=W) e1)
   by_cases hlt:ltI (gi xs j) (gi xs (par j))
   ·refine g2 (decide_eq_true hlt) @a5o ?_
    refine WP.call (swapR (q.ext e1) r hp.1 oM j0 oM) ?_
    rintro _ h2 ⟨at2,q2,r2,f2⟩
    exact ih (par j) h2 (sw xs (par j) j) at2 oM hp.1 oM (by rw[a7x]; exact hl) q2 r2 (u.swap oM j1 oM hlt) (fr1.trans f2)
   ·refine g1 (decide_eq_false hlt) ?_
    exact WP.ret ⟨xs,at',q.ext e1,r,u.done (.inr hlt),hl,fr1⟩
theorem b7J {xs:List (Int × Int)}{j:Int}(j0:0<=j)(j1:j<xs.length)(q:QS W h oq xs at')(r:Rep N xs at' M)(u:UpI xs.length xs j) :
  Tot tab w6_ [.ifc tyHp (.ptr oq 0 2 0),I j] h λ_ h'=>∃xs2 at2,QS W h' oq xs2 at2/\Rep N xs2 at2 M/\Hp xs.length xs2/\xs2.length=xs.length/\FrS W h h':=
 WP.tot (b1l · ..) (WP.ent (c2F j.toNat j h xs at' oM j0 j1 rfl q r u (FrS.refl _ _)) λi=>rfl)
theorem b9u {L n:Nat}{rt:Int × Int}(hn:n<=L):∀(d:Nat) (i:Int) (h:Heap) (xs:List (Int × Int)) (at':List Int),(n:Int)-i<=d->0<=i->i<=n->xs.length=L->QS W h oq xs at'->Rep N xs at' M->DnI n xs i->(∀p:Int,n<=p->p<L->gi xs p=rt)->FrS W h0 h->
  WP (λp:Nat × Nat=>p5_ p.1 p.2 (.ifc tyHp (.ptr oq 0 2 0)) (I i0) (I n) (I i) h) λr h'=>(∃b,r=.bool b)/\∃xs2 at2,QS W h' oq xs2 at2/\Rep N xs2 at2 M/\Hp n xs2/\xs2.length=L/\(∀p:Int,n<=p->p<L->gi xs2 p=rt)/\FrS W h0 h':=by
 have fin:∀(i:Int) (h:Heap) (xs:List (Int × Int)) (at':List Int),xs.length=L->QS W h oq xs at'->Rep N xs at' M->Hp n xs->(∀p:Int,n<=p->p<L->gi xs p=rt)->FrS W h0 h->
   WP (λk:Nat=>p6_ k (I i0) (I i) h) λr h'=>(∃b,r=.bool b)/\∃xs2 at2,QS W h' oq xs2 at2/\Rep N xs2 at2 M/\Hp n xs2/\xs2.length=L/\(∀p:Int,n<=p->p<L->gi xs2 p=rt)/\FrS W h0 h':=by
  intro i h xs at' hl q r hp hrt fr
  refine WP.congr (a3I · ..) ?_
  refine WP.oa (b4R _ _) ?_
  exact WP.ret ⟨⟨_,rfl⟩,xs,at',q,r,hp,hl,hrt,fr⟩
 intro d
 induction d with
 |zero=>
  intro i h xs at' hd hi0 hin hl q r u hrt fr
  refine WP.rnd (a0t · · ..) ?_
  have hlen:=q.len
  have hw:IntKind.i64.wrap (2*i)=2*i:=d6_ oM oM
  refine g1 @hw ?_
  exact WP.lv (fin i h xs at' hl q r (u.done λc c0 c1 hc=>by unfold par at hc; omega) hrt fr) λi j=>rfl
 |succ d ih=>
  intro i h xs at' hd hi0 hin hl q r u hrt fr
  refine WP.rnd (a0t · · ..) ?_
  have hlen:=q.len
  have hw:IntKind.i64.wrap (2*i)=2*i:=d6_ oM oM
  by_cases hc1:2*i+1<n
  ·
   have part:∀(j:Int) (h:Heap),par j=i->0<j->j<n->(∀c:Int,0<c->c<n->par c=i->¬ltI (gi xs c) (gi xs j))->QS W h oq xs at'->FrS W h0 h->
     WP (λp:Nat × Nat=>p7_ p.1 p.2 (.ifc tyHp (.ptr oq 0 2 0)) (I i0) (I n) (I i) (I j) h) λr h'=>(∃b,r=.bool b)/\∃xs2 at2,QS W h' oq xs2 at2/\Rep N xs2 at2 M/\Hp n xs2/\xs2.length=L/\(∀p:Int,n<=p->p<L->gi xs2 p=rt)/\FrS W h0 h':=by
    intro j h hj j0 j1 hs q fr
    have hpj:=w7_ j0
    refine WP.congr (λp=>a3J p.1 p.2 ..) ?_
    refine g1 @a0A ?_
    refine WP.call (a7a q (i:=j) (j:=i) oM oM hi0 oM) ?_
    rintro _ h1 ⟨rfl,e1⟩
    have fr1:=fr.trans (FrS.ofExt (D:=W) e1)
    by_cases hlt:ltI (gi xs j) (gi xs i)
    ·refine g2 (decide_eq_true hlt) @a5o ?_
     refine WP.call (swapR (q.ext e1) r hi0 oM oM oM) ?_
     rintro _ h2 ⟨at2,q2,r2,f2⟩
     refine ih j h2 (sw xs i j) at2 oM oM oM (by rw[a7x]; exact hl) q2 r2 (u.swap hi0 hj j0 j1 oM hlt hs) (λp p0 p1=>?_) (fr1.trans f2)
     rw[gi_sw hi0 oM oM oM oM,if_neg oM,if_neg oM]
     exact hrt p p0 p1
    ·refine g1 (decide_eq_false hlt) ?_
     refine WP.lv (fin i h1 xs at' hl (q.ext e1) r (u.done λc c0 c1 hc=>?_) hrt fr1) λi j=>rfl
     have:=hs c c0 c1 hc
     unfold ltI at *; omega
   have hpar:∀c,par c=i->c=2*i+1\/c=2*i+1+1:=λc hc=>by unfold par at hc; omega
   by_cases hc2:2*i+1+1<n
   ·refine g2 @hw @a0A ?_
    refine WP.call (a7a q (i:=2*i+1+1) (j:=2*i+1) oM oM oM oM) ?_
    rintro _ h1 ⟨rfl,e1⟩
    have fr1:=fr.trans (FrS.ofExt (D:=W) e1)
    by_cases hlt:ltI (gi xs (2*i+1+1)) (gi xs (2*i+1))
    ·refine g1 (decide_eq_true hlt) ?_
     refine part (2*i+1+1) h1 (by unfold par; omega) oM hc2 (λc c0 c1 hc=>?_) (q.ext e1) fr1
     rcases hpar c hc with rfl|rfl<;>(unfold ltI at *; omega)
    ·refine g1 (decide_eq_false hlt) ?_
     refine part (2*i+1) h1 (by unfold par; omega) oM hc1 (λc c0 c1 hc=>?_) (q.ext e1) fr1
     rcases hpar c hc with rfl|rfl<;>(unfold ltI at *; omega)
   ·refine g1 @hw ?_
    refine part (2*i+1) h (by unfold par; omega) oM hc1 (λc c0 c1 hc=>?_) q fr
    rcases hpar c hc with rfl|rfl
    ·unfold ltI; omega
    ·omega
  ·refine g1 @hw ?_
   exact WP.lv (fin i h xs at' hl q r (u.done λc c0 c1 hc=>by unfold par at hc; omega) hrt fr) λi j=>rfl
theorem b9v {xs:List (Int × Int)}{n:Nat}{i:Int}{rt:Int × Int}(hn:n<=xs.length)(i0:0<=i)(i1:i<=n)(q:QS W h oq xs at')(r:Rep N xs at' M)(u:DnI n xs i)(hrt:∀p:Int,n<=p->p<xs.length->gi xs p=rt) :
  Tot tab f5_ [.ifc tyHp (.ptr oq 0 2 0),I i,I n] h λr h'=>(∃b,r=.bool b)/\∃xs2 at2,QS W h' oq xs2 at2/\Rep N xs2 at2 M/\Hp n xs2/\xs2.length=xs.length/\(∀p:Int,n<=p->p<xs.length->gi xs2 p=rt)/\FrS W h h':=
 WP.tot (a4S · ..) (WP.ent (b9u hn ((n:Int)-i).toNat i h xs at' oM i0 i1 rfl q r u hrt (FrS.refl _ _)) λi=>rfl)
theorem b9w {xs:List (Int × Int)}{i:Int}(i0:0<=i)(i1:i<xs.length)(q:QS W h oq xs at')(hc:∀c,0<c->c<(xs.length:Int)->par c=i->¬ltI (gi xs c) (gi xs i)) :
  Tot tab f5_ [.ifc tyHp (.ptr oq 0 2 0),I i,I xs.length] h λr h'=>r=.bool false/\Ext h h':=by
 refine WP.tot (a4S · ..) ?_
 have hlen:=q.len
 have hw:IntKind.i64.wrap (2*i)=2*i:=d6_ oM oM
 refine WP.ent (c2:=λp=>p5_ p.1 p.2 (.ifc tyHp (.ptr oq 0 2 0)) (I i) (I xs.length) (I i) h) ?_ λi=>rfl
 refine WP.rnd (a0t · · ..) ?_
 have fin:∀h',Ext h h'->WP (λk:Nat=>p6_ k (I i) (I i) h') λr h'=>r=.bool false/\Ext h h':=by
  intro h' e
  refine WP.congr (a3I · ..) ?_
  refine g0 ?_
  exact WP.ret ⟨rfl,e⟩
 by_cases hc1:2*i+1<xs.length
 ·have part:∀(j:Int) (h':Heap),par j=i->0<j->j<xs.length->Ext h h'->
    WP (λp:Nat × Nat=>p7_ p.1 p.2 (.ifc tyHp (.ptr oq 0 2 0)) (I i) (I xs.length) (I i) (I j) h') λr h'=>r=.bool false/\Ext h h':=by
   intro j h' hj j0 j1 e
   refine WP.congr (λp=>a3J p.1 p.2 ..) ?_
   refine g1 @a0A ?_
   refine WP.call (a7a (q.ext e) (i:=j) (j:=i) oM oM i0 oM) ?_
   rintro _ h1 ⟨rfl,e1⟩
   refine g1 (decide_eq_false (hc j j0 j1 hj)) ?_
   exact WP.lv (fin h1 (e.trans e1)) λi j=>rfl
  by_cases hc2:2*i+1+1<xs.length
  ·refine g2 @hw @a0A ?_
   refine WP.call (a7a q (i:=2*i+1+1) (j:=2*i+1) oM oM oM oM) ?_
   rintro _ h1 ⟨rfl,e1⟩
   by_cases hlt:ltI (gi xs (2*i+1+1)) (gi xs (2*i+1))
   ·refine g1 (decide_eq_true hlt) ?_
    exact part (2*i+1+1) h1 (by unfold par; omega) oM hc2 e1
   ·refine g1 (decide_eq_false hlt) ?_
    exact part (2*i+1) h1 (by unfold par; omega) oM hc1 e1
  ·refine g1 @hw ?_
   exact part (2*i+1) h (by unfold par; omega) oM hc1 (Ext.refl _)
 ·refine g1 @hw ?_
  exact WP.lv (fin h (Ext.refl _)) λi j=>rfl
end
end Go.Gm.AZ
namespace Go.Gm.AZ
open Go Go.Gm
def cnt (M:List (Option Int)):Nat:=M.countP (·.isSome)
theorem b9B (M:List (Option Int)):cnt M<=M.length:=List.countP_le_length
theorem b4w {M:List (Option Int)}{i:Int}(h0:0<=i)(h1:i<M.length)(x:Option Int):cnt (M.set i.toNat x)+(if (gi M i).isSome then 1 else 0)=cnt M+(if x.isSome then 1 else 0):=by
 have hi:i.toNat<M.length:=oM
 have hx:M[i.toNat]=gi M i:=by
  have:=c1_ h0 h1
  rw[List.getElem?_eq_getElem hi] at this
  injection this
 have h2:=List.countP_set (p:=λy:Option Int=>y.isSome) (a:=x) hi
 rw[hx] at h2
 have h3:(gi M i).isSome=true->0<cnt M:=λq=>List.countP_pos_iff.2 ⟨gi M i,b7_ h0 h1,q⟩
 unfold cnt at *
 rw[h2]
 by_cases h4:(gi M i).isSome=true
 ·have:=h3 h4
  simp only[h4,if_true]
  omega
 ·simp only[if_neg h4]
  omega
def putM (N:Nat)(M:List (Option Int))(id key:Int):List (Option Int) × Bool:=
 if 0<=id/\id<N then match gi M id with
  |none=>(M.set id.toNat (some key),true)
  |some k=>if k<=key then (M,false) else (M.set id.toNat (some key),true)
 else (M,false)
structure IsMin (N:Nat) (M:List (Option Int)) (id key:Int):Prop where
 i0:0<=id
 i1:id<N
 k:gi M id=some key
 m:∀id' k':Int,0<=id'->id'<N->gi M id'=some k'->¬ltI (id',k') (id,key)
theorem IsMin.uniq (h:IsMin N M a b)(k:IsMin N M c d):a=c/\b=d:=by
 have h1:=h.m c d k.i0 k.i1 k.k
 have h2:=k.m a b h.i0 h.i1 h.k
 simp only[ltI] at h1 h2
 omega
def QV (W:Nat->Prop)(h:Heap)(q:AV)(N:Nat)(M:List (Option Int)):Prop:=
 ∃oq xs at',q=.ptr oq 0 2 0/\QS W h oq xs at'/\Rep N xs at' M/\Hp xs.length xs/\xs.length=cnt M
section
variable {W:Nat->Prop} {h h':Heap} {q:AV} {N:Nat} {M:List (Option Int)}
theorem QV.ext (v:QV W h q N M)(e:Ext h h'):QV W h' q N M:=let ⟨oq,xs,a,h1,h2,h3⟩:=v; ⟨oq,xs,a,h1,h2.ext e,h3⟩
theorem QV.mono {W':Nat->Prop}(v:QV W h q N M)(hw:∀o,o<h.length->W o->W' o):QV W' h q N M:=let ⟨oq,xs,a,h1,h2,h3⟩:=v; ⟨oq,xs,a,h1,h2.mono hw,h3⟩
theorem QV.frs (v:QV W h q N M)(f:FrS D h h')(hd:∀o,o<h.length->W o->¬D o):QV W h' q N M:=let ⟨oq,xs,a,h1,h2,h3⟩:=v; ⟨oq,xs,a,h1,h2.frs f hd,h3⟩
theorem QV.lm (v:QV W h q N M):M.length=N:=let ⟨oq,xs,a,h1,h2,h3,_⟩:=v; h3.lm
theorem b1P (oq:Nat)(h:Heap):Tot tab r6_ [.ptr oq 0 2 0] h λr h'=>r=.ifc tyHp (.ptr oq 0 2 0)/\h=h':=by
 refine WP.tot (b1K · ..) ?_
 refine g0 ?_
 exact WP.ret ⟨rfl,rfl⟩
theorem b8K (qs:QS W h oq xs at')(r:Rep N xs at' M)(hp:Hp xs.length xs){id key:Int}(h0:0<=id)(h1:id<N)(hn:gi at' id = -1)(hlen:xs.length+1<=10000000) :
  Tot tab a0i [.ifc tyHp (.ptr oq 0 2 0),.ifc tyIt (.agg (encIt (id,key)))] h λ_ h'=>∃xs2 at2,QS (λo=>W o\/h.length<=o) h' oq xs2 at2/\Rep N xs2 at2 (M.set id.toNat (some key))/\Hp xs2.length xs2/\xs2.length=xs.length+1/\FrS W h h':=by
 refine WP.tot (b0i · ..) ?_
 have la:=r.la
 refine g1 @b4T ?_
 refine WP.call (b9s qs h0 oM hlen) ?_
 rintro _ h2 ⟨q2,f2⟩
 refine g1 @a6v ?_
 refine WP.call (a8G q2) ?_
 rintro _ _ ⟨rfl,rfl⟩
 have hl:(xs++[(id,key)]).length=xs.length+1:=by simp
 have r2:=r.push (key:=key) h0 h1 hn
 have hj:((xs++[(id,key)]).length:Int)-1=xs.length:=oM
 simp only[hl] at hj ⊢
 refine g1 @hj ?_
 refine WP.call (b7J (j:=xs.length) oM oM q2 r2 (by rw[hl]; exact hp.push rfl _)) ?_
 rintro _ h3 ⟨xs2,at2,q3,r3,hp3,hl3,f3⟩
 rw[hl] at hl3 hp3
 refine WP.ret ⟨xs2,at2,q3,r3,by rw[hl3]; exact hp3,hl3,⟨by have:=f2.len; have:=f3.len; omega,λo k1 k2=>?_⟩⟩
 have:=f2.len
 rw[f3.get (λz=>by rcases z with z|z; exact k1 z; omega) oM,f2.get k1 k2]
theorem b9E {n:Nat}(qs:QS W h oq xs at')(r:Rep N xs at' M)(hp:Hp xs.length xs)(hn:xs.length=n+1) :
  Tot tab a2J [.ifc tyHp (.ptr oq 0 2 0)] h λv h'=>v=.ifc tyIt (.agg (encIt (gi xs 0)))/\∃xs2 at2,QS W h' oq xs2 at2/\Rep N xs2 at2 (M.set (gi xs 0).1.toNat none)/\Hp xs2.length xs2/\xs2.length=n/\FrS W h h':=by
 refine WP.tot (b0I · ..) ?_
 have hlen:=qs.len
 refine g1 @a6v ?_
 refine WP.call (a8G qs) ?_
 rintro _ _ ⟨rfl,rfl⟩
 have hj:(xs.length:Int)-1=n:=oM
 refine g2 @hj @a5o ?_
 refine WP.call (swapR qs r (i:=0) (j:=(n:Int)) oM oM oM oM) ?_
 rintro _ h2 ⟨at2,q2,r2,f2⟩
 rw[hn] at hp
 refine WP.call (b9v (n:=n) (i:=0) (rt:=gi xs 0) (by rw[a7x]; omega) oM oM q2 r2 (hp.begin hn) (λp p0 p1=>?_)) ?_
 ·rw[a7x] at p1
  rw[gi_sw oM oM oM oM oM,if_pos oM]
 rintro _ h3 ⟨⟨b,rfl⟩,xs3,at3,q3,r3,hp3,hl3,hr3,f3⟩
 rw[a7x] at hl3 hr3
 have hr3n:=hr3 n (Int.le_refl _) oM
 have an:=r3.a n oM oM
 have la3:=r3.la
 refine g1 @b5Q ?_
 refine WP.call (b9t q3 (n:=n) oM ⟨an.1,oM⟩) ?_
 rintro _ h4 ⟨rfl,q4,f4⟩
 have r4:=r3.pop (n:=n) oM
 rw[hr3n] at q4 r4 ⊢
 have hl4:(xs3.take n).length=n:=by simp; omega
 refine WP.ret ⟨rfl,xs3.take n,_,q4,r4,?_,hl4,(f2.trans f3).trans f4⟩
 rw[hl4]
 intro i i0 i1
 have:=w7_ i0
 rw[b1x oM oM,b1x oM oM]
 exact hp3 i i0 i1
theorem b9F {i:Int}(qs:QS W h oq xs at')(r:Rep N xs at' M)(i0:0<=i)(i1:i<xs.length)(u:UpI xs.length xs i)(hc:∀c,0<c->c<(xs.length:Int)->par c=i->¬ltI (gi xs c) (gi xs i)) :
  Tot tab a0y [.ifc tyHp (.ptr oq 0 2 0),I i] h λv h'=>∃xs2 at2,QS W h' oq xs2 at2/\Rep N xs2 at2 M/\Hp xs2.length xs2/\xs2.length=xs.length/\FrS W h h':=by
 refine WP.tot (b0G · ..) ?_
 refine g1 @a6v ?_
 refine WP.call (a8G qs) ?_
 rintro _ _ ⟨rfl,rfl⟩
 refine WP.call (b9w i0 i1 qs hc) ?_
 rintro _ h2 ⟨rfl,e2⟩
 refine g0 ?_
 refine WP.call (b7J i0 i1 (qs.ext e2) r u) ?_
 rintro _ h3 ⟨xs3,at3,q3,r3,hp3,hl3,f3⟩
 exact WP.ret ⟨xs3,at3,q3,r3,by rw[hl3]; exact hp3,hl3,(FrS.ofExt e2).trans f3⟩
theorem b9G (v:QV W h q N M)(hN:N≤1000000)(id key:Int):Tot tab n9_ [q,I id,I key] h λr h'=>r=.bool (putM N M id key).2∧QV (λo=>W o∨h.length≤o) h' q N (putM N M id key).1∧FrS W h h':=by
 have vv:=v
 obtain ⟨oq,xs,a,rfl,qs,r,hp,hc⟩:=v
 refine WP.tot (b1V · ..) ?_
 have la:=r.la
 have lm:=r.lm
 have hcl:=b9B M
 have hmono:∀o,o<h.length→W o→W o∨h.length≤o:=λo _ z=>.inl z
 by_cases h0:0≤id
 ·by_cases h1:id<N
  ·have hif:0≤id∧id<(N:Int):=⟨h0,h1⟩
   have hgo:WP (λk:Nat=>ob (evalFn tab k r6_ [.ptr oq 0 2 0] h) λt22_19 h_20=>
     ob (callMeth tab (evalFn tab k) "milestone/queue.place" t22_19 [I id] h_20) λt25_21 h_22=>
     oa (binV .lss .scalar t25_21 (I 0)) λt27_23=>
     cond2 t27_23
      (oa (buildV [I 0,I 0] [(0,1,I id),(1,1,I key)]) λt31_24=>
       ob (evalFn tab k a0i [t22_19,(.ifc tyIt t31_24)] h_22) λt33_25 h_26=>some ((.bool true),h_26))
      (oa (nilCk (.ptr oq 0 2 0)) λt35_27=>oa (fldA 0 t35_27) λt36_28=>oa (fldA 0 t36_28) λt37_29=>oa (ld1 h_22 t37_29) λt38_30=>oa (idxS 2 t38_30 t25_21) λt40_31=>oa (fldA 1 t40_31) λt41_32=>oa (ld1 h_22 t41_32) λt42_33=>
       oa (binV .leq .scalar t42_33 (I key)) λt44_34=>
       cond2 t44_34 (some ((.bool false),h_22))
        (oa (nilCk (.ptr oq 0 2 0)) λt46_35=>oa (fldA 0 t46_35) λt47_36=>oa (fldA 0 t47_36) λt48_37=>oa (ld1 h_22 t48_37) λt49_38=>oa (idxS 2 t49_38 t25_21) λt52_39=>oa (fldA 1 t52_39) λt53_40=>
         oh (stN 1 h_22 t53_40 (I key)) λh_41=>ob (evalFn tab k a0y [t22_19,t25_21] h_41) λt56_42 h_43=>some ((.bool true),h_43))))
     λr h'=>r=.bool (putM N M id key).2∧QV (λo=>W o∨h.length≤o) h' (.ptr oq 0 2 0) N (putM N M id key).1∧FrS W h h':=by
    refine WP.call (b1P oq h) ?_
    rintro _ _ ⟨rfl,rfl⟩
    refine g1 @a7Y ?_
    refine WP.call (b3S qs id) ?_
    rintro _ _ ⟨rfl,rfl⟩
    rw[if_pos oM]
    rcases r.b id h0 h1 with ⟨k1,k2⟩|⟨k1,k2,k3,k4⟩
    ·have hpm:putM N M id key=(M.set id.toNat (some key),true):=by simp only[putM,if_pos hif,k2]
     have hcs:=b4w (M:=M) (i:=id) h0 oM (some key)
     rw[k2] at hcs
     simp at hcs
     rw[hpm,k1]
     refine g0 ?_
     refine WP.call (b8K qs r hp (key:=key) h0 h1 k1 oM) ?_
     rintro _ h3 ⟨xs3,at3,q3,r3,hp3,hl3,f3⟩
     exact WP.ret ⟨rfl,⟨oq,xs3,at3,rfl,q3,r3,hp3,oM⟩,f3⟩
    ·obtain ⟨s1,s2,o1,o2,qw⟩:=qs
     by_cases hle:(gi xs (gi a id)).2≤key
     ·have hpm:putM N M id key=(M,false):=by simp only[putM,if_pos hif,k4,if_pos hle]
      rw[hpm]
      refine g4 qw.row qw.g1.sl.idxG qw.g1.sl.ldf @encIt.eq_1 ?_
      exact WP.ret ⟨rfl,vv.mono hmono,FrS.refl _ _⟩
     ·have hpm:putM N M id key=(M.set id.toNat (some key),true):=by simp only[putM,if_pos hif,k4,if_neg hle]
      have hcs:=b4w (M:=M) (i:=id) h0 oM (some key)
      rw[k4] at hcs
      simp at hcs
      rw[hpm]
      have hn:s1≠.nils:=qw.g1.nnil (by intro hx; rw[List.map_eq_nil_iff] at hx; rw[hx] at k2; simp at k2; omega)
      obtain ⟨w1,d1,d12,l1⟩:=qw.n1 hn
      have hq:=(List.getElem?_eq_some_iff.1 qw.row).1
      obtain ⟨hA,m1,m2,m3,m4⟩:=qw.g1.write (i:=gi a id) k1 (x:=encIt (gi xs (gi a id))) (by simp[c1_ k1 k2]) 1 1 (v:=I key) rfl oM rfl
      have hset:(xs.map encIt).set (gi a id).toNat (setAll (encIt (gi xs (gi a id))) 1 (I key).cells)=(xs.set (gi a id).toNat (id,key)).map encIt:=by
       rw[List.map_set]
       congr 1
       simp only[encIt,a1C,setAll,List.set_cons_succ,List.set_cons_zero,k3]
      rw[hset] at m2
      have d2:=qw.d2
      have l2:=qw.l2
      have qA:QS W hA oq (xs.set (gi a id).toNat (id,key)) a:=⟨s1,s2,o1,o2,by rw[m3.get oM hq]; exact qw.row,m2,λ_=>⟨w1,d1,d12,oM⟩,qw.g2.fr m3 oM,qw.w2,qw.d2,oM,qw.wq,by simp; exact qw.len,qw.lat⟩
      have rA:=r.lower (key:=key) h0 h1 k1
      have hlow:=hp.lower (p:=gi a id) (x:=(id,key)) k1 k2 (Int.le_refl _) (by unfold ltI; omega)
      have hls:(xs.set (gi a id).toNat (id,key)).length=xs.length:=by simp
      refine g5 qw.row qw.g1.sl.idxG qw.g1.sl.ldf @encIt.eq_1 @m1 ?_
      refine WP.call (b9F (i:=gi a id) qA rA k1 (by rw[hls]; exact k2) (by rw[hls]; exact hlow.1) (by rw[hls]; exact hlow.2)) ?_
      rintro _ h3 ⟨xs3,at3,q3,r3,hp3,hl3,f3⟩
      refine WP.ret ⟨rfl,QV.mono (W:=W) ⟨oq,xs3,at3,rfl,q3,r3,hp3,oM⟩ (λo _ z=>.inl z),?_⟩
      exact (m3.s.mono λo _ z=>by
       obtain rfl:o=o1:=oM
       exact w1).trans f3
   obtain ⟨s1,s2,o1,o2,qw⟩:=qs
   refine g2 qw.row qw.g2.sl.lenG ?_
   exact hgo
  ·have hpm:putM N M id key=(M,false):=by simp only[putM,if_neg (show ¬(0≤id∧id<(N:Int)) by omega)]
   rw[hpm]
   obtain ⟨s1,s2,o1,o2,qw⟩:=qs
   refine g2 qw.row qw.g2.sl.lenG ?_
   exact WP.ret ⟨rfl,vv.mono hmono,FrS.refl _ _⟩
 ·have hpm:putM N M id key=(M,false):=by simp only[putM,if_neg (show ¬(0≤id∧id<(N:Int)) by omega)]
  rw[hpm]
  refine g0 ?_
  exact WP.ret ⟨rfl,vv.mono hmono,FrS.refl _ _⟩
end
end Go.Gm.AZ
namespace Go.Gm.AZ
open Go Go.Gm
section
variable {W:Nat->Prop} {h h':Heap} {q:AV} {N:Nat} {M:List (Option Int)}
def PopQ (N:Nat)(M:List (Option Int))(r:AV)(M2:List (Option Int)):Prop:=
 (cnt M=0/\r=.tup [I 0,I 0,.bool false]/\M2=M)\/∃id key,IsMin N M id key/\r=.tup [I id,I key,.bool true]/\M2=M.set id.toNat none
theorem b0Y (h:cnt M=0){i:Int}(h0:0<=i)(h1:i<M.length):gi M i=none:=by
 rw[cnt,List.countP_eq_zero] at h
 have:=h _ (b7_ h0 h1)
 cases hx:gi M i with
 |none=>rfl
 |some k=>rw[hx] at this; simp at this
theorem PopQ.uniq (hl:M.length=N)(a:PopQ N M r M2)(b:PopQ N M r2 M3):r=r2/\M2=M3:=by
 rcases a with ⟨a1,rfl,rfl⟩|⟨i,k,a1,rfl,rfl⟩
 ·rcases b with ⟨b1,rfl,rfl⟩|⟨i,k,b1,rfl,rfl⟩
  ·exact ⟨rfl,rfl⟩
  ·have:=b0Y a1 b1.i0 (by have:=b1.i1; omega)
   rw[b1.k] at this; cases this
 ·rcases b with ⟨b1,rfl,rfl⟩|⟨i2,k2,b1,rfl,rfl⟩
  ·have:=b0Y b1 a1.i0 (by have:=a1.i1; omega)
   rw[a1.k] at this; cases this
  ·obtain ⟨rfl,rfl⟩:=a1.uniq b1
   exact ⟨rfl,rfl⟩
theorem b9L (v:QV W h q N M)(hN:N<=1000000):Tot tab a0o [q] h λr h'=>∃M2,PopQ N M r M2/\QV W h' q N M2/\FrS W h h':=by
 have vv:=v
 obtain ⟨oq,xs,a,rfl,qs,r,hp,hc⟩:=v
 refine WP.tot (b1X · ..) ?_
 have hcl:=b9B M
 have lm:=r.lm
 refine g0 ?_
 refine WP.call (a8G qs) ?_
 rintro _ _ ⟨rfl,rfl⟩
 by_cases h0:xs.length=0
 ·refine g0 ?_
  exact WP.ret ⟨M,.inl ⟨oM,rfl,rfl⟩,vv,FrS.refl _ _⟩
 ·obtain ⟨n,hn⟩:∃n,xs.length=n+1:=⟨xs.length-1,oM⟩
  refine g0 ?_
  refine WP.call (b1P oq h) ?_
  rintro _ _ ⟨rfl,rfl⟩
  refine WP.call (b9E qs r hp hn) ?_
  rintro _ h2 ⟨rfl,xs2,at2,q2,r2,hp2,hl2,f2⟩
  have a0:=r.a 0 oM oM
  have hb:gi M (gi xs 0).1=some (gi xs 0).2:=by
   rcases r.b _ a0.1 a0.2.1 with z|z
   ·omega
   ·rw[z.2.2.2,a0.2.2]
  have hcs:=b4w (M:=M) (i:=(gi xs 0).1) a0.1 oM none
  rw[hb] at hcs
  simp at hcs
  refine g4 @a9F @a4_ @a5_ @encIt.eq_1 ?_
  refine WP.ret ⟨_,.inr ⟨(gi xs 0).1,(gi xs 0).2,⟨a0.1,a0.2.1,hb,λid' k' i0 i1 hk=>?_⟩,rfl,rfl⟩,?_,f2.trans (FrS.ofExt eX)⟩
  ·rcases r.b id' i0 i1 with z|⟨z0,z1,z2,z3⟩
   ·rw[z.2] at hk; cases hk
   ·have:=hp.root (gi a id').toNat (gi a id') oM z0 z1
    rw[z3] at hk
    injection hk with hk
    rw[<-z2,<-hk]
    exact this
  ·exact QV.ext ⟨oq,xs2,at2,rfl,q2,r2,hp2,oM⟩ eX
theorem b9M {q1:Nat}{s2:AV}:∀(d n:Nat) (h:Heap) (at':List Int),n+d=at'.length->at'.length<=1000000->(∀i:Int,0<=i->i<n->gi at' i = -1)->h[q1+1]?=some (.cells ⟨[.nils,s2],0,0,false⟩)->Gr q1 (q1+1) h 1 s2 (at'.map encI)->
  WP (λp:Nat × Nat=>a5U p.1 p.2 (.ptr (q1+1) 0 2 0) (I at'.length) (I n) h) λr h'=>r=.ptr (q1+1) 0 2 0/\h'.length=h.length/\FrS (λo=>o=q1) h h'/\∃at2:List Int,at2.length=at'.length/\(∀i:Int,0<=i->i<at2.length->gi at2 i = -1)/\h'[q1+1]?=some (.cells ⟨[.nils,s2],0,0,false⟩)/\Gr q1 (q1+1) h' 1 s2 (at2.map encI):=by
 intro d
 induction d with
 |zero=>
  intro n h at' h1 hl ha row g
  refine WP.rnd (a9L · · ..) ?_
  refine g0 ?_
  exact WP.ret ⟨rfl,rfl,FrS.refl _ _,at',rfl,λi i0 i1=>ha i i0 oM,row,g⟩
 |succ d ih=>
  intro n h at' h1 hl ha row g
  refine WP.rnd (a9L · · ..) ?_
  have hq:=(List.getElem?_eq_some_iff.1 row).1
  obtain ⟨h2,k1,k2,k3,k4⟩:=g.write0 (i:=(n:Int)) (v:=I (-1)) oM (by simp; omega) rfl rfl
  have row2:h2[q1+1]?=some (.cells ⟨[.nils,s2],0,0,false⟩):=by rw[k3.get oM hq]; exact row
  have hll:(at'.set n (-1)).length=at'.length:=by simp
  have:=ih (n+1) h2 (at'.set n (-1)) (by rw[hll]; omega) (by rw[hll]; exact hl) (λi i0 i1=>?_) row2 (k2.cong (by rw[List.map_set]; rfl))
  ·refine g3 @row g.sl.idxG @k1 ?_
   rw[hll] at this
   refine this.mono ?_
   rintro r h3 ⟨a1,a2,a3,a4⟩
   exact ⟨a1,oM,(k3.s.mono λo _ z=>oM).trans a3,a4⟩
  ·have:=x5_ (xs:=at') (i:=(n:Int)) (j:=i) oM oM i0 (-1)
   rw[Int.toNat_natCast] at this
   rw[this]
   split
   ·rfl
   ·exact ha i i0 oM
theorem w2_ {α:Type}[Inhabited α]{n:Nat}{x:α}{i:Int}(h0:0<=i)(h1:i<n):gi (List.replicate n x) i=x:=by
 have:i.toNat<n:=oM
 simp[gi,List.getD_eq_getElem?_getD,List.getElem?_replicate,this]
theorem c2O (n:Nat):cnt (List.replicate n (none:Option Int))=0:=by
 rw[cnt,List.countP_eq_zero]
 intro x hx
 rw[(List.mem_replicate.1 hx).2]; simp
theorem b4V (n:Nat)(hn:n<=1000000)(h:Heap):Tot tab a4U [I n] h λr h'=>QV (λo=>h.length<=o) h' r n (List.replicate n none)/\Ext h h':=by
 refine WP.tot (b6h · ..) ?_
 have hmx:max (n:Int) 0=n:=oM
 obtain ⟨s2,h1,k1,k2,k3,k4,k5⟩:=g0_ (zero:=[I 0]) (sz:=1) (bytes:=8) (n:=(n:Int)) h oM oM oM rfl rfl
 have hre:List.replicate (n:Int).toNat [I 0]=(List.replicate n (0:Int)).map encI:=by
  rw[List.map_replicate]; rfl
 rw[hre] at k2
 obtain ⟨h2,hh2⟩:∃h2,h2=h1++[AObj.cells ⟨[.nils,s2],0,0,false⟩]:=⟨_,rfl⟩
 have e2:Ext h1 h2:=by rw[hh2]; exact eX
 have r2:h2[h1.length]?=some (.cells ⟨[.nils,s2],0,0,false⟩):=by rw[hh2]; simp
 have hl2:h2.length=h.length+2:=by rw[hh2]; simp; omega
 refine g4 @hmx @k1 k2.sl.one k2.sl.cells ?_
 rw[<-hh2]
 have g2:=k2.ext e2
 rw[k5] at r2
 have hlr:((List.replicate n (0:Int)).length:Int)=n:=by simp
 have hnl:=b9M (q1:=h.length) n 0 h2 (List.replicate n 0) (by simp) (by simp; omega) (λi i0 i1=>oM) r2 g2
 rw[hlr] at hnl
 refine g4 @r2 g2.sl.lenG @k5 @hlr ?_
 refine WP.ent (hnl.mono ?_) λi=>rfl
 rintro r h3 ⟨rfl,hl3,f3,at2,hla,ha,row3,g3⟩
 simp only[List.length_replicate] at hla
 refine ⟨⟨h.length+1,[],at2,rfl,⟨.nils,s2,0,h.length,row3,.inl ⟨rfl,rfl⟩,λq=>absurd rfl q,g3,Nat.le_refl _,oM,oM,Nat.le_add_right _ _,by simp,oM⟩,⟨hla,by simp,λi i0 i1=>by simp at i1; omega,λid i0 i1=>.inl ⟨ha id i0 oM,w2_ i0 i1⟩⟩,λi i0 i1=>by simp at i1; omega,by rw[c2O]; rfl⟩,f3.ext (k3.trans e2) (λo q1 q2=>oM)⟩
end
end Go.Gm.AZ
namespace Go.Gm.AZ
open Go Go.Gm
def SQ (P:Nat->Prop)(h:Heap)(q:AV)(N:Nat)(M:List (Option Int)):Prop:=∃W,(∀o,W o->P o/\o<h.length)/\QV W h q N M
section
variable {P:Nat->Prop} {hB h h':Heap} {q x:AV} {N:Nat} {M:List (Option Int)}
theorem QV.sq (v:QV W h q N M)(hp:∀o,o<h.length->W o->P o):SQ P h q N M:=
 ⟨λo=>W o/\o<h.length,λo z=>⟨hp o z.2 z.1,z.2⟩,v.mono λo z1 z2=>⟨z2,z1⟩⟩
theorem SQ.frs (v:SQ P h q N M)(f:FrS D h h')(hd:∀o,o<h.length->P o->¬D o):SQ P h' q N M:=
 let ⟨W,h1,h2⟩:=v
 ⟨W,λo z=>⟨(h1 o z).1,Nat.lt_of_lt_of_le (h1 o z).2 f.len⟩,h2.frs f λo z1 z2=>hd o z1 (h1 o z2).1⟩
theorem SQ.ext (v:SQ P h q N M)(e:Ext h h'):SQ P h' q N M:=v.frs (D:=λ_=>False) (FrS.ofExt e) λ_ _ _ z=>z
theorem SQ.lm (v:SQ P h q N M):M.length=N:=let ⟨W,h1,h2⟩:=v; h2.lm
theorem SQ.put (v:SQ P h q N M)(hN:N<=1000000)(hp:∀o,h.length<=o->P o)(id key:Int):Tot tab n9_ [q,I id,I key] h λr h'=>r=.bool (putM N M id key).2/\SQ P h' q N (putM N M id key).1/\FrS P h h':=by
 obtain ⟨W,h1,h2⟩:=v
 refine (b9G h2 hN id key).mono ?_
 rintro r h' ⟨a,b,c⟩
 exact ⟨a,b.sq λo z1 z2=>by
  rcases z2 with z2|z2
  ·exact (h1 o z2).1
  ·exact hp o z2,c.mono λo z1 z2=>(h1 o z2).1⟩
theorem SQ.pop (v:SQ P h q N M)(hN:N<=1000000):Tot tab a0o [q] h λr h'=>∃M2,PopQ N M r M2/\SQ P h' q N M2/\FrS P h h':=by
 obtain ⟨W,h1,h2⟩:=v
 refine (b9L h2 hN).mono ?_
 rintro r h' ⟨M2,a,b,c⟩
 exact ⟨M2,a,b.sq λo z1 z2=>(h1 o z2).1,c.mono λo z1 z2=>(h1 o z2).1⟩
end
end Go.Gm.AZ
namespace Go.Gm
theorem AV.beq_iff:AV.beq a b=true↔a=b:=⟨AV.beq_eq,λh=>h▸AV.beq_refl a⟩
instance:DecidableEq AV:=λa b=>if h:AV.beq a b=true then isTrue (AV.beq_iff.1 h) else isFalse λq=>h (AV.beq_iff.2 q)
theorem a1_ (i:Nat)(vs:List AV):extr i (.tup vs)=vs[i]?:=rfl
structure ExM (k:Nat) (h h':Heap):Prop where
 len:h.length<=h'.length
 get:∀o,o≠k->o<h.length->h'[o]?=h[o]?
 isM:∃ks es es',h[k]?=some (.map ks es)/\h'[k]?=some (.map ks es')
section
variable {k:Nat} {h h' h'':Heap}
theorem ExM.lt (a:ExM k h h'):k<h.length:=by
 obtain ⟨_,_,_,e,_⟩:=a.isM
 exact (List.getElem?_eq_some_iff.1 e).1
theorem ExM.refl (e:h[k]?=some (.map ks es)):ExM k h h:=⟨Nat.le_refl _,λ_ _ _=>rfl,ks,es,es,e,e⟩
theorem ExM.trans (a:ExM k h h')(b:ExM k h' h''):ExM k h h'':=by
 refine ⟨Nat.le_trans a.len b.len,λo h1 h2=>(b.get o h1 (Nat.lt_of_lt_of_le h2 a.len)).trans (a.get o h1 h2),?_⟩
 obtain ⟨ks,es,es',e1,e2⟩:=a.isM
 obtain ⟨ks2,es2,es3,e3,e4⟩:=b.isM
 rw[e2] at e3
 injection e3 with e3
 injection e3 with e3 e5
 subst e3 e5
 exact ⟨ks,es,es3,e1,e4⟩
theorem ExM.ofExt (e:h[k]?=some (.map ks es))(x:Ext h h'):ExM k h h':=
 ⟨x.len,λo _ h2=>(a3i.1 x).2 o h2,ks,es,es,e,x.get e⟩
theorem ExM.ext (a:ExM k h h')(x:Ext h' h''):ExM k h h'':=by
 obtain ⟨ks,es,es',e1,e2⟩:=a.isM
 exact a.trans (ExM.ofExt e2 x)
theorem ExM.fr (a:ExM k h h')(f:Fr lo hi h' h'')(hl:h.length<=lo):ExM k h h'':=by
 have hk:=a.lt
 have hlen:=a.len
 refine ⟨Nat.le_trans a.len f.len,λo h1 h2=>(f.get oM oM).trans (a.get o h1 h2),?_⟩
 obtain ⟨ks,es,es',e1,e2⟩:=a.isM
 exact ⟨ks,es,es',e1,(f.get oM oM).trans e2⟩
theorem ExM.put (e:h[k]?=some (.map ks es))(es':List (AV × AV)):ExM k h (h.set k (.map ks es')):=by
 refine ⟨by simp,λo h1 h2=>List.getElem?_set_ne (Ne.symm h1),ks,es,es',e,?_⟩
 rw[List.getElem?_set_self (List.getElem?_eq_some_iff.1 e).1]
theorem ExM.cells (a:ExM k h h'){o:Nat}(e:h[o]?=some (.cells c)):h'[o]?=some (.cells c):=by
 have:o≠k:=by
  rintro rfl
  obtain ⟨_,_,_,e1,_⟩:=a.isM
  rw[e] at e1; cases e1
 exact (a.get o this (List.getElem?_eq_some_iff.1 e).1).trans e
end
theorem Sl.fr (a:Sl h sz s xs)(f:Fr lo hi h h')(hd:s≠.nils->s.obj<lo\/hi<=s.obj):Sl h' sz s xs:=by
 rcases a with a|⟨o,off,lim,g,c,rfl,h2,h3⟩
 ·exact .inl a
 ·exact .inr ⟨o,off,lim,g,c,rfl,(f.get (hd (by simp)) (List.getElem?_eq_some_iff.1 h2).1).trans h2,h3⟩
theorem Sl.objLt (a:Sl h sz s xs)(hs:s≠.nils):s.obj<h.length:=by
 rcases a with a|⟨o,off,lim,g,c,rfl,h2,h3⟩
 ·exact absurd a.1 hs
 ·exact (List.getElem?_eq_some_iff.1 h2).1
theorem Sl.nnil (a:Sl h sz s xs)(hx:xs≠[]):s≠.nils:=by
 rcases a with a|⟨o,off,lim,g,c,rfl,h2,h3⟩
 ·exact absurd a.2 hx
 ·simp
theorem Gr.objIn (a:Gr lo hi h sz s xs)(hs:s≠.nils):lo<=s.obj/\s.obj<hi:=by
 rcases a with a|⟨o,g,wg,cs,h1,h2,rfl,_⟩
 ·exact absurd a.1 hs
 ·exact ⟨h1,h2⟩
end Go.Gm
namespace Go.Gm
inductive Nd where
 |set (s:Nat)|emp|eps|join (l:List Nd)|uni (l:List Nd)|star (n:Nd)|plus (n:Nd)|opt (n:Nd)|rep (lo hi:Nat) (n:Nd)
 deriving Inhabited
namespace Nd
def kids:Nd->List Nd
 |.join l|.uni l=>l
 |.star n|.plus n|.opt n|.rep _ _ n=>[n]
 |.set _|.emp|.eps=>[]
def kind:Nd->Int
 |.set _=>1|.emp=>2|.eps=>3|.join _=>4|.uni _=>5|.star _=>6|.plus _=>7|.opt _=>8|.rep ..=>9
def st:Nd->Nat
 |.set s=>s
 |_=>0
def lo:Nd->Nat
 |.rep lo _ _=>lo
 |_=>0
def hi:Nd->Nat
 |.rep _ hi _=>hi
 |_=>0
theorem kid_lt {c n:Nd}(h:c∈n.kids):SizeOf.sizeOf c<SizeOf.sizeOf n:=by
 cases n with
 |join l=>have:=List.sizeOf_lt_of_mem (show c∈l from h); simp only[Nd.join.sizeOf_spec]; omega
 |uni l=>have:=List.sizeOf_lt_of_mem (show c∈l from h); simp only[Nd.uni.sizeOf_spec]; omega
 |star n=>simp only[kids,List.mem_singleton] at h; subst h; simp only[Nd.star.sizeOf_spec]; omega
 |plus n=>simp only[kids,List.mem_singleton] at h; subst h; simp only[Nd.plus.sizeOf_spec]; omega
 |opt n=>simp only[kids,List.mem_singleton] at h; subst h; simp only[Nd.opt.sizeOf_spec]; omega
 |rep a b n=>simp only[kids,List.mem_singleton] at h; subst h; simp only[Nd.rep.sizeOf_spec]; omega
 |_=>simp[kids] at h
theorem ind {p:Nd->Prop}(h:∀n,(∀c∈n.kids,p c)->p n)(n:Nd):p n:=by
 have:∀(N:Nat) (n:Nd),SizeOf.sizeOf n<=N->p n:=by
  intro N
  induction N with
  |zero=>intro n hn; exact h n λc hc=>by have:=kid_lt hc; omega
  |succ N ih=>intro n hn; exact h n λc hc=>ih c (by have:=kid_lt hc; omega)
 exact this _ n (Nat.le_refl _)
end Nd
inductive Star (r:Nat->Nat->Prop):Nat->Nat->Prop
 |refl (i:Nat):Star r i i
 |tail {i m j:Nat}:Star r i m->r m j->Star r i j
def Pow (r:Nat->Nat->Prop):Nat->Nat->Nat->Prop
 |0,i,j=>i=j
 |t+1,i,j=>∃m,Pow r t i m/\r m j
section
variable {r:Nat->Nat->Prop}
theorem Star.one (h:r i j):Star r i j:=.tail (.refl _) h
theorem Star.trans (a:Star r i m)(b:Star r m j):Star r i j:=by
 induction b with
 |refl=>exact a
 |tail _ h ih=>exact .tail ih h
theorem Star.head (a:r i m)(b:Star r m j):Star r i j:=(Star.one a).trans b
theorem Star.inv {P:Nat->Prop}(hP:∀i j,P i->r i j->P j){i j:Nat}(a:Star r i j)(h:P i):P j:=by
 induction a with
 |refl=>exact h
 |tail _ k ih=>exact hP _ _ ih k
theorem Pow.star:∀{t i j:Nat},Pow r t i j->Star r i j
 |0,i,j,h=>by cases h; exact .refl _
 |t+1,i,j,⟨m,h,k⟩=>.tail (Pow.star h) k
theorem Pow.add (a:Pow r s i m):∀{t j:Nat},Pow r t m j->Pow r (s+t) i j
 |0,j,h=>by cases h; exact a
 |t+1,j,⟨p,h,k⟩=>⟨p,Pow.add a h,k⟩
theorem Pow.split:∀{t s i j:Nat},Pow r (s+t) i j->∃m,Pow r s i m/\Pow r t m j
 |0,s,i,j,h=>⟨j,h,rfl⟩
 |t+1,s,i,j,⟨p,h,k⟩=>by
  obtain ⟨m,h1,h2⟩:=Pow.split (t:=t) h
  exact ⟨m,h1,p,h2,k⟩
theorem Pow.one:Pow r 1 i j↔r i j:=⟨λ⟨m,h,k⟩=>by cases h; exact k,λh=>⟨i,rfl,h⟩⟩
end
def hit (w:List Int)(s i:Nat):Prop:=∃c,w[i]?=some c/\0<=c/\c<5/\s.testBit c.toNat=true
mutual
def R (w:List Int):Nd->Nat->Nat->Prop
 |.set s=>λi j=>hit w s i/\j=i+1
 |.emp=>λ_ _=>False
 |.eps=>λi j=>i=j
 |.join l=>RJ w l
 |.uni l=>RU w l
 |.star n=>Star (R w n)
 |.plus n=>λi j=>∃m,R w n i m/\Star (R w n) m j
 |.opt n=>λi j=>i=j\/R w n i j
 |.rep lo hi n=>λi j=>∃t,lo<=t/\t<=hi/\Pow (R w n) t i j
def RJ (w:List Int):List Nd->Nat->Nat->Prop
 |[]=>λi j=>i=j
 |n::l=>λi j=>∃m,R w n i m/\RJ w l m j
def RU (w:List Int):List Nd->Nat->Nat->Prop
 |[]=>λ_ _=>False
 |n::l=>λi j=>R w n i j\/RU w l i j
end
section
variable {w:List Int}
end
def Is (w:List Int)(bs:List Bool)(P:Nat->Prop):Prop:=bs.length=w.length+1/\∀j,bs.getD j false=true↔P j
theorem Is.cong {P Q:Nat->Prop}(a:Is w bs P)(h:∀j,P j↔Q j):Is w bs Q:=⟨a.1,λj=>(a.2 j).trans (h j)⟩
theorem Is.le (a:Is w bs P)(h:P j):j<=w.length:=by
 have h2:=(a.2 j).2 h
 by_cases hj:j<bs.length
 ·have:=a.1; omega
 ·rw[List.getD_eq_getElem?_getD,List.getElem?_eq_none oM] at h2
  cases h2
def In (n:Nd)(w:List Int):Prop:=R w n 0 w.length
theorem Is.none:Is w (List.replicate (w.length+1) false) λ_=>False:=by
 refine ⟨by simp,λj=>?_⟩
 rw[List.getD_eq_getElem?_getD,List.getElem?_replicate]
 split<;>simp
theorem Is.set (a:Is w bs P){i:Nat}(h:i<=w.length):Is w (bs.set i true) λj=>j=i\/P j:=by
 refine ⟨by simp[a.1],λj=>?_⟩
 have h2:=a.2 j
 rw[List.getD_eq_getElem?_getD] at h2 ⊢
 by_cases hj:j=i
 ·subst hj; rw[List.getElem?_set_self (by have:=a.1; omega)]; simp
 ·rw[List.getElem?_set_ne (Ne.symm hj),h2]; simp[hj]
end Go.Gm
namespace Go.Gm.AZ
open Go Go.Gm
mutual
inductive NV (h:Heap):Nd->List AV->Prop
 |mk {n:Nd} {s:AV} {css:List (List AV)}:Sl h 5 s css->NVs h n.kids css->NV h n [I n.kind,I n.st,I n.lo,I n.hi,s]
inductive NVs (h:Heap):List Nd->List (List AV)->Prop
 |nil:NVs h [] []
 |cons {n:Nd} {cs:List AV} {l:List Nd} {css:List (List AV)}:NV h n cs->NVs h l css->NVs h (n::l) (cs::css)
end
structure Keeps (h h':Heap):Prop where
 cells:∀(o:Nat) (c:CObj),h[o]?=some (.cells c)->h'[o]?=some (.cells c)
theorem Keeps.ofExt (e:Ext h h'):Keeps h h':=⟨λ_ _ q=>e.get q⟩
theorem Keeps.sl (e:Keeps h h')(a:Sl h sz s xs):Sl h' sz s xs:=by
 rcases a with a|⟨o,off,lim,g,c,h1,h2,h3⟩
 ·exact .inl a
 ·exact .inr ⟨o,off,lim,g,c,h1,e.cells _ _ h2,h3⟩
mutual
theorem NV.keeps {h h':Heap} (e:Keeps h h'):∀{n:Nd} {cs:List AV},NV h n cs->NV h' n cs
 |_,_,.mk a b=>.mk (e.sl a) (NVs.keeps e b)
theorem NVs.keeps {h h':Heap} (e:Keeps h h'):∀{l:List Nd} {css:List (List AV)},NVs h l css->NVs h' l css
 |_,_,.nil=>.nil
 |_,_,.cons a b=>.cons (NV.keeps e a) (NVs.keeps e b)
end
theorem NVs.length:∀{l:List Nd} {css:List (List AV)},NVs h l css->l.length=css.length
 |_,_,.nil=>rfl
 |_,_,.cons _ b=>by simp[NVs.length b]
theorem NVs.get:∀{l:List Nd} {css:List (List AV)},NVs h l css->∀{i:Nat} {n:Nd},l[i]?=some n->∃cs,css[i]?=some cs/\NV h n cs
 |_,_,.nil,i,n,q=>by simp at q
 |_,_,.cons a b,0,n,q=>by
  simp only[List.getElem?_cons_zero,Option.some.injEq] at q
  subst q; exact ⟨_,rfl,a⟩
 |_,_,.cons a b,i+1,n,q=>by
  obtain ⟨cs,h1,h2⟩:=NVs.get b (i:=i) (by simpa using q)
  exact ⟨cs,by simpa using h1,h2⟩
theorem NVs.snoc (a:NV h n cs):∀{l:List Nd} {css:List (List AV)},NVs h l css->NVs h (l++[n]) (css++[cs])
 |_,_,.nil=>.cons a .nil
 |_,_,.cons x y=>.cons x (NVs.snoc a y)
theorem NV.len (a:NV h n cs):cs.length=5:=by cases a; rfl
theorem NV.one (a:NV h n cs):cs.all AV.one=true:=by
 cases a with
 |mk a b=>simp only[List.all_cons,List.all_nil,a4x,a.one,Bool.and_self]
theorem NV.inv (a:NV h n cs):∃s css,cs=[I n.kind,I n.st,I n.lo,I n.hi,s]/\Sl h 5 s css/\NVs h n.kids css:=by
 cases a with
 |mk a b=>exact ⟨_,_,rfl,a,b⟩
theorem Gr.appQ {sz bytes:Nat}(a:Gr o (o+1) h sz s xs)(ho:s≠.nils->o<h.length)(b:Sl h sz x ys)(hsz:0<sz)(hb:0<bytes)(hl:(xs.length+ys.length)*bytes<=140737488355328) :
  ∃s' h' o',apnd sz bytes s x h=some (s',h')/\Gr o' (o'+1) h' sz s' (xs++ys)/\(s'≠.nils->((o'=o/\s≠.nils)\/h.length<=o')/\o'<h'.length)/\FrS (λp=>s≠.nils/\p=o) h h'/\(s≠.nils->o'=o):=by
 by_cases hn:s=.nils
 ·obtain ⟨s',h',o',k1,k2,k3,k4⟩:=a.appP ho b hsz hb hl
  exact ⟨s',h',o',k1,k2,k3,k4,λq=>absurd hn q⟩
 ·have ho':=ho hn
  obtain ⟨s',h',k1,k2,k3,k4⟩:=a.appendS b hsz hb hl oM oM
  have:=k3.len
  exact ⟨s',h',o,k1,(k4 hn).1,λq=>⟨.inl ⟨rfl,hn⟩,oM⟩,k3.s.mono λp _ q=>⟨hn,oM⟩,λ_=>rfl⟩
theorem Sl.frs (a:Sl h sz s xs)(f:FrS D h h')(hd:s≠.nils->¬D s.obj):Sl h' sz s xs:=by
 rcases a with a|⟨o,off,lim,g,c,rfl,h2,h3⟩
 ·exact .inl a
 ·exact .inr ⟨o,off,lim,g,c,rfl,(f.get (hd (by simp)) (List.getElem?_eq_some_iff.1 h2).1).trans h2,h3⟩
theorem Gr.frs' (a:Gr o (o+1) h sz s xs)(f:FrS D h h')(hd:s≠.nils->¬D o):Gr o (o+1) h' sz s xs:=by
 by_cases hs:s=.nils
 ·subst hs
  have:=a.isNil
  subst this
  exact Gr.nil ..
 ·exact a.frs f λp q1 q2=>by
   have:p=o:=oM
   subst this; exact hd hs
mutual
inductive NVD (h:Heap) (D:Nat->Prop):Nd->List AV->Prop
 |mk {n:Nd} {s:AV} {css:List (List AV)}:Sl h 5 s css->(s≠.nils->D s.obj)->NVDs h D n.kids css->NVD h D n [I n.kind,I n.st,I n.lo,I n.hi,s]
inductive NVDs (h:Heap) (D:Nat->Prop):List Nd->List (List AV)->Prop
 |nil:NVDs h D [] []
 |cons {n:Nd} {cs:List AV} {l:List Nd} {css:List (List AV)}:NVD h D n cs->NVDs h D l css->NVDs h D (n::l) (cs::css)
end
mutual
theorem NVD.nv {h:Heap} {D:Nat->Prop}:∀{n:Nd} {cs:List AV},NVD h D n cs->NV h n cs
 |_,_,.mk a _ b=>.mk a (NVDs.nvs b)
theorem NVDs.nvs {h:Heap} {D:Nat->Prop}:∀{l:List Nd} {css:List (List AV)},NVDs h D l css->NVs h l css
 |_,_,.nil=>.nil
 |_,_,.cons a b=>.cons (NVD.nv a) (NVDs.nvs b)
end
mutual
theorem NVD.frs {h h':Heap} {D D' E:Nat->Prop} (f:FrS E h h') (h1:∀o,o<h.length->D o->¬E o) (h2:∀o,o<h.length->D o->D' o):∀{n:Nd} {cs:List AV},NVD h D n cs->NVD h' D' n cs
 |_,_,.mk a d b=>.mk (Sl.frs a f λq=>h1 _ (a.objLt q) (d q)) (λq=>h2 _ (a.objLt q) (d q)) (NVDs.frs f h1 h2 b)
theorem NVDs.frs {h h':Heap} {D D' E:Nat->Prop} (f:FrS E h h') (h1:∀o,o<h.length->D o->¬E o) (h2:∀o,o<h.length->D o->D' o):∀{l:List Nd} {css:List (List AV)},NVDs h D l css->NVDs h' D' l css
 |_,_,.nil=>.nil
 |_,_,.cons a b=>.cons (NVD.frs f h1 h2 a) (NVDs.frs f h1 h2 b)
end
theorem NVDs.snoc (a:NVD h D n cs):∀{l:List Nd} {css:List (List AV)},NVDs h D l css->NVDs h D (l++[n]) (css++[cs])
 |_,_,.nil=>.cons a .nil
 |_,_,.cons x y=>.cons x (NVDs.snoc a y)
theorem NVD.ext {D D':Nat->Prop}(e:Ext h h')(h2:∀o,o<h.length->D o->D' o)(a:NVD h D n cs):NVD h' D' n cs:=a.frs (E:=λ_=>False) (FrS.ofExt e) (λ_ _ _ q=>q) h2
theorem NVD.inv (a:NVD h D n cs):∃s,cs=[I n.kind,I n.st,I n.lo,I n.hi,s]/\s.one=true:=by
 cases a with
 |mk a b c=>exact ⟨_,rfl,a.one⟩
theorem FrS.set1 (h:Heap)(o:Nat)(x:AObj):FrS (λp=>p=o) h (h.set o x):=⟨by simp,λp h1 _=>List.getElem?_set_ne (λq=>h1 q.symm)⟩
theorem NVD.len (a:NVD h D n cs):cs.length=5:=a.nv.len
theorem NVD.one (a:NVD h D n cs):cs.all AV.one=true:=a.nv.one
theorem NVDs.len (a:NVDs h D l css):l.length=css.length:=a.nvs.length
structure NB (Hb H:Heap) (q:List AV) (s:AV) (lg:Nat) (l:List Nd) (css:List (List AV)):Prop where
 ext:Ext Hb H
 no:Hb.length<H.length
 row:H[Hb.length]?=some (.cells ⟨q++[s],0,0,false⟩)
 gr:Gr lg (lg+1) H 5 s css
 lgl:s≠.nils->Hb.length<lg/\lg<H.length
 nvs:NVDs H (λo=>Hb.length<o/\o<H.length/\¬(s≠.nils/\o=lg)) l css
theorem NB.new (Hb:Heap)(q:List AV):NB Hb (Hb++[.cells ⟨q++[.nils],0,0,false⟩]) q .nils 0 [] [] where
 ext:=Ext.push _ _
 no:=by simp
 row:=by simp
 gr:=Gr.nil ..
 lgl q:=absurd rfl q
 nvs:=.nil
section
variable {Hb H:Heap} {q:List AV} {s:AV} {lg:Nat} {l:List Nd} {css:List (List AV)}
theorem NB.at (a:NB Hb H q s lg l css)(hq:q.length=4):At H (.ptr Hb.length 0 5 0) (q++[s]):=At.row a.row (Nat.le_refl _) (by simp[hq])
theorem NB.extH (a:NB Hb H q s lg l css)(e:Ext H H'):NB Hb H' q s lg l css where
 ext:=a.ext.trans e
 no:=Nat.lt_of_lt_of_le a.no e.len
 row:=e.get a.row
 gr:=a.gr.ext e
 lgl q:=⟨(a.lgl q).1,Nat.lt_of_lt_of_le (a.lgl q).2 e.len⟩
 nvs:=a.nvs.frs (E:=λ_=>False) (FrS.ofExt e) (λ_ _ _ q=>q) λo h1 h2=>⟨h2.1,Nat.lt_of_lt_of_le h1 e.len,h2.2.2⟩
theorem NB.add (a:NB Hb H q s lg l css)(hq:q.length=4)(e:Ext H H1)(nv:NVD H1 (λo=>H.length<=o/\o<H1.length) n c5)(hl:css.length<=1000) :
  ∃s' H3,apnd 5 56 s (.sl H1.length 0 1 5 none 0) (mkObj H1 c5)=some (s',H3)/\s'.one=true/\s'.cells=[s']/\H3[Hb.length]?=some (.cells ⟨q++[s],0,0,false⟩)/\∃lg',NB Hb (H3.set Hb.length (.cells ⟨q++[s'],0,0,false⟩)) q s' lg' (l++[n]) (css++[c5]):=by
 have a1:=a.extH e
 have e3:Ext H1 (mkObj H1 c5):=Ext.push H1 _
 have a3:=a1.extH e3
 have hl3:(mkObj H1 c5).length=H1.length+1:=by simp[mkObj]
 have hH:=a.no
 have hH1:=e.len
 obtain ⟨s',H3,lg',m1,m2,m3,m4,m5⟩:=Gr.appQ (bytes:=56) a3.gr (λq=>(a3.lgl q).2) (Gr.lit (sz:=5) (v:=c5) nv.len).sl oM oM (by simp; omega)
 have hlen:=m4.len
 have hnn:s≠.nils->Hb.length≠lg:=λq1 q2=>by have:=(a.lgl q1).1; omega
 have hrow:H3[Hb.length]?=some (.cells ⟨q++[s],0,0,false⟩):=(m4.get (λz=>hnn z.1 z.2) oM).trans a3.row
 refine ⟨s',H3,m1,m2.sl.one,m2.sl.cells,hrow,lg',?_⟩
 have hs':s'≠.nils:=m2.nnil (by simp)
 have hlg':Hb.length<lg':=by
  rcases (m3 hs').1 with ⟨q1,q2⟩|q1
  ·rw[q1]; exact (a.lgl q2).1
  ·omega
 have f:FrS (λo=>o=Hb.length\/(s≠.nils/\o=lg)) (mkObj H1 c5) (H3.set Hb.length (.cells ⟨q++[s'],0,0,false⟩)):=by
  refine ⟨by simp; omega,λo h1 h2=>?_⟩
  rw[List.getElem?_set_ne (λz=>h1 (.inl z.symm)),m4.get (λz=>h1 (.inr z)) h2]
 have hold:∀o,o<H1.length+1->o=lg'->s≠.nils/\o=lg:=by
  intro o h1 h2
  rcases (m3 hs').1 with ⟨q1,q2⟩|q1
  ·exact ⟨q2,h2.trans q1⟩
  ·omega
 refine ⟨?_,by simp; omega,by rw[List.getElem?_set_self oM],?_,λ_=>⟨hlg',by simp; exact (m3 hs').2⟩,?_⟩
 ·exact f.ext a3.ext λo h1 h2=>by
   rcases h2 with h2|⟨h2,h4⟩
   ·omega
   ·have:=(a.lgl h2).1; omega
 ·exact (m2.set oM _)
 ·have hl4:(H3.set Hb.length (.cells ⟨q++[s'],0,0,false⟩)).length=H3.length:=by simp
  refine NVDs.snoc (n:=n) (cs:=c5) ?_ ?_
  ·refine (nv.ext e3 (D':=λo=>H.length<=o/\o<H1.length) λ_ _ z=>z).frs f (λo h1 h2 h3=>?_) λo h1 h2=>⟨oM,by rw[hl4]; omega,λz=>?_⟩
   ·rcases h3 with h3|⟨h3,h4⟩
    ·omega
    ·have:=(a.lgl h3).2; omega
   ·have z2:=hold o oM z.2
    have:=(a.lgl z2.1).2; omega
  ·refine a3.nvs.frs f (λo h1 h2 h3=>?_) λo h1 h2=>⟨h2.1,by rw[hl4]; omega,λz=>?_⟩
   ·rcases h3 with h3|h3
    ·omega
    ·exact h2.2.2 h3
   ·exact h2.2.2 (hold o oM z.2)
theorem NB.cong {css':List (List AV)}{l':List Nd}(a:NB Hb H q s lg l css)(e:l=l'):NB Hb H q s lg l' css:=e▸a
theorem NB.done (a:NB Hb H q s lg l css){n:Nd}(hq:q=[I n.kind,I n.st,I n.lo,I n.hi])(hl:n.kids=l):NVD H (λo=>Hb.length<o/\o<H.length) n (q++[s]):=by
 subst hq hl
 exact .mk a.gr.sl (λz=>by have h1:=a.gr.objIn z; have h2:=a.lgl z; omega) (a.nvs.frs (FrS.refl (λ_=>False) _) (λ_ _ _ z=>z) λo _ z=>⟨z.1,z.2.1⟩)
end
theorem c9_ {h:Heap}{x y:AObj}{o:Nat}(ho:o=h.length):(h++[x]).set o y=h++[y]:=by subst ho; simp
theorem b6y {h:Heap}{o:Nat}{css:List (List AV)}{n:Nat}(hr:h[o]?=some (.cells ⟨css.flatten,0,0,false⟩))(hn:n=css.length)(hl:∀c∈css,c.length=5):Sl h 5 (.sl o 0 n 5 none 0) css:=by
 subst hn
 exact .inr ⟨o,0,none,0,_,rfl,hr,Nat.le_refl _,by rw[List.drop_zero]; exact List.take_of_length_le (by rw[flatten_len hl]; exact Nat.le_refl _),hl⟩
theorem a9f {n:Nd}(hn:n.kids=[]):NVD h D n [I n.kind,I n.st,I n.lo,I n.hi,.nils]:=
 .mk (css:=[]) (.inl ⟨rfl,rfl⟩) (λq=>absurd rfl q) (by rw[hn]; exact .nil)
end Go.Gm.AZ
namespace Go.Gm
inductive Rw where
 |mk (k n:Int) (l:List Rw)
 deriving Inhabited
def Rw.kids:Rw->List Rw
 |.mk _ _ l=>l
theorem Rw.kid_lt {c r:Rw}(h:c∈r.kids):SizeOf.sizeOf c<SizeOf.sizeOf r:=by
 cases r with
 |mk k n l=>have:=List.sizeOf_lt_of_mem (show c∈l from h); simp only[Rw.mk.sizeOf_spec]; omega
theorem Rw.ind {p:Rw->Prop}(h:∀r,(∀c∈r.kids,p c)->p r)(r:Rw):p r:=by
 have:∀(N:Nat) (r:Rw),SizeOf.sizeOf r<=N->p r:=by
  intro N
  induction N with
  |zero=>intro r hr; exact h r λc hc=>by have:=Rw.kid_lt hc; omega
  |succ N ih=>intro r hr; exact h r λc hc=>ih c (by have:=Rw.kid_lt hc; omega)
 exact this _ r (Nat.le_refl _)
mutual
inductive RV (h:Heap):Rw->List AV->Prop
 |mk {k n:Int} {l:List Rw} {s:AV} {css:List (List AV)}:Sl h 3 s css->RVs h l css->RV h (.mk k n l) [I k,I n,s]
inductive RVs (h:Heap):List Rw->List (List AV)->Prop
 |nil:RVs h [] []
 |cons {r:Rw} {cs:List AV} {l:List Rw} {css:List (List AV)}:RV h r cs->RVs h l css->RVs h (r::l) (cs::css)
end
mutual
theorem RV.ext {h h':Heap} (e:Ext h h'):∀{r:Rw} {cs:List AV},RV h r cs->RV h' r cs
 |_,_,.mk a b=>.mk (a.ext e) (RVs.ext e b)
theorem RVs.ext {h h':Heap} (e:Ext h h'):∀{l:List Rw} {css:List (List AV)},RVs h l css->RVs h' l css
 |_,_,.nil=>.nil
 |_,_,.cons a b=>.cons (RV.ext e a) (RVs.ext e b)
end
theorem RVs.len:∀{l:List Rw} {css:List (List AV)},RVs h l css->l.length=css.length
 |_,_,.nil=>rfl
 |_,_,.cons _ b=>by simp[RVs.len b]
theorem RVs.get:∀{l:List Rw} {css:List (List AV)},RVs h l css->∀{i:Nat} {r:Rw},l[i]?=some r->∃cs,css[i]?=some cs/\RV h r cs
 |_,_,.nil,i,r,q=>by simp at q
 |_,_,.cons a b,0,r,q=>by
  simp only[List.getElem?_cons_zero,Option.some.injEq] at q
  subst q; exact ⟨_,rfl,a⟩
 |_,_,.cons a b,i+1,r,q=>by
  obtain ⟨cs,h1,h2⟩:=RVs.get b (i:=i) (by simpa using q)
  exact ⟨cs,by simpa using h1,h2⟩
theorem RV.len (a:RV h r cs):cs.length=3:=by cases a; rfl
theorem RV.one (a:RV h r cs):cs.all AV.one=true:=by
 cases a with
 |mk a b=>simp only[List.all_cons,List.all_nil,a4x,a.one,Bool.and_self]
end Go.Gm
namespace Go.Gm.AZ
open Go Go.Gm
theorem a0O {a n:Int}(hn:0<n)(hf:Fit n)(h:Heap):Tot tab d5_ [I a,I n] h λv h'=>v=I (a % n)/\h=h':=by
 refine WP.tot (a9A · ..) ?_
 refine WP.oa (a8F a n oM) ?_
 refine WP.oa (a6U _ _) ?_
 have hlt:=Int.tmod_lt_of_pos a hn
 have hgt:=Int.lt_tmod_of_pos a hn
 have h1:=Int.tmod_eq_emod (a:=a) (b:=n)
 have h2:=Int.emod_nonneg a (by omega:n≠0)
 have h3:=Int.emod_lt_of_pos a hn
 by_cases h0:a.tmod n<0
 ·simp only[decide_eq_true h0,a2L]
  refine WP.oa (a8E _ _ (by unfold Fit at *; omega)) (WP.ret ⟨?_,rfl⟩)
  congr 1
  split at h1<;>omega
 ·simp only[decide_eq_false h0,a1M]
  refine WP.ret ⟨?_,rfl⟩
  congr 1
  split at h1<;>omega
theorem b6k {α:Type}[Inhabited α]{xs:List α}{i:Nat}{x:α}(h:xs[i]?=some x):gi xs (i:Int)=x:=by
 simp[gi,List.getD_eq_getElem?_getD,h]
def szF:Nat->List Rw->Int
 |0,_=>1000
 |d+1,rs=>rs.foldl (λn r=>if n<=14 then n+1+szF d r.kids else n) 0
def szAdd (d:Nat)(n:Int)(rs:List Rw):Int:=rs.foldl (λn r=>if n<=14 then n+1+szF d r.kids else n) n
theorem b1q (d:Nat):∀(rs:List Rw) {n:Int},¬n<=14->szAdd d n rs=n
 |[],n,_=>rfl
 |r::rs,n,h=>by
  show szAdd d (if n<=14 then _ else n) rs=n
  rw[if_neg h]; exact b1q d rs h
theorem b6l:∀(d:Nat) (rs:List Rw),0<=szF d rs/\szF d rs<=1000+15*d
 |0,rs=>by simp[szF]
 |d+1,rs=>by
  have:∀(rs:List Rw) (n:Int),0<=n->n<=1000+15*(d+1)->0<=szAdd d n rs/\szAdd d n rs<=1000+15*(d+1):=by
   intro rs
   induction rs with
   |nil=>intro n h1 h2; exact ⟨h1,h2⟩
   |cons r rs ih=>
    intro n h1 h2
    show 0<=szAdd d (if n<=14 then n+1+szF d r.kids else n) rs/\szAdd d (if n<=14 then n+1+szF d r.kids else n) rs<=_
    have:=b6l d r.kids
    split
    ·exact ih _ oM oM
    ·exact ih _ h1 h2
  have:=this rs 0 oM oM
  exact ⟨this.1,by have:=this.2; simp only[szAdd] at this; simp only[szF]; omega⟩
theorem b9Y:∀(d:Nat),d<=7->∀(rs:List Rw) (s:AV) (css:List (List AV)) (h:Heap),Sl h 3 s css->RVs h rs css->
  Tot tab t7_ [s,I (7-(d:Int))] h λr h'=>r=I (szF d rs)/\h'=h:=by
 intro d
 induction d with
 |zero=>
  intro _ rs s css h hs hr
  refine WP.tot (a5q · ..) ?_
  refine g0 ?_
  exact WP.ret ⟨rfl,rfl⟩
 |succ d ihd=>
  intro hd rs s css h hs hr
  refine WP.tot (a5q · ..) ?_
  refine g0 ?_
  have hs':Sl h 3 s (css.map λx=>x):=by rw[List.map_id']; exact hs
  have hlen:=hr.len
  have loop:∀(e i:Nat) (n:Int),i+e=rs.length->(i:Int)<=n->n<=2000->szAdd d n (rs.drop i)=szF (d+1) rs->WP (λp:Nat × Nat=>z6_ p.1 p.2 s (I (7-((d+1:Nat):Int))) (I n) (I i) h) λr h'=>r=I (szF (d+1) rs)/\h'=h:=by
   intro e
   induction e with
   |zero=>
    intro i n h1 h2 h3 h4
    refine WP.rnd (a3V · · ..) ?_
    refine g1 hs'.lenG ?_
    rw[List.drop_of_length_le oM] at h4
    exact WP.lv (WP.ret ⟨by rw[<-h4]; rfl,rfl⟩) λi j=>rfl
   |succ e ih=>
    intro i n h1 h2 h3 h4
    refine WP.rnd (a3V · · ..) ?_
    by_cases hn:n<=14
    ·have hil:i<rs.length:=oM
     have hdr:rs.drop i=rs[i]::rs.drop (i+1):=List.drop_eq_getElem_cons hil
     obtain ⟨r,hr2⟩:∃r,rs[i]=r:=⟨_,rfl⟩
     rw[hr2] at hdr
     have hri:rs[i]?=some r:=by rw[List.getElem?_eq_getElem hil,hr2]
     obtain ⟨cs,hcs,rv⟩:=hr.get hri
     have hg:gi css (i:Int)=cs:=b6k hcs
     have e0:=Ext.refl h
     rw[hdr] at h4
     cases rv with
     |@mk k m l s2 css2 sl2 rv2=>
     refine g4 hs'.lenG hs'.idxG hs'.ldf @hg ?_
     have:=ihd oM l s2 css2 h sl2 rv2
     rw[show (7:Int)-(d:Int)=7-((d+1:Nat):Int)+1 by omega] at this
     refine WP.call this ?_
     rintro _ _ ⟨rfl,rfl⟩
     have hrg:=b6l d l
     refine g0 ?_
     refine ih (i+1) (n+1+szF d l) oM oM oM ?_
     rw[<-h4]
     show _=szAdd d (if n<=14 then n+1+szF d l else n) _
     rw[if_pos hn]
    ·refine g1 hs'.lenG ?_
     rw[b1q d _ hn] at h4
     exact WP.lv (WP.ret ⟨by rw[<-h4],rfl⟩) λi j=>rfl
  try rw[show I 0=I ((0:Nat):Int) from rfl]
  exact WP.ent (loop rs.length 0 0 oM oM oM rfl) λi=>rfl
abbrev wr (n:Int):Int:=IntKind.i64.wrap n
theorem b9Z (a b:Int):binV .add .scalar (I a) (I b)=some (I (wr (a+b))):=rfl
def sgn (n:Int):Nd:=.set (2 ^ (n % 5).toNat)
def ptN (n:Int)(ls:List Nd)(i:Nat):Nd:=ls.getD i (sgn (wr (n+i)))
def ptsN (n:Int)(ls:List Nd):List Nd:=(List.range (max 2 (min ls.length 4))).map (ptN n ls)
def mkOf (k n:Int)(ls:List Nd):Nd:=
 match (k % 14).toNat with
 |0|1=>.set (1+(n % 31).toNat)
 |2|3=>sgn n
 |4=>if n % 3=0 then .emp else .eps
 |5|6|7=>.join (ptsN n ls)
 |8|9=>.uni (ptsN n ls)
 |10=>.star (ptN n ls 0)
 |11=>.plus (ptN n ls 0)
 |12=>.opt (ptN n ls 0)
 |_=>.rep (n % 4).toNat ((n % 4).toNat+(wr (n.tdiv 4) % 3).toNat) (ptN n ls 0)
mutual
def mkX:Rw->Nd
 |.mk k n l=>mkOf k n (mkXs l)
def mkXs:List Rw->List Nd
 |[]=>[]
 |r::l=>mkX r::mkXs l
end
theorem a5m:∀l:List Rw,mkXs l=l.map mkX
 |[]=>rfl
 |r::l=>by rw[mkXs,a5m l]; rfl
abbrev NewN (h:Heap)(n:Nd)(v:AV)(h':Heap):Prop:=Ext h h'/\∃c5,v=.agg c5/\NVD h' (λo=>h.length<=o/\o<h'.length) n c5
def MakeS (r:Rw):Prop:=∀(c3:List AV) (h:Heap),RV h r c3->Tot tab c0_ [.agg c3] h (NewN h (mkX r))
structure RA (h:Heap) (p:AV) (k n:Int) (l:List Rw) (s:AV) (css:List (List AV)):Prop where
 at_:At h p [I k,I n,s]
 sl:Sl h 3 s css
 rv:RVs h l css
theorem RA.ext (a:RA h p k n l s css)(e:Ext h h'):RA h' p k n l s css:=⟨a.at_.ext e,a.sl.ext e,a.rv.ext e⟩
theorem a2A {l:List Rw}(hS:∀c∈l,MakeS c)(c3:List AV)(rv:RV h (.mk k n l) c3){i:Nat}(hi:i<=1000) :
  Tot tab d9_ [.agg c3,I i] h (NewN h (ptN n (mkXs l) i)):=by
 refine WP.tot (a8n · ..) ?_
 cases rv with
 |@mk _ _ _ s css sl rv=>
 have hso:=sl.one
 obtain ⟨h1,hh1⟩:∃h1,h1=(h++[AObj.cells ⟨[I k,I n,s],0,0,false⟩])++[AObj.cells ⟨[I 0,I 0,I 0,I 0,.nils],0,0,false⟩]:=⟨_,rfl⟩
 have e1:Ext h h1:=by rw[hh1]; exact eX
 have hl1:h1.length=h.length+2:=by rw[hh1]; simp
 have hx0:h1[h.length]?=some (.cells ⟨[I k,I n,s],0,0,false⟩):=by rw[hh1]; simp
 have hx1:h1[h.length+1]?=some (.cells ⟨[I 0,I 0,I 0,I 0,.nils],0,0,false⟩):=by rw[hh1]; simp
 have sl':Sl h1 3 s (css.map λx=>x):=by rw[List.map_id']; exact sl.ext e1
 have hlen:=rv.len
 refine g1 @hso ?_
 rw[<-hh1]
 refine g2 @hx0 sl'.lenG ?_
 have fin:∀{n':Nd} {c5:List AV} {H:Heap} (e:Ext h1 H) (nv:NVD H (λo=>h1.length<=o/\o<H.length) n' c5),NewN h n' (.agg c5) (H.set (h.length+1) (.cells ⟨c5,0,0,false⟩)):=by
  intro n' c5 H e nv
  have:=e.len
  refine ⟨(e1.trans e).set oM _,c5,rfl,nv.frs (FrS.set1 H (h.length+1) _) (λo h1 h2 h3=>oM) λo h1 h2=>⟨oM,by simp; exact h2.2⟩⟩
 by_cases hil:i<l.length
 ·obtain ⟨r,hr⟩:∃r,l[i]?=some r:=⟨_,List.getElem?_eq_getElem hil⟩
  obtain ⟨cs,hcs,rvr⟩:=rv.get hr
  have hg:gi css (i:Int)=cs:=b6k hcs
  have e0:=Ext.refl h1
  refine g4 @hx0 sl'.idxG sl'.ldN @hg ?_
  refine WP.call (hS r (List.mem_of_getElem? hr) cs h1 (rvr.ext e1)) ?_
  rintro _ H ⟨e2,c5,rfl,nv⟩
  have hx2:=e2.get hx1
  obtain ⟨s5,rfl,ho5⟩:=nv.inv
  have hHl:=e2.len
  refine g2 @hx2 @ho5 ?_
  have hp:mkX r=ptN n (mkXs l) i:=by simp[ptN,a5m,List.getD_eq_getElem?_getD,hr]
  rw[<-hp]
  exact WP.ret (fin e2 nv)
 ·refine g3 @hx0 sl'.lenG @b9Z ?_
  refine WP.call (a0O (n:=5) oM (by unfold Fit; omega) h1) ?_
  rintro _ _ ⟨rfl,rfl⟩
  have h5:0<=wr (n+i) % 5/\wr (n+i) % 5<5:=⟨Int.emod_nonneg _ oM,Int.emod_lt_of_pos _ oM⟩
  obtain ⟨m,hm⟩:∃m:Int,wr (n+i) % 5=m:=⟨_,rfl⟩
  rw[hm] at h5
  rw[hm]
  refine g1 @hx1 ?_
  have:=fin (Ext.refl _) (a9f (h:=h1) (D:=λo=>h1.length<=o/\o<h1.length) (n:=.set (2 ^ m.toNat)) rfl)
  have hp:ptN n (mkXs l) i=.set (2 ^ m.toNat):=by
   have:(mkXs l)[i]?=none:=by rw[a5m,List.getElem?_eq_none]; simp; omega
   simp only[ptN,List.getD_eq_getElem?_getD,this,Option.getD_none,sgn,hm]
  rw[hp]
  exact WP.ret this
theorem b6m (h:Heap)(x y:AObj):(h++[x]).set h.length y=h++[y]:=by simp
structure MC (h h1:Heap) (k n:Int) (l:List Rw) (s:AV) (css:List (List AV)):Prop where
 ext:Ext h h1
 len:h1.length=h.length+2
 r0:h1[h.length]?=some (.cells ⟨[I k,I n,s],0,0,false⟩)
 r1:h1[h.length+1]?=some (.cells ⟨[I 0,I 0,I 0,I 0,.nils],0,0,false⟩)
 sl:Sl h1 3 s css
 rv:RVs h1 l css
theorem MC.fin (mc:MC h h1 k n l s css)(e:Ext h1 H)(nv:NVD H (λo=>h1.length<=o/\o<H.length) n' c5):NewN h n' (.agg c5) (H.set (h.length+1) (.cells ⟨c5,0,0,false⟩)):=by
 have:=e.len
 have:=mc.len
 refine ⟨(mc.ext.trans e).set oM _,c5,rfl,nv.frs (FrS.set1 H (h.length+1) _) (λo h1 h2 h3=>oM) λo h1 h2=>⟨oM,by simp; exact h2.2⟩⟩
theorem c3l (mc:MC h h1 k n l s css)(hS:∀c∈l,MakeS c) :
  ∀(d i:Nat) (s4:AV) (lg:Nat) (cs4:List (List AV)) (H:Heap),i+d=max 2 (min l.length 4)->NB h1 H [I 4,I 0,I 0,I 0] s4 lg ((ptsN n (mkXs l)).take i) cs4->
   WP (λp:Nat × Nat=>s1_ p.1 p.2 (.ptr h.length 0 3 0) (.ptr (h.length+1) 0 5 0) (.ptr h1.length 0 5 0) (I i) H) (NewN h (.join (ptsN n (mkXs l)))):=by
 have hml:(mkXs l).length=l.length:=by rw[a5m,List.length_map]
 have hpl:(ptsN n (mkXs l)).length=max 2 (min l.length 4):=by simp[ptsN,hml]
 have h1l:=mc.len
 intro d
 induction d with
 |zero=>
  intro i s4 lg cs4 H hi nb
  refine WP.rnd (a2h · · ..) ?_
  have hx0:=nb.ext.get mc.r0
  have hx1:=nb.ext.get mc.r1
  have sl':Sl H 3 s (css.map λx=>x):=by rw[List.map_id']; exact mc.sl.ext nb.ext
  have hlen:=mc.rv.len
  have hrow:H[h1.length]?=some (.cells ⟨[I 4,I 0,I 0,I 0,s4],0,0,false⟩):=nb.row
  have hso:=nb.gr.sl.one
  have hno:=nb.no
  rw[List.take_of_length_le oM] at nb
  have nv:=nb.done (n:=.join (ptsN n (mkXs l))) rfl rfl
  have fin:=mc.fin nb.ext (nv.frs (FrS.refl (λ_=>False) H) (λ_ _ _ z=>z) (D':=λo=>h1.length<=o/\o<H.length) λo _ z=>⟨oM,z.2⟩)
  by_cases h4:i<l.length
  ·refine g5 @hx0 sl'.lenG @hrow @hx1 @hso ?_
   exact WP.lv (WP.ret fin) λi j=>rfl
  ·refine g5 @hx0 sl'.lenG @hrow @hx1 @hso ?_
   exact WP.lv (WP.ret fin) λi j=>rfl
 |succ d ih=>
  intro i s4 lg cs4 H hi nb
  refine WP.rnd (a2h · · ..) ?_
  have hx0:=nb.ext.get mc.r0
  have sl':Sl H 3 s (css.map λx=>x):=by rw[List.map_id']; exact mc.sl.ext nb.ext
  have hlen:=mc.rv.len
  have hrow:H[h1.length]?=some (.cells ⟨[I 4,I 0,I 0,I 0,s4],0,0,false⟩):=nb.row
  have hcl:cs4.length<=1000:=by rw[<-nb.nvs.len,List.length_take]; omega
  have hil:i<4:=oM
  have htk:(ptsN n (mkXs l)).take (i+1)=(ptsN n (mkXs l)).take i++[ptN n (mkXs l) i]:=by
   rw[List.take_add_one]
   congr 1
   simp[ptsN,hml,show i<max 2 (min l.length 4) by omega]
  by_cases h2:i<2
  ·refine g2 @hx0 @hrow ?_
   refine WP.call (a2A (k:=k) hS [I k,I n,s] (.mk (mc.sl.ext nb.ext) (mc.rv.ext nb.ext)) (i:=i) oM) ?_
   rintro _ H1 ⟨e1,c5,rfl,nv⟩
   obtain ⟨s5,rfl,ho5⟩:=nv.inv
   have hrow1:=e1.get hrow
   obtain ⟨s',H3,m1,m2,m3,m4,lg',nb'⟩:=nb.add rfl e1 nv hcl
   have m4':H3[h1.length]?=some (.cells ⟨[I 4,I 0,I 0,I 0,s4],0,0,false⟩):=m4
   rw[a3_] at m1
   refine g6 @hrow1 @ho5 @m1 @m4' @m2 @m3 ?_
   rw[<-htk] at nb'
   exact ih (i+1) s' lg' _ _ oM nb'
  ·refine g3 @hx0 sl'.lenG @hrow ?_
   refine WP.call (a2A (k:=k) hS [I k,I n,s] (.mk (mc.sl.ext nb.ext) (mc.rv.ext nb.ext)) (i:=i) oM) ?_
   rintro _ H1 ⟨e1,c5,rfl,nv⟩
   obtain ⟨s5,rfl,ho5⟩:=nv.inv
   have hrow1:=e1.get hrow
   obtain ⟨s',H3,m1,m2,m3,m4,lg',nb'⟩:=nb.add rfl e1 nv hcl
   have m4':H3[h1.length]?=some (.cells ⟨[I 4,I 0,I 0,I 0,s4],0,0,false⟩):=m4
   rw[a3_] at m1
   refine g6 @hrow1 @ho5 @m1 @m4' @m2 @m3 ?_
   rw[<-htk] at nb'
   exact ih (i+1) s' lg' _ _ oM nb'
theorem c3m (mc:MC h h1 k n l s css)(hS:∀c∈l,MakeS c) :
  ∀(d i:Nat) (s4:AV) (lg:Nat) (cs4:List (List AV)) (H:Heap),i+d=max 2 (min l.length 4)->NB h1 H [I 5,I 0,I 0,I 0] s4 lg ((ptsN n (mkXs l)).take i) cs4->
   WP (λp:Nat × Nat=>s2_ p.1 p.2 (.ptr h.length 0 3 0) (.ptr (h.length+1) 0 5 0) (.ptr h1.length 0 5 0) (I i) H) (NewN h (.uni (ptsN n (mkXs l)))):=by
 have hml:(mkXs l).length=l.length:=by rw[a5m,List.length_map]
 have hpl:(ptsN n (mkXs l)).length=max 2 (min l.length 4):=by simp[ptsN,hml]
 have h1l:=mc.len
 intro d
 induction d with
 |zero=>
  intro i s4 lg cs4 H hi nb
  refine WP.rnd (a2i · · ..) ?_
  have hx0:=nb.ext.get mc.r0
  have hx1:=nb.ext.get mc.r1
  have sl':Sl H 3 s (css.map λx=>x):=by rw[List.map_id']; exact mc.sl.ext nb.ext
  have hlen:=mc.rv.len
  have hrow:H[h1.length]?=some (.cells ⟨[I 5,I 0,I 0,I 0,s4],0,0,false⟩):=nb.row
  have hso:=nb.gr.sl.one
  have hno:=nb.no
  rw[List.take_of_length_le oM] at nb
  have nv:=nb.done (n:=.uni (ptsN n (mkXs l))) rfl rfl
  have fin:=mc.fin nb.ext (nv.frs (FrS.refl (λ_=>False) H) (λ_ _ _ z=>z) (D':=λo=>h1.length<=o/\o<H.length) λo _ z=>⟨oM,z.2⟩)
  by_cases h4:i<l.length
  ·refine g5 @hx0 sl'.lenG @hrow @hx1 @hso ?_
   exact WP.lv (WP.ret fin) λi j=>rfl
  ·refine g5 @hx0 sl'.lenG @hrow @hx1 @hso ?_
   exact WP.lv (WP.ret fin) λi j=>rfl
 |succ d ih=>
  intro i s4 lg cs4 H hi nb
  refine WP.rnd (a2i · · ..) ?_
  have hx0:=nb.ext.get mc.r0
  have sl':Sl H 3 s (css.map λx=>x):=by rw[List.map_id']; exact mc.sl.ext nb.ext
  have hlen:=mc.rv.len
  have hrow:H[h1.length]?=some (.cells ⟨[I 5,I 0,I 0,I 0,s4],0,0,false⟩):=nb.row
  have hcl:cs4.length<=1000:=by rw[<-nb.nvs.len,List.length_take]; omega
  have hil:i<4:=oM
  have htk:(ptsN n (mkXs l)).take (i+1)=(ptsN n (mkXs l)).take i++[ptN n (mkXs l) i]:=by
   rw[List.take_add_one]
   congr 1
   simp[ptsN,hml,show i<max 2 (min l.length 4) by omega]
  by_cases h2:i<2
  ·refine g2 @hx0 @hrow ?_
   refine WP.call (a2A (k:=k) hS [I k,I n,s] (.mk (mc.sl.ext nb.ext) (mc.rv.ext nb.ext)) (i:=i) oM) ?_
   rintro _ H1 ⟨e1,c5,rfl,nv⟩
   obtain ⟨s5,rfl,ho5⟩:=nv.inv
   have hrow1:=e1.get hrow
   obtain ⟨s',H3,m1,m2,m3,m4,lg',nb'⟩:=nb.add rfl e1 nv hcl
   have m4':H3[h1.length]?=some (.cells ⟨[I 5,I 0,I 0,I 0,s4],0,0,false⟩):=m4
   rw[a3_] at m1
   refine g6 @hrow1 @ho5 @m1 @m4' @m2 @m3 ?_
   rw[<-htk] at nb'
   exact ih (i+1) s' lg' _ _ oM nb'
  ·refine g3 @hx0 sl'.lenG @hrow ?_
   refine WP.call (a2A (k:=k) hS [I k,I n,s] (.mk (mc.sl.ext nb.ext) (mc.rv.ext nb.ext)) (i:=i) oM) ?_
   rintro _ H1 ⟨e1,c5,rfl,nv⟩
   obtain ⟨s5,rfl,ho5⟩:=nv.inv
   have hrow1:=e1.get hrow
   obtain ⟨s',H3,m1,m2,m3,m4,lg',nb'⟩:=nb.add rfl e1 nv hcl
   have m4':H3[h1.length]?=some (.cells ⟨[I 5,I 0,I 0,I 0,s4],0,0,false⟩):=m4
   rw[a3_] at m1
   refine g6 @hrow1 @ho5 @m1 @m4' @m2 @m3 ?_
   rw[<-htk] at nb'
   exact ih (i+1) s' lg' _ _ oM nb'
theorem MC.leaf (mc:MC h h1 k n l s css){n':Nd}(hn:n'.kids=[])(e:Ext h1 H):NewN h n' (.agg [I n'.kind,I n'.st,I n'.lo,I n'.hi,.nils]) (H.set (h.length+1) (.cells ⟨[I n'.kind,I n'.st,I n'.lo,I n'.hi,.nils],0,0,false⟩)):=mc.fin e (a9f hn)
theorem MC.kid (mc:MC h h1 k n l s css){n' c:Nd}(hn:n'.kids=[c])(e:Ext h1 H1)(nv:NVD H1 (λo=>h1.length<=o/\o<H1.length) c c5) :
  NewN h n' (.agg [I n'.kind,I n'.st,I n'.lo,I n'.hi,.sl H1.length 0 1 5 none 0]) ((H1++[AObj.cells ⟨c5,0,0,false⟩]).set (h.length+1) (.cells ⟨[I n'.kind,I n'.st,I n'.lo,I n'.hi,.sl H1.length 0 1 5 none 0],0,0,false⟩)):=by
 have e3:Ext H1 (H1++[AObj.cells ⟨c5,0,0,false⟩]):=Ext.push H1 _
 have hle:=e.len
 refine mc.fin (e.trans e3) (.mk (css:=[c5]) (Gr.lit (sz:=5) nv.len).sl (λ_=>⟨hle,by simp[AV.obj]⟩) ?_)
 rw[hn]
 exact .cons (nv.ext e3 λo h1 h2=>⟨h2.1,by simp; omega⟩) .nil
section
variable {h h1:Heap} {k n:Int} {l:List Rw} {s:AV} {css:List (List AV)}
theorem c3n (mc:MC h h1 k n l s css)(hS:∀c∈l,MakeS c):WP (λi:Nat=>a0q i (.ptr h.length 0 3 0) (.ptr (h.length+1) 0 5 0) h1) (NewN h (.rep (n % 4).toNat ((n % 4).toNat+(wr (n.tdiv 4) % 3).toNat) (ptN n (mkXs l) 0))):=by
 refine WP.congr (a6F · ..) ?_
 have hx0:=mc.r0
 refine g1 @hx0 ?_
 refine WP.call (a0O (n:=4) oM (by unfold Fit; omega) h1) ?_
 rintro _ _ ⟨rfl,rfl⟩
 refine g1 @hx0 ?_
 refine WP.call (a0O (n:=3) oM (by unfold Fit; omega) h1) ?_
 rintro _ _ ⟨rfl,rfl⟩
 have a1:0<=n % 4/\n % 4<4:=⟨Int.emod_nonneg _ oM,Int.emod_lt_of_pos _ oM⟩
 have a2:0<=wr (n.tdiv 4) % 3/\wr (n.tdiv 4) % 3<3:=⟨Int.emod_nonneg _ oM,Int.emod_lt_of_pos _ oM⟩
 obtain ⟨a,ha⟩:∃a:Nat,n % 4=a:=⟨(n % 4).toNat,oM⟩
 obtain ⟨b,hb⟩:∃b:Nat,wr (n.tdiv 4) % 3=b:=⟨(wr (n.tdiv 4) % 3).toNat,oM⟩
 have hb':IntKind.i64.wrap (n.tdiv 4) % 3=b:=hb
 refine g4 @hx0 @ha @hb @hb' ?_
 try rw[show I 0=I ((0:Nat):Int) from rfl]
 refine WP.call (a2A (k:=k) hS [I k,I n,s] (.mk mc.sl mc.rv) (i:=0) oM) ?_
 rintro _ H1 ⟨e1,c5,rfl,nv⟩
 obtain ⟨s5,rfl,ho5⟩:=nv.inv
 have hx1:=e1.get mc.r1
 have hle:=e1.len
 have hl1:=mc.len
 refine g2 @hx1 @ho5 ?_
 have:=mc.kid (n':=.rep a (a+b) (ptN n (mkXs l) 0)) rfl e1 nv
 try rw[show (n % 4).toNat=a by omega,show (wr (n.tdiv 4) % 3).toNat=b by omega]
 simp only[Nd.kind,Nd.st,Nd.lo,Nd.hi,Int.natCast_add] at this
 exact WP.ret this
theorem c1J (mc:MC h h1 k n l s css)(hS:∀c∈l,MakeS c):WP (λi:Nat=>d1_ i (.ptr h.length 0 3 0) (.ptr (h.length+1) 0 5 0) (I 10) (.bool false) h1) (NewN h (.star (ptN n (mkXs l) 0))):=by
 refine WP.congr (h3_ · ..) ?_
 have hx0:=mc.r0
 refine g1 @hx0 ?_
 try rw[show I 0=I ((0:Nat):Int) from rfl]
 refine WP.call (a2A (k:=k) hS [I k,I n,s] (.mk mc.sl mc.rv) (i:=0) oM) ?_
 rintro _ H1 ⟨e1,c5,rfl,nv⟩
 obtain ⟨s5,rfl,ho5⟩:=nv.inv
 have hx1:=e1.get mc.r1
 have hle:=e1.len
 have hl1:=mc.len
 refine g2 @hx1 @ho5 ?_
 have:=mc.kid (n':=.star (ptN n (mkXs l) 0)) rfl e1 nv
 simp only[Nd.kind,Nd.st,Nd.lo,Nd.hi] at this
 exact WP.ret this
theorem c1K (mc:MC h h1 k n l s css)(hS:∀c∈l,MakeS c):WP (λi:Nat=>d1_ i (.ptr h.length 0 3 0) (.ptr (h.length+1) 0 5 0) (I 11) (.bool false) h1) (NewN h (.plus (ptN n (mkXs l) 0))):=by
 refine WP.congr (h3_ · ..) ?_
 have hx0:=mc.r0
 refine g1 @hx0 ?_
 try rw[show I 0=I ((0:Nat):Int) from rfl]
 refine WP.call (a2A (k:=k) hS [I k,I n,s] (.mk mc.sl mc.rv) (i:=0) oM) ?_
 rintro _ H1 ⟨e1,c5,rfl,nv⟩
 obtain ⟨s5,rfl,ho5⟩:=nv.inv
 have hx1:=e1.get mc.r1
 have hle:=e1.len
 have hl1:=mc.len
 refine g2 @hx1 @ho5 ?_
 have:=mc.kid (n':=.plus (ptN n (mkXs l) 0)) rfl e1 nv
 simp only[Nd.kind,Nd.st,Nd.lo,Nd.hi] at this
 exact WP.ret this
theorem c1L (mc:MC h h1 k n l s css)(hS:∀c∈l,MakeS c):WP (λi:Nat=>d1_ i (.ptr h.length 0 3 0) (.ptr (h.length+1) 0 5 0) (I 12) (.bool false) h1) (NewN h (.opt (ptN n (mkXs l) 0))):=by
 refine WP.congr (h3_ · ..) ?_
 have hx0:=mc.r0
 refine g1 @hx0 ?_
 try rw[show I 0=I ((0:Nat):Int) from rfl]
 refine WP.call (a2A (k:=k) hS [I k,I n,s] (.mk mc.sl mc.rv) (i:=0) oM) ?_
 rintro _ H1 ⟨e1,c5,rfl,nv⟩
 obtain ⟨s5,rfl,ho5⟩:=nv.inv
 have hx1:=e1.get mc.r1
 have hle:=e1.len
 have hl1:=mc.len
 refine g2 @hx1 @ho5 ?_
 have:=mc.kid (n':=.opt (ptN n (mkXs l) 0)) rfl e1 nv
 simp only[Nd.kind,Nd.st,Nd.lo,Nd.hi] at this
 exact WP.ret this
theorem c1M (mc:MC h h1 k n l s css)(hS:∀c∈l,MakeS c):WP (λi:Nat=>d1_ i (.ptr h.length 0 3 0) (.ptr (h.length+1) 0 5 0) (I 13) (.bool false) h1) (NewN h (.rep (n % 4).toNat ((n % 4).toNat+(wr (n.tdiv 4) % 3).toNat) (ptN n (mkXs l) 0))):=by
 refine WP.congr (h3_ · ..) ?_
 refine g0 ?_
 exact c3n mc hS
theorem b6n (mc:MC h h1 k n l s css)(hS:∀c∈l,MakeS c)(c:AV):WP (λi:Nat=>d1_ i (.ptr h.length 0 3 0) (.ptr (h.length+1) 0 5 0) c (.bool true) h1) (NewN h (.uni (ptsN n (mkXs l)))):=by
 refine WP.congr (h3_ · ..) ?_
 refine g0 ?_
 rw[b6m]
 exact WP.ent (c3m mc hS (max 2 (min l.length 4)) 0 .nils 0 [] _ oM (NB.new h1 _)) λi=>rfl
theorem b2b (mc:MC h h1 k n l s css)(hS:∀c∈l,MakeS c)(c:AV):WP (λi:Nat=>k1_ i (.ptr h.length 0 3 0) (.ptr (h.length+1) 0 5 0) c (.bool true) h1) (NewN h (.join (ptsN n (mkXs l)))):=by
 refine WP.congr (d2_ · ..) ?_
 refine g0 ?_
 rw[b6m]
 exact WP.ent (c3l mc hS (max 2 (min l.length 4)) 0 .nils 0 [] _ oM (NB.new h1 _)) λi=>rfl
theorem b6o (mc:MC h h1 k n l s css)(c:AV):WP (λi:Nat=>s0_ i (.ptr h.length 0 3 0) (.ptr (h.length+1) 0 5 0) c (.bool true) h1) (NewN h (.set (1+(n % 31).toNat))):=by
 refine WP.congr (a8_ · ..) ?_
 have hx0:=mc.r0
 have hx1:=mc.r1
 have hl1:=mc.len
 refine g1 @hx0 ?_
 refine WP.call (a0O (n:=31) oM (by unfold Fit; omega) h1) ?_
 rintro _ _ ⟨rfl,rfl⟩
 have a1:0<=n % 31/\n % 31<31:=⟨Int.emod_nonneg _ oM,Int.emod_lt_of_pos _ oM⟩
 obtain ⟨a,ha⟩:∃a:Nat,n % 31=a:=⟨(n % 31).toNat,oM⟩
 refine g2 @hx1 @ha ?_
 have:=mc.leaf (n':=.set (1+a)) rfl (Ext.refl _)
 try rw[show (n % 31).toNat=a by omega]
 simp only[Nd.kind,Nd.st,Nd.lo,Nd.hi,Int.natCast_add] at this
 exact WP.ret this
theorem b6p (mc:MC h h1 k n l s css)(c:AV):WP (λi:Nat=>k0_ i (.ptr h.length 0 3 0) (.ptr (h.length+1) 0 5 0) c (.bool true) h1) (NewN h (sgn n)):=by
 refine WP.congr (b4_ · ..) ?_
 have hx0:=mc.r0
 have hx1:=mc.r1
 have hl1:=mc.len
 refine g1 @hx0 ?_
 refine WP.call (a0O (n:=5) oM (by unfold Fit; omega) h1) ?_
 rintro _ _ ⟨rfl,rfl⟩
 have a1:0<=n % 5/\n % 5<5:=⟨Int.emod_nonneg _ oM,Int.emod_lt_of_pos _ oM⟩
 obtain ⟨m,hm⟩:∃m:Int,n % 5=m:=⟨_,rfl⟩
 rw[hm] at a1
 refine g2 @hx1 @hm ?_
 have:=mc.leaf (n':=.set (2 ^ m.toNat)) rfl (Ext.refl _)
 rw[show sgn n=.set (2 ^ m.toNat) by rw[sgn,hm]]
 simp only[Nd.kind,Nd.st,Nd.lo,Nd.hi] at this
 exact WP.ret this
theorem c3o (mc:MC h h1 k n l s css):WP (λi:Nat=>k0_ i (.ptr h.length 0 3 0) (.ptr (h.length+1) 0 5 0) (I 4) (.bool false) h1) (NewN h (if n % 3=0 then .emp else .eps)):=by
 refine WP.congr (b4_ · ..) ?_
 obtain ⟨h2,hh2⟩:∃h2,h2=h1++[AObj.cells ⟨[I 2,I 3,I 3],0,0,false⟩]:=⟨_,rfl⟩
 have e2:Ext h1 h2:=by rw[hh2]; exact eX
 have hx0:=e2.get mc.r0
 have hx1:=e2.get mc.r1
 have hl1:=mc.len
 have hl2:h2.length=h1.length+1:=by rw[hh2]; simp
 have hx2:h2[h1.length]?=some (.cells ⟨[I 2,I 3,I 3],0,0,false⟩):=by rw[hh2]; simp
 refine g0 ?_
 rw[<-hh2]
 refine g1 mc.r0 ?_
 refine WP.call (a0O (n:=3) oM (by unfold Fit; omega) h2) ?_
 rintro _ _ ⟨rfl,rfl⟩
 have a1:0<=n % 3/\n % 3<3:=⟨Int.emod_nonneg _ oM,Int.emod_lt_of_pos _ oM⟩
 have a2:n % 3=0\/n % 3=1\/n % 3=2:=oM
 rcases a2 with a2|a2|a2
 ·rw[if_pos a2]
  refine g4 @hx1 @hx2 @a2 (show Int.toNat 0=0 from rfl) ?_
  exact WP.ret (mc.leaf (n':=.emp) rfl e2)
 ·rw[if_neg oM]
  refine g4 @hx1 @hx2 @a2 (show Int.toNat 1=1 from rfl) ?_
  exact WP.ret (mc.leaf (n':=.eps) rfl e2)
 ·rw[if_neg oM]
  refine g4 @hx1 @hx2 @a2 (show Int.toNat 2=2 from rfl) ?_
  exact WP.ret (mc.leaf (n':=.eps) rfl e2)
end
theorem b6q (r:Rw):MakeS r:=by
 refine Rw.ind (p:=MakeS) ?_ r
 rintro ⟨k,n,l⟩ hS c3 h rv
 cases rv with
 |@mk _ _ _ s css sl rv=>
 refine WP.tot (a8i · ..) ?_
 have hso:=sl.one
 obtain ⟨h1,hh1⟩:∃h1,h1=(h++[AObj.cells ⟨[I k,I n,s],0,0,false⟩])++[AObj.cells ⟨[I 0,I 0,I 0,I 0,.nils],0,0,false⟩]:=⟨_,rfl⟩
 have e1:Ext h h1:=by rw[hh1]; exact eX
 have mc:MC h h1 k n l s css:=⟨e1,by rw[hh1]; simp,by rw[hh1]; simp,by rw[hh1]; simp,sl.ext e1,rv.ext e1⟩
 have hx0:=mc.r0
 refine g1 @hso ?_
 rw[<-hh1]
 refine WP.call (a0O (n:=14) oM (by unfold Fit; omega) h1) ?_
 rintro _ _ ⟨rfl,rfl⟩
 have a1:0<=k % 14/\k % 14<14:=⟨Int.emod_nonneg _ oM,Int.emod_lt_of_pos _ oM⟩
 obtain ⟨c,hc⟩:∃c:Nat,k % 14=c:=⟨(k % 14).toNat,oM⟩
 have hmk:mkX (.mk k n l)=mkOf k n (mkXs l):=by rw[mkX]
 have hct:(k % 14).toNat=c:=oM
 rw[hmk]
 unfold mkOf
 rw[hct,hc]
 have hcc:c=0\/c=1\/c=2\/c=3\/c=4\/c=5\/c=6\/c=7\/c=8\/c=9\/c=10\/c=11\/c=12\/c=13:=oM
 rcases hcc with rfl|rfl|rfl|rfl|rfl|rfl|rfl|rfl|rfl|rfl|rfl|rfl|rfl|rfl
 ·refine g0 ?_
  exact b6o mc _
 ·refine g0 ?_
  exact b6o mc _
 ·refine g0 ?_
  refine WP.congr (a8_ · ..) ?_
  refine g0 ?_
  exact b6p mc _
 ·refine g0 ?_
  refine WP.congr (a8_ · ..) ?_
  refine g0 ?_
  exact b6p mc _
 ·refine g0 ?_
  refine WP.congr (a8_ · ..) ?_
  refine g0 ?_
  exact c3o mc
 ·refine g0 ?_
  refine WP.congr (a8_ · ..) ?_
  refine g0 ?_
  refine WP.congr (b4_ · ..) ?_
  refine g0 ?_
  exact b2b mc hS _
 ·refine g0 ?_
  refine WP.congr (a8_ · ..) ?_
  refine g0 ?_
  refine WP.congr (b4_ · ..) ?_
  refine g0 ?_
  exact b2b mc hS _
 ·refine g0 ?_
  refine WP.congr (a8_ · ..) ?_
  refine g0 ?_
  refine WP.congr (b4_ · ..) ?_
  refine g0 ?_
  exact b2b mc hS _
 ·refine g0 ?_
  refine WP.congr (a8_ · ..) ?_
  refine g0 ?_
  refine WP.congr (b4_ · ..) ?_
  refine g0 ?_
  refine WP.congr (d2_ · ..) ?_
  refine g0 ?_
  exact b6n mc hS _
 ·refine g0 ?_
  refine WP.congr (a8_ · ..) ?_
  refine g0 ?_
  refine WP.congr (b4_ · ..) ?_
  refine g0 ?_
  refine WP.congr (d2_ · ..) ?_
  refine g0 ?_
  exact b6n mc hS _
 ·refine g0 ?_
  refine WP.congr (a8_ · ..) ?_
  refine g0 ?_
  refine WP.congr (b4_ · ..) ?_
  refine g0 ?_
  refine WP.congr (d2_ · ..) ?_
  refine g0 ?_
  exact c1J mc hS
 ·refine g0 ?_
  refine WP.congr (a8_ · ..) ?_
  refine g0 ?_
  refine WP.congr (b4_ · ..) ?_
  refine g0 ?_
  refine WP.congr (d2_ · ..) ?_
  refine g0 ?_
  exact c1K mc hS
 ·refine g0 ?_
  refine WP.congr (a8_ · ..) ?_
  refine g0 ?_
  refine WP.congr (b4_ · ..) ?_
  refine g0 ?_
  refine WP.congr (d2_ · ..) ?_
  refine g0 ?_
  exact c1L mc hS
 ·refine g0 ?_
  refine WP.congr (a8_ · ..) ?_
  refine g0 ?_
  refine WP.congr (b4_ · ..) ?_
  refine g0 ?_
  refine WP.congr (d2_ · ..) ?_
  refine g0 ?_
  exact c1M mc hS
end Go.Gm.AZ
namespace Go.Gm.AZ
open Go Go.Gm
mutual
def cntR:Rw->Nat
 |.mk _ _ l=>1+cntRs l
def cntRs:List Rw->Nat
 |[]=>0
 |r::l=>cntR r+cntRs l
end
theorem c0a (r:Rw):cntR r=1+cntRs r.kids:=by cases r; rw[cntR]; rfl
theorem b6r:∀(d:Nat) (rs:List Rw),szF d rs<=14->(cntRs rs:Int)<=szF d rs
 |0,rs,h=>by simp[szF] at h
 |d+1,rs,h=>by
  have:∀(rs:List Rw) (n:Int),0<=n->szAdd d n rs<=14->n+cntRs rs<=szAdd d n rs:=by
   intro rs
   induction rs with
   |nil=>intro n h0 h; simp[szAdd,cntRs]
   |cons r rs ih=>
    intro n hp h
    have hs:szAdd d n (r::rs)=szAdd d (if n<=14 then n+1+szF d r.kids else n) rs:=rfl
    rw[hs] at h ⊢
    by_cases hn:n<=14
    ·rw[if_pos hn] at h ⊢
     have hr:=b6l d r.kids
     have h1:=ih _ oM h
     have h2:n+1+szF d r.kids<=14:=by
      by_cases q:n+1+szF d r.kids<=14
      ·exact q
      ·rw[b1q d rs q] at h; omega
     have h0:=b6r d r.kids oM
     rw[cntRs,c0a]
     omega
    ·rw[if_neg hn,b1q d rs hn] at h
     omega
  have:=this rs 0 oM h
  simp only[szAdd] at this
  simp only[szF]; omega
theorem b2x:ptN n ls i∈ls\/ptN n ls i=sgn (wr (n+i)):=by
 simp only[ptN,List.getD_eq_getElem?_getD]
 cases h:ls[i]? with
 |none=>exact .inr rfl
 |some c=>exact .inl (List.mem_of_getElem? h)
theorem b3s (n:Int)(ls:List Nd):(ptsN n ls).length=max 2 (min ls.length 4):=by simp[ptsN]
def oneN:List Rw->Nd
 |[]=>.set 1
 |r::_=>mkX r
theorem a9e (hs:Sl h 3 s css)(hr:RVs h l css) :
  Tot tab g9_ [s] h λr h'=>r=.bool (decide (szF 7 l<=14))/\h=h':=by
 refine WP.tot (b1c · ..) ?_
 have:=b9Y 7 oM l s css h hs hr
 rw[show (7:Int)-((7:Nat):Int)=0 by omega] at this
 refine WP.call this ?_
 rintro _ _ ⟨rfl,rfl⟩
 refine g1 @b2G ?_
 exact WP.ret ⟨rfl,rfl⟩
theorem a9M (hs:Sl h 3 s css)(hr:RVs h l css) :
  Tot tab j7_ [s] h (NewN h (oneN l)):=by
 refine WP.tot (b1d · ..) ?_
 obtain ⟨h1,hh1⟩:∃h1,h1=h++[AObj.cells ⟨[I 0,I 0,I 0,I 0,.nils],0,0,false⟩]:=⟨_,rfl⟩
 have e1:Ext h h1:=by rw[hh1]; exact eX
 have hl1:h1.length=h.length+1:=by rw[hh1]; simp
 have hx1:h1[h.length]?=some (.cells ⟨[I 0,I 0,I 0,I 0,.nils],0,0,false⟩):=by rw[hh1]; simp
 have sl':Sl h1 3 s (css.map λx=>x):=by rw[List.map_id']; exact hs.ext e1
 have hlen:=hr.len
 refine g0 ?_
 rw[<-hh1]
 have fin:∀{n':Nd} {c5:List AV} {H:Heap} (e:Ext h1 H) (nv:NVD H (λo=>h1.length<=o/\o<H.length) n' c5),NewN h n' (.agg c5) (H.set h.length (.cells ⟨c5,0,0,false⟩)):=by
  intro n' c5 H e nv
  have:=e.len
  refine ⟨(e1.trans e).set oM _,c5,rfl,nv.frs (FrS.set1 H h.length _) (λo h1 h2 h3=>oM) λo h1 h2=>⟨oM,by simp; exact h2.2⟩⟩
 cases l with
 |nil=>
  have h0:css.length=0:=by simpa using hlen.symm
  refine g2 sl'.lenG @hx1 ?_
  exact WP.ret (fin (Ext.refl _) (a9f (n:=.set 1) rfl))
 |cons r l=>
  obtain ⟨cs,hcs,rv⟩:=hr.get (i:=0) (r:=r) rfl
  have hg:gi css (0:Int)=cs:=b6k hcs
  have h0:0<css.length:=by rw[<-hlen]; simp
  have e0:=Ext.refl h1
  refine g4 sl'.lenG sl'.idxG sl'.ldN @hg ?_
  refine WP.call (b6q r cs h1 (rv.ext e1)) ?_
  rintro _ H ⟨e2,c5,rfl,nv⟩
  have hx2:=e2.get hx1
  obtain ⟨s5,rfl,ho5⟩:=nv.inv
  have hHl:=e2.len
  refine g2 @hx2 @ho5 ?_
  exact WP.ret (fin e2 nv)
end Go.Gm.AZ
namespace Go.Gm
structure NS where
 n:Nat
 much:Bool
 st:List (Nat × Nat × Nat)
 fr:List (Nat × Nat)
namespace NS
def new:NS:=⟨0,false,[],[]⟩
def state (b:NS):Nat × NS:=if 1000<=b.n then (0,⟨b.n,true,b.st,b.fr⟩) else (b.n,⟨b.n+1,b.much,b.st,b.fr⟩)
def frees (b:NS)(l:List (Nat × Nat)):NS:=⟨b.n,b.much,b.st,b.fr++l⟩
def step (b:NS)(s e k:Nat):NS:=⟨b.n,b.much,b.st++[(s,e,k)],b.fr⟩
def repE (lo e:Nat):Nat->List (Nat × Nat)->List (Nat × Nat)
 |_,[]=>[]
 |_,[ft]=>[(ft.2,e)]
 |i,ft::gt::r=>(if lo<=i+1 then [(ft.2,e)] else [])++(ft.2,gt.1)::repE lo e (i+1) (gt::r)
def joinE:List (Nat × Nat)->List (Nat × Nat)
 |ft::gt::r=>(ft.2,gt.1)::joinE (gt::r)
 |_=>[]
def uniE (s e:Nat)(l:List (Nat × Nat)):List (Nat × Nat):=l.flatMap λft=>[(s,ft.1),(ft.2,e)]
def hd (l:List (Nat × Nat)):Nat × Nat:=l.headD (0,0)
def lead (b:NS)(s e:Nat)(l:List (Nat × Nat)):Nd->NS
 |.set k=>b.step s e k
 |.eps=>b.frees [(s,e)]
 |.uni _=>b.frees (uniE s e l)
 |.star _=>b.frees [(s,(hd l).1),(s,e),((hd l).2,(hd l).1),((hd l).2,e)]
 |.plus _=>b.frees [(s,(hd l).1),((hd l).2,(hd l).1),((hd l).2,e)]
 |.opt _=>b.frees [(s,(hd l).1),(s,e),((hd l).2,e)]
 |.rep lo hi _=>b.frees ((if 0<hi then [(s,(hd l).1)] else [])++repE lo e 0 l++if lo=0 then [(s,e)] else [])
 |.emp=>b
 |.join _=>b
def times (g:NS->(Nat × Nat) × NS):Nat->NS->List (Nat × Nat) × NS
 |0,b=>([],b)
 |k+1,b=>if b.much then ([],b) else ((g b).1::(times g k (g b).2).1,(times g k (g b).2).2)
def around (n:Nd)(p:NS->List (Nat × Nat) × NS)(b:NS):(Nat × Nat) × NS:=
 if b.much then ((0,0),b) else
 let s:=b.state
 let l:=p s.2
 let e:=l.2.state
 ((s.1,e.1),if e.2.much then e.2 else e.2.lead s.1 e.1 l.1 n)
def joined (p:NS->List (Nat × Nat) × NS)(b:NS):(Nat × Nat) × NS:=
 if b.much then ((0,0),b) else
 let l:=p b
 if l.2.much then ((0,0),l.2) else (((hd l.1).1,(l.1.getLastD (0,0)).2),l.2.frees (joinE l.1))
mutual
def part:Nd->NS->(Nat × Nat) × NS
 |.join l=>joined (parts l)
 |.uni l=>around (.uni l) (parts l)
 |.star n=>around (.star n) (times (part n) 1)
 |.plus n=>around (.plus n) (times (part n) 1)
 |.opt n=>around (.opt n) (times (part n) 1)
 |.rep lo hi n=>around (.rep lo hi n) (times (part n) hi)
 |.set k=>around (.set k) (λb=>([],b))
 |.eps=>around .eps (λb=>([],b))
 |.emp=>around .emp (λb=>([],b))
def parts:List Nd->NS->List (Nat × Nat) × NS
 |[],b=>([],b)
 |n::l,b=>if b.much then ([],b) else ((part n b).1::(parts l (part n b).2).1,(parts l (part n b).2).2)
end
end NS
structure NF where
 n:Nat
 s:Nat
 e:Nat
 st:List (Nat × Nat × Nat)
 fr:List (Nat × Nat)
def nfaF (n:Nd):Option NF:=
 let r:=NS.part n NS.new
 if r.2.much then none else some ⟨r.2.n,r.1.1,r.1.2,r.2.st,r.2.fr⟩
def RtN:Nd->Prop
 |.set s=>1<=s/\s<=31
 |.emp|.eps=>True
 |.join l=>2<=l.length
 |.uni l=>2<=l.length
 |.star _|.plus _|.opt _=>True
 |.rep a b _=>a<=b/\b<=9
inductive Gd:Nd->Prop
 |mk {n:Nd}:RtN n->(∀c∈n.kids,Gd c)->Gd n
theorem Gd.rt (g:Gd n):RtN n:=by cases g; assumption
theorem Gd.kid (g:Gd n):∀c∈n.kids,Gd c:=by cases g; assumption
end Go.Gm
namespace Go.Gm
structure Sz (b b':NS) (k:Nat):Prop where
 n:b.n<=b'.n
 fr:b'.fr.length+k<=b.fr.length+2*(b'.n-b.n)
 st:b'.st.length<=b.st.length+(b'.n-b.n)
 top:b.n<=1000->b'.n<=1000
theorem Sz.refl (b:NS):Sz b b 0:=⟨Nat.le_refl _,oM,oM,id⟩
theorem Sz.trans (x:Sz a b k)(y:Sz b c l):Sz a c (k+l):=by
 have:=x.n; have:=x.fr; have:=x.st; have:=y.n; have:=y.fr; have:=y.st
 exact ⟨oM,oM,oM,λz=>y.top (x.top z)⟩
theorem Sz.le {k l:Nat}(x:Sz b b' k)(h:l<=k):Sz b b' l:=⟨x.n,by have:=x.fr; omega,x.st,x.top⟩
theorem b1w (b:NS):Sz b b.state.2 0/\(b.state.2.much=false->b.state.2.n=b.n+1/\b.state.2.fr=b.fr/\b.state.2.st=b.st):=by
 rw[NS.state]
 by_cases h:1000<=b.n
 ·rw[if_pos h]; exact ⟨⟨Nat.le_refl _,by simp,by simp,id⟩,λz=>by cases z⟩
 ·rw[if_neg h]; exact ⟨⟨by simp,by simp,by simp,λ_=>by simp; omega⟩,λ_=>⟨rfl,rfl,rfl⟩⟩
def SzP (p:NS->List (Nat × Nat) × NS)(m:Nat):Prop:=∀b,Sz b (p b).2 0/\(p b).1.length<=m/\((p b).2.much=false->Sz b (p b).2 (2*(p b).1.length)/\(p b).1.length=m/\b.much=false)
def SzN (n:Nd):Prop:=∀b,Sz b (NS.part n b).2 0/\((NS.part n b).2.much=false->Sz b (NS.part n b).2 2)
theorem b3L:SzP (λb=>([],b)) 0:=λb=>⟨Sz.refl b,Nat.le_refl _,λz=>⟨Sz.refl b,rfl,z⟩⟩
theorem a7r:∀(l:List Nd),(∀c∈l,SzN c)->SzP (NS.parts l) l.length
 |[],_=>λb=>by rw[NS.parts]; exact ⟨Sz.refl b,Nat.le_refl _,λz=>⟨Sz.refl b,rfl,z⟩⟩
 |n::l,h=>λb=>by
  rw[NS.parts]
  by_cases q:b.much=true
  ·rw[if_pos q]; exact ⟨Sz.refl b,by simp,λz=>by rw[q] at z; cases z⟩
  ·rw[if_neg q]
   obtain ⟨h1,h2⟩:=h n (by simp) b
   obtain ⟨h3,h4,h5⟩:=a7r l (λc hc=>h c (List.mem_cons_of_mem _ hc)) (NS.part n b).2
   refine ⟨h1.trans h3,by simp; exact h4,λz=>?_⟩
   have h6:(NS.part n b).2.much=false:=by
    cases hm:(NS.part n b).2.much with
    |false=>rfl
    |true=>
     exfalso
     have e:(NS.parts l (NS.part n b).2).2=(NS.part n b).2:=by cases l<;>simp[NS.parts,hm]
     simp only[e] at z
     rw[hm] at z; cases z
   obtain ⟨h7,h8,_⟩:=h5 z
   exact ⟨((h2 h6).trans h7).le (by simp; omega),by simp[h8],by simpa using q⟩
theorem a7s (h:SzN n):∀k,SzP (NS.times (NS.part n) k) k
 |0=>λb=>by rw[NS.times]; exact ⟨Sz.refl b,Nat.le_refl _,λz=>⟨Sz.refl b,rfl,z⟩⟩
 |k+1=>λb=>by
  rw[NS.times]
  by_cases q:b.much=true
  ·rw[if_pos q]; exact ⟨Sz.refl b,by simp,λz=>by rw[q] at z; cases z⟩
  ·rw[if_neg q]
   obtain ⟨h1,h2⟩:=h b
   obtain ⟨h3,h4,h5⟩:=a7s h k (NS.part n b).2
   refine ⟨h1.trans h3,by simp; exact h4,λz=>?_⟩
   have h6:(NS.part n b).2.much=false:=by
    cases hm:(NS.part n b).2.much with
    |false=>rfl
    |true=>
     exfalso
     have e:(NS.times (NS.part n) k (NS.part n b).2).2=(NS.part n b).2:=by cases k<;>simp[NS.times,hm]
     simp only[e] at z
     rw[hm] at z; cases z
   obtain ⟨h7,h8,_⟩:=h5 z
   exact ⟨((h2 h6).trans h7).le (by simp; omega),by simp[h8],by simpa using q⟩
theorem b3M (lo e:Nat):∀(l:List (Nat × Nat)) (i:Nat),(NS.repE lo e i l).length<=2*l.length
 |[],i=>by simp[NS.repE]
 |[f],i=>by simp[NS.repE]
 |f::g::l,i=>by
  have:=b3M lo e (g::l) (i+1)
  simp only[NS.repE,List.length_append,List.length_cons] at this ⊢
  split<;>simp<;>omega
theorem b5n:∀(l:List (Nat × Nat)),(NS.joinE l).length<=l.length-1
 |[]=>by simp[NS.joinE]
 |[f]=>by simp[NS.joinE]
 |f::g::l=>by
  have:=b5n (g::l)
  simp only[NS.joinE,List.length_cons] at this ⊢
  omega
theorem b3N (s e:Nat):∀(l:List (Nat × Nat)),(NS.uniE s e l).length=2*l.length
 |[]=>rfl
 |f::l=>by
  have:=b3N s e l
  simp only[NS.uniE,List.flatMap_cons,List.length_append,List.length_cons,List.length_nil] at this ⊢
  omega
def isK:Nd->Bool
 |.star _|.plus _|.opt _=>true
 |_=>false
theorem c2D (b:NS)(s e:Nat)(l:List (Nat × Nat))(n:Nd):((isK n=true->1<=l.length)->(b.lead s e l n).fr.length<=b.fr.length+2*l.length+2)/\(b.lead s e l n).st.length<=b.st.length+1:=by
 have:=b3N s e l
 cases n with
 |rep lo hi c=>
  have:=b3M lo e l 0
  simp only[NS.lead,NS.frees,List.length_append]
  refine ⟨λ_=>?_,oM⟩
  split<;>split<;>simp<;>omega
 |uni l'=>simp only[NS.lead,NS.frees,List.length_append]; exact ⟨λ_=>oM,oM⟩
 |star c=>simp[NS.lead,NS.frees,isK]; omega
 |plus c=>simp[NS.lead,NS.frees,isK]; omega
 |opt c=>simp[NS.lead,NS.frees,isK]; omega
 |set k=>simp[NS.lead,NS.step]; omega
 |emp=>simp[NS.lead]; omega
 |eps=>simp[NS.lead,NS.frees]; omega
 |join l'=>simp[NS.lead]; omega
theorem a1A (hp:SzP p m)(hm:isK n=true->1<=m)(b:NS):Sz b (NS.around n p b).2 0/\((NS.around n p b).2.much=false->Sz b (NS.around n p b).2 2):=by
 simp only[NS.around]
 by_cases q:b.much=true
 ·rw[if_pos q]; exact ⟨Sz.refl b,λz=>by rw[q] at z; cases z⟩
 rw[if_neg q]
 simp only
 obtain ⟨s1,s2⟩:=b1w b
 obtain ⟨p1,p2,p3⟩:=hp b.state.2
 obtain ⟨e1,e2⟩:=b1w (p b.state.2).2
 have all:=(s1.trans p1).trans e1
 by_cases q2:(p b.state.2).2.state.2.much=true
 ·rw[if_pos q2]; exact ⟨all,λz=>by rw[q2] at z; cases z⟩
 rw[if_neg q2]
 rw[Bool.not_eq_true] at q2
 have m1:(p b.state.2).2.much=false:=by
  cases hm:(p b.state.2).2.much with
  |false=>rfl
  |true=>rw[NS.state] at q2; split at q2<;>simp[hm] at q2
 obtain ⟨x1,x2,x3⟩:=e2 q2
 obtain ⟨sl,sl2,mb⟩:=p3 m1
 have h1:=s1.n; have h2:=s1.fr; have h3:=s1.st
 have h4:=sl.n; have h5:=sl.fr; have h6:=sl.st
 obtain ⟨L1,L2⟩:=c2D (p b.state.2).2.state.2 b.state.1 (p b.state.2).2.state.1 (p b.state.2).1 n
 replace L1:=L1 λz=>by have:=hm z; omega
 have ln:((p b.state.2).2.state.2.lead b.state.1 (p b.state.2).2.state.1 (p b.state.2).1 n).n=(p b.state.2).2.state.2.n:=by cases n<;>rfl
 obtain ⟨y1,y2,y3⟩:=s2 mb
 have key:Sz b ((p b.state.2).2.state.2.lead b.state.1 (p b.state.2).2.state.1 (p b.state.2).1 n) 2:=by
  rw[x2] at L1
  rw[x3] at L2
  rw[y2] at h5
  rw[y3] at h6
  exact ⟨oM,oM,oM,λz=>by rw[ln]; exact all.top z⟩
 exact ⟨key.le oM,λ_=>key⟩
theorem szn (n:Nd):Gd n->SzN n:=by
 refine Nd.ind (p:=λn=>Gd n->SzN n) (λn ih g=>?_) n
 have k:∀c∈n.kids,SzN c:=λc hc=>ih c hc (g.kid c hc)
 cases n with
 |set s=>intro b; rw[NS.part]; exact a1A b3L (λz=>by cases z) b
 |emp=>intro b; rw[NS.part]; exact a1A b3L (λz=>by cases z) b
 |eps=>intro b; rw[NS.part]; exact a1A b3L (λz=>by cases z) b
 |uni l=>intro b; rw[NS.part]; exact a1A (a7r l k) (λz=>by cases z) b
 |star c=>intro b; rw[NS.part]; exact a1A (a7s (k c (by simp[Nd.kids])) 1) (λ_=>Nat.le_refl _) b
 |plus c=>intro b; rw[NS.part]; exact a1A (a7s (k c (by simp[Nd.kids])) 1) (λ_=>Nat.le_refl _) b
 |opt c=>intro b; rw[NS.part]; exact a1A (a7s (k c (by simp[Nd.kids])) 1) (λ_=>Nat.le_refl _) b
 |rep lo hi c=>intro b; rw[NS.part]; exact a1A (a7s (k c (by simp[Nd.kids])) hi) (λz=>by cases z) b
 |join l=>
  intro b
  rw[NS.part]
  simp only[NS.joined]
  by_cases q:b.much=true
  ·rw[if_pos q]; exact ⟨Sz.refl b,λz=>by rw[q] at z; cases z⟩
  rw[if_neg q]
  obtain ⟨p1,p2,p3⟩:=a7r l k b
  by_cases q2:(NS.parts l b).2.much=true
  ·rw[if_pos q2]; exact ⟨p1,λz=>by rw[q2] at z; cases z⟩
  rw[if_neg q2]
  rw[Bool.not_eq_true] at q2
  obtain ⟨sl,sl2,_⟩:=p3 q2
  have hl:2<=l.length:=g.rt
  have:=b5n (NS.parts l b).1
  have h4:=sl.n; have h5:=sl.fr; have h6:=sl.st
  have key:Sz b ((NS.parts l b).2.frees (NS.joinE (NS.parts l b).1)) 2:=⟨h4,by simp only[NS.frees,List.length_append]; omega,h6,sl.top⟩
  exact ⟨key.le oM,λ_=>key⟩
structure NSok (b:NS):Prop where
 n:b.n<=1000
 fr:b.fr.length<=2*b.n
 st:b.st.length<=b.n
theorem NSok.new:NSok NS.new:=⟨by simp[NS.new],by simp[NS.new],by simp[NS.new]⟩
theorem NSok.sz (o:NSok b)(s:Sz b b' k):NSok b':=by
 have:=o.fr; have:=o.st; have:=s.n; have:=s.fr; have:=s.st
 exact ⟨s.top o.n,oM,oM⟩
end Go.Gm
