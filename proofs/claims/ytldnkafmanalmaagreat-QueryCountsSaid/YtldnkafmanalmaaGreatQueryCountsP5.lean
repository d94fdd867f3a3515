/- A part of the proof (GmAZB, GmAZC, GmAZD, GmAZE, GmE, GmN, GmAZna, GmNf, GmNz, GmAZnf, GmAZnp, GmAZnq, GmAZnr, GmAZns). -/
import Derived.Test.YtldnkafmanalmaaGreatQueryCountsP4
set_option autoImplicit true
set_option relaxedAutoImplicit true
set_option linter.unusedVariables false
set_option linter.unusedSimpArgs false
set_option linter.unusedSectionVars false
namespace Go.Gm.AZ
open Go Go.Gm
section
variable {W:Nat->Prop} {oq:Nat} {N:Nat} {M:List (Option Int)}
theorem QS.len (q:QS W h oq xs at'):xs.length<=10000000:=by
 obtain ⟨s1,s2,o1,o2,q⟩:=q; exact q.len
theorem swapR (q:QS W h oq xs at')(r:Rep N xs at' M){i j:Int}(i0:0<=i)(i1:i<xs.length)(j0:0<=j)(j1:j<xs.length) :
  Tot tab a0S [.ptr oq 0 2 0,I i,I j] h λ_ h'=>∃at2,QS W h' oq (sw xs i j) at2/\Rep N (sw xs i j) at2 M/\FrS W h h':=by
 have ai:=r.a i i0 i1
 have aj:=r.a j j0 j1
 have la:=r.la
 exact (b9r q i0 i1 j0 j1 ⟨ai.1,oM⟩ ⟨aj.1,oM⟩).mono λ_ h' ⟨a,b⟩=>⟨_,a,r.swap i0 i1 j0 j1,b⟩
theorem c2F {L:Nat}:∀(d:Nat) (j:Int) (h:Heap) (xs:List (Int × Int)) (at':List Int),j<=d->0<=j->j<L->xs.length=L->QS W h oq xs at'->Rep N xs at' M->UpI L xs j->FrS W h0 h->
  WP (λp:Nat × Nat=>a0s p.1 p.2 (.ifc tyHp (.ptr oq 0 2 0)) (I j) h) λ_ h'=>∃xs2 at2,QS W h' oq xs2 at2/\Rep N xs2 at2 M/\Hp L xs2/\xs2.length=L/\FrS W h0 h':=by
 intro d
 induction d with
 |zero=>
  intro j h xs at' hd j0 j1 hl q r u fr
  refine WP.rnd (a4F · · ..) ?_
  obtain rfl:j=0:=oM
  have hw:IntKind.i64.wrap (((0:Int)-1).tdiv 2)=0:=by decide
  refine g1 @hw ?_
  exact WP.ret ⟨xs,at',q,r,u.done (.inl rfl),hl,fr⟩
 |succ d ih=>
  intro j h xs at' hd j0 j1 hl q r u fr
  refine WP.rnd (a4F · · ..) ?_
  by_cases hj:j=0
  ·subst hj
   have hw:IntKind.i64.wrap (((0:Int)-1).tdiv 2)=0:=by decide
   refine g1 @hw ?_
   exact WP.ret ⟨xs,at',q,r,u.done (.inl rfl),hl,fr⟩
  ·have hlen:=q.len
   have hp:=w7_ (i:=j) oM
   have hw:IntKind.i64.wrap ((j-1).tdiv 2)=par j:=by
    rw[Int.tdiv_eq_ediv_of_nonneg oM]
    exact d6_ oM oM
   refine g2 @hw @a0A ?_
   refine WP.call (a7a q j0 oM hp.1 oM) ?_
   rintro _ h1 ⟨rfl,e1⟩
   have fr1:=fr.trans (FrS.ofExt (D:=W) e1)
   by_cases hlt:ltI (gi xs j) (gi xs (par j))
   ·refine g2 (decide_eq_true hlt) @a5o ?_
    refine WP.call (swapR (q.ext e1) r hp.1 oM j0 oM) ?_
    rintro _ h2 ⟨at2,q2,r2,f2⟩
    exact ih (par j) h2 (sw xs (par j) j) at2 oM hp.1 oM (by rw[a7x]; exact hl) q2 r2 (u.swap oM j1 oM hlt) (fr1.trans f2)
   ·refine g1 (decide_eq_false hlt) ?_
    exact WP.ret ⟨xs,at',q.ext e1,r,u.done (.inr hlt),hl,fr1⟩
theorem b7J {xs:List (Int × Int)}{j:Int}(j0:0<=j)(j1:j<xs.length)(q:QS W h oq xs at')(r:Rep N xs at' M)(u:UpI xs.length xs j) :
  Tot tab w6_ [.ifc tyHp (.ptr oq 0 2 0),I j] h λ_ h'=>∃xs2 at2,QS W h' oq xs2 at2/\Rep N xs2 at2 M/\Hp xs.length xs2/\xs2.length=xs.length/\FrS W h h':=
 WP.tot (b1l · ..) (WP.ent (c2F j.toNat j h xs at' oM j0 j1 rfl q r u (FrS.refl _ _)) λi=>rfl)
theorem b9u {L n:Nat}{rt:Int × Int}(hn:n<=L):∀(d:Nat) (i:Int) (h:Heap) (xs:List (Int × Int)) (at':List Int),(n:Int)-i<=d->0<=i->i<=n->xs.length=L->QS W h oq xs at'->Rep N xs at' M->DnI n xs i->(∀p:Int,n<=p->p<L->gi xs p=rt)->FrS W h0 h->
  WP (λp:Nat × Nat=>p5_ p.1 p.2 (.ifc tyHp (.ptr oq 0 2 0)) (I i0) (I n) (I i) h) λr h'=>(∃b,r=.bool b)/\∃xs2 at2,QS W h' oq xs2 at2/\Rep N xs2 at2 M/\Hp n xs2/\xs2.length=L/\(∀p:Int,n<=p->p<L->gi xs2 p=rt)/\FrS W h0 h':=by
 have fin:∀(i:Int) (h:Heap) (xs:List (Int × Int)) (at':List Int),xs.length=L->QS W h oq xs at'->Rep N xs at' M->Hp n xs->(∀p:Int,n<=p->p<L->gi xs p=rt)->FrS W h0 h->
   WP (λk:Nat=>p6_ k (I i0) (I i) h) λr h'=>(∃b,r=.bool b)/\∃xs2 at2,QS W h' oq xs2 at2/\Rep N xs2 at2 M/\Hp n xs2/\xs2.length=L/\(∀p:Int,n<=p->p<L->gi xs2 p=rt)/\FrS W h0 h':=by
  intro i h xs at' hl q r hp hrt fr
  refine WP.congr (a3I · ..) ?_
  refine WP.oa (b4R _ _) ?_
  exact WP.ret ⟨⟨_,rfl⟩,xs,at',q,r,hp,hl,hrt,fr⟩
 intro d
 induction d with
 |zero=>
  intro i h xs at' hd hi0 hin hl q r u hrt fr
  refine WP.rnd (a0t · · ..) ?_
  have hlen:=q.len
  have hw:IntKind.i64.wrap (2*i)=2*i:=d6_ oM oM
  refine g1 @hw ?_
  exact WP.lv (fin i h xs at' hl q r (u.done λc c0 c1 hc=>by unfold par at hc; omega) hrt fr) λi j=>rfl
 |succ d ih=>
  intro i h xs at' hd hi0 hin hl q r u hrt fr
  refine WP.rnd (a0t · · ..) ?_
  have hlen:=q.len
  have hw:IntKind.i64.wrap (2*i)=2*i:=d6_ oM oM
  by_cases hc1:2*i+1<n
  ·
   have part:∀(j:Int) (h:Heap),par j=i->0<j->j<n->(∀c:Int,0<c->c<n->par c=i->¬ltI (gi xs c) (gi xs j))->QS W h oq xs at'->FrS W h0 h->
     WP (λp:Nat × Nat=>p7_ p.1 p.2 (.ifc tyHp (.ptr oq 0 2 0)) (I i0) (I n) (I i) (I j) h) λr h'=>(∃b,r=.bool b)/\∃xs2 at2,QS W h' oq xs2 at2/\Rep N xs2 at2 M/\Hp n xs2/\xs2.length=L/\(∀p:Int,n<=p->p<L->gi xs2 p=rt)/\FrS W h0 h':=by
    intro j h hj j0 j1 hs q fr
    have hpj:=w7_ j0
    refine WP.congr (λp=>a3J p.1 p.2 ..) ?_
    refine g1 @a0A ?_
    refine WP.call (a7a q (i:=j) (j:=i) oM oM hi0 oM) ?_
    rintro _ h1 ⟨rfl,e1⟩
    have fr1:=fr.trans (FrS.ofExt (D:=W) e1)
    by_cases hlt:ltI (gi xs j) (gi xs i)
    ·refine g2 (decide_eq_true hlt) @a5o ?_
     refine WP.call (swapR (q.ext e1) r hi0 oM oM oM) ?_
     rintro _ h2 ⟨at2,q2,r2,f2⟩
     refine ih j h2 (sw xs i j) at2 oM oM oM (by rw[a7x]; exact hl) q2 r2 (u.swap hi0 hj j0 j1 oM hlt hs) (λp p0 p1=>?_) (fr1.trans f2)
     rw[gi_sw hi0 oM oM oM oM,if_neg oM,if_neg oM]
     exact hrt p p0 p1
    ·refine g1 (decide_eq_false hlt) ?_
     refine WP.lv (fin i h1 xs at' hl (q.ext e1) r (u.done λc c0 c1 hc=>?_) hrt fr1) λi j=>rfl
     have:=hs c c0 c1 hc
     unfold ltI at *; omega
   have hpar:∀c,par c=i->c=2*i+1\/c=2*i+1+1:=λc hc=>by unfold par at hc; omega
   by_cases hc2:2*i+1+1<n
   ·refine g2 @hw @a0A ?_
    refine WP.call (a7a q (i:=2*i+1+1) (j:=2*i+1) oM oM oM oM) ?_
    rintro _ h1 ⟨rfl,e1⟩
    have fr1:=fr.trans (FrS.ofExt (D:=W) e1)
    by_cases hlt:ltI (gi xs (2*i+1+1)) (gi xs (2*i+1))
    ·refine g1 (decide_eq_true hlt) ?_
     refine part (2*i+1+1) h1 (by unfold par; omega) oM hc2 (λc c0 c1 hc=>?_) (q.ext e1) fr1
     rcases hpar c hc with rfl|rfl<;>(unfold ltI at *; omega)
    ·refine g1 (decide_eq_false hlt) ?_
     refine part (2*i+1) h1 (by unfold par; omega) oM hc1 (λc c0 c1 hc=>?_) (q.ext e1) fr1
     rcases hpar c hc with rfl|rfl<;>(unfold ltI at *; omega)
   ·refine g1 @hw ?_
    refine part (2*i+1) h (by unfold par; omega) oM hc1 (λc c0 c1 hc=>?_) q fr
    rcases hpar c hc with rfl|rfl
    ·unfold ltI; omega
    ·omega
  ·refine g1 @hw ?_
   exact WP.lv (fin i h xs at' hl q r (u.done λc c0 c1 hc=>by unfold par at hc; omega) hrt fr) λi j=>rfl
theorem b9v {xs:List (Int × Int)}{n:Nat}{i:Int}{rt:Int × Int}(hn:n<=xs.length)(i0:0<=i)(i1:i<=n)(q:QS W h oq xs at')(r:Rep N xs at' M)(u:DnI n xs i)(hrt:∀p:Int,n<=p->p<xs.length->gi xs p=rt) :
  Tot tab f5_ [.ifc tyHp (.ptr oq 0 2 0),I i,I n] h λr h'=>(∃b,r=.bool b)/\∃xs2 at2,QS W h' oq xs2 at2/\Rep N xs2 at2 M/\Hp n xs2/\xs2.length=xs.length/\(∀p:Int,n<=p->p<xs.length->gi xs2 p=rt)/\FrS W h h':=
 WP.tot (a4S · ..) (WP.ent (b9u hn ((n:Int)-i).toNat i h xs at' oM i0 i1 rfl q r u hrt (FrS.refl _ _)) λi=>rfl)
theorem b9w {xs:List (Int × Int)}{i:Int}(i0:0<=i)(i1:i<xs.length)(q:QS W h oq xs at')(hc:∀c,0<c->c<(xs.length:Int)->par c=i->¬ltI (gi xs c) (gi xs i)) :
  Tot tab f5_ [.ifc tyHp (.ptr oq 0 2 0),I i,I xs.length] h λr h'=>r=.bool false/\Ext h h':=by
 refine WP.tot (a4S · ..) ?_
 have hlen:=q.len
 have hw:IntKind.i64.wrap (2*i)=2*i:=d6_ oM oM
 refine WP.ent (c2:=λp=>p5_ p.1 p.2 (.ifc tyHp (.ptr oq 0 2 0)) (I i) (I xs.length) (I i) h) ?_ λi=>rfl
 refine WP.rnd (a0t · · ..) ?_
 have fin:∀h',Ext h h'->WP (λk:Nat=>p6_ k (I i) (I i) h') λr h'=>r=.bool false/\Ext h h':=by
  intro h' e
  refine WP.congr (a3I · ..) ?_
  refine g0 ?_
  exact WP.ret ⟨rfl,e⟩
 by_cases hc1:2*i+1<xs.length
 ·have part:∀(j:Int) (h':Heap),par j=i->0<j->j<xs.length->Ext h h'->
    WP (λp:Nat × Nat=>p7_ p.1 p.2 (.ifc tyHp (.ptr oq 0 2 0)) (I i) (I xs.length) (I i) (I j) h') λr h'=>r=.bool false/\Ext h h':=by
   intro j h' hj j0 j1 e
   refine WP.congr (λp=>a3J p.1 p.2 ..) ?_
   refine g1 @a0A ?_
   refine WP.call (a7a (q.ext e) (i:=j) (j:=i) oM oM i0 oM) ?_
   rintro _ h1 ⟨rfl,e1⟩
   refine g1 (decide_eq_false (hc j j0 j1 hj)) ?_
   exact WP.lv (fin h1 (e.trans e1)) λi j=>rfl
  by_cases hc2:2*i+1+1<xs.length
  ·refine g2 @hw @a0A ?_
   refine WP.call (a7a q (i:=2*i+1+1) (j:=2*i+1) oM oM oM oM) ?_
   rintro _ h1 ⟨rfl,e1⟩
   by_cases hlt:ltI (gi xs (2*i+1+1)) (gi xs (2*i+1))
   ·refine g1 (decide_eq_true hlt) ?_
    exact part (2*i+1+1) h1 (by unfold par; omega) oM hc2 e1
   ·refine g1 (decide_eq_false hlt) ?_
    exact part (2*i+1) h1 (by unfold par; omega) oM hc1 e1
  ·refine g1 @hw ?_
   exact part (2*i+1) h (by unfold par; omega) oM hc1 (Ext.refl _)
 ·refine g1 @hw ?_
  exact WP.lv (fin h (Ext.refl _)) λi j=>rfl
end
end Go.Gm.AZ
namespace Go.Gm.AZ
open Go Go.Gm
def cnt (M:List (Option Int)):Nat:=M.countP (·.isSome)
theorem b9B (M:List (Option Int)):cnt M<=M.length:=List.countP_le_length
theorem b4w {M:List (Option Int)}{i:Int}(h0:0<=i)(h1:i<M.length)(x:Option Int):cnt (M.set i.toNat x)+(if (gi M i).isSome then 1 else 0)=cnt M+(if x.isSome then 1 else 0):=by
 have hi:i.toNat<M.length:=oM
 have hx:M[i.toNat]=gi M i:=by
  have:=c1_ h0 h1
  rw[List.getElem?_eq_getElem hi] at this
  injection this
 have h2:=List.countP_set (p:=λy:Option Int=>y.isSome) (a:=x) hi
 rw[hx] at h2
 have h3:(gi M i).isSome=true->0<cnt M:=λq=>List.countP_pos_iff.2 ⟨gi M i,b7_ h0 h1,q⟩
 unfold cnt at *
 rw[h2]
 by_cases h4:(gi M i).isSome=true
 ·have:=h3 h4
  simp only[h4,if_true]
  omega
 ·simp only[if_neg h4]
  omega
def putM (N:Nat)(M:List (Option Int))(id key:Int):List (Option Int) × Bool:=
 if 0<=id/\id<N then match gi M id with
  |none=>(M.set id.toNat (some key),true)
  |some k=>if k<=key then (M,false) else (M.set id.toNat (some key),true)
 else (M,false)
structure IsMin (N:Nat) (M:List (Option Int)) (id key:Int):Prop where
 i0:0<=id
 i1:id<N
 k:gi M id=some key
 m:∀id' k':Int,0<=id'->id'<N->gi M id'=some k'->¬ltI (id',k') (id,key)
theorem IsMin.uniq (h:IsMin N M a b)(k:IsMin N M c d):a=c/\b=d:=by
 have h1:=h.m c d k.i0 k.i1 k.k
 have h2:=k.m a b h.i0 h.i1 h.k
 simp only[ltI] at h1 h2
 omega
def QV (W:Nat->Prop)(h:Heap)(q:AV)(N:Nat)(M:List (Option Int)):Prop:=
 ∃oq xs at',q=.ptr oq 0 2 0/\QS W h oq xs at'/\Rep N xs at' M/\Hp xs.length xs/\xs.length=cnt M
section
variable {W:Nat->Prop} {h h':Heap} {q:AV} {N:Nat} {M:List (Option Int)}
theorem QV.ext (v:QV W h q N M)(e:Ext h h'):QV W h' q N M:=let ⟨oq,xs,a,h1,h2,h3⟩:=v; ⟨oq,xs,a,h1,h2.ext e,h3⟩
theorem QV.mono {W':Nat->Prop}(v:QV W h q N M)(hw:∀o,o<h.length->W o->W' o):QV W' h q N M:=let ⟨oq,xs,a,h1,h2,h3⟩:=v; ⟨oq,xs,a,h1,h2.mono hw,h3⟩
theorem QV.frs (v:QV W h q N M)(f:FrS D h h')(hd:∀o,o<h.length->W o->¬D o):QV W h' q N M:=let ⟨oq,xs,a,h1,h2,h3⟩:=v; ⟨oq,xs,a,h1,h2.frs f hd,h3⟩
theorem QV.lm (v:QV W h q N M):M.length=N:=let ⟨oq,xs,a,h1,h2,h3,_⟩:=v; h3.lm
theorem b1P (oq:Nat)(h:Heap):Tot tab r6_ [.ptr oq 0 2 0] h λr h'=>r=.ifc tyHp (.ptr oq 0 2 0)/\h=h':=by
 refine WP.tot (b1K · ..) ?_
 refine g0 ?_
 exact WP.ret ⟨rfl,rfl⟩
theorem b8K (qs:QS W h oq xs at')(r:Rep N xs at' M)(hp:Hp xs.length xs){id key:Int}(h0:0<=id)(h1:id<N)(hn:gi at' id = -1)(hlen:xs.length+1<=10000000) :
  Tot tab a0i [.ifc tyHp (.ptr oq 0 2 0),.ifc tyIt (.agg (encIt (id,key)))] h λ_ h'=>∃xs2 at2,QS (λo=>W o\/h.length<=o) h' oq xs2 at2/\Rep N xs2 at2 (M.set id.toNat (some key))/\Hp xs2.length xs2/\xs2.length=xs.length+1/\FrS W h h':=by
 refine WP.tot (b0i · ..) ?_
 have la:=r.la
 refine g1 @b4T ?_
 refine WP.call (b9s qs h0 oM hlen) ?_
 rintro _ h2 ⟨q2,f2⟩
 refine g1 @a6v ?_
 refine WP.call (a8G q2) ?_
 rintro _ _ ⟨rfl,rfl⟩
 have hl:(xs++[(id,key)]).length=xs.length+1:=by simp
 have r2:=r.push (key:=key) h0 h1 hn
 have hj:((xs++[(id,key)]).length:Int)-1=xs.length:=oM
 simp only[hl] at hj ⊢
 refine g1 @hj ?_
 refine WP.call (b7J (j:=xs.length) oM oM q2 r2 (by rw[hl]; exact hp.push rfl _)) ?_
 rintro _ h3 ⟨xs2,at2,q3,r3,hp3,hl3,f3⟩
 rw[hl] at hl3 hp3
 refine WP.ret ⟨xs2,at2,q3,r3,by rw[hl3]; exact hp3,hl3,⟨by have:=f2.len; have:=f3.len; omega,λo k1 k2=>?_⟩⟩
 have:=f2.len
 rw[f3.get (λz=>by rcases z with z|z; exact k1 z; omega) oM,f2.get k1 k2]
theorem b9E {n:Nat}(qs:QS W h oq xs at')(r:Rep N xs at' M)(hp:Hp xs.length xs)(hn:xs.length=n+1) :
  Tot tab a2J [.ifc tyHp (.ptr oq 0 2 0)] h λv h'=>v=.ifc tyIt (.agg (encIt (gi xs 0)))/\∃xs2 at2,QS W h' oq xs2 at2/\Rep N xs2 at2 (M.set (gi xs 0).1.toNat none)/\Hp xs2.length xs2/\xs2.length=n/\FrS W h h':=by
 refine WP.tot (b0I · ..) ?_
 have hlen:=qs.len
 refine g1 @a6v ?_
 refine WP.call (a8G qs) ?_
 rintro _ _ ⟨rfl,rfl⟩
 have hj:(xs.length:Int)-1=n:=oM
 refine g2 @hj @a5o ?_
 refine WP.call (swapR qs r (i:=0) (j:=(n:Int)) oM oM oM oM) ?_
 rintro _ h2 ⟨at2,q2,r2,f2⟩
 rw[hn] at hp
 refine WP.call (b9v (n:=n) (i:=0) (rt:=gi xs 0) (by rw[a7x]; omega) oM oM q2 r2 (hp.begin hn) (λp p0 p1=>?_)) ?_
 ·rw[a7x] at p1
  rw[gi_sw oM oM oM oM oM,if_pos oM]
 rintro _ h3 ⟨⟨b,rfl⟩,xs3,at3,q3,r3,hp3,hl3,hr3,f3⟩
 rw[a7x] at hl3 hr3
 have hr3n:=hr3 n (Int.le_refl _) oM
 have an:=r3.a n oM oM
 have la3:=r3.la
 refine g1 @b5Q ?_
 refine WP.call (b9t q3 (n:=n) oM ⟨an.1,oM⟩) ?_
 rintro _ h4 ⟨rfl,q4,f4⟩
 have r4:=r3.pop (n:=n) oM
 rw[hr3n] at q4 r4 ⊢
 have hl4:(xs3.take n).length=n:=by simp; omega
 refine WP.ret ⟨rfl,xs3.take n,_,q4,r4,?_,hl4,(f2.trans f3).trans f4⟩
 rw[hl4]
 intro i i0 i1
 have:=w7_ i0
 rw[b1x oM oM,b1x oM oM]
 exact hp3 i i0 i1
theorem b9F {i:Int}(qs:QS W h oq xs at')(r:Rep N xs at' M)(i0:0<=i)(i1:i<xs.length)(u:UpI xs.length xs i)(hc:∀c,0<c->c<(xs.length:Int)->par c=i->¬ltI (gi xs c) (gi xs i)) :
  Tot tab a0y [.ifc tyHp (.ptr oq 0 2 0),I i] h λv h'=>∃xs2 at2,QS W h' oq xs2 at2/\Rep N xs2 at2 M/\Hp xs2.length xs2/\xs2.length=xs.length/\FrS W h h':=by
 refine WP.tot (b0G · ..) ?_
 refine g1 @a6v ?_
 refine WP.call (a8G qs) ?_
 rintro _ _ ⟨rfl,rfl⟩
 refine WP.call (b9w i0 i1 qs hc) ?_
 rintro _ h2 ⟨rfl,e2⟩
 refine g0 ?_
 refine WP.call (b7J i0 i1 (qs.ext e2) r u) ?_
 rintro _ h3 ⟨xs3,at3,q3,r3,hp3,hl3,f3⟩
 exact WP.ret ⟨xs3,at3,q3,r3,by rw[hl3]; exact hp3,hl3,(FrS.ofExt e2).trans f3⟩
theorem b9G (v:QV W h q N M)(hN:N≤1000000)(id key:Int):Tot tab n9_ [q,I id,I key] h λr h'=>r=.bool (putM N M id key).2∧QV (λo=>W o∨h.length≤o) h' q N (putM N M id key).1∧FrS W h h':=by
 have vv:=v
 obtain ⟨oq,xs,a,rfl,qs,r,hp,hc⟩:=v
 refine WP.tot (b1V · ..) ?_
 have la:=r.la
 have lm:=r.lm
 have hcl:=b9B M
 have hmono:∀o,o<h.length→W o→W o∨h.length≤o:=λo _ z=>.inl z
 by_cases h0:0≤id
 ·by_cases h1:id<N
  ·have hif:0≤id∧id<(N:Int):=⟨h0,h1⟩
   have hgo:WP (λk:Nat=>ob (evalFn tab k r6_ [.ptr oq 0 2 0] h) λt22_19 h_20=>
     ob (callMeth tab (evalFn tab k) "milestone/queue.place" t22_19 [I id] h_20) λt25_21 h_22=>
     oa (binV .lss .scalar t25_21 (I 0)) λt27_23=>
     cond2 t27_23
      (oa (buildV [I 0,I 0] [(0,1,I id),(1,1,I key)]) λt31_24=>
       ob (evalFn tab k a0i [t22_19,(.ifc tyIt t31_24)] h_22) λt33_25 h_26=>some ((.bool true),h_26))
      (oa (nilCk (.ptr oq 0 2 0)) λt35_27=>oa (fldA 0 t35_27) λt36_28=>oa (fldA 0 t36_28) λt37_29=>oa (ld1 h_22 t37_29) λt38_30=>oa (idxS 2 t38_30 t25_21) λt40_31=>oa (fldA 1 t40_31) λt41_32=>oa (ld1 h_22 t41_32) λt42_33=>
       oa (binV .leq .scalar t42_33 (I key)) λt44_34=>
       cond2 t44_34 (some ((.bool false),h_22))
        (oa (nilCk (.ptr oq 0 2 0)) λt46_35=>oa (fldA 0 t46_35) λt47_36=>oa (fldA 0 t47_36) λt48_37=>oa (ld1 h_22 t48_37) λt49_38=>oa (idxS 2 t49_38 t25_21) λt52_39=>oa (fldA 1 t52_39) λt53_40=>
         oh (stN 1 h_22 t53_40 (I key)) λh_41=>ob (evalFn tab k a0y [t22_19,t25_21] h_41) λt56_42 h_43=>some ((.bool true),h_43))))
     λr h'=>r=.bool (putM N M id key).2∧QV (λo=>W o∨h.length≤o) h' (.ptr oq 0 2 0) N (putM N M id key).1∧FrS W h h':=by
    refine WP.call (b1P oq h) ?_
    rintro _ _ ⟨rfl,rfl⟩
    refine g1 @a7Y ?_
    refine WP.call (b3S qs id) ?_
    rintro _ _ ⟨rfl,rfl⟩
    rw[if_pos oM]
    rcases r.b id h0 h1 with ⟨k1,k2⟩|⟨k1,k2,k3,k4⟩
    ·have hpm:putM N M id key=(M.set id.toNat (some key),true):=by simp only[putM,if_pos hif,k2]
     have hcs:=b4w (M:=M) (i:=id) h0 oM (some key)
     rw[k2] at hcs
     simp at hcs
     rw[hpm,k1]
     refine g0 ?_
     refine WP.call (b8K qs r hp (key:=key) h0 h1 k1 oM) ?_
     rintro _ h3 ⟨xs3,at3,q3,r3,hp3,hl3,f3⟩
     exact WP.ret ⟨rfl,⟨oq,xs3,at3,rfl,q3,r3,hp3,oM⟩,f3⟩
    ·obtain ⟨s1,s2,o1,o2,qw⟩:=qs
     by_cases hle:(gi xs (gi a id)).2≤key
     ·have hpm:putM N M id key=(M,false):=by simp only[putM,if_pos hif,k4,if_pos hle]
      rw[hpm]
      refine g4 qw.row qw.g1.sl.idxG qw.g1.sl.ldf @encIt.eq_1 ?_
      exact WP.ret ⟨rfl,vv.mono hmono,FrS.refl _ _⟩
     ·have hpm:putM N M id key=(M.set id.toNat (some key),true):=by simp only[putM,if_pos hif,k4,if_neg hle]
      have hcs:=b4w (M:=M) (i:=id) h0 oM (some key)
      rw[k4] at hcs
      simp at hcs
      rw[hpm]
      have hn:s1≠.nils:=qw.g1.nnil (by intro hx; rw[List.map_eq_nil_iff] at hx; rw[hx] at k2; simp at k2; omega)
      obtain ⟨w1,d1,d12,l1⟩:=qw.n1 hn
      have hq:=(List.getElem?_eq_some_iff.1 qw.row).1
      obtain ⟨hA,m1,m2,m3,m4⟩:=qw.g1.write (i:=gi a id) k1 (x:=encIt (gi xs (gi a id))) (by simp[c1_ k1 k2]) 1 1 (v:=I key) rfl oM rfl
      have hset:(xs.map encIt).set (gi a id).toNat (setAll (encIt (gi xs (gi a id))) 1 (I key).cells)=(xs.set (gi a id).toNat (id,key)).map encIt:=by
       rw[List.map_set]
       congr 1
       simp only[encIt,a1C,setAll,List.set_cons_succ,List.set_cons_zero,k3]
      rw[hset] at m2
      have d2:=qw.d2
      have l2:=qw.l2
      have qA:QS W hA oq (xs.set (gi a id).toNat (id,key)) a:=⟨s1,s2,o1,o2,by rw[m3.get oM hq]; exact qw.row,m2,λ_=>⟨w1,d1,d12,oM⟩,qw.g2.fr m3 oM,qw.w2,qw.d2,oM,qw.wq,by simp; exact qw.len,qw.lat⟩
      have rA:=r.lower (key:=key) h0 h1 k1
      have hlow:=hp.lower (p:=gi a id) (x:=(id,key)) k1 k2 (Int.le_refl _) (by unfold ltI; omega)
      have hls:(xs.set (gi a id).toNat (id,key)).length=xs.length:=by simp
      refine g5 qw.row qw.g1.sl.idxG qw.g1.sl.ldf @encIt.eq_1 @m1 ?_
      refine WP.call (b9F (i:=gi a id) qA rA k1 (by rw[hls]; exact k2) (by rw[hls]; exact hlow.1) (by rw[hls]; exact hlow.2)) ?_
      rintro _ h3 ⟨xs3,at3,q3,r3,hp3,hl3,f3⟩
      refine WP.ret ⟨rfl,QV.mono (W:=W) ⟨oq,xs3,at3,rfl,q3,r3,hp3,oM⟩ (λo _ z=>.inl z),?_⟩
      exact (m3.s.mono λo _ z=>by
       obtain rfl:o=o1:=oM
       exact w1).trans f3
   obtain ⟨s1,s2,o1,o2,qw⟩:=qs
   refine g2 qw.row qw.g2.sl.lenG ?_
   exact hgo
  ·have hpm:putM N M id key=(M,false):=by simp only[putM,if_neg (show ¬(0≤id∧id<(N:Int)) by omega)]
   rw[hpm]
   obtain ⟨s1,s2,o1,o2,qw⟩:=qs
   refine g2 qw.row qw.g2.sl.lenG ?_
   exact WP.ret ⟨rfl,vv.mono hmono,FrS.refl _ _⟩
 ·have hpm:putM N M id key=(M,false):=by simp only[putM,if_neg (show ¬(0≤id∧id<(N:Int)) by omega)]
  rw[hpm]
  refine g0 ?_
  exact WP.ret ⟨rfl,vv.mono hmono,FrS.refl _ _⟩
end
end Go.Gm.AZ
namespace Go.Gm.AZ
open Go Go.Gm
section
variable {W:Nat->Prop} {h h':Heap} {q:AV} {N:Nat} {M:List (Option Int)}
def PopQ (N:Nat)(M:List (Option Int))(r:AV)(M2:List (Option Int)):Prop:=
 (cnt M=0/\r=.tup [I 0,I 0,.bool false]/\M2=M)\/∃id key,IsMin N M id key/\r=.tup [I id,I key,.bool true]/\M2=M.set id.toNat none
theorem b0Y (h:cnt M=0){i:Int}(h0:0<=i)(h1:i<M.length):gi M i=none:=by
 rw[cnt,List.countP_eq_zero] at h
 have:=h _ (b7_ h0 h1)
 cases hx:gi M i with
 |none=>rfl
 |some k=>rw[hx] at this; simp at this
theorem PopQ.uniq (hl:M.length=N)(a:PopQ N M r M2)(b:PopQ N M r2 M3):r=r2/\M2=M3:=by
 rcases a with ⟨a1,rfl,rfl⟩|⟨i,k,a1,rfl,rfl⟩
 ·rcases b with ⟨b1,rfl,rfl⟩|⟨i,k,b1,rfl,rfl⟩
  ·exact ⟨rfl,rfl⟩
  ·have:=b0Y a1 b1.i0 (by have:=b1.i1; omega)
   rw[b1.k] at this; cases this
 ·rcases b with ⟨b1,rfl,rfl⟩|⟨i2,k2,b1,rfl,rfl⟩
  ·have:=b0Y b1 a1.i0 (by have:=a1.i1; omega)
   rw[a1.k] at this; cases this
  ·obtain ⟨rfl,rfl⟩:=a1.uniq b1
   exact ⟨rfl,rfl⟩
theorem b9L (v:QV W h q N M)(hN:N<=1000000):Tot tab a0o [q] h λr h'=>∃M2,PopQ N M r M2/\QV W h' q N M2/\FrS W h h':=by
 have vv:=v
 obtain ⟨oq,xs,a,rfl,qs,r,hp,hc⟩:=v
 refine WP.tot (b1X · ..) ?_
 have hcl:=b9B M
 have lm:=r.lm
 refine g0 ?_
 refine WP.call (a8G qs) ?_
 rintro _ _ ⟨rfl,rfl⟩
 by_cases h0:xs.length=0
 ·refine g0 ?_
  exact WP.ret ⟨M,.inl ⟨oM,rfl,rfl⟩,vv,FrS.refl _ _⟩
 ·obtain ⟨n,hn⟩:∃n,xs.length=n+1:=⟨xs.length-1,oM⟩
  refine g0 ?_
  refine WP.call (b1P oq h) ?_
  rintro _ _ ⟨rfl,rfl⟩
  refine WP.call (b9E qs r hp hn) ?_
  rintro _ h2 ⟨rfl,xs2,at2,q2,r2,hp2,hl2,f2⟩
  have a0:=r.a 0 oM oM
  have hb:gi M (gi xs 0).1=some (gi xs 0).2:=by
   rcases r.b _ a0.1 a0.2.1 with z|z
   ·omega
   ·rw[z.2.2.2,a0.2.2]
  have hcs:=b4w (M:=M) (i:=(gi xs 0).1) a0.1 oM none
  rw[hb] at hcs
  simp at hcs
  refine g4 @a9F @a4_ @a5_ @encIt.eq_1 ?_
  refine WP.ret ⟨_,.inr ⟨(gi xs 0).1,(gi xs 0).2,⟨a0.1,a0.2.1,hb,λid' k' i0 i1 hk=>?_⟩,rfl,rfl⟩,?_,f2.trans (FrS.ofExt eX)⟩
  ·rcases r.b id' i0 i1 with z|⟨z0,z1,z2,z3⟩
   ·rw[z.2] at hk; cases hk
   ·have:=hp.root (gi a id').toNat (gi a id') oM z0 z1
    rw[z3] at hk
    injection hk with hk
    rw[<-z2,<-hk]
    exact this
  ·exact QV.ext ⟨oq,xs2,at2,rfl,q2,r2,hp2,oM⟩ eX
theorem b9M {q1:Nat}{s2:AV}:∀(d n:Nat) (h:Heap) (at':List Int),n+d=at'.length->at'.length<=1000000->(∀i:Int,0<=i->i<n->gi at' i = -1)->h[q1+1]?=some (.cells ⟨[.nils,s2],0,0,false⟩)->Gr q1 (q1+1) h 1 s2 (at'.map encI)->
  WP (λp:Nat × Nat=>a5U p.1 p.2 (.ptr (q1+1) 0 2 0) (I at'.length) (I n) h) λr h'=>r=.ptr (q1+1) 0 2 0/\h'.length=h.length/\FrS (λo=>o=q1) h h'/\∃at2:List Int,at2.length=at'.length/\(∀i:Int,0<=i->i<at2.length->gi at2 i = -1)/\h'[q1+1]?=some (.cells ⟨[.nils,s2],0,0,false⟩)/\Gr q1 (q1+1) h' 1 s2 (at2.map encI):=by
 intro d
 induction d with
 |zero=>
  intro n h at' h1 hl ha row g
  refine WP.rnd (a9L · · ..) ?_
  refine g0 ?_
  exact WP.ret ⟨rfl,rfl,FrS.refl _ _,at',rfl,λi i0 i1=>ha i i0 oM,row,g⟩
 |succ d ih=>
  intro n h at' h1 hl ha row g
  refine WP.rnd (a9L · · ..) ?_
  have hq:=(List.getElem?_eq_some_iff.1 row).1
  obtain ⟨h2,k1,k2,k3,k4⟩:=g.write0 (i:=(n:Int)) (v:=I (-1)) oM (by simp; omega) rfl rfl
  have row2:h2[q1+1]?=some (.cells ⟨[.nils,s2],0,0,false⟩):=by rw[k3.get oM hq]; exact row
  have hll:(at'.set n (-1)).length=at'.length:=by simp
  have:=ih (n+1) h2 (at'.set n (-1)) (by rw[hll]; omega) (by rw[hll]; exact hl) (λi i0 i1=>?_) row2 (k2.cong (by rw[List.map_set]; rfl))
  ·refine g3 @row g.sl.idxG @k1 ?_
   rw[hll] at this
   refine this.mono ?_
   rintro r h3 ⟨a1,a2,a3,a4⟩
   exact ⟨a1,oM,(k3.s.mono λo _ z=>oM).trans a3,a4⟩
  ·have:=x5_ (xs:=at') (i:=(n:Int)) (j:=i) oM oM i0 (-1)
   rw[Int.toNat_natCast] at this
   rw[this]
   split
   ·rfl
   ·exact ha i i0 oM
theorem w2_ {α:Type}[Inhabited α]{n:Nat}{x:α}{i:Int}(h0:0<=i)(h1:i<n):gi (List.replicate n x) i=x:=by
 have:i.toNat<n:=oM
 simp[gi,List.getD_eq_getElem?_getD,List.getElem?_replicate,this]
theorem c2O (n:Nat):cnt (List.replicate n (none:Option Int))=0:=by
 rw[cnt,List.countP_eq_zero]
 intro x hx
 rw[(List.mem_replicate.1 hx).2]; simp
theorem b4V (n:Nat)(hn:n<=1000000)(h:Heap):Tot tab a4U [I n] h λr h'=>QV (λo=>h.length<=o) h' r n (List.replicate n none)/\Ext h h':=by
 refine WP.tot (b6h · ..) ?_
 have hmx:max (n:Int) 0=n:=oM
 obtain ⟨s2,h1,k1,k2,k3,k4,k5⟩:=g0_ (zero:=[I 0]) (sz:=1) (bytes:=8) (n:=(n:Int)) h oM oM oM rfl rfl
 have hre:List.replicate (n:Int).toNat [I 0]=(List.replicate n (0:Int)).map encI:=by
  rw[List.map_replicate]; rfl
 rw[hre] at k2
 obtain ⟨h2,hh2⟩:∃h2,h2=h1++[AObj.cells ⟨[.nils,s2],0,0,false⟩]:=⟨_,rfl⟩
 have e2:Ext h1 h2:=by rw[hh2]; exact eX
 have r2:h2[h1.length]?=some (.cells ⟨[.nils,s2],0,0,false⟩):=by rw[hh2]; simp
 have hl2:h2.length=h.length+2:=by rw[hh2]; simp; omega
 refine g4 @hmx @k1 k2.sl.one k2.sl.cells ?_
 rw[<-hh2]
 have g2:=k2.ext e2
 rw[k5] at r2
 have hlr:((List.replicate n (0:Int)).length:Int)=n:=by simp
 have hnl:=b9M (q1:=h.length) n 0 h2 (List.replicate n 0) (by simp) (by simp; omega) (λi i0 i1=>oM) r2 g2
 rw[hlr] at hnl
 refine g4 @r2 g2.sl.lenG @k5 @hlr ?_
 refine WP.ent (hnl.mono ?_) λi=>rfl
 rintro r h3 ⟨rfl,hl3,f3,at2,hla,ha,row3,g3⟩
 simp only[List.length_replicate] at hla
 refine ⟨⟨h.length+1,[],at2,rfl,⟨.nils,s2,0,h.length,row3,.inl ⟨rfl,rfl⟩,λq=>absurd rfl q,g3,Nat.le_refl _,oM,oM,Nat.le_add_right _ _,by simp,oM⟩,⟨hla,by simp,λi i0 i1=>by simp at i1; omega,λid i0 i1=>.inl ⟨ha id i0 oM,w2_ i0 i1⟩⟩,λi i0 i1=>by simp at i1; omega,by rw[c2O]; rfl⟩,f3.ext (k3.trans e2) (λo q1 q2=>oM)⟩
end
end Go.Gm.AZ
namespace Go.Gm.AZ
open Go Go.Gm
def SQ (P:Nat->Prop)(h:Heap)(q:AV)(N:Nat)(M:List (Option Int)):Prop:=∃W,(∀o,W o->P o/\o<h.length)/\QV W h q N M
section
variable {P:Nat->Prop} {hB h h':Heap} {q x:AV} {N:Nat} {M:List (Option Int)}
theorem QV.sq (v:QV W h q N M)(hp:∀o,o<h.length->W o->P o):SQ P h q N M:=
 ⟨λo=>W o/\o<h.length,λo z=>⟨hp o z.2 z.1,z.2⟩,v.mono λo z1 z2=>⟨z2,z1⟩⟩
theorem SQ.frs (v:SQ P h q N M)(f:FrS D h h')(hd:∀o,o<h.length->P o->¬D o):SQ P h' q N M:=
 let ⟨W,h1,h2⟩:=v
 ⟨W,λo z=>⟨(h1 o z).1,Nat.lt_of_lt_of_le (h1 o z).2 f.len⟩,h2.frs f λo z1 z2=>hd o z1 (h1 o z2).1⟩
theorem SQ.ext (v:SQ P h q N M)(e:Ext h h'):SQ P h' q N M:=v.frs (D:=λ_=>False) (FrS.ofExt e) λ_ _ _ z=>z
theorem SQ.lm (v:SQ P h q N M):M.length=N:=let ⟨W,h1,h2⟩:=v; h2.lm
theorem SQ.put (v:SQ P h q N M)(hN:N<=1000000)(hp:∀o,h.length<=o->P o)(id key:Int):Tot tab n9_ [q,I id,I key] h λr h'=>r=.bool (putM N M id key).2/\SQ P h' q N (putM N M id key).1/\FrS P h h':=by
 obtain ⟨W,h1,h2⟩:=v
 refine (b9G h2 hN id key).mono ?_
 rintro r h' ⟨a,b,c⟩
 exact ⟨a,b.sq λo z1 z2=>by
  rcases z2 with z2|z2
  ·exact (h1 o z2).1
  ·exact hp o z2,c.mono λo z1 z2=>(h1 o z2).1⟩
theorem SQ.pop (v:SQ P h q N M)(hN:N<=1000000):Tot tab a0o [q] h λr h'=>∃M2,PopQ N M r M2/\SQ P h' q N M2/\FrS P h h':=by
 obtain ⟨W,h1,h2⟩:=v
 refine (b9L h2 hN).mono ?_
 rintro r h' ⟨M2,a,b,c⟩
 exact ⟨M2,a,b.sq λo z1 z2=>(h1 o z2).1,c.mono λo z1 z2=>(h1 o z2).1⟩
end
end Go.Gm.AZ
namespace Go.Gm
theorem AV.beq_iff:AV.beq a b=true↔a=b:=⟨AV.beq_eq,λh=>h▸AV.beq_refl a⟩
instance:DecidableEq AV:=λa b=>if h:AV.beq a b=true then isTrue (AV.beq_iff.1 h) else isFalse λq=>h (AV.beq_iff.2 q)
theorem a1_ (i:Nat)(vs:List AV):extr i (.tup vs)=vs[i]?:=rfl
structure ExM (k:Nat) (h h':Heap):Prop where
 len:h.length<=h'.length
 get:∀o,o≠k->o<h.length->h'[o]?=h[o]?
 isM:∃ks es es',h[k]?=some (.map ks es)/\h'[k]?=some (.map ks es')
section
variable {k:Nat} {h h' h'':Heap}
theorem ExM.lt (a:ExM k h h'):k<h.length:=by
 obtain ⟨_,_,_,e,_⟩:=a.isM
 exact (List.getElem?_eq_some_iff.1 e).1
theorem ExM.refl (e:h[k]?=some (.map ks es)):ExM k h h:=⟨Nat.le_refl _,λ_ _ _=>rfl,ks,es,es,e,e⟩
theorem ExM.trans (a:ExM k h h')(b:ExM k h' h''):ExM k h h'':=by
 refine ⟨Nat.le_trans a.len b.len,λo h1 h2=>(b.get o h1 (Nat.lt_of_lt_of_le h2 a.len)).trans (a.get o h1 h2),?_⟩
 obtain ⟨ks,es,es',e1,e2⟩:=a.isM
 obtain ⟨ks2,es2,es3,e3,e4⟩:=b.isM
 rw[e2] at e3
 injection e3 with e3
 injection e3 with e3 e5
 subst e3 e5
 exact ⟨ks,es,es3,e1,e4⟩
theorem ExM.ofExt (e:h[k]?=some (.map ks es))(x:Ext h h'):ExM k h h':=
 ⟨x.len,λo _ h2=>(a3i.1 x).2 o h2,ks,es,es,e,x.get e⟩
theorem ExM.ext (a:ExM k h h')(x:Ext h' h''):ExM k h h'':=by
 obtain ⟨ks,es,es',e1,e2⟩:=a.isM
 exact a.trans (ExM.ofExt e2 x)
theorem ExM.fr (a:ExM k h h')(f:Fr lo hi h' h'')(hl:h.length<=lo):ExM k h h'':=by
 have hk:=a.lt
 have hlen:=a.len
 refine ⟨Nat.le_trans a.len f.len,λo h1 h2=>(f.get oM oM).trans (a.get o h1 h2),?_⟩
 obtain ⟨ks,es,es',e1,e2⟩:=a.isM
 exact ⟨ks,es,es',e1,(f.get oM oM).trans e2⟩
theorem ExM.put (e:h[k]?=some (.map ks es))(es':List (AV × AV)):ExM k h (h.set k (.map ks es')):=by
 refine ⟨by simp,λo h1 h2=>List.getElem?_set_ne (Ne.symm h1),ks,es,es',e,?_⟩
 rw[List.getElem?_set_self (List.getElem?_eq_some_iff.1 e).1]
theorem ExM.cells (a:ExM k h h'){o:Nat}(e:h[o]?=some (.cells c)):h'[o]?=some (.cells c):=by
 have:o≠k:=by
  rintro rfl
  obtain ⟨_,_,_,e1,_⟩:=a.isM
  rw[e] at e1; cases e1
 exact (a.get o this (List.getElem?_eq_some_iff.1 e).1).trans e
end
theorem Sl.fr (a:Sl h sz s xs)(f:Fr lo hi h h')(hd:s≠.nils->s.obj<lo\/hi<=s.obj):Sl h' sz s xs:=by
 rcases a with a|⟨o,off,lim,g,c,rfl,h2,h3⟩
 ·exact .inl a
 ·exact .inr ⟨o,off,lim,g,c,rfl,(f.get (hd (by simp)) (List.getElem?_eq_some_iff.1 h2).1).trans h2,h3⟩
theorem Sl.objLt (a:Sl h sz s xs)(hs:s≠.nils):s.obj<h.length:=by
 rcases a with a|⟨o,off,lim,g,c,rfl,h2,h3⟩
 ·exact absurd a.1 hs
 ·exact (List.getElem?_eq_some_iff.1 h2).1
theorem Sl.nnil (a:Sl h sz s xs)(hx:xs≠[]):s≠.nils:=by
 rcases a with a|⟨o,off,lim,g,c,rfl,h2,h3⟩
 ·exact absurd a.2 hx
 ·simp
theorem Gr.objIn (a:Gr lo hi h sz s xs)(hs:s≠.nils):lo<=s.obj/\s.obj<hi:=by
 rcases a with a|⟨o,g,wg,cs,h1,h2,rfl,_⟩
 ·exact absurd a.1 hs
 ·exact ⟨h1,h2⟩
end Go.Gm
namespace Go.Gm
inductive Nd where
 |set (s:Nat)|emp|eps|join (l:List Nd)|uni (l:List Nd)|star (n:Nd)|plus (n:Nd)|opt (n:Nd)|rep (lo hi:Nat) (n:Nd)
 deriving Inhabited
namespace Nd
def kids:Nd->List Nd
 |.join l|.uni l=>l
 |.star n|.plus n|.opt n|.rep _ _ n=>[n]
 |.set _|.emp|.eps=>[]
def kind:Nd->Int
 |.set _=>1|.emp=>2|.eps=>3|.join _=>4|.uni _=>5|.star _=>6|.plus _=>7|.opt _=>8|.rep ..=>9
def st:Nd->Nat
 |.set s=>s
 |_=>0
def lo:Nd->Nat
 |.rep lo _ _=>lo
 |_=>0
def hi:Nd->Nat
 |.rep _ hi _=>hi
 |_=>0
theorem kid_lt {c n:Nd}(h:c∈n.kids):SizeOf.sizeOf c<SizeOf.sizeOf n:=by
 cases n with
 |join l=>have:=List.sizeOf_lt_of_mem (show c∈l from h); simp only[Nd.join.sizeOf_spec]; omega
 |uni l=>have:=List.sizeOf_lt_of_mem (show c∈l from h); simp only[Nd.uni.sizeOf_spec]; omega
 |star n=>simp only[kids,List.mem_singleton] at h; subst h; simp only[Nd.star.sizeOf_spec]; omega
 |plus n=>simp only[kids,List.mem_singleton] at h; subst h; simp only[Nd.plus.sizeOf_spec]; omega
 |opt n=>simp only[kids,List.mem_singleton] at h; subst h; simp only[Nd.opt.sizeOf_spec]; omega
 |rep a b n=>simp only[kids,List.mem_singleton] at h; subst h; simp only[Nd.rep.sizeOf_spec]; omega
 |_=>simp[kids] at h
theorem ind {p:Nd->Prop}(h:∀n,(∀c∈n.kids,p c)->p n)(n:Nd):p n:=by
 have:∀(N:Nat) (n:Nd),SizeOf.sizeOf n<=N->p n:=by
  intro N
  induction N with
  |zero=>intro n hn; exact h n λc hc=>by have:=kid_lt hc; omega
  |succ N ih=>intro n hn; exact h n λc hc=>ih c (by have:=kid_lt hc; omega)
 exact this _ n (Nat.le_refl _)
end Nd
inductive Star (r:Nat->Nat->Prop):Nat->Nat->Prop
 |refl (i:Nat):Star r i i
 |tail {i m j:Nat}:Star r i m->r m j->Star r i j
def Pow (r:Nat->Nat->Prop):Nat->Nat->Nat->Prop
 |0,i,j=>i=j
 |t+1,i,j=>∃m,Pow r t i m/\r m j
section
variable {r:Nat->Nat->Prop}
theorem Star.one (h:r i j):Star r i j:=.tail (.refl _) h
theorem Star.trans (a:Star r i m)(b:Star r m j):Star r i j:=by
 induction b with
 |refl=>exact a
 |tail _ h ih=>exact .tail ih h
theorem Star.head (a:r i m)(b:Star r m j):Star r i j:=(Star.one a).trans b
theorem Star.inv {P:Nat->Prop}(hP:∀i j,P i->r i j->P j){i j:Nat}(a:Star r i j)(h:P i):P j:=by
 induction a with
 |refl=>exact h
 |tail _ k ih=>exact hP _ _ ih k
theorem Pow.star:∀{t i j:Nat},Pow r t i j->Star r i j
 |0,i,j,h=>by cases h; exact .refl _
 |t+1,i,j,⟨m,h,k⟩=>.tail (Pow.star h) k
theorem Pow.add (a:Pow r s i m):∀{t j:Nat},Pow r t m j->Pow r (s+t) i j
 |0,j,h=>by cases h; exact a
 |t+1,j,⟨p,h,k⟩=>⟨p,Pow.add a h,k⟩
theorem Pow.split:∀{t s i j:Nat},Pow r (s+t) i j->∃m,Pow r s i m/\Pow r t m j
 |0,s,i,j,h=>⟨j,h,rfl⟩
 |t+1,s,i,j,⟨p,h,k⟩=>by
  obtain ⟨m,h1,h2⟩:=Pow.split (t:=t) h
  exact ⟨m,h1,p,h2,k⟩
theorem Pow.one:Pow r 1 i j↔r i j:=⟨λ⟨m,h,k⟩=>by cases h; exact k,λh=>⟨i,rfl,h⟩⟩
end
def hit (w:List Int)(s i:Nat):Prop:=∃c,w[i]?=some c/\0<=c/\c<5/\s.testBit c.toNat=true
mutual
def R (w:List Int):Nd->Nat->Nat->Prop
 |.set s=>λi j=>hit w s i/\j=i+1
 |.emp=>λ_ _=>False
 |.eps=>λi j=>i=j
 |.join l=>RJ w l
 |.uni l=>RU w l
 |.star n=>Star (R w n)
 |.plus n=>λi j=>∃m,R w n i m/\Star (R w n) m j
 |.opt n=>λi j=>i=j\/R w n i j
 |.rep lo hi n=>λi j=>∃t,lo<=t/\t<=hi/\Pow (R w n) t i j
def RJ (w:List Int):List Nd->Nat->Nat->Prop
 |[]=>λi j=>i=j
 |n::l=>λi j=>∃m,R w n i m/\RJ w l m j
def RU (w:List Int):List Nd->Nat->Nat->Prop
 |[]=>λ_ _=>False
 |n::l=>λi j=>R w n i j\/RU w l i j
end
section
variable {w:List Int}
end
def Is (w:List Int)(bs:List Bool)(P:Nat->Prop):Prop:=bs.length=w.length+1/\∀j,bs.getD j false=true↔P j
theorem Is.cong {P Q:Nat->Prop}(a:Is w bs P)(h:∀j,P j↔Q j):Is w bs Q:=⟨a.1,λj=>(a.2 j).trans (h j)⟩
theorem Is.le (a:Is w bs P)(h:P j):j<=w.length:=by
 have h2:=(a.2 j).2 h
 by_cases hj:j<bs.length
 ·have:=a.1; omega
 ·rw[List.getD_eq_getElem?_getD,List.getElem?_eq_none oM] at h2
  cases h2
def In (n:Nd)(w:List Int):Prop:=R w n 0 w.length
theorem Is.none:Is w (List.replicate (w.length+1) false) λ_=>False:=by
 refine ⟨by simp,λj=>?_⟩
 rw[List.getD_eq_getElem?_getD,List.getElem?_replicate]
 split<;>simp
theorem Is.set (a:Is w bs P){i:Nat}(h:i<=w.length):Is w (bs.set i true) λj=>j=i\/P j:=by
 refine ⟨by simp[a.1],λj=>?_⟩
 have h2:=a.2 j
 rw[List.getD_eq_getElem?_getD] at h2 ⊢
 by_cases hj:j=i
 ·subst hj; rw[List.getElem?_set_self (by have:=a.1; omega)]; simp
 ·rw[List.getElem?_set_ne (Ne.symm hj),h2]; simp[hj]
end Go.Gm
namespace Go.Gm.AZ
open Go Go.Gm
mutual
inductive NV (h:Heap):Nd->List AV->Prop
 |mk {n:Nd} {s:AV} {css:List (List AV)}:Sl h 5 s css->NVs h n.kids css->NV h n [I n.kind,I n.st,I n.lo,I n.hi,s]
inductive NVs (h:Heap):List Nd->List (List AV)->Prop
 |nil:NVs h [] []
 |cons {n:Nd} {cs:List AV} {l:List Nd} {css:List (List AV)}:NV h n cs->NVs h l css->NVs h (n::l) (cs::css)
end
structure Keeps (h h':Heap):Prop where
 cells:∀(o:Nat) (c:CObj),h[o]?=some (.cells c)->h'[o]?=some (.cells c)
theorem Keeps.ofExt (e:Ext h h'):Keeps h h':=⟨λ_ _ q=>e.get q⟩
theorem Keeps.sl (e:Keeps h h')(a:Sl h sz s xs):Sl h' sz s xs:=by
 rcases a with a|⟨o,off,lim,g,c,h1,h2,h3⟩
 ·exact .inl a
 ·exact .inr ⟨o,off,lim,g,c,h1,e.cells _ _ h2,h3⟩
mutual
theorem NV.keeps {h h':Heap} (e:Keeps h h'):∀{n:Nd} {cs:List AV},NV h n cs->NV h' n cs
 |_,_,.mk a b=>.mk (e.sl a) (NVs.keeps e b)
theorem NVs.keeps {h h':Heap} (e:Keeps h h'):∀{l:List Nd} {css:List (List AV)},NVs h l css->NVs h' l css
 |_,_,.nil=>.nil
 |_,_,.cons a b=>.cons (NV.keeps e a) (NVs.keeps e b)
end
theorem NVs.length:∀{l:List Nd} {css:List (List AV)},NVs h l css->l.length=css.length
 |_,_,.nil=>rfl
 |_,_,.cons _ b=>by simp[NVs.length b]
theorem NVs.get:∀{l:List Nd} {css:List (List AV)},NVs h l css->∀{i:Nat} {n:Nd},l[i]?=some n->∃cs,css[i]?=some cs/\NV h n cs
 |_,_,.nil,i,n,q=>by simp at q
 |_,_,.cons a b,0,n,q=>by
  simp only[List.getElem?_cons_zero,Option.some.injEq] at q
  subst q; exact ⟨_,rfl,a⟩
 |_,_,.cons a b,i+1,n,q=>by
  obtain ⟨cs,h1,h2⟩:=NVs.get b (i:=i) (by simpa using q)
  exact ⟨cs,by simpa using h1,h2⟩
theorem NVs.snoc (a:NV h n cs):∀{l:List Nd} {css:List (List AV)},NVs h l css->NVs h (l++[n]) (css++[cs])
 |_,_,.nil=>.cons a .nil
 |_,_,.cons x y=>.cons x (NVs.snoc a y)
theorem NV.len (a:NV h n cs):cs.length=5:=by cases a; rfl
theorem NV.one (a:NV h n cs):cs.all AV.one=true:=by
 cases a with
 |mk a b=>simp only[List.all_cons,List.all_nil,a4x,a.one,Bool.and_self]
theorem NV.inv (a:NV h n cs):∃s css,cs=[I n.kind,I n.st,I n.lo,I n.hi,s]/\Sl h 5 s css/\NVs h n.kids css:=by
 cases a with
 |mk a b=>exact ⟨_,_,rfl,a,b⟩
theorem Gr.appQ {sz bytes:Nat}(a:Gr o (o+1) h sz s xs)(ho:s≠.nils->o<h.length)(b:Sl h sz x ys)(hsz:0<sz)(hb:0<bytes)(hl:(xs.length+ys.length)*bytes<=140737488355328) :
  ∃s' h' o',apnd sz bytes s x h=some (s',h')/\Gr o' (o'+1) h' sz s' (xs++ys)/\(s'≠.nils->((o'=o/\s≠.nils)\/h.length<=o')/\o'<h'.length)/\FrS (λp=>s≠.nils/\p=o) h h'/\(s≠.nils->o'=o):=by
 by_cases hn:s=.nils
 ·obtain ⟨s',h',o',k1,k2,k3,k4⟩:=a.appP ho b hsz hb hl
  exact ⟨s',h',o',k1,k2,k3,k4,λq=>absurd hn q⟩
 ·have ho':=ho hn
  obtain ⟨s',h',k1,k2,k3,k4⟩:=a.appendS b hsz hb hl oM oM
  have:=k3.len
  exact ⟨s',h',o,k1,(k4 hn).1,λq=>⟨.inl ⟨rfl,hn⟩,oM⟩,k3.s.mono λp _ q=>⟨hn,oM⟩,λ_=>rfl⟩
theorem Sl.frs (a:Sl h sz s xs)(f:FrS D h h')(hd:s≠.nils->¬D s.obj):Sl h' sz s xs:=by
 rcases a with a|⟨o,off,lim,g,c,rfl,h2,h3⟩
 ·exact .inl a
 ·exact .inr ⟨o,off,lim,g,c,rfl,(f.get (hd (by simp)) (List.getElem?_eq_some_iff.1 h2).1).trans h2,h3⟩
theorem Gr.frs' (a:Gr o (o+1) h sz s xs)(f:FrS D h h')(hd:s≠.nils->¬D o):Gr o (o+1) h' sz s xs:=by
 by_cases hs:s=.nils
 ·subst hs
  have:=a.isNil
  subst this
  exact Gr.nil ..
 ·exact a.frs f λp q1 q2=>by
   have:p=o:=oM
   subst this; exact hd hs
mutual
inductive NVD (h:Heap) (D:Nat->Prop):Nd->List AV->Prop
 |mk {n:Nd} {s:AV} {css:List (List AV)}:Sl h 5 s css->(s≠.nils->D s.obj)->NVDs h D n.kids css->NVD h D n [I n.kind,I n.st,I n.lo,I n.hi,s]
inductive NVDs (h:Heap) (D:Nat->Prop):List Nd->List (List AV)->Prop
 |nil:NVDs h D [] []
 |cons {n:Nd} {cs:List AV} {l:List Nd} {css:List (List AV)}:NVD h D n cs->NVDs h D l css->NVDs h D (n::l) (cs::css)
end
mutual
theorem NVD.nv {h:Heap} {D:Nat->Prop}:∀{n:Nd} {cs:List AV},NVD h D n cs->NV h n cs
 |_,_,.mk a _ b=>.mk a (NVDs.nvs b)
theorem NVDs.nvs {h:Heap} {D:Nat->Prop}:∀{l:List Nd} {css:List (List AV)},NVDs h D l css->NVs h l css
 |_,_,.nil=>.nil
 |_,_,.cons a b=>.cons (NVD.nv a) (NVDs.nvs b)
end
mutual
theorem NVD.frs {h h':Heap} {D D' E:Nat->Prop} (f:FrS E h h') (h1:∀o,o<h.length->D o->¬E o) (h2:∀o,o<h.length->D o->D' o):∀{n:Nd} {cs:List AV},NVD h D n cs->NVD h' D' n cs
 |_,_,.mk a d b=>.mk (Sl.frs a f λq=>h1 _ (a.objLt q) (d q)) (λq=>h2 _ (a.objLt q) (d q)) (NVDs.frs f h1 h2 b)
theorem NVDs.frs {h h':Heap} {D D' E:Nat->Prop} (f:FrS E h h') (h1:∀o,o<h.length->D o->¬E o) (h2:∀o,o<h.length->D o->D' o):∀{l:List Nd} {css:List (List AV)},NVDs h D l css->NVDs h' D' l css
 |_,_,.nil=>.nil
 |_,_,.cons a b=>.cons (NVD.frs f h1 h2 a) (NVDs.frs f h1 h2 b)
end
theorem NVDs.snoc (a:NVD h D n cs):∀{l:List Nd} {css:List (List AV)},NVDs h D l css->NVDs h D (l++[n]) (css++[cs])
 |_,_,.nil=>.cons a .nil
 |_,_,.cons x y=>.cons x (NVDs.snoc a y)
theorem NVD.ext {D D':Nat->Prop}(e:Ext h h')(h2:∀o,o<h.length->D o->D' o)(a:NVD h D n cs):NVD h' D' n cs:=a.frs (E:=λ_=>False) (FrS.ofExt e) (λ_ _ _ q=>q) h2
theorem NVD.inv (a:NVD h D n cs):∃s,cs=[I n.kind,I n.st,I n.lo,I n.hi,s]/\s.one=true:=by
 cases a with
 |mk a b c=>exact ⟨_,rfl,a.one⟩
theorem FrS.set1 (h:Heap)(o:Nat)(x:AObj):FrS (λp=>p=o) h (h.set o x):=⟨by simp,λp h1 _=>List.getElem?_set_ne (λq=>h1 q.symm)⟩
theorem NVD.len (a:NVD h D n cs):cs.length=5:=a.nv.len
theorem NVD.one (a:NVD h D n cs):cs.all AV.one=true:=a.nv.one
theorem NVDs.len (a:NVDs h D l css):l.length=css.length:=a.nvs.length
structure NB (Hb H:Heap) (q:List AV) (s:AV) (lg:Nat) (l:List Nd) (css:List (List AV)):Prop where
 ext:Ext Hb H
 no:Hb.length<H.length
 row:H[Hb.length]?=some (.cells ⟨q++[s],0,0,false⟩)
 gr:Gr lg (lg+1) H 5 s css
 lgl:s≠.nils->Hb.length<lg/\lg<H.length
 nvs:NVDs H (λo=>Hb.length<o/\o<H.length/\¬(s≠.nils/\o=lg)) l css
theorem NB.new (Hb:Heap)(q:List AV):NB Hb (Hb++[.cells ⟨q++[.nils],0,0,false⟩]) q .nils 0 [] [] where
 ext:=Ext.push _ _
 no:=by simp
 row:=by simp
 gr:=Gr.nil ..
 lgl q:=absurd rfl q
 nvs:=.nil
section
variable {Hb H:Heap} {q:List AV} {s:AV} {lg:Nat} {l:List Nd} {css:List (List AV)}
theorem NB.at (a:NB Hb H q s lg l css)(hq:q.length=4):At H (.ptr Hb.length 0 5 0) (q++[s]):=At.row a.row (Nat.le_refl _) (by simp[hq])
theorem NB.extH (a:NB Hb H q s lg l css)(e:Ext H H'):NB Hb H' q s lg l css where
 ext:=a.ext.trans e
 no:=Nat.lt_of_lt_of_le a.no e.len
 row:=e.get a.row
 gr:=a.gr.ext e
 lgl q:=⟨(a.lgl q).1,Nat.lt_of_lt_of_le (a.lgl q).2 e.len⟩
 nvs:=a.nvs.frs (E:=λ_=>False) (FrS.ofExt e) (λ_ _ _ q=>q) λo h1 h2=>⟨h2.1,Nat.lt_of_lt_of_le h1 e.len,h2.2.2⟩
theorem NB.add (a:NB Hb H q s lg l css)(hq:q.length=4)(e:Ext H H1)(nv:NVD H1 (λo=>H.length<=o/\o<H1.length) n c5)(hl:css.length<=1000) :
  ∃s' H3,apnd 5 56 s (.sl H1.length 0 1 5 none 0) (mkObj H1 c5)=some (s',H3)/\s'.one=true/\s'.cells=[s']/\H3[Hb.length]?=some (.cells ⟨q++[s],0,0,false⟩)/\∃lg',NB Hb (H3.set Hb.length (.cells ⟨q++[s'],0,0,false⟩)) q s' lg' (l++[n]) (css++[c5]):=by
 have a1:=a.extH e
 have e3:Ext H1 (mkObj H1 c5):=Ext.push H1 _
 have a3:=a1.extH e3
 have hl3:(mkObj H1 c5).length=H1.length+1:=by simp[mkObj]
 have hH:=a.no
 have hH1:=e.len
 obtain ⟨s',H3,lg',m1,m2,m3,m4,m5⟩:=Gr.appQ (bytes:=56) a3.gr (λq=>(a3.lgl q).2) (Gr.lit (sz:=5) (v:=c5) nv.len).sl oM oM (by simp; omega)
 have hlen:=m4.len
 have hnn:s≠.nils->Hb.length≠lg:=λq1 q2=>by have:=(a.lgl q1).1; omega
 have hrow:H3[Hb.length]?=some (.cells ⟨q++[s],0,0,false⟩):=(m4.get (λz=>hnn z.1 z.2) oM).trans a3.row
 refine ⟨s',H3,m1,m2.sl.one,m2.sl.cells,hrow,lg',?_⟩
 have hs':s'≠.nils:=m2.nnil (by simp)
 have hlg':Hb.length<lg':=by
  rcases (m3 hs').1 with ⟨q1,q2⟩|q1
  ·rw[q1]; exact (a.lgl q2).1
  ·omega
 have f:FrS (λo=>o=Hb.length\/(s≠.nils/\o=lg)) (mkObj H1 c5) (H3.set Hb.length (.cells ⟨q++[s'],0,0,false⟩)):=by
  refine ⟨by simp; omega,λo h1 h2=>?_⟩
  rw[List.getElem?_set_ne (λz=>h1 (.inl z.symm)),m4.get (λz=>h1 (.inr z)) h2]
 have hold:∀o,o<H1.length+1->o=lg'->s≠.nils/\o=lg:=by
  intro o h1 h2
  rcases (m3 hs').1 with ⟨q1,q2⟩|q1
  ·exact ⟨q2,h2.trans q1⟩
  ·omega
 refine ⟨?_,by simp; omega,by rw[List.getElem?_set_self oM],?_,λ_=>⟨hlg',by simp; exact (m3 hs').2⟩,?_⟩
 ·exact f.ext a3.ext λo h1 h2=>by
   rcases h2 with h2|⟨h2,h4⟩
   ·omega
   ·have:=(a.lgl h2).1; omega
 ·exact (m2.set oM _)
 ·have hl4:(H3.set Hb.length (.cells ⟨q++[s'],0,0,false⟩)).length=H3.length:=by simp
  refine NVDs.snoc (n:=n) (cs:=c5) ?_ ?_
  ·refine (nv.ext e3 (D':=λo=>H.length<=o/\o<H1.length) λ_ _ z=>z).frs f (λo h1 h2 h3=>?_) λo h1 h2=>⟨oM,by rw[hl4]; omega,λz=>?_⟩
   ·rcases h3 with h3|⟨h3,h4⟩
    ·omega
    ·have:=(a.lgl h3).2; omega
   ·have z2:=hold o oM z.2
    have:=(a.lgl z2.1).2; omega
  ·refine a3.nvs.frs f (λo h1 h2 h3=>?_) λo h1 h2=>⟨h2.1,by rw[hl4]; omega,λz=>?_⟩
   ·rcases h3 with h3|h3
    ·omega
    ·exact h2.2.2 h3
   ·exact h2.2.2 (hold o oM z.2)
theorem NB.cong {css':List (List AV)}{l':List Nd}(a:NB Hb H q s lg l css)(e:l=l'):NB Hb H q s lg l' css:=e▸a
theorem NB.done (a:NB Hb H q s lg l css){n:Nd}(hq:q=[I n.kind,I n.st,I n.lo,I n.hi])(hl:n.kids=l):NVD H (λo=>Hb.length<o/\o<H.length) n (q++[s]):=by
 subst hq hl
 exact .mk a.gr.sl (λz=>by have h1:=a.gr.objIn z; have h2:=a.lgl z; omega) (a.nvs.frs (FrS.refl (λ_=>False) _) (λ_ _ _ z=>z) λo _ z=>⟨z.1,z.2.1⟩)
end
theorem c9_ {h:Heap}{x y:AObj}{o:Nat}(ho:o=h.length):(h++[x]).set o y=h++[y]:=by subst ho; simp
theorem b6y {h:Heap}{o:Nat}{css:List (List AV)}{n:Nat}(hr:h[o]?=some (.cells ⟨css.flatten,0,0,false⟩))(hn:n=css.length)(hl:∀c∈css,c.length=5):Sl h 5 (.sl o 0 n 5 none 0) css:=by
 subst hn
 exact .inr ⟨o,0,none,0,_,rfl,hr,Nat.le_refl _,by rw[List.drop_zero]; exact List.take_of_length_le (by rw[flatten_len hl]; exact Nat.le_refl _),hl⟩
theorem a9f {n:Nd}(hn:n.kids=[]):NVD h D n [I n.kind,I n.st,I n.lo,I n.hi,.nils]:=
 .mk (css:=[]) (.inl ⟨rfl,rfl⟩) (λq=>absurd rfl q) (by rw[hn]; exact .nil)
end Go.Gm.AZ
namespace Go.Gm
structure NS where
 n:Nat
 much:Bool
 st:List (Nat × Nat × Nat)
 fr:List (Nat × Nat)
namespace NS
def new:NS:=⟨0,false,[],[]⟩
def state (b:NS):Nat × NS:=if 1000<=b.n then (0,⟨b.n,true,b.st,b.fr⟩) else (b.n,⟨b.n+1,b.much,b.st,b.fr⟩)
def frees (b:NS)(l:List (Nat × Nat)):NS:=⟨b.n,b.much,b.st,b.fr++l⟩
def step (b:NS)(s e k:Nat):NS:=⟨b.n,b.much,b.st++[(s,e,k)],b.fr⟩
def repE (lo e:Nat):Nat->List (Nat × Nat)->List (Nat × Nat)
 |_,[]=>[]
 |_,[ft]=>[(ft.2,e)]
 |i,ft::gt::r=>(if lo<=i+1 then [(ft.2,e)] else [])++(ft.2,gt.1)::repE lo e (i+1) (gt::r)
def joinE:List (Nat × Nat)->List (Nat × Nat)
 |ft::gt::r=>(ft.2,gt.1)::joinE (gt::r)
 |_=>[]
def uniE (s e:Nat)(l:List (Nat × Nat)):List (Nat × Nat):=l.flatMap λft=>[(s,ft.1),(ft.2,e)]
def hd (l:List (Nat × Nat)):Nat × Nat:=l.headD (0,0)
def lead (b:NS)(s e:Nat)(l:List (Nat × Nat)):Nd->NS
 |.set k=>b.step s e k
 |.eps=>b.frees [(s,e)]
 |.uni _=>b.frees (uniE s e l)
 |.star _=>b.frees [(s,(hd l).1),(s,e),((hd l).2,(hd l).1),((hd l).2,e)]
 |.plus _=>b.frees [(s,(hd l).1),((hd l).2,(hd l).1),((hd l).2,e)]
 |.opt _=>b.frees [(s,(hd l).1),(s,e),((hd l).2,e)]
 |.rep lo hi _=>b.frees ((if 0<hi then [(s,(hd l).1)] else [])++repE lo e 0 l++if lo=0 then [(s,e)] else [])
 |.emp=>b
 |.join _=>b
def times (g:NS->(Nat × Nat) × NS):Nat->NS->List (Nat × Nat) × NS
 |0,b=>([],b)
 |k+1,b=>if b.much then ([],b) else ((g b).1::(times g k (g b).2).1,(times g k (g b).2).2)
def around (n:Nd)(p:NS->List (Nat × Nat) × NS)(b:NS):(Nat × Nat) × NS:=
 if b.much then ((0,0),b) else
 let s:=b.state
 let l:=p s.2
 let e:=l.2.state
 ((s.1,e.1),if e.2.much then e.2 else e.2.lead s.1 e.1 l.1 n)
def joined (p:NS->List (Nat × Nat) × NS)(b:NS):(Nat × Nat) × NS:=
 if b.much then ((0,0),b) else
 let l:=p b
 if l.2.much then ((0,0),l.2) else (((hd l.1).1,(l.1.getLastD (0,0)).2),l.2.frees (joinE l.1))
mutual
def part:Nd->NS->(Nat × Nat) × NS
 |.join l=>joined (parts l)
 |.uni l=>around (.uni l) (parts l)
 |.star n=>around (.star n) (times (part n) 1)
 |.plus n=>around (.plus n) (times (part n) 1)
 |.opt n=>around (.opt n) (times (part n) 1)
 |.rep lo hi n=>around (.rep lo hi n) (times (part n) hi)
 |.set k=>around (.set k) (λb=>([],b))
 |.eps=>around .eps (λb=>([],b))
 |.emp=>around .emp (λb=>([],b))
def parts:List Nd->NS->List (Nat × Nat) × NS
 |[],b=>([],b)
 |n::l,b=>if b.much then ([],b) else ((part n b).1::(parts l (part n b).2).1,(parts l (part n b).2).2)
end
end NS
structure NF where
 n:Nat
 s:Nat
 e:Nat
 st:List (Nat × Nat × Nat)
 fr:List (Nat × Nat)
def nfaF (n:Nd):Option NF:=
 let r:=NS.part n NS.new
 if r.2.much then none else some ⟨r.2.n,r.1.1,r.1.2,r.2.st,r.2.fr⟩
def RtN:Nd->Prop
 |.set s=>1<=s/\s<=31
 |.emp|.eps=>True
 |.join l=>2<=l.length
 |.uni l=>2<=l.length
 |.star _|.plus _|.opt _=>True
 |.rep a b _=>a<=b/\b<=9
inductive Gd:Nd->Prop
 |mk {n:Nd}:RtN n->(∀c∈n.kids,Gd c)->Gd n
theorem Gd.rt (g:Gd n):RtN n:=by cases g; assumption
theorem Gd.kid (g:Gd n):∀c∈n.kids,Gd c:=by cases g; assumption
end Go.Gm
namespace Go.Gm
structure Sz (b b':NS) (k:Nat):Prop where
 n:b.n<=b'.n
 fr:b'.fr.length+k<=b.fr.length+2*(b'.n-b.n)
 st:b'.st.length<=b.st.length+(b'.n-b.n)
 top:b.n<=1000->b'.n<=1000
theorem Sz.refl (b:NS):Sz b b 0:=⟨Nat.le_refl _,oM,oM,id⟩
theorem Sz.trans (x:Sz a b k)(y:Sz b c l):Sz a c (k+l):=by
 have:=x.n; have:=x.fr; have:=x.st; have:=y.n; have:=y.fr; have:=y.st
 exact ⟨oM,oM,oM,λz=>y.top (x.top z)⟩
theorem Sz.le {k l:Nat}(x:Sz b b' k)(h:l<=k):Sz b b' l:=⟨x.n,by have:=x.fr; omega,x.st,x.top⟩
theorem b1w (b:NS):Sz b b.state.2 0/\(b.state.2.much=false->b.state.2.n=b.n+1/\b.state.2.fr=b.fr/\b.state.2.st=b.st):=by
 rw[NS.state]
 by_cases h:1000<=b.n
 ·rw[if_pos h]; exact ⟨⟨Nat.le_refl _,by simp,by simp,id⟩,λz=>by cases z⟩
 ·rw[if_neg h]; exact ⟨⟨by simp,by simp,by simp,λ_=>by simp; omega⟩,λ_=>⟨rfl,rfl,rfl⟩⟩
def SzP (p:NS->List (Nat × Nat) × NS)(m:Nat):Prop:=∀b,Sz b (p b).2 0/\(p b).1.length<=m/\((p b).2.much=false->Sz b (p b).2 (2*(p b).1.length)/\(p b).1.length=m/\b.much=false)
def SzN (n:Nd):Prop:=∀b,Sz b (NS.part n b).2 0/\((NS.part n b).2.much=false->Sz b (NS.part n b).2 2)
theorem b3L:SzP (λb=>([],b)) 0:=λb=>⟨Sz.refl b,Nat.le_refl _,λz=>⟨Sz.refl b,rfl,z⟩⟩
theorem a7r:∀(l:List Nd),(∀c∈l,SzN c)->SzP (NS.parts l) l.length
 |[],_=>λb=>by rw[NS.parts]; exact ⟨Sz.refl b,Nat.le_refl _,λz=>⟨Sz.refl b,rfl,z⟩⟩
 |n::l,h=>λb=>by
  rw[NS.parts]
  by_cases q:b.much=true
  ·rw[if_pos q]; exact ⟨Sz.refl b,by simp,λz=>by rw[q] at z; cases z⟩
  ·rw[if_neg q]
   obtain ⟨h1,h2⟩:=h n (by simp) b
   obtain ⟨h3,h4,h5⟩:=a7r l (λc hc=>h c (List.mem_cons_of_mem _ hc)) (NS.part n b).2
   refine ⟨h1.trans h3,by simp; exact h4,λz=>?_⟩
   have h6:(NS.part n b).2.much=false:=by
    cases hm:(NS.part n b).2.much with
    |false=>rfl
    |true=>
     exfalso
     have e:(NS.parts l (NS.part n b).2).2=(NS.part n b).2:=by cases l<;>simp[NS.parts,hm]
     simp only[e] at z
     rw[hm] at z; cases z
   obtain ⟨h7,h8,_⟩:=h5 z
   exact ⟨((h2 h6).trans h7).le (by simp; omega),by simp[h8],by simpa using q⟩
theorem a7s (h:SzN n):∀k,SzP (NS.times (NS.part n) k) k
 |0=>λb=>by rw[NS.times]; exact ⟨Sz.refl b,Nat.le_refl _,λz=>⟨Sz.refl b,rfl,z⟩⟩
 |k+1=>λb=>by
  rw[NS.times]
  by_cases q:b.much=true
  ·rw[if_pos q]; exact ⟨Sz.refl b,by simp,λz=>by rw[q] at z; cases z⟩
  ·rw[if_neg q]
   obtain ⟨h1,h2⟩:=h b
   obtain ⟨h3,h4,h5⟩:=a7s h k (NS.part n b).2
   refine ⟨h1.trans h3,by simp; exact h4,λz=>?_⟩
   have h6:(NS.part n b).2.much=false:=by
    cases hm:(NS.part n b).2.much with
    |false=>rfl
    |true=>
     exfalso
     have e:(NS.times (NS.part n) k (NS.part n b).2).2=(NS.part n b).2:=by cases k<;>simp[NS.times,hm]
     simp only[e] at z
     rw[hm] at z; cases z
   obtain ⟨h7,h8,_⟩:=h5 z
   exact ⟨((h2 h6).trans h7).le (by simp; omega),by simp[h8],by simpa using q⟩
theorem b3M (lo e:Nat):∀(l:List (Nat × Nat)) (i:Nat),(NS.repE lo e i l).length<=2*l.length
 |[],i=>by simp[NS.repE]
 |[f],i=>by simp[NS.repE]
 |f::g::l,i=>by
  have:=b3M lo e (g::l) (i+1)
  simp only[NS.repE,List.length_append,List.length_cons] at this ⊢
  split<;>simp<;>omega
theorem b5n:∀(l:List (Nat × Nat)),(NS.joinE l).length<=l.length-1
 |[]=>by simp[NS.joinE]
 |[f]=>by simp[NS.joinE]
 |f::g::l=>by
  have:=b5n (g::l)
  simp only[NS.joinE,List.length_cons] at this ⊢
  omega
theorem b3N (s e:Nat):∀(l:List (Nat × Nat)),(NS.uniE s e l).length=2*l.length
 |[]=>rfl
 |f::l=>by
  have:=b3N s e l
  simp only[NS.uniE,List.flatMap_cons,List.length_append,List.length_cons,List.length_nil] at this ⊢
  omega
def isK:Nd->Bool
 |.star _|.plus _|.opt _=>true
 |_=>false
theorem c2D (b:NS)(s e:Nat)(l:List (Nat × Nat))(n:Nd):((isK n=true->1<=l.length)->(b.lead s e l n).fr.length<=b.fr.length+2*l.length+2)/\(b.lead s e l n).st.length<=b.st.length+1:=by
 have:=b3N s e l
 cases n with
 |rep lo hi c=>
  have:=b3M lo e l 0
  simp only[NS.lead,NS.frees,List.length_append]
  refine ⟨λ_=>?_,oM⟩
  split<;>split<;>simp<;>omega
 |uni l'=>simp only[NS.lead,NS.frees,List.length_append]; exact ⟨λ_=>oM,oM⟩
 |star c=>simp[NS.lead,NS.frees,isK]; omega
 |plus c=>simp[NS.lead,NS.frees,isK]; omega
 |opt c=>simp[NS.lead,NS.frees,isK]; omega
 |set k=>simp[NS.lead,NS.step]; omega
 |emp=>simp[NS.lead]; omega
 |eps=>simp[NS.lead,NS.frees]; omega
 |join l'=>simp[NS.lead]; omega
theorem a1A (hp:SzP p m)(hm:isK n=true->1<=m)(b:NS):Sz b (NS.around n p b).2 0/\((NS.around n p b).2.much=false->Sz b (NS.around n p b).2 2):=by
 simp only[NS.around]
 by_cases q:b.much=true
 ·rw[if_pos q]; exact ⟨Sz.refl b,λz=>by rw[q] at z; cases z⟩
 rw[if_neg q]
 simp only
 obtain ⟨s1,s2⟩:=b1w b
 obtain ⟨p1,p2,p3⟩:=hp b.state.2
 obtain ⟨e1,e2⟩:=b1w (p b.state.2).2
 have all:=(s1.trans p1).trans e1
 by_cases q2:(p b.state.2).2.state.2.much=true
 ·rw[if_pos q2]; exact ⟨all,λz=>by rw[q2] at z; cases z⟩
 rw[if_neg q2]
 rw[Bool.not_eq_true] at q2
 have m1:(p b.state.2).2.much=false:=by
  cases hm:(p b.state.2).2.much with
  |false=>rfl
  |true=>rw[NS.state] at q2; split at q2<;>simp[hm] at q2
 obtain ⟨x1,x2,x3⟩:=e2 q2
 obtain ⟨sl,sl2,mb⟩:=p3 m1
 have h1:=s1.n; have h2:=s1.fr; have h3:=s1.st
 have h4:=sl.n; have h5:=sl.fr; have h6:=sl.st
 obtain ⟨L1,L2⟩:=c2D (p b.state.2).2.state.2 b.state.1 (p b.state.2).2.state.1 (p b.state.2).1 n
 replace L1:=L1 λz=>by have:=hm z; omega
 have ln:((p b.state.2).2.state.2.lead b.state.1 (p b.state.2).2.state.1 (p b.state.2).1 n).n=(p b.state.2).2.state.2.n:=by cases n<;>rfl
 obtain ⟨y1,y2,y3⟩:=s2 mb
 have key:Sz b ((p b.state.2).2.state.2.lead b.state.1 (p b.state.2).2.state.1 (p b.state.2).1 n) 2:=by
  rw[x2] at L1
  rw[x3] at L2
  rw[y2] at h5
  rw[y3] at h6
  exact ⟨oM,oM,oM,λz=>by rw[ln]; exact all.top z⟩
 exact ⟨key.le oM,λ_=>key⟩
theorem szn (n:Nd):Gd n->SzN n:=by
 refine Nd.ind (p:=λn=>Gd n->SzN n) (λn ih g=>?_) n
 have k:∀c∈n.kids,SzN c:=λc hc=>ih c hc (g.kid c hc)
 cases n with
 |set s=>intro b; rw[NS.part]; exact a1A b3L (λz=>by cases z) b
 |emp=>intro b; rw[NS.part]; exact a1A b3L (λz=>by cases z) b
 |eps=>intro b; rw[NS.part]; exact a1A b3L (λz=>by cases z) b
 |uni l=>intro b; rw[NS.part]; exact a1A (a7r l k) (λz=>by cases z) b
 |star c=>intro b; rw[NS.part]; exact a1A (a7s (k c (by simp[Nd.kids])) 1) (λ_=>Nat.le_refl _) b
 |plus c=>intro b; rw[NS.part]; exact a1A (a7s (k c (by simp[Nd.kids])) 1) (λ_=>Nat.le_refl _) b
 |opt c=>intro b; rw[NS.part]; exact a1A (a7s (k c (by simp[Nd.kids])) 1) (λ_=>Nat.le_refl _) b
 |rep lo hi c=>intro b; rw[NS.part]; exact a1A (a7s (k c (by simp[Nd.kids])) hi) (λz=>by cases z) b
 |join l=>
  intro b
  rw[NS.part]
  simp only[NS.joined]
  by_cases q:b.much=true
  ·rw[if_pos q]; exact ⟨Sz.refl b,λz=>by rw[q] at z; cases z⟩
  rw[if_neg q]
  obtain ⟨p1,p2,p3⟩:=a7r l k b
  by_cases q2:(NS.parts l b).2.much=true
  ·rw[if_pos q2]; exact ⟨p1,λz=>by rw[q2] at z; cases z⟩
  rw[if_neg q2]
  rw[Bool.not_eq_true] at q2
  obtain ⟨sl,sl2,_⟩:=p3 q2
  have hl:2<=l.length:=g.rt
  have:=b5n (NS.parts l b).1
  have h4:=sl.n; have h5:=sl.fr; have h6:=sl.st
  have key:Sz b ((NS.parts l b).2.frees (NS.joinE (NS.parts l b).1)) 2:=⟨h4,by simp only[NS.frees,List.length_append]; omega,h6,sl.top⟩
  exact ⟨key.le oM,λ_=>key⟩
structure NSok (b:NS):Prop where
 n:b.n<=1000
 fr:b.fr.length<=2*b.n
 st:b.st.length<=b.n
theorem NSok.new:NSok NS.new:=⟨by simp[NS.new],by simp[NS.new],by simp[NS.new]⟩
theorem NSok.sz (o:NSok b)(s:Sz b b' k):NSok b':=by
 have:=o.fr; have:=o.st; have:=s.n; have:=s.fr; have:=s.st
 exact ⟨s.top o.n,oM,oM⟩
end Go.Gm
namespace Go.Gm.AZ
open Go Go.Gm
def encS (x:Nat × Nat × Nat):List AV:=[I x.1,I x.2.1,I x.2.2]
def encF (x:Nat × Nat):List AV:=[I x.1,I x.2]
def encN' (n:Nat):List AV:=[I n]
def BV (W:Nat->Prop)(h:Heap)(ob:Nat)(b:NS):Prop:=
 ∃(sS sF:AV) (oS oF:Nat),h[ob]?=some (.cells ⟨[I b.n,I 0,I 0,sS,sF,.bool b.much],0,0,false⟩)/\Gr oS (oS+1) h 3 sS (b.st.map encS)/\Gr oF (oF+1) h 2 sF (b.fr.map encF)/\W ob/\
  (sS≠.nils->W oS/\oS<h.length/\oS≠ob)/\(sF≠.nils->W oF/\oF<h.length/\oF≠ob/\(sS≠.nils->oF≠oS))
section
variable {W:Nat->Prop} {h h':Heap} {ob:Nat} {b:NS}
theorem BV.lt (v:BV W h ob b):ob<h.length/\W ob:=by
 obtain ⟨sS,sF,oS,oF,h1,_,_,h4,_⟩:=v
 exact ⟨(List.getElem?_eq_some_iff.1 h1).1,h4⟩
theorem t6_ (g:Gr lo (lo+1) h sz s xs)(f:FrS D h h')(hd:s≠.nils->¬D lo):Gr lo (lo+1) h' sz s xs:=by
 by_cases q:s=.nils
 ·subst q
  have:=g.isNil
  subst this
  exact Gr.nil ..
 ·exact g.frs f λo q1 q2=>by rw[show o=lo by omega]; exact hd q
theorem BV.frs (v:BV W h ob b)(f:FrS D h h')(hd:∀o,o<h.length->W o->¬D o):BV W h' ob b:=by
 have ⟨l1,l2⟩:=v.lt
 have l:=f.len
 obtain ⟨sS,sF,oS,oF,h1,h2,h3,h4,h5,h6⟩:=v
 refine ⟨sS,sF,oS,oF,by rw[f.get (hd _ l1 l2) l1]; exact h1,t6_ h2 f λz=>hd _ (h5 z).2.1 (h5 z).1,t6_ h3 f λz=>hd _ (h6 z).2.1 (h6 z).1,h4,λz=>?_,λz=>?_⟩
 ·have:=h5 z; exact ⟨this.1,oM,this.2.2⟩
 ·have:=h6 z; exact ⟨this.1,oM,this.2.2⟩
theorem BV.ext (v:BV W h ob b)(e:Ext h h'):BV W h' ob b:=v.frs (D:=λ_=>False) (FrS.ofExt e) λ_ _ _ z=>z
theorem BV.mono (v:BV W h ob b){W':Nat->Prop}(hw:∀o,o<h.length->W o->W' o):BV W' h ob b:=by
 have ⟨l1,l2⟩:=v.lt
 obtain ⟨sS,sF,oS,oF,h1,h2,h3,h4,h5,h6⟩:=v
 exact ⟨sS,sF,oS,oF,h1,h2,h3,hw _ l1 l2,λz=>⟨hw _ (h5 z).2.1 (h5 z).1,(h5 z).2⟩,λz=>⟨hw _ (h6 z).2.1 (h6 z).1,(h6 z).2⟩⟩
def Wn (W:Nat->Prop)(h h':Heap):Nat->Prop:=λo=>W o\/(h.length<=o/\o<h'.length)
theorem BV.setB (v:BV W h ob b)(n:Nat)(m:Bool):∃sS sF,h[ob]?=some (.cells ⟨[I b.n,I 0,I 0,sS,sF,.bool b.much],0,0,false⟩)/\BV W (h.set ob (.cells ⟨[I n,I 0,I 0,sS,sF,.bool m],0,0,false⟩)) ob ⟨n,m,b.st,b.fr⟩:=by
 have ⟨l1,l2⟩:=v.lt
 obtain ⟨sS,sF,oS,oF,h1,h2,h3,h4,h5,h6⟩:=v
 have f:∀x,FrS (λp=>p=ob) h (h.set ob x):=λx=>⟨by simp,λp p1 p2=>a9_ λz=>p1 z.symm⟩
 exact ⟨sS,sF,h1,sS,sF,oS,oF,a0_ l1,t6_ h2 (f _) λz=>(h5 z).2.2,t6_ h3 (f _) λz=>(h6 z).2.2.1,h4,λz=>by simpa using h5 z,λz=>by simpa using h6 z⟩
theorem b2Z (v:BV W h ob b)(hn:b.n<=1000):Tot tab l7_ [.ptr ob 0 6 0] h λr h'=>r=I b.state.1/\BV W h' ob b.state.2/\FrS W h h'/\h'.length=h.length:=by
 refine WP.tot (a5V · ..) ?_
 have ⟨l1,l2⟩:=v.lt
 have f:∀x,FrS W h (h.set ob x):=λx=>⟨by simp,λp p1 p2=>a9_ λz=>p1 (z▸l2)⟩
 by_cases q:1000<=b.n
 ·obtain ⟨sS,sF,r1,v1⟩:=v.setB b.n true
  have e:b.state=(0,⟨b.n,true,b.st,b.fr⟩):=by rw[NS.state,if_pos q]
  refine g1 @r1 ?_
  rw[e]
  exact WP.ret ⟨rfl,v1,f _,by simp⟩
 ·obtain ⟨sS,sF,r1,v1⟩:=v.setB (b.n+1) b.much
  have e:b.state=(b.n,⟨b.n+1,b.much,b.st,b.fr⟩):=by rw[NS.state,if_neg q]
  refine g1 @r1 ?_
  rw[e]
  refine WP.ret ⟨?_,v1,f _,by simp⟩
  show I _=I _
  congr 1
  omega
theorem b9a (v:BV W h ob b)(hl:b.fr.length<=1000000)(x y:Nat):Tot tab a2_ [.ptr ob 0 6 0,I x,I y] h λr h'=>r=.tup []/\BV (Wn W h h') h' ob (b.frees [(x,y)])/\FrS W h h':=by
 refine WP.tot (a6n · ..) ?_
 have ⟨l1,l2⟩:=v.lt
 obtain ⟨sS,sF,oS,oF,h1,h2,h3,h4,h5,h6⟩:=v
 have lit:=Gr.lit (h:=h) (sz:=2) (v:=encF (x,y)) rfl
 have e1:Ext h (mkObj h (encF (x,y))):=Ext.push _ _
 rw[a3_] at lit e1
 obtain ⟨s',h',o',q1,q2,q3,q4,q5⟩:=Gr.appQ (bytes:=16) (h3.ext e1) (λz=>by have:=h6 z; simp; omega) lit.sl oM oM (by simp; omega)
 have f:=(FrS.ofExt (D:=λp=>sF≠.nils/\p=oF) e1).trans q4
 have hl2:=f.len
 have hll:(h++[AObj.cells ⟨encF (x,y),0,0,false⟩]).length=h.length+1:=by simp
 have ro:=(f.get (o:=ob) (λz=>(h6 z.1).2.2.1 z.2.symm) l1).trans h1
 have bo:=(List.getElem?_eq_some_iff.1 ro).1
 have o1:=q2.sl.one
 have o2:=q2.sl.cells
 simp only[encF] at q1
 refine g5 @h1 @q1 @ro @o1 @o2 ?_
 have fs:∀y,FrS (λp=>p=ob) h' (h'.set ob y):=λy=>⟨by simp,λp p1 p2=>a9_ λz=>p1 z.symm⟩
 have q3':s'≠.nils->(W o'\/(h.length<=o'/\o'<h'.length))/\o'<h'.length/\o'≠ob/\(sS≠.nils->o'≠oS):=λz=>by
  obtain ⟨z1,z2⟩:=q3 z
  rcases z1 with ⟨rfl,z3⟩|z1
  ·have:=h6 z3
   exact ⟨.inl this.1,z2,this.2.2⟩
  ·refine ⟨.inr ⟨oM,z2⟩,z2,oM,λz4=>?_⟩
   have:=h5 z4; omega
 have gS:=t6_ h2 f λz1 z2=>(h6 z2.1).2.2.2 z1 z2.2.symm
 refine WP.ret ⟨rfl,⟨sS,s',oS,o',a0_ bo,t6_ gS (fs _) λz=>(h5 z).2.2,t6_ (q2.cong ?_) (fs _) λz=>(q3' z).2.2.1,.inl h4,λz=>⟨.inl (h5 z).1,by have:=(h5 z).2.1; simp; omega,(h5 z).2.2⟩,λz=>⟨by simpa [Wn] using (q3' z).1,by simpa using (q3' z).2.1,(q3' z).2.2⟩⟩,⟨by simp; omega,λp p1 p2=>?_⟩⟩
 ·simp[NS.frees,encF]
 ·rw[a9_ (o:=ob) (p:=p) (λz=>p1 (by rw[<-z]; exact l2)),f.get (o:=p) (λz=>p1 (by rw[z.2]; exact (h6 z.1).1)) p2]
theorem c3s (v:BV W h ob b)(hl:b.st.length<=1000000)(x:Nat × Nat × Nat):∃sS sF s' h',h[ob]?=some (.cells ⟨[I b.n,I 0,I 0,sS,sF,.bool b.much],0,0,false⟩)/\apnd 3 24 sS (.sl h.length 0 1 3 none 0) (h++[AObj.cells ⟨[I x.1,I x.2.1,I x.2.2],0,0,false⟩])=some (s',h')/\s'.one=true/\s'.cells=[s']/\
  h'[ob]?=some (.cells ⟨[I b.n,I 0,I 0,sS,sF,.bool b.much],0,0,false⟩)/\BV (Wn W h h') (h'.set ob (.cells ⟨[I b.n,I 0,I 0,s',sF,.bool b.much],0,0,false⟩)) ob (b.step x.1 x.2.1 x.2.2)/\FrS W h (h'.set ob (.cells ⟨[I b.n,I 0,I 0,s',sF,.bool b.much],0,0,false⟩)):=by
 have ⟨l1,l2⟩:=v.lt
 obtain ⟨sS,sF,oS,oF,h1,h2,h3,h4,h5,h6⟩:=v
 have lit:=Gr.lit (h:=h) (sz:=3) (v:=encS x) rfl
 have e1:Ext h (mkObj h (encS x)):=Ext.push _ _
 rw[a3_] at lit e1
 obtain ⟨s',h',o',q1,q2,q3,q4,q5⟩:=Gr.appQ (bytes:=24) (h2.ext e1) (λz=>by have:=h5 z; simp; omega) lit.sl oM oM (by simp; omega)
 have f:=(FrS.ofExt (D:=λp=>sS≠.nils/\p=oS) e1).trans q4
 have hl2:=f.len
 have hll:(h++[AObj.cells ⟨encS x,0,0,false⟩]).length=h.length+1:=by simp
 have ro:=(f.get (o:=ob) (λz=>(h5 z.1).2.2 z.2.symm) l1).trans h1
 have bo:=(List.getElem?_eq_some_iff.1 ro).1
 have fs:∀y,FrS (λp=>p=ob) h' (h'.set ob y):=λy=>⟨by simp,λp p1 p2=>a9_ λz=>p1 z.symm⟩
 have q3':s'≠.nils->(W o'\/(h.length<=o'/\o'<h'.length))/\o'<h'.length/\o'≠ob/\(sF≠.nils->oF≠o'):=λz=>by
  obtain ⟨z1,z2⟩:=q3 z
  rcases z1 with ⟨rfl,z3⟩|z1
  ·have:=h5 z3
   exact ⟨.inl this.1,z2,this.2.2,λz4=>(h6 z4).2.2.2 z3⟩
  ·refine ⟨.inr ⟨oM,z2⟩,z2,oM,λz4=>?_⟩
   have:=h6 z4; omega
 have gF:=t6_ h3 f λz1 z2=>(h6 z1).2.2.2 z2.1 z2.2
 refine ⟨sS,sF,s',h',h1,q1,q2.sl.one,q2.sl.cells,ro,⟨s',sF,o',oF,a0_ bo,t6_ (q2.cong ?_) (fs _) λz=>(q3' z).2.2.1,t6_ gF (fs _) λz=>(h6 z).2.2.1,.inl h4,λz=>⟨by simpa [Wn] using (q3' z).1,by simpa using (q3' z).2.1,(q3' z).2.2.1⟩,λz=>⟨.inl (h6 z).1,by have:=(h6 z).2.1; simp; omega,(h6 z).2.2.1,λz2=>(q3' z2).2.2.2 z⟩⟩,⟨by simp; omega,λp p1 p2=>?_⟩⟩
 ·simp[NS.step,encS]
 ·rw[a9_ (o:=ob) (p:=p) (λz=>p1 (by rw[<-z]; exact l2)),f.get (o:=p) (λz=>p1 (by rw[z.2]; exact (h5 z.1).1)) p2]
def FQ (W:Nat->Prop)(h:Heap)(ob:Nat)(b:NS)(l:List (Nat × Nat))(h':Heap):Prop:=BV (Wn W h h') h' ob (b.frees l)/\FrS W h h'
theorem Wn.step {h1 h2:Heap}(l1:h.length<=h1.length)(l2:h1.length<=h2.length):∀o,Wn (Wn W h h1) h1 h2 o->Wn W h h2 o:=by
 intro o z
 rcases z with (z|z)|z
 ·exact .inl z
 ·exact .inr ⟨z.1,oM⟩
 ·exact .inr ⟨oM,z.2⟩
theorem FrS.wn (f1:FrS W h h1)(f2:FrS (Wn W h h1) h1 h2):FrS W h h2:=
 ⟨Nat.le_trans f1.1 f2.1,λo o1 o2=>(f2.get (λz=>by
  rcases z with z|z
  ·exact o1 z
  ·omega) (Nat.lt_of_lt_of_le o2 f1.1)).trans (f1.get o1 o2)⟩
end
end Go.Gm.AZ
namespace Go.Gm.AZ
open Go Go.Gm
section
variable {W:Nat->Prop} {h h':Heap} {ob:Nat} {b:NS}
theorem b5c (b:NS):b.frees []=b:=by cases b; simp[NS.frees]
theorem c0i (b:NS)(x y:List (Nat × Nat)):(b.frees x).frees y=b.frees (x++y):=by simp[NS.frees]
theorem FQ.zero (v:BV W h ob b):FQ W h ob b [] h:=⟨by rw[b5c]; exact v.mono λo _ z=>.inl z,FrS.refl _ _⟩
theorem FQ.free (q:FQ W h ob b l h1)(hl:b.fr.length+l.length<=1000000)(x y:Nat):Tot tab a2_ [.ptr ob 0 6 0,I x,I y] h1 λr h2=>r=.tup []/\FQ W h ob b (l++[(x,y)]) h2:=by
 refine (b9a q.1 (by simp[NS.frees]; exact hl) x y).mono ?_
 rintro _ h2 ⟨rfl,v,f⟩
 rw[c0i] at v
 exact ⟨rfl,v.mono λo _ z=>Wn.step q.2.len f.len o z,FrS.wn q.2 f⟩
structure FT (W:Nat->Prop) (h:Heap) (sf st:AV) (ft:List (Nat × Nat)):Prop where
 f:Sl h 1 sf ((ft.map (·.1)).map encN')
 t:Sl h 1 st ((ft.map (·.2)).map encN')
 nf:sf≠.nils->¬W sf.obj
 nt:st≠.nils->¬W st.obj
theorem FT.frs (a:FT W h sf st ft)(f:FrS W h h'):FT W h' sf st ft:=⟨Sl.frs a.f f a.nf,Sl.frs a.t f a.nt,a.nf,a.nt⟩
theorem FT.ext (a:FT W h sf st ft)(e:Ext h h'):FT W h' sf st ft:=⟨a.f.ext e,a.t.ext e,a.nf,a.nt⟩
theorem a5v {ft:List (Nat × Nat)}{i:Nat}(hx:ft[i]?=some x):gi (ft.map (·.1)) (i:Int)=x.1/\gi (ft.map (·.2)) (i:Int)=x.2/\i<ft.length:=by
 have hi:=(List.getElem?_eq_some_iff.1 hx).1
 rw[b2_ (by simpa using hi),b2_ (by simpa using hi)]
 rw[List.getElem?_eq_getElem hi] at hx
 injection hx with hx
 simp[hx,hi]
theorem b2y {α:Type}{l:List α}{i:Nat}{e:α}(h:l[i]?=some e):l.take (i+1)=l.take i++[e]:=by
 rw[List.take_add_one,h]; rfl
theorem c0j {ft:List (Nat × Nat)}{i:Nat}(hx:ft[i]?=some x):NS.uniE s e (ft.take (i+1))=NS.uniE s e (ft.take i)++[(s,x.1)]++[(x.2,e)]:=by
 rw[b2y hx]
 simp[NS.uniE]
theorem c3t (a:FT W h sf st ft)(hl:b.fr.length<=10000)(hft:ft.length<=2000){Q:AV->Heap->Prop}(hQ:∀h1,FQ W h ob b (NS.uniE s e ft) h1->Q (.tup []) h1) :
  ∀(d i:Nat) (h1:Heap),i+d=ft.length->FQ W h ob b (NS.uniE s e (ft.take i)) h1->
   WP (λp:Nat × Nat=>l5_ p.1 p.2 (.ptr ob 0 6 0) (I s) (I e) sf st (I i) h1) Q:=by
 intro d
 induction d with
 |zero=>
  intro i h1 hi q
  refine WP.rnd (a0M · · ..) ?_
  have hf:=(a.frs q.2).f.lenG
  rw[List.length_map] at hf
  rw[List.take_of_length_le oM] at q
  refine g1 @hf ?_
  exact WP.ret (hQ h1 q)
 |succ d ih=>
  intro i h1 hi q
  refine WP.rnd (a0M · · ..) ?_
  obtain ⟨x,hx⟩:∃x,ft[i]?=some x:=⟨ft[i],List.getElem?_eq_getElem oM⟩
  obtain ⟨g1,g2,_⟩:=a5v hx
  have f1:=(a.frs q.2).f
  have hf:=f1.lenG
  rw[List.length_map] at hf
  have lm1:(ft.map (·.1)).length=ft.length:=List.length_map ..
  have lm2:(ft.map (·.2)).length=ft.length:=List.length_map ..
  have hul:(NS.uniE s e (ft.take i)).length<=4000:=by rw[b3N,List.length_take]; omega
  refine g7 @hf f1.idxG f1.ld0 @g1 @encN'.eq_1 @lm1 @lm2 ?_
  refine WP.call (q.free oM s x.1) ?_
  rintro _ h2 ⟨rfl,q2⟩
  have t2:=(a.frs q2.2).t
  refine g6 t2.idxG t2.ld0 @g2 @encN'.eq_1 @lm1 @lm2 ?_
  refine WP.call (q2.free (by rw[List.length_append]; simp; omega) x.2 e) ?_
  rintro _ h3 ⟨rfl,q3⟩
  refine ih (i+1) h3 oM ?_
  rw[c0j hx]; exact q3
def rpO (lo e:Nat)(ft:List (Nat × Nat))(k:Nat):List (Nat × Nat):=
 (if k+1=ft.length\/lo<=k+1 then [((ft.getD k (0,0)).2,e)] else [])++if k+1=ft.length then [] else [((ft.getD k (0,0)).2,(ft.getD (k+1) (0,0)).1)]
def rpE (lo e:Nat)(ft:List (Nat × Nat)):Nat->List (Nat × Nat)
 |0=>[]
 |k+1=>rpE lo e ft k++rpO lo e ft k
theorem b7Z (lo e:Nat)(ft:List (Nat × Nat)):∀k,(rpE lo e ft k).length<=2*k
 |0=>by simp[rpE]
 |k+1=>by
  have:=b7Z lo e ft k
  simp only[rpE,rpO,List.length_append]
  split<;>split<;>simp<;>omega
theorem b8a (lo e:Nat):∀(ft:List (Nat × Nat)) (i:Nat),NS.repE lo e i ft=(List.range ft.length).flatMap λk=>(if k+1=ft.length\/lo<=i+k+1 then [((ft.getD k (0,0)).2,e)] else [])++if k+1=ft.length then [] else [((ft.getD k (0,0)).2,(ft.getD (k+1) (0,0)).1)]
 |[],i=>by simp[NS.repE]
 |[f],i=>by simp[NS.repE]
 |f::g::l,i=>by
  have ih:=b8a lo e (g::l) (i+1)
  rw[NS.repE,ih,show (f::g::l).length=(g::l).length+1 from rfl,List.range_succ_eq_map,List.flatMap_cons,List.flatMap_map]
  simp only[Nat.zero_add,List.getD_cons_zero,List.getD_cons_succ,List.length_cons]
  have h1:¬(1=l.length+1+1):=oM
  simp only[h1,false_or,if_false,Nat.add_zero]
  rw[List.append_assoc]
  congr 1
  rw[List.singleton_append]
  congr 1
  congr 1
  funext k
  simp only[Nat.succ_eq_add_one,Nat.add_right_cancel_iff]
  rw[show i+1+k+1=i+(k+1)+1 by omega]
theorem c3u (lo e:Nat)(ft:List (Nat × Nat)):NS.repE lo e 0 ft=rpE lo e ft ft.length:=by
 rw[b8a]
 have:∀n,(List.range n).flatMap (λk=>(if k+1=ft.length\/lo<=0+k+1 then [((ft.getD k (0,0)).2,e)] else [])++if k+1=ft.length then [] else [((ft.getD k (0,0)).2,(ft.getD (k+1) (0,0)).1)])=rpE lo e ft n:=by
  intro n
  induction n with
  |zero=>rfl
  |succ n ih=>rw[List.range_succ,List.flatMap_append,ih,rpE]; simp[rpO]
 exact this _
theorem c0k {s e lo o7:Nat}{c1 c2 c4 c5:AV}{pre:List (Nat × Nat)}(a:FT W h sf st ft)(hl:b.fr.length<=10000)(hft:ft.length<=2000)(hpre:pre.length<=10)(hlo:lo<=2000)(r7:h[o7]?=some (.cells ⟨[c1,c2,I lo,c4,c5],0,0,false⟩))(w7:¬W o7){Q:AV->Heap->Prop}(hQ:∀h1,FQ W h ob b (pre++NS.repE lo e 0 ft++if lo=0 then [(s,e)] else []) h1->Q (.tup []) h1) :
  ∀(d i:Nat) (h1:Heap),i+d=ft.length->FQ W h ob b (pre++rpE lo e ft i) h1->
   WP (λp:Nat × Nat=>f6_ p.1 p.2 (.ptr ob 0 6 0) (I s) (I e) sf st (.ptr o7 0 5 0) (I i) h1) Q:=by
 have b7:=(List.getElem?_eq_some_iff.1 r7).1
 have row:∀{l h1},FQ W h ob b l h1->h1[o7]?=some (.cells ⟨[c1,c2,I lo,c4,c5],0,0,false⟩):=λq=>by rw[q.2.get w7 b7]; exact r7
 have lm1:(ft.map (·.1)).length=ft.length:=List.length_map ..
 have lm2:(ft.map (·.2)).length=ft.length:=List.length_map ..
 intro d
 induction d with
 |zero=>
  intro i h1 hi q
  refine WP.rnd (a0m · · ..) ?_
  have hf:=(a.frs q.2).f.lenG
  rw[List.length_map] at hf
  obtain rfl:i=ft.length:=oM
  rw[<-c3u] at q
  refine g1 @hf ?_
  refine WP.lv (WP.congr (λk:Nat=>a4I k (.ptr ob 0 6 0) (I s) (I e) (.ptr o7 0 5 0) h1) ?_) λi j=>rfl
  have r1:=row q
  have hrl:(NS.repE lo e 0 ft).length<=4000:=by have:=b3M lo e ft 0; omega
  by_cases q0:lo=0
  ·have q0':(lo:Int)=0:=oM
   refine g2 @r1 @q0' ?_
   refine WP.call (q.free (by rw[List.length_append]; omega) s e) ?_
   rintro _ h2 ⟨rfl,q2⟩
   rw[if_pos q0] at hQ
   exact WP.ret (hQ h2 q2)
  ·rw[if_neg q0,List.append_nil] at hQ
   refine g1 @r1 ?_
   exact WP.ret (hQ h1 q)
 |succ d ih=>
  intro i h1 hi q
  refine WP.rnd (a0m · · ..) ?_
  obtain ⟨x,hx⟩:∃x,ft[i]?=some x:=⟨ft[i],List.getElem?_eq_getElem oM⟩
  obtain ⟨g1,g2,hil⟩:=a5v hx
  have f1:=(a.frs q.2).f
  have t1:=(a.frs q.2).t
  have hf:=f1.lenG
  rw[List.length_map] at hf
  have r1:=row q
  have hrl:=b7Z lo e ft i
  have gx:ft.getD i (0,0)=x:=by rw[List.getD_eq_getElem?_getD,hx]; rfl
  have b3:∀(h2:Heap),FQ W h ob b (pre++rpE lo e ft i++(if i+1=ft.length\/lo<=i+1 then [(x.2,e)] else [])) h2->
    WP (λp:Nat × Nat=>j2_ p.1 p.2 (.ptr ob 0 6 0) (I s) (I e) sf st (.ptr o7 0 5 0) (I i) (.bool (decide (i+1=ft.length))) h2) Q:=by
   intro h2 q2
   refine WP.congr (λp=>a4H p.1 p.2 ..) ?_
   by_cases z:i+1=ft.length
   ·rw[decide_eq_true z]
    refine g0 ?_
    refine ih (i+1) h2 oM ?_
    rw[rpE,rpO,gx,if_pos z,List.append_nil,<-List.append_assoc]
    exact q2
   ·rw[decide_eq_false z]
    obtain ⟨y,hy⟩:∃y,ft[i+1]?=some y:=⟨ft[i+1],List.getElem?_eq_getElem oM⟩
    obtain ⟨k1,k2,_⟩:=a5v hy
    have k1':gi (ft.map (·.1)) ((i:Int)+1)=y.1:=by rw[show (i:Int)+1=((i+1:Nat):Int) by omega]; exact k1
    have gy:ft.getD (i+1) (0,0)=y:=by rw[List.getD_eq_getElem?_getD,hy]; rfl
    have f2:=(a.frs q2.2).f
    have t2:=(a.frs q2.2).t
    refine g9 f2.idxG f2.ld0 t2.idxG t2.ld0 @g2 @k1' @encN'.eq_1 @lm1 @lm2 ?_
    refine WP.call (q2.free (by simp only[List.length_append]; split<;>simp<;>omega) x.2 y.1) ?_
    rintro _ h3 ⟨rfl,q3⟩
    refine ih (i+1) h3 oM ?_
    rw[rpE,rpO,gx,gy,if_neg z,<-List.append_assoc,<-List.append_assoc]
    exact q3
  by_cases z:i+1=ft.length
  ·have z1:(i:Int)=(ft.length:Int)-1:=oM
   have z2:binV .eql .scalar (I i) (I ((ft.length:Int)-1))=some (.bool true):=eql_t z1
   refine g8 @hf @z2 t1.idxG t1.ld0 @g2 @encN'.eq_1 @lm1 @lm2 ?_
   refine WP.call (q.free (by simp only[List.length_append]; omega) x.2 e) ?_
   rintro _ h2 ⟨rfl,q2⟩
   have:=b3 h2 (by rw[if_pos (.inl z)]; exact q2)
   rw[decide_eq_true z] at this
   exact this
  ·by_cases y:lo<=i+1
   ·simp -implicitDefEqProofs (disch:=first|assumption|omega|exact Ext.refl _|(simp only[gL,gA]<;>omega)|fail) only[cG,reduceIte,hf,r1,t1.idxG,t1.ld0,g2,encN',lm1,lm2]
    refine WP.call (q.free (by simp only[List.length_append]; omega) x.2 e) ?_
    rintro _ h2 ⟨rfl,q2⟩
    have:=b3 h2 (by rw[if_pos (.inr y)]; exact q2)
    rw[decide_eq_false z] at this
    exact this
   ·simp -implicitDefEqProofs (disch:=first|assumption|omega|(simp only[gL,gA]<;>omega)|fail) only[cG,reduceIte,hf,r1]
    have:=b3 h1 (by rw[if_neg (λw=>w.elim z y),List.append_nil]; exact q)
    rw[decide_eq_false z] at this
    exact this
end
end Go.Gm.AZ
namespace Go.Gm.AZ
open Go Go.Gm
section
variable {W:Nat->Prop} {h h':Heap} {ob:Nat} {b:NS}
theorem FT.box (a:FT W h sf st ft)(x:AObj):FT W (h++[x]) sf st ft:=a.ext (Ext.push _ _)
theorem FQ.out (e:Ext h h2)(q:FQ W h2 ob b l h3):BV (Wn W h h3) h3 ob (b.frees l)/\FrS W h h3:=
 ⟨q.1.mono λo _ z=>z.elim .inl λz=>.inr ⟨by have:=e.len; omega,z.2⟩,(FrS.ofExt e).trans (q.2.mono λo _ z=>z)⟩
theorem b6z {sf st s5:AV}{s e lo hi:Nat}(v:BV W h ob b)(hW:∀o,W o->o<h.length)(a:FT W h sf st ft)(hl:b.fr.length<=10000)(hft:ft.length=hi)(hhi:hi<=9)(hlo:lo<=hi)(h5:s5.one=true) :
  Tot tab c8_ [.ptr ob 0 6 0,.agg [I 9,I 0,I lo,I hi,s5],I s,I e,sf,st] h λr h'=>r=.tup []/\BV (Wn W h h') h' ob (b.lead s e ft (.rep lo hi c))/\FrS W h h':=by
 refine WP.tot (a5G · ..) ?_
 obtain ⟨h2,hh2⟩:∃h2,h2=h++[AObj.cells ⟨[I 9,I 0,I lo,I hi,s5],0,0,false⟩]:=⟨_,rfl⟩
 have e2:Ext h h2:=by rw[hh2]; exact Ext.push _ _
 have r2:h2[h.length]?=some (.cells ⟨[I 9,I 0,I lo,I hi,s5],0,0,false⟩):=by rw[hh2]; simp
 have w7:¬W h.length:=λz=>by have:=hW _ z; omega
 have q0:=FQ.zero (v.ext e2)
 have a2:=a.ext e2
 have lm1:(ft.map (·.1)).length=ft.length:=List.length_map ..
 by_cases q:0<hi
 ·obtain ⟨x,hx⟩:∃x,ft[0]?=some x:=⟨ft[0],List.getElem?_eq_getElem oM⟩
  have g1:gi (ft.map (·.1)) 0=x.1:=(a5v hx).1
  have ehd:NS.hd ft=x:=by
   cases ft with
   |nil=>simp at hx
   |cons y l=>simp at hx; subst hx; rfl
  simp -implicitDefEqProofs (disch:=first|assumption|omega|(simp only[gL,gA]<;>omega)|fail) only[cG,reduceIte,h5]
  rw[<-hh2]
  refine g5 a2.f.idxG a2.f.ld0 @g1 @encN'.eq_1 @lm1 ?_
  refine WP.call (q0.free (by simp; omega) s x.1) ?_
  rintro _ h3 ⟨rfl,q1⟩
  refine WP.congr (λk:Nat=>a0n k (.ptr ob 0 6 0) (I s) (I e) sf st (.ptr h.length 0 5 0) h3) ?_
  refine WP.ent (c0k (pre:=[(s,x.1)]) a2 hl oM (by simp) oM r2 w7 (λh4 q4=>⟨rfl,?_⟩) ft.length 0 h3 oM (by rw[rpE,List.append_nil]; exact q1)) λi=>rfl
  have:=q4.out e2
  simp only[NS.lead,ehd,if_pos q]
  exact this
 ·refine g1 @h5 ?_
  rw[<-hh2]
  refine WP.congr (λk:Nat=>a0n k (.ptr ob 0 6 0) (I s) (I e) sf st (.ptr h.length 0 5 0) h2) ?_
  refine WP.ent (c0k (pre:=[]) a2 hl oM (by simp) oM r2 w7 (λh4 q4=>⟨rfl,?_⟩) ft.length 0 h2 oM (by rw[rpE]; exact q0)) λi=>rfl
  have:=q4.out e2
  simp only[NS.lead,if_neg q]
  exact this
def LdOk (ft:List (Nat × Nat)):Nd->Prop
 |.star _|.plus _|.opt _=>ft.length=1
 |.rep lo hi _=>ft.length=hi/\hi<=9/\lo<=hi
 |.join _=>False
 |_=>ft.length<=2000
theorem b9b {sf st s5:AV}{ft:List (Nat × Nat)}{s e:Nat}{n:Nd}(v:BV W h ob b)(hW:∀o,W o->o<h.length)(a:FT W h sf st ft)(hl:b.fr.length<=10000)(hst:b.st.length<=10000)(hn:LdOk ft n)(h5:s5.one=true) :
  Tot tab n2_ [.ptr ob 0 6 0,.agg [I n.kind,I n.st,I n.lo,I n.hi,s5],I s,I e,sf,st] h λr h'=>r=.tup []/\BV (Wn W h h') h' ob (b.lead s e ft n)/\FrS W h h':=by
 refine WP.tot (a6l · ..) ?_
 have lm1:(ft.map (·.1)).length=ft.length:=List.length_map ..
 have lm2:(ft.map (·.2)).length=ft.length:=List.length_map ..
 obtain ⟨c5,hc5⟩:∃c5,c5=[I n.kind,I n.st,I n.lo,I n.hi,s5]:=⟨_,rfl⟩
 obtain ⟨h2,hh2⟩:∃h2,h2=h++[AObj.cells ⟨c5,0,0,false⟩]:=⟨_,rfl⟩
 have e2:Ext h h2:=by rw[hh2]; exact Ext.push _ _
 have r2:h2[h.length]?=some (.cells ⟨c5,0,0,false⟩):=by rw[hh2]; simp
 have w7:¬W h.length:=λz=>by have:=hW _ z; omega
 have v2:=v.ext e2
 have q0:=FQ.zero v2
 have a2:=a.ext e2
 rw[hc5] at r2 hh2
 have one:∀{x},ft=[x]->∀{h3 l},FQ W h2 ob b l h3->Sl h3 1 sf ([x.1].map encN')/\Sl h3 1 st ([x.2].map encN'):=λhx h3 l q=>by
  subst hx
  exact ⟨(a2.frs q.2).f,(a2.frs q.2).t⟩
 cases n with
 |set k=>
  simp only[Nd.kind,Nd.st,Nd.lo,Nd.hi,Int.ofNat_zero] at r2 hh2 ⊢
  obtain ⟨sS,sF,s',h3,k1,k2,k3,k4,k5,k6,k7⟩:=c3s v2 oM (s,e,k)
  have l2:h2.length=h.length+1:=by rw[hh2]; simp
  simp only[l2] at k2
  refine g1 @h5 ?_
  rw[<-hh2]
  refine g6 @r2 @k1 @k2 @k5 @k3 @k4 ?_
  refine WP.ret ⟨rfl,k6.mono λo _ z=>?_,(FrS.ofExt e2).trans k7⟩
  rcases z with z|z
  ·exact .inl z
  ·exact .inr ⟨by have:=e2.len; omega,by simpa using z.2⟩
 |emp=>
  simp only[Nd.kind,Nd.st,Nd.lo,Nd.hi,Int.ofNat_zero] at r2 hh2 ⊢
  refine g1 @h5 ?_
  rw[<-hh2]
  have:=q0.out e2
  rw[b5c] at this
  exact WP.ret ⟨rfl,this⟩
 |eps=>
  simp only[Nd.kind,Nd.st,Nd.lo,Nd.hi,Int.ofNat_zero] at r2 hh2 ⊢
  refine g1 @h5 ?_
  rw[<-hh2]
  refine WP.call (q0.free (by simp; omega) s e) ?_
  rintro _ h3 ⟨rfl,q1⟩
  exact WP.ret ⟨rfl,q1.out e2⟩
 |join l=>exact hn.elim
 |uni l=>
  have hn:ft.length<=2000:=hn
  simp only[Nd.kind,Nd.st,Nd.lo,Nd.hi,Int.ofNat_zero] at r2 hh2 ⊢
  simp -implicitDefEqProofs (disch:=first|assumption|omega|(simp only[gL,gA]<;>omega)|fail) only[cG,reduceIte,h5]
  rw[<-hh2]
  exact WP.ent (c3t a2 hl hn (λh4 q4=>⟨rfl,q4.out e2⟩) ft.length 0 h2 oM (by simpa [NS.uniE] using q0)) λi=>rfl
 |star c=>
  have hn:ft.length=1:=hn
  obtain ⟨x,rfl⟩:∃x,ft=[x]:=by
   match ft,hn with
   |[x],_=>exact ⟨x,rfl⟩
  simp only[Nd.kind,Nd.st,Nd.lo,Nd.hi,Int.ofNat_zero] at r2 hh2 ⊢
  have g1:gi [x.1] 0=x.1:=rfl
  have g2:gi [x.2] 0=x.2:=rfl
  obtain ⟨f0,t0⟩:=one rfl q0
  simp -implicitDefEqProofs (disch:=first|assumption|omega|(simp only[gL,gA]<;>omega)|fail) only[cG,reduceIte,h5]
  rw[<-hh2]
  refine g4 f0.idxG f0.ld0 @g1 @encN'.eq_1 ?_
  refine WP.call (q0.free (by simp; omega) s x.1) ?_
  rintro _ h3 ⟨rfl,q1⟩
  refine WP.call (q1.free (by simp; omega) s e) ?_
  rintro _ h4 ⟨rfl,q2⟩
  obtain ⟨f2,t2⟩:=one rfl q2
  refine g7 f2.idxG f2.ld0 @g1 t2.idxG t2.ld0 @g2 @encN'.eq_1 ?_
  refine WP.call (q2.free (by simp; omega) x.2 x.1) ?_
  rintro _ h5' ⟨rfl,q3⟩
  obtain ⟨f3,t3⟩:=one rfl q3
  simp -implicitDefEqProofs (disch:=first|assumption|omega|exact Ext.refl _|(simp only[gL,gA]<;>omega)|fail) only[cG,reduceIte,t3.idxG,t3.ld0,g2,encN']
  refine WP.call (q3.free (by simp; omega) x.2 e) ?_
  rintro _ h6 ⟨rfl,q4⟩
  exact WP.ret ⟨rfl,q4.out e2⟩
 |plus c=>
  have hn:ft.length=1:=hn
  obtain ⟨x,rfl⟩:∃x,ft=[x]:=by
   match ft,hn with
   |[x],_=>exact ⟨x,rfl⟩
  simp only[Nd.kind,Nd.st,Nd.lo,Nd.hi,Int.ofNat_zero] at r2 hh2 ⊢
  have g1:gi [x.1] 0=x.1:=rfl
  have g2:gi [x.2] 0=x.2:=rfl
  obtain ⟨f0,t0⟩:=one rfl q0
  simp -implicitDefEqProofs (disch:=first|assumption|omega|(simp only[gL,gA]<;>omega)|fail) only[cG,reduceIte,h5]
  rw[<-hh2]
  refine g5 @r2 f0.idxG f0.ld0 @g1 @encN'.eq_1 ?_
  refine WP.call (q0.free (by simp; omega) s x.1) ?_
  rintro _ h3 ⟨rfl,q1⟩
  obtain ⟨f2,t2⟩:=one rfl q1
  refine g7 f2.idxG f2.ld0 @g1 t2.idxG t2.ld0 @g2 @encN'.eq_1 ?_
  refine WP.call (q1.free (by simp; omega) x.2 x.1) ?_
  rintro _ h5' ⟨rfl,q3⟩
  obtain ⟨f3,t3⟩:=one rfl q3
  simp -implicitDefEqProofs (disch:=first|assumption|omega|exact Ext.refl _|(simp only[gL,gA]<;>omega)|fail) only[cG,reduceIte,t3.idxG,t3.ld0,g2,encN']
  refine WP.call (q3.free (by simp; omega) x.2 e) ?_
  rintro _ h6 ⟨rfl,q4⟩
  exact WP.ret ⟨rfl,q4.out e2⟩
 |opt c=>
  have hn:ft.length=1:=hn
  obtain ⟨x,rfl⟩:∃x,ft=[x]:=by
   match ft,hn with
   |[x],_=>exact ⟨x,rfl⟩
  simp only[Nd.kind,Nd.st,Nd.lo,Nd.hi,Int.ofNat_zero] at r2 hh2 ⊢
  have g1:gi [x.1] 0=x.1:=rfl
  have g2:gi [x.2] 0=x.2:=rfl
  obtain ⟨f0,t0⟩:=one rfl q0
  simp -implicitDefEqProofs (disch:=first|assumption|omega|(simp only[gL,gA]<;>omega)|fail) only[cG,reduceIte,h5]
  rw[<-hh2]
  refine g5 @r2 f0.idxG f0.ld0 @g1 @encN'.eq_1 ?_
  refine WP.call (q0.free (by simp; omega) s x.1) ?_
  rintro _ h3 ⟨rfl,q1⟩
  refine WP.call (q1.free (by simp; omega) s e) ?_
  rintro _ h4 ⟨rfl,q2⟩
  obtain ⟨f2,t2⟩:=one rfl q2
  refine g4 t2.idxG t2.ld0 @g2 @encN'.eq_1 ?_
  refine WP.call (q2.free (by simp; omega) x.2 e) ?_
  rintro _ h6 ⟨rfl,q4⟩
  exact WP.ret ⟨rfl,q4.out e2⟩
 |rep lo hi c=>
  obtain ⟨hn1,hn2,hn3⟩:ft.length=hi/\hi<=9/\lo<=hi:=hn
  simp only[Nd.kind,Nd.st,Nd.lo,Nd.hi,Int.ofNat_zero] at r2 hh2 ⊢
  refine g1 @h5 ?_
  rw[<-hh2]
  refine WP.call (b6z (c:=c) v2 (λo z=>by have:=hW o z; have:=e2.len; omega) a2 hl hn1 hn2 hn3 h5) ?_
  rintro _ h3 ⟨rfl,v3,f3⟩
  exact WP.ret ⟨rfl,v3.mono λo _ z=>z.elim .inl λz=>.inr ⟨by have:=e2.len; omega,z.2⟩,(FrS.ofExt e2).trans f3⟩
end
end Go.Gm.AZ
namespace Go.Gm.AZ
open Go Go.Gm
def PartS (n:Nd):Prop:=∀(h0 h:Heap) (W:Nat->Prop) (ob:Nat) (b:NS) (c5:List AV),NV h0 n c5->Ext h0 h->(∀o,W o->h0.length<=o/\o<h.length)->BV W h ob b->NSok b->
 Tot tab b9_ [.ptr ob 0 6 0,.agg c5] h λr h'=>r=.tup [I (NS.part n b).1.1,I (NS.part n b).1.2]/\BV (Wn W h h') h' ob (NS.part n b).2/\FrS W h h'
structure PLs (h0 hE h:Heap) (W0 W:Nat->Prop) (ob o3:Nat) (b:NS) (c5:List AV) (sf st:AV) (oA oB:Nat) (ft:List (Nat × Nat)):Prop where
 e0:Ext h0 h
 le:h0.length<=hE.length
 fr:FrS W0 hE h
 wl:∀o,W o->h0.length<=o/\o<h.length
 w0:∀o,W o->W0 o\/hE.length<=o
 bv:BV W h ob b
 n3:¬W o3
 r3:h[o3]?=some (.cells ⟨c5,0,0,false⟩)
 l3:hE.length<=o3
 gA:Gr oA (oA+1) h 1 sf ((ft.map (·.1)).map encN')
 gB:Gr oB (oB+1) h 1 st ((ft.map (·.2)).map encN')
 nA:sf≠.nils->¬W oA/\oA<h.length/\oA≠o3/\hE.length<=oA
 nB:st≠.nils->¬W oB/\oB<h.length/\oB≠o3/\hE.length<=oB/\(sf≠.nils->oB≠oA)
section
variable {h0 hE h h':Heap} {W0 W:Nat->Prop} {ob o3:Nat} {b b1:NS} {c5:List AV} {sf st:AV} {oA oB:Nat} {ft:List (Nat × Nat)}
theorem PLs.ext (p:PLs h0 hE h W0 W ob o3 b c5 sf st oA oB ft)(e:Ext h h'):PLs h0 hE h' W0 W ob o3 b c5 sf st oA oB ft:=by
 have l:=e.len
 refine ⟨p.e0.trans e,p.le,p.fr.trans (FrS.ofExt e),λo z=>by have:=p.wl o z; omega,p.w0,p.bv.ext e,p.n3,e.get p.r3,p.l3,p.gA.ext e,p.gB.ext e,λz=>?_,λz=>?_⟩
 ·have:=p.nA z; exact ⟨this.1,oM,this.2.2⟩
 ·have:=p.nB z; exact ⟨this.1,oM,this.2.2⟩
theorem PLs.ftv (p:PLs h0 hE h W0 W ob o3 b c5 sf st oA oB ft):FT W h sf st ft:=by
 refine ⟨p.gA.sl,p.gB.sl,λz=>?_,λz=>?_⟩
 ·have:=p.gA.objIn z
  have h1:=p.nA z
  rw[show sf.obj=oA by omega]; exact h1.1
 ·have:=p.gB.objIn z
  have h1:=p.nB z
  rw[show st.obj=oB by omega]; exact h1.1
theorem PLs.call (p:PLs h0 hE h W0 W ob o3 b c5 sf st oA oB ft)(f:FrS W h h')(v:BV (Wn W h h') h' ob b1):PLs h0 hE h' W0 (Wn W h h') ob o3 b1 c5 sf st oA oB ft:=by
 have l:=f.len
 have l3:=(List.getElem?_eq_some_iff.1 p.r3).1
 have le:=p.le
 have lE:=p.fr.len
 refine ⟨f.ext p.e0 λo z1 z2=>by have:=p.wl o z2; omega,p.le,⟨Nat.le_trans p.fr.1 f.1,λo z1 z2=>(f.get (λz=>?_) oM).trans (p.fr.get z1 z2)⟩,λo z=>?_,λo z=>?_,v,λz=>?_,by rw[f.get p.n3 l3]; exact p.r3,p.l3,t6_ p.gA f λz=>(p.nA z).1,t6_ p.gB f λz=>(p.nB z).1,λz=>?_,λz=>?_⟩
 ·rcases p.w0 o z with z|z
  ·exact z1 z
  ·omega
 ·rcases z with z|z
  ·have:=p.wl o z; omega
  ·omega
 ·rcases z with z|z
  ·exact p.w0 o z
  ·exact .inr oM
 ·rcases z with z|z
  ·exact p.n3 z
  ·omega
 ·have:=p.nA z
  refine ⟨λy=>?_,oM,this.2.2⟩
  rcases y with y|y
  ·exact this.1 y
  ·omega
 ·have:=p.nB z
  refine ⟨λy=>?_,oM,this.2.2⟩
  rcases y with y|y
  ·exact this.1 y
  ·omega
theorem PLs.add (p:PLs h0 hE h W0 W ob o3 b c5 sf st oA oB ft)(x:Nat × Nat)(hl:ft.length<=100000) :
  ∃s1 h2 s2 h3 oA' oB',apnd 1 8 sf (.sl h.length 0 1 1 none 0) (h++[AObj.cells ⟨[I x.1],0,0,false⟩])=some (s1,h2)/\apnd 1 8 st (.sl h2.length 0 1 1 none 0) (h2++[AObj.cells ⟨[I x.2],0,0,false⟩])=some (s2,h3)/\PLs h0 hE h3 W0 W ob o3 b c5 s1 s2 oA' oB' (ft++[x]):=by
 have l3:=(List.getElem?_eq_some_iff.1 p.r3).1
 have le:=p.le
 have lE:=p.fr.len
 have litA:=Gr.lit (h:=h) (sz:=1) (v:=encN' x.1) rfl
 have e1:Ext h (mkObj h (encN' x.1)):=Ext.push _ _
 rw[a3_] at litA e1
 have hl1:(h++[AObj.cells ⟨encN' x.1,0,0,false⟩]).length=h.length+1:=by simp
 obtain ⟨s1,h2,oA',a1,a2,a3,a4,a5⟩:=Gr.appQ (bytes:=8) (p.gA.ext e1) (λz=>by have:=p.nA z; omega) litA.sl oM oM (by simp; omega)
 have f1:=(FrS.ofExt (D:=λq=>sf≠.nils/\q=oA) e1).trans a4
 have l2:=f1.len
 have l12:=a4.len
 have gB1:=t6_ p.gB f1 λz1 z2=>(p.nB z1).2.2.2.2 z2.1 z2.2
 have v1:=p.bv.frs f1 λo z1 z2 z3=>(p.nA z3.1).1 (z3.2▸z2)
 have A':s1≠.nils->((oA'=oA/\sf≠.nils)\/h.length<=oA')/\oA'<h2.length:=λz=>by
  obtain ⟨z1,z2⟩:=a3 z
  exact ⟨z1.imp id λz=>oM,z2⟩
 have litB:=Gr.lit (h:=h2) (sz:=1) (v:=encN' x.2) rfl
 have e2:Ext h2 (mkObj h2 (encN' x.2)):=Ext.push _ _
 rw[a3_] at litB e2
 have hl2:(h2++[AObj.cells ⟨encN' x.2,0,0,false⟩]).length=h2.length+1:=by simp
 obtain ⟨s2,h3,oB',b1,b2,b3,b4,b5⟩:=Gr.appQ (bytes:=8) (gB1.ext e2) (λz=>by have:=p.nB z; omega) litB.sl oM oM (by simp; omega)
 have f2:=(FrS.ofExt (D:=λq=>st≠.nils/\q=oB) e2).trans b4
 have l3':=f2.len
 have l23:=b4.len
 have B':s2≠.nils->((oB'=oB/\st≠.nils)\/h2.length<=oB')/\oB'<h3.length:=λz=>by
  obtain ⟨z1,z2⟩:=b3 z
  exact ⟨z1.imp id λz=>oM,z2⟩
 have gA2:=t6_ (a2.cong (show _=((ft++[x]).map (·.1)).map encN' by simp)) f2 λz1 z2=>by
  rcases (A' z1).1 with ⟨y1,y2⟩|y
  ·exact (p.nB z2.1).2.2.2.2 y2 (by rw[<-y1]; exact z2.2.symm)
  ·have:=p.nB z2.1; omega
 have v2:=v1.frs f2 λo z1 z2 z3=>(p.nB z3.1).1 (z3.2▸z2)
 have F:FrS (λq=>(sf≠.nils/\q=oA)\/(st≠.nils/\q=oB)) h h3:=(f1.mono λo _ z=>.inl z).trans (f2.mono λo _ z=>.inr z)
 have hF3:¬((sf≠.nils/\o3=oA)\/(st≠.nils/\o3=oB)):=λz=>by
  rcases z with z|z
  ·have:=p.nA z.1; omega
  ·have:=p.nB z.1; omega
 refine ⟨s1,h2,s2,h3,oA',oB',a1,b1,⟨F.ext p.e0 λo z1 z2=>?_,p.le,⟨oM,λo z1 z2=>(F.get (λz=>?_) oM).trans (p.fr.get z1 z2)⟩,λo z=>by have:=p.wl o z; omega,p.w0,v2,p.n3,by rw[F.get hF3 l3]; exact p.r3,p.l3,gA2,b2.cong (by simp),λz=>?_,λz=>?_⟩⟩
 ·rcases z2 with z2|z2
  ·have:=p.nA z2.1; omega
  ·have:=p.nB z2.1; omega
 ·rcases z with z|z
  ·have:=p.nA z.1; omega
  ·have:=p.nB z.1; omega
 ·obtain ⟨z1,z2⟩:=A' z
  rcases z1 with ⟨y1,y2⟩|y
  ·have:=p.nA y2
   rw[y1]; exact ⟨this.1,oM,this.2.2⟩
  ·exact ⟨λw=>by have:=p.wl _ w; omega,oM,oM,oM⟩
 ·obtain ⟨z1,z2⟩:=B' z
  rcases z1 with ⟨y1,y2⟩|y
  ·have h6:=p.nB y2
   rw[y1]
   refine ⟨h6.1,oM,h6.2.2.1,h6.2.2.2.1,λw=>?_⟩
   rcases (A' w).1 with ⟨x1,x2⟩|x1
   ·rw[x1]; exact h6.2.2.2.2 x2
   ·omega
  ·refine ⟨λw=>by have:=p.wl _ w; omega,oM,oM,oM,λw=>?_⟩
   have:=(A' w).2; omega
end
structure KidsV (h0:Heap) (n:Nd) (c5:List AV) (sL:AV) (css:List (List AV)):Prop where
 c:c5=[I n.kind,I n.st,I n.lo,I n.hi,sL]
 sl:Sl h0 5 sL (css.map id)
 nv:NVs h0 n.kids css
theorem kidsV (a:NV h0 n c5):∃sL css,KidsV h0 n c5 sL css:=by
 obtain ⟨s,css,h1,h2,h3⟩:=a.inv
 exact ⟨s,css,h1,by simpa using h2,h3⟩
theorem KidsV.get {h0:Heap}{n c:Nd}{c5:List AV}{sL:AV}{css:List (List AV)}(k:KidsV h0 n c5 sL css){i:Nat}(hi:n.kids[i]?=some c):∃cc,gi css (i:Int)=cc/\NV h0 c cc/\i<css.length:=by
 obtain ⟨cc,h1,h2⟩:=NVs.get k.nv hi
 have:=(List.getElem?_eq_some_iff.1 h1).1
 refine ⟨cc,?_,h2,this⟩
 rw[b2_ this]
 rw[List.getElem?_eq_getElem this] at h1
 injection h1
section
variable {h0 hE:Heap} {W0:Nat->Prop} {ob o3:Nat} {c5:List AV} {n:Nd} {sL:AV} {css:List (List AV)}
theorem c3v (kv:KidsV h0 n c5 sL css){el:List Nd}(hel:∀(i:Nat) c,el[i]?=some c->(∃c0,n.kids[0]?=some c0)/\((n.kind=5/\n.kids[i]?=some c)\/(n.kind≠5/\n.kids[0]?=some c)))(hell:el.length<=1000)(ih:∀c∈el,PartS c)(sz:∀c∈el,SzN c)(hQ:∀h W sf st oA oB,PLs h0 hE h W0 W ob o3 bE c5 sf st oA oB ftE->NSok bE->WP (λk:Nat=>g7_ k (.ptr ob 0 6 0) (.ptr o3 0 5 0) (I s) sf st h) Q) :
  ∀(d i:Nat) (h:Heap) (W:Nat->Prop) (b:NS) (sf st:AV) (oA oB:Nat) (ft:List (Nat × Nat)),i+d=el.length->ft.length=i->PLs h0 hE h W0 W ob o3 b c5 sf st oA oB ft->NSok b->ft++(NS.parts (el.drop i) b).1=ftE->(NS.parts (el.drop i) b).2=bE->
   WP (λp:Nat × Nat=>l0_ p.1 p.2 (.ptr ob 0 6 0) (.ptr o3 0 5 0) (I s) sf st (I el.length) (I i) h) Q:=by
 have e5:=kv.c
 intro d
 induction d with
 |zero=>
  intro i h W b sf st oA oB ft hi hfl p ok h1 h2
  refine WP.rnd (a0I · · ..) ?_
  rw[List.drop_of_length_le oM,NS.parts] at h1 h2
  simp only[List.append_nil] at h1 h2
  subst h1 h2
  refine g0 ?_
  exact WP.lv (hQ h W sf st oA oB p ok) λi j=>rfl
 |succ d IH=>
  intro i h W b sf st oA oB ft hi hfl p ok h1 h2
  refine WP.rnd (a0I · · ..) ?_
  obtain ⟨c,hc⟩:∃c,el[i]?=some c:=⟨el[i],List.getElem?_eq_getElem oM⟩
  have hdr:el.drop i=c::el.drop (i+1):=by
   rw[List.getElem?_eq_getElem oM] at hc
   injection hc with hc
   rw[<-hc]; exact List.drop_eq_getElem_cons oM
  rw[hdr,NS.parts] at h1 h2
  obtain ⟨sS,sF,oS,oF,rb,_⟩:=p.bv
  by_cases m:b.much=true
  ·rw[if_pos m] at h1 h2
   simp only[List.append_nil] at h1 h2
   subst h1 h2
   rw[m] at rb
   refine g1 @rb ?_
   exact WP.lv (hQ h W sf st oA oB p ok) λi j=>rfl
  ·rw[if_neg m] at h1 h2
   simp only at h1 h2
   rw[Bool.not_eq_true] at m
   rw[m] at rb
   have hcm:=List.mem_of_getElem? hc
   obtain ⟨⟨c0,hk0⟩,hk⟩:=hel i c hc
   obtain ⟨cc0,k1,k2,k3⟩:=kv.get hk0
   have k1':gi css 0=cc0:=k1
   have r3:=p.r3
   rw[e5] at r3
   have slE:=kv.sl.ext p.e0
   have o0:=k2.one
   have l0:=k2.len
   have b3:∀(h4:Heap) (ox:Nat) (cc:List AV),Ext h h4->h4[ox]?=some (.cells ⟨cc,0,0,false⟩)->NV h0 c cc->
     WP (λp:Nat × Nat=>l1_ p.1 p.2 (.ptr ob 0 6 0) (.ptr o3 0 5 0) (I s) sf st (I el.length) (I i) (.ptr ox 0 5 0) h4) Q:=by
    intro h4 ox cc e4 rx nvx
    refine WP.congr (λp=>a5d p.1 p.2 ..) ?_
    have p4:=p.ext e4
    have lcc:=nvx.len
    have hld:rdNAt 5 h4[ox]? 0 5 0=some (.agg cc):=by
     rw[rx]; simp only[rdNAt]
     rw[if_pos ⟨oM,Nat.le_refl _⟩,List.drop_zero,List.take_of_length_le oM]
    refine g1 @hld ?_
    refine WP.call (ih c hcm h0 h4 W ob b cc nvx p4.e0 p4.wl p4.bv ok) ?_
    rintro _ h5 ⟨rfl,v5,f5⟩
    have p5:=p4.call f5 v5
    obtain ⟨s1,h6,s2,h7,oA',oB',a1,a2,p7⟩:=p5.add (NS.part c b).1 oM
    refine g4 @a4_ @a5_ @a1 @a2 ?_
    exact IH (i+1) h7 _ _ s1 s2 oA' oB' _ oM (by simp[hfl]) p7 (ok.sz (sz c hcm b).1) (by rw[List.append_assoc]; exact h1) h2
   obtain ⟨h3,hh3⟩:∃h3,h3=((h++[AObj.cells ⟨[I 0,I 0,I 0,I 0,.nils],0,0,false⟩]).set h.length (.cells ⟨cc0,0,0,false⟩)):=⟨_,rfl⟩
   have e3:Ext h h3:=by rw[hh3]; exact eX
   have r33:=e3.get r3
   have sl3:=slE.ext e3
   have rx:h3[h.length]?=some (.cells ⟨cc0,0,0,false⟩):=by rw[hh3]; exact a0_ (by simp)
   have bx:=(List.getElem?_eq_some_iff.1 rx).1
   have sA:∀{a b:List AV},a.length=5->b.length=5->setAll a 0 b=b:=by
    intro a b ha hb
    match a,ha,b,hb with
    |[_,_,_,_,_],_,[_,_,_,_,_],_=>rfl
   have sA0:=sA (a:=[I 0,I 0,I 0,I 0,.nils]) rfl l0
   simp only[I] at sA0
   by_cases q5:n.kind=5
   ·have hki:=(hk.resolve_right λz=>z.1 q5).2
    obtain ⟨cc,j1,j2,j3⟩:=kv.get hki
    have sB:=sA l0 j2.len
    have lj:=j2.len
    have oj:=j2.one
    obtain ⟨h4,hh4⟩:∃h4,h4=h3.set h.length (.cells ⟨cc,0,0,false⟩):=⟨_,rfl⟩
    simp -implicitDefEqProofs (disch:=first|assumption|omega|exact Ext.refl _|(simp only[gL,gA]<;>omega)|fail) only[cG,reduceIte,rb,r3,slE.idxG,slE.ldN,id_eq,k1',sA0]
    rw[<-hh3]
    simp -implicitDefEqProofs (disch:=first|assumption|omega|exact Ext.refl _|(simp only[gL,gA]<;>omega)|fail) only[cG,reduceIte,r33,q5,sl3.idxG,sl3.ldN,id_eq,j1,rx,sB]
    rw[<-hh4]
    exact b3 h4 h.length cc (by rw[hh4]; exact e3.setr (Nat.le_refl _) _) (by rw[hh4]; exact a0_ bx) j2
   ·have hki:=(hk.resolve_left λz=>q5 z.1).2
    rw[hk0] at hki
    injection hki with hki
    subst hki
    simp -implicitDefEqProofs (disch:=first|assumption|omega|exact Ext.refl _|(simp only[gL,gA]<;>omega)|fail) only[cG,reduceIte,rb,r3,slE.idxG,slE.ldN,id_eq,k1',sA0]
    rw[<-hh3]
    refine g1 @r33 ?_
    exact b3 h3 h.length cc0 e3 rx k2
end
end Go.Gm.AZ
namespace Go.Gm.AZ
open Go Go.Gm
def elOf:Nd->List Nd
 |.uni l=>l
 |.join l=>l
 |.star c|.plus c|.opt c=>[c]
 |.rep _ hi c=>List.replicate hi c
 |_=>[]
theorem a4T (c:Nd):∀k,NS.times (NS.part c) k=NS.parts (List.replicate k c)
 |0=>by funext b; rw[List.replicate_zero,NS.times,NS.parts]
 |k+1=>by
  funext b
  rw[List.replicate_succ,NS.times,NS.parts,a4T c k]
theorem b2d:(λb=>([],b))=NS.parts []:=by funext b; rw[NS.parts]
theorem b7D {n:Nd}(h:n.kind≠4)(b:NS):NS.part n b=NS.around n (NS.parts (elOf n)) b:=by
 cases n with
 |join l=>exact absurd rfl h
 |set k=>rw[NS.part,b2d]; rfl
 |emp=>rw[NS.part,b2d]; rfl
 |eps=>rw[NS.part,b2d]; rfl
 |uni l=>rw[NS.part]; rfl
 |star c=>rw[NS.part,a4T]; rfl
 |plus c=>rw[NS.part,a4T]; rfl
 |opt c=>rw[NS.part,a4T]; rfl
 |rep lo hi c=>rw[NS.part,a4T]; rfl
theorem a9g {n c:Nd}(h:c∈elOf n):c∈n.kids:=by
 cases n with
 |rep lo hi d=>rw[List.eq_of_mem_replicate h]; simp[Nd.kids]
 |_=>first|exact h|(simp[elOf] at h)
theorem c1Q {n:Nd}(h4:n.kind≠4)(i:Nat)(c:Nd)(h:(elOf n)[i]?=some c):(∃c0,n.kids[0]?=some c0)/\((n.kind=5/\n.kids[i]?=some c)\/(n.kind≠5/\n.kids[0]?=some c)):=by
 have one:∀d:Nd,[d][i]?=some c->c=d:=λd h=>by
  have:=List.mem_of_getElem? h
  simpa using this
 cases n with
 |join l=>exact absurd rfl h4
 |set k=>simp[elOf] at h
 |emp=>simp[elOf] at h
 |eps=>simp[elOf] at h
 |uni l=>
  have hi:=(List.getElem?_eq_some_iff.1 h).1
  exact ⟨⟨l[0]'(by simp[elOf] at hi; omega),List.getElem?_eq_getElem _⟩,.inl ⟨rfl,h⟩⟩
 |star d=>rw[one d h]; exact ⟨⟨d,rfl⟩,.inr ⟨by simp[Nd.kind],rfl⟩⟩
 |plus d=>rw[one d h]; exact ⟨⟨d,rfl⟩,.inr ⟨by simp[Nd.kind],rfl⟩⟩
 |opt d=>rw[one d h]; exact ⟨⟨d,rfl⟩,.inr ⟨by simp[Nd.kind],rfl⟩⟩
 |rep lo hi d=>
  rw[List.eq_of_mem_replicate (List.mem_of_getElem? h)]
  exact ⟨⟨d,rfl⟩,.inr ⟨by simp[Nd.kind],rfl⟩⟩
inductive Bd:Nd->Prop
 |mk {n:Nd}:n.st<2 ^ 62->n.kids.length<=1000->(∀c∈n.kids,Bd c)->Bd n
theorem Bd.kid (g:Bd n):∀c∈n.kids,Bd c:=by cases g; assumption
theorem Bd.len (g:Bd n):n.kids.length<=1000:=by cases g; assumption
theorem b6A (g:Gd n)(d:Bd n):(elOf n).length<=1000:=by
 cases n with
 |rep lo hi c=>have:lo<=hi/\hi<=9:=g.rt; simp[elOf]; omega
 |uni l=>exact d.len
 |join l=>exact d.len
 |_=>simp[elOf]
theorem c0l (g:Gd n):SzP (NS.parts (elOf n)) (elOf n).length:=a7r _ λc hc=>szn c (g.kid c (a9g hc))
theorem c3w (g:Gd n)(d:Bd n)(h4:n.kind≠4){ft:List (Nat × Nat)}(h:ft.length=(elOf n).length):LdOk ft n:=by
 have hl:=b6A g d
 cases n with
 |join l=>exact absurd rfl h4
 |set k=>show ft.length<=2000; omega
 |emp=>show ft.length<=2000; omega
 |eps=>show ft.length<=2000; omega
 |uni l=>show ft.length<=2000; omega
 |star c=>exact h
 |plus c=>exact h
 |opt c=>exact h
 |rep lo hi c=>
  have:lo<=hi/\hi<=9:=g.rt
  exact ⟨by rw[h]; simp[elOf],this.2,this.1⟩
section
variable {h0 h:Heap} {W:Nat->Prop} {ob:Nat} {b:NS} {c5:List AV} {n:Nd}
theorem c3x {hE:Heap}{W0:Nat->Prop}{o3 s:Nat}{sf st:AV}{oA oB:Nat}{ft:List (Nat × Nat)}{sL:AV}{css:List (List AV)}(kv:KidsV h0 n c5 sL css)(h5:sL.one=true)(p:PLs h0 hE h W0 W ob o3 b c5 sf st oA oB ft)(ok:NSok b)(hn:b.state.2.much=false->LdOk ft n) :
  WP (λk:Nat=>g7_ k (.ptr ob 0 6 0) (.ptr o3 0 5 0) (I s) sf st h) λr h'=>r=.tup [I s,I b.state.1]/\BV (Wn W0 hE h') h' ob (if b.state.2.much then b.state.2 else b.state.2.lead s b.state.1 ft n)/\FrS W0 hE h':=by
 refine WP.congr (λk:Nat=>a5f k (.ptr ob 0 6 0) (.ptr o3 0 5 0) (I s) sf st h) ?_
 refine WP.call (b2Z p.bv ok.n) ?_
 rintro _ h1 ⟨rfl,v1,f1,l1⟩
 have okS:=ok.sz (b1w b).1
 have p1:=p.call f1 (v1.mono λo _ z=>.inl z)
 have le:=p.le
 have lE:=p.fr.len
 have fin:∀{h2:Heap} {b2:NS},FrS (Wn W h h1) h1 h2->BV (Wn (Wn W h h1) h1 h2) h2 ob b2->BV (Wn W0 hE h2) h2 ob b2/\FrS W0 hE h2:=fun {h2 b2} f v=>by
  have p2:=p1.call f v
  refine ⟨v.mono λo z1 z2=>?_,p2.fr⟩
  rcases p2.w0 o z2 with z|z
  ·exact .inl z
  ·exact .inr ⟨z,z1⟩
 obtain ⟨sS,sF,oS,oF,rb,_⟩:=p1.bv
 have r3:=p1.r3
 rw[kv.c] at r3
 have b5:∀h2,WP (λk:Nat=>l2_ k (I s) (I b.state.1) h2) λr h'=>r=.tup [I s,I b.state.1]/\h2=h':=λh2=>by
  refine WP.congr (λk:Nat=>a5e k (I s) (I b.state.1) h2) ?_
  exact WP.ret ⟨rfl,rfl⟩
 by_cases m:b.state.2.much=true
 ·rw[m] at rb
  refine g1 @rb ?_
  refine (b5 h1).mono ?_
  rintro r h' ⟨rfl,rfl⟩
  rw[if_pos m]
  exact ⟨rfl,fin (FrS.refl _ _) (p1.bv.mono λo _ z=>.inl z)⟩
 ·rw[if_neg m]
  rw[Bool.not_eq_true] at m
  rw[m] at rb
  refine g2 @rb @r3 ?_
  have hfr:=okS.fr
  have hst:=okS.st
  have hnn:=okS.n
  refine WP.call (b9b p1.bv (λo z=>(p1.wl o z).2) p1.ftv oM oM (hn m) h5) ?_
  rintro _ h2 ⟨rfl,v2,f2⟩
  refine (b5 h2).mono ?_
  rintro r h' ⟨rfl,rfl⟩
  exact ⟨rfl,fin f2 v2⟩
theorem c3y (hk:n.kind≠4)(g:Gd n)(d:Bd n)(ih:∀c∈elOf n,PartS c):PartS n:=by
 intro h0 h W ob b c5 nv e0 hW v ok
 refine WP.tot (a1U · ..) ?_
 rw[b7D hk]
 obtain ⟨sL,css,kv⟩:=kidsV nv
 have h5:=kv.sl.one
 have lkk:=d.len
 have lel:=b6A g d
 have hst:n.st<2 ^ 62:=by cases d; assumption
 obtain ⟨h1,hh1⟩:∃h1,h1=h++[AObj.cells ⟨[I n.kind,I n.st,I n.lo,I n.hi,sL],0,0,false⟩]:=⟨_,rfl⟩
 have e1:Ext h h1:=by rw[hh1]; exact Ext.push _ _
 have l1:h1.length=h.length+1:=by rw[hh1]; simp
 have r1:h1[h.length]?=some (.cells ⟨[I n.kind,I n.st,I n.lo,I n.hi,sL],0,0,false⟩):=by rw[hh1]; simp
 have v1:=v.ext e1
 have l0:=e0.len
 obtain ⟨sS,sF,oS,oF,rb,_⟩:=v1
 have v1:=v.ext e1
 have hcc:=kv.c
 simp only[NS.around]
 by_cases m:b.much=true
 ·rw[m] at rb
  rw[if_pos m,hcc]
  refine g1 @h5 ?_
  rw[<-hh1]
  refine g1 @rb ?_
  exact WP.ret ⟨rfl,v1.mono λo _ z=>.inl z,FrS.ofExt e1⟩
 ·rw[if_neg m]
  rw[Bool.not_eq_true] at m
  rw[m] at rb
  have hk4:¬n.kind=4:=hk
  rw[hcc]
  refine g1 @h5 ?_
  rw[<-hh1]
  refine g2 @rb @r1 ?_
  refine WP.call (b2Z v1 ok.n) ?_
  rintro _ h2 ⟨rfl,v2,f2,l2⟩
  have okS:=ok.sz (b1w b).1
  have r2:h2[h.length]?=some (.cells ⟨[I n.kind,I n.st,I n.lo,I n.hi,sL],0,0,false⟩):=by
   rw[f2.get (λz=>by have:=hW _ z; omega) oM]; exact r1
  have p0:PLs h0 h h2 W W ob h.length b.state.2 c5 .nils .nils 0 0 []:=by
   refine ⟨f2.ext (e0.trans e1) λo z1 z2=>by have:=hW o z2; omega,l0,(FrS.ofExt e1).trans (f2.mono λo _ z=>z),λo z=>by have:=hW o z; omega,λo z=>.inl z,v2,λz=>by have:=hW _ z; omega,by rw[hcc]; exact r2,Nat.le_refl _,Gr.nil ..,Gr.nil ..,λz=>absurd rfl z,λz=>absurd rfl z⟩
  have fin:=λ(Q:AV->Heap->Prop) (hQ:∀h3 W3 sf st oA oB,PLs h0 h h3 W W3 ob h.length (NS.parts (elOf n) b.state.2).2 c5 sf st oA oB (NS.parts (elOf n) b.state.2).1->NSok (NS.parts (elOf n) b.state.2).2->WP (λk:Nat=>g7_ k (.ptr ob 0 6 0) (.ptr h.length 0 5 0) (I b.state.1) sf st h3) Q)=>
   c3v (hE:=h) (W0:=W) (ob:=ob) (o3:=h.length) kv (el:=elOf n) (c1Q hk) lel ih (λc hc=>szn c (g.kid c (a9g hc))) (s:=b.state.1) (ftE:=(NS.parts (elOf n) b.state.2).1) (bE:=(NS.parts (elOf n) b.state.2).2) hQ (elOf n).length 0 h2 W b.state.2 .nils .nils 0 0 [] oM rfl p0 okS rfl rfl
  have main:=fin (λr h'=>r=.tup [I b.state.1,I (NS.parts (elOf n) b.state.2).2.state.1]/\BV (Wn W h h') h' ob (if (NS.parts (elOf n) b.state.2).2.state.2.much then (NS.parts (elOf n) b.state.2).2.state.2 else (NS.parts (elOf n) b.state.2).2.state.2.lead b.state.1 (NS.parts (elOf n) b.state.2).2.state.1 (NS.parts (elOf n) b.state.2).1 n)/\FrS W h h')
   (λh3 W3 sf st oA oB p3 ok3=>c3x kv h5 p3 ok3 λhm=>c3w g d hk ((c0l g b.state.2).2.2 (by
    cases hq:(NS.parts (elOf n) b.state.2).2.much with
    |false=>rfl
    |true=>rw[NS.state] at hm; split at hm<;>simp[hq] at hm)).2.1)
  have lk:(css.map id).length=n.kids.length:=by rw[List.length_map]; exact (NVs.length kv.nv).symm
  have slL:=(kv.sl.ext p0.e0).lenG
  rw[List.length_map] at lk
  by_cases k9:n.kind=9
  ·have hel:((elOf n).length:Int)=n.hi:=by
    cases n with
    |rep lo hi c=>simp[elOf,Nd.hi]
    |_=>simp[Nd.kind] at k9
   rw[hel] at main
   refine g3 @r2 @slL @k9 ?_
   refine WP.congr (λk:Nat=>a0J k (.ptr ob 0 6 0) (.ptr h.length 0 5 0) (I b.state.1) .nils .nils (I n.hi) h2) ?_
   exact WP.ent main λi=>rfl
  ·have hel:((elOf n).length:Int)=css.length:=by
    rw[lk]
    cases n with
    |rep lo hi c=>exact absurd rfl k9
    |join l=>exact absurd rfl hk
    |_=>simp[elOf,Nd.kids]
   rw[hel] at main
   refine g3 @r2 @slL @k9 ?_
   refine WP.congr (λk:Nat=>a0J k (.ptr ob 0 6 0) (.ptr h.length 0 5 0) (I b.state.1) .nils .nils (I css.length) h2) ?_
   exact WP.ent main λi=>rfl
end
end Go.Gm.AZ
