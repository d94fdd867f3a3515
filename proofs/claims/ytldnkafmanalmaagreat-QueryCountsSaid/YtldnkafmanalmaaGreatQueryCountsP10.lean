/- A part of the proof (GmAZch, GmAZci, GmAZcj, GmAZck, GmAZba, GmAZbb, GmAZbc, GmAZbd, GmAZbo, GmAZbe, GmAZbf, GmAZbg). -/
import Derived.Test.YtldnkafmanalmaaGreatQueryCountsP9
set_option autoImplicit true
set_option relaxedAutoImplicit true
set_option linter.unusedVariables false
set_option linter.unusedSimpArgs false
set_option linter.unusedSectionVars false
namespace Go.Gm.AZ
open Go Go.Gm
theorem OkW.cons {es:List E}{v:Int}{e:Nat}(h1:e<es.length)(h2:(eg es e).fr=v)(h:OkW es (eg es e).to l):OkW es v (e::l):=by
 have h3:OkW es v [e]:=by
  intro i e' hi
  cases i with
  |zero=>simp at hi; subst hi; exact ⟨h1,h2⟩
  |succ i=>simp at hi
 exact b0M (l:=[e]) h3 h
theorem OkW.uncons {e:Nat}{l:List Nat}(h:OkW es v (e::l)):e<es.length/\(eg es e).fr=v/\OkW es (eg es e).to l:=by
 have h0:=h 0 e rfl
 refine ⟨h0.1,h0.2,λi e' hi=>?_⟩
 exact h (i+1) e' hi
theorem c3j (co:COk es){l:List Nat}(h:∀e∈l,e<es.length):0<=atC es l:=(a8v co l h 0).1
inductive Sg (es:List E) (G:Int->Prop) (m:Int):Int->Int->List Nat->Prop
 |one {u w:Int} {e:Nat}:e<es.length->(eg es e).md=m->(eg es e).fr=u->(eg es e).to=w->Sg es G m u w [e]
 |cons {u z w:Int} {e:Nat} {l:List Nat}:e<es.length->(eg es e).md=m->(eg es e).fr=u->(eg es e).to=z->G z->Sg es G m z w l->Sg es G m u w (e::l)
section
variable {es:List E} {G G':Int->Prop} {m u w z v:Int} {l l':List Nat}
theorem Sg.ok (h:Sg es G m u w l):OkW es u l/\atV es u l=w/\l≠[]:=by
 induction h with
 |one h1 h2 h3 h4=>exact ⟨.cons h1 h3 (λi e hi=>by simp at hi),h4,by simp⟩
 |cons h1 h2 h3 h4 h5 h6 ih=>
  obtain ⟨i1,i2,i3⟩:=ih
  subst h4
  exact ⟨.cons h1 h3 i1,i2,by simp⟩
theorem Sg.cost (co:COk es)(h:Sg es G m u w l):0<=atC es l:=c3j co h.ok.1.mem
theorem Sg.mono (h:Sg es G m u w l)(hg:∀x,G x->G' x):Sg es G' m u w l:=by
 induction h with
 |one h1 h2 h3 h4=>exact .one h1 h2 h3 h4
 |cons h1 h2 h3 h4 h5 h6 ih=>exact .cons h1 h2 h3 h4 (hg _ h5) ih
theorem Sg.app (h:Sg es G m u z l)(hz:G z)(h':Sg es G m z w l'):Sg es G m u w (l++l'):=by
 induction h with
 |one h1 h2 h3 h4=>exact .cons h1 h2 h3 h4 hz h'
 |cons h1 h2 h3 h4 h5 h6 ih=>exact .cons h1 h2 h3 h4 h5 (ih hz h')
theorem Sg.split (h:Sg es (λx=>G x\/x=v) m u w l):Sg es G m u w l\/∃l1 l2,l=l1++l2/\Sg es G m u v l1/\Sg es (λx=>G x\/x=v) m v w l2:=by
 induction h with
 |one h1 h2 h3 h4=>exact .inl (.one h1 h2 h3 h4)
 |@cons u z w e l h1 h2 h3 h4 h5 h6 ih=>
  by_cases q:z=v
  ·subst q
   exact .inr ⟨[e],l,rfl,.one h1 h2 h3 h4,h6⟩
  ·have hg:=h5.resolve_right q
   rcases ih with i|⟨l1,l2,rfl,i2,i3⟩
   ·exact .inl (.cons h1 h2 h3 h4 hg i)
   ·exact .inr ⟨e::l1,l2,rfl,.cons h1 h2 h3 h4 hg i2,i3⟩
theorem Sg.last (co:COk es):∀(n:Nat) {l:List Nat},l.length<=n->Sg es (λx=>G x\/x=v) m v w l->∃l',Sg es G m v w l'/\atC es l'<=atC es l
 |0,l,hn,h=>absurd (List.length_eq_zero_iff.1 oM) h.ok.2.2
 |n+1,l,hn,h=>by
  rcases h.split with i|⟨l1,l2,rfl,i2,i3⟩
  ·exact ⟨l,i,Int.le_refl _⟩
  ·have:l1.length≠0:=λq=>i2.ok.2.2 (List.length_eq_zero_iff.1 q)
   rw[List.length_append] at hn
   obtain ⟨l',k1,k2⟩:=Sg.last co n oM i3
   have:=i2.cost co
   exact ⟨l',k1,by rw[a0e]; omega⟩
theorem Sg.first (co:COk es)(h:Sg es (λx=>G x\/x=v) m u v l):∃l',Sg es G m u v l'/\atC es l'<=atC es l:=by
 rcases h.split with i|⟨l1,l2,rfl,i2,i3⟩
 ·exact ⟨l,i,Int.le_refl _⟩
 ·have:=i3.cost co
  exact ⟨l1,i2,by rw[a0e]; omega⟩
def ivs (es:List E)(l:List Nat):List Int:=l.dropLast.map λe=>(eg es e).to
theorem a8K {e:Nat}(hl:l≠[]):ivs es (e::l)=(eg es e).to::ivs es l:=by
 obtain ⟨a,l',rfl⟩:=List.exists_cons_of_ne_nil hl
 rfl
theorem c3k (h:Sg es G m u z l)(h':l'≠[]):ivs es (l++l')=ivs es l++z::ivs es l':=by
 induction h with
 |one h1 h2 h3 h4=>
  rw[List.singleton_append,a8K h',h4]; rfl
 |cons h1 h2 h3 h4 h5 h6 ih=>
  rw[List.cons_append,a8K (by simp[h']),ih,a8K h6.ok.2.2]; rfl
theorem Sg.inner (h:Sg es G m u w l):∀x∈ivs es l,G x:=by
 induction h with
 |one h1 h2 h3 h4=>intro x hx; cases hx
 |cons h1 h2 h3 h4 h5 h6 ih=>
  intro x hx
  rw[a8K h6.ok.2.2] at hx
  rcases List.mem_cons.1 hx with rfl|hx
  ·rw[h4]; exact h5
  ·exact ih x hx
theorem Sg.at (h:Sg es G m u w l)(hz:z∈ivs es l):∃p q,l=p++q/\Sg es G m u z p/\Sg es G m z w q:=by
 induction h with
 |one h1 h2 h3 h4=>cases hz
 |@cons u y w e l h1 h2 h3 h4 h5 h6 ih=>
  rw[a8K h6.ok.2.2] at hz
  rcases List.mem_cons.1 hz with rfl|hz
  ·rw[h4]
   exact ⟨[e],l,rfl,.one h1 h2 h3 h4,h6⟩
  ·obtain ⟨p,q,rfl,k1,k2⟩:=ih hz
   exact ⟨e::p,q,rfl,.cons h1 h2 h3 h4 h5 k1,k2⟩
theorem b6c:∀(n:Nat) (l:List Int),l.Nodup->(∀x∈l,0<=x/\x<n)->l.length<=n
 |0,l,_,h=>by
  cases l with
  |nil=>simp
  |cons a l=>have:=h a (by simp); omega
 |n+1,l,hn,h=>by
  have h1:=b6c n (l.erase (n:Int)) (hn.erase _) (λx hx=>by
   rw[hn.mem_erase_iff] at hx
   have:=h x hx.2
   have:=hx.1
   omega)
  have h2:l.length<=(l.erase (n:Int)).length+1:=by
   rw[List.length_erase]
   split<;>omega
  omega
end
def Stdy (D:List (List Int)):Prop:=∀s m:Int,0<=s->s<D.length->0<=m->m<5->nx D (nx D s m) m=nx D s m
theorem Sg.md (no:NetOk N es)(h:Sg es G m u w l):0<=m/\m<5:=by
 cases h with
 |one h1 h2 h3 h4=>
  have:=no.edge _ (b7_ (xs:=es) (i:=((_:Nat):Int)) oM (Int.ofNat_lt.2 h1))
  subst h2
  exact ⟨this.2.2.2.2.1,this.2.2.2.2.2⟩
 |cons h1 h2 h3 h4 h5 h6=>
  have:=no.edge _ (b7_ (xs:=es) (i:=((_:Nat):Int)) oM (Int.ofNat_lt.2 h1))
  subst h2
  exact ⟨this.2.2.2.2.1,this.2.2.2.2.2⟩
theorem Sg.st (no:NetOk N es)(ok:DOk D acc)(sd:Stdy D)(h:Sg es G m u w l):∀s:Int,0<=s->s<D.length->atS es D s l=nx D s m:=by
 induction h with
 |one h1 h2 h3 h4=>intro s _ _; show nx D s _=_; rw[h2]
 |@cons u y w e l h1 h2 h3 h4 h5 h6 ih=>
  intro s s0 s1
  have hm:=h6.md no
  have:=ok.to s m s0 s1 hm.1 hm.2
  show atS es D (nx D s (eg es e).md) l=_
  rw[h2,ih _ this.1 this.2,sd s m s0 s1 hm.1 hm.2]
def OneM (es:List E)(v:Int):Prop:=∀e e':Nat,e<es.length->e'<es.length->((eg es e).fr=v\/(eg es e).to=v)->((eg es e').fr=v\/(eg es e').to=v)->(eg es e).md=(eg es e').md
theorem Sg.hd (h:Sg es G m u w l):∃e,e<es.length/\(eg es e).fr=u/\(eg es e).md=m:=by
 cases h with
 |one h1 h2 h3 h4=>exact ⟨_,h1,h3,h2⟩
 |cons h1 h2 h3 h4 h5 h6=>exact ⟨_,h1,h3,h2⟩
theorem splitA {G:Int->Prop}(om:∀x,G x->OneM es x):∀{l:List Nat} {x:Int},OkW es x l->l≠[]->(∃m,Sg es G m x (atV es x l) l)\/∃m z l1 l2,l=l1++l2/\Sg es G m x z l1/\¬G z/\OkW es z l2
 |[],x,_,h=>absurd rfl h
 |e::l,x,h,_=>by
  obtain ⟨h1,h2,h3⟩:=h.uncons
  by_cases q:l=[]
  ·subst q
   exact .inl ⟨_,.one h1 rfl h2 rfl⟩
  ·by_cases g:G (eg es e).to
   ·have key:∀{m z:Int} {l1:List Nat},Sg es G m (eg es e).to z l1->Sg es G m x z (e::l1):=by
     intro m z l1 hs
     obtain ⟨e',k1,k2,k3⟩:=hs.hd
     exact .cons h1 ((om _ g e e' h1 k1 (.inr rfl) (.inl k2)).trans k3) h2 rfl g hs
    rcases splitA om h3 q with ⟨m,i⟩|⟨m,z,l1,l2,rfl,i2,i3,i4⟩
    ·exact .inl ⟨m,key i⟩
    ·exact .inr ⟨m,z,e::l1,l2,rfl,key i2,i3,i4⟩
   ·exact .inr ⟨_,_,[e],l,rfl,.one h1 rfl h2 rfl,g,h3⟩
theorem splitZ {G:Int->Prop}(om:∀x,G x->OneM es x):∀(n:Nat) {l:List Nat} {x:Int},l.length<=n->OkW es x l->¬G x->G (atV es x l)->∃m z l1 l2,l=l1++l2/\OkW es x l1/\atV es x l1=z/\¬G z/\Sg es G m z (atV es x l) l2
 |n,[],x,_,_,h1,h2=>absurd h2 h1
 |0,e::l,x,hn,_,_,_=>absurd hn (by simp)
 |n+1,e::l,x,hn,h,hx,hy=>by
  rcases splitA om h (by simp) with ⟨m,i⟩|⟨m,z,l1,l2,he,i2,i3,i4⟩
  ·exact ⟨m,x,[],e::l,rfl,λi e hi=>by simp at hi,rfl,hx,i⟩
  ·have h1:=i2.ok
   have hz:atV es x (e::l)=atV es z l2:=by rw[he,a3f,h1.2.1]
   rw[hz] at hy ⊢
   have hlen:(e::l).length=l1.length+l2.length:=by rw[he,List.length_append]
   have:l1.length≠0:=λq=>h1.2.2 (List.length_eq_zero_iff.1 q)
   obtain ⟨m',z',k1,k2,k3,k4,k5,k6,k7⟩:=splitZ om n oM i4 i3 hy
   refine ⟨m',z',l1++k1,k2,by rw[he,k3,List.append_assoc],b0M h1.1 (by rw[h1.2.1]; exact k4),by rw[a3f,h1.2.1,k5],k6,k7⟩
end Go.Gm.AZ
namespace Go.Gm.AZ
open Go Go.Gm
abbrev HopR:=Int->Int->Bool->Int->Int->Bool->Int->Prop
inductive Pq (R:HopR):Int->Int->Bool->Int->Int->Bool->Int->Prop
 |nil {v s:Int} {b:Bool}:Pq R v s b v s b 0
 |snoc {v s v1 s1 v2 s2 c w:Int} {b b1 b2:Bool}:Pq R v s b v1 s1 b1 c->R v1 s1 b1 v2 s2 b2 w->Pq R v s b v2 s2 b2 (c+w)
theorem Pq.cons {R:HopR}(h:R v s b v1 s1 b1 w)(p:Pq R v1 s1 b1 v2 s2 b2 c):Pq R v s b v2 s2 b2 (w+c):=by
 induction p with
 |nil=>rw[Int.add_comm]; exact .snoc .nil h
 |snoc p k ih=>rw[<-Int.add_assoc]; exact .snoc (ih h) k
section
variable {N:Nat} {es:List E} {D:List (List Int)} {acc:List Bool} {G:Int->Prop} {U Dn:Int->Int->Int->Int->Prop} {R:HopR} {v:Int}
structure HR (D:List (List Int)) (U Dn:Int->Int->Int->Int->Prop) (R:HopR):Prop where
 up:∀v w m c s:Int,U v w m c->0<=s->s<D.length->R v s false w (nx D s m) false c
 dn:∀(v u m c s:Int) (b:Bool),Dn v u m c->0<=s->s<D.length->R u s b v (nx D s m) true c
structure Stg (es:List E) (G:Int->Prop) (U Dn:Int->Int->Int->Int->Prop) (v:Int):Prop where
 up:∀w m l,¬G w->Sg es G m v w l->∃c,U v w m c/\c<=atC es l
 dn:∀u m l,¬G u->u≠v->Sg es G m u v l->∃c,Dn v u m c/\c<=atC es l
def Cmp (es:List E)(D:List (List Int))(R:HopR)(G:Int->Prop):Prop:=
 ∀(l:List Nat) (x s:Int),¬G x->¬G (atV es x l)->OkW es x l->0<=s->s<D.length->∃b c,Pq R x s false (atV es x l) (atS es D s l) b c/\c<=atC es l
theorem b0s (es:List E)(D:List (List Int))(s:Int)(l l':List Nat):atS es D s (l++l')=atS es D (atS es D s l) l':=by simp[atS]
theorem a9K (ok:DOk D acc)(no:NetOk N es)(h:OkW es x l){s:Int}(s0:0<=s)(s1:s<D.length):0<=atS es D s l/\atS es D s l<D.length:=by
 rw[a8I]; exact a6w ok _ s s0 s1 (h.md no)
theorem c1I (no:NetOk N es)(ok:DOk D acc)(co:COk es)(sd:Stdy D)(hr:HR D U Dn R)(om:∀x,G x->OneM es x)(st:∀v w m l,¬G v->¬G w->Sg es G m v w l->∃c,U v w m c/\c<=atC es l):Cmp es D R G:=by
 have main:∀(n:Nat) (l:List Nat) (x s:Int),l.length<=n->¬G x->¬G (atV es x l)->OkW es x l->0<=s->s<D.length->∃b c,Pq R x s false (atV es x l) (atS es D s l) b c/\c<=atC es l:=by
  intro n
  induction n with
  |zero=>
   intro l x s hn hx hy h s0 s1
   obtain rfl:=List.length_eq_zero_iff.1 (Nat.le_zero.1 hn)
   exact ⟨_,_,.nil,Int.le_refl _⟩
  |succ n ih=>
   intro l x s hn hx hy h s0 s1
   by_cases hl:l=[]
   ·subst hl; exact ⟨_,_,.nil,Int.le_refl _⟩
   rcases splitA om h hl with ⟨m,i⟩|⟨m,z,l1,l2,rfl,i2,i3,i4⟩
   ·obtain ⟨c,k1,k2⟩:=st x _ m l hx hy i
    rw[i.st no ok sd s s0 s1]
    exact ⟨_,0+c,.snoc .nil (hr.up _ _ _ _ _ k1 s0 s1),oM⟩
   ·have h1:=i2.ok
    have:l1.length≠0:=λq=>h1.2.2 (List.length_eq_zero_iff.1 q)
    rw[List.length_append] at hn
    obtain ⟨c,k1,k2⟩:=st x _ m l1 hx i3 i2
    rw[a3f,h1.2.1] at hy
    have hs:=a9K ok no h1.1 s0 s1
    obtain ⟨b,c',p1,p2⟩:=ih l2 z (atS es D s l1) oM i3 hy i4 hs.1 hs.2
    rw[a3f,h1.2.1,b0s,a0e]
    refine ⟨b,c+c',.cons ?_ p1,oM⟩
    rw[i2.st no ok sd s s0 s1]
    exact hr.up _ _ _ _ _ k1 s0 s1
 exact λl x s=>main l.length l x s (Nat.le_refl _)
theorem b9W (no:NetOk N es)(ok:DOk D acc)(co:COk es)(sd:Stdy D)(hr:HR D U Dn R)(om:∀x,G x\/x=v->OneM es x)(gv:¬G v)(st:Stg es G U Dn v)(cm:Cmp es D R (λx=>G x\/x=v)):Cmp es D R G:=by
 have one:∀(l:List Nat) (x s:Int),¬G x->x≠v->¬G (atV es x l)->OkW es x l->0<=s->s<D.length->∃b c,Pq R x s false (atV es x l) (atS es D s l) b c/\c<=atC es l:=by
  intro l x s hx hxv hy h s0 s1
  by_cases hv:atV es x l=v
  ·obtain ⟨m,z,l1,l2,rfl,k2,k3,k4,k5⟩:=splitZ om l.length (Nat.le_refl _) h (λq=>q.elim hx hxv) (.inr hv)
   rw[hv] at k5
   obtain ⟨l',q1,q2⟩:=k5.first co
   obtain ⟨c,u1,u2⟩:=st.dn z m l' (λq=>k4 (.inl q)) (λq=>k4 (.inr q)) q1
   obtain ⟨b,c',p1,p2⟩:=cm l1 x s (λq=>q.elim hx hxv) (by rw[k3]; exact k4) k2 s0 s1
   have hs:=a9K ok no k2 s0 s1
   rw[k3] at p1
   rw[hv,b0s,a0e,k5.st no ok sd _ hs.1 hs.2]
   exact ⟨true,c'+c,.snoc p1 (hr.dn _ _ _ _ _ b u1 hs.1 hs.2),oM⟩
  ·exact cm l x s (λq=>q.elim hx hxv) (λq=>q.elim hy hv) h s0 s1
 intro l x s hx hy h s0 s1
 by_cases hxv:x=v
 ·subst hxv
  by_cases hl:l=[]
  ·subst hl; exact ⟨_,_,.nil,Int.le_refl _⟩
  rcases splitA om h hl with ⟨m,i⟩|⟨m,z,l1,l2,rfl,i2,i3,i4⟩
  ·obtain ⟨l',q1,q2⟩:=i.last co l.length (Nat.le_refl _)
   obtain ⟨c,k1,k2⟩:=st.up _ m l' hy q1
   rw[i.st no ok sd s s0 s1]
   exact ⟨_,0+c,.snoc .nil (hr.up _ _ _ _ _ k1 s0 s1),oM⟩
  ·have h1:=i2.ok
   obtain ⟨l',q1,q2⟩:=i2.last co l1.length (Nat.le_refl _)
   obtain ⟨c,k1,k2⟩:=st.up _ m l' (λq=>i3 (.inl q)) q1
   rw[a3f,h1.2.1] at hy
   have hs:=a9K ok no h1.1 s0 s1
   obtain ⟨b,c',p1,p2⟩:=one l2 z (atS es D s l1) (λq=>i3 (.inl q)) (λq=>i3 (.inr q)) hy i4 hs.1 hs.2
   rw[a3f,h1.2.1,b0s,a0e]
   refine ⟨b,c+c',.cons ?_ p1,oM⟩
   rw[i2.st no ok sd s s0 s1]
   exact hr.up _ _ _ _ _ k1 s0 s1
 ·exact one l x s hx hxv hy h s0 s1
theorem b6d (no:NetOk N es)(ok:DOk D acc)(co:COk es)(sd:Stdy D)(hr:HR D U Dn R):∀(vs:List Int) (G:Int->Prop),(∀x,G x\/x∈vs->OneM es x)->vs.Nodup->(∀x∈vs,¬G x)->
  (∀(a b:List Int) (v:Int),vs=a++v::b->Stg es (λx=>G x\/x∈a) U Dn v)->(∀v w m l,¬(G v\/v∈vs)->¬(G w\/w∈vs)->Sg es (λx=>G x\/x∈vs) m v w l->∃c,U v w m c/\c<=atC es l)->Cmp es D R G
 |[],G,om,_,_,_,fin=>by
  have e:(λx=>G x\/x∈([]:List Int))=G:=by funext x; simp
  rw[e] at fin
  exact c1I no ok co sd hr (λx h=>om x (.inl h)) (λv w m l h h' hs=>fin v w m l (by simpa using h) (by simpa using h') hs)
 |v::vs,G,om,nd,ng,st,fin=>by
  have nd':=List.nodup_cons.1 nd
  have e:∀a:List Int,(λx=>(G x\/x=v)\/x∈a)=(λx=>G x\/x∈v::a):=by intro a; funext x; simp[or_assoc]
  refine b9W no ok co sd hr (v:=v) (λx h=>om x (h.imp id (λq=>by simp[q]))) (ng v (by simp)) ?_ (b6d no ok co sd hr vs (λx=>G x\/x=v) (λx h=>om x (by rw[or_assoc] at h; exact h.imp id (λq=>by simpa using q))) nd'.2 (λx hx q=>q.elim (ng x (List.mem_cons_of_mem _ hx)) (λq=>nd'.1 (q▸hx))) (λa b w hw=>?_) (λw x m l hw hx hs=>?_))
  ·have:=st [] vs v rfl
   have e0:(λx=>G x\/x∈([]:List Int))=G:=by funext x; simp
   rwa [e0] at this
  ·rw[e]; exact st (v::a) b w (by rw[hw]; rfl)
  ·rw[e] at hs; exact fin w x m l (by rw[or_assoc] at hw; simpa using hw) (by rw[or_assoc] at hx; simpa using hx) hs
end
end Go.Gm.AZ
namespace Go.Gm.AZ
open Go Go.Gm
structure Ar where
 fr:Int
 to:Int
 md:Int
 co:Int
 ed:Int
 a:Int
 b:Int
 deriving Inhabited
inductive Unp (A:List Ar):Nat->List Nat->Prop
 |edge {k:Nat} {a:Ar}:A[k]?=some a->0<=a.ed->Unp A k [a.ed.toNat]
 |two {k i j:Nat} {a:Ar} {l1 l2:List Nat}:A[k]?=some a->a.ed = -1->a.a=i->a.b=j->i<k->j<k->Unp A i l1->Unp A j l2->Unp A k (l1++l2)
theorem Unp.app (h:Unp A k l)(B:List Ar):Unp (A++B) k l:=by
 have get:∀{k:Nat} {a:Ar},A[k]?=some a->(A++B)[k]?=some a:=fun {k a} h=>by
  rw[List.getElem?_append_left (List.getElem?_eq_some_iff.1 h).1]; exact h
 induction h with
 |edge h1 h2=>exact .edge (get h1) h2
 |two h1 h2 h3 h4 h5 h6 _ _ i1 i2=>exact .two (get h1) h2 h3 h4 h5 h6 i1 i2
abbrev cu (N:Nat)(C:List Int)(u w m:Int):Int:=gi C ((u*N+w)*5+m)
theorem cu_lt {N:Nat}{u w m:Int}(u0:0<=u)(u1:u<N)(w0:0<=w)(w1:w<N)(m0:0<=m)(m1:m<5):0<=(u*N+w)*5+m/\(u*N+w)*5+m<((N*N*5:Nat):Int):=by
 have h1:0<=u*(N:Int):=Int.mul_nonneg u0 oM
 have h2:(u+1)*(N:Int)<=N*N:=Int.mul_le_mul_of_nonneg_right oM oM
 rw[Int.add_mul] at h2
 have h3:((N*N*5:Nat):Int)=(N:Int)*N*5:=by simp
 rw[h3]
 generalize (N:Int)*N=q at *
 generalize u*(N:Int)=p at *
 omega
theorem b9X {N:Nat}{u w m u' w' m':Int}(w0:0<=w)(w1:w<N)(m0:0<=m)(m1:m<5)(w0':0<=w')(w1':w'<N)(m0':0<=m')(m1':m'<5)(h:(u*N+w)*5+m=(u'*N+w')*5+m'):u=u'/\w=w'/\m=m':=by
 have h1:m=m':=by generalize u*(N:Int)=p at h; generalize u'*(N:Int)=p' at h; omega
 have h2:u*N+w=u'*N+w':=by generalize u*(N:Int)=p at h ⊢; generalize u'*(N:Int)=p' at h ⊢; omega
 have h3:u=u':=by
  have a:=Int.add_mul_ediv_right w u (c:=N) oM
  have b:=Int.add_mul_ediv_right w' u' (c:=N) oM
  rw[Int.ediv_eq_zero_of_lt w0 w1] at a
  rw[Int.ediv_eq_zero_of_lt w0' w1'] at b
  have:w+u*N=w'+u'*N:=oM
  rw[this] at a
  omega
 subst h3
 exact ⟨rfl,oM,h1⟩
abbrev ArcG (es:List E)(G:Int->Prop)(A:List Ar)(k:Nat)(a:Ar):Prop:=∃l,Unp A k l/\Sg es G a.md a.fr a.to l/\atC es l=a.co/\(ivs es l).Nodup
structure CI0 (es:List E) (N:Nat) (G:Int->Prop) (A:List Ar) (C:List Int):Prop where
 len:C.length=N*N*5
 arc:∀k a,A[k]?=some a->ArcG es G A k a
 cur:∀u w m:Int,0<=u->u<N->0<=w->w<N->0<=m->m<5->0<=cu N C u w m/\cu N C u w m<=A.length/\(0<cu N C u w m->(gi A (cu N C u w m-1)).fr=u/\(gi A (cu N C u w m-1)).to=w/\(gi A (cu N C u w m-1)).md=m)
structure CI (es:List E) (N:Nat) (G:Int->Prop) (A:List Ar) (C:List Int):Prop extends CI0 es N G A C where
 cov:∀u w m l,¬G u->¬G w->Sg es G m u w l->0<cu N C u w m/\(gi A (cu N C u w m-1)).co<=atC es l
def shortP (N:Nat)(A:List Ar)(C:List Int)(a b:Int):List Ar × List Int:=
 if ¬(gi A a).md=(gi A b).md\/(gi A b).to=(gi A a).to then (A,C) else
 if cu N C (gi A a).fr (gi A b).to (gi A a).md=0\/(gi A a).co+(gi A b).co<(gi A (cu N C (gi A a).fr (gi A b).to (gi A a).md-1)).co then
  (A++[⟨(gi A a).fr,(gi A b).to,(gi A a).md,(gi A a).co+(gi A b).co,-1,a,b⟩],C.set (((gi A a).fr*N+(gi A b).to)*5+(gi A a).md).toNat (A.length+1))
 else (A,C)
theorem Sg.range (no:NetOk N es)(h:Sg es G m u w l):(0<=u/\u<N)/\0<=w/\w<N:=by
 induction h with
 |@one u w e h1 h2 h3 h4=>
  have:=no.edge _ (b7_ (xs:=es) (i:=(e:Int)) oM (Int.ofNat_lt.2 h1))
  subst h3 h4
  exact ⟨⟨this.1,this.2.1⟩,this.2.2.1,this.2.2.2.1⟩
 |@cons u y w e l h1 h2 h3 h4 h5 h6 ih=>
  have:=no.edge _ (b7_ (xs:=es) (i:=(e:Int)) oM (Int.ofNat_lt.2 h1))
  subst h3
  exact ⟨⟨this.1,this.2.1⟩,ih.2⟩
structure CJ (es:List E) (N:Nat) (G:Int->Prop) (v:Int) (A0:List Ar) (C0:List Int) (P:Int->Int->Prop) (A:List Ar) (C:List Int):Prop extends CI0 es N (λx=>G x\/x=v) A C where
 pre:∀k:Int,0<=k->k<A0.length->gi A k=gi A0 k
 le:A0.length<=A.length
 dec:∀u w m:Int,0<=u->u<N->0<=w->w<N->0<=m->m<5->0<cu N C0 u w m->0<cu N C u w m/\(gi A (cu N C u w m-1)).co<=(gi A0 (cu N C0 u w m-1)).co
 don:∀a b:Int,P a b->0<=a->a<A0.length->0<=b->b<A0.length->(gi A0 a).md=(gi A0 b).md->(gi A0 b).to≠v->0<cu N C (gi A0 a).fr (gi A0 b).to (gi A0 a).md/\(gi A (cu N C (gi A0 a).fr (gi A0 b).to (gi A0 a).md-1)).co<=(gi A0 a).co+(gi A0 b).co
section
variable {N:Nat} {es:List E} {G:Int->Prop} {v:Int} {A0 A:List Ar} {C0 C:List Int} {P:Int->Int->Prop}
theorem CI.start (ci:CI es N G A C):CJ es N G v A C (λ_ _=>False) A C:=
 ⟨⟨ci.len,λk a h=>by
  obtain ⟨l,h1,h2,h3⟩:=ci.arc k a h
  exact ⟨l,h1,h2.mono λx q=>.inl q,h3⟩,ci.cur⟩,λk _ _=>rfl,Nat.le_refl _,λu w m _ _ _ _ _ _ h=>⟨h,Int.le_refl _⟩,λa b h=>h.elim⟩
theorem CI.arcI (ci:CI es N G A C){k:Int}(k0:0<=k)(k1:k<A.length):ArcG es G A k.toNat (gi A k):=ci.arc _ _ (c1_ k0 k1)
theorem CJ.step (no:NetOk N es)(co:COk es)(ci:CI es N G A0 C0)(gv:¬G v)(cj:CJ es N G v A0 C0 P A C){a b:Int}(a0:0<=a)(a1:a<A0.length)(b0:0<=b)(b1:b<A0.length)(xa:(gi A0 a).to=v)(xg:¬G (gi A0 a).fr)(yb:(gi A0 b).fr=v)(yg:¬G (gi A0 b).to) :
  CJ es N G v A0 C0 (λi j=>P i j\/(i=a/\j=b)) (shortP N A C a b).1 (shortP N A C a b).2:=by
 have ea:=cj.pre a a0 a1
 have eb:=cj.pre b b0 b1
 obtain ⟨l1,q1,q2,q3,q4⟩:=ci.arcI a0 a1
 obtain ⟨l2,r1,r2,r3,r4⟩:=ci.arcI b0 b1
 have ra:=q2.range no
 have rb:=r2.range no
 have ma:=q2.md no
 simp only[shortP,ea,eb]
 split
 ·rename_i h
  refine ⟨cj.toCI0,cj.pre,cj.le,cj.dec,λi j hp i0 i1 j0 j1 h1 h2=>?_⟩
  rcases hp with hp|⟨rfl,rfl⟩
  ·exact cj.don i j hp i0 i1 j0 j1 h1 h2
  ·rcases h with h|h
   ·exact absurd h1 h
   ·exact absurd (h.trans xa) h2
 rename_i h
 have hm:(gi A0 a).md=(gi A0 b).md:=Decidable.byContradiction λq=>h (.inl q)
 have hto:(gi A0 b).to≠v:=λq=>h (.inr (q.trans xa.symm))
 obtain ⟨p0,p1⟩:=cu_lt (N:=N) ra.1.1 ra.1.2 rb.2.1 rb.2.2 ma.1 ma.2
 split
 case isFalse h2=>
  have cr:=cj.cur _ _ _ ra.1.1 ra.1.2 rb.2.1 rb.2.2 ma.1 ma.2
  refine ⟨cj.toCI0,cj.pre,cj.le,cj.dec,λi j hp i0 i1 j0 j1 h1 h2'=>?_⟩
  rcases hp with hp|⟨rfl,rfl⟩
  ·exact cj.don i j hp i0 i1 j0 j1 h1 h2'
  ·rw[not_or] at h2
   show 0<cu N C _ _ _/\(gi A (cu N C _ _ _-1)).co<=_
   exact ⟨oM,oM⟩
 case isTrue h2=>
  obtain ⟨p,hp⟩:∃p,p=((gi A0 a).fr*(N:Int)+(gi A0 b).to)*5+(gi A0 a).md:=⟨_,rfl⟩
  obtain ⟨n,hn⟩:∃n,n=(⟨(gi A0 a).fr,(gi A0 b).to,(gi A0 a).md,(gi A0 a).co+(gi A0 b).co,-1,a,b⟩:Ar):=⟨_,rfl⟩
  rw[<-hp] at p0 p1 ⊢
  rw[<-hn]
  have lenC:=cj.len
  have cus:∀u w m:Int,0<=u->u<N->0<=w->w<N->0<=m->m<5->(u=(gi A0 a).fr/\w=(gi A0 b).to/\m=(gi A0 a).md/\cu N (C.set p.toNat (A.length+1)) u w m=A.length+1)\/
    (¬(u=(gi A0 a).fr/\w=(gi A0 b).to/\m=(gi A0 a).md)/\cu N (C.set p.toNat (A.length+1)) u w m=cu N C u w m):=by
   intro u w m u0 u1 w0 w1 m0 m1
   have hr:=cu_lt u0 u1 w0 w1 m0 m1
   by_cases q:(u*N+w)*5+m=p
   ·left
    obtain ⟨z1,z2,z3⟩:=b9X w0 w1 m0 m1 rb.2.1 rb.2.2 ma.1 ma.2 (q.trans hp)
    refine ⟨z1,z2,z3,?_⟩
    show gi _ _=_
    rw[w3_ p0 oM hr.1,if_pos q]
   ·right
    refine ⟨λ⟨z1,z2,z3⟩=>q (by rw[hp,z1,z2,z3]),?_⟩
    show gi _ _=_
    rw[w3_ p0 oM hr.1,if_neg q]
  have old:∀k:Int,0<=k->k<A.length->gi (A++[n]) k=gi A k:=λk k0 k1=>a3h k0 k1
  have new:gi (A++[n]) ((A.length:Int)+1-1)=n:=by
   rw[show (A.length:Int)+1-1=A.length by omega]; exact a6R _ _
  have crs:=λu w m u0 u1 w0 w1 m0 m1=>cj.cur u w m u0 u1 w0 w1 m0 m1
  have hd:(ivs es (l1++l2)).Nodup:=by
   rw[c3k q2 r2.ok.2.2,List.nodup_append]
   refine ⟨q4,List.nodup_cons.2 ⟨λhz=>gv (xa▸r2.inner _ hz),r4⟩,λz hz z' hz' he=>?_⟩
   subst he
   have gz:=q2.inner z hz
   rcases List.mem_cons.1 hz' with rfl|hz'
   ·exact gv (xa▸gz)
   obtain ⟨p1',s1,e1,f1,g1⟩:=q2.at hz
   obtain ⟨p2',s2,e2,f2,g2⟩:=r2.at hz'
   rw[<-hm] at g2
   have hs:=f1.app gz g2
   obtain ⟨k1,k2⟩:=ci.cov _ _ _ _ xg yg hs
   obtain ⟨k3,k4⟩:=cj.dec _ _ _ ra.1.1 ra.1.2 rb.2.1 rb.2.2 ma.1 ma.2 k1
   have c1:=g1.cost co
   have c2:=f2.cost co
   rw[e1,a0e] at q3
   rw[e2,a0e] at r3
   rw[a0e] at k2
   omega
  refine ⟨⟨by rw[List.length_set]; exact lenC,λk x hk=>?_,λu w m u0 u1 w0 w1 m0 m1=>?_⟩,λk k0 k1=>?_,?_,λu w m u0 u1 w0 w1 m0 m1 hc=>?_,λi j hij i0 i1 j0 j1 h1 h2'=>?_⟩
  ·by_cases hk':k<A.length
   ·rw[List.getElem?_append_left hk'] at hk
    obtain ⟨l,s1,s2⟩:=cj.arc k x hk
    exact ⟨l,s1.app _,s2⟩
   ·rw[List.getElem?_append_right oM] at hk
    have hkk:k=A.length:=by
     have:=(List.getElem?_eq_some_iff.1 hk).1
     simp at this
     omega
    subst hkk
    simp at hk
    subst hk
    have get:∀{i:Int},0<=i->i<A0.length->∀{l},Unp A0 i.toNat l->Unp A i.toNat l:=by
     intro i i0 i1 l hu
     obtain ⟨B,hB⟩:∃B,A=A0++B:=by
      refine ⟨A.drop A0.length,?_⟩
      refine List.ext_getElem? λt=>?_
      by_cases ht:t<A0.length
      ·rw[List.getElem?_append_left ht]
       have:=cj.pre t oM oM
       have z1:=c1_ (xs:=A) (i:=t) oM (by have:=cj.le; omega)
       have z2:=c1_ (xs:=A0) (i:=t) oM oM
       rw[Int.toNat_natCast] at z1 z2
       rw[z1,z2,this]
      ·rw[List.getElem?_append_right oM,List.getElem?_drop]
       congr 1
       omega
     rw[hB]
     exact hu.app B
    have hle:=cj.le
    refine ⟨l1++l2,?_,?_,?_,hd⟩
    ·refine .two (i:=a.toNat) (j:=b.toNat) (a:=n) (by simp) (by rw[hn]) (by rw[hn]; show a=_; omega) (by rw[hn]; show b=_; omega) oM oM ((get a0 a1 q1).app _) ((get b0 b1 r1).app _)
    ·rw[hn]
     have h1:=q2.mono (G':=λx=>G x\/x=v) λx q=>.inl q
     have h2:=r2.mono (G':=λx=>G x\/x=v) λx q=>.inl q
     rw[xa] at h1
     rw[yb,<-hm] at h2
     exact h1.app (.inr rfl) h2
    ·rw[hn,a0e,q3,r3]
  ·have cr:=crs u w m u0 u1 w0 w1 m0 m1
   rw[List.length_append]
   rcases cus u w m u0 u1 w0 w1 m0 m1 with ⟨z1,z2,z3,z4⟩|⟨_,z4⟩
   ·rw[z4]
    refine ⟨oM,by simp,λ_=>?_⟩
    rw[new,hn]
    exact ⟨z1.symm,z2.symm,z3.symm⟩
   ·rw[z4]
    refine ⟨cr.1,by have:=cr.2.1; simp; omega,λq=>?_⟩
    rw[old _ oM oM]
    exact cr.2.2 q
  ·rw[old k k0 (by have:=cj.le; omega)]
   exact cj.pre k k0 k1
  ·have:=cj.le
   simp; omega
  ·have cr:=crs u w m u0 u1 w0 w1 m0 m1
   obtain ⟨d1,d2⟩:=cj.dec u w m u0 u1 w0 w1 m0 m1 hc
   rcases cus u w m u0 u1 w0 w1 m0 m1 with ⟨rfl,rfl,rfl,z4⟩|⟨_,z4⟩
   ·rw[z4,new,hn]
    exact ⟨oM,by show (gi A0 a).co+(gi A0 b).co<=_; omega⟩
   ·rw[z4,old _ oM oM]
    exact ⟨d1,d2⟩
  ·rcases hij with hij|⟨rfl,rfl⟩
   ·have hi:=cj.don i j hij i0 i1 j0 j1 h1 h2'
    obtain ⟨_,_,t1,_⟩:=ci.arcI i0 i1
    obtain ⟨_,_,t2,_⟩:=ci.arcI j0 j1
    have rt1:=t1.range no
    have rt2:=t2.range no
    have mt:=t1.md no
    have cr:=crs _ _ _ rt1.1.1 rt1.1.2 rt2.2.1 rt2.2.2 mt.1 mt.2
    rcases cus _ _ _ rt1.1.1 rt1.1.2 rt2.2.1 rt2.2.2 mt.1 mt.2 with ⟨z1,z2,z3,z4⟩|⟨_,z4⟩
    ·rw[z1,z2,z3] at hi
     rw[z4,new,hn]
     exact ⟨oM,by show (gi A0 a).co+(gi A0 b).co<=_; omega⟩
    ·rw[z4,old _ oM oM]
     exact hi
   ·have e4:=cus _ _ _ ra.1.1 ra.1.2 rb.2.1 rb.2.2 ma.1 ma.2
    rcases e4 with ⟨_,_,_,z4⟩|⟨z,_⟩
    ·rw[z4,new,hn]
     exact ⟨oM,Int.le_refl _⟩
    ·exact absurd ⟨rfl,rfl,rfl⟩ z
end
end Go.Gm.AZ
namespace Go.Gm.AZ
open Go Go.Gm
section
variable {N:Nat} {es:List E} {G:Int->Prop} {v:Int} {A0 A:List Ar} {C0 C:List Int} {P:Int->Int->Prop} {up dn:List Int}
structure UD (N:Nat) (G:Int->Prop) (v:Int) (A:List Ar) (C:List Int) (up dn:List Int):Prop where
 up:∀w m:Int,0<=w->w<N->0<=m->m<5->¬G w->0<cu N C v w m->cu N C v w m-1∈up
 dn:∀u m:Int,0<=u->u<N->0<=m->m<5->¬G u->u≠v->0<cu N C u v m->cu N C u v m-1∈dn
theorem CI.stU (no:NetOk N es)(ci:CI es N G A C)(gv:¬G v)(ud:UD N G v A C up dn)(hw:¬G w)(h:Sg es G m v w l):∃k∈up,0<=k/\k<A.length/\(gi A k).to=w/\(gi A k).md=m/\(gi A k).co<=atC es l:=by
 have hr:=h.range no
 have hm:=h.md no
 obtain ⟨c1,c2⟩:=ci.cov _ _ _ _ gv hw h
 have cr:=ci.cur v w m hr.1.1 hr.1.2 hr.2.1 hr.2.2 hm.1 hm.2
 exact ⟨_,ud.up w m hr.2.1 hr.2.2 hm.1 hm.2 hw c1,oM,oM,(cr.2.2 c1).2.1,(cr.2.2 c1).2.2,c2⟩
theorem CI.stD (no:NetOk N es)(ci:CI es N G A C)(gv:¬G v)(ud:UD N G v A C up dn)(hu:¬G u)(huv:u≠v)(h:Sg es G m u v l):∃k∈dn,0<=k/\k<A.length/\(gi A k).fr=u/\(gi A k).md=m/\(gi A k).co<=atC es l:=by
 have hr:=h.range no
 have hm:=h.md no
 obtain ⟨c1,c2⟩:=ci.cov _ _ _ _ hu gv h
 have cr:=ci.cur u v m hr.1.1 hr.1.2 hr.2.1 hr.2.2 hm.1 hm.2
 exact ⟨_,ud.dn u m hr.1.1 hr.1.2 hm.1 hm.2 hu huv c1,oM,oM,(cr.2.2 c1).1,(cr.2.2 c1).2.2,c2⟩
theorem CJ.done (no:NetOk N es)(co:COk es)(ci:CI es N G A0 C0)(gv:¬G v)(ud:UD N G v A0 C0 up dn)(hP:∀a∈dn,∀b∈up,P a b)(cj:CJ es N G v A0 C0 P A C):CI es N (λx=>G x\/x=v) A C:=by
 refine ⟨cj.toCI0,λu w m l hu hw h=>?_⟩
 rw[not_or] at hu hw
 have hr:=h.range no
 have hm:=h.md no
 rcases h.split with i|⟨l1,l2,rfl,i2,i3⟩
 ·obtain ⟨c1,c2⟩:=ci.cov _ _ _ _ hu.1 hw.1 i
  obtain ⟨d1,d2⟩:=cj.dec u w m hr.1.1 hr.1.2 hr.2.1 hr.2.2 hm.1 hm.2 c1
  exact ⟨d1,oM⟩
 ·obtain ⟨l',k1,k2⟩:=i3.last co l2.length (Nat.le_refl _)
  obtain ⟨a,a1,a2,a3,a4,a5,a6⟩:=ci.stD no gv ud hu.1 hu.2 i2
  obtain ⟨b,b1,b2,b3,b4,b5,b6⟩:=ci.stU no gv ud hw.1 k1
  obtain ⟨d1,d2⟩:=cj.don a b (hP a a1 b b1) a2 a3 b2 b3 (a5.trans b5.symm) (b4▸hw.2)
  rw[a4,b4,a5] at d1 d2
  rw[a0e]
  exact ⟨d1,oM⟩
theorem CI.begin (no:NetOk N es)(hl:C.length=N*N*5)(ha:∀(k:Nat) (a:Ar),A[k]?=some a->∃e:Nat,e<es.length/\a=⟨(eg es e).fr,(eg es e).to,(eg es e).md,(eg es e).co,e,0,0⟩)(hc:∀u w m:Int,0<=u->u<N->0<=w->w<N->0<=m->m<5->0<=cu N C u w m/\cu N C u w m<=A.length/\(0<cu N C u w m->(gi A (cu N C u w m-1)).fr=u/\(gi A (cu N C u w m-1)).to=w/\(gi A (cu N C u w m-1)).md=m))(hm:∀e:Nat,e<es.length->0<cu N C (eg es e).fr (eg es e).to (eg es e).md/\(gi A (cu N C (eg es e).fr (eg es e).to (eg es e).md-1)).co<=(eg es e).co):CI es N (λ_=>False) A C:=by
 refine ⟨⟨hl,λk a h=>?_,hc⟩,λu w m l _ _ h=>?_⟩
 ·obtain ⟨e,h1,rfl⟩:=ha k a h
  refine ⟨[e],?_,.one h1 rfl rfl rfl,?_,List.nodup_nil⟩
  ·have:=Unp.edge h (by show (0:Int)<=e; omega)
   simpa using this
  ·show 0+(eg es e).co=_; simp
 ·cases h with
  |@one _ _ e h1 h2 h3 h4=>
   subst h2 h3 h4
   obtain ⟨q1,q2⟩:=hm e h1
   exact ⟨q1,by show _<=0+(eg es e).co; omega⟩
  |cons _ _ _ _ h5 _=>exact h5.elim
end
end Go.Gm.AZ
namespace Go.Gm.AZ
open Go Go.Gm
def encA (a:Ar):List AV:=[I a.fr,I a.to,I a.md,I a.co,I a.ed,I a.a,I a.b]
structure WC where
 hb:Heap
 b1:Nat
 oW:Nat
 oE:Nat
 oC:Nat
 oG:Nat
 oU:Nat
 oD:Nat
 N:Nat
 es:List E
 sE:AV
 sU:AV
 sD:AV
 sC:AV
 sG:AV
structure WC.Ok (c:WC):Prop where
 n:1<=c.N/\c.N<=100
 no:NetOk c.N c.es
 co:COk c.es
 b:c.hb.length<=c.oW/\c.hb.length<=c.oE/\c.hb.length<=c.oC/\c.hb.length<=c.oG/\c.hb.length<=c.oU/\c.hb.length<=c.oD
 t:c.oW<c.b1/\c.oE<c.b1/\c.oC<c.b1/\c.oG<c.b1/\c.oU<c.b1/\c.oD<c.b1
 d:c.oW≠c.oE/\c.oW≠c.oC/\c.oW≠c.oG/\c.oW≠c.oU/\c.oW≠c.oD/\c.oE≠c.oC/\c.oE≠c.oG/\c.oE≠c.oU/\c.oE≠c.oD/\c.oC≠c.oG/\c.oC≠c.oU/\c.oC≠c.oD/\c.oG≠c.oU/\c.oG≠c.oD/\c.oU≠c.oD
structure WS where
 sA:AV
 oA:Nat
 sR:AV
 oR:Nat
 A:List Ar
 C:List Int
 g:List Bool
 rk:List Int
 us:List AV
 ds:List AV
 Up:List (List Int)
 Dn:List (List Int)
def one1 (s:AV):List AV:=[s]
def Inn (c:WC)(h:Heap)(sA:AV)(oA:Nat)(sR:AV)(oR:Nat)(s:AV)(xs:List Int):Prop:=
 ∃o,Gr o (o+1) h 1 s (xs.map encI)/\(s≠.nils->c.b1<=o/\o<h.length/\(sA≠.nils->o≠oA)/\(sR≠.nils->o≠oR))
structure WV (c:WC) (s:WS) (h:Heap):Prop where
 eb:Ext c.hb h
 lb:c.b1<=h.length
 row:h[c.oW]?=some (.cells ⟨[I c.N,c.sE,s.sR,s.sA,c.sU,c.sD,c.sC,c.sG],0,0,false⟩)
 gE:Gr c.oE (c.oE+1) h 4 c.sE (c.es.map encE)
 gA:Gr s.oA (s.oA+1) h 7 s.sA (s.A.map encA)
 pA:s.sA≠.nils->c.b1<=s.oA/\s.oA<h.length
 gR:Gr s.oR (s.oR+1) h 1 s.sR (s.rk.map encI)
 pR:s.sR≠.nils->c.b1<=s.oR/\s.oR<h.length/\(s.sA≠.nils->s.oR≠s.oA)
 gC:Gr c.oC (c.oC+1) h 1 c.sC (s.C.map encI)
 gG:Gr c.oG (c.oG+1) h 1 c.sG (s.g.map encB)
 gU:Gr c.oU (c.oU+1) h 1 c.sU (s.us.map one1)
 gD:Gr c.oD (c.oD+1) h 1 c.sD (s.ds.map one1)
 lU:s.us.length=c.N/\s.ds.length=c.N/\s.Up.length=c.N/\s.Dn.length=c.N
 rU:∀v:Int,0<=v->v<c.N->Inn c h s.sA s.oA s.sR s.oR (gi s.us v) (gi s.Up v)
 rD:∀v:Int,0<=v->v<c.N->Inn c h s.sA s.oA s.sR s.oR (gi s.ds v) (gi s.Dn v)
theorem _root_.Go.Gm.Gr.keep (g:Gr o (o+1) h sz s xs)(f:FrS D h h')(hq:s≠.nils->¬D o):Gr o (o+1) h' sz s xs:=by
 by_cases q:s=.nils
 ·subst q
  have:=g.isNil
  subst this
  exact Gr.nil ..
 ·exact g.frs f λr r1 r2=>by
   obtain rfl:r=o:=oM
   exact hq q
theorem Inn.keep {sA sA' sR sR' s:AV}{oA oA' oR oR':Nat}(a:Inn c h sA oA sR oR s xs)(f:FrS D h h')(hq:∀o,c.b1<=o->o<h.length->(sA≠.nils->o≠oA)->(sR≠.nils->o≠oR)->¬D o/\(sA'≠.nils->o≠oA')/\(sR'≠.nils->o≠oR')):Inn c h' sA' oA' sR' oR' s xs:=by
 obtain ⟨o,g,p⟩:=a
 have l:=f.len
 refine ⟨o,g.keep f λq=>?_,λq=>?_⟩
 ·obtain ⟨p1,p2,p3,p4⟩:=p q
  exact (hq o p1 p2 p3 p4).1
 ·obtain ⟨p1,p2,p3,p4⟩:=p q
  obtain ⟨q1,q2,q3⟩:=hq o p1 p2 p3 p4
  exact ⟨p1,oM,q2,q3⟩
section
variable {c:WC} {s:WS} {h:Heap}
theorem WV.frs (w:WV c s h)(ok:c.Ok)(f:FrS D h h')(hD:∀o,D o->h.length<=o):WV c s h':=by
 have l:=f.len
 have lb:=w.lb
 have t:=ok.t
 have nd:∀o,o<h.length->¬D o:=λo ho q=>by have:=hD o q; omega
 refine ⟨f.ext w.eb λo ho=>nd o (by have:=w.eb.len; omega),oM,by rw[f.get (nd _ oM) oM]; exact w.row,w.gE.keep f λ_=>nd _ oM,w.gA.keep f λq=>nd _ (w.pA q).2,λq=>⟨(w.pA q).1,by have:=(w.pA q).2; omega⟩,w.gR.keep f λq=>nd _ (w.pR q).2.1,λq=>⟨(w.pR q).1,by have:=(w.pR q).2.1; omega,(w.pR q).2.2⟩,
  w.gC.keep f λ_=>nd _ oM,w.gG.keep f λ_=>nd _ oM,w.gU.keep f λ_=>nd _ oM,w.gD.keep f λ_=>nd _ oM,w.lU,λv v0 v1=>(w.rU v v0 v1).keep f λo _ h2 h3 h4=>⟨nd o h2,h3,h4⟩,λv v0 v1=>(w.rD v v0 v1).keep f λo _ h2 h3 h4=>⟨nd o h2,h3,h4⟩⟩
theorem WV.ext (w:WV c s h)(ok:c.Ok)(e:Ext h h'):WV c s h':=w.frs ok (FrS.ofExt (D:=λ_=>False) e) (λo q=>q.elim)
theorem WV.at (w:WV c s h):At h (.ptr c.oW 0 8 0) [I c.N,c.sE,s.sR,s.sA,c.sU,c.sD,c.sC,c.sG]:=At.row w.row (Nat.le_refl _) rfl
theorem b0r {os:List AV}(ok:c.Ok)(row:At h (.ptr c.oW 0 8 0) (I c.N::os)){u v m:Int}(u0:0<=u)(u1:u<c.N)(v0:0<=v)(v1:v<c.N)(m0:0<=m)(m1:m<5) :
  Tot tab f2_ [.ptr c.oW 0 8 0,I u,I v,I m] h λr h'=>r=I ((u*c.N+v)*5+m)/\h=h':=by
 refine WP.tot (a8o · ..) ?_
 have hn:=ok.n
 obtain ⟨p0,p1⟩:=cu_lt u0 u1 v0 v1 m0 m1
 have hNN:c.N*c.N*5<=100*100*5:=Nat.mul_le_mul_right 5 (Nat.mul_le_mul hn.2 hn.2)
 have h1:0<=u*(c.N:Int):=Int.mul_nonneg u0 oM
 have h2:u*(c.N:Int)<=100*100:=Int.mul_le_mul oM oM oM oM
 have w1:IntKind.i64.wrap (u*(c.N:Int))=u*c.N:=d6_ oM oM
 have w2:IntKind.i64.wrap ((u*(c.N:Int)+v)*5)=(u*c.N+v)*5:=d6_ oM oM
 generalize hP:u*(c.N:Int)=P at *
 generalize c.N*c.N*5=NN at *
 have r0:=row.ld0 (by simp)
 refine g8 row.nil row.fldA0 row.fldAf row.ldfE @r0 @w1 @w2 @hP ?_
 exact WP.ret ⟨rfl,rfl⟩
end
end Go.Gm.AZ
namespace Go.Gm.AZ
open Go Go.Gm
section
variable {c:WC} {s:WS} {h h':Heap}
theorem WV.setC (w:WV c s h)(ok:c.Ok){C':List Int}(f:FrS (λo=>o=c.oC) h h')(g:Gr c.oC (c.oC+1) h' 1 c.sC (C'.map encI)):WV c { s with C:=C' } h':=by
 have l:=f.len
 have lb:=w.lb
 have hl:=w.eb.len
 have b:=ok.b
 have t:=ok.t
 have d:=ok.d
 refine ⟨f.ext w.eb λo ho=>oM,oM,by rw[f.get oM oM]; exact w.row,w.gE.keep f λ_=>oM,w.gA.keep f λq=>by have:=w.pA q; omega,λq=>⟨(w.pA q).1,by have:=(w.pA q).2; show s.oA<_; omega⟩,w.gR.keep f λq=>by have:=w.pR q; omega,λq=>⟨(w.pR q).1,by have:=(w.pR q).2.1; show s.oR<_; omega,(w.pR q).2.2⟩,
  g,w.gG.keep f λ_=>oM,w.gU.keep f λ_=>oM,w.gD.keep f λ_=>oM,w.lU,λv v0 v1=>(w.rU v v0 v1).keep f λo h1 h2 h3 h4=>⟨oM,h3,h4⟩,λv v0 v1=>(w.rD v v0 v1).keep f λo h1 h2 h3 h4=>⟨oM,h3,h4⟩⟩
theorem WV.setG (w:WV c s h)(ok:c.Ok){g':List Bool}(f:FrS (λo=>o=c.oG) h h')(g:Gr c.oG (c.oG+1) h' 1 c.sG (g'.map encB)):WV c { s with g:=g' } h':=by
 have l:=f.len
 have lb:=w.lb
 have hl:=w.eb.len
 have b:=ok.b
 have t:=ok.t
 have d:=ok.d
 refine ⟨f.ext w.eb λo ho=>oM,oM,by rw[f.get oM oM]; exact w.row,w.gE.keep f λ_=>oM,w.gA.keep f λq=>by have:=w.pA q; omega,λq=>⟨(w.pA q).1,by have:=(w.pA q).2; show s.oA<_; omega⟩,w.gR.keep f λq=>by have:=w.pR q; omega,λq=>⟨(w.pR q).1,by have:=(w.pR q).2.1; show s.oR<_; omega,(w.pR q).2.2⟩,
  w.gC.keep f λ_=>oM,g,w.gU.keep f λ_=>oM,w.gD.keep f λ_=>oM,w.lU,λv v0 v1=>(w.rU v v0 v1).keep f λo h1 h2 h3 h4=>⟨oM,h3,h4⟩,λv v0 v1=>(w.rD v v0 v1).keep f λo h1 h2 h3 h4=>⟨oM,h3,h4⟩⟩
theorem WV.setU (w:WV c s h)(ok:c.Ok){v:Int}(v0:0<=v)(v1:v<c.N)(f:FrS (λo=>o=c.oU) h h')(g:Gr c.oU (c.oU+1) h' 1 c.sU ((s.us.set v.toNat r).map one1))(hr:Inn c h s.sA s.oA s.sR s.oR r xs):WV c { s with us:=s.us.set v.toNat r,Up:=s.Up.set v.toNat xs } h':=by
 have l:=f.len
 have lb:=w.lb
 have hl:=w.eb.len
 have b:=ok.b
 have t:=ok.t
 have d:=ok.d
 have lu:=w.lU
 refine ⟨f.ext w.eb λo ho=>oM,oM,by rw[f.get oM oM]; exact w.row,w.gE.keep f λ_=>oM,w.gA.keep f λq=>by have:=w.pA q; omega,λq=>⟨(w.pA q).1,by have:=(w.pA q).2; show s.oA<_; omega⟩,w.gR.keep f λq=>by have:=w.pR q; omega,λq=>⟨(w.pR q).1,by have:=(w.pR q).2.1; show s.oR<_; omega,(w.pR q).2.2⟩,
  w.gC.keep f λ_=>oM,w.gG.keep f λ_=>oM,g,w.gD.keep f λ_=>oM,by simpa using lu,λu u0 u1=>?_,λv v0 v1=>(w.rD v v0 v1).keep f λo h1 h2 h3 h4=>⟨oM,h3,h4⟩⟩
 show Inn c h' s.sA s.oA s.sR s.oR (gi (s.us.set v.toNat r) u) (gi (s.Up.set v.toNat xs) u)
 rw[w3_ v0 oM u0,w3_ v0 oM u0]
 split
 ·exact hr.keep f λo h1 h2 h3 h4=>⟨oM,h3,h4⟩
 ·exact (w.rU u u0 u1).keep f λo h1 h2 h3 h4=>⟨oM,h3,h4⟩
theorem WV.setD (w:WV c s h)(ok:c.Ok){v:Int}(v0:0<=v)(v1:v<c.N)(f:FrS (λo=>o=c.oD) h h')(g:Gr c.oD (c.oD+1) h' 1 c.sD ((s.ds.set v.toNat r).map one1))(hr:Inn c h s.sA s.oA s.sR s.oR r xs):WV c { s with ds:=s.ds.set v.toNat r,Dn:=s.Dn.set v.toNat xs } h':=by
 have l:=f.len
 have lb:=w.lb
 have hl:=w.eb.len
 have b:=ok.b
 have t:=ok.t
 have d:=ok.d
 have lu:=w.lU
 refine ⟨f.ext w.eb λo ho=>oM,oM,by rw[f.get oM oM]; exact w.row,w.gE.keep f λ_=>oM,w.gA.keep f λq=>by have:=w.pA q; omega,λq=>⟨(w.pA q).1,by have:=(w.pA q).2; show s.oA<_; omega⟩,w.gR.keep f λq=>by have:=w.pR q; omega,λq=>⟨(w.pR q).1,by have:=(w.pR q).2.1; show s.oR<_; omega,(w.pR q).2.2⟩,
  w.gC.keep f λ_=>oM,w.gG.keep f λ_=>oM,w.gU.keep f λ_=>oM,g,by simpa using lu,λv v0 v1=>(w.rU v v0 v1).keep f λo h1 h2 h3 h4=>⟨oM,h3,h4⟩,λu u0 u1=>?_⟩
 show Inn c h' s.sA s.oA s.sR s.oR (gi (s.ds.set v.toNat r) u) (gi (s.Dn.set v.toNat xs) u)
 rw[w3_ v0 oM u0,w3_ v0 oM u0]
 split
 ·exact hr.keep f λo h1 h2 h3 h4=>⟨oM,h3,h4⟩
 ·exact (w.rD u u0 u1).keep f λo h1 h2 h3 h4=>⟨oM,h3,h4⟩
theorem WV.setR (w:WV c s h)(ok:c.Ok){rk':List Int}(hn:s.sR≠.nils)(f:FrS (λo=>o=s.oR) h h')(g:Gr s.oR (s.oR+1) h' 1 s.sR (rk'.map encI)):WV c { s with rk:=rk' } h':=by
 have l:=f.len
 have lb:=w.lb
 have hl:=w.eb.len
 have b:=ok.b
 have t:=ok.t
 have pr:=w.pR hn
 refine ⟨f.ext w.eb λo ho=>oM,oM,by rw[f.get oM oM]; exact w.row,w.gE.keep f λ_=>oM,w.gA.keep f λq=>by have:=pr.2.2 q; omega,λq=>⟨(w.pA q).1,by have:=(w.pA q).2; show s.oA<_; omega⟩,g,λq=>⟨(w.pR q).1,by have:=(w.pR q).2.1; show s.oR<_; omega,(w.pR q).2.2⟩,
  w.gC.keep f λ_=>oM,w.gG.keep f λ_=>oM,w.gU.keep f λ_=>oM,w.gD.keep f λ_=>oM,w.lU,λv v0 v1=>(w.rU v v0 v1).keep f λo h1 h2 h3 h4=>⟨by have:=h4 hn; omega,h3,h4⟩,λv v0 v1=>(w.rD v v0 v1).keep f λo h1 h2 h3 h4=>⟨by have:=h4 hn; omega,h3,h4⟩⟩
theorem WV.addA (w:WV c s h)(ok:c.Ok){a:Ar}(f:FrS (λp=>s.sA≠.nils/\p=s.oA) h h')(g:Gr o' (o'+1) h' 7 s' ((s.A++[a]).map encA))(q:s'≠.nils->((o'=s.oA/\s.sA≠.nils)\/h.length<=o')/\o'<h'.length) :
  h'[c.oW]?=some (.cells ⟨[I c.N,c.sE,s.sR,s.sA,c.sU,c.sD,c.sC,c.sG],0,0,false⟩)/\WV c { s with sA:=s',oA:=o',A:=s.A++[a] } (h'.set c.oW (.cells ⟨[I c.N,c.sE,s.sR,s',c.sU,c.sD,c.sC,c.sG],0,0,false⟩)):=by
 have l:=f.len
 have lb:=w.lb
 have hl:=w.eb.len
 have b:=ok.b
 have t:=ok.t
 have d:=ok.d
 have pa:=w.pA
 have nA:∀o,(s.sA≠.nils->o≠s.oA)->¬(s.sA≠.nils/\o=s.oA):=λo h1 h2=>h1 h2.1 h2.2
 have rw':h'[c.oW]?=_:=(f.get (nA _ λq=>by have:=pa q; omega) oM).trans w.row
 have f2:=(f.mono (D':=λp=>(s.sA≠.nils/\p=s.oA)\/p=c.oW) λ_ _ z=>.inl z).trans ((FrS.set1 h' c.oW (.cells ⟨[I c.N,c.sE,s.sR,s',c.sU,c.sD,c.sC,c.sG],0,0,false⟩)).mono λ_ _ z=>.inr z)
 have nB:∀o,(s.sA≠.nils->o≠s.oA)->o≠c.oW->¬((s.sA≠.nils/\o=s.oA)\/o=c.oW):=λo h1 h2 h3=>h3.elim (nA o h1) h2
 have nC:∀o,o<c.b1->o≠c.oW->¬((s.sA≠.nils/\o=s.oA)\/o=c.oW):=λo h1 h2=>nB o (λq=>by have:=pa q; omega) h2
 have ll:(h'.set c.oW (.cells ⟨[I c.N,c.sE,s.sR,s',c.sU,c.sD,c.sC,c.sG],0,0,false⟩)).length=h'.length:=by simp
 have inn:∀{x:AV} {xs:List Int},Inn c h s.sA s.oA s.sR s.oR x xs->Inn c (h'.set c.oW (.cells ⟨[I c.N,c.sE,s.sR,s',c.sU,c.sD,c.sC,c.sG],0,0,false⟩)) s' o' s.sR s.oR x xs:=λhx=>hx.keep f2 λo h1 h2 h3 h4=>⟨nB o h3 oM,λz=>by
  rcases (q z).1 with ⟨z1,z2⟩|z1
  ·have:=h3 z2; omega
  ·omega,h4⟩
 refine ⟨rw',f2.ext w.eb λo ho=>nC o oM oM,oM,a0_ oM,w.gE.keep f2 λ_=>nC _ oM oM,?_,λz=>?_,w.gR.keep f2 λz=>nB _ (w.pR z).2.2 (by have:=(w.pR z).1; omega),λz=>⟨(w.pR z).1,by have:=(w.pR z).2.1; show s.oR<_; omega,λz2=>?_⟩,
  w.gC.keep f2 λ_=>nC _ oM oM,w.gG.keep f2 λ_=>nC _ oM oM,w.gU.keep f2 λ_=>nC _ oM oM,w.gD.keep f2 λ_=>nC _ oM oM,w.lU,λv v0 v1=>inn (w.rU v v0 v1),λv v0 v1=>inn (w.rD v v0 v1)⟩
 ·refine g.keep (FrS.set1 ..) λz=>?_
  rcases (q z).1 with ⟨z1,z2⟩|z1
  ·have:=pa z2; omega
  ·omega
 ·refine ⟨?_,by have:=(q z).2; show o'<_; omega⟩
  show c.b1<=o'
  rcases (q z).1 with ⟨z1,z2⟩|z1
  ·have:=pa z2; omega
  ·omega
 ·show s.oR≠o'
  have h1:=w.pR z
  rcases (q z2).1 with ⟨z3,z4⟩|z3
  ·have:=h1.2.2 z4; omega
  ·omega
theorem b5Z (ok:c.Ok)(w:WV c s h)(hC:s.C.length=c.N*c.N*5){a:Ar}(u0:0<=a.fr)(u1:a.fr<c.N)(v0:0<=a.to)(v1:a.to<c.N)(m0:0<=a.md)(m1:a.md<5)(hl:s.A.length<=100000000) :
  Tot tab k2_ [.ptr c.oW 0 8 0,.agg (encA a)] h λr h'=>r=.tup []/\∃s' o',WV c { s with sA:=s',oA:=o',A:=s.A++[a],C:=s.C.set ((a.fr*c.N+a.to)*5+a.md).toNat (s.A.length+1) } h'/\
   FrS (λo=>o=c.oW\/o=c.oC\/(s.sA≠.nils/\o=s.oA)) h h'/\(s'≠.nils->(o'=s.oA/\s.sA≠.nils)\/h.length<=o'):=by
 refine WP.tot (a7N · ..) ?_
 have lb:=w.lb
 have t:=ok.t
 have pa:=w.pA
 obtain ⟨h1,hh1⟩:∃h1,h1=h++[AObj.cells ⟨encA a,0,0,false⟩]:=⟨_,rfl⟩
 have e1:Ext h h1:=by rw[hh1]; exact Ext.push _ _
 have l1:h1.length=h.length+1:=by rw[hh1]; simp
 have ra1:h1[h.length]?=some (.cells ⟨encA a,0,0,false⟩):=by rw[hh1]; simp
 have w1:=w.ext ok e1
 have b:=Gr.lit (h:=h1) (sz:=7) (v:=encA a) rfl
 rw[a3_] at b
 obtain ⟨h2,hh2⟩:∃h2,h2=h1++[AObj.cells ⟨encA a,0,0,false⟩]:=⟨_,rfl⟩
 rw[<-hh2] at b
 have e2:Ext h1 h2:=by rw[hh2]; exact Ext.push _ _
 have w2:=w1.ext ok e2
 have l2:h2.length=h1.length+1:=by rw[hh2]; simp
 obtain ⟨s',h3,o',q1,q2,q3,q4⟩:=w2.gA.appP (λz=>(w2.pA z).2) b.sl oM (bytes:=56) oM (by simp; omega)
 have q2':Gr o' (o'+1) h3 7 s' ((s.A++[a]).map encA):=q2.cong (by simp)
 obtain ⟨rw3,w4⟩:=w2.addA ok q4 q2' q3
 obtain ⟨h4,hh4⟩:∃h4,h4=h3.set c.oW (.cells ⟨[I c.N,c.sE,s.sR,s',c.sU,c.sD,c.sC,c.sG],0,0,false⟩):=⟨_,rfl⟩
 rw[<-hh4] at w4
 have l3:=q4.len
 have ra3:h3[h.length]?=some (.cells ⟨encA a,0,0,false⟩):=by rw[q4.get (λz=>by have:=pa z.1; omega) oM]; exact e2.get ra1
 have ra4:h4[h.length]?=some (.cells ⟨encA a,0,0,false⟩):=by rw[hh4,a9_ oM]; exact ra3
 have row4:=w4.row
 have at4:=w4.at
 obtain ⟨p0,p1⟩:=cu_lt u0 u1 v0 v1 m0 m1
 have hNN:c.N*c.N*5<=100*100*5:=Nat.mul_le_mul_right 5 (Nat.mul_le_mul ok.n.2 ok.n.2)
 have gs':=q2'.sl
 have gC4:=w4.gC
 obtain ⟨p,hp⟩:∃p,p=(a.fr*(c.N:Int)+a.to)*5+a.md:=⟨_,rfl⟩
 rw[<-hp] at p0 p1
 have hlt:p<s.C.length:=by rw[hC]; exact p1
 obtain ⟨h5,k1,k2,k3,k4⟩:=gC4.write0 (i:=p) (v:=I ((s.A.length:Int)+1)) p0 (by simpa using hlt) rfl rfl
 have f5:FrS (λo=>o=c.oC) h4 h5:=k3.s.mono λo _ z=>oM
 have w5:=w4.setC ok (C':=s.C.set p.toNat (s.A.length+1)) f5 (k2.cong (by rw[List.map_set]; rfl))
 have row0:=(w.ext ok e1).row
 have hlen:lenS s'=some (I ((s.A.length:Int)+1)):=by rw[gs'.lenG]; simp
 have gC4s:Sl h4 1 c.sC (s.C.map encI):=gC4.sl
 rw[show AV.cells (.agg (encA a))=encA a from rfl]
 have hone:(encA a).all AV.one=true:=rfl
 have r1:=w1.row
 have r2:=w2.row
 have hcl:(encA a).length=7:=rfl
 have ld7:Gm.ldN 7 h1 (.ptr h.length 0 7 0)=some (.agg (encA a)):=by
  have:=(At.row (g':=0) (n:=7) ra1 (Nat.le_refl _) rfl).ldN (n:=7) (by rw[hcl]; omega)
  rw[this,show (encA a).take 7=encA a from rfl]
 rw[b3R hone,hcl,a3_,<-hh1]
 try simp only[b0O]
 refine g2 @r1 @ld7 ?_
 rw[show bsl 7 1 h1 (some (setAll [I 0,I 0,I 0,I 0,I 0,I 0,I 0] 0 (encA a)))=some (.sl h1.length 0 1 7 none 0,h2) by rw[hh2]; rfl]
 try simp only[b0O]
 rw[q1]
 have c3:s'.cells=[s']:=gs'.cells
 have o3:s'.one=true:=gs'.one
 refine g3 @rw3 @c3 @o3 ?_
 rw[<-hh4]
 refine g4 @row4 @ra3 @encA.eq_1 @hlen ?_
 refine WP.call (b0r ok at4 u0 u1 v0 v1 m0 m1) ?_
 rintro _ _ ⟨rfl,rfl⟩
 rw[<-hp]
 refine g2 @row4 gC4s.idxG ?_
 rw[k1]
 refine g0 ?_
 refine WP.ret ⟨rfl,s',o',w5,?_,λz=>?_⟩
 ·have a1:FrS (λo=>o=c.oW\/o=c.oC\/(s.sA≠.nils/\o=s.oA)) h h2:=FrS.ofExt (e1.trans e2)
  have a2:=q4.mono (D':=λo=>o=c.oW\/o=c.oC\/(s.sA≠.nils/\o=s.oA)) λo _ z=>.inr (.inr z)
  have a3:FrS (λo=>o=c.oW\/o=c.oC\/(s.sA≠.nils/\o=s.oA)) h3 h4:=by rw[hh4]; exact (FrS.set1 ..).mono λo _ z=>.inl z
  exact ((a1.trans a2).trans a3).trans (f5.mono λo _ z=>.inr (.inl z))
 ·rcases (q3 z).1 with q|q
  ·exact .inl q
  ·exact .inr oM
end
end Go.Gm.AZ
namespace Go.Gm.AZ
open Go Go.Gm
structure AOk (N:Nat) (a:Ar):Prop where
 f0:0<=a.fr
 f1:a.fr<N
 t0:0<=a.to
 t1:a.to<N
 m0:0<=a.md
 m1:a.md<5
 c0:0<=a.co
 c1:a.co<=4398046511104
section
variable {c:WC} {s:WS} {h h':Heap}
theorem b8S (ok:c.Ok)(w:WV c s h)(hC:s.C.length=c.N*c.N*5){a b:Int}(a0:0<=a)(a1:a<s.A.length)(b0:0<=b)(b1:b<s.A.length)(hl:s.A.length<=100000000)(hA:∀k:Int,0<=k->k<s.A.length->AOk c.N (gi s.A k))(hk:0<=cu c.N s.C (gi s.A a).fr (gi s.A b).to (gi s.A a).md/\cu c.N s.C (gi s.A a).fr (gi s.A b).to (gi s.A a).md<=s.A.length) :
  Tot tab z0_ [.ptr c.oW 0 8 0,I a,I b] h fun r h'=>r=.tup []/\∃s' o',WV c { s with sA:=s',oA:=o',A:=(shortP c.N s.A s.C a b).1,C:=(shortP c.N s.A s.C a b).2 } h'/\
   FrS (fun o=>o=c.oW\/o=c.oC\/(s.sA≠.nils/\o=s.oA)) h h'/\(s'≠.nils->(o'=s.oA/\s.sA≠.nils)\/h.length<=o'):=by
 have lb:=w.lb
 have t:=ok.t
 have rw0:=w.row
 have gs:=w.gA.sl
 have ax:=hA a a0 a1
 have bx:=hA b b0 b1
 unfold shortP
 obtain ⟨x,hx⟩:∃x,gi s.A a=x:=⟨_,rfl⟩
 obtain ⟨y,hy⟩:∃y,gi s.A b=y:=⟨_,rfl⟩
 rw[hx] at ax
 rw[hy] at bx
 rw[hx,hy] at hk ⊢
 have lx:∀H,Ext h H->Gm.ldN 7 H (elP 7 s.sA a)=some (.agg [I x.fr,I x.to,I x.md,I x.co,I x.ed,I x.a,I x.b]):=fun H e=>by have:=gs.ldN (H:=H) e a0 a1; rw[hx] at this; exact this
 have ly:∀H,Ext h H->Gm.ldN 7 H (elP 7 s.sA b)=some (.agg [I y.fr,I y.to,I y.md,I y.co,I y.ed,I y.a,I y.b]):=fun H e=>by have:=gs.ldN (H:=H) e b0 b1; rw[hy] at this; exact this
 refine WP.tot (fun k=>a6L k _ _ _ h) ?_
 obtain ⟨h1,hh1⟩:∃h1,h1=((h++[AObj.cells ⟨[I 0,I 0,I 0,I 0,I 0,I 0,I 0],0,0,false⟩])++[AObj.cells ⟨[I 0,I 0,I 0,I 0,I 0,I 0,I 0],0,0,false⟩]).set h.length (.cells ⟨[I x.fr,I x.to,I x.md,I x.co,I x.ed,I x.a,I x.b],0,0,false⟩):=⟨_,rfl⟩
 obtain ⟨h2,hh2⟩:∃h2,h2=h1.set (h.length+1) (.cells ⟨[I y.fr,I y.to,I y.md,I y.co,I y.ed,I y.a,I y.b],0,0,false⟩):=⟨_,rfl⟩
 have e1:Ext h h1:=by rw[hh1]; ((repeat (first|exact Ext.refl _|assumption|apply Ext.app|apply Ext.mk|(refine Ext.setr ?_ (by (first|omega|(simp only[gL]<;>omega))) _))))
 have e2:Ext h h2:=by rw[hh2]; exact e1.setr (by omega) _
 have l1:h1.length=h.length+2:=by rw[hh1]; simp
 have rx2:h2[h.length]?=some (.cells ⟨[I x.fr,I x.to,I x.md,I x.co,I x.ed,I x.a,I x.b],0,0,false⟩):=by rw[hh2,a9_ (by omega),hh1]; exact a0_ (by simp)
 have ry2:h2[h.length+1]?=some (.cells ⟨[I y.fr,I y.to,I y.md,I y.co,I y.ed,I y.a,I y.b],0,0,false⟩):=by rw[hh2]; exact a0_ (by omega)
 have w2:=w.ext ok e2
 have rw2:=w2.row
 have hz:AV.int .i64 0=I 0:=rfl
 try simp only[hz]
 simp -implicitDefEqProofs (maxSteps:=1000000) (disch:=first|assumption|omega|(simp only[gL]<;>omega)|((repeat (first|exact Ext.refl _|assumption|apply Ext.app|apply Ext.mk|(refine Ext.setr ?_ (by (first|omega|(simp only[gL]<;>omega))) _))); done)|(simp only[gL,gA,rw0,gs.idxG,lx,ly]<;>omega)|fail) only[gB,setAll,partL,fldV,reduceIte,Nat.reduceAdd,Nat.reduceMul,rw0,gs.idxG,lx,ly]
 rw[<-hh1,<-hh2]
 have keep:∀(A':List Ar) (C':List Int),A'=s.A->C'=s.C->∃s' o',WV c { s with sA:=s',oA:=o',A:=A',C:=C' } h2/\FrS (fun o=>o=c.oW\/o=c.oC\/(s.sA≠.nils/\o=s.oA)) h h2/\(s'≠.nils->(o'=s.oA/\s.sA≠.nils)\/h.length<=o'):=by
  rintro _ _ rfl rfl
  exact ⟨s.sA,s.oA,w2,FrS.ofExt e2,fun q=>.inl ⟨rfl,q⟩⟩
 by_cases hm:x.md=y.md
 case neg=>
  rw[if_pos (.inl hm)]
  simp -implicitDefEqProofs (maxSteps:=1000000) (disch:=first|assumption|omega|(simp only[gL]<;>omega)|((repeat (first|exact Ext.refl _|assumption|apply Ext.app|apply Ext.mk|(refine Ext.setr ?_ (by (first|omega|(simp only[gL]<;>omega))) _))); done)|(simp only[gL,gA,hm]<;>omega)|fail) only[gB,setAll,partL,fldV,reduceIte,Nat.reduceAdd,Nat.reduceMul,hm]
  exact WP.ret ⟨rfl,keep _ _ rfl rfl⟩
 by_cases ht:y.to=x.to
 case pos=>
  rw[if_pos (.inr ht)]
  simp -implicitDefEqProofs (maxSteps:=1000000) (disch:=first|assumption|omega|(simp only[gL]<;>omega)|((repeat (first|exact Ext.refl _|assumption|apply Ext.app|apply Ext.mk|(refine Ext.setr ?_ (by (first|omega|(simp only[gL]<;>omega))) _))); done)|(simp only[gL,gA,hm,rx2,ry2,ht]<;>omega)|fail) only[gB,setAll,partL,fldV,reduceIte,Nat.reduceAdd,Nat.reduceMul,hm,rx2,ry2,ht]
  exact WP.ret ⟨rfl,keep _ _ rfl rfl⟩
 rw[if_neg (fun q=>q.elim (fun q=>q hm) ht)]
 simp -implicitDefEqProofs (maxSteps:=1000000) (disch:=first|assumption|omega|(simp only[gL]<;>omega)|((repeat (first|exact Ext.refl _|assumption|apply Ext.app|apply Ext.mk|(refine Ext.setr ?_ (by (first|omega|(simp only[gL]<;>omega))) _))); done)|(simp only[gL,gA,hm,rx2,ry2,ht]<;>omega)|fail) only[gB,setAll,partL,fldV,reduceIte,Nat.reduceAdd,Nat.reduceMul,hm,rx2,ry2,ht]
 rw[<-hm]
 have at2:=w2.at
 simp -implicitDefEqProofs (maxSteps:=1000000) (disch:=first|assumption|omega|(simp only[gL]<;>omega)|((repeat (first|exact Ext.refl _|assumption|apply Ext.app|apply Ext.mk|(refine Ext.setr ?_ (by (first|omega|(simp only[gL]<;>omega))) _))); done)|(simp only[gL,gA,rw2,rx2,ry2]<;>omega)|fail) only[gB,setAll,partL,fldV,reduceIte,Nat.reduceAdd,Nat.reduceMul,rw2,rx2,ry2]
 refine WP.call (b0r ok at2 ax.f0 ax.f1 bx.t0 bx.t1 ax.m0 ax.m1) ?_
 rintro _ _ ⟨rfl,rfl⟩
 obtain ⟨p0,p1⟩:=cu_lt ax.f0 ax.f1 bx.t0 bx.t1 ax.m0 ax.m1
 obtain ⟨p,hp⟩:∃p,p=(x.fr*(c.N:Int)+y.to)*5+x.md:=⟨_,rfl⟩
 obtain ⟨k,hkk⟩:∃k,k=cu c.N s.C x.fr y.to x.md:=⟨_,rfl⟩
 rw[<-hkk] at hk ⊢
 have hgk:gi s.C p=k:=by rw[hkk,hp]
 rw[<-hp] at p0 p1 ⊢
 have hlt:p<s.C.length:=by rw[hC]; exact p1
 have gC2:=w2.gC.sl
 have gA2:=w2.gA.sl
 have ldk:=gC2.ld0 (H:=h2) (Ext.refl _) p0 hlt (by omega)
 rw[hgk] at ldk
 replace ldk:Gm.ld1 h2 (elP 1 c.sC p)=some (I k):=ldk
 have last:Tot tab k2_ [.ptr c.oW 0 8 0,.agg [I x.fr,I y.to,I x.md,I (x.co+y.co),I (-1),I a,I b]] h2 fun r h'=>r=.tup []/\∃s' o',WV c { s with sA:=s',oA:=o',A:=s.A++[⟨x.fr,y.to,x.md,x.co+y.co,-1,a,b⟩],C:=s.C.set p.toNat (s.A.length+1) } h'/\
   FrS (fun o=>o=c.oW\/o=c.oC\/(s.sA≠.nils/\o=s.oA)) h h'/\(s'≠.nils->(o'=s.oA/\s.sA≠.nils)\/h.length<=o'):=by
  refine (b5Z (a:=⟨x.fr,y.to,x.md,x.co+y.co,-1,a,b⟩) ok w2 hC ax.f0 ax.f1 bx.t0 bx.t1 ax.m0 ax.m1 hl).mono fun r h' ⟨q1,s',o',q2,q3,q4⟩=>⟨q1,s',o',by rw[hp]; exact q2,(FrS.ofExt e2).trans q3,fun z=>?_⟩
  rcases q4 z with q|q
  ·exact .inl q
  ·exact .inr (by have:=e2.len; omega)
 have c0:=ax.c0
 have c1:=ax.c1
 have d0:=bx.c0
 have d1:=bx.c1
 by_cases k0:k=0
 ·rw[if_pos (.inl k0)]
  simp -implicitDefEqProofs (maxSteps:=1000000) (disch:=first|assumption|omega|(simp only[gL]<;>omega)|((repeat (first|exact Ext.refl _|assumption|apply Ext.app|apply Ext.mk|(refine Ext.setr ?_ (by (first|omega|(simp only[gL]<;>omega))) _))); done)|(simp only[gL,gA,rw2,gC2.idxG,ldk,k0,rx2,ry2]<;>omega)|fail) only[gB,setAll,partL,fldV,reduceIte,Nat.reduceAdd,Nat.reduceMul,rw2,gC2.idxG,ldk,k0,rx2,ry2]
  refine WP.call last ?_
  rintro _ h3 ⟨rfl,q⟩
  exact WP.ret ⟨rfl,q⟩
 have kl:=(hA (k-1) (by omega) (by omega))
 have e0:=kl.c0
 have e1':=kl.c1
 have ldc:=gA2.ldf 3 (H:=h2) (i:=k-1) (Ext.refl _) (by omega) (by omega) (by omega)
 replace ldc:Gm.ld1 h2 (fldP 3 (elP 7 s.sA (k-1)))=some (I (gi s.A (k-1)).co):=ldc
 by_cases kc:x.co+y.co<(gi s.A (k-1)).co
 ·rw[if_pos (.inr kc)]
  simp -implicitDefEqProofs (maxSteps:=1000000) (disch:=first|assumption|omega|(simp only[gL]<;>omega)|((repeat (first|exact Ext.refl _|assumption|apply Ext.app|apply Ext.mk|(refine Ext.setr ?_ (by (first|omega|(simp only[gL]<;>omega))) _))); done)|(simp only[gL,gA,rw2,gC2.idxG,ldk,k0,rx2,ry2,gA2.idxG,ldc]<;>omega)|fail) only[gB,setAll,partL,fldV,reduceIte,Nat.reduceAdd,Nat.reduceMul,rw2,gC2.idxG,ldk,k0,rx2,ry2,gA2.idxG,ldc]
  refine WP.call last ?_
  rintro _ h3 ⟨rfl,q⟩
  exact WP.ret ⟨rfl,q⟩
 ·rw[if_neg (fun q=>q.elim k0 kc)]
  simp -implicitDefEqProofs (maxSteps:=1000000) (disch:=first|assumption|omega|(simp only[gL]<;>omega)|((repeat (first|exact Ext.refl _|assumption|apply Ext.app|apply Ext.mk|(refine Ext.setr ?_ (by (first|omega|(simp only[gL]<;>omega))) _))); done)|(simp only[gL,gA,rw2,gC2.idxG,ldk,k0,rx2,ry2,gA2.idxG,ldc]<;>omega)|fail) only[gB,setAll,partL,fldV,reduceIte,Nat.reduceAdd,Nat.reduceMul,rw2,gC2.idxG,ldk,k0,rx2,ry2,gA2.idxG,ldc]
  exact WP.ret ⟨rfl,keep _ _ rfl rfl⟩
end
end Go.Gm.AZ
namespace Go.Gm.AZ
open Go Go.Gm
def pkM (f:Int->Int->Int)(b:Bool)(u n:Nat):List Int:=(List.range n).filterMap λ(m:Nat)=>if 0<f u m/\b=false then some (f u m-1) else none
def pkTo (f:Int->Int->Int)(g:Int->Bool)(n:Nat):List Int:=(List.range n).flatMap λ(u:Nat)=>pkM f (g u) u 5
section
variable {f:Int->Int->Int} {g:Int->Bool}
theorem a6y (b:Bool)(u n:Nat):pkM f b u (n+1)=pkM f b u n++if 0<f u n/\b=false then [f u n-1] else []:=by
 simp only[pkM,List.range_succ,List.filterMap_append,List.filterMap_cons,List.filterMap_nil]
 congr 1
 by_cases q:0<f u n/\b=false
 ·rw[if_pos q,if_pos q]
 ·rw[if_neg q,if_neg q]
theorem a9J (n:Nat):pkTo f g (n+1)=pkTo f g n++pkM f (g n) n 5:=by
 simp[pkTo,List.range_succ]
theorem b4C (b:Bool)(u n:Nat):(pkM f b u n).length<=n:=by
 unfold pkM
 exact Nat.le_trans (List.length_filterMap_le _ _) (by simp)
theorem c1A (u n:Nat):pkM f true u n=[]:=by simp[pkM]
theorem a3P:∀n:Nat,(pkTo f g n).length<=5*n
 |0=>by simp[pkTo]
 |n+1=>by
  rw[a9J,List.length_append]
  have:=a3P n
  have:=b4C (f:=f) (g n) n 5
  omega
theorem b1a {k:Int}:k∈pkTo f g n↔∃u m:Int,0<=u/\u<n/\0<=m/\m<5/\0<f u m/\g u=false/\k=f u m-1:=by
 simp only[pkTo,pkM,List.mem_flatMap,List.mem_range,List.mem_filterMap]
 constructor
 ·rintro ⟨u,hu,m,hm,he⟩
  split at he
  ·rename_i q
   injection he with he
   exact ⟨u,m,oM,oM,oM,oM,q.1,q.2,he.symm⟩
  ·cases he
 ·rintro ⟨u,m,u0,u1,m0,m1,q1,q2,rfl⟩
  refine ⟨u.toNat,oM,m.toNat,oM,?_⟩
  rw[Int.toNat_of_nonneg u0,Int.toNat_of_nonneg m0,if_pos ⟨q1,q2⟩]
end
section
variable {c:WC} {s:WS} {h0:Heap}
abbrev outF (c:WC)(s:WS)(v:Int):Int->Int->Int:=λu m=>cu c.N s.C v u m
abbrev inF (c:WC)(s:WS)(v:Int):Int->Int->Int:=λu m=>cu c.N s.C u v m
abbrev gonF (s:WS):Int->Bool:=λu=>gi s.g u
abbrev gonV (s:WS)(v:Int):Int->Bool:=λu=>gi s.g u || decide (u=v)
def CuOk (c:WC)(s:WS):Prop:=∀u w m:Int,0<=u->u<c.N->0<=w->w<c.N->0<=m->m<5->0<=cu c.N s.C u w m/\cu c.N s.C u w m<=1000000000
theorem c4T (ok:c.Ok)(w:WV c s h0)(hC:s.C.length=c.N*c.N*5)(hg:s.g.length=c.N)(cok:CuOk c s){v:Int}(v0:0<=v)(v1:v<c.N){u:Nat}(u1:u<c.N)(hQ:∀l h',Ext h0 h'->Gr h0.length h'.length h' 1 l ((pkTo (outF c s v) (gonF s) u++pkM (outF c s v) (gi s.g u) u 5).map encI)->WP (λp:Nat × Nat=>a0l p.1 p.2 (.ptr c.oW 0 8 0) (I v) l (I u) h') Q) :
  ∀(d m:Nat) (l:AV) (h:Heap),m+d=5->Ext h0 h->Gr h0.length h.length h 1 l ((pkTo (outF c s v) (gonF s) u++pkM (outF c s v) (gi s.g u) u m).map encI)->
   WP (λp:(Nat × Nat) × Nat=>f8_ p.1.1 p.1.2 p.2 (.ptr c.oW 0 8 0) (I v) l (I u) (I m) h) Q:=by
 intro d
 induction d with
 |zero=>
  intro m l h hm e g
  refine WP.rnd (λi j=>a1S i.1 i.2 j ..) ?_
  rw[show m=5 by omega] at g ⊢
  simp -implicitDefEqProofs (disch:=first|assumption|omega|(simp only[gL,gA]<;>omega)|fail) only[cG,reduceIte]
  exact WP.lv (hQ l h e g) λi j=>rfl
 |succ d ih=>
  intro m l h hm e g
  refine WP.rnd (λi j=>a1S i.1 i.2 j ..) ?_
  have wh:=w.ext ok e
  have r:=wh.row
  have lb:=wh.lb
  have t:=ok.t
  have gC:=wh.gC.sl
  have gG:=wh.gG.sl
  obtain ⟨p0,p1⟩:=cu_lt (m:=(m:Int)) v0 v1 (show (0:Int)<=u by omega) oM oM oM
  have ck:=cok v u m v0 v1 oM oM oM oM
  obtain ⟨p,hp⟩:∃p,p=(v*(c.N:Int)+(u:Int))*5+(m:Int):=⟨_,rfl⟩
  obtain ⟨k,hk⟩:∃k,k=cu c.N s.C v u m:=⟨_,rfl⟩
  have hgk:gi s.C p=k:=by rw[hk,hp]
  have ef:outF c s v (u:Int) (m:Int)=k:=hk.symm
  rw[<-hk] at ck
  rw[<-hp] at p0 p1
  have hlt:p<s.C.length:=by rw[hC]; exact p1
  have ldk:=gC.ld0 (H:=h) (Ext.refl _) p0 hlt oM
  rw[hgk] at ldk
  replace ldk:Gm.ld1 h (elP 1 c.sC p)=some (I k):=ldk
  have ldg:=gG.ld0 (H:=h) (i:=(u:Int)) (Ext.refl _) oM oM oM
  replace ldg:Gm.ld1 h (elP 1 c.sG (u:Int))=some (.bool (gi s.g u)):=ldg
  have hle:=a3P (f:=outF c s v) (g:=gonF s) u
  have hle2:=b4C (f:=outF c s v) (gi s.g u) u m
  have hn:=ok.n
  simp -implicitDefEqProofs (maxSteps:=1000000) (disch:=first|assumption|omega|(simp only[gL]<;>omega)|((repeat (first|exact Ext.refl _|assumption|apply Ext.app|apply Ext.mk|(refine Ext.setr ?_ (by (first|omega|(simp only[gL]<;>omega))) _))); done)|(simp only[gL,gA,r]<;>omega)|fail) only[gB,setAll,partL,fldV,reduceIte,Nat.reduceAdd,Nat.reduceMul,r]
  refine WP.call (b0r ok wh.at v0 v1 oM oM oM oM) ?_
  rintro _ _ ⟨rfl,rfl⟩
  rw[<-hp]
  have fin:∀(l':AV) (h':Heap),Ext h0 h'->Gr h0.length h'.length h' 1 l' ((pkTo (outF c s v) (gonF s) u++pkM (outF c s v) (gi s.g u) u (m+1)).map encI)->WP (λp:(Nat × Nat) × Nat=>f8_ p.1.1 p.1.2 p.2 (.ptr c.oW 0 8 0) (I v) l' (I u) (I ((m:Int)+1)) h') Q:=λl' h' e' g'=>ih (m+1) l' h' oM e' g'
  by_cases k0:0<k
  ·cases hgu:gi s.g (u:Int) with
   |true=>
    rw[hgu] at ldg
    simp -implicitDefEqProofs (maxSteps:=1000000) (disch:=first|assumption|omega|(simp only[gL]<;>omega)|((repeat (first|exact Ext.refl _|assumption|apply Ext.app|apply Ext.mk|(refine Ext.setr ?_ (by (first|omega|(simp only[gL]<;>omega))) _))); done)|(simp only[gL,gA,r,gC.idxG,ldk,gG.idxG,ldg]<;>omega)|fail) only[gB,setAll,partL,fldV,reduceIte,Nat.reduceAdd,Nat.reduceMul,r,gC.idxG,ldk,gG.idxG,ldg]
    refine fin l h e (g.cong ?_)
    rw[a6y,ef,hgu]
    simp
   |false=>
    rw[hgu] at ldg
    obtain ⟨s',h',k1,k2,k3⟩:=g.append1 (bytes:=8) (v:=[I (k-1)]) rfl oM oM (by simp; omega) e.len (Nat.le_refl _)
    rw[a3_] at k1
    simp -implicitDefEqProofs (maxSteps:=1000000) (disch:=first|assumption|omega|(simp only[gL]<;>omega)|((repeat (first|exact Ext.refl _|assumption|apply Ext.app|apply Ext.mk|(refine Ext.setr ?_ (by (first|omega|(simp only[gL]<;>omega))) _))); done)|(simp only[gL,gA,r,gC.idxG,ldk,gG.idxG,ldg,k1]<;>omega)|fail) only[gB,setAll,partL,fldV,reduceIte,Nat.reduceAdd,Nat.reduceMul,r,gC.idxG,ldk,gG.idxG,ldg,k1]
    refine fin s' h' (k3.ext e (Nat.le_refl _)) (k2.cong ?_)
    rw[a6y,ef,hgu,if_pos ⟨k0,rfl⟩]
    simp[encI]
  ·simp -implicitDefEqProofs (maxSteps:=1000000) (disch:=first|assumption|omega|(simp only[gL]<;>omega)|((repeat (first|exact Ext.refl _|assumption|apply Ext.app|apply Ext.mk|(refine Ext.setr ?_ (by (first|omega|(simp only[gL]<;>omega))) _))); done)|(simp only[gL,gA,r,gC.idxG,ldk,k0]<;>omega)|fail) only[gB,setAll,partL,fldV,reduceIte,Nat.reduceAdd,Nat.reduceMul,r,gC.idxG,ldk,k0]
   refine fin l h e (g.cong ?_)
   rw[a6y,ef,if_neg (λq=>k0 q.1)]
   simp
theorem c4U (ok:c.Ok)(w:WV c s h0)(hC:s.C.length=c.N*c.N*5)(hg:s.g.length=c.N)(cok:CuOk c s){v:Int}(v0:0<=v)(v1:v<c.N):∀(d u:Nat) (l:AV) (h:Heap),u+d=c.N->Ext h0 h->Gr h0.length h.length h 1 l ((pkTo (outF c s v) (gonF s) u).map encI)->
   WP (λp:Nat × Nat=>q3_ p.1 p.2 (.ptr c.oW 0 8 0) (I v) l (I u) h) λr h'=>Ext h0 h'/\Gr h0.length h'.length h' 1 r ((pkTo (outF c s v) (gonF s) c.N).map encI):=by
 intro d
 induction d with
 |zero=>
  intro u l h hu e g
  refine WP.rnd (a1T · · ..) ?_
  have r:=(w.ext ok e).row
  rw[show u=c.N by omega] at g ⊢
  refine g1 @r ?_
  exact WP.ret ⟨e,g⟩
 |succ d ih=>
  intro u l h hu e g
  refine WP.rnd (a1T · · ..) ?_
  have r:=(w.ext ok e).row
  have hn:=ok.n
  refine g1 @r ?_
  refine WP.ent (c4T ok w hC hg cok v0 v1 (u:=u) oM (λl' h' e' g'=>?_) 5 0 l h oM e (g.cong (by simp[pkM]))) λi=>rfl
  refine WP.congr (λi=>a6i i.1 i.2 ..) ?_
  refine g0 ?_
  refine ih (u+1) l' h' oM e' (g'.cong ?_)
  rw[a9J]
theorem b5a (ok:c.Ok)(w:WV c s h0)(hC:s.C.length=c.N*c.N*5)(hg:s.g.length=c.N)(cok:CuOk c s){v:Int}(v0:0<=v)(v1:v<c.N) :
  Tot tab e6_ [.ptr c.oW 0 8 0,I v] h0 λr h'=>Ext h0 h'/\Gr h0.length h'.length h' 1 r ((pkTo (outF c s v) (gonF s) c.N).map encI):=
 WP.tot (a7K · ..) (WP.ent (c4U ok w hC hg cok v0 v1 c.N 0 .nils h0 oM (Ext.refl _) (Gr.nil ..)) λi=>rfl)
theorem in_l2 (ok:c.Ok)(w:WV c s h0)(hC:s.C.length=c.N*c.N*5)(hg:s.g.length=c.N)(cok:CuOk c s){v:Int}(v0:0<=v)(v1:v<c.N){u:Nat}(u1:u<c.N)(huv:¬(u:Int)=v)(hQ:∀l h',Ext h0 h'->Gr h0.length h'.length h' 1 l ((pkTo (inF c s v) (gonV s v) u++pkM (inF c s v) (gi s.g u) u 5).map encI)->WP (λp:Nat × Nat=>s7_ p.1 p.2 (.ptr c.oW 0 8 0) (I v) l (I u) h') Q) :
  ∀(d m:Nat) (l:AV) (h:Heap),m+d=5->Ext h0 h->Gr h0.length h.length h 1 l ((pkTo (inF c s v) (gonV s v) u++pkM (inF c s v) (gi s.g u) u m).map encI)->
   WP (λp:(Nat × Nat) × Nat=>e5_ p.1.1 p.1.2 p.2 (.ptr c.oW 0 8 0) (I v) l (I u) (I m) h) Q:=by
 intro d
 induction d with
 |zero=>
  intro m l h hm e g
  refine WP.rnd (λi j=>x1_ i.1 i.2 j ..) ?_
  rw[show m=5 by omega] at g ⊢
  simp -implicitDefEqProofs (disch:=first|assumption|omega|(simp only[gL,gA]<;>omega)|fail) only[cG,reduceIte]
  exact WP.lv (hQ l h e g) λi j=>rfl
 |succ d ih=>
  intro m l h hm e g
  refine WP.rnd (λi j=>x1_ i.1 i.2 j ..) ?_
  have wh:=w.ext ok e
  have r:=wh.row
  have lb:=wh.lb
  have t:=ok.t
  have gC:=wh.gC.sl
  have gG:=wh.gG.sl
  obtain ⟨p0,p1⟩:=cu_lt (m:=(m:Int)) (show (0:Int)<=u by omega) (show (u:Int)<c.N by omega) v0 v1 oM oM
  have ck:=cok u v m oM oM v0 v1 oM oM
  obtain ⟨p,hp⟩:∃p,p=((u:Int)*(c.N:Int)+v)*5+(m:Int):=⟨_,rfl⟩
  obtain ⟨k,hk⟩:∃k,k=cu c.N s.C u v m:=⟨_,rfl⟩
  have hgk:gi s.C p=k:=by rw[hk,hp]
  have ef:inF c s v (u:Int) (m:Int)=k:=hk.symm
  rw[<-hk] at ck
  rw[<-hp] at p0 p1
  have hlt:p<s.C.length:=by rw[hC]; exact p1
  have ldk:=gC.ld0 (H:=h) (Ext.refl _) p0 hlt oM
  rw[hgk] at ldk
  replace ldk:Gm.ld1 h (elP 1 c.sC p)=some (I k):=ldk
  have ldg:=gG.ld0 (H:=h) (i:=(u:Int)) (Ext.refl _) oM oM oM
  replace ldg:Gm.ld1 h (elP 1 c.sG (u:Int))=some (.bool (gi s.g u)):=ldg
  have hle:=a3P (f:=inF c s v) (g:=gonV s v) u
  have hle2:=b4C (f:=inF c s v) (gi s.g u) u m
  have hn:=ok.n
  simp -implicitDefEqProofs (maxSteps:=1000000) (disch:=first|assumption|omega|(simp only[gL]<;>omega)|((repeat (first|exact Ext.refl _|assumption|apply Ext.app|apply Ext.mk|(refine Ext.setr ?_ (by (first|omega|(simp only[gL]<;>omega))) _))); done)|(simp only[gL,gA,r]<;>omega)|fail) only[gB,setAll,partL,fldV,reduceIte,Nat.reduceAdd,Nat.reduceMul,r]
  refine WP.call (b0r ok wh.at oM oM v0 v1 oM oM) ?_
  rintro _ _ ⟨rfl,rfl⟩
  rw[<-hp]
  have fin:∀(l':AV) (h':Heap),Ext h0 h'->Gr h0.length h'.length h' 1 l' ((pkTo (inF c s v) (gonV s v) u++pkM (inF c s v) (gi s.g u) u (m+1)).map encI)->WP (λp:(Nat × Nat) × Nat=>e5_ p.1.1 p.1.2 p.2 (.ptr c.oW 0 8 0) (I v) l' (I u) (I ((m:Int)+1)) h') Q:=λl' h' e' g'=>ih (m+1) l' h' oM e' g'
  by_cases k0:0<k
  ·cases hgu:gi s.g (u:Int) with
   |true=>
    rw[hgu] at ldg
    simp -implicitDefEqProofs (maxSteps:=1000000) (disch:=first|assumption|omega|(simp only[gL]<;>omega)|((repeat (first|exact Ext.refl _|assumption|apply Ext.app|apply Ext.mk|(refine Ext.setr ?_ (by (first|omega|(simp only[gL]<;>omega))) _))); done)|(simp only[gL,gA,r,gC.idxG,ldk,gG.idxG,ldg]<;>omega)|fail) only[gB,setAll,partL,fldV,reduceIte,Nat.reduceAdd,Nat.reduceMul,r,gC.idxG,ldk,gG.idxG,ldg]
    refine fin l h e (g.cong ?_)
    rw[a6y,ef,hgu]
    simp
   |false=>
    rw[hgu] at ldg
    obtain ⟨s',h',k1,k2,k3⟩:=g.append1 (bytes:=8) (v:=[I (k-1)]) rfl oM oM (by simp; omega) e.len (Nat.le_refl _)
    rw[a3_] at k1
    simp -implicitDefEqProofs (maxSteps:=1000000) (disch:=first|assumption|omega|(simp only[gL]<;>omega)|((repeat (first|exact Ext.refl _|assumption|apply Ext.app|apply Ext.mk|(refine Ext.setr ?_ (by (first|omega|(simp only[gL]<;>omega))) _))); done)|(simp only[gL,gA,r,gC.idxG,ldk,gG.idxG,ldg,k1]<;>omega)|fail) only[gB,setAll,partL,fldV,reduceIte,Nat.reduceAdd,Nat.reduceMul,r,gC.idxG,ldk,gG.idxG,ldg,k1]
    refine fin s' h' (k3.ext e (Nat.le_refl _)) (k2.cong ?_)
    rw[a6y,ef,hgu,if_pos ⟨k0,rfl⟩]
    simp[encI]
  ·simp -implicitDefEqProofs (maxSteps:=1000000) (disch:=first|assumption|omega|(simp only[gL]<;>omega)|((repeat (first|exact Ext.refl _|assumption|apply Ext.app|apply Ext.mk|(refine Ext.setr ?_ (by (first|omega|(simp only[gL]<;>omega))) _))); done)|(simp only[gL,gA,r,gC.idxG,ldk,k0]<;>omega)|fail) only[gB,setAll,partL,fldV,reduceIte,Nat.reduceAdd,Nat.reduceMul,r,gC.idxG,ldk,k0]
   refine fin l h e (g.cong ?_)
   rw[a6y,ef,if_neg (λq=>k0 q.1)]
   simp
theorem in_l1 (ok:c.Ok)(w:WV c s h0)(hC:s.C.length=c.N*c.N*5)(hg:s.g.length=c.N)(cok:CuOk c s){v:Int}(v0:0<=v)(v1:v<c.N):∀(d u:Nat) (l:AV) (h:Heap),u+d=c.N->Ext h0 h->Gr h0.length h.length h 1 l ((pkTo (inF c s v) (gonV s v) u).map encI)->
   WP (λp:Nat × Nat=>s6_ p.1 p.2 (.ptr c.oW 0 8 0) (I v) l (I u) h) λr h'=>Ext h0 h'/\Gr h0.length h'.length h' 1 r ((pkTo (inF c s v) (gonV s v) c.N).map encI):=by
 intro d
 induction d with
 |zero=>
  intro u l h hu e g
  refine WP.rnd (a2q · · ..) ?_
  have r:=(w.ext ok e).row
  rw[show u=c.N by omega] at g ⊢
  refine g1 @r ?_
  exact WP.ret ⟨e,g⟩
 |succ d ih=>
  intro u l h hu e g
  refine WP.rnd (a2q · · ..) ?_
  have r:=(w.ext ok e).row
  have hn:=ok.n
  refine g1 @r ?_
  have fin:∀(l':AV) (h':Heap),Ext h0 h'->Gr h0.length h'.length h' 1 l' ((pkTo (inF c s v) (gonV s v) (u+1)).map encI)->WP (λp:Nat × Nat=>s7_ p.1 p.2 (.ptr c.oW 0 8 0) (I v) l' (I u) h') λr h'=>Ext h0 h'/\Gr h0.length h'.length h' 1 r ((pkTo (inF c s v) (gonV s v) c.N).map encI):=by
   intro l' h' e' g'
   refine WP.congr (λi=>a6K i.1 i.2 ..) ?_
   refine g0 ?_
   exact ih (u+1) l' h' oM e' g'
  by_cases huv:(u:Int)=v
  ·refine WP.ent (c2:=λp:(Nat × Nat) × Nat=>e5_ p.1.1 p.1.2 p.2 (.ptr c.oW 0 8 0) (I v) l (I u) (I 0) h) ?_ λi=>rfl
   refine WP.rnd (λi j=>x1_ i.1 i.2 j ..) ?_
   refine g1 @huv ?_
   refine WP.lv (fin l h e (g.cong ?_)) λi j=>by rw[huv]
   rw[a9J,show gonV s v (u:Int)=true by simp[huv],c1A,List.append_nil]
  ·refine WP.ent (in_l2 ok w hC hg cok v0 v1 (u:=u) oM huv (λl' h' e' g'=>?_) 5 0 l h oM e (g.cong (by simp[pkM]))) λi=>rfl
   refine fin l' h' e' (g'.cong ?_)
   rw[a9J,show gonV s v (u:Int)=gi s.g (u:Int) by simp[huv]]
theorem c1B (ok:c.Ok)(w:WV c s h0)(hC:s.C.length=c.N*c.N*5)(hg:s.g.length=c.N)(cok:CuOk c s){v:Int}(v0:0<=v)(v1:v<c.N) :
  Tot tab h8_ [.ptr c.oW 0 8 0,I v] h0 λr h'=>Ext h0 h'/\Gr h0.length h'.length h' 1 r ((pkTo (inF c s v) (gonV s v) c.N).map encI):=
 WP.tot (a8m · ..) (WP.ent (in_l1 ok w hC hg cok v0 v1 c.N 0 .nils h0 oM (Ext.refl _) (Gr.nil ..)) λi=>rfl)
end
end Go.Gm.AZ
namespace Go.Gm.AZ
open Go Go.Gm
def RefV (h:Heap)(a:AV)(N:Int)(es:List E):Prop:=∃s,At h a [I N,s]/\Sl h 4 s (es.map encE)
theorem RefV.ext (w:RefV h a N es)(e:Ext h h'):RefV h' a N es:=by
 obtain ⟨s,w1,w2⟩:=w
 exact ⟨s,w1.ext e,w2.ext e⟩
theorem b2X {es:List E}(hs:Sl h 4 s (es.map encE)) :
  Tot tab a0R [.agg [I N,s]] h λr h'=>Ext h h'/\RefV h' r N es:=by
 refine WP.tot (b1k · ..) ?_
 refine g1 hs.one ?_
 refine WP.ret ⟨eX,s,?_,hs.ext eX⟩
 exact ⟨h.length+1,0,2,0,⟨[I N,s],0,0,false⟩,by simp,by simp,by simp,Nat.le_refl _,by simp⟩
theorem b7z {N v:Int}(w:RefV h0 a N es)(hn:es.length<=100000):∀(d n:Nat) (out:AV) (h:Heap),n+d=es.length->Ext h0 h->Gr h0.length h.length h 1 out ((idxTo (λe=>e.fr == v) es n).map encI)->
  WP (λp:Nat × Nat=>l9_ p.1 p.2 a (I v) out (I n) h) λr h'=>Ext h0 h'/\Gr h0.length h'.length h' 1 r ((outL es v).map encI):=by
 obtain ⟨s,w,ws⟩:=w
 intro d
 induction d with
 |zero=>
  intro n out h h1 e g
  refine WP.rnd (a2z · · ..) ?_
  refine g6 w.nil w.nilf w.fldA0 w.fldAf w.ldfE ws.lenG ?_
  refine WP.ret ⟨e,?_⟩
  rw[show n=es.length by omega] at g
  exact g
 |succ d ih=>
  intro n out h h1 e g
  refine WP.rnd (a2z · · ..) ?_
  have hle:=o0_ (λe=>e.fr == v) es n
  by_cases hx:(gi es n).fr=v
  ·obtain ⟨s',h',k1,k2,k3⟩:=g.append1 (bytes:=8) (v:=[I n]) rfl oM oM (by simp; omega) e.len (Nat.le_refl _)
   rw[a3_] at k1
   refine g10 w.nil w.nilf w.fldA0 w.fldAf w.ldfE ws.lenG ws.idxG ws.ldf @encE.eq_1 @k1 ?_
   refine ih (n+1) s' h' oM (k3.ext e (Nat.le_refl _)) (k2.cong ?_)
   simp[a5K,hx,encI]
  ·refine g9 w.nil w.nilf w.fldA0 w.fldAf w.ldfE ws.lenG ws.idxG ws.ldf @encE.eq_1 ?_
   refine ih (n+1) out h oM e (g.cong ?_)
   simp[a5K,hx]
theorem b7A (w:RefV h a N es)(hn:es.length<=100000) :
  Tot tab w1_ [a,I v] h λr h'=>Ext h h'/\Gr h.length h'.length h' 1 r ((outL es v).map encI):=
 WP.tot (a9c · ..) (WP.ent (b7z w hn es.length 0 .nils h oM (Ext.refl _) (Gr.nil ..)) λi=>rfl)
theorem b8U {N v:Int}(w:RefV h0 a N es)(hn:es.length<=100000):∀(d n:Nat) (out:AV) (h:Heap),n+d=es.length->Ext h0 h->Gr h0.length h.length h 1 out ((idxTo (λe=>e.to == v) es n).map encI)->
  WP (λp:Nat × Nat=>n6_ p.1 p.2 a (I v) out (I n) h) λr h'=>Ext h0 h'/\Gr h0.length h'.length h' 1 r ((inL es v).map encI):=by
 obtain ⟨s,w,ws⟩:=w
 intro d
 induction d with
 |zero=>
  intro n out h h1 e g
  refine WP.rnd (a2X · · ..) ?_
  refine g6 w.nil w.nilf w.fldA0 w.fldAf w.ldfE ws.lenG ?_
  refine WP.ret ⟨e,?_⟩
  rw[show n=es.length by omega] at g
  exact g
 |succ d ih=>
  intro n out h h1 e g
  refine WP.rnd (a2X · · ..) ?_
  have hle:=o0_ (λe=>e.to == v) es n
  by_cases hx:(gi es n).to=v
  ·obtain ⟨s',h',k1,k2,k3⟩:=g.append1 (bytes:=8) (v:=[I n]) rfl oM oM (by simp; omega) e.len (Nat.le_refl _)
   rw[a3_] at k1
   refine g10 w.nil w.nilf w.fldA0 w.fldAf w.ldfE ws.lenG ws.idxG ws.ldf @encE.eq_1 @k1 ?_
   refine ih (n+1) s' h' oM (k3.ext e (Nat.le_refl _)) (k2.cong ?_)
   simp[a5K,hx,encI]
  ·refine g9 w.nil w.nilf w.fldA0 w.fldAf w.ldfE ws.lenG ws.idxG ws.ldf @encE.eq_1 ?_
   refine ih (n+1) out h oM e (g.cong ?_)
   simp[a5K,hx]
theorem b8V (w:RefV h a N es)(hn:es.length<=100000) :
  Tot tab y6_ [a,I v] h λr h'=>Ext h h'/\Gr h.length h'.length h' 1 r ((inL es v).map encI):=
 WP.tot (a9D · ..) (WP.ent (b8U w hn es.length 0 .nils h oM (Ext.refl _) (Gr.nil ..)) λi=>rfl)
def rmTo (es:List E)(v:Int):Nat->Nat
 |0=>0
 |n+1=>if (gi es n).fr=v\/(gi es n).to=v then rmTo es v n ||| 2 ^ (gi es n).md.toNat else rmTo es v n
theorem b4D (ok:NetOk N es)(v:Int):∀n:Nat,n<=es.length->rmTo es v n<2 ^ 5
 |0,_=>by simp[rmTo]
 |n+1,h=>by
  have h1:=b4D ok v n oM
  have h2:=ok.edge _ (b7_ (xs:=es) (i:=(n:Int)) oM oM)
  rw[rmTo]
  split
  ·exact Nat.or_lt_two_pow h1 (Nat.pow_lt_pow_right oM oM)
  ·exact h1
theorem b3h (es:List E)(v:Int)(m:Nat):∀n:Nat,(rmTo es v n).testBit m=true↔∃k:Int,0<=k/\k<n/\((gi es k).fr=v\/(gi es k).to=v)/\(gi es k).md.toNat=m
 |0=>by simp[rmTo]; intro k h0 h1; omega
 |n+1=>by
  have ih:=b3h es v m n
  rw[rmTo]
  constructor
  ·intro h
   split at h
   ·rename_i hc
    rw[Nat.testBit_or,Bool.or_eq_true,Nat.testBit_two_pow,decide_eq_true_eq] at h
    rcases h with h|h
    ·obtain ⟨k,k0,k1,k2⟩:=ih.1 h
     exact ⟨k,k0,oM,k2⟩
    ·exact ⟨n,oM,oM,hc,h⟩
   ·obtain ⟨k,k0,k1,k2⟩:=ih.1 h
    exact ⟨k,k0,oM,k2⟩
  ·rintro ⟨k,k0,k1,k2,k3⟩
   by_cases hk:k=n
   ·subst hk
    rw[if_pos k2,Nat.testBit_or,Nat.testBit_two_pow,k3]; simp
   ·have h4:=ih.2 ⟨k,k0,oM,k2,k3⟩
    split
    ·rw[Nat.testBit_or,h4]; rfl
    ·exact h4
theorem b5B (ok:NetOk N es)(w:RefV h a N es):∀(d n:Nat),n+d=es.length->
  WP (λp:Nat × Nat=>j1_ p.1 p.2 a (I v) (I (rmTo es v n:Nat)) (I n) h) λr h'=>r=I (rmTo es v es.length:Nat)/\h=h':=by
 obtain ⟨s,w,ws⟩:=w
 have hln:=ok.len
 intro d
 induction d with
 |zero=>
  intro n h1
  refine WP.rnd (a1W · · ..) ?_
  refine g6 w.nil w.nilf w.fldA0 w.fldAf w.ldfE ws.lenG ?_
  rw[show n=es.length by omega]
  exact WP.ret ⟨rfl,rfl⟩
 |succ d ih=>
  intro n h1
  refine WP.rnd (a1W · · ..) ?_
  have he:=ok.edge _ (b7_ (xs:=es) (i:=(n:Int)) oM oM)
  have hp:2 ^ (gi es n).md.toNat<2 ^ 5:=Nat.pow_lt_pow_right oM oM
  have hlt:=b4D ok v n oM
  have hor:=or_i (a:=rmTo es v n) (b:=2 ^ (gi es n).md.toNat) oM oM
  have hn:=ih (n+1) oM
  rw[rmTo] at hn
  by_cases hf:(gi es n).fr=v
  ·rw[if_pos (.inl hf)] at hn
   refine g10 w.nil w.nilf w.fldA0 w.fldAf w.ldfE ws.lenG ws.idxG ws.ldf @encE.eq_1 @hor ?_
   exact hn
  ·by_cases ht:(gi es n).to=v
   ·rw[if_pos (.inr ht)] at hn
    refine g10 w.nil w.nilf w.fldA0 w.fldAf w.ldfE ws.lenG ws.idxG ws.ldf @encE.eq_1 @hor ?_
    exact hn
   ·rw[if_neg (λq=>q.elim hf ht)] at hn
    refine g10 w.nil w.nilf w.fldA0 w.fldAf w.ldfE ws.lenG ws.idxG ws.ldf @encE.eq_1 @hor ?_
    exact hn
theorem b5C (ok:NetOk N es)(w:RefV h a N es) :
  Tot tab s8_ [a,I v] h λr h'=>r=I (rmTo es v es.length:Nat)/\h=h':=
 WP.tot (a7T · ..) (WP.ent (b5B ok w es.length 0 oM) λi=>rfl)
theorem lss_u (a b:Int):binV .lss .scalar (.int .u64 a) (.int .u64 b)=some (.bool (decide (a<b))):=rfl
theorem add_u {a:Int}(h0:0<=a)(h1:a<=100):binV .add .scalar (.int .u64 a) (.int .u64 1)=some (.int .u64 (a+1)):=by
 show some (AV.int .u64 (IntKind.u64.wrap (a+1)))=_
 congr 2
 simp[IntKind.wrap,IntKind.bits,IntKind.signed]
 omega
def cntM (s n:Nat):Nat:=((List.range n).filter λm=>s.testBit m).length
theorem b9T (s n:Nat):cntM s (n+1)=cntM s n+((s >>> n) &&& 1):=by
 have h1:((s >>> n) &&& 1)=(s.testBit n).toNat:=by rw[Nat.toNat_testBit,Nat.and_one_is_mod,Nat.shiftRight_eq_div_pow]
 rw[h1]
 simp only[cntM,List.range_succ,List.filter_append,List.length_append,List.filter_cons,List.filter_nil]
 cases s.testBit n<;>simp
theorem c3i (s n:Nat):cntM s n<=n:=Nat.le_trans (List.length_filter_le _ _) (by simp)
def linkB (es:List E)(v:Int):Bool:=decide (2<=cntM (rmTo es v es.length) 5)
theorem c1C {s n a b:Nat}(ha:a<n)(hb:b<n)(hab:a≠b)(h1:s.testBit a=true)(h2:s.testBit b=true):2<=cntM s n:=by
 have hn:((List.range n).filter λm=>s.testBit m).Nodup:=List.nodup_range.filter _
 have m1:a∈(List.range n).filter λm=>s.testBit m:=List.mem_filter.2 ⟨List.mem_range.2 ha,h1⟩
 have m2:b∈(List.range n).filter λm=>s.testBit m:=List.mem_filter.2 ⟨List.mem_range.2 hb,h2⟩
 unfold cntM
 generalize (List.range n).filter (λm=>s.testBit m)=l at *
 match l,m1,m2 with
 |[],m1,_=>cases m1
 |[x],m1,m2=>
  rw[List.mem_singleton] at m1 m2
  exact absurd (m1.trans m2.symm) hab
 |x::y::l,_,_=>simp
theorem c1D (ok:NetOk N es)(h:linkB es v=false):OneM es v:=by
 intro e e' he he' k1 k2
 refine Decidable.byContradiction λhne=>?_
 have r1:0<=(eg es e).md/\(eg es e).md<5:=(ok.edge _ (b7_ (xs:=es) (i:=(e:Int)) oM oM)).2.2.2.2
 have r2:0<=(eg es e').md/\(eg es e').md<5:=(ok.edge _ (b7_ (xs:=es) (i:=(e':Int)) oM oM)).2.2.2.2
 have b1:=(b3h es v (eg es e).md.toNat es.length).2 ⟨e,oM,oM,k1,rfl⟩
 have b2:=(b3h es v (eg es e').md.toNat es.length).2 ⟨e',oM,oM,k2,rfl⟩
 have:=c1C (n:=5) oM oM oM b1 b2
 rw[linkB,decide_eq_false_iff_not] at h
 exact h this
section
variable {N:Nat} {es:List E} {h0:Heap} {a n1 sE:AV}
theorem c1E (ok:NetOk N es)(w:RefV h0 a N es)(e:Ext h0 h)(hQ:WP (λp:Nat × Nat=>a1n p.1 p.2 n1 a out (I v) (I (cntM (rmTo es v es.length) 5:Nat)) h) Q):∀d m:Nat,m+d=5->
  WP (λp:(Nat × Nat) × Nat=>v7_ p.1.1 p.1.2 p.2 n1 a out (I v) (I (cntM (rmTo es v es.length) m:Nat)) (.int .u64 m) h) Q:=by
 intro d
 induction d with
 |zero=>
  intro m hm
  refine WP.rnd (λi j=>a2V i.1 i.2 j ..) ?_
  obtain rfl:m=5:=oM
  have hlt:decide (((5:Nat):Int)<5)=false:=rfl
  refine g2 @lss_u @hlt ?_
  exact WP.lv hQ λi j=>rfl
 |succ d ih=>
  intro m hm
  refine WP.rnd (λi j=>a2V i.1 i.2 j ..) ?_
  have hlt:decide ((m:Int)<5)=true:=decide_eq_true oM
  have hs:=b4D ok v es.length (Nat.le_refl _)
  have hsh:binV .shr .scalar (I (rmTo es v es.length:Nat)) (.int .u64 (m:Int))=some (I ((rmTo es v es.length >>> m:Nat):Int)):=shr_i (k:=.u64) (s:=rmTo es v es.length) (m:=(m:Int)) oM oM
  have hle:rmTo es v es.length >>> m<=rmTo es v es.length:=by rw[Nat.shiftRight_eq_div_pow]; exact Nat.div_le_self _ _
  have hand:binV .and .scalar (I ((rmTo es v es.length >>> m:Nat):Int)) (I 1)=some (I ((rmTo es v es.length >>> m &&& 1:Nat):Int)):=and_i (b:=1) oM oM
  have h1:=c3i (rmTo es v es.length) m
  have h2:rmTo es v es.length >>> m &&& 1<=1:=Nat.and_le_right
  have hi:=ih (m+1) oM
  rw[b9T] at hi
  refine g2 @lss_u @hlt ?_
  refine WP.call (b5C ok (w.ext e)) ?_
  rintro _ _ ⟨rfl,rfl⟩
  have hadd:binV .add .scalar (I (cntM (rmTo es v es.length) m:Nat)) (I (rmTo es v es.length >>> m &&& 1:Nat))=some (I ((cntM (rmTo es v es.length) m+(rmTo es v es.length >>> m &&& 1):Nat):Int)):=by
   rw[add_i oM oM]; simp
  have hau:=add_u (a:=(m:Int)) oM oM
  refine g4 @hsh @hand @hadd @hau ?_
  exact hi
theorem c1F (ok:NetOk N es)(hN:N<=1000)(w:RefV h0 a N es)(wn:At h0 n1 [I N,sE]):∀(d v:Nat) (out:AV) (h:Heap),v+d=N->Ext h0 h->Gr h0.length h.length h 1 out (((List.range v).map λ(v:Nat)=>linkB es v).map encB)->
  WP (λp:Nat × Nat=>v6_ p.1 p.2 n1 a out (I v) h) λr h'=>Ext h0 h'/\Gr h0.length h'.length h' 1 r (((List.range N).map λ(v:Nat)=>linkB es v).map encB):=by
 intro d
 induction d with
 |zero=>
  intro v out h hv e g
  refine WP.rnd (a2W · · ..) ?_
  rw[show v=N by omega] at g ⊢
  refine g3 wn.fldA0 wn.ld0E wn.ldfE ?_
  exact WP.ret ⟨e,g⟩
 |succ d ih=>
  intro v out h hv e g
  refine WP.rnd (a2W · · ..) ?_
  have ht:(2:Int)<=((cntM (rmTo es v es.length) 5:Nat):Int)↔linkB es v=true:=by rw[linkB,decide_eq_true_eq]; omega
  obtain ⟨s',h',k1,k2,k3⟩:=g.append1 (bytes:=1) (v:=[.bool (linkB es v)]) rfl oM oM (by simp; omega) e.len (Nat.le_refl _)
  rw[a3_] at k1
  have hc:binV .geq .scalar (I ((cntM (rmTo es v es.length) 5:Nat):Int)) (I 2)=some (.bool (linkB es v)):=by
   cases hq:linkB es (v:Int) with
   |true=>exact geq_t (ht.2 hq)
   |false=>exact geq_f (λq=>by rw[ht.1 q] at hq; cases hq)
  refine g3 wn.fldA0 wn.ld0E wn.ldfE ?_
  refine WP.ent (c1E ok w e ?_ 5 0 oM) λi=>rfl
  refine WP.congr (λi=>a7P i.1 i.2 ..) ?_
  refine g2 @hc @k1 ?_
  refine WP.congr (λi=>a7O i.1 i.2 ..) ?_
  refine g0 ?_
  refine ih (v+1) s' h' oM (k3.ext e (Nat.le_refl _)) (k2.cong ?_)
  simp[List.range_succ,encB]
theorem b8W (ok:NetOk N es)(hN:N<=1000)(hs:Sl h 4 sE (es.map encE)) :
  Tot tab g4_ [.agg [I N,sE]] h λr h'=>Ext h h'/\Gr h.length h'.length h' 1 r (((List.range N).map λ(v:Nat)=>linkB es v).map encB):=by
 refine WP.tot (a9C · ..) ?_
 have hl:=hs.one
 obtain ⟨h1,hh1⟩:∃h1,h1=h++[AObj.cells ⟨[I N,sE],0,0,false⟩]:=⟨_,rfl⟩
 have e1:Ext h h1:=by rw[hh1]; exact Ext.push _ _
 have wn:At h1 (.ptr h.length 0 2 0) [I N,sE]:=At.row (wg:=0) (g:=0) (ro:=false) (by rw[hh1]; simp) (Nat.le_refl _) rfl
 refine g1 @hl ?_
 rw[<-hh1]
 refine WP.call (b2X (hs.ext e1)) ?_
 rintro r h2 ⟨e2,w2⟩
 refine WP.ent ((c1F ok hN w2 (wn.ext e2) N 0 .nils h2 oM (Ext.refl _) (Gr.nil ..)).mono λr h' ⟨q1,q2⟩=>?_) λi=>rfl
 have:=(e1.trans e2).len
 exact ⟨(e1.trans e2).trans q1,q2.mono this (Nat.le_refl _)⟩
def degV (es:List E)(v:Int):Nat:=(outL es v).length+(inL es v).length
def ordV (es:List E)(d n:Nat):List Int:=((List.range n).filter λ(v:Nat)=>!linkB es v && decide (degV es v=d)).map λ(v:Nat)=>(v:Int)
def ordTo (es:List E)(N:Nat)(D:Nat):List Int:=(List.range D).flatMap λd=>ordV es d N
theorem b9U (d n:Nat):ordV es d (n+1)=ordV es d n++if linkB es n=false/\degV es n=d then [(n:Int)] else []:=by
 simp only[ordV,List.range_succ,List.filter_append,List.map_append]
 congr 1
 by_cases q:linkB es n=false/\degV es n=d
 ·rw[if_pos q]; simp[q.1,q.2]
 ·rw[if_neg q]
  cases h1:linkB es (n:Int)<;>simp_all
theorem b1b (D:Nat):ordTo es N (D+1)=ordTo es N D++ordV es D N:=by simp[ordTo,List.range_succ]
theorem b6a (d n:Nat):(ordV es d n).length<=n:=by
 unfold ordV
 rw[List.length_map]
 exact Nat.le_trans (List.length_filter_le _ _) (by simp)
theorem b5b:∀D:Nat,(ordTo es N D).length<=D*N
 |0=>by simp[ordTo]
 |D+1=>by
  rw[b1b,List.length_append,Nat.succ_mul]
  have:=b5b D
  have:=b6a (es:=es) D N
  omega
theorem b9V {v:Int}(h:v∈ordTo es N D):0<=v/\v<N/\linkB es v=false:=by
 simp only[ordTo,ordV,List.mem_flatMap,List.mem_map,List.mem_filter,List.mem_range,Bool.and_eq_true,Bool.not_eq_true'] at h
 obtain ⟨d,hd,n,⟨h1,h2,_⟩,rfl⟩:=h
 exact ⟨oM,oM,h2⟩
theorem b6b {v:Int}(h:v∈ordV es d n):degV es v=d:=by
 simp only[ordV,List.mem_map,List.mem_filter,Bool.and_eq_true,decide_eq_true_eq] at h
 obtain ⟨n,⟨_,_,h3⟩,rfl⟩:=h
 exact h3
theorem b2Y:∀D:Nat,(ordTo es N D).Nodup/\∀v∈ordTo es N D,degV es v<D
 |0=>by simp[ordTo]
 |D+1=>by
  obtain ⟨i1,i2⟩:=b2Y D
  rw[b1b]
  refine ⟨List.nodup_append.2 ⟨i1,?_,λa ha b hb hab=>?_⟩,λv hv=>?_⟩
  ·refine List.Pairwise.map _ (λa b h q=>h oM) (List.nodup_range.filter _)
  ·have h1:=i2 a ha
   have h2:=b6b hb
   subst hab
   omega
  ·rcases List.mem_append.1 hv with h|h
   ·have:=i2 v h; omega
   ·have:=b6b h; omega
theorem c1G (ok:NetOk N es)(hN:N<=1000)(w:RefV h0 a N es)(wn:At h0 n1 [I N,sE])(gi':Sl h0 1 is (((List.range N).map λ(v:Nat)=>linkB es v).map encB)){D:Nat}(hD:D<=1000000)(hQ:∀out h',Ext h0 h'->Gr h0.length h'.length h' 1 out ((ordTo es N (D+1)).map encI)->WP (λp:Nat × Nat=>a1k p.1 p.2 n1 a is out (I D) h') Q) :
  ∀(d v:Nat) (out:AV) (h:Heap),v+d=N->Ext h0 h->Gr h0.length h.length h 1 out ((ordTo es N D++ordV es D v).map encI)->
  WP (λp:(Nat × Nat) × Nat=>i4_ p.1.1 p.1.2 p.2 n1 a is out (I D) (I v) h) Q:=by
 intro d
 induction d with
 |zero=>
  intro v out h hv e g
  refine WP.rnd (λi j=>a2S i.1 i.2 j ..) ?_
  rw[show v=N by omega,<-b1b] at g
  rw[show v=N by omega]
  refine g3 wn.fldA0 wn.ld0E wn.ldfE ?_
  exact WP.lv (hQ out h e g) λi j=>rfl
 |succ d ih=>
  intro v out h hv e g
  refine WP.rnd (λi j=>a2S i.1 i.2 j ..) ?_
  have gs:=gi'.ext e
  have hll:((List.range N).map λ(v:Nat)=>linkB es v).length=N:=by simp
  have ldi:=gs.ld0 (H:=h) (i:=(v:Int)) (Ext.refl _) oM (by rw[hll]; omega) oM
  have hgi:gi ((List.range N).map λ(v:Nat)=>linkB es v) (v:Int)=linkB es v:=by
   rw[b2_ (by rw[hll]; omega)]; simp
  rw[hgi] at ldi
  replace ldi:Gm.ld1 h (elP 1 is (v:Int))=some (.bool (linkB es v)):=ldi
  have idi:=gs.idxG (i:=(v:Int)) oM (by rw[hll]; omega)
  have hlen:((ordTo es N D++ordV es D v).length)<=1000000*1000+1000:=by
   rw[List.length_append]
   have h1:=b5b (es:=es) (N:=N) D
   have h2:=b6a (es:=es) D v
   have:D*N<=1000000*1000:=Nat.mul_le_mul hD hN
   omega
  have hov:=b9U (es:=es) D v
  have go1:∀(out':AV) (h':Heap),Ext h0 h'->Gr h0.length h'.length h' 1 out' ((ordTo es N D++ordV es D (v+1)).map encI)->WP (λp:(Nat × Nat) × Nat=>i4_ p.1.1 p.1.2 p.2 n1 a is out' (I D) (I ((v:Int)+1)) h') Q:=λout' h' e' g'=>ih (v+1) out' h' oM e' g'
  cases hl:linkB es (v:Int) with
  |true=>
   rw[hl] at ldi
   refine g5 wn.fldA0 wn.ld0E wn.ldfE @idi @ldi ?_
   refine go1 out h e (g.cong ?_)
   rw[hov,if_neg (λq=>by rw[hl] at q; cases q.1),List.append_nil]
  |false=>
   rw[hl] at ldi
   simp -implicitDefEqProofs (disch:=first|assumption|omega|(simp only[gL,gA]<;>omega)|fail) only[cG,reduceIte,wn.fldA0,wn.ld0E,wn.ldfE,idi,ldi]
   refine WP.call (b7A (w.ext e) ok.len) ?_
   rintro r1 h1 ⟨e1,g1⟩
   have hl1:(outL es v).length<=100000:=Nat.le_trans (o0_ ..) ok.len
   have hl2:(inL es v).length<=100000:=Nat.le_trans (o0_ ..) ok.len
   simp -implicitDefEqProofs (disch:=first|assumption|omega|(simp only[gL,gA]<;>omega)|fail) only[cG,reduceIte,g1.sl.lenG]
   refine WP.call (b8V ((w.ext e).ext e1) ok.len) ?_
   rintro r2 h2 ⟨e2,g2⟩
   have e12:=e1.trans e2
   have eh2:=e.trans e12
   have g':=(g.ext e12).mono (Nat.le_refl _) e12.len
   by_cases hd:degV es v=D
   ·have hdI:((outL es v).length:Int)+((inL es v).length:Int)=(D:Int):=by unfold degV at hd; omega
    obtain ⟨s',h',k1,k2,k3⟩:=g'.append1 (bytes:=8) (v:=[I v]) rfl oM oM (by rw[List.length_map]; omega) eh2.len (Nat.le_refl _)
    rw[a3_] at k1
    simp -implicitDefEqProofs (disch:=first|assumption|omega|(simp only[gL,gA]<;>omega)|fail) only[cG,reduceIte,g2.sl.lenG,hdI,k1]
    refine go1 s' h' (k3.ext eh2 (Nat.le_refl _)) (k2.cong ?_)
    rw[hov,if_pos ⟨hl,hd⟩]
    simp[encI]
   ·have hdI:¬((outL es v).length:Int)+((inL es v).length:Int)=(D:Int):=by unfold degV at hd; omega
    simp -implicitDefEqProofs (disch:=first|assumption|omega|(simp only[gL,gA]<;>omega)|fail) only[cG,reduceIte,g2.sl.lenG,hdI]
    refine go1 out h2 eh2 (g'.cong ?_)
    rw[hov,if_neg (λq=>hd q.2),List.append_nil]
theorem c1H (ok:NetOk N es)(hN:N<=1000)(w:RefV h0 a N es)(hs:Sl h0 4 sE (es.map encE))(wn:At h0 n1 [I N,sE])(gi':Sl h0 1 is (((List.range N).map λ(v:Nat)=>linkB es v).map encB)) :
  ∀(d D:Nat) (out:AV) (h:Heap),D+d=2*es.length+1->Ext h0 h->Gr h0.length h.length h 1 out ((ordTo es N D).map encI)->
  WP (λp:Nat × Nat=>v4_ p.1 p.2 n1 a is out (I D) h) λr h'=>Ext h0 h'/\Gr h0.length h'.length h' 1 r ((ordTo es N (2*es.length+1)).map encI):=by
 have hl:=ok.len
 have w2:IntKind.i64.wrap (2*(es.length:Int))=2*es.length:=d6_ oM oM
 intro d
 induction d with
 |zero=>
  intro D out h hD e g
  refine WP.rnd (a2T · · ..) ?_
  rw[show D=2*es.length+1 by omega] at g ⊢
  have hs':=hs.ext e
  refine g5 wn.fldA0 wn.ld0E wn.ldfE hs'.lenG @w2 ?_
  exact WP.ret ⟨e,g⟩
 |succ d ih=>
  intro D out h hD e g
  refine WP.rnd (a2T · · ..) ?_
  have hs':=hs.ext e
  refine g5 wn.fldA0 wn.ld0E wn.ldfE hs'.lenG @w2 ?_
  refine WP.ent (c1G ok hN w wn gi' (D:=D) oM (λout' h' e' g'=>?_) N 0 out h oM e (g.cong (by simp[ordV]))) λi=>rfl
  refine WP.congr (λi=>a7J i.1 i.2 ..) ?_
  refine g0 ?_
  exact ih (D+1) out' h' oM e' g'
theorem b8X (ok:NetOk N es)(hN:N<=1000)(hs:Sl h 4 sE (es.map encE)) :
  Tot tab j4_ [.agg [I N,sE]] h λr h'=>Ext h h'/\Gr h.length h'.length h' 1 r ((ordTo es N (2*es.length+1)).map encI):=by
 refine WP.tot (a9z · ..) ?_
 have hl:=hs.one
 obtain ⟨h1,hh1⟩:∃h1,h1=h++[AObj.cells ⟨[I N,sE],0,0,false⟩]:=⟨_,rfl⟩
 have e1:Ext h h1:=by rw[hh1]; exact Ext.push _ _
 have wn:At h1 (.ptr h.length 0 2 0) [I N,sE]:=At.row (wg:=0) (g:=0) (ro:=false) (by rw[hh1]; simp) (Nat.le_refl _) rfl
 refine g1 @hl ?_
 rw[<-hh1]
 refine WP.call (b2X (hs.ext e1)) ?_
 rintro r h2 ⟨e2,w2⟩
 have wn2:=wn.ext e2
 have rn1:h1[h.length]?=some (.cells ⟨[I N,sE],0,0,false⟩):=by rw[hh1]; simp
 have rn2:=e2.get rn1
 refine g1 @rn2 ?_
 refine WP.call (b8W ok hN ((hs.ext e1).ext e2)) ?_
 rintro is h3 ⟨e3,g3⟩
 have e123:=(e1.trans e2).trans e3
 refine WP.ent ((c1H ok hN (w2.ext e3) (hs.ext e123) (wn2.ext e3) g3.sl (2*es.length+1) 0 .nils h3 oM (Ext.refl _) (Gr.nil ..)).mono λr h' ⟨q1,q2⟩=>?_) λi=>rfl
 exact ⟨e123.trans q1,q2.mono e123.len (Nat.le_refl _)⟩
end
end Go.Gm.AZ
namespace Go.Gm.AZ
open Go Go.Gm
def arcE (es:List E)(e:Nat):Ar:=⟨(eg es e).fr,(eg es e).to,(eg es e).md,(eg es e).co,e,0,0⟩
def ixE (N:Nat)(es:List E)(e:Nat):Int:=((eg es e).fr*N+(eg es e).to)*5+(eg es e).md
structure BI1 (N:Nat) (es:List E) (n:Nat) (B:List Int):Prop where
 len:B.length=N*N*5
 val:∀i:Int,0<=i->i<B.length->0<=gi B i/\gi B i<=n/\(0<gi B i->ixE N es (gi B i-1).toNat=i)
 all:∀e:Nat,e<n->0<gi B (ixE N es e)/\(eg es (gi B (ixE N es e)-1).toNat).co<=(eg es e).co
section
variable {N:Nat} {es:List E}
theorem eg_ok (no:NetOk N es){e:Nat}(he:e<es.length):0<=(eg es e).fr/\(eg es e).fr<N/\0<=(eg es e).to/\(eg es e).to<N/\0<=(eg es e).md/\(eg es e).md<5:=no.edge _ (b7_ (xs:=es) (i:=(e:Int)) oM oM)
theorem b3X (no:NetOk N es){e:Nat}(he:e<es.length):0<=ixE N es e/\ixE N es e<((N*N*5:Nat):Int):=by
 obtain ⟨h1,h2,h3,h4,h5,h6⟩:=eg_ok no he
 exact cu_lt h1 h2 h3 h4 h5 h6
theorem BI1.start:BI1 N es 0 (List.replicate (N*N*5) 0):=by
 refine ⟨by simp,λi i0 i1=>?_,λe h=>oM⟩
 rw[w2_ i0 (by simpa using i1)]
 exact ⟨oM,oM,oM⟩
theorem BI1.skip (b:BI1 N es n B)(h1:0<gi B (ixE N es n))(h2:(eg es (gi B (ixE N es n)-1).toNat).co<=(eg es n).co):BI1 N es (n+1) B:=by
 refine ⟨b.len,λi i0 i1=>?_,λe h=>?_⟩
 ·have:=b.val i i0 i1
  exact ⟨this.1,oM,this.2.2⟩
 ·by_cases q:e=n
  ·subst q; exact ⟨h1,h2⟩
  ·exact b.all e oM
theorem BI1.put (no:NetOk N es){n:Nat}(hn:n<es.length)(b:BI1 N es n B)(h1:gi B (ixE N es n)=0\/(eg es n).co<(eg es (gi B (ixE N es n)-1).toNat).co):BI1 N es (n+1) (B.set (ixE N es n).toNat (n+1)):=by
 obtain ⟨x0,x1⟩:=b3X no hn
 have hl:=b.len
 have hx:ixE N es n<B.length:=by rw[hl]; exact x1
 have e1:((n:Int)+1-1).toNat=n:=oM
 refine ⟨by rw[List.length_set]; exact hl,λi i0 i1=>?_,λe h=>?_⟩
 ·rw[List.length_set] at i1
  rw[w3_ x0 hx i0]
  split
  ·rename_i q
   exact ⟨oM,oM,λ_=>by rw[e1]; exact q.symm⟩
  ·have:=b.val i i0 i1
   exact ⟨this.1,oM,this.2.2⟩
 ·by_cases q:e=n
  ·subst q
   rw[w3_ x0 hx x0,if_pos rfl,e1]
   exact ⟨oM,Int.le_refl _⟩
  ·have h0:=b.all e oM
   have hex:=b3X no (e:=e) oM
   rw[w3_ x0 hx hex.1]
   split
   ·rename_i q2
    rw[q2] at h0
    rw[e1]
    refine ⟨oM,?_⟩
    rcases h1 with h1|h1<;>omega
   ·exact h0
structure BI2 (N:Nat) (es:List E) (B:List Int) (k:Nat) (A:List Ar) (C:List Int):Prop where
 len:C.length=N*N*5
 la:A.length<=k
 arc:∀(j:Nat) (a:Ar),A[j]?=some a->∃e:Nat,e<es.length/\a=arcE es e
 old:∀i:Int,0<=i->i<k->i<C.length->(gi B i=0/\gi C i=0)\/(0<gi B i/\0<gi C i/\gi C i<=A.length/\gi A (gi C i-1)=arcE es (gi B i-1).toNat)
 new:∀i:Int,k<=i->i<C.length->gi C i=0
theorem BI2.start:BI2 N es B 0 [] (List.replicate (N*N*5) 0):=
 ⟨by simp,by simp,λj a h=>by simp at h,λi i0 i1=>oM,λi i0 i1=>w2_ oM (by simpa using i1)⟩
theorem BI2.skip (b:BI2 N es B k A C)(hk:k<N*N*5)(h:gi B (k:Int)=0):BI2 N es B (k+1) A C:=by
 refine ⟨b.len,by have:=b.la; omega,b.arc,λi i0 i1 i2=>?_,λi i0 i1=>b.new i oM i1⟩
 by_cases q:i=k
 ·subst q; exact .inl ⟨h,b.new _ (Int.le_refl _) i2⟩
 ·exact b.old i i0 oM i2
theorem BI2.put (b:BI2 N es B k A C)(hk:k<N*N*5)(h:0<gi B (k:Int))(he:(gi B (k:Int)-1).toNat<es.length):BI2 N es B (k+1) (A++[arcE es (gi B (k:Int)-1).toNat]) (C.set k (A.length+1)):=by
 have hl:=b.len
 have hs:∀i:Int,0<=i->gi (C.set k ((A.length:Int)+1)) i=if i=k then (A.length:Int)+1 else gi C i:=λi i0=>by
  have:=w3_ (xs:=C) (i:=(k:Int)) oM oM i0 ((A.length:Int)+1)
  rwa [Int.toNat_natCast] at this
 refine ⟨by rw[List.length_set]; exact hl,by have:=b.la; simp; omega,λj a hj=>?_,λi i0 i1 i2=>?_,λi i0 i1=>?_⟩
 ·by_cases hj':j<A.length
  ·rw[List.getElem?_append_left hj'] at hj
   exact b.arc j a hj
  ·rw[List.getElem?_append_right oM] at hj
   have q1:=(List.getElem?_eq_some_iff.1 hj).1
   have:j-A.length=0:=by simp at q1; omega
   rw[this,List.getElem?_cons_zero] at hj
   injection hj with hj
   exact ⟨_,he,hj.symm⟩
 ·rw[List.length_set] at i2
  rw[hs i i0]
  by_cases q:i=k
  ·subst q
   rw[if_pos rfl]
   refine .inr ⟨h,oM,by simp,?_⟩
   rw[show (A.length:Int)+1-1=A.length by omega,a6R]
  ·rw[if_neg q]
   rcases b.old i i0 oM i2 with z|⟨z1,z2,z3,z4⟩
   ·exact .inl z
   ·exact .inr ⟨z1,z2,by simp; omega,by rw[a3h oM oM]; exact z4⟩
 ·rw[List.length_set] at i1
  rw[hs i oM,if_neg oM]
  exact b.new i oM i1
theorem BI2.ci (no:NetOk N es)(b1:BI1 N es es.length B)(b:BI2 N es B (N*N*5) A C):CI es N (λ_=>False) A C:=by
 have hl:=b.len
 have hl1:=b1.len
 refine CI.begin no hl (λk a h=>b.arc k a h) (λu w m u0 u1 w0 w1 m0 m1=>?_) (λe he=>?_)
 ·obtain ⟨p0,p1⟩:=cu_lt u0 u1 w0 w1 m0 m1
  try simp only[cu]
  rcases b.old _ p0 p1 (by rw[hl]; exact p1) with ⟨_,z⟩|⟨z1,z2,z3,z4⟩
  ·exact ⟨oM,oM,λq=>oM⟩
  ·refine ⟨oM,z3,λ_=>?_⟩
   have hv:=b1.val _ p0 (by rw[hl1]; exact p1)
   have hlt:(gi B ((u*(N:Int)+w)*5+m)-1).toNat<es.length:=oM
   obtain ⟨g1,g2,g3,g4,g5,g6⟩:=eg_ok no hlt
   have hx:=hv.2.2 z1
   obtain ⟨q1,q2,q3⟩:=b9X g3 g4 g5 g6 w0 w1 m0 m1 hx
   rw[z4]
   exact ⟨q1,q2,q3⟩
 ·obtain ⟨p0,p1⟩:=b3X no he
  obtain ⟨a1,a2⟩:=b1.all e he
  rcases b.old _ p0 p1 (by rw[hl]; exact p1) with ⟨z,_⟩|⟨z1,z2,z3,z4⟩
  ·omega
  ·refine ⟨z2,?_⟩
   show (gi A (gi C (ixE N es e)-1)).co<=_
   rw[z4]
   exact a2
end
section
variable {c:WC} {s:WS} {h0:Heap}
theorem c3e (ok:c.Ok)(w:WV c s h0){ob:Nat}{best:AV}{Q:AV->Heap->Prop}(hQ:∀h B,Ext h0 h->h[h0.length]?=some (.cells ⟨[I c.N,c.sE],0,0,false⟩)->Gr ob (ob+1) h 1 best (B.map encI)->ob<h.length->BI1 c.N c.es c.es.length B->WP (λk:Nat=>x0_ k (.ptr c.oW 0 8 0) (.ptr h0.length 0 2 0) best h) Q)(hob:h0.length<ob) :
  ∀(d n:Nat) (h:Heap) (B:List Int),n+d=c.es.length->Ext h0 h->h[h0.length]?=some (.cells ⟨[I c.N,c.sE],0,0,false⟩)->Gr ob (ob+1) h 1 best (B.map encI)->ob<h.length->BI1 c.N c.es n B->
   WP (fun p:Nat × Nat=>e9_ p.1 p.2 (.ptr c.oW 0 8 0) (.ptr h0.length 0 2 0) best (I n) h) Q:=by
 have no:=ok.no
 intro d
 induction d with
 |zero=>
  intro n h B hn e rn g go b
  refine WP.rnd (fun i j=>a1c i j _ _ best (I n) h) ?_
  have gE:=(w.ext ok e).gE.sl
  obtain rfl:n=c.es.length:=by omega
  simp -implicitDefEqProofs (maxSteps:=1000000) (disch:=first|assumption|omega|(simp only[gL]<;>omega)|((repeat (first|exact Ext.refl _|assumption|apply Ext.app|apply Ext.mk|(refine Ext.setr ?_ (by (first|omega|(simp only[gL]<;>omega))) _))); done)|(simp only[gL,gA,rn,gE.lenG]<;>omega)|fail) only[gB,setAll,partL,fldV,reduceIte,Nat.reduceAdd,Nat.reduceMul,rn,gE.lenG]
  exact WP.lv (hQ h B e rn g go b) fun i j=>rfl
 |succ d ih=>
  intro n h B hn e rn g go b
  refine WP.rnd (fun i j=>a1c i j _ _ best (I n) h) ?_
  have wh:=w.ext ok e
  have gE:=wh.gE.sl
  have hle:=e.len
  have lb:=w.lb
  have t:=ok.t
  obtain ⟨g1,g2,g3,g4,g5,g6⟩:=eg_ok no (e:=n) (by omega)
  obtain ⟨x0,x1⟩:=b3X no (e:=n) (by omega)
  have hlB:=b.len
  have hx:ixE c.N c.es n<B.length:=by rw[hlB]; exact x1
  have hv:=b.val _ x0 hx
  have hlen:=no.len
  obtain ⟨ed,hed⟩:∃ed,gi c.es (n:Int)=ed:=⟨_,rfl⟩
  have hix:ixE c.N c.es n=(ed.fr*c.N+ed.to)*5+ed.md:=by rw[ixE,eg,hed]
  rw[eg,hed] at g1 g2 g3 g4 g5 g6
  have ldn:∀H,Ext h H->Gm.ldN 4 H (elP 4 c.sE (n:Int))=some (.agg [I ed.fr,I ed.to,I ed.md,I ed.co]):=fun H e=>by have:=gE.ldN (H:=H) (i:=(n:Int)) e (by omega) (by omega); rw[hed] at this; exact this
  have hz:AV.int .i64 0=I 0:=rfl
  try simp only[hz]
  obtain ⟨h2,hh2⟩:∃h2,h2=(h++[AObj.cells ⟨[I 0,I 0,I 0,I 0],0,0,false⟩]).set h.length (.cells ⟨[I ed.fr,I ed.to,I ed.md,I ed.co],0,0,false⟩):=⟨_,rfl⟩
  have e2:Ext h h2:=by rw[hh2]; exact eX
  have l2:h2.length=h.length+1:=by rw[hh2]; simp
  have re2:h2[h.length]?=some (.cells ⟨[I ed.fr,I ed.to,I ed.md,I ed.co],0,0,false⟩):=by rw[hh2]; exact a0_ (by simp)
  have rn2:=e2.get rn
  have e02:=e.trans e2
  have w2:=wh.ext ok e2
  have rw2:=w2.row
  have gB2:=g.ext e2
  have gBs:=gB2.sl
  have gE2:=gE.ext e2
  simp -implicitDefEqProofs (maxSteps:=1000000) (disch:=first|assumption|omega|(simp only[gL]<;>omega)|((repeat (first|exact Ext.refl _|assumption|apply Ext.app|apply Ext.mk|(refine Ext.setr ?_ (by (first|omega|(simp only[gL]<;>omega))) _))); done)|(simp only[gL,gA,rn,gE.lenG,gE.idxG,ldn]<;>omega)|fail) only[gB,setAll,partL,fldV,reduceIte,Nat.reduceAdd,Nat.reduceMul,rn,gE.lenG,gE.idxG,ldn]
  rw[<-hh2]
  refine WP.call (b0r ok w2.at g1 g2 g3 g4 g5 g6) ?_
  rintro _ _ ⟨rfl,rfl⟩
  rw[<-hix]
  have ldb:=gBs.ld0 (H:=h2) (i:=ixE c.N c.es n) (Ext.refl _) x0 hx oM
  obtain ⟨bv,hbv⟩:∃bv,gi B (ixE c.N c.es n)=bv:=⟨_,rfl⟩
  rw[hbv] at hv
  rw[hbv] at ldb
  replace ldb:Gm.ld1 h2 (elP 1 best (ixE c.N c.es n))=some (I bv):=ldb
  have put:(bv=0\/(eg c.es n).co<(eg c.es (bv-1).toNat).co)->∃h3,stN 1 h2 (elP 1 best (ixE c.N c.es n)) (I ((n:Int)+1))=some h3/\WP (λp:Nat × Nat=>e9_ p.1 p.2 (.ptr c.oW 0 8 0) (.ptr h0.length 0 2 0) best (I ((n:Int)+1)) h3) Q:=by
   intro hc
   obtain ⟨h3,k1,k2,k3,k4⟩:=gB2.write0 (i:=ixE c.N c.es n) (v:=I ((n:Int)+1)) x0 (by simpa using hx) rfl rfl
   refine ⟨h3,k1,ih (n+1) h3 _ oM (k3.ext e02 oM) ?_ (k2.cong (xs:=(B.map encI).set _ _) (ys:=(B.set (ixE c.N c.es n).toNat ((n:Int)+1)).map encI) (by rw[List.map_set]; rfl)) oM (b.put no oM (by rw[hbv]; exact hc))⟩
   rw[k3.get oM oM]; exact rn2
  by_cases b0:bv=0
  ·obtain ⟨h3,k1,k2⟩:=put (.inl b0)
   simp -implicitDefEqProofs (disch:=first|assumption|omega|(simp only[gL,gA]<;>omega)|fail) only[cG,reduceIte,gBs.idxG,ldb,b0]
   rw[k1]
   refine g0 ?_
   exact k2
  ·have hco:(eg c.es n).co=ed.co:=by rw[eg,hed]
   have ldc:=gE2.ldf 3 (H:=h2) (i:=bv-1) (Ext.refl _) oM oM oM
   replace ldc:Gm.ld1 h2 (fldP 3 (elP 4 c.sE (bv-1)))=some (I (gi c.es (bv-1)).co):=ldc
   have hgo:gi c.es (bv-1)=eg c.es (bv-1).toNat:=by rw[eg,Int.toNat_of_nonneg oM]
   rw[hgo] at ldc
   by_cases bc:(eg c.es (bv-1).toNat).co > ed.co
   ·obtain ⟨h3,k1,k2⟩:=put (.inr (by rw[hco]; exact bc))
    refine g7 gBs.idxG @ldb @b0 @rn2 gE2.idxG @ldc @re2 ?_
    rw[k1]
    refine g0 ?_
    exact k2
   ·refine g7 gBs.idxG @ldb @b0 @rn2 gE2.idxG @ldc @re2 ?_
    exact ih (n+1) h2 B oM e02 rn2 gB2 oM (b.skip (by rw[hbv]; omega) (by rw[hbv,hco]; omega))
theorem c3f (ok:c.Ok){s:WS}(w:WV c s h0){on ob:Nat}{best:AV}{B:List Int}(b1:BI1 c.N c.es c.es.length B)(hon:h0.length<=on)(hob:h0.length<=ob) :
  ∀(d k:Nat) (h:Heap) (s1:AV) (o1:Nat) (A:List Ar) (C:List Int),k+d=c.N*c.N*5->WV c { s with sA:=s1,oA:=o1,A:=A,C:=C } h->FrS (λo=>o=c.oW\/o=c.oC) h0 h->(s1≠.nils->h0.length<=o1/\o1≠on/\o1≠ob)->h[on]?=some (.cells ⟨[I c.N,c.sE],0,0,false⟩)->Gr ob (ob+1) h 1 best (B.map encI)->ob<h.length->BI2 c.N c.es B k A C->
   WP (λp:Nat × Nat=>h4_ p.1 p.2 (.ptr c.oW 0 8 0) (.ptr on 0 2 0) best (I k) h) λr h'=>r=.tup []/\∃s1 o1 A C,WV c { s with sA:=s1,oA:=o1,A:=A,C:=C } h'/\FrS (λo=>o=c.oW\/o=c.oC) h0 h'/\(s1≠.nils->h0.length<=o1)/\CI c.es c.N (λ_=>False) A C/\A.length<=c.N*c.N*5:=by
 have no:=ok.no
 have t:=ok.t
 have lb0:=w.lb
 have hlB:=b1.len
 have hNN:c.N*c.N*5<=100*100*5:=Nat.mul_le_mul_right 5 (Nat.mul_le_mul ok.n.2 ok.n.2)
 intro d
 induction d with
 |zero=>
  intro k h s1 o1 A C hk wh f p1 rn g go b
  refine WP.rnd (a1b · · ..) ?_
  obtain rfl:k=c.N*c.N*5:=oM
  have ci:=b.ci no b1
  have la:=b.la
  generalize c.N*c.N*5=K at *
  simp -implicitDefEqProofs (maxSteps:=1000000) (disch:=first|assumption|omega|(simp only[gL]<;>omega)|((repeat (first|exact Ext.refl _|assumption|apply Ext.app|apply Ext.mk|(refine Ext.setr ?_ (by (first|omega|(simp only[gL]<;>omega))) _))); done)|(simp only[gL,gA,g.sl.lenG]<;>omega)|fail) only[gB,setAll,partL,fldV,reduceIte,Nat.reduceAdd,Nat.reduceMul,g.sl.lenG]
  exact WP.ret ⟨rfl,s1,o1,A,C,wh,f,fun z=>(p1 z).1,ci,la⟩
 |succ d ih=>
  intro k h s1 o1 A C hk wh f p1 rn g go b
  refine WP.rnd (fun i j=>a1b i j _ _ best (I k) h) ?_
  have gb:=g.sl
  have gE:=wh.gE.sl
  have lb:=wh.lb
  have hkB:(k:Int)<B.length:=by omega
  have hv:=b1.val k (by omega) hkB
  have ldb:=gb.ld0 (H:=h) (i:=(k:Int)) (Ext.refl _) (by omega) hkB (by omega)
  obtain ⟨bv,hbv⟩:∃bv,gi B (k:Int)=bv:=⟨_,rfl⟩
  rw[hbv] at hv ldb
  replace ldb:Gm.ld1 h (elP 1 best (k:Int))=some (I bv):=ldb
  have hlen:=no.len
  have hlk:(k:Int)<10000000:=by omega
  by_cases b0:0<bv
  ·obtain ⟨ed,hed⟩:∃ed,gi c.es (bv-1)=ed:=⟨_,rfl⟩
   have ldn:∀H,Ext h H->Gm.ldN 4 H (elP 4 c.sE (bv-1))=some (.agg [I ed.fr,I ed.to,I ed.md,I ed.co]):=fun H e=>by have:=gE.ldN (H:=H) (i:=bv-1) e (by omega) (by omega); rw[hed] at this; exact this
   have hz:AV.int .i64 0=I 0:=rfl
   try simp only[hz]
   obtain ⟨h2,hh2⟩:∃h2,h2=(h++[AObj.cells ⟨[I 0,I 0,I 0,I 0],0,0,false⟩]).set h.length (.cells ⟨[I ed.fr,I ed.to,I ed.md,I ed.co],0,0,false⟩):=⟨_,rfl⟩
   have e2:Ext h h2:=by rw[hh2]; exact eX
   have l2:h2.length=h.length+1:=by rw[hh2]; simp
   have re2:h2[h.length]?=some (.cells ⟨[I ed.fr,I ed.to,I ed.md,I ed.co],0,0,false⟩):=by rw[hh2]; exact a0_ (by simp)
   have rn2:=e2.get rn
   have w2:=wh.ext ok e2
   have gB2:=g.ext e2
   have gBs:=gB2.sl
   have ldb2:=gBs.ld0 (H:=h2) (i:=(k:Int)) (Ext.refl _) oM hkB oM
   rw[hbv] at ldb2
   replace ldb2:Gm.ld1 h2 (elP 1 best (k:Int))=some (I bv):=ldb2
   refine g6 gb.lenG gb.idxG @ldb @rn gE.idxG @ldn ?_
   rw[<-hh2]
   refine g3 @re2 gBs.idxG @ldb2 ?_
   have hgo:gi c.es (bv-1)=eg c.es (bv-1).toNat:=by rw[eg,Int.toNat_of_nonneg oM]
   obtain ⟨g1,g2,g3,g4,g5,g6⟩:=eg_ok no (e:=(bv-1).toNat) oM
   have hee:eg c.es (bv-1).toNat=ed:=by rw[<-hgo]; exact hed
   have hx:=hv.2.2 b0
   rw[ixE,hee] at hx
   rw[hee] at g1 g2 g3 g4 g5 g6
   have hla:=b.la
   refine WP.call (b5Z (a:=⟨ed.fr,ed.to,ed.md,ed.co,bv-1,0,0⟩) ok w2 b.len g1 g2 g3 g4 g5 g6 (by show A.length<=_; omega)) ?_
   rintro _ h3 ⟨rfl,s2,o2,w3,f3,p3⟩
   rw[hx,Int.toNat_natCast] at w3
   have l3:=f3.len
   have l0:=f.len
   have nD:∀o,h0.length<=o->o<h2.length->(s1≠.nils->o≠o1)->¬(o=c.oW\/o=c.oC\/(s1≠.nils/\o=o1)):=λo q1 q2 q3 q4=>by
    rcases q4 with q4|q4|⟨q4,q5⟩
    ·omega
    ·omega
    ·exact q3 q4 q5
   have hp:=b.put oM (by rw[hbv]; exact b0) (by rw[hbv]; omega)
   rw[hbv] at hp
   have haE:arcE c.es (bv-1).toNat=⟨ed.fr,ed.to,ed.md,ed.co,bv-1,0,0⟩:=by
    rw[arcE,hee,Int.toNat_of_nonneg oM]
   rw[haE] at hp
   have hon2:on<h.length:=(List.getElem?_eq_some_iff.1 rn).1
   have f02:FrS (λo=>o=c.oW\/o=c.oC) h0 h2:=f.trans (FrS.ofExt e2)
   refine ih (k+1) h3 s2 o2 _ _ oM w3 ⟨oM,λo q1 q2=>?_⟩ (λz=>?_) ?_ (gB2.keep f3 λ_=>nD ob hob oM (λz=>Ne.symm (p1 z).2.2)) oM hp
   ·rw[f3.get (λq=>?_) oM]
    ·exact f02.get q1 q2
    ·rcases q with q|q|⟨q,q3⟩
     ·exact q1 (.inl q)
     ·exact q1 (.inr q)
     ·have:=(p1 q).1
      have q3':o=o1:=q3
      omega
   ·rcases p3 z with ⟨q,q2⟩|q
    ·show h0.length<=o2/\o2≠on/\o2≠ob
     rw[q]; exact p1 q2
    ·have q':h2.length<=o2:=q
     have z1:h0.length<=o2:=oM
     have z2:o2≠on:=oM
     have z3:o2≠ob:=oM
     exact ⟨z1,z2,z3⟩
   ·rw[f3.get (nD on hon oM (λz=>Ne.symm (p1 z).2.1)) oM]; exact rn2
  ·refine g3 gb.lenG gb.idxG @ldb ?_
   exact ih (k+1) h s1 o1 A C oM wh f p1 rn g go (b.skip oM (by rw[hbv]; omega))
end
end Go.Gm.AZ
namespace Go.Gm.AZ
open Go Go.Gm
section
variable {c:WC} {s:WS} {h0:Heap}
theorem b9S (ok:c.Ok)(w:WV c s h0)(hA:s.sA=.nils)(hA2:s.A=[])(hC:s.C=List.replicate (c.N*c.N*5) 0) :
  Tot tab f3_ [.ptr c.oW 0 8 0] h0 fun r h'=>r=.tup []/\∃s1 o1 A C,WV c { s with sA:=s1,oA:=o1,A:=A,C:=C } h'/\FrS (fun o=>o=c.oW\/o=c.oC) h0 h'/\(s1≠.nils->h0.length<=o1)/\CI c.es c.N (fun _=>False) A C/\A.length<=c.N*c.N*5:=by
 refine WP.tot (fun k=>a6J k _ h0) ?_
 have r0:=w.row
 have gE:=w.gE.sl
 have lb:=w.lb
 have t:=ok.t
 have hn:=ok.n
 have hNN:c.N*c.N<=100*100:=Nat.mul_le_mul hn.2 hn.2
 have hq1:((c.N:Int)*(c.N:Int))=((c.N*c.N:Nat):Int):=by simp
 have w1:IntKind.i64.wrap ((c.N:Int)*(c.N:Int))=((c.N*c.N:Nat):Int):=by rw[hq1]; exact d6_ (by omega) (by omega)
 have w2:IntKind.i64.wrap (((c.N*c.N:Nat):Int)*5)=((c.N*c.N*5:Nat):Int):=by
  rw[d6_ (by omega) (by omega)]; simp
 obtain ⟨h2,hh2⟩:∃h2,h2=(h0++[AObj.cells ⟨[I 0,.nils],0,0,false⟩]).set h0.length (.cells ⟨[I c.N,c.sE],0,0,false⟩):=⟨_,rfl⟩
 have e2:Ext h0 h2:=by rw[hh2]; ((repeat (first|exact Ext.refl _|assumption|apply Ext.app|apply Ext.mk|(refine Ext.setr ?_ (by (first|omega|(simp only[gL]<;>omega))) _))))
 have l2:h2.length=h0.length+1:=by rw[hh2]; simp
 have rn2:h2[h0.length]?=some (.cells ⟨[I c.N,c.sE],0,0,false⟩):=by rw[hh2]; exact a0_ (by simp)
 obtain ⟨sb,h3,k1,k2,k3,k4,k5⟩:=g0_ (zero:=[I 0]) (sz:=1) (bytes:=8) (n:=((c.N*c.N*5:Nat):Int)) h2 (by omega) (by omega) (by omega) rfl rfl
 rw[Int.toNat_natCast] at k2
 have hz:AV.int .i64 0=I 0:=rfl
 try simp only[hz]
 have hr:rdNAt 2 (some (AObj.cells ⟨[I c.N,c.sE,s.sR,s.sA,c.sU,c.sD,c.sC,c.sG],0,0,false⟩)) 0 8 0=some (.agg [I c.N,c.sE]):=rfl
 have h1:=gE.one
 simp -implicitDefEqProofs (disch:=first|assumption|omega|(simp only[gL,gA]<;>omega)|fail) only[cG,reduceIte,Nat.reduceAdd,Nat.reduceMul,r0,hr,h1]
 rw[<-hh2]
 simp -implicitDefEqProofs (disch:=first|assumption|omega|(simp only[gL,gA]<;>omega)|fail) only[cG,reduceIte,Nat.reduceAdd,Nat.reduceMul,rn2,w1,w2,k1]
 have e3:=e2.trans k3
 refine WP.ent (c3e ok w (ob:=h2.length) (best:=sb) (fun h B e rn g go b=>?_) (by omega) c.es.length 0 h3 (List.replicate (c.N*c.N*5) 0) (by omega) e3 (k3.get rn2) (k2.cong (by simp[encI])) (by omega) BI1.start) fun i=>rfl
 refine WP.congr (fun i=>a5D i ..) ?_
 have ws:=w.ext ok e
 have hs:s={ s with sA:=.nils,oA:=s.oA,A:=[],C:=List.replicate (c.N*c.N*5) 0 }:=by rw[<-hA,<-hA2,<-hC]
 rw[hs] at ws
 exact WP.ent (c3f ok w b (on:=h0.length) (ob:=h2.length) (Nat.le_refl _) (by omega) (c.N*c.N*5) 0 h .nils s.oA [] _ (by omega) ws (FrS.ofExt e) (fun z=>absurd rfl z) rn g go BI2.start) fun i=>rfl
end
end Go.Gm.AZ
namespace Go.Gm.AZ
open Go Go.Gm
theorem Sg.len {N:Nat}{es:List E}{G:Int->Prop}{m u w:Int}{l:List Nat}(no:NetOk N es)(h:Sg es G m u w l)(hd:(ivs es l).Nodup):l.length<=N+1:=by
 have h1:=b6c N (ivs es l) hd (λx hx=>by
  obtain ⟨e,he,rfl⟩:=List.mem_map.1 hx
  have:=h.ok.1.mem e (List.dropLast_subset l he)
  have:=eg_ok no this
  omega)
 simp only[ivs,List.length_map,List.length_dropLast] at h1
 omega
theorem ArcG.fit {N:Nat}{es:List E}{G:Int->Prop}{A:List Ar}{k:Nat}{a:Ar}(no:NetOk N es)(co:COk es)(hN:N<=100)(h:ArcG es G A k a):AOk N a/\∃l,Unp A k l/\Sg es G a.md a.fr a.to l/\atC es l=a.co/\l.length<=N+1:=by
 obtain ⟨l,h1,h2,h3,h4⟩:=h
 have hl:=h2.len no h4
 have r:=h2.range no
 have m:=h2.md no
 have c1:=(a8v co l h2.ok.1.mem 0).2
 have c0:=h2.cost co
 refine ⟨⟨r.1.1,r.1.2,r.2.1,r.2.2,m.1,m.2,oM,?_⟩,l,h1,h2,h3,hl⟩
 have h5:atC es l<=0+(l.length:Int)*2147483647:=c1
 omega
theorem b8T (N:Nat)(A:List Ar)(C:List Int)(a b:Int):(shortP N A C a b).1.length<=A.length+1:=by
 unfold shortP
 split
 ·simp
 ·split<;>simp
theorem CJ.mono {P P':Int->Int->Prop}(cj:CJ es N G v A0 C0 P A C)(h:∀i j,P' i j->P i j):CJ es N G v A0 C0 P' A C:=
 ⟨cj.toCI0,cj.pre,cj.le,cj.dec,λa b hp=>cj.don a b (h a b hp)⟩
def Prs (dn up:List Int)(a n:Nat)(i j:Int):Prop:=∃p q:Nat,dn[p]?=some i/\up[q]?=some j/\(p<a\/(p=a/\q<n))
structure KI (c:WC) (s0:WS) (G:Int->Prop) (v:Int) (vs up dn:List Int) (lo uA dA:AV) (a n:Nat) (s1:AV) (o1:Nat) (A:List Ar) (C:List Int) (h:Heap):Prop where
 w:WV c { s0 with sA:=s1,oA:=o1,A:=A,C:=C } h
 nl:Inn c h s1 o1 s0.sR s0.oR lo vs
 nu:Inn c h s1 o1 s0.sR s0.oR uA up
 nd:Inn c h s1 o1 s0.sR s0.oR dA dn
 cj:CJ c.es c.N G v s0.A s0.C (Prs dn up a n) A C
 la:A.length<=s0.A.length+a*up.length+n
structure RowsUD (G:Int->Prop) (v:Int) (A0:List Ar) (up dn:List Int):Prop where
 up:∀k∈up,0<=k/\k<A0.length/\(gi A0 k).fr=v/\¬G (gi A0 k).to
 dn:∀k∈dn,0<=k/\k<A0.length/\(gi A0 k).to=v/\¬G (gi A0 k).fr
theorem Inn.short {c:WC}{sA sA' sR x:AV}{oA oA' oR:Nat}(ok:c.Ok)(a:Inn c h sA oA sR oR x xs)(f:FrS (λo=>o=c.oW\/o=c.oC\/(sA≠.nils/\o=oA)) h h')(hq:sA'≠.nils->(oA'=oA/\sA≠.nils)\/h.length<=oA'):Inn c h' sA' oA' sR oR x xs:=by
 have t:=ok.t
 refine a.keep f λo h1 h2 h3 h4=>⟨λq=>?_,λq=>?_,h4⟩
 ·rcases q with q|q|⟨q,q2⟩
  ·omega
  ·omega
  ·exact h3 q q2
 ·rcases hq q with ⟨q1,q2⟩|q1
  ·rw[q1]; exact h3 q2
  ·omega
section
variable {c:WC} {s0:WS} {G:Int->Prop} {v:Int} {vs up dn:List Int} {lo uA dA n1 t2:AV}
theorem c4V (ok:c.Ok)(ci:CI c.es c.N G s0.A s0.C)(gv:¬G v)(ru:RowsUD G v s0.A up dn)(hA0:s0.A.length<=50000000)(hup:up.length<=5*c.N)(hdn:dn.length<=5*c.N){a:Nat}(ha:a<dn.length){iI:Int}{Q:AV->Heap->Prop}(hQ:∀s1 o1 A C h,KI c s0 G v vs up dn lo uA dA (a+1) 0 s1 o1 A C h->WP (λp:(Nat × Nat) × Nat=>a1g p.1.1 p.1.2 p.2 n1 t2 (.ptr c.oW 0 8 0) lo (I iI) (I v) uA dA (I a) h) Q) :
  ∀(d n:Nat) (s1:AV) (o1:Nat) (A:List Ar) (C:List Int) (h:Heap),n+d=up.length->KI c s0 G v vs up dn lo uA dA a n s1 o1 A C h->
   WP (λp:((Nat × Nat) × Nat) × Nat=>v2_ p.1.1.1 p.1.1.2 p.1.2 p.2 n1 t2 (.ptr c.oW 0 8 0) lo (I iI) (I v) uA dA (I a) (I n) h) Q:=by
 have hn:=ok.n
 intro d
 induction d with
 |zero=>
  intro n s1 o1 A C h hd ki
  refine WP.rnd (λi j=>a2O i.1.1 i.1.2 i.2 j ..) ?_
  obtain ⟨ou,gu,pu⟩:=ki.nu
  obtain rfl:n=up.length:=oM
  refine g1 gu.sl.lenG ?_
  refine WP.lv (hQ s1 o1 A C h ⟨ki.w,ki.nl,ki.nu,ki.nd,ki.cj.mono λi j ⟨p,q,h1,h2,h3⟩=>⟨p,q,h1,h2,?_⟩,?_⟩) λi j=>rfl
  ·have hq:=(List.getElem?_eq_some_iff.1 h2).1
   omega
  ·have:=ki.la
   rw[Nat.succ_mul]; omega
 |succ d ih=>
  intro n s1 o1 A C h hd ki
  refine WP.rnd (λi j=>a2O i.1.1 i.1.2 i.2 j ..) ?_
  obtain ⟨ou,gu,pu⟩:=ki.nu
  obtain ⟨od,gd',pd⟩:=ki.nd
  have hnu:(n:Int)<up.length:=oM
  have had:(a:Int)<dn.length:=oM
  have ldu:=gu.sl.ld0 (H:=h) (i:=(n:Int)) (Ext.refl _) oM hnu oM
  have ldd:=gd'.sl.ld0 (H:=h) (i:=(a:Int)) (Ext.refl _) oM had oM
  obtain ⟨x,hx⟩:∃x,gi dn (a:Int)=x:=⟨_,rfl⟩
  obtain ⟨y,hy⟩:∃y,gi up (n:Int)=y:=⟨_,rfl⟩
  rw[hx] at ldd
  rw[hy] at ldu
  replace ldd:Gm.ld1 h (elP 1 dA (a:Int))=some (I x):=ldd
  replace ldu:Gm.ld1 h (elP 1 uA (n:Int))=some (I y):=ldu
  have mx:x∈dn:=hx▸b7_ oM had
  have my:y∈up:=hy▸b7_ oM hnu
  obtain ⟨x0,x1,x2,x3⟩:=ru.dn x mx
  obtain ⟨y0,y1,y2,y3⟩:=ru.up y my
  have cj:=ki.cj
  have hle:=cj.le
  have la:=ki.la
  have hbd:a*up.length<=500*500:=Nat.mul_le_mul oM oM
  have fit:=λ(k:Int) (k0:0<=k) (k1:k<A.length)=>(ArcG.fit ok.no ok.co hn.2 (cj.arc _ _ (c1_ k0 k1))).1
  have ax:=fit x x0 oM
  have ay:=fit y y0 oM
  have hk:=cj.cur _ _ _ ax.f0 ax.f1 ay.t0 ay.t1 ax.m0 ax.m1
  refine g5 gu.sl.lenG gd'.sl.idxG gu.sl.idxG @ldd @ldu ?_
  refine WP.call (b8S ok ki.w cj.len x0 (by show x<A.length; omega) y0 (by show y<A.length; omega) (by show A.length<=_; omega) fit ⟨hk.1,hk.2.1⟩) ?_
  rintro _ h2 ⟨rfl,s2,o2,w2,f2,p2⟩
  have st:=cj.step ok.no ok.co ci gv x0 x1 y0 y1 x2 x3 y2 y3
  refine ih (n+1) s2 o2 _ _ h2 oM ⟨w2,ki.nl.short ok f2 p2,ki.nu.short ok f2 p2,ki.nd.short ok f2 p2,st.mono λi j ⟨p,q,h1,h2,h3⟩=>?_,?_⟩
  ·by_cases hpq:p<a\/(p=a/\q<n)
   ·exact .inl ⟨p,q,h1,h2,hpq⟩
   ·right
    obtain ⟨rfl,rfl⟩:p=a/\q=n:=oM
    have e1:=c1_ (xs:=dn) (i:=(p:Int)) oM oM
    have e2:=c1_ (xs:=up) (i:=(q:Int)) oM oM
    rw[Int.toNat_natCast,hx,h1] at e1
    rw[Int.toNat_natCast,hy,h2] at e2
    injection e1 with e1
    injection e2 with e2
    exact ⟨e1,e2⟩
  ·have:=b8T c.N A C x y
   show (shortP c.N A C x y).1.length<=_
   omega
theorem c4W (ok:c.Ok)(ci:CI c.es c.N G s0.A s0.C)(gv:¬G v)(ru:RowsUD G v s0.A up dn)(hA0:s0.A.length<=50000000)(hup:up.length<=5*c.N)(hdn:dn.length<=5*c.N)(hQ:∀s1 o1 A C h,KI c s0 G v vs up dn lo uA dA dn.length 0 s1 o1 A C h->WP (λp:Nat × Nat=>a1h p.1 p.2 n1 t2 (.ptr c.oW 0 8 0) lo (I iI) (I v) h) Q) :
  ∀(d a:Nat) (s1:AV) (o1:Nat) (A:List Ar) (C:List Int) (h:Heap),a+d=dn.length->KI c s0 G v vs up dn lo uA dA a 0 s1 o1 A C h->
   WP (λp:(Nat × Nat) × Nat=>v1_ p.1.1 p.1.2 p.2 n1 t2 (.ptr c.oW 0 8 0) lo (I iI) (I v) uA dA (I a) h) Q:=by
 have hn:=ok.n
 intro d
 induction d with
 |zero=>
  intro a s1 o1 A C h hd ki
  refine WP.rnd (λi j=>a2P i.1 i.2 j ..) ?_
  obtain ⟨od,gd',pd⟩:=ki.nd
  obtain rfl:a=dn.length:=oM
  refine g1 gd'.sl.lenG ?_
  exact WP.lv (hQ s1 o1 A C h ki) λi j=>rfl
 |succ d ih=>
  intro a s1 o1 A C h hd ki
  refine WP.rnd (λi j=>a2P i.1 i.2 j ..) ?_
  obtain ⟨od,gd',pd⟩:=ki.nd
  refine g1 gd'.sl.lenG ?_
  refine WP.ent (c4V ok ci gv ru hA0 hup hdn (a:=a) oM (λs2 o2 A2 C2 h2 k2=>?_) up.length 0 s1 o1 A C h oM ki) λi=>rfl
  refine WP.congr (λi=>a7B i.1.1 i.1.2 i.2 ..) ?_
  refine g0 ?_
  exact ih (a+1) s2 o2 A2 C2 h2 oM k2
end
end Go.Gm.AZ
