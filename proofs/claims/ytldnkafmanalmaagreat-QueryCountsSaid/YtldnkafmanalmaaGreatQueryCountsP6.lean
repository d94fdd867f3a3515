/- A part of the proof (GmAZnt, GmDj, GmRl, GmBi, GmAZF, GmAZG, GmAZH, GmAZI, GmAZJ, GmAZK, GmAZR, GmAZS, GmAZU, GmAZRV). -/
import Derived.Test.YtldnkafmanalmaaGreatQueryCountsP5
set_option autoImplicit true
set_option relaxedAutoImplicit true
set_option linter.unusedVariables false
set_option linter.unusedSimpArgs false
set_option linter.unusedSectionVars false
namespace Go.Gm.AZ
open Go Go.Gm
def jpE (ft:List (Nat × Nat)):Nat->List (Nat × Nat)
 |0=>[]
 |k+1=>jpE ft k++[((ft.getD k (0,0)).2,(ft.getD (k+1) (0,0)).1)]
theorem b8b (ft:List (Nat × Nat)):∀k,(jpE ft k).length=k
 |0=>rfl
 |k+1=>by simp[jpE,b8b ft k]
theorem b5d:∀(ft:List (Nat × Nat)),NS.joinE ft=(List.range (ft.length-1)).map λk=>((ft.getD k (0,0)).2,(ft.getD (k+1) (0,0)).1)
 |[]=>rfl
 |[f]=>rfl
 |f::g::l=>by
  have ih:=b5d (g::l)
  rw[NS.joinE,ih,show (f::g::l).length-1=((g::l).length-1)+1 by simp,List.range_succ_eq_map,List.map_cons,List.map_map]
  rfl
theorem c1R (ft:List (Nat × Nat)):NS.joinE ft=jpE ft (ft.length-1):=by
 rw[b5d]
 have:∀n,(List.range n).map (λk=>((ft.getD k (0,0)).2,(ft.getD (k+1) (0,0)).1))=jpE ft n:=by
  intro n
  induction n with
  |zero=>rfl
  |succ n ih=>rw[List.range_succ,List.map_append,ih,jpE]; rfl
 exact this _
section
variable {h0 hE:Heap} {W0:Nat->Prop} {ob o3:Nat} {c5:List AV} {l:List Nd} {sL:AV} {css:List (List AV)}
theorem c1S (kv:KidsV h0 (.join l) c5 sL css)(hll:l.length<=1000)(ih:∀c∈l,PartS c)(sz:∀c∈l,SzN c){ftE:List (Nat × Nat)}{bE:NS}{Q:AV->Heap->Prop}(hQ:∀h W sf st oA oB,PLs h0 hE h W0 W ob o3 bE c5 sf st oA oB ftE->NSok bE->WP (fun k:Nat=>u7_ k (.ptr ob 0 6 0) sf st h) Q) :
  ∀(d i:Nat) (h:Heap) (W:Nat->Prop) (b:NS) (sf st:AV) (oA oB:Nat) (ft:List (Nat × Nat)),i+d=l.length->ft.length=i->PLs h0 hE h W0 W ob o3 b c5 sf st oA oB ft->NSok b->ft++(NS.parts (l.drop i) b).1=ftE->(NS.parts (l.drop i) b).2=bE->
   WP (fun p:Nat × Nat=>l3_ p.1 p.2 (.ptr ob 0 6 0) (.ptr o3 0 5 0) sf st (I i) h) Q:=by
 have e5:=kv.c
 have lk:css.length=l.length:=(NVs.length kv.nv).symm
 intro d
 induction d with
 |zero=>
  intro i h W b sf st oA oB ft hi hfl p ok h1 h2
  refine WP.rnd (fun k j=>a0L k j (.ptr ob 0 6 0) (.ptr o3 0 5 0) sf st (I i) h) ?_
  rw[List.drop_of_length_le (by omega),NS.parts] at h1 h2
  simp only[List.append_nil] at h1 h2
  subst h1 h2
  have r3:=p.r3
  rw[e5] at r3
  have sl:=(kv.sl.ext p.e0).lenG
  simp -implicitDefEqProofs (disch:=first|assumption|omega|(simp only[gL,gA]<;>omega)|fail) only[cG,reduceIte,r3,sl]
  exact WP.lv (hQ h W sf st oA oB p ok) fun i j=>rfl
 |succ d IH=>
  intro i h W b sf st oA oB ft hi hfl p ok h1 h2
  refine WP.rnd (fun k j=>a0L k j (.ptr ob 0 6 0) (.ptr o3 0 5 0) sf st (I i) h) ?_
  obtain ⟨c,hc⟩:∃c,l[i]?=some c:=⟨l[i],List.getElem?_eq_getElem (by omega)⟩
  have hdr:l.drop i=c::l.drop (i+1):=by
   rw[List.getElem?_eq_getElem (by omega)] at hc
   injection hc with hc
   rw[<-hc]; exact List.drop_eq_getElem_cons (by omega)
  rw[hdr,NS.parts] at h1 h2
  obtain ⟨sS,sF,oS,oF,rb,_⟩:=p.bv
  have r3:=p.r3
  rw[e5] at r3
  have sv:=kv.sl.ext p.e0
  have sl:=sv.lenG
  by_cases m:b.much=true
  ·rw[if_pos m] at h1 h2
   simp only[List.append_nil] at h1 h2
   subst h1 h2
   rw[m] at rb
   simp -implicitDefEqProofs (disch:=first|assumption|omega|(simp only[gL,gA]<;>omega)|fail) only[cG,reduceIte,rb,r3,sl]
   exact WP.lv (hQ h W sf st oA oB p ok) fun i j=>rfl
  ·rw[if_neg m] at h1 h2
   simp only at h1 h2
   rw[Bool.not_eq_true] at m
   rw[m] at rb
   have hcm:=List.mem_of_getElem? hc
   obtain ⟨cc,k1,k2,k3⟩:=kv.get (show (Nd.join l).kids[i]?=some c from hc)
   simp -implicitDefEqProofs (disch:=first|assumption|omega|exact Ext.refl _|(simp only[gL,gA]<;>omega)|fail) only[cG,reduceIte,rb,r3,sl,sv.idxG,sv.ldN,id_eq,k1]
   refine WP.call (ih c hcm h0 h W ob b cc k2 p.e0 p.wl p.bv ok) ?_
   rintro _ h5 ⟨rfl,v5,f5⟩
   have p5:=p.call f5 v5
   obtain ⟨s1,h6,s2,h7,oA',oB',a1,a2,p7⟩:=p5.add (NS.part c b).1 (by omega)
   simp -implicitDefEqProofs (disch:=first|assumption|omega|(simp only[gL,gA]<;>omega)|fail) only[cG,reduceIte,a4_,a5_,a1,a2]
   exact IH (i+1) h7 _ _ s1 s2 oA' oB' _ (by omega) (by simp[hfl]) p7 (ok.sz (sz c hcm b).1) (by rw[List.append_assoc]; exact h1) h2
theorem c1T {b:NS}(a:FT W h sf st ft)(hl:b.fr.length<=10000)(hft:ft.length<=2000)(h0f:0<ft.length){Q:AV->Heap->Prop}(hQ:∀h1,FQ W h ob b (NS.joinE ft) h1->Q (.tup [I (ft.getD 0 (0,0)).1,I (ft.getD (ft.length-1) (0,0)).2]) h1) :
  ∀(d i:Nat) (h1:Heap),i+d+1=ft.length->FQ W h ob b (jpE ft i) h1->
   WP (λp:Nat × Nat=>l4_ p.1 p.2 (.ptr ob 0 6 0) sf st (I i) h1) Q:=by
 have lm1:(ft.map (·.1)).length=ft.length:=List.length_map ..
 have lm2:(ft.map (·.2)).length=ft.length:=List.length_map ..
 have getD_of:∀{i x},ft[i]?=some x->ft.getD i (0,0)=x:=λh=>by rw[List.getD_eq_getElem?_getD,h]; rfl
 intro d
 induction d with
 |zero=>
  intro i h1 hi q
  refine WP.rnd (a0K · · ..) ?_
  have f1:=(a.frs q.2).f
  have t1:=(a.frs q.2).t
  have hf:=f1.lenG
  have ht:=t1.lenG
  rw[List.length_map] at hf ht
  obtain ⟨x,hx⟩:∃x,ft[0]?=some x:=⟨ft[0],List.getElem?_eq_getElem oM⟩
  obtain ⟨y,hy⟩:∃y,ft[ft.length-1]?=some y:=⟨ft[ft.length-1],List.getElem?_eq_getElem oM⟩
  have g1:gi (ft.map (·.1)) 0=x.1:=(a5v hx).1
  have g2:gi (ft.map (·.2)) ((ft.length:Int)-1)=y.2:=by
   rw[show (ft.length:Int)-1=((ft.length-1:Nat):Int) by omega]; exact (a5v hy).2.1
  obtain rfl:i=ft.length-1:=oM
  rw[<-c1R] at q
  have hq:=hQ h1 q
  rw[getD_of hx,getD_of hy] at hq
  simp -implicitDefEqProofs (disch:=first|assumption|omega|(simp only[gL,gA]<;>omega)|fail) only[cG,reduceIte,hf]
  refine WP.lv (WP.congr (λk:Nat=>a5g k sf st h1) ?_) λi j=>rfl
  refine g10 f1.idxG f1.ld0 @g1 @ht t1.idxG t1.ld0 @g2 @encN'.eq_1 @lm1 @lm2 ?_
  exact WP.ret hq
 |succ d ih=>
  intro i h1 hi q
  refine WP.rnd (a0K · · ..) ?_
  have f1:=(a.frs q.2).f
  have t1:=(a.frs q.2).t
  have hf:=f1.lenG
  rw[List.length_map] at hf
  obtain ⟨x,hx⟩:∃x,ft[i]?=some x:=⟨ft[i],List.getElem?_eq_getElem oM⟩
  obtain ⟨y,hy⟩:∃y,ft[i+1]?=some y:=⟨ft[i+1],List.getElem?_eq_getElem oM⟩
  have g1:gi (ft.map (·.2)) (i:Int)=x.2:=(a5v hx).2.1
  have g2:gi (ft.map (·.1)) ((i:Int)+1)=y.1:=by
   rw[show (i:Int)+1=((i+1:Nat):Int) by omega]; exact (a5v hy).1
  have hjl:=b8b ft i
  refine g10 @hf t1.idxG t1.ld0 @g1 f1.idxG f1.ld0 @g2 @encN'.eq_1 @lm1 @lm2 ?_
  refine WP.call (q.free oM x.2 y.1) ?_
  rintro _ h2 ⟨rfl,q2⟩
  refine ih (i+1) h2 oM ?_
  rw[jpE,getD_of hx,getD_of hy]; exact q2
theorem b9c {W:Nat->Prop}(nv:NV h0 (.join l) c5)(e0:Ext h0 h)(hW:∀o,W o->h0.length<=o/\o<h.length)(v:BV W h ob b)(ok:NSok b)(m:b.much=false)(g:Gd (.join l))(d:Bd (.join l))(ih:∀c∈l,PartS c) :
  Tot tab d3_ [.ptr ob 0 6 0,.agg c5] h λr h'=>r=.tup [I (NS.part (.join l) b).1.1,I (NS.part (.join l) b).1.2]/\BV (Wn W h h') h' ob (NS.part (.join l) b).2/\FrS W h h':=by
 refine WP.tot (a6k · ..) ?_
 obtain ⟨sL,css,kv⟩:=kidsV nv
 have h5:=kv.sl.one
 have hll:l.length<=1000:=d.len
 have hl2:2<=l.length:=g.rt
 have hcc:=kv.c
 have l0:=e0.len
 obtain ⟨h1,hh1⟩:∃h1,h1=h++[AObj.cells ⟨c5,0,0,false⟩]:=⟨_,rfl⟩
 have e1:Ext h h1:=by rw[hh1]; exact Ext.push _ _
 have l1:h1.length=h.length+1:=by rw[hh1]; simp
 have r1:h1[h.length]?=some (.cells ⟨c5,0,0,false⟩):=by rw[hh1]; simp
 have p0:PLs h0 h h1 W W ob h.length b c5 .nils .nils 0 0 []:=by
  refine ⟨e0.trans e1,l0,FrS.ofExt e1,λo z=>by have:=hW o z; omega,λo z=>.inl z,v.ext e1,λz=>by have:=hW _ z; omega,r1,Nat.le_refl _,Gr.nil ..,Gr.nil ..,λz=>absurd rfl z,λz=>absurd rfl z⟩
 have szp:=a7r l (λc hc=>szn c (g.kid c hc)) b
 rw[NS.part]
 simp only[NS.joined,m,if_false,Bool.false_eq_true]
 rw[hcc] at hh1
 conv=>lhs; rw[hcc]
 refine g1 @h5 ?_
 rw[<-hh1]
 refine WP.ent (c1S kv hll ih (λc hc=>szn c (g.kid c hc)) (λh2 W2 sf st oA oB p2 ok2=>?_) l.length 0 h1 W b .nils .nils 0 0 [] oM rfl p0 ok rfl rfl) λi=>rfl
 refine WP.congr (λk:Nat=>a5h k (.ptr ob 0 6 0) sf st h2) ?_
 rw[List.drop_zero,List.nil_append] at p2
 rw[List.drop_zero] at ok2
 obtain ⟨sS,sF,oS,oF,rb,_⟩:=p2.bv
 have fin:∀{h3:Heap} {b3:NS},FrS W2 h2 h3->BV (Wn W2 h2 h3) h3 ob b3->BV (Wn W h h3) h3 ob b3/\FrS W h h3:=fun {h3 b3} f v=>by
  have p3:=p2.call f v
  refine ⟨v.mono λo z1 z2=>?_,p3.fr⟩
  rcases p3.w0 o z2 with z|z
  ·exact .inl z
  ·exact .inr ⟨z,z1⟩
 by_cases m2:(NS.parts l b).2.much=true
 ·rw[m2] at rb
  rw[if_pos m2]
  refine g1 @rb ?_
  exact WP.ret ⟨rfl,fin (FrS.refl _ _) (p2.bv.mono λo _ z=>.inl z)⟩
 ·rw[if_neg m2]
  rw[Bool.not_eq_true] at m2
  rw[m2] at rb
  refine g1 @rb ?_
  have hfl:=(szp.2.2 m2).2.1
  have hfr:=ok2.fr
  have hnn:=ok2.n
  generalize (NS.parts l b).1=ft at p2 hfl ⊢
  generalize (NS.parts l b).2=b2 at *
  refine WP.ent (c1T p2.ftv oM oM oM (λh3 q3=>?_) (ft.length-1) 0 h2 oM (FQ.zero p2.bv)) λi=>rfl
  have e1:(ft.getD 0 (0,0)).1=(NS.hd ft).1:=by cases ft<;>rfl
  have e2:(ft.getD (ft.length-1) (0,0)).2=(ft.getLastD (0,0)).2:=by
   rw[List.getLastD_eq_getLast?,List.getLast?_eq_getElem?,List.getD_eq_getElem?_getD]
  rw[e1,e2]
  exact ⟨rfl,fin q3.2 q3.1⟩
end
theorem b9d (n:Nd):Gd n->Bd n->PartS n:=by
 refine Nd.ind (p:=λn=>Gd n->Bd n->PartS n) (λn ih g d=>?_) n
 by_cases hk:n.kind=4
 ·cases n with
  |join l=>
   intro h0 h W ob b c5 nv e0 hW v ok
   refine WP.tot (a1U · ..) ?_
   obtain ⟨sL,css,kv⟩:=kidsV nv
   have h5:=kv.sl.one
   have hcc:=kv.c
   obtain ⟨h1,hh1⟩:∃h1,h1=h++[AObj.cells ⟨c5,0,0,false⟩]:=⟨_,rfl⟩
   have e1:Ext h h1:=by rw[hh1]; exact Ext.push _ _
   have l1:h1.length=h.length+1:=by rw[hh1]; simp
   have r1:h1[h.length]?=some (.cells ⟨c5,0,0,false⟩):=by rw[hh1]; simp
   have v1:=v.ext e1
   obtain ⟨sS,sF,oS,oF,rb,_⟩:=v1
   have v1:=v.ext e1
   rw[hcc] at hh1 r1
   by_cases m:b.much=true
   ·rw[m] at rb
    have e:NS.part (.join l) b=((0,0),b):=by rw[NS.part]; simp only[NS.joined,m,if_true]
    rw[e,hcc]
    refine g1 @h5 ?_
    rw[<-hh1]
    refine g1 @rb ?_
    exact WP.ret ⟨rfl,v1.mono λo _ z=>.inl z,FrS.ofExt e1⟩
   ·rw[Bool.not_eq_true] at m
    rw[m] at rb
    have k4:(Nd.join l).kind=4:=rfl
    conv=>lhs; rw[hcc]
    refine g1 @h5 ?_
    rw[<-hh1]
    refine g3 @rb @r1 @k4 ?_
    have hc4:c5=[I 4,I (Nd.join l).st,I (Nd.join l).lo,I (Nd.join l).hi,sL]:=hcc
    rw[<-hc4]
    refine WP.call (b9c nv (e0.trans e1) (λo z=>by have:=hW o z; omega) v1 ok m g d (λc hc=>ih c hc (g.kid c hc) (d.kid c hc))) ?_
    rintro _ h2 ⟨rfl,v2,f2⟩
    refine g2 @a4_ @a5_ ?_
    exact WP.ret ⟨rfl,v2.mono λo _ z=>z.elim .inl λz=>.inr ⟨oM,z.2⟩,(FrS.ofExt e1).trans f2⟩
  |_=>simp[Nd.kind] at hk
 ·exact c3y hk g d λc hc=>ih c (a9g hc) (g.kid c (a9g hc)) (d.kid c (a9g hc))
end Go.Gm.AZ
namespace Go.Gm
abbrev Hop:=Nat × Nat × Int
inductive Wk (A:Nat->List Hop) (st:Nat->Prop):Nat->List Nat->Int->Prop
 |nil {x:Nat}:st x->Wk A st x [] 0
 |snoc {x y e:Nat} {l:List Nat} {c w:Int}:Wk A st x l c->(y,e,w)∈A x->Wk A st y (l++[e]) (c+w)
def Lst (A:Nat->List Hop)(st:Nat->Prop)(x:Nat)(c:Int):Prop:=(∃l,Wk A st x l c)/\∀l c',Wk A st x l c'->c<=c'
theorem Lst.uniq (a:Lst A st x c)(b:Lst A st x d):c=d:=by
 obtain ⟨⟨l,h1⟩,h2⟩:=a
 obtain ⟨⟨l',h3⟩,h4⟩:=b
 have:=h2 _ _ h3
 have:=h4 _ _ h1
 omega
structure GOk (n:Nat) (W:Int) (A:Nat->List Hop):Prop where
 w0:0<=W
 hop:∀x,x<n->∀y e w,(y,e,w)∈A x->y<n/\0<=w/\w<=W
section
variable {n:Nat} {W:Int} {A:Nat->List Hop} {st:Nat->Prop}
theorem Wk.range (g:GOk n W A)(hs:∀x,st x->x<n){x:Nat}(h:Wk A st x l c):x<n/\0<=c:=by
 induction h with
 |nil h=>exact ⟨hs _ h,Int.le_refl _⟩
 |snoc _ k ih=>have:=g.hop _ ih.1 _ _ _ k; omega
structure DI (n:Nat) (W:Int) (A:Nat->List Hop) (st:Nat->Prop) (id:Nat) (todo:List Hop) (c:Nat->Int) (m:Nat->Option Int) (e f:Nat->Int) (r:Nat->Nat) (k:Nat):Prop where
 fin:∀x,x<n->0<=c x->Lst A st x (c x)
 neg:∀x,x<n->¬0<=c x->c x = -1
 que:∀x,x<n->∀v,m x=some v->c x = -1/\0<=v/\∃l,Wk A st x l v
 rel:∀x,x<n->0<=c x->∀y e w,(y,e,w)∈A x->(x=id/\(y,e,w)∈todo)\/0<=c y\/∃v,m y=some v/\v<=c x+w
 sta:∀x,x<n->st x->0<=c x\/m x=some 0
 ord:∀x y,x<n->y<n->0<=c x->∀v,m y=some v->c x<=v
 par:∀y,y<n->∀v,(0<=c y/\c y=v\/m y=some v)->(f y = -1/\st y/\v=0)\/∃x w,x<n/\f y=(x:Int)/\0<=c x/\0<=e y/\(y,(e y).toNat,w)∈A x/\v=c x+w/\(0<=c y->r x<r y)
 rk:∀x,x<n->0<=c x->r x<k
 bnd:∀x,x<n->∀v,(0<=c x/\c x=v\/m x=some v)->v<=k*W
 mx:∀x,x<n->0<=c x->c x<=c id
theorem DI.front {c:Nat->Int}{m:Nat->Option Int}{e f:Nat->Int}{r:Nat->Nat}{k id:Nat}(g:GOk n W A)(hs:∀x,st x->x<n)(d:DI n W A st id [] c m e f r k){y:Nat}{l:List Nat}{v:Int}(h:Wk A st y l v):(0<=c y/\c y<=v)\/∃z u,z<n/\m z=some u/\u<=v:=by
 induction h with
 |@nil x h=>
  have hx:=hs _ h
  rcases d.sta x hx h with h1|h1
  ·left
   have:=(d.fin x hx h1).2 [] 0 (.nil h)
   exact ⟨h1,this⟩
  ·exact .inr ⟨x,0,hx,h1,Int.le_refl _⟩
 |@snoc x y e l v w h1 h2 ih=>
  have hx:=(Wk.range g hs h1).1
  have hh:=g.hop x hx _ _ _ h2
  rcases ih with ⟨i1,i2⟩|⟨z,u,i1,i2,i3⟩
  ·rcases d.rel x hx i1 _ _ _ h2 with ⟨_,q⟩|q|⟨u,q1,q2⟩
   ·simp at q
   ·left
    exact ⟨q,(d.fin y hh.1 q).2 _ _ (.snoc h1 h2)⟩
   ·exact .inr ⟨y,u,hh.1,q1,oM⟩
  ·exact .inr ⟨z,u,i1,i2,oM⟩
theorem DI.all {c:Nat->Int}{m:Nat->Option Int}{e f:Nat->Int}{r:Nat->Nat}{k id:Nat}(g:GOk n W A)(hs:∀x,st x->x<n)(d:DI n W A st id [] c m e f r k)(hm:∀x,x<n->m x=none){y:Nat}{l:List Nat}{v:Int}(h:Wk A st y l v):0<=c y/\c y<=v:=by
 rcases d.front g hs h with h1|⟨z,u,h1,h2,_⟩
 ·exact h1
 ·rw[hm z h1] at h2; cases h2
theorem DI.pop (g:GOk n W A)(hs:∀x,st x->x<n)(d:DI n W A st id0 [] c m e f r k){id:Nat}(hid:id<n)(hm:m id=some key)(hmin:∀z,z<n->∀u,m z=some u->key<=u) :
  DI n W A st id (A id) (fun x=>if x=id then key else c x) (fun x=>if x=id then none else m x) e f (fun x=>if x=id then k else r x) (k+1):=by
 obtain ⟨q1,q2,q3⟩:=d.que id hid key hm
 have hW:=g.w0
 have hkW:(k:Int)*W<=((k+1:Nat):Int)*W:=by
  rw[Int.natCast_add,Int.add_mul]; omega
 have least:∀l v,Wk A st id l v->key<=v:=by
  intro l v h
  rcases d.front g hs h with h1|⟨z,u,h1,h2,h3⟩
  ·omega
  ·have:=hmin z h1 u h2; omega
 refine ⟨λx hx h=>?_,λx hx h=>?_,λx hx v h=>?_,λx hx h y e' w h2=>?_,λx hx h=>?_,λx y hx hy h v h2=>?_,λy hy v h=>?_,λx hx h=>?_,λx hx v h=>?_,λx hx h=>?_⟩
 ·try simp only at h ⊢
  by_cases q:x=id
  ·subst q; rw[if_pos rfl] at h ⊢; exact ⟨q3,least⟩
  ·rw[if_neg q] at h ⊢; exact d.fin x hx h
 ·try simp only at h ⊢
  by_cases q:x=id
  ·subst q; rw[if_pos rfl] at h; exact absurd q2 h
  ·rw[if_neg q] at h ⊢; exact d.neg x hx h
 ·try simp only at h ⊢
  by_cases q:x=id
  ·rw[if_pos q] at h; cases h
  ·rw[if_neg q] at h ⊢; exact d.que x hx v h
 ·try simp only at h ⊢
  by_cases q:x=id
  ·subst q; exact .inl ⟨rfl,h2⟩
  ·rw[if_neg q] at h ⊢
   rcases d.rel x hx h _ _ _ h2 with ⟨_,z⟩|z|⟨v,z1,z2⟩
   ·simp at z
   ·right; left
    by_cases q':y=id
    ·rw[if_pos q']; exact q2
    ·rw[if_neg q']; exact z
   ·right
    by_cases q':y=id
    ·left; rw[if_pos q']; exact q2
    ·right; exact ⟨v,by rw[if_neg q']; exact z1,z2⟩
 ·try simp only
  by_cases q:x=id
  ·left; rw[if_pos q]; exact q2
  ·rw[if_neg q,if_neg q]; exact d.sta x hx h
 ·try simp only at h h2 ⊢
  by_cases q':y=id
  ·rw[if_pos q'] at h2; cases h2
  ·rw[if_neg q'] at h2
   by_cases q:x=id
   ·rw[if_pos q]; exact hmin y hy v h2
   ·rw[if_neg q] at h ⊢; exact d.ord x y hx hy h v h2
 ·try simp only at h ⊢
  have h':0<=c y/\c y=v\/m y=some v:=by
   by_cases q:y=id
   ·subst q
    rw[if_pos rfl,if_pos rfl] at h
    rcases h with h|h
    ·exact .inr (by rw[hm,h.2])
    ·cases h
   ·rw[if_neg q,if_neg q] at h; exact h
  rcases d.par y hy v h' with z|⟨x,w,z1,z2,z3,z4,z5,z6,z7⟩
  ·exact .inl z
  ·refine .inr ⟨x,w,z1,z2,?_,z4,z5,?_,λ_=>?_⟩
   ·by_cases q:x=id
    ·rw[if_pos q]; exact q2
    ·rw[if_neg q]; exact z3
   ·by_cases q:x=id
    ·subst q; omega
    ·rw[if_neg q]; exact z6
   ·have hxi:x≠id:=λq=>by subst q; omega
    rw[if_neg hxi]
    by_cases q:y=id
    ·rw[if_pos q]; exact d.rk x z1 z3
    ·rw[if_neg q]
     refine z7 ?_
     rw[if_neg q,if_neg q] at h
     rcases h with h|h
     ·exact h.1
     ·have h0:0<=c y\/¬0<=c y:=oM
      rcases h0 with h0|h0
      ·exact h0
      ·rename_i hc
       simp only[if_neg q] at hc
       exact hc
 ·try simp only at h ⊢
  by_cases q:x=id
  ·rw[if_pos q]; omega
  ·rw[if_neg q] at h ⊢; have:=d.rk x hx h; omega
 ·try simp only at h
  have h':0<=c x/\c x=v\/m x=some v:=by
   by_cases q:x=id
   ·subst q
    rw[if_pos rfl,if_pos rfl] at h
    rcases h with h|h
    ·exact .inr (by rw[hm,h.2])
    ·cases h
   ·rw[if_neg q,if_neg q] at h; exact h
  have:=d.bnd x hx v h'
  omega
 ·rw[if_pos rfl]
  by_cases q:x=id
  ·rw[if_pos q]; omega
  ·rw[if_neg q] at h ⊢; exact d.ord x id hx hid h key hm
theorem DI.skip {k id y ed:Nat}{w:Int}{todo:List Hop}(d:DI n W A st id ((y,ed,w)::todo) c m e f r k)(h:0<=c y\/∃v,m y=some v/\v<=c id+w):DI n W A st id todo c m e f r k:=by
 refine ⟨d.fin,d.neg,d.que,λx hx h1 y' e' w' h2=>?_,d.sta,d.ord,d.par,d.rk,d.bnd,d.mx⟩
 rcases d.rel x hx h1 _ _ _ h2 with ⟨rfl,z⟩|z
 ·rcases List.mem_cons.1 z with z|z
  ·injection z with z1 z2
   injection z2 with z2 z3
   subst z1 z2 z3
   exact .inr h
  ·exact .inl ⟨rfl,z⟩
 ·exact .inr z
theorem DI.put {k id y ed:Nat}{w:Int}{todo:List Hop}(g:GOk n W A)(d:DI n W A st id ((y,ed,w)::todo) c m e f r (k+1))(hid:id<n)(hc:0<=c id)(hA:(y,ed,w)∈A id)(hy:c y<0)(hm:∀v,m y=some v->c id+w<v)(hk:c id<=k*W) :
  DI n W A st id todo c (λx=>if x=y then some (c id+w) else m x) (λx=>if x=y then (ed:Int) else e x) (λx=>if x=y then (id:Int) else f x) r (k+1):=by
 have hh:=g.hop id hid _ _ _ hA
 have hyn:=d.neg y hh.1 oM
 obtain ⟨⟨l,hl⟩,_⟩:=d.fin id hid hc
 refine ⟨d.fin,d.neg,λx hx v h=>?_,λx hx h1 y' e' w' h2=>?_,λx hx h=>?_,λx z hx hz h v h2=>?_,λz hz v h=>?_,d.rk,λx hx v h=>?_,d.mx⟩
 ·try simp only at h
  by_cases q:x=y
  ·subst q
   rw[if_pos rfl] at h
   injection h with h
   subst h
   exact ⟨hyn,oM,_,.snoc hl hA⟩
  ·rw[if_neg q] at h; exact d.que x hx v h
 ·try simp only
  have key:∀z,(0<=c z\/∃v,m z=some v/\v<=c x+w')->(0<=c z\/∃v,(if z=y then some (c id+w) else m z)=some v/\v<=c x+w'):=by
   rintro z (q|⟨v,q1,q2⟩)
   ·exact .inl q
   ·by_cases qz:z=y
    ·subst qz
     right
     exact ⟨c id+w,by rw[if_pos rfl],by have:=hm v q1; omega⟩
    ·exact .inr ⟨v,by rw[if_neg qz]; exact q1,q2⟩
  rcases d.rel x hx h1 _ _ _ h2 with ⟨rfl,z⟩|z
  ·rcases List.mem_cons.1 z with z|z
   ·injection z with z1 z2
    injection z2 with z2 z3
    subst z1 z2 z3
    exact .inr (.inr ⟨c x+w',by rw[if_pos rfl],Int.le_refl _⟩)
   ·exact .inl ⟨rfl,z⟩
  ·exact .inr (key _ z)
 ·try simp only
  rcases d.sta x hx h with q|q
  ·exact .inl q
  ·by_cases qz:x=y
   ·subst qz
    have:=hm 0 q
    omega
   ·right; rw[if_neg qz]; exact q
 ·try simp only at h2
  by_cases q:z=y
  ·subst q
   rw[if_pos rfl] at h2
   injection h2 with h2
   subst h2
   have:=d.mx x hx h; omega
  ·rw[if_neg q] at h2; exact d.ord x z hx hz h v h2
 ·try simp only at h ⊢
  by_cases q:z=y
  ·subst q
   rw[if_pos rfl] at h
   right
   have hv:v=c id+w:=by
    rcases h with h|h
    ·omega
    ·injection h with h; exact h.symm
   refine ⟨id,w,hid,by rw[if_pos rfl],hc,by rw[if_pos rfl]; omega,by rw[if_pos rfl]; simpa using hA,hv,λh=>oM⟩
  ·rw[if_neg q] at h
   rw[if_neg q,if_neg q]
   exact d.par z hz v h
 ·try simp only at h
  by_cases q:x=y
  ·subst q
   rw[if_pos rfl] at h
   have hv:v=c id+w:=by
    rcases h with h|h
    ·omega
    ·injection h with h; exact h.symm
   rw[Int.natCast_add,Int.add_mul]
   omega
  ·rw[if_neg q] at h; exact d.bnd x hx v h
end
end Go.Gm
namespace Go.Gm
def sumN (f:Nat->Int):Nat->Int
 |0=>0
 |n+1=>sumN f n+f n
theorem a4w {f g:Nat->Int}:∀n,(∀x,x<n->f x=g x)->sumN f n=sumN g n
 |0,_=>rfl
 |n+1,h=>by rw[sumN,sumN,a4w n λx hx=>h x oM,h n oM]
theorem b1y {f:Nat->Int}{y:Nat}{a:Int}:∀n,y<n->sumN (λx=>if x=y then a else f x) n=sumN f n-f y+a
 |0,h=>oM
 |n+1,h=>by
  rw[sumN,sumN]
  by_cases q:y=n
  ·subst q
   rw[if_pos rfl,a4w y (g:=f) λx hx=>if_neg oM]
   omega
  ·rw[if_neg (λz=>q z.symm),b1y n oM]
   omega
theorem b0m {f:Nat->Int}:∀n,(∀x,x<n->0<=f x)->0<=sumN f n
 |0,_=>Int.le_refl _
 |n+1,h=>by
  have:=b0m n λx hx=>h x oM
  have:=h n oM
  rw[sumN]; omega
theorem b8o {f:Nat->Int}:∀n,(∀x,x<n->f x<=1)->sumN f n<=n
 |0,_=>Int.le_refl _
 |n+1,h=>by
  have:=b8o n λx hx=>h x oM
  have:=h n oM
  rw[sumN]; omega
def up (c:Nat->Int)(y:Nat)(v:Int):Nat->Int:=λx=>if x=y then v else c x
def un (n:Nat)(c:Nat->Int):Int:=sumN (λx=>if c x<0 then 1 else 0) n
def mu (n:Nat)(W:Int)(c:Nat->Int):Int:=sumN (λx=>if c x<0 then n*W+1 else c x) n
theorem m1_ (n:Nat)(c:Nat->Int):0<=un n c:=b0m n λx _=>by split<;>omega
theorem un_le (n:Nat)(c:Nat->Int):un n c<=n:=b8o n λx _=>by split<;>omega
theorem b5t {W:Int}(hW:0<=W)(c:Nat->Int):0<=mu n W c:=by
 have:0<=(n:Int)*W:=Int.mul_nonneg oM hW
 exact b0m n λx _=>by split<;>omega
theorem un_up {n:Nat}{y:Nat}{v:Int}(hy:y<n)(hv:0<=v):un n (up c y v)=un n c-if c y<0 then 1 else 0:=by
 have:un n (up c y v)=sumN (λx=>if x=y then 0 else (λx=>if c x<0 then (1:Int) else 0) x) n:=by
  refine a4w n λx hx=>?_
  by_cases q:x=y
  ·have e:up c y v x=v:=if_pos q
   simp only[e,if_pos q]
   rw[if_neg oM]
  ·have e:up c y v x=c x:=if_neg q
   simp only[e,if_neg q]
 rw[this,b1y n hy,un]
 omega
theorem mu_up {n:Nat}{y:Nat}{v:Int}(hy:y<n)(hv:0<=v):mu n W (up c y v)=mu n W c-(if c y<0 then n*W+1 else c y)+v:=by
 have:mu n W (up c y v)=sumN (λx=>if x=y then v else (λx=>if c x<0 then n*W+1 else c x) x) n:=by
  refine a4w n λx hx=>?_
  by_cases q:x=y
  ·have e:up c y v x=v:=if_pos q
   simp only[e,if_pos q]
   rw[if_neg oM]
  ·have e:up c y v x=c x:=if_neg q
   simp only[e,if_neg q]
 rw[this,b1y n hy,mu]
structure RI (n:Nat) (W:Int) (A:Nat->List Hop) (st:Nat->Prop) (c:Nat->Int):Prop where
 wk:∀x,x<n->0<=c x->∃l,Wk A st x l (c x)
 neg:∀x,x<n->¬0<=c x->c x = -1
 sta:∀x,x<n->st x->c x=0
 bnd:∀x,x<n->c x+un n c*W<=n*W
def LC (n:Nat)(A:Nat->List Hop)(st:Nat->Prop)(c:Nat->Int):Prop:=∀x,x<n->(0<=c x/\Lst A st x (c x))\/(c x = -1/\∀l v,¬Wk A st x l v)
section
variable {n:Nat} {W:Int} {A:Nat->List Hop} {st:Nat->Prop} {c:Nat->Int}
theorem LC.uniq (a:LC n A st c)(b:LC n A st d):∀x,x<n->c x=d x:=by
 intro x hx
 rcases a x hx with ⟨a1,a2⟩|⟨a1,a2⟩<;>rcases b x hx with ⟨b1,b2⟩|⟨b1,b2⟩
 ·exact a2.uniq b2
 ·obtain ⟨⟨l,h⟩,_⟩:=a2
  exact absurd h (b2 _ _)
 ·obtain ⟨⟨l,h⟩,_⟩:=b2
  exact absurd h (a2 _ _)
 ·omega
theorem RI.le (hW:0<=W)(r:RI n W A st c){x:Nat}(hx:x<n):-1<=c x/\c x<=n*W:=by
 have h1:=r.bnd x hx
 have h2:0<=un n c*W:=Int.mul_nonneg (m1_ n c) hW
 have h3:=r.neg x hx
 omega
theorem RI.relax (g:GOk n W A)(hs:∀x,st x->x<n)(r:RI n W A st c){x y e:Nat}{w:Int}(hx:x<n)(h:(y,e,w)∈A x)(h0:0<=c x)(hr:c y<0\/c x+w<c y) :
  RI n W A st (up c y (c x+w))/\mu n W (up c y (c x+w))<mu n W c:=by
 obtain ⟨hy,w0,w1⟩:=g.hop x hx _ _ _ h
 have hW:=g.w0
 have hv:0<=c x+w:=oM
 obtain ⟨l,hl⟩:=r.wk x hx h0
 have bx:=r.bnd x hx
 have bu:=m1_ n (up c y (c x+w))
 have eu:=un_up (c:=c) hy hv
 have bm:=Int.mul_nonneg bu hW
 have key:c x+w+un n (up c y (c x+w))*W<=n*W:=by
  by_cases q:c y<0
  ·rw[if_pos q] at eu
   rw[eu,Int.sub_mul]
   omega
  ·rw[if_neg q] at eu
   have:=r.bnd y hy
   rw[eu,Int.sub_zero]
   omega
 refine ⟨⟨λz hz hc=>?_,λz hz hc=>?_,λz hz hc=>?_,λz hz=>?_⟩,?_⟩
 ·by_cases q:z=y
  ·subst q
   simp only[up,if_pos rfl]
   exact ⟨_,.snoc hl h⟩
  ·simp only[up,if_neg q] at hc ⊢
   exact r.wk z hz hc
 ·by_cases q:z=y
  ·simp only[up,if_pos q] at hc; omega
  ·simp only[up,if_neg q] at hc ⊢
   exact r.neg z hz hc
 ·by_cases q:z=y
  ·subst q
   have:=r.sta z hz hc
   omega
  ·simp only[up,if_neg q]
   exact r.sta z hz hc
 ·by_cases q:z=y
  ·subst q
   have:up c z (c x+w) z=c x+w:=if_pos rfl
   rw[this]; exact key
  ·have:up c y (c x+w) z=c z:=by simp only[up,if_neg q]
   rw[this]
   have h1:=r.bnd z hz
   have h2:un n (up c y (c x+w))*W<=un n c*W:=Int.mul_le_mul_of_nonneg_right (by rw[eu]; split<;>omega) hW
   omega
 ·rw[mu_up hy hv]
  split<;>omega
theorem RI.lst (g:GOk n W A)(hs:∀x,st x->x<n)(r:RI n W A st c)(hd:∀x,x<n->0<=c x->∀y e w,(y,e,w)∈A x->0<=c y/\c y<=c x+w):LC n A st c:=by
 have all:∀y l v,Wk A st y l v->0<=c y/\c y<=v:=by
  intro y l v h
  induction h with
  |nil h=>have:=r.sta _ (hs _ h) h; omega
  |snoc h1 h2 ih=>have:=hd _ (Wk.range g hs h1).1 ih.1 _ _ _ h2; omega
 intro x hx
 by_cases q:0<=c x
 ·exact .inl ⟨q,r.wk x hx q,λl v h=>(all x l v h).2⟩
 ·exact .inr ⟨r.neg x hx q,λl v h=>q (all x l v h).1⟩
theorem DI.lc {m:Nat->Option Int}{e f:Nat->Int}{r:Nat->Nat}{k id:Nat}(g:GOk n W A)(hs:∀x,st x->x<n)(d:DI n W A st id [] c m e f r k)(hm:∀x,x<n->m x=none):LC n A st c:=by
 intro x hx
 by_cases q:0<=c x
 ·exact .inl ⟨q,d.fin x hx q⟩
 ·exact .inr ⟨d.neg x hx q,λl v h=>q (d.all g hs hm h).1⟩
theorem RI.start (g:GOk n W A){x0:Nat}(h0:x0<n)(hst:∀x,st x↔x=x0)(hc:∀x,x<n->c x=if x=x0 then 0 else -1):RI n W A st c:=by
 have hW:=g.w0
 have hu:un n c=n-1:=by
  have:un n c=sumN (λx=>if x=x0 then 0 else (λ_=>(1:Int)) x) n:=by
   refine a4w n λx hx=>?_
   simp only[hc x hx]
   by_cases q:x=x0
   ·rw[if_pos q,if_pos q,if_neg oM]
   ·rw[if_neg q,if_neg q,if_pos oM]
  have e1:∀n:Nat,sumN (λ_=>(1:Int)) n=n:=by
   intro n
   induction n with
   |zero=>rfl
   |succ n ih=>rw[sumN,ih]; omega
  rw[this,b1y n h0,e1]
  omega
 refine ⟨λx hx h=>?_,λx hx h=>?_,λx hx h=>?_,λx hx=>?_⟩
 ·rw[hc x hx] at h ⊢
  by_cases q:x=x0
  ·rw[if_pos q]; exact ⟨[],.nil ((hst x).2 q)⟩
  ·rw[if_neg q] at h; omega
 ·rw[hc x hx] at h ⊢
  by_cases q:x=x0
  ·rw[if_pos q] at h; omega
  ·rw[if_neg q]
 ·rw[hc x hx,if_pos ((hst x).1 h)]
 ·rw[hc x hx,hu,Int.sub_mul]
  have:(1:Int)*W=W:=Int.one_mul W
  split<;>omega
end
end Go.Gm
namespace Go.Gm
section
variable {n:Nat} {W:Int} {A A':Nat->List Hop} {st en:Nat->Prop}
structure Rev (n:Nat) (A A':Nat->List Hop):Prop where
 to:∀x y e w,x<n->(y,e,w)∈A x->∃e',(x,e',w)∈A' y
 fro:∀x y e w,y<n->(x,e,w)∈A' y->∃e',(y,e',w)∈A x
theorem Rev.symm (r:Rev n A A'):Rev n A' A:=⟨λx y e w hx h=>r.fro y x e w hx h,λx y e w hy h=>r.to y x e w hy h⟩
theorem Wk.join (g:GOk n W A)(g':GOk n W A')(r:Rev n A A')(hs:∀x,st x->x<n)(he:∀x,en x->x<n){x:Nat}(h:Wk A' en x l u):∀{l' v},Wk A st x l' v->∃z,en z/\∃l'',Wk A st z l'' (v+u):=by
 induction h with
 |@nil x h=>
  intro l' v k
  exact ⟨x,h,l',by rw[Int.add_zero]; exact k⟩
 |@snoc y x e l u w h1 h2 ih=>
  intro l' v k
  have hy:=(Wk.range g' he h1).1
  obtain ⟨e',h3⟩:=r.fro x y e w hy h2
  obtain ⟨z,z1,l'',z2⟩:=ih (.snoc k h3)
  exact ⟨z,z1,l'',by rw[show v+(u+w)=v+w+u by omega]; exact z2⟩
structure Half (n:Nat) (A:Nat->List Hop) (st:Nat->Prop) (c:Nat->Int) (t:Int):Prop where
 front:∀y l v,Wk A st y l v->(0<=c y/\c y<=v)\/t<=v
structure Met (n:Nat) (A:Nat->List Hop) (st en:Nat->Prop) (c d:Nat->Int) (L:Int):Prop where
 a:∀x,x<n->0<=c x->en x->0<=L/\L<=c x
 b:∀x,x<n->0<=d x->st x->0<=L/\L<=d x
 m:∀x y e w,x<n->(y,e,w)∈A x->0<=c x->0<=d y->0<=L/\L<=c x+w+d y
theorem Met.low (g:GOk n W A)(g':GOk n W A')(r:Rev n A A')(hs:∀x,st x->x<n)(he:∀x,en x->x<n)(p:Half n A st c t)(q:Half n A' en d t')(mt:Met n A st en c d L)(hL:L<=t+t'){x:Nat}(h:Wk A' en x l u) :
  ∀{v l'},Wk A st x l' v->0<=c x->c x<=v->L<=v+u:=by
 induction h with
 |@nil x h=>
  intro v l' k h0 h1
  have:=mt.a x (he x h) h0 h
  omega
 |@snoc y x e l u w h1 h2 ih=>
  intro v l' k h0 h3
  have hy:=(Wk.range g' he h1).1
  obtain ⟨e',h4⟩:=r.fro x y e w hy h2
  have hx:=(Wk.range g hs k).1
  rcases p.front y _ _ (.snoc k h4) with ⟨p1,p2⟩|p1
  ·have:=ih (.snoc k h4) p1 p2
   omega
  ·rcases q.front y _ _ h1 with ⟨q1,q2⟩|q1
   ·have:=mt.m x y e' w hx h4 h0 q1
    omega
   ·omega
theorem Met.all (g:GOk n W A)(g':GOk n W A')(r:Rev n A A')(hs:∀x,st x->x<n)(he:∀x,en x->x<n)(p:Half n A st c t)(q:Half n A' en d t')(mt:Met n A st en c d L)(hL:L<=t+t')(hst:∀x,st x->0<=c x->c x<=0){x:Nat}(hx:st x)(h:Wk A' en x l u):L<=u:=by
 by_cases h0:0<=c x
 ·have:=mt.low g g' r hs he p q hL h (.nil hx) h0 (hst x hx h0)
  omega
 ·rcases p.front x _ _ (.nil hx) with ⟨p1,_⟩|p1
  ·exact absurd p1 h0
  ·rcases q.front x _ _ h with ⟨q1,q2⟩|q1
   ·have:=mt.b x (hs x hx) q1 hx
    omega
   ·omega
theorem Met.least (g:GOk n W A)(g':GOk n W A')(r:Rev n A A')(hs:∀x,st x->x<n)(he:∀x,en x->x<n)(p:Half n A st c t)(q:Half n A' en d t')(mt:Met n A st en c d L)(hL:L<=t+t')(hst:∀x,st x->0<=c x->c x<=0)(hz:en z)(h:Wk A st z l v):L<=v:=by
 obtain ⟨x,hx,l',h'⟩:=Wk.join g' g r.symm he hs h (.nil hz)
 have:=mt.all g g' r hs he p q hL hst hx h'
 omega
theorem Met.symm (g:GOk n W A)(g':GOk n W A')(r:Rev n A A')(mt:Met n A st en c d L):Met n A' en st d c L:=by
 refine ⟨mt.b,mt.a,λx y e w hx h h1 h2=>?_⟩
 have hy:=(g'.hop x hx _ _ _ h).1
 obtain ⟨e',h3⟩:=r.fro y x e w hx h
 have:=mt.m y x e' w hy h3 h2 h1
 omega
theorem Met.step {c c' d:Nat->Int}{L L':Int}{id:Nat}(mt:Met n A st en c d L)(hc:∀x,x<n->x≠id->c' x=c x)(hmono:0<=L->0<=L'/\L'<=L)(ha:en id->0<=L'/\L'<=c' id)(hm:∀y e w,(y,e,w)∈A id->0<=d y->0<=L'/\L'<=c' id+w+d y):Met n A st en c' d L':=by
 refine ⟨λx hx h1 h2=>?_,λx hx h1 h2=>?_,λx y e w hx h h1 h2=>?_⟩
 ·by_cases q:x=id
  ·subst q; exact ha h2
  ·rw[hc x hx q] at h1 ⊢
   have h3:=mt.a x hx h1 h2
   have h4:=hmono h3.1
   exact ⟨h4.1,oM⟩
 ·have h3:=mt.b x hx h1 h2
  have h4:=hmono h3.1
  exact ⟨h4.1,oM⟩
 ·by_cases q:x=id
  ·subst q; exact hm y e w h h2
  ·rw[hc x hx q] at h1 ⊢
   have h3:=mt.m x y e w hx h h1 h2
   have h4:=hmono h3.1
   exact ⟨h4.1,oM⟩
def fnd (c:Nat->Int)(m:Nat->Option Int)(x:Nat):Int:=if 0<=c x then c x else (m x).getD (-1)
theorem c2u {c:Nat->Int}{m:Nat->Option Int}{e f:Nat->Int}{r:Nat->Nat}{k id:Nat}{todo:List Hop}(d:DI n W A st id todo c m e f r k){x:Nat}(hx:x<n)(h:0<=fnd c m x):∃l,Wk A st x l (fnd c m x):=by
 unfold fnd at h ⊢
 by_cases q:0<=c x
 ·rw[if_pos q]; exact (d.fin x hx q).1
 ·rw[if_neg q] at h ⊢
  cases hm:m x with
  |none=>rw[hm] at h; simp at h
  |some v=>exact (d.que x hx v hm).2.2
theorem c5u {c:Nat->Int}{m:Nat->Option Int}{e f:Nat->Int}{r:Nat->Nat}{k id:Nat}(d:DI n W A st id [] c m e f r k){x:Nat}(hx:x<n)(h:0<=c x){y e':Nat}{w:Int}(hh:(y,e',w)∈A x)(hy:y<n):0<=fnd c m y/\(fnd c m y<=c x+w\/0<=c y):=by
 unfold fnd
 rcases d.rel x hx h _ _ _ hh with ⟨_,q⟩|q|⟨v,q1,q2⟩
 ·simp at q
 ·rw[if_pos q]; exact ⟨q,.inr q⟩
 ·by_cases q:0<=c y
  ·rw[if_pos q]; exact ⟨q,.inr q⟩
  ·rw[if_neg q,q1]
   have:=(d.que y hy v q1).2.1
   exact ⟨this,.inl q2⟩
theorem c3Y {c:Nat->Int}{m:Nat->Option Int}{e f:Nat->Int}{r:Nat->Nat}{k id:Nat}(d:DI n W A st id [] c m e f r k){x:Nat}(hx:x<n)(h:0<=c x){y e':Nat}{w:Int}(hh:(y,e',w)∈A x)(hy:y<n):0<=fnd c m y/\fnd c m y<=c x+w:=by
 obtain ⟨h1,h2⟩:=c5u d hx h hh hy
 refine ⟨h1,h2.elim (λz=>z) λz=>?_⟩
 obtain ⟨⟨l,hl⟩,_⟩:=d.fin x hx h
 have:=(d.fin y hy z).2 _ _ (.snoc hl hh)
 unfold fnd
 rw[if_pos z]; exact this
theorem c3Z {c:Nat->Int}{m:Nat->Option Int}{e f:Nat->Int}{r:Nat->Nat}{k id:Nat}{todo:List Hop}(hW:0<=W)(d:DI n W A st id todo c m e f r k){x:Nat}(hx:x<n):fnd c m x<=k*W:=by
 have h0:0<=(k:Int)*W:=Int.mul_nonneg oM hW
 unfold fnd
 by_cases q:0<=c x
 ·rw[if_pos q]; exact d.bnd x hx _ (.inl ⟨q,rfl⟩)
 ·rw[if_neg q]
  cases hm:m x with
  |none=>simp; omega
  |some v=>exact d.bnd x hx v (.inr hm)
end
end Go.Gm
namespace Go.Gm.AZ
open Go Go.Gm
def encR (r:List Int):List AV:=r.map I
structure DOk (D:List (List Int)) (acc:List Bool):Prop where
 l0:0<D.length
 l1:D.length<=2000
 la:acc.length=D.length
 row:∀s:Int,0<=s->s<D.length->(gi D s).length=5
 to:∀s m:Int,0<=s->s<D.length->0<=m->m<5->0<=gi (gi D s) m/\gi (gi D s) m<D.length
structure COk (es:List E):Prop where
 c:∀e∈es,0<=e.co/\e.co<=2147483647
abbrev nx (D:List (List Int))(s m:Int):Int:=gi (gi D s) m
def befTo (D:List (List Int))(t m:Int)(n:Nat):List Int:=((List.range n).filter λ(i:Nat)=>nx D i m == t).map λ(i:Nat)=>(i:Int)
abbrev bef (D:List (List Int))(t m:Int):List Int:=befTo D t m D.length
abbrev Tr:=Int × Int × Int
def encT (t:Tr):List AV:=[I t.1,I t.2.1,I t.2.2]
def onL (es:List E)(D:List (List Int))(v s:Int):List Tr:=(outL es v).map λk=>((gi es k).to,nx D s (gi es k).md,k)
def hopOf (es:List E)(S:Nat)(t:Tr):Hop:=((t.1*S+t.2.1).toNat,t.2.2.toNat,(gi es t.2.2).co)
def hopA (es:List E)(S:Nat)(L:Int->Int->List Tr)(x:Nat):List Hop:=(L ((x / S:Nat):Int) ((x % S:Nat):Int)).map (hopOf es S)
structure GV (h:Heap) (g:AV) (N:Nat) (es:List E) (D:List (List Int)) (acc:List Bool):Prop where
 ex:∃sE a sD sA sB B,At h g [I N,sE,a,sD,sA,sB]/\Sl h 4 sE (es.map encE)/\AdjV h a N es/\Sl h 5 sD (D.map encR)/\Sl h 1 sA (acc.map encB)/\Sl h 5 sB (B.map id)/\
  B.length=D.length/\∀t m:Int,0<=t->t<D.length->0<=m->m<5->(gi B t).length=5/\Sl h 1 (gi (gi B t) m) ((bef D t m).map encI)
theorem GV.ext (v:GV h g N es D acc)(e:Ext h h'):GV h' g N es D acc:=by
 obtain ⟨sE,a,sD,sA,sB,B,h1,h2,h3,h4,h5,h6,h7,h8⟩:=v.ex
 exact ⟨sE,a,sD,sA,sB,B,h1.ext e,h2.ext e,h3.ext e,h4.ext e,h5.ext e,h6.ext e,h7,λt m t0 t1 m0 m1=>⟨(h8 t m t0 t1 m0 m1).1,(h8 t m t0 t1 m0 m1).2.ext e⟩⟩
theorem c2P {sz:Nat}{h:Heap}{s:AV}{α:Type}[Inhabited α]{enc:α->List AV}{xs:List α}(a:Sl h sz s (xs.map enc)){i j:Int}(hi0:0<=i)(hi:i<xs.length)(h0:0<=j)(h1:j<sz):∃o off g,elP sz s i=.ptr o off (off+sz) g/\idxA sz 1 (elP sz s i) (I j)=some (.ptr o (off+j.toNat) (off+j.toNat+1) g):=by
 rcases a with ⟨rfl,hx⟩|⟨o,off,lim,g,c,rfl,_⟩
 ·cases xs with
  |nil=>simp at hi; omega
  |cons=>simp at hx
 ·refine ⟨o,off+i.toNat*sz,g,rfl,?_⟩
  simp only[elP,idxA,I,Nat.mul_one]
  rw[if_pos ⟨h0,h1,oM⟩]
theorem c4J {o off hi hi2 g:Nat}(h1:off<hi)(h2:off<hi2):Gm.ld1 h (.ptr o off hi g)=Gm.ld1 h (.ptr o off hi2 g):=by simp[Gm.ld1,h1,h2]
theorem c4K {o off hi hi2 g:Nat}(h1:off<hi)(h2:off<hi2):stN 1 h (.ptr o off hi g) v=stN 1 h (.ptr o off hi2 g) v:=by
 simp only[stN,wrc]
 by_cases q:v.cells.length=1
 ·simp[q,show off+1<=hi by omega,show off+1<=hi2 by omega]
 ·simp[q]
theorem cellA {sz:Nat}{h H:Heap}{s:AV}{α:Type}[Inhabited α]{enc:α->List AV}{xs:List α}(a:Sl h sz s (xs.map enc))(e:Ext h H){i j:Int}(hi0:0<=i)(hi:i<xs.length)(h0:0<=j)(h1:j<sz) :
  ∃p,idxA sz 1 (elP sz s i) (I j)=some p/\Gm.ld1 H p=some ((enc (gi xs i)).getD j.toNat .undef)/\∀(H':Heap) (v:AV),stN 1 H' p v=stN 1 H' (fldP j.toNat (elP sz s i)) v:=by
 obtain ⟨o,off,g,k1,k2⟩:=c2P a hi0 hi h0 h1
 have:=a.ldf j.toNat e hi0 hi oM
 rw[k1,a6V] at this
 refine ⟨_,k2,?_,λH' v=>?_⟩
 ·rw[<-this]
  exact c4J oM oM
 ·rw[k1,a6V]
  exact c4K oM oM
section
variable {h0 h:Heap} {g:AV} {N:Nat} {es:List E} {D:List (List Int)} {acc:List Bool}
theorem b2v (gv:GV h g N es D acc)(ok:DOk D acc){v s:Int}(v0:0<=v)(v1:v<=100000)(s0:0<=s)(s1:s<=100000) :
  Tot tab r4_ [g,.agg [I v,I s]] h λr h'=>r=I (v*D.length+s)/\Ext h h':=by
 obtain ⟨sE,a,sD,sA,sB,B,k1,k2,k3,k4,k5,k6,k7,k8⟩:=gv.ex
 refine WP.tot (b1H · ..) ?_
 have hl:=ok.l1
 have hm0:0<=v*(D.length:Int):=Int.mul_nonneg v0 oM
 have hm1:v*(D.length:Int)<=100000*2000:=Int.mul_le_mul v1 oM oM oM
 have hw:IntKind.i64.wrap (v*(D.length:Int))=v*D.length:=d6_ oM oM
 refine g6 k1.nil k1.fldA0 k1.fldAf k1.ldfE k4.lenG @hw ?_
 exact WP.ret ⟨rfl,eX⟩
theorem b4W (gv:GV h g N es D acc)(ok:DOk D acc){x:Nat}(hx:x<=200000000) :
  Tot tab a0w [g,I x] h λr h'=>r=.agg [I ((x / D.length:Nat):Int),I ((x % D.length:Nat):Int)]/\Ext h h':=by
 obtain ⟨sE,a,sD,sA,sB,B,k1,k2,k3,k4,k5,k6,k7,k8⟩:=gv.ex
 refine WP.tot (b0A · ..) ?_
 have hl:=ok.l0
 have hd:x / D.length<=x:=Nat.div_le_self _ _
 have hw:IntKind.i64.wrap ((x:Int).tdiv (D.length:Int))=((x / D.length:Nat):Int):=by
  rw[<-Int.ofNat_tdiv]
  generalize x / D.length=q at hd
  exact d6_ oM oM
 have hr:(x:Int).tmod (D.length:Int)=((x % D.length:Nat):Int):=(Int.ofNat_tmod _ _).symm
 refine g7 k1.nil k1.fldA0 k1.fldAf k1.ldfE k4.lenG @hw @hr ?_
 exact WP.ret ⟨rfl,eX⟩
end
end Go.Gm.AZ
namespace Go.Gm.AZ
open Go Go.Gm
section
variable {h0 h:Heap} {g:AV} {N:Nat} {es:List E} {D:List (List Int)} {acc:List Bool}
theorem on_l1 (gv:GV h0 g N es D acc)(ok:DOk D acc)(no:NetOk N es){v s:Int}(s0:0<=s)(s1:s<D.length){ks:List Int}(hks:∀k∈ks,0<=k/\k<es.length)(hlk:ks.length<=100000)(hx:At h0 x [I v,I s])(ht:Sl h0 1 t15 (ks.map encI)) :
  ∀(d n:Nat) (h:Heap) (out:AV),n+d=ks.length->Ext h0 h->Gr h0.length h.length h 3 out (((ks.take n).map λk=>(((gi es k).to,nx D s (gi es k).md,k):Tr)).map encT)->
   WP (λp:Nat × Nat=>a0Q p.1 p.2 g x out t15 (I ks.length) (I n) h) λr h'=>Ext h0 h'/\Gr h0.length h'.length h' 3 r ((ks.map λk=>(((gi es k).to,nx D s (gi es k).md,k):Tr)).map encT):=by
 obtain ⟨sE,a,sD,sA,sB,B,k1,k2,k3,k4,k5,k6,k7,k8⟩:=gv.ex
 intro d
 induction d with
 |zero=>
  intro n h out h1 e g1
  refine WP.rnd (a4N · · ..) ?_
  rw[List.take_of_length_le oM] at g1
  refine g0 ?_
  exact WP.ret ⟨e,g1⟩
 |succ d ih=>
  intro n h out h1 e g1
  refine WP.rnd (a4N · · ..) ?_
  obtain ⟨k,hk⟩:∃k,gi ks n=k:=⟨_,rfl⟩
  have hkr:=hks k (hk▸b7_ oM oM)
  have he:=no.edge _ (b7_ (xs:=es) hkr.1 hkr.2)
  obtain ⟨ed,hed⟩:∃ed,gi es k=ed:=⟨_,rfl⟩
  rw[hed] at he
  have htk:ks.take (n+1)=ks.take n++[k]:=by
   rw[List.take_add_one,show ks[n]?=some k by
    have:=c1_ (xs:=ks) (i:=(n:Int)) oM oM
    rw[hk] at this; simpa using this]
   rfl
  have hlo:=e.len
  have hl2:((h++[AObj.cells ⟨[I 0,I 0,I 0,I 0],0,0,false⟩]).set h.length (.cells ⟨[I ed.fr,I ed.to,I ed.md,I ed.co],0,0,false⟩)).length=h.length+1:=by simp
  obtain ⟨h2,hh2⟩:∃h2,h2=((h++[AObj.cells ⟨[I 0,I 0,I 0,I 0],0,0,false⟩]).set h.length (.cells ⟨[I ed.fr,I ed.to,I ed.md,I ed.co],0,0,false⟩)):=⟨_,rfl⟩
  have e2:Ext h h2:=by rw[hh2]; exact eX
  have r2:h2[h.length]?=some (.cells ⟨[I ed.fr,I ed.to,I ed.md,I ed.co],0,0,false⟩):=by rw[hh2]; exact a0_ (by simp)
  rw[<-hh2] at hl2
  have e02:=e.trans e2
  obtain ⟨p,p1,p2,-⟩:=cellA (H:=h2) k4 e02 s0 s1 he.2.2.2.2.1 he.2.2.2.2.2
  rw[show (encR (gi D s)).getD ed.md.toNat .undef=I (nx D s ed.md) by
   have hr:=ok.row s s0 s1
   simp only[encR,nx,List.getD_eq_getElem?_getD,List.getElem?_map]
   have:=c1_ (xs:=gi D s) he.2.2.2.2.1 oM
   rw[this]; rfl] at p2
  obtain ⟨s',h',q1,q2,q3⟩:=Gr.append1 (bytes:=24) (g1.ext e2) (v:=[I ed.to,I (nx D s ed.md),I k]) rfl oM oM (by simp; omega) oM oM
  rw[a3_] at q1
  refine g12 k1.nil k1.fldA0 k1.fldAf k1.ldfE ht.idxG ht.ld0 @hk @encI.eq_1 k2.idxG k2.ldN @hed @encE.eq_1 ?_
  rw[show I 0=I 0 from rfl,<-hh2]
  simp -implicitDefEqProofs (disch:=first|assumption|omega|(simp only[gL,gA]<;>omega)|fail) only[cG,reduceIte,k1.nil,k1.fldA0,k1.fldAf,k1.ldfE,r2,hx.fldA0,hx.ldfE,k4.idxG,p1,p2,q1]
  refine ih (n+1) h' s' oM (q3.ext e02 oM) ((q2.mono (Nat.le_refl _) (Nat.le_refl _)).cong ?_)
  rw[htk,List.map_append,List.map_append]
  simp[encT,hed]
theorem c2Q (gv:GV h g N es D acc)(ok:DOk D acc)(no:NetOk N es){v s:Int}(s0:0<=s)(s1:s<D.length) :
  Tot tab e7_ [g,.agg [I v,I s]] h λr h'=>Ext h h'/\Gr h.length h'.length h' 3 r ((onL es D v s).map encT):=by
 obtain ⟨sE,a,sD,sA,sB,B,k1,k2,k3,k4,k5,k6,k7,k8⟩:=gv.ex
 refine WP.tot (b1G · ..) ?_
 have e1:Ext h (h++[AObj.cells ⟨[I v,I s],0,0,false⟩]):=eX
 refine g4 k1.nil k1.fldA0 k1.fldAf k1.ldfE ?_
 refine WP.call (c1u no (k3.ext e1)) ?_
 rintro r h2 ⟨e2,g2⟩
 have hl2:(outL es v).length<=100000:=Nat.le_trans (o0_ ..) no.len
 have hl:=e2.len
 simp only[List.length_append,List.length_cons,List.length_nil] at hl
 have hx:At h2 (.ptr h.length 0 2 0) [I v,I s]:=At.row (wg:=0) (g:=0) (ro:=false) (e2.get (by simp)) (Nat.le_refl _) rfl
 refine g1 g2.sl.lenG ?_
 refine WP.ent ((on_l1 (gv.ext (e1.trans e2)) ok no s0 s1 (ks:=outL es v) (λk hk=>⟨(q8_.1 hk).1,(q8_.1 hk).2.1⟩) hl2 hx g2.sl (outL es v).length 0 h2 .nils oM (Ext.refl _) (Gr.nil ..)).mono ?_) λi=>rfl
 rintro r h3 ⟨e3,g3⟩
 exact ⟨(e1.trans e2).trans e3,g3.mono oM (Nat.le_refl _)⟩
end
end Go.Gm.AZ
namespace Go.Gm.AZ
open Go Go.Gm
theorem gset {α:Type}[Inhabited α]{xs:List α}{y:Nat}(hy:y<xs.length)(v:α):(λx:Nat=>gi (xs.set y v) (x:Int))=λx:Nat=>if x=y then v else gi xs (x:Int):=by
 funext x
 have:=x5_ (xs:=xs) (i:=(y:Int)) (j:=(x:Int)) oM oM oM v
 rw[show (y:Int).toNat=y by omega] at this
 rw[this]
 by_cases q:x=y
 ·rw[if_pos q,if_pos oM]
 ·rw[if_neg q,if_neg oM]
abbrev gf {α:Type}[Inhabited α](xs:List α):Nat->α:=λx:Nat=>gi xs (x:Int)
structure SW (W:Nat->Prop) (h:Heap) (os:Nat) (g fh q sc se sf:AV) (oc oe ov:Nat) (n:Nat) (cs ds fs:List Int) (M:List (Option Int)) (ls:Int):Prop where
 row:h[os]?=some (.cells ⟨[g,fh,q,sc,se,sf,I ls],0,0,false⟩)
 gc:Gr oc (oc+1) h 1 sc (cs.map encI)
 ge:Gr oe (oe+1) h 1 se (ds.map encI)
 gf:Gr ov (ov+1) h 1 sf (fs.map encI)
 lc:cs.length=n
 le:ds.length=n
 lf:fs.length=n
 o1:oc<oe
 o2:oe<ov
 o3:ov<os
 wc:W oc
 we:W oe
 wv:W ov
 ws:W os
 qv:SQ (λo=>W o/\o≠oc/\o≠oe/\o≠ov/\o≠os) h q n M
section
variable {W:Nat->Prop} {h h':Heap} {os oc oe ov n:Nat} {g fh q sc se sf:AV} {cs ds fs:List Int} {M:List (Option Int)} {ls:Int}
theorem SW.os_lt (w:SW W h os g fh q sc se sf oc oe ov n cs ds fs M ls):os<h.length:=(List.getElem?_eq_some_iff.1 w.row).1
theorem SW.frs (w:SW W h os g fh q sc se sf oc oe ov n cs ds fs M ls)(f:FrS D h h')(hd:∀o,o<h.length->W o->¬D o):SW W h' os g fh q sc se sf oc oe ov n cs ds fs M ls:=by
 have h1:=w.os_lt
 have:=w.o1
 have:=w.o2
 have:=w.o3
 refine ⟨by rw[f.get (hd _ h1 w.ws) h1]; exact w.row,w.gc.frs f λo q1 q2=>?_,w.ge.frs f λo q1 q2=>?_,w.gf.frs f λo q1 q2=>?_,w.lc,w.le,w.lf,w.o1,w.o2,w.o3,w.wc,w.we,w.wv,w.ws,w.qv.frs f λo q1 q2=>hd o q1 q2.1⟩
 ·rw[show o=oc by omega]; exact hd _ oM w.wc
 ·rw[show o=oe by omega]; exact hd _ oM w.we
 ·rw[show o=ov by omega]; exact hd _ oM w.wv
theorem SW.ext (w:SW W h os g fh q sc se sf oc oe ov n cs ds fs M ls)(e:Ext h h'):SW W h' os g fh q sc se sf oc oe ov n cs ds fs M ls:=w.frs (D:=λ_=>False) (FrS.ofExt e) λ_ _ _ z=>z
theorem SW.mono (w:SW W h os g fh q sc se sf oc oe ov n cs ds fs M ls){W':Nat->Prop}(hw:∀o,o<h.length->W o->W' o):SW W' h os g fh q sc se sf oc oe ov n cs ds fs M ls:=by
 have h1:=w.os_lt
 have:=w.o1
 have:=w.o2
 have:=w.o3
 refine ⟨w.row,w.gc,w.ge,w.gf,w.lc,w.le,w.lf,w.o1,w.o2,w.o3,hw _ oM w.wc,hw _ oM w.we,hw _ oM w.wv,hw _ h1 w.ws,?_⟩
 obtain ⟨Wq,q1,q2⟩:=w.qv
 exact ⟨Wq,λo z=>⟨⟨hw o (q1 o z).2 (q1 o z).1.1,(q1 o z).1.2⟩,(q1 o z).2⟩,q2⟩
theorem SW.setC (w:SW W h os g fh q sc se sf oc oe ov n cs ds fs M ls){y:Nat}(hy:y<n)(v:Int) :
  ∃h',stN 1 h (elP 1 sc y) (I v)=some h'/\SW W h' os g fh q sc se sf oc oe ov n (cs.set y v) ds fs M ls/\FrS (λo=>o=oc) h h':=by
 have:=w.o1
 have:=w.o2
 have:=w.o3
 obtain ⟨h',k1,k2,k3,k4⟩:=w.gc.write0 (i:=(y:Int)) (v:=I v) oM (by rw[List.length_map,w.lc]; omega) rfl rfl
 have f:FrS (λo=>o=oc) h h':=k3.s.mono λo z1 z2=>oM
 refine ⟨h',k1,⟨by rw[f.get oM w.os_lt]; exact w.row,k2.cong ?_,w.ge.frs f λo z1 z2=>oM,w.gf.frs f λo z1 z2=>oM,by rw[List.length_set]; exact w.lc,w.le,w.lf,w.o1,w.o2,w.o3,w.wc,w.we,w.wv,w.ws,w.qv.frs f λo z1 z2=>z2.2.1⟩,f⟩
 rw[List.map_set]; simp[encI]; rfl
theorem SW.setE (w:SW W h os g fh q sc se sf oc oe ov n cs ds fs M ls){y:Nat}(hy:y<n)(v:Int) :
  ∃h',stN 1 h (elP 1 se y) (I v)=some h'/\SW W h' os g fh q sc se sf oc oe ov n cs (ds.set y v) fs M ls/\FrS (λo=>o=oe) h h':=by
 have:=w.o1
 have:=w.o2
 have:=w.o3
 obtain ⟨h',k1,k2,k3,k4⟩:=w.ge.write0 (i:=(y:Int)) (v:=I v) oM (by rw[List.length_map,w.le]; omega) rfl rfl
 have f:FrS (λo=>o=oe) h h':=k3.s.mono λo z1 z2=>oM
 refine ⟨h',k1,⟨by rw[f.get oM w.os_lt]; exact w.row,w.gc.frs f λo z1 z2=>oM,k2.cong ?_,w.gf.frs f λo z1 z2=>oM,w.lc,by rw[List.length_set]; exact w.le,w.lf,w.o1,w.o2,w.o3,w.wc,w.we,w.wv,w.ws,w.qv.frs f λo z1 z2=>z2.2.2.1⟩,f⟩
 rw[List.map_set]; simp[encI]; rfl
theorem SW.setF (w:SW W h os g fh q sc se sf oc oe ov n cs ds fs M ls){y:Nat}(hy:y<n)(v:Int) :
  ∃h',stN 1 h (elP 1 sf y) (I v)=some h'/\SW W h' os g fh q sc se sf oc oe ov n cs ds (fs.set y v) M ls/\FrS (λo=>o=ov) h h':=by
 have:=w.o1
 have:=w.o2
 have:=w.o3
 obtain ⟨h',k1,k2,k3,k4⟩:=w.gf.write0 (i:=(y:Int)) (v:=I v) oM (by rw[List.length_map,w.lf]; omega) rfl rfl
 have f:FrS (λo=>o=ov) h h':=k3.s.mono λo z1 z2=>oM
 refine ⟨h',k1,⟨by rw[f.get oM w.os_lt]; exact w.row,w.gc.frs f λo z1 z2=>oM,w.ge.frs f λo z1 z2=>oM,k2.cong ?_,w.lc,w.le,by rw[List.length_set]; exact w.lf,w.o1,w.o2,w.o3,w.wc,w.we,w.wv,w.ws,w.qv.frs f λo z1 z2=>z2.2.2.2.1⟩,f⟩
 rw[List.map_set]; simp[encI]; rfl
theorem SW.setL (w:SW W h os g fh q sc se sf oc oe ov n cs ds fs M ls)(v:Int) :
  SW W (h.set os (.cells ⟨[g,fh,q,sc,se,sf,I v],0,0,false⟩)) os g fh q sc se sf oc oe ov n cs ds fs M v/\FrS (λo=>o=os) h (h.set os (.cells ⟨[g,fh,q,sc,se,sf,I v],0,0,false⟩)):=by
 have:=w.o1
 have:=w.o2
 have:=w.o3
 have f:FrS (λo=>o=os) h (h.set os (.cells ⟨[g,fh,q,sc,se,sf,I v],0,0,false⟩)):=⟨by simp,λp p1 p2=>a9_ λz=>p1 z.symm⟩
 exact ⟨⟨a0_ w.os_lt,w.gc.frs f λo z1 z2=>oM,w.ge.frs f λo z1 z2=>oM,w.gf.frs f λo z1 z2=>oM,w.lc,w.le,w.lf,w.o1,w.o2,w.o3,w.wc,w.we,w.wv,w.ws,w.qv.frs f λo z1 z2=>z2.2.2.2.2⟩,f⟩
theorem SQ.wide {P P':Nat->Prop}(v:SQ P h q N M)(hp:∀o,o<h.length->P o->P' o):SQ P' h q N M:=by
 obtain ⟨W,h1,h2⟩:=v
 exact ⟨W,λo z=>⟨hp o (h1 o z).2 (h1 o z).1,(h1 o z).2⟩,h2⟩
theorem SW.q' (w:SW W h os g fh q sc se sf oc oe ov n cs ds fs M ls)(f:FrS D h h')(hd:∀o,D o->o≠oc/\o≠oe/\o≠ov/\o≠os)(v:SQ (λo=>W o/\o≠oc/\o≠oe/\o≠ov/\o≠os) h' q n M'):SW W h' os g fh q sc se sf oc oe ov n cs ds fs M' ls:=by
 refine ⟨by rw[f.get (λz=>(hd _ z).2.2.2 rfl) w.os_lt]; exact w.row,w.gc.frs f λo q1 q2 z=>(hd o z).1 oM,w.ge.frs f λo q1 q2 z=>(hd o z).2.1 oM,w.gf.frs f λo q1 q2 z=>(hd o z).2.2.1 oM,w.lc,w.le,w.lf,w.o1,w.o2,w.o3,w.wc,w.we,w.wv,w.ws,v⟩
end
end Go.Gm.AZ
namespace Go.Gm.AZ
open Go Go.Gm
section
variable {h0 h:Heap} {g:AV} {N:Nat} {es:List E} {D:List (List Int)} {acc:List Bool}
def TrOk (N:Nat)(es:List E)(D:List (List Int))(t:Tr):Prop:=0<=t.1/\t.1<N/\0<=t.2.1/\t.2.1<D.length/\0<=t.2.2/\t.2.2<es.length
theorem b0o {N S:Nat}{v s:Int}(v0:0<=v)(v1:v<N)(s0:0<=s)(s1:s<S):0<=v*S+s/\v*S+s<((N*S:Nat):Int):=by
 have h1:0<=v*(S:Int):=Int.mul_nonneg v0 oM
 have h2:(v+1)*(S:Int)<=N*S:=Int.mul_le_mul_of_nonneg_right oM oM
 rw[Int.add_mul,Int.one_mul] at h2
 rw[Int.natCast_mul]
 omega
theorem c2R {W:Nat->Prop}{n:Nat}{ts:List Tr}{id k:Nat}{key ls:Int}(e0:Ext h0 hb)(hW:∀o,W o->h0.length<=o)(hWn:∀o,hb.length<=o->W o)(gv:GV h0 g N es D acc)(ok:DOk D acc)(co:COk es)(hN:N<=100000)(hn:n=N*D.length)(hn2:n<=1000000)(hg:GOk n 2147483647 A)(hts:∀t∈ts,TrOk N es D t)(hAt:∀t∈ts,hopOf es D.length t∈A id)(ht:∀h',FrS W hb h'->Sl h' 3 t46 (ts.map encT))(hid:id<n)(hl:ts.length<=10000000)(hc:gi cs id=key)(hk0:0<=key)(hk1:key<=k*2147483647)(hkn:k<n) :
  ∀(d i:Nat) (h:Heap) (ds fs:List Int) (M:List (Option Int)),i+d=ts.length->FrS W hb h->SW W h os g fh q sc se sf oc oe ov n cs ds fs M ls->DI n 2147483647 A st id ((ts.drop i).map (hopOf es D.length)) (gf cs) (gf M) (gf ds) (gf fs) rk (k+1)->
   WP (λp:Nat × Nat=>p4_ p.1 p.2 (.ptr os 0 7 0) (I id) (I key) t46 (I ts.length) (I i) h) λr h'=>r=.tup [I id,.bool true]/\FrS W hb h'/\
    ∃ds2 fs2 M2,SW W h' os g fh q sc se sf oc oe ov n cs ds2 fs2 M2 ls/\DI n 2147483647 A st id [] (gf cs) (gf M2) (gf ds2) (gf fs2) rk (k+1):=by
 obtain ⟨sE,a,sD,sA,sB,B,k1,k2,k3,k4,k5,k6,k7,k8⟩:=gv.ex
 intro d
 induction d with
 |zero=>
  intro i h ds fs M h1 f w di
  refine WP.rnd (a3D · · ..) ?_
  rw[List.drop_eq_nil_of_le oM] at di
  refine g0 ?_
  refine WP.congr (λp=>a8l p.1 ..) ?_
  exact WP.ret ⟨rfl,f,ds,fs,M,w,di⟩
 |succ d ih=>
  intro i h ds fs M h1 f w di
  refine WP.rnd (a3D · · ..) ?_
  obtain ⟨t,hti⟩:∃t,gi ts i=t:=⟨_,rfl⟩
  have htm:t∈ts:=hti▸b7_ oM oM
  obtain ⟨t1,t2,t3,t4,t5,t6⟩:=hts t htm
  have hdr:ts.drop i=t::ts.drop (i+1):=by
   rw[List.drop_eq_getElem_cons oM]
   congr 1
   rw[<-hti,b2_ oM]
  rw[hdr,List.map_cons] at di
  obtain ⟨sp1,sp2⟩:=b0o (S:=D.length) t1 t2 t3 t4
  obtain ⟨y,hy⟩:∃y:Nat,t.1*(D.length:Int)+t.2.1=y:=⟨(t.1*(D.length:Int)+t.2.1).toNat,oM⟩
  obtain ⟨ed,hed⟩:∃ed,gi es t.2.2=ed:=⟨_,rfl⟩
  have hco:=co.c _ (b7_ (xs:=es) t5 t6)
  rw[hed] at hco
  have hho:hopOf es D.length t=(y,t.2.2.toNat,ed.co):=by
   simp only[hopOf,hed,hy]; rfl
  rw[hho] at di
  have hyn:y<n:=oM
  have hA:(y,t.2.2.toNat,ed.co)∈A id:=hho▸hAt t htm
  have ex:Ext h0 h:=f.ext e0 λo q1 q2=>by have:=hW o q2; omega
  have hlo:=ex.len
  have hlb:=f.len
  have hos:=w.os_lt
  have st:=ht h f
  have hl2:((h++[AObj.cells ⟨[I 0,I 0,I 0],0,0,false⟩]).set h.length (.cells ⟨[I t.1,I t.2.1,I t.2.2],0,0,false⟩)).length=h.length+1:=by simp
  obtain ⟨h2,hh2⟩:∃h2,h2=((h++[AObj.cells ⟨[I 0,I 0,I 0],0,0,false⟩]).set h.length (.cells ⟨[I t.1,I t.2.1,I t.2.2],0,0,false⟩)):=⟨_,rfl⟩
  have e2:Ext h h2:=by rw[hh2]; exact eX
  have r2:h2[h.length]?=some (.cells ⟨[I t.1,I t.2.1,I t.2.2],0,0,false⟩):=by rw[hh2]; exact a0_ (by simp)
  rw[<-hh2] at hl2
  have w2:=w.ext e2
  have ro2:=w2.row
  have ro1:=w.row
  refine g5 st.idxG st.ldN @hti @encT.eq_1 @ro1 ?_
  rw[show I 0=I 0 from rfl,<-hh2]
  refine WP.call (b2v (gv.ext (ex.trans e2)) ok t1 oM t3 (by have:=ok.l1; omega)) ?_
  rintro _ h3 ⟨rfl,e3⟩
  rw[hy]
  have w3:=w2.ext e3
  have ro3:=w3.row
  have r3:=e3.get r2
  have hl3:=e3.len
  have ex3:=(ex.trans e2).trans e3
  have f3:FrS W hb h3:=f.trans ((FrS.ofExt e2).trans (FrS.ofExt e3))
  by_cases hcy:0<=gi cs y
  ·refine g5 @ro3 w3.gc.sl.idxG w3.gc.sl.ld0 @encI.eq_1 w3.lc ?_
   exact ih (i+1) h3 ds fs M oM f3 w3 (di.skip (.inl hcy))
  ·have hcm:=di.neg y hyn hcy
   have hkb:(k:Int)*2147483647<=1000000*2147483647:=oM
   have k1':=k1.ext (e0.trans (Ext.refl _))
   have ey:=k1.ext ex3
   have e2s:=(k2.ext ex3)
   have hq3:SQ (λo=>(W o/\o≠oc/\o≠oe/\o≠ov/\o≠os)/\o≠h.length) h3 q n M:=((w.qv.wide (P':=λo=>(W o/\o≠oc/\o≠oe/\o≠ov/\o≠os)/\o≠h.length) λo o1 o2=>⟨o2,oM⟩).ext e2).ext e3
   have hmu:=hq3.put hn2 (λo ho=>⟨⟨hWn o oM,by have:=w3.o1; have:=w3.o2; have:=w3.o3; have:=w3.os_lt; omega⟩,oM⟩) (y:Int) (key+ed.co)
   refine g14 @ro3 w3.gc.sl.idxG w3.gc.sl.ld0 @encI.eq_1 w3.lc @r3 ey.nil ey.fldA0 ey.fldAf ey.ldfE e2s.idxG e2s.ldf @hed @encE.eq_1 ?_
   refine WP.call hmu ?_
   rintro _ h4 ⟨rfl,v4,f4⟩
   have w4:=w3.q' f4 (λo z=>z.1.2) (v4.wide λo _ z=>z.1)
   have f4b:FrS W hb h4:=f3.trans (f4.mono λo _ z=>z.1.1)
   have hml:=w.qv.lm
   have gy:gf M y=gi M y:=rfl
   have skip:∀v,gi M y=some v->v<=key+ed.co->putM n M y (key+ed.co)=(M,false):=by
    intro v h1 h2
    rw[putM,if_pos ⟨oM,oM⟩,h1]
    exact if_pos h2
   have put:(∀v,gi M y=some v->¬v<=key+ed.co)->putM n M y (key+ed.co)=(M.set y (some (key+ed.co)),true):=by
    intro h1
    rw[putM,if_pos ⟨oM,oM⟩]
    cases hm:gi M (y:Int) with
    |none=>rfl
    |some v=>exact if_neg (h1 v hm)
   by_cases hm:∃v,gi M y=some v/\v<=key+ed.co
   ·obtain ⟨v,m1,m2⟩:=hm
    rw[skip v m1 m2] at w4 ⊢
    refine g0 ?_
    refine ih (i+1) h4 ds fs M oM f4b w4 (di.skip (.inr ⟨v,m1,?_⟩))
    show v<=gi cs id+ed.co
    omega
   ·have m1:∀v,gi M y=some v->¬v<=key+ed.co:=λv z1 z2=>hm ⟨v,z1,z2⟩
    rw[put m1] at w4 ⊢
    have ro4:=w4.row
    have r4:h4[h.length]?=some (.cells ⟨[I t.1,I t.2.1,I t.2.2],0,0,false⟩):=by rw[f4.get (λz=>z.2 rfl) oM]; exact r3
    obtain ⟨h5,s1,w5,f5⟩:=w4.setE hyn t.2.2
    obtain ⟨h6,s2,w6,f6⟩:=w5.setF hyn id
    refine g8 @ro4 @r4 w4.ge.sl.idxG w4.gf.sl.idxG w4.le w4.lf @s1 @s2 ?_
    refine ih (i+1) h6 _ _ _ oM ((f4b.trans (f5.mono λo _ z=>z▸w.we)).trans (f6.mono λo _ z=>z▸w.wv)) w6 ?_
    have:=di.put hg hid (by show 0<=gi cs id; omega) hA (by show gi cs y<0; omega) (λv z=>by have:=m1 v z; show gi cs id+ed.co<v; omega) (by show gi cs id<=_; omega)
    rw[show gf (M.set y (some (key+ed.co)))=_ from gset oM _,show gf (ds.set y t.2.2)=_ from gset (by rw[w.le]; omega) _,show gf (fs.set y (id:Int))=_ from gset (by rw[w.lf]; omega) _]
    have hcc:gf cs id=key:=hc
    have hti2:((t.2.2.toNat:Nat):Int)=t.2.2:=oM
    rw[hcc,hti2] at this
    exact this
end
end Go.Gm.AZ
namespace Go.Gm.AZ
open Go Go.Gm
section
variable {h0 h:Heap} {g:AV} {N:Nat} {es:List E} {D:List (List Int)} {acc:List Bool}
structure HopsOk (h0:Heap) (g:AV) (N:Nat) (es:List E) (D:List (List Int)) (fh:FuncId) (L:Int->Int->List Tr):Prop where
 call:∀h,Ext h0 h->∀v s:Int,0<=v->v<N->0<=s->s<D.length->Tot tab fh [g,.agg [I v,I s]] h λr h'=>Ext h h'/\Gr h.length h'.length h' 3 r ((L v s).map encT)
 tr:∀v s:Int,0<=v->v<N->0<=s->s<D.length->∀t∈L v s,TrOk N es D t
 len:∀v s:Int,0<=v->v<N->0<=s->s<D.length->(L v s).length<=10000000
theorem dm {N S x:Nat}(hx:x<N*S):x / S<N/\x % S<S:=by
 have h1:0<S:=by
  rcases Nat.eq_zero_or_pos S with q|q
  ·subst q; simp at hx
  ·exact q
 exact ⟨(Nat.div_lt_iff_lt_mul h1).2 hx,Nat.mod_lt _ h1⟩
theorem HopsOk.gok (hh:HopsOk h0 g N es D fh L)(co:COk es):GOk (N*D.length) 2147483647 (hopA es D.length L):=by
 refine ⟨oM,λx hx y e w hm=>?_⟩
 obtain ⟨q1,q2⟩:=dm hx
 obtain ⟨t,ht,h1⟩:=List.mem_map.1 hm
 obtain ⟨t1,t2,t3,t4,t5,t6⟩:=hh.tr _ _ (Int.natCast_nonneg _) (Int.ofNat_lt.2 q1) (Int.natCast_nonneg _) (Int.ofNat_lt.2 q2) t ht
 have hs:=b0o (S:=D.length) t1 t2 t3 t4
 have hc:=co.c _ (b7_ (xs:=es) t5 t6)
 simp only[hopOf] at h1
 cases h1
 exact ⟨oM,hc.1,hc.2⟩
theorem b9N {n:Nat}{c:Nat->Int}{y:Nat}(hy:y<n)(hc:c y<0):1<=un n c:=by
 have h1:=m1_ n (up c y 0)
 rw[un_up hy (Int.le_refl 0),if_pos hc] at h1
 omega
theorem b1Q {W:Nat->Prop}{n:Nat}{st:Nat->Prop}(e0:Ext h0 h)(hW:∀o,W o->h0.length<=o)(gv:GV h0 g N es D acc)(ok:DOk D acc)(co:COk es)(hN:N<=100000)(hn:n=N*D.length)(hn2:n<=1000000)(hh:HopsOk h0 g N es D fh L)(hst:∀x,st x->x<n)(w:SW W h os g (.fn fh [] []) q sc se sf oc oe ov n cs ds fs M ls)(di:DI n 2147483647 (hopA es D.length L) st id0 [] (gf cs) (gf M) (gf ds) (gf fs) rk k)(hk:un n (gf cs)+k=n) :
  Tot tab h7_ [.ptr os 0 7 0] h λr h'=>FrS W h h'/\
   ((r=.tup [I 0,.bool false]/\(∀x:Nat,x<n->gf M x=none)/\SW (λo=>W o\/h.length<=o) h' os g (.fn fh [] []) q sc se sf oc oe ov n cs ds fs M ls)\/
    ∃id key ds2 fs2 M2 rk2,id<n/\gf M id=some key/\(∀z:Nat,z<n->∀u,gf M z=some u->key<=u)/\r=.tup [I id,.bool true]/\SW (λo=>W o\/h.length<=o) h' os g (.fn fh [] []) q sc se sf oc oe ov n (cs.set id key) ds2 fs2 M2 key/\
     DI n 2147483647 (hopA es D.length L) st id [] (gf (cs.set id key)) (gf M2) (gf ds2) (gf fs2) rk2 (k+1)/\un n (gf (cs.set id key))+((k+1:Nat):Int)=n):=by
 have hg:=hh.gok co
 rw[<-hn] at hg
 have hml:=w.qv.lm
 have wa:SW (λo=>W o/\o<h.length) h os g (.fn fh [] []) q sc se sf oc oe ov n cs ds fs M ls:=w.mono λo z1 z2=>⟨z2,z1⟩
 refine WP.tot (b0f · ..) ?_
 have ro:=w.row
 refine g1 @ro ?_
 refine WP.call (wa.qv.pop hn2) ?_
 rintro r h1 ⟨M2,pq,v1,f1⟩
 have w1:=wa.q' f1 (λo z=>z.2) v1
 have ro1:=w1.row
 have f1W:FrS W h h1:=f1.mono λo _ z=>z.1.1
 rcases pq with ⟨p1,rfl,rfl⟩|⟨idI,key,p1,rfl,rfl⟩
 ·refine g3 @a4_ @a5_ @a6Z ?_
  refine WP.ret ⟨f1W,.inl ⟨rfl,λx hx=>b0Y p1 oM oM,w1.mono λo _ z=>.inl z.1⟩⟩
 ·obtain ⟨id,rfl⟩:∃id:Nat,idI=id:=⟨idI.toNat,by have:=p1.i0; omega⟩
  have hid:id<n:=by have:=p1.i1; omega
  have hmin:∀z:Nat,z<n->∀u,gf M z=some u->key<=u:=by
   intro z hz u hu
   have:=p1.m z u oM oM hu
   simp only[ltI] at this
   omega
  have di2:=di.pop hg hst hid p1.k hmin
  obtain ⟨q1,q2,q3⟩:=di.que id hid key p1.k
  have hk1:=di.bnd id hid key (.inr p1.k)
  have hup:=b9N (c:=gf cs) hid oM
  have hkn:k<n:=oM
  rw[show (id:Int).toNat=id by omega] at w1
  obtain ⟨h2,s2,w2,f2⟩:=w1.setC hid key
  have ro2:=w2.row
  obtain ⟨w3,f3⟩:=w2.setL key
  obtain ⟨h3,hh3⟩:∃h3,h3=h2.set os (.cells ⟨[g,.fn fh [] [],q,sc,se,sf,I key],0,0,false⟩):=⟨_,rfl⟩
  rw[<-hh3] at w3 f3
  have ro3:=w3.row
  have f3W:FrS W h h3:=(f1W.trans (f2.mono λo _ z=>z▸w.wc)).trans (f3.mono λo _ z=>z▸w.ws)
  have ex3:Ext h0 h3:=f3W.ext e0 λo z1 z2=>by have:=hW o z2; omega
  have gr1:Gr oc (oc+1) h1 1 sc (cs.map encI):=w1.gc
  refine g8 @a4_ @a5_ @a6Z @ro1 gr1.sl.idxG w.lc @s2 @ro2 ?_
  rw[<-hh3]
  refine g1 @ro3 ?_
  refine WP.call (b4W (gv.ext ex3) ok oM) ?_
  rintro _ h4 ⟨rfl,e4⟩
  have w4:=w3.ext e4
  have ro4:=w4.row
  obtain ⟨d1,d2⟩:=dm (N:=N) (S:=D.length) (hn▸hid)
  refine g1 @ro4 ?_
  refine WP.call (hh.call h4 (ex3.trans e4) _ _ (Int.natCast_nonneg _) (Int.ofNat_lt.2 d1) (Int.natCast_nonneg _) (Int.ofNat_lt.2 d2)) ?_
  rintro t46 h5 ⟨e5,g5⟩
  have w5:=w4.ext e5
  refine g1 g5.sl.lenG ?_
  have hl5:h.length<=h5.length:=by have:=f3W.len; have:=e4.len; have:=e5.len; omega
  have hl4:h.length<=h4.length:=by have:=f3W.len; have:=e4.len; omega
  have w6:=w5.mono (W':=λo=>(W o/\o<h.length)\/h5.length<=o) λo _ z=>.inl z
  have hcid:gi (cs.set id key) (id:Int)=key:=by
   rw[show (id:Int)=((id:Nat):Int) from rfl]
   have:=congrFun (gset (xs:=cs) (y:=id) (by rw[w.lc]; exact hid) key) id
   rw[if_pos rfl] at this
   exact this
  have hA:∀t∈L ((id / D.length:Nat):Int) ((id % D.length:Nat):Int),hopOf es D.length t∈hopA es D.length L id:=λt z=>List.mem_map_of_mem z
  refine WP.ent ((c2R (W:=λo=>(W o/\o<h.length)\/h5.length<=o) (hb:=h5) (st:=st) (A:=hopA es D.length L) (rk:=λx=>if x=id then k else rk x) (k:=k) ((ex3.trans e4).trans e5)
   (λo z=>?_) (λo z=>.inr z) gv ok co hN hn hn2 hg (hh.tr _ _ (Int.natCast_nonneg _) (Int.ofNat_lt.2 d1) (Int.natCast_nonneg _) (Int.ofNat_lt.2 d2)) hA (λh' fr=>?_) hid (hh.len _ _ (Int.natCast_nonneg _) (Int.ofNat_lt.2 d1) (Int.natCast_nonneg _) (Int.ofNat_lt.2 d2)) hcid q2 hk1 hkn _ 0 h5 _ _ _ (Nat.zero_add _) (FrS.refl _ _) w6 ?_).mono ?_) λi=>rfl
  ·rcases z with z|z
   ·exact hW o z.1
   ·have:=(((ex3.trans e4).trans e5)).len; omega
  ·exact (g5.frs fr λo z1 z2 z3=>by rcases z3 with z3|z3<;>omega).sl
  ·rw[List.drop_zero,show gf (cs.set id key)=_ from gset (by rw[w.lc]; exact hid) _,show gf (M.set id none)=_ from gset oM _]
   exact di2
  ·rintro r h6 ⟨rfl,f6,ds2,fs2,M3,w7,d7⟩
   have f5W:FrS W h h5:=(f3W.trans (FrS.ofExt e4)).trans (FrS.ofExt e5)
   refine ⟨f5W.trans (f6.mono λo z1 z2=>?_),.inr ⟨id,key,ds2,fs2,M3,_,hid,p1.k,hmin,rfl,w7.mono λo z1 z2=>?_,d7,?_⟩⟩
   ·rcases z2 with z2|z2
    ·exact z2.1
    ·omega
   ·rcases z2 with z2|z2
    ·exact .inl z2.1
    ·exact .inr oM
   ·have:gf (cs.set id key)=up (gf cs) id key:=gset (by rw[w.lc]; exact hid) _
    rw[this,un_up hid q2,if_pos (by show gf cs id<0; omega)]
    omega
end
end Go.Gm.AZ
namespace Go.Gm.AZ
open Go Go.Gm
section
variable {h0 h:Heap} {g:AV} {N:Nat} {es:List E} {D:List (List Int)} {acc:List Bool}
theorem c4L {W:Nat->Prop}{n:Nat}{st:Nat->Prop}(e0:Ext h0 hb)(hW:∀o,W o->h0.length<=o)(hWn:∀o,hb.length<=o->W o)(gv:GV h0 g N es D acc)(ok:DOk D acc)(co:COk es)(hN:N<=100000)(hn:n=N*D.length)(hn2:n<=1000000)(hh:HopsOk h0 g N es D fh L)(hst:∀x,st x->x<n) :
  ∀(d:Nat) (h:Heap) (id0 k:Nat) (ls:Int) (rk:Nat->Nat) (cs ds fs:List Int) (M:List (Option Int)),n<=d+k->FrS W hb h->SW W h os g (.fn fh [] []) q sc se sf oc oe ov n cs ds fs M ls->DI n 2147483647 (hopA es D.length L) st id0 [] (gf cs) (gf M) (gf ds) (gf fs) rk k->un n (gf cs)+k=n->
   WP (λp:Nat × Nat=>z7_ p.1 p.2 (.ptr os 0 7 0) h) λr h'=>r=.tup []/\FrS W hb h'/\∃id2 k2 ls2 rk2 cs2 ds2 fs2 M2,SW W h' os g (.fn fh [] []) q sc se sf oc oe ov n cs2 ds2 fs2 M2 ls2/\
    DI n 2147483647 (hopA es D.length L) st id2 [] (gf cs2) (gf M2) (gf ds2) (gf fs2) rk2 k2/\(∀x:Nat,x<n->gf M2 x=none)/\un n (gf cs2)+(k2:Int)=n:=by
 intro d
 induction d with
 |zero=>
  intro h id0 k ls rk cs ds fs M hd f w di hk
  refine WP.rnd (a3W · · ..) ?_
  have ex:Ext h0 h:=f.ext e0 λo q1 q2=>by have:=hW o q2; omega
  have hb2:=f.len
  refine WP.call (b1Q ex hW gv ok co hN hn hn2 hh hst w di hk) ?_
  rintro r h2 ⟨f2,⟨rfl,m,w2⟩|⟨id,key,ds2,fs2,M2,rk2,i1,i2,_,rfl,w2,d2,k2⟩⟩
  ·refine g2 @a4_ @a5_ ?_
   exact WP.ret ⟨rfl,f.trans f2,id0,k,ls,rk,cs,ds,fs,M,w2.mono λo _ z=>z.elim (λz=>z) λz=>hWn o oM,di,m,hk⟩
  ·have:=m1_ n (gf (cs.set id key))
   omega
 |succ d ih=>
  intro h id0 k ls rk cs ds fs M hd f w di hk
  refine WP.rnd (a3W · · ..) ?_
  have ex:Ext h0 h:=f.ext e0 λo q1 q2=>by have:=hW o q2; omega
  have hb2:=f.len
  refine WP.call (b1Q ex hW gv ok co hN hn hn2 hh hst w di hk) ?_
  rintro r h2 ⟨f2,⟨rfl,m,w2⟩|⟨id,key,ds2,fs2,M2,rk2,i1,i2,_,rfl,w2,d2,k2⟩⟩
  ·refine g2 @a4_ @a5_ ?_
   exact WP.ret ⟨rfl,f.trans f2,id0,k,ls,rk,cs,ds,fs,M,w2.mono λo _ z=>z.elim (λz=>z) λz=>hWn o oM,di,m,hk⟩
  ·refine g2 @a4_ @a5_ ?_
   exact ih h2 id (k+1) key rk2 _ ds2 fs2 M2 oM (f.trans f2) (w2.mono λo _ z=>z.elim (λz=>z) λz=>hWn o oM) d2 k2
theorem b0Z {W:Nat->Prop}{n:Nat}{st:Nat->Prop}(e0:Ext h0 h)(hW:∀o,W o->h0.length<=o)(gv:GV h0 g N es D acc)(ok:DOk D acc)(co:COk es)(hN:N<=100000)(hn:n=N*D.length)(hn2:n<=1000000)(hh:HopsOk h0 g N es D fh L)(hst:∀x,st x->x<n)(w:SW W h os g (.fn fh [] []) q sc se sf oc oe ov n cs ds fs M ls)(di:DI n 2147483647 (hopA es D.length L) st id0 [] (gf cs) (gf M) (gf ds) (gf fs) rk k)(hk:un n (gf cs)+k=n) :
  Tot tab i7_ [.ptr os 0 7 0] h λr h'=>r=.tup []/\FrS W h h'/\∃id2 k2 ls2 rk2 cs2 ds2 fs2 M2,SW (λo=>W o\/h.length<=o) h' os g (.fn fh [] []) q sc se sf oc oe ov n cs2 ds2 fs2 M2 ls2/\
    DI n 2147483647 (hopA es D.length L) st id2 [] (gf cs2) (gf M2) (gf ds2) (gf fs2) rk2 k2/\(∀x:Nat,x<n->gf M2 x=none)/\un n (gf cs2)+(k2:Int)=n:=by
 refine WP.tot (b0y · ..) ?_
 refine WP.ent ((c4L (W:=λo=>W o\/h.length<=o) e0 (λo z=>z.elim (hW o) λz=>by have:=e0.len; omega) (λo z=>.inr z) gv ok co hN hn hn2 hh hst n h id0 k ls rk cs ds fs M oM (FrS.refl _ _) (w.mono λo _ z=>.inl z) di hk).mono ?_) λi=>rfl
 rintro r h' ⟨rfl,f,z⟩
 exact ⟨rfl,f.mono λo z1 z2=>z2.elim (λz=>z) λz=>oM,z⟩
def encP2 (p:Int × Int):List AV:=[I p.1,I p.2]
theorem b5S {n:Nat}{c:Nat->Int}(hc:∀x,x<n->c x = -1):un n c=n:=by
 have:un n c=sumN (λ_=>(1:Int)) n:=a4w n λx hx=>by rw[if_pos (by have:=hc x hx; omega)]
 rw[this]
 clear this hc
 induction n with
 |zero=>rfl
 |succ n ih=>rw[sumN,ih]; omega
theorem DI.start {n:Nat}{st:Nat->Prop}{c e f:Nat->Int}{m:Nat->Option Int}(hc:∀x,x<n->c x = -1)(hf:∀x,x<n->f x = -1)(hm:∀x,x<n->(st x/\m x=some 0)\/(¬st x/\m x=none)):DI n W A st 0 [] c m e f (λ_=>0) 0:=by
 refine ⟨λx hx h=>?_,λx hx _=>hc x hx,λx hx v h=>?_,λx hx h=>?_,λx hx h=>?_,λx y hx hy h=>?_,λy hy v h=>?_,λx hx h=>?_,λx hx v h=>?_,λx hx h=>?_⟩
 ·have:=hc x hx; omega
 ·rcases hm x hx with ⟨m1,m2⟩|⟨m1,m2⟩
  ·rw[m2] at h
   injection h with h
   subst h
   exact ⟨hc x hx,Int.le_refl _,[],.nil m1⟩
  ·rw[m2] at h; cases h
 ·have:=hc x hx; omega
 ·rcases hm x hx with ⟨m1,m2⟩|⟨m1,m2⟩
  ·exact .inr m2
  ·exact absurd h m1
 ·have:=hc x hx; omega
 ·rcases h with h|h
  ·have:=hc y hy; omega
  ·rcases hm y hy with ⟨m1,m2⟩|⟨m1,m2⟩
   ·rw[m2] at h
    injection h with h
    exact .inl ⟨hf y hy,m1,h.symm⟩
   ·rw[m2] at h; cases h
 ·have:=hc x hx; omega
 ·rcases h with h|h
  ·have:=hc x hx; omega
  ·rcases hm x hx with ⟨m1,m2⟩|⟨m1,m2⟩
   ·rw[m2] at h
    injection h with h
    subst h
    simp
   ·rw[m2] at h; cases h
 ·have:=hc x hx; omega
end
end Go.Gm.AZ
namespace Go.Gm.AZ
open Go Go.Gm
section
variable {h0 h:Heap} {g:AV} {N:Nat} {es:List E} {D:List (List Int)} {acc:List Bool}
def atSt (S:Nat)(al:List (Int × Int))(x:Nat):Prop:=∃a∈al,a.1*S+a.2=(x:Int)
theorem c1v {W:Nat->Prop}{os oc oe ov n:Nat}{al:List (Int × Int)}{Q:AV->Heap->Prop}(gv:GV hb g N es D acc)(ok:DOk D acc)(hN:N<=100000)(hn:n=N*D.length)(hn2:n<=1000000)(hWn:∀o,hb.length<=o->W o)(hW:∀o,W o->hb.length<=o)(ha:Sl hb 2 atv (al.map encP2))(has:∀a∈al,0<=a.1/\a.1<N/\0<=a.2/\a.2<D.length)(hal:al.length<=100000) :
  ∀(d i:Nat) (h:Heap) (M:List (Option Int)),i+d=al.length->Ext hb h->SW W h os g fh q sc se sf oc oe ov n cs ds fs M 0->(∀x:Nat,x<n->(atSt D.length (al.take i) x/\gf M x=some 0)\/(¬atSt D.length (al.take i) x/\gf M x=none))->
   (∀h' M',Ext hb h'->SW W h' os g fh q sc se sf oc oe ov n cs ds fs M' 0->(∀x:Nat,x<n->(atSt D.length al x/\gf M' x=some 0)\/(¬atSt D.length al x/\gf M' x=none))->Q (.ptr os 0 7 0) h')->
   WP (λp:Nat × Nat=>x8_ p.1 p.2 g (.ptr os 0 7 0) atv (I al.length) (I i) h) Q:=by
 intro d
 induction d with
 |zero=>
  intro i h M h1 e w hm hQ
  refine WP.rnd (a3v · · ..) ?_
  rw[List.take_of_length_le oM] at hm
  refine g0 ?_
  exact WP.ret (hQ h M e w hm)
 |succ d ih=>
  intro i h M h1 e w hm hQ
  refine WP.rnd (a3v · · ..) ?_
  obtain ⟨a,hai⟩:∃a,gi al i=a:=⟨_,rfl⟩
  obtain ⟨a1,a2,a3,a4⟩:=has a (hai▸b7_ oM oM)
  obtain ⟨sp1,sp2⟩:=b0o (S:=D.length) a1 a2 a3 a4
  obtain ⟨y,hy⟩:∃y:Nat,a.1*(D.length:Int)+a.2=y:=⟨(a.1*(D.length:Int)+a.2).toNat,oM⟩
  have hyn:y<n:=oM
  have htk:al.take (i+1)=al.take i++[a]:=by
   rw[List.take_add_one,show al[i]?=some a by
    have:=c1_ (xs:=al) (i:=(i:Int)) oM oM
    rw[hai] at this; simpa using this]
   rfl
  have hos:=w.os_lt
  have hlb:=e.len
  have hl2:((h++[AObj.cells ⟨[I 0,I 0],0,0,false⟩]).set h.length (.cells ⟨[I a.1,I a.2],0,0,false⟩)).length=h.length+1:=by simp
  obtain ⟨h2,hh2⟩:∃h2,h2=((h++[AObj.cells ⟨[I 0,I 0],0,0,false⟩]).set h.length (.cells ⟨[I a.1,I a.2],0,0,false⟩)):=⟨_,rfl⟩
  have e2:Ext h h2:=by rw[hh2]; exact eX
  rw[<-hh2] at hl2
  have w2:=w.ext e2
  have ro:=w.row
  refine g5 ha.idxG ha.ldN @hai @encP2.eq_1 @ro ?_
  rw[show I 0=I 0 from rfl,<-hh2]
  refine WP.call (b2v (gv.ext (e.trans e2)) ok a1 oM a3 (by have:=ok.l1; omega)) ?_
  rintro _ h3 ⟨rfl,e3⟩
  rw[hy]
  have w3:=w2.ext e3
  have ro2:=w2.row
  have ro3:=w3.row
  have hl3:=e3.len
  refine g2 @ro2 @ro3 ?_
  have o1:=w3.o1
  have o2:=w3.o2
  have o3:=w3.o3
  refine WP.call (w3.qv.put hn2 (λo ho=>⟨hWn o oM,oM⟩) (y:Int) 0) ?_
  rintro _ h4 ⟨rfl,v4,f4⟩
  have w4:=w3.q' f4 (λo z=>z.2) v4
  have hml:=w.qv.lm
  have e4:Ext hb h4:=f4.ext ((e.trans e2).trans e3) λo q1 q2=>by have:=hW o q2.1; omega
  refine ih (i+1) h4 _ oM e4 w4 ?_ hQ
  have key:∀x:Nat,atSt D.length (al.take (i+1)) x↔atSt D.length (al.take i) x\/x=y:=by
   intro x
   rw[htk]
   constructor
   ·rintro ⟨b,b1,b2⟩
    rcases List.mem_append.1 b1 with b1|b1
    ·exact .inl ⟨b,b1,b2⟩
    ·obtain rfl:=List.mem_singleton.1 b1
     right; omega
   ·rintro (⟨b,b1,b2⟩|rfl)
    ·exact ⟨b,List.mem_append.2 (.inl b1),b2⟩
    ·exact ⟨a,List.mem_append.2 (.inr (List.mem_singleton.2 rfl)),hy⟩
  intro x hx
  rw[key x]
  rcases hm y hyn with ⟨m1,m2⟩|⟨m1,m2⟩
  ·have hp:putM n M y 0=(M,false):=by
    rw[putM,if_pos ⟨oM,oM⟩,show gi M (y:Int)=some 0 from m2]
    rfl
   rw[hp]
   rcases hm x hx with ⟨n1,n2⟩|⟨n1,n2⟩
   ·exact .inl ⟨.inl n1,n2⟩
   ·refine .inr ⟨λz=>?_,n2⟩
    rcases z with z|z
    ·exact n1 z
    ·exact n1 (z▸m1)
  ·have hp:putM n M y 0=(M.set y (some 0),true):=by
    rw[putM,if_pos ⟨oM,oM⟩,show gi M (y:Int)=none from m2]
    rfl
   rw[hp]
   show (_/\gf (M.set y (some 0)) x=_)\/(_/\gf (M.set y (some 0)) x=_)
   rw[show gf (M.set y (some 0))=_ from gset oM _]
   by_cases qx:x=y
   ·left
    exact ⟨.inr qx,if_pos qx⟩
   ·simp only[if_neg qx]
    rcases hm x hx with ⟨n1,n2⟩|⟨n1,n2⟩
    ·exact .inl ⟨.inl n1,n2⟩
    ·exact .inr ⟨λz=>z.elim n1 qx,n2⟩
theorem c1w {hb:Heap}{W:Nat->Prop}{os oc oe ov n:Nat}(hn2:n<=1000000)(hW:∀o,W o->hb.length<=o)(hQ:∀h cs ds fs,Ext hb h->SW W h os g fh q sc se sf oc oe ov n cs ds fs M 0->(∀x:Nat,x<n->gf cs x = -1/\gf ds x = -1/\gf fs x = -1)->WP (λi:Nat=>a1E i g atv (.ptr os 0 7 0) h) Q) :
  ∀(d i:Nat) (h:Heap) (cs ds fs:List Int),i+d=n->Ext hb h->SW W h os g fh q sc se sf oc oe ov n cs ds fs M 0->(∀x:Nat,x<i->gf cs x = -1/\gf ds x = -1/\gf fs x = -1)->
   WP (λp:Nat × Nat=>x7_ p.1 p.2 g atv (.ptr os 0 7 0) (I n) (I i) h) Q:=by
 intro d
 induction d with
 |zero=>
  intro i h cs ds fs h1 e w hm
  refine WP.rnd (a3w · · ..) ?_
  obtain rfl:i=n:=oM
  refine g0 ?_
  exact WP.lv (hQ h cs ds fs e w hm) λi j=>rfl
 |succ d ih=>
  intro i h cs ds fs h1 e w hm
  refine WP.rnd (a3w · · ..) ?_
  have hin:i<n:=oM
  have ro:=w.row
  obtain ⟨h2,s2,w2,f2⟩:=w.setC hin (-1)
  obtain ⟨h3,s3,w3,f3⟩:=w2.setE hin (-1)
  obtain ⟨h4,s4,w4,f4⟩:=w3.setF hin (-1)
  have gc:=w.gc.sl
  have ge:=w.ge.sl
  have gf':=w.gf.sl
  refine g10 @ro gc.idxG ge.idxG gf'.idxG w.lc w.le w.lf @s2 @s3 @s4 ?_
  have e2:=f2.ext e λo q1 q2=>by have:=hW _ w.wc; omega
  have e3:=f3.ext e2 λo q1 q2=>by have:=hW _ w.we; omega
  have e4:=f4.ext e3 λo q1 q2=>by have:=hW _ w.wv; omega
  refine ih (i+1) h4 _ _ _ oM e4 w4 λx hx=>?_
  have lc:=w.lc
  have le:=w.le
  have lf:=w.lf
  rw[show gf (cs.set i (-1))=_ from gset oM _,show gf (ds.set i (-1))=_ from gset oM _,show gf (fs.set i (-1))=_ from gset oM _]
  by_cases qx:x=i
  ·simp[qx]
  ·simp only[if_neg qx]
   exact hm x oM
theorem a5L {al:List (Int × Int)}(gv:GV h g N es D acc)(ok:DOk D acc)(hN:N<=100000){n:Nat}(hn:n=N*D.length)(hn2:n<=1000000)(ha:Sl h 2 atv (al.map encP2))(has:∀a∈al,0<=a.1/\a.1<N/\0<=a.2/\a.2<D.length)(hal:al.length<=100000)(A:Nat->List Hop) :
  Tot tab e1_ [g,.fn fh [] [],atv] h λr h'=>Ext h h'/\∃os q sc se sf oc oe ov cs ds fs M,r=.ptr os 0 7 0/\SW (λo=>h.length<=o) h' os g (.fn fh [] []) q sc se sf oc oe ov n cs ds fs M 0/\
   DI n 2147483647 A (atSt D.length al) 0 [] (gf cs) (gf M) (gf ds) (gf fs) (λ_=>0) 0/\un n (gf cs)+(0:Nat)=n:=by
 obtain ⟨sE,a,sD,sA,sB,B,k1,k2,k3,k4,k5,k6,k7,k8⟩:=gv.ex
 refine WP.tot (b0a · ..) ?_
 have hw:IntKind.i64.wrap ((N:Int)*(D.length:Int))=(n:Int):=by
  rw[hn,Int.natCast_mul]
  have:=ok.l1
  refine d6_ ?_ ?_
  ·have:0<=(N:Int)*(D.length:Int):=Int.mul_nonneg oM oM
   omega
  ·have:(N:Int)*(D.length:Int)<=100000*2000:=Int.mul_le_mul oM oM oM oM
   omega
 obtain ⟨s1,h1,a1,g1,e1,_,l1⟩:=g0_ (zero:=[I 0]) (sz:=1) (bytes:=8) (n:=(n:Int)) h oM oM oM rfl rfl
 obtain ⟨s2,h2,a2,g2,e2,_,l2⟩:=g0_ (zero:=[I 0]) (sz:=1) (bytes:=8) (n:=(n:Int)) h1 oM oM oM rfl rfl
 obtain ⟨s3,h3,a3,g3,e3,_,l3⟩:=g0_ (zero:=[I 0]) (sz:=1) (bytes:=8) (n:=(n:Int)) h2 oM oM oM rfl rfl
 have hre:List.replicate (n:Int).toNat [I 0]=(List.replicate n (0:Int)).map encI:=by simp[encI,I]
 rw[hre] at g1 g2 g3
 have mx:max (N:Int) 0=N:=oM
 refine g11 k1.nil k1.fldA0 k1.fldAf k1.ld0 k1.ldfE k4.lenG @hw @a1 @a2 @a3 @mx ?_
 refine WP.call (b4V n hn2 h3) ?_
 rintro q h4 ⟨v4,e4⟩
 have l4:=e4.len
 have hqp:q.one=true/\q.cells=[q]:=by
  obtain ⟨oq,_,_,hq,_⟩:=v4
  rw[hq]; exact ⟨rfl,rfl⟩
 have hgp:g.one=true/\g.cells=[g]:=by
  obtain ⟨_,_,_,_,_,hq,_⟩:=k1
  rw[hq]; exact ⟨rfl,rfl⟩
 obtain ⟨fv,hfv⟩:∃fv,fv=AV.fn fh [] []:=⟨_,rfl⟩
 have hfp:fv.one=true/\fv.cells=[fv]:=by rw[hfv]; exact ⟨rfl,rfl⟩
 rw[<-hfv]
 simp -implicitDefEqProofs (maxSteps:=1000000) (disch:=first|assumption|omega|(simp only[gL]<;>omega)|((repeat (first|exact Ext.refl _|assumption|apply Ext.app|apply Ext.mk|(refine Ext.setr ?_ (by (first|omega|(simp only[gL]<;>omega))) _))); done)|(simp only[gL,gA,hqp.1,hqp.2,hgp.1,hgp.2,hfp.1,hfp.2,g1.sl.one,g1.sl.cells,g2.sl.one,g2.sl.cells,g3.sl.one,g3.sl.cells]<;>omega)|fail) only[gB,setAll,partL,fldV,reduceIte,Nat.reduceAdd,Nat.reduceMul,hqp.1,hqp.2,hgp.1,hgp.2,hfp.1,hfp.2,g1.sl.one,g1.sl.cells,g2.sl.one,g2.sl.cells,g3.sl.one,g3.sl.cells]
 obtain ⟨h5,hh5⟩:∃h5,h5=h4++[AObj.cells ⟨[g,fv,q,s1,s2,s3,I 0],0,0,false⟩]:=⟨_,rfl⟩
 have e5:Ext h4 h5:=by rw[hh5]; exact Ext.push _ _
 have ro:h5[h4.length]?=some (.cells ⟨[g,fv,q,s1,s2,s3,I 0],0,0,false⟩):=by rw[hh5]; simp
 rw[<-hh5]
 have e35:=e4.trans e5
 have e05:=((e1.trans e2).trans e3).trans e35
 have w:SW (λo=>h.length<=o) h5 h4.length g fv q s1 s2 s3 h.length h1.length h2.length n (List.replicate n 0) (List.replicate n 0) (List.replicate n 0) (List.replicate n none) 0:=by
  refine ⟨ro,((g1.ext e2).ext e3).ext e35,(g2.ext e3).ext e35,g3.ext e35,by simp,by simp,by simp,oM,oM,oM,Nat.le_refl _,by show h.length<=_; omega,by show h.length<=_; omega,by show h.length<=_; omega,?_⟩
  refine (SQ.ext (P:=λo=>(h.length<=o/\o≠h.length/\o≠h1.length/\o≠h2.length/\o≠h4.length)) (v4.sq λo z1 z2=>?_) e5)
  omega
 simp -implicitDefEqProofs (disch:=first|assumption|omega|(simp only[gL,gA]<;>omega)|fail) only[cG,reduceIte,ro,w.gc.sl.lenG,List.length_replicate]
 rw[hfv] at w ⊢
 refine WP.ent (c1w (hb:=h) (W:=λo=>h.length<=o) (n:=n) hn2 (λo z=>z) (λh6 cs ds fs e6 w6 m6=>?_) n 0 h5 _ _ _ oM e05 w λx hx=>oM) λi=>rfl
 refine WP.congr (a8e · ..) ?_
 simp -implicitDefEqProofs (disch:=first|assumption|omega|(simp only[gL,gA]<;>omega)|fail) only[cG,reduceIte,ha.lenG]
 refine WP.ent (c1v gv ok hN hn hn2 (W:=fun o=>h.length<=o) (hb:=h) (fun o z=>z) (fun o z=>z) ha has hal al.length 0 h6 _ (by omega) e6 w6 (fun x hx=>?_) fun h7 M7 e7 w7 m7=>?_) fun i=>rfl
 ·refine .inr ⟨λ⟨b,b1,b2⟩=>by simp at b1,?_⟩
  show gi (List.replicate n none) (x:Int)=none
  exact w2_ oM oM
 ·exact ⟨e7,_,q,s1,s2,s3,_,_,_,cs,ds,fs,M7,rfl,w7,DI.start (λx hx=>(m6 x hx).1) (λx hx=>(m6 x hx).2.2) m7,by rw[b5S λx hx=>(m6 x hx).1]; omega⟩
end
end Go.Gm.AZ
namespace Go.Gm.AZ
open Go Go.Gm
def JI (hb:Heap)(q:Nat)(sB:AV)(S:Nat)(X:Nat × Nat->List Int)(h:Heap):Prop:=
 ∃B:List (List AV),Gr q (q+1) h 5 sB (B.map id)/\B.length=S/\(∀t:Nat,t<S->(gi B t).length=5)/\
  Fam (λo=>hb.length<=o) h 1 (λt:Nat × Nat=>t.1<S/\t.2<5) (λt=>gi (gi B t.1) t.2) (λt=>(X t).map encI)/\FrS (λo=>o=q\/hb.length<=o) hb h
theorem giset2 {α:Type}[Inhabited α]{xs:List α}{i j:Nat}(hi:i<xs.length)(x:α):gi (xs.set i x) (j:Int)=if j=i then x else gi xs j:=congrFun (gset hi x) j
theorem JI.step {hb h:Heap}{q:Nat}{sB:AV}{S:Nat}{X:Nat × Nat->List Int}(j:JI hb q sB S X h)(hq:q<hb.length){to m:Nat}(ht:to<S)(hm:m<5)(v:Int)(hl:(X (to,m)).length<=100000) :
  ∃p s1 s2 h2 h3,idxS 5 sB (I to)=some (elP 5 sB to)/\idxA 5 1 (elP 5 sB to) (I m)=some p/\ld1 h p=some s1/\apnd 1 8 s1 (.sl h.length 0 1 1 none 0) (h++[AObj.cells ⟨[I v],0,0,false⟩])=some (s2,h2)/\stN 1 h2 p s2=some h3/\
   JI hb q sB S (λt=>if t=(to,m) then X t++[v] else X t) h3/\FrS (λo=>hb.length<=o) h h2:=by
 obtain ⟨B,g,lB,rB,f,fr⟩:=j
 have hlb:=fr.len
 obtain ⟨p,p1,p2,p3⟩:=cellA (H:=h) g.sl (Ext.refl _) (i:=(to:Int)) (j:=(m:Int)) oM oM oM oM
 have r5:=rB to ht
 have p2':ld1 h p=some (gi (gi B to) m):=by
  rw[p2,id,List.getD_eq_getElem?_getD,c1_ oM oM]; rfl
 have b1:Sl (h++[AObj.cells ⟨[I v],0,0,false⟩]) 1 (.sl h.length 0 1 1 none 0) [[I v]]:=by
  have:=(Gr.lit (h:=h) (sz:=1) (v:=[I v]) rfl).sl
  rwa [a3_] at this
 have e1:Ext h (h++[AObj.cells ⟨[I v],0,0,false⟩]):=Ext.push _ _
 have f':Fam (λo=>hb.length<=o) (h++[AObj.cells ⟨[I v],0,0,false⟩]) 1 (λt:Nat × Nat=>t.1<S/\t.2<5) (λt=>gi (gi B t.1) t.2) (λt=>(X t).map encI):=f.frs (D:=λ_=>False) (FrS.ofExt e1) λ_ _ _ z=>z
 obtain ⟨s2,h2,k1,k2,k3,k4⟩:=f'.append (bytes:=8) (t:=(to,m)) ⟨ht,hm⟩ b1 (by simp) oM oM (by simp; omega)
 have g2:=(g.ext e1).frs k4 λo z1 z2=>oM
 have c2:s2.cells=[s2]:=by
  have:=(k3.sl (t:=(to,m)) ⟨ht,hm⟩).cells
  simpa using this
 obtain ⟨h3,n1,n2,n3,n4⟩:=g2.write (i:=(to:Int)) oM (x:=gi B to) (by rw[List.map_id,c1_ oM oM]) m 1 (v:=s2) (by rw[c2]; rfl) oM (by rw[c2]; simp[k2])
 refine ⟨p,_,s2,h2,h3,g.sl.idxG oM oM,p1,p2',k1,?_,?_,?_⟩
 ·rw[p3,show ((m:Int)).toNat=m by omega]; exact n1
 ·have hlq:=k4.len
  have f3:=k3.frs n3.s (λo z1 z2 z3=>by rcases z2 with z2|z2<;>simp only[List.length_append] at *<;>omega)
  refine ⟨B.set to (setAll (gi B to) m [s2]),?_,by rw[List.length_set]; exact lB,λt ht'=>?_,?_,?_⟩
  ·refine n2.cong ?_
   rw[c2,List.map_id,List.map_id,show ((to:Int)).toNat=to by omega]
  ·rw[giset2 oM]
   by_cases qt:t=to
   ·rw[if_pos qt]; simp[setAll,r5]
   ·rw[if_neg qt]; exact rB t ht'
  ·refine (f3.mono λo z1 z2=>?_).congr λt ht'=>⟨?_,?_⟩
   ·rcases z2 with z2|z2
    ·exact z2
    ·simp only[List.length_append] at z2; omega
   ·show gi (gi (B.set to (setAll (gi B to) m [s2])) t.1) t.2=if t=(to,m) then s2 else gi (gi B t.1) t.2
    rw[giset2 oM]
    obtain ⟨t1,t2⟩:=t
    by_cases qt:t1=to
    ·subst qt
     simp only[if_true,setAll]
     rw[giset2 oM]
     by_cases q2:t2=m
     ·subst q2; simp
     ·rw[if_neg q2,if_neg (by simp[q2])]
    ·rw[if_neg qt,if_neg (by simp[qt])]
   ·show (if t=(to,m) then X t++[v] else X t).map encI=if t=(to,m) then (X (to,m)).map encI++[[I v]] else (X t).map encI
    by_cases qt:t=(to,m)
    ·subst qt; simp[encI]
    ·rw[if_neg qt,if_neg qt]
  ·have z1:FrS (λo=>o=q\/hb.length<=o) h (h++[AObj.cells ⟨[I v],0,0,false⟩]):=FrS.ofExt e1
   exact ((fr.trans z1).trans (k4.mono λo _ z=>.inr z)).trans (n3.s.mono λo _ z=>.inl oM)
 ·exact (FrS.ofExt e1).trans k4
theorem b8P (D:List (List Int))(t m:Int)(n:Nat):befTo D t m (n+1)=befTo D t m n++if nx D n m=t then [(n:Int)] else []:=by
 simp only[befTo,List.range_succ,List.filter_append,List.map_append]
 congr 1
 by_cases h:nx D n m=t<;>simp[h]
theorem a9H (D:List (List Int))(t m:Int)(n:Nat):(befTo D t m n).length<=n:=by
 simp only[befTo,List.length_map]
 exact Nat.le_trans (List.length_filter_le ..) (by simp)
section
variable {h0 h:Heap} {g:AV} {N:Nat} {es:List E} {D:List (List Int)} {acc:List Bool}
def XX (D:List (List Int))(n m:Nat)(t:Nat × Nat):List Int:=befTo D t.1 t.2 n++if t.2<m/\nx D n t.2=t.1 then [(n:Int)] else []
theorem b5V {r:List Int}{m:Nat}(hr:r.length=5)(hm:m<5):ixA 5 1 none (.agg (encR r)) (I m)=some (I (gi r m)):=by
 rw[ixA_i oM oM]
 simp only[partL,encR,List.getElem?_map,Nat.mul_one]
 rw[c1_ oM oM]; rfl
theorem c2Z {hb:Heap}{q og n:Nat}{sE a sD sA sB t21 t22:AV}(ok:DOk D acc)(hq:q<hb.length)(hog:og<hb.length)(hne:og≠q)(hrow:hb[og]?=some (.cells ⟨[I N,sE,a,sD,sA,sB],0,0,false⟩))(hn:n<D.length)(hQ:∀h,JI hb q sB D.length (XX D n 5) h->WP (λp:Nat × Nat=>a1v p.1 p.2 (.ptr og 0 6 0) t21 t22 (I (n+1)) h) Q) :
  ∀(d m:Nat) (h:Heap),m+d=5->JI hb q sB D.length (XX D n m) h->
   WP (λp:(Nat × Nat) × Nat=>a3u p.1.1 p.1.2 p.2 (.ptr og 0 6 0) (I n) t21 t22 (I n) (.agg (encR (gi D n))) (I m) h) Q:=by
 have l1:=ok.l1
 intro d
 induction d with
 |zero=>
  intro m h h1 w
  refine WP.rnd (λi j=>a7i i.1 i.2 j ..) ?_
  obtain rfl:m=5:=oM
  refine g0 ?_
  exact WP.lv (hQ h w) λi j=>rfl
 |succ d ih=>
  intro m h h1 w
  refine WP.rnd (λi j=>a7i i.1 i.2 j ..) ?_
  have hr5:=ok.row n oM oM
  obtain ⟨u0,u1⟩:=ok.to n m oM oM oM oM
  obtain ⟨to,hto⟩:∃to:Nat,gi (gi D n) m=to:=⟨(gi (gi D n) m).toNat,oM⟩
  have htl:to<D.length:=oM
  have hX:(XX D n m (to,m)).length<=100000:=by
   have:=a9H D to m n
   simp only[XX,List.length_append]
   split<;>simp<;>omega
  obtain ⟨p,s1,s2,h2,h3,k1,k2,k3,k4,k5,k6,k7⟩:=w.step hq htl (m:=m) oM n hX
  have fr:FrS (λo=>o=q\/hb.length<=o) hb h:=w.choose_spec.2.2.2.2
  have hlb:=fr.len
  have r1:h[og]?=some (.cells ⟨[I N,sE,a,sD,sA,sB],0,0,false⟩):=by rw[fr.get oM hog]; exact hrow
  have r2:h2[og]?=some (.cells ⟨[I N,sE,a,sD,sA,sB],0,0,false⟩):=by rw[k7.get oM oM]; exact r1
  refine g9 (b5V hr5 (show m<5 by omega)) @hto @r1 @k1 @k2 @k3 @k4 @r2 @k5 ?_
  refine ih (m+1) h3 oM ?_
  have:(λt=>if t=(to,m) then XX D n m t++[(n:Int)] else XX D n m t)=XX D n (m+1):=by
   funext t
   obtain ⟨t1,t2⟩:=t
   try simp only[XX]
   by_cases q1:t2=m
   ·subst q1
    by_cases q2:t1=to
    ·subst q2
     rw[if_pos rfl,if_neg oM,if_pos ⟨oM,hto⟩,List.append_nil]
    ·rw[if_neg (by simp[q2]),if_neg oM,if_neg]
     rintro ⟨_,z⟩
     rw[nx,hto] at z
     omega
   ·rw[if_neg (by simp[q1])]
    congr 1
    by_cases q3:nx D n t2=t1
    ·by_cases q4:t2<m
     ·rw[if_pos ⟨q4,q3⟩,if_pos ⟨oM,q3⟩]
     ·rw[if_neg (λz=>q4 z.1),if_neg (λz=>oM)]
    ·rw[if_neg (λz=>q3 z.2),if_neg (λz=>q3 z.2)]
  rw[<-this]
  exact k6
theorem c3a (D:List (List Int))(n:Nat)(t:Nat × Nat)(h:t.2<5):XX D n 5 t=XX D (n+1) 0 t:=by
 try simp only[XX]
 rw[b8P,if_neg (λz:t.2<0/\_=>oM),List.append_nil]
 congr 1
 by_cases q:nx D n t.2=t.1
 ·rw[if_pos ⟨h,q⟩,if_pos q]
 ·rw[if_neg (λz=>q z.2),if_neg q]
theorem JI.congr {hb h:Heap}{q:Nat}{sB:AV}{S:Nat}{X Y:Nat × Nat->List Int}(j:JI hb q sB S X h)(e:∀t:Nat × Nat,t.2<5->Y t=X t):JI hb q sB S Y h:=by
 obtain ⟨B,g,lB,rB,f,fr⟩:=j
 exact ⟨B,g,lB,rB,f.congr λt ht=>⟨rfl,by rw[e t ht.2]⟩,fr⟩
theorem JI.ext {hb h h':Heap}{q:Nat}{sB:AV}{S:Nat}{X:Nat × Nat->List Int}(j:JI hb q sB S X h)(e:Ext h h'):JI hb q sB S X h':=by
 obtain ⟨B,g,lB,rB,f,fr⟩:=j
 exact ⟨B,g.ext e,lB,rB,f.frs (D:=λ_=>False) (FrS.ofExt e) (λ_ _ _ z=>z),fr.trans (FrS.ofExt e)⟩
theorem c3b {hb:Heap}{q og:Nat}{sE a sD sA sB:AV}(ok:DOk D acc)(hq:q<hb.length)(hog:og<hb.length)(hne:og≠q)(hrow:hb[og]?=some (.cells ⟨[I N,sE,a,sD,sA,sB],0,0,false⟩))(hD:∀h,FrS (λo=>o=q\/hb.length<=o) hb h->Sl h 5 sD (D.map encR)){Q:AV->Heap->Prop}(hQ:∀h,JI hb q sB D.length (XX D D.length 0) h->Q (.ptr og 0 6 0) h) :
  ∀(d n:Nat) (h:Heap),n+d=D.length->JI hb q sB D.length (XX D n 0) h->WP (λp:Nat × Nat=>a1v p.1 p.2 (.ptr og 0 6 0) sD (I D.length) (I n) h) Q:=by
 have l1:=ok.l1
 intro d
 induction d with
 |zero=>
  intro n h h1 w
  refine WP.rnd (a7j · · ..) ?_
  obtain rfl:n=D.length:=oM
  refine g0 ?_
  exact WP.ret (hQ h w)
 |succ d ih=>
  intro n h h1 w
  refine WP.rnd (a7j · · ..) ?_
  have fr:FrS (λo=>o=q\/hb.length<=o) hb h:=w.choose_spec.2.2.2.2
  have sl:=hD h fr
  have hr5:=ok.row n oM oM
  obtain ⟨r,hr⟩:∃r,encR (gi D n)=r:=⟨_,rfl⟩
  obtain ⟨x0,x1,x2,x3,x4,hx⟩:∃x0 x1 x2 x3 x4,gi D n=[x0,x1,x2,x3,x4]:=by
   generalize gi D n=l at hr5
   match l,hr5 with
   |[x0,x1,x2,x3,x4],_=>exact ⟨x0,x1,x2,x3,x4,rfl⟩
  simp -implicitDefEqProofs (disch:=first|assumption|omega|exact Ext.refl _|(simp only[gL,gA]<;>omega)|fail) only[cG,reduceIte,sl.idxG,sl.ldN,hx,encR,List.map_cons,List.map_nil]
  obtain ⟨h2,hh2⟩:∃h2,h2=((h++[AObj.cells ⟨[I 0,I 0,I 0,I 0,I 0],0,0,false⟩]).set h.length (.cells ⟨[I x0,I x1,I x2,I x3,I x4],0,0,false⟩)):=⟨_,rfl⟩
  have e2:Ext h h2:=by rw[hh2]; exact eX
  rw[<-hh2]
  refine WP.ent (c2Z ok hq hog hne hrow (n:=n) oM (t21:=sD) (t22:=I D.length) (λh w2=>?_) 5 0 h2 oM (w.ext e2)) λi=>?_
  ·exact ih (n+1) h oM (w2.congr λt ht=>(c3a D n t ht).symm)
  ·rw[hx]; rfl
theorem a9I (no:NetOk N es)(hs:Sl h 4 sE (es.map encE))(ok:DOk D acc)(hD:Sl h 5 sD (D.map encR))(hA:Sl h 1 sA (acc.map encB)) :
  Tot tab x3_ [.agg [I N,sE],.agg [sD,sA]] h λr h'=>Ext h h'/\GV h' r N es D acc:=by
 refine WP.tot (b3Z · ..) ?_
 obtain ⟨h1,hh1⟩:∃h1,h1=(h++[AObj.cells ⟨[I N,sE],0,0,false⟩])++[AObj.cells ⟨[sD,sA],0,0,false⟩]:=⟨_,rfl⟩
 have l1:=ok.l1
 have hl1:h1.length=h.length+2:=by rw[hh1]; simp
 have e1:Ext h h1:=by rw[hh1]; exact eX
 have r0:h1[h.length]?=some (.cells ⟨[I N,sE],0,0,false⟩):=by rw[hh1]; simp
 have r1:h1[h.length+1]?=some (.cells ⟨[sD,sA],0,0,false⟩):=by rw[hh1]; simp
 obtain ⟨sB,h2,k1,k2,k3,k4,k5⟩:=g0_ (zero:=[.nils,.nils,.nils,.nils,.nils]) (sz:=5) (bytes:=120) (n:=(D.length:Int)) h1 oM oM oM rfl rfl
 have hsD:=(hD.ext e1).ext k3
 refine g7 hs.one hs.cells hD.one hD.cells hA.one hA.cells hD.lenG ?_
 rw[<-hh1]
 refine g1 @k1 ?_
 refine WP.call (b4X no (hs.ext (e1.trans k3))) ?_
 rintro _ h3 ⟨e3,hadj,oa,hoa,rfl⟩
 have l3:=e3.len
 obtain ⟨h4,hh4⟩:∃h4,h4=h3++[AObj.cells ⟨[I N,sE,.ptr oa 0 4 0,sD,sA,sB],0,0,false⟩]:=⟨_,rfl⟩
 have e4:Ext h3 h4:=by rw[hh4]; exact Ext.push _ _
 have hl4:h4.length=h3.length+1:=by rw[hh4]; simp
 have ro:h4[h3.length]?=some (.cells ⟨[I N,sE,.ptr oa 0 4 0,sD,sA,sB],0,0,false⟩):=by rw[hh4]; simp
 have r03:=e3.get (k3.get r0)
 have r13:=e3.get (k3.get r1)
 have r14:=e4.get r13
 have one1:=hs.one
 refine g10 @r03 @r13 k2.sl.one k2.sl.cells hs.one hs.cells hD.one hD.cells hA.one hA.cells ?_
 rw[<-hh4]
 refine g2 @r14 hD.lenG ?_
 have e14:=(e1.trans k3).trans (e3.trans e4)
 refine WP.ent (c3b (hb:=h4) (q:=h1.length) (og:=h3.length) (sE:=sE) (a:=.ptr oa 0 4 0) (sA:=sA) (sB:=sB) ok oM oM oM ro (λh' f=>hD.ext (f.ext e14 λo z1 z2=>oM)) (λh' w=>?_) D.length 0 h4 oM ?_) λi=>rfl
 ·obtain ⟨B,g,lB,rB,f,fr⟩:=w
  have eh:Ext h h':=fr.ext e14 λo z1 z2=>oM
  have ho:h'[h3.length]?=some (.cells ⟨[I N,sE,.ptr oa 0 4 0,sD,sA,sB],0,0,false⟩):=by rw[fr.get oM oM]; exact ro
  refine ⟨eh,⟨sE,.ptr oa 0 4 0,sD,sA,sB,B,At.row ho (Nat.le_refl _) rfl,hs.ext eh,hadj h' λo z1 z2=>?_,hD.ext eh,hA.ext eh,g.sl,lB,λt m t0 t1 m0 m1=>⟨?_,?_⟩⟩⟩
  ·rw[fr.get oM oM,hh4,m2_ z2]
  ·have:=rB t.toNat oM
   rwa [show ((t.toNat:Nat):Int)=t by omega] at this
  ·have:=f.sl (t:=(t.toNat,m.toNat)) ⟨by show t.toNat<_; omega,by show m.toNat<5; omega⟩
   simp only[XX] at this
   rw[if_neg (λz=>oM),List.append_nil,show ((t.toNat:Nat):Int)=t by omega,show ((m.toNat:Nat):Int)=m by omega] at this
   exact this
 ·refine ⟨List.replicate D.length [.nils,.nils,.nils,.nils,.nils],?_,by simp,λt ht=>?_,Fam.nil _ _ _ λt ht=>⟨?_,?_⟩,FrS.refl _ _⟩
  ·refine ((k2.ext e3).ext e4).cong ?_
   rw[List.map_id]; simp
  ·rw[w2_ oM oM]; rfl
  ·rw[w2_ oM oM]
   match t.2,ht.2 with
   |0,_=>rfl
   |1,_=>rfl
   |2,_=>rfl
   |3,_=>rfl
   |4,_=>rfl
  ·simp[XX,befTo]
end
end Go.Gm.AZ
namespace Go.Gm.AZ
open Go Go.Gm
def bv (c:Nat->Int)(acc:List Bool)(b:Nat):Nat->Int
 |0=>-1
 |s+1=>if gi acc s=true/\0<=c (b+s)/\(bv c acc b s<0\/c (b+s)<bv c acc b s) then c (b+s) else bv c acc b s
def BestQ (c:Nat->Int)(acc:List Bool)(b n:Nat)(out:Int):Prop:=
 (out = -1/\bv c acc b n = -1)\/∃q:Nat,q<n/\out=((b+q:Nat):Int)/\gi acc q=true/\0<=c (b+q)/\bv c acc b n=c (b+q)
theorem BestQ.skip (h:BestQ c acc b n out)(hn:¬(gi acc n=true/\0<=c (b+n)/\(bv c acc b n<0\/c (b+n)<bv c acc b n))):BestQ c acc b (n+1) out:=by
 have e:bv c acc b (n+1)=bv c acc b n:=if_neg hn
 rcases h with ⟨h1,h2⟩|⟨q,h1,h2,h3,h4,h5⟩
 ·exact .inl ⟨h1,by rw[e]; exact h2⟩
 ·exact .inr ⟨q,oM,h2,h3,h4,by rw[e]; exact h5⟩
theorem BestQ.take {c:Nat->Int}{b n:Nat}(h1:gi acc n=true)(h2:0<=c (b+n))(h3:bv c acc b n<0\/c (b+n)<bv c acc b n):BestQ c acc b (n+1) ((b+n:Nat):Int):=
 .inr ⟨n,oM,rfl,h1,h2,if_pos ⟨h1,h2,h3⟩⟩
theorem BestQ.neg (h:BestQ c acc b n out):(out<0↔bv c acc b n<0)/\(out<0->out = -1/\bv c acc b n = -1)/\(¬out<0->out=(out.toNat:Int)/\b<=out.toNat/\out.toNat<b+n/\c out.toNat=bv c acc b n/\gi acc (out-b)=true):=by
 rcases h with ⟨rfl,h2⟩|⟨q,h1,rfl,h3,h4,h5⟩
 ·exact ⟨oM,λ_=>⟨rfl,h2⟩,λz=>absurd oM z⟩
 ·refine ⟨oM,λz=>oM,λ_=>⟨oM,oM,oM,?_,?_⟩⟩
  ·rw[h5,Int.toNat_natCast]
  ·rw[show ((b+q:Nat):Int)-b=q by omega]; exact h3
def costL (N S:Nat)(c:Nat->Int)(acc:List Bool):List Int:=(List.range N).map λv=>bv c acc (v*S) S
theorem i0_ (N S:Nat)(c:Nat->Int)(acc:List Bool):(costL N S c acc).length=N:=by simp[costL]
theorem j6_ {N S:Nat}{v:Nat}(hv:v<N):gi (costL N S c acc) (v:Int)=bv c acc (v*S) S:=by
 rw[b2_ (by simpa [costL] using hv)]
 simp[costL]
theorem spotN {N S v s:Nat}(hv:v<N)(hs:s<S):v*S+s<N*S:=by
 have:(v+1)*S<=N*S:=Nat.mul_le_mul_right _ hv
 rw[Nat.add_mul,Nat.one_mul] at this
 omega
section
variable {h0 h:Heap} {g:AV} {N:Nat} {es:List E} {D:List (List Int)} {acc:List Bool}
theorem c3c {os oc oe ov n v:Nat}(gv:GV hb g N es D acc)(ok:DOk D acc)(hN:N<=100000)(hn:n=N*D.length)(hn2:n<=1000000)(hv:v<N)(hA:Sl hb 1 sA (acc.map encB))(w0:SW W hb os g fh q sc se sf oc oe ov n cs ds fs M ls) :
  ∀(d i:Nat) (h:Heap) (out:Int),i+d=acc.length->Ext hb h->BestQ (gf cs) acc (v*D.length) i out->
   WP (λp:Nat × Nat=>p0_ p.1 p.2 (.ptr os 0 7 0) (I v) (I out) sA (I acc.length) (I i) h) λr h'=>Ext hb h'/\∃out,r=I out/\BestQ (gf cs) acc (v*D.length) acc.length out:=by
 have la:=ok.la
 have l1:=ok.l1
 intro d
 induction d with
 |zero=>
  intro i h out h1 e b
  refine WP.rnd (a3x · · ..) ?_
  obtain rfl:i=acc.length:=oM
  refine g0 ?_
  exact WP.ret ⟨e,out,rfl,b⟩
 |succ d ih=>
  intro i h out h1 e b
  refine WP.rnd (a3x · · ..) ?_
  have w:=w0.ext e
  have ro:=w.row
  have hsp:=spotN (S:=D.length) hv (show i<D.length by omega)
  rw[<-hn] at hsp
  have hcast:(v:Int)*(D.length:Int)+(i:Int)=((v*D.length+i:Nat):Int):=by push_cast; rfl
  refine g4 hA.idxG hA.ld0 @encB.eq_1 @ro ?_
  refine WP.call (b2v (gv.ext e) ok (v:=(v:Int)) (s:=(i:Int)) oM oM oM oM) ?_
  rintro _ h2 ⟨rfl,e2⟩
  rw[hcast]
  have w2:=w.ext e2
  have ro2:=w2.row
  have lc:=w2.lc
  obtain ⟨x,hx⟩:∃x,v*D.length+i=x:=⟨_,rfl⟩
  rw[hx] at hsp ⊢
  have e02:=e.trans e2
  obtain ⟨bn1,bn2,bn3⟩:=b.neg
  have bq:gf cs x=gi cs (x:Int):=rfl
  cases hac:gi acc (i:Int) with
  |false=>
   refine g1 @ro2 ?_
   exact ih (i+1) h2 out oM e02 (b.skip λz=>by rw[hac] at z; cases z.1)
  |true=>
   by_cases hc0:0<=gi cs (x:Int)
   ·by_cases ho:out<0
    ·refine g4 @ro2 w2.gc.sl.idxG w2.gc.sl.ld0 @encI.eq_1 ?_
     refine ih (i+1) h2 _ oM e02 ?_
     rw[<-hx]
     exact BestQ.take hac (by rw[hx]; exact hc0) (.inl (bn1.1 ho))
    ·obtain ⟨o1,o2,o3,o4,o5⟩:=bn3 ho
     have hob:v*D.length+i<=n:=oM
     have o4':gi cs out=bv (gf cs) acc (v*D.length) i:=by rw[<-o4]; show gi cs out=gi cs ((out.toNat:Nat):Int); rw[<-o1]
     by_cases hlt:gi cs (x:Int)<gi cs out
     ·refine g4 @ro2 w2.gc.sl.idxG w2.gc.sl.ld0 @encI.eq_1 ?_
      refine ih (i+1) h2 _ oM e02 ?_
      rw[<-hx]
      exact BestQ.take hac (by rw[hx]; exact hc0) (.inr (by rw[hx,<-o4']; exact hlt))
     ·refine g4 @ro2 w2.gc.sl.idxG w2.gc.sl.ld0 @encI.eq_1 ?_
      refine ih (i+1) h2 out oM e02 (b.skip λz=>?_)
      rw[hx,bq,<-o4'] at z
      omega
   ·refine g4 @ro2 w2.gc.sl.idxG w2.gc.sl.ld0 @encI.eq_1 ?_
    exact ih (i+1) h2 out oM e02 (b.skip λz=>hc0 (by rw[hx] at z; exact z.2.1))
theorem b4Z {os oc oe ov n v:Nat}(gv:GV h g N es D acc)(ok:DOk D acc)(hN:N<=100000)(hn:n=N*D.length)(hn2:n<=1000000)(hv:v<N)(w:SW W h os g fh q sc se sf oc oe ov n cs ds fs M ls) :
  Tot tab r3_ [.ptr os 0 7 0,I v] h λr h'=>Ext h h'/\∃out,r=I out/\BestQ (gf cs) acc (v*D.length) D.length out:=by
 obtain ⟨sE,a,sD,sA,sB,B,k1,k2,k3,k4,k5,k6,k7,k8⟩:=gv.ex
 refine WP.tot (b0b · ..) ?_
 have ro:=w.row
 refine g6 @ro k1.nil k1.fldA0 k1.fldAf k1.ldfE k5.lenG ?_
 refine WP.ent ((c3c gv ok hN hn hn2 hv k5 w acc.length 0 h (-1) oM (Ext.refl _) (.inl ⟨rfl,rfl⟩)).mono ?_) λi=>rfl
 rintro r h' ⟨e,out,rfl,b⟩
 rw[ok.la] at b
 exact ⟨e,out,rfl,b⟩
theorem a7b {S:Nat}{v:Nat}{x:Nat}:atSt S [((v:Int),0)] x↔x=v*S:=by
 constructor
 ·rintro ⟨b,b1,b2⟩
  obtain rfl:=List.mem_singleton.1 b1
  simp only[Int.add_zero] at b2
  have:((v*S:Nat):Int)=(x:Int):=by rw[Int.natCast_mul]; exact b2
  omega
 ·rintro rfl
  exact ⟨_,List.mem_singleton.2 rfl,by simp⟩
theorem a6x (gv:GV h0 g N es D acc)(ok:DOk D acc)(no:NetOk N es):HopsOk h0 g N es D e7_ (onL es D):=by
 refine ⟨λh e v s v0 v1 s0 s1=>c2Q (gv.ext e) ok no s0 s1,λv s v0 v1 s0 s1 t ht=>?_,λv s v0 v1 s0 s1=>?_⟩
 ·obtain ⟨k,hk,rfl⟩:=List.mem_map.1 ht
  obtain ⟨k0,k1,_⟩:=q8_.1 hk
  have he:=no.edge _ (b7_ k0 k1)
  have ht:=ok.to s (gi es k).md s0 s1 he.2.2.2.2.1 he.2.2.2.2.2
  exact ⟨he.2.2.1,he.2.2.2.1,ht.1,ht.2,k0,k1⟩
 ·rw[onL,List.length_map]
  have:=o0_ (λe=>e.fr == v) es es.length
  have:=no.len
  show (idxTo _ es es.length).length<=_
  omega
theorem b5X {W:Nat->Prop}{os oc oe ov n oo:Nat}(gv:GV h0 g N es D acc)(ok:DOk D acc)(hN:N<=100000)(hn:n=N*D.length)(hn2:n<=1000000)(hoo:h0.length<=oo)(hWo:¬W oo) :
  ∀(d i:Nat) (h:Heap) (xs:List Int),i+d=N->Ext h0 h->SW W h os g fh q sc se sf oc oe ov n cs ds fs M ls->Gr oo (oo+1) h 1 o (xs.map encI)->xs.length=N->(∀u:Nat,u<i->gi xs (u:Int)=bv (gf cs) acc (u*D.length) D.length)->
   WP (λp:Nat × Nat=>a0D p.1 p.2 (.ptr os 0 7 0) o (I N) (I i) h) λr h'=>Ext h0 h'/\Gr oo (oo+1) h' 1 r ((costL N D.length (gf cs) acc).map encI):=by
 intro d
 induction d with
 |zero=>
  intro i h xs h1 e w gr lx hx
  refine WP.rnd (a6r · · ..) ?_
  obtain rfl:i=N:=oM
  refine g0 ?_
  refine WP.ret ⟨e,gr.cong ?_⟩
  congr 1
  apply List.ext_getElem (by rw[lx,i0_])
  intro u u1 u2
  have a1:=hx u oM
  have a2:=j6_ (S:=D.length) (c:=gf cs) (acc:=acc) (N:=i) (v:=u) oM
  rw[b2_ u1] at a1
  rw[b2_ u2] at a2
  rw[a1,a2]
 |succ d ih=>
  intro i h xs h1 e w gr lx hx
  refine WP.rnd (a6r · · ..) ?_
  obtain ⟨h2,s2,g2,f2,l2⟩:=gr.write0 (i:=(i:Int)) (v:=I (-1)) oM (by rw[List.length_map]; omega) rfl rfl
  have f2s:FrS (λp=>p=oo) h h2:=f2.s.mono λp z1 z2=>oM
  have g2':Gr oo (oo+1) h2 1 o ((xs.set i (-1)).map encI):=g2.cong (by rw[List.map_set]; simp[encI]; rfl)
  have e2:Ext h0 h2:=f2s.ext e λp z1 z2=>oM
  have w2:=w.frs f2s λp z1 z2 z3=>hWo (z3▸z2)
  have gs:=gr.sl
  simp -implicitDefEqProofs (disch:=first|assumption|omega|(simp only[gL,gA]<;>omega)|fail) only[cG,reduceIte,gs.idxG,s2]
  refine WP.call (b4Z (gv.ext e2) ok hN hn hn2 (v:=i) (by omega) w2) ?_
  rintro _ h3 ⟨e3,out,rfl,b⟩
  have w3:=w2.ext e3
  have g3:=g2'.ext e3
  have ro3:=w3.row
  have lc:=w3.lc
  obtain ⟨bn1,bn2,bn3⟩:=b.neg
  by_cases ho:out<0
  ·refine g0 ?_
   refine ih (i+1) h3 _ oM (e2.trans e3) w3 g3 (by simpa using lx) λu hu=>?_
   rw[giset2 oM]
   by_cases qu:u=i
   ·rw[if_pos qu,qu,(bn2 ho).2]
   ·rw[if_neg qu]; exact hx u oM
  ·obtain ⟨o1,o2,o3,o4,o5⟩:=bn3 ho
   have hsp:=spotN (N:=N) (S:=D.length) (v:=i) (s:=D.length-1) oM (by have:=ok.l0; omega)
   have hob:out<n:=oM
   have hgo:gi cs out=bv (gf cs) acc (i*D.length) D.length:=by rw[<-o4]; show gi cs out=gi cs ((out.toNat:Nat):Int); rw[<-o1]
   obtain ⟨h4,s4,g4,f4,l4⟩:=g3.write0 (i:=(i:Int)) (v:=I (gi cs out)) oM (by rw[List.length_map,List.length_set]; omega) rfl rfl
   have f4s:FrS (λp=>p=oo) h3 h4:=f4.s.mono λp z1 z2=>oM
   have g4':Gr oo (oo+1) h4 1 o ((xs.set i (gi cs out)).map encI):=g4.cong (by rw[List.map_set,List.map_set]; simp[encI]; rfl)
   have e4:Ext h0 h4:=f4s.ext (e2.trans e3) λp z1 z2=>oM
   have w4:=w3.frs f4s λp z1 z2 z3=>hWo (z3▸z2)
   have gs3:=g3.sl
   refine g6 @ro3 w3.gc.sl.idxG w3.gc.sl.ld0 @encI.eq_1 gs3.idxG @s4 ?_
   refine ih (i+1) h4 _ oM e4 w4 g4' (by simpa using lx) λu hu=>?_
   rw[giset2 oM]
   by_cases qu:u=i
   ·rw[if_pos qu,qu,hgo]
   ·rw[if_neg qu]; exact hx u oM
theorem a2G (no:NetOk N es)(co:COk es)(hn2:N*D.length<=1000000)(hs:Sl h 4 sE (es.map encE))(ok:DOk D acc)(hD:Sl h 5 sD (D.map encR))(hA:Sl h 1 sA (acc.map encB)){v:Nat}(hv:v<N) :
  Tot tab c2_ [.agg [I N,sE],.agg [sD,sA],I v] h λr h'=>Ext h h'/\∃c,LC (N*D.length) (hopA es D.length (onL es D)) (λx=>x=v*D.length) c/\Gr h.length h'.length h' 1 r ((costL N D.length c acc).map encI):=by
 refine WP.tot (a8O · ..) ?_
 have hN:N<=100000:=by have:=no.n1; omega
 obtain ⟨h1,hh1⟩:∃h1,h1=(h++[AObj.cells ⟨[I N,sE],0,0,false⟩])++[AObj.cells ⟨[sD,sA],0,0,false⟩]:=⟨_,rfl⟩
 have e1:Ext h h1:=by rw[hh1]; exact eX
 have r0:h1[h.length]?=some (.cells ⟨[I N,sE],0,0,false⟩):=by rw[hh1]; simp
 refine g6 hs.one hs.cells hD.one hD.cells hA.one hA.cells ?_
 rw[<-hh1]
 refine WP.call (a9I no (hs.ext e1) ok (hD.ext e1) (hA.ext e1)) ?_
 rintro g h2 ⟨e2,gv⟩
 obtain ⟨h3,hh3⟩:∃h3,h3=h2++[AObj.cells ⟨[I v,I 0],0,0,false⟩]:=⟨_,rfl⟩
 have e3:Ext h2 h3:=by rw[hh3]; exact Ext.push _ _
 have ha:Sl h3 2 (.sl h2.length 0 1 2 none 0) ([((v:Int),(0:Int))].map encP2):=by
  have:=(Gr.lit (h:=h2) (sz:=2) (v:=[I v,I 0]) rfl).sl
  rw[a3_] at this
  rw[hh3]; exact this
 rw[show I 0=I 0 from rfl] at hh3
 rw[<-hh3]
 have gv3:=gv.ext e3
 refine WP.call (a5L (n:=N*D.length) gv3 ok hN rfl hn2 ha (λa z=>?_) (by simp) (hopA es D.length (onL es D))) ?_
 ·obtain rfl:=List.mem_singleton.1 z
  have:=ok.l0
  exact ⟨by show (0:Int)<=v; omega,by show (v:Int)<N; omega,Int.le_refl _,by show (0:Int)<D.length; omega⟩
 rintro _ h4 ⟨e4,os,q,sc,se,sf,oc,oe,ov,cs,ds,fs,M,rfl,w4,d4,u4⟩
 refine WP.call (b0Z e4 (λo z=>z) gv3 ok co hN rfl hn2 (a6x gv3 ok no) (λx z=>?_) w4 d4 u4) ?_
 ·obtain rfl:=a7b.1 z
  have:=spotN (S:=D.length) hv ok.l0
  omega
 rintro _ h5 ⟨rfl,f5,id2,k2,ls2,rk2,cs2,ds2,fs2,M2,w5,d5,m5,u5⟩
 have e35:Ext h3 h5:=f5.ext e4 λo z1 z2=>oM
 have e05:=((e1.trans e2).trans e3).trans e35
 have r5:=((e2.trans e3).trans e35).get r0
 obtain ⟨s6,h6,a6,g6,e6,_,l6⟩:=g0_ (zero:=[I 0]) (sz:=1) (bytes:=8) (n:=(N:Int)) h5 oM oM oM rfl rfl
 have hre:List.replicate (N:Int).toNat [I 0]=(List.replicate N (0:Int)).map encI:=by simp[encI,I]
 rw[hre] at g6
 refine g4 @r5 @a6 g6.sl.lenG @List.length_replicate.{0} ?_
 have hl:=e05.len
 refine WP.ent ((b5X (W:=λo=>o<h5.length) (gv3) ok hN rfl hn2 (oo:=h5.length) (by have:=e35.len; omega) oM N 0 h6 _ oM (e35.trans e6) ((w5.mono λo z1 _=>z1).ext e6) g6 (by simp) λu hu=>oM).mono ?_) λi=>rfl
 rintro r h7 ⟨e7,g7⟩
 have hg:=(a6x gv3 ok no).gok co
 refine ⟨((e1.trans e2).trans e3).trans e7,gf cs2,?_,(g7.mono oM (Nat.le_refl _)).low _ ?_⟩
 ·have:=DI.lc hg (λx z=>by obtain rfl:=a7b.1 z; have:=spotN (S:=D.length) hv ok.l0; omega) d5 m5
  intro x hx
  have h8:=this x hx
  have hst:atSt D.length [((v:Int),(0:Int))]=λx=>x=v*D.length:=by
   funext x; exact propext a7b
  rw[hst] at h8
  exact h8
 ·exact Nat.le_refl _
end
end Go.Gm.AZ
namespace Go.Gm.AZ
open Go Go.Gm
theorem c4P {xs:List Int}{k:Int}(h0:0<=k)(h1:k<xs.length):gi xs.reverse k=gi xs (xs.length-1-k):=by
 obtain ⟨i,rfl⟩:∃i:Nat,k=i:=⟨k.toNat,oM⟩
 rw[b2_ (by simpa using h1),List.getElem_reverse]
 have:=b2_ (xs:=xs) (n:=xs.length-1-i) oM
 rw[<-this]
 congr 1
 omega
theorem c4Q {xs:List Int}(hl:xs.length<=1000000):∀(d:Nat) (i j:Int) (h:Heap) (ys:List Int),j-i<d->0<=i->i+j=xs.length-1->ys.length=xs.length->Fr lo hi hb h->Gr lo hi h 1 s (ys.map encI)->
  (∀k:Int,0<=k->k<xs.length->gi ys k=if i<=k/\k<=j then gi xs k else gi xs (xs.length-1-k))->
  WP (λp:Nat × Nat=>z9_ p.1 p.2 s (I i) (I j) h) λr h'=>r=.tup []/\Fr lo hi hb h'/\Gr lo hi h' 1 s (xs.reverse.map encI):=by
 have fin:∀(i j:Int) (ys:List Int),¬i<j->0<=i->i+j=xs.length-1->ys.length=xs.length->(∀k:Int,0<=k->k<xs.length->gi ys k=if i<=k/\k<=j then gi xs k else gi xs (xs.length-1-k))->ys=xs.reverse:=by
  intro i j ys hij h0 hs hy hk
  apply List.ext_getElem (by simpa using hy)
  intro k k1 k2
  have a1:=hk k oM oM
  have a2:=c4P (xs:=xs) (k:=(k:Int)) oM oM
  rw[b2_ k1] at a1
  rw[b2_ k2] at a2
  rw[a1,a2]
  split
  ·rw[show (xs.length:Int)-1-k=k by omega]
  ·rfl
 intro d
 induction d with
 |zero=>
  intro i j h ys hd h0 hs hy f g hk
  refine WP.rnd (a4b · · ..) ?_
  have hij:¬i<j:=oM
  refine g0 ?_
  exact WP.ret ⟨rfl,f,g.cong (by rw[fin i j ys hij h0 hs hy hk])⟩
 |succ d ih=>
  intro i j h ys hd h0 hs hy f g hk
  refine WP.rnd (a4b · · ..) ?_
  by_cases hij:i<j
  ·obtain ⟨a,ha⟩:∃a,gi ys i=a:=⟨_,rfl⟩
   obtain ⟨b,hb⟩:∃b,gi ys j=b:=⟨_,rfl⟩
   obtain ⟨h2,s2,g2,f2,l2⟩:=g.write0 (i:=i) (v:=I b) h0 (by rw[List.length_map]; omega) rfl rfl
   obtain ⟨h3,s3,g3,f3,l3⟩:=g2.write0 (i:=j) (v:=I a) oM (by rw[List.length_set,List.length_map]; omega) rfl rfl
   have gs:=g.sl
   refine g7 gs.idxG gs.ld0 @ha @hb @encI.eq_1 @s2 @s3 ?_
   have e1:((ys.map encI).set i.toNat (I b).cells).set j.toNat (I a).cells=((ys.set i.toNat b).set j.toNat a).map encI:=by
    rw[List.map_set,List.map_set]; rfl
   rw[e1] at g3
   refine ih (i+1) (j-1) h3 _ oM oM oM (by simpa using hy) ((f.trans f2).trans f3) g3 λk k0 k1=>?_
   rw[x5_ oM (by simp; omega) k0,x5_ h0 oM k0]
   have hi:=hk i h0 oM
   have hj:=hk j oM oM
   rw[if_pos ⟨oM,oM⟩,ha] at hi
   rw[if_pos ⟨oM,oM⟩,hb] at hj
   by_cases q1:k=j
   ·rw[if_pos q1,if_neg oM,hi]; congr 1; omega
   ·rw[if_neg q1]
    by_cases q2:k=i
    ·rw[if_pos q2,if_neg oM,hj]; congr 1; omega
    ·rw[if_neg q2,hk k k0 k1]
     by_cases q3:i<=k/\k<=j
     ·rw[if_pos q3,if_pos ⟨oM,oM⟩]
     ·rw[if_neg q3,if_neg oM]
  ·refine g0 ?_
   exact WP.ret ⟨rfl,f,g.cong (by rw[fin i j ys hij h0 hs hy hk])⟩
theorem b5U {xs:List Int}(hl:xs.length<=1000000)(g:Gr lo hi h 1 s (xs.map encI)):Tot tab u0_ [s] h λr h'=>r=.tup []/\Fr lo hi h h'/\Gr lo hi h' 1 s (xs.reverse.map encI):=by
 refine WP.tot (b0C · ..) ?_
 have gs:=g.sl
 refine g1 gs.lenG ?_
 exact WP.ent (c4Q hl (xs.length+1) 0 (xs.length-1) h xs oM oM oM rfl (Fr.refl _ _ _) g λk k0 k1=>by rw[if_pos ⟨oM,oM⟩]) λi=>rfl
section
variable {h0 h:Heap} {g:AV} {N:Nat} {es:List E} {D:List (List Int)} {acc:List Bool}
theorem c1x {W:Nat->Prop}{hb:Heap}{os oc oe ov n:Nat}(hn2:n<=1000000)(hW:∀o,W o->o<hb.length)(w0:SW W hb os g fh q sc se sf oc oe ov n cs ds fs M ls)(di:DI n 2147483647 A st id0 [] (gf cs) (gf M) (gf ds) (gf fs) rk k){k0:Nat}(hk0:k<=k0)(hk1:k0<=1000000)(hQ:∀(l:List Nat) (h':Heap) (out':AV),Ext hb h'->Gr hb.length h'.length h' 1 out' ((l.reverse.map λ(e:Nat)=>(e:Int)).map encI)->l.length<=1000000->Wk A st x0 l (gf cs x0)->WP (λi:Nat=>a1j i out' h') Q) :
  ∀(d x:Nat) (h:Heap) (out:AV) (l:List Nat),rk x<d->d+l.length<=k0+1->x<n->0<=gf cs x->Ext hb h->Gr hb.length h.length h 1 out ((l.reverse.map λ(e:Nat)=>(e:Int)).map encI)->(∀l',Wk A st x l' (gf cs x)->Wk A st x0 (l'++l) (gf cs x0))->
   WP (λp:Nat × Nat=>v3_ p.1 p.2 (.ptr os 0 7 0) (I x) out h) Q:=by
 intro d
 induction d with
 |zero=>intro x h out l h1; omega
 |succ d ih=>
  intro x h out l h1 h2 hx hc e gr hw
  refine WP.rnd (a7I · · ..) ?_
  have w:=w0.ext e
  have ro:=w.row
  have lf:=w.lf
  have le:=w.le
  have gfs:=w.gf.sl
  have ges:=w.ge.sl
  rcases di.par x hx (gf cs x) (.inl ⟨hc,rfl⟩) with ⟨p1,p2,p3⟩|⟨y,v,y1,y2,y3,y4,y5,y6,y7⟩
  ·have p1':gi fs (x:Int) = -1:=p1
   refine g5 @ro gfs.idxG gfs.ld0 @encI.eq_1 @p1' ?_
   refine WP.lv (hQ l h out e gr oM ?_) λi j=>rfl
   have:=hw [] (by rw[p3]; exact .nil p2)
   simpa using this
  ·have y2':gi fs (x:Int)=y:=y2
   obtain ⟨e1,he1⟩:∃e1:Nat,gi ds (x:Int)=e1:=⟨(gi ds (x:Int)).toNat,by have:0<=gi ds (x:Int):=y4; omega⟩
   have hlb:=e.len
   obtain ⟨s',h',q1,q2,q3⟩:=Gr.append1 (bytes:=8) gr (v:=[I e1]) rfl oM oM (by simp; omega) oM oM
   rw[a3_] at q1
   have e':Ext hb h':=q3.ext e oM
   have w':=w0.ext e'
   have ro':=w'.row
   have gfs':=w'.gf.sl
   refine g12 @ro gfs.idxG gfs.ld0 ges.idxG ges.ld0 @encI.eq_1 @y2' @he1 @q1 @ro' gfs'.idxG gfs'.ld0 ?_
   have hr:=y7 hc
   refine ih y h' s' (e1::l) oM (by simp; omega) y1 y3 e' (q2.cong (by simp[encI])) λl' hl'=>?_
   have:=hw (l'++[e1]) (by
    rw[y6]
    refine .snoc hl' ?_
    have he2:gf ds x=(e1:Int):=he1
    rw[he2,Int.toNat_natCast] at y5
    exact y5)
   simpa using this
theorem b8O {os oc oe ov n:Nat}(hn2:n<=1000000)(w:SW W h os g fh q sc se sf oc oe ov n cs ds fs M ls)(di:DI n 2147483647 A st id0 [] (gf cs) (gf M) (gf ds) (gf fs) rk k)(hk:k<=n){x:Nat}(hx:x<n)(hc:0<=gf cs x) :
  Tot tab p8_ [.ptr os 0 7 0,I x] h λr h'=>Ext h h'/\∃l:List Nat,Wk A st x l (gf cs x)/\l.length<=1000000/\Gr h.length h'.length h' 1 r ((l.map λ(e:Nat)=>(e:Int)).map encI):=by
 refine WP.tot (a9w · ..) ?_
 have hr:=di.rk x hx hc
 refine WP.ent (c1x (x0:=x) (k0:=n) (k:=k) hn2 (W:=λo=>W o/\o<h.length) (λo z=>z.2) (w.mono λo z1 z2=>⟨z2,z1⟩) di hk oM (λl h2 out e2 g2 hl hw=>?_) (rk x+1) x h .nils [] oM (by simp; omega) hx hc (Ext.refl _) (Gr.nil ..) λl' hl'=>by simpa using hl') λi=>rfl
 refine WP.congr (a7H · ..) ?_
 refine WP.call (b5U (by simpa using hl) g2) ?_
 rintro _ h3 ⟨rfl,f3,g3⟩
 have e3:Ext h h3:=f3.ext e2 (Nat.le_refl _)
 refine WP.call (a8a g3.sl (by simpa using (show l.length<=10000000 by omega))) ?_
 rintro r h4 ⟨e4,g4⟩
 refine WP.ret ⟨e3.trans e4,l,hw,hl,(g4.mono e3.len (Nat.le_refl _)).cong ?_⟩
 rw[<-List.map_reverse,List.reverse_reverse]
end
end Go.Gm.AZ
