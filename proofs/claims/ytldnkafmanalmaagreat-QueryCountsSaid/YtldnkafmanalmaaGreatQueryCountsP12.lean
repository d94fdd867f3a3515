/- A part of the proof (GmAZqj, GmAZqk, GmAZql, GmAZqm, GmAZqn, GmAZqo, GmAZqp, GmAZqs, GmAZqt, GmAZL2, GmAZqy, GmAZ5, GmEntry, GmRw, GmRaw). -/
import Derived.OpenShut
import Derived.ChangeArms
import Derived.DataReads
import Derived.Test.YtldnkafmanalmaaGreatQueryCountsP11
set_option autoImplicit true
set_option relaxedAutoImplicit true
set_option linter.unusedVariables false
set_option linter.unusedSimpArgs false
set_option linter.unusedSectionVars false
namespace Go.Gm.AZ
open Go Go.Gm
theorem a8y {S:Nat}{v s:Int}(v0:0<=v)(s0:0<=s)(s1:s<S)(b:Bool):(idQ S v s b).toNat % 2=(if b then 1 else 0)/\(((idQ S v s b).toNat / 2 / S:Nat):Int)=v/\(((idQ S v s b).toNat / 2 % S:Nat):Int)=s:=by
 obtain ⟨a,rfl⟩:∃a:Nat,v=a:=⟨v.toNat,oM⟩
 obtain ⟨t,rfl⟩:∃t:Nat,s=t:=⟨s.toNat,oM⟩
 have h1:(idQ S a t b).toNat=2*(a*S+t)+if b then 1 else 0:=by
  unfold idQ
  rw[<-Int.natCast_mul]
  cases b<;>simp<;>omega
 have h2:(idQ S a t b).toNat / 2=a*S+t:=by rw[h1]; cases b<;>simp<;>omega
 have hS:0<S:=oM
 refine ⟨by rw[h1]; cases b<;>simp,?_,?_⟩
 ·rw[h2,Nat.add_comm,Nat.add_mul_div_right _ _ hS,Nat.div_eq_of_lt oM]; simp
 ·rw[h2,Nat.add_comm,Nat.add_mul_mod_self_right,Nat.mod_eq_of_lt oM]
section
variable {N LL:Nat} {es:List E} {A:List Ar} {Up Dn:List (List Int)} {D:List (List Int)} {acc:List Bool}
def QR (N:Nat)(A:List Ar)(Up Dn D:List (List Int)):HopR:=λv s b v' s' b' c=>
 0<=v/\v<N/\0<=s/\s<D.length/\∃k:Nat,((idQ D.length v' s' b').toNat,k,c)∈hopQ N A Up Dn D (idQ D.length v s b).toNat
theorem qr_hr (ix:IxS LL N es A Up Dn)(ok:DOk D acc):HR D (UpA N A Up) (DnA N A Dn) (QR N A Up Dn D):=by
 refine ⟨λv w m c s hu s0 s1=>?_,λv u m c s b hd s0 s1=>?_⟩
 ·obtain ⟨v0,v1,k,k1,k2,k3,rfl,rfl,rfl⟩:=hu
  obtain ⟨d1,d2,d3⟩:=a8y v0 s0 s1 false
  refine ⟨v0,v1,s0,s1,k.toNat,List.mem_append.2 (.inl ?_)⟩
  rw[if_neg (by rw[d1]; simp),d2,d3]
  exact List.mem_map_of_mem (f:=hopK A D false s) k1
 ·obtain ⟨v0,v1,k,k1,k2,k3,rfl,rfl,rfl⟩:=hd
  have ak:=(ix.arc _ _ (c1_ k2 k3)).1
  obtain ⟨d1,d2,d3⟩:=a8y ak.f0 s0 s1 b
  have hto:=((ix.rD v v0 v1).2 k k1).2.2
  refine ⟨ak.f0,ak.f1,s0,s1,k.toNat,List.mem_append.2 (.inr ?_)⟩
  rw[d3]
  have hm:k∈fallX A (allD Dn N) ((idQ D.length (gi A k).fr s b).toNat / 2 / D.length):=by
   refine List.mem_filter.2 ⟨List.mem_flatMap.2 ⟨v.toNat,by rw[List.mem_range]; omega,by rw[Int.toNat_of_nonneg v0]; exact k1⟩,?_⟩
   rw[decide_eq_true_eq,d2]
  have:=List.mem_map_of_mem (f:=hopK A D true s) hm
  rw[<-hto]
  exact this
theorem pq_wk (p:Pq (QR N A Up Dn D) v s b v2 s2 b2 c):∃l,Wk (hopQ N A Up Dn D) (λx=>x=(idQ D.length v s b).toNat) (idQ D.length v2 s2 b2).toNat l c:=by
 induction p with
 |nil=>exact ⟨[],.nil rfl⟩
 |snoc p k ih=>
  obtain ⟨l,hl⟩:=ih
  obtain ⟨_,_,_,_,e,he⟩:=k
  exact ⟨_,.snoc hl he⟩
theorem c2c (no:NetOk N es)(ix:IxS LL N es A Up Dn)(ok:DOk D acc)(sd:Stdy D){v:Nat}(hv:v<N){x:Nat}(w:Wk (hopQ N A Up Dn D) (λx=>x=2*(v*D.length)) x l c) :
  x / 2<N*D.length/\∃ll,OkW es v ll/\atV es v ll=((x / 2 / D.length:Nat):Int)/\atS es D 0 ll=((x / 2 % D.length:Nat):Int)/\atC es ll=c:=by
 have hS:=ok.l0
 induction w with
 |@nil x h=>
  subst h
  have h1:2*(v*D.length) / 2=v*D.length:=oM
  have h2:=spotN (N:=N) (v:=v) (S:=D.length) (s:=0) hv hS
  refine ⟨oM,[],λi e hi=>by simp at hi,?_,?_,rfl⟩
  ·rw[h1,Nat.mul_div_cancel _ hS]; rfl
  ·rw[h1,Nat.mul_mod_left]; rfl
 |@snoc x y e l c w' _ hm ih=>
  obtain ⟨hx,ll,a1,a2,a3,a4⟩:=ih
  obtain ⟨d1,d2⟩:=dm hx
  have key:∃(b:Bool) (k:Int),0<=k/\k<A.length/\(gi A k).fr=((x / 2 / D.length:Nat):Int)/\hopK A D b ((x / 2 % D.length:Nat):Int) k=(y,e,w'):=by
   rcases List.mem_append.1 hm with hm|hm
   ·split at hm
    ·cases hm
    ·obtain ⟨k,hk,he⟩:=List.mem_map.1 hm
     obtain ⟨k0,k1,k2⟩:=(ix.rU _ (Int.natCast_nonneg _) (Int.ofNat_lt.2 d1)).2 k hk
     exact ⟨false,k,k0,k1,k2,he⟩
   ·obtain ⟨k,hk,he⟩:=List.mem_map.1 hm
    obtain ⟨k0,k1,k2⟩:=b1s ix hk
    exact ⟨true,k,k0,k1,k2,he⟩
  obtain ⟨b,k,k0,k1,k2,he⟩:=key
  obtain ⟨ak,l',_,h3,h4,h5⟩:=ix.arc _ _ (c1_ k0 k1)
  have hto:0<=nx D ((x / 2 % D.length:Nat):Int) (gi A k).md/\nx D ((x / 2 % D.length:Nat):Int) (gi A k).md<D.length:=ok.to _ _ (Int.natCast_nonneg _) (Int.ofNat_lt.2 d2) ak.m0 ak.m1
  have h6:=a4g (S:=D.length) ak.t0 ak.t1 hto.1 hto.2 b
  obtain ⟨e1,e2,e3⟩:=a8y ak.t0 hto.1 hto.2 b
  simp only[hopK] at he
  cases he
  have h7:=h3.ok
  rw[k2,<-a2] at h7
  refine ⟨oM,ll++l',b0M a1 h7.1,?_,?_,?_⟩
  ·rw[a3f,h7.2.1,e2]
  ·rw[b0s,a3,h3.st no ok sd _ (Int.natCast_nonneg _) (Int.ofNat_lt.2 d2),e3]
  ·rw[a0e,a4,h4]
theorem q_lw (no:NetOk N es)(co:COk es)(ix:IxC N es A Up Dn)(ok:DOk D acc)(sd:Stdy D){v u:Nat}(hv:v<N)(hu:u<N)(lc:LC (2*(N*D.length)) (hopQ N A Up Dn D) (λx=>x=2*(v*D.length)) c)(b:QB c (AccS acc D.length u acc.length) out) :
  LW es v u (λw=>gi acc (goS D 0 w)=true) (if out<0 then -1 else c out.toNat):=by
 have hS:=ok.l0
 have la:=ok.la
 have h0:(idQ D.length v 0 false).toNat=2*(v*D.length):=by
  unfold idQ
  rw[<-Int.natCast_mul]
  simp
  omega
 have acs:∀x,AccS acc D.length u acc.length x->x<2*(N*D.length)/\((x / 2 / D.length:Nat):Int)=u/\gi acc ((x / 2 % D.length:Nat):Int)=true:=by
  rintro x ⟨s,s1,s2,bb,rfl⟩
  have h1:=a4g (N:=N) (S:=D.length) (v:=(u:Int)) (s:=(s:Int)) oM oM oM oM bb
  obtain ⟨_,e2,e3⟩:=a8y (S:=D.length) (v:=(u:Int)) (s:=(s:Int)) oM oM oM bb
  exact ⟨oM,e2,by rw[e3]; exact s2⟩
 have all:∀l,OkW es v l->atV es v l=u->gi acc (goS D 0 (wdOf es l))=true->∃x,AccS acc D.length u acc.length x/\0<=c x/\c x<=atC es l:=by
  intro l h1 h2 h3
  obtain ⟨vs,nd,om,st,fin⟩:=ix.cmp
  have cm:=b6d no ok co sd (qr_hr ix.toIxS ok) vs (λ_=>False) (λx hx=>hx.elim (λz=>z.elim) (om x)) nd (λx _ z=>z) (λa b w hw=>by
   have e:(λx=>False\/x∈a)=λx:Int=>x∈a:=by funext x; simp
   rw[e]; exact st a b w hw) (λw x m l' hw hx hs=>by
   have e:(λx=>False\/x∈vs)=λx:Int=>x∈vs:=by funext x; simp
   rw[e] at hs
   exact fin w x m l' (λz=>hw (.inr z)) (λz=>hx (.inr z)) hs)
  obtain ⟨bb,c',p1,p2⟩:=cm l v 0 (λz=>z) (λz=>z) h1 (Int.le_refl _) oM
  obtain ⟨ll,hw⟩:=pq_wk p1
  rw[h0,h2] at hw
  have hs:=a9K ok no h1 (s:=0) (Int.le_refl _) oM
  have hlt:=a4g (N:=N) (S:=D.length) (v:=(u:Int)) oM oM hs.1 hs.2 bb
  have hc:0<=c (idQ D.length u (atS es D 0 l) bb).toNat/\c (idQ D.length u (atS es D 0 l) bb).toNat<=c':=by
   rcases lc _ (show (idQ D.length u (atS es D 0 l) bb).toNat<2*(N*D.length) by omega) with ⟨k1,_,k2⟩|⟨_,k2⟩
   ·exact ⟨k1,k2 _ _ hw⟩
   ·exact absurd hw (k2 _ _)
  refine ⟨_,⟨(atS es D 0 l).toNat,oM,?_,bb,?_⟩,hc.1,oM⟩
  ·rw[Int.toNat_of_nonneg hs.1,a8I]; exact h3
  ·rw[Int.toNat_of_nonneg hs.1]
 rcases b with ⟨b1,b2⟩|⟨y,b1,b2,b3,b4⟩
 ·rw[if_pos oM]
  refine ⟨.inl rfl,λl h1 h2 h3=>?_⟩
  obtain ⟨x,x1,x2,x3⟩:=all l h1 h2 h3
  exact absurd x2 (b2 x x1)
 ·rw[if_neg oM,b1,Int.toNat_natCast]
  refine ⟨.inr ⟨b3,?_⟩,λl h1 h2 h3=>?_⟩
  ·obtain ⟨y1,y2,y3⟩:=acs y b2
   rcases lc y y1 with ⟨_,⟨l,hw⟩,_⟩|⟨q,_⟩
   ·obtain ⟨_,ll,a1,a2,a3,a4⟩:=c2c no ix.toIxS ok sd hv hw
    exact ⟨ll,a1,a2.trans y2,by rw[<-a8I,a3]; exact y3,a4⟩
   ·omega
  ·obtain ⟨x,x1,x2,x3⟩:=all l h1 h2 h3
   have:=b4 x x1 x2
   omega
end
end Go.Gm.AZ
namespace Go.Gm.AZ
open Go Go.Gm
inductive Chn (Ah:Nat->List Hop):Nat->List Nat->Int->Nat->Prop
 |nil {x:Nat}:Chn Ah x [] 0 x
 |cons {x y z k:Nat} {ks:List Nat} {w c:Int}:(y,k,w)∈Ah x->Chn Ah y ks c z->Chn Ah x (k::ks) (w+c) z
inductive UnpL (A:List Ar) (LL:Nat):List Nat->List Nat->Prop
 |nil:UnpL A LL [] []
 |cons {k:Nat} {ks l ls:List Nat}:k<A.length->Unp A k l->l.length<=LL->UnpL A LL ks ls->UnpL A LL (k::ks) (l++ls)
theorem UnpL.len (h:UnpL A LL ks ls):ls.length<=ks.length*LL:=by
 induction h with
 |nil=>simp
 |cons _ _ h2 _ ih=>rw[List.length_append,List.length_cons,Nat.succ_mul]; omega
section
variable {N LL:Nat} {es:List E} {A:List Ar} {Up Dn:List (List Int)} {D:List (List Int)} {acc:List Bool}
theorem c0o (no:NetOk N es)(ix:IxS LL N es A Up Dn)(ok:DOk D acc)(sd:Stdy D)(h:Chn (hopQ N A Up Dn D) x ks c z):x / 2<N*D.length->
  ∃ll,UnpL A LL ks ll/\OkW es ((x / 2 / D.length:Nat):Int) ll/\atV es ((x / 2 / D.length:Nat):Int) ll=((z / 2 / D.length:Nat):Int)/\atS es D ((x / 2 % D.length:Nat):Int) ll=((z / 2 % D.length:Nat):Int)/\atC es ll=c:=by
 induction h with
 |nil=>intro _; exact ⟨[],.nil,λi e hi=>by simp at hi,rfl,rfl,rfl⟩
 |@cons x y z k' ks w c hm _ ih=>
  intro hx
  obtain ⟨d1,d2⟩:=dm hx
  have key:∃(b:Bool) (k:Int),0<=k/\k<A.length/\(gi A k).fr=((x / 2 / D.length:Nat):Int)/\hopK A D b ((x / 2 % D.length:Nat):Int) k=(y,k',w):=by
   rcases List.mem_append.1 hm with hm|hm
   ·split at hm
    ·cases hm
    ·obtain ⟨k,hk,he⟩:=List.mem_map.1 hm
     obtain ⟨k0,k1,k2⟩:=(ix.rU _ (Int.natCast_nonneg _) (Int.ofNat_lt.2 d1)).2 k hk
     exact ⟨false,k,k0,k1,k2,he⟩
   ·obtain ⟨k,hk,he⟩:=List.mem_map.1 hm
    obtain ⟨k0,k1,k2⟩:=b1s ix hk
    exact ⟨true,k,k0,k1,k2,he⟩
  obtain ⟨b,k,k0,k1,k2,he⟩:=key
  obtain ⟨ak,l',h2,h3,h4,h5⟩:=ix.arc _ _ (c1_ k0 k1)
  have hto:0<=nx D ((x / 2 % D.length:Nat):Int) (gi A k).md/\nx D ((x / 2 % D.length:Nat):Int) (gi A k).md<D.length:=ok.to _ _ (Int.natCast_nonneg _) (Int.ofNat_lt.2 d2) ak.m0 ak.m1
  have h6:=a4g (S:=D.length) ak.t0 ak.t1 hto.1 hto.2 b
  obtain ⟨e1,e2,e3⟩:=a8y ak.t0 hto.1 hto.2 b
  simp only[hopK] at he
  cases he
  obtain ⟨ll,a0,a1,a2,a3,a4⟩:=ih oM
  have h7:=h3.ok
  rw[k2] at h7
  rw[e2] at a1 a2
  rw[e3] at a3
  refine ⟨l'++ll,.cons oM h2 h5 a0,b0M h7.1 (by rw[h7.2.1]; exact a1),?_,?_,?_⟩
  ·rw[a3f,h7.2.1,a2]
  ·rw[b0s,h3.st no ok sd _ (Int.natCast_nonneg _) (Int.ofNat_lt.2 d2),a3]
  ·rw[a0e,a4,h4]
end
section
variable {h0 hb:Heap} {wp:AV} {N LL:Nat} {es:List E} {A:List Ar} {Up Dn:List (List Int)} {D:List (List Int)} {acc:List Bool}
theorem qr_l1 {os oc oe ov n:Nat}(hn2:n<=1000000)(w0:SchW W hb os wp q sc se sf oc oe ov n cs ds fs M)(di:DI n WQ (hopQ N A Up Dn D) st id0 [] (gf cs) (gf M) (gf ds) (gf fs) rk k)(hkn:k<=n)(hQ:∀(x:Nat) (ks:List Nat) (h:Heap) (arcs:AV) (oa:Nat),st x->x<n->Chn (hopQ N A Up Dn D) x ks (gf cs x0) x0->ks.length<=n->Ext hb h->Gr oa (oa+1) h 1 arcs ((ks.reverse).map natE)->(arcs≠.nils->hb.length<=oa/\oa<h.length)->WP (λi:Nat=>a6E i x4 t8 out12 arcs h) Q) :
  ∀(d x:Nat) (h:Heap) (arcs:AV) (oa:Nat) (ks:List Nat) (c:Int),rk x<d->d+ks.length<=n+1->x<n->0<=gf cs x->Ext hb h->Gr oa (oa+1) h 1 arcs ((ks.reverse).map natE)->(arcs≠.nils->hb.length<=oa/\oa<h.length)->Chn (hopQ N A Up Dn D) x ks c x0->gf cs x+c=gf cs x0->
   WP (λp:Nat × Nat=>a4q p.1 p.2 x4 t8 (.ptr os 0 5 0) (I x) out12 arcs h) Q:=by
 intro d
 induction d with
 |zero=>intro x h arcs oa ks c hr; omega
 |succ d ih=>
  intro x h arcs oa ks c hr hd hx hc e ga pa ch hs
  refine WP.rnd (b2N · · ..) ?_
  have w:=w0.ext e
  have ro:=w.row
  have gfr:=w.gf.sl
  have idf:=gfr.idxG (i:=(x:Int)) oM (by rw[w.lf]; omega)
  have ldf:=gfr.ld0 (H:=h) (i:=(x:Int)) (Ext.refl _) oM (by rw[w.lf]; omega) oM
  replace ldf:Gm.ld1 h (elP 1 sf (x:Int))=some (I (gf fs x)):=ldf
  rcases di.par x hx (gf cs x) (.inl ⟨hc,rfl⟩) with ⟨p1,p2,p3⟩|⟨y,wt,y1,y2,y3,y4,y5,y6,y7⟩
  ·rw[p1] at ldf
   refine g3 @ro @idf @ldf ?_
   refine WP.lv (hQ x ks h arcs oa p2 hx ?_ oM e ga pa) λi j=>rfl
   rw[p3] at hs
   rw[<-hs]
   simpa using ch
  ·rw[y2] at ldf
   obtain ⟨a,ha⟩:∃a:Nat,gf ds x=a:=⟨(gf ds x).toNat,oM⟩
   have ge:=w.ge.sl
   have ide:=ge.idxG (i:=(x:Int)) oM (by rw[w.le]; omega)
   have lde:=ge.ld0 (H:=h) (i:=(x:Int)) (Ext.refl _) oM (by rw[w.le]; omega) oM
   replace lde:Gm.ld1 h (elP 1 se (x:Int))=some (I (a:Int)):=by rw[<-ha]; exact lde
   have b:=Gr.lit (h:=h) (sz:=1) (v:=[I (a:Int)]) rfl
   rw[a3_] at b
   obtain ⟨h2,hh2⟩:∃h2,h2=h++[AObj.cells ⟨[I (a:Int)],0,0,false⟩]:=⟨_,rfl⟩
   rw[<-hh2] at b
   have e2:Ext h h2:=by rw[hh2]; exact Ext.push _ _
   have l2:h2.length=h.length+1:=by rw[hh2]; simp
   obtain ⟨sa,h3,oa',q1,q2,q3,q4⟩:=(ga.ext e2).appP (λz=>by have:=(pa z).2; omega) b.sl oM (bytes:=8) oM (by simp; omega)
   have hq1:apnd 1 8 arcs (.sl h.length 0 1 1 none 0) (h++[AObj.cells ⟨[I (a:Int)],0,0,false⟩])=some (sa,h3):=by rw[hh2] at q1; exact q1
   have f3:=(FrS.ofExt (D:=λp=>arcs≠.nils/\p=oa) e2).trans q4
   have e3:Ext hb h3:=f3.ext e λo o1 o2=>by have:=pa o2.1; omega
   have w3:=w0.ext e3
   have ro3:=w3.row
   have gf3:=w3.gf.sl
   have idf3:=gf3.idxG (i:=(x:Int)) oM (by rw[w3.lf]; omega)
   have ldf3:=gf3.ld0 (H:=h3) (i:=(x:Int)) (Ext.refl _) oM (by rw[w3.lf]; omega) oM
   replace ldf3:Gm.ld1 h3 (elP 1 sf (x:Int))=some (I (gf fs x)):=ldf3
   rw[y2] at ldf3
   have hl3:=q4.len
   have el:=e.len
   refine g9 @ro @idf @ldf @ide @lde @hq1 @ro3 @idf3 @ldf3 ?_
   refine ih y h3 sa oa' (a::ks) (wt+c) (by have:=y7 hc; omega) (by simp; omega) y1 y3 e3 (q2.cong (by simp[natE])) (λz=>?_) (.cons (by rw[ha] at y5; exact y5) ch) oM
   rcases (q3 z).1 with ⟨z1,z2⟩|z1
   ·have:=pa z2; exact ⟨oM,(q3 z).2⟩
   ·exact ⟨oM,(q3 z).2⟩
end
end Go.Gm.AZ
namespace Go.Gm.AZ
open Go Go.Gm
section
variable {b0:Heap} {A:List Ar} {LL N:Nat} {sE sR sA sU sDn:AV} {ox ot:Nat} {ks:List Nat} {cost:Int}
theorem qr_l3 (hLL:LL<=1000)(hA:Sl b0 7 sA (A.map encA))(hlA:A.length<=100000000)(hE1:sE.one=true)(hR1:sR.one=true)(hU1:sU.one=true)(hD1:sDn.one=true)(rx:b0[ox]?=some (.cells ⟨[I N,sE,sR,sA,sU,sDn],0,0,false⟩))(rt:b0[ot]?=some (.cells ⟨[I 0,.nils],0,0,false⟩))(hkl:ks.length<=1000000){ll:List Nat}(hll:ll.length<=10000000){arcs:AV}{oa:Nat} :
  ∀(d i:Nat) (h:Heap) (se:AV) (oe:Nat) (l1 l2:List Nat),i+d=ks.length->Ext b0 h->h[b0.length]?=some (.cells ⟨[I cost,se],0,0,false⟩)->Gr oe (oe+1) h 1 se (l1.map natE)->(se≠.nils->b0.length<oe/\oe<h.length/\(arcs≠.nils->oe≠oa))->
   Gr oa (oa+1) h 1 arcs (ks.map natE)->(arcs≠.nils->b0.length<oa/\oa<h.length)->UnpL A LL (ks.drop i) l2->ll=l1++l2->
   WP (λp:Nat × Nat=>a4r p.1 p.2 (.ptr ox 0 6 0) (.ptr ot 0 2 0) (.ptr b0.length 0 2 0) arcs (I ks.length) (I i) h) λr h'=>(∃sl,r=.tup [.agg [I cost,sl],.bool true]/\Gr b0.length h'.length h' 1 sl (ll.map natE))/\h'.length>=b0.length/\∀o,o<b0.length->o≠ot->h'[o]?=b0[o]?:=by
 have hox:ox<b0.length:=(List.getElem?_eq_some_iff.1 rx).1
 have hot:ot<b0.length:=(List.getElem?_eq_some_iff.1 rt).1
 intro d
 induction d with
 |zero=>
  intro i h se oe l1 l2 hi e ro ge pe ga pa hu hl
  refine WP.rnd (a7V · · ..) ?_
  obtain rfl:i=ks.length:=oM
  rw[List.drop_length] at hu
  cases hu
  rw[List.append_nil] at hl
  subst hl
  refine g0 ?_
  refine WP.lv ?_ λi j=>rfl
  refine WP.congr (b2L · ..) ?_
  refine g1 @ro ?_
  refine WP.call (a8a ge.sl (by simp; omega)) ?_
  rintro r h2 ⟨e2,g2⟩
  have ro2:=e2.get ro
  have hoo:b0.length<h2.length:=(List.getElem?_eq_some_iff.1 ro2).1
  have rt2:=(e.trans e2).get rt
  have c1:=g2.sl.cells
  have o1:=g2.sl.one
  have hol:b0.length<h.length:=(List.getElem?_eq_some_iff.1 ro).1
  refine g4 @ro2 @rt2 @c1 @o1 ?_
  refine WP.ret ⟨⟨r,rfl,?_⟩,by simp; omega,λo ho hne=>?_⟩
  ·have f:FrS (λo=>o=b0.length\/o=ot) h2 ((h2.set b0.length (.cells ⟨[I cost,r],0,0,false⟩)).set ot (.cells ⟨[I cost,r],0,0,false⟩)):=((FrS.set1 ..).mono λo _ z=>.inl z).trans ((FrS.set1 ..).mono λo _ z=>.inr z)
   exact (g2.frs f λo z1 z2 z3=>oM).mono (by have:=e.len; omega) (by simp)
  ·rw[a9_ oM,a9_ oM]
   have e3:=e.trans e2
   obtain ⟨y,hy⟩:∃y,b0[o]?=some y:=⟨b0[o],List.getElem?_eq_getElem ho⟩
   rw[hy,e3.get hy]
 |succ d ih=>
  intro i h se oe l1 l2 hi e ro ge pe ga pa hu hl
  refine WP.rnd (a7V · · ..) ?_
  have hik:(i:Int)<ks.length:=oM
  obtain ⟨k,hk⟩:∃k:Nat,ks[i]?=some k:=⟨ks[i],List.getElem?_eq_getElem oM⟩
  have hgk:gi ks (i:Int)=k:=by
   have:=c1_ (xs:=ks) (i:=(i:Int)) oM hik
   rw[Int.toNat_natCast,hk] at this
   injection this with this
   exact this.symm
  have hdr:ks.drop i=k::ks.drop (i+1):=by
   rw[List.drop_eq_getElem_cons oM]
   congr 1
   have:=List.getElem?_eq_getElem (l:=ks) (i:=i) oM
   rw[hk] at this
   injection this with this
   exact this.symm
  rw[hdr] at hu
  obtain ⟨l,ls,hlt,hun,hlen,hrest,hl2⟩:∃l ls,k<A.length/\Unp A k l/\l.length<=LL/\UnpL A LL (ks.drop (i+1)) ls/\l2=l++ls:=by
   cases hu with
   |cons a1 a2 a3 a4=>exact ⟨_,_,a1,a2,a3,a4,rfl⟩
  subst hl2
  have gas:=ga.sl
  have ldk:=gas.ld0 (H:=h) (i:=(i:Int)) (Ext.refl _) oM hik oM
  rw[hgk] at ldk
  replace ldk:Gm.ld1 h (elP 1 arcs (i:Int))=some (I (k:Int)):=ldk
  have idk:=gas.idxG (i:=(i:Int)) oM hik
  have rx':=e.get rx
  have hr6:rdNAt 6 (some (AObj.cells ⟨[I N,sE,sR,sA,sU,sDn],0,0,false⟩)) 0 6 0=some (.agg [I N,sE,sR,sA,sU,sDn]):=rfl
  refine g5 @idk @ldk @ro @rx' @hr6 ?_
  refine WP.call (b7E hlA (hA.ext e) hE1 hR1 hU1 hD1 hun oM) ?_
  rintro ru h2 ⟨e2,g2⟩
  have ro2:=e2.get ro
  have hoo:b0.length<h.length:=(List.getElem?_eq_some_iff.1 ro).1
  have hlen2:=congrArg List.length hl
  simp only[List.length_append] at hlen2
  obtain ⟨s',h3,oe',q1,q2,q3,q4⟩:=(ge.ext e2).appP (λz=>by have:=(pe z).2.1; have:=e2.len; omega) g2.sl oM (bytes:=8) oM (by simp; omega)
  have ro3:h3[b0.length]?=some (.cells ⟨[I cost,se],0,0,false⟩):=by rw[q4.get (λz=>by have:=pe z.1; omega) (by have:=e2.len; omega)]; exact ro2
  have c1:=q2.sl.cells
  have o1:=q2.sl.one
  have l3:=q4.len
  have l2':=e2.len
  refine g5 @ro2 @q1 @ro3 @c1 @o1 ?_
  obtain ⟨h4,hh4⟩:∃h4,h4=h3.set b0.length (.cells ⟨[I cost,s'],0,0,false⟩):=⟨_,rfl⟩
  have f4:FrS (λo=>o=b0.length) h3 h4:=by rw[hh4]; exact FrS.set1 ..
  have ro4:h4[b0.length]?=some (.cells ⟨[I cost,s'],0,0,false⟩):=by rw[hh4]; exact a0_ oM
  have l4:=f4.len
  rw[<-hh4]
  have q3':s'≠.nils->b0.length<oe'/\oe'<h4.length/\(arcs≠.nils->oe'≠oa):=λz=>by
   have q5:=(q3 z).2
   rcases (q3 z).1 with ⟨z1,z2⟩|z1
   ·have:=pe z2; exact ⟨oM,oM,λz3=>by have:=this.2.2 z3; omega⟩
   ·exact ⟨oM,oM,λz3=>by have:=pa z3; omega⟩
  refine ih (i+1) h4 s' oe' (l1++l) ls oM ?_ ro4 ((q2.keep f4 λz=>by have:=q3' z; omega).cong (by simp)) q3' (((ga.ext e2).keep q4 λz z2=>(pe z2.1).2.2 z z2.2.symm).keep f4 λz=>by have:=pa z; omega) (λz=>by have:=pa z; omega) hrest (by rw[hl,List.append_assoc])
  exact (f4.ext (q4.ext (e.trans e2) λo o1 o2=>by have:=pe o2.1; omega) λo o1 o2=>oM)
end
end Go.Gm.AZ
namespace Go.Gm.AZ
open Go Go.Gm
def RtQ (es:List E)(D:List (List Int))(acc:List Bool)(v u lo:Nat)(r:AV)(h':Heap):Prop:=
 ∃b,LW es v u (λw=>gi acc (goS D 0 w)=true) b/\((b<0/\r=.tup [.agg [I 0,.nils],.bool false])\/
  (0<=b/\∃sl ll,r=.tup [.agg [I b,sl],.bool true]/\Gr lo h'.length h' 1 sl ((ll.map λ(e:Nat)=>(e:Int)).map encI)/\ll.length<=1000000/\OkW es v ll/\atV es v ll=u/\gi acc (atS es D 0 ll)=true/\atC es ll=b))
theorem b3w (l:List Nat):l.map natE=(l.map λ(e:Nat)=>(e:Int)).map encI:=by rw[List.map_map]; rfl
section
variable {h:Heap} {N:Nat} {es:List E} {A:List Ar} {Up Dn:List (List Int)} {D:List (List Int)} {acc:List Bool} {x sD sAc:AV}
theorem y4_ (hN:N<=100)(no:NetOk N es)(co:COk es)(xv:IxV h x N es A Up Dn)(ix:IxC N es A Up Dn)(ok:DOk D acc)(hD:Sl h 5 sD (D.map encR))(hA:Sl h 1 sAc (acc.map encB))(hn2:2*(N*D.length)*(N+1)<=1000000){v u:Nat}(hv:v<N)(hu:u<N) :
  Tot tab d4_ [x,.agg [sD,sAc],I v,I u] h λr h'=>Ext h h'/\RtQ es D acc v u h.length r h':=by
 refine WP.tot (b4E · ..) ?_
 have hn3:2*(N*D.length)<=1000000:=Nat.le_trans (Nat.le_mul_of_pos_right _ oM) hn2
 obtain ⟨sE,sR,sA,sU,sDn,us,ds,hx,hE,hR,hAr,hU,hDn,lu,ldd,hUp,hDp⟩:=xv.ex
 have o1:=hE.one
 have o2:=hAr.one
 have o3:=hU.one
 have o4:=hDn.one
 have o5:=hD.one
 have o6:=hA.one
 have hz:I 0=I 0:=rfl
 try simp only[hz]
 obtain ⟨h1,hh1⟩:∃h1,h1=((h++[AObj.cells ⟨[I N,sE,sR,sA,sU,sDn],0,0,false⟩])++[AObj.cells ⟨[sD,sAc],0,0,false⟩])++[AObj.cells ⟨[I 0,.nils],0,0,false⟩]:=⟨_,rfl⟩
 have e1:Ext h h1:=by rw[hh1]; exact ((Ext.push _ _).app _).app _
 have l1:h1.length=h.length+3:=by rw[hh1]; simp
 have rx:h1[h.length]?=some (.cells ⟨[I N,sE,sR,sA,sU,sDn],0,0,false⟩):=by rw[hh1,m2_ (by simp),m2_ (by simp)]; simp
 have rd:h1[h.length+1]?=some (.cells ⟨[sD,sAc],0,0,false⟩):=by rw[hh1,m2_ (by simp),r8_ (by simp)]; simp
 have rt:h1[h.length+1+1]?=some (.cells ⟨[I 0,.nils],0,0,false⟩):=by rw[hh1,r8_ (by simp)]; simp
 have hr2:∀a b c d e f:AV,rdNAt 2 (some (AObj.cells ⟨[a,b,c,d,e,f],0,0,false⟩)) 0 6 0=some (.agg [a,b]):=λ_ _ _ _ _ _=>rfl
 have hr6:rdNAt 6 (some (AObj.cells ⟨[I N,sE,sR,sA,sU,sDn],0,0,false⟩)) 0 6 0=some (.agg [I N,sE,sR,sA,sU,sDn]):=rfl
 rw[hx]
 refine g7 @o1 @hR @o2 @o3 @o4 @o5 @o6 ?_
 rw[<-hh1]
 refine WP.call (b3a ok (hD.ext e1) (hA.ext e1)) ?_
 rintro _ h2 ⟨e2,rfl⟩
 have e12:=e1.trans e2
 have rx2:=e2.get rx
 have rd2:=e2.get rd
 have rt2:=e2.get rt
 cases hst:stdyB D with
 |false=>
  refine g3 @rx2 @rd2 @hr2 ?_
  refine WP.call (a8b no co oM (hE.ext e12) ok (hD.ext e12) (hA.ext e12) hv hu) ?_
  rintro r h3 ⟨e3,c,lc,rq⟩
  have rt3:=e3.get rt2
  have lw:=bv_lw ok no hv hu lc
  have lt3:h.length+1+1<h3.length:=(List.getElem?_eq_some_iff.1 rt3).1
  have e13:=e12.trans e3
  rcases rq with ⟨c0,rfl⟩|⟨c0,q,l,sl,q1,q2,q3,q4,q5,rfl,q7⟩
  ·refine g3 @a4_ @a5_ @rt3 ?_
   refine WP.ret ⟨eX,_,lw,.inl ⟨c0,rfl⟩⟩
  ·obtain ⟨a1,a2,a3,a4,a5⟩:=b4x ok no hv q4
   obtain ⟨d1,d2⟩:=a8u (v:=u) (S:=D.length) (s:=q) q1
   rw[d1] at a2
   rw[d2] at a3
   have os:=q7.sl.one
   have cs:=q7.sl.cells
   refine g5 @a4_ @a5_ @rt3 @os @cs ?_
   refine WP.ret ⟨eX,_,lw,.inr ⟨c0,sl,l,rfl,?_,q5,a1,a2,by rw[a3]; exact q2,a4⟩⟩
   exact ((q7.set (by have:=e2.len; omega) _).mono (by have:=e2.len; omega) (by simp))
 |true=>
  have sd:=a9N.1 hst
  have xv2:IxV h2 (.agg [I N,sE,sR,sA,sU,sDn]) N es A Up Dn:=hx▸xv.ext e12
  refine g3 @rx2 @rd2 @hr6 ?_
  refine WP.call (b6F hN xv2 ix.toIxS (hD.ext e12) (hA.ext e12)) ?_
  rintro wp h3 ⟨e3,wv⟩
  refine WP.call (b5e wv ix.toIxS ok hN (n:=2*(N*D.length)) rfl hn3 hv) ?_
  rintro _ h4 ⟨e4,os,q,sc,se,sf,oc,oe,ov,rfl,id2,k2,rk2,cs2,ds2,fs2,M2,sw,di,hM,hk⟩
  refine WP.call (b4f (wv.ext e4) ok hN rfl hn3 sw hu) ?_
  rintro _ h5 ⟨e5,out,rfl,qb⟩
  have hg:=b3v ix.toIxS ok
  have hvS:v*D.length<N*D.length:=by
   have:=spotN (N:=N) (v:=v) (S:=D.length) (s:=0) hv ok.l0
   simpa using this
  have lc:=di.lc hg (λy hy=>by have:y=2*(v*D.length):=hy; omega) hM
  have lw:=q_lw no co ix ok sd hv hu lc qb
  have e15:=((e12.trans e3).trans e4).trans e5
  have rx5:=((e3.trans e4).trans e5).get rx2
  have rt5:=((e3.trans e4).trans e5).get rt2
  have lt5:h.length+1+1<h5.length:=(List.getElem?_eq_some_iff.1 rt5).1
  by_cases o0:out<0
  ·rw[if_pos o0] at lw
   refine g1 @rt5 ?_
   refine WP.ret ⟨eX,_,lw,.inl ⟨oM,rfl⟩⟩
  ·rw[if_neg o0] at lw
   obtain ⟨y,hy⟩:∃y:Nat,out=y:=⟨out.toNat,oM⟩
   subst hy
   rw[Int.toNat_natCast] at lw
   have sw5:=sw.ext e5
   have ro5:=sw5.row
   rcases qb with ⟨qb,_⟩|⟨y',qy,qa,qc,_⟩
   ·omega
   obtain rfl:y=y':=oM
   have hyr:y<2*(N*D.length)/\((y / 2 / D.length:Nat):Int)=u/\gi acc ((y / 2 % D.length:Nat):Int)=true:=by
    obtain ⟨s,s1,s2,bb,hs⟩:=qa
    have la:=ok.la
    have h1:=a4g (N:=N) (S:=D.length) (v:=(u:Int)) (s:=(s:Int)) oM oM oM oM bb
    obtain ⟨_,e2,e3⟩:=a8y (S:=D.length) (v:=(u:Int)) (s:=(s:Int)) oM oM oM bb
    rw[<-hs] at e2 e3
    exact ⟨oM,e2,by rw[e3]; exact s2⟩
   have gcs:=sw5.gc.sl
   have idy:=gcs.idxG (i:=(y:Int)) oM (by rw[sw5.lc]; omega)
   have ldy:=gcs.ld0 (H:=h5) (i:=(y:Int)) (Ext.refl _) oM (by rw[sw5.lc]; omega) oM
   obtain ⟨cost,hcost⟩:∃cost,gf cs2 y=cost:=⟨_,rfl⟩
   replace ldy:Gm.ld1 h5 (elP 1 sc (y:Int))=some (I cost):=by rw[<-hcost]; exact ldy
   obtain ⟨h6,hh6⟩:∃h6,h6=(h5++[AObj.cells ⟨[I 0,.nils],0,0,false⟩]).set h5.length (.cells ⟨[I cost,.nils],0,0,false⟩):=⟨_,rfl⟩
   have e6:Ext h5 h6:=by rw[hh6]; exact eX
   have l6:h6.length=h5.length+1:=by rw[hh6]; simp
   have ro6:h6[h5.length]?=some (.cells ⟨[I cost,.nils],0,0,false⟩):=by rw[hh6]; exact a0_ (by simp)
   refine g3 @ro5 @idy @ldy ?_
   rw[<-hh6]
   have hun:=m1_ (2*(N*D.length)) (gf cs2)
   have hrk:=di.rk y hyr.1 qc
   rw[hcost] at qc lw
   refine WP.ent (qr_l1 (x4:=.ptr h.length 0 6 0) (t8:=.ptr (h.length+1+1) 0 2 0) (out12:=.ptr h5.length 0 2 0) hn3 (sw5.ext e6) di oM (x0:=y) (λx' ks h7 arcs oa hstx hxn hch hkl e7 ga pa=>?_) (2*(N*D.length)+1) y h6 .nils 0 [] 0 oM (by simp) hyr.1 oM (Ext.refl _) (Gr.nil ..) (λz=>absurd rfl z) .nil oM) λi=>rfl
   have hx':x'=2*(v*D.length):=hstx
   have hx2:x' / 2=v*D.length:=oM
   obtain ⟨ll,u1,u2,u3,u4,u5⟩:=c0o no ix.toIxS ok sd hch oM
   rw[hx2,Nat.mul_div_cancel _ ok.l0] at u2 u3
   rw[hx2,Nat.mul_mod_left] at u4
   rw[hcost] at u5
   have hlll:=u1.len
   have hll:ll.length<=1000000:=by
    have:ks.length*(N+1)<=2*(N*D.length)*(N+1):=Nat.mul_le_mul_right _ hkl
    omega
   refine WP.congr (b2M · ..) ?_
   obtain ⟨lo,ga',hlo⟩:∃lo,Gr lo (lo+1) h7 1 arcs ((ks.reverse.map λ(e:Nat)=>(e:Int)).map encI)/\h6.length<=lo:=by
    by_cases q:arcs=.nils
    ·subst q
     have hks:ks=[]:=by simpa using ga.isNil
     subst hks
     exact ⟨h6.length,Gr.nil ..,Nat.le_refl _⟩
    ·exact ⟨oa,ga.cong (b3w _),(pa q).1⟩
   refine WP.call (b5U (by simp; omega) ga') ?_
   rintro _ h8 ⟨rfl,f8,g8⟩
   have e68:Ext h6 h8:=f8.ext e7 hlo
   obtain ⟨oa',pa',g8'⟩:=(g8.cong (ys:=ks.map natE) (by rw[<-List.map_reverse,List.reverse_reverse,b3w])).point
   have lna:lenS arcs=some (I ks.length):=by rw[g8'.sl.lenG]
   have e58:=e6.trans e68
   refine g1 @lna ?_
   have hfin:=qr_l3 (LL:=N+1) oM (hAr.ext e15) (by have:=ix.la; omega) o1 hR o3 o4 rx5 rt5 (ks:=ks) oM (ll:=ll) oM (cost:=cost) ks.length 0 h8 .nils 0 [] ll oM e58 (e68.get ro6) (Gr.nil ..) (λz=>absurd rfl z) g8' (λz=>by have:=pa' z; omega) (by rw[List.drop_zero]; exact u1) rfl
   refine WP.ent (hfin.mono λr h9 ⟨⟨sl,r1,r2⟩,r3,r4⟩=>⟨?_,cost,lw,.inr ⟨oM,sl,ll,r1,by rw[<-b3w]; exact r2.mono (by have:=e15.len; omega) (Nat.le_refl _),hll,u2,u3.trans hyr.2.1,?_,u5⟩⟩) λi=>rfl
   ·rw[a3i]
    refine ⟨by have:=e15.len; omega,λo ho=>?_⟩
    rw[r4 o (by have:=e15.len; omega) oM]
    obtain ⟨z,hz'⟩:∃z,h[o]?=some z:=⟨h[o],List.getElem?_eq_getElem ho⟩
    rw[hz',e15.get hz']
   ·have h0:((0:Nat):Int)=0:=rfl
    rw[h0] at u4
    rw[u4]; exact hyr.2.2
end
end Go.Gm.AZ
namespace Go.Gm.AZ
open Go Go.Gm
section
variable {N LL:Nat} {es:List E} {A:List Ar} {Up Dn:List (List Int)} {D:List (List Int)} {acc:List Bool} {sD sAc:AV}
def ManyQ (es:List E)(D:List (List Int))(acc:List Bool)(v:Nat)(ts bs:List Int):Prop:=∀i:Nat,i<bs.length->LW es v (gi ts i) (λw=>gi acc (goS D 0 w)=true) (gi bs i)
theorem ManyQ.snoc (m:ManyQ es D acc v ts bs)(h:LW es v (gi ts bs.length) (λw=>gi acc (goS D 0 w)=true) b):ManyQ es D acc v ts (bs++[b]):=by
 intro i hi
 rw[List.length_append,List.length_singleton] at hi
 by_cases q:i<bs.length
 ·rw[a3h oM oM]; exact m i q
 ·obtain rfl:i=bs.length:=oM
  rw[a6R]; exact h
theorem app1I {bs:List Int}(g:Gr oc (oc+1) h 1 out (bs.map encI))(ho:out≠.nils->oc<h.length)(hl:bs.length<=1000000000)(b:Int) :
  ∃s' h' o',apnd 1 8 out (.sl h.length 0 1 1 none 0) (h++[AObj.cells ⟨[I b],0,0,false⟩])=some (s',h')/\Gr o' (o'+1) h' 1 s' ((bs++[b]).map encI)/\(s'≠.nils->((o'=oc/\out≠.nils)\/h.length<=o')/\o'<h'.length)/\FrS (λp=>out≠.nils/\p=oc) h h':=by
 have b0:=Gr.lit (h:=h) (sz:=1) (v:=[I b]) rfl
 rw[a3_] at b0
 have e1:Ext h (h++[AObj.cells ⟨[I b],0,0,false⟩]):=Ext.push _ _
 obtain ⟨s',h',o',q1,q2,q3,q4⟩:=(g.ext e1).appP (λz=>by have:=ho z; simp; omega) b0.sl oM (bytes:=8) oM (by simp; omega)
 refine ⟨s',h',o',q1,q2.cong (by simp[encI]),λz=>⟨?_,(q3 z).2⟩,(FrS.ofExt e1).trans q4⟩
 rcases (q3 z).1 with h1|h1
 ·exact .inl h1
 ·right; simp at h1; omega
theorem c3H {oo la ha v:Nat}{ts:List Int}(eb:Ext hb b1)(hoo:hb.length<=oo)(hT:Sl hb 1 tA (ts.map encI))(hA:Gr la ha b1 1 all ((costL N D.length c acc).map encI))(hla:oo<la)(hha:ha<=b1.length)(ht:∀t∈ts,0<=t/\t<N)(htl:ts.length<=1000000)(hlw:∀u:Nat,u<N->LW es v u (λw=>gi acc (goS D 0 w)=true) (bv c acc (u*D.length) D.length)) :
  ∀(d i:Nat) (h:Heap) (out:AV) (oc:Nat) (bs:List Int),i+d=ts.length->FrS (λo=>o=oo\/b1.length<=o) b1 h->Gr oc (oc+1) h 1 out (bs.map encI)->(out≠.nils->(oc=oo\/b1.length<=oc)/\oc<h.length)->bs.length=i->ManyQ es D acc v ts bs->
   WP (λp:Nat × Nat=>a4X p.1 p.2 out all tA (I ts.length) (I i) h) λr h'=>Ext hb h'/\∃bs:List Int,bs.length=ts.length/\Sl h' 1 r (bs.map encI)/\ManyQ es D acc v ts bs:=by
 have ebl:=eb.len
 intro d
 induction d with
 |zero=>
  intro i h out oc bs hi f g po hbl m
  refine WP.rnd (a8Z · · ..) ?_
  obtain rfl:i=ts.length:=oM
  refine g0 ?_
  exact WP.ret ⟨f.ext eb λo o1 o2=>oM,bs,hbl,g.sl,m⟩
 |succ d ih=>
  intro i h out oc bs hi f g po hbl m
  refine WP.rnd (a8Z · · ..) ?_
  have e:=f.ext eb λo o1 o2=>oM
  have hT':=hT.ext e
  have hA':=(hA.frs f λo o1 o2 o3=>oM).sl
  have hit:(i:Int)<ts.length:=oM
  have ldt:=hT'.ld0 (H:=h) (i:=(i:Int)) (Ext.refl _) oM hit oM
  obtain ⟨t0,t1⟩:=ht _ (b7_ (xs:=ts) (i:=(i:Int)) oM hit)
  obtain ⟨t,htt⟩:∃t:Nat,gi ts (i:Int)=t:=⟨(gi ts (i:Int)).toNat,oM⟩
  rw[htt] at ldt t0 t1
  replace ldt:Gm.ld1 h (elP 1 tA (i:Int))=some (I (t:Int)):=ldt
  have idt:=hT'.idxG (i:=(i:Int)) oM hit
  have htN:t<N:=oM
  have idA:=hA'.idxG (i:=(t:Int)) oM (by rw[i0_]; omega)
  have ldA:=hA'.ld0 (H:=h) (i:=(t:Int)) (Ext.refl _) oM (by rw[i0_]; omega) oM
  rw[j6_ htN] at ldA
  obtain ⟨b,hbv⟩:∃b,bv c acc (t*D.length) D.length=b:=⟨_,rfl⟩
  rw[hbv] at ldA
  replace ldA:Gm.ld1 h (elP 1 all (t:Int))=some (I b):=ldA
  obtain ⟨s',h',o',k1,k2,k3,k4⟩:=app1I g (λz=>(po z).2) oM b
  have hl1:=f.len
  have hl2:=k4.len
  refine g5 @idt @ldt @idA @ldA @k1 ?_
  refine ih (i+1) h' s' o' (bs++[b]) oM (f.trans (k4.mono λo _ z=>by have:=(po z.1).1; omega)) k2 (λz=>?_) (by simp[hbl]) (m.snoc ?_)
  ·rcases (k3 z).1 with ⟨z1,z2⟩|z1
   ·have:=(po z2).1; exact ⟨oM,(k3 z).2⟩
   ·exact ⟨.inr oM,(k3 z).2⟩
  ·rw[hbl,htt,<-hbv]
   exact hlw t htN
theorem c3I {hb b1:Heap}{oo c0 v:Nat}{ts:List Int}{os oc' oe ov n:Nat}(hoo:hb.length<=oo)(ho0:oo<c0)(hT:Sl hb 1 tA (ts.map encI))(ht:∀t∈ts,0<=t/\t<N)(htl:ts.length<=1000000)(wv:WyV2 hb c0 b1 wp N es A Up Dn D acc)(ok:DOk D acc)(hN:N<=100)(hn:n=2*(N*D.length))(hn2:n<=1000000)(w0:SchW W b1 os wp q sc se sf oc' oe ov n cs ds fs M)(hW:∀o,W o->c0<=o)(hlw:∀(u:Nat) (out:Int),u<N->QB (gf cs) (AccS acc D.length u acc.length) out->LW es v u (λw=>gi acc (goS D 0 w)=true) (if out<0 then -1 else gf cs out.toNat)) :
  ∀(d i:Nat) (h:Heap) (out:AV) (oc:Nat) (bs:List Int),i+d=ts.length->FrS (λo=>o=oo\/b1.length<=o) b1 h->Gr oc (oc+1) h 1 out (bs.map encI)->(out≠.nils->(oc=oo\/b1.length<=oc)/\oc<h.length)->bs.length=i->ManyQ es D acc v ts bs->
   WP (λp:Nat × Nat=>a4Y p.1 p.2 out (.ptr os 0 5 0) (.fn j8_ [] []) tA (I ts.length) (I i) h) λr h'=>Ext hb h'/\∃bs:List Int,bs.length=ts.length/\Sl h' 1 r (bs.map encI)/\ManyQ es D acc v ts bs:=by
 have eb:=wv.eb
 have ebl:=eb.len
 intro d
 induction d with
 |zero=>
  intro i h out oc bs hi f g po hbl m
  refine WP.rnd (a9a · · ..) ?_
  obtain rfl:i=ts.length:=oM
  refine g0 ?_
  exact WP.ret ⟨f.ext eb λo o1 o2=>oM,bs,hbl,g.sl,m⟩
 |succ d ih=>
  intro i h out oc bs hi f g po hbl m
  refine WP.rnd (a9a · · ..) ?_
  have e:=f.ext eb λo o1 o2=>oM
  have hT':=hT.ext e
  have hit:(i:Int)<ts.length:=oM
  have ldt:=hT'.ld0 (H:=h) (i:=(i:Int)) (Ext.refl _) oM hit oM
  obtain ⟨t0,t1⟩:=ht _ (b7_ (xs:=ts) (i:=(i:Int)) oM hit)
  obtain ⟨t,htt⟩:∃t:Nat,gi ts (i:Int)=t:=⟨(gi ts (i:Int)).toNat,oM⟩
  rw[htt] at ldt t0 t1
  replace ldt:Gm.ld1 h (elP 1 tA (i:Int))=some (I (t:Int)):=ldt
  have idt:=hT'.idxG (i:=(i:Int)) oM hit
  have htN:t<N:=oM
  have wvh:=(wv.frs f λo o1 o2=>oM).wy
  have wh:=w0.frs f λo o1 o2 o3=>by have:=hW o o2; omega
  have hl1:=f.len
  refine g2 @idt @ldt ?_
  refine WP.call (b4f wvh ok hN hn hn2 wh htN) ?_
  rintro _ h2 ⟨e2,o,rfl,qb⟩
  have lw:=hlw t o htN qb
  have f2:=f.trans (FrS.ofExt (D:=λo=>o=oo\/b1.length<=o) e2)
  have hl2:=e2.len
  have fin:∀b,LW es v t (λw=>gi acc (goS D 0 w)=true) b->WP (λp:Nat × Nat=>a4Z p.1 p.2 out (.ptr os 0 5 0) (.fn j8_ [] []) (I b) tA (I ts.length) (I i) h2) λr h'=>Ext hb h'/\∃bs:List Int,bs.length=ts.length/\Sl h' 1 r (bs.map encI)/\ManyQ es D acc v ts bs:=by
   intro b hlb
   refine WP.congr (λi=>b3n i.1 i.2 ..) ?_
   obtain ⟨s',h',o',k1,k2,k3,k4⟩:=app1I (g.ext e2) (λz=>by have:=(po z).2; omega) oM b
   have hl3:=k4.len
   refine g1 @k1 ?_
   refine ih (i+1) h' s' o' (bs++[b]) oM (f2.trans (k4.mono λo _ z=>by have:=(po z.1).1; omega)) k2 (λz=>?_) (by simp[hbl]) (m.snoc ?_)
   ·rcases (k3 z).1 with ⟨z1,z2⟩|z1
    ·have:=(po z2).1; exact ⟨oM,(k3 z).2⟩
    ·exact ⟨.inr oM,(k3 z).2⟩
   ·rw[hbl,htt]; exact hlb
  by_cases o0:o<0
  ·rw[if_pos o0] at lw
   refine g0 ?_
   exact fin (-1) lw
  ·rw[if_neg o0] at lw
   have bnd:=qb.bnd (n:=n) (λx hx=>by
    obtain ⟨s,s1,s2,bb,rfl⟩:=hx
    have la:=ok.la
    have h1:=a4g (N:=N) (S:=D.length) (v:=(t:Int)) (s:=(s:Int)) oM oM oM oM bb
    omega)
   have w2:=wh.ext e2
   have ro:=w2.row
   have gc:=w2.gc.sl
   have idc:=gc.idxG (i:=o) oM (by rw[w2.lc]; omega)
   have ldc:=gc.ld0 (H:=h2) (i:=o) (Ext.refl _) oM (by rw[w2.lc]; omega) oM
   replace ldc:Gm.ld1 h2 (elP 1 sc o)=some (I (gi cs o)):=ldc
   have hgc:gf cs o.toNat=gi cs o:=by show gi cs ((o.toNat:Nat):Int)=_; rw[Int.toNat_of_nonneg oM]
   rw[hgc] at lw
   refine g3 @ro @idc @ldc ?_
   exact fin _ lw
end
section
variable {h:Heap} {N:Nat} {es:List E} {A:List Ar} {Up Dn:List (List Int)} {D:List (List Int)} {acc:List Bool} {x sD sAc tA:AV}
theorem b4g (hN:N<=100)(no:NetOk N es)(co:COk es)(xv:IxV h x N es A Up Dn)(ix:IxC N es A Up Dn)(ok:DOk D acc)(hD:Sl h 5 sD (D.map encR))(hA:Sl h 1 sAc (acc.map encB))(hn2:2*(N*D.length)<=1000000){v:Nat}(hv:v<N){ts:List Int}(hT:Sl h 1 tA (ts.map encI))(ht:∀t∈ts,0<=t/\t<N)(htl:ts.length<=1000000) :
  Tot tab p9_ [x,.agg [sD,sAc],I v,tA] h λr h'=>Ext h h'/\∃bs:List Int,bs.length=ts.length/\Sl h' 1 r (bs.map encI)/\ManyQ es D acc v ts bs:=by
 refine WP.tot (b5D · ..) ?_
 obtain ⟨sE,sR,sA,sU,sDn,us,ds,hx,hE,hR,hAr,hU,hDn,lu,ldd,hUp,hDp⟩:=xv.ex
 have o1:=hE.one
 have o2:=hAr.one
 have o3:=hU.one
 have o4:=hDn.one
 have o5:=hD.one
 have o6:=hA.one
 obtain ⟨h1,hh1⟩:∃h1,h1=(h++[AObj.cells ⟨[I N,sE,sR,sA,sU,sDn],0,0,false⟩])++[AObj.cells ⟨[sD,sAc],0,0,false⟩]:=⟨_,rfl⟩
 have e1:Ext h h1:=by rw[hh1]; exact (Ext.push _ _).app _
 have l1:h1.length=h.length+2:=by rw[hh1]; simp
 have rx:h1[h.length]?=some (.cells ⟨[I N,sE,sR,sA,sU,sDn],0,0,false⟩):=by rw[hh1,m2_ (by simp)]; simp
 have rd:h1[h.length+1]?=some (.cells ⟨[sD,sAc],0,0,false⟩):=by rw[hh1,r8_ (by simp)]; simp
 have hr2:∀a b c d e f:AV,rdNAt 2 (some (AObj.cells ⟨[a,b,c,d,e,f],0,0,false⟩)) 0 6 0=some (.agg [a,b]):=λ_ _ _ _ _ _=>rfl
 have hr6:rdNAt 6 (some (AObj.cells ⟨[I N,sE,sR,sA,sU,sDn],0,0,false⟩)) 0 6 0=some (.agg [I N,sE,sR,sA,sU,sDn]):=rfl
 have lnT:=hT.lenG
 have hmk:∀H:Heap,mkSl [I 0] 1 8 (I 0) (I ts.length) H=some (.sl H.length 0 0 1 none 0,mkObj H []):=λH=>c1j (l:=0) (c:=ts.length) (Int.le_refl _) oM oM oM rfl rfl
 rw[hx]
 refine g8 @o1 @hR @o2 @o3 @o4 @o5 @o6 @lnT ?_
 rw[<-hh1]
 rw[hmk]
 try simp only[b0O]
 have gO:=Gr.empty h1 1
 rw[a3_] at gO
 obtain ⟨h2,hh2⟩:∃h2,h2=h1++[AObj.cells ⟨[],0,0,false⟩]:=⟨_,rfl⟩
 have e2:Ext h1 h2:=by rw[hh2]; exact Ext.push _ _
 have l2:h2.length=h1.length+1:=by rw[hh2]; simp
 have rx2:=e2.get rx
 have rd2:=e2.get rd
 rw[a3_,<-hh2]
 rw[<-hh2] at gO
 refine g1 @rd2 ?_
 have e12:=e1.trans e2
 refine WP.call (b3a ok (hD.ext e12) (hA.ext e12)) ?_
 rintro _ h3 ⟨e3,rfl⟩
 have e13:=e12.trans e3
 have rx3:=e3.get rx2
 have rd3:=e3.get rd2
 cases hst:stdyB D with
 |false=>
  refine g3 @rx3 @rd3 @hr2 ?_
  refine WP.call (a2G no co oM (hE.ext e13) ok (hD.ext e13) (hA.ext e13) hv) ?_
  rintro all h4 ⟨e4,c,lc,ga⟩
  have e14:=e13.trans e4
  have hT4:=hT.ext e14
  have lnT4:=hT4.lenG
  have h3l:=e3.len
  have h4l:=e4.len
  exact WP.ent (c3H (hb:=h) (b1:=h4) (oo:=h1.length) (N:=N) (es:=es) e14 oM hT ga oM (Nat.le_refl _) ht htl (λu hu=>bv_lw ok no hv hu lc) ts.length 0 h4 _ h1.length [] oM (FrS.refl _ _) ((gO.ext e3).ext e4) (λ_=>⟨.inl rfl,oM⟩) rfl (λi hi=>by simp at hi)) λi=>rfl
 |true=>
  have sd:=a9N.1 hst
  refine g2 @rx3 @rd3 ?_
  refine WP.congr (b3o · ..) ?_
  refine g4 @rx3 @rd3 @hr6 @lnT ?_
  have xv':IxV h (.agg [I N,sE,sR,sA,sU,sDn]) N es A Up Dn:=hx▸xv
  refine WP.call (b1F e13 hN xv' ix.toIxS hD hA) ?_
  rintro wp h4 ⟨e4,wv⟩
  refine WP.call (b5e wv.wy ix.toIxS ok hN (n:=2*(N*D.length)) rfl hn2 hv) ?_
  rintro _ h5 ⟨e5,os,q,sc,se,sf,oc,oe,ov,rfl,id2,k2,rk2,cs2,ds2,fs2,M2,sw,di,hM,hk⟩
  have hvS:v*D.length<N*D.length:=by
   have:=spotN (N:=N) (v:=v) (S:=D.length) (s:=0) hv ok.l0
   simpa using this
  have lc:=di.lc (b3v ix.toIxS ok) (λy hy=>by have:y=2*(v*D.length):=hy; omega) hM
  have h3l:=e3.len
  have h4l:=e4.len
  have h5l:=e5.len
  have e15:=(e13.trans e4).trans e5
  have lnT5:=(hT.ext e15).lenG
  exact WP.ent (c3I (hb:=h) (b1:=h5) (oo:=h1.length) (c0:=h3.length) oM oM hT ht htl (wv.frs (FrS.ofExt (D:=λ_=>False) e5) λo _ z=>z.elim) ok hN rfl hn2 sw (λo z=>oM) (λu o hu qb=>q_lw no co ix ok sd hv hu lc qb) ts.length 0 h5 _ h1.length [] oM (FrS.refl _ _) (((gO.ext e3).ext e4).ext e5) (λ_=>⟨.inl rfl,oM⟩) rfl (λi hi=>by simp at hi)) λi=>rfl
end
end Go.Gm.AZ
namespace Go.Gm.AZ
open Go Go.Gm
theorem kOkW (h:OkW kE 0 l):l=[]\/l=[0]:=by
 rcases l with _|⟨a,_|⟨b,t⟩⟩
 ·exact .inl rfl
 ·have:=(h 0 a rfl).1
  simp[kE] at this
  exact .inr (by rw[this])
 ·have h1:=(h 0 a rfl).1
  have h2:=h 1 b rfl
  simp[kE] at h1 h2
  obtain ⟨rfl,h3⟩:=h2
  subst h1
  exact absurd h3 (by decide)
theorem kLW1:LW kE 0 1 (λw=>gi [true] (goS kD 0 w)=true) 4:=by
 refine ⟨.inr ⟨oM,[0],?_,rfl,rfl,rfl⟩,λl h1 h2 _=>?_⟩
 ·exact OkW.snoc (l:=[]) (λi e h=>by simp at h) (by simp[kE]) rfl
 ·rcases kOkW h1 with rfl|rfl
  ·exact absurd h2 (by decide)
  ·exact ⟨oM,by decide⟩
theorem kLW0:LW kE 0 0 (λw=>gi [true] (goS kD 0 w)=true) 0:=by
 refine ⟨.inr ⟨oM,[],?_,rfl,rfl,rfl⟩,λl h1 h2 _=>?_⟩
 ·exact λi e h=>by simp at h
 ·rcases kOkW h1 with rfl|rfl
  ·exact ⟨oM,by decide⟩
  ·exact absurd h2 (by decide)
section
variable {h:Heap} {A:List Ar} {Up Dn:List (List Int)} {x sD sAc tA:AV}
theorem kqRoute (xv:IxV h x 2 kE A Up Dn)(ix:IxC 2 kE A Up Dn)(hD:Sl h 5 sD (kD.map encR))(hA:Sl h 1 sAc ([true].map encB)) :
  Tot tab d4_ [x,.agg [sD,sAc],I 0,I 1] h λr h'=>Ext h h'/\∃sl,r=.tup [.agg [I 4,sl],.bool true]/\Sl h' 1 sl [[I 0]]:=by
 refine (y4_ (N:=2) (v:=0) (u:=1) oM kNet kCo xv ix kDok hD hA (by simp[kD]) oM oM).mono ?_
 rintro r h' ⟨e,b,lw,rq⟩
 obtain rfl:=lw.uniq kLW1
 refine ⟨e,?_⟩
 rcases rq with ⟨q,_⟩|⟨_,sl,ll,q2,q3,q4,q5,q6,_⟩
 ·omega
 ·rcases kOkW q5 with rfl|rfl
  ·exact absurd q6 (by decide)
  ·exact ⟨sl,q2,q3.sl⟩
theorem kqMany (xv:IxV h x 2 kE A Up Dn)(ix:IxC 2 kE A Up Dn)(hD:Sl h 5 sD (kD.map encR))(hA:Sl h 1 sAc ([true].map encB))(hT:Sl h 1 tA [[I 1],[I 0]]) :
  Tot tab p9_ [x,.agg [sD,sAc],I 0,tA] h λr h'=>Ext h h'/\Sl h' 1 r ([(4:Int),0].map encI):=by
 refine (b4g (N:=2) (v:=0) (ts:=[1,0]) oM kNet kCo xv ix kDok hD hA (by simp[kD]) oM hT (by simp) (by simp)).mono ?_
 rintro r h' ⟨e,bs,hb,sl,m⟩
 refine ⟨e,?_⟩
 match bs,hb with
 |[a,b],_=>
  have h1:=m 0 (by simp)
  have h2:=m 1 (by simp)
  have e1:gi [a,b] 0=4:=h1.uniq kLW1
  have e2:gi [a,b] 1=0:=h2.uniq kLW0
  obtain rfl:a=4:=e1
  obtain rfl:b=0:=e2
  exact sl
theorem kqMany0 (xv:IxV h x 2 kE A Up Dn)(ix:IxC 2 kE A Up Dn)(hD:Sl h 5 sD (kD.map encR))(hA:Sl h 1 sAc ([true].map encB)) :
  Tot tab p9_ [x,.agg [sD,sAc],I 0,.nils] h λr h'=>Ext h h'/\Sl h' 1 r []:=by
 refine (b4g (N:=2) (v:=0) (ts:=[]) oM kNet kCo xv ix kDok hD hA (by simp[kD]) oM (.inl ⟨rfl,rfl⟩) (by simp) (by simp)).mono ?_
 rintro r h' ⟨e,bs,hb,sl,m⟩
 obtain rfl:=List.eq_nil_of_length_eq_zero hb
 exact ⟨e,sl⟩
end
theorem a4h (h:Heap):Tot tab g3_ [] h λr h'=>r=.bool true/\Ext h h':=by
 refine WP.tot (a9s · ..) ?_
 refine g0 ?_
 obtain ⟨h1,hh1⟩:∃h1,h1=h++[AObj.cells ⟨[I 0,I 1,I 0,I 4],0,0,false⟩]:=⟨_,rfl⟩
 have e1:Ext h h1:=by rw[hh1]; exact eX
 have r0:h1[h.length]?=some (.cells ⟨encE ⟨0,1,0,4⟩,0,0,false⟩):=by rw[hh1]; refine g0 ?_; try rfl
 have hs:Sl h1 4 (.sl h.length 0 1 4 none 0) (kE.map encE):=b0p r0 rfl
 rw[<-hh1]
 refine WP.call (a4L (N:=2) oM kNet kCo hs) ?_
 rintro x h2 ⟨e2,A,Up,Dn,xv,ix⟩
 obtain ⟨sE,sR,sA,sU,sDn,us,ds,hx,hE,hR,hAr,hU,hDn,lu,ldd,hUp,hDp⟩:=xv.ex
 have o1:=hE.one
 have o2:=hAr.one
 have o3:=hU.one
 have o4:=hDn.one
 have hr6:rdNAt 6 (some (AObj.cells ⟨[I (2:Nat),sE,sR,sA,sU,sDn],0,0,false⟩)) 0 6 0=some (.agg [I (2:Nat),sE,sR,sA,sU,sDn]):=rfl
 have hr2:∀a b:AV,rdNAt 2 (some (AObj.cells ⟨[a,b],0,0,false⟩)) 0 2 0=some (.agg [a,b]):=λ_ _=>rfl
 rw[hx]
 refine g5 @o1 @hR @o2 @o3 @o4 ?_
 obtain ⟨h3,hh3⟩:∃h3,h3=(List.set (List.set (h2++[AObj.cells ⟨[I 0,.nils,.nils,.nils,.nils,.nils],0,0,false⟩]) h2.length (AObj.cells ⟨[I (2:Nat),sE,sR,sA,sU,sDn],0,0,false⟩) ++
   [AObj.cells ⟨[I 0,I 0,I 0,I 0,I 0],0,0,false⟩]++[AObj.cells ⟨[AV.bool true],0,0,false⟩]++[AObj.cells ⟨[.nils,.nils],0,0,false⟩])
   (h2.length+1+1+1) (AObj.cells ⟨[AV.sl (h2.length+1) 0 1 5 none 0,AV.sl (h2.length+1+1) 0 1 1 none 0],0,0,false⟩)):=⟨_,rfl⟩
 have e3:Ext h2 h3:=by rw[hh3]; exact eX
 have r1:h3[h2.length]?=some (.cells ⟨[I (2:Nat),sE,sR,sA,sU,sDn],0,0,false⟩):=by rw[hh3]; simp -implicitDefEqProofs (disch:=first|assumption|omega|(simp only[gL,gA]<;>omega)|fail) only[cG,reduceIte]; try rfl
 have r2:h3[h2.length+1]?=some (.cells ⟨encR [0,0,0,0,0],0,0,false⟩):=by rw[hh3]; refine g0 ?_; try rfl
 have r3:h3[h2.length+1+1]?=some (.cells ⟨encB true,0,0,false⟩):=by rw[hh3]; refine g0 ?_; try rfl
 have r4:h3[h2.length+1+1+1]?=some (.cells ⟨[AV.sl (h2.length+1) 0 1 5 none 0,AV.sl (h2.length+1+1) 0 1 1 none 0],0,0,false⟩):=by rw[hh3]; simp -implicitDefEqProofs (disch:=first|assumption|omega|(simp only[gL,gA]<;>omega)|fail) only[cG,reduceIte]; try rfl
 have hD:Sl h3 5 (.sl (h2.length+1) 0 1 5 none 0) (kD.map encR):=b0p r2 rfl
 have hA:Sl h3 1 (.sl (h2.length+1+1) 0 1 1 none 0) ([true].map encB):=b0p r3 rfl
 have xv3:=(hx▸xv:IxV h2 (.agg [I (2:Nat),sE,sR,sA,sU,sDn]) 2 kE A Up Dn).ext e3
 rw[<-hh3]
 refine WP.call (kqRoute xv3 ix hD hA) ?_
 rintro _ h4 ⟨e4,sl,rfl,hsl⟩
 have r14:=e4.get r1
 have r44:=e4.get r4
 have b1:=(List.getElem?_eq_some_iff.1 r14).1
 have b4:=(List.getElem?_eq_some_iff.1 r44).1
 refine g8 @a4_ @a5_ hsl.one hsl.cells @r14 @r44 @hr6 @hr2 ?_
 obtain ⟨h5,hh5⟩:∃h5,h5=((h4++[AObj.cells ⟨[I 0,.nils],0,0,false⟩]).set h4.length (.cells ⟨[I 4,sl],0,0,false⟩))++[AObj.cells ⟨[I 1,I 0],0,0,false⟩]:=⟨_,rfl⟩
 have e5:Ext h4 h5:=by rw[hh5]; exact eX
 have q5:h5[h4.length]?=some (.cells ⟨[I 4,sl],0,0,false⟩):=by rw[hh5]; simp -implicitDefEqProofs (disch:=first|assumption|omega|(simp only[gL,gA]<;>omega)|fail) only[cG,reduceIte]; try rfl
 have t5:h5[h4.length+1]?=some (.cells ⟨[I 1,I 0],0,0,false⟩):=by rw[hh5]; simp -implicitDefEqProofs (disch:=first|assumption|omega|(simp only[gL,gA]<;>omega)|fail) only[cG,reduceIte]; try rfl
 have hT:Sl h5 1 (.sl (h4.length+1) 0 2 1 none 0) [[I 1],[I 0]]:=.inr ⟨_,0,none,0,_,rfl,t5,Nat.le_refl _,rfl,by simp⟩
 have e45:=e4.trans e5
 rw[<-hh5]
 refine WP.call (kqMany (xv3.ext e45) ix (hD.ext e45) (hA.ext e45) hT) ?_
 rintro m2 h6 ⟨e6,z6⟩
 have r16:=(e5.trans e6).get r14
 have r46:=(e5.trans e6).get r44
 refine g4 @r16 @r46 @hr6 @hr2 ?_
 have e46:=e45.trans e6
 refine WP.call (kqMany0 (xv3.ext e46) ix (hD.ext e46) (hA.ext e46)) ?_
 rintro m0 h7 ⟨e7,z7⟩
 have q7:=(e6.trans e7).get q5
 have l7:=z7.len
 have ls:=hsl.len
 simp only[List.length_nil,List.length_cons] at l7 ls
 have z67:=z6.ext e7
 have g0:gi [(4:Int),0] 0=4:=rfl
 have g1:gi [(4:Int),0] 1=0:=rfl
 refine g9 @q7 @l7 @ls z67.lenG z67.idxG z67.ld0 @g0 @g1 @encI.eq_1 ?_
 exact WP.ret ⟨rfl,((((e1.trans e2).trans e3).trans e46)).trans e7⟩
end Go.Gm.AZ
namespace Go.Gm.AZ
open Go Go.Gm
theorem h0_ {a n:Int}(hn:0<n)(hf:Fit n)(h:Heap):Tot tab b1_ [I a,I n] h λv h'=>v=I (a % n)/\h=h':=by
 refine WP.tot (a8V · ..) ?_
 refine WP.oa (a8F a n oM) ?_
 refine WP.oa (a6U _ _) ?_
 have hlt:=Int.tmod_lt_of_pos a hn
 have hgt:=Int.lt_tmod_of_pos a hn
 have h1:=Int.tmod_eq_emod (a:=a) (b:=n)
 have h2:=Int.emod_nonneg a (by omega:n≠0)
 have h3:=Int.emod_lt_of_pos a hn
 by_cases h0:a.tmod n<0
 ·simp only[decide_eq_true h0,a2L]
  refine WP.oa (a8E _ _ (by unfold Fit at *; omega)) (WP.ret ⟨?_,rfl⟩)
  congr 1
  split at h1<;>omega
 ·simp only[decide_eq_false h0,a1M]
  refine WP.ret ⟨?_,rfl⟩
  congr 1
  split at h1<;>omega
theorem DOk.wr (ok:DOk D acc){s m:Nat}{x:Int}(s1:s<D.length)(m1:m<5)(x0:0<=x)(x1:x<D.length):DOk (D.set s ((gi D s).set m x)) acc:=by
 have hr:=ok.row s oM oM
 refine ⟨by simpa using ok.l0,by simpa using ok.l1,by simpa using ok.la,λt t0 t1=>?_,λt k t0 t1 k0 k1=>?_⟩
 ·obtain ⟨t,rfl⟩:∃t':Nat,t=t':=⟨t.toNat,oM⟩
  simp only[List.length_set] at t1
  rw[giset2 s1]
  split
  ·rw[List.length_set]; exact hr
  ·exact ok.row _ t0 t1
 ·obtain ⟨t,rfl⟩:∃t':Nat,t=t':=⟨t.toNat,oM⟩
  obtain ⟨k,rfl⟩:∃k':Nat,k=k':=⟨k.toNat,oM⟩
  simp only[List.length_set] at t1 ⊢
  rw[giset2 s1]
  split
  ·rename_i q
   rw[giset2 oM]
   split
   ·exact ⟨x0,x1⟩
   ·exact ok.to _ _ oM oM k0 k1
  ·exact ok.to _ _ t0 t1 k0 k1
structure RI (hb:Heap) (oD n:Nat) (sD:AV) (acc:List Bool) (h:Heap) (D:List (List Int)):Prop where
 fr:FrS (λo=>o=oD) hb h
 g:Gr oD (oD+1) h 5 sD (D.map encR)
 ok:DOk D acc
 ln:D.length=n
end Go.Gm.AZ
namespace Go.Gm.AZ
open Go Go.Gm
end Go.Gm.AZ
namespace Go.Gm.AZ
open Go Go.Gm
def ofM (es:List E)(m:Nat):List E:=es.filter λe=>e.md == (m:Int)
structure PkI (h0:Heap) (on oo N m:Nat) (s:AV) (es:List E) (i:Nat) (h:Heap) (s2:AV):Prop where
 fr:FrS (λo=>o=oo\/h0.length<=o) h0 h
 ro:h[oo]?=some (.cells ⟨[I N,s2],0,0,false⟩)
 g:Gr h0.length h.length h 4 s2 ((ofM (es.take i) m).map encE)
end Go.Gm.AZ
namespace Go.Gm.AZ
open Go Go.Gm
theorem a2d {h:Heap}{o sz:Nat}{css:List (List AV)}{n:Nat}(hr:h[o]?=some (.cells ⟨css.flatten,0,0,false⟩))(hn:n=css.length)(hl:∀c∈css,c.length=sz):Sl h sz (.sl o 0 n sz none 0) css:=by
 subst hn
 exact .inr ⟨o,0,none,0,_,rfl,hr,Nat.le_refl _,by rw[List.drop_zero,List.take_of_length_le (by rw[Go.Gm.flatten_len hl]; omega)],hl⟩
def kS:List AV:=kns.map λx=>.str (ofL (txt x.n))
def kU:List Int:=kns.map λx=>(x.u:Int)
end Go.Gm.AZ
namespace Go.Gm.AZ
open Go Go.Gm
def snB (n:Nd):Bool:=
 gdB n && (decide ((txt n).length<=200/\cst n+18<=900000/\dp n<=30) &&
  match nfaF n with
  |none=>false
  |some nf=>(subF nf 200).isSome)
end Go.Gm.AZ
namespace Go.Gm.AZ
open Go Go.Gm
def cns (k:Nat):List Nd:=[.rep k k (.set 31),.star (.join [.set 31,.set 31]),.join [.star (.join [.set 31,.set 31,.set 31]),.set 31],.rep k 9 (.set 3),.join [.rep 0 k (.set 1),.star (.set 2)]]
theorem c9A {k:Nat}(h:k<5):(cns k).all snB=true:=by
 have:k=0\/k=1\/k=2\/k=3\/k=4:=oM
 rcases this with rfl|rfl|rfl|rfl|rfl<;>decide +kernel
theorem cn_ok (h0:snB n=true):Gd n/\Bd n/\((txt n).length<=200/\cst n+18<=900000/\dp n<=30)/\∃nf D acc,nfaF n=some nf/\subF nf 200=some (D,acc):=by
 have h1:=h0
 simp only[snB,Bool.and_eq_true,decide_eq_true_eq] at h1
 obtain ⟨h2,h3,h4⟩:=h1
 obtain ⟨g,bd⟩:=b2c _ h2
 cases hn:nfaF n with
 |none=>rw[hn] at h4; cases h4
 |some nf=>
  rw[hn] at h4
  obtain ⟨⟨D,acc⟩,hs⟩:=Option.isSome_iff_exists.1 h4
  exact ⟨g,bd,h3,nf,D,acc,rfl,hs⟩
def cS (k:Nat):List AV:=(cns k).map λn=>.str (ofL (txt n))
def cT (k i:Nat):ByteArray:=ofL (txt ((cns k).getD i .emp))
theorem cstr {k:Nat}(h:k<5):∃a b c d e f:AV,
  binV .add .scalar (.str ⟨#[46,123]⟩) (.str ⟨#[UInt8.ofNat (48+k)]⟩)=some a/\binV .add .scalar a (.str ⟨#[44]⟩)=some b/\binV .add .scalar b (.str ⟨#[UInt8.ofNat (48+k)]⟩)=some c/\binV .add .scalar c (.str ⟨#[125]⟩)=some (.str (cT k 0))/\
  binV .add .scalar (.str ⟨#[91,119,98,93,123]⟩) (.str ⟨#[UInt8.ofNat (48+k)]⟩)=some d/\binV .add .scalar d (.str ⟨#[44,57,125]⟩)=some (.str (cT k 3))/\binV .add .scalar (.str ⟨#[119,123,48,44]⟩) (.str ⟨#[UInt8.ofNat (48+k)]⟩)=some e/\binV .add .scalar e (.str ⟨#[125,98,42]⟩)=some (.str (cT k 4))/\(.str ⟨#[40,46,46,41,42]⟩:AV)=.str (cT k 1)/\(.str ⟨#[40,46,46,46,41,42,46]⟩:AV)=.str (cT k 2):=by
 have:k=0\/k=1\/k=2\/k=3\/k=4:=oM
 refine ⟨.str (ofL ([46,123]++[48+k])),.str (ofL ([46,123]++[48+k]++[44])),.str (ofL ([46,123]++[48+k]++[44]++[48+k])),.str (ofL ([91,119,98,93,123]++[48+k])),.str (ofL ([119,123,48,44]++[48+k])),.nils,?_,?_,?_,?_,?_,?_,?_,?_,?_,?_⟩<;>rcases this with rfl|rfl|rfl|rfl|rfl<;>kernel_rfl
set_option maxHeartbeats 2000000 in
theorem c9B {h0:Heap} {N on ox v u k:Nat} {s sX sR sAr sU sDn tS:AV} {es:List E} {A:List Ar} {Up Dn:List (List Int)} (hk:k<5) (hN:1<=N/\N<=12) (no:NetOk N es) (co:COk es) (xv:IxV h0 (.agg [I N,sX,sR,sAr,sU,sDn]) N es A Up Dn) (ix:IxC N es A Up Dn) (hvN:v<N) (huN:u<N)
  (hE:Sl h0 4 s (es.map encE)) (rn:h0[on]?=some (.cells ⟨[I N,s],0,0,false⟩)) (rx:h0[ox]?=some (.cells ⟨[I N,sX,sR,sAr,sU,sDn],0,0,false⟩)) (sS:Sl h0 1 tS ((cS k).map enc1)) :
  ∀(d i:Nat) (h:Heap),i+d=5->Ext h0 h->WP (λp:Nat × Nat=>c6X p.1 p.2 (.ptr on 0 2 0) tS (.ptr ox 0 6 0) (I v) (I u) (I i) h) λr h'=>r=.bool true:=by
 have lS:(cS k).length=5:=rfl
 intro d
 induction d with
 |zero=>
  intro i h hi e
  refine WP.rnd (c8k · · ..) ?_
  obtain rfl:i=5:=oM
  have sS0:=sS.ext e
  refine g2 sS0.lenG @lS ?_
  exact WP.ret rfl
 |succ d ih=>
  intro i h hi e
  refine WP.rnd (c8k · · ..) ?_
  have sS0:=sS.ext e
  have hi5:i<(cns k).length:=by show i<5; omega
  obtain ⟨x,hx⟩:∃x,x=(cns k)[i]'hi5:=⟨_,rfl⟩
  have hm:x∈cns k:=by rw[hx]; exact List.getElem_mem _
  have gS:gi (cS k) (i:Int)=.str (ofL (txt x)):=by rw[b2_ oM,hx]; exact List.getElem_map _
  obtain ⟨g,bd,⟨z1,z2,z3⟩,nf,D0,acc0,hnf,hsb⟩:=cn_ok (List.all_eq_true.1 (c9A hk) x hm)
  have e0:=Ext.refl h
  simp -implicitDefEqProofs (disch:=first|assumption|omega|exact Ext.refl _|(simp only[gL,gA]<;>omega)|fail) only[cG,reduceIte,sS0.lenG,lS,sS0.idxG,sS0.ld0,enc1,gS]
  refine WP.call (y9_ (by rw[q7_]; exact z1) z2 (a6T g z3) g bd h) ?_
  rintro r h1 ⟨e1,q3⟩
  simp only[CmpQ,hnf,hsb] at q3
  obtain ⟨vv,rfl,D,acc,sD,sA,rfl,gN,gcc,ok,hle,hw⟩:=q3
  have hlD:=a6P hsb
  have o1:=gN.sl.one
  have o2:=gcc.sl.one
  have rn1:=e1.get (e.get rn)
  have hn1:N*D.length<=12*200:=Nat.mul_le_mul hN.2 oM
  have hn2:2*(N*D.length)*(N+1)<=1000000:=by
   have h2:2*(N*D.length)*(N+1)<=4800*13:=Nat.mul_le_mul oM oM
   omega
  refine g4 @a4_ @a5_ @o1 @o2 ?_
  obtain ⟨h2,hh2⟩:∃h2,h2=(h1++[AObj.cells ⟨[.nils,.nils],0,0,false⟩]).set h1.length (AObj.cells ⟨[sD,sA],0,0,false⟩):=⟨_,rfl⟩
  have e2:Ext h1 h2:=by rw[hh2]; exact eX
  have rd2:h2[h1.length]?=some (.cells ⟨[sD,sA],0,0,false⟩):=by rw[hh2]; exact t0'
  rw[<-hh2]
  have rn2:=e2.get rn1
  have ee2:=(e.trans e1).trans e2
  have hD:=gN.sl.ext e2
  have hA:=gcc.sl.ext e2
  refine g2 @rn2 @rd2 ?_
  refine WP.call (a4K no co oM (hE.ext ee2) ok hD hA hvN) ?_
  rintro xcs h3 ⟨e3,c,lc,g1⟩
  have ee:=ee2.trans e3
  have rn3:=e3.get rn2
  have rd3:=e3.get rd2
  have rx3:=ee.get rx
  have hcl:=i0_ N D.length c acc
  have hcg:=j6_ (S:=D.length) (c:=c) (acc:=acc) huN
  obtain ⟨B,hB⟩:∃B,bv c acc (u*D.length) D.length=B:=⟨_,rfl⟩
  have lw:=bv_lw ok no hvN huN lc
  rw[hB] at lw hcg
  have hr6:rdNAt 6 (some (AObj.cells ⟨[I N,sX,sR,sAr,sU,sDn],0,0,false⟩)) 0 6 0=some (.agg [I N,sX,sR,sAr,sU,sDn]):=rfl
  refine g4 @rn3 @rd3 @rx3 @hr6 ?_
  refine WP.call (y4_ oM no co (xv.ext ee) ix ok (hD.ext e3) (hA.ext e3) hn2 hvN huN) ?_
  rintro rr h6 ⟨e6,b,lw6,rq⟩
  obtain rfl:=lw.uniq lw6
  have rn6:=e6.get rn3
  have rd6:=e6.get rd3
  have bn6:=(List.getElem?_eq_some_iff.1 rn6).1
  have bd6:=(List.getElem?_eq_some_iff.1 rd6).1
  have hn:=λH eH=>ih (i+1) H oM ((ee.trans e6).trans eH)
  rcases rq with ⟨c0,rfl⟩|⟨c0,sl,ll,rfl,hgl,hll,ow,hu',hac,hc⟩
  ·refine g4 @a4_ @a5_ @rn6 @rd6 ?_
   obtain ⟨h7,hh7⟩:∃h7,h7=((h6++[AObj.cells ⟨[I 0,.nils],0,0,false⟩]).set h6.length (.cells ⟨[I 0,.nils],0,0,false⟩)):=⟨_,rfl⟩
   have e7:Ext h6 h7:=by rw[hh7]; exact eX
   have r7:h7[h6.length]?=some (.cells ⟨[I 0,.nils],0,0,false⟩):=by rw[hh7]; exact a0_ (by simp)
   have xc7:=g1.sl.ext (e6.trans e7)
   rw[<-hh7]
   have hneg:¬0<=B:=oM
   refine g8 xc7.idxG xc7.ld0 @hcl @encI.eq_1 @hcg (decide_eq_false hneg) @neq_b @r7 ?_
   exact hn h7 e7
  ·have hsl:=hgl.sl
   refine g6 @a4_ @a5_ hsl.one hsl.cells @rn6 @rd6 ?_
   obtain ⟨h7,hh7⟩:∃h7,h7=((h6++[AObj.cells ⟨[I 0,.nils],0,0,false⟩]).set h6.length (.cells ⟨[I B,sl],0,0,false⟩)):=⟨_,rfl⟩
   have e7:Ext h6 h7:=by rw[hh7]; exact eX
   have r7:h7[h6.length]?=some (.cells ⟨[I B,sl],0,0,false⟩):=by rw[hh7]; exact a0_ (by simp)
   have e07:=(ee.trans e6).trans e7
   have e37:=(e3.trans e6).trans e7
   have rn7:=e7.get rn6
   have rd7:=e7.get rd6
   have xc7:=g1.sl.ext (e6.trans e7)
   rw[<-hh7]
   refine g10 xc7.idxG xc7.ld0 @hcl @encI.eq_1 @hcg (decide_eq_true c0) @neq_b @r7 @rn7 @rd7 ?_
   refine WP.call (a7Z no co ok (hE.ext e07) (hD.ext e37) (hA.ext e37) (hsl.ext e7) hll hvN huN ow hu' hc hac) ?_
   rintro _ h8 ⟨rfl,e8⟩
   refine g0 ?_
   exact hn h8 (e7.trans e8)
theorem qcounts_spec {h:Heap}{size times frm to:Int}{ns:AV}{zs:List Int}(hns:Sl h 1 ns (zs.map encI)) :
  Tot tab c7K [I size,ns,I times,I frm,I to] h λr _=>r=.bool true:=by
 refine WP.tot (c8z · ..) ?_
 refine WP.call (a4h h) ?_
 rintro _ h1 ⟨rfl,e1⟩
 simp -implicitDefEqProofs (disch:=first|assumption|omega|(simp only[gL,gA]<;>omega)|fail) only[cG,reduceIte]
 refine WP.call (a0B (hns.ext e1)) ?_
 rintro _ h2 ⟨e2,s,rfl,g2⟩
 have no:=a5H size zs 0
 have co:=a5I size zs 0
 have hN:=u3_ size
 obtain ⟨N,hNN⟩:∃N:Nat,mkN size=N:=⟨(mkN size).toNat,oM⟩
 rw[hNN] at no hN
 rw[hNN]
 generalize mkE size zs 0=es at no co g2
 have gs:=g2.sl
 simp -implicitDefEqProofs (maxSteps:=1000000) (disch:=first|assumption|omega|(simp only[gL]<;>omega)|((repeat (first|exact Ext.refl _|assumption|apply Ext.app|apply Ext.mk|(refine Ext.setr ?_ (by (first|omega|(simp only[gL]<;>omega))) _))); done)|(simp only[gL,gA,gs.one,gs.cells]<;>omega)|fail) only[gB,setAll,partL,fldV,reduceIte,Nat.reduceAdd,Nat.reduceMul,gs.one,gs.cells]
 obtain ⟨h3,hh3⟩:∃h3,h3=(h2++[AObj.cells ⟨[I 0,.nils],0,0,false⟩]).set h2.length (AObj.cells ⟨[I N,s],0,0,false⟩):=⟨_,rfl⟩
 have e3:Ext h2 h3:=by rw[hh3]; exact eX
 have rn:h3[h2.length]?=some (.cells ⟨[I N,s],0,0,false⟩):=by rw[hh3]; exact t0'
 rw[<-hh3]
 refine WP.call (h0_ oM (by unfold Fit; omega) _) ?_
 rintro _ _ ⟨rfl,rfl⟩
 obtain ⟨k,hk⟩:∃k:Nat,times % (5:Int)=k:=⟨(times % (5:Int)).toNat,by have:=Int.emod_nonneg times (show (5:Int)≠0 by omega); omega⟩
 have hk5:k<5:=by have:=Int.emod_lt_of_pos times (show (0:Int)<5 by omega); omega
 rw[hk]
 obtain ⟨a,b,c,d,e,_,q1,q2,q3,q4,q5,q6,q7,q8,q9,q10⟩:=cstr hk5
 have hcv:convV .u8 (I (48+(k:Int)))=some (.int .u8 (48+k)):=by
  have:k=0\/k=1\/k=2\/k=3\/k=4:=oM
  rcases this with rfl|rfl|rfl|rfl|rfl<;>rfl
 have hb2:b2sV (h3++[AObj.cells ⟨[AV.int .u8 (48+k)],0,0,false⟩]) (.sl h3.length 0 1 1 none 0)=some (.str ⟨#[UInt8.ofNat (48+k)]⟩):=by
  have:(48+(k:Int)).toNat=48+k:=oM
  simp[b2sV,rdc,b2sL,this]
 rw[q9,q10]
 refine g10 @hcv @hb2 @q1 @q2 @q3 @q4 @q5 @q6 @q7 @q8 ?_
 obtain ⟨h4,hh4⟩:∃h4,h4=h3++[AObj.cells ⟨[AV.int .u8 (48+k)],0,0,false⟩]++[AObj.cells ⟨[.str (cT k 0),.str (cT k 1),.str (cT k 2),.str (cT k 3),.str (cT k 4)],0,0,false⟩]:=⟨_,rfl⟩
 have e4:Ext h3 h4:=by rw[hh4]; exact eX
 have rn4:=e4.get rn
 have rS:h4[h3.length+1]?=some (.cells ⟨((cS k).map enc1).flatten,0,0,false⟩):=by rw[hh4]; simp; rfl
 have sS:Sl h4 1 (.sl (h3.length+1) 0 5 1 none 0) ((cS k).map enc1):=a2d rS rfl λc hc=>by obtain ⟨x,_,rfl⟩:=List.mem_map.1 hc; rfl
 rw[<-hh4]
 have e34:=e3.trans e4
 refine g1 @rn4 ?_
 refine WP.call (a4L (N:=N) oM no co (gs.ext e34)) ?_
 rintro x h5 ⟨e5,A,Up,Dn,xv,ix⟩
 obtain ⟨sE,sR,sAr,sU,sDn,us,ds,hx,hE2,hR,hAr,hU,hDn,lu,ldd,hUp,hDp⟩:=xv.ex
 have o1:=hE2.one
 have o2:=hAr.one
 have o3:=hU.one
 have o4:=hDn.one
 have rn5:=e5.get rn4
 have bn5:=(List.getElem?_eq_some_iff.1 rn5).1
 rw[hx]
 refine g6 @o1 @hR @o2 @o3 @o4 @rn5 ?_
 obtain ⟨h6,hh6⟩:∃h6,h6=(h5++[AObj.cells ⟨[I 0,.nils,.nils,.nils,.nils,.nils],0,0,false⟩]).set h5.length (AObj.cells ⟨[I N,sE,sR,sAr,sU,sDn],0,0,false⟩):=⟨_,rfl⟩
 have e6:Ext h5 h6:=by rw[hh6]; exact eX
 have rx6:h6[h5.length]?=some (.cells ⟨[I N,sE,sR,sAr,sU,sDn],0,0,false⟩):=by rw[hh6]; exact a0_ (by simp)
 rw[<-hh6]
 have rn6:=e6.get rn5
 refine WP.call (h0_ oM (by unfold Fit; omega) _) ?_
 rintro _ _ ⟨rfl,rfl⟩
 obtain ⟨v,hv⟩:∃v:Nat,frm % (N:Int)=v:=⟨(frm % (N:Int)).toNat,by have:=Int.emod_nonneg frm (show (N:Int)≠0 by omega); omega⟩
 have hvN:v<N:=by have:=Int.emod_lt_of_pos frm (show (0:Int)<N by omega); omega
 rw[hv]
 refine g1 @rn6 ?_
 refine WP.call (h0_ oM (by unfold Fit; omega) _) ?_
 rintro _ _ ⟨rfl,rfl⟩
 obtain ⟨u,hu⟩:∃u:Nat,to % (N:Int)=u:=⟨(to % (N:Int)).toNat,by have:=Int.emod_nonneg to (show (N:Int)≠0 by omega); omega⟩
 have huN:u<N:=by have:=Int.emod_lt_of_pos to (show (0:Int)<N by omega); omega
 rw[hu]
 have e46:=e5.trans e6
 have xv':IxV h5 (.agg [I N,sE,sR,sAr,sU,sDn]) N es A Up Dn:=hx▸xv
 exact WP.ent (c9B hk5 oM no co (xv'.ext e6) ix hvN huN (gs.ext (e34.trans e46)) rn6 rx6 (sS.ext e46) 5 0 h6 oM (Ext.refl _)) λi=>rfl
end Go.Gm.AZ
namespace Go.Gm
open Go.RowKit
def roObj (cs:List AV):AObj:=.cells ⟨cs,0,0,true⟩
def initH (L:List (List AV × Option Loc)):Heap:=L.map λp=>roObj p.1
def initR (L:List (List AV × Option Loc)):Ren:=⟨λo g=>if g=0 then (L[o]?).bind (·.2) else none,λ_=>none⟩
def EntOk (W:World)(φ:Ren)(p:List AV × Option Loc):Prop:=∀l,p.2=some l->∃C e fr,W.heap[l.b]?=some (.cells C e fr)/\C.size=l.N/\l.n=p.1.length/\CellsAt φ p.1 l C
theorem initS {L:List (List AV × Option Loc)}(hL:∀p∈L,EntOk W (initR L) p) :
  S W.heap.size W (initR L) (initH L) W:=by
 have got:∀o g l,(initR L).c o g=some l->g=0/\∃cs,L[o]?=some (cs,some l):=λo g l h=>by
  simp only[initR] at h
  split at h
  ·rename_i hg
   cases hq:L[o]? with
   |none=>rw[hq] at h; cases h
   |some p=>rw[hq] at h; exact ⟨hg,p.1,by rw[<-(show p.2=some l from h)]⟩
  ·cases h
 have ro:∀o g l,(initR L).c o g=some l->isRo (initH L) o=true:=λo g l h=>by
  obtain ⟨_,cs,hq⟩:=got o g l h
  simp[isRo,initH,hq,roObj]
 refine ⟨⟨λo g l h=>?_,λo b h=>(by cases h),λo g l o' g' l' h h' _=>.inr ⟨ro o g l h,ro o' g' l' h'⟩,λo b o' b' h=>(by cases h)⟩,Below.refl _ _,Nat.le_refl _⟩
 obtain ⟨hg,cs,hq⟩:=got o g l h
 subst hg
 obtain ⟨C,e,fr,h1,h2,h3,h4⟩:=hL _ (List.mem_of_getElem? hq) l rfl
 exact ⟨⟨cs,0,0,true⟩,by simp[initH,hq,roObj],Nat.le_refl _,Nat.le_refl _,⟨C,e,fr,h1,h2,λq=>(by cases q),λ_=>h4⟩,λ_=>h3⟩
theorem entry (hv:Valid P T){L:List (List AV × Option Loc)}(hL:∀p∈L,EntOk W (initR L) p)(ha:VRs (initR L) args args')(ht:Tot T f args (initH L) Q)(hq:∀v h,Q v h->v=.bool true) :
  Calls P f args'.toArray W λe w'=>e=.returned (.bool true)/\Below W.heap.size W w':=by
 obtain ⟨v,h',h1,N,hN⟩:=ht
 have hv1:=hq v h' h1
 subst hv1
 obtain ⟨_,h2⟩:=fnSim (B:=W.heap.size) (w0:=W) hv N f args (initH L) _ _ (hN N (Nat.le_refl N))
 refine (h2 _ W args' ha (initS hL)).mono ?_
 rintro e w' ⟨ψ,v',rfl,k1,k2,k3⟩
 cases k1
 exact ⟨rfl,k2.below⟩
theorem intsArg {W:World}{a:Addr}{len cap:Nat}{zs:List Int}(hl:len<=cap)(hm:cap<=maxLen)(hz:zs.length=cap)(hc:∀i,i<zs.length->W.cell? (a.add i)=some (.int .i64 (zs.getD i 0)))(o:Nat) :
  ∃(p:List AV × Option Loc) (x:AV),(∀φ,EntOk W φ p)/\∀L:List (List AV × Option Loc),L[o]?=some p->VR (initR L) x (.slice (some a) len cap)/\Sl (initH L) 1 x ((zs.take len).map fun n=>[I n]):=by
 by_cases h0:0<zs.length
 ·obtain ⟨b,off,rfl,hcell⟩:=Go.ints_at hc h0
  have h1:=hcell 0 h0
  obtain ⟨C,e,fr,hb,hC⟩:∃C e fr,W.heap[b]?=some (.cells C e fr)/\∀j,j<zs.length->C[off+j]?=some (.int .i64 (zs.getD j 0)):=by
   simp only[World.cell?] at h1
   cases hh:W.heap[b]? with
   |none=>rw[hh] at h1; cases h1
   |some ob=>
    cases ob with
    |cells C e fr=>
     refine ⟨C,e,fr,rfl,fun j hj=>?_⟩
     have:=hcell j hj
     simpa [World.cell?,hh] using this
    |_=>rw[hh] at h1; cases h1
  have hN:off+cap<=C.size:=by
   have:=(Array.getElem?_eq_some_iff.1 (hC (zs.length-1) (by omega))).1
   omega
  refine ⟨(zs.map I,some ⟨b,off,C.size,cap⟩),.sl o 0 len 1 (some cap) 0,fun φ l hl'=>?_,fun L hL=>⟨?_,?_⟩⟩
  ·injection hl' with hl'
   subst hl'
   refine ⟨C,e,fr,hb,rfl,by simp[hz],by simp[hz],hN,fun i hi=>?_⟩
   refine ⟨I (zs.getD i 0),_,?_,hC i (by simpa [hz] using hi),.int _ _,rfl⟩
   simp only at hi
   simp[List.getD_eq_getElem?_getD,hz,hi]
  ·refine VR.sl (l:=⟨b,off,C.size,cap⟩) ?_ (by simp; exact hl) hl hm (by simp; exact hN) (fun c q=>by injection q)
   simp[initR,hL]
  ·refine .inr ⟨o,0,some cap,0,⟨zs.map I,0,0,true⟩,?_,?_,Nat.le_refl _,?_,?_⟩
   ·simp[hz,Nat.min_eq_left hl]
   ·simp[initH,hL,roObj]
   ·simp only[List.drop_zero,List.length_map,Nat.mul_one]
    rw[List.length_take,hz,Nat.min_eq_left hl,<-List.map_take]
    generalize zs.take len=ys
    induction ys with
    |nil=>rfl
    |cons y ys ih=>simp[ih]
   ·intro x hx
    simp only[List.mem_map] at hx
    obtain ⟨n,_,rfl⟩:=hx
    rfl
 ·have hz0:zs=[]:=List.eq_nil_of_length_eq_zero (by omega)
  subst hz0
  simp only[List.length_nil] at hz
  subst hz
  obtain rfl:len=0:=by omega
  refine ⟨([],none),.sl o 0 0 1 (some 0) 0,fun φ l q=>(by cases q),fun L hL=>⟨.sl0 (fun q=>by cases q) (fun c q=>by injection q with q; exact q.symm),?_⟩⟩
  exact .inr ⟨o,0,some 0,0,⟨[],0,0,true⟩,rfl,by simp[initH,hL,roObj],Nat.le_refl _,rfl,fun x hx=>by simp at hx⟩
theorem rowArg {W:World}{a:Option Addr}{len cap:Nat}{zs:List Int}(w:(a=none/\len=0/\cap=0/\zs=[])\/∃x,a=some x/\len<=cap/\cap<=maxLen/\zs.length=cap/\(∀i,i<zs.length->W.cell? (x.add i)=some (.int .i64 (zs.getD i 0)))/\∀n∈zs,(Lit.int .i64 n).wf=true)(o:Nat) :
  ∃(p:List AV × Option Loc) (x:AV),(∀φ,EntOk W φ p)/\∀L:List (List AV × Option Loc),L[o]?=some p->VR (initR L) x (.slice a len cap)/\Sl (initH L) 1 x ((zs.take len).map fun n=>[I n]):=by
 rcases w with ⟨rfl,rfl,rfl,rfl⟩|⟨x,rfl,h1,h2,h3,h4,_⟩
 ·exact ⟨([],none),.nils,fun φ l q=>(by cases q),fun L hL=>⟨.nils,.inl ⟨rfl,rfl⟩⟩⟩
 ·exact intsArg h1 h2 h3 h4 o
end Go.Gm
namespace Go.Gm
inductive Rw where
 |mk (k n:Int) (l:List Rw)
 deriving Inhabited
def Rw.kids:Rw->List Rw
 |.mk _ _ l=>l
theorem Rw.kid_lt {c r:Rw}(h:c∈r.kids):SizeOf.sizeOf c<SizeOf.sizeOf r:=by
 cases r with
 |mk k n l=>have:=List.sizeOf_lt_of_mem (show c∈l from h); simp only[Rw.mk.sizeOf_spec]; omega
theorem Rw.ind {p:Rw->Prop}(h:∀r,(∀c∈r.kids,p c)->p r)(r:Rw):p r:=by
 have:∀(N:Nat) (r:Rw),SizeOf.sizeOf r<=N->p r:=by
  intro N
  induction N with
  |zero=>intro r hr; exact h r λc hc=>by have:=Rw.kid_lt hc; omega
  |succ N ih=>intro r hr; exact h r λc hc=>ih c (by have:=Rw.kid_lt hc; omega)
 exact this _ r (Nat.le_refl _)
mutual
inductive RV (h:Heap):Rw->List AV->Prop
 |mk {k n:Int} {l:List Rw} {s:AV} {css:List (List AV)}:Sl h 3 s css->RVs h l css->RV h (.mk k n l) [I k,I n,s]
inductive RVs (h:Heap):List Rw->List (List AV)->Prop
 |nil:RVs h [] []
 |cons {r:Rw} {cs:List AV} {l:List Rw} {css:List (List AV)}:RV h r cs->RVs h l css->RVs h (r::l) (cs::css)
end
mutual
theorem RV.ext {h h':Heap} (e:Ext h h'):∀{r:Rw} {cs:List AV},RV h r cs->RV h' r cs
 |_,_,.mk a b=>.mk (a.ext e) (RVs.ext e b)
theorem RVs.ext {h h':Heap} (e:Ext h h'):∀{l:List Rw} {css:List (List AV)},RVs h l css->RVs h' l css
 |_,_,.nil=>.nil
 |_,_,.cons a b=>.cons (RV.ext e a) (RVs.ext e b)
end
theorem RVs.len:∀{l:List Rw} {css:List (List AV)},RVs h l css->l.length=css.length
 |_,_,.nil=>rfl
 |_,_,.cons _ b=>by simp[RVs.len b]
theorem RVs.get:∀{l:List Rw} {css:List (List AV)},RVs h l css->∀{i:Nat} {r:Rw},l[i]?=some r->∃cs,css[i]?=some cs/\RV h r cs
 |_,_,.nil,i,r,q=>by simp at q
 |_,_,.cons a b,0,r,q=>by
  simp only[List.getElem?_cons_zero,Option.some.injEq] at q
  subst q; exact ⟨_,rfl,a⟩
 |_,_,.cons a b,i+1,r,q=>by
  obtain ⟨cs,h1,h2⟩:=RVs.get b (i:=i) (by simpa using q)
  exact ⟨cs,by simpa using h1,h2⟩
theorem RV.len (a:RV h r cs):cs.length=3:=by cases a; rfl
theorem RV.one (a:RV h r cs):cs.all AV.one=true:=by
 cases a with
 |mk a b=>simp only[List.all_cons,List.all_nil,a4x,a.one,Bool.and_self]
end Go.Gm
namespace Go.Gm
structure RawTy (P:Program) (T E I3:TypeId):Prop where
 t:P.underlying T=some (.slice E)
 e:∃f0 f1 f2:Field,P.underlying E=some (.struct #[f0,f1,f2])/\f0.type=I3/\f0.offset=0/\f1.type=I3/\f1.offset=1/\f2.type=T/\f2.offset=2
 i:P.underlying I3=some (.int .i64)
 ce:P.cellsOf E=3
 ci:P.cellsOf I3=1
 ct:P.cellsOf T=1
def Emb (F:List (List AV × Option Loc))(o:Nat)(L:List (List AV × Option Loc)):Prop:=∀(i:Nat) p,F[i]?=some p->L[o+i]?=some p
theorem Emb.head {p:List AV × Option Loc}{F L:List (List AV × Option Loc)}(e:Emb (p::F) o L):L[o]?=some p:=e 0 p rfl
theorem Emb.tail {p:List AV × Option Loc}{F L:List (List AV × Option Loc)}(e:Emb (p::F) o L):Emb F (o+1) L:=λi q h=>by
 have:=e (i+1) q (by simpa using h)
 rwa [show o+(i+1)=o+1+i by omega] at this
theorem Emb.left {F G L:List (List AV × Option Loc)}(e:Emb (F++G) o L):Emb F o L:=λi q h=>e i q (by rw[List.getElem?_append_left (List.getElem?_eq_some_iff.1 h).1]; exact h)
theorem Emb.right {F G L:List (List AV × Option Loc)}(e:Emb (F++G) o L):Emb G (o+F.length) L:=λi q h=>by
 have:=e (F.length+i) q (by rw[List.getElem?_append_right oM,Nat.add_sub_cancel_left]; exact h)
 rwa [show o+(F.length+i)=o+F.length+i by omega] at this
section
variable {H:Type} {enc:TypeId × Value->H} {P:Program} {T E I3:TypeId} {W:World}
theorem RVs.snoc (a:RV h r cs):∀{l:List Rw} {css:List (List AV)},RVs h l css->RVs h (l++[r]) (css++[cs])
 |_,_,.nil=>.cons a .nil
 |_,_,.cons x y=>.cons x (RVs.snoc a y)
end
end Go.Gm
