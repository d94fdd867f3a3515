/- A part of the proof (GmAZbh, GmAZbi, GmAZbj, GmAZbl, GmAZbm, GmAZqa, GmAZqb, GmAZqc, GmAZqd, GmAZqe, GmAZqf, GmAZqg, GmAZqh, GmAZqi). -/
import Derived.Test.YtldnkafmanalmaaGreatQueryCountsP10
set_option autoImplicit true
set_option relaxedAutoImplicit true
set_option linter.unusedVariables false
set_option linter.unusedSimpArgs false
set_option linter.unusedSectionVars false
namespace Go.Gm.AZ
open Go Go.Gm
structure StgL (es:List E) (G:Int->Prop) (A:List Ar) (v:Int) (up dn:List Int):Prop where
 up:∀w m l,¬G w->Sg es G m v w l->∃k∈up,0<=k/\k<A.length/\(gi A k).to=w/\(gi A k).md=m/\(gi A k).co<=atC es l
 dn:∀u m l,¬G u->u≠v->Sg es G m u v l->∃k∈dn,0<=k/\k<A.length/\(gi A k).fr=u/\(gi A k).md=m/\(gi A k).co<=atC es l
structure Grows (A A':List Ar):Prop where
 le:A.length<=A'.length
 eq:∀k:Int,0<=k->k<A.length->gi A' k=gi A k
theorem StgL.grow {es:List E}{G:Int->Prop}{A A':List Ar}{v:Int}{up dn:List Int}(s:StgL es G A v up dn)(g:Grows A A'):StgL es G A' v up dn:=by
 have:=g.le
 refine ⟨λw m l h1 h2=>?_,λu m l h1 h2 h3=>?_⟩
 ·obtain ⟨k,k1,k2,k3,k4⟩:=s.up w m l h1 h2
  exact ⟨k,k1,k2,oM,by rw[g.eq k k2 k3]; exact k4⟩
 ·obtain ⟨k,k1,k2,k3,k4⟩:=s.dn u m l h1 h2 h3
  exact ⟨k,k1,k2,oM,by rw[g.eq k k2 k3]; exact k4⟩
structure LI (c:WC) (vs:List Int) (i:Nat) (s:WS):Prop where
 ci:CI c.es c.N (λx=>x∈vs.take i) s.A s.C
 lg:s.g.length=c.N
 gg:∀x:Int,0<=x->x<c.N->(gi s.g x=true↔x∈vs.take i)
 la:s.A.length<=50000+i*250000
 lr:s.rk.length=c.N
 rU:∀v:Int,0<=v->v<c.N->(gi s.Up v).length<=5*c.N/\∀k∈gi s.Up v,0<=k/\k<s.A.length/\(gi s.A k).fr=v
 rD:∀v:Int,0<=v->v<c.N->(gi s.Dn v).length<=5*c.N/\∀k∈gi s.Dn v,0<=k/\k<s.A.length/\(gi s.A k).to=v
 st:∀(a b:List Int) (v:Int),vs.take i=a++v::b->StgL c.es (λx=>x∈a) s.A v (gi s.Up v) (gi s.Dn v)
structure OrdOk (c:WC) (vs:List Int):Prop where
 nd:vs.Nodup
 mem:∀v∈vs,0<=v/\v<c.N/\OneM c.es v
 len:vs.length<=c.N
section
variable {c:WC} {vs:List Int} {i:Nat} {s:WS} {v:Int}
abbrev upL (c:WC)(s:WS)(v:Int):List Int:=pkTo (outF c s v) (gonF s) c.N
abbrev dnL (c:WC)(s:WS)(v:Int):List Int:=pkTo (inF c s v) (gonV s v) c.N
theorem LI.cu (l:LI c vs i s)(hb:s.A.length<=1000000000):CuOk c s:=λu w m u0 u1 w0 w1 m0 m1=>by
 have:=l.ci.cur u w m u0 u1 w0 w1 m0 m1
 exact ⟨this.1,oM⟩
theorem LI.ud (l:LI c vs i s)(v0:0<=v)(v1:v<c.N):UD c.N (λx=>x∈vs.take i) v s.A s.C (upL c s v) (dnL c s v):=by
 refine ⟨λw m w0 w1 m0 m1 hw h=>b1a.2 ⟨w,m,w0,w1,m0,m1,h,?_,rfl⟩,λu m u0 u1 m0 m1 hu huv h=>b1a.2 ⟨u,m,u0,u1,m0,m1,h,?_,rfl⟩⟩
 ·show gi s.g w=false
  cases hq:gi s.g w with
  |false=>rfl
  |true=>exact absurd ((l.gg w w0 w1).1 hq) hw
 ·show (gi s.g u || decide (u=v))=false
  cases hq:gi s.g u with
  |false=>simp[huv]
  |true=>exact absurd ((l.gg u u0 u1).1 hq) hu
theorem LI.rows (l:LI c vs i s)(v0:0<=v)(v1:v<c.N):RowsUD (λx=>x∈vs.take i) v s.A (upL c s v) (dnL c s v):=by
 refine ⟨λk hk=>?_,λk hk=>?_⟩
 ·obtain ⟨u,m,u0,u1,m0,m1,h1,h2,rfl⟩:=b1a.1 hk
  obtain ⟨c1,c2,c3⟩:=l.ci.cur v u m v0 v1 u0 u1 m0 m1
  obtain ⟨d1,d2,d3⟩:=c3 h1
  refine ⟨by show 0<=Gm.AZ.cu _ _ _ _ _-1; have:0<Gm.AZ.cu c.N s.C v u m:=h1; omega,by show Gm.AZ.cu c.N s.C v u m-1<_; omega,d1,?_⟩
  show ¬(gi s.A (Gm.AZ.cu c.N s.C v u m-1)).to∈_
  rw[d2]
  intro q
  have:=(l.gg u u0 u1).2 q
  have h2':gi s.g u=false:=h2
  rw[this] at h2'
  cases h2'
 ·obtain ⟨u,m,u0,u1,m0,m1,h1,h2,rfl⟩:=b1a.1 hk
  obtain ⟨c1,c2,c3⟩:=l.ci.cur u v m u0 u1 v0 v1 m0 m1
  obtain ⟨d1,d2,d3⟩:=c3 h1
  refine ⟨by show 0<=Gm.AZ.cu _ _ _ _ _-1; have:0<Gm.AZ.cu c.N s.C u v m:=h1; omega,by show Gm.AZ.cu c.N s.C u v m-1<_; omega,d2,?_⟩
  show ¬(gi s.A (Gm.AZ.cu c.N s.C u v m-1)).fr∈_
  rw[d1]
  intro q
  have:=(l.gg u u0 u1).2 q
  have h2':(gi s.g u || decide (u=v))=false:=h2
  rw[this] at h2'
  cases h2'
theorem LI.next (ok:c.Ok)(oo:OrdOk c vs)(l:LI c vs i s)(hv:vs[i]?=some v)(lu:s.Up.length=c.N)(ld:s.Dn.length=c.N)(cj:CJ c.es c.N (λx=>x∈vs.take i) v s.A s.C (Prs (dnL c s v) (upL c s v) (dnL c s v).length 0) A C)(la:A.length<=s.A.length+(dnL c s v).length*(upL c s v).length){s1 sR:AV}{o1 oR:Nat}{rk:List Int}{us ds:List AV}(hrk:rk.length=c.N):LI c vs (i+1) ⟨s1,o1,sR,oR,A,C,s.g.set v.toNat true,rk,us,ds,s.Up.set v.toNat (upL c s v),s.Dn.set v.toNat (dnL c s v)⟩:=by
 obtain ⟨v0,v1,v2⟩:=oo.mem v (List.mem_of_getElem? hv)
 have htk:vs.take (i+1)=vs.take i++[v]:=a3O hv
 have hnv:v ∉ vs.take i:=by
  have h1:=oo.nd
  rw[<-List.take_append_drop (i+1) vs,htk,List.nodup_append] at h1
  have h2:=(List.nodup_append.1 h1.1).2.2
  exact λq=>h2 v q v (by simp) rfl
 have hG:(λx=>x∈vs.take (i+1))=λx=>x∈vs.take i\/x=v:=by funext x; rw[htk]; simp
 have hn:=ok.n
 have lu1:(upL c s v).length<=5*c.N:=a3P (f:=outF c s v) (g:=gonF s) c.N
 have ld1:(dnL c s v).length<=5*c.N:=a3P (f:=inF c s v) (g:=gonV s v) c.N
 have hm:(dnL c s v).length*(upL c s v).length<=500*500:=Nat.mul_le_mul oM oM
 have gr:Grows s.A A:=⟨cj.le,λk k0 k1=>cj.pre k k0 k1⟩
 have rows:=l.rows v0 v1
 have ud:=l.ud v0 v1
 refine ⟨?_,by show (s.g.set _ _).length=_; rw[List.length_set]; exact l.lg,λx x0 x1=>?_,by have:=l.la; show A.length<=_; omega,hrk,λu u0 u1=>?_,λu u0 u1=>?_,λa b w hab=>?_⟩
 ·rw[hG]
  refine cj.done ok.no ok.co l.ci hnv ud λa ha b hb=>?_
  obtain ⟨p,hp⟩:=List.getElem?_of_mem ha
  obtain ⟨q,hq⟩:=List.getElem?_of_mem hb
  exact ⟨p,q,hp,hq,.inl (List.getElem?_eq_some_iff.1 hp).1⟩
 ·show gi (s.g.set v.toNat true) x=true↔_
  rw[w3_ v0 (by rw[l.lg]; exact v1) x0,htk,List.mem_append,List.mem_singleton]
  by_cases q:x=v
  ·rw[if_pos q]; simp[q]
  ·rw[if_neg q]; simp[q,l.gg x x0 x1]
 ·show (gi (s.Up.set v.toNat (upL c s v)) u).length<=_/\∀k∈gi (s.Up.set v.toNat (upL c s v)) u,_
  rw[w3_ v0 (by rw[lu]; exact v1) u0]
  split
  ·rename_i q
   subst q
   refine ⟨lu1,λk hk=>?_⟩
   obtain ⟨k0,k1,k2,_⟩:=rows.up k hk
   refine ⟨k0,by have:=gr.le; show k<A.length; omega,?_⟩
   show (gi A k).fr=_
   rw[gr.eq k k0 k1]; exact k2
  ·obtain ⟨h1,h2⟩:=l.rU u u0 u1
   refine ⟨h1,λk hk=>?_⟩
   obtain ⟨k0,k1,k2⟩:=h2 k hk
   refine ⟨k0,by have:=gr.le; show k<A.length; omega,?_⟩
   show (gi A k).fr=_
   rw[gr.eq k k0 k1]; exact k2
 ·show (gi (s.Dn.set v.toNat (dnL c s v)) u).length<=_/\∀k∈gi (s.Dn.set v.toNat (dnL c s v)) u,_
  rw[w3_ v0 (by rw[ld]; exact v1) u0]
  split
  ·rename_i q
   subst q
   refine ⟨ld1,λk hk=>?_⟩
   obtain ⟨k0,k1,k2,_⟩:=rows.dn k hk
   refine ⟨k0,by have:=gr.le; show k<A.length; omega,?_⟩
   show (gi A k).to=_
   rw[gr.eq k k0 k1]; exact k2
  ·obtain ⟨h1,h2⟩:=l.rD u u0 u1
   refine ⟨h1,λk hk=>?_⟩
   obtain ⟨k0,k1,k2⟩:=h2 k hk
   refine ⟨k0,by have:=gr.le; show k<A.length; omega,?_⟩
   show (gi A k).to=_
   rw[gr.eq k k0 k1]; exact k2
 ·show StgL c.es (λx=>x∈a) A w (gi (s.Up.set v.toNat (upL c s v)) w) (gi (s.Dn.set v.toNat (dnL c s v)) w)
  have hw:w∈vs:=List.mem_of_mem_take (show w∈vs.take (i+1) by rw[hab]; simp)
  have hw0:=oo.mem w hw
  rw[w3_ v0 (by rw[lu]; exact v1) hw0.1,w3_ v0 (by rw[ld]; exact v1) hw0.1]
  rw[htk] at hab
  rcases List.eq_nil_or_concat b with rfl|⟨b',z,rfl⟩
  ·obtain ⟨h1,h2⟩:=List.append_inj' hab (by simp)
   injection h2 with h2 _
   subst h2
   rw[if_pos rfl,if_pos rfl,<-h1]
   refine StgL.grow ⟨λw m l' hw h=>l.ci.stU ok.no hnv ud hw h,λu m l' hu huv h=>l.ci.stD ok.no hnv ud hu huv h⟩ gr
  ·rw[List.concat_eq_append,<-List.cons_append,<-List.append_assoc] at hab
   obtain ⟨h1,h2⟩:=List.append_inj' hab (by simp)
   have hwv:w≠v:=λq=>hnv (by rw[h1,q]; simp)
   rw[if_neg hwv,if_neg hwv]
   exact (l.st a b' w h1).grow gr
end
end Go.Gm.AZ
namespace Go.Gm.AZ
open Go Go.Gm
section
variable {c:WC} {vs:List Int} {lo n1 t2:AV}
theorem Gr.inn {h h':Heap}(w:WV c s h){b:Nat}(hb:h.length<=b){xs:List Int}(g:Gr b h'.length h' 1 x (xs.map encI)):Inn c h' s.sA s.oA s.sR s.oR x xs:=by
 obtain ⟨o,p,g'⟩:=g.point
 have lb:=w.lb
 exact ⟨o,g',λq=>⟨by have:=p q; omega,(p q).2.2,λz=>by have:=p q; have:=w.pA z; omega,λz=>by have:=p q; have:=w.pR z; omega⟩⟩
theorem c4X (ok:c.Ok)(oo:OrdOk c vs)(hQ:∀s h,WV c s h->LI c vs vs.length s->WP (λk:Nat=>a1i k n1 t2 (.ptr c.oW 0 8 0) h) Q) :
  ∀(d i:Nat) (s:WS) (h:Heap),i+d=vs.length->WV c s h->LI c vs i s->Inn c h s.sA s.oA s.sR s.oR lo vs->
   WP (λp:Nat × Nat=>v0_ p.1 p.2 n1 t2 (.ptr c.oW 0 8 0) lo (I i) h) Q:=by
 have hn:=ok.n
 have hvl:=oo.len
 intro d
 induction d with
 |zero=>
  intro i s h hd w l nl
  refine WP.rnd (a2Q · · ..) ?_
  obtain ⟨ol,gl,pl⟩:=nl
  obtain rfl:i=vs.length:=oM
  refine g1 gl.sl.lenG ?_
  exact WP.lv (hQ s h w l) λi j=>rfl
 |succ d ih=>
  intro i s h hd w l nl
  refine WP.rnd (a2Q · · ..) ?_
  obtain ⟨ol,gl,pl⟩:=id nl
  have hiv:(i:Int)<vs.length:=oM
  have ldv:=gl.sl.ld0 (H:=h) (i:=(i:Int)) (Ext.refl _) oM hiv oM
  obtain ⟨v,hv⟩:∃v,gi vs (i:Int)=v:=⟨_,rfl⟩
  rw[hv] at ldv
  replace ldv:Gm.ld1 h (elP 1 lo (i:Int))=some (I v):=ldv
  obtain ⟨v0,v1,_⟩:=oo.mem v (hv▸b7_ oM hiv)
  have hvi:vs[i]?=some v:=by
   have:=c1_ (xs:=vs) (i:=(i:Int)) oM hiv
   rw[Int.toNat_natCast,hv] at this; exact this
  have r0:=w.row
  have gR:=w.gR.sl
  have hrk:v<s.rk.length:=by rw[l.lr]; exact v1
  obtain ⟨h1,k1,k2,k3,k4⟩:=w.gR.write0 (i:=v) (v:=I (i:Int)) v0 (by simpa using hrk) rfl rfl
  have hnR:s.sR≠.nils:=w.gR.nnil (by intro q; have:=congrArg List.length q; simp at this; rw[this] at hrk; simp at hrk; omega)
  have w1:=w.setR ok hnR (rk':=s.rk.set v.toNat (i:Int)) (k3.s.mono λo _ z=>oM) (k2.cong (by rw[List.map_set]; rfl))
  have fR:FrS (λo=>o=s.oR) h h1:=k3.s.mono λo _ z=>oM
  have pR:=w.pR hnR
  have nl1:Inn c h1 s.sA s.oA s.sR s.oR lo vs:=nl.keep fR λo _ _ h3 h4=>⟨h4 hnR,h3,h4⟩
  refine g5 gl.sl.lenG gl.sl.idxG @ldv @r0 gR.idxG ?_
  rw[k1]
  simp -implicitDefEqProofs (disch:=first|assumption|omega|(simp only[gL,gA]<;>omega)|fail) only[cG,reduceIte]
  have hla:=l.la
  have hAb:s.A.length<=50000000:=oM
  refine WP.call (b5a ok w1 l.ci.len l.lg (l.cu oM) v0 v1) ?_
  rintro ru h2 ⟨e2,g2⟩
  have w2:=w1.ext ok e2
  refine WP.call (c1B ok w2 l.ci.len l.lg (l.cu oM) v0 v1) ?_
  rintro rd h3 ⟨e3,g3⟩
  have w3:=w2.ext ok e3
  have iu:Inn c h3 s.sA s.oA s.sR s.oR ru (upL c s v):=(Gr.inn w1 (Nat.le_refl _) g2).keep (FrS.ofExt (D:=λ_=>False) e3) λo _ _ q1 q2=>⟨λq=>q,q1,q2⟩
  have id':Inn c h3 s.sA s.oA s.sR s.oR rd (dnL c s v):=Gr.inn w2 (Nat.le_refl _) g3
  have nl3:Inn c h3 s.sA s.oA s.sR s.oR lo vs:=nl1.keep (FrS.ofExt (D:=λ_=>False) (e2.trans e3)) λo _ _ q1 q2=>⟨λq=>q,q1,q2⟩
  have r3:=w3.row
  have lU:=w.lU
  have hvU:v<s.us.length:=by rw[lU.1]; exact v1
  have hvD:v<s.ds.length:=by rw[lU.2.1]; exact v1
  have cu1:=g2.sl.cells
  have ou1:=g2.sl.one
  have cd1:=g3.sl.cells
  have od1:=g3.sl.one
  obtain ⟨h4,a1,a2,a3,a4⟩:=w3.gU.write0 (i:=v) (v:=ru) v0 (by simpa using hvU) (by rw[cu1]; rfl) (by rw[cu1]; simp[ou1])
  have f4:FrS (λo=>o=c.oU) h3 h4:=a3.s.mono λo _ z=>oM
  have t:=ok.t
  have w4:=w3.setU ok v0 v1 (r:=ru) (xs:=upL c s v) f4 (a2.cong (by rw[List.map_set,cu1]; rfl)) iu
  have kU:∀{x:AV} {xs:List Int},Inn c h3 s.sA s.oA s.sR s.oR x xs->Inn c h4 s.sA s.oA s.sR s.oR x xs:=λhx=>hx.keep f4 λo q1 _ q3 q4=>⟨oM,q3,q4⟩
  obtain ⟨h5,b1,b2,b3,b4⟩:=w4.gD.write0 (i:=v) (v:=rd) v0 (by simpa using hvD) (by rw[cd1]; rfl) (by rw[cd1]; simp[od1])
  have f5:FrS (λo=>o=c.oD) h4 h5:=b3.s.mono λo _ z=>oM
  have w5:=w4.setD ok v0 v1 (r:=rd) (xs:=dnL c s v) f5 (b2.cong (by rw[List.map_set,cd1]; rfl)) (kU id')
  have kD:∀{x:AV} {xs:List Int},Inn c h4 s.sA s.oA s.sR s.oR x xs->Inn c h5 s.sA s.oA s.sR s.oR x xs:=λhx=>hx.keep f5 λo q1 _ q3 q4=>⟨oM,q3,q4⟩
  have gU3:=w3.gU.sl
  have gD3:=w3.gD.sl
  simp -implicitDefEqProofs (disch:=first|assumption|omega|(simp only[gL,gA]<;>omega)|fail) only[cG,reduceIte,r3,gU3.idxG,gD3.idxG]
  rw[a1]
  refine g0 ?_
  rw[b1]
  simp -implicitDefEqProofs (disch:=first|assumption|omega|(simp only[gL,gA]<;>omega)|fail) only[cG,reduceIte]
  have hnv:¬v∈vs.take i:=by
   have h1:=oo.nd
   rw[<-List.take_append_drop (i+1) vs,a3O hvi,List.nodup_append] at h1
   have h2:=(List.nodup_append.1 h1.1).2.2
   exact λq=>h2 v q v (by simp) rfl
  have hul:(upL c s v).length<=5*c.N:=a3P (f:=outF c s v) (g:=gonF s) c.N
  have hdl:(dnL c s v).length<=5*c.N:=a3P (f:=inF c s v) (g:=gonV s v) c.N
  refine WP.ent (c4W (s0:=⟨s.sA,s.oA,s.sR,s.oR,s.A,s.C,s.g,s.rk.set v.toNat (i:Int),s.us.set v.toNat ru,s.ds.set v.toNat rd,s.Up.set v.toNat (upL c s v),s.Dn.set v.toNat (dnL c s v)⟩) (vs:=vs) ok l.ci hnv (l.rows v0 v1) hAb hul hdl (λs1 o1 A C h6 ki=>?_) (dnL c s v).length 0 s.sA s.oA s.A s.C h5 oM ⟨w5,kD (kU nl3),kD (kU iu),kD (kU id'),l.ci.start.mono λi j ⟨p,q,_,_,z⟩=>oM,by simp⟩) λi=>rfl
  refine WP.congr (λi=>a7D i.1 i.2 ..) ?_
  have w6:=ki.w
  have r6:=w6.row
  have gG6:=w6.gG.sl
  have hvg:v<s.g.length:=by rw[l.lg]; exact v1
  obtain ⟨h7,c1,c2,c3,c4⟩:=w6.gG.write0 (i:=v) (v:=.bool true) v0 (by simpa using hvg) rfl rfl
  have f7:FrS (λo=>o=c.oG) h6 h7:=c3.s.mono λo _ z=>oM
  have w7:=w6.setG ok (g':=s.g.set v.toNat true) f7 (c2.cong (by rw[List.map_set]; rfl))
  simp -implicitDefEqProofs (disch:=first|assumption|omega|(simp only[gL,gA]<;>omega)|fail) only[cG,reduceIte,r6,gG6.idxG]
  rw[c1]
  refine g0 ?_
  refine WP.congr (λi=>a7C i.1 i.2 ..) ?_
  refine g0 ?_
  refine ih (i+1) _ h7 oM w7 ?_ (ki.nl.keep f7 λo q1 _ q3 q4=>⟨oM,q3,q4⟩)
  exact l.next ok oo hvi lU.2.2.1 lU.2.2.2 ki.cj (by have:=ki.la; show A.length<=_; exact this) (by show (s.rk.set _ _).length=_; rw[List.length_set]; exact l.lr)
end
end Go.Gm.AZ
namespace Go.Gm.AZ
open Go Go.Gm
structure IxV (h:Heap) (r:AV) (N:Nat) (es:List E) (A:List Ar) (Up Dn:List (List Int)):Prop where
 ex:∃sE sR sA sU sD us ds,r=.agg [I N,sE,sR,sA,sU,sD]/\Sl h 4 sE (es.map encE)/\sR.one=true/\Sl h 7 sA (A.map encA)/\Sl h 1 sU (us.map one1)/\Sl h 1 sD (ds.map one1)/\us.length=N/\ds.length=N/\
  (∀v:Int,0<=v->v<N->Sl h 1 (gi us v) ((gi Up v).map encI))/\(∀v:Int,0<=v->v<N->Sl h 1 (gi ds v) ((gi Dn v).map encI))
theorem IxV.ext (x:IxV h r N es A Up Dn)(e:Ext h h'):IxV h' r N es A Up Dn:=by
 obtain ⟨sE,sR,sA,sU,sD,us,ds,h1,h2,h3,h4,h5,h6,h7,h8,h9,h10⟩:=x.ex
 exact ⟨sE,sR,sA,sU,sD,us,ds,h1,h2.ext e,h3,h4.ext e,h5.ext e,h6.ext e,h7,h8,λv v0 v1=>(h9 v v0 v1).ext e,λv v0 v1=>(h10 v v0 v1).ext e⟩
def UpA (N:Nat)(A:List Ar)(Up:List (List Int))(v w m co:Int):Prop:=0<=v/\v<N/\∃k∈gi Up v,0<=k/\k<A.length/\(gi A k).to=w/\(gi A k).md=m/\(gi A k).co=co
def DnA (N:Nat)(A:List Ar)(Dn:List (List Int))(v u m co:Int):Prop:=0<=v/\v<N/\∃k∈gi Dn v,0<=k/\k<A.length/\(gi A k).fr=u/\(gi A k).md=m/\(gi A k).co=co
structure IxS (LL N:Nat) (es:List E) (A:List Ar) (Up Dn:List (List Int)):Prop where
 la:A.length<=50000000
 lu:Up.length=N/\Dn.length=N
 arc:∀k a,A[k]?=some a->AOk N a/\∃l,Unp A k l/\Sg es (λ_=>True) a.md a.fr a.to l/\atC es l=a.co/\l.length<=LL
 rU:∀v:Int,0<=v->v<N->(gi Up v).length<=50000000/\∀k∈gi Up v,0<=k/\k<A.length/\(gi A k).fr=v
 rD:∀v:Int,0<=v->v<N->(gi Dn v).length<=50000000/\∀k∈gi Dn v,0<=k/\k<A.length/\(gi A k).to=v
structure IxC (N:Nat) (es:List E) (A:List Ar) (Up Dn:List (List Int)):Prop extends IxS (N+1) N es A Up Dn where
 cmp:∃vs:List Int,vs.Nodup/\(∀x∈vs,OneM es x)/\(∀(a b:List Int) (v:Int),vs=a++v::b->Stg es (λx=>x∈a) (UpA N A Up) (DnA N A Dn) v)/\
  (∀v w m l,¬v∈vs->¬w∈vs->Sg es (λx=>x∈vs) m v w l->∃co,UpA N A Up v w m co/\co<=atC es l)
section
variable {c:WC} {s:WS} {h h':Heap}
theorem WV.addR (w:WV c s h)(ok:c.Ok)(hA:s.sA=.nils){x:Int}(f:FrS (λp=>s.sR≠.nils/\p=s.oR) h h')(g:Gr o' (o'+1) h' 1 s' ((s.rk++[x]).map encI))(q:s'≠.nils->((o'=s.oR/\s.sR≠.nils)\/h.length<=o')/\o'<h'.length) :
  h'[c.oW]?=some (.cells ⟨[I c.N,c.sE,s.sR,s.sA,c.sU,c.sD,c.sC,c.sG],0,0,false⟩)/\WV c { s with sR:=s',oR:=o',rk:=s.rk++[x] } (h'.set c.oW (.cells ⟨[I c.N,c.sE,s',s.sA,c.sU,c.sD,c.sC,c.sG],0,0,false⟩)):=by
 have l:=f.len
 have lb:=w.lb
 have hl:=w.eb.len
 have b:=ok.b
 have t:=ok.t
 have d:=ok.d
 have pr:=w.pR
 have nA:∀o,(s.sR≠.nils->o≠s.oR)->¬(s.sR≠.nils/\o=s.oR):=λo h1 h2=>h1 h2.1 h2.2
 have rw':h'[c.oW]?=_:=(f.get (nA _ λq=>by have:=pr q; omega) oM).trans w.row
 have f2:=(f.mono (D':=λp=>(s.sR≠.nils/\p=s.oR)\/p=c.oW) λ_ _ z=>.inl z).trans ((FrS.set1 h' c.oW (.cells ⟨[I c.N,c.sE,s',s.sA,c.sU,c.sD,c.sC,c.sG],0,0,false⟩)).mono λ_ _ z=>.inr z)
 have nB:∀o,(s.sR≠.nils->o≠s.oR)->o≠c.oW->¬((s.sR≠.nils/\o=s.oR)\/o=c.oW):=λo h1 h2 h3=>h3.elim (nA o h1) h2
 have nC:∀o,o<c.b1->o≠c.oW->¬((s.sR≠.nils/\o=s.oR)\/o=c.oW):=λo h1 h2=>nB o (λq=>by have:=pr q; omega) h2
 have ll:(h'.set c.oW (.cells ⟨[I c.N,c.sE,s',s.sA,c.sU,c.sD,c.sC,c.sG],0,0,false⟩)).length=h'.length:=by simp
 have inn:∀{x:AV} {xs:List Int},Inn c h s.sA s.oA s.sR s.oR x xs->Inn c (h'.set c.oW (.cells ⟨[I c.N,c.sE,s',s.sA,c.sU,c.sD,c.sC,c.sG],0,0,false⟩)) s.sA s.oA s' o' x xs:=λhx=>hx.keep f2 λo h1 h2 h3 h4=>⟨nB o h4 oM,h3,λz=>by
  rcases (q z).1 with ⟨z1,z2⟩|z1
  ·have:=h4 z2; omega
  ·omega⟩
 refine ⟨rw',f2.ext w.eb λo ho=>nC o oM oM,oM,a0_ oM,w.gE.keep f2 λ_=>nC _ oM oM,w.gA.keep f2 λz=>absurd hA z,λz=>absurd hA z,?_,λz=>⟨?_,by have:=(q z).2; show o'<_; omega,λz2=>absurd hA z2⟩,
  w.gC.keep f2 λ_=>nC _ oM oM,w.gG.keep f2 λ_=>nC _ oM oM,w.gU.keep f2 λ_=>nC _ oM oM,w.gD.keep f2 λ_=>nC _ oM oM,w.lU,λv v0 v1=>inn (w.rU v v0 v1),λv v0 v1=>inn (w.rD v v0 v1)⟩
 ·refine g.keep (FrS.set1 ..) λz=>?_
  rcases (q z).1 with ⟨z1,z2⟩|z1
  ·have:=pr z2; omega
  ·omega
 ·show c.b1<=o'
  rcases (q z).1 with ⟨z1,z2⟩|z1
  ·have:=pr z2; omega
  ·omega
theorem c3g (ok:c.Ok){on:Nat}{sE0 t2:AV}(rn:c.hb[on]?=some (.cells ⟨[I c.N,sE0],0,0,false⟩))(hQ:∀s' h',WV c s' h'->s'.sA=.nils->s'.A=[]->s'.C=s.C->s'.g=s.g->s'.Up=s.Up->s'.Dn=s.Dn->s'.rk.length=c.N->WP (λk:Nat=>a1f k (.ptr on 0 2 0) t2 (.ptr c.oW 0 8 0) h') Q) :
  ∀(d n:Nat) (s':WS) (h:Heap),n+d=c.N->WV c s' h->s'.sA=.nils->s'.A=[]->s'.C=s.C->s'.g=s.g->s'.Up=s.Up->s'.Dn=s.Dn->s'.rk.length=n->
   WP (λp:Nat × Nat=>u9_ p.1 p.2 (.ptr on 0 2 0) t2 (.ptr c.oW 0 8 0) (I n) h) Q:=by
 have hn:=ok.n
 intro d
 induction d with
 |zero=>
  intro n s' h hd w q1 q2 q3 q4 q5 q6 q7
  refine WP.rnd (a2R · · ..) ?_
  have rn':=w.eb.get rn
  obtain rfl:n=c.N:=oM
  refine g1 @rn' ?_
  exact WP.lv (hQ s' h w q1 q2 q3 q4 q5 q6 q7) λi j=>rfl
 |succ d ih=>
  intro n s' h hd w q1 q2 q3 q4 q5 q6 q7
  refine WP.rnd (a2R · · ..) ?_
  have rn':=w.eb.get rn
  have r0:=w.row
  have b:=Gr.lit (h:=h) (sz:=1) (v:=[I (-1)]) rfl
  rw[a3_] at b
  obtain ⟨h2,hh2⟩:∃h2,h2=h++[AObj.cells ⟨[I (-1)],0,0,false⟩]:=⟨_,rfl⟩
  rw[<-hh2] at b
  have e2:Ext h h2:=by rw[hh2]; exact Ext.push _ _
  have w2:=w.ext ok e2
  obtain ⟨s1,h3,o',p1,p2,p3,p4⟩:=w2.gR.appP (λz=>(w2.pR z).2.1) b.sl oM (bytes:=8) oM (by simp; omega)
  obtain ⟨rw3,w4⟩:=w2.addR ok q1 (x:=-1) p4 (p2.cong (by simp[encI])) p3
  have c1:=p2.sl.cells
  have o1:=p2.sl.one
  have hb:bsl 1 1 h (some [I (-1)])=some (.sl h.length 0 1 1 none 0,h2):=by rw[hh2]; rfl
  have hb2:buildSl 1 1 [I 0] [(0,1,I (-1))] h=some (.sl h.length 0 1 1 none 0,h2):=by rw[hh2]; rfl
  try simp only[hb2]
  simp -implicitDefEqProofs (disch:=first|assumption|omega|(simp only[gL,gA]<;>omega)|fail) only[cG,reduceIte,rn',r0,p1,rw3,c1,o1]
  exact ih (n+1) _ _ oM w4 q1 q2 q3 q4 q5 q6 (by simp[q7])
end
end Go.Gm.AZ
namespace Go.Gm.AZ
open Go Go.Gm
section
variable {c:WC} {s0:WS} {vs:List Int}
theorem c3h (ok:c.Ok)(l:LI c vs vs.length s0)(hvl:vs.length<=100){on:Nat}{sE0 t2:AV}(rn:c.hb[on]?=some (.cells ⟨[I c.N,sE0],0,0,false⟩))(hQ:∀us Up h,WV c { s0 with us:=us,Up:=Up } h->(∀u:Int,0<=u->u<c.N->gi Up u=if gi s0.g u=false then upL c s0 u else gi s0.Up u)->WP (λk:Nat=>a0E k t2 (.ptr c.oW 0 8 0) h) Q) :
  ∀(d v:Nat) (us:List AV) (Up:List (List Int)) (h:Heap),v+d=c.N->WV c { s0 with us:=us,Up:=Up } h->(∀u:Int,0<=u->u<c.N->gi Up u=if u<v/\gi s0.g u=false then upL c s0 u else gi s0.Up u)->
   WP (λp:Nat × Nat=>l8_ p.1 p.2 (.ptr on 0 2 0) t2 (.ptr c.oW 0 8 0) (I v) h) Q:=by
 have hn:=ok.n
 intro d
 induction d with
 |zero=>
  intro v us Up h hd w hU
  refine WP.rnd (a2x · · ..) ?_
  have rn':=w.eb.get rn
  obtain rfl:v=c.N:=oM
  refine g1 @rn' ?_
  exact WP.lv (hQ us Up h w λu u0 u1=>by rw[hU u u0 u1]; simp only[u1,true_and]) λi j=>rfl
 |succ d ih=>
  intro v us Up h hd w hU
  refine WP.rnd (a2x · · ..) ?_
  have rn':=w.eb.get rn
  have r0:=w.row
  have gG:=w.gG.sl
  have v1:(v:Int)<c.N:=oM
  have hvg:(v:Int)<s0.g.length:=by rw[l.lg]; exact v1
  have ldg:=gG.ld0 (H:=h) (i:=(v:Int)) (Ext.refl _) oM hvg oM
  replace ldg:Gm.ld1 h (elP 1 c.sG (v:Int))=some (.bool (gi s0.g v)):=ldg
  have idg:=gG.idxG (i:=(v:Int)) oM hvg
  cases hg:gi s0.g (v:Int) with
  |true=>
   rw[hg] at ldg
   refine g4 @rn' @r0 @idg @ldg ?_
   refine ih (v+1) us Up h oM w λu u0 u1=>?_
   rw[hU u u0 u1]
   by_cases q:u=v
   ·subst q; rw[if_neg oM,if_neg (by rw[hg]; simp)]
   ·by_cases q2:u<v/\gi s0.g u=false
    ·rw[if_pos q2,if_pos ⟨oM,q2.2⟩]
    ·rw[if_neg q2,if_neg (λz=>q2 ⟨oM,z.2⟩)]
  |false=>
   rw[hg] at ldg
   have hla:=l.la
   simp -implicitDefEqProofs (disch:=first|assumption|omega|(simp only[gL,gA]<;>omega)|fail) only[cG,reduceIte,rn',r0,idg,ldg]
   refine WP.call (b5a ok w l.ci.len l.lg (l.cu oM) oM v1) ?_
   rintro ru h2 ⟨e2,g2⟩
   have w2:=w.ext ok e2
   have r2:=w2.row
   have iu:Inn c h2 s0.sA s0.oA s0.sR s0.oR ru (upL c s0 v):=Gr.inn w (Nat.le_refl _) g2
   have lU:=w.lU
   have hvU:(v:Int)<us.length:=by have h0:us.length=c.N:=lU.1; omega
   have cu1:=g2.sl.cells
   have ou1:=g2.sl.one
   obtain ⟨h4,a1,a2,a3,a4⟩:=w2.gU.write0 (i:=(v:Int)) (v:=ru) oM (by simpa using hvU) (by rw[cu1]; rfl) (by rw[cu1]; simp[ou1])
   have f4:FrS (λo=>o=c.oU) h2 h4:=a3.s.mono λo _ z=>oM
   have w4:=w2.setU ok (v:=(v:Int)) oM v1 (r:=ru) (xs:=upL c s0 v) f4 (a2.cong (by rw[List.map_set,cu1]; rfl)) iu
   have gU2:=w2.gU.sl
   have idu:=gU2.idxG (i:=(v:Int)) oM hvU
   simp -implicitDefEqProofs (disch:=first|assumption|omega|(simp only[gL,gA]<;>omega)|fail) only[cG,reduceIte,r2,idu]
   rw[a1]
   refine g0 ?_
   refine ih (v+1) _ _ h4 oM w4 λu u0 u1=>?_
   have lUp:Up.length=c.N:=lU.2.2.1
   rw[w3_ oM oM u0]
   by_cases q:u=v
   ·subst q; rw[if_pos rfl,if_pos ⟨oM,hg⟩]
   ·rw[if_neg q,hU u u0 u1]
    by_cases q2:u<v/\gi s0.g u=false
    ·rw[if_pos q2,if_pos ⟨oM,q2.2⟩]
    ·rw[if_neg q2,if_neg (λz=>q2 ⟨oM,z.2⟩)]
theorem LI.ixc (ok:c.Ok)(oo:OrdOk c vs)(l:LI c vs vs.length s0)(lu:s0.Up.length=c.N)(ld:s0.Dn.length=c.N){Up:List (List Int)}(hl:Up.length=c.N)(hU:∀u:Int,0<=u->u<c.N->gi Up u=if gi s0.g u=false then upL c s0 u else gi s0.Up u):IxC c.N c.es s0.A Up s0.Dn:=by
 have hn:=ok.n
 have hla:=l.la
 have hvl:=oo.len
 have htk:vs.take vs.length=vs:=List.take_length
 refine ⟨⟨oM,⟨hl,ld⟩,λk a hk=>?_,λv v0 v1=>?_,λv v0 v1=>?_⟩,vs,oo.nd,λx hx=>(oo.mem x hx).2.2,λa b v hab=>?_,λv w m l' hv hw hs=>?_⟩
 ·obtain ⟨h1,l',h2,h3,h4,h5⟩:=ArcG.fit ok.no ok.co hn.2 (l.ci.arc k a hk)
  exact ⟨h1,l',h2,h3.mono λ_ _=>trivial,h4,oM⟩
 ·rw[hU v v0 v1]
  split
  ·have h1:(upL c s0 v).length<=5*c.N:=a3P (f:=outF c s0 v) (g:=gonF s0) c.N
   exact ⟨oM,λk hk=>by obtain ⟨k0,k1,k2,_⟩:=(l.rows v0 v1).up k hk; exact ⟨k0,k1,k2⟩⟩
  ·obtain ⟨h1,h2⟩:=l.rU v v0 v1
   exact ⟨oM,h2⟩
 ·obtain ⟨h1,h2⟩:=l.rD v v0 v1
  exact ⟨oM,h2⟩
 ·have hm:=oo.mem v (by rw[hab]; simp)
  have st:=l.st a b v (by rw[htk]; exact hab)
  have hgv:gi s0.g v=true:=(l.gg v hm.1 hm.2.1).2 (by rw[htk,hab]; simp)
  have hUv:gi Up v=gi s0.Up v:=by rw[hU v hm.1 hm.2.1,if_neg (by rw[hgv]; simp)]
  refine ⟨λw m l' hw hs=>?_,λu m l' hu huv hs=>?_⟩
  ·obtain ⟨k,k1,k2,k3,k4,k5,k6⟩:=st.up w m l' hw hs
   exact ⟨_,⟨hm.1,hm.2.1,k,by rw[hUv]; exact k1,k2,k3,k4,k5,rfl⟩,k6⟩
  ·obtain ⟨k,k1,k2,k3,k4,k5,k6⟩:=st.dn u m l' hu huv hs
   exact ⟨_,⟨hm.1,hm.2.1,k,k1,k2,k3,k4,k5,rfl⟩,k6⟩
 ·have hr:=hs.range ok.no
  have hgv:gi s0.g v=false:=by
   cases hq:gi s0.g v with
   |false=>rfl
   |true=>exact absurd ((l.gg v hr.1.1 hr.1.2).1 hq) (by rw[htk]; exact hv)
  have ci:=l.ci
  rw[htk] at ci
  have ud:=l.ud hr.1.1 hr.1.2
  rw[htk] at ud
  obtain ⟨k,k1,k2,k3,k4,k5,k6⟩:=ci.stU ok.no hv ud hw hs
  exact ⟨_,⟨hr.1.1,hr.1.2,k,by rw[hU v hr.1.1 hr.1.2,if_pos hgv]; exact k1,k2,k3,k4,k5,rfl⟩,k6⟩
end
end Go.Gm.AZ
namespace Go.Gm.AZ
open Go Go.Gm
theorem Gr.place (g:Gr lo hi h sz s xs)(hlt:lo<hi):∃o,lo<=o/\o<hi/\Gr o (o+1) h sz s xs:=by
 by_cases q:s=.nils
 ·subst q
  have:=g.isNil
  subst this
  exact ⟨lo,Nat.le_refl _,hlt,Gr.nil ..⟩
 ·obtain ⟨o,p,g'⟩:=g.point
  have:=p q
  exact ⟨o,this.1,this.2.1,g'⟩
theorem a8J {N:Nat}(hN:1<=N/\N<=100)(no:NetOk N es)(co:COk es)(hs:Sl h 4 sE0 (es.map encE)) :
  Tot tab a6_ [.agg [I N,sE0]] h λr h'=>Ext h h'/\∃A Up Dn,(∀h2,FrS (λo=>o<h.length) h' h2->IxV h2 r N es A Up Dn)/\IxC N es A Up Dn:=by
 refine WP.tot (a9t · ..) ?_
 have hz:I 0=I 0:=rfl
 try simp only[hz]
 have h0e:=hs.one
 have hlen:=no.len
 obtain ⟨hb,hhb⟩:∃hb,hb=(h++[AObj.cells ⟨[I N,sE0],0,0,false⟩])++[AObj.cells ⟨[I 0,.nils,.nils,.nils,.nils,.nils],0,0,false⟩]:=⟨_,rfl⟩
 have eb:Ext h hb:=by rw[hhb]; exact (Ext.push _ _).app _
 have lb:hb.length=h.length+2:=by rw[hhb]; simp
 have rn:hb[h.length]?=some (.cells ⟨[I N,sE0],0,0,false⟩):=by rw[hhb,m2_ (by simp)]; simp
 have rt:hb[h.length+1]?=some (.cells ⟨[I 0,.nils,.nils,.nils,.nils,.nils],0,0,false⟩):=by rw[hhb,r8_ (by simp)]; simp
 have hNN:N*N<=100*100:=Nat.mul_le_mul hN.2 hN.2
 have hq1:((N:Int)*(N:Int))=((N*N:Nat):Int):=by simp
 have w1:IntKind.i64.wrap ((N:Int)*(N:Int))=((N*N:Nat):Int):=by rw[hq1]; exact d6_ oM oM
 have w2:IntKind.i64.wrap (((N*N:Nat):Int)*5)=((N*N*5:Nat):Int):=by
  rw[d6_ oM oM]; simp
 obtain ⟨sC,h1,c1,c2,c3,c4,c5⟩:=g0_ (zero:=[I 0]) (sz:=1) (bytes:=8) (n:=((N*N*5:Nat):Int)) hb oM oM oM rfl rfl
 obtain ⟨sG,h2,g1,g2,g3,g4,g5⟩:=g0_ (zero:=[.bool false]) (sz:=1) (bytes:=1) (n:=(N:Int)) h1 oM oM oM rfl rfl
 rw[Int.toNat_natCast] at c2 g2
 have hC1:=c2.sl.one
 have hC2:=c2.sl.cells
 have hG1:=g2.sl.one
 have hG2:=g2.sl.cells
 obtain ⟨h3,hh3⟩:∃h3,h3=h2++[AObj.cells ⟨[I 0,.nils,.nils,.nils,.nils,.nils,sC,sG],0,0,false⟩]:=⟨_,rfl⟩
 have e3:Ext h2 h3:=by rw[hh3]; exact Ext.push _ _
 have l3:h3.length=h2.length+1:=by rw[hh3]; simp
 have eh3:Ext hb h3:=(c3.trans g3).trans e3
 have rw3:h3[h2.length]?=some (.cells ⟨[I 0,.nils,.nils,.nils,.nils,.nils,sC,sG],0,0,false⟩):=by rw[hh3]; simp
 obtain ⟨sE,h4,a1,a2,afr⟩:=(Gr.empty h3 4).append (bytes:=32) ((hs.ext (eb.trans eh3)).ext (Ext.push h3 _)) oM oM (by simp; omega) (by simp[mkObj]) (by simp[mkObj])
 rw[List.nil_append] at a2
 have a3:Ext h3 h4:=afr.ext (Ext.push h3 _) (Nat.le_refl _)
 have afl:=afr.len
 rw[a3_,List.length_append,List.length_singleton] at afl
 have hE1:=a2.sl.one
 have hE2:=a2.sl.cells
 have rw4:=a3.get rw3
 have l4:=a3.len
 have rn1:=c3.get rn
 have rn3:=eh3.get rn
 have rn4:=(eh3.trans a3).get rn
 have hmk:∀H:Heap,buildSl 4 0 [] [] H=some (.sl H.length 0 0 4 none 0,mkObj H []):=λH=>rfl
 have rnm:(h3++[AObj.cells ⟨[],0,0,false⟩])[h.length]?=some (.cells ⟨[I N,sE0],0,0,false⟩):=((eh3.trans (Ext.push h3 _)).get rn)
 rw[a3_] at a1
 simp -implicitDefEqProofs (disch:=first|assumption|omega|(simp only[gL,gA]<;>omega)|fail) only[cG,reduceIte,h0e]
 rw[<-hhb]
 rw[w1,w2,c1]
 have ag:∀x:AV,AV.cells (.agg [I 0,.nils,.nils,.nils,.nils,.nils,sC,sG])=[I 0,.nils,.nils,.nils,.nils,.nils,sC,sG]:=λ_=>rfl
 refine g6 @rn1 @g1 @hC1 @hC2 @hG1 @hG2 ?_
 rw[<-hh3]
 have rn2:=g3.get rn1
 rw[l3] at a1
 refine g6 @rn2 @a1 @hE1 @hE2 @rn4 @rw4 ?_
 obtain ⟨h5,hh5⟩:∃h5,h5=h4.set h2.length (.cells ⟨[I N,sE,.nils,.nils,.nils,.nils,sC,sG],0,0,false⟩):=⟨_,rfl⟩
 have l5:h5.length=h4.length:=by rw[hh5]; simp
 have hl2:h2.length<h4.length:=oM
 have rw5:h5[h2.length]?=some (.cells ⟨[I N,sE,.nils,.nils,.nils,.nils,sC,sG],0,0,false⟩):=by rw[hh5]; exact a0_ hl2
 rw[<-hh5]
 have e5:Ext hb h5:=by rw[hh5]; exact ((eh3.trans a3).setr (by have:=c3.len; have:=g3.len; omega) _)
 have rn5:=e5.get rn
 obtain ⟨sU,h6,u1,u2,u3,u4,u5⟩:=g0_ (zero:=[.nils]) (sz:=1) (bytes:=24) (n:=(N:Int)) h5 oM oM oM rfl rfl
 obtain ⟨sD,h7,d1,d2,d3,d4,d5⟩:=g0_ (zero:=[.nils]) (sz:=1) (bytes:=24) (n:=(N:Int)) h6 oM oM oM rfl rfl
 rw[Int.toNat_natCast] at u2 d2
 have hU1:=u2.sl.one
 have hU2:=u2.sl.cells
 have hD1:=d2.sl.one
 have hD2:=d2.sl.cells
 have rn6:=u3.get rn5
 have rn7:=d3.get rn6
 have rw7:=d3.get (u3.get rw5)
 refine g9 @u1 @d1 @rn6 @rn7 @rw7 @hU1 @hU2 @hD1 @hD2 ?_
 obtain ⟨h9,hh9⟩:∃h9,h9=(h7.set h2.length (.cells ⟨[I N,sE,.nils,.nils,sU,.nils,sC,sG],0,0,false⟩)).set h2.length (.cells ⟨[I N,sE,.nils,.nils,sU,sD,sC,sG],0,0,false⟩):=⟨_,rfl⟩
 rw[<-hh9]
 have l1':h1.length=h.length+3:=oM
 have l2':h2.length=h.length+4:=oM
 have l9:h9.length=h4.length+2:=by rw[hh9]; simp; omega
 have f79:FrS (λo=>o=h2.length) h7 h9:=by rw[hh9]; exact (FrS.set1 ..).trans (FrS.set1 ..)
 have f45:FrS (λo=>o=h2.length) h4 h5:=by rw[hh5]; exact FrS.set1 ..
 have f47:FrS (λo=>o=h2.length) h4 h7:=f45.trans (FrS.ofExt (u3.trans d3))
 have f49:FrS (λo=>o=h2.length) h4 h9:=f47.trans f79
 obtain ⟨oE,pE1,pE2,gE⟩:=Gr.place a2 oM
 obtain ⟨c,hc⟩:∃c:WC,c=⟨hb,h9.length,h2.length,oE,hb.length,h1.length,h5.length,h6.length,N,es,sE,sU,sD,sC,sG⟩:=⟨_,rfl⟩
 have cok:c.Ok:=by
  subst hc
  exact ⟨hN,no,co,⟨by (try simp only); omega,by (try simp only); omega,by (try simp only); omega,by (try simp only); omega,by (try simp only); omega,by (try simp only); omega⟩,⟨by (try simp only); omega,by (try simp only); omega,by (try simp only); omega,by (try simp only); omega,by (try simp only); omega,by (try simp only); omega⟩,
   ⟨by (try simp only); omega,by (try simp only); omega,by (try simp only); omega,by (try simp only); omega,by (try simp only); omega,by (try simp only); omega,by (try simp only); omega,by (try simp only); omega,by (try simp only); omega,by (try simp only); omega,by (try simp only); omega,by (try simp only); omega,by (try simp only); omega,by (try simp only); omega,by (try simp only); omega⟩⟩
 obtain ⟨s,hs0⟩:∃s:WS,s=⟨.nils,0,.nils,0,[],List.replicate (N*N*5) 0,List.replicate N false,[],List.replicate N .nils,List.replicate N .nils,List.replicate N [],List.replicate N []⟩:=⟨_,rfl⟩
 have inn:∀v:Int,0<=v->v<N->Inn c h9 s.sA s.oA s.sR s.oR (gi (List.replicate N AV.nils) v) (gi (List.replicate N ([]:List Int)) v):=λv v0 v1=>by
  rw[w2_ v0 v1,w2_ v0 v1]
  exact ⟨0,Gr.nil ..,λz=>absurd rfl z⟩
 have w:WV c s h9:=by
  subst hc hs0
  have e9:Ext hb h9:=f79.ext ((e5.trans u3).trans d3) λo ho=>oM
  refine ⟨e9,Nat.le_refl _,by rw[hh9]; exact a0_ (by simp; omega),gE.keep f49 λ_=>by (try simp only); omega,Gr.nil ..,λz=>absurd rfl z,Gr.nil ..,λz=>absurd rfl z,?_,?_,?_,?_,⟨by simp,by simp,by simp,by simp⟩,inn,inn⟩
  ·exact ((c2.ext ((g3.trans e3).trans a3)).keep f49 λ_=>by (try simp only); omega).cong (by simp[encI])
  ·exact ((g2.ext (e3.trans a3)).keep f49 λ_=>by (try simp only); omega).cong (by simp[encB])
  ·exact ((u2.ext d3).keep f79 λ_=>by (try simp only); omega).cong (by simp[one1])
  ·exact (d2.keep f79 λ_=>by (try simp only); omega).cong (by simp[one1])
 have hcN:c.N=N:=by rw[hc]
 have hces:c.es=es:=by rw[hc]
 have hcW:c.oW=h2.length:=by rw[hc]
 have hchb:c.hb=hb:=by rw[hc]
 rw[<-hcW]
 have rnc:c.hb[h.length]?=some (.cells ⟨[I c.N,sE0],0,0,false⟩):=by rw[hchb,hcN]; exact rn
 refine WP.ent (c3g (s:=s) cok rnc (t2:=.ptr (h.length+1) 0 6 0) (λs1 hA w1 q1 q2 q3 q4 q5 q6 q7=>?_) N 0 s h9 oM w (by rw[hs0]) (by rw[hs0]) rfl rfl rfl rfl (by rw[hs0]; rfl)) λi=>rfl
 refine WP.congr (a7F · ..) ?_
 refine WP.call (b9S cok w1 q1 q2 (by rw[q3,hs0,hcN])) ?_
 rintro _ hB ⟨rfl,sA,oA,A,C,w2,fB,pB,ci,laB⟩
 have rnB:=w2.eb.get rnc
 have hsB:Sl hB 4 sE0 (c.es.map encE):=by rw[hces]; exact hs.ext (eb.trans (hchb▸w2.eb))
 simp -implicitDefEqProofs (disch:=first|assumption|omega|(simp only[gL,gA]<;>omega)|fail) only[cG,reduceIte,rnB]
 refine WP.call (b8X cok.no (by omega) hsB) ?_
 rintro lo hO ⟨eO,gO⟩
 obtain ⟨vs,hvs⟩:∃vs,vs=ordTo c.es c.N (2*c.es.length+1):=⟨_,rfl⟩
 rw[<-hvs] at gO
 have oo:OrdOk c vs:=by
  have nd:=(b2Y (es:=c.es) (N:=c.N) (2*c.es.length+1)).1
  rw[<-hvs] at nd
  have hm:∀v∈vs,0<=v/\v<c.N/\linkB c.es v=false:=λv hv=>b9V (by rw[<-hvs]; exact hv)
  exact ⟨nd,λv hv=>⟨(hm v hv).1,(hm v hv).2.1,c1D cok.no (hm v hv).2.2⟩,b6c c.N vs nd λv hv=>⟨(hm v hv).1,(hm v hv).2.1⟩⟩
 have w3:=w2.ext cok eO
 have li:LI c vs 0 { s1 with sA:=sA,oA:=oA,A:=A,C:=C }:=by
  have hrep:∀v:Int,0<=v->v<c.N->gi (List.replicate N ([]:List Int)) v=[]:=λv v0 v1=>w2_ v0 (by rw[<-hcN]; exact v1)
  have h5:c.N*c.N*5<=50000:=Nat.mul_le_mul_right 5 (Nat.mul_le_mul (by omega:c.N<=100) (by omega:c.N<=100))
  refine ⟨by rw[List.take_zero]; have e:(λx:Int=>x∈([]:List Int))=λ_=>False:=by { funext x; simp }; rw[e]; exact ci,by show s1.g.length=_; rw[q4,hs0,hcN]; simp,λx x0 x1=>?_,by show A.length<=_; omega,q7,λv v0 v1=>?_,λv v0 v1=>?_,λa b v hab=>by rw[List.take_zero] at hab; cases a<;>cases hab⟩
  ·show gi s1.g x=true↔_
   rw[q4,hs0]
   show gi (List.replicate N false) x=true↔_
   rw[w2_ x0 oM]; simp
  ·show (gi s1.Up v).length<=_/\∀k∈gi s1.Up v,_
   rw[q5,hs0]
   show (gi (List.replicate N ([]:List Int)) v).length<=_/\∀k∈gi (List.replicate N ([]:List Int)) v,_
   rw[hrep v v0 v1]; simp
  ·show (gi s1.Dn v).length<=_/\∀k∈gi s1.Dn v,_
   rw[q6,hs0]
   show (gi (List.replicate N ([]:List Int)) v).length<=_/\∀k∈gi (List.replicate N ([]:List Int)) v,_
   rw[hrep v v0 v1]; simp
 refine WP.ent (c4X cok oo (λs2 hC w4 l4=>?_) vs.length 0 _ hO oM w3 li (Gr.inn w2 (Nat.le_refl _) gO)) λi=>rfl
 refine WP.congr (a7E · ..) ?_
 have lU:=w4.lU
 refine WP.ent (c3h cok l4 (by have:=oo.len; omega) rnc (λus Up hD w5 hUp=>?_) N 0 s2.us s2.Up hC oM w4 (λu u0 u1=>by rw[if_neg oM])) λi=>rfl
 refine WP.congr (a7h · ..) ?_
 have ixc:=l4.ixc cok oo lU.2.2.1 lU.2.2.2 w5.lU.2.2.1 hUp
 have r5:=w5.row
 have rt5:=w5.eb.get (hchb▸rt)
 have hr:rdNAt 6 (some (AObj.cells ⟨[I c.N,c.sE,s2.sR,s2.sA,c.sU,c.sD,c.sC,c.sG],0,0,false⟩)) 0 8 0=some (.agg [I c.N,c.sE,s2.sR,s2.sA,c.sU,c.sD]):=rfl
 have oE1:=w5.gE.sl.one
 have oR1:=w5.gR.sl.one
 have oA1:=w5.gA.sl.one
 have oU1:=w5.gU.sl.one
 have oD1:=w5.gD.sl.one
 refine g8 @r5 @rt5 @hr @oE1 @oR1 @oA1 @oU1 @oD1 ?_
 obtain ⟨x,hx⟩:∃x,x=AObj.cells ⟨[I c.N,c.sE,s2.sR,s2.sA,c.sU,c.sD],0,0,false⟩:=⟨_,rfl⟩
 rw[<-hx]
 have hot:h.length+1<hD.length:=(List.getElem?_eq_some_iff.1 rt5).1
 have hr6:rdNAt 6 (hD.set (h.length+1) x)[h.length+1]? 0 6 0=some (.agg [I c.N,c.sE,s2.sR,s2.sA,c.sU,c.sD]):=by rw[a0_ hot,hx]; rfl
 rw[hr6]
 refine g0 ?_
 have f0:FrS (λo=>o=h.length+1) hD (hD.set (h.length+1) x):=FrS.set1 ..
 have b:=cok.b
 have hcl:c.hb.length=h.length+2:=by rw[hchb]; exact lb
 have hb1:c.hb.length<=c.b1:=by have:=cok.t; omega
 refine WP.ret ⟨(eb.trans (hchb▸w5.eb)).setr oM _,s2.A,Up,s2.Dn,λh2 f1=>?_,by rw[<-hcN,<-hces]; exact ixc⟩
 have f:FrS (λo=>o<h.length+2) hD h2:=(f0.mono λo _ z=>oM).trans (f1.mono λo _ z=>oM)
 have inl:∀{y:AV} {ys:List Int},Inn c hD s2.sA s2.oA s2.sR s2.oR y ys->Sl h2 1 y (ys.map encI):=λ⟨o,g,p⟩=>(g.keep f λz=>by have:=p z; omega).sl
 refine ⟨c.sE,s2.sR,s2.sA,c.sU,c.sD,us,s2.ds,by rw[hcN],?_,oR1,?_,?_,?_,?_,?_,?_,?_⟩
 ·rw[<-hces]; exact (w5.gE.keep f λ_=>oM).sl
 ·exact (w5.gA.keep f λz=>by have:=w5.pA z; omega).sl
 ·exact (w5.gU.keep f λ_=>oM).sl
 ·exact (w5.gD.keep f λ_=>oM).sl
 ·rw[<-hcN]; exact w5.lU.1
 ·rw[<-hcN]; exact w5.lU.2.1
 ·intro v v0 v1; exact inl (w5.rU v v0 (by rw[hcN]; exact v1))
 ·intro v v0 v1; exact inl (w5.rD v v0 (by rw[hcN]; exact v1))
theorem a4L {N:Nat}(hN:1<=N/\N<=100)(no:NetOk N es)(co:COk es)(hs:Sl h 4 sE0 (es.map encE)) :
  Tot tab a6_ [.agg [I N,sE0]] h λr h'=>Ext h h'/\∃A Up Dn,IxV h' r N es A Up Dn/\IxC N es A Up Dn:=
 (a8J hN no co hs).mono λ_ _ ⟨e,A,Up,Dn,x,ix⟩=>⟨e,A,Up,Dn,x _ (FrS.refl _ _),ix⟩
end Go.Gm.AZ
namespace Go.Gm.AZ
open Go Go.Gm
inductive StkU (A:List Ar):List Nat->List Nat->Prop
 |nil:StkU A [] []
 |cons {k:Nat} {W l ls:List Nat}:Unp A k l->StkU A W ls->StkU A (k::W) (l++ls)
theorem Unp.pos (h:Unp A k l):1<=l.length:=by
 induction h with
 |edge h1 h2=>simp
 |two h1 h2 h3 h4 h5 h6 _ _ i1 i2=>rw[List.length_append]; omega
theorem StkU.le (h:StkU A W ls):W.length<=ls.length:=by
 induction h with
 |nil=>simp
 |cons h1 _ ih=>have:=h1.pos; rw[List.length_append,List.length_cons]; omega
section
variable {A:List Ar} {N:Int} {sE sR sA sU sD:AV} {hb:Heap} {ox:Nat}
def natE (n:Nat):List AV:=[I n]
theorem c5g (hlA:A.length<=100000000)(rx:hb[ox]?=some (.cells ⟨[I N,sE,sR,sA,sU,sD],0,0,false⟩))(hA:Sl hb 7 sA (A.map encA)) :
  ∀(d:Nat) (W ls os:List Nat) (h:Heap) (out wait:AV) (oo ow:Nat),2*ls.length-W.length<d->StkU A W ls->os.length+ls.length<=1000->Ext hb h->Gr oo (oo+1) h 1 out (os.map natE)->(out≠.nils->hb.length<=oo/\oo<h.length/\oo≠ow)->
   Gr ow (ow+1) h 1 wait (W.reverse.map natE)->wait≠.nils->hb.length<=ow->ow<h.length->
   WP (λp:Nat × Nat=>a2p p.1 p.2 (.ptr ox 0 6 0) out wait h) λr h'=>Ext hb h'/\Gr hb.length h'.length h' 1 r ((os++ls).map natE):=by
 intro d
 induction d with
 |zero=>intro W ls os h out wait oo ow hd; omega
 |succ d ih=>
  intro W ls os h out wait oo ow hd hs hb' e go po gw nw lw uw
  refine WP.rnd (b2R · · ..) ?_
  have rx':=e.get rx
  have gws:=gw.sl
  have hA':=hA.ext e
  cases hs with
  |nil=>
   have lw0:lenS wait=some (I 0):=by rw[gws.len]; rfl
   refine g1 @lw0 ?_
   refine WP.lv ?_ λi j=>rfl
   refine WP.congr (b2Q · ..) ?_
   refine WP.call (a8a go.sl (by simp; omega)) ?_
   rintro r h2 ⟨e2,g2⟩
   refine WP.ret ⟨e.trans e2,?_⟩
   exact g2.mono e.len (Nat.le_refl _)
  |@cons k W l ls hk hs=>
   have hWl:=hs.le
   have hpos:=hk.pos
   rw[List.length_append] at hb'
   rw[List.length_append,List.length_cons] at hd
   have hrl:(k::W).reverse.length=W.length+1:=by simp
   have hgi:gi (k::W).reverse (W.length:Int)=k:=by
    rw[List.reverse_cons]
    have:=a6R W.reverse k
    rwa [List.length_reverse] at this
   have ldk:=gws.ld0 (H:=h) (i:=(W.length:Int)) (Ext.refl _) oM (by rw[hrl]; omega) oM
   rw[hgi] at ldk
   replace ldk:Gm.ld1 h (elP 1 wait (W.length:Int))=some (I (k:Int)):=ldk
   have idk:=gws.idxG (i:=(W.length:Int)) oM (by rw[hrl]; omega)
   have lnk:lenS wait=some (I ((W.length:Int)+1)):=by rw[gws.lenG,hrl]; simp
   obtain ⟨s',t1,t2,t3⟩:=gw.take (n:=(W.length:Int)) oM (by rw[List.length_map,hrl]; omega) nw
   have t2':Gr ow (ow+1) h 1 s' (W.reverse.map natE):=t2.cong (by
    rw[Int.toNat_natCast,<-List.map_take,List.reverse_cons,List.take_append_of_le_length (by simp),List.take_of_length_le (by simp)])
   have hget:∀{a:Ar},A[k]?=some a->gi A (k:Int)=a/\k<A.length:=fun {a} ha=>by
    have hlt:=(List.getElem?_eq_some_iff.1 ha).1
    have:=c1_ (xs:=A) (i:=(k:Int)) oM oM
    rw[Int.toNat_natCast,ha] at this
    injection this with this
    exact ⟨this.symm,hlt⟩
   have hsub:(W.length:Int)+1-1=W.length:=oM
   have hz:I 0=I 0:=rfl
   try simp only[hz]
   have main:∀a:Ar,gi A (k:Int)=a->k<A.length->∀H,Ext h H->Gm.ldN 7 H (elP 7 sA (k:Int))=some (.agg [I a.fr,I a.to,I a.md,I a.co,I a.ed,I a.a,I a.b]):=λa ha hlt H eH=>by
    have:=(hA'.ldN (H:=H) (i:=(k:Int)) eH oM oM); rw[ha] at this; exact this
   cases hk with
   |@edge _ a ha hed=>
    obtain ⟨hga,hlt⟩:=hget ha
    have ldn:=main a hga hlt
    obtain ⟨h2,hh2⟩:∃h2,h2=(h++[AObj.cells ⟨[I 0,I 0,I 0,I 0,I 0,I 0,I 0],0,0,false⟩]).set h.length (.cells ⟨[I a.fr,I a.to,I a.md,I a.co,I a.ed,I a.a,I a.b],0,0,false⟩):=⟨_,rfl⟩
    have e2:Ext h h2:=by rw[hh2]; exact eX
    have l2:h2.length=h.length+1:=by rw[hh2]; simp
    have re2:h2[h.length]?=some (.cells ⟨[I a.fr,I a.to,I a.md,I a.co,I a.ed,I a.a,I a.b],0,0,false⟩):=by rw[hh2]; exact a0_ (by simp)
    have b:=Gr.lit (h:=h2) (sz:=1) (v:=[I a.ed]) rfl
    rw[a3_] at b
    obtain ⟨h3,hh3⟩:∃h3,h3=h2++[AObj.cells ⟨[I a.ed],0,0,false⟩]:=⟨_,rfl⟩
    rw[<-hh3] at b
    have e3:Ext h2 h3:=by rw[hh3]; exact Ext.push _ _
    have l3:h3.length=h2.length+1:=by rw[hh3]; simp
    have e23:=e2.trans e3
    obtain ⟨so,h4,o',q1,q2,q3,q4⟩:=(go.ext e23).appP (λz=>by have:=po z; omega) b.sl oM (bytes:=8) oM (by simp; omega)
    have hb1:bsl 1 1 h2 (some [I a.ed])=some (.sl h2.length 0 1 1 none 0,h3):=by rw[hh3]; rfl
    have f4:=q4.len
    have q3':so≠.nils->hb.length<=o'/\o'<h4.length/\o'≠ow:=λz=>by
     have:=e.len
     rcases (q3 z).1 with ⟨z1,z2⟩|z1
     ·have:=po z2; have:=(q3 z).2; omega
     ·have:=(q3 z).2; omega
    refine g9 @lnk @hsub @idk @ldk @t1 @rx' hA'.lenG hA'.idxG @ldn ?_
    rw[<-hh2]
    have hq1:apnd 1 8 out (.sl (h.length+1) 0 1 1 none 0) (h2++[AObj.cells ⟨[I a.ed],0,0,false⟩])=some (so,h4):=by rw[<-l2]; rw[hh3] at q1; exact q1
    rw[hq1]
    refine g0 ?_
    have ewf:FrS (λp=>out≠.nils/\p=oo) h h4:=(FrS.ofExt e23).trans q4
    have nod:ow<h.length->¬(out≠.nils/\ow=oo):=λ_ z=>(po z.1).2.2 z.2.symm
    have e4:Ext hb h4:=ewf.ext e λo ho z=>by have:=po z.1; omega
    have fin:=ih W ls (os++[a.ed.toNat]) h4 so s' o' ow (by simp at hd; omega) hs (by simp at hb' ⊢; omega) e4 (q2.cong (by simp[natE]; omega)) q3' (t2'.keep ewf λ_=>nod uw) t3 lw (by have:=ewf.len; omega)
    rw[List.append_assoc] at fin
    exact fin
   |@two _ i j a m1 m2 ha hed hia hjb hik hjk u1 u2=>
    obtain ⟨hga,hlt⟩:=hget ha
    have ldn:=main a hga hlt
    obtain ⟨h2,hh2⟩:∃h2,h2=(h++[AObj.cells ⟨[I 0,I 0,I 0,I 0,I 0,I 0,I 0],0,0,false⟩]).set h.length (.cells ⟨[I a.fr,I a.to,I a.md,I a.co,I a.ed,I a.a,I a.b],0,0,false⟩):=⟨_,rfl⟩
    have e2:Ext h h2:=by rw[hh2]; exact eX
    have l2:h2.length=h.length+1:=by rw[hh2]; simp
    have re2:h2[h.length]?=some (.cells ⟨[I a.fr,I a.to,I a.md,I a.co,I a.ed,I a.a,I a.b],0,0,false⟩):=by rw[hh2]; exact a0_ (by simp)
    have lo1:lenS out=some (I os.length):=go.sl.lenG
    have lw1:lenS s'=some (I W.length):=by rw[t2'.sl.lenG]; simp
    rw[hed,hia,hjb] at ldn hh2 re2
    have p1:=u1.pos
    have p2:=u2.pos
    rw[List.length_append] at hb' hd
    refine g11 @lnk @hsub @idk @ldk @t1 @rx' hA'.lenG hA'.idxG @ldn @lo1 @lw1 ?_
    rw[<-hh2]
    obtain ⟨h3,hh3⟩:∃h3,h3=h2++[AObj.cells ⟨[I (j:Int),I (i:Int)],0,0,false⟩]:=⟨_,rfl⟩
    have e3:Ext h2 h3:=by rw[hh3]; exact Ext.push _ _
    have l3:h3.length=h2.length+1:=by rw[hh3]; simp
    have e23:=e2.trans e3
    have b:Sl h3 1 (.sl (h.length+1) 0 2 1 none 0) [[I (j:Int)],[I (i:Int)]]:=.inr ⟨h.length+1,0,none,0,⟨[I (j:Int),I (i:Int)],0,0,false⟩,rfl,by rw[hh3,<-l2]; simp,Nat.le_refl _,by simp,by simp⟩
    obtain ⟨s2,h4,o',q1,q2,q3,q4⟩:=(t2'.ext e23).appP (λz=>oM) b oM (bytes:=8) oM (by simp; omega)
    have hq1:apnd 1 8 s' (.sl (h.length+1) 0 2 1 none 0) (h2++[AObj.cells ⟨[I (j:Int),I (i:Int)],0,0,false⟩])=some (s2,h4):=by rw[hh3] at q1; exact q1
    rw[hq1]
    refine g0 ?_
    have q2':Gr o' (o'+1) h4 1 s2 ((i::j::W).reverse.map natE):=q2.cong (by simp[natE])
    have n2:s2≠.nils:=q2'.nnil (by simp)
    have ewf:FrS (λp=>s'≠.nils/\p=ow) h h4:=(FrS.ofExt e23).trans q4
    have e4:Ext hb h4:=ewf.ext e λo ho z=>oM
    have ew:=e.len
    have f4:=ewf.len
    have pw:hb.length<=o'/\o'<h4.length/\(out≠.nils->oo≠o'):=by
     rcases (q3 n2).1 with ⟨z1,z2⟩|z1
     ·exact ⟨oM,(q3 n2).2,λz=>by have:=po z; omega⟩
     ·exact ⟨oM,(q3 n2).2,λz=>by have:=po z; omega⟩
    have fin:=ih (i::j::W) (m1++(m2++ls)) os h4 out s2 oo o' (by simp only[List.length_append,List.length_cons]; omega) (.cons u1 (.cons u2 hs)) (by simp only[List.length_append]; omega) e4 (go.keep ewf λz z2=>(po z).2.2 z2.2) (λz=>⟨(po z).1,by have:=(po z).2.1; omega,pw.2.2 z⟩) q2' n2 pw.1 pw.2.1
    rw[<-List.append_assoc m1] at fin
    exact fin
theorem b7E (hlA:A.length<=100000000)(hA:Sl h 7 sA (A.map encA))(hE1:sE.one=true)(hR1:sR.one=true)(hU1:sU.one=true)(hD1:sD.one=true)(hk:Unp A k l)(hl:l.length<=1000) :
  Tot tab a3c [.agg [I N,sE,sR,sA,sU,sD],I k] h λr h'=>Ext h h'/\Gr h.length h'.length h' 1 r (l.map natE):=by
 refine WP.tot (b4G · ..) ?_
 have hA1:=hA.one
 obtain ⟨h1,hh1⟩:∃h1,h1=h++[AObj.cells ⟨[I N,sE,sR,sA,sU,sD],0,0,false⟩]:=⟨_,rfl⟩
 have e1:Ext h h1:=by rw[hh1]; exact Ext.push _ _
 have l1:h1.length=h.length+1:=by rw[hh1]; simp
 have rx:h1[h.length]?=some (.cells ⟨[I N,sE,sR,sA,sU,sD],0,0,false⟩):=by rw[hh1]; simp
 have b:=Gr.lit (h:=h1) (sz:=1) (v:=[I (k:Int)]) rfl
 rw[a3_] at b
 have e2:Ext h1 (h1++[AObj.cells ⟨[I (k:Int)],0,0,false⟩]):=Ext.push _ _
 refine g5 @hA1 @hE1 @hR1 @hU1 @hD1 ?_
 rw[<-hh1]
 have:=(c5g hlA rx (hA.ext e1) (2*l.length) [k] l [] (h1++[AObj.cells ⟨[I (k:Int)],0,0,false⟩]) .nils (.sl h1.length 0 1 1 none 0) 0 h1.length (by have:=hk.pos; simp; omega) (by have:=StkU.cons hk .nil; rwa [List.append_nil] at this) (by simpa using hl) e2 (Gr.nil ..) (λz=>absurd rfl z) (b.cong (by simp[natE])) (by simp) (Nat.le_refl _) (by simp))
 rw[l1] at this
 refine WP.ent (this.mono λr h' ⟨q1,q2⟩=>⟨e1.trans q1,?_⟩) λi=>rfl
 exact q2.mono oM (Nat.le_refl _)
end
end Go.Gm.AZ
namespace Go.Gm.AZ
open Go Go.Gm
theorem dcell (ok:DOk D acc)(hD:Sl h 5 sD (D.map encR))(e:Ext h H){s m:Int}(s0:0<=s)(s1:s<D.length)(m0:0<=m)(m1:m<5):∃p,idxA 5 1 (elP 5 sD s) (I m)=some p/\Gm.ld1 H p=some (I (nx D s m)):=by
 obtain ⟨p,p1,p2,-⟩:=cellA (H:=H) hD e s0 s1 m0 m1
 refine ⟨p,p1,?_⟩
 rw[p2]
 have hr:=ok.row s s0 s1
 congr 1
 show (List.map I (gi D s)).getD m.toNat .undef=I (gi (gi D s) m)
 have:=c1_ (xs:=gi D s) (i:=m) m0 oM
 simp[List.getD,this]
def stdyB (D:List (List Int)):Bool:=(List.range D.length).all λs=>(List.range 5).all λm=>nx D (nx D (s:Int) (m:Int)) (m:Int) == nx D (s:Int) (m:Int)
theorem a9N:stdyB D=true↔Stdy D:=by
 simp only[stdyB,List.all_eq_true,List.mem_range,beq_iff_eq]
 constructor
 ·intro h s m s0 s1 m0 m1
  have:=h s.toNat oM m.toNat oM
  rwa [Int.toNat_of_nonneg s0,Int.toNat_of_nonneg m0] at this
 ·intro h s hs m hm
  exact h s m oM oM oM oM
section
variable {D:List (List Int)} {acc:List Bool} {h0:Heap} {sD sA:AV} {od:Nat}
theorem c0m (ok:DOk D acc)(rd:h0[od]?=some (.cells ⟨[sD,sA],0,0,false⟩))(hD:Sl h0 5 sD (D.map encR)){s:Nat}(hs:s<D.length)(no:∀t m:Nat,t<s->m<5->nx D (nx D (t:Int) (m:Int)) (m:Int)=nx D (t:Int) (m:Int))(hQ:(∀t m:Nat,t<s+1->m<5->nx D (nx D (t:Int) (m:Int)) (m:Int)=nx D (t:Int) (m:Int))->∀h,Ext h0 h->WP (λp:Nat × Nat=>a2o p.1 p.2 (.ptr od 0 2 0) t8 (I D.length) (I ((s:Int)+1)) h) λr h'=>Ext h0 h'/\r=.bool (stdyB D)) :
  ∀(d m:Nat) (h:Heap),m+d=5->Ext h0 h->(∀j:Nat,j<m->nx D (nx D (s:Int) (j:Int)) (j:Int)=nx D (s:Int) (j:Int))->
   WP (λp:(Nat × Nat) × Nat=>a4s p.1.1 p.1.2 p.2 (.ptr od 0 2 0) t8 (I D.length) (I s) (.agg (encR (gi D s))) (I m) h) λr h'=>Ext h0 h'/\r=.bool (stdyB D):=by
 have hl1:=ok.l1
 intro d
 induction d with
 |zero=>
  intro m h hm e hj
  refine WP.rnd (λi j=>a7W i.1 i.2 j ..) ?_
  obtain rfl:m=5:=oM
  refine g0 ?_
  refine WP.lv (hQ (λt m ht hm=>?_) h e) λi j=>rfl
  by_cases q:t=s
  ·subst q; exact hj m hm
  ·exact no t m oM hm
 |succ d ih=>
  intro m h hm e hj
  refine WP.rnd (λi j=>a7W i.1 i.2 j ..) ?_
  have rd':=e.get rd
  have hD':=hD.ext e
  have hrow:=ok.row (s:Int) oM oM
  have ix:=b5V (m:=m) hrow oM
  have hto:0<=nx D (s:Int) (m:Int)/\nx D (s:Int) (m:Int)<D.length:=ok.to (s:Int) (m:Int) oM oM oM oM
  obtain ⟨p,p1,p2⟩:=dcell (H:=h) (s:=nx D (s:Int) (m:Int)) ok hD' (Ext.refl _) hto.1 hto.2 (m:=(m:Int)) oM oM
  obtain ⟨to,hto'⟩:∃to,nx D (s:Int) (m:Int)=to:=⟨_,rfl⟩
  have ix':ixA 5 1 none (.agg (encR (gi D s))) (I m)=some (I to):=by rw[ix,<-hto']
  rw[hto'] at hto p1 p2
  by_cases q:nx D to (m:Int)=to
  ·refine g6 @ix' @rd' hD'.idxG @p1 @p2 @q ?_
   refine ih (m+1) h oM e λj hj'=>?_
   by_cases q2:j=m
   ·subst q2; rw[hto']; exact q
   ·exact hj j oM
  ·refine g6 @ix' @rd' hD'.idxG @p1 @p2 @q ?_
   refine WP.lv (WP.lv (WP.ret ⟨e,?_⟩) λi j=>rfl) λi j=>rfl
   congr 1
   cases hb:stdyB D with
   |false=>rfl
   |true=>
    have:=a9N.1 hb (s:Int) (m:Int) oM oM oM oM
    rw[hto'] at this
    exact absurd this q
theorem c0n (ok:DOk D acc)(rd:h0[od]?=some (.cells ⟨[sD,sA],0,0,false⟩))(hD:Sl h0 5 sD (D.map encR)) :
  ∀(d s:Nat) (h:Heap),s+d=D.length->Ext h0 h->(∀t m:Nat,t<s->m<5->nx D (nx D (t:Int) (m:Int)) (m:Int)=nx D (t:Int) (m:Int))->
   WP (λp:Nat × Nat=>a2o p.1 p.2 (.ptr od 0 2 0) sD (I D.length) (I s) h) λr h'=>Ext h0 h'/\r=.bool (stdyB D):=by
 have hl1:=ok.l1
 intro d
 induction d with
 |zero=>
  intro s h hs e no
  refine WP.rnd (a7X · · ..) ?_
  obtain rfl:s=D.length:=oM
  refine g0 ?_
  refine WP.ret ⟨e,?_⟩
  congr 1
  refine (a9N.2 λs m s0 s1 m0 m1=>?_).symm
  have:=no s.toNat m.toNat oM oM
  rwa [Int.toNat_of_nonneg s0,Int.toNat_of_nonneg m0] at this
 |succ d ih=>
  intro s h hs e no
  refine WP.rnd (a7X · · ..) ?_
  have hD':=hD.ext e
  have hrow:=ok.row (s:Int) oM oM
  obtain ⟨rw,hrw⟩:∃rw,gi D (s:Int)=rw:=⟨_,rfl⟩
  have ldn:∀H,Ext h H->Gm.ldN 5 H (elP 5 sD (s:Int))=some (.agg (encR rw)):=λH eH=>by have:=hD'.ldN (H:=H) (i:=(s:Int)) eH oM oM; rw[hrw] at this; exact this
  rw[hrw] at hrow
  obtain ⟨a,b,c,d',f,rfl⟩:∃a b c d' f,rw=[a,b,c,d',f]:=by
   match rw,hrow with
   |[a,b,c,d',f],_=>exact ⟨a,b,c,d',f,rfl⟩
  have hz:I 0=I 0:=rfl
  try simp only[hz]
  simp only[encR,List.map_cons,List.map_nil] at ldn
  obtain ⟨h2,hh2⟩:∃h2,h2=(h++[AObj.cells ⟨[I 0,I 0,I 0,I 0,I 0],0,0,false⟩]).set h.length (.cells ⟨[I a,I b,I c,I d',I f],0,0,false⟩):=⟨_,rfl⟩
  have e2:Ext h h2:=by rw[hh2]; exact eX
  refine g2 hD'.idxG @ldn ?_
  rw[<-hh2]
  have:=c0m ok rd hD (t8:=sD) (s:=s) oM no (λno' h e=>ih (s+1) h oM e no') 5 0 h2 oM (e.trans e2) (λj hj=>oM)
  rw[hrw] at this
  exact WP.ent this λi=>rfl
theorem b3a (ok:DOk D acc)(hD:Sl h 5 sD (D.map encR))(hA:Sl h 1 sA (acc.map encB)) :
  Tot tab a1s [.agg [sD,sA]] h λr h'=>Ext h h'/\r=.bool (stdyB D):=by
 refine WP.tot (b4F · ..) ?_
 have o1:=hD.one
 have o2:=hA.one
 obtain ⟨h1,hh1⟩:∃h1,h1=h++[AObj.cells ⟨[sD,sA],0,0,false⟩]:=⟨_,rfl⟩
 have e1:Ext h h1:=by rw[hh1]; exact Ext.push _ _
 have rd:h1[h.length]?=some (.cells ⟨[sD,sA],0,0,false⟩):=by rw[hh1]; simp
 refine g3 @o1 @o2 hD.lenG ?_
 rw[<-hh1]
 exact WP.ent ((c0n ok rd (hD.ext e1) D.length 0 h1 oM (Ext.refl _) (λt m ht=>oM)).mono λr h' ⟨q1,q2⟩=>⟨e1.trans q1,q2⟩) λi=>rfl
end
end Go.Gm.AZ
namespace Go.Gm.AZ
open Go Go.Gm
def FL (b:Nat)(oF:Nat)(sF:AV)(N:Nat)(X:Nat->List Int)(h:Heap):Prop:=
 ∃B:List AV,Gr oF (oF+1) h 1 sF (B.map one1)/\B.length=N/\Fam (λo=>b<=o) h 1 (λt:Nat=>t<N) (λt=>gi B (t:Int)) (λt=>(X t).map encI)
theorem FL.ext (f:FL b oF sF N X h)(e:Ext h h'):FL b oF sF N X h':=by
 obtain ⟨B,g,l,f⟩:=f
 exact ⟨B,g.ext e,l,f.frs (D:=λ_=>False) (FrS.ofExt e) λ_ _ _ z=>z⟩
theorem FL.add (f:FL b oF sF N X h)(hb:oF<b)(hbl:b<=h.length){v:Nat}(hv:v<N)(k:Int)(hl:(X v).length<=10000000000) :
  ∃s1 s2 h2 h3,idxS 1 sF (I v)=some (elP 1 sF v)/\Gm.ld1 h (elP 1 sF v)=some s1/\apnd 1 8 s1 (.sl h.length 0 1 1 none 0) (h++[AObj.cells ⟨[I k],0,0,false⟩])=some (s2,h2)/\s2.one=true/\s2.cells=[s2]/\stN 1 h2 (elP 1 sF v) s2=some h3/\
   FL b oF sF N (λt=>if t=v then X t++[k] else X t) h3/\FrS (λo=>b<=o) h h2/\FrS (λo=>o=oF\/b<=o) h h3/\h2.length=h3.length:=by
 obtain ⟨B,g,lB,fm⟩:=f
 have ld:=g.sl.ld0 (H:=h) (i:=(v:Int)) (Ext.refl _) oM oM oM
 replace ld:Gm.ld1 h (elP 1 sF (v:Int))=some (gi B (v:Int)):=ld
 have b1:Sl (h++[AObj.cells ⟨[I k],0,0,false⟩]) 1 (.sl h.length 0 1 1 none 0) [[I k]]:=by
  have:=(Gr.lit (h:=h) (sz:=1) (v:=[I k]) rfl).sl
  rwa [a3_] at this
 have e1:Ext h (h++[AObj.cells ⟨[I k],0,0,false⟩]):=Ext.push _ _
 have f':Fam (λo=>b<=o) (h++[AObj.cells ⟨[I k],0,0,false⟩]) 1 (λt:Nat=>t<N) (λt=>gi B (t:Int)) (λt=>(X t).map encI):=fm.frs (D:=λ_=>False) (FrS.ofExt e1) λ_ _ _ z=>z
 obtain ⟨s2,h2,k1,k2,k3,k4⟩:=f'.append (bytes:=8) (t:=v) hv b1 (by simp) oM oM (by simp; omega)
 have g2:=(g.ext e1).frs k4 λo z1 z2=>oM
 have c2:s2.cells=[s2]:=by
  have:=(k3.sl (t:=v) hv).cells
  simpa using this
 obtain ⟨h3,n1,n2,n3,n4⟩:=g2.write0 (i:=(v:Int)) (v:=s2) oM (by simp; omega) (by rw[c2]; rfl) (by rw[c2]; simp[k2])
 have hlq:=k4.len
 refine ⟨_,s2,h2,h3,g.sl.idxG oM oM,ld,k1,k2,c2,n1,?_,(FrS.ofExt e1).trans k4,?_,n4.symm⟩
 ·have f3:=k3.frs n3.s (λo z1 z2 z3=>by rcases z2 with z2|z2<;>simp only[List.length_append] at *<;>omega)
  refine ⟨B.set v s2,n2.cong (by rw[c2,Int.toNat_natCast,List.map_set]; rfl),by rw[List.length_set]; exact lB,(f3.mono λo z1 z2=>?_).congr λt ht'=>⟨?_,?_⟩⟩
  ·rcases z2 with z2|z2
   ·exact z2
   ·simp only[List.length_append] at z2; omega
  ·show gi (B.set v s2) (t:Int)=if t=v then s2 else gi B (t:Int)
   rw[giset2 oM]
  ·show (if t=v then X t++[k] else X t).map encI=if t=v then (X v).map encI++[[I k]] else (X t).map encI
   by_cases qt:t=v
   ·subst qt; simp[encI]
   ·rw[if_neg qt,if_neg qt]
 ·have z1:FrS (λo=>o=oF\/b<=o) h (h++[AObj.cells ⟨[I k],0,0,false⟩]):=FrS.ofExt e1
  exact (z1.trans (k4.mono λo _ z=>.inr z)).trans (n3.s.mono λo _ z=>.inl oM)
def allD (Dn:List (List Int))(n:Nat):List Int:=(List.range n).flatMap λ(u:Nat)=>gi Dn (u:Int)
def fallX (A:List Ar)(Z:List Int)(t:Nat):List Int:=Z.filter λk=>decide ((gi A k).fr=(t:Int))
theorem b2e (Dn:List (List Int))(n:Nat):allD Dn (n+1)=allD Dn n++gi Dn (n:Int):=by simp[allD,List.range_succ]
theorem b9f {Z:List Int}{v:Nat}(h:(gi A k).fr=(v:Int)):fallX A (Z++[k])=λt=>if t=v then fallX A Z t++[k] else fallX A Z t:=by
 funext t
 simp only[fallX,List.filter_append,List.filter_cons,List.filter_nil,h]
 by_cases q:t=v
 ·subst q; simp
 ·rw[if_neg q,decide_eq_false oM]; simp
structure WyV (h:Heap) (w:AV) (N:Nat) (es:List E) (A:List Ar) (Up Dn:List (List Int)) (D:List (List Int)) (acc:List Bool):Prop where
 ex:∃o sE sR sA sU sDn sD sAc sF us B,w=.ptr o 0 9 0/\h[o]?=some (.cells ⟨[I N,sE,sR,sA,sU,sDn,sD,sAc,sF],0,0,false⟩)/\Sl h 7 sA (A.map encA)/\Sl h 1 sU (us.map one1)/\us.length=N/\Sl h 5 sD (D.map encR)/\Sl h 1 sAc (acc.map encB)/\Sl h 1 sF (B.map one1)/\B.length=N/\
  (∀v:Int,0<=v->v<N->Sl h 1 (gi us v) ((gi Up v).map encI))/\(∀v:Nat,v<N->Sl h 1 (gi B (v:Int)) ((fallX A (allD Dn N) v).map encI))
theorem WyV.ext (x:WyV h w N es A Up Dn D acc)(e:Ext h h'):WyV h' w N es A Up Dn D acc:=by
 obtain ⟨o,sE,sR,sA,sU,sDn,sD,sAc,sF,us,B,h1,h2,h3,h4,h5,h6,h7,h8,h9,h10,h11⟩:=x.ex
 exact ⟨o,sE,sR,sA,sU,sDn,sD,sAc,sF,us,B,h1,e.get h2,h3.ext e,h4.ext e,h5,h6.ext e,h7.ext e,h8.ext e,h9,λv v0 v1=>(h10 v v0 v1).ext e,λv hv=>(h11 v hv).ext e⟩
section
variable {h0:Heap} {N LL:Nat} {es:List E} {A:List Ar} {Up Dn:List (List Int)} {sE sR sA sU sDn sD sAc sF:AV} {ds:List AV}
theorem b9g (hA:Sl h0 7 sA (A.map encA))(hlA:A.length<=50000000)(ax:∀k:Int,0<=k->k<A.length->AOk N (gi A k)){u:Nat}{ks:List Int}(hks:∀k∈ks,0<=k/\k<A.length)(hll:ks.length<=50000000)(hsu:Sl h0 1 su (ks.map encI)){Z:List Int}(hZ:Z.length<=5000000000)(hQ:∀h,Ext h0 h->h[h0.length]?=some (.cells ⟨[I N,sE,sR,sA,sU,sDn],0,0,false⟩)->h[h0.length+3]?=some (.cells ⟨[I N,sE,sR,sA,sU,sDn,sD,sAc,sF],0,0,false⟩)->FL (h0.length+4) (h0.length+2) sF N (fallX A (Z++ks)) h->h0.length+4<=h.length->
   WP (λp:Nat × Nat=>a0H p.1 p.2 (.ptr h0.length 0 6 0) (.ptr (h0.length+3) 0 9 0) sDn (I N) (I ((u:Int)+1)) h) Q)(hu:u<=1000) :
  ∀(d n:Nat) (h:Heap),n+d=ks.length->Ext h0 h->h[h0.length]?=some (.cells ⟨[I N,sE,sR,sA,sU,sDn],0,0,false⟩)->h[h0.length+3]?=some (.cells ⟨[I N,sE,sR,sA,sU,sDn,sD,sAc,sF],0,0,false⟩)->FL (h0.length+4) (h0.length+2) sF N (fallX A (Z++ks.take n)) h->h0.length+4<=h.length->
   WP (λp:(Nat × Nat) × Nat=>a2I p.1.1 p.1.2 p.2 (.ptr h0.length 0 6 0) (.ptr (h0.length+3) 0 9 0) sDn (I N) (I u) su (I ks.length) (I n) h) Q:=by
 intro d
 induction d with
 |zero=>
  intro n h hn e rx rw f bl
  refine WP.rnd (λi j=>a6s i.1 i.2 j ..) ?_
  obtain rfl:n=ks.length:=oM
  rw[List.take_length] at f
  refine g0 ?_
  exact WP.lv (hQ h e rx rw f bl) λi j=>rfl
 |succ d ih=>
  intro n h hn e rx rw f bl
  refine WP.rnd (λi j=>a6s i.1 i.2 j ..) ?_
  have hsu':=hsu.ext e
  have hA':=hA.ext e
  have hnk:(n:Int)<ks.length:=oM
  have ldk:=hsu'.ld0 (H:=h) (i:=(n:Int)) (Ext.refl _) oM hnk oM
  obtain ⟨k,hk⟩:∃k,gi ks (n:Int)=k:=⟨_,rfl⟩
  rw[hk] at ldk
  replace ldk:Gm.ld1 h (elP 1 su (n:Int))=some (I k):=ldk
  obtain ⟨k0,k1⟩:=hks k (hk▸b7_ oM hnk)
  have ak:=ax k k0 k1
  obtain ⟨v,hv⟩:∃v:Nat,(gi A k).fr=(v:Int):=⟨(gi A k).fr.toNat,by have:=ak.f0; omega⟩
  have hvN:v<N:=by have:=ak.f1; omega
  have ldf:=hA'.ldf 0 (H:=h) (i:=k) (Ext.refl _) k0 k1 oM
  have ldf':Gm.ld1 h (fldP 0 (elP 7 sA k))=some (I v):=by rw[ldf]; show some (I (gi A k).fr)=_; rw[hv]
  have hXl:(fallX A (Z++ks.take n) v).length<=10000000000:=by
   have h1:(fallX A (Z++ks.take n) v).length<=(Z++ks.take n).length:=List.length_filter_le _ _
   rw[List.length_append,List.length_take] at h1
   omega
  obtain ⟨s1,s2,h2,h3,p1,p2,p3,p4,p5,p6,p7,p8,p9,p10⟩:=f.add oM bl hvN k hXl
  have rw2:h2[h0.length+3]?=some (.cells ⟨[I N,sE,sR,sA,sU,sDn,sD,sAc,sF],0,0,false⟩):=by rw[p8.get oM oM]; exact rw
  have l2:=p8.len
  have id1:=hsu'.idxG (i:=(n:Int)) oM hnk
  have id2:=hA'.idxG k0 k1
  refine g10 @id1 @ldk @rx @id2 @ldf' @rw @p1 @p2 @p3 @rw2 ?_
  rw[p6]
  refine g0 ?_
  have tk:ks.take (n+1)=ks.take n++[k]:=by
   rw[List.take_add_one,show ks[n]?=some k by have:=c1_ (xs:=ks) (i:=(n:Int)) oM oM; rw[hk] at this; simpa using this]; rfl
  refine ih (n+1) h3 oM (p9.ext e λo ho=>oM) (by rw[p9.get oM oM]; exact rx) (by rw[p9.get oM oM]; exact rw) ?_ oM
  rw[tk,<-List.append_assoc,b9f hv]
  exact p7
theorem b9h (hN:N<=100)(hA:Sl h0 7 sA (A.map encA))(ix:IxS LL N es A Up Dn)(hD:Sl h0 1 sDn (ds.map one1))(ld:ds.length=N)(hds:∀v:Int,0<=v->v<N->Sl h0 1 (gi ds v) ((gi Dn v).map encI)){Q:AV->Heap->Prop}(hQ:∀h,Ext h0 h->h[h0.length+3]?=some (.cells ⟨[I N,sE,sR,sA,sU,sDn,sD,sAc,sF],0,0,false⟩)->FL (h0.length+4) (h0.length+2) sF N (fallX A (allD Dn N)) h->Q (.ptr (h0.length+3) 0 9 0) h) :
  ∀(d u:Nat) (h:Heap),u+d=N->Ext h0 h->h[h0.length]?=some (.cells ⟨[I N,sE,sR,sA,sU,sDn],0,0,false⟩)->h[h0.length+3]?=some (.cells ⟨[I N,sE,sR,sA,sU,sDn,sD,sAc,sF],0,0,false⟩)->FL (h0.length+4) (h0.length+2) sF N (fallX A (allD Dn u)) h->(allD Dn u).length<=u*50000000->h0.length+4<=h.length->
   WP (λp:Nat × Nat=>a0H p.1 p.2 (.ptr h0.length 0 6 0) (.ptr (h0.length+3) 0 9 0) sDn (I N) (I u) h) Q:=by
 intro d
 induction d with
 |zero=>
  intro u h hu e rx rw f lz bl
  refine WP.rnd (a6t · · ..) ?_
  obtain rfl:u=N:=oM
  refine g0 ?_
  exact WP.ret (hQ h e rw f)
 |succ d ih=>
  intro u h hu e rx rw f lz bl
  refine WP.rnd (a6t · · ..) ?_
  have hD':=hD.ext e
  have huN:(u:Int)<ds.length:=oM
  have ldu:=hD'.ld0 (H:=h) (i:=(u:Int)) (Ext.refl _) oM huN oM
  replace ldu:Gm.ld1 h (elP 1 sDn (u:Int))=some (gi ds (u:Int)):=ldu
  have idu:=hD'.idxG (i:=(u:Int)) oM huN
  have hsu:=hds u oM oM
  have lnu:=(hsu.ext e).lenG
  have hr:=ix.rD u oM oM
  have ax:∀k:Int,0<=k->k<A.length->AOk N (gi A k):=λk k0 k1=>(ix.arc _ _ (c1_ k0 k1)).1
  have hla:=ix.la
  refine g3 @idu @ldu @lnu ?_
  refine WP.ent (b9g hA hla ax (u:=u) (ks:=gi Dn (u:Int)) (Z:=allD Dn u) (λk hk=>⟨(hr.2 k hk).1,(hr.2 k hk).2.1⟩) hr.1 hsu oM (λh' e' rx' rw' f' bl'=>?_) oM (gi Dn (u:Int)).length 0 h oM e rx rw (by rw[List.take_zero,List.append_nil]; exact f) bl) λi=>rfl
  refine ih (u+1) h' oM e' rx' rw' (by rw[b2e]; exact f') ?_ bl'
  rw[b2e,List.length_append,Nat.succ_mul]
  omega
end
end Go.Gm.AZ
namespace Go.Gm.AZ
open Go Go.Gm
structure WyV2 (b:Heap) (c0:Nat) (h:Heap) (w:AV) (N:Nat) (es:List E) (A:List Ar) (Up Dn:List (List Int)) (D:List (List Int)) (acc:List Bool):Prop where
 eb:Ext b h
 ex:∃o oF sE sR sA sU sDn sD sAc sF us B,w=.ptr o 0 9 0/\h[o]?=some (.cells ⟨[I N,sE,sR,sA,sU,sDn,sD,sAc,sF],0,0,false⟩)/\c0<=o/\Sl b 7 sA (A.map encA)/\Sl b 1 sU (us.map one1)/\us.length=N/\Sl b 5 sD (D.map encR)/\Sl b 1 sAc (acc.map encB)/\Gr oF (oF+1) h 1 sF (B.map one1)/\c0<=oF/\B.length=N/\
  (∀v:Int,0<=v->v<N->Sl b 1 (gi us v) ((gi Up v).map encI))/\Fam (λo=>c0<=o) h 1 (λt:Nat=>t<N) (λt=>gi B (t:Int)) (λt=>(fallX A (allD Dn N) t).map encI)
theorem WyV2.wy (x:WyV2 b c0 h w N es A Up Dn D acc):WyV h w N es A Up Dn D acc:=by
 obtain ⟨o,oF,sE,sR,sA,sU,sDn,sD,sAc,sF,us,B,h1,h2,_,h3,h4,h5,h6,h7,h8,_,h9,h10,h11⟩:=x.ex
 exact ⟨o,sE,sR,sA,sU,sDn,sD,sAc,sF,us,B,h1,h2,h3.ext x.eb,h4.ext x.eb,h5,h6.ext x.eb,h7.ext x.eb,h8.sl,h9,λv v0 v1=>(h10 v v0 v1).ext x.eb,λv hv=>h11.sl hv⟩
theorem WyV2.frs (x:WyV2 b c0 h w N es A Up Dn D acc)(f:FrS P h h')(hP:∀o,o<h.length->P o->b.length<=o/\o<c0):WyV2 b c0 h' w N es A Up Dn D acc:=by
 obtain ⟨o,oF,sE,sR,sA,sU,sDn,sD,sAc,sF,us,B,h1,h2,ho,h3,h4,h5,h6,h7,h8,hF,h9,h10,h11⟩:=x.ex
 have lo:o<h.length:=(List.getElem?_eq_some_iff.1 h2).1
 have lb:=x.eb.len
 refine ⟨f.ext x.eb λp hp z=>by have:=hP p oM z; omega,o,oF,sE,sR,sA,sU,sDn,sD,sAc,sF,us,B,h1,by rw[f.get (λz=>by have:=hP o lo z; omega) lo]; exact h2,ho,h3,h4,h5,h6,h7,?_,hF,h9,h10,h11.frs f λp hp q z=>by have:=hP p hp z; omega⟩
 by_cases q:sF=.nils
 ·subst q
  have:=h8.isNil
  rw[this]
  exact Gr.nil ..
 ·obtain ⟨oo,po,g'⟩:=h8.point
  have:=po q
  exact h8.frs f λp p1 p2 z=>by have:=hP p oM z; omega
section
variable {h:Heap} {N LL:Nat} {es:List E} {A:List Ar} {Up Dn:List (List Int)} {D:List (List Int)} {acc:List Bool} {x w sD sAc:AV}
theorem b1F (eb:Ext b h)(hN:N<=100)(xv:IxV b x N es A Up Dn)(ix:IxS LL N es A Up Dn)(hDb:Sl b 5 sD (D.map encR))(hAb:Sl b 1 sAc (acc.map encB)) :
  Tot tab t9_ [x,.agg [sD,sAc]] h λr h'=>Ext h h'/\WyV2 b h.length h' r N es A Up Dn D acc:=by
 have hD:=hDb.ext eb
 have hA:=hAb.ext eb
 refine WP.tot (b3p · ..) ?_
 obtain ⟨sE,sR,sA,sU,sDn,us,ds,rfl,_,hR,hArb,hUb,_,lu,_,hUpb,_⟩:=xv.ex
 obtain ⟨_,_,_,_,_,us',ds,he,hE,_,hAr,hU,hDn,_,ldd,_,hDp⟩:=(xv.ext eb).ex
 cases he
 have o1:=hE.one
 have o2:=hAr.one
 have o3:=hU.one
 have o4:=hDn.one
 have o5:=hD.one
 have o6:=hA.one
 obtain ⟨h2,hh2⟩:∃h2,h2=(h++[AObj.cells ⟨[I N,sE,sR,sA,sU,sDn],0,0,false⟩])++[AObj.cells ⟨[sD,sAc],0,0,false⟩]:=⟨_,rfl⟩
 have e2:Ext h h2:=by rw[hh2]; exact (Ext.push _ _).app _
 have l2:h2.length=h.length+2:=by rw[hh2]; simp
 have rx:h2[h.length]?=some (.cells ⟨[I N,sE,sR,sA,sU,sDn],0,0,false⟩):=by rw[hh2,m2_ (by simp)]; simp
 have rd:h2[h.length+1]?=some (.cells ⟨[sD,sAc],0,0,false⟩):=by rw[hh2,r8_ (by simp)]; simp
 obtain ⟨sF,h3,c1,c2,c3,c4,c5⟩:=g0_ (zero:=[.nils]) (sz:=1) (bytes:=24) (n:=(N:Int)) h2 oM oM oM rfl rfl
 rw[Int.toNat_natCast] at c2
 have o7:=c2.sl.one
 have o8:=c2.sl.cells
 obtain ⟨h4,hh4⟩:∃h4,h4=h3++[AObj.cells ⟨[I N,sE,sR,sA,sU,sDn,sD,sAc,sF],0,0,false⟩]:=⟨_,rfl⟩
 have e4:Ext h3 h4:=by rw[hh4]; exact Ext.push _ _
 have l4:h4.length=h.length+4:=by rw[hh4]; simp; omega
 have l3:h3.length=h.length+3:=oM
 have rw4:h4[h.length+3]?=some (.cells ⟨[I N,sE,sR,sA,sU,sDn,sD,sAc,sF],0,0,false⟩):=by rw[hh4,<-l3]; simp
 have rx3:=c3.get rx
 have rx4:=e4.get rx3
 have eh:=(e2.trans c3).trans e4
 refine g7 @o1 @hR @o2 @o3 @o4 @o5 @o6 ?_
 rw[<-hh2]
 refine g12 @rx @rd @c1 @o1 @hR @o2 @o3 @o4 @o5 @o6 @o7 @o8 ?_
 rw[<-hh4]
 have lnd:lenS sDn=some (I N):=by rw[hDn.lenG,ldd]
 refine g3 @rx3 @rx4 @lnd ?_
 rw[l3]
 have f0:FL (h.length+4) (h.length+2) sF N (fallX A (allD Dn 0)) h4:=by
  refine ⟨List.replicate N .nils,?_,by simp,Fam.nil _ _ _ λt ht=>⟨w2_ oM oM,by simp[allD,fallX]⟩⟩
  rw[l2] at c2
  exact (c2.ext e4).cong (by simp[one1])
 refine WP.ent (b9h (h0:=h) hN hAr ix hDn ldd hDp (Q:=λr h'=>Ext h h'/\WyV2 b h.length h' r N es A Up Dn D acc) (λh' e' rw' f=>?_) N 0 h4 oM eh rx4 rw4 f0 (by simp[allD]) oM) λi=>rfl
 obtain ⟨B,g,lB,fm⟩:=f
 exact ⟨e',eb.trans e',h.length+3,h.length+2,sE,sR,sA,sU,sDn,sD,sAc,sF,us,B,rfl,rw',oM,hArb,hUb,lu,hDb,hAb,g,oM,lB,hUpb,fm.mono λo _ z=>oM⟩
theorem b6F (hN:N<=100)(xv:IxV h x N es A Up Dn)(ix:IxS LL N es A Up Dn)(hD:Sl h 5 sD (D.map encR))(hA:Sl h 1 sAc (acc.map encB)) :
  Tot tab t9_ [x,.agg [sD,sAc]] h λr h'=>Ext h h'/\WyV h' r N es A Up Dn D acc:=
 (b1F (Ext.refl h) hN xv ix hD hA).mono λr h' ⟨e,w⟩=>⟨e,w.wy⟩
def idQ (S:Nat)(v s:Int)(b:Bool):Int:=2*(v*S+s)+if b then 1 else 0
theorem b3u (wy:WyV h w N es A Up Dn D acc)(ok:DOk D acc){v s:Int}(v0:0<=v)(v1:v<=100000)(s0:0<=s)(s1:s<=100000)(b:Bool) :
  Tot tab a1x [w,.agg [I v,I s,.bool b]] h λr h'=>r=I (idQ D.length v s b)/\Ext h h':=by
 obtain ⟨o,sE,sR,sA,sU,sDn,sD,sAc,sF,us,B,rfl,hr,h3,h4,h5,h6,h7,h8,h9,h10,h11⟩:=wy.ex
 refine WP.tot (b3q · ..) ?_
 have hl:=ok.l1
 have hm0:0<=v*(D.length:Int):=Int.mul_nonneg v0 oM
 have hm1:v*(D.length:Int)<=100000*2000:=Int.mul_le_mul v1 oM oM oM
 have hw:IntKind.i64.wrap (v*(D.length:Int))=v*D.length:=d6_ oM oM
 have hw2:IntKind.i64.wrap (2*(v*(D.length:Int)+s))=2*(v*D.length+s):=d6_ oM oM
 have hol:o<h.length:=(List.getElem?_eq_some_iff.1 hr).1
 unfold idQ
 generalize hP:v*(D.length:Int)=P at *
 cases b with
 |true=>
  refine g5 @hr h6.lenG @hw @hw2 @hP ?_
  exact WP.ret ⟨rfl,eX⟩
 |false=>
  refine g5 @hr h6.lenG @hw @hw2 @hP ?_
  refine WP.ret ⟨?_,eX⟩
  simp
theorem b4e (wy:WyV h w N es A Up Dn D acc)(ok:DOk D acc){x:Nat}(hx:x<=400000000) :
  Tot tab a2c [w,I x] h λr h'=>r=.agg [I ((x / 2 / D.length:Nat):Int),I ((x / 2 % D.length:Nat):Int),.bool (x % 2 == 1)]/\Ext h h':=by
 obtain ⟨o,sE,sR,sA,sU,sDn,sD,sAc,sF,us,B,rfl,hr,h3,h4,h5,h6,h7,h8,h9,h10,h11⟩:=wy.ex
 refine WP.tot (b1Y · ..) ?_
 have hl:=ok.l0
 have hol:o<h.length:=(List.getElem?_eq_some_iff.1 hr).1
 have hd:x / 2 / D.length<=x / 2:=Nat.div_le_self _ _
 have hw0:IntKind.i64.wrap ((x:Int).tdiv 2)=((x / 2:Nat):Int):=by
  rw[show (2:Int)=((2:Nat):Int) from rfl,<-Int.ofNat_tdiv]
  exact d6_ oM oM
 have hw:IntKind.i64.wrap (((x / 2:Nat):Int).tdiv (D.length:Int))=((x / 2 / D.length:Nat):Int):=by
  rw[<-Int.ofNat_tdiv]
  generalize x / 2 / D.length=q at hd
  exact d6_ oM oM
 have hrm:((x / 2:Nat):Int).tmod (D.length:Int)=((x / 2 % D.length:Nat):Int):=(Int.ofNat_tmod _ _).symm
 have hr2:(x:Int).tmod 2=((x % 2:Nat):Int):=(Int.ofNat_tmod x 2).symm
 by_cases hb:x % 2=1
 ·have hbi:((x % 2:Nat):Int)=1:=oM
  refine g7 @hr h6.lenG @hw0 @hw @hrm @hr2 @hbi ?_
  refine WP.ret ⟨by simp[hb],eX⟩
 ·have hbi:¬((x % 2:Nat):Int)=1:=oM
  refine g7 @hr h6.lenG @hw0 @hw @hrm @hr2 @hbi ?_
  refine WP.ret ⟨by simp[hb],eX⟩
end
end Go.Gm.AZ
namespace Go.Gm.AZ
open Go Go.Gm
structure SchW (W:Nat->Prop) (h:Heap) (os:Nat) (wy q sc se sf:AV) (oc oe ov:Nat) (n:Nat) (cs ds fs:List Int) (M:List (Option Int)):Prop where
 row:h[os]?=some (.cells ⟨[wy,q,sc,se,sf],0,0,false⟩)
 gc:Gr oc (oc+1) h 1 sc (cs.map encI)
 ge:Gr oe (oe+1) h 1 se (ds.map encI)
 gf:Gr ov (ov+1) h 1 sf (fs.map encI)
 lc:cs.length=n
 le:ds.length=n
 lf:fs.length=n
 o1:oc<oe
 o2:oe<ov
 o3:ov<os
 wc:W oc
 we:W oe
 wv:W ov
 ws:W os
 qv:SQ (λo=>W o/\o≠oc/\o≠oe/\o≠ov/\o≠os) h q n M
section
variable {W:Nat->Prop} {h h':Heap} {os oc oe ov n:Nat} {wy q sc se sf:AV} {cs ds fs:List Int} {M:List (Option Int)}
theorem SchW.os_lt (w:SchW W h os wy q sc se sf oc oe ov n cs ds fs M):os<h.length:=(List.getElem?_eq_some_iff.1 w.row).1
theorem SchW.frs (w:SchW W h os wy q sc se sf oc oe ov n cs ds fs M)(f:FrS D h h')(hd:∀o,o<h.length->W o->¬D o):SchW W h' os wy q sc se sf oc oe ov n cs ds fs M:=by
 have h1:=w.os_lt
 have:=w.o1
 have:=w.o2
 have:=w.o3
 refine ⟨by rw[f.get (hd _ h1 w.ws) h1]; exact w.row,w.gc.frs f λo q1 q2=>?_,w.ge.frs f λo q1 q2=>?_,w.gf.frs f λo q1 q2=>?_,w.lc,w.le,w.lf,w.o1,w.o2,w.o3,w.wc,w.we,w.wv,w.ws,w.qv.frs f λo q1 q2=>hd o q1 q2.1⟩
 ·rw[show o=oc by omega]; exact hd _ oM w.wc
 ·rw[show o=oe by omega]; exact hd _ oM w.we
 ·rw[show o=ov by omega]; exact hd _ oM w.wv
theorem SchW.ext (w:SchW W h os wy q sc se sf oc oe ov n cs ds fs M)(e:Ext h h'):SchW W h' os wy q sc se sf oc oe ov n cs ds fs M:=w.frs (D:=λ_=>False) (FrS.ofExt e) λ_ _ _ z=>z
theorem SchW.mono (w:SchW W h os wy q sc se sf oc oe ov n cs ds fs M){W':Nat->Prop}(hw:∀o,o<h.length->W o->W' o):SchW W' h os wy q sc se sf oc oe ov n cs ds fs M:=by
 have h1:=w.os_lt
 have:=w.o1
 have:=w.o2
 have:=w.o3
 refine ⟨w.row,w.gc,w.ge,w.gf,w.lc,w.le,w.lf,w.o1,w.o2,w.o3,hw _ oM w.wc,hw _ oM w.we,hw _ oM w.wv,hw _ h1 w.ws,?_⟩
 obtain ⟨Wq,q1,q2⟩:=w.qv
 exact ⟨Wq,λo z=>⟨⟨hw o (q1 o z).2 (q1 o z).1.1,(q1 o z).1.2⟩,(q1 o z).2⟩,q2⟩
theorem SchW.setC (w:SchW W h os wy q sc se sf oc oe ov n cs ds fs M){y:Nat}(hy:y<n)(v:Int) :
  ∃h',stN 1 h (elP 1 sc y) (I v)=some h'/\SchW W h' os wy q sc se sf oc oe ov n (cs.set y v) ds fs M/\FrS (λo=>o=oc) h h':=by
 have:=w.o1
 have:=w.o2
 have:=w.o3
 obtain ⟨h',k1,k2,k3,k4⟩:=w.gc.write0 (i:=(y:Int)) (v:=I v) oM (by rw[List.length_map,w.lc]; omega) rfl rfl
 have f:FrS (λo=>o=oc) h h':=k3.s.mono λo z1 z2=>oM
 refine ⟨h',k1,⟨by rw[f.get oM w.os_lt]; exact w.row,k2.cong ?_,w.ge.frs f λo z1 z2=>oM,w.gf.frs f λo z1 z2=>oM,by rw[List.length_set]; exact w.lc,w.le,w.lf,w.o1,w.o2,w.o3,w.wc,w.we,w.wv,w.ws,w.qv.frs f λo z1 z2=>z2.2.1⟩,f⟩
 rw[List.map_set]; simp[encI]; rfl
theorem SchW.setE (w:SchW W h os wy q sc se sf oc oe ov n cs ds fs M){y:Nat}(hy:y<n)(v:Int) :
  ∃h',stN 1 h (elP 1 se y) (I v)=some h'/\SchW W h' os wy q sc se sf oc oe ov n cs (ds.set y v) fs M/\FrS (λo=>o=oe) h h':=by
 have:=w.o1
 have:=w.o2
 have:=w.o3
 obtain ⟨h',k1,k2,k3,k4⟩:=w.ge.write0 (i:=(y:Int)) (v:=I v) oM (by rw[List.length_map,w.le]; omega) rfl rfl
 have f:FrS (λo=>o=oe) h h':=k3.s.mono λo z1 z2=>oM
 refine ⟨h',k1,⟨by rw[f.get oM w.os_lt]; exact w.row,w.gc.frs f λo z1 z2=>oM,k2.cong ?_,w.gf.frs f λo z1 z2=>oM,w.lc,by rw[List.length_set]; exact w.le,w.lf,w.o1,w.o2,w.o3,w.wc,w.we,w.wv,w.ws,w.qv.frs f λo z1 z2=>z2.2.2.1⟩,f⟩
 rw[List.map_set]; simp[encI]; rfl
theorem SchW.setF (w:SchW W h os wy q sc se sf oc oe ov n cs ds fs M){y:Nat}(hy:y<n)(v:Int) :
  ∃h',stN 1 h (elP 1 sf y) (I v)=some h'/\SchW W h' os wy q sc se sf oc oe ov n cs ds (fs.set y v) M/\FrS (λo=>o=ov) h h':=by
 have:=w.o1
 have:=w.o2
 have:=w.o3
 obtain ⟨h',k1,k2,k3,k4⟩:=w.gf.write0 (i:=(y:Int)) (v:=I v) oM (by rw[List.length_map,w.lf]; omega) rfl rfl
 have f:FrS (λo=>o=ov) h h':=k3.s.mono λo z1 z2=>oM
 refine ⟨h',k1,⟨by rw[f.get oM w.os_lt]; exact w.row,w.gc.frs f λo z1 z2=>oM,w.ge.frs f λo z1 z2=>oM,k2.cong ?_,w.lc,w.le,by rw[List.length_set]; exact w.lf,w.o1,w.o2,w.o3,w.wc,w.we,w.wv,w.ws,w.qv.frs f λo z1 z2=>z2.2.2.2.1⟩,f⟩
 rw[List.map_set]; simp[encI]; rfl
theorem SchW.q' (w:SchW W h os wy q sc se sf oc oe ov n cs ds fs M)(f:FrS D h h')(hd:∀o,D o->o≠oc/\o≠oe/\o≠ov/\o≠os)(v:SQ (λo=>W o/\o≠oc/\o≠oe/\o≠ov/\o≠os) h' q n M'):SchW W h' os wy q sc se sf oc oe ov n cs ds fs M':=by
 refine ⟨by rw[f.get (λz=>(hd _ z).2.2.2 rfl) w.os_lt]; exact w.row,w.gc.frs f λo q1 q2 z=>(hd o z).1 oM,w.ge.frs f λo q1 q2 z=>(hd o z).2.1 oM,w.gf.frs f λo q1 q2 z=>(hd o z).2.2.1 oM,w.lc,w.le,w.lf,w.o1,w.o2,w.o3,w.wc,w.we,w.wv,w.ws,v⟩
end
abbrev WQ:Int:=4398046511104
def hopK (A:List Ar)(D:List (List Int))(b:Bool)(s k:Int):Hop:=((idQ D.length (gi A k).to (nx D s (gi A k).md) b).toNat,k.toNat,(gi A k).co)
def hopQ (N:Nat)(A:List Ar)(Up Dn:List (List Int))(D:List (List Int))(x:Nat):List Hop:=
 (if x % 2=1 then [] else (gi Up ((x / 2 / D.length:Nat):Int)).map (hopK A D false ((x / 2 % D.length:Nat):Int)))++(fallX A (allD Dn N) (x / 2 / D.length)).map (hopK A D true ((x / 2 % D.length:Nat):Int))
theorem a4g {N S:Nat}{v s:Int}(v0:0<=v)(v1:v<N)(s0:0<=s)(s1:s<S)(b:Bool):0<=idQ S v s b/\idQ S v s b<((2*(N*S):Nat):Int):=by
 obtain ⟨h1,h2⟩:=b0o v0 v1 s0 s1
 have h3:((2*(N*S):Nat):Int)=2*((N*S:Nat):Int):=by simp
 unfold idQ
 rw[h3]
 cases b<;>simp<;>omega
section
variable {h0 h:Heap} {wp:AV} {N LL:Nat} {es:List E} {A:List Ar} {Up Dn:List (List Int)} {D:List (List Int)} {acc:List Bool}
theorem by_l1 {W:Nat->Prop}{os oc oe ov oat:Nat}{n:Nat}{ks:List Int}{rest:List Hop}{id k:Nat}{key v s:Int}(e0:Ext h0 hb)(hW:∀o,W o->h0.length<=o)(hWn:∀o,hb.length<=o->W o)(wv:WyV h0 wp N es A Up Dn D acc)(ix:IxS LL N es A Up Dn)(ok:DOk D acc)(hN:N<=100)(hn:n=2*(N*D.length))(hn2:n<=1000000)(hg:GOk n WQ Ah)(hks:∀k∈ks,0<=k/\k<A.length)(hAt:∀k∈ks,hopK A D dn s k∈Ah id)(ht:Sl h0 1 t19 (ks.map encI))(hid:id<n)(hl:ks.length<=10000000000)(s0:0<=s)(s1:s<D.length)(rat:hb[oat]?=some (.cells ⟨[I v,I s,.bool d0],0,0,false⟩))(hoat:¬W oat)(hc:gi cs id=key)(hk0:0<=key)(hk1:key<=k*WQ)(hkn:k<n) :
  ∀(d i:Nat) (h:Heap) (ds fs:List Int) (M:List (Option Int)),i+d=ks.length->FrS W hb h->SchW W h os wp q sc se sf oc oe ov n cs ds fs M->DI n WQ Ah st id ((ks.drop i).map (hopK A D dn s)++rest) (gf cs) (gf M) (gf ds) (gf fs) rk (k+1)->
   WP (λp:Nat × Nat=>y8_ p.1 p.2 (.ptr os 0 5 0) (I id) (.bool dn) (.ptr oat 0 3 0) t19 (I ks.length) (I i) h) λr h'=>r=.tup []/\FrS W hb h'/\
    ∃ds2 fs2 M2,SchW W h' os wp q sc se sf oc oe ov n cs ds2 fs2 M2/\DI n WQ Ah st id rest (gf cs) (gf M2) (gf ds2) (gf fs2) rk (k+1):=by
 have hoat':oat<hb.length:=(List.getElem?_eq_some_iff.1 rat).1
 intro d
 induction d with
 |zero=>
  intro i h ds fs M h1 f w di
  refine WP.rnd (a5u · · ..) ?_
  rw[List.drop_eq_nil_of_le oM,List.map_nil,List.nil_append] at di
  refine g0 ?_
  exact WP.ret ⟨rfl,f,ds,fs,M,w,di⟩
 |succ d ih=>
  intro i h ds fs M h1 f w di
  refine WP.rnd (a5u · · ..) ?_
  obtain ⟨a,hti⟩:∃a,gi ks i=a:=⟨_,rfl⟩
  have hil:(i:Int)<ks.length:=oM
  have htm:a∈ks:=hti▸b7_ oM hil
  obtain ⟨a0,a1⟩:=hks a htm
  have hdr:ks.drop i=a::ks.drop (i+1):=by
   rw[List.drop_eq_getElem_cons oM]
   congr 1
   rw[<-hti,b2_ oM]
  rw[hdr,List.map_cons,List.cons_append] at di
  obtain ⟨ar,har⟩:∃ar,gi A a=ar:=⟨_,rfl⟩
  have ak:=(ix.arc _ _ (c1_ a0 a1)).1
  rw[har] at ak
  have hto:0<=nx D s ar.md/\nx D s ar.md<D.length:=ok.to s ar.md s0 s1 ak.m0 ak.m1
  obtain ⟨sp1,sp2⟩:=a4g (S:=D.length) ak.t0 ak.t1 hto.1 hto.2 dn
  obtain ⟨y,hy⟩:∃y:Nat,idQ D.length ar.to (nx D s ar.md) dn=y:=⟨(idQ D.length ar.to (nx D s ar.md) dn).toNat,oM⟩
  have hho:hopK A D dn s a=(y,a.toNat,ar.co):=by
   simp only[hopK,har,hy]; rfl
  rw[hho] at di
  have hyn:y<n:=oM
  have hA:(y,a.toNat,ar.co)∈Ah id:=hho▸hAt a htm
  have ex:Ext h0 h:=f.ext e0 λo q1 q2=>by have:=hW o q2; omega
  have hlo:=ex.len
  have hlb:=f.len
  have hos:=w.os_lt
  obtain ⟨ow,sE,sR,sA,sU,sDn,sD,sAc,sF,us,B,rfl,rw0,wA,wU,wlu,wD,wAc,wF,wlB,wUp,wFl⟩:=wv.ex
  have wA':=wA.ext ex
  have rww:=ex.get rw0
  have how:ow<h.length:=(List.getElem?_eq_some_iff.1 rww).1
  have rath:h[oat]?=some (.cells ⟨[I v,I s,.bool d0],0,0,false⟩):=by rw[f.get hoat hoat']; exact rat
  have ts:=ht.ext ex
  have ldk:=ts.ld0 (H:=h) (i:=(i:Int)) (Ext.refl _) oM hil oM
  rw[hti] at ldk
  replace ldk:Gm.ld1 h (elP 1 t19 (i:Int))=some (I a):=ldk
  have idk:=ts.idxG (i:=(i:Int)) oM hil
  have ida:=wA'.idxG a0 a1
  have ldn:∀H,Ext h H->Gm.ldN 7 H (elP 7 sA a)=some (.agg [I ar.fr,I ar.to,I ar.md,I ar.co,I ar.ed,I ar.a,I ar.b]):=λH e=>by have:=wA'.ldN (H:=H) (i:=a) e a0 a1; rw[har] at this; exact this
  have hz:I 0=I 0:=rfl
  try simp only[hz]
  obtain ⟨h2,hh2⟩:∃h2,h2=(h++[AObj.cells ⟨[I 0,I 0,I 0,I 0,I 0,I 0,I 0],0,0,false⟩]).set h.length (.cells ⟨[I ar.fr,I ar.to,I ar.md,I ar.co,I ar.ed,I ar.a,I ar.b],0,0,false⟩):=⟨_,rfl⟩
  have e2:Ext h h2:=by rw[hh2]; exact eX
  have hl2:h2.length=h.length+1:=by rw[hh2]; simp
  have r2:h2[h.length]?=some (.cells ⟨[I ar.fr,I ar.to,I ar.md,I ar.co,I ar.ed,I ar.a,I ar.b],0,0,false⟩):=by rw[hh2]; exact a0_ (by simp)
  have w2:=w.ext e2
  have ro2:=w2.row
  have ro1:=w.row
  have rw2:=e2.get rww
  have rat2:=e2.get rath
  have wD2:=wD.ext (ex.trans e2)
  obtain ⟨pp,pp1,pp2⟩:=dcell (H:=h2) ok wD2 (Ext.refl _) s0 s1 ak.m0 ak.m1
  have idd:=wD2.idxG s0 s1
  refine g6 @idk @ldk @ro1 @rww @ida @ldn ?_
  rw[<-hh2]
  refine g7 @ro2 @r2 @rw2 @rath @idd @pp1 @pp2 ?_
  refine WP.call (b3u (wv.ext (ex.trans e2)) ok ak.t0 (by have:=ak.t1; omega) hto.1 (by have:=ok.l1; omega) dn) ?_
  rintro _ h3 ⟨rfl,e3⟩
  rw[hy]
  have w3:=w2.ext e3
  have ro3:=w3.row
  have r3:=e3.get r2
  have hl3:=e3.len
  have ex3:=(ex.trans e2).trans e3
  have f3:FrS W hb h3:=f.trans ((FrS.ofExt e2).trans (FrS.ofExt e3))
  have gc3:=w3.gc.sl
  have idc:=gc3.idxG (i:=(y:Int)) oM (by rw[w3.lc]; omega)
  have ldc:=gc3.ld0 (H:=h3) (i:=(y:Int)) (Ext.refl _) oM (by rw[w3.lc]; omega) oM
  replace ldc:Gm.ld1 h3 (elP 1 sc (y:Int))=some (I (gi cs y)):=ldc
  have idi:=gc3.idxG (i:=(id:Int)) oM (by rw[w3.lc]; omega)
  have ldi:=gc3.ld0 (H:=h3) (i:=(id:Int)) (Ext.refl _) oM (by rw[w3.lc]; omega) oM
  replace ldi:Gm.ld1 h3 (elP 1 sc (id:Int))=some (I key):=by rw[ldi,hc]; rfl
  by_cases hcy:0<=gi cs y
  ·refine g3 @ro3 @idc @ldc ?_
   exact ih (i+1) h3 ds fs M oM f3 w3 (di.skip (.inl hcy))
  ·have hcm:=di.neg y hyn hcy
   have hkb:(k:Int)*WQ<=1000000*WQ:=Int.mul_le_mul_of_nonneg_right oM (by decide)
   have c0:=ak.c0
   have c1:=ak.c1
   have hkey:key<=1000000*4398046511104:=by have h5:(1000000:Int)*WQ=1000000*4398046511104:=rfl; omega
   have hq3:SQ (λo=>(W o/\o≠oc/\o≠oe/\o≠ov/\o≠os)/\o≠h.length) h3 q n M:=((w.qv.wide (P':=λo=>(W o/\o≠oc/\o≠oe/\o≠ov/\o≠os)/\o≠h.length) λo o1 o2=>⟨o2,oM⟩).ext e2).ext e3
   have hmu:=hq3.put hn2 (λo ho=>⟨⟨hWn o oM,by have:=w3.o1; have:=w3.o2; have:=w3.o3; have:=w3.os_lt; omega⟩,oM⟩) (y:Int) (key+ar.co)
   refine g6 @ro3 @idc @ldc @idi @ldi @r3 ?_
   refine WP.call hmu ?_
   rintro _ h4 ⟨rfl,v4,f4⟩
   have w4:=w3.q' f4 (λo z=>z.1.2) (v4.wide λo _ z=>z.1)
   have f4b:FrS W hb h4:=f3.trans (f4.mono λo _ z=>z.1.1)
   have hml:=w.qv.lm
   have gy:gf M y=gi M y:=rfl
   have skip:∀v,gi M y=some v->v<=key+ar.co->putM n M y (key+ar.co)=(M,false):=by
    intro v h1 h2
    rw[putM,if_pos ⟨oM,oM⟩,h1]
    exact if_pos h2
   have put:(∀v,gi M y=some v->¬v<=key+ar.co)->putM n M y (key+ar.co)=(M.set y (some (key+ar.co)),true):=by
    intro h1
    rw[putM,if_pos ⟨oM,oM⟩]
    cases hm:gi M (y:Int) with
    |none=>rfl
    |some v=>exact if_neg (h1 v hm)
   by_cases hm:∃v,gi M y=some v/\v<=key+ar.co
   ·obtain ⟨v,m1,m2⟩:=hm
    rw[skip v m1 m2] at w4 ⊢
    refine g0 ?_
    refine ih (i+1) h4 ds fs M oM f4b w4 (di.skip (.inr ⟨v,m1,?_⟩))
    show v<=gi cs id+ar.co
    omega
   ·have m1:∀v,gi M y=some v->¬v<=key+ar.co:=λv z1 z2=>hm ⟨v,z1,z2⟩
    rw[put m1] at w4 ⊢
    have ro4:=w4.row
    obtain ⟨h5,s1',w5,f5⟩:=w4.setE hyn a
    obtain ⟨h6,s2',w6,f6⟩:=w5.setF hyn id
    refine g7 @ro4 w4.ge.sl.idxG w4.gf.sl.idxG w4.le w4.lf @s1' @s2' ?_
    refine ih (i+1) h6 _ _ _ oM ((f4b.trans (f5.mono λo _ z=>z▸w.we)).trans (f6.mono λo _ z=>z▸w.wv)) w6 ?_
    have:=di.put hg hid (by show 0<=gi cs id; omega) hA (by show gi cs y<0; omega) (λv z=>by have:=m1 v z; show gi cs id+ar.co<v; omega) (by show gi cs id<=_; omega)
    rw[show gf (M.set y (some (key+ar.co)))=_ from gset oM _,show gf (ds.set y a)=_ from gset (by rw[w.le]; omega) _,show gf (fs.set y (id:Int))=_ from gset (by rw[w.lf]; omega) _]
    have hcc:gf cs id=key:=hc
    have hti2:((a.toNat:Nat):Int)=a:=oM
    rw[hcc,hti2] at this
    exact this
end
end Go.Gm.AZ
namespace Go.Gm.AZ
open Go Go.Gm
section
variable {h0 h:Heap} {wp:AV} {N LL:Nat} {es:List E} {A:List Ar} {Up Dn:List (List Int)} {D:List (List Int)} {acc:List Bool}
theorem b8c {W:Nat->Prop}{n:Nat}{ks:List Int}{rest:List Hop}{id k:Nat}{key:Int}(e0:Ext h0 h)(hW:∀o,W o->h0.length<=o)(wv:WyV h0 wp N es A Up Dn D acc)(ix:IxS LL N es A Up Dn)(ok:DOk D acc)(hN:N<=100)(hn:n=2*(N*D.length))(hn2:n<=1000000)(hg:GOk n WQ Ah)(hks:∀k∈ks,0<=k/\k<A.length)(hAt:∀k∈ks,hopK A D dn ((id / 2 % D.length:Nat):Int) k∈Ah id)(ht:Sl h0 1 t19 (ks.map encI))(hid:id<n)(hl:ks.length<=10000000000)(hc:gi cs id=key)(hk0:0<=key)(hk1:key<=k*WQ)(hkn:k<n)(w:SchW W h os wp q sc se sf oc oe ov n cs ds fs M)(di:DI n WQ Ah st id (ks.map (hopK A D dn ((id / 2 % D.length:Nat):Int))++rest) (gf cs) (gf M) (gf ds) (gf fs) rk (k+1)) :
  Tot tab a0p [.ptr os 0 5 0,I id,.bool dn,t19] h λr h'=>r=.tup []/\FrS W h h'/\
    ∃ds2 fs2 M2,SchW (λo=>W o\/h.length<=o) h' os wp q sc se sf oc oe ov n cs ds2 fs2 M2/\DI n WQ Ah st id rest (gf cs) (gf M2) (gf ds2) (gf fs2) rk (k+1):=by
 refine WP.tot (b1Z · ..) ?_
 have ro:=w.row
 have hS:=ok.l0
 have hos:=w.os_lt
 refine g1 @ro ?_
 refine WP.call (b4e (wv.ext e0) ok (x:=id) oM) ?_
 rintro _ h1 ⟨rfl,e1⟩
 have hz:I 0=I 0:=rfl
 try simp only[hz]
 obtain ⟨h2,hh2⟩:∃h2,h2=(h1++[AObj.cells ⟨[I 0,I 0,.bool false],0,0,false⟩]).set h1.length (.cells ⟨[I ((id / 2 / D.length:Nat):Int),I ((id / 2 % D.length:Nat):Int),.bool (id % 2 == 1)],0,0,false⟩):=⟨_,rfl⟩
 have e2:Ext h1 h2:=by rw[hh2]; exact eX
 have l2:h2.length=h1.length+1:=by rw[hh2]; simp
 have r2:h2[h1.length]?=some (.cells ⟨[I ((id / 2 / D.length:Nat):Int),I ((id / 2 % D.length:Nat):Int),.bool (id % 2 == 1)],0,0,false⟩):=by rw[hh2]; exact a0_ (by simp)
 have lnk:=(ht.ext e0).lenG
 refine g1 @lnk ?_
 rw[<-hh2]
 have e12:=e1.trans e2
 have hl1:=e1.len
 have w2:=w.ext e12
 refine WP.ent ((by_l1 (W:=λo=>(W o/\o<h.length)\/h2.length<=o) (hb:=h2) (st:=st) (Ah:=Ah) (rk:=rk) (k:=k) (rest:=rest) (dn:=dn) (e0.trans e12)
  (λo z=>?_) (λo z=>.inr z) wv ix ok hN hn hn2 hg hks hAt ht hid hl (Int.natCast_nonneg _) (Int.ofNat_lt.2 (Nat.mod_lt _ hS)) r2 (λz=>?_) hc hk0 hk1 hkn ks.length 0 h2 ds fs M (Nat.zero_add _) (FrS.refl _ _) ((w.mono (W':=λo=>(W o/\o<h.length)\/h2.length<=o) λo z1 z2=>.inl ⟨z2,z1⟩).ext e12) (by rw[List.drop_zero]; exact di)).mono ?_) λi=>rfl
 ·rcases z with z|z
  ·exact hW o z.1
  ·have:=(e0.trans e12).len; omega
 ·rcases z with z|z<;>omega
 ·rintro r h' ⟨rfl,f,ds2,fs2,M2,w3,d3⟩
  refine ⟨rfl,⟨by have:=f.len; omega,λo z1 z2=>?_⟩,ds2,fs2,M2,w3.mono λo z1 z2=>?_,d3⟩
  ·rw[f.get (λz=>z.elim (λz=>z1 z.1) (λz=>oM)) oM]
   exact (FrS.ofExt (D:=W) e12).get z1 z2
  ·rcases z2 with z|z
   ·exact .inl z.1
   ·exact .inr oM
theorem b3v (ix:IxS LL N es A Up Dn)(ok:DOk D acc):GOk (2*(N*D.length)) WQ (hopQ N A Up Dn D):=by
 refine ⟨by decide,λx hx y e w hm=>?_⟩
 have hS:=ok.l0
 have hx2:x / 2<N*D.length:=oM
 obtain ⟨d1,d2⟩:=dm hx2
 have key:∀(b:Bool) (k:Int),0<=k->k<A.length->hopK A D b ((x / 2 % D.length:Nat):Int) k=(y,e,w)->y<2*(N*D.length)/\0<=w/\w<=WQ:=by
  intro b k k0 k1 hk
  have ak:=(ix.arc _ _ (c1_ k0 k1)).1
  have hto:0<=nx D ((x / 2 % D.length:Nat):Int) (gi A k).md/\nx D ((x / 2 % D.length:Nat):Int) (gi A k).md<D.length:=ok.to _ _ (Int.natCast_nonneg _) (Int.ofNat_lt.2 d2) ak.m0 ak.m1
  have h1:=a4g (S:=D.length) ak.t0 ak.t1 hto.1 hto.2 b
  simp only[hopK] at hk
  cases hk
  exact ⟨oM,ak.c0,ak.c1⟩
 rcases List.mem_append.1 hm with hm|hm
 ·split at hm
  ·cases hm
  ·obtain ⟨k,hk,he⟩:=List.mem_map.1 hm
   obtain ⟨k0,k1,_⟩:=(ix.rU _ (Int.natCast_nonneg _) (Int.ofNat_lt.2 d1)).2 k hk
   exact key false k k0 k1 he
 ·obtain ⟨k,hk,he⟩:=List.mem_map.1 hm
  have h2:=(List.mem_filter.1 hk).1
  obtain ⟨u,hu,hk2⟩:=List.mem_flatMap.1 h2
  rw[List.mem_range] at hu
  obtain ⟨k0,k1,_⟩:=(ix.rD u oM oM).2 k hk2
  exact key true k k0 k1 he
theorem b1s (ix:IxS LL N es A Up Dn){k:Int}(hk:k∈fallX A (allD Dn N) t):0<=k/\k<A.length/\(gi A k).fr=(t:Int):=by
 obtain ⟨h2,h3⟩:=List.mem_filter.1 hk
 obtain ⟨u,hu,hk2⟩:=List.mem_flatMap.1 h2
 rw[List.mem_range] at hu
 obtain ⟨k0,k1,_⟩:=(ix.rD u oM oM).2 k hk2
 exact ⟨k0,k1,of_decide_eq_true h3⟩
theorem b6G (ix:IxS LL N es A Up Dn):∀n,n<=N->(allD Dn n).length<=n*50000000
 |0,_=>by simp[allD]
 |n+1,h=>by
  rw[b2e,List.length_append,Nat.succ_mul]
  have:=b6G ix n oM
  have:=(ix.rD n oM oM).1
  omega
end
end Go.Gm.AZ
namespace Go.Gm.AZ
open Go Go.Gm
section
variable {h0 h:Heap} {wp:AV} {N LL:Nat} {es:List E} {A:List Ar} {Up Dn:List (List Int)} {D:List (List Int)} {acc:List Bool}
def QDone (N:Nat)(A:List Ar)(Up Dn D:List (List Int))(st:Nat->Prop)(W:Nat->Prop)(h':Heap)(os:Nat)(wp q sc se sf:AV)(oc oe ov n:Nat):Prop:=
 ∃id2 k2 rk2 cs2 ds2 fs2 M2,SchW W h' os wp q sc se sf oc oe ov n cs2 ds2 fs2 M2/\DI n WQ (hopQ N A Up Dn D) st id2 [] (gf cs2) (gf M2) (gf ds2) (gf fs2) rk2 k2/\(∀x:Nat,x<n->gf M2 x=none)/\un n (gf cs2)+(k2:Int)=n
theorem c3F {W:Nat->Prop}{hb:Heap}{os oc oe ov:Nat}{q sc se sf:AV}{n:Nat}{st:Nat->Prop}(e0:Ext h0 hb)(hW:∀o,W o->h0.length<=o)(hWn:∀o,hb.length<=o->W o)(wv:WyV h0 wp N es A Up Dn D acc)(ix:IxS LL N es A Up Dn)(ok:DOk D acc)(hN:N<=100)(hn:n=2*(N*D.length))(hn2:n<=1000000)(hst:∀x,st x->x<n) :
  ∀(d:Nat) (h:Heap) (id0 k:Nat) (rk:Nat->Nat) (cs ds fs:List Int) (M:List (Option Int)),n+1<=d+k->FrS W hb h->SchW W h os wp q sc se sf oc oe ov n cs ds fs M->DI n WQ (hopQ N A Up Dn D) st id0 [] (gf cs) (gf M) (gf ds) (gf fs) rk k->un n (gf cs)+k=n->
   WP (fun p:Nat × Nat=>a1Z p.1 p.2 (.ptr os 0 5 0) h) fun r h'=>r=.ptr os 0 5 0/\FrS W hb h'/\QDone N A Up Dn D st W h' os wp q sc se sf oc oe ov n:=by
 have hg:=b3v ix ok
 rw[<-hn] at hg
 intro d
 induction d with
 |zero=>
  intro h id0 k rk cs ds fs M hd f w di hk
  have:=m1_ n (gf cs)
  omega
 |succ d ih=>
  intro h id0 k rk cs ds fs M hd f w di hk
  refine WP.rnd (fun i j=>b1h i j ..) ?_
  have ex:Ext h0 h:=f.ext e0 fun o q1 q2=>by have:=hW o q2; omega
  have hbl:=f.len
  have hml:=w.qv.lm
  have wa:SchW (fun o=>W o/\o<h.length) h os wp q sc se sf oc oe ov n cs ds fs M:=w.mono fun o z1 z2=>⟨z2,z1⟩
  have ro:=w.row
  simp -implicitDefEqProofs (maxSteps:=1000000) (disch:=first|assumption|omega|(simp only[gL]<;>omega)|((repeat (first|exact Ext.refl _|assumption|apply Ext.app|apply Ext.mk|(refine Ext.setr ?_ (by (first|omega|(simp only[gL]<;>omega))) _))); done)|(simp only[gL,gA,ro]<;>omega)|fail) only[gB,setAll,partL,fldV,reduceIte,Nat.reduceAdd,Nat.reduceMul,ro]
  refine WP.call (wa.qv.pop hn2) ?_
  rintro r h1 ⟨M2,pq,v1,f1⟩
  have w1:=wa.q' f1 (fun o z=>z.2) v1
  have ro1:=w1.row
  have f1W:FrS W h h1:=f1.mono fun o _ z=>z.1.1
  have fl1:=f1.len
  rcases pq with ⟨p1,rfl,rfl⟩|⟨idI,key,p1,rfl,rfl⟩
  ·simp -implicitDefEqProofs (maxSteps:=1000000) (disch:=first|assumption|omega|(simp only[gL]<;>omega)|((repeat (first|exact Ext.refl _|assumption|apply Ext.app|apply Ext.mk|(refine Ext.setr ?_ (by (first|omega|(simp only[gL]<;>omega))) _))); done)|(simp only[gL,gA,a4_,a5_,a6Z]<;>omega)|fail) only[gB,setAll,partL,fldV,reduceIte,Nat.reduceAdd,Nat.reduceMul,a4_,a5_,a6Z]
   exact WP.ret ⟨rfl,f.trans f1W,id0,k,rk,cs,ds,fs,_,w1.mono fun o _ z=>z.1,di,fun x hx=>b0Y p1 (by omega) (by omega),hk⟩
  ·obtain ⟨id,rfl⟩:∃id:Nat,idI=id:=⟨idI.toNat,by have:=p1.i0; omega⟩
   have hid:id<n:=by have:=p1.i1; omega
   have hmin:∀z:Nat,z<n->∀u,gf M z=some u->key<=u:=by
    intro z hz u hu
    have:=p1.m z u (by omega) (by omega) hu
    simp only[ltI] at this
    omega
   have di2:=di.pop hg hst hid p1.k hmin
   obtain ⟨q1,q2,q3⟩:=di.que id hid key p1.k
   have hk1:=di.bnd id hid key (.inr p1.k)
   have hup:=b9N (c:=gf cs) hid (by omega)
   have hkn:k<n:=by omega
   rw[show (id:Int).toNat=id by omega] at w1
   obtain ⟨h2,s2,w2,f2⟩:=w1.setC hid key
   have ro2:=w2.row
   have f2W:FrS W h h2:=f1W.trans (f2.mono fun o _ z=>z▸w.wc)
   have fl2:=f2.len
   have ex2:Ext h0 h2:=f2W.ext ex fun o z1 z2=>by have:=hW o z2; omega
   have gr1:Gr oc (oc+1) h1 1 sc (cs.map encI):=w1.gc
   simp -implicitDefEqProofs (maxSteps:=1000000) (disch:=first|assumption|omega|(simp only[gL]<;>omega)|((repeat (first|exact Ext.refl _|assumption|apply Ext.app|apply Ext.mk|(refine Ext.setr ?_ (by (first|omega|(simp only[gL]<;>omega))) _))); done)|(simp only[gL,gA,a4_,a5_,a6Z,ro1,gr1.sl.idxG,w.lc,s2,ro2]<;>omega)|fail) only[gB,setAll,partL,fldV,reduceIte,Nat.reduceAdd,Nat.reduceMul,a4_,a5_,a6Z,ro1,gr1.sl.idxG,w.lc,s2,ro2]
   refine WP.call (b4e (wv.ext ex2) ok (x:=id) (by omega)) ?_
   rintro _ h3 ⟨rfl,e3⟩
   have hz:AV.int .i64 0=I 0:=rfl
   try simp only[hz]
   obtain ⟨v,hv⟩:∃v,v=id / 2 / D.length:=⟨_,rfl⟩
   obtain ⟨s,hs⟩:∃s,s=id / 2 % D.length:=⟨_,rfl⟩
   obtain ⟨d1,d2⟩:=dm (N:=N) (S:=D.length) (x:=id / 2) (by omega)
   rw[<-hv,<-hs]
   rw[<-hv] at d1
   obtain ⟨h4,hh4⟩:∃h4,h4=(h3++[AObj.cells ⟨[I 0,I 0,.bool false],0,0,false⟩]).set h3.length (.cells ⟨[I (v:Int),I (s:Int),.bool (id % 2 == 1)],0,0,false⟩):=⟨_,rfl⟩
   have e4:Ext h3 h4:=by rw[hh4]; ((repeat (first|exact Ext.refl _|assumption|apply Ext.app|apply Ext.mk|(refine Ext.setr ?_ (by (first|omega|(simp only[gL]<;>omega))) _))))
   have l4:h4.length=h3.length+1:=by rw[hh4]; simp
   have r4:h4[h3.length]?=some (.cells ⟨[I (v:Int),I (s:Int),.bool (id % 2 == 1)],0,0,false⟩):=by rw[hh4]; exact a0_ (by simp)
   have e34:=e3.trans e4
   have fl3:=e3.len
   have w4:=w2.ext e34
   have ro4:=w4.row
   have ex4:=ex2.trans e34
   have f4W:FrS W hb h4:=(f.trans f2W).trans (FrS.ofExt e34)
   obtain ⟨ow,sE,sR,sA,sU,sDn,sD,sAc,sF,us,B,hwp,rw0,wA,wU,wlu,wD,wAc,wF,wlB,wUp,wFl⟩:=wv.ex
   have hcid:gi (cs.set id key) (id:Int)=key:=by
    have:=congrFun (gset (xs:=cs) (y:=id) (by rw[w.lc]; exact hid) key) id
    rw[if_pos rfl] at this
    exact this
   have fin:∀(h5:Heap) (W5:Nat->Prop) (ds5 fs5:List Int) (M5:List (Option Int)),FrS W hb h5->h4.length<=h5.length->(∀o,W5 o->W o)->h5[h3.length]?=some (.cells ⟨[I (v:Int),I (s:Int),.bool (id % 2 == 1)],0,0,false⟩)->SchW W5 h5 os wp q sc se sf oc oe ov n (cs.set id key) ds5 fs5 M5->
     DI n WQ (hopQ N A Up Dn D) st id ((fallX A (allD Dn N) v).map (hopK A D true (s:Int))) (gf (cs.set id key)) (gf M5) (gf ds5) (gf fs5) (fun x=>if x=id then k else rk x) (k+1)->
     WP (fun p:Nat × Nat=>a2a p.1 p.2 (.ptr os 0 5 0) (I (id:Int)) (.ptr h3.length 0 3 0) h5) fun r h'=>r=.ptr os 0 5 0/\FrS W hb h'/\QDone N A Up Dn D st W h' os wp q sc se sf oc oe ov n:=by
    intro h5 W5 ds5 fs5 M5 f5 hl5 hW5 r5 w5 d5
    refine WP.congr (fun i=>b1g i.1 i.2 ..) ?_
    have ex5:Ext h0 h5:=f5.ext e0 fun o q1 q2=>by have:=hW o q2; omega
    have ro5:=w5.row
    have rw5:=ex5.get rw0
    have wF5:=wF.ext ex5
    have ldF:=wF5.ld0 (H:=h5) (i:=(v:Int)) (Ext.refl _) (by omega) (by omega) (by omega)
    replace ldF:Gm.ld1 h5 (elP 1 sF (v:Int))=some (gi B (v:Int)):=ldF
    have idF:=wF5.idxG (i:=(v:Int)) (by omega) (by omega)
    rw[hwp] at ro5
    simp -implicitDefEqProofs (maxSteps:=1000000) (disch:=first|assumption|omega|(simp only[gL]<;>omega)|((repeat (first|exact Ext.refl _|assumption|apply Ext.app|apply Ext.mk|(refine Ext.setr ?_ (by (first|omega|(simp only[gL]<;>omega))) _))); done)|(simp only[gL,gA,ro5,rw5,r5,idF,ldF]<;>omega)|fail) only[gB,setAll,partL,fldV,reduceIte,Nat.reduceAdd,Nat.reduceMul,ro5,rw5,r5,idF,ldF]
    have hfl:(fallX A (allD Dn N) v).length<=10000000000:=by
     have a1:(fallX A (allD Dn N) v).length<=(allD Dn N).length:=List.length_filter_le _ _
     have a2:=b6G ix N (Nat.le_refl _)
     omega
    refine WP.call (b8c (st:=st) (rk:=fun x=>if x=id then k else rk x) (k:=k) (rest:=[]) (W:=W5) ex5 (fun o z=>hW o (hW5 o z)) wv ix ok hN hn hn2 hg (ks:=fallX A (allD Dn N) v) (dn:=true) (fun k hk=>⟨(b1s ix hk).1,(b1s ix hk).2.1⟩) (fun k hk=>?_) (wFl v d1) hid hfl hcid q2 hk1 hkn w5 (by rw[List.append_nil,<-hs]; exact d5)) ?_
    ·rw[<-hs]
     refine List.mem_append.2 (.inr ?_)
     rw[<-hv,<-hs]
     exact List.mem_map_of_mem hk
    ·rintro _ h6 ⟨rfl,f6,ds6,fs6,M6,w6,d6⟩
     have hk6:un n (gf (cs.set id key))+((k+1:Nat):Int)=n:=by
      have:gf (cs.set id key)=up (gf cs) id key:=gset (by rw[w.lc]; exact hid) _
      rw[this,un_up hid q2,if_pos (by show gf cs id<0; omega)]
      omega
     have:=f5.len
     exact ih h6 id (k+1) _ _ ds6 fs6 M6 (by omega) (f5.trans (f6.mono fun o _ z=>hW5 o z)) (w6.mono fun o _ z=>z.elim (hW5 o) fun z=>hWn o (by omega)) d6 hk6
   have gC:gf (cs.set id key)=fun x=>if x=id then key else gf cs x:=gset (by rw[w.lc]; exact hid) _
   have gM:gf (M.set id none)=fun x=>if x=id then none else gf M x:=gset (by omega) _
   have dq:DI n WQ (hopQ N A Up Dn D) st id (hopQ N A Up Dn D id) (gf (cs.set id key)) (gf (M.set id none)) (gf ds) (gf fs) (fun x=>if x=id then k else rk x) (k+1):=by
    rw[gC,gM]; exact di2
   by_cases hb1:id % 2=1
   ·have hbb:(id % 2 == 1)=true:=by simp[hb1]
    have hq:hopQ N A Up Dn D id=(fallX A (allD Dn N) v).map (hopK A D true (s:Int)):=by
     rw[hopQ,if_pos hb1,List.nil_append,<-hv,<-hs]
    rw[hq] at dq
    rw[hbb] at hh4 r4 fin
    simp -implicitDefEqProofs (maxSteps:=1000000) (disch:=first|assumption|omega|(simp only[gL]<;>omega)|((repeat (first|exact Ext.refl _|assumption|apply Ext.app|apply Ext.mk|(refine Ext.setr ?_ (by (first|omega|(simp only[gL]<;>omega))) _))); done)|(simp only[gL,gA,hbb]<;>omega)|fail) only[gB,setAll,partL,fldV,reduceIte,Nat.reduceAdd,Nat.reduceMul,hbb]
    rw[<-hh4]
    exact fin h4 _ ds fs _ f4W (Nat.le_refl _) (fun o z=>z.1) r4 w4 dq
   ·have hbb:(id % 2 == 1)=false:=by simp[hb1]
    have hq:hopQ N A Up Dn D id=(gi Up (v:Int)).map (hopK A D false (s:Int))++(fallX A (allD Dn N) v).map (hopK A D true (s:Int)):=by
     rw[hopQ,if_neg hb1,<-hv,<-hs]
    rw[hq] at dq
    rw[hbb] at hh4 r4 fin
    have rw4:=ex4.get rw0
    have wU4:=wU.ext ex4
    have ldU:=wU4.ld0 (H:=h4) (i:=(v:Int)) (Ext.refl _) (by omega) (by omega) (by omega)
    replace ldU:Gm.ld1 h4 (elP 1 sU (v:Int))=some (gi us (v:Int)):=ldU
    have idU:=wU4.idxG (i:=(v:Int)) (by omega) (by omega)
    have hr:=ix.rU (v:Int) (by omega) (by omega)
    simp -implicitDefEqProofs (maxSteps:=1000000) (disch:=first|assumption|omega|(simp only[gL]<;>omega)|((repeat (first|exact Ext.refl _|assumption|apply Ext.app|apply Ext.mk|(refine Ext.setr ?_ (by (first|omega|(simp only[gL]<;>omega))) _))); done)|(simp only[gL,gA,hbb]<;>omega)|fail) only[gB,setAll,partL,fldV,reduceIte,Nat.reduceAdd,Nat.reduceMul,hbb]
    rw[<-hh4]
    have ro4':=ro4
    rw[hwp] at ro4'
    simp -implicitDefEqProofs (maxSteps:=1000000) (disch:=first|assumption|omega|(simp only[gL]<;>omega)|((repeat (first|exact Ext.refl _|assumption|apply Ext.app|apply Ext.mk|(refine Ext.setr ?_ (by (first|omega|(simp only[gL]<;>omega))) _))); done)|(simp only[gL,gA,ro4',rw4,r4,idU,ldU]<;>omega)|fail) only[gB,setAll,partL,fldV,reduceIte,Nat.reduceAdd,Nat.reduceMul,ro4',rw4,r4,idU,ldU]
    refine WP.call (b8c (st:=st) (rk:=fun x=>if x=id then k else rk x) (k:=k) (rest:=(fallX A (allD Dn N) v).map (hopK A D true (s:Int))) ex4 (fun o z=>hW o z.1) wv ix ok hN hn hn2 hg (ks:=gi Up (v:Int)) (dn:=false) (fun k hk=>⟨(hr.2 k hk).1,(hr.2 k hk).2.1⟩) (fun k hk=>?_) (wUp v (by omega) (by omega)) hid (by have:=hr.1; omega) hcid q2 hk1 hkn w4 (by rw[<-hs]; exact dq)) ?_
    ·rw[<-hs]
     have:=List.mem_map_of_mem (f:=hopK A D false (s:Int)) hk
     rw[hq]
     exact List.mem_append.2 (.inl this)
    ·rintro _ h5 ⟨rfl,f5,ds5,fs5,M5,w5,d5⟩
     exact fin h5 _ ds5 fs5 M5 (f4W.trans (f5.mono fun o _ z=>z.1)) f5.len (fun o z=>z.elim (fun z=>z.1) fun z=>hWn o (by omega)) (by rw[f5.get (fun z=>by omega) (by omega)]; exact r4) w5 d5
end
end Go.Gm.AZ
namespace Go.Gm.AZ
open Go Go.Gm
section
variable {h0 h:Heap} {wp:AV} {N LL:Nat} {es:List E} {A:List Ar} {Up Dn:List (List Int)} {D:List (List Int)} {acc:List Bool}
theorem c3G {hb:Heap}{W:Nat->Prop}{os oc oe ov n:Nat}(hn2:n<=1000000)(hW:∀o,W o->hb.length<=o)(hQ:∀h cs ds fs,Ext hb h->SchW W h os wp q sc se sf oc oe ov n cs ds fs M->(∀x:Nat,x<n->gf cs x = -1/\gf ds x = -1/\gf fs x = -1)->WP (λi:Nat=>a4G i fromv (.ptr os 0 5 0) h) Q) :
  ∀(d i:Nat) (h:Heap) (cs ds fs:List Int),i+d=n->Ext hb h->SchW W h os wp q sc se sf oc oe ov n cs ds fs M->(∀x:Nat,x<i->gf cs x = -1/\gf ds x = -1/\gf fs x = -1)->
   WP (λp:Nat × Nat=>a1Y p.1 p.2 fromv (.ptr os 0 5 0) (I n) (I i) h) Q:=by
 intro d
 induction d with
 |zero=>
  intro i h cs ds fs h1 e w hm
  refine WP.rnd (a5S · · ..) ?_
  obtain rfl:i=n:=oM
  refine g0 ?_
  exact WP.lv (hQ h cs ds fs e w hm) λi j=>rfl
 |succ d ih=>
  intro i h cs ds fs h1 e w hm
  refine WP.rnd (a5S · · ..) ?_
  have hin:i<n:=oM
  have ro:=w.row
  obtain ⟨h2,s2,w2,f2⟩:=w.setC hin (-1)
  obtain ⟨h3,s3,w3,f3⟩:=w2.setE hin (-1)
  obtain ⟨h4,s4,w4,f4⟩:=w3.setF hin (-1)
  have gc:=w.gc.sl
  have ge:=w.ge.sl
  have gf':=w.gf.sl
  refine g10 @ro gc.idxG ge.idxG gf'.idxG w.lc w.le w.lf @s2 @s3 @s4 ?_
  have e2:=f2.ext e λo q1 q2=>by have:=hW _ w.wc; omega
  have e3:=f3.ext e2 λo q1 q2=>by have:=hW _ w.we; omega
  have e4:=f4.ext e3 λo q1 q2=>by have:=hW _ w.wv; omega
  refine ih (i+1) h4 _ _ _ oM e4 w4 λx hx=>?_
  have lc:=w.lc
  have le:=w.le
  have lf:=w.lf
  rw[show gf (cs.set i (-1))=_ from gset oM _,show gf (ds.set i (-1))=_ from gset oM _,show gf (fs.set i (-1))=_ from gset oM _]
  by_cases qx:x=i
  ·simp[qx]
  ·simp only[if_neg qx]
   exact hm x oM
theorem b5e (wv:WyV h wp N es A Up Dn D acc)(ix:IxS LL N es A Up Dn)(ok:DOk D acc)(hN:N<=100){n:Nat}(hn:n=2*(N*D.length))(hn2:n<=1000000){v:Nat}(hv:v<N) :
  Tot tab m0_ [wp,I v] h λr h'=>Ext h h'/\∃os q sc se sf oc oe ov,r=.ptr os 0 5 0/\QDone N A Up Dn D (λx=>x=2*(v*D.length)) (λo=>h.length<=o) h' os wp q sc se sf oc oe ov n:=by
 obtain ⟨ow,sE,sR,sA,sU,sDn,sD,sAc,sF,us,B,hwp,rw0,wA,wU,wlu,wD,wAc,wF,wlB,wUp,wFl⟩:=wv.ex
 refine WP.tot (b2P · ..) ?_
 have hS:=ok.l0
 have hS1:=ok.l1
 have hNS:N*D.length<=500000:=oM
 have hw1:IntKind.i64.wrap (2*(N:Int))=2*(N:Int):=d6_ oM oM
 have hw:IntKind.i64.wrap (2*(N:Int)*(D.length:Int))=(n:Int):=by
  rw[show 2*(N:Int)*(D.length:Int)=(n:Int) by rw[hn,Int.natCast_mul,Int.natCast_mul,Int.mul_assoc]; rfl]
  exact d6_ oM oM
 obtain ⟨s1,h1,a1,g1,e1,_,l1⟩:=g0_ (zero:=[I 0]) (sz:=1) (bytes:=8) (n:=(n:Int)) h oM oM oM rfl rfl
 obtain ⟨s2,h2,a2,g2,e2,_,l2⟩:=g0_ (zero:=[I 0]) (sz:=1) (bytes:=8) (n:=(n:Int)) h1 oM oM oM rfl rfl
 obtain ⟨s3,h3,a3,g3,e3,_,l3⟩:=g0_ (zero:=[I 0]) (sz:=1) (bytes:=8) (n:=(n:Int)) h2 oM oM oM rfl rfl
 have hre:List.replicate (n:Int).toNat [I 0]=(List.replicate n (0:Int)).map encI:=by simp[encI,I]
 rw[hre] at g1 g2 g3
 have hgp:wp.one=true/\wp.cells=[wp]:=by rw[hwp]; exact ⟨rfl,rfl⟩
 have lD:=wD.lenG
 rw[hwp]
 refine g7 @rw0 @lD @hw1 @hw @a1 @a2 @a3 ?_
 rw[<-hwp]
 refine WP.call (b4V n hn2 h3) ?_
 rintro q h4 ⟨v4,e4⟩
 have l4:=e4.len
 have hqp:q.one=true/\q.cells=[q]:=by
  obtain ⟨oq,_,_,hq,_⟩:=v4
  rw[hq]; exact ⟨rfl,rfl⟩
 simp -implicitDefEqProofs (maxSteps:=1000000) (disch:=first|assumption|omega|(simp only[gL]<;>omega)|((repeat (first|exact Ext.refl _|assumption|apply Ext.app|apply Ext.mk|(refine Ext.setr ?_ (by (first|omega|(simp only[gL]<;>omega))) _))); done)|(simp only[gL,gA,hqp.1,hqp.2,hgp.1,hgp.2,g1.sl.one,g1.sl.cells,g2.sl.one,g2.sl.cells,g3.sl.one,g3.sl.cells]<;>omega)|fail) only[gB,setAll,partL,fldV,reduceIte,Nat.reduceAdd,Nat.reduceMul,hqp.1,hqp.2,hgp.1,hgp.2,g1.sl.one,g1.sl.cells,g2.sl.one,g2.sl.cells,g3.sl.one,g3.sl.cells]
 obtain ⟨h5,hh5⟩:∃h5,h5=h4++[AObj.cells ⟨[wp,q,s1,s2,s3],0,0,false⟩]:=⟨_,rfl⟩
 have e5:Ext h4 h5:=by rw[hh5]; exact Ext.push _ _
 have ro:h5[h4.length]?=some (.cells ⟨[wp,q,s1,s2,s3],0,0,false⟩):=by rw[hh5]; simp
 rw[<-hh5]
 have e35:=e4.trans e5
 have e05:=((e1.trans e2).trans e3).trans e35
 have w:SchW (λo=>h.length<=o) h5 h4.length wp q s1 s2 s3 h.length h1.length h2.length n (List.replicate n 0) (List.replicate n 0) (List.replicate n 0) (List.replicate n none):=by
  refine ⟨ro,((g1.ext e2).ext e3).ext e35,(g2.ext e3).ext e35,g3.ext e35,by simp,by simp,by simp,oM,oM,oM,Nat.le_refl _,by show h.length<=_; omega,by show h.length<=_; omega,by show h.length<=_; omega,?_⟩
  refine (SQ.ext (P:=λo=>(h.length<=o/\o≠h.length/\o≠h1.length/\o≠h2.length/\o≠h4.length)) (v4.sq λo z1 z2=>?_) e5)
  omega
 have lc5:=w.gc.sl.lenG
 rw[List.length_replicate] at lc5
 simp -implicitDefEqProofs (disch:=first|assumption|omega|(simp only[gL,gA]<;>omega)|fail) only[cG,reduceIte,ro,lc5]
 refine WP.ent (c3G (hb:=h) (W:=fun o=>h.length<=o) (n:=n) hn2 (fun o z=>z) (fun h6 cs ds fs e6 w6 m6=>?_) n 0 h5 _ _ _ (by omega) e05 w fun x hx=>by omega) fun i=>rfl
 refine WP.congr (b1i · ..) ?_
 have ro6:=w6.row
 simp -implicitDefEqProofs (disch:=first|assumption|omega|(simp only[gL,gA]<;>omega)|fail) only[cG,reduceIte,ro6]
 refine WP.call (b3u (wv.ext e6) ok (v:=(v:Int)) (s:=0) (by omega) (by omega) (Int.le_refl _) (by omega) false) ?_
 rintro _ h7 ⟨rfl,e7⟩
 have w7:=w6.ext e7
 have ro7:=w7.row
 have e67:=e6.trans e7
 have hidv:idQ D.length (v:Int) 0 false=((2*(v*D.length):Nat):Int):=by
  unfold idQ; simp
 rw[hidv]
 have hvS:v*D.length<N*D.length:=by
  have:=spotN (N:=N) (v:=v) (S:=D.length) (s:=0) hv hS
  simpa using this
 simp -implicitDefEqProofs (disch:=first|assumption|omega|(simp only[gL,gA]<;>omega)|fail) only[cG,reduceIte,ro7]
 have fl7:=e67.len
 refine WP.call (w7.qv.put hn2 (λo ho=>⟨oM,by have:=w7.o1; have:=w7.o2; have:=w7.o3; have:=w7.os_lt; omega⟩) _ 0) ?_
 rintro _ h8 ⟨rfl,v8,f8⟩
 have w8:=w7.q' f8 (λo z=>z.2) v8
 have e8:Ext h h8:=f8.ext e67 λo q1 q2=>oM
 have hpm:(putM n (List.replicate n none) ((2*(v*D.length):Nat):Int) 0).1=(List.replicate n none).set (2*(v*D.length)) (some 0):=by
  rw[putM,if_pos ⟨oM,oM⟩,w2_ oM oM,Int.toNat_natCast]
 rw[hpm] at w8
 have gM:gf ((List.replicate n (none:Option Int)).set (2*(v*D.length)) (some 0))=λx=>if x=2*(v*D.length) then some 0 else gf (List.replicate n none) x:=gset (by simp; omega) _
 have hw8:FrS (λo=>h.length<=o) h h8:=FrS.ofExt e8
 refine WP.ent ((c3F (h0:=h) (hb:=h) (W:=λo=>h.length<=o) (st:=λx=>x=2*(v*D.length)) (Ext.refl _) (λo z=>z) (λo z=>z) wv ix ok hN hn hn2 (λx z=>oM) (n+1) h8 0 0 (λ_=>0) cs ds fs _ oM hw8 w8 (DI.start (λx hx=>(m6 x hx).1) (λx hx=>(m6 x hx).2.2) (λx hx=>?_)) (by rw[b5S λx hx=>(m6 x hx).1]; omega)).mono ?_) λi=>rfl
 ·rw[gM]
  by_cases qx:x=2*(v*D.length)
  ·exact .inl ⟨qx,if_pos qx⟩
  ·refine .inr ⟨qx,?_⟩
   show (if x=2*(v*D.length) then some 0 else gf (List.replicate n none) x)=none
   rw[if_neg qx]
   exact w2_ oM oM
 ·rintro r h9 ⟨rfl,f9,qd⟩
  exact ⟨f9.ext (Ext.refl _) λo q1 q2=>oM,_,_,_,_,_,_,_,_,rfl,qd⟩
end
end Go.Gm.AZ
namespace Go.Gm.AZ
open Go Go.Gm
def QB (c:Nat->Int)(P:Nat->Prop)(out:Int):Prop:=(out = -1/\∀x,P x->¬0<=c x)\/∃y:Nat,out=(y:Int)/\P y/\0<=c y/\∀x,P x->0<=c x->c y<=c x
theorem QB.skip (b:QB c P out)(h:¬(0<=c i/\(out<0\/c i<c out.toNat))):QB c (λx=>P x\/x=i) out:=by
 rcases b with ⟨h1,h2⟩|⟨y,h1,h2,h3,h4⟩
 ·refine .inl ⟨h1,λx hx=>hx.elim (h2 x) λq hc=>h ⟨q▸hc,.inl oM⟩⟩
 ·refine .inr ⟨y,h1,.inl h2,h3,λx hx hc=>hx.elim (λz=>h4 x z hc) λq=>?_⟩
  subst q
  have h5:c out.toNat=c y:=by rw[h1,Int.toNat_natCast]
  by_cases q:c x<c y
  ·exact absurd ⟨hc,.inr oM⟩ h
  ·omega
theorem QB.take (b:QB c P out)(h1:0<=c i)(h2:out<0\/c i<c out.toNat):QB c (λx=>P x\/x=i) (i:Int):=by
 refine .inr ⟨i,rfl,.inr rfl,h1,λx hx hc=>hx.elim (λz=>?_) λq=>by subst q; exact Int.le_refl _⟩
 rcases b with ⟨b1,b2⟩|⟨y,b1,b2,b3,b4⟩
 ·exact absurd hc (b2 x z)
 ·have h5:c out.toNat=c y:=by rw[b1,Int.toNat_natCast]
  have:=b4 x z hc
  rcases h2 with h2|h2<;>omega
theorem QB.bnd (b:QB c P out){n:Nat}(hP:∀x,P x->x<n):-1<=out/\out<n:=by
 rcases b with ⟨h1,h2⟩|⟨y,h1,h2,h3,h4⟩
 ·omega
 ·have:=hP y h2; omega
section
variable {hb h:Heap} {wp:AV} {N:Nat} {es:List E} {A:List Ar} {Up Dn:List (List Int)} {D:List (List Int)} {acc:List Bool}
theorem b5f {os oc oe ov n o2 oo:Nat}(wv:WyV hb wp N es A Up Dn D acc)(ok:DOk D acc)(hN:N<=100)(hn:n=2*(N*D.length))(hn2:n<=1000000)(w0:SchW W hb os wp q sc se sf oc oe ov n cs ds fs M)(e:Ext hb h)(r2:h[o2]?=some (.cells ⟨[.ptr os 0 5 0],0,0,false⟩))(ro:h[oo]?=some (.cells ⟨[I out],0,0,false⟩))(ho:hb.length<=oo)(b:QB (gf cs) P out)(hP:∀x,P x->x<n){v s:Nat}(hv:v<N)(hs:s<D.length)(dn:Bool) :
  Tot tab a0h [.agg [I v,I s,.bool dn],.ptr o2 0 1 0,.ptr oo 0 1 0] h λr h'=>r=.tup []/\∃out',h'[oo]?=some (.cells ⟨[I out'],0,0,false⟩)/\FrS (λo=>o=oo) h h'/\QB (gf cs) (λx=>P x\/x=(idQ D.length v s dn).toNat) out':=by
 refine WP.tot (b0h · ..) ?_
 obtain ⟨h1,hh1⟩:∃h1,h1=h++[AObj.cells ⟨[I (v:Int),I (s:Int),.bool dn],0,0,false⟩]:=⟨_,rfl⟩
 have e1:Ext h h1:=by rw[hh1]; exact Ext.push _ _
 have rp:h1[h.length]?=some (.cells ⟨[I (v:Int),I (s:Int),.bool dn],0,0,false⟩):=by rw[hh1]; simp
 have r21:=e1.get r2
 have ro1:=e1.get ro
 have w1:=(w0.ext e).ext e1
 have rs1:=w1.row
 have l2:o2<h.length:=(List.getElem?_eq_some_iff.1 r2).1
 have los:os<h.length:=(w0.ext e).os_lt
 have loo:oo<h.length:=(List.getElem?_eq_some_iff.1 ro).1
 have rs0:=(w0.ext e).row
 refine g2 @r2 @rs0 ?_
 rw[<-hh1]
 refine WP.call (b3u (wv.ext (e.trans e1)) ok (v:=(v:Int)) (s:=(s:Int)) oM oM oM (by have:=ok.l1; omega) dn) ?_
 rintro _ h3 ⟨rfl,e3⟩
 obtain ⟨sp1,sp2⟩:=a4g (N:=N) (S:=D.length) (v:=(v:Int)) (s:=(s:Int)) oM oM oM oM dn
 obtain ⟨i,hi⟩:∃i:Nat,idQ D.length v s dn=i:=⟨(idQ D.length v s dn).toNat,oM⟩
 rw[hi] at sp1 sp2 ⊢
 rw[Int.toNat_natCast]
 have hin:i<n:=oM
 have w3:=w1.ext e3
 have r23:=e3.get r21
 have ro3:=e3.get ro1
 have rs3:=w3.row
 have gc:=w3.gc.sl
 have idc:=gc.idxG (i:=(i:Int)) oM (by rw[w3.lc]; omega)
 have ldc:=gc.ld0 (H:=h3) (i:=(i:Int)) (Ext.refl _) oM (by rw[w3.lc]; omega) oM
 obtain ⟨ci,hci⟩:∃ci,gi cs (i:Int)=ci:=⟨_,rfl⟩
 rw[hci] at ldc
 replace ldc:Gm.ld1 h3 (elP 1 sc (i:Int))=some (I ci):=ldc
 have f3:FrS (λo=>o=oo) h h3:=FrS.ofExt (e1.trans e3)
 have l3:=f3.len
 have skip:¬(0<=ci/\(out<0\/ci<gf cs out.toNat))->QB (gf cs) (λx=>P x\/x=i) out:=λhc=>b.skip (by rw[show gf cs i=ci from hci]; exact hc)
 have bb:=b.bnd hP
 by_cases c0:0<=ci
 ·by_cases o0:out<0
  ·have hq:=b.take (i:=i) (by show 0<=gi cs (i:Int); omega) (.inl o0)
   refine g5 @r23 @rs3 @idc @ldc @ro3 ?_
   refine WP.ret ⟨rfl,i,a0_ oM,f3.trans (FrS.set1 ..),hq⟩
  ·obtain ⟨y,hy⟩:∃y:Nat,out=y:=⟨out.toNat,oM⟩
   subst hy
   have ido:=gc.idxG (i:=(y:Int)) oM (by rw[w3.lc]; omega)
   have ldo:=gc.ld0 (H:=h3) (i:=(y:Int)) (Ext.refl _) oM (by rw[w3.lc]; omega) oM
   replace ldo:Gm.ld1 h3 (elP 1 sc (y:Int))=some (I (gi cs (y:Int))):=ldo
   by_cases c1:ci<gi cs (y:Int)
   ·have hq:=b.take (i:=i) (by show 0<=gi cs (i:Int); omega) (.inr (by rw[Int.toNat_natCast]; show gi cs (i:Int)<gi cs (y:Int); omega))
    refine g7 @r23 @rs3 @idc @ldc @ro3 @ido @ldo ?_
    refine WP.ret ⟨rfl,i,a0_ oM,f3.trans (FrS.set1 ..),hq⟩
   ·refine g7 @r23 @rs3 @idc @ldc @ro3 @ido @ldo ?_
    refine WP.ret ⟨rfl,y,ro3,f3,skip λz=>?_⟩
    rcases z.2 with z|z
    ·omega
    ·rw[Int.toNat_natCast] at z; exact c1 z
 ·refine g4 @r23 @rs3 @idc @ldc ?_
  exact WP.ret ⟨rfl,out,ro3,f3,skip λz=>c0 z.1⟩
def AccS (acc:List Bool)(S:Nat)(v i:Nat)(x:Nat):Prop:=∃s:Nat,s<i/\gi acc (s:Int)=true/\∃b,x=(idQ S v s b).toNat
theorem c2b {os oc oe ov n o2 oo:Nat}(wv:WyV hb wp N es A Up Dn D acc)(ok:DOk D acc)(hN:N<=100)(hn:n=2*(N*D.length))(hn2:n<=1000000)(w0:SchW W hb os wp q sc se sf oc oe ov n cs ds fs M)(hA:Sl hb 1 sAc (acc.map encB))(ho:hb.length<=oo)(ho2:hb.length<=o2)(hne:o2≠oo){v:Nat}(hv:v<N) :
  ∀(d i:Nat) (h:Heap) (out:Int),i+d=acc.length->Ext hb h->h[o2]?=some (.cells ⟨[.ptr os 0 5 0],0,0,false⟩)->h[oo]?=some (.cells ⟨[I out],0,0,false⟩)->QB (gf cs) (AccS acc D.length v i) out->
   WP (λp:Nat × Nat=>t5_ p.1 p.2 (I v) (.ptr oo 0 1 0) (.fn a0h [] [.ptr o2 0 1 0,.ptr oo 0 1 0]) sAc (I acc.length) (I i) h) λr h'=>Ext hb h'/\∃out,r=I out/\QB (gf cs) (AccS acc D.length v acc.length) out:=by
 have la:=ok.la
 have l1:=ok.l1
 intro d
 induction d with
 |zero=>
  intro i h out h1 e r2 ro b
  refine WP.rnd (a4A · · ..) ?_
  obtain rfl:i=acc.length:=oM
  refine g1 @ro ?_
  exact WP.ret ⟨e,out,rfl,b⟩
 |succ d ih=>
  intro i h out h1 e r2 ro b
  refine WP.rnd (a4A · · ..) ?_
  have hA':=hA.ext e
  have hia:(i:Int)<acc.length:=oM
  have lda:=hA'.ld0 (H:=h) (i:=(i:Int)) (Ext.refl _) oM hia oM
  replace lda:Gm.ld1 h (elP 1 sAc (i:Int))=some (.bool (gi acc (i:Int))):=lda
  have ida:=hA'.idxG (i:=(i:Int)) oM hia
  have bnd:∀(j:Nat) (x:Nat),j<=acc.length->AccS acc D.length v j x->x<n:=by
   rintro j x hj ⟨s,s1,s2,bb,rfl⟩
   have:=a4g (N:=N) (S:=D.length) (v:=(v:Int)) (s:=(s:Int)) oM oM oM oM bb
   omega
  cases ha:gi acc (i:Int) with
  |false=>
   rw[ha] at lda
   refine g2 @ida @lda ?_
   refine ih (i+1) h out oM e r2 ro ?_
   have:AccS acc D.length v (i+1)=AccS acc D.length v i:=by
    funext x
    refine propext ⟨λ⟨s,s1,s2,s3⟩=>⟨s,?_,s2,s3⟩,λ⟨s,s1,s2,s3⟩=>⟨s,oM,s2,s3⟩⟩
    by_cases q:s=i
    ·subst q; rw[ha] at s2; cases s2
    ·omega
   rw[this]
   exact b
  |true=>
   rw[ha] at lda
   refine g2 @ida @lda ?_
   refine WP.call (b5f wv ok hN hn hn2 w0 e r2 ro ho b (λx=>bnd i x oM) hv (s:=i) oM false) ?_
   rintro _ h2 ⟨rfl,out2,ro2,f2,b2⟩
   have e2:=f2.ext e λo q1 q2=>oM
   have l2:o2<h.length:=(List.getElem?_eq_some_iff.1 r2).1
   have r22:h2[o2]?=some (.cells ⟨[.ptr os 0 5 0],0,0,false⟩):=by rw[f2.get hne l2]; exact r2
   refine WP.call (b5f wv ok hN hn hn2 w0 e2 r22 ro2 ho b2 (λx hx=>?_) hv (s:=i) oM true) ?_
   ·rcases hx with hx|rfl
    ·exact bnd i x oM hx
    ·have:=a4g (N:=N) (S:=D.length) (v:=(v:Int)) (s:=(i:Int)) oM oM oM oM false
     omega
   ·rintro _ h3 ⟨rfl,out3,ro3,f3,b3⟩
    have e3:=f3.ext e2 λo q1 q2=>oM
    have l22:o2<h2.length:=(List.getElem?_eq_some_iff.1 r22).1
    have r23:h3[o2]?=some (.cells ⟨[.ptr os 0 5 0],0,0,false⟩):=by rw[f3.get hne l22]; exact r22
    refine ih (i+1) h3 out3 oM e3 r23 ro3 ?_
    have:AccS acc D.length v (i+1)=λx=>(AccS acc D.length v i x\/x=(idQ D.length v i false).toNat)\/x=(idQ D.length v i true).toNat:=by
     funext x
     refine propext ⟨λ⟨s,s1,s2,bb,s3⟩=>?_,λhx=>?_⟩
     ·by_cases q:s=i
      ·subst q
       cases bb with
       |false=>exact .inl (.inr s3)
       |true=>exact .inr s3
      ·exact .inl (.inl ⟨s,oM,s2,bb,s3⟩)
     ·rcases hx with (⟨s,s1,s2,s3⟩|hx)|hx
      ·exact ⟨s,oM,s2,s3⟩
      ·exact ⟨i,oM,ha,false,hx⟩
      ·exact ⟨i,oM,ha,true,hx⟩
    rw[this]
    exact b3
theorem b4f {W:Nat->Prop}{os oc oe ov n:Nat}{q sc se sf:AV}{cs ds fs:List Int}{M:List (Option Int)}(wv:WyV h wp N es A Up Dn D acc)(ok:DOk D acc)(hN:N<=100)(hn:n=2*(N*D.length))(hn2:n<=1000000)(w:SchW W h os wp q sc se sf oc oe ov n cs ds fs M){v:Nat}(hv:v<N) :
  Tot tab j8_ [.ptr os 0 5 0,I v] h λr h'=>Ext h h'/\∃out,r=I out/\QB (gf cs) (AccS acc D.length v acc.length) out:=by
 refine WP.tot (b1j · ..) ?_
 obtain ⟨ow,sE,sR,sA,sU,sDn,sD,sAc,sF,us,B,hwp,rw0,wA,wU,wlu,wD,wAc,wF,wlB,wUp,wFl⟩:=wv.ex
 have los:=w.os_lt
 have low:ow<h.length:=(List.getElem?_eq_some_iff.1 rw0).1
 have rs:=w.row
 have rs':=rs
 rw[hwp] at rs'
 have hz:I 0=I 0:=rfl
 try simp only[hz]
 obtain ⟨h2,hh2⟩:∃h2,h2=((h++[AObj.cells ⟨[.ptr os 0 5 0],0,0,false⟩])++[AObj.cells ⟨[I 0],0,0,false⟩]).set (h.length+1) (.cells ⟨[I (-1)],0,0,false⟩):=⟨_,rfl⟩
 have e2:Ext h h2:=by rw[hh2]; exact eX
 have r2:h2[h.length]?=some (.cells ⟨[.ptr os 0 5 0],0,0,false⟩):=by rw[hh2,a9_ oM,m2_ (by simp)]; simp
 have ro:h2[h.length+1]?=some (.cells ⟨[I (-1)],0,0,false⟩):=by rw[hh2]; exact a0_ (by simp)
 have lA:=wAc.lenG
 simp -implicitDefEqProofs (maxSteps:=1000000) (disch:=first|assumption|omega|(simp only[gL]<;>omega)|((repeat (first|exact Ext.refl _|assumption|apply Ext.app|apply Ext.mk|(refine Ext.setr ?_ (by (first|omega|(simp only[gL]<;>omega))) _))); done)|(simp only[gL,gA,rs',rw0,lA]<;>omega)|fail) only[gB,setAll,partL,fldV,reduceIte,Nat.reduceAdd,Nat.reduceMul,rs',rw0,lA]
 try rw[show AV.int .i64 (-1)=I (-1) from rfl]
 rw[<-hh2]
 refine WP.ent (c2b wv ok hN hn hn2 w wAc (Nat.le_succ _) (Nat.le_refl _) oM hv acc.length 0 h2 (-1) oM e2 r2 ro (.inl ⟨rfl,λx ⟨s,s1,_⟩=>oM⟩)) λi=>rfl
end
end Go.Gm.AZ
