/- A part of the proof (GmAQwa, GmAQkn, GmAQtr, GmAQch, GmAQci, GmAQcj, GmAQck, GmAQba, GmAQbb, GmAQbc, GmAQbd, GmAQbo, GmAQbe, GmAQbf, GmAQbg, GmAQbh, GmAQbi, GmAQbj, GmAQbl, GmAQbm, GmAQqa, GmAQqb, GmAQqc, GmAQqd, GmAQqe, GmAQqf, GmAQqg, GmAQqh, GmAQqi, GmAQqj, GmAQqk, GmAQql, GmAQqm, GmAQqn). -/
import Derived.Test.YtldnkafmanalmaaProductWalksP10
set_option autoImplicit true
set_option relaxedAutoImplicit true
set_option linter.unusedVariables false
set_option linter.unusedSimpArgs false
set_option linter.unusedSectionVars false
namespace Go.Gm.AQ.M5
open Go Go.Gm Go.Gm.AQ
def encI (n:Int):List AV:=[I n]
def encB (b:Bool):List AV:=[.bool b]
def Flg (a cur:List Bool)(fl:Bool):Prop:=(fl=true->cntT a<cntT cur)/\(fl=false->cur=a)
theorem Flg.le (f:Flg a cur fl):cntT a<=cntT cur:=by
 cases fl with
 |true=>exact Nat.le_of_lt (f.1 rfl)
 |false=>rw[f.2 rfl]; exact Nat.le_refl _
inductive Ok:Nd->Prop
 |mk {n:Nd}:n.st<2 ^ 62->n.lo<=100->n.hi<=100->n.kids.length<=1000->(∀c∈n.kids,Ok c)->Ok n
inductive Fl (pt:List (Nd × List Int)):Int->Nd->Prop
 |mk {k:Int} {n:Nd} {ks:List Int}:0<=k->pt[k.toNat]?=some (n,ks)->ks.length=n.kids.length->(∀(j:Nat) (c:Nd),n.kids[j]?=some c->Fl pt (gi ks j) c)->Fl pt k n
def PV (h:Heap)(sp:AV)(pt:List (Nd × List Int)):Prop:=
 ∃cs:List (List AV),Sl h 6 sp cs/\cs.length=pt.length/\∀(i:Nat) n ks,pt[i]?=some (n,ks)->∃sl sk,cs[i]?=some [I n.kind,I n.st,I n.lo,I n.hi,sl,sk]/\Sl h 1 sk (ks.map encI)/\sl.one=true
theorem PV.keeps (e:Keeps h h')(a:PV h sp pt):PV h' sp pt:=by
 obtain ⟨cs,h1,h2,h3⟩:=a
 refine ⟨cs,e.sl h1,h2,λi n ks q=>?_⟩
 obtain ⟨sl,sk,k1,k2⟩:=h3 i n ks q
 exact ⟨sl,sk,k1,e.sl k2.1,k2.2⟩
abbrev KS2:KS:=.row [.i .i64,.i .i64]
def KV (h:Heap)(kk:Nat)(pt:List (Nd × List Int))(w:List Int)(X:Nat->Prop):Prop:=
 ∃es,h[kk]?=some (.map KS2 es)/\∀(k i:Int) s,findV (.agg [I k,I i]) es=some s->s≠.nils/\¬X s.obj/\∃bs,Sl h 1 s (bs.map encB)/\∀n,Fl pt k n->0<=i->Is w bs (R w n i.toNat)
theorem KV.ext {h h':Heap}{kk:Nat}{pt:List (Nd × List Int)}{w:List Int}{X:Nat->Prop}(a:KV h kk pt w X)(e:Ext h h'):KV h' kk pt w X:=by
 obtain ⟨es,h1,h2⟩:=a
 refine ⟨es,e.get h1,λk i s q=>?_⟩
 obtain ⟨g0,g1,bs,g2,g3⟩:=h2 k i s q
 exact ⟨g0,g1,bs,g2.ext e,g3⟩
theorem KV.fr {h h':Heap}{kk:Nat}{pt:List (Nd × List Int)}{w:List Int}{X:Nat->Prop}(a:KV h kk pt w X){lo hi:Nat}(f:Fr lo hi h h')(hX:∀o,lo<=o->o<hi->X o)(hk:kk<lo\/hi<=kk):KV h' kk pt w X:=by
 obtain ⟨es,h1,h2⟩:=a
 refine ⟨es,(f.get hk (List.getElem?_eq_some_iff.1 h1).1).trans h1,λk i s q=>?_⟩
 obtain ⟨g0,g1,bs,g2,g3⟩:=h2 k i s q
 refine ⟨g0,g1,bs,g2.fr f λ_=>?_,g3⟩
 by_cases h5:lo<=s.obj/\s.obj<hi
 ·exact absurd (hX _ h5.1 h5.2) g1
 ·omega
theorem Gr.keeps (e:Keeps h h')(a:Gr lo hi h sz s xs):Gr lo hi h' sz s xs:=by
 rcases a with a|⟨o,g,wg,cs,h1,h2,h3,h4,h5⟩
 ·exact .inl a
 ·exact .inr ⟨o,g,wg,cs,h1,h2,h3,e.cells _ _ h4,h5⟩
theorem _root_.Go.Gm.AQ.Keeps.at (e:Keeps h h')(a:At h p cs):At h' p cs:=by
 obtain ⟨o,off,hi,g,c,h1,h2,h3,h4⟩:=a
 exact ⟨o,off,hi,g,c,h1,h2,e.cells _ _ h3,h4⟩
structure MV (h:Heap) (m sp sw:AV) (kk:Nat) (pt:List (Nd × List Int)) (w:List Int):Prop where
 at_:At h m [sp,sw,.map kk]
 pv:PV h sp pt
 wd:Sl h 1 sw (w.map encI)
 lw:w.length<=900000
 lp:pt.length<=900000
theorem MV.keeps {h h':Heap}(e:Keeps h h'){m sp sw:AV}{kk:Nat}{pt:List (Nd × List Int)}{w:List Int}(a:MV h m sp sw kk pt w):MV h' m sp sw kk pt w:=
 ⟨e.at a.at_,a.pv.keeps e,e.sl a.wd,a.lw,a.lp⟩
section
variable {m sp sw:AV} {kk:Nat} {pt:List (Nd × List Int)} {w:List Int}
end
section
variable {m sp sw:AV} {kk:Nat} {pt:List (Nd × List Int)} {w:List Int}
theorem b6k {α:Type}[Inhabited α]{xs:List α}{i:Nat}{x:α}(h:xs[i]?=some x):gi xs (i:Int)=x:=by
 simp[gi,List.getD_eq_getElem?_getD,h]
end
inductive FlL (lo:Nat) (pt:List (Nd × List Int)):Int->Nd->Prop
 |mk {k:Int} {n:Nd} {ks:List Int}:(lo:Int)<=k->pt[k.toNat]?=some (n,ks)->ks.length=n.kids.length->(∀(j:Nat) (c:Nd),n.kids[j]?=some c->FlL lo pt (gi ks j) c)->FlL lo pt k n
theorem FlL.fl (a:FlL lo pt k n):Fl pt k n:=by
 induction a with
 |mk h1 h2 h3 _ ih=>exact .mk oM h2 h3 ih
theorem FlL.mono {lo lo':Nat}{pt pt':List (Nd × List Int)}(a:FlL lo pt k n)(hl:lo'<=lo)(hp:∀(i:Nat) x,lo<=i->pt[i]?=some x->pt'[i]?=some x):FlL lo' pt' k n:=by
 induction a with
 |mk h1 h2 h3 _ ih=>exact .mk oM (hp _ _ oM h2) h3 ih
inductive Wf:Nd->Prop
 |mk {n:Nd}:n.lo<=n.hi->(∀c∈n.kids,Wf c)->Wf n
section
variable {lo hi L:Nat} {out:AV} {h0:Heap} {a0:List Bool}
theorem c2M (hL:L<=1000000){b:List Bool}(hb:b.length=L)(hs:Sl h0 1 s (b.map encB))(hso:s≠.nils->s.obj<lo\/hi<=s.obj) :
  ∀(d i:Nat) (cur:List Bool) (fl:Bool) (h:Heap),i+d=L->cur.length=L->(∀j:Nat,cur.getD j false=true↔a0.getD j false=true\/(j<i/\b.getD j false=true))->Flg a0 cur fl->Gr lo hi h 1 out (cur.map encB)->Fr lo hi h0 h->
   WP (λp:Nat × Nat=>a0b p.1 p.2 s out (.bool fl) (I i) h) λr h'=>∃cur fl,r=.tup [out,.bool fl]/\cur.length=L/\(∀j:Nat,cur.getD j false=true↔a0.getD j false=true\/b.getD j false=true)/\Flg a0 cur fl/\Gr lo hi h' 1 out (cur.map encB)/\Fr lo hi h0 h':=by
 intro d
 induction d with
 |zero=>
  intro i cur fl h h1 h2 h3 h4 h5 h6
  refine WP.rnd (b6j · · ..) ?_
  have hs':=hs.fr h6 hso
  refine g1 hs'.lenG ?_
  refine WP.lv (WP.congr (λp=>b6i _ out _ h) (WP.ret ⟨cur,fl,rfl,h2,λj=>(h3 j).trans ⟨λq=>q.imp id λq=>q.2,λq=>?_⟩,h4,h5,h6⟩)) λi j=>rfl
  rcases q with q|q
  ·exact .inl q
  ·refine .inr ⟨?_,q⟩
   by_cases hj:j<b.length
   ·omega
   ·rw[List.getD_eq_getElem?_getD,List.getElem?_eq_none oM] at q; cases q
 |succ d ih=>
  intro i cur fl h h1 h2 h3 h4 h5 h6
  refine WP.rnd (b6j · · ..) ?_
  have hs':=hs.fr h6 hso
  have ht:=h5.sl
  have e0:=Ext.refl h
  obtain ⟨v,hv⟩:∃v,gi b i=v:=⟨_,rfl⟩
  have hvb:b.getD i false=v:=hv
  have hcv:∀u,cur.getD i false=u->gi cur i=u:=λu q=>q
  have next:∀cur':List Bool,(∀j:Nat,cur'.getD j false=true↔(if j=i then (cur.getD i false=true\/v=true) else cur.getD j false=true))->∀j:Nat,cur'.getD j false=true↔a0.getD j false=true\/(j<i+1/\b.getD j false=true):=by
   intro cur' hcur j
   rw[hcur j]
   by_cases hj:j=i
   ·subst hj
    rw[if_pos rfl,h3 j,hvb]
    constructor
    ·rintro ((q|q)|q)
     ·exact .inl q
     ·omega
     ·exact .inr ⟨oM,q⟩
    ·rintro (q|q)
     ·exact .inl (.inl q)
     ·exact .inr q.2
   ·rw[if_neg hj,h3 j]
    constructor
    ·rintro (q|q)
     ·exact .inl q
     ·exact .inr ⟨oM,q.2⟩
    ·rintro (q|q)
     ·exact .inl q
     ·exact .inr ⟨oM,q.2⟩
  cases v with
  |false=>
   refine g5 hs'.lenG hs'.idxG hs'.ld0 @encB.eq_1 @hv ?_
   refine ih (i+1) cur fl h oM h2 (next cur λj=>?_) h4 h5 h6
   by_cases hj:j=i
   ·subst hj; simp
   ·rw[if_neg hj]
  |true=>
   cases hcu:cur.getD i false with
   |true=>
    refine g8 hs'.lenG hs'.idxG hs'.ld0 @encB.eq_1 @hv ht.idxG ht.ld0 (hcv _ hcu) ?_
    refine ih (i+1) cur fl h oM h2 (next cur λj=>?_) h4 h5 h6
    by_cases hj:j=i
    ·subst hj; rw[if_pos rfl]; simp only[hcu,true_or]
    ·rw[if_neg hj]
   |false=>
    obtain ⟨h',k1,k2,k3,k4⟩:=h5.write0 (i:=(i:Int)) oM (by rw[List.length_map]; omega) (v:=.bool true) rfl rfl
    have hil:i<cur.length:=oM
    refine g9 hs'.lenG hs'.idxG hs'.ld0 @encB.eq_1 @hv ht.idxG ht.ld0 (hcv _ hcu) @k1 ?_
    refine ih (i+1) (cur.set i true) true h' oM (by simpa using h2) (next _ λj=>?_) ⟨λ_=>?_,λq=>by cases q⟩ (k2.cong ?_) (h6.trans k3)
    ·rw[List.getD_eq_getElem?_getD]
     by_cases hj:j=i
     ·subst hj; rw[List.getElem?_set_self hil]; simp
     ·rw[List.getElem?_set_ne (Ne.symm hj),if_neg hj,List.getD_eq_getElem?_getD]
    ·have:=c2z (bs:=cur) (i:=i) (by rw[List.getD_eq_getElem?_getD,List.getElem?_eq_getElem hil] at hcu; rw[List.getElem?_eq_getElem hil]; simpa using hcu)
     have:=h4.le
     omega
    ·rw[List.map_set]; rfl
end
section
variable {w:List Int}
theorem c9E {xs bs:List Bool}(hw:w.length<=900000)(ha:Sl h 1 a (xs.map encB))(hb:Sl h 1 b (bs.map encB))(hC:Is w xs C)(hD:Is w bs D) :
  Tot tab g2_ [a,b] h λr h'=>Ext h h'/\∃out cur fl,r=.tup [out,.bool fl]/\Sl h' 1 out (cur.map encB)/\Is w cur (λj=>C j\/D j)/\Flg xs cur fl:=by
 refine WP.tot (b7R · ..) ?_
 have hla:=hC.1
 have hlb:=hD.1
 obtain ⟨s',h',h1,h2,h3⟩:=b8H (bytes:=1) ha oM oM (by rw[List.length_map]; omega)
 rw[a3_] at h1
 refine g1 @h1 ?_
 have hl:=h3.len
 refine WP.ent (WP.mono (c2M (a0:=xs) (lo:=h.length) (hi:=h'.length) (h0:=h') (by omega:w.length+1<=1000000) hlb (hb.ext h3) (λq=>.inl (hb.objLt q)) (w.length+1) 0 xs false h' oM hla (λj=>by simp) ⟨λq=>(by cases q),λ_=>rfl⟩ h2 (Fr.refl _ _ _)) ?_) λi=>rfl
 rintro _ h4 ⟨cur,fl,rfl,k1,k2,k3,k4,k5⟩
 exact ⟨k5.ext h3 (Nat.le_refl _),s',cur,fl,rfl,k4.sl,⟨k1,λj=>by rw[k2 j,hC.2 j,hD.2 j]⟩,k3⟩
def RefS (w:List Int)(n:Nd):Prop:=
 ∀(c5:List AV) (word fr:AV) (fb:List Bool) (P:Nat->Prop) (h:Heap),NV h n c5->Sl h 1 word (w.map encI)->Sl h 1 fr (fb.map encB)->Is w fb P->
  Tot tab c7_ [.agg c5,word,fr] h λr h'=>Ext h h'/\∃bs,Sl h' 1 r (bs.map encB)/\Is w bs λj=>∃i,P i/\R w n i j
theorem c9H {n:Nd}(hS:RefS w n)(hw:w.length<=900000){c5:List AV}{word n4:AV}{h:Heap}(nv:NV h n c5)(hwd:Sl h 1 word (w.map encI))(hn4:At h n4 c5){P:Nat->Prop} :
  ∀(d t:Nat) (all cur:AV) (ab cb:List Bool) (A S:Nat->Prop) (H:Heap),cntT ab+d=w.length+1->t<=cntT ab->Ext h H->Sl H 1 all (ab.map encB)->Sl H 1 cur (cb.map encB)->Is w ab A->Is w cb S->
   (∀i j,A i->R w n i j->A j\/∃i',S i'/\R w n i' j)->(∀i j,P i->R w n i j->A j\/∃i',S i'/\R w n i' j)->(∀j,A j->∃i m,P i/\R w n i m/\Star (R w n) m j)->(∀j,S j->∃i,P i/\Star (R w n) i j)->
   WP (λp:Nat × Nat=>a1J p.1 p.2 word (I 0) n4 all cur (I t) H) λr h'=>Ext h h'/\∃bs,Sl h' 1 r (bs.map encB)/\Is w bs λj=>∃i m,P i/\R w n i m/\Star (R w n) m j:=by
 intro d
 induction d using Nat.strongRecOn with
 |_ d ih=>
  intro t all cur ab cb A S H h1 ht ex ha hc iA iS i1 i2 i3 i4
  refine WP.rnd (b5O · · ..) ?_
  have e0:=Ext.refl H
  have hl5:=nv.len
  have h5:c5.take 5=c5:=List.take_of_length_le oM
  have hab:=iA.1
  have hcn:=c6s ab
  simp -implicitDefEqProofs (disch:=first|assumption|omega|(simp only[gL,gA]<;>omega)|fail) only[gC,reduceIte,hn4.ldNE,h5]
  refine WP.call (hS c5 word cur cb S H (nv.keeps (.ofExt ex)) (hwd.ext ex) hc iS) ?_
  rintro r H1 ⟨x1,bs,rs,ri⟩
  refine WP.call (c9E hw (ha.ext x1) rs iA ri) ?_
  rintro _ H2 ⟨x2,out,cu,fl,rfl,os,oi,of⟩
  have star:∀j,(∃i,S i/\R w n i j)->∃i m,P i/\R w n i m/\Star (R w n) m j:=by
   rintro j ⟨i,q1,q2⟩
   obtain ⟨i0,q3,q4⟩:=i4 i q1
   have:∃m,R w n i0 m/\Star (R w n) m j:=by
    clear i4 q1 q3
    induction q4 generalizing j with
    |refl=>exact ⟨j,q2,.refl _⟩
    |tail a b ih=>
     obtain ⟨m,k1,k2⟩:=ih _ b
     exact ⟨m,k1,.tail k2 q2⟩
   obtain ⟨m,k1,k2⟩:=this
   exact ⟨i0,m,q3,k1,k2⟩
  have i3':∀j,(A j\/∃i,S i/\R w n i j)->∃i m,P i/\R w n i m/\Star (R w n) m j:=λj q=>q.elim (i3 j) (star j)
  cases fl with
  |true=>
   refine g1 @a1_ ?_
   have h3:=of.1 rfl
   have h4:=c6s cu
   have h6:=oi.1
   refine ih (w.length+1-cntT cu) oM (t+1) out r cu bs _ _ H2 oM oM ((ex.trans x1).trans x2) os (rs.ext x2) oi ri ?_ ?_ i3' ?_
   ·rintro i j (q|q) q2
    ·exact .inl (i1 i j q q2)
    ·exact .inr ⟨i,q,q2⟩
   ·intro i j q q2
    exact .inl (i2 i j q q2)
   ·rintro j ⟨i,q1,q2⟩
    obtain ⟨i0,q3,q4⟩:=i4 i q1
    exact ⟨i0,q3,.tail q4 q2⟩
  |false=>
   refine g1 @a1_ ?_
   have h3:=of.2 rfl
   subst h3
   refine WP.lv (WP.ret ⟨(ex.trans x1).trans x2,cu,os,oi.cong λj=>⟨i3' j,?_⟩⟩) λi j=>rfl
   rintro ⟨i,m,q1,q2,q3⟩
   have clo:∀a b,A a->R w n a b->A b:=λa b q4 q5=>(iA.2 b).1 ((oi.2 b).2 (i1 a b q4 q5))
   exact .inl (q3.inv (P:=A) clo ((iA.2 m).1 ((oi.2 m).2 (i2 i m q1 q2))))
end
section
variable {w:List Int}
theorem c9F (hS:RefS w n)(hw:w.length<=900000){fb:List Bool}(nv:NV h n c5)(hwd:Sl h 1 word (w.map encI))(hf:Sl h 1 fr (fb.map encB))(hP:Is w fb P) :
  Tot tab a0g [.agg c5,word,fr,I 0] h λr h'=>Ext h h'/\∃bs,Sl h' 1 r (bs.map encB)/\Is w bs λj=>∃i m,P i/\R w n i m/\Star (R w n) m j:=by
 refine WP.tot (b7C · ..) ?_
 have nv':=nv
 obtain ⟨s5,css,rfl,sl5,nvs⟩:=nv.inv
 have ho5:s5.one=true:=sl5.one
 have hfl:=hP.1
 obtain ⟨h1,hh1⟩:∃h1,h1=h++[AObj.cells ⟨[I n.kind,I n.st,I n.lo,I n.hi,s5],0,0,false⟩]:=⟨_,rfl⟩
 have e1:Ext h h1:=by rw[hh1]; exact eX
 have hx1:h1[h.length]?=some (.cells ⟨[I n.kind,I n.st,I n.lo,I n.hi,s5],0,0,false⟩):=by rw[hh1]; simp
 obtain ⟨s,h',k1,k2,k3,k4,k5⟩:=g0_ (zero:=[.bool false]) (sz:=1) (bytes:=1) (n:=(fb.length:Int)) h1 oM oM oM rfl rfl
 obtain ⟨n4,hn4⟩:∃n4,n4=AV.ptr h.length 0 5 0:=⟨_,rfl⟩
 have at4:At h1 n4 [I n.kind,I n.st,I n.lo,I n.hi,s5]:=by rw[hn4]; exact At.row hx1 (Nat.le_refl _) rfl
 refine g2 @ho5 hf.lenG ?_
 rw[<-hh1,<-hn4,show I 0=I 0 from rfl]
 simp only[k1,b0O]
 rw[show I 0=I ((0:Nat):Int) from rfl]
 have k2':Sl h' 1 s ((List.replicate (w.length+1) false).map encB):=by
  have:=k2.sl
  rw[show ((fb.length:Int)).toNat=w.length+1 by omega] at this
  rw[List.map_replicate]; exact this
 have hc0:cntT (List.replicate (w.length+1) false)=0:=by simp[cntT]
 have e:=e1.trans k3
 refine WP.ent (WP.mono (c9H (P:=P) hS hw (nv'.keeps (.ofExt e)) (hwd.ext e) (at4.ext k3) (w.length+1) 0 s fr _ fb (λ_=>False) P h' oM oM (Ext.refl _) k2' (hf.ext e) Is.none hP (λ_ _ q=>q.elim) (λi j q1 q2=>.inr ⟨i,q1,q2⟩) (λ_ q=>q.elim) (λj q=>⟨j,q,.refl _⟩)) ?_) λi=>rfl
 rintro r h2 ⟨e2,q⟩
 exact ⟨e.trans e2,q⟩
theorem c9Q {a b:Nat}(hS:RefS w c)(hw:w.length<=900000)(hb:b<=100){css:List (List AV)}(nv:NV h c cc)(hcs:Sl h 5 s5 (css.map λx=>x))(hc0:css=[cc])(hwd:Sl h 1 word (w.map encI))(hn3:At h n3 [I 9,I 0,I a,I b,s5]){P:Nat->Prop} :
  ∀(d t:Nat) (fr all:AV) (fb ab:List Bool) (H:Heap),t+d=b->Ext h H->Sl H 1 fr (fb.map encB)->Sl H 1 all (ab.map encB)->Is w fb (λj=>∃i,P i/\Pow (R w c) t i j)->Is w ab (λj=>∃i t',P i/\a<=t'/\t'<=t/\Pow (R w c) t' i j)->a<=t->
   WP (λp:Nat × Nat=>a1m p.1 p.2 word fr n3 all (I t) H) λr h'=>Ext h h'/\∃bs,Sl h' 1 r (bs.map encB)/\Is w bs λj=>∃i t',P i/\a<=t'/\t'<=b/\Pow (R w c) t' i j:=by
 subst hc0
 intro d
 induction d with
 |zero=>
  intro t fr all fb ab H h1 ex hf ha iF iA hat
  refine WP.rnd (b5E · · ..) ?_
  refine g2 hn3.fldA0 hn3.ldfE ?_
  obtain rfl:t=b:=oM
  exact WP.lv (WP.ret ⟨ex,ab,ha,iA⟩) λi j=>rfl
 |succ d ih=>
  intro t fr all fb ab H h1 ex hf ha iF iA hat
  refine WP.rnd (b5E · · ..) ?_
  have hcs':=hcs.ext ex
  have e0:=Ext.refl H
  have hgc:gi [cc] (0:Int)=cc:=rfl
  refine g5 hn3.fldA0 hn3.ldfE hcs'.idxG hcs'.ldN @hgc ?_
  refine WP.call (hS cc word fr fb _ H (nv.keeps (.ofExt ex)) (hwd.ext ex) hf iF) ?_
  rintro r H1 ⟨x1,bs,rs,ri⟩
  have ri':Is w bs (λj=>∃i,P i/\Pow (R w c) (t+1) i j):=ri.cong λj=>⟨λ⟨m,⟨i,q1,q2⟩,q3⟩=>⟨i,q1,m,q2,q3⟩,λ⟨i,q1,m,q2,q3⟩=>⟨m,⟨i,q1,q2⟩,q3⟩⟩
  refine WP.call (c9E hw (ha.ext x1) rs iA ri') ?_
  rintro _ H2 ⟨x2,out,cu,fl,rfl,os,oi,of⟩
  refine g1 @a1_ ?_
  refine ih (t+1) r out bs cu H2 oM ((ex.trans x1).trans x2) (rs.ext x2) os ri' (oi.cong λj=>?_) oM
  constructor
  ·rintro (⟨i,t',q1,q2,q3,q4⟩|⟨i,q1,q2⟩)
   ·exact ⟨i,t',q1,q2,oM,q4⟩
   ·exact ⟨i,t+1,q1,oM,oM,q2⟩
  ·rintro ⟨i,t',q1,q2,q3,q4⟩
   by_cases ht:t'=t+1
   ·subst ht; exact .inr ⟨i,q1,q4⟩
   ·exact .inl ⟨i,t',q1,q2,oM,q4⟩
theorem c9R {a b:Nat}(hS:RefS w c)(hw:w.length<=900000)(ha:a<=100)(hb:b<=100)(hab:a<=b){css:List (List AV)}(nv:NV h c cc)(hcs:Sl h 5 s5 (css.map λx=>x))(hc0:css=[cc])(hwd:Sl h 1 word (w.map encI))(hn3:At h n3 [I 9,I 0,I a,I b,s5]){P:Nat->Prop} :
  ∀(d t:Nat) (fr:AV) (fb:List Bool) (H:Heap),t+d=a->Ext h H->Sl H 1 fr (fb.map encB)->Is w fb (λj=>∃i,P i/\Pow (R w c) t i j)->
   WP (λp:Nat × Nat=>a1l p.1 p.2 word fr n3 (I t) H) λr h'=>Ext h h'/\∃bs,Sl h' 1 r (bs.map encB)/\Is w bs λj=>∃i t',P i/\a<=t'/\t'<=b/\Pow (R w c) t' i j:=by
 have hc0':=hc0
 subst hc0
 intro d
 induction d with
 |zero=>
  intro t fr fb H h1 ex hf iF
  refine WP.rnd (b5G · · ..) ?_
  refine g2 hn3.fldA0 hn3.ldfE ?_
  obtain rfl:t=a:=oM
  refine WP.lv (WP.congr (λp=>b5F _ word fr n3 H) ?_) λi j=>rfl
  refine g2 hn3.fldA0 hn3.ldfE ?_
  exact WP.ent (c9Q hS hw hb nv hcs rfl hwd hn3 (b-t) t fr fr fb fb H oM ex hf hf iF (iF.cong λj=>⟨λ⟨i,q1,q2⟩=>⟨i,t,q1,Nat.le_refl _,Nat.le_refl _,q2⟩,λ⟨i,t',q1,q2,q3,q4⟩=>⟨i,q1,by
   obtain rfl:t'=t:=oM
   exact q4⟩⟩) (Nat.le_refl _)) λi=>rfl
 |succ d ih=>
  intro t fr fb H h1 ex hf iF
  refine WP.rnd (b5G · · ..) ?_
  have hcs':=hcs.ext ex
  have e0:=Ext.refl H
  have hgc:gi [cc] (0:Int)=cc:=rfl
  refine g5 hn3.fldA0 hn3.ldfE hcs'.idxG hcs'.ldN @hgc ?_
  refine WP.call (hS cc word fr fb _ H (nv.keeps (.ofExt ex)) (hwd.ext ex) hf iF) ?_
  rintro r H1 ⟨x1,bs,rs,ri⟩
  exact ih (t+1) r bs H1 oM (ex.trans x1) rs (ri.cong λj=>⟨λ⟨m,⟨i,q1,q2⟩,q3⟩=>⟨i,q1,m,q2,q3⟩,λ⟨i,q1,m,q2,q3⟩=>⟨m,⟨i,q1,q2⟩,q3⟩⟩)
end
section
variable {w:List Int}
theorem _root_.Go.Gm.AQ.NVs.one {c:Nd}(a:NVs h [c] css):∃cc,css=[cc]/\NV h c cc:=by
 cases a with
 |cons x y=>cases y; exact ⟨_,rfl,x⟩
theorem c9G {a b:Nat}(hS:RefS w c)(hw:w.length<=900000)(ha:a<=100)(hb:b<=100)(hab:a<=b){fb:List Bool}(nv:NV h (.rep a b c) c5)(hwd:Sl h 1 word (w.map encI))(hf:Sl h 1 fr (fb.map encB))(hP:Is w fb P) :
  Tot tab q0_ [.agg c5,word,fr] h λr h'=>Ext h h'/\∃bs,Sl h' 1 r (bs.map encB)/\Is w bs λj=>∃i t',P i/\a<=t'/\t'<=b/\Pow (R w c) t' i j:=by
 refine WP.tot (b7t · ..) ?_
 obtain ⟨s5,css,rfl,sl5,nvs⟩:=nv.inv
 obtain ⟨cc,rfl,nc⟩:=nvs.one
 have ho5:s5.one=true:=sl5.one
 obtain ⟨h1,hh1⟩:∃h1,h1=h++[AObj.cells ⟨[I 9,I 0,I a,I b,s5],0,0,false⟩]:=⟨_,rfl⟩
 have e1:Ext h h1:=by rw[hh1]; exact eX
 have hx1:h1[h.length]?=some (.cells ⟨[I 9,I 0,I a,I b,s5],0,0,false⟩):=by rw[hh1]; simp
 obtain ⟨n4,hn4⟩:∃n4,n4=AV.ptr h.length 0 5 0:=⟨_,rfl⟩
 have at4:At h1 n4 [I 9,I 0,I a,I b,s5]:=by rw[hn4]; exact At.row hx1 (Nat.le_refl _) rfl
 simp only[Nd.kind,Nd.st,Nd.lo,Nd.hi,show I ((0:Nat):Int)=I 0 from rfl]
 refine g1 @ho5 ?_
 rw[<-hh1,<-hn4,show I 0=I ((0:Nat):Int) from rfl]
 refine WP.ent (WP.mono (c9R (P:=P) hS hw ha hb hab (nc.keeps (.ofExt e1)) (by rw[List.map_id']; exact sl5.ext e1) rfl (hwd.ext e1) at4 a 0 fr fb h1 oM (Ext.refl _) (hf.ext e1) (hP.cong λj=>⟨λq=>⟨j,q,rfl⟩,λ⟨i,q1,q2⟩=>by cases q2; exact q1⟩)) ?_) λi=>rfl
 rintro r h2 ⟨e2,q⟩
 exact ⟨e1.trans e2,q⟩
theorem c9O {s:Nat}(hs:s<2 ^ 62)(hw:w.length<=900000){word fr n3 out s5:AV}{fb:List Bool}{lo hi:Nat}(hwd:Sl h 1 word (w.map encI))(hf:Sl h 1 fr (fb.map encB))(hP:Is w fb P)(hn3:At h n3 [I 1,I s,I 0,I 0,s5])(hlo:h.length<=lo) :
  ∀(d i:Nat) (cur:List Bool) (H:Heap),i+d=w.length->Ext h H->Gr lo hi H 1 out (cur.map encB)->Is w cur (λj=>∃i',i'<i/\P i'/\hit w s i'/\j=i'+1)->
   WP (λp:Nat × Nat=>a2l p.1 p.2 word fr n3 out (I i) H) λr h'=>Ext h h'/\∃bs,Sl h' 1 r (bs.map encB)/\Is w bs λj=>∃i,P i/\R w (.set s) i j:=by
 intro d
 induction d with
 |zero=>
  intro i cur H h1 ex gr is
  refine WP.rnd (b6e · · ..) ?_
  have hwd':=hwd.ext ex
  refine g1 hwd'.lenG ?_
  refine WP.lv (WP.ret ⟨ex,cur,gr.sl,is.cong λj=>?_⟩) λi j=>rfl
  try simp only[R]
  refine ⟨λ⟨i',_,q⟩=>⟨i',q⟩,λ⟨i',q⟩=>⟨i',?_,q⟩⟩
  obtain ⟨_,⟨c,q2,_⟩,_⟩:=q
  have:=(List.getElem?_eq_some_iff.1 q2).1
  omega
 |succ d ih=>
  intro i cur H h1 ex gr is
  refine WP.rnd (b6e · · ..) ?_
  have hwd':=hwd.ext ex
  have hf':=hf.ext ex
  have e0:=Ext.refl H
  have hfl:=hP.1
  have hcl:=is.1
  have hg:=gr.sl
  obtain ⟨v,hv⟩:∃v,gi fb i=v:=⟨_,rfl⟩
  have hvP:v=true↔P i:=by rw[<-hv]; exact hP.2 i
  obtain ⟨c,hc⟩:∃c,gi w i=c:=⟨_,rfl⟩
  have hwc:w[i]?=some c:=by
   have:=c1_ (xs:=w) (i:=(i:Int)) oM oM
   rw[hc] at this; exact this
  have done:∀(u:Bool),(u=true↔P i/\hit w s i)->∃H',stN 1 H (elP 1 out ((i:Int)+1)) (.bool u)=some H'/\WP (λp:Nat × Nat=>a2l p.1 p.2 word fr n3 out (I ((i:Int)+1)) H') λr h'=>Ext h h'/\∃bs,Sl h' 1 r (bs.map encB)/\Is w bs λj=>∃i,P i/\R w (.set s) i j:=by
   intro u hu
   obtain ⟨H',k1,k2,k3,k4⟩:=gr.write0 (i:=(i:Int)+1) oM (by rw[List.length_map]; omega) (v:=.bool u) rfl rfl
   refine ⟨H',k1,ih (i+1) (cur.set (i+1) u) H' oM (k3.ext ex hlo) (k2.cong (by rw[List.map_set]; rfl)) ⟨by simpa using hcl,λj=>?_⟩⟩
   rw[List.getD_eq_getElem?_getD]
   have hj2:=is.2 j
   rw[List.getD_eq_getElem?_getD] at hj2
   by_cases hj:j=i+1
   ·subst hj
    rw[List.getElem?_set_self oM]
    simp only[Option.getD_some,hu]
    constructor
    ·rintro ⟨q1,q2⟩; exact ⟨i,oM,q1,q2,rfl⟩
    ·rintro ⟨i',_,q1,q2,q3⟩
     obtain rfl:i'=i:=oM
     exact ⟨q1,q2⟩
   ·rw[List.getElem?_set_ne (Ne.symm hj),hj2]
    constructor
    ·rintro ⟨i',q0,q⟩; exact ⟨i',oM,q⟩
    ·rintro ⟨i',q0,q⟩; exact ⟨i',by have:=q.2.2; omega,q⟩
  cases v with
  |false=>
   obtain ⟨H',k1,k2⟩:=done false ⟨λq=>(by cases q),λq=>by have:=hvP.2 q.1; cases this⟩
   refine g7 hwd'.lenG hf'.idxG hf'.ld0 @encB.eq_1 @hv hg.idxG @k1 ?_
   exact k2
  |true=>
   by_cases c0:0<=c
   ·by_cases c5:c<5
    ·have hand:binV .and .scalar (I (s >>> c.toNat:Nat)) (I 1)=_:=and_i (a:=s >>> c.toNat) (b:=1) (Nat.lt_of_le_of_lt (Nat.shiftRight_le ..) hs) oM
     cases hb:s.testBit c.toNat with
     |true=>
      obtain ⟨H',k1,k2⟩:=done true ⟨λ_=>⟨hvP.1 rfl,c,hwc,c0,c5,hb⟩,λ_=>rfl⟩
      refine g15 hwd'.lenG hf'.idxG hf'.ld0 @encB.eq_1 @hv hg.idxG @k1 hwd'.idxG hwd'.ld0 @encI.eq_1 @hc hn3.fldA0 hn3.ldfE @hand @hb ?_
      exact k2
     |false=>
      obtain ⟨H',k1,k2⟩:=done false ⟨λq=>(by cases q),λ⟨_,c',q1,q2,q3,q4⟩=>by rw[hwc] at q1; injection q1 with q1; subst q1; rw[hb] at q4; cases q4⟩
      refine g15 hwd'.lenG hf'.idxG hf'.ld0 @encB.eq_1 @hv hg.idxG @k1 hwd'.idxG hwd'.ld0 @encI.eq_1 @hc hn3.fldA0 hn3.ldfE @hand @hb ?_
      exact k2
    ·obtain ⟨H',k1,k2⟩:=done false ⟨λq=>(by cases q),λ⟨_,c',q1,q2,q3,q4⟩=>by rw[hwc] at q1; injection q1 with q1; subst q1; omega⟩
     refine g11 hwd'.lenG hf'.idxG hf'.ld0 @encB.eq_1 @hv hg.idxG @k1 hwd'.idxG hwd'.ld0 @encI.eq_1 @hc ?_
     exact k2
   ·obtain ⟨H',k1,k2⟩:=done false ⟨λq=>(by cases q),λ⟨_,c',q1,q2,q3,q4⟩=>by rw[hwc] at q1; injection q1 with q1; subst q1; omega⟩
    refine g11 hwd'.lenG hf'.idxG hf'.ld0 @encB.eq_1 @hv hg.idxG @k1 hwd'.idxG hwd'.ld0 @encI.eq_1 @hc ?_
    exact k2
theorem c9I {l:List Nd}(hS:∀c∈l,RefS w c)(hl:l.length<=1000)(hcs:Sl h 5 s5 css)(nvs:NVs h l css)(hwd:Sl h 1 word (w.map encI)){q1 q2 q3 q4:AV}(hn3:At h n3 [q1,q2,q3,q4,s5]){P:Nat->Prop} :
  ∀(d t:Nat) (out:AV) (ob:List Bool) (H:Heap),t+d=l.length->Ext h H->Sl H 1 out (ob.map encB)->Is w ob (λj=>∃i,P i/\RJ w (l.take t) i j)->
   WP (λp:Nat × Nat=>a2m p.1 p.2 word n3 out (I t) H) λr h'=>Ext h h'/\∃bs,Sl h' 1 r (bs.map encB)/\Is w bs λj=>∃i,P i/\RJ w l i j:=by
 have hcl:=nvs.length
 have hcs0:Sl h 5 s5 (css.map λx=>x):=by rw[List.map_id']; exact hcs
 intro d
 induction d with
 |zero=>
  intro t out ob H h1 ex ho io
  refine WP.rnd (b6f · · ..) ?_
  have hcs':=hcs0.ext ex
  refine g3 hn3.fldA0 hn3.ldfE hcs'.lenG ?_
  exact WP.lv (WP.ret ⟨ex,ob,ho,io.cong λj=>by rw[List.take_of_length_le oM]⟩) λi j=>rfl
 |succ d ih=>
  intro t out ob H h1 ex ho io
  refine WP.rnd (b6f · · ..) ?_
  have hcs':=hcs0.ext ex
  have e0:=Ext.refl H
  have hlt:l[t]?=some (l[t]'oM):=List.getElem?_eq_getElem oM
  obtain ⟨cc,a1,a2⟩:=nvs.get hlt
  have hgc:gi css (t:Int)=cc:=b6k a1
  refine g6 hn3.fldA0 hn3.ldfE hcs'.lenG hcs'.idxG hcs'.ldN @hgc ?_
  refine WP.call (hS _ (List.getElem_mem oM) cc word out ob _ H (a2.keeps (.ofExt ex)) (hwd.ext ex) ho io) ?_
  rintro r H1 ⟨x1,bs,rs,ri⟩
  refine ih (t+1) r bs H1 oM (ex.trans x1) rs (ri.cong λj=>?_)
  rw[List.take_add_one,hlt]
  simp only[Option.toList_some,b0R]
  exact ⟨λ⟨m,⟨i,q1,q2⟩,q3⟩=>⟨i,q1,m,q2,q3⟩,λ⟨i,q1,m,q2,q3⟩=>⟨m,⟨i,q1,q2⟩,q3⟩⟩
theorem c9P {l:List Nd}(hS:∀c∈l,RefS w c)(hw:w.length<=900000)(hl:l.length<=1000){fb:List Bool}(hcs:Sl h 5 s5 css)(nvs:NVs h l css)(hwd:Sl h 1 word (w.map encI)){q1 q2 q3 q4:AV}(hn3:At h n3 [q1,q2,q3,q4,s5])(hf:Sl h 1 fr (fb.map encB))(hP:Is w fb P) :
  ∀(d t:Nat) (out:AV) (ob:List Bool) (H:Heap),t+d=l.length->Ext h H->Sl H 1 out (ob.map encB)->Is w ob (λj=>∃i,P i/\RU w (l.take t) i j)->
   WP (λp:Nat × Nat=>a2n p.1 p.2 word fr n3 out (I t) H) λr h'=>Ext h h'/\∃bs,Sl h' 1 r (bs.map encB)/\Is w bs λj=>∃i,P i/\RU w l i j:=by
 have hcl:=nvs.length
 have hcs0:Sl h 5 s5 (css.map λx=>x):=by rw[List.map_id']; exact hcs
 intro d
 induction d with
 |zero=>
  intro t out ob H h1 ex ho io
  refine WP.rnd (b6g · · ..) ?_
  have hcs':=hcs0.ext ex
  refine g3 hn3.fldA0 hn3.ldfE hcs'.lenG ?_
  exact WP.lv (WP.ret ⟨ex,ob,ho,io.cong λj=>by rw[List.take_of_length_le oM]⟩) λi j=>rfl
 |succ d ih=>
  intro t out ob H h1 ex ho io
  refine WP.rnd (b6g · · ..) ?_
  have hcs':=hcs0.ext ex
  have e0:=Ext.refl H
  have hlt:l[t]?=some (l[t]'oM):=List.getElem?_eq_getElem oM
  obtain ⟨cc,a1,a2⟩:=nvs.get hlt
  have hgc:gi css (t:Int)=cc:=b6k a1
  refine g6 hn3.fldA0 hn3.ldfE hcs'.lenG hcs'.idxG hcs'.ldN @hgc ?_
  refine WP.call (hS _ (List.getElem_mem oM) cc word fr fb _ H (a2.keeps (.ofExt ex)) (hwd.ext ex) (hf.ext ex) hP) ?_
  rintro r H1 ⟨x1,bs,rs,ri⟩
  refine WP.call (c9E hw (ho.ext x1) rs io ri) ?_
  rintro _ H2 ⟨x2,out2,cu,fl,rfl,os,oi,of⟩
  refine g1 @a1_ ?_
  refine ih (t+1) out2 cu H2 oM ((ex.trans x1).trans x2) os (oi.cong λj=>?_)
  rw[List.take_add_one,hlt]
  simp only[a1z,List.mem_append,Option.toList_some,List.mem_singleton]
  constructor
  ·rintro (⟨i,b1,c,b2,b3⟩|⟨i,b1,b2⟩)
   ·exact ⟨i,b1,c,.inl b2,b3⟩
   ·exact ⟨i,b1,_,.inr rfl,b2⟩
  ·rintro ⟨i,b1,c,b2|b2,b3⟩
   ·exact .inl ⟨i,b1,c,b2,b3⟩
   ·subst b2; exact .inr ⟨i,b1,b3⟩
end
section
variable {w:List Int}
theorem c9J (hw:w.length<=900000)(n:Nd):Ok n->Wf n->RefS w n:=by
 refine Nd.ind (p:=λn=>Ok n->Wf n->RefS w n) ?_ n
 intro n ih ok wf c5 word fr fb P h nv hwd hf hP
 refine WP.tot (b7Q · ..) ?_
 have nv':=nv
 obtain ⟨s5,css,rfl,sl5,nvs⟩:=nv.inv
 have ho5:s5.one=true:=sl5.one
 have hfl:=hP.1
 cases ok with
 |mk o1 o2 o3 o4 o5=>
 cases wf with
 |mk w1 w2=>
 have hS:∀c∈n.kids,RefS w c:=λc hc=>ih c hc (o5 c hc) (w2 c hc)
 obtain ⟨h1,hh1⟩:∃h1,h1=h++[AObj.cells ⟨[I n.kind,I n.st,I n.lo,I n.hi,s5],0,0,false⟩]:=⟨_,rfl⟩
 have e1:Ext h h1:=by rw[hh1]; exact eX
 have hx1:h1[h.length]?=some (.cells ⟨[I n.kind,I n.st,I n.lo,I n.hi,s5],0,0,false⟩):=by rw[hh1]; simp
 obtain ⟨out,h2,k1,k2,k3,k4,k5⟩:=g0_ (zero:=[.bool false]) (sz:=1) (bytes:=1) (n:=(fb.length:Int)) h1 oM oM oM rfl rfl
 obtain ⟨n4,hn4⟩:∃n4,n4=AV.ptr h.length 0 5 0:=⟨_,rfl⟩
 have at1:At h1 n4 [I n.kind,I n.st,I n.lo,I n.hi,s5]:=by rw[hn4]; exact At.row hx1 (Nat.le_refl _) rfl
 have hn:=at1.ext k3
 have k2':Gr h1.length (h1.length+1) h2 1 out ((List.replicate (w.length+1) false).map encB):=by
  rw[show ((fb.length:Int)).toNat=w.length+1 by omega] at k2
  rw[List.map_replicate]; exact k2
 have e:=e1.trans k3
 have hwd2:=hwd.ext e
 have hf2:=hf.ext e
 have sl2:=sl5.ext e
 have sl2':Sl h2 5 s5 (css.map λx=>x):=by rw[List.map_id']; exact sl2
 have nv2:=nv'.keeps (.ofExt e)
 have nvs2:=NVs.keeps (.ofExt e) nvs
 have e0:=Ext.refl h2
 refine g2 @ho5 hf.lenG ?_
 rw[<-hh1,<-hn4,show I 0=I 0 from rfl]
 simp only[k1,b0O]
 have hx2:=k3.get hx1
 have run:∀{n:Nd} {r:AV} {H:Heap} {bs:List Bool} {Q:Nat->Prop},Ext h2 H->Sl H 1 r (bs.map encB)->Is w bs Q->(∀j,Q j↔∃i,P i/\R w n i j)->WP (λ_:Nat=>some (r,H)) λr h'=>Ext h h'/\∃bs,Sl h' 1 r (bs.map encB)/\Is w bs λj=>∃i,P i/\R w n i j:=
  fun {n r H bs Q} a b c d=>WP.ret ⟨e.trans a,bs,b,c.cong d⟩
 cases n with
 |emp=>
  simp only[Nd.kind,Nd.st,Nd.lo,Nd.hi] at hx2
  refine g1 @hx2 ?_
  exact run e0 k2'.sl Is.none λj=>by simp[R]
 |eps=>
  simp only[Nd.kind,Nd.st,Nd.lo,Nd.hi] at hx2
  refine g1 @hx2 ?_
  exact run e0 hf2 hP λj=>by simp[R]
 |join l=>
  simp only[Nd.kind,Nd.st,Nd.lo,Nd.hi] at hx2
  refine g1 @hx2 ?_
  rw[show I 0=I ((0:Nat):Int) from rfl]
  refine WP.ent (WP.mono (c9I (P:=P) hS o4 sl2 nvs2 hwd2 hn l.length 0 fr fb h2 (by simp[Nd.kids]) (Ext.refl _) hf2 (hP.cong λj=>by simp[RJ])) ?_) λi=>rfl
  rintro r h3 ⟨e3,bs,q1,q2⟩
  exact ⟨e.trans e3,bs,q1,q2.cong λj=>by simp only[R]; rfl⟩
 |uni l=>
  simp only[Nd.kind,Nd.st,Nd.lo,Nd.hi] at hx2
  refine g1 @hx2 ?_
  rw[show I 0=I ((0:Nat):Int) from rfl]
  refine WP.ent (WP.mono (c9P (P:=P) hS hw o4 sl2 nvs2 hwd2 hn hf2 hP l.length 0 out _ h2 (by simp[Nd.kids]) (Ext.refl _) k2'.sl (Is.none.cong λj=>by simp[RU])) ?_) λi=>rfl
  rintro r h3 ⟨e3,bs,q1,q2⟩
  exact ⟨e.trans e3,bs,q1,q2.cong λj=>by simp only[R]; rfl⟩
 |star c=>
  simp only[Nd.kind,Nd.st,Nd.lo,Nd.hi] at hx2
  obtain ⟨cc,rfl,nc⟩:=nvs2.one
  have hgc:gi [cc] (0:Int)=cc:=rfl
  refine g4 @hx2 sl2'.idxG sl2'.ldN @hgc ?_
  refine WP.call (c9F (hS c (by simp[Nd.kids])) hw nc hwd2 hf2 hP) ?_
  rintro r H1 ⟨x1,bs,rs,ri⟩
  refine WP.call (c9E hw (hf2.ext x1) rs hP ri) ?_
  rintro _ H2 ⟨x2,out2,cu,fl,rfl,os,oi,of⟩
  refine g1 @a1_ ?_
  refine run (x1.trans x2) os oi λj=>?_
  try simp only[R]
  constructor
  ·rintro (q|⟨i,m,q1,q2,q3⟩)
   ·exact ⟨j,q,.refl j⟩
   ·exact ⟨i,q1,.head q2 q3⟩
  ·rintro ⟨i,q1,q2⟩
   have:i=j\/∃m,R w c i m/\Star (R w c) m j:=by
    clear q1
    induction q2 with
    |refl=>exact .inl rfl
    |tail a b ih=>
     rcases ih with rfl|⟨m,u1,u2⟩
     ·exact .inr ⟨_,b,.refl _⟩
     ·exact .inr ⟨m,u1,.tail u2 b⟩
   rcases this with rfl|⟨m,u1,u2⟩
   ·exact .inl q1
   ·exact .inr ⟨i,m,q1,u1,u2⟩
 |plus c=>
  simp only[Nd.kind,Nd.st,Nd.lo,Nd.hi] at hx2
  obtain ⟨cc,rfl,nc⟩:=nvs2.one
  have hgc:gi [cc] (0:Int)=cc:=rfl
  refine g4 @hx2 sl2'.idxG sl2'.ldN @hgc ?_
  refine WP.call (c9F (hS c (by simp[Nd.kids])) hw nc hwd2 hf2 hP) ?_
  rintro r H1 ⟨x1,bs,rs,ri⟩
  refine run x1 rs ri λj=>?_
  try simp only[R]
  exact ⟨λ⟨i,m,q1,q2,q3⟩=>⟨i,q1,m,q2,q3⟩,λ⟨i,q1,m,q2,q3⟩=>⟨i,m,q1,q2,q3⟩⟩
 |opt c=>
  simp only[Nd.kind,Nd.st,Nd.lo,Nd.hi] at hx2
  obtain ⟨cc,rfl,nc⟩:=nvs2.one
  have hgc:gi [cc] (0:Int)=cc:=rfl
  refine g4 @hx2 sl2'.idxG sl2'.ldN @hgc ?_
  refine WP.call (hS c (by simp[Nd.kids]) cc word fr fb P h2 nc hwd2 hf2 hP) ?_
  rintro r H1 ⟨x1,bs,rs,ri⟩
  refine WP.call (c9E hw (hf2.ext x1) rs hP ri) ?_
  rintro _ H2 ⟨x2,out2,cu,fl,rfl,os,oi,of⟩
  refine g1 @a1_ ?_
  refine run (x1.trans x2) os oi λj=>?_
  try simp only[R]
  constructor
  ·rintro (q|⟨i,q1,q2⟩)
   ·exact ⟨j,q,.inl rfl⟩
   ·exact ⟨i,q1,.inr q2⟩
  ·rintro ⟨i,q1,rfl|q2⟩
   ·exact .inl q1
   ·exact .inr ⟨i,q1,q2⟩
 |rep a b c=>
  have hx3:=hx2
  simp only[Nd.kind,Nd.st,Nd.lo,Nd.hi] at hx2 o2 o3 w1
  refine g1 @hx2 ?_
  refine WP.call (c9G (hS c (by simp[Nd.kids])) hw o2 o3 w1 nv2 hwd2 hf2 hP) ?_
  rintro r H1 ⟨x1,bs,rs,ri⟩
  refine run x1 rs ri λj=>?_
  try simp only[R]
  exact ⟨λ⟨i,t,q1,q2,q3,q4⟩=>⟨i,q1,t,q2,q3,q4⟩,λ⟨i,q1,t,q2,q3,q4⟩=>⟨i,t,q1,q2,q3,q4⟩⟩
 |set s=>
  simp only[Nd.kind,Nd.st,Nd.lo,Nd.hi] at hx2 at1 o1
  refine g1 @hx2 ?_
  rw[show I 0=I ((0:Nat):Int) from rfl]
  refine WP.ent (WP.mono (c9O (P:=P) (lo:=h1.length) (hi:=h1.length+1) o1 hw (hwd.ext e1) (hf.ext e1) hP at1 (Nat.le_refl _) w.length 0 _ h2 (by simp) k3 k2' (Is.none.cong λj=>⟨λq=>q.elim,λ⟨i',q,_⟩=>oM⟩)) ?_) λi=>rfl
  rintro r h3 ⟨e3,q⟩
  exact ⟨e1.trans e3,q⟩
theorem c9K (hw:w.length<=900000) :
  Tot tab a6u [I ((w.length:Int)+1),I 0] h λr h'=>Ext h h'/\∃bs,Sl h' 1 r (bs.map encB)/\Is w bs λj=>j=0:=by
 refine WP.tot (b8Y · ..) ?_
 obtain ⟨out,h2,k1,k2,k3,k4,k5⟩:=g0_ (zero:=[.bool false]) (sz:=1) (bytes:=1) (n:=(w.length:Int)+1) h oM oM oM rfl rfl
 have k2':Gr h.length (h.length+1) h2 1 out ((List.replicate (w.length+1) false).map encB):=by
  rw[show (((w.length:Int)+1)).toNat=w.length+1 by omega] at k2
  rw[List.map_replicate]; exact k2
 obtain ⟨H,m1,m2,m3,m4⟩:=k2'.write0 (i:=(0:Int)) oM (by rw[List.length_map,List.length_replicate]; omega) (v:=.bool true) rfl rfl
 have hg:=k2'.sl
 refine g3 @k1 hg.idxG @m1 ?_
 refine WP.ret ⟨m3.ext k3 (Nat.le_refl _),(List.replicate (w.length+1) false).set 0 true,(m2.cong (by rw[List.map_set]; rfl)).sl,(Is.none.set (Nat.zero_le _)).cong λj=>by simp⟩
theorem rmatch_spec (nv:NV h n c5)(ok:Ok n)(wf:Wf n)(hwd:Sl h 1 word (w.map encI))(hw:w.length<=900000) :
  Tot tab a5x [.agg c5,word] h λr h'=>Ext h h'/\∃b,r=.bool b/\(b=true↔In n w):=by
 refine WP.tot (b7B · ..) ?_
 have nv':=nv
 obtain ⟨s5,css,rfl,sl5,nvs⟩:=nv.inv
 have ho5:s5.one=true:=sl5.one
 obtain ⟨h1,hh1⟩:∃h1,h1=h++[AObj.cells ⟨[I n.kind,I n.st,I n.lo,I n.hi,s5],0,0,false⟩]:=⟨_,rfl⟩
 have e1:Ext h h1:=by rw[hh1]; exact eX
 have hx1:h1[h.length]?=some (.cells ⟨[I n.kind,I n.st,I n.lo,I n.hi,s5],0,0,false⟩):=by rw[hh1]; simp
 refine g2 @ho5 hwd.lenG ?_
 rw[<-hh1,show I 0=I 0 from rfl]
 refine WP.call (c9K hw) ?_
 rintro fr h2 ⟨e2,fb,fs,fi⟩
 have hx2:=e2.get hx1
 refine g1 @hx2 ?_
 have e:=e1.trans e2
 refine WP.call (c9J hw n ok wf _ word fr fb _ h2 (nv'.keeps (.ofExt e)) (hwd.ext e) fs fi) ?_
 rintro r h3 ⟨e3,bs,rs,ri⟩
 have hbl:=ri.1
 have e0:=Ext.refl h3
 obtain ⟨b,hb⟩:∃b,gi bs (w.length:Int)=b:=⟨_,rfl⟩
 refine g4 rs.idxG rs.ld0 @encB.eq_1 @hb ?_
 refine WP.ret ⟨e.trans e3,b,rfl,?_⟩
 rw[<-hb]
 refine (ri.2 w.length).trans ?_
 simp[In]
end
end Go.Gm.AQ.M5
namespace Go.Gm.AQ
open Go Go.Gm
mutual
def gdB:Nd->Bool
 |.set s=>decide (1<=s/\s<=31)
 |.emp=>true
 |.eps=>true
 |.join l=>decide (2<=l.length/\l.length<=1000) && gdBs l
 |.uni l=>decide (2<=l.length/\l.length<=1000) && gdBs l
 |.star n=>gdB n
 |.plus n=>gdB n
 |.opt n=>gdB n
 |.rep a b n=>decide (a<=b/\b<=9) && gdB n
def gdBs:List Nd->Bool
 |[]=>true
 |n::l=>gdB n && gdBs l
end
structure Kn where
 n:Nd
 u:Nat
 b:Int
 l:List Nat
 p:List Int
 deriving Inhabited
end Go.Gm.AQ
namespace Go.Gm.AQ
open Go Go.Gm
theorem a3f (es:List E)(v:Int)(l l':List Nat):atV es v (l++l')=atV es (atV es v l) l':=by simp[atV]
theorem a0e (es:List E)(l l':List Nat):atC es (l++l')=atC es l+atC es l':=by
 have:∀(l':List Nat) (c:Int),l'.foldl (λc e=>c+(eg es e).co) c=c+l'.foldl (λc e=>c+(eg es e).co) 0:=by
  intro l'
  induction l' with
  |nil=>intro c; simp
  |cons a l' ih=>intro c; rw[List.foldl_cons,List.foldl_cons,ih,ih (0+_)]; omega
 rw[atC,List.foldl_append,this]; rfl
theorem b0M (h:OkW es v l)(h':OkW es (atV es v l) l'):OkW es v (l++l'):=by
 intro i e hi
 by_cases q:i<l.length
 ·rw[List.getElem?_append_left q] at hi
  rw[List.take_append_of_le_length oM]
  exact h i e hi
 ·rw[List.getElem?_append_right oM] at hi
  have:=h' _ e hi
  rw[List.take_append,List.take_of_length_le oM,a3f]
  exact this
structure Tn where
 n:Nd
 r:List (Nat × Nat)
 deriving Inhabited
end Go.Gm.AQ
namespace Go.Gm.AQ
open Go Go.Gm
theorem OkW.cons {es:List E}{v:Int}{e:Nat}(h1:e<es.length)(h2:(eg es e).fr=v)(h:OkW es (eg es e).to l):OkW es v (e::l):=by
 have h3:OkW es v [e]:=by
  intro i e' hi
  cases i with
  |zero=>simp at hi; subst hi; exact ⟨h1,h2⟩
  |succ i=>simp at hi
 exact b0M (l:=[e]) h3 h
theorem c3j (co:COk es){l:List Nat}(h:∀e∈l,e<es.length):0<=atC es l:=(a8v co l h 0).1
inductive Sg (es:List E) (G:Int->Prop) (m:Int):Int->Int->List Nat->Prop
 |one {u w:Int} {e:Nat}:e<es.length->(eg es e).md=m->(eg es e).fr=u->(eg es e).to=w->Sg es G m u w [e]
 |cons {u z w:Int} {e:Nat} {l:List Nat}:e<es.length->(eg es e).md=m->(eg es e).fr=u->(eg es e).to=z->G z->Sg es G m z w l->Sg es G m u w (e::l)
section
variable {es:List E} {G G':Int->Prop} {m u w z v:Int} {l l':List Nat}
theorem Sg.ok (h:Sg es G m u w l):OkW es u l/\atV es u l=w/\l≠[]:=by
 induction h with
 |one h1 h2 h3 h4=>exact ⟨.cons h1 h3 (λi e hi=>by simp at hi),h4,by simp⟩
 |cons h1 h2 h3 h4 h5 h6 ih=>
  obtain ⟨i1,i2,i3⟩:=ih
  subst h4
  exact ⟨.cons h1 h3 i1,i2,by simp⟩
theorem Sg.cost (co:COk es)(h:Sg es G m u w l):0<=atC es l:=c3j co h.ok.1.mem
theorem Sg.mono (h:Sg es G m u w l)(hg:∀x,G x->G' x):Sg es G' m u w l:=by
 induction h with
 |one h1 h2 h3 h4=>exact .one h1 h2 h3 h4
 |cons h1 h2 h3 h4 h5 h6 ih=>exact .cons h1 h2 h3 h4 (hg _ h5) ih
theorem Sg.app (h:Sg es G m u z l)(hz:G z)(h':Sg es G m z w l'):Sg es G m u w (l++l'):=by
 induction h with
 |one h1 h2 h3 h4=>exact .cons h1 h2 h3 h4 hz h'
 |cons h1 h2 h3 h4 h5 h6 ih=>exact .cons h1 h2 h3 h4 h5 (ih hz h')
theorem Sg.split (h:Sg es (λx=>G x\/x=v) m u w l):Sg es G m u w l\/∃l1 l2,l=l1++l2/\Sg es G m u v l1/\Sg es (λx=>G x\/x=v) m v w l2:=by
 induction h with
 |one h1 h2 h3 h4=>exact .inl (.one h1 h2 h3 h4)
 |@cons u z w e l h1 h2 h3 h4 h5 h6 ih=>
  by_cases q:z=v
  ·subst q
   exact .inr ⟨[e],l,rfl,.one h1 h2 h3 h4,h6⟩
  ·have hg:=h5.resolve_right q
   rcases ih with i|⟨l1,l2,rfl,i2,i3⟩
   ·exact .inl (.cons h1 h2 h3 h4 hg i)
   ·exact .inr ⟨e::l1,l2,rfl,.cons h1 h2 h3 h4 hg i2,i3⟩
theorem Sg.last (co:COk es):∀(n:Nat) {l:List Nat},l.length<=n->Sg es (λx=>G x\/x=v) m v w l->∃l',Sg es G m v w l'/\atC es l'<=atC es l
 |0,l,hn,h=>absurd (List.length_eq_zero_iff.1 oM) h.ok.2.2
 |n+1,l,hn,h=>by
  rcases h.split with i|⟨l1,l2,rfl,i2,i3⟩
  ·exact ⟨l,i,Int.le_refl _⟩
  ·have:l1.length≠0:=λq=>i2.ok.2.2 (List.length_eq_zero_iff.1 q)
   rw[List.length_append] at hn
   obtain ⟨l',k1,k2⟩:=Sg.last co n oM i3
   have:=i2.cost co
   exact ⟨l',k1,by rw[a0e]; omega⟩
theorem Sg.first (co:COk es)(h:Sg es (λx=>G x\/x=v) m u v l):∃l',Sg es G m u v l'/\atC es l'<=atC es l:=by
 rcases h.split with i|⟨l1,l2,rfl,i2,i3⟩
 ·exact ⟨l,i,Int.le_refl _⟩
 ·have:=i3.cost co
  exact ⟨l1,i2,by rw[a0e]; omega⟩
def ivs (es:List E)(l:List Nat):List Int:=l.dropLast.map λe=>(eg es e).to
theorem a8K {e:Nat}(hl:l≠[]):ivs es (e::l)=(eg es e).to::ivs es l:=by
 obtain ⟨a,l',rfl⟩:=List.exists_cons_of_ne_nil hl
 rfl
theorem c3k (h:Sg es G m u z l)(h':l'≠[]):ivs es (l++l')=ivs es l++z::ivs es l':=by
 induction h with
 |one h1 h2 h3 h4=>
  rw[List.singleton_append,a8K h',h4]; rfl
 |cons h1 h2 h3 h4 h5 h6 ih=>
  rw[List.cons_append,a8K (by simp[h']),ih,a8K h6.ok.2.2]; rfl
theorem Sg.inner (h:Sg es G m u w l):∀x∈ivs es l,G x:=by
 induction h with
 |one h1 h2 h3 h4=>intro x hx; cases hx
 |cons h1 h2 h3 h4 h5 h6 ih=>
  intro x hx
  rw[a8K h6.ok.2.2] at hx
  rcases List.mem_cons.1 hx with rfl|hx
  ·rw[h4]; exact h5
  ·exact ih x hx
theorem Sg.at (h:Sg es G m u w l)(hz:z∈ivs es l):∃p q,l=p++q/\Sg es G m u z p/\Sg es G m z w q:=by
 induction h with
 |one h1 h2 h3 h4=>cases hz
 |@cons u y w e l h1 h2 h3 h4 h5 h6 ih=>
  rw[a8K h6.ok.2.2] at hz
  rcases List.mem_cons.1 hz with rfl|hz
  ·rw[h4]
   exact ⟨[e],l,rfl,.one h1 h2 h3 h4,h6⟩
  ·obtain ⟨p,q,rfl,k1,k2⟩:=ih hz
   exact ⟨e::p,q,rfl,.cons h1 h2 h3 h4 h5 k1,k2⟩
theorem b6c:∀(n:Nat) (l:List Int),l.Nodup->(∀x∈l,0<=x/\x<n)->l.length<=n
 |0,l,_,h=>by
  cases l with
  |nil=>simp
  |cons a l=>have:=h a (by simp); omega
 |n+1,l,hn,h=>by
  have h1:=b6c n (l.erase (n:Int)) (hn.erase _) (λx hx=>by
   rw[hn.mem_erase_iff] at hx
   have:=h x hx.2
   have:=hx.1
   omega)
  have h2:l.length<=(l.erase (n:Int)).length+1:=by
   rw[List.length_erase]
   split<;>omega
  omega
end
def Stdy (D:List (List Int)):Prop:=∀s m:Int,0<=s->s<D.length->0<=m->m<5->nx D (nx D s m) m=nx D s m
theorem Sg.md (no:NetOk N es)(h:Sg es G m u w l):0<=m/\m<5:=by
 cases h with
 |one h1 h2 h3 h4=>
  have:=no.edge _ (b7_ (xs:=es) (i:=((_:Nat):Int)) oM (Int.ofNat_lt.2 h1))
  subst h2
  exact ⟨this.2.2.2.2.1,this.2.2.2.2.2⟩
 |cons h1 h2 h3 h4 h5 h6=>
  have:=no.edge _ (b7_ (xs:=es) (i:=((_:Nat):Int)) oM (Int.ofNat_lt.2 h1))
  subst h2
  exact ⟨this.2.2.2.2.1,this.2.2.2.2.2⟩
theorem Sg.st (no:NetOk N es)(ok:DOk D acc)(sd:Stdy D)(h:Sg es G m u w l):∀s:Int,0<=s->s<D.length->atS es D s l=nx D s m:=by
 induction h with
 |one h1 h2 h3 h4=>intro s _ _; show nx D s _=_; rw[h2]
 |@cons u y w e l h1 h2 h3 h4 h5 h6 ih=>
  intro s s0 s1
  have hm:=h6.md no
  have:=ok.to s m s0 s1 hm.1 hm.2
  show atS es D (nx D s (eg es e).md) l=_
  rw[h2,ih _ this.1 this.2,sd s m s0 s1 hm.1 hm.2]
def OneM (es:List E)(v:Int):Prop:=∀e e':Nat,e<es.length->e'<es.length->((eg es e).fr=v\/(eg es e).to=v)->((eg es e').fr=v\/(eg es e').to=v)->(eg es e).md=(eg es e').md
theorem Sg.hd (h:Sg es G m u w l):∃e,e<es.length/\(eg es e).fr=u/\(eg es e).md=m:=by
 cases h with
 |one h1 h2 h3 h4=>exact ⟨_,h1,h3,h2⟩
 |cons h1 h2 h3 h4 h5 h6=>exact ⟨_,h1,h3,h2⟩
end Go.Gm.AQ
namespace Go.Gm.AQ
open Go Go.Gm
abbrev HopR:=Int->Int->Bool->Int->Int->Bool->Int->Prop
inductive Pq (R:HopR):Int->Int->Bool->Int->Int->Bool->Int->Prop
 |nil {v s:Int} {b:Bool}:Pq R v s b v s b 0
 |snoc {v s v1 s1 v2 s2 c w:Int} {b b1 b2:Bool}:Pq R v s b v1 s1 b1 c->R v1 s1 b1 v2 s2 b2 w->Pq R v s b v2 s2 b2 (c+w)
theorem Pq.cons {R:HopR}(h:R v s b v1 s1 b1 w)(p:Pq R v1 s1 b1 v2 s2 b2 c):Pq R v s b v2 s2 b2 (w+c):=by
 induction p with
 |nil=>rw[Int.add_comm]; exact .snoc .nil h
 |snoc p k ih=>rw[<-Int.add_assoc]; exact .snoc (ih h) k
section
variable {N:Nat} {es:List E} {D:List (List Int)} {acc:List Bool} {G:Int->Prop} {U Dn:Int->Int->Int->Int->Prop} {R:HopR} {v:Int}
structure HR (D:List (List Int)) (U Dn:Int->Int->Int->Int->Prop) (R:HopR):Prop where
 up:∀v w m c s:Int,U v w m c->0<=s->s<D.length->R v s false w (nx D s m) false c
 dn:∀(v u m c s:Int) (b:Bool),Dn v u m c->0<=s->s<D.length->R u s b v (nx D s m) true c
structure Stg (es:List E) (G:Int->Prop) (U Dn:Int->Int->Int->Int->Prop) (v:Int):Prop where
 up:∀w m l,¬G w->Sg es G m v w l->∃c,U v w m c/\c<=atC es l
 dn:∀u m l,¬G u->u≠v->Sg es G m u v l->∃c,Dn v u m c/\c<=atC es l
end
end Go.Gm.AQ
namespace Go.Gm.AQ
open Go Go.Gm
structure Ar where
 fr:Int
 to:Int
 md:Int
 co:Int
 ed:Int
 a:Int
 b:Int
 deriving Inhabited
inductive Unp (A:List Ar):Nat->List Nat->Prop
 |edge {k:Nat} {a:Ar}:A[k]?=some a->0<=a.ed->Unp A k [a.ed.toNat]
 |two {k i j:Nat} {a:Ar} {l1 l2:List Nat}:A[k]?=some a->a.ed = -1->a.a=i->a.b=j->i<k->j<k->Unp A i l1->Unp A j l2->Unp A k (l1++l2)
theorem Unp.app (h:Unp A k l)(B:List Ar):Unp (A++B) k l:=by
 have get:∀{k:Nat} {a:Ar},A[k]?=some a->(A++B)[k]?=some a:=fun {k a} h=>by
  rw[List.getElem?_append_left (List.getElem?_eq_some_iff.1 h).1]; exact h
 induction h with
 |edge h1 h2=>exact .edge (get h1) h2
 |two h1 h2 h3 h4 h5 h6 _ _ i1 i2=>exact .two (get h1) h2 h3 h4 h5 h6 i1 i2
abbrev cu (N:Nat)(C:List Int)(u w m:Int):Int:=gi C ((u*N+w)*5+m)
theorem cu_lt {N:Nat}{u w m:Int}(u0:0<=u)(u1:u<N)(w0:0<=w)(w1:w<N)(m0:0<=m)(m1:m<5):0<=(u*N+w)*5+m/\(u*N+w)*5+m<((N*N*5:Nat):Int):=by
 have h1:0<=u*(N:Int):=Int.mul_nonneg u0 oM
 have h2:(u+1)*(N:Int)<=N*N:=Int.mul_le_mul_of_nonneg_right oM oM
 rw[Int.add_mul] at h2
 have h3:((N*N*5:Nat):Int)=(N:Int)*N*5:=by simp
 rw[h3]
 generalize (N:Int)*N=q at *
 generalize u*(N:Int)=p at *
 omega
theorem b9X {N:Nat}{u w m u' w' m':Int}(w0:0<=w)(w1:w<N)(m0:0<=m)(m1:m<5)(w0':0<=w')(w1':w'<N)(m0':0<=m')(m1':m'<5)(h:(u*N+w)*5+m=(u'*N+w')*5+m'):u=u'/\w=w'/\m=m':=by
 have h1:m=m':=by generalize u*(N:Int)=p at h; generalize u'*(N:Int)=p' at h; omega
 have h2:u*N+w=u'*N+w':=by generalize u*(N:Int)=p at h ⊢; generalize u'*(N:Int)=p' at h ⊢; omega
 have h3:u=u':=by
  have a:=Int.add_mul_ediv_right w u (c:=N) oM
  have b:=Int.add_mul_ediv_right w' u' (c:=N) oM
  rw[Int.ediv_eq_zero_of_lt w0 w1] at a
  rw[Int.ediv_eq_zero_of_lt w0' w1'] at b
  have:w+u*N=w'+u'*N:=oM
  rw[this] at a
  omega
 subst h3
 exact ⟨rfl,oM,h1⟩
abbrev ArcG (es:List E)(G:Int->Prop)(A:List Ar)(k:Nat)(a:Ar):Prop:=∃l,Unp A k l/\Sg es G a.md a.fr a.to l/\atC es l=a.co/\(ivs es l).Nodup
structure CI0 (es:List E) (N:Nat) (G:Int->Prop) (A:List Ar) (C:List Int):Prop where
 len:C.length=N*N*5
 arc:∀k a,A[k]?=some a->ArcG es G A k a
 cur:∀u w m:Int,0<=u->u<N->0<=w->w<N->0<=m->m<5->0<=cu N C u w m/\cu N C u w m<=A.length/\(0<cu N C u w m->(gi A (cu N C u w m-1)).fr=u/\(gi A (cu N C u w m-1)).to=w/\(gi A (cu N C u w m-1)).md=m)
structure CI (es:List E) (N:Nat) (G:Int->Prop) (A:List Ar) (C:List Int):Prop extends CI0 es N G A C where
 cov:∀u w m l,¬G u->¬G w->Sg es G m u w l->0<cu N C u w m/\(gi A (cu N C u w m-1)).co<=atC es l
def shortP (N:Nat)(A:List Ar)(C:List Int)(a b:Int):List Ar × List Int:=
 if ¬(gi A a).md=(gi A b).md\/(gi A b).to=(gi A a).to then (A,C) else
 if cu N C (gi A a).fr (gi A b).to (gi A a).md=0\/(gi A a).co+(gi A b).co<(gi A (cu N C (gi A a).fr (gi A b).to (gi A a).md-1)).co then
  (A++[⟨(gi A a).fr,(gi A b).to,(gi A a).md,(gi A a).co+(gi A b).co,-1,a,b⟩],C.set (((gi A a).fr*N+(gi A b).to)*5+(gi A a).md).toNat (A.length+1))
 else (A,C)
theorem Sg.range (no:NetOk N es)(h:Sg es G m u w l):(0<=u/\u<N)/\0<=w/\w<N:=by
 induction h with
 |@one u w e h1 h2 h3 h4=>
  have:=no.edge _ (b7_ (xs:=es) (i:=(e:Int)) oM (Int.ofNat_lt.2 h1))
  subst h3 h4
  exact ⟨⟨this.1,this.2.1⟩,this.2.2.1,this.2.2.2.1⟩
 |@cons u y w e l h1 h2 h3 h4 h5 h6 ih=>
  have:=no.edge _ (b7_ (xs:=es) (i:=(e:Int)) oM (Int.ofNat_lt.2 h1))
  subst h3
  exact ⟨⟨this.1,this.2.1⟩,ih.2⟩
structure CJ (es:List E) (N:Nat) (G:Int->Prop) (v:Int) (A0:List Ar) (C0:List Int) (P:Int->Int->Prop) (A:List Ar) (C:List Int):Prop extends CI0 es N (λx=>G x\/x=v) A C where
 pre:∀k:Int,0<=k->k<A0.length->gi A k=gi A0 k
 le:A0.length<=A.length
 dec:∀u w m:Int,0<=u->u<N->0<=w->w<N->0<=m->m<5->0<cu N C0 u w m->0<cu N C u w m/\(gi A (cu N C u w m-1)).co<=(gi A0 (cu N C0 u w m-1)).co
 don:∀a b:Int,P a b->0<=a->a<A0.length->0<=b->b<A0.length->(gi A0 a).md=(gi A0 b).md->(gi A0 b).to≠v->0<cu N C (gi A0 a).fr (gi A0 b).to (gi A0 a).md/\(gi A (cu N C (gi A0 a).fr (gi A0 b).to (gi A0 a).md-1)).co<=(gi A0 a).co+(gi A0 b).co
section
variable {N:Nat} {es:List E} {G:Int->Prop} {v:Int} {A0 A:List Ar} {C0 C:List Int} {P:Int->Int->Prop}
theorem CI.start (ci:CI es N G A C):CJ es N G v A C (λ_ _=>False) A C:=
 ⟨⟨ci.len,λk a h=>by
  obtain ⟨l,h1,h2,h3⟩:=ci.arc k a h
  exact ⟨l,h1,h2.mono λx q=>.inl q,h3⟩,ci.cur⟩,λk _ _=>rfl,Nat.le_refl _,λu w m _ _ _ _ _ _ h=>⟨h,Int.le_refl _⟩,λa b h=>h.elim⟩
theorem CI.arcI (ci:CI es N G A C){k:Int}(k0:0<=k)(k1:k<A.length):ArcG es G A k.toNat (gi A k):=ci.arc _ _ (c1_ k0 k1)
theorem CJ.step (no:NetOk N es)(co:COk es)(ci:CI es N G A0 C0)(gv:¬G v)(cj:CJ es N G v A0 C0 P A C){a b:Int}(a0:0<=a)(a1:a<A0.length)(b0:0<=b)(b1:b<A0.length)(xa:(gi A0 a).to=v)(xg:¬G (gi A0 a).fr)(yb:(gi A0 b).fr=v)(yg:¬G (gi A0 b).to) :
  CJ es N G v A0 C0 (λi j=>P i j\/(i=a/\j=b)) (shortP N A C a b).1 (shortP N A C a b).2:=by
 have ea:=cj.pre a a0 a1
 have eb:=cj.pre b b0 b1
 obtain ⟨l1,q1,q2,q3,q4⟩:=ci.arcI a0 a1
 obtain ⟨l2,r1,r2,r3,r4⟩:=ci.arcI b0 b1
 have ra:=q2.range no
 have rb:=r2.range no
 have ma:=q2.md no
 simp only[shortP,ea,eb]
 split
 ·rename_i h
  refine ⟨cj.toCI0,cj.pre,cj.le,cj.dec,λi j hp i0 i1 j0 j1 h1 h2=>?_⟩
  rcases hp with hp|⟨rfl,rfl⟩
  ·exact cj.don i j hp i0 i1 j0 j1 h1 h2
  ·rcases h with h|h
   ·exact absurd h1 h
   ·exact absurd (h.trans xa) h2
 rename_i h
 have hm:(gi A0 a).md=(gi A0 b).md:=Decidable.byContradiction λq=>h (.inl q)
 have hto:(gi A0 b).to≠v:=λq=>h (.inr (q.trans xa.symm))
 obtain ⟨p0,p1⟩:=cu_lt (N:=N) ra.1.1 ra.1.2 rb.2.1 rb.2.2 ma.1 ma.2
 split
 case isFalse h2=>
  have cr:=cj.cur _ _ _ ra.1.1 ra.1.2 rb.2.1 rb.2.2 ma.1 ma.2
  refine ⟨cj.toCI0,cj.pre,cj.le,cj.dec,λi j hp i0 i1 j0 j1 h1 h2'=>?_⟩
  rcases hp with hp|⟨rfl,rfl⟩
  ·exact cj.don i j hp i0 i1 j0 j1 h1 h2'
  ·rw[not_or] at h2
   show 0<cu N C _ _ _/\(gi A (cu N C _ _ _-1)).co<=_
   exact ⟨oM,oM⟩
 case isTrue h2=>
  obtain ⟨p,hp⟩:∃p,p=((gi A0 a).fr*(N:Int)+(gi A0 b).to)*5+(gi A0 a).md:=⟨_,rfl⟩
  obtain ⟨n,hn⟩:∃n,n=(⟨(gi A0 a).fr,(gi A0 b).to,(gi A0 a).md,(gi A0 a).co+(gi A0 b).co,-1,a,b⟩:Ar):=⟨_,rfl⟩
  rw[<-hp] at p0 p1 ⊢
  rw[<-hn]
  have lenC:=cj.len
  have cus:∀u w m:Int,0<=u->u<N->0<=w->w<N->0<=m->m<5->(u=(gi A0 a).fr/\w=(gi A0 b).to/\m=(gi A0 a).md/\cu N (C.set p.toNat (A.length+1)) u w m=A.length+1)\/
    (¬(u=(gi A0 a).fr/\w=(gi A0 b).to/\m=(gi A0 a).md)/\cu N (C.set p.toNat (A.length+1)) u w m=cu N C u w m):=by
   intro u w m u0 u1 w0 w1 m0 m1
   have hr:=cu_lt u0 u1 w0 w1 m0 m1
   by_cases q:(u*N+w)*5+m=p
   ·left
    obtain ⟨z1,z2,z3⟩:=b9X w0 w1 m0 m1 rb.2.1 rb.2.2 ma.1 ma.2 (q.trans hp)
    refine ⟨z1,z2,z3,?_⟩
    show gi _ _=_
    rw[w3_ p0 oM hr.1,if_pos q]
   ·right
    refine ⟨λ⟨z1,z2,z3⟩=>q (by rw[hp,z1,z2,z3]),?_⟩
    show gi _ _=_
    rw[w3_ p0 oM hr.1,if_neg q]
  have old:∀k:Int,0<=k->k<A.length->gi (A++[n]) k=gi A k:=λk k0 k1=>a3h k0 k1
  have new:gi (A++[n]) ((A.length:Int)+1-1)=n:=by
   rw[show (A.length:Int)+1-1=A.length by omega]; exact a6R _ _
  have crs:=λu w m u0 u1 w0 w1 m0 m1=>cj.cur u w m u0 u1 w0 w1 m0 m1
  have hd:(ivs es (l1++l2)).Nodup:=by
   rw[c3k q2 r2.ok.2.2,List.nodup_append]
   refine ⟨q4,List.nodup_cons.2 ⟨λhz=>gv (xa▸r2.inner _ hz),r4⟩,λz hz z' hz' he=>?_⟩
   subst he
   have gz:=q2.inner z hz
   rcases List.mem_cons.1 hz' with rfl|hz'
   ·exact gv (xa▸gz)
   obtain ⟨p1',s1,e1,f1,g1⟩:=q2.at hz
   obtain ⟨p2',s2,e2,f2,g2⟩:=r2.at hz'
   rw[<-hm] at g2
   have hs:=f1.app gz g2
   obtain ⟨k1,k2⟩:=ci.cov _ _ _ _ xg yg hs
   obtain ⟨k3,k4⟩:=cj.dec _ _ _ ra.1.1 ra.1.2 rb.2.1 rb.2.2 ma.1 ma.2 k1
   have c1:=g1.cost co
   have c2:=f2.cost co
   rw[e1,a0e] at q3
   rw[e2,a0e] at r3
   rw[a0e] at k2
   omega
  refine ⟨⟨by rw[List.length_set]; exact lenC,λk x hk=>?_,λu w m u0 u1 w0 w1 m0 m1=>?_⟩,λk k0 k1=>?_,?_,λu w m u0 u1 w0 w1 m0 m1 hc=>?_,λi j hij i0 i1 j0 j1 h1 h2'=>?_⟩
  ·by_cases hk':k<A.length
   ·rw[List.getElem?_append_left hk'] at hk
    obtain ⟨l,s1,s2⟩:=cj.arc k x hk
    exact ⟨l,s1.app _,s2⟩
   ·rw[List.getElem?_append_right oM] at hk
    have hkk:k=A.length:=by
     have:=(List.getElem?_eq_some_iff.1 hk).1
     simp at this
     omega
    subst hkk
    simp at hk
    subst hk
    have get:∀{i:Int},0<=i->i<A0.length->∀{l},Unp A0 i.toNat l->Unp A i.toNat l:=by
     intro i i0 i1 l hu
     obtain ⟨B,hB⟩:∃B,A=A0++B:=by
      refine ⟨A.drop A0.length,?_⟩
      refine List.ext_getElem? λt=>?_
      by_cases ht:t<A0.length
      ·rw[List.getElem?_append_left ht]
       have:=cj.pre t oM oM
       have z1:=c1_ (xs:=A) (i:=t) oM (by have:=cj.le; omega)
       have z2:=c1_ (xs:=A0) (i:=t) oM oM
       rw[Int.toNat_natCast] at z1 z2
       rw[z1,z2,this]
      ·rw[List.getElem?_append_right oM,List.getElem?_drop]
       congr 1
       omega
     rw[hB]
     exact hu.app B
    have hle:=cj.le
    refine ⟨l1++l2,?_,?_,?_,hd⟩
    ·refine .two (i:=a.toNat) (j:=b.toNat) (a:=n) (by simp) (by rw[hn]) (by rw[hn]; show a=_; omega) (by rw[hn]; show b=_; omega) oM oM ((get a0 a1 q1).app _) ((get b0 b1 r1).app _)
    ·rw[hn]
     have h1:=q2.mono (G':=λx=>G x\/x=v) λx q=>.inl q
     have h2:=r2.mono (G':=λx=>G x\/x=v) λx q=>.inl q
     rw[xa] at h1
     rw[yb,<-hm] at h2
     exact h1.app (.inr rfl) h2
    ·rw[hn,a0e,q3,r3]
  ·have cr:=crs u w m u0 u1 w0 w1 m0 m1
   rw[List.length_append]
   rcases cus u w m u0 u1 w0 w1 m0 m1 with ⟨z1,z2,z3,z4⟩|⟨_,z4⟩
   ·rw[z4]
    refine ⟨oM,by simp,λ_=>?_⟩
    rw[new,hn]
    exact ⟨z1.symm,z2.symm,z3.symm⟩
   ·rw[z4]
    refine ⟨cr.1,by have:=cr.2.1; simp; omega,λq=>?_⟩
    rw[old _ oM oM]
    exact cr.2.2 q
  ·rw[old k k0 (by have:=cj.le; omega)]
   exact cj.pre k k0 k1
  ·have:=cj.le
   simp; omega
  ·have cr:=crs u w m u0 u1 w0 w1 m0 m1
   obtain ⟨d1,d2⟩:=cj.dec u w m u0 u1 w0 w1 m0 m1 hc
   rcases cus u w m u0 u1 w0 w1 m0 m1 with ⟨rfl,rfl,rfl,z4⟩|⟨_,z4⟩
   ·rw[z4,new,hn]
    exact ⟨oM,by show (gi A0 a).co+(gi A0 b).co<=_; omega⟩
   ·rw[z4,old _ oM oM]
    exact ⟨d1,d2⟩
  ·rcases hij with hij|⟨rfl,rfl⟩
   ·have hi:=cj.don i j hij i0 i1 j0 j1 h1 h2'
    obtain ⟨_,_,t1,_⟩:=ci.arcI i0 i1
    obtain ⟨_,_,t2,_⟩:=ci.arcI j0 j1
    have rt1:=t1.range no
    have rt2:=t2.range no
    have mt:=t1.md no
    have cr:=crs _ _ _ rt1.1.1 rt1.1.2 rt2.2.1 rt2.2.2 mt.1 mt.2
    rcases cus _ _ _ rt1.1.1 rt1.1.2 rt2.2.1 rt2.2.2 mt.1 mt.2 with ⟨z1,z2,z3,z4⟩|⟨_,z4⟩
    ·rw[z1,z2,z3] at hi
     rw[z4,new,hn]
     exact ⟨oM,by show (gi A0 a).co+(gi A0 b).co<=_; omega⟩
    ·rw[z4,old _ oM oM]
     exact hi
   ·have e4:=cus _ _ _ ra.1.1 ra.1.2 rb.2.1 rb.2.2 ma.1 ma.2
    rcases e4 with ⟨_,_,_,z4⟩|⟨z,_⟩
    ·rw[z4,new,hn]
     exact ⟨oM,Int.le_refl _⟩
    ·exact absurd ⟨rfl,rfl,rfl⟩ z
end
end Go.Gm.AQ
namespace Go.Gm.AQ
open Go Go.Gm
section
variable {N:Nat} {es:List E} {G:Int->Prop} {v:Int} {A0 A:List Ar} {C0 C:List Int} {P:Int->Int->Prop} {up dn:List Int}
structure UD (N:Nat) (G:Int->Prop) (v:Int) (A:List Ar) (C:List Int) (up dn:List Int):Prop where
 up:∀w m:Int,0<=w->w<N->0<=m->m<5->¬G w->0<cu N C v w m->cu N C v w m-1∈up
 dn:∀u m:Int,0<=u->u<N->0<=m->m<5->¬G u->u≠v->0<cu N C u v m->cu N C u v m-1∈dn
theorem CI.stU (no:NetOk N es)(ci:CI es N G A C)(gv:¬G v)(ud:UD N G v A C up dn)(hw:¬G w)(h:Sg es G m v w l):∃k∈up,0<=k/\k<A.length/\(gi A k).to=w/\(gi A k).md=m/\(gi A k).co<=atC es l:=by
 have hr:=h.range no
 have hm:=h.md no
 obtain ⟨c1,c2⟩:=ci.cov _ _ _ _ gv hw h
 have cr:=ci.cur v w m hr.1.1 hr.1.2 hr.2.1 hr.2.2 hm.1 hm.2
 exact ⟨_,ud.up w m hr.2.1 hr.2.2 hm.1 hm.2 hw c1,oM,oM,(cr.2.2 c1).2.1,(cr.2.2 c1).2.2,c2⟩
theorem CI.stD (no:NetOk N es)(ci:CI es N G A C)(gv:¬G v)(ud:UD N G v A C up dn)(hu:¬G u)(huv:u≠v)(h:Sg es G m u v l):∃k∈dn,0<=k/\k<A.length/\(gi A k).fr=u/\(gi A k).md=m/\(gi A k).co<=atC es l:=by
 have hr:=h.range no
 have hm:=h.md no
 obtain ⟨c1,c2⟩:=ci.cov _ _ _ _ hu gv h
 have cr:=ci.cur u v m hr.1.1 hr.1.2 hr.2.1 hr.2.2 hm.1 hm.2
 exact ⟨_,ud.dn u m hr.1.1 hr.1.2 hm.1 hm.2 hu huv c1,oM,oM,(cr.2.2 c1).1,(cr.2.2 c1).2.2,c2⟩
theorem CJ.done (no:NetOk N es)(co:COk es)(ci:CI es N G A0 C0)(gv:¬G v)(ud:UD N G v A0 C0 up dn)(hP:∀a∈dn,∀b∈up,P a b)(cj:CJ es N G v A0 C0 P A C):CI es N (λx=>G x\/x=v) A C:=by
 refine ⟨cj.toCI0,λu w m l hu hw h=>?_⟩
 rw[not_or] at hu hw
 have hr:=h.range no
 have hm:=h.md no
 rcases h.split with i|⟨l1,l2,rfl,i2,i3⟩
 ·obtain ⟨c1,c2⟩:=ci.cov _ _ _ _ hu.1 hw.1 i
  obtain ⟨d1,d2⟩:=cj.dec u w m hr.1.1 hr.1.2 hr.2.1 hr.2.2 hm.1 hm.2 c1
  exact ⟨d1,oM⟩
 ·obtain ⟨l',k1,k2⟩:=i3.last co l2.length (Nat.le_refl _)
  obtain ⟨a,a1,a2,a3,a4,a5,a6⟩:=ci.stD no gv ud hu.1 hu.2 i2
  obtain ⟨b,b1,b2,b3,b4,b5,b6⟩:=ci.stU no gv ud hw.1 k1
  obtain ⟨d1,d2⟩:=cj.don a b (hP a a1 b b1) a2 a3 b2 b3 (a5.trans b5.symm) (b4▸hw.2)
  rw[a4,b4,a5] at d1 d2
  rw[a0e]
  exact ⟨d1,oM⟩
theorem CI.begin (no:NetOk N es)(hl:C.length=N*N*5)(ha:∀(k:Nat) (a:Ar),A[k]?=some a->∃e:Nat,e<es.length/\a=⟨(eg es e).fr,(eg es e).to,(eg es e).md,(eg es e).co,e,0,0⟩)(hc:∀u w m:Int,0<=u->u<N->0<=w->w<N->0<=m->m<5->0<=cu N C u w m/\cu N C u w m<=A.length/\(0<cu N C u w m->(gi A (cu N C u w m-1)).fr=u/\(gi A (cu N C u w m-1)).to=w/\(gi A (cu N C u w m-1)).md=m))(hm:∀e:Nat,e<es.length->0<cu N C (eg es e).fr (eg es e).to (eg es e).md/\(gi A (cu N C (eg es e).fr (eg es e).to (eg es e).md-1)).co<=(eg es e).co):CI es N (λ_=>False) A C:=by
 refine ⟨⟨hl,λk a h=>?_,hc⟩,λu w m l _ _ h=>?_⟩
 ·obtain ⟨e,h1,rfl⟩:=ha k a h
  refine ⟨[e],?_,.one h1 rfl rfl rfl,?_,List.nodup_nil⟩
  ·have:=Unp.edge h (by show (0:Int)<=e; omega)
   simpa using this
  ·show 0+(eg es e).co=_; simp
 ·cases h with
  |@one _ _ e h1 h2 h3 h4=>
   subst h2 h3 h4
   obtain ⟨q1,q2⟩:=hm e h1
   exact ⟨q1,by show _<=0+(eg es e).co; omega⟩
  |cons _ _ _ _ h5 _=>exact h5.elim
end
end Go.Gm.AQ
namespace Go.Gm.AQ
open Go Go.Gm
def encA (a:Ar):List AV:=[I a.fr,I a.to,I a.md,I a.co,I a.ed,I a.a,I a.b]
structure WC where
 hb:Heap
 b1:Nat
 oW:Nat
 oE:Nat
 oC:Nat
 oG:Nat
 oU:Nat
 oD:Nat
 N:Nat
 es:List E
 sE:AV
 sU:AV
 sD:AV
 sC:AV
 sG:AV
structure WC.Ok (c:WC):Prop where
 n:1<=c.N/\c.N<=100
 no:NetOk c.N c.es
 co:COk c.es
 b:c.hb.length<=c.oW/\c.hb.length<=c.oE/\c.hb.length<=c.oC/\c.hb.length<=c.oG/\c.hb.length<=c.oU/\c.hb.length<=c.oD
 t:c.oW<c.b1/\c.oE<c.b1/\c.oC<c.b1/\c.oG<c.b1/\c.oU<c.b1/\c.oD<c.b1
 d:c.oW≠c.oE/\c.oW≠c.oC/\c.oW≠c.oG/\c.oW≠c.oU/\c.oW≠c.oD/\c.oE≠c.oC/\c.oE≠c.oG/\c.oE≠c.oU/\c.oE≠c.oD/\c.oC≠c.oG/\c.oC≠c.oU/\c.oC≠c.oD/\c.oG≠c.oU/\c.oG≠c.oD/\c.oU≠c.oD
structure WS where
 sA:AV
 oA:Nat
 sR:AV
 oR:Nat
 A:List Ar
 C:List Int
 g:List Bool
 rk:List Int
 us:List AV
 ds:List AV
 Up:List (List Int)
 Dn:List (List Int)
def one1 (s:AV):List AV:=[s]
def Inn (c:WC)(h:Heap)(sA:AV)(oA:Nat)(sR:AV)(oR:Nat)(s:AV)(xs:List Int):Prop:=
 ∃o,Gr o (o+1) h 1 s (xs.map encI)/\(s≠.nils->c.b1<=o/\o<h.length/\(sA≠.nils->o≠oA)/\(sR≠.nils->o≠oR))
structure WV (c:WC) (s:WS) (h:Heap):Prop where
 eb:Ext c.hb h
 lb:c.b1<=h.length
 row:h[c.oW]?=some (.cells ⟨[I c.N,c.sE,s.sR,s.sA,c.sU,c.sD,c.sC,c.sG],0,0,false⟩)
 gE:Gr c.oE (c.oE+1) h 4 c.sE (c.es.map encE)
 gA:Gr s.oA (s.oA+1) h 7 s.sA (s.A.map encA)
 pA:s.sA≠.nils->c.b1<=s.oA/\s.oA<h.length
 gR:Gr s.oR (s.oR+1) h 1 s.sR (s.rk.map encI)
 pR:s.sR≠.nils->c.b1<=s.oR/\s.oR<h.length/\(s.sA≠.nils->s.oR≠s.oA)
 gC:Gr c.oC (c.oC+1) h 1 c.sC (s.C.map encI)
 gG:Gr c.oG (c.oG+1) h 1 c.sG (s.g.map encB)
 gU:Gr c.oU (c.oU+1) h 1 c.sU (s.us.map one1)
 gD:Gr c.oD (c.oD+1) h 1 c.sD (s.ds.map one1)
 lU:s.us.length=c.N/\s.ds.length=c.N/\s.Up.length=c.N/\s.Dn.length=c.N
 rU:∀v:Int,0<=v->v<c.N->Inn c h s.sA s.oA s.sR s.oR (gi s.us v) (gi s.Up v)
 rD:∀v:Int,0<=v->v<c.N->Inn c h s.sA s.oA s.sR s.oR (gi s.ds v) (gi s.Dn v)
theorem _root_.Go.Gm.Gr.keep (g:Gr o (o+1) h sz s xs)(f:FrS D h h')(hq:s≠.nils->¬D o):Gr o (o+1) h' sz s xs:=by
 by_cases q:s=.nils
 ·subst q
  have:=g.isNil
  subst this
  exact Gr.nil ..
 ·exact g.frs f λr r1 r2=>by
   obtain rfl:r=o:=oM
   exact hq q
theorem Inn.keep {sA sA' sR sR' s:AV}{oA oA' oR oR':Nat}(a:Inn c h sA oA sR oR s xs)(f:FrS D h h')(hq:∀o,c.b1<=o->o<h.length->(sA≠.nils->o≠oA)->(sR≠.nils->o≠oR)->¬D o/\(sA'≠.nils->o≠oA')/\(sR'≠.nils->o≠oR')):Inn c h' sA' oA' sR' oR' s xs:=by
 obtain ⟨o,g,p⟩:=a
 have l:=f.len
 refine ⟨o,g.keep f λq=>?_,λq=>?_⟩
 ·obtain ⟨p1,p2,p3,p4⟩:=p q
  exact (hq o p1 p2 p3 p4).1
 ·obtain ⟨p1,p2,p3,p4⟩:=p q
  obtain ⟨q1,q2,q3⟩:=hq o p1 p2 p3 p4
  exact ⟨p1,oM,q2,q3⟩
section
variable {c:WC} {s:WS} {h:Heap}
theorem WV.frs (w:WV c s h)(ok:c.Ok)(f:FrS D h h')(hD:∀o,D o->h.length<=o):WV c s h':=by
 have l:=f.len
 have lb:=w.lb
 have t:=ok.t
 have nd:∀o,o<h.length->¬D o:=λo ho q=>by have:=hD o q; omega
 refine ⟨f.ext w.eb λo ho=>nd o (by have:=w.eb.len; omega),oM,by rw[f.get (nd _ oM) oM]; exact w.row,w.gE.keep f λ_=>nd _ oM,w.gA.keep f λq=>nd _ (w.pA q).2,λq=>⟨(w.pA q).1,by have:=(w.pA q).2; omega⟩,w.gR.keep f λq=>nd _ (w.pR q).2.1,λq=>⟨(w.pR q).1,by have:=(w.pR q).2.1; omega,(w.pR q).2.2⟩,
  w.gC.keep f λ_=>nd _ oM,w.gG.keep f λ_=>nd _ oM,w.gU.keep f λ_=>nd _ oM,w.gD.keep f λ_=>nd _ oM,w.lU,λv v0 v1=>(w.rU v v0 v1).keep f λo _ h2 h3 h4=>⟨nd o h2,h3,h4⟩,λv v0 v1=>(w.rD v v0 v1).keep f λo _ h2 h3 h4=>⟨nd o h2,h3,h4⟩⟩
theorem WV.ext (w:WV c s h)(ok:c.Ok)(e:Ext h h'):WV c s h':=w.frs ok (FrS.ofExt (D:=λ_=>False) e) (λo q=>q.elim)
theorem WV.at (w:WV c s h):At h (.ptr c.oW 0 8 0) [I c.N,c.sE,s.sR,s.sA,c.sU,c.sD,c.sC,c.sG]:=At.row w.row (Nat.le_refl _) rfl
end
end Go.Gm.AQ
namespace Go.Gm.AQ
open Go Go.Gm
section
variable {c:WC} {s:WS} {h h':Heap}
theorem WV.setC (w:WV c s h)(ok:c.Ok){C':List Int}(f:FrS (λo=>o=c.oC) h h')(g:Gr c.oC (c.oC+1) h' 1 c.sC (C'.map encI)):WV c { s with C:=C' } h':=by
 have l:=f.len
 have lb:=w.lb
 have hl:=w.eb.len
 have b:=ok.b
 have t:=ok.t
 have d:=ok.d
 refine ⟨f.ext w.eb λo ho=>oM,oM,by rw[f.get oM oM]; exact w.row,w.gE.keep f λ_=>oM,w.gA.keep f λq=>by have:=w.pA q; omega,λq=>⟨(w.pA q).1,by have:=(w.pA q).2; show s.oA<_; omega⟩,w.gR.keep f λq=>by have:=w.pR q; omega,λq=>⟨(w.pR q).1,by have:=(w.pR q).2.1; show s.oR<_; omega,(w.pR q).2.2⟩,
  g,w.gG.keep f λ_=>oM,w.gU.keep f λ_=>oM,w.gD.keep f λ_=>oM,w.lU,λv v0 v1=>(w.rU v v0 v1).keep f λo h1 h2 h3 h4=>⟨oM,h3,h4⟩,λv v0 v1=>(w.rD v v0 v1).keep f λo h1 h2 h3 h4=>⟨oM,h3,h4⟩⟩
theorem WV.setR (w:WV c s h)(ok:c.Ok){rk':List Int}(hn:s.sR≠.nils)(f:FrS (λo=>o=s.oR) h h')(g:Gr s.oR (s.oR+1) h' 1 s.sR (rk'.map encI)):WV c { s with rk:=rk' } h':=by
 have l:=f.len
 have lb:=w.lb
 have hl:=w.eb.len
 have b:=ok.b
 have t:=ok.t
 have pr:=w.pR hn
 refine ⟨f.ext w.eb λo ho=>oM,oM,by rw[f.get oM oM]; exact w.row,w.gE.keep f λ_=>oM,w.gA.keep f λq=>by have:=pr.2.2 q; omega,λq=>⟨(w.pA q).1,by have:=(w.pA q).2; show s.oA<_; omega⟩,g,λq=>⟨(w.pR q).1,by have:=(w.pR q).2.1; show s.oR<_; omega,(w.pR q).2.2⟩,
  w.gC.keep f λ_=>oM,w.gG.keep f λ_=>oM,w.gU.keep f λ_=>oM,w.gD.keep f λ_=>oM,w.lU,λv v0 v1=>(w.rU v v0 v1).keep f λo h1 h2 h3 h4=>⟨by have:=h4 hn; omega,h3,h4⟩,λv v0 v1=>(w.rD v v0 v1).keep f λo h1 h2 h3 h4=>⟨by have:=h4 hn; omega,h3,h4⟩⟩
end
end Go.Gm.AQ
namespace Go.Gm.AQ
open Go Go.Gm
structure AOk (N:Nat) (a:Ar):Prop where
 f0:0<=a.fr
 f1:a.fr<N
 t0:0<=a.to
 t1:a.to<N
 m0:0<=a.md
 m1:a.md<5
 c0:0<=a.co
 c1:a.co<=1000000000000
section
variable {c:WC} {s:WS} {h h':Heap}
end
end Go.Gm.AQ
namespace Go.Gm.AQ
open Go Go.Gm
def pkM (f:Int->Int->Int)(b:Bool)(u n:Nat):List Int:=(List.range n).filterMap λ(m:Nat)=>if 0<f u m/\b=false then some (f u m-1) else none
def pkTo (f:Int->Int->Int)(g:Int->Bool)(n:Nat):List Int:=(List.range n).flatMap λ(u:Nat)=>pkM f (g u) u 5
section
variable {f:Int->Int->Int} {g:Int->Bool}
theorem a9J (n:Nat):pkTo f g (n+1)=pkTo f g n++pkM f (g n) n 5:=by
 simp[pkTo,List.range_succ]
theorem b4C (b:Bool)(u n:Nat):(pkM f b u n).length<=n:=by
 unfold pkM
 exact Nat.le_trans (List.length_filterMap_le _ _) (by simp)
theorem a3P:∀n:Nat,(pkTo f g n).length<=5*n
 |0=>by simp[pkTo]
 |n+1=>by
  rw[a9J,List.length_append]
  have:=a3P n
  have:=b4C (f:=f) (g n) n 5
  omega
theorem b1a {k:Int}:k∈pkTo f g n↔∃u m:Int,0<=u/\u<n/\0<=m/\m<5/\0<f u m/\g u=false/\k=f u m-1:=by
 simp only[pkTo,pkM,List.mem_flatMap,List.mem_range,List.mem_filterMap]
 constructor
 ·rintro ⟨u,hu,m,hm,he⟩
  split at he
  ·rename_i q
   injection he with he
   exact ⟨u,m,oM,oM,oM,oM,q.1,q.2,he.symm⟩
  ·cases he
 ·rintro ⟨u,m,u0,u1,m0,m1,q1,q2,rfl⟩
  refine ⟨u.toNat,oM,m.toNat,oM,?_⟩
  rw[Int.toNat_of_nonneg u0,Int.toNat_of_nonneg m0,if_pos ⟨q1,q2⟩]
end
section
variable {c:WC} {s:WS} {h0:Heap}
abbrev outF (c:WC)(s:WS)(v:Int):Int->Int->Int:=λu m=>cu c.N s.C v u m
abbrev inF (c:WC)(s:WS)(v:Int):Int->Int->Int:=λu m=>cu c.N s.C u v m
abbrev gonF (s:WS):Int->Bool:=λu=>gi s.g u
abbrev gonV (s:WS)(v:Int):Int->Bool:=λu=>gi s.g u || decide (u=v)
def CuOk (c:WC)(s:WS):Prop:=∀u w m:Int,0<=u->u<c.N->0<=w->w<c.N->0<=m->m<5->0<=cu c.N s.C u w m/\cu c.N s.C u w m<=1000000000
end
end Go.Gm.AQ
namespace Go.Gm.AQ
open Go Go.Gm
def RefV (h:Heap)(a:AV)(N:Int)(es:List E):Prop:=∃s,At h a [I N,s]/\Sl h 4 s (es.map encE)
theorem RefV.ext (w:RefV h a N es)(e:Ext h h'):RefV h' a N es:=by
 obtain ⟨s,w1,w2⟩:=w
 exact ⟨s,w1.ext e,w2.ext e⟩
section
variable {N:Nat} {es:List E} {h0:Heap} {a n1 sE:AV}
end
end Go.Gm.AQ
namespace Go.Gm.AQ
open Go Go.Gm
def arcE (es:List E)(e:Nat):Ar:=⟨(eg es e).fr,(eg es e).to,(eg es e).md,(eg es e).co,e,0,0⟩
def ixE (N:Nat)(es:List E)(e:Nat):Int:=((eg es e).fr*N+(eg es e).to)*5+(eg es e).md
structure BI1 (N:Nat) (es:List E) (n:Nat) (B:List Int):Prop where
 len:B.length=N*N*5
 val:∀i:Int,0<=i->i<B.length->0<=gi B i/\gi B i<=n/\(0<gi B i->ixE N es (gi B i-1).toNat=i)
 all:∀e:Nat,e<n->0<gi B (ixE N es e)/\(eg es (gi B (ixE N es e)-1).toNat).co<=(eg es e).co
section
variable {N:Nat} {es:List E}
theorem eg_ok (no:NetOk N es){e:Nat}(he:e<es.length):0<=(eg es e).fr/\(eg es e).fr<N/\0<=(eg es e).to/\(eg es e).to<N/\0<=(eg es e).md/\(eg es e).md<5:=no.edge _ (b7_ (xs:=es) (i:=(e:Int)) oM oM)
theorem b3X (no:NetOk N es){e:Nat}(he:e<es.length):0<=ixE N es e/\ixE N es e<((N*N*5:Nat):Int):=by
 obtain ⟨h1,h2,h3,h4,h5,h6⟩:=eg_ok no he
 exact cu_lt h1 h2 h3 h4 h5 h6
theorem BI1.start:BI1 N es 0 (List.replicate (N*N*5) 0):=by
 refine ⟨by simp,λi i0 i1=>?_,λe h=>oM⟩
 rw[w2_ i0 (by simpa using i1)]
 exact ⟨oM,oM,oM⟩
theorem BI1.skip (b:BI1 N es n B)(h1:0<gi B (ixE N es n))(h2:(eg es (gi B (ixE N es n)-1).toNat).co<=(eg es n).co):BI1 N es (n+1) B:=by
 refine ⟨b.len,λi i0 i1=>?_,λe h=>?_⟩
 ·have:=b.val i i0 i1
  exact ⟨this.1,oM,this.2.2⟩
 ·by_cases q:e=n
  ·subst q; exact ⟨h1,h2⟩
  ·exact b.all e oM
theorem BI1.put (no:NetOk N es){n:Nat}(hn:n<es.length)(b:BI1 N es n B)(h1:gi B (ixE N es n)=0\/(eg es n).co<(eg es (gi B (ixE N es n)-1).toNat).co):BI1 N es (n+1) (B.set (ixE N es n).toNat (n+1)):=by
 obtain ⟨x0,x1⟩:=b3X no hn
 have hl:=b.len
 have hx:ixE N es n<B.length:=by rw[hl]; exact x1
 have e1:((n:Int)+1-1).toNat=n:=oM
 refine ⟨by rw[List.length_set]; exact hl,λi i0 i1=>?_,λe h=>?_⟩
 ·rw[List.length_set] at i1
  rw[w3_ x0 hx i0]
  split
  ·rename_i q
   exact ⟨oM,oM,λ_=>by rw[e1]; exact q.symm⟩
  ·have:=b.val i i0 i1
   exact ⟨this.1,oM,this.2.2⟩
 ·by_cases q:e=n
  ·subst q
   rw[w3_ x0 hx x0,if_pos rfl,e1]
   exact ⟨oM,Int.le_refl _⟩
  ·have h0:=b.all e oM
   have hex:=b3X no (e:=e) oM
   rw[w3_ x0 hx hex.1]
   split
   ·rename_i q2
    rw[q2] at h0
    rw[e1]
    refine ⟨oM,?_⟩
    rcases h1 with h1|h1<;>omega
   ·exact h0
structure BI2 (N:Nat) (es:List E) (B:List Int) (k:Nat) (A:List Ar) (C:List Int):Prop where
 len:C.length=N*N*5
 la:A.length<=k
 arc:∀(j:Nat) (a:Ar),A[j]?=some a->∃e:Nat,e<es.length/\a=arcE es e
 old:∀i:Int,0<=i->i<k->i<C.length->(gi B i=0/\gi C i=0)\/(0<gi B i/\0<gi C i/\gi C i<=A.length/\gi A (gi C i-1)=arcE es (gi B i-1).toNat)
 new:∀i:Int,k<=i->i<C.length->gi C i=0
theorem BI2.start:BI2 N es B 0 [] (List.replicate (N*N*5) 0):=
 ⟨by simp,by simp,λj a h=>by simp at h,λi i0 i1=>oM,λi i0 i1=>w2_ oM (by simpa using i1)⟩
theorem BI2.skip (b:BI2 N es B k A C)(hk:k<N*N*5)(h:gi B (k:Int)=0):BI2 N es B (k+1) A C:=by
 refine ⟨b.len,by have:=b.la; omega,b.arc,λi i0 i1 i2=>?_,λi i0 i1=>b.new i oM i1⟩
 by_cases q:i=k
 ·subst q; exact .inl ⟨h,b.new _ (Int.le_refl _) i2⟩
 ·exact b.old i i0 oM i2
theorem BI2.put (b:BI2 N es B k A C)(hk:k<N*N*5)(h:0<gi B (k:Int))(he:(gi B (k:Int)-1).toNat<es.length):BI2 N es B (k+1) (A++[arcE es (gi B (k:Int)-1).toNat]) (C.set k (A.length+1)):=by
 have hl:=b.len
 have hs:∀i:Int,0<=i->gi (C.set k ((A.length:Int)+1)) i=if i=k then (A.length:Int)+1 else gi C i:=λi i0=>by
  have:=w3_ (xs:=C) (i:=(k:Int)) oM oM i0 ((A.length:Int)+1)
  rwa [Int.toNat_natCast] at this
 refine ⟨by rw[List.length_set]; exact hl,by have:=b.la; simp; omega,λj a hj=>?_,λi i0 i1 i2=>?_,λi i0 i1=>?_⟩
 ·by_cases hj':j<A.length
  ·rw[List.getElem?_append_left hj'] at hj
   exact b.arc j a hj
  ·rw[List.getElem?_append_right oM] at hj
   have q1:=(List.getElem?_eq_some_iff.1 hj).1
   have:j-A.length=0:=by simp at q1; omega
   rw[this,List.getElem?_cons_zero] at hj
   injection hj with hj
   exact ⟨_,he,hj.symm⟩
 ·rw[List.length_set] at i2
  rw[hs i i0]
  by_cases q:i=k
  ·subst q
   rw[if_pos rfl]
   refine .inr ⟨h,oM,by simp,?_⟩
   rw[show (A.length:Int)+1-1=A.length by omega,a6R]
  ·rw[if_neg q]
   rcases b.old i i0 oM i2 with z|⟨z1,z2,z3,z4⟩
   ·exact .inl z
   ·exact .inr ⟨z1,z2,by simp; omega,by rw[a3h oM oM]; exact z4⟩
 ·rw[List.length_set] at i1
  rw[hs i oM,if_neg oM]
  exact b.new i oM i1
theorem BI2.ci (no:NetOk N es)(b1:BI1 N es es.length B)(b:BI2 N es B (N*N*5) A C):CI es N (λ_=>False) A C:=by
 have hl:=b.len
 have hl1:=b1.len
 refine CI.begin no hl (λk a h=>b.arc k a h) (λu w m u0 u1 w0 w1 m0 m1=>?_) (λe he=>?_)
 ·obtain ⟨p0,p1⟩:=cu_lt u0 u1 w0 w1 m0 m1
  try simp only[cu]
  rcases b.old _ p0 p1 (by rw[hl]; exact p1) with ⟨_,z⟩|⟨z1,z2,z3,z4⟩
  ·exact ⟨oM,oM,λq=>oM⟩
  ·refine ⟨oM,z3,λ_=>?_⟩
   have hv:=b1.val _ p0 (by rw[hl1]; exact p1)
   have hlt:(gi B ((u*(N:Int)+w)*5+m)-1).toNat<es.length:=oM
   obtain ⟨g1,g2,g3,g4,g5,g6⟩:=eg_ok no hlt
   have hx:=hv.2.2 z1
   obtain ⟨q1,q2,q3⟩:=b9X g3 g4 g5 g6 w0 w1 m0 m1 hx
   rw[z4]
   exact ⟨q1,q2,q3⟩
 ·obtain ⟨p0,p1⟩:=b3X no he
  obtain ⟨a1,a2⟩:=b1.all e he
  rcases b.old _ p0 p1 (by rw[hl]; exact p1) with ⟨z,_⟩|⟨z1,z2,z3,z4⟩
  ·omega
  ·refine ⟨z2,?_⟩
   show (gi A (gi C (ixE N es e)-1)).co<=_
   rw[z4]
   exact a2
end
section
variable {c:WC} {s:WS} {h0:Heap}
end
end Go.Gm.AQ
namespace Go.Gm.AQ
open Go Go.Gm
section
variable {c:WC} {s:WS} {h0:Heap}
end
end Go.Gm.AQ
namespace Go.Gm.AQ
open Go Go.Gm
theorem Sg.len {N:Nat}{es:List E}{G:Int->Prop}{m u w:Int}{l:List Nat}(no:NetOk N es)(h:Sg es G m u w l)(hd:(ivs es l).Nodup):l.length<=N+1:=by
 have h1:=b6c N (ivs es l) hd (λx hx=>by
  obtain ⟨e,he,rfl⟩:=List.mem_map.1 hx
  have:=h.ok.1.mem e (List.dropLast_subset l he)
  have:=eg_ok no this
  omega)
 simp only[ivs,List.length_map,List.length_dropLast] at h1
 omega
theorem ArcG.fit {N:Nat}{es:List E}{G:Int->Prop}{A:List Ar}{k:Nat}{a:Ar}(no:NetOk N es)(co:COk es)(hN:N<=100)(h:ArcG es G A k a):AOk N a/\∃l,Unp A k l/\Sg es G a.md a.fr a.to l/\atC es l=a.co/\l.length<=N+1:=by
 obtain ⟨l,h1,h2,h3,h4⟩:=h
 have hl:=h2.len no h4
 have r:=h2.range no
 have m:=h2.md no
 have c1:=(a8v co l h2.ok.1.mem 0).2
 have c0:=h2.cost co
 refine ⟨⟨r.1.1,r.1.2,r.2.1,r.2.2,m.1,m.2,oM,?_⟩,l,h1,h2,h3,hl⟩
 have h5:atC es l<=0+(l.length:Int)*2147483647:=c1
 omega
theorem CJ.mono {P P':Int->Int->Prop}(cj:CJ es N G v A0 C0 P A C)(h:∀i j,P' i j->P i j):CJ es N G v A0 C0 P' A C:=
 ⟨cj.toCI0,cj.pre,cj.le,cj.dec,λa b hp=>cj.don a b (h a b hp)⟩
def Prs (dn up:List Int)(a n:Nat)(i j:Int):Prop:=∃p q:Nat,dn[p]?=some i/\up[q]?=some j/\(p<a\/(p=a/\q<n))
structure KI (c:WC) (s0:WS) (G:Int->Prop) (v:Int) (vs up dn:List Int) (lo uA dA:AV) (a n:Nat) (s1:AV) (o1:Nat) (A:List Ar) (C:List Int) (h:Heap):Prop where
 w:WV c { s0 with sA:=s1,oA:=o1,A:=A,C:=C } h
 nl:Inn c h s1 o1 s0.sR s0.oR lo vs
 nu:Inn c h s1 o1 s0.sR s0.oR uA up
 nd:Inn c h s1 o1 s0.sR s0.oR dA dn
 cj:CJ c.es c.N G v s0.A s0.C (Prs dn up a n) A C
 la:A.length<=s0.A.length+a*up.length+n
structure RowsUD (G:Int->Prop) (v:Int) (A0:List Ar) (up dn:List Int):Prop where
 up:∀k∈up,0<=k/\k<A0.length/\(gi A0 k).fr=v/\¬G (gi A0 k).to
 dn:∀k∈dn,0<=k/\k<A0.length/\(gi A0 k).to=v/\¬G (gi A0 k).fr
section
variable {c:WC} {s0:WS} {G:Int->Prop} {v:Int} {vs up dn:List Int} {lo uA dA n1 t2:AV}
end
end Go.Gm.AQ
namespace Go.Gm.AQ
open Go Go.Gm
structure StgL (es:List E) (G:Int->Prop) (A:List Ar) (v:Int) (up dn:List Int):Prop where
 up:∀w m l,¬G w->Sg es G m v w l->∃k∈up,0<=k/\k<A.length/\(gi A k).to=w/\(gi A k).md=m/\(gi A k).co<=atC es l
 dn:∀u m l,¬G u->u≠v->Sg es G m u v l->∃k∈dn,0<=k/\k<A.length/\(gi A k).fr=u/\(gi A k).md=m/\(gi A k).co<=atC es l
structure Grows (A A':List Ar):Prop where
 le:A.length<=A'.length
 eq:∀k:Int,0<=k->k<A.length->gi A' k=gi A k
theorem StgL.grow {es:List E}{G:Int->Prop}{A A':List Ar}{v:Int}{up dn:List Int}(s:StgL es G A v up dn)(g:Grows A A'):StgL es G A' v up dn:=by
 have:=g.le
 refine ⟨λw m l h1 h2=>?_,λu m l h1 h2 h3=>?_⟩
 ·obtain ⟨k,k1,k2,k3,k4⟩:=s.up w m l h1 h2
  exact ⟨k,k1,k2,oM,by rw[g.eq k k2 k3]; exact k4⟩
 ·obtain ⟨k,k1,k2,k3,k4⟩:=s.dn u m l h1 h2 h3
  exact ⟨k,k1,k2,oM,by rw[g.eq k k2 k3]; exact k4⟩
structure LI (c:WC) (vs:List Int) (i:Nat) (s:WS):Prop where
 ci:CI c.es c.N (λx=>x∈vs.take i) s.A s.C
 lg:s.g.length=c.N
 gg:∀x:Int,0<=x->x<c.N->(gi s.g x=true↔x∈vs.take i)
 la:s.A.length<=50000+i*250000
 lr:s.rk.length=c.N
 rU:∀v:Int,0<=v->v<c.N->(gi s.Up v).length<=5*c.N/\∀k∈gi s.Up v,0<=k/\k<s.A.length/\(gi s.A k).fr=v
 rD:∀v:Int,0<=v->v<c.N->(gi s.Dn v).length<=5*c.N/\∀k∈gi s.Dn v,0<=k/\k<s.A.length/\(gi s.A k).to=v
 st:∀(a b:List Int) (v:Int),vs.take i=a++v::b->StgL c.es (λx=>x∈a) s.A v (gi s.Up v) (gi s.Dn v)
structure OrdOk (c:WC) (vs:List Int):Prop where
 nd:vs.Nodup
 mem:∀v∈vs,0<=v/\v<c.N/\OneM c.es v
 len:vs.length<=c.N
section
variable {c:WC} {vs:List Int} {i:Nat} {s:WS} {v:Int}
abbrev upL (c:WC)(s:WS)(v:Int):List Int:=pkTo (outF c s v) (gonF s) c.N
abbrev dnL (c:WC)(s:WS)(v:Int):List Int:=pkTo (inF c s v) (gonV s v) c.N
theorem LI.cu (l:LI c vs i s)(hb:s.A.length<=1000000000):CuOk c s:=λu w m u0 u1 w0 w1 m0 m1=>by
 have:=l.ci.cur u w m u0 u1 w0 w1 m0 m1
 exact ⟨this.1,oM⟩
theorem LI.ud (l:LI c vs i s)(v0:0<=v)(v1:v<c.N):UD c.N (λx=>x∈vs.take i) v s.A s.C (upL c s v) (dnL c s v):=by
 refine ⟨λw m w0 w1 m0 m1 hw h=>b1a.2 ⟨w,m,w0,w1,m0,m1,h,?_,rfl⟩,λu m u0 u1 m0 m1 hu huv h=>b1a.2 ⟨u,m,u0,u1,m0,m1,h,?_,rfl⟩⟩
 ·show gi s.g w=false
  cases hq:gi s.g w with
  |false=>rfl
  |true=>exact absurd ((l.gg w w0 w1).1 hq) hw
 ·show (gi s.g u || decide (u=v))=false
  cases hq:gi s.g u with
  |false=>simp[huv]
  |true=>exact absurd ((l.gg u u0 u1).1 hq) hu
theorem LI.rows (l:LI c vs i s)(v0:0<=v)(v1:v<c.N):RowsUD (λx=>x∈vs.take i) v s.A (upL c s v) (dnL c s v):=by
 refine ⟨λk hk=>?_,λk hk=>?_⟩
 ·obtain ⟨u,m,u0,u1,m0,m1,h1,h2,rfl⟩:=b1a.1 hk
  obtain ⟨c1,c2,c3⟩:=l.ci.cur v u m v0 v1 u0 u1 m0 m1
  obtain ⟨d1,d2,d3⟩:=c3 h1
  refine ⟨by show 0<=Gm.AQ.cu _ _ _ _ _-1; have:0<Gm.AQ.cu c.N s.C v u m:=h1; omega,by show Gm.AQ.cu c.N s.C v u m-1<_; omega,d1,?_⟩
  show ¬(gi s.A (Gm.AQ.cu c.N s.C v u m-1)).to∈_
  rw[d2]
  intro q
  have:=(l.gg u u0 u1).2 q
  have h2':gi s.g u=false:=h2
  rw[this] at h2'
  cases h2'
 ·obtain ⟨u,m,u0,u1,m0,m1,h1,h2,rfl⟩:=b1a.1 hk
  obtain ⟨c1,c2,c3⟩:=l.ci.cur u v m u0 u1 v0 v1 m0 m1
  obtain ⟨d1,d2,d3⟩:=c3 h1
  refine ⟨by show 0<=Gm.AQ.cu _ _ _ _ _-1; have:0<Gm.AQ.cu c.N s.C u v m:=h1; omega,by show Gm.AQ.cu c.N s.C u v m-1<_; omega,d2,?_⟩
  show ¬(gi s.A (Gm.AQ.cu c.N s.C u v m-1)).fr∈_
  rw[d1]
  intro q
  have:=(l.gg u u0 u1).2 q
  have h2':(gi s.g u || decide (u=v))=false:=h2
  rw[this] at h2'
  cases h2'
theorem LI.next (ok:c.Ok)(oo:OrdOk c vs)(l:LI c vs i s)(hv:vs[i]?=some v)(lu:s.Up.length=c.N)(ld:s.Dn.length=c.N)(cj:CJ c.es c.N (λx=>x∈vs.take i) v s.A s.C (Prs (dnL c s v) (upL c s v) (dnL c s v).length 0) A C)(la:A.length<=s.A.length+(dnL c s v).length*(upL c s v).length){s1 sR:AV}{o1 oR:Nat}{rk:List Int}{us ds:List AV}(hrk:rk.length=c.N):LI c vs (i+1) ⟨s1,o1,sR,oR,A,C,s.g.set v.toNat true,rk,us,ds,s.Up.set v.toNat (upL c s v),s.Dn.set v.toNat (dnL c s v)⟩:=by
 obtain ⟨v0,v1,v2⟩:=oo.mem v (List.mem_of_getElem? hv)
 have htk:vs.take (i+1)=vs.take i++[v]:=a3O hv
 have hnv:v ∉ vs.take i:=by
  have h1:=oo.nd
  rw[<-List.take_append_drop (i+1) vs,htk,List.nodup_append] at h1
  have h2:=(List.nodup_append.1 h1.1).2.2
  exact λq=>h2 v q v (by simp) rfl
 have hG:(λx=>x∈vs.take (i+1))=λx=>x∈vs.take i\/x=v:=by funext x; rw[htk]; simp
 have hn:=ok.n
 have lu1:(upL c s v).length<=5*c.N:=a3P (f:=outF c s v) (g:=gonF s) c.N
 have ld1:(dnL c s v).length<=5*c.N:=a3P (f:=inF c s v) (g:=gonV s v) c.N
 have hm:(dnL c s v).length*(upL c s v).length<=500*500:=Nat.mul_le_mul oM oM
 have gr:Grows s.A A:=⟨cj.le,λk k0 k1=>cj.pre k k0 k1⟩
 have rows:=l.rows v0 v1
 have ud:=l.ud v0 v1
 refine ⟨?_,by show (s.g.set _ _).length=_; rw[List.length_set]; exact l.lg,λx x0 x1=>?_,by have:=l.la; show A.length<=_; omega,hrk,λu u0 u1=>?_,λu u0 u1=>?_,λa b w hab=>?_⟩
 ·rw[hG]
  refine cj.done ok.no ok.co l.ci hnv ud λa ha b hb=>?_
  obtain ⟨p,hp⟩:=List.getElem?_of_mem ha
  obtain ⟨q,hq⟩:=List.getElem?_of_mem hb
  exact ⟨p,q,hp,hq,.inl (List.getElem?_eq_some_iff.1 hp).1⟩
 ·show gi (s.g.set v.toNat true) x=true↔_
  rw[w3_ v0 (by rw[l.lg]; exact v1) x0,htk,List.mem_append,List.mem_singleton]
  by_cases q:x=v
  ·rw[if_pos q]; simp[q]
  ·rw[if_neg q]; simp[q,l.gg x x0 x1]
 ·show (gi (s.Up.set v.toNat (upL c s v)) u).length<=_/\∀k∈gi (s.Up.set v.toNat (upL c s v)) u,_
  rw[w3_ v0 (by rw[lu]; exact v1) u0]
  split
  ·rename_i q
   subst q
   refine ⟨lu1,λk hk=>?_⟩
   obtain ⟨k0,k1,k2,_⟩:=rows.up k hk
   refine ⟨k0,by have:=gr.le; show k<A.length; omega,?_⟩
   show (gi A k).fr=_
   rw[gr.eq k k0 k1]; exact k2
  ·obtain ⟨h1,h2⟩:=l.rU u u0 u1
   refine ⟨h1,λk hk=>?_⟩
   obtain ⟨k0,k1,k2⟩:=h2 k hk
   refine ⟨k0,by have:=gr.le; show k<A.length; omega,?_⟩
   show (gi A k).fr=_
   rw[gr.eq k k0 k1]; exact k2
 ·show (gi (s.Dn.set v.toNat (dnL c s v)) u).length<=_/\∀k∈gi (s.Dn.set v.toNat (dnL c s v)) u,_
  rw[w3_ v0 (by rw[ld]; exact v1) u0]
  split
  ·rename_i q
   subst q
   refine ⟨ld1,λk hk=>?_⟩
   obtain ⟨k0,k1,k2,_⟩:=rows.dn k hk
   refine ⟨k0,by have:=gr.le; show k<A.length; omega,?_⟩
   show (gi A k).to=_
   rw[gr.eq k k0 k1]; exact k2
  ·obtain ⟨h1,h2⟩:=l.rD u u0 u1
   refine ⟨h1,λk hk=>?_⟩
   obtain ⟨k0,k1,k2⟩:=h2 k hk
   refine ⟨k0,by have:=gr.le; show k<A.length; omega,?_⟩
   show (gi A k).to=_
   rw[gr.eq k k0 k1]; exact k2
 ·show StgL c.es (λx=>x∈a) A w (gi (s.Up.set v.toNat (upL c s v)) w) (gi (s.Dn.set v.toNat (dnL c s v)) w)
  have hw:w∈vs:=List.mem_of_mem_take (show w∈vs.take (i+1) by rw[hab]; simp)
  have hw0:=oo.mem w hw
  rw[w3_ v0 (by rw[lu]; exact v1) hw0.1,w3_ v0 (by rw[ld]; exact v1) hw0.1]
  rw[htk] at hab
  rcases List.eq_nil_or_concat b with rfl|⟨b',z,rfl⟩
  ·obtain ⟨h1,h2⟩:=List.append_inj' hab (by simp)
   injection h2 with h2 _
   subst h2
   rw[if_pos rfl,if_pos rfl,<-h1]
   refine StgL.grow ⟨λw m l' hw h=>l.ci.stU ok.no hnv ud hw h,λu m l' hu huv h=>l.ci.stD ok.no hnv ud hu huv h⟩ gr
  ·rw[List.concat_eq_append,<-List.cons_append,<-List.append_assoc] at hab
   obtain ⟨h1,h2⟩:=List.append_inj' hab (by simp)
   have hwv:w≠v:=λq=>hnv (by rw[h1,q]; simp)
   rw[if_neg hwv,if_neg hwv]
   exact (l.st a b' w h1).grow gr
end
end Go.Gm.AQ
namespace Go.Gm.AQ
open Go Go.Gm
section
variable {c:WC} {vs:List Int} {lo n1 t2:AV}
end
end Go.Gm.AQ
namespace Go.Gm.AQ
open Go Go.Gm
structure IxV (h:Heap) (r:AV) (N:Nat) (es:List E) (A:List Ar) (Up Dn:List (List Int)):Prop where
 ex:∃sE sR sA sU sD us ds,r=.agg [I N,sE,sR,sA,sU,sD]/\Sl h 4 sE (es.map encE)/\sR.one=true/\Sl h 7 sA (A.map encA)/\Sl h 1 sU (us.map one1)/\Sl h 1 sD (ds.map one1)/\us.length=N/\ds.length=N/\
  (∀v:Int,0<=v->v<N->Sl h 1 (gi us v) ((gi Up v).map encI))/\(∀v:Int,0<=v->v<N->Sl h 1 (gi ds v) ((gi Dn v).map encI))
theorem IxV.ext (x:IxV h r N es A Up Dn)(e:Ext h h'):IxV h' r N es A Up Dn:=by
 obtain ⟨sE,sR,sA,sU,sD,us,ds,h1,h2,h3,h4,h5,h6,h7,h8,h9,h10⟩:=x.ex
 exact ⟨sE,sR,sA,sU,sD,us,ds,h1,h2.ext e,h3,h4.ext e,h5.ext e,h6.ext e,h7,h8,λv v0 v1=>(h9 v v0 v1).ext e,λv v0 v1=>(h10 v v0 v1).ext e⟩
def UpA (N:Nat)(A:List Ar)(Up:List (List Int))(v w m co:Int):Prop:=0<=v/\v<N/\∃k∈gi Up v,0<=k/\k<A.length/\(gi A k).to=w/\(gi A k).md=m/\(gi A k).co=co
def DnA (N:Nat)(A:List Ar)(Dn:List (List Int))(v u m co:Int):Prop:=0<=v/\v<N/\∃k∈gi Dn v,0<=k/\k<A.length/\(gi A k).fr=u/\(gi A k).md=m/\(gi A k).co=co
structure IxS (LL N:Nat) (es:List E) (A:List Ar) (Up Dn:List (List Int)):Prop where
 la:A.length<=50000000
 lu:Up.length=N/\Dn.length=N
 arc:∀k a,A[k]?=some a->AOk N a/\∃l,Unp A k l/\Sg es (λ_=>True) a.md a.fr a.to l/\atC es l=a.co/\l.length<=LL
 rU:∀v:Int,0<=v->v<N->(gi Up v).length<=50000000/\∀k∈gi Up v,0<=k/\k<A.length/\(gi A k).fr=v
 rD:∀v:Int,0<=v->v<N->(gi Dn v).length<=50000000/\∀k∈gi Dn v,0<=k/\k<A.length/\(gi A k).to=v
structure IxC (N:Nat) (es:List E) (A:List Ar) (Up Dn:List (List Int)):Prop extends IxS (N+1) N es A Up Dn where
 cmp:∃vs:List Int,vs.Nodup/\(∀x∈vs,OneM es x)/\(∀(a b:List Int) (v:Int),vs=a++v::b->Stg es (λx=>x∈a) (UpA N A Up) (DnA N A Dn) v)/\
  (∀v w m l,¬v∈vs->¬w∈vs->Sg es (λx=>x∈vs) m v w l->∃co,UpA N A Up v w m co/\co<=atC es l)
section
variable {c:WC} {s:WS} {h h':Heap}
end
end Go.Gm.AQ
namespace Go.Gm.AQ
open Go Go.Gm
section
variable {c:WC} {s0:WS} {vs:List Int}
end
end Go.Gm.AQ
namespace Go.Gm.AQ
open Go Go.Gm
theorem Gr.place (g:Gr lo hi h sz s xs)(hlt:lo<hi):∃o,lo<=o/\o<hi/\Gr o (o+1) h sz s xs:=by
 by_cases q:s=.nils
 ·subst q
  have:=g.isNil
  subst this
  exact ⟨lo,Nat.le_refl _,hlt,Gr.nil ..⟩
 ·obtain ⟨o,p,g'⟩:=g.point
  have:=p q
  exact ⟨o,this.1,this.2.1,g'⟩
end Go.Gm.AQ
namespace Go.Gm.AQ
open Go Go.Gm
inductive StkU (A:List Ar):List Nat->List Nat->Prop
 |nil:StkU A [] []
 |cons {k:Nat} {W l ls:List Nat}:Unp A k l->StkU A W ls->StkU A (k::W) (l++ls)
theorem Unp.pos (h:Unp A k l):1<=l.length:=by
 induction h with
 |edge h1 h2=>simp
 |two h1 h2 h3 h4 h5 h6 _ _ i1 i2=>rw[List.length_append]; omega
theorem StkU.le (h:StkU A W ls):W.length<=ls.length:=by
 induction h with
 |nil=>simp
 |cons h1 _ ih=>have:=h1.pos; rw[List.length_append,List.length_cons]; omega
section
variable {A:List Ar} {N:Int} {sE sR sA sU sD:AV} {hb:Heap} {ox:Nat}
end
end Go.Gm.AQ
namespace Go.Gm.AQ
open Go Go.Gm
section
variable {D:List (List Int)} {acc:List Bool} {h0:Heap} {sD sA:AV} {od:Nat}
end
end Go.Gm.AQ
namespace Go.Gm.AQ
open Go Go.Gm
def FL (b:Nat)(oF:Nat)(sF:AV)(N:Nat)(X:Nat->List Int)(h:Heap):Prop:=
 ∃B:List AV,Gr oF (oF+1) h 1 sF (B.map one1)/\B.length=N/\Fam (λo=>b<=o) h 1 (λt:Nat=>t<N) (λt=>gi B (t:Int)) (λt=>(X t).map encI)
theorem FL.ext (f:FL b oF sF N X h)(e:Ext h h'):FL b oF sF N X h':=by
 obtain ⟨B,g,l,f⟩:=f
 exact ⟨B,g.ext e,l,f.frs (D:=λ_=>False) (FrS.ofExt e) λ_ _ _ z=>z⟩
theorem FL.add (f:FL b oF sF N X h)(hb:oF<b)(hbl:b<=h.length){v:Nat}(hv:v<N)(k:Int)(hl:(X v).length<=10000000000) :
  ∃s1 s2 h2 h3,idxS 1 sF (I v)=some (elP 1 sF v)/\Gm.ld1 h (elP 1 sF v)=some s1/\apnd 1 8 s1 (.sl h.length 0 1 1 none 0) (h++[AObj.cells ⟨[I k],0,0,false⟩])=some (s2,h2)/\s2.one=true/\s2.cells=[s2]/\stN 1 h2 (elP 1 sF v) s2=some h3/\
   FL b oF sF N (λt=>if t=v then X t++[k] else X t) h3/\FrS (λo=>b<=o) h h2/\FrS (λo=>o=oF\/b<=o) h h3/\h2.length=h3.length:=by
 obtain ⟨B,g,lB,fm⟩:=f
 have ld:=g.sl.ld0 (H:=h) (i:=(v:Int)) (Ext.refl _) oM oM oM
 replace ld:Gm.ld1 h (elP 1 sF (v:Int))=some (gi B (v:Int)):=ld
 have b1:Sl (h++[AObj.cells ⟨[I k],0,0,false⟩]) 1 (.sl h.length 0 1 1 none 0) [[I k]]:=by
  have:=(Gr.lit (h:=h) (sz:=1) (v:=[I k]) rfl).sl
  rwa [a3_] at this
 have e1:Ext h (h++[AObj.cells ⟨[I k],0,0,false⟩]):=Ext.push _ _
 have f':Fam (λo=>b<=o) (h++[AObj.cells ⟨[I k],0,0,false⟩]) 1 (λt:Nat=>t<N) (λt=>gi B (t:Int)) (λt=>(X t).map encI):=fm.frs (D:=λ_=>False) (FrS.ofExt e1) λ_ _ _ z=>z
 obtain ⟨s2,h2,k1,k2,k3,k4⟩:=f'.append (bytes:=8) (t:=v) hv b1 (by simp) oM oM (by simp; omega)
 have g2:=(g.ext e1).frs k4 λo z1 z2=>oM
 have c2:s2.cells=[s2]:=by
  have:=(k3.sl (t:=v) hv).cells
  simpa using this
 obtain ⟨h3,n1,n2,n3,n4⟩:=g2.write0 (i:=(v:Int)) (v:=s2) oM (by simp; omega) (by rw[c2]; rfl) (by rw[c2]; simp[k2])
 have hlq:=k4.len
 refine ⟨_,s2,h2,h3,g.sl.idxG oM oM,ld,k1,k2,c2,n1,?_,(FrS.ofExt e1).trans k4,?_,n4.symm⟩
 ·have f3:=k3.frs n3.s (λo z1 z2 z3=>by rcases z2 with z2|z2<;>simp only[List.length_append] at *<;>omega)
  refine ⟨B.set v s2,n2.cong (by rw[c2,Int.toNat_natCast,List.map_set]; rfl),by rw[List.length_set]; exact lB,(f3.mono λo z1 z2=>?_).congr λt ht'=>⟨?_,?_⟩⟩
  ·rcases z2 with z2|z2
   ·exact z2
   ·simp only[List.length_append] at z2; omega
  ·show gi (B.set v s2) (t:Int)=if t=v then s2 else gi B (t:Int)
   rw[giset2 oM]
  ·show (if t=v then X t++[k] else X t).map encI=if t=v then (X v).map encI++[[I k]] else (X t).map encI
   by_cases qt:t=v
   ·subst qt; simp[encI]
   ·rw[if_neg qt,if_neg qt]
 ·have z1:FrS (λo=>o=oF\/b<=o) h (h++[AObj.cells ⟨[I k],0,0,false⟩]):=FrS.ofExt e1
  exact (z1.trans (k4.mono λo _ z=>.inr z)).trans (n3.s.mono λo _ z=>.inl oM)
def allD (Dn:List (List Int))(n:Nat):List Int:=(List.range n).flatMap λ(u:Nat)=>gi Dn (u:Int)
def fallX (A:List Ar)(Z:List Int)(t:Nat):List Int:=Z.filter λk=>decide ((gi A k).fr=(t:Int))
structure WyV (h:Heap) (w:AV) (N:Nat) (es:List E) (A:List Ar) (Up Dn:List (List Int)) (D:List (List Int)) (acc:List Bool):Prop where
 ex:∃o sE sR sA sU sDn sD sAc sF us B,w=.ptr o 0 9 0/\h[o]?=some (.cells ⟨[I N,sE,sR,sA,sU,sDn,sD,sAc,sF],0,0,false⟩)/\Sl h 7 sA (A.map encA)/\Sl h 1 sU (us.map one1)/\us.length=N/\Sl h 5 sD (D.map encR)/\Sl h 1 sAc (acc.map encB)/\Sl h 1 sF (B.map one1)/\B.length=N/\
  (∀v:Int,0<=v->v<N->Sl h 1 (gi us v) ((gi Up v).map encI))/\(∀v:Nat,v<N->Sl h 1 (gi B (v:Int)) ((fallX A (allD Dn N) v).map encI))
theorem WyV.ext (x:WyV h w N es A Up Dn D acc)(e:Ext h h'):WyV h' w N es A Up Dn D acc:=by
 obtain ⟨o,sE,sR,sA,sU,sDn,sD,sAc,sF,us,B,h1,h2,h3,h4,h5,h6,h7,h8,h9,h10,h11⟩:=x.ex
 exact ⟨o,sE,sR,sA,sU,sDn,sD,sAc,sF,us,B,h1,e.get h2,h3.ext e,h4.ext e,h5,h6.ext e,h7.ext e,h8.ext e,h9,λv v0 v1=>(h10 v v0 v1).ext e,λv hv=>(h11 v hv).ext e⟩
section
variable {h0:Heap} {N LL:Nat} {es:List E} {A:List Ar} {Up Dn:List (List Int)} {sE sR sA sU sDn sD sAc sF:AV} {ds:List AV}
end
end Go.Gm.AQ
namespace Go.Gm.AQ
open Go Go.Gm
structure WyV2 (b:Heap) (c0:Nat) (h:Heap) (w:AV) (N:Nat) (es:List E) (A:List Ar) (Up Dn:List (List Int)) (D:List (List Int)) (acc:List Bool):Prop where
 eb:Ext b h
 ex:∃o oF sE sR sA sU sDn sD sAc sF us B,w=.ptr o 0 9 0/\h[o]?=some (.cells ⟨[I N,sE,sR,sA,sU,sDn,sD,sAc,sF],0,0,false⟩)/\c0<=o/\Sl b 7 sA (A.map encA)/\Sl b 1 sU (us.map one1)/\us.length=N/\Sl b 5 sD (D.map encR)/\Sl b 1 sAc (acc.map encB)/\Gr oF (oF+1) h 1 sF (B.map one1)/\c0<=oF/\B.length=N/\
  (∀v:Int,0<=v->v<N->Sl b 1 (gi us v) ((gi Up v).map encI))/\Fam (λo=>c0<=o) h 1 (λt:Nat=>t<N) (λt=>gi B (t:Int)) (λt=>(fallX A (allD Dn N) t).map encI)
theorem WyV2.wy (x:WyV2 b c0 h w N es A Up Dn D acc):WyV h w N es A Up Dn D acc:=by
 obtain ⟨o,oF,sE,sR,sA,sU,sDn,sD,sAc,sF,us,B,h1,h2,_,h3,h4,h5,h6,h7,h8,_,h9,h10,h11⟩:=x.ex
 exact ⟨o,sE,sR,sA,sU,sDn,sD,sAc,sF,us,B,h1,h2,h3.ext x.eb,h4.ext x.eb,h5,h6.ext x.eb,h7.ext x.eb,h8.sl,h9,λv v0 v1=>(h10 v v0 v1).ext x.eb,λv hv=>h11.sl hv⟩
theorem WyV2.frs (x:WyV2 b c0 h w N es A Up Dn D acc)(f:FrS P h h')(hP:∀o,o<h.length->P o->b.length<=o/\o<c0):WyV2 b c0 h' w N es A Up Dn D acc:=by
 obtain ⟨o,oF,sE,sR,sA,sU,sDn,sD,sAc,sF,us,B,h1,h2,ho,h3,h4,h5,h6,h7,h8,hF,h9,h10,h11⟩:=x.ex
 have lo:o<h.length:=(List.getElem?_eq_some_iff.1 h2).1
 have lb:=x.eb.len
 refine ⟨f.ext x.eb λp hp z=>by have:=hP p oM z; omega,o,oF,sE,sR,sA,sU,sDn,sD,sAc,sF,us,B,h1,by rw[f.get (λz=>by have:=hP o lo z; omega) lo]; exact h2,ho,h3,h4,h5,h6,h7,?_,hF,h9,h10,h11.frs f λp hp q z=>by have:=hP p hp z; omega⟩
 by_cases q:sF=.nils
 ·subst q
  have:=h8.isNil
  rw[this]
  exact Gr.nil ..
 ·obtain ⟨oo,po,g'⟩:=h8.point
  have:=po q
  exact h8.frs f λp p1 p2 z=>by have:=hP p oM z; omega
section
variable {h:Heap} {N LL:Nat} {es:List E} {A:List Ar} {Up Dn:List (List Int)} {D:List (List Int)} {acc:List Bool} {x w sD sAc:AV}
end
end Go.Gm.AQ
namespace Go.Gm.AQ
open Go Go.Gm
structure SchW (W:Nat->Prop) (h:Heap) (os:Nat) (wy q sc se sf:AV) (oc oe ov:Nat) (n:Nat) (cs ds fs:List Int) (M:List (Option Int)):Prop where
 row:h[os]?=some (.cells ⟨[wy,q,sc,se,sf],0,0,false⟩)
 gc:Gr oc (oc+1) h 1 sc (cs.map encI)
 ge:Gr oe (oe+1) h 1 se (ds.map encI)
 gf:Gr ov (ov+1) h 1 sf (fs.map encI)
 lc:cs.length=n
 le:ds.length=n
 lf:fs.length=n
 o1:oc<oe
 o2:oe<ov
 o3:ov<os
 wc:W oc
 we:W oe
 wv:W ov
 ws:W os
 qv:SQ (λo=>W o/\o≠oc/\o≠oe/\o≠ov/\o≠os) h q n M
section
variable {W:Nat->Prop} {h h':Heap} {os oc oe ov n:Nat} {wy q sc se sf:AV} {cs ds fs:List Int} {M:List (Option Int)}
theorem SchW.os_lt (w:SchW W h os wy q sc se sf oc oe ov n cs ds fs M):os<h.length:=(List.getElem?_eq_some_iff.1 w.row).1
theorem SchW.frs (w:SchW W h os wy q sc se sf oc oe ov n cs ds fs M)(f:FrS D h h')(hd:∀o,o<h.length->W o->¬D o):SchW W h' os wy q sc se sf oc oe ov n cs ds fs M:=by
 have h1:=w.os_lt
 have:=w.o1
 have:=w.o2
 have:=w.o3
 refine ⟨by rw[f.get (hd _ h1 w.ws) h1]; exact w.row,w.gc.frs f λo q1 q2=>?_,w.ge.frs f λo q1 q2=>?_,w.gf.frs f λo q1 q2=>?_,w.lc,w.le,w.lf,w.o1,w.o2,w.o3,w.wc,w.we,w.wv,w.ws,w.qv.frs f λo q1 q2=>hd o q1 q2.1⟩
 ·rw[show o=oc by omega]; exact hd _ oM w.wc
 ·rw[show o=oe by omega]; exact hd _ oM w.we
 ·rw[show o=ov by omega]; exact hd _ oM w.wv
theorem SchW.ext (w:SchW W h os wy q sc se sf oc oe ov n cs ds fs M)(e:Ext h h'):SchW W h' os wy q sc se sf oc oe ov n cs ds fs M:=w.frs (D:=λ_=>False) (FrS.ofExt e) λ_ _ _ z=>z
theorem SchW.mono (w:SchW W h os wy q sc se sf oc oe ov n cs ds fs M){W':Nat->Prop}(hw:∀o,o<h.length->W o->W' o):SchW W' h os wy q sc se sf oc oe ov n cs ds fs M:=by
 have h1:=w.os_lt
 have:=w.o1
 have:=w.o2
 have:=w.o3
 refine ⟨w.row,w.gc,w.ge,w.gf,w.lc,w.le,w.lf,w.o1,w.o2,w.o3,hw _ oM w.wc,hw _ oM w.we,hw _ oM w.wv,hw _ h1 w.ws,?_⟩
 obtain ⟨Wq,q1,q2⟩:=w.qv
 exact ⟨Wq,λo z=>⟨⟨hw o (q1 o z).2 (q1 o z).1.1,(q1 o z).1.2⟩,(q1 o z).2⟩,q2⟩
theorem SchW.setC (w:SchW W h os wy q sc se sf oc oe ov n cs ds fs M){y:Nat}(hy:y<n)(v:Int) :
  ∃h',stN 1 h (elP 1 sc y) (I v)=some h'/\SchW W h' os wy q sc se sf oc oe ov n (cs.set y v) ds fs M/\FrS (λo=>o=oc) h h':=by
 have:=w.o1
 have:=w.o2
 have:=w.o3
 obtain ⟨h',k1,k2,k3,k4⟩:=w.gc.write0 (i:=(y:Int)) (v:=I v) oM (by rw[List.length_map,w.lc]; omega) rfl rfl
 have f:FrS (λo=>o=oc) h h':=k3.s.mono λo z1 z2=>oM
 refine ⟨h',k1,⟨by rw[f.get oM w.os_lt]; exact w.row,k2.cong ?_,w.ge.frs f λo z1 z2=>oM,w.gf.frs f λo z1 z2=>oM,by rw[List.length_set]; exact w.lc,w.le,w.lf,w.o1,w.o2,w.o3,w.wc,w.we,w.wv,w.ws,w.qv.frs f λo z1 z2=>z2.2.1⟩,f⟩
 rw[List.map_set]; simp[encI]; rfl
theorem SchW.setE (w:SchW W h os wy q sc se sf oc oe ov n cs ds fs M){y:Nat}(hy:y<n)(v:Int) :
  ∃h',stN 1 h (elP 1 se y) (I v)=some h'/\SchW W h' os wy q sc se sf oc oe ov n cs (ds.set y v) fs M/\FrS (λo=>o=oe) h h':=by
 have:=w.o1
 have:=w.o2
 have:=w.o3
 obtain ⟨h',k1,k2,k3,k4⟩:=w.ge.write0 (i:=(y:Int)) (v:=I v) oM (by rw[List.length_map,w.le]; omega) rfl rfl
 have f:FrS (λo=>o=oe) h h':=k3.s.mono λo z1 z2=>oM
 refine ⟨h',k1,⟨by rw[f.get oM w.os_lt]; exact w.row,w.gc.frs f λo z1 z2=>oM,k2.cong ?_,w.gf.frs f λo z1 z2=>oM,w.lc,by rw[List.length_set]; exact w.le,w.lf,w.o1,w.o2,w.o3,w.wc,w.we,w.wv,w.ws,w.qv.frs f λo z1 z2=>z2.2.2.1⟩,f⟩
 rw[List.map_set]; simp[encI]; rfl
theorem SchW.setF (w:SchW W h os wy q sc se sf oc oe ov n cs ds fs M){y:Nat}(hy:y<n)(v:Int) :
  ∃h',stN 1 h (elP 1 sf y) (I v)=some h'/\SchW W h' os wy q sc se sf oc oe ov n cs ds (fs.set y v) M/\FrS (λo=>o=ov) h h':=by
 have:=w.o1
 have:=w.o2
 have:=w.o3
 obtain ⟨h',k1,k2,k3,k4⟩:=w.gf.write0 (i:=(y:Int)) (v:=I v) oM (by rw[List.length_map,w.lf]; omega) rfl rfl
 have f:FrS (λo=>o=ov) h h':=k3.s.mono λo z1 z2=>oM
 refine ⟨h',k1,⟨by rw[f.get oM w.os_lt]; exact w.row,w.gc.frs f λo z1 z2=>oM,w.ge.frs f λo z1 z2=>oM,k2.cong ?_,w.lc,w.le,by rw[List.length_set]; exact w.lf,w.o1,w.o2,w.o3,w.wc,w.we,w.wv,w.ws,w.qv.frs f λo z1 z2=>z2.2.2.2.1⟩,f⟩
 rw[List.map_set]; simp[encI]; rfl
theorem SchW.q' (w:SchW W h os wy q sc se sf oc oe ov n cs ds fs M)(f:FrS D h h')(hd:∀o,D o->o≠oc/\o≠oe/\o≠ov/\o≠os)(v:SQ (λo=>W o/\o≠oc/\o≠oe/\o≠ov/\o≠os) h' q n M'):SchW W h' os wy q sc se sf oc oe ov n cs ds fs M':=by
 refine ⟨by rw[f.get (λz=>(hd _ z).2.2.2 rfl) w.os_lt]; exact w.row,w.gc.frs f λo q1 q2 z=>(hd o z).1 oM,w.ge.frs f λo q1 q2 z=>(hd o z).2.1 oM,w.gf.frs f λo q1 q2 z=>(hd o z).2.2.1 oM,w.lc,w.le,w.lf,w.o1,w.o2,w.o3,w.wc,w.we,w.wv,w.ws,v⟩
end
section
variable {h0 h:Heap} {wp:AV} {N LL:Nat} {es:List E} {A:List Ar} {Up Dn:List (List Int)} {D:List (List Int)} {acc:List Bool}
end
end Go.Gm.AQ
namespace Go.Gm.AQ
open Go Go.Gm
section
variable {h0 h:Heap} {wp:AV} {N LL:Nat} {es:List E} {A:List Ar} {Up Dn:List (List Int)} {D:List (List Int)} {acc:List Bool}
end
end Go.Gm.AQ
namespace Go.Gm.AQ
open Go Go.Gm
section
variable {h0 h:Heap} {wp:AV} {N LL:Nat} {es:List E} {A:List Ar} {Up Dn:List (List Int)} {D:List (List Int)} {acc:List Bool}
end
end Go.Gm.AQ
namespace Go.Gm.AQ
open Go Go.Gm
section
variable {h0 h:Heap} {wp:AV} {N LL:Nat} {es:List E} {A:List Ar} {Up Dn:List (List Int)} {D:List (List Int)} {acc:List Bool}
end
end Go.Gm.AQ
namespace Go.Gm.AQ
open Go Go.Gm
def QB (c:Nat->Int)(P:Nat->Prop)(out:Int):Prop:=(out = -1/\∀x,P x->¬0<=c x)\/∃y:Nat,out=(y:Int)/\P y/\0<=c y/\∀x,P x->0<=c x->c y<=c x
theorem QB.skip (b:QB c P out)(h:¬(0<=c i/\(out<0\/c i<c out.toNat))):QB c (λx=>P x\/x=i) out:=by
 rcases b with ⟨h1,h2⟩|⟨y,h1,h2,h3,h4⟩
 ·refine .inl ⟨h1,λx hx=>hx.elim (h2 x) λq hc=>h ⟨q▸hc,.inl oM⟩⟩
 ·refine .inr ⟨y,h1,.inl h2,h3,λx hx hc=>hx.elim (λz=>h4 x z hc) λq=>?_⟩
  subst q
  have h5:c out.toNat=c y:=by rw[h1,Int.toNat_natCast]
  by_cases q:c x<c y
  ·exact absurd ⟨hc,.inr oM⟩ h
  ·omega
theorem QB.take (b:QB c P out)(h1:0<=c i)(h2:out<0\/c i<c out.toNat):QB c (λx=>P x\/x=i) (i:Int):=by
 refine .inr ⟨i,rfl,.inr rfl,h1,λx hx hc=>hx.elim (λz=>?_) λq=>by subst q; exact Int.le_refl _⟩
 rcases b with ⟨b1,b2⟩|⟨y,b1,b2,b3,b4⟩
 ·exact absurd hc (b2 x z)
 ·have h5:c out.toNat=c y:=by rw[b1,Int.toNat_natCast]
  have:=b4 x z hc
  rcases h2 with h2|h2<;>omega
theorem QB.bnd (b:QB c P out){n:Nat}(hP:∀x,P x->x<n):-1<=out/\out<n:=by
 rcases b with ⟨h1,h2⟩|⟨y,h1,h2,h3,h4⟩
 ·omega
 ·have:=hP y h2; omega
section
variable {hb h:Heap} {wp:AV} {N:Nat} {es:List E} {A:List Ar} {Up Dn:List (List Int)} {D:List (List Int)} {acc:List Bool}
end
end Go.Gm.AQ
namespace Go.Gm.AQ
open Go Go.Gm
section
variable {N LL:Nat} {es:List E} {A:List Ar} {Up Dn:List (List Int)} {D:List (List Int)} {acc:List Bool}
end
end Go.Gm.AQ
namespace Go.Gm.AQ
open Go Go.Gm
inductive Chn (Ah:Nat->List Hop):Nat->List Nat->Int->Nat->Prop
 |nil {x:Nat}:Chn Ah x [] 0 x
 |cons {x y z k:Nat} {ks:List Nat} {w c:Int}:(y,k,w)∈Ah x->Chn Ah y ks c z->Chn Ah x (k::ks) (w+c) z
inductive UnpL (A:List Ar) (LL:Nat):List Nat->List Nat->Prop
 |nil:UnpL A LL [] []
 |cons {k:Nat} {ks l ls:List Nat}:k<A.length->Unp A k l->l.length<=LL->UnpL A LL ks ls->UnpL A LL (k::ks) (l++ls)
theorem UnpL.len (h:UnpL A LL ks ls):ls.length<=ks.length*LL:=by
 induction h with
 |nil=>simp
 |cons _ _ h2 _ ih=>rw[List.length_append,List.length_cons,Nat.succ_mul]; omega
section
variable {N LL:Nat} {es:List E} {A:List Ar} {Up Dn:List (List Int)} {D:List (List Int)} {acc:List Bool}
end
section
variable {h0 hb:Heap} {wp:AV} {N LL:Nat} {es:List E} {A:List Ar} {Up Dn:List (List Int)} {D:List (List Int)} {acc:List Bool}
end
end Go.Gm.AQ
namespace Go.Gm.AQ
open Go Go.Gm
section
variable {b0:Heap} {A:List Ar} {LL N:Nat} {sE sR sA sU sDn:AV} {ox ot:Nat} {ks:List Nat} {cost:Int}
end
end Go.Gm.AQ
namespace Go.Gm.AQ
open Go Go.Gm
section
variable {h:Heap} {N:Nat} {es:List E} {A:List Ar} {Up Dn:List (List Int)} {D:List (List Int)} {acc:List Bool} {x sD sAc:AV}
end
end Go.Gm.AQ
namespace Go.Gm.AQ
open Go Go.Gm
section
variable {N LL:Nat} {es:List E} {A:List Ar} {Up Dn:List (List Int)} {D:List (List Int)} {acc:List Bool} {sD sAc:AV}
def ManyQ (es:List E)(D:List (List Int))(acc:List Bool)(v:Nat)(ts bs:List Int):Prop:=∀i:Nat,i<bs.length->LW es v (gi ts i) (λw=>gi acc (goS D 0 w)=true) (gi bs i)
theorem ManyQ.snoc (m:ManyQ es D acc v ts bs)(h:LW es v (gi ts bs.length) (λw=>gi acc (goS D 0 w)=true) b):ManyQ es D acc v ts (bs++[b]):=by
 intro i hi
 rw[List.length_append,List.length_singleton] at hi
 by_cases q:i<bs.length
 ·rw[a3h oM oM]; exact m i q
 ·obtain rfl:i=bs.length:=oM
  rw[a6R]; exact h
theorem app1I {bs:List Int}(g:Gr oc (oc+1) h 1 out (bs.map encI))(ho:out≠.nils->oc<h.length)(hl:bs.length<=1000000000)(b:Int) :
  ∃s' h' o',apnd 1 8 out (.sl h.length 0 1 1 none 0) (h++[AObj.cells ⟨[I b],0,0,false⟩])=some (s',h')/\Gr o' (o'+1) h' 1 s' ((bs++[b]).map encI)/\(s'≠.nils->((o'=oc/\out≠.nils)\/h.length<=o')/\o'<h'.length)/\FrS (λp=>out≠.nils/\p=oc) h h':=by
 have b0:=Gr.lit (h:=h) (sz:=1) (v:=[I b]) rfl
 rw[a3_] at b0
 have e1:Ext h (h++[AObj.cells ⟨[I b],0,0,false⟩]):=Ext.push _ _
 obtain ⟨s',h',o',q1,q2,q3,q4⟩:=(g.ext e1).appP (λz=>by have:=ho z; simp; omega) b0.sl oM (bytes:=8) oM (by simp; omega)
 refine ⟨s',h',o',q1,q2.cong (by simp[encI]),λz=>⟨?_,(q3 z).2⟩,(FrS.ofExt e1).trans q4⟩
 rcases (q3 z).1 with h1|h1
 ·exact .inl h1
 ·right; simp at h1; omega
end
section
variable {h:Heap} {N:Nat} {es:List E} {A:List Ar} {Up Dn:List (List Int)} {D:List (List Int)} {acc:List Bool} {x sD sAc tA:AV}
end
end Go.Gm.AQ
