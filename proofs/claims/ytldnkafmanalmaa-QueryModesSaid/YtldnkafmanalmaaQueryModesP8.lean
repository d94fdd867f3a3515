/- A part of the proof (GmAQsc, GmAQsd, GmAQse, GmAQsf, GmAQsg, GmPr, GmAQpa, GmAQpb, GmAQpc). -/
import Derived.Test.YtldnkafmanalmaaQueryModesP7
set_option linter.unusedVariables false
set_option linter.unusedSimpArgs false
set_option linter.unusedSectionVars false
namespace Go.Gm.AQ
open Go Go.Gm
section
variable {nf:NF} {sS sF:AV}
theorem c0u {W2:Nat->Prop}{hb h2 hr:Heap}{oo orr s:Nat}{out rows:AV}(ok:NfOk nf)(hn:nf.n<=1000)(hlf:nf.fr.length<=100000)(hs:∀q,s.testBit q=true->q<nf.n)(rw0:RwI W2 h2 orr rows nf.n (outs nf.fr) hr)(e2:Ext hb h2)(ho2:oo<h2.length/\oo≠orr/\orr<h2.length){l0:AV}{ol0:Nat}(hl0:l0≠.nils->ol0<h2.length/\ol0≠orr){Q:AV->Heap->Prop}(hQ:∀h,FrS (fun o=>o=oo\/(l0≠.nils/\o=ol0)\/hr.length<=o) hr h->Gr oo (oo+1) h 1 out ((bits nf.n (cloF nf.n nf.fr s)).map encB)->Q out h) :
  ∀(d i:Nat) (h:Heap) (bs:List Bool) (L:List Nat) (l:AV) (ol:Nat),i+d=nf.n->i<=L.length->FrS (fun o=>o=oo\/(l0≠.nils/\o=ol0)\/hr.length<=o) hr h->Gr oo (oo+1) h 1 out (bs.map encB)->Gr ol (ol+1) h 1 l (L.map encN')->(l≠.nils->((l0≠.nils/\ol=ol0)\/hr.length<=ol)/\ol<h.length/\ol≠oo)->CL nf.n nf.fr s bs L->
   (∀(k:Nat) x,k<i->L[k]?=some x->∀q,(x,q)∈nf.fr->gi bs (q:Int)=true)->
   WP (fun p:Nat × Nat=>v9_ p.1 p.2 out l rows (I i) h) Q:=by
 have fin:∀(i:Nat) (h:Heap) (bs:List Bool) (L:List Nat) (l:AV) (ol:Nat),i=L.length->FrS (fun o=>o=oo\/(l0≠.nils/\o=ol0)\/hr.length<=o) hr h->Gr oo (oo+1) h 1 out (bs.map encB)->CL nf.n nf.fr s bs L->(∀(k:Nat) x,k<i->L[k]?=some x->∀q,(x,q)∈nf.fr->gi bs (q:Int)=true)->Q out h:=by
  intro i h bs L l ol hi f go cl hd
  have:=cl.done (fun f hf=>(ok.fr f hf).2) hs fun p hp q hq=>by
   obtain ⟨k,hk⟩:=b2A hp
   exact hd k p (by have:=(List.getElem?_eq_some_iff.1 hk).1; omega) hk q hq
  rw[this] at go
  exact hQ h f go
 intro d
 induction d with
 |zero=>
  intro i h bs L l ol hi hiL f go gl lh cl hd
  refine WP.rnd (fun i' j=>a2Z i' j out l rows (I i) h) ?_
  have hle:=cl.le
  have hli:i=L.length:=oM
  refine g1 gl.sl.lenG ?_
  exact WP.ret (fin i h bs L l ol hli f go cl hd)
 |succ d ih=>
  intro i h bs L l ol hi hiL f go gl lh cl hd
  refine WP.rnd (fun i' j=>a2Z i' j out l rows (I i) h) ?_
  have hle:=cl.le
  by_cases q:i=L.length
  ·refine g1 gl.sl.lenG ?_
   exact WP.ret (fin i h bs L l ol q f go cl hd)
  ·obtain ⟨p,hp⟩:∃p,L[i]?=some p:=⟨L[i],List.getElem?_eq_getElem oM⟩
   refine g1 gl.sl.lenG ?_
   refine WP.ent (c0t ok hn hlf hs rw0 e2 ho2 hl0 (fun h' bs' L' l' ol' f' go' gl' lh' cl' hi' hp' hd' hold'=>?_) (outs nf.fr p).length 0 h bs L l ol oM f go gl lh cl hp (fun q hq=>by simp at hq) hd) fun i=>rfl
   refine WP.congr (fun p=>a7Q p.1 p.2 out l' rows (I i) h') ?_
   have:=cl'.le
   refine g0 ?_
   refine ih (i+1) h' bs' L' l' ol' oM hi' f' go' gl' lh' cl' fun k x hk hx y hy=>?_
   by_cases z:k=i
   ·subst z
    rw[hp'] at hx
    injection hx with hx
    subst hx
    exact hd' y hy
   ·exact hold' k x oM hx y hy
theorem c0v {hb h2:Heap}{on orr:Nat}{out l rows:AV}(v:NfV hb nf sS sF)(e2:Ext hb h2)(ho2:orr<h2.length)(hor:hb.length<=orr)(rn:hb[on]?=some (.cells ⟨nfC nf sS sF,0,0,false⟩)){Q:AV->Heap->Prop}(hQ:∀h W,RwI W h2 orr rows nf.n (outs nf.fr) h->WP (fun k:Nat=>a1o k out l rows h) Q) :
  ∀(d i:Nat) (h:Heap) (W:Nat->Prop),i+d=nf.fr.length->RwI W h2 orr rows nf.n (outs (nf.fr.take i)) h->
   WP (fun p:Nat × Nat=>v8_ p.1 p.2 (.ptr on 0 5 0) out l rows (I i) h) Q:=by
 have ok:=v.ok
 have hlf:=v.lf
 intro d
 induction d with
 |zero=>
  intro i h W hi r
  refine WP.rnd (fun i' j=>a3a i' j (.ptr on 0 5 0) out l rows (I i) h) ?_
  have eh:Ext hb h:=by
   obtain ⟨B,_,_,_,_,fr⟩:=r
   exact fr.ext e2 fun o z1 z2=>by have:=e2.len; omega
  have rn1:=eh.get rn
  have sl:=(v.ext eh).f.lenG
  rw[List.take_of_length_le oM] at r
  refine g2 @rn1 @sl ?_
  exact WP.lv (hQ h W r) fun i j=>rfl
 |succ d ih=>
  intro i h W hi r
  refine WP.rnd (fun i' j=>a3a i' j (.ptr on 0 5 0) out l rows (I i) h) ?_
  have frr:FrS (fun o=>o=orr\/h2.length<=o) h2 h:=by obtain ⟨B,_,_,_,_,fr⟩:=r; exact fr
  have eh:Ext hb h:=frr.ext e2 fun o z1 z2=>by have:=e2.len; omega
  have rn1:=eh.get rn
  have sf:=(v.ext eh).f
  have sl:=sf.lenG
  obtain ⟨f,hf⟩:∃f,nf.fr[i]?=some f:=⟨nf.fr[i],List.getElem?_eq_getElem oM⟩
  have gf':gi nf.fr (i:Int)=f:=by rw[b2_ oM]; rw[List.getElem?_eq_getElem oM] at hf; injection hf
  obtain ⟨f1,f2⟩:=ok.fr f (List.mem_of_getElem? hf)
  obtain ⟨h3,hh3⟩:∃h3,h3=((h++[AObj.cells ⟨[I 0,I 0],0,0,false⟩]).set h.length (.cells ⟨[I f.1,I f.2],0,0,false⟩)):=⟨_,rfl⟩
  have e3:Ext h h3:=by rw[hh3]; exact eX
  have r3:h3[h.length]?=some (.cells ⟨[I f.1,I f.2],0,0,false⟩):=by rw[hh3]; exact a0_ (by simp)
  have l3:h3.length=h.length+1:=by rw[hh3]; simp
  have hlen:=frr.len
  have rr3:RwI (fun o=>W o/\o<h.length) h2 orr rows nf.n (outs (nf.fr.take i)) h3:=by
   obtain ⟨B,g,lB,fm,hW,fr⟩:=r
   exact ⟨B,g.ext e3,lB,(fm.mono fun o z1 z2=>⟨z2,z1⟩).frs (D:=fun _=>False) (FrS.ofExt e3) fun _ _ _ z=>z,fun o z=>hW o z.1,fr.trans (FrS.ofExt e3)⟩
  have hol:=b6J (nf.fr.take i) f.1
  rw[List.length_take] at hol
  obtain ⟨s1,s2,h4,h5,k1,k2,k3,k4,k5,k6⟩:=rr3.step ho2 f1 f.2 oM
  rw[l3] at k3
  have k1':=k1 h3 (Ext.refl _)
  have b5:=(List.getElem?_eq_some_iff.1 r3).1
  have r4:h4[h.length]?=some (.cells ⟨[I f.1,I f.2],0,0,false⟩):=by
   rw[k6.get (fun z=>oM) b5]; exact r3
  have i0:idxA 2 1 (.ptr h.length 0 2 0) (.int .i64 0)=some (.ptr h.length 0 1 0):=by simp[idxA]
  have i1:idxA 2 1 (.ptr h.length 0 2 0) (.int .i64 1)=some (.ptr h.length 1 2 0):=by simp[idxA]
  have k4':stN 1 h4 (elP 1 rows f.1) s2=some h5:=k4
  refine g8 @rn1 @sl sf.idxG sf.ldN @gf' @encF.eq_1 @i0 @i1 ?_
  rw[show AV.int .i64 0=I 0 from rfl,<-hh3]
  refine g6 @r3 @k2 @k1' @k3 @r4 @k4' ?_
  refine ih (i+1) h5 (fun o=>(W o/\o<h.length)\/h3.length<=o) oM ?_
  have e:(fun t'=>if t'=f.1 then outs (nf.fr.take i) f.1++[f.2] else outs (nf.fr.take i) t')=outs (nf.fr.take (i+1)):=by
   funext t
   rw[b2y hf,c0s]
   by_cases z:t=f.1
   ·rw[if_pos z,if_pos z.symm,z]
   ·rw[if_neg z,if_neg (fun y=>z y.symm),List.append_nil]
  rw[e] at k5
  exact k5
theorem c0w {hb h1:Heap}{on oo s:Nat}{out:AV}(v:NfV hb nf sS sF)(e1:Ext hb h1)(hoo:hb.length<=oo/\oo<h1.length)(rn:hb[on]?=some (.cells ⟨nfC nf sS sF,0,0,false⟩))(go:Gr oo (oo+1) h1 1 out ((bits nf.n s).map encB))(hs:∀q,s.testBit q=true->q<nf.n) :
  ∀(d i:Nat) (h:Heap) (l:AV),i+d=nf.n->Ext h1 h->Gr h1.length h.length h 1 l ((onF (bits nf.n s) i).map encN')->
   WP (fun p:Nat × Nat=>n7_ p.1 p.2 (.ptr on 0 5 0) out l (I i) h) fun r h'=>Ext hb h'/\Gr hb.length h'.length h' 1 r ((bits nf.n (cloF nf.n nf.fr s)).map encB):=by
 have hn:=v.n0
 have lb:=a4i nf.n s
 intro d
 induction d with
 |zero=>
  intro i h l hi e gl
  refine WP.rnd (fun i' j=>a3b i' j (.ptr on 0 5 0) out l (I i) h) ?_
  have goh:=go.ext e
  have l1:=e1.len
  have l2:=e.len
  obtain rfl:i=nf.n:=oM
  refine g2 goh.sl.lenG @lb ?_
  refine WP.lv (WP.congr (fun k:Nat=>a7S k (.ptr on 0 5 0) out l h) ?_) fun i j=>rfl
  have rn1:=(e1.trans e).get rn
  obtain ⟨s2,h2,a2,g2,e2,_,l3⟩:=g0_ (zero:=[AV.nils]) (sz:=1) (bytes:=24) (n:=(nf.n:Int)) h oM oM oM rfl rfl
  have r0:RwI (fun o=>h2.length<=o) h2 h.length s2 nf.n (outs (nf.fr.take 0)) h2:=by
   refine ⟨List.replicate nf.n .nils,g2.cong (by simp),by simp,Fam.nil _ _ _ fun t ht=>⟨w2_ oM oM,by simp[outs]⟩,fun o z=>z,FrS.refl _ _⟩
  simp -implicitDefEqProofs (disch:=first|assumption|omega|(simp only[gL,gA]<;>omega)|fail) only[gC,reduceIte,rn1,a2]
  refine WP.ent (c0v v ((e1.trans e).trans e2) (by omega) (by omega) rn (fun h3 W3 r3=>?_) nf.fr.length 0 h2 _ (by omega) r0) fun i=>rfl
  refine WP.congr (fun k:Nat=>a7R k out l s2 h3) ?_
  obtain ⟨ol,g1,g3⟩:=gl.point
  have fr3:FrS (fun o=>o=h.length\/h2.length<=o) h2 h3:=by obtain ⟨B,_,_,_,_,fr⟩:=r3; exact fr
  have l4:=fr3.len
  have go3:=(goh.ext e2).frs fr3 fun o z1 z2 z3=>oM
  have gl3:=t6_ (g3.ext e2) fr3 fun z1 z2=>by have:=g1 z1; omega
  have eh3:Ext hb h3:=fr3.ext ((e1.trans e).trans e2) fun o z1 z2=>oM
  refine WP.ent (c0u v.ok hn v.lf hs r3 ((e1.trans e).trans e2) ⟨oM,oM,oM⟩ (l0:=l) (ol0:=ol) (fun z=>by have:=g1 z; omega) (fun h4 f4 g4=>⟨f4.ext eh3 fun o z1 z2=>?_,?_⟩) nf.n 0 h3 (bits nf.n s) (onF (bits nf.n s) nf.n) l ol oM oM (FrS.refl _ _) go3 gl3 (fun z=>by have:=g1 z; exact ⟨.inl ⟨z,rfl⟩,oM,oM⟩) CL.zero fun k x hk=>oM) fun i=>rfl
  ·rcases z2 with z2|z2|z2
   ·omega
   ·have:=g1 z2.1; omega
   ·omega
  ·have:=f4.len
   exact (g4.low _ (Nat.le_refl _)).mono hoo.1 (Nat.le_refl _)
 |succ d ih=>
  intro i h l hi e gl
  refine WP.rnd (fun i' j=>a3b i' j (.ptr on 0 5 0) out l (I i) h) ?_
  have goh:=go.ext e
  have l2:=e.len
  have hol:=c3P (bits nf.n s) i
  obtain ⟨b,hb'⟩:∃b,gi (bits nf.n s) (i:Int)=b:=⟨_,rfl⟩
  cases b with
  |true=>
   obtain ⟨s',h',q1,q2,q3⟩:=Gr.append1 (bytes:=8) gl (v:=encN' i) rfl oM oM (by simp; omega) oM (Nat.le_refl _)
   rw[a3_] at q1
   simp only[encN'] at q1
   refine g7 goh.sl.lenG @lb goh.sl.idxG goh.sl.ld0 @hb' @encB.eq_1 @q1 ?_
   refine ih (i+1) h' s' oM (q3.ext e (Nat.le_refl _)) (q2.cong ?_)
   rw[b3z,if_pos hb',List.map_append]; rfl
  |false=>
   refine g6 goh.sl.lenG @lb goh.sl.idxG goh.sl.ld0 @hb' @encB.eq_1 ?_
   refine ih (i+1) h l oM e (gl.cong ?_)
   rw[b3z,if_neg (by rw[hb']; simp),List.append_nil]
theorem b3b {h:Heap}{is:AV}{s:Nat}(v:NfV h nf sS sF)(hi:Sl h 1 is ((bits nf.n s).map encB))(hs:∀q,s.testBit q=true->q<nf.n) :
  Tot tab c3_ [.agg (nfC nf sS sF),is] h fun r h'=>Ext h h'/\Gr h.length h'.length h' 1 r ((bits nf.n (cloF nf.n nf.fr s)).map encB):=by
 refine WP.tot (fun k=>a9E k _ _ h) ?_
 have hn:=v.n0
 have lb:=a4i nf.n s
 have ss:=v.s.one
 have sf:=v.f.one
 obtain ⟨h1,hh1⟩:∃h1,h1=h++[AObj.cells ⟨nfC nf sS sF,0,0,false⟩]:=⟨_,rfl⟩
 have e1:Ext h h1:=by rw[hh1]; exact Ext.push _ _
 have l1:h1.length=h.length+1:=by rw[hh1]; simp
 have rn:h1[h.length]?=some (.cells ⟨nfC nf sS sF,0,0,false⟩):=by rw[hh1]; simp
 have e2:Ext h1 (mkObj h1 []):=Ext.push _ _
 have ge:=Gr.empty h1 1
 rw[a3_] at e2 ge
 have ll:(h1++[AObj.cells ⟨[],0,0,false⟩]).length=h1.length+1:=by simp
 obtain ⟨s',h3,q1,q2,q3,q4⟩:=ge.appendS (bytes:=1) ((hi.ext e1).ext e2) oM oM (by simp[lb]; omega) oM oM
 have q5:=(q4 (by simp)).1
 rw[List.nil_append] at q5
 have l3:=q3.len
 have e3:Ext h1 h3:=q3.ext e2 (Nat.le_refl _)
 rw[l1] at q1
 refine g2 @ss @sf ?_
 rw[<-hh1]
 refine g1 @q1 ?_
 refine WP.ent ((c0w (v.ext e1) e3 ⟨Nat.le_refl _,oM⟩ rn q5 hs nf.n 0 h3 .nils oM (Ext.refl _) (Gr.nil ..)).mono ?_) fun i=>rfl
 rintro r h4 ⟨e4,g4⟩
 exact ⟨e1.trans e4,g4.mono oM (Nat.le_refl _)⟩
theorem c2n {h:Heap}(v:NfV h nf sS sF) :
  Tot tab a2v [.agg (nfC nf sS sF)] h fun r h'=>Ext h h'/\Gr h.length h'.length h' 1 r ((bits nf.n (cloF nf.n nf.fr (2 ^ nf.s))).map encB):=by
 refine WP.tot (fun k=>b0g k _ h) ?_
 have hn:=v.n0
 have ss:=v.s.one
 have sf:=v.f.one
 have hsn:=v.ok.s
 obtain ⟨h1,hh1⟩:∃h1,h1=h++[AObj.cells ⟨nfC nf sS sF,0,0,false⟩]:=⟨_,rfl⟩
 have e1:Ext h h1:=by rw[hh1]; exact Ext.push _ _
 have l1:h1.length=h.length+1:=by rw[hh1]; simp
 have rn:h1[h.length]?=some (.cells ⟨nfC nf sS sF,0,0,false⟩):=by rw[hh1]; simp
 obtain ⟨s2,h2,a2,g2,e2,_,l2⟩:=g0_ (zero:=[AV.bool false]) (sz:=1) (bytes:=1) (n:=(nf.n:Int)) h1 oM oM oM rfl rfl
 have hre:List.replicate (nf.n:Int).toNat [AV.bool false]=(List.replicate nf.n false).map encB:=by simp[encB]
 rw[hre] at g2
 obtain ⟨h3,w1,w2,w3,w4⟩:=g2.write0 (i:=(nf.s:Int)) (v:=.bool true) oM (by simp; omega) rfl rfl
 have e3:Ext h h3:=w3.ext (e1.trans e2) oM
 have rn2:=e2.get rn
 have rn3:h3[h.length]?=some (.cells ⟨nfC nf sS sF,0,0,false⟩):=by rw[w3.get oM oM]; exact rn2
 have eb:(List.replicate nf.n false).set nf.s true=bits nf.n (2 ^ nf.s):=by
  refine List.ext_getElem (by simp[bits]) fun p h1 h2=>?_
  simp only[List.getElem_set,List.getElem_replicate,bits,List.getElem_map,List.getElem_range,Nat.testBit_two_pow]
  by_cases q:nf.s=p
  ·simp[q]
  ·simp[q]
 have g3:Gr h1.length (h1.length+1) h3 1 s2 ((bits nf.n (2 ^ nf.s)).map encB):=w2.cong (by rw[<-eb,List.map_set]; rfl)
 simp -implicitDefEqProofs (maxSteps:=1000000) (disch:=first|assumption|omega|(simp only[gL]<;>omega)|((repeat (first|exact Ext.refl _|assumption|apply Ext.app|apply Ext.mk|(refine Ext.setr ?_ (by (first|omega|(simp only[gL]<;>omega))) _))); done)|(simp only[gL,gA,ss,sf]<;>omega)|fail) only[gB,setAll,partL,fldV,reduceIte,Nat.reduceAdd,Nat.reduceMul,ss,sf]
 rw[<-hh1]
 refine g6 @a2 @rn2 g2.sl.idxG @List.length_replicate.{0} @w1 @rn3 ?_
 refine WP.call (b3b (v.ext e3) g3.sl fun q hq=>?_) ?_
 ·rw[Nat.testBit_two_pow] at hq
  have:nf.s=q:=by simpa using hq
  omega
 rintro r h4 ⟨e4,g4⟩
 exact WP.ret ⟨e3.trans e4,g4.mono e3.len (Nat.le_refl _)⟩
theorem c0x (st:List (Nat × Nat × Nat))(x:Nat × Nat × Nat)(s m:Nat):stpF (st++[x]) s m=if s.testBit x.1 && x.2.2.testBit m then stpF st s m ||| 2 ^ x.2.1 else stpF st s m:=by
 simp[stpF]
theorem c2o {n s q:Nat}:(bits n s).set q true=bits n (s ||| 2 ^ q):=by
 refine List.ext_getElem (by simp[bits]) fun p h1 h2=>?_
 simp only[List.getElem_set,bits,List.getElem_map,List.getElem_range,tb_or]
 by_cases z:q=p
 ·simp[z]
 ·simp[z,Ne.symm z]
theorem c2p {hb:Heap}{on oo s m:Nat}{is to:AV}(v:NfV hb nf sS sF)(hoo:hb.length<=oo)(hi:Sl hb 1 is ((bits nf.n s).map encB))(hm:m<5)(rn:hb[on]?=some (.cells ⟨nfC nf sS sF,0,0,false⟩)) :
  ∀(d i:Nat) (h:Heap),i+d=nf.st.length->Ext hb h->oo<h.length->Gr oo (oo+1) h 1 to ((bits nf.n (stpF (nf.st.take i) s m)).map encB)->
   WP (fun p:Nat × Nat=>r2_ p.1 p.2 is (I m) (.ptr on 0 5 0) to (I i) h) fun r h'=>Ext hb h'/\Gr hb.length h'.length h' 1 r ((bits nf.n (nxtF nf s m)).map encB):=by
 have hn:=v.n0
 have hls:=v.ls
 have lb:∀s,(bits nf.n s).length=nf.n:=a4i nf.n
 intro d
 induction d with
 |zero=>
  intro i h hid e hol g
  refine WP.rnd (fun i' j=>a4c i' j is (I m) (.ptr on 0 5 0) to (I i) h) ?_
  have rn1:=e.get rn
  have sl:=(v.ext e).s.lenG
  rw[List.take_of_length_le oM] at g
  refine g2 @rn1 @sl ?_
  refine WP.lv (WP.congr (fun k:Nat=>a9b k (.ptr on 0 5 0) to h) ?_) fun i j=>rfl
  refine g1 @rn1 ?_
  refine WP.call (b3b (v.ext e) g.sl fun q hq=>?_) ?_
  ·obtain ⟨x,hx,_,_,rfl⟩:=a9q.1 hq
   exact (v.ok.st x hx).2
  rintro r h2 ⟨e2,g2⟩
  exact WP.ret ⟨e.trans e2,g2.mono e.len (Nat.le_refl _)⟩
 |succ d ih=>
  intro i h hid e hol g
  refine WP.rnd (fun i' j=>a4c i' j is (I m) (.ptr on 0 5 0) to (I i) h) ?_
  have rn1:=e.get rn
  have sv:=(v.ext e).s
  have sl:=sv.lenG
  obtain ⟨x,hx⟩:∃x,nf.st[i]?=some x:=⟨nf.st[i],List.getElem?_eq_getElem oM⟩
  have gx:gi nf.st (i:Int)=x:=by rw[b2_ oM]; rw[List.getElem?_eq_getElem oM] at hx; injection hx
  have hxm:=List.mem_of_getElem? hx
  obtain ⟨x1,x2⟩:=v.ok.st x hxm
  have x3:=v.sv x hxm
  obtain ⟨h3,hh3⟩:∃h3,h3=((h++[AObj.cells ⟨[I 0,I 0,I 0],0,0,false⟩]).set h.length (.cells ⟨[I x.1,I x.2.1,I x.2.2],0,0,false⟩)):=⟨_,rfl⟩
  have e3:Ext h h3:=by rw[hh3]; exact eX
  have r3:h3[h.length]?=some (.cells ⟨[I x.1,I x.2.1,I x.2.2],0,0,false⟩):=by rw[hh3]; exact a0_ (by simp)
  have g3:=g.ext e3
  have hi3:=(hi.ext e).ext e3
  have l3:=e3.len
  have lbs:=lb s
  have lb2:=lb (stpF (nf.st.take i) s m)
  have gs:gi (bits nf.n s) (x.1:Int)=s.testBit x.1:=a6O x1
  have hsh:binV .shr .scalar (I (x.2.2:Nat)) (.int .u64 m)=some (I ((x.2.2 >>> m:Nat):Int)):=shr_i (k:=.u64) (s:=x.2.2) (m:=(m:Int)) oM oM
  have hle:x.2.2 >>> m<2 ^ 62:=Nat.lt_of_le_of_lt (by rw[Nat.shiftRight_eq_div_pow]; exact Nat.div_le_self _ _) x3
  have han:binV .and .scalar (I ((x.2.2 >>> m:Nat):Int)) (.int .i64 1)=some (I (((x.2.2 >>> m) &&& 1:Nat):Int)):=and_i (b:=1) hle (by decide)
  have hcv:convV .u64 (I m)=some (.int .u64 m):=a5n oM oM
  have hsn:=c0x (nf.st.take i) x s m
  rw[<-b2y hx] at hsn
  have on1:oo+1<=h.length:=hol
  obtain ⟨b1,hb1⟩:∃b1,s.testBit x.1=b1:=⟨_,rfl⟩
  rw[hb1] at gs hsn
  cases b1 with
  |false=>
   refine g6 @rn1 @sl sv.idxG sv.ldN @gx @encS.eq_1 ?_
   rw[show AV.int .i64 0=I 0 from rfl,<-hh3]
   refine g6 @r3 hi3.idxG hi3.ld0 @lbs @gs @encB.eq_1 ?_
   refine ih (i+1) h3 oM (e.trans e3) oM ?_
   rw[hsn]; exact g3
  |true=>
   obtain ⟨b2,hb2⟩:∃b2,x.2.2.testBit m=b2:=⟨_,rfl⟩
   rw[hb2] at hsn
   cases b2 with
   |false=>
    have hbt:binV .eql .scalar (I (((x.2.2 >>> m) &&& 1:Nat):Int)) (.int .i64 1)=some (.bool false):=bit_f (m:=(m:Int)) oM hb2
    refine g6 @rn1 @sl sv.idxG sv.ldN @gx @encS.eq_1 ?_
    rw[show AV.int .i64 0=I 0 from rfl,<-hh3]
    refine g10 @r3 hi3.idxG hi3.ld0 @lbs @gs @encB.eq_1 @hcv @hsh @han @hbt ?_
    refine ih (i+1) h3 oM (e.trans e3) oM ?_
    rw[hsn]; exact g3
   |true=>
    have hbt:binV .eql .scalar (I (((x.2.2 >>> m) &&& 1:Nat):Int)) (.int .i64 1)=some (.bool true):=bit_t (m:=(m:Int)) oM hb2
    obtain ⟨h4,w1,w2,w3,w4⟩:=g3.write0 (i:=(x.2.1:Int)) (v:=.bool true) oM (by simp[lb2]; omega) rfl rfl
    refine g6 @rn1 @sl sv.idxG sv.ldN @gx @encS.eq_1 ?_
    rw[show AV.int .i64 0=I 0 from rfl,<-hh3]
    refine g13 @r3 hi3.idxG hi3.ld0 @lbs @gs @encB.eq_1 @hcv @hsh @han @hbt g3.sl.idxG @lb2 @w1 ?_
    refine ih (i+1) h4 oM (w3.ext (e.trans e3) hoo) oM (w2.cong ?_)
    rw[hsn,if_pos (by rfl),<-c2o,List.map_set]; rfl
theorem c3Q {h:Heap}{s m:Nat}{is:AV}(v:NfV h nf sS sF)(hi:Sl h 1 is ((bits nf.n s).map encB))(hm:m<5) :
  Tot tab u1_ [.agg (nfC nf sS sF),is,I m] h fun r h'=>Ext h h'/\Gr h.length h'.length h' 1 r ((bits nf.n (nxtF nf s m)).map encB):=by
 refine WP.tot (fun k=>b0E k _ _ _ h) ?_
 have hn:=v.n0
 have ss:=v.s.one
 have sf:=v.f.one
 obtain ⟨h1,hh1⟩:∃h1,h1=h++[AObj.cells ⟨nfC nf sS sF,0,0,false⟩]:=⟨_,rfl⟩
 have e1:Ext h h1:=by rw[hh1]; exact Ext.push _ _
 have l1:h1.length=h.length+1:=by rw[hh1]; simp
 have rn:h1[h.length]?=some (.cells ⟨nfC nf sS sF,0,0,false⟩):=by rw[hh1]; simp
 obtain ⟨s2,h2,a2,g2,e2,_,l2⟩:=g0_ (zero:=[AV.bool false]) (sz:=1) (bytes:=1) (n:=(nf.n:Int)) h1 oM oM oM rfl rfl
 have hre:List.replicate (nf.n:Int).toNat [AV.bool false]=(bits nf.n (stpF (nf.st.take 0) s m)).map encB:=by
  simp only[List.take_zero,stpF,List.foldl_nil,bits,Int.toNat_natCast,List.map_map]
  refine List.ext_getElem (by simp) fun p h1 h2=>by simp[encB]
 rw[hre] at g2
 simp -implicitDefEqProofs (maxSteps:=1000000) (disch:=first|assumption|omega|(simp only[gL]<;>omega)|((repeat (first|exact Ext.refl _|assumption|apply Ext.app|apply Ext.mk|(refine Ext.setr ?_ (by (first|omega|(simp only[gL]<;>omega))) _))); done)|(simp only[gL,gA,ss,sf]<;>omega)|fail) only[gB,setAll,partL,fldV,reduceIte,Nat.reduceAdd,Nat.reduceMul,ss,sf]
 rw[<-hh1]
 refine g1 @a2 ?_
 refine WP.ent ((c2p (v.ext e1) (Nat.le_refl _) (hi.ext e1) hm rn nf.st.length 0 h2 oM e2 oM g2).mono ?_) fun i=>rfl
 rintro r h3 ⟨e3,g3⟩
 exact ⟨e1.trans e3,g3.mono oM (Nat.le_refl _)⟩
end
end Go.Gm.AQ
namespace Go.Gm.AQ
open Go Go.Gm
section
variable {h:Heap}
structure SI (hb h:Heap) (states sN sA:AV) (oS oN oA:Nat) (xs:List AV) (D':List (List Int)) (acc':List Bool):Prop where
 eb:Ext hb h
 ro:h[hb.length+1]?=some (.cells ⟨[sN,sA],0,0,false⟩)
 gs:Gr oS (oS+1) h 1 states (xs.map enc1)
 gn:Gr oN (oN+1) h 5 sN (D'.map encR)
 ga:Gr oA (oA+1) h 1 sA (acc'.map encB)
 ps:states≠.nils->hb.length<=oS/\oS≠hb.length+1/\oS<h.length
 pn:sN≠.nils->hb.length+2<=oN/\oN<h.length/\(states≠.nils->oN≠oS)
 pa:sA≠.nils->hb.length+2<=oA/\oA<h.length/\(states≠.nils->oA≠oS)/\(sN≠.nils->oA≠oN)
 bl:hb.length+2<=h.length
section
variable {hb:Heap} {states sN sA:AV} {oS oN oA:Nat} {xs:List AV} {D':List (List Int)} {acc':List Bool}
theorem SI.ext (p:SI hb h states sN sA oS oN oA xs D' acc'){h':Heap}(e:Ext h h'):SI hb h' states sN sA oS oN oA xs D' acc':=by
 have l:=e.len
 refine ⟨p.eb.trans e,e.get p.ro,p.gs.ext e,p.gn.ext e,p.ga.ext e,fun z=>?_,fun z=>?_,fun z=>?_,by have:=p.bl; omega⟩
 ·have:=p.ps z; omega
 ·have:=p.pn z; exact ⟨this.1,oM,this.2.2⟩
 ·have:=p.pa z; exact ⟨this.1,oM,this.2.2⟩
theorem SI.frs (p:SI hb h states sN sA oS oN oA xs D' acc'){h':Heap}{o:Nat}(f:FrS (fun q=>q=o) h h')(ho:hb.length<=o/\o≠hb.length+1)(h1:states≠.nils->o≠oS)(h2:sN≠.nils->o≠oN)(h3:sA≠.nils->o≠oA):SI hb h' states sN sA oS oN oA xs D' acc':=by
 have l:=f.len
 have bl:=p.bl
 have nl:∀{lo:Nat} {sz:Nat} {s:AV} {xs:List (List AV)},Gr lo (lo+1) h sz s xs->(s≠.nils->o≠lo)->Gr lo (lo+1) h' sz s xs:=by
  intro lo sz s xs g hq
  by_cases q:s=.nils
  ·subst q
   have:=g.isNil
   subst this
   exact Gr.nil ..
  ·exact g.frs f fun r r1 r2=>by have:=hq q; omega
 refine ⟨f.ext p.eb fun q q1=>oM,by rw[f.get oM oM]; exact p.ro,nl p.gs h1,nl p.gn h2,nl p.ga h3,fun z=>?_,fun z=>?_,fun z=>?_,oM⟩
 ·have:=p.ps z; omega
 ·have:=p.pn z; exact ⟨this.1,oM,this.2.2⟩
 ·have:=p.pa z; exact ⟨this.1,oM,this.2.2⟩
theorem SI.addS (p:SI hb h states sN sA oS oN oA xs D' acc')(to:AV)(h1:to.cells=[to])(hl:xs.length<=100000) :
  ∃s' h' o',apnd 1 24 states (.sl h.length 0 1 1 none 0) (h++[AObj.cells ⟨[to],0,0,false⟩])=some (s',h')/\SI hb h' s' sN sA o' oN oA (xs++[to]) D' acc'/\FrS (fun q=>states≠.nils/\q=oS) h h'/\(s'≠.nils->(o'=oS/\states≠.nils)\/h.length<=o'):=by
 have b:=Gr.lit (h:=h) (sz:=1) (v:=[to]) rfl
 rw[a3_] at b
 have e1:Ext h (h++[AObj.cells ⟨[to],0,0,false⟩]):=Ext.push _ _
 obtain ⟨s',h',o',q1,q2,q3,q4⟩:=(p.gs.ext e1).appP (fun z=>by have:=p.ps z; simp; omega) b.sl oM (bytes:=24) oM (by simp; omega)
 have f:=(FrS.ofExt (D:=fun q=>states≠.nils/\q=oS) e1).trans q4
 have l:=f.len
 have bl:=p.bl
 have l1:(h++[AObj.cells ⟨[to],0,0,false⟩]).length=h.length+1:=by simp
 have ps:=p.ps
 have pn:=p.pn
 have pa:=p.pa
 have q3':s'≠.nils->(o'=oS/\states≠.nils)\/h.length<=o':=fun z=>by
  rcases (q3 z).1 with q|q
  ·exact .inl q
  ·exact .inr oM
 have nl:∀{lo:Nat} {sz:Nat} {s:AV} {xs:List (List AV)},Gr lo (lo+1) h sz s xs->(s≠.nils->states≠.nils->lo≠oS)->Gr lo (lo+1) h' sz s xs:=by
  intro lo sz s xs g hq
  by_cases q:s=.nils
  ·subst q
   have:=g.isNil
   subst this
   exact Gr.nil ..
  ·exact g.frs f fun r r1 r2 z=>by have:=hq q z.1; omega
 refine ⟨s',h',o',q1,⟨f.ext p.eb fun q z1 z2=>by have:=ps z2.1; omega,by rw[f.get (fun z=>by have:=ps z.1; omega) oM]; exact p.ro,q2.cong (by simp[enc1]),nl p.gn fun z1 z2=>(pn z1).2.2 z2,nl p.ga fun z1 z2=>(pa z1).2.2.1 z2,fun z=>?_,fun z=>?_,fun z=>?_,oM⟩,f,q3'⟩
 ·have h1:=(q3 z).2
  rcases q3' z with ⟨h2,h3⟩|h2
  ·have:=ps h3; omega
  ·omega
 ·have h1:=pn z
  refine ⟨h1.1,oM,fun z2=>?_⟩
  rcases q3' z2 with ⟨h2,h3⟩|h2
  ·have:=h1.2.2 h3; omega
  ·omega
 ·have h1:=pa z
  refine ⟨h1.1,oM,fun z2=>?_,h1.2.2.2⟩
  rcases q3' z2 with ⟨h2,h3⟩|h2
  ·have:=h1.2.2.1 h3; omega
  ·omega
theorem SI.row (p:SI hb h states sN sA oS oN oA xs D' acc'){r:List Int}(hr:r.length=5)(hl:D'.length<=100000) :
  ∃s' h' o',apnd 5 40 sN (.sl h.length 0 1 5 none 0) (h++[AObj.cells ⟨r.map I,0,0,false⟩])=some (s',h')/\s'.one=true/\s'.cells=[s']/\h'[hb.length+1]?=some (.cells ⟨[sN,sA],0,0,false⟩)/\
   SI hb (h'.set (hb.length+1) (.cells ⟨[s',sA],0,0,false⟩)) states s' sA oS o' oA xs (D'++[r]) acc'/\FrS (fun q=>q=hb.length+1\/(sN≠.nils/\q=oN)) h (h'.set (hb.length+1) (.cells ⟨[s',sA],0,0,false⟩))/\(s'≠.nils->(o'=oN/\sN≠.nils)\/h.length<=o'):=by
 have b:=Gr.lit (h:=h) (sz:=5) (v:=r.map I) (by simp[hr])
 rw[a3_] at b
 have e1:Ext h (h++[AObj.cells ⟨r.map I,0,0,false⟩]):=Ext.push _ _
 obtain ⟨s',h',o',q1,q2,q3,q4⟩:=(p.gn.ext e1).appP (fun z=>by have:=p.pn z; simp; omega) b.sl oM (bytes:=40) oM (by simp; omega)
 have f:=(FrS.ofExt (D:=fun q=>sN≠.nils/\q=oN) e1).trans q4
 have l:=f.len
 have bl:=p.bl
 have ps:=p.ps
 have pn:=p.pn
 have pa:=p.pa
 have l1:(h++[AObj.cells ⟨r.map I,0,0,false⟩]).length=h.length+1:=by simp
 have q3':s'≠.nils->(o'=oN/\sN≠.nils)\/h.length<=o':=fun z=>by
  rcases (q3 z).1 with q|q
  ·exact .inl q
  ·exact .inr oM
 have ro:=p.ro
 have ro':h'[hb.length+1]?=some (.cells ⟨[sN,sA],0,0,false⟩):=by rw[f.get (fun z=>by have:=pn z.1; omega) oM]; exact ro
 have nl:∀{lo:Nat} {sz:Nat} {s:AV} {xs:List (List AV)},Gr lo (lo+1) h sz s xs->(s≠.nils->sN≠.nils->oN≠lo)->Gr lo (lo+1) h' sz s xs:=by
  intro lo sz s xs g hq
  by_cases q:s=.nils
  ·subst q
   have:=g.isNil
   subst this
   exact Gr.nil ..
  ·exact g.frs f fun r r1 r2 z=>by have:=hq q z.1; omega
 have st:∀{lo:Nat} {sz:Nat} {s:AV} {xs:List (List AV)} (x:AObj),Gr lo (lo+1) h' sz s xs->(s≠.nils->lo≠hb.length+1)->Gr lo (lo+1) (h'.set (hb.length+1) x) sz s xs:=by
  intro lo sz s xs x g hq
  by_cases q:s=.nils
  ·subst q
   have:=g.isNil
   subst this
   exact Gr.nil ..
  ·exact g.set (by have:=hq q; omega) _
 have q5:∀z:s'≠.nils,hb.length+2<=o'/\o'<h'.length:=fun z=>by
  have h1:=(q3 z).2
  rcases q3' z with ⟨h2,h3⟩|h2
  ·have:=pn h3; omega
  ·omega
 refine ⟨s',h',o',q1,q2.sl.one,q2.sl.cells,ro',⟨(f.ext p.eb fun q z1 z2=>by have:=pn z2.1; omega).setr (Nat.le_succ _) _,a0_ oM,st _ (nl p.gs fun z1 z2=>(pn z2).2.2 z1) fun z=>by have:=ps z; omega,st _ (q2.cong (by simp[encR])) fun z=>by have:=q5 z; omega,st _ (nl p.ga fun z1 z2=>((pa z1).2.2.2 z2).symm) fun z=>by have:=pa z; omega,?_,?_,?_,by simp; omega⟩,(f.mono fun q _ z=>Or.inr z).trans ((FrS.set1 _ _ _).mono fun q _ z=>Or.inl z),q3'⟩
 ·intro z; have:=ps z; simp; omega
 ·intro z
  have h1:=q5 z
  refine ⟨h1.1,by simp; exact h1.2,fun z2=>?_⟩
  rcases q3' z with ⟨h2,h3⟩|h2
  ·have:=(pn h3).2.2 z2; omega
  ·have:=ps z2; omega
 ·intro z
  have h1:=pa z
  refine ⟨h1.1,by simp; omega,h1.2.2.1,fun z2=>?_⟩
  rcases q3' z2 with ⟨h2,h3⟩|h2
  ·have:=h1.2.2.2 h3; omega
  ·omega
theorem SI.accept (p:SI hb h states sN sA oS oN oA xs D' acc')(b:Bool)(hl:acc'.length<=100000) :
  ∃s' h' o',apnd 1 1 sA (.sl h.length 0 1 1 none 0) (h++[AObj.cells ⟨[.bool b],0,0,false⟩])=some (s',h')/\s'.one=true/\s'.cells=[s']/\h'[hb.length+1]?=some (.cells ⟨[sN,sA],0,0,false⟩)/\
   SI hb (h'.set (hb.length+1) (.cells ⟨[sN,s'],0,0,false⟩)) states sN s' oS oN o' xs D' (acc'++[b])/\FrS (fun q=>q=hb.length+1\/(sA≠.nils/\q=oA)) h (h'.set (hb.length+1) (.cells ⟨[sN,s'],0,0,false⟩))/\(s'≠.nils->(o'=oA/\sA≠.nils)\/h.length<=o'):=by
 have b0:=Gr.lit (h:=h) (sz:=1) (v:=encB b) rfl
 rw[a3_] at b0
 have e1:Ext h (h++[AObj.cells ⟨encB b,0,0,false⟩]):=Ext.push _ _
 obtain ⟨s',h',o',q1,q2,q3,q4⟩:=(p.ga.ext e1).appP (fun z=>by have:=p.pa z; simp; omega) b0.sl oM (bytes:=1) oM (by simp; omega)
 have f:=(FrS.ofExt (D:=fun q=>sA≠.nils/\q=oA) e1).trans q4
 have l:=f.len
 have bl:=p.bl
 have ps:=p.ps
 have pn:=p.pn
 have pa:=p.pa
 have l1:(h++[AObj.cells ⟨encB b,0,0,false⟩]).length=h.length+1:=by simp
 have q3':s'≠.nils->(o'=oA/\sA≠.nils)\/h.length<=o':=fun z=>by
  rcases (q3 z).1 with q|q
  ·exact .inl q
  ·exact .inr oM
 have ro:=p.ro
 have ro':h'[hb.length+1]?=some (.cells ⟨[sN,sA],0,0,false⟩):=by rw[f.get (fun z=>by have:=pa z.1; omega) oM]; exact ro
 have nl:∀{lo:Nat} {sz:Nat} {s:AV} {xs:List (List AV)},Gr lo (lo+1) h sz s xs->(s≠.nils->sA≠.nils->oA≠lo)->Gr lo (lo+1) h' sz s xs:=by
  intro lo sz s xs g hq
  by_cases q:s=.nils
  ·subst q
   have:=g.isNil
   subst this
   exact Gr.nil ..
  ·exact g.frs f fun r r1 r2 z=>by have:=hq q z.1; omega
 have st:∀{lo:Nat} {sz:Nat} {s:AV} {xs:List (List AV)} (x:AObj),Gr lo (lo+1) h' sz s xs->(s≠.nils->lo≠hb.length+1)->Gr lo (lo+1) (h'.set (hb.length+1) x) sz s xs:=by
  intro lo sz s xs x g hq
  by_cases q:s=.nils
  ·subst q
   have:=g.isNil
   subst this
   exact Gr.nil ..
  ·exact g.set (by have:=hq q; omega) _
 have q5:∀z:s'≠.nils,hb.length+2<=o'/\o'<h'.length:=fun z=>by
  have h1:=(q3 z).2
  rcases q3' z with ⟨h2,h3⟩|h2
  ·have:=pa h3; omega
  ·omega
 refine ⟨s',h',o',q1,q2.sl.one,q2.sl.cells,ro',⟨(f.ext p.eb fun q z1 z2=>by have:=pa z2.1; omega).setr (Nat.le_succ _) _,a0_ oM,st _ (nl p.gs fun z1 z2=>(pa z2).2.2.1 z1) fun z=>by have:=ps z; omega,st _ (nl p.gn fun z1 z2=>(pa z2).2.2.2 z1) fun z=>by have:=pn z; omega,st _ (q2.cong (by simp[encB])) fun z=>by have:=q5 z; omega,?_,?_,?_,by simp; omega⟩,(f.mono fun q _ z=>Or.inr z).trans ((FrS.set1 _ _ _).mono fun q _ z=>Or.inl z),q3'⟩
 ·intro z; have:=ps z; simp; omega
 ·intro z; have:=pn z; exact ⟨this.1,by simp; omega,this.2.2⟩
 ·intro z
  have h1:=q5 z
  refine ⟨h1.1,by simp; exact h1.2,fun z2=>?_,fun z2=>?_⟩
  ·rcases q3' z with ⟨h2,h3⟩|h2
   ·have:=(pa h3).2.2.1 z2; omega
   ·have:=ps z2; omega
  ·rcases q3' z with ⟨h2,h3⟩|h2
   ·have:=(pa h3).2.2.2 z2; omega
   ·have:=pn z2; omega
end
end
end Go.Gm.AQ
namespace Go.Gm.AQ
open Go Go.Gm
def SetsV (n:Nat)(h:Heap)(W:Nat->Prop)(B:List AV)(S:List Nat):Prop:=
 B.length=S.length/\∀(i s:Nat),S[i]?=some s->(∀p,s.testBit p=true->p<n)/\∃lo hi,Gr lo hi h 1 (gi B (i:Int)) ((bits n s).map encB)/\∀o,lo<=o->o<hi->o<h.length/\W o
theorem SetsV.go {n:Nat}{h h':Heap}{W W' D:Nat->Prop}{B:List AV}{S:List Nat}(v:SetsV n h W B S)(f:FrS D h h')(hd:∀o,o<h.length->W o->¬D o/\W' o):SetsV n h' W' B S:=by
 refine ⟨v.1,fun i s hi=>?_⟩
 obtain ⟨hs,lo,hi',g,r⟩:=v.2 i s hi
 have l:=f.len
 refine ⟨hs,lo,hi',g.frs f fun o z1 z2=>?_,fun o z1 z2=>?_⟩
 ·have:=r o z1 z2; exact (hd o this.1 this.2).1
 ·have:=r o z1 z2; exact ⟨oM,(hd o this.1 this.2).2⟩
theorem SetsV.ext {n:Nat}{h h':Heap}{W:Nat->Prop}{B:List AV}{S:List Nat}(v:SetsV n h W B S)(e:Ext h h'):SetsV n h' W B S:=
 v.go (D:=fun _=>False) (FrS.ofExt e) fun o _ w=>⟨id,w⟩
theorem SetsV.snoc {n:Nat}{h:Heap}{W:Nat->Prop}{B:List AV}{S:List Nat}(v:SetsV n h W B S){a:AV}{t lo hi:Nat}(ht:∀p,t.testBit p=true->p<n)(g:Gr lo hi h 1 a ((bits n t).map encB))(r:∀o,lo<=o->o<hi->o<h.length/\W o):SetsV n h W (B++[a]) (S++[t]):=by
 refine ⟨by simp[v.1],fun i s hi'=>?_⟩
 by_cases q:i<S.length
 ·rw[List.getElem?_append_left q] at hi'
  obtain ⟨hs,lo',hi2,g',r'⟩:=v.2 i s hi'
  refine ⟨hs,lo',hi2,?_,r'⟩
  rw[show gi (B++[a]) (i:Int)=gi B (i:Int) from a3h oM (by have:=v.1; omega)]; exact g'
 ·have hl:=(List.getElem?_eq_some_iff.1 hi').1
  simp only[List.length_append,List.length_cons,List.length_nil] at hl
  obtain rfl:i=S.length:=oM
  rw[List.getElem?_append_right (Nat.le_refl _)] at hi'
  simp at hi'
  subst hi'
  refine ⟨ht,lo,hi,?_,r⟩
  rw[b2_ (by simp[v.1])]
  simp[<-v.1]
  exact g
theorem c0y {h:Heap}{a b:AV}{s t n:Nat}(va:Sl h 1 a ((bits n s).map encB))(vb:Sl h 1 b ((bits n t).map encB))(hn:n<=1000)(hs:∀p,s.testBit p=true->p<n)(ht:∀p,t.testBit p=true->p<n) :
  Tot tab a0z [a,b] h fun r h'=>h=h'/\∃x:Bool,r=.bool x/\(x=true↔s=t):=by
 refine WP.tot (fun k=>b0H k _ _ h) ?_
 have la:=a4i n s
 have lb:=a4i n t
 have loop:∀d i:Nat,i+d=n->(∀p,p<i->s.testBit p=t.testBit p)->WP (fun p:Nat × Nat=>a0c p.1 p.2 a b (I i) h) fun r h'=>h=h'/\∃x:Bool,r=.bool x/\(x=true↔s=t):=by
  intro d
  induction d with
  |zero=>
   intro i hi hp
   refine WP.rnd (fun i' j=>a4e i' j a b (I i) h) ?_
   refine g2 va.lenG @la ?_
   refine WP.ret ⟨rfl,true,rfl,⟨fun _=>?_,fun _=>rfl⟩⟩
   refine Nat.eq_of_testBit_eq fun p=>?_
   by_cases q:p<n
   ·exact hp p oM
   ·cases h1:s.testBit p with
    |true=>exact absurd (hs p h1) q
    |false=>
     cases h2:t.testBit p with
     |true=>exact absurd (ht p h2) q
     |false=>rfl
  |succ d ih=>
   intro i hi hp
   refine WP.rnd (fun i' j=>a4e i' j a b (I i) h) ?_
   have h1:=a6O (s:=s) (n:=n) (p:=i) oM
   have h2:=a6O (s:=t) (n:=n) (p:=i) oM
   obtain ⟨x,hx⟩:∃x,s.testBit i=x:=⟨_,rfl⟩
   obtain ⟨y,hy⟩:∃y,t.testBit i=y:=⟨_,rfl⟩
   rw[hx] at h1
   rw[hy] at h2
   by_cases q:x=y
   ·subst q
    have hxx:(!(x == x))=false:=by simp
    refine g12 va.lenG @la va.idxG va.ld0 vb.idxG vb.ld0 @lb @h1 @h2 @encB.eq_1 @neq_b @hxx ?_
    refine ih (i+1) oM fun p hp'=>?_
    by_cases z:p=i
    ·rw[z,hx,hy]
    ·exact hp p oM
   ·have hxx:(!(x == y))=true:=by simp[q]
    refine g12 va.lenG @la va.idxG va.ld0 vb.idxG vb.ld0 @lb @h1 @h2 @encB.eq_1 @neq_b @hxx ?_
    refine WP.ret ⟨rfl,false,rfl,⟨fun z=>absurd z (by decide),fun z=>?_⟩⟩
    subst z
    exact absurd (hx.symm.trans hy) q
 exact WP.ent (loop n 0 oM fun p hp=>oM) fun i=>rfl
def idxI (t:Nat)(i:Nat)(S:List Nat):Int:=match idxF t i S with
 |some j=>(j:Int)
 |none=>-1
theorem c0z {h:Heap}{states b:AV}{W:Nat->Prop}{B:List AV}{S:List Nat}{t n:Nat}(gs:Sl h 1 states (B.map enc1))(sv:SetsV n h W B S)(vb:Sl h 1 b ((bits n t).map encB))(hn:n<=1000)(hS:S.length<=100000)(ht:∀p,t.testBit p=true->p<n) :
  Tot tab a0x [states,b] h fun r h'=>h=h'/\r=I (idxI t 0 S):=by
 refine WP.tot (fun k=>b0F k _ _ h) ?_
 have lB:=sv.1
 have loop:∀d i:Nat,i+d=S.length->idxI t i (List.drop i S)=idxI t 0 S->WP (fun p:Nat × Nat=>a0a p.1 p.2 states b (I i) h) fun r h'=>h=h'/\r=I (idxI t 0 S):=by
  intro d
  induction d with
  |zero=>
   intro i hi hp
   refine WP.rnd (fun i' j=>a4d i' j states b (I i) h) ?_
   refine g2 gs.lenG @lB ?_
   refine WP.ret ⟨rfl,?_⟩
   rw[<-hp,List.drop_of_length_le oM]
   rfl
  |succ d ih=>
   intro i hi hp
   refine WP.rnd (fun i' j=>a4d i' j states b (I i) h) ?_
   have hx:S[i]?=some S[i]:=List.getElem?_eq_getElem oM
   obtain ⟨hs,lo,hi',g,_⟩:=sv.2 i _ hx
   have hdr:S.drop i=S[i]::S.drop (i+1):=List.drop_eq_getElem_cons oM
   simp -implicitDefEqProofs (disch:=first|assumption|omega|exact Ext.refl _|(simp only[gL,gA]<;>omega)|fail) only[gC,reduceIte,gs.lenG,lB,gs.idxG,gs.ld0,enc1]
   refine WP.call (c0y g.sl vb hn hs ht) ?_
   rintro r h' ⟨rfl,x,rfl,hx2⟩
   rw[hdr,idxI,idxF] at hp
   cases x with
   |true=>
    refine g0 ?_
    refine WP.ret ⟨rfl,?_⟩
    rw[<-hp,if_pos (hx2.1 rfl)]
   |false=>
    refine g0 ?_
    have hne:¬S[i]=t:=fun z=>by have:=hx2.2 z; cases this
    rw[if_neg hne] at hp
    exact ih (i+1) oM hp
 exact WP.ent (loop S.length 0 oM (by rw[List.drop_zero])) fun i=>rfl
end Go.Gm.AQ
namespace Go.Gm.AQ
open Go Go.Gm
section
variable {nf:NF} {sS sF:AV}
def OffS (hb:Heap)(states sN sA:AV)(oS oN oA:Nat)(o:Nat):Prop:=o≠hb.length+1/\(states≠.nils->o≠oS)/\(sN≠.nils->o≠oN)/\(sA≠.nils->o≠oA)
theorem c2q {xs:List Int}{m:Nat}(hm:m<xs.length)(j:Int):(xs.set m j).take (m+1)=xs.take m++[j]:=by
 refine List.ext_getElem? fun p=>?_
 by_cases q:p<m
 ·rw[List.getElem?_take_of_lt oM,List.getElem?_set_ne oM,List.getElem?_append_left (by simp; omega),List.getElem?_take_of_lt q]
 ·by_cases z:p=m
  ·subst z
   rw[List.getElem?_take_of_lt oM,List.getElem?_set_self hm,List.getElem?_append_right (by simp; omega)]
   simp[Nat.min_eq_left (Nat.le_of_lt hm)]
  ·rw[List.getElem?_eq_none (by simp; omega),List.getElem?_eq_none (by simp; omega)]
theorem c5p (ok:NfOk nf)(s m:Nat):∀p,(nxtF nf s m).testBit p=true->p<nf.n:=by
 have hs:∀p,(stpF nf.st s m).testBit p=true->p<nf.n:=fun p hp=>by
  obtain ⟨x,x1,_,_,x4⟩:=a9q.1 hp
  rw[<-x4]; exact (ok.st x x1).2
 exact fun p hp=>b7h (fun f hf=>(ok.fr f hf).2) hs ((a9p (fun f hf=>(ok.fr f hf).2) hs p).1 hp)
theorem c5q {h0 hb:Heap}{on ot i s nx:Nat}{sN sA:AV}{oN oA:Nat}{D':List (List Int)}{acc':List Bool}{Q:AV->Heap->Prop}(v:NfV hb nf sS sF)(rn:hb[on]?=some (.cells ⟨nfC nf sS sF,0,0,false⟩))(rt:hb[ot]?=some (.cells ⟨[.nils,.nils],0,0,false⟩))(e0:Ext h0 hb)(hot:h0.length<=ot) :
  ∀(d m:Nat) (h:Heap) (states:AV) (oS:Nat) (B:List AV) (S:List Nat) (nxs:List Int),m+d=5->SI hb h states sN sA oS oN oA B D' acc'->SetsV nf.n h (fun o=>OffS hb states sN sA oS oN oA o/\o≠nx) B S->S[i]?=some s->S.length<=200->NxOk h hb nx nxs states sN sA oS oN oA->
   (rowF nf 200 s d m S (nxs.take m)=none->∀h',Ext h0 h'->Q (.tup [.agg [.nils,.nils],I 5]) h')->
   (∀h2 states2 oS2 B2 S2 nxs2,SI hb h2 states2 sN sA oS2 oN oA B2 D' acc'->SetsV nf.n h2 (fun o=>OffS hb states2 sN sA oS2 oN oA o/\o≠nx) B2 S2->S2[i]?=some s->S2.length<=200->NxOk h2 hb nx nxs2 states2 sN sA oS2 oN oA->rowF nf 200 s d m S (nxs.take m)=some (S2,nxs2)->
    WP (fun p:Nat × Nat=>a0F p.1 p.2 (I 200) (.ptr on 0 5 0) (.ptr ot 0 2 0) states2 (.ptr (hb.length+1) 0 2 0) (I i) (.ptr nx 0 5 0) h2) Q)->
   WP (fun p:(Nat × Nat) × Nat=>t2_ p.1.1 p.1.2 p.2 (I 200) (.ptr on 0 5 0) (.ptr ot 0 2 0) states (.ptr (hb.length+1) 0 2 0) (I i) (.ptr nx 0 5 0) (I m) h) Q:=by
 have hn:=v.n0
 intro d
 induction d with
 |zero=>
  intro m h states oS B S nxs h1 mi sv hi hl nk q1 q2
  refine WP.rnd (fun i' j=>a2y i'.1 i'.2 j (I 200) (.ptr on 0 5 0) (.ptr ot 0 2 0) states (.ptr (hb.length+1) 0 2 0) (I i) (.ptr nx 0 5 0) (I m) h) ?_
  obtain rfl:m=5:=oM
  have ht:nxs.take 5=nxs:=List.take_of_length_le (by rw[nk.2.1]; omega)
  refine g0 ?_
  exact WP.lv (q2 h states oS B S nxs mi sv hi hl nk (by rw[ht]; rfl)) fun i j=>rfl
 |succ d ih=>
  intro m h states oS B S nxs h1 mi sv hi hl nk q1 q2
  refine WP.rnd (fun i' j=>a2y i'.1 i'.2 j (I 200) (.ptr on 0 5 0) (.ptr ot 0 2 0) states (.ptr (hb.length+1) 0 2 0) (I i) (.ptr nx 0 5 0) (I m) h) ?_
  have hm5:m<5:=oM
  obtain ⟨t,ht⟩:∃t,nxtF nf s m=t:=⟨_,rfl⟩
  have htn:∀p,t.testBit p=true->p<nf.n:=ht▸c5p v.ok s m
  have key:∀(h:Heap) (states:AV) (oS:Nat) (B:List AV) (S':List Nat) (j:Nat),SI hb h states sN sA oS oN oA B D' acc'->SetsV nf.n h (fun o=>OffS hb states sN sA oS oN oA o/\o≠nx) B S'->S'[i]?=some s->S'.length<=200->NxOk h hb nx nxs states sN sA oS oN oA->rowF nf 200 s (d+1) m S (nxs.take m)=rowF nf 200 s d (m+1) S' (nxs.take m++[(j:Int)])->
    WP (fun p:(Nat × Nat) × Nat=>t3_ p.1.1 p.1.2 p.2 (I 200) (.ptr on 0 5 0) (.ptr ot 0 2 0) states (.ptr (hb.length+1) 0 2 0) (I i) (.ptr nx 0 5 0) (I m) (I j) h) Q:=by
   intro h states oS B S' j mi sv hi hl nk hr
   refine WP.congr (fun p=>a7k p.1.1 p.1.2 p.2 (I 200) (.ptr on 0 5 0) (.ptr ot 0 2 0) states (.ptr (hb.length+1) 0 2 0) (I i) (.ptr nx 0 5 0) (I m) (I j) h) ?_
   obtain ⟨n1,n2,n3,n4,n5,n6⟩:=nk
   have hst:=stP (x:=j) (m:=m) n1
   have hia:=b0q (o:=nx) hm5
   have bon:=(List.getElem?_eq_some_iff.1 n1).1
   have hw:h.set nx (.cells ⟨(nxs.map I).set m (I j),0,0,false⟩)=h.set nx (.cells ⟨(nxs.set m (j:Int)).map I,0,0,false⟩):=by rw[List.map_set]
   rw[hw] at hst
   refine g1 @hia ?_
   have f:FrS (fun q=>q=nx) h (h.set nx (.cells ⟨(nxs.set m (j:Int)).map I,0,0,false⟩)):=⟨by simp,fun p p1 p2=>a9_ fun z=>p1 z.symm⟩
   have hwr:wrAt 1 h h[nx]? nx m (m+1) 0 [I j]=some (h.set nx (.cells ⟨(nxs.set m (j:Int)).map I,0,0,false⟩)):=by
    rw[b0V] at hst; exact hst
   refine g1 @hwr ?_
   have htk:=c2q (xs:=nxs) (m:=m) oM (j:Int)
   refine ih (m+1) _ states oS B S' (nxs.set m (j:Int)) oM (mi.frs f ⟨oM,oM⟩ n4 n5 n6) (sv.go f fun o z1 z2=>⟨z2.2,z2⟩) hi hl ⟨a0_ bon,by simpa using n2,n3,n4,n5,n6⟩ (fun z=>q1 (by rw[hr,<-htk]; exact z)) fun h2 states2 oS2 B2 S2 nxs2 y1 y2 y3 y4 y5 y6=>q2 h2 states2 oS2 B2 S2 nxs2 y1 y2 y3 y4 y5 (by rw[hr,<-htk]; exact y6)
  have hgs:=mi.gs.sl
  have rn':=mi.eb.get rn
  have rt':=mi.eb.get rt
  have hil:=(List.getElem?_eq_some_iff.1 hi).1
  have lB:=sv.1
  obtain ⟨hs,lo,hi',g,_⟩:=sv.2 i s hi
  simp -implicitDefEqProofs (disch:=first|assumption|omega|exact Ext.refl _|(simp only[gL,gA]<;>omega)|fail) only[gC,reduceIte,rn',hgs.idxG,lB,hgs.ld0,enc1]
  refine WP.call (c3Q (v.ext mi.eb) g.sl hm5) ?_
  rintro r h2 ⟨e2,g2⟩
  rw[ht] at g2
  have mi2:=mi.ext e2
  have sv2:=sv.ext e2
  have hgs2:=mi2.gs.sl
  refine WP.call (c0z hgs2 sv2 g2.sl hn oM htn) ?_
  rintro r2 h2' ⟨rfl,rfl⟩
  have rt2:=e2.get rt'
  have bnx:=(List.getElem?_eq_some_iff.1 nk.1).1
  have nk2:NxOk h2 hb nx nxs states sN sA oS oN oA:=⟨e2.get nk.1,nk.2⟩
  cases hix:idxF t 0 S with
  |some j=>
   have e:idxI t 0 S=(j:Int):=by rw[idxI,hix]
   rw[e]
   refine g0 ?_
   exact key h2 states oS B S j mi2 sv2 hi hl nk2 (by rw[rowF]; simp only[ht,hix])
  |none=>
   have e:idxI t 0 S = -1:=by rw[idxI,hix]
   rw[e]
   by_cases q:200<=S.length
   ·have b1:=(List.getElem?_eq_some_iff.1 rt2).1
    refine g3 hgs2.lenG @lB @rt2 ?_
    refine WP.ret (q1 (by rw[rowF]; simp only[ht,hix,if_pos q]) _ ((e0.trans mi2.eb).setr hot _))
   ·obtain ⟨s',h3,o',a1,mi3,a3,a4⟩:=mi2.addS r g2.sl.cells oM
    have r1:=g2.sl.one
    have r2:=g2.sl.cells
    refine g5 hgs2.lenG @lB @r1 @r2 @a1 ?_
    have l3:=a3.len
    have le2:=e2.len
    refine key h3 s' o' (B++[r]) (S++[t]) S.length mi3 ?_ (a2N hi) (by rw[List.length_append]; simp; omega) ?_ (by rw[rowF]; simp only[ht,hix,if_neg q])
    ·have base:SetsV nf.n h3 (fun o=>OffS hb s' sN sA o' oN oA o/\o≠nx) B S:=sv.go (D:=fun q=>states≠.nils/\q=oS) ((FrS.ofExt e2).trans a3) fun o z1 z2=>⟨fun z=>z2.1.2.1 z.1 z.2,⟨z2.1.1,fun z=>?_,z2.1.2.2.1,z2.1.2.2.2⟩,z2.2⟩
     ·refine base.snoc htn (g2.frs a3 fun o z1 z2 z3=>?_) fun o z1 z2=>⟨oM,⟨?_,fun z=>?_,fun z=>?_,fun z=>?_⟩,oM⟩
      ·have:=mi.ps z3.1; omega
      ·have:=mi.bl; omega
      ·rcases a4 z with ⟨w1,w2⟩|w1
       ·have:=mi.ps w2; omega
       ·omega
      ·have:=mi.pn z; omega
      ·have:=mi.pa z; omega
     ·rcases a4 z with ⟨w1,w2⟩|w1
      ·rw[w1]; exact z2.1.2.1 w2
      ·omega
    ·obtain ⟨n1,n2,n3,n4,n5,n6⟩:=nk2
     refine ⟨?_,n2,n3,fun z=>?_,n5,n6⟩
     ·rw[a3.get (fun z=>n4 z.1 z.2) oM]; exact n1
     ·rcases a4 z with ⟨z1,z2⟩|z1
      ·rw[z1]; exact n4 z2
      ·omega
end
end Go.Gm.AQ
namespace Go.Gm.AQ
open Go Go.Gm
section
variable {nf:NF} {sS sF:AV}
def SubQ (lo:Nat)(o:Option (List (List Int) × List Bool))(r:AV)(h':Heap):Prop:=
 match o with
 |none=>r=.tup [.agg [.nils,.nils],I 5]
 |some (D,acc)=>∃sN sA:AV,r=.tup [.agg [sN,sA],I 0]/\Gr lo h'.length h' 5 sN (D.map encR)/\Gr lo h'.length h' 1 sA (acc.map encB)
theorem c5r {h0 hb:Heap}{on ot:Nat}(v:NfV hb nf sS sF)(rn:hb[on]?=some (.cells ⟨nfC nf sS sF,0,0,false⟩))(rt:hb[ot]?=some (.cells ⟨[.nils,.nils],0,0,false⟩))(e0:Ext h0 hb)(hot:h0.length<=ot) :
  ∀(f i:Nat) (h:Heap) (states sN sA:AV) (oS oN oA:Nat) (B:List AV) (S:List Nat) (D:List (List Int)) (acc:List Bool),i+f=202->i<=S.length->S.length<=200->D.length=i->acc.length=i->SI hb h states sN sA oS oN oA B D acc->SetsV nf.n h (OffS hb states sN sA oS oN oA) B S->
   WP (fun p:Nat × Nat=>t1_ p.1 p.2 (I 200) (.ptr on 0 5 0) (.ptr ot 0 2 0) states (.ptr (hb.length+1) 0 2 0) (I i) h) fun r h'=>Ext h0 h'/\SubQ h0.length (subL nf 200 f i S D acc) r h':=by
 have l0:=e0.len
 have bt:=(List.getElem?_eq_some_iff.1 rt).1
 intro f
 induction f with
 |zero=>intro i h states sN sA oS oN oA B S D acc h1 h2 h3; omega
 |succ f ih=>
  intro i h states sN sA oS oN oA B S D acc h1 h2 h3 hD hA mi sv
  refine WP.rnd (fun i' j=>a7o i' j (I 200) (.ptr on 0 5 0) (.ptr ot 0 2 0) states (.ptr (hb.length+1) 0 2 0) (I i) h) ?_
  have gs:=mi.gs.sl.lenG
  have lB:=sv.1
  by_cases q:i=S.length
  ·have hs:subL nf 200 (f+1) i S D acc=some (D,acc):=by rw[subL,List.getElem?_eq_none oM]
   rw[hs]
   refine g2 @gs @lB ?_
   refine WP.lv (d:=fun k:Nat=>a0G k (.ptr ot 0 2 0) (.ptr (hb.length+1) 0 2 0) h) ?_ fun i j=>rfl
   refine WP.congr (fun k=>a7n k (.ptr ot 0 2 0) (.ptr (hb.length+1) 0 2 0) h) ?_
   have ro:=mi.ro
   have rt':=mi.eb.get rt
   have b0:=(List.getElem?_eq_some_iff.1 rt').1
   have o1:=mi.gn.sl.one
   have o2:=mi.gn.sl.cells
   have o3:=mi.ga.sl.one
   have o4:=mi.ga.sl.cells
   refine g6 @ro @rt' @o1 @o2 @o3 @o4 ?_
   have nl:∀{lo:Nat} {sz:Nat} {s:AV} {xs:List (List AV)} (x:AObj),Gr lo (lo+1) h sz s xs->(s≠.nils->hb.length<=lo/\lo<h.length)->Gr h0.length (h.set ot x).length (h.set ot x) sz s xs:=by
    intro lo sz s xs x g hq
    by_cases q:s=.nils
    ·subst q
     have:=g.isNil
     subst this
     exact Gr.nil ..
    ·have:=hq q
     exact (g.set (.inl oM) _).mono oM (by simp; omega)
   refine WP.ret ⟨(e0.trans mi.eb).setr hot _,sN,sA,rfl,nl _ mi.gn fun z=>?_,nl _ mi.ga fun z=>?_⟩
   ·have:=mi.pn z; omega
   ·have:=mi.pa z; omega
  ·have hx:S[i]?=some S[i]:=List.getElem?_eq_getElem oM
   obtain ⟨s,hs⟩:∃s,S[i]=s:=⟨_,rfl⟩
   rw[hs] at hx
   have hsub:subL nf 200 (f+1) i S D acc=match rowF nf 200 s 5 0 S [] with
    |none=>none
    |some (S',row)=>subL nf 200 f (i+1) S' (D++[row]) (acc++[s.testBit nf.e]):=by
    rw[subL]; simp only[hx]
    cases rowF nf 200 s 5 0 S []<;>rfl
   rw[hsub]
   refine g2 @gs @lB ?_
   have bl:=mi.bl
   have e1:Ext h (h++[AObj.cells ⟨List.map I [0,0,0,0,0],0,0,false⟩]):=Ext.push _ _
   refine WP.ent (c5q (s:=s) (nx:=h.length) v rn rt e0 hot 5 0 (h++[AObj.cells ⟨List.map I [0,0,0,0,0],0,0,false⟩]) states oS B S [0,0,0,0,0] oM (mi.ext e1) (sv.go (D:=fun _=>False) (FrS.ofExt e1) fun o z1 z2=>⟨id,z2,oM⟩) hx h3 ⟨by simp,rfl,bl,fun z=>?_,fun z=>?_,fun z=>?_⟩ (fun z h' z2=>?_) (fun h2 states oS B S' nxs mi sv hi hl nk hr=>?_)) fun i=>rfl
   ·have:=mi.ps z; omega
   ·have:=mi.pn z; omega
   ·have:=mi.pa z; omega
   ·rw[show List.take 0 [0,0,0,0,0]=([]:List Int) from rfl] at z
    rw[z]
    exact ⟨z2,rfl⟩
   ·rw[show List.take 0 [0,0,0,0,0]=([]:List Int) from rfl] at hr
    rw[hr]
    refine WP.congr (fun p=>a7m p.1 p.2 (I 200) (.ptr on 0 5 0) (.ptr ot 0 2 0) states (.ptr (hb.length+1) 0 2 0) (I i) (.ptr h.length 0 5 0) h2) ?_
    obtain ⟨n1,n2,n3,n4,n5,n6⟩:=nk
    have ro:=mi.ro
    have b0:=(List.getElem?_eq_some_iff.1 ro).1
    obtain ⟨sN2,h3',oN2,q1,q2,q3,q4,mi3,f3,w3⟩:=mi.row n2 oM
    have b1:=(List.getElem?_eq_some_iff.1 q4).1
    have hmk:(nxs.map I).take 5=nxs.map I:=List.take_of_length_le (by simp[n2])
    obtain ⟨h4,hh4⟩:∃h4,h4=h3'.set (hb.length+1) (.cells ⟨[sN2,sA],0,0,false⟩):=⟨_,rfl⟩
    rw[<-hh4] at mi3 f3
    have sv3:SetsV nf.n h4 (OffS hb states sN2 sA oS oN2 oA) B S':=by
     refine sv.go f3 fun o z1 z2=>⟨fun z=>?_,z2.1.1,z2.1.2.1,fun z=>?_,z2.1.2.2.2⟩
     ·rcases z with z|z
      ·exact z2.1.1 z
      ·exact z2.1.2.2.1 z.1 z.2
     ·rcases w3 z with ⟨y1,y2⟩|y1
      ·rw[y1]; exact z2.1.2.2.1 y2
      ·omega
    have ro4:=mi3.ro
    have b4:=(List.getElem?_eq_some_iff.1 ro4).1
    have rn4:=mi3.eb.get rn
    have gs4:=mi3.gs.sl
    have lB4:=sv3.1
    have hil:=(List.getElem?_eq_some_iff.1 hi).1
    obtain ⟨hsn,lo,hi',g4,_⟩:=sv3.2 i s hi
    have ha4:=g4.sl
    have lb:=a4i nf.n s
    have hen:=v.ok.e
    obtain ⟨bb,hbb⟩:∃bb,s.testBit nf.e=bb:=⟨_,rfl⟩
    have hgb:=a6O (s:=s) hen
    rw[hbb] at hgb
    rw[hbb]
    obtain ⟨sA2,h5,oA2,w1,w2,w3',w4,mi5,f5,w5⟩:=mi3.accept bb oM
    have b5:=(List.getElem?_eq_some_iff.1 w4).1
    have hld:rdNAt 5 h2[h.length]? 0 5 0=some (.agg (nxs.map I)):=by
     rw[n1]
     simp only[rdNAt]
     rw[if_pos ⟨oM,Nat.le_refl _⟩,List.drop_zero,hmk]
    obtain ⟨c0,c1,c2,c3,c4,rfl⟩:∃c0 c1 c2 c3 c4,nxs=[c0,c1,c2,c3,c4]:=by
     match nxs,n2 with
     |[c0,c1,c2,c3,c4],_=>exact ⟨c0,c1,c2,c3,c4,rfl⟩
    simp only[List.map_cons,List.map_nil] at hld q1
    refine g6 @ro @hld @q1 @q4 @q2 @q3 ?_
    rw[<-hh4]
    simp -implicitDefEqProofs (disch:=first|assumption|omega|exact Ext.refl _|(simp only[gL,gA]<;>omega)|fail) only[gC,reduceIte,ro4,rn4,gs4.idxG,gs4.ld0,lB4,enc1,ha4.idxG,ha4.ld0,lb,hgb,encB,w1,w4,w2,w3']
    obtain ⟨h6,hh6⟩:∃h6,h6=h5.set (hb.length+1) (.cells ⟨[sN2,sA2],0,0,false⟩):=⟨_,rfl⟩
    rw[<-hh6] at mi5 f5 ⊢
    refine WP.congr (fun p=>a7l p.1 p.2 (I 200) (.ptr on 0 5 0) (.ptr ot 0 2 0) states (.ptr (hb.length+1) 0 2 0) (I i) h6) ?_
    refine g0 ?_
    refine ih (i+1) h6 states sN2 sA2 oS oN2 oA2 B S' (D++[[c0,c1,c2,c3,c4]]) (acc++[bb]) oM oM hl (by simp[hD]) (by simp[hA]) mi5 (sv3.go f5 fun o z1 z2=>⟨fun z=>?_,z2.1,z2.2.1,z2.2.2.1,fun z=>?_⟩)
    ·rcases z with z|z
     ·exact z2.1 z
     ·exact z2.2.2.2 z.1 z.2
    ·rcases w5 z with ⟨y1,y2⟩|y1
     ·rw[y1]; exact z2.2.2.2 y2
     ·omega
theorem b6L {h:Heap}(v:NfV h nf sS sF) :
  Tot tab d0_ [.agg (nfC nf sS sF),I 200] h fun r h'=>Ext h h'/\SubQ h.length (subF nf 200) r h':=by
 refine WP.tot (fun k=>a8X k _ _ h) ?_
 have ss:=v.s.one
 have sf:=v.f.one
 obtain ⟨h1,hh1⟩:∃h1,h1=(h++[AObj.cells ⟨nfC nf sS sF,0,0,false⟩])++[AObj.cells ⟨[.nils,.nils],0,0,false⟩]:=⟨_,rfl⟩
 have e1:Ext h h1:=by rw[hh1]; exact eX
 have rn:h1[h.length]?=some (.cells ⟨nfC nf sS sF,0,0,false⟩):=by rw[hh1]; simp
 have rt:h1[h.length+1]?=some (.cells ⟨[.nils,.nils],0,0,false⟩):=by rw[hh1]; simp
 simp -implicitDefEqProofs (maxSteps:=1000000) (disch:=first|assumption|omega|(simp only[gL]<;>omega)|((repeat (first|exact Ext.refl _|assumption|apply Ext.app|apply Ext.mk|(refine Ext.setr ?_ (by (first|omega|(simp only[gL]<;>omega))) _))); done)|(simp only[gL,gA,ss,sf]<;>omega)|fail) only[gB,setAll,partL,fldV,reduceIte,Nat.reduceAdd,Nat.reduceMul,ss,sf]
 rw[<-hh1]
 refine WP.call (c2n (v.ext e1)) ?_
 rintro r h2 ⟨e2,g2⟩
 have r1:=g2.sl.one
 have r2:=g2.sl.cells
 simp -implicitDefEqProofs (maxSteps:=1000000) (disch:=first|assumption|omega|(simp only[gL]<;>omega)|((repeat (first|exact Ext.refl _|assumption|apply Ext.app|apply Ext.mk|(refine Ext.setr ?_ (by (first|omega|(simp only[gL]<;>omega))) _))); done)|(simp only[gL,gA,r1,r2]<;>omega)|fail) only[gB,setAll,partL,fldV,reduceIte,Nat.reduceAdd,Nat.reduceMul,r1,r2]
 obtain ⟨h3,hh3⟩:∃h3,h3=(h2++[AObj.cells ⟨[r],0,0,false⟩])++[AObj.cells ⟨[.nils,.nils],0,0,false⟩]:=⟨_,rfl⟩
 have e3:Ext h2 h3:=by rw[hh3]; exact eX
 have l3:h3.length=h2.length+2:=by rw[hh3]; simp
 have l2:=e2.len
 have g3:Gr h2.length (h2.length+1) h3 1 (.sl h2.length 0 1 1 none 0) ([r].map enc1):=by
  have:=Gr.lit (h:=h2) (sz:=1) (v:=[r]) rfl
  rw[a3_] at this
  rw[hh3]; exact this.app _
 have ro:h3[h2.length+1]?=some (.cells ⟨[.nils,.nils],0,0,false⟩):=by rw[hh3]; simp
 have hfr:∀f∈nf.fr,f.2<nf.n:=fun f hf=>(v.ok.fr f hf).2
 have hs1:∀p,(2 ^ nf.s).testBit p=true->p<nf.n:=fun p hp=>by
  rw[Nat.testBit_two_pow] at hp
  have:nf.s=p:=by simpa using hp
  have:=v.ok.s
  omega
 have hs2:∀p,(cloF nf.n nf.fr (2 ^ nf.s)).testBit p=true->p<nf.n:=fun p hp=>b7h hfr hs1 ((a9p hfr hs1 p).1 hp)
 have mi:SI h2 h3 (.sl h2.length 0 1 1 none 0) .nils .nils h2.length 0 0 [r] [] []:=
  ⟨e3,ro,g3,Gr.nil ..,Gr.nil ..,fun _=>oM,fun z=>absurd rfl z,fun z=>absurd rfl z,oM⟩
 have e12:=e1.trans e2
 rw[<-hh3]
 refine WP.ent (c5r (ot:=h.length+1) (v.ext e12) (e2.get rn) (e2.get rt) e12 oM 202 0 h3 _ _ _ _ _ _ _ [cloF nf.n nf.fr (2 ^ nf.s)] [] [] oM (by simp) (by simp) rfl rfl mi ⟨rfl,fun i s hi=>?_⟩) fun i=>rfl
 have hil:=(List.getElem?_eq_some_iff.1 hi).1
 simp only[List.length_cons,List.length_nil] at hil
 obtain rfl:i=0:=oM
 simp at hi
 subst hi
 refine ⟨hs2,h1.length,h2.length,g2.ext e3,fun o z1 z2=>⟨oM,oM,fun _=>oM,fun z=>absurd rfl z,fun z=>absurd rfl z⟩⟩
end
end Go.Gm.AQ
namespace Go.Gm
def bt (S:ByteArray)(p:Nat):Option Nat:=(S[p]?).map UInt8.toNat
def md (c:Nat):Option Nat:=if c=119 then some 0 else if c=98 then some 1 else if c=99 then some 2 else if c=102 then some 3 else if c=116 then some 4 else none
def clsF (S:ByteArray):Nat->Nat->Nat->Option (Nat × Nat)
 |0,_,_=>none
 |f+1,p,s=>match bt S p with
  |none=>none
  |some c=>if c=93/\0<s then some (s,p+1) else match md c with
   |none=>none
   |some m=>clsF S f (p+1) (s ||| 2 ^ m)
def dig (c:Option Nat):Option Nat:=match c with
 |some c=>if 48<=c/\c<=57 then some (c-48) else none
 |none=>none
def tms (S:ByteArray)(p:Nat):Option (Nat × Nat × Nat):=match dig (bt S p),dig (bt S (p+2)) with
 |some a,some b=>if bt S (p+1)=some 44/\bt S (p+3)=some 125/\a<=b then some (a,b,p+4) else none
 |_,_=>none
inductive PM where
 |at|pc|pcl (n:Nd)|jn|jnl (l:List Nd)|un|unl (l:List Nd)
def finJ:List Nd->Nd
 |[n]=>n
 |l=>.join l
def finU:List Nd->Nd
 |[n]=>n
 |l=>.uni l
def prs (S:ByteArray):Nat->Nat->PM->Nat->Option (Nd × Nat)
 |0,_,_,_=>none
 |f+1,d,.at,p=>match bt S p with
  |none=>none
  |some c=>
   if c=40 then
    if 30<=d then none else match prs S f (d+1) .un (p+1) with
     |some (n,q)=>if bt S q=some 41 then some (n,q+1) else none
     |none=>none
   else match md c with
    |some m=>some (.set (2 ^ m),p+1)
    |none=>if c=46 then some (.set 31,p+1) else if c=48 then some (.emp,p+1) else if c=95 then some (.eps,p+1)
     else if c=91 then (match clsF S f (p+1) 0 with|some (s,q)=>some (.set s,q)|none=>none) else none
 |f+1,d,.pc,p=>match prs S f d .at p with
  |some (n,q)=>prs S f d (.pcl n) q
  |none=>none
 |f+1,d,.pcl n,p=>match bt S p with
  |none=>some (n,p)
  |some c=>if c=42 then prs S f d (.pcl (.star n)) (p+1) else if c=43 then prs S f d (.pcl (.plus n)) (p+1) else if c=63 then prs S f d (.pcl (.opt n)) (p+1)
   else if c=123 then (match tms S (p+1) with|some (a,b,q)=>prs S f d (.pcl (.rep a b n)) q|none=>none) else some (n,p)
 |f+1,d,.jn,p=>match prs S f d .pc p with
  |some (n,q)=>prs S f d (.jnl [n]) q
  |none=>none
 |f+1,d,.jnl l,p=>match bt S p with
  |none=>some (finJ l,p)
  |some c=>if c=124 then some (finJ l,p) else if c=41 then some (finJ l,p) else match prs S f d .pc p with
   |some (n,q)=>prs S f d (.jnl (l++[n])) q
   |none=>none
 |f+1,d,.un,p=>match prs S f d .jn p with
  |some (n,q)=>prs S f d (.unl [n]) q
  |none=>none
 |f+1,d,.unl l,p=>match bt S p with
  |none=>some (finU l,p)
  |some c=>if c=124 then match prs S f d .jn (p+1) with
    |some (n,q)=>prs S f d (.unl (l++[n])) q
    |none=>none
   else some (finU l,p)
abbrev U8 (n:Nat):AV:=.int .u8 n
theorem bt_ix {S:ByteArray}{p c:Nat}(h:bt S p=some c):ixS (.str S) (I p)=some (U8 c):=by
 simp only[bt,Option.map_eq_some_iff] at h
 obtain ⟨b,h1,rfl⟩:=h
 simp[ixS,h1]
theorem bt_lt {S:ByteArray}{p c:Nat}(h:bt S p=some c):p<S.size:=by
 simp only[bt,Option.map_eq_some_iff] at h
 obtain ⟨b,h1,rfl⟩:=h
 exact (getElem?_eq_some_iff.1 h1).1
theorem c4v {S:ByteArray}{p:Nat}(h:bt S p=none):S.size<=p:=by
 simp only[bt,Option.map_eq_none_iff] at h
 by_cases hp:p<S.size
 ·rw[getElem?_pos S p hp] at h; cases h
 ·omega
theorem equ_t {a:Nat}{b:Int}(h:(a:Int)=b):binV .eql .scalar (U8 a) (.int .u8 b)=some (.bool true):=by
 show some (AV.bool ((a:Int) == b))=_
 rw[h]; simp
theorem equ_f {a:Nat}{b:Int}(h:¬(a:Int)=b):binV .eql .scalar (U8 a) (.int .u8 b)=some (.bool false):=by
 show some (AV.bool ((a:Int) == b))=_
 simp[h]
theorem neu_t {a:Nat}{b:Int}(h:¬(a:Int)=b):binV .neq .scalar (U8 a) (.int .u8 b)=some (.bool true):=by
 show some (AV.bool ((a:Int) != b))=_
 simp[bne,h]
theorem neu_f {a:Nat}{b:Int}(h:(a:Int)=b):binV .neq .scalar (U8 a) (.int .u8 b)=some (.bool false):=by
 show some (AV.bool ((a:Int) != b))=_
 rw[h]; simp
theorem lsu_f {a:Nat}{b:Int}(h:¬(a:Int)<b):binV .lss .scalar (U8 a) (.int .u8 b)=some (.bool false):=by
 show some (AV.bool (decide ((a:Int)<b)))=_
 simp[h]
theorem gtu_f {a:Nat}{b:Int}(h:¬(a:Int) > b):binV .gtr .scalar (U8 a) (.int .u8 b)=some (.bool false):=by
 show some (AV.bool (decide ((a:Int) > b)))=_
 simp[h]
end Go.Gm
namespace Go.Gm.AQ
open Go Go.Gm
section
variable {S:ByteArray} {ro:Nat}
theorem a5W {h:Heap}{p d c:Nat}(hr:h[ro]?=some (.cells ⟨[.str S,I p,I d,I 0],0,0,false⟩))(hb:bt S p=some c) :
  Tot tab b6_ [.ptr ro 0 4 0] h fun v h'=>v=.tup [U8 c,.bool true]/\h=h':=by
 refine WP.tot (fun k=>a2r k _ h) ?_
 have hlt:=bt_lt hb
 have hix:=bt_ix hb
 have hlb:lenB (.str S)=some (I S.size):=rfl
 refine g3 @hr @hlb @hix ?_
 exact WP.ret ⟨rfl,rfl⟩
theorem b6B {h:Heap}{p d:Nat}(hr:h[ro]?=some (.cells ⟨[.str S,I p,I d,I 0],0,0,false⟩))(hb:bt S p=none) :
  Tot tab b6_ [.ptr ro 0 4 0] h fun v h'=>v=.tup [U8 0,.bool false]/\h=h':=by
 refine WP.tot (fun k=>a2r k _ h) ?_
 have hle:=c4v hb
 have hlb:lenB (.str S)=some (I S.size):=rfl
 refine g2 @hr @hlb ?_
 exact WP.ret ⟨rfl,rfl⟩
def mdI (c:Nat):Int:=match md c with
 |some m=>m
 |none=>-1
theorem a5w {c:Nat}(h:Heap):Tot tab i9_ [U8 c] h fun v h'=>v=I (mdI c)/\h=h':=by
 refine WP.tot (fun k=>b0J k _ h) ?_
 have hix:∀(i b:Nat),([119,98,99,102,116]:List Nat)[i]?=some b->ixS (.str ⟨#[119,98,99,102,116]⟩) (I (i:Int))=some (U8 b):=by
  intro i b hi
  have hi5:=(List.getElem?_eq_some_iff.1 hi).1
  simp only[List.length_cons,List.length_nil] at hi5
  have:i=0\/i=1\/i=2\/i=3\/i=4:=oM
  rcases this with rfl|rfl|rfl|rfl|rfl<;>(simp at hi; subst hi; rfl)
 have loop:∀(d i:Nat),i+d=5->(∀(j b:Nat),j<i->([119,98,99,102,116]:List Nat)[j]?=some b->c≠b)->WP (fun p:Nat × Nat=>a0d p.1 p.2 (U8 c) (I i) h) fun v h'=>v=I (mdI c)/\h=h':=by
  intro d
  induction d with
  |zero=>
   intro i hi hn
   refine WP.rnd (fun i' j=>a4f i' j (U8 c) (I i) h) ?_
   refine g0 ?_
   refine WP.lv (WP.ret ⟨?_,rfl⟩) fun i j=>rfl
   have h0:=hn 0 119 oM rfl
   have h1:=hn 1 98 oM rfl
   have h2:=hn 2 99 oM rfl
   have h3:=hn 3 102 oM rfl
   have h4:=hn 4 116 oM rfl
   simp[mdI,md,h0,h1,h2,h3,h4]
  |succ d ih=>
   intro i hi hn
   refine WP.rnd (fun i' j=>a4f i' j (U8 c) (I i) h) ?_
   obtain ⟨b,hb⟩:∃b,([119,98,99,102,116]:List Nat)[i]?=some b:=⟨_,List.getElem?_eq_getElem (by simp; omega)⟩
   have hx:=hix i b hb
   by_cases hc:b=c
   ·subst hc
    have he:binV .eql .scalar (U8 b) (U8 b)=some (.bool true):=equ_t rfl
    refine g2 @hx @he ?_
    refine WP.lv (WP.ret ⟨?_,rfl⟩) fun i j=>rfl
    have:i=0\/i=1\/i=2\/i=3\/i=4:=oM
    rcases this with rfl|rfl|rfl|rfl|rfl<;>(simp at hb; subst hb; rfl)
   ·have he:binV .eql .scalar (U8 b) (U8 c)=some (.bool false):=equ_f oM
    refine g2 @hx @he ?_
    refine ih (i+1) oM fun j b' hj hb'=>?_
    by_cases hji:j=i
    ·subst hji
     rw[hb] at hb'; injection hb' with hb'
     subst hb'; exact fun q=>hc q.symm
    ·exact hn j b' oM hb'
 rw[show AV.int .i64 0=I ((0:Nat):Int) from rfl]
 exact WP.ent (loop 5 0 rfl fun j b hj=>oM) fun i=>rfl
theorem mdI_t {c m:Nat}(h:md c=some m):mdI c=m/\m<5:=by
 refine ⟨by simp[mdI,h],?_⟩
 simp only[md] at h
 split at h
 ·injection h; omega
 split at h
 ·injection h; omega
 split at h
 ·injection h; omega
 split at h
 ·injection h; omega
 split at h
 ·injection h; omega
 ·cases h
theorem mdI_f {c:Nat}(h:md c=none):mdI c = -1:=by simp[mdI,h]
def PR (S:ByteArray)(ro:Nat)(h:Heap)(d:Nat)(n:Nd)(q:Nat)(v:AV)(h':Heap):Prop:=
 FrS (fun o=>o=ro) h h'/\h'[ro]?=some (.cells ⟨[.str S,I q,I d,I 0],0,0,false⟩)/\∃c5,v=.agg c5/\NVD h' (fun o=>h.length<=o/\o<h'.length) n c5
theorem PR.fin {h H:Heap}{d q:Nat}{n:Nd}{c5:List AV}(hro:ro<h.length)(f:FrS (fun o=>o=ro) h H)(hr:H[ro]?=some (.cells ⟨[.str S,I q,I d,I 0],0,0,false⟩))(nv:NVD H (fun o=>h.length<o/\o<H.length) n c5) :
  PR S ro h d n q (.agg c5) (H.set h.length (.cells ⟨c5,0,0,false⟩)):=by
 refine ⟨⟨by simp; exact f.len,fun o h1 h2=>?_⟩,?_,c5,rfl,nv.frs (FrS.set1 H h.length _) (fun o h1 h2 h3=>oM) fun o h1 h2=>⟨oM,by simp; exact h1⟩⟩
 ·rw[List.getElem?_set_ne oM]; exact f.get h1 h2
 ·rw[List.getElem?_set_ne oM]; exact hr
theorem a5X {h H:Heap}(f:FrS (fun o=>o=ro) h H)(x:AObj):FrS (fun o=>o=ro) h (H.set ro x):=
 ⟨by simp; exact f.len,fun o h1 h2=>by rw[List.getElem?_set_ne (fun q=>h1 q.symm)]; exact f.get h1 h2⟩
theorem c5f {h:Heap}(hro:ro<h.length){d:Nat}:∀(f p s s' q:Nat) (H:Heap),clsF S f p s=some (s',q)->S.size<=200->s<32->FrS (fun o=>o=ro) h H->H[ro]?=some (.cells ⟨[.str S,I p,I d,I 0],0,0,false⟩)->H[h.length]?=some (.cells ⟨[I 0,I 0,I 0,I 0,.nils],0,0,false⟩)->
  WP (fun p':Nat × Nat=>l6_ p'.1 p'.2 (.ptr ro 0 4 0) (.ptr h.length 0 5 0) (I s) H) (PR S ro h d (.set s') q):=by
 intro f
 induction f with
 |zero=>intro p s s' q H hc; simp[clsF] at hc
 |succ f ih=>
  intro p s s' q H hc hS hs fr hr ht
  refine WP.rnd (fun i' j=>a5l i' j (.ptr ro 0 4 0) (.ptr h.length 0 5 0) (I s) H) ?_
  have hlen:=fr.len
  have hHl:h.length<H.length:=(List.getElem?_eq_some_iff.1 ht).1
  simp only[clsF] at hc
  cases hb:bt S p with
  |none=>rw[hb] at hc; cases hc
  |some c=>
   rw[hb] at hc
   simp only at hc
   have hp:=bt_lt hb
   refine WP.call (a5W hr hb) ?_
   rintro _ _ ⟨rfl,rfl⟩
   have hne:¬ro=h.length:=oM
   have hne':¬h.length=ro:=oM
   by_cases h93:c=93/\0<s
   ·rw[if_pos h93] at hc
    injection hc with hc
    injection hc with hc1 hc2
    subst hc1 hc2
    obtain ⟨rfl,hs0⟩:=h93
    have he:binV .eql .scalar (U8 93) (.int .u8 93)=some (.bool true):=equ_t rfl
    have hg:binV .gtr .scalar (I (s:Int)) (.int .i64 0)=some (.bool true):=gtr_t oM
    have hrl:ro<H.length:=oM
    refine g5 @a1_ @he @hg @hr @ht ?_
    refine WP.lv (WP.ret ?_) fun i j=>rfl
    refine PR.fin hro (a5X fr _) (by rw[List.getElem?_set_self hrl]; simp) (a9f (n:=.set s) rfl)
   ·rw[if_neg h93] at hc
    cases hm:md c with
    |none=>rw[hm] at hc; cases hc
    |some m=>
     rw[hm] at hc
     simp only at hc
     obtain ⟨hmi,hm5⟩:=mdI_t hm
     have hor:s ||| 2 ^ m<32:=Nat.or_lt_two_pow (n:=5) hs (Nat.pow_lt_pow_right oM hm5)
     have hori:=or_i (a:=s) (b:=2 ^ m) oM (Nat.pow_lt_pow_right oM oM)
     have hrl:ro<H.length:=oM
     have h93':¬((c:Int)=93):=by
      rintro q
      have:c=93:=oM
      subst this; simp[md] at hm
     have he:=equ_f h93'
     refine g2 @a1_ @he ?_
     refine WP.call (a5w H) ?_
     rintro _ _ ⟨rfl,rfl⟩
     rw[hmi]
     refine g0 ?_
     refine WP.call (a5w H) ?_
     rintro _ _ ⟨rfl,rfl⟩
     rw[hmi]
     have hcv:convV .u64 (I (m:Int))=some (.int .u64 m):=a5n oM oM
     have hsh:binV .shl .scalar (.int .i64 1) (.int .u64 (m:Int))=some (I ((2 ^ m:Nat):Int)):=by
      have:=shl_i (k:=.u64) (m:=(m:Int)) oM oM
      simpa using this
     refine g4 @hcv @hsh @hori @hr ?_
     refine ih (p+1) (s ||| 2 ^ m) s' q _ hc hS hor (a5X fr _) (by rw[List.getElem?_set_self hrl]; simp) (by rw[List.getElem?_set_ne hne]; exact ht)
theorem c1U {h:Heap}{f p d s' q:Nat}(hS:S.size<=200)(hc:clsF S f p 0=some (s',q))(hr:h[ro]?=some (.cells ⟨[.str S,I p,I d,I 0],0,0,false⟩)) :
  Tot tab n3_ [.ptr ro 0 4 0] h (PR S ro h d (.set s') q):=by
 refine WP.tot (fun k=>a6p k _ h) ?_
 have hro:=(List.getElem?_eq_some_iff.1 hr).1
 have e1:Ext h (h++[AObj.cells ⟨[I 0,I 0,I 0,I 0,.nils],0,0,false⟩]):=Ext.push _ _
 refine g0 ?_
 exact WP.ent (c5f hro f p 0 s' q _ hc hS oM (FrS.ofExt e1) (e1.get hr) (by simp)) fun i=>rfl
theorem subu {a:Nat}(h:48<=a)(h2:a<=57):binV .sub .scalar (U8 a) (.int .u8 48)=some (U8 (a-48)):=by
 show some (AV.int .u8 (IntKind.u8.wrap ((a:Int)-48)))=_
 congr 2
 simp[IntKind.wrap,IntKind.bits,IntKind.signed]
 omega
theorem convu {a:Nat}(h:a<=255):convV .i64 (U8 a)=some (I a):=by
 show some (AV.int .i64 (IntKind.i64.wrap (a:Int)))=_
 rw[d6_ oM oM]
theorem b6C {o n:Nat}{i:Int}(h0:0<=i)(h1:i<n):idxA n 1 (.ptr o 0 n 0) (I i)=some (.ptr o (i.toNat) (i.toNat+1) 0):=by
 simp[idxA,h0,h1]
theorem b6D {dd n3 t4:Nat}{at_:AV}{H:Heap}{i p d c:Nat}{x y:AV}{Q:AV->Heap->Prop}(hi:i<2)(hS:S.size<=200)(hb:bt S p=some c)(h48:48<=c)(h57:c<=57)(hs:bt S (p+1)=some (if i=0 then 44 else 125))(hr:H[ro]?=some (.cells ⟨[.str S,I p,I d,I 0],0,0,false⟩))(hd:H[dd]?=some (.cells ⟨[x,y],0,0,false⟩))(hne:ro≠dd)(hK:∀H',FrS (fun o=>o=ro\/o=dd) H H'->H'.length=H.length->H'[ro]?=some (.cells ⟨[.str S,I ((p+2:Nat):Int),I d,I 0],0,0,false⟩)->H'[dd]?=some (.cells ⟨[x,y].set i (I ((c-48:Nat):Int)),0,0,false⟩)->
   WP (fun p':Nat × Nat=>g8_ p'.1 p'.2 (.ptr ro 0 4 0) (.ptr n3 0 5 0) (.ptr t4 0 5 0) at_ (.ptr dd 0 2 0) (I ((i+1:Nat):Int)) H') Q) :
  WP (fun p':Nat × Nat=>g8_ p'.1 p'.2 (.ptr ro 0 4 0) (.ptr n3 0 5 0) (.ptr t4 0 5 0) at_ (.ptr dd 0 2 0) (I i) H) Q:=by
 refine WP.rnd (fun i' j=>a0N i' j (.ptr ro 0 4 0) (.ptr n3 0 5 0) (.ptr t4 0 5 0) at_ (.ptr dd 0 2 0) (I i) H) ?_
 have hp:=bt_lt hb
 have hp1:=bt_lt hs
 have hrl:=(List.getElem?_eq_some_iff.1 hr).1
 have hdl:=(List.getElem?_eq_some_iff.1 hd).1
 refine g0 ?_
 refine WP.call (a5W hr hb) ?_
 rintro _ _ ⟨rfl,rfl⟩
 have a1:=lsu_f (a:=c) (b:=48) oM
 have a2:=gtu_f (a:=c) (b:=57) oM
 have a3:=subu h48 h57
 have a4:convV .i64 (U8 (c-48))=some (I ((c-48:Nat):Int)):=convu oM
 have a5:=b6C (o:=dd) (n:=2) (i:=(i:Int)) oM oM
 have hi2:i=0\/i=1:=oM
 have hne':¬dd=ro:=fun q=>hne q.symm
 rcases hi2 with rfl|rfl
 ·have hs':bt S (p+1)=some 44:=by simpa using hs
  simp -implicitDefEqProofs (disch:=first|assumption|omega|(simp only[gL,gA]<;>omega)|fail) only[gC,reduceIte,a1_,a1,a2,a3,a4,a5,hr,hd]
  obtain ⟨H1,hH1⟩:∃H1,H1=(H.set dd (.cells ⟨[I ((c-48:Nat):Int),y],0,0,false⟩)).set ro (.cells ⟨[.str S,I ((p:Int)+1),I d,I 0],0,0,false⟩):=⟨_,rfl⟩
  have r1:H1[ro]?=some (.cells ⟨[.str S,I ((p+1:Nat):Int),I d,I 0],0,0,false⟩):=by rw[hH1,List.getElem?_set_self (by simp; exact hrl)]; rfl
  have d1:H1[dd]?=some (.cells ⟨[I ((c-48:Nat):Int),y],0,0,false⟩):=by rw[hH1,List.getElem?_set_ne hne,List.getElem?_set_self hdl]
  have f1:FrS (fun o=>o=ro\/o=dd) H H1:=⟨by rw[hH1]; simp,fun o h1 h2=>by rw[hH1,List.getElem?_set_ne (fun q=>h1 (.inl q.symm)),List.getElem?_set_ne (fun q=>h1 (.inr q.symm))]⟩
  have l1:H1.length=H.length:=by rw[hH1]; simp
  rw[<-hH1]
  refine WP.call (a5W r1 hs') ?_
  rintro _ _ ⟨rfl,rfl⟩
  have b1:=neu_f (a:=44) (b:=44) rfl
  have hrl1:ro<H1.length:=oM
  refine g3 @a1_ @b1 @r1 ?_
  refine hK _ ⟨by simp; omega,fun o h1 h2=>?_⟩ (by simp; exact l1) (by rw[List.getElem?_set_self hrl1]; rfl) (by rw[List.getElem?_set_ne hne]; exact d1)
  rw[List.getElem?_set_ne (fun q=>h1 (.inl q.symm))]
  exact f1.get h1 h2
 ·have hs':bt S (p+1)=some 125:=by simpa using hs
  simp -implicitDefEqProofs (disch:=first|assumption|omega|(simp only[gL,gA]<;>omega)|fail) only[gC,reduceIte,a1_,a1,a2,a3,a4,a5,hr,hd]
  obtain ⟨H1,hH1⟩:∃H1,H1=(H.set dd (.cells ⟨[x,I ((c-48:Nat):Int)],0,0,false⟩)).set ro (.cells ⟨[.str S,I ((p:Int)+1),I d,I 0],0,0,false⟩):=⟨_,rfl⟩
  have r1:H1[ro]?=some (.cells ⟨[.str S,I ((p+1:Nat):Int),I d,I 0],0,0,false⟩):=by rw[hH1,List.getElem?_set_self (by simp; exact hrl)]; rfl
  have d1:H1[dd]?=some (.cells ⟨[x,I ((c-48:Nat):Int)],0,0,false⟩):=by rw[hH1,List.getElem?_set_ne hne,List.getElem?_set_self hdl]
  have f1:FrS (fun o=>o=ro\/o=dd) H H1:=⟨by rw[hH1]; simp,fun o h1 h2=>by rw[hH1,List.getElem?_set_ne (fun q=>h1 (.inl q.symm)),List.getElem?_set_ne (fun q=>h1 (.inr q.symm))]⟩
  have l1:H1.length=H.length:=by rw[hH1]; simp
  rw[<-hH1]
  refine WP.call (a5W r1 hs') ?_
  rintro _ _ ⟨rfl,rfl⟩
  have b1:=neu_f (a:=125) (b:=125) rfl
  have hrl1:ro<H1.length:=oM
  refine g3 @a1_ @b1 @r1 ?_
  refine hK _ ⟨by simp; omega,fun o h1 h2=>?_⟩ (by simp; exact l1) (by rw[List.getElem?_set_self hrl1]; rfl) (by rw[List.getElem?_set_ne hne]; exact d1)
  rw[List.getElem?_set_ne (fun q=>h1 (.inl q.symm))]
  exact f1.get h1 h2
theorem c3z {p a b q:Nat}(h:tms S p=some (a,b,q)):∃c0 c1,bt S p=some c0/\48<=c0/\c0<=57/\a=c0-48/\bt S (p+1)=some 44/\bt S (p+2)=some c1/\48<=c1/\c1<=57/\b=c1-48/\bt S (p+3)=some 125/\a<=b/\q=p+4:=by
 have hd:∀{x:Option Nat} {m:Nat},dig x=some m->∃c,x=some c/\48<=c/\c<=57/\m=c-48:=by
  intro x m hx
  cases x with
  |none=>simp[dig] at hx
  |some c=>
   simp only[dig] at hx
   split at hx
   ·rename_i hc
    injection hx with hx
    exact ⟨c,rfl,hc.1,hc.2,hx.symm⟩
   ·cases hx
 simp only[tms] at h
 split at h
 ·rename_i x y h1 h2
  split at h
  ·rename_i hc
   injection h with h
   injection h with h3 h4
   injection h4 with h4 h5
   subst h3 h4 h5
   obtain ⟨c0,k1,k2,k3,k4⟩:=hd h1
   obtain ⟨c1,m1,m2,m3,m4⟩:=hd h2
   exact ⟨c0,c1,k1,k2,k3,k4,hc.1,m1,m2,m3,m4,hc.2.1,hc.2.2,rfl⟩
  ·cases h
 ·cases h
theorem c1V {h:Heap}{p d a b q:Nat}{n:Nd}{c5:List AV}{D:Nat->Prop}(hS:S.size<=200)(hc:tms S p=some (a,b,q))(hp0:0<p)(hr:h[ro]?=some (.cells ⟨[.str S,I p,I d,I 0],0,0,false⟩))(nv:NVD h D n c5)(hD:∀o,D o->o≠ro) :
  Tot tab h9_ [.ptr ro 0 4 0,.agg c5] h fun v h'=>FrS (fun o=>o=ro) h h'/\h'[ro]?=some (.cells ⟨[.str S,I q,I d,I 0],0,0,false⟩)/\∃c,v=.agg c/\NVD h' (fun o=>(D o/\o<h.length)\/(h.length<=o/\o<h'.length)) (.rep a b n) c:=by
 refine WP.tot (fun k=>a6o k _ _ h) ?_
 obtain ⟨c0,c1,k1,k2,k3,rfl,k5,m1,m2,m3,rfl,m5,hab,rfl⟩:=c3z hc
 have hro:=(List.getElem?_eq_some_iff.1 hr).1
 have hp:=bt_lt k1
 obtain ⟨s5,rfl,ho5⟩:=nv.inv
 obtain ⟨H,hH⟩:∃H,H=((h++[AObj.cells ⟨[I n.kind,I n.st,I n.lo,I n.hi,s5],0,0,false⟩])++[AObj.cells ⟨[I 0,I 0,I 0,I 0,.nils],0,0,false⟩])++[AObj.cells ⟨[I 0,I 0],0,0,false⟩]:=⟨_,rfl⟩
 have eH:Ext h H:=by rw[hH]; exact eX
 have x0:H[h.length]?=some (.cells ⟨[I n.kind,I n.st,I n.lo,I n.hi,s5],0,0,false⟩):=by rw[hH]; simp
 have x1:H[h.length+1]?=some (.cells ⟨[I 0,I 0,I 0,I 0,.nils],0,0,false⟩):=by rw[hH]; simp
 have x2:H[h.length+2]?=some (.cells ⟨[I 0,I 0],0,0,false⟩):=by rw[hH]; simp
 have hl:H.length=h.length+3:=by rw[hH]; simp
 have hrH:=eH.get hr
 have hp2:h.length+1+1=h.length+2:=rfl
 refine g3 @ho5 @hr @hp2 ?_
 rw[<-hH,show AV.int .i64 0=I ((0:Nat):Int) from rfl]
 refine WP.ent (b6D (i:=0) (p:=p) (d:=d) (c:=c0) oM hS k1 k2 k3 (by simpa using k5) hrH x2 oM fun H1 f1 l1 r1 d1=>?_) fun i=>rfl
 refine b6D (i:=1) (p:=p+2) (d:=d) (c:=c1) (x:=I ((c0-48:Nat):Int)) (y:=I 0) oM hS m1 m2 m3 (by simpa using m5) r1 d1 oM fun H2 f2 l2 r2 d2=>?_
 refine WP.rnd (fun i' j=>a0N i' j (.ptr ro 0 4 0) (.ptr h.length 0 5 0) (.ptr (h.length+1) 0 5 0) _ (.ptr (h.length+2) 0 2 0) (I ((1+1:Nat):Int)) H2) ?_
 refine g0 ?_
 refine WP.lv (WP.congr (fun i=>a5k i (.ptr ro 0 4 0) (.ptr h.length 0 5 0) (.ptr (h.length+1) 0 5 0) _ (.ptr (h.length+2) 0 2 0) H2) ?_) fun i j=>rfl
 have f12:=f1.trans f2
 have y0:H2[h.length]?=some (.cells ⟨[I n.kind,I n.st,I n.lo,I n.hi,s5],0,0,false⟩):=(f12.get oM oM).trans x0
 have y1:H2[h.length+1]?=some (.cells ⟨[I 0,I 0,I 0,I 0,.nils],0,0,false⟩):=(f12.get oM oM).trans x1
 have y2:H2[h.length+2]?=some (.cells ⟨[I ((c0-48:Nat):Int),I ((c1-48:Nat):Int)],0,0,false⟩):=d2
 have a0:=b6C (o:=h.length+2) (n:=2) (i:=0) oM oM
 have a1:=b6C (o:=h.length+2) (n:=2) (i:=1) oM oM
 have hl2:H2.length=h.length+3:=oM
 refine g8 @a0 @a1 @y0 @y1 @y2 @ho5 (show Int.toNat 0=0 from rfl) (show Int.toNat 1=1 from rfl) ?_
 have nvH:NVD H (fun o=>D o/\o<h.length) n [I n.kind,I n.st,I n.lo,I n.hi,s5]:=nv.ext eH fun o h1 h2=>⟨h2,h1⟩
 have nv2:NVD H2 (fun o=>D o/\o<h.length) n [I n.kind,I n.st,I n.lo,I n.hi,s5]:=nvH.frs f12 (fun o h1 h2 h3=>by
  rcases h3 with h3|h3
  ·exact hD o h2.1 h3
  ·omega) fun _ _ z=>z
 have e3:Ext H2 (H2++[AObj.cells ⟨[I n.kind,I n.st,I n.lo,I n.hi,s5],0,0,false⟩]):=Ext.push _ _
 have row3:(H2++[AObj.cells ⟨[I n.kind,I n.st,I n.lo,I n.hi,s5],0,0,false⟩])[H2.length]?=some (.cells ⟨[I n.kind,I n.st,I n.lo,I n.hi,s5],0,0,false⟩):=by simp
 generalize H2++[AObj.cells ⟨[I n.kind,I n.st,I n.lo,I n.hi,s5],0,0,false⟩]=H3 at *
 have l3:=e3.len
 have f3:∀(x:AObj),FrS (fun o=>o=h.length+1) H3 (H3.set (h.length+1) x):=fun x=>FrS.set1 ..
 have row3l:=(List.getElem?_eq_some_iff.1 row3).1
 have nv3:∀x,NVD (H3.set (h.length+1) x) (fun o=>D o/\o<h.length) n [I n.kind,I n.st,I n.lo,I n.hi,s5]:=fun x=>
  (nv2.ext e3 (D':=fun o=>D o/\o<h.length) fun _ _ z=>z).frs (f3 x) (fun o h1 h2 h3=>oM) fun _ _ z=>z
 refine WP.ret ⟨⟨by simp; omega,fun o h1 h2=>?_⟩,?_,_,rfl,.mk (n:=.rep (c0-48) (c1-48) n) (css:=[[I n.kind,I n.st,I n.lo,I n.hi,s5]]) (b6y (by rw[List.getElem?_set_ne oM]; simpa using row3) rfl (by simp)) (fun _=>?_) ?_⟩
 ·rw[List.getElem?_set_ne oM,(a3i.1 e3).2 o oM,f12.get oM oM,(a3i.1 eH).2 o h2]
 ·rw[List.getElem?_set_ne oM]
  exact e3.get r2
 ·exact .inr ⟨by simp[AV.obj]; omega,by simp[AV.obj]; omega⟩
 ·refine .cons ((nv3 _).frs (FrS.refl (fun _=>False) _) (fun _ _ _ z=>z) fun o _ z=>.inl z) .nil
end
end Go.Gm.AQ
namespace Go.Gm.AQ
open Go Go.Gm
abbrev RD (S:ByteArray)(p d:Nat):AObj:=.cells ⟨[.str S,I p,I d,I 0],0,0,false⟩
abbrev Z5:AObj:=.cells ⟨[I 0,I 0,I 0,I 0,.nils],0,0,false⟩
section
variable (S:ByteArray) (ro:Nat) (f:Nat)
def AtS:Prop:=∀(d p:Nat) (n:Nd) (q:Nat) (h:Heap),prs S f d .at p=some (n,q)->d<=30->h[ro]?=some (RD S p d)->Tot tab z2_ [.ptr ro 0 4 0] h (PR S ro h d n q)
def PcS:Prop:=∀(d p:Nat) (n:Nd) (q:Nat) (h:Heap),prs S f d .pc p=some (n,q)->d<=30->h[ro]?=some (RD S p d)->Tot tab f1_ [.ptr ro 0 4 0] h (PR S ro h d n q)
def JnS:Prop:=∀(d p:Nat) (n:Nd) (q:Nat) (h:Heap),prs S f d .jn p=some (n,q)->d<=30->h[ro]?=some (RD S p d)->Tot tab f4_ [.ptr ro 0 4 0] h (PR S ro h d n q)
def UnS:Prop:=∀(d p:Nat) (n:Nd) (q:Nat) (h:Heap),prs S f d .un p=some (n,q)->d<=30->h[ro]?=some (RD S p d)->Tot tab f0_ [.ptr ro 0 4 0] h (PR S ro h d n q)
def PclS:Prop:=∀(d p:Nat) (n m:Nd) (q:Nat) (h H:Heap) (no:Nat) (c5:List AV),prs S f d (.pcl n) p=some (m,q)->d<=30->ro<h.length->FrS (fun o=>o=ro) h H->H[ro]?=some (RD S p d)->H[h.length]?=some Z5->h.length<no->H[no]?=some (.cells ⟨c5,0,0,false⟩)->
 NVD H (fun o=>h.length<o/\o<H.length/\o≠no) n c5->WP (fun p':Nat × Nat=>e3_ p'.1 p'.2 (.ptr ro 0 4 0) (.ptr h.length 0 5 0) (.ptr no 0 5 0) H) (PR S ro h d m q)
structure NL (S:ByteArray) (ro:Nat) (h H:Heap) (d p:Nat) (s:AV) (lg:Nat) (l:List Nd) (css:List (List AV)):Prop where
 hro:ro<h.length
 fr:FrS (fun o=>o=ro) h H
 hr:H[ro]?=some (RD S p d)
 ht:H[h.length]?=some Z5
 gr:Gr lg (lg+1) H 5 s css
 lgl:h.length<lg/\lg<H.length
 nn:s≠.nils
 nvs:NVDs H (fun o=>h.length<o/\o<H.length/\o≠lg) l css
def JnlS:Prop:=∀(d p:Nat) (l:List Nd) (m:Nd) (q:Nat) (h H:Heap) (s:AV) (lg:Nat) (css:List (List AV)),prs S f d (.jnl l) p=some (m,q)->d<=30->l≠[]->l.length+f<=1000000->NL S ro h H d p s lg l css->
 WP (fun p':Nat × Nat=>n1_ p'.1 p'.2 (.ptr ro 0 4 0) (.ptr h.length 0 5 0) s H) (PR S ro h d m q)
def UnlS:Prop:=∀(d p:Nat) (l:List Nd) (m:Nd) (q:Nat) (h H:Heap) (s:AV) (lg:Nat) (css:List (List AV)),prs S f d (.unl l) p=some (m,q)->d<=30->l≠[]->l.length+f<=1000000->NL S ro h H d p s lg l css->
 WP (fun p':Nat × Nat=>k9_ p'.1 p'.2 (.ptr ro 0 4 0) (.ptr h.length 0 5 0) s H) (PR S ro h d m q)
end
section
variable {S:ByteArray} {ro:Nat} {f:Nat}
theorem b9e (hU:UnS S ro f)(hS:S.size<=200){h:Heap}{p d q:Nat}{n:Nd}(hu:prs S f (d+1) .un p=some (n,q))(h41:bt S q=some 41)(hd:d<30)(hr:h[ro]?=some (RD S p d)) :
  Tot tab x4_ [.ptr ro 0 4 0] h (PR S ro h d n (q+1)):=by
 refine WP.tot (fun k=>a6q k _ h) ?_
 have hro:=(List.getElem?_eq_some_iff.1 hr).1
 have hq:=bt_lt h41
 obtain ⟨H1,hH1⟩:∃H1,H1=(h++[Z5]).set ro (.cells ⟨[.str S,I p,I ((d:Int)+1),I 0],0,0,false⟩):=⟨_,rfl⟩
 have r1:H1[ro]?=some (RD S p (d+1)):=by rw[hH1,List.getElem?_set_self (by simp; omega)]; rfl
 have t1:H1[h.length]?=some Z5:=by rw[hH1,List.getElem?_set_ne oM]; simp
 have f1:FrS (fun o=>o=ro) h H1:=by rw[hH1]; exact a5X (FrS.ofExt (Ext.push _ _)) _
 have l1:H1.length=h.length+1:=by rw[hH1]; simp
 refine g1 @hr ?_
 rw[<-hH1]
 refine WP.call (hU (d+1) p n q H1 hu oM r1) ?_
 rintro _ H2 ⟨f2,r2,c5,rfl,nv⟩
 obtain ⟨s5,rfl,ho5⟩:=nv.inv
 have l2:=f2.len
 have t2:H2[h.length]?=some Z5:=(f2.get oM oM).trans t1
 have e3:Ext H2 (H2++[AObj.cells ⟨[I n.kind,I n.st,I n.lo,I n.hi,s5],0,0,false⟩]):=Ext.push _ _
 have r3:=e3.get r2
 have t3:=e3.get t2
 have x3:(H2++[AObj.cells ⟨[I n.kind,I n.st,I n.lo,I n.hi,s5],0,0,false⟩])[H2.length]?=some (.cells ⟨[I n.kind,I n.st,I n.lo,I n.hi,s5],0,0,false⟩):=by simp
 refine g2 @ho5 @c9_ ?_
 have f3:FrS (fun o=>o=ro) h (H2++[AObj.cells ⟨[I n.kind,I n.st,I n.lo,I n.hi,s5],0,0,false⟩]):=(f1.trans f2).trans (FrS.ofExt e3)
 have nv3:=nv.ext e3 (D':=fun o=>h.length<o/\o<H2.length) fun o h1 h2=>oM
 have l3:H2.length<(H2++[AObj.cells ⟨[I n.kind,I n.st,I n.lo,I n.hi,s5],0,0,false⟩]).length:=by simp
 generalize H2++[AObj.cells ⟨[I n.kind,I n.st,I n.lo,I n.hi,s5],0,0,false⟩]=H3 at *
 refine WP.call (a5W r3 h41) ?_
 rintro _ _ ⟨rfl,rfl⟩
 have b1:=neu_f (a:=41) (b:=41) rfl
 have hne:¬ro=h.length:=oM
 have hne2:¬ro=H2.length:=oM
 have hrl:ro<H3.length:=oM
 have hd1:((d+1:Nat):Int)-1=d:=oM
 refine g7 @a1_ @b1 @r3 @hd1 @x3 @ho5 @t3 ?_
 refine WP.ret (PR.fin hro (a5X (a5X f3 _) _) ?_ ((nv3.frs (FrS.set1 H3 ro _) (D':=fun o=>h.length<o/\o<H3.length) (fun o h1 h2 h3=>oM) (fun o h1 h2=>oM)).frs (FrS.set1 _ ro _) (fun o h1 h2 h3=>oM) fun o h1 h2=>by simp; omega))
 rw[List.getElem?_set_self (by simp; exact hrl)]
 rfl
theorem c3A (hU:UnS S ro f)(hS:S.size<=200):AtS S ro (f+1):=by
 intro d p n q h hp hd hr
 refine WP.tot (fun k=>a6N k _ h) ?_
 have hro:=(List.getElem?_eq_some_iff.1 hr).1
 have e1:Ext h (h++[Z5]):=Ext.push _ _
 have r1:=e1.get hr
 have t1:(h++[Z5])[h.length]?=some Z5:=by simp
 have f1:FrS (fun o=>o=ro) h (h++[Z5]):=FrS.ofExt e1
 have l1:(h++[Z5]).length=h.length+1:=by simp
 rw[prs] at hp
 cases hb:bt S p with
 |none=>rw[hb] at hp; cases hp
 |some c=>
 rw[hb] at hp
 simp only at hp
 have hlt:=bt_lt hb
 refine g0 ?_
 generalize h++[Z5]=H1 at *
 refine WP.call (a5W r1 hb) ?_
 rintro _ _ ⟨rfl,rfl⟩
 have hne:¬ro=h.length:=oM
 have hrl:ro<H1.length:=oM
 obtain ⟨H2,hH2⟩:∃H2,H2=H1.set ro (.cells ⟨[.str S,I ((p:Int)+1),I d,I 0],0,0,false⟩):=⟨_,rfl⟩
 have r2:H2[ro]?=some (RD S (p+1) d):=by rw[hH2,List.getElem?_set_self hrl]; rfl
 have t2:H2[h.length]?=some Z5:=by rw[hH2,List.getElem?_set_ne hne]; exact t1
 have f2:FrS (fun o=>o=ro) h H2:=by rw[hH2]; exact a5X f1 _
 have l2:H2.length=h.length+1:=by rw[hH2]; simp; exact l1
 have leaf:∀{n:Nd},n.kids=[]->PR S ro h d n (p+1) (.agg [I n.kind,I n.st,I n.lo,I n.hi,.nils]) (H2.set h.length (.cells ⟨[I n.kind,I n.st,I n.lo,I n.hi,.nils],0,0,false⟩)):=fun hk=>PR.fin hro f2 r2 (a9f hk)
 have callee:∀{n:Nd} {q:Nat} {v:AV} {H3:Heap},PR S ro H2 d n q v H3->∃s5,v=.agg [I n.kind,I n.st,I n.lo,I n.hi,s5]/\s5.one=true/\H3[h.length]?=some Z5/\h.length<H3.length/\PR S ro h d n q v (H3.set h.length (.cells ⟨[I n.kind,I n.st,I n.lo,I n.hi,s5],0,0,false⟩)):=by
  rintro n q v H3 ⟨f3,r3,c5,rfl,nv⟩
  obtain ⟨s5,rfl,ho5⟩:=nv.inv
  have:=f3.len
  exact ⟨s5,rfl,ho5,(f3.get oM oM).trans t2,oM,PR.fin hro (f2.trans f3) r3 (nv.frs (FrS.refl (fun _=>False) _) (fun _ _ _ z=>z) fun o h1 h2=>oM)⟩
 by_cases h40:c=40
 ·subst h40
  rw[if_pos rfl] at hp
  by_cases h30:30<=d
  ·rw[if_pos h30] at hp; cases hp
  rw[if_neg h30] at hp
  cases hu:prs S f (d+1) .un (p+1) with
  |none=>rw[hu] at hp; cases hp
  |some x=>
  obtain ⟨n',q'⟩:=x
  rw[hu] at hp
  simp only at hp
  by_cases h41:bt S q'=some 41
  ·rw[if_pos h41] at hp
   injection hp with hp
   injection hp with hp1 hp2
   subst hp1 hp2
   have a1:=equ_t (a:=40) (b:=40) rfl
   have a2:=equ_f (a:=40) (b:=46) oM
   have a3:=equ_f (a:=40) (b:=48) oM
   have a4:=equ_f (a:=40) (b:=95) oM
   have a5:=equ_f (a:=40) (b:=91) oM
   refine g3 @a1_ @a1 @r1 ?_
   rw[<-hH2]
   refine WP.call (a5w H2) ?_
   rintro _ _ ⟨rfl,rfl⟩
   rw[show mdI 40 = -1 from rfl]
   refine g5 @a1 @a2 @a3 @a4 @a5 ?_
   refine WP.call (b9e hU hS hu h41 oM r2) ?_
   rintro v H3 hv
   obtain ⟨s5,rfl,ho5,t3,hl3,res⟩:=callee hv
   refine g2 @t3 @ho5 ?_
   exact WP.ret res
  ·rw[if_neg h41] at hp; cases hp
 ·rw[if_neg h40] at hp
  have a1:=equ_f (a:=c) (b:=40) oM
  cases hm:md c with
  |some m=>
   rw[hm] at hp
   injection hp with hp
   injection hp with hp1 hp2
   subst hp1 hp2
   obtain ⟨hmi,hm5⟩:=mdI_t hm
   refine g3 @a1_ @a1 @r1 ?_
   rw[<-hH2]
   refine WP.call (a5w H2) ?_
   rintro _ _ ⟨rfl,rfl⟩
   rw[hmi]
   refine g0 ?_
   refine WP.call (a5w _) ?_
   rintro _ _ ⟨rfl,rfl⟩
   rw[hmi]
   have hcv:convV .u64 (I (m:Int))=some (.int .u64 m):=a5n oM oM
   have hsh:binV .shl .scalar (.int .i64 1) (.int .u64 (m:Int))=some (I ((2 ^ m:Nat):Int)):=by
    have:=shl_i (k:=.u64) (m:=(m:Int)) oM oM
    simpa using this
   refine g3 @hcv @hsh @t2 ?_
   exact WP.ret (leaf (n:=.set (2 ^ m)) rfl)
  |none=>
   rw[hm] at hp
   simp only at hp
   have hmi:=mdI_f hm
   refine g3 @a1_ @a1 @r1 ?_
   rw[<-hH2]
   refine WP.call (a5w H2) ?_
   rintro _ _ ⟨rfl,rfl⟩
   rw[hmi]
   by_cases h46:c=46
   ·subst h46
    rw[if_pos rfl] at hp
    injection hp with hp
    injection hp with hp1 hp2
    subst hp1 hp2
    have a2:=equ_t (a:=46) (b:=46) rfl
    refine g2 @a2 @t2 ?_
    exact WP.ret (leaf (n:=.set 31) rfl)
   rw[if_neg h46] at hp
   have a2:=equ_f (a:=c) (b:=46) oM
   by_cases h48:c=48
   ·subst h48
    rw[if_pos rfl] at hp
    injection hp with hp
    injection hp with hp1 hp2
    subst hp1 hp2
    have a3:=equ_t (a:=48) (b:=48) rfl
    refine g3 @a2 @a3 @t2 ?_
    exact WP.ret (leaf (n:=.emp) rfl)
   rw[if_neg h48] at hp
   have a3:=equ_f (a:=c) (b:=48) oM
   by_cases h95:c=95
   ·subst h95
    rw[if_pos rfl] at hp
    injection hp with hp
    injection hp with hp1 hp2
    subst hp1 hp2
    have a4:=equ_t (a:=95) (b:=95) rfl
    refine g4 @a2 @a3 @a4 @t2 ?_
    exact WP.ret (leaf (n:=.eps) rfl)
   rw[if_neg h95] at hp
   have a4:=equ_f (a:=c) (b:=95) oM
   by_cases h91:c=91
   ·subst h91
    rw[if_pos rfl] at hp
    cases hcl:clsF S f (p+1) 0 with
    |none=>rw[hcl] at hp; cases hp
    |some x=>
    obtain ⟨s',q'⟩:=x
    rw[hcl] at hp
    injection hp with hp
    injection hp with hp1 hp2
    subst hp1 hp2
    have a5:=equ_t (a:=91) (b:=91) rfl
    refine g4 @a2 @a3 @a4 @a5 ?_
    refine WP.call (c1U hS hcl r2) ?_
    rintro v H3 hv
    obtain ⟨s5,rfl,ho5,t3,hl3,res⟩:=callee hv
    refine g2 @t3 @ho5 ?_
    exact WP.ret res
   ·rw[if_neg h91] at hp; cases hp
theorem c1W {d p:Nat}{h H:Heap}{no:Nat}{Q:AV->Heap->Prop}(hp:p<200)(hr:H[ro]?=some (RD S p d))(hK:WP (fun p':Nat × Nat=>e3_ p'.1 p'.2 (.ptr ro 0 4 0) (.ptr h.length 0 5 0) (.ptr no 0 5 0) (H.set ro (RD S (p+1) d))) Q) :
  WP (fun p':Nat × Nat=>e4_ p'.1 p'.2 (.ptr ro 0 4 0) (.ptr h.length 0 5 0) (.ptr no 0 5 0) H) Q:=by
 refine WP.congr (fun p'=>a5i p'.1 p'.2 (.ptr ro 0 4 0) (.ptr h.length 0 5 0) (.ptr no 0 5 0) H) ?_
 refine g1 @hr ?_
 exact hK
theorem c1X (ih:PclS S ro f)(hS:S.size<=200):PclS S ro (f+1):=by
 intro d p n m q h H no c5 hp hd hro fr hr ht hno hn nv
 refine WP.rnd (fun i' j=>a5j i' j (.ptr ro 0 4 0) (.ptr h.length 0 5 0) (.ptr no 0 5 0) H) ?_
 rw[prs] at hp
 have htl:=(List.getElem?_eq_some_iff.1 ht).1
 have hnl:=(List.getElem?_eq_some_iff.1 hn).1
 have hrl:ro<H.length:=oM
 obtain ⟨s5,rfl,ho5⟩:=nv.inv
 have stop:∀{m:Nd},m=n->PR S ro h d m p (.agg [I n.kind,I n.st,I n.lo,I n.hi,s5]) (H.set h.length (.cells ⟨[I n.kind,I n.st,I n.lo,I n.hi,s5],0,0,false⟩)):=by
  rintro m rfl
  exact PR.fin hro fr hr (nv.frs (FrS.refl (fun _=>False) _) (fun _ _ _ z=>z) fun o h1 h2=>⟨h2.1,h1⟩)
 have more:∀{n':Nd},n'.kids=[n]->FrS (fun o=>o=ro) h (((H++[AObj.cells ⟨[I n.kind,I n.st,I n.lo,I n.hi,s5],0,0,false⟩]).set no (.cells ⟨[I n'.kind,I n'.st,I n'.lo,I n'.hi,.sl H.length 0 1 5 none 0],0,0,false⟩)))/\
   ((H++[AObj.cells ⟨[I n.kind,I n.st,I n.lo,I n.hi,s5],0,0,false⟩]).set no (.cells ⟨[I n'.kind,I n'.st,I n'.lo,I n'.hi,.sl H.length 0 1 5 none 0],0,0,false⟩))[h.length]?=some Z5/\
   NVD ((H++[AObj.cells ⟨[I n.kind,I n.st,I n.lo,I n.hi,s5],0,0,false⟩]).set no (.cells ⟨[I n'.kind,I n'.st,I n'.lo,I n'.hi,.sl H.length 0 1 5 none 0],0,0,false⟩)) (fun o=>h.length<o/\o<H.length+1/\o≠no) n' [I n'.kind,I n'.st,I n'.lo,I n'.hi,.sl H.length 0 1 5 none 0]:=by
  intro n' hk
  have e1:Ext H (H++[AObj.cells ⟨[I n.kind,I n.st,I n.lo,I n.hi,s5],0,0,false⟩]):=Ext.push _ _
  refine ⟨⟨by simp; have:=fr.len; omega,fun o h1 h2=>?_⟩,?_,.mk (css:=[[I n.kind,I n.st,I n.lo,I n.hi,s5]]) (b6y (by rw[List.getElem?_set_ne oM]; simp) rfl (by simp)) (fun _=>?_) ?_⟩
  ·rw[List.getElem?_set_ne oM,(a3i.1 e1).2 o oM,fr.get h1 h2]
  ·rw[List.getElem?_set_ne oM]; exact e1.get ht
  ·exact ⟨by simp[AV.obj]; omega,by simp[AV.obj],by simp[AV.obj]; omega⟩
  ·rw[hk]
   exact .cons ((nv.ext e1 (D':=fun o=>h.length<o/\o<H.length/\o≠no) fun _ _ z=>z).frs (FrS.set1 _ no _) (fun o h1 h2 h3=>h2.2.2 h3) fun o h1 h2=>⟨h2.1,oM,h2.2.2⟩) .nil
 cases hb:bt S p with
 |none=>
  rw[hb] at hp
  injection hp with hp
  injection hp with hp1 hp2
  subst hp2
  refine WP.call (b6B hr hb) ?_
  rintro _ _ ⟨rfl,rfl⟩
  refine g4 @a1_ @hn @ho5 @ht ?_
  exact WP.lv (WP.ret (stop hp1.symm)) fun i j=>rfl
 |some c=>
  rw[hb] at hp
  simp only at hp
  have hlt:=bt_lt hb
  refine WP.call (a5W hr hb) ?_
  rintro _ _ ⟨rfl,rfl⟩
  have cont:∀{n':Nd} (hk:n'.kids=[n]) (hq:prs S f d (.pcl n') (p+1)=some (m,q)),
    WP (fun p':Nat × Nat=>e4_ p'.1 p'.2 (.ptr ro 0 4 0) (.ptr h.length 0 5 0) (.ptr no 0 5 0) ((H++[AObj.cells ⟨[I n.kind,I n.st,I n.lo,I n.hi,s5],0,0,false⟩]).set no (.cells ⟨[I n'.kind,I n'.st,I n'.lo,I n'.hi,.sl H.length 0 1 5 none 0],0,0,false⟩))) (PR S ro h d m q):=by
   intro n' hk hq
   obtain ⟨k1,k2,k3⟩:=more hk
   have e1:Ext H (H++[AObj.cells ⟨[I n.kind,I n.st,I n.lo,I n.hi,s5],0,0,false⟩]):=Ext.push _ _
   have hl1:(H++[AObj.cells ⟨[I n.kind,I n.st,I n.lo,I n.hi,s5],0,0,false⟩]).length=H.length+1:=by simp
   have r1:((H++[AObj.cells ⟨[I n.kind,I n.st,I n.lo,I n.hi,s5],0,0,false⟩]).set no (.cells ⟨[I n'.kind,I n'.st,I n'.lo,I n'.hi,.sl H.length 0 1 5 none 0],0,0,false⟩))[ro]?=some (RD S p d):=by
    rw[List.getElem?_set_ne oM]; exact e1.get hr
   have x1:((H++[AObj.cells ⟨[I n.kind,I n.st,I n.lo,I n.hi,s5],0,0,false⟩]).set no (.cells ⟨[I n'.kind,I n'.st,I n'.lo,I n'.hi,.sl H.length 0 1 5 none 0],0,0,false⟩))[no]?=some (.cells ⟨[I n'.kind,I n'.st,I n'.lo,I n'.hi,.sl H.length 0 1 5 none 0],0,0,false⟩):=List.getElem?_set_self oM
   have hl2:((H++[AObj.cells ⟨[I n.kind,I n.st,I n.lo,I n.hi,s5],0,0,false⟩]).set no (.cells ⟨[I n'.kind,I n'.st,I n'.lo,I n'.hi,.sl H.length 0 1 5 none 0],0,0,false⟩)).length=H.length+1:=by simp
   generalize ((H++[AObj.cells ⟨[I n.kind,I n.st,I n.lo,I n.hi,s5],0,0,false⟩]).set no (.cells ⟨[I n'.kind,I n'.st,I n'.lo,I n'.hi,.sl H.length 0 1 5 none 0],0,0,false⟩))=H2 at *
   refine c1W oM r1 ?_
   refine ih d (p+1) n' m q h _ no _ hq hd hro (a5X k1 _) (List.getElem?_set_self oM) (by rw[List.getElem?_set_ne oM]; exact k2) hno (by rw[List.getElem?_set_ne oM]; exact x1) ?_
   exact k3.frs (FrS.set1 H2 ro _) (fun o h1 h2 h3=>oM) fun o h1 h2=>⟨h2.1,by simp; omega,h2.2.2⟩
  by_cases h42:c=42
  ·subst h42
   rw[if_pos rfl] at hp
   have a1:=equ_t (a:=42) (b:=42) rfl
   refine g4 @a1_ @a1 @hn @ho5 ?_
   exact cont (n':=.star n) rfl hp
  rw[if_neg h42] at hp
  have a1:=equ_f (a:=c) (b:=42) oM
  by_cases h43:c=43
  ·subst h43
   rw[if_pos rfl] at hp
   have a2:=equ_t (a:=43) (b:=43) rfl
   refine g5 @a1_ @a1 @a2 @hn @ho5 ?_
   exact cont (n':=.plus n) rfl hp
  rw[if_neg h43] at hp
  have a2:=equ_f (a:=c) (b:=43) oM
  by_cases h63:c=63
  ·subst h63
   rw[if_pos rfl] at hp
   have a3:=equ_t (a:=63) (b:=63) rfl
   refine g6 @a1_ @a1 @a2 @a3 @hn @ho5 ?_
   exact cont (n':=.opt n) rfl hp
  rw[if_neg h63] at hp
  have a3:=equ_f (a:=c) (b:=63) oM
  by_cases h123:c=123
  ·subst h123
   rw[if_pos rfl] at hp
   cases htm:tms S (p+1) with
   |none=>rw[htm] at hp; cases hp
   |some x=>
   obtain ⟨a,b,q'⟩:=x
   rw[htm] at hp
   simp only at hp
   have a4:=equ_t (a:=123) (b:=123) rfl
   obtain ⟨H1,hH1⟩:∃H1,H1=H.set ro (.cells ⟨[.str S,I ((p:Int)+1),I d,I 0],0,0,false⟩):=⟨_,rfl⟩
   have r1:H1[ro]?=some (RD S (p+1) d):=by rw[hH1,List.getElem?_set_self hrl]; rfl
   have t1:H1[h.length]?=some Z5:=by rw[hH1,List.getElem?_set_ne oM]; exact ht
   have x1:H1[no]?=some (.cells ⟨[I n.kind,I n.st,I n.lo,I n.hi,s5],0,0,false⟩):=by rw[hH1,List.getElem?_set_ne oM]; exact hn
   have f1:FrS (fun o=>o=ro) h H1:=by rw[hH1]; exact a5X fr _
   have l1:H1.length=H.length:=by rw[hH1]; simp
   have nv1:NVD H1 (fun o=>h.length<o/\o<H.length/\o≠no) n [I n.kind,I n.st,I n.lo,I n.hi,s5]:=by
    rw[hH1]
    exact nv.frs (FrS.set1 H ro _) (fun o h1 h2 h3=>oM) fun _ _ z=>z
   refine g6 @a1_ @a1 @a2 @a3 @a4 @hr ?_
   rw[<-hH1]
   refine g1 @hn ?_
   refine WP.call (c1V hS htm oM r1 nv1 (fun o z=>oM)) ?_
   rintro _ H3 ⟨f3,r3,c,rfl,nv3⟩
   obtain ⟨s6,rfl,ho6⟩:=nv3.inv
   have l3:=f3.len
   have x3:=(f3.get (o:=no) oM oM).trans x1
   have t3:=(f3.get (o:=h.length) oM oM).trans t1
   refine g2 @x3 @ho6 ?_
   refine ih d q' (.rep a b n) m q h _ no _ hp hd hro (⟨by simp; have:=f1.len; omega,fun o h1 h2=>?_⟩) (by rw[List.getElem?_set_ne oM]; exact r3) (by rw[List.getElem?_set_ne oM]; exact t3) hno (List.getElem?_set_self oM) ?_
   ·rw[List.getElem?_set_ne oM,f3.get h1 (by have:=f1.len; omega),f1.get h1 h2]
   ·exact nv3.frs (FrS.set1 H3 no _) (fun o h1 h2 h3=>oM) fun o h1 h2=>by simp; omega
  ·rw[if_neg h123] at hp
   injection hp with hp
   injection hp with hp1 hp2
   subst hp2
   have a4:=equ_f (a:=c) (b:=123) oM
   refine g8 @a1_ @a1 @a2 @a3 @a4 @hn @ho5 @ht ?_
   exact WP.lv (WP.ret (stop hp1.symm)) fun i j=>rfl
theorem c3B (ha:AtS S ro f)(hl:PclS S ro f):PcS S ro (f+1):=by
 intro d p n q h hp hd hr
 refine WP.tot (fun k=>a6m k _ h) ?_
 have hro:=(List.getElem?_eq_some_iff.1 hr).1
 rw[prs] at hp
 cases hx:prs S f d .at p with
 |none=>rw[hx] at hp; cases hp
 |some x=>
 obtain ⟨n1,q1⟩:=x
 rw[hx] at hp
 simp only at hp
 have e1:Ext h (h++[Z5]):=Ext.push _ _
 have t1:(h++[Z5])[h.length]?=some Z5:=by simp
 have l1:(h++[Z5]).length=h.length+1:=by simp
 refine g0 ?_
 refine WP.call (ha d p n1 q1 (h++[Z5]) hx hd (e1.get hr)) ?_
 rintro _ H2 ⟨f2,r2,c5,rfl,nv⟩
 obtain ⟨s5,rfl,ho5⟩:=nv.inv
 have l2:=f2.len
 have t2:=(f2.get (o:=h.length) oM oM).trans t1
 have e3:Ext H2 (H2++[AObj.cells ⟨[I n1.kind,I n1.st,I n1.lo,I n1.hi,s5],0,0,false⟩]):=Ext.push _ _
 refine g2 @ho5 @c9_ ?_
 exact WP.ent (hl d q1 n1 n q h _ H2.length _ hp hd hro (((FrS.ofExt e1).trans f2).trans (FrS.ofExt e3)) (e3.get r2) (e3.get t2) oM (by simp) (nv.ext e3 fun o h1 h2=>⟨oM,by simp; omega,oM⟩)) fun i=>rfl
end
end Go.Gm.AQ
namespace Go.Gm.AQ
open Go Go.Gm
section
variable {S:ByteArray} {ro:Nat} {f:Nat} {h H:Heap} {d p:Nat} {s:AV} {lg:Nat} {l:List Nd} {css:List (List AV)}
theorem NL.setR (a:NL S ro h H d p s lg l css){p' d':Nat}:NL S ro h (H.set ro (RD S p' d')) d' p' s lg l css:=by
 have h1:=a.hro
 have h2:=a.fr.len
 have h3:=a.lgl
 refine ⟨a.hro,a5X a.fr _,List.getElem?_set_self oM,by rw[List.getElem?_set_ne oM]; exact a.ht,a.gr.set oM _,by simp; exact a.lgl,a.nn,a.nvs.frs (FrS.set1 H ro _) (fun o q1 q2 q3=>oM) fun o q1 q2=>by simp; exact q2⟩
theorem NL.add (a:NL S ro h H d p s lg l css){H2:Heap}{n:Nd}{q:Nat}{v:AV}(pr:PR S ro H d n q v H2)(hl:css.length<=2000000) :
  ∃s5 s' H3,v=.agg [I n.kind,I n.st,I n.lo,I n.hi,s5]/\s5.one=true/\apnd 5 56 s (.sl H2.length 0 1 5 none 0) (H2++[.cells ⟨[I n.kind,I n.st,I n.lo,I n.hi,s5],0,0,false⟩])=some (s',H3)/\NL S ro h H3 d q s' lg (l++[n]) (css++[[I n.kind,I n.st,I n.lo,I n.hi,s5]]):=by
 obtain ⟨f2,r2,c5,rfl,nv⟩:=pr
 obtain ⟨s5,rfl,ho5⟩:=nv.inv
 have h1:=a.hro
 have h2:=a.fr.len
 have h3:=a.lgl
 have h4:=f2.len
 have htl:=(List.getElem?_eq_some_iff.1 a.ht).1
 have g2:Gr lg (lg+1) H2 5 s css:=Gr.frs' a.gr f2 fun _ z=>oM
 have t2:=(f2.get (o:=h.length) oM oM).trans a.ht
 have n2:=a.nvs.frs f2 (D':=fun o=>h.length<o/\o<H.length/\o≠lg) (fun o q1 q2 q3=>oM) fun _ _ z=>z
 have e3:Ext H2 (H2++[AObj.cells ⟨[I n.kind,I n.st,I n.lo,I n.hi,s5],0,0,false⟩]):=Ext.push _ _
 have hl3:(H2++[AObj.cells ⟨[I n.kind,I n.st,I n.lo,I n.hi,s5],0,0,false⟩]).length=H2.length+1:=by simp
 obtain ⟨s',H3,lg',m1,m2,m3,m4,m5⟩:=Gr.appQ (bytes:=56) (g2.ext e3) (fun _=>oM) (Gr.lit (sz:=5) (v:=[I n.kind,I n.st,I n.lo,I n.hi,s5]) rfl).sl oM oM (by simp; omega)
 obtain rfl:=m5 a.nn
 have hs':s'≠.nils:=m2.nnil (by simp)
 have h5:=m4.len
 refine ⟨s5,s',H3,rfl,ho5,m1,a.hro,⟨oM,fun o q1 q2=>?_⟩,(m4.get oM oM).trans (e3.get r2),(m4.get oM oM).trans (e3.get t2),m2,oM,hs',NVDs.snoc (n:=n) (cs:=[I n.kind,I n.st,I n.lo,I n.hi,s5]) ?_ ?_⟩
 ·rw[m4.get oM oM,(a3i.1 e3).2 o oM,f2.get q1 oM,a.fr.get q1 q2]
 ·exact (nv.ext e3 (D':=fun o=>H.length<=o/\o<H2.length) fun _ _ z=>z).frs m4 (fun o q1 q2 q3=>oM) fun o q1 q2=>oM
 ·exact (n2.frs (E:=fun _=>False) (FrS.ofExt e3) (fun _ _ _ z=>z) (D':=fun o=>h.length<o/\o<H.length/\o≠lg') fun _ _ z=>z).frs m4 (fun o q1 q2 q3=>oM) fun o q1 q2=>oM
theorem NL.one {H2:Heap}{n:Nd}{q:Nat}{v:AV}(hr:h[ro]?=some (RD S p d))(pr:PR S ro (h++[Z5]) d n q v H2) :
  ∃s5,v=.agg [I n.kind,I n.st,I n.lo,I n.hi,s5]/\s5.one=true/\NL S ro h (H2++[.cells ⟨[I n.kind,I n.st,I n.lo,I n.hi,s5],0,0,false⟩]) d q (.sl H2.length 0 1 5 none 0) H2.length [n] [[I n.kind,I n.st,I n.lo,I n.hi,s5]]:=by
 obtain ⟨f2,r2,c5,rfl,nv⟩:=pr
 obtain ⟨s5,rfl,ho5⟩:=nv.inv
 have hro:=(List.getElem?_eq_some_iff.1 hr).1
 have e1:Ext h (h++[Z5]):=Ext.push _ _
 have l1:(h++[Z5]).length=h.length+1:=by simp
 have l2:=f2.len
 have t1:(h++[Z5])[h.length]?=some Z5:=by simp
 have e3:Ext H2 (H2++[AObj.cells ⟨[I n.kind,I n.st,I n.lo,I n.hi,s5],0,0,false⟩]):=Ext.push _ _
 refine ⟨s5,rfl,ho5,hro,((FrS.ofExt e1).trans f2).trans (FrS.ofExt e3),e3.get r2,e3.get ((f2.get oM oM).trans t1),Gr.lit (sz:=5) rfl,⟨oM,by simp⟩,by simp,.cons (nv.ext e3 fun o q1 q2=>⟨oM,by simp; omega,oM⟩) .nil⟩
theorem NL.fin1 (a:NL S ro h H d p s lg l css){n:Nd}(hl:l=[n]):∃s5,css=[[I n.kind,I n.st,I n.lo,I n.hi,s5]]/\s5.one=true/\PR S ro h d n p (.agg [I n.kind,I n.st,I n.lo,I n.hi,s5]) (H.set h.length (.cells ⟨[I n.kind,I n.st,I n.lo,I n.hi,s5],0,0,false⟩)):=by
 have hn:=a.nvs
 rw[hl] at hn
 cases hn with
 |cons x y=>
  cases y
  obtain ⟨s5,rfl,ho5⟩:=x.inv
  exact ⟨s5,rfl,ho5,PR.fin a.hro a.fr a.hr (x.frs (FrS.refl (fun _=>False) _) (fun _ _ _ z=>z) fun o q1 q2=>⟨q2.1,q1⟩)⟩
theorem NL.finL (a:NL S ro h H d p s lg l css){n:Nd}(hk:n.kids=l)(h1:n.st=0)(h2:n.lo=0)(h3:n.hi=0):PR S ro h d n p (.agg [I n.kind,I 0,I 0,I 0,s]) (H.set h.length (.cells ⟨[I n.kind,I 0,I 0,I 0,s],0,0,false⟩)):=by
 have:=a.lgl
 have nv:NVD H (fun o=>h.length<o/\o<H.length) n [I n.kind,I n.st,I n.lo,I n.hi,s]:=.mk a.gr.sl (fun z=>by have:=a.gr.objIn z; omega) (by rw[hk]; exact a.nvs.frs (FrS.refl (fun _=>False) _) (fun _ _ _ z=>z) fun o q1 q2=>⟨q2.1,q1⟩)
 rw[h1,h2,h3] at nv
 exact PR.fin a.hro a.fr a.hr nv
theorem b4K (a:NL S ro h H d p s lg l css)(hl:l≠[]):WP (fun i:Nat=>x2_ i (.ptr h.length 0 5 0) s H) (PR S ro h d (finJ l) p):=by
 refine WP.congr (fun i=>a5E i (.ptr h.length 0 5 0) s H) ?_
 have ht:=a.ht
 have htl:=(List.getElem?_eq_some_iff.1 ht).1
 have sl':Sl H 5 s (css.map fun x=>x):=by rw[List.map_id']; exact a.gr.sl
 have hln:=a.nvs.len
 have hso:=a.gr.sl.one
 have hsc:=a.gr.sl.cells
 match l,hl with
 |[n],_=>
  obtain ⟨s5,rfl,ho5,res⟩:=a.fin1 rfl
  have e0:=Ext.refl H
  have hg:gi [[I n.kind,I n.st,I n.lo,I n.hi,s5]] (0:Int)=[I n.kind,I n.st,I n.lo,I n.hi,s5]:=rfl
  refine g6 sl'.lenG sl'.idxG sl'.ldN @hg @ho5 @ht ?_
  exact WP.ret res
 |n1::n2::r,_=>
  have h2:2<=css.length:=by rw[<-hln]; simp
  refine g4 sl'.lenG @hso @hsc @ht ?_
  exact WP.ret (a.finL (n:=.join (n1::n2::r)) rfl rfl rfl rfl)
theorem b6E (a:NL S ro h H d p s lg l css)(hl:l≠[]):WP (fun i:Nat=>u5_ i (.ptr h.length 0 5 0) s H) (PR S ro h d (finU l) p):=by
 refine WP.congr (fun i=>a5b i (.ptr h.length 0 5 0) s H) ?_
 have ht:=a.ht
 have htl:=(List.getElem?_eq_some_iff.1 ht).1
 have sl':Sl H 5 s (css.map fun x=>x):=by rw[List.map_id']; exact a.gr.sl
 have hln:=a.nvs.len
 have hso:=a.gr.sl.one
 have hsc:=a.gr.sl.cells
 match l,hl with
 |[n],_=>
  obtain ⟨s5,rfl,ho5,res⟩:=a.fin1 rfl
  have e0:=Ext.refl H
  have hg:gi [[I n.kind,I n.st,I n.lo,I n.hi,s5]] (0:Int)=[I n.kind,I n.st,I n.lo,I n.hi,s5]:=rfl
  refine g6 sl'.lenG sl'.idxG sl'.ldN @hg @ho5 @ht ?_
  exact WP.ret res
 |n1::n2::r,_=>
  have h2:2<=css.length:=by rw[<-hln]; simp
  refine g4 sl'.lenG @hso @hsc @ht ?_
  exact WP.ret (a.finL (n:=.uni (n1::n2::r)) rfl rfl rfl rfl)
end
section
variable {S:ByteArray} {ro:Nat} {f:Nat}
theorem c1Y (hp:PcS S ro f)(ih:JnlS S ro f):JnlS S ro (f+1):=by
 intro d p l m q h H s lg css hx hd hl hlf a
 refine WP.rnd (fun i' j=>a5F i' j (.ptr ro 0 4 0) (.ptr h.length 0 5 0) s H) ?_
 rw[prs] at hx
 cases hb:bt S p with
 |none=>
  rw[hb] at hx
  injection hx with hx
  injection hx with hx1 hx2
  subst hx1 hx2
  refine WP.call (b6B a.hr hb) ?_
  rintro _ _ ⟨rfl,rfl⟩
  refine g1 @a1_ ?_
  exact WP.lv (b4K a hl) fun i j=>rfl
 |some c=>
  rw[hb] at hx
  simp only at hx
  refine WP.call (a5W a.hr hb) ?_
  rintro _ _ ⟨rfl,rfl⟩
  by_cases h124:c=124
  ·subst h124
   rw[if_pos rfl] at hx
   injection hx with hx
   injection hx with hx1 hx2
   subst hx1 hx2
   have a1:=equ_t (a:=124) (b:=124) rfl
   refine g2 @a1_ @a1 ?_
   exact WP.lv (b4K a hl) fun i j=>rfl
  rw[if_neg h124] at hx
  have a1:=equ_f (a:=c) (b:=124) oM
  by_cases h41:c=41
  ·subst h41
   rw[if_pos rfl] at hx
   injection hx with hx
   injection hx with hx1 hx2
   subst hx1 hx2
   have a2:=equ_t (a:=41) (b:=41) rfl
   refine g3 @a1_ @a1 @a2 ?_
   exact WP.lv (b4K a hl) fun i j=>rfl
  rw[if_neg h41] at hx
  have a2:=equ_f (a:=c) (b:=41) oM
  cases hy:prs S f d .pc p with
  |none=>rw[hy] at hx; cases hx
  |some y=>
  obtain ⟨n,q'⟩:=y
  rw[hy] at hx
  simp only at hx
  refine g3 @a1_ @a1 @a2 ?_
  refine WP.call (hp d p n q' H hy hd a.hr) ?_
  rintro v H2 hv
  have hln:=a.nvs.len
  obtain ⟨s5,s',H3,rfl,ho5,m1,a'⟩:=a.add hv oM
  refine g2 @ho5 @m1 ?_
  exact ih d q' (l++[n]) m q h H3 s' lg _ hx hd (by simp) (by simp; omega) a'
theorem c3C (hp:PcS S ro f)(hl:JnlS S ro f)(hf:f<=900000):JnS S ro (f+1):=by
 intro d p n q h hx hd hr
 refine WP.tot (fun k=>a6M k _ h) ?_
 rw[prs] at hx
 cases hy:prs S f d .pc p with
 |none=>rw[hy] at hx; cases hx
 |some y=>
 obtain ⟨n1,q1⟩:=y
 rw[hy] at hx
 simp only at hx
 have e1:Ext h (h++[Z5]):=Ext.push _ _
 refine g0 ?_
 refine WP.call (hp d p n1 q1 (h++[Z5]) hy hd (e1.get hr)) ?_
 rintro v H2 hv
 obtain ⟨s5,rfl,ho5,a⟩:=NL.one hr hv
 refine g1 @ho5 ?_
 exact WP.ent (hl d q1 [n1] n q h _ _ _ _ hx hd (by simp) (by simp; omega) a) fun i=>rfl
theorem c1Z (hp:JnS S ro f)(ih:UnlS S ro f)(hS:S.size<=200):UnlS S ro (f+1):=by
 intro d p l m q h H s lg css hx hd hl hlf a
 refine WP.rnd (fun i' j=>a5c i' j (.ptr ro 0 4 0) (.ptr h.length 0 5 0) s H) ?_
 rw[prs] at hx
 cases hb:bt S p with
 |none=>
  rw[hb] at hx
  injection hx with hx
  injection hx with hx1 hx2
  subst hx1 hx2
  refine WP.call (b6B a.hr hb) ?_
  rintro _ _ ⟨rfl,rfl⟩
  refine g1 @a1_ ?_
  exact WP.lv (b6E a hl) fun i j=>rfl
 |some c=>
  rw[hb] at hx
  simp only at hx
  have hlt:=bt_lt hb
  refine WP.call (a5W a.hr hb) ?_
  rintro _ _ ⟨rfl,rfl⟩
  by_cases h124:c=124
  ·subst h124
   rw[if_pos rfl] at hx
   have a1:=neu_f (a:=124) (b:=124) rfl
   cases hy:prs S f d .jn (p+1) with
   |none=>rw[hy] at hx; cases hx
   |some y=>
   obtain ⟨n,q'⟩:=y
   rw[hy] at hx
   simp only at hx
   have hr:=a.hr
   have aR:=a.setR (p':=p+1) (d':=d)
   obtain ⟨H1,hH1⟩:∃H1,H1=H.set ro (.cells ⟨[.str S,I ((p:Int)+1),I d,I 0],0,0,false⟩):=⟨_,rfl⟩
   have hR:H.set ro (RD S (p+1) d)=H1:=by rw[hH1]; rfl
   rw[hR] at aR
   refine g3 @a1_ @a1 @hr ?_
   rw[<-hH1]
   refine WP.call (hp d (p+1) n q' H1 hy hd aR.hr) ?_
   rintro v H2 hv
   have hln:=a.nvs.len
   obtain ⟨s5,s',H3,rfl,ho5,m1,a'⟩:=aR.add hv oM
   refine g2 @ho5 @m1 ?_
   exact ih d q' (l++[n]) m q h H3 s' lg _ hx hd (by simp) (by simp; omega) a'
  ·rw[if_neg h124] at hx
   injection hx with hx
   injection hx with hx1 hx2
   subst hx1 hx2
   have a1:=neu_t (a:=c) (b:=124) oM
   refine g2 @a1_ @a1 ?_
   exact WP.lv (b6E a hl) fun i j=>rfl
theorem c3D (hp:JnS S ro f)(hl:UnlS S ro f)(hf:f<=900000):UnS S ro (f+1):=by
 intro d p n q h hx hd hr
 refine WP.tot (fun k=>a6j k _ h) ?_
 rw[prs] at hx
 cases hy:prs S f d .jn p with
 |none=>rw[hy] at hx; cases hx
 |some y=>
 obtain ⟨n1,q1⟩:=y
 rw[hy] at hx
 simp only at hx
 have e1:Ext h (h++[Z5]):=Ext.push _ _
 refine g0 ?_
 refine WP.call (hp d p n1 q1 (h++[Z5]) hy hd (e1.get hr)) ?_
 rintro v H2 hv
 obtain ⟨s5,rfl,ho5,a⟩:=NL.one hr hv
 refine g1 @ho5 ?_
 exact WP.ent (hl d q1 [n1] n q h _ _ _ _ hx hd (by simp) (by simp; omega) a) fun i=>rfl
theorem c3E (hS:S.size<=200):∀f,f<=900000->AtS S ro f/\PcS S ro f/\PclS S ro f/\JnS S ro f/\JnlS S ro f/\UnS S ro f/\UnlS S ro f:=by
 intro f
 induction f with
 |zero=>
  intro _
  refine ⟨?_,?_,?_,?_,?_,?_,?_⟩
  ·intro d p n q h hx; simp[prs] at hx
  ·intro d p n q h hx; simp[prs] at hx
  ·intro d p n m q h H no c5 hx; simp[prs] at hx
  ·intro d p n q h hx; simp[prs] at hx
  ·intro d p l m q h H s lg css hx; simp[prs] at hx
  ·intro d p n q h hx; simp[prs] at hx
  ·intro d p l m q h H s lg css hx; simp[prs] at hx
 |succ f ih=>
  intro hf
  obtain ⟨i1,i2,i3,i4,i5,i6,i7⟩:=ih oM
  exact ⟨c3A i6 hS,c3B i1 i3,c1X i3 hS,c3C i2 i5 oM,c1Y i2 i5,c3D i4 i7 oM,c1Z i4 i7 hS⟩
end
theorem c2a {S:ByteArray}{f:Nat}{n:Nd}(hS:S.size<=200)(hf:f<=900000)(hp:prs S f 0 .un 0=some (n,S.size))(h:Heap) :
  Tot tab a0f [.str S] h fun v h'=>Ext h h'/\∃c5,v=.tup [.agg c5,I 0,I 0]/\NVD h' (fun o=>h.length<=o/\o<h'.length) n c5:=by
 refine WP.tot (fun k=>b0d k _ h) ?_
 have hlb:lenB (.str S)=some (I S.size):=rfl
 have e1:Ext h ((h++[Z5])++[RD S 0 0]):=eX
 have hl1:((h++[Z5])++[RD S 0 0]).length=h.length+2:=by simp
 refine g1 @hlb ?_
 have hU:=(c3E (ro:=h.length+1) hS f hf).2.2.2.2.2.1
 refine WP.call (hU 0 0 n S.size ((h++[Z5])++[RD S 0 0]) hp oM (by simp)) ?_
 rintro v H2 ⟨f2,r2,c5,rfl,nv⟩
 obtain ⟨s5,rfl,ho5⟩:=nv.inv
 have l2:=f2.len
 have t2:=(f2.get (o:=h.length) oM oM).trans (show ((h++[Z5])++[RD S 0 0])[h.length]?=some Z5 by simp)
 have e3:Ext H2 (H2++[AObj.cells ⟨[I n.kind,I n.st,I n.lo,I n.hi,s5],0,0,false⟩]):=Ext.push _ _
 have r3:=e3.get r2
 have t3:=e3.get t2
 have x3:(H2++[AObj.cells ⟨[I n.kind,I n.st,I n.lo,I n.hi,s5],0,0,false⟩])[H2.length]?=some (.cells ⟨[I n.kind,I n.st,I n.lo,I n.hi,s5],0,0,false⟩):=by simp
 have l3:=e3.len
 have nv3:=nv.ext e3 (D':=fun o=>h.length<o/\o<H2.length) fun o q1 q2=>oM
 have f3:FrS (fun o=>o=h.length+1) ((h++[Z5])++[RD S 0 0]) (H2++[AObj.cells ⟨[I n.kind,I n.st,I n.lo,I n.hi,s5],0,0,false⟩]):=f2.trans (FrS.ofExt e3)
 refine g2 @ho5 @c9_ ?_
 generalize H2++[AObj.cells ⟨[I n.kind,I n.st,I n.lo,I n.hi,s5],0,0,false⟩]=H3 at *
 refine g3 @r2 @r3 @hlb ?_
 refine WP.congr (fun i=>a8j i _ _ _ H3) ?_
 refine g4 @r3 @x3 @ho5 @t3 ?_
 have e4:Ext h H3:=f3.ext e1 fun o q1 q2=>oM
 refine WP.ret ⟨e4.set (Nat.le_refl _) _,_,rfl,nv3.frs (FrS.set1 H3 h.length _) (fun o q1 q2 q3=>oM) fun o q1 q2=>by simp; omega⟩
end Go.Gm.AQ
