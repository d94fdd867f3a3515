/- A part of the proof (GmAQnr, GmAQns, GmAQnt, GmDj, GmRl, GmBi, GmAQF, GmAQG, GmAQH, GmAQI, GmAQJ, GmAQK, GmAQR, GmAQS). -/
import Derived.Test.YtldnkafmanalmaaQueryPartsP5
set_option linter.unusedVariables false
set_option linter.unusedSimpArgs false
set_option linter.unusedSectionVars false
namespace Go.Gm.AQ
open Go Go.Gm
def PartS (n:Nd):Prop:=∀(h0 h:Heap) (W:Nat->Prop) (ob:Nat) (b:NS) (c5:List AV),NV h0 n c5->Ext h0 h->(∀o,W o->h0.length<=o/\o<h.length)->BV W h ob b->NSok b->
 Tot tab b9_ [.ptr ob 0 6 0,.agg c5] h fun r h'=>r=.tup [I (NS.part n b).1.1,I (NS.part n b).1.2]/\BV (Wn W h h') h' ob (NS.part n b).2/\FrS W h h'
structure PLs (h0 hE h:Heap) (W0 W:Nat->Prop) (ob o3:Nat) (b:NS) (c5:List AV) (sf st:AV) (oA oB:Nat) (ft:List (Nat × Nat)):Prop where
 e0:Ext h0 h
 le:h0.length<=hE.length
 fr:FrS W0 hE h
 wl:∀o,W o->h0.length<=o/\o<h.length
 w0:∀o,W o->W0 o\/hE.length<=o
 bv:BV W h ob b
 n3:¬W o3
 r3:h[o3]?=some (.cells ⟨c5,0,0,false⟩)
 l3:hE.length<=o3
 gA:Gr oA (oA+1) h 1 sf ((ft.map (·.1)).map encN')
 gB:Gr oB (oB+1) h 1 st ((ft.map (·.2)).map encN')
 nA:sf≠.nils->¬W oA/\oA<h.length/\oA≠o3/\hE.length<=oA
 nB:st≠.nils->¬W oB/\oB<h.length/\oB≠o3/\hE.length<=oB/\(sf≠.nils->oB≠oA)
section
variable {h0 hE h h':Heap} {W0 W:Nat->Prop} {ob o3:Nat} {b b1:NS} {c5:List AV} {sf st:AV} {oA oB:Nat} {ft:List (Nat × Nat)}
theorem PLs.ext (p:PLs h0 hE h W0 W ob o3 b c5 sf st oA oB ft)(e:Ext h h'):PLs h0 hE h' W0 W ob o3 b c5 sf st oA oB ft:=by
 have l:=e.len
 refine ⟨p.e0.trans e,p.le,p.fr.trans (FrS.ofExt e),fun o z=>by have:=p.wl o z; omega,p.w0,p.bv.ext e,p.n3,e.get p.r3,p.l3,p.gA.ext e,p.gB.ext e,fun z=>?_,fun z=>?_⟩
 ·have:=p.nA z; exact ⟨this.1,oM,this.2.2⟩
 ·have:=p.nB z; exact ⟨this.1,oM,this.2.2⟩
theorem PLs.ftv (p:PLs h0 hE h W0 W ob o3 b c5 sf st oA oB ft):FT W h sf st ft:=by
 refine ⟨p.gA.sl,p.gB.sl,fun z=>?_,fun z=>?_⟩
 ·have:=p.gA.objIn z
  have h1:=p.nA z
  rw[show sf.obj=oA by omega]; exact h1.1
 ·have:=p.gB.objIn z
  have h1:=p.nB z
  rw[show st.obj=oB by omega]; exact h1.1
theorem PLs.call (p:PLs h0 hE h W0 W ob o3 b c5 sf st oA oB ft)(f:FrS W h h')(v:BV (Wn W h h') h' ob b1):PLs h0 hE h' W0 (Wn W h h') ob o3 b1 c5 sf st oA oB ft:=by
 have l:=f.len
 have l3:=(List.getElem?_eq_some_iff.1 p.r3).1
 have le:=p.le
 have lE:=p.fr.len
 refine ⟨f.ext p.e0 fun o z1 z2=>by have:=p.wl o z2; omega,p.le,⟨Nat.le_trans p.fr.1 f.1,fun o z1 z2=>(f.get (fun z=>?_) oM).trans (p.fr.get z1 z2)⟩,fun o z=>?_,fun o z=>?_,v,fun z=>?_,by rw[f.get p.n3 l3]; exact p.r3,p.l3,t6_ p.gA f fun z=>(p.nA z).1,t6_ p.gB f fun z=>(p.nB z).1,fun z=>?_,fun z=>?_⟩
 ·rcases p.w0 o z with z|z
  ·exact z1 z
  ·omega
 ·rcases z with z|z
  ·have:=p.wl o z; omega
  ·omega
 ·rcases z with z|z
  ·exact p.w0 o z
  ·exact .inr oM
 ·rcases z with z|z
  ·exact p.n3 z
  ·omega
 ·have:=p.nA z
  refine ⟨fun y=>?_,oM,this.2.2⟩
  rcases y with y|y
  ·exact this.1 y
  ·omega
 ·have:=p.nB z
  refine ⟨fun y=>?_,oM,this.2.2⟩
  rcases y with y|y
  ·exact this.1 y
  ·omega
theorem PLs.add (p:PLs h0 hE h W0 W ob o3 b c5 sf st oA oB ft)(x:Nat × Nat)(hl:ft.length<=100000) :
  ∃s1 h2 s2 h3 oA' oB',apnd 1 8 sf (.sl h.length 0 1 1 none 0) (h++[AObj.cells ⟨[I x.1],0,0,false⟩])=some (s1,h2)/\apnd 1 8 st (.sl h2.length 0 1 1 none 0) (h2++[AObj.cells ⟨[I x.2],0,0,false⟩])=some (s2,h3)/\PLs h0 hE h3 W0 W ob o3 b c5 s1 s2 oA' oB' (ft++[x]):=by
 have l3:=(List.getElem?_eq_some_iff.1 p.r3).1
 have le:=p.le
 have lE:=p.fr.len
 have litA:=Gr.lit (h:=h) (sz:=1) (v:=encN' x.1) rfl
 have e1:Ext h (mkObj h (encN' x.1)):=Ext.push _ _
 rw[a3_] at litA e1
 have hl1:(h++[AObj.cells ⟨encN' x.1,0,0,false⟩]).length=h.length+1:=by simp
 obtain ⟨s1,h2,oA',a1,a2,a3,a4,a5⟩:=Gr.appQ (bytes:=8) (p.gA.ext e1) (fun z=>by have:=p.nA z; omega) litA.sl oM oM (by simp; omega)
 have f1:=(FrS.ofExt (D:=fun q=>sf≠.nils/\q=oA) e1).trans a4
 have l2:=f1.len
 have l12:=a4.len
 have gB1:=t6_ p.gB f1 fun z1 z2=>(p.nB z1).2.2.2.2 z2.1 z2.2
 have v1:=p.bv.frs f1 fun o z1 z2 z3=>(p.nA z3.1).1 (z3.2▸z2)
 have A':s1≠.nils->((oA'=oA/\sf≠.nils)\/h.length<=oA')/\oA'<h2.length:=fun z=>by
  obtain ⟨z1,z2⟩:=a3 z
  exact ⟨z1.imp id fun z=>oM,z2⟩
 have litB:=Gr.lit (h:=h2) (sz:=1) (v:=encN' x.2) rfl
 have e2:Ext h2 (mkObj h2 (encN' x.2)):=Ext.push _ _
 rw[a3_] at litB e2
 have hl2:(h2++[AObj.cells ⟨encN' x.2,0,0,false⟩]).length=h2.length+1:=by simp
 obtain ⟨s2,h3,oB',b1,b2,b3,b4,b5⟩:=Gr.appQ (bytes:=8) (gB1.ext e2) (fun z=>by have:=p.nB z; omega) litB.sl oM oM (by simp; omega)
 have f2:=(FrS.ofExt (D:=fun q=>st≠.nils/\q=oB) e2).trans b4
 have l3':=f2.len
 have l23:=b4.len
 have B':s2≠.nils->((oB'=oB/\st≠.nils)\/h2.length<=oB')/\oB'<h3.length:=fun z=>by
  obtain ⟨z1,z2⟩:=b3 z
  exact ⟨z1.imp id fun z=>oM,z2⟩
 have gA2:=t6_ (a2.cong (show _=((ft++[x]).map (·.1)).map encN' by simp)) f2 fun z1 z2=>by
  rcases (A' z1).1 with ⟨y1,y2⟩|y
  ·exact (p.nB z2.1).2.2.2.2 y2 (by rw[<-y1]; exact z2.2.symm)
  ·have:=p.nB z2.1; omega
 have v2:=v1.frs f2 fun o z1 z2 z3=>(p.nB z3.1).1 (z3.2▸z2)
 have F:FrS (fun q=>(sf≠.nils/\q=oA)\/(st≠.nils/\q=oB)) h h3:=(f1.mono fun o _ z=>.inl z).trans (f2.mono fun o _ z=>.inr z)
 have hF3:¬((sf≠.nils/\o3=oA)\/(st≠.nils/\o3=oB)):=fun z=>by
  rcases z with z|z
  ·have:=p.nA z.1; omega
  ·have:=p.nB z.1; omega
 refine ⟨s1,h2,s2,h3,oA',oB',a1,b1,⟨F.ext p.e0 fun o z1 z2=>?_,p.le,⟨oM,fun o z1 z2=>(F.get (fun z=>?_) oM).trans (p.fr.get z1 z2)⟩,fun o z=>by have:=p.wl o z; omega,p.w0,v2,p.n3,by rw[F.get hF3 l3]; exact p.r3,p.l3,gA2,b2.cong (by simp),fun z=>?_,fun z=>?_⟩⟩
 ·rcases z2 with z2|z2
  ·have:=p.nA z2.1; omega
  ·have:=p.nB z2.1; omega
 ·rcases z with z|z
  ·have:=p.nA z.1; omega
  ·have:=p.nB z.1; omega
 ·obtain ⟨z1,z2⟩:=A' z
  rcases z1 with ⟨y1,y2⟩|y
  ·have:=p.nA y2
   rw[y1]; exact ⟨this.1,oM,this.2.2⟩
  ·exact ⟨fun w=>by have:=p.wl _ w; omega,oM,oM,oM⟩
 ·obtain ⟨z1,z2⟩:=B' z
  rcases z1 with ⟨y1,y2⟩|y
  ·have h6:=p.nB y2
   rw[y1]
   refine ⟨h6.1,oM,h6.2.2.1,h6.2.2.2.1,fun w=>?_⟩
   rcases (A' w).1 with ⟨x1,x2⟩|x1
   ·rw[x1]; exact h6.2.2.2.2 x2
   ·omega
  ·refine ⟨fun w=>by have:=p.wl _ w; omega,oM,oM,oM,fun w=>?_⟩
   have:=(A' w).2; omega
end
structure KidsV (h0:Heap) (n:Nd) (c5:List AV) (sL:AV) (css:List (List AV)):Prop where
 c:c5=[I n.kind,I n.st,I n.lo,I n.hi,sL]
 sl:Sl h0 5 sL (css.map id)
 nv:NVs h0 n.kids css
theorem kidsV {h0:Heap}{n:Nd}{c5:List AV}(a:NV h0 n c5):∃sL css,KidsV h0 n c5 sL css:=by
 obtain ⟨s,css,h1,h2,h3⟩:=a.inv
 exact ⟨s,css,h1,by simpa using h2,h3⟩
theorem KidsV.get {h0:Heap}{n c:Nd}{c5:List AV}{sL:AV}{css:List (List AV)}(k:KidsV h0 n c5 sL css){i:Nat}(hi:n.kids[i]?=some c):∃cc,gi css (i:Int)=cc/\NV h0 c cc/\i<css.length:=by
 obtain ⟨cc,h1,h2⟩:=NVs.get k.nv hi
 have:=(List.getElem?_eq_some_iff.1 h1).1
 refine ⟨cc,?_,h2,this⟩
 rw[b2_ this]
 rw[List.getElem?_eq_getElem this] at h1
 injection h1
section
variable {h0 hE:Heap} {W0:Nat->Prop} {ob o3:Nat} {c5:List AV} {n:Nd} {sL:AV} {css:List (List AV)}
theorem c3v (kv:KidsV h0 n c5 sL css){el:List Nd}(hel:∀(i:Nat) c,el[i]?=some c->(∃c0,n.kids[0]?=some c0)/\((n.kind=5/\n.kids[i]?=some c)\/(n.kind≠5/\n.kids[0]?=some c)))(hell:el.length<=1000)(ih:∀c∈el,PartS c)(sz:∀c∈el,SzN c){s:Nat}{ftE:List (Nat × Nat)}{bE:NS}{Q:AV->Heap->Prop}(hQ:∀h W sf st oA oB,PLs h0 hE h W0 W ob o3 bE c5 sf st oA oB ftE->NSok bE->WP (fun k:Nat=>g7_ k (.ptr ob 0 6 0) (.ptr o3 0 5 0) (I s) sf st h) Q) :
  ∀(d i:Nat) (h:Heap) (W:Nat->Prop) (b:NS) (sf st:AV) (oA oB:Nat) (ft:List (Nat × Nat)),i+d=el.length->ft.length=i->PLs h0 hE h W0 W ob o3 b c5 sf st oA oB ft->NSok b->ft++(NS.parts (el.drop i) b).1=ftE->(NS.parts (el.drop i) b).2=bE->
   WP (fun p:Nat × Nat=>l0_ p.1 p.2 (.ptr ob 0 6 0) (.ptr o3 0 5 0) (I s) sf st (I el.length) (I i) h) Q:=by
 have e5:=kv.c
 intro d
 induction d with
 |zero=>
  intro i h W b sf st oA oB ft hi hfl p ok h1 h2
  refine WP.rnd (fun k j=>a0I k j (.ptr ob 0 6 0) (.ptr o3 0 5 0) (I s) sf st (I el.length) (I i) h) ?_
  rw[List.drop_of_length_le oM,NS.parts] at h1 h2
  simp only[List.append_nil] at h1 h2
  subst h1 h2
  refine g0 ?_
  exact WP.lv (hQ h W sf st oA oB p ok) fun i j=>rfl
 |succ d IH=>
  intro i h W b sf st oA oB ft hi hfl p ok h1 h2
  refine WP.rnd (fun k j=>a0I k j (.ptr ob 0 6 0) (.ptr o3 0 5 0) (I s) sf st (I el.length) (I i) h) ?_
  obtain ⟨c,hc⟩:∃c,el[i]?=some c:=⟨el[i],List.getElem?_eq_getElem oM⟩
  have hdr:el.drop i=c::el.drop (i+1):=by
   rw[List.getElem?_eq_getElem oM] at hc
   injection hc with hc
   rw[<-hc]; exact List.drop_eq_getElem_cons oM
  rw[hdr,NS.parts] at h1 h2
  obtain ⟨sS,sF,oS,oF,rb,_⟩:=p.bv
  by_cases m:b.much=true
  ·rw[if_pos m] at h1 h2
   simp only[List.append_nil] at h1 h2
   subst h1 h2
   rw[m] at rb
   refine g1 @rb ?_
   exact WP.lv (hQ h W sf st oA oB p ok) fun i j=>rfl
  ·rw[if_neg m] at h1 h2
   simp only at h1 h2
   rw[Bool.not_eq_true] at m
   rw[m] at rb
   have hcm:=List.mem_of_getElem? hc
   obtain ⟨⟨c0,hk0⟩,hk⟩:=hel i c hc
   obtain ⟨cc0,k1,k2,k3⟩:=kv.get hk0
   have k1':gi css 0=cc0:=k1
   have r3:=p.r3
   rw[e5] at r3
   have slE:=kv.sl.ext p.e0
   have o0:=k2.one
   have l0:=k2.len
   have b3:∀(h4:Heap) (ox:Nat) (cc:List AV),Ext h h4->h4[ox]?=some (.cells ⟨cc,0,0,false⟩)->NV h0 c cc->
     WP (fun p:Nat × Nat=>l1_ p.1 p.2 (.ptr ob 0 6 0) (.ptr o3 0 5 0) (I s) sf st (I el.length) (I i) (.ptr ox 0 5 0) h4) Q:=by
    intro h4 ox cc e4 rx nvx
    refine WP.congr (fun p=>a5d p.1 p.2 (.ptr ob 0 6 0) (.ptr o3 0 5 0) (I s) sf st (I el.length) (I i) (.ptr ox 0 5 0) h4) ?_
    have p4:=p.ext e4
    have lcc:=nvx.len
    have hld:rdNAt 5 h4[ox]? 0 5 0=some (.agg cc):=by
     rw[rx]; simp only[rdNAt]
     rw[if_pos ⟨oM,Nat.le_refl _⟩,List.drop_zero,List.take_of_length_le oM]
    refine g1 @hld ?_
    refine WP.call (ih c hcm h0 h4 W ob b cc nvx p4.e0 p4.wl p4.bv ok) ?_
    rintro _ h5 ⟨rfl,v5,f5⟩
    have p5:=p4.call f5 v5
    obtain ⟨s1,h6,s2,h7,oA',oB',a1,a2,p7⟩:=p5.add (NS.part c b).1 oM
    refine g4 @a4_ @a5_ @a1 @a2 ?_
    exact IH (i+1) h7 _ _ s1 s2 oA' oB' _ oM (by simp[hfl]) p7 (ok.sz (sz c hcm b).1) (by rw[List.append_assoc]; exact h1) h2
   obtain ⟨h3,hh3⟩:∃h3,h3=((h++[AObj.cells ⟨[I 0,I 0,I 0,I 0,.nils],0,0,false⟩]).set h.length (.cells ⟨cc0,0,0,false⟩)):=⟨_,rfl⟩
   have e3:Ext h h3:=by rw[hh3]; exact eX
   have r33:=e3.get r3
   have sl3:=slE.ext e3
   have rx:h3[h.length]?=some (.cells ⟨cc0,0,0,false⟩):=by rw[hh3]; exact a0_ (by simp)
   have bx:=(List.getElem?_eq_some_iff.1 rx).1
   have sA:∀{a b:List AV},a.length=5->b.length=5->setAll a 0 b=b:=by
    intro a b ha hb
    match a,ha,b,hb with
    |[_,_,_,_,_],_,[_,_,_,_,_],_=>rfl
   have sA0:=sA (a:=[I 0,I 0,I 0,I 0,.nils]) rfl l0
   simp only[I] at sA0
   by_cases q5:n.kind=5
   ·have hki:=(hk.resolve_right fun z=>z.1 q5).2
    obtain ⟨cc,j1,j2,j3⟩:=kv.get hki
    have sB:=sA l0 j2.len
    have lj:=j2.len
    have oj:=j2.one
    obtain ⟨h4,hh4⟩:∃h4,h4=h3.set h.length (.cells ⟨cc,0,0,false⟩):=⟨_,rfl⟩
    simp -implicitDefEqProofs (disch:=first|assumption|omega|exact Ext.refl _|(simp only[gL,gA]<;>omega)|fail) only[gC,reduceIte,rb,r3,slE.idxG,slE.ldN,id_eq,k1',sA0]
    rw[<-hh3]
    simp -implicitDefEqProofs (disch:=first|assumption|omega|exact Ext.refl _|(simp only[gL,gA]<;>omega)|fail) only[gC,reduceIte,r33,q5,sl3.idxG,sl3.ldN,id_eq,j1,rx,sB]
    rw[<-hh4]
    exact b3 h4 h.length cc (by rw[hh4]; exact e3.setr (Nat.le_refl _) _) (by rw[hh4]; exact a0_ bx) j2
   ·have hki:=(hk.resolve_left fun z=>q5 z.1).2
    rw[hk0] at hki
    injection hki with hki
    subst hki
    simp -implicitDefEqProofs (disch:=first|assumption|omega|exact Ext.refl _|(simp only[gL,gA]<;>omega)|fail) only[gC,reduceIte,rb,r3,slE.idxG,slE.ldN,id_eq,k1',sA0]
    rw[<-hh3]
    refine g1 @r33 ?_
    exact b3 h3 h.length cc0 e3 rx k2
end
end Go.Gm.AQ
namespace Go.Gm.AQ
open Go Go.Gm
def elOf:Nd->List Nd
 |.uni l=>l
 |.join l=>l
 |.star c|.plus c|.opt c=>[c]
 |.rep _ hi c=>List.replicate hi c
 |_=>[]
theorem a4T (c:Nd):∀k,NS.times (NS.part c) k=NS.parts (List.replicate k c)
 |0=>by funext b; rw[List.replicate_zero,NS.times,NS.parts]
 |k+1=>by
  funext b
  rw[List.replicate_succ,NS.times,NS.parts,a4T c k]
theorem b2d:(fun b=>([],b))=NS.parts []:=by funext b; rw[NS.parts]
theorem b7D {n:Nd}(h:n.kind≠4)(b:NS):NS.part n b=NS.around n (NS.parts (elOf n)) b:=by
 cases n with
 |join l=>exact absurd rfl h
 |set k=>rw[NS.part,b2d]; rfl
 |emp=>rw[NS.part,b2d]; rfl
 |eps=>rw[NS.part,b2d]; rfl
 |uni l=>rw[NS.part]; rfl
 |star c=>rw[NS.part,a4T]; rfl
 |plus c=>rw[NS.part,a4T]; rfl
 |opt c=>rw[NS.part,a4T]; rfl
 |rep lo hi c=>rw[NS.part,a4T]; rfl
theorem a9g {n c:Nd}(h:c∈elOf n):c∈n.kids:=by
 cases n with
 |rep lo hi d=>rw[List.eq_of_mem_replicate h]; simp[Nd.kids]
 |_=>first|exact h|(simp[elOf] at h)
theorem c1Q {n:Nd}(h4:n.kind≠4)(i:Nat)(c:Nd)(h:(elOf n)[i]?=some c):(∃c0,n.kids[0]?=some c0)/\((n.kind=5/\n.kids[i]?=some c)\/(n.kind≠5/\n.kids[0]?=some c)):=by
 have one:∀d:Nd,[d][i]?=some c->c=d:=fun d h=>by
  have:=List.mem_of_getElem? h
  simpa using this
 cases n with
 |join l=>exact absurd rfl h4
 |set k=>simp[elOf] at h
 |emp=>simp[elOf] at h
 |eps=>simp[elOf] at h
 |uni l=>
  have hi:=(List.getElem?_eq_some_iff.1 h).1
  exact ⟨⟨l[0]'(by simp[elOf] at hi; omega),List.getElem?_eq_getElem _⟩,.inl ⟨rfl,h⟩⟩
 |star d=>rw[one d h]; exact ⟨⟨d,rfl⟩,.inr ⟨by simp[Nd.kind],rfl⟩⟩
 |plus d=>rw[one d h]; exact ⟨⟨d,rfl⟩,.inr ⟨by simp[Nd.kind],rfl⟩⟩
 |opt d=>rw[one d h]; exact ⟨⟨d,rfl⟩,.inr ⟨by simp[Nd.kind],rfl⟩⟩
 |rep lo hi d=>
  rw[List.eq_of_mem_replicate (List.mem_of_getElem? h)]
  exact ⟨⟨d,rfl⟩,.inr ⟨by simp[Nd.kind],rfl⟩⟩
inductive Bd:Nd->Prop
 |mk {n:Nd}:n.st<2 ^ 62->n.kids.length<=1000->(∀c∈n.kids,Bd c)->Bd n
theorem Bd.kid {n:Nd}(g:Bd n):∀c∈n.kids,Bd c:=by cases g; assumption
theorem Bd.len {n:Nd}(g:Bd n):n.kids.length<=1000:=by cases g; assumption
theorem b6A {n:Nd}(g:Gd n)(d:Bd n):(elOf n).length<=1000:=by
 cases n with
 |rep lo hi c=>have:lo<=hi/\hi<=9:=g.rt; simp[elOf]; omega
 |uni l=>exact d.len
 |join l=>exact d.len
 |_=>simp[elOf]
theorem c0l {n:Nd}(g:Gd n):SzP (NS.parts (elOf n)) (elOf n).length:=a7r _ fun c hc=>szn c (g.kid c (a9g hc))
theorem c3w {n:Nd}(g:Gd n)(d:Bd n)(h4:n.kind≠4){ft:List (Nat × Nat)}(h:ft.length=(elOf n).length):LdOk ft n:=by
 have hl:=b6A g d
 cases n with
 |join l=>exact absurd rfl h4
 |set k=>show ft.length<=2000; omega
 |emp=>show ft.length<=2000; omega
 |eps=>show ft.length<=2000; omega
 |uni l=>show ft.length<=2000; omega
 |star c=>exact h
 |plus c=>exact h
 |opt c=>exact h
 |rep lo hi c=>
  have:lo<=hi/\hi<=9:=g.rt
  exact ⟨by rw[h]; simp[elOf],this.2,this.1⟩
section
variable {h0 h:Heap} {W:Nat->Prop} {ob:Nat} {b:NS} {c5:List AV} {n:Nd}
theorem c3x {hE:Heap}{W0:Nat->Prop}{o3 s:Nat}{sf st:AV}{oA oB:Nat}{ft:List (Nat × Nat)}{sL:AV}{css:List (List AV)}(kv:KidsV h0 n c5 sL css)(h5:sL.one=true)(p:PLs h0 hE h W0 W ob o3 b c5 sf st oA oB ft)(ok:NSok b)(hn:b.state.2.much=false->LdOk ft n) :
  WP (fun k:Nat=>g7_ k (.ptr ob 0 6 0) (.ptr o3 0 5 0) (I s) sf st h) fun r h'=>r=.tup [I s,I b.state.1]/\BV (Wn W0 hE h') h' ob (if b.state.2.much then b.state.2 else b.state.2.lead s b.state.1 ft n)/\FrS W0 hE h':=by
 refine WP.congr (fun k:Nat=>a5f k (.ptr ob 0 6 0) (.ptr o3 0 5 0) (I s) sf st h) ?_
 refine WP.call (b2Z p.bv ok.n) ?_
 rintro _ h1 ⟨rfl,v1,f1,l1⟩
 have okS:=ok.sz (b1w b).1
 have p1:=p.call f1 (v1.mono fun o _ z=>.inl z)
 have le:=p.le
 have lE:=p.fr.len
 have fin:∀{h2:Heap} {b2:NS},FrS (Wn W h h1) h1 h2->BV (Wn (Wn W h h1) h1 h2) h2 ob b2->BV (Wn W0 hE h2) h2 ob b2/\FrS W0 hE h2:=fun {h2 b2} f v=>by
  have p2:=p1.call f v
  refine ⟨v.mono fun o z1 z2=>?_,p2.fr⟩
  rcases p2.w0 o z2 with z|z
  ·exact .inl z
  ·exact .inr ⟨z,z1⟩
 obtain ⟨sS,sF,oS,oF,rb,_⟩:=p1.bv
 have r3:=p1.r3
 rw[kv.c] at r3
 have b5:∀h2,WP (fun k:Nat=>l2_ k (I s) (I b.state.1) h2) fun r h'=>r=.tup [I s,I b.state.1]/\h2=h':=fun h2=>by
  refine WP.congr (fun k:Nat=>a5e k (I s) (I b.state.1) h2) ?_
  exact WP.ret ⟨rfl,rfl⟩
 by_cases m:b.state.2.much=true
 ·rw[m] at rb
  refine g1 @rb ?_
  refine (b5 h1).mono ?_
  rintro r h' ⟨rfl,rfl⟩
  rw[if_pos m]
  exact ⟨rfl,fin (FrS.refl _ _) (p1.bv.mono fun o _ z=>.inl z)⟩
 ·rw[if_neg m]
  rw[Bool.not_eq_true] at m
  rw[m] at rb
  refine g2 @rb @r3 ?_
  have hfr:=okS.fr
  have hst:=okS.st
  have hnn:=okS.n
  refine WP.call (b9b p1.bv (fun o z=>(p1.wl o z).2) p1.ftv oM oM (hn m) h5) ?_
  rintro _ h2 ⟨rfl,v2,f2⟩
  refine (b5 h2).mono ?_
  rintro r h' ⟨rfl,rfl⟩
  exact ⟨rfl,fin f2 v2⟩
theorem c3y (hk:n.kind≠4)(g:Gd n)(d:Bd n)(ih:∀c∈elOf n,PartS c):PartS n:=by
 intro h0 h W ob b c5 nv e0 hW v ok
 refine WP.tot (fun k=>a1U k _ _ h) ?_
 rw[b7D hk]
 obtain ⟨sL,css,kv⟩:=kidsV nv
 have h5:=kv.sl.one
 have lkk:=d.len
 have lel:=b6A g d
 have hst:n.st<2 ^ 62:=by cases d; assumption
 obtain ⟨h1,hh1⟩:∃h1,h1=h++[AObj.cells ⟨[I n.kind,I n.st,I n.lo,I n.hi,sL],0,0,false⟩]:=⟨_,rfl⟩
 have e1:Ext h h1:=by rw[hh1]; exact Ext.push _ _
 have l1:h1.length=h.length+1:=by rw[hh1]; simp
 have r1:h1[h.length]?=some (.cells ⟨[I n.kind,I n.st,I n.lo,I n.hi,sL],0,0,false⟩):=by rw[hh1]; simp
 have v1:=v.ext e1
 have l0:=e0.len
 obtain ⟨sS,sF,oS,oF,rb,_⟩:=v1
 have v1:=v.ext e1
 have hcc:=kv.c
 simp only[NS.around]
 by_cases m:b.much=true
 ·rw[m] at rb
  rw[if_pos m,hcc]
  refine g1 @h5 ?_
  rw[<-hh1]
  refine g1 @rb ?_
  exact WP.ret ⟨rfl,v1.mono fun o _ z=>.inl z,FrS.ofExt e1⟩
 ·rw[if_neg m]
  rw[Bool.not_eq_true] at m
  rw[m] at rb
  have hk4:¬n.kind=4:=hk
  rw[hcc]
  refine g1 @h5 ?_
  rw[<-hh1]
  refine g2 @rb @r1 ?_
  refine WP.call (b2Z v1 ok.n) ?_
  rintro _ h2 ⟨rfl,v2,f2,l2⟩
  have okS:=ok.sz (b1w b).1
  have r2:h2[h.length]?=some (.cells ⟨[I n.kind,I n.st,I n.lo,I n.hi,sL],0,0,false⟩):=by
   rw[f2.get (fun z=>by have:=hW _ z; omega) oM]; exact r1
  have p0:PLs h0 h h2 W W ob h.length b.state.2 c5 .nils .nils 0 0 []:=by
   refine ⟨f2.ext (e0.trans e1) fun o z1 z2=>by have:=hW o z2; omega,l0,(FrS.ofExt e1).trans (f2.mono fun o _ z=>z),fun o z=>by have:=hW o z; omega,fun o z=>.inl z,v2,fun z=>by have:=hW _ z; omega,by rw[hcc]; exact r2,Nat.le_refl _,Gr.nil ..,Gr.nil ..,fun z=>absurd rfl z,fun z=>absurd rfl z⟩
  have fin:=fun (Q:AV->Heap->Prop) (hQ:∀h3 W3 sf st oA oB,PLs h0 h h3 W W3 ob h.length (NS.parts (elOf n) b.state.2).2 c5 sf st oA oB (NS.parts (elOf n) b.state.2).1->NSok (NS.parts (elOf n) b.state.2).2->WP (fun k:Nat=>g7_ k (.ptr ob 0 6 0) (.ptr h.length 0 5 0) (I b.state.1) sf st h3) Q)=>
   c3v (hE:=h) (W0:=W) (ob:=ob) (o3:=h.length) kv (el:=elOf n) (c1Q hk) lel ih (fun c hc=>szn c (g.kid c (a9g hc))) (s:=b.state.1) (ftE:=(NS.parts (elOf n) b.state.2).1) (bE:=(NS.parts (elOf n) b.state.2).2) hQ (elOf n).length 0 h2 W b.state.2 .nils .nils 0 0 [] oM rfl p0 okS rfl rfl
  have main:=fin (fun r h'=>r=.tup [I b.state.1,I (NS.parts (elOf n) b.state.2).2.state.1]/\BV (Wn W h h') h' ob (if (NS.parts (elOf n) b.state.2).2.state.2.much then (NS.parts (elOf n) b.state.2).2.state.2 else (NS.parts (elOf n) b.state.2).2.state.2.lead b.state.1 (NS.parts (elOf n) b.state.2).2.state.1 (NS.parts (elOf n) b.state.2).1 n)/\FrS W h h')
   (fun h3 W3 sf st oA oB p3 ok3=>c3x kv h5 p3 ok3 fun hm=>c3w g d hk ((c0l g b.state.2).2.2 (by
    cases hq:(NS.parts (elOf n) b.state.2).2.much with
    |false=>rfl
    |true=>rw[NS.state] at hm; split at hm<;>simp[hq] at hm)).2.1)
  have lk:(css.map id).length=n.kids.length:=by rw[List.length_map]; exact (NVs.length kv.nv).symm
  have slL:=(kv.sl.ext p0.e0).lenG
  rw[List.length_map] at lk
  by_cases k9:n.kind=9
  ·have hel:((elOf n).length:Int)=n.hi:=by
    cases n with
    |rep lo hi c=>simp[elOf,Nd.hi]
    |_=>simp[Nd.kind] at k9
   rw[hel] at main
   refine g3 @r2 @slL @k9 ?_
   refine WP.congr (fun k:Nat=>a0J k (.ptr ob 0 6 0) (.ptr h.length 0 5 0) (I b.state.1) .nils .nils (I n.hi) h2) ?_
   exact WP.ent main fun i=>rfl
  ·have hel:((elOf n).length:Int)=css.length:=by
    rw[lk]
    cases n with
    |rep lo hi c=>exact absurd rfl k9
    |join l=>exact absurd rfl hk
    |_=>simp[elOf,Nd.kids]
   rw[hel] at main
   refine g3 @r2 @slL @k9 ?_
   refine WP.congr (fun k:Nat=>a0J k (.ptr ob 0 6 0) (.ptr h.length 0 5 0) (I b.state.1) .nils .nils (I css.length) h2) ?_
   exact WP.ent main fun i=>rfl
end
end Go.Gm.AQ
namespace Go.Gm.AQ
open Go Go.Gm
def jpE (ft:List (Nat × Nat)):Nat->List (Nat × Nat)
 |0=>[]
 |k+1=>jpE ft k++[((ft.getD k (0,0)).2,(ft.getD (k+1) (0,0)).1)]
theorem b8b (ft:List (Nat × Nat)):∀k,(jpE ft k).length=k
 |0=>rfl
 |k+1=>by simp[jpE,b8b ft k]
theorem b5d:∀(ft:List (Nat × Nat)),NS.joinE ft=(List.range (ft.length-1)).map fun k=>((ft.getD k (0,0)).2,(ft.getD (k+1) (0,0)).1)
 |[]=>rfl
 |[f]=>rfl
 |f::g::l=>by
  have ih:=b5d (g::l)
  rw[NS.joinE,ih,show (f::g::l).length-1=((g::l).length-1)+1 by simp,List.range_succ_eq_map,List.map_cons,List.map_map]
  rfl
theorem c1R (ft:List (Nat × Nat)):NS.joinE ft=jpE ft (ft.length-1):=by
 rw[b5d]
 have:∀n,(List.range n).map (fun k=>((ft.getD k (0,0)).2,(ft.getD (k+1) (0,0)).1))=jpE ft n:=by
  intro n
  induction n with
  |zero=>rfl
  |succ n ih=>rw[List.range_succ,List.map_append,ih,jpE]; rfl
 exact this _
section
variable {h0 hE:Heap} {W0:Nat->Prop} {ob o3:Nat} {c5:List AV} {l:List Nd} {sL:AV} {css:List (List AV)}
theorem c1S (kv:KidsV h0 (.join l) c5 sL css)(hll:l.length<=1000)(ih:∀c∈l,PartS c)(sz:∀c∈l,SzN c){ftE:List (Nat × Nat)}{bE:NS}{Q:AV->Heap->Prop}(hQ:∀h W sf st oA oB,PLs h0 hE h W0 W ob o3 bE c5 sf st oA oB ftE->NSok bE->WP (fun k:Nat=>u7_ k (.ptr ob 0 6 0) sf st h) Q) :
  ∀(d i:Nat) (h:Heap) (W:Nat->Prop) (b:NS) (sf st:AV) (oA oB:Nat) (ft:List (Nat × Nat)),i+d=l.length->ft.length=i->PLs h0 hE h W0 W ob o3 b c5 sf st oA oB ft->NSok b->ft++(NS.parts (l.drop i) b).1=ftE->(NS.parts (l.drop i) b).2=bE->
   WP (fun p:Nat × Nat=>l3_ p.1 p.2 (.ptr ob 0 6 0) (.ptr o3 0 5 0) sf st (I i) h) Q:=by
 have e5:=kv.c
 have lk:css.length=l.length:=(NVs.length kv.nv).symm
 intro d
 induction d with
 |zero=>
  intro i h W b sf st oA oB ft hi hfl p ok h1 h2
  refine WP.rnd (fun k j=>a0L k j (.ptr ob 0 6 0) (.ptr o3 0 5 0) sf st (I i) h) ?_
  rw[List.drop_of_length_le (by omega),NS.parts] at h1 h2
  simp only[List.append_nil] at h1 h2
  subst h1 h2
  have r3:=p.r3
  rw[e5] at r3
  have sl:=(kv.sl.ext p.e0).lenG
  simp -implicitDefEqProofs (disch:=first|assumption|omega|(simp only[gL,gA]<;>omega)|fail) only[gC,reduceIte,r3,sl]
  exact WP.lv (hQ h W sf st oA oB p ok) fun i j=>rfl
 |succ d IH=>
  intro i h W b sf st oA oB ft hi hfl p ok h1 h2
  refine WP.rnd (fun k j=>a0L k j (.ptr ob 0 6 0) (.ptr o3 0 5 0) sf st (I i) h) ?_
  obtain ⟨c,hc⟩:∃c,l[i]?=some c:=⟨l[i],List.getElem?_eq_getElem (by omega)⟩
  have hdr:l.drop i=c::l.drop (i+1):=by
   rw[List.getElem?_eq_getElem (by omega)] at hc
   injection hc with hc
   rw[<-hc]; exact List.drop_eq_getElem_cons (by omega)
  rw[hdr,NS.parts] at h1 h2
  obtain ⟨sS,sF,oS,oF,rb,_⟩:=p.bv
  have r3:=p.r3
  rw[e5] at r3
  have sv:=kv.sl.ext p.e0
  have sl:=sv.lenG
  by_cases m:b.much=true
  ·rw[if_pos m] at h1 h2
   simp only[List.append_nil] at h1 h2
   subst h1 h2
   rw[m] at rb
   simp -implicitDefEqProofs (disch:=first|assumption|omega|(simp only[gL,gA]<;>omega)|fail) only[gC,reduceIte,rb,r3,sl]
   exact WP.lv (hQ h W sf st oA oB p ok) fun i j=>rfl
  ·rw[if_neg m] at h1 h2
   simp only at h1 h2
   rw[Bool.not_eq_true] at m
   rw[m] at rb
   have hcm:=List.mem_of_getElem? hc
   obtain ⟨cc,k1,k2,k3⟩:=kv.get (show (Nd.join l).kids[i]?=some c from hc)
   simp -implicitDefEqProofs (disch:=first|assumption|omega|exact Ext.refl _|(simp only[gL,gA]<;>omega)|fail) only[gC,reduceIte,rb,r3,sl,sv.idxG,sv.ldN,id_eq,k1]
   refine WP.call (ih c hcm h0 h W ob b cc k2 p.e0 p.wl p.bv ok) ?_
   rintro _ h5 ⟨rfl,v5,f5⟩
   have p5:=p.call f5 v5
   obtain ⟨s1,h6,s2,h7,oA',oB',a1,a2,p7⟩:=p5.add (NS.part c b).1 (by omega)
   simp -implicitDefEqProofs (disch:=first|assumption|omega|(simp only[gL,gA]<;>omega)|fail) only[gC,reduceIte,a4_,a5_,a1,a2]
   exact IH (i+1) h7 _ _ s1 s2 oA' oB' _ (by omega) (by simp[hfl]) p7 (ok.sz (sz c hcm b).1) (by rw[List.append_assoc]; exact h1) h2
theorem c1T {W:Nat->Prop}{h:Heap}{b:NS}{sf st:AV}{ft:List (Nat × Nat)}(a:FT W h sf st ft)(hl:b.fr.length<=10000)(hft:ft.length<=2000)(h0f:0<ft.length){Q:AV->Heap->Prop}(hQ:∀h1,FQ W h ob b (NS.joinE ft) h1->Q (.tup [I (ft.getD 0 (0,0)).1,I (ft.getD (ft.length-1) (0,0)).2]) h1) :
  ∀(d i:Nat) (h1:Heap),i+d+1=ft.length->FQ W h ob b (jpE ft i) h1->
   WP (fun p:Nat × Nat=>l4_ p.1 p.2 (.ptr ob 0 6 0) sf st (I i) h1) Q:=by
 have lm1:(ft.map (·.1)).length=ft.length:=List.length_map ..
 have lm2:(ft.map (·.2)).length=ft.length:=List.length_map ..
 have getD_of:∀{i x},ft[i]?=some x->ft.getD i (0,0)=x:=fun h=>by rw[List.getD_eq_getElem?_getD,h]; rfl
 intro d
 induction d with
 |zero=>
  intro i h1 hi q
  refine WP.rnd (fun k j=>a0K k j (.ptr ob 0 6 0) sf st (I i) h1) ?_
  have f1:=(a.frs q.2).f
  have t1:=(a.frs q.2).t
  have hf:=f1.lenG
  have ht:=t1.lenG
  rw[List.length_map] at hf ht
  obtain ⟨x,hx⟩:∃x,ft[0]?=some x:=⟨ft[0],List.getElem?_eq_getElem oM⟩
  obtain ⟨y,hy⟩:∃y,ft[ft.length-1]?=some y:=⟨ft[ft.length-1],List.getElem?_eq_getElem oM⟩
  have g1:gi (ft.map (·.1)) 0=x.1:=(a5v hx).1
  have g2:gi (ft.map (·.2)) ((ft.length:Int)-1)=y.2:=by
   rw[show (ft.length:Int)-1=((ft.length-1:Nat):Int) by omega]; exact (a5v hy).2.1
  obtain rfl:i=ft.length-1:=oM
  rw[<-c1R] at q
  have hq:=hQ h1 q
  rw[getD_of hx,getD_of hy] at hq
  simp -implicitDefEqProofs (disch:=first|assumption|omega|(simp only[gL,gA]<;>omega)|fail) only[gC,reduceIte,hf]
  refine WP.lv (WP.congr (fun k:Nat=>a5g k sf st h1) ?_) fun i j=>rfl
  refine g10 f1.idxG f1.ld0 @g1 @ht t1.idxG t1.ld0 @g2 @encN'.eq_1 @lm1 @lm2 ?_
  exact WP.ret hq
 |succ d ih=>
  intro i h1 hi q
  refine WP.rnd (fun k j=>a0K k j (.ptr ob 0 6 0) sf st (I i) h1) ?_
  have f1:=(a.frs q.2).f
  have t1:=(a.frs q.2).t
  have hf:=f1.lenG
  rw[List.length_map] at hf
  obtain ⟨x,hx⟩:∃x,ft[i]?=some x:=⟨ft[i],List.getElem?_eq_getElem oM⟩
  obtain ⟨y,hy⟩:∃y,ft[i+1]?=some y:=⟨ft[i+1],List.getElem?_eq_getElem oM⟩
  have g1:gi (ft.map (·.2)) (i:Int)=x.2:=(a5v hx).2.1
  have g2:gi (ft.map (·.1)) ((i:Int)+1)=y.1:=by
   rw[show (i:Int)+1=((i+1:Nat):Int) by omega]; exact (a5v hy).1
  have hjl:=b8b ft i
  refine g10 @hf t1.idxG t1.ld0 @g1 f1.idxG f1.ld0 @g2 @encN'.eq_1 @lm1 @lm2 ?_
  refine WP.call (q.free oM x.2 y.1) ?_
  rintro _ h2 ⟨rfl,q2⟩
  refine ih (i+1) h2 oM ?_
  rw[jpE,getD_of hx,getD_of hy]; exact q2
theorem b9c {h:Heap}{W:Nat->Prop}{b:NS}(nv:NV h0 (.join l) c5)(e0:Ext h0 h)(hW:∀o,W o->h0.length<=o/\o<h.length)(v:BV W h ob b)(ok:NSok b)(m:b.much=false)(g:Gd (.join l))(d:Bd (.join l))(ih:∀c∈l,PartS c) :
  Tot tab d3_ [.ptr ob 0 6 0,.agg c5] h fun r h'=>r=.tup [I (NS.part (.join l) b).1.1,I (NS.part (.join l) b).1.2]/\BV (Wn W h h') h' ob (NS.part (.join l) b).2/\FrS W h h':=by
 refine WP.tot (fun k=>a6k k _ _ h) ?_
 obtain ⟨sL,css,kv⟩:=kidsV nv
 have h5:=kv.sl.one
 have hll:l.length<=1000:=d.len
 have hl2:2<=l.length:=g.rt
 have hcc:=kv.c
 have l0:=e0.len
 obtain ⟨h1,hh1⟩:∃h1,h1=h++[AObj.cells ⟨c5,0,0,false⟩]:=⟨_,rfl⟩
 have e1:Ext h h1:=by rw[hh1]; exact Ext.push _ _
 have l1:h1.length=h.length+1:=by rw[hh1]; simp
 have r1:h1[h.length]?=some (.cells ⟨c5,0,0,false⟩):=by rw[hh1]; simp
 have p0:PLs h0 h h1 W W ob h.length b c5 .nils .nils 0 0 []:=by
  refine ⟨e0.trans e1,l0,FrS.ofExt e1,fun o z=>by have:=hW o z; omega,fun o z=>.inl z,v.ext e1,fun z=>by have:=hW _ z; omega,r1,Nat.le_refl _,Gr.nil ..,Gr.nil ..,fun z=>absurd rfl z,fun z=>absurd rfl z⟩
 have szp:=a7r l (fun c hc=>szn c (g.kid c hc)) b
 rw[NS.part]
 simp only[NS.joined,m,if_false,Bool.false_eq_true]
 rw[hcc] at hh1
 conv=>lhs; rw[hcc]
 refine g1 @h5 ?_
 rw[<-hh1]
 refine WP.ent (c1S kv hll ih (fun c hc=>szn c (g.kid c hc)) (fun h2 W2 sf st oA oB p2 ok2=>?_) l.length 0 h1 W b .nils .nils 0 0 [] oM rfl p0 ok rfl rfl) fun i=>rfl
 refine WP.congr (fun k:Nat=>a5h k (.ptr ob 0 6 0) sf st h2) ?_
 rw[List.drop_zero,List.nil_append] at p2
 rw[List.drop_zero] at ok2
 obtain ⟨sS,sF,oS,oF,rb,_⟩:=p2.bv
 have fin:∀{h3:Heap} {b3:NS},FrS W2 h2 h3->BV (Wn W2 h2 h3) h3 ob b3->BV (Wn W h h3) h3 ob b3/\FrS W h h3:=fun {h3 b3} f v=>by
  have p3:=p2.call f v
  refine ⟨v.mono fun o z1 z2=>?_,p3.fr⟩
  rcases p3.w0 o z2 with z|z
  ·exact .inl z
  ·exact .inr ⟨z,z1⟩
 by_cases m2:(NS.parts l b).2.much=true
 ·rw[m2] at rb
  rw[if_pos m2]
  refine g1 @rb ?_
  exact WP.ret ⟨rfl,fin (FrS.refl _ _) (p2.bv.mono fun o _ z=>.inl z)⟩
 ·rw[if_neg m2]
  rw[Bool.not_eq_true] at m2
  rw[m2] at rb
  refine g1 @rb ?_
  have hfl:=(szp.2.2 m2).2.1
  have hfr:=ok2.fr
  have hnn:=ok2.n
  generalize (NS.parts l b).1=ft at p2 hfl ⊢
  generalize (NS.parts l b).2=b2 at *
  refine WP.ent (c1T p2.ftv oM oM oM (fun h3 q3=>?_) (ft.length-1) 0 h2 oM (FQ.zero p2.bv)) fun i=>rfl
  have e1:(ft.getD 0 (0,0)).1=(NS.hd ft).1:=by cases ft<;>rfl
  have e2:(ft.getD (ft.length-1) (0,0)).2=(ft.getLastD (0,0)).2:=by
   rw[List.getLastD_eq_getLast?,List.getLast?_eq_getElem?,List.getD_eq_getElem?_getD]
  rw[e1,e2]
  exact ⟨rfl,fin q3.2 q3.1⟩
end
theorem b9d (n:Nd):Gd n->Bd n->PartS n:=by
 refine Nd.ind (p:=fun n=>Gd n->Bd n->PartS n) (fun n ih g d=>?_) n
 by_cases hk:n.kind=4
 ·cases n with
  |join l=>
   intro h0 h W ob b c5 nv e0 hW v ok
   refine WP.tot (fun k=>a1U k _ _ h) ?_
   obtain ⟨sL,css,kv⟩:=kidsV nv
   have h5:=kv.sl.one
   have hcc:=kv.c
   obtain ⟨h1,hh1⟩:∃h1,h1=h++[AObj.cells ⟨c5,0,0,false⟩]:=⟨_,rfl⟩
   have e1:Ext h h1:=by rw[hh1]; exact Ext.push _ _
   have l1:h1.length=h.length+1:=by rw[hh1]; simp
   have r1:h1[h.length]?=some (.cells ⟨c5,0,0,false⟩):=by rw[hh1]; simp
   have v1:=v.ext e1
   obtain ⟨sS,sF,oS,oF,rb,_⟩:=v1
   have v1:=v.ext e1
   rw[hcc] at hh1 r1
   by_cases m:b.much=true
   ·rw[m] at rb
    have e:NS.part (.join l) b=((0,0),b):=by rw[NS.part]; simp only[NS.joined,m,if_true]
    rw[e,hcc]
    refine g1 @h5 ?_
    rw[<-hh1]
    refine g1 @rb ?_
    exact WP.ret ⟨rfl,v1.mono fun o _ z=>.inl z,FrS.ofExt e1⟩
   ·rw[Bool.not_eq_true] at m
    rw[m] at rb
    have k4:(Nd.join l).kind=4:=rfl
    conv=>lhs; rw[hcc]
    refine g1 @h5 ?_
    rw[<-hh1]
    refine g3 @rb @r1 @k4 ?_
    have hc4:c5=[I 4,I (Nd.join l).st,I (Nd.join l).lo,I (Nd.join l).hi,sL]:=hcc
    rw[<-hc4]
    refine WP.call (b9c nv (e0.trans e1) (fun o z=>by have:=hW o z; omega) v1 ok m g d (fun c hc=>ih c hc (g.kid c hc) (d.kid c hc))) ?_
    rintro _ h2 ⟨rfl,v2,f2⟩
    refine g2 @a4_ @a5_ ?_
    exact WP.ret ⟨rfl,v2.mono fun o _ z=>z.elim .inl fun z=>.inr ⟨oM,z.2⟩,(FrS.ofExt e1).trans f2⟩
  |_=>simp[Nd.kind] at hk
 ·exact c3y hk g d fun c hc=>ih c (a9g hc) (g.kid c (a9g hc)) (d.kid c (a9g hc))
end Go.Gm.AQ
namespace Go.Gm
abbrev Hop:=Nat × Nat × Int
inductive Wk (A:Nat->List Hop) (st:Nat->Prop):Nat->List Nat->Int->Prop
 |nil {x:Nat}:st x->Wk A st x [] 0
 |snoc {x y e:Nat} {l:List Nat} {c w:Int}:Wk A st x l c->(y,e,w)∈A x->Wk A st y (l++[e]) (c+w)
def Lst (A:Nat->List Hop)(st:Nat->Prop)(x:Nat)(c:Int):Prop:=(∃l,Wk A st x l c)/\∀l c',Wk A st x l c'->c<=c'
theorem Lst.uniq {A:Nat->List Hop}{st:Nat->Prop}{x:Nat}{c d:Int}(a:Lst A st x c)(b:Lst A st x d):c=d:=by
 obtain ⟨⟨l,h1⟩,h2⟩:=a
 obtain ⟨⟨l',h3⟩,h4⟩:=b
 have:=h2 _ _ h3
 have:=h4 _ _ h1
 omega
structure GOk (n:Nat) (W:Int) (A:Nat->List Hop):Prop where
 w0:0<=W
 hop:∀x,x<n->∀y e w,(y,e,w)∈A x->y<n/\0<=w/\w<=W
section
variable {n:Nat} {W:Int} {A:Nat->List Hop} {st:Nat->Prop}
theorem Wk.range (g:GOk n W A)(hs:∀x,st x->x<n){x:Nat}{l:List Nat}{c:Int}(h:Wk A st x l c):x<n/\0<=c:=by
 induction h with
 |nil h=>exact ⟨hs _ h,Int.le_refl _⟩
 |snoc _ k ih=>have:=g.hop _ ih.1 _ _ _ k; omega
structure DI (n:Nat) (W:Int) (A:Nat->List Hop) (st:Nat->Prop) (id:Nat) (todo:List Hop) (c:Nat->Int) (m:Nat->Option Int) (e f:Nat->Int) (r:Nat->Nat) (k:Nat):Prop where
 fin:∀x,x<n->0<=c x->Lst A st x (c x)
 neg:∀x,x<n->¬0<=c x->c x = -1
 que:∀x,x<n->∀v,m x=some v->c x = -1/\0<=v/\∃l,Wk A st x l v
 rel:∀x,x<n->0<=c x->∀y e w,(y,e,w)∈A x->(x=id/\(y,e,w)∈todo)\/0<=c y\/∃v,m y=some v/\v<=c x+w
 sta:∀x,x<n->st x->0<=c x\/m x=some 0
 ord:∀x y,x<n->y<n->0<=c x->∀v,m y=some v->c x<=v
 par:∀y,y<n->∀v,(0<=c y/\c y=v\/m y=some v)->(f y = -1/\st y/\v=0)\/∃x w,x<n/\f y=(x:Int)/\0<=c x/\0<=e y/\(y,(e y).toNat,w)∈A x/\v=c x+w/\(0<=c y->r x<r y)
 rk:∀x,x<n->0<=c x->r x<k
 bnd:∀x,x<n->∀v,(0<=c x/\c x=v\/m x=some v)->v<=k*W
 mx:∀x,x<n->0<=c x->c x<=c id
theorem DI.front {c:Nat->Int}{m:Nat->Option Int}{e f:Nat->Int}{r:Nat->Nat}{k id:Nat}(g:GOk n W A)(hs:∀x,st x->x<n)(d:DI n W A st id [] c m e f r k){y:Nat}{l:List Nat}{v:Int}(h:Wk A st y l v):(0<=c y/\c y<=v)\/∃z u,z<n/\m z=some u/\u<=v:=by
 induction h with
 |@nil x h=>
  have hx:=hs _ h
  rcases d.sta x hx h with h1|h1
  ·left
   have:=(d.fin x hx h1).2 [] 0 (.nil h)
   exact ⟨h1,this⟩
  ·exact .inr ⟨x,0,hx,h1,Int.le_refl _⟩
 |@snoc x y e l v w h1 h2 ih=>
  have hx:=(Wk.range g hs h1).1
  have hh:=g.hop x hx _ _ _ h2
  rcases ih with ⟨i1,i2⟩|⟨z,u,i1,i2,i3⟩
  ·rcases d.rel x hx i1 _ _ _ h2 with ⟨_,q⟩|q|⟨u,q1,q2⟩
   ·simp at q
   ·left
    exact ⟨q,(d.fin y hh.1 q).2 _ _ (.snoc h1 h2)⟩
   ·exact .inr ⟨y,u,hh.1,q1,oM⟩
  ·exact .inr ⟨z,u,i1,i2,oM⟩
theorem DI.all {c:Nat->Int}{m:Nat->Option Int}{e f:Nat->Int}{r:Nat->Nat}{k id:Nat}(g:GOk n W A)(hs:∀x,st x->x<n)(d:DI n W A st id [] c m e f r k)(hm:∀x,x<n->m x=none){y:Nat}{l:List Nat}{v:Int}(h:Wk A st y l v):0<=c y/\c y<=v:=by
 rcases d.front g hs h with h1|⟨z,u,h1,h2,_⟩
 ·exact h1
 ·rw[hm z h1] at h2; cases h2
theorem DI.pop {c:Nat->Int}{m:Nat->Option Int}{e f:Nat->Int}{r:Nat->Nat}{k id0:Nat}(g:GOk n W A)(hs:∀x,st x->x<n)(d:DI n W A st id0 [] c m e f r k){id:Nat}{key:Int}(hid:id<n)(hm:m id=some key)(hmin:∀z,z<n->∀u,m z=some u->key<=u) :
  DI n W A st id (A id) (fun x=>if x=id then key else c x) (fun x=>if x=id then none else m x) e f (fun x=>if x=id then k else r x) (k+1):=by
 obtain ⟨q1,q2,q3⟩:=d.que id hid key hm
 have hW:=g.w0
 have hkW:(k:Int)*W<=((k+1:Nat):Int)*W:=by
  rw[Int.natCast_add,Int.add_mul]; omega
 have least:∀l v,Wk A st id l v->key<=v:=by
  intro l v h
  rcases d.front g hs h with h1|⟨z,u,h1,h2,h3⟩
  ·omega
  ·have:=hmin z h1 u h2; omega
 refine ⟨fun x hx h=>?_,fun x hx h=>?_,fun x hx v h=>?_,fun x hx h y e' w h2=>?_,fun x hx h=>?_,fun x y hx hy h v h2=>?_,fun y hy v h=>?_,fun x hx h=>?_,fun x hx v h=>?_,fun x hx h=>?_⟩
 ·try simp only at h ⊢
  by_cases q:x=id
  ·subst q; rw[if_pos rfl] at h ⊢; exact ⟨q3,least⟩
  ·rw[if_neg q] at h ⊢; exact d.fin x hx h
 ·try simp only at h ⊢
  by_cases q:x=id
  ·subst q; rw[if_pos rfl] at h; exact absurd q2 h
  ·rw[if_neg q] at h ⊢; exact d.neg x hx h
 ·try simp only at h ⊢
  by_cases q:x=id
  ·rw[if_pos q] at h; cases h
  ·rw[if_neg q] at h ⊢; exact d.que x hx v h
 ·try simp only at h ⊢
  by_cases q:x=id
  ·subst q; exact .inl ⟨rfl,h2⟩
  ·rw[if_neg q] at h ⊢
   rcases d.rel x hx h _ _ _ h2 with ⟨_,z⟩|z|⟨v,z1,z2⟩
   ·simp at z
   ·right; left
    by_cases q':y=id
    ·rw[if_pos q']; exact q2
    ·rw[if_neg q']; exact z
   ·right
    by_cases q':y=id
    ·left; rw[if_pos q']; exact q2
    ·right; exact ⟨v,by rw[if_neg q']; exact z1,z2⟩
 ·try simp only
  by_cases q:x=id
  ·left; rw[if_pos q]; exact q2
  ·rw[if_neg q,if_neg q]; exact d.sta x hx h
 ·try simp only at h h2 ⊢
  by_cases q':y=id
  ·rw[if_pos q'] at h2; cases h2
  ·rw[if_neg q'] at h2
   by_cases q:x=id
   ·rw[if_pos q]; exact hmin y hy v h2
   ·rw[if_neg q] at h ⊢; exact d.ord x y hx hy h v h2
 ·try simp only at h ⊢
  have h':0<=c y/\c y=v\/m y=some v:=by
   by_cases q:y=id
   ·subst q
    rw[if_pos rfl,if_pos rfl] at h
    rcases h with h|h
    ·exact .inr (by rw[hm,h.2])
    ·cases h
   ·rw[if_neg q,if_neg q] at h; exact h
  rcases d.par y hy v h' with z|⟨x,w,z1,z2,z3,z4,z5,z6,z7⟩
  ·exact .inl z
  ·refine .inr ⟨x,w,z1,z2,?_,z4,z5,?_,fun _=>?_⟩
   ·by_cases q:x=id
    ·rw[if_pos q]; exact q2
    ·rw[if_neg q]; exact z3
   ·by_cases q:x=id
    ·subst q; omega
    ·rw[if_neg q]; exact z6
   ·have hxi:x≠id:=fun q=>by subst q; omega
    rw[if_neg hxi]
    by_cases q:y=id
    ·rw[if_pos q]; exact d.rk x z1 z3
    ·rw[if_neg q]
     refine z7 ?_
     rw[if_neg q,if_neg q] at h
     rcases h with h|h
     ·exact h.1
     ·have h0:0<=c y\/¬0<=c y:=oM
      rcases h0 with h0|h0
      ·exact h0
      ·rename_i hc
       simp only[if_neg q] at hc
       exact hc
 ·try simp only at h ⊢
  by_cases q:x=id
  ·rw[if_pos q]; omega
  ·rw[if_neg q] at h ⊢; have:=d.rk x hx h; omega
 ·try simp only at h
  have h':0<=c x/\c x=v\/m x=some v:=by
   by_cases q:x=id
   ·subst q
    rw[if_pos rfl,if_pos rfl] at h
    rcases h with h|h
    ·exact .inr (by rw[hm,h.2])
    ·cases h
   ·rw[if_neg q,if_neg q] at h; exact h
  have:=d.bnd x hx v h'
  omega
 ·rw[if_pos rfl]
  by_cases q:x=id
  ·rw[if_pos q]; omega
  ·rw[if_neg q] at h ⊢; exact d.ord x id hx hid h key hm
theorem DI.skip {c:Nat->Int}{m:Nat->Option Int}{e f:Nat->Int}{r:Nat->Nat}{k id y ed:Nat}{w:Int}{todo:List Hop}(d:DI n W A st id ((y,ed,w)::todo) c m e f r k)(h:0<=c y\/∃v,m y=some v/\v<=c id+w):DI n W A st id todo c m e f r k:=by
 refine ⟨d.fin,d.neg,d.que,fun x hx h1 y' e' w' h2=>?_,d.sta,d.ord,d.par,d.rk,d.bnd,d.mx⟩
 rcases d.rel x hx h1 _ _ _ h2 with ⟨rfl,z⟩|z
 ·rcases List.mem_cons.1 z with z|z
  ·injection z with z1 z2
   injection z2 with z2 z3
   subst z1 z2 z3
   exact .inr h
  ·exact .inl ⟨rfl,z⟩
 ·exact .inr z
theorem DI.put {c:Nat->Int}{m:Nat->Option Int}{e f:Nat->Int}{r:Nat->Nat}{k id y ed:Nat}{w:Int}{todo:List Hop}(g:GOk n W A)(d:DI n W A st id ((y,ed,w)::todo) c m e f r (k+1))(hid:id<n)(hc:0<=c id)(hA:(y,ed,w)∈A id)(hy:c y<0)(hm:∀v,m y=some v->c id+w<v)(hk:c id<=k*W) :
  DI n W A st id todo c (fun x=>if x=y then some (c id+w) else m x) (fun x=>if x=y then (ed:Int) else e x) (fun x=>if x=y then (id:Int) else f x) r (k+1):=by
 have hh:=g.hop id hid _ _ _ hA
 have hyn:=d.neg y hh.1 oM
 obtain ⟨⟨l,hl⟩,_⟩:=d.fin id hid hc
 refine ⟨d.fin,d.neg,fun x hx v h=>?_,fun x hx h1 y' e' w' h2=>?_,fun x hx h=>?_,fun x z hx hz h v h2=>?_,fun z hz v h=>?_,d.rk,fun x hx v h=>?_,d.mx⟩
 ·try simp only at h
  by_cases q:x=y
  ·subst q
   rw[if_pos rfl] at h
   injection h with h
   subst h
   exact ⟨hyn,oM,_,.snoc hl hA⟩
  ·rw[if_neg q] at h; exact d.que x hx v h
 ·try simp only
  have key:∀z,(0<=c z\/∃v,m z=some v/\v<=c x+w')->(0<=c z\/∃v,(if z=y then some (c id+w) else m z)=some v/\v<=c x+w'):=by
   rintro z (q|⟨v,q1,q2⟩)
   ·exact .inl q
   ·by_cases qz:z=y
    ·subst qz
     right
     exact ⟨c id+w,by rw[if_pos rfl],by have:=hm v q1; omega⟩
    ·exact .inr ⟨v,by rw[if_neg qz]; exact q1,q2⟩
  rcases d.rel x hx h1 _ _ _ h2 with ⟨rfl,z⟩|z
  ·rcases List.mem_cons.1 z with z|z
   ·injection z with z1 z2
    injection z2 with z2 z3
    subst z1 z2 z3
    exact .inr (.inr ⟨c x+w',by rw[if_pos rfl],Int.le_refl _⟩)
   ·exact .inl ⟨rfl,z⟩
  ·exact .inr (key _ z)
 ·try simp only
  rcases d.sta x hx h with q|q
  ·exact .inl q
  ·by_cases qz:x=y
   ·subst qz
    have:=hm 0 q
    omega
   ·right; rw[if_neg qz]; exact q
 ·try simp only at h2
  by_cases q:z=y
  ·subst q
   rw[if_pos rfl] at h2
   injection h2 with h2
   subst h2
   have:=d.mx x hx h; omega
  ·rw[if_neg q] at h2; exact d.ord x z hx hz h v h2
 ·try simp only at h ⊢
  by_cases q:z=y
  ·subst q
   rw[if_pos rfl] at h
   right
   have hv:v=c id+w:=by
    rcases h with h|h
    ·omega
    ·injection h with h; exact h.symm
   refine ⟨id,w,hid,by rw[if_pos rfl],hc,by rw[if_pos rfl]; omega,by rw[if_pos rfl]; simpa using hA,hv,fun h=>oM⟩
  ·rw[if_neg q] at h
   rw[if_neg q,if_neg q]
   exact d.par z hz v h
 ·try simp only at h
  by_cases q:x=y
  ·subst q
   rw[if_pos rfl] at h
   have hv:v=c id+w:=by
    rcases h with h|h
    ·omega
    ·injection h with h; exact h.symm
   rw[Int.natCast_add,Int.add_mul]
   omega
  ·rw[if_neg q] at h; exact d.bnd x hx v h
end
end Go.Gm
namespace Go.Gm
def sumN (f:Nat->Int):Nat->Int
 |0=>0
 |n+1=>sumN f n+f n
theorem a4w {f g:Nat->Int}:∀n,(∀x,x<n->f x=g x)->sumN f n=sumN g n
 |0,_=>rfl
 |n+1,h=>by rw[sumN,sumN,a4w n fun x hx=>h x oM,h n oM]
theorem b1y {f:Nat->Int}{y:Nat}{a:Int}:∀n,y<n->sumN (fun x=>if x=y then a else f x) n=sumN f n-f y+a
 |0,h=>oM
 |n+1,h=>by
  rw[sumN,sumN]
  by_cases q:y=n
  ·subst q
   rw[if_pos rfl,a4w y (g:=f) fun x hx=>if_neg oM]
   omega
  ·rw[if_neg (fun z=>q z.symm),b1y n oM]
   omega
theorem b0m {f:Nat->Int}:∀n,(∀x,x<n->0<=f x)->0<=sumN f n
 |0,_=>Int.le_refl _
 |n+1,h=>by
  have:=b0m n fun x hx=>h x oM
  have:=h n oM
  rw[sumN]; omega
theorem b8o {f:Nat->Int}:∀n,(∀x,x<n->f x<=1)->sumN f n<=n
 |0,_=>Int.le_refl _
 |n+1,h=>by
  have:=b8o n fun x hx=>h x oM
  have:=h n oM
  rw[sumN]; omega
def up (c:Nat->Int)(y:Nat)(v:Int):Nat->Int:=fun x=>if x=y then v else c x
def un (n:Nat)(c:Nat->Int):Int:=sumN (fun x=>if c x<0 then 1 else 0) n
def mu (n:Nat)(W:Int)(c:Nat->Int):Int:=sumN (fun x=>if c x<0 then n*W+1 else c x) n
theorem m1_ (n:Nat)(c:Nat->Int):0<=un n c:=b0m n fun x _=>by split<;>omega
theorem un_le (n:Nat)(c:Nat->Int):un n c<=n:=b8o n fun x _=>by split<;>omega
theorem b5t {n:Nat}{W:Int}(hW:0<=W)(c:Nat->Int):0<=mu n W c:=by
 have:0<=(n:Int)*W:=Int.mul_nonneg oM hW
 exact b0m n fun x _=>by split<;>omega
theorem un_up {n:Nat}{c:Nat->Int}{y:Nat}{v:Int}(hy:y<n)(hv:0<=v):un n (up c y v)=un n c-if c y<0 then 1 else 0:=by
 have:un n (up c y v)=sumN (fun x=>if x=y then 0 else (fun x=>if c x<0 then (1:Int) else 0) x) n:=by
  refine a4w n fun x hx=>?_
  by_cases q:x=y
  ·have e:up c y v x=v:=if_pos q
   simp only[e,if_pos q]
   rw[if_neg oM]
  ·have e:up c y v x=c x:=if_neg q
   simp only[e,if_neg q]
 rw[this,b1y n hy,un]
 omega
theorem mu_up {n:Nat}{W:Int}{c:Nat->Int}{y:Nat}{v:Int}(hy:y<n)(hv:0<=v):mu n W (up c y v)=mu n W c-(if c y<0 then n*W+1 else c y)+v:=by
 have:mu n W (up c y v)=sumN (fun x=>if x=y then v else (fun x=>if c x<0 then n*W+1 else c x) x) n:=by
  refine a4w n fun x hx=>?_
  by_cases q:x=y
  ·have e:up c y v x=v:=if_pos q
   simp only[e,if_pos q]
   rw[if_neg oM]
  ·have e:up c y v x=c x:=if_neg q
   simp only[e,if_neg q]
 rw[this,b1y n hy,mu]
structure RI (n:Nat) (W:Int) (A:Nat->List Hop) (st:Nat->Prop) (c:Nat->Int):Prop where
 wk:∀x,x<n->0<=c x->∃l,Wk A st x l (c x)
 neg:∀x,x<n->¬0<=c x->c x = -1
 sta:∀x,x<n->st x->c x=0
 bnd:∀x,x<n->c x+un n c*W<=n*W
def LC (n:Nat)(A:Nat->List Hop)(st:Nat->Prop)(c:Nat->Int):Prop:=∀x,x<n->(0<=c x/\Lst A st x (c x))\/(c x = -1/\∀l v,¬Wk A st x l v)
section
variable {n:Nat} {W:Int} {A:Nat->List Hop} {st:Nat->Prop} {c:Nat->Int}
theorem LC.uniq {d:Nat->Int}(a:LC n A st c)(b:LC n A st d):∀x,x<n->c x=d x:=by
 intro x hx
 rcases a x hx with ⟨a1,a2⟩|⟨a1,a2⟩<;>rcases b x hx with ⟨b1,b2⟩|⟨b1,b2⟩
 ·exact a2.uniq b2
 ·obtain ⟨⟨l,h⟩,_⟩:=a2
  exact absurd h (b2 _ _)
 ·obtain ⟨⟨l,h⟩,_⟩:=b2
  exact absurd h (a2 _ _)
 ·omega
theorem RI.le (hW:0<=W)(r:RI n W A st c){x:Nat}(hx:x<n):-1<=c x/\c x<=n*W:=by
 have h1:=r.bnd x hx
 have h2:0<=un n c*W:=Int.mul_nonneg (m1_ n c) hW
 have h3:=r.neg x hx
 omega
theorem RI.relax (g:GOk n W A)(hs:∀x,st x->x<n)(r:RI n W A st c){x y e:Nat}{w:Int}(hx:x<n)(h:(y,e,w)∈A x)(h0:0<=c x)(hr:c y<0\/c x+w<c y) :
  RI n W A st (up c y (c x+w))/\mu n W (up c y (c x+w))<mu n W c:=by
 obtain ⟨hy,w0,w1⟩:=g.hop x hx _ _ _ h
 have hW:=g.w0
 have hv:0<=c x+w:=oM
 obtain ⟨l,hl⟩:=r.wk x hx h0
 have bx:=r.bnd x hx
 have bu:=m1_ n (up c y (c x+w))
 have eu:=un_up (c:=c) hy hv
 have bm:=Int.mul_nonneg bu hW
 have key:c x+w+un n (up c y (c x+w))*W<=n*W:=by
  by_cases q:c y<0
  ·rw[if_pos q] at eu
   rw[eu,Int.sub_mul]
   omega
  ·rw[if_neg q] at eu
   have:=r.bnd y hy
   rw[eu,Int.sub_zero]
   omega
 refine ⟨⟨fun z hz hc=>?_,fun z hz hc=>?_,fun z hz hc=>?_,fun z hz=>?_⟩,?_⟩
 ·by_cases q:z=y
  ·subst q
   simp only[up,if_pos rfl]
   exact ⟨_,.snoc hl h⟩
  ·simp only[up,if_neg q] at hc ⊢
   exact r.wk z hz hc
 ·by_cases q:z=y
  ·simp only[up,if_pos q] at hc; omega
  ·simp only[up,if_neg q] at hc ⊢
   exact r.neg z hz hc
 ·by_cases q:z=y
  ·subst q
   have:=r.sta z hz hc
   omega
  ·simp only[up,if_neg q]
   exact r.sta z hz hc
 ·by_cases q:z=y
  ·subst q
   have:up c z (c x+w) z=c x+w:=if_pos rfl
   rw[this]; exact key
  ·have:up c y (c x+w) z=c z:=by simp only[up,if_neg q]
   rw[this]
   have h1:=r.bnd z hz
   have h2:un n (up c y (c x+w))*W<=un n c*W:=Int.mul_le_mul_of_nonneg_right (by rw[eu]; split<;>omega) hW
   omega
 ·rw[mu_up hy hv]
  split<;>omega
theorem RI.lst (g:GOk n W A)(hs:∀x,st x->x<n)(r:RI n W A st c)(hd:∀x,x<n->0<=c x->∀y e w,(y,e,w)∈A x->0<=c y/\c y<=c x+w):LC n A st c:=by
 have all:∀y l v,Wk A st y l v->0<=c y/\c y<=v:=by
  intro y l v h
  induction h with
  |nil h=>have:=r.sta _ (hs _ h) h; omega
  |snoc h1 h2 ih=>have:=hd _ (Wk.range g hs h1).1 ih.1 _ _ _ h2; omega
 intro x hx
 by_cases q:0<=c x
 ·exact .inl ⟨q,r.wk x hx q,fun l v h=>(all x l v h).2⟩
 ·exact .inr ⟨r.neg x hx q,fun l v h=>q (all x l v h).1⟩
theorem DI.lc {m:Nat->Option Int}{e f:Nat->Int}{r:Nat->Nat}{k id:Nat}(g:GOk n W A)(hs:∀x,st x->x<n)(d:DI n W A st id [] c m e f r k)(hm:∀x,x<n->m x=none):LC n A st c:=by
 intro x hx
 by_cases q:0<=c x
 ·exact .inl ⟨q,d.fin x hx q⟩
 ·exact .inr ⟨d.neg x hx q,fun l v h=>q (d.all g hs hm h).1⟩
theorem RI.start (g:GOk n W A){x0:Nat}(h0:x0<n)(hst:∀x,st x↔x=x0)(hc:∀x,x<n->c x=if x=x0 then 0 else -1):RI n W A st c:=by
 have hW:=g.w0
 have hu:un n c=n-1:=by
  have:un n c=sumN (fun x=>if x=x0 then 0 else (fun _=>(1:Int)) x) n:=by
   refine a4w n fun x hx=>?_
   simp only[hc x hx]
   by_cases q:x=x0
   ·rw[if_pos q,if_pos q,if_neg oM]
   ·rw[if_neg q,if_neg q,if_pos oM]
  have e1:∀n:Nat,sumN (fun _=>(1:Int)) n=n:=by
   intro n
   induction n with
   |zero=>rfl
   |succ n ih=>rw[sumN,ih]; omega
  rw[this,b1y n h0,e1]
  omega
 refine ⟨fun x hx h=>?_,fun x hx h=>?_,fun x hx h=>?_,fun x hx=>?_⟩
 ·rw[hc x hx] at h ⊢
  by_cases q:x=x0
  ·rw[if_pos q]; exact ⟨[],.nil ((hst x).2 q)⟩
  ·rw[if_neg q] at h; omega
 ·rw[hc x hx] at h ⊢
  by_cases q:x=x0
  ·rw[if_pos q] at h; omega
  ·rw[if_neg q]
 ·rw[hc x hx,if_pos ((hst x).1 h)]
 ·rw[hc x hx,hu,Int.sub_mul]
  have:(1:Int)*W=W:=Int.one_mul W
  split<;>omega
end
end Go.Gm
namespace Go.Gm
section
variable {n:Nat} {W:Int} {A A':Nat->List Hop} {st en:Nat->Prop}
structure Rev (n:Nat) (A A':Nat->List Hop):Prop where
 to:∀x y e w,x<n->(y,e,w)∈A x->∃e',(x,e',w)∈A' y
 fro:∀x y e w,y<n->(x,e,w)∈A' y->∃e',(y,e',w)∈A x
theorem Rev.symm (r:Rev n A A'):Rev n A' A:=⟨fun x y e w hx h=>r.fro y x e w hx h,fun x y e w hy h=>r.to y x e w hy h⟩
theorem Wk.join (g:GOk n W A)(g':GOk n W A')(r:Rev n A A')(hs:∀x,st x->x<n)(he:∀x,en x->x<n){x:Nat}{l:List Nat}{u:Int}(h:Wk A' en x l u):∀{l' v},Wk A st x l' v->∃z,en z/\∃l'',Wk A st z l'' (v+u):=by
 induction h with
 |@nil x h=>
  intro l' v k
  exact ⟨x,h,l',by rw[Int.add_zero]; exact k⟩
 |@snoc y x e l u w h1 h2 ih=>
  intro l' v k
  have hy:=(Wk.range g' he h1).1
  obtain ⟨e',h3⟩:=r.fro x y e w hy h2
  obtain ⟨z,z1,l'',z2⟩:=ih (.snoc k h3)
  exact ⟨z,z1,l'',by rw[show v+(u+w)=v+w+u by omega]; exact z2⟩
structure Half (n:Nat) (A:Nat->List Hop) (st:Nat->Prop) (c:Nat->Int) (t:Int):Prop where
 front:∀y l v,Wk A st y l v->(0<=c y/\c y<=v)\/t<=v
structure Met (n:Nat) (A:Nat->List Hop) (st en:Nat->Prop) (c d:Nat->Int) (L:Int):Prop where
 a:∀x,x<n->0<=c x->en x->0<=L/\L<=c x
 b:∀x,x<n->0<=d x->st x->0<=L/\L<=d x
 m:∀x y e w,x<n->(y,e,w)∈A x->0<=c x->0<=d y->0<=L/\L<=c x+w+d y
theorem Met.low (g:GOk n W A)(g':GOk n W A')(r:Rev n A A')(hs:∀x,st x->x<n)(he:∀x,en x->x<n){c d:Nat->Int}{t t' L:Int}(p:Half n A st c t)(q:Half n A' en d t')(mt:Met n A st en c d L)(hL:L<=t+t'){x:Nat}{l:List Nat}{u:Int}(h:Wk A' en x l u) :
  ∀{v l'},Wk A st x l' v->0<=c x->c x<=v->L<=v+u:=by
 induction h with
 |@nil x h=>
  intro v l' k h0 h1
  have:=mt.a x (he x h) h0 h
  omega
 |@snoc y x e l u w h1 h2 ih=>
  intro v l' k h0 h3
  have hy:=(Wk.range g' he h1).1
  obtain ⟨e',h4⟩:=r.fro x y e w hy h2
  have hx:=(Wk.range g hs k).1
  rcases p.front y _ _ (.snoc k h4) with ⟨p1,p2⟩|p1
  ·have:=ih (.snoc k h4) p1 p2
   omega
  ·rcases q.front y _ _ h1 with ⟨q1,q2⟩|q1
   ·have:=mt.m x y e' w hx h4 h0 q1
    omega
   ·omega
theorem Met.all (g:GOk n W A)(g':GOk n W A')(r:Rev n A A')(hs:∀x,st x->x<n)(he:∀x,en x->x<n){c d:Nat->Int}{t t' L:Int}(p:Half n A st c t)(q:Half n A' en d t')(mt:Met n A st en c d L)(hL:L<=t+t')(hst:∀x,st x->0<=c x->c x<=0){x:Nat}(hx:st x){l:List Nat}{u:Int}(h:Wk A' en x l u):L<=u:=by
 by_cases h0:0<=c x
 ·have:=mt.low g g' r hs he p q hL h (.nil hx) h0 (hst x hx h0)
  omega
 ·rcases p.front x _ _ (.nil hx) with ⟨p1,_⟩|p1
  ·exact absurd p1 h0
  ·rcases q.front x _ _ h with ⟨q1,q2⟩|q1
   ·have:=mt.b x (hs x hx) q1 hx
    omega
   ·omega
theorem Met.least (g:GOk n W A)(g':GOk n W A')(r:Rev n A A')(hs:∀x,st x->x<n)(he:∀x,en x->x<n){c d:Nat->Int}{t t' L:Int}(p:Half n A st c t)(q:Half n A' en d t')(mt:Met n A st en c d L)(hL:L<=t+t')(hst:∀x,st x->0<=c x->c x<=0){z:Nat}(hz:en z){l:List Nat}{v:Int}(h:Wk A st z l v):L<=v:=by
 obtain ⟨x,hx,l',h'⟩:=Wk.join g' g r.symm he hs h (.nil hz)
 have:=mt.all g g' r hs he p q hL hst hx h'
 omega
theorem Met.symm (g:GOk n W A)(g':GOk n W A')(r:Rev n A A'){c d:Nat->Int}{L:Int}(mt:Met n A st en c d L):Met n A' en st d c L:=by
 refine ⟨mt.b,mt.a,fun x y e w hx h h1 h2=>?_⟩
 have hy:=(g'.hop x hx _ _ _ h).1
 obtain ⟨e',h3⟩:=r.fro y x e w hx h
 have:=mt.m y x e' w hy h3 h2 h1
 omega
theorem Met.step {c c' d:Nat->Int}{L L':Int}{id:Nat}(mt:Met n A st en c d L)(hc:∀x,x<n->x≠id->c' x=c x)(hmono:0<=L->0<=L'/\L'<=L)(ha:en id->0<=L'/\L'<=c' id)(hm:∀y e w,(y,e,w)∈A id->0<=d y->0<=L'/\L'<=c' id+w+d y):Met n A st en c' d L':=by
 refine ⟨fun x hx h1 h2=>?_,fun x hx h1 h2=>?_,fun x y e w hx h h1 h2=>?_⟩
 ·by_cases q:x=id
  ·subst q; exact ha h2
  ·rw[hc x hx q] at h1 ⊢
   have h3:=mt.a x hx h1 h2
   have h4:=hmono h3.1
   exact ⟨h4.1,oM⟩
 ·have h3:=mt.b x hx h1 h2
  have h4:=hmono h3.1
  exact ⟨h4.1,oM⟩
 ·by_cases q:x=id
  ·subst q; exact hm y e w h h2
  ·rw[hc x hx q] at h1 ⊢
   have h3:=mt.m x y e w hx h h1 h2
   have h4:=hmono h3.1
   exact ⟨h4.1,oM⟩
def fnd (c:Nat->Int)(m:Nat->Option Int)(x:Nat):Int:=if 0<=c x then c x else (m x).getD (-1)
theorem c2u {c:Nat->Int}{m:Nat->Option Int}{e f:Nat->Int}{r:Nat->Nat}{k id:Nat}{todo:List Hop}(d:DI n W A st id todo c m e f r k){x:Nat}(hx:x<n)(h:0<=fnd c m x):∃l,Wk A st x l (fnd c m x):=by
 unfold fnd at h ⊢
 by_cases q:0<=c x
 ·rw[if_pos q]; exact (d.fin x hx q).1
 ·rw[if_neg q] at h ⊢
  cases hm:m x with
  |none=>rw[hm] at h; simp at h
  |some v=>exact (d.que x hx v hm).2.2
theorem c5u {c:Nat->Int}{m:Nat->Option Int}{e f:Nat->Int}{r:Nat->Nat}{k id:Nat}(d:DI n W A st id [] c m e f r k){x:Nat}(hx:x<n)(h:0<=c x){y e':Nat}{w:Int}(hh:(y,e',w)∈A x)(hy:y<n):0<=fnd c m y/\(fnd c m y<=c x+w\/0<=c y):=by
 unfold fnd
 rcases d.rel x hx h _ _ _ hh with ⟨_,q⟩|q|⟨v,q1,q2⟩
 ·simp at q
 ·rw[if_pos q]; exact ⟨q,.inr q⟩
 ·by_cases q:0<=c y
  ·rw[if_pos q]; exact ⟨q,.inr q⟩
  ·rw[if_neg q,q1]
   have:=(d.que y hy v q1).2.1
   exact ⟨this,.inl q2⟩
theorem c3Y {c:Nat->Int}{m:Nat->Option Int}{e f:Nat->Int}{r:Nat->Nat}{k id:Nat}(d:DI n W A st id [] c m e f r k){x:Nat}(hx:x<n)(h:0<=c x){y e':Nat}{w:Int}(hh:(y,e',w)∈A x)(hy:y<n):0<=fnd c m y/\fnd c m y<=c x+w:=by
 obtain ⟨h1,h2⟩:=c5u d hx h hh hy
 refine ⟨h1,h2.elim (fun z=>z) fun z=>?_⟩
 obtain ⟨⟨l,hl⟩,_⟩:=d.fin x hx h
 have:=(d.fin y hy z).2 _ _ (.snoc hl hh)
 unfold fnd
 rw[if_pos z]; exact this
theorem c3Z {c:Nat->Int}{m:Nat->Option Int}{e f:Nat->Int}{r:Nat->Nat}{k id:Nat}{todo:List Hop}(hW:0<=W)(d:DI n W A st id todo c m e f r k){x:Nat}(hx:x<n):fnd c m x<=k*W:=by
 have h0:0<=(k:Int)*W:=Int.mul_nonneg oM hW
 unfold fnd
 by_cases q:0<=c x
 ·rw[if_pos q]; exact d.bnd x hx _ (.inl ⟨q,rfl⟩)
 ·rw[if_neg q]
  cases hm:m x with
  |none=>simp; omega
  |some v=>exact d.bnd x hx v (.inr hm)
end
end Go.Gm
namespace Go.Gm.AQ
open Go Go.Gm
def encR (r:List Int):List AV:=r.map I
structure DOk (D:List (List Int)) (acc:List Bool):Prop where
 l0:0<D.length
 l1:D.length<=2000
 la:acc.length=D.length
 row:∀s:Int,0<=s->s<D.length->(gi D s).length=5
 to:∀s m:Int,0<=s->s<D.length->0<=m->m<5->0<=gi (gi D s) m/\gi (gi D s) m<D.length
structure COk (es:List E):Prop where
 c:∀e∈es,0<=e.co/\e.co<=2147483647
abbrev nx (D:List (List Int))(s m:Int):Int:=gi (gi D s) m
def befTo (D:List (List Int))(t m:Int)(n:Nat):List Int:=((List.range n).filter fun (i:Nat)=>nx D i m == t).map fun (i:Nat)=>(i:Int)
abbrev bef (D:List (List Int))(t m:Int):List Int:=befTo D t m D.length
abbrev Tr:=Int × Int × Int
def encT (t:Tr):List AV:=[I t.1,I t.2.1,I t.2.2]
def onL (es:List E)(D:List (List Int))(v s:Int):List Tr:=(outL es v).map fun k=>((gi es k).to,nx D s (gi es k).md,k)
def hopOf (es:List E)(S:Nat)(t:Tr):Hop:=((t.1*S+t.2.1).toNat,t.2.2.toNat,(gi es t.2.2).co)
def hopA (es:List E)(S:Nat)(L:Int->Int->List Tr)(x:Nat):List Hop:=(L ((x / S:Nat):Int) ((x % S:Nat):Int)).map (hopOf es S)
structure GV (h:Heap) (g:AV) (N:Nat) (es:List E) (D:List (List Int)) (acc:List Bool):Prop where
 ex:∃sE a sD sA sB B,At h g [I N,sE,a,sD,sA,sB]/\Sl h 4 sE (es.map encE)/\AdjV h a N es/\Sl h 5 sD (D.map encR)/\Sl h 1 sA (acc.map encB)/\Sl h 5 sB (B.map id)/\
  B.length=D.length/\∀t m:Int,0<=t->t<D.length->0<=m->m<5->(gi B t).length=5/\Sl h 1 (gi (gi B t) m) ((bef D t m).map encI)
theorem GV.ext {h h':Heap}{g:AV}{N:Nat}{es:List E}{D:List (List Int)}{acc:List Bool}(v:GV h g N es D acc)(e:Ext h h'):GV h' g N es D acc:=by
 obtain ⟨sE,a,sD,sA,sB,B,h1,h2,h3,h4,h5,h6,h7,h8⟩:=v.ex
 exact ⟨sE,a,sD,sA,sB,B,h1.ext e,h2.ext e,h3.ext e,h4.ext e,h5.ext e,h6.ext e,h7,fun t m t0 t1 m0 m1=>⟨(h8 t m t0 t1 m0 m1).1,(h8 t m t0 t1 m0 m1).2.ext e⟩⟩
theorem c2P {sz:Nat}{h:Heap}{s:AV}{α:Type}[Inhabited α]{enc:α->List AV}{xs:List α}(a:Sl h sz s (xs.map enc)){i j:Int}(hi0:0<=i)(hi:i<xs.length)(h0:0<=j)(h1:j<sz):∃o off g,elP sz s i=.ptr o off (off+sz) g/\idxA sz 1 (elP sz s i) (I j)=some (.ptr o (off+j.toNat) (off+j.toNat+1) g):=by
 rcases a with ⟨rfl,hx⟩|⟨o,off,lim,g,c,rfl,_⟩
 ·cases xs with
  |nil=>simp at hi; omega
  |cons=>simp at hx
 ·refine ⟨o,off+i.toNat*sz,g,rfl,?_⟩
  simp only[elP,idxA,I,Nat.mul_one]
  rw[if_pos ⟨h0,h1,oM⟩]
theorem c4J {h:Heap}{o off hi hi2 g:Nat}(h1:off<hi)(h2:off<hi2):Gm.ld1 h (.ptr o off hi g)=Gm.ld1 h (.ptr o off hi2 g):=by simp[Gm.ld1,h1,h2]
theorem c4K {h:Heap}{o off hi hi2 g:Nat}{v:AV}(h1:off<hi)(h2:off<hi2):stN 1 h (.ptr o off hi g) v=stN 1 h (.ptr o off hi2 g) v:=by
 simp only[stN,wrc]
 by_cases q:v.cells.length=1
 ·simp[q,show off+1<=hi by omega,show off+1<=hi2 by omega]
 ·simp[q]
theorem cellA {sz:Nat}{h H:Heap}{s:AV}{α:Type}[Inhabited α]{enc:α->List AV}{xs:List α}(a:Sl h sz s (xs.map enc))(e:Ext h H){i j:Int}(hi0:0<=i)(hi:i<xs.length)(h0:0<=j)(h1:j<sz) :
  ∃p,idxA sz 1 (elP sz s i) (I j)=some p/\Gm.ld1 H p=some ((enc (gi xs i)).getD j.toNat .undef)/\∀(H':Heap) (v:AV),stN 1 H' p v=stN 1 H' (fldP j.toNat (elP sz s i)) v:=by
 obtain ⟨o,off,g,k1,k2⟩:=c2P a hi0 hi h0 h1
 have:=a.ldf j.toNat e hi0 hi oM
 rw[k1,a6V] at this
 refine ⟨_,k2,?_,fun H' v=>?_⟩
 ·rw[<-this]
  exact c4J oM oM
 ·rw[k1,a6V]
  exact c4K oM oM
section
variable {h0 h:Heap} {g:AV} {N:Nat} {es:List E} {D:List (List Int)} {acc:List Bool}
theorem b2v (gv:GV h g N es D acc)(ok:DOk D acc){v s:Int}(v0:0<=v)(v1:v<=100000)(s0:0<=s)(s1:s<=100000) :
  Tot tab r4_ [g,.agg [I v,I s]] h fun r h'=>r=I (v*D.length+s)/\Ext h h':=by
 obtain ⟨sE,a,sD,sA,sB,B,k1,k2,k3,k4,k5,k6,k7,k8⟩:=gv.ex
 refine WP.tot (fun k=>b1H k _ _ h) ?_
 have hl:=ok.l1
 have hm0:0<=v*(D.length:Int):=Int.mul_nonneg v0 oM
 have hm1:v*(D.length:Int)<=100000*2000:=Int.mul_le_mul v1 oM oM oM
 have hw:IntKind.i64.wrap (v*(D.length:Int))=v*D.length:=d6_ oM oM
 refine g6 k1.nil k1.fldA0 k1.fldAf k1.ldfE k4.lenG @hw ?_
 exact WP.ret ⟨rfl,eX⟩
theorem b4W (gv:GV h g N es D acc)(ok:DOk D acc){x:Nat}(hx:x<=200000000) :
  Tot tab a0w [g,I x] h fun r h'=>r=.agg [I ((x / D.length:Nat):Int),I ((x % D.length:Nat):Int)]/\Ext h h':=by
 obtain ⟨sE,a,sD,sA,sB,B,k1,k2,k3,k4,k5,k6,k7,k8⟩:=gv.ex
 refine WP.tot (fun k=>b0A k _ _ h) ?_
 have hl:=ok.l0
 have hd:x / D.length<=x:=Nat.div_le_self _ _
 have hw:IntKind.i64.wrap ((x:Int).tdiv (D.length:Int))=((x / D.length:Nat):Int):=by
  rw[<-Int.ofNat_tdiv]
  generalize x / D.length=q at hd
  exact d6_ oM oM
 have hr:(x:Int).tmod (D.length:Int)=((x % D.length:Nat):Int):=(Int.ofNat_tmod _ _).symm
 refine g7 k1.nil k1.fldA0 k1.fldAf k1.ldfE k4.lenG @hw @hr ?_
 exact WP.ret ⟨rfl,eX⟩
end
end Go.Gm.AQ
namespace Go.Gm.AQ
open Go Go.Gm
section
variable {h0 h:Heap} {g:AV} {N:Nat} {es:List E} {D:List (List Int)} {acc:List Bool}
theorem on_l1 (gv:GV h0 g N es D acc)(ok:DOk D acc)(no:NetOk N es){v s:Int}(s0:0<=s)(s1:s<D.length){ks:List Int}(hks:∀k∈ks,0<=k/\k<es.length)(hlk:ks.length<=100000){x t15:AV}(hx:At h0 x [I v,I s])(ht:Sl h0 1 t15 (ks.map encI)) :
  ∀(d n:Nat) (h:Heap) (out:AV),n+d=ks.length->Ext h0 h->Gr h0.length h.length h 3 out (((ks.take n).map fun k=>(((gi es k).to,nx D s (gi es k).md,k):Tr)).map encT)->
   WP (fun p:Nat × Nat=>a0Q p.1 p.2 g x out t15 (I ks.length) (I n) h) fun r h'=>Ext h0 h'/\Gr h0.length h'.length h' 3 r ((ks.map fun k=>(((gi es k).to,nx D s (gi es k).md,k):Tr)).map encT):=by
 obtain ⟨sE,a,sD,sA,sB,B,k1,k2,k3,k4,k5,k6,k7,k8⟩:=gv.ex
 intro d
 induction d with
 |zero=>
  intro n h out h1 e g1
  refine WP.rnd (fun i j=>a4N i j g x out t15 (I ks.length) (I n) h) ?_
  rw[List.take_of_length_le oM] at g1
  refine g0 ?_
  exact WP.ret ⟨e,g1⟩
 |succ d ih=>
  intro n h out h1 e g1
  refine WP.rnd (fun i j=>a4N i j g x out t15 (I ks.length) (I n) h) ?_
  obtain ⟨k,hk⟩:∃k,gi ks n=k:=⟨_,rfl⟩
  have hkr:=hks k (hk▸b7_ oM oM)
  have he:=no.edge _ (b7_ (xs:=es) hkr.1 hkr.2)
  obtain ⟨ed,hed⟩:∃ed,gi es k=ed:=⟨_,rfl⟩
  rw[hed] at he
  have htk:ks.take (n+1)=ks.take n++[k]:=by
   rw[List.take_add_one,show ks[n]?=some k by
    have:=c1_ (xs:=ks) (i:=(n:Int)) oM oM
    rw[hk] at this; simpa using this]
   rfl
  have hlo:=e.len
  have hl2:((h++[AObj.cells ⟨[I 0,I 0,I 0,I 0],0,0,false⟩]).set h.length (.cells ⟨[I ed.fr,I ed.to,I ed.md,I ed.co],0,0,false⟩)).length=h.length+1:=by simp
  obtain ⟨h2,hh2⟩:∃h2,h2=((h++[AObj.cells ⟨[I 0,I 0,I 0,I 0],0,0,false⟩]).set h.length (.cells ⟨[I ed.fr,I ed.to,I ed.md,I ed.co],0,0,false⟩)):=⟨_,rfl⟩
  have e2:Ext h h2:=by rw[hh2]; exact eX
  have r2:h2[h.length]?=some (.cells ⟨[I ed.fr,I ed.to,I ed.md,I ed.co],0,0,false⟩):=by rw[hh2]; exact a0_ (by simp)
  rw[<-hh2] at hl2
  have e02:=e.trans e2
  obtain ⟨p,p1,p2,-⟩:=cellA (H:=h2) k4 e02 s0 s1 he.2.2.2.2.1 he.2.2.2.2.2
  rw[show (encR (gi D s)).getD ed.md.toNat .undef=I (nx D s ed.md) by
   have hr:=ok.row s s0 s1
   simp only[encR,nx,List.getD_eq_getElem?_getD,List.getElem?_map]
   have:=c1_ (xs:=gi D s) he.2.2.2.2.1 oM
   rw[this]; rfl] at p2
  obtain ⟨s',h',q1,q2,q3⟩:=Gr.append1 (bytes:=24) (g1.ext e2) (v:=[I ed.to,I (nx D s ed.md),I k]) rfl oM oM (by simp; omega) oM oM
  rw[a3_] at q1
  refine g12 k1.nil k1.fldA0 k1.fldAf k1.ldfE ht.idxG ht.ld0 @hk @encI.eq_1 k2.idxG k2.ldN @hed @encE.eq_1 ?_
  rw[show AV.int .i64 0=I 0 from rfl,<-hh2]
  simp -implicitDefEqProofs (disch:=first|assumption|omega|(simp only[gL,gA]<;>omega)|fail) only[gC,reduceIte,k1.nil,k1.fldA0,k1.fldAf,k1.ldfE,r2,hx.fldA0,hx.ldfE,k4.idxG,p1,p2,q1]
  refine ih (n+1) h' s' oM (q3.ext e02 oM) ((q2.mono (Nat.le_refl _) (Nat.le_refl _)).cong ?_)
  rw[htk,List.map_append,List.map_append]
  simp[encT,hed]
theorem c2Q (gv:GV h g N es D acc)(ok:DOk D acc)(no:NetOk N es){v s:Int}(s0:0<=s)(s1:s<D.length) :
  Tot tab e7_ [g,.agg [I v,I s]] h fun r h'=>Ext h h'/\Gr h.length h'.length h' 3 r ((onL es D v s).map encT):=by
 obtain ⟨sE,a,sD,sA,sB,B,k1,k2,k3,k4,k5,k6,k7,k8⟩:=gv.ex
 refine WP.tot (fun k=>b1G k _ _ h) ?_
 have e1:Ext h (h++[AObj.cells ⟨[I v,I s],0,0,false⟩]):=eX
 refine g4 k1.nil k1.fldA0 k1.fldAf k1.ldfE ?_
 refine WP.call (c1u no (k3.ext e1)) ?_
 rintro r h2 ⟨e2,g2⟩
 have hl2:(outL es v).length<=100000:=Nat.le_trans (o0_ ..) no.len
 have hl:=e2.len
 simp only[List.length_append,List.length_cons,List.length_nil] at hl
 have hx:At h2 (.ptr h.length 0 2 0) [I v,I s]:=At.row (wg:=0) (g:=0) (ro:=false) (e2.get (by simp)) (Nat.le_refl _) rfl
 refine g1 g2.sl.lenG ?_
 refine WP.ent ((on_l1 (gv.ext (e1.trans e2)) ok no s0 s1 (ks:=outL es v) (fun k hk=>⟨(q8_.1 hk).1,(q8_.1 hk).2.1⟩) hl2 hx g2.sl (outL es v).length 0 h2 .nils oM (Ext.refl _) (Gr.nil ..)).mono ?_) fun i=>rfl
 rintro r h3 ⟨e3,g3⟩
 exact ⟨(e1.trans e2).trans e3,g3.mono oM (Nat.le_refl _)⟩
end
end Go.Gm.AQ
namespace Go.Gm.AQ
open Go Go.Gm
theorem gset {α:Type}[Inhabited α]{xs:List α}{y:Nat}(hy:y<xs.length)(v:α):(fun x:Nat=>gi (xs.set y v) (x:Int))=fun x:Nat=>if x=y then v else gi xs (x:Int):=by
 funext x
 have:=x5_ (xs:=xs) (i:=(y:Int)) (j:=(x:Int)) oM oM oM v
 rw[show (y:Int).toNat=y by omega] at this
 rw[this]
 by_cases q:x=y
 ·rw[if_pos q,if_pos oM]
 ·rw[if_neg q,if_neg oM]
abbrev gf {α:Type}[Inhabited α](xs:List α):Nat->α:=fun x:Nat=>gi xs (x:Int)
structure SW (W:Nat->Prop) (h:Heap) (os:Nat) (g fh q sc se sf:AV) (oc oe ov:Nat) (n:Nat) (cs ds fs:List Int) (M:List (Option Int)) (ls:Int):Prop where
 row:h[os]?=some (.cells ⟨[g,fh,q,sc,se,sf,I ls],0,0,false⟩)
 gc:Gr oc (oc+1) h 1 sc (cs.map encI)
 ge:Gr oe (oe+1) h 1 se (ds.map encI)
 gf:Gr ov (ov+1) h 1 sf (fs.map encI)
 lc:cs.length=n
 le:ds.length=n
 lf:fs.length=n
 o1:oc<oe
 o2:oe<ov
 o3:ov<os
 wc:W oc
 we:W oe
 wv:W ov
 ws:W os
 qv:SQ (fun o=>W o/\o≠oc/\o≠oe/\o≠ov/\o≠os) h q n M
section
variable {W:Nat->Prop} {h h':Heap} {os oc oe ov n:Nat} {g fh q sc se sf:AV} {cs ds fs:List Int} {M:List (Option Int)} {ls:Int}
theorem SW.os_lt (w:SW W h os g fh q sc se sf oc oe ov n cs ds fs M ls):os<h.length:=(List.getElem?_eq_some_iff.1 w.row).1
theorem SW.frs (w:SW W h os g fh q sc se sf oc oe ov n cs ds fs M ls){D:Nat->Prop}(f:FrS D h h')(hd:∀o,o<h.length->W o->¬D o):SW W h' os g fh q sc se sf oc oe ov n cs ds fs M ls:=by
 have h1:=w.os_lt
 have:=w.o1
 have:=w.o2
 have:=w.o3
 refine ⟨by rw[f.get (hd _ h1 w.ws) h1]; exact w.row,w.gc.frs f fun o q1 q2=>?_,w.ge.frs f fun o q1 q2=>?_,w.gf.frs f fun o q1 q2=>?_,w.lc,w.le,w.lf,w.o1,w.o2,w.o3,w.wc,w.we,w.wv,w.ws,w.qv.frs f fun o q1 q2=>hd o q1 q2.1⟩
 ·rw[show o=oc by omega]; exact hd _ oM w.wc
 ·rw[show o=oe by omega]; exact hd _ oM w.we
 ·rw[show o=ov by omega]; exact hd _ oM w.wv
theorem SW.ext (w:SW W h os g fh q sc se sf oc oe ov n cs ds fs M ls)(e:Ext h h'):SW W h' os g fh q sc se sf oc oe ov n cs ds fs M ls:=w.frs (D:=fun _=>False) (FrS.ofExt e) fun _ _ _ z=>z
theorem SW.mono (w:SW W h os g fh q sc se sf oc oe ov n cs ds fs M ls){W':Nat->Prop}(hw:∀o,o<h.length->W o->W' o):SW W' h os g fh q sc se sf oc oe ov n cs ds fs M ls:=by
 have h1:=w.os_lt
 have:=w.o1
 have:=w.o2
 have:=w.o3
 refine ⟨w.row,w.gc,w.ge,w.gf,w.lc,w.le,w.lf,w.o1,w.o2,w.o3,hw _ oM w.wc,hw _ oM w.we,hw _ oM w.wv,hw _ h1 w.ws,?_⟩
 obtain ⟨Wq,q1,q2⟩:=w.qv
 exact ⟨Wq,fun o z=>⟨⟨hw o (q1 o z).2 (q1 o z).1.1,(q1 o z).1.2⟩,(q1 o z).2⟩,q2⟩
theorem SW.setC (w:SW W h os g fh q sc se sf oc oe ov n cs ds fs M ls){y:Nat}(hy:y<n)(v:Int) :
  ∃h',stN 1 h (elP 1 sc y) (I v)=some h'/\SW W h' os g fh q sc se sf oc oe ov n (cs.set y v) ds fs M ls/\FrS (fun o=>o=oc) h h':=by
 have:=w.o1
 have:=w.o2
 have:=w.o3
 obtain ⟨h',k1,k2,k3,k4⟩:=w.gc.write0 (i:=(y:Int)) (v:=I v) oM (by rw[List.length_map,w.lc]; omega) rfl rfl
 have f:FrS (fun o=>o=oc) h h':=k3.s.mono fun o z1 z2=>oM
 refine ⟨h',k1,⟨by rw[f.get oM w.os_lt]; exact w.row,k2.cong ?_,w.ge.frs f fun o z1 z2=>oM,w.gf.frs f fun o z1 z2=>oM,by rw[List.length_set]; exact w.lc,w.le,w.lf,w.o1,w.o2,w.o3,w.wc,w.we,w.wv,w.ws,w.qv.frs f fun o z1 z2=>z2.2.1⟩,f⟩
 rw[List.map_set]; simp[encI]; rfl
theorem SW.setE (w:SW W h os g fh q sc se sf oc oe ov n cs ds fs M ls){y:Nat}(hy:y<n)(v:Int) :
  ∃h',stN 1 h (elP 1 se y) (I v)=some h'/\SW W h' os g fh q sc se sf oc oe ov n cs (ds.set y v) fs M ls/\FrS (fun o=>o=oe) h h':=by
 have:=w.o1
 have:=w.o2
 have:=w.o3
 obtain ⟨h',k1,k2,k3,k4⟩:=w.ge.write0 (i:=(y:Int)) (v:=I v) oM (by rw[List.length_map,w.le]; omega) rfl rfl
 have f:FrS (fun o=>o=oe) h h':=k3.s.mono fun o z1 z2=>oM
 refine ⟨h',k1,⟨by rw[f.get oM w.os_lt]; exact w.row,w.gc.frs f fun o z1 z2=>oM,k2.cong ?_,w.gf.frs f fun o z1 z2=>oM,w.lc,by rw[List.length_set]; exact w.le,w.lf,w.o1,w.o2,w.o3,w.wc,w.we,w.wv,w.ws,w.qv.frs f fun o z1 z2=>z2.2.2.1⟩,f⟩
 rw[List.map_set]; simp[encI]; rfl
theorem SW.setF (w:SW W h os g fh q sc se sf oc oe ov n cs ds fs M ls){y:Nat}(hy:y<n)(v:Int) :
  ∃h',stN 1 h (elP 1 sf y) (I v)=some h'/\SW W h' os g fh q sc se sf oc oe ov n cs ds (fs.set y v) M ls/\FrS (fun o=>o=ov) h h':=by
 have:=w.o1
 have:=w.o2
 have:=w.o3
 obtain ⟨h',k1,k2,k3,k4⟩:=w.gf.write0 (i:=(y:Int)) (v:=I v) oM (by rw[List.length_map,w.lf]; omega) rfl rfl
 have f:FrS (fun o=>o=ov) h h':=k3.s.mono fun o z1 z2=>oM
 refine ⟨h',k1,⟨by rw[f.get oM w.os_lt]; exact w.row,w.gc.frs f fun o z1 z2=>oM,w.ge.frs f fun o z1 z2=>oM,k2.cong ?_,w.lc,w.le,by rw[List.length_set]; exact w.lf,w.o1,w.o2,w.o3,w.wc,w.we,w.wv,w.ws,w.qv.frs f fun o z1 z2=>z2.2.2.2.1⟩,f⟩
 rw[List.map_set]; simp[encI]; rfl
theorem SW.setL (w:SW W h os g fh q sc se sf oc oe ov n cs ds fs M ls)(v:Int) :
  SW W (h.set os (.cells ⟨[g,fh,q,sc,se,sf,I v],0,0,false⟩)) os g fh q sc se sf oc oe ov n cs ds fs M v/\FrS (fun o=>o=os) h (h.set os (.cells ⟨[g,fh,q,sc,se,sf,I v],0,0,false⟩)):=by
 have:=w.o1
 have:=w.o2
 have:=w.o3
 have f:FrS (fun o=>o=os) h (h.set os (.cells ⟨[g,fh,q,sc,se,sf,I v],0,0,false⟩)):=⟨by simp,fun p p1 p2=>a9_ fun z=>p1 z.symm⟩
 exact ⟨⟨a0_ w.os_lt,w.gc.frs f fun o z1 z2=>oM,w.ge.frs f fun o z1 z2=>oM,w.gf.frs f fun o z1 z2=>oM,w.lc,w.le,w.lf,w.o1,w.o2,w.o3,w.wc,w.we,w.wv,w.ws,w.qv.frs f fun o z1 z2=>z2.2.2.2.2⟩,f⟩
theorem SQ.wide {P P':Nat->Prop}{h:Heap}{q:AV}{N:Nat}{M:List (Option Int)}(v:SQ P h q N M)(hp:∀o,o<h.length->P o->P' o):SQ P' h q N M:=by
 obtain ⟨W,h1,h2⟩:=v
 exact ⟨W,fun o z=>⟨hp o (h1 o z).2 (h1 o z).1,(h1 o z).2⟩,h2⟩
theorem SW.q' (w:SW W h os g fh q sc se sf oc oe ov n cs ds fs M ls){D:Nat->Prop}(f:FrS D h h')(hd:∀o,D o->o≠oc/\o≠oe/\o≠ov/\o≠os){M':List (Option Int)}(v:SQ (fun o=>W o/\o≠oc/\o≠oe/\o≠ov/\o≠os) h' q n M'):SW W h' os g fh q sc se sf oc oe ov n cs ds fs M' ls:=by
 refine ⟨by rw[f.get (fun z=>(hd _ z).2.2.2 rfl) w.os_lt]; exact w.row,w.gc.frs f fun o q1 q2 z=>(hd o z).1 oM,w.ge.frs f fun o q1 q2 z=>(hd o z).2.1 oM,w.gf.frs f fun o q1 q2 z=>(hd o z).2.2.1 oM,w.lc,w.le,w.lf,w.o1,w.o2,w.o3,w.wc,w.we,w.wv,w.ws,v⟩
end
end Go.Gm.AQ
namespace Go.Gm.AQ
open Go Go.Gm
section
variable {h0 h:Heap} {g:AV} {N:Nat} {es:List E} {D:List (List Int)} {acc:List Bool}
def TrOk (N:Nat)(es:List E)(D:List (List Int))(t:Tr):Prop:=0<=t.1/\t.1<N/\0<=t.2.1/\t.2.1<D.length/\0<=t.2.2/\t.2.2<es.length
theorem b0o {N S:Nat}{v s:Int}(v0:0<=v)(v1:v<N)(s0:0<=s)(s1:s<S):0<=v*S+s/\v*S+s<((N*S:Nat):Int):=by
 have h1:0<=v*(S:Int):=Int.mul_nonneg v0 oM
 have h2:(v+1)*(S:Int)<=N*S:=Int.mul_le_mul_of_nonneg_right oM oM
 rw[Int.add_mul,Int.one_mul] at h2
 rw[Int.natCast_mul]
 omega
theorem c2R {W:Nat->Prop}{hb:Heap}{os oc oe ov:Nat}{fh q sc se sf t46:AV}{n:Nat}{A:Nat->List Hop}{st:Nat->Prop}{ts:List Tr}{id k:Nat}{key ls:Int}{rk:Nat->Nat}{cs:List Int}(e0:Ext h0 hb)(hW:∀o,W o->h0.length<=o)(hWn:∀o,hb.length<=o->W o)(gv:GV h0 g N es D acc)(ok:DOk D acc)(co:COk es)(hN:N<=100000)(hn:n=N*D.length)(hn2:n<=1000000)(hg:GOk n 2147483647 A)(hts:∀t∈ts,TrOk N es D t)(hAt:∀t∈ts,hopOf es D.length t∈A id)(ht:∀h',FrS W hb h'->Sl h' 3 t46 (ts.map encT))(hid:id<n)(hl:ts.length<=10000000)(hc:gi cs id=key)(hk0:0<=key)(hk1:key<=k*2147483647)(hkn:k<n) :
  ∀(d i:Nat) (h:Heap) (ds fs:List Int) (M:List (Option Int)),i+d=ts.length->FrS W hb h->SW W h os g fh q sc se sf oc oe ov n cs ds fs M ls->DI n 2147483647 A st id ((ts.drop i).map (hopOf es D.length)) (gf cs) (gf M) (gf ds) (gf fs) rk (k+1)->
   WP (fun p:Nat × Nat=>p4_ p.1 p.2 (.ptr os 0 7 0) (I id) (I key) t46 (I ts.length) (I i) h) fun r h'=>r=.tup [I id,.bool true]/\FrS W hb h'/\
    ∃ds2 fs2 M2,SW W h' os g fh q sc se sf oc oe ov n cs ds2 fs2 M2 ls/\DI n 2147483647 A st id [] (gf cs) (gf M2) (gf ds2) (gf fs2) rk (k+1):=by
 obtain ⟨sE,a,sD,sA,sB,B,k1,k2,k3,k4,k5,k6,k7,k8⟩:=gv.ex
 intro d
 induction d with
 |zero=>
  intro i h ds fs M h1 f w di
  refine WP.rnd (fun i' j=>a3D i' j (.ptr os 0 7 0) (I id) (I key) t46 (I ts.length) (I i) h) ?_
  rw[List.drop_eq_nil_of_le oM] at di
  refine g0 ?_
  refine WP.congr (fun p=>a8l p.1 (I id) h) ?_
  exact WP.ret ⟨rfl,f,ds,fs,M,w,di⟩
 |succ d ih=>
  intro i h ds fs M h1 f w di
  refine WP.rnd (fun i' j=>a3D i' j (.ptr os 0 7 0) (I id) (I key) t46 (I ts.length) (I i) h) ?_
  obtain ⟨t,hti⟩:∃t,gi ts i=t:=⟨_,rfl⟩
  have htm:t∈ts:=hti▸b7_ oM oM
  obtain ⟨t1,t2,t3,t4,t5,t6⟩:=hts t htm
  have hdr:ts.drop i=t::ts.drop (i+1):=by
   rw[List.drop_eq_getElem_cons oM]
   congr 1
   rw[<-hti,b2_ oM]
  rw[hdr,List.map_cons] at di
  obtain ⟨sp1,sp2⟩:=b0o (S:=D.length) t1 t2 t3 t4
  obtain ⟨y,hy⟩:∃y:Nat,t.1*(D.length:Int)+t.2.1=y:=⟨(t.1*(D.length:Int)+t.2.1).toNat,oM⟩
  obtain ⟨ed,hed⟩:∃ed,gi es t.2.2=ed:=⟨_,rfl⟩
  have hco:=co.c _ (b7_ (xs:=es) t5 t6)
  rw[hed] at hco
  have hho:hopOf es D.length t=(y,t.2.2.toNat,ed.co):=by
   simp only[hopOf,hed,hy]; rfl
  rw[hho] at di
  have hyn:y<n:=oM
  have hA:(y,t.2.2.toNat,ed.co)∈A id:=hho▸hAt t htm
  have ex:Ext h0 h:=f.ext e0 fun o q1 q2=>by have:=hW o q2; omega
  have hlo:=ex.len
  have hlb:=f.len
  have hos:=w.os_lt
  have st:=ht h f
  have hl2:((h++[AObj.cells ⟨[I 0,I 0,I 0],0,0,false⟩]).set h.length (.cells ⟨[I t.1,I t.2.1,I t.2.2],0,0,false⟩)).length=h.length+1:=by simp
  obtain ⟨h2,hh2⟩:∃h2,h2=((h++[AObj.cells ⟨[I 0,I 0,I 0],0,0,false⟩]).set h.length (.cells ⟨[I t.1,I t.2.1,I t.2.2],0,0,false⟩)):=⟨_,rfl⟩
  have e2:Ext h h2:=by rw[hh2]; exact eX
  have r2:h2[h.length]?=some (.cells ⟨[I t.1,I t.2.1,I t.2.2],0,0,false⟩):=by rw[hh2]; exact a0_ (by simp)
  rw[<-hh2] at hl2
  have w2:=w.ext e2
  have ro2:=w2.row
  have ro1:=w.row
  refine g5 st.idxG st.ldN @hti @encT.eq_1 @ro1 ?_
  rw[show AV.int .i64 0=I 0 from rfl,<-hh2]
  refine WP.call (b2v (gv.ext (ex.trans e2)) ok t1 oM t3 (by have:=ok.l1; omega)) ?_
  rintro _ h3 ⟨rfl,e3⟩
  rw[hy]
  have w3:=w2.ext e3
  have ro3:=w3.row
  have r3:=e3.get r2
  have hl3:=e3.len
  have ex3:=(ex.trans e2).trans e3
  have f3:FrS W hb h3:=f.trans ((FrS.ofExt e2).trans (FrS.ofExt e3))
  by_cases hcy:0<=gi cs y
  ·refine g5 @ro3 w3.gc.sl.idxG w3.gc.sl.ld0 @encI.eq_1 w3.lc ?_
   exact ih (i+1) h3 ds fs M oM f3 w3 (di.skip (.inl hcy))
  ·have hcm:=di.neg y hyn hcy
   have hkb:(k:Int)*2147483647<=1000000*2147483647:=oM
   have k1':=k1.ext (e0.trans (Ext.refl _))
   have ey:=k1.ext ex3
   have e2s:=(k2.ext ex3)
   have hq3:SQ (fun o=>(W o/\o≠oc/\o≠oe/\o≠ov/\o≠os)/\o≠h.length) h3 q n M:=((w.qv.wide (P':=fun o=>(W o/\o≠oc/\o≠oe/\o≠ov/\o≠os)/\o≠h.length) fun o o1 o2=>⟨o2,oM⟩).ext e2).ext e3
   have hmu:=hq3.put hn2 (fun o ho=>⟨⟨hWn o oM,by have:=w3.o1; have:=w3.o2; have:=w3.o3; have:=w3.os_lt; omega⟩,oM⟩) (y:Int) (key+ed.co)
   refine g14 @ro3 w3.gc.sl.idxG w3.gc.sl.ld0 @encI.eq_1 w3.lc @r3 ey.nil ey.fldA0 ey.fldAf ey.ldfE e2s.idxG e2s.ldf @hed @encE.eq_1 ?_
   refine WP.call hmu ?_
   rintro _ h4 ⟨rfl,v4,f4⟩
   have w4:=w3.q' f4 (fun o z=>z.1.2) (v4.wide fun o _ z=>z.1)
   have f4b:FrS W hb h4:=f3.trans (f4.mono fun o _ z=>z.1.1)
   have hml:=w.qv.lm
   have gy:gf M y=gi M y:=rfl
   have skip:∀v,gi M y=some v->v<=key+ed.co->putM n M y (key+ed.co)=(M,false):=by
    intro v h1 h2
    rw[putM,if_pos ⟨oM,oM⟩,h1]
    exact if_pos h2
   have put:(∀v,gi M y=some v->¬v<=key+ed.co)->putM n M y (key+ed.co)=(M.set y (some (key+ed.co)),true):=by
    intro h1
    rw[putM,if_pos ⟨oM,oM⟩]
    cases hm:gi M (y:Int) with
    |none=>rfl
    |some v=>exact if_neg (h1 v hm)
   by_cases hm:∃v,gi M y=some v/\v<=key+ed.co
   ·obtain ⟨v,m1,m2⟩:=hm
    rw[skip v m1 m2] at w4 ⊢
    refine g0 ?_
    refine ih (i+1) h4 ds fs M oM f4b w4 (di.skip (.inr ⟨v,m1,?_⟩))
    show v<=gi cs id+ed.co
    omega
   ·have m1:∀v,gi M y=some v->¬v<=key+ed.co:=fun v z1 z2=>hm ⟨v,z1,z2⟩
    rw[put m1] at w4 ⊢
    have ro4:=w4.row
    have r4:h4[h.length]?=some (.cells ⟨[I t.1,I t.2.1,I t.2.2],0,0,false⟩):=by rw[f4.get (fun z=>z.2 rfl) oM]; exact r3
    obtain ⟨h5,s1,w5,f5⟩:=w4.setE hyn t.2.2
    obtain ⟨h6,s2,w6,f6⟩:=w5.setF hyn id
    refine g8 @ro4 @r4 w4.ge.sl.idxG w4.gf.sl.idxG w4.le w4.lf @s1 @s2 ?_
    refine ih (i+1) h6 _ _ _ oM ((f4b.trans (f5.mono fun o _ z=>z▸w.we)).trans (f6.mono fun o _ z=>z▸w.wv)) w6 ?_
    have:=di.put hg hid (by show 0<=gi cs id; omega) hA (by show gi cs y<0; omega) (fun v z=>by have:=m1 v z; show gi cs id+ed.co<v; omega) (by show gi cs id<=_; omega)
    rw[show gf (M.set y (some (key+ed.co)))=_ from gset oM _,show gf (ds.set y t.2.2)=_ from gset (by rw[w.le]; omega) _,show gf (fs.set y (id:Int))=_ from gset (by rw[w.lf]; omega) _]
    have hcc:gf cs id=key:=hc
    have hti2:((t.2.2.toNat:Nat):Int)=t.2.2:=oM
    rw[hcc,hti2] at this
    exact this
end
end Go.Gm.AQ
namespace Go.Gm.AQ
open Go Go.Gm
section
variable {h0 h:Heap} {g:AV} {N:Nat} {es:List E} {D:List (List Int)} {acc:List Bool}
structure HopsOk (h0:Heap) (g:AV) (N:Nat) (es:List E) (D:List (List Int)) (fh:FuncId) (L:Int->Int->List Tr):Prop where
 call:∀h,Ext h0 h->∀v s:Int,0<=v->v<N->0<=s->s<D.length->Tot tab fh [g,.agg [I v,I s]] h fun r h'=>Ext h h'/\Gr h.length h'.length h' 3 r ((L v s).map encT)
 tr:∀v s:Int,0<=v->v<N->0<=s->s<D.length->∀t∈L v s,TrOk N es D t
 len:∀v s:Int,0<=v->v<N->0<=s->s<D.length->(L v s).length<=10000000
theorem dm {N S x:Nat}(hx:x<N*S):x / S<N/\x % S<S:=by
 have h1:0<S:=by
  rcases Nat.eq_zero_or_pos S with q|q
  ·subst q; simp at hx
  ·exact q
 exact ⟨(Nat.div_lt_iff_lt_mul h1).2 hx,Nat.mod_lt _ h1⟩
theorem HopsOk.gok {fh:FuncId}{L:Int->Int->List Tr}(hh:HopsOk h0 g N es D fh L)(co:COk es):GOk (N*D.length) 2147483647 (hopA es D.length L):=by
 refine ⟨oM,fun x hx y e w hm=>?_⟩
 obtain ⟨q1,q2⟩:=dm hx
 obtain ⟨t,ht,h1⟩:=List.mem_map.1 hm
 obtain ⟨t1,t2,t3,t4,t5,t6⟩:=hh.tr _ _ (Int.natCast_nonneg _) (Int.ofNat_lt.2 q1) (Int.natCast_nonneg _) (Int.ofNat_lt.2 q2) t ht
 have hs:=b0o (S:=D.length) t1 t2 t3 t4
 have hc:=co.c _ (b7_ (xs:=es) t5 t6)
 simp only[hopOf] at h1
 cases h1
 exact ⟨oM,hc.1,hc.2⟩
theorem b9N {n:Nat}{c:Nat->Int}{y:Nat}(hy:y<n)(hc:c y<0):1<=un n c:=by
 have h1:=m1_ n (up c y 0)
 rw[un_up hy (Int.le_refl 0),if_pos hc] at h1
 omega
theorem b1Q {W:Nat->Prop}{os oc oe ov:Nat}{q sc se sf:AV}{n:Nat}{fh:FuncId}{L:Int->Int->List Tr}{st:Nat->Prop}{id0 k:Nat}{ls:Int}{rk:Nat->Nat}{cs ds fs:List Int}{M:List (Option Int)}(e0:Ext h0 h)(hW:∀o,W o->h0.length<=o)(gv:GV h0 g N es D acc)(ok:DOk D acc)(co:COk es)(hN:N<=100000)(hn:n=N*D.length)(hn2:n<=1000000)(hh:HopsOk h0 g N es D fh L)(hst:∀x,st x->x<n)(w:SW W h os g (.fn fh [] []) q sc se sf oc oe ov n cs ds fs M ls)(di:DI n 2147483647 (hopA es D.length L) st id0 [] (gf cs) (gf M) (gf ds) (gf fs) rk k)(hk:un n (gf cs)+k=n) :
  Tot tab h7_ [.ptr os 0 7 0] h fun r h'=>FrS W h h'/\
   ((r=.tup [I 0,.bool false]/\(∀x:Nat,x<n->gf M x=none)/\SW (fun o=>W o\/h.length<=o) h' os g (.fn fh [] []) q sc se sf oc oe ov n cs ds fs M ls)\/
    ∃id key ds2 fs2 M2 rk2,id<n/\gf M id=some key/\(∀z:Nat,z<n->∀u,gf M z=some u->key<=u)/\r=.tup [I id,.bool true]/\SW (fun o=>W o\/h.length<=o) h' os g (.fn fh [] []) q sc se sf oc oe ov n (cs.set id key) ds2 fs2 M2 key/\
     DI n 2147483647 (hopA es D.length L) st id [] (gf (cs.set id key)) (gf M2) (gf ds2) (gf fs2) rk2 (k+1)/\un n (gf (cs.set id key))+((k+1:Nat):Int)=n):=by
 have hg:=hh.gok co
 rw[<-hn] at hg
 have hml:=w.qv.lm
 have wa:SW (fun o=>W o/\o<h.length) h os g (.fn fh [] []) q sc se sf oc oe ov n cs ds fs M ls:=w.mono fun o z1 z2=>⟨z2,z1⟩
 refine WP.tot (fun k=>b0f k _ h) ?_
 have ro:=w.row
 refine g1 @ro ?_
 refine WP.call (wa.qv.pop hn2) ?_
 rintro r h1 ⟨M2,pq,v1,f1⟩
 have w1:=wa.q' f1 (fun o z=>z.2) v1
 have ro1:=w1.row
 have f1W:FrS W h h1:=f1.mono fun o _ z=>z.1.1
 rcases pq with ⟨p1,rfl,rfl⟩|⟨idI,key,p1,rfl,rfl⟩
 ·refine g3 @a4_ @a5_ @a6Z ?_
  refine WP.ret ⟨f1W,.inl ⟨rfl,fun x hx=>b0Y p1 oM oM,w1.mono fun o _ z=>.inl z.1⟩⟩
 ·obtain ⟨id,rfl⟩:∃id:Nat,idI=id:=⟨idI.toNat,by have:=p1.i0; omega⟩
  have hid:id<n:=by have:=p1.i1; omega
  have hmin:∀z:Nat,z<n->∀u,gf M z=some u->key<=u:=by
   intro z hz u hu
   have:=p1.m z u oM oM hu
   simp only[ltI] at this
   omega
  have di2:=di.pop hg hst hid p1.k hmin
  obtain ⟨q1,q2,q3⟩:=di.que id hid key p1.k
  have hk1:=di.bnd id hid key (.inr p1.k)
  have hup:=b9N (c:=gf cs) hid oM
  have hkn:k<n:=oM
  rw[show (id:Int).toNat=id by omega] at w1
  obtain ⟨h2,s2,w2,f2⟩:=w1.setC hid key
  have ro2:=w2.row
  obtain ⟨w3,f3⟩:=w2.setL key
  obtain ⟨h3,hh3⟩:∃h3,h3=h2.set os (.cells ⟨[g,.fn fh [] [],q,sc,se,sf,I key],0,0,false⟩):=⟨_,rfl⟩
  rw[<-hh3] at w3 f3
  have ro3:=w3.row
  have f3W:FrS W h h3:=(f1W.trans (f2.mono fun o _ z=>z▸w.wc)).trans (f3.mono fun o _ z=>z▸w.ws)
  have ex3:Ext h0 h3:=f3W.ext e0 fun o z1 z2=>by have:=hW o z2; omega
  have gr1:Gr oc (oc+1) h1 1 sc (cs.map encI):=w1.gc
  refine g8 @a4_ @a5_ @a6Z @ro1 gr1.sl.idxG w.lc @s2 @ro2 ?_
  rw[<-hh3]
  refine g1 @ro3 ?_
  refine WP.call (b4W (gv.ext ex3) ok oM) ?_
  rintro _ h4 ⟨rfl,e4⟩
  have w4:=w3.ext e4
  have ro4:=w4.row
  obtain ⟨d1,d2⟩:=dm (N:=N) (S:=D.length) (hn▸hid)
  refine g1 @ro4 ?_
  refine WP.call (hh.call h4 (ex3.trans e4) _ _ (Int.natCast_nonneg _) (Int.ofNat_lt.2 d1) (Int.natCast_nonneg _) (Int.ofNat_lt.2 d2)) ?_
  rintro t46 h5 ⟨e5,g5⟩
  have w5:=w4.ext e5
  refine g1 g5.sl.lenG ?_
  have hl5:h.length<=h5.length:=by have:=f3W.len; have:=e4.len; have:=e5.len; omega
  have hl4:h.length<=h4.length:=by have:=f3W.len; have:=e4.len; omega
  have w6:=w5.mono (W':=fun o=>(W o/\o<h.length)\/h5.length<=o) fun o _ z=>.inl z
  have hcid:gi (cs.set id key) (id:Int)=key:=by
   rw[show (id:Int)=((id:Nat):Int) from rfl]
   have:=congrFun (gset (xs:=cs) (y:=id) (by rw[w.lc]; exact hid) key) id
   rw[if_pos rfl] at this
   exact this
  have hA:∀t∈L ((id / D.length:Nat):Int) ((id % D.length:Nat):Int),hopOf es D.length t∈hopA es D.length L id:=fun t z=>List.mem_map_of_mem z
  refine WP.ent ((c2R (W:=fun o=>(W o/\o<h.length)\/h5.length<=o) (hb:=h5) (st:=st) (A:=hopA es D.length L) (rk:=fun x=>if x=id then k else rk x) (k:=k) ((ex3.trans e4).trans e5)
   (fun o z=>?_) (fun o z=>.inr z) gv ok co hN hn hn2 hg (hh.tr _ _ (Int.natCast_nonneg _) (Int.ofNat_lt.2 d1) (Int.natCast_nonneg _) (Int.ofNat_lt.2 d2)) hA (fun h' fr=>?_) hid (hh.len _ _ (Int.natCast_nonneg _) (Int.ofNat_lt.2 d1) (Int.natCast_nonneg _) (Int.ofNat_lt.2 d2)) hcid q2 hk1 hkn _ 0 h5 _ _ _ (Nat.zero_add _) (FrS.refl _ _) w6 ?_).mono ?_) fun i=>rfl
  ·rcases z with z|z
   ·exact hW o z.1
   ·have:=(((ex3.trans e4).trans e5)).len; omega
  ·exact (g5.frs fr fun o z1 z2 z3=>by rcases z3 with z3|z3<;>omega).sl
  ·rw[List.drop_zero,show gf (cs.set id key)=_ from gset (by rw[w.lc]; exact hid) _,show gf (M.set id none)=_ from gset oM _]
   exact di2
  ·rintro r h6 ⟨rfl,f6,ds2,fs2,M3,w7,d7⟩
   have f5W:FrS W h h5:=(f3W.trans (FrS.ofExt e4)).trans (FrS.ofExt e5)
   refine ⟨f5W.trans (f6.mono fun o z1 z2=>?_),.inr ⟨id,key,ds2,fs2,M3,_,hid,p1.k,hmin,rfl,w7.mono fun o z1 z2=>?_,d7,?_⟩⟩
   ·rcases z2 with z2|z2
    ·exact z2.1
    ·omega
   ·rcases z2 with z2|z2
    ·exact .inl z2.1
    ·exact .inr oM
   ·have:gf (cs.set id key)=up (gf cs) id key:=gset (by rw[w.lc]; exact hid) _
    rw[this,un_up hid q2,if_pos (by show gf cs id<0; omega)]
    omega
end
end Go.Gm.AQ
namespace Go.Gm.AQ
open Go Go.Gm
section
variable {h0 h:Heap} {g:AV} {N:Nat} {es:List E} {D:List (List Int)} {acc:List Bool}
theorem c4L {W:Nat->Prop}{hb:Heap}{os oc oe ov:Nat}{q sc se sf:AV}{n:Nat}{fh:FuncId}{L:Int->Int->List Tr}{st:Nat->Prop}(e0:Ext h0 hb)(hW:∀o,W o->h0.length<=o)(hWn:∀o,hb.length<=o->W o)(gv:GV h0 g N es D acc)(ok:DOk D acc)(co:COk es)(hN:N<=100000)(hn:n=N*D.length)(hn2:n<=1000000)(hh:HopsOk h0 g N es D fh L)(hst:∀x,st x->x<n) :
  ∀(d:Nat) (h:Heap) (id0 k:Nat) (ls:Int) (rk:Nat->Nat) (cs ds fs:List Int) (M:List (Option Int)),n<=d+k->FrS W hb h->SW W h os g (.fn fh [] []) q sc se sf oc oe ov n cs ds fs M ls->DI n 2147483647 (hopA es D.length L) st id0 [] (gf cs) (gf M) (gf ds) (gf fs) rk k->un n (gf cs)+k=n->
   WP (fun p:Nat × Nat=>z7_ p.1 p.2 (.ptr os 0 7 0) h) fun r h'=>r=.tup []/\FrS W hb h'/\∃id2 k2 ls2 rk2 cs2 ds2 fs2 M2,SW W h' os g (.fn fh [] []) q sc se sf oc oe ov n cs2 ds2 fs2 M2 ls2/\
    DI n 2147483647 (hopA es D.length L) st id2 [] (gf cs2) (gf M2) (gf ds2) (gf fs2) rk2 k2/\(∀x:Nat,x<n->gf M2 x=none)/\un n (gf cs2)+(k2:Int)=n:=by
 intro d
 induction d with
 |zero=>
  intro h id0 k ls rk cs ds fs M hd f w di hk
  refine WP.rnd (fun i j=>a3W i j (.ptr os 0 7 0) h) ?_
  have ex:Ext h0 h:=f.ext e0 fun o q1 q2=>by have:=hW o q2; omega
  have hb2:=f.len
  refine WP.call (b1Q ex hW gv ok co hN hn hn2 hh hst w di hk) ?_
  rintro r h2 ⟨f2,⟨rfl,m,w2⟩|⟨id,key,ds2,fs2,M2,rk2,i1,i2,_,rfl,w2,d2,k2⟩⟩
  ·refine g2 @a4_ @a5_ ?_
   exact WP.ret ⟨rfl,f.trans f2,id0,k,ls,rk,cs,ds,fs,M,w2.mono fun o _ z=>z.elim (fun z=>z) fun z=>hWn o oM,di,m,hk⟩
  ·have:=m1_ n (gf (cs.set id key))
   omega
 |succ d ih=>
  intro h id0 k ls rk cs ds fs M hd f w di hk
  refine WP.rnd (fun i j=>a3W i j (.ptr os 0 7 0) h) ?_
  have ex:Ext h0 h:=f.ext e0 fun o q1 q2=>by have:=hW o q2; omega
  have hb2:=f.len
  refine WP.call (b1Q ex hW gv ok co hN hn hn2 hh hst w di hk) ?_
  rintro r h2 ⟨f2,⟨rfl,m,w2⟩|⟨id,key,ds2,fs2,M2,rk2,i1,i2,_,rfl,w2,d2,k2⟩⟩
  ·refine g2 @a4_ @a5_ ?_
   exact WP.ret ⟨rfl,f.trans f2,id0,k,ls,rk,cs,ds,fs,M,w2.mono fun o _ z=>z.elim (fun z=>z) fun z=>hWn o oM,di,m,hk⟩
  ·refine g2 @a4_ @a5_ ?_
   exact ih h2 id (k+1) key rk2 _ ds2 fs2 M2 oM (f.trans f2) (w2.mono fun o _ z=>z.elim (fun z=>z) fun z=>hWn o oM) d2 k2
theorem b0Z {W:Nat->Prop}{os oc oe ov:Nat}{q sc se sf:AV}{n:Nat}{fh:FuncId}{L:Int->Int->List Tr}{st:Nat->Prop}{id0 k:Nat}{ls:Int}{rk:Nat->Nat}{cs ds fs:List Int}{M:List (Option Int)}(e0:Ext h0 h)(hW:∀o,W o->h0.length<=o)(gv:GV h0 g N es D acc)(ok:DOk D acc)(co:COk es)(hN:N<=100000)(hn:n=N*D.length)(hn2:n<=1000000)(hh:HopsOk h0 g N es D fh L)(hst:∀x,st x->x<n)(w:SW W h os g (.fn fh [] []) q sc se sf oc oe ov n cs ds fs M ls)(di:DI n 2147483647 (hopA es D.length L) st id0 [] (gf cs) (gf M) (gf ds) (gf fs) rk k)(hk:un n (gf cs)+k=n) :
  Tot tab i7_ [.ptr os 0 7 0] h fun r h'=>r=.tup []/\FrS W h h'/\∃id2 k2 ls2 rk2 cs2 ds2 fs2 M2,SW (fun o=>W o\/h.length<=o) h' os g (.fn fh [] []) q sc se sf oc oe ov n cs2 ds2 fs2 M2 ls2/\
    DI n 2147483647 (hopA es D.length L) st id2 [] (gf cs2) (gf M2) (gf ds2) (gf fs2) rk2 k2/\(∀x:Nat,x<n->gf M2 x=none)/\un n (gf cs2)+(k2:Int)=n:=by
 refine WP.tot (fun k=>b0y k _ h) ?_
 refine WP.ent ((c4L (W:=fun o=>W o\/h.length<=o) e0 (fun o z=>z.elim (hW o) fun z=>by have:=e0.len; omega) (fun o z=>.inr z) gv ok co hN hn hn2 hh hst n h id0 k ls rk cs ds fs M oM (FrS.refl _ _) (w.mono fun o _ z=>.inl z) di hk).mono ?_) fun i=>rfl
 rintro r h' ⟨rfl,f,z⟩
 exact ⟨rfl,f.mono fun o z1 z2=>z2.elim (fun z=>z) fun z=>oM,z⟩
def encP2 (p:Int × Int):List AV:=[I p.1,I p.2]
theorem b5S {n:Nat}{c:Nat->Int}(hc:∀x,x<n->c x = -1):un n c=n:=by
 have:un n c=sumN (fun _=>(1:Int)) n:=a4w n fun x hx=>by rw[if_pos (by have:=hc x hx; omega)]
 rw[this]
 clear this hc
 induction n with
 |zero=>rfl
 |succ n ih=>rw[sumN,ih]; omega
theorem DI.start {n:Nat}{W:Int}{A:Nat->List Hop}{st:Nat->Prop}{c e f:Nat->Int}{m:Nat->Option Int}(hc:∀x,x<n->c x = -1)(hf:∀x,x<n->f x = -1)(hm:∀x,x<n->(st x/\m x=some 0)\/(¬st x/\m x=none)):DI n W A st 0 [] c m e f (fun _=>0) 0:=by
 refine ⟨fun x hx h=>?_,fun x hx _=>hc x hx,fun x hx v h=>?_,fun x hx h=>?_,fun x hx h=>?_,fun x y hx hy h=>?_,fun y hy v h=>?_,fun x hx h=>?_,fun x hx v h=>?_,fun x hx h=>?_⟩
 ·have:=hc x hx; omega
 ·rcases hm x hx with ⟨m1,m2⟩|⟨m1,m2⟩
  ·rw[m2] at h
   injection h with h
   subst h
   exact ⟨hc x hx,Int.le_refl _,[],.nil m1⟩
  ·rw[m2] at h; cases h
 ·have:=hc x hx; omega
 ·rcases hm x hx with ⟨m1,m2⟩|⟨m1,m2⟩
  ·exact .inr m2
  ·exact absurd h m1
 ·have:=hc x hx; omega
 ·rcases h with h|h
  ·have:=hc y hy; omega
  ·rcases hm y hy with ⟨m1,m2⟩|⟨m1,m2⟩
   ·rw[m2] at h
    injection h with h
    exact .inl ⟨hf y hy,m1,h.symm⟩
   ·rw[m2] at h; cases h
 ·have:=hc x hx; omega
 ·rcases h with h|h
  ·have:=hc x hx; omega
  ·rcases hm x hx with ⟨m1,m2⟩|⟨m1,m2⟩
   ·rw[m2] at h
    injection h with h
    subst h
    simp
   ·rw[m2] at h; cases h
 ·have:=hc x hx; omega
end
end Go.Gm.AQ
namespace Go.Gm.AQ
open Go Go.Gm
section
variable {h0 h:Heap} {g:AV} {N:Nat} {es:List E} {D:List (List Int)} {acc:List Bool}
def atSt (S:Nat)(al:List (Int × Int))(x:Nat):Prop:=∃a∈al,a.1*S+a.2=(x:Int)
theorem c1v {hb:Heap}{W:Nat->Prop}{os oc oe ov n:Nat}{fh q sc se sf atv:AV}{cs ds fs:List Int}{al:List (Int × Int)}{Q:AV->Heap->Prop}(gv:GV hb g N es D acc)(ok:DOk D acc)(hN:N<=100000)(hn:n=N*D.length)(hn2:n<=1000000)(hWn:∀o,hb.length<=o->W o)(hW:∀o,W o->hb.length<=o)(ha:Sl hb 2 atv (al.map encP2))(has:∀a∈al,0<=a.1/\a.1<N/\0<=a.2/\a.2<D.length)(hal:al.length<=100000) :
  ∀(d i:Nat) (h:Heap) (M:List (Option Int)),i+d=al.length->Ext hb h->SW W h os g fh q sc se sf oc oe ov n cs ds fs M 0->(∀x:Nat,x<n->(atSt D.length (al.take i) x/\gf M x=some 0)\/(¬atSt D.length (al.take i) x/\gf M x=none))->
   (∀h' M',Ext hb h'->SW W h' os g fh q sc se sf oc oe ov n cs ds fs M' 0->(∀x:Nat,x<n->(atSt D.length al x/\gf M' x=some 0)\/(¬atSt D.length al x/\gf M' x=none))->Q (.ptr os 0 7 0) h')->
   WP (fun p:Nat × Nat=>x8_ p.1 p.2 g (.ptr os 0 7 0) atv (I al.length) (I i) h) Q:=by
 intro d
 induction d with
 |zero=>
  intro i h M h1 e w hm hQ
  refine WP.rnd (fun i' j=>a3v i' j g (.ptr os 0 7 0) atv (I al.length) (I i) h) ?_
  rw[List.take_of_length_le oM] at hm
  refine g0 ?_
  exact WP.ret (hQ h M e w hm)
 |succ d ih=>
  intro i h M h1 e w hm hQ
  refine WP.rnd (fun i' j=>a3v i' j g (.ptr os 0 7 0) atv (I al.length) (I i) h) ?_
  obtain ⟨a,hai⟩:∃a,gi al i=a:=⟨_,rfl⟩
  obtain ⟨a1,a2,a3,a4⟩:=has a (hai▸b7_ oM oM)
  obtain ⟨sp1,sp2⟩:=b0o (S:=D.length) a1 a2 a3 a4
  obtain ⟨y,hy⟩:∃y:Nat,a.1*(D.length:Int)+a.2=y:=⟨(a.1*(D.length:Int)+a.2).toNat,oM⟩
  have hyn:y<n:=oM
  have htk:al.take (i+1)=al.take i++[a]:=by
   rw[List.take_add_one,show al[i]?=some a by
    have:=c1_ (xs:=al) (i:=(i:Int)) oM oM
    rw[hai] at this; simpa using this]
   rfl
  have hos:=w.os_lt
  have hlb:=e.len
  have hl2:((h++[AObj.cells ⟨[I 0,I 0],0,0,false⟩]).set h.length (.cells ⟨[I a.1,I a.2],0,0,false⟩)).length=h.length+1:=by simp
  obtain ⟨h2,hh2⟩:∃h2,h2=((h++[AObj.cells ⟨[I 0,I 0],0,0,false⟩]).set h.length (.cells ⟨[I a.1,I a.2],0,0,false⟩)):=⟨_,rfl⟩
  have e2:Ext h h2:=by rw[hh2]; exact eX
  rw[<-hh2] at hl2
  have w2:=w.ext e2
  have ro:=w.row
  refine g5 ha.idxG ha.ldN @hai @encP2.eq_1 @ro ?_
  rw[show AV.int .i64 0=I 0 from rfl,<-hh2]
  refine WP.call (b2v (gv.ext (e.trans e2)) ok a1 oM a3 (by have:=ok.l1; omega)) ?_
  rintro _ h3 ⟨rfl,e3⟩
  rw[hy]
  have w3:=w2.ext e3
  have ro2:=w2.row
  have ro3:=w3.row
  have hl3:=e3.len
  refine g2 @ro2 @ro3 ?_
  have o1:=w3.o1
  have o2:=w3.o2
  have o3:=w3.o3
  refine WP.call (w3.qv.put hn2 (fun o ho=>⟨hWn o oM,oM⟩) (y:Int) 0) ?_
  rintro _ h4 ⟨rfl,v4,f4⟩
  have w4:=w3.q' f4 (fun o z=>z.2) v4
  have hml:=w.qv.lm
  have e4:Ext hb h4:=f4.ext ((e.trans e2).trans e3) fun o q1 q2=>by have:=hW o q2.1; omega
  refine ih (i+1) h4 _ oM e4 w4 ?_ hQ
  have key:∀x:Nat,atSt D.length (al.take (i+1)) x↔atSt D.length (al.take i) x\/x=y:=by
   intro x
   rw[htk]
   constructor
   ·rintro ⟨b,b1,b2⟩
    rcases List.mem_append.1 b1 with b1|b1
    ·exact .inl ⟨b,b1,b2⟩
    ·obtain rfl:=List.mem_singleton.1 b1
     right; omega
   ·rintro (⟨b,b1,b2⟩|rfl)
    ·exact ⟨b,List.mem_append.2 (.inl b1),b2⟩
    ·exact ⟨a,List.mem_append.2 (.inr (List.mem_singleton.2 rfl)),hy⟩
  intro x hx
  rw[key x]
  rcases hm y hyn with ⟨m1,m2⟩|⟨m1,m2⟩
  ·have hp:putM n M y 0=(M,false):=by
    rw[putM,if_pos ⟨oM,oM⟩,show gi M (y:Int)=some 0 from m2]
    rfl
   rw[hp]
   rcases hm x hx with ⟨n1,n2⟩|⟨n1,n2⟩
   ·exact .inl ⟨.inl n1,n2⟩
   ·refine .inr ⟨fun z=>?_,n2⟩
    rcases z with z|z
    ·exact n1 z
    ·exact n1 (z▸m1)
  ·have hp:putM n M y 0=(M.set y (some 0),true):=by
    rw[putM,if_pos ⟨oM,oM⟩,show gi M (y:Int)=none from m2]
    rfl
   rw[hp]
   show (_/\gf (M.set y (some 0)) x=_)\/(_/\gf (M.set y (some 0)) x=_)
   rw[show gf (M.set y (some 0))=_ from gset oM _]
   by_cases qx:x=y
   ·left
    exact ⟨.inr qx,if_pos qx⟩
   ·simp only[if_neg qx]
    rcases hm x hx with ⟨n1,n2⟩|⟨n1,n2⟩
    ·exact .inl ⟨.inl n1,n2⟩
    ·exact .inr ⟨fun z=>z.elim n1 qx,n2⟩
theorem c1w {hb:Heap}{W:Nat->Prop}{os oc oe ov n:Nat}{fh q sc se sf atv:AV}{M:List (Option Int)}{Q:AV->Heap->Prop}(hn2:n<=1000000)(hW:∀o,W o->hb.length<=o)(hQ:∀h cs ds fs,Ext hb h->SW W h os g fh q sc se sf oc oe ov n cs ds fs M 0->(∀x:Nat,x<n->gf cs x = -1/\gf ds x = -1/\gf fs x = -1)->WP (fun i:Nat=>a1E i g atv (.ptr os 0 7 0) h) Q) :
  ∀(d i:Nat) (h:Heap) (cs ds fs:List Int),i+d=n->Ext hb h->SW W h os g fh q sc se sf oc oe ov n cs ds fs M 0->(∀x:Nat,x<i->gf cs x = -1/\gf ds x = -1/\gf fs x = -1)->
   WP (fun p:Nat × Nat=>x7_ p.1 p.2 g atv (.ptr os 0 7 0) (I n) (I i) h) Q:=by
 intro d
 induction d with
 |zero=>
  intro i h cs ds fs h1 e w hm
  refine WP.rnd (fun i' j=>a3w i' j g atv (.ptr os 0 7 0) (I n) (I i) h) ?_
  obtain rfl:i=n:=oM
  refine g0 ?_
  exact WP.lv (hQ h cs ds fs e w hm) fun i j=>rfl
 |succ d ih=>
  intro i h cs ds fs h1 e w hm
  refine WP.rnd (fun i' j=>a3w i' j g atv (.ptr os 0 7 0) (I n) (I i) h) ?_
  have hin:i<n:=oM
  have ro:=w.row
  obtain ⟨h2,s2,w2,f2⟩:=w.setC hin (-1)
  obtain ⟨h3,s3,w3,f3⟩:=w2.setE hin (-1)
  obtain ⟨h4,s4,w4,f4⟩:=w3.setF hin (-1)
  have gc:=w.gc.sl
  have ge:=w.ge.sl
  have gf':=w.gf.sl
  refine g10 @ro gc.idxG ge.idxG gf'.idxG w.lc w.le w.lf @s2 @s3 @s4 ?_
  have e2:=f2.ext e fun o q1 q2=>by have:=hW _ w.wc; omega
  have e3:=f3.ext e2 fun o q1 q2=>by have:=hW _ w.we; omega
  have e4:=f4.ext e3 fun o q1 q2=>by have:=hW _ w.wv; omega
  refine ih (i+1) h4 _ _ _ oM e4 w4 fun x hx=>?_
  have lc:=w.lc
  have le:=w.le
  have lf:=w.lf
  rw[show gf (cs.set i (-1))=_ from gset oM _,show gf (ds.set i (-1))=_ from gset oM _,show gf (fs.set i (-1))=_ from gset oM _]
  by_cases qx:x=i
  ·simp[qx]
  ·simp only[if_neg qx]
   exact hm x oM
theorem a5L {atv:AV}{fh:FuncId}{al:List (Int × Int)}(gv:GV h g N es D acc)(ok:DOk D acc)(hN:N<=100000){n:Nat}(hn:n=N*D.length)(hn2:n<=1000000)(ha:Sl h 2 atv (al.map encP2))(has:∀a∈al,0<=a.1/\a.1<N/\0<=a.2/\a.2<D.length)(hal:al.length<=100000)(A:Nat->List Hop) :
  Tot tab e1_ [g,.fn fh [] [],atv] h fun r h'=>Ext h h'/\∃os q sc se sf oc oe ov cs ds fs M,r=.ptr os 0 7 0/\SW (fun o=>h.length<=o) h' os g (.fn fh [] []) q sc se sf oc oe ov n cs ds fs M 0/\
   DI n 2147483647 A (atSt D.length al) 0 [] (gf cs) (gf M) (gf ds) (gf fs) (fun _=>0) 0/\un n (gf cs)+(0:Nat)=n:=by
 obtain ⟨sE,a,sD,sA,sB,B,k1,k2,k3,k4,k5,k6,k7,k8⟩:=gv.ex
 refine WP.tot (fun k=>b0a k _ _ _ h) ?_
 have hw:IntKind.i64.wrap ((N:Int)*(D.length:Int))=(n:Int):=by
  rw[hn,Int.natCast_mul]
  have:=ok.l1
  refine d6_ ?_ ?_
  ·have:0<=(N:Int)*(D.length:Int):=Int.mul_nonneg oM oM
   omega
  ·have:(N:Int)*(D.length:Int)<=100000*2000:=Int.mul_le_mul oM oM oM oM
   omega
 obtain ⟨s1,h1,a1,g1,e1,_,l1⟩:=g0_ (zero:=[AV.int .i64 0]) (sz:=1) (bytes:=8) (n:=(n:Int)) h oM oM oM rfl rfl
 obtain ⟨s2,h2,a2,g2,e2,_,l2⟩:=g0_ (zero:=[AV.int .i64 0]) (sz:=1) (bytes:=8) (n:=(n:Int)) h1 oM oM oM rfl rfl
 obtain ⟨s3,h3,a3,g3,e3,_,l3⟩:=g0_ (zero:=[AV.int .i64 0]) (sz:=1) (bytes:=8) (n:=(n:Int)) h2 oM oM oM rfl rfl
 have hre:List.replicate (n:Int).toNat [AV.int .i64 0]=(List.replicate n (0:Int)).map encI:=by simp[encI,I]
 rw[hre] at g1 g2 g3
 have mx:max (N:Int) 0=N:=oM
 refine g11 k1.nil k1.fldA0 k1.fldAf k1.ld0 k1.ldfE k4.lenG @hw @a1 @a2 @a3 @mx ?_
 refine WP.call (b4V n hn2 h3) ?_
 rintro q h4 ⟨v4,e4⟩
 have l4:=e4.len
 have hqp:q.one=true/\q.cells=[q]:=by
  obtain ⟨oq,_,_,hq,_⟩:=v4
  rw[hq]; exact ⟨rfl,rfl⟩
 have hgp:g.one=true/\g.cells=[g]:=by
  obtain ⟨_,_,_,_,_,hq,_⟩:=k1
  rw[hq]; exact ⟨rfl,rfl⟩
 obtain ⟨fv,hfv⟩:∃fv,fv=AV.fn fh [] []:=⟨_,rfl⟩
 have hfp:fv.one=true/\fv.cells=[fv]:=by rw[hfv]; exact ⟨rfl,rfl⟩
 rw[<-hfv]
 simp -implicitDefEqProofs (maxSteps:=1000000) (disch:=first|assumption|omega|(simp only[gL]<;>omega)|((repeat (first|exact Ext.refl _|assumption|apply Ext.app|apply Ext.mk|(refine Ext.setr ?_ (by (first|omega|(simp only[gL]<;>omega))) _))); done)|(simp only[gL,gA,hqp.1,hqp.2,hgp.1,hgp.2,hfp.1,hfp.2,g1.sl.one,g1.sl.cells,g2.sl.one,g2.sl.cells,g3.sl.one,g3.sl.cells]<;>omega)|fail) only[gB,setAll,partL,fldV,reduceIte,Nat.reduceAdd,Nat.reduceMul,hqp.1,hqp.2,hgp.1,hgp.2,hfp.1,hfp.2,g1.sl.one,g1.sl.cells,g2.sl.one,g2.sl.cells,g3.sl.one,g3.sl.cells]
 obtain ⟨h5,hh5⟩:∃h5,h5=h4++[AObj.cells ⟨[g,fv,q,s1,s2,s3,AV.int .i64 0],0,0,false⟩]:=⟨_,rfl⟩
 have e5:Ext h4 h5:=by rw[hh5]; exact Ext.push _ _
 have ro:h5[h4.length]?=some (.cells ⟨[g,fv,q,s1,s2,s3,I 0],0,0,false⟩):=by rw[hh5]; simp
 rw[<-hh5]
 have e35:=e4.trans e5
 have e05:=((e1.trans e2).trans e3).trans e35
 have w:SW (fun o=>h.length<=o) h5 h4.length g fv q s1 s2 s3 h.length h1.length h2.length n (List.replicate n 0) (List.replicate n 0) (List.replicate n 0) (List.replicate n none) 0:=by
  refine ⟨ro,((g1.ext e2).ext e3).ext e35,(g2.ext e3).ext e35,g3.ext e35,by simp,by simp,by simp,oM,oM,oM,Nat.le_refl _,by show h.length<=_; omega,by show h.length<=_; omega,by show h.length<=_; omega,?_⟩
  refine (SQ.ext (P:=fun o=>(h.length<=o/\o≠h.length/\o≠h1.length/\o≠h2.length/\o≠h4.length)) (v4.sq fun o z1 z2=>?_) e5)
  omega
 simp -implicitDefEqProofs (disch:=first|assumption|omega|(simp only[gL,gA]<;>omega)|fail) only[gC,reduceIte,ro,w.gc.sl.lenG,List.length_replicate]
 rw[hfv] at w ⊢
 refine WP.ent (c1w (hb:=h) (W:=fun o=>h.length<=o) (n:=n) hn2 (fun o z=>z) (fun h6 cs ds fs e6 w6 m6=>?_) n 0 h5 _ _ _ oM e05 w fun x hx=>oM) fun i=>rfl
 refine WP.congr (fun i=>a8e i g atv (.ptr h4.length 0 7 0) h6) ?_
 simp -implicitDefEqProofs (disch:=first|assumption|omega|(simp only[gL,gA]<;>omega)|fail) only[gC,reduceIte,ha.lenG]
 refine WP.ent (c1v gv ok hN hn hn2 (W:=fun o=>h.length<=o) (hb:=h) (fun o z=>z) (fun o z=>z) ha has hal al.length 0 h6 _ (by omega) e6 w6 (fun x hx=>?_) fun h7 M7 e7 w7 m7=>?_) fun i=>rfl
 ·refine .inr ⟨fun ⟨b,b1,b2⟩=>by simp at b1,?_⟩
  show gi (List.replicate n none) (x:Int)=none
  exact w2_ oM oM
 ·exact ⟨e7,_,q,s1,s2,s3,_,_,_,cs,ds,fs,M7,rfl,w7,DI.start (fun x hx=>(m6 x hx).1) (fun x hx=>(m6 x hx).2.2) m7,by rw[b5S fun x hx=>(m6 x hx).1]; omega⟩
end
end Go.Gm.AQ
namespace Go.Gm.AQ
open Go Go.Gm
def JI (hb:Heap)(q:Nat)(sB:AV)(S:Nat)(X:Nat × Nat->List Int)(h:Heap):Prop:=
 ∃B:List (List AV),Gr q (q+1) h 5 sB (B.map id)/\B.length=S/\(∀t:Nat,t<S->(gi B t).length=5)/\
  Fam (fun o=>hb.length<=o) h 1 (fun t:Nat × Nat=>t.1<S/\t.2<5) (fun t=>gi (gi B t.1) t.2) (fun t=>(X t).map encI)/\FrS (fun o=>o=q\/hb.length<=o) hb h
theorem giset2 {α:Type}[Inhabited α]{xs:List α}{i j:Nat}(hi:i<xs.length)(x:α):gi (xs.set i x) (j:Int)=if j=i then x else gi xs j:=congrFun (gset hi x) j
theorem JI.step {hb h:Heap}{q:Nat}{sB:AV}{S:Nat}{X:Nat × Nat->List Int}(j:JI hb q sB S X h)(hq:q<hb.length){to m:Nat}(ht:to<S)(hm:m<5)(v:Int)(hl:(X (to,m)).length<=100000) :
  ∃p s1 s2 h2 h3,idxS 5 sB (I to)=some (elP 5 sB to)/\idxA 5 1 (elP 5 sB to) (I m)=some p/\ld1 h p=some s1/\apnd 1 8 s1 (.sl h.length 0 1 1 none 0) (h++[AObj.cells ⟨[I v],0,0,false⟩])=some (s2,h2)/\stN 1 h2 p s2=some h3/\
   JI hb q sB S (fun t=>if t=(to,m) then X t++[v] else X t) h3/\FrS (fun o=>hb.length<=o) h h2:=by
 obtain ⟨B,g,lB,rB,f,fr⟩:=j
 have hlb:=fr.len
 obtain ⟨p,p1,p2,p3⟩:=cellA (H:=h) g.sl (Ext.refl _) (i:=(to:Int)) (j:=(m:Int)) oM oM oM oM
 have r5:=rB to ht
 have p2':ld1 h p=some (gi (gi B to) m):=by
  rw[p2,id,List.getD_eq_getElem?_getD,c1_ oM oM]; rfl
 have b1:Sl (h++[AObj.cells ⟨[I v],0,0,false⟩]) 1 (.sl h.length 0 1 1 none 0) [[I v]]:=by
  have:=(Gr.lit (h:=h) (sz:=1) (v:=[I v]) rfl).sl
  rwa [a3_] at this
 have e1:Ext h (h++[AObj.cells ⟨[I v],0,0,false⟩]):=Ext.push _ _
 have f':Fam (fun o=>hb.length<=o) (h++[AObj.cells ⟨[I v],0,0,false⟩]) 1 (fun t:Nat × Nat=>t.1<S/\t.2<5) (fun t=>gi (gi B t.1) t.2) (fun t=>(X t).map encI):=f.frs (D:=fun _=>False) (FrS.ofExt e1) fun _ _ _ z=>z
 obtain ⟨s2,h2,k1,k2,k3,k4⟩:=f'.append (bytes:=8) (t:=(to,m)) ⟨ht,hm⟩ b1 (by simp) oM oM (by simp; omega)
 have g2:=(g.ext e1).frs k4 fun o z1 z2=>oM
 have c2:s2.cells=[s2]:=by
  have:=(k3.sl (t:=(to,m)) ⟨ht,hm⟩).cells
  simpa using this
 obtain ⟨h3,n1,n2,n3,n4⟩:=g2.write (i:=(to:Int)) oM (x:=gi B to) (by rw[List.map_id,c1_ oM oM]) m 1 (v:=s2) (by rw[c2]; rfl) oM (by rw[c2]; simp[k2])
 refine ⟨p,_,s2,h2,h3,g.sl.idxG oM oM,p1,p2',k1,?_,?_,?_⟩
 ·rw[p3,show ((m:Int)).toNat=m by omega]; exact n1
 ·have hlq:=k4.len
  have f3:=k3.frs n3.s (fun o z1 z2 z3=>by rcases z2 with z2|z2<;>simp only[List.length_append] at *<;>omega)
  refine ⟨B.set to (setAll (gi B to) m [s2]),?_,by rw[List.length_set]; exact lB,fun t ht'=>?_,?_,?_⟩
  ·refine n2.cong ?_
   rw[c2,List.map_id,List.map_id,show ((to:Int)).toNat=to by omega]
  ·rw[giset2 oM]
   by_cases qt:t=to
   ·rw[if_pos qt]; simp[setAll,r5]
   ·rw[if_neg qt]; exact rB t ht'
  ·refine (f3.mono fun o z1 z2=>?_).congr fun t ht'=>⟨?_,?_⟩
   ·rcases z2 with z2|z2
    ·exact z2
    ·simp only[List.length_append] at z2; omega
   ·show gi (gi (B.set to (setAll (gi B to) m [s2])) t.1) t.2=if t=(to,m) then s2 else gi (gi B t.1) t.2
    rw[giset2 oM]
    obtain ⟨t1,t2⟩:=t
    by_cases qt:t1=to
    ·subst qt
     simp only[if_true,setAll]
     rw[giset2 oM]
     by_cases q2:t2=m
     ·subst q2; simp
     ·rw[if_neg q2,if_neg (by simp[q2])]
    ·rw[if_neg qt,if_neg (by simp[qt])]
   ·show (if t=(to,m) then X t++[v] else X t).map encI=if t=(to,m) then (X (to,m)).map encI++[[I v]] else (X t).map encI
    by_cases qt:t=(to,m)
    ·subst qt; simp[encI]
    ·rw[if_neg qt,if_neg qt]
  ·have z1:FrS (fun o=>o=q\/hb.length<=o) h (h++[AObj.cells ⟨[I v],0,0,false⟩]):=FrS.ofExt e1
   exact ((fr.trans z1).trans (k4.mono fun o _ z=>.inr z)).trans (n3.s.mono fun o _ z=>.inl oM)
 ·exact (FrS.ofExt e1).trans k4
theorem b8P (D:List (List Int))(t m:Int)(n:Nat):befTo D t m (n+1)=befTo D t m n++if nx D n m=t then [(n:Int)] else []:=by
 simp only[befTo,List.range_succ,List.filter_append,List.map_append]
 congr 1
 by_cases h:nx D n m=t<;>simp[h]
theorem a9H (D:List (List Int))(t m:Int)(n:Nat):(befTo D t m n).length<=n:=by
 simp only[befTo,List.length_map]
 exact Nat.le_trans (List.length_filter_le ..) (by simp)
section
variable {h0 h:Heap} {g:AV} {N:Nat} {es:List E} {D:List (List Int)} {acc:List Bool}
def XX (D:List (List Int))(n m:Nat)(t:Nat × Nat):List Int:=befTo D t.1 t.2 n++if t.2<m/\nx D n t.2=t.1 then [(n:Int)] else []
theorem b5V {r:List Int}{m:Nat}(hr:r.length=5)(hm:m<5):ixA 5 1 none (.agg (encR r)) (I m)=some (I (gi r m)):=by
 rw[ixA_i oM oM]
 simp only[partL,encR,List.getElem?_map,Nat.mul_one]
 rw[c1_ oM oM]; rfl
theorem c2Z {hb:Heap}{q og n:Nat}{sE a sD sA sB t21 t22:AV}(ok:DOk D acc)(hq:q<hb.length)(hog:og<hb.length)(hne:og≠q)(hrow:hb[og]?=some (.cells ⟨[I N,sE,a,sD,sA,sB],0,0,false⟩))(hn:n<D.length){Q:AV->Heap->Prop}(hQ:∀h,JI hb q sB D.length (XX D n 5) h->WP (fun p:Nat × Nat=>a1v p.1 p.2 (.ptr og 0 6 0) t21 t22 (I (n+1)) h) Q) :
  ∀(d m:Nat) (h:Heap),m+d=5->JI hb q sB D.length (XX D n m) h->
   WP (fun p:(Nat × Nat) × Nat=>a3u p.1.1 p.1.2 p.2 (.ptr og 0 6 0) (I n) t21 t22 (I n) (.agg (encR (gi D n))) (I m) h) Q:=by
 have l1:=ok.l1
 intro d
 induction d with
 |zero=>
  intro m h h1 w
  refine WP.rnd (fun i j=>a7i i.1 i.2 j (.ptr og 0 6 0) (I n) t21 t22 (I n) (.agg (encR (gi D n))) (I m) h) ?_
  obtain rfl:m=5:=oM
  refine g0 ?_
  exact WP.lv (hQ h w) fun i j=>rfl
 |succ d ih=>
  intro m h h1 w
  refine WP.rnd (fun i j=>a7i i.1 i.2 j (.ptr og 0 6 0) (I n) t21 t22 (I n) (.agg (encR (gi D n))) (I m) h) ?_
  have hr5:=ok.row n oM oM
  obtain ⟨u0,u1⟩:=ok.to n m oM oM oM oM
  obtain ⟨to,hto⟩:∃to:Nat,gi (gi D n) m=to:=⟨(gi (gi D n) m).toNat,oM⟩
  have htl:to<D.length:=oM
  have hX:(XX D n m (to,m)).length<=100000:=by
   have:=a9H D to m n
   simp only[XX,List.length_append]
   split<;>simp<;>omega
  obtain ⟨p,s1,s2,h2,h3,k1,k2,k3,k4,k5,k6,k7⟩:=w.step hq htl (m:=m) oM n hX
  have fr:FrS (fun o=>o=q\/hb.length<=o) hb h:=w.choose_spec.2.2.2.2
  have hlb:=fr.len
  have r1:h[og]?=some (.cells ⟨[I N,sE,a,sD,sA,sB],0,0,false⟩):=by rw[fr.get oM hog]; exact hrow
  have r2:h2[og]?=some (.cells ⟨[I N,sE,a,sD,sA,sB],0,0,false⟩):=by rw[k7.get oM oM]; exact r1
  refine g9 (b5V hr5 (show m<5 by omega)) @hto @r1 @k1 @k2 @k3 @k4 @r2 @k5 ?_
  refine ih (m+1) h3 oM ?_
  have:(fun t=>if t=(to,m) then XX D n m t++[(n:Int)] else XX D n m t)=XX D n (m+1):=by
   funext t
   obtain ⟨t1,t2⟩:=t
   simp only[XX]
   by_cases q1:t2=m
   ·subst q1
    by_cases q2:t1=to
    ·subst q2
     rw[if_pos rfl,if_neg oM,if_pos ⟨oM,hto⟩,List.append_nil]
    ·rw[if_neg (by simp[q2]),if_neg oM,if_neg]
     rintro ⟨_,z⟩
     rw[nx,hto] at z
     omega
   ·rw[if_neg (by simp[q1])]
    congr 1
    by_cases q3:nx D n t2=t1
    ·by_cases q4:t2<m
     ·rw[if_pos ⟨q4,q3⟩,if_pos ⟨oM,q3⟩]
     ·rw[if_neg (fun z=>q4 z.1),if_neg (fun z=>oM)]
    ·rw[if_neg (fun z=>q3 z.2),if_neg (fun z=>q3 z.2)]
  rw[<-this]
  exact k6
theorem c3a (D:List (List Int))(n:Nat)(t:Nat × Nat)(h:t.2<5):XX D n 5 t=XX D (n+1) 0 t:=by
 simp only[XX]
 rw[b8P,if_neg (fun z:t.2<0/\_=>oM),List.append_nil]
 congr 1
 by_cases q:nx D n t.2=t.1
 ·rw[if_pos ⟨h,q⟩,if_pos q]
 ·rw[if_neg (fun z=>q z.2),if_neg q]
theorem JI.congr {hb h:Heap}{q:Nat}{sB:AV}{S:Nat}{X Y:Nat × Nat->List Int}(j:JI hb q sB S X h)(e:∀t:Nat × Nat,t.2<5->Y t=X t):JI hb q sB S Y h:=by
 obtain ⟨B,g,lB,rB,f,fr⟩:=j
 exact ⟨B,g,lB,rB,f.congr fun t ht=>⟨rfl,by rw[e t ht.2]⟩,fr⟩
theorem JI.ext {hb h h':Heap}{q:Nat}{sB:AV}{S:Nat}{X:Nat × Nat->List Int}(j:JI hb q sB S X h)(e:Ext h h'):JI hb q sB S X h':=by
 obtain ⟨B,g,lB,rB,f,fr⟩:=j
 exact ⟨B,g.ext e,lB,rB,f.frs (D:=fun _=>False) (FrS.ofExt e) (fun _ _ _ z=>z),fr.trans (FrS.ofExt e)⟩
theorem c3b {hb:Heap}{q og:Nat}{sE a sD sA sB:AV}(ok:DOk D acc)(hq:q<hb.length)(hog:og<hb.length)(hne:og≠q)(hrow:hb[og]?=some (.cells ⟨[I N,sE,a,sD,sA,sB],0,0,false⟩))(hD:∀h,FrS (fun o=>o=q\/hb.length<=o) hb h->Sl h 5 sD (D.map encR)){Q:AV->Heap->Prop}(hQ:∀h,JI hb q sB D.length (XX D D.length 0) h->Q (.ptr og 0 6 0) h) :
  ∀(d n:Nat) (h:Heap),n+d=D.length->JI hb q sB D.length (XX D n 0) h->WP (fun p:Nat × Nat=>a1v p.1 p.2 (.ptr og 0 6 0) sD (I D.length) (I n) h) Q:=by
 have l1:=ok.l1
 intro d
 induction d with
 |zero=>
  intro n h h1 w
  refine WP.rnd (fun i j=>a7j i j (.ptr og 0 6 0) sD (I D.length) (I n) h) ?_
  obtain rfl:n=D.length:=oM
  refine g0 ?_
  exact WP.ret (hQ h w)
 |succ d ih=>
  intro n h h1 w
  refine WP.rnd (fun i j=>a7j i j (.ptr og 0 6 0) sD (I D.length) (I n) h) ?_
  have fr:FrS (fun o=>o=q\/hb.length<=o) hb h:=w.choose_spec.2.2.2.2
  have sl:=hD h fr
  have hr5:=ok.row n oM oM
  obtain ⟨r,hr⟩:∃r,encR (gi D n)=r:=⟨_,rfl⟩
  obtain ⟨x0,x1,x2,x3,x4,hx⟩:∃x0 x1 x2 x3 x4,gi D n=[x0,x1,x2,x3,x4]:=by
   generalize gi D n=l at hr5
   match l,hr5 with
   |[x0,x1,x2,x3,x4],_=>exact ⟨x0,x1,x2,x3,x4,rfl⟩
  simp -implicitDefEqProofs (disch:=first|assumption|omega|exact Ext.refl _|(simp only[gL,gA]<;>omega)|fail) only[gC,reduceIte,sl.idxG,sl.ldN,hx,encR,List.map_cons,List.map_nil]
  obtain ⟨h2,hh2⟩:∃h2,h2=((h++[AObj.cells ⟨[AV.int .i64 0,AV.int .i64 0,AV.int .i64 0,AV.int .i64 0,AV.int .i64 0],0,0,false⟩]).set h.length (.cells ⟨[I x0,I x1,I x2,I x3,I x4],0,0,false⟩)):=⟨_,rfl⟩
  have e2:Ext h h2:=by rw[hh2]; exact eX
  rw[<-hh2]
  refine WP.ent (c2Z ok hq hog hne hrow (n:=n) oM (t21:=sD) (t22:=I D.length) (fun h w2=>?_) 5 0 h2 oM (w.ext e2)) fun i=>?_
  ·exact ih (n+1) h oM (w2.congr fun t ht=>(c3a D n t ht).symm)
  ·rw[hx]; rfl
theorem a9I {sE sD sA:AV}(no:NetOk N es)(hs:Sl h 4 sE (es.map encE))(ok:DOk D acc)(hD:Sl h 5 sD (D.map encR))(hA:Sl h 1 sA (acc.map encB)) :
  Tot tab x3_ [.agg [I N,sE],.agg [sD,sA]] h fun r h'=>Ext h h'/\GV h' r N es D acc:=by
 refine WP.tot (fun k=>b3Z k _ _ h) ?_
 obtain ⟨h1,hh1⟩:∃h1,h1=(h++[AObj.cells ⟨[I N,sE],0,0,false⟩])++[AObj.cells ⟨[sD,sA],0,0,false⟩]:=⟨_,rfl⟩
 have l1:=ok.l1
 have hl1:h1.length=h.length+2:=by rw[hh1]; simp
 have e1:Ext h h1:=by rw[hh1]; exact eX
 have r0:h1[h.length]?=some (.cells ⟨[I N,sE],0,0,false⟩):=by rw[hh1]; simp
 have r1:h1[h.length+1]?=some (.cells ⟨[sD,sA],0,0,false⟩):=by rw[hh1]; simp
 obtain ⟨sB,h2,k1,k2,k3,k4,k5⟩:=g0_ (zero:=[.nils,.nils,.nils,.nils,.nils]) (sz:=5) (bytes:=120) (n:=(D.length:Int)) h1 oM oM oM rfl rfl
 have hsD:=(hD.ext e1).ext k3
 refine g7 hs.one hs.cells hD.one hD.cells hA.one hA.cells hD.lenG ?_
 rw[<-hh1]
 refine g1 @k1 ?_
 refine WP.call (b4X no (hs.ext (e1.trans k3))) ?_
 rintro _ h3 ⟨e3,hadj,oa,hoa,rfl⟩
 have l3:=e3.len
 obtain ⟨h4,hh4⟩:∃h4,h4=h3++[AObj.cells ⟨[I N,sE,.ptr oa 0 4 0,sD,sA,sB],0,0,false⟩]:=⟨_,rfl⟩
 have e4:Ext h3 h4:=by rw[hh4]; exact Ext.push _ _
 have hl4:h4.length=h3.length+1:=by rw[hh4]; simp
 have ro:h4[h3.length]?=some (.cells ⟨[I N,sE,.ptr oa 0 4 0,sD,sA,sB],0,0,false⟩):=by rw[hh4]; simp
 have r03:=e3.get (k3.get r0)
 have r13:=e3.get (k3.get r1)
 have r14:=e4.get r13
 have one1:=hs.one
 refine g10 @r03 @r13 k2.sl.one k2.sl.cells hs.one hs.cells hD.one hD.cells hA.one hA.cells ?_
 rw[<-hh4]
 refine g2 @r14 hD.lenG ?_
 have e14:=(e1.trans k3).trans (e3.trans e4)
 refine WP.ent (c3b (hb:=h4) (q:=h1.length) (og:=h3.length) (sE:=sE) (a:=.ptr oa 0 4 0) (sA:=sA) (sB:=sB) ok oM oM oM ro (fun h' f=>hD.ext (f.ext e14 fun o z1 z2=>oM)) (fun h' w=>?_) D.length 0 h4 oM ?_) fun i=>rfl
 ·obtain ⟨B,g,lB,rB,f,fr⟩:=w
  have eh:Ext h h':=fr.ext e14 fun o z1 z2=>oM
  have ho:h'[h3.length]?=some (.cells ⟨[I N,sE,.ptr oa 0 4 0,sD,sA,sB],0,0,false⟩):=by rw[fr.get oM oM]; exact ro
  refine ⟨eh,⟨sE,.ptr oa 0 4 0,sD,sA,sB,B,At.row ho (Nat.le_refl _) rfl,hs.ext eh,hadj h' fun o z1 z2=>?_,hD.ext eh,hA.ext eh,g.sl,lB,fun t m t0 t1 m0 m1=>⟨?_,?_⟩⟩⟩
  ·rw[fr.get oM oM,hh4,m2_ z2]
  ·have:=rB t.toNat oM
   rwa [show ((t.toNat:Nat):Int)=t by omega] at this
  ·have:=f.sl (t:=(t.toNat,m.toNat)) ⟨by show t.toNat<_; omega,by show m.toNat<5; omega⟩
   simp only[XX] at this
   rw[if_neg (fun z=>oM),List.append_nil,show ((t.toNat:Nat):Int)=t by omega,show ((m.toNat:Nat):Int)=m by omega] at this
   exact this
 ·refine ⟨List.replicate D.length [.nils,.nils,.nils,.nils,.nils],?_,by simp,fun t ht=>?_,Fam.nil _ _ _ fun t ht=>⟨?_,?_⟩,FrS.refl _ _⟩
  ·refine ((k2.ext e3).ext e4).cong ?_
   rw[List.map_id]; simp
  ·rw[w2_ oM oM]; rfl
  ·rw[w2_ oM oM]
   match t.2,ht.2 with
   |0,_=>rfl
   |1,_=>rfl
   |2,_=>rfl
   |3,_=>rfl
   |4,_=>rfl
  ·simp[XX,befTo]
end
end Go.Gm.AQ
