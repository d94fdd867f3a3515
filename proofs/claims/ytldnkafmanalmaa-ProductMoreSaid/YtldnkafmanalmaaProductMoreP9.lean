/- A part of the proof (GmAQsd, GmAQse, GmAQsf, GmAQsg, GmAQpa, GmAQpb, GmAQpc, GmNw, GmAQsh). -/
import Derived.Test.YtldnkafmanalmaaProductMoreP8
set_option linter.unusedVariables false
set_option linter.unusedSimpArgs false
set_option linter.unusedSectionVars false
namespace Go.Gm.AQ
open Go Go.Gm
section
variable {h:Heap}
structure SI (hb h:Heap) (states sN sA:AV) (oS oN oA:Nat) (xs:List AV) (D':List (List Int)) (acc':List Bool):Prop where
 eb:Ext hb h
 ro:h[hb.length+1]?=some (.cells ⟨[sN,sA],0,0,false⟩)
 gs:Gr oS (oS+1) h 1 states (xs.map enc1)
 gn:Gr oN (oN+1) h 5 sN (D'.map encR)
 ga:Gr oA (oA+1) h 1 sA (acc'.map encB)
 ps:states≠.nils->hb.length<=oS/\oS≠hb.length+1/\oS<h.length
 pn:sN≠.nils->hb.length+2<=oN/\oN<h.length/\(states≠.nils->oN≠oS)
 pa:sA≠.nils->hb.length+2<=oA/\oA<h.length/\(states≠.nils->oA≠oS)/\(sN≠.nils->oA≠oN)
 bl:hb.length+2<=h.length
section
variable {hb:Heap} {states sN sA:AV} {oS oN oA:Nat} {xs:List AV} {D':List (List Int)} {acc':List Bool}
theorem SI.ext (p:SI hb h states sN sA oS oN oA xs D' acc'){h':Heap}(e:Ext h h'):SI hb h' states sN sA oS oN oA xs D' acc':=by
 have l:=e.len
 refine ⟨p.eb.trans e,e.get p.ro,p.gs.ext e,p.gn.ext e,p.ga.ext e,fun z=>?_,fun z=>?_,fun z=>?_,by have:=p.bl; omega⟩
 ·have:=p.ps z; omega
 ·have:=p.pn z; exact ⟨this.1,by omega,this.2.2⟩
 ·have:=p.pa z; exact ⟨this.1,by omega,this.2.2⟩
theorem SI.frs (p:SI hb h states sN sA oS oN oA xs D' acc'){h':Heap}{o:Nat}(f:FrS (fun q=>q=o) h h')(ho:hb.length<=o/\o≠hb.length+1)(h1:states≠.nils->o≠oS)(h2:sN≠.nils->o≠oN)(h3:sA≠.nils->o≠oA):SI hb h' states sN sA oS oN oA xs D' acc':=by
 have l:=f.len
 have bl:=p.bl
 have nl:∀{lo:Nat} {sz:Nat} {s:AV} {xs:List (List AV)},Gr lo (lo+1) h sz s xs->(s≠.nils->o≠lo)->Gr lo (lo+1) h' sz s xs:=by
  intro lo sz s xs g hq
  by_cases q:s=.nils
  ·subst q
   have:=g.isNil
   subst this
   exact Gr.nil ..
  ·exact g.frs f fun r r1 r2=>by have:=hq q; omega
 refine ⟨f.ext p.eb fun q q1=>by omega,by rw[f.get (by omega) (by omega)]; exact p.ro,nl p.gs h1,nl p.gn h2,nl p.ga h3,fun z=>?_,fun z=>?_,fun z=>?_,by omega⟩
 ·have:=p.ps z; omega
 ·have:=p.pn z; exact ⟨this.1,by omega,this.2.2⟩
 ·have:=p.pa z; exact ⟨this.1,by omega,this.2.2⟩
theorem SI.addS (p:SI hb h states sN sA oS oN oA xs D' acc')(to:AV)(h1:to.cells=[to])(hl:xs.length<=100000) :
  ∃s' h' o',apnd 1 24 states (.sl h.length 0 1 1 none 0) (h++[AObj.cells ⟨[to],0,0,false⟩])=some (s',h')/\SI hb h' s' sN sA o' oN oA (xs++[to]) D' acc'/\FrS (fun q=>states≠.nils/\q=oS) h h'/\(s'≠.nils->(o'=oS/\states≠.nils)\/h.length<=o'):=by
 have b:=Gr.lit (h:=h) (sz:=1) (v:=[to]) rfl
 rw[a3_] at b
 have e1:Ext h (h++[AObj.cells ⟨[to],0,0,false⟩]):=Ext.push _ _
 obtain ⟨s',h',o',q1,q2,q3,q4⟩:=(p.gs.ext e1).appP (fun z=>by have:=p.ps z; simp; omega) b.sl (by omega) (bytes:=24) (by omega) (by simp; omega)
 have f:=(FrS.ofExt (D:=fun q=>states≠.nils/\q=oS) e1).trans q4
 have l:=f.len
 have bl:=p.bl
 have l1:(h++[AObj.cells ⟨[to],0,0,false⟩]).length=h.length+1:=by simp
 have ps:=p.ps
 have pn:=p.pn
 have pa:=p.pa
 have q3':s'≠.nils->(o'=oS/\states≠.nils)\/h.length<=o':=fun z=>by
  rcases (q3 z).1 with q|q
  ·exact .inl q
  ·exact .inr (by omega)
 have nl:∀{lo:Nat} {sz:Nat} {s:AV} {xs:List (List AV)},Gr lo (lo+1) h sz s xs->(s≠.nils->states≠.nils->lo≠oS)->Gr lo (lo+1) h' sz s xs:=by
  intro lo sz s xs g hq
  by_cases q:s=.nils
  ·subst q
   have:=g.isNil
   subst this
   exact Gr.nil ..
  ·exact g.frs f fun r r1 r2 z=>by have:=hq q z.1; omega
 refine ⟨s',h',o',q1,⟨f.ext p.eb fun q z1 z2=>by have:=ps z2.1; omega,by rw[f.get (fun z=>by have:=ps z.1; omega) (by omega)]; exact p.ro,q2.cong (by simp[enc1]),nl p.gn fun z1 z2=>(pn z1).2.2 z2,nl p.ga fun z1 z2=>(pa z1).2.2.1 z2,fun z=>?_,fun z=>?_,fun z=>?_,by omega⟩,f,q3'⟩
 ·have h1:=(q3 z).2
  rcases q3' z with ⟨h2,h3⟩|h2
  ·have:=ps h3; omega
  ·omega
 ·have h1:=pn z
  refine ⟨h1.1,by omega,fun z2=>?_⟩
  rcases q3' z2 with ⟨h2,h3⟩|h2
  ·have:=h1.2.2 h3; omega
  ·omega
 ·have h1:=pa z
  refine ⟨h1.1,by omega,fun z2=>?_,h1.2.2.2⟩
  rcases q3' z2 with ⟨h2,h3⟩|h2
  ·have:=h1.2.2.1 h3; omega
  ·omega
theorem SI.row (p:SI hb h states sN sA oS oN oA xs D' acc'){r:List Int}(hr:r.length=5)(hl:D'.length<=100000) :
  ∃s' h' o',apnd 5 40 sN (.sl h.length 0 1 5 none 0) (h++[AObj.cells ⟨r.map I,0,0,false⟩])=some (s',h')/\s'.one=true/\s'.cells=[s']/\h'[hb.length+1]?=some (.cells ⟨[sN,sA],0,0,false⟩)/\
   SI hb (h'.set (hb.length+1) (.cells ⟨[s',sA],0,0,false⟩)) states s' sA oS o' oA xs (D'++[r]) acc'/\FrS (fun q=>q=hb.length+1\/(sN≠.nils/\q=oN)) h (h'.set (hb.length+1) (.cells ⟨[s',sA],0,0,false⟩))/\(s'≠.nils->(o'=oN/\sN≠.nils)\/h.length<=o'):=by
 have b:=Gr.lit (h:=h) (sz:=5) (v:=r.map I) (by simp[hr])
 rw[a3_] at b
 have e1:Ext h (h++[AObj.cells ⟨r.map I,0,0,false⟩]):=Ext.push _ _
 obtain ⟨s',h',o',q1,q2,q3,q4⟩:=(p.gn.ext e1).appP (fun z=>by have:=p.pn z; simp; omega) b.sl (by omega) (bytes:=40) (by omega) (by simp; omega)
 have f:=(FrS.ofExt (D:=fun q=>sN≠.nils/\q=oN) e1).trans q4
 have l:=f.len
 have bl:=p.bl
 have ps:=p.ps
 have pn:=p.pn
 have pa:=p.pa
 have l1:(h++[AObj.cells ⟨r.map I,0,0,false⟩]).length=h.length+1:=by simp
 have q3':s'≠.nils->(o'=oN/\sN≠.nils)\/h.length<=o':=fun z=>by
  rcases (q3 z).1 with q|q
  ·exact .inl q
  ·exact .inr (by omega)
 have ro:=p.ro
 have ro':h'[hb.length+1]?=some (.cells ⟨[sN,sA],0,0,false⟩):=by rw[f.get (fun z=>by have:=pn z.1; omega) (by omega)]; exact ro
 have nl:∀{lo:Nat} {sz:Nat} {s:AV} {xs:List (List AV)},Gr lo (lo+1) h sz s xs->(s≠.nils->sN≠.nils->oN≠lo)->Gr lo (lo+1) h' sz s xs:=by
  intro lo sz s xs g hq
  by_cases q:s=.nils
  ·subst q
   have:=g.isNil
   subst this
   exact Gr.nil ..
  ·exact g.frs f fun r r1 r2 z=>by have:=hq q z.1; omega
 have st:∀{lo:Nat} {sz:Nat} {s:AV} {xs:List (List AV)} (x:AObj),Gr lo (lo+1) h' sz s xs->(s≠.nils->lo≠hb.length+1)->Gr lo (lo+1) (h'.set (hb.length+1) x) sz s xs:=by
  intro lo sz s xs x g hq
  by_cases q:s=.nils
  ·subst q
   have:=g.isNil
   subst this
   exact Gr.nil ..
  ·exact g.set (by have:=hq q; omega) _
 have q5:∀z:s'≠.nils,hb.length+2<=o'/\o'<h'.length:=fun z=>by
  have h1:=(q3 z).2
  rcases q3' z with ⟨h2,h3⟩|h2
  ·have:=pn h3; omega
  ·omega
 refine ⟨s',h',o',q1,q2.sl.one,q2.sl.cells,ro',⟨(f.ext p.eb fun q z1 z2=>by have:=pn z2.1; omega).setr (Nat.le_succ _) _,a4_ (by omega),st _ (nl p.gs fun z1 z2=>(pn z2).2.2 z1) fun z=>by have:=ps z; omega,st _ (q2.cong (by simp[encR])) fun z=>by have:=q5 z; omega,st _ (nl p.ga fun z1 z2=>((pa z1).2.2.2 z2).symm) fun z=>by have:=pa z; omega,?_,?_,?_,by simp; omega⟩,(f.mono fun q _ z=>Or.inr z).trans ((FrS.set1 _ _ _).mono fun q _ z=>Or.inl z),q3'⟩
 ·intro z; have:=ps z; simp; omega
 ·intro z
  have h1:=q5 z
  refine ⟨h1.1,by simp; exact h1.2,fun z2=>?_⟩
  rcases q3' z with ⟨h2,h3⟩|h2
  ·have:=(pn h3).2.2 z2; omega
  ·have:=ps z2; omega
 ·intro z
  have h1:=pa z
  refine ⟨h1.1,by simp; omega,h1.2.2.1,fun z2=>?_⟩
  rcases q3' z2 with ⟨h2,h3⟩|h2
  ·have:=h1.2.2.2 h3; omega
  ·omega
theorem SI.accept (p:SI hb h states sN sA oS oN oA xs D' acc')(b:Bool)(hl:acc'.length<=100000) :
  ∃s' h' o',apnd 1 1 sA (.sl h.length 0 1 1 none 0) (h++[AObj.cells ⟨[.bool b],0,0,false⟩])=some (s',h')/\s'.one=true/\s'.cells=[s']/\h'[hb.length+1]?=some (.cells ⟨[sN,sA],0,0,false⟩)/\
   SI hb (h'.set (hb.length+1) (.cells ⟨[sN,s'],0,0,false⟩)) states sN s' oS oN o' xs D' (acc'++[b])/\FrS (fun q=>q=hb.length+1\/(sA≠.nils/\q=oA)) h (h'.set (hb.length+1) (.cells ⟨[sN,s'],0,0,false⟩))/\(s'≠.nils->(o'=oA/\sA≠.nils)\/h.length<=o'):=by
 have b0:=Gr.lit (h:=h) (sz:=1) (v:=encB b) rfl
 rw[a3_] at b0
 have e1:Ext h (h++[AObj.cells ⟨encB b,0,0,false⟩]):=Ext.push _ _
 obtain ⟨s',h',o',q1,q2,q3,q4⟩:=(p.ga.ext e1).appP (fun z=>by have:=p.pa z; simp; omega) b0.sl (by omega) (bytes:=1) (by omega) (by simp; omega)
 have f:=(FrS.ofExt (D:=fun q=>sA≠.nils/\q=oA) e1).trans q4
 have l:=f.len
 have bl:=p.bl
 have ps:=p.ps
 have pn:=p.pn
 have pa:=p.pa
 have l1:(h++[AObj.cells ⟨encB b,0,0,false⟩]).length=h.length+1:=by simp
 have q3':s'≠.nils->(o'=oA/\sA≠.nils)\/h.length<=o':=fun z=>by
  rcases (q3 z).1 with q|q
  ·exact .inl q
  ·exact .inr (by omega)
 have ro:=p.ro
 have ro':h'[hb.length+1]?=some (.cells ⟨[sN,sA],0,0,false⟩):=by rw[f.get (fun z=>by have:=pa z.1; omega) (by omega)]; exact ro
 have nl:∀{lo:Nat} {sz:Nat} {s:AV} {xs:List (List AV)},Gr lo (lo+1) h sz s xs->(s≠.nils->sA≠.nils->oA≠lo)->Gr lo (lo+1) h' sz s xs:=by
  intro lo sz s xs g hq
  by_cases q:s=.nils
  ·subst q
   have:=g.isNil
   subst this
   exact Gr.nil ..
  ·exact g.frs f fun r r1 r2 z=>by have:=hq q z.1; omega
 have st:∀{lo:Nat} {sz:Nat} {s:AV} {xs:List (List AV)} (x:AObj),Gr lo (lo+1) h' sz s xs->(s≠.nils->lo≠hb.length+1)->Gr lo (lo+1) (h'.set (hb.length+1) x) sz s xs:=by
  intro lo sz s xs x g hq
  by_cases q:s=.nils
  ·subst q
   have:=g.isNil
   subst this
   exact Gr.nil ..
  ·exact g.set (by have:=hq q; omega) _
 have q5:∀z:s'≠.nils,hb.length+2<=o'/\o'<h'.length:=fun z=>by
  have h1:=(q3 z).2
  rcases q3' z with ⟨h2,h3⟩|h2
  ·have:=pa h3; omega
  ·omega
 refine ⟨s',h',o',q1,q2.sl.one,q2.sl.cells,ro',⟨(f.ext p.eb fun q z1 z2=>by have:=pa z2.1; omega).setr (Nat.le_succ _) _,a4_ (by omega),st _ (nl p.gs fun z1 z2=>(pa z2).2.2.1 z1) fun z=>by have:=ps z; omega,st _ (nl p.gn fun z1 z2=>(pa z2).2.2.2 z1) fun z=>by have:=pn z; omega,st _ (q2.cong (by simp[encB])) fun z=>by have:=q5 z; omega,?_,?_,?_,by simp; omega⟩,(f.mono fun q _ z=>Or.inr z).trans ((FrS.set1 _ _ _).mono fun q _ z=>Or.inl z),q3'⟩
 ·intro z; have:=ps z; simp; omega
 ·intro z; have:=pn z; exact ⟨this.1,by simp; omega,this.2.2⟩
 ·intro z
  have h1:=q5 z
  refine ⟨h1.1,by simp; exact h1.2,fun z2=>?_,fun z2=>?_⟩
  ·rcases q3' z with ⟨h2,h3⟩|h2
   ·have:=(pa h3).2.2.1 z2; omega
   ·have:=ps z2; omega
  ·rcases q3' z with ⟨h2,h3⟩|h2
   ·have:=(pa h3).2.2.2 z2; omega
   ·have:=pn z2; omega
end
end
end Go.Gm.AQ
namespace Go.Gm.AQ
open Go Go.Gm
def SetsV (n:Nat)(h:Heap)(W:Nat->Prop)(B:List AV)(S:List Nat):Prop:=
 B.length=S.length/\∀(i s:Nat),S[i]?=some s->(∀p,s.testBit p=true->p<n)/\∃lo hi,Gr lo hi h 1 (gi B (i:Int)) ((bits n s).map encB)/\∀o,lo<=o->o<hi->o<h.length/\W o
theorem SetsV.go {n:Nat}{h h':Heap}{W W' D:Nat->Prop}{B:List AV}{S:List Nat}(v:SetsV n h W B S)(f:FrS D h h')(hd:∀o,o<h.length->W o->¬D o/\W' o):SetsV n h' W' B S:=by
 refine ⟨v.1,fun i s hi=>?_⟩
 obtain ⟨hs,lo,hi',g,r⟩:=v.2 i s hi
 have l:=f.len
 refine ⟨hs,lo,hi',g.frs f fun o z1 z2=>?_,fun o z1 z2=>?_⟩
 ·have:=r o z1 z2; exact (hd o this.1 this.2).1
 ·have:=r o z1 z2; exact ⟨by omega,(hd o this.1 this.2).2⟩
theorem SetsV.ext {n:Nat}{h h':Heap}{W:Nat->Prop}{B:List AV}{S:List Nat}(v:SetsV n h W B S)(e:Ext h h'):SetsV n h' W B S:=
 v.go (D:=fun _=>False) (FrS.ofExt e) fun o _ w=>⟨id,w⟩
theorem SetsV.snoc {n:Nat}{h:Heap}{W:Nat->Prop}{B:List AV}{S:List Nat}(v:SetsV n h W B S){a:AV}{t lo hi:Nat}(ht:∀p,t.testBit p=true->p<n)(g:Gr lo hi h 1 a ((bits n t).map encB))(r:∀o,lo<=o->o<hi->o<h.length/\W o):SetsV n h W (B++[a]) (S++[t]):=by
 refine ⟨by simp[v.1],fun i s hi'=>?_⟩
 by_cases q:i<S.length
 ·rw[List.getElem?_append_left q] at hi'
  obtain ⟨hs,lo',hi2,g',r'⟩:=v.2 i s hi'
  refine ⟨hs,lo',hi2,?_,r'⟩
  rw[show gi (B++[a]) (i:Int)=gi B (i:Int) from a1l (by omega) (by have:=v.1; omega)]; exact g'
 ·have hl:=(List.getElem?_eq_some_iff.1 hi').1
  simp only[List.length_append,List.length_cons,List.length_nil] at hl
  obtain rfl:i=S.length:=by omega
  rw[List.getElem?_append_right (Nat.le_refl _)] at hi'
  simp at hi'
  subst hi'
  refine ⟨ht,lo,hi,?_,r⟩
  rw[d9_ (by simp[v.1])]
  simp[<-v.1]
  exact g
theorem b0H {h:Heap}{a b:AV}{s t n:Nat}(va:Sl h 1 a ((bits n s).map encB))(vb:Sl h 1 b ((bits n t).map encB))(hn:n<=1000)(hs:∀p,s.testBit p=true->p<n)(ht:∀p,t.testBit p=true->p<n) :
  Tot tab o7_ [a,b] h fun r h'=>h=h'/\∃x:Bool,r=.bool x/\(x=true↔s=t):=by
 refine WP.tot (fun k=>a3F k _ _ h) ?_
 have la:=a0b n s
 have lb:=a0b n t
 have loop:∀d i:Nat,i+d=n->(∀p,p<i->s.testBit p=t.testBit p)->WP (fun p:Nat × Nat=>n8_ p.1 p.2 a b (I i) h) fun r h'=>h=h'/\∃x:Bool,r=.bool x/\(x=true↔s=t):=by
  intro d
  induction d with
  |zero=>
   intro i hi hp
   refine WP.rnd (fun i' j=>z6_ i' j a b (I i) h) ?_
   simp -implicitDefEqProofs (disch:=first|assumption|omega|(simp only[gL,gA]<;>omega)|fail) only[gC,reduceIte,va.lenG,la]
   refine WP.ret ⟨rfl,true,rfl,⟨fun _=>?_,fun _=>rfl⟩⟩
   refine Nat.eq_of_testBit_eq fun p=>?_
   by_cases q:p<n
   ·exact hp p (by omega)
   ·cases h1:s.testBit p with
    |true=>exact absurd (hs p h1) q
    |false=>
     cases h2:t.testBit p with
     |true=>exact absurd (ht p h2) q
     |false=>rfl
  |succ d ih=>
   intro i hi hp
   refine WP.rnd (fun i' j=>z6_ i' j a b (I i) h) ?_
   have h1:=a1v (s:=s) (n:=n) (p:=i) (by omega)
   have h2:=a1v (s:=t) (n:=n) (p:=i) (by omega)
   obtain ⟨x,hx⟩:∃x,s.testBit i=x:=⟨_,rfl⟩
   obtain ⟨y,hy⟩:∃y,t.testBit i=y:=⟨_,rfl⟩
   rw[hx] at h1
   rw[hy] at h2
   by_cases q:x=y
   ·subst q
    have hxx:(!(x == x))=false:=by simp
    simp -implicitDefEqProofs (disch:=first|assumption|omega|exact Ext.refl _|(simp only[gL,gA]<;>omega)|fail) only[gC,reduceIte,va.lenG,la,va.idxG,va.ld0,vb.idxG,vb.ld0,lb,h1,h2,encB,neq_b,hxx]
    refine ih (i+1) (by omega) fun p hp'=>?_
    by_cases z:p=i
    ·rw[z,hx,hy]
    ·exact hp p (by omega)
   ·have hxx:(!(x == y))=true:=by simp[q]
    simp -implicitDefEqProofs (disch:=first|assumption|omega|exact Ext.refl _|(simp only[gL,gA]<;>omega)|fail) only[gC,reduceIte,va.lenG,la,va.idxG,va.ld0,vb.idxG,vb.ld0,lb,h1,h2,encB,neq_b,hxx]
    refine WP.ret ⟨rfl,false,rfl,⟨fun z=>absurd z (by decide),fun z=>?_⟩⟩
    subst z
    exact absurd (hx.symm.trans hy) q
 exact WP.ent (loop n 0 (by omega) fun p hp=>by omega) fun i=>rfl
def idxI (t:Nat)(i:Nat)(S:List Nat):Int:=match idxF t i S with
 |some j=>(j:Int)
 |none=>-1
theorem b0I {h:Heap}{states b:AV}{W:Nat->Prop}{B:List AV}{S:List Nat}{t n:Nat}(gs:Sl h 1 states (B.map enc1))(sv:SetsV n h W B S)(vb:Sl h 1 b ((bits n t).map encB))(hn:n<=1000)(hS:S.length<=100000)(ht:∀p,t.testBit p=true->p<n) :
  Tot tab o5_ [states,b] h fun r h'=>h=h'/\r=I (idxI t 0 S):=by
 refine WP.tot (fun k=>a3D k _ _ h) ?_
 have lB:=sv.1
 have loop:∀d i:Nat,i+d=S.length->idxI t i (List.drop i S)=idxI t 0 S->WP (fun p:Nat × Nat=>n7_ p.1 p.2 states b (I i) h) fun r h'=>h=h'/\r=I (idxI t 0 S):=by
  intro d
  induction d with
  |zero=>
   intro i hi hp
   refine WP.rnd (fun i' j=>z5_ i' j states b (I i) h) ?_
   simp -implicitDefEqProofs (disch:=first|assumption|omega|(simp only[gL,gA]<;>omega)|fail) only[gC,reduceIte,gs.lenG,lB]
   refine WP.ret ⟨rfl,?_⟩
   rw[<-hp,List.drop_of_length_le (by omega)]
   rfl
  |succ d ih=>
   intro i hi hp
   refine WP.rnd (fun i' j=>z5_ i' j states b (I i) h) ?_
   have hx:S[i]?=some S[i]:=List.getElem?_eq_getElem (by omega)
   obtain ⟨hs,lo,hi',g,_⟩:=sv.2 i _ hx
   have hdr:S.drop i=S[i]::S.drop (i+1):=List.drop_eq_getElem_cons (by omega)
   simp -implicitDefEqProofs (disch:=first|assumption|omega|exact Ext.refl _|(simp only[gL,gA]<;>omega)|fail) only[gC,reduceIte,gs.lenG,lB,gs.idxG,gs.ld0,enc1]
   refine WP.call (b0H g.sl vb hn hs ht) ?_
   rintro r h' ⟨rfl,x,rfl,hx2⟩
   rw[hdr,idxI,idxF] at hp
   cases x with
   |true=>
    simp -implicitDefEqProofs (disch:=first|assumption|omega|(simp only[gL,gA]<;>omega)|fail) only[gC,reduceIte]
    refine WP.ret ⟨rfl,?_⟩
    rw[<-hp,if_pos (hx2.1 rfl)]
   |false=>
    simp -implicitDefEqProofs (disch:=first|assumption|omega|(simp only[gL,gA]<;>omega)|fail) only[gC,reduceIte]
    have hne:¬S[i]=t:=fun z=>by have:=hx2.2 z; cases this
    rw[if_neg hne] at hp
    exact ih (i+1) (by omega) hp
 exact WP.ent (loop S.length 0 (by omega) (by rw[List.drop_zero])) fun i=>rfl
end Go.Gm.AQ
namespace Go.Gm.AQ
open Go Go.Gm
section
variable {nf:NF} {sS sF:AV}
def OffS (hb:Heap)(states sN sA:AV)(oS oN oA:Nat)(o:Nat):Prop:=o≠hb.length+1/\(states≠.nils->o≠oS)/\(sN≠.nils->o≠oN)/\(sA≠.nils->o≠oA)
theorem b1v {xs:List Int}{m:Nat}(hm:m<xs.length)(j:Int):(xs.set m j).take (m+1)=xs.take m++[j]:=by
 refine List.ext_getElem? fun p=>?_
 by_cases q:p<m
 ·rw[List.getElem?_take_of_lt (by omega),List.getElem?_set_ne (by omega),List.getElem?_append_left (by simp; omega),List.getElem?_take_of_lt q]
 ·by_cases z:p=m
  ·subst z
   rw[List.getElem?_take_of_lt (by omega),List.getElem?_set_self hm,List.getElem?_append_right (by simp; omega)]
   simp[Nat.min_eq_left (Nat.le_of_lt hm)]
  ·rw[List.getElem?_eq_none (by simp; omega),List.getElem?_eq_none (by simp; omega)]
theorem b3F (ok:NfOk nf)(s m:Nat):∀p,(nxtF nf s m).testBit p=true->p<nf.n:=by
 have hs:∀p,(stpF nf.st s m).testBit p=true->p<nf.n:=fun p hp=>by
  obtain ⟨x,x1,_,_,x4⟩:=a2D.1 hp
  rw[<-x4]; exact (ok.st x x1).2
 exact fun p hp=>a7v (fun f hf=>(ok.fr f hf).2) hs ((a2C (fun f hf=>(ok.fr f hf).2) hs p).1 hp)
theorem b3G {h0 hb:Heap}{on ot i s nx:Nat}{sN sA:AV}{oN oA:Nat}{D':List (List Int)}{acc':List Bool}{Q:AV->Heap->Prop}(v:NfV hb nf sS sF)(rn:hb[on]?=some (.cells ⟨nfC nf sS sF,0,0,false⟩))(rt:hb[ot]?=some (.cells ⟨[.nils,.nils],0,0,false⟩))(e0:Ext h0 hb)(hot:h0.length<=ot) :
  ∀(d m:Nat) (h:Heap) (states:AV) (oS:Nat) (B:List AV) (S:List Nat) (nxs:List Int),m+d=5->SI hb h states sN sA oS oN oA B D' acc'->SetsV nf.n h (fun o=>OffS hb states sN sA oS oN oA o/\o≠nx) B S->S[i]?=some s->S.length<=200->NxOk h hb nx nxs states sN sA oS oN oA->
   (rowF nf 200 s d m S (nxs.take m)=none->∀h',Ext h0 h'->Q (.tup [.agg [.nils,.nils],I 5]) h')->
   (∀h2 states2 oS2 B2 S2 nxs2,SI hb h2 states2 sN sA oS2 oN oA B2 D' acc'->SetsV nf.n h2 (fun o=>OffS hb states2 sN sA oS2 oN oA o/\o≠nx) B2 S2->S2[i]?=some s->S2.length<=200->NxOk h2 hb nx nxs2 states2 sN sA oS2 oN oA->rowF nf 200 s d m S (nxs.take m)=some (S2,nxs2)->
    WP (fun p:Nat × Nat=>p8_ p.1 p.2 (I 200) (.ptr on 0 5 0) (.ptr ot 0 2 0) states2 (.ptr (hb.length+1) 0 2 0) (I i) (.ptr nx 0 5 0) h2) Q)->
   WP (fun p:(Nat × Nat) × Nat=>k1_ p.1.1 p.1.2 p.2 (I 200) (.ptr on 0 5 0) (.ptr ot 0 2 0) states (.ptr (hb.length+1) 0 2 0) (I i) (.ptr nx 0 5 0) (I m) h) Q:=by
 have hn:=v.n0
 intro d
 induction d with
 |zero=>
  intro m h states oS B S nxs h1 mi sv hi hl nk q1 q2
  refine WP.rnd (fun i' j=>u5_ i'.1 i'.2 j (I 200) (.ptr on 0 5 0) (.ptr ot 0 2 0) states (.ptr (hb.length+1) 0 2 0) (I i) (.ptr nx 0 5 0) (I m) h) ?_
  obtain rfl:m=5:=by omega
  have ht:nxs.take 5=nxs:=List.take_of_length_le (by rw[nk.2.1]; omega)
  simp -implicitDefEqProofs (maxSteps:=1000000) (disch:=first|assumption|omega|(simp only[gL]<;>omega)|((repeat (first|exact Ext.refl _|assumption|apply Ext.app|apply Ext.mk|(refine Ext.setr ?_ (by (first|omega|(simp only[gL]<;>omega))) _))); done)|(simp only[gL,gA]<;>omega)|fail) only[gB,setAll,partL,fldV,reduceIte,Nat.reduceAdd,Nat.reduceMul]
  exact WP.lv (q2 h states oS B S nxs mi sv hi hl nk (by rw[ht]; rfl)) fun i j=>rfl
 |succ d ih=>
  intro m h states oS B S nxs h1 mi sv hi hl nk q1 q2
  refine WP.rnd (fun i' j=>u5_ i'.1 i'.2 j (I 200) (.ptr on 0 5 0) (.ptr ot 0 2 0) states (.ptr (hb.length+1) 0 2 0) (I i) (.ptr nx 0 5 0) (I m) h) ?_
  have hm5:m<5:=by omega
  obtain ⟨t,ht⟩:∃t,nxtF nf s m=t:=⟨_,rfl⟩
  have htn:∀p,t.testBit p=true->p<nf.n:=ht▸b3F v.ok s m
  have key:∀(h:Heap) (states:AV) (oS:Nat) (B:List AV) (S':List Nat) (j:Nat),SI hb h states sN sA oS oN oA B D' acc'->SetsV nf.n h (fun o=>OffS hb states sN sA oS oN oA o/\o≠nx) B S'->S'[i]?=some s->S'.length<=200->NxOk h hb nx nxs states sN sA oS oN oA->rowF nf 200 s (d+1) m S (nxs.take m)=rowF nf 200 s d (m+1) S' (nxs.take m++[(j:Int)])->
    WP (fun p:(Nat × Nat) × Nat=>k2_ p.1.1 p.1.2 p.2 (I 200) (.ptr on 0 5 0) (.ptr ot 0 2 0) states (.ptr (hb.length+1) 0 2 0) (I i) (.ptr nx 0 5 0) (I m) (I j) h) Q:=by
   intro h states oS B S' j mi sv hi hl nk hr
   refine WP.congr (fun p=>a1D p.1.1 p.1.2 p.2 (I 200) (.ptr on 0 5 0) (.ptr ot 0 2 0) states (.ptr (hb.length+1) 0 2 0) (I i) (.ptr nx 0 5 0) (I m) (I j) h) ?_
   obtain ⟨n1,n2,n3,n4,n5,n6⟩:=nk
   have hst:=stP (x:=j) (m:=m) n1
   have hia:=b0w (o:=nx) hm5
   have bon:=(List.getElem?_eq_some_iff.1 n1).1
   have hw:h.set nx (.cells ⟨(nxs.map I).set m (I j),0,0,false⟩)=h.set nx (.cells ⟨(nxs.set m (j:Int)).map I,0,0,false⟩):=by rw[List.map_set]
   rw[hw] at hst
   simp -implicitDefEqProofs (maxSteps:=1000000) (disch:=first|assumption|omega|(simp only[gL]<;>omega)|((repeat (first|exact Ext.refl _|assumption|apply Ext.app|apply Ext.mk|(refine Ext.setr ?_ (by (first|omega|(simp only[gL]<;>omega))) _))); done)|(simp only[gL,gA,hia]<;>omega)|fail) only[gB,setAll,partL,fldV,reduceIte,Nat.reduceAdd,Nat.reduceMul,hia]
   have f:FrS (fun q=>q=nx) h (h.set nx (.cells ⟨(nxs.set m (j:Int)).map I,0,0,false⟩)):=⟨by simp,fun p p1 p2=>b2_ fun z=>p1 z.symm⟩
   have hwr:wrAt 1 h h[nx]? nx m (m+1) 0 [I j]=some (h.set nx (.cells ⟨(nxs.set m (j:Int)).map I,0,0,false⟩)):=by
    rw[a3w] at hst; exact hst
   simp -implicitDefEqProofs (maxSteps:=1000000) (disch:=first|assumption|omega|(simp only[gL]<;>omega)|((repeat (first|exact Ext.refl _|assumption|apply Ext.app|apply Ext.mk|(refine Ext.setr ?_ (by (first|omega|(simp only[gL]<;>omega))) _))); done)|(simp only[gL,gA,hwr]<;>omega)|fail) only[gB,setAll,partL,fldV,reduceIte,Nat.reduceAdd,Nat.reduceMul,hwr]
   have htk:=b1v (xs:=nxs) (m:=m) (by omega) (j:Int)
   refine ih (m+1) _ states oS B S' (nxs.set m (j:Int)) (by omega) (mi.frs f ⟨by omega,by omega⟩ n4 n5 n6) (sv.go f fun o z1 z2=>⟨z2.2,z2⟩) hi hl ⟨a4_ bon,by simpa using n2,n3,n4,n5,n6⟩ (fun z=>q1 (by rw[hr,<-htk]; exact z)) fun h2 states2 oS2 B2 S2 nxs2 y1 y2 y3 y4 y5 y6=>q2 h2 states2 oS2 B2 S2 nxs2 y1 y2 y3 y4 y5 (by rw[hr,<-htk]; exact y6)
  have hgs:=mi.gs.sl
  have rn':=mi.eb.get rn
  have rt':=mi.eb.get rt
  have hil:=(List.getElem?_eq_some_iff.1 hi).1
  have lB:=sv.1
  obtain ⟨hs,lo,hi',g,_⟩:=sv.2 i s hi
  simp -implicitDefEqProofs (maxSteps:=1000000) (disch:=first|assumption|omega|(simp only[gL]<;>omega)|((repeat (first|exact Ext.refl _|assumption|apply Ext.app|apply Ext.mk|(refine Ext.setr ?_ (by (first|omega|(simp only[gL]<;>omega))) _))); done)|(simp only[gL,gA,rn',hgs.idxG,lB,hgs.ld0,enc1]<;>omega)|fail) only[gB,setAll,partL,fldV,reduceIte,Nat.reduceAdd,Nat.reduceMul,rn',hgs.idxG,lB,hgs.ld0,enc1]
  refine WP.call (b2P (v.ext mi.eb) g.sl hm5) ?_
  rintro r h2 ⟨e2,g2⟩
  rw[ht] at g2
  have mi2:=mi.ext e2
  have sv2:=sv.ext e2
  have hgs2:=mi2.gs.sl
  refine WP.call (b0I hgs2 sv2 g2.sl hn (by omega) htn) ?_
  rintro r2 h2' ⟨rfl,rfl⟩
  have rt2:=e2.get rt'
  have bnx:=(List.getElem?_eq_some_iff.1 nk.1).1
  have nk2:NxOk h2 hb nx nxs states sN sA oS oN oA:=⟨e2.get nk.1,nk.2⟩
  cases hix:idxF t 0 S with
  |some j=>
   have e:idxI t 0 S=(j:Int):=by rw[idxI,hix]
   rw[e]
   simp -implicitDefEqProofs (maxSteps:=1000000) (disch:=first|assumption|omega|(simp only[gL]<;>omega)|((repeat (first|exact Ext.refl _|assumption|apply Ext.app|apply Ext.mk|(refine Ext.setr ?_ (by (first|omega|(simp only[gL]<;>omega))) _))); done)|(simp only[gL,gA]<;>omega)|fail) only[gB,setAll,partL,fldV,reduceIte,Nat.reduceAdd,Nat.reduceMul]
   exact key h2 states oS B S j mi2 sv2 hi hl nk2 (by rw[rowF]; simp only[ht,hix])
  |none=>
   have e:idxI t 0 S = -1:=by rw[idxI,hix]
   rw[e]
   by_cases q:200<=S.length
   ·have b1:=(List.getElem?_eq_some_iff.1 rt2).1
    simp -implicitDefEqProofs (maxSteps:=1000000) (disch:=first|assumption|omega|(simp only[gL]<;>omega)|((repeat (first|exact Ext.refl _|assumption|apply Ext.app|apply Ext.mk|(refine Ext.setr ?_ (by (first|omega|(simp only[gL]<;>omega))) _))); done)|(simp only[gL,gA,hgs2.lenG,lB,rt2]<;>omega)|fail) only[gB,setAll,partL,fldV,reduceIte,Nat.reduceAdd,Nat.reduceMul,hgs2.lenG,lB,rt2]
    refine WP.ret (q1 (by rw[rowF]; simp only[ht,hix,if_pos q]) _ ((e0.trans mi2.eb).setr hot _))
   ·obtain ⟨s',h3,o',a1,mi3,a3,a4⟩:=mi2.addS r g2.sl.cells (by omega)
    have r1:=g2.sl.one
    have r2:=g2.sl.cells
    simp -implicitDefEqProofs (maxSteps:=1000000) (disch:=first|assumption|omega|(simp only[gL]<;>omega)|((repeat (first|exact Ext.refl _|assumption|apply Ext.app|apply Ext.mk|(refine Ext.setr ?_ (by (first|omega|(simp only[gL]<;>omega))) _))); done)|(simp only[gL,gA,hgs2.lenG,lB,r1,r2,a1]<;>omega)|fail) only[gB,setAll,partL,fldV,reduceIte,Nat.reduceAdd,Nat.reduceMul,hgs2.lenG,lB,r1,r2,a1]
    have l3:=a3.len
    have le2:=e2.len
    refine key h3 s' o' (B++[r]) (S++[t]) S.length mi3 ?_ (v5_ hi) (by rw[List.length_append]; simp; omega) ?_ (by rw[rowF]; simp only[ht,hix,if_neg q])
    ·have base:SetsV nf.n h3 (fun o=>OffS hb s' sN sA o' oN oA o/\o≠nx) B S:=sv.go (D:=fun q=>states≠.nils/\q=oS) ((FrS.ofExt e2).trans a3) fun o z1 z2=>⟨fun z=>z2.1.2.1 z.1 z.2,⟨z2.1.1,fun z=>?_,z2.1.2.2.1,z2.1.2.2.2⟩,z2.2⟩
     ·refine base.snoc htn (g2.frs a3 fun o z1 z2 z3=>?_) fun o z1 z2=>⟨by omega,⟨?_,fun z=>?_,fun z=>?_,fun z=>?_⟩,by omega⟩
      ·have:=mi.ps z3.1; omega
      ·have:=mi.bl; omega
      ·rcases a4 z with ⟨w1,w2⟩|w1
       ·have:=mi.ps w2; omega
       ·omega
      ·have:=mi.pn z; omega
      ·have:=mi.pa z; omega
     ·rcases a4 z with ⟨w1,w2⟩|w1
      ·rw[w1]; exact z2.1.2.1 w2
      ·omega
    ·obtain ⟨n1,n2,n3,n4,n5,n6⟩:=nk2
     refine ⟨?_,n2,n3,fun z=>?_,n5,n6⟩
     ·rw[a3.get (fun z=>n4 z.1 z.2) (by omega)]; exact n1
     ·rcases a4 z with ⟨z1,z2⟩|z1
      ·rw[z1]; exact n4 z2
      ·omega
end
end Go.Gm.AQ
namespace Go.Gm.AQ
open Go Go.Gm
section
variable {nf:NF} {sS sF:AV}
def SubQ (lo:Nat)(o:Option (List (List Int) × List Bool))(r:AV)(h':Heap):Prop:=
 match o with
 |none=>r=.tup [.agg [.nils,.nils],I 5]
 |some (D,acc)=>∃sN sA:AV,r=.tup [.agg [sN,sA],I 0]/\Gr lo h'.length h' 5 sN (D.map encR)/\Gr lo h'.length h' 1 sA (acc.map encB)
theorem b3H {h0 hb:Heap}{on ot:Nat}(v:NfV hb nf sS sF)(rn:hb[on]?=some (.cells ⟨nfC nf sS sF,0,0,false⟩))(rt:hb[ot]?=some (.cells ⟨[.nils,.nils],0,0,false⟩))(e0:Ext h0 hb)(hot:h0.length<=ot) :
  ∀(f i:Nat) (h:Heap) (states sN sA:AV) (oS oN oA:Nat) (B:List AV) (S:List Nat) (D:List (List Int)) (acc:List Bool),i+f=202->i<=S.length->S.length<=200->D.length=i->acc.length=i->SI hb h states sN sA oS oN oA B D acc->SetsV nf.n h (OffS hb states sN sA oS oN oA) B S->
   WP (fun p:Nat × Nat=>k0_ p.1 p.2 (I 200) (.ptr on 0 5 0) (.ptr ot 0 2 0) states (.ptr (hb.length+1) 0 2 0) (I i) h) fun r h'=>Ext h0 h'/\SubQ h0.length (subL nf 200 f i S D acc) r h':=by
 have l0:=e0.len
 have bt:=(List.getElem?_eq_some_iff.1 rt).1
 intro f
 induction f with
 |zero=>intro i h states sN sA oS oN oA B S D acc h1 h2 h3; omega
 |succ f ih=>
  intro i h states sN sA oS oN oA B S D acc h1 h2 h3 hD hA mi sv
  refine WP.rnd (fun i' j=>a1H i' j (I 200) (.ptr on 0 5 0) (.ptr ot 0 2 0) states (.ptr (hb.length+1) 0 2 0) (I i) h) ?_
  have gs:=mi.gs.sl.lenG
  have lB:=sv.1
  by_cases q:i=S.length
  ·have hs:subL nf 200 (f+1) i S D acc=some (D,acc):=by rw[subL,List.getElem?_eq_none (by omega)]
   rw[hs]
   simp -implicitDefEqProofs (maxSteps:=1000000) (disch:=first|assumption|omega|(simp only[gL]<;>omega)|((repeat (first|exact Ext.refl _|assumption|apply Ext.app|apply Ext.mk|(refine Ext.setr ?_ (by (first|omega|(simp only[gL]<;>omega))) _))); done)|(simp only[gL,gA,gs,lB]<;>omega)|fail) only[gB,setAll,partL,fldV,reduceIte,Nat.reduceAdd,Nat.reduceMul,gs,lB]
   refine WP.lv (d:=fun k:Nat=>p9_ k (.ptr ot 0 2 0) (.ptr (hb.length+1) 0 2 0) h) ?_ fun i j=>rfl
   refine WP.congr (fun k=>a1G k (.ptr ot 0 2 0) (.ptr (hb.length+1) 0 2 0) h) ?_
   have ro:=mi.ro
   have rt':=mi.eb.get rt
   have b0:=(List.getElem?_eq_some_iff.1 rt').1
   have o1:=mi.gn.sl.one
   have o2:=mi.gn.sl.cells
   have o3:=mi.ga.sl.one
   have o4:=mi.ga.sl.cells
   simp -implicitDefEqProofs (maxSteps:=1000000) (disch:=first|assumption|omega|(simp only[gL]<;>omega)|((repeat (first|exact Ext.refl _|assumption|apply Ext.app|apply Ext.mk|(refine Ext.setr ?_ (by (first|omega|(simp only[gL]<;>omega))) _))); done)|(simp only[gL,gA,ro,rt',o1,o2,o3,o4]<;>omega)|fail) only[gB,setAll,partL,fldV,reduceIte,Nat.reduceAdd,Nat.reduceMul,ro,rt',o1,o2,o3,o4]
   have nl:∀{lo:Nat} {sz:Nat} {s:AV} {xs:List (List AV)} (x:AObj),Gr lo (lo+1) h sz s xs->(s≠.nils->hb.length<=lo/\lo<h.length)->Gr h0.length (h.set ot x).length (h.set ot x) sz s xs:=by
    intro lo sz s xs x g hq
    by_cases q:s=.nils
    ·subst q
     have:=g.isNil
     subst this
     exact Gr.nil ..
    ·have:=hq q
     exact (g.set (.inl (by omega)) _).mono (by omega) (by simp; omega)
   refine WP.ret ⟨(e0.trans mi.eb).setr hot _,sN,sA,rfl,nl _ mi.gn fun z=>?_,nl _ mi.ga fun z=>?_⟩
   ·have:=mi.pn z; omega
   ·have:=mi.pa z; omega
  ·have hx:S[i]?=some S[i]:=List.getElem?_eq_getElem (by omega)
   obtain ⟨s,hs⟩:∃s,S[i]=s:=⟨_,rfl⟩
   rw[hs] at hx
   have hsub:subL nf 200 (f+1) i S D acc=match rowF nf 200 s 5 0 S [] with
    |none=>none
    |some (S',row)=>subL nf 200 f (i+1) S' (D++[row]) (acc++[s.testBit nf.e]):=by
    rw[subL]; simp only[hx]
    cases rowF nf 200 s 5 0 S []<;>rfl
   rw[hsub]
   simp -implicitDefEqProofs (maxSteps:=1000000) (disch:=first|assumption|omega|(simp only[gL]<;>omega)|((repeat (first|exact Ext.refl _|assumption|apply Ext.app|apply Ext.mk|(refine Ext.setr ?_ (by (first|omega|(simp only[gL]<;>omega))) _))); done)|(simp only[gL,gA,gs,lB]<;>omega)|fail) only[gB,setAll,partL,fldV,reduceIte,Nat.reduceAdd,Nat.reduceMul,gs,lB]
   have bl:=mi.bl
   have e1:Ext h (h++[AObj.cells ⟨List.map I [0,0,0,0,0],0,0,false⟩]):=Ext.push _ _
   refine WP.ent (b3G (s:=s) (nx:=h.length) v rn rt e0 hot 5 0 (h++[AObj.cells ⟨List.map I [0,0,0,0,0],0,0,false⟩]) states oS B S [0,0,0,0,0] (by omega) (mi.ext e1) (sv.go (D:=fun _=>False) (FrS.ofExt e1) fun o z1 z2=>⟨id,z2,by omega⟩) hx h3 ⟨by simp,rfl,bl,fun z=>?_,fun z=>?_,fun z=>?_⟩ (fun z h' z2=>?_) (fun h2 states oS B S' nxs mi sv hi hl nk hr=>?_)) fun i=>rfl
   ·have:=mi.ps z; omega
   ·have:=mi.pn z; omega
   ·have:=mi.pa z; omega
   ·rw[show List.take 0 [0,0,0,0,0]=([]:List Int) from rfl] at z
    rw[z]
    exact ⟨z2,rfl⟩
   ·rw[show List.take 0 [0,0,0,0,0]=([]:List Int) from rfl] at hr
    rw[hr]
    refine WP.congr (fun p=>a1F p.1 p.2 (I 200) (.ptr on 0 5 0) (.ptr ot 0 2 0) states (.ptr (hb.length+1) 0 2 0) (I i) (.ptr h.length 0 5 0) h2) ?_
    obtain ⟨n1,n2,n3,n4,n5,n6⟩:=nk
    have ro:=mi.ro
    have b0:=(List.getElem?_eq_some_iff.1 ro).1
    obtain ⟨sN2,h3',oN2,q1,q2,q3,q4,mi3,f3,w3⟩:=mi.row n2 (by omega)
    have b1:=(List.getElem?_eq_some_iff.1 q4).1
    have hmk:(nxs.map I).take 5=nxs.map I:=List.take_of_length_le (by simp[n2])
    obtain ⟨h4,hh4⟩:∃h4,h4=h3'.set (hb.length+1) (.cells ⟨[sN2,sA],0,0,false⟩):=⟨_,rfl⟩
    rw[<-hh4] at mi3 f3
    have sv3:SetsV nf.n h4 (OffS hb states sN2 sA oS oN2 oA) B S':=by
     refine sv.go f3 fun o z1 z2=>⟨fun z=>?_,z2.1.1,z2.1.2.1,fun z=>?_,z2.1.2.2.2⟩
     ·rcases z with z|z
      ·exact z2.1.1 z
      ·exact z2.1.2.2.1 z.1 z.2
     ·rcases w3 z with ⟨y1,y2⟩|y1
      ·rw[y1]; exact z2.1.2.2.1 y2
      ·omega
    have ro4:=mi3.ro
    have b4:=(List.getElem?_eq_some_iff.1 ro4).1
    have rn4:=mi3.eb.get rn
    have gs4:=mi3.gs.sl
    have lB4:=sv3.1
    have hil:=(List.getElem?_eq_some_iff.1 hi).1
    obtain ⟨hsn,lo,hi',g4,_⟩:=sv3.2 i s hi
    have ha4:=g4.sl
    have lb:=a0b nf.n s
    have hen:=v.ok.e
    obtain ⟨bb,hbb⟩:∃bb,s.testBit nf.e=bb:=⟨_,rfl⟩
    have hgb:=a1v (s:=s) hen
    rw[hbb] at hgb
    rw[hbb]
    obtain ⟨sA2,h5,oA2,w1,w2,w3',w4,mi5,f5,w5⟩:=mi3.accept bb (by omega)
    have b5:=(List.getElem?_eq_some_iff.1 w4).1
    have hld:rdNAt 5 h2[h.length]? 0 5 0=some (.agg (nxs.map I)):=by
     rw[n1]
     simp only[rdNAt]
     rw[if_pos ⟨by omega,Nat.le_refl _⟩,List.drop_zero,hmk]
    obtain ⟨c0,c1,c2,c3,c4,rfl⟩:∃c0 c1 c2 c3 c4,nxs=[c0,c1,c2,c3,c4]:=by
     match nxs,n2 with
     |[c0,c1,c2,c3,c4],_=>exact ⟨c0,c1,c2,c3,c4,rfl⟩
    simp only[List.map_cons,List.map_nil] at hld q1
    simp -implicitDefEqProofs (maxSteps:=1000000) (disch:=first|assumption|omega|(simp only[gL]<;>omega)|((repeat (first|exact Ext.refl _|assumption|apply Ext.app|apply Ext.mk|(refine Ext.setr ?_ (by (first|omega|(simp only[gL]<;>omega))) _))); done)|(simp only[gL,gA,ro,hld,q1,q4,q2,q3]<;>omega)|fail) only[gB,setAll,partL,fldV,reduceIte,Nat.reduceAdd,Nat.reduceMul,ro,hld,q1,q4,q2,q3]
    rw[<-hh4]
    simp -implicitDefEqProofs (maxSteps:=1000000) (disch:=first|assumption|omega|(simp only[gL]<;>omega)|((repeat (first|exact Ext.refl _|assumption|apply Ext.app|apply Ext.mk|(refine Ext.setr ?_ (by (first|omega|(simp only[gL]<;>omega))) _))); done)|(simp only[gL,gA,ro4,rn4,gs4.idxG,gs4.ld0,lB4,enc1,ha4.idxG,ha4.ld0,lb,hgb,encB,w1,w4,w2,w3']<;>omega)|fail) only[gB,setAll,partL,fldV,reduceIte,Nat.reduceAdd,Nat.reduceMul,ro4,rn4,gs4.idxG,gs4.ld0,lB4,enc1,ha4.idxG,ha4.ld0,lb,hgb,encB,w1,w4,w2,w3']
    obtain ⟨h6,hh6⟩:∃h6,h6=h5.set (hb.length+1) (.cells ⟨[sN2,sA2],0,0,false⟩):=⟨_,rfl⟩
    rw[<-hh6] at mi5 f5 ⊢
    refine WP.congr (fun p=>a1E p.1 p.2 (I 200) (.ptr on 0 5 0) (.ptr ot 0 2 0) states (.ptr (hb.length+1) 0 2 0) (I i) h6) ?_
    simp -implicitDefEqProofs (maxSteps:=1000000) (disch:=first|assumption|omega|(simp only[gL]<;>omega)|((repeat (first|exact Ext.refl _|assumption|apply Ext.app|apply Ext.mk|(refine Ext.setr ?_ (by (first|omega|(simp only[gL]<;>omega))) _))); done)|(simp only[gL,gA]<;>omega)|fail) only[gB,setAll,partL,fldV,reduceIte,Nat.reduceAdd,Nat.reduceMul]
    refine ih (i+1) h6 states sN2 sA2 oS oN2 oA2 B S' (D++[[c0,c1,c2,c3,c4]]) (acc++[bb]) (by omega) (by omega) hl (by simp[hD]) (by simp[hA]) mi5 (sv3.go f5 fun o z1 z2=>⟨fun z=>?_,z2.1,z2.2.1,z2.2.2.1,fun z=>?_⟩)
    ·rcases z with z|z
     ·exact z2.1 z
     ·exact z2.2.2.2 z.1 z.2
    ·rcases w5 z with ⟨y1,y2⟩|y1
     ·rw[y1]; exact z2.2.2.2 y2
     ·omega
theorem a7I {h:Heap}(v:NfV h nf sS sF) :
  Tot tab b4_ [.agg (nfC nf sS sF),I 200] h fun r h'=>Ext h h'/\SubQ h.length (subF nf 200) r h':=by
 refine WP.tot (fun k=>a2x k _ _ h) ?_
 have ss:=v.s.one
 have sf:=v.f.one
 obtain ⟨h1,hh1⟩:∃h1,h1=(h++[AObj.cells ⟨nfC nf sS sF,0,0,false⟩])++[AObj.cells ⟨[.nils,.nils],0,0,false⟩]:=⟨_,rfl⟩
 have e1:Ext h h1:=by rw[hh1]; ((repeat (first|exact Ext.refl _|assumption|apply Ext.app|apply Ext.mk|(refine Ext.setr ?_ (by (first|omega|(simp only[gL]<;>omega))) _))))
 have rn:h1[h.length]?=some (.cells ⟨nfC nf sS sF,0,0,false⟩):=by rw[hh1]; simp
 have rt:h1[h.length+1]?=some (.cells ⟨[.nils,.nils],0,0,false⟩):=by rw[hh1]; simp
 simp -implicitDefEqProofs (maxSteps:=1000000) (disch:=first|assumption|omega|(simp only[gL]<;>omega)|((repeat (first|exact Ext.refl _|assumption|apply Ext.app|apply Ext.mk|(refine Ext.setr ?_ (by (first|omega|(simp only[gL]<;>omega))) _))); done)|(simp only[gL,gA,ss,sf]<;>omega)|fail) only[gB,setAll,partL,fldV,reduceIte,Nat.reduceAdd,Nat.reduceMul,ss,sf]
 rw[<-hh1]
 refine WP.call (b1s (v.ext e1)) ?_
 rintro r h2 ⟨e2,g2⟩
 have r1:=g2.sl.one
 have r2:=g2.sl.cells
 simp -implicitDefEqProofs (maxSteps:=1000000) (disch:=first|assumption|omega|(simp only[gL]<;>omega)|((repeat (first|exact Ext.refl _|assumption|apply Ext.app|apply Ext.mk|(refine Ext.setr ?_ (by (first|omega|(simp only[gL]<;>omega))) _))); done)|(simp only[gL,gA,r1,r2]<;>omega)|fail) only[gB,setAll,partL,fldV,reduceIte,Nat.reduceAdd,Nat.reduceMul,r1,r2]
 obtain ⟨h3,hh3⟩:∃h3,h3=(h2++[AObj.cells ⟨[r],0,0,false⟩])++[AObj.cells ⟨[.nils,.nils],0,0,false⟩]:=⟨_,rfl⟩
 have e3:Ext h2 h3:=by rw[hh3]; ((repeat (first|exact Ext.refl _|assumption|apply Ext.app|apply Ext.mk|(refine Ext.setr ?_ (by (first|omega|(simp only[gL]<;>omega))) _))))
 have l3:h3.length=h2.length+2:=by rw[hh3]; simp
 have l2:=e2.len
 have g3:Gr h2.length (h2.length+1) h3 1 (.sl h2.length 0 1 1 none 0) ([r].map enc1):=by
  have:=Gr.lit (h:=h2) (sz:=1) (v:=[r]) rfl
  rw[a3_] at this
  rw[hh3]; exact this.app _
 have ro:h3[h2.length+1]?=some (.cells ⟨[.nils,.nils],0,0,false⟩):=by rw[hh3]; simp
 have hfr:∀f∈nf.fr,f.2<nf.n:=fun f hf=>(v.ok.fr f hf).2
 have hs1:∀p,(2 ^ nf.s).testBit p=true->p<nf.n:=fun p hp=>by
  rw[Nat.testBit_two_pow] at hp
  have:nf.s=p:=by simpa using hp
  have:=v.ok.s
  omega
 have hs2:∀p,(cloF nf.n nf.fr (2 ^ nf.s)).testBit p=true->p<nf.n:=fun p hp=>a7v hfr hs1 ((a2C hfr hs1 p).1 hp)
 have mi:SI h2 h3 (.sl h2.length 0 1 1 none 0) .nils .nils h2.length 0 0 [r] [] []:=
  ⟨e3,ro,g3,Gr.nil ..,Gr.nil ..,fun _=>by omega,fun z=>absurd rfl z,fun z=>absurd rfl z,by omega⟩
 have e12:=e1.trans e2
 rw[<-hh3]
 refine WP.ent (b3H (ot:=h.length+1) (v.ext e12) (e2.get rn) (e2.get rt) e12 (by omega) 202 0 h3 _ _ _ _ _ _ _ [cloF nf.n nf.fr (2 ^ nf.s)] [] [] (by omega) (by simp) (by simp) rfl rfl mi ⟨rfl,fun i s hi=>?_⟩) fun i=>rfl
 have hil:=(List.getElem?_eq_some_iff.1 hi).1
 simp only[List.length_cons,List.length_nil] at hil
 obtain rfl:i=0:=by omega
 simp at hi
 subst hi
 refine ⟨hs2,h1.length,h2.length,g2.ext e3,fun o z1 z2=>⟨by omega,by omega,fun _=>by omega,fun z=>absurd rfl z,fun z=>absurd rfl z⟩⟩
end
end Go.Gm.AQ
namespace Go.Gm.AQ
open Go Go.Gm
section
variable {S:ByteArray} {ro:Nat}
theorem a0Y {h:Heap}{p d c:Nat}(hr:h[ro]?=some (.cells ⟨[.str S,I p,I d,I 0],0,0,false⟩))(hb:bt S p=some c) :
  Tot tab a6_ [.ptr ro 0 4 0] h fun v h'=>v=.tup [U8 c,.bool true]/\h=h':=by
 refine WP.tot (fun k=>u3_ k _ h) ?_
 have hlt:=bt_lt hb
 have hix:=bt_ix hb
 have hlb:lenB (.str S)=some (I S.size):=rfl
 simp -implicitDefEqProofs (disch:=first|assumption|omega|(simp only[gL,gA]<;>omega)|fail) only[gC,reduceIte,hr,hlb,hix]
 exact WP.ret ⟨rfl,rfl⟩
theorem a7J {h:Heap}{p d:Nat}(hr:h[ro]?=some (.cells ⟨[.str S,I p,I d,I 0],0,0,false⟩))(hb:bt S p=none) :
  Tot tab a6_ [.ptr ro 0 4 0] h fun v h'=>v=.tup [U8 0,.bool false]/\h=h':=by
 refine WP.tot (fun k=>u3_ k _ h) ?_
 have hle:=b2f hb
 have hlb:lenB (.str S)=some (I S.size):=rfl
 simp -implicitDefEqProofs (disch:=first|assumption|omega|(simp only[gL,gA]<;>omega)|fail) only[gC,reduceIte,hr,hlb]
 exact WP.ret ⟨rfl,rfl⟩
def mdI (c:Nat):Int:=match md c with
 |some m=>m
 |none=>-1
theorem a0K {c:Nat}(h:Heap):Tot tab e1_ [U8 c] h fun v h'=>v=I (mdI c)/\h=h':=by
 refine WP.tot (fun k=>a3H k _ h) ?_
 have hix:∀(i b:Nat),([119,98,99,102,116]:List Nat)[i]?=some b->ixS (.str ⟨#[119,98,99,102,116]⟩) (I (i:Int))=some (U8 b):=by
  intro i b hi
  have hi5:=(List.getElem?_eq_some_iff.1 hi).1
  simp only[List.length_cons,List.length_nil] at hi5
  have:i=0\/i=1\/i=2\/i=3\/i=4:=by omega
  rcases this with rfl|rfl|rfl|rfl|rfl<;>(simp at hi; subst hi; rfl)
 have loop:∀(d i:Nat),i+d=5->(∀(j b:Nat),j<i->([119,98,99,102,116]:List Nat)[j]?=some b->c≠b)->WP (fun p:Nat × Nat=>n9_ p.1 p.2 (U8 c) (I i) h) fun v h'=>v=I (mdI c)/\h=h':=by
  intro d
  induction d with
  |zero=>
   intro i hi hn
   refine WP.rnd (fun i' j=>z7_ i' j (U8 c) (I i) h) ?_
   simp -implicitDefEqProofs (disch:=first|assumption|omega|(simp only[gL,gA]<;>omega)|fail) only[gC,reduceIte]
   refine WP.lv (WP.ret ⟨?_,rfl⟩) fun i j=>rfl
   have h0:=hn 0 119 (by omega) rfl
   have h1:=hn 1 98 (by omega) rfl
   have h2:=hn 2 99 (by omega) rfl
   have h3:=hn 3 102 (by omega) rfl
   have h4:=hn 4 116 (by omega) rfl
   simp[mdI,md,h0,h1,h2,h3,h4]
  |succ d ih=>
   intro i hi hn
   refine WP.rnd (fun i' j=>z7_ i' j (U8 c) (I i) h) ?_
   obtain ⟨b,hb⟩:∃b,([119,98,99,102,116]:List Nat)[i]?=some b:=⟨_,List.getElem?_eq_getElem (by simp; omega)⟩
   have hx:=hix i b hb
   by_cases hc:b=c
   ·subst hc
    have he:binV .eql .scalar (U8 b) (U8 b)=some (.bool true):=equ_t rfl
    simp -implicitDefEqProofs (disch:=first|assumption|omega|(simp only[gL,gA]<;>omega)|fail) only[gC,reduceIte,hx,he]
    refine WP.lv (WP.ret ⟨?_,rfl⟩) fun i j=>rfl
    have:i=0\/i=1\/i=2\/i=3\/i=4:=by omega
    rcases this with rfl|rfl|rfl|rfl|rfl<;>(simp at hb; subst hb; rfl)
   ·have he:binV .eql .scalar (U8 b) (U8 c)=some (.bool false):=equ_f (by omega)
    simp -implicitDefEqProofs (disch:=first|assumption|omega|(simp only[gL,gA]<;>omega)|fail) only[gC,reduceIte,hx,he]
    refine ih (i+1) (by omega) fun j b' hj hb'=>?_
    by_cases hji:j=i
    ·subst hji
     rw[hb] at hb'; injection hb' with hb'
     subst hb'; exact fun q=>hc q.symm
    ·exact hn j b' (by omega) hb'
 rw[show AV.int .i64 0=I ((0:Nat):Int) from rfl]
 exact WP.ent (loop 5 0 rfl fun j b hj=>by omega) fun i=>rfl
theorem mdI_t {c m:Nat}(h:md c=some m):mdI c=m/\m<5:=by
 refine ⟨by simp[mdI,h],?_⟩
 simp only[md] at h
 split at h
 ·injection h; omega
 split at h
 ·injection h; omega
 split at h
 ·injection h; omega
 split at h
 ·injection h; omega
 split at h
 ·injection h; omega
 ·cases h
theorem mdI_f {c:Nat}(h:md c=none):mdI c = -1:=by simp[mdI,h]
def PR (S:ByteArray)(ro:Nat)(h:Heap)(d:Nat)(n:Nd)(q:Nat)(v:AV)(h':Heap):Prop:=
 FrS (fun o=>o=ro) h h'/\h'[ro]?=some (.cells ⟨[.str S,I q,I d,I 0],0,0,false⟩)/\∃c5,v=.agg c5/\NVD h' (fun o=>h.length<=o/\o<h'.length) n c5
theorem PR.fin {h H:Heap}{d q:Nat}{n:Nd}{c5:List AV}(hro:ro<h.length)(f:FrS (fun o=>o=ro) h H)(hr:H[ro]?=some (.cells ⟨[.str S,I q,I d,I 0],0,0,false⟩))(nv:NVD H (fun o=>h.length<o/\o<H.length) n c5) :
  PR S ro h d n q (.agg c5) (H.set h.length (.cells ⟨c5,0,0,false⟩)):=by
 refine ⟨⟨by simp; exact f.len,fun o h1 h2=>?_⟩,?_,c5,rfl,nv.frs (FrS.set1 H h.length _) (fun o h1 h2 h3=>by omega) fun o h1 h2=>⟨by omega,by simp; exact h1⟩⟩
 ·rw[List.getElem?_set_ne (by omega)]; exact f.get h1 h2
 ·rw[List.getElem?_set_ne (by omega)]; exact hr
theorem a0Z {h H:Heap}(f:FrS (fun o=>o=ro) h H)(x:AObj):FrS (fun o=>o=ro) h (H.set ro x):=
 ⟨by simp; exact f.len,fun o h1 h2=>by rw[List.getElem?_set_ne (fun q=>h1 q.symm)]; exact f.get h1 h2⟩
theorem b3I {h:Heap}(hro:ro<h.length){d:Nat}:∀(f p s s' q:Nat) (H:Heap),clsF S f p s=some (s',q)->S.size<=200->s<32->FrS (fun o=>o=ro) h H->H[ro]?=some (.cells ⟨[.str S,I p,I d,I 0],0,0,false⟩)->H[h.length]?=some (.cells ⟨[I 0,I 0,I 0,I 0,.nils],0,0,false⟩)->
  WP (fun p':Nat × Nat=>f7_ p'.1 p'.2 (.ptr ro 0 4 0) (.ptr h.length 0 5 0) (I s) H) (PR S ro h d (.set s') q):=by
 intro f
 induction f with
 |zero=>intro p s s' q H hc; simp[clsF] at hc
 |succ f ih=>
  intro p s s' q H hc hS hs fr hr ht
  refine WP.rnd (fun i' j=>a0D i' j (.ptr ro 0 4 0) (.ptr h.length 0 5 0) (I s) H) ?_
  have hlen:=fr.len
  have hHl:h.length<H.length:=(List.getElem?_eq_some_iff.1 ht).1
  simp only[clsF] at hc
  cases hb:bt S p with
  |none=>rw[hb] at hc; cases hc
  |some c=>
   rw[hb] at hc
   simp only at hc
   have hp:=bt_lt hb
   refine WP.call (a0Y hr hb) ?_
   rintro _ _ ⟨rfl,rfl⟩
   have hne:¬ro=h.length:=by omega
   have hne':¬h.length=ro:=by omega
   by_cases h93:c=93/\0<s
   ·rw[if_pos h93] at hc
    injection hc with hc
    injection hc with hc1 hc2
    subst hc1 hc2
    obtain ⟨rfl,hs0⟩:=h93
    have he:binV .eql .scalar (U8 93) (.int .u8 93)=some (.bool true):=equ_t rfl
    have hg:binV .gtr .scalar (I (s:Int)) (.int .i64 0)=some (.bool true):=gtr_t (by omega)
    have hrl:ro<H.length:=by omega
    simp -implicitDefEqProofs (disch:=first|assumption|omega|(simp only[gL,gA]<;>omega)|fail) only[gC,reduceIte,a0_,he,hg,hr,ht]
    refine WP.lv (WP.ret ?_) fun i j=>rfl
    refine PR.fin hro (a0Z fr _) (by rw[List.getElem?_set_self hrl]; simp) (a2A (n:=.set s) rfl)
   ·rw[if_neg h93] at hc
    cases hm:md c with
    |none=>rw[hm] at hc; cases hc
    |some m=>
     rw[hm] at hc
     simp only at hc
     obtain ⟨hmi,hm5⟩:=mdI_t hm
     have hor:s ||| 2 ^ m<32:=Nat.or_lt_two_pow (n:=5) hs (Nat.pow_lt_pow_right (by omega) hm5)
     have hori:=or_i (a:=s) (b:=2 ^ m) (by omega) (Nat.pow_lt_pow_right (by omega) (by omega))
     have hrl:ro<H.length:=by omega
     have h93':¬((c:Int)=93):=by
      rintro q
      have:c=93:=by omega
      subst this; simp[md] at hm
     have he:=equ_f h93'
     simp -implicitDefEqProofs (disch:=first|assumption|omega|(simp only[gL,gA]<;>omega)|fail) only[gC,reduceIte,a0_,he]
     refine WP.call (a0K H) ?_
     rintro _ _ ⟨rfl,rfl⟩
     rw[hmi]
     simp -implicitDefEqProofs (disch:=first|assumption|omega|(simp only[gL,gA]<;>omega)|fail) only[gC,reduceIte]
     refine WP.call (a0K H) ?_
     rintro _ _ ⟨rfl,rfl⟩
     rw[hmi]
     have hcv:convV .u64 (I (m:Int))=some (.int .u64 m):=a1k (by omega) (by omega)
     have hsh:binV .shl .scalar (.int .i64 1) (.int .u64 (m:Int))=some (I ((2 ^ m:Nat):Int)):=by
      have:=shl_i (k:=.u64) (m:=(m:Int)) (by omega) (by omega)
      simpa using this
     simp -implicitDefEqProofs (disch:=first|assumption|omega|(simp only[gL,gA]<;>omega)|fail) only[gC,reduceIte,hcv,hsh,hori,hr]
     refine ih (p+1) (s ||| 2 ^ m) s' q _ hc hS hor (a0Z fr _) (by rw[List.getElem?_set_self hrl]; simp) (by rw[List.getElem?_set_ne hne]; exact ht)
theorem b1w {h:Heap}{f p d s' q:Nat}(hS:S.size<=200)(hc:clsF S f p 0=some (s',q))(hr:h[ro]?=some (.cells ⟨[.str S,I p,I d,I 0],0,0,false⟩)) :
  Tot tab g2_ [.ptr ro 0 4 0] h (PR S ro h d (.set s') q):=by
 refine WP.tot (fun k=>a1g k _ h) ?_
 have hro:=(List.getElem?_eq_some_iff.1 hr).1
 have e1:Ext h (h++[AObj.cells ⟨[I 0,I 0,I 0,I 0,.nils],0,0,false⟩]):=Ext.push _ _
 simp -implicitDefEqProofs (disch:=first|assumption|omega|(simp only[gL,gA]<;>omega)|fail) only[gC,reduceIte]
 exact WP.ent (b3I hro f p 0 s' q _ hc hS (by omega) (FrS.ofExt e1) (e1.get hr) (by simp)) fun i=>rfl
theorem subu {a:Nat}(h:48<=a)(h2:a<=57):binV .sub .scalar (U8 a) (.int .u8 48)=some (U8 (a-48)):=by
 show some (AV.int .u8 (IntKind.u8.wrap ((a:Int)-48)))=_
 congr 2
 simp[IntKind.wrap,IntKind.bits,IntKind.signed]
 omega
theorem convu {a:Nat}(h:a<=255):convV .i64 (U8 a)=some (I a):=by
 show some (AV.int .i64 (IntKind.i64.wrap (a:Int)))=_
 rw[p3_ (by omega) (by omega)]
theorem a7K {o n:Nat}{i:Int}(h0:0<=i)(h1:i<n):idxA n 1 (.ptr o 0 n 0) (I i)=some (.ptr o (i.toNat) (i.toNat+1) 0):=by
 simp[idxA,h0,h1]
theorem a7L {dd n3 t4:Nat}{at_:AV}{H:Heap}{i p d c:Nat}{x y:AV}{Q:AV->Heap->Prop}(hi:i<2)(hS:S.size<=200)(hb:bt S p=some c)(h48:48<=c)(h57:c<=57)(hs:bt S (p+1)=some (if i=0 then 44 else 125))(hr:H[ro]?=some (.cells ⟨[.str S,I p,I d,I 0],0,0,false⟩))(hd:H[dd]?=some (.cells ⟨[x,y],0,0,false⟩))(hne:ro≠dd)(hK:∀H',FrS (fun o=>o=ro\/o=dd) H H'->H'.length=H.length->H'[ro]?=some (.cells ⟨[.str S,I ((p+2:Nat):Int),I d,I 0],0,0,false⟩)->H'[dd]?=some (.cells ⟨[x,y].set i (I ((c-48:Nat):Int)),0,0,false⟩)->
   WP (fun p':Nat × Nat=>d5_ p'.1 p'.2 (.ptr ro 0 4 0) (.ptr n3 0 5 0) (.ptr t4 0 5 0) at_ (.ptr dd 0 2 0) (I ((i+1:Nat):Int)) H') Q) :
  WP (fun p':Nat × Nat=>d5_ p'.1 p'.2 (.ptr ro 0 4 0) (.ptr n3 0 5 0) (.ptr t4 0 5 0) at_ (.ptr dd 0 2 0) (I i) H) Q:=by
 refine WP.rnd (fun i' j=>q5_ i' j (.ptr ro 0 4 0) (.ptr n3 0 5 0) (.ptr t4 0 5 0) at_ (.ptr dd 0 2 0) (I i) H) ?_
 have hp:=bt_lt hb
 have hp1:=bt_lt hs
 have hrl:=(List.getElem?_eq_some_iff.1 hr).1
 have hdl:=(List.getElem?_eq_some_iff.1 hd).1
 simp -implicitDefEqProofs (disch:=first|assumption|omega|(simp only[gL,gA]<;>omega)|fail) only[gC,reduceIte]
 refine WP.call (a0Y hr hb) ?_
 rintro _ _ ⟨rfl,rfl⟩
 have a1:=lsu_f (a:=c) (b:=48) (by omega)
 have a2:=gtu_f (a:=c) (b:=57) (by omega)
 have a3:=subu h48 h57
 have a4:convV .i64 (U8 (c-48))=some (I ((c-48:Nat):Int)):=convu (by omega)
 have a5:=a7K (o:=dd) (n:=2) (i:=(i:Int)) (by omega) (by omega)
 have hi2:i=0\/i=1:=by omega
 have hne':¬dd=ro:=fun q=>hne q.symm
 rcases hi2 with rfl|rfl
 ·have hs':bt S (p+1)=some 44:=by simpa using hs
  simp -implicitDefEqProofs (disch:=first|assumption|omega|(simp only[gL,gA]<;>omega)|fail) only[gC,reduceIte,a0_,a1,a2,a3,a4,a5,hr,hd]
  obtain ⟨H1,hH1⟩:∃H1,H1=(H.set dd (.cells ⟨[I ((c-48:Nat):Int),y],0,0,false⟩)).set ro (.cells ⟨[.str S,I ((p:Int)+1),I d,I 0],0,0,false⟩):=⟨_,rfl⟩
  have r1:H1[ro]?=some (.cells ⟨[.str S,I ((p+1:Nat):Int),I d,I 0],0,0,false⟩):=by rw[hH1,List.getElem?_set_self (by simp; exact hrl)]; rfl
  have d1:H1[dd]?=some (.cells ⟨[I ((c-48:Nat):Int),y],0,0,false⟩):=by rw[hH1,List.getElem?_set_ne hne,List.getElem?_set_self hdl]
  have f1:FrS (fun o=>o=ro\/o=dd) H H1:=⟨by rw[hH1]; simp,fun o h1 h2=>by rw[hH1,List.getElem?_set_ne (fun q=>h1 (.inl q.symm)),List.getElem?_set_ne (fun q=>h1 (.inr q.symm))]⟩
  have l1:H1.length=H.length:=by rw[hH1]; simp
  rw[<-hH1]
  refine WP.call (a0Y r1 hs') ?_
  rintro _ _ ⟨rfl,rfl⟩
  have b1:=neu_f (a:=44) (b:=44) rfl
  have hrl1:ro<H1.length:=by omega
  simp -implicitDefEqProofs (disch:=first|assumption|omega|(simp only[gL,gA]<;>omega)|fail) only[gC,reduceIte,a0_,b1,r1]
  refine hK _ ⟨by simp; omega,fun o h1 h2=>?_⟩ (by simp; exact l1) (by rw[List.getElem?_set_self hrl1]; rfl) (by rw[List.getElem?_set_ne hne]; exact d1)
  rw[List.getElem?_set_ne (fun q=>h1 (.inl q.symm))]
  exact f1.get h1 h2
 ·have hs':bt S (p+1)=some 125:=by simpa using hs
  simp -implicitDefEqProofs (disch:=first|assumption|omega|(simp only[gL,gA]<;>omega)|fail) only[gC,reduceIte,a0_,a1,a2,a3,a4,a5,hr,hd]
  obtain ⟨H1,hH1⟩:∃H1,H1=(H.set dd (.cells ⟨[x,I ((c-48:Nat):Int)],0,0,false⟩)).set ro (.cells ⟨[.str S,I ((p:Int)+1),I d,I 0],0,0,false⟩):=⟨_,rfl⟩
  have r1:H1[ro]?=some (.cells ⟨[.str S,I ((p+1:Nat):Int),I d,I 0],0,0,false⟩):=by rw[hH1,List.getElem?_set_self (by simp; exact hrl)]; rfl
  have d1:H1[dd]?=some (.cells ⟨[x,I ((c-48:Nat):Int)],0,0,false⟩):=by rw[hH1,List.getElem?_set_ne hne,List.getElem?_set_self hdl]
  have f1:FrS (fun o=>o=ro\/o=dd) H H1:=⟨by rw[hH1]; simp,fun o h1 h2=>by rw[hH1,List.getElem?_set_ne (fun q=>h1 (.inl q.symm)),List.getElem?_set_ne (fun q=>h1 (.inr q.symm))]⟩
  have l1:H1.length=H.length:=by rw[hH1]; simp
  rw[<-hH1]
  refine WP.call (a0Y r1 hs') ?_
  rintro _ _ ⟨rfl,rfl⟩
  have b1:=neu_f (a:=125) (b:=125) rfl
  have hrl1:ro<H1.length:=by omega
  simp -implicitDefEqProofs (disch:=first|assumption|omega|(simp only[gL,gA]<;>omega)|fail) only[gC,reduceIte,a0_,b1,r1]
  refine hK _ ⟨by simp; omega,fun o h1 h2=>?_⟩ (by simp; exact l1) (by rw[List.getElem?_set_self hrl1]; rfl) (by rw[List.getElem?_set_ne hne]; exact d1)
  rw[List.getElem?_set_ne (fun q=>h1 (.inl q.symm))]
  exact f1.get h1 h2
theorem b2Q {p a b q:Nat}(h:tms S p=some (a,b,q)):∃c0 c1,bt S p=some c0/\48<=c0/\c0<=57/\a=c0-48/\bt S (p+1)=some 44/\bt S (p+2)=some c1/\48<=c1/\c1<=57/\b=c1-48/\bt S (p+3)=some 125/\a<=b/\q=p+4:=by
 have hd:∀{x:Option Nat} {m:Nat},dig x=some m->∃c,x=some c/\48<=c/\c<=57/\m=c-48:=by
  intro x m hx
  cases x with
  |none=>simp[dig] at hx
  |some c=>
   simp only[dig] at hx
   split at hx
   ·rename_i hc
    injection hx with hx
    exact ⟨c,rfl,hc.1,hc.2,hx.symm⟩
   ·cases hx
 simp only[tms] at h
 split at h
 ·rename_i x y h1 h2
  split at h
  ·rename_i hc
   injection h with h
   injection h with h3 h4
   injection h4 with h4 h5
   subst h3 h4 h5
   obtain ⟨c0,k1,k2,k3,k4⟩:=hd h1
   obtain ⟨c1,m1,m2,m3,m4⟩:=hd h2
   exact ⟨c0,c1,k1,k2,k3,k4,hc.1,m1,m2,m3,m4,hc.2.1,hc.2.2,rfl⟩
  ·cases h
 ·cases h
theorem b1x {h:Heap}{p d a b q:Nat}{n:Nd}{c5:List AV}{D:Nat->Prop}(hS:S.size<=200)(hc:tms S p=some (a,b,q))(hp0:0<p)(hr:h[ro]?=some (.cells ⟨[.str S,I p,I d,I 0],0,0,false⟩))(nv:NVD h D n c5)(hD:∀o,D o->o≠ro) :
  Tot tab d7_ [.ptr ro 0 4 0,.agg c5] h fun v h'=>FrS (fun o=>o=ro) h h'/\h'[ro]?=some (.cells ⟨[.str S,I q,I d,I 0],0,0,false⟩)/\∃c,v=.agg c/\NVD h' (fun o=>(D o/\o<h.length)\/(h.length<=o/\o<h'.length)) (.rep a b n) c:=by
 refine WP.tot (fun k=>a1f k _ _ h) ?_
 obtain ⟨c0,c1,k1,k2,k3,rfl,k5,m1,m2,m3,rfl,m5,hab,rfl⟩:=b2Q hc
 have hro:=(List.getElem?_eq_some_iff.1 hr).1
 have hp:=bt_lt k1
 obtain ⟨s5,rfl,ho5⟩:=nv.inv
 obtain ⟨H,hH⟩:∃H,H=((h++[AObj.cells ⟨[I n.kind,I n.st,I n.lo,I n.hi,s5],0,0,false⟩])++[AObj.cells ⟨[I 0,I 0,I 0,I 0,.nils],0,0,false⟩])++[AObj.cells ⟨[I 0,I 0],0,0,false⟩]:=⟨_,rfl⟩
 have eH:Ext h H:=by rw[hH]; ((repeat (first|exact Ext.refl _|assumption|apply Ext.app|apply Ext.mk|(refine Ext.setr ?_ (by (first|omega|(simp only[gL]<;>omega))) _))))
 have x0:H[h.length]?=some (.cells ⟨[I n.kind,I n.st,I n.lo,I n.hi,s5],0,0,false⟩):=by rw[hH]; simp
 have x1:H[h.length+1]?=some (.cells ⟨[I 0,I 0,I 0,I 0,.nils],0,0,false⟩):=by rw[hH]; simp
 have x2:H[h.length+2]?=some (.cells ⟨[I 0,I 0],0,0,false⟩):=by rw[hH]; simp
 have hl:H.length=h.length+3:=by rw[hH]; simp
 have hrH:=eH.get hr
 have hp2:h.length+1+1=h.length+2:=rfl
 simp -implicitDefEqProofs (disch:=first|assumption|omega|(simp only[gL,gA]<;>omega)|fail) only[gC,reduceIte,ho5,hr,hp2]
 rw[<-hH,show AV.int .i64 0=I ((0:Nat):Int) from rfl]
 refine WP.ent (a7L (i:=0) (p:=p) (d:=d) (c:=c0) (by omega) hS k1 k2 k3 (by simpa using k5) hrH x2 (by omega) fun H1 f1 l1 r1 d1=>?_) fun i=>rfl
 refine a7L (i:=1) (p:=p+2) (d:=d) (c:=c1) (x:=I ((c0-48:Nat):Int)) (y:=I 0) (by omega) hS m1 m2 m3 (by simpa using m5) r1 d1 (by omega) fun H2 f2 l2 r2 d2=>?_
 refine WP.rnd (fun i' j=>q5_ i' j (.ptr ro 0 4 0) (.ptr h.length 0 5 0) (.ptr (h.length+1) 0 5 0) _ (.ptr (h.length+2) 0 2 0) (I ((1+1:Nat):Int)) H2) ?_
 simp -implicitDefEqProofs (disch:=first|assumption|omega|(simp only[gL,gA]<;>omega)|fail) only[gC,reduceIte]
 refine WP.lv (WP.congr (fun i=>a0C i (.ptr ro 0 4 0) (.ptr h.length 0 5 0) (.ptr (h.length+1) 0 5 0) _ (.ptr (h.length+2) 0 2 0) H2) ?_) fun i j=>rfl
 have f12:=f1.trans f2
 have y0:H2[h.length]?=some (.cells ⟨[I n.kind,I n.st,I n.lo,I n.hi,s5],0,0,false⟩):=(f12.get (by omega) (by omega)).trans x0
 have y1:H2[h.length+1]?=some (.cells ⟨[I 0,I 0,I 0,I 0,.nils],0,0,false⟩):=(f12.get (by omega) (by omega)).trans x1
 have y2:H2[h.length+2]?=some (.cells ⟨[I ((c0-48:Nat):Int),I ((c1-48:Nat):Int)],0,0,false⟩):=d2
 have a0:=a7K (o:=h.length+2) (n:=2) (i:=0) (by omega) (by omega)
 have a1:=a7K (o:=h.length+2) (n:=2) (i:=1) (by omega) (by omega)
 have hl2:H2.length=h.length+3:=by omega
 simp -implicitDefEqProofs (disch:=first|assumption|omega|(simp only[gL,gA]<;>omega)|fail) only[gC,reduceIte,a0,a1,y0,y1,y2,ho5,show Int.toNat 0=0 from rfl,show Int.toNat 1=1 from rfl]
 have nvH:NVD H (fun o=>D o/\o<h.length) n [I n.kind,I n.st,I n.lo,I n.hi,s5]:=nv.ext eH fun o h1 h2=>⟨h2,h1⟩
 have nv2:NVD H2 (fun o=>D o/\o<h.length) n [I n.kind,I n.st,I n.lo,I n.hi,s5]:=nvH.frs f12 (fun o h1 h2 h3=>by
  rcases h3 with h3|h3
  ·exact hD o h2.1 h3
  ·omega) fun _ _ z=>z
 have e3:Ext H2 (H2++[AObj.cells ⟨[I n.kind,I n.st,I n.lo,I n.hi,s5],0,0,false⟩]):=Ext.push _ _
 have row3:(H2++[AObj.cells ⟨[I n.kind,I n.st,I n.lo,I n.hi,s5],0,0,false⟩])[H2.length]?=some (.cells ⟨[I n.kind,I n.st,I n.lo,I n.hi,s5],0,0,false⟩):=by simp
 generalize H2++[AObj.cells ⟨[I n.kind,I n.st,I n.lo,I n.hi,s5],0,0,false⟩]=H3 at *
 have l3:=e3.len
 have f3:∀(x:AObj),FrS (fun o=>o=h.length+1) H3 (H3.set (h.length+1) x):=fun x=>FrS.set1 ..
 have row3l:=(List.getElem?_eq_some_iff.1 row3).1
 have nv3:∀x,NVD (H3.set (h.length+1) x) (fun o=>D o/\o<h.length) n [I n.kind,I n.st,I n.lo,I n.hi,s5]:=fun x=>
  (nv2.ext e3 (D':=fun o=>D o/\o<h.length) fun _ _ z=>z).frs (f3 x) (fun o h1 h2 h3=>by omega) fun _ _ z=>z
 refine WP.ret ⟨⟨by simp; omega,fun o h1 h2=>?_⟩,?_,_,rfl,.mk (n:=.rep (c0-48) (c1-48) n) (css:=[[I n.kind,I n.st,I n.lo,I n.hi,s5]]) (a7e (by rw[List.getElem?_set_ne (by omega)]; simpa using row3) rfl (by simp)) (fun _=>?_) ?_⟩
 ·rw[List.getElem?_set_ne (by omega),(a0d.1 e3).2 o (by omega),f12.get (by omega) (by omega),(a0d.1 eH).2 o h2]
 ·rw[List.getElem?_set_ne (by omega)]
  exact e3.get r2
 ·exact .inr ⟨by simp[AV.obj]; omega,by simp[AV.obj]; omega⟩
 ·refine .cons ((nv3 _).frs (FrS.refl (fun _=>False) _) (fun _ _ _ z=>z) fun o _ z=>.inl z) .nil
end
end Go.Gm.AQ
namespace Go.Gm.AQ
open Go Go.Gm
abbrev RD (S:ByteArray)(p d:Nat):AObj:=.cells ⟨[.str S,I p,I d,I 0],0,0,false⟩
abbrev Z5:AObj:=.cells ⟨[I 0,I 0,I 0,I 0,.nils],0,0,false⟩
section
variable (S:ByteArray) (ro:Nat) (f:Nat)
def AtS:Prop:=∀(d p:Nat) (n:Nd) (q:Nat) (h:Heap),prs S f d .at p=some (n,q)->d<=30->h[ro]?=some (RD S p d)->Tot tab m6_ [.ptr ro 0 4 0] h (PR S ro h d n q)
def PcS:Prop:=∀(d p:Nat) (n:Nd) (q:Nat) (h:Heap),prs S f d .pc p=some (n,q)->d<=30->h[ro]?=some (RD S p d)->Tot tab c6_ [.ptr ro 0 4 0] h (PR S ro h d n q)
def JnS:Prop:=∀(d p:Nat) (n:Nd) (q:Nat) (h:Heap),prs S f d .jn p=some (n,q)->d<=30->h[ro]?=some (RD S p d)->Tot tab c8_ [.ptr ro 0 4 0] h (PR S ro h d n q)
def UnS:Prop:=∀(d p:Nat) (n:Nd) (q:Nat) (h:Heap),prs S f d .un p=some (n,q)->d<=30->h[ro]?=some (RD S p d)->Tot tab c5_ [.ptr ro 0 4 0] h (PR S ro h d n q)
def PclS:Prop:=∀(d p:Nat) (n m:Nd) (q:Nat) (h H:Heap) (no:Nat) (c5:List AV),prs S f d (.pcl n) p=some (m,q)->d<=30->ro<h.length->FrS (fun o=>o=ro) h H->H[ro]?=some (RD S p d)->H[h.length]?=some Z5->h.length<no->H[no]?=some (.cells ⟨c5,0,0,false⟩)->
 NVD H (fun o=>h.length<o/\o<H.length/\o≠no) n c5->WP (fun p':Nat × Nat=>c3_ p'.1 p'.2 (.ptr ro 0 4 0) (.ptr h.length 0 5 0) (.ptr no 0 5 0) H) (PR S ro h d m q)
structure NL (S:ByteArray) (ro:Nat) (h H:Heap) (d p:Nat) (s:AV) (lg:Nat) (l:List Nd) (css:List (List AV)):Prop where
 hro:ro<h.length
 fr:FrS (fun o=>o=ro) h H
 hr:H[ro]?=some (RD S p d)
 ht:H[h.length]?=some Z5
 gr:Gr lg (lg+1) H 5 s css
 lgl:h.length<lg/\lg<H.length
 nn:s≠.nils
 nvs:NVDs H (fun o=>h.length<o/\o<H.length/\o≠lg) l css
def JnlS:Prop:=∀(d p:Nat) (l:List Nd) (m:Nd) (q:Nat) (h H:Heap) (s:AV) (lg:Nat) (css:List (List AV)),prs S f d (.jnl l) p=some (m,q)->d<=30->l≠[]->l.length+f<=1000000->NL S ro h H d p s lg l css->
 WP (fun p':Nat × Nat=>g4_ p'.1 p'.2 (.ptr ro 0 4 0) (.ptr h.length 0 5 0) s H) (PR S ro h d m q)
def UnlS:Prop:=∀(d p:Nat) (l:List Nd) (m:Nd) (q:Nat) (h H:Heap) (s:AV) (lg:Nat) (css:List (List AV)),prs S f d (.unl l) p=some (m,q)->d<=30->l≠[]->l.length+f<=1000000->NL S ro h H d p s lg l css->
 WP (fun p':Nat × Nat=>f0_ p'.1 p'.2 (.ptr ro 0 4 0) (.ptr h.length 0 5 0) s H) (PR S ro h d m q)
end
section
variable {S:ByteArray} {ro:Nat} {f:Nat}
theorem a9l (hU:UnS S ro f)(hS:S.size<=200){h:Heap}{p d q:Nat}{n:Nd}(hu:prs S f (d+1) .un p=some (n,q))(h41:bt S q=some 41)(hd:d<30)(hr:h[ro]?=some (RD S p d)) :
  Tot tab l7_ [.ptr ro 0 4 0] h (PR S ro h d n (q+1)):=by
 refine WP.tot (fun k=>a1h k _ h) ?_
 have hro:=(List.getElem?_eq_some_iff.1 hr).1
 have hq:=bt_lt h41
 obtain ⟨H1,hH1⟩:∃H1,H1=(h++[Z5]).set ro (.cells ⟨[.str S,I p,I ((d:Int)+1),I 0],0,0,false⟩):=⟨_,rfl⟩
 have r1:H1[ro]?=some (RD S p (d+1)):=by rw[hH1,List.getElem?_set_self (by simp; omega)]; rfl
 have t1:H1[h.length]?=some Z5:=by rw[hH1,List.getElem?_set_ne (by omega)]; simp
 have f1:FrS (fun o=>o=ro) h H1:=by rw[hH1]; exact a0Z (FrS.ofExt (Ext.push _ _)) _
 have l1:H1.length=h.length+1:=by rw[hH1]; simp
 simp -implicitDefEqProofs (disch:=first|assumption|omega|(simp only[gL,gA]<;>omega)|fail) only[gC,reduceIte,hr]
 rw[<-hH1]
 refine WP.call (hU (d+1) p n q H1 hu (by omega) r1) ?_
 rintro _ H2 ⟨f2,r2,c5,rfl,nv⟩
 obtain ⟨s5,rfl,ho5⟩:=nv.inv
 have l2:=f2.len
 have t2:H2[h.length]?=some Z5:=(f2.get (by omega) (by omega)).trans t1
 have e3:Ext H2 (H2++[AObj.cells ⟨[I n.kind,I n.st,I n.lo,I n.hi,s5],0,0,false⟩]):=Ext.push _ _
 have r3:=e3.get r2
 have t3:=e3.get t2
 have x3:(H2++[AObj.cells ⟨[I n.kind,I n.st,I n.lo,I n.hi,s5],0,0,false⟩])[H2.length]?=some (.cells ⟨[I n.kind,I n.st,I n.lo,I n.hi,s5],0,0,false⟩):=by simp
 simp -implicitDefEqProofs (disch:=first|assumption|omega|(simp only[gL,gA]<;>omega)|fail) only[gC,reduceIte,ho5,e0_]
 have f3:FrS (fun o=>o=ro) h (H2++[AObj.cells ⟨[I n.kind,I n.st,I n.lo,I n.hi,s5],0,0,false⟩]):=(f1.trans f2).trans (FrS.ofExt e3)
 have nv3:=nv.ext e3 (D':=fun o=>h.length<o/\o<H2.length) fun o h1 h2=>by omega
 have l3:H2.length<(H2++[AObj.cells ⟨[I n.kind,I n.st,I n.lo,I n.hi,s5],0,0,false⟩]).length:=by simp
 generalize H2++[AObj.cells ⟨[I n.kind,I n.st,I n.lo,I n.hi,s5],0,0,false⟩]=H3 at *
 refine WP.call (a0Y r3 h41) ?_
 rintro _ _ ⟨rfl,rfl⟩
 have b1:=neu_f (a:=41) (b:=41) rfl
 have hne:¬ro=h.length:=by omega
 have hne2:¬ro=H2.length:=by omega
 have hrl:ro<H3.length:=by omega
 have hd1:((d+1:Nat):Int)-1=d:=by omega
 simp -implicitDefEqProofs (disch:=first|assumption|omega|(simp only[gL,gA]<;>omega)|fail) only[gC,reduceIte,a0_,b1,r3,hd1,x3,ho5,t3]
 refine WP.ret (PR.fin hro (a0Z (a0Z f3 _) _) ?_ ((nv3.frs (FrS.set1 H3 ro _) (D':=fun o=>h.length<o/\o<H3.length) (fun o h1 h2 h3=>by omega) (fun o h1 h2=>by omega)).frs (FrS.set1 _ ro _) (fun o h1 h2 h3=>by omega) fun o h1 h2=>by simp; omega))
 rw[List.getElem?_set_self (by simp; exact hrl)]
 rfl
theorem b2R (hU:UnS S ro f)(hS:S.size<=200):AtS S ro (f+1):=by
 intro d p n q h hp hd hr
 refine WP.tot (fun k=>a1t k _ h) ?_
 have hro:=(List.getElem?_eq_some_iff.1 hr).1
 have e1:Ext h (h++[Z5]):=Ext.push _ _
 have r1:=e1.get hr
 have t1:(h++[Z5])[h.length]?=some Z5:=by simp
 have f1:FrS (fun o=>o=ro) h (h++[Z5]):=FrS.ofExt e1
 have l1:(h++[Z5]).length=h.length+1:=by simp
 rw[prs] at hp
 cases hb:bt S p with
 |none=>rw[hb] at hp; cases hp
 |some c=>
 rw[hb] at hp
 simp only at hp
 have hlt:=bt_lt hb
 simp -implicitDefEqProofs (disch:=first|assumption|omega|(simp only[gL,gA]<;>omega)|fail) only[gC,reduceIte]
 generalize h++[Z5]=H1 at *
 refine WP.call (a0Y r1 hb) ?_
 rintro _ _ ⟨rfl,rfl⟩
 have hne:¬ro=h.length:=by omega
 have hrl:ro<H1.length:=by omega
 obtain ⟨H2,hH2⟩:∃H2,H2=H1.set ro (.cells ⟨[.str S,I ((p:Int)+1),I d,I 0],0,0,false⟩):=⟨_,rfl⟩
 have r2:H2[ro]?=some (RD S (p+1) d):=by rw[hH2,List.getElem?_set_self hrl]; rfl
 have t2:H2[h.length]?=some Z5:=by rw[hH2,List.getElem?_set_ne hne]; exact t1
 have f2:FrS (fun o=>o=ro) h H2:=by rw[hH2]; exact a0Z f1 _
 have l2:H2.length=h.length+1:=by rw[hH2]; simp; exact l1
 have leaf:∀{n:Nd},n.kids=[]->PR S ro h d n (p+1) (.agg [I n.kind,I n.st,I n.lo,I n.hi,.nils]) (H2.set h.length (.cells ⟨[I n.kind,I n.st,I n.lo,I n.hi,.nils],0,0,false⟩)):=fun hk=>PR.fin hro f2 r2 (a2A hk)
 have callee:∀{n:Nd} {q:Nat} {v:AV} {H3:Heap},PR S ro H2 d n q v H3->∃s5,v=.agg [I n.kind,I n.st,I n.lo,I n.hi,s5]/\s5.one=true/\H3[h.length]?=some Z5/\h.length<H3.length/\PR S ro h d n q v (H3.set h.length (.cells ⟨[I n.kind,I n.st,I n.lo,I n.hi,s5],0,0,false⟩)):=by
  rintro n q v H3 ⟨f3,r3,c5,rfl,nv⟩
  obtain ⟨s5,rfl,ho5⟩:=nv.inv
  have:=f3.len
  exact ⟨s5,rfl,ho5,(f3.get (by omega) (by omega)).trans t2,by omega,PR.fin hro (f2.trans f3) r3 (nv.frs (FrS.refl (fun _=>False) _) (fun _ _ _ z=>z) fun o h1 h2=>by omega)⟩
 by_cases h40:c=40
 ·subst h40
  rw[if_pos rfl] at hp
  by_cases h30:30<=d
  ·rw[if_pos h30] at hp; cases hp
  rw[if_neg h30] at hp
  cases hu:prs S f (d+1) .un (p+1) with
  |none=>rw[hu] at hp; cases hp
  |some x=>
  obtain ⟨n',q'⟩:=x
  rw[hu] at hp
  simp only at hp
  by_cases h41:bt S q'=some 41
  ·rw[if_pos h41] at hp
   injection hp with hp
   injection hp with hp1 hp2
   subst hp1 hp2
   have a1:=equ_t (a:=40) (b:=40) rfl
   have a2:=equ_f (a:=40) (b:=46) (by omega)
   have a3:=equ_f (a:=40) (b:=48) (by omega)
   have a4:=equ_f (a:=40) (b:=95) (by omega)
   have a5:=equ_f (a:=40) (b:=91) (by omega)
   simp -implicitDefEqProofs (disch:=first|assumption|omega|(simp only[gL,gA]<;>omega)|fail) only[gC,reduceIte,a0_,a1,r1]
   rw[<-hH2]
   refine WP.call (a0K H2) ?_
   rintro _ _ ⟨rfl,rfl⟩
   rw[show mdI 40 = -1 from rfl]
   simp -implicitDefEqProofs (disch:=first|assumption|omega|(simp only[gL,gA]<;>omega)|fail) only[gC,reduceIte,a1,a2,a3,a4,a5]
   refine WP.call (a9l hU hS hu h41 (by omega) r2) ?_
   rintro v H3 hv
   obtain ⟨s5,rfl,ho5,t3,hl3,res⟩:=callee hv
   simp -implicitDefEqProofs (disch:=first|assumption|omega|(simp only[gL,gA]<;>omega)|fail) only[gC,reduceIte,t3,ho5]
   exact WP.ret res
  ·rw[if_neg h41] at hp; cases hp
 ·rw[if_neg h40] at hp
  have a1:=equ_f (a:=c) (b:=40) (by omega)
  cases hm:md c with
  |some m=>
   rw[hm] at hp
   injection hp with hp
   injection hp with hp1 hp2
   subst hp1 hp2
   obtain ⟨hmi,hm5⟩:=mdI_t hm
   simp -implicitDefEqProofs (disch:=first|assumption|omega|(simp only[gL,gA]<;>omega)|fail) only[gC,reduceIte,a0_,a1,r1]
   rw[<-hH2]
   refine WP.call (a0K H2) ?_
   rintro _ _ ⟨rfl,rfl⟩
   rw[hmi]
   simp -implicitDefEqProofs (disch:=first|assumption|omega|(simp only[gL,gA]<;>omega)|fail) only[gC,reduceIte]
   refine WP.call (a0K _) ?_
   rintro _ _ ⟨rfl,rfl⟩
   rw[hmi]
   have hcv:convV .u64 (I (m:Int))=some (.int .u64 m):=a1k (by omega) (by omega)
   have hsh:binV .shl .scalar (.int .i64 1) (.int .u64 (m:Int))=some (I ((2 ^ m:Nat):Int)):=by
    have:=shl_i (k:=.u64) (m:=(m:Int)) (by omega) (by omega)
    simpa using this
   simp -implicitDefEqProofs (disch:=first|assumption|omega|(simp only[gL,gA]<;>omega)|fail) only[gC,reduceIte,hcv,hsh,t2]
   exact WP.ret (leaf (n:=.set (2 ^ m)) rfl)
  |none=>
   rw[hm] at hp
   simp only at hp
   have hmi:=mdI_f hm
   simp -implicitDefEqProofs (disch:=first|assumption|omega|(simp only[gL,gA]<;>omega)|fail) only[gC,reduceIte,a0_,a1,r1]
   rw[<-hH2]
   refine WP.call (a0K H2) ?_
   rintro _ _ ⟨rfl,rfl⟩
   rw[hmi]
   by_cases h46:c=46
   ·subst h46
    rw[if_pos rfl] at hp
    injection hp with hp
    injection hp with hp1 hp2
    subst hp1 hp2
    have a2:=equ_t (a:=46) (b:=46) rfl
    simp -implicitDefEqProofs (disch:=first|assumption|omega|(simp only[gL,gA]<;>omega)|fail) only[gC,reduceIte,a2,t2]
    exact WP.ret (leaf (n:=.set 31) rfl)
   rw[if_neg h46] at hp
   have a2:=equ_f (a:=c) (b:=46) (by omega)
   by_cases h48:c=48
   ·subst h48
    rw[if_pos rfl] at hp
    injection hp with hp
    injection hp with hp1 hp2
    subst hp1 hp2
    have a3:=equ_t (a:=48) (b:=48) rfl
    simp -implicitDefEqProofs (disch:=first|assumption|omega|(simp only[gL,gA]<;>omega)|fail) only[gC,reduceIte,a2,a3,t2]
    exact WP.ret (leaf (n:=.emp) rfl)
   rw[if_neg h48] at hp
   have a3:=equ_f (a:=c) (b:=48) (by omega)
   by_cases h95:c=95
   ·subst h95
    rw[if_pos rfl] at hp
    injection hp with hp
    injection hp with hp1 hp2
    subst hp1 hp2
    have a4:=equ_t (a:=95) (b:=95) rfl
    simp -implicitDefEqProofs (disch:=first|assumption|omega|(simp only[gL,gA]<;>omega)|fail) only[gC,reduceIte,a2,a3,a4,t2]
    exact WP.ret (leaf (n:=.eps) rfl)
   rw[if_neg h95] at hp
   have a4:=equ_f (a:=c) (b:=95) (by omega)
   by_cases h91:c=91
   ·subst h91
    rw[if_pos rfl] at hp
    cases hcl:clsF S f (p+1) 0 with
    |none=>rw[hcl] at hp; cases hp
    |some x=>
    obtain ⟨s',q'⟩:=x
    rw[hcl] at hp
    injection hp with hp
    injection hp with hp1 hp2
    subst hp1 hp2
    have a5:=equ_t (a:=91) (b:=91) rfl
    simp -implicitDefEqProofs (disch:=first|assumption|omega|(simp only[gL,gA]<;>omega)|fail) only[gC,reduceIte,a2,a3,a4,a5]
    refine WP.call (b1w hS hcl r2) ?_
    rintro v H3 hv
    obtain ⟨s5,rfl,ho5,t3,hl3,res⟩:=callee hv
    simp -implicitDefEqProofs (disch:=first|assumption|omega|(simp only[gL,gA]<;>omega)|fail) only[gC,reduceIte,t3,ho5]
    exact WP.ret res
   ·rw[if_neg h91] at hp; cases hp
theorem b1y {d p:Nat}{h H:Heap}{no:Nat}{Q:AV->Heap->Prop}(hp:p<200)(hr:H[ro]?=some (RD S p d))(hK:WP (fun p':Nat × Nat=>c3_ p'.1 p'.2 (.ptr ro 0 4 0) (.ptr h.length 0 5 0) (.ptr no 0 5 0) (H.set ro (RD S (p+1) d))) Q) :
  WP (fun p':Nat × Nat=>c4_ p'.1 p'.2 (.ptr ro 0 4 0) (.ptr h.length 0 5 0) (.ptr no 0 5 0) H) Q:=by
 refine WP.congr (fun p'=>a0A p'.1 p'.2 (.ptr ro 0 4 0) (.ptr h.length 0 5 0) (.ptr no 0 5 0) H) ?_
 simp -implicitDefEqProofs (disch:=first|assumption|omega|(simp only[gL,gA]<;>omega)|fail) only[gC,reduceIte,hr]
 exact hK
theorem b1z (ih:PclS S ro f)(hS:S.size<=200):PclS S ro (f+1):=by
 intro d p n m q h H no c5 hp hd hro fr hr ht hno hn nv
 refine WP.rnd (fun i' j=>a0B i' j (.ptr ro 0 4 0) (.ptr h.length 0 5 0) (.ptr no 0 5 0) H) ?_
 rw[prs] at hp
 have htl:=(List.getElem?_eq_some_iff.1 ht).1
 have hnl:=(List.getElem?_eq_some_iff.1 hn).1
 have hrl:ro<H.length:=by omega
 obtain ⟨s5,rfl,ho5⟩:=nv.inv
 have stop:∀{m:Nd},m=n->PR S ro h d m p (.agg [I n.kind,I n.st,I n.lo,I n.hi,s5]) (H.set h.length (.cells ⟨[I n.kind,I n.st,I n.lo,I n.hi,s5],0,0,false⟩)):=by
  rintro m rfl
  exact PR.fin hro fr hr (nv.frs (FrS.refl (fun _=>False) _) (fun _ _ _ z=>z) fun o h1 h2=>⟨h2.1,h1⟩)
 have more:∀{n':Nd},n'.kids=[n]->FrS (fun o=>o=ro) h (((H++[AObj.cells ⟨[I n.kind,I n.st,I n.lo,I n.hi,s5],0,0,false⟩]).set no (.cells ⟨[I n'.kind,I n'.st,I n'.lo,I n'.hi,.sl H.length 0 1 5 none 0],0,0,false⟩)))/\
   ((H++[AObj.cells ⟨[I n.kind,I n.st,I n.lo,I n.hi,s5],0,0,false⟩]).set no (.cells ⟨[I n'.kind,I n'.st,I n'.lo,I n'.hi,.sl H.length 0 1 5 none 0],0,0,false⟩))[h.length]?=some Z5/\
   NVD ((H++[AObj.cells ⟨[I n.kind,I n.st,I n.lo,I n.hi,s5],0,0,false⟩]).set no (.cells ⟨[I n'.kind,I n'.st,I n'.lo,I n'.hi,.sl H.length 0 1 5 none 0],0,0,false⟩)) (fun o=>h.length<o/\o<H.length+1/\o≠no) n' [I n'.kind,I n'.st,I n'.lo,I n'.hi,.sl H.length 0 1 5 none 0]:=by
  intro n' hk
  have e1:Ext H (H++[AObj.cells ⟨[I n.kind,I n.st,I n.lo,I n.hi,s5],0,0,false⟩]):=Ext.push _ _
  refine ⟨⟨by simp; have:=fr.len; omega,fun o h1 h2=>?_⟩,?_,.mk (css:=[[I n.kind,I n.st,I n.lo,I n.hi,s5]]) (a7e (by rw[List.getElem?_set_ne (by omega)]; simp) rfl (by simp)) (fun _=>?_) ?_⟩
  ·rw[List.getElem?_set_ne (by omega),(a0d.1 e1).2 o (by omega),fr.get h1 h2]
  ·rw[List.getElem?_set_ne (by omega)]; exact e1.get ht
  ·exact ⟨by simp[AV.obj]; omega,by simp[AV.obj],by simp[AV.obj]; omega⟩
  ·rw[hk]
   exact .cons ((nv.ext e1 (D':=fun o=>h.length<o/\o<H.length/\o≠no) fun _ _ z=>z).frs (FrS.set1 _ no _) (fun o h1 h2 h3=>h2.2.2 h3) fun o h1 h2=>⟨h2.1,by omega,h2.2.2⟩) .nil
 cases hb:bt S p with
 |none=>
  rw[hb] at hp
  injection hp with hp
  injection hp with hp1 hp2
  subst hp2
  refine WP.call (a7J hr hb) ?_
  rintro _ _ ⟨rfl,rfl⟩
  simp -implicitDefEqProofs (disch:=first|assumption|omega|(simp only[gL,gA]<;>omega)|fail) only[gC,reduceIte,a0_,hn,ho5,ht]
  exact WP.lv (WP.ret (stop hp1.symm)) fun i j=>rfl
 |some c=>
  rw[hb] at hp
  simp only at hp
  have hlt:=bt_lt hb
  refine WP.call (a0Y hr hb) ?_
  rintro _ _ ⟨rfl,rfl⟩
  have cont:∀{n':Nd} (hk:n'.kids=[n]) (hq:prs S f d (.pcl n') (p+1)=some (m,q)),
    WP (fun p':Nat × Nat=>c4_ p'.1 p'.2 (.ptr ro 0 4 0) (.ptr h.length 0 5 0) (.ptr no 0 5 0) ((H++[AObj.cells ⟨[I n.kind,I n.st,I n.lo,I n.hi,s5],0,0,false⟩]).set no (.cells ⟨[I n'.kind,I n'.st,I n'.lo,I n'.hi,.sl H.length 0 1 5 none 0],0,0,false⟩))) (PR S ro h d m q):=by
   intro n' hk hq
   obtain ⟨k1,k2,k3⟩:=more hk
   have e1:Ext H (H++[AObj.cells ⟨[I n.kind,I n.st,I n.lo,I n.hi,s5],0,0,false⟩]):=Ext.push _ _
   have hl1:(H++[AObj.cells ⟨[I n.kind,I n.st,I n.lo,I n.hi,s5],0,0,false⟩]).length=H.length+1:=by simp
   have r1:((H++[AObj.cells ⟨[I n.kind,I n.st,I n.lo,I n.hi,s5],0,0,false⟩]).set no (.cells ⟨[I n'.kind,I n'.st,I n'.lo,I n'.hi,.sl H.length 0 1 5 none 0],0,0,false⟩))[ro]?=some (RD S p d):=by
    rw[List.getElem?_set_ne (by omega)]; exact e1.get hr
   have x1:((H++[AObj.cells ⟨[I n.kind,I n.st,I n.lo,I n.hi,s5],0,0,false⟩]).set no (.cells ⟨[I n'.kind,I n'.st,I n'.lo,I n'.hi,.sl H.length 0 1 5 none 0],0,0,false⟩))[no]?=some (.cells ⟨[I n'.kind,I n'.st,I n'.lo,I n'.hi,.sl H.length 0 1 5 none 0],0,0,false⟩):=List.getElem?_set_self (by omega)
   have hl2:((H++[AObj.cells ⟨[I n.kind,I n.st,I n.lo,I n.hi,s5],0,0,false⟩]).set no (.cells ⟨[I n'.kind,I n'.st,I n'.lo,I n'.hi,.sl H.length 0 1 5 none 0],0,0,false⟩)).length=H.length+1:=by simp
   generalize ((H++[AObj.cells ⟨[I n.kind,I n.st,I n.lo,I n.hi,s5],0,0,false⟩]).set no (.cells ⟨[I n'.kind,I n'.st,I n'.lo,I n'.hi,.sl H.length 0 1 5 none 0],0,0,false⟩))=H2 at *
   refine b1y (by omega) r1 ?_
   refine ih d (p+1) n' m q h _ no _ hq hd hro (a0Z k1 _) (List.getElem?_set_self (by omega)) (by rw[List.getElem?_set_ne (by omega)]; exact k2) hno (by rw[List.getElem?_set_ne (by omega)]; exact x1) ?_
   exact k3.frs (FrS.set1 H2 ro _) (fun o h1 h2 h3=>by omega) fun o h1 h2=>⟨h2.1,by simp; omega,h2.2.2⟩
  by_cases h42:c=42
  ·subst h42
   rw[if_pos rfl] at hp
   have a1:=equ_t (a:=42) (b:=42) rfl
   simp -implicitDefEqProofs (disch:=first|assumption|omega|(simp only[gL,gA]<;>omega)|fail) only[gC,reduceIte,a0_,a1,hn,ho5]
   exact cont (n':=.star n) rfl hp
  rw[if_neg h42] at hp
  have a1:=equ_f (a:=c) (b:=42) (by omega)
  by_cases h43:c=43
  ·subst h43
   rw[if_pos rfl] at hp
   have a2:=equ_t (a:=43) (b:=43) rfl
   simp -implicitDefEqProofs (disch:=first|assumption|omega|(simp only[gL,gA]<;>omega)|fail) only[gC,reduceIte,a0_,a1,a2,hn,ho5]
   exact cont (n':=.plus n) rfl hp
  rw[if_neg h43] at hp
  have a2:=equ_f (a:=c) (b:=43) (by omega)
  by_cases h63:c=63
  ·subst h63
   rw[if_pos rfl] at hp
   have a3:=equ_t (a:=63) (b:=63) rfl
   simp -implicitDefEqProofs (disch:=first|assumption|omega|(simp only[gL,gA]<;>omega)|fail) only[gC,reduceIte,a0_,a1,a2,a3,hn,ho5]
   exact cont (n':=.opt n) rfl hp
  rw[if_neg h63] at hp
  have a3:=equ_f (a:=c) (b:=63) (by omega)
  by_cases h123:c=123
  ·subst h123
   rw[if_pos rfl] at hp
   cases htm:tms S (p+1) with
   |none=>rw[htm] at hp; cases hp
   |some x=>
   obtain ⟨a,b,q'⟩:=x
   rw[htm] at hp
   simp only at hp
   have a4:=equ_t (a:=123) (b:=123) rfl
   obtain ⟨H1,hH1⟩:∃H1,H1=H.set ro (.cells ⟨[.str S,I ((p:Int)+1),I d,I 0],0,0,false⟩):=⟨_,rfl⟩
   have r1:H1[ro]?=some (RD S (p+1) d):=by rw[hH1,List.getElem?_set_self hrl]; rfl
   have t1:H1[h.length]?=some Z5:=by rw[hH1,List.getElem?_set_ne (by omega)]; exact ht
   have x1:H1[no]?=some (.cells ⟨[I n.kind,I n.st,I n.lo,I n.hi,s5],0,0,false⟩):=by rw[hH1,List.getElem?_set_ne (by omega)]; exact hn
   have f1:FrS (fun o=>o=ro) h H1:=by rw[hH1]; exact a0Z fr _
   have l1:H1.length=H.length:=by rw[hH1]; simp
   have nv1:NVD H1 (fun o=>h.length<o/\o<H.length/\o≠no) n [I n.kind,I n.st,I n.lo,I n.hi,s5]:=by
    rw[hH1]
    exact nv.frs (FrS.set1 H ro _) (fun o h1 h2 h3=>by omega) fun _ _ z=>z
   simp -implicitDefEqProofs (disch:=first|assumption|omega|(simp only[gL,gA]<;>omega)|fail) only[gC,reduceIte,a0_,a1,a2,a3,a4,hr]
   rw[<-hH1]
   simp -implicitDefEqProofs (disch:=first|assumption|omega|(simp only[gL,gA]<;>omega)|fail) only[gC,reduceIte,hn]
   refine WP.call (b1x hS htm (by omega) r1 nv1 (fun o z=>by omega)) ?_
   rintro _ H3 ⟨f3,r3,c,rfl,nv3⟩
   obtain ⟨s6,rfl,ho6⟩:=nv3.inv
   have l3:=f3.len
   have x3:=(f3.get (o:=no) (by omega) (by omega)).trans x1
   have t3:=(f3.get (o:=h.length) (by omega) (by omega)).trans t1
   simp -implicitDefEqProofs (disch:=first|assumption|omega|(simp only[gL,gA]<;>omega)|fail) only[gC,reduceIte,x3,ho6]
   refine ih d q' (.rep a b n) m q h _ no _ hp hd hro (⟨by simp; have:=f1.len; omega,fun o h1 h2=>?_⟩) (by rw[List.getElem?_set_ne (by omega)]; exact r3) (by rw[List.getElem?_set_ne (by omega)]; exact t3) hno (List.getElem?_set_self (by omega)) ?_
   ·rw[List.getElem?_set_ne (by omega),f3.get h1 (by have:=f1.len; omega),f1.get h1 h2]
   ·exact nv3.frs (FrS.set1 H3 no _) (fun o h1 h2 h3=>by omega) fun o h1 h2=>by simp; omega
  ·rw[if_neg h123] at hp
   injection hp with hp
   injection hp with hp1 hp2
   subst hp2
   have a4:=equ_f (a:=c) (b:=123) (by omega)
   simp -implicitDefEqProofs (disch:=first|assumption|omega|(simp only[gL,gA]<;>omega)|fail) only[gC,reduceIte,a0_,a1,a2,a3,a4,hn,ho5,ht]
   exact WP.lv (WP.ret (stop hp1.symm)) fun i j=>rfl
theorem b2S (ha:AtS S ro f)(hl:PclS S ro f):PcS S ro (f+1):=by
 intro d p n q h hp hd hr
 refine WP.tot (fun k=>a1d k _ h) ?_
 have hro:=(List.getElem?_eq_some_iff.1 hr).1
 rw[prs] at hp
 cases hx:prs S f d .at p with
 |none=>rw[hx] at hp; cases hp
 |some x=>
 obtain ⟨n1,q1⟩:=x
 rw[hx] at hp
 simp only at hp
 have e1:Ext h (h++[Z5]):=Ext.push _ _
 have t1:(h++[Z5])[h.length]?=some Z5:=by simp
 have l1:(h++[Z5]).length=h.length+1:=by simp
 simp -implicitDefEqProofs (disch:=first|assumption|omega|(simp only[gL,gA]<;>omega)|fail) only[gC,reduceIte]
 refine WP.call (ha d p n1 q1 (h++[Z5]) hx hd (e1.get hr)) ?_
 rintro _ H2 ⟨f2,r2,c5,rfl,nv⟩
 obtain ⟨s5,rfl,ho5⟩:=nv.inv
 have l2:=f2.len
 have t2:=(f2.get (o:=h.length) (by omega) (by omega)).trans t1
 have e3:Ext H2 (H2++[AObj.cells ⟨[I n1.kind,I n1.st,I n1.lo,I n1.hi,s5],0,0,false⟩]):=Ext.push _ _
 simp -implicitDefEqProofs (disch:=first|assumption|omega|(simp only[gL,gA]<;>omega)|fail) only[gC,reduceIte,ho5,e0_]
 exact WP.ent (hl d q1 n1 n q h _ H2.length _ hp hd hro (((FrS.ofExt e1).trans f2).trans (FrS.ofExt e3)) (e3.get r2) (e3.get t2) (by omega) (by simp) (nv.ext e3 fun o h1 h2=>⟨by omega,by simp; omega,by omega⟩)) fun i=>rfl
end
end Go.Gm.AQ
namespace Go.Gm.AQ
open Go Go.Gm
section
variable {S:ByteArray} {ro:Nat} {f:Nat} {h H:Heap} {d p:Nat} {s:AV} {lg:Nat} {l:List Nd} {css:List (List AV)}
theorem NL.setR (a:NL S ro h H d p s lg l css){p' d':Nat}:NL S ro h (H.set ro (RD S p' d')) d' p' s lg l css:=by
 have h1:=a.hro
 have h2:=a.fr.len
 have h3:=a.lgl
 refine ⟨a.hro,a0Z a.fr _,List.getElem?_set_self (by omega),by rw[List.getElem?_set_ne (by omega)]; exact a.ht,a.gr.set (by omega) _,by simp; exact a.lgl,a.nn,a.nvs.frs (FrS.set1 H ro _) (fun o q1 q2 q3=>by omega) fun o q1 q2=>by simp; exact q2⟩
theorem NL.add (a:NL S ro h H d p s lg l css){H2:Heap}{n:Nd}{q:Nat}{v:AV}(pr:PR S ro H d n q v H2)(hl:css.length<=2000000) :
  ∃s5 s' H3,v=.agg [I n.kind,I n.st,I n.lo,I n.hi,s5]/\s5.one=true/\apnd 5 56 s (.sl H2.length 0 1 5 none 0) (H2++[.cells ⟨[I n.kind,I n.st,I n.lo,I n.hi,s5],0,0,false⟩])=some (s',H3)/\NL S ro h H3 d q s' lg (l++[n]) (css++[[I n.kind,I n.st,I n.lo,I n.hi,s5]]):=by
 obtain ⟨f2,r2,c5,rfl,nv⟩:=pr
 obtain ⟨s5,rfl,ho5⟩:=nv.inv
 have h1:=a.hro
 have h2:=a.fr.len
 have h3:=a.lgl
 have h4:=f2.len
 have htl:=(List.getElem?_eq_some_iff.1 a.ht).1
 have g2:Gr lg (lg+1) H2 5 s css:=Gr.frs' a.gr f2 fun _ z=>by omega
 have t2:=(f2.get (o:=h.length) (by omega) (by omega)).trans a.ht
 have n2:=a.nvs.frs f2 (D':=fun o=>h.length<o/\o<H.length/\o≠lg) (fun o q1 q2 q3=>by omega) fun _ _ z=>z
 have e3:Ext H2 (H2++[AObj.cells ⟨[I n.kind,I n.st,I n.lo,I n.hi,s5],0,0,false⟩]):=Ext.push _ _
 have hl3:(H2++[AObj.cells ⟨[I n.kind,I n.st,I n.lo,I n.hi,s5],0,0,false⟩]).length=H2.length+1:=by simp
 obtain ⟨s',H3,lg',m1,m2,m3,m4,m5⟩:=Gr.appQ (bytes:=56) (g2.ext e3) (fun _=>by omega) (Gr.lit (sz:=5) (v:=[I n.kind,I n.st,I n.lo,I n.hi,s5]) rfl).sl (by omega) (by omega) (by simp; omega)
 obtain rfl:=m5 a.nn
 have hs':s'≠.nils:=m2.nnil (by simp)
 have h5:=m4.len
 refine ⟨s5,s',H3,rfl,ho5,m1,a.hro,⟨by omega,fun o q1 q2=>?_⟩,(m4.get (by omega) (by omega)).trans (e3.get r2),(m4.get (by omega) (by omega)).trans (e3.get t2),m2,by omega,hs',NVDs.snoc (n:=n) (cs:=[I n.kind,I n.st,I n.lo,I n.hi,s5]) ?_ ?_⟩
 ·rw[m4.get (by omega) (by omega),(a0d.1 e3).2 o (by omega),f2.get q1 (by omega),a.fr.get q1 q2]
 ·exact (nv.ext e3 (D':=fun o=>H.length<=o/\o<H2.length) fun _ _ z=>z).frs m4 (fun o q1 q2 q3=>by omega) fun o q1 q2=>by omega
 ·exact (n2.frs (E:=fun _=>False) (FrS.ofExt e3) (fun _ _ _ z=>z) (D':=fun o=>h.length<o/\o<H.length/\o≠lg') fun _ _ z=>z).frs m4 (fun o q1 q2 q3=>by omega) fun o q1 q2=>by omega
theorem NL.one {H2:Heap}{n:Nd}{q:Nat}{v:AV}(hr:h[ro]?=some (RD S p d))(pr:PR S ro (h++[Z5]) d n q v H2) :
  ∃s5,v=.agg [I n.kind,I n.st,I n.lo,I n.hi,s5]/\s5.one=true/\NL S ro h (H2++[.cells ⟨[I n.kind,I n.st,I n.lo,I n.hi,s5],0,0,false⟩]) d q (.sl H2.length 0 1 5 none 0) H2.length [n] [[I n.kind,I n.st,I n.lo,I n.hi,s5]]:=by
 obtain ⟨f2,r2,c5,rfl,nv⟩:=pr
 obtain ⟨s5,rfl,ho5⟩:=nv.inv
 have hro:=(List.getElem?_eq_some_iff.1 hr).1
 have e1:Ext h (h++[Z5]):=Ext.push _ _
 have l1:(h++[Z5]).length=h.length+1:=by simp
 have l2:=f2.len
 have t1:(h++[Z5])[h.length]?=some Z5:=by simp
 have e3:Ext H2 (H2++[AObj.cells ⟨[I n.kind,I n.st,I n.lo,I n.hi,s5],0,0,false⟩]):=Ext.push _ _
 refine ⟨s5,rfl,ho5,hro,((FrS.ofExt e1).trans f2).trans (FrS.ofExt e3),e3.get r2,e3.get ((f2.get (by omega) (by omega)).trans t1),Gr.lit (sz:=5) rfl,⟨by omega,by simp⟩,by simp,.cons (nv.ext e3 fun o q1 q2=>⟨by omega,by simp; omega,by omega⟩) .nil⟩
theorem NL.fin1 (a:NL S ro h H d p s lg l css){n:Nd}(hl:l=[n]):∃s5,css=[[I n.kind,I n.st,I n.lo,I n.hi,s5]]/\s5.one=true/\PR S ro h d n p (.agg [I n.kind,I n.st,I n.lo,I n.hi,s5]) (H.set h.length (.cells ⟨[I n.kind,I n.st,I n.lo,I n.hi,s5],0,0,false⟩)):=by
 have hn:=a.nvs
 rw[hl] at hn
 cases hn with
 |cons x y=>
  cases y
  obtain ⟨s5,rfl,ho5⟩:=x.inv
  exact ⟨s5,rfl,ho5,PR.fin a.hro a.fr a.hr (x.frs (FrS.refl (fun _=>False) _) (fun _ _ _ z=>z) fun o q1 q2=>⟨q2.1,q1⟩)⟩
theorem NL.finL (a:NL S ro h H d p s lg l css){n:Nd}(hk:n.kids=l)(h1:n.st=0)(h2:n.lo=0)(h3:n.hi=0):PR S ro h d n p (.agg [I n.kind,I 0,I 0,I 0,s]) (H.set h.length (.cells ⟨[I n.kind,I 0,I 0,I 0,s],0,0,false⟩)):=by
 have:=a.lgl
 have nv:NVD H (fun o=>h.length<o/\o<H.length) n [I n.kind,I n.st,I n.lo,I n.hi,s]:=.mk a.gr.sl (fun z=>by have:=a.gr.objIn z; omega) (by rw[hk]; exact a.nvs.frs (FrS.refl (fun _=>False) _) (fun _ _ _ z=>z) fun o q1 q2=>⟨q2.1,q1⟩)
 rw[h1,h2,h3] at nv
 exact PR.fin a.hro a.fr a.hr nv
theorem a6h (a:NL S ro h H d p s lg l css)(hl:l≠[]):WP (fun i:Nat=>l8_ i (.ptr h.length 0 5 0) s H) (PR S ro h d (finJ l) p):=by
 refine WP.congr (fun i=>a0M i (.ptr h.length 0 5 0) s H) ?_
 have ht:=a.ht
 have htl:=(List.getElem?_eq_some_iff.1 ht).1
 have sl':Sl H 5 s (css.map fun x=>x):=by rw[List.map_id']; exact a.gr.sl
 have hln:=a.nvs.len
 have hso:=a.gr.sl.one
 have hsc:=a.gr.sl.cells
 match l,hl with
 |[n],_=>
  obtain ⟨s5,rfl,ho5,res⟩:=a.fin1 rfl
  have e0:=Ext.refl H
  have hg:gi [[I n.kind,I n.st,I n.lo,I n.hi,s5]] (0:Int)=[I n.kind,I n.st,I n.lo,I n.hi,s5]:=rfl
  simp -implicitDefEqProofs (maxSteps:=1000000) (disch:=first|assumption|omega|(simp only[gL]<;>omega)|((repeat (first|exact Ext.refl _|assumption|apply Ext.app|apply Ext.mk|(refine Ext.setr ?_ (by (first|omega|(simp only[gL]<;>omega))) _))); done)|(simp only[gL,gA,sl'.lenG,sl'.idxG,sl'.ldN,hg,ho5,ht]<;>omega)|fail) only[gB,setAll,partL,fldV,reduceIte,Nat.reduceAdd,Nat.reduceMul,sl'.lenG,sl'.idxG,sl'.ldN,hg,ho5,ht]
  exact WP.ret res
 |n1::n2::r,_=>
  have h2:2<=css.length:=by rw[<-hln]; simp
  simp -implicitDefEqProofs (maxSteps:=1000000) (disch:=first|assumption|omega|(simp only[gL]<;>omega)|((repeat (first|exact Ext.refl _|assumption|apply Ext.app|apply Ext.mk|(refine Ext.setr ?_ (by (first|omega|(simp only[gL]<;>omega))) _))); done)|(simp only[gL,gA,sl'.lenG,hso,hsc,ht]<;>omega)|fail) only[gB,setAll,partL,fldV,reduceIte,Nat.reduceAdd,Nat.reduceMul,sl'.lenG,hso,hsc,ht]
  exact WP.ret (a.finL (n:=.join (n1::n2::r)) rfl rfl rfl rfl)
theorem a7M (a:NL S ro h H d p s lg l css)(hl:l≠[]):WP (fun i:Nat=>k5_ i (.ptr h.length 0 5 0) s H) (PR S ro h d (finU l) p):=by
 refine WP.congr (fun i=>a0t i (.ptr h.length 0 5 0) s H) ?_
 have ht:=a.ht
 have htl:=(List.getElem?_eq_some_iff.1 ht).1
 have sl':Sl H 5 s (css.map fun x=>x):=by rw[List.map_id']; exact a.gr.sl
 have hln:=a.nvs.len
 have hso:=a.gr.sl.one
 have hsc:=a.gr.sl.cells
 match l,hl with
 |[n],_=>
  obtain ⟨s5,rfl,ho5,res⟩:=a.fin1 rfl
  have e0:=Ext.refl H
  have hg:gi [[I n.kind,I n.st,I n.lo,I n.hi,s5]] (0:Int)=[I n.kind,I n.st,I n.lo,I n.hi,s5]:=rfl
  simp -implicitDefEqProofs (maxSteps:=1000000) (disch:=first|assumption|omega|(simp only[gL]<;>omega)|((repeat (first|exact Ext.refl _|assumption|apply Ext.app|apply Ext.mk|(refine Ext.setr ?_ (by (first|omega|(simp only[gL]<;>omega))) _))); done)|(simp only[gL,gA,sl'.lenG,sl'.idxG,sl'.ldN,hg,ho5,ht]<;>omega)|fail) only[gB,setAll,partL,fldV,reduceIte,Nat.reduceAdd,Nat.reduceMul,sl'.lenG,sl'.idxG,sl'.ldN,hg,ho5,ht]
  exact WP.ret res
 |n1::n2::r,_=>
  have h2:2<=css.length:=by rw[<-hln]; simp
  simp -implicitDefEqProofs (maxSteps:=1000000) (disch:=first|assumption|omega|(simp only[gL]<;>omega)|((repeat (first|exact Ext.refl _|assumption|apply Ext.app|apply Ext.mk|(refine Ext.setr ?_ (by (first|omega|(simp only[gL]<;>omega))) _))); done)|(simp only[gL,gA,sl'.lenG,hso,hsc,ht]<;>omega)|fail) only[gB,setAll,partL,fldV,reduceIte,Nat.reduceAdd,Nat.reduceMul,sl'.lenG,hso,hsc,ht]
  exact WP.ret (a.finL (n:=.uni (n1::n2::r)) rfl rfl rfl rfl)
end
section
variable {S:ByteArray} {ro:Nat} {f:Nat}
theorem b1A (hp:PcS S ro f)(ih:JnlS S ro f):JnlS S ro (f+1):=by
 intro d p l m q h H s lg css hx hd hl hlf a
 refine WP.rnd (fun i' j=>a0N i' j (.ptr ro 0 4 0) (.ptr h.length 0 5 0) s H) ?_
 rw[prs] at hx
 cases hb:bt S p with
 |none=>
  rw[hb] at hx
  injection hx with hx
  injection hx with hx1 hx2
  subst hx1 hx2
  refine WP.call (a7J a.hr hb) ?_
  rintro _ _ ⟨rfl,rfl⟩
  simp -implicitDefEqProofs (disch:=first|assumption|omega|(simp only[gL,gA]<;>omega)|fail) only[gC,reduceIte,a0_]
  exact WP.lv (a6h a hl) fun i j=>rfl
 |some c=>
  rw[hb] at hx
  simp only at hx
  refine WP.call (a0Y a.hr hb) ?_
  rintro _ _ ⟨rfl,rfl⟩
  by_cases h124:c=124
  ·subst h124
   rw[if_pos rfl] at hx
   injection hx with hx
   injection hx with hx1 hx2
   subst hx1 hx2
   have a1:=equ_t (a:=124) (b:=124) rfl
   simp -implicitDefEqProofs (disch:=first|assumption|omega|(simp only[gL,gA]<;>omega)|fail) only[gC,reduceIte,a0_,a1]
   exact WP.lv (a6h a hl) fun i j=>rfl
  rw[if_neg h124] at hx
  have a1:=equ_f (a:=c) (b:=124) (by omega)
  by_cases h41:c=41
  ·subst h41
   rw[if_pos rfl] at hx
   injection hx with hx
   injection hx with hx1 hx2
   subst hx1 hx2
   have a2:=equ_t (a:=41) (b:=41) rfl
   simp -implicitDefEqProofs (disch:=first|assumption|omega|(simp only[gL,gA]<;>omega)|fail) only[gC,reduceIte,a0_,a1,a2]
   exact WP.lv (a6h a hl) fun i j=>rfl
  rw[if_neg h41] at hx
  have a2:=equ_f (a:=c) (b:=41) (by omega)
  cases hy:prs S f d .pc p with
  |none=>rw[hy] at hx; cases hx
  |some y=>
  obtain ⟨n,q'⟩:=y
  rw[hy] at hx
  simp only at hx
  simp -implicitDefEqProofs (disch:=first|assumption|omega|(simp only[gL,gA]<;>omega)|fail) only[gC,reduceIte,a0_,a1,a2]
  refine WP.call (hp d p n q' H hy hd a.hr) ?_
  rintro v H2 hv
  have hln:=a.nvs.len
  obtain ⟨s5,s',H3,rfl,ho5,m1,a'⟩:=a.add hv (by omega)
  simp -implicitDefEqProofs (disch:=first|assumption|omega|(simp only[gL,gA]<;>omega)|fail) only[gC,reduceIte,ho5,m1]
  exact ih d q' (l++[n]) m q h H3 s' lg _ hx hd (by simp) (by simp; omega) a'
theorem b2T (hp:PcS S ro f)(hl:JnlS S ro f)(hf:f<=900000):JnS S ro (f+1):=by
 intro d p n q h hx hd hr
 refine WP.tot (fun k=>a1s k _ h) ?_
 rw[prs] at hx
 cases hy:prs S f d .pc p with
 |none=>rw[hy] at hx; cases hx
 |some y=>
 obtain ⟨n1,q1⟩:=y
 rw[hy] at hx
 simp only at hx
 have e1:Ext h (h++[Z5]):=Ext.push _ _
 simp -implicitDefEqProofs (disch:=first|assumption|omega|(simp only[gL,gA]<;>omega)|fail) only[gC,reduceIte]
 refine WP.call (hp d p n1 q1 (h++[Z5]) hy hd (e1.get hr)) ?_
 rintro v H2 hv
 obtain ⟨s5,rfl,ho5,a⟩:=NL.one hr hv
 simp -implicitDefEqProofs (disch:=first|assumption|omega|(simp only[gL,gA]<;>omega)|fail) only[gC,reduceIte,ho5]
 exact WP.ent (hl d q1 [n1] n q h _ _ _ _ hx hd (by simp) (by simp; omega) a) fun i=>rfl
theorem b1B (hp:JnS S ro f)(ih:UnlS S ro f)(hS:S.size<=200):UnlS S ro (f+1):=by
 intro d p l m q h H s lg css hx hd hl hlf a
 refine WP.rnd (fun i' j=>a0u i' j (.ptr ro 0 4 0) (.ptr h.length 0 5 0) s H) ?_
 rw[prs] at hx
 cases hb:bt S p with
 |none=>
  rw[hb] at hx
  injection hx with hx
  injection hx with hx1 hx2
  subst hx1 hx2
  refine WP.call (a7J a.hr hb) ?_
  rintro _ _ ⟨rfl,rfl⟩
  simp -implicitDefEqProofs (disch:=first|assumption|omega|(simp only[gL,gA]<;>omega)|fail) only[gC,reduceIte,a0_]
  exact WP.lv (a7M a hl) fun i j=>rfl
 |some c=>
  rw[hb] at hx
  simp only at hx
  have hlt:=bt_lt hb
  refine WP.call (a0Y a.hr hb) ?_
  rintro _ _ ⟨rfl,rfl⟩
  by_cases h124:c=124
  ·subst h124
   rw[if_pos rfl] at hx
   have a1:=neu_f (a:=124) (b:=124) rfl
   cases hy:prs S f d .jn (p+1) with
   |none=>rw[hy] at hx; cases hx
   |some y=>
   obtain ⟨n,q'⟩:=y
   rw[hy] at hx
   simp only at hx
   have hr:=a.hr
   have aR:=a.setR (p':=p+1) (d':=d)
   obtain ⟨H1,hH1⟩:∃H1,H1=H.set ro (.cells ⟨[.str S,I ((p:Int)+1),I d,I 0],0,0,false⟩):=⟨_,rfl⟩
   have hR:H.set ro (RD S (p+1) d)=H1:=by rw[hH1]; rfl
   rw[hR] at aR
   simp -implicitDefEqProofs (disch:=first|assumption|omega|(simp only[gL,gA]<;>omega)|fail) only[gC,reduceIte,a0_,a1,hr]
   rw[<-hH1]
   refine WP.call (hp d (p+1) n q' H1 hy hd aR.hr) ?_
   rintro v H2 hv
   have hln:=a.nvs.len
   obtain ⟨s5,s',H3,rfl,ho5,m1,a'⟩:=aR.add hv (by omega)
   simp -implicitDefEqProofs (disch:=first|assumption|omega|(simp only[gL,gA]<;>omega)|fail) only[gC,reduceIte,ho5,m1]
   exact ih d q' (l++[n]) m q h H3 s' lg _ hx hd (by simp) (by simp; omega) a'
  ·rw[if_neg h124] at hx
   injection hx with hx
   injection hx with hx1 hx2
   subst hx1 hx2
   have a1:=neu_t (a:=c) (b:=124) (by omega)
   simp -implicitDefEqProofs (disch:=first|assumption|omega|(simp only[gL,gA]<;>omega)|fail) only[gC,reduceIte,a0_,a1]
   exact WP.lv (a7M a hl) fun i j=>rfl
theorem b2U (hp:JnS S ro f)(hl:UnlS S ro f)(hf:f<=900000):UnS S ro (f+1):=by
 intro d p n q h hx hd hr
 refine WP.tot (fun k=>a1a k _ h) ?_
 rw[prs] at hx
 cases hy:prs S f d .jn p with
 |none=>rw[hy] at hx; cases hx
 |some y=>
 obtain ⟨n1,q1⟩:=y
 rw[hy] at hx
 simp only at hx
 have e1:Ext h (h++[Z5]):=Ext.push _ _
 simp -implicitDefEqProofs (disch:=first|assumption|omega|(simp only[gL,gA]<;>omega)|fail) only[gC,reduceIte]
 refine WP.call (hp d p n1 q1 (h++[Z5]) hy hd (e1.get hr)) ?_
 rintro v H2 hv
 obtain ⟨s5,rfl,ho5,a⟩:=NL.one hr hv
 simp -implicitDefEqProofs (disch:=first|assumption|omega|(simp only[gL,gA]<;>omega)|fail) only[gC,reduceIte,ho5]
 exact WP.ent (hl d q1 [n1] n q h _ _ _ _ hx hd (by simp) (by simp; omega) a) fun i=>rfl
theorem b2V (hS:S.size<=200):∀f,f<=900000->AtS S ro f/\PcS S ro f/\PclS S ro f/\JnS S ro f/\JnlS S ro f/\UnS S ro f/\UnlS S ro f:=by
 intro f
 induction f with
 |zero=>
  intro _
  refine ⟨?_,?_,?_,?_,?_,?_,?_⟩
  ·intro d p n q h hx; simp[prs] at hx
  ·intro d p n q h hx; simp[prs] at hx
  ·intro d p n m q h H no c5 hx; simp[prs] at hx
  ·intro d p n q h hx; simp[prs] at hx
  ·intro d p l m q h H s lg css hx; simp[prs] at hx
  ·intro d p n q h hx; simp[prs] at hx
  ·intro d p l m q h H s lg css hx; simp[prs] at hx
 |succ f ih=>
  intro hf
  obtain ⟨i1,i2,i3,i4,i5,i6,i7⟩:=ih (by omega)
  exact ⟨b2R i6 hS,b2S i1 i3,b1z i3 hS,b2T i2 i5 (by omega),b1A i2 i5,b2U i4 i7 (by omega),b1B i4 i7 hS⟩
end
theorem b1C {S:ByteArray}{f:Nat}{n:Nd}(hS:S.size<=200)(hf:f<=900000)(hp:prs S f 0 .un 0=some (n,S.size))(h:Heap) :
  Tot tab m9_ [.str S] h fun v h'=>Ext h h'/\∃c5,v=.tup [.agg c5,I 0,I 0]/\NVD h' (fun o=>h.length<=o/\o<h'.length) n c5:=by
 refine WP.tot (fun k=>a3m k _ h) ?_
 have hlb:lenB (.str S)=some (I S.size):=rfl
 have e1:Ext h ((h++[Z5])++[RD S 0 0]):=by ((repeat (first|exact Ext.refl _|assumption|apply Ext.app|apply Ext.mk|(refine Ext.setr ?_ (by (first|omega|(simp only[gL]<;>omega))) _))))
 have hl1:((h++[Z5])++[RD S 0 0]).length=h.length+2:=by simp
 simp -implicitDefEqProofs (disch:=first|assumption|omega|(simp only[gL,gA]<;>omega)|fail) only[gC,reduceIte,hlb]
 have hU:=(b2V (ro:=h.length+1) hS f hf).2.2.2.2.2.1
 refine WP.call (hU 0 0 n S.size ((h++[Z5])++[RD S 0 0]) hp (by omega) (by simp)) ?_
 rintro v H2 ⟨f2,r2,c5,rfl,nv⟩
 obtain ⟨s5,rfl,ho5⟩:=nv.inv
 have l2:=f2.len
 have t2:=(f2.get (o:=h.length) (by omega) (by omega)).trans (show ((h++[Z5])++[RD S 0 0])[h.length]?=some Z5 by simp)
 have e3:Ext H2 (H2++[AObj.cells ⟨[I n.kind,I n.st,I n.lo,I n.hi,s5],0,0,false⟩]):=Ext.push _ _
 have r3:=e3.get r2
 have t3:=e3.get t2
 have x3:(H2++[AObj.cells ⟨[I n.kind,I n.st,I n.lo,I n.hi,s5],0,0,false⟩])[H2.length]?=some (.cells ⟨[I n.kind,I n.st,I n.lo,I n.hi,s5],0,0,false⟩):=by simp
 have l3:=e3.len
 have nv3:=nv.ext e3 (D':=fun o=>h.length<o/\o<H2.length) fun o q1 q2=>by omega
 have f3:FrS (fun o=>o=h.length+1) ((h++[Z5])++[RD S 0 0]) (H2++[AObj.cells ⟨[I n.kind,I n.st,I n.lo,I n.hi,s5],0,0,false⟩]):=f2.trans (FrS.ofExt e3)
 simp -implicitDefEqProofs (disch:=first|assumption|omega|(simp only[gL,gA]<;>omega)|fail) only[gC,reduceIte,ho5,e0_]
 generalize H2++[AObj.cells ⟨[I n.kind,I n.st,I n.lo,I n.hi,s5],0,0,false⟩]=H3 at *
 simp -implicitDefEqProofs (disch:=first|assumption|omega|(simp only[gL,gA]<;>omega)|fail) only[gC,reduceIte,r2,r3,hlb]
 refine WP.congr (fun i=>a2d i _ _ _ H3) ?_
 simp -implicitDefEqProofs (disch:=first|assumption|omega|(simp only[gL,gA]<;>omega)|fail) only[gC,reduceIte,r3,x3,ho5,t3]
 have e4:Ext h H3:=f3.ext e1 fun o q1 q2=>by omega
 refine WP.ret ⟨e4.set (Nat.le_refl _) _,_,rfl,nv3.frs (FrS.set1 H3 h.length _) (fun o q1 q2 q3=>by omega) fun o q1 q2=>by simp; omega⟩
end Go.Gm.AQ
namespace Go.Gm
structure Po (b:NS):Prop where
 st:∀x∈b.st,x.1<b.n/\x.2.1<b.n
 fr:∀x∈b.fr,x.1<b.n/\x.2<b.n
def Pf (n:Nat)(l:List (Nat × Nat)):Prop:=∀f∈l,f.1<n/\f.2<n
theorem Po.mono {b:NS}(p:Po b){n:Nat}{m:Bool}(h:b.n<=n):Po ⟨n,m,b.st,b.fr⟩:=
 ⟨fun x hx=>by have:=p.st x hx; simp only; omega,fun x hx=>by have:=p.fr x hx; simp only; omega⟩
theorem Pf.mono {a b:Nat}{l:List (Nat × Nat)}(p:Pf a l)(h:a<=b):Pf b l:=fun f hf=>by have:=p f hf; omega
theorem a7N {b:NS}(p:Po b):Po b.state.2/\b.n<=b.state.2.n/\(b.state.2.much=false->b.state.1<b.state.2.n/\b.much=false):=by
 rw[NS.state]
 split
 ·exact ⟨p.mono (Nat.le_refl _),Nat.le_refl _,fun z=>by cases z⟩
 ·exact ⟨p.mono (Nat.le_succ _),Nat.le_succ _,fun z=>⟨Nat.lt_succ_self _,z⟩⟩
def PoP (g:NS->List (Nat × Nat) × NS):Prop:=∀b,Po b->Po (g b).2/\b.n<=(g b).2.n/\((g b).2.much=false->Pf (g b).2.n (g b).1/\b.much=false)
def PoN (n:Nd):Prop:=∀b,Po b->Po (NS.part n b).2/\b.n<=(NS.part n b).2.n/\((NS.part n b).2.much=false->((NS.part n b).1.1<(NS.part n b).2.n/\(NS.part n b).1.2<(NS.part n b).2.n)/\b.much=false)
theorem a3K:PoP (fun b=>([],b)):=fun b p=>⟨p,Nat.le_refl _,fun z=>⟨fun f hf=>by simp at hf,z⟩⟩
theorem a8O {x:(Nat × Nat) × NS}{y:List (Nat × Nat) × NS}{b:NS}(h:x.2.n<=y.2.n)(h1:x.2.much=false->(x.1.1<x.2.n/\x.1.2<x.2.n)/\b.much=false)(h2:y.2.much=false->Pf y.2.n y.1/\x.2.much=false)(z:y.2.much=false):Pf y.2.n (x.1::y.1)/\b.much=false:=by
 obtain ⟨p,q⟩:=h2 z
 obtain ⟨r,s⟩:=h1 q
 refine ⟨fun f hf=>?_,s⟩
 rcases List.mem_cons.1 hf with rfl|hf
 ·omega
 ·exact p f hf
theorem a5w:∀(l:List Nd),(∀c∈l,PoN c)->PoP (NS.parts l)
 |[],_=>fun b p=>by rw[NS.parts]; exact a3K b p
 |n::l,h=>fun b p=>by
  rw[NS.parts]
  split
  ·rename_i q; exact ⟨p,Nat.le_refl _,fun z=>by rw[q] at z; cases z⟩
  ·obtain ⟨a1,a2,a3⟩:=h n (by simp) b p
   obtain ⟨b1,b2,b3⟩:=a5w l (fun c hc=>h c (List.mem_cons_of_mem _ hc)) _ a1
   exact ⟨b1,Nat.le_trans a2 b2,a8O b2 a3 b3⟩
theorem a2I {n:Nd}(h:PoN n):∀k,PoP (NS.times (NS.part n) k)
 |0=>fun b p=>by rw[NS.times]; exact a3K b p
 |k+1=>fun b p=>by
  rw[NS.times]
  split
  ·rename_i q; exact ⟨p,Nat.le_refl _,fun z=>by rw[q] at z; cases z⟩
  ·obtain ⟨a1,a2,a3⟩:=h b p
   obtain ⟨b1,b2,b3⟩:=a2I h k _ a1
   exact ⟨b1,Nat.le_trans a2 b2,a8O b2 a3 b3⟩
theorem hd_lt {N:Nat}{l:List (Nat × Nat)}(p:Pf N l)(h:0<N):(NS.hd l).1<N/\(NS.hd l).2<N:=by
 cases l with
 |nil=>exact ⟨h,h⟩
 |cons f l=>exact p f (by simp)
theorem a8P {N lo e:Nat}(he:e<N):∀(l:List (Nat × Nat)) (i:Nat),Pf N l->Pf N (NS.repE lo e i l)
 |[],i,_=>fun f hf=>by simp[NS.repE] at hf
 |[x],i,p=>fun f hf=>by
  have:=p x (by simp)
  obtain rfl:=List.mem_singleton.1 hf
  exact ⟨this.2,he⟩
 |x::y::l,i,p=>fun f hf=>by
  have hx:=p x (by simp)
  have hy:=p y (by simp)
  simp only[NS.repE] at hf
  rcases List.mem_append.1 hf with hf|hf
  ·split at hf
   ·obtain rfl:=List.mem_singleton.1 hf; exact ⟨hx.2,he⟩
   ·simp at hf
  ·rcases List.mem_cons.1 hf with rfl|hf
   ·exact ⟨hx.2,hy.1⟩
   ·exact a8P he (y::l) (i+1) (fun g hg=>p g (List.mem_cons_of_mem _ hg)) f hf
theorem a7O {N:Nat}:∀(l:List (Nat × Nat)),Pf N l->Pf N (NS.joinE l)
 |[],_=>fun f hf=>by simp[NS.joinE] at hf
 |[x],_=>fun f hf=>by simp[NS.joinE] at hf
 |x::y::l,p=>fun f hf=>by
  have hx:=p x (by simp)
  have hy:=p y (by simp)
  simp only[NS.joinE] at hf
  rcases List.mem_cons.1 hf with rfl|hf
  ·exact ⟨hx.2,hy.1⟩
  ·exact a7O (y::l) (fun g hg=>p g (List.mem_cons_of_mem _ hg)) f hf
theorem b2W {N s e:Nat}(hs:s<N)(he:e<N)(l:List (Nat × Nat))(p:Pf N l):Pf N (NS.uniE s e l):=fun f hf=>by
 simp only[NS.uniE,List.mem_flatMap] at hf
 obtain ⟨x,hx,hf⟩:=hf
 have:=p x hx
 simp only[List.mem_cons,List.not_mem_nil,or_false] at hf
 rcases hf with rfl|rfl
 ·exact ⟨hs,this.1⟩
 ·exact ⟨this.2,he⟩
theorem Po.frees {b:NS}(p:Po b){l:List (Nat × Nat)}(h:Pf b.n l):Po (b.frees l):=⟨p.st,fun x hx=>by
 rcases List.mem_append.1 hx with hx|hx
 ·exact p.fr x hx
 ·exact h x hx⟩
theorem b2X {b:NS}(p:Po b){s e:Nat}(hs:s<b.n)(he:e<b.n){l:List (Nat × Nat)}(hl:Pf b.n l)(n:Nd):Po (b.lead s e l n):=by
 obtain ⟨h1,h2⟩:=hd_lt hl (by omega)
 have ev:∀{x:List (Nat × Nat)},(∀f∈x,f=(s,(NS.hd l).1)\/f=(s,e)\/f=((NS.hd l).2,(NS.hd l).1)\/f=((NS.hd l).2,e))->Pf b.n x:=fun h f hf=>by
  rcases h f hf with rfl|rfl|rfl|rfl<;>exact ⟨by assumption,by assumption⟩
 cases n with
 |set k=>exact ⟨fun x hx=>by
   rcases List.mem_append.1 hx with hx|hx
   ·exact p.st x hx
   ·obtain rfl:=List.mem_singleton.1 hx; exact ⟨hs,he⟩,p.fr⟩
 |eps=>exact p.frees (ev (by simp))
 |uni _=>exact p.frees (b2W hs he l hl)
 |star _=>exact p.frees (ev (by simp))
 |plus _=>exact p.frees (ev (by simp))
 |opt _=>exact p.frees (ev (by simp))
 |rep lo hi _=>
  refine p.frees fun f hf=>?_
  rcases List.mem_append.1 hf with hf|hf
  ·rcases List.mem_append.1 hf with hf|hf
   ·split at hf
    ·obtain rfl:=List.mem_singleton.1 hf; exact ⟨hs,h1⟩
    ·simp at hf
   ·exact a8P he l 0 hl f hf
  ·split at hf
   ·obtain rfl:=List.mem_singleton.1 hf; exact ⟨hs,he⟩
   ·simp at hf
 |emp=>exact p
 |join _=>exact p
theorem u9_ {n:Nd}{g:NS->List (Nat × Nat) × NS}(hp:PoP g)(b:NS)(p:Po b):Po (NS.around n g b).2/\b.n<=(NS.around n g b).2.n/\((NS.around n g b).2.much=false->((NS.around n g b).1.1<(NS.around n g b).2.n/\(NS.around n g b).1.2<(NS.around n g b).2.n)/\b.much=false):=by
 simp only[NS.around]
 split
 ·rename_i q; exact ⟨p,Nat.le_refl _,fun z=>by rw[q] at z; cases z⟩
 ·rename_i hb
  rw[Bool.not_eq_true] at hb
  obtain ⟨a1,a2,a3⟩:=a7N p
  obtain ⟨b1,b2,b3⟩:=hp _ a1
  obtain ⟨c1,c2,c3⟩:=a7N b1
  simp only
  split
  ·rename_i q; exact ⟨c1,by omega,fun z=>by rw[q] at z; cases z⟩
  ·rename_i q
   rw[Bool.not_eq_true] at q
   obtain ⟨d1,d2⟩:=c3 q
   obtain ⟨f1,f2⟩:=b3 d2
   obtain ⟨g1,_⟩:=a3 f2
   have hs:b.state.1<(g b.state.2).2.state.2.n:=by omega
   have ln:((g b.state.2).2.state.2.lead b.state.1 (g b.state.2).2.state.1 (g b.state.2).1 n).n=(g b.state.2).2.state.2.n:=by cases n<;>rfl
   exact ⟨b2X c1 hs d1 (f1.mono c2) n,by rw[ln]; omega,fun _=>⟨⟨by rw[ln]; exact hs,by rw[ln]; exact d1⟩,hb⟩⟩
theorem po_n (n:Nd):Gd n->PoN n:=by
 refine Nd.ind (p:=fun n=>Gd n->PoN n) (fun n ih g=>?_) n
 have k:∀c∈n.kids,PoN c:=fun c hc=>ih c hc (g.kid c hc)
 cases n with
 |set s=>intro b p; rw[NS.part]; exact u9_ a3K b p
 |emp=>intro b p; rw[NS.part]; exact u9_ a3K b p
 |eps=>intro b p; rw[NS.part]; exact u9_ a3K b p
 |uni l=>intro b p; rw[NS.part]; exact u9_ (a5w l k) b p
 |star c=>intro b p; rw[NS.part]; exact u9_ (a2I (k c (by simp[Nd.kids])) 1) b p
 |plus c=>intro b p; rw[NS.part]; exact u9_ (a2I (k c (by simp[Nd.kids])) 1) b p
 |opt c=>intro b p; rw[NS.part]; exact u9_ (a2I (k c (by simp[Nd.kids])) 1) b p
 |rep lo hi c=>intro b p; rw[NS.part]; exact u9_ (a2I (k c (by simp[Nd.kids])) hi) b p
 |join l=>
  intro b p
  have hl:2<=l.length:=g.rt
  rw[NS.part]
  simp only[NS.joined]
  obtain ⟨b1,b2,b3⟩:=a5w l k b p
  split
  ·rename_i q; exact ⟨p,Nat.le_refl _,fun z=>by rw[q] at z; cases z⟩
  ·split
   ·rename_i q; exact ⟨b1,b2,fun z=>by rw[q] at z; cases z⟩
   ·rename_i hb q
    rw[Bool.not_eq_true] at q hb
    obtain ⟨f1,f2⟩:=b3 q
    refine ⟨b1.frees (a7O _ f1),b2,fun _=>⟨?_,hb⟩⟩
    have hn:(NS.parts l b).1≠[]:=by
     obtain ⟨x,l',rfl⟩:∃x l',l=x::l':=by
      cases l with
      |nil=>simp at hl
      |cons x l'=>exact ⟨x,l',rfl⟩
     rw[NS.parts,if_neg (by rw[hb]; decide)]
     simp
    obtain ⟨x,l',hx⟩:∃x l',(NS.parts l b).1=x::l':=by
     cases hq:(NS.parts l b).1 with
     |nil=>exact absurd hq hn
     |cons x l'=>exact ⟨x,l',rfl⟩
    have h1:=f1 x (by rw[hx]; simp)
    have h2:(NS.parts l b).1.getLastD (0,0)∈(NS.parts l b).1:=by
     rw[List.getLastD_eq_getLast?,List.getLast?_eq_some_getLast hn]
     exact List.getLast_mem hn
    have h3:=f1 _ h2
    exact ⟨by rw[hx]; exact h1.1,h3.2⟩
theorem b3J {n:Nd}(g:Gd n){nf:NF}(h:nfaF n=some nf):NfOk nf:=by
 simp only[nfaF] at h
 split at h
 ·cases h
 ·rename_i q
  rw[Bool.not_eq_true] at q
  injection h with h
  subst h
  obtain ⟨p1,p2,p3⟩:=po_n n g NS.new ⟨fun x hx=>by simp[NS.new] at hx,fun x hx=>by simp[NS.new] at hx⟩
  obtain ⟨p4,_⟩:=p3 q
  exact ⟨p4.1,p4.2,p1.st,p1.fr⟩
end Go.Gm
namespace Go.Gm.AQ
open Go Go.Gm
def BldQ (o:Option NF)(r:AV)(h':Heap):Prop:=
 match o with
 |none=>r=.tup [.agg [I 0,I 0,I 0,.nils,.nils],I 4]
 |some nf=>∃sS sF:AV,r=.tup [.agg (nfC nf sS sF),I 0]/\NfV h' nf sS sF
theorem a9m {h:Heap}{n:Nd}{c5:List AV}(nv:NV h n c5)(g:Gd n)(bd:Bd n) :
  Tot tab t6_ [.agg c5] h fun r h'=>Ext h h'/\BldQ (nfaF n) r h':=by
 refine WP.tot (fun k=>a3n k _ h) ?_
 have hok:=nv
 obtain ⟨s5,rfl,h5⟩:∃s,c5=[I n.kind,I n.st,I n.lo,I n.hi,s]/\s.one=true:=by
  cases nv with
  |mk a b=>exact ⟨_,rfl,a.one⟩
 obtain ⟨h1,hh1⟩:∃h1,h1=((h++[AObj.cells ⟨[I n.kind,I n.st,I n.lo,I n.hi,s5],0,0,false⟩])++[AObj.cells ⟨[I 0,I 0,I 0,.nils,.nils],0,0,false⟩])++[AObj.cells ⟨[I 0,I 0,I 0,.nils,.nils,.bool false],0,0,false⟩]:=⟨_,rfl⟩
 have e1:Ext h h1:=by rw[hh1]; ((repeat (first|exact Ext.refl _|assumption|apply Ext.app|apply Ext.mk|(refine Ext.setr ?_ (by (first|omega|(simp only[gL]<;>omega))) _))))
 have l1:h1.length=h.length+3:=by rw[hh1]; simp
 have rt:h1[h.length+1]?=some (.cells ⟨[I 0,I 0,I 0,.nils,.nils],0,0,false⟩):=by rw[hh1]; simp
 have rb:h1[h.length+2]?=some (.cells ⟨[I 0,I 0,I 0,.nils,.nils,.bool false],0,0,false⟩):=by rw[hh1]; simp
 have v:BV (fun o=>o=h.length+2) h1 (h.length+2) NS.new:=⟨.nils,.nils,0,0,rb,Gr.nil ..,Gr.nil ..,rfl,fun z=>absurd rfl z,fun z=>absurd rfl z⟩
 simp -implicitDefEqProofs (maxSteps:=1000000) (disch:=first|assumption|omega|(simp only[gL]<;>omega)|((repeat (first|exact Ext.refl _|assumption|apply Ext.app|apply Ext.mk|(refine Ext.setr ?_ (by (first|omega|(simp only[gL]<;>omega))) _))); done)|(simp only[gL,gA,h5]<;>omega)|fail) only[gB,setAll,partL,fldV,reduceIte,Nat.reduceAdd,Nat.reduceMul,h5]
 rw[<-hh1]
 refine WP.call (a9g n g bd h h1 _ _ _ _ hok e1 (fun o ho=>by omega) v NSok.new) ?_
 rintro r h2 ⟨rfl,v2,f2⟩
 have l2:=f2.len
 have rt2:h2[h.length+1]?=_:=(f2.get (by omega) (by omega)).trans rt
 have bt:=(List.getElem?_eq_some_iff.1 rt2).1
 obtain ⟨sS,sF,oS,oF,r1,gS,gF,w1,w2,w3⟩:=v2
 have e2:Ext h h2:=f2.ext e1 fun o z1 z2=>by omega
 have b2:=(List.getElem?_eq_some_iff.1 r1).1
 have os:=gS.sl.one
 have of':=gF.sl.one
 have key:nfaF n=if (NS.part n NS.new).2.much=true then none else some ⟨(NS.part n NS.new).2.n,(NS.part n NS.new).1.1,(NS.part n NS.new).1.2,(NS.part n NS.new).2.st,(NS.part n NS.new).2.fr⟩:=rfl
 obtain ⟨mu,hmu⟩:∃mu,(NS.part n NS.new).2.much=mu:=⟨_,rfl⟩
 rw[hmu] at r1 key
 obtain ⟨pa,hpa⟩:∃a,(NS.part n NS.new).1.1=a:=⟨_,rfl⟩
 obtain ⟨pb,hpb⟩:∃b,(NS.part n NS.new).1.2=b:=⟨_,rfl⟩
 rw[hpa,hpb] at key ⊢
 cases mu with
 |true=>
  simp -implicitDefEqProofs (maxSteps:=1000000) (disch:=first|assumption|omega|(simp only[gL]<;>omega)|((repeat (first|exact Ext.refl _|assumption|apply Ext.app|apply Ext.mk|(refine Ext.setr ?_ (by (first|omega|(simp only[gL]<;>omega))) _))); done)|(simp only[gL,gA,a0_,r1,rt2]<;>omega)|fail) only[gB,setAll,partL,fldV,reduceIte,Nat.reduceAdd,Nat.reduceMul,a0_,r1,rt2]
  rw[key]
  exact WP.ret ⟨e2.set (by omega) _,rfl⟩
 |false=>
  rw[if_neg (by decide)] at key
  simp -implicitDefEqProofs (maxSteps:=1000000) (disch:=first|assumption|omega|(simp only[gL]<;>omega)|((repeat (first|exact Ext.refl _|assumption|apply Ext.app|apply Ext.mk|(refine Ext.setr ?_ (by (first|omega|(simp only[gL]<;>omega))) _))); done)|(simp only[gL,gA,a0_,r1,rt2,os,of']<;>omega)|fail) only[gB,setAll,partL,fldV,reduceIte,Nat.reduceAdd,Nat.reduceMul,a0_,r1,rt2,os,of']
  have g1:Gr oS (oS+1) (((h2.set (h.length+1+1) (.cells ⟨[I (NS.part n NS.new).2.n,I pa,I 0,sS,sF,.bool false],0,0,false⟩)).set (h.length+1+1) (.cells ⟨[I (NS.part n NS.new).2.n,I pa,I pb,sS,sF,.bool false],0,0,false⟩)).set (h.length+1) (.cells ⟨[I (NS.part n NS.new).2.n,I pa,I pb,sS,sF],0,0,false⟩)) 3 sS ((NS.part n NS.new).2.st.map encS):=by
   refine k4_ (D:=fun o=>o=h.length+1\/o=h.length+2) gS ((((FrS.set1 _ _ _).mono fun q _ z=>?_).trans ((FrS.set1 _ _ _).mono fun q _ z=>?_)).trans ((FrS.set1 _ _ _).mono fun q _ z=>?_)) fun z=>?_
   ·right; omega
   ·right; omega
   ·left; omega
   ·obtain ⟨z1,z2,z3⟩:=w2 z
    rcases z1 with z1|z1
    ·exact absurd z1 z3
    ·omega
  have g2:Gr oF (oF+1) (((h2.set (h.length+1+1) (.cells ⟨[I (NS.part n NS.new).2.n,I pa,I 0,sS,sF,.bool false],0,0,false⟩)).set (h.length+1+1) (.cells ⟨[I (NS.part n NS.new).2.n,I pa,I pb,sS,sF,.bool false],0,0,false⟩)).set (h.length+1) (.cells ⟨[I (NS.part n NS.new).2.n,I pa,I pb,sS,sF],0,0,false⟩)) 2 sF ((NS.part n NS.new).2.fr.map encF):=by
   refine k4_ (D:=fun o=>o=h.length+1\/o=h.length+2) gF ((((FrS.set1 _ _ _).mono fun q _ z=>?_).trans ((FrS.set1 _ _ _).mono fun q _ z=>?_)).trans ((FrS.set1 _ _ _).mono fun q _ z=>?_)) fun z=>?_
   ·right; omega
   ·right; omega
   ·left; omega
   ·obtain ⟨z1,z2,z3,_⟩:=w3 z
    rcases z1 with z1|z1
    ·exact absurd z1 z3
    ·omega
  obtain ⟨n1,n2,n3,n4⟩:=b3q g key
  rw[key]
  exact WP.ret ⟨((e2.set (by omega) _).set (by omega) _).set (by omega) _,sS,sF,rfl,g1.sl,g2.sl,b3J g key,n1,by omega,by omega,fun x hx=>Nat.lt_of_lt_of_le (n4 x hx) (by decide)⟩
theorem b1D {nf:NF}{D:List (List Int)}{acc:List Bool}(h:subF nf 200=some (D,acc)):DOk D acc:=by
 obtain ⟨sets,si⟩:=a6b h
 have ld:=si.ld
 have la:=si.la
 have l0:=(List.getElem?_eq_some_iff.1 si.s0).1
 have hl:sets.length<=200:=by rcases si.sl with z|z<;>omega
 have row:∀s:Int,0<=s->s<D.length->∃t,RowOk nf sets t (gi D s) 0 5:=fun s s0 s1=>by
  have hx:sets[s.toNat]?=some (sets[s.toNat]'(by omega)):=List.getElem?_eq_getElem (by omega)
  obtain ⟨r,r1,r2,_⟩:=si.row s.toNat _ (by omega) hx
  have:gi D s=r:=by
   obtain ⟨q1,q2⟩:=List.getElem?_eq_some_iff.1 r1
   rw[show s=((s.toNat:Nat):Int) by omega,d9_ q1]; exact q2
  exact ⟨_,this▸r2⟩
 refine ⟨by omega,by omega,by omega,fun s s0 s1=>?_,fun s m s0 s1 m0 m1=>?_⟩
 ·obtain ⟨t,r⟩:=row s s0 s1; exact r.1
 ·obtain ⟨t,r⟩:=row s s0 s1
  obtain ⟨j,j1,j2⟩:=r.2 m.toNat (by omega)
  have:gi (gi D s) m=j:=by
   obtain ⟨q1,q2⟩:=List.getElem?_eq_some_iff.1 j1
   rw[show m=((m.toNat:Nat):Int) by omega,d9_ q1]; exact q2
  have:=(List.getElem?_eq_some_iff.1 j2).1
  omega
theorem a7P {nf:NF}{D:List (List Int)}{acc:List Bool}(h:subF nf 200=some (D,acc)):D.length<=200:=by
 obtain ⟨sets,si⟩:=a6b h
 have ld:=si.ld
 rcases si.sl with z|z<;>omega
def CmpQ (n:Nd)(lo:Nat)(r:AV)(h':Heap):Prop:=
 match nfaF n with
 |none=>r=.tup [.agg [.nils,.nils],I 4]
 |some nf=>match subF nf 200 with
  |none=>r=.tup [.agg [.nils,.nils],I 5]
  |some (D,acc)=>∃v,r=.tup [v,I 0]/\MinQ D acc lo v h'
theorem MinQ.set {D:List (List Int)}{acc:List Bool}{lo lo' o:Nat}{v:AV}{h:Heap}(q:MinQ D acc lo v h)(ho:o<lo)(hl:lo'<=lo)(x:AObj):MinQ D acc lo' v (h.set o x):=by
 obtain ⟨D',acc',sN,sA,q1,q2,q3,q4⟩:=q
 exact ⟨D',acc',sN,sA,q1,(q2.set (.inl ho) x).mono hl (by simp),(q3.set (.inl ho) x).mono hl (by simp),q4⟩
theorem a2J {S:ByteArray}{f:Nat}{n:Nd}(hS:S.size<=200)(hf:f<=900000)(hp:prs S f 0 .un 0=some (n,S.size))(g:Gd n)(bd:Bd n)(h:Heap) :
  Tot tab g5_ [.str S] h fun r h'=>Ext h h'/\CmpQ n h.length r h':=by
 refine WP.tot (fun k=>a2u k _ h) ?_
 obtain ⟨h1,hh1⟩:∃h1,h1=h++[AObj.cells ⟨[.nils,.nils],0,0,false⟩]:=⟨_,rfl⟩
 have e1:Ext h h1:=by rw[hh1]; exact Ext.push _ _
 have l1:h1.length=h.length+1:=by rw[hh1]; simp
 have rt:h1[h.length]?=some (.cells ⟨[.nils,.nils],0,0,false⟩):=by rw[hh1]; simp
 simp -implicitDefEqProofs (maxSteps:=1000000) (disch:=first|assumption|omega|(simp only[gL]<;>omega)|((repeat (first|exact Ext.refl _|assumption|apply Ext.app|apply Ext.mk|(refine Ext.setr ?_ (by (first|omega|(simp only[gL]<;>omega))) _))); done)|(simp only[gL,gA]<;>omega)|fail) only[gB,setAll,partL,fldV,reduceIte,Nat.reduceAdd,Nat.reduceMul]
 rw[<-hh1]
 refine WP.call (b1C hS hf hp h1) ?_
 rintro r h2 ⟨e2,c5,rfl,nv⟩
 have l2:=e2.len
 have rt2:=e2.get rt
 obtain ⟨s5,rfl,h5⟩:=nv.inv
 obtain ⟨h3,hh3⟩:∃h3,h3=h2++[AObj.cells ⟨[I n.kind,I n.st,I n.lo,I n.hi,s5],0,0,false⟩]:=⟨_,rfl⟩
 have e3:Ext h2 h3:=by rw[hh3]; exact Ext.push _ _
 have l3:h3.length=h2.length+1:=by rw[hh3]; simp
 have rn:h3[h2.length]?=some (.cells ⟨[I n.kind,I n.st,I n.lo,I n.hi,s5],0,0,false⟩):=by rw[hh3]; simp
 have rt3:=e3.get rt2
 have b3:=(List.getElem?_eq_some_iff.1 rt3).1
 simp -implicitDefEqProofs (maxSteps:=1000000) (disch:=first|assumption|omega|(simp only[gL]<;>omega)|((repeat (first|exact Ext.refl _|assumption|apply Ext.app|apply Ext.mk|(refine Ext.setr ?_ (by (first|omega|(simp only[gL]<;>omega))) _))); done)|(simp only[gL,gA,a0_,h5,e0_]<;>omega)|fail) only[gB,setAll,partL,fldV,reduceIte,Nat.reduceAdd,Nat.reduceMul,a0_,h5,e0_]
 rw[<-hh3]
 refine WP.call (a9m (nv.nv.keeps (Keeps.ofExt e3)) g bd) ?_
 rintro r h4 ⟨e4,q4⟩
 have rt4:=e4.get rt3
 have l4:=e4.len
 have b4:=(List.getElem?_eq_some_iff.1 rt4).1
 have e04:=((e1.trans e2).trans e3).trans e4
 have e45:∀x,Ext h4 (h4++[x]):=fun x=>Ext.push _ _
 unfold CmpQ
 cases hnf:nfaF n with
 |none=>
  rw[hnf] at q4
  obtain rfl:=q4
  simp -implicitDefEqProofs (maxSteps:=1000000) (disch:=first|assumption|omega|(simp only[gL]<;>omega)|((repeat (first|exact Ext.refl _|assumption|apply Ext.app|apply Ext.mk|(refine Ext.setr ?_ (by (first|omega|(simp only[gL]<;>omega))) _))); done)|(simp only[gL,gA,a0_,rt4]<;>omega)|fail) only[gB,setAll,partL,fldV,reduceIte,Nat.reduceAdd,Nat.reduceMul,a0_,rt4]
  exact WP.ret ⟨(((e04.trans (e45 _)).set (by omega) _).set (by omega) _),rfl⟩
 |some nf=>
  rw[hnf] at q4
  obtain ⟨sS,sF,rfl,v⟩:=q4
  have o1:=v.s.one
  have o2:=v.f.one
  obtain ⟨h5,hh5⟩:∃h5,h5=h4++[AObj.cells ⟨nfC nf sS sF,0,0,false⟩]:=⟨_,rfl⟩
  have e5:Ext h4 h5:=by rw[hh5]; exact Ext.push _ _
  have l5:h5.length=h4.length+1:=by rw[hh5]; simp
  have rt5:=e5.get rt4
  have b5:=(List.getElem?_eq_some_iff.1 rt5).1
  simp -implicitDefEqProofs (maxSteps:=1000000) (disch:=first|assumption|omega|(simp only[gL]<;>omega)|((repeat (first|exact Ext.refl _|assumption|apply Ext.app|apply Ext.mk|(refine Ext.setr ?_ (by (first|omega|(simp only[gL]<;>omega))) _))); done)|(simp only[gL,gA,a0_,o1,o2,e0_]<;>omega)|fail) only[gB,setAll,partL,fldV,reduceIte,Nat.reduceAdd,Nat.reduceMul,a0_,o1,o2,e0_]
  rw[<-hh5]
  refine WP.call (a7I (v.ext e5)) ?_
  rintro r h6 ⟨e6,q6⟩
  have rt6:=e6.get rt5
  have l6:=e6.len
  have b6:=(List.getElem?_eq_some_iff.1 rt6).1
  have e06:=(e04.trans e5).trans e6
  cases hsb:subF nf 200 with
  |none=>
   rw[hsb] at q6
   obtain rfl:=q6
   simp -implicitDefEqProofs (maxSteps:=1000000) (disch:=first|assumption|omega|(simp only[gL]<;>omega)|((repeat (first|exact Ext.refl _|assumption|apply Ext.app|apply Ext.mk|(refine Ext.setr ?_ (by (first|omega|(simp only[gL]<;>omega))) _))); done)|(simp only[gL,gA,a0_,rt6]<;>omega)|fail) only[gB,setAll,partL,fldV,reduceIte,Nat.reduceAdd,Nat.reduceMul,a0_,rt6]
   exact WP.ret ⟨((e06.trans (Ext.push _ _)).set (by omega) _).set (by omega) _,rfl⟩
  |some p=>
   obtain ⟨D,acc⟩:=p
   rw[hsb] at q6
   obtain ⟨sN,sA,rfl,gN,gA⟩:=q6
   have o1:=gN.sl.one
   have o2:=gA.sl.one
   obtain ⟨h7,hh7⟩:∃h7,h7=h6++[AObj.cells ⟨[sN,sA],0,0,false⟩]:=⟨_,rfl⟩
   have e7:Ext h6 h7:=by rw[hh7]; exact Ext.push _ _
   have l7:h7.length=h6.length+1:=by rw[hh7]; simp
   have rt7:=e7.get rt6
   have b7:=(List.getElem?_eq_some_iff.1 rt7).1
   simp -implicitDefEqProofs (maxSteps:=1000000) (disch:=first|assumption|omega|(simp only[gL]<;>omega)|((repeat (first|exact Ext.refl _|assumption|apply Ext.app|apply Ext.mk|(refine Ext.setr ?_ (by (first|omega|(simp only[gL]<;>omega))) _))); done)|(simp only[gL,gA,a0_]<;>omega)|fail) only[gB,setAll,partL,fldV,reduceIte,Nat.reduceAdd,Nat.reduceMul,a0_]
   have hw:wrAt 2 (h6++[AObj.cells ⟨[.nils,.nils],0,0,false⟩]) (some (AObj.cells ⟨[.nils,.nils],0,0,false⟩)) h6.length 0 2 0 [sN,sA]=some h7:=by
    refine (p6_ (n:=2) (off:=0) (hi:=2) (vs:=[sN,sA]) rfl rfl (by omega) (by simp[o1,o2])).trans ?_
    rw[e0_ rfl,hh7]
    rfl
   have rd7:h7[h6.length]?=some (.cells ⟨[sN,sA],0,0,false⟩):=by rw[hh7]; simp
   simp -implicitDefEqProofs (maxSteps:=1000000) (disch:=first|assumption|omega|(simp only[gL]<;>omega)|((repeat (first|exact Ext.refl _|assumption|apply Ext.app|apply Ext.mk|(refine Ext.setr ?_ (by (first|omega|(simp only[gL]<;>omega))) _))); done)|(simp only[gL,gA,hw,rd7]<;>omega)|fail) only[gB,setAll,partL,fldV,reduceIte,Nat.reduceAdd,Nat.reduceMul,hw,rd7]
   refine WP.call (a6F (b1D hsb) (gN.sl.ext e7) (gA.sl.ext e7)) ?_
   rintro r h8 ⟨e8,q8⟩
   have rt8:=e8.get rt7
   have l8:=e8.len
   have b8:=(List.getElem?_eq_some_iff.1 rt8).1
   obtain ⟨D',acc',sN',sA',rfl,q2⟩:=q8
   have o1:=q2.1.sl.one
   have o2:=q2.2.1.sl.one
   have hw:wrAt 2 h8 (some (AObj.cells ⟨[.nils,.nils],0,0,false⟩)) h.length 0 2 0 [sN',sA']=some (h8.set h.length (.cells ⟨[sN',sA'],0,0,false⟩)):=p6_ (n:=2) (off:=0) (hi:=2) (vs:=[sN',sA']) rfl rfl (by omega) (by simp[o1,o2])
   simp -implicitDefEqProofs (maxSteps:=1000000) (disch:=first|assumption|omega|(simp only[gL]<;>omega)|((repeat (first|exact Ext.refl _|assumption|apply Ext.app|apply Ext.mk|(refine Ext.setr ?_ (by (first|omega|(simp only[gL]<;>omega))) _))); done)|(simp only[gL,gA,rt8,hw]<;>omega)|fail) only[gB,setAll,partL,fldV,reduceIte,Nat.reduceAdd,Nat.reduceMul,rt8,hw]
   have mq:MinQ D acc h7.length (.agg [sN',sA']) h8:=⟨D',acc',sN',sA',rfl,q2⟩
   exact WP.ret ⟨((e06.trans e7).trans e8).set (by omega) _,_,rfl,mq.set (by omega) (by omega) _⟩
end Go.Gm.AQ
