/- A part of the proof (GmAQsa, GmAQsb, GmAQsc, GmAQsd, GmAQse, GmAQsf, GmAQsg, GmPr, GmAQpa, GmAQpb, GmAQpc, GmNy, GmNw, GmAQsh, GmAQKN, GmTx, GmAQkn, GmAQtr, GmAQch, GmAQci, GmAQcj, GmAQck, GmAQba, GmAQbb, GmAQbc, GmAQbd, GmAQbo). -/
import Derived.Test.YtldnkafmanalmaaQueryRawP6
set_option linter.unusedVariables false
set_option linter.unusedSimpArgs false
set_option linter.unusedSectionVars false
namespace Go.Gm.AQ
open Go Go.Gm
def bits (n s:Nat):List Bool:=(List.range n).map fun p=>s.testBit p
theorem a6M (n s:Nat):(bits n s).length=n:=by simp[bits]
theorem a5F {n s p:Nat}(hp:p<n):gi (bits n s) (p:Int)=s.testBit p:=by
 rw[h8_ (by simpa [bits] using hp)]; simp[bits]
def outs (fr:List (Nat × Nat))(t:Nat):List Nat:=(fr.filter fun f=>f.1 == t).map (·.2)
def RwI (W:Nat->Prop)(hb:Heap)(q:Nat)(sB:AV)(N:Nat)(X:Nat->List Nat)(h:Heap):Prop:=
 ∃B:List AV,Gr q (q+1) h 1 sB (B.map fun s=>[s])/\B.length=N/\Fam W h 1 (fun t:Nat=>t<N) (fun t=>gi B (t:Int)) (fun t=>(X t).map encN')/\(∀o,W o->hb.length<=o)/\FrS (fun o=>o=q\/hb.length<=o) hb h
def enc1 (s:AV):List AV:=[s]
theorem RwI.get {W:Nat->Prop}{hb h:Heap}{q N:Nat}{sB:AV}{X:Nat->List Nat}(r:RwI W hb q sB N X h){t:Nat}(ht:t<N):∃s,(∀H,Ext h H->ld1 H (elP 1 sB t)=some s)/\idxS 1 sB (I t)=some (elP 1 sB t)/\Sl h 1 s ((X t).map encN'):=by
 obtain ⟨B,g,lB,f,hW,fr⟩:=r
 have sl:Sl h 1 sB (B.map enc1):=g.sl
 exact ⟨gi B t,fun H e=>by rw[sl.ld0 e (by omega) (by omega) (by omega)]; rfl,sl.idxG (by omega) (by omega),f.sl ht⟩
theorem RwI.step {W:Nat->Prop}{hb h:Heap}{q N:Nat}{sB:AV}{X:Nat->List Nat}(r:RwI W hb q sB N X h)(hq:q<hb.length){t:Nat}(ht:t<N)(v:Nat)(hl:(X t).length<=100000) :
  ∃s1 s2 h2 h3,(∀H,Ext h H->ld1 H (elP 1 sB t)=some s1)/\idxS 1 sB (I t)=some (elP 1 sB t)/\apnd 1 8 s1 (.sl h.length 0 1 1 none 0) (h++[AObj.cells ⟨[I v],0,0,false⟩])=some (s2,h2)/\stN 1 h2 (elP 1 sB t) s2=some h3/\
   RwI (fun o=>W o\/h.length<=o) hb q sB N (fun t'=>if t'=t then X t++[v] else X t') h3/\FrS W h h2:=by
 obtain ⟨B,g,lB,f,hW,fr⟩:=r
 have hlb:=fr.len
 have sl:Sl h 1 sB (B.map enc1):=g.sl
 have b1:Sl (h++[AObj.cells ⟨[I v],0,0,false⟩]) 1 (.sl h.length 0 1 1 none 0) [encN' v]:=by
  have:=(Gr.lit (h:=h) (sz:=1) (v:=encN' v) rfl).sl
  rwa [a1_] at this
 have e1:Ext h (h++[AObj.cells ⟨[I v],0,0,false⟩]):=Ext.push _ _
 have f':=f.frs (D:=fun _=>False) (FrS.ofExt e1) fun _ _ _ z=>z
 obtain ⟨s2,h2,k1,k2,k3,k4⟩:=f'.append (bytes:=8) (t:=t) ht b1 (by simp) (by omega) (by omega) (by simp; omega)
 have g2:=(g.ext e1).frs k4 fun o z1 z2 z3=>by have:=hW o z3; omega
 have c2:s2.cells=[s2]:=by
  have:=(k3.sl (t:=t) ht).cells
  simpa using this
 obtain ⟨h3,n1,n2,n3,n4⟩:=g2.write0 (i:=(t:Int)) (v:=s2) (by omega) (by simp; omega) (by rw[c2]; rfl) (by rw[c2]; simp[k2])
 refine ⟨gi B t,s2,h2,h3,fun H e=>by rw[sl.ld0 e (by omega) (by omega) (by omega)]; rfl,sl.idxG (by omega) (by omega),k1,n1,?_,(FrS.ofExt e1).trans k4⟩
 have hlq:=k4.len
 have f3:=k3.frs n3.s (fun o z1 z2 z3=>by
  rcases z2 with z2|z2
  ·have:=hW o z2; omega
  ·simp only[List.length_append] at *; omega)
 refine ⟨B.set t s2,?_,by rw[List.length_set]; exact lB,?_,fun o z=>?_,?_⟩
 ·refine n2.cong ?_
  rw[c2,show ((t:Int)).toNat=t by omega,List.map_set]
 ·refine (f3.mono fun o z1 z2=>?_).congr fun t' ht'=>⟨?_,?_⟩
  ·rcases z2 with z2|z2
   ·exact .inl z2
   ·simp only[List.length_append] at z2; exact .inr (by omega)
  ·show gi (B.set t s2) (t':Int)=if t'=t then s2 else gi B t'
   rw[giset2 (by omega)]
  ·show (if t'=t then X t++[v] else X t').map encN'=if t'=t then (X t).map encN'++[encN' v] else (X t').map encN'
   by_cases qt:t'=t
   ·simp[qt]
   ·rw[if_neg qt,if_neg qt]
 ·rcases z with z|z
  ·exact hW o z
  ·omega
 ·have z1:FrS (fun o=>o=q\/hb.length<=o) h (h++[AObj.cells ⟨[I v],0,0,false⟩]):=FrS.ofExt e1
  exact ((fr.trans z1).trans (k4.mono fun o _ z=>.inr (hW o z))).trans (n3.s.mono fun o _ z=>.inl (by omega))
structure CL (N:Nat) (fr:List (Nat × Nat)) (s:Nat) (bs:List Bool) (L:List Nat):Prop where
 lb:bs.length=N
 lt:∀p∈L,p<N
 tr:∀p∈L,gi bs (p:Int)=true
 me:∀p:Nat,p<N->gi bs (p:Int)=true->p∈L
 rc:∀p∈L,Rch fr s p
 su:∀p:Nat,p<N->s.testBit p=true->gi bs (p:Int)=true
 ct:un N (fun p=>if gi bs (p:Int)=true then 0 else -1)+L.length=N
theorem CL.le {N s:Nat}{fr:List (Nat × Nat)}{bs:List Bool}{L:List Nat}(c:CL N fr s bs L):L.length<=N:=by
 have:=c.ct
 have:=i4_ N fun p=>if gi bs (p:Int)=true then 0 else -1
 omega
theorem CL.add {N s p q:Nat}{fr:List (Nat × Nat)}{bs:List Bool}{L:List Nat}(c:CL N fr s bs L)(hp:p∈L)(hf:(p,q)∈fr)(hq:q<N)(hn:gi bs (q:Int)=false):CL N fr s (bs.set q true) (L++[q]):=by
 have lb:=c.lb
 have hg:∀x:Nat,gi (bs.set q true) (x:Int)=if x=q then true else gi bs (x:Int):=fun x=>giset2 (by omega) true
 refine ⟨by simp[lb],fun x hx=>?_,fun x hx=>?_,fun x hx h=>?_,fun x hx=>?_,fun x hx h=>?_,?_⟩
 ·rcases List.mem_append.1 hx with hx|hx
  ·exact c.lt x hx
  ·rw[List.mem_singleton.1 hx]; exact hq
 ·rw[hg]
  rcases List.mem_append.1 hx with hx|hx
  ·split
   ·rfl
   ·exact c.tr x hx
  ·rw[List.mem_singleton.1 hx,if_pos rfl]
 ·rw[hg] at h
  by_cases z:x=q
  ·rw[z]; simp
  ·rw[if_neg z] at h
   exact List.mem_append_left _ (c.me x hx h)
 ·rcases List.mem_append.1 hx with hx|hx
  ·exact c.rc x hx
  ·rw[List.mem_singleton.1 hx]; exact .on (c.rc p hp) hf
 ·rw[hg]
  split
  ·rfl
  ·exact c.su x hx h
 ·have e:(fun x:Nat=>if gi (bs.set q true) (x:Int)=true then (0:Int) else -1)=up (fun x:Nat=>if gi bs (x:Int)=true then (0:Int) else -1) q 0:=by
   funext x
   rw[hg,up]
   by_cases z:x=q
   ·simp[z]
   ·simp[z]
  rw[e,un_up hq (Int.le_refl _),if_pos (by simp[hn])]
  have:=c.ct
  simp only[List.length_append,List.length_cons,List.length_nil]
  omega
theorem CL.done {N s:Nat}{fr:List (Nat × Nat)}{bs:List Bool}{L:List Nat}(c:CL N fr s bs L)(hf:∀f∈fr,f.2<N)(hs:∀p,s.testBit p=true->p<N)(hd:∀p∈L,∀q,(p,q)∈fr->gi bs (q:Int)=true):bs=bits N (cloF N fr s):=by
 have key:∀p:Nat,p<N->gi bs (p:Int)=(cloF N fr s).testBit p:=by
  intro p hp
  have h1:gi bs (p:Int)=true↔(cloF N fr s).testBit p=true:=by
   rw[a4Q hf hs]
   constructor
   ·exact fun h=>c.rc p (c.me p hp h)
   ·intro h
    have:∀x,Rch fr s x->x<N->gi bs (x:Int)=true:=by
     intro x hx
     induction hx with
     |here h=>exact fun hx=>c.su _ hx h
     |@on a b h1 h2 ih=>
      intro hb
      have ha:=b0W hf hs h1
      exact hd a (c.me a ha (ih ha)) b h2
    exact this p h hp
  cases h2:gi bs (p:Int)<;>cases h3:(cloF N fr s).testBit p<;>simp_all
 refine List.ext_getElem (by rw[c.lb,a6M]) fun p h1 h2=>?_
 rw[<-h8_ h1,<-h8_ h2,key p (by have:=c.lb; omega),a5F (by have:=c.lb; omega)]
def onF (bs:List Bool)(i:Nat):List Nat:=(List.range i).filter fun p:Nat=>gi bs (p:Int)
theorem a9H (bs:List Bool)(i:Nat):onF bs (i+1)=onF bs i++if gi bs (i:Int)=true then [i] else []:=by
 simp only[onF,List.range_succ,List.filter_append]
 congr 1
 by_cases q:gi bs (i:Int)=true
 ·simp[List.filter,q]
 ·simp[List.filter,q]
theorem CL.zero {N s:Nat}{fr:List (Nat × Nat)}:CL N fr s (bits N s) (onF (bits N s) N):=by
 refine ⟨a6M ..,fun p hp=>?_,fun p hp=>?_,fun p h1 h2=>?_,fun p hp=>?_,fun p h1 h2=>by rw[a5F h1]; exact h2,?_⟩
 ·have:=(List.mem_filter.1 hp).1; simpa using this
 ·exact (List.mem_filter.1 hp).2
 ·exact List.mem_filter.2 ⟨by simpa using h1,h2⟩
 ·obtain ⟨h1,h2⟩:=List.mem_filter.1 hp
  have h1:p<N:=by simpa using h1
  rw[a5F h1] at h2
  exact .here h2
 ·have:∀n,un n (fun p=>if gi (bits N s) (p:Int)=true then 0 else -1)+(onF (bits N s) n).length=n:=by
   intro n
   induction n with
   |zero=>rfl
   |succ n ih=>
    rw[a9H,List.length_append]
    show un n _+(if (if gi (bits N s) (n:Int)=true then (0:Int) else -1)<0 then 1 else 0)+_=_
    by_cases q:gi (bits N s) (n:Int)=true
    ·simp only[if_pos q]; simp; omega
    ·simp only[if_neg q]; simp; omega
  exact this N
end Go.Gm.AQ
namespace Go.Gm.AQ
open Go Go.Gm
structure NfV (h:Heap) (nf:NF) (sS sF:AV):Prop where
 s:Sl h 3 sS (nf.st.map encS)
 f:Sl h 2 sF (nf.fr.map encF)
 ok:NfOk nf
 n0:nf.n<=1000
 ls:nf.st.length<=100000
 lf:nf.fr.length<=100000
 sv:∀x∈nf.st,x.2.2<2 ^ 62
theorem NfV.ext {h h':Heap}{nf:NF}{sS sF:AV}(v:NfV h nf sS sF)(e:Ext h h'):NfV h' nf sS sF:=⟨v.s.ext e,v.f.ext e,v.ok,v.n0,v.ls,v.lf,v.sv⟩
section
variable {nf:NF} {sS sF:AV}
end
end Go.Gm.AQ
namespace Go.Gm.AQ
open Go Go.Gm
section
variable {nf:NF} {sS sF:AV}
end
end Go.Gm.AQ
namespace Go.Gm.AQ
open Go Go.Gm
section
variable {h:Heap}
structure SI (hb h:Heap) (states sN sA:AV) (oS oN oA:Nat) (xs:List AV) (D':List (List Int)) (acc':List Bool):Prop where
 eb:Ext hb h
 ro:h[hb.length+1]?=some (.cells ⟨[sN,sA],0,0,false⟩)
 gs:Gr oS (oS+1) h 1 states (xs.map enc1)
 gn:Gr oN (oN+1) h 5 sN (D'.map encR)
 ga:Gr oA (oA+1) h 1 sA (acc'.map encB)
 ps:states≠.nils->hb.length<=oS/\oS≠hb.length+1/\oS<h.length
 pn:sN≠.nils->hb.length+2<=oN/\oN<h.length/\(states≠.nils->oN≠oS)
 pa:sA≠.nils->hb.length+2<=oA/\oA<h.length/\(states≠.nils->oA≠oS)/\(sN≠.nils->oA≠oN)
 bl:hb.length+2<=h.length
section
variable {hb:Heap} {states sN sA:AV} {oS oN oA:Nat} {xs:List AV} {D':List (List Int)} {acc':List Bool}
theorem SI.ext (p:SI hb h states sN sA oS oN oA xs D' acc'){h':Heap}(e:Ext h h'):SI hb h' states sN sA oS oN oA xs D' acc':=by
 have l:=e.len
 refine ⟨p.eb.trans e,e.get p.ro,p.gs.ext e,p.gn.ext e,p.ga.ext e,fun z=>?_,fun z=>?_,fun z=>?_,by have:=p.bl; omega⟩
 ·have:=p.ps z; omega
 ·have:=p.pn z; exact ⟨this.1,by omega,this.2.2⟩
 ·have:=p.pa z; exact ⟨this.1,by omega,this.2.2⟩
theorem SI.frs (p:SI hb h states sN sA oS oN oA xs D' acc'){h':Heap}{o:Nat}(f:FrS (fun q=>q=o) h h')(ho:hb.length<=o/\o≠hb.length+1)(h1:states≠.nils->o≠oS)(h2:sN≠.nils->o≠oN)(h3:sA≠.nils->o≠oA):SI hb h' states sN sA oS oN oA xs D' acc':=by
 have l:=f.len
 have bl:=p.bl
 have nl:∀{lo:Nat} {sz:Nat} {s:AV} {xs:List (List AV)},Gr lo (lo+1) h sz s xs->(s≠.nils->o≠lo)->Gr lo (lo+1) h' sz s xs:=by
  intro lo sz s xs g hq
  by_cases q:s=.nils
  ·subst q
   have:=g.isNil
   subst this
   exact Gr.nil ..
  ·exact g.frs f fun r r1 r2=>by have:=hq q; omega
 refine ⟨f.ext p.eb fun q q1=>by omega,by rw[f.get (by omega) (by omega)]; exact p.ro,nl p.gs h1,nl p.gn h2,nl p.ga h3,fun z=>?_,fun z=>?_,fun z=>?_,by omega⟩
 ·have:=p.ps z; omega
 ·have:=p.pn z; exact ⟨this.1,by omega,this.2.2⟩
 ·have:=p.pa z; exact ⟨this.1,by omega,this.2.2⟩
theorem SI.row (p:SI hb h states sN sA oS oN oA xs D' acc'){r:List Int}(hr:r.length=5)(hl:D'.length<=100000) :
  ∃s' h' o',apnd 5 40 sN (.sl h.length 0 1 5 none 0) (h++[AObj.cells ⟨r.map I,0,0,false⟩])=some (s',h')/\s'.one=true/\s'.cells=[s']/\h'[hb.length+1]?=some (.cells ⟨[sN,sA],0,0,false⟩)/\
   SI hb (h'.set (hb.length+1) (.cells ⟨[s',sA],0,0,false⟩)) states s' sA oS o' oA xs (D'++[r]) acc'/\FrS (fun q=>q=hb.length+1\/(sN≠.nils/\q=oN)) h (h'.set (hb.length+1) (.cells ⟨[s',sA],0,0,false⟩))/\(s'≠.nils->(o'=oN/\sN≠.nils)\/h.length<=o'):=by
 have b:=Gr.lit (h:=h) (sz:=5) (v:=r.map I) (by simp[hr])
 rw[a1_] at b
 have e1:Ext h (h++[AObj.cells ⟨r.map I,0,0,false⟩]):=Ext.push _ _
 obtain ⟨s',h',o',q1,q2,q3,q4⟩:=(p.gn.ext e1).appP (fun z=>by have:=p.pn z; simp; omega) b.sl (by omega) (bytes:=40) (by omega) (by simp; omega)
 have f:=(FrS.ofExt (D:=fun q=>sN≠.nils/\q=oN) e1).trans q4
 have l:=f.len
 have bl:=p.bl
 have ps:=p.ps
 have pn:=p.pn
 have pa:=p.pa
 have l1:(h++[AObj.cells ⟨r.map I,0,0,false⟩]).length=h.length+1:=by simp
 have q3':s'≠.nils->(o'=oN/\sN≠.nils)\/h.length<=o':=fun z=>by
  rcases (q3 z).1 with q|q
  ·exact .inl q
  ·exact .inr (by omega)
 have ro:=p.ro
 have ro':h'[hb.length+1]?=some (.cells ⟨[sN,sA],0,0,false⟩):=by rw[f.get (fun z=>by have:=pn z.1; omega) (by omega)]; exact ro
 have nl:∀{lo:Nat} {sz:Nat} {s:AV} {xs:List (List AV)},Gr lo (lo+1) h sz s xs->(s≠.nils->sN≠.nils->oN≠lo)->Gr lo (lo+1) h' sz s xs:=by
  intro lo sz s xs g hq
  by_cases q:s=.nils
  ·subst q
   have:=g.isNil
   subst this
   exact Gr.nil ..
  ·exact g.frs f fun r r1 r2 z=>by have:=hq q z.1; omega
 have st:∀{lo:Nat} {sz:Nat} {s:AV} {xs:List (List AV)} (x:AObj),Gr lo (lo+1) h' sz s xs->(s≠.nils->lo≠hb.length+1)->Gr lo (lo+1) (h'.set (hb.length+1) x) sz s xs:=by
  intro lo sz s xs x g hq
  by_cases q:s=.nils
  ·subst q
   have:=g.isNil
   subst this
   exact Gr.nil ..
  ·exact g.set (by have:=hq q; omega) _
 have q5:∀z:s'≠.nils,hb.length+2<=o'/\o'<h'.length:=fun z=>by
  have h1:=(q3 z).2
  rcases q3' z with ⟨h2,h3⟩|h2
  ·have:=pn h3; omega
  ·omega
 refine ⟨s',h',o',q1,q2.sl.one,q2.sl.cells,ro',⟨(f.ext p.eb fun q z1 z2=>by have:=pn z2.1; omega).setr (Nat.le_succ _) _,a0_ (by omega),st _ (nl p.gs fun z1 z2=>(pn z2).2.2 z1) fun z=>by have:=ps z; omega,st _ (q2.cong (by simp[encR])) fun z=>by have:=q5 z; omega,st _ (nl p.ga fun z1 z2=>((pa z1).2.2.2 z2).symm) fun z=>by have:=pa z; omega,?_,?_,?_,by simp; omega⟩,(f.mono fun q _ z=>Or.inr z).trans ((FrS.set1 _ _ _).mono fun q _ z=>Or.inl z),q3'⟩
 ·intro z; have:=ps z; simp; omega
 ·intro z
  have h1:=q5 z
  refine ⟨h1.1,by simp; exact h1.2,fun z2=>?_⟩
  rcases q3' z with ⟨h2,h3⟩|h2
  ·have:=(pn h3).2.2 z2; omega
  ·have:=ps z2; omega
 ·intro z
  have h1:=pa z
  refine ⟨h1.1,by simp; omega,h1.2.2.1,fun z2=>?_⟩
  rcases q3' z2 with ⟨h2,h3⟩|h2
  ·have:=h1.2.2.2 h3; omega
  ·omega
end
end
end Go.Gm.AQ
namespace Go.Gm.AQ
open Go Go.Gm
def SetsV (n:Nat)(h:Heap)(W:Nat->Prop)(B:List AV)(S:List Nat):Prop:=
 B.length=S.length/\∀(i s:Nat),S[i]?=some s->(∀p,s.testBit p=true->p<n)/\∃lo hi,Gr lo hi h 1 (gi B (i:Int)) ((bits n s).map encB)/\∀o,lo<=o->o<hi->o<h.length/\W o
theorem SetsV.go {n:Nat}{h h':Heap}{W W' D:Nat->Prop}{B:List AV}{S:List Nat}(v:SetsV n h W B S)(f:FrS D h h')(hd:∀o,o<h.length->W o->¬D o/\W' o):SetsV n h' W' B S:=by
 refine ⟨v.1,fun i s hi=>?_⟩
 obtain ⟨hs,lo,hi',g,r⟩:=v.2 i s hi
 have l:=f.len
 refine ⟨hs,lo,hi',g.frs f fun o z1 z2=>?_,fun o z1 z2=>?_⟩
 ·have:=r o z1 z2; exact (hd o this.1 this.2).1
 ·have:=r o z1 z2; exact ⟨by omega,(hd o this.1 this.2).2⟩
theorem SetsV.ext {n:Nat}{h h':Heap}{W:Nat->Prop}{B:List AV}{S:List Nat}(v:SetsV n h W B S)(e:Ext h h'):SetsV n h' W B S:=
 v.go (D:=fun _=>False) (FrS.ofExt e) fun o _ w=>⟨id,w⟩
theorem SetsV.snoc {n:Nat}{h:Heap}{W:Nat->Prop}{B:List AV}{S:List Nat}(v:SetsV n h W B S){a:AV}{t lo hi:Nat}(ht:∀p,t.testBit p=true->p<n)(g:Gr lo hi h 1 a ((bits n t).map encB))(r:∀o,lo<=o->o<hi->o<h.length/\W o):SetsV n h W (B++[a]) (S++[t]):=by
 refine ⟨by simp[v.1],fun i s hi'=>?_⟩
 by_cases q:i<S.length
 ·rw[List.getElem?_append_left q] at hi'
  obtain ⟨hs,lo',hi2,g',r'⟩:=v.2 i s hi'
  refine ⟨hs,lo',hi2,?_,r'⟩
  rw[show gi (B++[a]) (i:Int)=gi B (i:Int) from z8_ (by omega) (by have:=v.1; omega)]; exact g'
 ·have hl:=(List.getElem?_eq_some_iff.1 hi').1
  simp only[List.length_append,List.length_cons,List.length_nil] at hl
  obtain rfl:i=S.length:=by omega
  rw[List.getElem?_append_right (Nat.le_refl _)] at hi'
  simp at hi'
  subst hi'
  refine ⟨ht,lo,hi,?_,r⟩
  rw[h8_ (by simp[v.1])]
  simp[<-v.1]
  exact g
end Go.Gm.AQ
namespace Go.Gm.AQ
open Go Go.Gm
section
variable {nf:NF} {sS sF:AV}
end
end Go.Gm.AQ
namespace Go.Gm.AQ
open Go Go.Gm
section
variable {nf:NF} {sS sF:AV}
end
end Go.Gm.AQ
namespace Go.Gm
def bt (S:ByteArray)(p:Nat):Option Nat:=(S[p]?).map UInt8.toNat
def md (c:Nat):Option Nat:=if c=119 then some 0 else if c=98 then some 1 else if c=99 then some 2 else if c=102 then some 3 else if c=116 then some 4 else none
def clsF (S:ByteArray):Nat->Nat->Nat->Option (Nat × Nat)
 |0,_,_=>none
 |f+1,p,s=>match bt S p with
  |none=>none
  |some c=>if c=93/\0<s then some (s,p+1) else match md c with
   |none=>none
   |some m=>clsF S f (p+1) (s ||| 2 ^ m)
def dig (c:Option Nat):Option Nat:=match c with
 |some c=>if 48<=c/\c<=57 then some (c-48) else none
 |none=>none
def tms (S:ByteArray)(p:Nat):Option (Nat × Nat × Nat):=match dig (bt S p),dig (bt S (p+2)) with
 |some a,some b=>if bt S (p+1)=some 44/\bt S (p+3)=some 125/\a<=b then some (a,b,p+4) else none
 |_,_=>none
inductive PM where
 |at|pc|pcl (n:Nd)|jn|jnl (l:List Nd)|un|unl (l:List Nd)
def finJ:List Nd->Nd
 |[n]=>n
 |l=>.join l
def finU:List Nd->Nd
 |[n]=>n
 |l=>.uni l
def prs (S:ByteArray):Nat->Nat->PM->Nat->Option (Nd × Nat)
 |0,_,_,_=>none
 |f+1,d,.at,p=>match bt S p with
  |none=>none
  |some c=>
   if c=40 then
    if 30<=d then none else match prs S f (d+1) .un (p+1) with
     |some (n,q)=>if bt S q=some 41 then some (n,q+1) else none
     |none=>none
   else match md c with
    |some m=>some (.set (2 ^ m),p+1)
    |none=>if c=46 then some (.set 31,p+1) else if c=48 then some (.emp,p+1) else if c=95 then some (.eps,p+1)
     else if c=91 then (match clsF S f (p+1) 0 with|some (s,q)=>some (.set s,q)|none=>none) else none
 |f+1,d,.pc,p=>match prs S f d .at p with
  |some (n,q)=>prs S f d (.pcl n) q
  |none=>none
 |f+1,d,.pcl n,p=>match bt S p with
  |none=>some (n,p)
  |some c=>if c=42 then prs S f d (.pcl (.star n)) (p+1) else if c=43 then prs S f d (.pcl (.plus n)) (p+1) else if c=63 then prs S f d (.pcl (.opt n)) (p+1)
   else if c=123 then (match tms S (p+1) with|some (a,b,q)=>prs S f d (.pcl (.rep a b n)) q|none=>none) else some (n,p)
 |f+1,d,.jn,p=>match prs S f d .pc p with
  |some (n,q)=>prs S f d (.jnl [n]) q
  |none=>none
 |f+1,d,.jnl l,p=>match bt S p with
  |none=>some (finJ l,p)
  |some c=>if c=124 then some (finJ l,p) else if c=41 then some (finJ l,p) else match prs S f d .pc p with
   |some (n,q)=>prs S f d (.jnl (l++[n])) q
   |none=>none
 |f+1,d,.un,p=>match prs S f d .jn p with
  |some (n,q)=>prs S f d (.unl [n]) q
  |none=>none
 |f+1,d,.unl l,p=>match bt S p with
  |none=>some (finU l,p)
  |some c=>if c=124 then match prs S f d .jn (p+1) with
    |some (n,q)=>prs S f d (.unl (l++[n])) q
    |none=>none
   else some (finU l,p)
end Go.Gm
namespace Go.Gm.AQ
open Go Go.Gm
section
variable {S:ByteArray} {ro:Nat}
def PR (S:ByteArray)(ro:Nat)(h:Heap)(d:Nat)(n:Nd)(q:Nat)(v:AV)(h':Heap):Prop:=
 FrS (fun o=>o=ro) h h'/\h'[ro]?=some (.cells ⟨[.str S,I q,I d,I 0],0,0,false⟩)/\∃c5,v=.agg c5/\NVD h' (fun o=>h.length<=o/\o<h'.length) n c5
theorem PR.fin {h H:Heap}{d q:Nat}{n:Nd}{c5:List AV}(hro:ro<h.length)(f:FrS (fun o=>o=ro) h H)(hr:H[ro]?=some (.cells ⟨[.str S,I q,I d,I 0],0,0,false⟩))(nv:NVD H (fun o=>h.length<o/\o<H.length) n c5) :
  PR S ro h d n q (.agg c5) (H.set h.length (.cells ⟨c5,0,0,false⟩)):=by
 refine ⟨⟨by simp; exact f.len,fun o h1 h2=>?_⟩,?_,c5,rfl,nv.frs (FrS.set1 H h.length _) (fun o h1 h2 h3=>by omega) fun o h1 h2=>⟨by omega,by simp; exact h1⟩⟩
 ·rw[List.getElem?_set_ne (by omega)]; exact f.get h1 h2
 ·rw[List.getElem?_set_ne (by omega)]; exact hr
theorem b0Z {h H:Heap}(f:FrS (fun o=>o=ro) h H)(x:AObj):FrS (fun o=>o=ro) h (H.set ro x):=
 ⟨by simp; exact f.len,fun o h1 h2=>by rw[List.getElem?_set_ne (fun q=>h1 q.symm)]; exact f.get h1 h2⟩
end
end Go.Gm.AQ
namespace Go.Gm.AQ
open Go Go.Gm
abbrev RD (S:ByteArray)(p d:Nat):AObj:=.cells ⟨[.str S,I p,I d,I 0],0,0,false⟩
abbrev Z5:AObj:=.cells ⟨[I 0,I 0,I 0,I 0,.nils],0,0,false⟩
section
variable (S:ByteArray) (ro:Nat) (f:Nat)
structure NL (S:ByteArray) (ro:Nat) (h H:Heap) (d p:Nat) (s:AV) (lg:Nat) (l:List Nd) (css:List (List AV)):Prop where
 hro:ro<h.length
 fr:FrS (fun o=>o=ro) h H
 hr:H[ro]?=some (RD S p d)
 ht:H[h.length]?=some Z5
 gr:Gr lg (lg+1) H 5 s css
 lgl:h.length<lg/\lg<H.length
 nn:s≠.nils
 nvs:NVDs H (fun o=>h.length<o/\o<H.length/\o≠lg) l css
end
section
variable {S:ByteArray} {ro:Nat} {f:Nat}
end
end Go.Gm.AQ
namespace Go.Gm.AQ
open Go Go.Gm
section
variable {S:ByteArray} {ro:Nat} {f:Nat} {h H:Heap} {d p:Nat} {s:AV} {lg:Nat} {l:List Nd} {css:List (List AV)}
theorem NL.setR (a:NL S ro h H d p s lg l css){p' d':Nat}:NL S ro h (H.set ro (RD S p' d')) d' p' s lg l css:=by
 have h1:=a.hro
 have h2:=a.fr.len
 have h3:=a.lgl
 refine ⟨a.hro,b0Z a.fr _,List.getElem?_set_self (by omega),by rw[List.getElem?_set_ne (by omega)]; exact a.ht,a.gr.set (by omega) _,by simp; exact a.lgl,a.nn,a.nvs.frs (FrS.set1 H ro _) (fun o q1 q2 q3=>by omega) fun o q1 q2=>by simp; exact q2⟩
theorem NL.add (a:NL S ro h H d p s lg l css){H2:Heap}{n:Nd}{q:Nat}{v:AV}(pr:PR S ro H d n q v H2)(hl:css.length<=2000000) :
  ∃s5 s' H3,v=.agg [I n.kind,I n.st,I n.lo,I n.hi,s5]/\s5.one=true/\apnd 5 56 s (.sl H2.length 0 1 5 none 0) (H2++[.cells ⟨[I n.kind,I n.st,I n.lo,I n.hi,s5],0,0,false⟩])=some (s',H3)/\NL S ro h H3 d q s' lg (l++[n]) (css++[[I n.kind,I n.st,I n.lo,I n.hi,s5]]):=by
 obtain ⟨f2,r2,c5,rfl,nv⟩:=pr
 obtain ⟨s5,rfl,ho5⟩:=nv.inv
 have h1:=a.hro
 have h2:=a.fr.len
 have h3:=a.lgl
 have h4:=f2.len
 have htl:=(List.getElem?_eq_some_iff.1 a.ht).1
 have g2:Gr lg (lg+1) H2 5 s css:=Gr.frs' a.gr f2 fun _ z=>by omega
 have t2:=(f2.get (o:=h.length) (by omega) (by omega)).trans a.ht
 have n2:=a.nvs.frs f2 (D':=fun o=>h.length<o/\o<H.length/\o≠lg) (fun o q1 q2 q3=>by omega) fun _ _ z=>z
 have e3:Ext H2 (H2++[AObj.cells ⟨[I n.kind,I n.st,I n.lo,I n.hi,s5],0,0,false⟩]):=Ext.push _ _
 have hl3:(H2++[AObj.cells ⟨[I n.kind,I n.st,I n.lo,I n.hi,s5],0,0,false⟩]).length=H2.length+1:=by simp
 obtain ⟨s',H3,lg',m1,m2,m3,m4,m5⟩:=Gr.appQ (bytes:=56) (g2.ext e3) (fun _=>by omega) (Gr.lit (sz:=5) (v:=[I n.kind,I n.st,I n.lo,I n.hi,s5]) rfl).sl (by omega) (by omega) (by simp; omega)
 obtain rfl:=m5 a.nn
 have hs':s'≠.nils:=m2.nnil (by simp)
 have h5:=m4.len
 refine ⟨s5,s',H3,rfl,ho5,m1,a.hro,⟨by omega,fun o q1 q2=>?_⟩,(m4.get (by omega) (by omega)).trans (e3.get r2),(m4.get (by omega) (by omega)).trans (e3.get t2),m2,by omega,hs',NVDs.snoc (n:=n) (cs:=[I n.kind,I n.st,I n.lo,I n.hi,s5]) ?_ ?_⟩
 ·rw[m4.get (by omega) (by omega),(a0x.1 e3).2 o (by omega),f2.get q1 (by omega),a.fr.get q1 q2]
 ·exact (nv.ext e3 (D':=fun o=>H.length<=o/\o<H2.length) fun _ _ z=>z).frs m4 (fun o q1 q2 q3=>by omega) fun o q1 q2=>by omega
 ·exact (n2.frs (E:=fun _=>False) (FrS.ofExt e3) (fun _ _ _ z=>z) (D':=fun o=>h.length<o/\o<H.length/\o≠lg') fun _ _ z=>z).frs m4 (fun o q1 q2 q3=>by omega) fun o q1 q2=>by omega
theorem NL.one {H2:Heap}{n:Nd}{q:Nat}{v:AV}(hr:h[ro]?=some (RD S p d))(pr:PR S ro (h++[Z5]) d n q v H2) :
  ∃s5,v=.agg [I n.kind,I n.st,I n.lo,I n.hi,s5]/\s5.one=true/\NL S ro h (H2++[.cells ⟨[I n.kind,I n.st,I n.lo,I n.hi,s5],0,0,false⟩]) d q (.sl H2.length 0 1 5 none 0) H2.length [n] [[I n.kind,I n.st,I n.lo,I n.hi,s5]]:=by
 obtain ⟨f2,r2,c5,rfl,nv⟩:=pr
 obtain ⟨s5,rfl,ho5⟩:=nv.inv
 have hro:=(List.getElem?_eq_some_iff.1 hr).1
 have e1:Ext h (h++[Z5]):=Ext.push _ _
 have l1:(h++[Z5]).length=h.length+1:=by simp
 have l2:=f2.len
 have t1:(h++[Z5])[h.length]?=some Z5:=by simp
 have e3:Ext H2 (H2++[AObj.cells ⟨[I n.kind,I n.st,I n.lo,I n.hi,s5],0,0,false⟩]):=Ext.push _ _
 refine ⟨s5,rfl,ho5,hro,((FrS.ofExt e1).trans f2).trans (FrS.ofExt e3),e3.get r2,e3.get ((f2.get (by omega) (by omega)).trans t1),Gr.lit (sz:=5) rfl,⟨by omega,by simp⟩,by simp,.cons (nv.ext e3 fun o q1 q2=>⟨by omega,by simp; omega,by omega⟩) .nil⟩
end
section
variable {S:ByteArray} {ro:Nat} {f:Nat}
end
end Go.Gm.AQ
namespace Go.Gm
end Go.Gm
namespace Go.Gm
structure Po (b:NS):Prop where
 st:∀x∈b.st,x.1<b.n/\x.2.1<b.n
 fr:∀x∈b.fr,x.1<b.n/\x.2<b.n
def Pf (n:Nat)(l:List (Nat × Nat)):Prop:=∀f∈l,f.1<n/\f.2<n
theorem Po.mono {b:NS}(p:Po b){n:Nat}{m:Bool}(h:b.n<=n):Po ⟨n,m,b.st,b.fr⟩:=
 ⟨fun x hx=>by have:=p.st x hx; simp only; omega,fun x hx=>by have:=p.fr x hx; simp only; omega⟩
theorem Pf.mono {a b:Nat}{l:List (Nat × Nat)}(p:Pf a l)(h:a<=b):Pf b l:=fun f hf=>by have:=p f hf; omega
theorem Po.frees {b:NS}(p:Po b){l:List (Nat × Nat)}(h:Pf b.n l):Po (b.frees l):=⟨p.st,fun x hx=>by
 rcases List.mem_append.1 hx with hx|hx
 ·exact p.fr x hx
 ·exact h x hx⟩
end Go.Gm
namespace Go.Gm.AQ
open Go Go.Gm
theorem MinQ.set {D:List (List Int)}{acc:List Bool}{lo lo' o:Nat}{v:AV}{h:Heap}(q:MinQ D acc lo v h)(ho:o<lo)(hl:lo'<=lo)(x:AObj):MinQ D acc lo' v (h.set o x):=by
 obtain ⟨D',acc',sN,sA,q1,q2,q3,q4⟩:=q
 exact ⟨D',acc',sN,sA,q1,(q2.set (.inl ho) x).mono hl (by simp),(q3.set (.inl ho) x).mono hl (by simp),q4⟩
end Go.Gm.AQ
namespace Go.Gm.AQ
open Go Go.Gm
def kE:List E:=[⟨0,1,0,4⟩]
def kD:List (List Int):=[[0,0,0,0,0]]
theorem kNet:NetOk (2:Nat) kE:=⟨by omega,by omega,by simp[kE],fun e he=>by simp[kE] at he; subst he; simp⟩
theorem kCo:COk kE:=⟨fun e he=>by simp[kE] at he; subst he; simp⟩
theorem kDok:DOk kD [true]:=by
 refine ⟨by simp[kD],by simp[kD],by simp[kD],fun s s0 s1=>?_,fun s m s0 s1 m0 m1=>?_⟩
 ·simp[kD] at s1
  obtain rfl:s=0:=by omega
  rfl
 ·simp[kD] at s1
  obtain rfl:s=0:=by omega
  have:m=0\/m=1\/m=2\/m=3\/m=4:=by omega
  rcases this with rfl|rfl|rfl|rfl|rfl<;>decide
section
variable {h:Heap} {sE sD sA:AV}
theorem a6N {h:Heap}{o sz:Nat}{v:List AV}(hr:h[o]?=some (.cells ⟨v,0,0,false⟩))(hv:v.length=sz):Sl h sz (.sl o 0 1 sz none 0) [v]:=
 .inr ⟨o,0,none,0,_,rfl,hr,Nat.le_refl _,by simp[List.take_of_length_le (Nat.le_of_eq hv)],by simp[hv]⟩
end
end Go.Gm.AQ
namespace Go.Gm
def sgnB (m:Nat):Nat:=[119,98,99,102,116].getD m 0
def setS (s:Nat):List Nat:=((List.range 5).filter fun m=>s.testBit m).map sgnB
def setT (s:Nat):List Nat:=if s=31 then [46] else if (setS s).length=1 then setS s else 91::(setS s++[93])
def isU:Nd->Bool
 |.uni _=>true
 |_=>false
def isJ:Nd->Bool
 |.join _=>true
 |_=>false
def prn (b:Bool)(t:List Nat):List Nat:=if b then 40::(t++[41]) else t
mutual
def txt:Nd->List Nat
 |.set s=>setT s
 |.emp=>[48]
 |.eps=>[95]
 |.join l=>txtj l
 |.uni l=>txtu l
 |.star n=>prn (isU n || isJ n) (txt n)++[42]
 |.plus n=>prn (isU n || isJ n) (txt n)++[43]
 |.opt n=>prn (isU n || isJ n) (txt n)++[63]
 |.rep a b n=>prn (isU n || isJ n) (txt n)++[123,48+a,44,48+b,125]
def txtj:List Nd->List Nat
 |[]=>[]
 |n::l=>prn (isU n || isJ n) (txt n)++txtj l
def txtu:List Nd->List Nat
 |[]=>[]
 |n::l=>prn (isU n) (txt n)++txtr l
def txtr:List Nd->List Nat
 |[]=>[]
 |n::l=>124::(prn (isU n) (txt n)++txtr l)
end
abbrev pcT (n:Nd):List Nat:=prn (isU n || isJ n) (txt n)
abbrev jnT (n:Nd):List Nat:=prn (isU n) (txt n)
def Sd (S:ByteArray):Nat->List Nat->Prop
 |_,[]=>True
 |p,c::t=>bt S p=some c/\Sd S (p+1) t
theorem a9g {S:ByteArray}:∀{a b:List Nat} {p:Nat},Sd S p (a++b)↔Sd S p a/\Sd S (p+a.length) b
 |[],b,p=>by simp[Sd]
 |c::a,b,p=>by
  simp only[List.cons_append,Sd,a9g (a:=a),List.length_cons]
  rw[show p+1+a.length=p+(a.length+1) by omega,and_assoc]
mutual
def dp:Nd->Nat
 |.join l=>1+dps l
 |.uni l=>1+dps l
 |.star n=>dp n
 |.plus n=>dp n
 |.opt n=>dp n
 |.rep _ _ n=>dp n
 |_=>0
def dps:List Nd->Nat
 |[]=>0
 |n::l=>max (dp n) (dps l)
end
mutual
def cst:Nd->Nat
 |.join l=>20+csts l
 |.uni l=>20+csts l
 |.star n=>10+cst n
 |.plus n=>10+cst n
 |.opt n=>10+cst n
 |.rep _ _ n=>10+cst n
 |_=>50
def csts:List Nd->Nat
 |[]=>0
 |n::l=>20+cst n+csts l
end
def Rd (S:ByteArray)(K d:Nat)(m:PM)(p:Nat)(r:Nd × Nat):Prop:=∀f,K<=f->prs S f d m p=some r
section
variable {S:ByteArray} {K K' d p q:Nat} {n:Nd} {r:Nd × Nat} {l:List Nd}
theorem Rd.le {m:PM}(h:Rd S K d m p r)(hk:K<=K'):Rd S K' d m p r:=fun f hf=>h f (by omega)
theorem a0G {K f:Nat}(h:K+1<=f):∃g,f=g+1/\K<=g:=⟨f-1,by omega,by omega⟩
theorem rd_pc (h1:Rd S K d .at p (n,q))(h2:Rd S K' d (.pcl n) q r):Rd S (K+K'+1) d .pc p r:=by
 intro f hf
 obtain ⟨g,rfl,hg⟩:=a0G hf
 simp only[prs,h1 g (by omega),h2 g (by omega)]
def noSuf (x:Option Nat):Prop:=x≠some 42/\x≠some 43/\x≠some 63/\x≠some 123
theorem b0t (h:noSuf (bt S p)):Rd S 1 d (.pcl n) p (n,p):=by
 intro f hf
 obtain ⟨g,rfl,hg⟩:=a0G hf
 simp only[prs]
 cases hb:bt S p with
 |none=>rfl
 |some c=>
  rw[hb] at h
  obtain ⟨h1,h2,h3,h4⟩:=h
  simp only
  rw[if_neg (fun z=>h1 (by rw[z])),if_neg (fun z=>h2 (by rw[z])),if_neg (fun z=>h3 (by rw[z])),if_neg (fun z=>h4 (by rw[z]))]
theorem rd_jn (h1:Rd S K d .pc p (n,q))(h2:Rd S K' d (.jnl [n]) q r):Rd S (K+K'+1) d .jn p r:=by
 intro f hf
 obtain ⟨g,rfl,hg⟩:=a0G hf
 simp only[prs,h1 g (by omega),h2 g (by omega)]
def endJ (x:Option Nat):Prop:=x=none\/x=some 124\/x=some 41
def endU (x:Option Nat):Prop:=x=none\/x=some 41
theorem endU.j {x:Option Nat}(h:endU x):endJ x:=h.imp id .inr
theorem endJ.suf {x:Option Nat}(h:endJ x):noSuf x:=by
 rcases h with rfl|rfl|rfl<;>simp[noSuf]
theorem b0u (h:endJ (bt S p)):Rd S 1 d (.jnl l) p (finJ l,p):=by
 intro f hf
 obtain ⟨g,rfl,hg⟩:=a0G hf
 rcases h with h|h|h<;>simp[prs,h]
theorem rd_un (h1:Rd S K d .jn p (n,q))(h2:Rd S K' d (.unl [n]) q r):Rd S (K+K'+1) d .un p r:=by
 intro f hf
 obtain ⟨g,rfl,hg⟩:=a0G hf
 simp only[prs,h1 g (by omega),h2 g (by omega)]
theorem b0v (h:endU (bt S p)):Rd S 1 d (.unl l) p (finU l,p):=by
 intro f hf
 obtain ⟨g,rfl,hg⟩:=a0G hf
 rcases h with h|h<;>simp[prs,h]
theorem b1a (hb:bt S p=some 40)(hd:d<30)(h:Rd S K (d+1) .un (p+1) (n,q))(h2:bt S q=some 41):Rd S (K+1) d .at p (n,q+1):=by
 intro f hf
 obtain ⟨g,rfl,hg⟩:=a0G hf
 simp only[prs,hb]
 simp only[if_true,if_neg (show ¬30<=d by omega),h g hg,h2]
end
section
variable {S:ByteArray}
def PS (S:ByteArray)(n:Nd):Prop:=∀(d p K:Nat) (r:Nd × Nat),d+dp n<=30->Sd S p (pcT n)->Rd S K d (.pcl n) (p+(pcT n).length) r->Rd S (K+cst n+10) d .pc p r
def JS (S:ByteArray)(n:Nd):Prop:=∀(d p:Nat),d+dp n<=30->Sd S p (jnT n)->endJ (bt S (p+(jnT n).length))->Rd S (cst n+15) d .jn p (n,p+(jnT n).length)
def US (S:ByteArray)(n:Nd):Prop:=∀(d p:Nat),d+dp n<=(if (isU n || isJ n)=true then 31 else 30)->Sd S p (txt n)->endU (bt S (p+(txt n).length))->Rd S (cst n+if (isU n || isJ n)=true then 0 else 18) d .un p (n,p+(txt n).length)
theorem PS.one {n:Nd}(h:PS S n){d p:Nat}(hd:d+dp n<=30)(hs:Sd S p (pcT n))(he:noSuf (bt S (p+(pcT n).length))):Rd S (cst n+11) d .pc p (n,p+(pcT n).length):=
 (h d p 1 _ hd hs (b0t he)).le (by omega)
theorem PS.js {n:Nd}(h:PS S n)(hj:isJ n=false):JS S n:=by
 intro d p hd hs he
 have e:jnT n=pcT n:=by simp[jnT,pcT,hj]
 rw[e] at hs he ⊢
 exact (rd_jn (h.one hd hs he.suf) (b0u he)).le (by omega)
theorem JS.us {n:Nd}(h:JS S n)(hu:isU n=false){d p:Nat}(hd:d+dp n<=30)(hs:Sd S p (txt n))(he:endU (bt S (p+(txt n).length))):Rd S (cst n+17) d .un p (n,p+(txt n).length):=by
 have e:jnT n=txt n:=by simp[jnT,prn,hu]
 have h1:=h d p hd (by rw[e]; exact hs) (by rw[e]; exact he.j)
 rw[e] at h1
 exact (rd_un h1 (b0v he)).le (by omega)
theorem b1b {n:Nd}(hb:(isU n || isJ n)=true):1<=dp n:=by
 cases n<;>simp[isU,isJ] at hb<;>rw[dp]<;>omega
theorem US.ps {n:Nd}(h:US S n)(hb:(isU n || isJ n)=true):PS S n:=by
 intro d p K r hd hs hr
 have h1:=b1b hb
 have e:pcT n=40::(txt n++[41]):=by simp only[pcT,prn,hb,if_true]
 rw[e] at hs hr
 obtain ⟨h0,hs⟩:=hs
 obtain ⟨h1,h2⟩:=a9g.1 hs
 obtain ⟨h2,_⟩:=h2
 have hu:=h (d+1) (p+1) (by rw[if_pos hb]; omega) h1 (.inr h2)
 rw[if_pos hb] at hu
 have h3:=b1a h0 (by omega) hu h2
 simp only[List.length_cons,List.length_append,List.length_nil] at hr
 rw[show p+((txt n).length+(0+1)+1)=p+1+(txt n).length+1 by omega] at hr
 exact (rd_pc h3 hr).le (by omega)
end
end Go.Gm
namespace Go.Gm.AQ
open Go Go.Gm
mutual
def gdB:Nd->Bool
 |.set s=>decide (1<=s/\s<=31)
 |.emp=>true
 |.eps=>true
 |.join l=>decide (2<=l.length/\l.length<=1000) && gdBs l
 |.uni l=>decide (2<=l.length/\l.length<=1000) && gdBs l
 |.star n=>gdB n
 |.plus n=>gdB n
 |.opt n=>gdB n
 |.rep a b n=>decide (a<=b/\b<=9) && gdB n
def gdBs:List Nd->Bool
 |[]=>true
 |n::l=>gdB n && gdBs l
end
structure Kn where
 n:Nd
 u:Nat
 b:Int
 l:List Nat
 p:List Int
 deriving Inhabited
end Go.Gm.AQ
namespace Go.Gm.AQ
open Go Go.Gm
theorem y0_ (es:List E)(v:Int)(l l':List Nat):atV es v (l++l')=atV es (atV es v l) l':=by simp[atV]
theorem o8_ (es:List E)(l l':List Nat):atC es (l++l')=atC es l+atC es l':=by
 have:∀(l':List Nat) (c:Int),l'.foldl (fun c e=>c+(eg es e).co) c=c+l'.foldl (fun c e=>c+(eg es e).co) 0:=by
  intro l'
  induction l' with
  |nil=>intro c; simp
  |cons a l' ih=>intro c; rw[List.foldl_cons,List.foldl_cons,ih,ih (0+_)]; omega
 rw[atC,List.foldl_append,this]; rfl
theorem a4e {es:List E}{v:Int}{l l':List Nat}(h:OkW es v l)(h':OkW es (atV es v l) l'):OkW es v (l++l'):=by
 intro i e hi
 by_cases q:i<l.length
 ·rw[List.getElem?_append_left q] at hi
  rw[List.take_append_of_le_length (by omega)]
  exact h i e hi
 ·rw[List.getElem?_append_right (by omega)] at hi
  have:=h' _ e hi
  rw[List.take_append,List.take_of_length_le (by omega),y0_]
  exact this
structure Tn where
 n:Nd
 r:List (Nat × Nat)
 deriving Inhabited
end Go.Gm.AQ
namespace Go.Gm.AQ
open Go Go.Gm
theorem OkW.cons {es:List E}{v:Int}{e:Nat}{l:List Nat}(h1:e<es.length)(h2:(eg es e).fr=v)(h:OkW es (eg es e).to l):OkW es v (e::l):=by
 have h3:OkW es v [e]:=by
  intro i e' hi
  cases i with
  |zero=>simp at hi; subst hi; exact ⟨h1,h2⟩
  |succ i=>simp at hi
 exact a4e (l:=[e]) h3 h
theorem OkW.uncons {es:List E}{v:Int}{e:Nat}{l:List Nat}(h:OkW es v (e::l)):e<es.length/\(eg es e).fr=v/\OkW es (eg es e).to l:=by
 have h0:=h 0 e rfl
 refine ⟨h0.1,h0.2,fun i e' hi=>?_⟩
 exact h (i+1) e' hi
theorem b0w {es:List E}(co:COk es){l:List Nat}(h:∀e∈l,e<es.length):0<=atC es l:=(a4c co l h 0).1
inductive Sg (es:List E) (G:Int->Prop) (m:Int):Int->Int->List Nat->Prop
 |one {u w:Int} {e:Nat}:e<es.length->(eg es e).md=m->(eg es e).fr=u->(eg es e).to=w->Sg es G m u w [e]
 |cons {u z w:Int} {e:Nat} {l:List Nat}:e<es.length->(eg es e).md=m->(eg es e).fr=u->(eg es e).to=z->G z->Sg es G m z w l->Sg es G m u w (e::l)
section
variable {es:List E} {G G':Int->Prop} {m u w z v:Int} {l l':List Nat}
theorem Sg.ok (h:Sg es G m u w l):OkW es u l/\atV es u l=w/\l≠[]:=by
 induction h with
 |one h1 h2 h3 h4=>exact ⟨.cons h1 h3 (fun i e hi=>by simp at hi),h4,by simp⟩
 |cons h1 h2 h3 h4 h5 h6 ih=>
  obtain ⟨i1,i2,i3⟩:=ih
  subst h4
  exact ⟨.cons h1 h3 i1,i2,by simp⟩
theorem Sg.cost (co:COk es)(h:Sg es G m u w l):0<=atC es l:=b0w co h.ok.1.mem
theorem Sg.mono (h:Sg es G m u w l)(hg:∀x,G x->G' x):Sg es G' m u w l:=by
 induction h with
 |one h1 h2 h3 h4=>exact .one h1 h2 h3 h4
 |cons h1 h2 h3 h4 h5 h6 ih=>exact .cons h1 h2 h3 h4 (hg _ h5) ih
theorem Sg.app (h:Sg es G m u z l)(hz:G z)(h':Sg es G m z w l'):Sg es G m u w (l++l'):=by
 induction h with
 |one h1 h2 h3 h4=>exact .cons h1 h2 h3 h4 hz h'
 |cons h1 h2 h3 h4 h5 h6 ih=>exact .cons h1 h2 h3 h4 h5 (ih hz h')
theorem Sg.split (h:Sg es (fun x=>G x\/x=v) m u w l):Sg es G m u w l\/∃l1 l2,l=l1++l2/\Sg es G m u v l1/\Sg es (fun x=>G x\/x=v) m v w l2:=by
 induction h with
 |one h1 h2 h3 h4=>exact .inl (.one h1 h2 h3 h4)
 |@cons u z w e l h1 h2 h3 h4 h5 h6 ih=>
  by_cases q:z=v
  ·subst q
   exact .inr ⟨[e],l,rfl,.one h1 h2 h3 h4,h6⟩
  ·have hg:=h5.resolve_right q
   rcases ih with i|⟨l1,l2,rfl,i2,i3⟩
   ·exact .inl (.cons h1 h2 h3 h4 hg i)
   ·exact .inr ⟨e::l1,l2,rfl,.cons h1 h2 h3 h4 hg i2,i3⟩
theorem Sg.last (co:COk es):∀(n:Nat) {l:List Nat},l.length<=n->Sg es (fun x=>G x\/x=v) m v w l->∃l',Sg es G m v w l'/\atC es l'<=atC es l
 |0,l,hn,h=>absurd (List.length_eq_zero_iff.1 (by omega)) h.ok.2.2
 |n+1,l,hn,h=>by
  rcases h.split with i|⟨l1,l2,rfl,i2,i3⟩
  ·exact ⟨l,i,Int.le_refl _⟩
  ·have:l1.length≠0:=fun q=>i2.ok.2.2 (List.length_eq_zero_iff.1 q)
   rw[List.length_append] at hn
   obtain ⟨l',k1,k2⟩:=Sg.last co n (by omega) i3
   have:=i2.cost co
   exact ⟨l',k1,by rw[o8_]; omega⟩
theorem Sg.first (co:COk es)(h:Sg es (fun x=>G x\/x=v) m u v l):∃l',Sg es G m u v l'/\atC es l'<=atC es l:=by
 rcases h.split with i|⟨l1,l2,rfl,i2,i3⟩
 ·exact ⟨l,i,Int.le_refl _⟩
 ·have:=i3.cost co
  exact ⟨l1,i2,by rw[o8_]; omega⟩
def ivs (es:List E)(l:List Nat):List Int:=l.dropLast.map fun e=>(eg es e).to
theorem a1T {e:Nat}(hl:l≠[]):ivs es (e::l)=(eg es e).to::ivs es l:=by
 obtain ⟨a,l',rfl⟩:=List.exists_cons_of_ne_nil hl
 rfl
theorem b0x (h:Sg es G m u z l)(h':l'≠[]):ivs es (l++l')=ivs es l++z::ivs es l':=by
 induction h with
 |one h1 h2 h3 h4=>
  rw[List.singleton_append,a1T h',h4]; rfl
 |cons h1 h2 h3 h4 h5 h6 ih=>
  rw[List.cons_append,a1T (by simp[h']),ih,a1T h6.ok.2.2]; rfl
theorem Sg.inner (h:Sg es G m u w l):∀x∈ivs es l,G x:=by
 induction h with
 |one h1 h2 h3 h4=>intro x hx; cases hx
 |cons h1 h2 h3 h4 h5 h6 ih=>
  intro x hx
  rw[a1T h6.ok.2.2] at hx
  rcases List.mem_cons.1 hx with rfl|hx
  ·rw[h4]; exact h5
  ·exact ih x hx
theorem Sg.at (h:Sg es G m u w l)(hz:z∈ivs es l):∃p q,l=p++q/\Sg es G m u z p/\Sg es G m z w q:=by
 induction h with
 |one h1 h2 h3 h4=>cases hz
 |@cons u y w e l h1 h2 h3 h4 h5 h6 ih=>
  rw[a1T h6.ok.2.2] at hz
  rcases List.mem_cons.1 hz with rfl|hz
  ·rw[h4]
   exact ⟨[e],l,rfl,.one h1 h2 h3 h4,h6⟩
  ·obtain ⟨p,q,rfl,k1,k2⟩:=ih hz
   exact ⟨e::p,q,rfl,.cons h1 h2 h3 h4 h5 k1,k2⟩
theorem a6O:∀(n:Nat) (l:List Int),l.Nodup->(∀x∈l,0<=x/\x<n)->l.length<=n
 |0,l,_,h=>by
  cases l with
  |nil=>simp
  |cons a l=>have:=h a (by simp); omega
 |n+1,l,hn,h=>by
  have h1:=a6O n (l.erase (n:Int)) (hn.erase _) (fun x hx=>by
   rw[hn.mem_erase_iff] at hx
   have:=h x hx.2
   have:=hx.1
   omega)
  have h2:l.length<=(l.erase (n:Int)).length+1:=by
   rw[List.length_erase]
   split<;>omega
  omega
end
def Stdy (D:List (List Int)):Prop:=∀s m:Int,0<=s->s<D.length->0<=m->m<5->nx D (nx D s m) m=nx D s m
theorem Sg.md {N:Nat}{es:List E}{G:Int->Prop}{m u w:Int}{l:List Nat}(no:NetOk N es)(h:Sg es G m u w l):0<=m/\m<5:=by
 cases h with
 |one h1 h2 h3 h4=>
  have:=no.edge _ (a4_ (xs:=es) (i:=((_:Nat):Int)) (by omega) (Int.ofNat_lt.2 h1))
  subst h2
  exact ⟨this.2.2.2.2.1,this.2.2.2.2.2⟩
 |cons h1 h2 h3 h4 h5 h6=>
  have:=no.edge _ (a4_ (xs:=es) (i:=((_:Nat):Int)) (by omega) (Int.ofNat_lt.2 h1))
  subst h2
  exact ⟨this.2.2.2.2.1,this.2.2.2.2.2⟩
theorem Sg.st {N:Nat}{es:List E}{D:List (List Int)}{acc:List Bool}{G:Int->Prop}{m u w:Int}{l:List Nat}(no:NetOk N es)(ok:DOk D acc)(sd:Stdy D)(h:Sg es G m u w l):∀s:Int,0<=s->s<D.length->atS es D s l=nx D s m:=by
 induction h with
 |one h1 h2 h3 h4=>intro s _ _; show nx D s _=_; rw[h2]
 |@cons u y w e l h1 h2 h3 h4 h5 h6 ih=>
  intro s s0 s1
  have hm:=h6.md no
  have:=ok.to s m s0 s1 hm.1 hm.2
  show atS es D (nx D s (eg es e).md) l=_
  rw[h2,ih _ this.1 this.2,sd s m s0 s1 hm.1 hm.2]
def OneM (es:List E)(v:Int):Prop:=∀e e':Nat,e<es.length->e'<es.length->((eg es e).fr=v\/(eg es e).to=v)->((eg es e').fr=v\/(eg es e').to=v)->(eg es e).md=(eg es e').md
theorem Sg.hd {es:List E}{G:Int->Prop}{m u w:Int}{l:List Nat}(h:Sg es G m u w l):∃e,e<es.length/\(eg es e).fr=u/\(eg es e).md=m:=by
 cases h with
 |one h1 h2 h3 h4=>exact ⟨_,h1,h3,h2⟩
 |cons h1 h2 h3 h4 h5 h6=>exact ⟨_,h1,h3,h2⟩
theorem splitA {es:List E}{G:Int->Prop}(om:∀x,G x->OneM es x):∀{l:List Nat} {x:Int},OkW es x l->l≠[]->(∃m,Sg es G m x (atV es x l) l)\/∃m z l1 l2,l=l1++l2/\Sg es G m x z l1/\¬G z/\OkW es z l2
 |[],x,_,h=>absurd rfl h
 |e::l,x,h,_=>by
  obtain ⟨h1,h2,h3⟩:=h.uncons
  by_cases q:l=[]
  ·subst q
   exact .inl ⟨_,.one h1 rfl h2 rfl⟩
  ·by_cases g:G (eg es e).to
   ·have key:∀{m z:Int} {l1:List Nat},Sg es G m (eg es e).to z l1->Sg es G m x z (e::l1):=by
     intro m z l1 hs
     obtain ⟨e',k1,k2,k3⟩:=hs.hd
     exact .cons h1 ((om _ g e e' h1 k1 (.inr rfl) (.inl k2)).trans k3) h2 rfl g hs
    rcases splitA om h3 q with ⟨m,i⟩|⟨m,z,l1,l2,rfl,i2,i3,i4⟩
    ·exact .inl ⟨m,key i⟩
    ·exact .inr ⟨m,z,e::l1,l2,rfl,key i2,i3,i4⟩
   ·exact .inr ⟨_,_,[e],l,rfl,.one h1 rfl h2 rfl,g,h3⟩
theorem splitZ {es:List E}{G:Int->Prop}(om:∀x,G x->OneM es x):∀(n:Nat) {l:List Nat} {x:Int},l.length<=n->OkW es x l->¬G x->G (atV es x l)->∃m z l1 l2,l=l1++l2/\OkW es x l1/\atV es x l1=z/\¬G z/\Sg es G m z (atV es x l) l2
 |n,[],x,_,_,h1,h2=>absurd h2 h1
 |0,e::l,x,hn,_,_,_=>absurd hn (by simp)
 |n+1,e::l,x,hn,h,hx,hy=>by
  rcases splitA om h (by simp) with ⟨m,i⟩|⟨m,z,l1,l2,he,i2,i3,i4⟩
  ·exact ⟨m,x,[],e::l,rfl,fun i e hi=>by simp at hi,rfl,hx,i⟩
  ·have h1:=i2.ok
   have hz:atV es x (e::l)=atV es z l2:=by rw[he,y0_,h1.2.1]
   rw[hz] at hy ⊢
   have hlen:(e::l).length=l1.length+l2.length:=by rw[he,List.length_append]
   have:l1.length≠0:=fun q=>h1.2.2 (List.length_eq_zero_iff.1 q)
   obtain ⟨m',z',k1,k2,k3,k4,k5,k6,k7⟩:=splitZ om n (by omega) i4 i3 hy
   refine ⟨m',z',l1++k1,k2,by rw[he,k3,List.append_assoc],a4e h1.1 (by rw[h1.2.1]; exact k4),by rw[y0_,h1.2.1,k5],k6,k7⟩
end Go.Gm.AQ
namespace Go.Gm.AQ
open Go Go.Gm
abbrev HopR:=Int->Int->Bool->Int->Int->Bool->Int->Prop
inductive Pq (R:HopR):Int->Int->Bool->Int->Int->Bool->Int->Prop
 |nil {v s:Int} {b:Bool}:Pq R v s b v s b 0
 |snoc {v s v1 s1 v2 s2 c w:Int} {b b1 b2:Bool}:Pq R v s b v1 s1 b1 c->R v1 s1 b1 v2 s2 b2 w->Pq R v s b v2 s2 b2 (c+w)
theorem Pq.cons {R:HopR}{v s v1 s1 v2 s2 c w:Int}{b b1 b2:Bool}(h:R v s b v1 s1 b1 w)(p:Pq R v1 s1 b1 v2 s2 b2 c):Pq R v s b v2 s2 b2 (w+c):=by
 induction p with
 |nil=>rw[Int.add_comm]; exact .snoc .nil h
 |snoc p k ih=>rw[<-Int.add_assoc]; exact .snoc (ih h) k
section
variable {N:Nat} {es:List E} {D:List (List Int)} {acc:List Bool} {G:Int->Prop} {U Dn:Int->Int->Int->Int->Prop} {R:HopR} {v:Int}
structure HR (D:List (List Int)) (U Dn:Int->Int->Int->Int->Prop) (R:HopR):Prop where
 up:∀v w m c s:Int,U v w m c->0<=s->s<D.length->R v s false w (nx D s m) false c
 dn:∀(v u m c s:Int) (b:Bool),Dn v u m c->0<=s->s<D.length->R u s b v (nx D s m) true c
structure Stg (es:List E) (G:Int->Prop) (U Dn:Int->Int->Int->Int->Prop) (v:Int):Prop where
 up:∀w m l,¬G w->Sg es G m v w l->∃c,U v w m c/\c<=atC es l
 dn:∀u m l,¬G u->u≠v->Sg es G m u v l->∃c,Dn v u m c/\c<=atC es l
def Cmp (es:List E)(D:List (List Int))(R:HopR)(G:Int->Prop):Prop:=
 ∀(l:List Nat) (x s:Int),¬G x->¬G (atV es x l)->OkW es x l->0<=s->s<D.length->∃b c,Pq R x s false (atV es x l) (atS es D s l) b c/\c<=atC es l
theorem a2P (es:List E)(D:List (List Int))(s:Int)(l l':List Nat):atS es D s (l++l')=atS es D (atS es D s l) l':=by simp[atS]
theorem a2n (ok:DOk D acc)(no:NetOk N es){x:Int}{l:List Nat}(h:OkW es x l){s:Int}(s0:0<=s)(s1:s<D.length):0<=atS es D s l/\atS es D s l<D.length:=by
 rw[a1Q]; exact a0F ok _ s s0 s1 (h.md no)
theorem a9I (no:NetOk N es)(ok:DOk D acc)(co:COk es)(sd:Stdy D)(hr:HR D U Dn R)(om:∀x,G x->OneM es x)(st:∀v w m l,¬G v->¬G w->Sg es G m v w l->∃c,U v w m c/\c<=atC es l):Cmp es D R G:=by
 have main:∀(n:Nat) (l:List Nat) (x s:Int),l.length<=n->¬G x->¬G (atV es x l)->OkW es x l->0<=s->s<D.length->∃b c,Pq R x s false (atV es x l) (atS es D s l) b c/\c<=atC es l:=by
  intro n
  induction n with
  |zero=>
   intro l x s hn hx hy h s0 s1
   obtain rfl:=List.length_eq_zero_iff.1 (Nat.le_zero.1 hn)
   exact ⟨_,_,.nil,Int.le_refl _⟩
  |succ n ih=>
   intro l x s hn hx hy h s0 s1
   by_cases hl:l=[]
   ·subst hl; exact ⟨_,_,.nil,Int.le_refl _⟩
   rcases splitA om h hl with ⟨m,i⟩|⟨m,z,l1,l2,rfl,i2,i3,i4⟩
   ·obtain ⟨c,k1,k2⟩:=st x _ m l hx hy i
    rw[i.st no ok sd s s0 s1]
    exact ⟨_,0+c,.snoc .nil (hr.up _ _ _ _ _ k1 s0 s1),by omega⟩
   ·have h1:=i2.ok
    have:l1.length≠0:=fun q=>h1.2.2 (List.length_eq_zero_iff.1 q)
    rw[List.length_append] at hn
    obtain ⟨c,k1,k2⟩:=st x _ m l1 hx i3 i2
    rw[y0_,h1.2.1] at hy
    have hs:=a2n ok no h1.1 s0 s1
    obtain ⟨b,c',p1,p2⟩:=ih l2 z (atS es D s l1) (by omega) i3 hy i4 hs.1 hs.2
    rw[y0_,h1.2.1,a2P,o8_]
    refine ⟨b,c+c',.cons ?_ p1,by omega⟩
    rw[i2.st no ok sd s s0 s1]
    exact hr.up _ _ _ _ _ k1 s0 s1
 exact fun l x s=>main l.length l x s (Nat.le_refl _)
theorem a9h (no:NetOk N es)(ok:DOk D acc)(co:COk es)(sd:Stdy D)(hr:HR D U Dn R)(om:∀x,G x\/x=v->OneM es x)(gv:¬G v)(st:Stg es G U Dn v)(cm:Cmp es D R (fun x=>G x\/x=v)):Cmp es D R G:=by
 have one:∀(l:List Nat) (x s:Int),¬G x->x≠v->¬G (atV es x l)->OkW es x l->0<=s->s<D.length->∃b c,Pq R x s false (atV es x l) (atS es D s l) b c/\c<=atC es l:=by
  intro l x s hx hxv hy h s0 s1
  by_cases hv:atV es x l=v
  ·obtain ⟨m,z,l1,l2,rfl,k2,k3,k4,k5⟩:=splitZ om l.length (Nat.le_refl _) h (fun q=>q.elim hx hxv) (.inr hv)
   rw[hv] at k5
   obtain ⟨l',q1,q2⟩:=k5.first co
   obtain ⟨c,u1,u2⟩:=st.dn z m l' (fun q=>k4 (.inl q)) (fun q=>k4 (.inr q)) q1
   obtain ⟨b,c',p1,p2⟩:=cm l1 x s (fun q=>q.elim hx hxv) (by rw[k3]; exact k4) k2 s0 s1
   have hs:=a2n ok no k2 s0 s1
   rw[k3] at p1
   rw[hv,a2P,o8_,k5.st no ok sd _ hs.1 hs.2]
   exact ⟨true,c'+c,.snoc p1 (hr.dn _ _ _ _ _ b u1 hs.1 hs.2),by omega⟩
  ·exact cm l x s (fun q=>q.elim hx hxv) (fun q=>q.elim hy hv) h s0 s1
 intro l x s hx hy h s0 s1
 by_cases hxv:x=v
 ·subst hxv
  by_cases hl:l=[]
  ·subst hl; exact ⟨_,_,.nil,Int.le_refl _⟩
  rcases splitA om h hl with ⟨m,i⟩|⟨m,z,l1,l2,rfl,i2,i3,i4⟩
  ·obtain ⟨l',q1,q2⟩:=i.last co l.length (Nat.le_refl _)
   obtain ⟨c,k1,k2⟩:=st.up _ m l' hy q1
   rw[i.st no ok sd s s0 s1]
   exact ⟨_,0+c,.snoc .nil (hr.up _ _ _ _ _ k1 s0 s1),by omega⟩
  ·have h1:=i2.ok
   obtain ⟨l',q1,q2⟩:=i2.last co l1.length (Nat.le_refl _)
   obtain ⟨c,k1,k2⟩:=st.up _ m l' (fun q=>i3 (.inl q)) q1
   rw[y0_,h1.2.1] at hy
   have hs:=a2n ok no h1.1 s0 s1
   obtain ⟨b,c',p1,p2⟩:=one l2 z (atS es D s l1) (fun q=>i3 (.inl q)) (fun q=>i3 (.inr q)) hy i4 hs.1 hs.2
   rw[y0_,h1.2.1,a2P,o8_]
   refine ⟨b,c+c',.cons ?_ p1,by omega⟩
   rw[i2.st no ok sd s s0 s1]
   exact hr.up _ _ _ _ _ k1 s0 s1
 ·exact one l x s hx hxv hy h s0 s1
theorem a6P (no:NetOk N es)(ok:DOk D acc)(co:COk es)(sd:Stdy D)(hr:HR D U Dn R):∀(vs:List Int) (G:Int->Prop),(∀x,G x\/x∈vs->OneM es x)->vs.Nodup->(∀x∈vs,¬G x)->
  (∀(a b:List Int) (v:Int),vs=a++v::b->Stg es (fun x=>G x\/x∈a) U Dn v)->(∀v w m l,¬(G v\/v∈vs)->¬(G w\/w∈vs)->Sg es (fun x=>G x\/x∈vs) m v w l->∃c,U v w m c/\c<=atC es l)->Cmp es D R G
 |[],G,om,_,_,_,fin=>by
  have e:(fun x=>G x\/x∈([]:List Int))=G:=by funext x; simp
  rw[e] at fin
  exact a9I no ok co sd hr (fun x h=>om x (.inl h)) (fun v w m l h h' hs=>fin v w m l (by simpa using h) (by simpa using h') hs)
 |v::vs,G,om,nd,ng,st,fin=>by
  have nd':=List.nodup_cons.1 nd
  have e:∀a:List Int,(fun x=>(G x\/x=v)\/x∈a)=(fun x=>G x\/x∈v::a):=by intro a; funext x; simp[or_assoc]
  refine a9h no ok co sd hr (v:=v) (fun x h=>om x (h.imp id (fun q=>by simp[q]))) (ng v (by simp)) ?_ (a6P no ok co sd hr vs (fun x=>G x\/x=v) (fun x h=>om x (by rw[or_assoc] at h; exact h.imp id (fun q=>by simpa using q))) nd'.2 (fun x hx q=>q.elim (ng x (List.mem_cons_of_mem _ hx)) (fun q=>nd'.1 (q▸hx))) (fun a b w hw=>?_) (fun w x m l hw hx hs=>?_))
  ·have:=st [] vs v rfl
   have e0:(fun x=>G x\/x∈([]:List Int))=G:=by funext x; simp
   rwa [e0] at this
  ·rw[e]; exact st (v::a) b w (by rw[hw]; rfl)
  ·rw[e] at hs; exact fin w x m l (by rw[or_assoc] at hw; simpa using hw) (by rw[or_assoc] at hx; simpa using hx) hs
end
end Go.Gm.AQ
namespace Go.Gm.AQ
open Go Go.Gm
structure Ar where
 fr:Int
 to:Int
 md:Int
 co:Int
 ed:Int
 a:Int
 b:Int
 deriving Inhabited
inductive Unp (A:List Ar):Nat->List Nat->Prop
 |edge {k:Nat} {a:Ar}:A[k]?=some a->0<=a.ed->Unp A k [a.ed.toNat]
 |two {k i j:Nat} {a:Ar} {l1 l2:List Nat}:A[k]?=some a->a.ed = -1->a.a=i->a.b=j->i<k->j<k->Unp A i l1->Unp A j l2->Unp A k (l1++l2)
theorem Unp.app {A:List Ar}{k:Nat}{l:List Nat}(h:Unp A k l)(B:List Ar):Unp (A++B) k l:=by
 have get:∀{k:Nat} {a:Ar},A[k]?=some a->(A++B)[k]?=some a:=fun {k a} h=>by
  rw[List.getElem?_append_left (List.getElem?_eq_some_iff.1 h).1]; exact h
 induction h with
 |edge h1 h2=>exact .edge (get h1) h2
 |two h1 h2 h3 h4 h5 h6 _ _ i1 i2=>exact .two (get h1) h2 h3 h4 h5 h6 i1 i2
abbrev cu (N:Nat)(C:List Int)(u w m:Int):Int:=gi C ((u*N+w)*5+m)
theorem cu_lt {N:Nat}{u w m:Int}(u0:0<=u)(u1:u<N)(w0:0<=w)(w1:w<N)(m0:0<=m)(m1:m<5):0<=(u*N+w)*5+m/\(u*N+w)*5+m<((N*N*5:Nat):Int):=by
 have h1:0<=u*(N:Int):=Int.mul_nonneg u0 (by omega)
 have h2:(u+1)*(N:Int)<=N*N:=Int.mul_le_mul_of_nonneg_right (by omega) (by omega)
 rw[Int.add_mul] at h2
 have h3:((N*N*5:Nat):Int)=(N:Int)*N*5:=by simp
 rw[h3]
 generalize (N:Int)*N=q at *
 generalize u*(N:Int)=p at *
 omega
theorem a9i {N:Nat}{u w m u' w' m':Int}(w0:0<=w)(w1:w<N)(m0:0<=m)(m1:m<5)(w0':0<=w')(w1':w'<N)(m0':0<=m')(m1':m'<5)(h:(u*N+w)*5+m=(u'*N+w')*5+m'):u=u'/\w=w'/\m=m':=by
 have h1:m=m':=by generalize u*(N:Int)=p at h; generalize u'*(N:Int)=p' at h; omega
 have h2:u*N+w=u'*N+w':=by generalize u*(N:Int)=p at h ⊢; generalize u'*(N:Int)=p' at h ⊢; omega
 have h3:u=u':=by
  have a:=Int.add_mul_ediv_right w u (c:=N) (by omega)
  have b:=Int.add_mul_ediv_right w' u' (c:=N) (by omega)
  rw[Int.ediv_eq_zero_of_lt w0 w1] at a
  rw[Int.ediv_eq_zero_of_lt w0' w1'] at b
  have:w+u*N=w'+u'*N:=by omega
  rw[this] at a
  omega
 subst h3
 exact ⟨rfl,by omega,h1⟩
abbrev ArcG (es:List E)(G:Int->Prop)(A:List Ar)(k:Nat)(a:Ar):Prop:=∃l,Unp A k l/\Sg es G a.md a.fr a.to l/\atC es l=a.co/\(ivs es l).Nodup
structure CI0 (es:List E) (N:Nat) (G:Int->Prop) (A:List Ar) (C:List Int):Prop where
 len:C.length=N*N*5
 arc:∀k a,A[k]?=some a->ArcG es G A k a
 cur:∀u w m:Int,0<=u->u<N->0<=w->w<N->0<=m->m<5->0<=cu N C u w m/\cu N C u w m<=A.length/\(0<cu N C u w m->(gi A (cu N C u w m-1)).fr=u/\(gi A (cu N C u w m-1)).to=w/\(gi A (cu N C u w m-1)).md=m)
structure CI (es:List E) (N:Nat) (G:Int->Prop) (A:List Ar) (C:List Int):Prop extends CI0 es N G A C where
 cov:∀u w m l,¬G u->¬G w->Sg es G m u w l->0<cu N C u w m/\(gi A (cu N C u w m-1)).co<=atC es l
def shortP (N:Nat)(A:List Ar)(C:List Int)(a b:Int):List Ar × List Int:=
 if ¬(gi A a).md=(gi A b).md\/(gi A b).to=(gi A a).to then (A,C) else
 if cu N C (gi A a).fr (gi A b).to (gi A a).md=0\/(gi A a).co+(gi A b).co<(gi A (cu N C (gi A a).fr (gi A b).to (gi A a).md-1)).co then
  (A++[⟨(gi A a).fr,(gi A b).to,(gi A a).md,(gi A a).co+(gi A b).co,-1,a,b⟩],C.set (((gi A a).fr*N+(gi A b).to)*5+(gi A a).md).toNat (A.length+1))
 else (A,C)
theorem Sg.range {N:Nat}{es:List E}{G:Int->Prop}{m u w:Int}{l:List Nat}(no:NetOk N es)(h:Sg es G m u w l):(0<=u/\u<N)/\0<=w/\w<N:=by
 induction h with
 |@one u w e h1 h2 h3 h4=>
  have:=no.edge _ (a4_ (xs:=es) (i:=(e:Int)) (by omega) (Int.ofNat_lt.2 h1))
  subst h3 h4
  exact ⟨⟨this.1,this.2.1⟩,this.2.2.1,this.2.2.2.1⟩
 |@cons u y w e l h1 h2 h3 h4 h5 h6 ih=>
  have:=no.edge _ (a4_ (xs:=es) (i:=(e:Int)) (by omega) (Int.ofNat_lt.2 h1))
  subst h3
  exact ⟨⟨this.1,this.2.1⟩,ih.2⟩
structure CJ (es:List E) (N:Nat) (G:Int->Prop) (v:Int) (A0:List Ar) (C0:List Int) (P:Int->Int->Prop) (A:List Ar) (C:List Int):Prop extends CI0 es N (fun x=>G x\/x=v) A C where
 pre:∀k:Int,0<=k->k<A0.length->gi A k=gi A0 k
 le:A0.length<=A.length
 dec:∀u w m:Int,0<=u->u<N->0<=w->w<N->0<=m->m<5->0<cu N C0 u w m->0<cu N C u w m/\(gi A (cu N C u w m-1)).co<=(gi A0 (cu N C0 u w m-1)).co
 don:∀a b:Int,P a b->0<=a->a<A0.length->0<=b->b<A0.length->(gi A0 a).md=(gi A0 b).md->(gi A0 b).to≠v->0<cu N C (gi A0 a).fr (gi A0 b).to (gi A0 a).md/\(gi A (cu N C (gi A0 a).fr (gi A0 b).to (gi A0 a).md-1)).co<=(gi A0 a).co+(gi A0 b).co
section
variable {N:Nat} {es:List E} {G:Int->Prop} {v:Int} {A0 A:List Ar} {C0 C:List Int} {P:Int->Int->Prop}
theorem CI.start (ci:CI es N G A C):CJ es N G v A C (fun _ _=>False) A C:=
 ⟨⟨ci.len,fun k a h=>by
  obtain ⟨l,h1,h2,h3⟩:=ci.arc k a h
  exact ⟨l,h1,h2.mono fun x q=>.inl q,h3⟩,ci.cur⟩,fun k _ _=>rfl,Nat.le_refl _,fun u w m _ _ _ _ _ _ h=>⟨h,Int.le_refl _⟩,fun a b h=>h.elim⟩
theorem CI.arcI (ci:CI es N G A C){k:Int}(k0:0<=k)(k1:k<A.length):ArcG es G A k.toNat (gi A k):=ci.arc _ _ (a7_ k0 k1)
theorem CJ.step (no:NetOk N es)(co:COk es)(ci:CI es N G A0 C0)(gv:¬G v)(cj:CJ es N G v A0 C0 P A C){a b:Int}(a0:0<=a)(a1:a<A0.length)(b0:0<=b)(b1:b<A0.length)(xa:(gi A0 a).to=v)(xg:¬G (gi A0 a).fr)(yb:(gi A0 b).fr=v)(yg:¬G (gi A0 b).to) :
  CJ es N G v A0 C0 (fun i j=>P i j\/(i=a/\j=b)) (shortP N A C a b).1 (shortP N A C a b).2:=by
 have ea:=cj.pre a a0 a1
 have eb:=cj.pre b b0 b1
 obtain ⟨l1,q1,q2,q3,q4⟩:=ci.arcI a0 a1
 obtain ⟨l2,r1,r2,r3,r4⟩:=ci.arcI b0 b1
 have ra:=q2.range no
 have rb:=r2.range no
 have ma:=q2.md no
 simp only[shortP,ea,eb]
 split
 ·rename_i h
  refine ⟨cj.toCI0,cj.pre,cj.le,cj.dec,fun i j hp i0 i1 j0 j1 h1 h2=>?_⟩
  rcases hp with hp|⟨rfl,rfl⟩
  ·exact cj.don i j hp i0 i1 j0 j1 h1 h2
  ·rcases h with h|h
   ·exact absurd h1 h
   ·exact absurd (h.trans xa) h2
 rename_i h
 have hm:(gi A0 a).md=(gi A0 b).md:=Decidable.byContradiction fun q=>h (.inl q)
 have hto:(gi A0 b).to≠v:=fun q=>h (.inr (q.trans xa.symm))
 obtain ⟨p0,p1⟩:=cu_lt (N:=N) ra.1.1 ra.1.2 rb.2.1 rb.2.2 ma.1 ma.2
 split
 case isFalse h2=>
  have cr:=cj.cur _ _ _ ra.1.1 ra.1.2 rb.2.1 rb.2.2 ma.1 ma.2
  refine ⟨cj.toCI0,cj.pre,cj.le,cj.dec,fun i j hp i0 i1 j0 j1 h1 h2'=>?_⟩
  rcases hp with hp|⟨rfl,rfl⟩
  ·exact cj.don i j hp i0 i1 j0 j1 h1 h2'
  ·rw[not_or] at h2
   show 0<cu N C _ _ _/\(gi A (cu N C _ _ _-1)).co<=_
   exact ⟨by omega,by omega⟩
 case isTrue h2=>
  obtain ⟨p,hp⟩:∃p,p=((gi A0 a).fr*(N:Int)+(gi A0 b).to)*5+(gi A0 a).md:=⟨_,rfl⟩
  obtain ⟨n,hn⟩:∃n,n=(⟨(gi A0 a).fr,(gi A0 b).to,(gi A0 a).md,(gi A0 a).co+(gi A0 b).co,-1,a,b⟩:Ar):=⟨_,rfl⟩
  rw[<-hp] at p0 p1 ⊢
  rw[<-hn]
  have lenC:=cj.len
  have cus:∀u w m:Int,0<=u->u<N->0<=w->w<N->0<=m->m<5->(u=(gi A0 a).fr/\w=(gi A0 b).to/\m=(gi A0 a).md/\cu N (C.set p.toNat (A.length+1)) u w m=A.length+1)\/
    (¬(u=(gi A0 a).fr/\w=(gi A0 b).to/\m=(gi A0 a).md)/\cu N (C.set p.toNat (A.length+1)) u w m=cu N C u w m):=by
   intro u w m u0 u1 w0 w1 m0 m1
   have hr:=cu_lt u0 u1 w0 w1 m0 m1
   by_cases q:(u*N+w)*5+m=p
   ·left
    obtain ⟨z1,z2,z3⟩:=a9i w0 w1 m0 m1 rb.2.1 rb.2.2 ma.1 ma.2 (q.trans hp)
    refine ⟨z1,z2,z3,?_⟩
    show gi _ _=_
    rw[j8_ p0 (by omega) hr.1,if_pos q]
   ·right
    refine ⟨fun ⟨z1,z2,z3⟩=>q (by rw[hp,z1,z2,z3]),?_⟩
    show gi _ _=_
    rw[j8_ p0 (by omega) hr.1,if_neg q]
  have old:∀k:Int,0<=k->k<A.length->gi (A++[n]) k=gi A k:=fun k k0 k1=>z8_ k0 k1
  have new:gi (A++[n]) ((A.length:Int)+1-1)=n:=by
   rw[show (A.length:Int)+1-1=A.length by omega]; exact a0y _ _
  have crs:=fun u w m u0 u1 w0 w1 m0 m1=>cj.cur u w m u0 u1 w0 w1 m0 m1
  have hd:(ivs es (l1++l2)).Nodup:=by
   rw[b0x q2 r2.ok.2.2,List.nodup_append]
   refine ⟨q4,List.nodup_cons.2 ⟨fun hz=>gv (xa▸r2.inner _ hz),r4⟩,fun z hz z' hz' he=>?_⟩
   subst he
   have gz:=q2.inner z hz
   rcases List.mem_cons.1 hz' with rfl|hz'
   ·exact gv (xa▸gz)
   obtain ⟨p1',s1,e1,f1,g1⟩:=q2.at hz
   obtain ⟨p2',s2,e2,f2,g2⟩:=r2.at hz'
   rw[<-hm] at g2
   have hs:=f1.app gz g2
   obtain ⟨k1,k2⟩:=ci.cov _ _ _ _ xg yg hs
   obtain ⟨k3,k4⟩:=cj.dec _ _ _ ra.1.1 ra.1.2 rb.2.1 rb.2.2 ma.1 ma.2 k1
   have c1:=g1.cost co
   have c2:=f2.cost co
   rw[e1,o8_] at q3
   rw[e2,o8_] at r3
   rw[o8_] at k2
   omega
  refine ⟨⟨by rw[List.length_set]; exact lenC,fun k x hk=>?_,fun u w m u0 u1 w0 w1 m0 m1=>?_⟩,fun k k0 k1=>?_,?_,fun u w m u0 u1 w0 w1 m0 m1 hc=>?_,fun i j hij i0 i1 j0 j1 h1 h2'=>?_⟩
  ·by_cases hk':k<A.length
   ·rw[List.getElem?_append_left hk'] at hk
    obtain ⟨l,s1,s2⟩:=cj.arc k x hk
    exact ⟨l,s1.app _,s2⟩
   ·rw[List.getElem?_append_right (by omega)] at hk
    have hkk:k=A.length:=by
     have:=(List.getElem?_eq_some_iff.1 hk).1
     simp at this
     omega
    subst hkk
    simp at hk
    subst hk
    have get:∀{i:Int},0<=i->i<A0.length->∀{l},Unp A0 i.toNat l->Unp A i.toNat l:=by
     intro i i0 i1 l hu
     obtain ⟨B,hB⟩:∃B,A=A0++B:=by
      refine ⟨A.drop A0.length,?_⟩
      refine List.ext_getElem? fun t=>?_
      by_cases ht:t<A0.length
      ·rw[List.getElem?_append_left ht]
       have:=cj.pre t (by omega) (by omega)
       have z1:=a7_ (xs:=A) (i:=t) (by omega) (by have:=cj.le; omega)
       have z2:=a7_ (xs:=A0) (i:=t) (by omega) (by omega)
       rw[Int.toNat_natCast] at z1 z2
       rw[z1,z2,this]
      ·rw[List.getElem?_append_right (by omega),List.getElem?_drop]
       congr 1
       omega
     rw[hB]
     exact hu.app B
    have hle:=cj.le
    refine ⟨l1++l2,?_,?_,?_,hd⟩
    ·refine .two (i:=a.toNat) (j:=b.toNat) (a:=n) (by simp) (by rw[hn]) (by rw[hn]; show a=_; omega) (by rw[hn]; show b=_; omega) (by omega) (by omega) ((get a0 a1 q1).app _) ((get b0 b1 r1).app _)
    ·rw[hn]
     have h1:=q2.mono (G':=fun x=>G x\/x=v) fun x q=>.inl q
     have h2:=r2.mono (G':=fun x=>G x\/x=v) fun x q=>.inl q
     rw[xa] at h1
     rw[yb,<-hm] at h2
     exact h1.app (.inr rfl) h2
    ·rw[hn,o8_,q3,r3]
  ·have cr:=crs u w m u0 u1 w0 w1 m0 m1
   rw[List.length_append]
   rcases cus u w m u0 u1 w0 w1 m0 m1 with ⟨z1,z2,z3,z4⟩|⟨_,z4⟩
   ·rw[z4]
    refine ⟨by omega,by simp,fun _=>?_⟩
    rw[new,hn]
    exact ⟨z1.symm,z2.symm,z3.symm⟩
   ·rw[z4]
    refine ⟨cr.1,by have:=cr.2.1; simp; omega,fun q=>?_⟩
    rw[old _ (by omega) (by omega)]
    exact cr.2.2 q
  ·rw[old k k0 (by have:=cj.le; omega)]
   exact cj.pre k k0 k1
  ·have:=cj.le
   simp; omega
  ·have cr:=crs u w m u0 u1 w0 w1 m0 m1
   obtain ⟨d1,d2⟩:=cj.dec u w m u0 u1 w0 w1 m0 m1 hc
   rcases cus u w m u0 u1 w0 w1 m0 m1 with ⟨rfl,rfl,rfl,z4⟩|⟨_,z4⟩
   ·rw[z4,new,hn]
    exact ⟨by omega,by show (gi A0 a).co+(gi A0 b).co<=_; omega⟩
   ·rw[z4,old _ (by omega) (by omega)]
    exact ⟨d1,d2⟩
  ·rcases hij with hij|⟨rfl,rfl⟩
   ·have hi:=cj.don i j hij i0 i1 j0 j1 h1 h2'
    obtain ⟨_,_,t1,_⟩:=ci.arcI i0 i1
    obtain ⟨_,_,t2,_⟩:=ci.arcI j0 j1
    have rt1:=t1.range no
    have rt2:=t2.range no
    have mt:=t1.md no
    have cr:=crs _ _ _ rt1.1.1 rt1.1.2 rt2.2.1 rt2.2.2 mt.1 mt.2
    rcases cus _ _ _ rt1.1.1 rt1.1.2 rt2.2.1 rt2.2.2 mt.1 mt.2 with ⟨z1,z2,z3,z4⟩|⟨_,z4⟩
    ·rw[z1,z2,z3] at hi
     rw[z4,new,hn]
     exact ⟨by omega,by show (gi A0 a).co+(gi A0 b).co<=_; omega⟩
    ·rw[z4,old _ (by omega) (by omega)]
     exact hi
   ·have e4:=cus _ _ _ ra.1.1 ra.1.2 rb.2.1 rb.2.2 ma.1 ma.2
    rcases e4 with ⟨_,_,_,z4⟩|⟨z,_⟩
    ·rw[z4,new,hn]
     exact ⟨by omega,Int.le_refl _⟩
    ·exact absurd ⟨rfl,rfl,rfl⟩ z
end
end Go.Gm.AQ
namespace Go.Gm.AQ
open Go Go.Gm
section
variable {N:Nat} {es:List E} {G:Int->Prop} {v:Int} {A0 A:List Ar} {C0 C:List Int} {P:Int->Int->Prop} {up dn:List Int}
structure UD (N:Nat) (G:Int->Prop) (v:Int) (A:List Ar) (C:List Int) (up dn:List Int):Prop where
 up:∀w m:Int,0<=w->w<N->0<=m->m<5->¬G w->0<cu N C v w m->cu N C v w m-1∈up
 dn:∀u m:Int,0<=u->u<N->0<=m->m<5->¬G u->u≠v->0<cu N C u v m->cu N C u v m-1∈dn
theorem CI.stU (no:NetOk N es)(ci:CI es N G A C)(gv:¬G v)(ud:UD N G v A C up dn){w m:Int}{l:List Nat}(hw:¬G w)(h:Sg es G m v w l):∃k∈up,0<=k/\k<A.length/\(gi A k).to=w/\(gi A k).md=m/\(gi A k).co<=atC es l:=by
 have hr:=h.range no
 have hm:=h.md no
 obtain ⟨c1,c2⟩:=ci.cov _ _ _ _ gv hw h
 have cr:=ci.cur v w m hr.1.1 hr.1.2 hr.2.1 hr.2.2 hm.1 hm.2
 exact ⟨_,ud.up w m hr.2.1 hr.2.2 hm.1 hm.2 hw c1,by omega,by omega,(cr.2.2 c1).2.1,(cr.2.2 c1).2.2,c2⟩
theorem CI.stD (no:NetOk N es)(ci:CI es N G A C)(gv:¬G v)(ud:UD N G v A C up dn){u m:Int}{l:List Nat}(hu:¬G u)(huv:u≠v)(h:Sg es G m u v l):∃k∈dn,0<=k/\k<A.length/\(gi A k).fr=u/\(gi A k).md=m/\(gi A k).co<=atC es l:=by
 have hr:=h.range no
 have hm:=h.md no
 obtain ⟨c1,c2⟩:=ci.cov _ _ _ _ hu gv h
 have cr:=ci.cur u v m hr.1.1 hr.1.2 hr.2.1 hr.2.2 hm.1 hm.2
 exact ⟨_,ud.dn u m hr.1.1 hr.1.2 hm.1 hm.2 hu huv c1,by omega,by omega,(cr.2.2 c1).1,(cr.2.2 c1).2.2,c2⟩
theorem CJ.done (no:NetOk N es)(co:COk es)(ci:CI es N G A0 C0)(gv:¬G v)(ud:UD N G v A0 C0 up dn)(hP:∀a∈dn,∀b∈up,P a b)(cj:CJ es N G v A0 C0 P A C):CI es N (fun x=>G x\/x=v) A C:=by
 refine ⟨cj.toCI0,fun u w m l hu hw h=>?_⟩
 rw[not_or] at hu hw
 have hr:=h.range no
 have hm:=h.md no
 rcases h.split with i|⟨l1,l2,rfl,i2,i3⟩
 ·obtain ⟨c1,c2⟩:=ci.cov _ _ _ _ hu.1 hw.1 i
  obtain ⟨d1,d2⟩:=cj.dec u w m hr.1.1 hr.1.2 hr.2.1 hr.2.2 hm.1 hm.2 c1
  exact ⟨d1,by omega⟩
 ·obtain ⟨l',k1,k2⟩:=i3.last co l2.length (Nat.le_refl _)
  obtain ⟨a,a1,a2,a3,a4,a5,a6⟩:=ci.stD no gv ud hu.1 hu.2 i2
  obtain ⟨b,b1,b2,b3,b4,b5,b6⟩:=ci.stU no gv ud hw.1 k1
  obtain ⟨d1,d2⟩:=cj.don a b (hP a a1 b b1) a2 a3 b2 b3 (a5.trans b5.symm) (b4▸hw.2)
  rw[a4,b4,a5] at d1 d2
  rw[o8_]
  exact ⟨d1,by omega⟩
theorem CI.begin (no:NetOk N es)(hl:C.length=N*N*5)(ha:∀(k:Nat) (a:Ar),A[k]?=some a->∃e:Nat,e<es.length/\a=⟨(eg es e).fr,(eg es e).to,(eg es e).md,(eg es e).co,e,0,0⟩)(hc:∀u w m:Int,0<=u->u<N->0<=w->w<N->0<=m->m<5->0<=cu N C u w m/\cu N C u w m<=A.length/\(0<cu N C u w m->(gi A (cu N C u w m-1)).fr=u/\(gi A (cu N C u w m-1)).to=w/\(gi A (cu N C u w m-1)).md=m))(hm:∀e:Nat,e<es.length->0<cu N C (eg es e).fr (eg es e).to (eg es e).md/\(gi A (cu N C (eg es e).fr (eg es e).to (eg es e).md-1)).co<=(eg es e).co):CI es N (fun _=>False) A C:=by
 refine ⟨⟨hl,fun k a h=>?_,hc⟩,fun u w m l _ _ h=>?_⟩
 ·obtain ⟨e,h1,rfl⟩:=ha k a h
  refine ⟨[e],?_,.one h1 rfl rfl rfl,?_,List.nodup_nil⟩
  ·have:=Unp.edge h (by show (0:Int)<=e; omega)
   simpa using this
  ·show 0+(eg es e).co=_; simp
 ·cases h with
  |@one _ _ e h1 h2 h3 h4=>
   subst h2 h3 h4
   obtain ⟨q1,q2⟩:=hm e h1
   exact ⟨q1,by show _<=0+(eg es e).co; omega⟩
  |cons _ _ _ _ h5 _=>exact h5.elim
end
end Go.Gm.AQ
namespace Go.Gm.AQ
open Go Go.Gm
def encA (a:Ar):List AV:=[I a.fr,I a.to,I a.md,I a.co,I a.ed,I a.a,I a.b]
structure WC where
 hb:Heap
 b1:Nat
 oW:Nat
 oE:Nat
 oC:Nat
 oG:Nat
 oU:Nat
 oD:Nat
 N:Nat
 es:List E
 sE:AV
 sU:AV
 sD:AV
 sC:AV
 sG:AV
structure WC.Ok (c:WC):Prop where
 n:1<=c.N/\c.N<=100
 no:NetOk c.N c.es
 co:COk c.es
 b:c.hb.length<=c.oW/\c.hb.length<=c.oE/\c.hb.length<=c.oC/\c.hb.length<=c.oG/\c.hb.length<=c.oU/\c.hb.length<=c.oD
 t:c.oW<c.b1/\c.oE<c.b1/\c.oC<c.b1/\c.oG<c.b1/\c.oU<c.b1/\c.oD<c.b1
 d:c.oW≠c.oE/\c.oW≠c.oC/\c.oW≠c.oG/\c.oW≠c.oU/\c.oW≠c.oD/\c.oE≠c.oC/\c.oE≠c.oG/\c.oE≠c.oU/\c.oE≠c.oD/\c.oC≠c.oG/\c.oC≠c.oU/\c.oC≠c.oD/\c.oG≠c.oU/\c.oG≠c.oD/\c.oU≠c.oD
structure WS where
 sA:AV
 oA:Nat
 sR:AV
 oR:Nat
 A:List Ar
 C:List Int
 g:List Bool
 rk:List Int
 us:List AV
 ds:List AV
 Up:List (List Int)
 Dn:List (List Int)
def one1 (s:AV):List AV:=[s]
def Inn (c:WC)(h:Heap)(sA:AV)(oA:Nat)(sR:AV)(oR:Nat)(s:AV)(xs:List Int):Prop:=
 ∃o,Gr o (o+1) h 1 s (xs.map encI)/\(s≠.nils->c.b1<=o/\o<h.length/\(sA≠.nils->o≠oA)/\(sR≠.nils->o≠oR))
structure WV (c:WC) (s:WS) (h:Heap):Prop where
 eb:Ext c.hb h
 lb:c.b1<=h.length
 row:h[c.oW]?=some (.cells ⟨[I c.N,c.sE,s.sR,s.sA,c.sU,c.sD,c.sC,c.sG],0,0,false⟩)
 gE:Gr c.oE (c.oE+1) h 4 c.sE (c.es.map encE)
 gA:Gr s.oA (s.oA+1) h 7 s.sA (s.A.map encA)
 pA:s.sA≠.nils->c.b1<=s.oA/\s.oA<h.length
 gR:Gr s.oR (s.oR+1) h 1 s.sR (s.rk.map encI)
 pR:s.sR≠.nils->c.b1<=s.oR/\s.oR<h.length/\(s.sA≠.nils->s.oR≠s.oA)
 gC:Gr c.oC (c.oC+1) h 1 c.sC (s.C.map encI)
 gG:Gr c.oG (c.oG+1) h 1 c.sG (s.g.map encB)
 gU:Gr c.oU (c.oU+1) h 1 c.sU (s.us.map one1)
 gD:Gr c.oD (c.oD+1) h 1 c.sD (s.ds.map one1)
 lU:s.us.length=c.N/\s.ds.length=c.N/\s.Up.length=c.N/\s.Dn.length=c.N
 rU:∀v:Int,0<=v->v<c.N->Inn c h s.sA s.oA s.sR s.oR (gi s.us v) (gi s.Up v)
 rD:∀v:Int,0<=v->v<c.N->Inn c h s.sA s.oA s.sR s.oR (gi s.ds v) (gi s.Dn v)
theorem _root_.Go.Gm.Gr.keep {D:Nat->Prop}{h h':Heap}{o sz:Nat}{s:AV}{xs:List (List AV)}(g:Gr o (o+1) h sz s xs)(f:FrS D h h')(hq:s≠.nils->¬D o):Gr o (o+1) h' sz s xs:=by
 by_cases q:s=.nils
 ·subst q
  have:=g.isNil
  subst this
  exact Gr.nil ..
 ·exact g.frs f fun r r1 r2=>by
   obtain rfl:r=o:=by omega
   exact hq q
theorem Inn.keep {D:Nat->Prop}{c:WC}{h h':Heap}{sA sA' sR sR' s:AV}{oA oA' oR oR':Nat}{xs:List Int}(a:Inn c h sA oA sR oR s xs)(f:FrS D h h')(hq:∀o,c.b1<=o->o<h.length->(sA≠.nils->o≠oA)->(sR≠.nils->o≠oR)->¬D o/\(sA'≠.nils->o≠oA')/\(sR'≠.nils->o≠oR')):Inn c h' sA' oA' sR' oR' s xs:=by
 obtain ⟨o,g,p⟩:=a
 have l:=f.len
 refine ⟨o,g.keep f fun q=>?_,fun q=>?_⟩
 ·obtain ⟨p1,p2,p3,p4⟩:=p q
  exact (hq o p1 p2 p3 p4).1
 ·obtain ⟨p1,p2,p3,p4⟩:=p q
  obtain ⟨q1,q2,q3⟩:=hq o p1 p2 p3 p4
  exact ⟨p1,by omega,q2,q3⟩
section
variable {c:WC} {s:WS} {h:Heap}
theorem WV.frs (w:WV c s h)(ok:c.Ok){D:Nat->Prop}{h':Heap}(f:FrS D h h')(hD:∀o,D o->h.length<=o):WV c s h':=by
 have l:=f.len
 have lb:=w.lb
 have t:=ok.t
 have nd:∀o,o<h.length->¬D o:=fun o ho q=>by have:=hD o q; omega
 refine ⟨f.ext w.eb fun o ho=>nd o (by have:=w.eb.len; omega),by omega,by rw[f.get (nd _ (by omega)) (by omega)]; exact w.row,w.gE.keep f fun _=>nd _ (by omega),w.gA.keep f fun q=>nd _ (w.pA q).2,fun q=>⟨(w.pA q).1,by have:=(w.pA q).2; omega⟩,w.gR.keep f fun q=>nd _ (w.pR q).2.1,fun q=>⟨(w.pR q).1,by have:=(w.pR q).2.1; omega,(w.pR q).2.2⟩,
  w.gC.keep f fun _=>nd _ (by omega),w.gG.keep f fun _=>nd _ (by omega),w.gU.keep f fun _=>nd _ (by omega),w.gD.keep f fun _=>nd _ (by omega),w.lU,fun v v0 v1=>(w.rU v v0 v1).keep f fun o _ h2 h3 h4=>⟨nd o h2,h3,h4⟩,fun v v0 v1=>(w.rD v v0 v1).keep f fun o _ h2 h3 h4=>⟨nd o h2,h3,h4⟩⟩
theorem WV.ext (w:WV c s h)(ok:c.Ok){h':Heap}(e:Ext h h'):WV c s h':=w.frs ok (FrS.ofExt (D:=fun _=>False) e) (fun o q=>q.elim)
theorem WV.at (w:WV c s h):At h (.ptr c.oW 0 8 0) [I c.N,c.sE,s.sR,s.sA,c.sU,c.sD,c.sC,c.sG]:=At.row w.row (Nat.le_refl _) rfl
theorem a2Q {os:List AV}{h:Heap}(ok:c.Ok)(row:At h (.ptr c.oW 0 8 0) (I c.N::os)){u v m:Int}(u0:0<=u)(u1:u<c.N)(v0:0<=v)(v1:v<c.N)(m0:0<=m)(m1:m<5) :
  Tot tab b1_ [.ptr c.oW 0 8 0,I u,I v,I m] h fun r h'=>r=I ((u*c.N+v)*5+m)/\h=h':=by
 refine WP.tot (fun k=>a1w k _ _ _ _ h) ?_
 have hn:=ok.n
 obtain ⟨p0,p1⟩:=cu_lt u0 u1 v0 v1 m0 m1
 have hNN:c.N*c.N*5<=100*100*5:=Nat.mul_le_mul_right 5 (Nat.mul_le_mul hn.2 hn.2)
 have h1:0<=u*(c.N:Int):=Int.mul_nonneg u0 (by omega)
 have h2:u*(c.N:Int)<=100*100:=Int.mul_le_mul (by omega) (by omega) (by omega) (by omega)
 have w1:IntKind.i64.wrap (u*(c.N:Int))=u*c.N:=b2_ (by omega) (by omega)
 have w2:IntKind.i64.wrap ((u*(c.N:Int)+v)*5)=(u*c.N+v)*5:=b2_ (by omega) (by omega)
 generalize hP:u*(c.N:Int)=P at *
 generalize c.N*c.N*5=NN at *
 have r0:=row.ld0 (by simp)
 simp -implicitDefEqProofs (disch:=first|assumption|omega|(simp only[gL,gA]<;>omega)|fail) only[gC,reduceIte,row.nil,row.fldA0,row.fldAf,row.ldfE,r0,w1,w2,hP]
 exact WP.ret ⟨rfl,rfl⟩
end
end Go.Gm.AQ
namespace Go.Gm.AQ
open Go Go.Gm
section
variable {c:WC} {s:WS} {h h':Heap}
theorem WV.setC (w:WV c s h)(ok:c.Ok){C':List Int}(f:FrS (fun o=>o=c.oC) h h')(g:Gr c.oC (c.oC+1) h' 1 c.sC (C'.map encI)):WV c { s with C:=C' } h':=by
 have l:=f.len
 have lb:=w.lb
 have hl:=w.eb.len
 have b:=ok.b
 have t:=ok.t
 have d:=ok.d
 refine ⟨f.ext w.eb fun o ho=>by omega,by omega,by rw[f.get (by omega) (by omega)]; exact w.row,w.gE.keep f fun _=>by omega,w.gA.keep f fun q=>by have:=w.pA q; omega,fun q=>⟨(w.pA q).1,by have:=(w.pA q).2; show s.oA<_; omega⟩,w.gR.keep f fun q=>by have:=w.pR q; omega,fun q=>⟨(w.pR q).1,by have:=(w.pR q).2.1; show s.oR<_; omega,(w.pR q).2.2⟩,
  g,w.gG.keep f fun _=>by omega,w.gU.keep f fun _=>by omega,w.gD.keep f fun _=>by omega,w.lU,fun v v0 v1=>(w.rU v v0 v1).keep f fun o h1 h2 h3 h4=>⟨by omega,h3,h4⟩,fun v v0 v1=>(w.rD v v0 v1).keep f fun o h1 h2 h3 h4=>⟨by omega,h3,h4⟩⟩
theorem WV.setG (w:WV c s h)(ok:c.Ok){g':List Bool}(f:FrS (fun o=>o=c.oG) h h')(g:Gr c.oG (c.oG+1) h' 1 c.sG (g'.map encB)):WV c { s with g:=g' } h':=by
 have l:=f.len
 have lb:=w.lb
 have hl:=w.eb.len
 have b:=ok.b
 have t:=ok.t
 have d:=ok.d
 refine ⟨f.ext w.eb fun o ho=>by omega,by omega,by rw[f.get (by omega) (by omega)]; exact w.row,w.gE.keep f fun _=>by omega,w.gA.keep f fun q=>by have:=w.pA q; omega,fun q=>⟨(w.pA q).1,by have:=(w.pA q).2; show s.oA<_; omega⟩,w.gR.keep f fun q=>by have:=w.pR q; omega,fun q=>⟨(w.pR q).1,by have:=(w.pR q).2.1; show s.oR<_; omega,(w.pR q).2.2⟩,
  w.gC.keep f fun _=>by omega,g,w.gU.keep f fun _=>by omega,w.gD.keep f fun _=>by omega,w.lU,fun v v0 v1=>(w.rU v v0 v1).keep f fun o h1 h2 h3 h4=>⟨by omega,h3,h4⟩,fun v v0 v1=>(w.rD v v0 v1).keep f fun o h1 h2 h3 h4=>⟨by omega,h3,h4⟩⟩
theorem WV.setU (w:WV c s h)(ok:c.Ok){v:Int}(v0:0<=v)(v1:v<c.N){r:AV}{xs:List Int}(f:FrS (fun o=>o=c.oU) h h')(g:Gr c.oU (c.oU+1) h' 1 c.sU ((s.us.set v.toNat r).map one1))(hr:Inn c h s.sA s.oA s.sR s.oR r xs):WV c { s with us:=s.us.set v.toNat r,Up:=s.Up.set v.toNat xs } h':=by
 have l:=f.len
 have lb:=w.lb
 have hl:=w.eb.len
 have b:=ok.b
 have t:=ok.t
 have d:=ok.d
 have lu:=w.lU
 refine ⟨f.ext w.eb fun o ho=>by omega,by omega,by rw[f.get (by omega) (by omega)]; exact w.row,w.gE.keep f fun _=>by omega,w.gA.keep f fun q=>by have:=w.pA q; omega,fun q=>⟨(w.pA q).1,by have:=(w.pA q).2; show s.oA<_; omega⟩,w.gR.keep f fun q=>by have:=w.pR q; omega,fun q=>⟨(w.pR q).1,by have:=(w.pR q).2.1; show s.oR<_; omega,(w.pR q).2.2⟩,
  w.gC.keep f fun _=>by omega,w.gG.keep f fun _=>by omega,g,w.gD.keep f fun _=>by omega,by simpa using lu,fun u u0 u1=>?_,fun v v0 v1=>(w.rD v v0 v1).keep f fun o h1 h2 h3 h4=>⟨by omega,h3,h4⟩⟩
 show Inn c h' s.sA s.oA s.sR s.oR (gi (s.us.set v.toNat r) u) (gi (s.Up.set v.toNat xs) u)
 rw[j8_ v0 (by omega) u0,j8_ v0 (by omega) u0]
 split
 ·exact hr.keep f fun o h1 h2 h3 h4=>⟨by omega,h3,h4⟩
 ·exact (w.rU u u0 u1).keep f fun o h1 h2 h3 h4=>⟨by omega,h3,h4⟩
theorem WV.setD (w:WV c s h)(ok:c.Ok){v:Int}(v0:0<=v)(v1:v<c.N){r:AV}{xs:List Int}(f:FrS (fun o=>o=c.oD) h h')(g:Gr c.oD (c.oD+1) h' 1 c.sD ((s.ds.set v.toNat r).map one1))(hr:Inn c h s.sA s.oA s.sR s.oR r xs):WV c { s with ds:=s.ds.set v.toNat r,Dn:=s.Dn.set v.toNat xs } h':=by
 have l:=f.len
 have lb:=w.lb
 have hl:=w.eb.len
 have b:=ok.b
 have t:=ok.t
 have d:=ok.d
 have lu:=w.lU
 refine ⟨f.ext w.eb fun o ho=>by omega,by omega,by rw[f.get (by omega) (by omega)]; exact w.row,w.gE.keep f fun _=>by omega,w.gA.keep f fun q=>by have:=w.pA q; omega,fun q=>⟨(w.pA q).1,by have:=(w.pA q).2; show s.oA<_; omega⟩,w.gR.keep f fun q=>by have:=w.pR q; omega,fun q=>⟨(w.pR q).1,by have:=(w.pR q).2.1; show s.oR<_; omega,(w.pR q).2.2⟩,
  w.gC.keep f fun _=>by omega,w.gG.keep f fun _=>by omega,w.gU.keep f fun _=>by omega,g,by simpa using lu,fun v v0 v1=>(w.rU v v0 v1).keep f fun o h1 h2 h3 h4=>⟨by omega,h3,h4⟩,fun u u0 u1=>?_⟩
 show Inn c h' s.sA s.oA s.sR s.oR (gi (s.ds.set v.toNat r) u) (gi (s.Dn.set v.toNat xs) u)
 rw[j8_ v0 (by omega) u0,j8_ v0 (by omega) u0]
 split
 ·exact hr.keep f fun o h1 h2 h3 h4=>⟨by omega,h3,h4⟩
 ·exact (w.rD u u0 u1).keep f fun o h1 h2 h3 h4=>⟨by omega,h3,h4⟩
theorem WV.setR (w:WV c s h)(ok:c.Ok){rk':List Int}(hn:s.sR≠.nils)(f:FrS (fun o=>o=s.oR) h h')(g:Gr s.oR (s.oR+1) h' 1 s.sR (rk'.map encI)):WV c { s with rk:=rk' } h':=by
 have l:=f.len
 have lb:=w.lb
 have hl:=w.eb.len
 have b:=ok.b
 have t:=ok.t
 have pr:=w.pR hn
 refine ⟨f.ext w.eb fun o ho=>by omega,by omega,by rw[f.get (by omega) (by omega)]; exact w.row,w.gE.keep f fun _=>by omega,w.gA.keep f fun q=>by have:=pr.2.2 q; omega,fun q=>⟨(w.pA q).1,by have:=(w.pA q).2; show s.oA<_; omega⟩,g,fun q=>⟨(w.pR q).1,by have:=(w.pR q).2.1; show s.oR<_; omega,(w.pR q).2.2⟩,
  w.gC.keep f fun _=>by omega,w.gG.keep f fun _=>by omega,w.gU.keep f fun _=>by omega,w.gD.keep f fun _=>by omega,w.lU,fun v v0 v1=>(w.rU v v0 v1).keep f fun o h1 h2 h3 h4=>⟨by have:=h4 hn; omega,h3,h4⟩,fun v v0 v1=>(w.rD v v0 v1).keep f fun o h1 h2 h3 h4=>⟨by have:=h4 hn; omega,h3,h4⟩⟩
theorem WV.addA (w:WV c s h)(ok:c.Ok){a:Ar}{s':AV}{o':Nat}(f:FrS (fun p=>s.sA≠.nils/\p=s.oA) h h')(g:Gr o' (o'+1) h' 7 s' ((s.A++[a]).map encA))(q:s'≠.nils->((o'=s.oA/\s.sA≠.nils)\/h.length<=o')/\o'<h'.length) :
  h'[c.oW]?=some (.cells ⟨[I c.N,c.sE,s.sR,s.sA,c.sU,c.sD,c.sC,c.sG],0,0,false⟩)/\WV c { s with sA:=s',oA:=o',A:=s.A++[a] } (h'.set c.oW (.cells ⟨[I c.N,c.sE,s.sR,s',c.sU,c.sD,c.sC,c.sG],0,0,false⟩)):=by
 have l:=f.len
 have lb:=w.lb
 have hl:=w.eb.len
 have b:=ok.b
 have t:=ok.t
 have d:=ok.d
 have pa:=w.pA
 have nA:∀o,(s.sA≠.nils->o≠s.oA)->¬(s.sA≠.nils/\o=s.oA):=fun o h1 h2=>h1 h2.1 h2.2
 have rw':h'[c.oW]?=_:=(f.get (nA _ fun q=>by have:=pa q; omega) (by omega)).trans w.row
 have f2:=(f.mono (D':=fun p=>(s.sA≠.nils/\p=s.oA)\/p=c.oW) fun _ _ z=>.inl z).trans ((FrS.set1 h' c.oW (.cells ⟨[I c.N,c.sE,s.sR,s',c.sU,c.sD,c.sC,c.sG],0,0,false⟩)).mono fun _ _ z=>.inr z)
 have nB:∀o,(s.sA≠.nils->o≠s.oA)->o≠c.oW->¬((s.sA≠.nils/\o=s.oA)\/o=c.oW):=fun o h1 h2 h3=>h3.elim (nA o h1) h2
 have nC:∀o,o<c.b1->o≠c.oW->¬((s.sA≠.nils/\o=s.oA)\/o=c.oW):=fun o h1 h2=>nB o (fun q=>by have:=pa q; omega) h2
 have ll:(h'.set c.oW (.cells ⟨[I c.N,c.sE,s.sR,s',c.sU,c.sD,c.sC,c.sG],0,0,false⟩)).length=h'.length:=by simp
 have inn:∀{x:AV} {xs:List Int},Inn c h s.sA s.oA s.sR s.oR x xs->Inn c (h'.set c.oW (.cells ⟨[I c.N,c.sE,s.sR,s',c.sU,c.sD,c.sC,c.sG],0,0,false⟩)) s' o' s.sR s.oR x xs:=fun hx=>hx.keep f2 fun o h1 h2 h3 h4=>⟨nB o h3 (by omega),fun z=>by
  rcases (q z).1 with ⟨z1,z2⟩|z1
  ·have:=h3 z2; omega
  ·omega,h4⟩
 refine ⟨rw',f2.ext w.eb fun o ho=>nC o (by omega) (by omega),by omega,a0_ (by omega),w.gE.keep f2 fun _=>nC _ (by omega) (by omega),?_,fun z=>?_,w.gR.keep f2 fun z=>nB _ (w.pR z).2.2 (by have:=(w.pR z).1; omega),fun z=>⟨(w.pR z).1,by have:=(w.pR z).2.1; show s.oR<_; omega,fun z2=>?_⟩,
  w.gC.keep f2 fun _=>nC _ (by omega) (by omega),w.gG.keep f2 fun _=>nC _ (by omega) (by omega),w.gU.keep f2 fun _=>nC _ (by omega) (by omega),w.gD.keep f2 fun _=>nC _ (by omega) (by omega),w.lU,fun v v0 v1=>inn (w.rU v v0 v1),fun v v0 v1=>inn (w.rD v v0 v1)⟩
 ·refine g.keep (FrS.set1 ..) fun z=>?_
  rcases (q z).1 with ⟨z1,z2⟩|z1
  ·have:=pa z2; omega
  ·omega
 ·refine ⟨?_,by have:=(q z).2; show o'<_; omega⟩
  show c.b1<=o'
  rcases (q z).1 with ⟨z1,z2⟩|z1
  ·have:=pa z2; omega
  ·omega
 ·show s.oR≠o'
  have h1:=w.pR z
  rcases (q z2).1 with ⟨z3,z4⟩|z3
  ·have:=h1.2.2 z4; omega
  ·omega
theorem a6Q (ok:c.Ok)(w:WV c s h)(hC:s.C.length=c.N*c.N*5){a:Ar}(u0:0<=a.fr)(u1:a.fr<c.N)(v0:0<=a.to)(v1:a.to<c.N)(m0:0<=a.md)(m1:a.md<5)(hl:s.A.length<=100000000) :
  Tot tab d2_ [.ptr c.oW 0 8 0,.agg (encA a)] h fun r h'=>r=.tup []/\∃s' o',WV c { s with sA:=s',oA:=o',A:=s.A++[a],C:=s.C.set ((a.fr*c.N+a.to)*5+a.md).toNat (s.A.length+1) } h'/\
   FrS (fun o=>o=c.oW\/o=c.oC\/(s.sA≠.nils/\o=s.oA)) h h'/\(s'≠.nils->(o'=s.oA/\s.sA≠.nils)\/h.length<=o'):=by
 refine WP.tot (fun k=>a1e k _ _ h) ?_
 have lb:=w.lb
 have t:=ok.t
 have pa:=w.pA
 obtain ⟨h1,hh1⟩:∃h1,h1=h++[AObj.cells ⟨encA a,0,0,false⟩]:=⟨_,rfl⟩
 have e1:Ext h h1:=by rw[hh1]; exact Ext.push _ _
 have l1:h1.length=h.length+1:=by rw[hh1]; simp
 have ra1:h1[h.length]?=some (.cells ⟨encA a,0,0,false⟩):=by rw[hh1]; simp
 have w1:=w.ext ok e1
 have b:=Gr.lit (h:=h1) (sz:=7) (v:=encA a) rfl
 rw[a1_] at b
 obtain ⟨h2,hh2⟩:∃h2,h2=h1++[AObj.cells ⟨encA a,0,0,false⟩]:=⟨_,rfl⟩
 rw[<-hh2] at b
 have e2:Ext h1 h2:=by rw[hh2]; exact Ext.push _ _
 have w2:=w1.ext ok e2
 have l2:h2.length=h1.length+1:=by rw[hh2]; simp
 obtain ⟨s',h3,o',q1,q2,q3,q4⟩:=w2.gA.appP (fun z=>(w2.pA z).2) b.sl (by omega) (bytes:=56) (by omega) (by simp; omega)
 have q2':Gr o' (o'+1) h3 7 s' ((s.A++[a]).map encA):=q2.cong (by simp)
 obtain ⟨rw3,w4⟩:=w2.addA ok q4 q2' q3
 obtain ⟨h4,hh4⟩:∃h4,h4=h3.set c.oW (.cells ⟨[I c.N,c.sE,s.sR,s',c.sU,c.sD,c.sC,c.sG],0,0,false⟩):=⟨_,rfl⟩
 rw[<-hh4] at w4
 have l3:=q4.len
 have ra3:h3[h.length]?=some (.cells ⟨encA a,0,0,false⟩):=by rw[q4.get (fun z=>by have:=pa z.1; omega) (by omega)]; exact e2.get ra1
 have ra4:h4[h.length]?=some (.cells ⟨encA a,0,0,false⟩):=by rw[hh4,a5_ (by omega)]; exact ra3
 have row4:=w4.row
 have at4:=w4.at
 obtain ⟨p0,p1⟩:=cu_lt u0 u1 v0 v1 m0 m1
 have hNN:c.N*c.N*5<=100*100*5:=Nat.mul_le_mul_right 5 (Nat.mul_le_mul ok.n.2 ok.n.2)
 have gs':=q2'.sl
 have gC4:=w4.gC
 obtain ⟨p,hp⟩:∃p,p=(a.fr*(c.N:Int)+a.to)*5+a.md:=⟨_,rfl⟩
 rw[<-hp] at p0 p1
 have hlt:p<s.C.length:=by rw[hC]; exact p1
 obtain ⟨h5,k1,k2,k3,k4⟩:=gC4.write0 (i:=p) (v:=I ((s.A.length:Int)+1)) p0 (by simpa using hlt) rfl rfl
 have f5:FrS (fun o=>o=c.oC) h4 h5:=k3.s.mono fun o _ z=>by omega
 have w5:=w4.setC ok (C':=s.C.set p.toNat (s.A.length+1)) f5 (k2.cong (by rw[List.map_set]; rfl))
 have row0:=(w.ext ok e1).row
 have hlen:lenS s'=some (I ((s.A.length:Int)+1)):=by rw[gs'.lenG]; simp
 have gC4s:Sl h4 1 c.sC (s.C.map encI):=gC4.sl
 rw[show AV.cells (.agg (encA a))=encA a from rfl]
 have hone:(encA a).all AV.one=true:=rfl
 have r1:=w1.row
 have r2:=w2.row
 have hcl:(encA a).length=7:=rfl
 have ld7:Gm.ldN 7 h1 (.ptr h.length 0 7 0)=some (.agg (encA a)):=by
  have:=(At.row (g':=0) (n:=7) ra1 (Nat.le_refl _) rfl).ldN (n:=7) (by rw[hcl]; omega)
  rw[this,show (encA a).take 7=encA a from rfl]
 rw[a4C hone,hcl,a1_,<-hh1]
 simp only[ob_some]
 simp -implicitDefEqProofs (disch:=first|assumption|omega|(simp only[gL,gA]<;>omega)|fail) only[gC,reduceIte,r1,ld7]
 rw[show bsl 7 1 h1 (some (setAll [AV.int .i64 0,.int .i64 0,.int .i64 0,.int .i64 0,.int .i64 0,.int .i64 0,.int .i64 0] 0 (encA a)))=some (.sl h1.length 0 1 7 none 0,h2) by rw[hh2]; rfl]
 simp only[ob_some]
 rw[q1]
 have c3:s'.cells=[s']:=gs'.cells
 have o3:s'.one=true:=gs'.one
 simp -implicitDefEqProofs (disch:=first|assumption|omega|(simp only[gL,gA]<;>omega)|fail) only[gC,reduceIte,rw3,c3,o3]
 rw[<-hh4]
 simp -implicitDefEqProofs (disch:=first|assumption|omega|(simp only[gL,gA]<;>omega)|fail) only[gC,reduceIte,row4,ra3,encA,hlen]
 refine WP.call (a2Q ok at4 u0 u1 v0 v1 m0 m1) ?_
 rintro _ _ ⟨rfl,rfl⟩
 rw[<-hp]
 simp -implicitDefEqProofs (disch:=first|assumption|omega|(simp only[gL,gA]<;>omega)|fail) only[gC,reduceIte,row4,gC4s.idxG]
 rw[k1]
 simp -implicitDefEqProofs (disch:=first|assumption|omega|(simp only[gL,gA]<;>omega)|fail) only[gC,reduceIte]
 refine WP.ret ⟨rfl,s',o',w5,?_,fun z=>?_⟩
 ·have a1:FrS (fun o=>o=c.oW\/o=c.oC\/(s.sA≠.nils/\o=s.oA)) h h2:=FrS.ofExt (e1.trans e2)
  have a2:=q4.mono (D':=fun o=>o=c.oW\/o=c.oC\/(s.sA≠.nils/\o=s.oA)) fun o _ z=>.inr (.inr z)
  have a3:FrS (fun o=>o=c.oW\/o=c.oC\/(s.sA≠.nils/\o=s.oA)) h3 h4:=by rw[hh4]; exact (FrS.set1 ..).mono fun o _ z=>.inl z
  exact ((a1.trans a2).trans a3).trans (f5.mono fun o _ z=>.inr (.inl z))
 ·rcases (q3 z).1 with q|q
  ·exact .inl q
  ·exact .inr (by omega)
end
end Go.Gm.AQ
namespace Go.Gm.AQ
open Go Go.Gm
structure AOk (N:Nat) (a:Ar):Prop where
 f0:0<=a.fr
 f1:a.fr<N
 t0:0<=a.to
 t1:a.to<N
 m0:0<=a.md
 m1:a.md<5
 c0:0<=a.co
 c1:a.co<=1000000000000
section
variable {c:WC} {s:WS} {h h':Heap}
theorem a8e (ok:c.Ok)(w:WV c s h)(hC:s.C.length=c.N*c.N*5){a b:Int}(a0:0<=a)(a1:a<s.A.length)(b0:0<=b)(b1:b<s.A.length)(hl:s.A.length<=100000000)(hA:∀k:Int,0<=k->k<s.A.length->AOk c.N (gi s.A k))(hk:0<=cu c.N s.C (gi s.A a).fr (gi s.A b).to (gi s.A a).md/\cu c.N s.C (gi s.A a).fr (gi s.A b).to (gi s.A a).md<=s.A.length) :
  Tot tab l1_ [.ptr c.oW 0 8 0,I a,I b] h fun r h'=>r=.tup []/\∃s' o',WV c { s with sA:=s',oA:=o',A:=(shortP c.N s.A s.C a b).1,C:=(shortP c.N s.A s.C a b).2 } h'/\
   FrS (fun o=>o=c.oW\/o=c.oC\/(s.sA≠.nils/\o=s.oA)) h h'/\(s'≠.nils->(o'=s.oA/\s.sA≠.nils)\/h.length<=o'):=by
 have lb:=w.lb
 have t:=ok.t
 have rw0:=w.row
 have gs:=w.gA.sl
 have ax:=hA a a0 a1
 have bx:=hA b b0 b1
 unfold shortP
 obtain ⟨x,hx⟩:∃x,gi s.A a=x:=⟨_,rfl⟩
 obtain ⟨y,hy⟩:∃y,gi s.A b=y:=⟨_,rfl⟩
 rw[hx] at ax
 rw[hy] at bx
 rw[hx,hy] at hk ⊢
 have lx:∀H,Ext h H->Gm.ldN 7 H (elP 7 s.sA a)=some (.agg [I x.fr,I x.to,I x.md,I x.co,I x.ed,I x.a,I x.b]):=fun H e=>by have:=gs.ldN (H:=H) e a0 a1; rw[hx] at this; exact this
 have ly:∀H,Ext h H->Gm.ldN 7 H (elP 7 s.sA b)=some (.agg [I y.fr,I y.to,I y.md,I y.co,I y.ed,I y.a,I y.b]):=fun H e=>by have:=gs.ldN (H:=H) e b0 b1; rw[hy] at this; exact this
 refine WP.tot (fun k=>a0D k _ _ _ h) ?_
 obtain ⟨h1,hh1⟩:∃h1,h1=((h++[AObj.cells ⟨[I 0,I 0,I 0,I 0,I 0,I 0,I 0],0,0,false⟩])++[AObj.cells ⟨[I 0,I 0,I 0,I 0,I 0,I 0,I 0],0,0,false⟩]).set h.length (.cells ⟨[I x.fr,I x.to,I x.md,I x.co,I x.ed,I x.a,I x.b],0,0,false⟩):=⟨_,rfl⟩
 obtain ⟨h2,hh2⟩:∃h2,h2=h1.set (h.length+1) (.cells ⟨[I y.fr,I y.to,I y.md,I y.co,I y.ed,I y.a,I y.b],0,0,false⟩):=⟨_,rfl⟩
 have e1:Ext h h1:=by rw[hh1]; ((repeat (first|exact Ext.refl _|assumption|apply Ext.app|apply Ext.mk|(refine Ext.setr ?_ (by (first|omega|(simp only[gL]<;>omega))) _))))
 have e2:Ext h h2:=by rw[hh2]; exact e1.setr (by omega) _
 have l1:h1.length=h.length+2:=by rw[hh1]; simp
 have rx2:h2[h.length]?=some (.cells ⟨[I x.fr,I x.to,I x.md,I x.co,I x.ed,I x.a,I x.b],0,0,false⟩):=by rw[hh2,a5_ (by omega),hh1]; exact a0_ (by simp)
 have ry2:h2[h.length+1]?=some (.cells ⟨[I y.fr,I y.to,I y.md,I y.co,I y.ed,I y.a,I y.b],0,0,false⟩):=by rw[hh2]; exact a0_ (by omega)
 have w2:=w.ext ok e2
 have rw2:=w2.row
 have hz:AV.int .i64 0=I 0:=rfl
 simp only[hz]
 simp -implicitDefEqProofs (maxSteps:=1000000) (disch:=first|assumption|omega|(simp only[gL]<;>omega)|((repeat (first|exact Ext.refl _|assumption|apply Ext.app|apply Ext.mk|(refine Ext.setr ?_ (by (first|omega|(simp only[gL]<;>omega))) _))); done)|(simp only[gL,gA,rw0,gs.idxG,lx,ly]<;>omega)|fail) only[gB,setAll,partL,fldV,reduceIte,Nat.reduceAdd,Nat.reduceMul,rw0,gs.idxG,lx,ly]
 rw[<-hh1,<-hh2]
 have keep:∀(A':List Ar) (C':List Int),A'=s.A->C'=s.C->∃s' o',WV c { s with sA:=s',oA:=o',A:=A',C:=C' } h2/\FrS (fun o=>o=c.oW\/o=c.oC\/(s.sA≠.nils/\o=s.oA)) h h2/\(s'≠.nils->(o'=s.oA/\s.sA≠.nils)\/h.length<=o'):=by
  rintro _ _ rfl rfl
  exact ⟨s.sA,s.oA,w2,FrS.ofExt e2,fun q=>.inl ⟨rfl,q⟩⟩
 by_cases hm:x.md=y.md
 case neg=>
  rw[if_pos (.inl hm)]
  simp -implicitDefEqProofs (maxSteps:=1000000) (disch:=first|assumption|omega|(simp only[gL]<;>omega)|((repeat (first|exact Ext.refl _|assumption|apply Ext.app|apply Ext.mk|(refine Ext.setr ?_ (by (first|omega|(simp only[gL]<;>omega))) _))); done)|(simp only[gL,gA,hm]<;>omega)|fail) only[gB,setAll,partL,fldV,reduceIte,Nat.reduceAdd,Nat.reduceMul,hm]
  exact WP.ret ⟨rfl,keep _ _ rfl rfl⟩
 by_cases ht:y.to=x.to
 case pos=>
  rw[if_pos (.inr ht)]
  simp -implicitDefEqProofs (maxSteps:=1000000) (disch:=first|assumption|omega|(simp only[gL]<;>omega)|((repeat (first|exact Ext.refl _|assumption|apply Ext.app|apply Ext.mk|(refine Ext.setr ?_ (by (first|omega|(simp only[gL]<;>omega))) _))); done)|(simp only[gL,gA,hm,rx2,ry2,ht]<;>omega)|fail) only[gB,setAll,partL,fldV,reduceIte,Nat.reduceAdd,Nat.reduceMul,hm,rx2,ry2,ht]
  exact WP.ret ⟨rfl,keep _ _ rfl rfl⟩
 rw[if_neg (fun q=>q.elim (fun q=>q hm) ht)]
 simp -implicitDefEqProofs (maxSteps:=1000000) (disch:=first|assumption|omega|(simp only[gL]<;>omega)|((repeat (first|exact Ext.refl _|assumption|apply Ext.app|apply Ext.mk|(refine Ext.setr ?_ (by (first|omega|(simp only[gL]<;>omega))) _))); done)|(simp only[gL,gA,hm,rx2,ry2,ht]<;>omega)|fail) only[gB,setAll,partL,fldV,reduceIte,Nat.reduceAdd,Nat.reduceMul,hm,rx2,ry2,ht]
 rw[<-hm]
 have at2:=w2.at
 simp -implicitDefEqProofs (maxSteps:=1000000) (disch:=first|assumption|omega|(simp only[gL]<;>omega)|((repeat (first|exact Ext.refl _|assumption|apply Ext.app|apply Ext.mk|(refine Ext.setr ?_ (by (first|omega|(simp only[gL]<;>omega))) _))); done)|(simp only[gL,gA,rw2,rx2,ry2]<;>omega)|fail) only[gB,setAll,partL,fldV,reduceIte,Nat.reduceAdd,Nat.reduceMul,rw2,rx2,ry2]
 refine WP.call (a2Q ok at2 ax.f0 ax.f1 bx.t0 bx.t1 ax.m0 ax.m1) ?_
 rintro _ _ ⟨rfl,rfl⟩
 obtain ⟨p0,p1⟩:=cu_lt ax.f0 ax.f1 bx.t0 bx.t1 ax.m0 ax.m1
 obtain ⟨p,hp⟩:∃p,p=(x.fr*(c.N:Int)+y.to)*5+x.md:=⟨_,rfl⟩
 obtain ⟨k,hkk⟩:∃k,k=cu c.N s.C x.fr y.to x.md:=⟨_,rfl⟩
 rw[<-hkk] at hk ⊢
 have hgk:gi s.C p=k:=by rw[hkk,hp]
 rw[<-hp] at p0 p1 ⊢
 have hlt:p<s.C.length:=by rw[hC]; exact p1
 have gC2:=w2.gC.sl
 have gA2:=w2.gA.sl
 have ldk:=gC2.ld0 (H:=h2) (Ext.refl _) p0 hlt (by omega)
 rw[hgk] at ldk
 replace ldk:Gm.ld1 h2 (elP 1 c.sC p)=some (I k):=ldk
 have last:Tot tab d2_ [.ptr c.oW 0 8 0,.agg [I x.fr,I y.to,I x.md,I (x.co+y.co),I (-1),I a,I b]] h2 fun r h'=>r=.tup []/\∃s' o',WV c { s with sA:=s',oA:=o',A:=s.A++[⟨x.fr,y.to,x.md,x.co+y.co,-1,a,b⟩],C:=s.C.set p.toNat (s.A.length+1) } h'/\
   FrS (fun o=>o=c.oW\/o=c.oC\/(s.sA≠.nils/\o=s.oA)) h h'/\(s'≠.nils->(o'=s.oA/\s.sA≠.nils)\/h.length<=o'):=by
  refine (a6Q (a:=⟨x.fr,y.to,x.md,x.co+y.co,-1,a,b⟩) ok w2 hC ax.f0 ax.f1 bx.t0 bx.t1 ax.m0 ax.m1 hl).mono fun r h' ⟨q1,s',o',q2,q3,q4⟩=>⟨q1,s',o',by rw[hp]; exact q2,(FrS.ofExt e2).trans q3,fun z=>?_⟩
  rcases q4 z with q|q
  ·exact .inl q
  ·exact .inr (by have:=e2.len; omega)
 have c0:=ax.c0
 have c1:=ax.c1
 have d0:=bx.c0
 have d1:=bx.c1
 by_cases k0:k=0
 ·rw[if_pos (.inl k0)]
  simp -implicitDefEqProofs (maxSteps:=1000000) (disch:=first|assumption|omega|(simp only[gL]<;>omega)|((repeat (first|exact Ext.refl _|assumption|apply Ext.app|apply Ext.mk|(refine Ext.setr ?_ (by (first|omega|(simp only[gL]<;>omega))) _))); done)|(simp only[gL,gA,rw2,gC2.idxG,ldk,k0,rx2,ry2]<;>omega)|fail) only[gB,setAll,partL,fldV,reduceIte,Nat.reduceAdd,Nat.reduceMul,rw2,gC2.idxG,ldk,k0,rx2,ry2]
  refine WP.call last ?_
  rintro _ h3 ⟨rfl,q⟩
  exact WP.ret ⟨rfl,q⟩
 have kl:=(hA (k-1) (by omega) (by omega))
 have e0:=kl.c0
 have e1':=kl.c1
 have ldc:=gA2.ldf 3 (H:=h2) (i:=k-1) (Ext.refl _) (by omega) (by omega) (by omega)
 replace ldc:Gm.ld1 h2 (fldP 3 (elP 7 s.sA (k-1)))=some (I (gi s.A (k-1)).co):=ldc
 by_cases kc:x.co+y.co<(gi s.A (k-1)).co
 ·rw[if_pos (.inr kc)]
  simp -implicitDefEqProofs (maxSteps:=1000000) (disch:=first|assumption|omega|(simp only[gL]<;>omega)|((repeat (first|exact Ext.refl _|assumption|apply Ext.app|apply Ext.mk|(refine Ext.setr ?_ (by (first|omega|(simp only[gL]<;>omega))) _))); done)|(simp only[gL,gA,rw2,gC2.idxG,ldk,k0,rx2,ry2,gA2.idxG,ldc]<;>omega)|fail) only[gB,setAll,partL,fldV,reduceIte,Nat.reduceAdd,Nat.reduceMul,rw2,gC2.idxG,ldk,k0,rx2,ry2,gA2.idxG,ldc]
  refine WP.call last ?_
  rintro _ h3 ⟨rfl,q⟩
  exact WP.ret ⟨rfl,q⟩
 ·rw[if_neg (fun q=>q.elim k0 kc)]
  simp -implicitDefEqProofs (maxSteps:=1000000) (disch:=first|assumption|omega|(simp only[gL]<;>omega)|((repeat (first|exact Ext.refl _|assumption|apply Ext.app|apply Ext.mk|(refine Ext.setr ?_ (by (first|omega|(simp only[gL]<;>omega))) _))); done)|(simp only[gL,gA,rw2,gC2.idxG,ldk,k0,rx2,ry2,gA2.idxG,ldc]<;>omega)|fail) only[gB,setAll,partL,fldV,reduceIte,Nat.reduceAdd,Nat.reduceMul,rw2,gC2.idxG,ldk,k0,rx2,ry2,gA2.idxG,ldc]
  exact WP.ret ⟨rfl,keep _ _ rfl rfl⟩
end
end Go.Gm.AQ
namespace Go.Gm.AQ
open Go Go.Gm
def pkM (f:Int->Int->Int)(b:Bool)(u n:Nat):List Int:=(List.range n).filterMap fun (m:Nat)=>if 0<f u m/\b=false then some (f u m-1) else none
def pkTo (f:Int->Int->Int)(g:Int->Bool)(n:Nat):List Int:=(List.range n).flatMap fun (u:Nat)=>pkM f (g u) u 5
section
variable {f:Int->Int->Int} {g:Int->Bool}
theorem a0H (b:Bool)(u n:Nat):pkM f b u (n+1)=pkM f b u n++if 0<f u n/\b=false then [f u n-1] else []:=by
 simp only[pkM,List.range_succ,List.filterMap_append,List.filterMap_cons,List.filterMap_nil]
 congr 1
 by_cases q:0<f u n/\b=false
 ·rw[if_pos q,if_pos q]
 ·rw[if_neg q,if_neg q]
theorem a2o (n:Nat):pkTo f g (n+1)=pkTo f g n++pkM f (g n) n 5:=by
 simp[pkTo,List.range_succ]
theorem a5G (b:Bool)(u n:Nat):(pkM f b u n).length<=n:=by
 unfold pkM
 exact Nat.le_trans (List.length_filterMap_le _ _) (by simp)
theorem a9J (u n:Nat):pkM f true u n=[]:=by simp[pkM]
theorem x2_:∀n:Nat,(pkTo f g n).length<=5*n
 |0=>by simp[pkTo]
 |n+1=>by
  rw[a2o,List.length_append]
  have:=x2_ n
  have:=a5G (f:=f) (g n) n 5
  omega
theorem a3n {n:Nat}{k:Int}:k∈pkTo f g n↔∃u m:Int,0<=u/\u<n/\0<=m/\m<5/\0<f u m/\g u=false/\k=f u m-1:=by
 simp only[pkTo,pkM,List.mem_flatMap,List.mem_range,List.mem_filterMap]
 constructor
 ·rintro ⟨u,hu,m,hm,he⟩
  split at he
  ·rename_i q
   injection he with he
   exact ⟨u,m,by omega,by omega,by omega,by omega,q.1,q.2,he.symm⟩
  ·cases he
 ·rintro ⟨u,m,u0,u1,m0,m1,q1,q2,rfl⟩
  refine ⟨u.toNat,by omega,m.toNat,by omega,?_⟩
  rw[Int.toNat_of_nonneg u0,Int.toNat_of_nonneg m0,if_pos ⟨q1,q2⟩]
end
section
variable {c:WC} {s:WS} {h0:Heap}
abbrev outF (c:WC)(s:WS)(v:Int):Int->Int->Int:=fun u m=>cu c.N s.C v u m
abbrev inF (c:WC)(s:WS)(v:Int):Int->Int->Int:=fun u m=>cu c.N s.C u v m
abbrev gonF (s:WS):Int->Bool:=fun u=>gi s.g u
abbrev gonV (s:WS)(v:Int):Int->Bool:=fun u=>gi s.g u || decide (u=v)
def CuOk (c:WC)(s:WS):Prop:=∀u w m:Int,0<=u->u<c.N->0<=w->w<c.N->0<=m->m<5->0<=cu c.N s.C u w m/\cu c.N s.C u w m<=1000000000
theorem b1c (ok:c.Ok)(w:WV c s h0)(hC:s.C.length=c.N*c.N*5)(hg:s.g.length=c.N)(cok:CuOk c s){v:Int}(v0:0<=v)(v1:v<c.N){u:Nat}(u1:u<c.N){Q:AV->Heap->Prop}(hQ:∀l h',Ext h0 h'->Gr h0.length h'.length h' 1 l ((pkTo (outF c s v) (gonF s) u++pkM (outF c s v) (gi s.g u) u 5).map encI)->WP (fun p:Nat × Nat=>m0_ p.1 p.2 (.ptr c.oW 0 8 0) (I v) l (I u) h') Q) :
  ∀(d m:Nat) (l:AV) (h:Heap),m+d=5->Ext h0 h->Gr h0.length h.length h 1 l ((pkTo (outF c s v) (gonF s) u++pkM (outF c s v) (gi s.g u) u m).map encI)->
   WP (fun p:(Nat × Nat) × Nat=>b7_ p.1.1 p.1.2 p.2 (.ptr c.oW 0 8 0) (I v) l (I u) (I m) h) Q:=by
 intro d
 induction d with
 |zero=>
  intro m l h hm e g
  refine WP.rnd (fun i j=>q6_ i.1 i.2 j (.ptr c.oW 0 8 0) (I v) l (I u) (I m) h) ?_
  rw[show m=5 by omega] at g ⊢
  simp -implicitDefEqProofs (maxSteps:=1000000) (disch:=first|assumption|omega|(simp only[gL]<;>omega)|((repeat (first|exact Ext.refl _|assumption|apply Ext.app|apply Ext.mk|(refine Ext.setr ?_ (by (first|omega|(simp only[gL]<;>omega))) _))); done)|(simp only[gL,gA]<;>omega)|fail) only[gB,setAll,partL,fldV,reduceIte,Nat.reduceAdd,Nat.reduceMul]
  exact WP.lv (hQ l h e g) fun i j=>rfl
 |succ d ih=>
  intro m l h hm e g
  refine WP.rnd (fun i j=>q6_ i.1 i.2 j (.ptr c.oW 0 8 0) (I v) l (I u) (I m) h) ?_
  have wh:=w.ext ok e
  have r:=wh.row
  have lb:=wh.lb
  have t:=ok.t
  have gC:=wh.gC.sl
  have gG:=wh.gG.sl
  obtain ⟨p0,p1⟩:=cu_lt (m:=(m:Int)) v0 v1 (show (0:Int)<=u by omega) (by omega) (by omega) (by omega)
  have ck:=cok v u m v0 v1 (by omega) (by omega) (by omega) (by omega)
  obtain ⟨p,hp⟩:∃p,p=(v*(c.N:Int)+(u:Int))*5+(m:Int):=⟨_,rfl⟩
  obtain ⟨k,hk⟩:∃k,k=cu c.N s.C v u m:=⟨_,rfl⟩
  have hgk:gi s.C p=k:=by rw[hk,hp]
  have ef:outF c s v (u:Int) (m:Int)=k:=hk.symm
  rw[<-hk] at ck
  rw[<-hp] at p0 p1
  have hlt:p<s.C.length:=by rw[hC]; exact p1
  have ldk:=gC.ld0 (H:=h) (Ext.refl _) p0 hlt (by omega)
  rw[hgk] at ldk
  replace ldk:Gm.ld1 h (elP 1 c.sC p)=some (I k):=ldk
  have ldg:=gG.ld0 (H:=h) (i:=(u:Int)) (Ext.refl _) (by omega) (by omega) (by omega)
  replace ldg:Gm.ld1 h (elP 1 c.sG (u:Int))=some (.bool (gi s.g u)):=ldg
  have hle:=x2_ (f:=outF c s v) (g:=gonF s) u
  have hle2:=a5G (f:=outF c s v) (gi s.g u) u m
  have hn:=ok.n
  simp -implicitDefEqProofs (maxSteps:=1000000) (disch:=first|assumption|omega|(simp only[gL]<;>omega)|((repeat (first|exact Ext.refl _|assumption|apply Ext.app|apply Ext.mk|(refine Ext.setr ?_ (by (first|omega|(simp only[gL]<;>omega))) _))); done)|(simp only[gL,gA,r]<;>omega)|fail) only[gB,setAll,partL,fldV,reduceIte,Nat.reduceAdd,Nat.reduceMul,r]
  refine WP.call (a2Q ok wh.at v0 v1 (by omega) (by omega) (by omega) (by omega)) ?_
  rintro _ _ ⟨rfl,rfl⟩
  rw[<-hp]
  have fin:∀(l':AV) (h':Heap),Ext h0 h'->Gr h0.length h'.length h' 1 l' ((pkTo (outF c s v) (gonF s) u++pkM (outF c s v) (gi s.g u) u (m+1)).map encI)->WP (fun p:(Nat × Nat) × Nat=>b7_ p.1.1 p.1.2 p.2 (.ptr c.oW 0 8 0) (I v) l' (I u) (I ((m:Int)+1)) h') Q:=fun l' h' e' g'=>ih (m+1) l' h' (by omega) e' g'
  by_cases k0:0<k
  ·cases hgu:gi s.g (u:Int) with
   |true=>
    rw[hgu] at ldg
    simp -implicitDefEqProofs (maxSteps:=1000000) (disch:=first|assumption|omega|(simp only[gL]<;>omega)|((repeat (first|exact Ext.refl _|assumption|apply Ext.app|apply Ext.mk|(refine Ext.setr ?_ (by (first|omega|(simp only[gL]<;>omega))) _))); done)|(simp only[gL,gA,r,gC.idxG,ldk,gG.idxG,ldg]<;>omega)|fail) only[gB,setAll,partL,fldV,reduceIte,Nat.reduceAdd,Nat.reduceMul,r,gC.idxG,ldk,gG.idxG,ldg]
    refine fin l h e (g.cong ?_)
    rw[a0H,ef,hgu]
    simp
   |false=>
    rw[hgu] at ldg
    obtain ⟨s',h',k1,k2,k3⟩:=g.append1 (bytes:=8) (v:=[I (k-1)]) rfl (by omega) (by omega) (by simp; omega) e.len (Nat.le_refl _)
    rw[a1_] at k1
    simp -implicitDefEqProofs (maxSteps:=1000000) (disch:=first|assumption|omega|(simp only[gL]<;>omega)|((repeat (first|exact Ext.refl _|assumption|apply Ext.app|apply Ext.mk|(refine Ext.setr ?_ (by (first|omega|(simp only[gL]<;>omega))) _))); done)|(simp only[gL,gA,r,gC.idxG,ldk,gG.idxG,ldg,k1]<;>omega)|fail) only[gB,setAll,partL,fldV,reduceIte,Nat.reduceAdd,Nat.reduceMul,r,gC.idxG,ldk,gG.idxG,ldg,k1]
    refine fin s' h' (k3.ext e (Nat.le_refl _)) (k2.cong ?_)
    rw[a0H,ef,hgu,if_pos ⟨k0,rfl⟩]
    simp[encI]
  ·simp -implicitDefEqProofs (maxSteps:=1000000) (disch:=first|assumption|omega|(simp only[gL]<;>omega)|((repeat (first|exact Ext.refl _|assumption|apply Ext.app|apply Ext.mk|(refine Ext.setr ?_ (by (first|omega|(simp only[gL]<;>omega))) _))); done)|(simp only[gL,gA,r,gC.idxG,ldk,k0]<;>omega)|fail) only[gB,setAll,partL,fldV,reduceIte,Nat.reduceAdd,Nat.reduceMul,r,gC.idxG,ldk,k0]
   refine fin l h e (g.cong ?_)
   rw[a0H,ef,if_neg (fun q=>k0 q.1)]
   simp
theorem b1d (ok:c.Ok)(w:WV c s h0)(hC:s.C.length=c.N*c.N*5)(hg:s.g.length=c.N)(cok:CuOk c s){v:Int}(v0:0<=v)(v1:v<c.N):∀(d u:Nat) (l:AV) (h:Heap),u+d=c.N->Ext h0 h->Gr h0.length h.length h 1 l ((pkTo (outF c s v) (gonF s) u).map encI)->
   WP (fun p:Nat × Nat=>g6_ p.1 p.2 (.ptr c.oW 0 8 0) (I v) l (I u) h) fun r h'=>Ext h0 h'/\Gr h0.length h'.length h' 1 r ((pkTo (outF c s v) (gonF s) c.N).map encI):=by
 intro d
 induction d with
 |zero=>
  intro u l h hu e g
  refine WP.rnd (fun i j=>q7_ i j (.ptr c.oW 0 8 0) (I v) l (I u) h) ?_
  have r:=(w.ext ok e).row
  rw[show u=c.N by omega] at g ⊢
  simp -implicitDefEqProofs (disch:=first|assumption|omega|(simp only[gL,gA]<;>omega)|fail) only[gC,reduceIte,r]
  exact WP.ret ⟨e,g⟩
 |succ d ih=>
  intro u l h hu e g
  refine WP.rnd (fun i j=>q7_ i j (.ptr c.oW 0 8 0) (I v) l (I u) h) ?_
  have r:=(w.ext ok e).row
  have hn:=ok.n
  simp -implicitDefEqProofs (disch:=first|assumption|omega|(simp only[gL,gA]<;>omega)|fail) only[gC,reduceIte,r]
  refine WP.ent (b1c ok w hC hg cok v0 v1 (u:=u) (by omega) (fun l' h' e' g'=>?_) 5 0 l h (by omega) e (g.cong (by simp[pkM]))) fun i=>rfl
  refine WP.congr (fun i=>a0r i.1 i.2 ..) ?_
  simp -implicitDefEqProofs (disch:=first|assumption|omega|(simp only[gL,gA]<;>omega)|fail) only[gC,reduceIte]
  refine ih (u+1) l' h' (by omega) e' (g'.cong ?_)
  rw[a2o]
theorem a6b (ok:c.Ok)(w:WV c s h0)(hC:s.C.length=c.N*c.N*5)(hg:s.g.length=c.N)(cok:CuOk c s){v:Int}(v0:0<=v)(v1:v<c.N) :
  Tot tab a8_ [.ptr c.oW 0 8 0,I v] h0 fun r h'=>Ext h0 h'/\Gr h0.length h'.length h' 1 r ((pkTo (outF c s v) (gonF s) c.N).map encI):=
 WP.tot (fun k=>a1d k _ _ h0) (WP.ent (b1d ok w hC hg cok v0 v1 c.N 0 .nils h0 (by omega) (Ext.refl _) (Gr.nil ..)) fun i=>rfl)
theorem in_l2 (ok:c.Ok)(w:WV c s h0)(hC:s.C.length=c.N*c.N*5)(hg:s.g.length=c.N)(cok:CuOk c s){v:Int}(v0:0<=v)(v1:v<c.N){u:Nat}(u1:u<c.N)(huv:¬(u:Int)=v){Q:AV->Heap->Prop}(hQ:∀l h',Ext h0 h'->Gr h0.length h'.length h' 1 l ((pkTo (inF c s v) (gonV s v) u++pkM (inF c s v) (gi s.g u) u 5).map encI)->WP (fun p:Nat × Nat=>h6_ p.1 p.2 (.ptr c.oW 0 8 0) (I v) l (I u) h') Q) :
  ∀(d m:Nat) (l:AV) (h:Heap),m+d=5->Ext h0 h->Gr h0.length h.length h 1 l ((pkTo (inF c s v) (gonV s v) u++pkM (inF c s v) (gi s.g u) u m).map encI)->
   WP (fun p:(Nat × Nat) × Nat=>a9_ p.1.1 p.1.2 p.2 (.ptr c.oW 0 8 0) (I v) l (I u) (I m) h) Q:=by
 intro d
 induction d with
 |zero=>
  intro m l h hm e g
  refine WP.rnd (fun i j=>k3_ i.1 i.2 j (.ptr c.oW 0 8 0) (I v) l (I u) (I m) h) ?_
  rw[show m=5 by omega] at g ⊢
  simp -implicitDefEqProofs (maxSteps:=1000000) (disch:=first|assumption|omega|(simp only[gL]<;>omega)|((repeat (first|exact Ext.refl _|assumption|apply Ext.app|apply Ext.mk|(refine Ext.setr ?_ (by (first|omega|(simp only[gL]<;>omega))) _))); done)|(simp only[gL,gA]<;>omega)|fail) only[gB,setAll,partL,fldV,reduceIte,Nat.reduceAdd,Nat.reduceMul]
  exact WP.lv (hQ l h e g) fun i j=>rfl
 |succ d ih=>
  intro m l h hm e g
  refine WP.rnd (fun i j=>k3_ i.1 i.2 j (.ptr c.oW 0 8 0) (I v) l (I u) (I m) h) ?_
  have wh:=w.ext ok e
  have r:=wh.row
  have lb:=wh.lb
  have t:=ok.t
  have gC:=wh.gC.sl
  have gG:=wh.gG.sl
  obtain ⟨p0,p1⟩:=cu_lt (m:=(m:Int)) (show (0:Int)<=u by omega) (show (u:Int)<c.N by omega) v0 v1 (by omega) (by omega)
  have ck:=cok u v m (by omega) (by omega) v0 v1 (by omega) (by omega)
  obtain ⟨p,hp⟩:∃p,p=((u:Int)*(c.N:Int)+v)*5+(m:Int):=⟨_,rfl⟩
  obtain ⟨k,hk⟩:∃k,k=cu c.N s.C u v m:=⟨_,rfl⟩
  have hgk:gi s.C p=k:=by rw[hk,hp]
  have ef:inF c s v (u:Int) (m:Int)=k:=hk.symm
  rw[<-hk] at ck
  rw[<-hp] at p0 p1
  have hlt:p<s.C.length:=by rw[hC]; exact p1
  have ldk:=gC.ld0 (H:=h) (Ext.refl _) p0 hlt (by omega)
  rw[hgk] at ldk
  replace ldk:Gm.ld1 h (elP 1 c.sC p)=some (I k):=ldk
  have ldg:=gG.ld0 (H:=h) (i:=(u:Int)) (Ext.refl _) (by omega) (by omega) (by omega)
  replace ldg:Gm.ld1 h (elP 1 c.sG (u:Int))=some (.bool (gi s.g u)):=ldg
  have hle:=x2_ (f:=inF c s v) (g:=gonV s v) u
  have hle2:=a5G (f:=inF c s v) (gi s.g u) u m
  have hn:=ok.n
  simp -implicitDefEqProofs (maxSteps:=1000000) (disch:=first|assumption|omega|(simp only[gL]<;>omega)|((repeat (first|exact Ext.refl _|assumption|apply Ext.app|apply Ext.mk|(refine Ext.setr ?_ (by (first|omega|(simp only[gL]<;>omega))) _))); done)|(simp only[gL,gA,r]<;>omega)|fail) only[gB,setAll,partL,fldV,reduceIte,Nat.reduceAdd,Nat.reduceMul,r]
  refine WP.call (a2Q ok wh.at (by omega) (by omega) v0 v1 (by omega) (by omega)) ?_
  rintro _ _ ⟨rfl,rfl⟩
  rw[<-hp]
  have fin:∀(l':AV) (h':Heap),Ext h0 h'->Gr h0.length h'.length h' 1 l' ((pkTo (inF c s v) (gonV s v) u++pkM (inF c s v) (gi s.g u) u (m+1)).map encI)->WP (fun p:(Nat × Nat) × Nat=>a9_ p.1.1 p.1.2 p.2 (.ptr c.oW 0 8 0) (I v) l' (I u) (I ((m:Int)+1)) h') Q:=fun l' h' e' g'=>ih (m+1) l' h' (by omega) e' g'
  by_cases k0:0<k
  ·cases hgu:gi s.g (u:Int) with
   |true=>
    rw[hgu] at ldg
    simp -implicitDefEqProofs (maxSteps:=1000000) (disch:=first|assumption|omega|(simp only[gL]<;>omega)|((repeat (first|exact Ext.refl _|assumption|apply Ext.app|apply Ext.mk|(refine Ext.setr ?_ (by (first|omega|(simp only[gL]<;>omega))) _))); done)|(simp only[gL,gA,r,gC.idxG,ldk,gG.idxG,ldg]<;>omega)|fail) only[gB,setAll,partL,fldV,reduceIte,Nat.reduceAdd,Nat.reduceMul,r,gC.idxG,ldk,gG.idxG,ldg]
    refine fin l h e (g.cong ?_)
    rw[a0H,ef,hgu]
    simp
   |false=>
    rw[hgu] at ldg
    obtain ⟨s',h',k1,k2,k3⟩:=g.append1 (bytes:=8) (v:=[I (k-1)]) rfl (by omega) (by omega) (by simp; omega) e.len (Nat.le_refl _)
    rw[a1_] at k1
    simp -implicitDefEqProofs (maxSteps:=1000000) (disch:=first|assumption|omega|(simp only[gL]<;>omega)|((repeat (first|exact Ext.refl _|assumption|apply Ext.app|apply Ext.mk|(refine Ext.setr ?_ (by (first|omega|(simp only[gL]<;>omega))) _))); done)|(simp only[gL,gA,r,gC.idxG,ldk,gG.idxG,ldg,k1]<;>omega)|fail) only[gB,setAll,partL,fldV,reduceIte,Nat.reduceAdd,Nat.reduceMul,r,gC.idxG,ldk,gG.idxG,ldg,k1]
    refine fin s' h' (k3.ext e (Nat.le_refl _)) (k2.cong ?_)
    rw[a0H,ef,hgu,if_pos ⟨k0,rfl⟩]
    simp[encI]
  ·simp -implicitDefEqProofs (maxSteps:=1000000) (disch:=first|assumption|omega|(simp only[gL]<;>omega)|((repeat (first|exact Ext.refl _|assumption|apply Ext.app|apply Ext.mk|(refine Ext.setr ?_ (by (first|omega|(simp only[gL]<;>omega))) _))); done)|(simp only[gL,gA,r,gC.idxG,ldk,k0]<;>omega)|fail) only[gB,setAll,partL,fldV,reduceIte,Nat.reduceAdd,Nat.reduceMul,r,gC.idxG,ldk,k0]
   refine fin l h e (g.cong ?_)
   rw[a0H,ef,if_neg (fun q=>k0 q.1)]
   simp
theorem in_l1 (ok:c.Ok)(w:WV c s h0)(hC:s.C.length=c.N*c.N*5)(hg:s.g.length=c.N)(cok:CuOk c s){v:Int}(v0:0<=v)(v1:v<c.N):∀(d u:Nat) (l:AV) (h:Heap),u+d=c.N->Ext h0 h->Gr h0.length h.length h 1 l ((pkTo (inF c s v) (gonV s v) u).map encI)->
   WP (fun p:Nat × Nat=>h5_ p.1 p.2 (.ptr c.oW 0 8 0) (I v) l (I u) h) fun r h'=>Ext h0 h'/\Gr h0.length h'.length h' 1 r ((pkTo (inF c s v) (gonV s v) c.N).map encI):=by
 intro d
 induction d with
 |zero=>
  intro u l h hu e g
  refine WP.rnd (fun i j=>r7_ i j (.ptr c.oW 0 8 0) (I v) l (I u) h) ?_
  have r:=(w.ext ok e).row
  rw[show u=c.N by omega] at g ⊢
  simp -implicitDefEqProofs (disch:=first|assumption|omega|(simp only[gL,gA]<;>omega)|fail) only[gC,reduceIte,r]
  exact WP.ret ⟨e,g⟩
 |succ d ih=>
  intro u l h hu e g
  refine WP.rnd (fun i j=>r7_ i j (.ptr c.oW 0 8 0) (I v) l (I u) h) ?_
  have r:=(w.ext ok e).row
  have hn:=ok.n
  simp -implicitDefEqProofs (disch:=first|assumption|omega|(simp only[gL,gA]<;>omega)|fail) only[gC,reduceIte,r]
  have fin:∀(l':AV) (h':Heap),Ext h0 h'->Gr h0.length h'.length h' 1 l' ((pkTo (inF c s v) (gonV s v) (u+1)).map encI)->WP (fun p:Nat × Nat=>h6_ p.1 p.2 (.ptr c.oW 0 8 0) (I v) l' (I u) h') fun r h'=>Ext h0 h'/\Gr h0.length h'.length h' 1 r ((pkTo (inF c s v) (gonV s v) c.N).map encI):=by
   intro l' h' e' g'
   refine WP.congr (fun i=>a0C i.1 i.2 ..) ?_
   simp -implicitDefEqProofs (disch:=first|assumption|omega|(simp only[gL,gA]<;>omega)|fail) only[gC,reduceIte]
   exact ih (u+1) l' h' (by omega) e' g'
  by_cases huv:(u:Int)=v
  ·refine WP.ent (c2:=fun p:(Nat × Nat) × Nat=>a9_ p.1.1 p.1.2 p.2 (.ptr c.oW 0 8 0) (I v) l (I u) (I 0) h) ?_ fun i=>rfl
   refine WP.rnd (fun i j=>k3_ i.1 i.2 j (.ptr c.oW 0 8 0) (I v) l (I u) (I 0) h) ?_
   simp -implicitDefEqProofs (disch:=first|assumption|omega|(simp only[gL,gA]<;>omega)|fail) only[gC,reduceIte,huv]
   refine WP.lv (fin l h e (g.cong ?_)) fun i j=>by rw[huv]
   rw[a2o,show gonV s v (u:Int)=true by simp[huv],a9J,List.append_nil]
  ·refine WP.ent (in_l2 ok w hC hg cok v0 v1 (u:=u) (by omega) huv (fun l' h' e' g'=>?_) 5 0 l h (by omega) e (g.cong (by simp[pkM]))) fun i=>rfl
   refine fin l' h' e' (g'.cong ?_)
   rw[a2o,show gonV s v (u:Int)=gi s.g (u:Int) by simp[huv]]
theorem a9K (ok:c.Ok)(w:WV c s h0)(hC:s.C.length=c.N*c.N*5)(hg:s.g.length=c.N)(cok:CuOk c s){v:Int}(v0:0<=v)(v1:v<c.N) :
  Tot tab c2_ [.ptr c.oW 0 8 0,I v] h0 fun r h'=>Ext h0 h'/\Gr h0.length h'.length h' 1 r ((pkTo (inF c s v) (gonV s v) c.N).map encI):=
 WP.tot (fun k=>a1v k _ _ h0) (WP.ent (in_l1 ok w hC hg cok v0 v1 c.N 0 .nils h0 (by omega) (Ext.refl _) (Gr.nil ..)) fun i=>rfl)
end
end Go.Gm.AQ
namespace Go.Gm.AQ
open Go Go.Gm
def RefV (h:Heap)(a:AV)(N:Int)(es:List E):Prop:=∃s,At h a [I N,s]/\Sl h 4 s (es.map encE)
theorem RefV.ext {h h':Heap}{a:AV}{N:Int}{es:List E}(w:RefV h a N es)(e:Ext h h'):RefV h' a N es:=by
 obtain ⟨s,w1,w2⟩:=w
 exact ⟨s,w1.ext e,w2.ext e⟩
theorem a4o {h:Heap}{N:Int}{s:AV}{es:List E}(hs:Sl h 4 s (es.map encE)) :
  Tot tab n3_ [.agg [I N,s]] h fun r h'=>Ext h h'/\RefV h' r N es:=by
 refine WP.tot (fun k=>a3c k _ h) ?_
 simp -implicitDefEqProofs (maxSteps:=1000000) (disch:=first|assumption|omega|(simp only[gL]<;>omega)|((repeat (first|exact Ext.refl _|assumption|apply Ext.app|apply Ext.mk|(refine Ext.setr ?_ (by (first|omega|(simp only[gL]<;>omega))) _))); done)|(simp only[gL,gA,hs.one]<;>omega)|fail) only[gB,setAll,partL,fldV,reduceIte,Nat.reduceAdd,Nat.reduceMul,hs.one]
 refine WP.ret ⟨by ((repeat (first|exact Ext.refl _|assumption|apply Ext.app|apply Ext.mk|(refine Ext.setr ?_ (by (first|omega|(simp only[gL]<;>omega))) _)))),s,?_,hs.ext (by ((repeat (first|exact Ext.refl _|assumption|apply Ext.app|apply Ext.mk|(refine Ext.setr ?_ (by (first|omega|(simp only[gL]<;>omega))) _)))))⟩
 exact ⟨h.length+1,0,2,0,⟨[I N,s],0,0,false⟩,by simp,by simp,by simp,Nat.le_refl _,by simp⟩
theorem a7d {h0:Heap}{a:AV}{N v:Int}{es:List E}(w:RefV h0 a N es)(hn:es.length<=100000):∀(d n:Nat) (out:AV) (h:Heap),n+d=es.length->Ext h0 h->Gr h0.length h.length h 1 out ((idxTo (fun e=>e.fr == v) es n).map encI)->
  WP (fun p:Nat × Nat=>e0_ p.1 p.2 a (I v) out (I n) h) fun r h'=>Ext h0 h'/\Gr h0.length h'.length h' 1 r ((outL es v).map encI):=by
 obtain ⟨s,w,ws⟩:=w
 intro d
 induction d with
 |zero=>
  intro n out h h1 e g
  refine WP.rnd (fun i' j=>s1_ i' j a (I v) out (I n) h) ?_
  simp -implicitDefEqProofs (disch:=first|assumption|omega|(simp only[gL,gA]<;>omega)|fail) only[gC,reduceIte,w.nil,w.nilf,w.fldA0,w.fldAf,w.ldfE,ws.lenG]
  refine WP.ret ⟨e,?_⟩
  rw[show n=es.length by omega] at g
  exact g
 |succ d ih=>
  intro n out h h1 e g
  refine WP.rnd (fun i' j=>s1_ i' j a (I v) out (I n) h) ?_
  have hle:=l3_ (fun e=>e.fr == v) es n
  by_cases hx:(gi es n).fr=v
  ·obtain ⟨s',h',k1,k2,k3⟩:=g.append1 (bytes:=8) (v:=[I n]) rfl (by omega) (by omega) (by simp; omega) e.len (Nat.le_refl _)
   rw[a1_] at k1
   simp -implicitDefEqProofs (disch:=first|assumption|omega|exact Ext.refl _|(simp only[gL,gA]<;>omega)|fail) only[gC,reduceIte,w.nil,w.nilf,w.fldA0,w.fldAf,w.ldfE,ws.lenG,ws.idxG,ws.ldf,encE,k1]
   refine ih (n+1) s' h' (by omega) (k3.ext e (Nat.le_refl _)) (k2.cong ?_)
   simp[a0n,hx,encI]
  ·simp -implicitDefEqProofs (disch:=first|assumption|omega|exact Ext.refl _|(simp only[gL,gA]<;>omega)|fail) only[gC,reduceIte,w.nil,w.nilf,w.fldA0,w.fldAf,w.ldfE,ws.lenG,ws.idxG,ws.ldf,encE]
   refine ih (n+1) out h (by omega) e (g.cong ?_)
   simp[a0n,hx]
theorem a7e {h:Heap}{a:AV}{N v:Int}{es:List E}(w:RefV h a N es)(hn:es.length<=100000) :
  Tot tab i6_ [a,I v] h fun r h'=>Ext h h'/\Gr h.length h'.length h' 1 r ((outL es v).map encI):=
 WP.tot (fun k=>a1O k _ _ h) (WP.ent (a7d w hn es.length 0 .nils h (by omega) (Ext.refl _) (Gr.nil ..)) fun i=>rfl)
theorem a8f {h0:Heap}{a:AV}{N v:Int}{es:List E}(w:RefV h0 a N es)(hn:es.length<=100000):∀(d n:Nat) (out:AV) (h:Heap),n+d=es.length->Ext h0 h->Gr h0.length h.length h 1 out ((idxTo (fun e=>e.to == v) es n).map encI)->
  WP (fun p:Nat × Nat=>e4_ p.1 p.2 a (I v) out (I n) h) fun r h'=>Ext h0 h'/\Gr h0.length h'.length h' 1 r ((inL es v).map encI):=by
 obtain ⟨s,w,ws⟩:=w
 intro d
 induction d with
 |zero=>
  intro n out h h1 e g
  refine WP.rnd (fun i' j=>t6_ i' j a (I v) out (I n) h) ?_
  simp -implicitDefEqProofs (disch:=first|assumption|omega|(simp only[gL,gA]<;>omega)|fail) only[gC,reduceIte,w.nil,w.nilf,w.fldA0,w.fldAf,w.ldfE,ws.lenG]
  refine WP.ret ⟨e,?_⟩
  rw[show n=es.length by omega] at g
  exact g
 |succ d ih=>
  intro n out h h1 e g
  refine WP.rnd (fun i' j=>t6_ i' j a (I v) out (I n) h) ?_
  have hle:=l3_ (fun e=>e.to == v) es n
  by_cases hx:(gi es n).to=v
  ·obtain ⟨s',h',k1,k2,k3⟩:=g.append1 (bytes:=8) (v:=[I n]) rfl (by omega) (by omega) (by simp; omega) e.len (Nat.le_refl _)
   rw[a1_] at k1
   simp -implicitDefEqProofs (disch:=first|assumption|omega|exact Ext.refl _|(simp only[gL,gA]<;>omega)|fail) only[gC,reduceIte,w.nil,w.nilf,w.fldA0,w.fldAf,w.ldfE,ws.lenG,ws.idxG,ws.ldf,encE,k1]
   refine ih (n+1) s' h' (by omega) (k3.ext e (Nat.le_refl _)) (k2.cong ?_)
   simp[a0n,hx,encI]
  ·simp -implicitDefEqProofs (disch:=first|assumption|omega|exact Ext.refl _|(simp only[gL,gA]<;>omega)|fail) only[gC,reduceIte,w.nil,w.nilf,w.fldA0,w.fldAf,w.ldfE,ws.lenG,ws.idxG,ws.ldf,encE]
   refine ih (n+1) out h (by omega) e (g.cong ?_)
   simp[a0n,hx]
theorem a8g {h:Heap}{a:AV}{N v:Int}{es:List E}(w:RefV h a N es)(hn:es.length<=100000) :
  Tot tab k5_ [a,I v] h fun r h'=>Ext h h'/\Gr h.length h'.length h' 1 r ((inL es v).map encI):=
 WP.tot (fun k=>a2b k _ _ h) (WP.ent (a8f w hn es.length 0 .nils h (by omega) (Ext.refl _) (Gr.nil ..)) fun i=>rfl)
def rmTo (es:List E)(v:Int):Nat->Nat
 |0=>0
 |n+1=>if (gi es n).fr=v\/(gi es n).to=v then rmTo es v n ||| 2 ^ (gi es n).md.toNat else rmTo es v n
theorem a5H {N:Int}{es:List E}(ok:NetOk N es)(v:Int):∀n:Nat,n<=es.length->rmTo es v n<2 ^ 5
 |0,_=>by simp[rmTo]
 |n+1,h=>by
  have h1:=a5H ok v n (by omega)
  have h2:=ok.edge _ (a4_ (xs:=es) (i:=(n:Int)) (by omega) (by omega))
  rw[rmTo]
  split
  ·exact Nat.or_lt_two_pow h1 (Nat.pow_lt_pow_right (by omega) (by omega))
  ·exact h1
theorem a4S (es:List E)(v:Int)(m:Nat):∀n:Nat,(rmTo es v n).testBit m=true↔∃k:Int,0<=k/\k<n/\((gi es k).fr=v\/(gi es k).to=v)/\(gi es k).md.toNat=m
 |0=>by simp[rmTo]; intro k h0 h1; omega
 |n+1=>by
  have ih:=a4S es v m n
  rw[rmTo]
  constructor
  ·intro h
   split at h
   ·rename_i hc
    rw[Nat.testBit_or,Bool.or_eq_true,Nat.testBit_two_pow,decide_eq_true_eq] at h
    rcases h with h|h
    ·obtain ⟨k,k0,k1,k2⟩:=ih.1 h
     exact ⟨k,k0,by omega,k2⟩
    ·exact ⟨n,by omega,by omega,hc,h⟩
   ·obtain ⟨k,k0,k1,k2⟩:=ih.1 h
    exact ⟨k,k0,by omega,k2⟩
  ·rintro ⟨k,k0,k1,k2,k3⟩
   by_cases hk:k=n
   ·subst hk
    rw[if_pos k2,Nat.testBit_or,Nat.testBit_two_pow,k3]; simp
   ·have h4:=ih.2 ⟨k,k0,by omega,k2,k3⟩
    split
    ·rw[Nat.testBit_or,h4]; rfl
    ·exact h4
theorem a6i {h:Heap}{a:AV}{N v:Int}{es:List E}(ok:NetOk N es)(w:RefV h a N es):∀(d n:Nat),n+d=es.length->
  WP (fun p:Nat × Nat=>c8_ p.1 p.2 a (I v) (I (rmTo es v n:Nat)) (I n) h) fun r h'=>r=I (rmTo es v es.length:Nat)/\h=h':=by
 obtain ⟨s,w,ws⟩:=w
 have hln:=ok.len
 intro d
 induction d with
 |zero=>
  intro n h1
  refine WP.rnd (fun i' j=>q8_ i' j a (I v) _ (I n) h) ?_
  simp -implicitDefEqProofs (maxSteps:=1000000) (disch:=first|assumption|omega|(simp only[gL]<;>omega)|((repeat (first|exact Ext.refl _|assumption|apply Ext.app|apply Ext.mk|(refine Ext.setr ?_ (by (first|omega|(simp only[gL]<;>omega))) _))); done)|(simp only[gL,gA,w.nil,w.nilf,w.fldA0,w.fldAf,w.ldfE,ws.lenG]<;>omega)|fail) only[gB,setAll,partL,fldV,reduceIte,Nat.reduceAdd,Nat.reduceMul,w.nil,w.nilf,w.fldA0,w.fldAf,w.ldfE,ws.lenG]
  rw[show n=es.length by omega]
  exact WP.ret ⟨rfl,rfl⟩
 |succ d ih=>
  intro n h1
  refine WP.rnd (fun i' j=>q8_ i' j a (I v) _ (I n) h) ?_
  have he:=ok.edge _ (a4_ (xs:=es) (i:=(n:Int)) (by omega) (by omega))
  have hp:2 ^ (gi es n).md.toNat<2 ^ 5:=Nat.pow_lt_pow_right (by omega) (by omega)
  have hlt:=a5H ok v n (by omega)
  have hor:=or_i (a:=rmTo es v n) (b:=2 ^ (gi es n).md.toNat) (by omega) (by omega)
  have hn:=ih (n+1) (by omega)
  rw[rmTo] at hn
  by_cases hf:(gi es n).fr=v
  ·rw[if_pos (.inl hf)] at hn
   simp -implicitDefEqProofs (maxSteps:=1000000) (disch:=first|assumption|omega|(simp only[gL]<;>omega)|((repeat (first|exact Ext.refl _|assumption|apply Ext.app|apply Ext.mk|(refine Ext.setr ?_ (by (first|omega|(simp only[gL]<;>omega))) _))); done)|(simp only[gL,gA,w.nil,w.nilf,w.fldA0,w.fldAf,w.ldfE,ws.lenG,ws.idxG,ws.ldf,encE,hor]<;>omega)|fail) only[gB,setAll,partL,fldV,reduceIte,Nat.reduceAdd,Nat.reduceMul,w.nil,w.nilf,w.fldA0,w.fldAf,w.ldfE,ws.lenG,ws.idxG,ws.ldf,encE,hor]
   exact hn
  ·by_cases ht:(gi es n).to=v
   ·rw[if_pos (.inr ht)] at hn
    simp -implicitDefEqProofs (maxSteps:=1000000) (disch:=first|assumption|omega|(simp only[gL]<;>omega)|((repeat (first|exact Ext.refl _|assumption|apply Ext.app|apply Ext.mk|(refine Ext.setr ?_ (by (first|omega|(simp only[gL]<;>omega))) _))); done)|(simp only[gL,gA,w.nil,w.nilf,w.fldA0,w.fldAf,w.ldfE,ws.lenG,ws.idxG,ws.ldf,encE,hor]<;>omega)|fail) only[gB,setAll,partL,fldV,reduceIte,Nat.reduceAdd,Nat.reduceMul,w.nil,w.nilf,w.fldA0,w.fldAf,w.ldfE,ws.lenG,ws.idxG,ws.ldf,encE,hor]
    exact hn
   ·rw[if_neg (fun q=>q.elim hf ht)] at hn
    simp -implicitDefEqProofs (maxSteps:=1000000) (disch:=first|assumption|omega|(simp only[gL]<;>omega)|((repeat (first|exact Ext.refl _|assumption|apply Ext.app|apply Ext.mk|(refine Ext.setr ?_ (by (first|omega|(simp only[gL]<;>omega))) _))); done)|(simp only[gL,gA,w.nil,w.nilf,w.fldA0,w.fldAf,w.ldfE,ws.lenG,ws.idxG,ws.ldf,encE,hor]<;>omega)|fail) only[gB,setAll,partL,fldV,reduceIte,Nat.reduceAdd,Nat.reduceMul,w.nil,w.nilf,w.fldA0,w.fldAf,w.ldfE,ws.lenG,ws.idxG,ws.ldf,encE,hor]
    exact hn
theorem a6j {h:Heap}{a:AV}{N v:Int}{es:List E}(ok:NetOk N es)(w:RefV h a N es) :
  Tot tab h3_ [a,I v] h fun r h'=>r=I (rmTo es v es.length:Nat)/\h=h':=
 WP.tot (fun k=>a1h k _ _ h) (WP.ent (a6i ok w es.length 0 (by omega)) fun i=>rfl)
theorem lss_u (a b:Int):binV .lss .scalar (.int .u64 a) (.int .u64 b)=some (.bool (decide (a<b))):=rfl
theorem add_u {a:Int}(h0:0<=a)(h1:a<=100):binV .add .scalar (.int .u64 a) (.int .u64 1)=some (.int .u64 (a+1)):=by
 show some (AV.int .u64 (IntKind.u64.wrap (a+1)))=_
 congr 2
 simp[IntKind.wrap,IntKind.bits,IntKind.signed]
 omega
def cntM (s n:Nat):Nat:=((List.range n).filter fun m=>s.testBit m).length
theorem a9j (s n:Nat):cntM s (n+1)=cntM s n+((s >>> n) &&& 1):=by
 have h1:((s >>> n) &&& 1)=(s.testBit n).toNat:=by rw[Nat.toNat_testBit,Nat.and_one_is_mod,Nat.shiftRight_eq_div_pow]
 rw[h1]
 simp only[cntM,List.range_succ,List.filter_append,List.length_append,List.filter_cons,List.filter_nil]
 cases s.testBit n<;>simp
theorem b0y (s n:Nat):cntM s n<=n:=Nat.le_trans (List.length_filter_le _ _) (by simp)
def linkB (es:List E)(v:Int):Bool:=decide (2<=cntM (rmTo es v es.length) 5)
theorem a9L {s n a b:Nat}(ha:a<n)(hb:b<n)(hab:a≠b)(h1:s.testBit a=true)(h2:s.testBit b=true):2<=cntM s n:=by
 have hn:((List.range n).filter fun m=>s.testBit m).Nodup:=List.nodup_range.filter _
 have m1:a∈(List.range n).filter fun m=>s.testBit m:=List.mem_filter.2 ⟨List.mem_range.2 ha,h1⟩
 have m2:b∈(List.range n).filter fun m=>s.testBit m:=List.mem_filter.2 ⟨List.mem_range.2 hb,h2⟩
 unfold cntM
 generalize (List.range n).filter (fun m=>s.testBit m)=l at *
 match l,m1,m2 with
 |[],m1,_=>cases m1
 |[x],m1,m2=>
  rw[List.mem_singleton] at m1 m2
  exact absurd (m1.trans m2.symm) hab
 |x::y::l,_,_=>simp
theorem a9M {N:Int}{es:List E}(ok:NetOk N es){v:Int}(h:linkB es v=false):OneM es v:=by
 intro e e' he he' k1 k2
 refine Decidable.byContradiction fun hne=>?_
 have r1:0<=(eg es e).md/\(eg es e).md<5:=(ok.edge _ (a4_ (xs:=es) (i:=(e:Int)) (by omega) (by omega))).2.2.2.2
 have r2:0<=(eg es e').md/\(eg es e').md<5:=(ok.edge _ (a4_ (xs:=es) (i:=(e':Int)) (by omega) (by omega))).2.2.2.2
 have b1:=(a4S es v (eg es e).md.toNat es.length).2 ⟨e,by omega,by omega,k1,rfl⟩
 have b2:=(a4S es v (eg es e').md.toNat es.length).2 ⟨e',by omega,by omega,k2,rfl⟩
 have:=a9L (n:=5) (by omega) (by omega) (by omega) b1 b2
 rw[linkB,decide_eq_false_iff_not] at h
 exact h this
section
variable {N:Nat} {es:List E} {h0:Heap} {a n1 sE:AV}
theorem a9N (ok:NetOk N es)(w:RefV h0 a N es){out:AV}{h:Heap}(e:Ext h0 h){v:Int}{Q:AV->Heap->Prop}(hQ:WP (fun p:Nat × Nat=>o6_ p.1 p.2 n1 a out (I v) (I (cntM (rmTo es v es.length) 5:Nat)) h) Q):∀d m:Nat,m+d=5->
  WP (fun p:(Nat × Nat) × Nat=>j4_ p.1.1 p.1.2 p.2 n1 a out (I v) (I (cntM (rmTo es v es.length) m:Nat)) (.int .u64 m) h) Q:=by
 intro d
 induction d with
 |zero=>
  intro m hm
  refine WP.rnd (fun i j=>t4_ i.1 i.2 j n1 a out (I v) _ (.int .u64 m) h) ?_
  obtain rfl:m=5:=by omega
  have hlt:decide (((5:Nat):Int)<5)=false:=rfl
  simp -implicitDefEqProofs (disch:=first|assumption|omega|(simp only[gL,gA]<;>omega)|fail) only[gC,reduceIte,lss_u,hlt]
  exact WP.lv hQ fun i j=>rfl
 |succ d ih=>
  intro m hm
  refine WP.rnd (fun i j=>t4_ i.1 i.2 j n1 a out (I v) _ (.int .u64 m) h) ?_
  have hlt:decide ((m:Int)<5)=true:=decide_eq_true (by omega)
  have hs:=a5H ok v es.length (Nat.le_refl _)
  have hsh:binV .shr .scalar (I (rmTo es v es.length:Nat)) (.int .u64 (m:Int))=some (I ((rmTo es v es.length >>> m:Nat):Int)):=shr_i (k:=.u64) (s:=rmTo es v es.length) (m:=(m:Int)) (by omega) (by omega)
  have hle:rmTo es v es.length >>> m<=rmTo es v es.length:=by rw[Nat.shiftRight_eq_div_pow]; exact Nat.div_le_self _ _
  have hand:binV .and .scalar (I ((rmTo es v es.length >>> m:Nat):Int)) (I 1)=some (I ((rmTo es v es.length >>> m &&& 1:Nat):Int)):=and_i (b:=1) (by omega) (by omega)
  have h1:=b0y (rmTo es v es.length) m
  have h2:rmTo es v es.length >>> m &&& 1<=1:=Nat.and_le_right
  have hi:=ih (m+1) (by omega)
  rw[a9j] at hi
  simp -implicitDefEqProofs (disch:=first|assumption|omega|(simp only[gL,gA]<;>omega)|fail) only[gC,reduceIte,lss_u,hlt]
  refine WP.call (a6j ok (w.ext e)) ?_
  rintro _ _ ⟨rfl,rfl⟩
  have hadd:binV .add .scalar (I (cntM (rmTo es v es.length) m:Nat)) (I (rmTo es v es.length >>> m &&& 1:Nat))=some (I ((cntM (rmTo es v es.length) m+(rmTo es v es.length >>> m &&& 1):Nat):Int)):=by
   rw[add_i (by omega) (by omega)]; simp
  have hau:=add_u (a:=(m:Int)) (by omega) (by omega)
  simp -implicitDefEqProofs (disch:=first|assumption|omega|(simp only[gL,gA]<;>omega)|fail) only[gC,reduceIte,hsh,hand,hadd,hau]
  exact hi
theorem a9O (ok:NetOk N es)(hN:N<=1000)(w:RefV h0 a N es)(wn:At h0 n1 [I N,sE]):∀(d v:Nat) (out:AV) (h:Heap),v+d=N->Ext h0 h->Gr h0.length h.length h 1 out (((List.range v).map fun (v:Nat)=>linkB es v).map encB)->
  WP (fun p:Nat × Nat=>j3_ p.1 p.2 n1 a out (I v) h) fun r h'=>Ext h0 h'/\Gr h0.length h'.length h' 1 r (((List.range N).map fun (v:Nat)=>linkB es v).map encB):=by
 intro d
 induction d with
 |zero=>
  intro v out h hv e g
  refine WP.rnd (fun i j=>t5_ i j n1 a out (I v) h) ?_
  rw[show v=N by omega] at g ⊢
  simp -implicitDefEqProofs (disch:=first|assumption|omega|(simp only[gL,gA]<;>omega)|fail) only[gC,reduceIte,wn.fldA0,wn.ld0E,wn.ldfE]
  exact WP.ret ⟨e,g⟩
 |succ d ih=>
  intro v out h hv e g
  refine WP.rnd (fun i j=>t5_ i j n1 a out (I v) h) ?_
  have ht:(2:Int)<=((cntM (rmTo es v es.length) 5:Nat):Int)↔linkB es v=true:=by rw[linkB,decide_eq_true_eq]; omega
  obtain ⟨s',h',k1,k2,k3⟩:=g.append1 (bytes:=1) (v:=[.bool (linkB es v)]) rfl (by omega) (by omega) (by simp; omega) e.len (Nat.le_refl _)
  rw[a1_] at k1
  have hc:binV .geq .scalar (I ((cntM (rmTo es v es.length) 5:Nat):Int)) (I 2)=some (.bool (linkB es v)):=by
   cases hq:linkB es (v:Int) with
   |true=>exact geq_t (ht.2 hq)
   |false=>exact geq_f (fun q=>by rw[ht.1 q] at hq; cases hq)
  simp -implicitDefEqProofs (disch:=first|assumption|omega|(simp only[gL,gA]<;>omega)|fail) only[gC,reduceIte,wn.fldA0,wn.ld0E,wn.ldfE]
  refine WP.ent (a9N ok w e ?_ 5 0 (by omega)) fun i=>rfl
  refine WP.congr (fun i=>a1g i.1 i.2 ..) ?_
  simp -implicitDefEqProofs (disch:=first|assumption|omega|(simp only[gL,gA]<;>omega)|fail) only[gC,reduceIte,hc,k1]
  refine WP.congr (fun i=>a1f i.1 i.2 ..) ?_
  simp -implicitDefEqProofs (disch:=first|assumption|omega|(simp only[gL,gA]<;>omega)|fail) only[gC,reduceIte]
  refine ih (v+1) s' h' (by omega) (k3.ext e (Nat.le_refl _)) (k2.cong ?_)
  simp[List.range_succ,encB]
theorem a8h {h:Heap}(ok:NetOk N es)(hN:N<=1000)(hs:Sl h 4 sE (es.map encE)) :
  Tot tab b8_ [.agg [I N,sE]] h fun r h'=>Ext h h'/\Gr h.length h'.length h' 1 r (((List.range N).map fun (v:Nat)=>linkB es v).map encB):=by
 refine WP.tot (fun k=>a2a k _ h) ?_
 have hl:=hs.one
 obtain ⟨h1,hh1⟩:∃h1,h1=h++[AObj.cells ⟨[I N,sE],0,0,false⟩]:=⟨_,rfl⟩
 have e1:Ext h h1:=by rw[hh1]; exact Ext.push _ _
 have wn:At h1 (.ptr h.length 0 2 0) [I N,sE]:=At.row (wg:=0) (g:=0) (ro:=false) (by rw[hh1]; simp) (Nat.le_refl _) rfl
 simp -implicitDefEqProofs (disch:=first|assumption|omega|(simp only[gL,gA]<;>omega)|fail) only[gC,reduceIte,hl]
 rw[<-hh1]
 refine WP.call (a4o (hs.ext e1)) ?_
 rintro r h2 ⟨e2,w2⟩
 refine WP.ent ((a9O ok hN w2 (wn.ext e2) N 0 .nils h2 (by omega) (Ext.refl _) (Gr.nil ..)).mono fun r h' ⟨q1,q2⟩=>?_) fun i=>rfl
 have:=(e1.trans e2).len
 exact ⟨(e1.trans e2).trans q1,q2.mono this (Nat.le_refl _)⟩
def degV (es:List E)(v:Int):Nat:=(outL es v).length+(inL es v).length
def ordV (es:List E)(d n:Nat):List Int:=((List.range n).filter fun (v:Nat)=>!linkB es v && decide (degV es v=d)).map fun (v:Nat)=>(v:Int)
def ordTo (es:List E)(N:Nat)(D:Nat):List Int:=(List.range D).flatMap fun d=>ordV es d N
theorem a9k (d n:Nat):ordV es d (n+1)=ordV es d n++if linkB es n=false/\degV es n=d then [(n:Int)] else []:=by
 simp only[ordV,List.range_succ,List.filter_append,List.map_append]
 congr 1
 by_cases q:linkB es n=false/\degV es n=d
 ·rw[if_pos q]; simp[q.1,q.2]
 ·rw[if_neg q]
  cases h1:linkB es (n:Int)<;>simp_all
theorem a3o (D:Nat):ordTo es N (D+1)=ordTo es N D++ordV es D N:=by simp[ordTo,List.range_succ]
theorem a6R (d n:Nat):(ordV es d n).length<=n:=by
 unfold ordV
 rw[List.length_map]
 exact Nat.le_trans (List.length_filter_le _ _) (by simp)
theorem a6c:∀D:Nat,(ordTo es N D).length<=D*N
 |0=>by simp[ordTo]
 |D+1=>by
  rw[a3o,List.length_append,Nat.succ_mul]
  have:=a6c D
  have:=a6R (es:=es) D N
  omega
theorem a9l {D:Nat}{v:Int}(h:v∈ordTo es N D):0<=v/\v<N/\linkB es v=false:=by
 simp only[ordTo,ordV,List.mem_flatMap,List.mem_map,List.mem_filter,List.mem_range,Bool.and_eq_true,Bool.not_eq_true'] at h
 obtain ⟨d,hd,n,⟨h1,h2,_⟩,rfl⟩:=h
 exact ⟨by omega,by omega,h2⟩
theorem a6S {d n:Nat}{v:Int}(h:v∈ordV es d n):degV es v=d:=by
 simp only[ordV,List.mem_map,List.mem_filter,Bool.and_eq_true,decide_eq_true_eq] at h
 obtain ⟨n,⟨_,_,h3⟩,rfl⟩:=h
 exact h3
theorem a4p:∀D:Nat,(ordTo es N D).Nodup/\∀v∈ordTo es N D,degV es v<D
 |0=>by simp[ordTo]
 |D+1=>by
  obtain ⟨i1,i2⟩:=a4p D
  rw[a3o]
  refine ⟨List.nodup_append.2 ⟨i1,?_,fun a ha b hb hab=>?_⟩,fun v hv=>?_⟩
  ·refine List.Pairwise.map _ (fun a b h q=>h (by omega)) (List.nodup_range.filter _)
  ·have h1:=i2 a ha
   have h2:=a6S hb
   subst hab
   omega
  ·rcases List.mem_append.1 hv with h|h
   ·have:=i2 v h; omega
   ·have:=a6S h; omega
theorem a9P (ok:NetOk N es)(hN:N<=1000)(w:RefV h0 a N es)(wn:At h0 n1 [I N,sE]){is:AV}(gi':Sl h0 1 is (((List.range N).map fun (v:Nat)=>linkB es v).map encB)){D:Nat}(hD:D<=1000000){Q:AV->Heap->Prop}(hQ:∀out h',Ext h0 h'->Gr h0.length h'.length h' 1 out ((ordTo es N (D+1)).map encI)->WP (fun p:Nat × Nat=>o5_ p.1 p.2 n1 a is out (I D) h') Q) :
  ∀(d v:Nat) (out:AV) (h:Heap),v+d=N->Ext h0 h->Gr h0.length h.length h 1 out ((ordTo es N D++ordV es D v).map encI)->
  WP (fun p:(Nat × Nat) × Nat=>c4_ p.1.1 p.1.2 p.2 n1 a is out (I D) (I v) h) Q:=by
 intro d
 induction d with
 |zero=>
  intro v out h hv e g
  refine WP.rnd (fun i j=>t2_ i.1 i.2 j n1 a is out (I D) (I v) h) ?_
  rw[show v=N by omega,<-a3o] at g
  rw[show v=N by omega]
  simp -implicitDefEqProofs (disch:=first|assumption|omega|(simp only[gL,gA]<;>omega)|fail) only[gC,reduceIte,wn.fldA0,wn.ld0E,wn.ldfE]
  exact WP.lv (hQ out h e g) fun i j=>rfl
 |succ d ih=>
  intro v out h hv e g
  refine WP.rnd (fun i j=>t2_ i.1 i.2 j n1 a is out (I D) (I v) h) ?_
  have gs:=gi'.ext e
  have hll:((List.range N).map fun (v:Nat)=>linkB es v).length=N:=by simp
  have ldi:=gs.ld0 (H:=h) (i:=(v:Int)) (Ext.refl _) (by omega) (by rw[hll]; omega) (by omega)
  have hgi:gi ((List.range N).map fun (v:Nat)=>linkB es v) (v:Int)=linkB es v:=by
   rw[h8_ (by rw[hll]; omega)]; simp
  rw[hgi] at ldi
  replace ldi:Gm.ld1 h (elP 1 is (v:Int))=some (.bool (linkB es v)):=ldi
  have idi:=gs.idxG (i:=(v:Int)) (by omega) (by rw[hll]; omega)
  have hlen:((ordTo es N D++ordV es D v).length)<=1000000*1000+1000:=by
   rw[List.length_append]
   have h1:=a6c (es:=es) (N:=N) D
   have h2:=a6R (es:=es) D v
   have:D*N<=1000000*1000:=Nat.mul_le_mul hD hN
   omega
  have hov:=a9k (es:=es) D v
  have go1:∀(out':AV) (h':Heap),Ext h0 h'->Gr h0.length h'.length h' 1 out' ((ordTo es N D++ordV es D (v+1)).map encI)->WP (fun p:(Nat × Nat) × Nat=>c4_ p.1.1 p.1.2 p.2 n1 a is out' (I D) (I ((v:Int)+1)) h') Q:=fun out' h' e' g'=>ih (v+1) out' h' (by omega) e' g'
  cases hl:linkB es (v:Int) with
  |true=>
   rw[hl] at ldi
   simp -implicitDefEqProofs (disch:=first|assumption|omega|(simp only[gL,gA]<;>omega)|fail) only[gC,reduceIte,wn.fldA0,wn.ld0E,wn.ldfE,idi,ldi]
   refine go1 out h e (g.cong ?_)
   rw[hov,if_neg (fun q=>by rw[hl] at q; cases q.1),List.append_nil]
  |false=>
   rw[hl] at ldi
   simp -implicitDefEqProofs (disch:=first|assumption|omega|(simp only[gL,gA]<;>omega)|fail) only[gC,reduceIte,wn.fldA0,wn.ld0E,wn.ldfE,idi,ldi]
   refine WP.call (a7e (w.ext e) ok.len) ?_
   rintro r1 h1 ⟨e1,g1⟩
   have hl1:(outL es v).length<=100000:=Nat.le_trans (l3_ ..) ok.len
   have hl2:(inL es v).length<=100000:=Nat.le_trans (l3_ ..) ok.len
   simp -implicitDefEqProofs (disch:=first|assumption|omega|(simp only[gL,gA]<;>omega)|fail) only[gC,reduceIte,g1.sl.lenG]
   refine WP.call (a8g ((w.ext e).ext e1) ok.len) ?_
   rintro r2 h2 ⟨e2,g2⟩
   have e12:=e1.trans e2
   have eh2:=e.trans e12
   have g':=(g.ext e12).mono (Nat.le_refl _) e12.len
   by_cases hd:degV es v=D
   ·have hdI:((outL es v).length:Int)+((inL es v).length:Int)=(D:Int):=by unfold degV at hd; omega
    obtain ⟨s',h',k1,k2,k3⟩:=g'.append1 (bytes:=8) (v:=[I v]) rfl (by omega) (by omega) (by rw[List.length_map]; omega) eh2.len (Nat.le_refl _)
    rw[a1_] at k1
    simp -implicitDefEqProofs (disch:=first|assumption|omega|(simp only[gL,gA]<;>omega)|fail) only[gC,reduceIte,g2.sl.lenG,hdI,k1]
    refine go1 s' h' (k3.ext eh2 (Nat.le_refl _)) (k2.cong ?_)
    rw[hov,if_pos ⟨hl,hd⟩]
    simp[encI]
   ·have hdI:¬((outL es v).length:Int)+((inL es v).length:Int)=(D:Int):=by unfold degV at hd; omega
    simp -implicitDefEqProofs (disch:=first|assumption|omega|(simp only[gL,gA]<;>omega)|fail) only[gC,reduceIte,g2.sl.lenG,hdI]
    refine go1 out h2 eh2 (g'.cong ?_)
    rw[hov,if_neg (fun q=>hd q.2),List.append_nil]
theorem a9Q (ok:NetOk N es)(hN:N<=1000)(w:RefV h0 a N es)(hs:Sl h0 4 sE (es.map encE))(wn:At h0 n1 [I N,sE]){is:AV}(gi':Sl h0 1 is (((List.range N).map fun (v:Nat)=>linkB es v).map encB)) :
  ∀(d D:Nat) (out:AV) (h:Heap),D+d=2*es.length+1->Ext h0 h->Gr h0.length h.length h 1 out ((ordTo es N D).map encI)->
  WP (fun p:Nat × Nat=>j2_ p.1 p.2 n1 a is out (I D) h) fun r h'=>Ext h0 h'/\Gr h0.length h'.length h' 1 r ((ordTo es N (2*es.length+1)).map encI):=by
 have hl:=ok.len
 have w2:IntKind.i64.wrap (2*(es.length:Int))=2*es.length:=b2_ (by omega) (by omega)
 intro d
 induction d with
 |zero=>
  intro D out h hD e g
  refine WP.rnd (fun i j=>t3_ i j n1 a is out (I D) h) ?_
  rw[show D=2*es.length+1 by omega] at g ⊢
  have hs':=hs.ext e
  simp -implicitDefEqProofs (disch:=first|assumption|omega|(simp only[gL,gA]<;>omega)|fail) only[gC,reduceIte,wn.fldA0,wn.ld0E,wn.ldfE,hs'.lenG,w2]
  exact WP.ret ⟨e,g⟩
 |succ d ih=>
  intro D out h hD e g
  refine WP.rnd (fun i j=>t3_ i j n1 a is out (I D) h) ?_
  have hs':=hs.ext e
  simp -implicitDefEqProofs (disch:=first|assumption|omega|(simp only[gL,gA]<;>omega)|fail) only[gC,reduceIte,wn.fldA0,wn.ld0E,wn.ldfE,hs'.lenG,w2]
  refine WP.ent (a9P ok hN w wn gi' (D:=D) (by omega) (fun out' h' e' g'=>?_) N 0 out h (by omega) e (g.cong (by simp[ordV]))) fun i=>rfl
  refine WP.congr (fun i=>a1c i.1 i.2 ..) ?_
  simp -implicitDefEqProofs (disch:=first|assumption|omega|(simp only[gL,gA]<;>omega)|fail) only[gC,reduceIte]
  exact ih (D+1) out' h' (by omega) e' g'
theorem a8i {h:Heap}(ok:NetOk N es)(hN:N<=1000)(hs:Sl h 4 sE (es.map encE)) :
  Tot tab d0_ [.agg [I N,sE]] h fun r h'=>Ext h h'/\Gr h.length h'.length h' 1 r ((ordTo es N (2*es.length+1)).map encI):=by
 refine WP.tot (fun k=>a1Z k _ h) ?_
 have hl:=hs.one
 obtain ⟨h1,hh1⟩:∃h1,h1=h++[AObj.cells ⟨[I N,sE],0,0,false⟩]:=⟨_,rfl⟩
 have e1:Ext h h1:=by rw[hh1]; exact Ext.push _ _
 have wn:At h1 (.ptr h.length 0 2 0) [I N,sE]:=At.row (wg:=0) (g:=0) (ro:=false) (by rw[hh1]; simp) (Nat.le_refl _) rfl
 simp -implicitDefEqProofs (disch:=first|assumption|omega|(simp only[gL,gA]<;>omega)|fail) only[gC,reduceIte,hl]
 rw[<-hh1]
 refine WP.call (a4o (hs.ext e1)) ?_
 rintro r h2 ⟨e2,w2⟩
 have wn2:=wn.ext e2
 have rn1:h1[h.length]?=some (.cells ⟨[I N,sE],0,0,false⟩):=by rw[hh1]; simp
 have rn2:=e2.get rn1
 simp -implicitDefEqProofs (disch:=first|assumption|omega|(simp only[gL,gA]<;>omega)|fail) only[gC,reduceIte,rn2]
 refine WP.call (a8h ok hN ((hs.ext e1).ext e2)) ?_
 rintro is h3 ⟨e3,g3⟩
 have e123:=(e1.trans e2).trans e3
 refine WP.ent ((a9Q ok hN (w2.ext e3) (hs.ext e123) (wn2.ext e3) g3.sl (2*es.length+1) 0 .nils h3 (by omega) (Ext.refl _) (Gr.nil ..)).mono fun r h' ⟨q1,q2⟩=>?_) fun i=>rfl
 exact ⟨e123.trans q1,q2.mono e123.len (Nat.le_refl _)⟩
end
end Go.Gm.AQ
