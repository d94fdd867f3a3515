/- A part of the proof (GmNy, GmNw, GmAQsh, GmAQKN, GmTx, GmAQkn, GmAQL2, GmEntry). -/
import Derived.OpenShut
import Derived.Test.YtldnkafmanalmaaProductKnownP9
set_option linter.unusedVariables false
set_option linter.unusedSimpArgs false
set_option linter.unusedSectionVars false
namespace Go.Gm
def Sv (b:NS):Prop:=∀x∈b.st,x.2.2<32
def SvN (n:Nd):Prop:=∀b,Sv b→Sv (NS.part n b).2
theorem b3L {b:NS} (h:Sv b):Sv b.state.2:=by
 rw[NS.state]; split<;>exact h
theorem b1x:∀(l:List Nd),(∀c∈l,SvN c)→∀b,Sv b→Sv (NS.parts l b).2
 |[],_,b,hb=>by rw[NS.parts]; exact hb
 |n::l,h,b,hb=>by
  rw[NS.parts]
  split
  ·exact hb
  ·exact b1x l (fun c hc=>h c (List.mem_cons_of_mem _ hc)) _ (h n (by simp) b hb)
theorem a7c {n:Nd} (h:SvN n):∀k b,Sv b→Sv (NS.times (NS.part n) k b).2
 |0,b,hb=>by rw[NS.times]; exact hb
 |k+1,b,hb=>by
  rw[NS.times]
  split
  ·exact hb
  ·exact a7c h k _ (h b hb)
theorem a0U {n:Nd} {p:NS→List (Nat × Nat) × NS} (g:n.st<32) (hp:∀b,Sv b→Sv (p b).2) (b:NS) (hb:Sv b):Sv (NS.around n p b).2:=by
 simp only[NS.around]
 split
 ·exact hb
 ·have h1:=b3L (hp _ (b3L hb))
  simp only
  split
  ·exact h1
  ·cases n<;>try exact h1
   rename_i k
   intro x hx
   simp only[NS.lead,NS.step] at hx
   rcases List.mem_append.1 hx with hx|hx
   ·exact h1 x hx
   ·obtain rfl:=List.mem_singleton.1 hx; exact g
theorem st_lt {n:Nd} (g:Gd n):n.st<32:=by
 have:=g.rt
 cases n<;>simp[Nd.st,RtN] at *<;>omega
theorem svn (n:Nd):Gd n→SvN n:=by
 refine Nd.ind (p:=fun n=>Gd n→SvN n) (fun n ih g=>?_) n
 have k:∀c∈n.kids,SvN c:=fun c hc=>ih c hc (g.kid c hc)
 have s:=st_lt g
 cases n with
 |set s=>intro b hb; rw[NS.part]; exact a0U s (fun b hb=>hb) b hb
 |emp=>intro b hb; rw[NS.part]; exact a0U s (fun b hb=>hb) b hb
 |eps=>intro b hb; rw[NS.part]; exact a0U s (fun b hb=>hb) b hb
 |uni l=>intro b hb; rw[NS.part]; exact a0U s (b1x l k) b hb
 |star c=>intro b hb; rw[NS.part]; exact a0U s (a7c (k c (by simp[Nd.kids])) 1) b hb
 |plus c=>intro b hb; rw[NS.part]; exact a0U s (a7c (k c (by simp[Nd.kids])) 1) b hb
 |opt c=>intro b hb; rw[NS.part]; exact a0U s (a7c (k c (by simp[Nd.kids])) 1) b hb
 |rep lo hi c=>intro b hb; rw[NS.part]; exact a0U s (a7c (k c (by simp[Nd.kids])) hi) b hb
 |join l=>
  intro b hb
  rw[NS.part]
  simp only[NS.joined]
  have h1:=b1x l k b hb
  split
  ·exact hb
  ·split
   ·exact h1
   ·exact h1
theorem b8s {n:Nd} (g:Gd n) {nf:NF} (h:nfaF n=some nf):nf.n≤1000∧nf.fr.length≤2000∧nf.st.length≤1000∧∀x∈nf.st,x.2.2<32:=by
 simp only[nfaF] at h
 split at h
 ·cases h
 ·injection h with h
  subst h
  have o:=NSok.new.sz (szn n g NS.new).1
  have:=o.n; have:=o.fr; have:=o.st
  exact ⟨by assumption,by simp only; omega,by simp only; omega,svn n g NS.new fun x hx=>by simp[NS.new] at hx⟩
end Go.Gm
namespace Go.Gm
structure Po (b:NS):Prop where
 st:∀x∈b.st,x.1<b.n∧x.2.1<b.n
 fr:∀x∈b.fr,x.1<b.n∧x.2<b.n
def Pf (n:Nat) (l:List (Nat × Nat)):Prop:=∀f∈l,f.1<n∧f.2<n
theorem Po.mono {b:NS} (p:Po b) {n:Nat} {m:Bool} (h:b.n≤n):Po ⟨n,m,b.st,b.fr⟩:=
 ⟨fun x hx=>by have:=p.st x hx; simp only; omega,fun x hx=>by have:=p.fr x hx; simp only; omega⟩
theorem Pf.mono {a b:Nat} {l:List (Nat × Nat)} (p:Pf a l) (h:a≤b):Pf b l:=fun f hf=>by have:=p f hf; omega
theorem b3M {b:NS} (p:Po b):Po b.state.2∧b.n≤b.state.2.n∧(b.state.2.much=false→b.state.1<b.state.2.n∧b.much=false):=by
 rw[NS.state]
 split
 ·exact ⟨p.mono (Nat.le_refl _),Nat.le_refl _,fun z=>by cases z⟩
 ·exact ⟨p.mono (Nat.le_succ _),Nat.le_succ _,fun z=>⟨Nat.lt_succ_self _,z⟩⟩
def PoP (g:NS→List (Nat × Nat) × NS):Prop:=∀b,Po b→Po (g b).2∧b.n≤(g b).2.n∧((g b).2.much=false→Pf (g b).2.n (g b).1∧b.much=false)
def PoN (n:Nd):Prop:=∀b,Po b→Po (NS.part n b).2∧b.n≤(NS.part n b).2.n∧((NS.part n b).2.much=false→((NS.part n b).1.1<(NS.part n b).2.n∧(NS.part n b).1.2<(NS.part n b).2.n)∧b.much=false)
theorem a9c:PoP (fun b=>([],b)):=fun b p=>⟨p,Nat.le_refl _,fun z=>⟨fun f hf=>by simp at hf,z⟩⟩
theorem b4I {x:(Nat × Nat) × NS} {y:List (Nat × Nat) × NS} {b:NS} (h:x.2.n≤y.2.n) (h1:x.2.much=false→(x.1.1<x.2.n∧x.1.2<x.2.n)∧b.much=false) (h2:y.2.much=false→Pf y.2.n y.1∧x.2.much=false) (z:y.2.much=false):Pf y.2.n (x.1::y.1)∧b.much=false:=by
 obtain ⟨p,q⟩:=h2 z
 obtain ⟨r,s⟩:=h1 q
 refine ⟨fun f hf=>?_,s⟩
 rcases List.mem_cons.1 hf with rfl|hf
 ·omega
 ·exact p f hf
theorem b1y:∀(l:List Nd),(∀c∈l,PoN c)→PoP (NS.parts l)
 |[],_=>fun b p=>by rw[NS.parts]; exact a9c b p
 |n::l,h=>fun b p=>by
  rw[NS.parts]
  split
  ·rename_i q; exact ⟨p,Nat.le_refl _,fun z=>by rw[q] at z; cases z⟩
  ·obtain ⟨a1,a2,a3⟩:=h n (by simp) b p
   obtain ⟨b1,b2,b3⟩:=b1y l (fun c hc=>h c (List.mem_cons_of_mem _ hc)) _ a1
   exact ⟨b1,Nat.le_trans a2 b2,b4I b2 a3 b3⟩
theorem a7d {n:Nd} (h:PoN n):∀k,PoP (NS.times (NS.part n) k)
 |0=>fun b p=>by rw[NS.times]; exact a9c b p
 |k+1=>fun b p=>by
  rw[NS.times]
  split
  ·rename_i q; exact ⟨p,Nat.le_refl _,fun z=>by rw[q] at z; cases z⟩
  ·obtain ⟨a1,a2,a3⟩:=h b p
   obtain ⟨b1,b2,b3⟩:=a7d h k _ a1
   exact ⟨b1,Nat.le_trans a2 b2,b4I b2 a3 b3⟩
theorem hd_lt {N:Nat} {l:List (Nat × Nat)} (p:Pf N l) (h:0<N):(NS.hd l).1<N∧(NS.hd l).2<N:=by
 cases l with
 |nil=>exact ⟨h,h⟩
 |cons f l=>exact p f (by simp)
theorem b4J {N lo e:Nat} (he:e<N):∀(l:List (Nat × Nat)) (i:Nat),Pf N l→Pf N (NS.repE lo e i l)
 |[],i,_=>fun f hf=>by simp[NS.repE] at hf
 |[x],i,p=>fun f hf=>by
  have:=p x (by simp)
  obtain rfl:=List.mem_singleton.1 hf
  exact ⟨this.2,he⟩
 |x::y::l,i,p=>fun f hf=>by
  have hx:=p x (by simp)
  have hy:=p y (by simp)
  simp only[NS.repE] at hf
  rcases List.mem_append.1 hf with hf|hf
  ·split at hf
   ·obtain rfl:=List.mem_singleton.1 hf; exact ⟨hx.2,he⟩
   ·simp at hf
  ·rcases List.mem_cons.1 hf with rfl|hf
   ·exact ⟨hx.2,hy.1⟩
   ·exact b4J he (y::l) (i+1) (fun g hg=>p g (List.mem_cons_of_mem _ hg)) f hf
theorem b3N {N:Nat}:∀(l:List (Nat × Nat)),Pf N l→Pf N (NS.joinE l)
 |[],_=>fun f hf=>by simp[NS.joinE] at hf
 |[x],_=>fun f hf=>by simp[NS.joinE] at hf
 |x::y::l,p=>fun f hf=>by
  have hx:=p x (by simp)
  have hy:=p y (by simp)
  simp only[NS.joinE] at hf
  rcases List.mem_cons.1 hf with rfl|hf
  ·exact ⟨hx.2,hy.1⟩
  ·exact b3N (y::l) (fun g hg=>p g (List.mem_cons_of_mem _ hg)) f hf
theorem b7R {N s e:Nat} (hs:s<N) (he:e<N) (l:List (Nat × Nat)) (p:Pf N l):Pf N (NS.uniE s e l):=fun f hf=>by
 simp only[NS.uniE,List.mem_flatMap] at hf
 obtain ⟨x,hx,hf⟩:=hf
 have:=p x hx
 simp only[List.mem_cons,List.not_mem_nil,or_false] at hf
 rcases hf with rfl|rfl
 ·exact ⟨hs,this.1⟩
 ·exact ⟨this.2,he⟩
theorem Po.frees {b:NS} (p:Po b) {l:List (Nat × Nat)} (h:Pf b.n l):Po (b.frees l):=⟨p.st,fun x hx=>by
 rcases List.mem_append.1 hx with hx|hx
 ·exact p.fr x hx
 ·exact h x hx⟩
theorem b7S {b:NS} (p:Po b) {s e:Nat} (hs:s<b.n) (he:e<b.n) {l:List (Nat × Nat)} (hl:Pf b.n l) (n:Nd):Po (b.lead s e l n):=by
 obtain ⟨h1,h2⟩:=hd_lt hl (by omega)
 have ev:∀{x:List (Nat × Nat)},(∀f∈x,f=(s,(NS.hd l).1)∨f=(s,e)∨f=((NS.hd l).2,(NS.hd l).1)∨f=((NS.hd l).2,e))→Pf b.n x:=fun h f hf=>by
  rcases h f hf with rfl|rfl|rfl|rfl<;>exact ⟨by assumption,by assumption⟩
 cases n with
 |set k=>exact ⟨fun x hx=>by
   rcases List.mem_append.1 hx with hx|hx
   ·exact p.st x hx
   ·obtain rfl:=List.mem_singleton.1 hx; exact ⟨hs,he⟩,p.fr⟩
 |eps=>exact p.frees (ev (by simp))
 |uni _=>exact p.frees (b7R hs he l hl)
 |star _=>exact p.frees (ev (by simp))
 |plus _=>exact p.frees (ev (by simp))
 |opt _=>exact p.frees (ev (by simp))
 |rep lo hi _=>
  refine p.frees fun f hf=>?_
  rcases List.mem_append.1 hf with hf|hf
  ·rcases List.mem_append.1 hf with hf|hf
   ·split at hf
    ·obtain rfl:=List.mem_singleton.1 hf; exact ⟨hs,h1⟩
    ·simp at hf
   ·exact b4J he l 0 hl f hf
  ·split at hf
   ·obtain rfl:=List.mem_singleton.1 hf; exact ⟨hs,he⟩
   ·simp at hf
 |emp=>exact p
 |join _=>exact p
theorem a0V {n:Nd} {g:NS→List (Nat × Nat) × NS} (hp:PoP g) (b:NS) (p:Po b):Po (NS.around n g b).2∧b.n≤(NS.around n g b).2.n∧((NS.around n g b).2.much=false→((NS.around n g b).1.1<(NS.around n g b).2.n∧(NS.around n g b).1.2<(NS.around n g b).2.n)∧b.much=false):=by
 simp only[NS.around]
 split
 ·rename_i q; exact ⟨p,Nat.le_refl _,fun z=>by rw[q] at z; cases z⟩
 ·rename_i hb
  rw[Bool.not_eq_true] at hb
  obtain ⟨a1,a2,a3⟩:=b3M p
  obtain ⟨b1,b2,b3⟩:=hp _ a1
  obtain ⟨c1,c2,c3⟩:=b3M b1
  simp only
  split
  ·rename_i q; exact ⟨c1,by omega,fun z=>by rw[q] at z; cases z⟩
  ·rename_i q
   rw[Bool.not_eq_true] at q
   obtain ⟨d1,d2⟩:=c3 q
   obtain ⟨f1,f2⟩:=b3 d2
   obtain ⟨g1,_⟩:=a3 f2
   have hs:b.state.1<(g b.state.2).2.state.2.n:=by omega
   have ln:((g b.state.2).2.state.2.lead b.state.1 (g b.state.2).2.state.1 (g b.state.2).1 n).n=(g b.state.2).2.state.2.n:=by cases n<;>rfl
   exact ⟨b7S c1 hs d1 (f1.mono c2) n,by rw[ln]; omega,fun _=>⟨⟨by rw[ln]; exact hs,by rw[ln]; exact d1⟩,hb⟩⟩
theorem po_n (n:Nd):Gd n→PoN n:=by
 refine Nd.ind (p:=fun n=>Gd n→PoN n) (fun n ih g=>?_) n
 have k:∀c∈n.kids,PoN c:=fun c hc=>ih c hc (g.kid c hc)
 cases n with
 |set s=>intro b p; rw[NS.part]; exact a0V a9c b p
 |emp=>intro b p; rw[NS.part]; exact a0V a9c b p
 |eps=>intro b p; rw[NS.part]; exact a0V a9c b p
 |uni l=>intro b p; rw[NS.part]; exact a0V (b1y l k) b p
 |star c=>intro b p; rw[NS.part]; exact a0V (a7d (k c (by simp[Nd.kids])) 1) b p
 |plus c=>intro b p; rw[NS.part]; exact a0V (a7d (k c (by simp[Nd.kids])) 1) b p
 |opt c=>intro b p; rw[NS.part]; exact a0V (a7d (k c (by simp[Nd.kids])) 1) b p
 |rep lo hi c=>intro b p; rw[NS.part]; exact a0V (a7d (k c (by simp[Nd.kids])) hi) b p
 |join l=>
  intro b p
  have hl:2≤l.length:=g.rt
  rw[NS.part]
  simp only[NS.joined]
  obtain ⟨b1,b2,b3⟩:=b1y l k b p
  split
  ·rename_i q; exact ⟨p,Nat.le_refl _,fun z=>by rw[q] at z; cases z⟩
  ·split
   ·rename_i q; exact ⟨b1,b2,fun z=>by rw[q] at z; cases z⟩
   ·rename_i hb q
    rw[Bool.not_eq_true] at q hb
    obtain ⟨f1,f2⟩:=b3 q
    refine ⟨b1.frees (b3N _ f1),b2,fun _=>⟨?_,hb⟩⟩
    have hn:(NS.parts l b).1≠[]:=by
     obtain ⟨x,l',rfl⟩:∃x l',l=x::l':=by
      cases l with
      |nil=>simp at hl
      |cons x l'=>exact ⟨x,l',rfl⟩
     rw[NS.parts,if_neg (by rw[hb]; decide)]
     simp
    obtain ⟨x,l',hx⟩:∃x l',(NS.parts l b).1=x::l':=by
     cases hq:(NS.parts l b).1 with
     |nil=>exact absurd hq hn
     |cons x l'=>exact ⟨x,l',rfl⟩
    have h1:=f1 x (by rw[hx]; simp)
    have h2:(NS.parts l b).1.getLastD (0,0)∈(NS.parts l b).1:=by
     rw[List.getLastD_eq_getLast?,List.getLast?_eq_some_getLast hn]
     exact List.getLast_mem hn
    have h3:=f1 _ h2
    exact ⟨by rw[hx]; exact h1.1,h3.2⟩
theorem b8t {n:Nd} (g:Gd n) {nf:NF} (h:nfaF n=some nf):NfOk nf:=by
 simp only[nfaF] at h
 split at h
 ·cases h
 ·rename_i q
  rw[Bool.not_eq_true] at q
  injection h with h
  subst h
  obtain ⟨p1,p2,p3⟩:=po_n n g NS.new ⟨fun x hx=>by simp[NS.new] at hx,fun x hx=>by simp[NS.new] at hx⟩
  obtain ⟨p4,_⟩:=p3 q
  exact ⟨p4.1,p4.2,p1.st,p1.fr⟩
end Go.Gm
namespace Go.Gm.AQ
open Go Go.Gm
def BldQ (o:Option NF) (r:AV) (h':Heap):Prop:=
 match o with
 |none=>r=.tup [.agg [I 0,I 0,I 0,.nils,.nils],I 4]
 |some nf=>∃sS sF:AV,r=.tup [.agg (nfC nf sS sF),I 0]∧NfV h' nf sS sF
theorem b5f {h:Heap} {n:Nd} {c5:List AV} (nv:NV h n c5) (g:Gd n) (bd:Bd n) :
  Tot tab j6_ [.agg c5] h fun r h'=>Ext h h'∧BldQ (nfaF n) r h':=by
 refine WP.tot (fun k=>(a6T k _ h).trans (a7Z tab k _ h)) ?_
 have hok:=nv
 obtain ⟨s5,rfl,h5⟩:∃s,c5=[I n.kind,I n.st,I n.lo,I n.hi,s]∧s.one=true:=by
  cases nv with
  |mk a b=>exact ⟨_,rfl,a.one⟩
 obtain ⟨h1,hh1⟩:∃h1,h1=((h++[AObj.cells ⟨[I n.kind,I n.st,I n.lo,I n.hi,s5],0,0,false⟩])++[AObj.cells ⟨[I 0,I 0,I 0,.nils,.nils],0,0,false⟩])++[AObj.cells ⟨[I 0,I 0,I 0,.nils,.nils,.bool false],0,0,false⟩]:=⟨_,rfl⟩
 have e1:Ext h h1:=by rw[hh1]; ((repeat (first|exact Ext.refl _|assumption|apply Ext.app|apply Ext.mk|(refine Ext.setr ?_ (by (first|omega|(simp only[gL]<;>omega))) _))))
 have l1:h1.length=h.length+3:=by rw[hh1]; simp
 have rt:h1[h.length+1]?=some (.cells ⟨[I 0,I 0,I 0,.nils,.nils],0,0,false⟩):=by rw[hh1]; simp
 have rb:h1[h.length+2]?=some (.cells ⟨[I 0,I 0,I 0,.nils,.nils,.bool false],0,0,false⟩):=by rw[hh1]; simp
 have v:BV (fun o=>o=h.length+2) h1 (h.length+2) NS.new:=⟨.nils,.nils,0,0,rb,Gr.nil ..,Gr.nil ..,rfl,fun z=>absurd rfl z,fun z=>absurd rfl z⟩
 simp -implicitDefEqProofs (maxSteps:=1000000) (disch:=first|assumption|omega|(simp only[gL]<;>omega)|((repeat (first|exact Ext.refl _|assumption|apply Ext.app|apply Ext.mk|(refine Ext.setr ?_ (by (first|omega|(simp only[gL]<;>omega))) _))); done)|(simp only[gL,gA,h5]<;>omega)|fail) only[gB,setAll,partL,fldV,reduceIte,Nat.reduceAdd,Nat.reduceMul,h5]
 rw[←hh1]
 refine WP.call (b4Y n g bd h h1 _ _ _ _ hok e1 (fun o ho=>by omega) v NSok.new) ?_
 rintro r h2 ⟨rfl,v2,f2⟩
 have l2:=f2.len
 have rt2:h2[h.length+1]?=_:=(f2.get (by omega) (by omega)).trans rt
 have bt:=(List.getElem?_eq_some_iff.1 rt2).1
 obtain ⟨sS,sF,oS,oF,r1,gS,gF,w1,w2,w3⟩:=v2
 have e2:Ext h h2:=f2.ext e1 fun o z1 z2=>by omega
 have b2:=(List.getElem?_eq_some_iff.1 r1).1
 have os:=gS.sl.one
 have of':=gF.sl.one
 have key:nfaF n=if (NS.part n NS.new).2.much=true then none else some ⟨(NS.part n NS.new).2.n,(NS.part n NS.new).1.1,(NS.part n NS.new).1.2,(NS.part n NS.new).2.st,(NS.part n NS.new).2.fr⟩:=rfl
 obtain ⟨mu,hmu⟩:∃mu,(NS.part n NS.new).2.much=mu:=⟨_,rfl⟩
 rw[hmu] at r1 key
 obtain ⟨pa,hpa⟩:∃a,(NS.part n NS.new).1.1=a:=⟨_,rfl⟩
 obtain ⟨pb,hpb⟩:∃b,(NS.part n NS.new).1.2=b:=⟨_,rfl⟩
 rw[hpa,hpb] at key ⊢
 cases mu with
 |true=>
  simp -implicitDefEqProofs (maxSteps:=1000000) (disch:=first|assumption|omega|(simp only[gL]<;>omega)|((repeat (first|exact Ext.refl _|assumption|apply Ext.app|apply Ext.mk|(refine Ext.setr ?_ (by (first|omega|(simp only[gL]<;>omega))) _))); done)|(simp only[gL,gA,a5_,r1,rt2]<;>omega)|fail) only[gB,setAll,partL,fldV,reduceIte,Nat.reduceAdd,Nat.reduceMul,a5_,r1,rt2]
  rw[key]
  exact WP.ret ⟨e2.set (by omega) _,rfl⟩
 |false=>
  rw[if_neg (by decide)] at key
  simp -implicitDefEqProofs (maxSteps:=1000000) (disch:=first|assumption|omega|(simp only[gL]<;>omega)|((repeat (first|exact Ext.refl _|assumption|apply Ext.app|apply Ext.mk|(refine Ext.setr ?_ (by (first|omega|(simp only[gL]<;>omega))) _))); done)|(simp only[gL,gA,a5_,r1,rt2,os,of']<;>omega)|fail) only[gB,setAll,partL,fldV,reduceIte,Nat.reduceAdd,Nat.reduceMul,a5_,r1,rt2,os,of']
  have g1:Gr oS (oS+1) (((h2.set (h.length+1+1) (.cells ⟨[I (NS.part n NS.new).2.n,I pa,I 0,sS,sF,.bool false],0,0,false⟩)).set (h.length+1+1) (.cells ⟨[I (NS.part n NS.new).2.n,I pa,I pb,sS,sF,.bool false],0,0,false⟩)).set (h.length+1) (.cells ⟨[I (NS.part n NS.new).2.n,I pa,I pb,sS,sF],0,0,false⟩)) 3 sS ((NS.part n NS.new).2.st.map encS):=by
   refine m2_ (D:=fun o=>o=h.length+1∨o=h.length+2) gS ((((FrS.set1 _ _ _).mono fun q _ z=>?_).trans ((FrS.set1 _ _ _).mono fun q _ z=>?_)).trans ((FrS.set1 _ _ _).mono fun q _ z=>?_)) fun z=>?_
   ·right; omega
   ·right; omega
   ·left; omega
   ·obtain ⟨z1,z2,z3⟩:=w2 z
    rcases z1 with z1|z1
    ·exact absurd z1 z3
    ·omega
  have g2:Gr oF (oF+1) (((h2.set (h.length+1+1) (.cells ⟨[I (NS.part n NS.new).2.n,I pa,I 0,sS,sF,.bool false],0,0,false⟩)).set (h.length+1+1) (.cells ⟨[I (NS.part n NS.new).2.n,I pa,I pb,sS,sF,.bool false],0,0,false⟩)).set (h.length+1) (.cells ⟨[I (NS.part n NS.new).2.n,I pa,I pb,sS,sF],0,0,false⟩)) 2 sF ((NS.part n NS.new).2.fr.map encF):=by
   refine m2_ (D:=fun o=>o=h.length+1∨o=h.length+2) gF ((((FrS.set1 _ _ _).mono fun q _ z=>?_).trans ((FrS.set1 _ _ _).mono fun q _ z=>?_)).trans ((FrS.set1 _ _ _).mono fun q _ z=>?_)) fun z=>?_
   ·right; omega
   ·right; omega
   ·left; omega
   ·obtain ⟨z1,z2,z3,_⟩:=w3 z
    rcases z1 with z1|z1
    ·exact absurd z1 z3
    ·omega
  obtain ⟨n1,n2,n3,n4⟩:=b8s g key
  rw[key]
  exact WP.ret ⟨((e2.set (by omega) _).set (by omega) _).set (by omega) _,sS,sF,rfl,g1.sl,g2.sl,b8t g key,n1,by omega,by omega,fun x hx=>Nat.lt_of_lt_of_le (n4 x hx) (by decide)⟩
theorem b3O {nf:NF} {D:List (List Int)} {acc:List Bool} (h:subF nf 200=some (D,acc)):DOk D acc:=by
 obtain ⟨sets,si⟩:=b4H h
 have ld:=si.ld
 have la:=si.la
 have l0:=(List.getElem?_eq_some_iff.1 si.s0).1
 have hl:sets.length≤200:=by rcases si.sl with z|z<;>omega
 have row:∀s:Int,0≤s→s<D.length→∃t,RowOk nf sets t (gi D s) 0 5:=fun s s0 s1=>by
  have hx:sets[s.toNat]?=some (sets[s.toNat]'(by omega)):=List.getElem?_eq_getElem (by omega)
  obtain ⟨r,r1,r2,_⟩:=si.row s.toNat _ (by omega) hx
  have:gi D s=r:=by
   obtain ⟨q1,q2⟩:=List.getElem?_eq_some_iff.1 r1
   rw[show s=((s.toNat:Nat):Int) by omega,d7_ q1]; exact q2
  exact ⟨_,this▸r2⟩
 refine ⟨by omega,by omega,by omega,fun s s0 s1=>?_,fun s m s0 s1 m0 m1=>?_⟩
 ·obtain ⟨t,r⟩:=row s s0 s1; exact r.1
 ·obtain ⟨t,r⟩:=row s s0 s1
  obtain ⟨j,j1,j2⟩:=r.2 m.toNat (by omega)
  have:gi (gi D s) m=j:=by
   obtain ⟨q1,q2⟩:=List.getElem?_eq_some_iff.1 j1
   rw[show m=((m.toNat:Nat):Int) by omega,d7_ q1]; exact q2
  have:=(List.getElem?_eq_some_iff.1 j2).1
  omega
theorem b6Z {nf:NF} {D:List (List Int)} {acc:List Bool} (h:subF nf 200=some (D,acc)):D.length≤200:=by
 obtain ⟨sets,si⟩:=b4H h
 have ld:=si.ld
 rcases si.sl with z|z<;>omega
def CmpQ (n:Nd) (lo:Nat) (r:AV) (h':Heap):Prop:=
 match nfaF n with
 |none=>r=.tup [.agg [.nils,.nils],I 4]
 |some nf=>match subF nf 200 with
  |none=>r=.tup [.agg [.nils,.nils],I 5]
  |some (D,acc)=>∃v,r=.tup [v,I 0]∧MinQ D acc lo v h'
theorem MinQ.set {D:List (List Int)} {acc:List Bool} {lo lo' o:Nat} {v:AV} {h:Heap} (q:MinQ D acc lo v h) (ho:o<lo) (hl:lo'≤lo) (x:AObj):MinQ D acc lo' v (h.set o x):=by
 obtain ⟨D',acc',sN,sA,q1,q2,q3,q4⟩:=q
 exact ⟨D',acc',sN,sA,q1,(q2.set (.inl ho) x).mono hl (by simp),(q3.set (.inl ho) x).mono hl (by simp),q4⟩
theorem b3P {S:ByteArray} {f:Nat} {n:Nd} (hS:S.size≤200) (hf:f≤900000) (hp:prs S f 0 .un 0=some (n,S.size)) (g:Gd n) (bd:Bd n) (h:Heap) :
  Tot tab h2_ [.str S] h fun r h'=>Ext h h'∧CmpQ n h.length r h':=by
 refine WP.tot (fun k=>(a6a k _ h).trans (a6F tab k _ h)) ?_
 obtain ⟨h1,hh1⟩:∃h1,h1=h++[AObj.cells ⟨[.nils,.nils],0,0,false⟩]:=⟨_,rfl⟩
 have e1:Ext h h1:=by rw[hh1]; exact Ext.push _ _
 have l1:h1.length=h.length+1:=by rw[hh1]; simp
 have rt:h1[h.length]?=some (.cells ⟨[.nils,.nils],0,0,false⟩):=by rw[hh1]; simp
 simp -implicitDefEqProofs (maxSteps:=1000000) (disch:=first|assumption|omega|(simp only[gL]<;>omega)|((repeat (first|exact Ext.refl _|assumption|apply Ext.app|apply Ext.mk|(refine Ext.setr ?_ (by (first|omega|(simp only[gL]<;>omega))) _))); done)|(simp only[gL,gA]<;>omega)|fail) only[gB,setAll,partL,fldV,reduceIte,Nat.reduceAdd,Nat.reduceMul]
 rw[←hh1]
 refine WP.call (b6Y hS hf hp h1) ?_
 rintro r h2 ⟨e2,c5,rfl,nv⟩
 have l2:=e2.len
 have rt2:=e2.get rt
 obtain ⟨s5,rfl,h5⟩:=nv.inv
 obtain ⟨h3,hh3⟩:∃h3,h3=h2++[AObj.cells ⟨[I n.kind,I n.st,I n.lo,I n.hi,s5],0,0,false⟩]:=⟨_,rfl⟩
 have e3:Ext h2 h3:=by rw[hh3]; exact Ext.push _ _
 have l3:h3.length=h2.length+1:=by rw[hh3]; simp
 have rn:h3[h2.length]?=some (.cells ⟨[I n.kind,I n.st,I n.lo,I n.hi,s5],0,0,false⟩):=by rw[hh3]; simp
 have rt3:=e3.get rt2
 have b3:=(List.getElem?_eq_some_iff.1 rt3).1
 simp -implicitDefEqProofs (maxSteps:=1000000) (disch:=first|assumption|omega|(simp only[gL]<;>omega)|((repeat (first|exact Ext.refl _|assumption|apply Ext.app|apply Ext.mk|(refine Ext.setr ?_ (by (first|omega|(simp only[gL]<;>omega))) _))); done)|(simp only[gL,gA,a5_,h5,m4_]<;>omega)|fail) only[gB,setAll,partL,fldV,reduceIte,Nat.reduceAdd,Nat.reduceMul,a5_,h5,m4_]
 rw[←hh3]
 refine WP.call (b5f (nv.nv.keeps (Keeps.ofExt e3)) g bd) ?_
 rintro r h4 ⟨e4,q4⟩
 have rt4:=e4.get rt3
 have l4:=e4.len
 have b4:=(List.getElem?_eq_some_iff.1 rt4).1
 have e04:=((e1.trans e2).trans e3).trans e4
 have e45:∀x,Ext h4 (h4++[x]):=fun x=>Ext.push _ _
 unfold CmpQ
 cases hnf:nfaF n with
 |none=>
  rw[hnf] at q4
  obtain rfl:=q4
  simp -implicitDefEqProofs (maxSteps:=1000000) (disch:=first|assumption|omega|(simp only[gL]<;>omega)|((repeat (first|exact Ext.refl _|assumption|apply Ext.app|apply Ext.mk|(refine Ext.setr ?_ (by (first|omega|(simp only[gL]<;>omega))) _))); done)|(simp only[gL,gA,a5_,rt4]<;>omega)|fail) only[gB,setAll,partL,fldV,reduceIte,Nat.reduceAdd,Nat.reduceMul,a5_,rt4]
  exact WP.ret ⟨(((e04.trans (e45 _)).set (by omega) _).set (by omega) _),rfl⟩
 |some nf=>
  rw[hnf] at q4
  obtain ⟨sS,sF,rfl,v⟩:=q4
  have o1:=v.s.one
  have o2:=v.f.one
  obtain ⟨h5,hh5⟩:∃h5,h5=h4++[AObj.cells ⟨nfC nf sS sF,0,0,false⟩]:=⟨_,rfl⟩
  have e5:Ext h4 h5:=by rw[hh5]; exact Ext.push _ _
  have l5:h5.length=h4.length+1:=by rw[hh5]; simp
  have rt5:=e5.get rt4
  have b5:=(List.getElem?_eq_some_iff.1 rt5).1
  simp -implicitDefEqProofs (maxSteps:=1000000) (disch:=first|assumption|omega|(simp only[gL]<;>omega)|((repeat (first|exact Ext.refl _|assumption|apply Ext.app|apply Ext.mk|(refine Ext.setr ?_ (by (first|omega|(simp only[gL]<;>omega))) _))); done)|(simp only[gL,gA,a5_,o1,o2,m4_]<;>omega)|fail) only[gB,setAll,partL,fldV,reduceIte,Nat.reduceAdd,Nat.reduceMul,a5_,o1,o2,m4_]
  rw[←hh5]
  refine WP.call (b3G (v.ext e5)) ?_
  rintro r h6 ⟨e6,q6⟩
  have rt6:=e6.get rt5
  have l6:=e6.len
  have b6:=(List.getElem?_eq_some_iff.1 rt6).1
  have e06:=(e04.trans e5).trans e6
  cases hsb:subF nf 200 with
  |none=>
   rw[hsb] at q6
   obtain rfl:=q6
   simp -implicitDefEqProofs (maxSteps:=1000000) (disch:=first|assumption|omega|(simp only[gL]<;>omega)|((repeat (first|exact Ext.refl _|assumption|apply Ext.app|apply Ext.mk|(refine Ext.setr ?_ (by (first|omega|(simp only[gL]<;>omega))) _))); done)|(simp only[gL,gA,a5_,rt6]<;>omega)|fail) only[gB,setAll,partL,fldV,reduceIte,Nat.reduceAdd,Nat.reduceMul,a5_,rt6]
   exact WP.ret ⟨((e06.trans (Ext.push _ _)).set (by omega) _).set (by omega) _,rfl⟩
  |some p=>
   obtain ⟨D,acc⟩:=p
   rw[hsb] at q6
   obtain ⟨sN,sA,rfl,gN,gA⟩:=q6
   have o1:=gN.sl.one
   have o2:=gA.sl.one
   obtain ⟨h7,hh7⟩:∃h7,h7=h6++[AObj.cells ⟨[sN,sA],0,0,false⟩]:=⟨_,rfl⟩
   have e7:Ext h6 h7:=by rw[hh7]; exact Ext.push _ _
   have l7:h7.length=h6.length+1:=by rw[hh7]; simp
   have rt7:=e7.get rt6
   have b7:=(List.getElem?_eq_some_iff.1 rt7).1
   simp -implicitDefEqProofs (maxSteps:=1000000) (disch:=first|assumption|omega|(simp only[gL]<;>omega)|((repeat (first|exact Ext.refl _|assumption|apply Ext.app|apply Ext.mk|(refine Ext.setr ?_ (by (first|omega|(simp only[gL]<;>omega))) _))); done)|(simp only[gL,gA,a5_]<;>omega)|fail) only[gB,setAll,partL,fldV,reduceIte,Nat.reduceAdd,Nat.reduceMul,a5_]
   have hw:wrAt 2 (h6++[AObj.cells ⟨[.nils,.nils],0,0,false⟩]) (some (AObj.cells ⟨[.nils,.nils],0,0,false⟩)) h6.length 0 2 0 [sN,sA]=some h7:=by
    refine (a5f (n:=2) (off:=0) (hi:=2) (vs:=[sN,sA]) rfl rfl (by omega) (by simp[o1,o2])).trans ?_
    rw[m4_ rfl,hh7]
    rfl
   have rd7:h7[h6.length]?=some (.cells ⟨[sN,sA],0,0,false⟩):=by rw[hh7]; simp
   simp -implicitDefEqProofs (maxSteps:=1000000) (disch:=first|assumption|omega|(simp only[gL]<;>omega)|((repeat (first|exact Ext.refl _|assumption|apply Ext.app|apply Ext.mk|(refine Ext.setr ?_ (by (first|omega|(simp only[gL]<;>omega))) _))); done)|(simp only[gL,gA,hw,rd7]<;>omega)|fail) only[gB,setAll,partL,fldV,reduceIte,Nat.reduceAdd,Nat.reduceMul,hw,rd7]
   refine WP.call (b2V (b3O hsb) (gN.sl.ext e7) (gA.sl.ext e7)) ?_
   rintro r h8 ⟨e8,q8⟩
   have rt8:=e8.get rt7
   have l8:=e8.len
   have b8:=(List.getElem?_eq_some_iff.1 rt8).1
   obtain ⟨D',acc',sN',sA',rfl,q2⟩:=q8
   have o1:=q2.1.sl.one
   have o2:=q2.2.1.sl.one
   have hw:wrAt 2 h8 (some (AObj.cells ⟨[.nils,.nils],0,0,false⟩)) h.length 0 2 0 [sN',sA']=some (h8.set h.length (.cells ⟨[sN',sA'],0,0,false⟩)):=a5f (n:=2) (off:=0) (hi:=2) (vs:=[sN',sA']) rfl rfl (by omega) (by simp[o1,o2])
   simp -implicitDefEqProofs (maxSteps:=1000000) (disch:=first|assumption|omega|(simp only[gL]<;>omega)|((repeat (first|exact Ext.refl _|assumption|apply Ext.app|apply Ext.mk|(refine Ext.setr ?_ (by (first|omega|(simp only[gL]<;>omega))) _))); done)|(simp only[gL,gA,rt8,hw]<;>omega)|fail) only[gB,setAll,partL,fldV,reduceIte,Nat.reduceAdd,Nat.reduceMul,rt8,hw]
   have mq:MinQ D acc h7.length (.agg [sN',sA']) h8:=⟨D',acc',sN',sA',rfl,q2⟩
   exact WP.ret ⟨((e06.trans e7).trans e8).set (by omega) _,_,rfl,mq.set (by omega) (by omega) _⟩
end Go.Gm.AQ
namespace Go.Gm.AQ
open Go Go.Gm
def kE:List E:=[⟨0,1,0,4⟩]
def kD:List (List Int):=[[0,0,0,0,0]]
theorem kA0:hopA kE 1 (onL kE kD) 0=[(1,0,4)]:=by decide
theorem kA1:hopA kE 1 (onL kE kD) 1=[]:=by decide
theorem kNet:NetOk (2:Nat) kE:=⟨by omega,by omega,by simp[kE],fun e he=>by simp[kE] at he; subst he; simp⟩
theorem kCo:COk kE:=⟨fun e he=>by simp[kE] at he; subst he; simp⟩
theorem kDok:DOk kD [true]:=by
 refine ⟨by simp[kD],by simp[kD],by simp[kD],fun s s0 s1=>?_,fun s m s0 s1 m0 m1=>?_⟩
 ·simp[kD] at s1
  obtain rfl:s=0:=by omega
  rfl
 ·simp[kD] at s1
  obtain rfl:s=0:=by omega
  have:m=0∨m=1∨m=2∨m=3∨m=4:=by omega
  rcases this with rfl|rfl|rfl|rfl|rfl<;>decide
abbrev kA:=hopA kE 1 (onL kE kD)
theorem kHop {x y e:Nat} {w:Int} (hx:x<2) (h:(y,e,w)∈kA x):x=0∧y=1∧e=0∧w=4:=by
 have:x=0∨x=1:=by omega
 rcases this with rfl|rfl
 ·rw[kA,kA0] at h; simp at h; exact ⟨rfl,h.1,h.2.1,h.2.2⟩
 ·rw[kA,kA1] at h; simp at h
theorem kRange {st:Nat→Prop} (hs:∀x,st x→x<2) {x:Nat} {l:List Nat} {c:Int} (h:Wk kA st x l c):x<2∧0≤c:=
 Wk.range (n:=2) (W:=2147483647) (⟨by omega,fun x hx y e w h=>by obtain ⟨rfl,rfl,rfl,rfl⟩:=kHop hx h; omega⟩) hs h
theorem kOne {l:List Nat} {c:Int} (h:Wk kA (fun x=>x=1*1) 1 l c):(l=[]∧c=0)∨4≤c:=by
 cases h with
 |nil _=>exact .inl ⟨rfl,rfl⟩
 |snoc h1 h2=>
  have hr:=kRange (fun x z=>by omega) h1
  obtain ⟨rfl,_,rfl,rfl⟩:=kHop hr.1 h2
  right; omega
theorem kZero {l:List Nat} {c:Int} (h:Wk kA (fun x=>x=0*1) 0 l c):l=[]∧c=0:=by
 cases h with
 |nil _=>exact ⟨rfl,rfl⟩
 |snoc h1 h2=>
  have hr:=kRange (fun x z=>by omega) h1
  obtain ⟨rfl,q,_⟩:=kHop hr.1 h2
  cases q
theorem kFour {l:List Nat} {c:Int} (h:Wk kA (fun x=>x=0*1) 1 l c):l=[0]∧c=4:=by
 cases h with
 |nil h=>simp at h
 |snoc h1 h2=>
  have hr:=kRange (fun x z=>by omega) h1
  obtain ⟨rfl,_,rfl,rfl⟩:=kHop hr.1 h2
  obtain ⟨rfl,rfl⟩:=kZero h1
  exact ⟨rfl,rfl⟩
theorem kBv {c:Nat→Int} {b:Nat} (hc:0≤c b):bv c [true] b 1=c b:=if_pos ⟨rfl,hc,.inl (show (-1:Int)<0 by decide)⟩
theorem kLc1 {c:Nat→Int} (lc:LC 2 kA (fun x=>x=1*1) c):c 1=0:=by
 rcases lc 1 (by omega) with ⟨h1,⟨l,h2⟩,h3⟩|⟨h1,h2⟩
 ·have:=h3 [] 0 (.nil rfl)
  omega
 ·exact absurd (Wk.nil (A:=kA) (st:=fun x=>x=1*1) (x:=1) rfl) (h2 _ _)
theorem kLc4 {c:Nat→Int} (lc:LC 2 kA (fun x=>x=0*1) c):c 1=4:=by
 have hw:Wk kA (fun x=>x=0*1) 1 ([]++[0]) (0+4):=.snoc (.nil rfl) (by rw[kA,kA0]; simp)
 rcases lc 1 (by omega) with ⟨h1,⟨l,h2⟩,h3⟩|⟨h1,h2⟩
 ·exact (kFour h2).2
 ·exact absurd hw (h2 _ _)
section
variable {h:Heap} {sE sD sA:AV}
theorem kRoute1 (hs:Sl h 4 sE (kE.map encE)) (hD:Sl h 5 sD (kD.map encR)) (hA:Sl h 1 sA ([true].map encB)):Tot tab f3_ [.agg [I 2,sE],.agg [sD,sA],I 1,I 1] h fun r h'=>Ext h h'∧∃sl,r=.tup [.agg [I 0,sl],.bool true]∧Sl h' 1 sl []:=by
 refine (b1Y (N:=2) (v:=1) (u:=1) kNet kCo (by simp[kD]) hs kDok hD hA (by omega) (by omega)).mono ?_
 rintro r h' ⟨e,c,lc,rq⟩
 have h1:c 1=0:=kLc1 lc
 have h2:bv c [true] (1*kD.length) kD.length=0:=by
  show bv c [true] 1 1=0
  rw[kBv (by omega),h1]
 refine ⟨e,?_⟩
 rcases rq with ⟨q,_⟩|⟨_,q,l,sl,q1,q2,q3,q4,q5,q6,q7⟩
 ·omega
 ·rw[h2] at q4 q6
  have hq:q=0:=by simp[kD] at q1; omega
  subst hq
  have:l=[]:=by
   rcases kOne (l:=l) (c:=0) q4 with ⟨z,_⟩|z
   ·exact z
   ·omega
  subst this
  exact ⟨sl,q6,q7.sl⟩
theorem kRoute4 (hs:Sl h 4 sE (kE.map encE)) (hD:Sl h 5 sD (kD.map encR)) (hA:Sl h 1 sA ([true].map encB)):Tot tab f3_ [.agg [I 2,sE],.agg [sD,sA],I 0,I 1] h fun r h'=>Ext h h'∧∃sl,r=.tup [.agg [I 4,sl],.bool true]∧Sl h' 1 sl [[I 0]]:=by
 refine (b1Y (N:=2) (v:=0) (u:=1) kNet kCo (by simp[kD]) hs kDok hD hA (by omega) (by omega)).mono ?_
 rintro r h' ⟨e,c,lc,rq⟩
 have h1:c 1=4:=kLc4 lc
 have h2:bv c [true] (1*kD.length) kD.length=4:=by
  show bv c [true] 1 1=4
  rw[kBv (by omega),h1]
 refine ⟨e,?_⟩
 rcases rq with ⟨q,_⟩|⟨_,q,l,sl,q1,q2,q3,q4,q5,q6,q7⟩
 ·omega
 ·rw[h2] at q4 q6
  have hq:q=0:=by simp[kD] at q1; omega
  subst hq
  obtain ⟨rfl,_⟩:=kFour (l:=l) (c:=4) q4
  exact ⟨sl,q6,q7.sl⟩
theorem kCosts (hs:Sl h 4 sE (kE.map encE)) (hD:Sl h 5 sD (kD.map encR)) (hA:Sl h 1 sA ([true].map encB)):Tot tab h8_ [.agg [I 2,sE],.agg [sD,sA],I 0] h fun r h'=>Ext h h'∧∃x,Sl h' 1 r ([x,(4:Int)].map encI):=by
 refine (b1X (N:=2) (v:=0) kNet kCo (by simp[kD]) hs kDok hD hA (by omega)).mono ?_
 rintro r h' ⟨e,c,lc,g⟩
 have h1:c 1=4:=kLc4 lc
 have h2:costL 2 kD.length c [true]=[bv c [true] 0 1,4]:=by
  show [bv c [true] (0*1) 1,bv c [true] (1*1) 1]=_
  rw[show 0*1=0 from rfl,show 1*1=1 from rfl,kBv (b:=1) (by omega),h1]
 rw[h2] at g
 exact ⟨e,_,g.sl⟩
theorem b3Q {h:Heap} {o sz:Nat} {v:List AV} (hr:h[o]?=some (.cells ⟨v,0,0,false⟩)) (hv:v.length=sz):Sl h sz (.sl o 0 1 sz none 0) [v]:=
 .inr ⟨o,0,none,0,_,rfl,hr,Nat.le_refl _,by simp[List.take_of_length_le (Nat.le_of_eq hv)],by simp[hv]⟩
end
theorem b5g (h:Heap):Tot tab j4_ [] h fun r h'=>r=.bool true∧Ext h h':=by
 refine WP.tot (fun k=>(a6P k h).trans (a7U tab k h)) ?_
 simp -implicitDefEqProofs (maxSteps:=1000000) (disch:=first|assumption|omega|(simp only[gL]<;>omega)|((repeat (first|exact Ext.refl _|assumption|apply Ext.app|apply Ext.mk|(refine Ext.setr ?_ (by (first|omega|(simp only[gL]<;>omega))) _))); done)|(simp only[gL,gA]<;>omega)|fail) only[gB,setAll,partL,fldV,reduceIte,Nat.reduceAdd,Nat.reduceMul]
 obtain ⟨h1,hh1⟩:∃h1,h1=(List.set (List.set (h++[AObj.cells ⟨[AV.int .i64 0,AV.int .i64 1,AV.int .i64 0,AV.int .i64 4],0,0,false⟩]++[AObj.cells ⟨[AV.int .i64 0,.nils],0,0,false⟩]) (h.length+1) (AObj.cells ⟨[AV.int .i64 2,AV.sl h.length 0 1 4 none 0],0,0,false⟩) ++
   [AObj.cells ⟨[AV.int .i64 0,AV.int .i64 0,AV.int .i64 0,AV.int .i64 0,AV.int .i64 0],0,0,false⟩]++[AObj.cells ⟨[AV.bool true],0,0,false⟩]++[AObj.cells ⟨[.nils,.nils],0,0,false⟩])
   (h.length+1+1+1+1) (AObj.cells ⟨[AV.sl (h.length+1+1) 0 1 5 none 0,AV.sl (h.length+1+1+1) 0 1 1 none 0],0,0,false⟩)):=⟨_,rfl⟩
 have e1:Ext h h1:=by rw[hh1]; ((repeat (first|exact Ext.refl _|assumption|apply Ext.app|apply Ext.mk|(refine Ext.setr ?_ (by (first|omega|(simp only[gL]<;>omega))) _))))
 have r0:h1[h.length]?=some (.cells ⟨encE ⟨0,1,0,4⟩,0,0,false⟩):=by rw[hh1]; simp -implicitDefEqProofs (maxSteps:=1000000) (disch:=first|assumption|omega|(simp only[gL]<;>omega)|((repeat (first|exact Ext.refl _|assumption|apply Ext.app|apply Ext.mk|(refine Ext.setr ?_ (by (first|omega|(simp only[gL]<;>omega))) _))); done)|(simp only[gL,gA]<;>omega)|fail) only[gB,setAll,partL,fldV,reduceIte,Nat.reduceAdd,Nat.reduceMul]; try rfl
 have r1:h1[h.length+1]?=some (.cells ⟨[I 2,AV.sl h.length 0 1 4 none 0],0,0,false⟩):=by rw[hh1]; simp -implicitDefEqProofs (maxSteps:=1000000) (disch:=first|assumption|omega|(simp only[gL]<;>omega)|((repeat (first|exact Ext.refl _|assumption|apply Ext.app|apply Ext.mk|(refine Ext.setr ?_ (by (first|omega|(simp only[gL]<;>omega))) _))); done)|(simp only[gL,gA]<;>omega)|fail) only[gB,setAll,partL,fldV,reduceIte,Nat.reduceAdd,Nat.reduceMul]; try rfl
 have r2:h1[h.length+1+1]?=some (.cells ⟨encR [0,0,0,0,0],0,0,false⟩):=by rw[hh1]; simp -implicitDefEqProofs (maxSteps:=1000000) (disch:=first|assumption|omega|(simp only[gL]<;>omega)|((repeat (first|exact Ext.refl _|assumption|apply Ext.app|apply Ext.mk|(refine Ext.setr ?_ (by (first|omega|(simp only[gL]<;>omega))) _))); done)|(simp only[gL,gA]<;>omega)|fail) only[gB,setAll,partL,fldV,reduceIte,Nat.reduceAdd,Nat.reduceMul]; try rfl
 have r3:h1[h.length+1+1+1]?=some (.cells ⟨encB true,0,0,false⟩):=by rw[hh1]; simp -implicitDefEqProofs (maxSteps:=1000000) (disch:=first|assumption|omega|(simp only[gL]<;>omega)|((repeat (first|exact Ext.refl _|assumption|apply Ext.app|apply Ext.mk|(refine Ext.setr ?_ (by (first|omega|(simp only[gL]<;>omega))) _))); done)|(simp only[gL,gA]<;>omega)|fail) only[gB,setAll,partL,fldV,reduceIte,Nat.reduceAdd,Nat.reduceMul]; try rfl
 have r4:h1[h.length+1+1+1+1]?=some (.cells ⟨[AV.sl (h.length+1+1) 0 1 5 none 0,AV.sl (h.length+1+1+1) 0 1 1 none 0],0,0,false⟩):=by rw[hh1]; simp -implicitDefEqProofs (maxSteps:=1000000) (disch:=first|assumption|omega|(simp only[gL]<;>omega)|((repeat (first|exact Ext.refl _|assumption|apply Ext.app|apply Ext.mk|(refine Ext.setr ?_ (by (first|omega|(simp only[gL]<;>omega))) _))); done)|(simp only[gL,gA]<;>omega)|fail) only[gB,setAll,partL,fldV,reduceIte,Nat.reduceAdd,Nat.reduceMul]; try rfl
 have hs:Sl h1 4 (.sl h.length 0 1 4 none 0) (kE.map encE):=b3Q r0 rfl
 have hD:Sl h1 5 (.sl (h.length+1+1) 0 1 5 none 0) (kD.map encR):=b3Q r2 rfl
 have hA:Sl h1 1 (.sl (h.length+1+1+1) 0 1 1 none 0) ([true].map encB):=b3Q r3 rfl
 rw[←hh1]
 refine WP.call (kRoute1 hs hD hA) ?_
 rintro _ h2 ⟨e2,s2,rfl,z2⟩
 have r12:=e2.get r1
 have r42:=e2.get r4
 have b1:=(List.getElem?_eq_some_iff.1 r12).1
 have b4:=(List.getElem?_eq_some_iff.1 r42).1
 simp -implicitDefEqProofs (maxSteps:=1000000) (disch:=first|assumption|omega|(simp only[gL]<;>omega)|((repeat (first|exact Ext.refl _|assumption|apply Ext.app|apply Ext.mk|(refine Ext.setr ?_ (by (first|omega|(simp only[gL]<;>omega))) _))); done)|(simp only[gL,gA,c4_,c5_,z2.one,z2.cells,r12,r42]<;>omega)|fail) only[gB,setAll,partL,fldV,reduceIte,Nat.reduceAdd,Nat.reduceMul,c4_,c5_,z2.one,z2.cells,r12,r42]
 obtain ⟨h3,hh3⟩:∃h3,h3=((h2++[AObj.cells ⟨[AV.int .i64 0,.nils],0,0,false⟩]).set h2.length (.cells ⟨[I 0,s2],0,0,false⟩)):=⟨_,rfl⟩
 have e3:Ext h2 h3:=by rw[hh3]; ((repeat (first|exact Ext.refl _|assumption|apply Ext.app|apply Ext.mk|(refine Ext.setr ?_ (by (first|omega|(simp only[gL]<;>omega))) _))))
 have q3:h3[h2.length]?=some (.cells ⟨[I 0,s2],0,0,false⟩):=by rw[hh3]; exact a8_ (by simp)
 have e13:=e2.trans e3
 rw[←hh3]
 refine WP.call (kRoute4 (hs.ext e13) (hD.ext e13) (hA.ext e13)) ?_
 rintro _ h4 ⟨e4,s4,rfl,z4⟩
 have r14:=(e3.trans e4).get r12
 have r44:=(e3.trans e4).get r42
 have q34:=e4.get q3
 have c1:=(List.getElem?_eq_some_iff.1 r14).1
 have c4:=(List.getElem?_eq_some_iff.1 r44).1
 have cq:=(List.getElem?_eq_some_iff.1 q34).1
 simp -implicitDefEqProofs (maxSteps:=1000000) (disch:=first|assumption|omega|(simp only[gL]<;>omega)|((repeat (first|exact Ext.refl _|assumption|apply Ext.app|apply Ext.mk|(refine Ext.setr ?_ (by (first|omega|(simp only[gL]<;>omega))) _))); done)|(simp only[gL,gA,c4_,c5_,z4.one,z4.cells,r14,r44]<;>omega)|fail) only[gB,setAll,partL,fldV,reduceIte,Nat.reduceAdd,Nat.reduceMul,c4_,c5_,z4.one,z4.cells,r14,r44]
 obtain ⟨h5,hh5⟩:∃h5,h5=((h4++[AObj.cells ⟨[AV.int .i64 0,.nils],0,0,false⟩]).set h4.length (.cells ⟨[I 4,s4],0,0,false⟩)):=⟨_,rfl⟩
 have e5:Ext h4 h5:=by rw[hh5]; ((repeat (first|exact Ext.refl _|assumption|apply Ext.app|apply Ext.mk|(refine Ext.setr ?_ (by (first|omega|(simp only[gL]<;>omega))) _))))
 have q5:h5[h4.length]?=some (.cells ⟨[I 4,s4],0,0,false⟩):=by rw[hh5]; exact a8_ (by simp)
 have e15:=(e13.trans e4).trans e5
 rw[←hh5]
 refine WP.call (kCosts (hs.ext e15) (hD.ext e15) (hA.ext e15)) ?_
 rintro r h6 ⟨e6,x,z6⟩
 have q36:=(e5.trans e6).get q34
 have q56:=e6.get q5
 have l2:=z2.len
 have l4:=z4.len
 simp only[List.length_nil,List.length_cons] at l2 l4
 have g1:gi [x,(4:Int)] 1=4:=rfl
 simp -implicitDefEqProofs (maxSteps:=1000000) (disch:=first|assumption|omega|(simp only[gL]<;>omega)|((repeat (first|exact Ext.refl _|assumption|apply Ext.app|apply Ext.mk|(refine Ext.setr ?_ (by (first|omega|(simp only[gL]<;>omega))) _))); done)|(simp only[gL,gA,c4_,c5_,q36,q56,l2,l4,z6.lenG,z6.idxG,z6.ld0,g1,encI]<;>omega)|fail) only[gB,setAll,partL,fldV,reduceIte,Nat.reduceAdd,Nat.reduceMul,c4_,c5_,q36,q56,l2,l4,z6.lenG,z6.idxG,z6.ld0,g1,encI]
 exact WP.ret ⟨rfl,(e1.trans e15).trans e6⟩
end Go.Gm.AQ
namespace Go.Gm
def sgnB (m:Nat):Nat:=[119,98,99,102,116].getD m 0
def setS (s:Nat):List Nat:=((List.range 5).filter fun m=>s.testBit m).map sgnB
def setT (s:Nat):List Nat:=if s=31 then [46] else if (setS s).length=1 then setS s else 91::(setS s++[93])
def isU:Nd→Bool
 |.uni _=>true
 |_=>false
def isJ:Nd→Bool
 |.join _=>true
 |_=>false
def prn (b:Bool) (t:List Nat):List Nat:=if b then 40::(t++[41]) else t
mutual
def txt:Nd→List Nat
 |.set s=>setT s
 |.emp=>[48]
 |.eps=>[95]
 |.join l=>txtj l
 |.uni l=>txtu l
 |.star n=>prn (isU n || isJ n) (txt n)++[42]
 |.plus n=>prn (isU n || isJ n) (txt n)++[43]
 |.opt n=>prn (isU n || isJ n) (txt n)++[63]
 |.rep a b n=>prn (isU n || isJ n) (txt n)++[123,48+a,44,48+b,125]
def txtj:List Nd→List Nat
 |[]=>[]
 |n::l=>prn (isU n || isJ n) (txt n)++txtj l
def txtu:List Nd→List Nat
 |[]=>[]
 |n::l=>prn (isU n) (txt n)++txtr l
def txtr:List Nd→List Nat
 |[]=>[]
 |n::l=>124::(prn (isU n) (txt n)++txtr l)
end
abbrev pcT (n:Nd):List Nat:=prn (isU n || isJ n) (txt n)
abbrev jnT (n:Nd):List Nat:=prn (isU n) (txt n)
def Sd (S:ByteArray):Nat→List Nat→Prop
 |_,[]=>True
 |p,c::t=>bt S p=some c∧Sd S (p+1) t
theorem a2P {S:ByteArray}:∀{a b:List Nat} {p:Nat},Sd S p (a++b)↔Sd S p a∧Sd S (p+a.length) b
 |[],b,p=>by simp[Sd]
 |c::a,b,p=>by
  simp only[List.cons_append,Sd,a2P (a:=a),List.length_cons]
  rw[show p+1+a.length=p+(a.length+1) by omega,and_assoc]
mutual
/-- How deep,how costly to read. -/
def dp:Nd→Nat
 |.join l=>1+dps l
 |.uni l=>1+dps l
 |.star n=>dp n
 |.plus n=>dp n
 |.opt n=>dp n
 |.rep _ _ n=>dp n
 |_=>0
def dps:List Nd→Nat
 |[]=>0
 |n::l=>max (dp n) (dps l)
end
mutual
def cst:Nd→Nat
 |.join l=>20+csts l
 |.uni l=>20+csts l
 |.star n=>10+cst n
 |.plus n=>10+cst n
 |.opt n=>10+cst n
 |.rep _ _ n=>10+cst n
 |_=>50
def csts:List Nd→Nat
 |[]=>0
 |n::l=>20+cst n+csts l
end
def Rd (S:ByteArray) (K d:Nat) (m:PM) (p:Nat) (r:Nd × Nat):Prop:=∀f,K≤f→prs S f d m p=some r
section
variable {S:ByteArray} {K K' d p q:Nat} {n:Nd} {r:Nd × Nat} {l:List Nd}
theorem Rd.le {m:PM} (h:Rd S K d m p r) (hk:K≤K'):Rd S K' d m p r:=fun f hf=>h f (by omega)
theorem h9_ {K f:Nat} (h:K+1≤f):∃g,f=g+1∧K≤g:=⟨f-1,by omega,by omega⟩
theorem rd_pc (h1:Rd S K d .at p (n,q)) (h2:Rd S K' d (.pcl n) q r):Rd S (K+K'+1) d .pc p r:=by
 intro f hf
 obtain ⟨g,rfl,hg⟩:=h9_ hf
 simp only[prs,h1 g (by omega),h2 g (by omega)]
def noSuf (x:Option Nat):Prop:=x≠some 42∧x≠some 43∧x≠some 63∧x≠some 123
theorem b7T (h:noSuf (bt S p)):Rd S 1 d (.pcl n) p (n,p):=by
 intro f hf
 obtain ⟨g,rfl,hg⟩:=h9_ hf
 simp only[prs]
 cases hb:bt S p with
 |none=>rfl
 |some c=>
  rw[hb] at h
  obtain ⟨h1,h2,h3,h4⟩:=h
  simp only
  rw[if_neg (fun z=>h1 (by rw[z])),if_neg (fun z=>h2 (by rw[z])),if_neg (fun z=>h3 (by rw[z])),if_neg (fun z=>h4 (by rw[z]))]
theorem b7U (hb:bt S p=some 42) (h:Rd S K d (.pcl (.star n)) (p+1) r):Rd S (K+1) d (.pcl n) p r:=by
 intro f hf
 obtain ⟨g,rfl,hg⟩:=h9_ hf
 simp only[prs,hb]
 exact h g hg
theorem b7V (hb:bt S p=some 43) (h:Rd S K d (.pcl (.plus n)) (p+1) r):Rd S (K+1) d (.pcl n) p r:=by
 intro f hf
 obtain ⟨g,rfl,hg⟩:=h9_ hf
 simp only[prs,hb]
 exact h g hg
theorem b8u (hb:bt S p=some 63) (h:Rd S K d (.pcl (.opt n)) (p+1) r):Rd S (K+1) d (.pcl n) p r:=by
 intro f hf
 obtain ⟨g,rfl,hg⟩:=h9_ hf
 simp only[prs,hb]
 exact h g hg
theorem b8v {a b:Nat} (hab:a≤b) (hb9:b≤9) (hs:Sd S p [123,48+a,44,48+b,125]) (h:Rd S K d (.pcl (.rep a b n)) (p+5) r):Rd S (K+1) d (.pcl n) p r:=by
 obtain ⟨h0,h1,h2,h3,h4,_⟩:=hs
 intro f hf
 obtain ⟨g,rfl,hg⟩:=h9_ hf
 have ht:tms S (p+1)=some (a,b,p+5):=by
  rw[show p+1+1+1=p+1+2 by omega] at h3
  rw[show p+1+1+1+1=p+1+3 by omega] at h4
  simp only[tms,h1,h3,dig]
  rw[if_pos (by omega),if_pos (by omega)]
  simp only
  rw[if_pos ⟨h2,h4,by omega⟩]
  simp only[Nat.add_sub_cancel_left,Option.some.injEq,Prod.mk.injEq]
 simp only[prs,h0,ht]
 exact h g hg
theorem rd_jn (h1:Rd S K d .pc p (n,q)) (h2:Rd S K' d (.jnl [n]) q r):Rd S (K+K'+1) d .jn p r:=by
 intro f hf
 obtain ⟨g,rfl,hg⟩:=h9_ hf
 simp only[prs,h1 g (by omega),h2 g (by omega)]
def endJ (x:Option Nat):Prop:=x=none∨x=some 124∨x=some 41
def endU (x:Option Nat):Prop:=x=none∨x=some 41
theorem endU.j {x:Option Nat} (h:endU x):endJ x:=h.imp id .inr
theorem endJ.suf {x:Option Nat} (h:endJ x):noSuf x:=by
 rcases h with rfl|rfl|rfl<;>simp[noSuf]
theorem b4K (h:endJ (bt S p)):Rd S 1 d (.jnl l) p (finJ l,p):=by
 intro f hf
 obtain ⟨g,rfl,hg⟩:=h9_ hf
 rcases h with h|h|h<;>simp[prs,h]
theorem b8w {c:Nat} (hb:bt S p=some c) (h1:c≠124) (h2:c≠41) (h3:Rd S K d .pc p (n,q)) (h4:Rd S K' d (.jnl (l++[n])) q r):Rd S (K+K'+1) d (.jnl l) p r:=by
 intro f hf
 obtain ⟨g,rfl,hg⟩:=h9_ hf
 simp only[prs,hb,if_neg h1,if_neg h2,h3 g (by omega),h4 g (by omega)]
theorem rd_un (h1:Rd S K d .jn p (n,q)) (h2:Rd S K' d (.unl [n]) q r):Rd S (K+K'+1) d .un p r:=by
 intro f hf
 obtain ⟨g,rfl,hg⟩:=h9_ hf
 simp only[prs,h1 g (by omega),h2 g (by omega)]
theorem b2t (h:endU (bt S p)):Rd S 1 d (.unl l) p (finU l,p):=by
 intro f hf
 obtain ⟨g,rfl,hg⟩:=h9_ hf
 rcases h with h|h<;>simp[prs,h]
theorem b8x (hb:bt S p=some 124) (h3:Rd S K d .jn (p+1) (n,q)) (h4:Rd S K' d (.unl (l++[n])) q r):Rd S (K+K'+1) d (.unl l) p r:=by
 intro f hf
 obtain ⟨g,rfl,hg⟩:=h9_ hf
 simp only[prs,hb,h3 g (by omega),h4 g (by omega)]
 exact if_pos trivial
theorem b8y (hb:bt S p=some 40) (hd:d<30) (h:Rd S K (d+1) .un (p+1) (n,q)) (h2:bt S q=some 41):Rd S (K+1) d .at p (n,q+1):=by
 intro f hf
 obtain ⟨g,rfl,hg⟩:=h9_ hf
 simp only[prs,hb]
 simp only[if_true,if_neg (show ¬30≤d by omega),h g hg,h2]
end
theorem b6n {S:ByteArray}:∀(ms:List Nat) (p s f:Nat),(∀m∈ms,m<5)→Sd S p (ms.map sgnB++[93])→0<s∨ms≠[]→ms.length<f→clsF S f p s=some (ms.foldl (fun s m=>s ||| 2 ^ m) s,p+ms.length+1)
 |[],p,s,f,_,h,h0,hf=>by
  obtain ⟨g,rfl,_⟩:=h9_ hf
  have hs:0<s:=h0.resolve_right (by simp)
  simp only[List.map_nil,List.nil_append,Sd] at h
  simp[clsF,h.1,hs]
 |m::ms,p,s,f,hm,h,h0,hf=>by
  obtain ⟨g,rfl,hg⟩:=h9_ hf
  simp only[List.map_cons,List.cons_append,Sd] at h
  have h5:=hm m (by simp)
  have hmd:md (sgnB m)=some m∧sgnB m≠93:=by
   have:m=0∨m=1∨m=2∨m=3∨m=4:=by omega
   rcases this with rfl|rfl|rfl|rfl|rfl<;>decide
  have hpos:0<s ||| 2 ^ m:=by
   have h1:2 ^ m≤s ||| 2 ^ m:=Nat.right_le_or
   have:0<2 ^ m:=Nat.two_pow_pos m
   omega
  rw[clsF,h.1]
  simp only
  rw[if_neg (fun z=>hmd.2 z.1),hmd.1]
  simp only
  rw[b6n ms (p+1) (s ||| 2 ^ m) g (fun x hx=>hm x (List.mem_cons_of_mem _ hx)) h.2 (.inl hpos) (by simp only[List.length_cons] at hf; omega)]
  simp only[List.foldl_cons,List.length_cons,Option.some.injEq,Prod.mk.injEq,true_and]
  omega
def msOf (s:Nat):List Nat:=(List.range 5).filter fun m=>s.testBit m
theorem b7W:∀s:Fin 32,(msOf s.val).foldl (fun (s m:Nat)=>s ||| 2 ^ m) 0=s.val:=by decide
theorem ms_ne:∀s:Fin 32,0<s.val→msOf s≠[]:=by decide
theorem b8z:∀s:Fin 32,(setS s).length=1→∃m,m<5∧setS s=[sgnB m]∧s.val=2 ^ m:=by
 intro s
 have:∀s:Fin 32,(setS s).length=1→∃m:Fin 5,setS s=[sgnB m]∧s.val=2 ^ m.val:=by decide
 intro h
 obtain ⟨m,h1,h2⟩:=this s h
 exact ⟨m,m.2,h1,h2⟩
theorem ms_lt (s:Nat):∀m∈msOf s,m<5:=fun m h=>by
 have:=(List.mem_filter.1 h).1
 simpa using this
theorem b8A (s:Nat):(msOf s).length≤5:=by
 have:=List.length_filter_le (fun m=>s.testBit m) (List.range 5)
 simpa [msOf] using this
theorem b8B {S:ByteArray} {d p s:Nat} (h1:1≤s) (h2:s≤31) (h:Sd S p (setT s)):Rd S 20 d .at p (.set s,p+(setT s).length):=by
 intro f hf
 obtain ⟨g,rfl,hg⟩:=h9_ hf
 rw[setT] at h ⊢
 by_cases q:s=31
 ·rw[if_pos q] at h ⊢
  obtain ⟨hb,_⟩:=h
  simp[prs,hb,md,q]
 ·rw[if_neg q] at h ⊢
  by_cases q2:(setS s).length=1
  ·rw[if_pos q2] at h ⊢
   obtain ⟨m,m5,e1,e2⟩:=b8z ⟨s,by omega⟩ q2
   simp only at e1 e2
   rw[e1] at h ⊢
   obtain ⟨hb,_⟩:=h
   have hmd:md (sgnB m)=some m∧sgnB m≠40:=by
    have:m=0∨m=1∨m=2∨m=3∨m=4:=by omega
    rcases this with rfl|rfl|rfl|rfl|rfl<;>decide
   simp only[prs,hb]
   rw[if_neg hmd.2,hmd.1,e2]
   rfl
  ·rw[if_neg q2] at h ⊢
   obtain ⟨hb,h⟩:=h
   have hc:=b6n (msOf s) (p+1) 0 g (ms_lt s) h (.inr (ms_ne ⟨s,by omega⟩ (by simp only; omega))) (by have:=b8A s; omega)
   rw[show (msOf s).foldl (fun s m=>s ||| 2 ^ m) 0=s from b7W ⟨s,by omega⟩] at hc
   simp only[prs,hb]
   rw[if_neg (by omega),show md 91=none from rfl]
   simp only
   rw[if_neg (by omega),if_neg (by omega),if_neg (by omega),if_pos trivial,hc]
   simp only[List.length_cons,List.length_append,List.length_nil,Option.some.injEq,Prod.mk.injEq,true_and]
   have:(setS s).length=(msOf s).length:=by simp[setS,msOf]
   omega
def okH (c:Nat):Prop:=c≠42∧c≠43∧c≠63∧c≠123∧c≠124∧c≠41
theorem b7X:∀s:Fin 32,∃c t,setT s.val=c::t∧okH c:=by
 have:∀s:Fin 32,(setT s.val).headD 42≠42∧(setT s.val).headD 42≠43∧(setT s.val).headD 42≠63∧(setT s.val).headD 42≠123∧(setT s.val).headD 42≠124∧(setT s.val).headD 42≠41:=by decide
 intro s
 have h:=this s
 cases hs:setT s.val with
 |nil=>rw[hs] at h; exact absurd rfl h.1
 |cons c t=>rw[hs] at h; exact ⟨c,t,rfl,h⟩
theorem a4G {b:Bool} {t:List Nat} (h:∃c u,t=c::u∧okH c):∃c u,prn b t=c::u∧okH c:=by
 cases b with
 |false=>exact h
 |true=>exact ⟨40,t++[41],rfl,by simp[okH]⟩
theorem a9d {t u:List Nat} (h:∃c v,t=c::v∧okH c):∃c v,t++u=c::v∧okH c:=by
 obtain ⟨c,v,rfl,h⟩:=h
 exact ⟨c,v++u,rfl,h⟩
theorem b3R (n:Nd):Gd n→∃c t,txt n=c::t∧okH c:=by
 refine Nd.ind (p:=fun n=>Gd n→∃c t,txt n=c::t∧okH c) (fun n ih g=>?_) n
 cases n with
 |set s=>exact b7X ⟨s,by have:=g.rt.2; omega⟩
 |emp=>exact ⟨48,[],by rw[txt],by simp[okH]⟩
 |eps=>exact ⟨95,[],by rw[txt],by simp[okH]⟩
 |star c=>rw[txt]; exact a9d (a4G (ih c (by simp[Nd.kids]) (g.kid c (by simp[Nd.kids]))))
 |plus c=>rw[txt]; exact a9d (a4G (ih c (by simp[Nd.kids]) (g.kid c (by simp[Nd.kids]))))
 |opt c=>rw[txt]; exact a9d (a4G (ih c (by simp[Nd.kids]) (g.kid c (by simp[Nd.kids]))))
 |rep a b c=>rw[txt]; exact a9d (a4G (ih c (by simp[Nd.kids]) (g.kid c (by simp[Nd.kids]))))
 |join l=>
  cases l with
  |nil=>have:2≤0:=g.rt; omega
  |cons c l=>rw[txt,txtj]; exact a9d (a4G (ih c (by simp[Nd.kids]) (g.kid c (by simp[Nd.kids]))))
 |uni l=>
  cases l with
  |nil=>have:2≤0:=g.rt; omega
  |cons c l=>rw[txt,txtu]; exact a9d (a4G (ih c (by simp[Nd.kids]) (g.kid c (by simp[Nd.kids]))))
section
variable {S:ByteArray}
def PS (S:ByteArray) (n:Nd):Prop:=∀(d p K:Nat) (r:Nd × Nat),d+dp n≤30→Sd S p (pcT n)→Rd S K d (.pcl n) (p+(pcT n).length) r→Rd S (K+cst n+10) d .pc p r
def JS (S:ByteArray) (n:Nd):Prop:=∀(d p:Nat),d+dp n≤30→Sd S p (jnT n)→endJ (bt S (p+(jnT n).length))→Rd S (cst n+15) d .jn p (n,p+(jnT n).length)
def US (S:ByteArray) (n:Nd):Prop:=∀(d p:Nat),d+dp n≤(if (isU n || isJ n)=true then 31 else 30)→Sd S p (txt n)→endU (bt S (p+(txt n).length))→Rd S (cst n+if (isU n || isJ n)=true then 0 else 18) d .un p (n,p+(txt n).length)
theorem PS.one {n:Nd} (h:PS S n) {d p:Nat} (hd:d+dp n≤30) (hs:Sd S p (pcT n)) (he:noSuf (bt S (p+(pcT n).length))):Rd S (cst n+11) d .pc p (n,p+(pcT n).length):=
 (h d p 1 _ hd hs (b7T he)).le (by omega)
theorem PS.js {n:Nd} (h:PS S n) (hj:isJ n=false):JS S n:=by
 intro d p hd hs he
 have e:jnT n=pcT n:=by simp[jnT,pcT,hj]
 rw[e] at hs he ⊢
 exact (rd_jn (h.one hd hs he.suf) (b4K he)).le (by omega)
theorem JS.us {n:Nd} (h:JS S n) (hu:isU n=false) {d p:Nat} (hd:d+dp n≤30) (hs:Sd S p (txt n)) (he:endU (bt S (p+(txt n).length))):Rd S (cst n+17) d .un p (n,p+(txt n).length):=by
 have e:jnT n=txt n:=by simp[jnT,prn,hu]
 have h1:=h d p hd (by rw[e]; exact hs) (by rw[e]; exact he.j)
 rw[e] at h1
 exact (rd_un h1 (b2t he)).le (by omega)
theorem b8C {n:Nd} (hb:(isU n || isJ n)=true):1≤dp n:=by
 cases n<;>simp[isU,isJ] at hb<;>rw[dp]<;>omega
theorem US.ps {n:Nd} (h:US S n) (hb:(isU n || isJ n)=true):PS S n:=by
 intro d p K r hd hs hr
 have h1:=b8C hb
 have e:pcT n=40::(txt n++[41]):=by simp only[pcT,prn,hb,if_true]
 rw[e] at hs hr
 obtain ⟨h0,hs⟩:=hs
 obtain ⟨h1,h2⟩:=a2P.1 hs
 obtain ⟨h2,_⟩:=h2
 have hu:=h (d+1) (p+1) (by rw[if_pos hb]; omega) h1 (.inr h2)
 rw[if_pos hb] at hu
 have h3:=b8y h0 (by omega) hu h2
 simp only[List.length_cons,List.length_append,List.length_nil] at hr
 rw[show p+((txt n).length+(0+1)+1)=p+1+(txt n).length+1 by omega] at hr
 exact (rd_pc h3 hr).le (by omega)
theorem b6o:∀(l:List Nd),(∀c∈l,PS S c∧Gd c)→∀(acc:List Nd) (d p:Nat),d+dps l≤30→Sd S p (txtj l)→endJ (bt S (p+(txtj l).length))→Rd S (csts l+1) d (.jnl acc) p (finJ (acc++l),p+(txtj l).length)
 |[],_,acc,d,p,_,_,he=>by
  rw[txtj] at he ⊢
  rw[List.append_nil]
  exact b4K he
 |n::l,hl,acc,d,p,hd,hs,he=>by
  rw[dps] at hd
  rw[txtj] at hs he ⊢
  obtain ⟨h1,h2⟩:=a2P.1 hs
  obtain ⟨hp,hg⟩:=hl n (by simp)
  obtain ⟨c,t,e1,e2⟩:=a4G (b:=isU n || isJ n) (b3R n hg)
  rw[List.length_append,←Nat.add_assoc] at he ⊢
  have hb:bt S p=some c:=by rw[e1] at h1; exact h1.1
  have hn:noSuf (bt S (p+(prn (isU n || isJ n) (txt n)).length)):=by
   cases l with
   |nil=>
    rw[txtj] at he
    exact he.suf
   |cons m l=>
    obtain ⟨c',t',e3,e4⟩:=a4G (b:=isU m || isJ m) (b3R m (hl m (by simp)).2)
    rw[txtj,e3] at h2
    rw[h2.1]
    simp only[okH] at e4
    simp[noSuf,e4]
  have h3:=hp.one (d:=d) (by omega) h1 hn
  have ec:csts (n::l)=20+cst n+csts l:=by simp[csts]
  have h4:=b6o l (fun c hc=>hl c (List.mem_cons_of_mem _ hc)) (acc++[n]) d (p+(prn (isU n || isJ n) (txt n)).length) (by omega) h2 he
  rw[List.append_assoc,List.singleton_append] at h4
  exact (b8w hb e2.2.2.2.2.1 e2.2.2.2.2.2 h3 h4).le (by omega)
theorem b6p:∀(l:List Nd),(∀c∈l,JS S c)→∀(acc:List Nd) (d p:Nat),d+dps l≤30→Sd S p (txtr l)→endU (bt S (p+(txtr l).length))→Rd S (csts l+1) d (.unl acc) p (finU (acc++l),p+(txtr l).length)
 |[],_,acc,d,p,_,_,he=>by
  rw[txtr] at he ⊢
  rw[List.append_nil]
  exact b2t he
 |n::l,hl,acc,d,p,hd,hs,he=>by
  rw[dps] at hd
  rw[txtr] at hs he ⊢
  obtain ⟨h0,hs⟩:=hs
  obtain ⟨h1,h2⟩:=a2P.1 hs
  rw[List.length_cons,List.length_append] at he ⊢
  rw[show p+((prn (isU n) (txt n)).length+(txtr l).length+1)=p+1+(prn (isU n) (txt n)).length+(txtr l).length by omega] at he ⊢
  have hn:endJ (bt S (p+1+(prn (isU n) (txt n)).length)):=by
   cases l with
   |nil=>rw[txtr] at he; exact he.j
   |cons m l=>rw[txtr] at h2; exact .inr (.inl h2.1)
  have h3:=hl n (by simp) d (p+1) (by omega) h1 hn
  have ec:csts (n::l)=20+cst n+csts l:=by simp[csts]
  have h4:=b6p l (fun c hc=>hl c (List.mem_cons_of_mem _ hc)) (acc++[n]) d (p+1+(prn (isU n) (txt n)).length) (by omega) h2 he
  rw[List.append_assoc,List.singleton_append] at h4
  exact (b8x h0 h3 h4).le (by omega)
theorem read (n:Nd):Gd n→PS S n∧JS S n∧US S n:=by
 refine Nd.ind (p:=fun n=>Gd n→PS S n∧JS S n∧US S n) (fun n ih g=>?_) n
 have plain:(isU n || isJ n)=false→PS S n→PS S n∧JS S n∧US S n:=fun hb h=>by
  have hu:isU n=false:=by cases hq:isU n<;>simp_all
  have hj:isJ n=false:=by cases hq:isJ n<;>simp_all
  have h2:=h.js hj
  refine ⟨h,h2,fun d p hd hs he=>?_⟩
  rw[hb] at hd ⊢
  exact (h2.us hu (by simpa using hd) hs he).le (by simp)
 cases n with
 |set s=>
  have e:pcT (.set s)=setT s:=by simp[pcT,prn,isU,isJ,txt]
  refine plain rfl fun d p K r hd hs hr=>?_
  rw[e] at hs hr
  have ec:cst (.set s)=50:=by simp[cst]
  exact (rd_pc (b8B g.rt.1 g.rt.2 hs) hr).le (by omega)
 |emp=>
  have e:pcT .emp=[48]:=by simp[pcT,prn,isU,isJ,txt]
  refine plain rfl fun d p K r hd hs hr=>?_
  rw[e] at hs hr
  have ec:cst .emp=50:=by simp[cst]
  refine (rd_pc (K:=1) (n:=.emp) (q:=p+1) (fun f hf=>?_) hr).le (by omega)
  obtain ⟨g,rfl,hg⟩:=h9_ hf
  simp[prs,hs.1,md]
 |eps=>
  have e:pcT .eps=[95]:=by simp[pcT,prn,isU,isJ,txt]
  refine plain rfl fun d p K r hd hs hr=>?_
  rw[e] at hs hr
  have ec:cst .eps=50:=by simp[cst]
  refine (rd_pc (K:=1) (n:=.eps) (q:=p+1) (fun f hf=>?_) hr).le (by omega)
  obtain ⟨g,rfl,hg⟩:=h9_ hf
  simp[prs,hs.1,md]
 |star c=>
  have e:pcT (.star c)=pcT c++[42]:=by simp[pcT,prn,isU,isJ,txt]
  refine plain rfl fun d p K r hd hs hr=>?_
  rw[e] at hs hr
  obtain ⟨h1,h2⟩:=a2P.1 hs
  rw[List.length_append,←Nat.add_assoc] at hr
  rw[dp] at hd
  have ec:cst (.star c)=10+cst c:=by simp[cst]
  exact ((ih c (by simp[Nd.kids]) (g.kid c (by simp[Nd.kids]))).1 d p (K+1) r hd h1 (b7U h2.1 hr)).le (by omega)
 |plus c=>
  have e:pcT (.plus c)=pcT c++[43]:=by simp[pcT,prn,isU,isJ,txt]
  refine plain rfl fun d p K r hd hs hr=>?_
  rw[e] at hs hr
  obtain ⟨h1,h2⟩:=a2P.1 hs
  rw[List.length_append,←Nat.add_assoc] at hr
  rw[dp] at hd
  have ec:cst (.plus c)=10+cst c:=by simp[cst]
  exact ((ih c (by simp[Nd.kids]) (g.kid c (by simp[Nd.kids]))).1 d p (K+1) r hd h1 (b7V h2.1 hr)).le (by omega)
 |opt c=>
  have e:pcT (.opt c)=pcT c++[63]:=by simp[pcT,prn,isU,isJ,txt]
  refine plain rfl fun d p K r hd hs hr=>?_
  rw[e] at hs hr
  obtain ⟨h1,h2⟩:=a2P.1 hs
  rw[List.length_append,←Nat.add_assoc] at hr
  rw[dp] at hd
  have ec:cst (.opt c)=10+cst c:=by simp[cst]
  exact ((ih c (by simp[Nd.kids]) (g.kid c (by simp[Nd.kids]))).1 d p (K+1) r hd h1 (b8u h2.1 hr)).le (by omega)
 |rep a b c=>
  have e:pcT (.rep a b c)=pcT c++[123,48+a,44,48+b,125]:=by simp[pcT,prn,isU,isJ,txt]
  refine plain rfl fun d p K r hd hs hr=>?_
  rw[e] at hs hr
  obtain ⟨h1,h2⟩:=a2P.1 hs
  rw[List.length_append,←Nat.add_assoc] at hr
  rw[dp] at hd
  have ec:cst (.rep a b c)=10+cst c:=by simp[cst]
  exact ((ih c (by simp[Nd.kids]) (g.kid c (by simp[Nd.kids]))).1 d p (K+1) r hd h1 (b8v g.rt.1 g.rt.2 h2 hr)).le (by omega)
 |join l=>
  have hk:∀c∈l,PS S c∧Gd c:=fun c hc=>⟨(ih c hc (g.kid c hc)).1,g.kid c hc⟩
  have hl:2≤l.length:=g.rt
  have J:∀d p,d+dps l≤30→Sd S p (txtj l)→endJ (bt S (p+(txtj l).length))→Rd S (csts l) d .jn p (.join l,p+(txtj l).length):=by
   intro d p hd hs he
   match l,hl,hk,hd,hs,he with
   |a::b::r,_,hk,hd,hs,he=>
    rw[dps] at hd
    rw[txtj] at hs he ⊢
    obtain ⟨h1,h2⟩:=a2P.1 hs
    rw[List.length_append,←Nat.add_assoc] at he ⊢
    obtain ⟨c',t',e3,e4⟩:=a4G (b:=isU b || isJ b) (b3R b (hk b (by simp)).2)
    have hn:noSuf (bt S (p+(prn (isU a || isJ a) (txt a)).length)):=by
     rw[txtj,e3] at h2
     rw[h2.1]
     simp only[okH] at e4
     simp[noSuf,e4]
    have h3:=(hk a (by simp)).1.one (d:=d) (by omega) h1 hn
    have h4:=b6o (b::r) (fun c hc=>hk c (List.mem_cons_of_mem _ hc)) [a] d (p+(prn (isU a || isJ a) (txt a)).length) (by omega) h2 he
    have ec:csts (a::b::r)=20+cst a+csts (b::r):=by simp[csts]
    exact (rd_jn h3 h4).le (by omega)
  have hU:US S (.join l):=by
   intro d p hd hs he
   have hd':d+dp (.join l)≤31:=by simpa [isU,isJ] using hd
   rw[dp] at hd'
   rw[txt] at hs he ⊢
   have ec:cst (.join l)=20+csts l:=by simp[cst]
   rw[if_pos (show (isU (.join l) || isJ (.join l))=true from rfl)]
   exact (rd_un (J d p (by omega) hs he.j) (b2t he)).le (by omega)
  refine ⟨hU.ps rfl,fun d p hd hs he=>?_,hU⟩
  have e:jnT (.join l)=txtj l:=by simp[jnT,prn,isU,txt]
  rw[e] at hs he ⊢
  rw[dp] at hd
  have ec:cst (.join l)=20+csts l:=by simp[cst]
  exact (J d p (by omega) hs he).le (by omega)
 |uni l=>
  have hk:∀c∈l,JS S c:=fun c hc=>(ih c hc (g.kid c hc)).2.1
  have hl:2≤l.length:=g.rt
  have hU:US S (.uni l):=by
   intro d p hd hs he
   have hd':d+dp (.uni l)≤31:=by simpa [isU,isJ] using hd
   rw[dp] at hd'
   rw[txt] at hs he ⊢
   rw[if_pos (show (isU (.uni l) || isJ (.uni l))=true from rfl)]
   have ec:cst (.uni l)=20+csts l:=by simp[cst]
   rw[ec]
   clear ec
   match l,hl,hk,hd',hs,he with
   |a::b::r,_,hk,hd,hs,he=>
    rw[dps] at hd
    rw[txtu] at hs he ⊢
    obtain ⟨h1,h2⟩:=a2P.1 hs
    rw[List.length_append,←Nat.add_assoc] at he ⊢
    have hn:endJ (bt S (p+(prn (isU a) (txt a)).length)):=by
     rw[txtr] at h2; exact .inr (.inl h2.1)
    have h3:=hk a (by simp) d p (by omega) h1 hn
    have h4:=b6p (b::r) (fun c hc=>hk c (List.mem_cons_of_mem _ hc)) [a] d (p+(prn (isU a) (txt a)).length) (by omega) h2 he
    have ec:csts (a::b::r)=20+cst a+csts (b::r):=by simp[csts]
    exact (rd_un h3 h4).le (by omega)
  exact ⟨hU.ps rfl,(hU.ps rfl).js rfl,hU⟩
end
def ofL (l:List Nat):ByteArray:=⟨(l.map UInt8.ofNat).toArray⟩
theorem a9H (l:List Nat):(ofL l).size=l.length:=by
 show (l.map UInt8.ofNat).toArray.size=_
 simp
theorem b6q {l:List Nat} (h:∀c∈l,c<256) (p:Nat):bt (ofL l) p=l[p]?:=by
 simp only[bt]
 by_cases hp:p<l.length
 ·have hp':p<(ofL l).size:=by rw[a9H]; exact hp
  rw[getElem?_pos (ofL l) p hp',List.getElem?_eq_getElem hp]
  have:(ofL l)[p]=UInt8.ofNat l[p]:=by
   show (l.map UInt8.ofNat).toArray[p]'(by simpa using hp)=_
   simp
  rw[this]
  simp only[Option.map_some,Option.some.injEq]
  have:=h l[p] (List.getElem_mem hp)
  simp[UInt8.toNat_ofNat',Nat.mod_eq_of_lt this]
 ·rw[List.getElem?_eq_none (by omega),getElem?_neg (ofL l) p (by rw[a9H]; exact hp)]
  rfl
theorem b6r {l:List Nat} (h:∀c∈l,c<256):∀(t:List Nat) (p:Nat),l.drop p=t→Sd (ofL l) p t
 |[],p,_=>trivial
 |c::t,p,e=>by
  have h1:l[p]?=some c:=by
   have:=congrArg List.head? e
   simpa [List.head?_drop] using this
  refine ⟨by rw[b6q h]; exact h1,b6r h t (p+1) ?_⟩
  rw[←List.drop_drop,e]; rfl
theorem b2a {b:Bool} {t:List Nat} (h:∀c∈t,c<256):∀c∈prn b t,c<256:=by
 cases b with
 |false=>exact h
 |true=>
  intro c hc
  simp only[prn,if_true,List.mem_cons,List.mem_append,List.not_mem_nil,or_false] at hc
  rcases hc with rfl|hc|rfl
  ·omega
  ·exact h c hc
  ·omega
theorem b7Y:∀s:Fin 32,∀c∈setT s,c<256:=by decide
theorem b4L:∀(l:List Nd),(∀c∈l,∀b∈txt c,b<256)→∀b∈txtj l,b<256
 |[],_,b,hb=>by rw[txtj] at hb; cases hb
 |n::l,h,b,hb=>by
  rw[txtj,List.mem_append] at hb
  rcases hb with hb|hb
  ·exact b2a (h n (by simp)) b hb
  ·exact b4L l (fun c hc=>h c (List.mem_cons_of_mem _ hc)) b hb
theorem b4M:∀(l:List Nd),(∀c∈l,∀b∈txt c,b<256)→∀b∈txtr l,b<256
 |[],_,b,hb=>by rw[txtr] at hb; cases hb
 |n::l,h,b,hb=>by
  rw[txtr,List.mem_cons,List.mem_append] at hb
  rcases hb with rfl|hb|hb
  ·omega
  ·exact b2a (h n (by simp)) b hb
  ·exact b4M l (fun c hc=>h c (List.mem_cons_of_mem _ hc)) b hb
theorem b8D (n:Nd):Gd n→∀b∈txt n,b<256:=by
 refine Nd.ind (p:=fun n=>Gd n→∀b∈txt n,b<256) (fun n ih g b hb=>?_) n
 have one:∀{c:Nd} {t:List Nat},c∈n.kids→(∀x∈t,x<256)→b∈prn (isU c || isJ c) (txt c)++t→b<256:=fun {c t} hc ht hb=>by
  rcases List.mem_append.1 hb with hb|hb
  ·exact b2a (ih c hc (g.kid c hc)) b hb
  ·exact ht b hb
 cases n with
 |set s=>rw[txt] at hb; exact b7Y ⟨s,by have:=g.rt.2; omega⟩ b hb
 |emp=>rw[txt] at hb; simp at hb; omega
 |eps=>rw[txt] at hb; simp at hb; omega
 |star c=>rw[txt] at hb; exact one (by simp[Nd.kids]) (by simp) hb
 |plus c=>rw[txt] at hb; exact one (by simp[Nd.kids]) (by simp) hb
 |opt c=>rw[txt] at hb; exact one (by simp[Nd.kids]) (by simp) hb
 |rep x y c=>
  rw[txt] at hb
  obtain ⟨h1,h2⟩:x≤y∧y≤9:=g.rt
  refine one (by simp[Nd.kids]) (fun z hz=>?_) hb
  simp only[List.mem_cons,List.not_mem_nil,or_false] at hz
  omega
 |join l=>rw[txt] at hb; exact b4L l (fun c hc=>ih c hc (g.kid c hc)) b hb
 |uni l=>
  rw[txt] at hb
  cases l with
  |nil=>rw[txtu] at hb; cases hb
  |cons a l=>
   rw[txtu,List.mem_append] at hb
   rcases hb with hb|hb
   ·exact b2a (ih a (by simp[Nd.kids]) (g.kid a (by simp[Nd.kids]))) b hb
   ·exact b4M l (fun c hc=>ih c (by simp[Nd.kids,hc]) (g.kid c (by simp[Nd.kids,hc]))) b hb
theorem b7Z {n:Nd} (g:Gd n) (hd:dp n≤30):prs (ofL (txt n)) (cst n+18) 0 .un 0=some (n,(ofL (txt n)).size):=by
 have h1:=b8D n g
 have h2:=(read (S:=ofL (txt n)) n g).2.2 0 0 (by split<;>omega) (b6r h1 _ 0 rfl) (.inl (by rw[b6q h1,Nat.zero_add]; simp)) (cst n+18) (by split<;>omega)
 rw[h2,a9H,Nat.zero_add]
end Go.Gm
namespace Go.Gm.AQ
open Go Go.Gm
def potB (es:List E) (D:List (List Int)) (S:Nat) (p:List Int):Bool:=
 es.all fun e=>(List.range S).all fun s=>decide (gi p ((e.fr.toNat*S+s:Nat):Int)<0) || decide (0≤gi p ((e.to.toNat*S+(nx D (s:Int) e.md).toNat:Nat):Int)∧gi p ((e.to.toNat*S+(nx D (s:Int) e.md).toNat:Nat):Int)≤gi p ((e.fr.toNat*S+s:Nat):Int)+e.co)
def walkB (es:List E):Int→List Nat→Bool
 |_,[]=>true
 |v,e::l=>decide (e<es.length) && (decide ((eg es e).fr=v) && walkB es (eg es e).to l)
def lwB (es:List E) (D:List (List Int)) (acc:List Bool) (v u:Nat) (p:List Int) (b:Int) (l:List Nat):Bool:=
 potB es D D.length p && (decide (gi p ((v*D.length:Nat):Int)=0) && ((List.range D.length).all (fun s=>!gi acc (s:Int) || (decide (gi p ((u*D.length+s:Nat):Int)<0) || decide (0≤b∧b≤gi p ((u*D.length+s:Nat):Int)))) &&
  (decide (b = -1) || (decide (0≤b) && (walkB es v l && (decide (atV es v l=u) && (gi acc (goS D 0 (wdOf es l)) && decide (atC es l=b))))))))
theorem b3S {es:List E}:∀(l:List Nat) (v:Int),walkB es v l=true→OkW es v l
 |[],v,_=>fun i e h=>by simp at h
 |a::l,v,h=>fun i e hi=>by
  simp only[walkB,Bool.and_eq_true,decide_eq_true_eq] at h
  cases i with
  |zero=>simp at hi; subst hi; exact ⟨h.1,h.2.1⟩
  |succ i=>
   have:=b3S l _ h.2.2 i e (by simpa using hi)
   exact ⟨this.1,by rw[this.2,List.take_succ_cons]; rfl⟩
theorem b7a {es:List E} {v:Int} {l:List Nat} {e:Nat} (h:OkW es v (l++[e])):OkW es v l∧e<es.length∧(eg es e).fr=atV es v l:=by
 refine ⟨fun i a hi=>?_,?_⟩
 ·have hl:=(List.getElem?_eq_some_iff.1 hi).1
  have:=h i a (by rw[List.getElem?_append_left hl]; exact hi)
  rw[List.take_append_of_le_length (by omega)] at this
  exact this
 ·have:=h l.length e (by simp)
  rw[List.take_append_of_le_length (Nat.le_refl _),List.take_length] at this
  exact this
theorem b8E {N:Nat} {es:List E} {D:List (List Int)} {acc:List Bool} {v u:Nat} {p:List Int} {b:Int} {l:List Nat} (no:NetOk N es) (ok:DOk D acc) (h:lwB es D acc v u p b l=true) :
  LW es v u (fun w=>gi acc (goS D 0 w)=true) b:=by
 simp only[lwB,Bool.and_eq_true,decide_eq_true_eq] at h
 obtain ⟨h1,h2,h3,h4⟩:=h
 have pot:∀(k:Nat) (l:List Nat),l.length=k→OkW es v l→0≤atV es v l∧∃s:Nat,s<D.length∧goS D 0 (wdOf es l)=s∧0≤gi p (((atV es v l).toNat*D.length+s:Nat):Int)∧gi p (((atV es v l).toNat*D.length+s:Nat):Int)≤atC es l:=by
  intro k
  induction k with
  |zero=>
   intro l hl _
   obtain rfl:l=[]:=List.length_eq_zero_iff.1 hl
   refine ⟨by simp[atV],0,ok.l0,rfl,?_⟩
   have:gi p (((atV es (v:Int) []).toNat*D.length+0:Nat):Int)=0:=h2
   rw[this]; exact ⟨Int.le_refl _,Int.le_refl _⟩
  |succ k ih=>
   intro l hl ho
   obtain ⟨l',e,rfl⟩:∃l' e,l=l'++[e]:=⟨l.dropLast,l.getLast (by intro z; simp[z] at hl),(List.dropLast_concat_getLast _).symm⟩
   obtain ⟨k1,k2,k3⟩:=b7a ho
   obtain ⟨i0,s,i1,i2,i3,i4⟩:=ih l' (by simpa using hl) k1
   have hem:eg es e∈es:=j3_ (by omega) (by omega)
   have ne:=no.edge _ hem
   have nt:0≤nx D (s:Int) (eg es e).md∧nx D (s:Int) (eg es e).md<D.length:=ok.to s (eg es e).md (by omega) (by omega) (by omega) (by omega)
   rw[potB,List.all_eq_true] at h1
   have h5:=h1 _ hem
   rw[List.all_eq_true] at h5
   have h6:=h5 s (by simpa using i1)
   rw[k3] at h6
   simp only[Bool.or_eq_true,decide_eq_true_eq] at h6
   rw[a9G,b1t]
   refine ⟨by omega,(nx D s (eg es e).md).toNat,by omega,?_,?_⟩
   ·rw[show wdOf es (l'++[e])=wdOf es l'++[(eg es e).md] by simp[wdOf],goS,List.foldl_append]
    show nx D (goS D 0 (wdOf es l')) (eg es e).md=_
    rw[i2]; omega
   ·rcases h6 with h6|h6
    ·omega
    ·exact ⟨h6.1,by omega⟩
 refine ⟨?_,fun l ho hv ha=>?_⟩
 ·simp only[Bool.or_eq_true,Bool.and_eq_true,decide_eq_true_eq] at h4
  rcases h4 with h4|⟨q1,q2,q3,q4,q5⟩
  ·exact .inl h4
  ·exact .inr ⟨q1,l,b3S l _ q2,q3,q4,q5⟩
 ·obtain ⟨i0,s,i1,i2,i3,i4⟩:=pot l.length l rfl ho
  rw[List.all_eq_true] at h3
  have h5:=h3 s (by simpa using i1)
  rw[i2] at ha
  rw[hv] at i3 i4
  simp only[Bool.or_eq_true,decide_eq_true_eq,ha,Bool.not_true,Bool.false_eq_true,false_or] at h5
  have e:((u:Int)).toNat=u:=by omega
  rw[e] at i3 i4
  rcases h5 with h5|h5
  ·omega
  ·exact ⟨h5.1,by omega⟩
mutual
def gdB:Nd→Bool
 |.set s=>decide (1≤s∧s≤31)
 |.emp=>true
 |.eps=>true
 |.join l=>decide (2≤l.length∧l.length≤1000) && gdBs l
 |.uni l=>decide (2≤l.length∧l.length≤1000) && gdBs l
 |.star n=>gdB n
 |.plus n=>gdB n
 |.opt n=>gdB n
 |.rep a b n=>decide (a≤b∧b≤9) && gdB n
def gdBs:List Nd→Bool
 |[]=>true
 |n::l=>gdB n && gdBs l
end
theorem b1z:∀{l:List Nd},gdBs l=true→∀c∈l,gdB c=true
 |[],_,c,hc=>by simp at hc
 |n::l,h,c,hc=>by
  simp only[gdBs,Bool.and_eq_true] at h
  rcases List.mem_cons.1 hc with rfl|hc
  ·exact h.1
  ·exact b1z h.2 c hc
theorem b8F {n:Nd} (g:Gd n) (h:n.kids.length≤1000) (hk:∀c∈n.kids,Bd c):Bd n:=.mk (Nat.lt_trans (st_lt g) (by decide)) h hk
theorem b8G (n:Nd):gdB n=true→Gd n∧Bd n:=by
 refine Nd.ind (p:=fun n=>gdB n=true→Gd n∧Bd n) (fun n ih h=>?_) n
 have key:RtN n→n.kids.length≤1000→(∀c∈n.kids,gdB c=true)→Gd n∧Bd n:=fun h1 h2 h3=>by
  have g:Gd n:=.mk h1 fun c hc=>(ih c hc (h3 c hc)).1
  exact ⟨g,b8F g h2 fun c hc=>(ih c hc (h3 c hc)).2⟩
 cases n with
 |set s=>simp only[gdB,decide_eq_true_eq] at h; exact key h (by simp[Nd.kids]) (by simp[Nd.kids])
 |emp=>exact key trivial (by simp[Nd.kids]) (by simp[Nd.kids])
 |eps=>exact key trivial (by simp[Nd.kids]) (by simp[Nd.kids])
 |join l=>simp only[gdB,Bool.and_eq_true,decide_eq_true_eq] at h; exact key h.1.1 h.1.2 (b1z h.2)
 |uni l=>simp only[gdB,Bool.and_eq_true,decide_eq_true_eq] at h; exact key h.1.1 h.1.2 (b1z h.2)
 |star c=>rw[gdB] at h; exact key trivial (by simp[Nd.kids]) (by simpa [Nd.kids] using h)
 |plus c=>rw[gdB] at h; exact key trivial (by simp[Nd.kids]) (by simpa [Nd.kids] using h)
 |opt c=>rw[gdB] at h; exact key trivial (by simp[Nd.kids]) (by simpa [Nd.kids] using h)
 |rep a b c=>simp only[gdB,Bool.and_eq_true,decide_eq_true_eq] at h; exact key h.1 (by simp[Nd.kids]) (by simpa [Nd.kids] using h.2)
def pE:List E:=[⟨0,1,0,1⟩,⟨1,2,0,1⟩,⟨0,2,2,5⟩,⟨2,3,4,2⟩,⟨2,0,1,0⟩,⟨3,3,3,7⟩]
structure Kn where
 n:Nd
 u:Nat
 b:Int
 l:List Nat
 p:List Int
 deriving Inhabited
def kns:List Kn:=[
 ⟨.star (.set 31),3,4,[0,1,3],[0,2,-1,1,-1,2,-1,4]⟩,
 ⟨.star (.set 1),2,2,[0,1],[0,-1,2,-1,1,3,-1,2,4,-1,-1,4]⟩,
 ⟨.star (.set 4),2,5,[2],[0,2,-1,-1,1,-1,-1,2,5,-1,4,-1]⟩,
 ⟨.join [.set 4,.opt (.set 2),.set 16],3,7,[2,3],[0,2,-1,5,-1,-1,1,-1,-1,-1,-1,2,5,-1,-1,-1,4,-1,-1,7]⟩,
 ⟨.join [.set 1,.set 1],2,2,[0,1],[0,-1,2,-1,-1,1,3,-1,-1,-1,4,2,-1,-1,4,-1]⟩,
 ⟨.join [.star (.set 1),.set 16],3,4,[0,1,3],[0,-1,2,-1,-1,1,3,-1,-1,2,4,-1,-1,-1,6,4]⟩,
 ⟨.join [.set 4,.set 16],3,7,[2,3],[0,2,-1,-1,-1,1,-1,-1,-1,2,5,-1,-1,4,-1,7]⟩,
 ⟨.join [.star (.set 31),.set 8],3,11,[0,1,3,5],[0,2,-1,-1,1,-1,-1,2,-1,-1,4,11]⟩,
 ⟨.join [.set 1,.set 1,.set 2,.set 1,.set 1,.set 16],3,6,[0,1,4,0,1,3],[0,-1,4,-1,2,-1,-1,-1,-1,1,5,-1,-1,3,-1,-1,-1,-1,5,2,-1,-1,4,-1,-1,-1,4,-1,-1,-1,-1,6]⟩,
 ⟨.eps,0,0,[],[0,2,-1,1,-1,2,-1,4]⟩,
 ⟨.emp,0,-1,[],[0,2,-1,1,-1,2,-1,4]⟩,
 ⟨.plus (.join [.set 1,.set 1,.set 2]),0,2,[0,1,4],[0,-1,5,-1,2,-1,1,6,-1,-1,-1,-1,5,2,-1,-1,-1,4,-1,-1]⟩,
 ⟨.join [.rep 4 4 (.set 1),.set 16],3,-1,[],[0,-1,2,-1,-1,-1,-1,-1,1,3,-1,-1,-1,-1,-1,-1,4,2,-1,-1,-1,-1,-1,4,-1,-1,-1,-1]⟩,
 ⟨.join [.rep 6 6 (.set 31),.star (.set 16)],3,6,[0,1,4,0,1,3],[0,-1,5,2,10,7,4,6,-1,-1,1,-1,6,3,11,8,5,-1,-1,5,2,10,7,4,12,6,-1,-1,-1,7,4,11,9,6,8,14]⟩]
def knB (x:Kn):Bool:=
 gdB x.n && (decide ((txt x.n).length≤200∧cst x.n+18≤900000∧dp x.n≤30) && (decide (x.u<4) &&
  match nfaF x.n with
  |none=>false
  |some nf=>match subF nf 200 with
   |none=>false
   |some (D,acc)=>lwB pE D acc 0 x.u x.p x.b x.l))
theorem b8H:kns.all knB=true:=by decide +kernel
theorem pNet:NetOk (4:Nat) pE:=⟨by decide,by decide,by decide,by decide⟩
theorem pCo:COk pE:=⟨by decide⟩
theorem b8I {x:Kn} (h:x∈kns):Gd x.n∧Bd x.n∧((txt x.n).length≤200∧cst x.n+18≤900000∧dp x.n≤30)∧x.u<4∧∃nf D acc,nfaF x.n=some nf∧subF nf 200=some (D,acc)∧LW pE (0:Nat) x.u (fun w=>gi acc (goS D 0 w)=true) x.b:=by
 have h1:=List.all_eq_true.1 b8H x h
 simp only[knB,Bool.and_eq_true,decide_eq_true_eq] at h1
 obtain ⟨h2,h3,h4,h5⟩:=h1
 obtain ⟨g,bd⟩:=b8G _ h2
 cases hn:nfaF x.n with
 |none=>rw[hn] at h5; cases h5
 |some nf=>
  rw[hn] at h5
  cases hs:subF nf 200 with
  |none=>simp only[hs] at h5; cases h5
  |some p=>
   obtain ⟨D,acc⟩:=p
   simp only[hs] at h5
   exact ⟨g,bd,h3,h4,nf,D,acc,rfl,hs,b8E pNet (b3O hs) h5⟩
end Go.Gm.AQ
namespace Go.Gm.AQ
open Go Go.Gm
theorem b0H {h:Heap} {o sz:Nat} {css:List (List AV)} {n:Nat} (hr:h[o]?=some (.cells ⟨css.flatten,0,0,false⟩)) (hn:n=css.length) (hl:∀c∈css,c.length=sz):Sl h sz (.sl o 0 n sz none 0) css:=by
 subst hn
 exact .inr ⟨o,0,none,0,_,rfl,hr,Nat.le_refl _,by rw[List.drop_zero,List.take_of_length_le (by rw[Go.Gm.flatten_len hl]; omega)],hl⟩
def kS:List AV:=kns.map fun x=>.str (ofL (txt x.n))
def kU:List Int:=kns.map fun x=>(x.u:Int)
def kB:List Int:=kns.map fun x=>x.b
theorem kS_eq:[.str ⟨#[46,42]⟩,.str ⟨#[119,42]⟩,.str ⟨#[99,42]⟩,.str ⟨#[99,98,63,116]⟩,.str ⟨#[119,119]⟩,.str ⟨#[119,42,116]⟩,.str ⟨#[99,116]⟩,.str ⟨#[46,42,102]⟩,.str ⟨#[119,119,98,119,119,116]⟩,.str ⟨#[95]⟩,.str ⟨#[48]⟩,.str ⟨#[40,119,119,98,41,43]⟩,.str ⟨#[119,123,52,44,52,125,116]⟩,.str ⟨#[46,123,54,44,54,125,116,42]⟩]=(kS.map enc1).flatten:=by kernel_rfl
theorem kU_eq:([.int .i64 3,.int .i64 2,.int .i64 2,.int .i64 3,.int .i64 2,.int .i64 3,.int .i64 3,.int .i64 3,.int .i64 3,.int .i64 0,.int .i64 0,.int .i64 0,.int .i64 3,.int .i64 3]:List AV)=(kU.map encI).flatten:=by kernel_rfl
theorem kB_eq:([.int .i64 4,.int .i64 2,.int .i64 5,.int .i64 7,.int .i64 2,.int .i64 4,.int .i64 7,.int .i64 11,.int .i64 6,.int .i64 0,.int .i64 (-1),.int .i64 2,.int .i64 (-1),.int .i64 6]:List AV)=(kB.map encI).flatten:=by kernel_rfl
theorem pE_eq:([.int .i64 0,.int .i64 1,.int .i64 0,.int .i64 1,.int .i64 1,.int .i64 2,.int .i64 0,.int .i64 1,.int .i64 0,.int .i64 2,.int .i64 2,.int .i64 5,.int .i64 2,.int .i64 3,.int .i64 4,.int .i64 2,.int .i64 2,.int .i64 0,.int .i64 1,.int .i64 0,.int .i64 3,.int .i64 3,.int .i64 3,.int .i64 7]:List AV)=(pE.map encE).flatten:=by kernel_rfl
theorem pknown_spec {h:Heap} {which:Int} :
  Tot tab p8_ [I which] h fun r _=>r=.bool true:=by
 refine WP.tot (fun k=>(a3K k _ h).trans (a4I tab k _ h)) ?_
 refine WP.call (b5g h) ?_
 rintro _ h1 ⟨rfl,e1⟩
 simp -implicitDefEqProofs (disch:=first|assumption|omega|exact Ext.refl _|(simp only[gL,gA]<;>omega)|fail) only[gB,setAll,partL,fldV,reduceIte,Nat.reduceAdd,Nat.reduceMul]
 rw[kS_eq,kU_eq,kB_eq,pE_eq]
 refine WP.call (b3s (by omega) (by unfold Fit; omega) _) ?_
 rintro _ _ ⟨rfl,rfl⟩
 obtain ⟨h2,hh2⟩:∃h2,h2=(List.set (h1++[AObj.cells ⟨(pE.map encE).flatten,0,0,false⟩]++[AObj.cells ⟨[AV.int .i64 0,.nils],0,0,false⟩]) (h1.length+1) (AObj.cells ⟨[AV.int .i64 4,.sl h1.length 0 6 4 none 0],0,0,false⟩)++[AObj.cells ⟨(kS.map enc1).flatten,0,0,false⟩]++[AObj.cells ⟨(kU.map encI).flatten,0,0,false⟩]++[AObj.cells ⟨(kB.map encI).flatten,0,0,false⟩]):=⟨_,rfl⟩
 rw[←hh2]
 have rn:h2[h1.length+1]?=some (.cells ⟨[I 4,.sl h1.length 0 6 4 none 0],0,0,false⟩):=by rw[hh2]; simp -implicitDefEqProofs (disch:=first|assumption|omega|exact Ext.refl _|(simp only[gL,gA]<;>omega)|fail) only[gB,setAll,partL,fldV,reduceIte,Nat.reduceAdd,Nat.reduceMul]
 have rE:h2[h1.length]?=some (.cells ⟨(pE.map encE).flatten,0,0,false⟩):=by rw[hh2]; simp -implicitDefEqProofs (disch:=first|assumption|omega|exact Ext.refl _|(simp only[gL,gA]<;>omega)|fail) only[gB,setAll,partL,fldV,reduceIte,Nat.reduceAdd,Nat.reduceMul]
 have rS:h2[h1.length+1+1]?=some (.cells ⟨(kS.map enc1).flatten,0,0,false⟩):=by rw[hh2]; simp -implicitDefEqProofs (disch:=first|assumption|omega|exact Ext.refl _|(simp only[gL,gA]<;>omega)|fail) only[gB,setAll,partL,fldV,reduceIte,Nat.reduceAdd,Nat.reduceMul]
 have rU:h2[h1.length+1+1+1]?=some (.cells ⟨(kU.map encI).flatten,0,0,false⟩):=by rw[hh2]; simp -implicitDefEqProofs (disch:=first|assumption|omega|exact Ext.refl _|(simp only[gL,gA]<;>omega)|fail) only[gB,setAll,partL,fldV,reduceIte,Nat.reduceAdd,Nat.reduceMul]
 have rB:h2[h1.length+1+1+1+1]?=some (.cells ⟨(kB.map encI).flatten,0,0,false⟩):=by rw[hh2]; simp -implicitDefEqProofs (disch:=first|assumption|omega|exact Ext.refl _|(simp only[gL,gA]<;>omega)|fail) only[gB,setAll,partL,fldV,reduceIte,Nat.reduceAdd,Nat.reduceMul]
 clear hh2
 have sE:Sl h2 4 (.sl h1.length 0 6 4 none 0) (pE.map encE):=b0H rE rfl fun c hc=>by obtain ⟨x,_,rfl⟩:=List.mem_map.1 hc; rfl
 have sS:Sl h2 1 (.sl (h1.length+1+1) 0 14 1 none 0) (kS.map enc1):=b0H rS rfl fun c hc=>by obtain ⟨x,_,rfl⟩:=List.mem_map.1 hc; rfl
 have sU:Sl h2 1 (.sl (h1.length+1+1+1) 0 14 1 none 0) (kU.map encI):=b0H rU rfl fun c hc=>by obtain ⟨x,_,rfl⟩:=List.mem_map.1 hc; rfl
 have sB:Sl h2 1 (.sl (h1.length+1+1+1+1) 0 14 1 none 0) (kB.map encI):=b0H rB rfl fun c hc=>by obtain ⟨x,_,rfl⟩:=List.mem_map.1 hc; rfl
 have lS:kS.length=14:=rfl
 have lU:kU.length=14:=rfl
 have lB:kB.length=14:=rfl
 obtain ⟨k,hk⟩:∃k:Nat,which % ((14:Nat):Int)=k:=⟨(which % ((14:Nat):Int)).toNat,by omega⟩
 have hk14:k<14:=by omega
 rw[hk]
 obtain ⟨x,hx⟩:∃x,x=kns[k]'hk14:=⟨_,rfl⟩
 have hm:x∈kns:=by rw[hx]; exact List.getElem_mem _
 have gS:gi kS (k:Int)=.str (ofL (txt x.n)):=by rw[d7_ (by omega),hx]; exact List.getElem_map _
 have gU:gi kU (k:Int)=(x.u:Int):=by rw[d7_ (by omega),hx]; exact List.getElem_map _
 have gB':gi kB (k:Int)=x.b:=by rw[d7_ (by omega),hx]; exact List.getElem_map _
 obtain ⟨g,bd,⟨z1,z2,z3⟩,hu,nf,D0,acc0,hnf,hsb,lw0⟩:=b8I hm
 have e0:=Ext.refl h2
 simp -implicitDefEqProofs (disch:=first|assumption|omega|exact Ext.refl _|(simp only[gL,gA]<;>omega)|fail) only[gB,setAll,partL,fldV,reduceIte,Nat.reduceAdd,Nat.reduceMul,sS.idxG,sS.ld0,enc1,gS]
 refine WP.call (b3P (by rw[a9H]; exact z1) z2 (b7Z g z3) g bd h2) ?_
 rintro r h3 ⟨e3,q3⟩
 simp only[CmpQ,hnf,hsb] at q3
 obtain ⟨vv,rfl,D,acc,sN,sA,rfl,gN,gA,ok,hle,hw⟩:=q3
 have o1:=gN.sl.one
 have o2:=gA.sl.one
 have hw1:wrAt 2 (h3++[AObj.cells ⟨[.nils,.nils],0,0,false⟩]) (some (AObj.cells ⟨[.nils,.nils],0,0,false⟩)) h3.length 0 2 0 [sN,sA]=some (h3++[AObj.cells ⟨[sN,sA],0,0,false⟩]):=by
  refine (a5f (n:=2) (off:=0) (hi:=2) (vs:=[sN,sA]) rfl rfl (by omega) (by simp[o1,o2])).trans ?_
  rw[m4_ rfl]
  rfl
 obtain ⟨h4,hh4⟩:∃h4,h4=h3++[AObj.cells ⟨[sN,sA],0,0,false⟩]:=⟨_,rfl⟩
 have e4:Ext h3 h4:=by rw[hh4]; exact Ext.push _ _
 have rd:h4[h3.length]?=some (.cells ⟨[sN,sA],0,0,false⟩):=by rw[hh4]; simp
 have e34:=e3.trans e4
 have rn4:=e34.get rn
 simp -implicitDefEqProofs (disch:=first|assumption|omega|exact Ext.refl _|(simp only[gL,gA]<;>omega)|fail) only[gB,setAll,partL,fldV,reduceIte,Nat.reduceAdd,Nat.reduceMul,a5_,hw1]
 rw[←hh4]
 simp -implicitDefEqProofs (disch:=first|assumption|omega|exact Ext.refl _|(simp only[gL,gA]<;>omega)|fail) only[gB,setAll,partL,fldV,reduceIte,Nat.reduceAdd,Nat.reduceMul,rn4,rd]
 have hn2:(4:Nat)*D.length≤1000000:=by
  have:=b6Z hsb
  omega
 refine WP.call (b1X (v:=0) pNet pCo hn2 (sE.ext e34) ok (gN.sl.ext e4) (gA.sl.ext e4) (by omega)) ?_
 rintro rc h5 ⟨e5,c,lc,g5⟩
 have lw:=bv_lw (v:=0) (u:=x.u) ok pNet (by omega) hu lc
 have hlw:LW pE (0:Nat) x.u (fun w=>gi acc (goS D 0 w)=true) x.b:=by
  refine ⟨?_,fun l l1 l2 l3=>lw0.le l l1 l2 (by rw[hw _ (OkW.md pNet l1)]; exact l3)⟩
  rcases lw0.ex with y|⟨y0,l,y1,y2,y3,y4⟩
  ·exact .inl y
  ·exact .inr ⟨y0,l,y1,y2,by rw[←hw _ (OkW.md pNet y1)]; exact y3,y4⟩
 have hbv:=lw.uniq hlw
 have hcl:=b2N 4 D.length c acc
 have hcg:=b3z (S:=D.length) (c:=c) (acc:=acc) hu
 rw[hbv] at hcg
 have x5:=g5.sl
 have e25:=e34.trans e5
 have sU5:=sU.ext e25
 have sB5:=sB.ext e25
 have e05:=Ext.refl h5
 simp -implicitDefEqProofs (disch:=first|assumption|omega|exact Ext.refl _|(simp only[gL,gA]<;>omega)|fail) only[gB,setAll,partL,fldV,reduceIte,Nat.reduceAdd,Nat.reduceMul,x5.lenG,hcl,sU5.idxG,sU5.ld0,encI,gU,x5.idxG,x5.ld0,hcg,sB5.idxG,sB5.ld0,gB']
 exact WP.ret rfl
end Go.Gm.AQ
namespace Go.Gm
open Go.RowKit
def roObj (cs:List AV):AObj:=.cells ⟨cs,0,0,true⟩
def initH (L:List (List AV × Option Loc)):Heap:=L.map fun p=>roObj p.1
def initR (L:List (List AV × Option Loc)):Ren:=⟨fun o g=>if g=0 then (L[o]?).bind (·.2) else none,fun _=>none⟩
def EntOk (W:World) (φ:Ren) (p:List AV × Option Loc):Prop:=∀l,p.2=some l→∃C e fr,W.heap[l.b]?=some (.cells C e fr)∧C.size=l.N∧l.n=p.1.length∧CellsAt φ p.1 l C
theorem initS {W:World} {L:List (List AV × Option Loc)} (hL:∀p∈L,EntOk W (initR L) p) :
  S W.heap.size W (initR L) (initH L) W:=by
 have got:∀o g l,(initR L).c o g=some l→g=0∧∃cs,L[o]?=some (cs,some l):=fun o g l h=>by
  simp only[initR] at h
  split at h
  ·rename_i hg
   cases hq:L[o]? with
   |none=>rw[hq] at h; cases h
   |some p=>rw[hq] at h; exact ⟨hg,p.1,by rw[←(show p.2=some l from h)]⟩
  ·cases h
 have ro:∀o g l,(initR L).c o g=some l→isRo (initH L) o=true:=fun o g l h=>by
  obtain ⟨_,cs,hq⟩:=got o g l h
  simp[isRo,initH,hq,roObj]
 refine ⟨⟨fun o g l h=>?_,fun o b h=>(by cases h),fun o g l o' g' l' h h' _=>.inr ⟨ro o g l h,ro o' g' l' h'⟩,fun o b o' b' h=>(by cases h)⟩,Below.refl _ _,Nat.le_refl _⟩
 obtain ⟨hg,cs,hq⟩:=got o g l h
 subst hg
 obtain ⟨C,e,fr,h1,h2,h3,h4⟩:=hL _ (List.mem_of_getElem? hq) l rfl
 exact ⟨⟨cs,0,0,true⟩,by simp[initH,hq,roObj],Nat.le_refl _,Nat.le_refl _,⟨C,e,fr,h1,h2,fun q=>(by cases q),fun _=>h4⟩,fun _=>h3⟩
theorem entry {P:Program} {T:Tab} (hv:Valid P T) {W:World} {L:List (List AV × Option Loc)} (hL:∀p∈L,EntOk W (initR L) p)
  {f:FuncId} {args:List AV} {args':List Value} (ha:VRs (initR L) args args') {Q:AV→Heap→Prop} (ht:Tot T f args (initH L) Q) (hq:∀v h,Q v h→v=.bool true) :
  Calls P f args'.toArray W fun e w'=>e=.returned (.bool true)∧Below W.heap.size W w':=by
 obtain ⟨v,h',h1,N,hN⟩:=ht
 have hv1:=hq v h' h1
 subst hv1
 obtain ⟨_,h2⟩:=fnSim (B:=W.heap.size) (w0:=W) hv N f args (initH L) _ _ (hN N (Nat.le_refl N))
 refine (h2 _ W args' ha (initS hL)).mono ?_
 rintro e w' ⟨ψ,v',rfl,k1,k2,k3⟩
 cases k1
 exact ⟨rfl,k2.below⟩
end Go.Gm
