/- A part of the proof (GmNw, GmAQsh, GmAQtb, GmAQKN, GmAQL7, GmEntry, GmRaw). -/
import Derived.OpenShut
import Derived.ChangeArms
import Derived.DataReads
import Derived.Test.YtldnkafmanalmaaProductRouteP10
set_option linter.unusedVariables false
set_option linter.unusedSimpArgs false
set_option linter.unusedSectionVars false
namespace Go.Gm
structure Po (b:NS):Prop where
 st:∀x∈b.st,x.1<b.n/\x.2.1<b.n
 fr:∀x∈b.fr,x.1<b.n/\x.2<b.n
def Pf (n:Nat)(l:List (Nat × Nat)):Prop:=∀f∈l,f.1<n/\f.2<n
theorem Po.mono {b:NS}(p:Po b){n:Nat}{m:Bool}(h:b.n<=n):Po ⟨n,m,b.st,b.fr⟩:=
 ⟨fun x hx=>by have:=p.st x hx; simp only; omega,fun x hx=>by have:=p.fr x hx; simp only; omega⟩
theorem Pf.mono {a b:Nat}{l:List (Nat × Nat)}(p:Pf a l)(h:a<=b):Pf b l:=fun f hf=>by have:=p f hf; omega
theorem a8Z {b:NS}(p:Po b):Po b.state.2/\b.n<=b.state.2.n/\(b.state.2.much=false->b.state.1<b.state.2.n/\b.much=false):=by
 rw[NS.state]
 split
 ·exact ⟨p.mono (Nat.le_refl _),Nat.le_refl _,fun z=>by cases z⟩
 ·exact ⟨p.mono (Nat.le_succ _),Nat.le_succ _,fun z=>⟨Nat.lt_succ_self _,z⟩⟩
def PoP (g:NS->List (Nat × Nat) × NS):Prop:=∀b,Po b->Po (g b).2/\b.n<=(g b).2.n/\((g b).2.much=false->Pf (g b).2.n (g b).1/\b.much=false)
def PoN (n:Nd):Prop:=∀b,Po b->Po (NS.part n b).2/\b.n<=(NS.part n b).2.n/\((NS.part n b).2.much=false->((NS.part n b).1.1<(NS.part n b).2.n/\(NS.part n b).1.2<(NS.part n b).2.n)/\b.much=false)
theorem a4R:PoP (fun b=>([],b)):=fun b p=>⟨p,Nat.le_refl _,fun z=>⟨fun f hf=>by simp at hf,z⟩⟩
theorem b0d {x:(Nat × Nat) × NS}{y:List (Nat × Nat) × NS}{b:NS}(h:x.2.n<=y.2.n)(h1:x.2.much=false->(x.1.1<x.2.n/\x.1.2<x.2.n)/\b.much=false)(h2:y.2.much=false->Pf y.2.n y.1/\x.2.much=false)(z:y.2.much=false):Pf y.2.n (x.1::y.1)/\b.much=false:=by
 obtain ⟨p,q⟩:=h2 z
 obtain ⟨r,s⟩:=h1 q
 refine ⟨fun f hf=>?_,s⟩
 rcases List.mem_cons.1 hf with rfl|hf
 ·omega
 ·exact p f hf
theorem a6N:∀(l:List Nd),(∀c∈l,PoN c)->PoP (NS.parts l)
 |[],_=>fun b p=>by rw[NS.parts]; exact a4R b p
 |n::l,h=>fun b p=>by
  rw[NS.parts]
  split
  ·rename_i q; exact ⟨p,Nat.le_refl _,fun z=>by rw[q] at z; cases z⟩
  ·obtain ⟨a1,a2,a3⟩:=h n (by simp) b p
   obtain ⟨b1,b2,b3⟩:=a6N l (fun c hc=>h c (List.mem_cons_of_mem _ hc)) _ a1
   exact ⟨b1,Nat.le_trans a2 b2,b0d b2 a3 b3⟩
theorem a3K {n:Nd}(h:PoN n):∀k,PoP (NS.times (NS.part n) k)
 |0=>fun b p=>by rw[NS.times]; exact a4R b p
 |k+1=>fun b p=>by
  rw[NS.times]
  split
  ·rename_i q; exact ⟨p,Nat.le_refl _,fun z=>by rw[q] at z; cases z⟩
  ·obtain ⟨a1,a2,a3⟩:=h b p
   obtain ⟨b1,b2,b3⟩:=a3K h k _ a1
   exact ⟨b1,Nat.le_trans a2 b2,b0d b2 a3 b3⟩
theorem hd_lt {N:Nat}{l:List (Nat × Nat)}(p:Pf N l)(h:0<N):(NS.hd l).1<N/\(NS.hd l).2<N:=by
 cases l with
 |nil=>exact ⟨h,h⟩
 |cons f l=>exact p f (by simp)
theorem b0e {N lo e:Nat}(he:e<N):∀(l:List (Nat × Nat)) (i:Nat),Pf N l->Pf N (NS.repE lo e i l)
 |[],i,_=>fun f hf=>by simp[NS.repE] at hf
 |[x],i,p=>fun f hf=>by
  have:=p x (by simp)
  obtain rfl:=List.mem_singleton.1 hf
  exact ⟨this.2,he⟩
 |x::y::l,i,p=>fun f hf=>by
  have hx:=p x (by simp)
  have hy:=p y (by simp)
  simp only[NS.repE] at hf
  rcases List.mem_append.1 hf with hf|hf
  ·split at hf
   ·obtain rfl:=List.mem_singleton.1 hf; exact ⟨hx.2,he⟩
   ·simp at hf
  ·rcases List.mem_cons.1 hf with rfl|hf
   ·exact ⟨hx.2,hy.1⟩
   ·exact b0e he (y::l) (i+1) (fun g hg=>p g (List.mem_cons_of_mem _ hg)) f hf
theorem a9a {N:Nat}:∀(l:List (Nat × Nat)),Pf N l->Pf N (NS.joinE l)
 |[],_=>fun f hf=>by simp[NS.joinE] at hf
 |[x],_=>fun f hf=>by simp[NS.joinE] at hf
 |x::y::l,p=>fun f hf=>by
  have hx:=p x (by simp)
  have hy:=p y (by simp)
  simp only[NS.joinE] at hf
  rcases List.mem_cons.1 hf with rfl|hf
  ·exact ⟨hx.2,hy.1⟩
  ·exact a9a (y::l) (fun g hg=>p g (List.mem_cons_of_mem _ hg)) f hf
theorem b4B {N s e:Nat}(hs:s<N)(he:e<N)(l:List (Nat × Nat))(p:Pf N l):Pf N (NS.uniE s e l):=fun f hf=>by
 simp only[NS.uniE,List.mem_flatMap] at hf
 obtain ⟨x,hx,hf⟩:=hf
 have:=p x hx
 simp only[List.mem_cons,List.not_mem_nil,or_false] at hf
 rcases hf with rfl|rfl
 ·exact ⟨hs,this.1⟩
 ·exact ⟨this.2,he⟩
theorem Po.frees {b:NS}(p:Po b){l:List (Nat × Nat)}(h:Pf b.n l):Po (b.frees l):=⟨p.st,fun x hx=>by
 rcases List.mem_append.1 hx with hx|hx
 ·exact p.fr x hx
 ·exact h x hx⟩
theorem b4C {b:NS}(p:Po b){s e:Nat}(hs:s<b.n)(he:e<b.n){l:List (Nat × Nat)}(hl:Pf b.n l)(n:Nd):Po (b.lead s e l n):=by
 obtain ⟨h1,h2⟩:=hd_lt hl (by omega)
 have ev:∀{x:List (Nat × Nat)},(∀f∈x,f=(s,(NS.hd l).1)\/f=(s,e)\/f=((NS.hd l).2,(NS.hd l).1)\/f=((NS.hd l).2,e))->Pf b.n x:=fun h f hf=>by
  rcases h f hf with rfl|rfl|rfl|rfl<;>exact ⟨by assumption,by assumption⟩
 cases n with
 |set k=>exact ⟨fun x hx=>by
   rcases List.mem_append.1 hx with hx|hx
   ·exact p.st x hx
   ·obtain rfl:=List.mem_singleton.1 hx; exact ⟨hs,he⟩,p.fr⟩
 |eps=>exact p.frees (ev (by simp))
 |uni _=>exact p.frees (b4B hs he l hl)
 |star _=>exact p.frees (ev (by simp))
 |plus _=>exact p.frees (ev (by simp))
 |opt _=>exact p.frees (ev (by simp))
 |rep lo hi _=>
  refine p.frees fun f hf=>?_
  rcases List.mem_append.1 hf with hf|hf
  ·rcases List.mem_append.1 hf with hf|hf
   ·split at hf
    ·obtain rfl:=List.mem_singleton.1 hf; exact ⟨hs,h1⟩
    ·simp at hf
   ·exact b0e he l 0 hl f hf
  ·split at hf
   ·obtain rfl:=List.mem_singleton.1 hf; exact ⟨hs,he⟩
   ·simp at hf
 |emp=>exact p
 |join _=>exact p
theorem x4_ {n:Nd}{g:NS->List (Nat × Nat) × NS}(hp:PoP g)(b:NS)(p:Po b):Po (NS.around n g b).2/\b.n<=(NS.around n g b).2.n/\((NS.around n g b).2.much=false->((NS.around n g b).1.1<(NS.around n g b).2.n/\(NS.around n g b).1.2<(NS.around n g b).2.n)/\b.much=false):=by
 simp only[NS.around]
 split
 ·rename_i q; exact ⟨p,Nat.le_refl _,fun z=>by rw[q] at z; cases z⟩
 ·rename_i hb
  rw[Bool.not_eq_true] at hb
  obtain ⟨a1,a2,a3⟩:=a8Z p
  obtain ⟨b1,b2,b3⟩:=hp _ a1
  obtain ⟨c1,c2,c3⟩:=a8Z b1
  simp only
  split
  ·rename_i q; exact ⟨c1,by omega,fun z=>by rw[q] at z; cases z⟩
  ·rename_i q
   rw[Bool.not_eq_true] at q
   obtain ⟨d1,d2⟩:=c3 q
   obtain ⟨f1,f2⟩:=b3 d2
   obtain ⟨g1,_⟩:=a3 f2
   have hs:b.state.1<(g b.state.2).2.state.2.n:=by omega
   have ln:((g b.state.2).2.state.2.lead b.state.1 (g b.state.2).2.state.1 (g b.state.2).1 n).n=(g b.state.2).2.state.2.n:=by cases n<;>rfl
   exact ⟨b4C c1 hs d1 (f1.mono c2) n,by rw[ln]; omega,fun _=>⟨⟨by rw[ln]; exact hs,by rw[ln]; exact d1⟩,hb⟩⟩
theorem po_n (n:Nd):Gd n->PoN n:=by
 refine Nd.ind (p:=fun n=>Gd n->PoN n) (fun n ih g=>?_) n
 have k:∀c∈n.kids,PoN c:=fun c hc=>ih c hc (g.kid c hc)
 cases n with
 |set s=>intro b p; rw[NS.part]; exact x4_ a4R b p
 |emp=>intro b p; rw[NS.part]; exact x4_ a4R b p
 |eps=>intro b p; rw[NS.part]; exact x4_ a4R b p
 |uni l=>intro b p; rw[NS.part]; exact x4_ (a6N l k) b p
 |star c=>intro b p; rw[NS.part]; exact x4_ (a3K (k c (by simp[Nd.kids])) 1) b p
 |plus c=>intro b p; rw[NS.part]; exact x4_ (a3K (k c (by simp[Nd.kids])) 1) b p
 |opt c=>intro b p; rw[NS.part]; exact x4_ (a3K (k c (by simp[Nd.kids])) 1) b p
 |rep lo hi c=>intro b p; rw[NS.part]; exact x4_ (a3K (k c (by simp[Nd.kids])) hi) b p
 |join l=>
  intro b p
  have hl:2<=l.length:=g.rt
  rw[NS.part]
  simp only[NS.joined]
  obtain ⟨b1,b2,b3⟩:=a6N l k b p
  split
  ·rename_i q; exact ⟨p,Nat.le_refl _,fun z=>by rw[q] at z; cases z⟩
  ·split
   ·rename_i q; exact ⟨b1,b2,fun z=>by rw[q] at z; cases z⟩
   ·rename_i hb q
    rw[Bool.not_eq_true] at q hb
    obtain ⟨f1,f2⟩:=b3 q
    refine ⟨b1.frees (a9a _ f1),b2,fun _=>⟨?_,hb⟩⟩
    have hn:(NS.parts l b).1≠[]:=by
     obtain ⟨x,l',rfl⟩:∃x l',l=x::l':=by
      cases l with
      |nil=>simp at hl
      |cons x l'=>exact ⟨x,l',rfl⟩
     rw[NS.parts,if_neg (by rw[hb]; decide)]
     simp
    obtain ⟨x,l',hx⟩:∃x l',(NS.parts l b).1=x::l':=by
     cases hq:(NS.parts l b).1 with
     |nil=>exact absurd hq hn
     |cons x l'=>exact ⟨x,l',rfl⟩
    have h1:=f1 x (by rw[hx]; simp)
    have h2:(NS.parts l b).1.getLastD (0,0)∈(NS.parts l b).1:=by
     rw[List.getLastD_eq_getLast?,List.getLast?_eq_some_getLast hn]
     exact List.getLast_mem hn
    have h3:=f1 _ h2
    exact ⟨by rw[hx]; exact h1.1,h3.2⟩
theorem b5v {n:Nd}(g:Gd n){nf:NF}(h:nfaF n=some nf):NfOk nf:=by
 simp only[nfaF] at h
 split at h
 ·cases h
 ·rename_i q
  rw[Bool.not_eq_true] at q
  injection h with h
  subst h
  obtain ⟨p1,p2,p3⟩:=po_n n g NS.new ⟨fun x hx=>by simp[NS.new] at hx,fun x hx=>by simp[NS.new] at hx⟩
  obtain ⟨p4,_⟩:=p3 q
  exact ⟨p4.1,p4.2,p1.st,p1.fr⟩
end Go.Gm
namespace Go.Gm.AQ
open Go Go.Gm
def BldQ (o:Option NF)(r:AV)(h':Heap):Prop:=
 match o with
 |none=>r=.tup [.agg [I 0,I 0,I 0,.nils,.nils],I 4]
 |some nf=>∃sS sF:AV,r=.tup [.agg (nfC nf sS sF),I 0]/\NfV h' nf sS sF
theorem b0F {h:Heap}{n:Nd}{c5:List AV}(nv:NV h n c5)(g:Gd n)(bd:Bd n) :
  Tot tab w2_ [.agg c5] h fun r h'=>Ext h h'/\BldQ (nfaF n) r h':=by
 refine WP.tot (fun k=>a4p k _ h) ?_
 have hok:=nv
 obtain ⟨s5,rfl,h5⟩:∃s,c5=[I n.kind,I n.st,I n.lo,I n.hi,s]/\s.one=true:=by
  cases nv with
  |mk a b=>exact ⟨_,rfl,a.one⟩
 obtain ⟨h1,hh1⟩:∃h1,h1=((h++[AObj.cells ⟨[I n.kind,I n.st,I n.lo,I n.hi,s5],0,0,false⟩])++[AObj.cells ⟨[I 0,I 0,I 0,.nils,.nils],0,0,false⟩])++[AObj.cells ⟨[I 0,I 0,I 0,.nils,.nils,.bool false],0,0,false⟩]:=⟨_,rfl⟩
 have e1:Ext h h1:=by rw[hh1]; ((repeat (first|exact Ext.refl _|assumption|apply Ext.app|apply Ext.mk|(refine Ext.setr ?_ (by (first|omega|(simp only[gL]<;>omega))) _))))
 have l1:h1.length=h.length+3:=by rw[hh1]; simp
 have rt:h1[h.length+1]?=some (.cells ⟨[I 0,I 0,I 0,.nils,.nils],0,0,false⟩):=by rw[hh1]; simp
 have rb:h1[h.length+2]?=some (.cells ⟨[I 0,I 0,I 0,.nils,.nils,.bool false],0,0,false⟩):=by rw[hh1]; simp
 have v:BV (fun o=>o=h.length+2) h1 (h.length+2) NS.new:=⟨.nils,.nils,0,0,rb,Gr.nil ..,Gr.nil ..,rfl,fun z=>absurd rfl z,fun z=>absurd rfl z⟩
 simp -implicitDefEqProofs (maxSteps:=1000000) (disch:=first|assumption|omega|(simp only[gL]<;>omega)|((repeat (first|exact Ext.refl _|assumption|apply Ext.app|apply Ext.mk|(refine Ext.setr ?_ (by (first|omega|(simp only[gL]<;>omega))) _))); done)|(simp only[gL,gA,h5]<;>omega)|fail) only[gB,setAll,partL,fldV,reduceIte,Nat.reduceAdd,Nat.reduceMul,h5]
 rw[<-hh1]
 refine WP.call (b0u n g bd h h1 _ _ _ _ hok e1 (fun o ho=>by omega) v NSok.new) ?_
 rintro r h2 ⟨rfl,v2,f2⟩
 have l2:=f2.len
 have rt2:h2[h.length+1]?=_:=(f2.get (by omega) (by omega)).trans rt
 have bt:=(List.getElem?_eq_some_iff.1 rt2).1
 obtain ⟨sS,sF,oS,oF,r1,gS,gF,w1,w2,w3⟩:=v2
 have e2:Ext h h2:=f2.ext e1 fun o z1 z2=>by omega
 have b2:=(List.getElem?_eq_some_iff.1 r1).1
 have os:=gS.sl.one
 have of':=gF.sl.one
 have key:nfaF n=if (NS.part n NS.new).2.much=true then none else some ⟨(NS.part n NS.new).2.n,(NS.part n NS.new).1.1,(NS.part n NS.new).1.2,(NS.part n NS.new).2.st,(NS.part n NS.new).2.fr⟩:=rfl
 obtain ⟨mu,hmu⟩:∃mu,(NS.part n NS.new).2.much=mu:=⟨_,rfl⟩
 rw[hmu] at r1 key
 obtain ⟨pa,hpa⟩:∃a,(NS.part n NS.new).1.1=a:=⟨_,rfl⟩
 obtain ⟨pb,hpb⟩:∃b,(NS.part n NS.new).1.2=b:=⟨_,rfl⟩
 rw[hpa,hpb] at key ⊢
 cases mu with
 |true=>
  simp -implicitDefEqProofs (maxSteps:=1000000) (disch:=first|assumption|omega|(simp only[gL]<;>omega)|((repeat (first|exact Ext.refl _|assumption|apply Ext.app|apply Ext.mk|(refine Ext.setr ?_ (by (first|omega|(simp only[gL]<;>omega))) _))); done)|(simp only[gL,gA,a1_,r1,rt2]<;>omega)|fail) only[gB,setAll,partL,fldV,reduceIte,Nat.reduceAdd,Nat.reduceMul,a1_,r1,rt2]
  rw[key]
  exact WP.ret ⟨e2.set (by omega) _,rfl⟩
 |false=>
  rw[if_neg (by decide)] at key
  simp -implicitDefEqProofs (maxSteps:=1000000) (disch:=first|assumption|omega|(simp only[gL]<;>omega)|((repeat (first|exact Ext.refl _|assumption|apply Ext.app|apply Ext.mk|(refine Ext.setr ?_ (by (first|omega|(simp only[gL]<;>omega))) _))); done)|(simp only[gL,gA,a1_,r1,rt2,os,of']<;>omega)|fail) only[gB,setAll,partL,fldV,reduceIte,Nat.reduceAdd,Nat.reduceMul,a1_,r1,rt2,os,of']
  have g1:Gr oS (oS+1) (((h2.set (h.length+1+1) (.cells ⟨[I (NS.part n NS.new).2.n,I pa,I 0,sS,sF,.bool false],0,0,false⟩)).set (h.length+1+1) (.cells ⟨[I (NS.part n NS.new).2.n,I pa,I pb,sS,sF,.bool false],0,0,false⟩)).set (h.length+1) (.cells ⟨[I (NS.part n NS.new).2.n,I pa,I pb,sS,sF],0,0,false⟩)) 3 sS ((NS.part n NS.new).2.st.map encS):=by
   refine l5_ (D:=fun o=>o=h.length+1\/o=h.length+2) gS ((((FrS.set1 _ _ _).mono fun q _ z=>?_).trans ((FrS.set1 _ _ _).mono fun q _ z=>?_)).trans ((FrS.set1 _ _ _).mono fun q _ z=>?_)) fun z=>?_
   ·right; omega
   ·right; omega
   ·left; omega
   ·obtain ⟨z1,z2,z3⟩:=w2 z
    rcases z1 with z1|z1
    ·exact absurd z1 z3
    ·omega
  have g2:Gr oF (oF+1) (((h2.set (h.length+1+1) (.cells ⟨[I (NS.part n NS.new).2.n,I pa,I 0,sS,sF,.bool false],0,0,false⟩)).set (h.length+1+1) (.cells ⟨[I (NS.part n NS.new).2.n,I pa,I pb,sS,sF,.bool false],0,0,false⟩)).set (h.length+1) (.cells ⟨[I (NS.part n NS.new).2.n,I pa,I pb,sS,sF],0,0,false⟩)) 2 sF ((NS.part n NS.new).2.fr.map encF):=by
   refine l5_ (D:=fun o=>o=h.length+1\/o=h.length+2) gF ((((FrS.set1 _ _ _).mono fun q _ z=>?_).trans ((FrS.set1 _ _ _).mono fun q _ z=>?_)).trans ((FrS.set1 _ _ _).mono fun q _ z=>?_)) fun z=>?_
   ·right; omega
   ·right; omega
   ·left; omega
   ·obtain ⟨z1,z2,z3,_⟩:=w3 z
    rcases z1 with z1|z1
    ·exact absurd z1 z3
    ·omega
  obtain ⟨n1,n2,n3,n4⟩:=b4U g key
  rw[key]
  exact WP.ret ⟨((e2.set (by omega) _).set (by omega) _).set (by omega) _,sS,sF,rfl,g1.sl,g2.sl,b5v g key,n1,by omega,by omega,fun x hx=>Nat.lt_of_lt_of_le (n4 x hx) (by decide)⟩
theorem b3c {nf:NF}{D:List (List Int)}{acc:List Bool}(h:subF nf 200=some (D,acc)):DOk D acc:=by
 obtain ⟨sets,si⟩:=a9Q h
 have ld:=si.ld
 have la:=si.la
 have l0:=(List.getElem?_eq_some_iff.1 si.s0).1
 have hl:sets.length<=200:=by rcases si.sl with z|z<;>omega
 have row:∀s:Int,0<=s->s<D.length->∃t,RowOk nf sets t (gi D s) 0 5:=fun s s0 s1=>by
  have hx:sets[s.toNat]?=some (sets[s.toNat]'(by omega)):=List.getElem?_eq_getElem (by omega)
  obtain ⟨r,r1,r2,_⟩:=si.row s.toNat _ (by omega) hx
  have:gi D s=r:=by
   obtain ⟨q1,q2⟩:=List.getElem?_eq_some_iff.1 r1
   rw[show s=((s.toNat:Nat):Int) by omega,e2_ q1]; exact q2
  exact ⟨_,this▸r2⟩
 refine ⟨by omega,by omega,by omega,fun s s0 s1=>?_,fun s m s0 s1 m0 m1=>?_⟩
 ·obtain ⟨t,r⟩:=row s s0 s1; exact r.1
 ·obtain ⟨t,r⟩:=row s s0 s1
  obtain ⟨j,j1,j2⟩:=r.2 m.toNat (by omega)
  have:gi (gi D s) m=j:=by
   obtain ⟨q1,q2⟩:=List.getElem?_eq_some_iff.1 j1
   rw[show m=((m.toNat:Nat):Int) by omega,e2_ q1]; exact q2
  have:=(List.getElem?_eq_some_iff.1 j2).1
  omega
theorem b3d {nf:NF}{D:List (List Int)}{acc:List Bool}(h:subF nf 200=some (D,acc)):D.length<=200:=by
 obtain ⟨sets,si⟩:=a9Q h
 have ld:=si.ld
 rcases si.sl with z|z<;>omega
def CmpQ (n:Nd)(lo:Nat)(r:AV)(h':Heap):Prop:=
 match nfaF n with
 |none=>r=.tup [.agg [.nils,.nils],I 4]
 |some nf=>match subF nf 200 with
  |none=>r=.tup [.agg [.nils,.nils],I 5]
  |some (D,acc)=>∃v,r=.tup [v,I 0]/\MinQ D acc lo v h'
theorem MinQ.set {D:List (List Int)}{acc:List Bool}{lo lo' o:Nat}{v:AV}{h:Heap}(q:MinQ D acc lo v h)(ho:o<lo)(hl:lo'<=lo)(x:AObj):MinQ D acc lo' v (h.set o x):=by
 obtain ⟨D',acc',sN,sA,q1,q2,q3,q4⟩:=q
 exact ⟨D',acc',sN,sA,q1,(q2.set (.inl ho) x).mono hl (by simp),(q3.set (.inl ho) x).mono hl (by simp),q4⟩
theorem a9b {S:ByteArray}{f:Nat}{n:Nd}(hS:S.size<=200)(hf:f<=900000)(hp:prs S f 0 .un 0=some (n,S.size))(g:Gd n)(bd:Bd n)(h:Heap) :
  Tot tab t0_ [.str S] h fun r h'=>Ext h h'/\CmpQ n h.length r h':=by
 refine WP.tot (fun k=>a3w k _ h) ?_
 obtain ⟨h1,hh1⟩:∃h1,h1=h++[AObj.cells ⟨[.nils,.nils],0,0,false⟩]:=⟨_,rfl⟩
 have e1:Ext h h1:=by rw[hh1]; exact Ext.push _ _
 have l1:h1.length=h.length+1:=by rw[hh1]; simp
 have rt:h1[h.length]?=some (.cells ⟨[.nils,.nils],0,0,false⟩):=by rw[hh1]; simp
 simp -implicitDefEqProofs (maxSteps:=1000000) (disch:=first|assumption|omega|(simp only[gL]<;>omega)|((repeat (first|exact Ext.refl _|assumption|apply Ext.app|apply Ext.mk|(refine Ext.setr ?_ (by (first|omega|(simp only[gL]<;>omega))) _))); done)|(simp only[gL,gA]<;>omega)|fail) only[gB,setAll,partL,fldV,reduceIte,Nat.reduceAdd,Nat.reduceMul]
 rw[<-hh1]
 refine WP.call (b3b hS hf hp h1) ?_
 rintro r h2 ⟨e2,c5,rfl,nv⟩
 have l2:=e2.len
 have rt2:=e2.get rt
 obtain ⟨s5,rfl,h5⟩:=nv.inv
 obtain ⟨h3,hh3⟩:∃h3,h3=h2++[AObj.cells ⟨[I n.kind,I n.st,I n.lo,I n.hi,s5],0,0,false⟩]:=⟨_,rfl⟩
 have e3:Ext h2 h3:=by rw[hh3]; exact Ext.push _ _
 have l3:h3.length=h2.length+1:=by rw[hh3]; simp
 have rn:h3[h2.length]?=some (.cells ⟨[I n.kind,I n.st,I n.lo,I n.hi,s5],0,0,false⟩):=by rw[hh3]; simp
 have rt3:=e3.get rt2
 have b3:=(List.getElem?_eq_some_iff.1 rt3).1
 simp -implicitDefEqProofs (maxSteps:=1000000) (disch:=first|assumption|omega|(simp only[gL]<;>omega)|((repeat (first|exact Ext.refl _|assumption|apply Ext.app|apply Ext.mk|(refine Ext.setr ?_ (by (first|omega|(simp only[gL]<;>omega))) _))); done)|(simp only[gL,gA,a1_,h5,l6_]<;>omega)|fail) only[gB,setAll,partL,fldV,reduceIte,Nat.reduceAdd,Nat.reduceMul,a1_,h5,l6_]
 rw[<-hh3]
 refine WP.call (b0F (nv.nv.keeps (Keeps.ofExt e3)) g bd) ?_
 rintro r h4 ⟨e4,q4⟩
 have rt4:=e4.get rt3
 have l4:=e4.len
 have b4:=(List.getElem?_eq_some_iff.1 rt4).1
 have e04:=((e1.trans e2).trans e3).trans e4
 have e45:∀x,Ext h4 (h4++[x]):=fun x=>Ext.push _ _
 unfold CmpQ
 cases hnf:nfaF n with
 |none=>
  rw[hnf] at q4
  obtain rfl:=q4
  simp -implicitDefEqProofs (maxSteps:=1000000) (disch:=first|assumption|omega|(simp only[gL]<;>omega)|((repeat (first|exact Ext.refl _|assumption|apply Ext.app|apply Ext.mk|(refine Ext.setr ?_ (by (first|omega|(simp only[gL]<;>omega))) _))); done)|(simp only[gL,gA,a1_,rt4]<;>omega)|fail) only[gB,setAll,partL,fldV,reduceIte,Nat.reduceAdd,Nat.reduceMul,a1_,rt4]
  exact WP.ret ⟨(((e04.trans (e45 _)).set (by omega) _).set (by omega) _),rfl⟩
 |some nf=>
  rw[hnf] at q4
  obtain ⟨sS,sF,rfl,v⟩:=q4
  have o1:=v.s.one
  have o2:=v.f.one
  obtain ⟨h5,hh5⟩:∃h5,h5=h4++[AObj.cells ⟨nfC nf sS sF,0,0,false⟩]:=⟨_,rfl⟩
  have e5:Ext h4 h5:=by rw[hh5]; exact Ext.push _ _
  have l5:h5.length=h4.length+1:=by rw[hh5]; simp
  have rt5:=e5.get rt4
  have b5:=(List.getElem?_eq_some_iff.1 rt5).1
  simp -implicitDefEqProofs (maxSteps:=1000000) (disch:=first|assumption|omega|(simp only[gL]<;>omega)|((repeat (first|exact Ext.refl _|assumption|apply Ext.app|apply Ext.mk|(refine Ext.setr ?_ (by (first|omega|(simp only[gL]<;>omega))) _))); done)|(simp only[gL,gA,a1_,o1,o2,l6_]<;>omega)|fail) only[gB,setAll,partL,fldV,reduceIte,Nat.reduceAdd,Nat.reduceMul,a1_,o1,o2,l6_]
  rw[<-hh5]
  refine WP.call (a8U (v.ext e5)) ?_
  rintro r h6 ⟨e6,q6⟩
  have rt6:=e6.get rt5
  have l6:=e6.len
  have b6:=(List.getElem?_eq_some_iff.1 rt6).1
  have e06:=(e04.trans e5).trans e6
  cases hsb:subF nf 200 with
  |none=>
   rw[hsb] at q6
   obtain rfl:=q6
   simp -implicitDefEqProofs (maxSteps:=1000000) (disch:=first|assumption|omega|(simp only[gL]<;>omega)|((repeat (first|exact Ext.refl _|assumption|apply Ext.app|apply Ext.mk|(refine Ext.setr ?_ (by (first|omega|(simp only[gL]<;>omega))) _))); done)|(simp only[gL,gA,a1_,rt6]<;>omega)|fail) only[gB,setAll,partL,fldV,reduceIte,Nat.reduceAdd,Nat.reduceMul,a1_,rt6]
   exact WP.ret ⟨((e06.trans (Ext.push _ _)).set (by omega) _).set (by omega) _,rfl⟩
  |some p=>
   obtain ⟨D,acc⟩:=p
   rw[hsb] at q6
   obtain ⟨sN,sA,rfl,gN,gA⟩:=q6
   have o1:=gN.sl.one
   have o2:=gA.sl.one
   obtain ⟨h7,hh7⟩:∃h7,h7=h6++[AObj.cells ⟨[sN,sA],0,0,false⟩]:=⟨_,rfl⟩
   have e7:Ext h6 h7:=by rw[hh7]; exact Ext.push _ _
   have l7:h7.length=h6.length+1:=by rw[hh7]; simp
   have rt7:=e7.get rt6
   have b7:=(List.getElem?_eq_some_iff.1 rt7).1
   simp -implicitDefEqProofs (maxSteps:=1000000) (disch:=first|assumption|omega|(simp only[gL]<;>omega)|((repeat (first|exact Ext.refl _|assumption|apply Ext.app|apply Ext.mk|(refine Ext.setr ?_ (by (first|omega|(simp only[gL]<;>omega))) _))); done)|(simp only[gL,gA,a1_]<;>omega)|fail) only[gB,setAll,partL,fldV,reduceIte,Nat.reduceAdd,Nat.reduceMul,a1_]
   have hw:wrAt 2 (h6++[AObj.cells ⟨[.nils,.nils],0,0,false⟩]) (some (AObj.cells ⟨[.nils,.nils],0,0,false⟩)) h6.length 0 2 0 [sN,sA]=some h7:=by
    refine (a1i (n:=2) (off:=0) (hi:=2) (vs:=[sN,sA]) rfl rfl (by omega) (by simp[o1,o2])).trans ?_
    rw[l6_ rfl,hh7]
    rfl
   have rd7:h7[h6.length]?=some (.cells ⟨[sN,sA],0,0,false⟩):=by rw[hh7]; simp
   simp -implicitDefEqProofs (maxSteps:=1000000) (disch:=first|assumption|omega|(simp only[gL]<;>omega)|((repeat (first|exact Ext.refl _|assumption|apply Ext.app|apply Ext.mk|(refine Ext.setr ?_ (by (first|omega|(simp only[gL]<;>omega))) _))); done)|(simp only[gL,gA,hw,rd7]<;>omega)|fail) only[gB,setAll,partL,fldV,reduceIte,Nat.reduceAdd,Nat.reduceMul,hw,rd7]
   refine WP.call (a8b (b3c hsb) (gN.sl.ext e7) (gA.sl.ext e7)) ?_
   rintro r h8 ⟨e8,q8⟩
   have rt8:=e8.get rt7
   have l8:=e8.len
   have b8:=(List.getElem?_eq_some_iff.1 rt8).1
   obtain ⟨D',acc',sN',sA',rfl,q2⟩:=q8
   have o1:=q2.1.sl.one
   have o2:=q2.2.1.sl.one
   have hw:wrAt 2 h8 (some (AObj.cells ⟨[.nils,.nils],0,0,false⟩)) h.length 0 2 0 [sN',sA']=some (h8.set h.length (.cells ⟨[sN',sA'],0,0,false⟩)):=a1i (n:=2) (off:=0) (hi:=2) (vs:=[sN',sA']) rfl rfl (by omega) (by simp[o1,o2])
   simp -implicitDefEqProofs (maxSteps:=1000000) (disch:=first|assumption|omega|(simp only[gL]<;>omega)|((repeat (first|exact Ext.refl _|assumption|apply Ext.app|apply Ext.mk|(refine Ext.setr ?_ (by (first|omega|(simp only[gL]<;>omega))) _))); done)|(simp only[gL,gA,rt8,hw]<;>omega)|fail) only[gB,setAll,partL,fldV,reduceIte,Nat.reduceAdd,Nat.reduceMul,rt8,hw]
   have mq:MinQ D acc h7.length (.agg [sN',sA']) h8:=⟨D',acc',sN',sA',rfl,q2⟩
   exact WP.ret ⟨((e06.trans e7).trans e8).set (by omega) _,_,rfl,mq.set (by omega) (by omega) _⟩
end Go.Gm.AQ
namespace Go.Gm.AQ
open Go Go.Gm
theorem b2c (n:Nd):Gd n->Bd n->TextS n:=by
 refine Nd.ind (p:=fun n=>Gd n->Bd n->TextS n) (fun n ih g bd=>?_) n
 intro h c5 nv hl
 refine WP.tot (fun k=>a4B k _ h) ?_
 obtain ⟨sL,css,kv⟩:=kidsV nv
 have h5:=kv.sl.one
 obtain rfl:=kv.c
 have e1:Ext h (h++[AObj.cells ⟨[I n.kind,I n.st,I n.lo,I n.hi,sL],0,0,false⟩]):=Ext.push _ _
 have r1:(h++[AObj.cells ⟨[I n.kind,I n.st,I n.lo,I n.hi,sL],0,0,false⟩])[h.length]?=some (.cells ⟨[I n.kind,I n.st,I n.lo,I n.hi,sL],0,0,false⟩):=by simp
 have big:4<=n.kind->WP (fun k:Nat=>j3_ k k (.ptr h.length 0 5 0) (.str ⟨#[]⟩) (I 0) (h++[AObj.cells ⟨[I n.kind,I n.st,I n.lo,I n.hi,sL],0,0,false⟩])) fun r h'=>Ext h h'/\r=.str (ofL (txt n)):=fun hk=>by
  refine WP.ent ((b3Z (h0:=h) g bd.len hk (fun c hc=>ih c hc (g.kid c hc) (bd.kid c hc)) kv hl e1 r1 n.kids.length 0 _ [] (by omega) (Ext.refl _) (by rw[b3X hk]; rfl)).mono ?_) fun i=>rfl
  rintro r h' ⟨e,rfl⟩
  exact ⟨e1.trans e,rfl⟩
 obtain ⟨h1,hh1⟩:∃h1,h1=h++[AObj.cells ⟨[I n.kind,I n.st,I n.lo,I n.hi,sL],0,0,false⟩]:=⟨_,rfl⟩
 rw[<-hh1] at e1 r1 big
 simp -implicitDefEqProofs (disch:=first|assumption|omega|(simp only[gL,gA]<;>omega)|fail) only[gC,reduceIte,h5]
 rw[<-hh1]
 have g0:=g.rt
 cases n with
 |set s=>
  simp only[Nd.kind,Nd.st,Nd.lo,Nd.hi] at r1
  simp -implicitDefEqProofs (disch:=first|assumption|omega|(simp only[gL,gA]<;>omega)|fail) only[gC,reduceIte,Nd.kind,Nd.st,r1]
  refine WP.call (b2x g0.2 h1) ?_
  rintro r h2 ⟨rfl,rfl⟩
  exact WP.ret ⟨e1,by rw[txt]⟩
 |emp=>
  simp only[Nd.kind,Nd.st,Nd.lo,Nd.hi] at r1
  simp -implicitDefEqProofs (disch:=first|assumption|omega|(simp only[gL,gA]<;>omega)|fail) only[gC,reduceIte,Nd.kind,Nd.st,r1]
  exact WP.ret ⟨e1,by rw[txt]; rfl⟩
 |eps=>
  simp only[Nd.kind,Nd.st,Nd.lo,Nd.hi] at r1
  simp -implicitDefEqProofs (disch:=first|assumption|omega|(simp only[gL,gA]<;>omega)|fail) only[gC,reduceIte,Nd.kind,Nd.st,r1]
  exact WP.ret ⟨e1,by rw[txt]; rfl⟩
 |join l=>
  have bg:=big (by simp[Nd.kind])
  simp only[Nd.kind,Nd.st,Nd.lo,Nd.hi] at r1
  simp -implicitDefEqProofs (disch:=first|assumption|omega|(simp only[gL,gA]<;>omega)|fail) only[gC,reduceIte,Nd.kind,Nd.st,r1]
  exact bg
 |uni l=>
  have bg:=big (by simp[Nd.kind])
  simp only[Nd.kind,Nd.st,Nd.lo,Nd.hi] at r1
  simp -implicitDefEqProofs (disch:=first|assumption|omega|(simp only[gL,gA]<;>omega)|fail) only[gC,reduceIte,Nd.kind,Nd.st,r1]
  exact bg
 |star c=>
  have bg:=big (by simp[Nd.kind])
  simp only[Nd.kind,Nd.st,Nd.lo,Nd.hi] at r1
  simp -implicitDefEqProofs (disch:=first|assumption|omega|(simp only[gL,gA]<;>omega)|fail) only[gC,reduceIte,Nd.kind,Nd.st,r1]
  exact bg
 |plus c=>
  have bg:=big (by simp[Nd.kind])
  simp only[Nd.kind,Nd.st,Nd.lo,Nd.hi] at r1
  simp -implicitDefEqProofs (disch:=first|assumption|omega|(simp only[gL,gA]<;>omega)|fail) only[gC,reduceIte,Nd.kind,Nd.st,r1]
  exact bg
 |opt c=>
  have bg:=big (by simp[Nd.kind])
  simp only[Nd.kind,Nd.st,Nd.lo,Nd.hi] at r1
  simp -implicitDefEqProofs (disch:=first|assumption|omega|(simp only[gL,gA]<;>omega)|fail) only[gC,reduceIte,Nd.kind,Nd.st,r1]
  exact bg
 |rep a b c=>
  have bg:=big (by simp[Nd.kind])
  simp only[Nd.kind,Nd.st,Nd.lo,Nd.hi] at r1
  simp -implicitDefEqProofs (disch:=first|assumption|omega|(simp only[gL,gA]<;>omega)|fail) only[gC,reduceIte,Nd.kind,Nd.st,r1]
  exact bg
def MchQ (n:Nd)(lo:Nat)(r:AV)(h':Heap):Prop:=
 ∃(D:List (List Int)) (acc:List Bool) (sN sA:AV),r=.agg [sN,sA]/\Gr lo h'.length h' 5 sN (D.map encR)/\Gr lo h'.length h' 1 sA (acc.map encB)/\DOk D acc/\D.length<=200/\
  ((∃nf D0 acc0,nfaF n=some nf/\subF nf 200=some (D0,acc0)/\∀w:List Int,(∀m∈w,0<=m/\m<5)->gi acc0 (goS D0 0 w)=gi acc (goS D 0 w))\/
   ((∀nf,nfaF n=some nf->subF nf 200=none)/\D=[[0,0,0,0,0]]/\acc=[true]))
theorem a9c {l:List Rw}{s:AV}{css:List (List AV)}{h:Heap}(hs:Sl h 3 s css)(hr:RVs h l css)(hf:szF 7 l<=14) :
  Tot tab s9_ [s] h fun r h'=>Ext h h'/\MchQ (oneN l) h.length r h':=by
 refine WP.tot (fun k=>a3v k _ h) ?_
 obtain ⟨h1,hh1⟩:∃h1,h1=h++[AObj.cells ⟨[.nils,.nils],0,0,false⟩]:=⟨_,rfl⟩
 have e1:Ext h h1:=by rw[hh1]; exact Ext.push _ _
 have l1:h1.length=h.length+1:=by rw[hh1]; simp
 have rt:h1[h.length]?=some (.cells ⟨[.nils,.nils],0,0,false⟩):=by rw[hh1]; simp
 obtain ⟨g,bd⟩:=b5c l
 obtain ⟨z1,z2,z3⟩:=b5d l hf
 simp -implicitDefEqProofs (disch:=first|assumption|omega|(simp only[gL,gA]<;>omega)|fail) only[gC,reduceIte]
 rw[<-hh1]
 refine WP.call (b1v (hs.ext e1) (hr.ext e1)) ?_
 rintro r h2 ⟨e2,c5,rfl,nv⟩
 refine WP.call (b2c _ g bd h2 c5 nv.nv (by omega)) ?_
 rintro r h3 ⟨e3,rfl⟩
 refine WP.call (a9b (by rw[a1v]; exact z1) z2 (b3N g z3) g bd h3) ?_
 rintro r h4 ⟨e4,q4⟩
 have e14:=(e2.trans e3).trans e4
 have rt4:=e14.get rt
 have l4:=e14.len
 have b4:=(List.getElem?_eq_some_iff.1 rt4).1
 have e04:=e1.trans e14
 unfold CmpQ at q4
 obtain ⟨H,hH⟩:∃H,H=List.set (List.set (h4++[AObj.cells ⟨[.nils,.nils],0,0,false⟩]) h4.length (.cells ⟨[.nils,.nils],0,0,false⟩)++[AObj.cells ⟨[I 0,I 0,I 0,I 0,I 0],0,0,false⟩]++[AObj.cells ⟨[.bool true],0,0,false⟩]) h.length (.cells ⟨[.sl (h4.length+1) 0 1 5 none 0,.sl (h4.length+1+1) 0 1 1 none 0],0,0,false⟩):=⟨_,rfl⟩
 have eH:Ext h H:=by
  rw[hH]
  exact ((((e04.trans (Ext.push _ _)).set (by omega) _).trans (Ext.push _ _)).trans (Ext.push _ _)).set (Nat.le_refl _) _
 have bad:(∀nf,nfaF (oneN l)=some nf->subF nf 200=none)->MchQ (oneN l) h.length (.agg [.sl (h4.length+1) 0 1 5 none 0,.sl (h4.length+1+1) 0 1 1 none 0]) H:=fun hb=>by
  obtain ⟨h5,hh5⟩:∃h5,h5=List.set (h4++[AObj.cells ⟨[.nils,.nils],0,0,false⟩]) h4.length (.cells ⟨[.nils,.nils],0,0,false⟩):=⟨_,rfl⟩
  have l5:h5.length=h4.length+1:=by rw[hh5]; simp
  have b1:=Gr.lit (h:=h5) (sz:=5) (v:=[I 0,I 0,I 0,I 0,I 0]) rfl
  rw[a4_] at b1
  have b2:=Gr.lit (h:=h5++[AObj.cells ⟨[I 0,I 0,I 0,I 0,I 0],0,0,false⟩]) (sz:=1) (v:=[.bool true]) rfl
  rw[a4_] at b2
  have l6:(h5++[AObj.cells ⟨[I 0,I 0,I 0,I 0,I 0],0,0,false⟩]).length=h4.length+1+1:=by simp[l5]
  rw[l6] at b2
  rw[l5] at b1
  rw[<-hh5] at hH
  have c1:=(b1.app [AObj.cells ⟨[.bool true],0,0,false⟩]).set (o:=h.length) (by omega) (.cells ⟨[.sl (h4.length+1) 0 1 5 none 0,.sl (h4.length+1+1) 0 1 1 none 0],0,0,false⟩)
  have c2:=b2.set (o:=h.length) (by omega) (.cells ⟨[.sl (h4.length+1) 0 1 5 none 0,.sl (h4.length+1+1) 0 1 1 none 0],0,0,false⟩)
  rw[<-hH] at c1 c2
  refine ⟨[[0,0,0,0,0]],[true],_,_,rfl,c1.mono (by omega) (by rw[hH]; simp; omega),c2.mono (by omega) (by rw[hH]; simp; omega),⟨by decide,by decide,rfl,fun s s0 s1=>?_,fun s m s0 s1 m0 m1=>?_⟩,by decide,.inr ⟨hb,rfl,rfl⟩⟩
  ·obtain rfl:s=0:=by simp at s1; omega
   rfl
  ·obtain rfl:s=0:=by simp at s1; omega
   obtain ⟨k,rfl⟩:∃k:Nat,m=k:=⟨m.toNat,by omega⟩
   match k,m1 with
   |0,_=>decide
   |1,_=>decide
   |2,_=>decide
   |3,_=>decide
   |4,_=>decide
   |k+5,m1=>omega
 cases hnf:nfaF (oneN l) with
 |none=>
  rw[hnf] at q4
  obtain rfl:=q4
  simp -implicitDefEqProofs (disch:=first|assumption|omega|(simp only[gL,gA]<;>omega)|fail) only[gC,reduceIte,a1_,rt4]
  exact WP.ret (hH▸⟨eH,bad fun nf z=>by rw[hnf] at z; cases z⟩)
 |some nf=>
  rw[hnf] at q4
  cases hsb:subF nf 200 with
  |none=>
   simp only[hsb] at q4
   obtain rfl:=q4
   simp -implicitDefEqProofs (disch:=first|assumption|omega|(simp only[gL,gA]<;>omega)|fail) only[gC,reduceIte,a1_,rt4]
   exact WP.ret (hH▸⟨eH,bad fun nf' z=>by rw[hnf] at z; cases z; exact hsb⟩)
  |some p=>
   obtain ⟨D0,acc0⟩:=p
   simp only[hsb] at q4
   obtain ⟨v,rfl,D,acc,sN,sA,rfl,gN,gA,ok,hle,hw⟩:=q4
   have o1:=gN.sl.one
   have o2:=gA.sl.one
   have hw1:wrAt 2 (h4++[AObj.cells ⟨[.nils,.nils],0,0,false⟩]) (some (AObj.cells ⟨[.nils,.nils],0,0,false⟩)) h4.length 0 2 0 [sN,sA]=some (h4++[AObj.cells ⟨[sN,sA],0,0,false⟩]):=by
    refine (a1i (n:=2) (off:=0) (hi:=2) (vs:=[sN,sA]) rfl rfl (by omega) (by simp[o1,o2])).trans ?_
    rw[l6_ rfl]
    rfl
   simp -implicitDefEqProofs (disch:=first|assumption|omega|(simp only[gL,gA]<;>omega)|fail) only[gC,reduceIte,a1_,rt4,hw1]
   obtain ⟨h5,hh5⟩:∃h5,h5=h4++[AObj.cells ⟨[sN,sA],0,0,false⟩]:=⟨_,rfl⟩
   have e5:Ext h4 h5:=by rw[hh5]; exact Ext.push _ _
   have rt5:=e5.get rt4
   have b5:=(List.getElem?_eq_some_iff.1 rt5).1
   have hw2:wrAt 2 h5 (some (AObj.cells ⟨[.nils,.nils],0,0,false⟩)) h.length 0 2 0 [sN,sA]=some (h5.set h.length (.cells ⟨[sN,sA],0,0,false⟩)):=a1i (n:=2) (off:=0) (hi:=2) (vs:=[sN,sA]) rfl rfl (by omega) (by simp[o1,o2])
   have l3:=(e2.trans e3).len
   rw[<-hh5]
   simp -implicitDefEqProofs (disch:=first|assumption|omega|(simp only[gL,gA]<;>omega)|fail) only[gC,reduceIte,rt5,hw2]
   have gN':=((gN.ext e5).set (o:=h.length) (.inl (by omega)) (.cells ⟨[sN,sA],0,0,false⟩)).mono (by omega:h.length<=h3.length) (by simp; have:=e5.len; omega:h4.length<=(h5.set h.length (.cells ⟨[sN,sA],0,0,false⟩)).length)
   have gA':=((gA.ext e5).set (o:=h.length) (.inl (by omega)) (.cells ⟨[sN,sA],0,0,false⟩)).mono (by omega:h.length<=h3.length) (by simp; have:=e5.len; omega:h4.length<=(h5.set h.length (.cells ⟨[sN,sA],0,0,false⟩)).length)
   exact WP.ret ⟨(e04.trans e5).set (Nat.le_refl _) _,D,acc,sN,sA,rfl,gN',gA',ok,Nat.le_trans hle (b3d hsb),.inl ⟨nf,D0,acc0,hnf,hsb,hw⟩⟩
end Go.Gm.AQ
namespace Go.Gm.AQ
open Go Go.Gm
def kE:List E:=[⟨0,1,0,4⟩]
def kD:List (List Int):=[[0,0,0,0,0]]
theorem kA0:hopA kE 1 (onL kE kD) 0=[(1,0,4)]:=by decide
theorem kA1:hopA kE 1 (onL kE kD) 1=[]:=by decide
theorem kNet:NetOk (2:Nat) kE:=⟨by omega,by omega,by simp[kE],fun e he=>by simp[kE] at he; subst he; simp⟩
theorem kCo:COk kE:=⟨fun e he=>by simp[kE] at he; subst he; simp⟩
theorem kDok:DOk kD [true]:=by
 refine ⟨by simp[kD],by simp[kD],by simp[kD],fun s s0 s1=>?_,fun s m s0 s1 m0 m1=>?_⟩
 ·simp[kD] at s1
  obtain rfl:s=0:=by omega
  rfl
 ·simp[kD] at s1
  obtain rfl:s=0:=by omega
  have:m=0\/m=1\/m=2\/m=3\/m=4:=by omega
  rcases this with rfl|rfl|rfl|rfl|rfl<;>decide
abbrev kA:=hopA kE 1 (onL kE kD)
theorem kHop {x y e:Nat}{w:Int}(hx:x<2)(h:(y,e,w)∈kA x):x=0/\y=1/\e=0/\w=4:=by
 have:x=0\/x=1:=by omega
 rcases this with rfl|rfl
 ·rw[kA,kA0] at h; simp at h; exact ⟨rfl,h.1,h.2.1,h.2.2⟩
 ·rw[kA,kA1] at h; simp at h
theorem kRange {st:Nat->Prop}(hs:∀x,st x->x<2){x:Nat}{l:List Nat}{c:Int}(h:Wk kA st x l c):x<2/\0<=c:=
 Wk.range (n:=2) (W:=2147483647) (⟨by omega,fun x hx y e w h=>by obtain ⟨rfl,rfl,rfl,rfl⟩:=kHop hx h; omega⟩) hs h
theorem kOne {l:List Nat}{c:Int}(h:Wk kA (fun x=>x=1*1) 1 l c):(l=[]/\c=0)\/4<=c:=by
 cases h with
 |nil _=>exact .inl ⟨rfl,rfl⟩
 |snoc h1 h2=>
  have hr:=kRange (fun x z=>by omega) h1
  obtain ⟨rfl,_,rfl,rfl⟩:=kHop hr.1 h2
  right; omega
theorem kZero {l:List Nat}{c:Int}(h:Wk kA (fun x=>x=0*1) 0 l c):l=[]/\c=0:=by
 cases h with
 |nil _=>exact ⟨rfl,rfl⟩
 |snoc h1 h2=>
  have hr:=kRange (fun x z=>by omega) h1
  obtain ⟨rfl,q,_⟩:=kHop hr.1 h2
  cases q
theorem kFour {l:List Nat}{c:Int}(h:Wk kA (fun x=>x=0*1) 1 l c):l=[0]/\c=4:=by
 cases h with
 |nil h=>simp at h
 |snoc h1 h2=>
  have hr:=kRange (fun x z=>by omega) h1
  obtain ⟨rfl,_,rfl,rfl⟩:=kHop hr.1 h2
  obtain ⟨rfl,rfl⟩:=kZero h1
  exact ⟨rfl,rfl⟩
theorem kBv {c:Nat->Int}{b:Nat}(hc:0<=c b):bv c [true] b 1=c b:=if_pos ⟨rfl,hc,.inl (show (-1:Int)<0 by decide)⟩
theorem kLc1 {c:Nat->Int}(lc:LC 2 kA (fun x=>x=1*1) c):c 1=0:=by
 rcases lc 1 (by omega) with ⟨h1,⟨l,h2⟩,h3⟩|⟨h1,h2⟩
 ·have:=h3 [] 0 (.nil rfl)
  omega
 ·exact absurd (Wk.nil (A:=kA) (st:=fun x=>x=1*1) (x:=1) rfl) (h2 _ _)
theorem kLc4 {c:Nat->Int}(lc:LC 2 kA (fun x=>x=0*1) c):c 1=4:=by
 have hw:Wk kA (fun x=>x=0*1) 1 ([]++[0]) (0+4):=.snoc (.nil rfl) (by rw[kA,kA0]; simp)
 rcases lc 1 (by omega) with ⟨h1,⟨l,h2⟩,h3⟩|⟨h1,h2⟩
 ·exact (kFour h2).2
 ·exact absurd hw (h2 _ _)
section
variable {h:Heap} {sE sD sA:AV}
theorem kRoute1 (hs:Sl h 4 sE (kE.map encE))(hD:Sl h 5 sD (kD.map encR))(hA:Sl h 1 sA ([true].map encB)):Tot tab k7_ [.agg [I 2,sE],.agg [sD,sA],I 1,I 1] h fun r h'=>Ext h h'/\∃sl,r=.tup [.agg [I 0,sl],.bool true]/\Sl h' 1 sl []:=by
 refine (a5l (N:=2) (v:=1) (u:=1) kNet kCo (by simp[kD]) hs kDok hD hA (by omega) (by omega)).mono ?_
 rintro r h' ⟨e,c,lc,rq⟩
 have h1:c 1=0:=kLc1 lc
 have h2:bv c [true] (1*kD.length) kD.length=0:=by
  show bv c [true] 1 1=0
  rw[kBv (by omega),h1]
 refine ⟨e,?_⟩
 rcases rq with ⟨q,_⟩|⟨_,q,l,sl,q1,q2,q3,q4,q5,q6,q7⟩
 ·omega
 ·rw[h2] at q4 q6
  have hq:q=0:=by simp[kD] at q1; omega
  subst hq
  have:l=[]:=by
   rcases kOne (l:=l) (c:=0) q4 with ⟨z,_⟩|z
   ·exact z
   ·omega
  subst this
  exact ⟨sl,q6,q7.sl⟩
theorem kRoute4 (hs:Sl h 4 sE (kE.map encE))(hD:Sl h 5 sD (kD.map encR))(hA:Sl h 1 sA ([true].map encB)):Tot tab k7_ [.agg [I 2,sE],.agg [sD,sA],I 0,I 1] h fun r h'=>Ext h h'/\∃sl,r=.tup [.agg [I 4,sl],.bool true]/\Sl h' 1 sl [[I 0]]:=by
 refine (a5l (N:=2) (v:=0) (u:=1) kNet kCo (by simp[kD]) hs kDok hD hA (by omega) (by omega)).mono ?_
 rintro r h' ⟨e,c,lc,rq⟩
 have h1:c 1=4:=kLc4 lc
 have h2:bv c [true] (1*kD.length) kD.length=4:=by
  show bv c [true] 1 1=4
  rw[kBv (by omega),h1]
 refine ⟨e,?_⟩
 rcases rq with ⟨q,_⟩|⟨_,q,l,sl,q1,q2,q3,q4,q5,q6,q7⟩
 ·omega
 ·rw[h2] at q4 q6
  have hq:q=0:=by simp[kD] at q1; omega
  subst hq
  obtain ⟨rfl,_⟩:=kFour (l:=l) (c:=4) q4
  exact ⟨sl,q6,q7.sl⟩
theorem kCosts (hs:Sl h 4 sE (kE.map encE))(hD:Sl h 5 sD (kD.map encR))(hA:Sl h 1 sA ([true].map encB)):Tot tab t8_ [.agg [I 2,sE],.agg [sD,sA],I 0] h fun r h'=>Ext h h'/\∃x,Sl h' 1 r ([x,(4:Int)].map encI):=by
 refine (b0w (N:=2) (v:=0) kNet kCo (by simp[kD]) hs kDok hD hA (by omega)).mono ?_
 rintro r h' ⟨e,c,lc,g⟩
 have h1:c 1=4:=kLc4 lc
 have h2:costL 2 kD.length c [true]=[bv c [true] 0 1,4]:=by
  show [bv c [true] (0*1) 1,bv c [true] (1*1) 1]=_
  rw[show 0*1=0 from rfl,show 1*1=1 from rfl,kBv (b:=1) (by omega),h1]
 rw[h2] at g
 exact ⟨e,_,g.sl⟩
theorem a9d {h:Heap}{o sz:Nat}{v:List AV}(hr:h[o]?=some (.cells ⟨v,0,0,false⟩))(hv:v.length=sz):Sl h sz (.sl o 0 1 sz none 0) [v]:=
 .inr ⟨o,0,none,0,_,rfl,hr,Nat.le_refl _,by simp[List.take_of_length_le (Nat.le_of_eq hv)],by simp[hv]⟩
end
theorem b0G (h:Heap):Tot tab w0_ [] h fun r h'=>r=.bool true/\Ext h h':=by
 refine WP.tot (fun k=>a4i k h) ?_
 simp -implicitDefEqProofs (maxSteps:=1000000) (disch:=first|assumption|omega|(simp only[gL]<;>omega)|((repeat (first|exact Ext.refl _|assumption|apply Ext.app|apply Ext.mk|(refine Ext.setr ?_ (by (first|omega|(simp only[gL]<;>omega))) _))); done)|(simp only[gL,gA]<;>omega)|fail) only[gB,setAll,partL,fldV,reduceIte,Nat.reduceAdd,Nat.reduceMul]
 obtain ⟨h1,hh1⟩:∃h1,h1=(List.set (List.set (h++[AObj.cells ⟨[AV.int .i64 0,AV.int .i64 1,AV.int .i64 0,AV.int .i64 4],0,0,false⟩]++[AObj.cells ⟨[AV.int .i64 0,.nils],0,0,false⟩]) (h.length+1) (AObj.cells ⟨[AV.int .i64 2,AV.sl h.length 0 1 4 none 0],0,0,false⟩) ++
   [AObj.cells ⟨[AV.int .i64 0,AV.int .i64 0,AV.int .i64 0,AV.int .i64 0,AV.int .i64 0],0,0,false⟩]++[AObj.cells ⟨[AV.bool true],0,0,false⟩]++[AObj.cells ⟨[.nils,.nils],0,0,false⟩])
   (h.length+1+1+1+1) (AObj.cells ⟨[AV.sl (h.length+1+1) 0 1 5 none 0,AV.sl (h.length+1+1+1) 0 1 1 none 0],0,0,false⟩)):=⟨_,rfl⟩
 have e1:Ext h h1:=by rw[hh1]; ((repeat (first|exact Ext.refl _|assumption|apply Ext.app|apply Ext.mk|(refine Ext.setr ?_ (by (first|omega|(simp only[gL]<;>omega))) _))))
 have r0:h1[h.length]?=some (.cells ⟨encE ⟨0,1,0,4⟩,0,0,false⟩):=by rw[hh1]; simp -implicitDefEqProofs (maxSteps:=1000000) (disch:=first|assumption|omega|(simp only[gL]<;>omega)|((repeat (first|exact Ext.refl _|assumption|apply Ext.app|apply Ext.mk|(refine Ext.setr ?_ (by (first|omega|(simp only[gL]<;>omega))) _))); done)|(simp only[gL,gA]<;>omega)|fail) only[gB,setAll,partL,fldV,reduceIte,Nat.reduceAdd,Nat.reduceMul]; try rfl
 have r1:h1[h.length+1]?=some (.cells ⟨[I 2,AV.sl h.length 0 1 4 none 0],0,0,false⟩):=by rw[hh1]; simp -implicitDefEqProofs (maxSteps:=1000000) (disch:=first|assumption|omega|(simp only[gL]<;>omega)|((repeat (first|exact Ext.refl _|assumption|apply Ext.app|apply Ext.mk|(refine Ext.setr ?_ (by (first|omega|(simp only[gL]<;>omega))) _))); done)|(simp only[gL,gA]<;>omega)|fail) only[gB,setAll,partL,fldV,reduceIte,Nat.reduceAdd,Nat.reduceMul]; try rfl
 have r2:h1[h.length+1+1]?=some (.cells ⟨encR [0,0,0,0,0],0,0,false⟩):=by rw[hh1]; simp -implicitDefEqProofs (maxSteps:=1000000) (disch:=first|assumption|omega|(simp only[gL]<;>omega)|((repeat (first|exact Ext.refl _|assumption|apply Ext.app|apply Ext.mk|(refine Ext.setr ?_ (by (first|omega|(simp only[gL]<;>omega))) _))); done)|(simp only[gL,gA]<;>omega)|fail) only[gB,setAll,partL,fldV,reduceIte,Nat.reduceAdd,Nat.reduceMul]; try rfl
 have r3:h1[h.length+1+1+1]?=some (.cells ⟨encB true,0,0,false⟩):=by rw[hh1]; simp -implicitDefEqProofs (maxSteps:=1000000) (disch:=first|assumption|omega|(simp only[gL]<;>omega)|((repeat (first|exact Ext.refl _|assumption|apply Ext.app|apply Ext.mk|(refine Ext.setr ?_ (by (first|omega|(simp only[gL]<;>omega))) _))); done)|(simp only[gL,gA]<;>omega)|fail) only[gB,setAll,partL,fldV,reduceIte,Nat.reduceAdd,Nat.reduceMul]; try rfl
 have r4:h1[h.length+1+1+1+1]?=some (.cells ⟨[AV.sl (h.length+1+1) 0 1 5 none 0,AV.sl (h.length+1+1+1) 0 1 1 none 0],0,0,false⟩):=by rw[hh1]; simp -implicitDefEqProofs (maxSteps:=1000000) (disch:=first|assumption|omega|(simp only[gL]<;>omega)|((repeat (first|exact Ext.refl _|assumption|apply Ext.app|apply Ext.mk|(refine Ext.setr ?_ (by (first|omega|(simp only[gL]<;>omega))) _))); done)|(simp only[gL,gA]<;>omega)|fail) only[gB,setAll,partL,fldV,reduceIte,Nat.reduceAdd,Nat.reduceMul]; try rfl
 have hs:Sl h1 4 (.sl h.length 0 1 4 none 0) (kE.map encE):=a9d r0 rfl
 have hD:Sl h1 5 (.sl (h.length+1+1) 0 1 5 none 0) (kD.map encR):=a9d r2 rfl
 have hA:Sl h1 1 (.sl (h.length+1+1+1) 0 1 1 none 0) ([true].map encB):=a9d r3 rfl
 rw[<-hh1]
 refine WP.call (kRoute1 hs hD hA) ?_
 rintro _ h2 ⟨e2,s2,rfl,z2⟩
 have r12:=e2.get r1
 have r42:=e2.get r4
 have b1:=(List.getElem?_eq_some_iff.1 r12).1
 have b4:=(List.getElem?_eq_some_iff.1 r42).1
 simp -implicitDefEqProofs (maxSteps:=1000000) (disch:=first|assumption|omega|(simp only[gL]<;>omega)|((repeat (first|exact Ext.refl _|assumption|apply Ext.app|apply Ext.mk|(refine Ext.setr ?_ (by (first|omega|(simp only[gL]<;>omega))) _))); done)|(simp only[gL,gA,a9_,b0_,z2.one,z2.cells,r12,r42]<;>omega)|fail) only[gB,setAll,partL,fldV,reduceIte,Nat.reduceAdd,Nat.reduceMul,a9_,b0_,z2.one,z2.cells,r12,r42]
 obtain ⟨h3,hh3⟩:∃h3,h3=((h2++[AObj.cells ⟨[AV.int .i64 0,.nils],0,0,false⟩]).set h2.length (.cells ⟨[I 0,s2],0,0,false⟩)):=⟨_,rfl⟩
 have e3:Ext h2 h3:=by rw[hh3]; ((repeat (first|exact Ext.refl _|assumption|apply Ext.app|apply Ext.mk|(refine Ext.setr ?_ (by (first|omega|(simp only[gL]<;>omega))) _))))
 have q3:h3[h2.length]?=some (.cells ⟨[I 0,s2],0,0,false⟩):=by rw[hh3]; exact a3_ (by simp)
 have e13:=e2.trans e3
 rw[<-hh3]
 refine WP.call (kRoute4 (hs.ext e13) (hD.ext e13) (hA.ext e13)) ?_
 rintro _ h4 ⟨e4,s4,rfl,z4⟩
 have r14:=(e3.trans e4).get r12
 have r44:=(e3.trans e4).get r42
 have q34:=e4.get q3
 have c1:=(List.getElem?_eq_some_iff.1 r14).1
 have c4:=(List.getElem?_eq_some_iff.1 r44).1
 have cq:=(List.getElem?_eq_some_iff.1 q34).1
 simp -implicitDefEqProofs (maxSteps:=1000000) (disch:=first|assumption|omega|(simp only[gL]<;>omega)|((repeat (first|exact Ext.refl _|assumption|apply Ext.app|apply Ext.mk|(refine Ext.setr ?_ (by (first|omega|(simp only[gL]<;>omega))) _))); done)|(simp only[gL,gA,a9_,b0_,z4.one,z4.cells,r14,r44]<;>omega)|fail) only[gB,setAll,partL,fldV,reduceIte,Nat.reduceAdd,Nat.reduceMul,a9_,b0_,z4.one,z4.cells,r14,r44]
 obtain ⟨h5,hh5⟩:∃h5,h5=((h4++[AObj.cells ⟨[AV.int .i64 0,.nils],0,0,false⟩]).set h4.length (.cells ⟨[I 4,s4],0,0,false⟩)):=⟨_,rfl⟩
 have e5:Ext h4 h5:=by rw[hh5]; ((repeat (first|exact Ext.refl _|assumption|apply Ext.app|apply Ext.mk|(refine Ext.setr ?_ (by (first|omega|(simp only[gL]<;>omega))) _))))
 have q5:h5[h4.length]?=some (.cells ⟨[I 4,s4],0,0,false⟩):=by rw[hh5]; exact a3_ (by simp)
 have e15:=(e13.trans e4).trans e5
 rw[<-hh5]
 refine WP.call (kCosts (hs.ext e15) (hD.ext e15) (hA.ext e15)) ?_
 rintro r h6 ⟨e6,x,z6⟩
 have q36:=(e5.trans e6).get q34
 have q56:=e6.get q5
 have l2:=z2.len
 have l4:=z4.len
 simp only[List.length_nil,List.length_cons] at l2 l4
 have g1:gi [x,(4:Int)] 1=4:=rfl
 simp -implicitDefEqProofs (maxSteps:=1000000) (disch:=first|assumption|omega|(simp only[gL]<;>omega)|((repeat (first|exact Ext.refl _|assumption|apply Ext.app|apply Ext.mk|(refine Ext.setr ?_ (by (first|omega|(simp only[gL]<;>omega))) _))); done)|(simp only[gL,gA,a9_,b0_,q36,q56,l2,l4,z6.lenG,z6.idxG,z6.ld0,g1,encI]<;>omega)|fail) only[gB,setAll,partL,fldV,reduceIte,Nat.reduceAdd,Nat.reduceMul,a9_,b0_,q36,q56,l2,l4,z6.lenG,z6.idxG,z6.ld0,g1,encI]
 exact WP.ret ⟨rfl,(e1.trans e15).trans e6⟩
end Go.Gm.AQ
namespace Go.Gm.AQ
open Go Go.Gm
set_option maxHeartbeats 2000000 in
theorem b2d {h0:Heap} {N on od v:Nat} {s sD sA xcs:AV} {es:List E} {D:List (List Int)} {acc:List Bool} {c:Nat->Int} (no:NetOk N es) (co:COk es) (hn2:N*D.length<=1000000) (hes2:es.length*D.length<=10000000) (ok:DOk D acc) (hvN:v<N)
  (hE:Sl h0 4 s (es.map encE)) (hD:Sl h0 5 sD (D.map encR)) (hA:Sl h0 1 sA (acc.map encB)) (rn:h0[on]?=some (.cells ⟨[I N,s],0,0,false⟩)) (rd:h0[od]?=some (.cells ⟨[sD,sA],0,0,false⟩))
  (lc:LC (N*D.length) (hopA es D.length (onL es D)) (fun x=>x=v*D.length) c) (xc:Sl h0 1 xcs ((costL N D.length c acc).map encI)) :
  ∀(d u:Nat) (h:Heap),u+d=N->Ext h0 h->WP (fun p:Nat × Nat=>f0_ p.1 p.2 (.ptr on 0 2 0) (.ptr od 0 2 0) (I v) xcs (I u) h) fun r h'=>r=.bool true:=by
 intro d
 induction d with
 |zero=>
  intro u h hu e
  refine WP.rnd (fun i' j=>r1_ i' j (.ptr on 0 2 0) (.ptr od 0 2 0) (I v) xcs (I u) h) ?_
  have rn0:=e.get rn
  simp -implicitDefEqProofs (maxSteps:=1000000) (disch:=first|assumption|omega|(simp only[gL]<;>omega)|((repeat (first|exact Ext.refl _|assumption|apply Ext.app|apply Ext.mk|(refine Ext.setr ?_ (by (first|omega|(simp only[gL]<;>omega))) _))); done)|(simp only[gL,gA,rn0]<;>omega)|fail) only[gB,setAll,partL,fldV,reduceIte,Nat.reduceAdd,Nat.reduceMul,rn0]
  exact WP.ret rfl
 |succ d ih=>
  intro u h hu e
  refine WP.rnd (fun i' j=>r1_ i' j (.ptr on 0 2 0) (.ptr od 0 2 0) (I v) xcs (I u) h) ?_
  have rn0:=e.get rn
  have rd0:=e.get rd
  have huN:u<N:=by omega
  have hN:=no.n1
  have hcl:=a5Q N D.length c acc
  have hcg:=a8P (S:=D.length) (c:=c) (acc:=acc) huN
  obtain ⟨B,hB⟩:∃B,bv c acc (u*D.length) D.length=B:=⟨_,rfl⟩
  have lw:=bv_lw ok no hvN huN lc
  rw[hB] at lw hcg
  have uni:∀{c'},LC (N*D.length) (hopA es D.length (onL es D)) (fun x=>x=v*D.length) c'->bv c' acc (u*D.length) D.length=B:=fun lc'=>(bv_lw ok no hvN huN lc').uniq lw
  simp -implicitDefEqProofs (maxSteps:=1000000) (disch:=first|assumption|omega|(simp only[gL]<;>omega)|((repeat (first|exact Ext.refl _|assumption|apply Ext.app|apply Ext.mk|(refine Ext.setr ?_ (by (first|omega|(simp only[gL]<;>omega))) _))); done)|(simp only[gL,gA,rn0,rd0]<;>omega)|fail) only[gB,setAll,partL,fldV,reduceIte,Nat.reduceAdd,Nat.reduceMul,rn0,rd0]
  refine WP.call (a5l no co hn2 (hE.ext e) ok (hD.ext e) (hA.ext e) hvN huN) ?_
  rintro rr h6 ⟨e6,c6,lc6,rq⟩
  have hb6:=uni lc6
  have rn6:=e6.get rn0
  have rd6:=e6.get rd0
  have bn6:=(List.getElem?_eq_some_iff.1 rn6).1
  have bd6:=(List.getElem?_eq_some_iff.1 rd6).1
  obtain ⟨cost,sl,is,l,hrr,his,hsl,hroute,hno⟩:∃(cost:Int) (sl:AV) (is:Bool) (l:List Nat),rr=.tup [.agg [I cost,sl],.bool is]/\(is=decide (0<=B))/\Sl h6 1 sl ((l.map fun (e:Nat)=>(e:Int)).map encI)/\
    (is=true->cost=B/\l.length<=1000000/\OkW es v l/\atV es v l=u/\atC es l=B/\gi acc (atS es D 0 l)=true)/\(is=false->cost=0/\l=[]):=by
   rcases rq with ⟨q1,q2⟩|⟨q1,q,l,sl,hq,q2,q3,q4,q5,q6,q7⟩
   ·rw[hb6] at q1
    exact ⟨0,.nils,false,[],q2,(decide_eq_false (by omega)).symm,.inl ⟨rfl,rfl⟩,fun z=>absurd z (by decide),fun _=>⟨rfl,rfl⟩⟩
   ·rw[hb6] at q1 q3 q4 q6
    obtain ⟨w1,w2,w3,w4,w5⟩:=b0b ok no hvN q4
    obtain ⟨d1,d2⟩:=a4Q (v:=u) (S:=D.length) (s:=q) hq
    rw[d1] at w2
    rw[d2] at w3
    exact ⟨B,sl,true,l,q6,(decide_eq_true q1).symm,q7.sl,fun _=>⟨rfl,q5,w1,w2,w4,by rw[w3]; exact q2⟩,fun z=>absurd z (by decide)⟩
  subst hrr
  simp -implicitDefEqProofs (maxSteps:=1000000) (disch:=first|assumption|omega|(simp only[gL]<;>omega)|((repeat (first|exact Ext.refl _|assumption|apply Ext.app|apply Ext.mk|(refine Ext.setr ?_ (by (first|omega|(simp only[gL]<;>omega))) _))); done)|(simp only[gL,gA,a9_,b0_,hsl.one,hsl.cells,rn6,rd6]<;>omega)|fail) only[gB,setAll,partL,fldV,reduceIte,Nat.reduceAdd,Nat.reduceMul,a9_,b0_,hsl.one,hsl.cells,rn6,rd6]
  obtain ⟨h7,hh7⟩:∃h7,h7=((h6++[AObj.cells ⟨[AV.int .i64 0,.nils],0,0,false⟩]).set h6.length (.cells ⟨[I cost,sl],0,0,false⟩)):=⟨_,rfl⟩
  have e7:Ext h6 h7:=by rw[hh7]; ((repeat (first|exact Ext.refl _|assumption|apply Ext.app|apply Ext.mk|(refine Ext.setr ?_ (by (first|omega|(simp only[gL]<;>omega))) _))))
  have r7:h7[h6.length]?=some (.cells ⟨[I cost,sl],0,0,false⟩):=by rw[hh7]; exact a3_ (by simp)
  rw[<-hh7]
  have e07:=(e.trans e6).trans e7
  refine WP.call (b1P no co hn2 hes2 (hE.ext e07) ok (hD.ext e07) (hA.ext e07) hvN huN) ?_
  rintro _ h8 ⟨e8,L,rfl,hL⟩
  obtain rfl:L=B:=(hL c lc).trans hB
  have e08:=e07.trans e8
  have rn8:=(e7.trans e8).get rn6
  have rd8:=(e7.trans e8).get rd6
  have r8:=e8.get r7
  have xc8:=xc.ext e08
  have hsl8:=hsl.ext (e7.trans e8)
  have hn:=fun H eH=>ih (u+1) H (by omega) (e08.trans eH)
  cases is with
  |false=>
   have hneg:¬0<=L:=fun z=>by rw[decide_eq_true z] at his; cases his
   obtain ⟨rfl,rfl⟩:=hno rfl
   have hmx:max L 0=0:=by omega
   simp -implicitDefEqProofs (maxSteps:=1000000) (disch:=first|assumption|omega|(simp only[gL]<;>omega)|((repeat (first|exact Ext.refl _|assumption|apply Ext.app|apply Ext.mk|(refine Ext.setr ?_ (by (first|omega|(simp only[gL]<;>omega))) _))); done)|(simp only[gL,gA,a9_,b0_,xc8.idxG,xc8.ld0,hcl,encI,hcg,decide_eq_false hneg,hmx,r8,hsl8.lenG,neq_b]<;>omega)|fail) only[gB,setAll,partL,fldV,reduceIte,Nat.reduceAdd,Nat.reduceMul,a9_,b0_,xc8.idxG,xc8.ld0,hcl,encI,hcg,decide_eq_false hneg,hmx,r8,hsl8.lenG,neq_b]
   exact hn h8 (Ext.refl _)
  |true=>
   have hpos:0<=L:=Classical.byContradiction fun z=>by rw[decide_eq_false z] at his; cases his
   have hmx:max L 0=L:=by omega
   obtain ⟨rfl,k1,k2,k3,k4,k5⟩:=hroute rfl
   simp -implicitDefEqProofs (maxSteps:=1000000) (disch:=first|assumption|omega|(simp only[gL]<;>omega)|((repeat (first|exact Ext.refl _|assumption|apply Ext.app|apply Ext.mk|(refine Ext.setr ?_ (by (first|omega|(simp only[gL]<;>omega))) _))); done)|(simp only[gL,gA,a9_,b0_,xc8.idxG,xc8.ld0,hcl,encI,hcg,decide_eq_true hpos,hmx,rn8,rd8,r8,neq_b]<;>omega)|fail) only[gB,setAll,partL,fldV,reduceIte,Nat.reduceAdd,Nat.reduceMul,a9_,b0_,xc8.idxG,xc8.ld0,hcl,encI,hcg,decide_eq_true hpos,hmx,rn8,rd8,r8,neq_b]
   refine WP.call (b0B no co ok (hE.ext e08) (hD.ext e08) (hA.ext e08) hsl8 k1 hvN huN k2 k3 k4 k5) ?_
   rintro _ h12 ⟨rfl,e12⟩
   simp -implicitDefEqProofs (maxSteps:=1000000) (disch:=first|assumption|omega|(simp only[gL]<;>omega)|((repeat (first|exact Ext.refl _|assumption|apply Ext.app|apply Ext.mk|(refine Ext.setr ?_ (by (first|omega|(simp only[gL]<;>omega))) _))); done)|(simp only[gL,gA]<;>omega)|fail) only[gB,setAll,partL,fldV,reduceIte,Nat.reduceAdd,Nat.reduceMul]
   exact hn h12 e12
theorem routes_spec {h:Heap}{size modes frm:Int}{ns ls:AV}{zs:List Int}{l:List Rw}{css:List (List AV)}(hns:Sl h 1 ns (zs.map encI))(hs:Sl h 3 ls css)(hr:RVs h l css) :
  Tot tab l8_ [I size,ns,I modes,ls,I frm] h fun r _=>r=.bool true:=by
 refine WP.tot (fun k=>a1J k _ _ _ _ _ h) ?_
 refine WP.call (b0G h) ?_
 rintro _ h1 ⟨rfl,e1⟩
 simp -implicitDefEqProofs (maxSteps:=1000000) (disch:=first|assumption|omega|(simp only[gL]<;>omega)|((repeat (first|exact Ext.refl _|assumption|apply Ext.app|apply Ext.mk|(refine Ext.setr ?_ (by (first|omega|(simp only[gL]<;>omega))) _))); done)|(simp only[gL,gA]<;>omega)|fail) only[gB,setAll,partL,fldV,reduceIte,Nat.reduceAdd,Nat.reduceMul]
 refine WP.call (b2o (hs.ext e1) (hr.ext e1)) ?_
 rintro _ _ ⟨rfl,rfl⟩
 by_cases hf:szF 7 l<=14
 ·rw[decide_eq_true hf]
  simp -implicitDefEqProofs (maxSteps:=1000000) (disch:=first|assumption|omega|(simp only[gL]<;>omega)|((repeat (first|exact Ext.refl _|assumption|apply Ext.app|apply Ext.mk|(refine Ext.setr ?_ (by (first|omega|(simp only[gL]<;>omega))) _))); done)|(simp only[gL,gA]<;>omega)|fail) only[gB,setAll,partL,fldV,reduceIte,Nat.reduceAdd,Nat.reduceMul]
  refine WP.call (b1c (hns.ext e1)) ?_
  rintro _ h2 ⟨e2,s,rfl,g2⟩
  refine WP.call (a9c ((hs.ext e1).ext e2) ((hr.ext e1).ext e2) hf) ?_
  rintro _ h3 ⟨e3,D,acc,sD,sA,rfl,yD,yA,ok,lD,_⟩
  have zD:=yD.sl
  have zA:=yA.sl
  have no:=b4H size zs modes
  have co:=b5o size zs modes
  have hl:=b3q size zs modes
  have hN:=a4d size
  obtain ⟨N,hNN⟩:∃N:Nat,mkN size=N:=⟨(mkN size).toNat,by omega⟩
  rw[hNN] at no hN
  rw[hNN]
  generalize mkE size zs modes=es at no co hl g2
  have gs:=g2.sl
  simp -implicitDefEqProofs (maxSteps:=1000000) (disch:=first|assumption|omega|(simp only[gL]<;>omega)|((repeat (first|exact Ext.refl _|assumption|apply Ext.app|apply Ext.mk|(refine Ext.setr ?_ (by (first|omega|(simp only[gL]<;>omega))) _))); done)|(simp only[gL,gA,gs.one,gs.cells,zD.one,zD.cells,zA.one,zA.cells]<;>omega)|fail) only[gB,setAll,partL,fldV,reduceIte,Nat.reduceAdd,Nat.reduceMul,gs.one,gs.cells,zD.one,zD.cells,zA.one,zA.cells]
  obtain ⟨h4,hh4⟩:∃h4,h4=(List.set (h3++[AObj.cells ⟨[AV.int .i64 0,.nils],0,0,false⟩]++[AObj.cells ⟨[.nils,.nils],0,0,false⟩]) h3.length (AObj.cells ⟨[I N,s],0,0,false⟩)).set (h3.length+1) (AObj.cells ⟨[sD,sA],0,0,false⟩):=⟨_,rfl⟩
  have e4:Ext h3 h4:=by rw[hh4]; ((repeat (first|exact Ext.refl _|assumption|apply Ext.app|apply Ext.mk|(refine Ext.setr ?_ (by (first|omega|(simp only[gL]<;>omega))) _))))
  have rn:h4[h3.length]?=some (.cells ⟨[I N,s],0,0,false⟩):=by rw[hh4]; simp -implicitDefEqProofs (maxSteps:=1000000) (disch:=first|assumption|omega|(simp only[gL]<;>omega)|((repeat (first|exact Ext.refl _|assumption|apply Ext.app|apply Ext.mk|(refine Ext.setr ?_ (by (first|omega|(simp only[gL]<;>omega))) _))); done)|(simp only[gL,gA]<;>omega)|fail) only[gB,setAll,partL,fldV,reduceIte,Nat.reduceAdd,Nat.reduceMul]
  have rd:h4[h3.length+1]?=some (.cells ⟨[sD,sA],0,0,false⟩):=by rw[hh4]; simp -implicitDefEqProofs (maxSteps:=1000000) (disch:=first|assumption|omega|(simp only[gL]<;>omega)|((repeat (first|exact Ext.refl _|assumption|apply Ext.app|apply Ext.mk|(refine Ext.setr ?_ (by (first|omega|(simp only[gL]<;>omega))) _))); done)|(simp only[gL,gA]<;>omega)|fail) only[gB,setAll,partL,fldV,reduceIte,Nat.reduceAdd,Nat.reduceMul]
  have l4:h4.length=h3.length+2:=by rw[hh4]; simp
  rw[<-hh4]
  refine WP.call (a8x (by omega) (by unfold Fit; omega) _) ?_
  rintro _ _ ⟨rfl,rfl⟩
  obtain ⟨v,hv⟩:∃v:Nat,frm % (N:Int)=v:=⟨(frm % (N:Int)).toNat,by have:=Int.emod_nonneg frm (show (N:Int)≠0 by omega); omega⟩
  have hvN:v<N:=by have:=Int.emod_lt_of_pos frm (show (0:Int)<N by omega); omega
  rw[hv]
  have hn2:N*D.length<=1000000:=by
   have:N*D.length<=12*200:=Nat.mul_le_mul (by omega) lD
   omega
  have hE:=(g2.ext e3).ext e4 |>.sl
  have hD:=zD.ext e4
  have hA:=zA.ext e4
  have hes2:es.length*D.length<=10000000:=by
   have:es.length*D.length<=40*200:=Nat.mul_le_mul hl lD
   omega
  simp -implicitDefEqProofs (maxSteps:=1000000) (disch:=first|assumption|omega|(simp only[gL]<;>omega)|((repeat (first|exact Ext.refl _|assumption|apply Ext.app|apply Ext.mk|(refine Ext.setr ?_ (by (first|omega|(simp only[gL]<;>omega))) _))); done)|(simp only[gL,gA,rn,rd]<;>omega)|fail) only[gB,setAll,partL,fldV,reduceIte,Nat.reduceAdd,Nat.reduceMul,rn,rd]
  refine WP.call (a9l no co hn2 hE ok hD hA hvN) ?_
  rintro ra h5 ⟨e5,c,lc,g5⟩
  exact WP.ent (b2d (h0:=h5) no co hn2 hes2 ok hvN (hE.ext e5) (hD.ext e5) (hA.ext e5) (e5.get rn) (e5.get rd) lc g5.sl N 0 h5 (by omega) (Ext.refl _)) fun i=>rfl
 ·rw[decide_eq_false hf]
  simp -implicitDefEqProofs (maxSteps:=1000000) (disch:=first|assumption|omega|(simp only[gL]<;>omega)|((repeat (first|exact Ext.refl _|assumption|apply Ext.app|apply Ext.mk|(refine Ext.setr ?_ (by (first|omega|(simp only[gL]<;>omega))) _))); done)|(simp only[gL,gA]<;>omega)|fail) only[gB,setAll,partL,fldV,reduceIte,Nat.reduceAdd,Nat.reduceMul]
  exact WP.ret rfl
end Go.Gm.AQ
namespace Go.Gm
open Go.RowKit
def roObj (cs:List AV):AObj:=.cells ⟨cs,0,0,true⟩
def initH (L:List (List AV × Option Loc)):Heap:=L.map fun p=>roObj p.1
def initR (L:List (List AV × Option Loc)):Ren:=⟨fun o g=>if g=0 then (L[o]?).bind (·.2) else none,fun _=>none⟩
def EntOk (W:World)(φ:Ren)(p:List AV × Option Loc):Prop:=∀l,p.2=some l->∃C e fr,W.heap[l.b]?=some (.cells C e fr)/\C.size=l.N/\l.n=p.1.length/\CellsAt φ p.1 l C
theorem initS {W:World}{L:List (List AV × Option Loc)}(hL:∀p∈L,EntOk W (initR L) p) :
  S W.heap.size W (initR L) (initH L) W:=by
 have got:∀o g l,(initR L).c o g=some l->g=0/\∃cs,L[o]?=some (cs,some l):=fun o g l h=>by
  simp only[initR] at h
  split at h
  ·rename_i hg
   cases hq:L[o]? with
   |none=>rw[hq] at h; cases h
   |some p=>rw[hq] at h; exact ⟨hg,p.1,by rw[<-(show p.2=some l from h)]⟩
  ·cases h
 have ro:∀o g l,(initR L).c o g=some l->isRo (initH L) o=true:=fun o g l h=>by
  obtain ⟨_,cs,hq⟩:=got o g l h
  simp[isRo,initH,hq,roObj]
 refine ⟨⟨fun o g l h=>?_,fun o b h=>(by cases h),fun o g l o' g' l' h h' _=>.inr ⟨ro o g l h,ro o' g' l' h'⟩,fun o b o' b' h=>(by cases h)⟩,Below.refl _ _,Nat.le_refl _⟩
 obtain ⟨hg,cs,hq⟩:=got o g l h
 subst hg
 obtain ⟨C,e,fr,h1,h2,h3,h4⟩:=hL _ (List.mem_of_getElem? hq) l rfl
 exact ⟨⟨cs,0,0,true⟩,by simp[initH,hq,roObj],Nat.le_refl _,Nat.le_refl _,⟨C,e,fr,h1,h2,fun q=>(by cases q),fun _=>h4⟩,fun _=>h3⟩
theorem entry {P:Program}{T:Tab}(hv:Valid P T){W:World}{L:List (List AV × Option Loc)}(hL:∀p∈L,EntOk W (initR L) p){f:FuncId}{args:List AV}{args':List Value}(ha:VRs (initR L) args args'){Q:AV->Heap->Prop}(ht:Tot T f args (initH L) Q)(hq:∀v h,Q v h->v=.bool true) :
  Calls P f args'.toArray W fun e w'=>e=.returned (.bool true)/\Below W.heap.size W w':=by
 obtain ⟨v,h',h1,N,hN⟩:=ht
 have hv1:=hq v h' h1
 subst hv1
 obtain ⟨_,h2⟩:=fnSim (B:=W.heap.size) (w0:=W) hv N f args (initH L) _ _ (hN N (Nat.le_refl N))
 refine (h2 _ W args' ha (initS hL)).mono ?_
 rintro e w' ⟨ψ,v',rfl,k1,k2,k3⟩
 cases k1
 exact ⟨rfl,k2.below⟩
theorem intsArg {W:World}{a:Addr}{len cap:Nat}{zs:List Int}(hl:len<=cap)(hm:cap<=maxLen)(hz:zs.length=cap)(hc:∀i,i<zs.length->W.cell? (a.add i)=some (.int .i64 (zs.getD i 0)))(o:Nat) :
  ∃(p:List AV × Option Loc) (x:AV),(∀φ,EntOk W φ p)/\∀L:List (List AV × Option Loc),L[o]?=some p->VR (initR L) x (.slice (some a) len cap)/\Sl (initH L) 1 x ((zs.take len).map fun n=>[I n]):=by
 by_cases h0:0<zs.length
 ·obtain ⟨b,off,rfl,hcell⟩:=Go.ints_at hc h0
  have h1:=hcell 0 h0
  obtain ⟨C,e,fr,hb,hC⟩:∃C e fr,W.heap[b]?=some (.cells C e fr)/\∀j,j<zs.length->C[off+j]?=some (.int .i64 (zs.getD j 0)):=by
   simp only[World.cell?] at h1
   cases hh:W.heap[b]? with
   |none=>rw[hh] at h1; cases h1
   |some ob=>
    cases ob with
    |cells C e fr=>
     refine ⟨C,e,fr,rfl,fun j hj=>?_⟩
     have:=hcell j hj
     simpa [World.cell?,hh] using this
    |_=>rw[hh] at h1; cases h1
  have hN:off+cap<=C.size:=by
   have:=(Array.getElem?_eq_some_iff.1 (hC (zs.length-1) (by omega))).1
   omega
  refine ⟨(zs.map I,some ⟨b,off,C.size,cap⟩),.sl o 0 len 1 (some cap) 0,fun φ l hl'=>?_,fun L hL=>⟨?_,?_⟩⟩
  ·injection hl' with hl'
   subst hl'
   refine ⟨C,e,fr,hb,rfl,by simp[hz],by simp[hz],hN,fun i hi=>?_⟩
   refine ⟨I (zs.getD i 0),_,?_,hC i (by simpa [hz] using hi),.int _ _,rfl⟩
   simp only at hi
   simp[List.getD_eq_getElem?_getD,hz,hi]
  ·refine VR.sl (l:=⟨b,off,C.size,cap⟩) ?_ (by simp; exact hl) hl hm (by simp; exact hN) (fun c q=>by injection q)
   simp[initR,hL]
  ·refine .inr ⟨o,0,some cap,0,⟨zs.map I,0,0,true⟩,?_,?_,Nat.le_refl _,?_,?_⟩
   ·simp[hz,Nat.min_eq_left hl]
   ·simp[initH,hL,roObj]
   ·simp only[List.drop_zero,List.length_map,Nat.mul_one]
    rw[List.length_take,hz,Nat.min_eq_left hl,<-List.map_take]
    generalize zs.take len=ys
    induction ys with
    |nil=>rfl
    |cons y ys ih=>simp[ih]
   ·intro x hx
    simp only[List.mem_map] at hx
    obtain ⟨n,_,rfl⟩:=hx
    rfl
 ·have hz0:zs=[]:=List.eq_nil_of_length_eq_zero (by omega)
  subst hz0
  simp only[List.length_nil] at hz
  subst hz
  obtain rfl:len=0:=by omega
  refine ⟨([],none),.sl o 0 0 1 (some 0) 0,fun φ l q=>(by cases q),fun L hL=>⟨.sl0 (fun q=>by cases q) (fun c q=>by injection q with q; exact q.symm),?_⟩⟩
  exact .inr ⟨o,0,some 0,0,⟨[],0,0,true⟩,rfl,by simp[initH,hL,roObj],Nat.le_refl _,rfl,fun x hx=>by simp at hx⟩
theorem rowArg {W:World}{a:Option Addr}{len cap:Nat}{zs:List Int}(w:(a=none/\len=0/\cap=0/\zs=[])\/∃x,a=some x/\len<=cap/\cap<=maxLen/\zs.length=cap/\(∀i,i<zs.length->W.cell? (x.add i)=some (.int .i64 (zs.getD i 0)))/\∀n∈zs,(Lit.int .i64 n).wf=true)(o:Nat) :
  ∃(p:List AV × Option Loc) (x:AV),(∀φ,EntOk W φ p)/\∀L:List (List AV × Option Loc),L[o]?=some p->VR (initR L) x (.slice a len cap)/\Sl (initH L) 1 x ((zs.take len).map fun n=>[I n]):=by
 rcases w with ⟨rfl,rfl,rfl,rfl⟩|⟨x,rfl,h1,h2,h3,h4,_⟩
 ·exact ⟨([],none),.nils,fun φ l q=>(by cases q),fun L hL=>⟨.nils,.inl ⟨rfl,rfl⟩⟩⟩
 ·exact intsArg h1 h2 h3 h4 o
end Go.Gm
namespace Go.Gm
structure RawTy (P:Program) (T E I3:TypeId):Prop where
 t:P.underlying T=some (.slice E)
 e:∃f0 f1 f2:Field,P.underlying E=some (.struct #[f0,f1,f2])/\f0.type=I3/\f0.offset=0/\f1.type=I3/\f1.offset=1/\f2.type=T/\f2.offset=2
 i:P.underlying I3=some (.int .i64)
 ce:P.cellsOf E=3
 ci:P.cellsOf I3=1
 ct:P.cellsOf T=1
def Emb (F:List (List AV × Option Loc))(o:Nat)(L:List (List AV × Option Loc)):Prop:=∀(i:Nat) p,F[i]?=some p->L[o+i]?=some p
theorem Emb.head {p:List AV × Option Loc}{F L:List (List AV × Option Loc)}{o:Nat}(e:Emb (p::F) o L):L[o]?=some p:=e 0 p rfl
theorem Emb.tail {p:List AV × Option Loc}{F L:List (List AV × Option Loc)}{o:Nat}(e:Emb (p::F) o L):Emb F (o+1) L:=fun i q h=>by
 have:=e (i+1) q (by simpa using h)
 rwa [show o+(i+1)=o+1+i by omega] at this
theorem Emb.left {F G L:List (List AV × Option Loc)}{o:Nat}(e:Emb (F++G) o L):Emb F o L:=fun i q h=>e i q (by rw[List.getElem?_append_left (List.getElem?_eq_some_iff.1 h).1]; exact h)
theorem Emb.right {F G L:List (List AV × Option Loc)}{o:Nat}(e:Emb (F++G) o L):Emb G (o+F.length) L:=fun i q h=>by
 have:=e (F.length+i) q (by rw[List.getElem?_append_right (by omega),Nat.add_sub_cancel_left]; exact h)
 rwa [show o+(F.length+i)=o+F.length+i by omega] at this
section
variable {H:Type} {enc:TypeId × Value->H} {P:Program} {T E I3:TypeId} {W:World}
def Came (W:World)(a:Option Addr)(len cap:Nat)(o:Nat)(F:List (List AV × Option Loc))(v:AV)(rs:List Rw)(css:List (List AV)):Prop:=
 ∀L,Emb F o L->(∀p∈F,EntOk W (initR L) p)/\VR (initR L) v (.slice a len cap)/\Sl (initH L) 3 v css/\RVs (initH L) rs css
theorem RVs.snoc {h:Heap}{r:Rw}{cs:List AV}(a:RV h r cs):∀{l:List Rw} {css:List (List AV)},RVs h l css->RVs h (l++[r]) (css++[cs])
 |_,_,.nil=>.cons a .nil
 |_,_,.cons x y=>.cons x (RVs.snoc a y)
theorem rawsArg (ty:RawTy P T E I3):∀(fuel:Nat) (cs:List Value) (x:DataW H × List MemPlace),DataW.trod enc P W 0 (fun _=>true) true fuel T cs=some x->
  ∃(a:Option Addr) (len cap:Nat),cs=[.slice a len cap]/\∀o,∃F v rs css,Came W a len cap o F v rs css:=by
 intro fuel
 induction fuel using Nat.strongRecOn with
 |_ fuel ih=>
 intro cs x hx
 rcases DataW.trod_slice ty.t hx with ⟨rfl,_⟩|⟨a,len,cap,elems,rest,n,rfl,rfl,_,_,hl,hm,hel,hE,hR,_⟩
 ·exact ⟨none,0,0,rfl,fun o=>⟨[],.nils,[],[],fun L _=>⟨fun p hp=>by simp at hp,.nils,.inl ⟨rfl,rfl⟩,.nil⟩⟩⟩
 ·refine ⟨some a,len,cap,rfl,fun o=>?_⟩
  obtain ⟨hrl,hR⟩:=hR rfl
  by_cases hc:cap=0
  ·subst hc
   obtain rfl:len=0:=by omega
   refine ⟨[([],none)],.sl o 0 0 3 (some 0) 0,[],[],fun L hL=>⟨fun p hp l q=>?_,.sl0 (fun q=>by cases q) (fun c q=>by injection q with q; exact q.symm),?_,.nil⟩⟩
   ·rw[List.mem_singleton.1 hp] at q; cases q
   ·exact .inr ⟨o,0,some 0,0,⟨[],0,0,true⟩,rfl,by simp[initH,hL.head,roObj],Nat.le_refl _,rfl,fun x hx=>by simp at hx⟩
  ·
   have each:∀i,i<cap->∃c3 y,W.cells? 0 (a.add (i*3)) 3=some c3/\DataW.trod enc P W 0 (fun _=>true) true n E c3=some y:=by
    intro i hi
    by_cases hil:i<len
    ·have h1:=hE i hil
     rw[List.getElem?_eq_getElem (by omega),Option.bind_eq_some_iff,ty.ce] at h1
     obtain ⟨c3,h2,h3⟩:=h1
     exact ⟨c3,_,h2,h3⟩
    ·have h1:=hR (i-len) (by omega)
     rw[List.getElem?_eq_getElem (by omega),Option.bind_eq_some_iff,ty.ce,show len+(i-len)=i by omega] at h1
     obtain ⟨c3,h2,h3⟩:=h1
     exact ⟨c3,_,h2,h3⟩
   obtain ⟨b,off,spot⟩:=a
   have hspot:spot=none:=by
    obtain ⟨c3,y,h1,_⟩:=each 0 (by omega)
    obtain ⟨_,h2,h3⟩:=World.cells?_some h1
    have h4:=h3 0 (by omega)
    rw[List.getElem?_eq_getElem (by omega)] at h4
    have:=World.cell?_spot h4
    simpa [Addr.add] using this
   subst hspot
   have cell:∀i,i<cap->∃(k m:Int) (s:Value) (y:DataW H × List MemPlace) (n':Nat),n'<n+1/\W.cell? ⟨b,off+i*3,none⟩=some (.int .i64 k)/\W.cell? ⟨b,off+i*3+1,none⟩=some (.int .i64 m)/\W.cell? ⟨b,off+i*3+2,none⟩=some s/\
     DataW.trod enc P W 0 (fun _=>true) true n' T [s]=some y:=by
    intro i hi
    obtain ⟨c3,y,h1,h2⟩:=each i hi
    obtain ⟨_,h3,h4⟩:=World.cells?_some h1
    obtain ⟨f0,f1,f2,e0,t0,o0,t1,o1,t2,o2⟩:=ty.e
    obtain ⟨xs,n',rfl,_,_,hxl,hf⟩:=DataW.trod_struct e0 h2
    match c3,h3 with
    |[v0,v1,v2],_=>
    have g0:=hf 0 f0 rfl
    have g1:=hf 1 f1 rfl
    have g2:=hf 2 f2 rfl
    simp only[List.size_toArray,List.length_cons,List.length_nil] at hxl
    rw[t0,o0,ty.ci] at g0
    rw[t1,o1,ty.ci] at g1
    rw[t2,o2,ty.ct] at g2
    simp only[List.drop_zero,List.drop_succ_cons,List.take_succ_cons,List.take_zero] at g0 g1 g2
    rw[List.getElem?_eq_getElem (by omega)] at g0 g1 g2
    obtain ⟨k,q0,_,_⟩:=DataW.trod_int ty.i g0
    obtain ⟨m,q1,_,_⟩:=DataW.trod_int ty.i g1
    have c0:=h4 0 (by omega)
    have c1:=h4 1 (by omega)
    have c2:=h4 2 (by omega)
    rw[Go.WideShapes.add_plain,Go.WideShapes.add_plain] at c0 c1 c2
    simp only[List.cons.injEq,and_true] at q0 q1
    subst q0 q1
    exact ⟨k,m,v2,_,n',by omega,by simpa using c0,by simpa using c1,by simpa using c2,g2⟩
   obtain ⟨C,e,fr,hb⟩:∃C e fr,W.heap[b]?=some (.cells C e fr):=by
    obtain ⟨k,m,s,y,n',_,h1,_⟩:=cell 0 (by omega)
    simp only[World.cell?] at h1
    cases hh:W.heap[b]? with
    |none=>rw[hh] at h1; cases h1
    |some ob=>
     cases ob with
     |cells C e fr=>exact ⟨C,e,fr,rfl⟩
     |_=>rw[hh] at h1; cases h1
   have cellC:∀j v,W.cell? ⟨b,j,none⟩=some v->C[j]?=some v:=fun j v h=>by simpa [World.cell?,hb] using h
   have hN:off+cap*3<=C.size:=by
    obtain ⟨k,m,s,y,n',_,_,_,h1,_⟩:=cell (cap-1) (by omega)
    have:=(Array.getElem?_eq_some_iff.1 (cellC _ _ h1)).1
    omega
   have rec_:∀m,m<=len->∀o',∃(F:List (List AV × Option Loc)) (rs:List Rw) (css:List (List AV)),css.length=m/\(∀c∈css,c.length=3)/\
     ∀L,Emb F o' L->(∀p∈F,EntOk W (initR L) p)/\RVs (initH L) rs css/\∀j,j<m*3->∃x v,css.flatten[j]?=some x/\C[off+j]?=some v/\VR (initR L) x v/\x.one=true:=by
    intro m
    induction m with
    |zero=>intro _ o'; exact ⟨[],[],[],rfl,fun c hc=>by simp at hc,fun L _=>⟨fun p hp=>by simp at hp,.nil,fun j hj=>by omega⟩⟩
    |succ m ihm=>
     intro hml o'
     obtain ⟨F,rs,css,h1,h2,h3⟩:=ihm (by omega) o'
     obtain ⟨k,mm,s,y,n',hn',c0,c1,c2,ht⟩:=cell m (by omega)
     obtain ⟨a',len',cap',es,hin⟩:=ih n' hn' [s] y ht
     obtain ⟨G,v,rs',css',hcame⟩:=hin (o'+F.length)
     simp only[List.cons.injEq,and_true] at es
     subst es
     refine ⟨F++G,rs++[.mk k mm rs'],css++[[I k,I mm,v]],by simp[h1],fun c hc=>?_,fun L hL=>?_⟩
     ·rcases List.mem_append.1 hc with hc|hc
      ·exact h2 c hc
      ·rw[List.mem_singleton.1 hc]; rfl
     ·obtain ⟨k1,k2,k3⟩:=h3 L hL.left
      obtain ⟨k4,k5,k6,k7⟩:=hcame L hL.right
      have hfl:=h4_ h2
      rw[h1] at hfl
      refine ⟨fun p hp=>(List.mem_append.1 hp).elim (k1 p) (k4 p),k2.snoc (.mk k6 k7),fun j hj=>?_⟩
      rw[List.flatten_append]
      by_cases hjm:j<m*3
      ·obtain ⟨x,v',q1,q2⟩:=k3 j hjm
       exact ⟨x,v',by rw[List.getElem?_append_left (by omega)]; exact q1,q2⟩
      ·rw[List.getElem?_append_right (by omega),hfl]
       have hj3:j-m*3=0\/j-m*3=1\/j-m*3=2:=by omega
       rcases hj3 with hj3|hj3|hj3
       ·rw[hj3]
        exact ⟨I k,_,rfl,by rw[show off+j=off+m*3 by omega]; exact cellC _ _ c0,.int _ _,rfl⟩
       ·rw[hj3]
        exact ⟨I mm,_,rfl,by rw[show off+j=off+m*3+1 by omega]; exact cellC _ _ c1,.int _ _,rfl⟩
       ·rw[hj3]
        exact ⟨v,_,rfl,by rw[show off+j=off+m*3+2 by omega]; exact cellC _ _ c2,k5,k6.one⟩
   obtain ⟨F,rs,css,h1,h2,h3⟩:=rec_ len (Nat.le_refl _) (o+1)
   have hfl:=h4_ h2
   rw[h1] at hfl
   refine ⟨(css.flatten,some ⟨b,off,C.size,len*3⟩)::F,.sl o 0 len 3 (some cap) 0,rs,css,fun L hL=>?_⟩
   obtain ⟨k1,k2,k3⟩:=h3 L hL.tail
   have hLo:=hL.head
   refine ⟨fun p hp=>?_,?_,?_,k2⟩
   ·rcases List.mem_cons.1 hp with rfl|hp
    ·intro l hl'
     injection hl' with hl'
     subst hl'
     exact ⟨C,e,fr,hb,rfl,by simp[hfl],by simp[hfl],by simp; omega,fun i hi=>k3 i hi⟩
    ·exact k1 p hp
   ·refine VR.sl (l:=⟨b,off,C.size,len*3⟩) ?_ (by simp) hl hm (by simp; exact hN) (fun c q=>by injection q)
    simp[initR,hLo]
   ·refine .inr ⟨o,0,some cap,0,⟨css.flatten,0,0,true⟩,by rw[h1],by simp[initH,hLo,roObj],Nat.le_refl _,?_,h2⟩
    rw[List.drop_zero,h1]
    exact List.take_of_length_le (by rw[hfl]; exact Nat.le_refl _)
end
end Go.Gm
