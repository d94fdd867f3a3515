/- A part of the proof (GmNy, GmNw, GmAQsh, GmAQKN, GmTx, GmAQkn, GmAQtr, GmAQch, GmAQci, GmAQcj, GmAQck, GmAQba, GmAQbb, GmAQbc, GmAQbd). -/
import Derived.Test.YtldnkafmanalmaaQueryModesP8
set_option linter.unusedVariables false
set_option linter.unusedSimpArgs false
set_option linter.unusedSectionVars false
namespace Go.Gm
def Sv (b:NS):Prop:=∀x∈b.st,x.2.2<32
def SvN (n:Nd):Prop:=∀b,Sv b->Sv (NS.part n b).2
theorem b7c {b:NS}(h:Sv b):Sv b.state.2:=by
 rw[NS.state]; split<;>exact h
theorem b3K:∀(l:List Nd),(∀c∈l,SvN c)->∀b,Sv b->Sv (NS.parts l b).2
 |[],_,b,hb=>by rw[NS.parts]; exact hb
 |n::l,h,b,hb=>by
  rw[NS.parts]
  split
  ·exact hb
  ·exact b3K l (fun c hc=>h c (List.mem_cons_of_mem _ hc)) _ (h n (by simp) b hb)
theorem a9o {n:Nd}(h:SvN n):∀k b,Sv b->Sv (NS.times (NS.part n) k b).2
 |0,b,hb=>by rw[NS.times]; exact hb
 |k+1,b,hb=>by
  rw[NS.times]
  split
  ·exact hb
  ·exact a9o h k _ (h b hb)
theorem a2F {n:Nd}{p:NS->List (Nat × Nat) × NS}(g:n.st<32)(hp:∀b,Sv b->Sv (p b).2)(b:NS)(hb:Sv b):Sv (NS.around n p b).2:=by
 simp only[NS.around]
 split
 ·exact hb
 ·have h1:=b7c (hp _ (b7c hb))
  simp only
  split
  ·exact h1
  ·cases n<;>try exact h1
   rename_i k
   intro x hx
   simp only[NS.lead,NS.step] at hx
   rcases List.mem_append.1 hx with hx|hx
   ·exact h1 x hx
   ·obtain rfl:=List.mem_singleton.1 hx; exact g
theorem st_lt {n:Nd}(g:Gd n):n.st<32:=by
 have:=g.rt
 cases n<;>simp[Nd.st,RtN] at *<;>omega
theorem svn (n:Nd):Gd n->SvN n:=by
 refine Nd.ind (p:=fun n=>Gd n->SvN n) (fun n ih g=>?_) n
 have k:∀c∈n.kids,SvN c:=fun c hc=>ih c hc (g.kid c hc)
 have s:=st_lt g
 cases n with
 |set s=>intro b hb; rw[NS.part]; exact a2F s (fun b hb=>hb) b hb
 |emp=>intro b hb; rw[NS.part]; exact a2F s (fun b hb=>hb) b hb
 |eps=>intro b hb; rw[NS.part]; exact a2F s (fun b hb=>hb) b hb
 |uni l=>intro b hb; rw[NS.part]; exact a2F s (b3K l k) b hb
 |star c=>intro b hb; rw[NS.part]; exact a2F s (a9o (k c (by simp[Nd.kids])) 1) b hb
 |plus c=>intro b hb; rw[NS.part]; exact a2F s (a9o (k c (by simp[Nd.kids])) 1) b hb
 |opt c=>intro b hb; rw[NS.part]; exact a2F s (a9o (k c (by simp[Nd.kids])) 1) b hb
 |rep lo hi c=>intro b hb; rw[NS.part]; exact a2F s (a9o (k c (by simp[Nd.kids])) hi) b hb
 |join l=>
  intro b hb
  rw[NS.part]
  simp only[NS.joined]
  have h1:=b3K l k b hb
  split
  ·exact hb
  ·split
   ·exact h1
   ·exact h1
theorem c5B {n:Nd}(g:Gd n){nf:NF}(h:nfaF n=some nf):nf.n<=1000/\nf.fr.length<=2000/\nf.st.length<=1000/\∀x∈nf.st,x.2.2<32:=by
 simp only[nfaF] at h
 split at h
 ·cases h
 ·injection h with h
  subst h
  have o:=NSok.new.sz (szn n g NS.new).1
  have:=o.n; have:=o.fr; have:=o.st
  exact ⟨by assumption,by simp only; omega,by simp only; omega,svn n g NS.new fun x hx=>by simp[NS.new] at hx⟩
end Go.Gm
namespace Go.Gm
structure Po (b:NS):Prop where
 st:∀x∈b.st,x.1<b.n/\x.2.1<b.n
 fr:∀x∈b.fr,x.1<b.n/\x.2<b.n
def Pf (n:Nat)(l:List (Nat × Nat)):Prop:=∀f∈l,f.1<n/\f.2<n
theorem Po.mono {b:NS}(p:Po b){n:Nat}{m:Bool}(h:b.n<=n):Po ⟨n,m,b.st,b.fr⟩:=
 ⟨fun x hx=>by have:=p.st x hx; simp only; omega,fun x hx=>by have:=p.fr x hx; simp only; omega⟩
theorem Pf.mono {a b:Nat}{l:List (Nat × Nat)}(p:Pf a l)(h:a<=b):Pf b l:=fun f hf=>by have:=p f hf; omega
theorem b7a {b:NS}(p:Po b):Po b.state.2/\b.n<=b.state.2.n/\(b.state.2.much=false->b.state.1<b.state.2.n/\b.much=false):=by
 rw[NS.state]
 split
 ·exact ⟨p.mono (Nat.le_refl _),Nat.le_refl _,fun z=>by cases z⟩
 ·exact ⟨p.mono (Nat.le_succ _),Nat.le_succ _,fun z=>⟨Nat.lt_succ_self _,z⟩⟩
def PoP (g:NS->List (Nat × Nat) × NS):Prop:=∀b,Po b->Po (g b).2/\b.n<=(g b).2.n/\((g b).2.much=false->Pf (g b).2.n (g b).1/\b.much=false)
def PoN (n:Nd):Prop:=∀b,Po b->Po (NS.part n b).2/\b.n<=(NS.part n b).2.n/\((NS.part n b).2.much=false->((NS.part n b).1.1<(NS.part n b).2.n/\(NS.part n b).1.2<(NS.part n b).2.n)/\b.much=false)
theorem b0S:PoP (fun b=>([],b)):=fun b p=>⟨p,Nat.le_refl _,fun z=>⟨fun f hf=>by simp at hf,z⟩⟩
theorem b8l {x:(Nat × Nat) × NS}{y:List (Nat × Nat) × NS}{b:NS}(h:x.2.n<=y.2.n)(h1:x.2.much=false->(x.1.1<x.2.n/\x.1.2<x.2.n)/\b.much=false)(h2:y.2.much=false->Pf y.2.n y.1/\x.2.much=false)(z:y.2.much=false):Pf y.2.n (x.1::y.1)/\b.much=false:=by
 obtain ⟨p,q⟩:=h2 z
 obtain ⟨r,s⟩:=h1 q
 refine ⟨fun f hf=>?_,s⟩
 rcases List.mem_cons.1 hf with rfl|hf
 ·omega
 ·exact p f hf
theorem b3J:∀(l:List Nd),(∀c∈l,PoN c)->PoP (NS.parts l)
 |[],_=>fun b p=>by rw[NS.parts]; exact b0S b p
 |n::l,h=>fun b p=>by
  rw[NS.parts]
  split
  ·rename_i q; exact ⟨p,Nat.le_refl _,fun z=>by rw[q] at z; cases z⟩
  ·obtain ⟨a1,a2,a3⟩:=h n (by simp) b p
   obtain ⟨b1,b2,b3⟩:=b3J l (fun c hc=>h c (List.mem_cons_of_mem _ hc)) _ a1
   exact ⟨b1,Nat.le_trans a2 b2,b8l b2 a3 b3⟩
theorem a9n {n:Nd}(h:PoN n):∀k,PoP (NS.times (NS.part n) k)
 |0=>fun b p=>by rw[NS.times]; exact b0S b p
 |k+1=>fun b p=>by
  rw[NS.times]
  split
  ·rename_i q; exact ⟨p,Nat.le_refl _,fun z=>by rw[q] at z; cases z⟩
  ·obtain ⟨a1,a2,a3⟩:=h b p
   obtain ⟨b1,b2,b3⟩:=a9n h k _ a1
   exact ⟨b1,Nat.le_trans a2 b2,b8l b2 a3 b3⟩
theorem hd_lt {N:Nat}{l:List (Nat × Nat)}(p:Pf N l)(h:0<N):(NS.hd l).1<N/\(NS.hd l).2<N:=by
 cases l with
 |nil=>exact ⟨h,h⟩
 |cons f l=>exact p f (by simp)
theorem b8m {N lo e:Nat}(he:e<N):∀(l:List (Nat × Nat)) (i:Nat),Pf N l->Pf N (NS.repE lo e i l)
 |[],i,_=>fun f hf=>by simp[NS.repE] at hf
 |[x],i,p=>fun f hf=>by
  have:=p x (by simp)
  obtain rfl:=List.mem_singleton.1 hf
  exact ⟨this.2,he⟩
 |x::y::l,i,p=>fun f hf=>by
  have hx:=p x (by simp)
  have hy:=p y (by simp)
  simp only[NS.repE] at hf
  rcases List.mem_append.1 hf with hf|hf
  ·split at hf
   ·obtain rfl:=List.mem_singleton.1 hf; exact ⟨hx.2,he⟩
   ·simp at hf
  ·rcases List.mem_cons.1 hf with rfl|hf
   ·exact ⟨hx.2,hy.1⟩
   ·exact b8m he (y::l) (i+1) (fun g hg=>p g (List.mem_cons_of_mem _ hg)) f hf
theorem b7b {N:Nat}:∀(l:List (Nat × Nat)),Pf N l->Pf N (NS.joinE l)
 |[],_=>fun f hf=>by simp[NS.joinE] at hf
 |[x],_=>fun f hf=>by simp[NS.joinE] at hf
 |x::y::l,p=>fun f hf=>by
  have hx:=p x (by simp)
  have hy:=p y (by simp)
  simp only[NS.joinE] at hf
  rcases List.mem_cons.1 hf with rfl|hf
  ·exact ⟨hx.2,hy.1⟩
  ·exact b7b (y::l) (fun g hg=>p g (List.mem_cons_of_mem _ hg)) f hf
theorem c4n {N s e:Nat}(hs:s<N)(he:e<N)(l:List (Nat × Nat))(p:Pf N l):Pf N (NS.uniE s e l):=fun f hf=>by
 simp only[NS.uniE,List.mem_flatMap] at hf
 obtain ⟨x,hx,hf⟩:=hf
 have:=p x hx
 simp only[List.mem_cons,List.not_mem_nil,or_false] at hf
 rcases hf with rfl|rfl
 ·exact ⟨hs,this.1⟩
 ·exact ⟨this.2,he⟩
theorem Po.frees {b:NS}(p:Po b){l:List (Nat × Nat)}(h:Pf b.n l):Po (b.frees l):=⟨p.st,fun x hx=>by
 rcases List.mem_append.1 hx with hx|hx
 ·exact p.fr x hx
 ·exact h x hx⟩
theorem c4o {b:NS}(p:Po b){s e:Nat}(hs:s<b.n)(he:e<b.n){l:List (Nat × Nat)}(hl:Pf b.n l)(n:Nd):Po (b.lead s e l n):=by
 obtain ⟨h1,h2⟩:=hd_lt hl oM
 have ev:∀{x:List (Nat × Nat)},(∀f∈x,f=(s,(NS.hd l).1)\/f=(s,e)\/f=((NS.hd l).2,(NS.hd l).1)\/f=((NS.hd l).2,e))->Pf b.n x:=fun h f hf=>by
  rcases h f hf with rfl|rfl|rfl|rfl<;>exact ⟨by assumption,by assumption⟩
 cases n with
 |set k=>exact ⟨fun x hx=>by
   rcases List.mem_append.1 hx with hx|hx
   ·exact p.st x hx
   ·obtain rfl:=List.mem_singleton.1 hx; exact ⟨hs,he⟩,p.fr⟩
 |eps=>exact p.frees (ev (by simp))
 |uni _=>exact p.frees (c4n hs he l hl)
 |star _=>exact p.frees (ev (by simp))
 |plus _=>exact p.frees (ev (by simp))
 |opt _=>exact p.frees (ev (by simp))
 |rep lo hi _=>
  refine p.frees fun f hf=>?_
  rcases List.mem_append.1 hf with hf|hf
  ·rcases List.mem_append.1 hf with hf|hf
   ·split at hf
    ·obtain rfl:=List.mem_singleton.1 hf; exact ⟨hs,h1⟩
    ·simp at hf
   ·exact b8m he l 0 hl f hf
  ·split at hf
   ·obtain rfl:=List.mem_singleton.1 hf; exact ⟨hs,he⟩
   ·simp at hf
 |emp=>exact p
 |join _=>exact p
theorem a2E {n:Nd}{g:NS->List (Nat × Nat) × NS}(hp:PoP g)(b:NS)(p:Po b):Po (NS.around n g b).2/\b.n<=(NS.around n g b).2.n/\((NS.around n g b).2.much=false->((NS.around n g b).1.1<(NS.around n g b).2.n/\(NS.around n g b).1.2<(NS.around n g b).2.n)/\b.much=false):=by
 simp only[NS.around]
 split
 ·rename_i q; exact ⟨p,Nat.le_refl _,fun z=>by rw[q] at z; cases z⟩
 ·rename_i hb
  rw[Bool.not_eq_true] at hb
  obtain ⟨a1,a2,a3⟩:=b7a p
  obtain ⟨b1,b2,b3⟩:=hp _ a1
  obtain ⟨c1,c2,c3⟩:=b7a b1
  simp only
  split
  ·rename_i q; exact ⟨c1,oM,fun z=>by rw[q] at z; cases z⟩
  ·rename_i q
   rw[Bool.not_eq_true] at q
   obtain ⟨d1,d2⟩:=c3 q
   obtain ⟨f1,f2⟩:=b3 d2
   obtain ⟨g1,_⟩:=a3 f2
   have hs:b.state.1<(g b.state.2).2.state.2.n:=oM
   have ln:((g b.state.2).2.state.2.lead b.state.1 (g b.state.2).2.state.1 (g b.state.2).1 n).n=(g b.state.2).2.state.2.n:=by cases n<;>rfl
   exact ⟨c4o c1 hs d1 (f1.mono c2) n,by rw[ln]; omega,fun _=>⟨⟨by rw[ln]; exact hs,by rw[ln]; exact d1⟩,hb⟩⟩
theorem po_n (n:Nd):Gd n->PoN n:=by
 refine Nd.ind (p:=fun n=>Gd n->PoN n) (fun n ih g=>?_) n
 have k:∀c∈n.kids,PoN c:=fun c hc=>ih c hc (g.kid c hc)
 cases n with
 |set s=>intro b p; rw[NS.part]; exact a2E b0S b p
 |emp=>intro b p; rw[NS.part]; exact a2E b0S b p
 |eps=>intro b p; rw[NS.part]; exact a2E b0S b p
 |uni l=>intro b p; rw[NS.part]; exact a2E (b3J l k) b p
 |star c=>intro b p; rw[NS.part]; exact a2E (a9n (k c (by simp[Nd.kids])) 1) b p
 |plus c=>intro b p; rw[NS.part]; exact a2E (a9n (k c (by simp[Nd.kids])) 1) b p
 |opt c=>intro b p; rw[NS.part]; exact a2E (a9n (k c (by simp[Nd.kids])) 1) b p
 |rep lo hi c=>intro b p; rw[NS.part]; exact a2E (a9n (k c (by simp[Nd.kids])) hi) b p
 |join l=>
  intro b p
  have hl:2<=l.length:=g.rt
  rw[NS.part]
  simp only[NS.joined]
  obtain ⟨b1,b2,b3⟩:=b3J l k b p
  split
  ·rename_i q; exact ⟨p,Nat.le_refl _,fun z=>by rw[q] at z; cases z⟩
  ·split
   ·rename_i q; exact ⟨b1,b2,fun z=>by rw[q] at z; cases z⟩
   ·rename_i hb q
    rw[Bool.not_eq_true] at q hb
    obtain ⟨f1,f2⟩:=b3 q
    refine ⟨b1.frees (b7b _ f1),b2,fun _=>⟨?_,hb⟩⟩
    have hn:(NS.parts l b).1≠[]:=by
     obtain ⟨x,l',rfl⟩:∃x l',l=x::l':=by
      cases l with
      |nil=>simp at hl
      |cons x l'=>exact ⟨x,l',rfl⟩
     rw[NS.parts,if_neg (by rw[hb]; decide)]
     simp
    obtain ⟨x,l',hx⟩:∃x l',(NS.parts l b).1=x::l':=by
     cases hq:(NS.parts l b).1 with
     |nil=>exact absurd hq hn
     |cons x l'=>exact ⟨x,l',rfl⟩
    have h1:=f1 x (by rw[hx]; simp)
    have h2:(NS.parts l b).1.getLastD (0,0)∈(NS.parts l b).1:=by
     rw[List.getLastD_eq_getLast?,List.getLast?_eq_some_getLast hn]
     exact List.getLast_mem hn
    have h3:=f1 _ h2
    exact ⟨by rw[hx]; exact h1.1,h3.2⟩
theorem c5A {n:Nd}(g:Gd n){nf:NF}(h:nfaF n=some nf):NfOk nf:=by
 simp only[nfaF] at h
 split at h
 ·cases h
 ·rename_i q
  rw[Bool.not_eq_true] at q
  injection h with h
  subst h
  obtain ⟨p1,p2,p3⟩:=po_n n g NS.new ⟨fun x hx=>by simp[NS.new] at hx,fun x hx=>by simp[NS.new] at hx⟩
  obtain ⟨p4,_⟩:=p3 q
  exact ⟨p4.1,p4.2,p1.st,p1.fr⟩
end Go.Gm
namespace Go.Gm.AQ
open Go Go.Gm
def BldQ (o:Option NF)(r:AV)(h':Heap):Prop:=
 match o with
 |none=>r=.tup [.agg [I 0,I 0,I 0,.nils,.nils],I 4]
 |some nf=>∃sS sF:AV,r=.tup [.agg (nfC nf sS sF),I 0]/\NfV h' nf sS sF
theorem b9i {h:Heap}{n:Nd}{c5:List AV}(nv:NV h n c5)(g:Gd n)(bd:Bd n) :
  Tot tab a2u [.agg c5] h fun r h'=>Ext h h'/\BldQ (nfaF n) r h':=by
 refine WP.tot (fun k=>b0e k _ h) ?_
 have hok:=nv
 obtain ⟨s5,rfl,h5⟩:∃s,c5=[I n.kind,I n.st,I n.lo,I n.hi,s]/\s.one=true:=by
  cases nv with
  |mk a b=>exact ⟨_,rfl,a.one⟩
 obtain ⟨h1,hh1⟩:∃h1,h1=((h++[AObj.cells ⟨[I n.kind,I n.st,I n.lo,I n.hi,s5],0,0,false⟩])++[AObj.cells ⟨[I 0,I 0,I 0,.nils,.nils],0,0,false⟩])++[AObj.cells ⟨[I 0,I 0,I 0,.nils,.nils,.bool false],0,0,false⟩]:=⟨_,rfl⟩
 have e1:Ext h h1:=by rw[hh1]; exact eX
 have l1:h1.length=h.length+3:=by rw[hh1]; simp
 have rt:h1[h.length+1]?=some (.cells ⟨[I 0,I 0,I 0,.nils,.nils],0,0,false⟩):=by rw[hh1]; simp
 have rb:h1[h.length+2]?=some (.cells ⟨[I 0,I 0,I 0,.nils,.nils,.bool false],0,0,false⟩):=by rw[hh1]; simp
 have v:BV (fun o=>o=h.length+2) h1 (h.length+2) NS.new:=⟨.nils,.nils,0,0,rb,Gr.nil ..,Gr.nil ..,rfl,fun z=>absurd rfl z,fun z=>absurd rfl z⟩
 refine g1 @h5 ?_
 rw[<-hh1]
 refine WP.call (b9d n g bd h h1 _ _ _ _ hok e1 (fun o ho=>oM) v NSok.new) ?_
 rintro r h2 ⟨rfl,v2,f2⟩
 have l2:=f2.len
 have rt2:h2[h.length+1]?=_:=(f2.get oM oM).trans rt
 have bt:=(List.getElem?_eq_some_iff.1 rt2).1
 obtain ⟨sS,sF,oS,oF,r1,gS,gF,w1,w2,w3⟩:=v2
 have e2:Ext h h2:=f2.ext e1 fun o z1 z2=>oM
 have b2:=(List.getElem?_eq_some_iff.1 r1).1
 have os:=gS.sl.one
 have of':=gF.sl.one
 have key:nfaF n=if (NS.part n NS.new).2.much=true then none else some ⟨(NS.part n NS.new).2.n,(NS.part n NS.new).1.1,(NS.part n NS.new).1.2,(NS.part n NS.new).2.st,(NS.part n NS.new).2.fr⟩:=rfl
 obtain ⟨mu,hmu⟩:∃mu,(NS.part n NS.new).2.much=mu:=⟨_,rfl⟩
 rw[hmu] at r1 key
 obtain ⟨pa,hpa⟩:∃a,(NS.part n NS.new).1.1=a:=⟨_,rfl⟩
 obtain ⟨pb,hpb⟩:∃b,(NS.part n NS.new).1.2=b:=⟨_,rfl⟩
 rw[hpa,hpb] at key ⊢
 cases mu with
 |true=>
  refine g3 @a1_ @r1 @rt2 ?_
  rw[key]
  exact WP.ret ⟨e2.set oM _,rfl⟩
 |false=>
  rw[if_neg (by decide)] at key
  refine g5 @a1_ @r1 @rt2 @os @of' ?_
  have g1:Gr oS (oS+1) (((h2.set (h.length+1+1) (.cells ⟨[I (NS.part n NS.new).2.n,I pa,I 0,sS,sF,.bool false],0,0,false⟩)).set (h.length+1+1) (.cells ⟨[I (NS.part n NS.new).2.n,I pa,I pb,sS,sF,.bool false],0,0,false⟩)).set (h.length+1) (.cells ⟨[I (NS.part n NS.new).2.n,I pa,I pb,sS,sF],0,0,false⟩)) 3 sS ((NS.part n NS.new).2.st.map encS):=by
   refine t6_ (D:=fun o=>o=h.length+1\/o=h.length+2) gS ((((FrS.set1 _ _ _).mono fun q _ z=>?_).trans ((FrS.set1 _ _ _).mono fun q _ z=>?_)).trans ((FrS.set1 _ _ _).mono fun q _ z=>?_)) fun z=>?_
   ·right; omega
   ·right; omega
   ·left; omega
   ·obtain ⟨z1,z2,z3⟩:=w2 z
    rcases z1 with z1|z1
    ·exact absurd z1 z3
    ·omega
  have g2:Gr oF (oF+1) (((h2.set (h.length+1+1) (.cells ⟨[I (NS.part n NS.new).2.n,I pa,I 0,sS,sF,.bool false],0,0,false⟩)).set (h.length+1+1) (.cells ⟨[I (NS.part n NS.new).2.n,I pa,I pb,sS,sF,.bool false],0,0,false⟩)).set (h.length+1) (.cells ⟨[I (NS.part n NS.new).2.n,I pa,I pb,sS,sF],0,0,false⟩)) 2 sF ((NS.part n NS.new).2.fr.map encF):=by
   refine t6_ (D:=fun o=>o=h.length+1\/o=h.length+2) gF ((((FrS.set1 _ _ _).mono fun q _ z=>?_).trans ((FrS.set1 _ _ _).mono fun q _ z=>?_)).trans ((FrS.set1 _ _ _).mono fun q _ z=>?_)) fun z=>?_
   ·right; omega
   ·right; omega
   ·left; omega
   ·obtain ⟨z1,z2,z3,_⟩:=w3 z
    rcases z1 with z1|z1
    ·exact absurd z1 z3
    ·omega
  obtain ⟨n1,n2,n3,n4⟩:=c5B g key
  rw[key]
  exact WP.ret ⟨((e2.set oM _).set oM _).set oM _,sS,sF,rfl,g1.sl,g2.sl,c5A g key,n1,oM,oM,fun x hx=>Nat.lt_of_lt_of_le (n4 x hx) (by decide)⟩
theorem a9i {nf:NF}{D:List (List Int)}{acc:List Bool}(h:subF nf 200=some (D,acc)):DOk D acc:=by
 obtain ⟨sets,si⟩:=b4Q h
 have ld:=si.ld
 have la:=si.la
 have l0:=(List.getElem?_eq_some_iff.1 si.s0).1
 have hl:sets.length<=200:=by rcases si.sl with z|z<;>omega
 have row:∀s:Int,0<=s->s<D.length->∃t,RowOk nf sets t (gi D s) 0 5:=fun s s0 s1=>by
  have hx:sets[s.toNat]?=some (sets[s.toNat]'oM):=List.getElem?_eq_getElem oM
  obtain ⟨r,r1,r2,_⟩:=si.row s.toNat _ oM hx
  have:gi D s=r:=by
   obtain ⟨q1,q2⟩:=List.getElem?_eq_some_iff.1 r1
   rw[show s=((s.toNat:Nat):Int) by omega,b2_ q1]; exact q2
  exact ⟨_,this▸r2⟩
 refine ⟨oM,oM,oM,fun s s0 s1=>?_,fun s m s0 s1 m0 m1=>?_⟩
 ·obtain ⟨t,r⟩:=row s s0 s1; exact r.1
 ·obtain ⟨t,r⟩:=row s s0 s1
  obtain ⟨j,j1,j2⟩:=r.2 m.toNat oM
  have:gi (gi D s) m=j:=by
   obtain ⟨q1,q2⟩:=List.getElem?_eq_some_iff.1 j1
   rw[show m=((m.toNat:Nat):Int) by omega,b2_ q1]; exact q2
  have:=(List.getElem?_eq_some_iff.1 j2).1
  omega
def CmpQ (n:Nd)(lo:Nat)(r:AV)(h':Heap):Prop:=
 match nfaF n with
 |none=>r=.tup [.agg [.nils,.nils],I 4]
 |some nf=>match subF nf 200 with
  |none=>r=.tup [.agg [.nils,.nils],I 5]
  |some (D,acc)=>∃v,r=.tup [v,I 0]/\MinQ D acc lo v h'
theorem MinQ.set {D:List (List Int)}{acc:List Bool}{lo lo' o:Nat}{v:AV}{h:Heap}(q:MinQ D acc lo v h)(ho:o<lo)(hl:lo'<=lo)(x:AObj):MinQ D acc lo' v (h.set o x):=by
 obtain ⟨D',acc',sN,sA,q1,q2,q3,q4⟩:=q
 exact ⟨D',acc',sN,sA,q1,(q2.set (.inl ho) x).mono hl (by simp),(q3.set (.inl ho) x).mono hl (by simp),q4⟩
theorem y9_ {S:ByteArray}{f:Nat}{n:Nd}(hS:S.size<=200)(hf:f<=900000)(hp:prs S f 0 .un 0=some (n,S.size))(g:Gd n)(bd:Bd n)(h:Heap) :
  Tot tab b0_ [.str S] h fun r h'=>Ext h h'/\CmpQ n h.length r h':=by
 refine WP.tot (fun k=>a8P k _ h) ?_
 obtain ⟨h1,hh1⟩:∃h1,h1=h++[AObj.cells ⟨[.nils,.nils],0,0,false⟩]:=⟨_,rfl⟩
 have e1:Ext h h1:=by rw[hh1]; exact Ext.push _ _
 have l1:h1.length=h.length+1:=by rw[hh1]; simp
 have rt:h1[h.length]?=some (.cells ⟨[.nils,.nils],0,0,false⟩):=by rw[hh1]; simp
 refine g0 ?_
 rw[<-hh1]
 refine WP.call (c2a hS hf hp h1) ?_
 rintro r h2 ⟨e2,c5,rfl,nv⟩
 have l2:=e2.len
 have rt2:=e2.get rt
 obtain ⟨s5,rfl,h5⟩:=nv.inv
 obtain ⟨h3,hh3⟩:∃h3,h3=h2++[AObj.cells ⟨[I n.kind,I n.st,I n.lo,I n.hi,s5],0,0,false⟩]:=⟨_,rfl⟩
 have e3:Ext h2 h3:=by rw[hh3]; exact Ext.push _ _
 have l3:h3.length=h2.length+1:=by rw[hh3]; simp
 have rn:h3[h2.length]?=some (.cells ⟨[I n.kind,I n.st,I n.lo,I n.hi,s5],0,0,false⟩):=by rw[hh3]; simp
 have rt3:=e3.get rt2
 have b3:=(List.getElem?_eq_some_iff.1 rt3).1
 refine g3 @a1_ @h5 @c9_ ?_
 rw[<-hh3]
 refine WP.call (b9i (nv.nv.keeps (Keeps.ofExt e3)) g bd) ?_
 rintro r h4 ⟨e4,q4⟩
 have rt4:=e4.get rt3
 have l4:=e4.len
 have b4:=(List.getElem?_eq_some_iff.1 rt4).1
 have e04:=((e1.trans e2).trans e3).trans e4
 have e45:∀x,Ext h4 (h4++[x]):=fun x=>Ext.push _ _
 unfold CmpQ
 cases hnf:nfaF n with
 |none=>
  rw[hnf] at q4
  obtain rfl:=q4
  refine g2 @a1_ @rt4 ?_
  exact WP.ret ⟨(((e04.trans (e45 _)).set oM _).set oM _),rfl⟩
 |some nf=>
  rw[hnf] at q4
  obtain ⟨sS,sF,rfl,v⟩:=q4
  have o1:=v.s.one
  have o2:=v.f.one
  obtain ⟨h5,hh5⟩:∃h5,h5=h4++[AObj.cells ⟨nfC nf sS sF,0,0,false⟩]:=⟨_,rfl⟩
  have e5:Ext h4 h5:=by rw[hh5]; exact Ext.push _ _
  have l5:h5.length=h4.length+1:=by rw[hh5]; simp
  have rt5:=e5.get rt4
  have b5:=(List.getElem?_eq_some_iff.1 rt5).1
  refine g4 @a1_ @o1 @o2 @c9_ ?_
  rw[<-hh5]
  refine WP.call (b6L (v.ext e5)) ?_
  rintro r h6 ⟨e6,q6⟩
  have rt6:=e6.get rt5
  have l6:=e6.len
  have b6:=(List.getElem?_eq_some_iff.1 rt6).1
  have e06:=(e04.trans e5).trans e6
  cases hsb:subF nf 200 with
  |none=>
   rw[hsb] at q6
   obtain rfl:=q6
   refine g2 @a1_ @rt6 ?_
   exact WP.ret ⟨((e06.trans (Ext.push _ _)).set oM _).set oM _,rfl⟩
  |some p=>
   obtain ⟨D,acc⟩:=p
   rw[hsb] at q6
   obtain ⟨sN,sA,rfl,gN,gA⟩:=q6
   have o1:=gN.sl.one
   have o2:=gA.sl.one
   obtain ⟨h7,hh7⟩:∃h7,h7=h6++[AObj.cells ⟨[sN,sA],0,0,false⟩]:=⟨_,rfl⟩
   have e7:Ext h6 h7:=by rw[hh7]; exact Ext.push _ _
   have l7:h7.length=h6.length+1:=by rw[hh7]; simp
   have rt7:=e7.get rt6
   have b7:=(List.getElem?_eq_some_iff.1 rt7).1
   refine g1 @a1_ ?_
   have hw:wrAt 2 (h6++[AObj.cells ⟨[.nils,.nils],0,0,false⟩]) (some (AObj.cells ⟨[.nils,.nils],0,0,false⟩)) h6.length 0 2 0 [sN,sA]=some h7:=by
    refine (g5_ (n:=2) (off:=0) (hi:=2) (vs:=[sN,sA]) rfl rfl oM (by simp[o1,o2])).trans ?_
    rw[c9_ rfl,hh7]
    rfl
   have rd7:h7[h6.length]?=some (.cells ⟨[sN,sA],0,0,false⟩):=by rw[hh7]; simp
   refine g2 @hw @rd7 ?_
   refine WP.call (b5A (a9i hsb) (gN.sl.ext e7) (gA.sl.ext e7)) ?_
   rintro r h8 ⟨e8,q8⟩
   have rt8:=e8.get rt7
   have l8:=e8.len
   have b8:=(List.getElem?_eq_some_iff.1 rt8).1
   obtain ⟨D',acc',sN',sA',rfl,q2⟩:=q8
   have o1:=q2.1.sl.one
   have o2:=q2.2.1.sl.one
   have hw:wrAt 2 h8 (some (AObj.cells ⟨[.nils,.nils],0,0,false⟩)) h.length 0 2 0 [sN',sA']=some (h8.set h.length (.cells ⟨[sN',sA'],0,0,false⟩)):=g5_ (n:=2) (off:=0) (hi:=2) (vs:=[sN',sA']) rfl rfl oM (by simp[o1,o2])
   refine g2 @rt8 @hw ?_
   have mq:MinQ D acc h7.length (.agg [sN',sA']) h8:=⟨D',acc',sN',sA',rfl,q2⟩
   exact WP.ret ⟨((e06.trans e7).trans e8).set oM _,_,rfl,mq.set oM oM _⟩
end Go.Gm.AQ
namespace Go.Gm.AQ
open Go Go.Gm
def kE:List E:=[⟨0,1,0,4⟩]
def kD:List (List Int):=[[0,0,0,0,0]]
theorem kNet:NetOk (2:Nat) kE:=⟨oM,oM,by simp[kE],fun e he=>by simp[kE] at he; subst he; simp⟩
theorem kCo:COk kE:=⟨fun e he=>by simp[kE] at he; subst he; simp⟩
theorem kDok:DOk kD [true]:=by
 refine ⟨by simp[kD],by simp[kD],by simp[kD],fun s s0 s1=>?_,fun s m s0 s1 m0 m1=>?_⟩
 ·simp[kD] at s1
  obtain rfl:s=0:=oM
  rfl
 ·simp[kD] at s1
  obtain rfl:s=0:=oM
  have:m=0\/m=1\/m=2\/m=3\/m=4:=oM
  rcases this with rfl|rfl|rfl|rfl|rfl<;>decide
section
variable {h:Heap} {sE sD sA:AV}
theorem b0p {h:Heap}{o sz:Nat}{v:List AV}(hr:h[o]?=some (.cells ⟨v,0,0,false⟩))(hv:v.length=sz):Sl h sz (.sl o 0 1 sz none 0) [v]:=
 .inr ⟨o,0,none,0,_,rfl,hr,Nat.le_refl _,by simp[List.take_of_length_le (Nat.le_of_eq hv)],by simp[hv]⟩
end
end Go.Gm.AQ
namespace Go.Gm
def sgnB (m:Nat):Nat:=[119,98,99,102,116].getD m 0
def setS (s:Nat):List Nat:=((List.range 5).filter fun m=>s.testBit m).map sgnB
def setT (s:Nat):List Nat:=if s=31 then [46] else if (setS s).length=1 then setS s else 91::(setS s++[93])
def isU:Nd->Bool
 |.uni _=>true
 |_=>false
def isJ:Nd->Bool
 |.join _=>true
 |_=>false
def prn (b:Bool)(t:List Nat):List Nat:=if b then 40::(t++[41]) else t
mutual
def txt:Nd->List Nat
 |.set s=>setT s
 |.emp=>[48]
 |.eps=>[95]
 |.join l=>txtj l
 |.uni l=>txtu l
 |.star n=>prn (isU n || isJ n) (txt n)++[42]
 |.plus n=>prn (isU n || isJ n) (txt n)++[43]
 |.opt n=>prn (isU n || isJ n) (txt n)++[63]
 |.rep a b n=>prn (isU n || isJ n) (txt n)++[123,48+a,44,48+b,125]
def txtj:List Nd->List Nat
 |[]=>[]
 |n::l=>prn (isU n || isJ n) (txt n)++txtj l
def txtu:List Nd->List Nat
 |[]=>[]
 |n::l=>prn (isU n) (txt n)++txtr l
def txtr:List Nd->List Nat
 |[]=>[]
 |n::l=>124::(prn (isU n) (txt n)++txtr l)
end
abbrev pcT (n:Nd):List Nat:=prn (isU n || isJ n) (txt n)
abbrev jnT (n:Nd):List Nat:=prn (isU n) (txt n)
def Sd (S:ByteArray):Nat->List Nat->Prop
 |_,[]=>True
 |p,c::t=>bt S p=some c/\Sd S (p+1) t
theorem a3e {S:ByteArray}:∀{a b:List Nat} {p:Nat},Sd S p (a++b)↔Sd S p a/\Sd S (p+a.length) b
 |[],b,p=>by simp[Sd]
 |c::a,b,p=>by
  simp only[List.cons_append,Sd,a3e (a:=a),List.length_cons]
  rw[show p+1+a.length=p+(a.length+1) by omega,and_assoc]
mutual
def dp:Nd->Nat
 |.join l=>1+dps l
 |.uni l=>1+dps l
 |.star n=>dp n
 |.plus n=>dp n
 |.opt n=>dp n
 |.rep _ _ n=>dp n
 |_=>0
def dps:List Nd->Nat
 |[]=>0
 |n::l=>max (dp n) (dps l)
end
mutual
def cst:Nd->Nat
 |.join l=>20+csts l
 |.uni l=>20+csts l
 |.star n=>10+cst n
 |.plus n=>10+cst n
 |.opt n=>10+cst n
 |.rep _ _ n=>10+cst n
 |_=>50
def csts:List Nd->Nat
 |[]=>0
 |n::l=>20+cst n+csts l
end
def Rd (S:ByteArray)(K d:Nat)(m:PM)(p:Nat)(r:Nd × Nat):Prop:=∀f,K<=f->prs S f d m p=some r
section
variable {S:ByteArray} {K K' d p q:Nat} {n:Nd} {r:Nd × Nat} {l:List Nd}
theorem Rd.le {m:PM}(h:Rd S K d m p r)(hk:K<=K'):Rd S K' d m p r:=fun f hf=>h f oM
theorem o6_ {K f:Nat}(h:K+1<=f):∃g,f=g+1/\K<=g:=⟨f-1,oM,oM⟩
theorem rd_pc (h1:Rd S K d .at p (n,q))(h2:Rd S K' d (.pcl n) q r):Rd S (K+K'+1) d .pc p r:=by
 intro f hf
 obtain ⟨g,rfl,hg⟩:=o6_ hf
 simp only[prs,h1 g oM,h2 g oM]
def noSuf (x:Option Nat):Prop:=x≠some 42/\x≠some 43/\x≠some 63/\x≠some 123
theorem b8t (h:noSuf (bt S p)):Rd S 1 d (.pcl n) p (n,p):=by
 intro f hf
 obtain ⟨g,rfl,hg⟩:=o6_ hf
 simp only[prs]
 cases hb:bt S p with
 |none=>rfl
 |some c=>
  rw[hb] at h
  obtain ⟨h1,h2,h3,h4⟩:=h
  simp only
  rw[if_neg (fun z=>h1 (by rw[z])),if_neg (fun z=>h2 (by rw[z])),if_neg (fun z=>h3 (by rw[z])),if_neg (fun z=>h4 (by rw[z]))]
theorem c4y (hb:bt S p=some 42)(h:Rd S K d (.pcl (.star n)) (p+1) r):Rd S (K+1) d (.pcl n) p r:=by
 intro f hf
 obtain ⟨g,rfl,hg⟩:=o6_ hf
 simp only[prs,hb]
 exact h g hg
theorem c4z (hb:bt S p=some 43)(h:Rd S K d (.pcl (.plus n)) (p+1) r):Rd S (K+1) d (.pcl n) p r:=by
 intro f hf
 obtain ⟨g,rfl,hg⟩:=o6_ hf
 simp only[prs,hb]
 exact h g hg
theorem c5F (hb:bt S p=some 63)(h:Rd S K d (.pcl (.opt n)) (p+1) r):Rd S (K+1) d (.pcl n) p r:=by
 intro f hf
 obtain ⟨g,rfl,hg⟩:=o6_ hf
 simp only[prs,hb]
 exact h g hg
theorem c5G {a b:Nat}(hab:a<=b)(hb9:b<=9)(hs:Sd S p [123,48+a,44,48+b,125])(h:Rd S K d (.pcl (.rep a b n)) (p+5) r):Rd S (K+1) d (.pcl n) p r:=by
 obtain ⟨h0,h1,h2,h3,h4,_⟩:=hs
 intro f hf
 obtain ⟨g,rfl,hg⟩:=o6_ hf
 have ht:tms S (p+1)=some (a,b,p+5):=by
  rw[show p+1+1+1=p+1+2 by omega] at h3
  rw[show p+1+1+1+1=p+1+3 by omega] at h4
  simp only[tms,h1,h3,dig]
  rw[if_pos oM,if_pos oM]
  simp only
  rw[if_pos ⟨h2,h4,oM⟩]
  simp only[Nat.add_sub_cancel_left,Option.some.injEq,Prod.mk.injEq]
 simp only[prs,h0,ht]
 exact h g hg
theorem rd_jn (h1:Rd S K d .pc p (n,q))(h2:Rd S K' d (.jnl [n]) q r):Rd S (K+K'+1) d .jn p r:=by
 intro f hf
 obtain ⟨g,rfl,hg⟩:=o6_ hf
 simp only[prs,h1 g oM,h2 g oM]
def endJ (x:Option Nat):Prop:=x=none\/x=some 124\/x=some 41
def endU (x:Option Nat):Prop:=x=none\/x=some 41
theorem endU.j {x:Option Nat}(h:endU x):endJ x:=h.imp id .inr
theorem endJ.suf {x:Option Nat}(h:endJ x):noSuf x:=by
 rcases h with rfl|rfl|rfl<;>simp[noSuf]
theorem b2E (h:endJ (bt S p)):Rd S 1 d (.jnl l) p (finJ l,p):=by
 intro f hf
 obtain ⟨g,rfl,hg⟩:=o6_ hf
 rcases h with h|h|h<;>simp[prs,h]
theorem c5H {c:Nat}(hb:bt S p=some c)(h1:c≠124)(h2:c≠41)(h3:Rd S K d .pc p (n,q))(h4:Rd S K' d (.jnl (l++[n])) q r):Rd S (K+K'+1) d (.jnl l) p r:=by
 intro f hf
 obtain ⟨g,rfl,hg⟩:=o6_ hf
 simp only[prs,hb,if_neg h1,if_neg h2,h3 g oM,h4 g oM]
theorem rd_un (h1:Rd S K d .jn p (n,q))(h2:Rd S K' d (.unl [n]) q r):Rd S (K+K'+1) d .un p r:=by
 intro f hf
 obtain ⟨g,rfl,hg⟩:=o6_ hf
 simp only[prs,h1 g oM,h2 g oM]
theorem b2F (h:endU (bt S p)):Rd S 1 d (.unl l) p (finU l,p):=by
 intro f hf
 obtain ⟨g,rfl,hg⟩:=o6_ hf
 rcases h with h|h<;>simp[prs,h]
theorem c0U (hb:bt S p=some 124)(h3:Rd S K d .jn (p+1) (n,q))(h4:Rd S K' d (.unl (l++[n])) q r):Rd S (K+K'+1) d (.unl l) p r:=by
 intro f hf
 obtain ⟨g,rfl,hg⟩:=o6_ hf
 simp only[prs,hb,h3 g oM,h4 g oM]
 exact if_pos trivial
theorem c0V (hb:bt S p=some 40)(hd:d<30)(h:Rd S K (d+1) .un (p+1) (n,q))(h2:bt S q=some 41):Rd S (K+1) d .at p (n,q+1):=by
 intro f hf
 obtain ⟨g,rfl,hg⟩:=o6_ hf
 simp only[prs,hb]
 simp only[if_true,if_neg (show ¬30<=d by omega),h g hg,h2]
end
theorem c0W {S:ByteArray}:∀(ms:List Nat) (p s f:Nat),(∀m∈ms,m<5)->Sd S p (ms.map sgnB++[93])->0<s\/ms≠[]->ms.length<f->clsF S f p s=some (ms.foldl (fun s m=>s ||| 2 ^ m) s,p+ms.length+1)
 |[],p,s,f,_,h,h0,hf=>by
  obtain ⟨g,rfl,_⟩:=o6_ hf
  have hs:0<s:=h0.resolve_right (by simp)
  simp only[List.map_nil,List.nil_append,Sd] at h
  simp[clsF,h.1,hs]
 |m::ms,p,s,f,hm,h,h0,hf=>by
  obtain ⟨g,rfl,hg⟩:=o6_ hf
  simp only[List.map_cons,List.cons_append,Sd] at h
  have h5:=hm m (by simp)
  have hmd:md (sgnB m)=some m/\sgnB m≠93:=by
   have:m=0\/m=1\/m=2\/m=3\/m=4:=oM
   rcases this with rfl|rfl|rfl|rfl|rfl<;>decide
  have hpos:0<s ||| 2 ^ m:=by
   have h1:2 ^ m<=s ||| 2 ^ m:=Nat.right_le_or
   have:0<2 ^ m:=Nat.two_pow_pos m
   omega
  rw[clsF,h.1]
  simp only
  rw[if_neg (fun z=>hmd.2 z.1),hmd.1]
  simp only
  rw[c0W ms (p+1) (s ||| 2 ^ m) g (fun x hx=>hm x (List.mem_cons_of_mem _ hx)) h.2 (.inl hpos) (by simp only[List.length_cons] at hf; omega)]
  simp only[List.foldl_cons,List.length_cons,Option.some.injEq,Prod.mk.injEq,true_and]
  omega
def msOf (s:Nat):List Nat:=(List.range 5).filter fun m=>s.testBit m
theorem c4A:∀s:Fin 32,(msOf s.val).foldl (fun (s m:Nat)=>s ||| 2 ^ m) 0=s.val:=by decide
theorem ms_ne:∀s:Fin 32,0<s.val->msOf s≠[]:=by decide
theorem c5I:∀s:Fin 32,(setS s).length=1->∃m,m<5/\setS s=[sgnB m]/\s.val=2 ^ m:=by
 intro s
 have:∀s:Fin 32,(setS s).length=1->∃m:Fin 5,setS s=[sgnB m]/\s.val=2 ^ m.val:=by decide
 intro h
 obtain ⟨m,h1,h2⟩:=this s h
 exact ⟨m,m.2,h1,h2⟩
theorem ms_lt (s:Nat):∀m∈msOf s,m<5:=fun m h=>by
 have:=(List.mem_filter.1 h).1
 simpa using this
theorem c5J (s:Nat):(msOf s).length<=5:=by
 have:=List.length_filter_le (fun m=>s.testBit m) (List.range 5)
 simpa [msOf] using this
theorem c5K {S:ByteArray}{d p s:Nat}(h1:1<=s)(h2:s<=31)(h:Sd S p (setT s)):Rd S 20 d .at p (.set s,p+(setT s).length):=by
 intro f hf
 obtain ⟨g,rfl,hg⟩:=o6_ hf
 rw[setT] at h ⊢
 by_cases q:s=31
 ·rw[if_pos q] at h ⊢
  obtain ⟨hb,_⟩:=h
  simp[prs,hb,md,q]
 ·rw[if_neg q] at h ⊢
  by_cases q2:(setS s).length=1
  ·rw[if_pos q2] at h ⊢
   obtain ⟨m,m5,e1,e2⟩:=c5I ⟨s,oM⟩ q2
   simp only at e1 e2
   rw[e1] at h ⊢
   obtain ⟨hb,_⟩:=h
   have hmd:md (sgnB m)=some m/\sgnB m≠40:=by
    have:m=0\/m=1\/m=2\/m=3\/m=4:=oM
    rcases this with rfl|rfl|rfl|rfl|rfl<;>decide
   simp only[prs,hb]
   rw[if_neg hmd.2,hmd.1,e2]
   rfl
  ·rw[if_neg q2] at h ⊢
   obtain ⟨hb,h⟩:=h
   have hc:=c0W (msOf s) (p+1) 0 g (ms_lt s) h (.inr (ms_ne ⟨s,oM⟩ (by simp only; omega))) (by have:=c5J s; omega)
   rw[show (msOf s).foldl (fun s m=>s ||| 2 ^ m) 0=s from c4A ⟨s,oM⟩] at hc
   simp only[prs,hb]
   rw[if_neg oM,show md 91=none from rfl]
   simp only
   rw[if_neg oM,if_neg oM,if_neg oM,if_pos trivial,hc]
   simp only[List.length_cons,List.length_append,List.length_nil,Option.some.injEq,Prod.mk.injEq,true_and]
   have:(setS s).length=(msOf s).length:=by simp[setS,msOf]
   omega
def okH (c:Nat):Prop:=c≠42/\c≠43/\c≠63/\c≠123/\c≠124/\c≠41
theorem c4B:∀s:Fin 32,∃c t,setT s.val=c::t/\okH c:=by
 have:∀s:Fin 32,(setT s.val).headD 42≠42/\(setT s.val).headD 42≠43/\(setT s.val).headD 42≠63/\(setT s.val).headD 42≠123/\(setT s.val).headD 42≠124/\(setT s.val).headD 42≠41:=by decide
 intro s
 have h:=this s
 cases hs:setT s.val with
 |nil=>rw[hs] at h; exact absurd rfl h.1
 |cons c t=>rw[hs] at h; exact ⟨c,t,rfl,h⟩
theorem a6d {b:Bool}{t:List Nat}(h:∃c u,t=c::u/\okH c):∃c u,prn b t=c::u/\okH c:=by
 cases b with
 |false=>exact h
 |true=>exact ⟨40,t++[41],rfl,by simp[okH]⟩
theorem b0U {t u:List Nat}(h:∃c v,t=c::v/\okH c):∃c v,t++u=c::v/\okH c:=by
 obtain ⟨c,v,rfl,h⟩:=h
 exact ⟨c,v++u,rfl,h⟩
theorem b7i (n:Nd):Gd n->∃c t,txt n=c::t/\okH c:=by
 refine Nd.ind (p:=fun n=>Gd n->∃c t,txt n=c::t/\okH c) (fun n ih g=>?_) n
 cases n with
 |set s=>exact c4B ⟨s,by have:=g.rt.2; omega⟩
 |emp=>exact ⟨48,[],by rw[txt],by simp[okH]⟩
 |eps=>exact ⟨95,[],by rw[txt],by simp[okH]⟩
 |star c=>rw[txt]; exact b0U (a6d (ih c (by simp[Nd.kids]) (g.kid c (by simp[Nd.kids]))))
 |plus c=>rw[txt]; exact b0U (a6d (ih c (by simp[Nd.kids]) (g.kid c (by simp[Nd.kids]))))
 |opt c=>rw[txt]; exact b0U (a6d (ih c (by simp[Nd.kids]) (g.kid c (by simp[Nd.kids]))))
 |rep a b c=>rw[txt]; exact b0U (a6d (ih c (by simp[Nd.kids]) (g.kid c (by simp[Nd.kids]))))
 |join l=>
  cases l with
  |nil=>have:2<=0:=g.rt; omega
  |cons c l=>rw[txt,txtj]; exact b0U (a6d (ih c (by simp[Nd.kids]) (g.kid c (by simp[Nd.kids]))))
 |uni l=>
  cases l with
  |nil=>have:2<=0:=g.rt; omega
  |cons c l=>rw[txt,txtu]; exact b0U (a6d (ih c (by simp[Nd.kids]) (g.kid c (by simp[Nd.kids]))))
section
variable {S:ByteArray}
def PS (S:ByteArray)(n:Nd):Prop:=∀(d p K:Nat) (r:Nd × Nat),d+dp n<=30->Sd S p (pcT n)->Rd S K d (.pcl n) (p+(pcT n).length) r->Rd S (K+cst n+10) d .pc p r
def JS (S:ByteArray)(n:Nd):Prop:=∀(d p:Nat),d+dp n<=30->Sd S p (jnT n)->endJ (bt S (p+(jnT n).length))->Rd S (cst n+15) d .jn p (n,p+(jnT n).length)
def US (S:ByteArray)(n:Nd):Prop:=∀(d p:Nat),d+dp n<=(if (isU n || isJ n)=true then 31 else 30)->Sd S p (txt n)->endU (bt S (p+(txt n).length))->Rd S (cst n+if (isU n || isJ n)=true then 0 else 18) d .un p (n,p+(txt n).length)
theorem PS.one {n:Nd}(h:PS S n){d p:Nat}(hd:d+dp n<=30)(hs:Sd S p (pcT n))(he:noSuf (bt S (p+(pcT n).length))):Rd S (cst n+11) d .pc p (n,p+(pcT n).length):=
 (h d p 1 _ hd hs (b8t he)).le oM
theorem PS.js {n:Nd}(h:PS S n)(hj:isJ n=false):JS S n:=by
 intro d p hd hs he
 have e:jnT n=pcT n:=by simp[jnT,pcT,hj]
 rw[e] at hs he ⊢
 exact (rd_jn (h.one hd hs he.suf) (b2E he)).le oM
theorem JS.us {n:Nd}(h:JS S n)(hu:isU n=false){d p:Nat}(hd:d+dp n<=30)(hs:Sd S p (txt n))(he:endU (bt S (p+(txt n).length))):Rd S (cst n+17) d .un p (n,p+(txt n).length):=by
 have e:jnT n=txt n:=by simp[jnT,prn,hu]
 have h1:=h d p hd (by rw[e]; exact hs) (by rw[e]; exact he.j)
 rw[e] at h1
 exact (rd_un h1 (b2F he)).le oM
theorem c5L {n:Nd}(hb:(isU n || isJ n)=true):1<=dp n:=by
 cases n<;>simp[isU,isJ] at hb<;>rw[dp]<;>omega
theorem US.ps {n:Nd}(h:US S n)(hb:(isU n || isJ n)=true):PS S n:=by
 intro d p K r hd hs hr
 have h1:=c5L hb
 have e:pcT n=40::(txt n++[41]):=by simp only[pcT,prn,hb,if_true]
 rw[e] at hs hr
 obtain ⟨h0,hs⟩:=hs
 obtain ⟨h1,h2⟩:=a3e.1 hs
 obtain ⟨h2,_⟩:=h2
 have hu:=h (d+1) (p+1) (by rw[if_pos hb]; omega) h1 (.inr h2)
 rw[if_pos hb] at hu
 have h3:=c0V h0 oM hu h2
 simp only[List.length_cons,List.length_append,List.length_nil] at hr
 rw[show p+((txt n).length+(0+1)+1)=p+1+(txt n).length+1 by omega] at hr
 exact (rd_pc h3 hr).le oM
theorem c0X:∀(l:List Nd),(∀c∈l,PS S c/\Gd c)->∀(acc:List Nd) (d p:Nat),d+dps l<=30->Sd S p (txtj l)->endJ (bt S (p+(txtj l).length))->Rd S (csts l+1) d (.jnl acc) p (finJ (acc++l),p+(txtj l).length)
 |[],_,acc,d,p,_,_,he=>by
  rw[txtj] at he ⊢
  rw[List.append_nil]
  exact b2E he
 |n::l,hl,acc,d,p,hd,hs,he=>by
  rw[dps] at hd
  rw[txtj] at hs he ⊢
  obtain ⟨h1,h2⟩:=a3e.1 hs
  obtain ⟨hp,hg⟩:=hl n (by simp)
  obtain ⟨c,t,e1,e2⟩:=a6d (b:=isU n || isJ n) (b7i n hg)
  rw[List.length_append,<-Nat.add_assoc] at he ⊢
  have hb:bt S p=some c:=by rw[e1] at h1; exact h1.1
  have hn:noSuf (bt S (p+(prn (isU n || isJ n) (txt n)).length)):=by
   cases l with
   |nil=>
    rw[txtj] at he
    exact he.suf
   |cons m l=>
    obtain ⟨c',t',e3,e4⟩:=a6d (b:=isU m || isJ m) (b7i m (hl m (by simp)).2)
    rw[txtj,e3] at h2
    rw[h2.1]
    simp only[okH] at e4
    simp[noSuf,e4]
  have h3:=hp.one (d:=d) oM h1 hn
  have ec:csts (n::l)=20+cst n+csts l:=by simp[csts]
  have h4:=c0X l (fun c hc=>hl c (List.mem_cons_of_mem _ hc)) (acc++[n]) d (p+(prn (isU n || isJ n) (txt n)).length) oM h2 he
  rw[List.append_assoc,List.singleton_append] at h4
  exact (c5H hb e2.2.2.2.2.1 e2.2.2.2.2.2 h3 h4).le oM
theorem c0Y:∀(l:List Nd),(∀c∈l,JS S c)->∀(acc:List Nd) (d p:Nat),d+dps l<=30->Sd S p (txtr l)->endU (bt S (p+(txtr l).length))->Rd S (csts l+1) d (.unl acc) p (finU (acc++l),p+(txtr l).length)
 |[],_,acc,d,p,_,_,he=>by
  rw[txtr] at he ⊢
  rw[List.append_nil]
  exact b2F he
 |n::l,hl,acc,d,p,hd,hs,he=>by
  rw[dps] at hd
  rw[txtr] at hs he ⊢
  obtain ⟨h0,hs⟩:=hs
  obtain ⟨h1,h2⟩:=a3e.1 hs
  rw[List.length_cons,List.length_append] at he ⊢
  rw[show p+((prn (isU n) (txt n)).length+(txtr l).length+1)=p+1+(prn (isU n) (txt n)).length+(txtr l).length by omega] at he ⊢
  have hn:endJ (bt S (p+1+(prn (isU n) (txt n)).length)):=by
   cases l with
   |nil=>rw[txtr] at he; exact he.j
   |cons m l=>rw[txtr] at h2; exact .inr (.inl h2.1)
  have h3:=hl n (by simp) d (p+1) oM h1 hn
  have ec:csts (n::l)=20+cst n+csts l:=by simp[csts]
  have h4:=c0Y l (fun c hc=>hl c (List.mem_cons_of_mem _ hc)) (acc++[n]) d (p+1+(prn (isU n) (txt n)).length) oM h2 he
  rw[List.append_assoc,List.singleton_append] at h4
  exact (c0U h0 h3 h4).le oM
theorem read (n:Nd):Gd n->PS S n/\JS S n/\US S n:=by
 refine Nd.ind (p:=fun n=>Gd n->PS S n/\JS S n/\US S n) (fun n ih g=>?_) n
 have plain:(isU n || isJ n)=false->PS S n->PS S n/\JS S n/\US S n:=fun hb h=>by
  have hu:isU n=false:=by cases hq:isU n<;>simp_all
  have hj:isJ n=false:=by cases hq:isJ n<;>simp_all
  have h2:=h.js hj
  refine ⟨h,h2,fun d p hd hs he=>?_⟩
  rw[hb] at hd ⊢
  exact (h2.us hu (by simpa using hd) hs he).le (by simp)
 cases n with
 |set s=>
  have e:pcT (.set s)=setT s:=by simp[pcT,prn,isU,isJ,txt]
  refine plain rfl fun d p K r hd hs hr=>?_
  rw[e] at hs hr
  have ec:cst (.set s)=50:=by simp[cst]
  exact (rd_pc (c5K g.rt.1 g.rt.2 hs) hr).le oM
 |emp=>
  have e:pcT .emp=[48]:=by simp[pcT,prn,isU,isJ,txt]
  refine plain rfl fun d p K r hd hs hr=>?_
  rw[e] at hs hr
  have ec:cst .emp=50:=by simp[cst]
  refine (rd_pc (K:=1) (n:=.emp) (q:=p+1) (fun f hf=>?_) hr).le oM
  obtain ⟨g,rfl,hg⟩:=o6_ hf
  simp[prs,hs.1,md]
 |eps=>
  have e:pcT .eps=[95]:=by simp[pcT,prn,isU,isJ,txt]
  refine plain rfl fun d p K r hd hs hr=>?_
  rw[e] at hs hr
  have ec:cst .eps=50:=by simp[cst]
  refine (rd_pc (K:=1) (n:=.eps) (q:=p+1) (fun f hf=>?_) hr).le oM
  obtain ⟨g,rfl,hg⟩:=o6_ hf
  simp[prs,hs.1,md]
 |star c=>
  have e:pcT (.star c)=pcT c++[42]:=by simp[pcT,prn,isU,isJ,txt]
  refine plain rfl fun d p K r hd hs hr=>?_
  rw[e] at hs hr
  obtain ⟨h1,h2⟩:=a3e.1 hs
  rw[List.length_append,<-Nat.add_assoc] at hr
  rw[dp] at hd
  have ec:cst (.star c)=10+cst c:=by simp[cst]
  exact ((ih c (by simp[Nd.kids]) (g.kid c (by simp[Nd.kids]))).1 d p (K+1) r hd h1 (c4y h2.1 hr)).le oM
 |plus c=>
  have e:pcT (.plus c)=pcT c++[43]:=by simp[pcT,prn,isU,isJ,txt]
  refine plain rfl fun d p K r hd hs hr=>?_
  rw[e] at hs hr
  obtain ⟨h1,h2⟩:=a3e.1 hs
  rw[List.length_append,<-Nat.add_assoc] at hr
  rw[dp] at hd
  have ec:cst (.plus c)=10+cst c:=by simp[cst]
  exact ((ih c (by simp[Nd.kids]) (g.kid c (by simp[Nd.kids]))).1 d p (K+1) r hd h1 (c4z h2.1 hr)).le oM
 |opt c=>
  have e:pcT (.opt c)=pcT c++[63]:=by simp[pcT,prn,isU,isJ,txt]
  refine plain rfl fun d p K r hd hs hr=>?_
  rw[e] at hs hr
  obtain ⟨h1,h2⟩:=a3e.1 hs
  rw[List.length_append,<-Nat.add_assoc] at hr
  rw[dp] at hd
  have ec:cst (.opt c)=10+cst c:=by simp[cst]
  exact ((ih c (by simp[Nd.kids]) (g.kid c (by simp[Nd.kids]))).1 d p (K+1) r hd h1 (c5F h2.1 hr)).le oM
 |rep a b c=>
  have e:pcT (.rep a b c)=pcT c++[123,48+a,44,48+b,125]:=by simp[pcT,prn,isU,isJ,txt]
  refine plain rfl fun d p K r hd hs hr=>?_
  rw[e] at hs hr
  obtain ⟨h1,h2⟩:=a3e.1 hs
  rw[List.length_append,<-Nat.add_assoc] at hr
  rw[dp] at hd
  have ec:cst (.rep a b c)=10+cst c:=by simp[cst]
  exact ((ih c (by simp[Nd.kids]) (g.kid c (by simp[Nd.kids]))).1 d p (K+1) r hd h1 (c5G g.rt.1 g.rt.2 h2 hr)).le oM
 |join l=>
  have hk:∀c∈l,PS S c/\Gd c:=fun c hc=>⟨(ih c hc (g.kid c hc)).1,g.kid c hc⟩
  have hl:2<=l.length:=g.rt
  have J:∀d p,d+dps l<=30->Sd S p (txtj l)->endJ (bt S (p+(txtj l).length))->Rd S (csts l) d .jn p (.join l,p+(txtj l).length):=by
   intro d p hd hs he
   match l,hl,hk,hd,hs,he with
   |a::b::r,_,hk,hd,hs,he=>
    rw[dps] at hd
    rw[txtj] at hs he ⊢
    obtain ⟨h1,h2⟩:=a3e.1 hs
    rw[List.length_append,<-Nat.add_assoc] at he ⊢
    obtain ⟨c',t',e3,e4⟩:=a6d (b:=isU b || isJ b) (b7i b (hk b (by simp)).2)
    have hn:noSuf (bt S (p+(prn (isU a || isJ a) (txt a)).length)):=by
     rw[txtj,e3] at h2
     rw[h2.1]
     simp only[okH] at e4
     simp[noSuf,e4]
    have h3:=(hk a (by simp)).1.one (d:=d) oM h1 hn
    have h4:=c0X (b::r) (fun c hc=>hk c (List.mem_cons_of_mem _ hc)) [a] d (p+(prn (isU a || isJ a) (txt a)).length) oM h2 he
    have ec:csts (a::b::r)=20+cst a+csts (b::r):=by simp[csts]
    exact (rd_jn h3 h4).le oM
  have hU:US S (.join l):=by
   intro d p hd hs he
   have hd':d+dp (.join l)<=31:=by simpa [isU,isJ] using hd
   rw[dp] at hd'
   rw[txt] at hs he ⊢
   have ec:cst (.join l)=20+csts l:=by simp[cst]
   rw[if_pos (show (isU (.join l) || isJ (.join l))=true from rfl)]
   exact (rd_un (J d p oM hs he.j) (b2F he)).le oM
  refine ⟨hU.ps rfl,fun d p hd hs he=>?_,hU⟩
  have e:jnT (.join l)=txtj l:=by simp[jnT,prn,isU,txt]
  rw[e] at hs he ⊢
  rw[dp] at hd
  have ec:cst (.join l)=20+csts l:=by simp[cst]
  exact (J d p oM hs he).le oM
 |uni l=>
  have hk:∀c∈l,JS S c:=fun c hc=>(ih c hc (g.kid c hc)).2.1
  have hl:2<=l.length:=g.rt
  have hU:US S (.uni l):=by
   intro d p hd hs he
   have hd':d+dp (.uni l)<=31:=by simpa [isU,isJ] using hd
   rw[dp] at hd'
   rw[txt] at hs he ⊢
   rw[if_pos (show (isU (.uni l) || isJ (.uni l))=true from rfl)]
   have ec:cst (.uni l)=20+csts l:=by simp[cst]
   rw[ec]
   clear ec
   match l,hl,hk,hd',hs,he with
   |a::b::r,_,hk,hd,hs,he=>
    rw[dps] at hd
    rw[txtu] at hs he ⊢
    obtain ⟨h1,h2⟩:=a3e.1 hs
    rw[List.length_append,<-Nat.add_assoc] at he ⊢
    have hn:endJ (bt S (p+(prn (isU a) (txt a)).length)):=by
     rw[txtr] at h2; exact .inr (.inl h2.1)
    have h3:=hk a (by simp) d p oM h1 hn
    have h4:=c0Y (b::r) (fun c hc=>hk c (List.mem_cons_of_mem _ hc)) [a] d (p+(prn (isU a) (txt a)).length) oM h2 he
    have ec:csts (a::b::r)=20+cst a+csts (b::r):=by simp[csts]
    exact (rd_un h3 h4).le oM
  exact ⟨hU.ps rfl,(hU.ps rfl).js rfl,hU⟩
end
def ofL (l:List Nat):ByteArray:=⟨(l.map UInt8.ofNat).toArray⟩
theorem q7_ (l:List Nat):(ofL l).size=l.length:=by
 show (l.map UInt8.ofNat).toArray.size=_
 simp
theorem b7j {l:List Nat}(h:∀c∈l,c<256)(p:Nat):bt (ofL l) p=l[p]?:=by
 simp only[bt]
 by_cases hp:p<l.length
 ·have hp':p<(ofL l).size:=by rw[q7_]; exact hp
  rw[getElem?_pos (ofL l) p hp',List.getElem?_eq_getElem hp]
  have:(ofL l)[p]=UInt8.ofNat l[p]:=by
   show (l.map UInt8.ofNat).toArray[p]'(by simpa using hp)=_
   simp
  rw[this]
  simp only[Option.map_some,Option.some.injEq]
  have:=h l[p] (List.getElem_mem hp)
  simp[UInt8.toNat_ofNat',Nat.mod_eq_of_lt this]
 ·rw[List.getElem?_eq_none oM,getElem?_neg (ofL l) p (by rw[q7_]; exact hp)]
  rfl
theorem b7k {l:List Nat}(h:∀c∈l,c<256):∀(t:List Nat) (p:Nat),l.drop p=t->Sd (ofL l) p t
 |[],p,_=>trivial
 |c::t,p,e=>by
  have h1:l[p]?=some c:=by
   have:=congrArg List.head? e
   simpa [List.head?_drop] using this
  refine ⟨by rw[b7j h]; exact h1,b7k h t (p+1) ?_⟩
  rw[<-List.drop_drop,e]; rfl
theorem b4l {b:Bool}{t:List Nat}(h:∀c∈t,c<256):∀c∈prn b t,c<256:=by
 cases b with
 |false=>exact h
 |true=>
  intro c hc
  simp only[prn,if_true,List.mem_cons,List.mem_append,List.not_mem_nil,or_false] at hc
  rcases hc with rfl|hc|rfl
  ·omega
  ·exact h c hc
  ·omega
theorem c4C:∀s:Fin 32,∀c∈setT s,c<256:=by decide
theorem b8u:∀(l:List Nd),(∀c∈l,∀b∈txt c,b<256)->∀b∈txtj l,b<256
 |[],_,b,hb=>by rw[txtj] at hb; cases hb
 |n::l,h,b,hb=>by
  rw[txtj,List.mem_append] at hb
  rcases hb with hb|hb
  ·exact b4l (h n (by simp)) b hb
  ·exact b8u l (fun c hc=>h c (List.mem_cons_of_mem _ hc)) b hb
theorem b8v:∀(l:List Nd),(∀c∈l,∀b∈txt c,b<256)->∀b∈txtr l,b<256
 |[],_,b,hb=>by rw[txtr] at hb; cases hb
 |n::l,h,b,hb=>by
  rw[txtr,List.mem_cons,List.mem_append] at hb
  rcases hb with rfl|hb|hb
  ·omega
  ·exact b4l (h n (by simp)) b hb
  ·exact b8v l (fun c hc=>h c (List.mem_cons_of_mem _ hc)) b hb
theorem b7l (n:Nd):Gd n->∀b∈txt n,b<256:=by
 refine Nd.ind (p:=fun n=>Gd n->∀b∈txt n,b<256) (fun n ih g b hb=>?_) n
 have one:∀{c:Nd} {t:List Nat},c∈n.kids->(∀x∈t,x<256)->b∈prn (isU c || isJ c) (txt c)++t->b<256:=fun {c t} hc ht hb=>by
  rcases List.mem_append.1 hb with hb|hb
  ·exact b4l (ih c hc (g.kid c hc)) b hb
  ·exact ht b hb
 cases n with
 |set s=>rw[txt] at hb; exact c4C ⟨s,by have:=g.rt.2; omega⟩ b hb
 |emp=>rw[txt] at hb; simp at hb; omega
 |eps=>rw[txt] at hb; simp at hb; omega
 |star c=>rw[txt] at hb; exact one (by simp[Nd.kids]) (by simp) hb
 |plus c=>rw[txt] at hb; exact one (by simp[Nd.kids]) (by simp) hb
 |opt c=>rw[txt] at hb; exact one (by simp[Nd.kids]) (by simp) hb
 |rep x y c=>
  rw[txt] at hb
  obtain ⟨h1,h2⟩:x<=y/\y<=9:=g.rt
  refine one (by simp[Nd.kids]) (fun z hz=>?_) hb
  simp only[List.mem_cons,List.not_mem_nil,or_false] at hz
  omega
 |join l=>rw[txt] at hb; exact b8u l (fun c hc=>ih c hc (g.kid c hc)) b hb
 |uni l=>
  rw[txt] at hb
  cases l with
  |nil=>rw[txtu] at hb; cases hb
  |cons a l=>
   rw[txtu,List.mem_append] at hb
   rcases hb with hb|hb
   ·exact b4l (ih a (by simp[Nd.kids]) (g.kid a (by simp[Nd.kids]))) b hb
   ·exact b8v l (fun c hc=>ih c (by simp[Nd.kids,hc]) (g.kid c (by simp[Nd.kids,hc]))) b hb
theorem a6T {n:Nd}(g:Gd n)(hd:dp n<=30):prs (ofL (txt n)) (cst n+18) 0 .un 0=some (n,(ofL (txt n)).size):=by
 have h1:=b7l n g
 have h2:=(read (S:=ofL (txt n)) n g).2.2 0 0 (by split<;>omega) (b7k h1 _ 0 rfl) (.inl (by rw[b7j h1,Nat.zero_add]; simp)) (cst n+18) (by split<;>omega)
 rw[h2,q7_,Nat.zero_add]
end Go.Gm
namespace Go.Gm.AQ
open Go Go.Gm
theorem b1r {es:List E}{v:Int}{l:List Nat}{e:Nat}(h:OkW es v (l++[e])):OkW es v l/\e<es.length/\(eg es e).fr=atV es v l:=by
 refine ⟨fun i a hi=>?_,?_⟩
 ·have hl:=(List.getElem?_eq_some_iff.1 hi).1
  have:=h i a (by rw[List.getElem?_append_left hl]; exact hi)
  rw[List.take_append_of_le_length oM] at this
  exact this
 ·have:=h l.length e (by simp)
  rw[List.take_append_of_le_length (Nat.le_refl _),List.take_length] at this
  exact this
mutual
def gdB:Nd->Bool
 |.set s=>decide (1<=s/\s<=31)
 |.emp=>true
 |.eps=>true
 |.join l=>decide (2<=l.length/\l.length<=1000) && gdBs l
 |.uni l=>decide (2<=l.length/\l.length<=1000) && gdBs l
 |.star n=>gdB n
 |.plus n=>gdB n
 |.opt n=>gdB n
 |.rep a b n=>decide (a<=b/\b<=9) && gdB n
def gdBs:List Nd->Bool
 |[]=>true
 |n::l=>gdB n && gdBs l
end
theorem b3t:∀{l:List Nd},gdBs l=true->∀c∈l,gdB c=true
 |[],_,c,hc=>by simp at hc
 |n::l,h,c,hc=>by
  simp only[gdBs,Bool.and_eq_true] at h
  rcases List.mem_cons.1 hc with rfl|hc
  ·exact h.1
  ·exact b3t h.2 c hc
theorem c5c {n:Nd}(g:Gd n)(h:n.kids.length<=1000)(hk:∀c∈n.kids,Bd c):Bd n:=.mk (Nat.lt_trans (st_lt g) (by decide)) h hk
theorem b2c (n:Nd):gdB n=true->Gd n/\Bd n:=by
 refine Nd.ind (p:=fun n=>gdB n=true->Gd n/\Bd n) (fun n ih h=>?_) n
 have key:RtN n->n.kids.length<=1000->(∀c∈n.kids,gdB c=true)->Gd n/\Bd n:=fun h1 h2 h3=>by
  have g:Gd n:=.mk h1 fun c hc=>(ih c hc (h3 c hc)).1
  exact ⟨g,c5c g h2 fun c hc=>(ih c hc (h3 c hc)).2⟩
 cases n with
 |set s=>simp only[gdB,decide_eq_true_eq] at h; exact key h (by simp[Nd.kids]) (by simp[Nd.kids])
 |emp=>exact key trivial (by simp[Nd.kids]) (by simp[Nd.kids])
 |eps=>exact key trivial (by simp[Nd.kids]) (by simp[Nd.kids])
 |join l=>simp only[gdB,Bool.and_eq_true,decide_eq_true_eq] at h; exact key h.1.1 h.1.2 (b3t h.2)
 |uni l=>simp only[gdB,Bool.and_eq_true,decide_eq_true_eq] at h; exact key h.1.1 h.1.2 (b3t h.2)
 |star c=>rw[gdB] at h; exact key trivial (by simp[Nd.kids]) (by simpa [Nd.kids] using h)
 |plus c=>rw[gdB] at h; exact key trivial (by simp[Nd.kids]) (by simpa [Nd.kids] using h)
 |opt c=>rw[gdB] at h; exact key trivial (by simp[Nd.kids]) (by simpa [Nd.kids] using h)
 |rep a b c=>simp only[gdB,Bool.and_eq_true,decide_eq_true_eq] at h; exact key h.1 (by simp[Nd.kids]) (by simpa [Nd.kids] using h.2)
structure Kn where
 n:Nd
 u:Nat
 b:Int
 l:List Nat
 p:List Int
 deriving Inhabited
end Go.Gm.AQ
namespace Go.Gm.AQ
open Go Go.Gm
theorem a3f (es:List E)(v:Int)(l l':List Nat):atV es v (l++l')=atV es (atV es v l) l':=by simp[atV]
theorem a0e (es:List E)(l l':List Nat):atC es (l++l')=atC es l+atC es l':=by
 have:∀(l':List Nat) (c:Int),l'.foldl (fun c e=>c+(eg es e).co) c=c+l'.foldl (fun c e=>c+(eg es e).co) 0:=by
  intro l'
  induction l' with
  |nil=>intro c; simp
  |cons a l' ih=>intro c; rw[List.foldl_cons,List.foldl_cons,ih,ih (0+_)]; omega
 rw[atC,List.foldl_append,this]; rfl
theorem b0M {es:List E}{v:Int}{l l':List Nat}(h:OkW es v l)(h':OkW es (atV es v l) l'):OkW es v (l++l'):=by
 intro i e hi
 by_cases q:i<l.length
 ·rw[List.getElem?_append_left q] at hi
  rw[List.take_append_of_le_length oM]
  exact h i e hi
 ·rw[List.getElem?_append_right oM] at hi
  have:=h' _ e hi
  rw[List.take_append,List.take_of_length_le oM,a3f]
  exact this
structure Tn where
 n:Nd
 r:List (Nat × Nat)
 deriving Inhabited
end Go.Gm.AQ
namespace Go.Gm.AQ
open Go Go.Gm
theorem OkW.cons {es:List E}{v:Int}{e:Nat}{l:List Nat}(h1:e<es.length)(h2:(eg es e).fr=v)(h:OkW es (eg es e).to l):OkW es v (e::l):=by
 have h3:OkW es v [e]:=by
  intro i e' hi
  cases i with
  |zero=>simp at hi; subst hi; exact ⟨h1,h2⟩
  |succ i=>simp at hi
 exact b0M (l:=[e]) h3 h
theorem OkW.uncons {es:List E}{v:Int}{e:Nat}{l:List Nat}(h:OkW es v (e::l)):e<es.length/\(eg es e).fr=v/\OkW es (eg es e).to l:=by
 have h0:=h 0 e rfl
 refine ⟨h0.1,h0.2,fun i e' hi=>?_⟩
 exact h (i+1) e' hi
theorem c3j {es:List E}(co:COk es){l:List Nat}(h:∀e∈l,e<es.length):0<=atC es l:=(a8v co l h 0).1
inductive Sg (es:List E) (G:Int->Prop) (m:Int):Int->Int->List Nat->Prop
 |one {u w:Int} {e:Nat}:e<es.length->(eg es e).md=m->(eg es e).fr=u->(eg es e).to=w->Sg es G m u w [e]
 |cons {u z w:Int} {e:Nat} {l:List Nat}:e<es.length->(eg es e).md=m->(eg es e).fr=u->(eg es e).to=z->G z->Sg es G m z w l->Sg es G m u w (e::l)
section
variable {es:List E} {G G':Int->Prop} {m u w z v:Int} {l l':List Nat}
theorem Sg.ok (h:Sg es G m u w l):OkW es u l/\atV es u l=w/\l≠[]:=by
 induction h with
 |one h1 h2 h3 h4=>exact ⟨.cons h1 h3 (fun i e hi=>by simp at hi),h4,by simp⟩
 |cons h1 h2 h3 h4 h5 h6 ih=>
  obtain ⟨i1,i2,i3⟩:=ih
  subst h4
  exact ⟨.cons h1 h3 i1,i2,by simp⟩
theorem Sg.cost (co:COk es)(h:Sg es G m u w l):0<=atC es l:=c3j co h.ok.1.mem
theorem Sg.mono (h:Sg es G m u w l)(hg:∀x,G x->G' x):Sg es G' m u w l:=by
 induction h with
 |one h1 h2 h3 h4=>exact .one h1 h2 h3 h4
 |cons h1 h2 h3 h4 h5 h6 ih=>exact .cons h1 h2 h3 h4 (hg _ h5) ih
theorem Sg.app (h:Sg es G m u z l)(hz:G z)(h':Sg es G m z w l'):Sg es G m u w (l++l'):=by
 induction h with
 |one h1 h2 h3 h4=>exact .cons h1 h2 h3 h4 hz h'
 |cons h1 h2 h3 h4 h5 h6 ih=>exact .cons h1 h2 h3 h4 h5 (ih hz h')
theorem Sg.split (h:Sg es (fun x=>G x\/x=v) m u w l):Sg es G m u w l\/∃l1 l2,l=l1++l2/\Sg es G m u v l1/\Sg es (fun x=>G x\/x=v) m v w l2:=by
 induction h with
 |one h1 h2 h3 h4=>exact .inl (.one h1 h2 h3 h4)
 |@cons u z w e l h1 h2 h3 h4 h5 h6 ih=>
  by_cases q:z=v
  ·subst q
   exact .inr ⟨[e],l,rfl,.one h1 h2 h3 h4,h6⟩
  ·have hg:=h5.resolve_right q
   rcases ih with i|⟨l1,l2,rfl,i2,i3⟩
   ·exact .inl (.cons h1 h2 h3 h4 hg i)
   ·exact .inr ⟨e::l1,l2,rfl,.cons h1 h2 h3 h4 hg i2,i3⟩
theorem Sg.last (co:COk es):∀(n:Nat) {l:List Nat},l.length<=n->Sg es (fun x=>G x\/x=v) m v w l->∃l',Sg es G m v w l'/\atC es l'<=atC es l
 |0,l,hn,h=>absurd (List.length_eq_zero_iff.1 oM) h.ok.2.2
 |n+1,l,hn,h=>by
  rcases h.split with i|⟨l1,l2,rfl,i2,i3⟩
  ·exact ⟨l,i,Int.le_refl _⟩
  ·have:l1.length≠0:=fun q=>i2.ok.2.2 (List.length_eq_zero_iff.1 q)
   rw[List.length_append] at hn
   obtain ⟨l',k1,k2⟩:=Sg.last co n oM i3
   have:=i2.cost co
   exact ⟨l',k1,by rw[a0e]; omega⟩
theorem Sg.first (co:COk es)(h:Sg es (fun x=>G x\/x=v) m u v l):∃l',Sg es G m u v l'/\atC es l'<=atC es l:=by
 rcases h.split with i|⟨l1,l2,rfl,i2,i3⟩
 ·exact ⟨l,i,Int.le_refl _⟩
 ·have:=i3.cost co
  exact ⟨l1,i2,by rw[a0e]; omega⟩
def ivs (es:List E)(l:List Nat):List Int:=l.dropLast.map fun e=>(eg es e).to
theorem a8K {e:Nat}(hl:l≠[]):ivs es (e::l)=(eg es e).to::ivs es l:=by
 obtain ⟨a,l',rfl⟩:=List.exists_cons_of_ne_nil hl
 rfl
theorem c3k (h:Sg es G m u z l)(h':l'≠[]):ivs es (l++l')=ivs es l++z::ivs es l':=by
 induction h with
 |one h1 h2 h3 h4=>
  rw[List.singleton_append,a8K h',h4]; rfl
 |cons h1 h2 h3 h4 h5 h6 ih=>
  rw[List.cons_append,a8K (by simp[h']),ih,a8K h6.ok.2.2]; rfl
theorem Sg.inner (h:Sg es G m u w l):∀x∈ivs es l,G x:=by
 induction h with
 |one h1 h2 h3 h4=>intro x hx; cases hx
 |cons h1 h2 h3 h4 h5 h6 ih=>
  intro x hx
  rw[a8K h6.ok.2.2] at hx
  rcases List.mem_cons.1 hx with rfl|hx
  ·rw[h4]; exact h5
  ·exact ih x hx
theorem Sg.at (h:Sg es G m u w l)(hz:z∈ivs es l):∃p q,l=p++q/\Sg es G m u z p/\Sg es G m z w q:=by
 induction h with
 |one h1 h2 h3 h4=>cases hz
 |@cons u y w e l h1 h2 h3 h4 h5 h6 ih=>
  rw[a8K h6.ok.2.2] at hz
  rcases List.mem_cons.1 hz with rfl|hz
  ·rw[h4]
   exact ⟨[e],l,rfl,.one h1 h2 h3 h4,h6⟩
  ·obtain ⟨p,q,rfl,k1,k2⟩:=ih hz
   exact ⟨e::p,q,rfl,.cons h1 h2 h3 h4 h5 k1,k2⟩
theorem b6c:∀(n:Nat) (l:List Int),l.Nodup->(∀x∈l,0<=x/\x<n)->l.length<=n
 |0,l,_,h=>by
  cases l with
  |nil=>simp
  |cons a l=>have:=h a (by simp); omega
 |n+1,l,hn,h=>by
  have h1:=b6c n (l.erase (n:Int)) (hn.erase _) (fun x hx=>by
   rw[hn.mem_erase_iff] at hx
   have:=h x hx.2
   have:=hx.1
   omega)
  have h2:l.length<=(l.erase (n:Int)).length+1:=by
   rw[List.length_erase]
   split<;>omega
  omega
end
def Stdy (D:List (List Int)):Prop:=∀s m:Int,0<=s->s<D.length->0<=m->m<5->nx D (nx D s m) m=nx D s m
theorem Sg.md {N:Nat}{es:List E}{G:Int->Prop}{m u w:Int}{l:List Nat}(no:NetOk N es)(h:Sg es G m u w l):0<=m/\m<5:=by
 cases h with
 |one h1 h2 h3 h4=>
  have:=no.edge _ (b7_ (xs:=es) (i:=((_:Nat):Int)) oM (Int.ofNat_lt.2 h1))
  subst h2
  exact ⟨this.2.2.2.2.1,this.2.2.2.2.2⟩
 |cons h1 h2 h3 h4 h5 h6=>
  have:=no.edge _ (b7_ (xs:=es) (i:=((_:Nat):Int)) oM (Int.ofNat_lt.2 h1))
  subst h2
  exact ⟨this.2.2.2.2.1,this.2.2.2.2.2⟩
theorem Sg.st {N:Nat}{es:List E}{D:List (List Int)}{acc:List Bool}{G:Int->Prop}{m u w:Int}{l:List Nat}(no:NetOk N es)(ok:DOk D acc)(sd:Stdy D)(h:Sg es G m u w l):∀s:Int,0<=s->s<D.length->atS es D s l=nx D s m:=by
 induction h with
 |one h1 h2 h3 h4=>intro s _ _; show nx D s _=_; rw[h2]
 |@cons u y w e l h1 h2 h3 h4 h5 h6 ih=>
  intro s s0 s1
  have hm:=h6.md no
  have:=ok.to s m s0 s1 hm.1 hm.2
  show atS es D (nx D s (eg es e).md) l=_
  rw[h2,ih _ this.1 this.2,sd s m s0 s1 hm.1 hm.2]
def OneM (es:List E)(v:Int):Prop:=∀e e':Nat,e<es.length->e'<es.length->((eg es e).fr=v\/(eg es e).to=v)->((eg es e').fr=v\/(eg es e').to=v)->(eg es e).md=(eg es e').md
theorem Sg.hd {es:List E}{G:Int->Prop}{m u w:Int}{l:List Nat}(h:Sg es G m u w l):∃e,e<es.length/\(eg es e).fr=u/\(eg es e).md=m:=by
 cases h with
 |one h1 h2 h3 h4=>exact ⟨_,h1,h3,h2⟩
 |cons h1 h2 h3 h4 h5 h6=>exact ⟨_,h1,h3,h2⟩
theorem splitA {es:List E}{G:Int->Prop}(om:∀x,G x->OneM es x):∀{l:List Nat} {x:Int},OkW es x l->l≠[]->(∃m,Sg es G m x (atV es x l) l)\/∃m z l1 l2,l=l1++l2/\Sg es G m x z l1/\¬G z/\OkW es z l2
 |[],x,_,h=>absurd rfl h
 |e::l,x,h,_=>by
  obtain ⟨h1,h2,h3⟩:=h.uncons
  by_cases q:l=[]
  ·subst q
   exact .inl ⟨_,.one h1 rfl h2 rfl⟩
  ·by_cases g:G (eg es e).to
   ·have key:∀{m z:Int} {l1:List Nat},Sg es G m (eg es e).to z l1->Sg es G m x z (e::l1):=by
     intro m z l1 hs
     obtain ⟨e',k1,k2,k3⟩:=hs.hd
     exact .cons h1 ((om _ g e e' h1 k1 (.inr rfl) (.inl k2)).trans k3) h2 rfl g hs
    rcases splitA om h3 q with ⟨m,i⟩|⟨m,z,l1,l2,rfl,i2,i3,i4⟩
    ·exact .inl ⟨m,key i⟩
    ·exact .inr ⟨m,z,e::l1,l2,rfl,key i2,i3,i4⟩
   ·exact .inr ⟨_,_,[e],l,rfl,.one h1 rfl h2 rfl,g,h3⟩
theorem splitZ {es:List E}{G:Int->Prop}(om:∀x,G x->OneM es x):∀(n:Nat) {l:List Nat} {x:Int},l.length<=n->OkW es x l->¬G x->G (atV es x l)->∃m z l1 l2,l=l1++l2/\OkW es x l1/\atV es x l1=z/\¬G z/\Sg es G m z (atV es x l) l2
 |n,[],x,_,_,h1,h2=>absurd h2 h1
 |0,e::l,x,hn,_,_,_=>absurd hn (by simp)
 |n+1,e::l,x,hn,h,hx,hy=>by
  rcases splitA om h (by simp) with ⟨m,i⟩|⟨m,z,l1,l2,he,i2,i3,i4⟩
  ·exact ⟨m,x,[],e::l,rfl,fun i e hi=>by simp at hi,rfl,hx,i⟩
  ·have h1:=i2.ok
   have hz:atV es x (e::l)=atV es z l2:=by rw[he,a3f,h1.2.1]
   rw[hz] at hy ⊢
   have hlen:(e::l).length=l1.length+l2.length:=by rw[he,List.length_append]
   have:l1.length≠0:=fun q=>h1.2.2 (List.length_eq_zero_iff.1 q)
   obtain ⟨m',z',k1,k2,k3,k4,k5,k6,k7⟩:=splitZ om n oM i4 i3 hy
   refine ⟨m',z',l1++k1,k2,by rw[he,k3,List.append_assoc],b0M h1.1 (by rw[h1.2.1]; exact k4),by rw[a3f,h1.2.1,k5],k6,k7⟩
end Go.Gm.AQ
namespace Go.Gm.AQ
open Go Go.Gm
abbrev HopR:=Int->Int->Bool->Int->Int->Bool->Int->Prop
inductive Pq (R:HopR):Int->Int->Bool->Int->Int->Bool->Int->Prop
 |nil {v s:Int} {b:Bool}:Pq R v s b v s b 0
 |snoc {v s v1 s1 v2 s2 c w:Int} {b b1 b2:Bool}:Pq R v s b v1 s1 b1 c->R v1 s1 b1 v2 s2 b2 w->Pq R v s b v2 s2 b2 (c+w)
theorem Pq.cons {R:HopR}{v s v1 s1 v2 s2 c w:Int}{b b1 b2:Bool}(h:R v s b v1 s1 b1 w)(p:Pq R v1 s1 b1 v2 s2 b2 c):Pq R v s b v2 s2 b2 (w+c):=by
 induction p with
 |nil=>rw[Int.add_comm]; exact .snoc .nil h
 |snoc p k ih=>rw[<-Int.add_assoc]; exact .snoc (ih h) k
section
variable {N:Nat} {es:List E} {D:List (List Int)} {acc:List Bool} {G:Int->Prop} {U Dn:Int->Int->Int->Int->Prop} {R:HopR} {v:Int}
structure HR (D:List (List Int)) (U Dn:Int->Int->Int->Int->Prop) (R:HopR):Prop where
 up:∀v w m c s:Int,U v w m c->0<=s->s<D.length->R v s false w (nx D s m) false c
 dn:∀(v u m c s:Int) (b:Bool),Dn v u m c->0<=s->s<D.length->R u s b v (nx D s m) true c
structure Stg (es:List E) (G:Int->Prop) (U Dn:Int->Int->Int->Int->Prop) (v:Int):Prop where
 up:∀w m l,¬G w->Sg es G m v w l->∃c,U v w m c/\c<=atC es l
 dn:∀u m l,¬G u->u≠v->Sg es G m u v l->∃c,Dn v u m c/\c<=atC es l
def Cmp (es:List E)(D:List (List Int))(R:HopR)(G:Int->Prop):Prop:=
 ∀(l:List Nat) (x s:Int),¬G x->¬G (atV es x l)->OkW es x l->0<=s->s<D.length->∃b c,Pq R x s false (atV es x l) (atS es D s l) b c/\c<=atC es l
theorem b0s (es:List E)(D:List (List Int))(s:Int)(l l':List Nat):atS es D s (l++l')=atS es D (atS es D s l) l':=by simp[atS]
theorem a9K (ok:DOk D acc)(no:NetOk N es){x:Int}{l:List Nat}(h:OkW es x l){s:Int}(s0:0<=s)(s1:s<D.length):0<=atS es D s l/\atS es D s l<D.length:=by
 rw[a8I]; exact a6w ok _ s s0 s1 (h.md no)
theorem c1I (no:NetOk N es)(ok:DOk D acc)(co:COk es)(sd:Stdy D)(hr:HR D U Dn R)(om:∀x,G x->OneM es x)(st:∀v w m l,¬G v->¬G w->Sg es G m v w l->∃c,U v w m c/\c<=atC es l):Cmp es D R G:=by
 have main:∀(n:Nat) (l:List Nat) (x s:Int),l.length<=n->¬G x->¬G (atV es x l)->OkW es x l->0<=s->s<D.length->∃b c,Pq R x s false (atV es x l) (atS es D s l) b c/\c<=atC es l:=by
  intro n
  induction n with
  |zero=>
   intro l x s hn hx hy h s0 s1
   obtain rfl:=List.length_eq_zero_iff.1 (Nat.le_zero.1 hn)
   exact ⟨_,_,.nil,Int.le_refl _⟩
  |succ n ih=>
   intro l x s hn hx hy h s0 s1
   by_cases hl:l=[]
   ·subst hl; exact ⟨_,_,.nil,Int.le_refl _⟩
   rcases splitA om h hl with ⟨m,i⟩|⟨m,z,l1,l2,rfl,i2,i3,i4⟩
   ·obtain ⟨c,k1,k2⟩:=st x _ m l hx hy i
    rw[i.st no ok sd s s0 s1]
    exact ⟨_,0+c,.snoc .nil (hr.up _ _ _ _ _ k1 s0 s1),oM⟩
   ·have h1:=i2.ok
    have:l1.length≠0:=fun q=>h1.2.2 (List.length_eq_zero_iff.1 q)
    rw[List.length_append] at hn
    obtain ⟨c,k1,k2⟩:=st x _ m l1 hx i3 i2
    rw[a3f,h1.2.1] at hy
    have hs:=a9K ok no h1.1 s0 s1
    obtain ⟨b,c',p1,p2⟩:=ih l2 z (atS es D s l1) oM i3 hy i4 hs.1 hs.2
    rw[a3f,h1.2.1,b0s,a0e]
    refine ⟨b,c+c',.cons ?_ p1,oM⟩
    rw[i2.st no ok sd s s0 s1]
    exact hr.up _ _ _ _ _ k1 s0 s1
 exact fun l x s=>main l.length l x s (Nat.le_refl _)
theorem b9W (no:NetOk N es)(ok:DOk D acc)(co:COk es)(sd:Stdy D)(hr:HR D U Dn R)(om:∀x,G x\/x=v->OneM es x)(gv:¬G v)(st:Stg es G U Dn v)(cm:Cmp es D R (fun x=>G x\/x=v)):Cmp es D R G:=by
 have one:∀(l:List Nat) (x s:Int),¬G x->x≠v->¬G (atV es x l)->OkW es x l->0<=s->s<D.length->∃b c,Pq R x s false (atV es x l) (atS es D s l) b c/\c<=atC es l:=by
  intro l x s hx hxv hy h s0 s1
  by_cases hv:atV es x l=v
  ·obtain ⟨m,z,l1,l2,rfl,k2,k3,k4,k5⟩:=splitZ om l.length (Nat.le_refl _) h (fun q=>q.elim hx hxv) (.inr hv)
   rw[hv] at k5
   obtain ⟨l',q1,q2⟩:=k5.first co
   obtain ⟨c,u1,u2⟩:=st.dn z m l' (fun q=>k4 (.inl q)) (fun q=>k4 (.inr q)) q1
   obtain ⟨b,c',p1,p2⟩:=cm l1 x s (fun q=>q.elim hx hxv) (by rw[k3]; exact k4) k2 s0 s1
   have hs:=a9K ok no k2 s0 s1
   rw[k3] at p1
   rw[hv,b0s,a0e,k5.st no ok sd _ hs.1 hs.2]
   exact ⟨true,c'+c,.snoc p1 (hr.dn _ _ _ _ _ b u1 hs.1 hs.2),oM⟩
  ·exact cm l x s (fun q=>q.elim hx hxv) (fun q=>q.elim hy hv) h s0 s1
 intro l x s hx hy h s0 s1
 by_cases hxv:x=v
 ·subst hxv
  by_cases hl:l=[]
  ·subst hl; exact ⟨_,_,.nil,Int.le_refl _⟩
  rcases splitA om h hl with ⟨m,i⟩|⟨m,z,l1,l2,rfl,i2,i3,i4⟩
  ·obtain ⟨l',q1,q2⟩:=i.last co l.length (Nat.le_refl _)
   obtain ⟨c,k1,k2⟩:=st.up _ m l' hy q1
   rw[i.st no ok sd s s0 s1]
   exact ⟨_,0+c,.snoc .nil (hr.up _ _ _ _ _ k1 s0 s1),oM⟩
  ·have h1:=i2.ok
   obtain ⟨l',q1,q2⟩:=i2.last co l1.length (Nat.le_refl _)
   obtain ⟨c,k1,k2⟩:=st.up _ m l' (fun q=>i3 (.inl q)) q1
   rw[a3f,h1.2.1] at hy
   have hs:=a9K ok no h1.1 s0 s1
   obtain ⟨b,c',p1,p2⟩:=one l2 z (atS es D s l1) (fun q=>i3 (.inl q)) (fun q=>i3 (.inr q)) hy i4 hs.1 hs.2
   rw[a3f,h1.2.1,b0s,a0e]
   refine ⟨b,c+c',.cons ?_ p1,oM⟩
   rw[i2.st no ok sd s s0 s1]
   exact hr.up _ _ _ _ _ k1 s0 s1
 ·exact one l x s hx hxv hy h s0 s1
theorem b6d (no:NetOk N es)(ok:DOk D acc)(co:COk es)(sd:Stdy D)(hr:HR D U Dn R):∀(vs:List Int) (G:Int->Prop),(∀x,G x\/x∈vs->OneM es x)->vs.Nodup->(∀x∈vs,¬G x)->
  (∀(a b:List Int) (v:Int),vs=a++v::b->Stg es (fun x=>G x\/x∈a) U Dn v)->(∀v w m l,¬(G v\/v∈vs)->¬(G w\/w∈vs)->Sg es (fun x=>G x\/x∈vs) m v w l->∃c,U v w m c/\c<=atC es l)->Cmp es D R G
 |[],G,om,_,_,_,fin=>by
  have e:(fun x=>G x\/x∈([]:List Int))=G:=by funext x; simp
  rw[e] at fin
  exact c1I no ok co sd hr (fun x h=>om x (.inl h)) (fun v w m l h h' hs=>fin v w m l (by simpa using h) (by simpa using h') hs)
 |v::vs,G,om,nd,ng,st,fin=>by
  have nd':=List.nodup_cons.1 nd
  have e:∀a:List Int,(fun x=>(G x\/x=v)\/x∈a)=(fun x=>G x\/x∈v::a):=by intro a; funext x; simp[or_assoc]
  refine b9W no ok co sd hr (v:=v) (fun x h=>om x (h.imp id (fun q=>by simp[q]))) (ng v (by simp)) ?_ (b6d no ok co sd hr vs (fun x=>G x\/x=v) (fun x h=>om x (by rw[or_assoc] at h; exact h.imp id (fun q=>by simpa using q))) nd'.2 (fun x hx q=>q.elim (ng x (List.mem_cons_of_mem _ hx)) (fun q=>nd'.1 (q▸hx))) (fun a b w hw=>?_) (fun w x m l hw hx hs=>?_))
  ·have:=st [] vs v rfl
   have e0:(fun x=>G x\/x∈([]:List Int))=G:=by funext x; simp
   rwa [e0] at this
  ·rw[e]; exact st (v::a) b w (by rw[hw]; rfl)
  ·rw[e] at hs; exact fin w x m l (by rw[or_assoc] at hw; simpa using hw) (by rw[or_assoc] at hx; simpa using hx) hs
end
end Go.Gm.AQ
namespace Go.Gm.AQ
open Go Go.Gm
structure Ar where
 fr:Int
 to:Int
 md:Int
 co:Int
 ed:Int
 a:Int
 b:Int
 deriving Inhabited
inductive Unp (A:List Ar):Nat->List Nat->Prop
 |edge {k:Nat} {a:Ar}:A[k]?=some a->0<=a.ed->Unp A k [a.ed.toNat]
 |two {k i j:Nat} {a:Ar} {l1 l2:List Nat}:A[k]?=some a->a.ed = -1->a.a=i->a.b=j->i<k->j<k->Unp A i l1->Unp A j l2->Unp A k (l1++l2)
theorem Unp.app {A:List Ar}{k:Nat}{l:List Nat}(h:Unp A k l)(B:List Ar):Unp (A++B) k l:=by
 have get:∀{k:Nat} {a:Ar},A[k]?=some a->(A++B)[k]?=some a:=fun {k a} h=>by
  rw[List.getElem?_append_left (List.getElem?_eq_some_iff.1 h).1]; exact h
 induction h with
 |edge h1 h2=>exact .edge (get h1) h2
 |two h1 h2 h3 h4 h5 h6 _ _ i1 i2=>exact .two (get h1) h2 h3 h4 h5 h6 i1 i2
abbrev cu (N:Nat)(C:List Int)(u w m:Int):Int:=gi C ((u*N+w)*5+m)
theorem cu_lt {N:Nat}{u w m:Int}(u0:0<=u)(u1:u<N)(w0:0<=w)(w1:w<N)(m0:0<=m)(m1:m<5):0<=(u*N+w)*5+m/\(u*N+w)*5+m<((N*N*5:Nat):Int):=by
 have h1:0<=u*(N:Int):=Int.mul_nonneg u0 oM
 have h2:(u+1)*(N:Int)<=N*N:=Int.mul_le_mul_of_nonneg_right oM oM
 rw[Int.add_mul] at h2
 have h3:((N*N*5:Nat):Int)=(N:Int)*N*5:=by simp
 rw[h3]
 generalize (N:Int)*N=q at *
 generalize u*(N:Int)=p at *
 omega
theorem b9X {N:Nat}{u w m u' w' m':Int}(w0:0<=w)(w1:w<N)(m0:0<=m)(m1:m<5)(w0':0<=w')(w1':w'<N)(m0':0<=m')(m1':m'<5)(h:(u*N+w)*5+m=(u'*N+w')*5+m'):u=u'/\w=w'/\m=m':=by
 have h1:m=m':=by generalize u*(N:Int)=p at h; generalize u'*(N:Int)=p' at h; omega
 have h2:u*N+w=u'*N+w':=by generalize u*(N:Int)=p at h ⊢; generalize u'*(N:Int)=p' at h ⊢; omega
 have h3:u=u':=by
  have a:=Int.add_mul_ediv_right w u (c:=N) oM
  have b:=Int.add_mul_ediv_right w' u' (c:=N) oM
  rw[Int.ediv_eq_zero_of_lt w0 w1] at a
  rw[Int.ediv_eq_zero_of_lt w0' w1'] at b
  have:w+u*N=w'+u'*N:=oM
  rw[this] at a
  omega
 subst h3
 exact ⟨rfl,oM,h1⟩
abbrev ArcG (es:List E)(G:Int->Prop)(A:List Ar)(k:Nat)(a:Ar):Prop:=∃l,Unp A k l/\Sg es G a.md a.fr a.to l/\atC es l=a.co/\(ivs es l).Nodup
structure CI0 (es:List E) (N:Nat) (G:Int->Prop) (A:List Ar) (C:List Int):Prop where
 len:C.length=N*N*5
 arc:∀k a,A[k]?=some a->ArcG es G A k a
 cur:∀u w m:Int,0<=u->u<N->0<=w->w<N->0<=m->m<5->0<=cu N C u w m/\cu N C u w m<=A.length/\(0<cu N C u w m->(gi A (cu N C u w m-1)).fr=u/\(gi A (cu N C u w m-1)).to=w/\(gi A (cu N C u w m-1)).md=m)
structure CI (es:List E) (N:Nat) (G:Int->Prop) (A:List Ar) (C:List Int):Prop extends CI0 es N G A C where
 cov:∀u w m l,¬G u->¬G w->Sg es G m u w l->0<cu N C u w m/\(gi A (cu N C u w m-1)).co<=atC es l
def shortP (N:Nat)(A:List Ar)(C:List Int)(a b:Int):List Ar × List Int:=
 if ¬(gi A a).md=(gi A b).md\/(gi A b).to=(gi A a).to then (A,C) else
 if cu N C (gi A a).fr (gi A b).to (gi A a).md=0\/(gi A a).co+(gi A b).co<(gi A (cu N C (gi A a).fr (gi A b).to (gi A a).md-1)).co then
  (A++[⟨(gi A a).fr,(gi A b).to,(gi A a).md,(gi A a).co+(gi A b).co,-1,a,b⟩],C.set (((gi A a).fr*N+(gi A b).to)*5+(gi A a).md).toNat (A.length+1))
 else (A,C)
theorem Sg.range {N:Nat}{es:List E}{G:Int->Prop}{m u w:Int}{l:List Nat}(no:NetOk N es)(h:Sg es G m u w l):(0<=u/\u<N)/\0<=w/\w<N:=by
 induction h with
 |@one u w e h1 h2 h3 h4=>
  have:=no.edge _ (b7_ (xs:=es) (i:=(e:Int)) oM (Int.ofNat_lt.2 h1))
  subst h3 h4
  exact ⟨⟨this.1,this.2.1⟩,this.2.2.1,this.2.2.2.1⟩
 |@cons u y w e l h1 h2 h3 h4 h5 h6 ih=>
  have:=no.edge _ (b7_ (xs:=es) (i:=(e:Int)) oM (Int.ofNat_lt.2 h1))
  subst h3
  exact ⟨⟨this.1,this.2.1⟩,ih.2⟩
structure CJ (es:List E) (N:Nat) (G:Int->Prop) (v:Int) (A0:List Ar) (C0:List Int) (P:Int->Int->Prop) (A:List Ar) (C:List Int):Prop extends CI0 es N (fun x=>G x\/x=v) A C where
 pre:∀k:Int,0<=k->k<A0.length->gi A k=gi A0 k
 le:A0.length<=A.length
 dec:∀u w m:Int,0<=u->u<N->0<=w->w<N->0<=m->m<5->0<cu N C0 u w m->0<cu N C u w m/\(gi A (cu N C u w m-1)).co<=(gi A0 (cu N C0 u w m-1)).co
 don:∀a b:Int,P a b->0<=a->a<A0.length->0<=b->b<A0.length->(gi A0 a).md=(gi A0 b).md->(gi A0 b).to≠v->0<cu N C (gi A0 a).fr (gi A0 b).to (gi A0 a).md/\(gi A (cu N C (gi A0 a).fr (gi A0 b).to (gi A0 a).md-1)).co<=(gi A0 a).co+(gi A0 b).co
section
variable {N:Nat} {es:List E} {G:Int->Prop} {v:Int} {A0 A:List Ar} {C0 C:List Int} {P:Int->Int->Prop}
theorem CI.start (ci:CI es N G A C):CJ es N G v A C (fun _ _=>False) A C:=
 ⟨⟨ci.len,fun k a h=>by
  obtain ⟨l,h1,h2,h3⟩:=ci.arc k a h
  exact ⟨l,h1,h2.mono fun x q=>.inl q,h3⟩,ci.cur⟩,fun k _ _=>rfl,Nat.le_refl _,fun u w m _ _ _ _ _ _ h=>⟨h,Int.le_refl _⟩,fun a b h=>h.elim⟩
theorem CI.arcI (ci:CI es N G A C){k:Int}(k0:0<=k)(k1:k<A.length):ArcG es G A k.toNat (gi A k):=ci.arc _ _ (c1_ k0 k1)
theorem CJ.step (no:NetOk N es)(co:COk es)(ci:CI es N G A0 C0)(gv:¬G v)(cj:CJ es N G v A0 C0 P A C){a b:Int}(a0:0<=a)(a1:a<A0.length)(b0:0<=b)(b1:b<A0.length)(xa:(gi A0 a).to=v)(xg:¬G (gi A0 a).fr)(yb:(gi A0 b).fr=v)(yg:¬G (gi A0 b).to) :
  CJ es N G v A0 C0 (fun i j=>P i j\/(i=a/\j=b)) (shortP N A C a b).1 (shortP N A C a b).2:=by
 have ea:=cj.pre a a0 a1
 have eb:=cj.pre b b0 b1
 obtain ⟨l1,q1,q2,q3,q4⟩:=ci.arcI a0 a1
 obtain ⟨l2,r1,r2,r3,r4⟩:=ci.arcI b0 b1
 have ra:=q2.range no
 have rb:=r2.range no
 have ma:=q2.md no
 simp only[shortP,ea,eb]
 split
 ·rename_i h
  refine ⟨cj.toCI0,cj.pre,cj.le,cj.dec,fun i j hp i0 i1 j0 j1 h1 h2=>?_⟩
  rcases hp with hp|⟨rfl,rfl⟩
  ·exact cj.don i j hp i0 i1 j0 j1 h1 h2
  ·rcases h with h|h
   ·exact absurd h1 h
   ·exact absurd (h.trans xa) h2
 rename_i h
 have hm:(gi A0 a).md=(gi A0 b).md:=Decidable.byContradiction fun q=>h (.inl q)
 have hto:(gi A0 b).to≠v:=fun q=>h (.inr (q.trans xa.symm))
 obtain ⟨p0,p1⟩:=cu_lt (N:=N) ra.1.1 ra.1.2 rb.2.1 rb.2.2 ma.1 ma.2
 split
 case isFalse h2=>
  have cr:=cj.cur _ _ _ ra.1.1 ra.1.2 rb.2.1 rb.2.2 ma.1 ma.2
  refine ⟨cj.toCI0,cj.pre,cj.le,cj.dec,fun i j hp i0 i1 j0 j1 h1 h2'=>?_⟩
  rcases hp with hp|⟨rfl,rfl⟩
  ·exact cj.don i j hp i0 i1 j0 j1 h1 h2'
  ·rw[not_or] at h2
   show 0<cu N C _ _ _/\(gi A (cu N C _ _ _-1)).co<=_
   exact ⟨oM,oM⟩
 case isTrue h2=>
  obtain ⟨p,hp⟩:∃p,p=((gi A0 a).fr*(N:Int)+(gi A0 b).to)*5+(gi A0 a).md:=⟨_,rfl⟩
  obtain ⟨n,hn⟩:∃n,n=(⟨(gi A0 a).fr,(gi A0 b).to,(gi A0 a).md,(gi A0 a).co+(gi A0 b).co,-1,a,b⟩:Ar):=⟨_,rfl⟩
  rw[<-hp] at p0 p1 ⊢
  rw[<-hn]
  have lenC:=cj.len
  have cus:∀u w m:Int,0<=u->u<N->0<=w->w<N->0<=m->m<5->(u=(gi A0 a).fr/\w=(gi A0 b).to/\m=(gi A0 a).md/\cu N (C.set p.toNat (A.length+1)) u w m=A.length+1)\/
    (¬(u=(gi A0 a).fr/\w=(gi A0 b).to/\m=(gi A0 a).md)/\cu N (C.set p.toNat (A.length+1)) u w m=cu N C u w m):=by
   intro u w m u0 u1 w0 w1 m0 m1
   have hr:=cu_lt u0 u1 w0 w1 m0 m1
   by_cases q:(u*N+w)*5+m=p
   ·left
    obtain ⟨z1,z2,z3⟩:=b9X w0 w1 m0 m1 rb.2.1 rb.2.2 ma.1 ma.2 (q.trans hp)
    refine ⟨z1,z2,z3,?_⟩
    show gi _ _=_
    rw[w3_ p0 oM hr.1,if_pos q]
   ·right
    refine ⟨fun ⟨z1,z2,z3⟩=>q (by rw[hp,z1,z2,z3]),?_⟩
    show gi _ _=_
    rw[w3_ p0 oM hr.1,if_neg q]
  have old:∀k:Int,0<=k->k<A.length->gi (A++[n]) k=gi A k:=fun k k0 k1=>a3h k0 k1
  have new:gi (A++[n]) ((A.length:Int)+1-1)=n:=by
   rw[show (A.length:Int)+1-1=A.length by omega]; exact a6R _ _
  have crs:=fun u w m u0 u1 w0 w1 m0 m1=>cj.cur u w m u0 u1 w0 w1 m0 m1
  have hd:(ivs es (l1++l2)).Nodup:=by
   rw[c3k q2 r2.ok.2.2,List.nodup_append]
   refine ⟨q4,List.nodup_cons.2 ⟨fun hz=>gv (xa▸r2.inner _ hz),r4⟩,fun z hz z' hz' he=>?_⟩
   subst he
   have gz:=q2.inner z hz
   rcases List.mem_cons.1 hz' with rfl|hz'
   ·exact gv (xa▸gz)
   obtain ⟨p1',s1,e1,f1,g1⟩:=q2.at hz
   obtain ⟨p2',s2,e2,f2,g2⟩:=r2.at hz'
   rw[<-hm] at g2
   have hs:=f1.app gz g2
   obtain ⟨k1,k2⟩:=ci.cov _ _ _ _ xg yg hs
   obtain ⟨k3,k4⟩:=cj.dec _ _ _ ra.1.1 ra.1.2 rb.2.1 rb.2.2 ma.1 ma.2 k1
   have c1:=g1.cost co
   have c2:=f2.cost co
   rw[e1,a0e] at q3
   rw[e2,a0e] at r3
   rw[a0e] at k2
   omega
  refine ⟨⟨by rw[List.length_set]; exact lenC,fun k x hk=>?_,fun u w m u0 u1 w0 w1 m0 m1=>?_⟩,fun k k0 k1=>?_,?_,fun u w m u0 u1 w0 w1 m0 m1 hc=>?_,fun i j hij i0 i1 j0 j1 h1 h2'=>?_⟩
  ·by_cases hk':k<A.length
   ·rw[List.getElem?_append_left hk'] at hk
    obtain ⟨l,s1,s2⟩:=cj.arc k x hk
    exact ⟨l,s1.app _,s2⟩
   ·rw[List.getElem?_append_right oM] at hk
    have hkk:k=A.length:=by
     have:=(List.getElem?_eq_some_iff.1 hk).1
     simp at this
     omega
    subst hkk
    simp at hk
    subst hk
    have get:∀{i:Int},0<=i->i<A0.length->∀{l},Unp A0 i.toNat l->Unp A i.toNat l:=by
     intro i i0 i1 l hu
     obtain ⟨B,hB⟩:∃B,A=A0++B:=by
      refine ⟨A.drop A0.length,?_⟩
      refine List.ext_getElem? fun t=>?_
      by_cases ht:t<A0.length
      ·rw[List.getElem?_append_left ht]
       have:=cj.pre t oM oM
       have z1:=c1_ (xs:=A) (i:=t) oM (by have:=cj.le; omega)
       have z2:=c1_ (xs:=A0) (i:=t) oM oM
       rw[Int.toNat_natCast] at z1 z2
       rw[z1,z2,this]
      ·rw[List.getElem?_append_right oM,List.getElem?_drop]
       congr 1
       omega
     rw[hB]
     exact hu.app B
    have hle:=cj.le
    refine ⟨l1++l2,?_,?_,?_,hd⟩
    ·refine .two (i:=a.toNat) (j:=b.toNat) (a:=n) (by simp) (by rw[hn]) (by rw[hn]; show a=_; omega) (by rw[hn]; show b=_; omega) oM oM ((get a0 a1 q1).app _) ((get b0 b1 r1).app _)
    ·rw[hn]
     have h1:=q2.mono (G':=fun x=>G x\/x=v) fun x q=>.inl q
     have h2:=r2.mono (G':=fun x=>G x\/x=v) fun x q=>.inl q
     rw[xa] at h1
     rw[yb,<-hm] at h2
     exact h1.app (.inr rfl) h2
    ·rw[hn,a0e,q3,r3]
  ·have cr:=crs u w m u0 u1 w0 w1 m0 m1
   rw[List.length_append]
   rcases cus u w m u0 u1 w0 w1 m0 m1 with ⟨z1,z2,z3,z4⟩|⟨_,z4⟩
   ·rw[z4]
    refine ⟨oM,by simp,fun _=>?_⟩
    rw[new,hn]
    exact ⟨z1.symm,z2.symm,z3.symm⟩
   ·rw[z4]
    refine ⟨cr.1,by have:=cr.2.1; simp; omega,fun q=>?_⟩
    rw[old _ oM oM]
    exact cr.2.2 q
  ·rw[old k k0 (by have:=cj.le; omega)]
   exact cj.pre k k0 k1
  ·have:=cj.le
   simp; omega
  ·have cr:=crs u w m u0 u1 w0 w1 m0 m1
   obtain ⟨d1,d2⟩:=cj.dec u w m u0 u1 w0 w1 m0 m1 hc
   rcases cus u w m u0 u1 w0 w1 m0 m1 with ⟨rfl,rfl,rfl,z4⟩|⟨_,z4⟩
   ·rw[z4,new,hn]
    exact ⟨oM,by show (gi A0 a).co+(gi A0 b).co<=_; omega⟩
   ·rw[z4,old _ oM oM]
    exact ⟨d1,d2⟩
  ·rcases hij with hij|⟨rfl,rfl⟩
   ·have hi:=cj.don i j hij i0 i1 j0 j1 h1 h2'
    obtain ⟨_,_,t1,_⟩:=ci.arcI i0 i1
    obtain ⟨_,_,t2,_⟩:=ci.arcI j0 j1
    have rt1:=t1.range no
    have rt2:=t2.range no
    have mt:=t1.md no
    have cr:=crs _ _ _ rt1.1.1 rt1.1.2 rt2.2.1 rt2.2.2 mt.1 mt.2
    rcases cus _ _ _ rt1.1.1 rt1.1.2 rt2.2.1 rt2.2.2 mt.1 mt.2 with ⟨z1,z2,z3,z4⟩|⟨_,z4⟩
    ·rw[z1,z2,z3] at hi
     rw[z4,new,hn]
     exact ⟨oM,by show (gi A0 a).co+(gi A0 b).co<=_; omega⟩
    ·rw[z4,old _ oM oM]
     exact hi
   ·have e4:=cus _ _ _ ra.1.1 ra.1.2 rb.2.1 rb.2.2 ma.1 ma.2
    rcases e4 with ⟨_,_,_,z4⟩|⟨z,_⟩
    ·rw[z4,new,hn]
     exact ⟨oM,Int.le_refl _⟩
    ·exact absurd ⟨rfl,rfl,rfl⟩ z
end
end Go.Gm.AQ
namespace Go.Gm.AQ
open Go Go.Gm
section
variable {N:Nat} {es:List E} {G:Int->Prop} {v:Int} {A0 A:List Ar} {C0 C:List Int} {P:Int->Int->Prop} {up dn:List Int}
structure UD (N:Nat) (G:Int->Prop) (v:Int) (A:List Ar) (C:List Int) (up dn:List Int):Prop where
 up:∀w m:Int,0<=w->w<N->0<=m->m<5->¬G w->0<cu N C v w m->cu N C v w m-1∈up
 dn:∀u m:Int,0<=u->u<N->0<=m->m<5->¬G u->u≠v->0<cu N C u v m->cu N C u v m-1∈dn
theorem CI.stU (no:NetOk N es)(ci:CI es N G A C)(gv:¬G v)(ud:UD N G v A C up dn){w m:Int}{l:List Nat}(hw:¬G w)(h:Sg es G m v w l):∃k∈up,0<=k/\k<A.length/\(gi A k).to=w/\(gi A k).md=m/\(gi A k).co<=atC es l:=by
 have hr:=h.range no
 have hm:=h.md no
 obtain ⟨c1,c2⟩:=ci.cov _ _ _ _ gv hw h
 have cr:=ci.cur v w m hr.1.1 hr.1.2 hr.2.1 hr.2.2 hm.1 hm.2
 exact ⟨_,ud.up w m hr.2.1 hr.2.2 hm.1 hm.2 hw c1,oM,oM,(cr.2.2 c1).2.1,(cr.2.2 c1).2.2,c2⟩
theorem CI.stD (no:NetOk N es)(ci:CI es N G A C)(gv:¬G v)(ud:UD N G v A C up dn){u m:Int}{l:List Nat}(hu:¬G u)(huv:u≠v)(h:Sg es G m u v l):∃k∈dn,0<=k/\k<A.length/\(gi A k).fr=u/\(gi A k).md=m/\(gi A k).co<=atC es l:=by
 have hr:=h.range no
 have hm:=h.md no
 obtain ⟨c1,c2⟩:=ci.cov _ _ _ _ hu gv h
 have cr:=ci.cur u v m hr.1.1 hr.1.2 hr.2.1 hr.2.2 hm.1 hm.2
 exact ⟨_,ud.dn u m hr.1.1 hr.1.2 hm.1 hm.2 hu huv c1,oM,oM,(cr.2.2 c1).1,(cr.2.2 c1).2.2,c2⟩
theorem CJ.done (no:NetOk N es)(co:COk es)(ci:CI es N G A0 C0)(gv:¬G v)(ud:UD N G v A0 C0 up dn)(hP:∀a∈dn,∀b∈up,P a b)(cj:CJ es N G v A0 C0 P A C):CI es N (fun x=>G x\/x=v) A C:=by
 refine ⟨cj.toCI0,fun u w m l hu hw h=>?_⟩
 rw[not_or] at hu hw
 have hr:=h.range no
 have hm:=h.md no
 rcases h.split with i|⟨l1,l2,rfl,i2,i3⟩
 ·obtain ⟨c1,c2⟩:=ci.cov _ _ _ _ hu.1 hw.1 i
  obtain ⟨d1,d2⟩:=cj.dec u w m hr.1.1 hr.1.2 hr.2.1 hr.2.2 hm.1 hm.2 c1
  exact ⟨d1,oM⟩
 ·obtain ⟨l',k1,k2⟩:=i3.last co l2.length (Nat.le_refl _)
  obtain ⟨a,a1,a2,a3,a4,a5,a6⟩:=ci.stD no gv ud hu.1 hu.2 i2
  obtain ⟨b,b1,b2,b3,b4,b5,b6⟩:=ci.stU no gv ud hw.1 k1
  obtain ⟨d1,d2⟩:=cj.don a b (hP a a1 b b1) a2 a3 b2 b3 (a5.trans b5.symm) (b4▸hw.2)
  rw[a4,b4,a5] at d1 d2
  rw[a0e]
  exact ⟨d1,oM⟩
theorem CI.begin (no:NetOk N es)(hl:C.length=N*N*5)(ha:∀(k:Nat) (a:Ar),A[k]?=some a->∃e:Nat,e<es.length/\a=⟨(eg es e).fr,(eg es e).to,(eg es e).md,(eg es e).co,e,0,0⟩)(hc:∀u w m:Int,0<=u->u<N->0<=w->w<N->0<=m->m<5->0<=cu N C u w m/\cu N C u w m<=A.length/\(0<cu N C u w m->(gi A (cu N C u w m-1)).fr=u/\(gi A (cu N C u w m-1)).to=w/\(gi A (cu N C u w m-1)).md=m))(hm:∀e:Nat,e<es.length->0<cu N C (eg es e).fr (eg es e).to (eg es e).md/\(gi A (cu N C (eg es e).fr (eg es e).to (eg es e).md-1)).co<=(eg es e).co):CI es N (fun _=>False) A C:=by
 refine ⟨⟨hl,fun k a h=>?_,hc⟩,fun u w m l _ _ h=>?_⟩
 ·obtain ⟨e,h1,rfl⟩:=ha k a h
  refine ⟨[e],?_,.one h1 rfl rfl rfl,?_,List.nodup_nil⟩
  ·have:=Unp.edge h (by show (0:Int)<=e; omega)
   simpa using this
  ·show 0+(eg es e).co=_; simp
 ·cases h with
  |@one _ _ e h1 h2 h3 h4=>
   subst h2 h3 h4
   obtain ⟨q1,q2⟩:=hm e h1
   exact ⟨q1,by show _<=0+(eg es e).co; omega⟩
  |cons _ _ _ _ h5 _=>exact h5.elim
end
end Go.Gm.AQ
namespace Go.Gm.AQ
open Go Go.Gm
def encA (a:Ar):List AV:=[I a.fr,I a.to,I a.md,I a.co,I a.ed,I a.a,I a.b]
structure WC where
 hb:Heap
 b1:Nat
 oW:Nat
 oE:Nat
 oC:Nat
 oG:Nat
 oU:Nat
 oD:Nat
 N:Nat
 es:List E
 sE:AV
 sU:AV
 sD:AV
 sC:AV
 sG:AV
structure WC.Ok (c:WC):Prop where
 n:1<=c.N/\c.N<=100
 no:NetOk c.N c.es
 co:COk c.es
 b:c.hb.length<=c.oW/\c.hb.length<=c.oE/\c.hb.length<=c.oC/\c.hb.length<=c.oG/\c.hb.length<=c.oU/\c.hb.length<=c.oD
 t:c.oW<c.b1/\c.oE<c.b1/\c.oC<c.b1/\c.oG<c.b1/\c.oU<c.b1/\c.oD<c.b1
 d:c.oW≠c.oE/\c.oW≠c.oC/\c.oW≠c.oG/\c.oW≠c.oU/\c.oW≠c.oD/\c.oE≠c.oC/\c.oE≠c.oG/\c.oE≠c.oU/\c.oE≠c.oD/\c.oC≠c.oG/\c.oC≠c.oU/\c.oC≠c.oD/\c.oG≠c.oU/\c.oG≠c.oD/\c.oU≠c.oD
structure WS where
 sA:AV
 oA:Nat
 sR:AV
 oR:Nat
 A:List Ar
 C:List Int
 g:List Bool
 rk:List Int
 us:List AV
 ds:List AV
 Up:List (List Int)
 Dn:List (List Int)
def one1 (s:AV):List AV:=[s]
def Inn (c:WC)(h:Heap)(sA:AV)(oA:Nat)(sR:AV)(oR:Nat)(s:AV)(xs:List Int):Prop:=
 ∃o,Gr o (o+1) h 1 s (xs.map encI)/\(s≠.nils->c.b1<=o/\o<h.length/\(sA≠.nils->o≠oA)/\(sR≠.nils->o≠oR))
structure WV (c:WC) (s:WS) (h:Heap):Prop where
 eb:Ext c.hb h
 lb:c.b1<=h.length
 row:h[c.oW]?=some (.cells ⟨[I c.N,c.sE,s.sR,s.sA,c.sU,c.sD,c.sC,c.sG],0,0,false⟩)
 gE:Gr c.oE (c.oE+1) h 4 c.sE (c.es.map encE)
 gA:Gr s.oA (s.oA+1) h 7 s.sA (s.A.map encA)
 pA:s.sA≠.nils->c.b1<=s.oA/\s.oA<h.length
 gR:Gr s.oR (s.oR+1) h 1 s.sR (s.rk.map encI)
 pR:s.sR≠.nils->c.b1<=s.oR/\s.oR<h.length/\(s.sA≠.nils->s.oR≠s.oA)
 gC:Gr c.oC (c.oC+1) h 1 c.sC (s.C.map encI)
 gG:Gr c.oG (c.oG+1) h 1 c.sG (s.g.map encB)
 gU:Gr c.oU (c.oU+1) h 1 c.sU (s.us.map one1)
 gD:Gr c.oD (c.oD+1) h 1 c.sD (s.ds.map one1)
 lU:s.us.length=c.N/\s.ds.length=c.N/\s.Up.length=c.N/\s.Dn.length=c.N
 rU:∀v:Int,0<=v->v<c.N->Inn c h s.sA s.oA s.sR s.oR (gi s.us v) (gi s.Up v)
 rD:∀v:Int,0<=v->v<c.N->Inn c h s.sA s.oA s.sR s.oR (gi s.ds v) (gi s.Dn v)
theorem _root_.Go.Gm.Gr.keep {D:Nat->Prop}{h h':Heap}{o sz:Nat}{s:AV}{xs:List (List AV)}(g:Gr o (o+1) h sz s xs)(f:FrS D h h')(hq:s≠.nils->¬D o):Gr o (o+1) h' sz s xs:=by
 by_cases q:s=.nils
 ·subst q
  have:=g.isNil
  subst this
  exact Gr.nil ..
 ·exact g.frs f fun r r1 r2=>by
   obtain rfl:r=o:=oM
   exact hq q
theorem Inn.keep {D:Nat->Prop}{c:WC}{h h':Heap}{sA sA' sR sR' s:AV}{oA oA' oR oR':Nat}{xs:List Int}(a:Inn c h sA oA sR oR s xs)(f:FrS D h h')(hq:∀o,c.b1<=o->o<h.length->(sA≠.nils->o≠oA)->(sR≠.nils->o≠oR)->¬D o/\(sA'≠.nils->o≠oA')/\(sR'≠.nils->o≠oR')):Inn c h' sA' oA' sR' oR' s xs:=by
 obtain ⟨o,g,p⟩:=a
 have l:=f.len
 refine ⟨o,g.keep f fun q=>?_,fun q=>?_⟩
 ·obtain ⟨p1,p2,p3,p4⟩:=p q
  exact (hq o p1 p2 p3 p4).1
 ·obtain ⟨p1,p2,p3,p4⟩:=p q
  obtain ⟨q1,q2,q3⟩:=hq o p1 p2 p3 p4
  exact ⟨p1,oM,q2,q3⟩
section
variable {c:WC} {s:WS} {h:Heap}
theorem WV.frs (w:WV c s h)(ok:c.Ok){D:Nat->Prop}{h':Heap}(f:FrS D h h')(hD:∀o,D o->h.length<=o):WV c s h':=by
 have l:=f.len
 have lb:=w.lb
 have t:=ok.t
 have nd:∀o,o<h.length->¬D o:=fun o ho q=>by have:=hD o q; omega
 refine ⟨f.ext w.eb fun o ho=>nd o (by have:=w.eb.len; omega),oM,by rw[f.get (nd _ oM) oM]; exact w.row,w.gE.keep f fun _=>nd _ oM,w.gA.keep f fun q=>nd _ (w.pA q).2,fun q=>⟨(w.pA q).1,by have:=(w.pA q).2; omega⟩,w.gR.keep f fun q=>nd _ (w.pR q).2.1,fun q=>⟨(w.pR q).1,by have:=(w.pR q).2.1; omega,(w.pR q).2.2⟩,
  w.gC.keep f fun _=>nd _ oM,w.gG.keep f fun _=>nd _ oM,w.gU.keep f fun _=>nd _ oM,w.gD.keep f fun _=>nd _ oM,w.lU,fun v v0 v1=>(w.rU v v0 v1).keep f fun o _ h2 h3 h4=>⟨nd o h2,h3,h4⟩,fun v v0 v1=>(w.rD v v0 v1).keep f fun o _ h2 h3 h4=>⟨nd o h2,h3,h4⟩⟩
theorem WV.ext (w:WV c s h)(ok:c.Ok){h':Heap}(e:Ext h h'):WV c s h':=w.frs ok (FrS.ofExt (D:=fun _=>False) e) (fun o q=>q.elim)
theorem WV.at (w:WV c s h):At h (.ptr c.oW 0 8 0) [I c.N,c.sE,s.sR,s.sA,c.sU,c.sD,c.sC,c.sG]:=At.row w.row (Nat.le_refl _) rfl
theorem b0r {os:List AV}{h:Heap}(ok:c.Ok)(row:At h (.ptr c.oW 0 8 0) (I c.N::os)){u v m:Int}(u0:0<=u)(u1:u<c.N)(v0:0<=v)(v1:v<c.N)(m0:0<=m)(m1:m<5) :
  Tot tab f2_ [.ptr c.oW 0 8 0,I u,I v,I m] h fun r h'=>r=I ((u*c.N+v)*5+m)/\h=h':=by
 refine WP.tot (fun k=>a8o k _ _ _ _ h) ?_
 have hn:=ok.n
 obtain ⟨p0,p1⟩:=cu_lt u0 u1 v0 v1 m0 m1
 have hNN:c.N*c.N*5<=100*100*5:=Nat.mul_le_mul_right 5 (Nat.mul_le_mul hn.2 hn.2)
 have h1:0<=u*(c.N:Int):=Int.mul_nonneg u0 oM
 have h2:u*(c.N:Int)<=100*100:=Int.mul_le_mul oM oM oM oM
 have w1:IntKind.i64.wrap (u*(c.N:Int))=u*c.N:=d6_ oM oM
 have w2:IntKind.i64.wrap ((u*(c.N:Int)+v)*5)=(u*c.N+v)*5:=d6_ oM oM
 generalize hP:u*(c.N:Int)=P at *
 generalize c.N*c.N*5=NN at *
 have r0:=row.ld0 (by simp)
 refine g8 row.nil row.fldA0 row.fldAf row.ldfE @r0 @w1 @w2 @hP ?_
 exact WP.ret ⟨rfl,rfl⟩
end
end Go.Gm.AQ
namespace Go.Gm.AQ
open Go Go.Gm
section
variable {c:WC} {s:WS} {h h':Heap}
theorem WV.setC (w:WV c s h)(ok:c.Ok){C':List Int}(f:FrS (fun o=>o=c.oC) h h')(g:Gr c.oC (c.oC+1) h' 1 c.sC (C'.map encI)):WV c { s with C:=C' } h':=by
 have l:=f.len
 have lb:=w.lb
 have hl:=w.eb.len
 have b:=ok.b
 have t:=ok.t
 have d:=ok.d
 refine ⟨f.ext w.eb fun o ho=>oM,oM,by rw[f.get oM oM]; exact w.row,w.gE.keep f fun _=>oM,w.gA.keep f fun q=>by have:=w.pA q; omega,fun q=>⟨(w.pA q).1,by have:=(w.pA q).2; show s.oA<_; omega⟩,w.gR.keep f fun q=>by have:=w.pR q; omega,fun q=>⟨(w.pR q).1,by have:=(w.pR q).2.1; show s.oR<_; omega,(w.pR q).2.2⟩,
  g,w.gG.keep f fun _=>oM,w.gU.keep f fun _=>oM,w.gD.keep f fun _=>oM,w.lU,fun v v0 v1=>(w.rU v v0 v1).keep f fun o h1 h2 h3 h4=>⟨oM,h3,h4⟩,fun v v0 v1=>(w.rD v v0 v1).keep f fun o h1 h2 h3 h4=>⟨oM,h3,h4⟩⟩
theorem WV.setG (w:WV c s h)(ok:c.Ok){g':List Bool}(f:FrS (fun o=>o=c.oG) h h')(g:Gr c.oG (c.oG+1) h' 1 c.sG (g'.map encB)):WV c { s with g:=g' } h':=by
 have l:=f.len
 have lb:=w.lb
 have hl:=w.eb.len
 have b:=ok.b
 have t:=ok.t
 have d:=ok.d
 refine ⟨f.ext w.eb fun o ho=>oM,oM,by rw[f.get oM oM]; exact w.row,w.gE.keep f fun _=>oM,w.gA.keep f fun q=>by have:=w.pA q; omega,fun q=>⟨(w.pA q).1,by have:=(w.pA q).2; show s.oA<_; omega⟩,w.gR.keep f fun q=>by have:=w.pR q; omega,fun q=>⟨(w.pR q).1,by have:=(w.pR q).2.1; show s.oR<_; omega,(w.pR q).2.2⟩,
  w.gC.keep f fun _=>oM,g,w.gU.keep f fun _=>oM,w.gD.keep f fun _=>oM,w.lU,fun v v0 v1=>(w.rU v v0 v1).keep f fun o h1 h2 h3 h4=>⟨oM,h3,h4⟩,fun v v0 v1=>(w.rD v v0 v1).keep f fun o h1 h2 h3 h4=>⟨oM,h3,h4⟩⟩
theorem WV.setU (w:WV c s h)(ok:c.Ok){v:Int}(v0:0<=v)(v1:v<c.N){r:AV}{xs:List Int}(f:FrS (fun o=>o=c.oU) h h')(g:Gr c.oU (c.oU+1) h' 1 c.sU ((s.us.set v.toNat r).map one1))(hr:Inn c h s.sA s.oA s.sR s.oR r xs):WV c { s with us:=s.us.set v.toNat r,Up:=s.Up.set v.toNat xs } h':=by
 have l:=f.len
 have lb:=w.lb
 have hl:=w.eb.len
 have b:=ok.b
 have t:=ok.t
 have d:=ok.d
 have lu:=w.lU
 refine ⟨f.ext w.eb fun o ho=>oM,oM,by rw[f.get oM oM]; exact w.row,w.gE.keep f fun _=>oM,w.gA.keep f fun q=>by have:=w.pA q; omega,fun q=>⟨(w.pA q).1,by have:=(w.pA q).2; show s.oA<_; omega⟩,w.gR.keep f fun q=>by have:=w.pR q; omega,fun q=>⟨(w.pR q).1,by have:=(w.pR q).2.1; show s.oR<_; omega,(w.pR q).2.2⟩,
  w.gC.keep f fun _=>oM,w.gG.keep f fun _=>oM,g,w.gD.keep f fun _=>oM,by simpa using lu,fun u u0 u1=>?_,fun v v0 v1=>(w.rD v v0 v1).keep f fun o h1 h2 h3 h4=>⟨oM,h3,h4⟩⟩
 show Inn c h' s.sA s.oA s.sR s.oR (gi (s.us.set v.toNat r) u) (gi (s.Up.set v.toNat xs) u)
 rw[w3_ v0 oM u0,w3_ v0 oM u0]
 split
 ·exact hr.keep f fun o h1 h2 h3 h4=>⟨oM,h3,h4⟩
 ·exact (w.rU u u0 u1).keep f fun o h1 h2 h3 h4=>⟨oM,h3,h4⟩
theorem WV.setD (w:WV c s h)(ok:c.Ok){v:Int}(v0:0<=v)(v1:v<c.N){r:AV}{xs:List Int}(f:FrS (fun o=>o=c.oD) h h')(g:Gr c.oD (c.oD+1) h' 1 c.sD ((s.ds.set v.toNat r).map one1))(hr:Inn c h s.sA s.oA s.sR s.oR r xs):WV c { s with ds:=s.ds.set v.toNat r,Dn:=s.Dn.set v.toNat xs } h':=by
 have l:=f.len
 have lb:=w.lb
 have hl:=w.eb.len
 have b:=ok.b
 have t:=ok.t
 have d:=ok.d
 have lu:=w.lU
 refine ⟨f.ext w.eb fun o ho=>oM,oM,by rw[f.get oM oM]; exact w.row,w.gE.keep f fun _=>oM,w.gA.keep f fun q=>by have:=w.pA q; omega,fun q=>⟨(w.pA q).1,by have:=(w.pA q).2; show s.oA<_; omega⟩,w.gR.keep f fun q=>by have:=w.pR q; omega,fun q=>⟨(w.pR q).1,by have:=(w.pR q).2.1; show s.oR<_; omega,(w.pR q).2.2⟩,
  w.gC.keep f fun _=>oM,w.gG.keep f fun _=>oM,w.gU.keep f fun _=>oM,g,by simpa using lu,fun v v0 v1=>(w.rU v v0 v1).keep f fun o h1 h2 h3 h4=>⟨oM,h3,h4⟩,fun u u0 u1=>?_⟩
 show Inn c h' s.sA s.oA s.sR s.oR (gi (s.ds.set v.toNat r) u) (gi (s.Dn.set v.toNat xs) u)
 rw[w3_ v0 oM u0,w3_ v0 oM u0]
 split
 ·exact hr.keep f fun o h1 h2 h3 h4=>⟨oM,h3,h4⟩
 ·exact (w.rD u u0 u1).keep f fun o h1 h2 h3 h4=>⟨oM,h3,h4⟩
theorem WV.setR (w:WV c s h)(ok:c.Ok){rk':List Int}(hn:s.sR≠.nils)(f:FrS (fun o=>o=s.oR) h h')(g:Gr s.oR (s.oR+1) h' 1 s.sR (rk'.map encI)):WV c { s with rk:=rk' } h':=by
 have l:=f.len
 have lb:=w.lb
 have hl:=w.eb.len
 have b:=ok.b
 have t:=ok.t
 have pr:=w.pR hn
 refine ⟨f.ext w.eb fun o ho=>oM,oM,by rw[f.get oM oM]; exact w.row,w.gE.keep f fun _=>oM,w.gA.keep f fun q=>by have:=pr.2.2 q; omega,fun q=>⟨(w.pA q).1,by have:=(w.pA q).2; show s.oA<_; omega⟩,g,fun q=>⟨(w.pR q).1,by have:=(w.pR q).2.1; show s.oR<_; omega,(w.pR q).2.2⟩,
  w.gC.keep f fun _=>oM,w.gG.keep f fun _=>oM,w.gU.keep f fun _=>oM,w.gD.keep f fun _=>oM,w.lU,fun v v0 v1=>(w.rU v v0 v1).keep f fun o h1 h2 h3 h4=>⟨by have:=h4 hn; omega,h3,h4⟩,fun v v0 v1=>(w.rD v v0 v1).keep f fun o h1 h2 h3 h4=>⟨by have:=h4 hn; omega,h3,h4⟩⟩
theorem WV.addA (w:WV c s h)(ok:c.Ok){a:Ar}{s':AV}{o':Nat}(f:FrS (fun p=>s.sA≠.nils/\p=s.oA) h h')(g:Gr o' (o'+1) h' 7 s' ((s.A++[a]).map encA))(q:s'≠.nils->((o'=s.oA/\s.sA≠.nils)\/h.length<=o')/\o'<h'.length) :
  h'[c.oW]?=some (.cells ⟨[I c.N,c.sE,s.sR,s.sA,c.sU,c.sD,c.sC,c.sG],0,0,false⟩)/\WV c { s with sA:=s',oA:=o',A:=s.A++[a] } (h'.set c.oW (.cells ⟨[I c.N,c.sE,s.sR,s',c.sU,c.sD,c.sC,c.sG],0,0,false⟩)):=by
 have l:=f.len
 have lb:=w.lb
 have hl:=w.eb.len
 have b:=ok.b
 have t:=ok.t
 have d:=ok.d
 have pa:=w.pA
 have nA:∀o,(s.sA≠.nils->o≠s.oA)->¬(s.sA≠.nils/\o=s.oA):=fun o h1 h2=>h1 h2.1 h2.2
 have rw':h'[c.oW]?=_:=(f.get (nA _ fun q=>by have:=pa q; omega) oM).trans w.row
 have f2:=(f.mono (D':=fun p=>(s.sA≠.nils/\p=s.oA)\/p=c.oW) fun _ _ z=>.inl z).trans ((FrS.set1 h' c.oW (.cells ⟨[I c.N,c.sE,s.sR,s',c.sU,c.sD,c.sC,c.sG],0,0,false⟩)).mono fun _ _ z=>.inr z)
 have nB:∀o,(s.sA≠.nils->o≠s.oA)->o≠c.oW->¬((s.sA≠.nils/\o=s.oA)\/o=c.oW):=fun o h1 h2 h3=>h3.elim (nA o h1) h2
 have nC:∀o,o<c.b1->o≠c.oW->¬((s.sA≠.nils/\o=s.oA)\/o=c.oW):=fun o h1 h2=>nB o (fun q=>by have:=pa q; omega) h2
 have ll:(h'.set c.oW (.cells ⟨[I c.N,c.sE,s.sR,s',c.sU,c.sD,c.sC,c.sG],0,0,false⟩)).length=h'.length:=by simp
 have inn:∀{x:AV} {xs:List Int},Inn c h s.sA s.oA s.sR s.oR x xs->Inn c (h'.set c.oW (.cells ⟨[I c.N,c.sE,s.sR,s',c.sU,c.sD,c.sC,c.sG],0,0,false⟩)) s' o' s.sR s.oR x xs:=fun hx=>hx.keep f2 fun o h1 h2 h3 h4=>⟨nB o h3 oM,fun z=>by
  rcases (q z).1 with ⟨z1,z2⟩|z1
  ·have:=h3 z2; omega
  ·omega,h4⟩
 refine ⟨rw',f2.ext w.eb fun o ho=>nC o oM oM,oM,a0_ oM,w.gE.keep f2 fun _=>nC _ oM oM,?_,fun z=>?_,w.gR.keep f2 fun z=>nB _ (w.pR z).2.2 (by have:=(w.pR z).1; omega),fun z=>⟨(w.pR z).1,by have:=(w.pR z).2.1; show s.oR<_; omega,fun z2=>?_⟩,
  w.gC.keep f2 fun _=>nC _ oM oM,w.gG.keep f2 fun _=>nC _ oM oM,w.gU.keep f2 fun _=>nC _ oM oM,w.gD.keep f2 fun _=>nC _ oM oM,w.lU,fun v v0 v1=>inn (w.rU v v0 v1),fun v v0 v1=>inn (w.rD v v0 v1)⟩
 ·refine g.keep (FrS.set1 ..) fun z=>?_
  rcases (q z).1 with ⟨z1,z2⟩|z1
  ·have:=pa z2; omega
  ·omega
 ·refine ⟨?_,by have:=(q z).2; show o'<_; omega⟩
  show c.b1<=o'
  rcases (q z).1 with ⟨z1,z2⟩|z1
  ·have:=pa z2; omega
  ·omega
 ·show s.oR≠o'
  have h1:=w.pR z
  rcases (q z2).1 with ⟨z3,z4⟩|z3
  ·have:=h1.2.2 z4; omega
  ·omega
theorem b5Z (ok:c.Ok)(w:WV c s h)(hC:s.C.length=c.N*c.N*5){a:Ar}(u0:0<=a.fr)(u1:a.fr<c.N)(v0:0<=a.to)(v1:a.to<c.N)(m0:0<=a.md)(m1:a.md<5)(hl:s.A.length<=100000000) :
  Tot tab k2_ [.ptr c.oW 0 8 0,.agg (encA a)] h fun r h'=>r=.tup []/\∃s' o',WV c { s with sA:=s',oA:=o',A:=s.A++[a],C:=s.C.set ((a.fr*c.N+a.to)*5+a.md).toNat (s.A.length+1) } h'/\
   FrS (fun o=>o=c.oW\/o=c.oC\/(s.sA≠.nils/\o=s.oA)) h h'/\(s'≠.nils->(o'=s.oA/\s.sA≠.nils)\/h.length<=o'):=by
 refine WP.tot (fun k=>a7N k _ _ h) ?_
 have lb:=w.lb
 have t:=ok.t
 have pa:=w.pA
 obtain ⟨h1,hh1⟩:∃h1,h1=h++[AObj.cells ⟨encA a,0,0,false⟩]:=⟨_,rfl⟩
 have e1:Ext h h1:=by rw[hh1]; exact Ext.push _ _
 have l1:h1.length=h.length+1:=by rw[hh1]; simp
 have ra1:h1[h.length]?=some (.cells ⟨encA a,0,0,false⟩):=by rw[hh1]; simp
 have w1:=w.ext ok e1
 have b:=Gr.lit (h:=h1) (sz:=7) (v:=encA a) rfl
 rw[a3_] at b
 obtain ⟨h2,hh2⟩:∃h2,h2=h1++[AObj.cells ⟨encA a,0,0,false⟩]:=⟨_,rfl⟩
 rw[<-hh2] at b
 have e2:Ext h1 h2:=by rw[hh2]; exact Ext.push _ _
 have w2:=w1.ext ok e2
 have l2:h2.length=h1.length+1:=by rw[hh2]; simp
 obtain ⟨s',h3,o',q1,q2,q3,q4⟩:=w2.gA.appP (fun z=>(w2.pA z).2) b.sl oM (bytes:=56) oM (by simp; omega)
 have q2':Gr o' (o'+1) h3 7 s' ((s.A++[a]).map encA):=q2.cong (by simp)
 obtain ⟨rw3,w4⟩:=w2.addA ok q4 q2' q3
 obtain ⟨h4,hh4⟩:∃h4,h4=h3.set c.oW (.cells ⟨[I c.N,c.sE,s.sR,s',c.sU,c.sD,c.sC,c.sG],0,0,false⟩):=⟨_,rfl⟩
 rw[<-hh4] at w4
 have l3:=q4.len
 have ra3:h3[h.length]?=some (.cells ⟨encA a,0,0,false⟩):=by rw[q4.get (fun z=>by have:=pa z.1; omega) oM]; exact e2.get ra1
 have ra4:h4[h.length]?=some (.cells ⟨encA a,0,0,false⟩):=by rw[hh4,a9_ oM]; exact ra3
 have row4:=w4.row
 have at4:=w4.at
 obtain ⟨p0,p1⟩:=cu_lt u0 u1 v0 v1 m0 m1
 have hNN:c.N*c.N*5<=100*100*5:=Nat.mul_le_mul_right 5 (Nat.mul_le_mul ok.n.2 ok.n.2)
 have gs':=q2'.sl
 have gC4:=w4.gC
 obtain ⟨p,hp⟩:∃p,p=(a.fr*(c.N:Int)+a.to)*5+a.md:=⟨_,rfl⟩
 rw[<-hp] at p0 p1
 have hlt:p<s.C.length:=by rw[hC]; exact p1
 obtain ⟨h5,k1,k2,k3,k4⟩:=gC4.write0 (i:=p) (v:=I ((s.A.length:Int)+1)) p0 (by simpa using hlt) rfl rfl
 have f5:FrS (fun o=>o=c.oC) h4 h5:=k3.s.mono fun o _ z=>oM
 have w5:=w4.setC ok (C':=s.C.set p.toNat (s.A.length+1)) f5 (k2.cong (by rw[List.map_set]; rfl))
 have row0:=(w.ext ok e1).row
 have hlen:lenS s'=some (I ((s.A.length:Int)+1)):=by rw[gs'.lenG]; simp
 have gC4s:Sl h4 1 c.sC (s.C.map encI):=gC4.sl
 rw[show AV.cells (.agg (encA a))=encA a from rfl]
 have hone:(encA a).all AV.one=true:=rfl
 have r1:=w1.row
 have r2:=w2.row
 have hcl:(encA a).length=7:=rfl
 have ld7:Gm.ldN 7 h1 (.ptr h.length 0 7 0)=some (.agg (encA a)):=by
  have:=(At.row (g':=0) (n:=7) ra1 (Nat.le_refl _) rfl).ldN (n:=7) (by rw[hcl]; omega)
  rw[this,show (encA a).take 7=encA a from rfl]
 rw[b3R hone,hcl,a3_,<-hh1]
 simp only[b0O]
 refine g2 @r1 @ld7 ?_
 rw[show bsl 7 1 h1 (some (setAll [AV.int .i64 0,.int .i64 0,.int .i64 0,.int .i64 0,.int .i64 0,.int .i64 0,.int .i64 0] 0 (encA a)))=some (.sl h1.length 0 1 7 none 0,h2) by rw[hh2]; rfl]
 simp only[b0O]
 rw[q1]
 have c3:s'.cells=[s']:=gs'.cells
 have o3:s'.one=true:=gs'.one
 refine g3 @rw3 @c3 @o3 ?_
 rw[<-hh4]
 refine g4 @row4 @ra3 @encA.eq_1 @hlen ?_
 refine WP.call (b0r ok at4 u0 u1 v0 v1 m0 m1) ?_
 rintro _ _ ⟨rfl,rfl⟩
 rw[<-hp]
 refine g2 @row4 gC4s.idxG ?_
 rw[k1]
 refine g0 ?_
 refine WP.ret ⟨rfl,s',o',w5,?_,fun z=>?_⟩
 ·have a1:FrS (fun o=>o=c.oW\/o=c.oC\/(s.sA≠.nils/\o=s.oA)) h h2:=FrS.ofExt (e1.trans e2)
  have a2:=q4.mono (D':=fun o=>o=c.oW\/o=c.oC\/(s.sA≠.nils/\o=s.oA)) fun o _ z=>.inr (.inr z)
  have a3:FrS (fun o=>o=c.oW\/o=c.oC\/(s.sA≠.nils/\o=s.oA)) h3 h4:=by rw[hh4]; exact (FrS.set1 ..).mono fun o _ z=>.inl z
  exact ((a1.trans a2).trans a3).trans (f5.mono fun o _ z=>.inr (.inl z))
 ·rcases (q3 z).1 with q|q
  ·exact .inl q
  ·exact .inr oM
end
end Go.Gm.AQ
namespace Go.Gm.AQ
open Go Go.Gm
structure AOk (N:Nat) (a:Ar):Prop where
 f0:0<=a.fr
 f1:a.fr<N
 t0:0<=a.to
 t1:a.to<N
 m0:0<=a.md
 m1:a.md<5
 c0:0<=a.co
 c1:a.co<=1000000000000
section
variable {c:WC} {s:WS} {h h':Heap}
theorem b8S (ok:c.Ok)(w:WV c s h)(hC:s.C.length=c.N*c.N*5){a b:Int}(a0:0<=a)(a1:a<s.A.length)(b0:0<=b)(b1:b<s.A.length)(hl:s.A.length<=100000000)(hA:∀k:Int,0<=k->k<s.A.length->AOk c.N (gi s.A k))(hk:0<=cu c.N s.C (gi s.A a).fr (gi s.A b).to (gi s.A a).md/\cu c.N s.C (gi s.A a).fr (gi s.A b).to (gi s.A a).md<=s.A.length) :
  Tot tab z0_ [.ptr c.oW 0 8 0,I a,I b] h fun r h'=>r=.tup []/\∃s' o',WV c { s with sA:=s',oA:=o',A:=(shortP c.N s.A s.C a b).1,C:=(shortP c.N s.A s.C a b).2 } h'/\
   FrS (fun o=>o=c.oW\/o=c.oC\/(s.sA≠.nils/\o=s.oA)) h h'/\(s'≠.nils->(o'=s.oA/\s.sA≠.nils)\/h.length<=o'):=by
 have lb:=w.lb
 have t:=ok.t
 have rw0:=w.row
 have gs:=w.gA.sl
 have ax:=hA a a0 a1
 have bx:=hA b b0 b1
 unfold shortP
 obtain ⟨x,hx⟩:∃x,gi s.A a=x:=⟨_,rfl⟩
 obtain ⟨y,hy⟩:∃y,gi s.A b=y:=⟨_,rfl⟩
 rw[hx] at ax
 rw[hy] at bx
 rw[hx,hy] at hk ⊢
 have lx:∀H,Ext h H->Gm.ldN 7 H (elP 7 s.sA a)=some (.agg [I x.fr,I x.to,I x.md,I x.co,I x.ed,I x.a,I x.b]):=fun H e=>by have:=gs.ldN (H:=H) e a0 a1; rw[hx] at this; exact this
 have ly:∀H,Ext h H->Gm.ldN 7 H (elP 7 s.sA b)=some (.agg [I y.fr,I y.to,I y.md,I y.co,I y.ed,I y.a,I y.b]):=fun H e=>by have:=gs.ldN (H:=H) e b0 b1; rw[hy] at this; exact this
 refine WP.tot (fun k=>a6L k _ _ _ h) ?_
 obtain ⟨h1,hh1⟩:∃h1,h1=((h++[AObj.cells ⟨[I 0,I 0,I 0,I 0,I 0,I 0,I 0],0,0,false⟩])++[AObj.cells ⟨[I 0,I 0,I 0,I 0,I 0,I 0,I 0],0,0,false⟩]).set h.length (.cells ⟨[I x.fr,I x.to,I x.md,I x.co,I x.ed,I x.a,I x.b],0,0,false⟩):=⟨_,rfl⟩
 obtain ⟨h2,hh2⟩:∃h2,h2=h1.set (h.length+1) (.cells ⟨[I y.fr,I y.to,I y.md,I y.co,I y.ed,I y.a,I y.b],0,0,false⟩):=⟨_,rfl⟩
 have e1:Ext h h1:=by rw[hh1]; exact eX
 have e2:Ext h h2:=by rw[hh2]; exact e1.setr oM _
 have l1:h1.length=h.length+2:=by rw[hh1]; simp
 have rx2:h2[h.length]?=some (.cells ⟨[I x.fr,I x.to,I x.md,I x.co,I x.ed,I x.a,I x.b],0,0,false⟩):=by rw[hh2,a9_ oM,hh1]; exact a0_ (by simp)
 have ry2:h2[h.length+1]?=some (.cells ⟨[I y.fr,I y.to,I y.md,I y.co,I y.ed,I y.a,I y.b],0,0,false⟩):=by rw[hh2]; exact a0_ oM
 have w2:=w.ext ok e2
 have rw2:=w2.row
 have hz:AV.int .i64 0=I 0:=rfl
 simp only[hz]
 refine g4 @rw0 gs.idxG @lx @ly ?_
 rw[<-hh1,<-hh2]
 have keep:∀(A':List Ar) (C':List Int),A'=s.A->C'=s.C->∃s' o',WV c { s with sA:=s',oA:=o',A:=A',C:=C' } h2/\FrS (fun o=>o=c.oW\/o=c.oC\/(s.sA≠.nils/\o=s.oA)) h h2/\(s'≠.nils->(o'=s.oA/\s.sA≠.nils)\/h.length<=o'):=by
  rintro _ _ rfl rfl
  exact ⟨s.sA,s.oA,w2,FrS.ofExt e2,fun q=>.inl ⟨rfl,q⟩⟩
 by_cases hm:x.md=y.md
 case neg=>
  rw[if_pos (.inl hm)]
  refine g1 @hm ?_
  exact WP.ret ⟨rfl,keep _ _ rfl rfl⟩
 by_cases ht:y.to=x.to
 case pos=>
  rw[if_pos (.inr ht)]
  refine g4 @hm @rx2 @ry2 @ht ?_
  exact WP.ret ⟨rfl,keep _ _ rfl rfl⟩
 rw[if_neg (fun q=>q.elim (fun q=>q hm) ht)]
 refine g4 @hm @rx2 @ry2 @ht ?_
 rw[<-hm]
 have at2:=w2.at
 refine g3 @rw2 @rx2 @ry2 ?_
 refine WP.call (b0r ok at2 ax.f0 ax.f1 bx.t0 bx.t1 ax.m0 ax.m1) ?_
 rintro _ _ ⟨rfl,rfl⟩
 obtain ⟨p0,p1⟩:=cu_lt ax.f0 ax.f1 bx.t0 bx.t1 ax.m0 ax.m1
 obtain ⟨p,hp⟩:∃p,p=(x.fr*(c.N:Int)+y.to)*5+x.md:=⟨_,rfl⟩
 obtain ⟨k,hkk⟩:∃k,k=cu c.N s.C x.fr y.to x.md:=⟨_,rfl⟩
 rw[<-hkk] at hk ⊢
 have hgk:gi s.C p=k:=by rw[hkk,hp]
 rw[<-hp] at p0 p1 ⊢
 have hlt:p<s.C.length:=by rw[hC]; exact p1
 have gC2:=w2.gC.sl
 have gA2:=w2.gA.sl
 have ldk:=gC2.ld0 (H:=h2) (Ext.refl _) p0 hlt oM
 rw[hgk] at ldk
 replace ldk:Gm.ld1 h2 (elP 1 c.sC p)=some (I k):=ldk
 have last:Tot tab k2_ [.ptr c.oW 0 8 0,.agg [I x.fr,I y.to,I x.md,I (x.co+y.co),I (-1),I a,I b]] h2 fun r h'=>r=.tup []/\∃s' o',WV c { s with sA:=s',oA:=o',A:=s.A++[⟨x.fr,y.to,x.md,x.co+y.co,-1,a,b⟩],C:=s.C.set p.toNat (s.A.length+1) } h'/\
   FrS (fun o=>o=c.oW\/o=c.oC\/(s.sA≠.nils/\o=s.oA)) h h'/\(s'≠.nils->(o'=s.oA/\s.sA≠.nils)\/h.length<=o'):=by
  refine (b5Z (a:=⟨x.fr,y.to,x.md,x.co+y.co,-1,a,b⟩) ok w2 hC ax.f0 ax.f1 bx.t0 bx.t1 ax.m0 ax.m1 hl).mono fun r h' ⟨q1,s',o',q2,q3,q4⟩=>⟨q1,s',o',by rw[hp]; exact q2,(FrS.ofExt e2).trans q3,fun z=>?_⟩
  rcases q4 z with q|q
  ·exact .inl q
  ·exact .inr (by have:=e2.len; omega)
 have c0:=ax.c0
 have c1:=ax.c1
 have d0:=bx.c0
 have d1:=bx.c1
 by_cases k0:k=0
 ·rw[if_pos (.inl k0)]
  refine g6 @rw2 gC2.idxG @ldk @k0 @rx2 @ry2 ?_
  refine WP.call last ?_
  rintro _ h3 ⟨rfl,q⟩
  exact WP.ret ⟨rfl,q⟩
 have kl:=(hA (k-1) oM oM)
 have e0:=kl.c0
 have e1':=kl.c1
 have ldc:=gA2.ldf 3 (H:=h2) (i:=k-1) (Ext.refl _) oM oM oM
 replace ldc:Gm.ld1 h2 (fldP 3 (elP 7 s.sA (k-1)))=some (I (gi s.A (k-1)).co):=ldc
 by_cases kc:x.co+y.co<(gi s.A (k-1)).co
 ·rw[if_pos (.inr kc)]
  refine g8 @rw2 gC2.idxG @ldk @k0 @rx2 @ry2 gA2.idxG @ldc ?_
  refine WP.call last ?_
  rintro _ h3 ⟨rfl,q⟩
  exact WP.ret ⟨rfl,q⟩
 ·rw[if_neg (fun q=>q.elim k0 kc)]
  refine g8 @rw2 gC2.idxG @ldk @k0 @rx2 @ry2 gA2.idxG @ldc ?_
  exact WP.ret ⟨rfl,keep _ _ rfl rfl⟩
end
end Go.Gm.AQ
namespace Go.Gm.AQ
open Go Go.Gm
def pkM (f:Int->Int->Int)(b:Bool)(u n:Nat):List Int:=(List.range n).filterMap fun (m:Nat)=>if 0<f u m/\b=false then some (f u m-1) else none
def pkTo (f:Int->Int->Int)(g:Int->Bool)(n:Nat):List Int:=(List.range n).flatMap fun (u:Nat)=>pkM f (g u) u 5
section
variable {f:Int->Int->Int} {g:Int->Bool}
theorem a6y (b:Bool)(u n:Nat):pkM f b u (n+1)=pkM f b u n++if 0<f u n/\b=false then [f u n-1] else []:=by
 simp only[pkM,List.range_succ,List.filterMap_append,List.filterMap_cons,List.filterMap_nil]
 congr 1
 by_cases q:0<f u n/\b=false
 ·rw[if_pos q,if_pos q]
 ·rw[if_neg q,if_neg q]
theorem a9J (n:Nat):pkTo f g (n+1)=pkTo f g n++pkM f (g n) n 5:=by
 simp[pkTo,List.range_succ]
theorem b4C (b:Bool)(u n:Nat):(pkM f b u n).length<=n:=by
 unfold pkM
 exact Nat.le_trans (List.length_filterMap_le _ _) (by simp)
theorem c1A (u n:Nat):pkM f true u n=[]:=by simp[pkM]
theorem a3P:∀n:Nat,(pkTo f g n).length<=5*n
 |0=>by simp[pkTo]
 |n+1=>by
  rw[a9J,List.length_append]
  have:=a3P n
  have:=b4C (f:=f) (g n) n 5
  omega
theorem b1a {n:Nat}{k:Int}:k∈pkTo f g n↔∃u m:Int,0<=u/\u<n/\0<=m/\m<5/\0<f u m/\g u=false/\k=f u m-1:=by
 simp only[pkTo,pkM,List.mem_flatMap,List.mem_range,List.mem_filterMap]
 constructor
 ·rintro ⟨u,hu,m,hm,he⟩
  split at he
  ·rename_i q
   injection he with he
   exact ⟨u,m,oM,oM,oM,oM,q.1,q.2,he.symm⟩
  ·cases he
 ·rintro ⟨u,m,u0,u1,m0,m1,q1,q2,rfl⟩
  refine ⟨u.toNat,oM,m.toNat,oM,?_⟩
  rw[Int.toNat_of_nonneg u0,Int.toNat_of_nonneg m0,if_pos ⟨q1,q2⟩]
end
section
variable {c:WC} {s:WS} {h0:Heap}
abbrev outF (c:WC)(s:WS)(v:Int):Int->Int->Int:=fun u m=>cu c.N s.C v u m
abbrev inF (c:WC)(s:WS)(v:Int):Int->Int->Int:=fun u m=>cu c.N s.C u v m
abbrev gonF (s:WS):Int->Bool:=fun u=>gi s.g u
abbrev gonV (s:WS)(v:Int):Int->Bool:=fun u=>gi s.g u || decide (u=v)
def CuOk (c:WC)(s:WS):Prop:=∀u w m:Int,0<=u->u<c.N->0<=w->w<c.N->0<=m->m<5->0<=cu c.N s.C u w m/\cu c.N s.C u w m<=1000000000
theorem c4T (ok:c.Ok)(w:WV c s h0)(hC:s.C.length=c.N*c.N*5)(hg:s.g.length=c.N)(cok:CuOk c s){v:Int}(v0:0<=v)(v1:v<c.N){u:Nat}(u1:u<c.N){Q:AV->Heap->Prop}(hQ:∀l h',Ext h0 h'->Gr h0.length h'.length h' 1 l ((pkTo (outF c s v) (gonF s) u++pkM (outF c s v) (gi s.g u) u 5).map encI)->WP (fun p:Nat × Nat=>a0l p.1 p.2 (.ptr c.oW 0 8 0) (I v) l (I u) h') Q) :
  ∀(d m:Nat) (l:AV) (h:Heap),m+d=5->Ext h0 h->Gr h0.length h.length h 1 l ((pkTo (outF c s v) (gonF s) u++pkM (outF c s v) (gi s.g u) u m).map encI)->
   WP (fun p:(Nat × Nat) × Nat=>f8_ p.1.1 p.1.2 p.2 (.ptr c.oW 0 8 0) (I v) l (I u) (I m) h) Q:=by
 intro d
 induction d with
 |zero=>
  intro m l h hm e g
  refine WP.rnd (fun i j=>a1S i.1 i.2 j (.ptr c.oW 0 8 0) (I v) l (I u) (I m) h) ?_
  rw[show m=5 by omega] at g ⊢
  simp -implicitDefEqProofs (disch:=first|assumption|omega|(simp only[gL,gA]<;>omega)|fail) only[gC,reduceIte]
  exact WP.lv (hQ l h e g) fun i j=>rfl
 |succ d ih=>
  intro m l h hm e g
  refine WP.rnd (fun i j=>a1S i.1 i.2 j (.ptr c.oW 0 8 0) (I v) l (I u) (I m) h) ?_
  have wh:=w.ext ok e
  have r:=wh.row
  have lb:=wh.lb
  have t:=ok.t
  have gC:=wh.gC.sl
  have gG:=wh.gG.sl
  obtain ⟨p0,p1⟩:=cu_lt (m:=(m:Int)) v0 v1 (show (0:Int)<=u by omega) oM oM oM
  have ck:=cok v u m v0 v1 oM oM oM oM
  obtain ⟨p,hp⟩:∃p,p=(v*(c.N:Int)+(u:Int))*5+(m:Int):=⟨_,rfl⟩
  obtain ⟨k,hk⟩:∃k,k=cu c.N s.C v u m:=⟨_,rfl⟩
  have hgk:gi s.C p=k:=by rw[hk,hp]
  have ef:outF c s v (u:Int) (m:Int)=k:=hk.symm
  rw[<-hk] at ck
  rw[<-hp] at p0 p1
  have hlt:p<s.C.length:=by rw[hC]; exact p1
  have ldk:=gC.ld0 (H:=h) (Ext.refl _) p0 hlt oM
  rw[hgk] at ldk
  replace ldk:Gm.ld1 h (elP 1 c.sC p)=some (I k):=ldk
  have ldg:=gG.ld0 (H:=h) (i:=(u:Int)) (Ext.refl _) oM oM oM
  replace ldg:Gm.ld1 h (elP 1 c.sG (u:Int))=some (.bool (gi s.g u)):=ldg
  have hle:=a3P (f:=outF c s v) (g:=gonF s) u
  have hle2:=b4C (f:=outF c s v) (gi s.g u) u m
  have hn:=ok.n
  simp -implicitDefEqProofs (maxSteps:=1000000) (disch:=first|assumption|omega|(simp only[gL]<;>omega)|((repeat (first|exact Ext.refl _|assumption|apply Ext.app|apply Ext.mk|(refine Ext.setr ?_ (by (first|omega|(simp only[gL]<;>omega))) _))); done)|(simp only[gL,gA,r]<;>omega)|fail) only[gB,setAll,partL,fldV,reduceIte,Nat.reduceAdd,Nat.reduceMul,r]
  refine WP.call (b0r ok wh.at v0 v1 oM oM oM oM) ?_
  rintro _ _ ⟨rfl,rfl⟩
  rw[<-hp]
  have fin:∀(l':AV) (h':Heap),Ext h0 h'->Gr h0.length h'.length h' 1 l' ((pkTo (outF c s v) (gonF s) u++pkM (outF c s v) (gi s.g u) u (m+1)).map encI)->WP (fun p:(Nat × Nat) × Nat=>f8_ p.1.1 p.1.2 p.2 (.ptr c.oW 0 8 0) (I v) l' (I u) (I ((m:Int)+1)) h') Q:=fun l' h' e' g'=>ih (m+1) l' h' oM e' g'
  by_cases k0:0<k
  ·cases hgu:gi s.g (u:Int) with
   |true=>
    rw[hgu] at ldg
    simp -implicitDefEqProofs (maxSteps:=1000000) (disch:=first|assumption|omega|(simp only[gL]<;>omega)|((repeat (first|exact Ext.refl _|assumption|apply Ext.app|apply Ext.mk|(refine Ext.setr ?_ (by (first|omega|(simp only[gL]<;>omega))) _))); done)|(simp only[gL,gA,r,gC.idxG,ldk,gG.idxG,ldg]<;>omega)|fail) only[gB,setAll,partL,fldV,reduceIte,Nat.reduceAdd,Nat.reduceMul,r,gC.idxG,ldk,gG.idxG,ldg]
    refine fin l h e (g.cong ?_)
    rw[a6y,ef,hgu]
    simp
   |false=>
    rw[hgu] at ldg
    obtain ⟨s',h',k1,k2,k3⟩:=g.append1 (bytes:=8) (v:=[I (k-1)]) rfl oM oM (by simp; omega) e.len (Nat.le_refl _)
    rw[a3_] at k1
    simp -implicitDefEqProofs (maxSteps:=1000000) (disch:=first|assumption|omega|(simp only[gL]<;>omega)|((repeat (first|exact Ext.refl _|assumption|apply Ext.app|apply Ext.mk|(refine Ext.setr ?_ (by (first|omega|(simp only[gL]<;>omega))) _))); done)|(simp only[gL,gA,r,gC.idxG,ldk,gG.idxG,ldg,k1]<;>omega)|fail) only[gB,setAll,partL,fldV,reduceIte,Nat.reduceAdd,Nat.reduceMul,r,gC.idxG,ldk,gG.idxG,ldg,k1]
    refine fin s' h' (k3.ext e (Nat.le_refl _)) (k2.cong ?_)
    rw[a6y,ef,hgu,if_pos ⟨k0,rfl⟩]
    simp[encI]
  ·simp -implicitDefEqProofs (maxSteps:=1000000) (disch:=first|assumption|omega|(simp only[gL]<;>omega)|((repeat (first|exact Ext.refl _|assumption|apply Ext.app|apply Ext.mk|(refine Ext.setr ?_ (by (first|omega|(simp only[gL]<;>omega))) _))); done)|(simp only[gL,gA,r,gC.idxG,ldk,k0]<;>omega)|fail) only[gB,setAll,partL,fldV,reduceIte,Nat.reduceAdd,Nat.reduceMul,r,gC.idxG,ldk,k0]
   refine fin l h e (g.cong ?_)
   rw[a6y,ef,if_neg (fun q=>k0 q.1)]
   simp
theorem c4U (ok:c.Ok)(w:WV c s h0)(hC:s.C.length=c.N*c.N*5)(hg:s.g.length=c.N)(cok:CuOk c s){v:Int}(v0:0<=v)(v1:v<c.N):∀(d u:Nat) (l:AV) (h:Heap),u+d=c.N->Ext h0 h->Gr h0.length h.length h 1 l ((pkTo (outF c s v) (gonF s) u).map encI)->
   WP (fun p:Nat × Nat=>q3_ p.1 p.2 (.ptr c.oW 0 8 0) (I v) l (I u) h) fun r h'=>Ext h0 h'/\Gr h0.length h'.length h' 1 r ((pkTo (outF c s v) (gonF s) c.N).map encI):=by
 intro d
 induction d with
 |zero=>
  intro u l h hu e g
  refine WP.rnd (fun i j=>a1T i j (.ptr c.oW 0 8 0) (I v) l (I u) h) ?_
  have r:=(w.ext ok e).row
  rw[show u=c.N by omega] at g ⊢
  refine g1 @r ?_
  exact WP.ret ⟨e,g⟩
 |succ d ih=>
  intro u l h hu e g
  refine WP.rnd (fun i j=>a1T i j (.ptr c.oW 0 8 0) (I v) l (I u) h) ?_
  have r:=(w.ext ok e).row
  have hn:=ok.n
  refine g1 @r ?_
  refine WP.ent (c4T ok w hC hg cok v0 v1 (u:=u) oM (fun l' h' e' g'=>?_) 5 0 l h oM e (g.cong (by simp[pkM]))) fun i=>rfl
  refine WP.congr (fun i=>a6i i.1 i.2 ..) ?_
  refine g0 ?_
  refine ih (u+1) l' h' oM e' (g'.cong ?_)
  rw[a9J]
theorem b5a (ok:c.Ok)(w:WV c s h0)(hC:s.C.length=c.N*c.N*5)(hg:s.g.length=c.N)(cok:CuOk c s){v:Int}(v0:0<=v)(v1:v<c.N) :
  Tot tab e6_ [.ptr c.oW 0 8 0,I v] h0 fun r h'=>Ext h0 h'/\Gr h0.length h'.length h' 1 r ((pkTo (outF c s v) (gonF s) c.N).map encI):=
 WP.tot (fun k=>a7K k _ _ h0) (WP.ent (c4U ok w hC hg cok v0 v1 c.N 0 .nils h0 oM (Ext.refl _) (Gr.nil ..)) fun i=>rfl)
theorem in_l2 (ok:c.Ok)(w:WV c s h0)(hC:s.C.length=c.N*c.N*5)(hg:s.g.length=c.N)(cok:CuOk c s){v:Int}(v0:0<=v)(v1:v<c.N){u:Nat}(u1:u<c.N)(huv:¬(u:Int)=v){Q:AV->Heap->Prop}(hQ:∀l h',Ext h0 h'->Gr h0.length h'.length h' 1 l ((pkTo (inF c s v) (gonV s v) u++pkM (inF c s v) (gi s.g u) u 5).map encI)->WP (fun p:Nat × Nat=>s7_ p.1 p.2 (.ptr c.oW 0 8 0) (I v) l (I u) h') Q) :
  ∀(d m:Nat) (l:AV) (h:Heap),m+d=5->Ext h0 h->Gr h0.length h.length h 1 l ((pkTo (inF c s v) (gonV s v) u++pkM (inF c s v) (gi s.g u) u m).map encI)->
   WP (fun p:(Nat × Nat) × Nat=>e5_ p.1.1 p.1.2 p.2 (.ptr c.oW 0 8 0) (I v) l (I u) (I m) h) Q:=by
 intro d
 induction d with
 |zero=>
  intro m l h hm e g
  refine WP.rnd (fun i j=>x1_ i.1 i.2 j (.ptr c.oW 0 8 0) (I v) l (I u) (I m) h) ?_
  rw[show m=5 by omega] at g ⊢
  simp -implicitDefEqProofs (disch:=first|assumption|omega|(simp only[gL,gA]<;>omega)|fail) only[gC,reduceIte]
  exact WP.lv (hQ l h e g) fun i j=>rfl
 |succ d ih=>
  intro m l h hm e g
  refine WP.rnd (fun i j=>x1_ i.1 i.2 j (.ptr c.oW 0 8 0) (I v) l (I u) (I m) h) ?_
  have wh:=w.ext ok e
  have r:=wh.row
  have lb:=wh.lb
  have t:=ok.t
  have gC:=wh.gC.sl
  have gG:=wh.gG.sl
  obtain ⟨p0,p1⟩:=cu_lt (m:=(m:Int)) (show (0:Int)<=u by omega) (show (u:Int)<c.N by omega) v0 v1 oM oM
  have ck:=cok u v m oM oM v0 v1 oM oM
  obtain ⟨p,hp⟩:∃p,p=((u:Int)*(c.N:Int)+v)*5+(m:Int):=⟨_,rfl⟩
  obtain ⟨k,hk⟩:∃k,k=cu c.N s.C u v m:=⟨_,rfl⟩
  have hgk:gi s.C p=k:=by rw[hk,hp]
  have ef:inF c s v (u:Int) (m:Int)=k:=hk.symm
  rw[<-hk] at ck
  rw[<-hp] at p0 p1
  have hlt:p<s.C.length:=by rw[hC]; exact p1
  have ldk:=gC.ld0 (H:=h) (Ext.refl _) p0 hlt oM
  rw[hgk] at ldk
  replace ldk:Gm.ld1 h (elP 1 c.sC p)=some (I k):=ldk
  have ldg:=gG.ld0 (H:=h) (i:=(u:Int)) (Ext.refl _) oM oM oM
  replace ldg:Gm.ld1 h (elP 1 c.sG (u:Int))=some (.bool (gi s.g u)):=ldg
  have hle:=a3P (f:=inF c s v) (g:=gonV s v) u
  have hle2:=b4C (f:=inF c s v) (gi s.g u) u m
  have hn:=ok.n
  simp -implicitDefEqProofs (maxSteps:=1000000) (disch:=first|assumption|omega|(simp only[gL]<;>omega)|((repeat (first|exact Ext.refl _|assumption|apply Ext.app|apply Ext.mk|(refine Ext.setr ?_ (by (first|omega|(simp only[gL]<;>omega))) _))); done)|(simp only[gL,gA,r]<;>omega)|fail) only[gB,setAll,partL,fldV,reduceIte,Nat.reduceAdd,Nat.reduceMul,r]
  refine WP.call (b0r ok wh.at oM oM v0 v1 oM oM) ?_
  rintro _ _ ⟨rfl,rfl⟩
  rw[<-hp]
  have fin:∀(l':AV) (h':Heap),Ext h0 h'->Gr h0.length h'.length h' 1 l' ((pkTo (inF c s v) (gonV s v) u++pkM (inF c s v) (gi s.g u) u (m+1)).map encI)->WP (fun p:(Nat × Nat) × Nat=>e5_ p.1.1 p.1.2 p.2 (.ptr c.oW 0 8 0) (I v) l' (I u) (I ((m:Int)+1)) h') Q:=fun l' h' e' g'=>ih (m+1) l' h' oM e' g'
  by_cases k0:0<k
  ·cases hgu:gi s.g (u:Int) with
   |true=>
    rw[hgu] at ldg
    simp -implicitDefEqProofs (maxSteps:=1000000) (disch:=first|assumption|omega|(simp only[gL]<;>omega)|((repeat (first|exact Ext.refl _|assumption|apply Ext.app|apply Ext.mk|(refine Ext.setr ?_ (by (first|omega|(simp only[gL]<;>omega))) _))); done)|(simp only[gL,gA,r,gC.idxG,ldk,gG.idxG,ldg]<;>omega)|fail) only[gB,setAll,partL,fldV,reduceIte,Nat.reduceAdd,Nat.reduceMul,r,gC.idxG,ldk,gG.idxG,ldg]
    refine fin l h e (g.cong ?_)
    rw[a6y,ef,hgu]
    simp
   |false=>
    rw[hgu] at ldg
    obtain ⟨s',h',k1,k2,k3⟩:=g.append1 (bytes:=8) (v:=[I (k-1)]) rfl oM oM (by simp; omega) e.len (Nat.le_refl _)
    rw[a3_] at k1
    simp -implicitDefEqProofs (maxSteps:=1000000) (disch:=first|assumption|omega|(simp only[gL]<;>omega)|((repeat (first|exact Ext.refl _|assumption|apply Ext.app|apply Ext.mk|(refine Ext.setr ?_ (by (first|omega|(simp only[gL]<;>omega))) _))); done)|(simp only[gL,gA,r,gC.idxG,ldk,gG.idxG,ldg,k1]<;>omega)|fail) only[gB,setAll,partL,fldV,reduceIte,Nat.reduceAdd,Nat.reduceMul,r,gC.idxG,ldk,gG.idxG,ldg,k1]
    refine fin s' h' (k3.ext e (Nat.le_refl _)) (k2.cong ?_)
    rw[a6y,ef,hgu,if_pos ⟨k0,rfl⟩]
    simp[encI]
  ·simp -implicitDefEqProofs (maxSteps:=1000000) (disch:=first|assumption|omega|(simp only[gL]<;>omega)|((repeat (first|exact Ext.refl _|assumption|apply Ext.app|apply Ext.mk|(refine Ext.setr ?_ (by (first|omega|(simp only[gL]<;>omega))) _))); done)|(simp only[gL,gA,r,gC.idxG,ldk,k0]<;>omega)|fail) only[gB,setAll,partL,fldV,reduceIte,Nat.reduceAdd,Nat.reduceMul,r,gC.idxG,ldk,k0]
   refine fin l h e (g.cong ?_)
   rw[a6y,ef,if_neg (fun q=>k0 q.1)]
   simp
theorem in_l1 (ok:c.Ok)(w:WV c s h0)(hC:s.C.length=c.N*c.N*5)(hg:s.g.length=c.N)(cok:CuOk c s){v:Int}(v0:0<=v)(v1:v<c.N):∀(d u:Nat) (l:AV) (h:Heap),u+d=c.N->Ext h0 h->Gr h0.length h.length h 1 l ((pkTo (inF c s v) (gonV s v) u).map encI)->
   WP (fun p:Nat × Nat=>s6_ p.1 p.2 (.ptr c.oW 0 8 0) (I v) l (I u) h) fun r h'=>Ext h0 h'/\Gr h0.length h'.length h' 1 r ((pkTo (inF c s v) (gonV s v) c.N).map encI):=by
 intro d
 induction d with
 |zero=>
  intro u l h hu e g
  refine WP.rnd (fun i j=>a2q i j (.ptr c.oW 0 8 0) (I v) l (I u) h) ?_
  have r:=(w.ext ok e).row
  rw[show u=c.N by omega] at g ⊢
  refine g1 @r ?_
  exact WP.ret ⟨e,g⟩
 |succ d ih=>
  intro u l h hu e g
  refine WP.rnd (fun i j=>a2q i j (.ptr c.oW 0 8 0) (I v) l (I u) h) ?_
  have r:=(w.ext ok e).row
  have hn:=ok.n
  refine g1 @r ?_
  have fin:∀(l':AV) (h':Heap),Ext h0 h'->Gr h0.length h'.length h' 1 l' ((pkTo (inF c s v) (gonV s v) (u+1)).map encI)->WP (fun p:Nat × Nat=>s7_ p.1 p.2 (.ptr c.oW 0 8 0) (I v) l' (I u) h') fun r h'=>Ext h0 h'/\Gr h0.length h'.length h' 1 r ((pkTo (inF c s v) (gonV s v) c.N).map encI):=by
   intro l' h' e' g'
   refine WP.congr (fun i=>a6K i.1 i.2 ..) ?_
   refine g0 ?_
   exact ih (u+1) l' h' oM e' g'
  by_cases huv:(u:Int)=v
  ·refine WP.ent (c2:=fun p:(Nat × Nat) × Nat=>e5_ p.1.1 p.1.2 p.2 (.ptr c.oW 0 8 0) (I v) l (I u) (I 0) h) ?_ fun i=>rfl
   refine WP.rnd (fun i j=>x1_ i.1 i.2 j (.ptr c.oW 0 8 0) (I v) l (I u) (I 0) h) ?_
   refine g1 @huv ?_
   refine WP.lv (fin l h e (g.cong ?_)) fun i j=>by rw[huv]
   rw[a9J,show gonV s v (u:Int)=true by simp[huv],c1A,List.append_nil]
  ·refine WP.ent (in_l2 ok w hC hg cok v0 v1 (u:=u) oM huv (fun l' h' e' g'=>?_) 5 0 l h oM e (g.cong (by simp[pkM]))) fun i=>rfl
   refine fin l' h' e' (g'.cong ?_)
   rw[a9J,show gonV s v (u:Int)=gi s.g (u:Int) by simp[huv]]
theorem c1B (ok:c.Ok)(w:WV c s h0)(hC:s.C.length=c.N*c.N*5)(hg:s.g.length=c.N)(cok:CuOk c s){v:Int}(v0:0<=v)(v1:v<c.N) :
  Tot tab h8_ [.ptr c.oW 0 8 0,I v] h0 fun r h'=>Ext h0 h'/\Gr h0.length h'.length h' 1 r ((pkTo (inF c s v) (gonV s v) c.N).map encI):=
 WP.tot (fun k=>a8m k _ _ h0) (WP.ent (in_l1 ok w hC hg cok v0 v1 c.N 0 .nils h0 oM (Ext.refl _) (Gr.nil ..)) fun i=>rfl)
end
end Go.Gm.AQ
