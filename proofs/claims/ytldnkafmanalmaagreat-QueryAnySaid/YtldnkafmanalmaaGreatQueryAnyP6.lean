/- A part of the proof (GmAZnf, GmAZnp, GmAZnq, GmAZnr, GmAZns, GmWd, GmLg, GmLh, GmPr, GmTx, GmDj, GmRl, GmSb, GmNl, GmSl, GmNy). -/
import Derived.Test.YtldnkafmanalmaaGreatQueryAnyP5
set_option autoImplicit true
set_option relaxedAutoImplicit true
set_option linter.unusedVariables false
set_option linter.unusedSimpArgs false
set_option linter.unusedSectionVars false
namespace Go.Gm.AZ
open Go Go.Gm
def encS (x:Nat × Nat × Nat):List AV:=[I x.1,I x.2.1,I x.2.2]
def encF (x:Nat × Nat):List AV:=[I x.1,I x.2]
def encN' (n:Nat):List AV:=[I n]
def BV (W:Nat->Prop)(h:Heap)(ob:Nat)(b:NS):Prop:=
 ∃(sS sF:AV) (oS oF:Nat),h[ob]?=some (.cells ⟨[I b.n,I 0,I 0,sS,sF,.bool b.much],0,0,false⟩)/\Gr oS (oS+1) h 3 sS (b.st.map encS)/\Gr oF (oF+1) h 2 sF (b.fr.map encF)/\W ob/\
  (sS≠.nils->W oS/\oS<h.length/\oS≠ob)/\(sF≠.nils->W oF/\oF<h.length/\oF≠ob/\(sS≠.nils->oF≠oS))
section
variable {W:Nat->Prop} {h h':Heap} {ob:Nat} {b:NS}
theorem BV.lt (v:BV W h ob b):ob<h.length/\W ob:=by
 obtain ⟨sS,sF,oS,oF,h1,_,_,h4,_⟩:=v
 exact ⟨(List.getElem?_eq_some_iff.1 h1).1,h4⟩
theorem t6_ (g:Gr lo (lo+1) h sz s xs)(f:FrS D h h')(hd:s≠.nils->¬D lo):Gr lo (lo+1) h' sz s xs:=by
 by_cases q:s=.nils
 ·subst q
  have:=g.isNil
  subst this
  exact Gr.nil ..
 ·exact g.frs f λo q1 q2=>by rw[show o=lo by omega]; exact hd q
theorem BV.frs (v:BV W h ob b)(f:FrS D h h')(hd:∀o,o<h.length->W o->¬D o):BV W h' ob b:=by
 have ⟨l1,l2⟩:=v.lt
 have l:=f.len
 obtain ⟨sS,sF,oS,oF,h1,h2,h3,h4,h5,h6⟩:=v
 refine ⟨sS,sF,oS,oF,by rw[f.get (hd _ l1 l2) l1]; exact h1,t6_ h2 f λz=>hd _ (h5 z).2.1 (h5 z).1,t6_ h3 f λz=>hd _ (h6 z).2.1 (h6 z).1,h4,λz=>?_,λz=>?_⟩
 ·have:=h5 z; exact ⟨this.1,oM,this.2.2⟩
 ·have:=h6 z; exact ⟨this.1,oM,this.2.2⟩
theorem BV.ext (v:BV W h ob b)(e:Ext h h'):BV W h' ob b:=v.frs (D:=λ_=>False) (FrS.ofExt e) λ_ _ _ z=>z
theorem BV.mono (v:BV W h ob b){W':Nat->Prop}(hw:∀o,o<h.length->W o->W' o):BV W' h ob b:=by
 have ⟨l1,l2⟩:=v.lt
 obtain ⟨sS,sF,oS,oF,h1,h2,h3,h4,h5,h6⟩:=v
 exact ⟨sS,sF,oS,oF,h1,h2,h3,hw _ l1 l2,λz=>⟨hw _ (h5 z).2.1 (h5 z).1,(h5 z).2⟩,λz=>⟨hw _ (h6 z).2.1 (h6 z).1,(h6 z).2⟩⟩
def Wn (W:Nat->Prop)(h h':Heap):Nat->Prop:=λo=>W o\/(h.length<=o/\o<h'.length)
theorem BV.setB (v:BV W h ob b)(n:Nat)(m:Bool):∃sS sF,h[ob]?=some (.cells ⟨[I b.n,I 0,I 0,sS,sF,.bool b.much],0,0,false⟩)/\BV W (h.set ob (.cells ⟨[I n,I 0,I 0,sS,sF,.bool m],0,0,false⟩)) ob ⟨n,m,b.st,b.fr⟩:=by
 have ⟨l1,l2⟩:=v.lt
 obtain ⟨sS,sF,oS,oF,h1,h2,h3,h4,h5,h6⟩:=v
 have f:∀x,FrS (λp=>p=ob) h (h.set ob x):=λx=>⟨by simp,λp p1 p2=>a9_ λz=>p1 z.symm⟩
 exact ⟨sS,sF,h1,sS,sF,oS,oF,a0_ l1,t6_ h2 (f _) λz=>(h5 z).2.2,t6_ h3 (f _) λz=>(h6 z).2.2.1,h4,λz=>by simpa using h5 z,λz=>by simpa using h6 z⟩
theorem b2Z (v:BV W h ob b)(hn:b.n<=1000):Tot tab l7_ [.ptr ob 0 6 0] h λr h'=>r=I b.state.1/\BV W h' ob b.state.2/\FrS W h h'/\h'.length=h.length:=by
 refine WP.tot (a5V · ..) ?_
 have ⟨l1,l2⟩:=v.lt
 have f:∀x,FrS W h (h.set ob x):=λx=>⟨by simp,λp p1 p2=>a9_ λz=>p1 (z▸l2)⟩
 by_cases q:1000<=b.n
 ·obtain ⟨sS,sF,r1,v1⟩:=v.setB b.n true
  have e:b.state=(0,⟨b.n,true,b.st,b.fr⟩):=by rw[NS.state,if_pos q]
  refine g1 @r1 ?_
  rw[e]
  exact WP.ret ⟨rfl,v1,f _,by simp⟩
 ·obtain ⟨sS,sF,r1,v1⟩:=v.setB (b.n+1) b.much
  have e:b.state=(b.n,⟨b.n+1,b.much,b.st,b.fr⟩):=by rw[NS.state,if_neg q]
  refine g1 @r1 ?_
  rw[e]
  refine WP.ret ⟨?_,v1,f _,by simp⟩
  show I _=I _
  congr 1
  omega
theorem b9a (v:BV W h ob b)(hl:b.fr.length<=1000000)(x y:Nat):Tot tab a2_ [.ptr ob 0 6 0,I x,I y] h λr h'=>r=.tup []/\BV (Wn W h h') h' ob (b.frees [(x,y)])/\FrS W h h':=by
 refine WP.tot (a6n · ..) ?_
 have ⟨l1,l2⟩:=v.lt
 obtain ⟨sS,sF,oS,oF,h1,h2,h3,h4,h5,h6⟩:=v
 have lit:=Gr.lit (h:=h) (sz:=2) (v:=encF (x,y)) rfl
 have e1:Ext h (mkObj h (encF (x,y))):=Ext.push _ _
 rw[a3_] at lit e1
 obtain ⟨s',h',o',q1,q2,q3,q4,q5⟩:=Gr.appQ (bytes:=16) (h3.ext e1) (λz=>by have:=h6 z; simp; omega) lit.sl oM oM (by simp; omega)
 have f:=(FrS.ofExt (D:=λp=>sF≠.nils/\p=oF) e1).trans q4
 have hl2:=f.len
 have hll:(h++[AObj.cells ⟨encF (x,y),0,0,false⟩]).length=h.length+1:=by simp
 have ro:=(f.get (o:=ob) (λz=>(h6 z.1).2.2.1 z.2.symm) l1).trans h1
 have bo:=(List.getElem?_eq_some_iff.1 ro).1
 have o1:=q2.sl.one
 have o2:=q2.sl.cells
 simp only[encF] at q1
 refine g5 @h1 @q1 @ro @o1 @o2 ?_
 have fs:∀y,FrS (λp=>p=ob) h' (h'.set ob y):=λy=>⟨by simp,λp p1 p2=>a9_ λz=>p1 z.symm⟩
 have q3':s'≠.nils->(W o'\/(h.length<=o'/\o'<h'.length))/\o'<h'.length/\o'≠ob/\(sS≠.nils->o'≠oS):=λz=>by
  obtain ⟨z1,z2⟩:=q3 z
  rcases z1 with ⟨rfl,z3⟩|z1
  ·have:=h6 z3
   exact ⟨.inl this.1,z2,this.2.2⟩
  ·refine ⟨.inr ⟨oM,z2⟩,z2,oM,λz4=>?_⟩
   have:=h5 z4; omega
 have gS:=t6_ h2 f λz1 z2=>(h6 z2.1).2.2.2 z1 z2.2.symm
 refine WP.ret ⟨rfl,⟨sS,s',oS,o',a0_ bo,t6_ gS (fs _) λz=>(h5 z).2.2,t6_ (q2.cong ?_) (fs _) λz=>(q3' z).2.2.1,.inl h4,λz=>⟨.inl (h5 z).1,by have:=(h5 z).2.1; simp; omega,(h5 z).2.2⟩,λz=>⟨by simpa [Wn] using (q3' z).1,by simpa using (q3' z).2.1,(q3' z).2.2⟩⟩,⟨by simp; omega,λp p1 p2=>?_⟩⟩
 ·simp[NS.frees,encF]
 ·rw[a9_ (o:=ob) (p:=p) (λz=>p1 (by rw[<-z]; exact l2)),f.get (o:=p) (λz=>p1 (by rw[z.2]; exact (h6 z.1).1)) p2]
theorem c3s (v:BV W h ob b)(hl:b.st.length<=1000000)(x:Nat × Nat × Nat):∃sS sF s' h',h[ob]?=some (.cells ⟨[I b.n,I 0,I 0,sS,sF,.bool b.much],0,0,false⟩)/\apnd 3 24 sS (.sl h.length 0 1 3 none 0) (h++[AObj.cells ⟨[I x.1,I x.2.1,I x.2.2],0,0,false⟩])=some (s',h')/\s'.one=true/\s'.cells=[s']/\
  h'[ob]?=some (.cells ⟨[I b.n,I 0,I 0,sS,sF,.bool b.much],0,0,false⟩)/\BV (Wn W h h') (h'.set ob (.cells ⟨[I b.n,I 0,I 0,s',sF,.bool b.much],0,0,false⟩)) ob (b.step x.1 x.2.1 x.2.2)/\FrS W h (h'.set ob (.cells ⟨[I b.n,I 0,I 0,s',sF,.bool b.much],0,0,false⟩)):=by
 have ⟨l1,l2⟩:=v.lt
 obtain ⟨sS,sF,oS,oF,h1,h2,h3,h4,h5,h6⟩:=v
 have lit:=Gr.lit (h:=h) (sz:=3) (v:=encS x) rfl
 have e1:Ext h (mkObj h (encS x)):=Ext.push _ _
 rw[a3_] at lit e1
 obtain ⟨s',h',o',q1,q2,q3,q4,q5⟩:=Gr.appQ (bytes:=24) (h2.ext e1) (λz=>by have:=h5 z; simp; omega) lit.sl oM oM (by simp; omega)
 have f:=(FrS.ofExt (D:=λp=>sS≠.nils/\p=oS) e1).trans q4
 have hl2:=f.len
 have hll:(h++[AObj.cells ⟨encS x,0,0,false⟩]).length=h.length+1:=by simp
 have ro:=(f.get (o:=ob) (λz=>(h5 z.1).2.2 z.2.symm) l1).trans h1
 have bo:=(List.getElem?_eq_some_iff.1 ro).1
 have fs:∀y,FrS (λp=>p=ob) h' (h'.set ob y):=λy=>⟨by simp,λp p1 p2=>a9_ λz=>p1 z.symm⟩
 have q3':s'≠.nils->(W o'\/(h.length<=o'/\o'<h'.length))/\o'<h'.length/\o'≠ob/\(sF≠.nils->oF≠o'):=λz=>by
  obtain ⟨z1,z2⟩:=q3 z
  rcases z1 with ⟨rfl,z3⟩|z1
  ·have:=h5 z3
   exact ⟨.inl this.1,z2,this.2.2,λz4=>(h6 z4).2.2.2 z3⟩
  ·refine ⟨.inr ⟨oM,z2⟩,z2,oM,λz4=>?_⟩
   have:=h6 z4; omega
 have gF:=t6_ h3 f λz1 z2=>(h6 z1).2.2.2 z2.1 z2.2
 refine ⟨sS,sF,s',h',h1,q1,q2.sl.one,q2.sl.cells,ro,⟨s',sF,o',oF,a0_ bo,t6_ (q2.cong ?_) (fs _) λz=>(q3' z).2.2.1,t6_ gF (fs _) λz=>(h6 z).2.2.1,.inl h4,λz=>⟨by simpa [Wn] using (q3' z).1,by simpa using (q3' z).2.1,(q3' z).2.2.1⟩,λz=>⟨.inl (h6 z).1,by have:=(h6 z).2.1; simp; omega,(h6 z).2.2.1,λz2=>(q3' z2).2.2.2 z⟩⟩,⟨by simp; omega,λp p1 p2=>?_⟩⟩
 ·simp[NS.step,encS]
 ·rw[a9_ (o:=ob) (p:=p) (λz=>p1 (by rw[<-z]; exact l2)),f.get (o:=p) (λz=>p1 (by rw[z.2]; exact (h5 z.1).1)) p2]
def FQ (W:Nat->Prop)(h:Heap)(ob:Nat)(b:NS)(l:List (Nat × Nat))(h':Heap):Prop:=BV (Wn W h h') h' ob (b.frees l)/\FrS W h h'
theorem Wn.step {h1 h2:Heap}(l1:h.length<=h1.length)(l2:h1.length<=h2.length):∀o,Wn (Wn W h h1) h1 h2 o->Wn W h h2 o:=by
 intro o z
 rcases z with (z|z)|z
 ·exact .inl z
 ·exact .inr ⟨z.1,oM⟩
 ·exact .inr ⟨oM,z.2⟩
theorem FrS.wn (f1:FrS W h h1)(f2:FrS (Wn W h h1) h1 h2):FrS W h h2:=
 ⟨Nat.le_trans f1.1 f2.1,λo o1 o2=>(f2.get (λz=>by
  rcases z with z|z
  ·exact o1 z
  ·omega) (Nat.lt_of_lt_of_le o2 f1.1)).trans (f1.get o1 o2)⟩
end
end Go.Gm.AZ
namespace Go.Gm.AZ
open Go Go.Gm
section
variable {W:Nat->Prop} {h h':Heap} {ob:Nat} {b:NS}
theorem b5c (b:NS):b.frees []=b:=by cases b; simp[NS.frees]
theorem c0i (b:NS)(x y:List (Nat × Nat)):(b.frees x).frees y=b.frees (x++y):=by simp[NS.frees]
theorem FQ.zero (v:BV W h ob b):FQ W h ob b [] h:=⟨by rw[b5c]; exact v.mono λo _ z=>.inl z,FrS.refl _ _⟩
theorem FQ.free (q:FQ W h ob b l h1)(hl:b.fr.length+l.length<=1000000)(x y:Nat):Tot tab a2_ [.ptr ob 0 6 0,I x,I y] h1 λr h2=>r=.tup []/\FQ W h ob b (l++[(x,y)]) h2:=by
 refine (b9a q.1 (by simp[NS.frees]; exact hl) x y).mono ?_
 rintro _ h2 ⟨rfl,v,f⟩
 rw[c0i] at v
 exact ⟨rfl,v.mono λo _ z=>Wn.step q.2.len f.len o z,FrS.wn q.2 f⟩
structure FT (W:Nat->Prop) (h:Heap) (sf st:AV) (ft:List (Nat × Nat)):Prop where
 f:Sl h 1 sf ((ft.map (·.1)).map encN')
 t:Sl h 1 st ((ft.map (·.2)).map encN')
 nf:sf≠.nils->¬W sf.obj
 nt:st≠.nils->¬W st.obj
theorem FT.frs (a:FT W h sf st ft)(f:FrS W h h'):FT W h' sf st ft:=⟨Sl.frs a.f f a.nf,Sl.frs a.t f a.nt,a.nf,a.nt⟩
theorem FT.ext (a:FT W h sf st ft)(e:Ext h h'):FT W h' sf st ft:=⟨a.f.ext e,a.t.ext e,a.nf,a.nt⟩
theorem a5v {ft:List (Nat × Nat)}{i:Nat}(hx:ft[i]?=some x):gi (ft.map (·.1)) (i:Int)=x.1/\gi (ft.map (·.2)) (i:Int)=x.2/\i<ft.length:=by
 have hi:=(List.getElem?_eq_some_iff.1 hx).1
 rw[b2_ (by simpa using hi),b2_ (by simpa using hi)]
 rw[List.getElem?_eq_getElem hi] at hx
 injection hx with hx
 simp[hx,hi]
theorem b2y {α:Type}{l:List α}{i:Nat}{e:α}(h:l[i]?=some e):l.take (i+1)=l.take i++[e]:=by
 rw[List.take_add_one,h]; rfl
theorem c0j {ft:List (Nat × Nat)}{i:Nat}(hx:ft[i]?=some x):NS.uniE s e (ft.take (i+1))=NS.uniE s e (ft.take i)++[(s,x.1)]++[(x.2,e)]:=by
 rw[b2y hx]
 simp[NS.uniE]
theorem c3t (a:FT W h sf st ft)(hl:b.fr.length<=10000)(hft:ft.length<=2000){Q:AV->Heap->Prop}(hQ:∀h1,FQ W h ob b (NS.uniE s e ft) h1->Q (.tup []) h1) :
  ∀(d i:Nat) (h1:Heap),i+d=ft.length->FQ W h ob b (NS.uniE s e (ft.take i)) h1->
   WP (λp:Nat × Nat=>l5_ p.1 p.2 (.ptr ob 0 6 0) (I s) (I e) sf st (I i) h1) Q:=by
 intro d
 induction d with
 |zero=>
  intro i h1 hi q
  refine WP.rnd (a0M · · ..) ?_
  have hf:=(a.frs q.2).f.lenG
  rw[List.length_map] at hf
  rw[List.take_of_length_le oM] at q
  refine g1 @hf ?_
  exact WP.ret (hQ h1 q)
 |succ d ih=>
  intro i h1 hi q
  refine WP.rnd (a0M · · ..) ?_
  obtain ⟨x,hx⟩:∃x,ft[i]?=some x:=⟨ft[i],List.getElem?_eq_getElem oM⟩
  obtain ⟨g1,g2,_⟩:=a5v hx
  have f1:=(a.frs q.2).f
  have hf:=f1.lenG
  rw[List.length_map] at hf
  have lm1:(ft.map (·.1)).length=ft.length:=List.length_map ..
  have lm2:(ft.map (·.2)).length=ft.length:=List.length_map ..
  have hul:(NS.uniE s e (ft.take i)).length<=4000:=by rw[b3N,List.length_take]; omega
  refine g7 @hf f1.idxG f1.ld0 @g1 @encN'.eq_1 @lm1 @lm2 ?_
  refine WP.call (q.free oM s x.1) ?_
  rintro _ h2 ⟨rfl,q2⟩
  have t2:=(a.frs q2.2).t
  refine g6 t2.idxG t2.ld0 @g2 @encN'.eq_1 @lm1 @lm2 ?_
  refine WP.call (q2.free (by rw[List.length_append]; simp; omega) x.2 e) ?_
  rintro _ h3 ⟨rfl,q3⟩
  refine ih (i+1) h3 oM ?_
  rw[c0j hx]; exact q3
def rpO (lo e:Nat)(ft:List (Nat × Nat))(k:Nat):List (Nat × Nat):=
 (if k+1=ft.length\/lo<=k+1 then [((ft.getD k (0,0)).2,e)] else [])++if k+1=ft.length then [] else [((ft.getD k (0,0)).2,(ft.getD (k+1) (0,0)).1)]
def rpE (lo e:Nat)(ft:List (Nat × Nat)):Nat->List (Nat × Nat)
 |0=>[]
 |k+1=>rpE lo e ft k++rpO lo e ft k
theorem b7Z (lo e:Nat)(ft:List (Nat × Nat)):∀k,(rpE lo e ft k).length<=2*k
 |0=>by simp[rpE]
 |k+1=>by
  have:=b7Z lo e ft k
  simp only[rpE,rpO,List.length_append]
  split<;>split<;>simp<;>omega
theorem b8a (lo e:Nat):∀(ft:List (Nat × Nat)) (i:Nat),NS.repE lo e i ft=(List.range ft.length).flatMap λk=>(if k+1=ft.length\/lo<=i+k+1 then [((ft.getD k (0,0)).2,e)] else [])++if k+1=ft.length then [] else [((ft.getD k (0,0)).2,(ft.getD (k+1) (0,0)).1)]
 |[],i=>by simp[NS.repE]
 |[f],i=>by simp[NS.repE]
 |f::g::l,i=>by
  have ih:=b8a lo e (g::l) (i+1)
  rw[NS.repE,ih,show (f::g::l).length=(g::l).length+1 from rfl,List.range_succ_eq_map,List.flatMap_cons,List.flatMap_map]
  simp only[Nat.zero_add,List.getD_cons_zero,List.getD_cons_succ,List.length_cons]
  have h1:¬(1=l.length+1+1):=oM
  simp only[h1,false_or,if_false,Nat.add_zero]
  rw[List.append_assoc]
  congr 1
  rw[List.singleton_append]
  congr 1
  congr 1
  funext k
  simp only[Nat.succ_eq_add_one,Nat.add_right_cancel_iff]
  rw[show i+1+k+1=i+(k+1)+1 by omega]
theorem c3u (lo e:Nat)(ft:List (Nat × Nat)):NS.repE lo e 0 ft=rpE lo e ft ft.length:=by
 rw[b8a]
 have:∀n,(List.range n).flatMap (λk=>(if k+1=ft.length\/lo<=0+k+1 then [((ft.getD k (0,0)).2,e)] else [])++if k+1=ft.length then [] else [((ft.getD k (0,0)).2,(ft.getD (k+1) (0,0)).1)])=rpE lo e ft n:=by
  intro n
  induction n with
  |zero=>rfl
  |succ n ih=>rw[List.range_succ,List.flatMap_append,ih,rpE]; simp[rpO]
 exact this _
theorem c0k {s e lo o7:Nat}{c1 c2 c4 c5:AV}{pre:List (Nat × Nat)}(a:FT W h sf st ft)(hl:b.fr.length<=10000)(hft:ft.length<=2000)(hpre:pre.length<=10)(hlo:lo<=2000)(r7:h[o7]?=some (.cells ⟨[c1,c2,I lo,c4,c5],0,0,false⟩))(w7:¬W o7){Q:AV->Heap->Prop}(hQ:∀h1,FQ W h ob b (pre++NS.repE lo e 0 ft++if lo=0 then [(s,e)] else []) h1->Q (.tup []) h1) :
  ∀(d i:Nat) (h1:Heap),i+d=ft.length->FQ W h ob b (pre++rpE lo e ft i) h1->
   WP (λp:Nat × Nat=>f6_ p.1 p.2 (.ptr ob 0 6 0) (I s) (I e) sf st (.ptr o7 0 5 0) (I i) h1) Q:=by
 have b7:=(List.getElem?_eq_some_iff.1 r7).1
 have row:∀{l h1},FQ W h ob b l h1->h1[o7]?=some (.cells ⟨[c1,c2,I lo,c4,c5],0,0,false⟩):=λq=>by rw[q.2.get w7 b7]; exact r7
 have lm1:(ft.map (·.1)).length=ft.length:=List.length_map ..
 have lm2:(ft.map (·.2)).length=ft.length:=List.length_map ..
 intro d
 induction d with
 |zero=>
  intro i h1 hi q
  refine WP.rnd (a0m · · ..) ?_
  have hf:=(a.frs q.2).f.lenG
  rw[List.length_map] at hf
  obtain rfl:i=ft.length:=oM
  rw[<-c3u] at q
  refine g1 @hf ?_
  refine WP.lv (WP.congr (λk:Nat=>a4I k (.ptr ob 0 6 0) (I s) (I e) (.ptr o7 0 5 0) h1) ?_) λi j=>rfl
  have r1:=row q
  have hrl:(NS.repE lo e 0 ft).length<=4000:=by have:=b3M lo e ft 0; omega
  by_cases q0:lo=0
  ·have q0':(lo:Int)=0:=oM
   refine g2 @r1 @q0' ?_
   refine WP.call (q.free (by rw[List.length_append]; omega) s e) ?_
   rintro _ h2 ⟨rfl,q2⟩
   rw[if_pos q0] at hQ
   exact WP.ret (hQ h2 q2)
  ·rw[if_neg q0,List.append_nil] at hQ
   refine g1 @r1 ?_
   exact WP.ret (hQ h1 q)
 |succ d ih=>
  intro i h1 hi q
  refine WP.rnd (a0m · · ..) ?_
  obtain ⟨x,hx⟩:∃x,ft[i]?=some x:=⟨ft[i],List.getElem?_eq_getElem oM⟩
  obtain ⟨g1,g2,hil⟩:=a5v hx
  have f1:=(a.frs q.2).f
  have t1:=(a.frs q.2).t
  have hf:=f1.lenG
  rw[List.length_map] at hf
  have r1:=row q
  have hrl:=b7Z lo e ft i
  have gx:ft.getD i (0,0)=x:=by rw[List.getD_eq_getElem?_getD,hx]; rfl
  have b3:∀(h2:Heap),FQ W h ob b (pre++rpE lo e ft i++(if i+1=ft.length\/lo<=i+1 then [(x.2,e)] else [])) h2->
    WP (λp:Nat × Nat=>j2_ p.1 p.2 (.ptr ob 0 6 0) (I s) (I e) sf st (.ptr o7 0 5 0) (I i) (.bool (decide (i+1=ft.length))) h2) Q:=by
   intro h2 q2
   refine WP.congr (λp=>a4H p.1 p.2 ..) ?_
   by_cases z:i+1=ft.length
   ·rw[decide_eq_true z]
    refine g0 ?_
    refine ih (i+1) h2 oM ?_
    rw[rpE,rpO,gx,if_pos z,List.append_nil,<-List.append_assoc]
    exact q2
   ·rw[decide_eq_false z]
    obtain ⟨y,hy⟩:∃y,ft[i+1]?=some y:=⟨ft[i+1],List.getElem?_eq_getElem oM⟩
    obtain ⟨k1,k2,_⟩:=a5v hy
    have k1':gi (ft.map (·.1)) ((i:Int)+1)=y.1:=by rw[show (i:Int)+1=((i+1:Nat):Int) by omega]; exact k1
    have gy:ft.getD (i+1) (0,0)=y:=by rw[List.getD_eq_getElem?_getD,hy]; rfl
    have f2:=(a.frs q2.2).f
    have t2:=(a.frs q2.2).t
    refine g9 f2.idxG f2.ld0 t2.idxG t2.ld0 @g2 @k1' @encN'.eq_1 @lm1 @lm2 ?_
    refine WP.call (q2.free (by simp only[List.length_append]; split<;>simp<;>omega) x.2 y.1) ?_
    rintro _ h3 ⟨rfl,q3⟩
    refine ih (i+1) h3 oM ?_
    rw[rpE,rpO,gx,gy,if_neg z,<-List.append_assoc,<-List.append_assoc]
    exact q3
  by_cases z:i+1=ft.length
  ·have z1:(i:Int)=(ft.length:Int)-1:=oM
   have z2:binV .eql .scalar (I i) (I ((ft.length:Int)-1))=some (.bool true):=eql_t z1
   refine g8 @hf @z2 t1.idxG t1.ld0 @g2 @encN'.eq_1 @lm1 @lm2 ?_
   refine WP.call (q.free (by simp only[List.length_append]; omega) x.2 e) ?_
   rintro _ h2 ⟨rfl,q2⟩
   have:=b3 h2 (by rw[if_pos (.inl z)]; exact q2)
   rw[decide_eq_true z] at this
   exact this
  ·by_cases y:lo<=i+1
   ·simp -implicitDefEqProofs (disch:=first|assumption|omega|exact Ext.refl _|(simp only[gL,gA]<;>omega)|fail) only[cG,reduceIte,hf,r1,t1.idxG,t1.ld0,g2,encN',lm1,lm2]
    refine WP.call (q.free (by simp only[List.length_append]; omega) x.2 e) ?_
    rintro _ h2 ⟨rfl,q2⟩
    have:=b3 h2 (by rw[if_pos (.inr y)]; exact q2)
    rw[decide_eq_false z] at this
    exact this
   ·simp -implicitDefEqProofs (disch:=first|assumption|omega|(simp only[gL,gA]<;>omega)|fail) only[cG,reduceIte,hf,r1]
    have:=b3 h1 (by rw[if_neg (λw=>w.elim z y),List.append_nil]; exact q)
    rw[decide_eq_false z] at this
    exact this
end
end Go.Gm.AZ
namespace Go.Gm.AZ
open Go Go.Gm
section
variable {W:Nat->Prop} {h h':Heap} {ob:Nat} {b:NS}
theorem FT.box (a:FT W h sf st ft)(x:AObj):FT W (h++[x]) sf st ft:=a.ext (Ext.push _ _)
theorem FQ.out (e:Ext h h2)(q:FQ W h2 ob b l h3):BV (Wn W h h3) h3 ob (b.frees l)/\FrS W h h3:=
 ⟨q.1.mono λo _ z=>z.elim .inl λz=>.inr ⟨by have:=e.len; omega,z.2⟩,(FrS.ofExt e).trans (q.2.mono λo _ z=>z)⟩
theorem b6z {sf st s5:AV}{s e lo hi:Nat}(v:BV W h ob b)(hW:∀o,W o->o<h.length)(a:FT W h sf st ft)(hl:b.fr.length<=10000)(hft:ft.length=hi)(hhi:hi<=9)(hlo:lo<=hi)(h5:s5.one=true) :
  Tot tab c8_ [.ptr ob 0 6 0,.agg [I 9,I 0,I lo,I hi,s5],I s,I e,sf,st] h λr h'=>r=.tup []/\BV (Wn W h h') h' ob (b.lead s e ft (.rep lo hi c))/\FrS W h h':=by
 refine WP.tot (a5G · ..) ?_
 obtain ⟨h2,hh2⟩:∃h2,h2=h++[AObj.cells ⟨[I 9,I 0,I lo,I hi,s5],0,0,false⟩]:=⟨_,rfl⟩
 have e2:Ext h h2:=by rw[hh2]; exact Ext.push _ _
 have r2:h2[h.length]?=some (.cells ⟨[I 9,I 0,I lo,I hi,s5],0,0,false⟩):=by rw[hh2]; simp
 have w7:¬W h.length:=λz=>by have:=hW _ z; omega
 have q0:=FQ.zero (v.ext e2)
 have a2:=a.ext e2
 have lm1:(ft.map (·.1)).length=ft.length:=List.length_map ..
 by_cases q:0<hi
 ·obtain ⟨x,hx⟩:∃x,ft[0]?=some x:=⟨ft[0],List.getElem?_eq_getElem oM⟩
  have g1:gi (ft.map (·.1)) 0=x.1:=(a5v hx).1
  have ehd:NS.hd ft=x:=by
   cases ft with
   |nil=>simp at hx
   |cons y l=>simp at hx; subst hx; rfl
  simp -implicitDefEqProofs (disch:=first|assumption|omega|(simp only[gL,gA]<;>omega)|fail) only[cG,reduceIte,h5]
  rw[<-hh2]
  refine g5 a2.f.idxG a2.f.ld0 @g1 @encN'.eq_1 @lm1 ?_
  refine WP.call (q0.free (by simp; omega) s x.1) ?_
  rintro _ h3 ⟨rfl,q1⟩
  refine WP.congr (λk:Nat=>a0n k (.ptr ob 0 6 0) (I s) (I e) sf st (.ptr h.length 0 5 0) h3) ?_
  refine WP.ent (c0k (pre:=[(s,x.1)]) a2 hl oM (by simp) oM r2 w7 (λh4 q4=>⟨rfl,?_⟩) ft.length 0 h3 oM (by rw[rpE,List.append_nil]; exact q1)) λi=>rfl
  have:=q4.out e2
  simp only[NS.lead,ehd,if_pos q]
  exact this
 ·refine g1 @h5 ?_
  rw[<-hh2]
  refine WP.congr (λk:Nat=>a0n k (.ptr ob 0 6 0) (I s) (I e) sf st (.ptr h.length 0 5 0) h2) ?_
  refine WP.ent (c0k (pre:=[]) a2 hl oM (by simp) oM r2 w7 (λh4 q4=>⟨rfl,?_⟩) ft.length 0 h2 oM (by rw[rpE]; exact q0)) λi=>rfl
  have:=q4.out e2
  simp only[NS.lead,if_neg q]
  exact this
def LdOk (ft:List (Nat × Nat)):Nd->Prop
 |.star _|.plus _|.opt _=>ft.length=1
 |.rep lo hi _=>ft.length=hi/\hi<=9/\lo<=hi
 |.join _=>False
 |_=>ft.length<=2000
theorem b9b {sf st s5:AV}{ft:List (Nat × Nat)}{s e:Nat}{n:Nd}(v:BV W h ob b)(hW:∀o,W o->o<h.length)(a:FT W h sf st ft)(hl:b.fr.length<=10000)(hst:b.st.length<=10000)(hn:LdOk ft n)(h5:s5.one=true) :
  Tot tab n2_ [.ptr ob 0 6 0,.agg [I n.kind,I n.st,I n.lo,I n.hi,s5],I s,I e,sf,st] h λr h'=>r=.tup []/\BV (Wn W h h') h' ob (b.lead s e ft n)/\FrS W h h':=by
 refine WP.tot (a6l · ..) ?_
 have lm1:(ft.map (·.1)).length=ft.length:=List.length_map ..
 have lm2:(ft.map (·.2)).length=ft.length:=List.length_map ..
 obtain ⟨c5,hc5⟩:∃c5,c5=[I n.kind,I n.st,I n.lo,I n.hi,s5]:=⟨_,rfl⟩
 obtain ⟨h2,hh2⟩:∃h2,h2=h++[AObj.cells ⟨c5,0,0,false⟩]:=⟨_,rfl⟩
 have e2:Ext h h2:=by rw[hh2]; exact Ext.push _ _
 have r2:h2[h.length]?=some (.cells ⟨c5,0,0,false⟩):=by rw[hh2]; simp
 have w7:¬W h.length:=λz=>by have:=hW _ z; omega
 have v2:=v.ext e2
 have q0:=FQ.zero v2
 have a2:=a.ext e2
 rw[hc5] at r2 hh2
 have one:∀{x},ft=[x]->∀{h3 l},FQ W h2 ob b l h3->Sl h3 1 sf ([x.1].map encN')/\Sl h3 1 st ([x.2].map encN'):=λhx h3 l q=>by
  subst hx
  exact ⟨(a2.frs q.2).f,(a2.frs q.2).t⟩
 cases n with
 |set k=>
  simp only[Nd.kind,Nd.st,Nd.lo,Nd.hi,Int.ofNat_zero] at r2 hh2 ⊢
  obtain ⟨sS,sF,s',h3,k1,k2,k3,k4,k5,k6,k7⟩:=c3s v2 oM (s,e,k)
  have l2:h2.length=h.length+1:=by rw[hh2]; simp
  simp only[l2] at k2
  refine g1 @h5 ?_
  rw[<-hh2]
  refine g6 @r2 @k1 @k2 @k5 @k3 @k4 ?_
  refine WP.ret ⟨rfl,k6.mono λo _ z=>?_,(FrS.ofExt e2).trans k7⟩
  rcases z with z|z
  ·exact .inl z
  ·exact .inr ⟨by have:=e2.len; omega,by simpa using z.2⟩
 |emp=>
  simp only[Nd.kind,Nd.st,Nd.lo,Nd.hi,Int.ofNat_zero] at r2 hh2 ⊢
  refine g1 @h5 ?_
  rw[<-hh2]
  have:=q0.out e2
  rw[b5c] at this
  exact WP.ret ⟨rfl,this⟩
 |eps=>
  simp only[Nd.kind,Nd.st,Nd.lo,Nd.hi,Int.ofNat_zero] at r2 hh2 ⊢
  refine g1 @h5 ?_
  rw[<-hh2]
  refine WP.call (q0.free (by simp; omega) s e) ?_
  rintro _ h3 ⟨rfl,q1⟩
  exact WP.ret ⟨rfl,q1.out e2⟩
 |join l=>exact hn.elim
 |uni l=>
  have hn:ft.length<=2000:=hn
  simp only[Nd.kind,Nd.st,Nd.lo,Nd.hi,Int.ofNat_zero] at r2 hh2 ⊢
  simp -implicitDefEqProofs (disch:=first|assumption|omega|(simp only[gL,gA]<;>omega)|fail) only[cG,reduceIte,h5]
  rw[<-hh2]
  exact WP.ent (c3t a2 hl hn (λh4 q4=>⟨rfl,q4.out e2⟩) ft.length 0 h2 oM (by simpa [NS.uniE] using q0)) λi=>rfl
 |star c=>
  have hn:ft.length=1:=hn
  obtain ⟨x,rfl⟩:∃x,ft=[x]:=by
   match ft,hn with
   |[x],_=>exact ⟨x,rfl⟩
  simp only[Nd.kind,Nd.st,Nd.lo,Nd.hi,Int.ofNat_zero] at r2 hh2 ⊢
  have g1:gi [x.1] 0=x.1:=rfl
  have g2:gi [x.2] 0=x.2:=rfl
  obtain ⟨f0,t0⟩:=one rfl q0
  simp -implicitDefEqProofs (disch:=first|assumption|omega|(simp only[gL,gA]<;>omega)|fail) only[cG,reduceIte,h5]
  rw[<-hh2]
  refine g4 f0.idxG f0.ld0 @g1 @encN'.eq_1 ?_
  refine WP.call (q0.free (by simp; omega) s x.1) ?_
  rintro _ h3 ⟨rfl,q1⟩
  refine WP.call (q1.free (by simp; omega) s e) ?_
  rintro _ h4 ⟨rfl,q2⟩
  obtain ⟨f2,t2⟩:=one rfl q2
  refine g7 f2.idxG f2.ld0 @g1 t2.idxG t2.ld0 @g2 @encN'.eq_1 ?_
  refine WP.call (q2.free (by simp; omega) x.2 x.1) ?_
  rintro _ h5' ⟨rfl,q3⟩
  obtain ⟨f3,t3⟩:=one rfl q3
  simp -implicitDefEqProofs (disch:=first|assumption|omega|exact Ext.refl _|(simp only[gL,gA]<;>omega)|fail) only[cG,reduceIte,t3.idxG,t3.ld0,g2,encN']
  refine WP.call (q3.free (by simp; omega) x.2 e) ?_
  rintro _ h6 ⟨rfl,q4⟩
  exact WP.ret ⟨rfl,q4.out e2⟩
 |plus c=>
  have hn:ft.length=1:=hn
  obtain ⟨x,rfl⟩:∃x,ft=[x]:=by
   match ft,hn with
   |[x],_=>exact ⟨x,rfl⟩
  simp only[Nd.kind,Nd.st,Nd.lo,Nd.hi,Int.ofNat_zero] at r2 hh2 ⊢
  have g1:gi [x.1] 0=x.1:=rfl
  have g2:gi [x.2] 0=x.2:=rfl
  obtain ⟨f0,t0⟩:=one rfl q0
  simp -implicitDefEqProofs (disch:=first|assumption|omega|(simp only[gL,gA]<;>omega)|fail) only[cG,reduceIte,h5]
  rw[<-hh2]
  refine g5 @r2 f0.idxG f0.ld0 @g1 @encN'.eq_1 ?_
  refine WP.call (q0.free (by simp; omega) s x.1) ?_
  rintro _ h3 ⟨rfl,q1⟩
  obtain ⟨f2,t2⟩:=one rfl q1
  refine g7 f2.idxG f2.ld0 @g1 t2.idxG t2.ld0 @g2 @encN'.eq_1 ?_
  refine WP.call (q1.free (by simp; omega) x.2 x.1) ?_
  rintro _ h5' ⟨rfl,q3⟩
  obtain ⟨f3,t3⟩:=one rfl q3
  simp -implicitDefEqProofs (disch:=first|assumption|omega|exact Ext.refl _|(simp only[gL,gA]<;>omega)|fail) only[cG,reduceIte,t3.idxG,t3.ld0,g2,encN']
  refine WP.call (q3.free (by simp; omega) x.2 e) ?_
  rintro _ h6 ⟨rfl,q4⟩
  exact WP.ret ⟨rfl,q4.out e2⟩
 |opt c=>
  have hn:ft.length=1:=hn
  obtain ⟨x,rfl⟩:∃x,ft=[x]:=by
   match ft,hn with
   |[x],_=>exact ⟨x,rfl⟩
  simp only[Nd.kind,Nd.st,Nd.lo,Nd.hi,Int.ofNat_zero] at r2 hh2 ⊢
  have g1:gi [x.1] 0=x.1:=rfl
  have g2:gi [x.2] 0=x.2:=rfl
  obtain ⟨f0,t0⟩:=one rfl q0
  simp -implicitDefEqProofs (disch:=first|assumption|omega|(simp only[gL,gA]<;>omega)|fail) only[cG,reduceIte,h5]
  rw[<-hh2]
  refine g5 @r2 f0.idxG f0.ld0 @g1 @encN'.eq_1 ?_
  refine WP.call (q0.free (by simp; omega) s x.1) ?_
  rintro _ h3 ⟨rfl,q1⟩
  refine WP.call (q1.free (by simp; omega) s e) ?_
  rintro _ h4 ⟨rfl,q2⟩
  obtain ⟨f2,t2⟩:=one rfl q2
  refine g4 t2.idxG t2.ld0 @g2 @encN'.eq_1 ?_
  refine WP.call (q2.free (by simp; omega) x.2 e) ?_
  rintro _ h6 ⟨rfl,q4⟩
  exact WP.ret ⟨rfl,q4.out e2⟩
 |rep lo hi c=>
  obtain ⟨hn1,hn2,hn3⟩:ft.length=hi/\hi<=9/\lo<=hi:=hn
  simp only[Nd.kind,Nd.st,Nd.lo,Nd.hi,Int.ofNat_zero] at r2 hh2 ⊢
  refine g1 @h5 ?_
  rw[<-hh2]
  refine WP.call (b6z (c:=c) v2 (λo z=>by have:=hW o z; have:=e2.len; omega) a2 hl hn1 hn2 hn3 h5) ?_
  rintro _ h3 ⟨rfl,v3,f3⟩
  exact WP.ret ⟨rfl,v3.mono λo _ z=>z.elim .inl λz=>.inr ⟨by have:=e2.len; omega,z.2⟩,(FrS.ofExt e2).trans f3⟩
end
end Go.Gm.AZ
namespace Go.Gm.AZ
open Go Go.Gm
def PartS (n:Nd):Prop:=∀(h0 h:Heap) (W:Nat->Prop) (ob:Nat) (b:NS) (c5:List AV),NV h0 n c5->Ext h0 h->(∀o,W o->h0.length<=o/\o<h.length)->BV W h ob b->NSok b->
 Tot tab b9_ [.ptr ob 0 6 0,.agg c5] h λr h'=>r=.tup [I (NS.part n b).1.1,I (NS.part n b).1.2]/\BV (Wn W h h') h' ob (NS.part n b).2/\FrS W h h'
structure PLs (h0 hE h:Heap) (W0 W:Nat->Prop) (ob o3:Nat) (b:NS) (c5:List AV) (sf st:AV) (oA oB:Nat) (ft:List (Nat × Nat)):Prop where
 e0:Ext h0 h
 le:h0.length<=hE.length
 fr:FrS W0 hE h
 wl:∀o,W o->h0.length<=o/\o<h.length
 w0:∀o,W o->W0 o\/hE.length<=o
 bv:BV W h ob b
 n3:¬W o3
 r3:h[o3]?=some (.cells ⟨c5,0,0,false⟩)
 l3:hE.length<=o3
 gA:Gr oA (oA+1) h 1 sf ((ft.map (·.1)).map encN')
 gB:Gr oB (oB+1) h 1 st ((ft.map (·.2)).map encN')
 nA:sf≠.nils->¬W oA/\oA<h.length/\oA≠o3/\hE.length<=oA
 nB:st≠.nils->¬W oB/\oB<h.length/\oB≠o3/\hE.length<=oB/\(sf≠.nils->oB≠oA)
section
variable {h0 hE h h':Heap} {W0 W:Nat->Prop} {ob o3:Nat} {b b1:NS} {c5:List AV} {sf st:AV} {oA oB:Nat} {ft:List (Nat × Nat)}
theorem PLs.ext (p:PLs h0 hE h W0 W ob o3 b c5 sf st oA oB ft)(e:Ext h h'):PLs h0 hE h' W0 W ob o3 b c5 sf st oA oB ft:=by
 have l:=e.len
 refine ⟨p.e0.trans e,p.le,p.fr.trans (FrS.ofExt e),λo z=>by have:=p.wl o z; omega,p.w0,p.bv.ext e,p.n3,e.get p.r3,p.l3,p.gA.ext e,p.gB.ext e,λz=>?_,λz=>?_⟩
 ·have:=p.nA z; exact ⟨this.1,oM,this.2.2⟩
 ·have:=p.nB z; exact ⟨this.1,oM,this.2.2⟩
theorem PLs.ftv (p:PLs h0 hE h W0 W ob o3 b c5 sf st oA oB ft):FT W h sf st ft:=by
 refine ⟨p.gA.sl,p.gB.sl,λz=>?_,λz=>?_⟩
 ·have:=p.gA.objIn z
  have h1:=p.nA z
  rw[show sf.obj=oA by omega]; exact h1.1
 ·have:=p.gB.objIn z
  have h1:=p.nB z
  rw[show st.obj=oB by omega]; exact h1.1
theorem PLs.call (p:PLs h0 hE h W0 W ob o3 b c5 sf st oA oB ft)(f:FrS W h h')(v:BV (Wn W h h') h' ob b1):PLs h0 hE h' W0 (Wn W h h') ob o3 b1 c5 sf st oA oB ft:=by
 have l:=f.len
 have l3:=(List.getElem?_eq_some_iff.1 p.r3).1
 have le:=p.le
 have lE:=p.fr.len
 refine ⟨f.ext p.e0 λo z1 z2=>by have:=p.wl o z2; omega,p.le,⟨Nat.le_trans p.fr.1 f.1,λo z1 z2=>(f.get (λz=>?_) oM).trans (p.fr.get z1 z2)⟩,λo z=>?_,λo z=>?_,v,λz=>?_,by rw[f.get p.n3 l3]; exact p.r3,p.l3,t6_ p.gA f λz=>(p.nA z).1,t6_ p.gB f λz=>(p.nB z).1,λz=>?_,λz=>?_⟩
 ·rcases p.w0 o z with z|z
  ·exact z1 z
  ·omega
 ·rcases z with z|z
  ·have:=p.wl o z; omega
  ·omega
 ·rcases z with z|z
  ·exact p.w0 o z
  ·exact .inr oM
 ·rcases z with z|z
  ·exact p.n3 z
  ·omega
 ·have:=p.nA z
  refine ⟨λy=>?_,oM,this.2.2⟩
  rcases y with y|y
  ·exact this.1 y
  ·omega
 ·have:=p.nB z
  refine ⟨λy=>?_,oM,this.2.2⟩
  rcases y with y|y
  ·exact this.1 y
  ·omega
theorem PLs.add (p:PLs h0 hE h W0 W ob o3 b c5 sf st oA oB ft)(x:Nat × Nat)(hl:ft.length<=100000) :
  ∃s1 h2 s2 h3 oA' oB',apnd 1 8 sf (.sl h.length 0 1 1 none 0) (h++[AObj.cells ⟨[I x.1],0,0,false⟩])=some (s1,h2)/\apnd 1 8 st (.sl h2.length 0 1 1 none 0) (h2++[AObj.cells ⟨[I x.2],0,0,false⟩])=some (s2,h3)/\PLs h0 hE h3 W0 W ob o3 b c5 s1 s2 oA' oB' (ft++[x]):=by
 have l3:=(List.getElem?_eq_some_iff.1 p.r3).1
 have le:=p.le
 have lE:=p.fr.len
 have litA:=Gr.lit (h:=h) (sz:=1) (v:=encN' x.1) rfl
 have e1:Ext h (mkObj h (encN' x.1)):=Ext.push _ _
 rw[a3_] at litA e1
 have hl1:(h++[AObj.cells ⟨encN' x.1,0,0,false⟩]).length=h.length+1:=by simp
 obtain ⟨s1,h2,oA',a1,a2,a3,a4,a5⟩:=Gr.appQ (bytes:=8) (p.gA.ext e1) (λz=>by have:=p.nA z; omega) litA.sl oM oM (by simp; omega)
 have f1:=(FrS.ofExt (D:=λq=>sf≠.nils/\q=oA) e1).trans a4
 have l2:=f1.len
 have l12:=a4.len
 have gB1:=t6_ p.gB f1 λz1 z2=>(p.nB z1).2.2.2.2 z2.1 z2.2
 have v1:=p.bv.frs f1 λo z1 z2 z3=>(p.nA z3.1).1 (z3.2▸z2)
 have A':s1≠.nils->((oA'=oA/\sf≠.nils)\/h.length<=oA')/\oA'<h2.length:=λz=>by
  obtain ⟨z1,z2⟩:=a3 z
  exact ⟨z1.imp id λz=>oM,z2⟩
 have litB:=Gr.lit (h:=h2) (sz:=1) (v:=encN' x.2) rfl
 have e2:Ext h2 (mkObj h2 (encN' x.2)):=Ext.push _ _
 rw[a3_] at litB e2
 have hl2:(h2++[AObj.cells ⟨encN' x.2,0,0,false⟩]).length=h2.length+1:=by simp
 obtain ⟨s2,h3,oB',b1,b2,b3,b4,b5⟩:=Gr.appQ (bytes:=8) (gB1.ext e2) (λz=>by have:=p.nB z; omega) litB.sl oM oM (by simp; omega)
 have f2:=(FrS.ofExt (D:=λq=>st≠.nils/\q=oB) e2).trans b4
 have l3':=f2.len
 have l23:=b4.len
 have B':s2≠.nils->((oB'=oB/\st≠.nils)\/h2.length<=oB')/\oB'<h3.length:=λz=>by
  obtain ⟨z1,z2⟩:=b3 z
  exact ⟨z1.imp id λz=>oM,z2⟩
 have gA2:=t6_ (a2.cong (show _=((ft++[x]).map (·.1)).map encN' by simp)) f2 λz1 z2=>by
  rcases (A' z1).1 with ⟨y1,y2⟩|y
  ·exact (p.nB z2.1).2.2.2.2 y2 (by rw[<-y1]; exact z2.2.symm)
  ·have:=p.nB z2.1; omega
 have v2:=v1.frs f2 λo z1 z2 z3=>(p.nB z3.1).1 (z3.2▸z2)
 have F:FrS (λq=>(sf≠.nils/\q=oA)\/(st≠.nils/\q=oB)) h h3:=(f1.mono λo _ z=>.inl z).trans (f2.mono λo _ z=>.inr z)
 have hF3:¬((sf≠.nils/\o3=oA)\/(st≠.nils/\o3=oB)):=λz=>by
  rcases z with z|z
  ·have:=p.nA z.1; omega
  ·have:=p.nB z.1; omega
 refine ⟨s1,h2,s2,h3,oA',oB',a1,b1,⟨F.ext p.e0 λo z1 z2=>?_,p.le,⟨oM,λo z1 z2=>(F.get (λz=>?_) oM).trans (p.fr.get z1 z2)⟩,λo z=>by have:=p.wl o z; omega,p.w0,v2,p.n3,by rw[F.get hF3 l3]; exact p.r3,p.l3,gA2,b2.cong (by simp),λz=>?_,λz=>?_⟩⟩
 ·rcases z2 with z2|z2
  ·have:=p.nA z2.1; omega
  ·have:=p.nB z2.1; omega
 ·rcases z with z|z
  ·have:=p.nA z.1; omega
  ·have:=p.nB z.1; omega
 ·obtain ⟨z1,z2⟩:=A' z
  rcases z1 with ⟨y1,y2⟩|y
  ·have:=p.nA y2
   rw[y1]; exact ⟨this.1,oM,this.2.2⟩
  ·exact ⟨λw=>by have:=p.wl _ w; omega,oM,oM,oM⟩
 ·obtain ⟨z1,z2⟩:=B' z
  rcases z1 with ⟨y1,y2⟩|y
  ·have h6:=p.nB y2
   rw[y1]
   refine ⟨h6.1,oM,h6.2.2.1,h6.2.2.2.1,λw=>?_⟩
   rcases (A' w).1 with ⟨x1,x2⟩|x1
   ·rw[x1]; exact h6.2.2.2.2 x2
   ·omega
  ·refine ⟨λw=>by have:=p.wl _ w; omega,oM,oM,oM,λw=>?_⟩
   have:=(A' w).2; omega
end
structure KidsV (h0:Heap) (n:Nd) (c5:List AV) (sL:AV) (css:List (List AV)):Prop where
 c:c5=[I n.kind,I n.st,I n.lo,I n.hi,sL]
 sl:Sl h0 5 sL (css.map id)
 nv:NVs h0 n.kids css
theorem kidsV (a:NV h0 n c5):∃sL css,KidsV h0 n c5 sL css:=by
 obtain ⟨s,css,h1,h2,h3⟩:=a.inv
 exact ⟨s,css,h1,by simpa using h2,h3⟩
theorem KidsV.get {h0:Heap}{n c:Nd}{c5:List AV}{sL:AV}{css:List (List AV)}(k:KidsV h0 n c5 sL css){i:Nat}(hi:n.kids[i]?=some c):∃cc,gi css (i:Int)=cc/\NV h0 c cc/\i<css.length:=by
 obtain ⟨cc,h1,h2⟩:=NVs.get k.nv hi
 have:=(List.getElem?_eq_some_iff.1 h1).1
 refine ⟨cc,?_,h2,this⟩
 rw[b2_ this]
 rw[List.getElem?_eq_getElem this] at h1
 injection h1
section
variable {h0 hE:Heap} {W0:Nat->Prop} {ob o3:Nat} {c5:List AV} {n:Nd} {sL:AV} {css:List (List AV)}
theorem c3v (kv:KidsV h0 n c5 sL css){el:List Nd}(hel:∀(i:Nat) c,el[i]?=some c->(∃c0,n.kids[0]?=some c0)/\((n.kind=5/\n.kids[i]?=some c)\/(n.kind≠5/\n.kids[0]?=some c)))(hell:el.length<=1000)(ih:∀c∈el,PartS c)(sz:∀c∈el,SzN c)(hQ:∀h W sf st oA oB,PLs h0 hE h W0 W ob o3 bE c5 sf st oA oB ftE->NSok bE->WP (λk:Nat=>g7_ k (.ptr ob 0 6 0) (.ptr o3 0 5 0) (I s) sf st h) Q) :
  ∀(d i:Nat) (h:Heap) (W:Nat->Prop) (b:NS) (sf st:AV) (oA oB:Nat) (ft:List (Nat × Nat)),i+d=el.length->ft.length=i->PLs h0 hE h W0 W ob o3 b c5 sf st oA oB ft->NSok b->ft++(NS.parts (el.drop i) b).1=ftE->(NS.parts (el.drop i) b).2=bE->
   WP (λp:Nat × Nat=>l0_ p.1 p.2 (.ptr ob 0 6 0) (.ptr o3 0 5 0) (I s) sf st (I el.length) (I i) h) Q:=by
 have e5:=kv.c
 intro d
 induction d with
 |zero=>
  intro i h W b sf st oA oB ft hi hfl p ok h1 h2
  refine WP.rnd (a0I · · ..) ?_
  rw[List.drop_of_length_le oM,NS.parts] at h1 h2
  simp only[List.append_nil] at h1 h2
  subst h1 h2
  refine g0 ?_
  exact WP.lv (hQ h W sf st oA oB p ok) λi j=>rfl
 |succ d IH=>
  intro i h W b sf st oA oB ft hi hfl p ok h1 h2
  refine WP.rnd (a0I · · ..) ?_
  obtain ⟨c,hc⟩:∃c,el[i]?=some c:=⟨el[i],List.getElem?_eq_getElem oM⟩
  have hdr:el.drop i=c::el.drop (i+1):=by
   rw[List.getElem?_eq_getElem oM] at hc
   injection hc with hc
   rw[<-hc]; exact List.drop_eq_getElem_cons oM
  rw[hdr,NS.parts] at h1 h2
  obtain ⟨sS,sF,oS,oF,rb,_⟩:=p.bv
  by_cases m:b.much=true
  ·rw[if_pos m] at h1 h2
   simp only[List.append_nil] at h1 h2
   subst h1 h2
   rw[m] at rb
   refine g1 @rb ?_
   exact WP.lv (hQ h W sf st oA oB p ok) λi j=>rfl
  ·rw[if_neg m] at h1 h2
   simp only at h1 h2
   rw[Bool.not_eq_true] at m
   rw[m] at rb
   have hcm:=List.mem_of_getElem? hc
   obtain ⟨⟨c0,hk0⟩,hk⟩:=hel i c hc
   obtain ⟨cc0,k1,k2,k3⟩:=kv.get hk0
   have k1':gi css 0=cc0:=k1
   have r3:=p.r3
   rw[e5] at r3
   have slE:=kv.sl.ext p.e0
   have o0:=k2.one
   have l0:=k2.len
   have b3:∀(h4:Heap) (ox:Nat) (cc:List AV),Ext h h4->h4[ox]?=some (.cells ⟨cc,0,0,false⟩)->NV h0 c cc->
     WP (λp:Nat × Nat=>l1_ p.1 p.2 (.ptr ob 0 6 0) (.ptr o3 0 5 0) (I s) sf st (I el.length) (I i) (.ptr ox 0 5 0) h4) Q:=by
    intro h4 ox cc e4 rx nvx
    refine WP.congr (λp=>a5d p.1 p.2 ..) ?_
    have p4:=p.ext e4
    have lcc:=nvx.len
    have hld:rdNAt 5 h4[ox]? 0 5 0=some (.agg cc):=by
     rw[rx]; simp only[rdNAt]
     rw[if_pos ⟨oM,Nat.le_refl _⟩,List.drop_zero,List.take_of_length_le oM]
    refine g1 @hld ?_
    refine WP.call (ih c hcm h0 h4 W ob b cc nvx p4.e0 p4.wl p4.bv ok) ?_
    rintro _ h5 ⟨rfl,v5,f5⟩
    have p5:=p4.call f5 v5
    obtain ⟨s1,h6,s2,h7,oA',oB',a1,a2,p7⟩:=p5.add (NS.part c b).1 oM
    refine g4 @a4_ @a5_ @a1 @a2 ?_
    exact IH (i+1) h7 _ _ s1 s2 oA' oB' _ oM (by simp[hfl]) p7 (ok.sz (sz c hcm b).1) (by rw[List.append_assoc]; exact h1) h2
   obtain ⟨h3,hh3⟩:∃h3,h3=((h++[AObj.cells ⟨[I 0,I 0,I 0,I 0,.nils],0,0,false⟩]).set h.length (.cells ⟨cc0,0,0,false⟩)):=⟨_,rfl⟩
   have e3:Ext h h3:=by rw[hh3]; exact eX
   have r33:=e3.get r3
   have sl3:=slE.ext e3
   have rx:h3[h.length]?=some (.cells ⟨cc0,0,0,false⟩):=by rw[hh3]; exact a0_ (by simp)
   have bx:=(List.getElem?_eq_some_iff.1 rx).1
   have sA:∀{a b:List AV},a.length=5->b.length=5->setAll a 0 b=b:=by
    intro a b ha hb
    match a,ha,b,hb with
    |[_,_,_,_,_],_,[_,_,_,_,_],_=>rfl
   have sA0:=sA (a:=[I 0,I 0,I 0,I 0,.nils]) rfl l0
   simp only[I] at sA0
   by_cases q5:n.kind=5
   ·have hki:=(hk.resolve_right λz=>z.1 q5).2
    obtain ⟨cc,j1,j2,j3⟩:=kv.get hki
    have sB:=sA l0 j2.len
    have lj:=j2.len
    have oj:=j2.one
    obtain ⟨h4,hh4⟩:∃h4,h4=h3.set h.length (.cells ⟨cc,0,0,false⟩):=⟨_,rfl⟩
    simp -implicitDefEqProofs (disch:=first|assumption|omega|exact Ext.refl _|(simp only[gL,gA]<;>omega)|fail) only[cG,reduceIte,rb,r3,slE.idxG,slE.ldN,id_eq,k1',sA0]
    rw[<-hh3]
    simp -implicitDefEqProofs (disch:=first|assumption|omega|exact Ext.refl _|(simp only[gL,gA]<;>omega)|fail) only[cG,reduceIte,r33,q5,sl3.idxG,sl3.ldN,id_eq,j1,rx,sB]
    rw[<-hh4]
    exact b3 h4 h.length cc (by rw[hh4]; exact e3.setr (Nat.le_refl _) _) (by rw[hh4]; exact a0_ bx) j2
   ·have hki:=(hk.resolve_left λz=>q5 z.1).2
    rw[hk0] at hki
    injection hki with hki
    subst hki
    simp -implicitDefEqProofs (disch:=first|assumption|omega|exact Ext.refl _|(simp only[gL,gA]<;>omega)|fail) only[cG,reduceIte,rb,r3,slE.idxG,slE.ldN,id_eq,k1',sA0]
    rw[<-hh3]
    refine g1 @r33 ?_
    exact b3 h3 h.length cc0 e3 rx k2
end
end Go.Gm.AZ
namespace Go.Gm.AZ
open Go Go.Gm
def elOf:Nd->List Nd
 |.uni l=>l
 |.join l=>l
 |.star c|.plus c|.opt c=>[c]
 |.rep _ hi c=>List.replicate hi c
 |_=>[]
theorem a4T (c:Nd):∀k,NS.times (NS.part c) k=NS.parts (List.replicate k c)
 |0=>by funext b; rw[List.replicate_zero,NS.times,NS.parts]
 |k+1=>by
  funext b
  rw[List.replicate_succ,NS.times,NS.parts,a4T c k]
theorem b2d:(λb=>([],b))=NS.parts []:=by funext b; rw[NS.parts]
theorem b7D {n:Nd}(h:n.kind≠4)(b:NS):NS.part n b=NS.around n (NS.parts (elOf n)) b:=by
 cases n with
 |join l=>exact absurd rfl h
 |set k=>rw[NS.part,b2d]; rfl
 |emp=>rw[NS.part,b2d]; rfl
 |eps=>rw[NS.part,b2d]; rfl
 |uni l=>rw[NS.part]; rfl
 |star c=>rw[NS.part,a4T]; rfl
 |plus c=>rw[NS.part,a4T]; rfl
 |opt c=>rw[NS.part,a4T]; rfl
 |rep lo hi c=>rw[NS.part,a4T]; rfl
theorem a9g {n c:Nd}(h:c∈elOf n):c∈n.kids:=by
 cases n with
 |rep lo hi d=>rw[List.eq_of_mem_replicate h]; simp[Nd.kids]
 |_=>first|exact h|(simp[elOf] at h)
theorem c1Q {n:Nd}(h4:n.kind≠4)(i:Nat)(c:Nd)(h:(elOf n)[i]?=some c):(∃c0,n.kids[0]?=some c0)/\((n.kind=5/\n.kids[i]?=some c)\/(n.kind≠5/\n.kids[0]?=some c)):=by
 have one:∀d:Nd,[d][i]?=some c->c=d:=λd h=>by
  have:=List.mem_of_getElem? h
  simpa using this
 cases n with
 |join l=>exact absurd rfl h4
 |set k=>simp[elOf] at h
 |emp=>simp[elOf] at h
 |eps=>simp[elOf] at h
 |uni l=>
  have hi:=(List.getElem?_eq_some_iff.1 h).1
  exact ⟨⟨l[0]'(by simp[elOf] at hi; omega),List.getElem?_eq_getElem _⟩,.inl ⟨rfl,h⟩⟩
 |star d=>rw[one d h]; exact ⟨⟨d,rfl⟩,.inr ⟨by simp[Nd.kind],rfl⟩⟩
 |plus d=>rw[one d h]; exact ⟨⟨d,rfl⟩,.inr ⟨by simp[Nd.kind],rfl⟩⟩
 |opt d=>rw[one d h]; exact ⟨⟨d,rfl⟩,.inr ⟨by simp[Nd.kind],rfl⟩⟩
 |rep lo hi d=>
  rw[List.eq_of_mem_replicate (List.mem_of_getElem? h)]
  exact ⟨⟨d,rfl⟩,.inr ⟨by simp[Nd.kind],rfl⟩⟩
inductive Bd:Nd->Prop
 |mk {n:Nd}:n.st<2 ^ 62->n.kids.length<=1000->(∀c∈n.kids,Bd c)->Bd n
theorem Bd.kid (g:Bd n):∀c∈n.kids,Bd c:=by cases g; assumption
theorem Bd.len (g:Bd n):n.kids.length<=1000:=by cases g; assumption
theorem b6A (g:Gd n)(d:Bd n):(elOf n).length<=1000:=by
 cases n with
 |rep lo hi c=>have:lo<=hi/\hi<=9:=g.rt; simp[elOf]; omega
 |uni l=>exact d.len
 |join l=>exact d.len
 |_=>simp[elOf]
theorem c0l (g:Gd n):SzP (NS.parts (elOf n)) (elOf n).length:=a7r _ λc hc=>szn c (g.kid c (a9g hc))
theorem c3w (g:Gd n)(d:Bd n)(h4:n.kind≠4){ft:List (Nat × Nat)}(h:ft.length=(elOf n).length):LdOk ft n:=by
 have hl:=b6A g d
 cases n with
 |join l=>exact absurd rfl h4
 |set k=>show ft.length<=2000; omega
 |emp=>show ft.length<=2000; omega
 |eps=>show ft.length<=2000; omega
 |uni l=>show ft.length<=2000; omega
 |star c=>exact h
 |plus c=>exact h
 |opt c=>exact h
 |rep lo hi c=>
  have:lo<=hi/\hi<=9:=g.rt
  exact ⟨by rw[h]; simp[elOf],this.2,this.1⟩
section
variable {h0 h:Heap} {W:Nat->Prop} {ob:Nat} {b:NS} {c5:List AV} {n:Nd}
theorem c3x {hE:Heap}{W0:Nat->Prop}{o3 s:Nat}{sf st:AV}{oA oB:Nat}{ft:List (Nat × Nat)}{sL:AV}{css:List (List AV)}(kv:KidsV h0 n c5 sL css)(h5:sL.one=true)(p:PLs h0 hE h W0 W ob o3 b c5 sf st oA oB ft)(ok:NSok b)(hn:b.state.2.much=false->LdOk ft n) :
  WP (λk:Nat=>g7_ k (.ptr ob 0 6 0) (.ptr o3 0 5 0) (I s) sf st h) λr h'=>r=.tup [I s,I b.state.1]/\BV (Wn W0 hE h') h' ob (if b.state.2.much then b.state.2 else b.state.2.lead s b.state.1 ft n)/\FrS W0 hE h':=by
 refine WP.congr (λk:Nat=>a5f k (.ptr ob 0 6 0) (.ptr o3 0 5 0) (I s) sf st h) ?_
 refine WP.call (b2Z p.bv ok.n) ?_
 rintro _ h1 ⟨rfl,v1,f1,l1⟩
 have okS:=ok.sz (b1w b).1
 have p1:=p.call f1 (v1.mono λo _ z=>.inl z)
 have le:=p.le
 have lE:=p.fr.len
 have fin:∀{h2:Heap} {b2:NS},FrS (Wn W h h1) h1 h2->BV (Wn (Wn W h h1) h1 h2) h2 ob b2->BV (Wn W0 hE h2) h2 ob b2/\FrS W0 hE h2:=fun {h2 b2} f v=>by
  have p2:=p1.call f v
  refine ⟨v.mono λo z1 z2=>?_,p2.fr⟩
  rcases p2.w0 o z2 with z|z
  ·exact .inl z
  ·exact .inr ⟨z,z1⟩
 obtain ⟨sS,sF,oS,oF,rb,_⟩:=p1.bv
 have r3:=p1.r3
 rw[kv.c] at r3
 have b5:∀h2,WP (λk:Nat=>l2_ k (I s) (I b.state.1) h2) λr h'=>r=.tup [I s,I b.state.1]/\h2=h':=λh2=>by
  refine WP.congr (λk:Nat=>a5e k (I s) (I b.state.1) h2) ?_
  exact WP.ret ⟨rfl,rfl⟩
 by_cases m:b.state.2.much=true
 ·rw[m] at rb
  refine g1 @rb ?_
  refine (b5 h1).mono ?_
  rintro r h' ⟨rfl,rfl⟩
  rw[if_pos m]
  exact ⟨rfl,fin (FrS.refl _ _) (p1.bv.mono λo _ z=>.inl z)⟩
 ·rw[if_neg m]
  rw[Bool.not_eq_true] at m
  rw[m] at rb
  refine g2 @rb @r3 ?_
  have hfr:=okS.fr
  have hst:=okS.st
  have hnn:=okS.n
  refine WP.call (b9b p1.bv (λo z=>(p1.wl o z).2) p1.ftv oM oM (hn m) h5) ?_
  rintro _ h2 ⟨rfl,v2,f2⟩
  refine (b5 h2).mono ?_
  rintro r h' ⟨rfl,rfl⟩
  exact ⟨rfl,fin f2 v2⟩
theorem c3y (hk:n.kind≠4)(g:Gd n)(d:Bd n)(ih:∀c∈elOf n,PartS c):PartS n:=by
 intro h0 h W ob b c5 nv e0 hW v ok
 refine WP.tot (a1U · ..) ?_
 rw[b7D hk]
 obtain ⟨sL,css,kv⟩:=kidsV nv
 have h5:=kv.sl.one
 have lkk:=d.len
 have lel:=b6A g d
 have hst:n.st<2 ^ 62:=by cases d; assumption
 obtain ⟨h1,hh1⟩:∃h1,h1=h++[AObj.cells ⟨[I n.kind,I n.st,I n.lo,I n.hi,sL],0,0,false⟩]:=⟨_,rfl⟩
 have e1:Ext h h1:=by rw[hh1]; exact Ext.push _ _
 have l1:h1.length=h.length+1:=by rw[hh1]; simp
 have r1:h1[h.length]?=some (.cells ⟨[I n.kind,I n.st,I n.lo,I n.hi,sL],0,0,false⟩):=by rw[hh1]; simp
 have v1:=v.ext e1
 have l0:=e0.len
 obtain ⟨sS,sF,oS,oF,rb,_⟩:=v1
 have v1:=v.ext e1
 have hcc:=kv.c
 simp only[NS.around]
 by_cases m:b.much=true
 ·rw[m] at rb
  rw[if_pos m,hcc]
  refine g1 @h5 ?_
  rw[<-hh1]
  refine g1 @rb ?_
  exact WP.ret ⟨rfl,v1.mono λo _ z=>.inl z,FrS.ofExt e1⟩
 ·rw[if_neg m]
  rw[Bool.not_eq_true] at m
  rw[m] at rb
  have hk4:¬n.kind=4:=hk
  rw[hcc]
  refine g1 @h5 ?_
  rw[<-hh1]
  refine g2 @rb @r1 ?_
  refine WP.call (b2Z v1 ok.n) ?_
  rintro _ h2 ⟨rfl,v2,f2,l2⟩
  have okS:=ok.sz (b1w b).1
  have r2:h2[h.length]?=some (.cells ⟨[I n.kind,I n.st,I n.lo,I n.hi,sL],0,0,false⟩):=by
   rw[f2.get (λz=>by have:=hW _ z; omega) oM]; exact r1
  have p0:PLs h0 h h2 W W ob h.length b.state.2 c5 .nils .nils 0 0 []:=by
   refine ⟨f2.ext (e0.trans e1) λo z1 z2=>by have:=hW o z2; omega,l0,(FrS.ofExt e1).trans (f2.mono λo _ z=>z),λo z=>by have:=hW o z; omega,λo z=>.inl z,v2,λz=>by have:=hW _ z; omega,by rw[hcc]; exact r2,Nat.le_refl _,Gr.nil ..,Gr.nil ..,λz=>absurd rfl z,λz=>absurd rfl z⟩
  have fin:=λ(Q:AV->Heap->Prop) (hQ:∀h3 W3 sf st oA oB,PLs h0 h h3 W W3 ob h.length (NS.parts (elOf n) b.state.2).2 c5 sf st oA oB (NS.parts (elOf n) b.state.2).1->NSok (NS.parts (elOf n) b.state.2).2->WP (λk:Nat=>g7_ k (.ptr ob 0 6 0) (.ptr h.length 0 5 0) (I b.state.1) sf st h3) Q)=>
   c3v (hE:=h) (W0:=W) (ob:=ob) (o3:=h.length) kv (el:=elOf n) (c1Q hk) lel ih (λc hc=>szn c (g.kid c (a9g hc))) (s:=b.state.1) (ftE:=(NS.parts (elOf n) b.state.2).1) (bE:=(NS.parts (elOf n) b.state.2).2) hQ (elOf n).length 0 h2 W b.state.2 .nils .nils 0 0 [] oM rfl p0 okS rfl rfl
  have main:=fin (λr h'=>r=.tup [I b.state.1,I (NS.parts (elOf n) b.state.2).2.state.1]/\BV (Wn W h h') h' ob (if (NS.parts (elOf n) b.state.2).2.state.2.much then (NS.parts (elOf n) b.state.2).2.state.2 else (NS.parts (elOf n) b.state.2).2.state.2.lead b.state.1 (NS.parts (elOf n) b.state.2).2.state.1 (NS.parts (elOf n) b.state.2).1 n)/\FrS W h h')
   (λh3 W3 sf st oA oB p3 ok3=>c3x kv h5 p3 ok3 λhm=>c3w g d hk ((c0l g b.state.2).2.2 (by
    cases hq:(NS.parts (elOf n) b.state.2).2.much with
    |false=>rfl
    |true=>rw[NS.state] at hm; split at hm<;>simp[hq] at hm)).2.1)
  have lk:(css.map id).length=n.kids.length:=by rw[List.length_map]; exact (NVs.length kv.nv).symm
  have slL:=(kv.sl.ext p0.e0).lenG
  rw[List.length_map] at lk
  by_cases k9:n.kind=9
  ·have hel:((elOf n).length:Int)=n.hi:=by
    cases n with
    |rep lo hi c=>simp[elOf,Nd.hi]
    |_=>simp[Nd.kind] at k9
   rw[hel] at main
   refine g3 @r2 @slL @k9 ?_
   refine WP.congr (λk:Nat=>a0J k (.ptr ob 0 6 0) (.ptr h.length 0 5 0) (I b.state.1) .nils .nils (I n.hi) h2) ?_
   exact WP.ent main λi=>rfl
  ·have hel:((elOf n).length:Int)=css.length:=by
    rw[lk]
    cases n with
    |rep lo hi c=>exact absurd rfl k9
    |join l=>exact absurd rfl hk
    |_=>simp[elOf,Nd.kids]
   rw[hel] at main
   refine g3 @r2 @slL @k9 ?_
   refine WP.congr (λk:Nat=>a0J k (.ptr ob 0 6 0) (.ptr h.length 0 5 0) (I b.state.1) .nils .nils (I css.length) h2) ?_
   exact WP.ent main λi=>rfl
end
end Go.Gm.AZ
namespace Go.Gm
def longer (l:List (List Int)):List (List Int):=l.flatMap λw=>[w++[0],w++[1],w++[2],w++[3],w++[4]]
def wl:Nat->List (List Int)
 |0=>[[]]
 |t+1=>longer (wl t)
theorem a7y:∀{t:Nat} {w:List Int},w∈wl t↔w.length=t/\∀c∈w,0<=c/\c<5
 |0,w=>by
  simp only[wl,List.mem_singleton]
  constructor
  ·rintro rfl; simp
  ·rintro ⟨h,_⟩; exact List.eq_nil_of_length_eq_zero h
 |t+1,w=>by
  simp only[wl,longer,List.mem_flatMap,a7y (t:=t),List.mem_cons,List.not_mem_nil,or_false]
  constructor
  ·rintro ⟨v,⟨h1,h2⟩,h⟩
   have hc:∀k:Int,0<=k->k<5->(v++[k]).length=t+1/\∀c∈v++[k],0<=c/\c<5:=by
    intro k k0 k1
    refine ⟨by simp[h1],λc hc=>?_⟩
    rcases List.mem_append.1 hc with hc|hc
    ·exact h2 c hc
    ·rw[List.mem_singleton.1 hc]; exact ⟨k0,k1⟩
   rcases h with rfl|rfl|rfl|rfl|rfl
   ·exact hc 0 oM oM
   ·exact hc 1 oM oM
   ·exact hc 2 oM oM
   ·exact hc 3 oM oM
   ·exact hc 4 oM oM
  ·rintro ⟨h1,h2⟩
   have hne:w≠[]:=by rintro rfl; simp at h1
   refine ⟨w.dropLast,⟨by simp[h1],λc hc=>h2 c (List.dropLast_subset _ hc)⟩,?_⟩
   have hl:=h2 (w.getLast hne) (List.getLast_mem hne)
   have he:w.dropLast++[w.getLast hne]=w:=List.dropLast_concat_getLast hne
   obtain ⟨k,hk⟩:∃k,w.getLast hne=k:=⟨_,rfl⟩
   rw[hk] at hl he
   have:k=0\/k=1\/k=2\/k=3\/k=4:=oM
   rcases this with q|q|q|q|q<;>subst q<;>simp[he]
open Classical in
noncomputable def wordsN (n:Nd) (most:Nat):List (List Int):=((List.range (most+1)).flatMap wl).filter λw=>decide (In n w)
def incR:List Int->List Int × Bool
 |[]=>([],true)
 |c::r=>if c+1<5 then ((c+1)::r,false) else (0::(incR r).1,(incR r).2)
def inc (w:List Int):List Int × Bool:=((incR w.reverse).1.reverse,(incR w.reverse).2)
def nxt (w:List Int):List Int:=if (inc w).2 then (inc w).1++[0] else (inc w).1
end Go.Gm
namespace Go.Gm
theorem b2l:In (.set s) w↔∃c,w=[c]/\0<=c/\c<5/\s.testBit c.toNat=true:=by
 simp only[In,R,hit]
 constructor
 ·rintro ⟨⟨c,h1,h2⟩,h3⟩
  match w,h1,h3 with
  |[x],h1,_=>simp at h1; subst h1; exact ⟨x,rfl,h2⟩
 ·rintro ⟨c,rfl,h⟩
  exact ⟨⟨c,rfl,h⟩,rfl⟩
theorem Star.iff:Star r i j↔i=j\/∃m,r i m/\Star r m j:=by
 constructor
 ·intro h
  induction h with
  |refl=>exact .inl rfl
  |tail a b ih=>
   rcases ih with rfl|⟨m,u1,u2⟩
   ·exact .inr ⟨_,b,.refl _⟩
   ·exact .inr ⟨m,u1,.tail u2 b⟩
 ·rintro (rfl|⟨m,h1,h2⟩)
  ·exact .refl _
  ·exact .head h1 h2
section
variable {k L:Nat} {r r':Nat->Nat->Prop}
theorem Star.up (h:∀i j,r' i j->r (k+i) (k+j)){i j:Nat}(a:Star r' i j):Star r (k+i) (k+j):=by
 induction a with
 |refl=>exact .refl _
 |tail _ b ih=>exact .tail ih (h _ _ b)
theorem Pow.up (h:∀i j,r' i j->r (k+i) (k+j)):∀{t i j:Nat},Pow r' t i j->Pow r t (k+i) (k+j)
 |0,i,j,a=>by cases a; exact rfl
 |t+1,i,j,⟨m,a,b⟩=>⟨k+m,Pow.up h a,h _ _ b⟩
theorem Star.dn (hm:∀i j,r i j->i<=j)(h:∀i y,r (k+i) y->y<=k+L->∃j,y=k+j/\r' i j){x y:Nat}(a:Star r x y):∀i,x=k+i->y<=k+L->∃j,y=k+j/\Star r' i j:=by
 induction a with
 |refl=>intro i hi _; exact ⟨i,hi,.refl _⟩
 |tail _ b ih=>
  intro i hi hy
  obtain ⟨j,rfl,h1⟩:=ih i hi (Nat.le_trans (hm _ _ b) hy)
  obtain ⟨j',rfl,h2⟩:=h _ _ b hy
  exact ⟨j',rfl,.tail h1 h2⟩
theorem Pow.dn (hm:∀i j,r i j->i<=j)(h:∀i y,r (k+i) y->y<=k+L->∃j,y=k+j/\r' i j):∀{t i y:Nat},Pow r t (k+i) y->y<=k+L->∃j,y=k+j/\Pow r' t i j
 |0,i,y,a,_=>⟨i,(show k+i=y from a).symm,rfl⟩
 |t+1,i,y,⟨m,a,b⟩,hy=>by
  obtain ⟨j,rfl,h1⟩:=Pow.dn hm h a (Nat.le_trans (hm _ _ b) hy)
  obtain ⟨j',rfl,h2⟩:=h _ _ b hy
  exact ⟨j',rfl,j,h1,h2⟩
end
section
variable (u v z:List Int)
end
end Go.Gm
namespace Go.Gm
theorem Pow.head:∀{t i j:Nat},Pow r (t+1) i j↔∃m,r i m/\Pow r t m j
 |0,i,j=>by
  constructor
  ·rintro ⟨m,h,k⟩; cases h; exact ⟨j,k,rfl⟩
  ·rintro ⟨m,h,k⟩; cases k; exact ⟨i,rfl,h⟩
 |t+1,i,j=>by
  constructor
  ·rintro ⟨m,h,k⟩
   obtain ⟨p,h1,h2⟩:=(Pow.head (t:=t)).1 h
   exact ⟨p,h1,m,h2,k⟩
  ·rintro ⟨p,h1,m,h2,k⟩
   exact ⟨m,(Pow.head (t:=t)).2 ⟨p,h1,h2⟩,k⟩
theorem Star.imp {r r':Nat->Nat->Prop}(h:∀i j,r i j->r' i j){i j:Nat}(a:Star r i j):Star r' i j:=by
 induction a with
 |refl=>exact .refl _
 |tail _ b ih=>exact .tail ih (h _ _ b)
theorem Pow.imp {r r':Nat->Nat->Prop}(h:∀i j,r i j->r' i j):∀{t i j:Nat},Pow r t i j->Pow r' t i j
 |0,_,_,a=>a
 |t+1,_,_,⟨m,a,b⟩=>⟨m,Pow.imp h a,h _ _ b⟩
theorem b1u {most:Nat}{p:List Int->Bool}(h:∀t,t<=most->∀w∈wl t,(In n w↔p w=true)):wordsN n most=((List.range (most+1)).flatMap wl).filter p:=by
 refine List.filter_congr λw hw=>?_
 simp only[List.mem_flatMap,List.mem_range] at hw
 obtain ⟨t,h1,h2⟩:=hw
 have:=h t oM w h2
 cases hp:p w with
 |true=>simp[this.2 hp]
 |false=>simp[show ¬In n w from λq=>by rw[this.1 q] at hp; cases hp]
theorem b0P {α:Type}(l:List Nat)(f:Nat->List α)(p:α->Bool):(l.flatMap f).filter p=l.flatMap λt=>(f t).filter p:=by
 induction l with
 |nil=>rfl
 |cons a l ih=>simp[ih]
def bN (b:Bool):Nat:=if b then 1 else 0
def manyN (s:Nat):Nat:=bN (s.testBit 0)+bN (s.testBit 1)+bN (s.testBit 2)+bN (s.testBit 3)+bN (s.testBit 4)
def sel (p0 p1 p2 p3 p4:Bool)(c:Int):Bool:=if c=0 then p0 else if c=1 then p1 else if c=2 then p2 else if c=3 then p3 else p4
def selS (s:Nat)(c:Int):Bool:=sel (s.testBit 0) (s.testBit 1) (s.testBit 2) (s.testBit 3) (s.testBit 4) c
theorem a8D {c:Int}(h0:0<=c)(h5:c<5):selS s c=s.testBit c.toNat:=by
 have:c=0\/c=1\/c=2\/c=3\/c=4:=oM
 rcases this with rfl|rfl|rfl|rfl|rfl<;>rfl
def p1 (f:Int->Bool):List Int->Bool
 |[c]=>f c
 |_=>false
def p2 (f g:Int->Bool):List Int->Bool
 |[c,d]=>f c && g d
 |_=>false
theorem c1:∀p0 p1' p2' p3 p4:Bool,((wl 1).filter (p1 (sel p0 p1' p2' p3 p4))).length=bN p0+bN p1'+bN p2'+bN p3+bN p4:=by decide +kernel
theorem c2:∀p0 p1' p2' p3 p4 q0 q1 q2 q3 q4:Bool,((wl 2).filter (p2 (sel p0 p1' p2' p3 p4) (sel q0 q1 q2 q3 q4))).length=(bN p0+bN p1'+bN p2'+bN p3+bN p4)*(bN q0+bN q1+bN q2+bN q3+bN q4):=by decide +kernel
theorem b3d {t:Nat}{p:List Int->Bool}(h:∀w:List Int,w.length=t->p w=false):(wl t).filter p=[]:=by
 rw[List.filter_eq_nil_iff]
 intro w hw
 rw[h w (a7y.1 hw).1]; simp
theorem p1_ne {t:Nat}(ht:t≠1)(w:List Int)(h:w.length=t):p1 f w=false:=by
 match w,h with
 |[],_=>rfl
 |[c],h=>simp at h; omega
 |_::_::_,_=>rfl
theorem In_p1 {w:List Int}(hw:∀c∈w,0<=c/\c<5):In (.set s) w↔p1 (selS s) w=true:=by
 rw[b2l]
 constructor
 ·rintro ⟨c,rfl,h0,h5,hb⟩
  show selS s c=true
  rw[a8D h0 h5,hb]
 ·intro h
  match w,hw,h with
  |[c],hw,h=>
   have hc:=hw c (by simp)
   exact ⟨c,rfl,hc.1,hc.2,by rw[<-a8D hc.1 hc.2]; exact h⟩
theorem count_set {s most:Nat}(hm:most<=3):(wordsN (.set s) most).length=if most<1 then 0 else manyN s:=by
 rw[b1u (p:=p1 (selS s)) λt _ w hw=>In_p1 (a7y.1 hw).2,b0P]
 have h1:((wl 1).filter (p1 (selS s))).length=manyN s:=c1 ..
 have hn:∀t,t≠1->(wl t).filter (p1 (selS s))=[]:=λt ht=>b3d (p1_ne ht)
 have:most=0\/most=1\/most=2\/most=3:=oM
 rcases this with rfl|rfl|rfl|rfl<;>simp[List.range_succ,hn,h1]
end Go.Gm
namespace Go.Gm
def bt (S:ByteArray)(p:Nat):Option Nat:=(S[p]?).map UInt8.toNat
def md (c:Nat):Option Nat:=if c=119 then some 0 else if c=98 then some 1 else if c=99 then some 2 else if c=102 then some 3 else if c=116 then some 4 else none
def clsF (S:ByteArray):Nat->Nat->Nat->Option (Nat × Nat)
 |0,_,_=>none
 |f+1,p,s=>match bt S p with
  |none=>none
  |some c=>if c=93/\0<s then some (s,p+1) else match md c with
   |none=>none
   |some m=>clsF S f (p+1) (s ||| 2 ^ m)
def dig (c:Option Nat):Option Nat:=match c with
 |some c=>if 48<=c/\c<=57 then some (c-48) else none
 |none=>none
def tms (S:ByteArray)(p:Nat):Option (Nat × Nat × Nat):=match dig (bt S p),dig (bt S (p+2)) with
 |some a,some b=>if bt S (p+1)=some 44/\bt S (p+3)=some 125/\a<=b then some (a,b,p+4) else none
 |_,_=>none
inductive PM where
 |at|pc|pcl (n:Nd)|jn|jnl (l:List Nd)|un|unl (l:List Nd)
def finJ:List Nd->Nd
 |[n]=>n
 |l=>.join l
def finU:List Nd->Nd
 |[n]=>n
 |l=>.uni l
def prs (S:ByteArray):Nat->Nat->PM->Nat->Option (Nd × Nat)
 |0,_,_,_=>none
 |f+1,d,.at,p=>match bt S p with
  |none=>none
  |some c=>
   if c=40 then
    if 30<=d then none else match prs S f (d+1) .un (p+1) with
     |some (n,q)=>if bt S q=some 41 then some (n,q+1) else none
     |none=>none
   else match md c with
    |some m=>some (.set (2 ^ m),p+1)
    |none=>if c=46 then some (.set 31,p+1) else if c=48 then some (.emp,p+1) else if c=95 then some (.eps,p+1)
     else if c=91 then (match clsF S f (p+1) 0 with|some (s,q)=>some (.set s,q)|none=>none) else none
 |f+1,d,.pc,p=>match prs S f d .at p with
  |some (n,q)=>prs S f d (.pcl n) q
  |none=>none
 |f+1,d,.pcl n,p=>match bt S p with
  |none=>some (n,p)
  |some c=>if c=42 then prs S f d (.pcl (.star n)) (p+1) else if c=43 then prs S f d (.pcl (.plus n)) (p+1) else if c=63 then prs S f d (.pcl (.opt n)) (p+1)
   else if c=123 then (match tms S (p+1) with|some (a,b,q)=>prs S f d (.pcl (.rep a b n)) q|none=>none) else some (n,p)
 |f+1,d,.jn,p=>match prs S f d .pc p with
  |some (n,q)=>prs S f d (.jnl [n]) q
  |none=>none
 |f+1,d,.jnl l,p=>match bt S p with
  |none=>some (finJ l,p)
  |some c=>if c=124 then some (finJ l,p) else if c=41 then some (finJ l,p) else match prs S f d .pc p with
   |some (n,q)=>prs S f d (.jnl (l++[n])) q
   |none=>none
 |f+1,d,.un,p=>match prs S f d .jn p with
  |some (n,q)=>prs S f d (.unl [n]) q
  |none=>none
 |f+1,d,.unl l,p=>match bt S p with
  |none=>some (finU l,p)
  |some c=>if c=124 then match prs S f d .jn (p+1) with
    |some (n,q)=>prs S f d (.unl (l++[n])) q
    |none=>none
   else some (finU l,p)
abbrev U8 (n:Nat):AV:=.int .u8 n
theorem bt_ix {S:ByteArray}{p c:Nat}(h:bt S p=some c):ixS (.str S) (I p)=some (U8 c):=by
 simp only[bt,Option.map_eq_some_iff] at h
 obtain ⟨b,h1,rfl⟩:=h
 simp[ixS,h1]
theorem bt_lt {S:ByteArray}{p c:Nat}(h:bt S p=some c):p<S.size:=by
 simp only[bt,Option.map_eq_some_iff] at h
 obtain ⟨b,h1,rfl⟩:=h
 exact (getElem?_eq_some_iff.1 h1).1
theorem c4v {S:ByteArray}{p:Nat}(h:bt S p=none):S.size<=p:=by
 simp only[bt,Option.map_eq_none_iff] at h
 by_cases hp:p<S.size
 ·rw[getElem?_pos S p hp] at h; cases h
 ·omega
theorem equ_t {a:Nat}{b:Int}(h:(a:Int)=b):binV .eql .scalar (U8 a) (.int .u8 b)=some (.bool true):=by
 show some (AV.bool ((a:Int) == b))=_
 rw[h]; simp
theorem equ_f {a:Nat}{b:Int}(h:¬(a:Int)=b):binV .eql .scalar (U8 a) (.int .u8 b)=some (.bool false):=by
 show some (AV.bool ((a:Int) == b))=_
 simp[h]
theorem neu_t {a:Nat}{b:Int}(h:¬(a:Int)=b):binV .neq .scalar (U8 a) (.int .u8 b)=some (.bool true):=by
 show some (AV.bool ((a:Int) != b))=_
 simp[bne,h]
theorem neu_f {a:Nat}{b:Int}(h:(a:Int)=b):binV .neq .scalar (U8 a) (.int .u8 b)=some (.bool false):=by
 show some (AV.bool ((a:Int) != b))=_
 rw[h]; simp
theorem lsu_f {a:Nat}{b:Int}(h:¬(a:Int)<b):binV .lss .scalar (U8 a) (.int .u8 b)=some (.bool false):=by
 show some (AV.bool (decide ((a:Int)<b)))=_
 simp[h]
theorem gtu_f {a:Nat}{b:Int}(h:¬(a:Int) > b):binV .gtr .scalar (U8 a) (.int .u8 b)=some (.bool false):=by
 show some (AV.bool (decide ((a:Int) > b)))=_
 simp[h]
end Go.Gm
namespace Go.Gm
def sgnB (m:Nat):Nat:=[119,98,99,102,116].getD m 0
def setS (s:Nat):List Nat:=((List.range 5).filter λm=>s.testBit m).map sgnB
def setT (s:Nat):List Nat:=if s=31 then [46] else if (setS s).length=1 then setS s else 91::(setS s++[93])
def isU:Nd->Bool
 |.uni _=>true
 |_=>false
def isJ:Nd->Bool
 |.join _=>true
 |_=>false
def prn (b:Bool)(t:List Nat):List Nat:=if b then 40::(t++[41]) else t
mutual
def txt:Nd->List Nat
 |.set s=>setT s
 |.emp=>[48]
 |.eps=>[95]
 |.join l=>txtj l
 |.uni l=>txtu l
 |.star n=>prn (isU n || isJ n) (txt n)++[42]
 |.plus n=>prn (isU n || isJ n) (txt n)++[43]
 |.opt n=>prn (isU n || isJ n) (txt n)++[63]
 |.rep a b n=>prn (isU n || isJ n) (txt n)++[123,48+a,44,48+b,125]
def txtj:List Nd->List Nat
 |[]=>[]
 |n::l=>prn (isU n || isJ n) (txt n)++txtj l
def txtu:List Nd->List Nat
 |[]=>[]
 |n::l=>prn (isU n) (txt n)++txtr l
def txtr:List Nd->List Nat
 |[]=>[]
 |n::l=>124::(prn (isU n) (txt n)++txtr l)
end
abbrev pcT (n:Nd):List Nat:=prn (isU n || isJ n) (txt n)
abbrev jnT (n:Nd):List Nat:=prn (isU n) (txt n)
def Sd (S:ByteArray):Nat->List Nat->Prop
 |_,[]=>True
 |p,c::t=>bt S p=some c/\Sd S (p+1) t
theorem a3e {S:ByteArray}:∀{a b:List Nat} {p:Nat},Sd S p (a++b)↔Sd S p a/\Sd S (p+a.length) b
 |[],b,p=>by simp[Sd]
 |c::a,b,p=>by
  simp only[List.cons_append,Sd,a3e (a:=a),List.length_cons]
  rw[show p+1+a.length=p+(a.length+1) by omega,and_assoc]
mutual
def dp:Nd->Nat
 |.join l=>1+dps l
 |.uni l=>1+dps l
 |.star n=>dp n
 |.plus n=>dp n
 |.opt n=>dp n
 |.rep _ _ n=>dp n
 |_=>0
def dps:List Nd->Nat
 |[]=>0
 |n::l=>max (dp n) (dps l)
end
mutual
def cst:Nd->Nat
 |.join l=>20+csts l
 |.uni l=>20+csts l
 |.star n=>10+cst n
 |.plus n=>10+cst n
 |.opt n=>10+cst n
 |.rep _ _ n=>10+cst n
 |_=>50
def csts:List Nd->Nat
 |[]=>0
 |n::l=>20+cst n+csts l
end
def Rd (S:ByteArray)(K d:Nat)(m:PM)(p:Nat)(r:Nd × Nat):Prop:=∀f,K<=f->prs S f d m p=some r
section
variable {S:ByteArray} {K K' d p q:Nat} {n:Nd} {r:Nd × Nat} {l:List Nd}
theorem Rd.le (h:Rd S K d m p r)(hk:K<=K'):Rd S K' d m p r:=λf hf=>h f oM
theorem o6_ {K f:Nat}(h:K+1<=f):∃g,f=g+1/\K<=g:=⟨f-1,oM,oM⟩
theorem rd_pc (h1:Rd S K d .at p (n,q))(h2:Rd S K' d (.pcl n) q r):Rd S (K+K'+1) d .pc p r:=by
 intro f hf
 obtain ⟨g,rfl,hg⟩:=o6_ hf
 simp only[prs,h1 g oM,h2 g oM]
def noSuf (x:Option Nat):Prop:=x≠some 42/\x≠some 43/\x≠some 63/\x≠some 123
theorem b8t (h:noSuf (bt S p)):Rd S 1 d (.pcl n) p (n,p):=by
 intro f hf
 obtain ⟨g,rfl,hg⟩:=o6_ hf
 try simp only[prs]
 cases hb:bt S p with
 |none=>rfl
 |some c=>
  rw[hb] at h
  obtain ⟨h1,h2,h3,h4⟩:=h
  simp only
  rw[if_neg (λz=>h1 (by rw[z])),if_neg (λz=>h2 (by rw[z])),if_neg (λz=>h3 (by rw[z])),if_neg (λz=>h4 (by rw[z]))]
theorem c4y (hb:bt S p=some 42)(h:Rd S K d (.pcl (.star n)) (p+1) r):Rd S (K+1) d (.pcl n) p r:=by
 intro f hf
 obtain ⟨g,rfl,hg⟩:=o6_ hf
 simp only[prs,hb]
 exact h g hg
theorem c4z (hb:bt S p=some 43)(h:Rd S K d (.pcl (.plus n)) (p+1) r):Rd S (K+1) d (.pcl n) p r:=by
 intro f hf
 obtain ⟨g,rfl,hg⟩:=o6_ hf
 simp only[prs,hb]
 exact h g hg
theorem c5F (hb:bt S p=some 63)(h:Rd S K d (.pcl (.opt n)) (p+1) r):Rd S (K+1) d (.pcl n) p r:=by
 intro f hf
 obtain ⟨g,rfl,hg⟩:=o6_ hf
 simp only[prs,hb]
 exact h g hg
theorem c5G {a b:Nat}(hab:a<=b)(hb9:b<=9)(hs:Sd S p [123,48+a,44,48+b,125])(h:Rd S K d (.pcl (.rep a b n)) (p+5) r):Rd S (K+1) d (.pcl n) p r:=by
 obtain ⟨h0,h1,h2,h3,h4,_⟩:=hs
 intro f hf
 obtain ⟨g,rfl,hg⟩:=o6_ hf
 have ht:tms S (p+1)=some (a,b,p+5):=by
  rw[show p+1+1+1=p+1+2 by omega] at h3
  rw[show p+1+1+1+1=p+1+3 by omega] at h4
  simp only[tms,h1,h3,dig]
  rw[if_pos oM,if_pos oM]
  simp only
  rw[if_pos ⟨h2,h4,oM⟩]
  simp only[Nat.add_sub_cancel_left,Option.some.injEq,Prod.mk.injEq]
 simp only[prs,h0,ht]
 exact h g hg
theorem rd_jn (h1:Rd S K d .pc p (n,q))(h2:Rd S K' d (.jnl [n]) q r):Rd S (K+K'+1) d .jn p r:=by
 intro f hf
 obtain ⟨g,rfl,hg⟩:=o6_ hf
 simp only[prs,h1 g oM,h2 g oM]
def endJ (x:Option Nat):Prop:=x=none\/x=some 124\/x=some 41
def endU (x:Option Nat):Prop:=x=none\/x=some 41
theorem endU.j (h:endU x):endJ x:=h.imp id .inr
theorem endJ.suf (h:endJ x):noSuf x:=by
 rcases h with rfl|rfl|rfl<;>simp[noSuf]
theorem b2E (h:endJ (bt S p)):Rd S 1 d (.jnl l) p (finJ l,p):=by
 intro f hf
 obtain ⟨g,rfl,hg⟩:=o6_ hf
 rcases h with h|h|h<;>simp[prs,h]
theorem c5H (hb:bt S p=some c)(h1:c≠124)(h2:c≠41)(h3:Rd S K d .pc p (n,q))(h4:Rd S K' d (.jnl (l++[n])) q r):Rd S (K+K'+1) d (.jnl l) p r:=by
 intro f hf
 obtain ⟨g,rfl,hg⟩:=o6_ hf
 simp only[prs,hb,if_neg h1,if_neg h2,h3 g oM,h4 g oM]
theorem rd_un (h1:Rd S K d .jn p (n,q))(h2:Rd S K' d (.unl [n]) q r):Rd S (K+K'+1) d .un p r:=by
 intro f hf
 obtain ⟨g,rfl,hg⟩:=o6_ hf
 simp only[prs,h1 g oM,h2 g oM]
theorem b2F (h:endU (bt S p)):Rd S 1 d (.unl l) p (finU l,p):=by
 intro f hf
 obtain ⟨g,rfl,hg⟩:=o6_ hf
 rcases h with h|h<;>simp[prs,h]
theorem c0U (hb:bt S p=some 124)(h3:Rd S K d .jn (p+1) (n,q))(h4:Rd S K' d (.unl (l++[n])) q r):Rd S (K+K'+1) d (.unl l) p r:=by
 intro f hf
 obtain ⟨g,rfl,hg⟩:=o6_ hf
 simp only[prs,hb,h3 g oM,h4 g oM]
 exact if_pos trivial
theorem c0V (hb:bt S p=some 40)(hd:d<30)(h:Rd S K (d+1) .un (p+1) (n,q))(h2:bt S q=some 41):Rd S (K+1) d .at p (n,q+1):=by
 intro f hf
 obtain ⟨g,rfl,hg⟩:=o6_ hf
 simp only[prs,hb]
 simp only[if_true,if_neg (show ¬30<=d by omega),h g hg,h2]
end
theorem c0W {S:ByteArray}:∀(ms:List Nat) (p s f:Nat),(∀m∈ms,m<5)->Sd S p (ms.map sgnB++[93])->0<s\/ms≠[]->ms.length<f->clsF S f p s=some (ms.foldl (λs m=>s ||| 2 ^ m) s,p+ms.length+1)
 |[],p,s,f,_,h,h0,hf=>by
  obtain ⟨g,rfl,_⟩:=o6_ hf
  have hs:0<s:=h0.resolve_right (by simp)
  simp only[List.map_nil,List.nil_append,Sd] at h
  simp[clsF,h.1,hs]
 |m::ms,p,s,f,hm,h,h0,hf=>by
  obtain ⟨g,rfl,hg⟩:=o6_ hf
  simp only[List.map_cons,List.cons_append,Sd] at h
  have h5:=hm m (by simp)
  have hmd:md (sgnB m)=some m/\sgnB m≠93:=by
   have:m=0\/m=1\/m=2\/m=3\/m=4:=oM
   rcases this with rfl|rfl|rfl|rfl|rfl<;>decide
  have hpos:0<s ||| 2 ^ m:=by
   have h1:2 ^ m<=s ||| 2 ^ m:=Nat.right_le_or
   have:0<2 ^ m:=Nat.two_pow_pos m
   omega
  rw[clsF,h.1]
  simp only
  rw[if_neg (λz=>hmd.2 z.1),hmd.1]
  simp only
  rw[c0W ms (p+1) (s ||| 2 ^ m) g (λx hx=>hm x (List.mem_cons_of_mem _ hx)) h.2 (.inl hpos) (by simp only[List.length_cons] at hf; omega)]
  simp only[List.foldl_cons,List.length_cons,Option.some.injEq,Prod.mk.injEq,true_and]
  omega
def msOf (s:Nat):List Nat:=(List.range 5).filter λm=>s.testBit m
theorem c4A:∀s:Fin 32,(msOf s.val).foldl (λ(s m:Nat)=>s ||| 2 ^ m) 0=s.val:=by decide
theorem ms_ne:∀s:Fin 32,0<s.val->msOf s≠[]:=by decide
theorem c5I:∀s:Fin 32,(setS s).length=1->∃m,m<5/\setS s=[sgnB m]/\s.val=2 ^ m:=by
 intro s
 have:∀s:Fin 32,(setS s).length=1->∃m:Fin 5,setS s=[sgnB m]/\s.val=2 ^ m.val:=by decide
 intro h
 obtain ⟨m,h1,h2⟩:=this s h
 exact ⟨m,m.2,h1,h2⟩
theorem ms_lt (s:Nat):∀m∈msOf s,m<5:=λm h=>by
 have:=(List.mem_filter.1 h).1
 simpa using this
theorem c5J (s:Nat):(msOf s).length<=5:=by
 have:=List.length_filter_le (λm=>s.testBit m) (List.range 5)
 simpa [msOf] using this
theorem c5K {S:ByteArray}{d p s:Nat}(h1:1<=s)(h2:s<=31)(h:Sd S p (setT s)):Rd S 20 d .at p (.set s,p+(setT s).length):=by
 intro f hf
 obtain ⟨g,rfl,hg⟩:=o6_ hf
 rw[setT] at h ⊢
 by_cases q:s=31
 ·rw[if_pos q] at h ⊢
  obtain ⟨hb,_⟩:=h
  simp[prs,hb,md,q]
 ·rw[if_neg q] at h ⊢
  by_cases q2:(setS s).length=1
  ·rw[if_pos q2] at h ⊢
   obtain ⟨m,m5,e1,e2⟩:=c5I ⟨s,oM⟩ q2
   simp only at e1 e2
   rw[e1] at h ⊢
   obtain ⟨hb,_⟩:=h
   have hmd:md (sgnB m)=some m/\sgnB m≠40:=by
    have:m=0\/m=1\/m=2\/m=3\/m=4:=oM
    rcases this with rfl|rfl|rfl|rfl|rfl<;>decide
   simp only[prs,hb]
   rw[if_neg hmd.2,hmd.1,e2]
   rfl
  ·rw[if_neg q2] at h ⊢
   obtain ⟨hb,h⟩:=h
   have hc:=c0W (msOf s) (p+1) 0 g (ms_lt s) h (.inr (ms_ne ⟨s,oM⟩ (by simp only; omega))) (by have:=c5J s; omega)
   rw[show (msOf s).foldl (λs m=>s ||| 2 ^ m) 0=s from c4A ⟨s,oM⟩] at hc
   simp only[prs,hb]
   rw[if_neg oM,show md 91=none from rfl]
   simp only
   rw[if_neg oM,if_neg oM,if_neg oM,if_pos trivial,hc]
   simp only[List.length_cons,List.length_append,List.length_nil,Option.some.injEq,Prod.mk.injEq,true_and]
   have:(setS s).length=(msOf s).length:=by simp[setS,msOf]
   omega
def okH (c:Nat):Prop:=c≠42/\c≠43/\c≠63/\c≠123/\c≠124/\c≠41
theorem c4B:∀s:Fin 32,∃c t,setT s.val=c::t/\okH c:=by
 have:∀s:Fin 32,(setT s.val).headD 42≠42/\(setT s.val).headD 42≠43/\(setT s.val).headD 42≠63/\(setT s.val).headD 42≠123/\(setT s.val).headD 42≠124/\(setT s.val).headD 42≠41:=by decide
 intro s
 have h:=this s
 cases hs:setT s.val with
 |nil=>rw[hs] at h; exact absurd rfl h.1
 |cons c t=>rw[hs] at h; exact ⟨c,t,rfl,h⟩
theorem a6d {t:List Nat}(h:∃c u,t=c::u/\okH c):∃c u,prn b t=c::u/\okH c:=by
 cases b with
 |false=>exact h
 |true=>exact ⟨40,t++[41],rfl,by simp[okH]⟩
theorem b0U {t u:List Nat}(h:∃c v,t=c::v/\okH c):∃c v,t++u=c::v/\okH c:=by
 obtain ⟨c,v,rfl,h⟩:=h
 exact ⟨c,v++u,rfl,h⟩
theorem b7i (n:Nd):Gd n->∃c t,txt n=c::t/\okH c:=by
 refine Nd.ind (p:=λn=>Gd n->∃c t,txt n=c::t/\okH c) (λn ih g=>?_) n
 cases n with
 |set s=>exact c4B ⟨s,by have:=g.rt.2; omega⟩
 |emp=>exact ⟨48,[],by rw[txt],by simp[okH]⟩
 |eps=>exact ⟨95,[],by rw[txt],by simp[okH]⟩
 |star c=>rw[txt]; exact b0U (a6d (ih c (by simp[Nd.kids]) (g.kid c (by simp[Nd.kids]))))
 |plus c=>rw[txt]; exact b0U (a6d (ih c (by simp[Nd.kids]) (g.kid c (by simp[Nd.kids]))))
 |opt c=>rw[txt]; exact b0U (a6d (ih c (by simp[Nd.kids]) (g.kid c (by simp[Nd.kids]))))
 |rep a b c=>rw[txt]; exact b0U (a6d (ih c (by simp[Nd.kids]) (g.kid c (by simp[Nd.kids]))))
 |join l=>
  cases l with
  |nil=>have:2<=0:=g.rt; omega
  |cons c l=>rw[txt,txtj]; exact b0U (a6d (ih c (by simp[Nd.kids]) (g.kid c (by simp[Nd.kids]))))
 |uni l=>
  cases l with
  |nil=>have:2<=0:=g.rt; omega
  |cons c l=>rw[txt,txtu]; exact b0U (a6d (ih c (by simp[Nd.kids]) (g.kid c (by simp[Nd.kids]))))
section
variable {S:ByteArray}
def PS (S:ByteArray)(n:Nd):Prop:=∀(d p K:Nat) (r:Nd × Nat),d+dp n<=30->Sd S p (pcT n)->Rd S K d (.pcl n) (p+(pcT n).length) r->Rd S (K+cst n+10) d .pc p r
def JS (S:ByteArray)(n:Nd):Prop:=∀(d p:Nat),d+dp n<=30->Sd S p (jnT n)->endJ (bt S (p+(jnT n).length))->Rd S (cst n+15) d .jn p (n,p+(jnT n).length)
def US (S:ByteArray)(n:Nd):Prop:=∀(d p:Nat),d+dp n<=(if (isU n || isJ n)=true then 31 else 30)->Sd S p (txt n)->endU (bt S (p+(txt n).length))->Rd S (cst n+if (isU n || isJ n)=true then 0 else 18) d .un p (n,p+(txt n).length)
theorem PS.one (h:PS S n){d p:Nat}(hd:d+dp n<=30)(hs:Sd S p (pcT n))(he:noSuf (bt S (p+(pcT n).length))):Rd S (cst n+11) d .pc p (n,p+(pcT n).length):=
 (h d p 1 _ hd hs (b8t he)).le oM
theorem PS.js (h:PS S n)(hj:isJ n=false):JS S n:=by
 intro d p hd hs he
 have e:jnT n=pcT n:=by simp[jnT,pcT,hj]
 rw[e] at hs he ⊢
 exact (rd_jn (h.one hd hs he.suf) (b2E he)).le oM
theorem JS.us (h:JS S n)(hu:isU n=false){d p:Nat}(hd:d+dp n<=30)(hs:Sd S p (txt n))(he:endU (bt S (p+(txt n).length))):Rd S (cst n+17) d .un p (n,p+(txt n).length):=by
 have e:jnT n=txt n:=by simp[jnT,prn,hu]
 have h1:=h d p hd (by rw[e]; exact hs) (by rw[e]; exact he.j)
 rw[e] at h1
 exact (rd_un h1 (b2F he)).le oM
theorem c5L (hb:(isU n || isJ n)=true):1<=dp n:=by
 cases n<;>simp[isU,isJ] at hb<;>rw[dp]<;>omega
theorem US.ps (h:US S n)(hb:(isU n || isJ n)=true):PS S n:=by
 intro d p K r hd hs hr
 have h1:=c5L hb
 have e:pcT n=40::(txt n++[41]):=by simp only[pcT,prn,hb,if_true]
 rw[e] at hs hr
 obtain ⟨h0,hs⟩:=hs
 obtain ⟨h1,h2⟩:=a3e.1 hs
 obtain ⟨h2,_⟩:=h2
 have hu:=h (d+1) (p+1) (by rw[if_pos hb]; omega) h1 (.inr h2)
 rw[if_pos hb] at hu
 have h3:=c0V h0 oM hu h2
 simp only[List.length_cons,List.length_append,List.length_nil] at hr
 rw[show p+((txt n).length+(0+1)+1)=p+1+(txt n).length+1 by omega] at hr
 exact (rd_pc h3 hr).le oM
theorem c0X:∀(l:List Nd),(∀c∈l,PS S c/\Gd c)->∀(acc:List Nd) (d p:Nat),d+dps l<=30->Sd S p (txtj l)->endJ (bt S (p+(txtj l).length))->Rd S (csts l+1) d (.jnl acc) p (finJ (acc++l),p+(txtj l).length)
 |[],_,acc,d,p,_,_,he=>by
  rw[txtj] at he ⊢
  rw[List.append_nil]
  exact b2E he
 |n::l,hl,acc,d,p,hd,hs,he=>by
  rw[dps] at hd
  rw[txtj] at hs he ⊢
  obtain ⟨h1,h2⟩:=a3e.1 hs
  obtain ⟨hp,hg⟩:=hl n (by simp)
  obtain ⟨c,t,e1,e2⟩:=a6d (b:=isU n || isJ n) (b7i n hg)
  rw[List.length_append,<-Nat.add_assoc] at he ⊢
  have hb:bt S p=some c:=by rw[e1] at h1; exact h1.1
  have hn:noSuf (bt S (p+(prn (isU n || isJ n) (txt n)).length)):=by
   cases l with
   |nil=>
    rw[txtj] at he
    exact he.suf
   |cons m l=>
    obtain ⟨c',t',e3,e4⟩:=a6d (b:=isU m || isJ m) (b7i m (hl m (by simp)).2)
    rw[txtj,e3] at h2
    rw[h2.1]
    simp only[okH] at e4
    simp[noSuf,e4]
  have h3:=hp.one (d:=d) (by omega) h1 hn
  have ec:csts (n::l)=20+cst n+csts l:=by simp[csts]
  have h4:=c0X l (fun c hc=>hl c (List.mem_cons_of_mem _ hc)) (acc++[n]) d (p+(prn (isU n || isJ n) (txt n)).length) (by omega) h2 he
  rw[List.append_assoc,List.singleton_append] at h4
  exact (c5H hb e2.2.2.2.2.1 e2.2.2.2.2.2 h3 h4).le (by omega)
theorem c0Y:∀(l:List Nd),(∀c∈l,JS S c)->∀(acc:List Nd) (d p:Nat),d+dps l<=30->Sd S p (txtr l)->endU (bt S (p+(txtr l).length))->Rd S (csts l+1) d (.unl acc) p (finU (acc++l),p+(txtr l).length)
 |[],_,acc,d,p,_,_,he=>by
  rw[txtr] at he ⊢
  rw[List.append_nil]
  exact b2F he
 |n::l,hl,acc,d,p,hd,hs,he=>by
  rw[dps] at hd
  rw[txtr] at hs he ⊢
  obtain ⟨h0,hs⟩:=hs
  obtain ⟨h1,h2⟩:=a3e.1 hs
  rw[List.length_cons,List.length_append] at he ⊢
  rw[show p+((prn (isU n) (txt n)).length+(txtr l).length+1)=p+1+(prn (isU n) (txt n)).length+(txtr l).length by omega] at he ⊢
  have hn:endJ (bt S (p+1+(prn (isU n) (txt n)).length)):=by
   cases l with
   |nil=>rw[txtr] at he; exact he.j
   |cons m l=>rw[txtr] at h2; exact .inr (.inl h2.1)
  have h3:=hl n (by simp) d (p+1) (by omega) h1 hn
  have ec:csts (n::l)=20+cst n+csts l:=by simp[csts]
  have h4:=c0Y l (fun c hc=>hl c (List.mem_cons_of_mem _ hc)) (acc++[n]) d (p+1+(prn (isU n) (txt n)).length) (by omega) h2 he
  rw[List.append_assoc,List.singleton_append] at h4
  exact (c0U h0 h3 h4).le (by omega)
theorem read (n:Nd):Gd n->PS S n/\JS S n/\US S n:=by
 refine Nd.ind (p:=λn=>Gd n->PS S n/\JS S n/\US S n) (λn ih g=>?_) n
 have plain:(isU n || isJ n)=false->PS S n->PS S n/\JS S n/\US S n:=λhb h=>by
  have hu:isU n=false:=by cases hq:isU n<;>simp_all
  have hj:isJ n=false:=by cases hq:isJ n<;>simp_all
  have h2:=h.js hj
  refine ⟨h,h2,λd p hd hs he=>?_⟩
  rw[hb] at hd ⊢
  exact (h2.us hu (by simpa using hd) hs he).le (by simp)
 cases n with
 |set s=>
  have e:pcT (.set s)=setT s:=by simp[pcT,prn,isU,isJ,txt]
  refine plain rfl fun d p K r hd hs hr=>?_
  rw[e] at hs hr
  have ec:cst (.set s)=50:=by simp[cst]
  exact (rd_pc (c5K g.rt.1 g.rt.2 hs) hr).le (by omega)
 |emp=>
  have e:pcT .emp=[48]:=by simp[pcT,prn,isU,isJ,txt]
  refine plain rfl λd p K r hd hs hr=>?_
  rw[e] at hs hr
  have ec:cst .emp=50:=by simp[cst]
  refine (rd_pc (K:=1) (n:=.emp) (q:=p+1) (λf hf=>?_) hr).le oM
  obtain ⟨g,rfl,hg⟩:=o6_ hf
  simp[prs,hs.1,md]
 |eps=>
  have e:pcT .eps=[95]:=by simp[pcT,prn,isU,isJ,txt]
  refine plain rfl λd p K r hd hs hr=>?_
  rw[e] at hs hr
  have ec:cst .eps=50:=by simp[cst]
  refine (rd_pc (K:=1) (n:=.eps) (q:=p+1) (λf hf=>?_) hr).le oM
  obtain ⟨g,rfl,hg⟩:=o6_ hf
  simp[prs,hs.1,md]
 |star c=>
  have e:pcT (.star c)=pcT c++[42]:=by simp[pcT,prn,isU,isJ,txt]
  refine plain rfl λd p K r hd hs hr=>?_
  rw[e] at hs hr
  obtain ⟨h1,h2⟩:=a3e.1 hs
  rw[List.length_append,<-Nat.add_assoc] at hr
  rw[dp] at hd
  have ec:cst (.star c)=10+cst c:=by simp[cst]
  exact ((ih c (by simp[Nd.kids]) (g.kid c (by simp[Nd.kids]))).1 d p (K+1) r hd h1 (c4y h2.1 hr)).le oM
 |plus c=>
  have e:pcT (.plus c)=pcT c++[43]:=by simp[pcT,prn,isU,isJ,txt]
  refine plain rfl λd p K r hd hs hr=>?_
  rw[e] at hs hr
  obtain ⟨h1,h2⟩:=a3e.1 hs
  rw[List.length_append,<-Nat.add_assoc] at hr
  rw[dp] at hd
  have ec:cst (.plus c)=10+cst c:=by simp[cst]
  exact ((ih c (by simp[Nd.kids]) (g.kid c (by simp[Nd.kids]))).1 d p (K+1) r hd h1 (c4z h2.1 hr)).le oM
 |opt c=>
  have e:pcT (.opt c)=pcT c++[63]:=by simp[pcT,prn,isU,isJ,txt]
  refine plain rfl λd p K r hd hs hr=>?_
  rw[e] at hs hr
  obtain ⟨h1,h2⟩:=a3e.1 hs
  rw[List.length_append,<-Nat.add_assoc] at hr
  rw[dp] at hd
  have ec:cst (.opt c)=10+cst c:=by simp[cst]
  exact ((ih c (by simp[Nd.kids]) (g.kid c (by simp[Nd.kids]))).1 d p (K+1) r hd h1 (c5F h2.1 hr)).le oM
 |rep a b c=>
  have e:pcT (.rep a b c)=pcT c++[123,48+a,44,48+b,125]:=by simp[pcT,prn,isU,isJ,txt]
  refine plain rfl λd p K r hd hs hr=>?_
  rw[e] at hs hr
  obtain ⟨h1,h2⟩:=a3e.1 hs
  rw[List.length_append,<-Nat.add_assoc] at hr
  rw[dp] at hd
  have ec:cst (.rep a b c)=10+cst c:=by simp[cst]
  exact ((ih c (by simp[Nd.kids]) (g.kid c (by simp[Nd.kids]))).1 d p (K+1) r hd h1 (c5G g.rt.1 g.rt.2 h2 hr)).le oM
 |join l=>
  have hk:∀c∈l,PS S c/\Gd c:=fun c hc=>⟨(ih c hc (g.kid c hc)).1,g.kid c hc⟩
  have hl:2<=l.length:=g.rt
  have J:∀d p,d+dps l<=30->Sd S p (txtj l)->endJ (bt S (p+(txtj l).length))->Rd S (csts l) d .jn p (.join l,p+(txtj l).length):=by
   intro d p hd hs he
   match l,hl,hk,hd,hs,he with
   |a::b::r,_,hk,hd,hs,he=>
    rw[dps] at hd
    rw[txtj] at hs he ⊢
    obtain ⟨h1,h2⟩:=a3e.1 hs
    rw[List.length_append,<-Nat.add_assoc] at he ⊢
    obtain ⟨c',t',e3,e4⟩:=a6d (b:=isU b || isJ b) (b7i b (hk b (by simp)).2)
    have hn:noSuf (bt S (p+(prn (isU a || isJ a) (txt a)).length)):=by
     rw[txtj,e3] at h2
     rw[h2.1]
     simp only[okH] at e4
     simp[noSuf,e4]
    have h3:=(hk a (by simp)).1.one (d:=d) oM h1 hn
    have h4:=c0X (b::r) (λc hc=>hk c (List.mem_cons_of_mem _ hc)) [a] d (p+(prn (isU a || isJ a) (txt a)).length) oM h2 he
    have ec:csts (a::b::r)=20+cst a+csts (b::r):=by simp[csts]
    exact (rd_jn h3 h4).le oM
  have hU:US S (.join l):=by
   intro d p hd hs he
   have hd':d+dp (.join l)<=31:=by simpa [isU,isJ] using hd
   rw[dp] at hd'
   rw[txt] at hs he ⊢
   have ec:cst (.join l)=20+csts l:=by simp[cst]
   rw[if_pos (show (isU (.join l) || isJ (.join l))=true from rfl)]
   exact (rd_un (J d p oM hs he.j) (b2F he)).le oM
  refine ⟨hU.ps rfl,λd p hd hs he=>?_,hU⟩
  have e:jnT (.join l)=txtj l:=by simp[jnT,prn,isU,txt]
  rw[e] at hs he ⊢
  rw[dp] at hd
  have ec:cst (.join l)=20+csts l:=by simp[cst]
  exact (J d p oM hs he).le oM
 |uni l=>
  have hk:∀c∈l,JS S c:=fun c hc=>(ih c hc (g.kid c hc)).2.1
  have hl:2<=l.length:=g.rt
  have hU:US S (.uni l):=by
   intro d p hd hs he
   have hd':d+dp (.uni l)<=31:=by simpa [isU,isJ] using hd
   rw[dp] at hd'
   rw[txt] at hs he ⊢
   rw[if_pos (show (isU (.uni l) || isJ (.uni l))=true from rfl)]
   have ec:cst (.uni l)=20+csts l:=by simp[cst]
   rw[ec]
   clear ec
   match l,hl,hk,hd',hs,he with
   |a::b::r,_,hk,hd,hs,he=>
    rw[dps] at hd
    rw[txtu] at hs he ⊢
    obtain ⟨h1,h2⟩:=a3e.1 hs
    rw[List.length_append,<-Nat.add_assoc] at he ⊢
    have hn:endJ (bt S (p+(prn (isU a) (txt a)).length)):=by
     rw[txtr] at h2; exact .inr (.inl h2.1)
    have h3:=hk a (by simp) d p oM h1 hn
    have h4:=c0Y (b::r) (λc hc=>hk c (List.mem_cons_of_mem _ hc)) [a] d (p+(prn (isU a) (txt a)).length) oM h2 he
    have ec:csts (a::b::r)=20+cst a+csts (b::r):=by simp[csts]
    exact (rd_un h3 h4).le oM
  exact ⟨hU.ps rfl,(hU.ps rfl).js rfl,hU⟩
end
def ofL (l:List Nat):ByteArray:=⟨(l.map UInt8.ofNat).toArray⟩
theorem q7_ (l:List Nat):(ofL l).size=l.length:=by
 show (l.map UInt8.ofNat).toArray.size=_
 simp
theorem b7j {l:List Nat}(h:∀c∈l,c<256)(p:Nat):bt (ofL l) p=l[p]?:=by
 try simp only[bt]
 by_cases hp:p<l.length
 ·have hp':p<(ofL l).size:=by rw[q7_]; exact hp
  rw[getElem?_pos (ofL l) p hp',List.getElem?_eq_getElem hp]
  have:(ofL l)[p]=UInt8.ofNat l[p]:=by
   show (l.map UInt8.ofNat).toArray[p]'(by simpa using hp)=_
   simp
  rw[this]
  simp only[Option.map_some,Option.some.injEq]
  have:=h l[p] (List.getElem_mem hp)
  simp[UInt8.toNat_ofNat',Nat.mod_eq_of_lt this]
 ·rw[List.getElem?_eq_none oM,getElem?_neg (ofL l) p (by rw[q7_]; exact hp)]
  rfl
theorem b7k {l:List Nat}(h:∀c∈l,c<256):∀(t:List Nat) (p:Nat),l.drop p=t->Sd (ofL l) p t
 |[],p,_=>trivial
 |c::t,p,e=>by
  have h1:l[p]?=some c:=by
   have:=congrArg List.head? e
   simpa [List.head?_drop] using this
  refine ⟨by rw[b7j h]; exact h1,b7k h t (p+1) ?_⟩
  rw[<-List.drop_drop,e]; rfl
theorem b4l {t:List Nat}(h:∀c∈t,c<256):∀c∈prn b t,c<256:=by
 cases b with
 |false=>exact h
 |true=>
  intro c hc
  simp only[prn,if_true,List.mem_cons,List.mem_append,List.not_mem_nil,or_false] at hc
  rcases hc with rfl|hc|rfl
  ·omega
  ·exact h c hc
  ·omega
theorem c4C:∀s:Fin 32,∀c∈setT s,c<256:=by decide
theorem b8u:∀(l:List Nd),(∀c∈l,∀b∈txt c,b<256)->∀b∈txtj l,b<256
 |[],_,b,hb=>by rw[txtj] at hb; cases hb
 |n::l,h,b,hb=>by
  rw[txtj,List.mem_append] at hb
  rcases hb with hb|hb
  ·exact b4l (h n (by simp)) b hb
  ·exact b8u l (λc hc=>h c (List.mem_cons_of_mem _ hc)) b hb
theorem b8v:∀(l:List Nd),(∀c∈l,∀b∈txt c,b<256)->∀b∈txtr l,b<256
 |[],_,b,hb=>by rw[txtr] at hb; cases hb
 |n::l,h,b,hb=>by
  rw[txtr,List.mem_cons,List.mem_append] at hb
  rcases hb with rfl|hb|hb
  ·omega
  ·exact b4l (h n (by simp)) b hb
  ·exact b8v l (λc hc=>h c (List.mem_cons_of_mem _ hc)) b hb
theorem b7l (n:Nd):Gd n->∀b∈txt n,b<256:=by
 refine Nd.ind (p:=λn=>Gd n->∀b∈txt n,b<256) (λn ih g b hb=>?_) n
 have one:∀{c:Nd} {t:List Nat},c∈n.kids->(∀x∈t,x<256)->b∈prn (isU c || isJ c) (txt c)++t->b<256:=fun {c t} hc ht hb=>by
  rcases List.mem_append.1 hb with hb|hb
  ·exact b4l (ih c hc (g.kid c hc)) b hb
  ·exact ht b hb
 cases n with
 |set s=>rw[txt] at hb; exact c4C ⟨s,by have:=g.rt.2; omega⟩ b hb
 |emp=>rw[txt] at hb; simp at hb; omega
 |eps=>rw[txt] at hb; simp at hb; omega
 |star c=>rw[txt] at hb; exact one (by simp[Nd.kids]) (by simp) hb
 |plus c=>rw[txt] at hb; exact one (by simp[Nd.kids]) (by simp) hb
 |opt c=>rw[txt] at hb; exact one (by simp[Nd.kids]) (by simp) hb
 |rep x y c=>
  rw[txt] at hb
  obtain ⟨h1,h2⟩:x<=y/\y<=9:=g.rt
  refine one (by simp[Nd.kids]) (λz hz=>?_) hb
  simp only[List.mem_cons,List.not_mem_nil,or_false] at hz
  omega
 |join l=>rw[txt] at hb; exact b8u l (λc hc=>ih c hc (g.kid c hc)) b hb
 |uni l=>
  rw[txt] at hb
  cases l with
  |nil=>rw[txtu] at hb; cases hb
  |cons a l=>
   rw[txtu,List.mem_append] at hb
   rcases hb with hb|hb
   ·exact b4l (ih a (by simp[Nd.kids]) (g.kid a (by simp[Nd.kids]))) b hb
   ·exact b8v l (λc hc=>ih c (by simp[Nd.kids,hc]) (g.kid c (by simp[Nd.kids,hc]))) b hb
theorem a6T (g:Gd n)(hd:dp n<=30):prs (ofL (txt n)) (cst n+18) 0 .un 0=some (n,(ofL (txt n)).size):=by
 have h1:=b7l n g
 have h2:=(read (S:=ofL (txt n)) n g).2.2 0 0 (by split<;>omega) (b7k h1 _ 0 rfl) (.inl (by rw[b7j h1,Nat.zero_add]; simp)) (cst n+18) (by split<;>omega)
 rw[h2,q7_,Nat.zero_add]
end Go.Gm
namespace Go.Gm
abbrev Hop:=Nat × Nat × Int
inductive Wk (A:Nat->List Hop) (st:Nat->Prop):Nat->List Nat->Int->Prop
 |nil {x:Nat}:st x->Wk A st x [] 0
 |snoc {x y e:Nat} {l:List Nat} {c w:Int}:Wk A st x l c->(y,e,w)∈A x->Wk A st y (l++[e]) (c+w)
def Lst (A:Nat->List Hop)(st:Nat->Prop)(x:Nat)(c:Int):Prop:=(∃l,Wk A st x l c)/\∀l c',Wk A st x l c'->c<=c'
theorem Lst.uniq (a:Lst A st x c)(b:Lst A st x d):c=d:=by
 obtain ⟨⟨l,h1⟩,h2⟩:=a
 obtain ⟨⟨l',h3⟩,h4⟩:=b
 have:=h2 _ _ h3
 have:=h4 _ _ h1
 omega
structure GOk (n:Nat) (W:Int) (A:Nat->List Hop):Prop where
 w0:0<=W
 hop:∀x,x<n->∀y e w,(y,e,w)∈A x->y<n/\0<=w/\w<=W
section
variable {n:Nat} {W:Int} {A:Nat->List Hop} {st:Nat->Prop}
theorem Wk.range (g:GOk n W A)(hs:∀x,st x->x<n){x:Nat}(h:Wk A st x l c):x<n/\0<=c:=by
 induction h with
 |nil h=>exact ⟨hs _ h,Int.le_refl _⟩
 |snoc _ k ih=>have:=g.hop _ ih.1 _ _ _ k; omega
structure DI (n:Nat) (W:Int) (A:Nat->List Hop) (st:Nat->Prop) (id:Nat) (todo:List Hop) (c:Nat->Int) (m:Nat->Option Int) (e f:Nat->Int) (r:Nat->Nat) (k:Nat):Prop where
 fin:∀x,x<n->0<=c x->Lst A st x (c x)
 neg:∀x,x<n->¬0<=c x->c x = -1
 que:∀x,x<n->∀v,m x=some v->c x = -1/\0<=v/\∃l,Wk A st x l v
 rel:∀x,x<n->0<=c x->∀y e w,(y,e,w)∈A x->(x=id/\(y,e,w)∈todo)\/0<=c y\/∃v,m y=some v/\v<=c x+w
 sta:∀x,x<n->st x->0<=c x\/m x=some 0
 ord:∀x y,x<n->y<n->0<=c x->∀v,m y=some v->c x<=v
 par:∀y,y<n->∀v,(0<=c y/\c y=v\/m y=some v)->(f y = -1/\st y/\v=0)\/∃x w,x<n/\f y=(x:Int)/\0<=c x/\0<=e y/\(y,(e y).toNat,w)∈A x/\v=c x+w/\(0<=c y->r x<r y)
 rk:∀x,x<n->0<=c x->r x<k
 bnd:∀x,x<n->∀v,(0<=c x/\c x=v\/m x=some v)->v<=k*W
 mx:∀x,x<n->0<=c x->c x<=c id
theorem DI.front {c:Nat->Int}{m:Nat->Option Int}{e f:Nat->Int}{r:Nat->Nat}{k id:Nat}(g:GOk n W A)(hs:∀x,st x->x<n)(d:DI n W A st id [] c m e f r k){y:Nat}{l:List Nat}{v:Int}(h:Wk A st y l v):(0<=c y/\c y<=v)\/∃z u,z<n/\m z=some u/\u<=v:=by
 induction h with
 |@nil x h=>
  have hx:=hs _ h
  rcases d.sta x hx h with h1|h1
  ·left
   have:=(d.fin x hx h1).2 [] 0 (.nil h)
   exact ⟨h1,this⟩
  ·exact .inr ⟨x,0,hx,h1,Int.le_refl _⟩
 |@snoc x y e l v w h1 h2 ih=>
  have hx:=(Wk.range g hs h1).1
  have hh:=g.hop x hx _ _ _ h2
  rcases ih with ⟨i1,i2⟩|⟨z,u,i1,i2,i3⟩
  ·rcases d.rel x hx i1 _ _ _ h2 with ⟨_,q⟩|q|⟨u,q1,q2⟩
   ·simp at q
   ·left
    exact ⟨q,(d.fin y hh.1 q).2 _ _ (.snoc h1 h2)⟩
   ·exact .inr ⟨y,u,hh.1,q1,oM⟩
  ·exact .inr ⟨z,u,i1,i2,oM⟩
theorem DI.all {c:Nat->Int}{m:Nat->Option Int}{e f:Nat->Int}{r:Nat->Nat}{k id:Nat}(g:GOk n W A)(hs:∀x,st x->x<n)(d:DI n W A st id [] c m e f r k)(hm:∀x,x<n->m x=none){y:Nat}{l:List Nat}{v:Int}(h:Wk A st y l v):0<=c y/\c y<=v:=by
 rcases d.front g hs h with h1|⟨z,u,h1,h2,_⟩
 ·exact h1
 ·rw[hm z h1] at h2; cases h2
theorem DI.pop (g:GOk n W A)(hs:∀x,st x->x<n)(d:DI n W A st id0 [] c m e f r k){id:Nat}(hid:id<n)(hm:m id=some key)(hmin:∀z,z<n->∀u,m z=some u->key<=u) :
  DI n W A st id (A id) (fun x=>if x=id then key else c x) (fun x=>if x=id then none else m x) e f (fun x=>if x=id then k else r x) (k+1):=by
 obtain ⟨q1,q2,q3⟩:=d.que id hid key hm
 have hW:=g.w0
 have hkW:(k:Int)*W<=((k+1:Nat):Int)*W:=by
  rw[Int.natCast_add,Int.add_mul]; omega
 have least:∀l v,Wk A st id l v->key<=v:=by
  intro l v h
  rcases d.front g hs h with h1|⟨z,u,h1,h2,h3⟩
  ·omega
  ·have:=hmin z h1 u h2; omega
 refine ⟨λx hx h=>?_,λx hx h=>?_,λx hx v h=>?_,λx hx h y e' w h2=>?_,λx hx h=>?_,λx y hx hy h v h2=>?_,λy hy v h=>?_,λx hx h=>?_,λx hx v h=>?_,λx hx h=>?_⟩
 ·try simp only at h ⊢
  by_cases q:x=id
  ·subst q; rw[if_pos rfl] at h ⊢; exact ⟨q3,least⟩
  ·rw[if_neg q] at h ⊢; exact d.fin x hx h
 ·try simp only at h ⊢
  by_cases q:x=id
  ·subst q; rw[if_pos rfl] at h; exact absurd q2 h
  ·rw[if_neg q] at h ⊢; exact d.neg x hx h
 ·try simp only at h ⊢
  by_cases q:x=id
  ·rw[if_pos q] at h; cases h
  ·rw[if_neg q] at h ⊢; exact d.que x hx v h
 ·try simp only at h ⊢
  by_cases q:x=id
  ·subst q; exact .inl ⟨rfl,h2⟩
  ·rw[if_neg q] at h ⊢
   rcases d.rel x hx h _ _ _ h2 with ⟨_,z⟩|z|⟨v,z1,z2⟩
   ·simp at z
   ·right; left
    by_cases q':y=id
    ·rw[if_pos q']; exact q2
    ·rw[if_neg q']; exact z
   ·right
    by_cases q':y=id
    ·left; rw[if_pos q']; exact q2
    ·right; exact ⟨v,by rw[if_neg q']; exact z1,z2⟩
 ·try simp only
  by_cases q:x=id
  ·left; rw[if_pos q]; exact q2
  ·rw[if_neg q,if_neg q]; exact d.sta x hx h
 ·try simp only at h h2 ⊢
  by_cases q':y=id
  ·rw[if_pos q'] at h2; cases h2
  ·rw[if_neg q'] at h2
   by_cases q:x=id
   ·rw[if_pos q]; exact hmin y hy v h2
   ·rw[if_neg q] at h ⊢; exact d.ord x y hx hy h v h2
 ·try simp only at h ⊢
  have h':0<=c y/\c y=v\/m y=some v:=by
   by_cases q:y=id
   ·subst q
    rw[if_pos rfl,if_pos rfl] at h
    rcases h with h|h
    ·exact .inr (by rw[hm,h.2])
    ·cases h
   ·rw[if_neg q,if_neg q] at h; exact h
  rcases d.par y hy v h' with z|⟨x,w,z1,z2,z3,z4,z5,z6,z7⟩
  ·exact .inl z
  ·refine .inr ⟨x,w,z1,z2,?_,z4,z5,?_,λ_=>?_⟩
   ·by_cases q:x=id
    ·rw[if_pos q]; exact q2
    ·rw[if_neg q]; exact z3
   ·by_cases q:x=id
    ·subst q; omega
    ·rw[if_neg q]; exact z6
   ·have hxi:x≠id:=λq=>by subst q; omega
    rw[if_neg hxi]
    by_cases q:y=id
    ·rw[if_pos q]; exact d.rk x z1 z3
    ·rw[if_neg q]
     refine z7 ?_
     rw[if_neg q,if_neg q] at h
     rcases h with h|h
     ·exact h.1
     ·have h0:0<=c y\/¬0<=c y:=oM
      rcases h0 with h0|h0
      ·exact h0
      ·rename_i hc
       simp only[if_neg q] at hc
       exact hc
 ·try simp only at h ⊢
  by_cases q:x=id
  ·rw[if_pos q]; omega
  ·rw[if_neg q] at h ⊢; have:=d.rk x hx h; omega
 ·try simp only at h
  have h':0<=c x/\c x=v\/m x=some v:=by
   by_cases q:x=id
   ·subst q
    rw[if_pos rfl,if_pos rfl] at h
    rcases h with h|h
    ·exact .inr (by rw[hm,h.2])
    ·cases h
   ·rw[if_neg q,if_neg q] at h; exact h
  have:=d.bnd x hx v h'
  omega
 ·rw[if_pos rfl]
  by_cases q:x=id
  ·rw[if_pos q]; omega
  ·rw[if_neg q] at h ⊢; exact d.ord x id hx hid h key hm
theorem DI.skip {k id y ed:Nat}{w:Int}{todo:List Hop}(d:DI n W A st id ((y,ed,w)::todo) c m e f r k)(h:0<=c y\/∃v,m y=some v/\v<=c id+w):DI n W A st id todo c m e f r k:=by
 refine ⟨d.fin,d.neg,d.que,λx hx h1 y' e' w' h2=>?_,d.sta,d.ord,d.par,d.rk,d.bnd,d.mx⟩
 rcases d.rel x hx h1 _ _ _ h2 with ⟨rfl,z⟩|z
 ·rcases List.mem_cons.1 z with z|z
  ·injection z with z1 z2
   injection z2 with z2 z3
   subst z1 z2 z3
   exact .inr h
  ·exact .inl ⟨rfl,z⟩
 ·exact .inr z
theorem DI.put {k id y ed:Nat}{w:Int}{todo:List Hop}(g:GOk n W A)(d:DI n W A st id ((y,ed,w)::todo) c m e f r (k+1))(hid:id<n)(hc:0<=c id)(hA:(y,ed,w)∈A id)(hy:c y<0)(hm:∀v,m y=some v->c id+w<v)(hk:c id<=k*W) :
  DI n W A st id todo c (λx=>if x=y then some (c id+w) else m x) (λx=>if x=y then (ed:Int) else e x) (λx=>if x=y then (id:Int) else f x) r (k+1):=by
 have hh:=g.hop id hid _ _ _ hA
 have hyn:=d.neg y hh.1 oM
 obtain ⟨⟨l,hl⟩,_⟩:=d.fin id hid hc
 refine ⟨d.fin,d.neg,λx hx v h=>?_,λx hx h1 y' e' w' h2=>?_,λx hx h=>?_,λx z hx hz h v h2=>?_,λz hz v h=>?_,d.rk,λx hx v h=>?_,d.mx⟩
 ·try simp only at h
  by_cases q:x=y
  ·subst q
   rw[if_pos rfl] at h
   injection h with h
   subst h
   exact ⟨hyn,oM,_,.snoc hl hA⟩
  ·rw[if_neg q] at h; exact d.que x hx v h
 ·try simp only
  have key:∀z,(0<=c z\/∃v,m z=some v/\v<=c x+w')->(0<=c z\/∃v,(if z=y then some (c id+w) else m z)=some v/\v<=c x+w'):=by
   rintro z (q|⟨v,q1,q2⟩)
   ·exact .inl q
   ·by_cases qz:z=y
    ·subst qz
     right
     exact ⟨c id+w,by rw[if_pos rfl],by have:=hm v q1; omega⟩
    ·exact .inr ⟨v,by rw[if_neg qz]; exact q1,q2⟩
  rcases d.rel x hx h1 _ _ _ h2 with ⟨rfl,z⟩|z
  ·rcases List.mem_cons.1 z with z|z
   ·injection z with z1 z2
    injection z2 with z2 z3
    subst z1 z2 z3
    exact .inr (.inr ⟨c x+w',by rw[if_pos rfl],Int.le_refl _⟩)
   ·exact .inl ⟨rfl,z⟩
  ·exact .inr (key _ z)
 ·try simp only
  rcases d.sta x hx h with q|q
  ·exact .inl q
  ·by_cases qz:x=y
   ·subst qz
    have:=hm 0 q
    omega
   ·right; rw[if_neg qz]; exact q
 ·try simp only at h2
  by_cases q:z=y
  ·subst q
   rw[if_pos rfl] at h2
   injection h2 with h2
   subst h2
   have:=d.mx x hx h; omega
  ·rw[if_neg q] at h2; exact d.ord x z hx hz h v h2
 ·try simp only at h ⊢
  by_cases q:z=y
  ·subst q
   rw[if_pos rfl] at h
   right
   have hv:v=c id+w:=by
    rcases h with h|h
    ·omega
    ·injection h with h; exact h.symm
   refine ⟨id,w,hid,by rw[if_pos rfl],hc,by rw[if_pos rfl]; omega,by rw[if_pos rfl]; simpa using hA,hv,λh=>oM⟩
  ·rw[if_neg q] at h
   rw[if_neg q,if_neg q]
   exact d.par z hz v h
 ·try simp only at h
  by_cases q:x=y
  ·subst q
   rw[if_pos rfl] at h
   have hv:v=c id+w:=by
    rcases h with h|h
    ·omega
    ·injection h with h; exact h.symm
   rw[Int.natCast_add,Int.add_mul]
   omega
  ·rw[if_neg q] at h; exact d.bnd x hx v h
end
end Go.Gm
namespace Go.Gm
def sumN (f:Nat->Int):Nat->Int
 |0=>0
 |n+1=>sumN f n+f n
theorem a4w {f g:Nat->Int}:∀n,(∀x,x<n->f x=g x)->sumN f n=sumN g n
 |0,_=>rfl
 |n+1,h=>by rw[sumN,sumN,a4w n λx hx=>h x oM,h n oM]
theorem b1y {f:Nat->Int}{y:Nat}{a:Int}:∀n,y<n->sumN (λx=>if x=y then a else f x) n=sumN f n-f y+a
 |0,h=>oM
 |n+1,h=>by
  rw[sumN,sumN]
  by_cases q:y=n
  ·subst q
   rw[if_pos rfl,a4w y (g:=f) λx hx=>if_neg oM]
   omega
  ·rw[if_neg (λz=>q z.symm),b1y n oM]
   omega
theorem b0m {f:Nat->Int}:∀n,(∀x,x<n->0<=f x)->0<=sumN f n
 |0,_=>Int.le_refl _
 |n+1,h=>by
  have:=b0m n λx hx=>h x oM
  have:=h n oM
  rw[sumN]; omega
theorem b8o {f:Nat->Int}:∀n,(∀x,x<n->f x<=1)->sumN f n<=n
 |0,_=>Int.le_refl _
 |n+1,h=>by
  have:=b8o n λx hx=>h x oM
  have:=h n oM
  rw[sumN]; omega
def up (c:Nat->Int)(y:Nat)(v:Int):Nat->Int:=λx=>if x=y then v else c x
def un (n:Nat)(c:Nat->Int):Int:=sumN (λx=>if c x<0 then 1 else 0) n
def mu (n:Nat)(W:Int)(c:Nat->Int):Int:=sumN (λx=>if c x<0 then n*W+1 else c x) n
theorem m1_ (n:Nat)(c:Nat->Int):0<=un n c:=b0m n λx _=>by split<;>omega
theorem un_le (n:Nat)(c:Nat->Int):un n c<=n:=b8o n λx _=>by split<;>omega
theorem b5t {W:Int}(hW:0<=W)(c:Nat->Int):0<=mu n W c:=by
 have:0<=(n:Int)*W:=Int.mul_nonneg oM hW
 exact b0m n λx _=>by split<;>omega
theorem un_up {n:Nat}{y:Nat}{v:Int}(hy:y<n)(hv:0<=v):un n (up c y v)=un n c-if c y<0 then 1 else 0:=by
 have:un n (up c y v)=sumN (λx=>if x=y then 0 else (λx=>if c x<0 then (1:Int) else 0) x) n:=by
  refine a4w n λx hx=>?_
  by_cases q:x=y
  ·have e:up c y v x=v:=if_pos q
   simp only[e,if_pos q]
   rw[if_neg oM]
  ·have e:up c y v x=c x:=if_neg q
   simp only[e,if_neg q]
 rw[this,b1y n hy,un]
 omega
theorem mu_up {n:Nat}{y:Nat}{v:Int}(hy:y<n)(hv:0<=v):mu n W (up c y v)=mu n W c-(if c y<0 then n*W+1 else c y)+v:=by
 have:mu n W (up c y v)=sumN (λx=>if x=y then v else (λx=>if c x<0 then n*W+1 else c x) x) n:=by
  refine a4w n λx hx=>?_
  by_cases q:x=y
  ·have e:up c y v x=v:=if_pos q
   simp only[e,if_pos q]
   rw[if_neg oM]
  ·have e:up c y v x=c x:=if_neg q
   simp only[e,if_neg q]
 rw[this,b1y n hy,mu]
structure RI (n:Nat) (W:Int) (A:Nat->List Hop) (st:Nat->Prop) (c:Nat->Int):Prop where
 wk:∀x,x<n->0<=c x->∃l,Wk A st x l (c x)
 neg:∀x,x<n->¬0<=c x->c x = -1
 sta:∀x,x<n->st x->c x=0
 bnd:∀x,x<n->c x+un n c*W<=n*W
def LC (n:Nat)(A:Nat->List Hop)(st:Nat->Prop)(c:Nat->Int):Prop:=∀x,x<n->(0<=c x/\Lst A st x (c x))\/(c x = -1/\∀l v,¬Wk A st x l v)
section
variable {n:Nat} {W:Int} {A:Nat->List Hop} {st:Nat->Prop} {c:Nat->Int}
theorem LC.uniq (a:LC n A st c)(b:LC n A st d):∀x,x<n->c x=d x:=by
 intro x hx
 rcases a x hx with ⟨a1,a2⟩|⟨a1,a2⟩<;>rcases b x hx with ⟨b1,b2⟩|⟨b1,b2⟩
 ·exact a2.uniq b2
 ·obtain ⟨⟨l,h⟩,_⟩:=a2
  exact absurd h (b2 _ _)
 ·obtain ⟨⟨l,h⟩,_⟩:=b2
  exact absurd h (a2 _ _)
 ·omega
theorem RI.le (hW:0<=W)(r:RI n W A st c){x:Nat}(hx:x<n):-1<=c x/\c x<=n*W:=by
 have h1:=r.bnd x hx
 have h2:0<=un n c*W:=Int.mul_nonneg (m1_ n c) hW
 have h3:=r.neg x hx
 omega
theorem RI.relax (g:GOk n W A)(hs:∀x,st x->x<n)(r:RI n W A st c){x y e:Nat}{w:Int}(hx:x<n)(h:(y,e,w)∈A x)(h0:0<=c x)(hr:c y<0\/c x+w<c y) :
  RI n W A st (up c y (c x+w))/\mu n W (up c y (c x+w))<mu n W c:=by
 obtain ⟨hy,w0,w1⟩:=g.hop x hx _ _ _ h
 have hW:=g.w0
 have hv:0<=c x+w:=oM
 obtain ⟨l,hl⟩:=r.wk x hx h0
 have bx:=r.bnd x hx
 have bu:=m1_ n (up c y (c x+w))
 have eu:=un_up (c:=c) hy hv
 have bm:=Int.mul_nonneg bu hW
 have key:c x+w+un n (up c y (c x+w))*W<=n*W:=by
  by_cases q:c y<0
  ·rw[if_pos q] at eu
   rw[eu,Int.sub_mul]
   omega
  ·rw[if_neg q] at eu
   have:=r.bnd y hy
   rw[eu,Int.sub_zero]
   omega
 refine ⟨⟨λz hz hc=>?_,λz hz hc=>?_,λz hz hc=>?_,λz hz=>?_⟩,?_⟩
 ·by_cases q:z=y
  ·subst q
   simp only[up,if_pos rfl]
   exact ⟨_,.snoc hl h⟩
  ·simp only[up,if_neg q] at hc ⊢
   exact r.wk z hz hc
 ·by_cases q:z=y
  ·simp only[up,if_pos q] at hc; omega
  ·simp only[up,if_neg q] at hc ⊢
   exact r.neg z hz hc
 ·by_cases q:z=y
  ·subst q
   have:=r.sta z hz hc
   omega
  ·simp only[up,if_neg q]
   exact r.sta z hz hc
 ·by_cases q:z=y
  ·subst q
   have:up c z (c x+w) z=c x+w:=if_pos rfl
   rw[this]; exact key
  ·have:up c y (c x+w) z=c z:=by simp only[up,if_neg q]
   rw[this]
   have h1:=r.bnd z hz
   have h2:un n (up c y (c x+w))*W<=un n c*W:=Int.mul_le_mul_of_nonneg_right (by rw[eu]; split<;>omega) hW
   omega
 ·rw[mu_up hy hv]
  split<;>omega
theorem RI.lst (g:GOk n W A)(hs:∀x,st x->x<n)(r:RI n W A st c)(hd:∀x,x<n->0<=c x->∀y e w,(y,e,w)∈A x->0<=c y/\c y<=c x+w):LC n A st c:=by
 have all:∀y l v,Wk A st y l v->0<=c y/\c y<=v:=by
  intro y l v h
  induction h with
  |nil h=>have:=r.sta _ (hs _ h) h; omega
  |snoc h1 h2 ih=>have:=hd _ (Wk.range g hs h1).1 ih.1 _ _ _ h2; omega
 intro x hx
 by_cases q:0<=c x
 ·exact .inl ⟨q,r.wk x hx q,λl v h=>(all x l v h).2⟩
 ·exact .inr ⟨r.neg x hx q,λl v h=>q (all x l v h).1⟩
theorem DI.lc {m:Nat->Option Int}{e f:Nat->Int}{r:Nat->Nat}{k id:Nat}(g:GOk n W A)(hs:∀x,st x->x<n)(d:DI n W A st id [] c m e f r k)(hm:∀x,x<n->m x=none):LC n A st c:=by
 intro x hx
 by_cases q:0<=c x
 ·exact .inl ⟨q,d.fin x hx q⟩
 ·exact .inr ⟨d.neg x hx q,λl v h=>q (d.all g hs hm h).1⟩
theorem RI.start (g:GOk n W A){x0:Nat}(h0:x0<n)(hst:∀x,st x↔x=x0)(hc:∀x,x<n->c x=if x=x0 then 0 else -1):RI n W A st c:=by
 have hW:=g.w0
 have hu:un n c=n-1:=by
  have:un n c=sumN (λx=>if x=x0 then 0 else (λ_=>(1:Int)) x) n:=by
   refine a4w n λx hx=>?_
   simp only[hc x hx]
   by_cases q:x=x0
   ·rw[if_pos q,if_pos q,if_neg oM]
   ·rw[if_neg q,if_neg q,if_pos oM]
  have e1:∀n:Nat,sumN (λ_=>(1:Int)) n=n:=by
   intro n
   induction n with
   |zero=>rfl
   |succ n ih=>rw[sumN,ih]; omega
  rw[this,b1y n h0,e1]
  omega
 refine ⟨λx hx h=>?_,λx hx h=>?_,λx hx h=>?_,λx hx=>?_⟩
 ·rw[hc x hx] at h ⊢
  by_cases q:x=x0
  ·rw[if_pos q]; exact ⟨[],.nil ((hst x).2 q)⟩
  ·rw[if_neg q] at h; omega
 ·rw[hc x hx] at h ⊢
  by_cases q:x=x0
  ·rw[if_pos q] at h; omega
  ·rw[if_neg q]
 ·rw[hc x hx,if_pos ((hst x).1 h)]
 ·rw[hc x hx,hu,Int.sub_mul]
  have:(1:Int)*W=W:=Int.one_mul W
  split<;>omega
end
end Go.Gm
namespace Go.Gm
theorem tb_or (s q p:Nat):(s ||| 2 ^ q).testBit p=(s.testBit p || decide (p=q)):=by
 rw[Nat.testBit_or,Nat.testBit_two_pow]
 by_cases h:q=p
 ·subst h; simp
 ·simp[h,Ne.symm h]
def clo1 (fr:List (Nat × Nat))(s:Nat):Nat:=fr.foldl (λs f=>if s.testBit f.1 then s ||| 2 ^ f.2 else s) s
def cloN (fr:List (Nat × Nat)):Nat->Nat->Nat
 |0,s=>s
 |k+1,s=>if clo1 fr s=s then s else cloN fr k (clo1 fr s)
def cloF (n:Nat)(fr:List (Nat × Nat))(s:Nat):Nat:=cloN fr (n+1) s
inductive Rch (fr:List (Nat × Nat)) (s:Nat):Nat->Prop
 |here {p:Nat}:s.testBit p=true->Rch fr s p
 |on {p q:Nat}:Rch fr s p->(p,q)∈fr->Rch fr s q
theorem Rch.mono {s t:Nat}(h:∀p,s.testBit p=true->Rch fr t p){p:Nat}(k:Rch fr s p):Rch fr t p:=by
 induction k with
 |here h1=>exact h _ h1
 |on _ h2 ih=>exact .on ih h2
theorem b2D (fr0:List (Nat × Nat)):∀(fr:List (Nat × Nat)) (s:Nat),(∀f∈fr,f∈fr0)->(∀p,s.testBit p=true->(clo1 fr s).testBit p=true)/\(∀p,(clo1 fr s).testBit p=true->Rch fr0 s p)
 |[],s,_=>⟨λp h=>h,λp h=>.here h⟩
 |f::fr,s,hf=>by
  simp only[clo1,List.foldl_cons]
  by_cases h:s.testBit f.1=true
  ·rw[if_pos h]
   obtain ⟨h1,h2⟩:=b2D fr0 fr (s ||| 2 ^ f.2) λg hg=>hf g (List.mem_cons_of_mem _ hg)
   refine ⟨λp hp=>h1 p (by rw[tb_or,hp]; rfl),λp hp=>(h2 p hp).mono λq hq=>?_⟩
   rw[tb_or,Bool.or_eq_true,decide_eq_true_eq] at hq
   rcases hq with hq|hq
   ·exact .here hq
   ·rw[hq]; exact .on (.here h) (hf f (List.mem_cons_self ..))
  ·rw[if_neg h]
   exact b2D fr0 fr s λg hg=>hf g (List.mem_cons_of_mem _ hg)
theorem b3Q:∀(fr:List (Nat × Nat)) (s:Nat),clo1 fr s=s->∀f∈fr,s.testBit f.1=true->s.testBit f.2=true
 |[],s,_=>λf hf=>by cases hf
 |f::fr,s,h=>by
  simp only[clo1,List.foldl_cons] at h
  intro g hg hs
  by_cases h1:s.testBit f.1=true
  ·rw[if_pos h1] at h
   have h2:s.testBit f.2=true:=by
    have:=(b2D fr fr (s ||| 2 ^ f.2) λ_ z=>z).1 f.2 (by rw[tb_or]; simp)
    rw[show clo1 fr (s ||| 2 ^ f.2)=s from h] at this
    exact this
   have h3:s ||| 2 ^ f.2=s:=by
    refine Nat.eq_of_testBit_eq λp=>?_
    rw[tb_or]
    by_cases q:p=f.2
    ·subst q; rw[h2]; rfl
    ·simp[q]
   rw[h3] at h
   rcases List.mem_cons.1 hg with rfl|hg
   ·exact h2
   ·exact b3Q fr s h g hg hs
  ·rw[if_neg h1] at h
   rcases List.mem_cons.1 hg with rfl|hg
   ·exact absurd hs h1
   ·exact b3Q fr s h g hg hs
def outN (n s:Nat):Int:=un n λp=>if s.testBit p=true then 0 else -1
theorem b8p {c d:Nat->Int}:∀n,(∀x,x<n->c x<0->d x<0)->un n c<=un n d
 |0,_=>Int.le_refl _
 |n+1,h=>by
  have h1:=b8p n λx hx=>h x oM
  show un n c+(if c n<0 then 1 else 0)<=un n d+(if d n<0 then 1 else 0)
  by_cases q:c n<0
  ·rw[if_pos q,if_pos (h n oM q)]; omega
  ·rw[if_neg q]; split<;>omega
theorem un_lt {c d:Nat->Int}:∀n,(∀x,x<n->c x<0->d x<0)->∀x,x<n->¬c x<0->d x<0->un n c<un n d
 |0,_,x,hx,_,_=>oM
 |n+1,h,x,hx,h1,h2=>by
  have h3:=b8p n λx hx=>h x oM
  show un n c+(if c n<0 then 1 else 0)<un n d+(if d n<0 then 1 else 0)
  by_cases q:x=n
  ·subst q; rw[if_neg h1,if_pos h2]; omega
  ·have h4:=un_lt n (λx hx=>h x oM) x oM h1 h2
   by_cases q:c n<0
   ·rw[if_pos q,if_pos (h n oM q)]; omega
   ·rw[if_neg q]; split<;>omega
theorem c4w {n s t:Nat}(h:∀p,s.testBit p=true->t.testBit p=true)(hn:∀p,t.testBit p=true->p<n)(hne:t≠s):outN n t<outN n s:=by
 obtain ⟨p,hp⟩:∃p,t.testBit p≠s.testBit p:=by
  refine Classical.byContradiction λz=>hne (Nat.eq_of_testBit_eq λp=>?_)
  exact Classical.byContradiction λy=>z ⟨p,y⟩
 have ht:t.testBit p=true:=by
  cases hs:s.testBit p with
  |true=>exact h p hs
  |false=>rw[hs] at hp; simpa using hp
 have hs:¬s.testBit p=true:=λz=>hp (by rw[ht,z])
 refine un_lt n (λx hx h1=>?_) p (hn p ht) (by simp[ht]) (by simp[hs])
 by_cases q:s.testBit x=true
 ·rw[if_pos (h x q)] at h1; omega
 ·rw[if_neg q]; omega
theorem b8q {fr:List (Nat × Nat)}{n:Nat}(hf:∀f∈fr,f.2<n):∀(k s:Nat),(∀p,s.testBit p=true->p<n)->outN n s<k->clo1 fr (cloN fr k s)=cloN fr k s/\(∀p,s.testBit p=true->(cloN fr k s).testBit p=true)/\(∀p,(cloN fr k s).testBit p=true->Rch fr s p)
 |0,s,_,h=>by
  have:=m1_ n λp=>if s.testBit p=true then 0 else -1
  unfold outN at h
  omega
 |k+1,s,hs,h=>by
  obtain ⟨h1,h2⟩:=b2D fr fr s λ_ z=>z
  rw[cloN]
  by_cases q:clo1 fr s=s
  ·rw[if_pos q]; exact ⟨q,λp hp=>hp,λp hp=>.here hp⟩
  ·rw[if_neg q]
   have hlt:∀p,(clo1 fr s).testBit p=true->p<n:=λp hp=>by
    have:=h2 p hp
    cases this with
    |here h3=>exact hs p h3
    |on _ h4=>exact hf _ h4
   have:=c4w h1 hlt q
   obtain ⟨k1,k2,k3⟩:=b8q hf k (clo1 fr s) hlt oM
   exact ⟨k1,λp hp=>k2 p (h1 p hp),λp hp=>(k3 p hp).mono h2⟩
theorem a9p {fr:List (Nat × Nat)}{n s:Nat}(hf:∀f∈fr,f.2<n)(hs:∀p,s.testBit p=true->p<n)(p:Nat):(cloF n fr s).testBit p=true↔Rch fr s p:=by
 have hle:outN n s<(n+1:Nat):=by
  have:=un_le n λp=>if s.testBit p=true then 0 else -1
  unfold outN
  omega
 obtain ⟨h1,h2,h3⟩:=b8q hf (n+1) s hs hle
 refine ⟨h3 p,λh=>?_⟩
 induction h with
 |here h=>exact h2 _ h
 |on _ h4 ih=>exact b3Q fr _ h1 _ h4 ih
theorem b7h {fr:List (Nat × Nat)}{n s:Nat}(hf:∀f∈fr,f.2<n)(hs:∀p,s.testBit p=true->p<n){p:Nat}(h:Rch fr s p):p<n:=by
 cases h with
 |here h=>exact hs _ h
 |on _ h4=>exact hf _ h4
def stpF (st:List (Nat × Nat × Nat))(s m:Nat):Nat:=st.foldl (λt x=>if s.testBit x.1 && x.2.2.testBit m then t ||| 2 ^ x.2.1 else t) 0
theorem b4O {s m:Nat}:∀(st:List (Nat × Nat × Nat)) (t p:Nat),(st.foldl (λt x=>if s.testBit x.1 && x.2.2.testBit m then t ||| 2 ^ x.2.1 else t) t).testBit p=true↔t.testBit p=true\/∃x∈st,s.testBit x.1=true/\x.2.2.testBit m=true/\x.2.1=p
 |[],t,p=>by simp
 |x::st,t,p=>by
  rw[List.foldl_cons]
  by_cases h:(s.testBit x.1 && x.2.2.testBit m)=true
  ·rw[if_pos h,b4O st,tb_or]
   rw[Bool.and_eq_true] at h
   simp only[Bool.or_eq_true,decide_eq_true_eq,List.mem_cons,exists_eq_or_imp]
   constructor
   ·rintro ((h1|h1)|h1)
    ·exact .inl h1
    ·exact .inr (.inl ⟨h.1,h.2,h1.symm⟩)
    ·exact .inr (.inr h1)
   ·rintro (h1|⟨_,_,h1⟩|h1)
    ·exact .inl (.inl h1)
    ·exact .inl (.inr h1.symm)
    ·exact .inr h1
  ·rw[if_neg h,b4O st]
   rw[Bool.and_eq_true] at h
   simp only[List.mem_cons,exists_eq_or_imp]
   constructor
   ·rintro (h1|h1)
    ·exact .inl h1
    ·exact .inr (.inr h1)
   ·rintro (h1|⟨h1,h2,_⟩|h1)
    ·exact .inl h1
    ·exact absurd ⟨h1,h2⟩ h
    ·exact .inr h1
theorem a9q:(stpF st s m).testBit p=true↔∃x∈st,s.testBit x.1=true/\x.2.2.testBit m=true/\x.2.1=p:=by
 rw[stpF,b4O]; simp
def idxF (x:Nat):Nat->List Nat->Option Nat
 |_,[]=>none
 |i,y::l=>if y=x then some i else idxF x (i+1) l
def rowF (nf:NF)(lim s:Nat):Nat->Nat->List Nat->List Int->Option (List Nat × List Int)
 |0,_,sets,row=>some (sets,row)
 |k+1,m,sets,row=>
  let to:=cloF nf.n nf.fr (stpF nf.st s m)
  match idxF to 0 sets with
  |some j=>rowF nf lim s k (m+1) sets (row++[(j:Int)])
  |none=>if lim<=sets.length then none else rowF nf lim s k (m+1) (sets++[to]) (row++[(sets.length:Int)])
def subL (nf:NF)(lim:Nat):Nat->Nat->List Nat->List (List Int)->List Bool->Option (List (List Int) × List Bool)
 |0,_,_,_,_=>none
 |f+1,i,sets,D,acc=>match sets[i]? with
  |none=>some (D,acc)
  |some s=>match rowF nf lim s 5 0 sets [] with
   |none=>none
   |some (sets',row)=>subL nf lim f (i+1) sets' (D++[row]) (acc++[s.testBit nf.e])
def subF (nf:NF)(lim:Nat):Option (List (List Int) × List Bool):=subL nf lim (lim+2) 0 [cloF nf.n nf.fr (2 ^ nf.s)] [] []
end Go.Gm
namespace Go.Gm
abbrev Stp:=List (Nat × Nat × Nat)
abbrev Fre:=List (Nat × Nat)
inductive Pt (w:List Int) (st:Stp) (fr:Fre) (q i:Nat):Nat->Nat->Prop
 |refl:Pt w st fr q i q i
 |free {p r j:Nat}:Pt w st fr q i p j->(p,r)∈fr->Pt w st fr q i r j
 |step {p r k j:Nat}:Pt w st fr q i p j->(p,r,k)∈st->hit w k j->Pt w st fr q i r (j+1)
section
variable {w:List Int} {st st':Stp} {fr fr':Fre}
theorem Pt.trans (a:Pt w st fr q i p j)(b:Pt w st fr p j r k):Pt w st fr q i r k:=by
 induction b with
 |refl=>exact a
 |free _ h ih=>exact .free ih h
 |step _ h1 h2 ih=>exact .step ih h1 h2
theorem Pt.one {q p i:Nat}(h:(q,p)∈fr):Pt w st fr q i p i:=.free .refl h
theorem Pt.mono (h1:∀x∈st,x∈st')(h2:∀x∈fr,x∈fr')(a:Pt w st fr q i p j):Pt w st' fr' q i p j:=by
 induction a with
 |refl=>exact .refl
 |free _ h ih=>exact .free ih (h2 _ h)
 |step _ h k ih=>exact .step ih (h1 _ h) k
def Clo (w:List Int)(st:Stp)(fr:Fre)(V:Nat->Nat->Prop):Prop:=(∀p r,(p,r)∈fr->∀j,V p j->V r j)/\∀p r k,(p,r,k)∈st->∀j,V p j->hit w k j->V r (j+1)
theorem Clo.pt (c:Clo w st fr V)(h:V q i)(a:Pt w st fr q i p j):V p j:=by
 induction a with
 |refl=>exact h
 |free _ h ih=>exact c.1 _ _ h _ ih
 |step _ h k ih=>exact c.2 _ _ _ h _ ih k
end
structure Frg (n:Nd) (b b':NS) (s e:Nat) (S:Stp) (F:Fre):Prop where
 st:b'.st=b.st++S
 fr:b'.fr=b.fr++F
 ls:b.n<=s/\s<b'.n
 le:b.n<=e/\e<b'.n
 eS:∀x∈S,b.n<=x.1/\x.1<b'.n/\b.n<=x.2.1/\x.2.1<b'.n
 eF:∀x∈F,b.n<=x.1/\x.1<b'.n/\b.n<=x.2/\x.2<b'.n
 com:∀w i j,R w n i j->Pt w S F s i e j
 snd:∀(w:List Int) (A:Nat->Prop),∃V:Nat->Nat->Prop,(∀q j,V q j->b.n<=q/\q<b'.n)/\Clo w S F V/\(∀j,A j->V s j)/\∀j,V e j->∃i,A i/\R w n i j
structure Frs (ns:List Nd) (b b':NS) (ft:List (Nat × Nat)) (S:Stp) (F:Fre):Prop where
 st:b'.st=b.st++S
 fr:b'.fr=b.fr++F
 len:ft.length=ns.length
 le:b.n<=b'.n
 lt:∀(k:Nat) (x:Nat × Nat),ft[k]?=some x->b.n<=x.1/\x.1<b'.n/\b.n<=x.2/\x.2<b'.n
 eS:∀x∈S,b.n<=x.1/\x.1<b'.n/\b.n<=x.2.1/\x.2.1<b'.n
 eF:∀x∈F,b.n<=x.1/\x.1<b'.n/\b.n<=x.2/\x.2<b'.n
 com:∀w (k:Nat) (x:Nat × Nat) n,ft[k]?=some x->ns[k]?=some n->∀i j,R w n i j->Pt w S F x.1 i x.2 j
 snd:∀(w:List Int) (A:Nat->Nat->Prop),∃V:Nat->Nat->Prop,(∀q j,V q j->b.n<=q/\q<b'.n)/\Clo w S F V/\∀(k:Nat) (x:Nat × Nat) n,ft[k]?=some x->ns[k]?=some n->(∀j,A k j->V x.1 j)/\∀j,V x.2 j->∃i,A k i/\R w n i j
theorem Frs.nil (b:NS):Frs [] b b [] [] []:=
 ⟨by simp,by simp,rfl,Nat.le_refl _,(λk x h=>by simp at h),(λx h=>by cases h),(λx h=>by cases h),(λw k x n h=>by simp at h),λw A=>⟨λ_ _=>False,λ_ _ h=>h.elim,⟨(λ_ _ h=>by cases h),(λ_ _ _ h=>by cases h)⟩,λk x n h=>by simp at h⟩⟩
theorem Frs.cons {n:Nd}{ns:List Nd}{b b1 b2:NS}{x:Nat × Nat}{ft:List (Nat × Nat)}{S S':Stp}{F F':Fre}(a:Frg n b b1 x.1 x.2 S F)(c:Frs ns b1 b2 ft S' F'):Frs (n::ns) b b2 (x::ft) (S++S') (F++F'):=by
 have h1:=a.ls
 have h2:=a.le
 have h3:=c.le
 refine ⟨by rw[c.st,a.st,List.append_assoc],by rw[c.fr,a.fr,List.append_assoc],by simp[c.len],oM,λk y h=>?_,λy h=>?_,λy h=>?_,λw k y m h h' i j hr=>?_,λw A=>?_⟩
 ·cases k with
  |zero=>simp at h; subst h; omega
  |succ k=>have:=c.lt k y (by simpa using h); omega
 ·rcases List.mem_append.1 h with h|h
  ·have:=a.eS y h; omega
  ·have:=c.eS y h; omega
 ·rcases List.mem_append.1 h with h|h
  ·have:=a.eF y h; omega
  ·have:=c.eF y h; omega
 ·cases k with
  |zero=>
   simp at h h'
   subst h h'
   exact (a.com w i j hr).mono (λz hz=>List.mem_append_left _ hz) λz hz=>List.mem_append_left _ hz
  |succ k=>exact (c.com w k y m (by simpa using h) (by simpa using h') i j hr).mono (λz hz=>List.mem_append_right _ hz) λz hz=>List.mem_append_right _ hz
 ·obtain ⟨V,v1,v2,v3,v4⟩:=a.snd w (A 0)
  obtain ⟨U,u1,u2,u3⟩:=c.snd w (λk=>A (k+1))
  refine ⟨λq j=>V q j\/U q j,λq j h=>?_,⟨λp r h j hv=>?_,λp r k h j hv hh=>?_⟩,λk y m h h'=>?_⟩
  ·rcases h with h|h
   ·have:=v1 q j h; omega
   ·have:=u1 q j h; omega
  ·rcases List.mem_append.1 h with h|h
   ·have he:=a.eF _ h
    rcases hv with hv|hv
    ·exact .inl (v2.1 p r h j hv)
    ·have:=u1 p j hv; simp only at he; omega
   ·have he:=c.eF _ h
    rcases hv with hv|hv
    ·have:=v1 p j hv; simp only at he; omega
    ·exact .inr (u2.1 p r h j hv)
  ·rcases List.mem_append.1 h with h|h
   ·have he:=a.eS _ h
    rcases hv with hv|hv
    ·exact .inl (v2.2 p r k h j hv hh)
    ·have:=u1 p j hv; simp only at he; omega
   ·have he:=c.eS _ h
    rcases hv with hv|hv
    ·have:=v1 p j hv; simp only at he; omega
    ·exact .inr (u2.2 p r k h j hv hh)
  ·cases k with
   |zero=>
    simp at h h'
    subst h h'
    refine ⟨λj hj=>.inl (v3 j hj),λj hj=>?_⟩
    rcases hj with hj|hj
    ·exact v4 j hj
    ·have:=u1 _ j hj; omega
   |succ k=>
    have hk:ft[k]?=some y:=by simpa using h
    obtain ⟨w1,w2⟩:=u3 k y m hk (by simpa using h')
    have hl:=c.lt k y hk
    refine ⟨λj hj=>.inr (w1 j hj),λj hj=>?_⟩
    rcases hj with hj|hj
    ·have:=v1 _ j hj; omega
    ·exact w2 j hj
def PSp (p:NS->List (Nat × Nat) × NS)(ns:List Nd):Prop:=∀b,(p b).2.much=false->b.much=false/\∃S F,Frs ns b (p b).2 (p b).1 S F
theorem PSp.none:PSp (λb=>([],b)) []:=λb h=>⟨h,[],[],Frs.nil b⟩
theorem c5z (b:NS)(s e:Nat)(l:List (Nat × Nat))(n:Nd):(b.lead s e l n).n=b.n/\(b.lead s e l n).much=b.much:=by
 cases n<;>exact ⟨rfl,rfl⟩
theorem Frs.around {b b3:NS}{S S0:Stp}{F F0:Fre}(f:Frs ns ⟨b.n+1,b.much,b.st,b.fr⟩ ⟨b3.n-1,b3.much,b3.st,b3.fr⟩ ft S F)(h2:b.n+2<=b3.n)(hS:(b3.lead b.n (b3.n-1) ft n).st=b3.st++S0)(hF:(b3.lead b.n (b3.n-1) ft n).fr=b3.fr++F0)(eS:∀x∈S0,x.1=b.n/\x.2.1=b3.n-1)(eF:∀x∈F0,(x.1=b.n\/∃y∈ft,x.1=y.2)/\(x.2=b3.n-1\/∃y∈ft,x.2=y.1))(com:∀w i j,R w n i j->Pt w (S++S0) (F++F0) b.n i (b3.n-1) j)(snd:∀(w:List Int) (A:Nat->Prop),∃(B:Nat->Nat->Prop) (E:Nat->Prop),(∀j,E j->∃i,A i/\R w n i j)/\
   (∀p r k,(p,r,k)∈S0->∀j,A j->hit w k j->E (j+1))/\
   (∀V:Nat->Nat->Prop,(∀j,A j->V b.n j)->(∀j,V b.n j->A j)->(∀j,E j->V (b3.n-1) j)->(∀(k:Nat) (x:Nat × Nat) m,ft[k]?=some x->ns[k]?=some m->(∀j,B k j->V x.1 j)/\∀j,V x.2 j->∃i,B k i/\R w m i j)->∀p r,(p,r)∈F0->∀j,V p j->V r j)) :
  ∃S F,Frg n b (b3.lead b.n (b3.n-1) ft n) b.n (b3.n-1) S F:=by
 have hn:=(c5z b3 b.n (b3.n-1) ft n).1
 have hlt:∀y∈ft,b.n+1<=y.1/\y.1<b3.n-1/\b.n+1<=y.2/\y.2<b3.n-1:=λy hy=>by
  obtain ⟨k,hk,h⟩:=List.getElem_of_mem hy
  exact f.lt k y (by rw[List.getElem?_eq_getElem hk,h])
 have fS:=f.eS
 have fF:=f.eF
 simp only at fS fF
 refine ⟨S++S0,F++F0,⟨by rw[hS,show b3.st=_ from f.st,List.append_assoc],by rw[hF,show b3.fr=_ from f.fr,List.append_assoc],oM,oM,λx hx=>?_,λx hx=>?_,com,λw A=>?_⟩⟩
 ·rcases List.mem_append.1 hx with hx|hx
  ·have:=fS x hx; omega
  ·have:=eS x hx; omega
 ·rcases List.mem_append.1 hx with hx|hx
  ·have:=fF x hx; omega
  ·obtain ⟨h3,h4⟩:=eF x hx
   have h5:b.n<=x.1/\x.1<b3.n:=by
    rcases h3 with h3|⟨y,hy,h3⟩
    ·omega
    ·have:=hlt y hy; omega
   have h6:b.n<=x.2/\x.2<b3.n:=by
    rcases h4 with h4|⟨y,hy,h4⟩
    ·omega
    ·have:=hlt y hy; omega
   omega
 ·obtain ⟨B,E,s1,s2,s3⟩:=snd w A
  obtain ⟨V,v1,v2,v3⟩:=f.snd w B
  simp only at v1
  obtain ⟨U,hU⟩:∃U:Nat->Nat->Prop,U=λq j=>(q=b.n/\A j)\/(q=b3.n-1/\E j)\/V q j:=⟨_,rfl⟩
  have u1:∀j,U b.n j->A j:=λj h=>by
   rw[hU] at h
   rcases h with h|h|h
   ·exact h.2
   ·omega
   ·have:=v1 _ _ h; omega
  have u2:∀j,U (b3.n-1) j->E j:=λj h=>by
   rw[hU] at h
   rcases h with h|h|h
   ·omega
   ·exact h.2
   ·have:=v1 _ _ h; omega
  have u3:∀q j,b.n+1<=q->q<b3.n-1->(U q j↔V q j):=λq j h1 h2=>by
   rw[hU]
   constructor
   ·rintro (h|h|h)
    ·omega
    ·omega
    ·exact h
   ·exact λh=>.inr (.inr h)
  have ua:∀j,A j->U b.n j:=λj h=>by rw[hU]; exact .inl ⟨rfl,h⟩
  have ue:∀j,E j->U (b3.n-1) j:=λj h=>by rw[hU]; exact .inr (.inl ⟨rfl,h⟩)
  refine ⟨U,λq j h=>?_,⟨λp r h j hv=>?_,λp r k h j hv hh=>?_⟩,ua,λj h=>s1 j (u2 j h)⟩
  ·rw[hU] at h
   rcases h with h|h|h
   ·omega
   ·omega
   ·have:=v1 _ _ h; omega
  ·rcases List.mem_append.1 h with h|h
   ·have:=fF _ h
    simp only at this
    rw[u3 p j oM oM] at hv
    rw[u3 r j oM oM]
    exact v2.1 p r h j hv
   ·refine s3 U ua u1 ue (λk x m hk hm=>?_) p r h j hv
    obtain ⟨w1,w2⟩:=v3 k x m hk hm
    have hl:=f.lt k x hk
    simp only at hl
    exact ⟨λj hj=>(u3 _ _ hl.1 hl.2.1).2 (w1 j hj),λj hj=>w2 j ((u3 _ _ hl.2.2.1 hl.2.2.2).1 hj)⟩
  ·rcases List.mem_append.1 h with h|h
   ·have:=fS _ h
    simp only at this
    rw[u3 p j oM oM] at hv
    rw[u3 r (j+1) oM oM]
    exact v2.2 p r k h j hv hh
   ·have:=eS _ h
    simp only at this
    obtain ⟨rfl,rfl⟩:=this
    exact ue _ (s2 _ _ _ h j (u1 j hv) hh)
theorem b2A {α:Type}{l:List α}{x:α}(h:x∈l):∃k:Nat,l[k]?=some x:=by
 obtain ⟨k,hk,h⟩:=List.getElem_of_mem h
 exact ⟨k,by rw[List.getElem?_eq_getElem hk,h]⟩
theorem Star.snd (h:Star r a i)(k:r i j):∃m,r a m/\Star r m j:=by
 rcases Star.iff.1 h with rfl|⟨m,h1,h2⟩
 ·exact ⟨j,k,.refl _⟩
 ·exact ⟨m,h1,.tail h2 k⟩
structure NfOk (nf:NF):Prop where
 s:nf.s<nf.n
 e:nf.e<nf.n
 st:∀x∈nf.st,x.1<nf.n/\x.2.1<nf.n
 fr:∀x∈nf.fr,x.1<nf.n/\x.2<nf.n
end Go.Gm
namespace Go.Gm
theorem b5u:∀{l:List Nat} {i j:Nat},idxF x i l=some j->i<=j/\l[j-i]?=some x
 |[],i,j,h=>by simp[idxF] at h
 |y::l,i,j,h=>by
  rw[idxF] at h
  by_cases q:y=x
  ·rw[if_pos q] at h
   injection h with h
   subst h
   exact ⟨Nat.le_refl _,by simp[q]⟩
  ·rw[if_neg q] at h
   obtain ⟨h1,h2⟩:=b5u h
   exact ⟨oM,by rw[show j-i=j-(i+1)+1 by omega]; simpa using h2⟩
abbrev nxtF (nf:NF)(s m:Nat):Nat:=cloF nf.n nf.fr (stpF nf.st s m)
def RowOk (nf:NF)(sets:List Nat)(s:Nat)(r:List Int)(m0 k:Nat):Prop:=r.length=k/\∀t,t<k->∃j:Nat,r[t]?=some (j:Int)/\sets[j]?=some (nxtF nf s (m0+t))
theorem a2N {α:Type}{l e:List α}{j:Nat}{x:α}(h:l[j]?=some x):(l++e)[j]?=some x:=by
 rw[List.getElem?_append_left (List.getElem?_eq_some_iff.1 h).1]; exact h
theorem b4P:∀(k m:Nat) (sets:List Nat) (row:List Int) {sets':List Nat} {row':List Int},rowF nf lim s k m sets row=some (sets',row')->(∃e,sets'=sets++e)/\(∃r,row'=row++r/\RowOk nf sets' s r m k)/\(sets'.length<=sets.length\/sets'.length<=lim)
 |0,m,sets,row,sets',row',h=>by
  simp only[rowF,Option.some.injEq,Prod.mk.injEq] at h
  obtain ⟨rfl,rfl⟩:=h
  exact ⟨⟨[],by simp⟩,⟨[],by simp,rfl,λt ht=>oM⟩,.inl (Nat.le_refl _)⟩
 |k+1,m,sets,row,sets',row',h=>by
  simp only[rowF] at h
  split at h
  ·rename_i j hj
   obtain ⟨⟨e,h1⟩,⟨r,h2,h3,h4⟩,h5⟩:=b4P k (m+1) _ _ h
   obtain ⟨_,hj2⟩:=b5u hj
   rw[Nat.sub_zero] at hj2
   refine ⟨⟨e,h1⟩,⟨(j:Int)::r,by rw[h2]; simp,by simp[h3],λt ht=>?_⟩,h5⟩
   cases t with
   |zero=>exact ⟨j,rfl,by rw[h1]; exact a2N hj2⟩
   |succ t=>
    obtain ⟨j',k1,k2⟩:=h4 t oM
    exact ⟨j',by simpa using k1,by rw[k2,show m+1+t=m+(t+1) by omega]⟩
  ·rename_i hj
   split at h
   ·cases h
   ·rename_i hl
    obtain ⟨⟨e,h1⟩,⟨r,h2,h3,h4⟩,h5⟩:=b4P k (m+1) _ _ h
    refine ⟨⟨nxtF nf s m::e,by rw[h1]; simp⟩,⟨(sets.length:Int)::r,by rw[h2]; simp,by simp[h3],λt ht=>?_⟩,?_⟩
    ·cases t with
     |zero=>exact ⟨sets.length,rfl,by rw[h1]; exact a2N (by simp)⟩
     |succ t=>
      obtain ⟨j',k1,k2⟩:=h4 t oM
      exact ⟨j',by simpa using k1,by rw[k2,show m+1+t=m+(t+1) by omega]⟩
    ·rcases h5 with h5|h5
     ·simp only[List.length_append,List.length_cons,List.length_nil] at h5
      right; omega
     ·exact .inr h5
theorem RowOk.grow (h:RowOk nf sets s r m0 k)(e:List Nat):RowOk nf (sets++e) s r m0 k:=
 ⟨h.1,λt ht=>by obtain ⟨j,h1,h2⟩:=h.2 t ht; exact ⟨j,h1,a2N h2⟩⟩
structure SubI (nf:NF) (lim:Nat) (sets:List Nat) (D:List (List Int)) (acc:List Bool) (i:Nat):Prop where
 s0:sets[0]?=some (cloF nf.n nf.fr (2 ^ nf.s))
 ld:D.length=i
 la:acc.length=i
 il:i<=sets.length
 sl:sets.length<=1\/sets.length<=lim
 row:∀a s,a<i->sets[a]?=some s->∃r,D[a]?=some r/\RowOk nf sets s r 0 5/\acc[a]?=some (s.testBit nf.e)
theorem SubI.add {sets sets':List Nat}{row:List Int}(h:SubI nf lim sets D acc i)(hs:sets[i]?=some s)(hr:rowF nf lim s 5 0 sets []=some (sets',row)):SubI nf lim sets' (D++[row]) (acc++[s.testBit nf.e]) (i+1):=by
 obtain ⟨⟨e,rfl⟩,⟨r,h2,h3⟩,h4⟩:=b4P 5 0 sets [] hr
 rw[List.nil_append] at h2
 subst h2
 have hi:=(List.getElem?_eq_some_iff.1 hs).1
 refine ⟨a2N h.s0,by simp[h.ld],by simp[h.la],by simp; omega,?_,λa t ha ht=>?_⟩
 ·rcases h4 with h4|h4
  ·rcases h.sl with h5|h5
   ·left; omega
   ·right; omega
  ·exact .inr h4
 ·by_cases q:a=i
  ·subst q
   rw[a2N hs] at ht
   injection ht with ht
   subst ht
   refine ⟨row,?_,h3,?_⟩
   ·rw[<-h.ld]; simp
   ·rw[<-h.la]; simp
  ·have h5:sets[a]?=some t:=by
    rw[List.getElem?_append_left oM] at ht; exact ht
   obtain ⟨r',k1,k2,k3⟩:=h.row a t oM h5
   exact ⟨r',a2N k1,k2.grow e,a2N k3⟩
theorem b8r:∀(f i:Nat) (sets:List Nat) (D:List (List Int)) (acc:List Bool) {D':List (List Int)} {acc':List Bool},subL nf lim f i sets D acc=some (D',acc')->SubI nf lim sets D acc i->∃sets',SubI nf lim sets' D' acc' sets'.length
 |0,i,sets,D,acc,D',acc',h,_=>by simp[subL] at h
 |f+1,i,sets,D,acc,D',acc',h,hi=>by
  simp only[subL] at h
  split at h
  ·rename_i hn
   injection h with h
   injection h with h1 h2
   subst h1 h2
   have h3:=List.getElem?_eq_none_iff.1 hn
   have h4:=hi.il
   have:i=sets.length:=oM
   exact ⟨sets,this▸hi⟩
  ·rename_i s hs
   split at h
   ·cases h
   ·rename_i sets' row hr
    exact b8r f (i+1) _ _ _ h (hi.add hs hr)
theorem b4Q {D:List (List Int)}{acc:List Bool}(h:subF nf lim=some (D,acc)):∃sets,SubI nf lim sets D acc sets.length:=
 b8r _ _ _ _ _ h ⟨rfl,rfl,rfl,by simp,.inl (by simp),λa s ha=>oM⟩
section
variable {nf:NF} {w:List Int}
def Stn (nf:NF)(w:List Int)(s k:Nat):Prop:=∀q,s.testBit q=true↔Pt w nf.st nf.fr nf.s 0 q k
theorem Stn.zero (ok:NfOk nf):Stn nf w (cloF nf.n nf.fr (2 ^ nf.s)) 0:=by
 intro q
 have hb:∀p,(2 ^ nf.s).testBit p=true↔p=nf.s:=λp=>by rw[Nat.testBit_two_pow]; simp[eq_comm]
 rw[a9p (λf hf=>(ok.fr f hf).2) (λp hp=>by rw[(hb p).1 hp]; exact ok.s)]
 constructor
 ·intro h
  induction h with
  |here h=>rw[(hb _).1 h]; exact .refl
  |on _ h ih=>exact .free ih h
 ·intro h
  have:∀p j,Pt w nf.st nf.fr nf.s 0 p j->j=0->Rch nf.fr (2 ^ nf.s) p:=by
   intro p j h
   induction h with
   |refl=>exact λ_=>.here ((hb _).2 rfl)
   |free _ h ih=>exact λe=>.on (ih e) h
   |step _ _ _ _=>intro e; omega
  exact this q 0 h rfl
theorem Stn.next (ok:NfOk nf){m:Nat}(h:Stn nf w s k)(hw:w[k]?=some (m:Int))(hm:m<5):Stn nf w (nxtF nf s m) (k+1):=by
 intro q
 have hs:∀p,(stpF nf.st s m).testBit p=true->p<nf.n:=λp hp=>by
  obtain ⟨x,hx,_,_,rfl⟩:=a9q.1 hp
  exact (ok.st x hx).2
 rw[nxtF,a9p (λf hf=>(ok.fr f hf).2) hs]
 have hit:∀ks,hit w ks k↔ks.testBit m=true:=λks=>by
  constructor
  ·rintro ⟨c,h1,h2,h3,h4⟩
   rw[hw] at h1
   injection h1 with h1
   subst h1
   simpa using h4
  ·exact λh4=>⟨m,hw,oM,oM,by simpa using h4⟩
 constructor
 ·intro hr
  induction hr with
  |here hp=>
   obtain ⟨⟨a,b,c⟩,hx,h1,h2,h3⟩:=a9q.1 hp
   simp only at h1 h2 h3
   subst h3
   exact .step ((h a).1 h1) hx ((hit c).2 h2)
  |on _ h ih=>exact .free ih h
 ·intro hp
  have:∀p j,Pt w nf.st nf.fr nf.s 0 p j->j=k+1->Rch nf.fr (stpF nf.st s m) p:=by
   intro p j hp
   induction hp with
   |refl=>intro e; omega
   |free _ h ih=>exact λe=>.on (ih e) h
   |@step p r c j h1 h2 h3 _=>
    intro e
    obtain rfl:j=k:=oM
    exact .here (a9q.2 ⟨(p,r,c),h2,(h p).2 h1,(hit c).1 h3,rfl⟩)
  exact this q _ hp rfl
end
end Go.Gm
namespace Go.Gm
def Sv (b:NS):Prop:=∀x∈b.st,x.2.2<32
def SvN (n:Nd):Prop:=∀b,Sv b->Sv (NS.part n b).2
theorem b7c (h:Sv b):Sv b.state.2:=by
 rw[NS.state]; split<;>exact h
theorem b3K:∀(l:List Nd),(∀c∈l,SvN c)->∀b,Sv b->Sv (NS.parts l b).2
 |[],_,b,hb=>by rw[NS.parts]; exact hb
 |n::l,h,b,hb=>by
  rw[NS.parts]
  split
  ·exact hb
  ·exact b3K l (λc hc=>h c (List.mem_cons_of_mem _ hc)) _ (h n (by simp) b hb)
theorem a9o (h:SvN n):∀k b,Sv b->Sv (NS.times (NS.part n) k b).2
 |0,b,hb=>by rw[NS.times]; exact hb
 |k+1,b,hb=>by
  rw[NS.times]
  split
  ·exact hb
  ·exact a9o h k _ (h b hb)
theorem a2F {n:Nd}{p:NS->List (Nat × Nat) × NS}(g:n.st<32)(hp:∀b,Sv b->Sv (p b).2)(b:NS)(hb:Sv b):Sv (NS.around n p b).2:=by
 simp only[NS.around]
 split
 ·exact hb
 ·have h1:=b7c (hp _ (b7c hb))
  simp only
  split
  ·exact h1
  ·cases n<;>try exact h1
   rename_i k
   intro x hx
   simp only[NS.lead,NS.step] at hx
   rcases List.mem_append.1 hx with hx|hx
   ·exact h1 x hx
   ·obtain rfl:=List.mem_singleton.1 hx; exact g
theorem st_lt (g:Gd n):n.st<32:=by
 have:=g.rt
 cases n<;>simp[Nd.st,RtN] at *<;>omega
theorem svn (n:Nd):Gd n->SvN n:=by
 refine Nd.ind (p:=λn=>Gd n->SvN n) (λn ih g=>?_) n
 have k:∀c∈n.kids,SvN c:=λc hc=>ih c hc (g.kid c hc)
 have s:=st_lt g
 cases n with
 |set s=>intro b hb; rw[NS.part]; exact a2F s (λb hb=>hb) b hb
 |emp=>intro b hb; rw[NS.part]; exact a2F s (λb hb=>hb) b hb
 |eps=>intro b hb; rw[NS.part]; exact a2F s (λb hb=>hb) b hb
 |uni l=>intro b hb; rw[NS.part]; exact a2F s (b3K l k) b hb
 |star c=>intro b hb; rw[NS.part]; exact a2F s (a9o (k c (by simp[Nd.kids])) 1) b hb
 |plus c=>intro b hb; rw[NS.part]; exact a2F s (a9o (k c (by simp[Nd.kids])) 1) b hb
 |opt c=>intro b hb; rw[NS.part]; exact a2F s (a9o (k c (by simp[Nd.kids])) 1) b hb
 |rep lo hi c=>intro b hb; rw[NS.part]; exact a2F s (a9o (k c (by simp[Nd.kids])) hi) b hb
 |join l=>
  intro b hb
  rw[NS.part]
  simp only[NS.joined]
  have h1:=b3K l k b hb
  split
  ·exact hb
  ·split
   ·exact h1
   ·exact h1
theorem c5B (g:Gd n)(h:nfaF n=some nf):nf.n<=1000/\nf.fr.length<=2000/\nf.st.length<=1000/\∀x∈nf.st,x.2.2<32:=by
 simp only[nfaF] at h
 split at h
 ·cases h
 ·injection h with h
  subst h
  have o:=NSok.new.sz (szn n g NS.new).1
  have:=o.n; have:=o.fr; have:=o.st
  exact ⟨by assumption,by simp only; omega,by simp only; omega,svn n g NS.new λx hx=>by simp[NS.new] at hx⟩
end Go.Gm
