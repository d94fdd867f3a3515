/- A part of the proof (GmAQpc, GmNy, GmNw, GmAQsh, GmAQKN, GmTx, GmAQkn, GmAQtr, GmAQL2, GmAQUb, GmAQL3, GmEntry, GmRw, GmRaw). -/
import Derived.OpenShut
import Derived.ChangeArms
import Derived.DataReads
import Derived.Test.YtldnkafmanalmaaProductTrianP10
set_option linter.unusedVariables false
set_option linter.unusedSimpArgs false
set_option linter.unusedSectionVars false
namespace Go.Gm.AQ
open Go Go.Gm
section
variable {S:ByteArray} {ro:Nat} {f:Nat} {h H:Heap} {d p:Nat} {s:AV} {lg:Nat} {l:List Nd} {css:List (List AV)}
theorem NL.setR (a:NL S ro h H d p s lg l css) {p' d':Nat}:NL S ro h (H.set ro (RD S p' d')) d' p' s lg l css:=by
 have h1:=a.hro
 have h2:=a.fr.len
 have h3:=a.lgl
 refine ⟨a.hro,a4Y a.fr _,List.getElem?_set_self (by omega),by rw[List.getElem?_set_ne (by omega)]; exact a.ht,a.gr.set (by omega) _,by simp; exact a.lgl,a.nn,a.nvs.frs (FrS.set1 H ro _) (fun o q1 q2 q3=>by omega) fun o q1 q2=>by simp; exact q2⟩
theorem NL.add (a:NL S ro h H d p s lg l css) {H2:Heap} {n:Nd} {q:Nat} {v:AV} (pr:PR S ro H d n q v H2) (hl:css.length≤2000000) :
  ∃s5 s' H3,v=.agg [I n.kind,I n.st,I n.lo,I n.hi,s5]∧s5.one=true∧apnd 5 56 s (.sl H2.length 0 1 5 none 0) (H2++[.cells ⟨[I n.kind,I n.st,I n.lo,I n.hi,s5],0,0,false⟩])=some (s',H3)∧NL S ro h H3 d q s' lg (l++[n]) (css++[[I n.kind,I n.st,I n.lo,I n.hi,s5]]):=by
 obtain ⟨f2,r2,c5,rfl,nv⟩:=pr
 obtain ⟨s5,rfl,ho5⟩:=nv.inv
 have h1:=a.hro
 have h2:=a.fr.len
 have h3:=a.lgl
 have h4:=f2.len
 have htl:=(List.getElem?_eq_some_iff.1 a.ht).1
 have g2:Gr lg (lg+1) H2 5 s css:=Gr.frs' a.gr f2 fun _ z=>by omega
 have t2:=(f2.get (o:=h.length) (by omega) (by omega)).trans a.ht
 have n2:=a.nvs.frs f2 (D':=fun o=>h.length<o∧o<H.length∧o≠lg) (fun o q1 q2 q3=>by omega) fun _ _ z=>z
 have e3:Ext H2 (H2++[AObj.cells ⟨[I n.kind,I n.st,I n.lo,I n.hi,s5],0,0,false⟩]):=Ext.push _ _
 have hl3:(H2++[AObj.cells ⟨[I n.kind,I n.st,I n.lo,I n.hi,s5],0,0,false⟩]).length=H2.length+1:=by simp
 obtain ⟨s',H3,lg',m1,m2,m3,m4,m5⟩:=Gr.appQ (bytes:=56) (g2.ext e3) (fun _=>by omega) (Gr.lit (sz:=5) (v:=[I n.kind,I n.st,I n.lo,I n.hi,s5]) rfl).sl (by omega) (by omega) (by simp; omega)
 obtain rfl:=m5 a.nn
 have hs':s'≠.nils:=m2.nnil (by simp)
 have h5:=m4.len
 refine ⟨s5,s',H3,rfl,ho5,m1,a.hro,⟨by omega,fun o q1 q2=>?_⟩,(m4.get (by omega) (by omega)).trans (e3.get r2),(m4.get (by omega) (by omega)).trans (e3.get t2),m2,by omega,hs',NVDs.snoc (n:=n) (cs:=[I n.kind,I n.st,I n.lo,I n.hi,s5]) ?_ ?_⟩
 ·rw[m4.get (by omega) (by omega),(a2m.1 e3).2 o (by omega),f2.get q1 (by omega),a.fr.get q1 q2]
 ·exact (nv.ext e3 (D':=fun o=>H.length≤o∧o<H2.length) fun _ _ z=>z).frs m4 (fun o q1 q2 q3=>by omega) fun o q1 q2=>by omega
 ·exact (n2.frs (E:=fun _=>False) (FrS.ofExt e3) (fun _ _ _ z=>z) (D':=fun o=>h.length<o∧o<H.length∧o≠lg') fun _ _ z=>z).frs m4 (fun o q1 q2 q3=>by omega) fun o q1 q2=>by omega
theorem NL.one {H2:Heap} {n:Nd} {q:Nat} {v:AV} (hr:h[ro]?=some (RD S p d)) (pr:PR S ro (h++[Z5]) d n q v H2) :
  ∃s5,v=.agg [I n.kind,I n.st,I n.lo,I n.hi,s5]∧s5.one=true∧NL S ro h (H2++[.cells ⟨[I n.kind,I n.st,I n.lo,I n.hi,s5],0,0,false⟩]) d q (.sl H2.length 0 1 5 none 0) H2.length [n] [[I n.kind,I n.st,I n.lo,I n.hi,s5]]:=by
 obtain ⟨f2,r2,c5,rfl,nv⟩:=pr
 obtain ⟨s5,rfl,ho5⟩:=nv.inv
 have hro:=(List.getElem?_eq_some_iff.1 hr).1
 have e1:Ext h (h++[Z5]):=Ext.push _ _
 have l1:(h++[Z5]).length=h.length+1:=by simp
 have l2:=f2.len
 have t1:(h++[Z5])[h.length]?=some Z5:=by simp
 have e3:Ext H2 (H2++[AObj.cells ⟨[I n.kind,I n.st,I n.lo,I n.hi,s5],0,0,false⟩]):=Ext.push _ _
 refine ⟨s5,rfl,ho5,hro,((FrS.ofExt e1).trans f2).trans (FrS.ofExt e3),e3.get r2,e3.get ((f2.get (by omega) (by omega)).trans t1),Gr.lit (sz:=5) rfl,⟨by omega,by simp⟩,by simp,.cons (nv.ext e3 fun o q1 q2=>⟨by omega,by simp; omega,by omega⟩) .nil⟩
theorem NL.fin1 (a:NL S ro h H d p s lg l css) {n:Nd} (hl:l=[n]):∃s5,css=[[I n.kind,I n.st,I n.lo,I n.hi,s5]]∧s5.one=true∧PR S ro h d n p (.agg [I n.kind,I n.st,I n.lo,I n.hi,s5]) (H.set h.length (.cells ⟨[I n.kind,I n.st,I n.lo,I n.hi,s5],0,0,false⟩)):=by
 have hn:=a.nvs
 rw[hl] at hn
 cases hn with
 |cons x y=>
  cases y
  obtain ⟨s5,rfl,ho5⟩:=x.inv
  exact ⟨s5,rfl,ho5,PR.fin a.hro a.fr a.hr (x.frs (FrS.refl (fun _=>False) _) (fun _ _ _ z=>z) fun o q1 q2=>⟨q2.1,q1⟩)⟩
theorem NL.finL (a:NL S ro h H d p s lg l css) {n:Nd} (hk:n.kids=l) (h1:n.st=0) (h2:n.lo=0) (h3:n.hi=0):PR S ro h d n p (.agg [I n.kind,I 0,I 0,I 0,s]) (H.set h.length (.cells ⟨[I n.kind,I 0,I 0,I 0,s],0,0,false⟩)):=by
 have:=a.lgl
 have nv:NVD H (fun o=>h.length<o∧o<H.length) n [I n.kind,I n.st,I n.lo,I n.hi,s]:=.mk a.gr.sl (fun z=>by have:=a.gr.objIn z; omega) (by rw[hk]; exact a.nvs.frs (FrS.refl (fun _=>False) _) (fun _ _ _ z=>z) fun o q1 q2=>⟨q2.1,q1⟩)
 rw[h1,h2,h3] at nv
 exact PR.fin a.hro a.fr a.hr nv
theorem b2V (a:NL S ro h H d p s lg l css) (hl:l≠[]):WP (fun i:Nat=>r0_ tab i (.ptr h.length 0 5 0) s H) (PR S ro h d (finJ l) p):=by
 refine WP.congr (fun i=>a3Z tab i (.ptr h.length 0 5 0) s H) ?_
 have ht:=a.ht
 have htl:=(List.getElem?_eq_some_iff.1 ht).1
 have sl':Sl H 5 s (css.map fun x=>x):=by rw[List.map_id']; exact a.gr.sl
 have hln:=a.nvs.len
 have hso:=a.gr.sl.one
 have hsc:=a.gr.sl.cells
 match l,hl with
 |[n],_=>
  obtain ⟨s5,rfl,ho5,res⟩:=a.fin1 rfl
  have e0:=Ext.refl H
  have hg:gi [[I n.kind,I n.st,I n.lo,I n.hi,s5]] (0:Int)=[I n.kind,I n.st,I n.lo,I n.hi,s5]:=rfl
  simp -implicitDefEqProofs (maxSteps:=1000000) (disch:=first|assumption|omega|(simp only[gL]<;>omega)|((repeat (first|exact Ext.refl _|assumption|apply Ext.app|apply Ext.mk|(refine Ext.setr ?_ (by (first|omega|(simp only[gL]<;>omega))) _))); done)|(simp only[gL,gA,sl'.lenG,sl'.idxG,sl'.ldN,hg,ho5,ht]<;>omega)|fail) only[gB,setAll,partL,fldV,reduceIte,Nat.reduceAdd,Nat.reduceMul,sl'.lenG,sl'.idxG,sl'.ldN,hg,ho5,ht]
  exact WP.ret res
 |n1::n2::r,_=>
  have h2:2≤css.length:=by rw[←hln]; simp
  simp -implicitDefEqProofs (maxSteps:=1000000) (disch:=first|assumption|omega|(simp only[gL]<;>omega)|((repeat (first|exact Ext.refl _|assumption|apply Ext.app|apply Ext.mk|(refine Ext.setr ?_ (by (first|omega|(simp only[gL]<;>omega))) _))); done)|(simp only[gL,gA,sl'.lenG,hso,hsc,ht]<;>omega)|fail) only[gB,setAll,partL,fldV,reduceIte,Nat.reduceAdd,Nat.reduceMul,sl'.lenG,hso,hsc,ht]
  exact WP.ret (a.finL (n:=.join (n1::n2::r)) rfl rfl rfl rfl)
theorem b4l (a:NL S ro h H d p s lg l css) (hl:l≠[]):WP (fun i:Nat=>n5_ tab i (.ptr h.length 0 5 0) s H) (PR S ro h d (finU l) p):=by
 refine WP.congr (fun i=>a3i tab i (.ptr h.length 0 5 0) s H) ?_
 have ht:=a.ht
 have htl:=(List.getElem?_eq_some_iff.1 ht).1
 have sl':Sl H 5 s (css.map fun x=>x):=by rw[List.map_id']; exact a.gr.sl
 have hln:=a.nvs.len
 have hso:=a.gr.sl.one
 have hsc:=a.gr.sl.cells
 match l,hl with
 |[n],_=>
  obtain ⟨s5,rfl,ho5,res⟩:=a.fin1 rfl
  have e0:=Ext.refl H
  have hg:gi [[I n.kind,I n.st,I n.lo,I n.hi,s5]] (0:Int)=[I n.kind,I n.st,I n.lo,I n.hi,s5]:=rfl
  simp -implicitDefEqProofs (maxSteps:=1000000) (disch:=first|assumption|omega|(simp only[gL]<;>omega)|((repeat (first|exact Ext.refl _|assumption|apply Ext.app|apply Ext.mk|(refine Ext.setr ?_ (by (first|omega|(simp only[gL]<;>omega))) _))); done)|(simp only[gL,gA,sl'.lenG,sl'.idxG,sl'.ldN,hg,ho5,ht]<;>omega)|fail) only[gB,setAll,partL,fldV,reduceIte,Nat.reduceAdd,Nat.reduceMul,sl'.lenG,sl'.idxG,sl'.ldN,hg,ho5,ht]
  exact WP.ret res
 |n1::n2::r,_=>
  have h2:2≤css.length:=by rw[←hln]; simp
  simp -implicitDefEqProofs (maxSteps:=1000000) (disch:=first|assumption|omega|(simp only[gL]<;>omega)|((repeat (first|exact Ext.refl _|assumption|apply Ext.app|apply Ext.mk|(refine Ext.setr ?_ (by (first|omega|(simp only[gL]<;>omega))) _))); done)|(simp only[gL,gA,sl'.lenG,hso,hsc,ht]<;>omega)|fail) only[gB,setAll,partL,fldV,reduceIte,Nat.reduceAdd,Nat.reduceMul,sl'.lenG,hso,hsc,ht]
  exact WP.ret (a.finL (n:=.uni (n1::n2::r)) rfl rfl rfl rfl)
end
section
variable {S:ByteArray} {ro:Nat} {f:Nat}
theorem b7w (hp:PcS S ro f) (ih:JnlS S ro f):JnlS S ro (f+1):=by
 intro d p l m q h H s lg css hx hd hl hlf a
 refine WP.rnd (fun i' j=>a4a tab i' j (.ptr ro 0 4 0) (.ptr h.length 0 5 0) s H) ?_
 rw[prs] at hx
 cases hb:bt S p with
 |none=>
  rw[hb] at hx
  injection hx with hx
  injection hx with hx1 hx2
  subst hx1 hx2
  refine WP.call (b4i a.hr hb) ?_
  rintro _ _ ⟨rfl,rfl⟩
  simp -implicitDefEqProofs (disch:=first|assumption|omega|exact Ext.refl _|(simp only[gL,gA]<;>omega)|fail) only[gB,setAll,partL,fldV,reduceIte,Nat.reduceAdd,Nat.reduceMul,a6_]
  exact WP.lv (b2V a hl) fun i j=>rfl
 |some c=>
  rw[hb] at hx
  simp only at hx
  refine WP.call (a4X a.hr hb) ?_
  rintro _ _ ⟨rfl,rfl⟩
  by_cases h124:c=124
  ·subst h124
   rw[if_pos rfl] at hx
   injection hx with hx
   injection hx with hx1 hx2
   subst hx1 hx2
   have a1:=equ_t (a:=124) (b:=124) rfl
   simp -implicitDefEqProofs (disch:=first|assumption|omega|exact Ext.refl _|(simp only[gL,gA]<;>omega)|fail) only[gB,setAll,partL,fldV,reduceIte,Nat.reduceAdd,Nat.reduceMul,a6_,a1]
   exact WP.lv (b2V a hl) fun i j=>rfl
  rw[if_neg h124] at hx
  have a1:=equ_f (a:=c) (b:=124) (by omega)
  by_cases h41:c=41
  ·subst h41
   rw[if_pos rfl] at hx
   injection hx with hx
   injection hx with hx1 hx2
   subst hx1 hx2
   have a2:=equ_t (a:=41) (b:=41) rfl
   simp -implicitDefEqProofs (disch:=first|assumption|omega|exact Ext.refl _|(simp only[gL,gA]<;>omega)|fail) only[gB,setAll,partL,fldV,reduceIte,Nat.reduceAdd,Nat.reduceMul,a6_,a1,a2]
   exact WP.lv (b2V a hl) fun i j=>rfl
  rw[if_neg h41] at hx
  have a2:=equ_f (a:=c) (b:=41) (by omega)
  cases hy:prs S f d .pc p with
  |none=>rw[hy] at hx; cases hx
  |some y=>
  obtain ⟨n,q'⟩:=y
  rw[hy] at hx
  simp only at hx
  simp -implicitDefEqProofs (disch:=first|assumption|omega|exact Ext.refl _|(simp only[gL,gA]<;>omega)|fail) only[gB,setAll,partL,fldV,reduceIte,Nat.reduceAdd,Nat.reduceMul,a6_,a1,a2]
  refine WP.call (hp d p n q' H hy hd a.hr) ?_
  rintro v H2 hv
  have hln:=a.nvs.len
  obtain ⟨s5,s',H3,rfl,ho5,m1,a'⟩:=a.add hv (by omega)
  simp -implicitDefEqProofs (disch:=first|assumption|omega|exact Ext.refl _|(simp only[gL,gA]<;>omega)|fail) only[gB,setAll,partL,fldV,reduceIte,Nat.reduceAdd,Nat.reduceMul,ho5,m1]
  exact ih d q' (l++[n]) m q h H3 s' lg _ hx hd (by simp) (by simp; omega) a'
theorem b8p (hp:PcS S ro f) (hl:JnlS S ro f) (hf:f≤900000):JnS S ro (f+1):=by
 intro d p n q h hx hd hr
 refine WP.tot (fun k=>(a4T k _ h).trans (a5C tab k _ h)) ?_
 rw[prs] at hx
 cases hy:prs S f d .pc p with
 |none=>rw[hy] at hx; cases hx
 |some y=>
 obtain ⟨n1,q1⟩:=y
 rw[hy] at hx
 simp only at hx
 have e1:Ext h (h++[Z5]):=Ext.push _ _
 simp -implicitDefEqProofs (disch:=first|assumption|omega|exact Ext.refl _|(simp only[gL,gA]<;>omega)|fail) only[gB,setAll,partL,fldV,reduceIte,Nat.reduceAdd,Nat.reduceMul]
 refine WP.call (hp d p n1 q1 (h++[Z5]) hy hd (e1.get hr)) ?_
 rintro v H2 hv
 obtain ⟨s5,rfl,ho5,a⟩:=NL.one hr hv
 simp -implicitDefEqProofs (disch:=first|assumption|omega|exact Ext.refl _|(simp only[gL,gA]<;>omega)|fail) only[gB,setAll,partL,fldV,reduceIte,Nat.reduceAdd,Nat.reduceMul,ho5]
 exact WP.ent (hl d q1 [n1] n q h _ _ _ _ hx hd (by simp) (by simp; omega) a) fun i=>rfl
theorem b7x (hp:JnS S ro f) (ih:UnlS S ro f) (hS:S.size≤200):UnlS S ro (f+1):=by
 intro d p l m q h H s lg css hx hd hl hlf a
 refine WP.rnd (fun i' j=>a3j tab i' j (.ptr ro 0 4 0) (.ptr h.length 0 5 0) s H) ?_
 rw[prs] at hx
 cases hb:bt S p with
 |none=>
  rw[hb] at hx
  injection hx with hx
  injection hx with hx1 hx2
  subst hx1 hx2
  refine WP.call (b4i a.hr hb) ?_
  rintro _ _ ⟨rfl,rfl⟩
  simp -implicitDefEqProofs (disch:=first|assumption|omega|exact Ext.refl _|(simp only[gL,gA]<;>omega)|fail) only[gB,setAll,partL,fldV,reduceIte,Nat.reduceAdd,Nat.reduceMul,a6_]
  exact WP.lv (b4l a hl) fun i j=>rfl
 |some c=>
  rw[hb] at hx
  simp only at hx
  have hlt:=bt_lt hb
  refine WP.call (a4X a.hr hb) ?_
  rintro _ _ ⟨rfl,rfl⟩
  by_cases h124:c=124
  ·subst h124
   rw[if_pos rfl] at hx
   have a1:=neu_f (a:=124) (b:=124) rfl
   cases hy:prs S f d .jn (p+1) with
   |none=>rw[hy] at hx; cases hx
   |some y=>
   obtain ⟨n,q'⟩:=y
   rw[hy] at hx
   simp only at hx
   have hr:=a.hr
   have aR:=a.setR (p':=p+1) (d':=d)
   obtain ⟨H1,hH1⟩:∃H1,H1=H.set ro (.cells ⟨[.str S,I ((p:Int)+1),I d,I 0],0,0,false⟩):=⟨_,rfl⟩
   have hR:H.set ro (RD S (p+1) d)=H1:=by rw[hH1]; rfl
   rw[hR] at aR
   simp -implicitDefEqProofs (disch:=first|assumption|omega|exact Ext.refl _|(simp only[gL,gA]<;>omega)|fail) only[gB,setAll,partL,fldV,reduceIte,Nat.reduceAdd,Nat.reduceMul,a6_,a1,hr]
   rw[←hH1]
   refine WP.call (hp d (p+1) n q' H1 hy hd aR.hr) ?_
   rintro v H2 hv
   have hln:=a.nvs.len
   obtain ⟨s5,s',H3,rfl,ho5,m1,a'⟩:=aR.add hv (by omega)
   simp -implicitDefEqProofs (disch:=first|assumption|omega|exact Ext.refl _|(simp only[gL,gA]<;>omega)|fail) only[gB,setAll,partL,fldV,reduceIte,Nat.reduceAdd,Nat.reduceMul,ho5,m1]
   exact ih d q' (l++[n]) m q h H3 s' lg _ hx hd (by simp) (by simp; omega) a'
  ·rw[if_neg h124] at hx
   injection hx with hx
   injection hx with hx1 hx2
   subst hx1 hx2
   have a1:=neu_t (a:=c) (b:=124) (by omega)
   simp -implicitDefEqProofs (disch:=first|assumption|omega|exact Ext.refl _|(simp only[gL,gA]<;>omega)|fail) only[gB,setAll,partL,fldV,reduceIte,Nat.reduceAdd,Nat.reduceMul,a6_,a1]
   exact WP.lv (b4l a hl) fun i j=>rfl
theorem b8q (hp:JnS S ro f) (hl:UnlS S ro f) (hf:f≤900000):UnS S ro (f+1):=by
 intro d p n q h hx hd hr
 refine WP.tot (fun k=>(a4d k _ h).trans (a5a tab k _ h)) ?_
 rw[prs] at hx
 cases hy:prs S f d .jn p with
 |none=>rw[hy] at hx; cases hx
 |some y=>
 obtain ⟨n1,q1⟩:=y
 rw[hy] at hx
 simp only at hx
 have e1:Ext h (h++[Z5]):=Ext.push _ _
 simp -implicitDefEqProofs (disch:=first|assumption|omega|exact Ext.refl _|(simp only[gL,gA]<;>omega)|fail) only[gB,setAll,partL,fldV,reduceIte,Nat.reduceAdd,Nat.reduceMul]
 refine WP.call (hp d p n1 q1 (h++[Z5]) hy hd (e1.get hr)) ?_
 rintro v H2 hv
 obtain ⟨s5,rfl,ho5,a⟩:=NL.one hr hv
 simp -implicitDefEqProofs (disch:=first|assumption|omega|exact Ext.refl _|(simp only[gL,gA]<;>omega)|fail) only[gB,setAll,partL,fldV,reduceIte,Nat.reduceAdd,Nat.reduceMul,ho5]
 exact WP.ent (hl d q1 [n1] n q h _ _ _ _ hx hd (by simp) (by simp; omega) a) fun i=>rfl
theorem b8r (hS:S.size≤200):∀f,f≤900000→AtS S ro f∧PcS S ro f∧PclS S ro f∧JnS S ro f∧JnlS S ro f∧UnS S ro f∧UnlS S ro f:=by
 intro f
 induction f with
 |zero=>
  intro _
  refine ⟨?_,?_,?_,?_,?_,?_,?_⟩
  ·intro d p n q h hx; simp[prs] at hx
  ·intro d p n q h hx; simp[prs] at hx
  ·intro d p n m q h H no c5 hx; simp[prs] at hx
  ·intro d p n q h hx; simp[prs] at hx
  ·intro d p l m q h H s lg css hx; simp[prs] at hx
  ·intro d p n q h hx; simp[prs] at hx
  ·intro d p l m q h H s lg css hx; simp[prs] at hx
 |succ f ih=>
  intro hf
  obtain ⟨i1,i2,i3,i4,i5,i6,i7⟩:=ih (by omega)
  exact ⟨b8n i6 hS,b8o i1 i3,b7v i3 hS,b8p i2 i5 (by omega),b7w i2 i5,b8q i4 i7 (by omega),b7x i4 i7 hS⟩
end
theorem b7y {S:ByteArray} {f:Nat} {n:Nd} (hS:S.size≤200) (hf:f≤900000) (hp:prs S f 0 .un 0=some (n,S.size)) (h:Heap) :
  Tot tab j9_ [.str S] h fun v h'=>Ext h h'∧∃c5,v=.tup [.agg c5,I 0,I 0]∧NVD h' (fun o=>h.length≤o∧o<h'.length) n c5:=by
 refine WP.tot (fun k=>(a7s k _ h).trans (a8D tab k _ h)) ?_
 have hlb:lenB (.str S)=some (I S.size):=rfl
 have e1:Ext h ((h++[Z5])++[RD S 0 0]):=by ((repeat (first|exact Ext.refl _|assumption|apply Ext.app|apply Ext.mk|(refine Ext.setr ?_ (by (first|omega|(simp only[gL]<;>omega))) _))))
 have hl1:((h++[Z5])++[RD S 0 0]).length=h.length+2:=by simp
 simp -implicitDefEqProofs (disch:=first|assumption|omega|exact Ext.refl _|(simp only[gL,gA]<;>omega)|fail) only[gB,setAll,partL,fldV,reduceIte,Nat.reduceAdd,Nat.reduceMul,hlb]
 have hU:=(b8r (ro:=h.length+1) hS f hf).2.2.2.2.2.1
 refine WP.call (hU 0 0 n S.size ((h++[Z5])++[RD S 0 0]) hp (by omega) (by simp)) ?_
 rintro v H2 ⟨f2,r2,c5,rfl,nv⟩
 obtain ⟨s5,rfl,ho5⟩:=nv.inv
 have l2:=f2.len
 have t2:=(f2.get (o:=h.length) (by omega) (by omega)).trans (show ((h++[Z5])++[RD S 0 0])[h.length]?=some Z5 by simp)
 have e3:Ext H2 (H2++[AObj.cells ⟨[I n.kind,I n.st,I n.lo,I n.hi,s5],0,0,false⟩]):=Ext.push _ _
 have r3:=e3.get r2
 have t3:=e3.get t2
 have x3:(H2++[AObj.cells ⟨[I n.kind,I n.st,I n.lo,I n.hi,s5],0,0,false⟩])[H2.length]?=some (.cells ⟨[I n.kind,I n.st,I n.lo,I n.hi,s5],0,0,false⟩):=by simp
 have l3:=e3.len
 have nv3:=nv.ext e3 (D':=fun o=>h.length<o∧o<H2.length) fun o q1 q2=>by omega
 have f3:FrS (fun o=>o=h.length+1) ((h++[Z5])++[RD S 0 0]) (H2++[AObj.cells ⟨[I n.kind,I n.st,I n.lo,I n.hi,s5],0,0,false⟩]):=f2.trans (FrS.ofExt e3)
 simp -implicitDefEqProofs (disch:=first|assumption|omega|exact Ext.refl _|(simp only[gL,gA]<;>omega)|fail) only[gB,setAll,partL,fldV,reduceIte,Nat.reduceAdd,Nat.reduceMul,ho5,n1_]
 generalize H2++[AObj.cells ⟨[I n.kind,I n.st,I n.lo,I n.hi,s5],0,0,false⟩]=H3 at *
 simp -implicitDefEqProofs (disch:=first|assumption|omega|exact Ext.refl _|(simp only[gL,gA]<;>omega)|fail) only[gB,setAll,partL,fldV,reduceIte,Nat.reduceAdd,Nat.reduceMul,r2,r3,hlb]
 refine WP.congr (fun i=>a6D tab i _ _ _ H3) ?_
 simp -implicitDefEqProofs (disch:=first|assumption|omega|exact Ext.refl _|(simp only[gL,gA]<;>omega)|fail) only[gB,setAll,partL,fldV,reduceIte,Nat.reduceAdd,Nat.reduceMul,r3,x3,ho5,t3]
 have e4:Ext h H3:=f3.ext e1 fun o q1 q2=>by omega
 refine WP.ret ⟨e4.set (Nat.le_refl _) _,_,rfl,nv3.frs (FrS.set1 H3 h.length _) (fun o q1 q2 q3=>by omega) fun o q1 q2=>by simp; omega⟩
end Go.Gm.AQ
namespace Go.Gm
def Sv (b:NS):Prop:=∀x∈b.st,x.2.2<32
def SvN (n:Nd):Prop:=∀b,Sv b→Sv (NS.part n b).2
theorem b4m {b:NS} (h:Sv b):Sv b.state.2:=by
 rw[NS.state]; split<;>exact h
theorem b2c:∀(l:List Nd),(∀c∈l,SvN c)→∀b,Sv b→Sv (NS.parts l b).2
 |[],_,b,hb=>by rw[NS.parts]; exact hb
 |n::l,h,b,hb=>by
  rw[NS.parts]
  split
  ·exact hb
  ·exact b2c l (fun c hc=>h c (List.mem_cons_of_mem _ hc)) _ (h n (by simp) b hb)
theorem a7D {n:Nd} (h:SvN n):∀k b,Sv b→Sv (NS.times (NS.part n) k b).2
 |0,b,hb=>by rw[NS.times]; exact hb
 |k+1,b,hb=>by
  rw[NS.times]
  split
  ·exact hb
  ·exact a7D h k _ (h b hb)
theorem a1e {n:Nd} {p:NS→List (Nat × Nat) × NS} (g:n.st<32) (hp:∀b,Sv b→Sv (p b).2) (b:NS) (hb:Sv b):Sv (NS.around n p b).2:=by
 simp only[NS.around]
 split
 ·exact hb
 ·have h1:=b4m (hp _ (b4m hb))
  simp only
  split
  ·exact h1
  ·cases n<;>try exact h1
   rename_i k
   intro x hx
   simp only[NS.lead,NS.step] at hx
   rcases List.mem_append.1 hx with hx|hx
   ·exact h1 x hx
   ·obtain rfl:=List.mem_singleton.1 hx; exact g
theorem st_lt {n:Nd} (g:Gd n):n.st<32:=by
 have:=g.rt
 cases n<;>simp[Nd.st,RtN] at *<;>omega
theorem svn (n:Nd):Gd n→SvN n:=by
 refine Nd.ind (p:=fun n=>Gd n→SvN n) (fun n ih g=>?_) n
 have k:∀c∈n.kids,SvN c:=fun c hc=>ih c hc (g.kid c hc)
 have s:=st_lt g
 cases n with
 |set s=>intro b hb; rw[NS.part]; exact a1e s (fun b hb=>hb) b hb
 |emp=>intro b hb; rw[NS.part]; exact a1e s (fun b hb=>hb) b hb
 |eps=>intro b hb; rw[NS.part]; exact a1e s (fun b hb=>hb) b hb
 |uni l=>intro b hb; rw[NS.part]; exact a1e s (b2c l k) b hb
 |star c=>intro b hb; rw[NS.part]; exact a1e s (a7D (k c (by simp[Nd.kids])) 1) b hb
 |plus c=>intro b hb; rw[NS.part]; exact a1e s (a7D (k c (by simp[Nd.kids])) 1) b hb
 |opt c=>intro b hb; rw[NS.part]; exact a1e s (a7D (k c (by simp[Nd.kids])) 1) b hb
 |rep lo hi c=>intro b hb; rw[NS.part]; exact a1e s (a7D (k c (by simp[Nd.kids])) hi) b hb
 |join l=>
  intro b hb
  rw[NS.part]
  simp only[NS.joined]
  have h1:=b2c l k b hb
  split
  ·exact hb
  ·split
   ·exact h1
   ·exact h1
theorem b8Z {n:Nd} (g:Gd n) {nf:NF} (h:nfaF n=some nf):nf.n≤1000∧nf.fr.length≤2000∧nf.st.length≤1000∧∀x∈nf.st,x.2.2<32:=by
 simp only[nfaF] at h
 split at h
 ·cases h
 ·injection h with h
  subst h
  have o:=NSok.new.sz (szn n g NS.new).1
  have:=o.n; have:=o.fr; have:=o.st
  exact ⟨by assumption,by simp only; omega,by simp only; omega,svn n g NS.new fun x hx=>by simp[NS.new] at hx⟩
end Go.Gm
namespace Go.Gm
structure Po (b:NS):Prop where
 st:∀x∈b.st,x.1<b.n∧x.2.1<b.n
 fr:∀x∈b.fr,x.1<b.n∧x.2<b.n
def Pf (n:Nat) (l:List (Nat × Nat)):Prop:=∀f∈l,f.1<n∧f.2<n
theorem Po.mono {b:NS} (p:Po b) {n:Nat} {m:Bool} (h:b.n≤n):Po ⟨n,m,b.st,b.fr⟩:=
 ⟨fun x hx=>by have:=p.st x hx; simp only; omega,fun x hx=>by have:=p.fr x hx; simp only; omega⟩
theorem Pf.mono {a b:Nat} {l:List (Nat × Nat)} (p:Pf a l) (h:a≤b):Pf b l:=fun f hf=>by have:=p f hf; omega
theorem b4n {b:NS} (p:Po b):Po b.state.2∧b.n≤b.state.2.n∧(b.state.2.much=false→b.state.1<b.state.2.n∧b.much=false):=by
 rw[NS.state]
 split
 ·exact ⟨p.mono (Nat.le_refl _),Nat.le_refl _,fun z=>by cases z⟩
 ·exact ⟨p.mono (Nat.le_succ _),Nat.le_succ _,fun z=>⟨Nat.lt_succ_self _,z⟩⟩
def PoP (g:NS→List (Nat × Nat) × NS):Prop:=∀b,Po b→Po (g b).2∧b.n≤(g b).2.n∧((g b).2.much=false→Pf (g b).2.n (g b).1∧b.much=false)
def PoN (n:Nd):Prop:=∀b,Po b→Po (NS.part n b).2∧b.n≤(NS.part n b).2.n∧((NS.part n b).2.much=false→((NS.part n b).1.1<(NS.part n b).2.n∧(NS.part n b).1.2<(NS.part n b).2.n)∧b.much=false)
theorem a9J:PoP (fun b=>([],b)):=fun b p=>⟨p,Nat.le_refl _,fun z=>⟨fun f hf=>by simp at hf,z⟩⟩
theorem b5h {x:(Nat × Nat) × NS} {y:List (Nat × Nat) × NS} {b:NS} (h:x.2.n≤y.2.n) (h1:x.2.much=false→(x.1.1<x.2.n∧x.1.2<x.2.n)∧b.much=false) (h2:y.2.much=false→Pf y.2.n y.1∧x.2.much=false) (z:y.2.much=false):Pf y.2.n (x.1::y.1)∧b.much=false:=by
 obtain ⟨p,q⟩:=h2 z
 obtain ⟨r,s⟩:=h1 q
 refine ⟨fun f hf=>?_,s⟩
 rcases List.mem_cons.1 hf with rfl|hf
 ·omega
 ·exact p f hf
theorem b2d:∀(l:List Nd),(∀c∈l,PoN c)→PoP (NS.parts l)
 |[],_=>fun b p=>by rw[NS.parts]; exact a9J b p
 |n::l,h=>fun b p=>by
  rw[NS.parts]
  split
  ·rename_i q; exact ⟨p,Nat.le_refl _,fun z=>by rw[q] at z; cases z⟩
  ·obtain ⟨a1,a2,a3⟩:=h n (by simp) b p
   obtain ⟨b1,b2,b3⟩:=b2d l (fun c hc=>h c (List.mem_cons_of_mem _ hc)) _ a1
   exact ⟨b1,Nat.le_trans a2 b2,b5h b2 a3 b3⟩
theorem a7E {n:Nd} (h:PoN n):∀k,PoP (NS.times (NS.part n) k)
 |0=>fun b p=>by rw[NS.times]; exact a9J b p
 |k+1=>fun b p=>by
  rw[NS.times]
  split
  ·rename_i q; exact ⟨p,Nat.le_refl _,fun z=>by rw[q] at z; cases z⟩
  ·obtain ⟨a1,a2,a3⟩:=h b p
   obtain ⟨b1,b2,b3⟩:=a7E h k _ a1
   exact ⟨b1,Nat.le_trans a2 b2,b5h b2 a3 b3⟩
theorem hd_lt {N:Nat} {l:List (Nat × Nat)} (p:Pf N l) (h:0<N):(NS.hd l).1<N∧(NS.hd l).2<N:=by
 cases l with
 |nil=>exact ⟨h,h⟩
 |cons f l=>exact p f (by simp)
theorem b5i {N lo e:Nat} (he:e<N):∀(l:List (Nat × Nat)) (i:Nat),Pf N l→Pf N (NS.repE lo e i l)
 |[],i,_=>fun f hf=>by simp[NS.repE] at hf
 |[x],i,p=>fun f hf=>by
  have:=p x (by simp)
  obtain rfl:=List.mem_singleton.1 hf
  exact ⟨this.2,he⟩
 |x::y::l,i,p=>fun f hf=>by
  have hx:=p x (by simp)
  have hy:=p y (by simp)
  simp only[NS.repE] at hf
  rcases List.mem_append.1 hf with hf|hf
  ·split at hf
   ·obtain rfl:=List.mem_singleton.1 hf; exact ⟨hx.2,he⟩
   ·simp at hf
  ·rcases List.mem_cons.1 hf with rfl|hf
   ·exact ⟨hx.2,hy.1⟩
   ·exact b5i he (y::l) (i+1) (fun g hg=>p g (List.mem_cons_of_mem _ hg)) f hf
theorem b4o {N:Nat}:∀(l:List (Nat × Nat)),Pf N l→Pf N (NS.joinE l)
 |[],_=>fun f hf=>by simp[NS.joinE] at hf
 |[x],_=>fun f hf=>by simp[NS.joinE] at hf
 |x::y::l,p=>fun f hf=>by
  have hx:=p x (by simp)
  have hy:=p y (by simp)
  simp only[NS.joinE] at hf
  rcases List.mem_cons.1 hf with rfl|hf
  ·exact ⟨hx.2,hy.1⟩
  ·exact b4o (y::l) (fun g hg=>p g (List.mem_cons_of_mem _ hg)) f hf
theorem b8s {N s e:Nat} (hs:s<N) (he:e<N) (l:List (Nat × Nat)) (p:Pf N l):Pf N (NS.uniE s e l):=fun f hf=>by
 simp only[NS.uniE,List.mem_flatMap] at hf
 obtain ⟨x,hx,hf⟩:=hf
 have:=p x hx
 simp only[List.mem_cons,List.not_mem_nil,or_false] at hf
 rcases hf with rfl|rfl
 ·exact ⟨hs,this.1⟩
 ·exact ⟨this.2,he⟩
theorem Po.frees {b:NS} (p:Po b) {l:List (Nat × Nat)} (h:Pf b.n l):Po (b.frees l):=⟨p.st,fun x hx=>by
 rcases List.mem_append.1 hx with hx|hx
 ·exact p.fr x hx
 ·exact h x hx⟩
theorem b8t {b:NS} (p:Po b) {s e:Nat} (hs:s<b.n) (he:e<b.n) {l:List (Nat × Nat)} (hl:Pf b.n l) (n:Nd):Po (b.lead s e l n):=by
 obtain ⟨h1,h2⟩:=hd_lt hl (by omega)
 have ev:∀{x:List (Nat × Nat)},(∀f∈x,f=(s,(NS.hd l).1)∨f=(s,e)∨f=((NS.hd l).2,(NS.hd l).1)∨f=((NS.hd l).2,e))→Pf b.n x:=fun h f hf=>by
  rcases h f hf with rfl|rfl|rfl|rfl<;>exact ⟨by assumption,by assumption⟩
 cases n with
 |set k=>exact ⟨fun x hx=>by
   rcases List.mem_append.1 hx with hx|hx
   ·exact p.st x hx
   ·obtain rfl:=List.mem_singleton.1 hx; exact ⟨hs,he⟩,p.fr⟩
 |eps=>exact p.frees (ev (by simp))
 |uni _=>exact p.frees (b8s hs he l hl)
 |star _=>exact p.frees (ev (by simp))
 |plus _=>exact p.frees (ev (by simp))
 |opt _=>exact p.frees (ev (by simp))
 |rep lo hi _=>
  refine p.frees fun f hf=>?_
  rcases List.mem_append.1 hf with hf|hf
  ·rcases List.mem_append.1 hf with hf|hf
   ·split at hf
    ·obtain rfl:=List.mem_singleton.1 hf; exact ⟨hs,h1⟩
    ·simp at hf
   ·exact b5i he l 0 hl f hf
  ·split at hf
   ·obtain rfl:=List.mem_singleton.1 hf; exact ⟨hs,he⟩
   ·simp at hf
 |emp=>exact p
 |join _=>exact p
theorem a1f {n:Nd} {g:NS→List (Nat × Nat) × NS} (hp:PoP g) (b:NS) (p:Po b):Po (NS.around n g b).2∧b.n≤(NS.around n g b).2.n∧((NS.around n g b).2.much=false→((NS.around n g b).1.1<(NS.around n g b).2.n∧(NS.around n g b).1.2<(NS.around n g b).2.n)∧b.much=false):=by
 simp only[NS.around]
 split
 ·rename_i q; exact ⟨p,Nat.le_refl _,fun z=>by rw[q] at z; cases z⟩
 ·rename_i hb
  rw[Bool.not_eq_true] at hb
  obtain ⟨a1,a2,a3⟩:=b4n p
  obtain ⟨b1,b2,b3⟩:=hp _ a1
  obtain ⟨c1,c2,c3⟩:=b4n b1
  simp only
  split
  ·rename_i q; exact ⟨c1,by omega,fun z=>by rw[q] at z; cases z⟩
  ·rename_i q
   rw[Bool.not_eq_true] at q
   obtain ⟨d1,d2⟩:=c3 q
   obtain ⟨f1,f2⟩:=b3 d2
   obtain ⟨g1,_⟩:=a3 f2
   have hs:b.state.1<(g b.state.2).2.state.2.n:=by omega
   have ln:((g b.state.2).2.state.2.lead b.state.1 (g b.state.2).2.state.1 (g b.state.2).1 n).n=(g b.state.2).2.state.2.n:=by cases n<;>rfl
   exact ⟨b8t c1 hs d1 (f1.mono c2) n,by rw[ln]; omega,fun _=>⟨⟨by rw[ln]; exact hs,by rw[ln]; exact d1⟩,hb⟩⟩
theorem po_n (n:Nd):Gd n→PoN n:=by
 refine Nd.ind (p:=fun n=>Gd n→PoN n) (fun n ih g=>?_) n
 have k:∀c∈n.kids,PoN c:=fun c hc=>ih c hc (g.kid c hc)
 cases n with
 |set s=>intro b p; rw[NS.part]; exact a1f a9J b p
 |emp=>intro b p; rw[NS.part]; exact a1f a9J b p
 |eps=>intro b p; rw[NS.part]; exact a1f a9J b p
 |uni l=>intro b p; rw[NS.part]; exact a1f (b2d l k) b p
 |star c=>intro b p; rw[NS.part]; exact a1f (a7E (k c (by simp[Nd.kids])) 1) b p
 |plus c=>intro b p; rw[NS.part]; exact a1f (a7E (k c (by simp[Nd.kids])) 1) b p
 |opt c=>intro b p; rw[NS.part]; exact a1f (a7E (k c (by simp[Nd.kids])) 1) b p
 |rep lo hi c=>intro b p; rw[NS.part]; exact a1f (a7E (k c (by simp[Nd.kids])) hi) b p
 |join l=>
  intro b p
  have hl:2≤l.length:=g.rt
  rw[NS.part]
  simp only[NS.joined]
  obtain ⟨b1,b2,b3⟩:=b2d l k b p
  split
  ·rename_i q; exact ⟨p,Nat.le_refl _,fun z=>by rw[q] at z; cases z⟩
  ·split
   ·rename_i q; exact ⟨b1,b2,fun z=>by rw[q] at z; cases z⟩
   ·rename_i hb q
    rw[Bool.not_eq_true] at q hb
    obtain ⟨f1,f2⟩:=b3 q
    refine ⟨b1.frees (b4o _ f1),b2,fun _=>⟨?_,hb⟩⟩
    have hn:(NS.parts l b).1≠[]:=by
     obtain ⟨x,l',rfl⟩:∃x l',l=x::l':=by
      cases l with
      |nil=>simp at hl
      |cons x l'=>exact ⟨x,l',rfl⟩
     rw[NS.parts,if_neg (by rw[hb]; decide)]
     simp
    obtain ⟨x,l',hx⟩:∃x l',(NS.parts l b).1=x::l':=by
     cases hq:(NS.parts l b).1 with
     |nil=>exact absurd hq hn
     |cons x l'=>exact ⟨x,l',rfl⟩
    have h1:=f1 x (by rw[hx]; simp)
    have h2:(NS.parts l b).1.getLastD (0,0)∈(NS.parts l b).1:=by
     rw[List.getLastD_eq_getLast?,List.getLast?_eq_some_getLast hn]
     exact List.getLast_mem hn
    have h3:=f1 _ h2
    exact ⟨by rw[hx]; exact h1.1,h3.2⟩
theorem b9a {n:Nd} (g:Gd n) {nf:NF} (h:nfaF n=some nf):NfOk nf:=by
 simp only[nfaF] at h
 split at h
 ·cases h
 ·rename_i q
  rw[Bool.not_eq_true] at q
  injection h with h
  subst h
  obtain ⟨p1,p2,p3⟩:=po_n n g NS.new ⟨fun x hx=>by simp[NS.new] at hx,fun x hx=>by simp[NS.new] at hx⟩
  obtain ⟨p4,_⟩:=p3 q
  exact ⟨p4.1,p4.2,p1.st,p1.fr⟩
end Go.Gm
namespace Go.Gm.AQ
open Go Go.Gm
def BldQ (o:Option NF) (r:AV) (h':Heap):Prop:=
 match o with
 |none=>r=.tup [.agg [I 0,I 0,I 0,.nils,.nils],I 4]
 |some nf=>∃sS sF:AV,r=.tup [.agg (nfC nf sS sF),I 0]∧NfV h' nf sS sF
theorem b5G {h:Heap} {n:Nd} {c5:List AV} (nv:NV h n c5) (g:Gd n) (bd:Bd n) :
  Tot tab k0_ [.agg c5] h fun r h'=>Ext h h'∧BldQ (nfaF n) r h':=by
 refine WP.tot (fun k=>(a7t k _ h).trans (a8F tab k _ h)) ?_
 have hok:=nv
 obtain ⟨s5,rfl,h5⟩:∃s,c5=[I n.kind,I n.st,I n.lo,I n.hi,s]∧s.one=true:=by
  cases nv with
  |mk a b=>exact ⟨_,rfl,a.one⟩
 obtain ⟨h1,hh1⟩:∃h1,h1=((h++[AObj.cells ⟨[I n.kind,I n.st,I n.lo,I n.hi,s5],0,0,false⟩])++[AObj.cells ⟨[I 0,I 0,I 0,.nils,.nils],0,0,false⟩])++[AObj.cells ⟨[I 0,I 0,I 0,.nils,.nils,.bool false],0,0,false⟩]:=⟨_,rfl⟩
 have e1:Ext h h1:=by rw[hh1]; ((repeat (first|exact Ext.refl _|assumption|apply Ext.app|apply Ext.mk|(refine Ext.setr ?_ (by (first|omega|(simp only[gL]<;>omega))) _))))
 have l1:h1.length=h.length+3:=by rw[hh1]; simp
 have rt:h1[h.length+1]?=some (.cells ⟨[I 0,I 0,I 0,.nils,.nils],0,0,false⟩):=by rw[hh1]; simp
 have rb:h1[h.length+2]?=some (.cells ⟨[I 0,I 0,I 0,.nils,.nils,.bool false],0,0,false⟩):=by rw[hh1]; simp
 have v:BV (fun o=>o=h.length+2) h1 (h.length+2) NS.new:=⟨.nils,.nils,0,0,rb,Gr.nil ..,Gr.nil ..,rfl,fun z=>absurd rfl z,fun z=>absurd rfl z⟩
 simp -implicitDefEqProofs (maxSteps:=1000000) (disch:=first|assumption|omega|(simp only[gL]<;>omega)|((repeat (first|exact Ext.refl _|assumption|apply Ext.app|apply Ext.mk|(refine Ext.setr ?_ (by (first|omega|(simp only[gL]<;>omega))) _))); done)|(simp only[gL,gA,h5]<;>omega)|fail) only[gB,setAll,partL,fldV,reduceIte,Nat.reduceAdd,Nat.reduceMul,h5]
 rw[←hh1]
 refine WP.call (b5y n g bd h h1 _ _ _ _ hok e1 (fun o ho=>by omega) v NSok.new) ?_
 rintro r h2 ⟨rfl,v2,f2⟩
 have l2:=f2.len
 have rt2:h2[h.length+1]?=_:=(f2.get (by omega) (by omega)).trans rt
 have bt:=(List.getElem?_eq_some_iff.1 rt2).1
 obtain ⟨sS,sF,oS,oF,r1,gS,gF,w1,w2,w3⟩:=v2
 have e2:Ext h h2:=f2.ext e1 fun o z1 z2=>by omega
 have b2:=(List.getElem?_eq_some_iff.1 r1).1
 have os:=gS.sl.one
 have of':=gF.sl.one
 have key:nfaF n=if (NS.part n NS.new).2.much=true then none else some ⟨(NS.part n NS.new).2.n,(NS.part n NS.new).1.1,(NS.part n NS.new).1.2,(NS.part n NS.new).2.st,(NS.part n NS.new).2.fr⟩:=rfl
 obtain ⟨mu,hmu⟩:∃mu,(NS.part n NS.new).2.much=mu:=⟨_,rfl⟩
 rw[hmu] at r1 key
 obtain ⟨pa,hpa⟩:∃a,(NS.part n NS.new).1.1=a:=⟨_,rfl⟩
 obtain ⟨pb,hpb⟩:∃b,(NS.part n NS.new).1.2=b:=⟨_,rfl⟩
 rw[hpa,hpb] at key ⊢
 cases mu with
 |true=>
  simp -implicitDefEqProofs (maxSteps:=1000000) (disch:=first|assumption|omega|(simp only[gL]<;>omega)|((repeat (first|exact Ext.refl _|assumption|apply Ext.app|apply Ext.mk|(refine Ext.setr ?_ (by (first|omega|(simp only[gL]<;>omega))) _))); done)|(simp only[gL,gA,a6_,r1,rt2]<;>omega)|fail) only[gB,setAll,partL,fldV,reduceIte,Nat.reduceAdd,Nat.reduceMul,a6_,r1,rt2]
  rw[key]
  exact WP.ret ⟨e2.set (by omega) _,rfl⟩
 |false=>
  rw[if_neg (by decide)] at key
  simp -implicitDefEqProofs (maxSteps:=1000000) (disch:=first|assumption|omega|(simp only[gL]<;>omega)|((repeat (first|exact Ext.refl _|assumption|apply Ext.app|apply Ext.mk|(refine Ext.setr ?_ (by (first|omega|(simp only[gL]<;>omega))) _))); done)|(simp only[gL,gA,a6_,r1,rt2,os,of']<;>omega)|fail) only[gB,setAll,partL,fldV,reduceIte,Nat.reduceAdd,Nat.reduceMul,a6_,r1,rt2,os,of']
  have g1:Gr oS (oS+1) (((h2.set (h.length+1+1) (.cells ⟨[I (NS.part n NS.new).2.n,I pa,I 0,sS,sF,.bool false],0,0,false⟩)).set (h.length+1+1) (.cells ⟨[I (NS.part n NS.new).2.n,I pa,I pb,sS,sF,.bool false],0,0,false⟩)).set (h.length+1) (.cells ⟨[I (NS.part n NS.new).2.n,I pa,I pb,sS,sF],0,0,false⟩)) 3 sS ((NS.part n NS.new).2.st.map encS):=by
   refine m9_ (D:=fun o=>o=h.length+1∨o=h.length+2) gS ((((FrS.set1 _ _ _).mono fun q _ z=>?_).trans ((FrS.set1 _ _ _).mono fun q _ z=>?_)).trans ((FrS.set1 _ _ _).mono fun q _ z=>?_)) fun z=>?_
   ·right; omega
   ·right; omega
   ·left; omega
   ·obtain ⟨z1,z2,z3⟩:=w2 z
    rcases z1 with z1|z1
    ·exact absurd z1 z3
    ·omega
  have g2:Gr oF (oF+1) (((h2.set (h.length+1+1) (.cells ⟨[I (NS.part n NS.new).2.n,I pa,I 0,sS,sF,.bool false],0,0,false⟩)).set (h.length+1+1) (.cells ⟨[I (NS.part n NS.new).2.n,I pa,I pb,sS,sF,.bool false],0,0,false⟩)).set (h.length+1) (.cells ⟨[I (NS.part n NS.new).2.n,I pa,I pb,sS,sF],0,0,false⟩)) 2 sF ((NS.part n NS.new).2.fr.map encF):=by
   refine m9_ (D:=fun o=>o=h.length+1∨o=h.length+2) gF ((((FrS.set1 _ _ _).mono fun q _ z=>?_).trans ((FrS.set1 _ _ _).mono fun q _ z=>?_)).trans ((FrS.set1 _ _ _).mono fun q _ z=>?_)) fun z=>?_
   ·right; omega
   ·right; omega
   ·left; omega
   ·obtain ⟨z1,z2,z3,_⟩:=w3 z
    rcases z1 with z1|z1
    ·exact absurd z1 z3
    ·omega
  obtain ⟨n1,n2,n3,n4⟩:=b8Z g key
  rw[key]
  exact WP.ret ⟨((e2.set (by omega) _).set (by omega) _).set (by omega) _,sS,sF,rfl,g1.sl,g2.sl,b9a g key,n1,by omega,by omega,fun x hx=>Nat.lt_of_lt_of_le (n4 x hx) (by decide)⟩
theorem b4p {nf:NF} {D:List (List Int)} {acc:List Bool} (h:subF nf 200=some (D,acc)):DOk D acc:=by
 obtain ⟨sets,si⟩:=b5g h
 have ld:=si.ld
 have la:=si.la
 have l0:=(List.getElem?_eq_some_iff.1 si.s0).1
 have hl:sets.length≤200:=by rcases si.sl with z|z<;>omega
 have row:∀s:Int,0≤s→s<D.length→∃t,RowOk nf sets t (gi D s) 0 5:=fun s s0 s1=>by
  have hx:sets[s.toNat]?=some (sets[s.toNat]'(by omega)):=List.getElem?_eq_getElem (by omega)
  obtain ⟨r,r1,r2,_⟩:=si.row s.toNat _ (by omega) hx
  have:gi D s=r:=by
   obtain ⟨q1,q2⟩:=List.getElem?_eq_some_iff.1 r1
   rw[show s=((s.toNat:Nat):Int) by omega,f1_ q1]; exact q2
  exact ⟨_,this▸r2⟩
 refine ⟨by omega,by omega,by omega,fun s s0 s1=>?_,fun s m s0 s1 m0 m1=>?_⟩
 ·obtain ⟨t,r⟩:=row s s0 s1; exact r.1
 ·obtain ⟨t,r⟩:=row s s0 s1
  obtain ⟨j,j1,j2⟩:=r.2 m.toNat (by omega)
  have:gi (gi D s) m=j:=by
   obtain ⟨q1,q2⟩:=List.getElem?_eq_some_iff.1 j1
   rw[show m=((m.toNat:Nat):Int) by omega,f1_ q1]; exact q2
  have:=(List.getElem?_eq_some_iff.1 j2).1
  omega
theorem b7z {nf:NF} {D:List (List Int)} {acc:List Bool} (h:subF nf 200=some (D,acc)):D.length≤200:=by
 obtain ⟨sets,si⟩:=b5g h
 have ld:=si.ld
 rcases si.sl with z|z<;>omega
def CmpQ (n:Nd) (lo:Nat) (r:AV) (h':Heap):Prop:=
 match nfaF n with
 |none=>r=.tup [.agg [.nils,.nils],I 4]
 |some nf=>match subF nf 200 with
  |none=>r=.tup [.agg [.nils,.nils],I 5]
  |some (D,acc)=>∃v,r=.tup [v,I 0]∧MinQ D acc lo v h'
theorem MinQ.set {D:List (List Int)} {acc:List Bool} {lo lo' o:Nat} {v:AV} {h:Heap} (q:MinQ D acc lo v h) (ho:o<lo) (hl:lo'≤lo) (x:AObj):MinQ D acc lo' v (h.set o x):=by
 obtain ⟨D',acc',sN,sA,q1,q2,q3,q4⟩:=q
 exact ⟨D',acc',sN,sA,q1,(q2.set (.inl ho) x).mono hl (by simp),(q3.set (.inl ho) x).mono hl (by simp),q4⟩
theorem b4q {S:ByteArray} {f:Nat} {n:Nd} (hS:S.size≤200) (hf:f≤900000) (hp:prs S f 0 .un 0=some (n,S.size)) (g:Gd n) (bd:Bd n) (h:Heap) :
  Tot tab h8_ [.str S] h fun r h'=>Ext h h'∧CmpQ n h.length r h':=by
 refine WP.tot (fun k=>(a6t k _ h).trans (a7e tab k _ h)) ?_
 obtain ⟨h1,hh1⟩:∃h1,h1=h++[AObj.cells ⟨[.nils,.nils],0,0,false⟩]:=⟨_,rfl⟩
 have e1:Ext h h1:=by rw[hh1]; exact Ext.push _ _
 have l1:h1.length=h.length+1:=by rw[hh1]; simp
 have rt:h1[h.length]?=some (.cells ⟨[.nils,.nils],0,0,false⟩):=by rw[hh1]; simp
 simp -implicitDefEqProofs (maxSteps:=1000000) (disch:=first|assumption|omega|(simp only[gL]<;>omega)|((repeat (first|exact Ext.refl _|assumption|apply Ext.app|apply Ext.mk|(refine Ext.setr ?_ (by (first|omega|(simp only[gL]<;>omega))) _))); done)|(simp only[gL,gA]<;>omega)|fail) only[gB,setAll,partL,fldV,reduceIte,Nat.reduceAdd,Nat.reduceMul]
 rw[←hh1]
 refine WP.call (b7y hS hf hp h1) ?_
 rintro r h2 ⟨e2,c5,rfl,nv⟩
 have l2:=e2.len
 have rt2:=e2.get rt
 obtain ⟨s5,rfl,h5⟩:=nv.inv
 obtain ⟨h3,hh3⟩:∃h3,h3=h2++[AObj.cells ⟨[I n.kind,I n.st,I n.lo,I n.hi,s5],0,0,false⟩]:=⟨_,rfl⟩
 have e3:Ext h2 h3:=by rw[hh3]; exact Ext.push _ _
 have l3:h3.length=h2.length+1:=by rw[hh3]; simp
 have rn:h3[h2.length]?=some (.cells ⟨[I n.kind,I n.st,I n.lo,I n.hi,s5],0,0,false⟩):=by rw[hh3]; simp
 have rt3:=e3.get rt2
 have b3:=(List.getElem?_eq_some_iff.1 rt3).1
 simp -implicitDefEqProofs (maxSteps:=1000000) (disch:=first|assumption|omega|(simp only[gL]<;>omega)|((repeat (first|exact Ext.refl _|assumption|apply Ext.app|apply Ext.mk|(refine Ext.setr ?_ (by (first|omega|(simp only[gL]<;>omega))) _))); done)|(simp only[gL,gA,a6_,h5,n1_]<;>omega)|fail) only[gB,setAll,partL,fldV,reduceIte,Nat.reduceAdd,Nat.reduceMul,a6_,h5,n1_]
 rw[←hh3]
 refine WP.call (b5G (nv.nv.keeps (Keeps.ofExt e3)) g bd) ?_
 rintro r h4 ⟨e4,q4⟩
 have rt4:=e4.get rt3
 have l4:=e4.len
 have b4:=(List.getElem?_eq_some_iff.1 rt4).1
 have e04:=((e1.trans e2).trans e3).trans e4
 have e45:∀x,Ext h4 (h4++[x]):=fun x=>Ext.push _ _
 unfold CmpQ
 cases hnf:nfaF n with
 |none=>
  rw[hnf] at q4
  obtain rfl:=q4
  simp -implicitDefEqProofs (maxSteps:=1000000) (disch:=first|assumption|omega|(simp only[gL]<;>omega)|((repeat (first|exact Ext.refl _|assumption|apply Ext.app|apply Ext.mk|(refine Ext.setr ?_ (by (first|omega|(simp only[gL]<;>omega))) _))); done)|(simp only[gL,gA,a6_,rt4]<;>omega)|fail) only[gB,setAll,partL,fldV,reduceIte,Nat.reduceAdd,Nat.reduceMul,a6_,rt4]
  exact WP.ret ⟨(((e04.trans (e45 _)).set (by omega) _).set (by omega) _),rfl⟩
 |some nf=>
  rw[hnf] at q4
  obtain ⟨sS,sF,rfl,v⟩:=q4
  have o1:=v.s.one
  have o2:=v.f.one
  obtain ⟨h5,hh5⟩:∃h5,h5=h4++[AObj.cells ⟨nfC nf sS sF,0,0,false⟩]:=⟨_,rfl⟩
  have e5:Ext h4 h5:=by rw[hh5]; exact Ext.push _ _
  have l5:h5.length=h4.length+1:=by rw[hh5]; simp
  have rt5:=e5.get rt4
  have b5:=(List.getElem?_eq_some_iff.1 rt5).1
  simp -implicitDefEqProofs (maxSteps:=1000000) (disch:=first|assumption|omega|(simp only[gL]<;>omega)|((repeat (first|exact Ext.refl _|assumption|apply Ext.app|apply Ext.mk|(refine Ext.setr ?_ (by (first|omega|(simp only[gL]<;>omega))) _))); done)|(simp only[gL,gA,a6_,o1,o2,n1_]<;>omega)|fail) only[gB,setAll,partL,fldV,reduceIte,Nat.reduceAdd,Nat.reduceMul,a6_,o1,o2,n1_]
  rw[←hh5]
  refine WP.call (b4h (v.ext e5)) ?_
  rintro r h6 ⟨e6,q6⟩
  have rt6:=e6.get rt5
  have l6:=e6.len
  have b6:=(List.getElem?_eq_some_iff.1 rt6).1
  have e06:=(e04.trans e5).trans e6
  cases hsb:subF nf 200 with
  |none=>
   rw[hsb] at q6
   obtain rfl:=q6
   simp -implicitDefEqProofs (maxSteps:=1000000) (disch:=first|assumption|omega|(simp only[gL]<;>omega)|((repeat (first|exact Ext.refl _|assumption|apply Ext.app|apply Ext.mk|(refine Ext.setr ?_ (by (first|omega|(simp only[gL]<;>omega))) _))); done)|(simp only[gL,gA,a6_,rt6]<;>omega)|fail) only[gB,setAll,partL,fldV,reduceIte,Nat.reduceAdd,Nat.reduceMul,a6_,rt6]
   exact WP.ret ⟨((e06.trans (Ext.push _ _)).set (by omega) _).set (by omega) _,rfl⟩
  |some p=>
   obtain ⟨D,acc⟩:=p
   rw[hsb] at q6
   obtain ⟨sN,sA,rfl,gN,gA⟩:=q6
   have o1:=gN.sl.one
   have o2:=gA.sl.one
   obtain ⟨h7,hh7⟩:∃h7,h7=h6++[AObj.cells ⟨[sN,sA],0,0,false⟩]:=⟨_,rfl⟩
   have e7:Ext h6 h7:=by rw[hh7]; exact Ext.push _ _
   have l7:h7.length=h6.length+1:=by rw[hh7]; simp
   have rt7:=e7.get rt6
   have b7:=(List.getElem?_eq_some_iff.1 rt7).1
   simp -implicitDefEqProofs (maxSteps:=1000000) (disch:=first|assumption|omega|(simp only[gL]<;>omega)|((repeat (first|exact Ext.refl _|assumption|apply Ext.app|apply Ext.mk|(refine Ext.setr ?_ (by (first|omega|(simp only[gL]<;>omega))) _))); done)|(simp only[gL,gA,a6_]<;>omega)|fail) only[gB,setAll,partL,fldV,reduceIte,Nat.reduceAdd,Nat.reduceMul,a6_]
   have hw:wrAt 2 (h6++[AObj.cells ⟨[.nils,.nils],0,0,false⟩]) (some (AObj.cells ⟨[.nils,.nils],0,0,false⟩)) h6.length 0 2 0 [sN,sA]=some h7:=by
    refine (a5w (n:=2) (off:=0) (hi:=2) (vs:=[sN,sA]) rfl rfl (by omega) (by simp[o1,o2])).trans ?_
    rw[n1_ rfl,hh7]
    rfl
   have rd7:h7[h6.length]?=some (.cells ⟨[sN,sA],0,0,false⟩):=by rw[hh7]; simp
   simp -implicitDefEqProofs (maxSteps:=1000000) (disch:=first|assumption|omega|(simp only[gL]<;>omega)|((repeat (first|exact Ext.refl _|assumption|apply Ext.app|apply Ext.mk|(refine Ext.setr ?_ (by (first|omega|(simp only[gL]<;>omega))) _))); done)|(simp only[gL,gA,hw,rd7]<;>omega)|fail) only[gB,setAll,partL,fldV,reduceIte,Nat.reduceAdd,Nat.reduceMul,hw,rd7]
   refine WP.call (b3w (b4p hsb) (gN.sl.ext e7) (gA.sl.ext e7)) ?_
   rintro r h8 ⟨e8,q8⟩
   have rt8:=e8.get rt7
   have l8:=e8.len
   have b8:=(List.getElem?_eq_some_iff.1 rt8).1
   obtain ⟨D',acc',sN',sA',rfl,q2⟩:=q8
   have o1:=q2.1.sl.one
   have o2:=q2.2.1.sl.one
   have hw:wrAt 2 h8 (some (AObj.cells ⟨[.nils,.nils],0,0,false⟩)) h.length 0 2 0 [sN',sA']=some (h8.set h.length (.cells ⟨[sN',sA'],0,0,false⟩)):=a5w (n:=2) (off:=0) (hi:=2) (vs:=[sN',sA']) rfl rfl (by omega) (by simp[o1,o2])
   simp -implicitDefEqProofs (maxSteps:=1000000) (disch:=first|assumption|omega|(simp only[gL]<;>omega)|((repeat (first|exact Ext.refl _|assumption|apply Ext.app|apply Ext.mk|(refine Ext.setr ?_ (by (first|omega|(simp only[gL]<;>omega))) _))); done)|(simp only[gL,gA,rt8,hw]<;>omega)|fail) only[gB,setAll,partL,fldV,reduceIte,Nat.reduceAdd,Nat.reduceMul,rt8,hw]
   have mq:MinQ D acc h7.length (.agg [sN',sA']) h8:=⟨D',acc',sN',sA',rfl,q2⟩
   exact WP.ret ⟨((e06.trans e7).trans e8).set (by omega) _,_,rfl,mq.set (by omega) (by omega) _⟩
end Go.Gm.AQ
namespace Go.Gm.AQ
open Go Go.Gm
def kE:List E:=[⟨0,1,0,4⟩]
def kD:List (List Int):=[[0,0,0,0,0]]
theorem kA0:hopA kE 1 (onL kE kD) 0=[(1,0,4)]:=by decide
theorem kA1:hopA kE 1 (onL kE kD) 1=[]:=by decide
theorem kNet:NetOk (2:Nat) kE:=⟨by omega,by omega,by simp[kE],fun e he=>by simp[kE] at he; subst he; simp⟩
theorem kCo:COk kE:=⟨fun e he=>by simp[kE] at he; subst he; simp⟩
theorem kDok:DOk kD [true]:=by
 refine ⟨by simp[kD],by simp[kD],by simp[kD],fun s s0 s1=>?_,fun s m s0 s1 m0 m1=>?_⟩
 ·simp[kD] at s1
  obtain rfl:s=0:=by omega
  rfl
 ·simp[kD] at s1
  obtain rfl:s=0:=by omega
  have:m=0∨m=1∨m=2∨m=3∨m=4:=by omega
  rcases this with rfl|rfl|rfl|rfl|rfl<;>decide
abbrev kA:=hopA kE 1 (onL kE kD)
theorem kHop {x y e:Nat} {w:Int} (hx:x<2) (h:(y,e,w)∈kA x):x=0∧y=1∧e=0∧w=4:=by
 have:x=0∨x=1:=by omega
 rcases this with rfl|rfl
 ·rw[kA,kA0] at h; simp at h; exact ⟨rfl,h.1,h.2.1,h.2.2⟩
 ·rw[kA,kA1] at h; simp at h
theorem kRange {st:Nat→Prop} (hs:∀x,st x→x<2) {x:Nat} {l:List Nat} {c:Int} (h:Wk kA st x l c):x<2∧0≤c:=
 Wk.range (n:=2) (W:=2147483647) (⟨by omega,fun x hx y e w h=>by obtain ⟨rfl,rfl,rfl,rfl⟩:=kHop hx h; omega⟩) hs h
theorem kOne {l:List Nat} {c:Int} (h:Wk kA (fun x=>x=1*1) 1 l c):(l=[]∧c=0)∨4≤c:=by
 cases h with
 |nil _=>exact .inl ⟨rfl,rfl⟩
 |snoc h1 h2=>
  have hr:=kRange (fun x z=>by omega) h1
  obtain ⟨rfl,_,rfl,rfl⟩:=kHop hr.1 h2
  right; omega
theorem kZero {l:List Nat} {c:Int} (h:Wk kA (fun x=>x=0*1) 0 l c):l=[]∧c=0:=by
 cases h with
 |nil _=>exact ⟨rfl,rfl⟩
 |snoc h1 h2=>
  have hr:=kRange (fun x z=>by omega) h1
  obtain ⟨rfl,q,_⟩:=kHop hr.1 h2
  cases q
theorem kFour {l:List Nat} {c:Int} (h:Wk kA (fun x=>x=0*1) 1 l c):l=[0]∧c=4:=by
 cases h with
 |nil h=>simp at h
 |snoc h1 h2=>
  have hr:=kRange (fun x z=>by omega) h1
  obtain ⟨rfl,_,rfl,rfl⟩:=kHop hr.1 h2
  obtain ⟨rfl,rfl⟩:=kZero h1
  exact ⟨rfl,rfl⟩
theorem kBv {c:Nat→Int} {b:Nat} (hc:0≤c b):bv c [true] b 1=c b:=if_pos ⟨rfl,hc,.inl (show (-1:Int)<0 by decide)⟩
theorem kLc1 {c:Nat→Int} (lc:LC 2 kA (fun x=>x=1*1) c):c 1=0:=by
 rcases lc 1 (by omega) with ⟨h1,⟨l,h2⟩,h3⟩|⟨h1,h2⟩
 ·have:=h3 [] 0 (.nil rfl)
  omega
 ·exact absurd (Wk.nil (A:=kA) (st:=fun x=>x=1*1) (x:=1) rfl) (h2 _ _)
theorem kLc4 {c:Nat→Int} (lc:LC 2 kA (fun x=>x=0*1) c):c 1=4:=by
 have hw:Wk kA (fun x=>x=0*1) 1 ([]++[0]) (0+4):=.snoc (.nil rfl) (by rw[kA,kA0]; simp)
 rcases lc 1 (by omega) with ⟨h1,⟨l,h2⟩,h3⟩|⟨h1,h2⟩
 ·exact (kFour h2).2
 ·exact absurd hw (h2 _ _)
section
variable {h:Heap} {sE sD sA:AV}
theorem kRoute1 (hs:Sl h 4 sE (kE.map encE)) (hD:Sl h 5 sD (kD.map encR)) (hA:Sl h 1 sA ([true].map encB)):Tot tab f7_ [.agg [I 2,sE],.agg [sD,sA],I 1,I 1] h fun r h'=>Ext h h'∧∃sl,r=.tup [.agg [I 0,sl],.bool true]∧Sl h' 1 sl []:=by
 refine (b2B (N:=2) (v:=1) (u:=1) kNet kCo (by simp[kD]) hs kDok hD hA (by omega) (by omega)).mono ?_
 rintro r h' ⟨e,c,lc,rq⟩
 have h1:c 1=0:=kLc1 lc
 have h2:bv c [true] (1*kD.length) kD.length=0:=by
  show bv c [true] 1 1=0
  rw[kBv (by omega),h1]
 refine ⟨e,?_⟩
 rcases rq with ⟨q,_⟩|⟨_,q,l,sl,q1,q2,q3,q4,q5,q6,q7⟩
 ·omega
 ·rw[h2] at q4 q6
  have hq:q=0:=by simp[kD] at q1; omega
  subst hq
  have:l=[]:=by
   rcases kOne (l:=l) (c:=0) q4 with ⟨z,_⟩|z
   ·exact z
   ·omega
  subst this
  exact ⟨sl,q6,q7.sl⟩
theorem kRoute4 (hs:Sl h 4 sE (kE.map encE)) (hD:Sl h 5 sD (kD.map encR)) (hA:Sl h 1 sA ([true].map encB)):Tot tab f7_ [.agg [I 2,sE],.agg [sD,sA],I 0,I 1] h fun r h'=>Ext h h'∧∃sl,r=.tup [.agg [I 4,sl],.bool true]∧Sl h' 1 sl [[I 0]]:=by
 refine (b2B (N:=2) (v:=0) (u:=1) kNet kCo (by simp[kD]) hs kDok hD hA (by omega) (by omega)).mono ?_
 rintro r h' ⟨e,c,lc,rq⟩
 have h1:c 1=4:=kLc4 lc
 have h2:bv c [true] (1*kD.length) kD.length=4:=by
  show bv c [true] 1 1=4
  rw[kBv (by omega),h1]
 refine ⟨e,?_⟩
 rcases rq with ⟨q,_⟩|⟨_,q,l,sl,q1,q2,q3,q4,q5,q6,q7⟩
 ·omega
 ·rw[h2] at q4 q6
  have hq:q=0:=by simp[kD] at q1; omega
  subst hq
  obtain ⟨rfl,_⟩:=kFour (l:=l) (c:=4) q4
  exact ⟨sl,q6,q7.sl⟩
theorem kCosts (hs:Sl h 4 sE (kE.map encE)) (hD:Sl h 5 sD (kD.map encR)) (hA:Sl h 1 sA ([true].map encB)):Tot tab c9_ [.agg [I 2,sE],.agg [sD,sA],I 0] h fun r h'=>Ext h h'∧∃x,Sl h' 1 r ([x,(4:Int)].map encI):=by
 refine (b5A (N:=2) (v:=0) kNet kCo (by simp[kD]) hs kDok hD hA (by omega)).mono ?_
 rintro r h' ⟨e,c,lc,g⟩
 have h1:c 1=4:=kLc4 lc
 have h2:costL 2 kD.length c [true]=[bv c [true] 0 1,4]:=by
  show [bv c [true] (0*1) 1,bv c [true] (1*1) 1]=_
  rw[show 0*1=0 from rfl,show 1*1=1 from rfl,kBv (b:=1) (by omega),h1]
 rw[h2] at g
 exact ⟨e,_,g.sl⟩
theorem b4r {h:Heap} {o sz:Nat} {v:List AV} (hr:h[o]?=some (.cells ⟨v,0,0,false⟩)) (hv:v.length=sz):Sl h sz (.sl o 0 1 sz none 0) [v]:=
 .inr ⟨o,0,none,0,_,rfl,hr,Nat.le_refl _,by simp[List.take_of_length_le (Nat.le_of_eq hv)],by simp[hv]⟩
end
theorem b5H (h:Heap):Tot tab j8_ [] h fun r h'=>r=.bool true∧Ext h h':=by
 refine WP.tot (fun k=>(a7p k h).trans (a8A tab k h)) ?_
 simp -implicitDefEqProofs (maxSteps:=1000000) (disch:=first|assumption|omega|(simp only[gL]<;>omega)|((repeat (first|exact Ext.refl _|assumption|apply Ext.app|apply Ext.mk|(refine Ext.setr ?_ (by (first|omega|(simp only[gL]<;>omega))) _))); done)|(simp only[gL,gA]<;>omega)|fail) only[gB,setAll,partL,fldV,reduceIte,Nat.reduceAdd,Nat.reduceMul]
 obtain ⟨h1,hh1⟩:∃h1,h1=(List.set (List.set (h++[AObj.cells ⟨[AV.int .i64 0,AV.int .i64 1,AV.int .i64 0,AV.int .i64 4],0,0,false⟩]++[AObj.cells ⟨[AV.int .i64 0,.nils],0,0,false⟩]) (h.length+1) (AObj.cells ⟨[AV.int .i64 2,AV.sl h.length 0 1 4 none 0],0,0,false⟩) ++
   [AObj.cells ⟨[AV.int .i64 0,AV.int .i64 0,AV.int .i64 0,AV.int .i64 0,AV.int .i64 0],0,0,false⟩]++[AObj.cells ⟨[AV.bool true],0,0,false⟩]++[AObj.cells ⟨[.nils,.nils],0,0,false⟩])
   (h.length+1+1+1+1) (AObj.cells ⟨[AV.sl (h.length+1+1) 0 1 5 none 0,AV.sl (h.length+1+1+1) 0 1 1 none 0],0,0,false⟩)):=⟨_,rfl⟩
 have e1:Ext h h1:=by rw[hh1]; ((repeat (first|exact Ext.refl _|assumption|apply Ext.app|apply Ext.mk|(refine Ext.setr ?_ (by (first|omega|(simp only[gL]<;>omega))) _))))
 have r0:h1[h.length]?=some (.cells ⟨encE ⟨0,1,0,4⟩,0,0,false⟩):=by rw[hh1]; simp -implicitDefEqProofs (maxSteps:=1000000) (disch:=first|assumption|omega|(simp only[gL]<;>omega)|((repeat (first|exact Ext.refl _|assumption|apply Ext.app|apply Ext.mk|(refine Ext.setr ?_ (by (first|omega|(simp only[gL]<;>omega))) _))); done)|(simp only[gL,gA]<;>omega)|fail) only[gB,setAll,partL,fldV,reduceIte,Nat.reduceAdd,Nat.reduceMul]; try rfl
 have r1:h1[h.length+1]?=some (.cells ⟨[I 2,AV.sl h.length 0 1 4 none 0],0,0,false⟩):=by rw[hh1]; simp -implicitDefEqProofs (maxSteps:=1000000) (disch:=first|assumption|omega|(simp only[gL]<;>omega)|((repeat (first|exact Ext.refl _|assumption|apply Ext.app|apply Ext.mk|(refine Ext.setr ?_ (by (first|omega|(simp only[gL]<;>omega))) _))); done)|(simp only[gL,gA]<;>omega)|fail) only[gB,setAll,partL,fldV,reduceIte,Nat.reduceAdd,Nat.reduceMul]; try rfl
 have r2:h1[h.length+1+1]?=some (.cells ⟨encR [0,0,0,0,0],0,0,false⟩):=by rw[hh1]; simp -implicitDefEqProofs (maxSteps:=1000000) (disch:=first|assumption|omega|(simp only[gL]<;>omega)|((repeat (first|exact Ext.refl _|assumption|apply Ext.app|apply Ext.mk|(refine Ext.setr ?_ (by (first|omega|(simp only[gL]<;>omega))) _))); done)|(simp only[gL,gA]<;>omega)|fail) only[gB,setAll,partL,fldV,reduceIte,Nat.reduceAdd,Nat.reduceMul]; try rfl
 have r3:h1[h.length+1+1+1]?=some (.cells ⟨encB true,0,0,false⟩):=by rw[hh1]; simp -implicitDefEqProofs (maxSteps:=1000000) (disch:=first|assumption|omega|(simp only[gL]<;>omega)|((repeat (first|exact Ext.refl _|assumption|apply Ext.app|apply Ext.mk|(refine Ext.setr ?_ (by (first|omega|(simp only[gL]<;>omega))) _))); done)|(simp only[gL,gA]<;>omega)|fail) only[gB,setAll,partL,fldV,reduceIte,Nat.reduceAdd,Nat.reduceMul]; try rfl
 have r4:h1[h.length+1+1+1+1]?=some (.cells ⟨[AV.sl (h.length+1+1) 0 1 5 none 0,AV.sl (h.length+1+1+1) 0 1 1 none 0],0,0,false⟩):=by rw[hh1]; simp -implicitDefEqProofs (maxSteps:=1000000) (disch:=first|assumption|omega|(simp only[gL]<;>omega)|((repeat (first|exact Ext.refl _|assumption|apply Ext.app|apply Ext.mk|(refine Ext.setr ?_ (by (first|omega|(simp only[gL]<;>omega))) _))); done)|(simp only[gL,gA]<;>omega)|fail) only[gB,setAll,partL,fldV,reduceIte,Nat.reduceAdd,Nat.reduceMul]; try rfl
 have hs:Sl h1 4 (.sl h.length 0 1 4 none 0) (kE.map encE):=b4r r0 rfl
 have hD:Sl h1 5 (.sl (h.length+1+1) 0 1 5 none 0) (kD.map encR):=b4r r2 rfl
 have hA:Sl h1 1 (.sl (h.length+1+1+1) 0 1 1 none 0) ([true].map encB):=b4r r3 rfl
 rw[←hh1]
 refine WP.call (kRoute1 hs hD hA) ?_
 rintro _ h2 ⟨e2,s2,rfl,z2⟩
 have r12:=e2.get r1
 have r42:=e2.get r4
 have b1:=(List.getElem?_eq_some_iff.1 r12).1
 have b4:=(List.getElem?_eq_some_iff.1 r42).1
 simp -implicitDefEqProofs (maxSteps:=1000000) (disch:=first|assumption|omega|(simp only[gL]<;>omega)|((repeat (first|exact Ext.refl _|assumption|apply Ext.app|apply Ext.mk|(refine Ext.setr ?_ (by (first|omega|(simp only[gL]<;>omega))) _))); done)|(simp only[gL,gA,c7_,c8_,z2.one,z2.cells,r12,r42]<;>omega)|fail) only[gB,setAll,partL,fldV,reduceIte,Nat.reduceAdd,Nat.reduceMul,c7_,c8_,z2.one,z2.cells,r12,r42]
 obtain ⟨h3,hh3⟩:∃h3,h3=((h2++[AObj.cells ⟨[AV.int .i64 0,.nils],0,0,false⟩]).set h2.length (.cells ⟨[I 0,s2],0,0,false⟩)):=⟨_,rfl⟩
 have e3:Ext h2 h3:=by rw[hh3]; ((repeat (first|exact Ext.refl _|assumption|apply Ext.app|apply Ext.mk|(refine Ext.setr ?_ (by (first|omega|(simp only[gL]<;>omega))) _))))
 have q3:h3[h2.length]?=some (.cells ⟨[I 0,s2],0,0,false⟩):=by rw[hh3]; exact a7_ (by simp)
 have e13:=e2.trans e3
 rw[←hh3]
 refine WP.call (kRoute4 (hs.ext e13) (hD.ext e13) (hA.ext e13)) ?_
 rintro _ h4 ⟨e4,s4,rfl,z4⟩
 have r14:=(e3.trans e4).get r12
 have r44:=(e3.trans e4).get r42
 have q34:=e4.get q3
 have c1:=(List.getElem?_eq_some_iff.1 r14).1
 have c4:=(List.getElem?_eq_some_iff.1 r44).1
 have cq:=(List.getElem?_eq_some_iff.1 q34).1
 simp -implicitDefEqProofs (maxSteps:=1000000) (disch:=first|assumption|omega|(simp only[gL]<;>omega)|((repeat (first|exact Ext.refl _|assumption|apply Ext.app|apply Ext.mk|(refine Ext.setr ?_ (by (first|omega|(simp only[gL]<;>omega))) _))); done)|(simp only[gL,gA,c7_,c8_,z4.one,z4.cells,r14,r44]<;>omega)|fail) only[gB,setAll,partL,fldV,reduceIte,Nat.reduceAdd,Nat.reduceMul,c7_,c8_,z4.one,z4.cells,r14,r44]
 obtain ⟨h5,hh5⟩:∃h5,h5=((h4++[AObj.cells ⟨[AV.int .i64 0,.nils],0,0,false⟩]).set h4.length (.cells ⟨[I 4,s4],0,0,false⟩)):=⟨_,rfl⟩
 have e5:Ext h4 h5:=by rw[hh5]; ((repeat (first|exact Ext.refl _|assumption|apply Ext.app|apply Ext.mk|(refine Ext.setr ?_ (by (first|omega|(simp only[gL]<;>omega))) _))))
 have q5:h5[h4.length]?=some (.cells ⟨[I 4,s4],0,0,false⟩):=by rw[hh5]; exact a7_ (by simp)
 have e15:=(e13.trans e4).trans e5
 rw[←hh5]
 refine WP.call (kCosts (hs.ext e15) (hD.ext e15) (hA.ext e15)) ?_
 rintro r h6 ⟨e6,x,z6⟩
 have q36:=(e5.trans e6).get q34
 have q56:=e6.get q5
 have l2:=z2.len
 have l4:=z4.len
 simp only[List.length_nil,List.length_cons] at l2 l4
 have g1:gi [x,(4:Int)] 1=4:=rfl
 simp -implicitDefEqProofs (maxSteps:=1000000) (disch:=first|assumption|omega|(simp only[gL]<;>omega)|((repeat (first|exact Ext.refl _|assumption|apply Ext.app|apply Ext.mk|(refine Ext.setr ?_ (by (first|omega|(simp only[gL]<;>omega))) _))); done)|(simp only[gL,gA,c7_,c8_,q36,q56,l2,l4,z6.lenG,z6.idxG,z6.ld0,g1,encI]<;>omega)|fail) only[gB,setAll,partL,fldV,reduceIte,Nat.reduceAdd,Nat.reduceMul,c7_,c8_,q36,q56,l2,l4,z6.lenG,z6.idxG,z6.ld0,g1,encI]
 exact WP.ret ⟨rfl,(e1.trans e15).trans e6⟩
end Go.Gm.AQ
namespace Go.Gm
def sgnB (m:Nat):Nat:=[119,98,99,102,116].getD m 0
def setS (s:Nat):List Nat:=((List.range 5).filter fun m=>s.testBit m).map sgnB
def setT (s:Nat):List Nat:=if s=31 then [46] else if (setS s).length=1 then setS s else 91::(setS s++[93])
def isU:Nd→Bool
 |.uni _=>true
 |_=>false
def isJ:Nd→Bool
 |.join _=>true
 |_=>false
def prn (b:Bool) (t:List Nat):List Nat:=if b then 40::(t++[41]) else t
mutual
def txt:Nd→List Nat
 |.set s=>setT s
 |.emp=>[48]
 |.eps=>[95]
 |.join l=>txtj l
 |.uni l=>txtu l
 |.star n=>prn (isU n || isJ n) (txt n)++[42]
 |.plus n=>prn (isU n || isJ n) (txt n)++[43]
 |.opt n=>prn (isU n || isJ n) (txt n)++[63]
 |.rep a b n=>prn (isU n || isJ n) (txt n)++[123,48+a,44,48+b,125]
def txtj:List Nd→List Nat
 |[]=>[]
 |n::l=>prn (isU n || isJ n) (txt n)++txtj l
def txtu:List Nd→List Nat
 |[]=>[]
 |n::l=>prn (isU n) (txt n)++txtr l
def txtr:List Nd→List Nat
 |[]=>[]
 |n::l=>124::(prn (isU n) (txt n)++txtr l)
end
abbrev pcT (n:Nd):List Nat:=prn (isU n || isJ n) (txt n)
abbrev jnT (n:Nd):List Nat:=prn (isU n) (txt n)
def Sd (S:ByteArray):Nat→List Nat→Prop
 |_,[]=>True
 |p,c::t=>bt S p=some c∧Sd S (p+1) t
theorem a3d {S:ByteArray}:∀{a b:List Nat} {p:Nat},Sd S p (a++b)↔Sd S p a∧Sd S (p+a.length) b
 |[],b,p=>by simp[Sd]
 |c::a,b,p=>by
  simp only[List.cons_append,Sd,a3d (a:=a),List.length_cons]
  rw[show p+1+a.length=p+(a.length+1) by omega,and_assoc]
mutual
/-- How deep,how costly to read. -/
def dp:Nd→Nat
 |.join l=>1+dps l
 |.uni l=>1+dps l
 |.star n=>dp n
 |.plus n=>dp n
 |.opt n=>dp n
 |.rep _ _ n=>dp n
 |_=>0
def dps:List Nd→Nat
 |[]=>0
 |n::l=>max (dp n) (dps l)
end
mutual
def cst:Nd→Nat
 |.join l=>20+csts l
 |.uni l=>20+csts l
 |.star n=>10+cst n
 |.plus n=>10+cst n
 |.opt n=>10+cst n
 |.rep _ _ n=>10+cst n
 |_=>50
def csts:List Nd→Nat
 |[]=>0
 |n::l=>20+cst n+csts l
end
def Rd (S:ByteArray) (K d:Nat) (m:PM) (p:Nat) (r:Nd × Nat):Prop:=∀f,K≤f→prs S f d m p=some r
section
variable {S:ByteArray} {K K' d p q:Nat} {n:Nd} {r:Nd × Nat} {l:List Nd}
theorem Rd.le {m:PM} (h:Rd S K d m p r) (hk:K≤K'):Rd S K' d m p r:=fun f hf=>h f (by omega)
theorem i4_ {K f:Nat} (h:K+1≤f):∃g,f=g+1∧K≤g:=⟨f-1,by omega,by omega⟩
theorem rd_pc (h1:Rd S K d .at p (n,q)) (h2:Rd S K' d (.pcl n) q r):Rd S (K+K'+1) d .pc p r:=by
 intro f hf
 obtain ⟨g,rfl,hg⟩:=i4_ hf
 simp only[prs,h1 g (by omega),h2 g (by omega)]
def noSuf (x:Option Nat):Prop:=x≠some 42∧x≠some 43∧x≠some 63∧x≠some 123
theorem b8u (h:noSuf (bt S p)):Rd S 1 d (.pcl n) p (n,p):=by
 intro f hf
 obtain ⟨g,rfl,hg⟩:=i4_ hf
 simp only[prs]
 cases hb:bt S p with
 |none=>rfl
 |some c=>
  rw[hb] at h
  obtain ⟨h1,h2,h3,h4⟩:=h
  simp only
  rw[if_neg (fun z=>h1 (by rw[z])),if_neg (fun z=>h2 (by rw[z])),if_neg (fun z=>h3 (by rw[z])),if_neg (fun z=>h4 (by rw[z]))]
theorem b8v (hb:bt S p=some 42) (h:Rd S K d (.pcl (.star n)) (p+1) r):Rd S (K+1) d (.pcl n) p r:=by
 intro f hf
 obtain ⟨g,rfl,hg⟩:=i4_ hf
 simp only[prs,hb]
 exact h g hg
theorem b8w (hb:bt S p=some 43) (h:Rd S K d (.pcl (.plus n)) (p+1) r):Rd S (K+1) d (.pcl n) p r:=by
 intro f hf
 obtain ⟨g,rfl,hg⟩:=i4_ hf
 simp only[prs,hb]
 exact h g hg
theorem b9b (hb:bt S p=some 63) (h:Rd S K d (.pcl (.opt n)) (p+1) r):Rd S (K+1) d (.pcl n) p r:=by
 intro f hf
 obtain ⟨g,rfl,hg⟩:=i4_ hf
 simp only[prs,hb]
 exact h g hg
theorem b9c {a b:Nat} (hab:a≤b) (hb9:b≤9) (hs:Sd S p [123,48+a,44,48+b,125]) (h:Rd S K d (.pcl (.rep a b n)) (p+5) r):Rd S (K+1) d (.pcl n) p r:=by
 obtain ⟨h0,h1,h2,h3,h4,_⟩:=hs
 intro f hf
 obtain ⟨g,rfl,hg⟩:=i4_ hf
 have ht:tms S (p+1)=some (a,b,p+5):=by
  rw[show p+1+1+1=p+1+2 by omega] at h3
  rw[show p+1+1+1+1=p+1+3 by omega] at h4
  simp only[tms,h1,h3,dig]
  rw[if_pos (by omega),if_pos (by omega)]
  simp only
  rw[if_pos ⟨h2,h4,by omega⟩]
  simp only[Nat.add_sub_cancel_left,Option.some.injEq,Prod.mk.injEq]
 simp only[prs,h0,ht]
 exact h g hg
theorem rd_jn (h1:Rd S K d .pc p (n,q)) (h2:Rd S K' d (.jnl [n]) q r):Rd S (K+K'+1) d .jn p r:=by
 intro f hf
 obtain ⟨g,rfl,hg⟩:=i4_ hf
 simp only[prs,h1 g (by omega),h2 g (by omega)]
def endJ (x:Option Nat):Prop:=x=none∨x=some 124∨x=some 41
def endU (x:Option Nat):Prop:=x=none∨x=some 41
theorem endU.j {x:Option Nat} (h:endU x):endJ x:=h.imp id .inr
theorem endJ.suf {x:Option Nat} (h:endJ x):noSuf x:=by
 rcases h with rfl|rfl|rfl<;>simp[noSuf]
theorem b5j (h:endJ (bt S p)):Rd S 1 d (.jnl l) p (finJ l,p):=by
 intro f hf
 obtain ⟨g,rfl,hg⟩:=i4_ hf
 rcases h with h|h|h<;>simp[prs,h]
theorem b9d {c:Nat} (hb:bt S p=some c) (h1:c≠124) (h2:c≠41) (h3:Rd S K d .pc p (n,q)) (h4:Rd S K' d (.jnl (l++[n])) q r):Rd S (K+K'+1) d (.jnl l) p r:=by
 intro f hf
 obtain ⟨g,rfl,hg⟩:=i4_ hf
 simp only[prs,hb,if_neg h1,if_neg h2,h3 g (by omega),h4 g (by omega)]
theorem rd_un (h1:Rd S K d .jn p (n,q)) (h2:Rd S K' d (.unl [n]) q r):Rd S (K+K'+1) d .un p r:=by
 intro f hf
 obtain ⟨g,rfl,hg⟩:=i4_ hf
 simp only[prs,h1 g (by omega),h2 g (by omega)]
theorem b2W (h:endU (bt S p)):Rd S 1 d (.unl l) p (finU l,p):=by
 intro f hf
 obtain ⟨g,rfl,hg⟩:=i4_ hf
 rcases h with h|h<;>simp[prs,h]
theorem b9e (hb:bt S p=some 124) (h3:Rd S K d .jn (p+1) (n,q)) (h4:Rd S K' d (.unl (l++[n])) q r):Rd S (K+K'+1) d (.unl l) p r:=by
 intro f hf
 obtain ⟨g,rfl,hg⟩:=i4_ hf
 simp only[prs,hb,h3 g (by omega),h4 g (by omega)]
 exact if_pos trivial
theorem b9f (hb:bt S p=some 40) (hd:d<30) (h:Rd S K (d+1) .un (p+1) (n,q)) (h2:bt S q=some 41):Rd S (K+1) d .at p (n,q+1):=by
 intro f hf
 obtain ⟨g,rfl,hg⟩:=i4_ hf
 simp only[prs,hb]
 simp only[if_true,if_neg (show ¬30≤d by omega),h g hg,h2]
end
theorem b6O {S:ByteArray}:∀(ms:List Nat) (p s f:Nat),(∀m∈ms,m<5)→Sd S p (ms.map sgnB++[93])→0<s∨ms≠[]→ms.length<f→clsF S f p s=some (ms.foldl (fun s m=>s ||| 2 ^ m) s,p+ms.length+1)
 |[],p,s,f,_,h,h0,hf=>by
  obtain ⟨g,rfl,_⟩:=i4_ hf
  have hs:0<s:=h0.resolve_right (by simp)
  simp only[List.map_nil,List.nil_append,Sd] at h
  simp[clsF,h.1,hs]
 |m::ms,p,s,f,hm,h,h0,hf=>by
  obtain ⟨g,rfl,hg⟩:=i4_ hf
  simp only[List.map_cons,List.cons_append,Sd] at h
  have h5:=hm m (by simp)
  have hmd:md (sgnB m)=some m∧sgnB m≠93:=by
   have:m=0∨m=1∨m=2∨m=3∨m=4:=by omega
   rcases this with rfl|rfl|rfl|rfl|rfl<;>decide
  have hpos:0<s ||| 2 ^ m:=by
   have h1:2 ^ m≤s ||| 2 ^ m:=Nat.right_le_or
   have:0<2 ^ m:=Nat.two_pow_pos m
   omega
  rw[clsF,h.1]
  simp only
  rw[if_neg (fun z=>hmd.2 z.1),hmd.1]
  simp only
  rw[b6O ms (p+1) (s ||| 2 ^ m) g (fun x hx=>hm x (List.mem_cons_of_mem _ hx)) h.2 (.inl hpos) (by simp only[List.length_cons] at hf; omega)]
  simp only[List.foldl_cons,List.length_cons,Option.some.injEq,Prod.mk.injEq,true_and]
  omega
def msOf (s:Nat):List Nat:=(List.range 5).filter fun m=>s.testBit m
theorem b8x:∀s:Fin 32,(msOf s.val).foldl (fun (s m:Nat)=>s ||| 2 ^ m) 0=s.val:=by decide
theorem ms_ne:∀s:Fin 32,0<s.val→msOf s≠[]:=by decide
theorem b9g:∀s:Fin 32,(setS s).length=1→∃m,m<5∧setS s=[sgnB m]∧s.val=2 ^ m:=by
 intro s
 have:∀s:Fin 32,(setS s).length=1→∃m:Fin 5,setS s=[sgnB m]∧s.val=2 ^ m.val:=by decide
 intro h
 obtain ⟨m,h1,h2⟩:=this s h
 exact ⟨m,m.2,h1,h2⟩
theorem ms_lt (s:Nat):∀m∈msOf s,m<5:=fun m h=>by
 have:=(List.mem_filter.1 h).1
 simpa using this
theorem b9h (s:Nat):(msOf s).length≤5:=by
 have:=List.length_filter_le (fun m=>s.testBit m) (List.range 5)
 simpa [msOf] using this
theorem b9i {S:ByteArray} {d p s:Nat} (h1:1≤s) (h2:s≤31) (h:Sd S p (setT s)):Rd S 20 d .at p (.set s,p+(setT s).length):=by
 intro f hf
 obtain ⟨g,rfl,hg⟩:=i4_ hf
 rw[setT] at h ⊢
 by_cases q:s=31
 ·rw[if_pos q] at h ⊢
  obtain ⟨hb,_⟩:=h
  simp[prs,hb,md,q]
 ·rw[if_neg q] at h ⊢
  by_cases q2:(setS s).length=1
  ·rw[if_pos q2] at h ⊢
   obtain ⟨m,m5,e1,e2⟩:=b9g ⟨s,by omega⟩ q2
   simp only at e1 e2
   rw[e1] at h ⊢
   obtain ⟨hb,_⟩:=h
   have hmd:md (sgnB m)=some m∧sgnB m≠40:=by
    have:m=0∨m=1∨m=2∨m=3∨m=4:=by omega
    rcases this with rfl|rfl|rfl|rfl|rfl<;>decide
   simp only[prs,hb]
   rw[if_neg hmd.2,hmd.1,e2]
   rfl
  ·rw[if_neg q2] at h ⊢
   obtain ⟨hb,h⟩:=h
   have hc:=b6O (msOf s) (p+1) 0 g (ms_lt s) h (.inr (ms_ne ⟨s,by omega⟩ (by simp only; omega))) (by have:=b9h s; omega)
   rw[show (msOf s).foldl (fun s m=>s ||| 2 ^ m) 0=s from b8x ⟨s,by omega⟩] at hc
   simp only[prs,hb]
   rw[if_neg (by omega),show md 91=none from rfl]
   simp only
   rw[if_neg (by omega),if_neg (by omega),if_neg (by omega),if_pos trivial,hc]
   simp only[List.length_cons,List.length_append,List.length_nil,Option.some.injEq,Prod.mk.injEq,true_and]
   have:(setS s).length=(msOf s).length:=by simp[setS,msOf]
   omega
def okH (c:Nat):Prop:=c≠42∧c≠43∧c≠63∧c≠123∧c≠124∧c≠41
theorem b8y:∀s:Fin 32,∃c t,setT s.val=c::t∧okH c:=by
 have:∀s:Fin 32,(setT s.val).headD 42≠42∧(setT s.val).headD 42≠43∧(setT s.val).headD 42≠63∧(setT s.val).headD 42≠123∧(setT s.val).headD 42≠124∧(setT s.val).headD 42≠41:=by decide
 intro s
 have h:=this s
 cases hs:setT s.val with
 |nil=>rw[hs] at h; exact absurd rfl h.1
 |cons c t=>rw[hs] at h; exact ⟨c,t,rfl,h⟩
theorem a4Z {b:Bool} {t:List Nat} (h:∃c u,t=c::u∧okH c):∃c u,prn b t=c::u∧okH c:=by
 cases b with
 |false=>exact h
 |true=>exact ⟨40,t++[41],rfl,by simp[okH]⟩
theorem a9K {t u:List Nat} (h:∃c v,t=c::v∧okH c):∃c v,t++u=c::v∧okH c:=by
 obtain ⟨c,v,rfl,h⟩:=h
 exact ⟨c,v++u,rfl,h⟩
theorem b4s (n:Nd):Gd n→∃c t,txt n=c::t∧okH c:=by
 refine Nd.ind (p:=fun n=>Gd n→∃c t,txt n=c::t∧okH c) (fun n ih g=>?_) n
 cases n with
 |set s=>exact b8y ⟨s,by have:=g.rt.2; omega⟩
 |emp=>exact ⟨48,[],by rw[txt],by simp[okH]⟩
 |eps=>exact ⟨95,[],by rw[txt],by simp[okH]⟩
 |star c=>rw[txt]; exact a9K (a4Z (ih c (by simp[Nd.kids]) (g.kid c (by simp[Nd.kids]))))
 |plus c=>rw[txt]; exact a9K (a4Z (ih c (by simp[Nd.kids]) (g.kid c (by simp[Nd.kids]))))
 |opt c=>rw[txt]; exact a9K (a4Z (ih c (by simp[Nd.kids]) (g.kid c (by simp[Nd.kids]))))
 |rep a b c=>rw[txt]; exact a9K (a4Z (ih c (by simp[Nd.kids]) (g.kid c (by simp[Nd.kids]))))
 |join l=>
  cases l with
  |nil=>have:2≤0:=g.rt; omega
  |cons c l=>rw[txt,txtj]; exact a9K (a4Z (ih c (by simp[Nd.kids]) (g.kid c (by simp[Nd.kids]))))
 |uni l=>
  cases l with
  |nil=>have:2≤0:=g.rt; omega
  |cons c l=>rw[txt,txtu]; exact a9K (a4Z (ih c (by simp[Nd.kids]) (g.kid c (by simp[Nd.kids]))))
section
variable {S:ByteArray}
def PS (S:ByteArray) (n:Nd):Prop:=∀(d p K:Nat) (r:Nd × Nat),d+dp n≤30→Sd S p (pcT n)→Rd S K d (.pcl n) (p+(pcT n).length) r→Rd S (K+cst n+10) d .pc p r
def JS (S:ByteArray) (n:Nd):Prop:=∀(d p:Nat),d+dp n≤30→Sd S p (jnT n)→endJ (bt S (p+(jnT n).length))→Rd S (cst n+15) d .jn p (n,p+(jnT n).length)
def US (S:ByteArray) (n:Nd):Prop:=∀(d p:Nat),d+dp n≤(if (isU n || isJ n)=true then 31 else 30)→Sd S p (txt n)→endU (bt S (p+(txt n).length))→Rd S (cst n+if (isU n || isJ n)=true then 0 else 18) d .un p (n,p+(txt n).length)
theorem PS.one {n:Nd} (h:PS S n) {d p:Nat} (hd:d+dp n≤30) (hs:Sd S p (pcT n)) (he:noSuf (bt S (p+(pcT n).length))):Rd S (cst n+11) d .pc p (n,p+(pcT n).length):=
 (h d p 1 _ hd hs (b8u he)).le (by omega)
theorem PS.js {n:Nd} (h:PS S n) (hj:isJ n=false):JS S n:=by
 intro d p hd hs he
 have e:jnT n=pcT n:=by simp[jnT,pcT,hj]
 rw[e] at hs he ⊢
 exact (rd_jn (h.one hd hs he.suf) (b5j he)).le (by omega)
theorem JS.us {n:Nd} (h:JS S n) (hu:isU n=false) {d p:Nat} (hd:d+dp n≤30) (hs:Sd S p (txt n)) (he:endU (bt S (p+(txt n).length))):Rd S (cst n+17) d .un p (n,p+(txt n).length):=by
 have e:jnT n=txt n:=by simp[jnT,prn,hu]
 have h1:=h d p hd (by rw[e]; exact hs) (by rw[e]; exact he.j)
 rw[e] at h1
 exact (rd_un h1 (b2W he)).le (by omega)
theorem b9j {n:Nd} (hb:(isU n || isJ n)=true):1≤dp n:=by
 cases n<;>simp[isU,isJ] at hb<;>rw[dp]<;>omega
theorem US.ps {n:Nd} (h:US S n) (hb:(isU n || isJ n)=true):PS S n:=by
 intro d p K r hd hs hr
 have h1:=b9j hb
 have e:pcT n=40::(txt n++[41]):=by simp only[pcT,prn,hb,if_true]
 rw[e] at hs hr
 obtain ⟨h0,hs⟩:=hs
 obtain ⟨h1,h2⟩:=a3d.1 hs
 obtain ⟨h2,_⟩:=h2
 have hu:=h (d+1) (p+1) (by rw[if_pos hb]; omega) h1 (.inr h2)
 rw[if_pos hb] at hu
 have h3:=b9f h0 (by omega) hu h2
 simp only[List.length_cons,List.length_append,List.length_nil] at hr
 rw[show p+((txt n).length+(0+1)+1)=p+1+(txt n).length+1 by omega] at hr
 exact (rd_pc h3 hr).le (by omega)
theorem b6P:∀(l:List Nd),(∀c∈l,PS S c∧Gd c)→∀(acc:List Nd) (d p:Nat),d+dps l≤30→Sd S p (txtj l)→endJ (bt S (p+(txtj l).length))→Rd S (csts l+1) d (.jnl acc) p (finJ (acc++l),p+(txtj l).length)
 |[],_,acc,d,p,_,_,he=>by
  rw[txtj] at he ⊢
  rw[List.append_nil]
  exact b5j he
 |n::l,hl,acc,d,p,hd,hs,he=>by
  rw[dps] at hd
  rw[txtj] at hs he ⊢
  obtain ⟨h1,h2⟩:=a3d.1 hs
  obtain ⟨hp,hg⟩:=hl n (by simp)
  obtain ⟨c,t,e1,e2⟩:=a4Z (b:=isU n || isJ n) (b4s n hg)
  rw[List.length_append,←Nat.add_assoc] at he ⊢
  have hb:bt S p=some c:=by rw[e1] at h1; exact h1.1
  have hn:noSuf (bt S (p+(prn (isU n || isJ n) (txt n)).length)):=by
   cases l with
   |nil=>
    rw[txtj] at he
    exact he.suf
   |cons m l=>
    obtain ⟨c',t',e3,e4⟩:=a4Z (b:=isU m || isJ m) (b4s m (hl m (by simp)).2)
    rw[txtj,e3] at h2
    rw[h2.1]
    simp only[okH] at e4
    simp[noSuf,e4]
  have h3:=hp.one (d:=d) (by omega) h1 hn
  have ec:csts (n::l)=20+cst n+csts l:=by simp[csts]
  have h4:=b6P l (fun c hc=>hl c (List.mem_cons_of_mem _ hc)) (acc++[n]) d (p+(prn (isU n || isJ n) (txt n)).length) (by omega) h2 he
  rw[List.append_assoc,List.singleton_append] at h4
  exact (b9d hb e2.2.2.2.2.1 e2.2.2.2.2.2 h3 h4).le (by omega)
theorem b6Q:∀(l:List Nd),(∀c∈l,JS S c)→∀(acc:List Nd) (d p:Nat),d+dps l≤30→Sd S p (txtr l)→endU (bt S (p+(txtr l).length))→Rd S (csts l+1) d (.unl acc) p (finU (acc++l),p+(txtr l).length)
 |[],_,acc,d,p,_,_,he=>by
  rw[txtr] at he ⊢
  rw[List.append_nil]
  exact b2W he
 |n::l,hl,acc,d,p,hd,hs,he=>by
  rw[dps] at hd
  rw[txtr] at hs he ⊢
  obtain ⟨h0,hs⟩:=hs
  obtain ⟨h1,h2⟩:=a3d.1 hs
  rw[List.length_cons,List.length_append] at he ⊢
  rw[show p+((prn (isU n) (txt n)).length+(txtr l).length+1)=p+1+(prn (isU n) (txt n)).length+(txtr l).length by omega] at he ⊢
  have hn:endJ (bt S (p+1+(prn (isU n) (txt n)).length)):=by
   cases l with
   |nil=>rw[txtr] at he; exact he.j
   |cons m l=>rw[txtr] at h2; exact .inr (.inl h2.1)
  have h3:=hl n (by simp) d (p+1) (by omega) h1 hn
  have ec:csts (n::l)=20+cst n+csts l:=by simp[csts]
  have h4:=b6Q l (fun c hc=>hl c (List.mem_cons_of_mem _ hc)) (acc++[n]) d (p+1+(prn (isU n) (txt n)).length) (by omega) h2 he
  rw[List.append_assoc,List.singleton_append] at h4
  exact (b9e h0 h3 h4).le (by omega)
theorem read (n:Nd):Gd n→PS S n∧JS S n∧US S n:=by
 refine Nd.ind (p:=fun n=>Gd n→PS S n∧JS S n∧US S n) (fun n ih g=>?_) n
 have plain:(isU n || isJ n)=false→PS S n→PS S n∧JS S n∧US S n:=fun hb h=>by
  have hu:isU n=false:=by cases hq:isU n<;>simp_all
  have hj:isJ n=false:=by cases hq:isJ n<;>simp_all
  have h2:=h.js hj
  refine ⟨h,h2,fun d p hd hs he=>?_⟩
  rw[hb] at hd ⊢
  exact (h2.us hu (by simpa using hd) hs he).le (by simp)
 cases n with
 |set s=>
  have e:pcT (.set s)=setT s:=by simp[pcT,prn,isU,isJ,txt]
  refine plain rfl fun d p K r hd hs hr=>?_
  rw[e] at hs hr
  have ec:cst (.set s)=50:=by simp[cst]
  exact (rd_pc (b9i g.rt.1 g.rt.2 hs) hr).le (by omega)
 |emp=>
  have e:pcT .emp=[48]:=by simp[pcT,prn,isU,isJ,txt]
  refine plain rfl fun d p K r hd hs hr=>?_
  rw[e] at hs hr
  have ec:cst .emp=50:=by simp[cst]
  refine (rd_pc (K:=1) (n:=.emp) (q:=p+1) (fun f hf=>?_) hr).le (by omega)
  obtain ⟨g,rfl,hg⟩:=i4_ hf
  simp[prs,hs.1,md]
 |eps=>
  have e:pcT .eps=[95]:=by simp[pcT,prn,isU,isJ,txt]
  refine plain rfl fun d p K r hd hs hr=>?_
  rw[e] at hs hr
  have ec:cst .eps=50:=by simp[cst]
  refine (rd_pc (K:=1) (n:=.eps) (q:=p+1) (fun f hf=>?_) hr).le (by omega)
  obtain ⟨g,rfl,hg⟩:=i4_ hf
  simp[prs,hs.1,md]
 |star c=>
  have e:pcT (.star c)=pcT c++[42]:=by simp[pcT,prn,isU,isJ,txt]
  refine plain rfl fun d p K r hd hs hr=>?_
  rw[e] at hs hr
  obtain ⟨h1,h2⟩:=a3d.1 hs
  rw[List.length_append,←Nat.add_assoc] at hr
  rw[dp] at hd
  have ec:cst (.star c)=10+cst c:=by simp[cst]
  exact ((ih c (by simp[Nd.kids]) (g.kid c (by simp[Nd.kids]))).1 d p (K+1) r hd h1 (b8v h2.1 hr)).le (by omega)
 |plus c=>
  have e:pcT (.plus c)=pcT c++[43]:=by simp[pcT,prn,isU,isJ,txt]
  refine plain rfl fun d p K r hd hs hr=>?_
  rw[e] at hs hr
  obtain ⟨h1,h2⟩:=a3d.1 hs
  rw[List.length_append,←Nat.add_assoc] at hr
  rw[dp] at hd
  have ec:cst (.plus c)=10+cst c:=by simp[cst]
  exact ((ih c (by simp[Nd.kids]) (g.kid c (by simp[Nd.kids]))).1 d p (K+1) r hd h1 (b8w h2.1 hr)).le (by omega)
 |opt c=>
  have e:pcT (.opt c)=pcT c++[63]:=by simp[pcT,prn,isU,isJ,txt]
  refine plain rfl fun d p K r hd hs hr=>?_
  rw[e] at hs hr
  obtain ⟨h1,h2⟩:=a3d.1 hs
  rw[List.length_append,←Nat.add_assoc] at hr
  rw[dp] at hd
  have ec:cst (.opt c)=10+cst c:=by simp[cst]
  exact ((ih c (by simp[Nd.kids]) (g.kid c (by simp[Nd.kids]))).1 d p (K+1) r hd h1 (b9b h2.1 hr)).le (by omega)
 |rep a b c=>
  have e:pcT (.rep a b c)=pcT c++[123,48+a,44,48+b,125]:=by simp[pcT,prn,isU,isJ,txt]
  refine plain rfl fun d p K r hd hs hr=>?_
  rw[e] at hs hr
  obtain ⟨h1,h2⟩:=a3d.1 hs
  rw[List.length_append,←Nat.add_assoc] at hr
  rw[dp] at hd
  have ec:cst (.rep a b c)=10+cst c:=by simp[cst]
  exact ((ih c (by simp[Nd.kids]) (g.kid c (by simp[Nd.kids]))).1 d p (K+1) r hd h1 (b9c g.rt.1 g.rt.2 h2 hr)).le (by omega)
 |join l=>
  have hk:∀c∈l,PS S c∧Gd c:=fun c hc=>⟨(ih c hc (g.kid c hc)).1,g.kid c hc⟩
  have hl:2≤l.length:=g.rt
  have J:∀d p,d+dps l≤30→Sd S p (txtj l)→endJ (bt S (p+(txtj l).length))→Rd S (csts l) d .jn p (.join l,p+(txtj l).length):=by
   intro d p hd hs he
   match l,hl,hk,hd,hs,he with
   |a::b::r,_,hk,hd,hs,he=>
    rw[dps] at hd
    rw[txtj] at hs he ⊢
    obtain ⟨h1,h2⟩:=a3d.1 hs
    rw[List.length_append,←Nat.add_assoc] at he ⊢
    obtain ⟨c',t',e3,e4⟩:=a4Z (b:=isU b || isJ b) (b4s b (hk b (by simp)).2)
    have hn:noSuf (bt S (p+(prn (isU a || isJ a) (txt a)).length)):=by
     rw[txtj,e3] at h2
     rw[h2.1]
     simp only[okH] at e4
     simp[noSuf,e4]
    have h3:=(hk a (by simp)).1.one (d:=d) (by omega) h1 hn
    have h4:=b6P (b::r) (fun c hc=>hk c (List.mem_cons_of_mem _ hc)) [a] d (p+(prn (isU a || isJ a) (txt a)).length) (by omega) h2 he
    have ec:csts (a::b::r)=20+cst a+csts (b::r):=by simp[csts]
    exact (rd_jn h3 h4).le (by omega)
  have hU:US S (.join l):=by
   intro d p hd hs he
   have hd':d+dp (.join l)≤31:=by simpa [isU,isJ] using hd
   rw[dp] at hd'
   rw[txt] at hs he ⊢
   have ec:cst (.join l)=20+csts l:=by simp[cst]
   rw[if_pos (show (isU (.join l) || isJ (.join l))=true from rfl)]
   exact (rd_un (J d p (by omega) hs he.j) (b2W he)).le (by omega)
  refine ⟨hU.ps rfl,fun d p hd hs he=>?_,hU⟩
  have e:jnT (.join l)=txtj l:=by simp[jnT,prn,isU,txt]
  rw[e] at hs he ⊢
  rw[dp] at hd
  have ec:cst (.join l)=20+csts l:=by simp[cst]
  exact (J d p (by omega) hs he).le (by omega)
 |uni l=>
  have hk:∀c∈l,JS S c:=fun c hc=>(ih c hc (g.kid c hc)).2.1
  have hl:2≤l.length:=g.rt
  have hU:US S (.uni l):=by
   intro d p hd hs he
   have hd':d+dp (.uni l)≤31:=by simpa [isU,isJ] using hd
   rw[dp] at hd'
   rw[txt] at hs he ⊢
   rw[if_pos (show (isU (.uni l) || isJ (.uni l))=true from rfl)]
   have ec:cst (.uni l)=20+csts l:=by simp[cst]
   rw[ec]
   clear ec
   match l,hl,hk,hd',hs,he with
   |a::b::r,_,hk,hd,hs,he=>
    rw[dps] at hd
    rw[txtu] at hs he ⊢
    obtain ⟨h1,h2⟩:=a3d.1 hs
    rw[List.length_append,←Nat.add_assoc] at he ⊢
    have hn:endJ (bt S (p+(prn (isU a) (txt a)).length)):=by
     rw[txtr] at h2; exact .inr (.inl h2.1)
    have h3:=hk a (by simp) d p (by omega) h1 hn
    have h4:=b6Q (b::r) (fun c hc=>hk c (List.mem_cons_of_mem _ hc)) [a] d (p+(prn (isU a) (txt a)).length) (by omega) h2 he
    have ec:csts (a::b::r)=20+cst a+csts (b::r):=by simp[csts]
    exact (rd_un h3 h4).le (by omega)
  exact ⟨hU.ps rfl,(hU.ps rfl).js rfl,hU⟩
end
def ofL (l:List Nat):ByteArray:=⟨(l.map UInt8.ofNat).toArray⟩
theorem b0p (l:List Nat):(ofL l).size=l.length:=by
 show (l.map UInt8.ofNat).toArray.size=_
 simp
theorem b6R {l:List Nat} (h:∀c∈l,c<256) (p:Nat):bt (ofL l) p=l[p]?:=by
 simp only[bt]
 by_cases hp:p<l.length
 ·have hp':p<(ofL l).size:=by rw[b0p]; exact hp
  rw[getElem?_pos (ofL l) p hp',List.getElem?_eq_getElem hp]
  have:(ofL l)[p]=UInt8.ofNat l[p]:=by
   show (l.map UInt8.ofNat).toArray[p]'(by simpa using hp)=_
   simp
  rw[this]
  simp only[Option.map_some,Option.some.injEq]
  have:=h l[p] (List.getElem_mem hp)
  simp[UInt8.toNat_ofNat',Nat.mod_eq_of_lt this]
 ·rw[List.getElem?_eq_none (by omega),getElem?_neg (ofL l) p (by rw[b0p]; exact hp)]
  rfl
theorem b6S {l:List Nat} (h:∀c∈l,c<256):∀(t:List Nat) (p:Nat),l.drop p=t→Sd (ofL l) p t
 |[],p,_=>trivial
 |c::t,p,e=>by
  have h1:l[p]?=some c:=by
   have:=congrArg List.head? e
   simpa [List.head?_drop] using this
  refine ⟨by rw[b6R h]; exact h1,b6S h t (p+1) ?_⟩
  rw[←List.drop_drop,e]; rfl
theorem b2D {b:Bool} {t:List Nat} (h:∀c∈t,c<256):∀c∈prn b t,c<256:=by
 cases b with
 |false=>exact h
 |true=>
  intro c hc
  simp only[prn,if_true,List.mem_cons,List.mem_append,List.not_mem_nil,or_false] at hc
  rcases hc with rfl|hc|rfl
  ·omega
  ·exact h c hc
  ·omega
theorem b8z:∀s:Fin 32,∀c∈setT s,c<256:=by decide
theorem b5k:∀(l:List Nd),(∀c∈l,∀b∈txt c,b<256)→∀b∈txtj l,b<256
 |[],_,b,hb=>by rw[txtj] at hb; cases hb
 |n::l,h,b,hb=>by
  rw[txtj,List.mem_append] at hb
  rcases hb with hb|hb
  ·exact b2D (h n (by simp)) b hb
  ·exact b5k l (fun c hc=>h c (List.mem_cons_of_mem _ hc)) b hb
theorem b5l:∀(l:List Nd),(∀c∈l,∀b∈txt c,b<256)→∀b∈txtr l,b<256
 |[],_,b,hb=>by rw[txtr] at hb; cases hb
 |n::l,h,b,hb=>by
  rw[txtr,List.mem_cons,List.mem_append] at hb
  rcases hb with rfl|hb|hb
  ·omega
  ·exact b2D (h n (by simp)) b hb
  ·exact b5l l (fun c hc=>h c (List.mem_cons_of_mem _ hc)) b hb
theorem b9k (n:Nd):Gd n→∀b∈txt n,b<256:=by
 refine Nd.ind (p:=fun n=>Gd n→∀b∈txt n,b<256) (fun n ih g b hb=>?_) n
 have one:∀{c:Nd} {t:List Nat},c∈n.kids→(∀x∈t,x<256)→b∈prn (isU c || isJ c) (txt c)++t→b<256:=fun {c t} hc ht hb=>by
  rcases List.mem_append.1 hb with hb|hb
  ·exact b2D (ih c hc (g.kid c hc)) b hb
  ·exact ht b hb
 cases n with
 |set s=>rw[txt] at hb; exact b8z ⟨s,by have:=g.rt.2; omega⟩ b hb
 |emp=>rw[txt] at hb; simp at hb; omega
 |eps=>rw[txt] at hb; simp at hb; omega
 |star c=>rw[txt] at hb; exact one (by simp[Nd.kids]) (by simp) hb
 |plus c=>rw[txt] at hb; exact one (by simp[Nd.kids]) (by simp) hb
 |opt c=>rw[txt] at hb; exact one (by simp[Nd.kids]) (by simp) hb
 |rep x y c=>
  rw[txt] at hb
  obtain ⟨h1,h2⟩:x≤y∧y≤9:=g.rt
  refine one (by simp[Nd.kids]) (fun z hz=>?_) hb
  simp only[List.mem_cons,List.not_mem_nil,or_false] at hz
  omega
 |join l=>rw[txt] at hb; exact b5k l (fun c hc=>ih c hc (g.kid c hc)) b hb
 |uni l=>
  rw[txt] at hb
  cases l with
  |nil=>rw[txtu] at hb; cases hb
  |cons a l=>
   rw[txtu,List.mem_append] at hb
   rcases hb with hb|hb
   ·exact b2D (ih a (by simp[Nd.kids]) (g.kid a (by simp[Nd.kids]))) b hb
   ·exact b5l l (fun c hc=>ih c (by simp[Nd.kids,hc]) (g.kid c (by simp[Nd.kids,hc]))) b hb
theorem b8A {n:Nd} (g:Gd n) (hd:dp n≤30):prs (ofL (txt n)) (cst n+18) 0 .un 0=some (n,(ofL (txt n)).size):=by
 have h1:=b9k n g
 have h2:=(read (S:=ofL (txt n)) n g).2.2 0 0 (by split<;>omega) (b6S h1 _ 0 rfl) (.inl (by rw[b6R h1,Nat.zero_add]; simp)) (cst n+18) (by split<;>omega)
 rw[h2,b0p,Nat.zero_add]
end Go.Gm
namespace Go.Gm.AQ
open Go Go.Gm
mutual
def gdB:Nd→Bool
 |.set s=>decide (1≤s∧s≤31)
 |.emp=>true
 |.eps=>true
 |.join l=>decide (2≤l.length∧l.length≤1000) && gdBs l
 |.uni l=>decide (2≤l.length∧l.length≤1000) && gdBs l
 |.star n=>gdB n
 |.plus n=>gdB n
 |.opt n=>gdB n
 |.rep a b n=>decide (a≤b∧b≤9) && gdB n
def gdBs:List Nd→Bool
 |[]=>true
 |n::l=>gdB n && gdBs l
end
theorem b2e:∀{l:List Nd},gdBs l=true→∀c∈l,gdB c=true
 |[],_,c,hc=>by simp at hc
 |n::l,h,c,hc=>by
  simp only[gdBs,Bool.and_eq_true] at h
  rcases List.mem_cons.1 hc with rfl|hc
  ·exact h.1
  ·exact b2e h.2 c hc
theorem b9l {n:Nd} (g:Gd n) (h:n.kids.length≤1000) (hk:∀c∈n.kids,Bd c):Bd n:=.mk (Nat.lt_trans (st_lt g) (by decide)) h hk
theorem b9m (n:Nd):gdB n=true→Gd n∧Bd n:=by
 refine Nd.ind (p:=fun n=>gdB n=true→Gd n∧Bd n) (fun n ih h=>?_) n
 have key:RtN n→n.kids.length≤1000→(∀c∈n.kids,gdB c=true)→Gd n∧Bd n:=fun h1 h2 h3=>by
  have g:Gd n:=.mk h1 fun c hc=>(ih c hc (h3 c hc)).1
  exact ⟨g,b9l g h2 fun c hc=>(ih c hc (h3 c hc)).2⟩
 cases n with
 |set s=>simp only[gdB,decide_eq_true_eq] at h; exact key h (by simp[Nd.kids]) (by simp[Nd.kids])
 |emp=>exact key trivial (by simp[Nd.kids]) (by simp[Nd.kids])
 |eps=>exact key trivial (by simp[Nd.kids]) (by simp[Nd.kids])
 |join l=>simp only[gdB,Bool.and_eq_true,decide_eq_true_eq] at h; exact key h.1.1 h.1.2 (b2e h.2)
 |uni l=>simp only[gdB,Bool.and_eq_true,decide_eq_true_eq] at h; exact key h.1.1 h.1.2 (b2e h.2)
 |star c=>rw[gdB] at h; exact key trivial (by simp[Nd.kids]) (by simpa [Nd.kids] using h)
 |plus c=>rw[gdB] at h; exact key trivial (by simp[Nd.kids]) (by simpa [Nd.kids] using h)
 |opt c=>rw[gdB] at h; exact key trivial (by simp[Nd.kids]) (by simpa [Nd.kids] using h)
 |rep a b c=>simp only[gdB,Bool.and_eq_true,decide_eq_true_eq] at h; exact key h.1 (by simp[Nd.kids]) (by simpa [Nd.kids] using h.2)
structure Kn where
 n:Nd
 u:Nat
 b:Int
 l:List Nat
 p:List Int
 deriving Inhabited
def kns:List Kn:=[
 ⟨.star (.set 31),3,4,[0,1,3],[0,2,-1,1,-1,2,-1,4]⟩,
 ⟨.star (.set 1),2,2,[0,1],[0,-1,2,-1,1,3,-1,2,4,-1,-1,4]⟩,
 ⟨.star (.set 4),2,5,[2],[0,2,-1,-1,1,-1,-1,2,5,-1,4,-1]⟩,
 ⟨.join [.set 4,.opt (.set 2),.set 16],3,7,[2,3],[0,2,-1,5,-1,-1,1,-1,-1,-1,-1,2,5,-1,-1,-1,4,-1,-1,7]⟩,
 ⟨.join [.set 1,.set 1],2,2,[0,1],[0,-1,2,-1,-1,1,3,-1,-1,-1,4,2,-1,-1,4,-1]⟩,
 ⟨.join [.star (.set 1),.set 16],3,4,[0,1,3],[0,-1,2,-1,-1,1,3,-1,-1,2,4,-1,-1,-1,6,4]⟩,
 ⟨.join [.set 4,.set 16],3,7,[2,3],[0,2,-1,-1,-1,1,-1,-1,-1,2,5,-1,-1,4,-1,7]⟩,
 ⟨.join [.star (.set 31),.set 8],3,11,[0,1,3,5],[0,2,-1,-1,1,-1,-1,2,-1,-1,4,11]⟩,
 ⟨.join [.set 1,.set 1,.set 2,.set 1,.set 1,.set 16],3,6,[0,1,4,0,1,3],[0,-1,4,-1,2,-1,-1,-1,-1,1,5,-1,-1,3,-1,-1,-1,-1,5,2,-1,-1,4,-1,-1,-1,4,-1,-1,-1,-1,6]⟩,
 ⟨.eps,0,0,[],[0,2,-1,1,-1,2,-1,4]⟩,
 ⟨.emp,0,-1,[],[0,2,-1,1,-1,2,-1,4]⟩,
 ⟨.plus (.join [.set 1,.set 1,.set 2]),0,2,[0,1,4],[0,-1,5,-1,2,-1,1,6,-1,-1,-1,-1,5,2,-1,-1,-1,4,-1,-1]⟩,
 ⟨.join [.rep 4 4 (.set 1),.set 16],3,-1,[],[0,-1,2,-1,-1,-1,-1,-1,1,3,-1,-1,-1,-1,-1,-1,4,2,-1,-1,-1,-1,-1,4,-1,-1,-1,-1]⟩,
 ⟨.join [.rep 6 6 (.set 31),.star (.set 16)],3,6,[0,1,4,0,1,3],[0,-1,5,2,10,7,4,6,-1,-1,1,-1,6,3,11,8,5,-1,-1,5,2,10,7,4,12,6,-1,-1,-1,7,4,11,9,6,8,14]⟩]
end Go.Gm.AQ
namespace Go.Gm.AQ
open Go Go.Gm
theorem b5m (es:List E) (v:Int) (l l':List Nat):atV es v (l++l')=atV es (atV es v l) l':=by simp[atV]
theorem b8B (es:List E) (l l':List Nat):atC es (l++l')=atC es l+atC es l':=by
 have:∀(l':List Nat) (c:Int),l'.foldl (fun c e=>c+(eg es e).co) c=c+l'.foldl (fun c e=>c+(eg es e).co) 0:=by
  intro l'
  induction l' with
  |nil=>intro c; simp
  |cons a l' ih=>intro c; rw[List.foldl_cons,List.foldl_cons,ih,ih (0+_)]; omega
 rw[atC,List.foldl_append,this]; rfl
theorem b8C {es:List E} {v:Int} {l l':List Nat} (h:OkW es v l) (h':OkW es (atV es v l) l'):OkW es v (l++l'):=by
 intro i e hi
 by_cases q:i<l.length
 ·rw[List.getElem?_append_left q] at hi
  rw[List.take_append_of_le_length (by omega)]
  exact h i e hi
 ·rw[List.getElem?_append_right (by omega)] at hi
  have:=h' _ e hi
  rw[List.take_append,List.take_of_length_le (by omega),b5m]
  exact this
def ClP (P:List Int→Prop):Prop:=∀w w',(∀m∈w,0≤m∧m<5)→(∀m∈w',0≤m∧m<5)→P w→P w'→P (w++w')
theorem LW.tri {N:Nat} {es:List E} {a b c:Int} {P:List Int→Prop} {x y z:Int} (no:NetOk N es) (hP:ClP P) (hx:LW es a b P x) (hy:LW es b c P y) (hz:LW es a c P z) (x0:0≤x) (y0:0≤y):0≤z∧z≤x+y:=by
 rcases hx.ex with q|⟨_,l,l1,l2,l3,l4⟩
 ·omega
 rcases hy.ex with q|⟨_,k,k1,k2,k3,k4⟩
 ·omega
 have:=hz.le (l++k) (b8C l1 (by rw[l2]; exact k1)) (by rw[b5m,l2,k2]) (by
  rw[show wdOf es (l++k)=wdOf es l++wdOf es k by simp[wdOf]]
  exact hP _ _ (OkW.md no l1) (OkW.md no k1) l3 k3)
 rw[b8B] at this
 omega
theorem LW.self {es:List E} {a:Int} {P:List Int→Prop} {x:Int} (h:LW es a a P x) (h0:P []):x=0:=by
 have:=h.le [] (fun i e hi=>by simp at hi) rfl h0
 have h2:atC es []=0:=rfl
 omega
def simB (D:List (List Int)) (acc:List Bool) (R:List (Nat × Nat)):Bool:=
 gi acc 0 && ((List.range D.length).all (fun s=>!gi acc (s:Int) || R.contains (0,s)) && (R.all (fun p=>!gi acc (p.1:Int) || gi acc (p.2:Int)) &&
  R.all fun p=>(List.range 5).all fun m=>R.any fun q=>decide (nx D (p.1:Int) (m:Int)=(q.1:Int)) && decide (nx D (p.2:Int) (m:Int)=(q.2:Int))))
theorem b8D {D:List (List Int)} {acc:List Bool} {R:List (Nat × Nat)} (ok:DOk D acc) (h:simB D acc R=true):ClP (fun w=>gi acc (goS D 0 w)=true)∧gi acc 0=true:=by
 simp only[simB,Bool.and_eq_true,List.all_eq_true,List.any_eq_true,decide_eq_true_eq,Bool.or_eq_true,Bool.not_eq_true',List.contains_iff_mem] at h
 obtain ⟨h0,h1,h2,h3⟩:=h
 refine ⟨fun w w' hw hw' a a'=>?_,h0⟩
 replace a:gi acc (goS D 0 w)=true:=a
 replace a':gi acc (goS D 0 w')=true:=a'
 have rng:∀(w:List Int),(∀m∈w,0≤m∧m<5)→∀s:Int,0≤s→s<D.length→0≤goS D s w∧goS D s w<D.length:=by
  intro w
  induction w with
  |nil=>intro _ s s0 s1; exact ⟨s0,s1⟩
  |cons m w ih=>
   intro hm s s0 s1
   have hm':=hm m (by simp)
   have:=ok.to s m s0 s1 hm'.1 hm'.2
   exact ih (fun m hm'=>hm m (List.mem_cons_of_mem _ hm')) _ this.1 this.2
 have run:∀(w:List Int),(∀m∈w,0≤m∧m<5)→∀p∈R,∃q∈R,goS D (p.1:Int) w=(q.1:Int)∧goS D (p.2:Int) w=(q.2:Int):=by
  intro w
  induction w with
  |nil=>intro _ p hp; exact ⟨p,hp,rfl,rfl⟩
  |cons m w ih=>
   intro hm p hp
   have hm':=hm m (by simp)
   obtain ⟨q,q1,q2,q3⟩:=h3 p hp m.toNat (by simp; omega)
   rw[show ((m.toNat:Nat):Int)=m by omega] at q2 q3
   obtain ⟨r,r1,r2,r3⟩:=ih (fun m hm'=>hm m (List.mem_cons_of_mem _ hm')) q q1
   exact ⟨r,r1,by show goS D (nx D (p.1:Int) m) w=_; rw[q2]; exact r2,by show goS D (nx D (p.2:Int) m) w=_; rw[q3]; exact r3⟩
 obtain ⟨s0,s1⟩:=rng w hw 0 (Int.le_refl _) (by have:=ok.l0; omega)
 obtain ⟨s,hs⟩:∃s:Nat,goS D 0 w=s:=⟨(goS D 0 w).toNat,by omega⟩
 rw[hs] at a s1
 have hr:(0,s)∈R:=by
  rcases h1 s (by simp; omega) with q|q
  ·rw[q] at a; cases a
  ·exact q
 obtain ⟨q,q1,q2,q3⟩:=run w' hw' (0,s) hr
 have e:goS D 0 (w++w')=goS D (goS D 0 w) w':=by simp[goS]
 show gi acc (goS D 0 (w++w'))=true
 rw[e,hs]
 have q3':goS D (s:Int) w'=(q.2:Int):=q3
 rw[q3']
 have q2':goS D 0 w'=(q.1:Int):=q2
 rw[q2'] at a'
 rcases h2 q q1 with y|y
 ·rw[y] at a'; cases a'
 ·exact y
structure Tn where
 n:Nd
 r:List (Nat × Nat)
 deriving Inhabited
end Go.Gm.AQ
namespace Go.Gm.AQ
open Go Go.Gm
theorem b8E {h:Heap} {o sz:Nat} {css:List (List AV)} {n:Nat} (hr:h[o]?=some (.cells ⟨css.flatten,0,0,false⟩)) (hn:n=css.length) (hl:∀c∈css,c.length=sz):Sl h sz (.sl o 0 n sz none 0) css:=by
 subst hn
 exact .inr ⟨o,0,none,0,_,rfl,hr,Nat.le_refl _,by rw[List.drop_zero,List.take_of_length_le (by rw[Go.Gm.flatten_len hl]; omega)],hl⟩
def kS:List AV:=kns.map fun x=>.str (ofL (txt x.n))
end Go.Gm.AQ
namespace Go.Gm.AQ
open Go Go.Gm
section
variable {h0 h:Heap} {g:AV} {N:Nat} {es:List E} {D:List (List Int)} {acc:List Bool}
theorem b1B {sE sD sA:AV} (no:NetOk N es) (co:COk es) (hn2:N*D.length≤1000000) (hs:Sl h 4 sE (es.map encE)) (ok:DOk D acc) (hD:Sl h 5 sD (D.map encR)) (hA:Sl h 1 sA (acc.map encB)) {v:Nat} (hv:v<N) :
  Tot tab c9_ [.agg [I N,sE],.agg [sD,sA],I v] h fun r h'=>Ext h h'∧∃c,LC (N*D.length) (hopA es D.length (onL es D)) (fun x=>x=v*D.length) c∧(∀x,x<N*D.length→c x≤2147483647000000)∧Gr h.length h'.length h' 1 r ((costL N D.length c acc).map encI):=by
 refine WP.tot (fun k=>(a6b k _ _ _ h).trans (a7c tab k _ _ _ h)) ?_
 have hN:N≤100000:=by have:=no.n1; omega
 obtain ⟨h1,hh1⟩:∃h1,h1=(h++[AObj.cells ⟨[I N,sE],0,0,false⟩])++[AObj.cells ⟨[sD,sA],0,0,false⟩]:=⟨_,rfl⟩
 have e1:Ext h h1:=by rw[hh1]; ((repeat (first|exact Ext.refl _|assumption|apply Ext.app|apply Ext.mk|(refine Ext.setr ?_ (by (first|omega|(simp only[gL]<;>omega))) _))))
 have r0:h1[h.length]?=some (.cells ⟨[I N,sE],0,0,false⟩):=by rw[hh1]; simp
 simp -implicitDefEqProofs (maxSteps:=1000000) (disch:=first|assumption|omega|(simp only[gL]<;>omega)|((repeat (first|exact Ext.refl _|assumption|apply Ext.app|apply Ext.mk|(refine Ext.setr ?_ (by (first|omega|(simp only[gL]<;>omega))) _))); done)|(simp only[gL,gA,hs.one,hs.cells,hD.one,hD.cells,hA.one,hA.cells]<;>omega)|fail) only[gB,setAll,partL,fldV,reduceIte,Nat.reduceAdd,Nat.reduceMul,hs.one,hs.cells,hD.one,hD.cells,hA.one,hA.cells]
 rw[←hh1]
 refine WP.call (b1d no (hs.ext e1) ok (hD.ext e1) (hA.ext e1)) ?_
 rintro g h2 ⟨e2,gv⟩
 obtain ⟨h3,hh3⟩:∃h3,h3=h2++[AObj.cells ⟨[I v,AV.int .i64 0],0,0,false⟩]:=⟨_,rfl⟩
 have e3:Ext h2 h3:=by rw[hh3]; exact Ext.push _ _
 have ha:Sl h3 2 (.sl h2.length 0 1 2 none 0) ([((v:Int),(0:Int))].map encP2):=by
  have:=(Gr.lit (h:=h2) (sz:=2) (v:=[I v,I 0]) rfl).sl
  rw[a8_] at this
  rw[hh3]; exact this
 rw[show AV.int .i64 0=I 0 from rfl] at hh3
 rw[←hh3]
 have gv3:=gv.ext e3
 refine WP.call (b0n (n:=N*D.length) gv3 ok hN rfl hn2 ha (fun a z=>?_) (by simp) (hopA es D.length (onL es D))) ?_
 ·obtain rfl:=List.mem_singleton.1 z
  have:=ok.l0
  exact ⟨by show (0:Int)≤v; omega,by show (v:Int)<N; omega,Int.le_refl _,by show (0:Int)<D.length; omega⟩
 rintro _ h4 ⟨e4,os,q,sc,se,sf,oc,oe,ov,cs,ds,fs,M,rfl,w4,d4,u4⟩
 refine WP.call (b0m e4 (fun o z=>z) gv3 ok co hN rfl hn2 (a6T gv3 ok no) (fun x z=>?_) w4 d4 u4) ?_
 ·obtain rfl:=a7A.1 z
  have:=spotN (S:=D.length) hv ok.l0
  omega
 rintro _ h5 ⟨rfl,f5,id2,k2,ls2,rk2,cs2,ds2,fs2,M2,w5,d5,m5,u5⟩
 have e35:Ext h3 h5:=f5.ext e4 fun o z1 z2=>by omega
 have e05:=((e1.trans e2).trans e3).trans e35
 have r5:=((e2.trans e3).trans e35).get r0
 obtain ⟨s6,h6,a6,g6,e6,_,l6⟩:=q3_ (zero:=[AV.int .i64 0]) (sz:=1) (bytes:=8) (n:=(N:Int)) h5 (by omega) (by omega) (by omega) rfl rfl
 have hre:List.replicate (N:Int).toNat [AV.int .i64 0]=(List.replicate N (0:Int)).map encI:=by simp[encI,I]
 rw[hre] at g6
 simp -implicitDefEqProofs (maxSteps:=1000000) (disch:=first|assumption|omega|(simp only[gL]<;>omega)|((repeat (first|exact Ext.refl _|assumption|apply Ext.app|apply Ext.mk|(refine Ext.setr ?_ (by (first|omega|(simp only[gL]<;>omega))) _))); done)|(simp only[gL,gA,r5,a6,g6.sl.lenG,List.length_replicate]<;>omega)|fail) only[gB,setAll,partL,fldV,reduceIte,Nat.reduceAdd,Nat.reduceMul,r5,a6,g6.sl.lenG,List.length_replicate]
 have hl:=e05.len
 refine WP.ent ((b3Z (W:=fun o=>o<h5.length) (gv3) ok hN rfl hn2 (oo:=h5.length) (by have:=e35.len; omega) (by omega) N 0 h6 _ (by omega) (e35.trans e6) ((w5.mono fun o z1 _=>z1).ext e6) g6 (by simp) fun u hu=>by omega).mono ?_) fun i=>rfl
 rintro r h7 ⟨e7,g7⟩
 have hg:=(a6T gv3 ok no).gok co
 refine ⟨((e1.trans e2).trans e3).trans e7,gf cs2,?_,fun x hx=>?_,(g7.mono (by omega) (Nat.le_refl _)).low _ ?_⟩
 ·have:=DI.lc hg (fun x z=>by obtain rfl:=a7A.1 z; have:=spotN (S:=D.length) hv ok.l0; omega) d5 m5
  intro x hx
  have h8:=this x hx
  have hst:atSt D.length [((v:Int),(0:Int))]=fun x=>x=v*D.length:=by
   funext x; exact propext a7A
  rw[hst] at h8
  exact h8
 ·have u0:=t9_ (N*D.length) (gf cs2)
  by_cases q:0≤gf cs2 x
  ·have:=d5.bnd x hx _ (.inl ⟨q,rfl⟩)
   omega
  ·omega
 ·exact Nat.le_refl _
end
end Go.Gm.AQ
namespace Go.Gm.AQ
open Go Go.Gm
def tns:List Tn:=[⟨.star (.set 31),[(0,0),(0,1),(1,1)]⟩,⟨.star (.set 1),[(0,0),(0,1),(1,1),(2,2)]⟩,⟨.star (.set 3),[(0,0),(0,1),(1,1),(2,2)]⟩,⟨.star (.join [.set 1,.set 2]),[(0,0),(0,3),(1,1),(2,2),(3,3)]⟩,⟨.star (.join [.set 31,.set 31]),[(0,0),(0,2),(1,1),(2,2)]⟩,⟨.star (.set 8),[(0,0),(0,2),(1,1),(2,2)]⟩]
def tnB (x:Tn):Bool:=
 gdB x.n && (decide ((txt x.n).length≤200∧cst x.n+18≤900000∧dp x.n≤30) &&
  match nfaF x.n with
  |none=>false
  |some nf=>match subF nf 200 with
   |none=>false
   |some (D,acc)=>simB D acc x.r)
theorem b9n:tns.all tnB=true:=by decide +kernel
theorem b9o {x:Tn} (h:x∈tns):Gd x.n∧Bd x.n∧((txt x.n).length≤200∧cst x.n+18≤900000∧dp x.n≤30)∧∃nf D acc,nfaF x.n=some nf∧subF nf 200=some (D,acc)∧ClP (fun w=>gi acc (goS D 0 w)=true)∧gi acc 0=true:=by
 have h1:=List.all_eq_true.1 b9n x h
 simp only[tnB,Bool.and_eq_true,decide_eq_true_eq] at h1
 obtain ⟨h2,h3,h5⟩:=h1
 obtain ⟨g,bd⟩:=b9m _ h2
 cases hn:nfaF x.n with
 |none=>rw[hn] at h5; cases h5
 |some nf=>
  rw[hn] at h5
  cases hs:subF nf 200 with
  |none=>simp only[hs] at h5; cases h5
  |some p=>
   obtain ⟨D,acc⟩:=p
   simp only[hs] at h5
   exact ⟨g,bd,h3,nf,D,acc,rfl,hs,b8D (b4p hs) h5⟩
def tS:List AV:=tns.map fun x=>.str (ofL (txt x.n))
theorem tS_eq:[.str ⟨#[46,42]⟩,.str ⟨#[119,42]⟩,.str ⟨#[91,119,98,93,42]⟩,.str ⟨#[40,119,98,41,42]⟩,.str ⟨#[40,46,46,41,42]⟩,.str ⟨#[102,42]⟩]=(tS.map enc1).flatten:=by kernel_rfl
theorem triangle_spec {h:Heap} {size modes which a b c:Int} {ns:AV} {zs:List Int} (hns:Sl h 1 ns (zs.map encI)) :
  Tot tab l0_ [I size,ns,I modes,I which,I a,I b,I c] h fun r _=>r=.bool true:=by
 refine WP.tot (fun k=>(a2B k _ _ _ _ _ _ _ h).trans (a3f tab k _ _ _ _ _ _ _ h)) ?_
 refine WP.call (b5H h) ?_
 rintro _ h1 ⟨rfl,e1⟩
 simp -implicitDefEqProofs (maxSteps:=1000000) (disch:=first|assumption|omega|(simp only[gL]<;>omega)|((repeat (first|exact Ext.refl _|assumption|apply Ext.app|apply Ext.mk|(refine Ext.setr ?_ (by (first|omega|(simp only[gL]<;>omega))) _))); done)|(simp only[gL,gA]<;>omega)|fail) only[gB,setAll,partL,fldV,reduceIte,Nat.reduceAdd,Nat.reduceMul]
 refine WP.call (b6e (hns.ext e1)) ?_
 rintro _ h2 ⟨e2,s,rfl,g2⟩
 have no:=b8I size zs modes
 have co:=b8Q size zs modes
 have hN:=a8v size
 obtain ⟨N,hNN⟩:∃N:Nat,mkN size=N:=⟨(mkN size).toNat,by omega⟩
 rw[hNN] at no hN
 rw[hNN]
 generalize mkE size zs modes=es at no co g2
 have gs:=g2.sl
 simp -implicitDefEqProofs (maxSteps:=1000000) (disch:=first|assumption|omega|(simp only[gL]<;>omega)|((repeat (first|exact Ext.refl _|assumption|apply Ext.app|apply Ext.mk|(refine Ext.setr ?_ (by (first|omega|(simp only[gL]<;>omega))) _))); done)|(simp only[gL,gA,gs.one,gs.cells]<;>omega)|fail) only[gB,setAll,partL,fldV,reduceIte,Nat.reduceAdd,Nat.reduceMul,gs.one,gs.cells]
 rw[tS_eq]
 obtain ⟨h3,hh3⟩:∃h3,h3=List.set (h2++[AObj.cells ⟨[AV.int .i64 0,.nils],0,0,false⟩]) h2.length (AObj.cells ⟨[I N,s],0,0,false⟩)++[AObj.cells ⟨(tS.map enc1).flatten,0,0,false⟩]:=⟨_,rfl⟩
 have e3:Ext h2 h3:=by rw[hh3]; ((repeat (first|exact Ext.refl _|assumption|apply Ext.app|apply Ext.mk|(refine Ext.setr ?_ (by (first|omega|(simp only[gL]<;>omega))) _))))
 have rn:h3[h2.length]?=some (.cells ⟨[I N,s],0,0,false⟩):=by rw[hh3]; simp -implicitDefEqProofs (maxSteps:=1000000) (disch:=first|assumption|omega|(simp only[gL]<;>omega)|((repeat (first|exact Ext.refl _|assumption|apply Ext.app|apply Ext.mk|(refine Ext.setr ?_ (by (first|omega|(simp only[gL]<;>omega))) _))); done)|(simp only[gL,gA]<;>omega)|fail) only[gB,setAll,partL,fldV,reduceIte,Nat.reduceAdd,Nat.reduceMul]
 have rS:h3[h2.length+1]?=some (.cells ⟨(tS.map enc1).flatten,0,0,false⟩):=by rw[hh3]; simp -implicitDefEqProofs (maxSteps:=1000000) (disch:=first|assumption|omega|(simp only[gL]<;>omega)|((repeat (first|exact Ext.refl _|assumption|apply Ext.app|apply Ext.mk|(refine Ext.setr ?_ (by (first|omega|(simp only[gL]<;>omega))) _))); done)|(simp only[gL,gA]<;>omega)|fail) only[gB,setAll,partL,fldV,reduceIte,Nat.reduceAdd,Nat.reduceMul]
 rw[←hh3]
 clear hh3
 have sS:Sl h3 1 (.sl (h2.length+1) 0 6 1 none 0) (tS.map enc1):=b8E rS rfl fun c hc=>by obtain ⟨x,_,rfl⟩:=List.mem_map.1 hc; rfl
 have lS:tS.length=6:=rfl
 refine WP.call (a4V (by omega) (by unfold Fit; omega) _) ?_
 rintro _ _ ⟨rfl,rfl⟩
 obtain ⟨k,hk⟩:∃k:Nat,which % 6=k:=⟨(which % 6).toNat,by omega⟩
 have hk6:k<6:=by omega
 rw[hk]
 obtain ⟨x,hx⟩:∃x,x=tns[k]'hk6:=⟨_,rfl⟩
 have hm:x∈tns:=by rw[hx]; exact List.getElem_mem _
 have gS:gi tS (k:Int)=.str (ofL (txt x.n)):=by rw[f1_ (by omega),hx]; exact List.getElem_map _
 obtain ⟨g,bd,⟨z1,z2,z3⟩,nf,D0,acc0,hnf,hsb,cl0,a00⟩:=b9o hm
 have e0:=Ext.refl h3
 simp -implicitDefEqProofs (maxSteps:=1000000) (disch:=first|assumption|omega|(simp only[gL]<;>omega)|((repeat (first|exact Ext.refl _|assumption|apply Ext.app|apply Ext.mk|(refine Ext.setr ?_ (by (first|omega|(simp only[gL]<;>omega))) _))); done)|(simp only[gL,gA,sS.idxG,sS.ld0,enc1,gS]<;>omega)|fail) only[gB,setAll,partL,fldV,reduceIte,Nat.reduceAdd,Nat.reduceMul,sS.idxG,sS.ld0,enc1,gS]
 refine WP.call (b4q (by rw[b0p]; exact z1) z2 (b8A g z3) g bd h3) ?_
 rintro r h4 ⟨e4,q4⟩
 simp only[CmpQ,hnf,hsb] at q4
 obtain ⟨vv,rfl,D,acc,sN,sA,rfl,gN,gA,ok,hle,hw⟩:=q4
 have o1:=gN.sl.one
 have o2:=gA.sl.one
 have hw1:wrAt 2 (h4++[AObj.cells ⟨[.nils,.nils],0,0,false⟩]) (some (AObj.cells ⟨[.nils,.nils],0,0,false⟩)) h4.length 0 2 0 [sN,sA]=some (h4++[AObj.cells ⟨[sN,sA],0,0,false⟩]):=by
  refine (a5w (n:=2) (off:=0) (hi:=2) (vs:=[sN,sA]) rfl rfl (by omega) (by simp[o1,o2])).trans ?_
  rw[n1_ rfl]
  rfl
 obtain ⟨h5,hh5⟩:∃h5,h5=h4++[AObj.cells ⟨[sN,sA],0,0,false⟩]:=⟨_,rfl⟩
 have e5:Ext h4 h5:=by rw[hh5]; exact Ext.push _ _
 have rd:h5[h4.length]?=some (.cells ⟨[sN,sA],0,0,false⟩):=by rw[hh5]; simp
 have e45:=e4.trans e5
 have rn5:=e45.get rn
 simp -implicitDefEqProofs (maxSteps:=1000000) (disch:=first|assumption|omega|(simp only[gL]<;>omega)|((repeat (first|exact Ext.refl _|assumption|apply Ext.app|apply Ext.mk|(refine Ext.setr ?_ (by (first|omega|(simp only[gL]<;>omega))) _))); done)|(simp only[gL,gA,a6_,hw1]<;>omega)|fail) only[gB,setAll,partL,fldV,reduceIte,Nat.reduceAdd,Nat.reduceMul,a6_,hw1]
 rw[←hh5]
 simp -implicitDefEqProofs (maxSteps:=1000000) (disch:=first|assumption|omega|(simp only[gL]<;>omega)|((repeat (first|exact Ext.refl _|assumption|apply Ext.app|apply Ext.mk|(refine Ext.setr ?_ (by (first|omega|(simp only[gL]<;>omega))) _))); done)|(simp only[gL,gA,rn5,rd]<;>omega)|fail) only[gB,setAll,partL,fldV,reduceIte,Nat.reduceAdd,Nat.reduceMul,rn5,rd]
 refine WP.call (a4V (by omega) (by unfold Fit; omega) _) ?_
 rintro _ _ ⟨rfl,rfl⟩
 simp -implicitDefEqProofs (maxSteps:=1000000) (disch:=first|assumption|omega|(simp only[gL]<;>omega)|((repeat (first|exact Ext.refl _|assumption|apply Ext.app|apply Ext.mk|(refine Ext.setr ?_ (by (first|omega|(simp only[gL]<;>omega))) _))); done)|(simp only[gL,gA,rn5]<;>omega)|fail) only[gB,setAll,partL,fldV,reduceIte,Nat.reduceAdd,Nat.reduceMul,rn5]
 refine WP.call (a4V (by omega) (by unfold Fit; omega) _) ?_
 rintro _ _ ⟨rfl,rfl⟩
 simp -implicitDefEqProofs (maxSteps:=1000000) (disch:=first|assumption|omega|(simp only[gL]<;>omega)|((repeat (first|exact Ext.refl _|assumption|apply Ext.app|apply Ext.mk|(refine Ext.setr ?_ (by (first|omega|(simp only[gL]<;>omega))) _))); done)|(simp only[gL,gA,rn5]<;>omega)|fail) only[gB,setAll,partL,fldV,reduceIte,Nat.reduceAdd,Nat.reduceMul,rn5]
 refine WP.call (a4V (by omega) (by unfold Fit; omega) _) ?_
 rintro _ _ ⟨rfl,rfl⟩
 have within:∀y:Int,∃v:Nat,y % (N:Int)=v∧v<N:=fun y=>by
  have h1:=Int.emod_nonneg y (show (N:Int)≠0 by omega)
  have h2:=Int.emod_lt_of_pos y (show (0:Int)<N by omega)
  exact ⟨(y % (N:Int)).toNat,by omega,by omega⟩
 obtain ⟨va,ha,haN⟩:=within a
 obtain ⟨vb,hb,hbN⟩:=within b
 obtain ⟨vc,hc,hcN⟩:=within c
 rw[ha,hb,hc]
 have hn2:N*D.length≤1000000:=by
  have:=b7z hsb
  have:N*D.length≤12*200:=Nat.mul_le_mul (by omega) (by omega)
  omega
 have hE:=(g2.ext e3).ext e45 |>.sl
 have hD:=gN.sl.ext e5
 have hA:=gA.sl.ext e5
 simp -implicitDefEqProofs (maxSteps:=1000000) (disch:=first|assumption|omega|(simp only[gL]<;>omega)|((repeat (first|exact Ext.refl _|assumption|apply Ext.app|apply Ext.mk|(refine Ext.setr ?_ (by (first|omega|(simp only[gL]<;>omega))) _))); done)|(simp only[gL,gA,rn5,rd]<;>omega)|fail) only[gB,setAll,partL,fldV,reduceIte,Nat.reduceAdd,Nat.reduceMul,rn5,rd]
 refine WP.call (b1B no co hn2 hE ok hD hA haN) ?_
 rintro ra h6 ⟨e6,ca,la,ba,ga⟩
 have rn6:=e6.get rn5
 have rd6:=e6.get rd
 simp -implicitDefEqProofs (maxSteps:=1000000) (disch:=first|assumption|omega|(simp only[gL]<;>omega)|((repeat (first|exact Ext.refl _|assumption|apply Ext.app|apply Ext.mk|(refine Ext.setr ?_ (by (first|omega|(simp only[gL]<;>omega))) _))); done)|(simp only[gL,gA,rn6,rd6]<;>omega)|fail) only[gB,setAll,partL,fldV,reduceIte,Nat.reduceAdd,Nat.reduceMul,rn6,rd6]
 refine WP.call (b1B no co hn2 (hE.ext e6) ok (hD.ext e6) (hA.ext e6) hbN) ?_
 rintro rb h7 ⟨e7,cb,lb,bb,gb⟩
 have rn7:=e7.get rn6
 have xa:=(ga.ext e7).sl
 have xb:=gb.sl
 have hla:=b1e N D.length ca acc
 have hlb:=b1e N D.length cb acc
 have hgaa:=a5H (S:=D.length) (c:=ca) (acc:=acc) haN
 have hgab:=a5H (S:=D.length) (c:=ca) (acc:=acc) hbN
 have hgac:=a5H (S:=D.length) (c:=ca) (acc:=acc) hcN
 have hgbb:=a5H (S:=D.length) (c:=cb) (acc:=acc) hbN
 have hgbc:=a5H (S:=D.length) (c:=cb) (acc:=acc) hcN
 have waa:=bv_lw ok no haN haN la
 have wab:=bv_lw ok no haN hbN la
 have wac:=bv_lw ok no haN hcN la
 have wbb:=bv_lw ok no hbN hbN lb
 have wbc:=bv_lw ok no hbN hcN lb
 have bd':∀{c:Nat→Int} {v:Nat},v<N→(∀x,x<N*D.length→c x≤2147483647000000)→bv c acc (v*D.length) D.length≤2147483647000000:=fun {c v} hv hc=>by
  have:∀n,n≤D.length→bv c acc (v*D.length) n≤2147483647000000:=by
   intro n
   induction n with
   |zero=>intro _; rw[bv]; omega
   |succ n ih=>
    intro hn
    rw[bv]
    split
    ·exact hc _ (spotN hv (by omega))
    ·exact ih (by omega)
  exact this _ (Nat.le_refl _)
 have bab:=bd' hbN ba
 have bbc:=bd' hcN bb
 have cl:ClP (fun w=>gi acc (goS D 0 w)=true):=fun w w' r1 r2 p1 p2=>by
  have r12:∀m∈w++w',0≤m∧m<5:=fun m hm=>by
   rcases List.mem_append.1 hm with hm|hm
   ·exact r1 m hm
   ·exact r2 m hm
  show gi acc (goS D 0 (w++w'))=true
  rw[←hw _ r12]
  exact cl0 w w' r1 r2 ((hw _ r1).trans p1) ((hw _ r2).trans p2)
 have a0:gi acc (goS D 0 [])=true:=by rw[←hw [] (by simp)]; exact a00
 have saa:=waa.self a0
 have sbb:=wbb.self a0
 have tri:=LW.tri no cl wab wbc wac
 rw[saa] at hgaa
 rw[sbb] at hgbb
 generalize bv ca acc (vb*D.length) D.length=xab at *
 generalize bv ca acc (vc*D.length) D.length=xac at *
 generalize bv cb acc (vc*D.length) D.length=xbc at *
 have e07:=Ext.refl h7
 simp -implicitDefEqProofs (maxSteps:=1000000) (disch:=first|assumption|omega|(simp only[gL]<;>omega)|((repeat (first|exact Ext.refl _|assumption|apply Ext.app|apply Ext.mk|(refine Ext.setr ?_ (by (first|omega|(simp only[gL]<;>omega))) _))); done)|(simp only[gL,gA,xa.lenG,hla,rn7,xb.lenG,hlb,xa.idxG,xa.ld0,hgaa,encI,xb.idxG,xb.ld0,hgbb,hgab]<;>omega)|fail) only[gB,setAll,partL,fldV,reduceIte,Nat.reduceAdd,Nat.reduceMul,xa.lenG,hla,rn7,xb.lenG,hlb,xa.idxG,xa.ld0,hgaa,encI,xb.idxG,xb.ld0,hgbb,hgab]
 by_cases q1:xab<0
 ·simp -implicitDefEqProofs (maxSteps:=1000000) (disch:=first|assumption|omega|(simp only[gL]<;>omega)|((repeat (first|exact Ext.refl _|assumption|apply Ext.app|apply Ext.mk|(refine Ext.setr ?_ (by (first|omega|(simp only[gL]<;>omega))) _))); done)|(simp only[gL,gA]<;>omega)|fail) only[gB,setAll,partL,fldV,reduceIte,Nat.reduceAdd,Nat.reduceMul]
  exact WP.ret rfl
 ·by_cases q2:xbc<0
  ·simp -implicitDefEqProofs (maxSteps:=1000000) (disch:=first|assumption|omega|(simp only[gL]<;>omega)|((repeat (first|exact Ext.refl _|assumption|apply Ext.app|apply Ext.mk|(refine Ext.setr ?_ (by (first|omega|(simp only[gL]<;>omega))) _))); done)|(simp only[gL,gA,xb.idxG,xb.ld0,hgbc,encI,hlb]<;>omega)|fail) only[gB,setAll,partL,fldV,reduceIte,Nat.reduceAdd,Nat.reduceMul,xb.idxG,xb.ld0,hgbc,encI,hlb]
   exact WP.ret rfl
  ·obtain ⟨t1,t2⟩:=tri (by omega) (by omega)
   simp -implicitDefEqProofs (maxSteps:=1000000) (disch:=first|assumption|omega|(simp only[gL]<;>omega)|((repeat (first|exact Ext.refl _|assumption|apply Ext.app|apply Ext.mk|(refine Ext.setr ?_ (by (first|omega|(simp only[gL]<;>omega))) _))); done)|(simp only[gL,gA,xb.idxG,xb.ld0,hgbc,encI,hlb,xa.idxG,xa.ld0,hgac,hgab,hla]<;>omega)|fail) only[gB,setAll,partL,fldV,reduceIte,Nat.reduceAdd,Nat.reduceMul,xb.idxG,xb.ld0,hgbc,encI,hlb,xa.idxG,xa.ld0,hgac,hgab,hla]
   exact WP.ret rfl
end Go.Gm.AQ
namespace Go.Gm
open Go.RowKit
def roObj (cs:List AV):AObj:=.cells ⟨cs,0,0,true⟩
def initH (L:List (List AV × Option Loc)):Heap:=L.map fun p=>roObj p.1
def initR (L:List (List AV × Option Loc)):Ren:=⟨fun o g=>if g=0 then (L[o]?).bind (·.2) else none,fun _=>none⟩
def EntOk (W:World) (φ:Ren) (p:List AV × Option Loc):Prop:=∀l,p.2=some l→∃C e fr,W.heap[l.b]?=some (.cells C e fr)∧C.size=l.N∧l.n=p.1.length∧CellsAt φ p.1 l C
theorem initS {W:World} {L:List (List AV × Option Loc)} (hL:∀p∈L,EntOk W (initR L) p) :
  S W.heap.size W (initR L) (initH L) W:=by
 have got:∀o g l,(initR L).c o g=some l→g=0∧∃cs,L[o]?=some (cs,some l):=fun o g l h=>by
  simp only[initR] at h
  split at h
  ·rename_i hg
   cases hq:L[o]? with
   |none=>rw[hq] at h; cases h
   |some p=>rw[hq] at h; exact ⟨hg,p.1,by rw[←(show p.2=some l from h)]⟩
  ·cases h
 have ro:∀o g l,(initR L).c o g=some l→isRo (initH L) o=true:=fun o g l h=>by
  obtain ⟨_,cs,hq⟩:=got o g l h
  simp[isRo,initH,hq,roObj]
 refine ⟨⟨fun o g l h=>?_,fun o b h=>(by cases h),fun o g l o' g' l' h h' _=>.inr ⟨ro o g l h,ro o' g' l' h'⟩,fun o b o' b' h=>(by cases h)⟩,Below.refl _ _,Nat.le_refl _⟩
 obtain ⟨hg,cs,hq⟩:=got o g l h
 subst hg
 obtain ⟨C,e,fr,h1,h2,h3,h4⟩:=hL _ (List.mem_of_getElem? hq) l rfl
 exact ⟨⟨cs,0,0,true⟩,by simp[initH,hq,roObj],Nat.le_refl _,Nat.le_refl _,⟨C,e,fr,h1,h2,fun q=>(by cases q),fun _=>h4⟩,fun _=>h3⟩
theorem entry {P:Program} {T:Tab} (hv:Valid P T) {W:World} {L:List (List AV × Option Loc)} (hL:∀p∈L,EntOk W (initR L) p)
  {f:FuncId} {args:List AV} {args':List Value} (ha:VRs (initR L) args args') {Q:AV→Heap→Prop} (ht:Tot T f args (initH L) Q) (hq:∀v h,Q v h→v=.bool true) :
  Calls P f args'.toArray W fun e w'=>e=.returned (.bool true)∧Below W.heap.size W w':=by
 obtain ⟨v,h',h1,N,hN⟩:=ht
 have hv1:=hq v h' h1
 subst hv1
 obtain ⟨_,h2⟩:=fnSim (B:=W.heap.size) (w0:=W) hv N f args (initH L) _ _ (hN N (Nat.le_refl N))
 refine (h2 _ W args' ha (initS hL)).mono ?_
 rintro e w' ⟨ψ,v',rfl,k1,k2,k3⟩
 cases k1
 exact ⟨rfl,k2.below⟩
theorem intsArg {W:World} {a:Addr} {len cap:Nat} {zs:List Int} (hl:len≤cap) (hm:cap≤maxLen) (hz:zs.length=cap) (hc:∀i,i<zs.length→W.cell? (a.add i)=some (.int .i64 (zs.getD i 0))) (o:Nat) :
  ∃(p:List AV × Option Loc) (x:AV),(∀φ,EntOk W φ p)∧∀L:List (List AV × Option Loc),L[o]?=some p→VR (initR L) x (.slice (some a) len cap)∧Sl (initH L) 1 x ((zs.take len).map fun n=>[I n]):=by
 by_cases h0:0<zs.length
 ·obtain ⟨b,off,rfl,hcell⟩:=Go.ints_at hc h0
  have h1:=hcell 0 h0
  obtain ⟨C,e,fr,hb,hC⟩:∃C e fr,W.heap[b]?=some (.cells C e fr)∧∀j,j<zs.length→C[off+j]?=some (.int .i64 (zs.getD j 0)):=by
   simp only[World.cell?] at h1
   cases hh:W.heap[b]? with
   |none=>rw[hh] at h1; cases h1
   |some ob=>
    cases ob with
    |cells C e fr=>
     refine ⟨C,e,fr,rfl,fun j hj=>?_⟩
     have:=hcell j hj
     simpa [World.cell?,hh] using this
    |_=>rw[hh] at h1; cases h1
  have hN:off+cap≤C.size:=by
   have:=(Array.getElem?_eq_some_iff.1 (hC (zs.length-1) (by omega))).1
   omega
  refine ⟨(zs.map I,some ⟨b,off,C.size,cap⟩),.sl o 0 len 1 (some cap) 0,fun φ l hl'=>?_,fun L hL=>⟨?_,?_⟩⟩
  ·injection hl' with hl'
   subst hl'
   refine ⟨C,e,fr,hb,rfl,by simp[hz],by simp[hz],hN,fun i hi=>?_⟩
   refine ⟨I (zs.getD i 0),_,?_,hC i (by simpa [hz] using hi),.int _ _,rfl⟩
   simp only at hi
   simp[List.getD_eq_getElem?_getD,hz,hi]
  ·refine VR.sl (l:=⟨b,off,C.size,cap⟩) ?_ (by simp; exact hl) hl hm (by simp; exact hN) (fun c q=>by injection q)
   simp[initR,hL]
  ·refine .inr ⟨o,0,some cap,0,⟨zs.map I,0,0,true⟩,?_,?_,Nat.le_refl _,?_,?_⟩
   ·simp[hz,Nat.min_eq_left hl]
   ·simp[initH,hL,roObj]
   ·simp only[List.drop_zero,List.length_map,Nat.mul_one]
    rw[List.length_take,hz,Nat.min_eq_left hl,←List.map_take]
    generalize zs.take len=ys
    induction ys with
    |nil=>rfl
    |cons y ys ih=>simp[ih]
   ·intro x hx
    simp only[List.mem_map] at hx
    obtain ⟨n,_,rfl⟩:=hx
    rfl
 ·have hz0:zs=[]:=List.eq_nil_of_length_eq_zero (by omega)
  subst hz0
  simp only[List.length_nil] at hz
  subst hz
  obtain rfl:len=0:=by omega
  refine ⟨([],none),.sl o 0 0 1 (some 0) 0,fun φ l q=>(by cases q),fun L hL=>⟨.sl0 (fun q=>by cases q) (fun c q=>by injection q with q; exact q.symm),?_⟩⟩
  exact .inr ⟨o,0,some 0,0,⟨[],0,0,true⟩,rfl,by simp[initH,hL,roObj],Nat.le_refl _,rfl,fun x hx=>by simp at hx⟩
theorem rowArg {W:World} {a:Option Addr} {len cap:Nat} {zs:List Int}
  (w:(a=none∧len=0∧cap=0∧zs=[])∨∃x,a=some x∧len≤cap∧cap≤maxLen∧zs.length=cap∧(∀i,i<zs.length→W.cell? (x.add i)=some (.int .i64 (zs.getD i 0)))∧∀n∈zs,(Lit.int .i64 n).wf=true) (o:Nat) :
  ∃(p:List AV × Option Loc) (x:AV),(∀φ,EntOk W φ p)∧∀L:List (List AV × Option Loc),L[o]?=some p→VR (initR L) x (.slice a len cap)∧Sl (initH L) 1 x ((zs.take len).map fun n=>[I n]):=by
 rcases w with ⟨rfl,rfl,rfl,rfl⟩|⟨x,rfl,h1,h2,h3,h4,_⟩
 ·exact ⟨([],none),.nils,fun φ l q=>(by cases q),fun L hL=>⟨.nils,.inl ⟨rfl,rfl⟩⟩⟩
 ·exact intsArg h1 h2 h3 h4 o
end Go.Gm
namespace Go.Gm
inductive Rw where
 |mk (k n:Int) (l:List Rw)
 deriving Inhabited
def Rw.kids:Rw→List Rw
 |.mk _ _ l=>l
theorem Rw.kid_lt {c r:Rw} (h:c∈r.kids):SizeOf.sizeOf c<SizeOf.sizeOf r:=by
 cases r with
 |mk k n l=>have:=List.sizeOf_lt_of_mem (show c∈l from h); simp only[Rw.mk.sizeOf_spec]; omega
theorem Rw.ind {p:Rw→Prop} (h:∀r,(∀c∈r.kids,p c)→p r) (r:Rw):p r:=by
 have:∀(N:Nat) (r:Rw),SizeOf.sizeOf r≤N→p r:=by
  intro N
  induction N with
  |zero=>intro r hr; exact h r fun c hc=>by have:=Rw.kid_lt hc; omega
  |succ N ih=>intro r hr; exact h r fun c hc=>ih c (by have:=Rw.kid_lt hc; omega)
 exact this _ r (Nat.le_refl _)
mutual
inductive RV (h:Heap):Rw→List AV→Prop
 |mk {k n:Int} {l:List Rw} {s:AV} {css:List (List AV)}:Sl h 3 s css→RVs h l css→RV h (.mk k n l) [I k,I n,s]
inductive RVs (h:Heap):List Rw→List (List AV)→Prop
 |nil:RVs h [] []
 |cons {r:Rw} {cs:List AV} {l:List Rw} {css:List (List AV)}:RV h r cs→RVs h l css→RVs h (r::l) (cs::css)
end
mutual
theorem RV.ext {h h':Heap} (e:Ext h h'):∀{r:Rw} {cs:List AV},RV h r cs→RV h' r cs
 |_,_,.mk a b=>.mk (a.ext e) (RVs.ext e b)
theorem RVs.ext {h h':Heap} (e:Ext h h'):∀{l:List Rw} {css:List (List AV)},RVs h l css→RVs h' l css
 |_,_,.nil=>.nil
 |_,_,.cons a b=>.cons (RV.ext e a) (RVs.ext e b)
end
theorem RVs.len {h:Heap}:∀{l:List Rw} {css:List (List AV)},RVs h l css→l.length=css.length
 |_,_,.nil=>rfl
 |_,_,.cons _ b=>by simp[RVs.len b]
theorem RVs.get {h:Heap}:∀{l:List Rw} {css:List (List AV)},RVs h l css→∀{i:Nat} {r:Rw},l[i]?=some r→∃cs,css[i]?=some cs∧RV h r cs
 |_,_,.nil,i,r,q=>by simp at q
 |_,_,.cons a b,0,r,q=>by
  simp only[List.getElem?_cons_zero,Option.some.injEq] at q
  subst q; exact ⟨_,rfl,a⟩
 |_,_,.cons a b,i+1,r,q=>by
  obtain ⟨cs,h1,h2⟩:=RVs.get b (i:=i) (by simpa using q)
  exact ⟨cs,by simpa using h1,h2⟩
theorem RV.len {h:Heap} {r:Rw} {cs:List AV} (a:RV h r cs):cs.length=3:=by cases a; rfl
theorem RV.one {h:Heap} {r:Rw} {cs:List AV} (a:RV h r cs):cs.all AV.one=true:=by
 cases a with
 |mk a b=>simp only[List.all_cons,List.all_nil,a6S,a.one,Bool.and_self]
end Go.Gm
namespace Go.Gm
structure RawTy (P:Program) (T E I3:TypeId):Prop where
 t:P.underlying T=some (.slice E)
 e:∃f0 f1 f2:Field,P.underlying E=some (.struct #[f0,f1,f2])∧f0.type=I3∧f0.offset=0∧f1.type=I3∧f1.offset=1∧f2.type=T∧f2.offset=2
 i:P.underlying I3=some (.int .i64)
 ce:P.cellsOf E=3
 ci:P.cellsOf I3=1
 ct:P.cellsOf T=1
def Emb (F:List (List AV × Option Loc)) (o:Nat) (L:List (List AV × Option Loc)):Prop:=∀(i:Nat) p,F[i]?=some p→L[o+i]?=some p
theorem Emb.head {p:List AV × Option Loc} {F L:List (List AV × Option Loc)} {o:Nat} (e:Emb (p::F) o L):L[o]?=some p:=e 0 p rfl
theorem Emb.tail {p:List AV × Option Loc} {F L:List (List AV × Option Loc)} {o:Nat} (e:Emb (p::F) o L):Emb F (o+1) L:=fun i q h=>by
 have:=e (i+1) q (by simpa using h)
 rwa [show o+(i+1)=o+1+i by omega] at this
theorem Emb.left {F G L:List (List AV × Option Loc)} {o:Nat} (e:Emb (F++G) o L):Emb F o L:=fun i q h=>e i q (by rw[List.getElem?_append_left (List.getElem?_eq_some_iff.1 h).1]; exact h)
theorem Emb.right {F G L:List (List AV × Option Loc)} {o:Nat} (e:Emb (F++G) o L):Emb G (o+F.length) L:=fun i q h=>by
 have:=e (F.length+i) q (by rw[List.getElem?_append_right (by omega),Nat.add_sub_cancel_left]; exact h)
 rwa [show o+(F.length+i)=o+F.length+i by omega] at this
section
variable {H:Type} {enc:TypeId × Value→H} {P:Program} {T E I3:TypeId} {W:World}
theorem RVs.snoc {h:Heap} {r:Rw} {cs:List AV} (a:RV h r cs):∀{l:List Rw} {css:List (List AV)},RVs h l css→RVs h (l++[r]) (css++[cs])
 |_,_,.nil=>.cons a .nil
 |_,_,.cons x y=>.cons x (RVs.snoc a y)
end
end Go.Gm
