/- A part of the proof (GmAQja, GmAQka, GmNf, GmNz, GmAQnf, GmAQnp, GmAQnq, GmAQnr, GmAQns, GmWd, GmLg). -/
import Derived.Test.YtldnkafmanalmaaProductMoreP4
set_option linter.unusedVariables false
set_option linter.unusedSimpArgs false
set_option linter.unusedSectionVars false
namespace Go.Gm.AQ
open Go Go.Gm
theorem q6_ {a n:Int}(hn:0<n)(hf:Fit n)(h:Heap):Tot tab b9_ [I a,I n] h fun v h'=>v=I (a % n)/\h=h':=by
 refine WP.tot (fun k=>a2O k _ _ h) ?_
 refine WP.oa (a4D a n (by omega)) ?_
 refine WP.oa (a3v _ _) ?_
 have hlt:=Int.tmod_lt_of_pos a hn
 have hgt:=Int.lt_tmod_of_pos a hn
 have h1:=Int.tmod_eq_emod (a:=a) (b:=n)
 have h2:=Int.emod_nonneg a (by omega:n≠0)
 have h3:=Int.emod_lt_of_pos a hn
 by_cases h0:a.tmod n<0
 ·simp only[decide_eq_true h0,cond2_true]
  refine WP.oa (a4C _ _ (by unfold Fit at *; omega)) (WP.ret ⟨?_,rfl⟩)
  congr 1
  split at h1<;>omega
 ·simp only[decide_eq_false h0,cond2_false]
  refine WP.ret ⟨?_,rfl⟩
  congr 1
  split at h1<;>omega
theorem a7f {α:Type}[Inhabited α]{xs:List α}{i:Nat}{x:α}(h:xs[i]?=some x):gi xs (i:Int)=x:=by
 simp[gi,List.getD_eq_getElem?_getD,h]
def szF:Nat->List Rw->Int
 |0,_=>1000
 |d+1,rs=>rs.foldl (fun n r=>if n<=14 then n+1+szF d r.kids else n) 0
def szAdd (d:Nat)(n:Int)(rs:List Rw):Int:=rs.foldl (fun n r=>if n<=14 then n+1+szF d r.kids else n) n
theorem a4a (d:Nat):∀(rs:List Rw) {n:Int},¬n<=14->szAdd d n rs=n
 |[],n,_=>rfl
 |r::rs,n,h=>by
  show szAdd d (if n<=14 then _ else n) rs=n
  rw[if_neg h]; exact a4a d rs h
theorem a7g:∀(d:Nat) (rs:List Rw),0<=szF d rs/\szF d rs<=1000+15*d
 |0,rs=>by simp[szF]
 |d+1,rs=>by
  have:∀(rs:List Rw) (n:Int),0<=n->n<=1000+15*(d+1)->0<=szAdd d n rs/\szAdd d n rs<=1000+15*(d+1):=by
   intro rs
   induction rs with
   |nil=>intro n h1 h2; exact ⟨h1,h2⟩
   |cons r rs ih=>
    intro n h1 h2
    show 0<=szAdd d (if n<=14 then n+1+szF d r.kids else n) rs/\szAdd d (if n<=14 then n+1+szF d r.kids else n) rs<=_
    have:=a7g d r.kids
    split
    ·exact ih _ (by omega) (by omega)
    ·exact ih _ h1 h2
  have:=this rs 0 (by omega) (by omega)
  exact ⟨this.1,by have:=this.2; simp only[szAdd] at this; simp only[szF]; omega⟩
theorem a9Z:∀(d:Nat),d<=7->∀(rs:List Rw) (s:AV) (css:List (List AV)) (h:Heap),Sl h 3 s css->RVs h rs css->
  Tot tab j8_ [s,I (7-(d:Int))] h fun r h'=>r=I (szF d rs)/\h'=h:=by
 intro d
 induction d with
 |zero=>
  intro _ rs s css h hs hr
  refine WP.tot (fun k=>a0G k _ _ h) ?_
  simp -implicitDefEqProofs (disch:=first|assumption|omega|(simp only[gL,gA]<;>omega)|fail) only[gC,reduceIte]
  exact WP.ret ⟨rfl,rfl⟩
 |succ d ihd=>
  intro hd rs s css h hs hr
  refine WP.tot (fun k=>a0G k _ _ h) ?_
  simp -implicitDefEqProofs (disch:=first|assumption|omega|(simp only[gL,gA]<;>omega)|fail) only[gC,reduceIte]
  have hs':Sl h 3 s (css.map fun x=>x):=by rw[List.map_id']; exact hs
  have hlen:=hr.len
  have loop:∀(e i:Nat) (n:Int),i+e=rs.length->(i:Int)<=n->n<=2000->szAdd d n (rs.drop i)=szF (d+1) rs->WP (fun p:Nat × Nat=>n4_ p.1 p.2 s (I (7-((d+1:Nat):Int))) (I n) (I i) h) fun r h'=>r=I (szF (d+1) rs)/\h'=h:=by
   intro e
   induction e with
   |zero=>
    intro i n h1 h2 h3 h4
    refine WP.rnd (fun i' j=>z0_ i' j s (I (7-((d+1:Nat):Int))) (I n) (I i) h) ?_
    simp -implicitDefEqProofs (disch:=first|assumption|omega|(simp only[gL,gA]<;>omega)|fail) only[gC,reduceIte,hs'.lenG]
    rw[List.drop_of_length_le (by omega)] at h4
    exact WP.lv (WP.ret ⟨by rw[<-h4]; rfl,rfl⟩) fun i j=>rfl
   |succ e ih=>
    intro i n h1 h2 h3 h4
    refine WP.rnd (fun i' j=>z0_ i' j s (I (7-((d+1:Nat):Int))) (I n) (I i) h) ?_
    by_cases hn:n<=14
    ·have hil:i<rs.length:=by omega
     have hdr:rs.drop i=rs[i]::rs.drop (i+1):=List.drop_eq_getElem_cons hil
     obtain ⟨r,hr2⟩:∃r,rs[i]=r:=⟨_,rfl⟩
     rw[hr2] at hdr
     have hri:rs[i]?=some r:=by rw[List.getElem?_eq_getElem hil,hr2]
     obtain ⟨cs,hcs,rv⟩:=hr.get hri
     have hg:gi css (i:Int)=cs:=a7f hcs
     have e0:=Ext.refl h
     rw[hdr] at h4
     cases rv with
     |@mk k m l s2 css2 sl2 rv2=>
     simp -implicitDefEqProofs (disch:=first|assumption|omega|exact Ext.refl _|(simp only[gL,gA]<;>omega)|fail) only[gC,reduceIte,hs'.lenG,hs'.idxG,hs'.ldf,hg]
     have:=ihd (by omega) l s2 css2 h sl2 rv2
     rw[show (7:Int)-(d:Int)=7-((d+1:Nat):Int)+1 by omega] at this
     refine WP.call this ?_
     rintro _ _ ⟨rfl,rfl⟩
     have hrg:=a7g d l
     simp -implicitDefEqProofs (disch:=first|assumption|omega|(simp only[gL,gA]<;>omega)|fail) only[gC,reduceIte]
     refine ih (i+1) (n+1+szF d l) (by omega) (by omega) (by omega) ?_
     rw[<-h4]
     show _=szAdd d (if n<=14 then n+1+szF d l else n) _
     rw[if_pos hn]
    ·simp -implicitDefEqProofs (disch:=first|assumption|omega|(simp only[gL,gA]<;>omega)|fail) only[gC,reduceIte,hs'.lenG]
     rw[a4a d _ hn] at h4
     exact WP.lv (WP.ret ⟨by rw[<-h4],rfl⟩) fun i j=>rfl
  rw[show AV.int .i64 0=I ((0:Nat):Int) from rfl]
  exact WP.ent (loop rs.length 0 0 (by omega) (by omega) (by omega) rfl) fun i=>rfl
abbrev wr (n:Int):Int:=IntKind.i64.wrap n
theorem b0a (a b:Int):binV .add .scalar (I a) (I b)=some (I (wr (a+b))):=rfl
def sgn (n:Int):Nd:=.set (2 ^ (n % 5).toNat)
def ptN (n:Int)(ls:List Nd)(i:Nat):Nd:=ls.getD i (sgn (wr (n+i)))
def ptsN (n:Int)(ls:List Nd):List Nd:=(List.range (max 2 (min ls.length 4))).map (ptN n ls)
def mkOf (k n:Int)(ls:List Nd):Nd:=
 match (k % 14).toNat with
 |0|1=>.set (1+(n % 31).toNat)
 |2|3=>sgn n
 |4=>if n % 3=0 then .emp else .eps
 |5|6|7=>.join (ptsN n ls)
 |8|9=>.uni (ptsN n ls)
 |10=>.star (ptN n ls 0)
 |11=>.plus (ptN n ls 0)
 |12=>.opt (ptN n ls 0)
 |_=>.rep (n % 4).toNat ((n % 4).toNat+(wr (n.tdiv 4) % 3).toNat) (ptN n ls 0)
mutual
def mkX:Rw->Nd
 |.mk k n l=>mkOf k n (mkXs l)
def mkXs:List Rw->List Nd
 |[]=>[]
 |r::l=>mkX r::mkXs l
end
theorem a0E:∀l:List Rw,mkXs l=l.map mkX
 |[]=>rfl
 |r::l=>by rw[mkXs,a0E l]; rfl
abbrev NewN (h:Heap)(n:Nd)(v:AV)(h':Heap):Prop:=Ext h h'/\∃c5,v=.agg c5/\NVD h' (fun o=>h.length<=o/\o<h'.length) n c5
def MakeS (r:Rw):Prop:=∀(c3:List AV) (h:Heap),RV h r c3->Tot tab b0_ [.agg c3] h (NewN h (mkX r))
structure RA (h:Heap) (p:AV) (k n:Int) (l:List Rw) (s:AV) (css:List (List AV)):Prop where
 at_:At h p [I k,I n,s]
 sl:Sl h 3 s css
 rv:RVs h l css
theorem RA.ext {h h':Heap}{p:AV}{k n:Int}{l:List Rw}{s:AV}{css:List (List AV)}(a:RA h p k n l s css)(e:Ext h h'):RA h' p k n l s css:=⟨a.at_.ext e,a.sl.ext e,a.rv.ext e⟩
theorem u6_ {k n:Int}{l:List Rw}(hS:∀c∈l,MakeS c)(c3:List AV){h:Heap}(rv:RV h (.mk k n l) c3){i:Nat}(hi:i<=1000) :
  Tot tab c1_ [.agg c3,I i] h (NewN h (ptN n (mkXs l) i)):=by
 refine WP.tot (fun k'=>a2g k' _ _ h) ?_
 cases rv with
 |@mk _ _ _ s css sl rv=>
 have hso:=sl.one
 obtain ⟨h1,hh1⟩:∃h1,h1=(h++[AObj.cells ⟨[I k,I n,s],0,0,false⟩])++[AObj.cells ⟨[I 0,I 0,I 0,I 0,.nils],0,0,false⟩]:=⟨_,rfl⟩
 have e1:Ext h h1:=by rw[hh1]; ((repeat (first|exact Ext.refl _|assumption|apply Ext.app|apply Ext.mk|(refine Ext.setr ?_ (by (first|omega|(simp only[gL]<;>omega))) _))))
 have hl1:h1.length=h.length+2:=by rw[hh1]; simp
 have hx0:h1[h.length]?=some (.cells ⟨[I k,I n,s],0,0,false⟩):=by rw[hh1]; simp
 have hx1:h1[h.length+1]?=some (.cells ⟨[I 0,I 0,I 0,I 0,.nils],0,0,false⟩):=by rw[hh1]; simp
 have sl':Sl h1 3 s (css.map fun x=>x):=by rw[List.map_id']; exact sl.ext e1
 have hlen:=rv.len
 simp -implicitDefEqProofs (disch:=first|assumption|omega|(simp only[gL,gA]<;>omega)|fail) only[gC,reduceIte,hso]
 rw[<-hh1]
 simp -implicitDefEqProofs (disch:=first|assumption|omega|(simp only[gL,gA]<;>omega)|fail) only[gC,reduceIte,hx0,sl'.lenG]
 have fin:∀{n':Nd} {c5:List AV} {H:Heap} (e:Ext h1 H) (nv:NVD H (fun o=>h1.length<=o/\o<H.length) n' c5),NewN h n' (.agg c5) (H.set (h.length+1) (.cells ⟨c5,0,0,false⟩)):=by
  intro n' c5 H e nv
  have:=e.len
  refine ⟨(e1.trans e).set (by omega) _,c5,rfl,nv.frs (FrS.set1 H (h.length+1) _) (fun o h1 h2 h3=>by omega) fun o h1 h2=>⟨by omega,by simp; exact h2.2⟩⟩
 by_cases hil:i<l.length
 ·obtain ⟨r,hr⟩:∃r,l[i]?=some r:=⟨_,List.getElem?_eq_getElem hil⟩
  obtain ⟨cs,hcs,rvr⟩:=rv.get hr
  have hg:gi css (i:Int)=cs:=a7f hcs
  have e0:=Ext.refl h1
  simp -implicitDefEqProofs (disch:=first|assumption|omega|exact Ext.refl _|(simp only[gL,gA]<;>omega)|fail) only[gC,reduceIte,hx0,sl'.idxG,sl'.ldN,hg]
  refine WP.call (hS r (List.mem_of_getElem? hr) cs h1 (rvr.ext e1)) ?_
  rintro _ H ⟨e2,c5,rfl,nv⟩
  have hx2:=e2.get hx1
  obtain ⟨s5,rfl,ho5⟩:=nv.inv
  have hHl:=e2.len
  simp -implicitDefEqProofs (disch:=first|assumption|omega|(simp only[gL,gA]<;>omega)|fail) only[gC,reduceIte,hx2,ho5]
  have hp:mkX r=ptN n (mkXs l) i:=by simp[ptN,a0E,List.getD_eq_getElem?_getD,hr]
  rw[<-hp]
  exact WP.ret (fin e2 nv)
 ·simp -implicitDefEqProofs (disch:=first|assumption|omega|(simp only[gL,gA]<;>omega)|fail) only[gC,reduceIte,hx0,sl'.lenG,b0a]
  refine WP.call (q6_ (n:=5) (by omega) (by unfold Fit; omega) h1) ?_
  rintro _ _ ⟨rfl,rfl⟩
  have h5:0<=wr (n+i) % 5/\wr (n+i) % 5<5:=⟨Int.emod_nonneg _ (by omega),Int.emod_lt_of_pos _ (by omega)⟩
  obtain ⟨m,hm⟩:∃m:Int,wr (n+i) % 5=m:=⟨_,rfl⟩
  rw[hm] at h5
  rw[hm]
  simp -implicitDefEqProofs (disch:=first|assumption|omega|(simp only[gL,gA]<;>omega)|fail) only[gC,reduceIte,hx1]
  have:=fin (Ext.refl _) (a2A (h:=h1) (D:=fun o=>h1.length<=o/\o<h1.length) (n:=.set (2 ^ m.toNat)) rfl)
  have hp:ptN n (mkXs l) i=.set (2 ^ m.toNat):=by
   have:(mkXs l)[i]?=none:=by rw[a0E,List.getElem?_eq_none]; simp; omega
   simp only[ptN,List.getD_eq_getElem?_getD,this,Option.getD_none,sgn,hm]
  rw[hp]
  exact WP.ret this
theorem a7h (h:Heap)(x y:AObj):(h++[x]).set h.length y=h++[y]:=by simp
structure MC (h h1:Heap) (k n:Int) (l:List Rw) (s:AV) (css:List (List AV)):Prop where
 ext:Ext h h1
 len:h1.length=h.length+2
 r0:h1[h.length]?=some (.cells ⟨[I k,I n,s],0,0,false⟩)
 r1:h1[h.length+1]?=some (.cells ⟨[I 0,I 0,I 0,I 0,.nils],0,0,false⟩)
 sl:Sl h1 3 s css
 rv:RVs h1 l css
theorem MC.fin {h h1:Heap}{k n:Int}{l:List Rw}{s:AV}{css:List (List AV)}(mc:MC h h1 k n l s css){n':Nd}{c5:List AV}{H:Heap}(e:Ext h1 H)(nv:NVD H (fun o=>h1.length<=o/\o<H.length) n' c5):NewN h n' (.agg c5) (H.set (h.length+1) (.cells ⟨c5,0,0,false⟩)):=by
 have:=e.len
 have:=mc.len
 refine ⟨(mc.ext.trans e).set (by omega) _,c5,rfl,nv.frs (FrS.set1 H (h.length+1) _) (fun o h1 h2 h3=>by omega) fun o h1 h2=>⟨by omega,by simp; exact h2.2⟩⟩
theorem b1U {h h1:Heap}{k n:Int}{l:List Rw}{s:AV}{css:List (List AV)}(mc:MC h h1 k n l s css)(hS:∀c∈l,MakeS c) :
  ∀(d i:Nat) (s4:AV) (lg:Nat) (cs4:List (List AV)) (H:Heap),i+d=max 2 (min l.length 4)->NB h1 H [I 4,I 0,I 0,I 0] s4 lg ((ptsN n (mkXs l)).take i) cs4->
   WP (fun p:Nat × Nat=>j0_ p.1 p.2 (.ptr h.length 0 3 0) (.ptr (h.length+1) 0 5 0) (.ptr h1.length 0 5 0) (I i) H) (NewN h (.join (ptsN n (mkXs l)))):=by
 have hml:(mkXs l).length=l.length:=by rw[a0E,List.length_map]
 have hpl:(ptsN n (mkXs l)).length=max 2 (min l.length 4):=by simp[ptsN,hml]
 have h1l:=mc.len
 intro d
 induction d with
 |zero=>
  intro i s4 lg cs4 H hi nb
  refine WP.rnd (fun i' j=>t9_ i' j (.ptr h.length 0 3 0) (.ptr (h.length+1) 0 5 0) (.ptr h1.length 0 5 0) (I i) H) ?_
  have hx0:=nb.ext.get mc.r0
  have hx1:=nb.ext.get mc.r1
  have sl':Sl H 3 s (css.map fun x=>x):=by rw[List.map_id']; exact mc.sl.ext nb.ext
  have hlen:=mc.rv.len
  have hrow:H[h1.length]?=some (.cells ⟨[I 4,I 0,I 0,I 0,s4],0,0,false⟩):=nb.row
  have hso:=nb.gr.sl.one
  have hno:=nb.no
  rw[List.take_of_length_le (by omega)] at nb
  have nv:=nb.done (n:=.join (ptsN n (mkXs l))) rfl rfl
  have fin:=mc.fin nb.ext (nv.frs (FrS.refl (fun _=>False) H) (fun _ _ _ z=>z) (D':=fun o=>h1.length<=o/\o<H.length) fun o _ z=>⟨by omega,z.2⟩)
  by_cases h4:i<l.length
  ·simp -implicitDefEqProofs (disch:=first|assumption|omega|(simp only[gL,gA]<;>omega)|fail) only[gC,reduceIte,hx0,sl'.lenG,hrow,hx1,hso]
   exact WP.lv (WP.ret fin) fun i j=>rfl
  ·simp -implicitDefEqProofs (disch:=first|assumption|omega|(simp only[gL,gA]<;>omega)|fail) only[gC,reduceIte,hx0,sl'.lenG,hrow,hx1,hso]
   exact WP.lv (WP.ret fin) fun i j=>rfl
 |succ d ih=>
  intro i s4 lg cs4 H hi nb
  refine WP.rnd (fun i' j=>t9_ i' j (.ptr h.length 0 3 0) (.ptr (h.length+1) 0 5 0) (.ptr h1.length 0 5 0) (I i) H) ?_
  have hx0:=nb.ext.get mc.r0
  have sl':Sl H 3 s (css.map fun x=>x):=by rw[List.map_id']; exact mc.sl.ext nb.ext
  have hlen:=mc.rv.len
  have hrow:H[h1.length]?=some (.cells ⟨[I 4,I 0,I 0,I 0,s4],0,0,false⟩):=nb.row
  have hcl:cs4.length<=1000:=by rw[<-nb.nvs.len,List.length_take]; omega
  have hil:i<4:=by omega
  have htk:(ptsN n (mkXs l)).take (i+1)=(ptsN n (mkXs l)).take i++[ptN n (mkXs l) i]:=by
   rw[List.take_add_one]
   congr 1
   simp[ptsN,hml,show i<max 2 (min l.length 4) by omega]
  by_cases h2:i<2
  ·simp -implicitDefEqProofs (disch:=first|assumption|omega|(simp only[gL,gA]<;>omega)|fail) only[gC,reduceIte,hx0,hrow]
   refine WP.call (u6_ (k:=k) hS [I k,I n,s] (.mk (mc.sl.ext nb.ext) (mc.rv.ext nb.ext)) (i:=i) (by omega)) ?_
   rintro _ H1 ⟨e1,c5,rfl,nv⟩
   obtain ⟨s5,rfl,ho5⟩:=nv.inv
   have hrow1:=e1.get hrow
   obtain ⟨s',H3,m1,m2,m3,m4,lg',nb'⟩:=nb.add rfl e1 nv hcl
   have m4':H3[h1.length]?=some (.cells ⟨[I 4,I 0,I 0,I 0,s4],0,0,false⟩):=m4
   rw[a3_] at m1
   simp -implicitDefEqProofs (disch:=first|assumption|omega|(simp only[gL,gA]<;>omega)|fail) only[gC,reduceIte,hrow1,ho5,m1,m4',m2,m3]
   rw[<-htk] at nb'
   exact ih (i+1) s' lg' _ _ (by omega) nb'
  ·simp -implicitDefEqProofs (disch:=first|assumption|omega|(simp only[gL,gA]<;>omega)|fail) only[gC,reduceIte,hx0,sl'.lenG,hrow]
   refine WP.call (u6_ (k:=k) hS [I k,I n,s] (.mk (mc.sl.ext nb.ext) (mc.rv.ext nb.ext)) (i:=i) (by omega)) ?_
   rintro _ H1 ⟨e1,c5,rfl,nv⟩
   obtain ⟨s5,rfl,ho5⟩:=nv.inv
   have hrow1:=e1.get hrow
   obtain ⟨s',H3,m1,m2,m3,m4,lg',nb'⟩:=nb.add rfl e1 nv hcl
   have m4':H3[h1.length]?=some (.cells ⟨[I 4,I 0,I 0,I 0,s4],0,0,false⟩):=m4
   rw[a3_] at m1
   simp -implicitDefEqProofs (disch:=first|assumption|omega|(simp only[gL,gA]<;>omega)|fail) only[gC,reduceIte,hrow1,ho5,m1,m4',m2,m3]
   rw[<-htk] at nb'
   exact ih (i+1) s' lg' _ _ (by omega) nb'
theorem b1V {h h1:Heap}{k n:Int}{l:List Rw}{s:AV}{css:List (List AV)}(mc:MC h h1 k n l s css)(hS:∀c∈l,MakeS c) :
  ∀(d i:Nat) (s4:AV) (lg:Nat) (cs4:List (List AV)) (H:Heap),i+d=max 2 (min l.length 4)->NB h1 H [I 5,I 0,I 0,I 0] s4 lg ((ptsN n (mkXs l)).take i) cs4->
   WP (fun p:Nat × Nat=>j1_ p.1 p.2 (.ptr h.length 0 3 0) (.ptr (h.length+1) 0 5 0) (.ptr h1.length 0 5 0) (I i) H) (NewN h (.uni (ptsN n (mkXs l)))):=by
 have hml:(mkXs l).length=l.length:=by rw[a0E,List.length_map]
 have hpl:(ptsN n (mkXs l)).length=max 2 (min l.length 4):=by simp[ptsN,hml]
 have h1l:=mc.len
 intro d
 induction d with
 |zero=>
  intro i s4 lg cs4 H hi nb
  refine WP.rnd (fun i' j=>u0_ i' j (.ptr h.length 0 3 0) (.ptr (h.length+1) 0 5 0) (.ptr h1.length 0 5 0) (I i) H) ?_
  have hx0:=nb.ext.get mc.r0
  have hx1:=nb.ext.get mc.r1
  have sl':Sl H 3 s (css.map fun x=>x):=by rw[List.map_id']; exact mc.sl.ext nb.ext
  have hlen:=mc.rv.len
  have hrow:H[h1.length]?=some (.cells ⟨[I 5,I 0,I 0,I 0,s4],0,0,false⟩):=nb.row
  have hso:=nb.gr.sl.one
  have hno:=nb.no
  rw[List.take_of_length_le (by omega)] at nb
  have nv:=nb.done (n:=.uni (ptsN n (mkXs l))) rfl rfl
  have fin:=mc.fin nb.ext (nv.frs (FrS.refl (fun _=>False) H) (fun _ _ _ z=>z) (D':=fun o=>h1.length<=o/\o<H.length) fun o _ z=>⟨by omega,z.2⟩)
  by_cases h4:i<l.length
  ·simp -implicitDefEqProofs (disch:=first|assumption|omega|(simp only[gL,gA]<;>omega)|fail) only[gC,reduceIte,hx0,sl'.lenG,hrow,hx1,hso]
   exact WP.lv (WP.ret fin) fun i j=>rfl
  ·simp -implicitDefEqProofs (disch:=first|assumption|omega|(simp only[gL,gA]<;>omega)|fail) only[gC,reduceIte,hx0,sl'.lenG,hrow,hx1,hso]
   exact WP.lv (WP.ret fin) fun i j=>rfl
 |succ d ih=>
  intro i s4 lg cs4 H hi nb
  refine WP.rnd (fun i' j=>u0_ i' j (.ptr h.length 0 3 0) (.ptr (h.length+1) 0 5 0) (.ptr h1.length 0 5 0) (I i) H) ?_
  have hx0:=nb.ext.get mc.r0
  have sl':Sl H 3 s (css.map fun x=>x):=by rw[List.map_id']; exact mc.sl.ext nb.ext
  have hlen:=mc.rv.len
  have hrow:H[h1.length]?=some (.cells ⟨[I 5,I 0,I 0,I 0,s4],0,0,false⟩):=nb.row
  have hcl:cs4.length<=1000:=by rw[<-nb.nvs.len,List.length_take]; omega
  have hil:i<4:=by omega
  have htk:(ptsN n (mkXs l)).take (i+1)=(ptsN n (mkXs l)).take i++[ptN n (mkXs l) i]:=by
   rw[List.take_add_one]
   congr 1
   simp[ptsN,hml,show i<max 2 (min l.length 4) by omega]
  by_cases h2:i<2
  ·simp -implicitDefEqProofs (disch:=first|assumption|omega|(simp only[gL,gA]<;>omega)|fail) only[gC,reduceIte,hx0,hrow]
   refine WP.call (u6_ (k:=k) hS [I k,I n,s] (.mk (mc.sl.ext nb.ext) (mc.rv.ext nb.ext)) (i:=i) (by omega)) ?_
   rintro _ H1 ⟨e1,c5,rfl,nv⟩
   obtain ⟨s5,rfl,ho5⟩:=nv.inv
   have hrow1:=e1.get hrow
   obtain ⟨s',H3,m1,m2,m3,m4,lg',nb'⟩:=nb.add rfl e1 nv hcl
   have m4':H3[h1.length]?=some (.cells ⟨[I 5,I 0,I 0,I 0,s4],0,0,false⟩):=m4
   rw[a3_] at m1
   simp -implicitDefEqProofs (disch:=first|assumption|omega|(simp only[gL,gA]<;>omega)|fail) only[gC,reduceIte,hrow1,ho5,m1,m4',m2,m3]
   rw[<-htk] at nb'
   exact ih (i+1) s' lg' _ _ (by omega) nb'
  ·simp -implicitDefEqProofs (disch:=first|assumption|omega|(simp only[gL,gA]<;>omega)|fail) only[gC,reduceIte,hx0,sl'.lenG,hrow]
   refine WP.call (u6_ (k:=k) hS [I k,I n,s] (.mk (mc.sl.ext nb.ext) (mc.rv.ext nb.ext)) (i:=i) (by omega)) ?_
   rintro _ H1 ⟨e1,c5,rfl,nv⟩
   obtain ⟨s5,rfl,ho5⟩:=nv.inv
   have hrow1:=e1.get hrow
   obtain ⟨s',H3,m1,m2,m3,m4,lg',nb'⟩:=nb.add rfl e1 nv hcl
   have m4':H3[h1.length]?=some (.cells ⟨[I 5,I 0,I 0,I 0,s4],0,0,false⟩):=m4
   rw[a3_] at m1
   simp -implicitDefEqProofs (disch:=first|assumption|omega|(simp only[gL,gA]<;>omega)|fail) only[gC,reduceIte,hrow1,ho5,m1,m4',m2,m3]
   rw[<-htk] at nb'
   exact ih (i+1) s' lg' _ _ (by omega) nb'
theorem MC.leaf {h h1:Heap}{k n:Int}{l:List Rw}{s:AV}{css:List (List AV)}(mc:MC h h1 k n l s css){n':Nd}(hn:n'.kids=[]){H:Heap}(e:Ext h1 H):NewN h n' (.agg [I n'.kind,I n'.st,I n'.lo,I n'.hi,.nils]) (H.set (h.length+1) (.cells ⟨[I n'.kind,I n'.st,I n'.lo,I n'.hi,.nils],0,0,false⟩)):=mc.fin e (a2A hn)
theorem MC.kid {h h1:Heap}{k n:Int}{l:List Rw}{s:AV}{css:List (List AV)}(mc:MC h h1 k n l s css){n' c:Nd}(hn:n'.kids=[c]){H1:Heap}(e:Ext h1 H1){c5:List AV}(nv:NVD H1 (fun o=>h1.length<=o/\o<H1.length) c c5) :
  NewN h n' (.agg [I n'.kind,I n'.st,I n'.lo,I n'.hi,.sl H1.length 0 1 5 none 0]) ((H1++[AObj.cells ⟨c5,0,0,false⟩]).set (h.length+1) (.cells ⟨[I n'.kind,I n'.st,I n'.lo,I n'.hi,.sl H1.length 0 1 5 none 0],0,0,false⟩)):=by
 have e3:Ext H1 (H1++[AObj.cells ⟨c5,0,0,false⟩]):=Ext.push H1 _
 have hle:=e.len
 refine mc.fin (e.trans e3) (.mk (css:=[c5]) (Gr.lit (sz:=5) nv.len).sl (fun _=>⟨hle,by simp[AV.obj]⟩) ?_)
 rw[hn]
 exact .cons (nv.ext e3 fun o h1 h2=>⟨h2.1,by simp; omega⟩) .nil
section
variable {h h1:Heap} {k n:Int} {l:List Rw} {s:AV} {css:List (List AV)}
theorem b1W (mc:MC h h1 k n l s css)(hS:∀c∈l,MakeS c):WP (fun i:Nat=>o8_ i (.ptr h.length 0 3 0) (.ptr (h.length+1) 0 5 0) h1) (NewN h (.rep (n % 4).toNat ((n % 4).toNat+(wr (n.tdiv 4) % 3).toNat) (ptN n (mkXs l) 0))):=by
 refine WP.congr (fun i=>a1o i (.ptr h.length 0 3 0) (.ptr (h.length+1) 0 5 0) h1) ?_
 have hx0:=mc.r0
 simp -implicitDefEqProofs (disch:=first|assumption|omega|(simp only[gL,gA]<;>omega)|fail) only[gC,reduceIte,hx0]
 refine WP.call (q6_ (n:=4) (by omega) (by unfold Fit; omega) h1) ?_
 rintro _ _ ⟨rfl,rfl⟩
 simp -implicitDefEqProofs (disch:=first|assumption|omega|(simp only[gL,gA]<;>omega)|fail) only[gC,reduceIte,hx0]
 refine WP.call (q6_ (n:=3) (by omega) (by unfold Fit; omega) h1) ?_
 rintro _ _ ⟨rfl,rfl⟩
 have a1:0<=n % 4/\n % 4<4:=⟨Int.emod_nonneg _ (by omega),Int.emod_lt_of_pos _ (by omega)⟩
 have a2:0<=wr (n.tdiv 4) % 3/\wr (n.tdiv 4) % 3<3:=⟨Int.emod_nonneg _ (by omega),Int.emod_lt_of_pos _ (by omega)⟩
 obtain ⟨a,ha⟩:∃a:Nat,n % 4=a:=⟨(n % 4).toNat,by omega⟩
 obtain ⟨b,hb⟩:∃b:Nat,wr (n.tdiv 4) % 3=b:=⟨(wr (n.tdiv 4) % 3).toNat,by omega⟩
 have hb':IntKind.i64.wrap (n.tdiv 4) % 3=b:=hb
 simp -implicitDefEqProofs (disch:=first|assumption|omega|(simp only[gL,gA]<;>omega)|fail) only[gC,reduceIte,hx0,ha,hb,hb']
 rw[show AV.int .i64 0=I ((0:Nat):Int) from rfl]
 refine WP.call (u6_ (k:=k) hS [I k,I n,s] (.mk mc.sl mc.rv) (i:=0) (by omega)) ?_
 rintro _ H1 ⟨e1,c5,rfl,nv⟩
 obtain ⟨s5,rfl,ho5⟩:=nv.inv
 have hx1:=e1.get mc.r1
 have hle:=e1.len
 have hl1:=mc.len
 simp -implicitDefEqProofs (disch:=first|assumption|omega|(simp only[gL,gA]<;>omega)|fail) only[gC,reduceIte,hx1,ho5]
 have:=mc.kid (n':=.rep a (a+b) (ptN n (mkXs l) 0)) rfl e1 nv
 try rw[show (n % 4).toNat=a by omega,show (wr (n.tdiv 4) % 3).toNat=b by omega]
 simp only[Nd.kind,Nd.st,Nd.lo,Nd.hi,Int.natCast_add] at this
 exact WP.ret this
theorem b0Q (mc:MC h h1 k n l s css)(hS:∀c∈l,MakeS c):WP (fun i:Nat=>b5_ i (.ptr h.length 0 3 0) (.ptr (h.length+1) 0 5 0) (I 10) (.bool false) h1) (NewN h (.star (ptN n (mkXs l) 0))):=by
 refine WP.congr (fun i=>d8_ i (.ptr h.length 0 3 0) (.ptr (h.length+1) 0 5 0) (I 10) (.bool false) h1) ?_
 have hx0:=mc.r0
 simp -implicitDefEqProofs (disch:=first|assumption|omega|(simp only[gL,gA]<;>omega)|fail) only[gC,reduceIte,hx0]
 rw[show AV.int .i64 0=I ((0:Nat):Int) from rfl]
 refine WP.call (u6_ (k:=k) hS [I k,I n,s] (.mk mc.sl mc.rv) (i:=0) (by omega)) ?_
 rintro _ H1 ⟨e1,c5,rfl,nv⟩
 obtain ⟨s5,rfl,ho5⟩:=nv.inv
 have hx1:=e1.get mc.r1
 have hle:=e1.len
 have hl1:=mc.len
 simp -implicitDefEqProofs (disch:=first|assumption|omega|(simp only[gL,gA]<;>omega)|fail) only[gC,reduceIte,hx1,ho5]
 have:=mc.kid (n':=.star (ptN n (mkXs l) 0)) rfl e1 nv
 simp only[Nd.kind,Nd.st,Nd.lo,Nd.hi] at this
 exact WP.ret this
theorem b0R (mc:MC h h1 k n l s css)(hS:∀c∈l,MakeS c):WP (fun i:Nat=>b5_ i (.ptr h.length 0 3 0) (.ptr (h.length+1) 0 5 0) (I 11) (.bool false) h1) (NewN h (.plus (ptN n (mkXs l) 0))):=by
 refine WP.congr (fun i=>d8_ i (.ptr h.length 0 3 0) (.ptr (h.length+1) 0 5 0) (I 11) (.bool false) h1) ?_
 have hx0:=mc.r0
 simp -implicitDefEqProofs (disch:=first|assumption|omega|(simp only[gL,gA]<;>omega)|fail) only[gC,reduceIte,hx0]
 rw[show AV.int .i64 0=I ((0:Nat):Int) from rfl]
 refine WP.call (u6_ (k:=k) hS [I k,I n,s] (.mk mc.sl mc.rv) (i:=0) (by omega)) ?_
 rintro _ H1 ⟨e1,c5,rfl,nv⟩
 obtain ⟨s5,rfl,ho5⟩:=nv.inv
 have hx1:=e1.get mc.r1
 have hle:=e1.len
 have hl1:=mc.len
 simp -implicitDefEqProofs (disch:=first|assumption|omega|(simp only[gL,gA]<;>omega)|fail) only[gC,reduceIte,hx1,ho5]
 have:=mc.kid (n':=.plus (ptN n (mkXs l) 0)) rfl e1 nv
 simp only[Nd.kind,Nd.st,Nd.lo,Nd.hi] at this
 exact WP.ret this
theorem b0S (mc:MC h h1 k n l s css)(hS:∀c∈l,MakeS c):WP (fun i:Nat=>b5_ i (.ptr h.length 0 3 0) (.ptr (h.length+1) 0 5 0) (I 12) (.bool false) h1) (NewN h (.opt (ptN n (mkXs l) 0))):=by
 refine WP.congr (fun i=>d8_ i (.ptr h.length 0 3 0) (.ptr (h.length+1) 0 5 0) (I 12) (.bool false) h1) ?_
 have hx0:=mc.r0
 simp -implicitDefEqProofs (disch:=first|assumption|omega|(simp only[gL,gA]<;>omega)|fail) only[gC,reduceIte,hx0]
 rw[show AV.int .i64 0=I ((0:Nat):Int) from rfl]
 refine WP.call (u6_ (k:=k) hS [I k,I n,s] (.mk mc.sl mc.rv) (i:=0) (by omega)) ?_
 rintro _ H1 ⟨e1,c5,rfl,nv⟩
 obtain ⟨s5,rfl,ho5⟩:=nv.inv
 have hx1:=e1.get mc.r1
 have hle:=e1.len
 have hl1:=mc.len
 simp -implicitDefEqProofs (disch:=first|assumption|omega|(simp only[gL,gA]<;>omega)|fail) only[gC,reduceIte,hx1,ho5]
 have:=mc.kid (n':=.opt (ptN n (mkXs l) 0)) rfl e1 nv
 simp only[Nd.kind,Nd.st,Nd.lo,Nd.hi] at this
 exact WP.ret this
theorem b0T (mc:MC h h1 k n l s css)(hS:∀c∈l,MakeS c):WP (fun i:Nat=>b5_ i (.ptr h.length 0 3 0) (.ptr (h.length+1) 0 5 0) (I 13) (.bool false) h1) (NewN h (.rep (n % 4).toNat ((n % 4).toNat+(wr (n.tdiv 4) % 3).toNat) (ptN n (mkXs l) 0))):=by
 refine WP.congr (fun i=>d8_ i (.ptr h.length 0 3 0) (.ptr (h.length+1) 0 5 0) (I 13) (.bool false) h1) ?_
 simp -implicitDefEqProofs (disch:=first|assumption|omega|(simp only[gL,gA]<;>omega)|fail) only[gC,reduceIte]
 exact b1W mc hS
theorem a7i (mc:MC h h1 k n l s css)(hS:∀c∈l,MakeS c)(c:AV):WP (fun i:Nat=>b5_ i (.ptr h.length 0 3 0) (.ptr (h.length+1) 0 5 0) c (.bool true) h1) (NewN h (.uni (ptsN n (mkXs l)))):=by
 refine WP.congr (fun i=>d8_ i (.ptr h.length 0 3 0) (.ptr (h.length+1) 0 5 0) c (.bool true) h1) ?_
 simp -implicitDefEqProofs (disch:=first|assumption|omega|(simp only[gL,gA]<;>omega)|fail) only[gC,reduceIte]
 rw[a7h]
 exact WP.ent (b1V mc hS (max 2 (min l.length 4)) 0 .nils 0 [] _ (by omega) (NB.new h1 _)) fun i=>rfl
theorem a4x (mc:MC h h1 k n l s css)(hS:∀c∈l,MakeS c)(c:AV):WP (fun i:Nat=>e5_ i (.ptr h.length 0 3 0) (.ptr (h.length+1) 0 5 0) c (.bool true) h1) (NewN h (.join (ptsN n (mkXs l)))):=by
 refine WP.congr (fun i=>b7_ i (.ptr h.length 0 3 0) (.ptr (h.length+1) 0 5 0) c (.bool true) h1) ?_
 simp -implicitDefEqProofs (disch:=first|assumption|omega|(simp only[gL,gA]<;>omega)|fail) only[gC,reduceIte]
 rw[a7h]
 exact WP.ent (b1U mc hS (max 2 (min l.length 4)) 0 .nils 0 [] _ (by omega) (NB.new h1 _)) fun i=>rfl
theorem a7j (mc:MC h h1 k n l s css)(c:AV):WP (fun i:Nat=>i9_ i (.ptr h.length 0 3 0) (.ptr (h.length+1) 0 5 0) c (.bool true) h1) (NewN h (.set (1+(n % 31).toNat))):=by
 refine WP.congr (fun i=>a2_ i (.ptr h.length 0 3 0) (.ptr (h.length+1) 0 5 0) c (.bool true) h1) ?_
 have hx0:=mc.r0
 have hx1:=mc.r1
 have hl1:=mc.len
 simp -implicitDefEqProofs (disch:=first|assumption|omega|(simp only[gL,gA]<;>omega)|fail) only[gC,reduceIte,hx0]
 refine WP.call (q6_ (n:=31) (by omega) (by unfold Fit; omega) h1) ?_
 rintro _ _ ⟨rfl,rfl⟩
 have a1:0<=n % 31/\n % 31<31:=⟨Int.emod_nonneg _ (by omega),Int.emod_lt_of_pos _ (by omega)⟩
 obtain ⟨a,ha⟩:∃a:Nat,n % 31=a:=⟨(n % 31).toNat,by omega⟩
 simp -implicitDefEqProofs (disch:=first|assumption|omega|(simp only[gL,gA]<;>omega)|fail) only[gC,reduceIte,hx1,ha]
 have:=mc.leaf (n':=.set (1+a)) rfl (Ext.refl _)
 try rw[show (n % 31).toNat=a by omega]
 simp only[Nd.kind,Nd.st,Nd.lo,Nd.hi,Int.natCast_add] at this
 exact WP.ret this
theorem a7k (mc:MC h h1 k n l s css)(c:AV):WP (fun i:Nat=>e4_ i (.ptr h.length 0 3 0) (.ptr (h.length+1) 0 5 0) c (.bool true) h1) (NewN h (sgn n)):=by
 refine WP.congr (fun i=>a5_ i (.ptr h.length 0 3 0) (.ptr (h.length+1) 0 5 0) c (.bool true) h1) ?_
 have hx0:=mc.r0
 have hx1:=mc.r1
 have hl1:=mc.len
 simp -implicitDefEqProofs (disch:=first|assumption|omega|(simp only[gL,gA]<;>omega)|fail) only[gC,reduceIte,hx0]
 refine WP.call (q6_ (n:=5) (by omega) (by unfold Fit; omega) h1) ?_
 rintro _ _ ⟨rfl,rfl⟩
 have a1:0<=n % 5/\n % 5<5:=⟨Int.emod_nonneg _ (by omega),Int.emod_lt_of_pos _ (by omega)⟩
 obtain ⟨m,hm⟩:∃m:Int,n % 5=m:=⟨_,rfl⟩
 rw[hm] at a1
 simp -implicitDefEqProofs (disch:=first|assumption|omega|(simp only[gL,gA]<;>omega)|fail) only[gC,reduceIte,hx1,hm]
 have:=mc.leaf (n':=.set (2 ^ m.toNat)) rfl (Ext.refl _)
 rw[show sgn n=.set (2 ^ m.toNat) by rw[sgn,hm]]
 simp only[Nd.kind,Nd.st,Nd.lo,Nd.hi] at this
 exact WP.ret this
theorem b1X (mc:MC h h1 k n l s css):WP (fun i:Nat=>e4_ i (.ptr h.length 0 3 0) (.ptr (h.length+1) 0 5 0) (I 4) (.bool false) h1) (NewN h (if n % 3=0 then .emp else .eps)):=by
 refine WP.congr (fun i=>a5_ i (.ptr h.length 0 3 0) (.ptr (h.length+1) 0 5 0) (I 4) (.bool false) h1) ?_
 obtain ⟨h2,hh2⟩:∃h2,h2=h1++[AObj.cells ⟨[I 2,I 3,I 3],0,0,false⟩]:=⟨_,rfl⟩
 have e2:Ext h1 h2:=by rw[hh2]; ((repeat (first|exact Ext.refl _|assumption|apply Ext.app|apply Ext.mk|(refine Ext.setr ?_ (by (first|omega|(simp only[gL]<;>omega))) _))))
 have hx0:=e2.get mc.r0
 have hx1:=e2.get mc.r1
 have hl1:=mc.len
 have hl2:h2.length=h1.length+1:=by rw[hh2]; simp
 have hx2:h2[h1.length]?=some (.cells ⟨[I 2,I 3,I 3],0,0,false⟩):=by rw[hh2]; simp
 simp -implicitDefEqProofs (disch:=first|assumption|omega|(simp only[gL,gA]<;>omega)|fail) only[gC,reduceIte]
 rw[<-hh2]
 simp -implicitDefEqProofs (disch:=first|assumption|omega|(simp only[gL,gA]<;>omega)|fail) only[gC,reduceIte,mc.r0]
 refine WP.call (q6_ (n:=3) (by omega) (by unfold Fit; omega) h2) ?_
 rintro _ _ ⟨rfl,rfl⟩
 have a1:0<=n % 3/\n % 3<3:=⟨Int.emod_nonneg _ (by omega),Int.emod_lt_of_pos _ (by omega)⟩
 have a2:n % 3=0\/n % 3=1\/n % 3=2:=by omega
 rcases a2 with a2|a2|a2
 ·rw[if_pos a2]
  simp -implicitDefEqProofs (disch:=first|assumption|omega|(simp only[gL,gA]<;>omega)|fail) only[gC,reduceIte,hx1,hx2,a2,show Int.toNat 0=0 from rfl]
  exact WP.ret (mc.leaf (n':=.emp) rfl e2)
 ·rw[if_neg (by omega)]
  simp -implicitDefEqProofs (disch:=first|assumption|omega|(simp only[gL,gA]<;>omega)|fail) only[gC,reduceIte,hx1,hx2,a2,show Int.toNat 1=1 from rfl]
  exact WP.ret (mc.leaf (n':=.eps) rfl e2)
 ·rw[if_neg (by omega)]
  simp -implicitDefEqProofs (disch:=first|assumption|omega|(simp only[gL,gA]<;>omega)|fail) only[gC,reduceIte,hx1,hx2,a2,show Int.toNat 2=2 from rfl]
  exact WP.ret (mc.leaf (n':=.eps) rfl e2)
end
theorem a7l (r:Rw):MakeS r:=by
 refine Rw.ind (p:=MakeS) ?_ r
 rintro ⟨k,n,l⟩ hS c3 h rv
 cases rv with
 |@mk _ _ _ s css sl rv=>
 refine WP.tot (fun k'=>a2c k' _ h) ?_
 have hso:=sl.one
 obtain ⟨h1,hh1⟩:∃h1,h1=(h++[AObj.cells ⟨[I k,I n,s],0,0,false⟩])++[AObj.cells ⟨[I 0,I 0,I 0,I 0,.nils],0,0,false⟩]:=⟨_,rfl⟩
 have e1:Ext h h1:=by rw[hh1]; ((repeat (first|exact Ext.refl _|assumption|apply Ext.app|apply Ext.mk|(refine Ext.setr ?_ (by (first|omega|(simp only[gL]<;>omega))) _))))
 have mc:MC h h1 k n l s css:=⟨e1,by rw[hh1]; simp,by rw[hh1]; simp,by rw[hh1]; simp,sl.ext e1,rv.ext e1⟩
 have hx0:=mc.r0
 simp -implicitDefEqProofs (disch:=first|assumption|omega|(simp only[gL,gA]<;>omega)|fail) only[gC,reduceIte,hso]
 rw[<-hh1]
 refine WP.call (q6_ (n:=14) (by omega) (by unfold Fit; omega) h1) ?_
 rintro _ _ ⟨rfl,rfl⟩
 have a1:0<=k % 14/\k % 14<14:=⟨Int.emod_nonneg _ (by omega),Int.emod_lt_of_pos _ (by omega)⟩
 obtain ⟨c,hc⟩:∃c:Nat,k % 14=c:=⟨(k % 14).toNat,by omega⟩
 have hmk:mkX (.mk k n l)=mkOf k n (mkXs l):=by rw[mkX]
 have hct:(k % 14).toNat=c:=by omega
 rw[hmk]
 unfold mkOf
 rw[hct,hc]
 have hcc:c=0\/c=1\/c=2\/c=3\/c=4\/c=5\/c=6\/c=7\/c=8\/c=9\/c=10\/c=11\/c=12\/c=13:=by omega
 rcases hcc with rfl|rfl|rfl|rfl|rfl|rfl|rfl|rfl|rfl|rfl|rfl|rfl|rfl|rfl
 ·simp -implicitDefEqProofs (disch:=first|assumption|omega|(simp only[gL,gA]<;>omega)|fail) only[gC,reduceIte]
  exact a7j mc _
 ·simp -implicitDefEqProofs (disch:=first|assumption|omega|(simp only[gL,gA]<;>omega)|fail) only[gC,reduceIte]
  exact a7j mc _
 ·simp -implicitDefEqProofs (disch:=first|assumption|omega|(simp only[gL,gA]<;>omega)|fail) only[gC,reduceIte]
  refine WP.congr (fun i=>a2_ i (.ptr h.length 0 3 0) (.ptr (h.length+1) 0 5 0) (I 2) (.bool false) h1) ?_
  simp -implicitDefEqProofs (disch:=first|assumption|omega|(simp only[gL,gA]<;>omega)|fail) only[gC,reduceIte]
  exact a7k mc _
 ·simp -implicitDefEqProofs (disch:=first|assumption|omega|(simp only[gL,gA]<;>omega)|fail) only[gC,reduceIte]
  refine WP.congr (fun i=>a2_ i (.ptr h.length 0 3 0) (.ptr (h.length+1) 0 5 0) (I 3) (.bool false) h1) ?_
  simp -implicitDefEqProofs (disch:=first|assumption|omega|(simp only[gL,gA]<;>omega)|fail) only[gC,reduceIte]
  exact a7k mc _
 ·simp -implicitDefEqProofs (disch:=first|assumption|omega|(simp only[gL,gA]<;>omega)|fail) only[gC,reduceIte]
  refine WP.congr (fun i=>a2_ i (.ptr h.length 0 3 0) (.ptr (h.length+1) 0 5 0) (I 4) (.bool false) h1) ?_
  simp -implicitDefEqProofs (disch:=first|assumption|omega|(simp only[gL,gA]<;>omega)|fail) only[gC,reduceIte]
  exact b1X mc
 ·simp -implicitDefEqProofs (disch:=first|assumption|omega|(simp only[gL,gA]<;>omega)|fail) only[gC,reduceIte]
  refine WP.congr (fun i=>a2_ i (.ptr h.length 0 3 0) (.ptr (h.length+1) 0 5 0) (I 5) (.bool false) h1) ?_
  simp -implicitDefEqProofs (disch:=first|assumption|omega|(simp only[gL,gA]<;>omega)|fail) only[gC,reduceIte]
  refine WP.congr (fun i=>a5_ i (.ptr h.length 0 3 0) (.ptr (h.length+1) 0 5 0) (I 5) (.bool false) h1) ?_
  simp -implicitDefEqProofs (disch:=first|assumption|omega|(simp only[gL,gA]<;>omega)|fail) only[gC,reduceIte]
  exact a4x mc hS _
 ·simp -implicitDefEqProofs (disch:=first|assumption|omega|(simp only[gL,gA]<;>omega)|fail) only[gC,reduceIte]
  refine WP.congr (fun i=>a2_ i (.ptr h.length 0 3 0) (.ptr (h.length+1) 0 5 0) (I 6) (.bool false) h1) ?_
  simp -implicitDefEqProofs (disch:=first|assumption|omega|(simp only[gL,gA]<;>omega)|fail) only[gC,reduceIte]
  refine WP.congr (fun i=>a5_ i (.ptr h.length 0 3 0) (.ptr (h.length+1) 0 5 0) (I 6) (.bool false) h1) ?_
  simp -implicitDefEqProofs (disch:=first|assumption|omega|(simp only[gL,gA]<;>omega)|fail) only[gC,reduceIte]
  exact a4x mc hS _
 ·simp -implicitDefEqProofs (disch:=first|assumption|omega|(simp only[gL,gA]<;>omega)|fail) only[gC,reduceIte]
  refine WP.congr (fun i=>a2_ i (.ptr h.length 0 3 0) (.ptr (h.length+1) 0 5 0) (I 7) (.bool false) h1) ?_
  simp -implicitDefEqProofs (disch:=first|assumption|omega|(simp only[gL,gA]<;>omega)|fail) only[gC,reduceIte]
  refine WP.congr (fun i=>a5_ i (.ptr h.length 0 3 0) (.ptr (h.length+1) 0 5 0) (I 7) (.bool false) h1) ?_
  simp -implicitDefEqProofs (disch:=first|assumption|omega|(simp only[gL,gA]<;>omega)|fail) only[gC,reduceIte]
  exact a4x mc hS _
 ·simp -implicitDefEqProofs (disch:=first|assumption|omega|(simp only[gL,gA]<;>omega)|fail) only[gC,reduceIte]
  refine WP.congr (fun i=>a2_ i (.ptr h.length 0 3 0) (.ptr (h.length+1) 0 5 0) (I 8) (.bool false) h1) ?_
  simp -implicitDefEqProofs (disch:=first|assumption|omega|(simp only[gL,gA]<;>omega)|fail) only[gC,reduceIte]
  refine WP.congr (fun i=>a5_ i (.ptr h.length 0 3 0) (.ptr (h.length+1) 0 5 0) (I 8) (.bool false) h1) ?_
  simp -implicitDefEqProofs (disch:=first|assumption|omega|(simp only[gL,gA]<;>omega)|fail) only[gC,reduceIte]
  refine WP.congr (fun i=>b7_ i (.ptr h.length 0 3 0) (.ptr (h.length+1) 0 5 0) (I 8) (.bool false) h1) ?_
  simp -implicitDefEqProofs (disch:=first|assumption|omega|(simp only[gL,gA]<;>omega)|fail) only[gC,reduceIte]
  exact a7i mc hS _
 ·simp -implicitDefEqProofs (disch:=first|assumption|omega|(simp only[gL,gA]<;>omega)|fail) only[gC,reduceIte]
  refine WP.congr (fun i=>a2_ i (.ptr h.length 0 3 0) (.ptr (h.length+1) 0 5 0) (I 9) (.bool false) h1) ?_
  simp -implicitDefEqProofs (disch:=first|assumption|omega|(simp only[gL,gA]<;>omega)|fail) only[gC,reduceIte]
  refine WP.congr (fun i=>a5_ i (.ptr h.length 0 3 0) (.ptr (h.length+1) 0 5 0) (I 9) (.bool false) h1) ?_
  simp -implicitDefEqProofs (disch:=first|assumption|omega|(simp only[gL,gA]<;>omega)|fail) only[gC,reduceIte]
  refine WP.congr (fun i=>b7_ i (.ptr h.length 0 3 0) (.ptr (h.length+1) 0 5 0) (I 9) (.bool false) h1) ?_
  simp -implicitDefEqProofs (disch:=first|assumption|omega|(simp only[gL,gA]<;>omega)|fail) only[gC,reduceIte]
  exact a7i mc hS _
 ·simp -implicitDefEqProofs (disch:=first|assumption|omega|(simp only[gL,gA]<;>omega)|fail) only[gC,reduceIte]
  refine WP.congr (fun i=>a2_ i (.ptr h.length 0 3 0) (.ptr (h.length+1) 0 5 0) (I 10) (.bool false) h1) ?_
  simp -implicitDefEqProofs (disch:=first|assumption|omega|(simp only[gL,gA]<;>omega)|fail) only[gC,reduceIte]
  refine WP.congr (fun i=>a5_ i (.ptr h.length 0 3 0) (.ptr (h.length+1) 0 5 0) (I 10) (.bool false) h1) ?_
  simp -implicitDefEqProofs (disch:=first|assumption|omega|(simp only[gL,gA]<;>omega)|fail) only[gC,reduceIte]
  refine WP.congr (fun i=>b7_ i (.ptr h.length 0 3 0) (.ptr (h.length+1) 0 5 0) (I 10) (.bool false) h1) ?_
  simp -implicitDefEqProofs (disch:=first|assumption|omega|(simp only[gL,gA]<;>omega)|fail) only[gC,reduceIte]
  exact b0Q mc hS
 ·simp -implicitDefEqProofs (disch:=first|assumption|omega|(simp only[gL,gA]<;>omega)|fail) only[gC,reduceIte]
  refine WP.congr (fun i=>a2_ i (.ptr h.length 0 3 0) (.ptr (h.length+1) 0 5 0) (I 11) (.bool false) h1) ?_
  simp -implicitDefEqProofs (disch:=first|assumption|omega|(simp only[gL,gA]<;>omega)|fail) only[gC,reduceIte]
  refine WP.congr (fun i=>a5_ i (.ptr h.length 0 3 0) (.ptr (h.length+1) 0 5 0) (I 11) (.bool false) h1) ?_
  simp -implicitDefEqProofs (disch:=first|assumption|omega|(simp only[gL,gA]<;>omega)|fail) only[gC,reduceIte]
  refine WP.congr (fun i=>b7_ i (.ptr h.length 0 3 0) (.ptr (h.length+1) 0 5 0) (I 11) (.bool false) h1) ?_
  simp -implicitDefEqProofs (disch:=first|assumption|omega|(simp only[gL,gA]<;>omega)|fail) only[gC,reduceIte]
  exact b0R mc hS
 ·simp -implicitDefEqProofs (disch:=first|assumption|omega|(simp only[gL,gA]<;>omega)|fail) only[gC,reduceIte]
  refine WP.congr (fun i=>a2_ i (.ptr h.length 0 3 0) (.ptr (h.length+1) 0 5 0) (I 12) (.bool false) h1) ?_
  simp -implicitDefEqProofs (disch:=first|assumption|omega|(simp only[gL,gA]<;>omega)|fail) only[gC,reduceIte]
  refine WP.congr (fun i=>a5_ i (.ptr h.length 0 3 0) (.ptr (h.length+1) 0 5 0) (I 12) (.bool false) h1) ?_
  simp -implicitDefEqProofs (disch:=first|assumption|omega|(simp only[gL,gA]<;>omega)|fail) only[gC,reduceIte]
  refine WP.congr (fun i=>b7_ i (.ptr h.length 0 3 0) (.ptr (h.length+1) 0 5 0) (I 12) (.bool false) h1) ?_
  simp -implicitDefEqProofs (disch:=first|assumption|omega|(simp only[gL,gA]<;>omega)|fail) only[gC,reduceIte]
  exact b0S mc hS
 ·simp -implicitDefEqProofs (disch:=first|assumption|omega|(simp only[gL,gA]<;>omega)|fail) only[gC,reduceIte]
  refine WP.congr (fun i=>a2_ i (.ptr h.length 0 3 0) (.ptr (h.length+1) 0 5 0) (I 13) (.bool false) h1) ?_
  simp -implicitDefEqProofs (disch:=first|assumption|omega|(simp only[gL,gA]<;>omega)|fail) only[gC,reduceIte]
  refine WP.congr (fun i=>a5_ i (.ptr h.length 0 3 0) (.ptr (h.length+1) 0 5 0) (I 13) (.bool false) h1) ?_
  simp -implicitDefEqProofs (disch:=first|assumption|omega|(simp only[gL,gA]<;>omega)|fail) only[gC,reduceIte]
  refine WP.congr (fun i=>b7_ i (.ptr h.length 0 3 0) (.ptr (h.length+1) 0 5 0) (I 13) (.bool false) h1) ?_
  simp -implicitDefEqProofs (disch:=first|assumption|omega|(simp only[gL,gA]<;>omega)|fail) only[gC,reduceIte]
  exact b0T mc hS
end Go.Gm.AQ
namespace Go.Gm.AQ
open Go Go.Gm
mutual
def cntR:Rw->Nat
 |.mk _ _ l=>1+cntRs l
def cntRs:List Rw->Nat
 |[]=>0
 |r::l=>cntR r+cntRs l
end
theorem b0b (r:Rw):cntR r=1+cntRs r.kids:=by cases r; rw[cntR]; rfl
theorem a7m:∀(d:Nat) (rs:List Rw),szF d rs<=14->(cntRs rs:Int)<=szF d rs
 |0,rs,h=>by simp[szF] at h
 |d+1,rs,h=>by
  have:∀(rs:List Rw) (n:Int),0<=n->szAdd d n rs<=14->n+cntRs rs<=szAdd d n rs:=by
   intro rs
   induction rs with
   |nil=>intro n h0 h; simp[szAdd,cntRs]
   |cons r rs ih=>
    intro n hp h
    have hs:szAdd d n (r::rs)=szAdd d (if n<=14 then n+1+szF d r.kids else n) rs:=rfl
    rw[hs] at h ⊢
    by_cases hn:n<=14
    ·rw[if_pos hn] at h ⊢
     have hr:=a7g d r.kids
     have h1:=ih _ (by omega) h
     have h2:n+1+szF d r.kids<=14:=by
      by_cases q:n+1+szF d r.kids<=14
      ·exact q
      ·rw[a4a d rs q] at h; omega
     have h0:=a7m d r.kids (by omega)
     rw[cntRs,b0b]
     omega
    ·rw[if_neg hn,a4a d rs hn] at h
     omega
  have:=this rs 0 (by omega) h
  simp only[szAdd] at this
  simp only[szF]; omega
theorem a4J {n:Int}{ls:List Nd}{i:Nat}:ptN n ls i∈ls\/ptN n ls i=sgn (wr (n+i)):=by
 simp only[ptN,List.getD_eq_getElem?_getD]
 cases h:ls[i]? with
 |none=>exact .inr rfl
 |some c=>exact .inl (List.mem_of_getElem? h)
theorem a5j (n:Int)(ls:List Nd):(ptsN n ls).length=max 2 (min ls.length 4):=by simp[ptsN]
def oneN:List Rw->Nd
 |[]=>.set 1
 |r::_=>mkX r
theorem a7n {l:List Rw}{s:AV}{css:List (List AV)}{h:Heap}(hs:Sl h 3 s css)(hr:RVs h l css) :
  Tot tab q7_ [s] h fun r h'=>r=.bool (decide (szF 7 l<=14))/\h=h':=by
 refine WP.tot (fun k=>a3R k _ h) ?_
 have:=a9Z 7 (by omega) l s css h hs hr
 rw[show (7:Int)-((7:Nat):Int)=0 by omega] at this
 refine WP.call this ?_
 rintro _ _ ⟨rfl,rfl⟩
 simp -implicitDefEqProofs (disch:=first|assumption|omega|(simp only[gL,gA]<;>omega)|fail) only[gC,reduceIte,a4B]
 exact WP.ret ⟨rfl,rfl⟩
theorem a3d {l:List Rw}{s:AV}{css:List (List AV)}{h:Heap}(hs:Sl h 3 s css)(hr:RVs h l css) :
  Tot tab h1_ [s] h (NewN h (oneN l)):=by
 refine WP.tot (fun k=>a3S k _ h) ?_
 obtain ⟨h1,hh1⟩:∃h1,h1=h++[AObj.cells ⟨[I 0,I 0,I 0,I 0,.nils],0,0,false⟩]:=⟨_,rfl⟩
 have e1:Ext h h1:=by rw[hh1]; ((repeat (first|exact Ext.refl _|assumption|apply Ext.app|apply Ext.mk|(refine Ext.setr ?_ (by (first|omega|(simp only[gL]<;>omega))) _))))
 have hl1:h1.length=h.length+1:=by rw[hh1]; simp
 have hx1:h1[h.length]?=some (.cells ⟨[I 0,I 0,I 0,I 0,.nils],0,0,false⟩):=by rw[hh1]; simp
 have sl':Sl h1 3 s (css.map fun x=>x):=by rw[List.map_id']; exact hs.ext e1
 have hlen:=hr.len
 simp -implicitDefEqProofs (disch:=first|assumption|omega|(simp only[gL,gA]<;>omega)|fail) only[gC,reduceIte]
 rw[<-hh1]
 have fin:∀{n':Nd} {c5:List AV} {H:Heap} (e:Ext h1 H) (nv:NVD H (fun o=>h1.length<=o/\o<H.length) n' c5),NewN h n' (.agg c5) (H.set h.length (.cells ⟨c5,0,0,false⟩)):=by
  intro n' c5 H e nv
  have:=e.len
  refine ⟨(e1.trans e).set (by omega) _,c5,rfl,nv.frs (FrS.set1 H h.length _) (fun o h1 h2 h3=>by omega) fun o h1 h2=>⟨by omega,by simp; exact h2.2⟩⟩
 cases l with
 |nil=>
  have h0:css.length=0:=by simpa using hlen.symm
  simp -implicitDefEqProofs (disch:=first|assumption|omega|(simp only[gL,gA]<;>omega)|fail) only[gC,reduceIte,sl'.lenG,hx1]
  exact WP.ret (fin (Ext.refl _) (a2A (n:=.set 1) rfl))
 |cons r l=>
  obtain ⟨cs,hcs,rv⟩:=hr.get (i:=0) (r:=r) rfl
  have hg:gi css (0:Int)=cs:=a7f hcs
  have h0:0<css.length:=by rw[<-hlen]; simp
  have e0:=Ext.refl h1
  simp -implicitDefEqProofs (disch:=first|assumption|omega|exact Ext.refl _|(simp only[gL,gA]<;>omega)|fail) only[gC,reduceIte,sl'.lenG,sl'.idxG,sl'.ldN,hg]
  refine WP.call (a7l r cs h1 (rv.ext e1)) ?_
  rintro _ H ⟨e2,c5,rfl,nv⟩
  have hx2:=e2.get hx1
  obtain ⟨s5,rfl,ho5⟩:=nv.inv
  have hHl:=e2.len
  simp -implicitDefEqProofs (disch:=first|assumption|omega|(simp only[gL,gA]<;>omega)|fail) only[gC,reduceIte,hx2,ho5]
  exact WP.ret (fin e2 nv)
end Go.Gm.AQ
namespace Go.Gm
structure NS where
 n:Nat
 much:Bool
 st:List (Nat × Nat × Nat)
 fr:List (Nat × Nat)
namespace NS
def new:NS:=⟨0,false,[],[]⟩
def state (b:NS):Nat × NS:=if 1000<=b.n then (0,⟨b.n,true,b.st,b.fr⟩) else (b.n,⟨b.n+1,b.much,b.st,b.fr⟩)
def frees (b:NS)(l:List (Nat × Nat)):NS:=⟨b.n,b.much,b.st,b.fr++l⟩
def step (b:NS)(s e k:Nat):NS:=⟨b.n,b.much,b.st++[(s,e,k)],b.fr⟩
def repE (lo e:Nat):Nat->List (Nat × Nat)->List (Nat × Nat)
 |_,[]=>[]
 |_,[ft]=>[(ft.2,e)]
 |i,ft::gt::r=>(if lo<=i+1 then [(ft.2,e)] else [])++(ft.2,gt.1)::repE lo e (i+1) (gt::r)
def joinE:List (Nat × Nat)->List (Nat × Nat)
 |ft::gt::r=>(ft.2,gt.1)::joinE (gt::r)
 |_=>[]
def uniE (s e:Nat)(l:List (Nat × Nat)):List (Nat × Nat):=l.flatMap fun ft=>[(s,ft.1),(ft.2,e)]
def hd (l:List (Nat × Nat)):Nat × Nat:=l.headD (0,0)
def lead (b:NS)(s e:Nat)(l:List (Nat × Nat)):Nd->NS
 |.set k=>b.step s e k
 |.eps=>b.frees [(s,e)]
 |.uni _=>b.frees (uniE s e l)
 |.star _=>b.frees [(s,(hd l).1),(s,e),((hd l).2,(hd l).1),((hd l).2,e)]
 |.plus _=>b.frees [(s,(hd l).1),((hd l).2,(hd l).1),((hd l).2,e)]
 |.opt _=>b.frees [(s,(hd l).1),(s,e),((hd l).2,e)]
 |.rep lo hi _=>b.frees ((if 0<hi then [(s,(hd l).1)] else [])++repE lo e 0 l++if lo=0 then [(s,e)] else [])
 |.emp=>b
 |.join _=>b
def times (g:NS->(Nat × Nat) × NS):Nat->NS->List (Nat × Nat) × NS
 |0,b=>([],b)
 |k+1,b=>if b.much then ([],b) else ((g b).1::(times g k (g b).2).1,(times g k (g b).2).2)
def around (n:Nd)(p:NS->List (Nat × Nat) × NS)(b:NS):(Nat × Nat) × NS:=
 if b.much then ((0,0),b) else
 let s:=b.state
 let l:=p s.2
 let e:=l.2.state
 ((s.1,e.1),if e.2.much then e.2 else e.2.lead s.1 e.1 l.1 n)
def joined (p:NS->List (Nat × Nat) × NS)(b:NS):(Nat × Nat) × NS:=
 if b.much then ((0,0),b) else
 let l:=p b
 if l.2.much then ((0,0),l.2) else (((hd l.1).1,(l.1.getLastD (0,0)).2),l.2.frees (joinE l.1))
mutual
def part:Nd->NS->(Nat × Nat) × NS
 |.join l=>joined (parts l)
 |.uni l=>around (.uni l) (parts l)
 |.star n=>around (.star n) (times (part n) 1)
 |.plus n=>around (.plus n) (times (part n) 1)
 |.opt n=>around (.opt n) (times (part n) 1)
 |.rep lo hi n=>around (.rep lo hi n) (times (part n) hi)
 |.set k=>around (.set k) (fun b=>([],b))
 |.eps=>around .eps (fun b=>([],b))
 |.emp=>around .emp (fun b=>([],b))
def parts:List Nd->NS->List (Nat × Nat) × NS
 |[],b=>([],b)
 |n::l,b=>if b.much then ([],b) else ((part n b).1::(parts l (part n b).2).1,(parts l (part n b).2).2)
end
end NS
structure NF where
 n:Nat
 s:Nat
 e:Nat
 st:List (Nat × Nat × Nat)
 fr:List (Nat × Nat)
def nfaF (n:Nd):Option NF:=
 let r:=NS.part n NS.new
 if r.2.much then none else some ⟨r.2.n,r.1.1,r.1.2,r.2.st,r.2.fr⟩
def RtN:Nd->Prop
 |.set s=>1<=s/\s<=31
 |.emp|.eps=>True
 |.join l=>2<=l.length
 |.uni l=>2<=l.length
 |.star _|.plus _|.opt _=>True
 |.rep a b _=>a<=b/\b<=9
inductive Gd:Nd->Prop
 |mk {n:Nd}:RtN n->(∀c∈n.kids,Gd c)->Gd n
theorem Gd.rt {n:Nd}(g:Gd n):RtN n:=by cases g; assumption
theorem Gd.kid {n:Nd}(g:Gd n):∀c∈n.kids,Gd c:=by cases g; assumption
end Go.Gm
namespace Go.Gm
structure Sz (b b':NS) (k:Nat):Prop where
 n:b.n<=b'.n
 fr:b'.fr.length+k<=b.fr.length+2*(b'.n-b.n)
 st:b'.st.length<=b.st.length+(b'.n-b.n)
 top:b.n<=1000->b'.n<=1000
theorem Sz.refl (b:NS):Sz b b 0:=⟨Nat.le_refl _,by omega,by omega,id⟩
theorem Sz.trans {a b c:NS}{k l:Nat}(x:Sz a b k)(y:Sz b c l):Sz a c (k+l):=by
 have:=x.n; have:=x.fr; have:=x.st; have:=y.n; have:=y.fr; have:=y.st
 exact ⟨by omega,by omega,by omega,fun z=>y.top (x.top z)⟩
theorem Sz.le {b b':NS}{k l:Nat}(x:Sz b b' k)(h:l<=k):Sz b b' l:=⟨x.n,by have:=x.fr; omega,x.st,x.top⟩
theorem a4b (b:NS):Sz b b.state.2 0/\(b.state.2.much=false->b.state.2.n=b.n+1/\b.state.2.fr=b.fr/\b.state.2.st=b.st):=by
 rw[NS.state]
 by_cases h:1000<=b.n
 ·rw[if_pos h]; exact ⟨⟨Nat.le_refl _,by simp,by simp,id⟩,fun z=>by cases z⟩
 ·rw[if_neg h]; exact ⟨⟨by simp,by simp,by simp,fun _=>by simp; omega⟩,fun _=>⟨rfl,rfl,rfl⟩⟩
def SzP (p:NS->List (Nat × Nat) × NS)(m:Nat):Prop:=∀b,Sz b (p b).2 0/\(p b).1.length<=m/\((p b).2.much=false->Sz b (p b).2 (2*(p b).1.length)/\(p b).1.length=m/\b.much=false)
def SzN (n:Nd):Prop:=∀b,Sz b (NS.part n b).2 0/\((NS.part n b).2.much=false->Sz b (NS.part n b).2 2)
theorem a5k:SzP (fun b=>([],b)) 0:=fun b=>⟨Sz.refl b,Nat.le_refl _,fun z=>⟨Sz.refl b,rfl,z⟩⟩
theorem a1K:∀(l:List Nd),(∀c∈l,SzN c)->SzP (NS.parts l) l.length
 |[],_=>fun b=>by rw[NS.parts]; exact ⟨Sz.refl b,Nat.le_refl _,fun z=>⟨Sz.refl b,rfl,z⟩⟩
 |n::l,h=>fun b=>by
  rw[NS.parts]
  by_cases q:b.much=true
  ·rw[if_pos q]; exact ⟨Sz.refl b,by simp,fun z=>by rw[q] at z; cases z⟩
  ·rw[if_neg q]
   obtain ⟨h1,h2⟩:=h n (by simp) b
   obtain ⟨h3,h4,h5⟩:=a1K l (fun c hc=>h c (List.mem_cons_of_mem _ hc)) (NS.part n b).2
   refine ⟨h1.trans h3,by simp; exact h4,fun z=>?_⟩
   have h6:(NS.part n b).2.much=false:=by
    cases hm:(NS.part n b).2.much with
    |false=>rfl
    |true=>
     exfalso
     have e:(NS.parts l (NS.part n b).2).2=(NS.part n b).2:=by cases l<;>simp[NS.parts,hm]
     simp only[e] at z
     rw[hm] at z; cases z
   obtain ⟨h7,h8,_⟩:=h5 z
   exact ⟨((h2 h6).trans h7).le (by simp; omega),by simp[h8],by simpa using q⟩
theorem a1L {n:Nd}(h:SzN n):∀k,SzP (NS.times (NS.part n) k) k
 |0=>fun b=>by rw[NS.times]; exact ⟨Sz.refl b,Nat.le_refl _,fun z=>⟨Sz.refl b,rfl,z⟩⟩
 |k+1=>fun b=>by
  rw[NS.times]
  by_cases q:b.much=true
  ·rw[if_pos q]; exact ⟨Sz.refl b,by simp,fun z=>by rw[q] at z; cases z⟩
  ·rw[if_neg q]
   obtain ⟨h1,h2⟩:=h b
   obtain ⟨h3,h4,h5⟩:=a1L h k (NS.part n b).2
   refine ⟨h1.trans h3,by simp; exact h4,fun z=>?_⟩
   have h6:(NS.part n b).2.much=false:=by
    cases hm:(NS.part n b).2.much with
    |false=>rfl
    |true=>
     exfalso
     have e:(NS.times (NS.part n) k (NS.part n b).2).2=(NS.part n b).2:=by cases k<;>simp[NS.times,hm]
     simp only[e] at z
     rw[hm] at z; cases z
   obtain ⟨h7,h8,_⟩:=h5 z
   exact ⟨((h2 h6).trans h7).le (by simp; omega),by simp[h8],by simpa using q⟩
theorem a5l (lo e:Nat):∀(l:List (Nat × Nat)) (i:Nat),(NS.repE lo e i l).length<=2*l.length
 |[],i=>by simp[NS.repE]
 |[f],i=>by simp[NS.repE]
 |f::g::l,i=>by
  have:=a5l lo e (g::l) (i+1)
  simp only[NS.repE,List.length_append,List.length_cons] at this ⊢
  split<;>simp<;>omega
theorem a6w:∀(l:List (Nat × Nat)),(NS.joinE l).length<=l.length-1
 |[]=>by simp[NS.joinE]
 |[f]=>by simp[NS.joinE]
 |f::g::l=>by
  have:=a6w (g::l)
  simp only[NS.joinE,List.length_cons] at this ⊢
  omega
theorem a5m (s e:Nat):∀(l:List (Nat × Nat)),(NS.uniE s e l).length=2*l.length
 |[]=>rfl
 |f::l=>by
  have:=a5m s e l
  simp only[NS.uniE,List.flatMap_cons,List.length_append,List.length_cons,List.length_nil] at this ⊢
  omega
def isK:Nd->Bool
 |.star _|.plus _|.opt _=>true
 |_=>false
theorem b0U (b:NS)(s e:Nat)(l:List (Nat × Nat))(n:Nd):((isK n=true->1<=l.length)->(b.lead s e l n).fr.length<=b.fr.length+2*l.length+2)/\(b.lead s e l n).st.length<=b.st.length+1:=by
 have:=a5m s e l
 cases n with
 |rep lo hi c=>
  have:=a5l lo e l 0
  simp only[NS.lead,NS.frees,List.length_append]
  refine ⟨fun _=>?_,by omega⟩
  split<;>split<;>simp<;>omega
 |uni l'=>simp only[NS.lead,NS.frees,List.length_append]; exact ⟨fun _=>by omega,by omega⟩
 |star c=>simp[NS.lead,NS.frees,isK]; omega
 |plus c=>simp[NS.lead,NS.frees,isK]; omega
 |opt c=>simp[NS.lead,NS.frees,isK]; omega
 |set k=>simp[NS.lead,NS.step]; omega
 |emp=>simp[NS.lead]; omega
 |eps=>simp[NS.lead,NS.frees]; omega
 |join l'=>simp[NS.lead]; omega
theorem s3_ {n:Nd}{p:NS->List (Nat × Nat) × NS}{m:Nat}(hp:SzP p m)(hm:isK n=true->1<=m)(b:NS):Sz b (NS.around n p b).2 0/\((NS.around n p b).2.much=false->Sz b (NS.around n p b).2 2):=by
 simp only[NS.around]
 by_cases q:b.much=true
 ·rw[if_pos q]; exact ⟨Sz.refl b,fun z=>by rw[q] at z; cases z⟩
 rw[if_neg q]
 simp only
 obtain ⟨s1,s2⟩:=a4b b
 obtain ⟨p1,p2,p3⟩:=hp b.state.2
 obtain ⟨e1,e2⟩:=a4b (p b.state.2).2
 have all:=(s1.trans p1).trans e1
 by_cases q2:(p b.state.2).2.state.2.much=true
 ·rw[if_pos q2]; exact ⟨all,fun z=>by rw[q2] at z; cases z⟩
 rw[if_neg q2]
 rw[Bool.not_eq_true] at q2
 have m1:(p b.state.2).2.much=false:=by
  cases hm:(p b.state.2).2.much with
  |false=>rfl
  |true=>rw[NS.state] at q2; split at q2<;>simp[hm] at q2
 obtain ⟨x1,x2,x3⟩:=e2 q2
 obtain ⟨sl,sl2,mb⟩:=p3 m1
 have h1:=s1.n; have h2:=s1.fr; have h3:=s1.st
 have h4:=sl.n; have h5:=sl.fr; have h6:=sl.st
 obtain ⟨L1,L2⟩:=b0U (p b.state.2).2.state.2 b.state.1 (p b.state.2).2.state.1 (p b.state.2).1 n
 replace L1:=L1 fun z=>by have:=hm z; omega
 have ln:((p b.state.2).2.state.2.lead b.state.1 (p b.state.2).2.state.1 (p b.state.2).1 n).n=(p b.state.2).2.state.2.n:=by cases n<;>rfl
 obtain ⟨y1,y2,y3⟩:=s2 mb
 have key:Sz b ((p b.state.2).2.state.2.lead b.state.1 (p b.state.2).2.state.1 (p b.state.2).1 n) 2:=by
  rw[x2] at L1
  rw[x3] at L2
  rw[y2] at h5
  rw[y3] at h6
  exact ⟨by omega,by omega,by omega,fun z=>by rw[ln]; exact all.top z⟩
 exact ⟨key.le (by omega),fun _=>key⟩
theorem szn (n:Nd):Gd n->SzN n:=by
 refine Nd.ind (p:=fun n=>Gd n->SzN n) (fun n ih g=>?_) n
 have k:∀c∈n.kids,SzN c:=fun c hc=>ih c hc (g.kid c hc)
 cases n with
 |set s=>intro b; rw[NS.part]; exact s3_ a5k (fun z=>by cases z) b
 |emp=>intro b; rw[NS.part]; exact s3_ a5k (fun z=>by cases z) b
 |eps=>intro b; rw[NS.part]; exact s3_ a5k (fun z=>by cases z) b
 |uni l=>intro b; rw[NS.part]; exact s3_ (a1K l k) (fun z=>by cases z) b
 |star c=>intro b; rw[NS.part]; exact s3_ (a1L (k c (by simp[Nd.kids])) 1) (fun _=>Nat.le_refl _) b
 |plus c=>intro b; rw[NS.part]; exact s3_ (a1L (k c (by simp[Nd.kids])) 1) (fun _=>Nat.le_refl _) b
 |opt c=>intro b; rw[NS.part]; exact s3_ (a1L (k c (by simp[Nd.kids])) 1) (fun _=>Nat.le_refl _) b
 |rep lo hi c=>intro b; rw[NS.part]; exact s3_ (a1L (k c (by simp[Nd.kids])) hi) (fun z=>by cases z) b
 |join l=>
  intro b
  rw[NS.part]
  simp only[NS.joined]
  by_cases q:b.much=true
  ·rw[if_pos q]; exact ⟨Sz.refl b,fun z=>by rw[q] at z; cases z⟩
  rw[if_neg q]
  obtain ⟨p1,p2,p3⟩:=a1K l k b
  by_cases q2:(NS.parts l b).2.much=true
  ·rw[if_pos q2]; exact ⟨p1,fun z=>by rw[q2] at z; cases z⟩
  rw[if_neg q2]
  rw[Bool.not_eq_true] at q2
  obtain ⟨sl,sl2,_⟩:=p3 q2
  have hl:2<=l.length:=g.rt
  have:=a6w (NS.parts l b).1
  have h4:=sl.n; have h5:=sl.fr; have h6:=sl.st
  have key:Sz b ((NS.parts l b).2.frees (NS.joinE (NS.parts l b).1)) 2:=⟨h4,by simp only[NS.frees,List.length_append]; omega,h6,sl.top⟩
  exact ⟨key.le (by omega),fun _=>key⟩
structure NSok (b:NS):Prop where
 n:b.n<=1000
 fr:b.fr.length<=2*b.n
 st:b.st.length<=b.n
theorem NSok.new:NSok NS.new:=⟨by simp[NS.new],by simp[NS.new],by simp[NS.new]⟩
theorem NSok.sz {b b':NS}{k:Nat}(o:NSok b)(s:Sz b b' k):NSok b':=by
 have:=o.fr; have:=o.st; have:=s.n; have:=s.fr; have:=s.st
 exact ⟨s.top o.n,by omega,by omega⟩
end Go.Gm
namespace Go.Gm.AQ
open Go Go.Gm
def encS (x:Nat × Nat × Nat):List AV:=[I x.1,I x.2.1,I x.2.2]
def encF (x:Nat × Nat):List AV:=[I x.1,I x.2]
def encN' (n:Nat):List AV:=[I n]
def BV (W:Nat->Prop)(h:Heap)(ob:Nat)(b:NS):Prop:=
 ∃(sS sF:AV) (oS oF:Nat),h[ob]?=some (.cells ⟨[I b.n,I 0,I 0,sS,sF,.bool b.much],0,0,false⟩)/\Gr oS (oS+1) h 3 sS (b.st.map encS)/\Gr oF (oF+1) h 2 sF (b.fr.map encF)/\W ob/\
  (sS≠.nils->W oS/\oS<h.length/\oS≠ob)/\(sF≠.nils->W oF/\oF<h.length/\oF≠ob/\(sS≠.nils->oF≠oS))
section
variable {W:Nat->Prop} {h h':Heap} {ob:Nat} {b:NS}
theorem BV.lt (v:BV W h ob b):ob<h.length/\W ob:=by
 obtain ⟨sS,sF,oS,oF,h1,_,_,h4,_⟩:=v
 exact ⟨(List.getElem?_eq_some_iff.1 h1).1,h4⟩
theorem k4_ {D:Nat->Prop}{lo sz:Nat}{s:AV}{xs:List (List AV)}(g:Gr lo (lo+1) h sz s xs)(f:FrS D h h')(hd:s≠.nils->¬D lo):Gr lo (lo+1) h' sz s xs:=by
 by_cases q:s=.nils
 ·subst q
  have:=g.isNil
  subst this
  exact Gr.nil ..
 ·exact g.frs f fun o q1 q2=>by rw[show o=lo by omega]; exact hd q
theorem BV.frs (v:BV W h ob b){D:Nat->Prop}(f:FrS D h h')(hd:∀o,o<h.length->W o->¬D o):BV W h' ob b:=by
 have ⟨l1,l2⟩:=v.lt
 have l:=f.len
 obtain ⟨sS,sF,oS,oF,h1,h2,h3,h4,h5,h6⟩:=v
 refine ⟨sS,sF,oS,oF,by rw[f.get (hd _ l1 l2) l1]; exact h1,k4_ h2 f fun z=>hd _ (h5 z).2.1 (h5 z).1,k4_ h3 f fun z=>hd _ (h6 z).2.1 (h6 z).1,h4,fun z=>?_,fun z=>?_⟩
 ·have:=h5 z; exact ⟨this.1,by omega,this.2.2⟩
 ·have:=h6 z; exact ⟨this.1,by omega,this.2.2⟩
theorem BV.ext (v:BV W h ob b)(e:Ext h h'):BV W h' ob b:=v.frs (D:=fun _=>False) (FrS.ofExt e) fun _ _ _ z=>z
theorem BV.mono (v:BV W h ob b){W':Nat->Prop}(hw:∀o,o<h.length->W o->W' o):BV W' h ob b:=by
 have ⟨l1,l2⟩:=v.lt
 obtain ⟨sS,sF,oS,oF,h1,h2,h3,h4,h5,h6⟩:=v
 exact ⟨sS,sF,oS,oF,h1,h2,h3,hw _ l1 l2,fun z=>⟨hw _ (h5 z).2.1 (h5 z).1,(h5 z).2⟩,fun z=>⟨hw _ (h6 z).2.1 (h6 z).1,(h6 z).2⟩⟩
def Wn (W:Nat->Prop)(h h':Heap):Nat->Prop:=fun o=>W o\/(h.length<=o/\o<h'.length)
theorem BV.setB (v:BV W h ob b)(n:Nat)(m:Bool):∃sS sF,h[ob]?=some (.cells ⟨[I b.n,I 0,I 0,sS,sF,.bool b.much],0,0,false⟩)/\BV W (h.set ob (.cells ⟨[I n,I 0,I 0,sS,sF,.bool m],0,0,false⟩)) ob ⟨n,m,b.st,b.fr⟩:=by
 have ⟨l1,l2⟩:=v.lt
 obtain ⟨sS,sF,oS,oF,h1,h2,h3,h4,h5,h6⟩:=v
 have f:∀x,FrS (fun p=>p=ob) h (h.set ob x):=fun x=>⟨by simp,fun p p1 p2=>b2_ fun z=>p1 z.symm⟩
 exact ⟨sS,sF,h1,sS,sF,oS,oF,a4_ l1,k4_ h2 (f _) fun z=>(h5 z).2.2,k4_ h3 (f _) fun z=>(h6 z).2.2.1,h4,fun z=>by simpa using h5 z,fun z=>by simpa using h6 z⟩
theorem a4U (v:BV W h ob b)(hn:b.n<=1000):Tot tab e9_ [.ptr ob 0 6 0] h fun r h'=>r=I b.state.1/\BV W h' ob b.state.2/\FrS W h h'/\h'.length=h.length:=by
 refine WP.tot (fun k=>a0V k _ h) ?_
 have ⟨l1,l2⟩:=v.lt
 have f:∀x,FrS W h (h.set ob x):=fun x=>⟨by simp,fun p p1 p2=>b2_ fun z=>p1 (z▸l2)⟩
 by_cases q:1000<=b.n
 ·obtain ⟨sS,sF,r1,v1⟩:=v.setB b.n true
  have e:b.state=(0,⟨b.n,true,b.st,b.fr⟩):=by rw[NS.state,if_pos q]
  simp -implicitDefEqProofs (disch:=first|assumption|omega|(simp only[gL,gA]<;>omega)|fail) only[gC,reduceIte,r1]
  rw[e]
  exact WP.ret ⟨rfl,v1,f _,by simp⟩
 ·obtain ⟨sS,sF,r1,v1⟩:=v.setB (b.n+1) b.much
  have e:b.state=(b.n,⟨b.n+1,b.much,b.st,b.fr⟩):=by rw[NS.state,if_neg q]
  simp -implicitDefEqProofs (disch:=first|assumption|omega|(simp only[gL,gA]<;>omega)|fail) only[gC,reduceIte,r1]
  rw[e]
  refine WP.ret ⟨?_,v1,f _,by simp⟩
  show I _=I _
  congr 1
  omega
theorem a9c (v:BV W h ob b)(hl:b.fr.length<=1000000)(x y:Nat):Tot tab a1_ [.ptr ob 0 6 0,I x,I y] h fun r h'=>r=.tup []/\BV (Wn W h h') h' ob (b.frees [(x,y)])/\FrS W h h':=by
 refine WP.tot (fun k=>a1e k _ _ _ h) ?_
 have ⟨l1,l2⟩:=v.lt
 obtain ⟨sS,sF,oS,oF,h1,h2,h3,h4,h5,h6⟩:=v
 have lit:=Gr.lit (h:=h) (sz:=2) (v:=encF (x,y)) rfl
 have e1:Ext h (mkObj h (encF (x,y))):=Ext.push _ _
 rw[a3_] at lit e1
 obtain ⟨s',h',o',q1,q2,q3,q4,q5⟩:=Gr.appQ (bytes:=16) (h3.ext e1) (fun z=>by have:=h6 z; simp; omega) lit.sl (by omega) (by omega) (by simp; omega)
 have f:=(FrS.ofExt (D:=fun p=>sF≠.nils/\p=oF) e1).trans q4
 have hl2:=f.len
 have hll:(h++[AObj.cells ⟨encF (x,y),0,0,false⟩]).length=h.length+1:=by simp
 have ro:=(f.get (o:=ob) (fun z=>(h6 z.1).2.2.1 z.2.symm) l1).trans h1
 have bo:=(List.getElem?_eq_some_iff.1 ro).1
 have o1:=q2.sl.one
 have o2:=q2.sl.cells
 simp only[encF] at q1
 simp -implicitDefEqProofs (disch:=first|assumption|omega|(simp only[gL,gA]<;>omega)|fail) only[gC,reduceIte,h1,q1,ro,o1,o2]
 have fs:∀y,FrS (fun p=>p=ob) h' (h'.set ob y):=fun y=>⟨by simp,fun p p1 p2=>b2_ fun z=>p1 z.symm⟩
 have q3':s'≠.nils->(W o'\/(h.length<=o'/\o'<h'.length))/\o'<h'.length/\o'≠ob/\(sS≠.nils->o'≠oS):=fun z=>by
  obtain ⟨z1,z2⟩:=q3 z
  rcases z1 with ⟨rfl,z3⟩|z1
  ·have:=h6 z3
   exact ⟨.inl this.1,z2,this.2.2⟩
  ·refine ⟨.inr ⟨by omega,z2⟩,z2,by omega,fun z4=>?_⟩
   have:=h5 z4; omega
 have gS:=k4_ h2 f fun z1 z2=>(h6 z2.1).2.2.2 z1 z2.2.symm
 refine WP.ret ⟨rfl,⟨sS,s',oS,o',a4_ bo,k4_ gS (fs _) fun z=>(h5 z).2.2,k4_ (q2.cong ?_) (fs _) fun z=>(q3' z).2.2.1,.inl h4,fun z=>⟨.inl (h5 z).1,by have:=(h5 z).2.1; simp; omega,(h5 z).2.2⟩,fun z=>⟨by simpa [Wn] using (q3' z).1,by simpa using (q3' z).2.1,(q3' z).2.2⟩⟩,⟨by simp; omega,fun p p1 p2=>?_⟩⟩
 ·simp[NS.frees,encF]
 ·rw[b2_ (o:=ob) (p:=p) (fun z=>p1 (by rw[<-z]; exact l2)),f.get (o:=p) (fun z=>p1 (by rw[z.2]; exact (h6 z.1).1)) p2]
theorem b1Y (v:BV W h ob b)(hl:b.st.length<=1000000)(x:Nat × Nat × Nat):∃sS sF s' h',h[ob]?=some (.cells ⟨[I b.n,I 0,I 0,sS,sF,.bool b.much],0,0,false⟩)/\apnd 3 24 sS (.sl h.length 0 1 3 none 0) (h++[AObj.cells ⟨[I x.1,I x.2.1,I x.2.2],0,0,false⟩])=some (s',h')/\s'.one=true/\s'.cells=[s']/\
  h'[ob]?=some (.cells ⟨[I b.n,I 0,I 0,sS,sF,.bool b.much],0,0,false⟩)/\BV (Wn W h h') (h'.set ob (.cells ⟨[I b.n,I 0,I 0,s',sF,.bool b.much],0,0,false⟩)) ob (b.step x.1 x.2.1 x.2.2)/\FrS W h (h'.set ob (.cells ⟨[I b.n,I 0,I 0,s',sF,.bool b.much],0,0,false⟩)):=by
 have ⟨l1,l2⟩:=v.lt
 obtain ⟨sS,sF,oS,oF,h1,h2,h3,h4,h5,h6⟩:=v
 have lit:=Gr.lit (h:=h) (sz:=3) (v:=encS x) rfl
 have e1:Ext h (mkObj h (encS x)):=Ext.push _ _
 rw[a3_] at lit e1
 obtain ⟨s',h',o',q1,q2,q3,q4,q5⟩:=Gr.appQ (bytes:=24) (h2.ext e1) (fun z=>by have:=h5 z; simp; omega) lit.sl (by omega) (by omega) (by simp; omega)
 have f:=(FrS.ofExt (D:=fun p=>sS≠.nils/\p=oS) e1).trans q4
 have hl2:=f.len
 have hll:(h++[AObj.cells ⟨encS x,0,0,false⟩]).length=h.length+1:=by simp
 have ro:=(f.get (o:=ob) (fun z=>(h5 z.1).2.2 z.2.symm) l1).trans h1
 have bo:=(List.getElem?_eq_some_iff.1 ro).1
 have fs:∀y,FrS (fun p=>p=ob) h' (h'.set ob y):=fun y=>⟨by simp,fun p p1 p2=>b2_ fun z=>p1 z.symm⟩
 have q3':s'≠.nils->(W o'\/(h.length<=o'/\o'<h'.length))/\o'<h'.length/\o'≠ob/\(sF≠.nils->oF≠o'):=fun z=>by
  obtain ⟨z1,z2⟩:=q3 z
  rcases z1 with ⟨rfl,z3⟩|z1
  ·have:=h5 z3
   exact ⟨.inl this.1,z2,this.2.2,fun z4=>(h6 z4).2.2.2 z3⟩
  ·refine ⟨.inr ⟨by omega,z2⟩,z2,by omega,fun z4=>?_⟩
   have:=h6 z4; omega
 have gF:=k4_ h3 f fun z1 z2=>(h6 z1).2.2.2 z2.1 z2.2
 refine ⟨sS,sF,s',h',h1,q1,q2.sl.one,q2.sl.cells,ro,⟨s',sF,o',oF,a4_ bo,k4_ (q2.cong ?_) (fs _) fun z=>(q3' z).2.2.1,k4_ gF (fs _) fun z=>(h6 z).2.2.1,.inl h4,fun z=>⟨by simpa [Wn] using (q3' z).1,by simpa using (q3' z).2.1,(q3' z).2.2.1⟩,fun z=>⟨.inl (h6 z).1,by have:=(h6 z).2.1; simp; omega,(h6 z).2.2.1,fun z2=>(q3' z2).2.2.2 z⟩⟩,⟨by simp; omega,fun p p1 p2=>?_⟩⟩
 ·simp[NS.step,encS]
 ·rw[b2_ (o:=ob) (p:=p) (fun z=>p1 (by rw[<-z]; exact l2)),f.get (o:=p) (fun z=>p1 (by rw[z.2]; exact (h5 z.1).1)) p2]
def FQ (W:Nat->Prop)(h:Heap)(ob:Nat)(b:NS)(l:List (Nat × Nat))(h':Heap):Prop:=BV (Wn W h h') h' ob (b.frees l)/\FrS W h h'
theorem Wn.step {h1 h2:Heap}(l1:h.length<=h1.length)(l2:h1.length<=h2.length):∀o,Wn (Wn W h h1) h1 h2 o->Wn W h h2 o:=by
 intro o z
 rcases z with (z|z)|z
 ·exact .inl z
 ·exact .inr ⟨z.1,by omega⟩
 ·exact .inr ⟨by omega,z.2⟩
theorem FrS.wn {h1 h2:Heap}(f1:FrS W h h1)(f2:FrS (Wn W h h1) h1 h2):FrS W h h2:=
 ⟨Nat.le_trans f1.1 f2.1,fun o o1 o2=>(f2.get (fun z=>by
  rcases z with z|z
  ·exact o1 z
  ·omega) (Nat.lt_of_lt_of_le o2 f1.1)).trans (f1.get o1 o2)⟩
end
end Go.Gm.AQ
namespace Go.Gm.AQ
open Go Go.Gm
section
variable {W:Nat->Prop} {h h':Heap} {ob:Nat} {b:NS}
theorem a6x (b:NS):b.frees []=b:=by cases b; simp[NS.frees]
theorem b0c (b:NS)(x y:List (Nat × Nat)):(b.frees x).frees y=b.frees (x++y):=by simp[NS.frees]
theorem FQ.zero (v:BV W h ob b):FQ W h ob b [] h:=⟨by rw[a6x]; exact v.mono fun o _ z=>.inl z,FrS.refl _ _⟩
theorem FQ.free {l:List (Nat × Nat)}{h1:Heap}(q:FQ W h ob b l h1)(hl:b.fr.length+l.length<=1000000)(x y:Nat):Tot tab a1_ [.ptr ob 0 6 0,I x,I y] h1 fun r h2=>r=.tup []/\FQ W h ob b (l++[(x,y)]) h2:=by
 refine (a9c q.1 (by simp[NS.frees]; exact hl) x y).mono ?_
 rintro _ h2 ⟨rfl,v,f⟩
 rw[b0c] at v
 exact ⟨rfl,v.mono fun o _ z=>Wn.step q.2.len f.len o z,FrS.wn q.2 f⟩
structure FT (W:Nat->Prop) (h:Heap) (sf st:AV) (ft:List (Nat × Nat)):Prop where
 f:Sl h 1 sf ((ft.map (·.1)).map encN')
 t:Sl h 1 st ((ft.map (·.2)).map encN')
 nf:sf≠.nils->¬W sf.obj
 nt:st≠.nils->¬W st.obj
theorem FT.frs {sf st:AV}{ft:List (Nat × Nat)}(a:FT W h sf st ft)(f:FrS W h h'):FT W h' sf st ft:=⟨Sl.frs a.f f a.nf,Sl.frs a.t f a.nt,a.nf,a.nt⟩
theorem FT.ext {sf st:AV}{ft:List (Nat × Nat)}(a:FT W h sf st ft)(e:Ext h h'):FT W h' sf st ft:=⟨a.f.ext e,a.t.ext e,a.nf,a.nt⟩
theorem a0J {ft:List (Nat × Nat)}{i:Nat}{x:Nat × Nat}(hx:ft[i]?=some x):gi (ft.map (·.1)) (i:Int)=x.1/\gi (ft.map (·.2)) (i:Int)=x.2/\i<ft.length:=by
 have hi:=(List.getElem?_eq_some_iff.1 hx).1
 rw[d9_ (by simpa using hi),d9_ (by simpa using hi)]
 rw[List.getElem?_eq_getElem hi] at hx
 injection hx with hx
 simp[hx,hi]
theorem a4K {α:Type}{l:List α}{i:Nat}{e:α}(h:l[i]?=some e):l.take (i+1)=l.take i++[e]:=by
 rw[List.take_add_one,h]; rfl
theorem b0d {s e:Nat}{ft:List (Nat × Nat)}{i:Nat}{x:Nat × Nat}(hx:ft[i]?=some x):NS.uniE s e (ft.take (i+1))=NS.uniE s e (ft.take i)++[(s,x.1)]++[(x.2,e)]:=by
 rw[a4K hx]
 simp[NS.uniE]
theorem b1Z {sf st:AV}{ft:List (Nat × Nat)}{s e:Nat}(a:FT W h sf st ft)(hl:b.fr.length<=10000)(hft:ft.length<=2000){Q:AV->Heap->Prop}(hQ:∀h1,FQ W h ob b (NS.uniE s e ft) h1->Q (.tup []) h1) :
  ∀(d i:Nat) (h1:Heap),i+d=ft.length->FQ W h ob b (NS.uniE s e (ft.take i)) h1->
   WP (fun p:Nat × Nat=>f6_ p.1 p.2 (.ptr ob 0 6 0) (I s) (I e) sf st (I i) h1) Q:=by
 intro d
 induction d with
 |zero=>
  intro i h1 hi q
  refine WP.rnd (fun k j=>q4_ k j (.ptr ob 0 6 0) (I s) (I e) sf st (I i) h1) ?_
  have hf:=(a.frs q.2).f.lenG
  rw[List.length_map] at hf
  rw[List.take_of_length_le (by omega)] at q
  simp -implicitDefEqProofs (disch:=first|assumption|omega|(simp only[gL,gA]<;>omega)|fail) only[gC,reduceIte,hf]
  exact WP.ret (hQ h1 q)
 |succ d ih=>
  intro i h1 hi q
  refine WP.rnd (fun k j=>q4_ k j (.ptr ob 0 6 0) (I s) (I e) sf st (I i) h1) ?_
  obtain ⟨x,hx⟩:∃x,ft[i]?=some x:=⟨ft[i],List.getElem?_eq_getElem (by omega)⟩
  obtain ⟨g1,g2,_⟩:=a0J hx
  have f1:=(a.frs q.2).f
  have hf:=f1.lenG
  rw[List.length_map] at hf
  have lm1:(ft.map (·.1)).length=ft.length:=List.length_map ..
  have lm2:(ft.map (·.2)).length=ft.length:=List.length_map ..
  have hul:(NS.uniE s e (ft.take i)).length<=4000:=by rw[a5m,List.length_take]; omega
  simp -implicitDefEqProofs (disch:=first|assumption|omega|exact Ext.refl _|(simp only[gL,gA]<;>omega)|fail) only[gC,reduceIte,hf,f1.idxG,f1.ld0,g1,encN',lm1,lm2]
  refine WP.call (q.free (by omega) s x.1) ?_
  rintro _ h2 ⟨rfl,q2⟩
  have t2:=(a.frs q2.2).t
  simp -implicitDefEqProofs (disch:=first|assumption|omega|exact Ext.refl _|(simp only[gL,gA]<;>omega)|fail) only[gC,reduceIte,t2.idxG,t2.ld0,g2,encN',lm1,lm2]
  refine WP.call (q2.free (by rw[List.length_append]; simp; omega) x.2 e) ?_
  rintro _ h3 ⟨rfl,q3⟩
  refine ih (i+1) h3 (by omega) ?_
  rw[b0d hx]; exact q3
def rpO (lo e:Nat)(ft:List (Nat × Nat))(k:Nat):List (Nat × Nat):=
 (if k+1=ft.length\/lo<=k+1 then [((ft.getD k (0,0)).2,e)] else [])++if k+1=ft.length then [] else [((ft.getD k (0,0)).2,(ft.getD (k+1) (0,0)).1)]
def rpE (lo e:Nat)(ft:List (Nat × Nat)):Nat->List (Nat × Nat)
 |0=>[]
 |k+1=>rpE lo e ft k++rpO lo e ft k
theorem a8t (lo e:Nat)(ft:List (Nat × Nat)):∀k,(rpE lo e ft k).length<=2*k
 |0=>by simp[rpE]
 |k+1=>by
  have:=a8t lo e ft k
  simp only[rpE,rpO,List.length_append]
  split<;>split<;>simp<;>omega
theorem a8u (lo e:Nat):∀(ft:List (Nat × Nat)) (i:Nat),NS.repE lo e i ft=(List.range ft.length).flatMap fun k=>(if k+1=ft.length\/lo<=i+k+1 then [((ft.getD k (0,0)).2,e)] else [])++if k+1=ft.length then [] else [((ft.getD k (0,0)).2,(ft.getD (k+1) (0,0)).1)]
 |[],i=>by simp[NS.repE]
 |[f],i=>by simp[NS.repE]
 |f::g::l,i=>by
  have ih:=a8u lo e (g::l) (i+1)
  rw[NS.repE,ih,show (f::g::l).length=(g::l).length+1 from rfl,List.range_succ_eq_map,List.flatMap_cons,List.flatMap_map]
  simp only[Nat.zero_add,List.getD_cons_zero,List.getD_cons_succ,List.length_cons]
  have h1:¬(1=l.length+1+1):=by omega
  simp only[h1,false_or,if_false,Nat.add_zero]
  rw[List.append_assoc]
  congr 1
  rw[List.singleton_append]
  congr 1
  congr 1
  funext k
  simp only[Nat.succ_eq_add_one,Nat.add_right_cancel_iff]
  rw[show i+1+k+1=i+(k+1)+1 by omega]
theorem b2a (lo e:Nat)(ft:List (Nat × Nat)):NS.repE lo e 0 ft=rpE lo e ft ft.length:=by
 rw[a8u]
 have:∀n,(List.range n).flatMap (fun k=>(if k+1=ft.length\/lo<=0+k+1 then [((ft.getD k (0,0)).2,e)] else [])++if k+1=ft.length then [] else [((ft.getD k (0,0)).2,(ft.getD (k+1) (0,0)).1)])=rpE lo e ft n:=by
  intro n
  induction n with
  |zero=>rfl
  |succ n ih=>rw[List.range_succ,List.flatMap_append,ih,rpE]; simp[rpO]
 exact this _
theorem b0e {sf st:AV}{ft:List (Nat × Nat)}{s e lo o7:Nat}{c1 c2 c4 c5:AV}{pre:List (Nat × Nat)}(a:FT W h sf st ft)(hl:b.fr.length<=10000)(hft:ft.length<=2000)(hpre:pre.length<=10)(hlo:lo<=2000)(r7:h[o7]?=some (.cells ⟨[c1,c2,I lo,c4,c5],0,0,false⟩))(w7:¬W o7){Q:AV->Heap->Prop}(hQ:∀h1,FQ W h ob b (pre++NS.repE lo e 0 ft++if lo=0 then [(s,e)] else []) h1->Q (.tup []) h1) :
  ∀(d i:Nat) (h1:Heap),i+d=ft.length->FQ W h ob b (pre++rpE lo e ft i) h1->
   WP (fun p:Nat × Nat=>d0_ p.1 p.2 (.ptr ob 0 6 0) (I s) (I e) sf st (.ptr o7 0 5 0) (I i) h1) Q:=by
 have b7:=(List.getElem?_eq_some_iff.1 r7).1
 have row:∀{l h1},FQ W h ob b l h1->h1[o7]?=some (.cells ⟨[c1,c2,I lo,c4,c5],0,0,false⟩):=fun q=>by rw[q.2.get w7 b7]; exact r7
 have lm1:(ft.map (·.1)).length=ft.length:=List.length_map ..
 have lm2:(ft.map (·.2)).length=ft.length:=List.length_map ..
 intro d
 induction d with
 |zero=>
  intro i h1 hi q
  refine WP.rnd (fun k j=>o1_ k j (.ptr ob 0 6 0) (I s) (I e) sf st (.ptr o7 0 5 0) (I i) h1) ?_
  have hf:=(a.frs q.2).f.lenG
  rw[List.length_map] at hf
  obtain rfl:i=ft.length:=by omega
  rw[<-b2a] at q
  simp -implicitDefEqProofs (disch:=first|assumption|omega|(simp only[gL,gA]<;>omega)|fail) only[gC,reduceIte,hf]
  refine WP.lv (WP.congr (fun k:Nat=>a0l k (.ptr ob 0 6 0) (I s) (I e) (.ptr o7 0 5 0) h1) ?_) fun i j=>rfl
  have r1:=row q
  have hrl:(NS.repE lo e 0 ft).length<=4000:=by have:=a5l lo e ft 0; omega
  by_cases q0:lo=0
  ·have q0':(lo:Int)=0:=by omega
   simp -implicitDefEqProofs (disch:=first|assumption|omega|(simp only[gL,gA]<;>omega)|fail) only[gC,reduceIte,r1,q0']
   refine WP.call (q.free (by rw[List.length_append]; omega) s e) ?_
   rintro _ h2 ⟨rfl,q2⟩
   rw[if_pos q0] at hQ
   exact WP.ret (hQ h2 q2)
  ·rw[if_neg q0,List.append_nil] at hQ
   simp -implicitDefEqProofs (disch:=first|assumption|omega|(simp only[gL,gA]<;>omega)|fail) only[gC,reduceIte,r1]
   exact WP.ret (hQ h1 q)
 |succ d ih=>
  intro i h1 hi q
  refine WP.rnd (fun k j=>o1_ k j (.ptr ob 0 6 0) (I s) (I e) sf st (.ptr o7 0 5 0) (I i) h1) ?_
  obtain ⟨x,hx⟩:∃x,ft[i]?=some x:=⟨ft[i],List.getElem?_eq_getElem (by omega)⟩
  obtain ⟨g1,g2,hil⟩:=a0J hx
  have f1:=(a.frs q.2).f
  have t1:=(a.frs q.2).t
  have hf:=f1.lenG
  rw[List.length_map] at hf
  have r1:=row q
  have hrl:=a8t lo e ft i
  have gx:ft.getD i (0,0)=x:=by rw[List.getD_eq_getElem?_getD,hx]; rfl
  have b3:∀(h2:Heap),FQ W h ob b (pre++rpE lo e ft i++(if i+1=ft.length\/lo<=i+1 then [(x.2,e)] else [])) h2->
    WP (fun p:Nat × Nat=>e2_ p.1 p.2 (.ptr ob 0 6 0) (I s) (I e) sf st (.ptr o7 0 5 0) (I i) (.bool (decide (i+1=ft.length))) h2) Q:=by
   intro h2 q2
   refine WP.congr (fun p=>a0k p.1 p.2 (.ptr ob 0 6 0) (I s) (I e) sf st (.ptr o7 0 5 0) (I i) (.bool (decide (i+1=ft.length))) h2) ?_
   by_cases z:i+1=ft.length
   ·rw[decide_eq_true z]
    simp -implicitDefEqProofs (disch:=first|assumption|omega|(simp only[gL,gA]<;>omega)|fail) only[gC,reduceIte]
    refine ih (i+1) h2 (by omega) ?_
    rw[rpE,rpO,gx,if_pos z,List.append_nil,<-List.append_assoc]
    exact q2
   ·rw[decide_eq_false z]
    obtain ⟨y,hy⟩:∃y,ft[i+1]?=some y:=⟨ft[i+1],List.getElem?_eq_getElem (by omega)⟩
    obtain ⟨k1,k2,_⟩:=a0J hy
    have k1':gi (ft.map (·.1)) ((i:Int)+1)=y.1:=by rw[show (i:Int)+1=((i+1:Nat):Int) by omega]; exact k1
    have gy:ft.getD (i+1) (0,0)=y:=by rw[List.getD_eq_getElem?_getD,hy]; rfl
    have f2:=(a.frs q2.2).f
    have t2:=(a.frs q2.2).t
    simp -implicitDefEqProofs (disch:=first|assumption|omega|exact Ext.refl _|(simp only[gL,gA]<;>omega)|fail) only[gC,reduceIte,f2.idxG,f2.ld0,t2.idxG,t2.ld0,g2,k1',encN',lm1,lm2]
    refine WP.call (q2.free (by simp only[List.length_append]; split<;>simp<;>omega) x.2 y.1) ?_
    rintro _ h3 ⟨rfl,q3⟩
    refine ih (i+1) h3 (by omega) ?_
    rw[rpE,rpO,gx,gy,if_neg z,<-List.append_assoc,<-List.append_assoc]
    exact q3
  by_cases z:i+1=ft.length
  ·have z1:(i:Int)=(ft.length:Int)-1:=by omega
   have z2:binV .eql .scalar (I i) (I ((ft.length:Int)-1))=some (.bool true):=eql_t z1
   simp -implicitDefEqProofs (disch:=first|assumption|omega|exact Ext.refl _|(simp only[gL,gA]<;>omega)|fail) only[gC,reduceIte,hf,z2,t1.idxG,t1.ld0,g2,encN',lm1,lm2]
   refine WP.call (q.free (by simp only[List.length_append]; omega) x.2 e) ?_
   rintro _ h2 ⟨rfl,q2⟩
   have:=b3 h2 (by rw[if_pos (.inl z)]; exact q2)
   rw[decide_eq_true z] at this
   exact this
  ·by_cases y:lo<=i+1
   ·simp -implicitDefEqProofs (disch:=first|assumption|omega|exact Ext.refl _|(simp only[gL,gA]<;>omega)|fail) only[gC,reduceIte,hf,r1,t1.idxG,t1.ld0,g2,encN',lm1,lm2]
    refine WP.call (q.free (by simp only[List.length_append]; omega) x.2 e) ?_
    rintro _ h2 ⟨rfl,q2⟩
    have:=b3 h2 (by rw[if_pos (.inr y)]; exact q2)
    rw[decide_eq_false z] at this
    exact this
   ·simp -implicitDefEqProofs (disch:=first|assumption|omega|(simp only[gL,gA]<;>omega)|fail) only[gC,reduceIte,hf,r1]
    have:=b3 h1 (by rw[if_neg (fun w=>w.elim z y),List.append_nil]; exact q)
    rw[decide_eq_false z] at this
    exact this
end
end Go.Gm.AQ
namespace Go.Gm.AQ
open Go Go.Gm
section
variable {W:Nat->Prop} {h h':Heap} {ob:Nat} {b:NS}
theorem FT.box {sf st:AV}{ft:List (Nat × Nat)}(a:FT W h sf st ft)(x:AObj):FT W (h++[x]) sf st ft:=a.ext (Ext.push _ _)
theorem FQ.out {l:List (Nat × Nat)}{h2 h3:Heap}(e:Ext h h2)(q:FQ W h2 ob b l h3):BV (Wn W h h3) h3 ob (b.frees l)/\FrS W h h3:=
 ⟨q.1.mono fun o _ z=>z.elim .inl fun z=>.inr ⟨by have:=e.len; omega,z.2⟩,(FrS.ofExt e).trans (q.2.mono fun o _ z=>z)⟩
theorem a7o {sf st s5:AV}{ft:List (Nat × Nat)}{s e lo hi:Nat}{c:Nd}(v:BV W h ob b)(hW:∀o,W o->o<h.length)(a:FT W h sf st ft)(hl:b.fr.length<=10000)(hft:ft.length=hi)(hhi:hi<=9)(hlo:lo<=hi)(h5:s5.one=true) :
  Tot tab b3_ [.ptr ob 0 6 0,.agg [I 9,I 0,I lo,I hi,s5],I s,I e,sf,st] h fun r h'=>r=.tup []/\BV (Wn W h h') h' ob (b.lead s e ft (.rep lo hi c))/\FrS W h h':=by
 refine WP.tot (fun k=>a0O k _ _ _ _ _ _ h) ?_
 obtain ⟨h2,hh2⟩:∃h2,h2=h++[AObj.cells ⟨[I 9,I 0,I lo,I hi,s5],0,0,false⟩]:=⟨_,rfl⟩
 have e2:Ext h h2:=by rw[hh2]; exact Ext.push _ _
 have r2:h2[h.length]?=some (.cells ⟨[I 9,I 0,I lo,I hi,s5],0,0,false⟩):=by rw[hh2]; simp
 have w7:¬W h.length:=fun z=>by have:=hW _ z; omega
 have q0:=FQ.zero (v.ext e2)
 have a2:=a.ext e2
 have lm1:(ft.map (·.1)).length=ft.length:=List.length_map ..
 by_cases q:0<hi
 ·obtain ⟨x,hx⟩:∃x,ft[0]?=some x:=⟨ft[0],List.getElem?_eq_getElem (by omega)⟩
  have g1:gi (ft.map (·.1)) 0=x.1:=(a0J hx).1
  have ehd:NS.hd ft=x:=by
   cases ft with
   |nil=>simp at hx
   |cons y l=>simp at hx; subst hx; rfl
  simp -implicitDefEqProofs (disch:=first|assumption|omega|(simp only[gL,gA]<;>omega)|fail) only[gC,reduceIte,h5]
  rw[<-hh2]
  simp -implicitDefEqProofs (disch:=first|assumption|omega|exact Ext.refl _|(simp only[gL,gA]<;>omega)|fail) only[gC,reduceIte,a2.f.idxG,a2.f.ld0,g1,encN',lm1]
  refine WP.call (q0.free (by simp; omega) s x.1) ?_
  rintro _ h3 ⟨rfl,q1⟩
  refine WP.congr (fun k:Nat=>o2_ k (.ptr ob 0 6 0) (I s) (I e) sf st (.ptr h.length 0 5 0) h3) ?_
  refine WP.ent (b0e (pre:=[(s,x.1)]) a2 hl (by omega) (by simp) (by omega) r2 w7 (fun h4 q4=>⟨rfl,?_⟩) ft.length 0 h3 (by omega) (by rw[rpE,List.append_nil]; exact q1)) fun i=>rfl
  have:=q4.out e2
  simp only[NS.lead,ehd,if_pos q]
  exact this
 ·simp -implicitDefEqProofs (disch:=first|assumption|omega|(simp only[gL,gA]<;>omega)|fail) only[gC,reduceIte,h5]
  rw[<-hh2]
  refine WP.congr (fun k:Nat=>o2_ k (.ptr ob 0 6 0) (I s) (I e) sf st (.ptr h.length 0 5 0) h2) ?_
  refine WP.ent (b0e (pre:=[]) a2 hl (by omega) (by simp) (by omega) r2 w7 (fun h4 q4=>⟨rfl,?_⟩) ft.length 0 h2 (by omega) (by rw[rpE]; exact q0)) fun i=>rfl
  have:=q4.out e2
  simp only[NS.lead,if_neg q]
  exact this
def LdOk (ft:List (Nat × Nat)):Nd->Prop
 |.star _|.plus _|.opt _=>ft.length=1
 |.rep lo hi _=>ft.length=hi/\hi<=9/\lo<=hi
 |.join _=>False
 |_=>ft.length<=2000
theorem a9d {sf st s5:AV}{ft:List (Nat × Nat)}{s e:Nat}{n:Nd}(v:BV W h ob b)(hW:∀o,W o->o<h.length)(a:FT W h sf st ft)(hl:b.fr.length<=10000)(hst:b.st.length<=10000)(hn:LdOk ft n)(h5:s5.one=true) :
  Tot tab g1_ [.ptr ob 0 6 0,.agg [I n.kind,I n.st,I n.lo,I n.hi,s5],I s,I e,sf,st] h fun r h'=>r=.tup []/\BV (Wn W h h') h' ob (b.lead s e ft n)/\FrS W h h':=by
 refine WP.tot (fun k=>a1c k _ _ _ _ _ _ h) ?_
 have lm1:(ft.map (·.1)).length=ft.length:=List.length_map ..
 have lm2:(ft.map (·.2)).length=ft.length:=List.length_map ..
 obtain ⟨c5,hc5⟩:∃c5,c5=[I n.kind,I n.st,I n.lo,I n.hi,s5]:=⟨_,rfl⟩
 obtain ⟨h2,hh2⟩:∃h2,h2=h++[AObj.cells ⟨c5,0,0,false⟩]:=⟨_,rfl⟩
 have e2:Ext h h2:=by rw[hh2]; exact Ext.push _ _
 have r2:h2[h.length]?=some (.cells ⟨c5,0,0,false⟩):=by rw[hh2]; simp
 have w7:¬W h.length:=fun z=>by have:=hW _ z; omega
 have v2:=v.ext e2
 have q0:=FQ.zero v2
 have a2:=a.ext e2
 rw[hc5] at r2 hh2
 have one:∀{x},ft=[x]->∀{h3 l},FQ W h2 ob b l h3->Sl h3 1 sf ([x.1].map encN')/\Sl h3 1 st ([x.2].map encN'):=fun hx h3 l q=>by
  subst hx
  exact ⟨(a2.frs q.2).f,(a2.frs q.2).t⟩
 cases n with
 |set k=>
  simp only[Nd.kind,Nd.st,Nd.lo,Nd.hi,Int.ofNat_zero] at r2 hh2 ⊢
  obtain ⟨sS,sF,s',h3,k1,k2,k3,k4,k5,k6,k7⟩:=b1Y v2 (by omega) (s,e,k)
  have l2:h2.length=h.length+1:=by rw[hh2]; simp
  simp only[l2] at k2
  simp -implicitDefEqProofs (disch:=first|assumption|omega|(simp only[gL,gA]<;>omega)|fail) only[gC,reduceIte,h5]
  rw[<-hh2]
  simp -implicitDefEqProofs (disch:=first|assumption|omega|(simp only[gL,gA]<;>omega)|fail) only[gC,reduceIte,r2,k1,k2,k5,k3,k4]
  refine WP.ret ⟨rfl,k6.mono fun o _ z=>?_,(FrS.ofExt e2).trans k7⟩
  rcases z with z|z
  ·exact .inl z
  ·exact .inr ⟨by have:=e2.len; omega,by simpa using z.2⟩
 |emp=>
  simp only[Nd.kind,Nd.st,Nd.lo,Nd.hi,Int.ofNat_zero] at r2 hh2 ⊢
  simp -implicitDefEqProofs (disch:=first|assumption|omega|(simp only[gL,gA]<;>omega)|fail) only[gC,reduceIte,h5]
  rw[<-hh2]
  have:=q0.out e2
  rw[a6x] at this
  exact WP.ret ⟨rfl,this⟩
 |eps=>
  simp only[Nd.kind,Nd.st,Nd.lo,Nd.hi,Int.ofNat_zero] at r2 hh2 ⊢
  simp -implicitDefEqProofs (disch:=first|assumption|omega|(simp only[gL,gA]<;>omega)|fail) only[gC,reduceIte,h5]
  rw[<-hh2]
  refine WP.call (q0.free (by simp; omega) s e) ?_
  rintro _ h3 ⟨rfl,q1⟩
  exact WP.ret ⟨rfl,q1.out e2⟩
 |join l=>exact hn.elim
 |uni l=>
  have hn:ft.length<=2000:=hn
  simp only[Nd.kind,Nd.st,Nd.lo,Nd.hi,Int.ofNat_zero] at r2 hh2 ⊢
  simp -implicitDefEqProofs (disch:=first|assumption|omega|(simp only[gL,gA]<;>omega)|fail) only[gC,reduceIte,h5]
  rw[<-hh2]
  exact WP.ent (b1Z a2 hl hn (fun h4 q4=>⟨rfl,q4.out e2⟩) ft.length 0 h2 (by omega) (by simpa [NS.uniE] using q0)) fun i=>rfl
 |star c=>
  have hn:ft.length=1:=hn
  obtain ⟨x,rfl⟩:∃x,ft=[x]:=by
   match ft,hn with
   |[x],_=>exact ⟨x,rfl⟩
  simp only[Nd.kind,Nd.st,Nd.lo,Nd.hi,Int.ofNat_zero] at r2 hh2 ⊢
  have g1:gi [x.1] 0=x.1:=rfl
  have g2:gi [x.2] 0=x.2:=rfl
  obtain ⟨f0,t0⟩:=one rfl q0
  simp -implicitDefEqProofs (disch:=first|assumption|omega|(simp only[gL,gA]<;>omega)|fail) only[gC,reduceIte,h5]
  rw[<-hh2]
  simp -implicitDefEqProofs (disch:=first|assumption|omega|exact Ext.refl _|(simp only[gL,gA]<;>omega)|fail) only[gC,reduceIte,f0.idxG,f0.ld0,g1,encN']
  refine WP.call (q0.free (by simp; omega) s x.1) ?_
  rintro _ h3 ⟨rfl,q1⟩
  refine WP.call (q1.free (by simp; omega) s e) ?_
  rintro _ h4 ⟨rfl,q2⟩
  obtain ⟨f2,t2⟩:=one rfl q2
  simp -implicitDefEqProofs (disch:=first|assumption|omega|exact Ext.refl _|(simp only[gL,gA]<;>omega)|fail) only[gC,reduceIte,f2.idxG,f2.ld0,g1,t2.idxG,t2.ld0,g2,encN']
  refine WP.call (q2.free (by simp; omega) x.2 x.1) ?_
  rintro _ h5' ⟨rfl,q3⟩
  obtain ⟨f3,t3⟩:=one rfl q3
  simp -implicitDefEqProofs (disch:=first|assumption|omega|exact Ext.refl _|(simp only[gL,gA]<;>omega)|fail) only[gC,reduceIte,t3.idxG,t3.ld0,g2,encN']
  refine WP.call (q3.free (by simp; omega) x.2 e) ?_
  rintro _ h6 ⟨rfl,q4⟩
  exact WP.ret ⟨rfl,q4.out e2⟩
 |plus c=>
  have hn:ft.length=1:=hn
  obtain ⟨x,rfl⟩:∃x,ft=[x]:=by
   match ft,hn with
   |[x],_=>exact ⟨x,rfl⟩
  simp only[Nd.kind,Nd.st,Nd.lo,Nd.hi,Int.ofNat_zero] at r2 hh2 ⊢
  have g1:gi [x.1] 0=x.1:=rfl
  have g2:gi [x.2] 0=x.2:=rfl
  obtain ⟨f0,t0⟩:=one rfl q0
  simp -implicitDefEqProofs (disch:=first|assumption|omega|(simp only[gL,gA]<;>omega)|fail) only[gC,reduceIte,h5]
  rw[<-hh2]
  simp -implicitDefEqProofs (disch:=first|assumption|omega|exact Ext.refl _|(simp only[gL,gA]<;>omega)|fail) only[gC,reduceIte,r2,f0.idxG,f0.ld0,g1,encN']
  refine WP.call (q0.free (by simp; omega) s x.1) ?_
  rintro _ h3 ⟨rfl,q1⟩
  obtain ⟨f2,t2⟩:=one rfl q1
  simp -implicitDefEqProofs (disch:=first|assumption|omega|exact Ext.refl _|(simp only[gL,gA]<;>omega)|fail) only[gC,reduceIte,f2.idxG,f2.ld0,g1,t2.idxG,t2.ld0,g2,encN']
  refine WP.call (q1.free (by simp; omega) x.2 x.1) ?_
  rintro _ h5' ⟨rfl,q3⟩
  obtain ⟨f3,t3⟩:=one rfl q3
  simp -implicitDefEqProofs (disch:=first|assumption|omega|exact Ext.refl _|(simp only[gL,gA]<;>omega)|fail) only[gC,reduceIte,t3.idxG,t3.ld0,g2,encN']
  refine WP.call (q3.free (by simp; omega) x.2 e) ?_
  rintro _ h6 ⟨rfl,q4⟩
  exact WP.ret ⟨rfl,q4.out e2⟩
 |opt c=>
  have hn:ft.length=1:=hn
  obtain ⟨x,rfl⟩:∃x,ft=[x]:=by
   match ft,hn with
   |[x],_=>exact ⟨x,rfl⟩
  simp only[Nd.kind,Nd.st,Nd.lo,Nd.hi,Int.ofNat_zero] at r2 hh2 ⊢
  have g1:gi [x.1] 0=x.1:=rfl
  have g2:gi [x.2] 0=x.2:=rfl
  obtain ⟨f0,t0⟩:=one rfl q0
  simp -implicitDefEqProofs (disch:=first|assumption|omega|(simp only[gL,gA]<;>omega)|fail) only[gC,reduceIte,h5]
  rw[<-hh2]
  simp -implicitDefEqProofs (disch:=first|assumption|omega|exact Ext.refl _|(simp only[gL,gA]<;>omega)|fail) only[gC,reduceIte,r2,f0.idxG,f0.ld0,g1,encN']
  refine WP.call (q0.free (by simp; omega) s x.1) ?_
  rintro _ h3 ⟨rfl,q1⟩
  refine WP.call (q1.free (by simp; omega) s e) ?_
  rintro _ h4 ⟨rfl,q2⟩
  obtain ⟨f2,t2⟩:=one rfl q2
  simp -implicitDefEqProofs (disch:=first|assumption|omega|exact Ext.refl _|(simp only[gL,gA]<;>omega)|fail) only[gC,reduceIte,t2.idxG,t2.ld0,g2,encN']
  refine WP.call (q2.free (by simp; omega) x.2 e) ?_
  rintro _ h6 ⟨rfl,q4⟩
  exact WP.ret ⟨rfl,q4.out e2⟩
 |rep lo hi c=>
  obtain ⟨hn1,hn2,hn3⟩:ft.length=hi/\hi<=9/\lo<=hi:=hn
  simp only[Nd.kind,Nd.st,Nd.lo,Nd.hi,Int.ofNat_zero] at r2 hh2 ⊢
  simp -implicitDefEqProofs (disch:=first|assumption|omega|(simp only[gL,gA]<;>omega)|fail) only[gC,reduceIte,h5]
  rw[<-hh2]
  refine WP.call (a7o (c:=c) v2 (fun o z=>by have:=hW o z; have:=e2.len; omega) a2 hl hn1 hn2 hn3 h5) ?_
  rintro _ h3 ⟨rfl,v3,f3⟩
  exact WP.ret ⟨rfl,v3.mono fun o _ z=>z.elim .inl fun z=>.inr ⟨by have:=e2.len; omega,z.2⟩,(FrS.ofExt e2).trans f3⟩
end
end Go.Gm.AQ
namespace Go.Gm.AQ
open Go Go.Gm
def PartS (n:Nd):Prop:=∀(h0 h:Heap) (W:Nat->Prop) (ob:Nat) (b:NS) (c5:List AV),NV h0 n c5->Ext h0 h->(∀o,W o->h0.length<=o/\o<h.length)->BV W h ob b->NSok b->
 Tot tab a8_ [.ptr ob 0 6 0,.agg c5] h fun r h'=>r=.tup [I (NS.part n b).1.1,I (NS.part n b).1.2]/\BV (Wn W h h') h' ob (NS.part n b).2/\FrS W h h'
structure PLs (h0 hE h:Heap) (W0 W:Nat->Prop) (ob o3:Nat) (b:NS) (c5:List AV) (sf st:AV) (oA oB:Nat) (ft:List (Nat × Nat)):Prop where
 e0:Ext h0 h
 le:h0.length<=hE.length
 fr:FrS W0 hE h
 wl:∀o,W o->h0.length<=o/\o<h.length
 w0:∀o,W o->W0 o\/hE.length<=o
 bv:BV W h ob b
 n3:¬W o3
 r3:h[o3]?=some (.cells ⟨c5,0,0,false⟩)
 l3:hE.length<=o3
 gA:Gr oA (oA+1) h 1 sf ((ft.map (·.1)).map encN')
 gB:Gr oB (oB+1) h 1 st ((ft.map (·.2)).map encN')
 nA:sf≠.nils->¬W oA/\oA<h.length/\oA≠o3/\hE.length<=oA
 nB:st≠.nils->¬W oB/\oB<h.length/\oB≠o3/\hE.length<=oB/\(sf≠.nils->oB≠oA)
section
variable {h0 hE h h':Heap} {W0 W:Nat->Prop} {ob o3:Nat} {b b1:NS} {c5:List AV} {sf st:AV} {oA oB:Nat} {ft:List (Nat × Nat)}
theorem PLs.ext (p:PLs h0 hE h W0 W ob o3 b c5 sf st oA oB ft)(e:Ext h h'):PLs h0 hE h' W0 W ob o3 b c5 sf st oA oB ft:=by
 have l:=e.len
 refine ⟨p.e0.trans e,p.le,p.fr.trans (FrS.ofExt e),fun o z=>by have:=p.wl o z; omega,p.w0,p.bv.ext e,p.n3,e.get p.r3,p.l3,p.gA.ext e,p.gB.ext e,fun z=>?_,fun z=>?_⟩
 ·have:=p.nA z; exact ⟨this.1,by omega,this.2.2⟩
 ·have:=p.nB z; exact ⟨this.1,by omega,this.2.2⟩
theorem PLs.ftv (p:PLs h0 hE h W0 W ob o3 b c5 sf st oA oB ft):FT W h sf st ft:=by
 refine ⟨p.gA.sl,p.gB.sl,fun z=>?_,fun z=>?_⟩
 ·have:=p.gA.objIn z
  have h1:=p.nA z
  rw[show sf.obj=oA by omega]; exact h1.1
 ·have:=p.gB.objIn z
  have h1:=p.nB z
  rw[show st.obj=oB by omega]; exact h1.1
theorem PLs.call (p:PLs h0 hE h W0 W ob o3 b c5 sf st oA oB ft)(f:FrS W h h')(v:BV (Wn W h h') h' ob b1):PLs h0 hE h' W0 (Wn W h h') ob o3 b1 c5 sf st oA oB ft:=by
 have l:=f.len
 have l3:=(List.getElem?_eq_some_iff.1 p.r3).1
 have le:=p.le
 have lE:=p.fr.len
 refine ⟨f.ext p.e0 fun o z1 z2=>by have:=p.wl o z2; omega,p.le,⟨Nat.le_trans p.fr.1 f.1,fun o z1 z2=>(f.get (fun z=>?_) (by omega)).trans (p.fr.get z1 z2)⟩,fun o z=>?_,fun o z=>?_,v,fun z=>?_,by rw[f.get p.n3 l3]; exact p.r3,p.l3,k4_ p.gA f fun z=>(p.nA z).1,k4_ p.gB f fun z=>(p.nB z).1,fun z=>?_,fun z=>?_⟩
 ·rcases p.w0 o z with z|z
  ·exact z1 z
  ·omega
 ·rcases z with z|z
  ·have:=p.wl o z; omega
  ·omega
 ·rcases z with z|z
  ·exact p.w0 o z
  ·exact .inr (by omega)
 ·rcases z with z|z
  ·exact p.n3 z
  ·omega
 ·have:=p.nA z
  refine ⟨fun y=>?_,by omega,this.2.2⟩
  rcases y with y|y
  ·exact this.1 y
  ·omega
 ·have:=p.nB z
  refine ⟨fun y=>?_,by omega,this.2.2⟩
  rcases y with y|y
  ·exact this.1 y
  ·omega
theorem PLs.add (p:PLs h0 hE h W0 W ob o3 b c5 sf st oA oB ft)(x:Nat × Nat)(hl:ft.length<=100000) :
  ∃s1 h2 s2 h3 oA' oB',apnd 1 8 sf (.sl h.length 0 1 1 none 0) (h++[AObj.cells ⟨[I x.1],0,0,false⟩])=some (s1,h2)/\apnd 1 8 st (.sl h2.length 0 1 1 none 0) (h2++[AObj.cells ⟨[I x.2],0,0,false⟩])=some (s2,h3)/\PLs h0 hE h3 W0 W ob o3 b c5 s1 s2 oA' oB' (ft++[x]):=by
 have l3:=(List.getElem?_eq_some_iff.1 p.r3).1
 have le:=p.le
 have lE:=p.fr.len
 have litA:=Gr.lit (h:=h) (sz:=1) (v:=encN' x.1) rfl
 have e1:Ext h (mkObj h (encN' x.1)):=Ext.push _ _
 rw[a3_] at litA e1
 have hl1:(h++[AObj.cells ⟨encN' x.1,0,0,false⟩]).length=h.length+1:=by simp
 obtain ⟨s1,h2,oA',a1,a2,a3,a4,a5⟩:=Gr.appQ (bytes:=8) (p.gA.ext e1) (fun z=>by have:=p.nA z; omega) litA.sl (by omega) (by omega) (by simp; omega)
 have f1:=(FrS.ofExt (D:=fun q=>sf≠.nils/\q=oA) e1).trans a4
 have l2:=f1.len
 have l12:=a4.len
 have gB1:=k4_ p.gB f1 fun z1 z2=>(p.nB z1).2.2.2.2 z2.1 z2.2
 have v1:=p.bv.frs f1 fun o z1 z2 z3=>(p.nA z3.1).1 (z3.2▸z2)
 have A':s1≠.nils->((oA'=oA/\sf≠.nils)\/h.length<=oA')/\oA'<h2.length:=fun z=>by
  obtain ⟨z1,z2⟩:=a3 z
  exact ⟨z1.imp id fun z=>by omega,z2⟩
 have litB:=Gr.lit (h:=h2) (sz:=1) (v:=encN' x.2) rfl
 have e2:Ext h2 (mkObj h2 (encN' x.2)):=Ext.push _ _
 rw[a3_] at litB e2
 have hl2:(h2++[AObj.cells ⟨encN' x.2,0,0,false⟩]).length=h2.length+1:=by simp
 obtain ⟨s2,h3,oB',b1,b2,b3,b4,b5⟩:=Gr.appQ (bytes:=8) (gB1.ext e2) (fun z=>by have:=p.nB z; omega) litB.sl (by omega) (by omega) (by simp; omega)
 have f2:=(FrS.ofExt (D:=fun q=>st≠.nils/\q=oB) e2).trans b4
 have l3':=f2.len
 have l23:=b4.len
 have B':s2≠.nils->((oB'=oB/\st≠.nils)\/h2.length<=oB')/\oB'<h3.length:=fun z=>by
  obtain ⟨z1,z2⟩:=b3 z
  exact ⟨z1.imp id fun z=>by omega,z2⟩
 have gA2:=k4_ (a2.cong (show _=((ft++[x]).map (·.1)).map encN' by simp)) f2 fun z1 z2=>by
  rcases (A' z1).1 with ⟨y1,y2⟩|y
  ·exact (p.nB z2.1).2.2.2.2 y2 (by rw[<-y1]; exact z2.2.symm)
  ·have:=p.nB z2.1; omega
 have v2:=v1.frs f2 fun o z1 z2 z3=>(p.nB z3.1).1 (z3.2▸z2)
 have F:FrS (fun q=>(sf≠.nils/\q=oA)\/(st≠.nils/\q=oB)) h h3:=(f1.mono fun o _ z=>.inl z).trans (f2.mono fun o _ z=>.inr z)
 have hF3:¬((sf≠.nils/\o3=oA)\/(st≠.nils/\o3=oB)):=fun z=>by
  rcases z with z|z
  ·have:=p.nA z.1; omega
  ·have:=p.nB z.1; omega
 refine ⟨s1,h2,s2,h3,oA',oB',a1,b1,⟨F.ext p.e0 fun o z1 z2=>?_,p.le,⟨by omega,fun o z1 z2=>(F.get (fun z=>?_) (by omega)).trans (p.fr.get z1 z2)⟩,fun o z=>by have:=p.wl o z; omega,p.w0,v2,p.n3,by rw[F.get hF3 l3]; exact p.r3,p.l3,gA2,b2.cong (by simp),fun z=>?_,fun z=>?_⟩⟩
 ·rcases z2 with z2|z2
  ·have:=p.nA z2.1; omega
  ·have:=p.nB z2.1; omega
 ·rcases z with z|z
  ·have:=p.nA z.1; omega
  ·have:=p.nB z.1; omega
 ·obtain ⟨z1,z2⟩:=A' z
  rcases z1 with ⟨y1,y2⟩|y
  ·have:=p.nA y2
   rw[y1]; exact ⟨this.1,by omega,this.2.2⟩
  ·exact ⟨fun w=>by have:=p.wl _ w; omega,by omega,by omega,by omega⟩
 ·obtain ⟨z1,z2⟩:=B' z
  rcases z1 with ⟨y1,y2⟩|y
  ·have h6:=p.nB y2
   rw[y1]
   refine ⟨h6.1,by omega,h6.2.2.1,h6.2.2.2.1,fun w=>?_⟩
   rcases (A' w).1 with ⟨x1,x2⟩|x1
   ·rw[x1]; exact h6.2.2.2.2 x2
   ·omega
  ·refine ⟨fun w=>by have:=p.wl _ w; omega,by omega,by omega,by omega,fun w=>?_⟩
   have:=(A' w).2; omega
end
structure KidsV (h0:Heap) (n:Nd) (c5:List AV) (sL:AV) (css:List (List AV)):Prop where
 c:c5=[I n.kind,I n.st,I n.lo,I n.hi,sL]
 sl:Sl h0 5 sL (css.map id)
 nv:NVs h0 n.kids css
theorem kidsV {h0:Heap}{n:Nd}{c5:List AV}(a:NV h0 n c5):∃sL css,KidsV h0 n c5 sL css:=by
 obtain ⟨s,css,h1,h2,h3⟩:=a.inv
 exact ⟨s,css,h1,by simpa using h2,h3⟩
theorem KidsV.get {h0:Heap}{n c:Nd}{c5:List AV}{sL:AV}{css:List (List AV)}(k:KidsV h0 n c5 sL css){i:Nat}(hi:n.kids[i]?=some c):∃cc,gi css (i:Int)=cc/\NV h0 c cc/\i<css.length:=by
 obtain ⟨cc,h1,h2⟩:=NVs.get k.nv hi
 have:=(List.getElem?_eq_some_iff.1 h1).1
 refine ⟨cc,?_,h2,this⟩
 rw[d9_ this]
 rw[List.getElem?_eq_getElem this] at h1
 injection h1
section
variable {h0 hE:Heap} {W0:Nat->Prop} {ob o3:Nat} {c5:List AV} {n:Nd} {sL:AV} {css:List (List AV)}
theorem b2b (kv:KidsV h0 n c5 sL css){el:List Nd}(hel:∀(i:Nat) c,el[i]?=some c->(∃c0,n.kids[0]?=some c0)/\((n.kind=5/\n.kids[i]?=some c)\/(n.kind≠5/\n.kids[0]?=some c)))(hell:el.length<=1000)(ih:∀c∈el,PartS c)(sz:∀c∈el,SzN c){s:Nat}{ftE:List (Nat × Nat)}{bE:NS}{Q:AV->Heap->Prop}(hQ:∀h W sf st oA oB,PLs h0 hE h W0 W ob o3 bE c5 sf st oA oB ftE->NSok bE->WP (fun k:Nat=>d4_ k (.ptr ob 0 6 0) (.ptr o3 0 5 0) (I s) sf st h) Q) :
  ∀(d i:Nat) (h:Heap) (W:Nat->Prop) (b:NS) (sf st:AV) (oA oB:Nat) (ft:List (Nat × Nat)),i+d=el.length->ft.length=i->PLs h0 hE h W0 W ob o3 b c5 sf st oA oB ft->NSok b->ft++(NS.parts (el.drop i) b).1=ftE->(NS.parts (el.drop i) b).2=bE->
   WP (fun p:Nat × Nat=>f1_ p.1 p.2 (.ptr ob 0 6 0) (.ptr o3 0 5 0) (I s) sf st (I el.length) (I i) h) Q:=by
 have e5:=kv.c
 intro d
 induction d with
 |zero=>
  intro i h W b sf st oA oB ft hi hfl p ok h1 h2
  refine WP.rnd (fun k j=>q0_ k j (.ptr ob 0 6 0) (.ptr o3 0 5 0) (I s) sf st (I el.length) (I i) h) ?_
  rw[List.drop_of_length_le (by omega),NS.parts] at h1 h2
  simp only[List.append_nil] at h1 h2
  subst h1 h2
  simp -implicitDefEqProofs (disch:=first|assumption|omega|(simp only[gL,gA]<;>omega)|fail) only[gC,reduceIte]
  exact WP.lv (hQ h W sf st oA oB p ok) fun i j=>rfl
 |succ d IH=>
  intro i h W b sf st oA oB ft hi hfl p ok h1 h2
  refine WP.rnd (fun k j=>q0_ k j (.ptr ob 0 6 0) (.ptr o3 0 5 0) (I s) sf st (I el.length) (I i) h) ?_
  obtain ⟨c,hc⟩:∃c,el[i]?=some c:=⟨el[i],List.getElem?_eq_getElem (by omega)⟩
  have hdr:el.drop i=c::el.drop (i+1):=by
   rw[List.getElem?_eq_getElem (by omega)] at hc
   injection hc with hc
   rw[<-hc]; exact List.drop_eq_getElem_cons (by omega)
  rw[hdr,NS.parts] at h1 h2
  obtain ⟨sS,sF,oS,oF,rb,_⟩:=p.bv
  by_cases m:b.much=true
  ·rw[if_pos m] at h1 h2
   simp only[List.append_nil] at h1 h2
   subst h1 h2
   rw[m] at rb
   simp -implicitDefEqProofs (disch:=first|assumption|omega|(simp only[gL,gA]<;>omega)|fail) only[gC,reduceIte,rb]
   exact WP.lv (hQ h W sf st oA oB p ok) fun i j=>rfl
  ·rw[if_neg m] at h1 h2
   simp only at h1 h2
   rw[Bool.not_eq_true] at m
   rw[m] at rb
   have hcm:=List.mem_of_getElem? hc
   obtain ⟨⟨c0,hk0⟩,hk⟩:=hel i c hc
   obtain ⟨cc0,k1,k2,k3⟩:=kv.get hk0
   have k1':gi css 0=cc0:=k1
   have r3:=p.r3
   rw[e5] at r3
   have slE:=kv.sl.ext p.e0
   have o0:=k2.one
   have l0:=k2.len
   have b3:∀(h4:Heap) (ox:Nat) (cc:List AV),Ext h h4->h4[ox]?=some (.cells ⟨cc,0,0,false⟩)->NV h0 c cc->
     WP (fun p:Nat × Nat=>f2_ p.1 p.2 (.ptr ob 0 6 0) (.ptr o3 0 5 0) (I s) sf st (I el.length) (I i) (.ptr ox 0 5 0) h4) Q:=by
    intro h4 ox cc e4 rx nvx
    refine WP.congr (fun p=>a0v p.1 p.2 (.ptr ob 0 6 0) (.ptr o3 0 5 0) (I s) sf st (I el.length) (I i) (.ptr ox 0 5 0) h4) ?_
    have p4:=p.ext e4
    have lcc:=nvx.len
    have hld:rdNAt 5 h4[ox]? 0 5 0=some (.agg cc):=by
     rw[rx]; simp only[rdNAt]
     rw[if_pos ⟨by omega,Nat.le_refl _⟩,List.drop_zero,List.take_of_length_le (by omega)]
    simp -implicitDefEqProofs (disch:=first|assumption|omega|(simp only[gL,gA]<;>omega)|fail) only[gC,reduceIte,hld]
    refine WP.call (ih c hcm h0 h4 W ob b cc nvx p4.e0 p4.wl p4.bv ok) ?_
    rintro _ h5 ⟨rfl,v5,f5⟩
    have p5:=p4.call f5 v5
    obtain ⟨s1,h6,s2,h7,oA',oB',a1,a2,p7⟩:=p5.add (NS.part c b).1 (by omega)
    simp -implicitDefEqProofs (disch:=first|assumption|omega|(simp only[gL,gA]<;>omega)|fail) only[gC,reduceIte,d1_,d2_,a1,a2]
    exact IH (i+1) h7 _ _ s1 s2 oA' oB' _ (by omega) (by simp[hfl]) p7 (ok.sz (sz c hcm b).1) (by rw[List.append_assoc]; exact h1) h2
   obtain ⟨h3,hh3⟩:∃h3,h3=((h++[AObj.cells ⟨[I 0,I 0,I 0,I 0,.nils],0,0,false⟩]).set h.length (.cells ⟨cc0,0,0,false⟩)):=⟨_,rfl⟩
   have e3:Ext h h3:=by rw[hh3]; ((repeat (first|exact Ext.refl _|assumption|apply Ext.app|apply Ext.mk|(refine Ext.setr ?_ (by (first|omega|(simp only[gL]<;>omega))) _))))
   have r33:=e3.get r3
   have sl3:=slE.ext e3
   have rx:h3[h.length]?=some (.cells ⟨cc0,0,0,false⟩):=by rw[hh3]; exact a4_ (by simp)
   have bx:=(List.getElem?_eq_some_iff.1 rx).1
   have sA:∀{a b:List AV},a.length=5->b.length=5->setAll a 0 b=b:=by
    intro a b ha hb
    match a,ha,b,hb with
    |[_,_,_,_,_],_,[_,_,_,_,_],_=>rfl
   have sA0:=sA (a:=[I 0,I 0,I 0,I 0,.nils]) rfl l0
   simp only[I] at sA0
   by_cases q5:n.kind=5
   ·have hki:=(hk.resolve_right fun z=>z.1 q5).2
    obtain ⟨cc,j1,j2,j3⟩:=kv.get hki
    have sB:=sA l0 j2.len
    have lj:=j2.len
    have oj:=j2.one
    obtain ⟨h4,hh4⟩:∃h4,h4=h3.set h.length (.cells ⟨cc,0,0,false⟩):=⟨_,rfl⟩
    simp -implicitDefEqProofs (disch:=first|assumption|omega|exact Ext.refl _|(simp only[gL,gA]<;>omega)|fail) only[gC,reduceIte,rb,r3,slE.idxG,slE.ldN,id_eq,k1',sA0]
    rw[<-hh3]
    simp -implicitDefEqProofs (disch:=first|assumption|omega|exact Ext.refl _|(simp only[gL,gA]<;>omega)|fail) only[gC,reduceIte,r33,q5,sl3.idxG,sl3.ldN,id_eq,j1,rx,sB]
    rw[<-hh4]
    exact b3 h4 h.length cc (by rw[hh4]; exact e3.setr (Nat.le_refl _) _) (by rw[hh4]; exact a4_ bx) j2
   ·have hki:=(hk.resolve_left fun z=>q5 z.1).2
    rw[hk0] at hki
    injection hki with hki
    subst hki
    simp -implicitDefEqProofs (disch:=first|assumption|omega|exact Ext.refl _|(simp only[gL,gA]<;>omega)|fail) only[gC,reduceIte,rb,r3,slE.idxG,slE.ldN,id_eq,k1',sA0]
    rw[<-hh3]
    simp -implicitDefEqProofs (disch:=first|assumption|omega|(simp only[gL,gA]<;>omega)|fail) only[gC,reduceIte,r33]
    exact b3 h3 h.length cc0 e3 rx k2
end
end Go.Gm.AQ
namespace Go.Gm.AQ
open Go Go.Gm
def elOf:Nd->List Nd
 |.uni l=>l
 |.join l=>l
 |.star c|.plus c|.opt c=>[c]
 |.rep _ hi c=>List.replicate hi c
 |_=>[]
theorem a0s (c:Nd):∀k,NS.times (NS.part c) k=NS.parts (List.replicate k c)
 |0=>by funext b; rw[List.replicate_zero,NS.times,NS.parts]
 |k+1=>by
  funext b
  rw[List.replicate_succ,NS.times,NS.parts,a0s c k]
theorem a4y:(fun b=>([],b))=NS.parts []:=by funext b; rw[NS.parts]
theorem a7X {n:Nd}(h:n.kind≠4)(b:NS):NS.part n b=NS.around n (NS.parts (elOf n)) b:=by
 cases n with
 |join l=>exact absurd rfl h
 |set k=>rw[NS.part,a4y]; rfl
 |emp=>rw[NS.part,a4y]; rfl
 |eps=>rw[NS.part,a4y]; rfl
 |uni l=>rw[NS.part]; rfl
 |star c=>rw[NS.part,a0s]; rfl
 |plus c=>rw[NS.part,a0s]; rfl
 |opt c=>rw[NS.part,a0s]; rfl
 |rep lo hi c=>rw[NS.part,a0s]; rfl
theorem a2B {n c:Nd}(h:c∈elOf n):c∈n.kids:=by
 cases n with
 |rep lo hi d=>rw[List.eq_of_mem_replicate h]; simp[Nd.kids]
 |_=>first|exact h|(simp[elOf] at h)
theorem b0V {n:Nd}(h4:n.kind≠4)(i:Nat)(c:Nd)(h:(elOf n)[i]?=some c):(∃c0,n.kids[0]?=some c0)/\((n.kind=5/\n.kids[i]?=some c)\/(n.kind≠5/\n.kids[0]?=some c)):=by
 have one:∀d:Nd,[d][i]?=some c->c=d:=fun d h=>by
  have:=List.mem_of_getElem? h
  simpa using this
 cases n with
 |join l=>exact absurd rfl h4
 |set k=>simp[elOf] at h
 |emp=>simp[elOf] at h
 |eps=>simp[elOf] at h
 |uni l=>
  have hi:=(List.getElem?_eq_some_iff.1 h).1
  exact ⟨⟨l[0]'(by simp[elOf] at hi; omega),List.getElem?_eq_getElem _⟩,.inl ⟨rfl,h⟩⟩
 |star d=>rw[one d h]; exact ⟨⟨d,rfl⟩,.inr ⟨by simp[Nd.kind],rfl⟩⟩
 |plus d=>rw[one d h]; exact ⟨⟨d,rfl⟩,.inr ⟨by simp[Nd.kind],rfl⟩⟩
 |opt d=>rw[one d h]; exact ⟨⟨d,rfl⟩,.inr ⟨by simp[Nd.kind],rfl⟩⟩
 |rep lo hi d=>
  rw[List.eq_of_mem_replicate (List.mem_of_getElem? h)]
  exact ⟨⟨d,rfl⟩,.inr ⟨by simp[Nd.kind],rfl⟩⟩
inductive Bd:Nd->Prop
 |mk {n:Nd}:n.st<2 ^ 62->n.kids.length<=1000->(∀c∈n.kids,Bd c)->Bd n
theorem Bd.kid {n:Nd}(g:Bd n):∀c∈n.kids,Bd c:=by cases g; assumption
theorem Bd.len {n:Nd}(g:Bd n):n.kids.length<=1000:=by cases g; assumption
theorem a7p {n:Nd}(g:Gd n)(d:Bd n):(elOf n).length<=1000:=by
 cases n with
 |rep lo hi c=>have:lo<=hi/\hi<=9:=g.rt; simp[elOf]; omega
 |uni l=>exact d.len
 |join l=>exact d.len
 |_=>simp[elOf]
theorem b0f {n:Nd}(g:Gd n):SzP (NS.parts (elOf n)) (elOf n).length:=a1K _ fun c hc=>szn c (g.kid c (a2B hc))
theorem b2c {n:Nd}(g:Gd n)(d:Bd n)(h4:n.kind≠4){ft:List (Nat × Nat)}(h:ft.length=(elOf n).length):LdOk ft n:=by
 have hl:=a7p g d
 cases n with
 |join l=>exact absurd rfl h4
 |set k=>show ft.length<=2000; omega
 |emp=>show ft.length<=2000; omega
 |eps=>show ft.length<=2000; omega
 |uni l=>show ft.length<=2000; omega
 |star c=>exact h
 |plus c=>exact h
 |opt c=>exact h
 |rep lo hi c=>
  have:lo<=hi/\hi<=9:=g.rt
  exact ⟨by rw[h]; simp[elOf],this.2,this.1⟩
section
variable {h0 h:Heap} {W:Nat->Prop} {ob:Nat} {b:NS} {c5:List AV} {n:Nd}
theorem b2d {hE:Heap}{W0:Nat->Prop}{o3 s:Nat}{sf st:AV}{oA oB:Nat}{ft:List (Nat × Nat)}{sL:AV}{css:List (List AV)}(kv:KidsV h0 n c5 sL css)(h5:sL.one=true)(p:PLs h0 hE h W0 W ob o3 b c5 sf st oA oB ft)(ok:NSok b)(hn:b.state.2.much=false->LdOk ft n) :
  WP (fun k:Nat=>d4_ k (.ptr ob 0 6 0) (.ptr o3 0 5 0) (I s) sf st h) fun r h'=>r=.tup [I s,I b.state.1]/\BV (Wn W0 hE h') h' ob (if b.state.2.much then b.state.2 else b.state.2.lead s b.state.1 ft n)/\FrS W0 hE h':=by
 refine WP.congr (fun k:Nat=>a0x k (.ptr ob 0 6 0) (.ptr o3 0 5 0) (I s) sf st h) ?_
 refine WP.call (a4U p.bv ok.n) ?_
 rintro _ h1 ⟨rfl,v1,f1,l1⟩
 have okS:=ok.sz (a4b b).1
 have p1:=p.call f1 (v1.mono fun o _ z=>.inl z)
 have le:=p.le
 have lE:=p.fr.len
 have fin:∀{h2:Heap} {b2:NS},FrS (Wn W h h1) h1 h2->BV (Wn (Wn W h h1) h1 h2) h2 ob b2->BV (Wn W0 hE h2) h2 ob b2/\FrS W0 hE h2:=fun {h2 b2} f v=>by
  have p2:=p1.call f v
  refine ⟨v.mono fun o z1 z2=>?_,p2.fr⟩
  rcases p2.w0 o z2 with z|z
  ·exact .inl z
  ·exact .inr ⟨z,z1⟩
 obtain ⟨sS,sF,oS,oF,rb,_⟩:=p1.bv
 have r3:=p1.r3
 rw[kv.c] at r3
 have b5:∀h2,WP (fun k:Nat=>f3_ k (I s) (I b.state.1) h2) fun r h'=>r=.tup [I s,I b.state.1]/\h2=h':=fun h2=>by
  refine WP.congr (fun k:Nat=>a0w k (I s) (I b.state.1) h2) ?_
  exact WP.ret ⟨rfl,rfl⟩
 by_cases m:b.state.2.much=true
 ·rw[m] at rb
  simp -implicitDefEqProofs (disch:=first|assumption|omega|(simp only[gL,gA]<;>omega)|fail) only[gC,reduceIte,rb]
  refine (b5 h1).mono ?_
  rintro r h' ⟨rfl,rfl⟩
  rw[if_pos m]
  exact ⟨rfl,fin (FrS.refl _ _) (p1.bv.mono fun o _ z=>.inl z)⟩
 ·rw[if_neg m]
  rw[Bool.not_eq_true] at m
  rw[m] at rb
  simp -implicitDefEqProofs (disch:=first|assumption|omega|(simp only[gL,gA]<;>omega)|fail) only[gC,reduceIte,rb,r3]
  have hfr:=okS.fr
  have hst:=okS.st
  have hnn:=okS.n
  refine WP.call (a9d p1.bv (fun o z=>(p1.wl o z).2) p1.ftv (by omega) (by omega) (hn m) h5) ?_
  rintro _ h2 ⟨rfl,v2,f2⟩
  refine (b5 h2).mono ?_
  rintro r h' ⟨rfl,rfl⟩
  exact ⟨rfl,fin f2 v2⟩
theorem b2e (hk:n.kind≠4)(g:Gd n)(d:Bd n)(ih:∀c∈elOf n,PartS c):PartS n:=by
 intro h0 h W ob b c5 nv e0 hW v ok
 refine WP.tot (fun k=>t1_ k _ _ h) ?_
 rw[a7X hk]
 obtain ⟨sL,css,kv⟩:=kidsV nv
 have h5:=kv.sl.one
 have lkk:=d.len
 have lel:=a7p g d
 have hst:n.st<2 ^ 62:=by cases d; assumption
 obtain ⟨h1,hh1⟩:∃h1,h1=h++[AObj.cells ⟨[I n.kind,I n.st,I n.lo,I n.hi,sL],0,0,false⟩]:=⟨_,rfl⟩
 have e1:Ext h h1:=by rw[hh1]; exact Ext.push _ _
 have l1:h1.length=h.length+1:=by rw[hh1]; simp
 have r1:h1[h.length]?=some (.cells ⟨[I n.kind,I n.st,I n.lo,I n.hi,sL],0,0,false⟩):=by rw[hh1]; simp
 have v1:=v.ext e1
 have l0:=e0.len
 obtain ⟨sS,sF,oS,oF,rb,_⟩:=v1
 have v1:=v.ext e1
 have hcc:=kv.c
 simp only[NS.around]
 by_cases m:b.much=true
 ·rw[m] at rb
  rw[if_pos m,hcc]
  simp -implicitDefEqProofs (disch:=first|assumption|omega|(simp only[gL,gA]<;>omega)|fail) only[gC,reduceIte,h5]
  rw[<-hh1]
  simp -implicitDefEqProofs (disch:=first|assumption|omega|(simp only[gL,gA]<;>omega)|fail) only[gC,reduceIte,rb]
  exact WP.ret ⟨rfl,v1.mono fun o _ z=>.inl z,FrS.ofExt e1⟩
 ·rw[if_neg m]
  rw[Bool.not_eq_true] at m
  rw[m] at rb
  have hk4:¬n.kind=4:=hk
  rw[hcc]
  simp -implicitDefEqProofs (disch:=first|assumption|omega|(simp only[gL,gA]<;>omega)|fail) only[gC,reduceIte,h5]
  rw[<-hh1]
  simp -implicitDefEqProofs (disch:=first|assumption|omega|(simp only[gL,gA]<;>omega)|fail) only[gC,reduceIte,rb,r1]
  refine WP.call (a4U v1 ok.n) ?_
  rintro _ h2 ⟨rfl,v2,f2,l2⟩
  have okS:=ok.sz (a4b b).1
  have r2:h2[h.length]?=some (.cells ⟨[I n.kind,I n.st,I n.lo,I n.hi,sL],0,0,false⟩):=by
   rw[f2.get (fun z=>by have:=hW _ z; omega) (by omega)]; exact r1
  have p0:PLs h0 h h2 W W ob h.length b.state.2 c5 .nils .nils 0 0 []:=by
   refine ⟨f2.ext (e0.trans e1) fun o z1 z2=>by have:=hW o z2; omega,l0,(FrS.ofExt e1).trans (f2.mono fun o _ z=>z),fun o z=>by have:=hW o z; omega,fun o z=>.inl z,v2,fun z=>by have:=hW _ z; omega,by rw[hcc]; exact r2,Nat.le_refl _,Gr.nil ..,Gr.nil ..,fun z=>absurd rfl z,fun z=>absurd rfl z⟩
  have fin:=fun (Q:AV->Heap->Prop) (hQ:∀h3 W3 sf st oA oB,PLs h0 h h3 W W3 ob h.length (NS.parts (elOf n) b.state.2).2 c5 sf st oA oB (NS.parts (elOf n) b.state.2).1->NSok (NS.parts (elOf n) b.state.2).2->WP (fun k:Nat=>d4_ k (.ptr ob 0 6 0) (.ptr h.length 0 5 0) (I b.state.1) sf st h3) Q)=>
   b2b (hE:=h) (W0:=W) (ob:=ob) (o3:=h.length) kv (el:=elOf n) (b0V hk) lel ih (fun c hc=>szn c (g.kid c (a2B hc))) (s:=b.state.1) (ftE:=(NS.parts (elOf n) b.state.2).1) (bE:=(NS.parts (elOf n) b.state.2).2) hQ (elOf n).length 0 h2 W b.state.2 .nils .nils 0 0 [] (by omega) rfl p0 okS rfl rfl
  have main:=fin (fun r h'=>r=.tup [I b.state.1,I (NS.parts (elOf n) b.state.2).2.state.1]/\BV (Wn W h h') h' ob (if (NS.parts (elOf n) b.state.2).2.state.2.much then (NS.parts (elOf n) b.state.2).2.state.2 else (NS.parts (elOf n) b.state.2).2.state.2.lead b.state.1 (NS.parts (elOf n) b.state.2).2.state.1 (NS.parts (elOf n) b.state.2).1 n)/\FrS W h h')
   (fun h3 W3 sf st oA oB p3 ok3=>b2d kv h5 p3 ok3 fun hm=>b2c g d hk ((b0f g b.state.2).2.2 (by
    cases hq:(NS.parts (elOf n) b.state.2).2.much with
    |false=>rfl
    |true=>rw[NS.state] at hm; split at hm<;>simp[hq] at hm)).2.1)
  have lk:(css.map id).length=n.kids.length:=by rw[List.length_map]; exact (NVs.length kv.nv).symm
  have slL:=(kv.sl.ext p0.e0).lenG
  rw[List.length_map] at lk
  by_cases k9:n.kind=9
  ·have hel:((elOf n).length:Int)=n.hi:=by
    cases n with
    |rep lo hi c=>simp[elOf,Nd.hi]
    |_=>simp[Nd.kind] at k9
   rw[hel] at main
   simp -implicitDefEqProofs (disch:=first|assumption|omega|(simp only[gL,gA]<;>omega)|fail) only[gC,reduceIte,r2,slL,k9]
   refine WP.congr (fun k:Nat=>q1_ k (.ptr ob 0 6 0) (.ptr h.length 0 5 0) (I b.state.1) .nils .nils (I n.hi) h2) ?_
   exact WP.ent main fun i=>rfl
  ·have hel:((elOf n).length:Int)=css.length:=by
    rw[lk]
    cases n with
    |rep lo hi c=>exact absurd rfl k9
    |join l=>exact absurd rfl hk
    |_=>simp[elOf,Nd.kids]
   rw[hel] at main
   simp -implicitDefEqProofs (disch:=first|assumption|omega|(simp only[gL,gA]<;>omega)|fail) only[gC,reduceIte,r2,slL,k9]
   refine WP.congr (fun k:Nat=>q1_ k (.ptr ob 0 6 0) (.ptr h.length 0 5 0) (I b.state.1) .nils .nils (I css.length) h2) ?_
   exact WP.ent main fun i=>rfl
end
end Go.Gm.AQ
namespace Go.Gm
def longer (l:List (List Int)):List (List Int):=l.flatMap fun w=>[w++[0],w++[1],w++[2],w++[3],w++[4]]
def wl:Nat->List (List Int)
 |0=>[[]]
 |t+1=>longer (wl t)
theorem a7q:∀{t:Nat} {w:List Int},w∈wl t↔w.length=t/\∀c∈w,0<=c/\c<5
 |0,w=>by
  simp only[wl,List.mem_singleton]
  constructor
  ·rintro rfl; simp
  ·rintro ⟨h,_⟩; exact List.eq_nil_of_length_eq_zero h
 |t+1,w=>by
  simp only[wl,longer,List.mem_flatMap,a7q (t:=t),List.mem_cons,List.not_mem_nil,or_false]
  constructor
  ·rintro ⟨v,⟨h1,h2⟩,h⟩
   have hc:∀k:Int,0<=k->k<5->(v++[k]).length=t+1/\∀c∈v++[k],0<=c/\c<5:=by
    intro k k0 k1
    refine ⟨by simp[h1],fun c hc=>?_⟩
    rcases List.mem_append.1 hc with hc|hc
    ·exact h2 c hc
    ·rw[List.mem_singleton.1 hc]; exact ⟨k0,k1⟩
   rcases h with rfl|rfl|rfl|rfl|rfl
   ·exact hc 0 (by omega) (by omega)
   ·exact hc 1 (by omega) (by omega)
   ·exact hc 2 (by omega) (by omega)
   ·exact hc 3 (by omega) (by omega)
   ·exact hc 4 (by omega) (by omega)
  ·rintro ⟨h1,h2⟩
   have hne:w≠[]:=by rintro rfl; simp at h1
   refine ⟨w.dropLast,⟨by simp[h1],fun c hc=>h2 c (List.dropLast_subset _ hc)⟩,?_⟩
   have hl:=h2 (w.getLast hne) (List.getLast_mem hne)
   have he:w.dropLast++[w.getLast hne]=w:=List.dropLast_concat_getLast hne
   obtain ⟨k,hk⟩:∃k,w.getLast hne=k:=⟨_,rfl⟩
   rw[hk] at hl he
   have:k=0\/k=1\/k=2\/k=3\/k=4:=by omega
   rcases this with q|q|q|q|q<;>subst q<;>simp[he]
open Classical in
noncomputable def wordsN (n:Nd) (most:Nat):List (List Int):=((List.range (most+1)).flatMap wl).filter fun w=>decide (In n w)
def incR:List Int->List Int × Bool
 |[]=>([],true)
 |c::r=>if c+1<5 then ((c+1)::r,false) else (0::(incR r).1,(incR r).2)
def inc (w:List Int):List Int × Bool:=((incR w.reverse).1.reverse,(incR w.reverse).2)
def nxt (w:List Int):List Int:=if (inc w).2 then (inc w).1++[0] else (inc w).1
end Go.Gm
namespace Go.Gm
theorem b3g {s:Nat}{w:List Int}:In (.set s) w↔∃c,w=[c]/\0<=c/\c<5/\s.testBit c.toNat=true:=by
 simp only[In,R,hit]
 constructor
 ·rintro ⟨⟨c,h1,h2⟩,h3⟩
  match w,h1,h3 with
  |[x],h1,_=>simp at h1; subst h1; exact ⟨x,rfl,h2⟩
 ·rintro ⟨c,rfl,h⟩
  exact ⟨⟨c,rfl,h⟩,rfl⟩
theorem Star.iff {r:Nat->Nat->Prop}{i j:Nat}:Star r i j↔i=j\/∃m,r i m/\Star r m j:=by
 constructor
 ·intro h
  induction h with
  |refl=>exact .inl rfl
  |tail a b ih=>
   rcases ih with rfl|⟨m,u1,u2⟩
   ·exact .inr ⟨_,b,.refl _⟩
   ·exact .inr ⟨m,u1,.tail u2 b⟩
 ·rintro (rfl|⟨m,h1,h2⟩)
  ·exact .refl _
  ·exact .head h1 h2
section
variable {k L:Nat} {r r':Nat->Nat->Prop}
theorem Star.up (h:∀i j,r' i j->r (k+i) (k+j)){i j:Nat}(a:Star r' i j):Star r (k+i) (k+j):=by
 induction a with
 |refl=>exact .refl _
 |tail _ b ih=>exact .tail ih (h _ _ b)
theorem Pow.up (h:∀i j,r' i j->r (k+i) (k+j)):∀{t i j:Nat},Pow r' t i j->Pow r t (k+i) (k+j)
 |0,i,j,a=>by cases a; exact rfl
 |t+1,i,j,⟨m,a,b⟩=>⟨k+m,Pow.up h a,h _ _ b⟩
end
section
variable (u v z:List Int)
end
theorem b3h {a b:Nd}{w:List Int}:In (.uni [a,b]) w↔In a w\/In b w:=by simp[In,R,RU]
end Go.Gm
