/- A part of the proof (GmAQpb, GmAQpc, GmNw, GmAQsh, GmAQtb, GmAQKN, GmAQUb, GmAQsm, GmAQL4, GmAQL5, GmEntry, GmRaw). -/
import Derived.OpenShut
import Derived.ChangeArms
import Derived.DataReads
import Derived.Test.YtldnkafmanalmaaProductSumsP12
set_option linter.unusedVariables false
set_option linter.unusedSimpArgs false
set_option linter.unusedSectionVars false
namespace Go.Gm.AQ
open Go Go.Gm
abbrev RD (S:ByteArray)(p d:Nat):AObj:=.cells ⟨[.str S,I p,I d,I 0],0,0,false⟩
abbrev Z5:AObj:=.cells ⟨[I 0,I 0,I 0,I 0,.nils],0,0,false⟩
section
variable (S:ByteArray) (ro:Nat) (f:Nat)
def AtS:Prop:=∀(d p:Nat) (n:Nd) (q:Nat) (h:Heap),prs S f d .at p=some (n,q)→d≤30→h[ro]?=some (RD S p d)→Tot tab g1_ [.ptr ro 0 4 0] h (PR S ro h d n q)
def PcS:Prop:=∀(d p:Nat) (n:Nd) (q:Nat) (h:Heap),prs S f d .pc p=some (n,q)→d≤30→h[ro]?=some (RD S p d)→Tot tab c1_ [.ptr ro 0 4 0] h (PR S ro h d n q)
def JnS:Prop:=∀(d p:Nat) (n:Nd) (q:Nat) (h:Heap),prs S f d .jn p=some (n,q)→d≤30→h[ro]?=some (RD S p d)→Tot tab c3_ [.ptr ro 0 4 0] h (PR S ro h d n q)
def UnS:Prop:=∀(d p:Nat) (n:Nd) (q:Nat) (h:Heap),prs S f d .un p=some (n,q)→d≤30→h[ro]?=some (RD S p d)→Tot tab c0_ [.ptr ro 0 4 0] h (PR S ro h d n q)
def PclS:Prop:=∀(d p:Nat) (n m:Nd) (q:Nat) (h H:Heap) (no:Nat) (c5:List AV),prs S f d (.pcl n) p=some (m,q)→d≤30→ro<h.length→FrS (fun o=>o=ro) h H→H[ro]?=some (RD S p d)→H[h.length]?=some Z5→h.length<no→H[no]?=some (.cells ⟨c5,0,0,false⟩)→
 NVD H (fun o=>h.length<o∧o<H.length∧o≠no) n c5→WP (fun p':Nat × Nat=>c7_ tab p'.1 p'.2 (.ptr ro 0 4 0) (.ptr h.length 0 5 0) (.ptr no 0 5 0) H) (PR S ro h d m q)
structure NL (S:ByteArray) (ro:Nat) (h H:Heap) (d p:Nat) (s:AV) (lg:Nat) (l:List Nd) (css:List (List AV)):Prop where
 hro:ro<h.length
 fr:FrS (fun o=>o=ro) h H
 hr:H[ro]?=some (RD S p d)
 ht:H[h.length]?=some Z5
 gr:Gr lg (lg+1) H 5 s css
 lgl:h.length<lg∧lg<H.length
 nn:s≠.nils
 nvs:NVDs H (fun o=>h.length<o∧o<H.length∧o≠lg) l css
def JnlS:Prop:=∀(d p:Nat) (l:List Nd) (m:Nd) (q:Nat) (h H:Heap) (s:AV) (lg:Nat) (css:List (List AV)),prs S f d (.jnl l) p=some (m,q)→d≤30→l≠[]→l.length+f≤1000000→NL S ro h H d p s lg l css→
 WP (fun p':Nat × Nat=>j6_ tab p'.1 p'.2 (.ptr ro 0 4 0) (.ptr h.length 0 5 0) s H) (PR S ro h d m q)
def UnlS:Prop:=∀(d p:Nat) (l:List Nd) (m:Nd) (q:Nat) (h H:Heap) (s:AV) (lg:Nat) (css:List (List AV)),prs S f d (.unl l) p=some (m,q)→d≤30→l≠[]→l.length+f≤1000000→NL S ro h H d p s lg l css→
 WP (fun p':Nat × Nat=>h9_ tab p'.1 p'.2 (.ptr ro 0 4 0) (.ptr h.length 0 5 0) s H) (PR S ro h d m q)
end
section
variable {S:ByteArray} {ro:Nat} {f:Nat}
theorem b8r (hU:UnS S ro f)(hS:S.size≤200){h:Heap}{p d q:Nat}{n:Nd}(hu:prs S f (d+1) .un p=some (n,q))(h41:bt S q=some 41)(hd:d<30)(hr:h[ro]?=some (RD S p d)) :
  Tot tab f7_ [.ptr ro 0 4 0] h (PR S ro h d n (q+1)):=by
 refine WP.tot (fun k=>(a5J k _ h).trans (a6L tab k _ h)) ?_
 have hro:=(List.getElem?_eq_some_iff.1 hr).1
 have hq:=bt_lt h41
 obtain ⟨H1,hH1⟩:∃H1,H1=(h++[Z5]).set ro (.cells ⟨[.str S,I p,I ((d:Int)+1),I 0],0,0,false⟩):=⟨_,rfl⟩
 have r1:H1[ro]?=some (RD S p (d+1)):=by rw[hH1,List.getElem?_set_self (by simp; omega)]; rfl
 have t1:H1[h.length]?=some Z5:=by rw[hH1,List.getElem?_set_ne (by omega)]; simp
 have f1:FrS (fun o=>o=ro) h H1:=by rw[hH1]; exact a6B (FrS.ofExt (Ext.push _ _)) _
 have l1:H1.length=h.length+1:=by rw[hH1]; simp
 simp -implicitDefEqProofs (disch:=first|assumption|omega|(simp only[gL,gA]<;>omega)|fail) only[gC,reduceIte,hr]
 rw[←hH1]
 refine WP.call (hU (d+1) p n q H1 hu (by omega) r1) ?_
 rintro _ H2 ⟨f2,r2,c5,rfl,nv⟩
 obtain ⟨s5,rfl,ho5⟩:=nv.inv
 have l2:=f2.len
 have t2:H2[h.length]?=some Z5:=(f2.get (by omega) (by omega)).trans t1
 have e3:Ext H2 (H2++[AObj.cells ⟨[I n.kind,I n.st,I n.lo,I n.hi,s5],0,0,false⟩]):=Ext.push _ _
 have r3:=e3.get r2
 have t3:=e3.get t2
 have x3:(H2++[AObj.cells ⟨[I n.kind,I n.st,I n.lo,I n.hi,s5],0,0,false⟩])[H2.length]?=some (.cells ⟨[I n.kind,I n.st,I n.lo,I n.hi,s5],0,0,false⟩):=by simp
 simp -implicitDefEqProofs (disch:=first|assumption|omega|(simp only[gL,gA]<;>omega)|fail) only[gC,reduceIte,ho5,m8_]
 have f3:FrS (fun o=>o=ro) h (H2++[AObj.cells ⟨[I n.kind,I n.st,I n.lo,I n.hi,s5],0,0,false⟩]):=(f1.trans f2).trans (FrS.ofExt e3)
 have nv3:=nv.ext e3 (D':=fun o=>h.length<o∧o<H2.length) fun o h1 h2=>by omega
 have l3:H2.length<(H2++[AObj.cells ⟨[I n.kind,I n.st,I n.lo,I n.hi,s5],0,0,false⟩]).length:=by simp
 generalize H2++[AObj.cells ⟨[I n.kind,I n.st,I n.lo,I n.hi,s5],0,0,false⟩]=H3 at *
 refine WP.call (a6A r3 h41) ?_
 rintro _ _ ⟨rfl,rfl⟩
 have b1:=neu_f (a:=41) (b:=41) rfl
 have hne:¬ro=h.length:=by omega
 have hne2:¬ro=H2.length:=by omega
 have hrl:ro<H3.length:=by omega
 have hd1:((d+1:Nat):Int)-1=d:=by omega
 simp -implicitDefEqProofs (disch:=first|assumption|omega|(simp only[gL,gA]<;>omega)|fail) only[gC,reduceIte,a6_,b1,r3,hd1,x3,ho5,t3]
 refine WP.ret (PR.fin hro (a6B (a6B f3 _) _) ?_ ((nv3.frs (FrS.set1 H3 ro _) (D':=fun o=>h.length<o∧o<H3.length) (fun o h1 h2 h3=>by omega) (fun o h1 h2=>by omega)).frs (FrS.set1 _ ro _) (fun o h1 h2 h3=>by omega) fun o h1 h2=>by simp; omega))
 rw[List.getElem?_set_self (by simp; exact hrl)]
 rfl
theorem c1S (hU:UnS S ro f)(hS:S.size≤200):AtS S ro (f+1):=by
 intro d p n q h hp hd hr
 refine WP.tot (fun k=>(a6x k _ h).trans (a7n tab k _ h)) ?_
 have hro:=(List.getElem?_eq_some_iff.1 hr).1
 have e1:Ext h (h++[Z5]):=Ext.push _ _
 have r1:=e1.get hr
 have t1:(h++[Z5])[h.length]?=some Z5:=by simp
 have f1:FrS (fun o=>o=ro) h (h++[Z5]):=FrS.ofExt e1
 have l1:(h++[Z5]).length=h.length+1:=by simp
 rw[prs] at hp
 cases hb:bt S p with
 |none=>rw[hb] at hp; cases hp
 |some c=>
 rw[hb] at hp
 simp only at hp
 have hlt:=bt_lt hb
 simp -implicitDefEqProofs (disch:=first|assumption|omega|(simp only[gL,gA]<;>omega)|fail) only[gC,reduceIte]
 generalize h++[Z5]=H1 at *
 refine WP.call (a6A r1 hb) ?_
 rintro _ _ ⟨rfl,rfl⟩
 have hne:¬ro=h.length:=by omega
 have hrl:ro<H1.length:=by omega
 obtain ⟨H2,hH2⟩:∃H2,H2=H1.set ro (.cells ⟨[.str S,I ((p:Int)+1),I d,I 0],0,0,false⟩):=⟨_,rfl⟩
 have r2:H2[ro]?=some (RD S (p+1) d):=by rw[hH2,List.getElem?_set_self hrl]; rfl
 have t2:H2[h.length]?=some Z5:=by rw[hH2,List.getElem?_set_ne hne]; exact t1
 have f2:FrS (fun o=>o=ro) h H2:=by rw[hH2]; exact a6B f1 _
 have l2:H2.length=h.length+1:=by rw[hH2]; simp; exact l1
 have leaf:∀{n:Nd},n.kids=[]→PR S ro h d n (p+1) (.agg [I n.kind,I n.st,I n.lo,I n.hi,.nils]) (H2.set h.length (.cells ⟨[I n.kind,I n.st,I n.lo,I n.hi,.nils],0,0,false⟩)):=fun hk=>PR.fin hro f2 r2 (a9z hk)
 have callee:∀{n:Nd} {q:Nat} {v:AV} {H3:Heap},PR S ro H2 d n q v H3→∃s5,v=.agg [I n.kind,I n.st,I n.lo,I n.hi,s5]∧s5.one=true∧H3[h.length]?=some Z5∧h.length<H3.length∧PR S ro h d n q v (H3.set h.length (.cells ⟨[I n.kind,I n.st,I n.lo,I n.hi,s5],0,0,false⟩)):=by
  rintro n q v H3 ⟨f3,r3,c5,rfl,nv⟩
  obtain ⟨s5,rfl,ho5⟩:=nv.inv
  have:=f3.len
  exact ⟨s5,rfl,ho5,(f3.get (by omega) (by omega)).trans t2,by omega,PR.fin hro (f2.trans f3) r3 (nv.frs (FrS.refl (fun _=>False) _) (fun _ _ _ z=>z) fun o h1 h2=>by omega)⟩
 by_cases h40:c=40
 ·subst h40
  rw[if_pos rfl] at hp
  by_cases h30:30≤d
  ·rw[if_pos h30] at hp; cases hp
  rw[if_neg h30] at hp
  cases hu:prs S f (d+1) .un (p+1) with
  |none=>rw[hu] at hp; cases hp
  |some x=>
  obtain ⟨n',q'⟩:=x
  rw[hu] at hp
  simp only at hp
  by_cases h41:bt S q'=some 41
  ·rw[if_pos h41] at hp
   injection hp with hp
   injection hp with hp1 hp2
   subst hp1 hp2
   have a1:=equ_t (a:=40) (b:=40) rfl
   have a2:=equ_f (a:=40) (b:=46) (by omega)
   have a3:=equ_f (a:=40) (b:=48) (by omega)
   have a4:=equ_f (a:=40) (b:=95) (by omega)
   have a5:=equ_f (a:=40) (b:=91) (by omega)
   simp -implicitDefEqProofs (disch:=first|assumption|omega|(simp only[gL,gA]<;>omega)|fail) only[gC,reduceIte,a6_,a1,r1]
   rw[←hH2]
   refine WP.call (a5w H2) ?_
   rintro _ _ ⟨rfl,rfl⟩
   rw[show mdI 40 = -1 from rfl]
   simp -implicitDefEqProofs (disch:=first|assumption|omega|(simp only[gL,gA]<;>omega)|fail) only[gC,reduceIte,a1,a2,a3,a4,a5]
   refine WP.call (b8r hU hS hu h41 (by omega) r2) ?_
   rintro v H3 hv
   obtain ⟨s5,rfl,ho5,t3,hl3,res⟩:=callee hv
   simp -implicitDefEqProofs (disch:=first|assumption|omega|(simp only[gL,gA]<;>omega)|fail) only[gC,reduceIte,t3,ho5]
   exact WP.ret res
  ·rw[if_neg h41] at hp; cases hp
 ·rw[if_neg h40] at hp
  have a1:=equ_f (a:=c) (b:=40) (by omega)
  cases hm:md c with
  |some m=>
   rw[hm] at hp
   injection hp with hp
   injection hp with hp1 hp2
   subst hp1 hp2
   obtain ⟨hmi,hm5⟩:=mdI_t hm
   simp -implicitDefEqProofs (disch:=first|assumption|omega|(simp only[gL,gA]<;>omega)|fail) only[gC,reduceIte,a6_,a1,r1]
   rw[←hH2]
   refine WP.call (a5w H2) ?_
   rintro _ _ ⟨rfl,rfl⟩
   rw[hmi]
   simp -implicitDefEqProofs (disch:=first|assumption|omega|(simp only[gL,gA]<;>omega)|fail) only[gC,reduceIte]
   refine WP.call (a5w _) ?_
   rintro _ _ ⟨rfl,rfl⟩
   rw[hmi]
   have hcv:convV .u64 (I (m:Int))=some (.int .u64 m):=a7c (by omega) (by omega)
   have hsh:binV .shl .scalar (.int .i64 1) (.int .u64 (m:Int))=some (I ((2 ^ m:Nat):Int)):=by
    have:=shl_i (k:=.u64) (m:=(m:Int)) (by omega) (by omega)
    simpa using this
   simp -implicitDefEqProofs (disch:=first|assumption|omega|(simp only[gL,gA]<;>omega)|fail) only[gC,reduceIte,hcv,hsh,t2]
   exact WP.ret (leaf (n:=.set (2 ^ m)) rfl)
  |none=>
   rw[hm] at hp
   simp only at hp
   have hmi:=mdI_f hm
   simp -implicitDefEqProofs (disch:=first|assumption|omega|(simp only[gL,gA]<;>omega)|fail) only[gC,reduceIte,a6_,a1,r1]
   rw[←hH2]
   refine WP.call (a5w H2) ?_
   rintro _ _ ⟨rfl,rfl⟩
   rw[hmi]
   by_cases h46:c=46
   ·subst h46
    rw[if_pos rfl] at hp
    injection hp with hp
    injection hp with hp1 hp2
    subst hp1 hp2
    have a2:=equ_t (a:=46) (b:=46) rfl
    simp -implicitDefEqProofs (disch:=first|assumption|omega|(simp only[gL,gA]<;>omega)|fail) only[gC,reduceIte,a2,t2]
    exact WP.ret (leaf (n:=.set 31) rfl)
   rw[if_neg h46] at hp
   have a2:=equ_f (a:=c) (b:=46) (by omega)
   by_cases h48:c=48
   ·subst h48
    rw[if_pos rfl] at hp
    injection hp with hp
    injection hp with hp1 hp2
    subst hp1 hp2
    have a3:=equ_t (a:=48) (b:=48) rfl
    simp -implicitDefEqProofs (disch:=first|assumption|omega|(simp only[gL,gA]<;>omega)|fail) only[gC,reduceIte,a2,a3,t2]
    exact WP.ret (leaf (n:=.emp) rfl)
   rw[if_neg h48] at hp
   have a3:=equ_f (a:=c) (b:=48) (by omega)
   by_cases h95:c=95
   ·subst h95
    rw[if_pos rfl] at hp
    injection hp with hp
    injection hp with hp1 hp2
    subst hp1 hp2
    have a4:=equ_t (a:=95) (b:=95) rfl
    simp -implicitDefEqProofs (disch:=first|assumption|omega|(simp only[gL,gA]<;>omega)|fail) only[gC,reduceIte,a2,a3,a4,t2]
    exact WP.ret (leaf (n:=.eps) rfl)
   rw[if_neg h95] at hp
   have a4:=equ_f (a:=c) (b:=95) (by omega)
   by_cases h91:c=91
   ·subst h91
    rw[if_pos rfl] at hp
    cases hcl:clsF S f (p+1) 0 with
    |none=>rw[hcl] at hp; cases hp
    |some x=>
    obtain ⟨s',q'⟩:=x
    rw[hcl] at hp
    injection hp with hp
    injection hp with hp1 hp2
    subst hp1 hp2
    have a5:=equ_t (a:=91) (b:=91) rfl
    simp -implicitDefEqProofs (disch:=first|assumption|omega|(simp only[gL,gA]<;>omega)|fail) only[gC,reduceIte,a2,a3,a4,a5]
    refine WP.call (c0B hS hcl r2) ?_
    rintro v H3 hv
    obtain ⟨s5,rfl,ho5,t3,hl3,res⟩:=callee hv
    simp -implicitDefEqProofs (disch:=first|assumption|omega|(simp only[gL,gA]<;>omega)|fail) only[gC,reduceIte,t3,ho5]
    exact WP.ret res
   ·rw[if_neg h91] at hp; cases hp
theorem c0D {d p:Nat}{h H:Heap}{no:Nat}{Q:AV→Heap→Prop}(hp:p<200)(hr:H[ro]?=some (RD S p d))(hK:WP (fun p':Nat × Nat=>c7_ tab p'.1 p'.2 (.ptr ro 0 4 0) (.ptr h.length 0 5 0) (.ptr no 0 5 0) (H.set ro (RD S (p+1) d))) Q) :
  WP (fun p':Nat × Nat=>c8_ tab p'.1 p'.2 (.ptr ro 0 4 0) (.ptr h.length 0 5 0) (.ptr no 0 5 0) H) Q:=by
 refine WP.congr (fun p'=>a4I tab p'.1 p'.2 (.ptr ro 0 4 0) (.ptr h.length 0 5 0) (.ptr no 0 5 0) H) ?_
 simp -implicitDefEqProofs (disch:=first|assumption|omega|(simp only[gL,gA]<;>omega)|fail) only[gC,reduceIte,hr]
 exact hK
theorem c0E (ih:PclS S ro f)(hS:S.size≤200):PclS S ro (f+1):=by
 intro d p n m q h H no c5 hp hd hro fr hr ht hno hn nv
 refine WP.rnd (fun i' j=>a4J tab i' j (.ptr ro 0 4 0) (.ptr h.length 0 5 0) (.ptr no 0 5 0) H) ?_
 rw[prs] at hp
 have htl:=(List.getElem?_eq_some_iff.1 ht).1
 have hnl:=(List.getElem?_eq_some_iff.1 hn).1
 have hrl:ro<H.length:=by omega
 obtain ⟨s5,rfl,ho5⟩:=nv.inv
 have stop:∀{m:Nd},m=n→PR S ro h d m p (.agg [I n.kind,I n.st,I n.lo,I n.hi,s5]) (H.set h.length (.cells ⟨[I n.kind,I n.st,I n.lo,I n.hi,s5],0,0,false⟩)):=by
  rintro m rfl
  exact PR.fin hro fr hr (nv.frs (FrS.refl (fun _=>False) _) (fun _ _ _ z=>z) fun o h1 h2=>⟨h2.1,h1⟩)
 have more:∀{n':Nd},n'.kids=[n]→FrS (fun o=>o=ro) h (((H++[AObj.cells ⟨[I n.kind,I n.st,I n.lo,I n.hi,s5],0,0,false⟩]).set no (.cells ⟨[I n'.kind,I n'.st,I n'.lo,I n'.hi,.sl H.length 0 1 5 none 0],0,0,false⟩)))∧
   ((H++[AObj.cells ⟨[I n.kind,I n.st,I n.lo,I n.hi,s5],0,0,false⟩]).set no (.cells ⟨[I n'.kind,I n'.st,I n'.lo,I n'.hi,.sl H.length 0 1 5 none 0],0,0,false⟩))[h.length]?=some Z5∧
   NVD ((H++[AObj.cells ⟨[I n.kind,I n.st,I n.lo,I n.hi,s5],0,0,false⟩]).set no (.cells ⟨[I n'.kind,I n'.st,I n'.lo,I n'.hi,.sl H.length 0 1 5 none 0],0,0,false⟩)) (fun o=>h.length<o∧o<H.length+1∧o≠no) n' [I n'.kind,I n'.st,I n'.lo,I n'.hi,.sl H.length 0 1 5 none 0]:=by
  intro n' hk
  have e1:Ext H (H++[AObj.cells ⟨[I n.kind,I n.st,I n.lo,I n.hi,s5],0,0,false⟩]):=Ext.push _ _
  refine ⟨⟨by simp; have:=fr.len; omega,fun o h1 h2=>?_⟩,?_,.mk (css:=[[I n.kind,I n.st,I n.lo,I n.hi,s5]]) (b6z (by rw[List.getElem?_set_ne (by omega)]; simp) rfl (by simp)) (fun _=>?_) ?_⟩
  ·rw[List.getElem?_set_ne (by omega),(a3E.1 e1).2 o (by omega),fr.get h1 h2]
  ·rw[List.getElem?_set_ne (by omega)]; exact e1.get ht
  ·exact ⟨by simp[AV.obj]; omega,by simp[AV.obj],by simp[AV.obj]; omega⟩
  ·rw[hk]
   exact .cons ((nv.ext e1 (D':=fun o=>h.length<o∧o<H.length∧o≠no) fun _ _ z=>z).frs (FrS.set1 _ no _) (fun o h1 h2 h3=>h2.2.2 h3) fun o h1 h2=>⟨h2.1,by omega,h2.2.2⟩) .nil
 cases hb:bt S p with
 |none=>
  rw[hb] at hp
  injection hp with hp
  injection hp with hp1 hp2
  subst hp2
  refine WP.call (b6T hr hb) ?_
  rintro _ _ ⟨rfl,rfl⟩
  simp -implicitDefEqProofs (disch:=first|assumption|omega|(simp only[gL,gA]<;>omega)|fail) only[gC,reduceIte,a6_,hn,ho5,ht]
  exact WP.lv (WP.ret (stop hp1.symm)) fun i j=>rfl
 |some c=>
  rw[hb] at hp
  simp only at hp
  have hlt:=bt_lt hb
  refine WP.call (a6A hr hb) ?_
  rintro _ _ ⟨rfl,rfl⟩
  have cont:∀{n':Nd} (hk:n'.kids=[n]) (hq:prs S f d (.pcl n') (p+1)=some (m,q)),
    WP (fun p':Nat × Nat=>c8_ tab p'.1 p'.2 (.ptr ro 0 4 0) (.ptr h.length 0 5 0) (.ptr no 0 5 0) ((H++[AObj.cells ⟨[I n.kind,I n.st,I n.lo,I n.hi,s5],0,0,false⟩]).set no (.cells ⟨[I n'.kind,I n'.st,I n'.lo,I n'.hi,.sl H.length 0 1 5 none 0],0,0,false⟩))) (PR S ro h d m q):=by
   intro n' hk hq
   obtain ⟨k1,k2,k3⟩:=more hk
   have e1:Ext H (H++[AObj.cells ⟨[I n.kind,I n.st,I n.lo,I n.hi,s5],0,0,false⟩]):=Ext.push _ _
   have hl1:(H++[AObj.cells ⟨[I n.kind,I n.st,I n.lo,I n.hi,s5],0,0,false⟩]).length=H.length+1:=by simp
   have r1:((H++[AObj.cells ⟨[I n.kind,I n.st,I n.lo,I n.hi,s5],0,0,false⟩]).set no (.cells ⟨[I n'.kind,I n'.st,I n'.lo,I n'.hi,.sl H.length 0 1 5 none 0],0,0,false⟩))[ro]?=some (RD S p d):=by
    rw[List.getElem?_set_ne (by omega)]; exact e1.get hr
   have x1:((H++[AObj.cells ⟨[I n.kind,I n.st,I n.lo,I n.hi,s5],0,0,false⟩]).set no (.cells ⟨[I n'.kind,I n'.st,I n'.lo,I n'.hi,.sl H.length 0 1 5 none 0],0,0,false⟩))[no]?=some (.cells ⟨[I n'.kind,I n'.st,I n'.lo,I n'.hi,.sl H.length 0 1 5 none 0],0,0,false⟩):=List.getElem?_set_self (by omega)
   have hl2:((H++[AObj.cells ⟨[I n.kind,I n.st,I n.lo,I n.hi,s5],0,0,false⟩]).set no (.cells ⟨[I n'.kind,I n'.st,I n'.lo,I n'.hi,.sl H.length 0 1 5 none 0],0,0,false⟩)).length=H.length+1:=by simp
   generalize ((H++[AObj.cells ⟨[I n.kind,I n.st,I n.lo,I n.hi,s5],0,0,false⟩]).set no (.cells ⟨[I n'.kind,I n'.st,I n'.lo,I n'.hi,.sl H.length 0 1 5 none 0],0,0,false⟩))=H2 at *
   refine c0D (by omega) r1 ?_
   refine ih d (p+1) n' m q h _ no _ hq hd hro (a6B k1 _) (List.getElem?_set_self (by omega)) (by rw[List.getElem?_set_ne (by omega)]; exact k2) hno (by rw[List.getElem?_set_ne (by omega)]; exact x1) ?_
   exact k3.frs (FrS.set1 H2 ro _) (fun o h1 h2 h3=>by omega) fun o h1 h2=>⟨h2.1,by simp; omega,h2.2.2⟩
  by_cases h42:c=42
  ·subst h42
   rw[if_pos rfl] at hp
   have a1:=equ_t (a:=42) (b:=42) rfl
   simp -implicitDefEqProofs (disch:=first|assumption|omega|(simp only[gL,gA]<;>omega)|fail) only[gC,reduceIte,a6_,a1,hn,ho5]
   exact cont (n':=.star n) rfl hp
  rw[if_neg h42] at hp
  have a1:=equ_f (a:=c) (b:=42) (by omega)
  by_cases h43:c=43
  ·subst h43
   rw[if_pos rfl] at hp
   have a2:=equ_t (a:=43) (b:=43) rfl
   simp -implicitDefEqProofs (disch:=first|assumption|omega|(simp only[gL,gA]<;>omega)|fail) only[gC,reduceIte,a6_,a1,a2,hn,ho5]
   exact cont (n':=.plus n) rfl hp
  rw[if_neg h43] at hp
  have a2:=equ_f (a:=c) (b:=43) (by omega)
  by_cases h63:c=63
  ·subst h63
   rw[if_pos rfl] at hp
   have a3:=equ_t (a:=63) (b:=63) rfl
   simp -implicitDefEqProofs (disch:=first|assumption|omega|(simp only[gL,gA]<;>omega)|fail) only[gC,reduceIte,a6_,a1,a2,a3,hn,ho5]
   exact cont (n':=.opt n) rfl hp
  rw[if_neg h63] at hp
  have a3:=equ_f (a:=c) (b:=63) (by omega)
  by_cases h123:c=123
  ·subst h123
   rw[if_pos rfl] at hp
   cases htm:tms S (p+1) with
   |none=>rw[htm] at hp; cases hp
   |some x=>
   obtain ⟨a,b,q'⟩:=x
   rw[htm] at hp
   simp only at hp
   have a4:=equ_t (a:=123) (b:=123) rfl
   obtain ⟨H1,hH1⟩:∃H1,H1=H.set ro (.cells ⟨[.str S,I ((p:Int)+1),I d,I 0],0,0,false⟩):=⟨_,rfl⟩
   have r1:H1[ro]?=some (RD S (p+1) d):=by rw[hH1,List.getElem?_set_self hrl]; rfl
   have t1:H1[h.length]?=some Z5:=by rw[hH1,List.getElem?_set_ne (by omega)]; exact ht
   have x1:H1[no]?=some (.cells ⟨[I n.kind,I n.st,I n.lo,I n.hi,s5],0,0,false⟩):=by rw[hH1,List.getElem?_set_ne (by omega)]; exact hn
   have f1:FrS (fun o=>o=ro) h H1:=by rw[hH1]; exact a6B fr _
   have l1:H1.length=H.length:=by rw[hH1]; simp
   have nv1:NVD H1 (fun o=>h.length<o∧o<H.length∧o≠no) n [I n.kind,I n.st,I n.lo,I n.hi,s5]:=by
    rw[hH1]
    exact nv.frs (FrS.set1 H ro _) (fun o h1 h2 h3=>by omega) fun _ _ z=>z
   simp -implicitDefEqProofs (disch:=first|assumption|omega|(simp only[gL,gA]<;>omega)|fail) only[gC,reduceIte,a6_,a1,a2,a3,a4,hr]
   rw[←hH1]
   simp -implicitDefEqProofs (disch:=first|assumption|omega|(simp only[gL,gA]<;>omega)|fail) only[gC,reduceIte,hn]
   refine WP.call (c0C hS htm (by omega) r1 nv1 (fun o z=>by omega)) ?_
   rintro _ H3 ⟨f3,r3,c,rfl,nv3⟩
   obtain ⟨s6,rfl,ho6⟩:=nv3.inv
   have l3:=f3.len
   have x3:=(f3.get (o:=no) (by omega) (by omega)).trans x1
   have t3:=(f3.get (o:=h.length) (by omega) (by omega)).trans t1
   simp -implicitDefEqProofs (disch:=first|assumption|omega|(simp only[gL,gA]<;>omega)|fail) only[gC,reduceIte,x3,ho6]
   refine ih d q' (.rep a b n) m q h _ no _ hp hd hro (⟨by simp; have:=f1.len; omega,fun o h1 h2=>?_⟩) (by rw[List.getElem?_set_ne (by omega)]; exact r3) (by rw[List.getElem?_set_ne (by omega)]; exact t3) hno (List.getElem?_set_self (by omega)) ?_
   ·rw[List.getElem?_set_ne (by omega),f3.get h1 (by have:=f1.len; omega),f1.get h1 h2]
   ·exact nv3.frs (FrS.set1 H3 no _) (fun o h1 h2 h3=>by omega) fun o h1 h2=>by simp; omega
  ·rw[if_neg h123] at hp
   injection hp with hp
   injection hp with hp1 hp2
   subst hp2
   have a4:=equ_f (a:=c) (b:=123) (by omega)
   simp -implicitDefEqProofs (disch:=first|assumption|omega|(simp only[gL,gA]<;>omega)|fail) only[gC,reduceIte,a6_,a1,a2,a3,a4,hn,ho5,ht]
   exact WP.lv (WP.ret (stop hp1.symm)) fun i j=>rfl
theorem c1T (ha:AtS S ro f)(hl:PclS S ro f):PcS S ro (f+1):=by
 intro d p n q h hp hd hr
 refine WP.tot (fun k=>(a5F k _ h).trans (a6F tab k _ h)) ?_
 have hro:=(List.getElem?_eq_some_iff.1 hr).1
 rw[prs] at hp
 cases hx:prs S f d .at p with
 |none=>rw[hx] at hp; cases hp
 |some x=>
 obtain ⟨n1,q1⟩:=x
 rw[hx] at hp
 simp only at hp
 have e1:Ext h (h++[Z5]):=Ext.push _ _
 have t1:(h++[Z5])[h.length]?=some Z5:=by simp
 have l1:(h++[Z5]).length=h.length+1:=by simp
 simp -implicitDefEqProofs (disch:=first|assumption|omega|(simp only[gL,gA]<;>omega)|fail) only[gC,reduceIte]
 refine WP.call (ha d p n1 q1 (h++[Z5]) hx hd (e1.get hr)) ?_
 rintro _ H2 ⟨f2,r2,c5,rfl,nv⟩
 obtain ⟨s5,rfl,ho5⟩:=nv.inv
 have l2:=f2.len
 have t2:=(f2.get (o:=h.length) (by omega) (by omega)).trans t1
 have e3:Ext H2 (H2++[AObj.cells ⟨[I n1.kind,I n1.st,I n1.lo,I n1.hi,s5],0,0,false⟩]):=Ext.push _ _
 simp -implicitDefEqProofs (disch:=first|assumption|omega|(simp only[gL,gA]<;>omega)|fail) only[gC,reduceIte,ho5,m8_]
 exact WP.ent (hl d q1 n1 n q h _ H2.length _ hp hd hro (((FrS.ofExt e1).trans f2).trans (FrS.ofExt e3)) (e3.get r2) (e3.get t2) (by omega) (by simp) (nv.ext e3 fun o h1 h2=>⟨by omega,by simp; omega,by omega⟩)) fun i=>rfl
end
end Go.Gm.AQ
namespace Go.Gm.AQ
open Go Go.Gm
section
variable {S:ByteArray} {ro:Nat} {f:Nat} {h H:Heap} {d p:Nat} {s:AV} {lg:Nat} {l:List Nd} {css:List (List AV)}
theorem NL.setR (a:NL S ro h H d p s lg l css){p' d':Nat}:NL S ro h (H.set ro (RD S p' d')) d' p' s lg l css:=by
 have h1:=a.hro
 have h2:=a.fr.len
 have h3:=a.lgl
 refine ⟨a.hro,a6B a.fr _,List.getElem?_set_self (by omega),by rw[List.getElem?_set_ne (by omega)]; exact a.ht,a.gr.set (by omega) _,by simp; exact a.lgl,a.nn,a.nvs.frs (FrS.set1 H ro _) (fun o q1 q2 q3=>by omega) fun o q1 q2=>by simp; exact q2⟩
theorem NL.add (a:NL S ro h H d p s lg l css){H2:Heap}{n:Nd}{q:Nat}{v:AV}(pr:PR S ro H d n q v H2)(hl:css.length≤2000000) :
  ∃s5 s' H3,v=.agg [I n.kind,I n.st,I n.lo,I n.hi,s5]∧s5.one=true∧apnd 5 56 s (.sl H2.length 0 1 5 none 0) (H2++[.cells ⟨[I n.kind,I n.st,I n.lo,I n.hi,s5],0,0,false⟩])=some (s',H3)∧NL S ro h H3 d q s' lg (l++[n]) (css++[[I n.kind,I n.st,I n.lo,I n.hi,s5]]):=by
 obtain ⟨f2,r2,c5,rfl,nv⟩:=pr
 obtain ⟨s5,rfl,ho5⟩:=nv.inv
 have h1:=a.hro
 have h2:=a.fr.len
 have h3:=a.lgl
 have h4:=f2.len
 have htl:=(List.getElem?_eq_some_iff.1 a.ht).1
 have g2:Gr lg (lg+1) H2 5 s css:=Gr.frs' a.gr f2 fun _ z=>by omega
 have t2:=(f2.get (o:=h.length) (by omega) (by omega)).trans a.ht
 have n2:=a.nvs.frs f2 (D':=fun o=>h.length<o∧o<H.length∧o≠lg) (fun o q1 q2 q3=>by omega) fun _ _ z=>z
 have e3:Ext H2 (H2++[AObj.cells ⟨[I n.kind,I n.st,I n.lo,I n.hi,s5],0,0,false⟩]):=Ext.push _ _
 have hl3:(H2++[AObj.cells ⟨[I n.kind,I n.st,I n.lo,I n.hi,s5],0,0,false⟩]).length=H2.length+1:=by simp
 obtain ⟨s',H3,lg',m1,m2,m3,m4,m5⟩:=Gr.appQ (bytes:=56) (g2.ext e3) (fun _=>by omega) (Gr.lit (sz:=5) (v:=[I n.kind,I n.st,I n.lo,I n.hi,s5]) rfl).sl (by omega) (by omega) (by simp; omega)
 obtain rfl:=m5 a.nn
 have hs':s'≠.nils:=m2.nnil (by simp)
 have h5:=m4.len
 refine ⟨s5,s',H3,rfl,ho5,m1,a.hro,⟨by omega,fun o q1 q2=>?_⟩,(m4.get (by omega) (by omega)).trans (e3.get r2),(m4.get (by omega) (by omega)).trans (e3.get t2),m2,by omega,hs',NVDs.snoc (n:=n) (cs:=[I n.kind,I n.st,I n.lo,I n.hi,s5]) ?_ ?_⟩
 ·rw[m4.get (by omega) (by omega),(a3E.1 e3).2 o (by omega),f2.get q1 (by omega),a.fr.get q1 q2]
 ·exact (nv.ext e3 (D':=fun o=>H.length≤o∧o<H2.length) fun _ _ z=>z).frs m4 (fun o q1 q2 q3=>by omega) fun o q1 q2=>by omega
 ·exact (n2.frs (E:=fun _=>False) (FrS.ofExt e3) (fun _ _ _ z=>z) (D':=fun o=>h.length<o∧o<H.length∧o≠lg') fun _ _ z=>z).frs m4 (fun o q1 q2 q3=>by omega) fun o q1 q2=>by omega
theorem NL.one {H2:Heap}{n:Nd}{q:Nat}{v:AV}(hr:h[ro]?=some (RD S p d))(pr:PR S ro (h++[Z5]) d n q v H2) :
  ∃s5,v=.agg [I n.kind,I n.st,I n.lo,I n.hi,s5]∧s5.one=true∧NL S ro h (H2++[.cells ⟨[I n.kind,I n.st,I n.lo,I n.hi,s5],0,0,false⟩]) d q (.sl H2.length 0 1 5 none 0) H2.length [n] [[I n.kind,I n.st,I n.lo,I n.hi,s5]]:=by
 obtain ⟨f2,r2,c5,rfl,nv⟩:=pr
 obtain ⟨s5,rfl,ho5⟩:=nv.inv
 have hro:=(List.getElem?_eq_some_iff.1 hr).1
 have e1:Ext h (h++[Z5]):=Ext.push _ _
 have l1:(h++[Z5]).length=h.length+1:=by simp
 have l2:=f2.len
 have t1:(h++[Z5])[h.length]?=some Z5:=by simp
 have e3:Ext H2 (H2++[AObj.cells ⟨[I n.kind,I n.st,I n.lo,I n.hi,s5],0,0,false⟩]):=Ext.push _ _
 refine ⟨s5,rfl,ho5,hro,((FrS.ofExt e1).trans f2).trans (FrS.ofExt e3),e3.get r2,e3.get ((f2.get (by omega) (by omega)).trans t1),Gr.lit (sz:=5) rfl,⟨by omega,by simp⟩,by simp,.cons (nv.ext e3 fun o q1 q2=>⟨by omega,by simp; omega,by omega⟩) .nil⟩
theorem NL.fin1 (a:NL S ro h H d p s lg l css){n:Nd}(hl:l=[n]):∃s5,css=[[I n.kind,I n.st,I n.lo,I n.hi,s5]]∧s5.one=true∧PR S ro h d n p (.agg [I n.kind,I n.st,I n.lo,I n.hi,s5]) (H.set h.length (.cells ⟨[I n.kind,I n.st,I n.lo,I n.hi,s5],0,0,false⟩)):=by
 have hn:=a.nvs
 rw[hl] at hn
 cases hn with
 |cons x y=>
  cases y
  obtain ⟨s5,rfl,ho5⟩:=x.inv
  exact ⟨s5,rfl,ho5,PR.fin a.hro a.fr a.hr (x.frs (FrS.refl (fun _=>False) _) (fun _ _ _ z=>z) fun o q1 q2=>⟨q2.1,q1⟩)⟩
theorem NL.finL (a:NL S ro h H d p s lg l css){n:Nd}(hk:n.kids=l)(h1:n.st=0)(h2:n.lo=0)(h3:n.hi=0):PR S ro h d n p (.agg [I n.kind,I 0,I 0,I 0,s]) (H.set h.length (.cells ⟨[I n.kind,I 0,I 0,I 0,s],0,0,false⟩)):=by
 have:=a.lgl
 have nv:NVD H (fun o=>h.length<o∧o<H.length) n [I n.kind,I n.st,I n.lo,I n.hi,s]:=.mk a.gr.sl (fun z=>by have:=a.gr.objIn z; omega) (by rw[hk]; exact a.nvs.frs (FrS.refl (fun _=>False) _) (fun _ _ _ z=>z) fun o q1 q2=>⟨q2.1,q1⟩)
 rw[h1,h2,h3] at nv
 exact PR.fin a.hro a.fr a.hr nv
theorem b5z (a:NL S ro h H d p s lg l css)(hl:l≠[]):WP (fun i:Nat=>u0_ tab i (.ptr h.length 0 5 0) s H) (PR S ro h d (finJ l) p):=by
 refine WP.congr (fun i=>a5y tab i (.ptr h.length 0 5 0) s H) ?_
 have ht:=a.ht
 have htl:=(List.getElem?_eq_some_iff.1 ht).1
 have sl':Sl H 5 s (css.map fun x=>x):=by rw[List.map_id']; exact a.gr.sl
 have hln:=a.nvs.len
 have hso:=a.gr.sl.one
 have hsc:=a.gr.sl.cells
 match l,hl with
 |[n],_=>
  obtain ⟨s5,rfl,ho5,res⟩:=a.fin1 rfl
  have e0:=Ext.refl H
  have hg:gi [[I n.kind,I n.st,I n.lo,I n.hi,s5]] (0:Int)=[I n.kind,I n.st,I n.lo,I n.hi,s5]:=rfl
  simp -implicitDefEqProofs (maxSteps:=1000000) (disch:=first|assumption|omega|(simp only[gL]<;>omega)|((repeat (first|exact Ext.refl _|assumption|apply Ext.app|apply Ext.mk|(refine Ext.setr ?_ (by (first|omega|(simp only[gL]<;>omega))) _))); done)|(simp only[gL,gA,sl'.lenG,sl'.idxG,sl'.ldN,hg,ho5,ht]<;>omega)|fail) only[gB,setAll,partL,fldV,reduceIte,Nat.reduceAdd,Nat.reduceMul,sl'.lenG,sl'.idxG,sl'.ldN,hg,ho5,ht]
  exact WP.ret res
 |n1::n2::r,_=>
  have h2:2≤css.length:=by rw[←hln]; simp
  simp -implicitDefEqProofs (maxSteps:=1000000) (disch:=first|assumption|omega|(simp only[gL]<;>omega)|((repeat (first|exact Ext.refl _|assumption|apply Ext.app|apply Ext.mk|(refine Ext.setr ?_ (by (first|omega|(simp only[gL]<;>omega))) _))); done)|(simp only[gL,gA,sl'.lenG,hso,hsc,ht]<;>omega)|fail) only[gB,setAll,partL,fldV,reduceIte,Nat.reduceAdd,Nat.reduceMul,sl'.lenG,hso,hsc,ht]
  exact WP.ret (a.finL (n:=.join (n1::n2::r)) rfl rfl rfl rfl)
theorem b6W (a:NL S ro h H d p s lg l css)(hl:l≠[]):WP (fun i:Nat=>p8_ tab i (.ptr h.length 0 5 0) s H) (PR S ro h d (finU l) p):=by
 refine WP.congr (fun i=>a4A tab i (.ptr h.length 0 5 0) s H) ?_
 have ht:=a.ht
 have htl:=(List.getElem?_eq_some_iff.1 ht).1
 have sl':Sl H 5 s (css.map fun x=>x):=by rw[List.map_id']; exact a.gr.sl
 have hln:=a.nvs.len
 have hso:=a.gr.sl.one
 have hsc:=a.gr.sl.cells
 match l,hl with
 |[n],_=>
  obtain ⟨s5,rfl,ho5,res⟩:=a.fin1 rfl
  have e0:=Ext.refl H
  have hg:gi [[I n.kind,I n.st,I n.lo,I n.hi,s5]] (0:Int)=[I n.kind,I n.st,I n.lo,I n.hi,s5]:=rfl
  simp -implicitDefEqProofs (maxSteps:=1000000) (disch:=first|assumption|omega|(simp only[gL]<;>omega)|((repeat (first|exact Ext.refl _|assumption|apply Ext.app|apply Ext.mk|(refine Ext.setr ?_ (by (first|omega|(simp only[gL]<;>omega))) _))); done)|(simp only[gL,gA,sl'.lenG,sl'.idxG,sl'.ldN,hg,ho5,ht]<;>omega)|fail) only[gB,setAll,partL,fldV,reduceIte,Nat.reduceAdd,Nat.reduceMul,sl'.lenG,sl'.idxG,sl'.ldN,hg,ho5,ht]
  exact WP.ret res
 |n1::n2::r,_=>
  have h2:2≤css.length:=by rw[←hln]; simp
  simp -implicitDefEqProofs (maxSteps:=1000000) (disch:=first|assumption|omega|(simp only[gL]<;>omega)|((repeat (first|exact Ext.refl _|assumption|apply Ext.app|apply Ext.mk|(refine Ext.setr ?_ (by (first|omega|(simp only[gL]<;>omega))) _))); done)|(simp only[gL,gA,sl'.lenG,hso,hsc,ht]<;>omega)|fail) only[gB,setAll,partL,fldV,reduceIte,Nat.reduceAdd,Nat.reduceMul,sl'.lenG,hso,hsc,ht]
  exact WP.ret (a.finL (n:=.uni (n1::n2::r)) rfl rfl rfl rfl)
end
section
variable {S:ByteArray} {ro:Nat} {f:Nat}
theorem c0F (hp:PcS S ro f)(ih:JnlS S ro f):JnlS S ro (f+1):=by
 intro d p l m q h H s lg css hx hd hl hlf a
 refine WP.rnd (fun i' j=>a5z tab i' j (.ptr ro 0 4 0) (.ptr h.length 0 5 0) s H) ?_
 rw[prs] at hx
 cases hb:bt S p with
 |none=>
  rw[hb] at hx
  injection hx with hx
  injection hx with hx1 hx2
  subst hx1 hx2
  refine WP.call (b6T a.hr hb) ?_
  rintro _ _ ⟨rfl,rfl⟩
  simp -implicitDefEqProofs (disch:=first|assumption|omega|(simp only[gL,gA]<;>omega)|fail) only[gC,reduceIte,a6_]
  exact WP.lv (b5z a hl) fun i j=>rfl
 |some c=>
  rw[hb] at hx
  simp only at hx
  refine WP.call (a6A a.hr hb) ?_
  rintro _ _ ⟨rfl,rfl⟩
  by_cases h124:c=124
  ·subst h124
   rw[if_pos rfl] at hx
   injection hx with hx
   injection hx with hx1 hx2
   subst hx1 hx2
   have a1:=equ_t (a:=124) (b:=124) rfl
   simp -implicitDefEqProofs (disch:=first|assumption|omega|(simp only[gL,gA]<;>omega)|fail) only[gC,reduceIte,a6_,a1]
   exact WP.lv (b5z a hl) fun i j=>rfl
  rw[if_neg h124] at hx
  have a1:=equ_f (a:=c) (b:=124) (by omega)
  by_cases h41:c=41
  ·subst h41
   rw[if_pos rfl] at hx
   injection hx with hx
   injection hx with hx1 hx2
   subst hx1 hx2
   have a2:=equ_t (a:=41) (b:=41) rfl
   simp -implicitDefEqProofs (disch:=first|assumption|omega|(simp only[gL,gA]<;>omega)|fail) only[gC,reduceIte,a6_,a1,a2]
   exact WP.lv (b5z a hl) fun i j=>rfl
  rw[if_neg h41] at hx
  have a2:=equ_f (a:=c) (b:=41) (by omega)
  cases hy:prs S f d .pc p with
  |none=>rw[hy] at hx; cases hx
  |some y=>
  obtain ⟨n,q'⟩:=y
  rw[hy] at hx
  simp only at hx
  simp -implicitDefEqProofs (disch:=first|assumption|omega|(simp only[gL,gA]<;>omega)|fail) only[gC,reduceIte,a6_,a1,a2]
  refine WP.call (hp d p n q' H hy hd a.hr) ?_
  rintro v H2 hv
  have hln:=a.nvs.len
  obtain ⟨s5,s',H3,rfl,ho5,m1,a'⟩:=a.add hv (by omega)
  simp -implicitDefEqProofs (disch:=first|assumption|omega|(simp only[gL,gA]<;>omega)|fail) only[gC,reduceIte,ho5,m1]
  exact ih d q' (l++[n]) m q h H3 s' lg _ hx hd (by simp) (by simp; omega) a'
theorem c1U (hp:PcS S ro f)(hl:JnlS S ro f)(hf:f≤900000):JnS S ro (f+1):=by
 intro d p n q h hx hd hr
 refine WP.tot (fun k=>(a6w k _ h).trans (a7k tab k _ h)) ?_
 rw[prs] at hx
 cases hy:prs S f d .pc p with
 |none=>rw[hy] at hx; cases hx
 |some y=>
 obtain ⟨n1,q1⟩:=y
 rw[hy] at hx
 simp only at hx
 have e1:Ext h (h++[Z5]):=Ext.push _ _
 simp -implicitDefEqProofs (disch:=first|assumption|omega|(simp only[gL,gA]<;>omega)|fail) only[gC,reduceIte]
 refine WP.call (hp d p n1 q1 (h++[Z5]) hy hd (e1.get hr)) ?_
 rintro v H2 hv
 obtain ⟨s5,rfl,ho5,a⟩:=NL.one hr hv
 simp -implicitDefEqProofs (disch:=first|assumption|omega|(simp only[gL,gA]<;>omega)|fail) only[gC,reduceIte,ho5]
 exact WP.ent (hl d q1 [n1] n q h _ _ _ _ hx hd (by simp) (by simp; omega) a) fun i=>rfl
theorem c0G (hp:JnS S ro f)(ih:UnlS S ro f)(hS:S.size≤200):UnlS S ro (f+1):=by
 intro d p l m q h H s lg css hx hd hl hlf a
 refine WP.rnd (fun i' j=>a4B tab i' j (.ptr ro 0 4 0) (.ptr h.length 0 5 0) s H) ?_
 rw[prs] at hx
 cases hb:bt S p with
 |none=>
  rw[hb] at hx
  injection hx with hx
  injection hx with hx1 hx2
  subst hx1 hx2
  refine WP.call (b6T a.hr hb) ?_
  rintro _ _ ⟨rfl,rfl⟩
  simp -implicitDefEqProofs (disch:=first|assumption|omega|(simp only[gL,gA]<;>omega)|fail) only[gC,reduceIte,a6_]
  exact WP.lv (b6W a hl) fun i j=>rfl
 |some c=>
  rw[hb] at hx
  simp only at hx
  have hlt:=bt_lt hb
  refine WP.call (a6A a.hr hb) ?_
  rintro _ _ ⟨rfl,rfl⟩
  by_cases h124:c=124
  ·subst h124
   rw[if_pos rfl] at hx
   have a1:=neu_f (a:=124) (b:=124) rfl
   cases hy:prs S f d .jn (p+1) with
   |none=>rw[hy] at hx; cases hx
   |some y=>
   obtain ⟨n,q'⟩:=y
   rw[hy] at hx
   simp only at hx
   have hr:=a.hr
   have aR:=a.setR (p':=p+1) (d':=d)
   obtain ⟨H1,hH1⟩:∃H1,H1=H.set ro (.cells ⟨[.str S,I ((p:Int)+1),I d,I 0],0,0,false⟩):=⟨_,rfl⟩
   have hR:H.set ro (RD S (p+1) d)=H1:=by rw[hH1]; rfl
   rw[hR] at aR
   simp -implicitDefEqProofs (disch:=first|assumption|omega|(simp only[gL,gA]<;>omega)|fail) only[gC,reduceIte,a6_,a1,hr]
   rw[←hH1]
   refine WP.call (hp d (p+1) n q' H1 hy hd aR.hr) ?_
   rintro v H2 hv
   have hln:=a.nvs.len
   obtain ⟨s5,s',H3,rfl,ho5,m1,a'⟩:=aR.add hv (by omega)
   simp -implicitDefEqProofs (disch:=first|assumption|omega|(simp only[gL,gA]<;>omega)|fail) only[gC,reduceIte,ho5,m1]
   exact ih d q' (l++[n]) m q h H3 s' lg _ hx hd (by simp) (by simp; omega) a'
  ·rw[if_neg h124] at hx
   injection hx with hx
   injection hx with hx1 hx2
   subst hx1 hx2
   have a1:=neu_t (a:=c) (b:=124) (by omega)
   simp -implicitDefEqProofs (disch:=first|assumption|omega|(simp only[gL,gA]<;>omega)|fail) only[gC,reduceIte,a6_,a1]
   exact WP.lv (b6W a hl) fun i j=>rfl
theorem c1V (hp:JnS S ro f)(hl:UnlS S ro f)(hf:f≤900000):UnS S ro (f+1):=by
 intro d p n q h hx hd hr
 refine WP.tot (fun k=>(a5C k _ h).trans (a6C tab k _ h)) ?_
 rw[prs] at hx
 cases hy:prs S f d .jn p with
 |none=>rw[hy] at hx; cases hx
 |some y=>
 obtain ⟨n1,q1⟩:=y
 rw[hy] at hx
 simp only at hx
 have e1:Ext h (h++[Z5]):=Ext.push _ _
 simp -implicitDefEqProofs (disch:=first|assumption|omega|(simp only[gL,gA]<;>omega)|fail) only[gC,reduceIte]
 refine WP.call (hp d p n1 q1 (h++[Z5]) hy hd (e1.get hr)) ?_
 rintro v H2 hv
 obtain ⟨s5,rfl,ho5,a⟩:=NL.one hr hv
 simp -implicitDefEqProofs (disch:=first|assumption|omega|(simp only[gL,gA]<;>omega)|fail) only[gC,reduceIte,ho5]
 exact WP.ent (hl d q1 [n1] n q h _ _ _ _ hx hd (by simp) (by simp; omega) a) fun i=>rfl
theorem c1W (hS:S.size≤200):∀f,f≤900000→AtS S ro f∧PcS S ro f∧PclS S ro f∧JnS S ro f∧JnlS S ro f∧UnS S ro f∧UnlS S ro f:=by
 intro f
 induction f with
 |zero=>
  intro _
  refine ⟨?_,?_,?_,?_,?_,?_,?_⟩
  ·intro d p n q h hx; simp[prs] at hx
  ·intro d p n q h hx; simp[prs] at hx
  ·intro d p n m q h H no c5 hx; simp[prs] at hx
  ·intro d p n q h hx; simp[prs] at hx
  ·intro d p l m q h H s lg css hx; simp[prs] at hx
  ·intro d p n q h hx; simp[prs] at hx
  ·intro d p l m q h H s lg css hx; simp[prs] at hx
 |succ f ih=>
  intro hf
  obtain ⟨i1,i2,i3,i4,i5,i6,i7⟩:=ih (by omega)
  exact ⟨c1S i6 hS,c1T i1 i3,c0E i3 hS,c1U i2 i5 (by omega),c0F i2 i5,c1V i4 i7 (by omega),c0G i4 i7 hS⟩
end
theorem c0H {S:ByteArray}{f:Nat}{n:Nd}(hS:S.size≤200)(hf:f≤900000)(hp:prs S f 0 .un 0=some (n,S.size))(h:Heap) :
  Tot tab m0_ [.str S] h fun v h'=>Ext h h'∧∃c5,v=.tup [.agg c5,I 0,I 0]∧NVD h' (fun o=>h.length≤o∧o<h'.length) n c5:=by
 refine WP.tot (fun k=>(a9s k _ h).trans (b0J tab k _ h)) ?_
 have hlb:lenB (.str S)=some (I S.size):=rfl
 have e1:Ext h ((h++[Z5])++[RD S 0 0]):=by ((repeat (first|exact Ext.refl _|assumption|apply Ext.app|apply Ext.mk|(refine Ext.setr ?_ (by (first|omega|(simp only[gL]<;>omega))) _))))
 have hl1:((h++[Z5])++[RD S 0 0]).length=h.length+2:=by simp
 simp -implicitDefEqProofs (disch:=first|assumption|omega|(simp only[gL,gA]<;>omega)|fail) only[gC,reduceIte,hlb]
 have hU:=(c1W (ro:=h.length+1) hS f hf).2.2.2.2.2.1
 refine WP.call (hU 0 0 n S.size ((h++[Z5])++[RD S 0 0]) hp (by omega) (by simp)) ?_
 rintro v H2 ⟨f2,r2,c5,rfl,nv⟩
 obtain ⟨s5,rfl,ho5⟩:=nv.inv
 have l2:=f2.len
 have t2:=(f2.get (o:=h.length) (by omega) (by omega)).trans (show ((h++[Z5])++[RD S 0 0])[h.length]?=some Z5 by simp)
 have e3:Ext H2 (H2++[AObj.cells ⟨[I n.kind,I n.st,I n.lo,I n.hi,s5],0,0,false⟩]):=Ext.push _ _
 have r3:=e3.get r2
 have t3:=e3.get t2
 have x3:(H2++[AObj.cells ⟨[I n.kind,I n.st,I n.lo,I n.hi,s5],0,0,false⟩])[H2.length]?=some (.cells ⟨[I n.kind,I n.st,I n.lo,I n.hi,s5],0,0,false⟩):=by simp
 have l3:=e3.len
 have nv3:=nv.ext e3 (D':=fun o=>h.length<o∧o<H2.length) fun o q1 q2=>by omega
 have f3:FrS (fun o=>o=h.length+1) ((h++[Z5])++[RD S 0 0]) (H2++[AObj.cells ⟨[I n.kind,I n.st,I n.lo,I n.hi,s5],0,0,false⟩]):=f2.trans (FrS.ofExt e3)
 simp -implicitDefEqProofs (disch:=first|assumption|omega|(simp only[gL,gA]<;>omega)|fail) only[gC,reduceIte,ho5,m8_]
 generalize H2++[AObj.cells ⟨[I n.kind,I n.st,I n.lo,I n.hi,s5],0,0,false⟩]=H3 at *
 simp -implicitDefEqProofs (disch:=first|assumption|omega|(simp only[gL,gA]<;>omega)|fail) only[gC,reduceIte,r2,r3,hlb]
 refine WP.congr (fun i=>a8u tab i _ _ _ H3) ?_
 simp -implicitDefEqProofs (disch:=first|assumption|omega|(simp only[gL,gA]<;>omega)|fail) only[gC,reduceIte,r3,x3,ho5,t3]
 have e4:Ext h H3:=f3.ext e1 fun o q1 q2=>by omega
 refine WP.ret ⟨e4.set (Nat.le_refl _) _,_,rfl,nv3.frs (FrS.set1 H3 h.length _) (fun o q1 q2 q3=>by omega) fun o q1 q2=>by simp; omega⟩
end Go.Gm.AQ
namespace Go.Gm
structure Po (b:NS):Prop where
 st:∀x∈b.st,x.1<b.n∧x.2.1<b.n
 fr:∀x∈b.fr,x.1<b.n∧x.2<b.n
def Pf (n:Nat)(l:List (Nat × Nat)):Prop:=∀f∈l,f.1<n∧f.2<n
theorem Po.mono {b:NS}(p:Po b){n:Nat}{m:Bool}(h:b.n≤n):Po ⟨n,m,b.st,b.fr⟩:=
 ⟨fun x hx=>by have:=p.st x hx; simp only; omega,fun x hx=>by have:=p.fr x hx; simp only; omega⟩
theorem Pf.mono {a b:Nat}{l:List (Nat × Nat)}(p:Pf a l)(h:a≤b):Pf b l:=fun f hf=>by have:=p f hf; omega
theorem b6X {b:NS}(p:Po b):Po b.state.2∧b.n≤b.state.2.n∧(b.state.2.much=false→b.state.1<b.state.2.n∧b.much=false):=by
 rw[NS.state]
 split
 ·exact ⟨p.mono (Nat.le_refl _),Nat.le_refl _,fun z=>by cases z⟩
 ·exact ⟨p.mono (Nat.le_succ _),Nat.le_succ _,fun z=>⟨Nat.lt_succ_self _,z⟩⟩
def PoP (g:NS→List (Nat × Nat) × NS):Prop:=∀b,Po b→Po (g b).2∧b.n≤(g b).2.n∧((g b).2.much=false→Pf (g b).2.n (g b).1∧b.much=false)
def PoN (n:Nd):Prop:=∀b,Po b→Po (NS.part n b).2∧b.n≤(NS.part n b).2.n∧((NS.part n b).2.much=false→((NS.part n b).1.1<(NS.part n b).2.n∧(NS.part n b).1.2<(NS.part n b).2.n)∧b.much=false)
theorem b2a:PoP (fun b=>([],b)):=fun b p=>⟨p,Nat.le_refl _,fun z=>⟨fun f hf=>by simp at hf,z⟩⟩
theorem b7X {x:(Nat × Nat) × NS}{y:List (Nat × Nat) × NS}{b:NS}(h:x.2.n≤y.2.n)(h1:x.2.much=false→(x.1.1<x.2.n∧x.1.2<x.2.n)∧b.much=false)(h2:y.2.much=false→Pf y.2.n y.1∧x.2.much=false)(z:y.2.much=false):Pf y.2.n (x.1::y.1)∧b.much=false:=by
 obtain ⟨p,q⟩:=h2 z
 obtain ⟨r,s⟩:=h1 q
 refine ⟨fun f hf=>?_,s⟩
 rcases List.mem_cons.1 hf with rfl|hf
 ·omega
 ·exact p f hf
theorem b4I:∀(l:List Nd),(∀c∈l,PoN c)→PoP (NS.parts l)
 |[],_=>fun b p=>by rw[NS.parts]; exact b2a b p
 |n::l,h=>fun b p=>by
  rw[NS.parts]
  split
  ·rename_i q; exact ⟨p,Nat.le_refl _,fun z=>by rw[q] at z; cases z⟩
  ·obtain ⟨a1,a2,a3⟩:=h n (by simp) b p
   obtain ⟨b1,b2,b3⟩:=b4I l (fun c hc=>h c (List.mem_cons_of_mem _ hc)) _ a1
   exact ⟨b1,Nat.le_trans a2 b2,b7X b2 a3 b3⟩
theorem a9G {n:Nd}(h:PoN n):∀k,PoP (NS.times (NS.part n) k)
 |0=>fun b p=>by rw[NS.times]; exact b2a b p
 |k+1=>fun b p=>by
  rw[NS.times]
  split
  ·rename_i q; exact ⟨p,Nat.le_refl _,fun z=>by rw[q] at z; cases z⟩
  ·obtain ⟨a1,a2,a3⟩:=h b p
   obtain ⟨b1,b2,b3⟩:=a9G h k _ a1
   exact ⟨b1,Nat.le_trans a2 b2,b7X b2 a3 b3⟩
theorem hd_lt {N:Nat}{l:List (Nat × Nat)}(p:Pf N l)(h:0<N):(NS.hd l).1<N∧(NS.hd l).2<N:=by
 cases l with
 |nil=>exact ⟨h,h⟩
 |cons f l=>exact p f (by simp)
theorem b7Y {N lo e:Nat}(he:e<N):∀(l:List (Nat × Nat)) (i:Nat),Pf N l→Pf N (NS.repE lo e i l)
 |[],i,_=>fun f hf=>by simp[NS.repE] at hf
 |[x],i,p=>fun f hf=>by
  have:=p x (by simp)
  obtain rfl:=List.mem_singleton.1 hf
  exact ⟨this.2,he⟩
 |x::y::l,i,p=>fun f hf=>by
  have hx:=p x (by simp)
  have hy:=p y (by simp)
  simp only[NS.repE] at hf
  rcases List.mem_append.1 hf with hf|hf
  ·split at hf
   ·obtain rfl:=List.mem_singleton.1 hf; exact ⟨hx.2,he⟩
   ·simp at hf
  ·rcases List.mem_cons.1 hf with rfl|hf
   ·exact ⟨hx.2,hy.1⟩
   ·exact b7Y he (y::l) (i+1) (fun g hg=>p g (List.mem_cons_of_mem _ hg)) f hf
theorem b6Y {N:Nat}:∀(l:List (Nat × Nat)),Pf N l→Pf N (NS.joinE l)
 |[],_=>fun f hf=>by simp[NS.joinE] at hf
 |[x],_=>fun f hf=>by simp[NS.joinE] at hf
 |x::y::l,p=>fun f hf=>by
  have hx:=p x (by simp)
  have hy:=p y (by simp)
  simp only[NS.joinE] at hf
  rcases List.mem_cons.1 hf with rfl|hf
  ·exact ⟨hx.2,hy.1⟩
  ·exact b6Y (y::l) (fun g hg=>p g (List.mem_cons_of_mem _ hg)) f hf
theorem c1X {N s e:Nat}(hs:s<N)(he:e<N)(l:List (Nat × Nat))(p:Pf N l):Pf N (NS.uniE s e l):=fun f hf=>by
 simp only[NS.uniE,List.mem_flatMap] at hf
 obtain ⟨x,hx,hf⟩:=hf
 have:=p x hx
 simp only[List.mem_cons,List.not_mem_nil,or_false] at hf
 rcases hf with rfl|rfl
 ·exact ⟨hs,this.1⟩
 ·exact ⟨this.2,he⟩
theorem Po.frees {b:NS}(p:Po b){l:List (Nat × Nat)}(h:Pf b.n l):Po (b.frees l):=⟨p.st,fun x hx=>by
 rcases List.mem_append.1 hx with hx|hx
 ·exact p.fr x hx
 ·exact h x hx⟩
theorem c1Y {b:NS}(p:Po b){s e:Nat}(hs:s<b.n)(he:e<b.n){l:List (Nat × Nat)}(hl:Pf b.n l)(n:Nd):Po (b.lead s e l n):=by
 obtain ⟨h1,h2⟩:=hd_lt hl (by omega)
 have ev:∀{x:List (Nat × Nat)},(∀f∈x,f=(s,(NS.hd l).1)∨f=(s,e)∨f=((NS.hd l).2,(NS.hd l).1)∨f=((NS.hd l).2,e))→Pf b.n x:=fun h f hf=>by
  rcases h f hf with rfl|rfl|rfl|rfl<;>exact ⟨by assumption,by assumption⟩
 cases n with
 |set k=>exact ⟨fun x hx=>by
   rcases List.mem_append.1 hx with hx|hx
   ·exact p.st x hx
   ·obtain rfl:=List.mem_singleton.1 hx; exact ⟨hs,he⟩,p.fr⟩
 |eps=>exact p.frees (ev (by simp))
 |uni _=>exact p.frees (c1X hs he l hl)
 |star _=>exact p.frees (ev (by simp))
 |plus _=>exact p.frees (ev (by simp))
 |opt _=>exact p.frees (ev (by simp))
 |rep lo hi _=>
  refine p.frees fun f hf=>?_
  rcases List.mem_append.1 hf with hf|hf
  ·rcases List.mem_append.1 hf with hf|hf
   ·split at hf
    ·obtain rfl:=List.mem_singleton.1 hf; exact ⟨hs,h1⟩
    ·simp at hf
   ·exact b7Y he l 0 hl f hf
  ·split at hf
   ·obtain rfl:=List.mem_singleton.1 hf; exact ⟨hs,he⟩
   ·simp at hf
 |emp=>exact p
 |join _=>exact p
theorem a2f {n:Nd}{g:NS→List (Nat × Nat) × NS}(hp:PoP g)(b:NS)(p:Po b):Po (NS.around n g b).2∧b.n≤(NS.around n g b).2.n∧((NS.around n g b).2.much=false→((NS.around n g b).1.1<(NS.around n g b).2.n∧(NS.around n g b).1.2<(NS.around n g b).2.n)∧b.much=false):=by
 simp only[NS.around]
 split
 ·rename_i q; exact ⟨p,Nat.le_refl _,fun z=>by rw[q] at z; cases z⟩
 ·rename_i hb
  rw[Bool.not_eq_true] at hb
  obtain ⟨a1,a2,a3⟩:=b6X p
  obtain ⟨b1,b2,b3⟩:=hp _ a1
  obtain ⟨c1,c2,c3⟩:=b6X b1
  simp only
  split
  ·rename_i q; exact ⟨c1,by omega,fun z=>by rw[q] at z; cases z⟩
  ·rename_i q
   rw[Bool.not_eq_true] at q
   obtain ⟨d1,d2⟩:=c3 q
   obtain ⟨f1,f2⟩:=b3 d2
   obtain ⟨g1,_⟩:=a3 f2
   have hs:b.state.1<(g b.state.2).2.state.2.n:=by omega
   have ln:((g b.state.2).2.state.2.lead b.state.1 (g b.state.2).2.state.1 (g b.state.2).1 n).n=(g b.state.2).2.state.2.n:=by cases n<;>rfl
   exact ⟨c1Y c1 hs d1 (f1.mono c2) n,by rw[ln]; omega,fun _=>⟨⟨by rw[ln]; exact hs,by rw[ln]; exact d1⟩,hb⟩⟩
theorem po_n (n:Nd):Gd n→PoN n:=by
 refine Nd.ind (p:=fun n=>Gd n→PoN n) (fun n ih g=>?_) n
 have k:∀c∈n.kids,PoN c:=fun c hc=>ih c hc (g.kid c hc)
 cases n with
 |set s=>intro b p; rw[NS.part]; exact a2f b2a b p
 |emp=>intro b p; rw[NS.part]; exact a2f b2a b p
 |eps=>intro b p; rw[NS.part]; exact a2f b2a b p
 |uni l=>intro b p; rw[NS.part]; exact a2f (b4I l k) b p
 |star c=>intro b p; rw[NS.part]; exact a2f (a9G (k c (by simp[Nd.kids])) 1) b p
 |plus c=>intro b p; rw[NS.part]; exact a2f (a9G (k c (by simp[Nd.kids])) 1) b p
 |opt c=>intro b p; rw[NS.part]; exact a2f (a9G (k c (by simp[Nd.kids])) 1) b p
 |rep lo hi c=>intro b p; rw[NS.part]; exact a2f (a9G (k c (by simp[Nd.kids])) hi) b p
 |join l=>
  intro b p
  have hl:2≤l.length:=g.rt
  rw[NS.part]
  simp only[NS.joined]
  obtain ⟨b1,b2,b3⟩:=b4I l k b p
  split
  ·rename_i q; exact ⟨p,Nat.le_refl _,fun z=>by rw[q] at z; cases z⟩
  ·split
   ·rename_i q; exact ⟨b1,b2,fun z=>by rw[q] at z; cases z⟩
   ·rename_i hb q
    rw[Bool.not_eq_true] at q hb
    obtain ⟨f1,f2⟩:=b3 q
    refine ⟨b1.frees (b6Y _ f1),b2,fun _=>⟨?_,hb⟩⟩
    have hn:(NS.parts l b).1≠[]:=by
     obtain ⟨x,l',rfl⟩:∃x l',l=x::l':=by
      cases l with
      |nil=>simp at hl
      |cons x l'=>exact ⟨x,l',rfl⟩
     rw[NS.parts,if_neg (by rw[hb]; decide)]
     simp
    obtain ⟨x,l',hx⟩:∃x l',(NS.parts l b).1=x::l':=by
     cases hq:(NS.parts l b).1 with
     |nil=>exact absurd hq hn
     |cons x l'=>exact ⟨x,l',rfl⟩
    have h1:=f1 x (by rw[hx]; simp)
    have h2:(NS.parts l b).1.getLastD (0,0)∈(NS.parts l b).1:=by
     rw[List.getLastD_eq_getLast?,List.getLast?_eq_some_getLast hn]
     exact List.getLast_mem hn
    have h3:=f1 _ h2
    exact ⟨by rw[hx]; exact h1.1,h3.2⟩
theorem c2P {n:Nd}(g:Gd n){nf:NF}(h:nfaF n=some nf):NfOk nf:=by
 simp only[nfaF] at h
 split at h
 ·cases h
 ·rename_i q
  rw[Bool.not_eq_true] at q
  injection h with h
  subst h
  obtain ⟨p1,p2,p3⟩:=po_n n g NS.new ⟨fun x hx=>by simp[NS.new] at hx,fun x hx=>by simp[NS.new] at hx⟩
  obtain ⟨p4,_⟩:=p3 q
  exact ⟨p4.1,p4.2,p1.st,p1.fr⟩
end Go.Gm
namespace Go.Gm.AQ
open Go Go.Gm
def BldQ (o:Option NF)(r:AV)(h':Heap):Prop:=
 match o with
 |none=>r=.tup [.agg [I 0,I 0,I 0,.nils,.nils],I 4]
 |some nf=>∃sS sF:AV,r=.tup [.agg (nfC nf sS sF),I 0]∧NfV h' nf sS sF
theorem b8s {h:Heap}{n:Nd}{c5:List AV}(nv:NV h n c5)(g:Gd n)(bd:Bd n) :
  Tot tab m1_ [.agg c5] h fun r h'=>Ext h h'∧BldQ (nfaF n) r h':=by
 refine WP.tot (fun k=>(a9t k _ h).trans (b0L tab k _ h)) ?_
 have hok:=nv
 obtain ⟨s5,rfl,h5⟩:∃s,c5=[I n.kind,I n.st,I n.lo,I n.hi,s]∧s.one=true:=by
  cases nv with
  |mk a b=>exact ⟨_,rfl,a.one⟩
 obtain ⟨h1,hh1⟩:∃h1,h1=((h++[AObj.cells ⟨[I n.kind,I n.st,I n.lo,I n.hi,s5],0,0,false⟩])++[AObj.cells ⟨[I 0,I 0,I 0,.nils,.nils],0,0,false⟩])++[AObj.cells ⟨[I 0,I 0,I 0,.nils,.nils,.bool false],0,0,false⟩]:=⟨_,rfl⟩
 have e1:Ext h h1:=by rw[hh1]; ((repeat (first|exact Ext.refl _|assumption|apply Ext.app|apply Ext.mk|(refine Ext.setr ?_ (by (first|omega|(simp only[gL]<;>omega))) _))))
 have l1:h1.length=h.length+3:=by rw[hh1]; simp
 have rt:h1[h.length+1]?=some (.cells ⟨[I 0,I 0,I 0,.nils,.nils],0,0,false⟩):=by rw[hh1]; simp
 have rb:h1[h.length+2]?=some (.cells ⟨[I 0,I 0,I 0,.nils,.nils,.bool false],0,0,false⟩):=by rw[hh1]; simp
 have v:BV (fun o=>o=h.length+2) h1 (h.length+2) NS.new:=⟨.nils,.nils,0,0,rb,Gr.nil ..,Gr.nil ..,rfl,fun z=>absurd rfl z,fun z=>absurd rfl z⟩
 simp -implicitDefEqProofs (maxSteps:=1000000) (disch:=first|assumption|omega|(simp only[gL]<;>omega)|((repeat (first|exact Ext.refl _|assumption|apply Ext.app|apply Ext.mk|(refine Ext.setr ?_ (by (first|omega|(simp only[gL]<;>omega))) _))); done)|(simp only[gL,gA,h5]<;>omega)|fail) only[gB,setAll,partL,fldV,reduceIte,Nat.reduceAdd,Nat.reduceMul,h5]
 rw[←hh1]
 refine WP.call (b8l n g bd h h1 _ _ _ _ hok e1 (fun o ho=>by omega) v NSok.new) ?_
 rintro r h2 ⟨rfl,v2,f2⟩
 have l2:=f2.len
 have rt2:h2[h.length+1]?=_:=(f2.get (by omega) (by omega)).trans rt
 have bt:=(List.getElem?_eq_some_iff.1 rt2).1
 obtain ⟨sS,sF,oS,oF,r1,gS,gF,w1,w2,w3⟩:=v2
 have e2:Ext h h2:=f2.ext e1 fun o z1 z2=>by omega
 have b2:=(List.getElem?_eq_some_iff.1 r1).1
 have os:=gS.sl.one
 have of':=gF.sl.one
 have key:nfaF n=if (NS.part n NS.new).2.much=true then none else some ⟨(NS.part n NS.new).2.n,(NS.part n NS.new).1.1,(NS.part n NS.new).1.2,(NS.part n NS.new).2.st,(NS.part n NS.new).2.fr⟩:=rfl
 obtain ⟨mu,hmu⟩:∃mu,(NS.part n NS.new).2.much=mu:=⟨_,rfl⟩
 rw[hmu] at r1 key
 obtain ⟨pa,hpa⟩:∃a,(NS.part n NS.new).1.1=a:=⟨_,rfl⟩
 obtain ⟨pb,hpb⟩:∃b,(NS.part n NS.new).1.2=b:=⟨_,rfl⟩
 rw[hpa,hpb] at key ⊢
 cases mu with
 |true=>
  simp -implicitDefEqProofs (maxSteps:=1000000) (disch:=first|assumption|omega|(simp only[gL]<;>omega)|((repeat (first|exact Ext.refl _|assumption|apply Ext.app|apply Ext.mk|(refine Ext.setr ?_ (by (first|omega|(simp only[gL]<;>omega))) _))); done)|(simp only[gL,gA,a6_,r1,rt2]<;>omega)|fail) only[gB,setAll,partL,fldV,reduceIte,Nat.reduceAdd,Nat.reduceMul,a6_,r1,rt2]
  rw[key]
  exact WP.ret ⟨e2.set (by omega) _,rfl⟩
 |false=>
  rw[if_neg (by decide)] at key
  simp -implicitDefEqProofs (maxSteps:=1000000) (disch:=first|assumption|omega|(simp only[gL]<;>omega)|((repeat (first|exact Ext.refl _|assumption|apply Ext.app|apply Ext.mk|(refine Ext.setr ?_ (by (first|omega|(simp only[gL]<;>omega))) _))); done)|(simp only[gL,gA,a6_,r1,rt2,os,of']<;>omega)|fail) only[gB,setAll,partL,fldV,reduceIte,Nat.reduceAdd,Nat.reduceMul,a6_,r1,rt2,os,of']
  have g1:Gr oS (oS+1) (((h2.set (h.length+1+1) (.cells ⟨[I (NS.part n NS.new).2.n,I pa,I 0,sS,sF,.bool false],0,0,false⟩)).set (h.length+1+1) (.cells ⟨[I (NS.part n NS.new).2.n,I pa,I pb,sS,sF,.bool false],0,0,false⟩)).set (h.length+1) (.cells ⟨[I (NS.part n NS.new).2.n,I pa,I pb,sS,sF],0,0,false⟩)) 3 sS ((NS.part n NS.new).2.st.map encS):=by
   refine p3_ (D:=fun o=>o=h.length+1∨o=h.length+2) gS ((((FrS.set1 _ _ _).mono fun q _ z=>?_).trans ((FrS.set1 _ _ _).mono fun q _ z=>?_)).trans ((FrS.set1 _ _ _).mono fun q _ z=>?_)) fun z=>?_
   ·right; omega
   ·right; omega
   ·left; omega
   ·obtain ⟨z1,z2,z3⟩:=w2 z
    rcases z1 with z1|z1
    ·exact absurd z1 z3
    ·omega
  have g2:Gr oF (oF+1) (((h2.set (h.length+1+1) (.cells ⟨[I (NS.part n NS.new).2.n,I pa,I 0,sS,sF,.bool false],0,0,false⟩)).set (h.length+1+1) (.cells ⟨[I (NS.part n NS.new).2.n,I pa,I pb,sS,sF,.bool false],0,0,false⟩)).set (h.length+1) (.cells ⟨[I (NS.part n NS.new).2.n,I pa,I pb,sS,sF],0,0,false⟩)) 2 sF ((NS.part n NS.new).2.fr.map encF):=by
   refine p3_ (D:=fun o=>o=h.length+1∨o=h.length+2) gF ((((FrS.set1 _ _ _).mono fun q _ z=>?_).trans ((FrS.set1 _ _ _).mono fun q _ z=>?_)).trans ((FrS.set1 _ _ _).mono fun q _ z=>?_)) fun z=>?_
   ·right; omega
   ·right; omega
   ·left; omega
   ·obtain ⟨z1,z2,z3,_⟩:=w3 z
    rcases z1 with z1|z1
    ·exact absurd z1 z3
    ·omega
  obtain ⟨n1,n2,n3,n4⟩:=c2r g key
  rw[key]
  exact WP.ret ⟨((e2.set (by omega) _).set (by omega) _).set (by omega) _,sS,sF,rfl,g1.sl,g2.sl,c2P g key,n1,by omega,by omega,fun x hx=>Nat.lt_of_lt_of_le (n4 x hx) (by decide)⟩
theorem c0I {nf:NF}{D:List (List Int)}{acc:List Bool}(h:subF nf 200=some (D,acc)):DOk D acc:=by
 obtain ⟨sets,si⟩:=b7Q h
 have ld:=si.ld
 have la:=si.la
 have l0:=(List.getElem?_eq_some_iff.1 si.s0).1
 have hl:sets.length≤200:=by rcases si.sl with z|z<;>omega
 have row:∀s:Int,0≤s→s<D.length→∃t,RowOk nf sets t (gi D s) 0 5:=fun s s0 s1=>by
  have hx:sets[s.toNat]?=some (sets[s.toNat]'(by omega)):=List.getElem?_eq_getElem (by omega)
  obtain ⟨r,r1,r2,_⟩:=si.row s.toNat _ (by omega) hx
  have:gi D s=r:=by
   obtain ⟨q1,q2⟩:=List.getElem?_eq_some_iff.1 r1
   rw[show s=((s.toNat:Nat):Int) by omega,c5_ q1]; exact q2
  exact ⟨_,this▸r2⟩
 refine ⟨by omega,by omega,by omega,fun s s0 s1=>?_,fun s m s0 s1 m0 m1=>?_⟩
 ·obtain ⟨t,r⟩:=row s s0 s1; exact r.1
 ·obtain ⟨t,r⟩:=row s s0 s1
  obtain ⟨j,j1,j2⟩:=r.2 m.toNat (by omega)
  have:gi (gi D s) m=j:=by
   obtain ⟨q1,q2⟩:=List.getElem?_eq_some_iff.1 j1
   rw[show m=((m.toNat:Nat):Int) by omega,c5_ q1]; exact q2
  have:=(List.getElem?_eq_some_iff.1 j2).1
  omega
theorem c0J {nf:NF}{D:List (List Int)}{acc:List Bool}(h:subF nf 200=some (D,acc)):D.length≤200:=by
 obtain ⟨sets,si⟩:=b7Q h
 have ld:=si.ld
 rcases si.sl with z|z<;>omega
def CmpQ (n:Nd)(lo:Nat)(r:AV)(h':Heap):Prop:=
 match nfaF n with
 |none=>r=.tup [.agg [.nils,.nils],I 4]
 |some nf=>match subF nf 200 with
  |none=>r=.tup [.agg [.nils,.nils],I 5]
  |some (D,acc)=>∃v,r=.tup [v,I 0]∧MinQ D acc lo v h'
theorem MinQ.set {D:List (List Int)}{acc:List Bool}{lo lo' o:Nat}{v:AV}{h:Heap}(q:MinQ D acc lo v h)(ho:o<lo)(hl:lo'≤lo)(x:AObj):MinQ D acc lo' v (h.set o x):=by
 obtain ⟨D',acc',sN,sA,q1,q2,q3,q4⟩:=q
 exact ⟨D',acc',sN,sA,q1,(q2.set (.inl ho) x).mono hl (by simp),(q3.set (.inl ho) x).mono hl (by simp),q4⟩
theorem b6Z {S:ByteArray}{f:Nat}{n:Nd}(hS:S.size≤200)(hf:f≤900000)(hp:prs S f 0 .un 0=some (n,S.size))(g:Gd n)(bd:Bd n)(h:Heap) :
  Tot tab j8_ [.str S] h fun r h'=>Ext h h'∧CmpQ n h.length r h':=by
 refine WP.tot (fun k=>(a8j k _ h).trans (a9b tab k _ h)) ?_
 obtain ⟨h1,hh1⟩:∃h1,h1=h++[AObj.cells ⟨[.nils,.nils],0,0,false⟩]:=⟨_,rfl⟩
 have e1:Ext h h1:=by rw[hh1]; exact Ext.push _ _
 have l1:h1.length=h.length+1:=by rw[hh1]; simp
 have rt:h1[h.length]?=some (.cells ⟨[.nils,.nils],0,0,false⟩):=by rw[hh1]; simp
 simp -implicitDefEqProofs (maxSteps:=1000000) (disch:=first|assumption|omega|(simp only[gL]<;>omega)|((repeat (first|exact Ext.refl _|assumption|apply Ext.app|apply Ext.mk|(refine Ext.setr ?_ (by (first|omega|(simp only[gL]<;>omega))) _))); done)|(simp only[gL,gA]<;>omega)|fail) only[gB,setAll,partL,fldV,reduceIte,Nat.reduceAdd,Nat.reduceMul]
 rw[←hh1]
 refine WP.call (c0H hS hf hp h1) ?_
 rintro r h2 ⟨e2,c5,rfl,nv⟩
 have l2:=e2.len
 have rt2:=e2.get rt
 obtain ⟨s5,rfl,h5⟩:=nv.inv
 obtain ⟨h3,hh3⟩:∃h3,h3=h2++[AObj.cells ⟨[I n.kind,I n.st,I n.lo,I n.hi,s5],0,0,false⟩]:=⟨_,rfl⟩
 have e3:Ext h2 h3:=by rw[hh3]; exact Ext.push _ _
 have l3:h3.length=h2.length+1:=by rw[hh3]; simp
 have rn:h3[h2.length]?=some (.cells ⟨[I n.kind,I n.st,I n.lo,I n.hi,s5],0,0,false⟩):=by rw[hh3]; simp
 have rt3:=e3.get rt2
 have b3:=(List.getElem?_eq_some_iff.1 rt3).1
 simp -implicitDefEqProofs (maxSteps:=1000000) (disch:=first|assumption|omega|(simp only[gL]<;>omega)|((repeat (first|exact Ext.refl _|assumption|apply Ext.app|apply Ext.mk|(refine Ext.setr ?_ (by (first|omega|(simp only[gL]<;>omega))) _))); done)|(simp only[gL,gA,a6_,h5,m8_]<;>omega)|fail) only[gB,setAll,partL,fldV,reduceIte,Nat.reduceAdd,Nat.reduceMul,a6_,h5,m8_]
 rw[←hh3]
 refine WP.call (b8s (nv.nv.keeps (Keeps.ofExt e3)) g bd) ?_
 rintro r h4 ⟨e4,q4⟩
 have rt4:=e4.get rt3
 have l4:=e4.len
 have b4:=(List.getElem?_eq_some_iff.1 rt4).1
 have e04:=((e1.trans e2).trans e3).trans e4
 have e45:∀x,Ext h4 (h4++[x]):=fun x=>Ext.push _ _
 unfold CmpQ
 cases hnf:nfaF n with
 |none=>
  rw[hnf] at q4
  obtain rfl:=q4
  simp -implicitDefEqProofs (maxSteps:=1000000) (disch:=first|assumption|omega|(simp only[gL]<;>omega)|((repeat (first|exact Ext.refl _|assumption|apply Ext.app|apply Ext.mk|(refine Ext.setr ?_ (by (first|omega|(simp only[gL]<;>omega))) _))); done)|(simp only[gL,gA,a6_,rt4]<;>omega)|fail) only[gB,setAll,partL,fldV,reduceIte,Nat.reduceAdd,Nat.reduceMul,a6_,rt4]
  exact WP.ret ⟨(((e04.trans (e45 _)).set (by omega) _).set (by omega) _),rfl⟩
 |some nf=>
  rw[hnf] at q4
  obtain ⟨sS,sF,rfl,v⟩:=q4
  have o1:=v.s.one
  have o2:=v.f.one
  obtain ⟨h5,hh5⟩:∃h5,h5=h4++[AObj.cells ⟨nfC nf sS sF,0,0,false⟩]:=⟨_,rfl⟩
  have e5:Ext h4 h5:=by rw[hh5]; exact Ext.push _ _
  have l5:h5.length=h4.length+1:=by rw[hh5]; simp
  have rt5:=e5.get rt4
  have b5:=(List.getElem?_eq_some_iff.1 rt5).1
  simp -implicitDefEqProofs (maxSteps:=1000000) (disch:=first|assumption|omega|(simp only[gL]<;>omega)|((repeat (first|exact Ext.refl _|assumption|apply Ext.app|apply Ext.mk|(refine Ext.setr ?_ (by (first|omega|(simp only[gL]<;>omega))) _))); done)|(simp only[gL,gA,a6_,o1,o2,m8_]<;>omega)|fail) only[gB,setAll,partL,fldV,reduceIte,Nat.reduceAdd,Nat.reduceMul,a6_,o1,o2,m8_]
  rw[←hh5]
  refine WP.call (b6S (v.ext e5)) ?_
  rintro r h6 ⟨e6,q6⟩
  have rt6:=e6.get rt5
  have l6:=e6.len
  have b6:=(List.getElem?_eq_some_iff.1 rt6).1
  have e06:=(e04.trans e5).trans e6
  cases hsb:subF nf 200 with
  |none=>
   rw[hsb] at q6
   obtain rfl:=q6
   simp -implicitDefEqProofs (maxSteps:=1000000) (disch:=first|assumption|omega|(simp only[gL]<;>omega)|((repeat (first|exact Ext.refl _|assumption|apply Ext.app|apply Ext.mk|(refine Ext.setr ?_ (by (first|omega|(simp only[gL]<;>omega))) _))); done)|(simp only[gL,gA,a6_,rt6]<;>omega)|fail) only[gB,setAll,partL,fldV,reduceIte,Nat.reduceAdd,Nat.reduceMul,a6_,rt6]
   exact WP.ret ⟨((e06.trans (Ext.push _ _)).set (by omega) _).set (by omega) _,rfl⟩
  |some p=>
   obtain ⟨D,acc⟩:=p
   rw[hsb] at q6
   obtain ⟨sN,sA,rfl,gN,gA⟩:=q6
   have o1:=gN.sl.one
   have o2:=gA.sl.one
   obtain ⟨h7,hh7⟩:∃h7,h7=h6++[AObj.cells ⟨[sN,sA],0,0,false⟩]:=⟨_,rfl⟩
   have e7:Ext h6 h7:=by rw[hh7]; exact Ext.push _ _
   have l7:h7.length=h6.length+1:=by rw[hh7]; simp
   have rt7:=e7.get rt6
   have b7:=(List.getElem?_eq_some_iff.1 rt7).1
   simp -implicitDefEqProofs (maxSteps:=1000000) (disch:=first|assumption|omega|(simp only[gL]<;>omega)|((repeat (first|exact Ext.refl _|assumption|apply Ext.app|apply Ext.mk|(refine Ext.setr ?_ (by (first|omega|(simp only[gL]<;>omega))) _))); done)|(simp only[gL,gA,a6_]<;>omega)|fail) only[gB,setAll,partL,fldV,reduceIte,Nat.reduceAdd,Nat.reduceMul,a6_]
   have hw:wrAt 2 (h6++[AObj.cells ⟨[.nils,.nils],0,0,false⟩]) (some (AObj.cells ⟨[.nils,.nils],0,0,false⟩)) h6.length 0 2 0 [sN,sA]=some h7:=by
    refine (a3h (n:=2) (off:=0) (hi:=2) (vs:=[sN,sA]) rfl rfl (by omega) (by simp[o1,o2])).trans ?_
    rw[m8_ rfl,hh7]
    rfl
   have rd7:h7[h6.length]?=some (.cells ⟨[sN,sA],0,0,false⟩):=by rw[hh7]; simp
   simp -implicitDefEqProofs (maxSteps:=1000000) (disch:=first|assumption|omega|(simp only[gL]<;>omega)|((repeat (first|exact Ext.refl _|assumption|apply Ext.app|apply Ext.mk|(refine Ext.setr ?_ (by (first|omega|(simp only[gL]<;>omega))) _))); done)|(simp only[gL,gA,hw,rd7]<;>omega)|fail) only[gB,setAll,partL,fldV,reduceIte,Nat.reduceAdd,Nat.reduceMul,hw,rd7]
   refine WP.call (b6a (c0I hsb) (gN.sl.ext e7) (gA.sl.ext e7)) ?_
   rintro r h8 ⟨e8,q8⟩
   have rt8:=e8.get rt7
   have l8:=e8.len
   have b8:=(List.getElem?_eq_some_iff.1 rt8).1
   obtain ⟨D',acc',sN',sA',rfl,q2⟩:=q8
   have o1:=q2.1.sl.one
   have o2:=q2.2.1.sl.one
   have hw:wrAt 2 h8 (some (AObj.cells ⟨[.nils,.nils],0,0,false⟩)) h.length 0 2 0 [sN',sA']=some (h8.set h.length (.cells ⟨[sN',sA'],0,0,false⟩)):=a3h (n:=2) (off:=0) (hi:=2) (vs:=[sN',sA']) rfl rfl (by omega) (by simp[o1,o2])
   simp -implicitDefEqProofs (maxSteps:=1000000) (disch:=first|assumption|omega|(simp only[gL]<;>omega)|((repeat (first|exact Ext.refl _|assumption|apply Ext.app|apply Ext.mk|(refine Ext.setr ?_ (by (first|omega|(simp only[gL]<;>omega))) _))); done)|(simp only[gL,gA,rt8,hw]<;>omega)|fail) only[gB,setAll,partL,fldV,reduceIte,Nat.reduceAdd,Nat.reduceMul,rt8,hw]
   have mq:MinQ D acc h7.length (.agg [sN',sA']) h8:=⟨D',acc',sN',sA',rfl,q2⟩
   exact WP.ret ⟨((e06.trans e7).trans e8).set (by omega) _,_,rfl,mq.set (by omega) (by omega) _⟩
end Go.Gm.AQ
namespace Go.Gm.AQ
open Go Go.Gm
theorem b9M (n:Nd):Gd n→Bd n→TextS n:=by
 refine Nd.ind (p:=fun n=>Gd n→Bd n→TextS n) (fun n ih g bd=>?_) n
 intro h c5 nv hl
 refine WP.tot (fun k=>(b0d k _ h).trans (b1t tab k _ h)) ?_
 obtain ⟨sL,css,kv⟩:=kidsV nv
 have h5:=kv.sl.one
 obtain rfl:=kv.c
 have e1:Ext h (h++[AObj.cells ⟨[I n.kind,I n.st,I n.lo,I n.hi,sL],0,0,false⟩]):=Ext.push _ _
 have r1:(h++[AObj.cells ⟨[I n.kind,I n.st,I n.lo,I n.hi,sL],0,0,false⟩])[h.length]?=some (.cells ⟨[I n.kind,I n.st,I n.lo,I n.hi,sL],0,0,false⟩):=by simp
 have big:4≤n.kind→WP (fun k:Nat=>m6_ tab k k (.ptr h.length 0 5 0) (.str ⟨#[]⟩) (I 0) (h++[AObj.cells ⟨[I n.kind,I n.st,I n.lo,I n.hi,sL],0,0,false⟩])) fun r h'=>Ext h h'∧r=.str (ofL (txt n)):=fun hk=>by
  refine WP.ent ((c1B (h0:=h) g bd.len hk (fun c hc=>ih c hc (g.kid c hc) (bd.kid c hc)) kv hl e1 r1 n.kids.length 0 _ [] (by omega) (Ext.refl _) (by rw[c1z hk]; rfl)).mono ?_) fun i=>rfl
  rintro r h' ⟨e,rfl⟩
  exact ⟨e1.trans e,rfl⟩
 obtain ⟨h1,hh1⟩:∃h1,h1=h++[AObj.cells ⟨[I n.kind,I n.st,I n.lo,I n.hi,sL],0,0,false⟩]:=⟨_,rfl⟩
 rw[←hh1] at e1 r1 big
 simp -implicitDefEqProofs (disch:=first|assumption|omega|(simp only[gL,gA]<;>omega)|fail) only[gC,reduceIte,h5]
 rw[←hh1]
 have g0:=g.rt
 cases n with
 |set s=>
  simp only[Nd.kind,Nd.st,Nd.lo,Nd.hi] at r1
  simp -implicitDefEqProofs (disch:=first|assumption|omega|(simp only[gL,gA]<;>omega)|fail) only[gC,reduceIte,Nd.kind,Nd.st,r1]
  refine WP.call (c0i g0.2 h1) ?_
  rintro r h2 ⟨rfl,rfl⟩
  exact WP.ret ⟨e1,by rw[txt]⟩
 |emp=>
  simp only[Nd.kind,Nd.st,Nd.lo,Nd.hi] at r1
  simp -implicitDefEqProofs (disch:=first|assumption|omega|(simp only[gL,gA]<;>omega)|fail) only[gC,reduceIte,Nd.kind,Nd.st,r1]
  exact WP.ret ⟨e1,by rw[txt]; rfl⟩
 |eps=>
  simp only[Nd.kind,Nd.st,Nd.lo,Nd.hi] at r1
  simp -implicitDefEqProofs (disch:=first|assumption|omega|(simp only[gL,gA]<;>omega)|fail) only[gC,reduceIte,Nd.kind,Nd.st,r1]
  exact WP.ret ⟨e1,by rw[txt]; rfl⟩
 |join l=>
  have bg:=big (by simp[Nd.kind])
  simp only[Nd.kind,Nd.st,Nd.lo,Nd.hi] at r1
  simp -implicitDefEqProofs (disch:=first|assumption|omega|(simp only[gL,gA]<;>omega)|fail) only[gC,reduceIte,Nd.kind,Nd.st,r1]
  exact bg
 |uni l=>
  have bg:=big (by simp[Nd.kind])
  simp only[Nd.kind,Nd.st,Nd.lo,Nd.hi] at r1
  simp -implicitDefEqProofs (disch:=first|assumption|omega|(simp only[gL,gA]<;>omega)|fail) only[gC,reduceIte,Nd.kind,Nd.st,r1]
  exact bg
 |star c=>
  have bg:=big (by simp[Nd.kind])
  simp only[Nd.kind,Nd.st,Nd.lo,Nd.hi] at r1
  simp -implicitDefEqProofs (disch:=first|assumption|omega|(simp only[gL,gA]<;>omega)|fail) only[gC,reduceIte,Nd.kind,Nd.st,r1]
  exact bg
 |plus c=>
  have bg:=big (by simp[Nd.kind])
  simp only[Nd.kind,Nd.st,Nd.lo,Nd.hi] at r1
  simp -implicitDefEqProofs (disch:=first|assumption|omega|(simp only[gL,gA]<;>omega)|fail) only[gC,reduceIte,Nd.kind,Nd.st,r1]
  exact bg
 |opt c=>
  have bg:=big (by simp[Nd.kind])
  simp only[Nd.kind,Nd.st,Nd.lo,Nd.hi] at r1
  simp -implicitDefEqProofs (disch:=first|assumption|omega|(simp only[gL,gA]<;>omega)|fail) only[gC,reduceIte,Nd.kind,Nd.st,r1]
  exact bg
 |rep a b c=>
  have bg:=big (by simp[Nd.kind])
  simp only[Nd.kind,Nd.st,Nd.lo,Nd.hi] at r1
  simp -implicitDefEqProofs (disch:=first|assumption|omega|(simp only[gL,gA]<;>omega)|fail) only[gC,reduceIte,Nd.kind,Nd.st,r1]
  exact bg
def MchQ (n:Nd)(lo:Nat)(r:AV)(h':Heap):Prop:=
 ∃(D:List (List Int)) (acc:List Bool) (sN sA:AV),r=.agg [sN,sA]∧Gr lo h'.length h' 5 sN (D.map encR)∧Gr lo h'.length h' 1 sA (acc.map encB)∧DOk D acc∧D.length≤200∧
  ((∃nf D0 acc0,nfaF n=some nf∧subF nf 200=some (D0,acc0)∧∀w:List Int,(∀m∈w,0≤m∧m<5)→gi acc0 (goS D0 0 w)=gi acc (goS D 0 w))∨
   ((∀nf,nfaF n=some nf→subF nf 200=none)∧D=[[0,0,0,0,0]]∧acc=[true]))
theorem b7a {l:List Rw}{s:AV}{css:List (List AV)}{h:Heap}(hs:Sl h 3 s css)(hr:RVs h l css)(hf:szF 7 l≤14) :
  Tot tab j7_ [s] h fun r h'=>Ext h h'∧MchQ (oneN l) h.length r h':=by
 refine WP.tot (fun k=>(a8i k _ h).trans (a8W tab k _ h)) ?_
 obtain ⟨h1,hh1⟩:∃h1,h1=h++[AObj.cells ⟨[.nils,.nils],0,0,false⟩]:=⟨_,rfl⟩
 have e1:Ext h h1:=by rw[hh1]; exact Ext.push _ _
 have l1:h1.length=h.length+1:=by rw[hh1]; simp
 have rt:h1[h.length]?=some (.cells ⟨[.nils,.nils],0,0,false⟩):=by rw[hh1]; simp
 obtain ⟨g,bd⟩:=c2z l
 obtain ⟨z1,z2,z3⟩:=c2A l hf
 simp -implicitDefEqProofs (disch:=first|assumption|omega|(simp only[gL,gA]<;>omega)|fail) only[gC,reduceIte]
 rw[←hh1]
 refine WP.call (b9i (hs.ext e1) (hr.ext e1)) ?_
 rintro r h2 ⟨e2,c5,rfl,nv⟩
 refine WP.call (b9M _ g bd h2 c5 nv.nv (by omega)) ?_
 rintro r h3 ⟨e3,rfl⟩
 refine WP.call (b6Z (by rw[a4P]; exact z1) z2 (c1p g z3) g bd h3) ?_
 rintro r h4 ⟨e4,q4⟩
 have e14:=(e2.trans e3).trans e4
 have rt4:=e14.get rt
 have l4:=e14.len
 have b4:=(List.getElem?_eq_some_iff.1 rt4).1
 have e04:=e1.trans e14
 unfold CmpQ at q4
 obtain ⟨H,hH⟩:∃H,H=List.set (List.set (h4++[AObj.cells ⟨[.nils,.nils],0,0,false⟩]) h4.length (.cells ⟨[.nils,.nils],0,0,false⟩)++[AObj.cells ⟨[I 0,I 0,I 0,I 0,I 0],0,0,false⟩]++[AObj.cells ⟨[.bool true],0,0,false⟩]) h.length (.cells ⟨[.sl (h4.length+1) 0 1 5 none 0,.sl (h4.length+1+1) 0 1 1 none 0],0,0,false⟩):=⟨_,rfl⟩
 have eH:Ext h H:=by
  rw[hH]
  exact ((((e04.trans (Ext.push _ _)).set (by omega) _).trans (Ext.push _ _)).trans (Ext.push _ _)).set (Nat.le_refl _) _
 have bad:(∀nf,nfaF (oneN l)=some nf→subF nf 200=none)→MchQ (oneN l) h.length (.agg [.sl (h4.length+1) 0 1 5 none 0,.sl (h4.length+1+1) 0 1 1 none 0]) H:=fun hb=>by
  obtain ⟨h5,hh5⟩:∃h5,h5=List.set (h4++[AObj.cells ⟨[.nils,.nils],0,0,false⟩]) h4.length (.cells ⟨[.nils,.nils],0,0,false⟩):=⟨_,rfl⟩
  have l5:h5.length=h4.length+1:=by rw[hh5]; simp
  have b1:=Gr.lit (h:=h5) (sz:=5) (v:=[I 0,I 0,I 0,I 0,I 0]) rfl
  rw[b0_] at b1
  have b2:=Gr.lit (h:=h5++[AObj.cells ⟨[I 0,I 0,I 0,I 0,I 0],0,0,false⟩]) (sz:=1) (v:=[.bool true]) rfl
  rw[b0_] at b2
  have l6:(h5++[AObj.cells ⟨[I 0,I 0,I 0,I 0,I 0],0,0,false⟩]).length=h4.length+1+1:=by simp[l5]
  rw[l6] at b2
  rw[l5] at b1
  rw[←hh5] at hH
  have c1:=(b1.app [AObj.cells ⟨[.bool true],0,0,false⟩]).set (o:=h.length) (by omega) (.cells ⟨[.sl (h4.length+1) 0 1 5 none 0,.sl (h4.length+1+1) 0 1 1 none 0],0,0,false⟩)
  have c2:=b2.set (o:=h.length) (by omega) (.cells ⟨[.sl (h4.length+1) 0 1 5 none 0,.sl (h4.length+1+1) 0 1 1 none 0],0,0,false⟩)
  rw[←hH] at c1 c2
  refine ⟨[[0,0,0,0,0]],[true],_,_,rfl,c1.mono (by omega) (by rw[hH]; simp; omega),c2.mono (by omega) (by rw[hH]; simp; omega),⟨by decide,by decide,rfl,fun s s0 s1=>?_,fun s m s0 s1 m0 m1=>?_⟩,by decide,.inr ⟨hb,rfl,rfl⟩⟩
  ·obtain rfl:s=0:=by simp at s1; omega
   rfl
  ·obtain rfl:s=0:=by simp at s1; omega
   obtain ⟨k,rfl⟩:∃k:Nat,m=k:=⟨m.toNat,by omega⟩
   match k,m1 with
   |0,_=>decide
   |1,_=>decide
   |2,_=>decide
   |3,_=>decide
   |4,_=>decide
   |k+5,m1=>omega
 cases hnf:nfaF (oneN l) with
 |none=>
  rw[hnf] at q4
  obtain rfl:=q4
  simp -implicitDefEqProofs (disch:=first|assumption|omega|(simp only[gL,gA]<;>omega)|fail) only[gC,reduceIte,a6_,rt4]
  exact WP.ret (hH▸⟨eH,bad fun nf z=>by rw[hnf] at z; cases z⟩)
 |some nf=>
  rw[hnf] at q4
  cases hsb:subF nf 200 with
  |none=>
   simp only[hsb] at q4
   obtain rfl:=q4
   simp -implicitDefEqProofs (disch:=first|assumption|omega|(simp only[gL,gA]<;>omega)|fail) only[gC,reduceIte,a6_,rt4]
   exact WP.ret (hH▸⟨eH,bad fun nf' z=>by rw[hnf] at z; cases z; exact hsb⟩)
  |some p=>
   obtain ⟨D0,acc0⟩:=p
   simp only[hsb] at q4
   obtain ⟨v,rfl,D,acc,sN,sA,rfl,gN,gA,ok,hle,hw⟩:=q4
   have o1:=gN.sl.one
   have o2:=gA.sl.one
   have hw1:wrAt 2 (h4++[AObj.cells ⟨[.nils,.nils],0,0,false⟩]) (some (AObj.cells ⟨[.nils,.nils],0,0,false⟩)) h4.length 0 2 0 [sN,sA]=some (h4++[AObj.cells ⟨[sN,sA],0,0,false⟩]):=by
    refine (a3h (n:=2) (off:=0) (hi:=2) (vs:=[sN,sA]) rfl rfl (by omega) (by simp[o1,o2])).trans ?_
    rw[m8_ rfl]
    rfl
   simp -implicitDefEqProofs (disch:=first|assumption|omega|(simp only[gL,gA]<;>omega)|fail) only[gC,reduceIte,a6_,rt4,hw1]
   obtain ⟨h5,hh5⟩:∃h5,h5=h4++[AObj.cells ⟨[sN,sA],0,0,false⟩]:=⟨_,rfl⟩
   have e5:Ext h4 h5:=by rw[hh5]; exact Ext.push _ _
   have rt5:=e5.get rt4
   have b5:=(List.getElem?_eq_some_iff.1 rt5).1
   have hw2:wrAt 2 h5 (some (AObj.cells ⟨[.nils,.nils],0,0,false⟩)) h.length 0 2 0 [sN,sA]=some (h5.set h.length (.cells ⟨[sN,sA],0,0,false⟩)):=a3h (n:=2) (off:=0) (hi:=2) (vs:=[sN,sA]) rfl rfl (by omega) (by simp[o1,o2])
   have l3:=(e2.trans e3).len
   rw[←hh5]
   simp -implicitDefEqProofs (disch:=first|assumption|omega|(simp only[gL,gA]<;>omega)|fail) only[gC,reduceIte,rt5,hw2]
   have gN':=((gN.ext e5).set (o:=h.length) (.inl (by omega)) (.cells ⟨[sN,sA],0,0,false⟩)).mono (by omega:h.length≤h3.length) (by simp; have:=e5.len; omega:h4.length≤(h5.set h.length (.cells ⟨[sN,sA],0,0,false⟩)).length)
   have gA':=((gA.ext e5).set (o:=h.length) (.inl (by omega)) (.cells ⟨[sN,sA],0,0,false⟩)).mono (by omega:h.length≤h3.length) (by simp; have:=e5.len; omega:h4.length≤(h5.set h.length (.cells ⟨[sN,sA],0,0,false⟩)).length)
   exact WP.ret ⟨(e04.trans e5).set (Nat.le_refl _) _,D,acc,sN,sA,rfl,gN',gA',ok,Nat.le_trans hle (c0J hsb),.inl ⟨nf,D0,acc0,hnf,hsb,hw⟩⟩
end Go.Gm.AQ
namespace Go.Gm.AQ
open Go Go.Gm
def kE:List E:=[⟨0,1,0,4⟩]
def kD:List (List Int):=[[0,0,0,0,0]]
theorem kA0:hopA kE 1 (onL kE kD) 0=[(1,0,4)]:=by decide
theorem kA1:hopA kE 1 (onL kE kD) 1=[]:=by decide
theorem kNet:NetOk (2:Nat) kE:=⟨by omega,by omega,by simp[kE],fun e he=>by simp[kE] at he; subst he; simp⟩
theorem kCo:COk kE:=⟨fun e he=>by simp[kE] at he; subst he; simp⟩
theorem kDok:DOk kD [true]:=by
 refine ⟨by simp[kD],by simp[kD],by simp[kD],fun s s0 s1=>?_,fun s m s0 s1 m0 m1=>?_⟩
 ·simp[kD] at s1
  obtain rfl:s=0:=by omega
  rfl
 ·simp[kD] at s1
  obtain rfl:s=0:=by omega
  have:m=0∨m=1∨m=2∨m=3∨m=4:=by omega
  rcases this with rfl|rfl|rfl|rfl|rfl<;>decide
abbrev kA:=hopA kE 1 (onL kE kD)
theorem kHop {x y e:Nat}{w:Int}(hx:x<2)(h:(y,e,w)∈kA x):x=0∧y=1∧e=0∧w=4:=by
 have:x=0∨x=1:=by omega
 rcases this with rfl|rfl
 ·rw[kA,kA0] at h; simp at h; exact ⟨rfl,h.1,h.2.1,h.2.2⟩
 ·rw[kA,kA1] at h; simp at h
theorem kRange {st:Nat→Prop}(hs:∀x,st x→x<2){x:Nat}{l:List Nat}{c:Int}(h:Wk kA st x l c):x<2∧0≤c:=
 Wk.range (n:=2) (W:=2147483647) (⟨by omega,fun x hx y e w h=>by obtain ⟨rfl,rfl,rfl,rfl⟩:=kHop hx h; omega⟩) hs h
theorem kOne {l:List Nat}{c:Int}(h:Wk kA (fun x=>x=1*1) 1 l c):(l=[]∧c=0)∨4≤c:=by
 cases h with
 |nil _=>exact .inl ⟨rfl,rfl⟩
 |snoc h1 h2=>
  have hr:=kRange (fun x z=>by omega) h1
  obtain ⟨rfl,_,rfl,rfl⟩:=kHop hr.1 h2
  right; omega
theorem kZero {l:List Nat}{c:Int}(h:Wk kA (fun x=>x=0*1) 0 l c):l=[]∧c=0:=by
 cases h with
 |nil _=>exact ⟨rfl,rfl⟩
 |snoc h1 h2=>
  have hr:=kRange (fun x z=>by omega) h1
  obtain ⟨rfl,q,_⟩:=kHop hr.1 h2
  cases q
theorem kFour {l:List Nat}{c:Int}(h:Wk kA (fun x=>x=0*1) 1 l c):l=[0]∧c=4:=by
 cases h with
 |nil h=>simp at h
 |snoc h1 h2=>
  have hr:=kRange (fun x z=>by omega) h1
  obtain ⟨rfl,_,rfl,rfl⟩:=kHop hr.1 h2
  obtain ⟨rfl,rfl⟩:=kZero h1
  exact ⟨rfl,rfl⟩
theorem kBv {c:Nat→Int}{b:Nat}(hc:0≤c b):bv c [true] b 1=c b:=if_pos ⟨rfl,hc,.inl (show (-1:Int)<0 by decide)⟩
theorem kLc1 {c:Nat→Int}(lc:LC 2 kA (fun x=>x=1*1) c):c 1=0:=by
 rcases lc 1 (by omega) with ⟨h1,⟨l,h2⟩,h3⟩|⟨h1,h2⟩
 ·have:=h3 [] 0 (.nil rfl)
  omega
 ·exact absurd (Wk.nil (A:=kA) (st:=fun x=>x=1*1) (x:=1) rfl) (h2 _ _)
theorem kLc4 {c:Nat→Int}(lc:LC 2 kA (fun x=>x=0*1) c):c 1=4:=by
 have hw:Wk kA (fun x=>x=0*1) 1 ([]++[0]) (0+4):=.snoc (.nil rfl) (by rw[kA,kA0]; simp)
 rcases lc 1 (by omega) with ⟨h1,⟨l,h2⟩,h3⟩|⟨h1,h2⟩
 ·exact (kFour h2).2
 ·exact absurd hw (h2 _ _)
section
variable {h:Heap} {sE sD sA:AV}
theorem kRoute1 (hs:Sl h 4 sE (kE.map encE))(hD:Sl h 5 sD (kD.map encR))(hA:Sl h 1 sA ([true].map encB)):Tot tab h0_ [.agg [I 2,sE],.agg [sD,sA],I 1,I 1] h fun r h'=>Ext h h'∧∃sl,r=.tup [.agg [I 0,sl],.bool true]∧Sl h' 1 sl []:=by
 refine (b5g (N:=2) (v:=1) (u:=1) kNet kCo (by simp[kD]) hs kDok hD hA (by omega) (by omega)).mono ?_
 rintro r h' ⟨e,c,lc,rq⟩
 have h1:c 1=0:=kLc1 lc
 have h2:bv c [true] (1*kD.length) kD.length=0:=by
  show bv c [true] 1 1=0
  rw[kBv (by omega),h1]
 refine ⟨e,?_⟩
 rcases rq with ⟨q,_⟩|⟨_,q,l,sl,q1,q2,q3,q4,q5,q6,q7⟩
 ·omega
 ·rw[h2] at q4 q6
  have hq:q=0:=by simp[kD] at q1; omega
  subst hq
  have:l=[]:=by
   rcases kOne (l:=l) (c:=0) q4 with ⟨z,_⟩|z
   ·exact z
   ·omega
  subst this
  exact ⟨sl,q6,q7.sl⟩
theorem kRoute4 (hs:Sl h 4 sE (kE.map encE))(hD:Sl h 5 sD (kD.map encR))(hA:Sl h 1 sA ([true].map encB)):Tot tab h0_ [.agg [I 2,sE],.agg [sD,sA],I 0,I 1] h fun r h'=>Ext h h'∧∃sl,r=.tup [.agg [I 4,sl],.bool true]∧Sl h' 1 sl [[I 0]]:=by
 refine (b5g (N:=2) (v:=0) (u:=1) kNet kCo (by simp[kD]) hs kDok hD hA (by omega) (by omega)).mono ?_
 rintro r h' ⟨e,c,lc,rq⟩
 have h1:c 1=4:=kLc4 lc
 have h2:bv c [true] (1*kD.length) kD.length=4:=by
  show bv c [true] 1 1=4
  rw[kBv (by omega),h1]
 refine ⟨e,?_⟩
 rcases rq with ⟨q,_⟩|⟨_,q,l,sl,q1,q2,q3,q4,q5,q6,q7⟩
 ·omega
 ·rw[h2] at q4 q6
  have hq:q=0:=by simp[kD] at q1; omega
  subst hq
  obtain ⟨rfl,_⟩:=kFour (l:=l) (c:=4) q4
  exact ⟨sl,q6,q7.sl⟩
theorem kCosts (hs:Sl h 4 sE (kE.map encE))(hD:Sl h 5 sD (kD.map encR))(hA:Sl h 1 sA ([true].map encB)):Tot tab d8_ [.agg [I 2,sE],.agg [sD,sA],I 0] h fun r h'=>Ext h h'∧∃x,Sl h' 1 r ([x,(4:Int)].map encI):=by
 refine (b8n (N:=2) (v:=0) kNet kCo (by simp[kD]) hs kDok hD hA (by omega)).mono ?_
 rintro r h' ⟨e,c,lc,g⟩
 have h1:c 1=4:=kLc4 lc
 have h2:costL 2 kD.length c [true]=[bv c [true] 0 1,4]:=by
  show [bv c [true] (0*1) 1,bv c [true] (1*1) 1]=_
  rw[show 0*1=0 from rfl,show 1*1=1 from rfl,kBv (b:=1) (by omega),h1]
 rw[h2] at g
 exact ⟨e,_,g.sl⟩
theorem b7b {h:Heap}{o sz:Nat}{v:List AV}(hr:h[o]?=some (.cells ⟨v,0,0,false⟩))(hv:v.length=sz):Sl h sz (.sl o 0 1 sz none 0) [v]:=
 .inr ⟨o,0,none,0,_,rfl,hr,Nat.le_refl _,by simp[List.take_of_length_le (Nat.le_of_eq hv)],by simp[hv]⟩
end
theorem b8t (h:Heap):Tot tab l9_ [] h fun r h'=>r=.bool true∧Ext h h':=by
 refine WP.tot (fun k=>(a9p k h).trans (b0G tab k h)) ?_
 simp -implicitDefEqProofs (maxSteps:=1000000) (disch:=first|assumption|omega|(simp only[gL]<;>omega)|((repeat (first|exact Ext.refl _|assumption|apply Ext.app|apply Ext.mk|(refine Ext.setr ?_ (by (first|omega|(simp only[gL]<;>omega))) _))); done)|(simp only[gL,gA]<;>omega)|fail) only[gB,setAll,partL,fldV,reduceIte,Nat.reduceAdd,Nat.reduceMul]
 obtain ⟨h1,hh1⟩:∃h1,h1=(List.set (List.set (h++[AObj.cells ⟨[AV.int .i64 0,AV.int .i64 1,AV.int .i64 0,AV.int .i64 4],0,0,false⟩]++[AObj.cells ⟨[AV.int .i64 0,.nils],0,0,false⟩]) (h.length+1) (AObj.cells ⟨[AV.int .i64 2,AV.sl h.length 0 1 4 none 0],0,0,false⟩) ++
   [AObj.cells ⟨[AV.int .i64 0,AV.int .i64 0,AV.int .i64 0,AV.int .i64 0,AV.int .i64 0],0,0,false⟩]++[AObj.cells ⟨[AV.bool true],0,0,false⟩]++[AObj.cells ⟨[.nils,.nils],0,0,false⟩])
   (h.length+1+1+1+1) (AObj.cells ⟨[AV.sl (h.length+1+1) 0 1 5 none 0,AV.sl (h.length+1+1+1) 0 1 1 none 0],0,0,false⟩)):=⟨_,rfl⟩
 have e1:Ext h h1:=by rw[hh1]; ((repeat (first|exact Ext.refl _|assumption|apply Ext.app|apply Ext.mk|(refine Ext.setr ?_ (by (first|omega|(simp only[gL]<;>omega))) _))))
 have r0:h1[h.length]?=some (.cells ⟨encE ⟨0,1,0,4⟩,0,0,false⟩):=by rw[hh1]; simp -implicitDefEqProofs (maxSteps:=1000000) (disch:=first|assumption|omega|(simp only[gL]<;>omega)|((repeat (first|exact Ext.refl _|assumption|apply Ext.app|apply Ext.mk|(refine Ext.setr ?_ (by (first|omega|(simp only[gL]<;>omega))) _))); done)|(simp only[gL,gA]<;>omega)|fail) only[gB,setAll,partL,fldV,reduceIte,Nat.reduceAdd,Nat.reduceMul]; try rfl
 have r1:h1[h.length+1]?=some (.cells ⟨[I 2,AV.sl h.length 0 1 4 none 0],0,0,false⟩):=by rw[hh1]; simp -implicitDefEqProofs (maxSteps:=1000000) (disch:=first|assumption|omega|(simp only[gL]<;>omega)|((repeat (first|exact Ext.refl _|assumption|apply Ext.app|apply Ext.mk|(refine Ext.setr ?_ (by (first|omega|(simp only[gL]<;>omega))) _))); done)|(simp only[gL,gA]<;>omega)|fail) only[gB,setAll,partL,fldV,reduceIte,Nat.reduceAdd,Nat.reduceMul]; try rfl
 have r2:h1[h.length+1+1]?=some (.cells ⟨encR [0,0,0,0,0],0,0,false⟩):=by rw[hh1]; simp -implicitDefEqProofs (maxSteps:=1000000) (disch:=first|assumption|omega|(simp only[gL]<;>omega)|((repeat (first|exact Ext.refl _|assumption|apply Ext.app|apply Ext.mk|(refine Ext.setr ?_ (by (first|omega|(simp only[gL]<;>omega))) _))); done)|(simp only[gL,gA]<;>omega)|fail) only[gB,setAll,partL,fldV,reduceIte,Nat.reduceAdd,Nat.reduceMul]; try rfl
 have r3:h1[h.length+1+1+1]?=some (.cells ⟨encB true,0,0,false⟩):=by rw[hh1]; simp -implicitDefEqProofs (maxSteps:=1000000) (disch:=first|assumption|omega|(simp only[gL]<;>omega)|((repeat (first|exact Ext.refl _|assumption|apply Ext.app|apply Ext.mk|(refine Ext.setr ?_ (by (first|omega|(simp only[gL]<;>omega))) _))); done)|(simp only[gL,gA]<;>omega)|fail) only[gB,setAll,partL,fldV,reduceIte,Nat.reduceAdd,Nat.reduceMul]; try rfl
 have r4:h1[h.length+1+1+1+1]?=some (.cells ⟨[AV.sl (h.length+1+1) 0 1 5 none 0,AV.sl (h.length+1+1+1) 0 1 1 none 0],0,0,false⟩):=by rw[hh1]; simp -implicitDefEqProofs (maxSteps:=1000000) (disch:=first|assumption|omega|(simp only[gL]<;>omega)|((repeat (first|exact Ext.refl _|assumption|apply Ext.app|apply Ext.mk|(refine Ext.setr ?_ (by (first|omega|(simp only[gL]<;>omega))) _))); done)|(simp only[gL,gA]<;>omega)|fail) only[gB,setAll,partL,fldV,reduceIte,Nat.reduceAdd,Nat.reduceMul]; try rfl
 have hs:Sl h1 4 (.sl h.length 0 1 4 none 0) (kE.map encE):=b7b r0 rfl
 have hD:Sl h1 5 (.sl (h.length+1+1) 0 1 5 none 0) (kD.map encR):=b7b r2 rfl
 have hA:Sl h1 1 (.sl (h.length+1+1+1) 0 1 1 none 0) ([true].map encB):=b7b r3 rfl
 rw[←hh1]
 refine WP.call (kRoute1 hs hD hA) ?_
 rintro _ h2 ⟨e2,s2,rfl,z2⟩
 have r12:=e2.get r1
 have r42:=e2.get r4
 have b1:=(List.getElem?_eq_some_iff.1 r12).1
 have b4:=(List.getElem?_eq_some_iff.1 r42).1
 simp -implicitDefEqProofs (maxSteps:=1000000) (disch:=first|assumption|omega|(simp only[gL]<;>omega)|((repeat (first|exact Ext.refl _|assumption|apply Ext.app|apply Ext.mk|(refine Ext.setr ?_ (by (first|omega|(simp only[gL]<;>omega))) _))); done)|(simp only[gL,gA,d6_,d7_,z2.one,z2.cells,r12,r42]<;>omega)|fail) only[gB,setAll,partL,fldV,reduceIte,Nat.reduceAdd,Nat.reduceMul,d6_,d7_,z2.one,z2.cells,r12,r42]
 obtain ⟨h3,hh3⟩:∃h3,h3=((h2++[AObj.cells ⟨[AV.int .i64 0,.nils],0,0,false⟩]).set h2.length (.cells ⟨[I 0,s2],0,0,false⟩)):=⟨_,rfl⟩
 have e3:Ext h2 h3:=by rw[hh3]; ((repeat (first|exact Ext.refl _|assumption|apply Ext.app|apply Ext.mk|(refine Ext.setr ?_ (by (first|omega|(simp only[gL]<;>omega))) _))))
 have q3:h3[h2.length]?=some (.cells ⟨[I 0,s2],0,0,false⟩):=by rw[hh3]; exact b2_ (by simp)
 have e13:=e2.trans e3
 rw[←hh3]
 refine WP.call (kRoute4 (hs.ext e13) (hD.ext e13) (hA.ext e13)) ?_
 rintro _ h4 ⟨e4,s4,rfl,z4⟩
 have r14:=(e3.trans e4).get r12
 have r44:=(e3.trans e4).get r42
 have q34:=e4.get q3
 have c1:=(List.getElem?_eq_some_iff.1 r14).1
 have c4:=(List.getElem?_eq_some_iff.1 r44).1
 have cq:=(List.getElem?_eq_some_iff.1 q34).1
 simp -implicitDefEqProofs (maxSteps:=1000000) (disch:=first|assumption|omega|(simp only[gL]<;>omega)|((repeat (first|exact Ext.refl _|assumption|apply Ext.app|apply Ext.mk|(refine Ext.setr ?_ (by (first|omega|(simp only[gL]<;>omega))) _))); done)|(simp only[gL,gA,d6_,d7_,z4.one,z4.cells,r14,r44]<;>omega)|fail) only[gB,setAll,partL,fldV,reduceIte,Nat.reduceAdd,Nat.reduceMul,d6_,d7_,z4.one,z4.cells,r14,r44]
 obtain ⟨h5,hh5⟩:∃h5,h5=((h4++[AObj.cells ⟨[AV.int .i64 0,.nils],0,0,false⟩]).set h4.length (.cells ⟨[I 4,s4],0,0,false⟩)):=⟨_,rfl⟩
 have e5:Ext h4 h5:=by rw[hh5]; ((repeat (first|exact Ext.refl _|assumption|apply Ext.app|apply Ext.mk|(refine Ext.setr ?_ (by (first|omega|(simp only[gL]<;>omega))) _))))
 have q5:h5[h4.length]?=some (.cells ⟨[I 4,s4],0,0,false⟩):=by rw[hh5]; exact b2_ (by simp)
 have e15:=(e13.trans e4).trans e5
 rw[←hh5]
 refine WP.call (kCosts (hs.ext e15) (hD.ext e15) (hA.ext e15)) ?_
 rintro r h6 ⟨e6,x,z6⟩
 have q36:=(e5.trans e6).get q34
 have q56:=e6.get q5
 have l2:=z2.len
 have l4:=z4.len
 simp only[List.length_nil,List.length_cons] at l2 l4
 have g1:gi [x,(4:Int)] 1=4:=rfl
 simp -implicitDefEqProofs (maxSteps:=1000000) (disch:=first|assumption|omega|(simp only[gL]<;>omega)|((repeat (first|exact Ext.refl _|assumption|apply Ext.app|apply Ext.mk|(refine Ext.setr ?_ (by (first|omega|(simp only[gL]<;>omega))) _))); done)|(simp only[gL,gA,d6_,d7_,q36,q56,l2,l4,z6.lenG,z6.idxG,z6.ld0,g1,encI]<;>omega)|fail) only[gB,setAll,partL,fldV,reduceIte,Nat.reduceAdd,Nat.reduceMul,d6_,d7_,q36,q56,l2,l4,z6.lenG,z6.idxG,z6.ld0,g1,encI]
 exact WP.ret ⟨rfl,(e1.trans e15).trans e6⟩
end Go.Gm.AQ
namespace Go.Gm.AQ
open Go Go.Gm
section
variable {h0 h:Heap} {g:AV} {N:Nat} {es:List E} {D:List (List Int)} {acc:List Bool}
theorem b4f {sE sD sA:AV}(no:NetOk N es)(co:COk es)(hn2:N*D.length≤1000000)(hs:Sl h 4 sE (es.map encE))(ok:DOk D acc)(hD:Sl h 5 sD (D.map encR))(hA:Sl h 1 sA (acc.map encB)){v:Nat}(hv:v<N) :
  Tot tab d8_ [.agg [I N,sE],.agg [sD,sA],I v] h fun r h'=>Ext h h'∧∃c,LC (N*D.length) (hopA es D.length (onL es D)) (fun x=>x=v*D.length) c∧(∀x,x<N*D.length→c x≤2147483647000000)∧Gr h.length h'.length h' 1 r ((costL N D.length c acc).map encI):=by
 refine WP.tot (fun k=>(a7K k _ _ _ h).trans (a8Z tab k _ _ _ h)) ?_
 have hN:N≤100000:=by have:=no.n1; omega
 obtain ⟨h1,hh1⟩:∃h1,h1=(h++[AObj.cells ⟨[I N,sE],0,0,false⟩])++[AObj.cells ⟨[sD,sA],0,0,false⟩]:=⟨_,rfl⟩
 have e1:Ext h h1:=by rw[hh1]; ((repeat (first|exact Ext.refl _|assumption|apply Ext.app|apply Ext.mk|(refine Ext.setr ?_ (by (first|omega|(simp only[gL]<;>omega))) _))))
 have r0:h1[h.length]?=some (.cells ⟨[I N,sE],0,0,false⟩):=by rw[hh1]; simp
 simp -implicitDefEqProofs (maxSteps:=1000000) (disch:=first|assumption|omega|(simp only[gL]<;>omega)|((repeat (first|exact Ext.refl _|assumption|apply Ext.app|apply Ext.mk|(refine Ext.setr ?_ (by (first|omega|(simp only[gL]<;>omega))) _))); done)|(simp only[gL,gA,hs.one,hs.cells,hD.one,hD.cells,hA.one,hA.cells]<;>omega)|fail) only[gB,setAll,partL,fldV,reduceIte,Nat.reduceAdd,Nat.reduceMul,hs.one,hs.cells,hD.one,hD.cells,hA.one,hA.cells]
 rw[←hh1]
 refine WP.call (b3D no (hs.ext e1) ok (hD.ext e1) (hA.ext e1)) ?_
 rintro g h2 ⟨e2,gv⟩
 obtain ⟨h3,hh3⟩:∃h3,h3=h2++[AObj.cells ⟨[I v,AV.int .i64 0],0,0,false⟩]:=⟨_,rfl⟩
 have e3:Ext h2 h3:=by rw[hh3]; exact Ext.push _ _
 have ha:Sl h3 2 (.sl h2.length 0 1 2 none 0) ([((v:Int),(0:Int))].map encP2):=by
  have:=(Gr.lit (h:=h2) (sz:=2) (v:=[I v,I 0]) rfl).sl
  rw[b0_] at this
  rw[hh3]; exact this
 rw[show AV.int .i64 0=I 0 from rfl] at hh3
 rw[←hh3]
 have gv3:=gv.ext e3
 refine WP.call (b2L (n:=N*D.length) gv3 ok hN rfl hn2 ha (fun a z=>?_) (by simp) (hopA es D.length (onL es D))) ?_
 ·obtain rfl:=List.mem_singleton.1 z
  have:=ok.l0
  exact ⟨by show (0:Int)≤v; omega,by show (v:Int)<N; omega,Int.le_refl _,by show (0:Int)<D.length; omega⟩
 rintro _ h4 ⟨e4,os,q,sc,se,sf,oc,oe,ov,cs,ds,fs,M,rfl,w4,d4,u4⟩
 refine WP.call (b2K e4 (fun o z=>z) gv3 ok co hN rfl hn2 (a8P gv3 ok no) (fun x z=>?_) w4 d4 u4) ?_
 ·obtain rfl:=a9E.1 z
  have:=spotN (S:=D.length) hv ok.l0
  omega
 rintro _ h5 ⟨rfl,f5,id2,k2,ls2,rk2,cs2,ds2,fs2,M2,w5,d5,m5,u5⟩
 have e35:Ext h3 h5:=f5.ext e4 fun o z1 z2=>by omega
 have e05:=((e1.trans e2).trans e3).trans e35
 have r5:=((e2.trans e3).trans e35).get r0
 obtain ⟨s6,h6,a6,g6,e6,_,l6⟩:=t0_ (zero:=[AV.int .i64 0]) (sz:=1) (bytes:=8) (n:=(N:Int)) h5 (by omega) (by omega) (by omega) rfl rfl
 have hre:List.replicate (N:Int).toNat [AV.int .i64 0]=(List.replicate N (0:Int)).map encI:=by simp[encI,I]
 rw[hre] at g6
 simp -implicitDefEqProofs (maxSteps:=1000000) (disch:=first|assumption|omega|(simp only[gL]<;>omega)|((repeat (first|exact Ext.refl _|assumption|apply Ext.app|apply Ext.mk|(refine Ext.setr ?_ (by (first|omega|(simp only[gL]<;>omega))) _))); done)|(simp only[gL,gA,r5,a6,g6.sl.lenG,List.length_replicate]<;>omega)|fail) only[gB,setAll,partL,fldV,reduceIte,Nat.reduceAdd,Nat.reduceMul,r5,a6,g6.sl.lenG,List.length_replicate]
 have hl:=e05.len
 refine WP.ent ((b6N (W:=fun o=>o<h5.length) (gv3) ok hN rfl hn2 (oo:=h5.length) (by have:=e35.len; omega) (by omega) N 0 h6 _ (by omega) (e35.trans e6) ((w5.mono fun o z1 _=>z1).ext e6) g6 (by simp) fun u hu=>by omega).mono ?_) fun i=>rfl
 rintro r h7 ⟨e7,g7⟩
 have hg:=(a8P gv3 ok no).gok co
 refine ⟨((e1.trans e2).trans e3).trans e7,gf cs2,?_,fun x hx=>?_,(g7.mono (by omega) (Nat.le_refl _)).low _ ?_⟩
 ·have:=DI.lc hg (fun x z=>by obtain rfl:=a9E.1 z; have:=spotN (S:=D.length) hv ok.l0; omega) d5 m5
  intro x hx
  have h8:=this x hx
  have hst:atSt D.length [((v:Int),(0:Int))]=fun x=>x=v*D.length:=by
   funext x; exact propext a9E
  rw[hst] at h8
  exact h8
 ·have u0:=x8_ (N*D.length) (gf cs2)
  by_cases q:0≤gf cs2 x
  ·have:=d5.bnd x hx _ (.inl ⟨q,rfl⟩)
   omega
  ·omega
 ·exact Nat.le_refl _
end
end Go.Gm.AQ
namespace Go.Gm.AQ
open Go Go.Gm
structure Two (A B:List E):Prop where
 l:A.length=B.length
 e:∀i,i<A.length→(eg B i).fr=(eg A i).fr∧(eg B i).to=(eg A i).to∧(eg B i).md=(eg A i).md∧(eg B i).co=2*(eg A i).co
theorem b3F {es:List E}{v:Int}{l:List Nat}{e:Nat}:OkW es v (l++[e])↔OkW es v l∧e<es.length∧(eg es e).fr=atV es v l:=by
 constructor
 ·intro h
  refine ⟨fun i a hi=>?_,?_⟩
  ·have hl:=(List.getElem?_eq_some_iff.1 hi).1
   have:=h i a (by rw[List.getElem?_append_left hl]; exact hi)
   rw[List.take_append_of_le_length (by omega)] at this
   exact this
  ·have:=h l.length e (by simp)
   rw[List.take_append_of_le_length (Nat.le_refl _),List.take_length] at this
   exact this
 ·rintro ⟨h1,h2,h3⟩ i a hi
  by_cases q:i<l.length
  ·rw[List.getElem?_append_left q] at hi
   rw[List.take_append_of_le_length (by omega)]
   exact h1 i a hi
  ·have hl:=(List.getElem?_eq_some_iff.1 hi).1
   simp only[List.length_append,List.length_cons,List.length_nil] at hl
   obtain rfl:i=l.length:=by omega
   rw[List.getElem?_append_right (Nat.le_refl _)] at hi
   simp at hi
   subst hi
   rw[List.take_append_of_le_length (Nat.le_refl _),List.take_length]
   exact ⟨h2,h3⟩
theorem Two.walk {A B:List E}(h:Two A B)(v:Int):∀(k:Nat) (l:List Nat),l.length=k→(OkW A v l↔OkW B v l)∧(OkW A v l→atV B v l=atV A v l∧wdOf B l=wdOf A l∧atC B l=2*atC A l):=by
 intro k
 induction k with
 |zero=>
  intro l hl
  obtain rfl:l=[]:=List.length_eq_zero_iff.1 hl
  exact ⟨⟨fun _ i e hi=>by simp at hi,fun _ i e hi=>by simp at hi⟩,fun _=>⟨rfl,rfl,rfl⟩⟩
 |succ k ih=>
  intro l hl
  obtain ⟨l',e,rfl⟩:∃l' e,l=l'++[e]:=⟨l.dropLast,l.getLast (by intro z; simp[z] at hl),(List.dropLast_concat_getLast _).symm⟩
  obtain ⟨i1,i2⟩:=ih l' (by simpa using hl)
  have hl2:=h.l
  refine ⟨?_,fun ho=>?_⟩
  ·rw[b3F,b3F]
   constructor
   ·rintro ⟨a,b,c⟩
    exact ⟨i1.1 a,by omega,by rw[(h.e e b).1,(i2 a).1]; exact c⟩
   ·rintro ⟨a,b,c⟩
    have a':=i1.2 a
    have b':e<A.length:=by omega
    exact ⟨a',b',by rw[←(h.e e b').1,←(i2 a').1]; exact c⟩
  ·obtain ⟨a,b,c⟩:=b3F.1 ho
   obtain ⟨q1,q2,q3⟩:=i2 a
   obtain ⟨r1,r2,r3,r4⟩:=h.e e b
   refine ⟨by rw[a9F,a9F,r2],?_,?_⟩
   ·have q:∀es:List E,wdOf es (l'++[e])=wdOf es l'++[(eg es e).md]:=fun es=>by simp[wdOf]
    rw[q,q,q2,r3]
   ·rw[b2N,b2N,q3,r4]; omega
theorem Two.lw {A B:List E}(h:Two A B){v u:Int}{P:List Int→Prop}{x y:Int}(hx:LW A v u P x)(hy:LW B v u P y):(x = -1∧y = -1)∨(0≤x∧y=2*x):=by
 have w:=fun l=>h.walk v l.length l rfl
 rcases hy.ex with rfl|⟨y0,l,y1,y2,y3,y4⟩
 ·rcases hx.ex with rfl|⟨x0,k,x1,x2,x3,x4⟩
  ·exact .inl ⟨rfl,rfl⟩
  ·obtain ⟨q1,q2⟩:=w k
   obtain ⟨r1,r2,r3⟩:=q2 x1
   have:=hy.le k (q1.1 x1) (by rw[r1]; exact x2) (by rw[r2]; exact x3)
   omega
 ·obtain ⟨q1,q2⟩:=w l
  have a:=q1.2 y1
  obtain ⟨r1,r2,r3⟩:=q2 a
  have hb:=hx.le l a (by rw[←r1]; exact y2) (by rw[←r2]; exact y3)
  rcases hx.ex with z|⟨x0,k,x1,x2,x3,x4⟩
  ·omega
  ·obtain ⟨p1,p2⟩:=w k
   obtain ⟨s1,s2,s3⟩:=p2 x1
   have:=hy.le k (p1.1 x1) (by rw[s1]; exact x2) (by rw[s2]; exact x3)
   right; omega
def cE (f:Int→Int)(e:E):E:=⟨e.fr,e.to,e.md,f e.co⟩
def mx (f:Int→Int)(i:Nat)(es:List E):List E:=(es.take i).map (cE f)++es.drop i
theorem b2b (f:Int→Int)(i:Nat)(es:List E):(mx f i es).length=es.length:=by simp[mx]; omega
theorem mx_gi {f:Int→Int}{i:Nat}{es:List E}(h:i<es.length):gi (mx f i es) (i:Int)=gi es (i:Int):=by
 rw[c5_ (by rw[b2b]; exact h),c5_ h]
 simp only[mx]
 rw[List.getElem_append_right (by simp; omega)]
 simp[Nat.min_eq_left (Nat.le_of_lt h)]
theorem b7c (f:Int→Int)(i:Nat)(es:List E)(p:Nat):(mx f i es)[p]?=if p<i then es[p]?.map (cE f) else es[p]?:=by
 simp only[mx]
 by_cases q:p<i
 ·rw[if_pos q]
  by_cases z:p<es.length
  ·rw[List.getElem?_append_left (by simp; omega),List.getElem?_map,List.getElem?_take_of_lt q]
  ·rw[List.getElem?_append_right (by simp; omega),List.getElem?_drop,List.getElem?_eq_none (by simp; omega),List.getElem?_eq_none (by omega)]; rfl
 ·rw[if_neg q]
  by_cases z:i≤es.length
  ·rw[List.getElem?_append_right (by simp; omega),List.getElem?_drop]
   congr 1; simp; omega
  ·rw[List.getElem?_append_right (by simp; omega),List.getElem?_drop,List.getElem?_eq_none (by simp; omega),List.getElem?_eq_none (by omega)]
theorem b9N {f:Int→Int}{i:Nat}{es:List E}(h:i<es.length):(mx f i es).set i (cE f (gi es (i:Int)))=mx f (i+1) es:=by
 refine List.ext_getElem? fun p=>?_
 rw[b7c,List.getElem?_set]
 rw[b2b]
 by_cases q:i=p
 ·subst q
  rw[if_pos rfl,if_pos h,if_pos (by omega),List.getElem?_eq_getElem h,c5_ h]; rfl
 ·rw[if_neg q,b7c]
  by_cases z:p<i
  ·rw[if_pos z,if_pos (by omega)]
  ·rw[if_neg z,if_neg (by omega)]
theorem b9O (f:Int→Int)(es:List E):mx f es.length es=es.map (cE f):=by simp[mx]
theorem c2Q (es:List E):Two (es.map (cE (· % 100))) (es.map (cE fun c=>2*(c % 100))):=by
 refine ⟨by simp,fun i hi=>?_⟩
 rw[List.length_map] at hi
 rw[show eg (es.map (cE fun c=>2*(c % 100))) i=cE (fun c=>2*(c % 100)) es[i] by rw[eg,c5_ (by simpa using hi)]; simp,
  show eg (es.map (cE (· % 100))) i=cE (· % 100) es[i] by rw[eg,c5_ (by simpa using hi)]; simp]
 exact ⟨rfl,rfl,rfl,rfl⟩
theorem b9P {N:Nat}{es:List E}(no:NetOk N es)(f:Int→Int):NetOk N (es.map (cE f)):=⟨no.n0,no.n1,by simpa using no.len,fun e he=>by
 obtain ⟨x,hx,rfl⟩:=List.mem_map.1 he
 exact no.edge x hx⟩
theorem cE_co {es:List E}{f:Int→Int}(hf:∀c,0≤f c∧f c≤200):COk (es.map (cE f)):=⟨fun e he=>by
 obtain ⟨x,hx,rfl⟩:=List.mem_map.1 he
 have:=hf x.co
 show 0≤f x.co∧f x.co≤2147483647
 omega⟩
end Go.Gm.AQ
namespace Go.Gm.AQ
open Go Go.Gm
theorem c1Z {h:Heap}{N on:Nat}{s a b:AV}{A B:List Int}(rn:h[on]?=some (.cells ⟨[I N,s],0,0,false⟩))(ha:Sl h 1 a (A.map encI))(hb:Sl h 1 b (B.map encI))(la:A.length=N)(lb:B.length=N)(hN:N≤1000000)(hr:∀u,u<N→(gi A (u:Int) = -1∧gi B (u:Int) = -1)∨(0≤gi A (u:Int)∧gi A (u:Int)≤2147483647000000∧gi B (u:Int)=2*gi A (u:Int))) :
  ∀(d u:Nat),u+d=N→WP (fun p:Nat × Nat=>j5_ tab p.1 p.2 (.ptr on 0 2 0) a b (I u) h) fun r h'=>r=.bool true:=by
 have e:=Ext.refl h
 intro d
 induction d with
 |zero=>
  intro u hu
  refine WP.rnd (fun i' j=>z8_ tab i' j (.ptr on 0 2 0) a b (I u) h) ?_
  simp -implicitDefEqProofs (disch:=first|assumption|omega|(simp only[gL,gA]<;>omega)|fail) only[gC,reduceIte,rn]
  exact WP.ret rfl
 |succ d ih=>
  intro u hu
  refine WP.rnd (fun i' j=>z8_ tab i' j (.ptr on 0 2 0) a b (I u) h) ?_
  have hn:=ih (u+1) (by omega)
  rcases hr u (by omega) with ⟨q1,q2⟩|⟨q1,q2,q3⟩
  ·simp -implicitDefEqProofs (disch:=first|assumption|omega|exact Ext.refl _|(simp only[gL,gA]<;>omega)|fail) only[gC,reduceIte,rn,ha.idxG,ha.ld0,la,encI,q1,hb.idxG,hb.ld0,lb,q2]
   exact hn
  ·obtain ⟨x,hx⟩:∃x,gi A (u:Int)=x:=⟨_,rfl⟩
   rw[hx] at q1 q2 q3
   have hw:IntKind.i64.wrap (2*x)=2*x:=s9_ (by omega) (by omega)
   simp -implicitDefEqProofs (disch:=first|assumption|omega|exact Ext.refl _|(simp only[gL,gA]<;>omega)|fail) only[gC,reduceIte,rn,ha.idxG,ha.ld0,la,encI,hx,hb.idxG,hb.ld0,lb,q3,hw]
   exact hn
theorem c2a {hb h0:Heap}{N on om od lo1 hi1 lo2 hi2:Nat}{s1 s2 v sD sA:AV}{es:List E}{D:List (List Int)}{acc:List Bool}{Q:AV→Heap→Prop}(no:NetOk N es)(co:COk es)(hos:hi1≤lo2)(hon:hi2≤on)(hom:hi2≤om)(hQ:∀h,FrS (fun o=>lo1≤o∧o<hi2) h0 h→Gr lo1 hi1 h 4 s1 ((es.map (cE (· % 100))).map encE)→Gr lo2 hi2 h 4 s2 ((es.map (cE fun c=>2*(c % 100))).map encE)→
   WP (fun k:Nat=>t6_ tab k v (.ptr on 0 2 0) (.ptr om 0 2 0) (.ptr od 0 2 0) h) Q)(rn:h0[on]?=some (.cells ⟨[I N,s1],0,0,false⟩))(rm:h0[om]?=some (.cells ⟨[I N,s2],0,0,false⟩))(l12:lo1≤lo2)(h12:hi1≤hi2) :
  ∀(d i:Nat) (h:Heap),i+d=es.length→FrS (fun o=>lo1≤o∧o<hi2) h0 h→Gr lo1 hi1 h 4 s1 ((mx (· % 100) i es).map encE)→Gr lo2 hi2 h 4 s2 ((mx (fun c=>2*(c % 100)) i es).map encE)→
   WP (fun p:Nat × Nat=>j4_ tab p.1 p.2 v (.ptr on 0 2 0) (.ptr om 0 2 0) (.ptr od 0 2 0) (I i) h) Q:=by
 have bn:=(List.getElem?_eq_some_iff.1 rn).1
 have bm:=(List.getElem?_eq_some_iff.1 rm).1
 have hlen:=no.len
 intro d
 induction d with
 |zero=>
  intro i h hi f g1 g2
  refine WP.rnd (fun i' j=>z9_ tab i' j v (.ptr on 0 2 0) (.ptr om 0 2 0) (.ptr od 0 2 0) (I i) h) ?_
  obtain rfl:i=es.length:=by omega
  have rm':=(f.get (by omega) bm).trans rm
  have ll:=b2b (fun c=>2*(c % 100)) es.length es
  have hq:=hQ h f (g1.cong (by rw[b9O])) (g2.cong (by rw[b9O]))
  simp -implicitDefEqProofs (disch:=first|assumption|omega|(simp only[gL,gA]<;>omega)|fail) only[gC,reduceIte,rm',g2.sl.lenG,ll]
  exact WP.lv hq fun i j=>rfl
 |succ d ih=>
  intro i h hi f g1 g2
  refine WP.rnd (fun i' j=>z9_ tab i' j v (.ptr on 0 2 0) (.ptr om 0 2 0) (.ptr od 0 2 0) (I i) h) ?_
  have hil:i<es.length:=by omega
  have rn':=(f.get (by omega) bn).trans rn
  have rm':=(f.get (by omega) bm).trans rm
  have ll1:=b2b (· % 100) i es
  have ll2:=b2b (fun c=>2*(c % 100)) i es
  have x1:=mx_gi (f:=(· % 100)) hil
  have x2:=mx_gi (f:=fun c=>2*(c % 100)) hil
  obtain ⟨e,he⟩:∃e,gi es (i:Int)=e:=⟨_,rfl⟩
  have hem:e∈es:=he▸l8_ (by omega) (by omega)
  have hco:=co.c e hem
  rw[he] at x1 x2
  have y1:((mx (· % 100) i es).map encE)[((i:Nat):Int).toNat]?=some (encE e):=by
   rw[Int.toNat_natCast,List.getElem?_map,List.getElem?_eq_getElem (by rw[ll1]; exact hil),Option.map_some,←c5_ (by rw[ll1]; exact hil),x1]
  have y2:((mx (fun c=>2*(c % 100)) i es).map encE)[((i:Nat):Int).toNat]?=some (encE e):=by
   rw[Int.toNat_natCast,List.getElem?_map,List.getElem?_eq_getElem (by rw[ll2]; exact hil),Option.map_some,←c5_ (by rw[ll2]; exact hil),x2]
  have e0:=Ext.refl h
  have s1v:=g1.sl
  have s2v:=g2.sl
  simp -implicitDefEqProofs (disch:=first|assumption|omega|exact Ext.refl _|(simp only[gL,gA]<;>omega)|fail) only[gC,reduceIte,rm',rn',s2v.lenG,ll2,s1v.idxG,s1v.ldf,ll1,x1,encE]
  refine WP.call (b3y (by omega) (by unfold Fit; omega) _) ?_
  rintro _ _ ⟨rfl,rfl⟩
  have m0:=Int.emod_nonneg e.co (show (100:Int)≠0 by omega)
  have m1:=Int.emod_lt_of_pos e.co (show (0:Int)<100 by omega)
  obtain ⟨h2,w1,w2,w3,w4⟩:=g1.write (i:=(i:Int)) (by omega) y1 3 1 (v:=I (e.co % 100)) rfl (by omega) rfl
  have k1:Gr lo1 hi1 h2 4 s1 ((mx (· % 100) (i+1) es).map encE):=w2.cong (by
   rw[Int.toNat_natCast,←b9N hil,he,List.map_set]; rfl)
  have k2:Gr lo2 hi2 h2 4 s2 ((mx (fun c=>2*(c % 100)) i es).map encE):=g2.fr w3 (by omega)
  have rn2:h2[on]?=_:=(w3.get (by omega) (by have:=f.len; omega)).trans rn'
  have rm2:h2[om]?=_:=(w3.get (by omega) (by have:=f.len; omega)).trans rm'
  have k1s:=k1.sl
  have ll3:=b2b (· % 100) (i+1) es
  have x3:gi (mx (· % 100) (i+1) es) (i:Int)=cE (· % 100) e:=by
   rw[c5_ (by rw[ll3]; exact hil)]
   have:=b7c (· % 100) (i+1) es i
   rw[if_pos (by omega),List.getElem?_eq_getElem (by rw[ll3]; exact hil),List.getElem?_eq_getElem hil] at this
   have h3:=Option.some.inj this
   rw[h3,←c5_ hil,he]
  obtain ⟨h3,v1,v2,v3,v4⟩:=k2.write (i:=(i:Int)) (by omega) y2 3 1 (v:=I (2*(e.co % 100))) rfl (by omega) rfl
  have k3:Gr lo2 hi2 h3 4 s2 ((mx (fun c=>2*(c % 100)) (i+1) es).map encE):=v2.cong (by
   rw[Int.toNat_natCast,←b9N hil,he,List.map_set]; rfl)
  have k4:Gr lo1 hi1 h3 4 s1 ((mx (· % 100) (i+1) es).map encE):=k1.fr v3 (by omega)
  have hw:IntKind.i64.wrap (2*(e.co % 100))=2*(e.co % 100):=s9_ (by omega) (by omega)
  have e2:=Ext.refl h2
  have g1s:=g1.sl
  simp -implicitDefEqProofs (disch:=first|assumption|omega|exact Ext.refl _|(simp only[gL,gA]<;>omega)|fail) only[gC,reduceIte,rn',s1v.idxG,ll1,w1,rm2,rn2,k1s.idxG,ll3,k1s.ldf,x3,encE,cE,hw,s2v.idxG,ll2,v1]
  exact ih (i+1) h3 (by omega) ((f.trans (w3.s.mono fun o _ z=>by omega)).trans (v3.s.mono fun o _ z=>by omega)) k4 k3
end Go.Gm.AQ
namespace Go.Gm.AQ
open Go Go.Gm
theorem bv_le {c:Nat→Int}{acc:List Bool}{N S v:Nat}(hv:v<N)(hc:∀x,x<N*S→c x≤2147483647000000):bv c acc (v*S) S≤2147483647000000:=by
 have:∀n,n≤S→bv c acc (v*S) n≤2147483647000000:=by
  intro n
  induction n with
  |zero=>intro _; rw[bv]; omega
  |succ n ih=>
   intro hn
   rw[bv]
   split
   ·exact hc _ (spotN hv (by omega))
   ·exact ih (by omega)
 exact this _ (Nat.le_refl _)
theorem sums_spec {h:Heap}{size modes frm:Int}{ns ls:AV}{zs:List Int}{l:List Rw}{css:List (List AV)}(hns:Sl h 1 ns (zs.map encI))(hs:Sl h 3 ls css)(hr:RVs h l css) :
  Tot tab v2_ [I size,ns,I modes,ls,I frm] h fun r _=>r=.bool true:=by
 refine WP.tot (fun k=>(a6v k _ _ _ _ _ h).trans (a7e tab k _ _ _ _ _ h)) ?_
 refine WP.call (b8t h) ?_
 rintro _ h1 ⟨rfl,e1⟩
 simp -implicitDefEqProofs (maxSteps:=1000000) (disch:=first|assumption|omega|(simp only[gL]<;>omega)|((repeat (first|exact Ext.refl _|assumption|apply Ext.app|apply Ext.mk|(refine Ext.setr ?_ (by (first|omega|(simp only[gL]<;>omega))) _))); done)|(simp only[gL,gA]<;>omega)|fail) only[gB,setAll,partL,fldV,reduceIte,Nat.reduceAdd,Nat.reduceMul]
 refine WP.call (c0a (hs.ext e1) (hr.ext e1)) ?_
 rintro _ _ ⟨rfl,rfl⟩
 by_cases hf:szF 7 l≤14
 ·rw[decide_eq_true hf]
  simp -implicitDefEqProofs (maxSteps:=1000000) (disch:=first|assumption|omega|(simp only[gL]<;>omega)|((repeat (first|exact Ext.refl _|assumption|apply Ext.app|apply Ext.mk|(refine Ext.setr ?_ (by (first|omega|(simp only[gL]<;>omega))) _))); done)|(simp only[gL,gA]<;>omega)|fail) only[gB,setAll,partL,fldV,reduceIte,Nat.reduceAdd,Nat.reduceMul]
  refine WP.call (b5O (hns.ext e1)) ?_
  rintro _ h2 ⟨e2,s1,rfl,g1⟩
  refine WP.call (b5O ((hns.ext e1).ext e2)) ?_
  rintro _ h3 ⟨e3,s2,rfl,g2⟩
  have no:=c2e size zs modes
  have co:=c2I size zs modes
  have hN:=b0B size
  obtain ⟨N,hNN⟩:∃N:Nat,mkN size=N:=⟨(mkN size).toNat,by omega⟩
  rw[hNN] at no hN
  rw[hNN]
  generalize mkE size zs modes=es at no co g1 g2
  have gs1:=g1.sl
  have gs2:=g2.sl
  simp -implicitDefEqProofs (maxSteps:=1000000) (disch:=first|assumption|omega|(simp only[gL]<;>omega)|((repeat (first|exact Ext.refl _|assumption|apply Ext.app|apply Ext.mk|(refine Ext.setr ?_ (by (first|omega|(simp only[gL]<;>omega))) _))); done)|(simp only[gL,gA,gs1.one,gs1.cells,gs2.one,gs2.cells]<;>omega)|fail) only[gB,setAll,partL,fldV,reduceIte,Nat.reduceAdd,Nat.reduceMul,gs1.one,gs1.cells,gs2.one,gs2.cells]
  obtain ⟨h4,hh4⟩:∃h4,h4=(List.set (h3++[AObj.cells ⟨[AV.int .i64 0,.nils],0,0,false⟩]++[AObj.cells ⟨[AV.int .i64 0,.nils],0,0,false⟩]) h3.length (AObj.cells ⟨[I N,s1],0,0,false⟩)).set (h3.length+1) (AObj.cells ⟨[I N,s2],0,0,false⟩):=⟨_,rfl⟩
  have e4:Ext h3 h4:=by rw[hh4]; ((repeat (first|exact Ext.refl _|assumption|apply Ext.app|apply Ext.mk|(refine Ext.setr ?_ (by (first|omega|(simp only[gL]<;>omega))) _))))
  have rn:h4[h3.length]?=some (.cells ⟨[I N,s1],0,0,false⟩):=by rw[hh4]; simp -implicitDefEqProofs (maxSteps:=1000000) (disch:=first|assumption|omega|(simp only[gL]<;>omega)|((repeat (first|exact Ext.refl _|assumption|apply Ext.app|apply Ext.mk|(refine Ext.setr ?_ (by (first|omega|(simp only[gL]<;>omega))) _))); done)|(simp only[gL,gA]<;>omega)|fail) only[gB,setAll,partL,fldV,reduceIte,Nat.reduceAdd,Nat.reduceMul]
  have rm:h4[h3.length+1]?=some (.cells ⟨[I N,s2],0,0,false⟩):=by rw[hh4]; simp -implicitDefEqProofs (maxSteps:=1000000) (disch:=first|assumption|omega|(simp only[gL]<;>omega)|((repeat (first|exact Ext.refl _|assumption|apply Ext.app|apply Ext.mk|(refine Ext.setr ?_ (by (first|omega|(simp only[gL]<;>omega))) _))); done)|(simp only[gL,gA]<;>omega)|fail) only[gB,setAll,partL,fldV,reduceIte,Nat.reduceAdd,Nat.reduceMul]
  have l4:h4.length=h3.length+2:=by rw[hh4]; simp
  have l2:=e2.len
  have l3:=e3.len
  rw[←hh4]
  have e14:=((e1.trans e2).trans e3).trans e4
  refine WP.call (b7a (hs.ext e14) (hr.ext e14) hf) ?_
  rintro _ h5 ⟨e5,D,acc,sD,sA,rfl,yD,yA,ok,lD,_⟩
  have zD:=yD.sl
  have zA:=yA.sl
  have o1:=zD.one
  have o2:=zA.one
  have hw1:wrAt 2 (h5++[AObj.cells ⟨[.nils,.nils],0,0,false⟩]) (some (AObj.cells ⟨[.nils,.nils],0,0,false⟩)) h5.length 0 2 0 [sD,sA]=some (h5++[AObj.cells ⟨[sD,sA],0,0,false⟩]):=by
   refine (a3h (n:=2) (off:=0) (hi:=2) (vs:=[sD,sA]) rfl rfl (by omega) (by simp[o1,o2])).trans ?_
   rw[m8_ rfl]
   rfl
  simp -implicitDefEqProofs (maxSteps:=1000000) (disch:=first|assumption|omega|(simp only[gL]<;>omega)|((repeat (first|exact Ext.refl _|assumption|apply Ext.app|apply Ext.mk|(refine Ext.setr ?_ (by (first|omega|(simp only[gL]<;>omega))) _))); done)|(simp only[gL,gA,hw1]<;>omega)|fail) only[gB,setAll,partL,fldV,reduceIte,Nat.reduceAdd,Nat.reduceMul,hw1]
  obtain ⟨h6,hh6⟩:∃h6,h6=h5++[AObj.cells ⟨[sD,sA],0,0,false⟩]:=⟨_,rfl⟩
  have e6:Ext h5 h6:=by rw[hh6]; exact Ext.push _ _
  have rd:h6[h5.length]?=some (.cells ⟨[sD,sA],0,0,false⟩):=by rw[hh6]; simp
  have l5:=e5.len
  have l6:h6.length=h5.length+1:=by rw[hh6]; simp
  rw[←hh6]
  have e56:=e5.trans e6
  have hmx:∀f:Int→Int,mx f 0 es=es:=fun f=>by simp[mx]
  refine WP.ent (c2a (lo1:=h1.length) (hi1:=h2.length) (lo2:=h2.length) (hi2:=h3.length) (on:=h3.length) (om:=h3.length+1) (od:=h5.length) (D:=D) (acc:=acc) (sD:=sD) (sA:=sA) (hb:=h1) no co (Nat.le_refl _) (Nat.le_refl _) (by omega) (fun h7 f7 k1 k2=>?_) (e56.get rn) (e56.get rm) (by omega) (by omega) es.length 0 h6 (by omega) (FrS.refl _ _) (((g1.ext e3).ext (e4.trans e56)).cong (by rw[hmx])) ((g2.ext (e4.trans e56)).cong (by rw[hmx]))) fun i=>rfl
  have no1:=b9P no (· % 100)
  have no2:=b9P no fun c=>2*(c % 100)
  have co1:COk (es.map (cE (· % 100))):=cE_co fun c=>by
   have m0:=Int.emod_nonneg c (show (100:Int)≠0 by omega)
   have m1:=Int.emod_lt_of_pos c (show (0:Int)<100 by omega)
   omega
  have co2:COk (es.map (cE fun c=>2*(c % 100))):=cE_co fun c=>by
   have m0:=Int.emod_nonneg c (show (100:Int)≠0 by omega)
   have m1:=Int.emod_lt_of_pos c (show (0:Int)<100 by omega)
   omega
  have tw:=c2Q es
  refine WP.congr (fun k=>a5x tab k (I frm) (.ptr h3.length 0 2 0) (.ptr (h3.length+1) 0 2 0) (.ptr h5.length 0 2 0) h7) ?_
  have rn7:=(f7.get (o:=h3.length) (by omega) (by omega)).trans (e56.get rn)
  have rm7:=(f7.get (o:=h3.length+1) (by omega) (by omega)).trans (e56.get rm)
  have rd7:=(f7.get (o:=h5.length) (by omega) (by omega)).trans rd
  have D7:=((yD.ext e6).frs f7 fun o z1 z2 z3=>by omega).sl
  have A7:=((yA.ext e6).frs f7 fun o z1 z2 z3=>by omega).sl
  generalize es.map (cE (· % 100))=es1 at *
  generalize (es.map (cE fun c=>2*(c % 100)))=es2 at *
  simp -implicitDefEqProofs (maxSteps:=1000000) (disch:=first|assumption|omega|(simp only[gL]<;>omega)|((repeat (first|exact Ext.refl _|assumption|apply Ext.app|apply Ext.mk|(refine Ext.setr ?_ (by (first|omega|(simp only[gL]<;>omega))) _))); done)|(simp only[gL,gA,rn7]<;>omega)|fail) only[gB,setAll,partL,fldV,reduceIte,Nat.reduceAdd,Nat.reduceMul,rn7]
  refine WP.call (b3y (by omega) (by unfold Fit; omega) _) ?_
  rintro _ _ ⟨rfl,rfl⟩
  obtain ⟨v,hv⟩:∃v:Nat,frm % (N:Int)=v:=⟨(frm % (N:Int)).toNat,by have:=Int.emod_nonneg frm (show (N:Int)≠0 by omega); omega⟩
  have hvN:v<N:=by have:=Int.emod_lt_of_pos frm (show (0:Int)<N by omega); omega
  rw[hv]
  have hn2:N*D.length≤1000000:=by
   have:N*D.length≤12*200:=Nat.mul_le_mul (by omega) lD
   omega
  simp -implicitDefEqProofs (maxSteps:=1000000) (disch:=first|assumption|omega|(simp only[gL]<;>omega)|((repeat (first|exact Ext.refl _|assumption|apply Ext.app|apply Ext.mk|(refine Ext.setr ?_ (by (first|omega|(simp only[gL]<;>omega))) _))); done)|(simp only[gL,gA,rn7,rm7,rd7]<;>omega)|fail) only[gB,setAll,partL,fldV,reduceIte,Nat.reduceAdd,Nat.reduceMul,rn7,rm7,rd7]
  refine WP.call (b4f no1 co1 hn2 k1.sl ok D7 A7 hvN) ?_
  rintro ra h8 ⟨e8,ca,la,ba,ga⟩
  have rn8:=e8.get rn7
  have rm8:=e8.get rm7
  have rd8:=e8.get rd7
  simp -implicitDefEqProofs (maxSteps:=1000000) (disch:=first|assumption|omega|(simp only[gL]<;>omega)|((repeat (first|exact Ext.refl _|assumption|apply Ext.app|apply Ext.mk|(refine Ext.setr ?_ (by (first|omega|(simp only[gL]<;>omega))) _))); done)|(simp only[gL,gA,rm8,rd8]<;>omega)|fail) only[gB,setAll,partL,fldV,reduceIte,Nat.reduceAdd,Nat.reduceMul,rm8,rd8]
  refine WP.call (b4f no2 co2 hn2 (k2.sl.ext e8) ok (D7.ext e8) (A7.ext e8) hvN) ?_
  rintro rb h9 ⟨e9,cb,lb,bb,gb⟩
  have rn9:=e9.get rn8
  have xa:=(ga.ext e9).sl
  have xb:=gb.sl
  have hla:=b3E N D.length ca acc
  have hlb:=b3E N D.length cb acc
  simp -implicitDefEqProofs (maxSteps:=1000000) (disch:=first|assumption|omega|(simp only[gL]<;>omega)|((repeat (first|exact Ext.refl _|assumption|apply Ext.app|apply Ext.mk|(refine Ext.setr ?_ (by (first|omega|(simp only[gL]<;>omega))) _))); done)|(simp only[gL,gA,xa.lenG,hla,rn9,xb.lenG,hlb]<;>omega)|fail) only[gB,setAll,partL,fldV,reduceIte,Nat.reduceAdd,Nat.reduceMul,xa.lenG,hla,rn9,xb.lenG,hlb]
  refine WP.ent (c1Z rn9 xa xb hla hlb (by omega) (fun u hu=>?_) N 0 (by omega)) fun i=>rfl
  have hga:=b4E (S:=D.length) (c:=ca) (acc:=acc) hu
  have hgb:=b4E (S:=D.length) (c:=cb) (acc:=acc) hu
  have:=tw.lw (bv_lw ok no1 hvN hu la) (bv_lw ok no2 hvN hu lb)
  have:=bv_le (acc:=acc) hu ba
  rw[hga,hgb]
  omega
 ·rw[decide_eq_false hf]
  simp -implicitDefEqProofs (maxSteps:=1000000) (disch:=first|assumption|omega|(simp only[gL]<;>omega)|((repeat (first|exact Ext.refl _|assumption|apply Ext.app|apply Ext.mk|(refine Ext.setr ?_ (by (first|omega|(simp only[gL]<;>omega))) _))); done)|(simp only[gL,gA]<;>omega)|fail) only[gB,setAll,partL,fldV,reduceIte,Nat.reduceAdd,Nat.reduceMul]
  exact WP.ret rfl
end Go.Gm.AQ
namespace Go.Gm
open Go.RowKit
def roObj (cs:List AV):AObj:=.cells ⟨cs,0,0,true⟩
def initH (L:List (List AV × Option Loc)):Heap:=L.map fun p=>roObj p.1
def initR (L:List (List AV × Option Loc)):Ren:=⟨fun o g=>if g=0 then (L[o]?).bind (·.2) else none,fun _=>none⟩
def EntOk (W:World)(φ:Ren)(p:List AV × Option Loc):Prop:=∀l,p.2=some l→∃C e fr,W.heap[l.b]?=some (.cells C e fr)∧C.size=l.N∧l.n=p.1.length∧CellsAt φ p.1 l C
theorem initS {W:World}{L:List (List AV × Option Loc)}(hL:∀p∈L,EntOk W (initR L) p) :
  S W.heap.size W (initR L) (initH L) W:=by
 have got:∀o g l,(initR L).c o g=some l→g=0∧∃cs,L[o]?=some (cs,some l):=fun o g l h=>by
  simp only[initR] at h
  split at h
  ·rename_i hg
   cases hq:L[o]? with
   |none=>rw[hq] at h; cases h
   |some p=>rw[hq] at h; exact ⟨hg,p.1,by rw[←(show p.2=some l from h)]⟩
  ·cases h
 have ro:∀o g l,(initR L).c o g=some l→isRo (initH L) o=true:=fun o g l h=>by
  obtain ⟨_,cs,hq⟩:=got o g l h
  simp[isRo,initH,hq,roObj]
 refine ⟨⟨fun o g l h=>?_,fun o b h=>(by cases h),fun o g l o' g' l' h h' _=>.inr ⟨ro o g l h,ro o' g' l' h'⟩,fun o b o' b' h=>(by cases h)⟩,Below.refl _ _,Nat.le_refl _⟩
 obtain ⟨hg,cs,hq⟩:=got o g l h
 subst hg
 obtain ⟨C,e,fr,h1,h2,h3,h4⟩:=hL _ (List.mem_of_getElem? hq) l rfl
 exact ⟨⟨cs,0,0,true⟩,by simp[initH,hq,roObj],Nat.le_refl _,Nat.le_refl _,⟨C,e,fr,h1,h2,fun q=>(by cases q),fun _=>h4⟩,fun _=>h3⟩
theorem entry {P:Program}{T:Tab}(hv:Valid P T){W:World}{L:List (List AV × Option Loc)}(hL:∀p∈L,EntOk W (initR L) p){f:FuncId}{args:List AV}{args':List Value}(ha:VRs (initR L) args args'){Q:AV→Heap→Prop}(ht:Tot T f args (initH L) Q)(hq:∀v h,Q v h→v=.bool true) :
  Calls P f args'.toArray W fun e w'=>e=.returned (.bool true)∧Below W.heap.size W w':=by
 obtain ⟨v,h',h1,N,hN⟩:=ht
 have hv1:=hq v h' h1
 subst hv1
 obtain ⟨_,h2⟩:=fnSim (B:=W.heap.size) (w0:=W) hv N f args (initH L) _ _ (hN N (Nat.le_refl N))
 refine (h2 _ W args' ha (initS hL)).mono ?_
 rintro e w' ⟨ψ,v',rfl,k1,k2,k3⟩
 cases k1
 exact ⟨rfl,k2.below⟩
theorem intsArg {W:World}{a:Addr}{len cap:Nat}{zs:List Int}(hl:len≤cap)(hm:cap≤maxLen)(hz:zs.length=cap)(hc:∀i,i<zs.length→W.cell? (a.add i)=some (.int .i64 (zs.getD i 0)))(o:Nat) :
  ∃(p:List AV × Option Loc) (x:AV),(∀φ,EntOk W φ p)∧∀L:List (List AV × Option Loc),L[o]?=some p→VR (initR L) x (.slice (some a) len cap)∧Sl (initH L) 1 x ((zs.take len).map fun n=>[I n]):=by
 by_cases h0:0<zs.length
 ·obtain ⟨b,off,rfl,hcell⟩:=Go.ints_at hc h0
  have h1:=hcell 0 h0
  obtain ⟨C,e,fr,hb,hC⟩:∃C e fr,W.heap[b]?=some (.cells C e fr)∧∀j,j<zs.length→C[off+j]?=some (.int .i64 (zs.getD j 0)):=by
   simp only[World.cell?] at h1
   cases hh:W.heap[b]? with
   |none=>rw[hh] at h1; cases h1
   |some ob=>
    cases ob with
    |cells C e fr=>
     refine ⟨C,e,fr,rfl,fun j hj=>?_⟩
     have:=hcell j hj
     simpa [World.cell?,hh] using this
    |_=>rw[hh] at h1; cases h1
  have hN:off+cap≤C.size:=by
   have:=(Array.getElem?_eq_some_iff.1 (hC (zs.length-1) (by omega))).1
   omega
  refine ⟨(zs.map I,some ⟨b,off,C.size,cap⟩),.sl o 0 len 1 (some cap) 0,fun φ l hl'=>?_,fun L hL=>⟨?_,?_⟩⟩
  ·injection hl' with hl'
   subst hl'
   refine ⟨C,e,fr,hb,rfl,by simp[hz],by simp[hz],hN,fun i hi=>?_⟩
   refine ⟨I (zs.getD i 0),_,?_,hC i (by simpa [hz] using hi),.int _ _,rfl⟩
   simp only at hi
   simp[List.getD_eq_getElem?_getD,hz,hi]
  ·refine VR.sl (l:=⟨b,off,C.size,cap⟩) ?_ (by simp; exact hl) hl hm (by simp; exact hN) (fun c q=>by injection q)
   simp[initR,hL]
  ·refine .inr ⟨o,0,some cap,0,⟨zs.map I,0,0,true⟩,?_,?_,Nat.le_refl _,?_,?_⟩
   ·simp[hz,Nat.min_eq_left hl]
   ·simp[initH,hL,roObj]
   ·simp only[List.drop_zero,List.length_map,Nat.mul_one]
    rw[List.length_take,hz,Nat.min_eq_left hl,←List.map_take]
    generalize zs.take len=ys
    induction ys with
    |nil=>rfl
    |cons y ys ih=>simp[ih]
   ·intro x hx
    simp only[List.mem_map] at hx
    obtain ⟨n,_,rfl⟩:=hx
    rfl
 ·have hz0:zs=[]:=List.eq_nil_of_length_eq_zero (by omega)
  subst hz0
  simp only[List.length_nil] at hz
  subst hz
  obtain rfl:len=0:=by omega
  refine ⟨([],none),.sl o 0 0 1 (some 0) 0,fun φ l q=>(by cases q),fun L hL=>⟨.sl0 (fun q=>by cases q) (fun c q=>by injection q with q; exact q.symm),?_⟩⟩
  exact .inr ⟨o,0,some 0,0,⟨[],0,0,true⟩,rfl,by simp[initH,hL,roObj],Nat.le_refl _,rfl,fun x hx=>by simp at hx⟩
theorem rowArg {W:World}{a:Option Addr}{len cap:Nat}{zs:List Int}(w:(a=none∧len=0∧cap=0∧zs=[])∨∃x,a=some x∧len≤cap∧cap≤maxLen∧zs.length=cap∧(∀i,i<zs.length→W.cell? (x.add i)=some (.int .i64 (zs.getD i 0)))∧∀n∈zs,(Lit.int .i64 n).wf=true)(o:Nat) :
  ∃(p:List AV × Option Loc) (x:AV),(∀φ,EntOk W φ p)∧∀L:List (List AV × Option Loc),L[o]?=some p→VR (initR L) x (.slice a len cap)∧Sl (initH L) 1 x ((zs.take len).map fun n=>[I n]):=by
 rcases w with ⟨rfl,rfl,rfl,rfl⟩|⟨x,rfl,h1,h2,h3,h4,_⟩
 ·exact ⟨([],none),.nils,fun φ l q=>(by cases q),fun L hL=>⟨.nils,.inl ⟨rfl,rfl⟩⟩⟩
 ·exact intsArg h1 h2 h3 h4 o
end Go.Gm
namespace Go.Gm
structure RawTy (P:Program) (T E I3:TypeId):Prop where
 t:P.underlying T=some (.slice E)
 e:∃f0 f1 f2:Field,P.underlying E=some (.struct #[f0,f1,f2])∧f0.type=I3∧f0.offset=0∧f1.type=I3∧f1.offset=1∧f2.type=T∧f2.offset=2
 i:P.underlying I3=some (.int .i64)
 ce:P.cellsOf E=3
 ci:P.cellsOf I3=1
 ct:P.cellsOf T=1
def Emb (F:List (List AV × Option Loc))(o:Nat)(L:List (List AV × Option Loc)):Prop:=∀(i:Nat) p,F[i]?=some p→L[o+i]?=some p
theorem Emb.head {p:List AV × Option Loc}{F L:List (List AV × Option Loc)}{o:Nat}(e:Emb (p::F) o L):L[o]?=some p:=e 0 p rfl
theorem Emb.tail {p:List AV × Option Loc}{F L:List (List AV × Option Loc)}{o:Nat}(e:Emb (p::F) o L):Emb F (o+1) L:=fun i q h=>by
 have:=e (i+1) q (by simpa using h)
 rwa [show o+(i+1)=o+1+i by omega] at this
theorem Emb.left {F G L:List (List AV × Option Loc)}{o:Nat}(e:Emb (F++G) o L):Emb F o L:=fun i q h=>e i q (by rw[List.getElem?_append_left (List.getElem?_eq_some_iff.1 h).1]; exact h)
theorem Emb.right {F G L:List (List AV × Option Loc)}{o:Nat}(e:Emb (F++G) o L):Emb G (o+F.length) L:=fun i q h=>by
 have:=e (F.length+i) q (by rw[List.getElem?_append_right (by omega),Nat.add_sub_cancel_left]; exact h)
 rwa [show o+(F.length+i)=o+F.length+i by omega] at this
section
variable {H:Type} {enc:TypeId × Value→H} {P:Program} {T E I3:TypeId} {W:World}
def Came (W:World)(a:Option Addr)(len cap:Nat)(o:Nat)(F:List (List AV × Option Loc))(v:AV)(rs:List Rw)(css:List (List AV)):Prop:=
 ∀L,Emb F o L→(∀p∈F,EntOk W (initR L) p)∧VR (initR L) v (.slice a len cap)∧Sl (initH L) 3 v css∧RVs (initH L) rs css
theorem RVs.snoc {h:Heap}{r:Rw}{cs:List AV}(a:RV h r cs):∀{l:List Rw} {css:List (List AV)},RVs h l css→RVs h (l++[r]) (css++[cs])
 |_,_,.nil=>.cons a .nil
 |_,_,.cons x y=>.cons x (RVs.snoc a y)
theorem rawsArg (ty:RawTy P T E I3):∀(fuel:Nat) (cs:List Value) (x:DataW H × List MemPlace),DataW.trod enc P W 0 (fun _=>true) true fuel T cs=some x→
  ∃(a:Option Addr) (len cap:Nat),cs=[.slice a len cap]∧∀o,∃F v rs css,Came W a len cap o F v rs css:=by
 intro fuel
 induction fuel using Nat.strongRecOn with
 |_ fuel ih=>
 intro cs x hx
 rcases DataW.trod_slice ty.t hx with ⟨rfl,_⟩|⟨a,len,cap,elems,rest,n,rfl,rfl,_,_,hl,hm,hel,hE,hR,_⟩
 ·exact ⟨none,0,0,rfl,fun o=>⟨[],.nils,[],[],fun L _=>⟨fun p hp=>by simp at hp,.nils,.inl ⟨rfl,rfl⟩,.nil⟩⟩⟩
 ·refine ⟨some a,len,cap,rfl,fun o=>?_⟩
  obtain ⟨hrl,hR⟩:=hR rfl
  by_cases hc:cap=0
  ·subst hc
   obtain rfl:len=0:=by omega
   refine ⟨[([],none)],.sl o 0 0 3 (some 0) 0,[],[],fun L hL=>⟨fun p hp l q=>?_,.sl0 (fun q=>by cases q) (fun c q=>by injection q with q; exact q.symm),?_,.nil⟩⟩
   ·rw[List.mem_singleton.1 hp] at q; cases q
   ·exact .inr ⟨o,0,some 0,0,⟨[],0,0,true⟩,rfl,by simp[initH,hL.head,roObj],Nat.le_refl _,rfl,fun x hx=>by simp at hx⟩
  ·
   have each:∀i,i<cap→∃c3 y,W.cells? 0 (a.add (i*3)) 3=some c3∧DataW.trod enc P W 0 (fun _=>true) true n E c3=some y:=by
    intro i hi
    by_cases hil:i<len
    ·have h1:=hE i hil
     rw[List.getElem?_eq_getElem (by omega),Option.bind_eq_some_iff,ty.ce] at h1
     obtain ⟨c3,h2,h3⟩:=h1
     exact ⟨c3,_,h2,h3⟩
    ·have h1:=hR (i-len) (by omega)
     rw[List.getElem?_eq_getElem (by omega),Option.bind_eq_some_iff,ty.ce,show len+(i-len)=i by omega] at h1
     obtain ⟨c3,h2,h3⟩:=h1
     exact ⟨c3,_,h2,h3⟩
   obtain ⟨b,off,spot⟩:=a
   have hspot:spot=none:=by
    obtain ⟨c3,y,h1,_⟩:=each 0 (by omega)
    obtain ⟨_,h2,h3⟩:=World.cells?_some h1
    have h4:=h3 0 (by omega)
    rw[List.getElem?_eq_getElem (by omega)] at h4
    have:=World.cell?_spot h4
    simpa [Addr.add] using this
   subst hspot
   have cell:∀i,i<cap→∃(k m:Int) (s:Value) (y:DataW H × List MemPlace) (n':Nat),n'<n+1∧W.cell? ⟨b,off+i*3,none⟩=some (.int .i64 k)∧W.cell? ⟨b,off+i*3+1,none⟩=some (.int .i64 m)∧W.cell? ⟨b,off+i*3+2,none⟩=some s∧
     DataW.trod enc P W 0 (fun _=>true) true n' T [s]=some y:=by
    intro i hi
    obtain ⟨c3,y,h1,h2⟩:=each i hi
    obtain ⟨_,h3,h4⟩:=World.cells?_some h1
    obtain ⟨f0,f1,f2,e0,t0,o0,t1,o1,t2,o2⟩:=ty.e
    obtain ⟨xs,n',rfl,_,_,hxl,hf⟩:=DataW.trod_struct e0 h2
    match c3,h3 with
    |[v0,v1,v2],_=>
    have g0:=hf 0 f0 rfl
    have g1:=hf 1 f1 rfl
    have g2:=hf 2 f2 rfl
    simp only[List.size_toArray,List.length_cons,List.length_nil] at hxl
    rw[t0,o0,ty.ci] at g0
    rw[t1,o1,ty.ci] at g1
    rw[t2,o2,ty.ct] at g2
    simp only[List.drop_zero,List.drop_succ_cons,List.take_succ_cons,List.take_zero] at g0 g1 g2
    rw[List.getElem?_eq_getElem (by omega)] at g0 g1 g2
    obtain ⟨k,q0,_,_⟩:=DataW.trod_int ty.i g0
    obtain ⟨m,q1,_,_⟩:=DataW.trod_int ty.i g1
    have c0:=h4 0 (by omega)
    have c1:=h4 1 (by omega)
    have c2:=h4 2 (by omega)
    rw[Go.WideShapes.add_plain,Go.WideShapes.add_plain] at c0 c1 c2
    simp only[List.cons.injEq,and_true] at q0 q1
    subst q0 q1
    exact ⟨k,m,v2,_,n',by omega,by simpa using c0,by simpa using c1,by simpa using c2,g2⟩
   obtain ⟨C,e,fr,hb⟩:∃C e fr,W.heap[b]?=some (.cells C e fr):=by
    obtain ⟨k,m,s,y,n',_,h1,_⟩:=cell 0 (by omega)
    simp only[World.cell?] at h1
    cases hh:W.heap[b]? with
    |none=>rw[hh] at h1; cases h1
    |some ob=>
     cases ob with
     |cells C e fr=>exact ⟨C,e,fr,rfl⟩
     |_=>rw[hh] at h1; cases h1
   have cellC:∀j v,W.cell? ⟨b,j,none⟩=some v→C[j]?=some v:=fun j v h=>by simpa [World.cell?,hb] using h
   have hN:off+cap*3≤C.size:=by
    obtain ⟨k,m,s,y,n',_,_,_,h1,_⟩:=cell (cap-1) (by omega)
    have:=(Array.getElem?_eq_some_iff.1 (cellC _ _ h1)).1
    omega
   have rec_:∀m,m≤len→∀o',∃(F:List (List AV × Option Loc)) (rs:List Rw) (css:List (List AV)),css.length=m∧(∀c∈css,c.length=3)∧
     ∀L,Emb F o' L→(∀p∈F,EntOk W (initR L) p)∧RVs (initH L) rs css∧∀j,j<m*3→∃x v,css.flatten[j]?=some x∧C[off+j]?=some v∧VR (initR L) x v∧x.one=true:=by
    intro m
    induction m with
    |zero=>intro _ o'; exact ⟨[],[],[],rfl,fun c hc=>by simp at hc,fun L _=>⟨fun p hp=>by simp at hp,.nil,fun j hj=>by omega⟩⟩
    |succ m ihm=>
     intro hml o'
     obtain ⟨F,rs,css,h1,h2,h3⟩:=ihm (by omega) o'
     obtain ⟨k,mm,s,y,n',hn',c0,c1,c2,ht⟩:=cell m (by omega)
     obtain ⟨a',len',cap',es,hin⟩:=ih n' hn' [s] y ht
     obtain ⟨G,v,rs',css',hcame⟩:=hin (o'+F.length)
     simp only[List.cons.injEq,and_true] at es
     subst es
     refine ⟨F++G,rs++[.mk k mm rs'],css++[[I k,I mm,v]],by simp[h1],fun c hc=>?_,fun L hL=>?_⟩
     ·rcases List.mem_append.1 hc with hc|hc
      ·exact h2 c hc
      ·rw[List.mem_singleton.1 hc]; rfl
     ·obtain ⟨k1,k2,k3⟩:=h3 L hL.left
      obtain ⟨k4,k5,k6,k7⟩:=hcame L hL.right
      have hfl:=k5_ h2
      rw[h1] at hfl
      refine ⟨fun p hp=>(List.mem_append.1 hp).elim (k1 p) (k4 p),k2.snoc (.mk k6 k7),fun j hj=>?_⟩
      rw[List.flatten_append]
      by_cases hjm:j<m*3
      ·obtain ⟨x,v',q1,q2⟩:=k3 j hjm
       exact ⟨x,v',by rw[List.getElem?_append_left (by omega)]; exact q1,q2⟩
      ·rw[List.getElem?_append_right (by omega),hfl]
       have hj3:j-m*3=0∨j-m*3=1∨j-m*3=2:=by omega
       rcases hj3 with hj3|hj3|hj3
       ·rw[hj3]
        exact ⟨I k,_,rfl,by rw[show off+j=off+m*3 by omega]; exact cellC _ _ c0,.int _ _,rfl⟩
       ·rw[hj3]
        exact ⟨I mm,_,rfl,by rw[show off+j=off+m*3+1 by omega]; exact cellC _ _ c1,.int _ _,rfl⟩
       ·rw[hj3]
        exact ⟨v,_,rfl,by rw[show off+j=off+m*3+2 by omega]; exact cellC _ _ c2,k5,k6.one⟩
   obtain ⟨F,rs,css,h1,h2,h3⟩:=rec_ len (Nat.le_refl _) (o+1)
   have hfl:=k5_ h2
   rw[h1] at hfl
   refine ⟨(css.flatten,some ⟨b,off,C.size,len*3⟩)::F,.sl o 0 len 3 (some cap) 0,rs,css,fun L hL=>?_⟩
   obtain ⟨k1,k2,k3⟩:=h3 L hL.tail
   have hLo:=hL.head
   refine ⟨fun p hp=>?_,?_,?_,k2⟩
   ·rcases List.mem_cons.1 hp with rfl|hp
    ·intro l hl'
     injection hl' with hl'
     subst hl'
     exact ⟨C,e,fr,hb,rfl,by simp[hfl],by simp[hfl],by simp; omega,fun i hi=>k3 i hi⟩
    ·exact k1 p hp
   ·refine VR.sl (l:=⟨b,off,C.size,len*3⟩) ?_ (by simp) hl hm (by simp; exact hN) (fun c q=>by injection q)
    simp[initR,hLo]
   ·refine .inr ⟨o,0,some cap,0,⟨css.flatten,0,0,true⟩,by rw[h1],by simp[initH,hLo,roObj],Nat.le_refl _,?_,h2⟩
    rw[List.drop_zero,h1]
    exact List.take_of_length_le (by rw[hfl]; exact Nat.le_refl _)
end
end Go.Gm
