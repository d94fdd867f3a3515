/- A part of the proof (GmAQBO, GmAQBP, GmAQBQ, GmAQBR, GmAQBS, GmAQBT, GmAQBU, GmAQBV, GmAQCA, GmAQCB, GmPt, GmAQCC, GmAQCD, GmPu, GmAQCE, GmAQCF, GmAQCG, GmAQsa, GmAQsb, GmAQsc). -/
import Derived.Test.YtldnkafmanalmaaProductMoreP7
set_option linter.unusedVariables false
set_option linter.unusedSimpArgs false
set_option linter.unusedSectionVars false
namespace Go.Gm.AQ
open Go Go.Gm
def SB (W:Nat->Prop)(h:Heap)(os:Nat)(g:AV)(fh:FuncId)(n:Nat)(A:Nat->List Hop)(st:Nat->Prop)(c:Nat->Int)(m:Nat->Option Int)(ls:Int):Prop:=
 ∃(q sc se sf:AV) (oc oe ov:Nat) (cs ds fs:List Int) (M:List (Option Int)) (id k:Nat) (rk:Nat->Nat),SW W h os g (.fn fh [] []) q sc se sf oc oe ov n cs ds fs M ls/\DI n 2147483647 A st id [] (gf cs) (gf M) (gf ds) (gf fs) rk k/\un n (gf cs)+(k:Int)=n/\
  c=gf cs/\m=gf M
def LsOk (n:Nat)(m:Nat->Option Int)(ls:Int):Prop:=0<=ls/\ls<=4000000000000000000/\∀x:Nat,x<n->∀v,m x=some v->ls<=v
section
variable {W:Nat->Prop} {h0 h h':Heap} {os n:Nat} {g:AV} {fh:FuncId} {A:Nat->List Hop} {st:Nat->Prop} {c:Nat->Int} {m:Nat->Option Int} {ls:Int}
theorem SB.frs (s:SB W h os g fh n A st c m ls){D:Nat->Prop}(f:FrS D h h')(hd:∀o,o<h.length->W o->¬D o):SB W h' os g fh n A st c m ls:=by
 obtain ⟨q,sc,se,sf,oc,oe,ov,cs,ds,fs,M,id,k,rk,w,r⟩:=s
 exact ⟨q,sc,se,sf,oc,oe,ov,cs,ds,fs,M,id,k,rk,w.frs f hd,r⟩
theorem SB.mono (s:SB W h os g fh n A st c m ls){W':Nat->Prop}(hw:∀o,o<h.length->W o->W' o):SB W' h os g fh n A st c m ls:=by
 obtain ⟨q,sc,se,sf,oc,oe,ov,cs,ds,fs,M,id,k,rk,w,r⟩:=s
 exact ⟨q,sc,se,sf,oc,oe,ov,cs,ds,fs,M,id,k,rk,w.mono hw,r⟩
theorem SB.hop (s:SB W h os g fh n A st c m ls){x:Nat}(hx:x<n)(h0:0<=c x){y e':Nat}{w:Int}(hh:(y,e',w)∈A x)(hy:y<n):0<=fnd c m y/\fnd c m y<=c x+w:=by
 obtain ⟨q,sc,se,sf,oc,oe,ov,cs,ds,fs,M,id,k,rk,w,d,u,rfl,rfl⟩:=s
 exact b2B d hx h0 hh hy
theorem SB.walk (s:SB W h os g fh n A st c m ls){x:Nat}(hx:x<n)(h0:0<=fnd c m x):∃l,Wk A st x l (fnd c m x):=by
 obtain ⟨q,sc,se,sf,oc,oe,ov,cs,ds,fs,M,id,k,rk,w,d,u,rfl,rfl⟩:=s
 exact b1h d hx h0
theorem SB.bnd (s:SB W h os g fh n A st c m ls)(hn2:n<=1000000){x:Nat}(hx:x<n):fnd c m x<=4000000000000000000:=by
 obtain ⟨q,sc,se,sf,oc,oe,ov,cs,ds,fs,M,id,k,rk,w,d,u,rfl,rfl⟩:=s
 have h1:=b2C (by omega) d hx
 have h2:=s4_ n (gf cs)
 omega
variable {N:Nat} {es:List E} {D:List (List Int)} {acc:List Bool} {L:Int->Int->List Tr}
theorem SB.step (e0:Ext h0 h)(hW:∀o,W o->h0.length<=o)(gv:GV h0 g N es D acc)(ok:DOk D acc)(co:COk es)(hN:N<=100000)(hn:n=N*D.length)(hn2:n<=1000000)(hh:HopsOk h0 g N es D fh L)(hst:∀x,st x->x<n)(s:SB W h os g fh n (hopA es D.length L) st c m ls) :
  Tot tab e6_ [.ptr os 0 7 0] h fun r h'=>FrS W h h'/\
   ((r=.tup [I 0,.bool false]/\(∀x:Nat,x<n->m x=none)/\SB (fun o=>W o\/h.length<=o) h' os g fh n (hopA es D.length L) st c m ls)\/
    ∃id key m2,id<n/\c id<0/\0<=key/\r=.tup [I id,.bool true]/\SB (fun o=>W o\/h.length<=o) h' os g fh n (hopA es D.length L) st (up c id key) m2 key/\LsOk n m2 key):=by
 obtain ⟨q,sc,se,sf,oc,oe,ov,cs,ds,fs,M,id0,k,rk,w,d,u,rfl,rfl⟩:=s
 refine (a4z e0 hW gv ok co hN hn hn2 hh hst w d u).mono ?_
 rintro r h2 ⟨f2,⟨rfl,hm,w2⟩|⟨id,key,ds2,fs2,M2,rk2,i1,i2,i3,rfl,w2,d2,k2⟩⟩
 ·exact ⟨f2,.inl ⟨rfl,hm,q,sc,se,sf,oc,oe,ov,cs,ds,fs,M,id0,k,rk,w2,d,u,rfl,rfl⟩⟩
 ·obtain ⟨q1,q2,_⟩:=d.que id i1 key i2
  have hcs:gf (cs.set id key)=up (gf cs) id key:=gset (by rw[w.lc]; exact i1) key
  have hid:gf (cs.set id key) id=key:=by rw[hcs]; exact if_pos rfl
  refine ⟨f2,.inr ⟨id,key,gf M2,i1,by omega,q2,rfl,⟨q,sc,se,sf,oc,oe,ov,cs.set id key,ds2,fs2,M2,id,k+1,rk2,w2,d2,k2,hcs.symm,rfl⟩,q2,?_,fun x hx v hv=>?_⟩⟩
  ·have h5:=d2.bnd id i1 key (.inl ⟨by rw[hid]; exact q2,hid⟩)
   have h6:=s4_ n (gf (cs.set id key))
   omega
  have:=d2.ord id x i1 hx (by rw[hid]; exact q2) v hv
  rw[hid] at this
  exact this
end
end Go.Gm.AQ
namespace Go.Gm.AQ
open Go Go.Gm
structure RowsB (h:Heap) (ot ob ol oz os1 os2:Nat) (L:Int):Prop where
 rt:h[ot]?=some (.cells ⟨[.ptr os1 0 7 0],0,0,false⟩)
 rb:h[ob]?=some (.cells ⟨[.ptr os2 0 7 0],0,0,false⟩)
 rl:h[ol]?=some (.cells ⟨[I L],0,0,false⟩)
 rz:h[oz]?=some (.cells ⟨[.ptr os1 0 7 0,.ptr os2 0 7 0],0,0,false⟩)
 ne:ot≠ol/\ob≠ol/\oz≠ol
section
variable {h h':Heap} {ot ob ol oz os1 os2:Nat} {L:Int}
theorem RowsB.frs (r:RowsB h ot ob ol oz os1 os2 L){D:Nat->Prop}(f:FrS D h h')(hd:¬D ot/\¬D ob/\¬D ol/\¬D oz):RowsB h' ot ob ol oz os1 os2 L:=by
 have b:=fun {o:Nat} {x:AObj} (z:h[o]?=some x)=>(List.getElem?_eq_some_iff.1 z).1
 exact ⟨by rw[f.get hd.1 (b r.rt)]; exact r.rt,by rw[f.get hd.2.1 (b r.rb)]; exact r.rb,by rw[f.get hd.2.2.1 (b r.rl)]; exact r.rl,by rw[f.get hd.2.2.2 (b r.rz)]; exact r.rz,r.ne⟩
variable {W1 W2:Nat->Prop} {n:Nat} {g:AV} {f1 f2:FuncId} {A A':Nat->List Hop} {st en:Nat->Prop} {c1 c2:Nat->Int} {m1 m2:Nat->Option Int} {ls1 ls2:Int}
def Snd (A:Nat->List Hop)(st en:Nat->Prop)(L:Int):Prop:=L = -1\/(0<=L/\∃z,en z/\∃l,Wk A st z l L)
end
end Go.Gm.AQ
namespace Go.Gm.AQ
open Go Go.Gm
section
variable {h0 hb:Heap} {ot ob ol oz os1 os2:Nat} {W1 W2:Nat->Prop} {n:Nat} {g:AV} {f1 f2:FuncId} {A A':Nat->List Hop} {st en:Nat->Prop} {c1 c2:Nat->Int} {m1 m2:Nat->Option Int} {ls1 ls2:Int}
variable {N:Nat} {es:List E} {D:List (List Int)} {acc:List Bool}
end
end Go.Gm.AQ
namespace Go.Gm.AQ
open Go Go.Gm
section
variable {h0 hb:Heap} {ot ob ol oz os1 os2:Nat} {W1 W2:Nat->Prop} {n:Nat} {g:AV} {f1 f2:FuncId} {A A':Nat->List Hop} {st en:Nat->Prop} {c1 c2:Nat->Int} {m1 m2:Nat->Option Int} {ls1 ls2:Int}
variable {N:Nat} {es:List E} {D:List (List Int)} {acc:List Bool}
theorem SB.row {W:Nat->Prop}{h:Heap}{os:Nat}{fh:FuncId}{c:Nat->Int}{m:Nat->Option Int}{ls:Int}(s:SB W h os g fh n A st c m ls):W os/\∃q sc se sf,h[os]?=some (.cells ⟨[g,.fn fh [] [],q,sc,se,sf,I ls],0,0,false⟩):=by
 obtain ⟨q,sc,se,sf,oc,oe,ov,cs,ds,fs,M,id,k,rk,w,_⟩:=s
 exact ⟨w.ws,q,sc,se,sf,w.row⟩
end
end Go.Gm.AQ
namespace Go.Gm.AQ
open Go Go.Gm
section
variable {W:Nat->Prop} {h0 h h':Heap} {os n:Nat} {g:AV} {fh:FuncId} {A:Nat->List Hop} {st:Nat->Prop} {c:Nat->Int} {m:Nat->Option Int} {ls:Int}
variable {N:Nat} {es:List E} {D:List (List Int)} {acc:List Bool} {L:Int->Int->List Tr}
theorem SB.all (e0:Ext h0 h)(hW:∀o,W o->h0.length<=o)(gv:GV h0 g N es D acc)(ok:DOk D acc)(co:COk es)(hN:N<=100000)(hn:n=N*D.length)(hn2:n<=1000000)(hh:HopsOk h0 g N es D fh L)(hst:∀x,st x->x<n)(s:SB W h os g fh n (hopA es D.length L) st c m ls) :
  Tot tab g0_ [.ptr os 0 7 0] h fun r h'=>r=.tup []/\FrS W h h'/\∃c2 m2 ls2,SB (fun o=>W o\/h.length<=o) h' os g fh n (hopA es D.length L) st c2 m2 ls2/\∀x:Nat,x<n->m2 x=none:=by
 obtain ⟨q,sc,se,sf,oc,oe,ov,cs,ds,fs,M,id0,k,rk,w,d,u,rfl,rfl⟩:=s
 refine (a5r e0 hW gv ok co hN hn hn2 hh hst w d u).mono ?_
 rintro r h2 ⟨rfl,f2,id2,k2,ls2,rk2,cs2,ds2,fs2,M2,w2,d2,m2,u2⟩
 exact ⟨rfl,f2,gf cs2,gf M2,ls2,⟨q,sc,se,sf,oc,oe,ov,cs2,ds2,fs2,M2,id2,k2,rk2,w2,d2,u2,rfl,rfl⟩,m2⟩
theorem SB.done (s:SB W h os g fh n A st c m ls)(hg:GOk n 2147483647 A)(hst:∀x,st x->x<n)(hm:∀x:Nat,x<n->m x=none){z:Nat}{l:List Nat}{v:Int}(h:Wk A st z l v):0<=c z/\c z<=v/\fnd c m z=c z:=by
 obtain ⟨q,sc,se,sf,oc,oe,ov,cs,ds,fs,M,id0,k,rk,w,d,u,rfl,rfl⟩:=s
 obtain ⟨h1,h2⟩:=d.all hg hst hm h
 exact ⟨h1,h2,if_pos h1⟩
end
section
variable {hb:Heap} {ot ob ol oz os1 os2:Nat} {W1 W2:Nat->Prop} {n:Nat} {g:AV} {f1 f2:FuncId} {A A':Nat->List Hop} {st en:Nat->Prop} {c1 c2:Nat->Int} {m1 m2:Nat->Option Int} {ls1 ls2:Int}
end
end Go.Gm.AQ
namespace Go.Gm.AQ
open Go Go.Gm
section
variable {h0:Heap} {ot ob ol oz os1 os2:Nat} {n:Nat} {g:AV} {st en:Nat->Prop}
variable {N:Nat} {es:List E} {D:List (List Int)} {acc:List Bool}
def Pl (h0 h:Heap)(ot ob ol oz:Nat)(W:Nat->Prop):Prop:=∀o,W o->h0.length<=o/\o<h.length/\o≠ot/\o≠ob/\o≠ol/\o≠oz
theorem Pl.grow {h h':Heap}{W:Nat->Prop}(p:Pl h0 h ot ob ol oz W)(e0:h0.length<=h.length)(e:h.length<=h'.length)(hr:ot<h.length/\ob<h.length/\ol<h.length/\oz<h.length):Pl h0 h' ot ob ol oz (fun o=>W o\/(h.length<=o/\o<h'.length)):=by
 intro o z
 rcases z with z|z
 ·have:=p o z; omega
 ·omega
end
end Go.Gm.AQ
namespace Go.Gm.AQ
open Go Go.Gm
section
variable {h0:Heap} {ot ob ol oz os1 os2 n:Nat} {g:AV} {f1 f2:FuncId} {st en:Nat->Prop} {L1 L2:Int->Int->List Tr}
variable {N:Nat} {es:List E} {D:List (List Int)} {acc:List Bool}
structure BI (h0 h:Heap) (ot ob ol oz os1 os2 n:Nat) (g:AV) (f1 f2:FuncId) (st en:Nat->Prop) (A1 A2:Nat->List Hop) (W1 W2:Nat->Prop) (c1 c2:Nat->Int) (m1 m2:Nat->Option Int) (ls1 ls2 L:Int):Prop where
 ex:Ext h0 h
 sa:SB W1 h os1 g f1 n A1 st c1 m1 ls1
 sb:SB W2 h os2 g f2 n A2 en c2 m2 ls2
 ka:LsOk n m1 ls1
 kb:LsOk n m2 ls2
 rr:RowsB h ot ob ol oz os1 os2 L
 sn:Snd A1 st en L
 mt:Met n A1 st en c1 c2 L
 pa:Pl h0 h ot ob ol oz W1
 pb:Pl h0 h ot ob ol oz W2
 dj:∀o,W1 o->¬W2 o
end
end Go.Gm.AQ
namespace Go.Gm.AQ
open Go Go.Gm
theorem a4c {c:Nat->Int}{acc:List Bool}{b:Nat}:∀n,(bv c acc b n = -1/\∀q:Nat,q<n->gi acc (q:Int)=true->c (b+q)<0)\/
  (∃q:Nat,q<n/\gi acc (q:Int)=true/\0<=c (b+q)/\bv c acc b n=c (b+q)/\∀q':Nat,q'<n->gi acc (q':Int)=true->0<=c (b+q')->bv c acc b n<=c (b+q'))
 |0=>.inl ⟨rfl,fun q h=>by omega⟩
 |n+1=>by
  by_cases t:gi acc n=true/\0<=c (b+n)/\(bv c acc b n<0\/c (b+n)<bv c acc b n)
  ·have e:bv c acc b (n+1)=c (b+n):=if_pos t
   refine .inr ⟨n,by omega,t.1,t.2.1,e,fun q hq h1 h2=>?_⟩
   rw[e]
   by_cases hn:q=n
   ·subst hn; omega
   ·rcases a4c (c:=c) (acc:=acc) (b:=b) n with ⟨k1,k2⟩|⟨q',k1,k2,k3,k4,k5⟩
    ·have:=k2 q (by omega) h1
     omega
    ·have:=k5 q (by omega) h1 h2
     omega
  ·have e:bv c acc b (n+1)=bv c acc b n:=if_neg t
   rcases a4c (c:=c) (acc:=acc) (b:=b) n with ⟨k1,k2⟩|⟨q',k1,k2,k3,k4,k5⟩
   ·refine .inl ⟨by rw[e]; exact k1,fun q hq h1=>?_⟩
    by_cases hn:q=n
    ·subst hn
     exact Classical.byContradiction fun z=>t ⟨h1,by omega,.inl (by omega)⟩
    ·exact k2 q (by omega) h1
   ·refine .inr ⟨q',by omega,k2,k3,by rw[e]; exact k4,fun q hq h1 h2=>?_⟩
    rw[e]
    by_cases hn:q=n
    ·subst hn
     exact Classical.byContradiction fun z=>t ⟨h1,h2,.inr (by omega)⟩
    ·exact k5 q (by omega) h1 h2
section
variable {h0:Heap} {N:Nat} {es:List E} {D:List (List Int)} {acc:List Bool}
end
end Go.Gm.AQ
namespace Go.Gm.AQ
open Go Go.Gm
def atV (es:List E)(v:Int)(l:List Nat):Int:=l.foldl (fun _ e=>(eg es e).to) v
def atS (es:List E)(D:List (List Int))(s:Int)(l:List Nat):Int:=l.foldl (fun s e=>nx D s (eg es e).md) s
def atC (es:List E)(l:List Nat):Int:=l.foldl (fun c e=>c+(eg es e).co) 0
def wdOf (es:List E)(l:List Nat):List Int:=l.map fun e=>(eg es e).md
def goS (D:List (List Int))(s:Int)(w:List Int):Int:=w.foldl (fun s m=>nx D s m) s
def OkW (es:List E)(v:Int)(l:List Nat):Prop:=∀i e,l[i]?=some e->e<es.length/\(eg es e).fr=atV es v (l.take i)
theorem a5t (es:List E)(v:Int)(l:List Nat)(e:Nat):atV es v (l++[e])=(eg es e).to:=by simp[atV]
theorem a7D (es:List E)(D:List (List Int))(s:Int)(l:List Nat)(e:Nat):atS es D s (l++[e])=nx D (atS es D s l) (eg es e).md:=by simp[atS]
theorem a7E (es:List E)(l:List Nat)(e:Nat):atC es (l++[e])=atC es l+(eg es e).co:=by simp[atC]
theorem a7F (es:List E)(D:List (List Int))(s:Int)(l:List Nat):atS es D s l=goS D s (wdOf es l):=by
 simp only[atS,goS,wdOf,List.foldl_map]
theorem OkW.snoc {es:List E}{v:Int}{l:List Nat}{e:Nat}(h:OkW es v l)(he:e<es.length)(hf:(eg es e).fr=atV es v l):OkW es v (l++[e]):=by
 intro i e' h1
 have hi:=(List.getElem?_eq_some_iff.1 h1).1
 simp only[List.length_append,List.length_cons,List.length_nil] at hi
 by_cases q:i<l.length
 ·rw[List.getElem?_append_left q] at h1
  rw[List.take_append_of_le_length (by omega)]
  exact h i e' h1
 ·obtain rfl:i=l.length:=by omega
  rw[List.getElem?_append_right (Nat.le_refl _)] at h1
  simp only[Nat.sub_self,List.getElem?_cons_zero,Option.some.injEq] at h1
  subst h1
  rw[List.take_left]
  exact ⟨he,hf⟩
theorem OkW.mem {es:List E}{v:Int}{l:List Nat}(h:OkW es v l):∀e∈l,e<es.length:=by
 intro e he
 obtain ⟨i,hi,h1⟩:=List.getElem_of_mem he
 exact (h i e (by rw[List.getElem?_eq_getElem hi,h1])).1
section
variable {N:Nat} {es:List E} {D:List (List Int)} {acc:List Bool}
theorem b1o (ok:DOk D acc)(no:NetOk N es){x y e:Nat}{w:Int}(hx:x<N*D.length)(h:(y,e,w)∈hopA es D.length (onL es D) x) :
  e<es.length/\(eg es e).fr=((x / D.length:Nat):Int)/\y / D.length=(eg es e).to.toNat/\y % D.length=(nx D ((x % D.length:Nat):Int) (eg es e).md).toNat/\w=(eg es e).co/\y<N*D.length:=by
 obtain ⟨q1,q2⟩:=dm hx
 obtain ⟨t,ht,h1⟩:=List.mem_map.1 h
 obtain ⟨k,hk,rfl⟩:=List.mem_map.1 ht
 obtain ⟨k0,k1,k2⟩:=a0a.1 hk
 obtain ⟨i,rfl⟩:∃i:Nat,k=i:=⟨k.toNat,by omega⟩
 simp only[beq_iff_eq] at k2
 have he:0<=(eg es i).fr/\(eg es i).fr<N/\0<=(eg es i).to/\(eg es i).to<N/\0<=(eg es i).md/\(eg es i).md<5:=no.edge _ (j7_ (xs:=es) (i:=(i:Int)) (by omega) (by omega))
 have htt:0<=nx D ((x % D.length:Nat):Int) (eg es i).md/\nx D ((x % D.length:Nat):Int) (eg es i).md<D.length:=ok.to _ (eg es i).md (Int.natCast_nonneg _) (Int.ofNat_lt.2 q2) he.2.2.2.2.1 he.2.2.2.2.2
 simp only[hopOf] at h1
 cases h1
 rw[Int.toNat_natCast]
 have h1:(eg es i).to=((eg es i).to.toNat:Int):=by omega
 have h2:nx D ((x % D.length:Nat):Int) (eg es i).md=((nx D ((x % D.length:Nat):Int) (eg es i).md).toNat:Int):=by omega
 have hy:((eg es i).to*(D.length:Int)+nx D ((x % D.length:Nat):Int) (eg es i).md).toNat=(eg es i).to.toNat*D.length+(nx D ((x % D.length:Nat):Int) (eg es i).md).toNat:=by
  generalize (eg es i).to.toNat=a at h1
  generalize (nx D ((x % D.length:Nat):Int) (eg es i).md).toNat=b at h2
  rw[h1,h2,<-Int.natCast_mul,<-Int.natCast_add,Int.toNat_natCast]
 rw[show gi es (i:Int)=eg es i from rfl,hy]
 obtain ⟨p1,p2⟩:=a6f (v:=(eg es i).to.toNat) (S:=D.length) (s:=(nx D ((x % D.length:Nat):Int) (eg es i).md).toNat) (by omega)
 exact ⟨by omega,k2,p1,p2,rfl,spotN (by omega) (by omega)⟩
theorem b2N (ok:DOk D acc)(no:NetOk N es){v x:Nat}{l:List Nat}{c:Int}(hv:v<N)(h:Wk (hopA es D.length (onL es D)) (fun x=>x=v*D.length) x l c) :
  OkW es v l/\atV es v l=((x / D.length:Nat):Int)/\atS es D 0 l=((x % D.length:Nat):Int)/\atC es l=c/\x<N*D.length:=by
 induction h with
 |nil h=>
  subst h
  obtain ⟨p1,p2⟩:=a6f (v:=v) (S:=D.length) (s:=0) ok.l0
  simp only[Nat.add_zero] at p1 p2
  rw[p1,p2]
  exact ⟨fun i e z=>by simp at z,rfl,rfl,rfl,by have:=spotN (S:=D.length) hv ok.l0; omega⟩
 |@snoc x y e l c w h1 h2 ih=>
  obtain ⟨i1,i2,i3,i4,i5⟩:=ih
  obtain ⟨k1,k2,k3,k4,k5,k6⟩:=b1o ok no i5 h2
  obtain ⟨q1,q2⟩:=dm i5
  have he:0<=(eg es e).fr/\(eg es e).fr<N/\0<=(eg es e).to/\(eg es e).to<N/\0<=(eg es e).md/\(eg es e).md<5:=no.edge _ (j7_ (xs:=es) (i:=(e:Int)) (by omega) (by omega))
  have htt:0<=nx D ((x % D.length:Nat):Int) (eg es e).md/\nx D ((x % D.length:Nat):Int) (eg es e).md<D.length:=ok.to _ (eg es e).md (Int.natCast_nonneg _) (Int.ofNat_lt.2 q2) he.2.2.2.2.1 he.2.2.2.2.2
  refine ⟨i1.snoc k1 (k2.trans i2.symm),?_,?_,?_,k6⟩
  ·rw[a5t,k3]; omega
  ·rw[a7D,i3,k4]; omega
  ·rw[a7E,i4,k5]
theorem b0x {α:Type}{l:List α}{i:Nat}{e:α}(h:l[i]?=some e):l.take (i+1)=l.take i++[e]:=by
 rw[List.take_add_one,h]; rfl
theorem a5u (ok:DOk D acc):∀(w:List Int) (s:Int),0<=s->s<D.length->(∀m∈w,0<=m/\m<5)->0<=goS D s w/\goS D s w<D.length
 |[],s,h0,h1,_=>⟨h0,h1⟩
 |m::w,s,h0,h1,h=>by
  have hm:=h m (by simp)
  have:=ok.to s m h0 h1 hm.1 hm.2
  exact a5u ok w (nx D s m) this.1 this.2 fun z hz=>h z (List.mem_cons_of_mem _ hz)
end
end Go.Gm.AQ
namespace Go.Gm.AQ
open Go Go.Gm
structure LW (es:List E) (v u:Int) (P:List Int->Prop) (b:Int):Prop where
 ex:b = -1\/(0<=b/\∃l,OkW es v l/\atV es v l=u/\P (wdOf es l)/\atC es l=b)
 le:∀l,OkW es v l->atV es v l=u->P (wdOf es l)->0<=b/\b<=atC es l
theorem LW.uniq {es:List E}{v u:Int}{P:List Int->Prop}{a b:Int}(x:LW es v u P a)(y:LW es v u P b):a=b:=by
 rcases x.ex with rfl|⟨x0,l,x1,x2,x3,x4⟩
 ·rcases y.ex with rfl|⟨y0,l',y1,y2,y3,y4⟩
  ·rfl
  ·have:=x.le l' y1 y2 y3
   omega
 ·have h1:=y.le l x1 x2 x3
  rcases y.ex with rfl|⟨y0,l',y1,y2,y3,y4⟩
  ·omega
  ·have:=x.le l' y1 y2 y3
   omega
theorem LW.congr {es:List E}{v u:Int}{P Q:List Int->Prop}{b:Int}(x:LW es v u P b)(h:∀l,OkW es v l->(P (wdOf es l)↔Q (wdOf es l))):LW es v u Q b:=by
 refine ⟨x.ex.imp id fun ⟨x0,l,x1,x2,x3,x4⟩=>⟨x0,l,x1,x2,(h l x1).1 x3,x4⟩,fun l h1 h2 h3=>x.le l h1 h2 ((h l h1).2 h3)⟩
section
variable {N:Nat} {es:List E} {D:List (List Int)} {acc:List Bool}
theorem OkW.md (no:NetOk N es){v:Int}{l:List Nat}(h:OkW es v l):∀m∈wdOf es l,0<=m/\m<5:=by
 intro m hm
 obtain ⟨e,he,rfl⟩:=List.mem_map.1 hm
 have h3:=h.mem e he
 have:=no.edge _ (j7_ (xs:=es) (i:=(e:Int)) (by omega) (by omega))
 exact ⟨this.2.2.2.2.1,this.2.2.2.2.2⟩
theorem OkW.take {v:Int}{l:List Nat}(h:OkW es v l)(k:Nat):OkW es v (l.take k):=by
 intro i e h1
 have hi:=(List.getElem?_eq_some_iff.1 h1).1
 rw[List.length_take] at hi
 rw[List.getElem?_take,if_pos (by omega)] at h1
 rw[List.take_take,Nat.min_eq_left (by omega)]
 exact h i e h1
theorem OkW.range (no:NetOk N es){v:Nat}(hv:v<N){l:List Nat}(h:OkW es v l):0<=atV es v l/\atV es v l<N:=by
 rcases List.eq_nil_or_concat l with rfl|⟨l',e,rfl⟩
 ·exact ⟨by show (0:Int)<=v; omega,by show (v:Int)<N; omega⟩
 ·rw[List.concat_eq_append] at h ⊢
  rw[a5t]
  have he:=h.mem e (by simp)
  have:=no.edge _ (j7_ (xs:=es) (i:=(e:Int)) (by omega) (by omega))
  exact ⟨this.2.2.1,this.2.2.2.1⟩
theorem b0y (ok:DOk D acc)(no:NetOk N es){v:Nat}(hv:v<N){l:List Nat}(h:OkW es v l):∀k,k<=l.length->
  Wk (hopA es D.length (onL es D)) (fun x=>x=v*D.length) ((atV es v (l.take k)).toNat*D.length+(atS es D 0 (l.take k)).toNat) (l.take k) (atC es (l.take k))
 |0,_=>by
  simp only[List.take_zero]
  refine .nil ?_
  show (v:Int).toNat*D.length+(0:Int).toNat=v*D.length
  simp
 |k+1,hk=>by
  have ih:=b0y ok no hv h k (by omega)
  obtain ⟨e,he⟩:∃e,l[k]?=some e:=⟨l[k],List.getElem?_eq_getElem (by omega)⟩
  obtain ⟨h1,h2⟩:=h k e he
  have hr:=(h.take k).range no hv
  have hs:=a5u ok (wdOf es (l.take k)) 0 (by omega) (by have:=ok.l0; omega) ((h.take k).md no)
  rw[<-a7F] at hs
  rw[b0x he,a5t,a7D,a7E]
  have hm:=b2L (s:=(atS es D 0 (l.take k)).toNat) ok no h1 (by omega)
  have e1:src es D.length e (atS es D 0 (l.take k)).toNat=(atV es v (l.take k)).toNat*D.length+(atS es D 0 (l.take k)).toNat:=by rw[src,h2]
  have e2:dst es D e (atS es D 0 (l.take k)).toNat=(eg es e).to.toNat*D.length+(nx D (atS es D 0 (l.take k)) (eg es e).md).toNat:=by
   rw[dst,show (((atS es D 0 (l.take k)).toNat:Nat):Int)=atS es D 0 (l.take k) by omega]
  rw[e1,e2] at hm
  exact .snoc ih hm
theorem bv_lw (ok:DOk D acc)(no:NetOk N es){v u:Nat}(hv:v<N)(hu:u<N){c:Nat->Int}(lc:LC (N*D.length) (hopA es D.length (onL es D)) (fun x=>x=v*D.length) c) :
  LW es v u (fun w=>gi acc (goS D 0 w)=true) (bv c acc (u*D.length) D.length):=by
 have main:∀l,OkW es v l->atV es v l=u->gi acc (goS D 0 (wdOf es l))=true->0<=bv c acc (u*D.length) D.length/\bv c acc (u*D.length) D.length<=atC es l:=by
  intro l h1 h2 h3
  have hw:=b0y ok no hv h1 l.length (Nat.le_refl _)
  rw[List.take_length,h2,a7F,Int.toNat_natCast] at hw
  have hs:=a5u ok (wdOf es l) 0 (by omega) (by have:=ok.l0; omega) (h1.md no)
  have hx:=spotN (N:=N) (v:=u) (S:=D.length) (s:=(goS D 0 (wdOf es l)).toNat) hu (by omega)
  have h4:0<=c (u*D.length+(goS D 0 (wdOf es l)).toNat)/\c (u*D.length+(goS D 0 (wdOf es l)).toNat)<=atC es l:=by
   rcases lc _ hx with ⟨k1,_,k2⟩|⟨_,k2⟩
   ·exact ⟨k1,k2 _ _ hw⟩
   ·exact absurd hw (k2 _ _)
  have h5:gi acc (((goS D 0 (wdOf es l)).toNat:Nat):Int)=true:=by rw[show (((goS D 0 (wdOf es l)).toNat:Nat):Int)=goS D 0 (wdOf es l) by omega]; exact h3
  rcases a4c (c:=c) (acc:=acc) (b:=u*D.length) D.length with ⟨k1,k2⟩|⟨q,k1,k2,k3,k4,k5⟩
  ·have:=k2 _ (by omega) h5
   omega
  ·have:=k5 _ (by omega) h5 h4.1
   omega
 refine ⟨?_,main⟩
 rcases a4c (c:=c) (acc:=acc) (b:=u*D.length) D.length with ⟨k1,k2⟩|⟨q,k1,k2,k3,k4,k5⟩
 ·exact .inl k1
 ·rcases lc _ (spotN hu k1) with ⟨p1,⟨l,p2⟩,p3⟩|⟨p1,_⟩
  ·obtain ⟨w1,w2,w3,w4,w5⟩:=b2N ok no hv p2
   obtain ⟨d1,d2⟩:=a6f (v:=u) (S:=D.length) (s:=q) k1
   rw[d1] at w2
   rw[d2,a7F] at w3
   exact .inr ⟨by omega,l,w1,w2,by rw[w3]; exact k2,by rw[w4,k4]⟩
  ·omega
end
end Go.Gm.AQ
namespace Go.Gm
section
variable {δ:Nat->Nat->Nat} {S:Nat} {c x:Nat->Int} {acc:Nat->Bool}
def Alk (δ:Nat->Nat->Nat)(c:Nat->Int)(a b:Nat):Prop:=c a=c b/\∀m,m<5->c (δ a m)=c (δ b m)
theorem Alk.refl (a:Nat):Alk δ c a a:=⟨rfl,fun _ _=>rfl⟩
theorem Alk.symm {a b:Nat}(h:Alk δ c a b):Alk δ c b a:=⟨h.1.symm,fun m hm=>(h.2 m hm).symm⟩
theorem Alk.trans {a b d:Nat}(h:Alk δ c a b)(k:Alk δ c b d):Alk δ c a d:=⟨h.1.trans k.1,fun m hm=>(h.2 m hm).trans (k.2 m hm)⟩
def Neu (c:Nat->Int)(i:Nat):Prop:=∀j,j<i->c j≠c i
noncomputable def cntP (p:Nat->Prop):Nat->Nat
 |0=>0
 |n+1=>cntP p n+(open Classical in if p n then 1 else 0)
theorem a1M {p:Nat->Prop}{n:Nat}(h:p n):cntP p (n+1)=cntP p n+1:=by simp[cntP,h]
theorem a1N {p:Nat->Prop}{n:Nat}(h:¬p n):cntP p (n+1)=cntP p n:=by simp[cntP,h]
theorem a4Q (p:Nat->Prop):∀n,cntP p n<=n
 |0=>Nat.le_refl _
 |n+1=>by
  have:=a4Q p n
  by_cases h:p n
  ·rw[a1M h]; omega
  ·rw[a1N h]; omega
theorem a1O {p q:Nat->Prop}:∀n,(∀i,i<n->p i->q i)->cntP p n<=cntP q n
 |0,_=>Nat.le_refl _
 |n+1,h=>by
  have:=a1O n fun i hi=>h i (by omega)
  by_cases hp:p n
  ·rw[a1M hp,a1M (h n (by omega) hp)]; omega
  ·by_cases hq:q n
   ·rw[a1N hp,a1M hq]; omega
   ·rw[a1N hp,a1N hq]; omega
theorem a6g {p q:Nat->Prop}:∀n,(∀i,i<n->p i->q i)->cntP p n=cntP q n->∀i,i<n->q i->p i
 |0,_,_=>fun i hi=>by omega
 |n+1,h,e=>by
  have h1:=a1O n fun i hi=>h i (by omega)
  intro i hi hqi
  by_cases hp:p n
  ·rw[a1M hp,a1M (h n (by omega) hp)] at e
   by_cases q:i=n
   ·subst q; exact hp
   ·exact a6g n (fun i hi=>h i (by omega)) (by omega) i (by omega) hqi
  ·by_cases hq:q n
   ·rw[a1N hp,a1M hq] at e; omega
   ·rw[a1N hp,a1N hq] at e
    by_cases q':i=n
    ·subst q'; exact absurd hqi hq
    ·exact a6g n (fun i hi=>h i (by omega)) e i (by omega) hqi
theorem a5R {p q:Nat->Prop}(n:Nat)(h:∀i,i<n->(p i↔q i)):cntP p n=cntP q n:=
 Nat.le_antisymm (a1O n fun i hi=>(h i hi).1) (a1O n fun i hi=>(h i hi).2)
structure Finer (δ:Nat->Nat->Nat) (S:Nat) (c x:Nat->Int) (k:Nat):Prop where
 al:∀a b,a<S->b<S->(x a=x b↔Alk δ c a b)
 rng:∀a,a<S->0<=x a/\x a<k
 cnt:k=cntP (Neu x) S
theorem Finer.neu {k:Nat}(f:Finer δ S c x k):∀i,i<S->Neu c i->Neu x i:=fun i hi h j hj e=>h j hj ((f.al j i (by omega) hi).1 e).1
theorem Finer.le {k:Nat}(f:Finer δ S c x k):cntP (Neu c) S<=k:=by rw[f.cnt]; exact a1O S f.neu
theorem Finer.kS {k:Nat}(f:Finer δ S c x k):k<=S:=by rw[f.cnt]; exact a4Q _ _
theorem Finer.pos {k:Nat}(f:Finer δ S c x k)(hS:0<S):0<k:=by have:=f.rng 0 hS; omega
theorem rep (x:Nat->Int):∀a,∃j,j<=a/\x j=x a/\Neu x j:=by
 intro a
 induction a using Nat.strongRecOn with
 |ind a ih=>
  by_cases h:Neu x a
  ·exact ⟨a,Nat.le_refl _,rfl,h⟩
  ·obtain ⟨j,h1⟩:=Classical.not_forall.1 h
   obtain ⟨hj,h2⟩:=Classical.not_imp.1 h1
   obtain ⟨r,r1,r2,r3⟩:=ih j hj
   exact ⟨r,by omega,r2.trans (Classical.not_not.1 h2),r3⟩
theorem Finer.same {k:Nat}(f:Finer δ S c x k)(hk:k=cntP (Neu c) S){a b:Nat}(ha:a<S)(hb:b<S)(h:c a=c b):x a=x b:=by
 have hn:=a6g S f.neu (hk.symm.trans f.cnt)
 obtain ⟨i,i1,i2,i3⟩:=rep x a
 obtain ⟨j,j1,j2,j3⟩:=rep x b
 have n1:=hn i (by omega) i3
 have n2:=hn j (by omega) j3
 have e1:=((f.al i a (by omega) ha).1 i2).1
 have e2:=((f.al j b (by omega) hb).1 j2).1
 have e3:c i=c j:=e1.trans (h.trans e2.symm)
 have:i=j:=by
  rcases Nat.lt_trichotomy i j with q|q|q
  ·exact absurd e3 (n2 i q)
  ·exact q
  ·exact absurd e3.symm (n1 j q)
 subst this
 exact i2.symm.trans j2
structure Stab (δ:Nat->Nat->Nat) (acc:Nat->Bool) (S:Nat) (x:Nat->Int):Prop where
 ac:∀a b,a<S->b<S->x a=x b->acc a=acc b
 to:∀a b,a<S->b<S->x a=x b->∀m,m<5->x (δ a m)=x (δ b m)
 rng:∀a,a<S->0<=x a/\x a<S
theorem Finer.stab {k:Nat}(f:Finer δ S c x k)(hk:k=cntP (Neu c) S)(hδ:∀a m,a<S->m<5->δ a m<S)(hc:∀a b,a<S->b<S->c a=c b->acc a=acc b):Stab δ acc S x:=
 ⟨fun a b ha hb h=>hc a b ha hb ((f.al a b ha hb).1 h).1,fun a b ha hb h m hm=>f.same hk (hδ a m ha hm) (hδ b m hb hm) (((f.al a b ha hb).1 h).2 m hm),fun a ha=>by have:=f.rng a ha; have:=f.kS; omega⟩
structure FI (δ:Nat->Nat->Nat) (c:Nat->Int) (F:Nat->Nat) (n:Nat) (x:Nat->Int) (i:Nat):Prop where
 le:∀r,r<n->F r<i/\x (F r)=r
 cl:∀j,j<i->0<=x j/\x j<n/\Alk δ c (F (x j).toNat) j
 ds:∀r s,r<n->s<n->Alk δ c (F r) (F s)->r=s
 ct:n=cntP (Neu x) i
theorem FI.zero (F:Nat->Nat)(x:Nat->Int):FI δ c F 0 x 0:=⟨fun r h=>by omega,fun j h=>by omega,fun r s h=>by omega,rfl⟩
theorem FI.old {F:Nat->Nat}{n i:Nat}(f:FI δ c F n x i){k:Nat}(hk:k<n)(h:Alk δ c (F k) i):FI δ c F n (fun j=>if j=i then (k:Int) else x j) (i+1):=by
 have hne:∀j,j<i->¬j=i:=fun j h=>by omega
 refine ⟨fun r hr=>?_,fun j hj=>?_,f.ds,?_⟩
 ·obtain ⟨h1,h2⟩:=f.le r hr
  exact ⟨by omega,by rw[if_neg (hne _ h1)]; exact h2⟩
 ·by_cases q:j=i
  ·subst q
   simp only[if_true,Int.toNat_natCast]
   exact ⟨by omega,by omega,h⟩
  ·simp only[if_neg q]
   exact f.cl j (by omega)
 ·have hc:cntP (Neu fun j=>if j=i then (k:Int) else x j) i=cntP (Neu x) i:=a5R i fun j hj=>by
   constructor
   ·intro h2 j' hj' e
    refine h2 j' hj' ?_
    simp only[if_neg (hne j' (by omega)),if_neg (hne j hj)]; exact e
   ·intro h2 j' hj' e
    simp only[if_neg (hne j' (by omega)),if_neg (hne j hj)] at e
    exact h2 j' hj' e
  rw[a1N,hc]
  ·exact f.ct
  ·intro h2
   obtain ⟨h3,h4⟩:=f.le k hk
   refine h2 (F k) h3 ?_
   simp only[if_neg (hne _ h3),if_true]; exact h4
theorem FI.neu {F:Nat->Nat}{n i:Nat}(f:FI δ c F n x i)(h:∀k,k<n->¬Alk δ c (F k) i):FI δ c (fun r=>if r=n then i else F r) (n+1) (fun j=>if j=i then (n:Int) else x j) (i+1):=by
 have hne:∀j,j<i->¬j=i:=fun j h=>by omega
 have hnn:∀j,j<n->¬j=n:=fun j h=>by omega
 refine ⟨fun r hr=>?_,fun j hj=>?_,fun r s hr hs h2=>?_,?_⟩
 ·by_cases q:r=n
  ·subst q; simp only[if_true]; exact ⟨by omega,trivial⟩
  ·obtain ⟨h1,h2⟩:=f.le r (by omega)
   simp only[if_neg q,if_neg (hne _ h1)]; exact ⟨by omega,h2⟩
 ·by_cases q:j=i
  ·subst q
   simp only[if_true,Int.toNat_natCast]
   exact ⟨by omega,by omega,Alk.refl j⟩
  ·obtain ⟨h1,h2,h3⟩:=f.cl j (by omega)
   simp only[if_neg q,if_neg (hnn (x j).toNat (by omega))]
   exact ⟨h1,by omega,h3⟩
 ·by_cases q:r=n
  ·subst q
   by_cases q2:s=r
   ·exact q2.symm
   ·simp only[if_true,if_neg q2] at h2
    exact absurd h2.symm (h s (by omega))
  ·by_cases q2:s=n
   ·subst q2
    simp only[if_true,if_neg q] at h2
    exact absurd h2 (h r (by omega))
   ·simp only[if_neg q,if_neg q2] at h2
    exact f.ds r s (by omega) (by omega) h2
 ·have hc:cntP (Neu fun j=>if j=i then (n:Int) else x j) i=cntP (Neu x) i:=a5R i fun j hj=>by
   constructor
   ·intro h2 j' hj' e
    refine h2 j' hj' ?_
    simp only[if_neg (hne j' (by omega)),if_neg (hne j hj)]; exact e
   ·intro h2 j' hj' e
    simp only[if_neg (hne j' (by omega)),if_neg (hne j hj)] at e
    exact h2 j' hj' e
  rw[a1M,hc,<-f.ct]
  intro j hj e
  simp only[if_neg (hne j hj),if_true] at e
  have:=f.cl j hj
  omega
theorem FI.fin {F:Nat->Nat}{n:Nat}(f:FI δ c F n x S):Finer δ S c x n:=by
 refine ⟨fun a b ha hb=>⟨fun h=>?_,fun h=>?_⟩,fun a ha=>⟨(f.cl a ha).1,(f.cl a ha).2.1⟩,f.ct⟩
 ·have h1:=(f.cl a ha).2.2
  have h2:=(f.cl b hb).2.2
  rw[h] at h1
  exact h1.symm.trans h2
 ·obtain ⟨a1,a2,a3⟩:=f.cl a ha
  obtain ⟨b1,b2,b3⟩:=f.cl b hb
  have:=f.ds _ _ (by omega) (by omega) ((a3.trans h).trans b3.symm)
  omega
end
end Go.Gm
namespace Go.Gm.AQ
open Go Go.Gm
def dl (D:List (List Int))(a m:Nat):Nat:=(nx D a m).toNat
section
variable {D:List (List Int)} {acc:List Bool} {h:Heap}
theorem dl_lt (ok:DOk D acc){a m:Nat}(ha:a<D.length)(hm:m<5):dl D a m<D.length:=by
 have:=ok.to a m (by omega) (by omega) (by omega) (by omega)
 have:0<=nx D a m/\nx D a m<D.length:=this
 rw[dl]; omega
theorem cellN {sD:AV}(ok:DOk D acc)(hD:Sl h 5 sD (D.map encR)){H:Heap}(e:Ext h H){a m:Nat}(ha:a<D.length)(hm:m<5) :
  ∃p,idxA 5 1 (elP 5 sD a) (I m)=some p/\Gm.ld1 H p=some (I (dl D a m)):=by
 obtain ⟨p,p1,p2,-⟩:=cellA (H:=H) hD e (i:=(a:Int)) (j:=(m:Int)) (by omega) (by omega) (by omega) (by omega)
 have hr:=ok.row a (by omega) (by omega)
 have h2:0<=nx D a m/\nx D a m<D.length:=ok.to a m (by omega) (by omega) (by omega) (by omega)
 refine ⟨p,p1,p2.trans ?_⟩
 simp only[encR,List.getD_eq_getElem?_getD,List.getElem?_map,Int.toNat_natCast]
 have:=p4_ (xs:=gi D a) (i:=(m:Int)) (by omega) (by omega)
 rw[Int.toNat_natCast] at this
 rw[this]
 show some (I (nx D a m))=some (I ((nx D a m).toNat:Int))
 rw[show ((nx D a m).toNat:Int)=nx D a m by omega]
theorem b1p {sD sA sc:AV}{cs:List Int}{a b od:Nat}(ok:DOk D acc)(hD:Sl h 5 sD (D.map encR))(hc:Sl h 1 sc (cs.map encI))(lc:cs.length=D.length)(ha:a<D.length)(hb:b<D.length)(he:gf cs a=gf cs b)(rd:h[od]?=some (.cells ⟨[sD,sA],0,0,false⟩)) :
  ∀(d m:Nat),m+d=5->(∀m',m'<m->gf cs (dl D a m')=gf cs (dl D b m'))->
   WP (fun p:Nat × Nat=>m4_ p.1 p.2 sc (I a) (I b) (.ptr od 0 2 0) (I m) h) fun r h'=>h=h'/\∃t,r=.bool t/\(t=true↔Alk (dl D) (gf cs) a b):=by
 intro d
 induction d with
 |zero=>
  intro m h1 hm
  refine WP.rnd (fun i j=>y1_ i j sc (I a) (I b) (.ptr od 0 2 0) (I m) h) ?_
  obtain rfl:m=5:=by omega
  simp -implicitDefEqProofs (disch:=first|assumption|omega|(simp only[gL,gA]<;>omega)|fail) only[gC,reduceIte]
  exact WP.ret ⟨rfl,true,rfl,fun _=>⟨he,hm⟩,fun _=>rfl⟩
 |succ d ih=>
  intro m h1 hm
  refine WP.rnd (fun i j=>y1_ i j sc (I a) (I b) (.ptr od 0 2 0) (I m) h) ?_
  obtain ⟨p,p1,p2⟩:=cellN ok hD (Ext.refl h) ha (m:=m) (by omega)
  obtain ⟨q,q1,q2⟩:=cellN ok hD (Ext.refl h) hb (m:=m) (by omega)
  have x1:=dl_lt ok ha (m:=m) (by omega)
  have x2:=dl_lt ok hb (m:=m) (by omega)
  by_cases q:gi cs (dl D a m:Int)=gi cs (dl D b m:Int)
  ·simp -implicitDefEqProofs (disch:=first|assumption|omega|exact Ext.refl _|(simp only[gL,gA]<;>omega)|fail) only[gC,reduceIte,rd,hD.idxG,p1,p2,q1,q2,hc.idxG,hc.ld0,encI,q]
   refine ih (m+1) (by omega) fun m' hm'=>?_
   by_cases z:m'=m
   ·subst z; exact q
   ·exact hm m' (by omega)
  ·simp -implicitDefEqProofs (disch:=first|assumption|omega|exact Ext.refl _|(simp only[gL,gA]<;>omega)|fail) only[gC,reduceIte,rd,hD.idxG,p1,p2,q1,q2,hc.idxG,hc.ld0,encI]
   exact WP.ret ⟨rfl,false,rfl,fun z=>by simp at z,fun z=>absurd (z.2 m (by omega)) q⟩
theorem a9j {sD sA sc:AV}{cs:List Int}{a b:Nat}(ok:DOk D acc)(hD:Sl h 5 sD (D.map encR))(hA:Sl h 1 sA (acc.map encB))(hc:Sl h 1 sc (cs.map encI))(lc:cs.length=D.length)(ha:a<D.length)(hb:b<D.length) :
  Tot tab n1_ [.agg [sD,sA],sc,I a,I b] h fun r h'=>Ext h h'/\∃t,r=.bool t/\(t=true↔Alk (dl D) (gf cs) a b):=by
 refine WP.tot (fun k=>a3s k _ _ _ _ h) ?_
 obtain ⟨h1,hh1⟩:∃h1,h1=h++[AObj.cells ⟨[sD,sA],0,0,false⟩]:=⟨_,rfl⟩
 have e1:Ext h h1:=by rw[hh1]; exact Ext.push _ _
 have rd:h1[h.length]?=some (.cells ⟨[sD,sA],0,0,false⟩):=by rw[hh1]; simp
 have hc1:=hc.ext e1
 by_cases q:gi cs (a:Int)=gi cs (b:Int)
 ·simp -implicitDefEqProofs (maxSteps:=1000000) (disch:=first|assumption|omega|(simp only[gL]<;>omega)|((repeat (first|exact Ext.refl _|assumption|apply Ext.app|apply Ext.mk|(refine Ext.setr ?_ (by (first|omega|(simp only[gL]<;>omega))) _))); done)|(simp only[gL,gA,hD.one,hD.cells,hA.one,hA.cells,hc.idxG]<;>omega)|fail) only[gB,setAll,partL,fldV,reduceIte,Nat.reduceAdd,Nat.reduceMul,hD.one,hD.cells,hA.one,hA.cells,hc.idxG]
  rw[<-hh1]
  simp -implicitDefEqProofs (maxSteps:=1000000) (disch:=first|assumption|omega|(simp only[gL]<;>omega)|((repeat (first|exact Ext.refl _|assumption|apply Ext.app|apply Ext.mk|(refine Ext.setr ?_ (by (first|omega|(simp only[gL]<;>omega))) _))); done)|(simp only[gL,gA,hc1.ld0,encI,q]<;>omega)|fail) only[gB,setAll,partL,fldV,reduceIte,Nat.reduceAdd,Nat.reduceMul,hc1.ld0,encI,q]
  refine WP.ent ((b1p ok (hD.ext e1) hc1 lc ha hb q rd 5 0 (by omega) fun m hm=>by omega).mono ?_) fun i=>rfl
  rintro r h' ⟨rfl,t,rfl,ht⟩
  exact ⟨e1,t,rfl,ht⟩
 ·simp -implicitDefEqProofs (maxSteps:=1000000) (disch:=first|assumption|omega|(simp only[gL]<;>omega)|((repeat (first|exact Ext.refl _|assumption|apply Ext.app|apply Ext.mk|(refine Ext.setr ?_ (by (first|omega|(simp only[gL]<;>omega))) _))); done)|(simp only[gL,gA,hD.one,hD.cells,hA.one,hA.cells,hc.idxG]<;>omega)|fail) only[gB,setAll,partL,fldV,reduceIte,Nat.reduceAdd,Nat.reduceMul,hD.one,hD.cells,hA.one,hA.cells,hc.idxG]
  rw[<-hh1]
  simp -implicitDefEqProofs (maxSteps:=1000000) (disch:=first|assumption|omega|(simp only[gL]<;>omega)|((repeat (first|exact Ext.refl _|assumption|apply Ext.app|apply Ext.mk|(refine Ext.setr ?_ (by (first|omega|(simp only[gL]<;>omega))) _))); done)|(simp only[gL,gA,hc1.ld0,encI]<;>omega)|fail) only[gB,setAll,partL,fldV,reduceIte,Nat.reduceAdd,Nat.reduceMul,hc1.ld0,encI]
  exact WP.ret ⟨e1,false,rfl,fun z=>by simp at z,fun z=>absurd z.1 q⟩
def encN (n:Nat):List AV:=[I n]
theorem a8N (F:List Nat)(i:Nat):gf (F++[i])=fun r:Nat=>if r=F.length then i else gf F r:=by
 funext r
 simp only[gf,gi,Int.toNat_natCast,List.getD_eq_getElem?_getD]
 by_cases q:r<F.length
 ·rw[List.getElem?_append_left q,if_neg (by omega)]
 ·by_cases q2:r=F.length
  ·subst q2; simp
  ·rw[if_neg q2,List.getElem?_eq_none (by simp; omega),List.getElem?_eq_none (by omega)]
theorem b1q {sD sA sc out first:AV}{cs:List Int}{F:List Nat}{i od:Nat}{Q:AV->Heap->Prop}(ok:DOk D acc)(hD:Sl h 5 sD (D.map encR))(hA:Sl h 1 sA (acc.map encB))(hc:Sl h 1 sc (cs.map encI))(lc:cs.length=D.length)(rd:h[od]?=some (.cells ⟨[sD,sA],0,0,false⟩))(hF:Sl h 1 first (F.map encN))(hFS:∀r,r<F.length->gf F r<D.length)(hFl:F.length<=100000)(hi:i<D.length)(hQ:∀h' kk,Ext h h'->kk<=F.length->(kk<F.length->Alk (dl D) (gf cs) (gf F kk) i)->(∀k,k<kk->¬Alk (dl D) (gf cs) (gf F k) i)->
   WP (fun p:Nat × Nat=>s8_ p.1 p.2 sc (.ptr od 0 2 0) out first (I i) (I kk) h') Q) :
  ∀(d k:Nat) (h1:Heap),k+d=F.length->Ext h h1->(∀k',k'<k->¬Alk (dl D) (gf cs) (gf F k') i)->
   WP (fun p:(Nat × Nat) × Nat=>m3_ p.1.1 p.1.2 p.2 sc (.ptr od 0 2 0) out first (I i) (I k) h1) Q:=by
 intro d
 induction d with
 |zero=>
  intro k h1 hk e hn
  refine WP.rnd (fun i' j=>x7_ i'.1 i'.2 j sc (.ptr od 0 2 0) out first (I i) (I k) h1) ?_
  obtain rfl:k=F.length:=by omega
  have hF1:=hF.ext e
  simp -implicitDefEqProofs (disch:=first|assumption|omega|(simp only[gL,gA]<;>omega)|fail) only[gC,reduceIte,hF1.lenG]
  exact WP.lv (hQ h1 F.length e (Nat.le_refl _) (fun z=>by omega) hn) fun i j=>rfl
 |succ d ih=>
  intro k h1 hk e hn
  refine WP.rnd (fun i' j=>x7_ i'.1 i'.2 j sc (.ptr od 0 2 0) out first (I i) (I k) h1) ?_
  have hF1:=hF.ext e
  have rd1:=e.get rd
  have hkF:k<F.length:=by omega
  obtain ⟨f,hf⟩:∃f,gi F (k:Int)=f:=⟨_,rfl⟩
  have hfS:f<D.length:=hf▸hFS k hkF
  simp -implicitDefEqProofs (disch:=first|assumption|omega|exact Ext.refl _|(simp only[gL,gA]<;>omega)|fail) only[gC,reduceIte,hF1.lenG,hF1.idxG,hF1.ld0,hf,encN,rd1]
  refine WP.call (a9j ok (hD.ext e) (hA.ext e) (hc.ext e) lc hfS hi) ?_
  rintro _ h2 ⟨e2,t,rfl,ht⟩
  cases t with
  |true=>
   simp -implicitDefEqProofs (disch:=first|assumption|omega|(simp only[gL,gA]<;>omega)|fail) only[gC,reduceIte]
   refine WP.lv (hQ h2 k (e.trans e2) (by omega) (fun _=>?_) hn) fun i j=>rfl
   rw[show gf F k=f from hf]; exact ht.1 rfl
  |false=>
   simp -implicitDefEqProofs (disch:=first|assumption|omega|(simp only[gL,gA]<;>omega)|fail) only[gC,reduceIte]
   refine ih (k+1) h2 (by omega) (e.trans e2) fun k' hk'=>?_
   by_cases z:k'=k
   ·subst z
    rw[show gf F k'=f from hf]
    intro z2
    have:=ht.2 z2
    simp at this
   ·exact hn k' (by omega)
theorem b1r {hb:Heap}{sD sA sc out:AV}{cs:List Int}{od oo:Nat}(ok:DOk D acc)(hD:Sl hb 5 sD (D.map encR))(hA:Sl hb 1 sA (acc.map encB))(hc:Sl hb 1 sc (cs.map encI))(lc:cs.length=D.length)(rd:hb[od]?=some (.cells ⟨[sD,sA],0,0,false⟩))(ho:hb.length<=oo) :
  ∀(d i:Nat) (h:Heap) (first:AV) (xs:List Int) (F:List Nat),i+d=D.length->Ext hb h->oo<h.length->Gr oo (oo+1) h 1 out (xs.map encI)->xs.length=D.length->Gr (oo+1) h.length h 1 first (F.map encN)->
   FI (dl D) (gf cs) (gf F) F.length (gf xs) i->
   WP (fun p:Nat × Nat=>m2_ p.1 p.2 sc (.ptr od 0 2 0) out first (I i) h) fun r h'=>Ext hb h'/\∃(k:Nat) (xs:List Int),r=.tup [out,I k]/\Gr oo (oo+1) h' 1 out (xs.map encI)/\xs.length=D.length/\Finer (dl D) D.length (gf cs) (gf xs) k:=by
 have l1:=ok.l1
 intro d
 induction d with
 |zero=>
  intro i h first xs F h1 e hoo g lx gF fi
  refine WP.rnd (fun i' j=>x8_ i' j sc (.ptr od 0 2 0) out first (I i) h) ?_
  obtain rfl:i=D.length:=by omega
  have hc1:=hc.ext e
  simp -implicitDefEqProofs (disch:=first|assumption|omega|(simp only[gL,gA]<;>omega)|fail) only[gC,reduceIte,hc1.lenG,lc]
  refine WP.lv (WP.congr (fun k:Nat=>a2i k out first h) ?_) fun i j=>rfl
  simp -implicitDefEqProofs (disch:=first|assumption|omega|(simp only[gL,gA]<;>omega)|fail) only[gC,reduceIte,gF.sl.lenG]
  exact WP.ret ⟨e,F.length,xs,rfl,g,lx,fi.fin⟩
 |succ d ih=>
  intro i h first xs F h1 e hoo g lx gF fi
  refine WP.rnd (fun i' j=>x8_ i' j sc (.ptr od 0 2 0) out first (I i) h) ?_
  have hc1:=hc.ext e
  have hiD:i<D.length:=by omega
  have hFn:F.length<=i:=by rw[fi.ct]; exact a4Q _ _
  simp -implicitDefEqProofs (disch:=first|assumption|omega|(simp only[gL,gA]<;>omega)|fail) only[gC,reduceIte,hc1.lenG,lc]
  refine WP.ent (b1q ok (hD.ext e) (hA.ext e) hc1 lc (e.get rd) gF.sl (fun r hr=>?_) (by omega) hiD (fun h2 kk e2 k1 k2 k3=>?_) F.length 0 h (by omega) (Ext.refl _) fun k' hk'=>by omega) fun i=>rfl
  ·have:=(fi.le r hr).1; omega
  ·refine WP.congr (fun p=>a2h p.1 p.2 sc (.ptr od 0 2 0) out first (I i) (I kk) h2) ?_
   have gF2:=gF.ext e2
   have l2:=e2.len
   by_cases q:kk=F.length
   ·have hcz:gf (xs.set i (F.length:Int))=fun j=>if j=i then (F.length:Int) else gf xs j:=gset (by omega) _
    obtain ⟨s',h3,q1,q2,q3⟩:=Gr.append1 (bytes:=8) (gF2.low h2.length (Nat.le_refl _)) (v:=encN i) rfl (by omega) (by omega) (by simp; omega) (by omega) (Nat.le_refl _)
    rw[a3_] at q1
    simp only[encN] at q1
    have l3:=q3.1
    have g3:=(g.ext e2).fr q3 (.inl (Nat.le_refl _))
    have e3:Ext hb h3:=q3.ext (e.trans e2) (by omega)
    obtain ⟨h4,w1,w2,w3,w4⟩:=g3.write0 (i:=(i:Int)) (v:=I F.length) (by omega) (by simp; omega) rfl rfl
    simp -implicitDefEqProofs (disch:=first|assumption|omega|(simp only[gL,gA]<;>omega)|fail) only[gC,reduceIte,gF2.sl.lenG,q1]
    refine WP.congr (fun p=>x6_ p.1 p.2 sc (.ptr od 0 2 0) out s' (I i) (I kk) h3) ?_
    rw[q]
    simp -implicitDefEqProofs (disch:=first|assumption|omega|(simp only[gL,gA]<;>omega)|fail) only[gC,reduceIte,g3.sl.idxG,w1]
    refine WP.congr (fun p=>x5_ p.1 p.2 sc (.ptr od 0 2 0) out s' (I i) h4) ?_
    simp -implicitDefEqProofs (disch:=first|assumption|omega|(simp only[gL,gA]<;>omega)|fail) only[gC,reduceIte]
    refine ih (i+1) h4 s' (xs.set i (F.length:Int)) (F++[i]) (by omega) (w3.ext e3 (by omega)) (by omega) (w2.cong ?_) (by simpa using lx) (((q2.fr w3 (.inr (Nat.le_refl _))).mono (Nat.le_refl _) (by omega)).cong ?_) ?_
    ·rw[List.map_set]; rfl
    ·rw[List.map_append]; rfl
    ·rw[a8N,hcz,List.length_append]
     exact fi.neu fun k hk=>k3 k (by omega)
   ·have hkk:kk<F.length:=by omega
    have hcz:gf (xs.set i (kk:Int))=fun j=>if j=i then (kk:Int) else gf xs j:=gset (by omega) _
    have g3:=g.ext e2
    obtain ⟨h4,w1,w2,w3,w4⟩:=g3.write0 (i:=(i:Int)) (v:=I kk) (by omega) (by simp; omega) rfl rfl
    simp -implicitDefEqProofs (disch:=first|assumption|omega|(simp only[gL,gA]<;>omega)|fail) only[gC,reduceIte,gF2.sl.lenG]
    refine WP.congr (fun p=>x6_ p.1 p.2 sc (.ptr od 0 2 0) out first (I i) (I kk) h2) ?_
    simp -implicitDefEqProofs (disch:=first|assumption|omega|(simp only[gL,gA]<;>omega)|fail) only[gC,reduceIte,g3.sl.idxG,w1]
    refine WP.congr (fun p=>x5_ p.1 p.2 sc (.ptr od 0 2 0) out first (I i) h4) ?_
    simp -implicitDefEqProofs (disch:=first|assumption|omega|(simp only[gL,gA]<;>omega)|fail) only[gC,reduceIte]
    refine ih (i+1) h4 first (xs.set i (kk:Int)) F (by omega) (w3.ext (e.trans e2) (by omega)) (by omega) (w2.cong ?_) (by simpa using lx) ((gF2.fr w3 (.inr (Nat.le_refl _))).mono (Nat.le_refl _) (by omega)) ?_
    ·rw[List.map_set]; rfl
    ·rw[hcz]; exact fi.old hkk (k2 hkk)
theorem a9k {sD sA sc:AV}{cs:List Int}(ok:DOk D acc)(hD:Sl h 5 sD (D.map encR))(hA:Sl h 1 sA (acc.map encB))(hc:Sl h 1 sc (cs.map encI))(lc:cs.length=D.length) :
  Tot tab c2_ [.agg [sD,sA],sc] h fun r h'=>Ext h h'/\∃(out:AV) (k:Nat) (xs:List Int),r=.tup [out,I k]/\Gr h.length h'.length h' 1 out (xs.map encI)/\xs.length=D.length/\Finer (dl D) D.length (gf cs) (gf xs) k:=by
 refine WP.tot (fun k=>a3r k _ _ h) ?_
 have l1:=ok.l1
 obtain ⟨h1,hh1⟩:∃h1,h1=h++[AObj.cells ⟨[sD,sA],0,0,false⟩]:=⟨_,rfl⟩
 have e1:Ext h h1:=by rw[hh1]; exact Ext.push _ _
 have rd:h1[h.length]?=some (.cells ⟨[sD,sA],0,0,false⟩):=by rw[hh1]; simp
 have hl1:h1.length=h.length+1:=by rw[hh1]; simp
 obtain ⟨s2,h2,a2,g2,e2,_,l2⟩:=m7_ (zero:=[AV.int .i64 0]) (sz:=1) (bytes:=8) (n:=(D.length:Int)) h1 (by omega) (by omega) (by omega) rfl rfl
 have hre:List.replicate (D.length:Int).toNat [AV.int .i64 0]=(List.replicate D.length (0:Int)).map encI:=by simp[encI,I]
 rw[hre] at g2
 simp -implicitDefEqProofs (maxSteps:=1000000) (disch:=first|assumption|omega|(simp only[gL]<;>omega)|((repeat (first|exact Ext.refl _|assumption|apply Ext.app|apply Ext.mk|(refine Ext.setr ?_ (by (first|omega|(simp only[gL]<;>omega))) _))); done)|(simp only[gL,gA,hD.one,hD.cells,hA.one,hA.cells,hc.lenG,lc]<;>omega)|fail) only[gB,setAll,partL,fldV,reduceIte,Nat.reduceAdd,Nat.reduceMul,hD.one,hD.cells,hA.one,hA.cells,hc.lenG,lc]
 rw[<-hh1]
 simp -implicitDefEqProofs (maxSteps:=1000000) (disch:=first|assumption|omega|(simp only[gL]<;>omega)|((repeat (first|exact Ext.refl _|assumption|apply Ext.app|apply Ext.mk|(refine Ext.setr ?_ (by (first|omega|(simp only[gL]<;>omega))) _))); done)|(simp only[gL,gA,a2]<;>omega)|fail) only[gB,setAll,partL,fldV,reduceIte,Nat.reduceAdd,Nat.reduceMul,a2]
 refine WP.ent ((b1r ok (hD.ext e1) (hA.ext e1) (hc.ext e1) lc rd (Nat.le_refl _) D.length 0 h2 .nils _ [] (by omega) e2 (by omega) g2 (by simp) (Gr.nil ..) (FI.zero ..)).mono ?_) fun i=>rfl
 rintro r h3 ⟨e3,k,xs,rfl,g3,lx,f3⟩
 exact ⟨e1.trans e3,s2,k,xs,rfl,(g3.low _ (Nat.le_refl _)).mono (by omega) (Nat.le_refl _),lx,f3⟩
end
end Go.Gm.AQ
namespace Go.Gm.AQ
open Go Go.Gm
section
variable {D:List (List Int)} {acc:List Bool} {h:Heap}
theorem b0z {hb:Heap}{sD sA:AV}{od:Nat}(ok:DOk D acc)(hD:Sl hb 5 sD (D.map encR))(hA:Sl hb 1 sA (acc.map encB))(rd:hb[od]?=some (.cells ⟨[sD,sA],0,0,false⟩)) :
  ∀(d:Nat) (n:Nat) (h:Heap) (sc:AV) (cs:List Int),D.length+1<=d+n->Ext hb h->Gr hb.length h.length h 1 sc (cs.map encI)->cs.length=D.length->(n=0\/n=cntP (Neu (gf cs)) D.length)->(∀a b,a<D.length->b<D.length->gf cs a=gf cs b->gi acc (a:Int)=gi acc (b:Int))->
   WP (fun p:Nat × Nat=>k9_ p.1 p.2 (.ptr od 0 2 0) sc (I n) h) fun r h'=>Ext hb h'/\∃xs:List Int,Gr hb.length h'.length h' 1 r (xs.map encI)/\xs.length=D.length/\Stab (dl D) (fun a:Nat=>gi acc (a:Int)) D.length (gf xs):=by
 have l0:=ok.l0
 have l1:=ok.l1
 intro d
 induction d with
 |zero=>
  intro n h sc cs h1 e g lc hn hac
  have:n<=D.length:=by
   rcases hn with rfl|rfl
   ·omega
   ·exact a4Q _ _
  omega
 |succ d ih=>
  intro n h sc cs h1 e g lc hn hac
  refine WP.rnd (fun i' j=>a1T i' j (.ptr od 0 2 0) sc (I n) h) ?_
  have rd1:=e.get rd
  simp -implicitDefEqProofs (disch:=first|assumption|omega|(simp only[gL,gA]<;>omega)|fail) only[gC,reduceIte,rd1]
  refine WP.call (a9k ok (hD.ext e) (hA.ext e) g.sl lc) ?_
  rintro _ h2 ⟨e2,out,k,xs,rfl,g2,lx,f2⟩
  have l2:=e.len
  have g2':Gr hb.length h2.length h2 1 out (xs.map encI):=g2.mono l2 (Nat.le_refl _)
  by_cases q:k=n
  ·simp -implicitDefEqProofs (disch:=first|assumption|omega|(simp only[gL,gA]<;>omega)|fail) only[gC,reduceIte,d1_,d2_]
   refine WP.ret ⟨e.trans e2,xs,g2',lx,?_⟩
   refine f2.stab ?_ (fun a m ha hm=>dl_lt ok ha hm) hac
   rcases hn with hn|hn
   ·have:=f2.pos l0; omega
   ·omega
  ·have hkn:n<k:=by
    rcases hn with hn|hn
    ·have:=f2.pos l0; omega
    ·have:=f2.le; omega
   simp -implicitDefEqProofs (disch:=first|assumption|omega|(simp only[gL,gA]<;>omega)|fail) only[gC,reduceIte,d1_,d2_]
   refine ih k h2 out xs (by omega) (e.trans e2) g2' lx (.inr f2.cnt) fun a b ha hb hab=>hac a b ha hb ((f2.al a b ha hb).1 hab).1
theorem b0A {hb:Heap}{sD sA sc:AV}{od:Nat}(ok:DOk D acc)(hD:Sl hb 5 sD (D.map encR))(hA:Sl hb 1 sA (acc.map encB))(rd:hb[od]?=some (.cells ⟨[sD,sA],0,0,false⟩)) :
  ∀(d i:Nat) (h:Heap) (cs:List Int),i+d=D.length->Ext hb h->hb.length+1=h.length->Gr hb.length (hb.length+1) h 1 sc (cs.map encI)->cs.length=D.length->(∀a:Nat,a<D.length->gf cs a=if a<i/\gi acc (a:Int)=true then 1 else 0)->
   WP (fun p:Nat × Nat=>g6_ p.1 p.2 (.ptr od 0 2 0) sc (I i) h) fun r h'=>Ext hb h'/\∃xs:List Int,Gr hb.length h'.length h' 1 r (xs.map encI)/\xs.length=D.length/\Stab (dl D) (fun a:Nat=>gi acc (a:Int)) D.length (gf xs):=by
 have l0:=ok.l0
 have l1:=ok.l1
 have la:=ok.la
 intro d
 induction d with
 |zero=>
  intro i h cs h1 e hl g lc hv
  refine WP.rnd (fun i' j=>v7_ i' j (.ptr od 0 2 0) sc (I i) h) ?_
  obtain rfl:i=D.length:=by omega
  simp -implicitDefEqProofs (disch:=first|assumption|omega|(simp only[gL,gA]<;>omega)|fail) only[gC,reduceIte,g.sl.lenG,lc]
  refine WP.lv (WP.congr (fun k:Nat=>a1U k (.ptr od 0 2 0) sc h) ?_) fun i j=>rfl
  refine WP.ent (b0z ok hD hA rd (D.length+1) 0 h sc cs (by omega) e (g.low _ (Nat.le_refl _)) lc (.inl rfl) fun a b ha hb hab=>?_) fun i=>rfl
  rw[hv a ha,hv b hb] at hab
  by_cases qa:gi acc (a:Int)=true
  ·by_cases qb:gi acc (b:Int)=true
   ·rw[qa,qb]
   ·rw[if_pos ⟨ha,qa⟩,if_neg fun z=>qb z.2] at hab; omega
  ·by_cases qb:gi acc (b:Int)=true
   ·rw[if_neg fun z=>qa z.2,if_pos ⟨hb,qb⟩] at hab; omega
   ·rw[Bool.not_eq_true] at qa qb; rw[qa,qb]
 |succ d ih=>
  intro i h cs h1 e hl g lc hv
  refine WP.rnd (fun i' j=>v7_ i' j (.ptr od 0 2 0) sc (I i) h) ?_
  have hA1:=hA.ext e
  have rd1:=e.get rd
  have hiD:i<D.length:=by omega
  obtain ⟨b,hb'⟩:∃b,gi acc (i:Int)=b:=⟨_,rfl⟩
  cases b with
  |true=>
   obtain ⟨h4,w1,w2,w3,w4⟩:=g.write0 (i:=(i:Int)) (v:=I 1) (by omega) (by simp; omega) rfl rfl
   simp -implicitDefEqProofs (disch:=first|assumption|omega|exact Ext.refl _|(simp only[gL,gA]<;>omega)|fail) only[gC,reduceIte,g.sl.lenG,lc,rd1,hA1.idxG,hA1.ld0,hb',encB,g.sl.idxG,w1]
   refine ih (i+1) h4 (cs.set i 1) (by omega) (w3.ext e (Nat.le_refl _)) (by omega) (w2.cong ?_) (by simpa using lc) fun a ha=>?_
   ·rw[List.map_set]; rfl
   ·rw[show gf (cs.set i 1)=_ from gset (by omega) 1]
    by_cases q:a=i
    ·subst q; simp[hb']
    ·simp only[if_neg q]
     rw[show gi cs (a:Int)=gf cs a from rfl,hv a ha]
     by_cases q2:a<i
     ·simp[q2,show a<i+1 by omega]
     ·simp[q2,show ¬a<i+1 by omega]
  |false=>
   simp -implicitDefEqProofs (disch:=first|assumption|omega|exact Ext.refl _|(simp only[gL,gA]<;>omega)|fail) only[gC,reduceIte,g.sl.lenG,lc,rd1,hA1.idxG,hA1.ld0,hb',encB]
   refine ih (i+1) h cs (by omega) e hl g lc fun a ha=>?_
   rw[hv a ha]
   by_cases q:a=i
   ·subst q; simp[hb']
   ·by_cases q2:a<i
    ·simp[q2,show a<i+1 by omega]
    ·simp[q2,show ¬a<i+1 by omega]
theorem a7Z {sD sA:AV}(ok:DOk D acc)(hD:Sl h 5 sD (D.map encR))(hA:Sl h 1 sA (acc.map encB)) :
  Tot tab e3_ [.agg [sD,sA]] h fun r h'=>Ext h h'/\∃xs:List Int,Gr h.length h'.length h' 1 r (xs.map encI)/\xs.length=D.length/\Stab (dl D) (fun a:Nat=>gi acc (a:Int)) D.length (gf xs):=by
 refine WP.tot (fun k=>a2P k _ h) ?_
 have l1:=ok.l1
 obtain ⟨h1,hh1⟩:∃h1,h1=h++[AObj.cells ⟨[sD,sA],0,0,false⟩]:=⟨_,rfl⟩
 have e1:Ext h h1:=by rw[hh1]; exact Ext.push _ _
 have rd:h1[h.length]?=some (.cells ⟨[sD,sA],0,0,false⟩):=by rw[hh1]; simp
 have hl1:h1.length=h.length+1:=by rw[hh1]; simp
 obtain ⟨s2,h2,a2,g2,e2,_,l2⟩:=m7_ (zero:=[AV.int .i64 0]) (sz:=1) (bytes:=8) (n:=(D.length:Int)) h1 (by omega) (by omega) (by omega) rfl rfl
 have hre:List.replicate (D.length:Int).toNat [AV.int .i64 0]=(List.replicate D.length (0:Int)).map encI:=by simp[encI,I]
 rw[hre] at g2
 simp -implicitDefEqProofs (maxSteps:=1000000) (disch:=first|assumption|omega|(simp only[gL]<;>omega)|((repeat (first|exact Ext.refl _|assumption|apply Ext.app|apply Ext.mk|(refine Ext.setr ?_ (by (first|omega|(simp only[gL]<;>omega))) _))); done)|(simp only[gL,gA,hD.one,hD.cells,hA.one,hA.cells,hD.lenG]<;>omega)|fail) only[gB,setAll,partL,fldV,reduceIte,Nat.reduceAdd,Nat.reduceMul,hD.one,hD.cells,hA.one,hA.cells,hD.lenG]
 rw[<-hh1]
 simp -implicitDefEqProofs (maxSteps:=1000000) (disch:=first|assumption|omega|(simp only[gL]<;>omega)|((repeat (first|exact Ext.refl _|assumption|apply Ext.app|apply Ext.mk|(refine Ext.setr ?_ (by (first|omega|(simp only[gL]<;>omega))) _))); done)|(simp only[gL,gA,a2]<;>omega)|fail) only[gB,setAll,partL,fldV,reduceIte,Nat.reduceAdd,Nat.reduceMul,a2]
 refine WP.ent ((b0A ok (hD.ext e1) (hA.ext e1) rd D.length 0 h2 _ (by omega) e2 (by omega) g2 (by simp) fun a ha=>?_).mono ?_) fun i=>rfl
 ·rw[if_neg (by omega)]
  exact a1J (by omega) (by omega)
 ·rintro r h3 ⟨e3,xs,g3,lx,f3⟩
  exact ⟨e1.trans e3,xs,g3.mono (by omega) (Nat.le_refl _),lx,f3⟩
end
end Go.Gm.AQ
namespace Go.Gm
section
variable {δ:Nat->Nat->Nat} {S n:Nat} {x rk:Nat->Int} {s:Nat->Nat} {acc:Nat->Bool}
structure PMs (x:Nat->Int) (S:Nat) (rk:Nat->Int) (s:Nat->Nat) (n:Nat):Prop where
 lt:∀j,j<n->s j<S
 rel:∀v:Nat,v<S->(rk v=0/\∀j,j<n->x (s j)≠v)\/∃j:Nat,j<n/\rk v=j+1/\x (s j)=v
 ct:un S (fun v=>rk v-1)+n=S
theorem PMs.le (p:PMs x S rk s n):n<=S:=by
 have:=p.ct
 have:=s4_ S (fun v=>rk v-1)
 omega
theorem PMs.has (p:PMs x S rk s n){v:Nat}(hv:v<S)(h:rk v≠0):∃j:Nat,j<n/\rk v=j+1/\x (s j)=v:=by
 rcases p.rel v hv with ⟨h1,_⟩|h1
 ·exact absurd h1 h
 ·exact h1
theorem PMs.neu (p:PMs x S rk s n){v to:Nat}(hv:v<S)(ht:to<S)(hx:x to=v)(h:rk v=0):PMs x S (up rk v (n+1)) (fun r=>if r=n then to else s r) (n+1):=by
 have hnn:∀j,j<n->¬j=n:=fun j h=>by omega
 refine ⟨fun j hj=>?_,fun w hw=>?_,?_⟩
 ·by_cases q:j=n
  ·simp only[if_pos q]; exact ht
  ·simp only[if_neg q]; exact p.lt j (by omega)
 ·by_cases q:w=v
  ·subst q
   refine .inr ⟨n,by omega,?_,?_⟩
   ·simp[up]
   ·simp only[if_true]; exact hx
  ·rcases p.rel w hw with ⟨h1,h2⟩|⟨j,h1,h2,h3⟩
   ·refine .inl ⟨by rw[up,if_neg q]; exact h1,fun j hj=>?_⟩
    by_cases q2:j=n
    ·simp only[if_pos q2]; rw[hx]; omega
    ·simp only[if_neg q2]; exact h2 j (by omega)
   ·refine .inr ⟨j,by omega,by rw[up,if_neg q]; exact h2,?_⟩
    simp only[if_neg (hnn j h1)]; exact h3
 ·have e:(fun w=>up rk v (n+1) w-1)=up (fun w=>rk w-1) v n:=by
   funext w
   simp only[up]
   split<;>omega
  rw[e,un_up hv (by omega),if_pos (by omega)]
  have:=p.ct
  omega
def POw (δ:Nat->Nat->Nat)(acc:Nat->Bool)(x:Nat->Int)(s:Nat->Nat)(n:Nat)(nxt:Nat->Nat->Int)(ac:Nat->Bool)(i:Nat):Prop:=
 ∀a,a<i->ac a=acc (s a)/\∀m,m<5->∃j:Nat,j<n/\nxt a m=j/\x (s j)=x (δ (s a) m)
def PRw (δ:Nat->Nat->Nat)(x:Nat->Int)(s:Nat->Nat)(n:Nat)(a:Nat)(nx:Nat->Int)(m:Nat):Prop:=∀m',m'<m->∃j:Nat,j<n/\nx m'=j/\x (s j)=x (δ a m')
theorem POw.grow {nxt:Nat->Nat->Int}{ac:Nat->Bool}{i:Nat}(p:POw δ acc x s n nxt ac i)(hi:i<=n)(to:Nat):POw δ acc x (fun r=>if r=n then to else s r) (n+1) nxt ac i:=by
 intro a ha
 obtain ⟨h1,h2⟩:=p a ha
 refine ⟨by simp only[if_neg (show ¬a=n by omega)]; exact h1,fun m hm=>?_⟩
 obtain ⟨j,k1,k2,k3⟩:=h2 m hm
 refine ⟨j,by omega,k2,?_⟩
 simp only[if_neg (show ¬a=n by omega),if_neg (show ¬j=n by omega)]
 exact k3
theorem PRw.grow {nx:Nat->Int}{a m:Nat}(p:PRw δ x s n a nx m)(to:Nat):PRw δ x (fun r=>if r=n then to else s r) (n+1) a nx m:=by
 intro m' hm
 obtain ⟨j,k1,k2,k3⟩:=p m' hm
 refine ⟨j,by omega,k2,?_⟩
 simp only[if_neg (show ¬j=n by omega)]
 exact k3
end
end Go.Gm
namespace Go.Gm.AQ
open Go Go.Gm
section
variable {D:List (List Int)} {acc:List Bool} {h:Heap}
structure MI (S:Nat) (hb h:Heap) (rank states sN sA:AV) (oS oN oA:Nat) (rk:List Int) (Ss:List Nat) (D':List (List Int)) (acc':List Bool):Prop where
 eb:Ext hb h
 ro:h[hb.length]?=some (.cells ⟨[sN,sA],0,0,false⟩)
 gr:Gr (hb.length+1) (hb.length+2) h 1 rank (rk.map encI)
 gs:Gr oS (oS+1) h 1 states (Ss.map encN)
 gn:Gr oN (oN+1) h 5 sN (D'.map encR)
 ga:Gr oA (oA+1) h 1 sA (acc'.map encB)
 ps:states≠.nils->hb.length+2<=oS/\oS<h.length
 pn:sN≠.nils->hb.length+2<=oN/\oN<h.length/\(states≠.nils->oN≠oS)
 pa:sA≠.nils->hb.length+2<=oA/\oA<h.length/\(states≠.nils->oA≠oS)/\(sN≠.nils->oA≠oN)
 lr:rk.length=S
 bl:hb.length+2<=h.length
section
variable {S:Nat} {hb:Heap} {rank states sN sA:AV} {oS oN oA:Nat} {rk:List Int} {Ss:List Nat} {D':List (List Int)} {acc':List Bool}
theorem MI.ext (p:MI S hb h rank states sN sA oS oN oA rk Ss D' acc'){h':Heap}(e:Ext h h'):MI S hb h' rank states sN sA oS oN oA rk Ss D' acc':=by
 have l:=e.len
 refine ⟨p.eb.trans e,e.get p.ro,p.gr.ext e,p.gs.ext e,p.gn.ext e,p.ga.ext e,fun z=>?_,fun z=>?_,fun z=>?_,p.lr,by have:=p.bl; omega⟩
 ·have:=p.ps z; omega
 ·have:=p.pn z; exact ⟨this.1,by omega,this.2.2⟩
 ·have:=p.pa z; exact ⟨this.1,by omega,this.2.2⟩
theorem MI.frs (p:MI S hb h rank states sN sA oS oN oA rk Ss D' acc'){h':Heap}{o:Nat}(f:FrS (fun q=>q=o) h h')(ho:hb.length+2<=o)(h1:states≠.nils->o≠oS)(h2:sN≠.nils->o≠oN)(h3:sA≠.nils->o≠oA):MI S hb h' rank states sN sA oS oN oA rk Ss D' acc':=by
 have l:=f.len
 have bl:=p.bl
 have nl:∀{lo:Nat} {sz:Nat} {s:AV} {xs:List (List AV)},Gr lo (lo+1) h sz s xs->(s≠.nils->o≠lo)->Gr lo (lo+1) h' sz s xs:=by
  intro lo sz s xs g hq
  by_cases q:s=.nils
  ·subst q
   have:=g.isNil
   subst this
   exact Gr.nil ..
  ·exact g.frs f fun r r1 r2=>by have:=hq q; omega
 refine ⟨f.ext p.eb fun q q1=>by omega,by rw[f.get (by omega) (by omega)]; exact p.ro,p.gr.frs f fun q q1 q2=>by omega,nl p.gs h1,nl p.gn h2,nl p.ga h3,fun z=>?_,fun z=>?_,fun z=>?_,p.lr,by omega⟩
 ·have:=p.ps z; omega
 ·have:=p.pn z; exact ⟨this.1,by omega,this.2.2⟩
 ·have:=p.pa z; exact ⟨this.1,by omega,this.2.2⟩
theorem MI.addS (p:MI S hb h rank states sN sA oS oN oA rk Ss D' acc')(to:Nat)(hl:Ss.length<=100000) :
  ∃s' h' o',apnd 1 8 states (.sl h.length 0 1 1 none 0) (h++[AObj.cells ⟨[I to],0,0,false⟩])=some (s',h')/\MI S hb h' rank s' sN sA o' oN oA rk (Ss++[to]) D' acc'/\FrS (fun q=>states≠.nils/\q=oS) h h'/\(s'≠.nils->(o'=oS/\states≠.nils)\/h.length<=o'):=by
 have b:=Gr.lit (h:=h) (sz:=1) (v:=encN to) rfl
 rw[a3_] at b
 have e1:Ext h (h++[AObj.cells ⟨encN to,0,0,false⟩]):=Ext.push _ _
 obtain ⟨s',h',o',q1,q2,q3,q4⟩:=(p.gs.ext e1).appP (fun z=>by have:=p.ps z; simp; omega) b.sl (by omega) (bytes:=8) (by omega) (by simp; omega)
 have f:=(FrS.ofExt (D:=fun q=>states≠.nils/\q=oS) e1).trans q4
 have l:=f.len
 have bl:=p.bl
 have l1:(h++[AObj.cells ⟨encN to,0,0,false⟩]).length=h.length+1:=by simp
 have ps:=p.ps
 have pn:=p.pn
 have pa:=p.pa
 have q3':s'≠.nils->(o'=oS/\states≠.nils)\/h.length<=o':=fun z=>by
  rcases (q3 z).1 with q|q
  ·exact .inl q
  ·exact .inr (by omega)
 have nl:∀{lo:Nat} {sz:Nat} {s:AV} {xs:List (List AV)},Gr lo (lo+1) h sz s xs->(s≠.nils->states≠.nils->lo≠oS)->Gr lo (lo+1) h' sz s xs:=by
  intro lo sz s xs g hq
  by_cases q:s=.nils
  ·subst q
   have:=g.isNil
   subst this
   exact Gr.nil ..
  ·exact g.frs f fun r r1 r2 z=>by have:=hq q z.1; omega
 refine ⟨s',h',o',q1,⟨f.ext p.eb fun q z1 z2=>by have:=ps z2.1; omega,by rw[f.get (fun z=>by have:=ps z.1; omega) (by omega)]; exact p.ro,p.gr.frs f fun q z1 z2 z3=>by have:=ps z3.1; omega,q2.cong (by simp[encN]),nl p.gn fun z1 z2=>(pn z1).2.2 z2,nl p.ga fun z1 z2=>(pa z1).2.2.1 z2,fun z=>?_,fun z=>?_,fun z=>?_,p.lr,by omega⟩,f,q3'⟩
 ·have h1:=(q3 z).2
  rcases q3' z with ⟨h2,h3⟩|h2
  ·have:=ps h3; omega
  ·omega
 ·have h1:=pn z
  refine ⟨h1.1,by omega,fun z2=>?_⟩
  rcases q3' z2 with ⟨h2,h3⟩|h2
  ·have:=h1.2.2 h3; omega
  ·omega
 ·have h1:=pa z
  refine ⟨h1.1,by omega,fun z2=>?_,h1.2.2.2⟩
  rcases q3' z2 with ⟨h2,h3⟩|h2
  ·have:=h1.2.2.1 h3; omega
  ·omega
theorem MI.setRk (p:MI S hb h rank states sN sA oS oN oA rk Ss D' acc'){v:Nat}(hv:v<S)(k:Int) :
  ∃h',stN 1 h (elP 1 rank v) (I k)=some h'/\MI S hb h' rank states sN sA oS oN oA (rk.set v k) Ss D' acc'/\FrS (fun q=>q=hb.length+1) h h':=by
 obtain ⟨h',w1,w2,w3,w4⟩:=p.gr.write0 (i:=(v:Int)) (v:=I k) (by omega) (by rw[List.length_map,p.lr]; omega) rfl rfl
 have f:FrS (fun q=>q=hb.length+1) h h':=w3.s.mono fun q z1 z2=>by omega
 have bl:=p.bl
 have nl:∀{lo:Nat} {sz:Nat} {s:AV} {xs:List (List AV)},Gr lo (lo+1) h sz s xs->(s≠.nils->hb.length+2<=lo)->Gr lo (lo+1) h' sz s xs:=by
  intro lo sz s xs g hq
  by_cases q:s=.nils
  ·subst q
   have:=g.isNil
   subst this
   exact Gr.nil ..
  ·exact g.frs f fun r r1 r2=>by have:=hq q; omega
 refine ⟨h',w1,⟨f.ext p.eb fun q z1 z2=>by omega,by rw[f.get (by omega) (by omega)]; exact p.ro,w2.cong (by rw[List.map_set]; rfl),nl p.gs fun z=>(p.ps z).1,nl p.gn fun z=>(p.pn z).1,nl p.ga fun z=>(p.pa z).1,?_,?_,?_,by rw[List.length_set]; exact p.lr,by omega⟩,f⟩
 ·rw[w4]; exact p.ps
 ·rw[w4]; exact p.pn
 ·rw[w4]; exact p.pa
theorem MI.row (p:MI S hb h rank states sN sA oS oN oA rk Ss D' acc'){r:List Int}(hr:r.length=5)(hl:D'.length<=100000) :
  ∃s' h' o',apnd 5 40 sN (.sl h.length 0 1 5 none 0) (h++[AObj.cells ⟨r.map I,0,0,false⟩])=some (s',h')/\s'.one=true/\s'.cells=[s']/\h'[hb.length]?=some (.cells ⟨[sN,sA],0,0,false⟩)/\
   MI S hb (h'.set hb.length (.cells ⟨[s',sA],0,0,false⟩)) rank states s' sA oS o' oA rk Ss (D'++[r]) acc':=by
 have b:=Gr.lit (h:=h) (sz:=5) (v:=r.map I) (by simp[hr])
 rw[a3_] at b
 have e1:Ext h (h++[AObj.cells ⟨r.map I,0,0,false⟩]):=Ext.push _ _
 obtain ⟨s',h',o',q1,q2,q3,q4⟩:=(p.gn.ext e1).appP (fun z=>by have:=p.pn z; simp; omega) b.sl (by omega) (bytes:=40) (by omega) (by simp; omega)
 have f:=(FrS.ofExt (D:=fun q=>sN≠.nils/\q=oN) e1).trans q4
 have l:=f.len
 have bl:=p.bl
 have ps:=p.ps
 have pn:=p.pn
 have pa:=p.pa
 have l1:(h++[AObj.cells ⟨r.map I,0,0,false⟩]).length=h.length+1:=by simp
 have q3':s'≠.nils->(o'=oN/\sN≠.nils)\/h.length<=o':=fun z=>by
  rcases (q3 z).1 with q|q
  ·exact .inl q
  ·exact .inr (by omega)
 have ro:=p.ro
 have ro':h'[hb.length]?=some (.cells ⟨[sN,sA],0,0,false⟩):=by rw[f.get (fun z=>by have:=pn z.1; omega) (by omega)]; exact ro
 have nl:∀{lo:Nat} {sz:Nat} {s:AV} {xs:List (List AV)},Gr lo (lo+1) h sz s xs->(s≠.nils->sN≠.nils->oN≠lo)->Gr lo (lo+1) h' sz s xs:=by
  intro lo sz s xs g hq
  by_cases q:s=.nils
  ·subst q
   have:=g.isNil
   subst this
   exact Gr.nil ..
  ·exact g.frs f fun r r1 r2 z=>by have:=hq q z.1; omega
 have st:∀{lo:Nat} {sz:Nat} {s:AV} {xs:List (List AV)} (x:AObj),Gr lo (lo+1) h' sz s xs->(s≠.nils->hb.length<lo)->Gr lo (lo+1) (h'.set hb.length x) sz s xs:=by
  intro lo sz s xs x g hq
  by_cases q:s=.nils
  ·subst q
   have:=g.isNil
   subst this
   exact Gr.nil ..
  ·exact g.set (.inl (hq q)) _
 have q5:∀z:s'≠.nils,hb.length+2<=o'/\o'<h'.length:=fun z=>by
  have h1:=(q3 z).2
  rcases q3' z with ⟨h2,h3⟩|h2
  ·have:=pn h3; omega
  ·omega
 refine ⟨s',h',o',q1,q2.sl.one,q2.sl.cells,ro',⟨(f.ext p.eb fun q z1 z2=>by have:=pn z2.1; omega).setr (Nat.le_refl _) _,a4_ (by omega),(p.gr.frs f fun q z1 z2 z3=>by have:=pn z3.1; omega).set (.inl (by omega)) _,st _ (nl p.gs fun z1 z2=>(pn z2).2.2 z1) fun z=>by have:=ps z; omega,st _ (q2.cong (by simp[encR])) fun z=>by have:=q5 z; omega,st _ (nl p.ga fun z1 z2=>((pa z1).2.2.2 z2).symm) fun z=>by have:=pa z; omega,?_,?_,?_,p.lr,by simp; omega⟩⟩
 ·intro z; have:=ps z; simp; omega
 ·intro z
  have h1:=q5 z
  refine ⟨h1.1,by simp; exact h1.2,fun z2=>?_⟩
  rcases q3' z with ⟨h2,h3⟩|h2
  ·have:=(pn h3).2.2 z2; omega
  ·have:=ps z2; omega
 ·intro z
  have h1:=pa z
  refine ⟨h1.1,by simp; omega,h1.2.2.1,fun z2=>?_⟩
  rcases q3' z2 with ⟨h2,h3⟩|h2
  ·have:=h1.2.2.2 h3; omega
  ·omega
theorem MI.accept (p:MI S hb h rank states sN sA oS oN oA rk Ss D' acc')(b:Bool)(hl:acc'.length<=100000) :
  ∃s' h' o',apnd 1 1 sA (.sl h.length 0 1 1 none 0) (h++[AObj.cells ⟨[.bool b],0,0,false⟩])=some (s',h')/\s'.one=true/\s'.cells=[s']/\h'[hb.length]?=some (.cells ⟨[sN,sA],0,0,false⟩)/\
   MI S hb (h'.set hb.length (.cells ⟨[sN,s'],0,0,false⟩)) rank states sN s' oS oN o' rk Ss D' (acc'++[b]):=by
 have b0:=Gr.lit (h:=h) (sz:=1) (v:=encB b) rfl
 rw[a3_] at b0
 have e1:Ext h (h++[AObj.cells ⟨encB b,0,0,false⟩]):=Ext.push _ _
 obtain ⟨s',h',o',q1,q2,q3,q4⟩:=(p.ga.ext e1).appP (fun z=>by have:=p.pa z; simp; omega) b0.sl (by omega) (bytes:=1) (by omega) (by simp; omega)
 have f:=(FrS.ofExt (D:=fun q=>sA≠.nils/\q=oA) e1).trans q4
 have l:=f.len
 have bl:=p.bl
 have ps:=p.ps
 have pn:=p.pn
 have pa:=p.pa
 have l1:(h++[AObj.cells ⟨encB b,0,0,false⟩]).length=h.length+1:=by simp
 have q3':s'≠.nils->(o'=oA/\sA≠.nils)\/h.length<=o':=fun z=>by
  rcases (q3 z).1 with q|q
  ·exact .inl q
  ·exact .inr (by omega)
 have ro:=p.ro
 have ro':h'[hb.length]?=some (.cells ⟨[sN,sA],0,0,false⟩):=by rw[f.get (fun z=>by have:=pa z.1; omega) (by omega)]; exact ro
 have nl:∀{lo:Nat} {sz:Nat} {s:AV} {xs:List (List AV)},Gr lo (lo+1) h sz s xs->(s≠.nils->sA≠.nils->oA≠lo)->Gr lo (lo+1) h' sz s xs:=by
  intro lo sz s xs g hq
  by_cases q:s=.nils
  ·subst q
   have:=g.isNil
   subst this
   exact Gr.nil ..
  ·exact g.frs f fun r r1 r2 z=>by have:=hq q z.1; omega
 have st:∀{lo:Nat} {sz:Nat} {s:AV} {xs:List (List AV)} (x:AObj),Gr lo (lo+1) h' sz s xs->(s≠.nils->hb.length<lo)->Gr lo (lo+1) (h'.set hb.length x) sz s xs:=by
  intro lo sz s xs x g hq
  by_cases q:s=.nils
  ·subst q
   have:=g.isNil
   subst this
   exact Gr.nil ..
  ·exact g.set (.inl (hq q)) _
 have q5:∀z:s'≠.nils,hb.length+2<=o'/\o'<h'.length:=fun z=>by
  have h1:=(q3 z).2
  rcases q3' z with ⟨h2,h3⟩|h2
  ·have:=pa h3; omega
  ·omega
 refine ⟨s',h',o',q1,q2.sl.one,q2.sl.cells,ro',⟨(f.ext p.eb fun q z1 z2=>by have:=pa z2.1; omega).setr (Nat.le_refl _) _,a4_ (by omega),(p.gr.frs f fun q z1 z2 z3=>by have:=pa z3.1; omega).set (.inl (by omega)) _,st _ (nl p.gs fun z1 z2=>(pa z2).2.2.1 z1) fun z=>by have:=ps z; omega,st _ (nl p.gn fun z1 z2=>(pa z2).2.2.2 z1) fun z=>by have:=pn z; omega,st _ (q2.cong (by simp[encB])) fun z=>by have:=q5 z; omega,?_,?_,?_,p.lr,by simp; omega⟩⟩
 ·intro z; have:=ps z; simp; omega
 ·intro z; have:=pn z; exact ⟨this.1,by simp; omega,this.2.2⟩
 ·intro z
  have h1:=q5 z
  refine ⟨h1.1,by simp; exact h1.2,fun z2=>?_,fun z2=>?_⟩
  ·rcases q3' z with ⟨h2,h3⟩|h2
   ·have:=(pa h3).2.2.1 z2; omega
   ·have:=ps z2; omega
  ·rcases q3' z with ⟨h2,h3⟩|h2
   ·have:=(pa h3).2.2.2 z2; omega
   ·have:=pn z2; omega
end
end
end Go.Gm.AQ
namespace Go.Gm.AQ
open Go Go.Gm
section
variable {D:List (List Int)} {acc:List Bool} {hb:Heap} {sD sA0 sc rank:AV} {xs:List Int} {od:Nat}
structure MBs (D:List (List Int)) (acc:List Bool) (hb:Heap) (sD sA0 sc:AV) (xs:List Int) (od:Nat):Prop where
 ok:DOk D acc
 hD:Sl hb 5 sD (D.map encR)
 hA:Sl hb 1 sA0 (acc.map encB)
 hc:Sl hb 1 sc (xs.map encI)
 lx:xs.length=D.length
 st:Stab (dl D) (fun a:Nat=>gi acc (a:Int)) D.length (gf xs)
 rd:hb[od]?=some (.cells ⟨[sD,sA0],0,0,false⟩)
structure MKn (D:List (List Int)) (acc:List Bool) (xs rk:List Int) (Ss:List Nat) (D':List (List Int)) (acc':List Bool) (i:Nat):Prop where
 pm:PMs (gf xs) D.length (gf rk) (gf Ss) Ss.length
 po:POw (dl D) (fun a:Nat=>gi acc (a:Int)) (gf xs) (gf Ss) Ss.length (fun a m=>nx D' (a:Int) (m:Int)) (fun a:Nat=>gi acc' (a:Int)) i
 z0:gf Ss 0=0
 il:i<=Ss.length
 s0:0<Ss.length
 ld:D'.length=i
 la:acc'.length=i
 l5:∀r∈D',r.length=5
def NxOk (h:Heap)(hb:Heap)(on:Nat)(nxs:List Int)(states sN sA:AV)(oS oN oA:Nat):Prop:=
 h[on]?=some (.cells ⟨nxs.map I,0,0,false⟩)/\nxs.length=5/\hb.length+2<=on/\(states≠.nils->on≠oS)/\(sN≠.nils->on≠oN)/\(sA≠.nils->on≠oA)
theorem b3D (b:MBs D acc hb sD sA0 sc xs od){ot i on:Nat}{sN sA:AV}{oN oA:Nat}{D':List (List Int)}{acc':List Bool}{Q:AV->Heap->Prop}(hQ:∀h states oS rk Ss nxs,MI D.length hb h rank states sN sA oS oN oA rk Ss D' acc'->MKn D acc xs rk Ss D' acc' i->i<Ss.length->NxOk h hb on nxs states sN sA oS oN oA->PRw (dl D) (gf xs) (gf Ss) Ss.length (gf Ss i) (gf nxs) 5->
   WP (fun p:Nat × Nat=>o9_ p.1 p.2 (.ptr od 0 2 0) (.ptr ot 0 2 0) sc (.ptr hb.length 0 2 0) rank states (I i) (.ptr on 0 5 0) h) Q) :
  ∀(d m:Nat) (h:Heap) (states:AV) (oS:Nat) (rk:List Int) (Ss:List Nat) (nxs:List Int),m+d=5->MI D.length hb h rank states sN sA oS oN oA rk Ss D' acc'->MKn D acc xs rk Ss D' acc' i->i<Ss.length->NxOk h hb on nxs states sN sA oS oN oA->PRw (dl D) (gf xs) (gf Ss) Ss.length (gf Ss i) (gf nxs) m->
   WP (fun p:(Nat × Nat) × Nat=>j3_ p.1.1 p.1.2 p.2 (.ptr od 0 2 0) (.ptr ot 0 2 0) sc (.ptr hb.length 0 2 0) rank states (I i) (.ptr on 0 5 0) (I m) h) Q:=by
 have l1:=b.ok.l1
 have lx:=b.lx
 intro d
 induction d with
 |zero=>
  intro m h states oS rk Ss nxs h1 mi mk hi nk pr
  refine WP.rnd (fun i' j=>u1_ i'.1 i'.2 j (.ptr od 0 2 0) (.ptr ot 0 2 0) sc (.ptr hb.length 0 2 0) rank states (I i) (.ptr on 0 5 0) (I m) h) ?_
  obtain rfl:m=5:=by omega
  simp -implicitDefEqProofs (disch:=first|assumption|omega|(simp only[gL,gA]<;>omega)|fail) only[gC,reduceIte]
  exact WP.lv (hQ h states oS rk Ss nxs mi mk hi nk pr) fun i j=>rfl
 |succ d ih=>
  intro m h states oS rk Ss nxs h1 mi mk hi nk pr
  refine WP.rnd (fun i' j=>u1_ i'.1 i'.2 j (.ptr od 0 2 0) (.ptr ot 0 2 0) sc (.ptr hb.length 0 2 0) rank states (I i) (.ptr on 0 5 0) (I m) h) ?_
  have hm5:m<5:=by omega
  obtain ⟨si,hsi⟩:∃si,gi Ss (i:Int)=si:=⟨_,rfl⟩
  have hsl:si<D.length:=hsi▸mk.pm.lt i hi
  obtain ⟨to,hto⟩:∃to,dl D si m=to:=⟨_,rfl⟩
  have htl:to<D.length:=hto▸dl_lt b.ok hsl hm5
  obtain ⟨v,hv⟩:∃v:Nat,gi xs (to:Int)=v:=⟨(gi xs (to:Int)).toNat,by have:0<=gi xs (to:Int):=(b.st.rng to htl).1; omega⟩
  have hvl:v<D.length:=by
   have:gi xs (to:Int)<D.length:=(b.st.rng to htl).2
   omega
  have key:∀(h:Heap) (states:AV) (oS:Nat) (rk:List Int) (Ss:List Nat),MI D.length hb h rank states sN sA oS oN oA rk Ss D' acc'->MKn D acc xs rk Ss D' acc' i->i<Ss.length->NxOk h hb on nxs states sN sA oS oN oA->PRw (dl D) (gf xs) (gf Ss) Ss.length (gf Ss i) (gf nxs) m->gf Ss i=si->gf rk v≠0->
    WP (fun p:(Nat × Nat) × Nat=>j4_ p.1.1 p.1.2 p.2 (.ptr od 0 2 0) (.ptr ot 0 2 0) sc (.ptr hb.length 0 2 0) rank states (I i) (.ptr on 0 5 0) (I m) (I to) h) Q:=by
   intro h states oS rk Ss mi mk hi nk pr hsi hrk
   refine WP.congr (fun p=>a1p p.1.1 p.1.2 p.2 (.ptr od 0 2 0) (.ptr ot 0 2 0) sc (.ptr hb.length 0 2 0) rank states (I i) (.ptr on 0 5 0) (I m) (I to) h) ?_
   obtain ⟨j,j1,j2,j3⟩:=mk.pm.has hvl hrk
   have j2':gi rk (v:Int)=(j:Int)+1:=j2
   have hcl:=b.hc.ext mi.eb
   have grl:=mi.gr.sl
   have lr:=mi.lr
   have hSl:=mk.pm.le
   obtain ⟨n1,n2,n3,n4,n5,n6⟩:=nk
   have hst:=stP (x:=j) (m:=m) n1
   have hia:=b0w (o:=on) hm5
   have bon:=(List.getElem?_eq_some_iff.1 n1).1
   have hw:h.set on (.cells ⟨(nxs.map I).set m (I j),0,0,false⟩)=h.set on (.cells ⟨(nxs.set m (j:Int)).map I,0,0,false⟩):=by rw[List.map_set]
   rw[hw] at hst
   simp -implicitDefEqProofs (disch:=first|assumption|omega|exact Ext.refl _|(simp only[gL,gA]<;>omega)|fail) only[gC,reduceIte,hcl.idxG,hcl.ld0,encI,hv,grl.idxG,grl.ld0,j2',hia]
   rw[show (j:Int)+1-1=j by omega]
   have f:FrS (fun q=>q=on) h (h.set on (.cells ⟨(nxs.set m (j:Int)).map I,0,0,false⟩)):=⟨by simp,fun p p1 p2=>b2_ fun z=>p1 z.symm⟩
   have hwr:wrAt 1 h h[on]? on m (m+1) 0 [I j]=some (h.set on (.cells ⟨(nxs.set m (j:Int)).map I,0,0,false⟩)):=by
    rw[a3w] at hst; exact hst
   simp -implicitDefEqProofs (disch:=first|assumption|omega|(simp only[gL,gA]<;>omega)|fail) only[gC,reduceIte,hwr]
   refine ih (m+1) _ states oS rk Ss (nxs.set m (j:Int)) (by omega) (mi.frs f n3 n4 n5 n6) mk hi ⟨a4_ bon,by simpa using n2,n3,n4,n5,n6⟩ fun m' hm'=>?_
   rw[show gf (nxs.set m (j:Int))=_ from gset (by omega) _]
   by_cases q:m'=m
   ·subst q
    refine ⟨j,j1,if_pos rfl,?_⟩
    rw[hsi,hto]
    show gf xs (gf Ss j)=gi xs (to:Int)
    rw[hv]; exact j3
   ·simp only[if_neg q]
    exact pr m' (by omega)
  have hgs:=mi.gs.sl
  have rd:=mi.eb.get b.rd
  have hDx:=b.hD.ext mi.eb
  obtain ⟨p,p1,p2⟩:=cellN b.ok hDx (Ext.refl h) hsl hm5
  rw[hto] at p2
  have hcx:=b.hc.ext mi.eb
  have grl:=mi.gr.sl
  have lr:=mi.lr
  have hSl:=mk.pm.le
  by_cases q:gi rk (v:Int)=0
  ·obtain ⟨s',h2,o',a1,mi2,a3,a4⟩:=mi.addS to (by omega)
   have hne:states≠.nils:=fun z=>by
    rw[z] at hgs
    rcases hgs with ⟨_,k⟩|⟨_,_,_,_,_,k,_⟩
    ·have hz:Ss=[]:=by simpa using k
     have:=mk.s0
     rw[hz] at this
     simp at this
    ·cases k
   obtain ⟨h3,w1,mi3,w3⟩:=mi2.setRk hvl ((Ss.length+1:Nat):Int)
   have hcx2:=b.hc.ext mi2.eb
   have grl2:=mi2.gr.sl
   have gsl2:=mi2.gs.sl.lenG
   rw[List.length_append] at gsl2
   simp -implicitDefEqProofs (disch:=first|assumption|omega|exact Ext.refl _|(simp only[gL,gA]<;>omega)|fail) only[gC,reduceIte,rd,hgs.idxG,hgs.ld0,hsi,encN,hDx.idxG,p1,p2,hcx.idxG,hcx.ld0,encI,hv,grl.idxG,grl.ld0,q,a1,hcx2.ld0,gsl2,w1]
   have bon:=(List.getElem?_eq_some_iff.1 nk.1).1
   have l2:=a3.len
   obtain ⟨n1,n2,n3,n4,n5,n6⟩:=nk
   have nk3:NxOk h3 hb on nxs s' sN sA o' oN oA:=by
    refine ⟨?_,n2,n3,fun z=>?_,n5,n6⟩
    ·rw[w3.get (by omega) (by omega),a3.get (fun z=>n4 z.1 z.2) bon]; exact n1
    ·rcases a4 z with ⟨z1,z2⟩|z1
     ·rw[z1]; exact n4 z2
     ·omega
   have hrk:gf (rk.set v ((Ss.length+1:Nat):Int))=up (gf rk) v ((Ss.length:Int)+1):=by
    rw[show gf (rk.set v ((Ss.length+1:Nat):Int))=_ from gset (by omega) _]; rfl
   have hpush:=a8N Ss to
   have hsi':gf (Ss++[to]) i=si:=by
    rw[hpush]; exact (if_neg (by omega)).trans hsi
   refine key h3 s' o' _ _ mi3 ⟨?_,?_,?_,by rw[List.length_append]; omega,by rw[List.length_append]; omega,mk.ld,mk.la,mk.l5⟩ (by rw[List.length_append]; omega) nk3 ?_ hsi' ?_
   ·rw[hrk,hpush,List.length_append]
    exact mk.pm.neu hvl htl hv q
   ·rw[hpush,List.length_append]
    exact mk.po.grow mk.il to
   ·rw[hpush]; exact (if_neg (by have:=mk.s0; omega)).trans mk.z0
   ·have hps:(fun r:Nat=>if r=Ss.length then to else gf Ss r) i=gf Ss i:=if_neg (by omega)
    rw[hpush,List.length_append,hps]
    exact pr.grow to
   ·rw[hrk,up,if_pos rfl]; omega
  ·simp -implicitDefEqProofs (disch:=first|assumption|omega|exact Ext.refl _|(simp only[gL,gA]<;>omega)|fail) only[gC,reduceIte,rd,hgs.idxG,hgs.ld0,hsi,encN,hDx.idxG,p1,p2,hcx.idxG,hcx.ld0,encI,hv,grl.idxG,grl.ld0]
   exact key h states oS rk Ss mi mk hi nk pr hsi q
end
end Go.Gm.AQ
namespace Go.Gm.AQ
open Go Go.Gm
section
variable {D:List (List Int)} {acc:List Bool}
theorem MKn.bis {xs rk:List Int}{Ss:List Nat}{D':List (List Int)}{acc':List Bool}(ok:DOk D acc)(st:Stab (dl D) (fun a:Nat=>gi acc (a:Int)) D.length (gf xs))(k:MKn D acc xs rk Ss D' acc' Ss.length) :
  ∀(w:List Int),(∀m∈w,0<=m/\m<5)->∀a j:Nat,a<D.length->j<Ss.length->gf xs a=gf xs (gf Ss j)->gi acc (goS D a w)=gi acc' (goS D' j w)
 |[],_,a,j,ha,hj,h=>by
  have h1:=st.ac a (gf Ss j) ha (k.pm.lt j hj) h
  exact h1.trans (k.po j hj).1.symm
 |m::w,hm,a,j,ha,hj,h=>by
  have hmm:=hm m (by simp)
  obtain ⟨mn,rfl⟩:∃mn:Nat,m=mn:=⟨m.toNat,by omega⟩
  obtain ⟨j',j1,j2,j3⟩:=(k.po j hj).2 mn (by omega)
  have h1:=st.to a (gf Ss j) ha (k.pm.lt j hj) h mn (by omega)
  have h2:0<=nx D a mn/\nx D a mn<D.length:=ok.to a mn (by omega) (by omega) (by omega) (by omega)
  have e1:nx D a mn=(dl D a mn:Nat):=by rw[dl]; omega
  have ih:=bis ok st k w (fun z hz=>hm z (List.mem_cons_of_mem _ hz)) (dl D a mn) j' (dl_lt ok ha (by omega)) j1 (h1.trans j3.symm)
  show gi acc (goS D (nx D a mn) w)=gi acc' (goS D' (nx D' j mn) w)
  rw[e1,show nx D' (j:Int) (mn:Int)=(j':Int) from j2]
  exact ih
theorem MKn.dok {xs rk:List Int}{Ss:List Nat}{D':List (List Int)}{acc':List Bool}(ok:DOk D acc)(k:MKn D acc xs rk Ss D' acc' Ss.length):DOk D' acc'/\D'.length<=D.length:=by
 have h1:=k.pm.le
 have h2:=k.s0
 have h3:=k.ld
 have l1:=ok.l1
 refine ⟨⟨by omega,by omega,k.la.trans h3.symm,fun s s0 s1=>k.l5 _ (j7_ s0 s1),fun s m s0 s1 m0 m1=>?_⟩,by omega⟩
 obtain ⟨a,rfl⟩:∃a:Nat,s=a:=⟨s.toNat,by omega⟩
 obtain ⟨b,rfl⟩:∃b:Nat,m=b:=⟨m.toNat,by omega⟩
 obtain ⟨j,j1,j2,_⟩:=(k.po a (by omega)).2 b (by omega)
 have:gi (gi D' (a:Int)) (b:Int)=j:=j2
 omega
def MinQ (D:List (List Int))(acc:List Bool)(lo:Nat)(r:AV)(h':Heap):Prop:=
 ∃(D':List (List Int)) (acc':List Bool) (sN sA:AV),r=.agg [sN,sA]/\Gr lo h'.length h' 5 sN (D'.map encR)/\Gr lo h'.length h' 1 sA (acc'.map encB)/\DOk D' acc'/\D'.length<=D.length/\
  ∀w:List Int,(∀m∈w,0<=m/\m<5)->gi acc (goS D 0 w)=gi acc' (goS D' 0 w)
theorem b3E {h0 hb:Heap}{sD sA0 sc rank:AV}{xs:List Int}{od ot:Nat}(b:MBs D acc hb sD sA0 sc xs od)(e0:Ext h0 hb)(hot:h0.length<=ot)(rt:hb[ot]?=some (.cells ⟨[.nils,.nils],0,0,false⟩)) :
  ∀(d i:Nat) (h:Heap) (states sN sA:AV) (oS oN oA:Nat) (rk:List Int) (Ss:List Nat) (D':List (List Int)) (acc':List Bool),i+d=D.length->MI D.length hb h rank states sN sA oS oN oA rk Ss D' acc'->MKn D acc xs rk Ss D' acc' i->
   WP (fun p:Nat × Nat=>j2_ p.1 p.2 (.ptr od 0 2 0) (.ptr ot 0 2 0) sc (.ptr hb.length 0 2 0) rank states (I i) h) fun r h'=>Ext h0 h'/\MinQ D acc h0.length r h':=by
 have l1:=b.ok.l1
 have bt:=(List.getElem?_eq_some_iff.1 rt).1
 intro d
 induction d with
 |zero=>
  intro i h states sN sA oS oN oA rk Ss D' acc' h1 mi mk
  refine WP.rnd (fun i' j=>u2_ i' j (.ptr od 0 2 0) (.ptr ot 0 2 0) sc (.ptr hb.length 0 2 0) rank states (I i) h) ?_
  have hle:=mk.pm.le
  have hil:=mk.il
  obtain rfl:i=Ss.length:=by omega
  have gs:=mi.gs.sl.lenG
  have ro:=mi.ro
  have rt':=mi.eb.get rt
  have b0:=(List.getElem?_eq_some_iff.1 rt').1
  have o1:=mi.gn.sl.one
  have o2:=mi.gn.sl.cells
  have o3:=mi.ga.sl.one
  have o4:=mi.ga.sl.cells
  simp -implicitDefEqProofs (maxSteps:=1000000) (disch:=first|assumption|omega|(simp only[gL]<;>omega)|((repeat (first|exact Ext.refl _|assumption|apply Ext.app|apply Ext.mk|(refine Ext.setr ?_ (by (first|omega|(simp only[gL]<;>omega))) _))); done)|(simp only[gL,gA,gs,ro,rt',o1,o2,o3,o4]<;>omega)|fail) only[gB,setAll,partL,fldV,reduceIte,Nat.reduceAdd,Nat.reduceMul,gs,ro,rt',o1,o2,o3,o4]
  obtain ⟨k1,k2⟩:=mk.dok b.ok
  have l0:=e0.len
  have nl:∀{lo:Nat} {sz:Nat} {s:AV} {xs:List (List AV)} (x:AObj),Gr lo (lo+1) h sz s xs->(s≠.nils->hb.length<=lo/\lo<h.length)->Gr h0.length (h.set ot x).length (h.set ot x) sz s xs:=by
   intro lo sz s xs x g hq
   by_cases q:s=.nils
   ·subst q
    have:=g.isNil
    subst this
    exact Gr.nil ..
   ·have:=hq q
    exact (g.set (.inl (by omega)) _).mono (by omega) (by simp; omega)
  refine WP.ret ⟨(e0.trans mi.eb).setr hot _,D',acc',sN,sA,rfl,nl _ mi.gn fun z=>?_,nl _ mi.ga fun z=>?_,k1,k2,fun w hw=>?_⟩
  ·have:=mi.pn z; omega
  ·have:=mi.pa z; omega
  ·exact mk.bis b.ok b.st w hw 0 0 b.ok.l0 mk.s0 (by rw[mk.z0])
 |succ d ih=>
  intro i h states sN sA oS oN oA rk Ss D' acc' h1 mi mk
  refine WP.rnd (fun i' j=>u2_ i' j (.ptr od 0 2 0) (.ptr ot 0 2 0) sc (.ptr hb.length 0 2 0) rank states (I i) h) ?_
  have hle:=mk.pm.le
  have hil:=mk.il
  have gs:=mi.gs.sl.lenG
  by_cases q:i=Ss.length
  ·subst q
   have ro:=mi.ro
   have rt':=mi.eb.get rt
   have b0:=(List.getElem?_eq_some_iff.1 rt').1
   have o1:=mi.gn.sl.one
   have o2:=mi.gn.sl.cells
   have o3:=mi.ga.sl.one
   have o4:=mi.ga.sl.cells
   simp -implicitDefEqProofs (maxSteps:=1000000) (disch:=first|assumption|omega|(simp only[gL]<;>omega)|((repeat (first|exact Ext.refl _|assumption|apply Ext.app|apply Ext.mk|(refine Ext.setr ?_ (by (first|omega|(simp only[gL]<;>omega))) _))); done)|(simp only[gL,gA,gs,ro,rt',o1,o2,o3,o4]<;>omega)|fail) only[gB,setAll,partL,fldV,reduceIte,Nat.reduceAdd,Nat.reduceMul,gs,ro,rt',o1,o2,o3,o4]
   obtain ⟨k1,k2⟩:=mk.dok b.ok
   have l0:=e0.len
   have nl:∀{lo:Nat} {sz:Nat} {s:AV} {xs:List (List AV)} (x:AObj),Gr lo (lo+1) h sz s xs->(s≠.nils->hb.length<=lo/\lo<h.length)->Gr h0.length (h.set ot x).length (h.set ot x) sz s xs:=by
    intro lo sz s xs x g hq
    by_cases q:s=.nils
    ·subst q
     have:=g.isNil
     subst this
     exact Gr.nil ..
    ·have:=hq q
     exact (g.set (.inl (by omega)) _).mono (by omega) (by simp; omega)
   refine WP.ret ⟨(e0.trans mi.eb).setr hot _,D',acc',sN,sA,rfl,nl _ mi.gn fun z=>?_,nl _ mi.ga fun z=>?_,k1,k2,fun w hw=>?_⟩
   ·have:=mi.pn z; omega
   ·have:=mi.pa z; omega
   ·exact mk.bis b.ok b.st w hw 0 0 b.ok.l0 mk.s0 (by rw[mk.z0])
  ·have hi:i<Ss.length:=by omega
   simp -implicitDefEqProofs (maxSteps:=1000000) (disch:=first|assumption|omega|(simp only[gL]<;>omega)|((repeat (first|exact Ext.refl _|assumption|apply Ext.app|apply Ext.mk|(refine Ext.setr ?_ (by (first|omega|(simp only[gL]<;>omega))) _))); done)|(simp only[gL,gA,gs]<;>omega)|fail) only[gB,setAll,partL,fldV,reduceIte,Nat.reduceAdd,Nat.reduceMul,gs]
   have bl:=mi.bl
   have e1:Ext h (h++[AObj.cells ⟨List.map I [0,0,0,0,0],0,0,false⟩]):=Ext.push _ _
   refine WP.ent (b3D (ot:=ot) (on:=h.length) b (fun h2 states oS rk Ss nxs mi mk hi nk pr=>?_) 5 0 (h++[AObj.cells ⟨List.map I [0,0,0,0,0],0,0,false⟩]) states oS rk Ss [0,0,0,0,0] (by omega) (mi.ext e1) mk hi ⟨by simp,rfl,bl,fun z=>?_,fun z=>?_,fun z=>?_⟩ fun m' hm'=>by omega) fun i=>rfl
   ·refine WP.congr (fun p=>a1r p.1 p.2 (.ptr od 0 2 0) (.ptr ot 0 2 0) sc (.ptr hb.length 0 2 0) rank states (I i) (.ptr h.length 0 5 0) h2) ?_
    obtain ⟨n1,n2,n3,n4,n5,n6⟩:=nk
    have hDl:=mk.ld
    have hAl:=mk.la
    have hle2:=mk.pm.le
    have ro:=mi.ro
    have b0:=(List.getElem?_eq_some_iff.1 ro).1
    obtain ⟨sN2,h3,oN2,q1,q2,q3,q4,mi3⟩:=mi.row n2 (by omega)
    have b1:=(List.getElem?_eq_some_iff.1 q4).1
    have hmk:(nxs.map I).take 5=nxs.map I:=List.take_of_length_le (by simp[n2])
    obtain ⟨h4,hh4⟩:∃h4,h4=h3.set hb.length (.cells ⟨[sN2,sA],0,0,false⟩):=⟨_,rfl⟩
    rw[<-hh4] at mi3
    have ro4:=mi3.ro
    have b4:=(List.getElem?_eq_some_iff.1 ro4).1
    have rd4:=mi3.eb.get b.rd
    have gs4:=mi3.gs.sl
    obtain ⟨si,hsi⟩:∃si,gi Ss (i:Int)=si:=⟨_,rfl⟩
    have hsl:si<D.length:=hsi▸mk.pm.lt i hi
    have hA4:=b.hA.ext mi3.eb
    have la:=b.ok.la
    obtain ⟨bb,hbb⟩:∃bb,gi acc (si:Int)=bb:=⟨_,rfl⟩
    obtain ⟨sA2,h5,oA2,w1,w2,w3,w4,mi5⟩:=mi3.accept bb (by omega)
    have b5:=(List.getElem?_eq_some_iff.1 w4).1
    have hld:rdNAt 5 h2[h.length]? 0 5 0=some (.agg (nxs.map I)):=by
     rw[n1]
     simp only[rdNAt]
     rw[if_pos ⟨by omega,Nat.le_refl _⟩,List.drop_zero,hmk]
    obtain ⟨c0,c1,c2,c3,c4,rfl⟩:∃c0 c1 c2 c3 c4,nxs=[c0,c1,c2,c3,c4]:=by
     match nxs,n2 with
     |[c0,c1,c2,c3,c4],_=>exact ⟨c0,c1,c2,c3,c4,rfl⟩
    simp only[List.map_cons,List.map_nil] at hld q1
    simp -implicitDefEqProofs (maxSteps:=1000000) (disch:=first|assumption|omega|(simp only[gL]<;>omega)|((repeat (first|exact Ext.refl _|assumption|apply Ext.app|apply Ext.mk|(refine Ext.setr ?_ (by (first|omega|(simp only[gL]<;>omega))) _))); done)|(simp only[gL,gA,ro,hld,q1,q4,q2,q3]<;>omega)|fail) only[gB,setAll,partL,fldV,reduceIte,Nat.reduceAdd,Nat.reduceMul,ro,hld,q1,q4,q2,q3]
    rw[<-hh4]
    simp -implicitDefEqProofs (maxSteps:=1000000) (disch:=first|assumption|omega|(simp only[gL]<;>omega)|((repeat (first|exact Ext.refl _|assumption|apply Ext.app|apply Ext.mk|(refine Ext.setr ?_ (by (first|omega|(simp only[gL]<;>omega))) _))); done)|(simp only[gL,gA,ro4,rd4,gs4.idxG,gs4.ld0,hsi,encN,hA4.idxG,hA4.ld0,hbb,encB,w1,w4,w2,w3]<;>omega)|fail) only[gB,setAll,partL,fldV,reduceIte,Nat.reduceAdd,Nat.reduceMul,ro4,rd4,gs4.idxG,gs4.ld0,hsi,encN,hA4.idxG,hA4.ld0,hbb,encB,w1,w4,w2,w3]
    obtain ⟨h6,hh6⟩:∃h6,h6=h5.set hb.length (.cells ⟨[sN2,sA2],0,0,false⟩):=⟨_,rfl⟩
    rw[<-hh6] at mi5 ⊢
    refine WP.congr (fun p=>a1q p.1 p.2 (.ptr od 0 2 0) (.ptr ot 0 2 0) sc (.ptr hb.length 0 2 0) rank states (I i) h6) ?_
    simp -implicitDefEqProofs (maxSteps:=1000000) (disch:=first|assumption|omega|(simp only[gL]<;>omega)|((repeat (first|exact Ext.refl _|assumption|apply Ext.app|apply Ext.mk|(refine Ext.setr ?_ (by (first|omega|(simp only[gL]<;>omega))) _))); done)|(simp only[gL,gA]<;>omega)|fail) only[gB,setAll,partL,fldV,reduceIte,Nat.reduceAdd,Nat.reduceMul]
    refine ih (i+1) h6 states sN2 sA2 oS oN2 oA2 rk Ss (D'++[[c0,c1,c2,c3,c4]]) (acc'++[bb]) (by omega) mi5 ⟨mk.pm,fun a ha=>?_,mk.z0,by omega,mk.s0,by simp[hDl],by simp[hAl],fun r hr=>?_⟩
    ·by_cases z:a=i
     ·subst z
      have z1:gi (acc'++[bb]) (a:Int)=bb:=by
       rw[d9_ (by simp[hAl])]; simp[<-hAl]
      have z2:gi (D'++[[c0,c1,c2,c3,c4]]) (a:Int)=[c0,c1,c2,c3,c4]:=by
       rw[d9_ (by simp[hDl])]; simp[<-hDl]
      refine ⟨z1.trans (by rw[<-hbb,<-hsi]),fun m hm=>?_⟩
      obtain ⟨j,j1,j2,j3⟩:=pr m hm
      refine ⟨j,j1,?_,j3⟩
      show gi (gi (D'++[[c0,c1,c2,c3,c4]]) (a:Int)) (m:Int)=j
      rw[z2]; exact j2
     ·obtain ⟨z1,z2⟩:=mk.po a (by omega)
      have y1:gi (acc'++[bb]) (a:Int)=gi acc' (a:Int):=a1l (by omega) (by omega)
      have y2:gi (D'++[[c0,c1,c2,c3,c4]]) (a:Int)=gi D' (a:Int):=a1l (by omega) (by omega)
      refine ⟨y1.trans z1,fun m hm=>?_⟩
      obtain ⟨j,j1,j2,j3⟩:=z2 m hm
      refine ⟨j,j1,?_,j3⟩
      show gi (gi (D'++[[c0,c1,c2,c3,c4]]) (a:Int)) (m:Int)=j
      rw[y2]; exact j2
    ·rcases List.mem_append.1 hr with z|z
     ·exact mk.l5 r z
     ·obtain rfl:=List.mem_singleton.1 z; rfl
   ·have:=mi.ps z; omega
   ·have:=mi.pn z; omega
   ·have:=mi.pa z; omega
theorem a6F {h:Heap}{sD sA:AV}(ok:DOk D acc)(hD:Sl h 5 sD (D.map encR))(hA:Sl h 1 sA (acc.map encB)) :
  Tot tab c0_ [.agg [sD,sA]] h fun r h'=>Ext h h'/\MinQ D acc h.length r h':=by
 refine WP.tot (fun k=>a2e k _ h) ?_
 have l0:=ok.l0
 have l1:=ok.l1
 obtain ⟨h1,hh1⟩:∃h1,h1=(h++[AObj.cells ⟨[sD,sA],0,0,false⟩])++[AObj.cells ⟨[.nils,.nils],0,0,false⟩]:=⟨_,rfl⟩
 have e1:Ext h h1:=by rw[hh1]; ((repeat (first|exact Ext.refl _|assumption|apply Ext.app|apply Ext.mk|(refine Ext.setr ?_ (by (first|omega|(simp only[gL]<;>omega))) _))))
 have rd:h1[h.length]?=some (.cells ⟨[sD,sA],0,0,false⟩):=by rw[hh1]; simp
 have rt:h1[h.length+1]?=some (.cells ⟨[.nils,.nils],0,0,false⟩):=by rw[hh1]; simp
 simp -implicitDefEqProofs (maxSteps:=1000000) (disch:=first|assumption|omega|(simp only[gL]<;>omega)|((repeat (first|exact Ext.refl _|assumption|apply Ext.app|apply Ext.mk|(refine Ext.setr ?_ (by (first|omega|(simp only[gL]<;>omega))) _))); done)|(simp only[gL,gA,hD.one,hD.cells,hA.one,hA.cells]<;>omega)|fail) only[gB,setAll,partL,fldV,reduceIte,Nat.reduceAdd,Nat.reduceMul,hD.one,hD.cells,hA.one,hA.cells]
 rw[<-hh1]
 refine WP.call (a7Z ok (hD.ext e1) (hA.ext e1)) ?_
 rintro sc h2 ⟨e2,xs,g2,lx,st⟩
 have rd2:=e2.get rd
 have rt2:=e2.get rt
 have hc2:=g2.sl
 have hD2:=(hD.ext e1).ext e2
 have hA2:=(hA.ext e1).ext e2
 obtain ⟨h3,hh3⟩:∃h3,h3=h2++[AObj.cells ⟨[.nils,.nils],0,0,false⟩]:=⟨_,rfl⟩
 have e3:Ext h2 h3:=by rw[hh3]; exact Ext.push _ _
 have l3:h3.length=h2.length+1:=by rw[hh3]; simp
 have ro3:h3[h2.length]?=some (.cells ⟨[.nils,.nils],0,0,false⟩):=by rw[hh3]; simp
 obtain ⟨rank,h4,a4,g4,e4,_,l4⟩:=m7_ (zero:=[AV.int .i64 0]) (sz:=1) (bytes:=8) (n:=(D.length:Int)) h3 (by omega) (by omega) (by omega) rfl rfl
 have hre:List.replicate (D.length:Int).toNat [AV.int .i64 0]=(List.replicate D.length (0:Int)).map encI:=by simp[encI,I]
 rw[hre] at g4
 obtain ⟨h5,hh5⟩:∃h5,h5=h4++[AObj.cells ⟨encN 0,0,0,false⟩]:=⟨_,rfl⟩
 have e5:Ext h4 h5:=by rw[hh5]; exact Ext.push _ _
 have l5:h5.length=h4.length+1:=by rw[hh5]; simp
 have gs5:Gr h4.length (h4.length+1) h5 1 (.sl h4.length 0 1 1 none 0) ([0].map encN):=by
  have:=Gr.lit (h:=h4) (sz:=1) (v:=encN 0) rfl
  rw[a3_] at this
  rw[hh5]; exact this
 have e25:=(e3.trans e4).trans e5
 obtain ⟨v,hv⟩:∃v:Nat,gi xs 0=v:=⟨(gi xs 0).toNat,by have:0<=gi xs ((0:Nat):Int):=(st.rng 0 l0).1; exact (Int.toNat_of_nonneg this).symm⟩
 have hvl:v<D.length:=by
  have:gi xs ((0:Nat):Int)<D.length:=(st.rng 0 l0).2
  have:gi xs 0<D.length:=this
  omega
 have mi5:MI D.length h2 h5 rank (.sl h4.length 0 1 1 none 0) .nils .nils h4.length 0 0 (List.replicate D.length 0) [0] [] []:=by
  refine ⟨e25,(e4.trans e5).get ro3,(g4.ext e5).mono (by omega) (by omega),gs5,Gr.nil ..,Gr.nil ..,fun _=>by omega,fun z=>absurd rfl z,fun z=>absurd rfl z,by simp,by omega⟩
 obtain ⟨h6,w1,mi6,w3⟩:=mi5.setRk hvl 1
 have gr5:=(g4.ext e5).sl
 have hc5:=hc2.ext e25
 have s5:h4++[AObj.cells ⟨[AV.int .i64 0],0,0,false⟩]=h5:=by rw[hh5]; rfl
 have rd3:=e3.get rd2
 have hD3:=hD2.ext e3
 rw[<-hh3]
 simp -implicitDefEqProofs (maxSteps:=1000000) (disch:=first|assumption|omega|(simp only[gL]<;>omega)|((repeat (first|exact Ext.refl _|assumption|apply Ext.app|apply Ext.mk|(refine Ext.setr ?_ (by (first|omega|(simp only[gL]<;>omega))) _))); done)|(simp only[gL,gA,rd3,hD3.lenG,a4]<;>omega)|fail) only[gB,setAll,partL,fldV,reduceIte,Nat.reduceAdd,Nat.reduceMul,rd3,hD3.lenG,a4]
 rw[s5]
 simp -implicitDefEqProofs (maxSteps:=1000000) (disch:=first|assumption|omega|(simp only[gL]<;>omega)|((repeat (first|exact Ext.refl _|assumption|apply Ext.app|apply Ext.mk|(refine Ext.setr ?_ (by (first|omega|(simp only[gL]<;>omega))) _))); done)|(simp only[gL,gA,hc5.idxG,hc5.ld0,hv,encI,gr5.idxG,w1]<;>omega)|fail) only[gB,setAll,partL,fldV,reduceIte,Nat.reduceAdd,Nat.reduceMul,hc5.idxG,hc5.ld0,hv,encI,gr5.idxG,w1]
 have b:MBs D acc h2 sD sA sc xs h.length:=⟨ok,hD2,hA2,hc2,lx,st,rd2⟩
 refine WP.ent (b3E (ot:=h.length+1) b (e1.trans e2) (by omega) rt2 D.length 0 h6 _ _ _ _ _ _ _ _ _ _ (by omega) mi6 ⟨⟨fun j hj=>?_,fun w hw=>?_,?_⟩,fun a ha=>by omega,rfl,by simp,by simp,rfl,rfl,fun r hr=>by simp at hr⟩) fun i=>rfl
 ·simp only[List.length_cons,List.length_nil] at hj
  obtain rfl:j=0:=by omega
  exact l0
 ·rw[show gf ((List.replicate D.length (0:Int)).set v 1)=_ from gset (by simpa using hvl) _]
  by_cases q:w=v
  ·subst q
   exact .inr ⟨0,by simp,by simp,hv⟩
  ·refine .inl ⟨?_,fun j hj=>?_⟩
   ·simp only[if_neg q]
    exact a1J (by omega) (by omega)
   ·simp only[List.length_cons,List.length_nil] at hj
    obtain rfl:j=0:=by omega
    have:gf xs (gf [0] 0)=(v:Int):=hv
    rw[this]; omega
 ·have e:(fun w:Nat=>gf ((List.replicate D.length (0:Int)).set v 1) w-1)=up (fun w:Nat=>gf (List.replicate D.length (0:Int)) w-1) v 0:=by
   funext w
   rw[show gf ((List.replicate D.length (0:Int)).set v 1)=_ from gset (by simpa using hvl) _]
   simp only[up]
   split<;>rfl
  have z:∀x:Nat,x<D.length->gf (List.replicate D.length (0:Int)) x-1 = -1:=fun x hx=>by
   have:gf (List.replicate D.length (0:Int)) x=0:=a1J (by omega) (by omega)
   omega
  rw[e,un_up hvl (Int.le_refl _),if_pos (by have:=z v hvl; omega),b0t z]
  simp
end
end Go.Gm.AQ
namespace Go.Gm.AQ
open Go Go.Gm
def bits (n s:Nat):List Bool:=(List.range n).map fun p=>s.testBit p
theorem a0b (n s:Nat):(bits n s).length=n:=by simp[bits]
theorem a1v {n s p:Nat}(hp:p<n):gi (bits n s) (p:Int)=s.testBit p:=by
 rw[d9_ (by simpa [bits] using hp)]; simp[bits]
def outs (fr:List (Nat × Nat))(t:Nat):List Nat:=(fr.filter fun f=>f.1 == t).map (·.2)
theorem b0B (fr:List (Nat × Nat))(f:Nat × Nat)(t:Nat):outs (fr++[f]) t=outs fr t++if f.1=t then [f.2] else []:=by
 simp only[outs,List.filter_append,List.map_append]
 congr 1
 by_cases q:f.1=t
 ·simp[List.filter,q]
 ·have:(f.1 == t)=false:=by simpa using q
  simp[List.filter,q,this]
theorem a7G (fr:List (Nat × Nat))(t:Nat):(outs fr t).length<=fr.length:=by
 simp only[outs,List.length_map]; exact List.length_filter_le ..
theorem a7H {fr:List (Nat × Nat)}{t q:Nat}:q∈outs fr t↔(t,q)∈fr:=by
 simp only[outs,List.mem_map,List.mem_filter,beq_iff_eq]
 constructor
 ·rintro ⟨⟨a,b⟩,⟨h1,h2⟩,rfl⟩; simp only at h2; rw[<-h2]; exact h1
 ·exact fun h=>⟨(t,q),⟨h,rfl⟩,rfl⟩
def RwI (W:Nat->Prop)(hb:Heap)(q:Nat)(sB:AV)(N:Nat)(X:Nat->List Nat)(h:Heap):Prop:=
 ∃B:List AV,Gr q (q+1) h 1 sB (B.map fun s=>[s])/\B.length=N/\Fam W h 1 (fun t:Nat=>t<N) (fun t=>gi B (t:Int)) (fun t=>(X t).map encN')/\(∀o,W o->hb.length<=o)/\FrS (fun o=>o=q\/hb.length<=o) hb h
def enc1 (s:AV):List AV:=[s]
theorem RwI.get {W:Nat->Prop}{hb h:Heap}{q N:Nat}{sB:AV}{X:Nat->List Nat}(r:RwI W hb q sB N X h){t:Nat}(ht:t<N):∃s,(∀H,Ext h H->ld1 H (elP 1 sB t)=some s)/\idxS 1 sB (I t)=some (elP 1 sB t)/\Sl h 1 s ((X t).map encN'):=by
 obtain ⟨B,g,lB,f,hW,fr⟩:=r
 have sl:Sl h 1 sB (B.map enc1):=g.sl
 exact ⟨gi B t,fun H e=>by rw[sl.ld0 e (by omega) (by omega) (by omega)]; rfl,sl.idxG (by omega) (by omega),f.sl ht⟩
theorem RwI.step {W:Nat->Prop}{hb h:Heap}{q N:Nat}{sB:AV}{X:Nat->List Nat}(r:RwI W hb q sB N X h)(hq:q<hb.length){t:Nat}(ht:t<N)(v:Nat)(hl:(X t).length<=100000) :
  ∃s1 s2 h2 h3,(∀H,Ext h H->ld1 H (elP 1 sB t)=some s1)/\idxS 1 sB (I t)=some (elP 1 sB t)/\apnd 1 8 s1 (.sl h.length 0 1 1 none 0) (h++[AObj.cells ⟨[I v],0,0,false⟩])=some (s2,h2)/\stN 1 h2 (elP 1 sB t) s2=some h3/\
   RwI (fun o=>W o\/h.length<=o) hb q sB N (fun t'=>if t'=t then X t++[v] else X t') h3/\FrS W h h2:=by
 obtain ⟨B,g,lB,f,hW,fr⟩:=r
 have hlb:=fr.len
 have sl:Sl h 1 sB (B.map enc1):=g.sl
 have b1:Sl (h++[AObj.cells ⟨[I v],0,0,false⟩]) 1 (.sl h.length 0 1 1 none 0) [encN' v]:=by
  have:=(Gr.lit (h:=h) (sz:=1) (v:=encN' v) rfl).sl
  rwa [a3_] at this
 have e1:Ext h (h++[AObj.cells ⟨[I v],0,0,false⟩]):=Ext.push _ _
 have f':=f.frs (D:=fun _=>False) (FrS.ofExt e1) fun _ _ _ z=>z
 obtain ⟨s2,h2,k1,k2,k3,k4⟩:=f'.append (bytes:=8) (t:=t) ht b1 (by simp) (by omega) (by omega) (by simp; omega)
 have g2:=(g.ext e1).frs k4 fun o z1 z2 z3=>by have:=hW o z3; omega
 have c2:s2.cells=[s2]:=by
  have:=(k3.sl (t:=t) ht).cells
  simpa using this
 obtain ⟨h3,n1,n2,n3,n4⟩:=g2.write0 (i:=(t:Int)) (v:=s2) (by omega) (by simp; omega) (by rw[c2]; rfl) (by rw[c2]; simp[k2])
 refine ⟨gi B t,s2,h2,h3,fun H e=>by rw[sl.ld0 e (by omega) (by omega) (by omega)]; rfl,sl.idxG (by omega) (by omega),k1,n1,?_,(FrS.ofExt e1).trans k4⟩
 have hlq:=k4.len
 have f3:=k3.frs n3.s (fun o z1 z2 z3=>by
  rcases z2 with z2|z2
  ·have:=hW o z2; omega
  ·simp only[List.length_append] at *; omega)
 refine ⟨B.set t s2,?_,by rw[List.length_set]; exact lB,?_,fun o z=>?_,?_⟩
 ·refine n2.cong ?_
  rw[c2,show ((t:Int)).toNat=t by omega,List.map_set]
 ·refine (f3.mono fun o z1 z2=>?_).congr fun t' ht'=>⟨?_,?_⟩
  ·rcases z2 with z2|z2
   ·exact .inl z2
   ·simp only[List.length_append] at z2; exact .inr (by omega)
  ·show gi (B.set t s2) (t':Int)=if t'=t then s2 else gi B t'
   rw[giset2 (by omega)]
  ·show (if t'=t then X t++[v] else X t').map encN'=if t'=t then (X t).map encN'++[encN' v] else (X t').map encN'
   by_cases qt:t'=t
   ·simp[qt]
   ·rw[if_neg qt,if_neg qt]
 ·rcases z with z|z
  ·exact hW o z
  ·omega
 ·have z1:FrS (fun o=>o=q\/hb.length<=o) h (h++[AObj.cells ⟨[I v],0,0,false⟩]):=FrS.ofExt e1
  exact ((fr.trans z1).trans (k4.mono fun o _ z=>.inr (hW o z))).trans (n3.s.mono fun o _ z=>.inl (by omega))
structure CL (N:Nat) (fr:List (Nat × Nat)) (s:Nat) (bs:List Bool) (L:List Nat):Prop where
 lb:bs.length=N
 lt:∀p∈L,p<N
 tr:∀p∈L,gi bs (p:Int)=true
 me:∀p:Nat,p<N->gi bs (p:Int)=true->p∈L
 rc:∀p∈L,Rch fr s p
 su:∀p:Nat,p<N->s.testBit p=true->gi bs (p:Int)=true
 ct:un N (fun p=>if gi bs (p:Int)=true then 0 else -1)+L.length=N
theorem CL.le {N s:Nat}{fr:List (Nat × Nat)}{bs:List Bool}{L:List Nat}(c:CL N fr s bs L):L.length<=N:=by
 have:=c.ct
 have:=s4_ N fun p=>if gi bs (p:Int)=true then 0 else -1
 omega
theorem CL.add {N s p q:Nat}{fr:List (Nat × Nat)}{bs:List Bool}{L:List Nat}(c:CL N fr s bs L)(hp:p∈L)(hf:(p,q)∈fr)(hq:q<N)(hn:gi bs (q:Int)=false):CL N fr s (bs.set q true) (L++[q]):=by
 have lb:=c.lb
 have hg:∀x:Nat,gi (bs.set q true) (x:Int)=if x=q then true else gi bs (x:Int):=fun x=>giset2 (by omega) true
 refine ⟨by simp[lb],fun x hx=>?_,fun x hx=>?_,fun x hx h=>?_,fun x hx=>?_,fun x hx h=>?_,?_⟩
 ·rcases List.mem_append.1 hx with hx|hx
  ·exact c.lt x hx
  ·rw[List.mem_singleton.1 hx]; exact hq
 ·rw[hg]
  rcases List.mem_append.1 hx with hx|hx
  ·split
   ·rfl
   ·exact c.tr x hx
  ·rw[List.mem_singleton.1 hx,if_pos rfl]
 ·rw[hg] at h
  by_cases z:x=q
  ·rw[z]; simp
  ·rw[if_neg z] at h
   exact List.mem_append_left _ (c.me x hx h)
 ·rcases List.mem_append.1 hx with hx|hx
  ·exact c.rc x hx
  ·rw[List.mem_singleton.1 hx]; exact .on (c.rc p hp) hf
 ·rw[hg]
  split
  ·rfl
  ·exact c.su x hx h
 ·have e:(fun x:Nat=>if gi (bs.set q true) (x:Int)=true then (0:Int) else -1)=up (fun x:Nat=>if gi bs (x:Int)=true then (0:Int) else -1) q 0:=by
   funext x
   rw[hg,up]
   by_cases z:x=q
   ·simp[z]
   ·simp[z]
  rw[e,un_up hq (Int.le_refl _),if_pos (by simp[hn])]
  have:=c.ct
  simp only[List.length_append,List.length_cons,List.length_nil]
  omega
theorem CL.done {N s:Nat}{fr:List (Nat × Nat)}{bs:List Bool}{L:List Nat}(c:CL N fr s bs L)(hf:∀f∈fr,f.2<N)(hs:∀p,s.testBit p=true->p<N)(hd:∀p∈L,∀q,(p,q)∈fr->gi bs (q:Int)=true):bs=bits N (cloF N fr s):=by
 have key:∀p:Nat,p<N->gi bs (p:Int)=(cloF N fr s).testBit p:=by
  intro p hp
  have h1:gi bs (p:Int)=true↔(cloF N fr s).testBit p=true:=by
   rw[a2C hf hs]
   constructor
   ·exact fun h=>c.rc p (c.me p hp h)
   ·intro h
    have:∀x,Rch fr s x->x<N->gi bs (x:Int)=true:=by
     intro x hx
     induction hx with
     |here h=>exact fun hx=>c.su _ hx h
     |@on a b h1 h2 ih=>
      intro hb
      have ha:=a7v hf hs h1
      exact hd a (c.me a ha (ih ha)) b h2
    exact this p h hp
  cases h2:gi bs (p:Int)<;>cases h3:(cloF N fr s).testBit p<;>simp_all
 refine List.ext_getElem (by rw[c.lb,a0b]) fun p h1 h2=>?_
 rw[<-d9_ h1,<-d9_ h2,key p (by have:=c.lb; omega),a1v (by have:=c.lb; omega)]
def onF (bs:List Bool)(i:Nat):List Nat:=(List.range i).filter fun p:Nat=>gi bs (p:Int)
theorem a5v (bs:List Bool)(i:Nat):onF bs (i+1)=onF bs i++if gi bs (i:Int)=true then [i] else []:=by
 simp only[onF,List.range_succ,List.filter_append]
 congr 1
 by_cases q:gi bs (i:Int)=true
 ·simp[List.filter,q]
 ·simp[List.filter,q]
theorem b2O (bs:List Bool)(i:Nat):(onF bs i).length<=i:=Nat.le_trans (List.length_filter_le ..) (by simp)
theorem CL.zero {N s:Nat}{fr:List (Nat × Nat)}:CL N fr s (bits N s) (onF (bits N s) N):=by
 refine ⟨a0b ..,fun p hp=>?_,fun p hp=>?_,fun p h1 h2=>?_,fun p hp=>?_,fun p h1 h2=>by rw[a1v h1]; exact h2,?_⟩
 ·have:=(List.mem_filter.1 hp).1; simpa using this
 ·exact (List.mem_filter.1 hp).2
 ·exact List.mem_filter.2 ⟨by simpa using h1,h2⟩
 ·obtain ⟨h1,h2⟩:=List.mem_filter.1 hp
  have h1:p<N:=by simpa using h1
  rw[a1v h1] at h2
  exact .here h2
 ·have:∀n,un n (fun p=>if gi (bits N s) (p:Int)=true then 0 else -1)+(onF (bits N s) n).length=n:=by
   intro n
   induction n with
   |zero=>rfl
   |succ n ih=>
    rw[a5v,List.length_append]
    show un n _+(if (if gi (bits N s) (n:Int)=true then (0:Int) else -1)<0 then 1 else 0)+_=_
    by_cases q:gi (bits N s) (n:Int)=true
    ·simp only[if_pos q]; simp; omega
    ·simp only[if_neg q]; simp; omega
  exact this N
end Go.Gm.AQ
namespace Go.Gm.AQ
open Go Go.Gm
structure NfV (h:Heap) (nf:NF) (sS sF:AV):Prop where
 s:Sl h 3 sS (nf.st.map encS)
 f:Sl h 2 sF (nf.fr.map encF)
 ok:NfOk nf
 n0:nf.n<=1000
 ls:nf.st.length<=100000
 lf:nf.fr.length<=100000
 sv:∀x∈nf.st,x.2.2<2 ^ 62
theorem NfV.ext {h h':Heap}{nf:NF}{sS sF:AV}(v:NfV h nf sS sF)(e:Ext h h'):NfV h' nf sS sF:=⟨v.s.ext e,v.f.ext e,v.ok,v.n0,v.ls,v.lf,v.sv⟩
abbrev nfC (nf:NF)(sS sF:AV):List AV:=[I nf.n,I nf.s,I nf.e,sS,sF]
section
variable {nf:NF} {sS sF:AV}
theorem a6C {W:Nat->Prop}{hb h h':Heap}{q:Nat}{sB:AV}(r:RwI W hb q sB nf.n (outs nf.fr) h){D:Nat->Prop}(f:FrS D h h')(hd:∀o,o<h.length->D o->o≠q/\o<hb.length)(hq:q<hb.length) :
  ∀t,t<nf.n->∃s,ld1 h' (elP 1 sB t)=some s/\idxS 1 sB (I t)=some (elP 1 sB t)/\Sl h' 1 s ((outs nf.fr t).map encN'):=by
 intro t ht
 obtain ⟨B,g,lB,fm,hW,fr⟩:=r
 have g':=g.frs f fun o z1 z2 z3=>by have:=fr.len; have:=hd o (by omega) z3; omega
 have sl:Sl h' 1 sB (B.map enc1):=g'.sl
 have fm':=fm.frs f fun o z1 z2 z3=>by have:=hd o z1 z3; have:=hW o z2; omega
 exact ⟨gi B t,by rw[sl.ld0 (Ext.refl _) (by omega) (by omega) (by omega)]; rfl,sl.idxG (by omega) (by omega),fm'.sl ht⟩
theorem b0C {W2 : Nat → Prop} {hb h2 hr : Heap} {oo orr i p s : Nat} {out rows : AV} (ok : NfOk nf) (hn : nf.n ≤ 1000) (hlf : nf.fr.length ≤ 100000) (hs : ∀ q, s.testBit q = true → q < nf.n)
    (rw0 : RwI W2 h2 orr rows nf.n (outs nf.fr) hr) (e2 : Ext hb h2) (ho2 : oo < h2.length ∧ oo ≠ orr ∧ orr < h2.length) {l0 : AV} {ol0 : Nat} (hl0 : l0 ≠ .nils → ol0 < h2.length ∧ ol0 ≠ orr) {Q : AV → Heap → Prop}
    (hQ : ∀ h bs L l ol, FrS (fun o => o = oo ∨ (l0 ≠ .nils ∧ o = ol0) ∨ hr.length ≤ o) hr h → Gr oo (oo + 1) h 1 out (bs.map encB) → Gr ol (ol + 1) h 1 l (L.map encN') → (l ≠ .nils → ((l0 ≠ .nils ∧ ol = ol0) ∨ hr.length ≤ ol) ∧ ol < h.length ∧ ol ≠ oo) → CL nf.n nf.fr s bs L → i < L.length → L[i]? = some p → (∀ q, (p, q) ∈ nf.fr → gi bs (q : Int) = true) → (∀ (k : Nat) x, k < i → L[k]? = some x → ∀ q, (x, q) ∈ nf.fr → gi bs (q : Int) = true) →
      WP (fun p : Nat × Nat => r6_ p.1 p.2 out l rows (I i) h) Q) :
    ∀ (d k : Nat) (h : Heap) (bs : List Bool) (L : List Nat) (l : AV) (ol : Nat), k + d = (outs nf.fr p).length → FrS (fun o => o = oo ∨ (l0 ≠ .nils ∧ o = ol0) ∨ hr.length ≤ o) hr h → Gr oo (oo + 1) h 1 out (bs.map encB) → Gr ol (ol + 1) h 1 l (L.map encN') → (l ≠ .nils → ((l0 ≠ .nils ∧ ol = ol0) ∨ hr.length ≤ ol) ∧ ol < h.length ∧ ol ≠ oo) → CL nf.n nf.fr s bs L → L[i]? = some p →
      (∀ q ∈ (outs nf.fr p).take k, gi bs (q : Int) = true) → (∀ (k : Nat) x, k < i → L[k]? = some x → ∀ q, (x, q) ∈ nf.fr → gi bs (q : Int) = true) →
      WP (fun p : (Nat × Nat) × Nat => g8_ p.1.1 p.1.2 p.2 out l rows (I i) (I k) h) Q := by
  have hrl := (show FrS _ h2 hr by obtain ⟨B, _, _, _, _, fr⟩ := rw0; exact fr).len
  intro d
  induction d with
  | zero =>
    intro k h bs L l ol hk f go gl lh cl hp hd hold
    refine WP.rnd (fun i' j => v8_ i'.1 i'.2 j out l rows (I i) (I k) h) ?_
    have hiL := (List.getElem?_eq_some_iff.1 hp).1
    have hpn := cl.lt p (List.mem_of_getElem? hp)
    have gp : gi L (i : Int) = p := by rw [d9_ hiL]; rw [List.getElem?_eq_getElem hiL] at hp; injection hp
    obtain ⟨sr, r1, r2, r3⟩ := a6C rw0 f (fun o z1 z2 => by
      rcases z2 with z2 | z2 | z2
      · exact ⟨by omega, by omega⟩
      · have := hl0 z2.1; omega
      · omega) ho2.2.2 p hpn
    have hle := cl.le
    have r4 := r3.lenG
    rw [List.take_of_length_le (by omega)] at hd
    simp -implicitDefEqProofs (disch := first | assumption | omega | exact Ext.refl _ | (simp only [gL, gA] <;> omega) | fail) only [gC, reduceIte, Nat.reduceAdd, Nat.reduceMul, gl.sl.idxG, gl.sl.ld0, gp, encN', r1, r2, r4]
    exact WP.lv (hQ h bs L l ol f go gl lh cl hiL hp (fun q hq => hd q (a7H.2 hq)) hold) fun i j => rfl
  | succ d ih =>
    intro k h bs L l ol hk f go gl lh cl hp hd hold
    refine WP.rnd (fun i' j => v8_ i'.1 i'.2 j out l rows (I i) (I k) h) ?_
    have hiL := (List.getElem?_eq_some_iff.1 hp).1
    have hpm := List.mem_of_getElem? hp
    have hpn := cl.lt p hpm
    have gp : gi L (i : Int) = p := by rw [d9_ hiL]; rw [List.getElem?_eq_getElem hiL] at hp; injection hp
    obtain ⟨sr, r1, r2, r3⟩ := a6C rw0 f (fun o z1 z2 => by
      rcases z2 with z2 | z2 | z2
      · exact ⟨by omega, by omega⟩
      · have := hl0 z2.1; omega
      · omega) ho2.2.2 p hpn
    have hle := cl.le
    have r4 := r3.lenG
    have hol := a7G nf.fr p
    obtain ⟨q, hq⟩ : ∃ q, (outs nf.fr p)[k]? = some q := ⟨(outs nf.fr p)[k], List.getElem?_eq_getElem (by omega)⟩
    have gq : gi (outs nf.fr p) (k : Int) = q := by rw [d9_ (by omega)]; rw [List.getElem?_eq_getElem (by omega)] at hq; injection hq
    have hqf := a7H.1 (List.mem_of_getElem? hq)
    have hqn : q < nf.n := (ok.fr _ hqf).2
    have lb := cl.lb
    have htk : (outs nf.fr p).take (k + 1) = (outs nf.fr p).take k ++ [q] := a4K hq
    obtain ⟨b, hb'⟩ : ∃ b, gi bs (q : Int) = b := ⟨_, rfl⟩
    cases b with
    | true =>
      simp -implicitDefEqProofs (disch := first | assumption | omega | exact Ext.refl _ | (simp only [gL, gA] <;> omega) | fail) only [gC, reduceIte, Nat.reduceAdd, Nat.reduceMul, gl.sl.idxG, gl.sl.ld0, gp, encN', r1, r2, r4, r3.idxG, r3.ld0, gq, go.sl.idxG, go.sl.ld0, hb', encB]
      refine ih (k + 1) h bs L l ol (by omega) f go gl lh cl hp (fun x hx => ?_) hold
      rw [htk] at hx
      rcases List.mem_append.1 hx with hx | hx
      · exact hd x hx
      · rw [List.mem_singleton.1 hx]; exact hb'
    | false =>
      have hlne : l ≠ .nils := gl.nnil (by intro z; have : L = [] := by simpa using z
                                           rw [this] at hp; simp at hp)
      obtain ⟨h3, w1, w2, w3, w4⟩ := go.write0 (i := (q : Int)) (v := .bool true) (by omega) (by simp; omega) rfl rfl
      have f3 : FrS (fun o => o = oo) h h3 := w3.s.mono fun o z1 z2 => by omega
      have gl3 := k4_ gl f3 fun z => (lh z).2.2
      have lit := Gr.lit (h := h3) (sz := 1) (v := encN' q) rfl
      have e1 : Ext h3 (mkObj h3 (encN' q)) := Ext.push _ _
      rw [a3_] at lit e1
      have hll : (h3 ++ [AObj.cells ⟨encN' q, 0, 0, false⟩]).length = h3.length + 1 := by simp
      obtain ⟨s', h4, o', a1, a2, a3, a4, a5⟩ := Gr.appQ (bytes := 8) (gl3.ext e1) (fun z => by have := lh z; omega) lit.sl (by omega) (by omega) (by simp; omega)
      have f4 := (FrS.ofExt (D := fun x => l ≠ .nils ∧ x = ol) e1).trans a4
      have ho' : o' = ol := a5 hlne
      subst ho'
      have lh' := lh hlne
      have hh1 := f.len
      have hh4 := f4.len
      have fD : FrS (fun o => o = oo ∨ (l0 ≠ .nils ∧ o = ol0) ∨ hr.length ≤ o) hr h4 := by
        refine ⟨by omega, fun o z1 z2 => ?_⟩
        rw [f4.get (fun z => ?_) (by omega), f3.get (fun z => z1 (.inl z)) (by omega)]
        · exact f.get z1 z2
        · rcases lh'.1 with y | y
          · exact z1 (.inr (.inl ⟨y.1, by rw [z.2]; exact y.2⟩))
          · exact z1 (.inr (.inr (by rw [z.2]; exact y)))
      have go4 := k4_ w2 f4 fun _ z => lh'.2.2 z.2.symm
      simp only [encN'] at a1
      have r3' := r3
      have goe : Gr oo (oo + 1) h4 1 out ((bs.set q true).map encB) := go4.cong (by rw [List.map_set]; rfl)
      have hgs : ∀ x : Nat, gi (bs.set q true) (x : Int) = if x = q then true else gi bs (x : Int) := fun x => giset2 (by omega) true
      simp -implicitDefEqProofs (disch := first | assumption | omega | exact Ext.refl _ | (simp only [gL, gA] <;> omega) | fail) only [gC, reduceIte, Nat.reduceAdd, Nat.reduceMul, gl.sl.idxG, gl.sl.ld0, gp, encN', r1, r2, r4, r3.idxG, r3.ld0, gq, go.sl.idxG, go.sl.ld0, hb', encB, w1, a1]
      refine ih (k + 1) h4 (bs.set q true) (L ++ [q]) s' o' (by omega) fD goe (a2.cong (by simp [encN'])) (fun z => ⟨lh'.1, (a3 z).2, lh'.2.2⟩) (cl.add hpm hqf hqn hb') (v5_ hp) (fun x hx => ?_) fun k' x hk' hx y hy => ?_
      · rw [htk] at hx
        rw [hgs]
        rcases List.mem_append.1 hx with hx | hx
        · split
          · rfl
          · exact hd x hx
        · rw [List.mem_singleton.1 hx, if_pos rfl]
      · rw [List.getElem?_append_left (by omega)] at hx
        rw [hgs]
        split
        · rfl
        · exact hold k' x hk' hx y hy
end
end Go.Gm.AQ
namespace Go.Gm.AQ
open Go Go.Gm
section
variable {nf:NF} {sS sF:AV}
theorem b0D {W2:Nat->Prop}{hb h2 hr:Heap}{oo orr s:Nat}{out rows:AV}(ok:NfOk nf)(hn:nf.n<=1000)(hlf:nf.fr.length<=100000)(hs:∀q,s.testBit q=true->q<nf.n)(rw0:RwI W2 h2 orr rows nf.n (outs nf.fr) hr)(e2:Ext hb h2)(ho2:oo<h2.length/\oo≠orr/\orr<h2.length){l0:AV}{ol0:Nat}(hl0:l0≠.nils->ol0<h2.length/\ol0≠orr){Q:AV->Heap->Prop}(hQ:∀h,FrS (fun o=>o=oo\/(l0≠.nils/\o=ol0)\/hr.length<=o) hr h->Gr oo (oo+1) h 1 out ((bits nf.n (cloF nf.n nf.fr s)).map encB)->Q out h) :
  ∀(d i:Nat) (h:Heap) (bs:List Bool) (L:List Nat) (l:AV) (ol:Nat),i+d=nf.n->i<=L.length->FrS (fun o=>o=oo\/(l0≠.nils/\o=ol0)\/hr.length<=o) hr h->Gr oo (oo+1) h 1 out (bs.map encB)->Gr ol (ol+1) h 1 l (L.map encN')->(l≠.nils->((l0≠.nils/\ol=ol0)\/hr.length<=ol)/\ol<h.length/\ol≠oo)->CL nf.n nf.fr s bs L->
   (∀(k:Nat) x,k<i->L[k]?=some x->∀q,(x,q)∈nf.fr->gi bs (q:Int)=true)->
   WP (fun p:Nat × Nat=>l1_ p.1 p.2 out l rows (I i) h) Q:=by
 have fin:∀(i:Nat) (h:Heap) (bs:List Bool) (L:List Nat) (l:AV) (ol:Nat),i=L.length->FrS (fun o=>o=oo\/(l0≠.nils/\o=ol0)\/hr.length<=o) hr h->Gr oo (oo+1) h 1 out (bs.map encB)->CL nf.n nf.fr s bs L->(∀(k:Nat) x,k<i->L[k]?=some x->∀q,(x,q)∈nf.fr->gi bs (q:Int)=true)->Q out h:=by
  intro i h bs L l ol hi f go cl hd
  have:=cl.done (fun f hf=>(ok.fr f hf).2) hs fun p hp q hq=>by
   obtain ⟨k,hk⟩:=a4O hp
   exact hd k p (by have:=(List.getElem?_eq_some_iff.1 hk).1; omega) hk q hq
  rw[this] at go
  exact hQ h f go
 intro d
 induction d with
 |zero=>
  intro i h bs L l ol hi hiL f go gl lh cl hd
  refine WP.rnd (fun i' j=>v9_ i' j out l rows (I i) h) ?_
  have hle:=cl.le
  have hli:i=L.length:=by omega
  simp -implicitDefEqProofs (disch:=first|assumption|omega|(simp only[gL,gA]<;>omega)|fail) only[gC,reduceIte,gl.sl.lenG]
  exact WP.ret (fin i h bs L l ol hli f go cl hd)
 |succ d ih=>
  intro i h bs L l ol hi hiL f go gl lh cl hd
  refine WP.rnd (fun i' j=>v9_ i' j out l rows (I i) h) ?_
  have hle:=cl.le
  by_cases q:i=L.length
  ·simp -implicitDefEqProofs (disch:=first|assumption|omega|(simp only[gL,gA]<;>omega)|fail) only[gC,reduceIte,gl.sl.lenG]
   exact WP.ret (fin i h bs L l ol q f go cl hd)
  ·obtain ⟨p,hp⟩:∃p,L[i]?=some p:=⟨L[i],List.getElem?_eq_getElem (by omega)⟩
   simp -implicitDefEqProofs (disch:=first|assumption|omega|(simp only[gL,gA]<;>omega)|fail) only[gC,reduceIte,gl.sl.lenG]
   refine WP.ent (b0C ok hn hlf hs rw0 e2 ho2 hl0 (fun h' bs' L' l' ol' f' go' gl' lh' cl' hi' hp' hd' hold'=>?_) (outs nf.fr p).length 0 h bs L l ol (by omega) f go gl lh cl hp (fun q hq=>by simp at hq) hd) fun i=>rfl
   refine WP.congr (fun p=>a1V p.1 p.2 out l' rows (I i) h') ?_
   have:=cl'.le
   simp -implicitDefEqProofs (disch:=first|assumption|omega|(simp only[gL,gA]<;>omega)|fail) only[gC,reduceIte]
   refine ih (i+1) h' bs' L' l' ol' (by omega) hi' f' go' gl' lh' cl' fun k x hk hx y hy=>?_
   by_cases z:k=i
   ·subst z
    rw[hp'] at hx
    injection hx with hx
    subst hx
    exact hd' y hy
   ·exact hold' k x (by omega) hx y hy
theorem b0E {hb h2:Heap}{on orr:Nat}{out l rows:AV}(v:NfV hb nf sS sF)(e2:Ext hb h2)(ho2:orr<h2.length)(hor:hb.length<=orr)(rn:hb[on]?=some (.cells ⟨nfC nf sS sF,0,0,false⟩)){Q:AV->Heap->Prop}(hQ:∀h W,RwI W h2 orr rows nf.n (outs nf.fr) h->WP (fun k:Nat=>r5_ k out l rows h) Q) :
  ∀(d i:Nat) (h:Heap) (W:Nat->Prop),i+d=nf.fr.length->RwI W h2 orr rows nf.n (outs (nf.fr.take i)) h->
   WP (fun p:Nat × Nat=>l0_ p.1 p.2 (.ptr on 0 5 0) out l rows (I i) h) Q:=by
 have ok:=v.ok
 have hlf:=v.lf
 intro d
 induction d with
 |zero=>
  intro i h W hi r
  refine WP.rnd (fun i' j=>w0_ i' j (.ptr on 0 5 0) out l rows (I i) h) ?_
  have eh:Ext hb h:=by
   obtain ⟨B,_,_,_,_,fr⟩:=r
   exact fr.ext e2 fun o z1 z2=>by have:=e2.len; omega
  have rn1:=eh.get rn
  have sl:=(v.ext eh).f.lenG
  rw[List.take_of_length_le (by omega)] at r
  simp -implicitDefEqProofs (disch:=first|assumption|omega|(simp only[gL,gA]<;>omega)|fail) only[gC,reduceIte,rn1,sl]
  exact WP.lv (hQ h W r) fun i j=>rfl
 |succ d ih=>
  intro i h W hi r
  refine WP.rnd (fun i' j=>w0_ i' j (.ptr on 0 5 0) out l rows (I i) h) ?_
  have frr:FrS (fun o=>o=orr\/h2.length<=o) h2 h:=by obtain ⟨B,_,_,_,_,fr⟩:=r; exact fr
  have eh:Ext hb h:=frr.ext e2 fun o z1 z2=>by have:=e2.len; omega
  have rn1:=eh.get rn
  have sf:=(v.ext eh).f
  have sl:=sf.lenG
  obtain ⟨f,hf⟩:∃f,nf.fr[i]?=some f:=⟨nf.fr[i],List.getElem?_eq_getElem (by omega)⟩
  have gf':gi nf.fr (i:Int)=f:=by rw[d9_ (by omega)]; rw[List.getElem?_eq_getElem (by omega)] at hf; injection hf
  obtain ⟨f1,f2⟩:=ok.fr f (List.mem_of_getElem? hf)
  obtain ⟨h3,hh3⟩:∃h3,h3=((h++[AObj.cells ⟨[I 0,I 0],0,0,false⟩]).set h.length (.cells ⟨[I f.1,I f.2],0,0,false⟩)):=⟨_,rfl⟩
  have e3:Ext h h3:=by rw[hh3]; ((repeat (first|exact Ext.refl _|assumption|apply Ext.app|apply Ext.mk|(refine Ext.setr ?_ (by (first|omega|(simp only[gL]<;>omega))) _))))
  have r3:h3[h.length]?=some (.cells ⟨[I f.1,I f.2],0,0,false⟩):=by rw[hh3]; exact a4_ (by simp)
  have l3:h3.length=h.length+1:=by rw[hh3]; simp
  have hlen:=frr.len
  have rr3:RwI (fun o=>W o/\o<h.length) h2 orr rows nf.n (outs (nf.fr.take i)) h3:=by
   obtain ⟨B,g,lB,fm,hW,fr⟩:=r
   exact ⟨B,g.ext e3,lB,(fm.mono fun o z1 z2=>⟨z2,z1⟩).frs (D:=fun _=>False) (FrS.ofExt e3) fun _ _ _ z=>z,fun o z=>hW o z.1,fr.trans (FrS.ofExt e3)⟩
  have hol:=a7G (nf.fr.take i) f.1
  rw[List.length_take] at hol
  obtain ⟨s1,s2,h4,h5,k1,k2,k3,k4,k5,k6⟩:=rr3.step ho2 f1 f.2 (by omega)
  rw[l3] at k3
  have k1':=k1 h3 (Ext.refl _)
  have b5:=(List.getElem?_eq_some_iff.1 r3).1
  have r4:h4[h.length]?=some (.cells ⟨[I f.1,I f.2],0,0,false⟩):=by
   rw[k6.get (fun z=>by omega) b5]; exact r3
  have i0:idxA 2 1 (.ptr h.length 0 2 0) (.int .i64 0)=some (.ptr h.length 0 1 0):=by simp[idxA]
  have i1:idxA 2 1 (.ptr h.length 0 2 0) (.int .i64 1)=some (.ptr h.length 1 2 0):=by simp[idxA]
  have k4':stN 1 h4 (elP 1 rows f.1) s2=some h5:=k4
  simp -implicitDefEqProofs (disch:=first|assumption|omega|exact Ext.refl _|(simp only[gL,gA]<;>omega)|fail) only[gC,reduceIte,rn1,sl,sf.idxG,sf.ldN,gf',encF,i0,i1]
  rw[show AV.int .i64 0=I 0 from rfl,<-hh3]
  simp -implicitDefEqProofs (disch:=first|assumption|omega|(simp only[gL,gA]<;>omega)|fail) only[gC,reduceIte,r3,k2,k1',k3,r4,k4']
  refine ih (i+1) h5 (fun o=>(W o/\o<h.length)\/h3.length<=o) (by omega) ?_
  have e:(fun t'=>if t'=f.1 then outs (nf.fr.take i) f.1++[f.2] else outs (nf.fr.take i) t')=outs (nf.fr.take (i+1)):=by
   funext t
   rw[a4K hf,b0B]
   by_cases z:t=f.1
   ·rw[if_pos z,if_pos z.symm,z]
   ·rw[if_neg z,if_neg (fun y=>z y.symm),List.append_nil]
  rw[e] at k5
  exact k5
theorem b0F {hb h1:Heap}{on oo s:Nat}{out:AV}(v:NfV hb nf sS sF)(e1:Ext hb h1)(hoo:hb.length<=oo/\oo<h1.length)(rn:hb[on]?=some (.cells ⟨nfC nf sS sF,0,0,false⟩))(go:Gr oo (oo+1) h1 1 out ((bits nf.n s).map encB))(hs:∀q,s.testBit q=true->q<nf.n) :
  ∀(d i:Nat) (h:Heap) (l:AV),i+d=nf.n->Ext h1 h->Gr h1.length h.length h 1 l ((onF (bits nf.n s) i).map encN')->
   WP (fun p:Nat × Nat=>g7_ p.1 p.2 (.ptr on 0 5 0) out l (I i) h) fun r h'=>Ext hb h'/\Gr hb.length h'.length h' 1 r ((bits nf.n (cloF nf.n nf.fr s)).map encB):=by
 have hn:=v.n0
 have lb:=a0b nf.n s
 intro d
 induction d with
 |zero=>
  intro i h l hi e gl
  refine WP.rnd (fun i' j=>w1_ i' j (.ptr on 0 5 0) out l (I i) h) ?_
  have goh:=go.ext e
  have l1:=e1.len
  have l2:=e.len
  obtain rfl:i=nf.n:=by omega
  simp -implicitDefEqProofs (disch:=first|assumption|omega|(simp only[gL,gA]<;>omega)|fail) only[gC,reduceIte,goh.sl.lenG,lb]
  refine WP.lv (WP.congr (fun k:Nat=>a1X k (.ptr on 0 5 0) out l h) ?_) fun i j=>rfl
  have rn1:=(e1.trans e).get rn
  obtain ⟨s2,h2,a2,g2,e2,_,l3⟩:=m7_ (zero:=[AV.nils]) (sz:=1) (bytes:=24) (n:=(nf.n:Int)) h (by omega) (by omega) (by omega) rfl rfl
  have r0:RwI (fun o=>h2.length<=o) h2 h.length s2 nf.n (outs (nf.fr.take 0)) h2:=by
   refine ⟨List.replicate nf.n .nils,g2.cong (by simp),by simp,Fam.nil _ _ _ fun t ht=>⟨a1J (by omega) (by omega),by simp[outs]⟩,fun o z=>z,FrS.refl _ _⟩
  simp -implicitDefEqProofs (disch:=first|assumption|omega|(simp only[gL,gA]<;>omega)|fail) only[gC,reduceIte,rn1,a2]
  refine WP.ent (b0E v ((e1.trans e).trans e2) (by omega) (by omega) rn (fun h3 W3 r3=>?_) nf.fr.length 0 h2 _ (by omega) r0) fun i=>rfl
  refine WP.congr (fun k:Nat=>a1W k out l s2 h3) ?_
  obtain ⟨ol,g1,g3⟩:=gl.point
  have fr3:FrS (fun o=>o=h.length\/h2.length<=o) h2 h3:=by obtain ⟨B,_,_,_,_,fr⟩:=r3; exact fr
  have l4:=fr3.len
  have go3:=(goh.ext e2).frs fr3 fun o z1 z2 z3=>by omega
  have gl3:=k4_ (g3.ext e2) fr3 fun z1 z2=>by have:=g1 z1; omega
  have eh3:Ext hb h3:=fr3.ext ((e1.trans e).trans e2) fun o z1 z2=>by omega
  refine WP.ent (b0D v.ok hn v.lf hs r3 ((e1.trans e).trans e2) ⟨by omega,by omega,by omega⟩ (l0:=l) (ol0:=ol) (fun z=>by have:=g1 z; omega) (fun h4 f4 g4=>⟨f4.ext eh3 fun o z1 z2=>?_,?_⟩) nf.n 0 h3 (bits nf.n s) (onF (bits nf.n s) nf.n) l ol (by omega) (by omega) (FrS.refl _ _) go3 gl3 (fun z=>by have:=g1 z; exact ⟨.inl ⟨z,rfl⟩,by omega,by omega⟩) CL.zero fun k x hk=>by omega) fun i=>rfl
  ·rcases z2 with z2|z2|z2
   ·omega
   ·have:=g1 z2.1; omega
   ·omega
  ·have:=f4.len
   exact (g4.low _ (Nat.le_refl _)).mono hoo.1 (Nat.le_refl _)
 |succ d ih=>
  intro i h l hi e gl
  refine WP.rnd (fun i' j=>w1_ i' j (.ptr on 0 5 0) out l (I i) h) ?_
  have goh:=go.ext e
  have l2:=e.len
  have hol:=b2O (bits nf.n s) i
  obtain ⟨b,hb'⟩:∃b,gi (bits nf.n s) (i:Int)=b:=⟨_,rfl⟩
  cases b with
  |true=>
   obtain ⟨s',h',q1,q2,q3⟩:=Gr.append1 (bytes:=8) gl (v:=encN' i) rfl (by omega) (by omega) (by simp; omega) (by omega) (Nat.le_refl _)
   rw[a3_] at q1
   simp only[encN'] at q1
   simp -implicitDefEqProofs (disch:=first|assumption|omega|exact Ext.refl _|(simp only[gL,gA]<;>omega)|fail) only[gC,reduceIte,goh.sl.lenG,lb,goh.sl.idxG,goh.sl.ld0,hb',encB,q1]
   refine ih (i+1) h' s' (by omega) (q3.ext e (Nat.le_refl _)) (q2.cong ?_)
   rw[a5v,if_pos hb',List.map_append]; rfl
  |false=>
   simp -implicitDefEqProofs (disch:=first|assumption|omega|exact Ext.refl _|(simp only[gL,gA]<;>omega)|fail) only[gC,reduceIte,goh.sl.lenG,lb,goh.sl.idxG,goh.sl.ld0,hb',encB]
   refine ih (i+1) h l (by omega) e (gl.cong ?_)
   rw[a5v,if_neg (by rw[hb']; simp),List.append_nil]
theorem a4W {h:Heap}{is:AV}{s:Nat}(v:NfV h nf sS sF)(hi:Sl h 1 is ((bits nf.n s).map encB))(hs:∀q,s.testBit q=true->q<nf.n) :
  Tot tab b1_ [.agg (nfC nf sS sF),is] h fun r h'=>Ext h h'/\Gr h.length h'.length h' 1 r ((bits nf.n (cloF nf.n nf.fr s)).map encB):=by
 refine WP.tot (fun k=>a2Q k _ _ h) ?_
 have hn:=v.n0
 have lb:=a0b nf.n s
 have ss:=v.s.one
 have sf:=v.f.one
 obtain ⟨h1,hh1⟩:∃h1,h1=h++[AObj.cells ⟨nfC nf sS sF,0,0,false⟩]:=⟨_,rfl⟩
 have e1:Ext h h1:=by rw[hh1]; exact Ext.push _ _
 have l1:h1.length=h.length+1:=by rw[hh1]; simp
 have rn:h1[h.length]?=some (.cells ⟨nfC nf sS sF,0,0,false⟩):=by rw[hh1]; simp
 have e2:Ext h1 (mkObj h1 []):=Ext.push _ _
 have ge:=Gr.empty h1 1
 rw[a3_] at e2 ge
 have ll:(h1++[AObj.cells ⟨[],0,0,false⟩]).length=h1.length+1:=by simp
 obtain ⟨s',h3,q1,q2,q3,q4⟩:=ge.appendS (bytes:=1) ((hi.ext e1).ext e2) (by omega) (by omega) (by simp[lb]; omega) (by omega) (by omega)
 have q5:=(q4 (by simp)).1
 rw[List.nil_append] at q5
 have l3:=q3.len
 have e3:Ext h1 h3:=q3.ext e2 (Nat.le_refl _)
 rw[l1] at q1
 simp -implicitDefEqProofs (maxSteps:=1000000) (disch:=first|assumption|omega|(simp only[gL]<;>omega)|((repeat (first|exact Ext.refl _|assumption|apply Ext.app|apply Ext.mk|(refine Ext.setr ?_ (by (first|omega|(simp only[gL]<;>omega))) _))); done)|(simp only[gL,gA,ss,sf]<;>omega)|fail) only[gB,setAll,partL,fldV,reduceIte,Nat.reduceAdd,Nat.reduceMul,ss,sf]
 rw[<-hh1]
 simp -implicitDefEqProofs (maxSteps:=1000000) (disch:=first|assumption|omega|(simp only[gL]<;>omega)|((repeat (first|exact Ext.refl _|assumption|apply Ext.app|apply Ext.mk|(refine Ext.setr ?_ (by (first|omega|(simp only[gL]<;>omega))) _))); done)|(simp only[gL,gA,q1]<;>omega)|fail) only[gB,setAll,partL,fldV,reduceIte,Nat.reduceAdd,Nat.reduceMul,q1]
 refine WP.ent ((b0F (v.ext e1) e3 ⟨Nat.le_refl _,by omega⟩ rn q5 hs nf.n 0 h3 .nils (by omega) (Ext.refl _) (Gr.nil ..)).mono ?_) fun i=>rfl
 rintro r h4 ⟨e4,g4⟩
 exact ⟨e1.trans e4,g4.mono (by omega) (Nat.le_refl _)⟩
theorem b1s {h:Heap}(v:NfV h nf sS sF) :
  Tot tab t7_ [.agg (nfC nf sS sF)] h fun r h'=>Ext h h'/\Gr h.length h'.length h' 1 r ((bits nf.n (cloF nf.n nf.fr (2 ^ nf.s))).map encB):=by
 refine WP.tot (fun k=>a3p k _ h) ?_
 have hn:=v.n0
 have ss:=v.s.one
 have sf:=v.f.one
 have hsn:=v.ok.s
 obtain ⟨h1,hh1⟩:∃h1,h1=h++[AObj.cells ⟨nfC nf sS sF,0,0,false⟩]:=⟨_,rfl⟩
 have e1:Ext h h1:=by rw[hh1]; exact Ext.push _ _
 have l1:h1.length=h.length+1:=by rw[hh1]; simp
 have rn:h1[h.length]?=some (.cells ⟨nfC nf sS sF,0,0,false⟩):=by rw[hh1]; simp
 obtain ⟨s2,h2,a2,g2,e2,_,l2⟩:=m7_ (zero:=[AV.bool false]) (sz:=1) (bytes:=1) (n:=(nf.n:Int)) h1 (by omega) (by omega) (by omega) rfl rfl
 have hre:List.replicate (nf.n:Int).toNat [AV.bool false]=(List.replicate nf.n false).map encB:=by simp[encB]
 rw[hre] at g2
 obtain ⟨h3,w1,w2,w3,w4⟩:=g2.write0 (i:=(nf.s:Int)) (v:=.bool true) (by omega) (by simp; omega) rfl rfl
 have e3:Ext h h3:=w3.ext (e1.trans e2) (by omega)
 have rn2:=e2.get rn
 have rn3:h3[h.length]?=some (.cells ⟨nfC nf sS sF,0,0,false⟩):=by rw[w3.get (by omega) (by omega)]; exact rn2
 have eb:(List.replicate nf.n false).set nf.s true=bits nf.n (2 ^ nf.s):=by
  refine List.ext_getElem (by simp[bits]) fun p h1 h2=>?_
  simp only[List.getElem_set,List.getElem_replicate,bits,List.getElem_map,List.getElem_range,Nat.testBit_two_pow]
  by_cases q:nf.s=p
  ·simp[q]
  ·simp[q]
 have g3:Gr h1.length (h1.length+1) h3 1 s2 ((bits nf.n (2 ^ nf.s)).map encB):=w2.cong (by rw[<-eb,List.map_set]; rfl)
 simp -implicitDefEqProofs (maxSteps:=1000000) (disch:=first|assumption|omega|(simp only[gL]<;>omega)|((repeat (first|exact Ext.refl _|assumption|apply Ext.app|apply Ext.mk|(refine Ext.setr ?_ (by (first|omega|(simp only[gL]<;>omega))) _))); done)|(simp only[gL,gA,ss,sf]<;>omega)|fail) only[gB,setAll,partL,fldV,reduceIte,Nat.reduceAdd,Nat.reduceMul,ss,sf]
 rw[<-hh1]
 simp -implicitDefEqProofs (maxSteps:=1000000) (disch:=first|assumption|omega|(simp only[gL]<;>omega)|((repeat (first|exact Ext.refl _|assumption|apply Ext.app|apply Ext.mk|(refine Ext.setr ?_ (by (first|omega|(simp only[gL]<;>omega))) _))); done)|(simp only[gL,gA,a2,rn2,g2.sl.idxG,List.length_replicate,w1,rn3]<;>omega)|fail) only[gB,setAll,partL,fldV,reduceIte,Nat.reduceAdd,Nat.reduceMul,a2,rn2,g2.sl.idxG,List.length_replicate,w1,rn3]
 refine WP.call (a4W (v.ext e3) g3.sl fun q hq=>?_) ?_
 ·rw[Nat.testBit_two_pow] at hq
  have:nf.s=q:=by simpa using hq
  omega
 rintro r h4 ⟨e4,g4⟩
 exact WP.ret ⟨e3.trans e4,g4.mono e3.len (Nat.le_refl _)⟩
theorem b0G (st:List (Nat × Nat × Nat))(x:Nat × Nat × Nat)(s m:Nat):stpF (st++[x]) s m=if s.testBit x.1 && x.2.2.testBit m then stpF st s m ||| 2 ^ x.2.1 else stpF st s m:=by
 simp[stpF]
theorem b1t {n s q:Nat}:(bits n s).set q true=bits n (s ||| 2 ^ q):=by
 refine List.ext_getElem (by simp[bits]) fun p h1 h2=>?_
 simp only[List.getElem_set,bits,List.getElem_map,List.getElem_range,tb_or]
 by_cases z:q=p
 ·simp[z]
 ·simp[z,Ne.symm z]
theorem b1u {hb:Heap}{on oo s m:Nat}{is to:AV}(v:NfV hb nf sS sF)(hoo:hb.length<=oo)(hi:Sl hb 1 is ((bits nf.n s).map encB))(hm:m<5)(rn:hb[on]?=some (.cells ⟨nfC nf sS sF,0,0,false⟩)) :
  ∀(d i:Nat) (h:Heap),i+d=nf.st.length->Ext hb h->oo<h.length->Gr oo (oo+1) h 1 to ((bits nf.n (stpF (nf.st.take i) s m)).map encB)->
   WP (fun p:Nat × Nat=>i8_ p.1 p.2 is (I m) (.ptr on 0 5 0) to (I i) h) fun r h'=>Ext hb h'/\Gr hb.length h'.length h' 1 r ((bits nf.n (nxtF nf s m)).map encB):=by
 have hn:=v.n0
 have hls:=v.ls
 have lb:∀s,(bits nf.n s).length=nf.n:=a0b nf.n
 intro d
 induction d with
 |zero=>
  intro i h hid e hol g
  refine WP.rnd (fun i' j=>z4_ i' j is (I m) (.ptr on 0 5 0) to (I i) h) ?_
  have rn1:=e.get rn
  have sl:=(v.ext e).s.lenG
  rw[List.take_of_length_le (by omega)] at g
  simp -implicitDefEqProofs (disch:=first|assumption|omega|(simp only[gL,gA]<;>omega)|fail) only[gC,reduceIte,rn1,sl]
  refine WP.lv (WP.congr (fun k:Nat=>a2y k (.ptr on 0 5 0) to h) ?_) fun i j=>rfl
  simp -implicitDefEqProofs (disch:=first|assumption|omega|(simp only[gL,gA]<;>omega)|fail) only[gC,reduceIte,rn1]
  refine WP.call (a4W (v.ext e) g.sl fun q hq=>?_) ?_
  ·obtain ⟨x,hx,_,_,rfl⟩:=a2D.1 hq
   exact (v.ok.st x hx).2
  rintro r h2 ⟨e2,g2⟩
  exact WP.ret ⟨e.trans e2,g2.mono e.len (Nat.le_refl _)⟩
 |succ d ih=>
  intro i h hid e hol g
  refine WP.rnd (fun i' j=>z4_ i' j is (I m) (.ptr on 0 5 0) to (I i) h) ?_
  have rn1:=e.get rn
  have sv:=(v.ext e).s
  have sl:=sv.lenG
  obtain ⟨x,hx⟩:∃x,nf.st[i]?=some x:=⟨nf.st[i],List.getElem?_eq_getElem (by omega)⟩
  have gx:gi nf.st (i:Int)=x:=by rw[d9_ (by omega)]; rw[List.getElem?_eq_getElem (by omega)] at hx; injection hx
  have hxm:=List.mem_of_getElem? hx
  obtain ⟨x1,x2⟩:=v.ok.st x hxm
  have x3:=v.sv x hxm
  obtain ⟨h3,hh3⟩:∃h3,h3=((h++[AObj.cells ⟨[I 0,I 0,I 0],0,0,false⟩]).set h.length (.cells ⟨[I x.1,I x.2.1,I x.2.2],0,0,false⟩)):=⟨_,rfl⟩
  have e3:Ext h h3:=by rw[hh3]; ((repeat (first|exact Ext.refl _|assumption|apply Ext.app|apply Ext.mk|(refine Ext.setr ?_ (by (first|omega|(simp only[gL]<;>omega))) _))))
  have r3:h3[h.length]?=some (.cells ⟨[I x.1,I x.2.1,I x.2.2],0,0,false⟩):=by rw[hh3]; exact a4_ (by simp)
  have g3:=g.ext e3
  have hi3:=(hi.ext e).ext e3
  have l3:=e3.len
  have lbs:=lb s
  have lb2:=lb (stpF (nf.st.take i) s m)
  have gs:gi (bits nf.n s) (x.1:Int)=s.testBit x.1:=a1v x1
  have hsh:binV .shr .scalar (I (x.2.2:Nat)) (.int .u64 m)=some (I ((x.2.2 >>> m:Nat):Int)):=shr_i (k:=.u64) (s:=x.2.2) (m:=(m:Int)) (by omega) (by omega)
  have hle:x.2.2 >>> m<2 ^ 62:=Nat.lt_of_le_of_lt (by rw[Nat.shiftRight_eq_div_pow]; exact Nat.div_le_self _ _) x3
  have han:binV .and .scalar (I ((x.2.2 >>> m:Nat):Int)) (.int .i64 1)=some (I (((x.2.2 >>> m) &&& 1:Nat):Int)):=and_i (b:=1) hle (by decide)
  have hcv:convV .u64 (I m)=some (.int .u64 m):=a1k (by omega) (by omega)
  have hsn:=b0G (nf.st.take i) x s m
  rw[<-a4K hx] at hsn
  have on1:oo+1<=h.length:=hol
  obtain ⟨b1,hb1⟩:∃b1,s.testBit x.1=b1:=⟨_,rfl⟩
  rw[hb1] at gs hsn
  cases b1 with
  |false=>
   simp -implicitDefEqProofs (disch:=first|assumption|omega|exact Ext.refl _|(simp only[gL,gA]<;>omega)|fail) only[gC,reduceIte,rn1,sl,sv.idxG,sv.ldN,gx,encS]
   rw[show AV.int .i64 0=I 0 from rfl,<-hh3]
   simp -implicitDefEqProofs (disch:=first|assumption|omega|exact Ext.refl _|(simp only[gL,gA]<;>omega)|fail) only[gC,reduceIte,r3,hi3.idxG,hi3.ld0,lbs,gs,encB]
   refine ih (i+1) h3 (by omega) (e.trans e3) (by omega) ?_
   rw[hsn]; exact g3
  |true=>
   obtain ⟨b2,hb2⟩:∃b2,x.2.2.testBit m=b2:=⟨_,rfl⟩
   rw[hb2] at hsn
   cases b2 with
   |false=>
    have hbt:binV .eql .scalar (I (((x.2.2 >>> m) &&& 1:Nat):Int)) (.int .i64 1)=some (.bool false):=bit_f (m:=(m:Int)) (by omega) hb2
    simp -implicitDefEqProofs (disch:=first|assumption|omega|exact Ext.refl _|(simp only[gL,gA]<;>omega)|fail) only[gC,reduceIte,rn1,sl,sv.idxG,sv.ldN,gx,encS]
    rw[show AV.int .i64 0=I 0 from rfl,<-hh3]
    simp -implicitDefEqProofs (disch:=first|assumption|omega|exact Ext.refl _|(simp only[gL,gA]<;>omega)|fail) only[gC,reduceIte,r3,hi3.idxG,hi3.ld0,lbs,gs,encB,hcv,hsh,han,hbt]
    refine ih (i+1) h3 (by omega) (e.trans e3) (by omega) ?_
    rw[hsn]; exact g3
   |true=>
    have hbt:binV .eql .scalar (I (((x.2.2 >>> m) &&& 1:Nat):Int)) (.int .i64 1)=some (.bool true):=bit_t (m:=(m:Int)) (by omega) hb2
    obtain ⟨h4,w1,w2,w3,w4⟩:=g3.write0 (i:=(x.2.1:Int)) (v:=.bool true) (by omega) (by simp[lb2]; omega) rfl rfl
    simp -implicitDefEqProofs (disch:=first|assumption|omega|exact Ext.refl _|(simp only[gL,gA]<;>omega)|fail) only[gC,reduceIte,rn1,sl,sv.idxG,sv.ldN,gx,encS]
    rw[show AV.int .i64 0=I 0 from rfl,<-hh3]
    simp -implicitDefEqProofs (disch:=first|assumption|omega|exact Ext.refl _|(simp only[gL,gA]<;>omega)|fail) only[gC,reduceIte,r3,hi3.idxG,hi3.ld0,lbs,gs,encB,hcv,hsh,han,hbt,g3.sl.idxG,lb2,w1]
    refine ih (i+1) h4 (by omega) (w3.ext (e.trans e3) hoo) (by omega) (w2.cong ?_)
    rw[hsn,if_pos (by rfl),<-b1t,List.map_set]; rfl
theorem b2P {h:Heap}{s m:Nat}{is:AV}(v:NfV h nf sS sF)(hi:Sl h 1 is ((bits nf.n s).map encB))(hm:m<5) :
  Tot tab j9_ [.agg (nfC nf sS sF),is,I m] h fun r h'=>Ext h h'/\Gr h.length h'.length h' 1 r ((bits nf.n (nxtF nf s m)).map encB):=by
 refine WP.tot (fun k=>a3C k _ _ _ h) ?_
 have hn:=v.n0
 have ss:=v.s.one
 have sf:=v.f.one
 obtain ⟨h1,hh1⟩:∃h1,h1=h++[AObj.cells ⟨nfC nf sS sF,0,0,false⟩]:=⟨_,rfl⟩
 have e1:Ext h h1:=by rw[hh1]; exact Ext.push _ _
 have l1:h1.length=h.length+1:=by rw[hh1]; simp
 have rn:h1[h.length]?=some (.cells ⟨nfC nf sS sF,0,0,false⟩):=by rw[hh1]; simp
 obtain ⟨s2,h2,a2,g2,e2,_,l2⟩:=m7_ (zero:=[AV.bool false]) (sz:=1) (bytes:=1) (n:=(nf.n:Int)) h1 (by omega) (by omega) (by omega) rfl rfl
 have hre:List.replicate (nf.n:Int).toNat [AV.bool false]=(bits nf.n (stpF (nf.st.take 0) s m)).map encB:=by
  simp only[List.take_zero,stpF,List.foldl_nil,bits,Int.toNat_natCast,List.map_map]
  refine List.ext_getElem (by simp) fun p h1 h2=>by simp[encB]
 rw[hre] at g2
 simp -implicitDefEqProofs (maxSteps:=1000000) (disch:=first|assumption|omega|(simp only[gL]<;>omega)|((repeat (first|exact Ext.refl _|assumption|apply Ext.app|apply Ext.mk|(refine Ext.setr ?_ (by (first|omega|(simp only[gL]<;>omega))) _))); done)|(simp only[gL,gA,ss,sf]<;>omega)|fail) only[gB,setAll,partL,fldV,reduceIte,Nat.reduceAdd,Nat.reduceMul,ss,sf]
 rw[<-hh1]
 simp -implicitDefEqProofs (maxSteps:=1000000) (disch:=first|assumption|omega|(simp only[gL]<;>omega)|((repeat (first|exact Ext.refl _|assumption|apply Ext.app|apply Ext.mk|(refine Ext.setr ?_ (by (first|omega|(simp only[gL]<;>omega))) _))); done)|(simp only[gL,gA,a2]<;>omega)|fail) only[gB,setAll,partL,fldV,reduceIte,Nat.reduceAdd,Nat.reduceMul,a2]
 refine WP.ent ((b1u (v.ext e1) (Nat.le_refl _) (hi.ext e1) hm rn nf.st.length 0 h2 (by omega) e2 (by omega) g2).mono ?_) fun i=>rfl
 rintro r h3 ⟨e3,g3⟩
 exact ⟨e1.trans e3,g3.mono (by omega) (Nat.le_refl _)⟩
end
end Go.Gm.AQ
