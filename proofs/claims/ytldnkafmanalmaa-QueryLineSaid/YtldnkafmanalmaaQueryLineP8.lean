/- A part of the proof (GmNl, GmSl, GmAQsa, GmAQsb, GmAQsc, GmAQsd, GmAQse, GmAQsf, GmAQsg, GmPr, GmAQpa). -/
import Derived.Test.YtldnkafmanalmaaQueryLineP7
set_option linter.unusedVariables false
set_option linter.unusedSimpArgs false
set_option linter.unusedSectionVars false
namespace Go.Gm
abbrev Stp:=List (Nat × Nat × Nat)
abbrev Fre:=List (Nat × Nat)
inductive Pt (w:List Int) (st:Stp) (fr:Fre) (q i:Nat):Nat->Nat->Prop
 |refl:Pt w st fr q i q i
 |free {p r j:Nat}:Pt w st fr q i p j->(p,r)∈fr->Pt w st fr q i r j
 |step {p r k j:Nat}:Pt w st fr q i p j->(p,r,k)∈st->hit w k j->Pt w st fr q i r (j+1)
section
variable {w:List Int} {st st':Stp} {fr fr':Fre}
theorem Pt.trans {q i p j r k:Nat}(a:Pt w st fr q i p j)(b:Pt w st fr p j r k):Pt w st fr q i r k:=by
 induction b with
 |refl=>exact a
 |free _ h ih=>exact .free ih h
 |step _ h1 h2 ih=>exact .step ih h1 h2
theorem Pt.one {q p i:Nat}(h:(q,p)∈fr):Pt w st fr q i p i:=.free .refl h
theorem Pt.mono (h1:∀x∈st,x∈st')(h2:∀x∈fr,x∈fr'){q i p j:Nat}(a:Pt w st fr q i p j):Pt w st' fr' q i p j:=by
 induction a with
 |refl=>exact .refl
 |free _ h ih=>exact .free ih (h2 _ h)
 |step _ h k ih=>exact .step ih (h1 _ h) k
def Clo (w:List Int)(st:Stp)(fr:Fre)(V:Nat->Nat->Prop):Prop:=(∀p r,(p,r)∈fr->∀j,V p j->V r j)/\∀p r k,(p,r,k)∈st->∀j,V p j->hit w k j->V r (j+1)
theorem Clo.pt {V:Nat->Nat->Prop}(c:Clo w st fr V){q i p j:Nat}(h:V q i)(a:Pt w st fr q i p j):V p j:=by
 induction a with
 |refl=>exact h
 |free _ h ih=>exact c.1 _ _ h _ ih
 |step _ h k ih=>exact c.2 _ _ _ h _ ih k
end
structure Frg (n:Nd) (b b':NS) (s e:Nat) (S:Stp) (F:Fre):Prop where
 st:b'.st=b.st++S
 fr:b'.fr=b.fr++F
 ls:b.n<=s/\s<b'.n
 le:b.n<=e/\e<b'.n
 eS:∀x∈S,b.n<=x.1/\x.1<b'.n/\b.n<=x.2.1/\x.2.1<b'.n
 eF:∀x∈F,b.n<=x.1/\x.1<b'.n/\b.n<=x.2/\x.2<b'.n
 com:∀w i j,R w n i j->Pt w S F s i e j
 snd:∀(w:List Int) (A:Nat->Prop),∃V:Nat->Nat->Prop,(∀q j,V q j->b.n<=q/\q<b'.n)/\Clo w S F V/\(∀j,A j->V s j)/\∀j,V e j->∃i,A i/\R w n i j
structure Frs (ns:List Nd) (b b':NS) (ft:List (Nat × Nat)) (S:Stp) (F:Fre):Prop where
 st:b'.st=b.st++S
 fr:b'.fr=b.fr++F
 len:ft.length=ns.length
 le:b.n<=b'.n
 lt:∀(k:Nat) (x:Nat × Nat),ft[k]?=some x->b.n<=x.1/\x.1<b'.n/\b.n<=x.2/\x.2<b'.n
 eS:∀x∈S,b.n<=x.1/\x.1<b'.n/\b.n<=x.2.1/\x.2.1<b'.n
 eF:∀x∈F,b.n<=x.1/\x.1<b'.n/\b.n<=x.2/\x.2<b'.n
 com:∀w (k:Nat) (x:Nat × Nat) n,ft[k]?=some x->ns[k]?=some n->∀i j,R w n i j->Pt w S F x.1 i x.2 j
 snd:∀(w:List Int) (A:Nat->Nat->Prop),∃V:Nat->Nat->Prop,(∀q j,V q j->b.n<=q/\q<b'.n)/\Clo w S F V/\∀(k:Nat) (x:Nat × Nat) n,ft[k]?=some x->ns[k]?=some n->(∀j,A k j->V x.1 j)/\∀j,V x.2 j->∃i,A k i/\R w n i j
theorem Frs.nil (b:NS):Frs [] b b [] [] []:=
 ⟨by simp,by simp,rfl,Nat.le_refl _,(fun k x h=>by simp at h),(fun x h=>by cases h),(fun x h=>by cases h),(fun w k x n h=>by simp at h),fun w A=>⟨fun _ _=>False,fun _ _ h=>h.elim,⟨(fun _ _ h=>by cases h),(fun _ _ _ h=>by cases h)⟩,fun k x n h=>by simp at h⟩⟩
theorem Frs.cons {n:Nd}{ns:List Nd}{b b1 b2:NS}{x:Nat × Nat}{ft:List (Nat × Nat)}{S S':Stp}{F F':Fre}(a:Frg n b b1 x.1 x.2 S F)(c:Frs ns b1 b2 ft S' F'):Frs (n::ns) b b2 (x::ft) (S++S') (F++F'):=by
 have h1:=a.ls
 have h2:=a.le
 have h3:=c.le
 refine ⟨by rw[c.st,a.st,List.append_assoc],by rw[c.fr,a.fr,List.append_assoc],by simp[c.len],oM,fun k y h=>?_,fun y h=>?_,fun y h=>?_,fun w k y m h h' i j hr=>?_,fun w A=>?_⟩
 ·cases k with
  |zero=>simp at h; subst h; omega
  |succ k=>have:=c.lt k y (by simpa using h); omega
 ·rcases List.mem_append.1 h with h|h
  ·have:=a.eS y h; omega
  ·have:=c.eS y h; omega
 ·rcases List.mem_append.1 h with h|h
  ·have:=a.eF y h; omega
  ·have:=c.eF y h; omega
 ·cases k with
  |zero=>
   simp at h h'
   subst h h'
   exact (a.com w i j hr).mono (fun z hz=>List.mem_append_left _ hz) fun z hz=>List.mem_append_left _ hz
  |succ k=>exact (c.com w k y m (by simpa using h) (by simpa using h') i j hr).mono (fun z hz=>List.mem_append_right _ hz) fun z hz=>List.mem_append_right _ hz
 ·obtain ⟨V,v1,v2,v3,v4⟩:=a.snd w (A 0)
  obtain ⟨U,u1,u2,u3⟩:=c.snd w (fun k=>A (k+1))
  refine ⟨fun q j=>V q j\/U q j,fun q j h=>?_,⟨fun p r h j hv=>?_,fun p r k h j hv hh=>?_⟩,fun k y m h h'=>?_⟩
  ·rcases h with h|h
   ·have:=v1 q j h; omega
   ·have:=u1 q j h; omega
  ·rcases List.mem_append.1 h with h|h
   ·have he:=a.eF _ h
    rcases hv with hv|hv
    ·exact .inl (v2.1 p r h j hv)
    ·have:=u1 p j hv; simp only at he; omega
   ·have he:=c.eF _ h
    rcases hv with hv|hv
    ·have:=v1 p j hv; simp only at he; omega
    ·exact .inr (u2.1 p r h j hv)
  ·rcases List.mem_append.1 h with h|h
   ·have he:=a.eS _ h
    rcases hv with hv|hv
    ·exact .inl (v2.2 p r k h j hv hh)
    ·have:=u1 p j hv; simp only at he; omega
   ·have he:=c.eS _ h
    rcases hv with hv|hv
    ·have:=v1 p j hv; simp only at he; omega
    ·exact .inr (u2.2 p r k h j hv hh)
  ·cases k with
   |zero=>
    simp at h h'
    subst h h'
    refine ⟨fun j hj=>.inl (v3 j hj),fun j hj=>?_⟩
    rcases hj with hj|hj
    ·exact v4 j hj
    ·have:=u1 _ j hj; omega
   |succ k=>
    have hk:ft[k]?=some y:=by simpa using h
    obtain ⟨w1,w2⟩:=u3 k y m hk (by simpa using h')
    have hl:=c.lt k y hk
    refine ⟨fun j hj=>.inr (w1 j hj),fun j hj=>?_⟩
    rcases hj with hj|hj
    ·have:=v1 _ j hj; omega
    ·exact w2 j hj
def PSp (p:NS->List (Nat × Nat) × NS)(ns:List Nd):Prop:=∀b,(p b).2.much=false->b.much=false/\∃S F,Frs ns b (p b).2 (p b).1 S F
theorem PSp.none:PSp (fun b=>([],b)) []:=fun b h=>⟨h,[],[],Frs.nil b⟩
theorem c5z (b:NS)(s e:Nat)(l:List (Nat × Nat))(n:Nd):(b.lead s e l n).n=b.n/\(b.lead s e l n).much=b.much:=by
 cases n<;>exact ⟨rfl,rfl⟩
theorem Frs.around {n:Nd}{ns:List Nd}{b b3:NS}{ft:List (Nat × Nat)}{S S0:Stp}{F F0:Fre}(f:Frs ns ⟨b.n+1,b.much,b.st,b.fr⟩ ⟨b3.n-1,b3.much,b3.st,b3.fr⟩ ft S F)(h2:b.n+2<=b3.n)(hS:(b3.lead b.n (b3.n-1) ft n).st=b3.st++S0)(hF:(b3.lead b.n (b3.n-1) ft n).fr=b3.fr++F0)(eS:∀x∈S0,x.1=b.n/\x.2.1=b3.n-1)(eF:∀x∈F0,(x.1=b.n\/∃y∈ft,x.1=y.2)/\(x.2=b3.n-1\/∃y∈ft,x.2=y.1))(com:∀w i j,R w n i j->Pt w (S++S0) (F++F0) b.n i (b3.n-1) j)(snd:∀(w:List Int) (A:Nat->Prop),∃(B:Nat->Nat->Prop) (E:Nat->Prop),(∀j,E j->∃i,A i/\R w n i j)/\
   (∀p r k,(p,r,k)∈S0->∀j,A j->hit w k j->E (j+1))/\
   (∀V:Nat->Nat->Prop,(∀j,A j->V b.n j)->(∀j,V b.n j->A j)->(∀j,E j->V (b3.n-1) j)->(∀(k:Nat) (x:Nat × Nat) m,ft[k]?=some x->ns[k]?=some m->(∀j,B k j->V x.1 j)/\∀j,V x.2 j->∃i,B k i/\R w m i j)->∀p r,(p,r)∈F0->∀j,V p j->V r j)) :
  ∃S F,Frg n b (b3.lead b.n (b3.n-1) ft n) b.n (b3.n-1) S F:=by
 have hn:=(c5z b3 b.n (b3.n-1) ft n).1
 have hlt:∀y∈ft,b.n+1<=y.1/\y.1<b3.n-1/\b.n+1<=y.2/\y.2<b3.n-1:=fun y hy=>by
  obtain ⟨k,hk,h⟩:=List.getElem_of_mem hy
  exact f.lt k y (by rw[List.getElem?_eq_getElem hk,h])
 have fS:=f.eS
 have fF:=f.eF
 simp only at fS fF
 refine ⟨S++S0,F++F0,⟨by rw[hS,show b3.st=_ from f.st,List.append_assoc],by rw[hF,show b3.fr=_ from f.fr,List.append_assoc],oM,oM,fun x hx=>?_,fun x hx=>?_,com,fun w A=>?_⟩⟩
 ·rcases List.mem_append.1 hx with hx|hx
  ·have:=fS x hx; omega
  ·have:=eS x hx; omega
 ·rcases List.mem_append.1 hx with hx|hx
  ·have:=fF x hx; omega
  ·obtain ⟨h3,h4⟩:=eF x hx
   have h5:b.n<=x.1/\x.1<b3.n:=by
    rcases h3 with h3|⟨y,hy,h3⟩
    ·omega
    ·have:=hlt y hy; omega
   have h6:b.n<=x.2/\x.2<b3.n:=by
    rcases h4 with h4|⟨y,hy,h4⟩
    ·omega
    ·have:=hlt y hy; omega
   omega
 ·obtain ⟨B,E,s1,s2,s3⟩:=snd w A
  obtain ⟨V,v1,v2,v3⟩:=f.snd w B
  simp only at v1
  obtain ⟨U,hU⟩:∃U:Nat->Nat->Prop,U=fun q j=>(q=b.n/\A j)\/(q=b3.n-1/\E j)\/V q j:=⟨_,rfl⟩
  have u1:∀j,U b.n j->A j:=fun j h=>by
   rw[hU] at h
   rcases h with h|h|h
   ·exact h.2
   ·omega
   ·have:=v1 _ _ h; omega
  have u2:∀j,U (b3.n-1) j->E j:=fun j h=>by
   rw[hU] at h
   rcases h with h|h|h
   ·omega
   ·exact h.2
   ·have:=v1 _ _ h; omega
  have u3:∀q j,b.n+1<=q->q<b3.n-1->(U q j↔V q j):=fun q j h1 h2=>by
   rw[hU]
   constructor
   ·rintro (h|h|h)
    ·omega
    ·omega
    ·exact h
   ·exact fun h=>.inr (.inr h)
  have ua:∀j,A j->U b.n j:=fun j h=>by rw[hU]; exact .inl ⟨rfl,h⟩
  have ue:∀j,E j->U (b3.n-1) j:=fun j h=>by rw[hU]; exact .inr (.inl ⟨rfl,h⟩)
  refine ⟨U,fun q j h=>?_,⟨fun p r h j hv=>?_,fun p r k h j hv hh=>?_⟩,ua,fun j h=>s1 j (u2 j h)⟩
  ·rw[hU] at h
   rcases h with h|h|h
   ·omega
   ·omega
   ·have:=v1 _ _ h; omega
  ·rcases List.mem_append.1 h with h|h
   ·have:=fF _ h
    simp only at this
    rw[u3 p j oM oM] at hv
    rw[u3 r j oM oM]
    exact v2.1 p r h j hv
   ·refine s3 U ua u1 ue (fun k x m hk hm=>?_) p r h j hv
    obtain ⟨w1,w2⟩:=v3 k x m hk hm
    have hl:=f.lt k x hk
    simp only at hl
    exact ⟨fun j hj=>(u3 _ _ hl.1 hl.2.1).2 (w1 j hj),fun j hj=>w2 j ((u3 _ _ hl.2.2.1 hl.2.2.2).1 hj)⟩
  ·rcases List.mem_append.1 h with h|h
   ·have:=fS _ h
    simp only at this
    rw[u3 p j oM oM] at hv
    rw[u3 r (j+1) oM oM]
    exact v2.2 p r k h j hv hh
   ·have:=eS _ h
    simp only at this
    obtain ⟨rfl,rfl⟩:=this
    exact ue _ (s2 _ _ _ h j (u1 j hv) hh)
theorem b2A {α:Type}{l:List α}{x:α}(h:x∈l):∃k:Nat,l[k]?=some x:=by
 obtain ⟨k,hk,h⟩:=List.getElem_of_mem h
 exact ⟨k,by rw[List.getElem?_eq_getElem hk,h]⟩
theorem Star.snd {r:Nat->Nat->Prop}{a i j:Nat}(h:Star r a i)(k:r i j):∃m,r a m/\Star r m j:=by
 rcases Star.iff.1 h with rfl|⟨m,h1,h2⟩
 ·exact ⟨j,k,.refl _⟩
 ·exact ⟨m,h1,.tail h2 k⟩
structure NfOk (nf:NF):Prop where
 s:nf.s<nf.n
 e:nf.e<nf.n
 st:∀x∈nf.st,x.1<nf.n/\x.2.1<nf.n
 fr:∀x∈nf.fr,x.1<nf.n/\x.2<nf.n
end Go.Gm
namespace Go.Gm
theorem b5u {x:Nat}:∀{l:List Nat} {i j:Nat},idxF x i l=some j->i<=j/\l[j-i]?=some x
 |[],i,j,h=>by simp[idxF] at h
 |y::l,i,j,h=>by
  rw[idxF] at h
  by_cases q:y=x
  ·rw[if_pos q] at h
   injection h with h
   subst h
   exact ⟨Nat.le_refl _,by simp[q]⟩
  ·rw[if_neg q] at h
   obtain ⟨h1,h2⟩:=b5u h
   exact ⟨oM,by rw[show j-i=j-(i+1)+1 by omega]; simpa using h2⟩
abbrev nxtF (nf:NF)(s m:Nat):Nat:=cloF nf.n nf.fr (stpF nf.st s m)
def RowOk (nf:NF)(sets:List Nat)(s:Nat)(r:List Int)(m0 k:Nat):Prop:=r.length=k/\∀t,t<k->∃j:Nat,r[t]?=some (j:Int)/\sets[j]?=some (nxtF nf s (m0+t))
theorem a2N {α:Type}{l e:List α}{j:Nat}{x:α}(h:l[j]?=some x):(l++e)[j]?=some x:=by
 rw[List.getElem?_append_left (List.getElem?_eq_some_iff.1 h).1]; exact h
theorem b4P {nf:NF}{lim s:Nat}:∀(k m:Nat) (sets:List Nat) (row:List Int) {sets':List Nat} {row':List Int},rowF nf lim s k m sets row=some (sets',row')->(∃e,sets'=sets++e)/\(∃r,row'=row++r/\RowOk nf sets' s r m k)/\(sets'.length<=sets.length\/sets'.length<=lim)
 |0,m,sets,row,sets',row',h=>by
  simp only[rowF,Option.some.injEq,Prod.mk.injEq] at h
  obtain ⟨rfl,rfl⟩:=h
  exact ⟨⟨[],by simp⟩,⟨[],by simp,rfl,fun t ht=>oM⟩,.inl (Nat.le_refl _)⟩
 |k+1,m,sets,row,sets',row',h=>by
  simp only[rowF] at h
  split at h
  ·rename_i j hj
   obtain ⟨⟨e,h1⟩,⟨r,h2,h3,h4⟩,h5⟩:=b4P k (m+1) _ _ h
   obtain ⟨_,hj2⟩:=b5u hj
   rw[Nat.sub_zero] at hj2
   refine ⟨⟨e,h1⟩,⟨(j:Int)::r,by rw[h2]; simp,by simp[h3],fun t ht=>?_⟩,h5⟩
   cases t with
   |zero=>exact ⟨j,rfl,by rw[h1]; exact a2N hj2⟩
   |succ t=>
    obtain ⟨j',k1,k2⟩:=h4 t oM
    exact ⟨j',by simpa using k1,by rw[k2,show m+1+t=m+(t+1) by omega]⟩
  ·rename_i hj
   split at h
   ·cases h
   ·rename_i hl
    obtain ⟨⟨e,h1⟩,⟨r,h2,h3,h4⟩,h5⟩:=b4P k (m+1) _ _ h
    refine ⟨⟨nxtF nf s m::e,by rw[h1]; simp⟩,⟨(sets.length:Int)::r,by rw[h2]; simp,by simp[h3],fun t ht=>?_⟩,?_⟩
    ·cases t with
     |zero=>exact ⟨sets.length,rfl,by rw[h1]; exact a2N (by simp)⟩
     |succ t=>
      obtain ⟨j',k1,k2⟩:=h4 t oM
      exact ⟨j',by simpa using k1,by rw[k2,show m+1+t=m+(t+1) by omega]⟩
    ·rcases h5 with h5|h5
     ·simp only[List.length_append,List.length_cons,List.length_nil] at h5
      right; omega
     ·exact .inr h5
theorem RowOk.grow {nf:NF}{sets:List Nat}{s m0 k:Nat}{r:List Int}(h:RowOk nf sets s r m0 k)(e:List Nat):RowOk nf (sets++e) s r m0 k:=
 ⟨h.1,fun t ht=>by obtain ⟨j,h1,h2⟩:=h.2 t ht; exact ⟨j,h1,a2N h2⟩⟩
structure SubI (nf:NF) (lim:Nat) (sets:List Nat) (D:List (List Int)) (acc:List Bool) (i:Nat):Prop where
 s0:sets[0]?=some (cloF nf.n nf.fr (2 ^ nf.s))
 ld:D.length=i
 la:acc.length=i
 il:i<=sets.length
 sl:sets.length<=1\/sets.length<=lim
 row:∀a s,a<i->sets[a]?=some s->∃r,D[a]?=some r/\RowOk nf sets s r 0 5/\acc[a]?=some (s.testBit nf.e)
theorem SubI.add {nf:NF}{lim i s:Nat}{sets sets':List Nat}{D:List (List Int)}{acc:List Bool}{row:List Int}(h:SubI nf lim sets D acc i)(hs:sets[i]?=some s)(hr:rowF nf lim s 5 0 sets []=some (sets',row)):SubI nf lim sets' (D++[row]) (acc++[s.testBit nf.e]) (i+1):=by
 obtain ⟨⟨e,rfl⟩,⟨r,h2,h3⟩,h4⟩:=b4P 5 0 sets [] hr
 rw[List.nil_append] at h2
 subst h2
 have hi:=(List.getElem?_eq_some_iff.1 hs).1
 refine ⟨a2N h.s0,by simp[h.ld],by simp[h.la],by simp; omega,?_,fun a t ha ht=>?_⟩
 ·rcases h4 with h4|h4
  ·rcases h.sl with h5|h5
   ·left; omega
   ·right; omega
  ·exact .inr h4
 ·by_cases q:a=i
  ·subst q
   rw[a2N hs] at ht
   injection ht with ht
   subst ht
   refine ⟨row,?_,h3,?_⟩
   ·rw[<-h.ld]; simp
   ·rw[<-h.la]; simp
  ·have h5:sets[a]?=some t:=by
    rw[List.getElem?_append_left oM] at ht; exact ht
   obtain ⟨r',k1,k2,k3⟩:=h.row a t oM h5
   exact ⟨r',a2N k1,k2.grow e,a2N k3⟩
theorem b8r {nf:NF}{lim:Nat}:∀(f i:Nat) (sets:List Nat) (D:List (List Int)) (acc:List Bool) {D':List (List Int)} {acc':List Bool},subL nf lim f i sets D acc=some (D',acc')->SubI nf lim sets D acc i->∃sets',SubI nf lim sets' D' acc' sets'.length
 |0,i,sets,D,acc,D',acc',h,_=>by simp[subL] at h
 |f+1,i,sets,D,acc,D',acc',h,hi=>by
  simp only[subL] at h
  split at h
  ·rename_i hn
   injection h with h
   injection h with h1 h2
   subst h1 h2
   have h3:=List.getElem?_eq_none_iff.1 hn
   have h4:=hi.il
   have:i=sets.length:=oM
   exact ⟨sets,this▸hi⟩
  ·rename_i s hs
   split at h
   ·cases h
   ·rename_i sets' row hr
    exact b8r f (i+1) _ _ _ h (hi.add hs hr)
theorem b4Q {nf:NF}{lim:Nat}{D:List (List Int)}{acc:List Bool}(h:subF nf lim=some (D,acc)):∃sets,SubI nf lim sets D acc sets.length:=
 b8r _ _ _ _ _ h ⟨rfl,rfl,rfl,by simp,.inl (by simp),fun a s ha=>oM⟩
section
variable {nf:NF} {w:List Int}
def Stn (nf:NF)(w:List Int)(s k:Nat):Prop:=∀q,s.testBit q=true↔Pt w nf.st nf.fr nf.s 0 q k
theorem Stn.zero (ok:NfOk nf):Stn nf w (cloF nf.n nf.fr (2 ^ nf.s)) 0:=by
 intro q
 have hb:∀p,(2 ^ nf.s).testBit p=true↔p=nf.s:=fun p=>by rw[Nat.testBit_two_pow]; simp[eq_comm]
 rw[a9p (fun f hf=>(ok.fr f hf).2) (fun p hp=>by rw[(hb p).1 hp]; exact ok.s)]
 constructor
 ·intro h
  induction h with
  |here h=>rw[(hb _).1 h]; exact .refl
  |on _ h ih=>exact .free ih h
 ·intro h
  have:∀p j,Pt w nf.st nf.fr nf.s 0 p j->j=0->Rch nf.fr (2 ^ nf.s) p:=by
   intro p j h
   induction h with
   |refl=>exact fun _=>.here ((hb _).2 rfl)
   |free _ h ih=>exact fun e=>.on (ih e) h
   |step _ _ _ _=>intro e; omega
  exact this q 0 h rfl
theorem Stn.next (ok:NfOk nf){s k:Nat}{m:Nat}(h:Stn nf w s k)(hw:w[k]?=some (m:Int))(hm:m<5):Stn nf w (nxtF nf s m) (k+1):=by
 intro q
 have hs:∀p,(stpF nf.st s m).testBit p=true->p<nf.n:=fun p hp=>by
  obtain ⟨x,hx,_,_,rfl⟩:=a9q.1 hp
  exact (ok.st x hx).2
 rw[nxtF,a9p (fun f hf=>(ok.fr f hf).2) hs]
 have hit:∀ks,hit w ks k↔ks.testBit m=true:=fun ks=>by
  constructor
  ·rintro ⟨c,h1,h2,h3,h4⟩
   rw[hw] at h1
   injection h1 with h1
   subst h1
   simpa using h4
  ·exact fun h4=>⟨m,hw,oM,oM,by simpa using h4⟩
 constructor
 ·intro hr
  induction hr with
  |here hp=>
   obtain ⟨⟨a,b,c⟩,hx,h1,h2,h3⟩:=a9q.1 hp
   simp only at h1 h2 h3
   subst h3
   exact .step ((h a).1 h1) hx ((hit c).2 h2)
  |on _ h ih=>exact .free ih h
 ·intro hp
  have:∀p j,Pt w nf.st nf.fr nf.s 0 p j->j=k+1->Rch nf.fr (stpF nf.st s m) p:=by
   intro p j hp
   induction hp with
   |refl=>intro e; omega
   |free _ h ih=>exact fun e=>.on (ih e) h
   |@step p r c j h1 h2 h3 _=>
    intro e
    obtain rfl:j=k:=oM
    exact .here (a9q.2 ⟨(p,r,c),h2,(h p).2 h1,(hit c).1 h3,rfl⟩)
  exact this q _ hp rfl
end
end Go.Gm
namespace Go.Gm.AQ
open Go Go.Gm
def bits (n s:Nat):List Bool:=(List.range n).map fun p=>s.testBit p
theorem a4i (n s:Nat):(bits n s).length=n:=by simp[bits]
theorem a6O {n s p:Nat}(hp:p<n):gi (bits n s) (p:Int)=s.testBit p:=by
 rw[b2_ (by simpa [bits] using hp)]; simp[bits]
def outs (fr:List (Nat × Nat))(t:Nat):List Nat:=(fr.filter fun f=>f.1 == t).map (·.2)
theorem c0s (fr:List (Nat × Nat))(f:Nat × Nat)(t:Nat):outs (fr++[f]) t=outs fr t++if f.1=t then [f.2] else []:=by
 simp only[outs,List.filter_append,List.map_append]
 congr 1
 by_cases q:f.1=t
 ·simp[List.filter,q]
 ·have:(f.1 == t)=false:=by simpa using q
  simp[List.filter,q,this]
theorem b6J (fr:List (Nat × Nat))(t:Nat):(outs fr t).length<=fr.length:=by
 simp only[outs,List.length_map]; exact List.length_filter_le ..
theorem b6K {fr:List (Nat × Nat)}{t q:Nat}:q∈outs fr t↔(t,q)∈fr:=by
 simp only[outs,List.mem_map,List.mem_filter,beq_iff_eq]
 constructor
 ·rintro ⟨⟨a,b⟩,⟨h1,h2⟩,rfl⟩; simp only at h2; rw[<-h2]; exact h1
 ·exact fun h=>⟨(t,q),⟨h,rfl⟩,rfl⟩
def RwI (W:Nat->Prop)(hb:Heap)(q:Nat)(sB:AV)(N:Nat)(X:Nat->List Nat)(h:Heap):Prop:=
 ∃B:List AV,Gr q (q+1) h 1 sB (B.map fun s=>[s])/\B.length=N/\Fam W h 1 (fun t:Nat=>t<N) (fun t=>gi B (t:Int)) (fun t=>(X t).map encN')/\(∀o,W o->hb.length<=o)/\FrS (fun o=>o=q\/hb.length<=o) hb h
def enc1 (s:AV):List AV:=[s]
theorem RwI.get {W:Nat->Prop}{hb h:Heap}{q N:Nat}{sB:AV}{X:Nat->List Nat}(r:RwI W hb q sB N X h){t:Nat}(ht:t<N):∃s,(∀H,Ext h H->ld1 H (elP 1 sB t)=some s)/\idxS 1 sB (I t)=some (elP 1 sB t)/\Sl h 1 s ((X t).map encN'):=by
 obtain ⟨B,g,lB,f,hW,fr⟩:=r
 have sl:Sl h 1 sB (B.map enc1):=g.sl
 exact ⟨gi B t,fun H e=>by rw[sl.ld0 e oM oM oM]; rfl,sl.idxG oM oM,f.sl ht⟩
theorem RwI.step {W:Nat->Prop}{hb h:Heap}{q N:Nat}{sB:AV}{X:Nat->List Nat}(r:RwI W hb q sB N X h)(hq:q<hb.length){t:Nat}(ht:t<N)(v:Nat)(hl:(X t).length<=100000) :
  ∃s1 s2 h2 h3,(∀H,Ext h H->ld1 H (elP 1 sB t)=some s1)/\idxS 1 sB (I t)=some (elP 1 sB t)/\apnd 1 8 s1 (.sl h.length 0 1 1 none 0) (h++[AObj.cells ⟨[I v],0,0,false⟩])=some (s2,h2)/\stN 1 h2 (elP 1 sB t) s2=some h3/\
   RwI (fun o=>W o\/h.length<=o) hb q sB N (fun t'=>if t'=t then X t++[v] else X t') h3/\FrS W h h2:=by
 obtain ⟨B,g,lB,f,hW,fr⟩:=r
 have hlb:=fr.len
 have sl:Sl h 1 sB (B.map enc1):=g.sl
 have b1:Sl (h++[AObj.cells ⟨[I v],0,0,false⟩]) 1 (.sl h.length 0 1 1 none 0) [encN' v]:=by
  have:=(Gr.lit (h:=h) (sz:=1) (v:=encN' v) rfl).sl
  rwa [a3_] at this
 have e1:Ext h (h++[AObj.cells ⟨[I v],0,0,false⟩]):=Ext.push _ _
 have f':=f.frs (D:=fun _=>False) (FrS.ofExt e1) fun _ _ _ z=>z
 obtain ⟨s2,h2,k1,k2,k3,k4⟩:=f'.append (bytes:=8) (t:=t) ht b1 (by simp) oM oM (by simp; omega)
 have g2:=(g.ext e1).frs k4 fun o z1 z2 z3=>by have:=hW o z3; omega
 have c2:s2.cells=[s2]:=by
  have:=(k3.sl (t:=t) ht).cells
  simpa using this
 obtain ⟨h3,n1,n2,n3,n4⟩:=g2.write0 (i:=(t:Int)) (v:=s2) oM (by simp; omega) (by rw[c2]; rfl) (by rw[c2]; simp[k2])
 refine ⟨gi B t,s2,h2,h3,fun H e=>by rw[sl.ld0 e oM oM oM]; rfl,sl.idxG oM oM,k1,n1,?_,(FrS.ofExt e1).trans k4⟩
 have hlq:=k4.len
 have f3:=k3.frs n3.s (fun o z1 z2 z3=>by
  rcases z2 with z2|z2
  ·have:=hW o z2; omega
  ·simp only[List.length_append] at *; omega)
 refine ⟨B.set t s2,?_,by rw[List.length_set]; exact lB,?_,fun o z=>?_,?_⟩
 ·refine n2.cong ?_
  rw[c2,show ((t:Int)).toNat=t by omega,List.map_set]
 ·refine (f3.mono fun o z1 z2=>?_).congr fun t' ht'=>⟨?_,?_⟩
  ·rcases z2 with z2|z2
   ·exact .inl z2
   ·simp only[List.length_append] at z2; exact .inr oM
  ·show gi (B.set t s2) (t':Int)=if t'=t then s2 else gi B t'
   rw[giset2 oM]
  ·show (if t'=t then X t++[v] else X t').map encN'=if t'=t then (X t).map encN'++[encN' v] else (X t').map encN'
   by_cases qt:t'=t
   ·simp[qt]
   ·rw[if_neg qt,if_neg qt]
 ·rcases z with z|z
  ·exact hW o z
  ·omega
 ·have z1:FrS (fun o=>o=q\/hb.length<=o) h (h++[AObj.cells ⟨[I v],0,0,false⟩]):=FrS.ofExt e1
  exact ((fr.trans z1).trans (k4.mono fun o _ z=>.inr (hW o z))).trans (n3.s.mono fun o _ z=>.inl oM)
structure CL (N:Nat) (fr:List (Nat × Nat)) (s:Nat) (bs:List Bool) (L:List Nat):Prop where
 lb:bs.length=N
 lt:∀p∈L,p<N
 tr:∀p∈L,gi bs (p:Int)=true
 me:∀p:Nat,p<N->gi bs (p:Int)=true->p∈L
 rc:∀p∈L,Rch fr s p
 su:∀p:Nat,p<N->s.testBit p=true->gi bs (p:Int)=true
 ct:un N (fun p=>if gi bs (p:Int)=true then 0 else -1)+L.length=N
theorem CL.le {N s:Nat}{fr:List (Nat × Nat)}{bs:List Bool}{L:List Nat}(c:CL N fr s bs L):L.length<=N:=by
 have:=c.ct
 have:=m1_ N fun p=>if gi bs (p:Int)=true then 0 else -1
 omega
theorem CL.add {N s p q:Nat}{fr:List (Nat × Nat)}{bs:List Bool}{L:List Nat}(c:CL N fr s bs L)(hp:p∈L)(hf:(p,q)∈fr)(hq:q<N)(hn:gi bs (q:Int)=false):CL N fr s (bs.set q true) (L++[q]):=by
 have lb:=c.lb
 have hg:∀x:Nat,gi (bs.set q true) (x:Int)=if x=q then true else gi bs (x:Int):=fun x=>giset2 oM true
 refine ⟨by simp[lb],fun x hx=>?_,fun x hx=>?_,fun x hx h=>?_,fun x hx=>?_,fun x hx h=>?_,?_⟩
 ·rcases List.mem_append.1 hx with hx|hx
  ·exact c.lt x hx
  ·rw[List.mem_singleton.1 hx]; exact hq
 ·rw[hg]
  rcases List.mem_append.1 hx with hx|hx
  ·split
   ·rfl
   ·exact c.tr x hx
  ·rw[List.mem_singleton.1 hx,if_pos rfl]
 ·rw[hg] at h
  by_cases z:x=q
  ·rw[z]; simp
  ·rw[if_neg z] at h
   exact List.mem_append_left _ (c.me x hx h)
 ·rcases List.mem_append.1 hx with hx|hx
  ·exact c.rc x hx
  ·rw[List.mem_singleton.1 hx]; exact .on (c.rc p hp) hf
 ·rw[hg]
  split
  ·rfl
  ·exact c.su x hx h
 ·have e:(fun x:Nat=>if gi (bs.set q true) (x:Int)=true then (0:Int) else -1)=up (fun x:Nat=>if gi bs (x:Int)=true then (0:Int) else -1) q 0:=by
   funext x
   rw[hg,up]
   by_cases z:x=q
   ·simp[z]
   ·simp[z]
  rw[e,un_up hq (Int.le_refl _),if_pos (by simp[hn])]
  have:=c.ct
  simp only[List.length_append,List.length_cons,List.length_nil]
  omega
theorem CL.done {N s:Nat}{fr:List (Nat × Nat)}{bs:List Bool}{L:List Nat}(c:CL N fr s bs L)(hf:∀f∈fr,f.2<N)(hs:∀p,s.testBit p=true->p<N)(hd:∀p∈L,∀q,(p,q)∈fr->gi bs (q:Int)=true):bs=bits N (cloF N fr s):=by
 have key:∀p:Nat,p<N->gi bs (p:Int)=(cloF N fr s).testBit p:=by
  intro p hp
  have h1:gi bs (p:Int)=true↔(cloF N fr s).testBit p=true:=by
   rw[a9p hf hs]
   constructor
   ·exact fun h=>c.rc p (c.me p hp h)
   ·intro h
    have:∀x,Rch fr s x->x<N->gi bs (x:Int)=true:=by
     intro x hx
     induction hx with
     |here h=>exact fun hx=>c.su _ hx h
     |@on a b h1 h2 ih=>
      intro hb
      have ha:=b7h hf hs h1
      exact hd a (c.me a ha (ih ha)) b h2
    exact this p h hp
  cases h2:gi bs (p:Int)<;>cases h3:(cloF N fr s).testBit p<;>simp_all
 refine List.ext_getElem (by rw[c.lb,a4i]) fun p h1 h2=>?_
 rw[<-b2_ h1,<-b2_ h2,key p (by have:=c.lb; omega),a6O (by have:=c.lb; omega)]
def onF (bs:List Bool)(i:Nat):List Nat:=(List.range i).filter fun p:Nat=>gi bs (p:Int)
theorem b3z (bs:List Bool)(i:Nat):onF bs (i+1)=onF bs i++if gi bs (i:Int)=true then [i] else []:=by
 simp only[onF,List.range_succ,List.filter_append]
 congr 1
 by_cases q:gi bs (i:Int)=true
 ·simp[List.filter,q]
 ·simp[List.filter,q]
theorem c3P (bs:List Bool)(i:Nat):(onF bs i).length<=i:=Nat.le_trans (List.length_filter_le ..) (by simp)
theorem CL.zero {N s:Nat}{fr:List (Nat × Nat)}:CL N fr s (bits N s) (onF (bits N s) N):=by
 refine ⟨a4i ..,fun p hp=>?_,fun p hp=>?_,fun p h1 h2=>?_,fun p hp=>?_,fun p h1 h2=>by rw[a6O h1]; exact h2,?_⟩
 ·have:=(List.mem_filter.1 hp).1; simpa using this
 ·exact (List.mem_filter.1 hp).2
 ·exact List.mem_filter.2 ⟨by simpa using h1,h2⟩
 ·obtain ⟨h1,h2⟩:=List.mem_filter.1 hp
  have h1:p<N:=by simpa using h1
  rw[a6O h1] at h2
  exact .here h2
 ·have:∀n,un n (fun p=>if gi (bits N s) (p:Int)=true then 0 else -1)+(onF (bits N s) n).length=n:=by
   intro n
   induction n with
   |zero=>rfl
   |succ n ih=>
    rw[b3z,List.length_append]
    show un n _+(if (if gi (bits N s) (n:Int)=true then (0:Int) else -1)<0 then 1 else 0)+_=_
    by_cases q:gi (bits N s) (n:Int)=true
    ·simp only[if_pos q]; simp; omega
    ·simp only[if_neg q]; simp; omega
  exact this N
end Go.Gm.AQ
namespace Go.Gm.AQ
open Go Go.Gm
structure NfV (h:Heap) (nf:NF) (sS sF:AV):Prop where
 s:Sl h 3 sS (nf.st.map encS)
 f:Sl h 2 sF (nf.fr.map encF)
 ok:NfOk nf
 n0:nf.n<=1000
 ls:nf.st.length<=100000
 lf:nf.fr.length<=100000
 sv:∀x∈nf.st,x.2.2<2 ^ 62
theorem NfV.ext {h h':Heap}{nf:NF}{sS sF:AV}(v:NfV h nf sS sF)(e:Ext h h'):NfV h' nf sS sF:=⟨v.s.ext e,v.f.ext e,v.ok,v.n0,v.ls,v.lf,v.sv⟩
abbrev nfC (nf:NF)(sS sF:AV):List AV:=[I nf.n,I nf.s,I nf.e,sS,sF]
section
variable {nf:NF} {sS sF:AV}
theorem b5g {W:Nat->Prop}{hb h h':Heap}{q:Nat}{sB:AV}(r:RwI W hb q sB nf.n (outs nf.fr) h){D:Nat->Prop}(f:FrS D h h')(hd:∀o,o<h.length->D o->o≠q/\o<hb.length)(hq:q<hb.length) :
  ∀t,t<nf.n->∃s,ld1 h' (elP 1 sB t)=some s/\idxS 1 sB (I t)=some (elP 1 sB t)/\Sl h' 1 s ((outs nf.fr t).map encN'):=by
 intro t ht
 obtain ⟨B,g,lB,fm,hW,fr⟩:=r
 have g':=g.frs f fun o z1 z2 z3=>by have:=fr.len; have:=hd o oM z3; omega
 have sl:Sl h' 1 sB (B.map enc1):=g'.sl
 have fm':=fm.frs f fun o z1 z2 z3=>by have:=hd o z1 z3; have:=hW o z2; omega
 exact ⟨gi B t,by rw[sl.ld0 (Ext.refl _) oM oM oM]; rfl,sl.idxG oM oM,fm'.sl ht⟩
theorem c0t {W2 : Nat → Prop} {hb h2 hr : Heap} {oo orr i p s : Nat} {out rows : AV} (ok : NfOk nf) (hn : nf.n ≤ 1000) (hlf : nf.fr.length ≤ 100000) (hs : ∀ q, s.testBit q = true → q < nf.n)
    (rw0 : RwI W2 h2 orr rows nf.n (outs nf.fr) hr) (e2 : Ext hb h2) (ho2 : oo < h2.length ∧ oo ≠ orr ∧ orr < h2.length) {l0 : AV} {ol0 : Nat} (hl0 : l0 ≠ .nils → ol0 < h2.length ∧ ol0 ≠ orr) {Q : AV → Heap → Prop}
    (hQ : ∀ h bs L l ol, FrS (fun o => o = oo ∨ (l0 ≠ .nils ∧ o = ol0) ∨ hr.length ≤ o) hr h → Gr oo (oo + 1) h 1 out (bs.map encB) → Gr ol (ol + 1) h 1 l (L.map encN') → (l ≠ .nils → ((l0 ≠ .nils ∧ ol = ol0) ∨ hr.length ≤ ol) ∧ ol < h.length ∧ ol ≠ oo) → CL nf.n nf.fr s bs L → i < L.length → L[i]? = some p → (∀ q, (p, q) ∈ nf.fr → gi bs (q : Int) = true) → (∀ (k : Nat) x, k < i → L[k]? = some x → ∀ q, (x, q) ∈ nf.fr → gi bs (q : Int) = true) →
      WP (fun p : Nat × Nat => a1p p.1 p.2 out l rows (I i) h) Q) :
    ∀ (d k : Nat) (h : Heap) (bs : List Bool) (L : List Nat) (l : AV) (ol : Nat), k + d = (outs nf.fr p).length → FrS (fun o => o = oo ∨ (l0 ≠ .nils ∧ o = ol0) ∨ hr.length ≤ o) hr h → Gr oo (oo + 1) h 1 out (bs.map encB) → Gr ol (ol + 1) h 1 l (L.map encN') → (l ≠ .nils → ((l0 ≠ .nils ∧ ol = ol0) ∨ hr.length ≤ ol) ∧ ol < h.length ∧ ol ≠ oo) → CL nf.n nf.fr s bs L → L[i]? = some p →
      (∀ q ∈ (outs nf.fr p).take k, gi bs (q : Int) = true) → (∀ (k : Nat) x, k < i → L[k]? = some x → ∀ q, (x, q) ∈ nf.fr → gi bs (q : Int) = true) →
      WP (fun p : (Nat × Nat) × Nat => n8_ p.1.1 p.1.2 p.2 out l rows (I i) (I k) h) Q := by
  have hrl := (show FrS _ h2 hr by obtain ⟨B, _, _, _, _, fr⟩ := rw0; exact fr).len
  intro d
  induction d with
  | zero =>
    intro k h bs L l ol hk f go gl lh cl hp hd hold
    refine WP.rnd (fun i' j => a2Y i'.1 i'.2 j out l rows (I i) (I k) h) ?_
    have hiL := (List.getElem?_eq_some_iff.1 hp).1
    have hpn := cl.lt p (List.mem_of_getElem? hp)
    have gp : gi L (i : Int) = p := by rw [b2_ hiL]; rw [List.getElem?_eq_getElem hiL] at hp; injection hp
    obtain ⟨sr, r1, r2, r3⟩ := b5g rw0 f (fun o z1 z2 => by
      rcases z2 with z2 | z2 | z2
      · exact ⟨by omega, by omega⟩
      · have := hl0 z2.1; omega
      · omega) ho2.2.2 p hpn
    have hle := cl.le
    have r4 := r3.lenG
    rw [List.take_of_length_le (by omega)] at hd
    simp -implicitDefEqProofs (disch := first | assumption | omega | exact Ext.refl _ | (simp only [gL, gA] <;> omega) | fail) only [gC, reduceIte, Nat.reduceAdd, Nat.reduceMul, gl.sl.idxG, gl.sl.ld0, gp, encN', r1, r2, r4]
    exact WP.lv (hQ h bs L l ol f go gl lh cl hiL hp (fun q hq => hd q (b6K.2 hq)) hold) fun i j => rfl
  | succ d ih =>
    intro k h bs L l ol hk f go gl lh cl hp hd hold
    refine WP.rnd (fun i' j => a2Y i'.1 i'.2 j out l rows (I i) (I k) h) ?_
    have hiL := (List.getElem?_eq_some_iff.1 hp).1
    have hpm := List.mem_of_getElem? hp
    have hpn := cl.lt p hpm
    have gp : gi L (i : Int) = p := by rw [b2_ hiL]; rw [List.getElem?_eq_getElem hiL] at hp; injection hp
    obtain ⟨sr, r1, r2, r3⟩ := b5g rw0 f (fun o z1 z2 => by
      rcases z2 with z2 | z2 | z2
      · exact ⟨by omega, by omega⟩
      · have := hl0 z2.1; omega
      · omega) ho2.2.2 p hpn
    have hle := cl.le
    have r4 := r3.lenG
    have hol := b6J nf.fr p
    obtain ⟨q, hq⟩ : ∃ q, (outs nf.fr p)[k]? = some q := ⟨(outs nf.fr p)[k], List.getElem?_eq_getElem (by omega)⟩
    have gq : gi (outs nf.fr p) (k : Int) = q := by rw [b2_ (by omega)]; rw [List.getElem?_eq_getElem (by omega)] at hq; injection hq
    have hqf := b6K.1 (List.mem_of_getElem? hq)
    have hqn : q < nf.n := (ok.fr _ hqf).2
    have lb := cl.lb
    have htk : (outs nf.fr p).take (k + 1) = (outs nf.fr p).take k ++ [q] := b2y hq
    obtain ⟨b, hb'⟩ : ∃ b, gi bs (q : Int) = b := ⟨_, rfl⟩
    cases b with
    | true =>
      simp -implicitDefEqProofs (disch := first | assumption | omega | exact Ext.refl _ | (simp only [gL, gA] <;> omega) | fail) only [gC, reduceIte, Nat.reduceAdd, Nat.reduceMul, gl.sl.idxG, gl.sl.ld0, gp, encN', r1, r2, r4, r3.idxG, r3.ld0, gq, go.sl.idxG, go.sl.ld0, hb', encB]
      refine ih (k + 1) h bs L l ol (by omega) f go gl lh cl hp (fun x hx => ?_) hold
      rw [htk] at hx
      rcases List.mem_append.1 hx with hx | hx
      · exact hd x hx
      · rw [List.mem_singleton.1 hx]; exact hb'
    | false =>
      have hlne : l ≠ .nils := gl.nnil (by intro z; have : L = [] := by simpa using z
                                           rw [this] at hp; simp at hp)
      obtain ⟨h3, w1, w2, w3, w4⟩ := go.write0 (i := (q : Int)) (v := .bool true) (by omega) (by simp; omega) rfl rfl
      have f3 : FrS (fun o => o = oo) h h3 := w3.s.mono fun o z1 z2 => by omega
      have gl3 := t6_ gl f3 fun z => (lh z).2.2
      have lit := Gr.lit (h := h3) (sz := 1) (v := encN' q) rfl
      have e1 : Ext h3 (mkObj h3 (encN' q)) := Ext.push _ _
      rw [a3_] at lit e1
      have hll : (h3 ++ [AObj.cells ⟨encN' q, 0, 0, false⟩]).length = h3.length + 1 := by simp
      obtain ⟨s', h4, o', a1, a2, a3, a4, a5⟩ := Gr.appQ (bytes := 8) (gl3.ext e1) (fun z => by have := lh z; omega) lit.sl (by omega) (by omega) (by simp; omega)
      have f4 := (FrS.ofExt (D := fun x => l ≠ .nils ∧ x = ol) e1).trans a4
      have ho' : o' = ol := a5 hlne
      subst ho'
      have lh' := lh hlne
      have hh1 := f.len
      have hh4 := f4.len
      have fD : FrS (fun o => o = oo ∨ (l0 ≠ .nils ∧ o = ol0) ∨ hr.length ≤ o) hr h4 := by
        refine ⟨by omega, fun o z1 z2 => ?_⟩
        rw [f4.get (fun z => ?_) (by omega), f3.get (fun z => z1 (.inl z)) (by omega)]
        · exact f.get z1 z2
        · rcases lh'.1 with y | y
          · exact z1 (.inr (.inl ⟨y.1, by rw [z.2]; exact y.2⟩))
          · exact z1 (.inr (.inr (by rw [z.2]; exact y)))
      have go4 := t6_ w2 f4 fun _ z => lh'.2.2 z.2.symm
      simp only [encN'] at a1
      have r3' := r3
      have goe : Gr oo (oo + 1) h4 1 out ((bs.set q true).map encB) := go4.cong (by rw [List.map_set]; rfl)
      have hgs : ∀ x : Nat, gi (bs.set q true) (x : Int) = if x = q then true else gi bs (x : Int) := fun x => giset2 (by omega) true
      simp -implicitDefEqProofs (disch := first | assumption | omega | exact Ext.refl _ | (simp only [gL, gA] <;> omega) | fail) only [gC, reduceIte, Nat.reduceAdd, Nat.reduceMul, gl.sl.idxG, gl.sl.ld0, gp, encN', r1, r2, r4, r3.idxG, r3.ld0, gq, go.sl.idxG, go.sl.ld0, hb', encB, w1, a1]
      refine ih (k + 1) h4 (bs.set q true) (L ++ [q]) s' o' (by omega) fD goe (a2.cong (by simp [encN'])) (fun z => ⟨lh'.1, (a3 z).2, lh'.2.2⟩) (cl.add hpm hqf hqn hb') (a2N hp) (fun x hx => ?_) fun k' x hk' hx y hy => ?_
      · rw [htk] at hx
        rw [hgs]
        rcases List.mem_append.1 hx with hx | hx
        · split
          · rfl
          · exact hd x hx
        · rw [List.mem_singleton.1 hx, if_pos rfl]
      · rw [List.getElem?_append_left (by omega)] at hx
        rw [hgs]
        split
        · rfl
        · exact hold k' x hk' hx y hy
end
end Go.Gm.AQ
namespace Go.Gm.AQ
open Go Go.Gm
section
variable {nf:NF} {sS sF:AV}
theorem c0u {W2:Nat->Prop}{hb h2 hr:Heap}{oo orr s:Nat}{out rows:AV}(ok:NfOk nf)(hn:nf.n<=1000)(hlf:nf.fr.length<=100000)(hs:∀q,s.testBit q=true->q<nf.n)(rw0:RwI W2 h2 orr rows nf.n (outs nf.fr) hr)(e2:Ext hb h2)(ho2:oo<h2.length/\oo≠orr/\orr<h2.length){l0:AV}{ol0:Nat}(hl0:l0≠.nils->ol0<h2.length/\ol0≠orr){Q:AV->Heap->Prop}(hQ:∀h,FrS (fun o=>o=oo\/(l0≠.nils/\o=ol0)\/hr.length<=o) hr h->Gr oo (oo+1) h 1 out ((bits nf.n (cloF nf.n nf.fr s)).map encB)->Q out h) :
  ∀(d i:Nat) (h:Heap) (bs:List Bool) (L:List Nat) (l:AV) (ol:Nat),i+d=nf.n->i<=L.length->FrS (fun o=>o=oo\/(l0≠.nils/\o=ol0)\/hr.length<=o) hr h->Gr oo (oo+1) h 1 out (bs.map encB)->Gr ol (ol+1) h 1 l (L.map encN')->(l≠.nils->((l0≠.nils/\ol=ol0)\/hr.length<=ol)/\ol<h.length/\ol≠oo)->CL nf.n nf.fr s bs L->
   (∀(k:Nat) x,k<i->L[k]?=some x->∀q,(x,q)∈nf.fr->gi bs (q:Int)=true)->
   WP (fun p:Nat × Nat=>v9_ p.1 p.2 out l rows (I i) h) Q:=by
 have fin:∀(i:Nat) (h:Heap) (bs:List Bool) (L:List Nat) (l:AV) (ol:Nat),i=L.length->FrS (fun o=>o=oo\/(l0≠.nils/\o=ol0)\/hr.length<=o) hr h->Gr oo (oo+1) h 1 out (bs.map encB)->CL nf.n nf.fr s bs L->(∀(k:Nat) x,k<i->L[k]?=some x->∀q,(x,q)∈nf.fr->gi bs (q:Int)=true)->Q out h:=by
  intro i h bs L l ol hi f go cl hd
  have:=cl.done (fun f hf=>(ok.fr f hf).2) hs fun p hp q hq=>by
   obtain ⟨k,hk⟩:=b2A hp
   exact hd k p (by have:=(List.getElem?_eq_some_iff.1 hk).1; omega) hk q hq
  rw[this] at go
  exact hQ h f go
 intro d
 induction d with
 |zero=>
  intro i h bs L l ol hi hiL f go gl lh cl hd
  refine WP.rnd (fun i' j=>a2Z i' j out l rows (I i) h) ?_
  have hle:=cl.le
  have hli:i=L.length:=oM
  refine g1 gl.sl.lenG ?_
  exact WP.ret (fin i h bs L l ol hli f go cl hd)
 |succ d ih=>
  intro i h bs L l ol hi hiL f go gl lh cl hd
  refine WP.rnd (fun i' j=>a2Z i' j out l rows (I i) h) ?_
  have hle:=cl.le
  by_cases q:i=L.length
  ·refine g1 gl.sl.lenG ?_
   exact WP.ret (fin i h bs L l ol q f go cl hd)
  ·obtain ⟨p,hp⟩:∃p,L[i]?=some p:=⟨L[i],List.getElem?_eq_getElem oM⟩
   refine g1 gl.sl.lenG ?_
   refine WP.ent (c0t ok hn hlf hs rw0 e2 ho2 hl0 (fun h' bs' L' l' ol' f' go' gl' lh' cl' hi' hp' hd' hold'=>?_) (outs nf.fr p).length 0 h bs L l ol oM f go gl lh cl hp (fun q hq=>by simp at hq) hd) fun i=>rfl
   refine WP.congr (fun p=>a7Q p.1 p.2 out l' rows (I i) h') ?_
   have:=cl'.le
   refine g0 ?_
   refine ih (i+1) h' bs' L' l' ol' oM hi' f' go' gl' lh' cl' fun k x hk hx y hy=>?_
   by_cases z:k=i
   ·subst z
    rw[hp'] at hx
    injection hx with hx
    subst hx
    exact hd' y hy
   ·exact hold' k x oM hx y hy
theorem c0v {hb h2:Heap}{on orr:Nat}{out l rows:AV}(v:NfV hb nf sS sF)(e2:Ext hb h2)(ho2:orr<h2.length)(hor:hb.length<=orr)(rn:hb[on]?=some (.cells ⟨nfC nf sS sF,0,0,false⟩)){Q:AV->Heap->Prop}(hQ:∀h W,RwI W h2 orr rows nf.n (outs nf.fr) h->WP (fun k:Nat=>a1o k out l rows h) Q) :
  ∀(d i:Nat) (h:Heap) (W:Nat->Prop),i+d=nf.fr.length->RwI W h2 orr rows nf.n (outs (nf.fr.take i)) h->
   WP (fun p:Nat × Nat=>v8_ p.1 p.2 (.ptr on 0 5 0) out l rows (I i) h) Q:=by
 have ok:=v.ok
 have hlf:=v.lf
 intro d
 induction d with
 |zero=>
  intro i h W hi r
  refine WP.rnd (fun i' j=>a3a i' j (.ptr on 0 5 0) out l rows (I i) h) ?_
  have eh:Ext hb h:=by
   obtain ⟨B,_,_,_,_,fr⟩:=r
   exact fr.ext e2 fun o z1 z2=>by have:=e2.len; omega
  have rn1:=eh.get rn
  have sl:=(v.ext eh).f.lenG
  rw[List.take_of_length_le oM] at r
  refine g2 @rn1 @sl ?_
  exact WP.lv (hQ h W r) fun i j=>rfl
 |succ d ih=>
  intro i h W hi r
  refine WP.rnd (fun i' j=>a3a i' j (.ptr on 0 5 0) out l rows (I i) h) ?_
  have frr:FrS (fun o=>o=orr\/h2.length<=o) h2 h:=by obtain ⟨B,_,_,_,_,fr⟩:=r; exact fr
  have eh:Ext hb h:=frr.ext e2 fun o z1 z2=>by have:=e2.len; omega
  have rn1:=eh.get rn
  have sf:=(v.ext eh).f
  have sl:=sf.lenG
  obtain ⟨f,hf⟩:∃f,nf.fr[i]?=some f:=⟨nf.fr[i],List.getElem?_eq_getElem oM⟩
  have gf':gi nf.fr (i:Int)=f:=by rw[b2_ oM]; rw[List.getElem?_eq_getElem oM] at hf; injection hf
  obtain ⟨f1,f2⟩:=ok.fr f (List.mem_of_getElem? hf)
  obtain ⟨h3,hh3⟩:∃h3,h3=((h++[AObj.cells ⟨[I 0,I 0],0,0,false⟩]).set h.length (.cells ⟨[I f.1,I f.2],0,0,false⟩)):=⟨_,rfl⟩
  have e3:Ext h h3:=by rw[hh3]; exact eX
  have r3:h3[h.length]?=some (.cells ⟨[I f.1,I f.2],0,0,false⟩):=by rw[hh3]; exact a0_ (by simp)
  have l3:h3.length=h.length+1:=by rw[hh3]; simp
  have hlen:=frr.len
  have rr3:RwI (fun o=>W o/\o<h.length) h2 orr rows nf.n (outs (nf.fr.take i)) h3:=by
   obtain ⟨B,g,lB,fm,hW,fr⟩:=r
   exact ⟨B,g.ext e3,lB,(fm.mono fun o z1 z2=>⟨z2,z1⟩).frs (D:=fun _=>False) (FrS.ofExt e3) fun _ _ _ z=>z,fun o z=>hW o z.1,fr.trans (FrS.ofExt e3)⟩
  have hol:=b6J (nf.fr.take i) f.1
  rw[List.length_take] at hol
  obtain ⟨s1,s2,h4,h5,k1,k2,k3,k4,k5,k6⟩:=rr3.step ho2 f1 f.2 oM
  rw[l3] at k3
  have k1':=k1 h3 (Ext.refl _)
  have b5:=(List.getElem?_eq_some_iff.1 r3).1
  have r4:h4[h.length]?=some (.cells ⟨[I f.1,I f.2],0,0,false⟩):=by
   rw[k6.get (fun z=>oM) b5]; exact r3
  have i0:idxA 2 1 (.ptr h.length 0 2 0) (.int .i64 0)=some (.ptr h.length 0 1 0):=by simp[idxA]
  have i1:idxA 2 1 (.ptr h.length 0 2 0) (.int .i64 1)=some (.ptr h.length 1 2 0):=by simp[idxA]
  have k4':stN 1 h4 (elP 1 rows f.1) s2=some h5:=k4
  refine g8 @rn1 @sl sf.idxG sf.ldN @gf' @encF.eq_1 @i0 @i1 ?_
  rw[show AV.int .i64 0=I 0 from rfl,<-hh3]
  refine g6 @r3 @k2 @k1' @k3 @r4 @k4' ?_
  refine ih (i+1) h5 (fun o=>(W o/\o<h.length)\/h3.length<=o) oM ?_
  have e:(fun t'=>if t'=f.1 then outs (nf.fr.take i) f.1++[f.2] else outs (nf.fr.take i) t')=outs (nf.fr.take (i+1)):=by
   funext t
   rw[b2y hf,c0s]
   by_cases z:t=f.1
   ·rw[if_pos z,if_pos z.symm,z]
   ·rw[if_neg z,if_neg (fun y=>z y.symm),List.append_nil]
  rw[e] at k5
  exact k5
theorem c0w {hb h1:Heap}{on oo s:Nat}{out:AV}(v:NfV hb nf sS sF)(e1:Ext hb h1)(hoo:hb.length<=oo/\oo<h1.length)(rn:hb[on]?=some (.cells ⟨nfC nf sS sF,0,0,false⟩))(go:Gr oo (oo+1) h1 1 out ((bits nf.n s).map encB))(hs:∀q,s.testBit q=true->q<nf.n) :
  ∀(d i:Nat) (h:Heap) (l:AV),i+d=nf.n->Ext h1 h->Gr h1.length h.length h 1 l ((onF (bits nf.n s) i).map encN')->
   WP (fun p:Nat × Nat=>n7_ p.1 p.2 (.ptr on 0 5 0) out l (I i) h) fun r h'=>Ext hb h'/\Gr hb.length h'.length h' 1 r ((bits nf.n (cloF nf.n nf.fr s)).map encB):=by
 have hn:=v.n0
 have lb:=a4i nf.n s
 intro d
 induction d with
 |zero=>
  intro i h l hi e gl
  refine WP.rnd (fun i' j=>a3b i' j (.ptr on 0 5 0) out l (I i) h) ?_
  have goh:=go.ext e
  have l1:=e1.len
  have l2:=e.len
  obtain rfl:i=nf.n:=oM
  refine g2 goh.sl.lenG @lb ?_
  refine WP.lv (WP.congr (fun k:Nat=>a7S k (.ptr on 0 5 0) out l h) ?_) fun i j=>rfl
  have rn1:=(e1.trans e).get rn
  obtain ⟨s2,h2,a2,g2,e2,_,l3⟩:=g0_ (zero:=[AV.nils]) (sz:=1) (bytes:=24) (n:=(nf.n:Int)) h oM oM oM rfl rfl
  have r0:RwI (fun o=>h2.length<=o) h2 h.length s2 nf.n (outs (nf.fr.take 0)) h2:=by
   refine ⟨List.replicate nf.n .nils,g2.cong (by simp),by simp,Fam.nil _ _ _ fun t ht=>⟨w2_ oM oM,by simp[outs]⟩,fun o z=>z,FrS.refl _ _⟩
  simp -implicitDefEqProofs (disch:=first|assumption|omega|(simp only[gL,gA]<;>omega)|fail) only[gC,reduceIte,rn1,a2]
  refine WP.ent (c0v v ((e1.trans e).trans e2) (by omega) (by omega) rn (fun h3 W3 r3=>?_) nf.fr.length 0 h2 _ (by omega) r0) fun i=>rfl
  refine WP.congr (fun k:Nat=>a7R k out l s2 h3) ?_
  obtain ⟨ol,g1,g3⟩:=gl.point
  have fr3:FrS (fun o=>o=h.length\/h2.length<=o) h2 h3:=by obtain ⟨B,_,_,_,_,fr⟩:=r3; exact fr
  have l4:=fr3.len
  have go3:=(goh.ext e2).frs fr3 fun o z1 z2 z3=>oM
  have gl3:=t6_ (g3.ext e2) fr3 fun z1 z2=>by have:=g1 z1; omega
  have eh3:Ext hb h3:=fr3.ext ((e1.trans e).trans e2) fun o z1 z2=>oM
  refine WP.ent (c0u v.ok hn v.lf hs r3 ((e1.trans e).trans e2) ⟨oM,oM,oM⟩ (l0:=l) (ol0:=ol) (fun z=>by have:=g1 z; omega) (fun h4 f4 g4=>⟨f4.ext eh3 fun o z1 z2=>?_,?_⟩) nf.n 0 h3 (bits nf.n s) (onF (bits nf.n s) nf.n) l ol oM oM (FrS.refl _ _) go3 gl3 (fun z=>by have:=g1 z; exact ⟨.inl ⟨z,rfl⟩,oM,oM⟩) CL.zero fun k x hk=>oM) fun i=>rfl
  ·rcases z2 with z2|z2|z2
   ·omega
   ·have:=g1 z2.1; omega
   ·omega
  ·have:=f4.len
   exact (g4.low _ (Nat.le_refl _)).mono hoo.1 (Nat.le_refl _)
 |succ d ih=>
  intro i h l hi e gl
  refine WP.rnd (fun i' j=>a3b i' j (.ptr on 0 5 0) out l (I i) h) ?_
  have goh:=go.ext e
  have l2:=e.len
  have hol:=c3P (bits nf.n s) i
  obtain ⟨b,hb'⟩:∃b,gi (bits nf.n s) (i:Int)=b:=⟨_,rfl⟩
  cases b with
  |true=>
   obtain ⟨s',h',q1,q2,q3⟩:=Gr.append1 (bytes:=8) gl (v:=encN' i) rfl oM oM (by simp; omega) oM (Nat.le_refl _)
   rw[a3_] at q1
   simp only[encN'] at q1
   refine g7 goh.sl.lenG @lb goh.sl.idxG goh.sl.ld0 @hb' @encB.eq_1 @q1 ?_
   refine ih (i+1) h' s' oM (q3.ext e (Nat.le_refl _)) (q2.cong ?_)
   rw[b3z,if_pos hb',List.map_append]; rfl
  |false=>
   refine g6 goh.sl.lenG @lb goh.sl.idxG goh.sl.ld0 @hb' @encB.eq_1 ?_
   refine ih (i+1) h l oM e (gl.cong ?_)
   rw[b3z,if_neg (by rw[hb']; simp),List.append_nil]
theorem b3b {h:Heap}{is:AV}{s:Nat}(v:NfV h nf sS sF)(hi:Sl h 1 is ((bits nf.n s).map encB))(hs:∀q,s.testBit q=true->q<nf.n) :
  Tot tab c3_ [.agg (nfC nf sS sF),is] h fun r h'=>Ext h h'/\Gr h.length h'.length h' 1 r ((bits nf.n (cloF nf.n nf.fr s)).map encB):=by
 refine WP.tot (fun k=>a9E k _ _ h) ?_
 have hn:=v.n0
 have lb:=a4i nf.n s
 have ss:=v.s.one
 have sf:=v.f.one
 obtain ⟨h1,hh1⟩:∃h1,h1=h++[AObj.cells ⟨nfC nf sS sF,0,0,false⟩]:=⟨_,rfl⟩
 have e1:Ext h h1:=by rw[hh1]; exact Ext.push _ _
 have l1:h1.length=h.length+1:=by rw[hh1]; simp
 have rn:h1[h.length]?=some (.cells ⟨nfC nf sS sF,0,0,false⟩):=by rw[hh1]; simp
 have e2:Ext h1 (mkObj h1 []):=Ext.push _ _
 have ge:=Gr.empty h1 1
 rw[a3_] at e2 ge
 have ll:(h1++[AObj.cells ⟨[],0,0,false⟩]).length=h1.length+1:=by simp
 obtain ⟨s',h3,q1,q2,q3,q4⟩:=ge.appendS (bytes:=1) ((hi.ext e1).ext e2) oM oM (by simp[lb]; omega) oM oM
 have q5:=(q4 (by simp)).1
 rw[List.nil_append] at q5
 have l3:=q3.len
 have e3:Ext h1 h3:=q3.ext e2 (Nat.le_refl _)
 rw[l1] at q1
 refine g2 @ss @sf ?_
 rw[<-hh1]
 refine g1 @q1 ?_
 refine WP.ent ((c0w (v.ext e1) e3 ⟨Nat.le_refl _,oM⟩ rn q5 hs nf.n 0 h3 .nils oM (Ext.refl _) (Gr.nil ..)).mono ?_) fun i=>rfl
 rintro r h4 ⟨e4,g4⟩
 exact ⟨e1.trans e4,g4.mono oM (Nat.le_refl _)⟩
theorem c2n {h:Heap}(v:NfV h nf sS sF) :
  Tot tab a2v [.agg (nfC nf sS sF)] h fun r h'=>Ext h h'/\Gr h.length h'.length h' 1 r ((bits nf.n (cloF nf.n nf.fr (2 ^ nf.s))).map encB):=by
 refine WP.tot (fun k=>b0g k _ h) ?_
 have hn:=v.n0
 have ss:=v.s.one
 have sf:=v.f.one
 have hsn:=v.ok.s
 obtain ⟨h1,hh1⟩:∃h1,h1=h++[AObj.cells ⟨nfC nf sS sF,0,0,false⟩]:=⟨_,rfl⟩
 have e1:Ext h h1:=by rw[hh1]; exact Ext.push _ _
 have l1:h1.length=h.length+1:=by rw[hh1]; simp
 have rn:h1[h.length]?=some (.cells ⟨nfC nf sS sF,0,0,false⟩):=by rw[hh1]; simp
 obtain ⟨s2,h2,a2,g2,e2,_,l2⟩:=g0_ (zero:=[AV.bool false]) (sz:=1) (bytes:=1) (n:=(nf.n:Int)) h1 oM oM oM rfl rfl
 have hre:List.replicate (nf.n:Int).toNat [AV.bool false]=(List.replicate nf.n false).map encB:=by simp[encB]
 rw[hre] at g2
 obtain ⟨h3,w1,w2,w3,w4⟩:=g2.write0 (i:=(nf.s:Int)) (v:=.bool true) oM (by simp; omega) rfl rfl
 have e3:Ext h h3:=w3.ext (e1.trans e2) oM
 have rn2:=e2.get rn
 have rn3:h3[h.length]?=some (.cells ⟨nfC nf sS sF,0,0,false⟩):=by rw[w3.get oM oM]; exact rn2
 have eb:(List.replicate nf.n false).set nf.s true=bits nf.n (2 ^ nf.s):=by
  refine List.ext_getElem (by simp[bits]) fun p h1 h2=>?_
  simp only[List.getElem_set,List.getElem_replicate,bits,List.getElem_map,List.getElem_range,Nat.testBit_two_pow]
  by_cases q:nf.s=p
  ·simp[q]
  ·simp[q]
 have g3:Gr h1.length (h1.length+1) h3 1 s2 ((bits nf.n (2 ^ nf.s)).map encB):=w2.cong (by rw[<-eb,List.map_set]; rfl)
 simp -implicitDefEqProofs (maxSteps:=1000000) (disch:=first|assumption|omega|(simp only[gL]<;>omega)|((repeat (first|exact Ext.refl _|assumption|apply Ext.app|apply Ext.mk|(refine Ext.setr ?_ (by (first|omega|(simp only[gL]<;>omega))) _))); done)|(simp only[gL,gA,ss,sf]<;>omega)|fail) only[gB,setAll,partL,fldV,reduceIte,Nat.reduceAdd,Nat.reduceMul,ss,sf]
 rw[<-hh1]
 refine g6 @a2 @rn2 g2.sl.idxG @List.length_replicate.{0} @w1 @rn3 ?_
 refine WP.call (b3b (v.ext e3) g3.sl fun q hq=>?_) ?_
 ·rw[Nat.testBit_two_pow] at hq
  have:nf.s=q:=by simpa using hq
  omega
 rintro r h4 ⟨e4,g4⟩
 exact WP.ret ⟨e3.trans e4,g4.mono e3.len (Nat.le_refl _)⟩
theorem c0x (st:List (Nat × Nat × Nat))(x:Nat × Nat × Nat)(s m:Nat):stpF (st++[x]) s m=if s.testBit x.1 && x.2.2.testBit m then stpF st s m ||| 2 ^ x.2.1 else stpF st s m:=by
 simp[stpF]
theorem c2o {n s q:Nat}:(bits n s).set q true=bits n (s ||| 2 ^ q):=by
 refine List.ext_getElem (by simp[bits]) fun p h1 h2=>?_
 simp only[List.getElem_set,bits,List.getElem_map,List.getElem_range,tb_or]
 by_cases z:q=p
 ·simp[z]
 ·simp[z,Ne.symm z]
theorem c2p {hb:Heap}{on oo s m:Nat}{is to:AV}(v:NfV hb nf sS sF)(hoo:hb.length<=oo)(hi:Sl hb 1 is ((bits nf.n s).map encB))(hm:m<5)(rn:hb[on]?=some (.cells ⟨nfC nf sS sF,0,0,false⟩)) :
  ∀(d i:Nat) (h:Heap),i+d=nf.st.length->Ext hb h->oo<h.length->Gr oo (oo+1) h 1 to ((bits nf.n (stpF (nf.st.take i) s m)).map encB)->
   WP (fun p:Nat × Nat=>r2_ p.1 p.2 is (I m) (.ptr on 0 5 0) to (I i) h) fun r h'=>Ext hb h'/\Gr hb.length h'.length h' 1 r ((bits nf.n (nxtF nf s m)).map encB):=by
 have hn:=v.n0
 have hls:=v.ls
 have lb:∀s,(bits nf.n s).length=nf.n:=a4i nf.n
 intro d
 induction d with
 |zero=>
  intro i h hid e hol g
  refine WP.rnd (fun i' j=>a4c i' j is (I m) (.ptr on 0 5 0) to (I i) h) ?_
  have rn1:=e.get rn
  have sl:=(v.ext e).s.lenG
  rw[List.take_of_length_le oM] at g
  refine g2 @rn1 @sl ?_
  refine WP.lv (WP.congr (fun k:Nat=>a9b k (.ptr on 0 5 0) to h) ?_) fun i j=>rfl
  refine g1 @rn1 ?_
  refine WP.call (b3b (v.ext e) g.sl fun q hq=>?_) ?_
  ·obtain ⟨x,hx,_,_,rfl⟩:=a9q.1 hq
   exact (v.ok.st x hx).2
  rintro r h2 ⟨e2,g2⟩
  exact WP.ret ⟨e.trans e2,g2.mono e.len (Nat.le_refl _)⟩
 |succ d ih=>
  intro i h hid e hol g
  refine WP.rnd (fun i' j=>a4c i' j is (I m) (.ptr on 0 5 0) to (I i) h) ?_
  have rn1:=e.get rn
  have sv:=(v.ext e).s
  have sl:=sv.lenG
  obtain ⟨x,hx⟩:∃x,nf.st[i]?=some x:=⟨nf.st[i],List.getElem?_eq_getElem oM⟩
  have gx:gi nf.st (i:Int)=x:=by rw[b2_ oM]; rw[List.getElem?_eq_getElem oM] at hx; injection hx
  have hxm:=List.mem_of_getElem? hx
  obtain ⟨x1,x2⟩:=v.ok.st x hxm
  have x3:=v.sv x hxm
  obtain ⟨h3,hh3⟩:∃h3,h3=((h++[AObj.cells ⟨[I 0,I 0,I 0],0,0,false⟩]).set h.length (.cells ⟨[I x.1,I x.2.1,I x.2.2],0,0,false⟩)):=⟨_,rfl⟩
  have e3:Ext h h3:=by rw[hh3]; exact eX
  have r3:h3[h.length]?=some (.cells ⟨[I x.1,I x.2.1,I x.2.2],0,0,false⟩):=by rw[hh3]; exact a0_ (by simp)
  have g3:=g.ext e3
  have hi3:=(hi.ext e).ext e3
  have l3:=e3.len
  have lbs:=lb s
  have lb2:=lb (stpF (nf.st.take i) s m)
  have gs:gi (bits nf.n s) (x.1:Int)=s.testBit x.1:=a6O x1
  have hsh:binV .shr .scalar (I (x.2.2:Nat)) (.int .u64 m)=some (I ((x.2.2 >>> m:Nat):Int)):=shr_i (k:=.u64) (s:=x.2.2) (m:=(m:Int)) oM oM
  have hle:x.2.2 >>> m<2 ^ 62:=Nat.lt_of_le_of_lt (by rw[Nat.shiftRight_eq_div_pow]; exact Nat.div_le_self _ _) x3
  have han:binV .and .scalar (I ((x.2.2 >>> m:Nat):Int)) (.int .i64 1)=some (I (((x.2.2 >>> m) &&& 1:Nat):Int)):=and_i (b:=1) hle (by decide)
  have hcv:convV .u64 (I m)=some (.int .u64 m):=a5n oM oM
  have hsn:=c0x (nf.st.take i) x s m
  rw[<-b2y hx] at hsn
  have on1:oo+1<=h.length:=hol
  obtain ⟨b1,hb1⟩:∃b1,s.testBit x.1=b1:=⟨_,rfl⟩
  rw[hb1] at gs hsn
  cases b1 with
  |false=>
   refine g6 @rn1 @sl sv.idxG sv.ldN @gx @encS.eq_1 ?_
   rw[show AV.int .i64 0=I 0 from rfl,<-hh3]
   refine g6 @r3 hi3.idxG hi3.ld0 @lbs @gs @encB.eq_1 ?_
   refine ih (i+1) h3 oM (e.trans e3) oM ?_
   rw[hsn]; exact g3
  |true=>
   obtain ⟨b2,hb2⟩:∃b2,x.2.2.testBit m=b2:=⟨_,rfl⟩
   rw[hb2] at hsn
   cases b2 with
   |false=>
    have hbt:binV .eql .scalar (I (((x.2.2 >>> m) &&& 1:Nat):Int)) (.int .i64 1)=some (.bool false):=bit_f (m:=(m:Int)) oM hb2
    refine g6 @rn1 @sl sv.idxG sv.ldN @gx @encS.eq_1 ?_
    rw[show AV.int .i64 0=I 0 from rfl,<-hh3]
    refine g10 @r3 hi3.idxG hi3.ld0 @lbs @gs @encB.eq_1 @hcv @hsh @han @hbt ?_
    refine ih (i+1) h3 oM (e.trans e3) oM ?_
    rw[hsn]; exact g3
   |true=>
    have hbt:binV .eql .scalar (I (((x.2.2 >>> m) &&& 1:Nat):Int)) (.int .i64 1)=some (.bool true):=bit_t (m:=(m:Int)) oM hb2
    obtain ⟨h4,w1,w2,w3,w4⟩:=g3.write0 (i:=(x.2.1:Int)) (v:=.bool true) oM (by simp[lb2]; omega) rfl rfl
    refine g6 @rn1 @sl sv.idxG sv.ldN @gx @encS.eq_1 ?_
    rw[show AV.int .i64 0=I 0 from rfl,<-hh3]
    refine g13 @r3 hi3.idxG hi3.ld0 @lbs @gs @encB.eq_1 @hcv @hsh @han @hbt g3.sl.idxG @lb2 @w1 ?_
    refine ih (i+1) h4 oM (w3.ext (e.trans e3) hoo) oM (w2.cong ?_)
    rw[hsn,if_pos (by rfl),<-c2o,List.map_set]; rfl
theorem c3Q {h:Heap}{s m:Nat}{is:AV}(v:NfV h nf sS sF)(hi:Sl h 1 is ((bits nf.n s).map encB))(hm:m<5) :
  Tot tab u1_ [.agg (nfC nf sS sF),is,I m] h fun r h'=>Ext h h'/\Gr h.length h'.length h' 1 r ((bits nf.n (nxtF nf s m)).map encB):=by
 refine WP.tot (fun k=>b0E k _ _ _ h) ?_
 have hn:=v.n0
 have ss:=v.s.one
 have sf:=v.f.one
 obtain ⟨h1,hh1⟩:∃h1,h1=h++[AObj.cells ⟨nfC nf sS sF,0,0,false⟩]:=⟨_,rfl⟩
 have e1:Ext h h1:=by rw[hh1]; exact Ext.push _ _
 have l1:h1.length=h.length+1:=by rw[hh1]; simp
 have rn:h1[h.length]?=some (.cells ⟨nfC nf sS sF,0,0,false⟩):=by rw[hh1]; simp
 obtain ⟨s2,h2,a2,g2,e2,_,l2⟩:=g0_ (zero:=[AV.bool false]) (sz:=1) (bytes:=1) (n:=(nf.n:Int)) h1 oM oM oM rfl rfl
 have hre:List.replicate (nf.n:Int).toNat [AV.bool false]=(bits nf.n (stpF (nf.st.take 0) s m)).map encB:=by
  simp only[List.take_zero,stpF,List.foldl_nil,bits,Int.toNat_natCast,List.map_map]
  refine List.ext_getElem (by simp) fun p h1 h2=>by simp[encB]
 rw[hre] at g2
 simp -implicitDefEqProofs (maxSteps:=1000000) (disch:=first|assumption|omega|(simp only[gL]<;>omega)|((repeat (first|exact Ext.refl _|assumption|apply Ext.app|apply Ext.mk|(refine Ext.setr ?_ (by (first|omega|(simp only[gL]<;>omega))) _))); done)|(simp only[gL,gA,ss,sf]<;>omega)|fail) only[gB,setAll,partL,fldV,reduceIte,Nat.reduceAdd,Nat.reduceMul,ss,sf]
 rw[<-hh1]
 refine g1 @a2 ?_
 refine WP.ent ((c2p (v.ext e1) (Nat.le_refl _) (hi.ext e1) hm rn nf.st.length 0 h2 oM e2 oM g2).mono ?_) fun i=>rfl
 rintro r h3 ⟨e3,g3⟩
 exact ⟨e1.trans e3,g3.mono oM (Nat.le_refl _)⟩
end
end Go.Gm.AQ
namespace Go.Gm.AQ
open Go Go.Gm
section
variable {h:Heap}
structure SI (hb h:Heap) (states sN sA:AV) (oS oN oA:Nat) (xs:List AV) (D':List (List Int)) (acc':List Bool):Prop where
 eb:Ext hb h
 ro:h[hb.length+1]?=some (.cells ⟨[sN,sA],0,0,false⟩)
 gs:Gr oS (oS+1) h 1 states (xs.map enc1)
 gn:Gr oN (oN+1) h 5 sN (D'.map encR)
 ga:Gr oA (oA+1) h 1 sA (acc'.map encB)
 ps:states≠.nils->hb.length<=oS/\oS≠hb.length+1/\oS<h.length
 pn:sN≠.nils->hb.length+2<=oN/\oN<h.length/\(states≠.nils->oN≠oS)
 pa:sA≠.nils->hb.length+2<=oA/\oA<h.length/\(states≠.nils->oA≠oS)/\(sN≠.nils->oA≠oN)
 bl:hb.length+2<=h.length
section
variable {hb:Heap} {states sN sA:AV} {oS oN oA:Nat} {xs:List AV} {D':List (List Int)} {acc':List Bool}
theorem SI.ext (p:SI hb h states sN sA oS oN oA xs D' acc'){h':Heap}(e:Ext h h'):SI hb h' states sN sA oS oN oA xs D' acc':=by
 have l:=e.len
 refine ⟨p.eb.trans e,e.get p.ro,p.gs.ext e,p.gn.ext e,p.ga.ext e,fun z=>?_,fun z=>?_,fun z=>?_,by have:=p.bl; omega⟩
 ·have:=p.ps z; omega
 ·have:=p.pn z; exact ⟨this.1,oM,this.2.2⟩
 ·have:=p.pa z; exact ⟨this.1,oM,this.2.2⟩
theorem SI.frs (p:SI hb h states sN sA oS oN oA xs D' acc'){h':Heap}{o:Nat}(f:FrS (fun q=>q=o) h h')(ho:hb.length<=o/\o≠hb.length+1)(h1:states≠.nils->o≠oS)(h2:sN≠.nils->o≠oN)(h3:sA≠.nils->o≠oA):SI hb h' states sN sA oS oN oA xs D' acc':=by
 have l:=f.len
 have bl:=p.bl
 have nl:∀{lo:Nat} {sz:Nat} {s:AV} {xs:List (List AV)},Gr lo (lo+1) h sz s xs->(s≠.nils->o≠lo)->Gr lo (lo+1) h' sz s xs:=by
  intro lo sz s xs g hq
  by_cases q:s=.nils
  ·subst q
   have:=g.isNil
   subst this
   exact Gr.nil ..
  ·exact g.frs f fun r r1 r2=>by have:=hq q; omega
 refine ⟨f.ext p.eb fun q q1=>oM,by rw[f.get oM oM]; exact p.ro,nl p.gs h1,nl p.gn h2,nl p.ga h3,fun z=>?_,fun z=>?_,fun z=>?_,oM⟩
 ·have:=p.ps z; omega
 ·have:=p.pn z; exact ⟨this.1,oM,this.2.2⟩
 ·have:=p.pa z; exact ⟨this.1,oM,this.2.2⟩
theorem SI.addS (p:SI hb h states sN sA oS oN oA xs D' acc')(to:AV)(h1:to.cells=[to])(hl:xs.length<=100000) :
  ∃s' h' o',apnd 1 24 states (.sl h.length 0 1 1 none 0) (h++[AObj.cells ⟨[to],0,0,false⟩])=some (s',h')/\SI hb h' s' sN sA o' oN oA (xs++[to]) D' acc'/\FrS (fun q=>states≠.nils/\q=oS) h h'/\(s'≠.nils->(o'=oS/\states≠.nils)\/h.length<=o'):=by
 have b:=Gr.lit (h:=h) (sz:=1) (v:=[to]) rfl
 rw[a3_] at b
 have e1:Ext h (h++[AObj.cells ⟨[to],0,0,false⟩]):=Ext.push _ _
 obtain ⟨s',h',o',q1,q2,q3,q4⟩:=(p.gs.ext e1).appP (fun z=>by have:=p.ps z; simp; omega) b.sl oM (bytes:=24) oM (by simp; omega)
 have f:=(FrS.ofExt (D:=fun q=>states≠.nils/\q=oS) e1).trans q4
 have l:=f.len
 have bl:=p.bl
 have l1:(h++[AObj.cells ⟨[to],0,0,false⟩]).length=h.length+1:=by simp
 have ps:=p.ps
 have pn:=p.pn
 have pa:=p.pa
 have q3':s'≠.nils->(o'=oS/\states≠.nils)\/h.length<=o':=fun z=>by
  rcases (q3 z).1 with q|q
  ·exact .inl q
  ·exact .inr oM
 have nl:∀{lo:Nat} {sz:Nat} {s:AV} {xs:List (List AV)},Gr lo (lo+1) h sz s xs->(s≠.nils->states≠.nils->lo≠oS)->Gr lo (lo+1) h' sz s xs:=by
  intro lo sz s xs g hq
  by_cases q:s=.nils
  ·subst q
   have:=g.isNil
   subst this
   exact Gr.nil ..
  ·exact g.frs f fun r r1 r2 z=>by have:=hq q z.1; omega
 refine ⟨s',h',o',q1,⟨f.ext p.eb fun q z1 z2=>by have:=ps z2.1; omega,by rw[f.get (fun z=>by have:=ps z.1; omega) oM]; exact p.ro,q2.cong (by simp[enc1]),nl p.gn fun z1 z2=>(pn z1).2.2 z2,nl p.ga fun z1 z2=>(pa z1).2.2.1 z2,fun z=>?_,fun z=>?_,fun z=>?_,oM⟩,f,q3'⟩
 ·have h1:=(q3 z).2
  rcases q3' z with ⟨h2,h3⟩|h2
  ·have:=ps h3; omega
  ·omega
 ·have h1:=pn z
  refine ⟨h1.1,oM,fun z2=>?_⟩
  rcases q3' z2 with ⟨h2,h3⟩|h2
  ·have:=h1.2.2 h3; omega
  ·omega
 ·have h1:=pa z
  refine ⟨h1.1,oM,fun z2=>?_,h1.2.2.2⟩
  rcases q3' z2 with ⟨h2,h3⟩|h2
  ·have:=h1.2.2.1 h3; omega
  ·omega
theorem SI.row (p:SI hb h states sN sA oS oN oA xs D' acc'){r:List Int}(hr:r.length=5)(hl:D'.length<=100000) :
  ∃s' h' o',apnd 5 40 sN (.sl h.length 0 1 5 none 0) (h++[AObj.cells ⟨r.map I,0,0,false⟩])=some (s',h')/\s'.one=true/\s'.cells=[s']/\h'[hb.length+1]?=some (.cells ⟨[sN,sA],0,0,false⟩)/\
   SI hb (h'.set (hb.length+1) (.cells ⟨[s',sA],0,0,false⟩)) states s' sA oS o' oA xs (D'++[r]) acc'/\FrS (fun q=>q=hb.length+1\/(sN≠.nils/\q=oN)) h (h'.set (hb.length+1) (.cells ⟨[s',sA],0,0,false⟩))/\(s'≠.nils->(o'=oN/\sN≠.nils)\/h.length<=o'):=by
 have b:=Gr.lit (h:=h) (sz:=5) (v:=r.map I) (by simp[hr])
 rw[a3_] at b
 have e1:Ext h (h++[AObj.cells ⟨r.map I,0,0,false⟩]):=Ext.push _ _
 obtain ⟨s',h',o',q1,q2,q3,q4⟩:=(p.gn.ext e1).appP (fun z=>by have:=p.pn z; simp; omega) b.sl oM (bytes:=40) oM (by simp; omega)
 have f:=(FrS.ofExt (D:=fun q=>sN≠.nils/\q=oN) e1).trans q4
 have l:=f.len
 have bl:=p.bl
 have ps:=p.ps
 have pn:=p.pn
 have pa:=p.pa
 have l1:(h++[AObj.cells ⟨r.map I,0,0,false⟩]).length=h.length+1:=by simp
 have q3':s'≠.nils->(o'=oN/\sN≠.nils)\/h.length<=o':=fun z=>by
  rcases (q3 z).1 with q|q
  ·exact .inl q
  ·exact .inr oM
 have ro:=p.ro
 have ro':h'[hb.length+1]?=some (.cells ⟨[sN,sA],0,0,false⟩):=by rw[f.get (fun z=>by have:=pn z.1; omega) oM]; exact ro
 have nl:∀{lo:Nat} {sz:Nat} {s:AV} {xs:List (List AV)},Gr lo (lo+1) h sz s xs->(s≠.nils->sN≠.nils->oN≠lo)->Gr lo (lo+1) h' sz s xs:=by
  intro lo sz s xs g hq
  by_cases q:s=.nils
  ·subst q
   have:=g.isNil
   subst this
   exact Gr.nil ..
  ·exact g.frs f fun r r1 r2 z=>by have:=hq q z.1; omega
 have st:∀{lo:Nat} {sz:Nat} {s:AV} {xs:List (List AV)} (x:AObj),Gr lo (lo+1) h' sz s xs->(s≠.nils->lo≠hb.length+1)->Gr lo (lo+1) (h'.set (hb.length+1) x) sz s xs:=by
  intro lo sz s xs x g hq
  by_cases q:s=.nils
  ·subst q
   have:=g.isNil
   subst this
   exact Gr.nil ..
  ·exact g.set (by have:=hq q; omega) _
 have q5:∀z:s'≠.nils,hb.length+2<=o'/\o'<h'.length:=fun z=>by
  have h1:=(q3 z).2
  rcases q3' z with ⟨h2,h3⟩|h2
  ·have:=pn h3; omega
  ·omega
 refine ⟨s',h',o',q1,q2.sl.one,q2.sl.cells,ro',⟨(f.ext p.eb fun q z1 z2=>by have:=pn z2.1; omega).setr (Nat.le_succ _) _,a0_ oM,st _ (nl p.gs fun z1 z2=>(pn z2).2.2 z1) fun z=>by have:=ps z; omega,st _ (q2.cong (by simp[encR])) fun z=>by have:=q5 z; omega,st _ (nl p.ga fun z1 z2=>((pa z1).2.2.2 z2).symm) fun z=>by have:=pa z; omega,?_,?_,?_,by simp; omega⟩,(f.mono fun q _ z=>Or.inr z).trans ((FrS.set1 _ _ _).mono fun q _ z=>Or.inl z),q3'⟩
 ·intro z; have:=ps z; simp; omega
 ·intro z
  have h1:=q5 z
  refine ⟨h1.1,by simp; exact h1.2,fun z2=>?_⟩
  rcases q3' z with ⟨h2,h3⟩|h2
  ·have:=(pn h3).2.2 z2; omega
  ·have:=ps z2; omega
 ·intro z
  have h1:=pa z
  refine ⟨h1.1,by simp; omega,h1.2.2.1,fun z2=>?_⟩
  rcases q3' z2 with ⟨h2,h3⟩|h2
  ·have:=h1.2.2.2 h3; omega
  ·omega
theorem SI.accept (p:SI hb h states sN sA oS oN oA xs D' acc')(b:Bool)(hl:acc'.length<=100000) :
  ∃s' h' o',apnd 1 1 sA (.sl h.length 0 1 1 none 0) (h++[AObj.cells ⟨[.bool b],0,0,false⟩])=some (s',h')/\s'.one=true/\s'.cells=[s']/\h'[hb.length+1]?=some (.cells ⟨[sN,sA],0,0,false⟩)/\
   SI hb (h'.set (hb.length+1) (.cells ⟨[sN,s'],0,0,false⟩)) states sN s' oS oN o' xs D' (acc'++[b])/\FrS (fun q=>q=hb.length+1\/(sA≠.nils/\q=oA)) h (h'.set (hb.length+1) (.cells ⟨[sN,s'],0,0,false⟩))/\(s'≠.nils->(o'=oA/\sA≠.nils)\/h.length<=o'):=by
 have b0:=Gr.lit (h:=h) (sz:=1) (v:=encB b) rfl
 rw[a3_] at b0
 have e1:Ext h (h++[AObj.cells ⟨encB b,0,0,false⟩]):=Ext.push _ _
 obtain ⟨s',h',o',q1,q2,q3,q4⟩:=(p.ga.ext e1).appP (fun z=>by have:=p.pa z; simp; omega) b0.sl oM (bytes:=1) oM (by simp; omega)
 have f:=(FrS.ofExt (D:=fun q=>sA≠.nils/\q=oA) e1).trans q4
 have l:=f.len
 have bl:=p.bl
 have ps:=p.ps
 have pn:=p.pn
 have pa:=p.pa
 have l1:(h++[AObj.cells ⟨encB b,0,0,false⟩]).length=h.length+1:=by simp
 have q3':s'≠.nils->(o'=oA/\sA≠.nils)\/h.length<=o':=fun z=>by
  rcases (q3 z).1 with q|q
  ·exact .inl q
  ·exact .inr oM
 have ro:=p.ro
 have ro':h'[hb.length+1]?=some (.cells ⟨[sN,sA],0,0,false⟩):=by rw[f.get (fun z=>by have:=pa z.1; omega) oM]; exact ro
 have nl:∀{lo:Nat} {sz:Nat} {s:AV} {xs:List (List AV)},Gr lo (lo+1) h sz s xs->(s≠.nils->sA≠.nils->oA≠lo)->Gr lo (lo+1) h' sz s xs:=by
  intro lo sz s xs g hq
  by_cases q:s=.nils
  ·subst q
   have:=g.isNil
   subst this
   exact Gr.nil ..
  ·exact g.frs f fun r r1 r2 z=>by have:=hq q z.1; omega
 have st:∀{lo:Nat} {sz:Nat} {s:AV} {xs:List (List AV)} (x:AObj),Gr lo (lo+1) h' sz s xs->(s≠.nils->lo≠hb.length+1)->Gr lo (lo+1) (h'.set (hb.length+1) x) sz s xs:=by
  intro lo sz s xs x g hq
  by_cases q:s=.nils
  ·subst q
   have:=g.isNil
   subst this
   exact Gr.nil ..
  ·exact g.set (by have:=hq q; omega) _
 have q5:∀z:s'≠.nils,hb.length+2<=o'/\o'<h'.length:=fun z=>by
  have h1:=(q3 z).2
  rcases q3' z with ⟨h2,h3⟩|h2
  ·have:=pa h3; omega
  ·omega
 refine ⟨s',h',o',q1,q2.sl.one,q2.sl.cells,ro',⟨(f.ext p.eb fun q z1 z2=>by have:=pa z2.1; omega).setr (Nat.le_succ _) _,a0_ oM,st _ (nl p.gs fun z1 z2=>(pa z2).2.2.1 z1) fun z=>by have:=ps z; omega,st _ (nl p.gn fun z1 z2=>(pa z2).2.2.2 z1) fun z=>by have:=pn z; omega,st _ (q2.cong (by simp[encB])) fun z=>by have:=q5 z; omega,?_,?_,?_,by simp; omega⟩,(f.mono fun q _ z=>Or.inr z).trans ((FrS.set1 _ _ _).mono fun q _ z=>Or.inl z),q3'⟩
 ·intro z; have:=ps z; simp; omega
 ·intro z; have:=pn z; exact ⟨this.1,by simp; omega,this.2.2⟩
 ·intro z
  have h1:=q5 z
  refine ⟨h1.1,by simp; exact h1.2,fun z2=>?_,fun z2=>?_⟩
  ·rcases q3' z with ⟨h2,h3⟩|h2
   ·have:=(pa h3).2.2.1 z2; omega
   ·have:=ps z2; omega
  ·rcases q3' z with ⟨h2,h3⟩|h2
   ·have:=(pa h3).2.2.2 z2; omega
   ·have:=pn z2; omega
end
end
end Go.Gm.AQ
namespace Go.Gm.AQ
open Go Go.Gm
def SetsV (n:Nat)(h:Heap)(W:Nat->Prop)(B:List AV)(S:List Nat):Prop:=
 B.length=S.length/\∀(i s:Nat),S[i]?=some s->(∀p,s.testBit p=true->p<n)/\∃lo hi,Gr lo hi h 1 (gi B (i:Int)) ((bits n s).map encB)/\∀o,lo<=o->o<hi->o<h.length/\W o
theorem SetsV.go {n:Nat}{h h':Heap}{W W' D:Nat->Prop}{B:List AV}{S:List Nat}(v:SetsV n h W B S)(f:FrS D h h')(hd:∀o,o<h.length->W o->¬D o/\W' o):SetsV n h' W' B S:=by
 refine ⟨v.1,fun i s hi=>?_⟩
 obtain ⟨hs,lo,hi',g,r⟩:=v.2 i s hi
 have l:=f.len
 refine ⟨hs,lo,hi',g.frs f fun o z1 z2=>?_,fun o z1 z2=>?_⟩
 ·have:=r o z1 z2; exact (hd o this.1 this.2).1
 ·have:=r o z1 z2; exact ⟨oM,(hd o this.1 this.2).2⟩
theorem SetsV.ext {n:Nat}{h h':Heap}{W:Nat->Prop}{B:List AV}{S:List Nat}(v:SetsV n h W B S)(e:Ext h h'):SetsV n h' W B S:=
 v.go (D:=fun _=>False) (FrS.ofExt e) fun o _ w=>⟨id,w⟩
theorem SetsV.snoc {n:Nat}{h:Heap}{W:Nat->Prop}{B:List AV}{S:List Nat}(v:SetsV n h W B S){a:AV}{t lo hi:Nat}(ht:∀p,t.testBit p=true->p<n)(g:Gr lo hi h 1 a ((bits n t).map encB))(r:∀o,lo<=o->o<hi->o<h.length/\W o):SetsV n h W (B++[a]) (S++[t]):=by
 refine ⟨by simp[v.1],fun i s hi'=>?_⟩
 by_cases q:i<S.length
 ·rw[List.getElem?_append_left q] at hi'
  obtain ⟨hs,lo',hi2,g',r'⟩:=v.2 i s hi'
  refine ⟨hs,lo',hi2,?_,r'⟩
  rw[show gi (B++[a]) (i:Int)=gi B (i:Int) from a3h oM (by have:=v.1; omega)]; exact g'
 ·have hl:=(List.getElem?_eq_some_iff.1 hi').1
  simp only[List.length_append,List.length_cons,List.length_nil] at hl
  obtain rfl:i=S.length:=oM
  rw[List.getElem?_append_right (Nat.le_refl _)] at hi'
  simp at hi'
  subst hi'
  refine ⟨ht,lo,hi,?_,r⟩
  rw[b2_ (by simp[v.1])]
  simp[<-v.1]
  exact g
theorem c0y {h:Heap}{a b:AV}{s t n:Nat}(va:Sl h 1 a ((bits n s).map encB))(vb:Sl h 1 b ((bits n t).map encB))(hn:n<=1000)(hs:∀p,s.testBit p=true->p<n)(ht:∀p,t.testBit p=true->p<n) :
  Tot tab a0z [a,b] h fun r h'=>h=h'/\∃x:Bool,r=.bool x/\(x=true↔s=t):=by
 refine WP.tot (fun k=>b0H k _ _ h) ?_
 have la:=a4i n s
 have lb:=a4i n t
 have loop:∀d i:Nat,i+d=n->(∀p,p<i->s.testBit p=t.testBit p)->WP (fun p:Nat × Nat=>a0c p.1 p.2 a b (I i) h) fun r h'=>h=h'/\∃x:Bool,r=.bool x/\(x=true↔s=t):=by
  intro d
  induction d with
  |zero=>
   intro i hi hp
   refine WP.rnd (fun i' j=>a4e i' j a b (I i) h) ?_
   refine g2 va.lenG @la ?_
   refine WP.ret ⟨rfl,true,rfl,⟨fun _=>?_,fun _=>rfl⟩⟩
   refine Nat.eq_of_testBit_eq fun p=>?_
   by_cases q:p<n
   ·exact hp p oM
   ·cases h1:s.testBit p with
    |true=>exact absurd (hs p h1) q
    |false=>
     cases h2:t.testBit p with
     |true=>exact absurd (ht p h2) q
     |false=>rfl
  |succ d ih=>
   intro i hi hp
   refine WP.rnd (fun i' j=>a4e i' j a b (I i) h) ?_
   have h1:=a6O (s:=s) (n:=n) (p:=i) oM
   have h2:=a6O (s:=t) (n:=n) (p:=i) oM
   obtain ⟨x,hx⟩:∃x,s.testBit i=x:=⟨_,rfl⟩
   obtain ⟨y,hy⟩:∃y,t.testBit i=y:=⟨_,rfl⟩
   rw[hx] at h1
   rw[hy] at h2
   by_cases q:x=y
   ·subst q
    have hxx:(!(x == x))=false:=by simp
    refine g12 va.lenG @la va.idxG va.ld0 vb.idxG vb.ld0 @lb @h1 @h2 @encB.eq_1 @neq_b @hxx ?_
    refine ih (i+1) oM fun p hp'=>?_
    by_cases z:p=i
    ·rw[z,hx,hy]
    ·exact hp p oM
   ·have hxx:(!(x == y))=true:=by simp[q]
    refine g12 va.lenG @la va.idxG va.ld0 vb.idxG vb.ld0 @lb @h1 @h2 @encB.eq_1 @neq_b @hxx ?_
    refine WP.ret ⟨rfl,false,rfl,⟨fun z=>absurd z (by decide),fun z=>?_⟩⟩
    subst z
    exact absurd (hx.symm.trans hy) q
 exact WP.ent (loop n 0 oM fun p hp=>oM) fun i=>rfl
def idxI (t:Nat)(i:Nat)(S:List Nat):Int:=match idxF t i S with
 |some j=>(j:Int)
 |none=>-1
theorem c0z {h:Heap}{states b:AV}{W:Nat->Prop}{B:List AV}{S:List Nat}{t n:Nat}(gs:Sl h 1 states (B.map enc1))(sv:SetsV n h W B S)(vb:Sl h 1 b ((bits n t).map encB))(hn:n<=1000)(hS:S.length<=100000)(ht:∀p,t.testBit p=true->p<n) :
  Tot tab a0x [states,b] h fun r h'=>h=h'/\r=I (idxI t 0 S):=by
 refine WP.tot (fun k=>b0F k _ _ h) ?_
 have lB:=sv.1
 have loop:∀d i:Nat,i+d=S.length->idxI t i (List.drop i S)=idxI t 0 S->WP (fun p:Nat × Nat=>a0a p.1 p.2 states b (I i) h) fun r h'=>h=h'/\r=I (idxI t 0 S):=by
  intro d
  induction d with
  |zero=>
   intro i hi hp
   refine WP.rnd (fun i' j=>a4d i' j states b (I i) h) ?_
   refine g2 gs.lenG @lB ?_
   refine WP.ret ⟨rfl,?_⟩
   rw[<-hp,List.drop_of_length_le oM]
   rfl
  |succ d ih=>
   intro i hi hp
   refine WP.rnd (fun i' j=>a4d i' j states b (I i) h) ?_
   have hx:S[i]?=some S[i]:=List.getElem?_eq_getElem oM
   obtain ⟨hs,lo,hi',g,_⟩:=sv.2 i _ hx
   have hdr:S.drop i=S[i]::S.drop (i+1):=List.drop_eq_getElem_cons oM
   simp -implicitDefEqProofs (disch:=first|assumption|omega|exact Ext.refl _|(simp only[gL,gA]<;>omega)|fail) only[gC,reduceIte,gs.lenG,lB,gs.idxG,gs.ld0,enc1]
   refine WP.call (c0y g.sl vb hn hs ht) ?_
   rintro r h' ⟨rfl,x,rfl,hx2⟩
   rw[hdr,idxI,idxF] at hp
   cases x with
   |true=>
    refine g0 ?_
    refine WP.ret ⟨rfl,?_⟩
    rw[<-hp,if_pos (hx2.1 rfl)]
   |false=>
    refine g0 ?_
    have hne:¬S[i]=t:=fun z=>by have:=hx2.2 z; cases this
    rw[if_neg hne] at hp
    exact ih (i+1) oM hp
 exact WP.ent (loop S.length 0 oM (by rw[List.drop_zero])) fun i=>rfl
end Go.Gm.AQ
namespace Go.Gm.AQ
open Go Go.Gm
section
variable {nf:NF} {sS sF:AV}
def OffS (hb:Heap)(states sN sA:AV)(oS oN oA:Nat)(o:Nat):Prop:=o≠hb.length+1/\(states≠.nils->o≠oS)/\(sN≠.nils->o≠oN)/\(sA≠.nils->o≠oA)
theorem c2q {xs:List Int}{m:Nat}(hm:m<xs.length)(j:Int):(xs.set m j).take (m+1)=xs.take m++[j]:=by
 refine List.ext_getElem? fun p=>?_
 by_cases q:p<m
 ·rw[List.getElem?_take_of_lt oM,List.getElem?_set_ne oM,List.getElem?_append_left (by simp; omega),List.getElem?_take_of_lt q]
 ·by_cases z:p=m
  ·subst z
   rw[List.getElem?_take_of_lt oM,List.getElem?_set_self hm,List.getElem?_append_right (by simp; omega)]
   simp[Nat.min_eq_left (Nat.le_of_lt hm)]
  ·rw[List.getElem?_eq_none (by simp; omega),List.getElem?_eq_none (by simp; omega)]
theorem c5p (ok:NfOk nf)(s m:Nat):∀p,(nxtF nf s m).testBit p=true->p<nf.n:=by
 have hs:∀p,(stpF nf.st s m).testBit p=true->p<nf.n:=fun p hp=>by
  obtain ⟨x,x1,_,_,x4⟩:=a9q.1 hp
  rw[<-x4]; exact (ok.st x x1).2
 exact fun p hp=>b7h (fun f hf=>(ok.fr f hf).2) hs ((a9p (fun f hf=>(ok.fr f hf).2) hs p).1 hp)
theorem c5q {h0 hb:Heap}{on ot i s nx:Nat}{sN sA:AV}{oN oA:Nat}{D':List (List Int)}{acc':List Bool}{Q:AV->Heap->Prop}(v:NfV hb nf sS sF)(rn:hb[on]?=some (.cells ⟨nfC nf sS sF,0,0,false⟩))(rt:hb[ot]?=some (.cells ⟨[.nils,.nils],0,0,false⟩))(e0:Ext h0 hb)(hot:h0.length<=ot) :
  ∀(d m:Nat) (h:Heap) (states:AV) (oS:Nat) (B:List AV) (S:List Nat) (nxs:List Int),m+d=5->SI hb h states sN sA oS oN oA B D' acc'->SetsV nf.n h (fun o=>OffS hb states sN sA oS oN oA o/\o≠nx) B S->S[i]?=some s->S.length<=200->NxOk h hb nx nxs states sN sA oS oN oA->
   (rowF nf 200 s d m S (nxs.take m)=none->∀h',Ext h0 h'->Q (.tup [.agg [.nils,.nils],I 5]) h')->
   (∀h2 states2 oS2 B2 S2 nxs2,SI hb h2 states2 sN sA oS2 oN oA B2 D' acc'->SetsV nf.n h2 (fun o=>OffS hb states2 sN sA oS2 oN oA o/\o≠nx) B2 S2->S2[i]?=some s->S2.length<=200->NxOk h2 hb nx nxs2 states2 sN sA oS2 oN oA->rowF nf 200 s d m S (nxs.take m)=some (S2,nxs2)->
    WP (fun p:Nat × Nat=>a0F p.1 p.2 (I 200) (.ptr on 0 5 0) (.ptr ot 0 2 0) states2 (.ptr (hb.length+1) 0 2 0) (I i) (.ptr nx 0 5 0) h2) Q)->
   WP (fun p:(Nat × Nat) × Nat=>t2_ p.1.1 p.1.2 p.2 (I 200) (.ptr on 0 5 0) (.ptr ot 0 2 0) states (.ptr (hb.length+1) 0 2 0) (I i) (.ptr nx 0 5 0) (I m) h) Q:=by
 have hn:=v.n0
 intro d
 induction d with
 |zero=>
  intro m h states oS B S nxs h1 mi sv hi hl nk q1 q2
  refine WP.rnd (fun i' j=>a2y i'.1 i'.2 j (I 200) (.ptr on 0 5 0) (.ptr ot 0 2 0) states (.ptr (hb.length+1) 0 2 0) (I i) (.ptr nx 0 5 0) (I m) h) ?_
  obtain rfl:m=5:=oM
  have ht:nxs.take 5=nxs:=List.take_of_length_le (by rw[nk.2.1]; omega)
  refine g0 ?_
  exact WP.lv (q2 h states oS B S nxs mi sv hi hl nk (by rw[ht]; rfl)) fun i j=>rfl
 |succ d ih=>
  intro m h states oS B S nxs h1 mi sv hi hl nk q1 q2
  refine WP.rnd (fun i' j=>a2y i'.1 i'.2 j (I 200) (.ptr on 0 5 0) (.ptr ot 0 2 0) states (.ptr (hb.length+1) 0 2 0) (I i) (.ptr nx 0 5 0) (I m) h) ?_
  have hm5:m<5:=oM
  obtain ⟨t,ht⟩:∃t,nxtF nf s m=t:=⟨_,rfl⟩
  have htn:∀p,t.testBit p=true->p<nf.n:=ht▸c5p v.ok s m
  have key:∀(h:Heap) (states:AV) (oS:Nat) (B:List AV) (S':List Nat) (j:Nat),SI hb h states sN sA oS oN oA B D' acc'->SetsV nf.n h (fun o=>OffS hb states sN sA oS oN oA o/\o≠nx) B S'->S'[i]?=some s->S'.length<=200->NxOk h hb nx nxs states sN sA oS oN oA->rowF nf 200 s (d+1) m S (nxs.take m)=rowF nf 200 s d (m+1) S' (nxs.take m++[(j:Int)])->
    WP (fun p:(Nat × Nat) × Nat=>t3_ p.1.1 p.1.2 p.2 (I 200) (.ptr on 0 5 0) (.ptr ot 0 2 0) states (.ptr (hb.length+1) 0 2 0) (I i) (.ptr nx 0 5 0) (I m) (I j) h) Q:=by
   intro h states oS B S' j mi sv hi hl nk hr
   refine WP.congr (fun p=>a7k p.1.1 p.1.2 p.2 (I 200) (.ptr on 0 5 0) (.ptr ot 0 2 0) states (.ptr (hb.length+1) 0 2 0) (I i) (.ptr nx 0 5 0) (I m) (I j) h) ?_
   obtain ⟨n1,n2,n3,n4,n5,n6⟩:=nk
   have hst:=stP (x:=j) (m:=m) n1
   have hia:=b0q (o:=nx) hm5
   have bon:=(List.getElem?_eq_some_iff.1 n1).1
   have hw:h.set nx (.cells ⟨(nxs.map I).set m (I j),0,0,false⟩)=h.set nx (.cells ⟨(nxs.set m (j:Int)).map I,0,0,false⟩):=by rw[List.map_set]
   rw[hw] at hst
   refine g1 @hia ?_
   have f:FrS (fun q=>q=nx) h (h.set nx (.cells ⟨(nxs.set m (j:Int)).map I,0,0,false⟩)):=⟨by simp,fun p p1 p2=>a9_ fun z=>p1 z.symm⟩
   have hwr:wrAt 1 h h[nx]? nx m (m+1) 0 [I j]=some (h.set nx (.cells ⟨(nxs.set m (j:Int)).map I,0,0,false⟩)):=by
    rw[b0V] at hst; exact hst
   refine g1 @hwr ?_
   have htk:=c2q (xs:=nxs) (m:=m) oM (j:Int)
   refine ih (m+1) _ states oS B S' (nxs.set m (j:Int)) oM (mi.frs f ⟨oM,oM⟩ n4 n5 n6) (sv.go f fun o z1 z2=>⟨z2.2,z2⟩) hi hl ⟨a0_ bon,by simpa using n2,n3,n4,n5,n6⟩ (fun z=>q1 (by rw[hr,<-htk]; exact z)) fun h2 states2 oS2 B2 S2 nxs2 y1 y2 y3 y4 y5 y6=>q2 h2 states2 oS2 B2 S2 nxs2 y1 y2 y3 y4 y5 (by rw[hr,<-htk]; exact y6)
  have hgs:=mi.gs.sl
  have rn':=mi.eb.get rn
  have rt':=mi.eb.get rt
  have hil:=(List.getElem?_eq_some_iff.1 hi).1
  have lB:=sv.1
  obtain ⟨hs,lo,hi',g,_⟩:=sv.2 i s hi
  simp -implicitDefEqProofs (disch:=first|assumption|omega|exact Ext.refl _|(simp only[gL,gA]<;>omega)|fail) only[gC,reduceIte,rn',hgs.idxG,lB,hgs.ld0,enc1]
  refine WP.call (c3Q (v.ext mi.eb) g.sl hm5) ?_
  rintro r h2 ⟨e2,g2⟩
  rw[ht] at g2
  have mi2:=mi.ext e2
  have sv2:=sv.ext e2
  have hgs2:=mi2.gs.sl
  refine WP.call (c0z hgs2 sv2 g2.sl hn oM htn) ?_
  rintro r2 h2' ⟨rfl,rfl⟩
  have rt2:=e2.get rt'
  have bnx:=(List.getElem?_eq_some_iff.1 nk.1).1
  have nk2:NxOk h2 hb nx nxs states sN sA oS oN oA:=⟨e2.get nk.1,nk.2⟩
  cases hix:idxF t 0 S with
  |some j=>
   have e:idxI t 0 S=(j:Int):=by rw[idxI,hix]
   rw[e]
   refine g0 ?_
   exact key h2 states oS B S j mi2 sv2 hi hl nk2 (by rw[rowF]; simp only[ht,hix])
  |none=>
   have e:idxI t 0 S = -1:=by rw[idxI,hix]
   rw[e]
   by_cases q:200<=S.length
   ·have b1:=(List.getElem?_eq_some_iff.1 rt2).1
    refine g3 hgs2.lenG @lB @rt2 ?_
    refine WP.ret (q1 (by rw[rowF]; simp only[ht,hix,if_pos q]) _ ((e0.trans mi2.eb).setr hot _))
   ·obtain ⟨s',h3,o',a1,mi3,a3,a4⟩:=mi2.addS r g2.sl.cells oM
    have r1:=g2.sl.one
    have r2:=g2.sl.cells
    refine g5 hgs2.lenG @lB @r1 @r2 @a1 ?_
    have l3:=a3.len
    have le2:=e2.len
    refine key h3 s' o' (B++[r]) (S++[t]) S.length mi3 ?_ (a2N hi) (by rw[List.length_append]; simp; omega) ?_ (by rw[rowF]; simp only[ht,hix,if_neg q])
    ·have base:SetsV nf.n h3 (fun o=>OffS hb s' sN sA o' oN oA o/\o≠nx) B S:=sv.go (D:=fun q=>states≠.nils/\q=oS) ((FrS.ofExt e2).trans a3) fun o z1 z2=>⟨fun z=>z2.1.2.1 z.1 z.2,⟨z2.1.1,fun z=>?_,z2.1.2.2.1,z2.1.2.2.2⟩,z2.2⟩
     ·refine base.snoc htn (g2.frs a3 fun o z1 z2 z3=>?_) fun o z1 z2=>⟨oM,⟨?_,fun z=>?_,fun z=>?_,fun z=>?_⟩,oM⟩
      ·have:=mi.ps z3.1; omega
      ·have:=mi.bl; omega
      ·rcases a4 z with ⟨w1,w2⟩|w1
       ·have:=mi.ps w2; omega
       ·omega
      ·have:=mi.pn z; omega
      ·have:=mi.pa z; omega
     ·rcases a4 z with ⟨w1,w2⟩|w1
      ·rw[w1]; exact z2.1.2.1 w2
      ·omega
    ·obtain ⟨n1,n2,n3,n4,n5,n6⟩:=nk2
     refine ⟨?_,n2,n3,fun z=>?_,n5,n6⟩
     ·rw[a3.get (fun z=>n4 z.1 z.2) oM]; exact n1
     ·rcases a4 z with ⟨z1,z2⟩|z1
      ·rw[z1]; exact n4 z2
      ·omega
end
end Go.Gm.AQ
namespace Go.Gm.AQ
open Go Go.Gm
section
variable {nf:NF} {sS sF:AV}
def SubQ (lo:Nat)(o:Option (List (List Int) × List Bool))(r:AV)(h':Heap):Prop:=
 match o with
 |none=>r=.tup [.agg [.nils,.nils],I 5]
 |some (D,acc)=>∃sN sA:AV,r=.tup [.agg [sN,sA],I 0]/\Gr lo h'.length h' 5 sN (D.map encR)/\Gr lo h'.length h' 1 sA (acc.map encB)
theorem c5r {h0 hb:Heap}{on ot:Nat}(v:NfV hb nf sS sF)(rn:hb[on]?=some (.cells ⟨nfC nf sS sF,0,0,false⟩))(rt:hb[ot]?=some (.cells ⟨[.nils,.nils],0,0,false⟩))(e0:Ext h0 hb)(hot:h0.length<=ot) :
  ∀(f i:Nat) (h:Heap) (states sN sA:AV) (oS oN oA:Nat) (B:List AV) (S:List Nat) (D:List (List Int)) (acc:List Bool),i+f=202->i<=S.length->S.length<=200->D.length=i->acc.length=i->SI hb h states sN sA oS oN oA B D acc->SetsV nf.n h (OffS hb states sN sA oS oN oA) B S->
   WP (fun p:Nat × Nat=>t1_ p.1 p.2 (I 200) (.ptr on 0 5 0) (.ptr ot 0 2 0) states (.ptr (hb.length+1) 0 2 0) (I i) h) fun r h'=>Ext h0 h'/\SubQ h0.length (subL nf 200 f i S D acc) r h':=by
 have l0:=e0.len
 have bt:=(List.getElem?_eq_some_iff.1 rt).1
 intro f
 induction f with
 |zero=>intro i h states sN sA oS oN oA B S D acc h1 h2 h3; omega
 |succ f ih=>
  intro i h states sN sA oS oN oA B S D acc h1 h2 h3 hD hA mi sv
  refine WP.rnd (fun i' j=>a7o i' j (I 200) (.ptr on 0 5 0) (.ptr ot 0 2 0) states (.ptr (hb.length+1) 0 2 0) (I i) h) ?_
  have gs:=mi.gs.sl.lenG
  have lB:=sv.1
  by_cases q:i=S.length
  ·have hs:subL nf 200 (f+1) i S D acc=some (D,acc):=by rw[subL,List.getElem?_eq_none oM]
   rw[hs]
   refine g2 @gs @lB ?_
   refine WP.lv (d:=fun k:Nat=>a0G k (.ptr ot 0 2 0) (.ptr (hb.length+1) 0 2 0) h) ?_ fun i j=>rfl
   refine WP.congr (fun k=>a7n k (.ptr ot 0 2 0) (.ptr (hb.length+1) 0 2 0) h) ?_
   have ro:=mi.ro
   have rt':=mi.eb.get rt
   have b0:=(List.getElem?_eq_some_iff.1 rt').1
   have o1:=mi.gn.sl.one
   have o2:=mi.gn.sl.cells
   have o3:=mi.ga.sl.one
   have o4:=mi.ga.sl.cells
   refine g6 @ro @rt' @o1 @o2 @o3 @o4 ?_
   have nl:∀{lo:Nat} {sz:Nat} {s:AV} {xs:List (List AV)} (x:AObj),Gr lo (lo+1) h sz s xs->(s≠.nils->hb.length<=lo/\lo<h.length)->Gr h0.length (h.set ot x).length (h.set ot x) sz s xs:=by
    intro lo sz s xs x g hq
    by_cases q:s=.nils
    ·subst q
     have:=g.isNil
     subst this
     exact Gr.nil ..
    ·have:=hq q
     exact (g.set (.inl oM) _).mono oM (by simp; omega)
   refine WP.ret ⟨(e0.trans mi.eb).setr hot _,sN,sA,rfl,nl _ mi.gn fun z=>?_,nl _ mi.ga fun z=>?_⟩
   ·have:=mi.pn z; omega
   ·have:=mi.pa z; omega
  ·have hx:S[i]?=some S[i]:=List.getElem?_eq_getElem oM
   obtain ⟨s,hs⟩:∃s,S[i]=s:=⟨_,rfl⟩
   rw[hs] at hx
   have hsub:subL nf 200 (f+1) i S D acc=match rowF nf 200 s 5 0 S [] with
    |none=>none
    |some (S',row)=>subL nf 200 f (i+1) S' (D++[row]) (acc++[s.testBit nf.e]):=by
    rw[subL]; simp only[hx]
    cases rowF nf 200 s 5 0 S []<;>rfl
   rw[hsub]
   refine g2 @gs @lB ?_
   have bl:=mi.bl
   have e1:Ext h (h++[AObj.cells ⟨List.map I [0,0,0,0,0],0,0,false⟩]):=Ext.push _ _
   refine WP.ent (c5q (s:=s) (nx:=h.length) v rn rt e0 hot 5 0 (h++[AObj.cells ⟨List.map I [0,0,0,0,0],0,0,false⟩]) states oS B S [0,0,0,0,0] oM (mi.ext e1) (sv.go (D:=fun _=>False) (FrS.ofExt e1) fun o z1 z2=>⟨id,z2,oM⟩) hx h3 ⟨by simp,rfl,bl,fun z=>?_,fun z=>?_,fun z=>?_⟩ (fun z h' z2=>?_) (fun h2 states oS B S' nxs mi sv hi hl nk hr=>?_)) fun i=>rfl
   ·have:=mi.ps z; omega
   ·have:=mi.pn z; omega
   ·have:=mi.pa z; omega
   ·rw[show List.take 0 [0,0,0,0,0]=([]:List Int) from rfl] at z
    rw[z]
    exact ⟨z2,rfl⟩
   ·rw[show List.take 0 [0,0,0,0,0]=([]:List Int) from rfl] at hr
    rw[hr]
    refine WP.congr (fun p=>a7m p.1 p.2 (I 200) (.ptr on 0 5 0) (.ptr ot 0 2 0) states (.ptr (hb.length+1) 0 2 0) (I i) (.ptr h.length 0 5 0) h2) ?_
    obtain ⟨n1,n2,n3,n4,n5,n6⟩:=nk
    have ro:=mi.ro
    have b0:=(List.getElem?_eq_some_iff.1 ro).1
    obtain ⟨sN2,h3',oN2,q1,q2,q3,q4,mi3,f3,w3⟩:=mi.row n2 oM
    have b1:=(List.getElem?_eq_some_iff.1 q4).1
    have hmk:(nxs.map I).take 5=nxs.map I:=List.take_of_length_le (by simp[n2])
    obtain ⟨h4,hh4⟩:∃h4,h4=h3'.set (hb.length+1) (.cells ⟨[sN2,sA],0,0,false⟩):=⟨_,rfl⟩
    rw[<-hh4] at mi3 f3
    have sv3:SetsV nf.n h4 (OffS hb states sN2 sA oS oN2 oA) B S':=by
     refine sv.go f3 fun o z1 z2=>⟨fun z=>?_,z2.1.1,z2.1.2.1,fun z=>?_,z2.1.2.2.2⟩
     ·rcases z with z|z
      ·exact z2.1.1 z
      ·exact z2.1.2.2.1 z.1 z.2
     ·rcases w3 z with ⟨y1,y2⟩|y1
      ·rw[y1]; exact z2.1.2.2.1 y2
      ·omega
    have ro4:=mi3.ro
    have b4:=(List.getElem?_eq_some_iff.1 ro4).1
    have rn4:=mi3.eb.get rn
    have gs4:=mi3.gs.sl
    have lB4:=sv3.1
    have hil:=(List.getElem?_eq_some_iff.1 hi).1
    obtain ⟨hsn,lo,hi',g4,_⟩:=sv3.2 i s hi
    have ha4:=g4.sl
    have lb:=a4i nf.n s
    have hen:=v.ok.e
    obtain ⟨bb,hbb⟩:∃bb,s.testBit nf.e=bb:=⟨_,rfl⟩
    have hgb:=a6O (s:=s) hen
    rw[hbb] at hgb
    rw[hbb]
    obtain ⟨sA2,h5,oA2,w1,w2,w3',w4,mi5,f5,w5⟩:=mi3.accept bb oM
    have b5:=(List.getElem?_eq_some_iff.1 w4).1
    have hld:rdNAt 5 h2[h.length]? 0 5 0=some (.agg (nxs.map I)):=by
     rw[n1]
     simp only[rdNAt]
     rw[if_pos ⟨oM,Nat.le_refl _⟩,List.drop_zero,hmk]
    obtain ⟨c0,c1,c2,c3,c4,rfl⟩:∃c0 c1 c2 c3 c4,nxs=[c0,c1,c2,c3,c4]:=by
     match nxs,n2 with
     |[c0,c1,c2,c3,c4],_=>exact ⟨c0,c1,c2,c3,c4,rfl⟩
    simp only[List.map_cons,List.map_nil] at hld q1
    refine g6 @ro @hld @q1 @q4 @q2 @q3 ?_
    rw[<-hh4]
    simp -implicitDefEqProofs (disch:=first|assumption|omega|exact Ext.refl _|(simp only[gL,gA]<;>omega)|fail) only[gC,reduceIte,ro4,rn4,gs4.idxG,gs4.ld0,lB4,enc1,ha4.idxG,ha4.ld0,lb,hgb,encB,w1,w4,w2,w3']
    obtain ⟨h6,hh6⟩:∃h6,h6=h5.set (hb.length+1) (.cells ⟨[sN2,sA2],0,0,false⟩):=⟨_,rfl⟩
    rw[<-hh6] at mi5 f5 ⊢
    refine WP.congr (fun p=>a7l p.1 p.2 (I 200) (.ptr on 0 5 0) (.ptr ot 0 2 0) states (.ptr (hb.length+1) 0 2 0) (I i) h6) ?_
    refine g0 ?_
    refine ih (i+1) h6 states sN2 sA2 oS oN2 oA2 B S' (D++[[c0,c1,c2,c3,c4]]) (acc++[bb]) oM oM hl (by simp[hD]) (by simp[hA]) mi5 (sv3.go f5 fun o z1 z2=>⟨fun z=>?_,z2.1,z2.2.1,z2.2.2.1,fun z=>?_⟩)
    ·rcases z with z|z
     ·exact z2.1 z
     ·exact z2.2.2.2 z.1 z.2
    ·rcases w5 z with ⟨y1,y2⟩|y1
     ·rw[y1]; exact z2.2.2.2 y2
     ·omega
theorem b6L {h:Heap}(v:NfV h nf sS sF) :
  Tot tab d0_ [.agg (nfC nf sS sF),I 200] h fun r h'=>Ext h h'/\SubQ h.length (subF nf 200) r h':=by
 refine WP.tot (fun k=>a8X k _ _ h) ?_
 have ss:=v.s.one
 have sf:=v.f.one
 obtain ⟨h1,hh1⟩:∃h1,h1=(h++[AObj.cells ⟨nfC nf sS sF,0,0,false⟩])++[AObj.cells ⟨[.nils,.nils],0,0,false⟩]:=⟨_,rfl⟩
 have e1:Ext h h1:=by rw[hh1]; exact eX
 have rn:h1[h.length]?=some (.cells ⟨nfC nf sS sF,0,0,false⟩):=by rw[hh1]; simp
 have rt:h1[h.length+1]?=some (.cells ⟨[.nils,.nils],0,0,false⟩):=by rw[hh1]; simp
 simp -implicitDefEqProofs (maxSteps:=1000000) (disch:=first|assumption|omega|(simp only[gL]<;>omega)|((repeat (first|exact Ext.refl _|assumption|apply Ext.app|apply Ext.mk|(refine Ext.setr ?_ (by (first|omega|(simp only[gL]<;>omega))) _))); done)|(simp only[gL,gA,ss,sf]<;>omega)|fail) only[gB,setAll,partL,fldV,reduceIte,Nat.reduceAdd,Nat.reduceMul,ss,sf]
 rw[<-hh1]
 refine WP.call (c2n (v.ext e1)) ?_
 rintro r h2 ⟨e2,g2⟩
 have r1:=g2.sl.one
 have r2:=g2.sl.cells
 simp -implicitDefEqProofs (maxSteps:=1000000) (disch:=first|assumption|omega|(simp only[gL]<;>omega)|((repeat (first|exact Ext.refl _|assumption|apply Ext.app|apply Ext.mk|(refine Ext.setr ?_ (by (first|omega|(simp only[gL]<;>omega))) _))); done)|(simp only[gL,gA,r1,r2]<;>omega)|fail) only[gB,setAll,partL,fldV,reduceIte,Nat.reduceAdd,Nat.reduceMul,r1,r2]
 obtain ⟨h3,hh3⟩:∃h3,h3=(h2++[AObj.cells ⟨[r],0,0,false⟩])++[AObj.cells ⟨[.nils,.nils],0,0,false⟩]:=⟨_,rfl⟩
 have e3:Ext h2 h3:=by rw[hh3]; exact eX
 have l3:h3.length=h2.length+2:=by rw[hh3]; simp
 have l2:=e2.len
 have g3:Gr h2.length (h2.length+1) h3 1 (.sl h2.length 0 1 1 none 0) ([r].map enc1):=by
  have:=Gr.lit (h:=h2) (sz:=1) (v:=[r]) rfl
  rw[a3_] at this
  rw[hh3]; exact this.app _
 have ro:h3[h2.length+1]?=some (.cells ⟨[.nils,.nils],0,0,false⟩):=by rw[hh3]; simp
 have hfr:∀f∈nf.fr,f.2<nf.n:=fun f hf=>(v.ok.fr f hf).2
 have hs1:∀p,(2 ^ nf.s).testBit p=true->p<nf.n:=fun p hp=>by
  rw[Nat.testBit_two_pow] at hp
  have:nf.s=p:=by simpa using hp
  have:=v.ok.s
  omega
 have hs2:∀p,(cloF nf.n nf.fr (2 ^ nf.s)).testBit p=true->p<nf.n:=fun p hp=>b7h hfr hs1 ((a9p hfr hs1 p).1 hp)
 have mi:SI h2 h3 (.sl h2.length 0 1 1 none 0) .nils .nils h2.length 0 0 [r] [] []:=
  ⟨e3,ro,g3,Gr.nil ..,Gr.nil ..,fun _=>oM,fun z=>absurd rfl z,fun z=>absurd rfl z,oM⟩
 have e12:=e1.trans e2
 rw[<-hh3]
 refine WP.ent (c5r (ot:=h.length+1) (v.ext e12) (e2.get rn) (e2.get rt) e12 oM 202 0 h3 _ _ _ _ _ _ _ [cloF nf.n nf.fr (2 ^ nf.s)] [] [] oM (by simp) (by simp) rfl rfl mi ⟨rfl,fun i s hi=>?_⟩) fun i=>rfl
 have hil:=(List.getElem?_eq_some_iff.1 hi).1
 simp only[List.length_cons,List.length_nil] at hil
 obtain rfl:i=0:=oM
 simp at hi
 subst hi
 refine ⟨hs2,h1.length,h2.length,g2.ext e3,fun o z1 z2=>⟨oM,oM,fun _=>oM,fun z=>absurd rfl z,fun z=>absurd rfl z⟩⟩
end
end Go.Gm.AQ
namespace Go.Gm
def bt (S:ByteArray)(p:Nat):Option Nat:=(S[p]?).map UInt8.toNat
def md (c:Nat):Option Nat:=if c=119 then some 0 else if c=98 then some 1 else if c=99 then some 2 else if c=102 then some 3 else if c=116 then some 4 else none
def clsF (S:ByteArray):Nat->Nat->Nat->Option (Nat × Nat)
 |0,_,_=>none
 |f+1,p,s=>match bt S p with
  |none=>none
  |some c=>if c=93/\0<s then some (s,p+1) else match md c with
   |none=>none
   |some m=>clsF S f (p+1) (s ||| 2 ^ m)
def dig (c:Option Nat):Option Nat:=match c with
 |some c=>if 48<=c/\c<=57 then some (c-48) else none
 |none=>none
def tms (S:ByteArray)(p:Nat):Option (Nat × Nat × Nat):=match dig (bt S p),dig (bt S (p+2)) with
 |some a,some b=>if bt S (p+1)=some 44/\bt S (p+3)=some 125/\a<=b then some (a,b,p+4) else none
 |_,_=>none
inductive PM where
 |at|pc|pcl (n:Nd)|jn|jnl (l:List Nd)|un|unl (l:List Nd)
def finJ:List Nd->Nd
 |[n]=>n
 |l=>.join l
def finU:List Nd->Nd
 |[n]=>n
 |l=>.uni l
def prs (S:ByteArray):Nat->Nat->PM->Nat->Option (Nd × Nat)
 |0,_,_,_=>none
 |f+1,d,.at,p=>match bt S p with
  |none=>none
  |some c=>
   if c=40 then
    if 30<=d then none else match prs S f (d+1) .un (p+1) with
     |some (n,q)=>if bt S q=some 41 then some (n,q+1) else none
     |none=>none
   else match md c with
    |some m=>some (.set (2 ^ m),p+1)
    |none=>if c=46 then some (.set 31,p+1) else if c=48 then some (.emp,p+1) else if c=95 then some (.eps,p+1)
     else if c=91 then (match clsF S f (p+1) 0 with|some (s,q)=>some (.set s,q)|none=>none) else none
 |f+1,d,.pc,p=>match prs S f d .at p with
  |some (n,q)=>prs S f d (.pcl n) q
  |none=>none
 |f+1,d,.pcl n,p=>match bt S p with
  |none=>some (n,p)
  |some c=>if c=42 then prs S f d (.pcl (.star n)) (p+1) else if c=43 then prs S f d (.pcl (.plus n)) (p+1) else if c=63 then prs S f d (.pcl (.opt n)) (p+1)
   else if c=123 then (match tms S (p+1) with|some (a,b,q)=>prs S f d (.pcl (.rep a b n)) q|none=>none) else some (n,p)
 |f+1,d,.jn,p=>match prs S f d .pc p with
  |some (n,q)=>prs S f d (.jnl [n]) q
  |none=>none
 |f+1,d,.jnl l,p=>match bt S p with
  |none=>some (finJ l,p)
  |some c=>if c=124 then some (finJ l,p) else if c=41 then some (finJ l,p) else match prs S f d .pc p with
   |some (n,q)=>prs S f d (.jnl (l++[n])) q
   |none=>none
 |f+1,d,.un,p=>match prs S f d .jn p with
  |some (n,q)=>prs S f d (.unl [n]) q
  |none=>none
 |f+1,d,.unl l,p=>match bt S p with
  |none=>some (finU l,p)
  |some c=>if c=124 then match prs S f d .jn (p+1) with
    |some (n,q)=>prs S f d (.unl (l++[n])) q
    |none=>none
   else some (finU l,p)
abbrev U8 (n:Nat):AV:=.int .u8 n
theorem bt_ix {S:ByteArray}{p c:Nat}(h:bt S p=some c):ixS (.str S) (I p)=some (U8 c):=by
 simp only[bt,Option.map_eq_some_iff] at h
 obtain ⟨b,h1,rfl⟩:=h
 simp[ixS,h1]
theorem bt_lt {S:ByteArray}{p c:Nat}(h:bt S p=some c):p<S.size:=by
 simp only[bt,Option.map_eq_some_iff] at h
 obtain ⟨b,h1,rfl⟩:=h
 exact (getElem?_eq_some_iff.1 h1).1
theorem c4v {S:ByteArray}{p:Nat}(h:bt S p=none):S.size<=p:=by
 simp only[bt,Option.map_eq_none_iff] at h
 by_cases hp:p<S.size
 ·rw[getElem?_pos S p hp] at h; cases h
 ·omega
theorem equ_t {a:Nat}{b:Int}(h:(a:Int)=b):binV .eql .scalar (U8 a) (.int .u8 b)=some (.bool true):=by
 show some (AV.bool ((a:Int) == b))=_
 rw[h]; simp
theorem equ_f {a:Nat}{b:Int}(h:¬(a:Int)=b):binV .eql .scalar (U8 a) (.int .u8 b)=some (.bool false):=by
 show some (AV.bool ((a:Int) == b))=_
 simp[h]
theorem neu_t {a:Nat}{b:Int}(h:¬(a:Int)=b):binV .neq .scalar (U8 a) (.int .u8 b)=some (.bool true):=by
 show some (AV.bool ((a:Int) != b))=_
 simp[bne,h]
theorem neu_f {a:Nat}{b:Int}(h:(a:Int)=b):binV .neq .scalar (U8 a) (.int .u8 b)=some (.bool false):=by
 show some (AV.bool ((a:Int) != b))=_
 rw[h]; simp
theorem lsu_f {a:Nat}{b:Int}(h:¬(a:Int)<b):binV .lss .scalar (U8 a) (.int .u8 b)=some (.bool false):=by
 show some (AV.bool (decide ((a:Int)<b)))=_
 simp[h]
theorem gtu_f {a:Nat}{b:Int}(h:¬(a:Int) > b):binV .gtr .scalar (U8 a) (.int .u8 b)=some (.bool false):=by
 show some (AV.bool (decide ((a:Int) > b)))=_
 simp[h]
end Go.Gm
namespace Go.Gm.AQ
open Go Go.Gm
section
variable {S:ByteArray} {ro:Nat}
theorem a5W {h:Heap}{p d c:Nat}(hr:h[ro]?=some (.cells ⟨[.str S,I p,I d,I 0],0,0,false⟩))(hb:bt S p=some c) :
  Tot tab b6_ [.ptr ro 0 4 0] h fun v h'=>v=.tup [U8 c,.bool true]/\h=h':=by
 refine WP.tot (fun k=>a2r k _ h) ?_
 have hlt:=bt_lt hb
 have hix:=bt_ix hb
 have hlb:lenB (.str S)=some (I S.size):=rfl
 refine g3 @hr @hlb @hix ?_
 exact WP.ret ⟨rfl,rfl⟩
theorem b6B {h:Heap}{p d:Nat}(hr:h[ro]?=some (.cells ⟨[.str S,I p,I d,I 0],0,0,false⟩))(hb:bt S p=none) :
  Tot tab b6_ [.ptr ro 0 4 0] h fun v h'=>v=.tup [U8 0,.bool false]/\h=h':=by
 refine WP.tot (fun k=>a2r k _ h) ?_
 have hle:=c4v hb
 have hlb:lenB (.str S)=some (I S.size):=rfl
 refine g2 @hr @hlb ?_
 exact WP.ret ⟨rfl,rfl⟩
def mdI (c:Nat):Int:=match md c with
 |some m=>m
 |none=>-1
theorem a5w {c:Nat}(h:Heap):Tot tab i9_ [U8 c] h fun v h'=>v=I (mdI c)/\h=h':=by
 refine WP.tot (fun k=>b0J k _ h) ?_
 have hix:∀(i b:Nat),([119,98,99,102,116]:List Nat)[i]?=some b->ixS (.str ⟨#[119,98,99,102,116]⟩) (I (i:Int))=some (U8 b):=by
  intro i b hi
  have hi5:=(List.getElem?_eq_some_iff.1 hi).1
  simp only[List.length_cons,List.length_nil] at hi5
  have:i=0\/i=1\/i=2\/i=3\/i=4:=oM
  rcases this with rfl|rfl|rfl|rfl|rfl<;>(simp at hi; subst hi; rfl)
 have loop:∀(d i:Nat),i+d=5->(∀(j b:Nat),j<i->([119,98,99,102,116]:List Nat)[j]?=some b->c≠b)->WP (fun p:Nat × Nat=>a0d p.1 p.2 (U8 c) (I i) h) fun v h'=>v=I (mdI c)/\h=h':=by
  intro d
  induction d with
  |zero=>
   intro i hi hn
   refine WP.rnd (fun i' j=>a4f i' j (U8 c) (I i) h) ?_
   refine g0 ?_
   refine WP.lv (WP.ret ⟨?_,rfl⟩) fun i j=>rfl
   have h0:=hn 0 119 oM rfl
   have h1:=hn 1 98 oM rfl
   have h2:=hn 2 99 oM rfl
   have h3:=hn 3 102 oM rfl
   have h4:=hn 4 116 oM rfl
   simp[mdI,md,h0,h1,h2,h3,h4]
  |succ d ih=>
   intro i hi hn
   refine WP.rnd (fun i' j=>a4f i' j (U8 c) (I i) h) ?_
   obtain ⟨b,hb⟩:∃b,([119,98,99,102,116]:List Nat)[i]?=some b:=⟨_,List.getElem?_eq_getElem (by simp; omega)⟩
   have hx:=hix i b hb
   by_cases hc:b=c
   ·subst hc
    have he:binV .eql .scalar (U8 b) (U8 b)=some (.bool true):=equ_t rfl
    refine g2 @hx @he ?_
    refine WP.lv (WP.ret ⟨?_,rfl⟩) fun i j=>rfl
    have:i=0\/i=1\/i=2\/i=3\/i=4:=oM
    rcases this with rfl|rfl|rfl|rfl|rfl<;>(simp at hb; subst hb; rfl)
   ·have he:binV .eql .scalar (U8 b) (U8 c)=some (.bool false):=equ_f oM
    refine g2 @hx @he ?_
    refine ih (i+1) oM fun j b' hj hb'=>?_
    by_cases hji:j=i
    ·subst hji
     rw[hb] at hb'; injection hb' with hb'
     subst hb'; exact fun q=>hc q.symm
    ·exact hn j b' oM hb'
 rw[show AV.int .i64 0=I ((0:Nat):Int) from rfl]
 exact WP.ent (loop 5 0 rfl fun j b hj=>oM) fun i=>rfl
theorem mdI_t {c m:Nat}(h:md c=some m):mdI c=m/\m<5:=by
 refine ⟨by simp[mdI,h],?_⟩
 simp only[md] at h
 split at h
 ·injection h; omega
 split at h
 ·injection h; omega
 split at h
 ·injection h; omega
 split at h
 ·injection h; omega
 split at h
 ·injection h; omega
 ·cases h
theorem mdI_f {c:Nat}(h:md c=none):mdI c = -1:=by simp[mdI,h]
def PR (S:ByteArray)(ro:Nat)(h:Heap)(d:Nat)(n:Nd)(q:Nat)(v:AV)(h':Heap):Prop:=
 FrS (fun o=>o=ro) h h'/\h'[ro]?=some (.cells ⟨[.str S,I q,I d,I 0],0,0,false⟩)/\∃c5,v=.agg c5/\NVD h' (fun o=>h.length<=o/\o<h'.length) n c5
theorem PR.fin {h H:Heap}{d q:Nat}{n:Nd}{c5:List AV}(hro:ro<h.length)(f:FrS (fun o=>o=ro) h H)(hr:H[ro]?=some (.cells ⟨[.str S,I q,I d,I 0],0,0,false⟩))(nv:NVD H (fun o=>h.length<o/\o<H.length) n c5) :
  PR S ro h d n q (.agg c5) (H.set h.length (.cells ⟨c5,0,0,false⟩)):=by
 refine ⟨⟨by simp; exact f.len,fun o h1 h2=>?_⟩,?_,c5,rfl,nv.frs (FrS.set1 H h.length _) (fun o h1 h2 h3=>oM) fun o h1 h2=>⟨oM,by simp; exact h1⟩⟩
 ·rw[List.getElem?_set_ne oM]; exact f.get h1 h2
 ·rw[List.getElem?_set_ne oM]; exact hr
theorem a5X {h H:Heap}(f:FrS (fun o=>o=ro) h H)(x:AObj):FrS (fun o=>o=ro) h (H.set ro x):=
 ⟨by simp; exact f.len,fun o h1 h2=>by rw[List.getElem?_set_ne (fun q=>h1 q.symm)]; exact f.get h1 h2⟩
theorem c5f {h:Heap}(hro:ro<h.length){d:Nat}:∀(f p s s' q:Nat) (H:Heap),clsF S f p s=some (s',q)->S.size<=200->s<32->FrS (fun o=>o=ro) h H->H[ro]?=some (.cells ⟨[.str S,I p,I d,I 0],0,0,false⟩)->H[h.length]?=some (.cells ⟨[I 0,I 0,I 0,I 0,.nils],0,0,false⟩)->
  WP (fun p':Nat × Nat=>l6_ p'.1 p'.2 (.ptr ro 0 4 0) (.ptr h.length 0 5 0) (I s) H) (PR S ro h d (.set s') q):=by
 intro f
 induction f with
 |zero=>intro p s s' q H hc; simp[clsF] at hc
 |succ f ih=>
  intro p s s' q H hc hS hs fr hr ht
  refine WP.rnd (fun i' j=>a5l i' j (.ptr ro 0 4 0) (.ptr h.length 0 5 0) (I s) H) ?_
  have hlen:=fr.len
  have hHl:h.length<H.length:=(List.getElem?_eq_some_iff.1 ht).1
  simp only[clsF] at hc
  cases hb:bt S p with
  |none=>rw[hb] at hc; cases hc
  |some c=>
   rw[hb] at hc
   simp only at hc
   have hp:=bt_lt hb
   refine WP.call (a5W hr hb) ?_
   rintro _ _ ⟨rfl,rfl⟩
   have hne:¬ro=h.length:=oM
   have hne':¬h.length=ro:=oM
   by_cases h93:c=93/\0<s
   ·rw[if_pos h93] at hc
    injection hc with hc
    injection hc with hc1 hc2
    subst hc1 hc2
    obtain ⟨rfl,hs0⟩:=h93
    have he:binV .eql .scalar (U8 93) (.int .u8 93)=some (.bool true):=equ_t rfl
    have hg:binV .gtr .scalar (I (s:Int)) (.int .i64 0)=some (.bool true):=gtr_t oM
    have hrl:ro<H.length:=oM
    refine g5 @a1_ @he @hg @hr @ht ?_
    refine WP.lv (WP.ret ?_) fun i j=>rfl
    refine PR.fin hro (a5X fr _) (by rw[List.getElem?_set_self hrl]; simp) (a9f (n:=.set s) rfl)
   ·rw[if_neg h93] at hc
    cases hm:md c with
    |none=>rw[hm] at hc; cases hc
    |some m=>
     rw[hm] at hc
     simp only at hc
     obtain ⟨hmi,hm5⟩:=mdI_t hm
     have hor:s ||| 2 ^ m<32:=Nat.or_lt_two_pow (n:=5) hs (Nat.pow_lt_pow_right oM hm5)
     have hori:=or_i (a:=s) (b:=2 ^ m) oM (Nat.pow_lt_pow_right oM oM)
     have hrl:ro<H.length:=oM
     have h93':¬((c:Int)=93):=by
      rintro q
      have:c=93:=oM
      subst this; simp[md] at hm
     have he:=equ_f h93'
     refine g2 @a1_ @he ?_
     refine WP.call (a5w H) ?_
     rintro _ _ ⟨rfl,rfl⟩
     rw[hmi]
     refine g0 ?_
     refine WP.call (a5w H) ?_
     rintro _ _ ⟨rfl,rfl⟩
     rw[hmi]
     have hcv:convV .u64 (I (m:Int))=some (.int .u64 m):=a5n oM oM
     have hsh:binV .shl .scalar (.int .i64 1) (.int .u64 (m:Int))=some (I ((2 ^ m:Nat):Int)):=by
      have:=shl_i (k:=.u64) (m:=(m:Int)) oM oM
      simpa using this
     refine g4 @hcv @hsh @hori @hr ?_
     refine ih (p+1) (s ||| 2 ^ m) s' q _ hc hS hor (a5X fr _) (by rw[List.getElem?_set_self hrl]; simp) (by rw[List.getElem?_set_ne hne]; exact ht)
theorem c1U {h:Heap}{f p d s' q:Nat}(hS:S.size<=200)(hc:clsF S f p 0=some (s',q))(hr:h[ro]?=some (.cells ⟨[.str S,I p,I d,I 0],0,0,false⟩)) :
  Tot tab n3_ [.ptr ro 0 4 0] h (PR S ro h d (.set s') q):=by
 refine WP.tot (fun k=>a6p k _ h) ?_
 have hro:=(List.getElem?_eq_some_iff.1 hr).1
 have e1:Ext h (h++[AObj.cells ⟨[I 0,I 0,I 0,I 0,.nils],0,0,false⟩]):=Ext.push _ _
 refine g0 ?_
 exact WP.ent (c5f hro f p 0 s' q _ hc hS oM (FrS.ofExt e1) (e1.get hr) (by simp)) fun i=>rfl
theorem subu {a:Nat}(h:48<=a)(h2:a<=57):binV .sub .scalar (U8 a) (.int .u8 48)=some (U8 (a-48)):=by
 show some (AV.int .u8 (IntKind.u8.wrap ((a:Int)-48)))=_
 congr 2
 simp[IntKind.wrap,IntKind.bits,IntKind.signed]
 omega
theorem convu {a:Nat}(h:a<=255):convV .i64 (U8 a)=some (I a):=by
 show some (AV.int .i64 (IntKind.i64.wrap (a:Int)))=_
 rw[d6_ oM oM]
theorem b6C {o n:Nat}{i:Int}(h0:0<=i)(h1:i<n):idxA n 1 (.ptr o 0 n 0) (I i)=some (.ptr o (i.toNat) (i.toNat+1) 0):=by
 simp[idxA,h0,h1]
theorem b6D {dd n3 t4:Nat}{at_:AV}{H:Heap}{i p d c:Nat}{x y:AV}{Q:AV->Heap->Prop}(hi:i<2)(hS:S.size<=200)(hb:bt S p=some c)(h48:48<=c)(h57:c<=57)(hs:bt S (p+1)=some (if i=0 then 44 else 125))(hr:H[ro]?=some (.cells ⟨[.str S,I p,I d,I 0],0,0,false⟩))(hd:H[dd]?=some (.cells ⟨[x,y],0,0,false⟩))(hne:ro≠dd)(hK:∀H',FrS (fun o=>o=ro\/o=dd) H H'->H'.length=H.length->H'[ro]?=some (.cells ⟨[.str S,I ((p+2:Nat):Int),I d,I 0],0,0,false⟩)->H'[dd]?=some (.cells ⟨[x,y].set i (I ((c-48:Nat):Int)),0,0,false⟩)->
   WP (fun p':Nat × Nat=>g8_ p'.1 p'.2 (.ptr ro 0 4 0) (.ptr n3 0 5 0) (.ptr t4 0 5 0) at_ (.ptr dd 0 2 0) (I ((i+1:Nat):Int)) H') Q) :
  WP (fun p':Nat × Nat=>g8_ p'.1 p'.2 (.ptr ro 0 4 0) (.ptr n3 0 5 0) (.ptr t4 0 5 0) at_ (.ptr dd 0 2 0) (I i) H) Q:=by
 refine WP.rnd (fun i' j=>a0N i' j (.ptr ro 0 4 0) (.ptr n3 0 5 0) (.ptr t4 0 5 0) at_ (.ptr dd 0 2 0) (I i) H) ?_
 have hp:=bt_lt hb
 have hp1:=bt_lt hs
 have hrl:=(List.getElem?_eq_some_iff.1 hr).1
 have hdl:=(List.getElem?_eq_some_iff.1 hd).1
 refine g0 ?_
 refine WP.call (a5W hr hb) ?_
 rintro _ _ ⟨rfl,rfl⟩
 have a1:=lsu_f (a:=c) (b:=48) oM
 have a2:=gtu_f (a:=c) (b:=57) oM
 have a3:=subu h48 h57
 have a4:convV .i64 (U8 (c-48))=some (I ((c-48:Nat):Int)):=convu oM
 have a5:=b6C (o:=dd) (n:=2) (i:=(i:Int)) oM oM
 have hi2:i=0\/i=1:=oM
 have hne':¬dd=ro:=fun q=>hne q.symm
 rcases hi2 with rfl|rfl
 ·have hs':bt S (p+1)=some 44:=by simpa using hs
  simp -implicitDefEqProofs (disch:=first|assumption|omega|(simp only[gL,gA]<;>omega)|fail) only[gC,reduceIte,a1_,a1,a2,a3,a4,a5,hr,hd]
  obtain ⟨H1,hH1⟩:∃H1,H1=(H.set dd (.cells ⟨[I ((c-48:Nat):Int),y],0,0,false⟩)).set ro (.cells ⟨[.str S,I ((p:Int)+1),I d,I 0],0,0,false⟩):=⟨_,rfl⟩
  have r1:H1[ro]?=some (.cells ⟨[.str S,I ((p+1:Nat):Int),I d,I 0],0,0,false⟩):=by rw[hH1,List.getElem?_set_self (by simp; exact hrl)]; rfl
  have d1:H1[dd]?=some (.cells ⟨[I ((c-48:Nat):Int),y],0,0,false⟩):=by rw[hH1,List.getElem?_set_ne hne,List.getElem?_set_self hdl]
  have f1:FrS (fun o=>o=ro\/o=dd) H H1:=⟨by rw[hH1]; simp,fun o h1 h2=>by rw[hH1,List.getElem?_set_ne (fun q=>h1 (.inl q.symm)),List.getElem?_set_ne (fun q=>h1 (.inr q.symm))]⟩
  have l1:H1.length=H.length:=by rw[hH1]; simp
  rw[<-hH1]
  refine WP.call (a5W r1 hs') ?_
  rintro _ _ ⟨rfl,rfl⟩
  have b1:=neu_f (a:=44) (b:=44) rfl
  have hrl1:ro<H1.length:=oM
  refine g3 @a1_ @b1 @r1 ?_
  refine hK _ ⟨by simp; omega,fun o h1 h2=>?_⟩ (by simp; exact l1) (by rw[List.getElem?_set_self hrl1]; rfl) (by rw[List.getElem?_set_ne hne]; exact d1)
  rw[List.getElem?_set_ne (fun q=>h1 (.inl q.symm))]
  exact f1.get h1 h2
 ·have hs':bt S (p+1)=some 125:=by simpa using hs
  simp -implicitDefEqProofs (disch:=first|assumption|omega|(simp only[gL,gA]<;>omega)|fail) only[gC,reduceIte,a1_,a1,a2,a3,a4,a5,hr,hd]
  obtain ⟨H1,hH1⟩:∃H1,H1=(H.set dd (.cells ⟨[x,I ((c-48:Nat):Int)],0,0,false⟩)).set ro (.cells ⟨[.str S,I ((p:Int)+1),I d,I 0],0,0,false⟩):=⟨_,rfl⟩
  have r1:H1[ro]?=some (.cells ⟨[.str S,I ((p+1:Nat):Int),I d,I 0],0,0,false⟩):=by rw[hH1,List.getElem?_set_self (by simp; exact hrl)]; rfl
  have d1:H1[dd]?=some (.cells ⟨[x,I ((c-48:Nat):Int)],0,0,false⟩):=by rw[hH1,List.getElem?_set_ne hne,List.getElem?_set_self hdl]
  have f1:FrS (fun o=>o=ro\/o=dd) H H1:=⟨by rw[hH1]; simp,fun o h1 h2=>by rw[hH1,List.getElem?_set_ne (fun q=>h1 (.inl q.symm)),List.getElem?_set_ne (fun q=>h1 (.inr q.symm))]⟩
  have l1:H1.length=H.length:=by rw[hH1]; simp
  rw[<-hH1]
  refine WP.call (a5W r1 hs') ?_
  rintro _ _ ⟨rfl,rfl⟩
  have b1:=neu_f (a:=125) (b:=125) rfl
  have hrl1:ro<H1.length:=oM
  refine g3 @a1_ @b1 @r1 ?_
  refine hK _ ⟨by simp; omega,fun o h1 h2=>?_⟩ (by simp; exact l1) (by rw[List.getElem?_set_self hrl1]; rfl) (by rw[List.getElem?_set_ne hne]; exact d1)
  rw[List.getElem?_set_ne (fun q=>h1 (.inl q.symm))]
  exact f1.get h1 h2
theorem c3z {p a b q:Nat}(h:tms S p=some (a,b,q)):∃c0 c1,bt S p=some c0/\48<=c0/\c0<=57/\a=c0-48/\bt S (p+1)=some 44/\bt S (p+2)=some c1/\48<=c1/\c1<=57/\b=c1-48/\bt S (p+3)=some 125/\a<=b/\q=p+4:=by
 have hd:∀{x:Option Nat} {m:Nat},dig x=some m->∃c,x=some c/\48<=c/\c<=57/\m=c-48:=by
  intro x m hx
  cases x with
  |none=>simp[dig] at hx
  |some c=>
   simp only[dig] at hx
   split at hx
   ·rename_i hc
    injection hx with hx
    exact ⟨c,rfl,hc.1,hc.2,hx.symm⟩
   ·cases hx
 simp only[tms] at h
 split at h
 ·rename_i x y h1 h2
  split at h
  ·rename_i hc
   injection h with h
   injection h with h3 h4
   injection h4 with h4 h5
   subst h3 h4 h5
   obtain ⟨c0,k1,k2,k3,k4⟩:=hd h1
   obtain ⟨c1,m1,m2,m3,m4⟩:=hd h2
   exact ⟨c0,c1,k1,k2,k3,k4,hc.1,m1,m2,m3,m4,hc.2.1,hc.2.2,rfl⟩
  ·cases h
 ·cases h
theorem c1V {h:Heap}{p d a b q:Nat}{n:Nd}{c5:List AV}{D:Nat->Prop}(hS:S.size<=200)(hc:tms S p=some (a,b,q))(hp0:0<p)(hr:h[ro]?=some (.cells ⟨[.str S,I p,I d,I 0],0,0,false⟩))(nv:NVD h D n c5)(hD:∀o,D o->o≠ro) :
  Tot tab h9_ [.ptr ro 0 4 0,.agg c5] h fun v h'=>FrS (fun o=>o=ro) h h'/\h'[ro]?=some (.cells ⟨[.str S,I q,I d,I 0],0,0,false⟩)/\∃c,v=.agg c/\NVD h' (fun o=>(D o/\o<h.length)\/(h.length<=o/\o<h'.length)) (.rep a b n) c:=by
 refine WP.tot (fun k=>a6o k _ _ h) ?_
 obtain ⟨c0,c1,k1,k2,k3,rfl,k5,m1,m2,m3,rfl,m5,hab,rfl⟩:=c3z hc
 have hro:=(List.getElem?_eq_some_iff.1 hr).1
 have hp:=bt_lt k1
 obtain ⟨s5,rfl,ho5⟩:=nv.inv
 obtain ⟨H,hH⟩:∃H,H=((h++[AObj.cells ⟨[I n.kind,I n.st,I n.lo,I n.hi,s5],0,0,false⟩])++[AObj.cells ⟨[I 0,I 0,I 0,I 0,.nils],0,0,false⟩])++[AObj.cells ⟨[I 0,I 0],0,0,false⟩]:=⟨_,rfl⟩
 have eH:Ext h H:=by rw[hH]; exact eX
 have x0:H[h.length]?=some (.cells ⟨[I n.kind,I n.st,I n.lo,I n.hi,s5],0,0,false⟩):=by rw[hH]; simp
 have x1:H[h.length+1]?=some (.cells ⟨[I 0,I 0,I 0,I 0,.nils],0,0,false⟩):=by rw[hH]; simp
 have x2:H[h.length+2]?=some (.cells ⟨[I 0,I 0],0,0,false⟩):=by rw[hH]; simp
 have hl:H.length=h.length+3:=by rw[hH]; simp
 have hrH:=eH.get hr
 have hp2:h.length+1+1=h.length+2:=rfl
 refine g3 @ho5 @hr @hp2 ?_
 rw[<-hH,show AV.int .i64 0=I ((0:Nat):Int) from rfl]
 refine WP.ent (b6D (i:=0) (p:=p) (d:=d) (c:=c0) oM hS k1 k2 k3 (by simpa using k5) hrH x2 oM fun H1 f1 l1 r1 d1=>?_) fun i=>rfl
 refine b6D (i:=1) (p:=p+2) (d:=d) (c:=c1) (x:=I ((c0-48:Nat):Int)) (y:=I 0) oM hS m1 m2 m3 (by simpa using m5) r1 d1 oM fun H2 f2 l2 r2 d2=>?_
 refine WP.rnd (fun i' j=>a0N i' j (.ptr ro 0 4 0) (.ptr h.length 0 5 0) (.ptr (h.length+1) 0 5 0) _ (.ptr (h.length+2) 0 2 0) (I ((1+1:Nat):Int)) H2) ?_
 refine g0 ?_
 refine WP.lv (WP.congr (fun i=>a5k i (.ptr ro 0 4 0) (.ptr h.length 0 5 0) (.ptr (h.length+1) 0 5 0) _ (.ptr (h.length+2) 0 2 0) H2) ?_) fun i j=>rfl
 have f12:=f1.trans f2
 have y0:H2[h.length]?=some (.cells ⟨[I n.kind,I n.st,I n.lo,I n.hi,s5],0,0,false⟩):=(f12.get oM oM).trans x0
 have y1:H2[h.length+1]?=some (.cells ⟨[I 0,I 0,I 0,I 0,.nils],0,0,false⟩):=(f12.get oM oM).trans x1
 have y2:H2[h.length+2]?=some (.cells ⟨[I ((c0-48:Nat):Int),I ((c1-48:Nat):Int)],0,0,false⟩):=d2
 have a0:=b6C (o:=h.length+2) (n:=2) (i:=0) oM oM
 have a1:=b6C (o:=h.length+2) (n:=2) (i:=1) oM oM
 have hl2:H2.length=h.length+3:=oM
 refine g8 @a0 @a1 @y0 @y1 @y2 @ho5 (show Int.toNat 0=0 from rfl) (show Int.toNat 1=1 from rfl) ?_
 have nvH:NVD H (fun o=>D o/\o<h.length) n [I n.kind,I n.st,I n.lo,I n.hi,s5]:=nv.ext eH fun o h1 h2=>⟨h2,h1⟩
 have nv2:NVD H2 (fun o=>D o/\o<h.length) n [I n.kind,I n.st,I n.lo,I n.hi,s5]:=nvH.frs f12 (fun o h1 h2 h3=>by
  rcases h3 with h3|h3
  ·exact hD o h2.1 h3
  ·omega) fun _ _ z=>z
 have e3:Ext H2 (H2++[AObj.cells ⟨[I n.kind,I n.st,I n.lo,I n.hi,s5],0,0,false⟩]):=Ext.push _ _
 have row3:(H2++[AObj.cells ⟨[I n.kind,I n.st,I n.lo,I n.hi,s5],0,0,false⟩])[H2.length]?=some (.cells ⟨[I n.kind,I n.st,I n.lo,I n.hi,s5],0,0,false⟩):=by simp
 generalize H2++[AObj.cells ⟨[I n.kind,I n.st,I n.lo,I n.hi,s5],0,0,false⟩]=H3 at *
 have l3:=e3.len
 have f3:∀(x:AObj),FrS (fun o=>o=h.length+1) H3 (H3.set (h.length+1) x):=fun x=>FrS.set1 ..
 have row3l:=(List.getElem?_eq_some_iff.1 row3).1
 have nv3:∀x,NVD (H3.set (h.length+1) x) (fun o=>D o/\o<h.length) n [I n.kind,I n.st,I n.lo,I n.hi,s5]:=fun x=>
  (nv2.ext e3 (D':=fun o=>D o/\o<h.length) fun _ _ z=>z).frs (f3 x) (fun o h1 h2 h3=>oM) fun _ _ z=>z
 refine WP.ret ⟨⟨by simp; omega,fun o h1 h2=>?_⟩,?_,_,rfl,.mk (n:=.rep (c0-48) (c1-48) n) (css:=[[I n.kind,I n.st,I n.lo,I n.hi,s5]]) (b6y (by rw[List.getElem?_set_ne oM]; simpa using row3) rfl (by simp)) (fun _=>?_) ?_⟩
 ·rw[List.getElem?_set_ne oM,(a3i.1 e3).2 o oM,f12.get oM oM,(a3i.1 eH).2 o h2]
 ·rw[List.getElem?_set_ne oM]
  exact e3.get r2
 ·exact .inr ⟨by simp[AV.obj]; omega,by simp[AV.obj]; omega⟩
 ·refine .cons ((nv3 _).frs (FrS.refl (fun _=>False) _) (fun _ _ _ z=>z) fun o _ z=>.inl z) .nil
end
end Go.Gm.AQ
