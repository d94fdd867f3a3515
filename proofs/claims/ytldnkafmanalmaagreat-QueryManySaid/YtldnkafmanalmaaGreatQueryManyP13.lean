/- A part of the proof (GmAZta, GmAZtb, GmAZ3, GmEntry, GmRaw). -/
import Derived.OpenShut
import Derived.ChangeArms
import Derived.DataReads
import Derived.Test.YtldnkafmanalmaaGreatQueryManyP12
set_option autoImplicit true
set_option relaxedAutoImplicit true
set_option linter.unusedVariables false
set_option linter.unusedSimpArgs false
set_option linter.unusedSectionVars false
namespace Go.Gm.AZ
open Go Go.Gm
theorem c3R (a b:List Nat):ofL a++ofL b=ofL (a++b):=by
 apply ByteArray.ext
 rw[ByteArray.data_append]
 simp[ofL]
theorem add_s (a b:List Nat)(h:a.length+b.length<=1000000):binV .add .scalar (.str (ofL a)) (.str (ofL b))=some (.str (ofL (a++b))):=by
 rw[<-c3R]
 exact if_pos (by rw[q7_,q7_]; omega)
theorem len_s (a:List Nat):lenB (.str (ofL a))=some (I a.length):=by
 rw[show lenB (.str (ofL a))=some (I ((ofL a).size:Nat)) from rfl,q7_]
theorem sgn_s:∀i:Fin 5,slStr (.str ⟨#[119,98,99,102,116]⟩) (some (I (i.val:Nat))) (some (I ((i.val:Nat)+1)))=some (.str (ofL [sgnB i.val]))
 |⟨0,_⟩=>rfl
 |⟨1,_⟩=>rfl
 |⟨2,_⟩=>rfl
 |⟨3,_⟩=>rfl
 |⟨4,_⟩=>rfl
def setP (s i:Nat):List Nat:=((List.range i).filter λm=>s.testBit m).map sgnB
theorem c0D (s i:Nat):setP s (i+1)=setP s i++if s.testBit i=true then [sgnB i] else []:=by
 simp only[setP,List.range_succ,List.filter_append,List.map_append]
 cases h:s.testBit i<;>simp[h]
theorem c2r {s:Nat}(hs:s<=31)(h:Heap):Tot tab w5_ [I s] h λr h'=>h=h'/\r=.str (ofL (setT s)):=by
 refine WP.tot (b1e · ..) ?_
 have fin:WP (λk:Nat=>a2H k (I s) (.str (ofL (setS s))) h) λr h'=>h=h'/\r=.str (ofL (setT s)):=by
  refine WP.congr (a9v · ..) ?_
  have hl:=len_s (setS s)
  have hl5:(setS s).length<=5:=by rw[setS,List.length_map]; exact Nat.le_trans (List.length_filter_le ..) (by simp)
  have ha:=add_s [91] (setS s) (by simp; omega)
  have hb:=add_s ([91]++setS s) [93] (by simp; omega)
  by_cases q:s=31
  ·subst q
   refine g0 ?_
   exact WP.ret ⟨rfl,rfl⟩
  ·by_cases z:(setS s).length=1
   ·refine g1 @hl ?_
    exact WP.ret ⟨rfl,by rw[setT,if_neg q,if_pos z]⟩
   ·have ha':binV .add .scalar (.str ⟨#[91]⟩) (.str (ofL (setS s)))=some (.str (ofL ([91]++setS s))):=ha
    have hb':binV .add .scalar (.str (ofL ([91]++setS s))) (.str ⟨#[93]⟩)=some (.str (ofL ([91]++setS s++[93]))):=hb
    refine g1 @hl ?_
    rw[ha']
    refine g0 ?_
    rw[hb']
    refine g0 ?_
    exact WP.ret ⟨rfl,by rw[setT,if_neg q,if_neg z]; rfl⟩
 have loop:∀d i:Nat,i+d=5->WP (λp:Nat × Nat=>t4_ p.1 p.2 (I s) (.str (ofL (setP s i))) (I i) h) λr h'=>h=h'/\r=.str (ofL (setT s)):=by
  intro d
  induction d with
  |zero=>
   intro i hi
   refine WP.rnd (a4z · · ..) ?_
   obtain rfl:i=5:=oM
   refine g0 ?_
   exact WP.lv fin λi j=>rfl
  |succ d ih=>
   intro i hi
   refine WP.rnd (a4z · · ..) ?_
   have ss:=sgn_s ⟨i,oM⟩
   simp only at ss
   have hsh:binV .shr .scalar (I s) (.int .u64 i)=some (I ((s >>> i:Nat):Int)):=shr_i (k:=.u64) (s:=s) (m:=(i:Int)) oM oM
   have hle:s >>> i<2 ^ 62:=Nat.lt_of_le_of_lt (by rw[Nat.shiftRight_eq_div_pow]; exact Nat.div_le_self _ _) (Nat.lt_of_le_of_lt hs (by decide))
   have han:binV .and .scalar (I ((s >>> i:Nat):Int)) (I 1)=some (I (((s >>> i) &&& 1:Nat):Int)):=and_i (b:=1) hle (by decide)
   have hcv:convV .u64 (I i)=some (.int .u64 i):=a5n oM oM
   have hsn:=c0D s i
   have hn:=ih (i+1) oM
   obtain ⟨b2,hb2⟩:∃b2,s.testBit i=b2:=⟨_,rfl⟩
   rw[hb2] at hsn
   cases b2 with
   |false=>
    have hbt:binV .eql .scalar (I (((s >>> i) &&& 1:Nat):Int)) (I 1)=some (.bool false):=bit_f (m:=(i:Int)) oM hb2
    rw[if_neg (by decide),List.append_nil] at hsn
    rw[hsn] at hn
    refine g4 @hcv @hsh @han @hbt ?_
    exact hn
   |true=>
    have hbt:binV .eql .scalar (I (((s >>> i) &&& 1:Nat):Int)) (I 1)=some (.bool true):=bit_t (m:=(i:Int)) oM hb2
    rw[if_pos rfl] at hsn
    rw[hsn] at hn
    have hpl:(setP s i).length<=i:=by rw[setP,List.length_map]; exact Nat.le_trans (List.length_filter_le ..) (by simp)
    have ha:=add_s (setP s i) [sgnB i] (by simp; omega)
    refine g6 @hcv @hsh @han @hbt @ss @ha ?_
    exact hn
 exact WP.ent (loop 5 0 oM) λi=>rfl
def TextS (n:Nd):Prop:=∀(h:Heap) (c5:List AV),NV h n c5->(txt n).length<=900000->Tot tab c6_ [.agg c5] h λr h'=>Ext h h'/\r=.str (ofL (txt n))
theorem kinds (n:Nd):(isU n=true↔n.kind=5)/\(isJ n=true↔n.kind=4):=by cases n<;>simp[isU,isJ,Nd.kind]
theorem c3S (hn:TextS n)(nv:NV h n c5)(hl:(txt n).length<=900000)(k:Int) :
  Tot tab a0v [I k,.agg c5] h λr h'=>Ext h h'/\r=.str (ofL (prn (isU n || (decide (k≠5) && isJ n)) (txt n))):=by
 refine WP.tot (a7G · ..) ?_
 obtain ⟨sL,css,kv⟩:=kidsV nv
 have h5:=kv.sl.one
 obtain rfl:=kv.c
 obtain ⟨h1,hh1⟩:∃h1,h1=h++[AObj.cells ⟨[I n.kind,I n.st,I n.lo,I n.hi,sL],0,0,false⟩]:=⟨_,rfl⟩
 have e1:Ext h h1:=by rw[hh1]; exact Ext.push _ _
 have r1:h1[h.length]?=some (.cells ⟨[I n.kind,I n.st,I n.lo,I n.hi,sL],0,0,false⟩):=by rw[hh1]; simp
 refine g1 @h5 ?_
 rw[<-hh1]
 refine WP.call (hn h1 _ (nv.keeps (Keeps.ofExt e1)) hl) ?_
 rintro r h2 ⟨e2,rfl⟩
 have r2:=e2.get r1
 obtain ⟨ku,kj⟩:=kinds n
 have ha:binV .add .scalar (.str ⟨#[40]⟩) (.str (ofL (txt n)))=some (.str (ofL ([40]++txt n))):=add_s [40] _ (by simp; omega)
 have hb:binV .add .scalar (.str (ofL ([40]++txt n))) (.str ⟨#[41]⟩)=some (.str (ofL ([40]++txt n++[41]))):=add_s _ [41] (by simp; omega)
 by_cases q5:n.kind=5
 ·have e:prn (isU n || (decide (k≠5) && isJ n)) (txt n)=[40]++txt n++[41]:=by rw[ku.2 q5]; rfl
  refine g3 @r2 @q5 @gd_tf ?_
  rw[ha]
  refine g0 ?_
  rw[hb]
  refine g0 ?_
  exact WP.ret ⟨e1.trans e2,by rw[e]⟩
 ·have hu:isU n=false:=by
   cases z:isU n with
   |false=>rfl
   |true=>exact absurd (ku.1 z) q5
  by_cases q4:n.kind=4
  ·by_cases qk:k=5
   ·subst qk
    have e:prn (isU n || (decide ((5:Int)≠5) && isJ n)) (txt n)=txt n:=by rw[hu]; rfl
    refine g3 @r2 @q5 @q4 ?_
    exact WP.ret ⟨e1.trans e2,by rw[e]⟩
   ·have e:prn (isU n || (decide (k≠5) && isJ n)) (txt n)=[40]++txt n++[41]:=by rw[hu,kj.2 q4,decide_eq_true qk]; rfl
    refine g3 @r2 @q5 @q4 ?_
    rw[ha]
    refine g0 ?_
    rw[hb]
    refine g0 ?_
    exact WP.ret ⟨e1.trans e2,by rw[e]⟩
  ·have hj:isJ n=false:=by
    cases z:isJ n with
    |false=>rfl
    |true=>exact absurd (kj.1 z) q4
   have e:prn (isU n || (decide (k≠5) && isJ n)) (txt n)=txt n:=by rw[hu,hj,Bool.and_false]; rfl
   refine g1 @r2 ?_
   exact WP.ret ⟨e1.trans e2,by rw[e]⟩
def rstT (n:Nd)(i:Nat):List Nat:=if n.kind=5 then (if i=0 then txtu n.kids else txtr (n.kids.drop i)) else txtj (n.kids.drop i)
def sufT:Nd->List Nat
 |.star _=>[42]
 |.plus _=>[43]
 |.opt _=>[63]
 |.rep a b _=>[123,48+a,44,48+b,125]
 |.join _=>[]
 |.uni _=>[]
 |.set _=>[]
 |.emp=>[]
 |.eps=>[]
theorem txtj1 (c:Nd):txtj [c]=prn (isU c || isJ c) (txt c):=by rw[txtj,txtj,List.append_nil]
theorem c3T {n:Nd}(h:4<=n.kind):txt n=rstT n 0++sufT n:=by
 cases n with
 |set s=>simp[Nd.kind] at h
 |emp=>simp[Nd.kind] at h
 |eps=>simp[Nd.kind] at h
 |join l=>rw[txt,sufT,List.append_nil]; rfl
 |uni l=>rw[txt,sufT,List.append_nil]; rfl
 |star c=>rw[txt]; exact congrArg (·++[42]) (txtj1 c).symm
 |plus c=>rw[txt]; exact congrArg (·++[43]) (txtj1 c).symm
 |opt c=>rw[txt]; exact congrArg (·++[63]) (txtj1 c).symm
 |rep a b c=>rw[txt]; exact congrArg (·++[123,48+a,44,48+b,125]) (txtj1 c).symm
theorem c3U (n:Nd){i:Nat}(h:n.kids.length<=i)(h2:n.kind=5->0<i):rstT n i=[]:=by
 rw[rstT]
 split
 ·rw[if_neg (by have:=h2 ‹_›; omega),List.drop_of_length_le h]; rfl
 ·rw[List.drop_of_length_le h]; rfl
theorem c2s {n c:Nd}{i:Nat}(h:n.kids[i]?=some c):rstT n i=(if 0<i/\n.kind=5 then [124] else [])++prn (isU c || (decide (n.kind≠5) && isJ c)) (txt c)++rstT n (i+1):=by
 have hi:=(List.getElem?_eq_some_iff.1 h).1
 have hd:n.kids.drop i=c::n.kids.drop (i+1):=by
  rw[List.drop_eq_getElem_cons hi]
  congr 1
  exact (List.getElem?_eq_some_iff.1 h).2
 try simp only[rstT]
 by_cases q:n.kind=5
 ·have hq:decide (n.kind≠5)=false:=by simp[q]
  rw[if_pos q,if_pos q,if_neg (by omega:¬i+1=0),hq,Bool.false_and,Bool.or_false]
  by_cases z:i=0
  ·subst z
   rw[if_pos rfl,if_neg oM,List.nil_append]
   rw[List.drop_zero] at hd
   rw[hd,txtu]; rfl
  ·rw[if_neg z,if_pos ⟨oM,q⟩,hd,txtr]; simp
 ·have hq:decide (n.kind≠5)=true:=by simp[q]
  rw[if_neg q,if_neg q,if_neg (λz=>q z.2),hq,Bool.true_and,List.nil_append,hd,txtj]
theorem b8f {n:Int}(h0:0<=n)(h1:n<256):convV .u8 (I n)=some (.int .u8 n):=by
 show some (AV.int .u8 (IntKind.u8.wrap n))=_
 congr 2
 simp[IntKind.wrap,IntKind.bits,IntKind.signed]
 omega
theorem b2s5 (h:Heap)(a b:Nat):b2sV (h++[AObj.cells ⟨[.int .u8 123,.int .u8 (48+(a:Int)),.int .u8 44,.int .u8 (48+(b:Int)),.int .u8 125],0,0,false⟩]) (.sl h.length 0 5 1 none 0)=some (.str (ofL [123,48+a,44,48+b,125])):=by
 have ea:(48+(a:Int)).toNat=48+a:=oM
 have eb:(48+(b:Int)).toNat=48+b:=oM
 have e:rdc (h++[AObj.cells ⟨[.int .u8 123,.int .u8 (48+(a:Int)),.int .u8 44,.int .u8 (48+(b:Int)),.int .u8 125],0,0,false⟩]) h.length 0 5 0=some [.int .u8 123,.int .u8 (48+(a:Int)),.int .u8 44,.int .u8 (48+(b:Int)),.int .u8 125]:=by
  simp[rdc]
 simp only[b2sV,e,Option.bind_some,b2sL,ea,eb,Option.map_some]
 rfl
theorem c3V (g:Gd n)(bd:n.kids.length<=1000)(hk:4<=n.kind)(ih:∀c∈n.kids,TextS c){o:Nat}{sL:AV}(kv:KidsV h0 n [I n.kind,I n.st,I n.lo,I n.hi,sL] sL css)(hl:(txt n).length<=900000)(e0:Ext h0 h1)(ro:h1[o]?=some (.cells ⟨[I n.kind,I n.st,I n.lo,I n.hi,sL],0,0,false⟩)) :
  ∀(d i:Nat) (h:Heap) (t:List Nat),i+d=n.kids.length->Ext h1 h->t++rstT n i++sufT n=txt n->
   WP (λp:Nat × Nat=>q9_ p.1 p.2 (.ptr o 0 5 0) (.str (ofL t)) (I i) h) λr h'=>Ext h1 h'/\r=.str (ofL (txt n)):=by
 have lk:=kv.nv.length
 have fin:∀(h:Heap) (t:List Nat),Ext h1 h->t++sufT n=txt n->WP (λk:Nat=>a2f k (.ptr o 0 5 0) (.str (ofL t)) h) λr h'=>Ext h1 h'/\r=.str (ofL (txt n)):=by
  intro h t e ht
  refine WP.congr (a8R · ..) ?_
  have r:=e.get ro
  have hlt:t.length<=900000:=by rw[<-ht,List.length_append] at hl; omega
  have a1:binV .add .scalar (.str (ofL t)) (.str ⟨#[42]⟩)=some (.str (ofL (t++[42]))):=add_s t [42] (by simp; omega)
  have a2:binV .add .scalar (.str (ofL t)) (.str ⟨#[43]⟩)=some (.str (ofL (t++[43]))):=add_s t [43] (by simp; omega)
  have a3:binV .add .scalar (.str (ofL t)) (.str ⟨#[63]⟩)=some (.str (ofL (t++[63]))):=add_s t [63] (by simp; omega)
  rw[<-ht]
  cases n with
  |set s=>simp[Nd.kind] at hk
  |emp=>simp[Nd.kind] at hk
  |eps=>simp[Nd.kind] at hk
  |join l=>
   simp only[Nd.kind,Nd.st,Nd.lo,Nd.hi] at r
   refine g1 @r ?_
   exact WP.ret ⟨e,by rw[sufT,List.append_nil]⟩
  |uni l=>
   simp only[Nd.kind,Nd.st,Nd.lo,Nd.hi] at r
   refine g1 @r ?_
   exact WP.ret ⟨e,by rw[sufT,List.append_nil]⟩
  |star c=>
   simp only[Nd.kind,Nd.st,Nd.lo,Nd.hi] at r
   refine g2 @r @a1 ?_
   exact WP.ret ⟨e,rfl⟩
  |plus c=>
   simp only[Nd.kind,Nd.st,Nd.lo,Nd.hi] at r
   refine g2 @r @a2 ?_
   exact WP.ret ⟨e,rfl⟩
  |opt c=>
   simp only[Nd.kind,Nd.st,Nd.lo,Nd.hi] at r
   refine g2 @r @a3 ?_
   exact WP.ret ⟨e,rfl⟩
  |rep a b c=>
   simp only[Nd.kind,Nd.st,Nd.lo,Nd.hi] at r
   obtain ⟨g1,g2⟩:=g.rt
   have c1:=b8f (n:=48+(a:Int)) oM oM
   have c2:=b8f (n:=48+(b:Int)) oM oM
   have b5:=b2s5 h a b
   have hs:(sufT (.rep a b c)).length=5:=rfl
   have a5:=add_s t (sufT (.rep a b c)) (by rw[hs]; omega)
   refine g3 @r @c1 @c2 ?_
   rw[b5]
   refine g0 ?_
   rw[show binV .add .scalar (.str (ofL t)) (.str (ofL [123,48+a,44,48+b,125]))=some (.str (ofL (t++sufT (.rep a b c)))) from a5]
   refine g0 ?_
   exact WP.ret ⟨e.trans (Ext.push _ _),rfl⟩
 intro d
 induction d with
 |zero=>
  intro i h t hi e ht
  refine WP.rnd (a3S · · ..) ?_
  have r:=e.get ro
  have sl:=(kv.sl.ext e0).ext e
  have hr:rstT n i=[]:=c3U n oM λz=>by
   have:=g.rt
   cases n<;>simp[Nd.kind] at z
   simp only[RtN,Nd.kids] at *; omega
  rw[hr,List.append_nil] at ht
  refine g2 @r sl.lenG ?_
  exact WP.lv (fin h t e ht) λi j=>rfl
 |succ d ih2=>
  intro i h t hi e ht
  refine WP.rnd (a3S · · ..) ?_
  have r:=e.get ro
  have e':=e0.trans e
  have sl:=kv.sl.ext e'
  have hc:n.kids[i]?=some (n.kids[i]'oM):=List.getElem?_eq_getElem oM
  obtain ⟨c,hcc⟩:∃c,n.kids[i]'oM=c:=⟨_,rfl⟩
  rw[hcc] at hc
  obtain ⟨cc,hg,nvc,hi2⟩:=kv.get hc
  have hs:=c2s hc
  have cm:c∈n.kids:=List.mem_of_getElem? hc
  have hle:(prn (isU c || (decide (n.kind≠5) && isJ c)) (txt c)).length<=900000/\t.length<=900000:=by
   rw[<-ht,hs] at hl
   simp only[List.length_append] at hl
   exact ⟨oM,oM⟩
  have hlc:(txt c).length<=900000:=by have:=hle.1; rw[b4J] at this; omega
  have key:∀(h2:Heap) (t2:List Nat),Ext h1 h2->t2++prn (isU c || (decide (n.kind≠5) && isJ c)) (txt c)++rstT n (i+1)++sufT n=txt n->
    WP (λp:Nat × Nat=>z5_ p.1 p.2 (.ptr o 0 5 0) (.str (ofL t2)) (I i) h2) λr h'=>Ext h1 h'/\r=.str (ofL (txt n)):=by
   intro h2 t2 e2 ht2
   refine WP.congr (λp=>a8Q p.1 p.2 ..) ?_
   have r:=e2.get ro
   have sl:=kv.sl.ext (e0.trans e2)
   have e0':=Ext.refl h2
   refine g5 @r sl.idxG sl.ldN @hg @id ?_
   refine WP.call (c3S (ih c cm) (nvc.keeps (Keeps.ofExt (e0.trans e2))) hlc n.kind) ?_
   rintro rr h3 ⟨e3,rfl⟩
   have hlt:t2.length+(prn (isU c || (decide (n.kind≠5) && isJ c)) (txt c)).length<=900000:=by
    rw[<-ht2] at hl
    simp only[List.length_append] at hl
    omega
   have ha:=add_s t2 (prn (isU c || (decide (n.kind≠5) && isJ c)) (txt c)) oM
   rw[ha]
   refine g0 ?_
   exact ih2 (i+1) h3 _ oM (e2.trans e3) ht2
  rw[hs] at ht
  by_cases q:0<i/\n.kind=5
  ·rw[if_pos q] at ht
   have ha:binV .add .scalar (.str (ofL t)) (.str ⟨#[124]⟩)=some (.str (ofL (t++[124]))):=add_s t [124] (by have:=hle.2; simp; omega)
   obtain ⟨q1,q2⟩:=q
   refine g3 @r sl.lenG @q2 ?_
   rw[ha]
   refine g0 ?_
   exact key h (t++[124]) e (by rw[<-ht]; simp)
  ·rw[if_neg q,List.nil_append] at ht
   by_cases z:0<i
   ·have q2:¬n.kind=5:=λy=>q ⟨z,y⟩
    refine g2 @r sl.lenG ?_
    exact key h t e (by rw[<-ht]; simp)
   ·refine g2 @r sl.lenG ?_
    exact key h t e (by rw[<-ht]; simp)
end Go.Gm.AZ
namespace Go.Gm.AZ
open Go Go.Gm
theorem a9O (n:Nd):Gd n->Bd n->TextS n:=by
 refine Nd.ind (p:=λn=>Gd n->Bd n->TextS n) (λn ih g bd=>?_) n
 intro h c5 nv hl
 refine WP.tot (b0v · ..) ?_
 obtain ⟨sL,css,kv⟩:=kidsV nv
 have h5:=kv.sl.one
 obtain rfl:=kv.c
 have e1:Ext h (h++[AObj.cells ⟨[I n.kind,I n.st,I n.lo,I n.hi,sL],0,0,false⟩]):=Ext.push _ _
 have r1:(h++[AObj.cells ⟨[I n.kind,I n.st,I n.lo,I n.hi,sL],0,0,false⟩])[h.length]?=some (.cells ⟨[I n.kind,I n.st,I n.lo,I n.hi,sL],0,0,false⟩):=by simp
 have big:4<=n.kind->WP (λk:Nat=>q9_ k k (.ptr h.length 0 5 0) (.str ⟨#[]⟩) (I 0) (h++[AObj.cells ⟨[I n.kind,I n.st,I n.lo,I n.hi,sL],0,0,false⟩])) λr h'=>Ext h h'/\r=.str (ofL (txt n)):=λhk=>by
  refine WP.ent ((c3V (h0:=h) g bd.len hk (λc hc=>ih c hc (g.kid c hc) (bd.kid c hc)) kv hl e1 r1 n.kids.length 0 _ [] oM (Ext.refl _) (by rw[c3T hk]; rfl)).mono ?_) λi=>rfl
  rintro r h' ⟨e,rfl⟩
  exact ⟨e1.trans e,rfl⟩
 obtain ⟨h1,hh1⟩:∃h1,h1=h++[AObj.cells ⟨[I n.kind,I n.st,I n.lo,I n.hi,sL],0,0,false⟩]:=⟨_,rfl⟩
 rw[<-hh1] at e1 r1 big
 simp -implicitDefEqProofs (disch:=first|assumption|omega|(simp only[gL,gA]<;>omega)|fail) only[cG,reduceIte,h5]
 rw[<-hh1]
 have g0:=g.rt
 cases n with
 |set s=>
  simp only[Nd.kind,Nd.st,Nd.lo,Nd.hi] at r1
  simp -implicitDefEqProofs (disch:=first|assumption|omega|(simp only[gL,gA]<;>omega)|fail) only[cG,reduceIte,Nd.kind,Nd.st,r1]
  refine WP.call (c2r g0.2 h1) ?_
  rintro r h2 ⟨rfl,rfl⟩
  exact WP.ret ⟨e1,by rw[txt]⟩
 |emp=>
  simp only[Nd.kind,Nd.st,Nd.lo,Nd.hi] at r1
  simp -implicitDefEqProofs (disch:=first|assumption|omega|(simp only[gL,gA]<;>omega)|fail) only[cG,reduceIte,Nd.kind,Nd.st,r1]
  exact WP.ret ⟨e1,by rw[txt]; rfl⟩
 |eps=>
  simp only[Nd.kind,Nd.st,Nd.lo,Nd.hi] at r1
  simp -implicitDefEqProofs (disch:=first|assumption|omega|(simp only[gL,gA]<;>omega)|fail) only[cG,reduceIte,Nd.kind,Nd.st,r1]
  exact WP.ret ⟨e1,by rw[txt]; rfl⟩
 |join l=>
  have bg:=big (by simp[Nd.kind])
  simp only[Nd.kind,Nd.st,Nd.lo,Nd.hi] at r1
  simp -implicitDefEqProofs (disch:=first|assumption|omega|(simp only[gL,gA]<;>omega)|fail) only[cG,reduceIte,Nd.kind,Nd.st,r1]
  exact bg
 |uni l=>
  have bg:=big (by simp[Nd.kind])
  simp only[Nd.kind,Nd.st,Nd.lo,Nd.hi] at r1
  simp -implicitDefEqProofs (disch:=first|assumption|omega|(simp only[gL,gA]<;>omega)|fail) only[cG,reduceIte,Nd.kind,Nd.st,r1]
  exact bg
 |star c=>
  have bg:=big (by simp[Nd.kind])
  simp only[Nd.kind,Nd.st,Nd.lo,Nd.hi] at r1
  simp -implicitDefEqProofs (disch:=first|assumption|omega|(simp only[gL,gA]<;>omega)|fail) only[cG,reduceIte,Nd.kind,Nd.st,r1]
  exact bg
 |plus c=>
  have bg:=big (by simp[Nd.kind])
  simp only[Nd.kind,Nd.st,Nd.lo,Nd.hi] at r1
  simp -implicitDefEqProofs (disch:=first|assumption|omega|(simp only[gL,gA]<;>omega)|fail) only[cG,reduceIte,Nd.kind,Nd.st,r1]
  exact bg
 |opt c=>
  have bg:=big (by simp[Nd.kind])
  simp only[Nd.kind,Nd.st,Nd.lo,Nd.hi] at r1
  simp -implicitDefEqProofs (disch:=first|assumption|omega|(simp only[gL,gA]<;>omega)|fail) only[cG,reduceIte,Nd.kind,Nd.st,r1]
  exact bg
 |rep a b c=>
  have bg:=big (by simp[Nd.kind])
  simp only[Nd.kind,Nd.st,Nd.lo,Nd.hi] at r1
  simp -implicitDefEqProofs (disch:=first|assumption|omega|(simp only[gL,gA]<;>omega)|fail) only[cG,reduceIte,Nd.kind,Nd.st,r1]
  exact bg
def MchQ (n:Nd)(lo:Nat)(r:AV)(h':Heap):Prop:=
 ∃(D:List (List Int)) (acc:List Bool) (sN sA:AV),r=.agg [sN,sA]/\Gr lo h'.length h' 5 sN (D.map encR)/\Gr lo h'.length h' 1 sA (acc.map encB)/\DOk D acc/\D.length<=200/\
  ((∃nf D0 acc0,nfaF n=some nf/\subF nf 200=some (D0,acc0)/\∀w:List Int,(∀m∈w,0<=m/\m<5)->gi acc0 (goS D0 0 w)=gi acc (goS D 0 w))\/
   ((∀nf,nfaF n=some nf->subF nf 200=none)/\D=[[0,0,0,0,0]]/\acc=[true]))
theorem a5Z (hs:Sl h 3 s css)(hr:RVs h l css)(hf:szF 7 l<=14) :
  Tot tab f7_ [s] h λr h'=>Ext h h'/\MchQ (oneN l) h.length r h':=by
 refine WP.tot (a8N · ..) ?_
 obtain ⟨h1,hh1⟩:∃h1,h1=h++[AObj.cells ⟨[.nils,.nils],0,0,false⟩]:=⟨_,rfl⟩
 have e1:Ext h h1:=by rw[hh1]; exact Ext.push _ _
 have l1:h1.length=h.length+1:=by rw[hh1]; simp
 have rt:h1[h.length]?=some (.cells ⟨[.nils,.nils],0,0,false⟩):=by rw[hh1]; simp
 obtain ⟨g,bd⟩:=b6v l
 obtain ⟨z1,z2,z3⟩:=c5b l hf
 refine g0 ?_
 rw[<-hh1]
 refine WP.call (a9M (hs.ext e1) (hr.ext e1)) ?_
 rintro r h2 ⟨e2,c5,rfl,nv⟩
 refine WP.call (a9O _ g bd h2 c5 nv.nv oM) ?_
 rintro r h3 ⟨e3,rfl⟩
 refine WP.call (y9_ (by rw[q7_]; exact z1) z2 (a6T g z3) g bd h3) ?_
 rintro r h4 ⟨e4,q4⟩
 have e14:=(e2.trans e3).trans e4
 have rt4:=e14.get rt
 have l4:=e14.len
 have b4:=(List.getElem?_eq_some_iff.1 rt4).1
 have e04:=e1.trans e14
 unfold CmpQ at q4
 obtain ⟨H,hH⟩:∃H,H=List.set (List.set (h4++[AObj.cells ⟨[.nils,.nils],0,0,false⟩]) h4.length (.cells ⟨[.nils,.nils],0,0,false⟩)++[AObj.cells ⟨[I 0,I 0,I 0,I 0,I 0],0,0,false⟩]++[AObj.cells ⟨[.bool true],0,0,false⟩]) h.length (.cells ⟨[.sl (h4.length+1) 0 1 5 none 0,.sl (h4.length+1+1) 0 1 1 none 0],0,0,false⟩):=⟨_,rfl⟩
 have eH:Ext h H:=by
  rw[hH]
  exact ((((e04.trans (Ext.push _ _)).set oM _).trans (Ext.push _ _)).trans (Ext.push _ _)).set (Nat.le_refl _) _
 have bad:(∀nf,nfaF (oneN l)=some nf->subF nf 200=none)->MchQ (oneN l) h.length (.agg [.sl (h4.length+1) 0 1 5 none 0,.sl (h4.length+1+1) 0 1 1 none 0]) H:=λhb=>by
  obtain ⟨h5,hh5⟩:∃h5,h5=List.set (h4++[AObj.cells ⟨[.nils,.nils],0,0,false⟩]) h4.length (.cells ⟨[.nils,.nils],0,0,false⟩):=⟨_,rfl⟩
  have l5:h5.length=h4.length+1:=by rw[hh5]; simp
  have b1:=Gr.lit (h:=h5) (sz:=5) (v:=[I 0,I 0,I 0,I 0,I 0]) rfl
  rw[a3_] at b1
  have b2:=Gr.lit (h:=h5++[AObj.cells ⟨[I 0,I 0,I 0,I 0,I 0],0,0,false⟩]) (sz:=1) (v:=[.bool true]) rfl
  rw[a3_] at b2
  have l6:(h5++[AObj.cells ⟨[I 0,I 0,I 0,I 0,I 0],0,0,false⟩]).length=h4.length+1+1:=by simp[l5]
  rw[l6] at b2
  rw[l5] at b1
  rw[<-hh5] at hH
  have c1:=(b1.app [AObj.cells ⟨[.bool true],0,0,false⟩]).set (o:=h.length) oM (.cells ⟨[.sl (h4.length+1) 0 1 5 none 0,.sl (h4.length+1+1) 0 1 1 none 0],0,0,false⟩)
  have c2:=b2.set (o:=h.length) oM (.cells ⟨[.sl (h4.length+1) 0 1 5 none 0,.sl (h4.length+1+1) 0 1 1 none 0],0,0,false⟩)
  rw[<-hH] at c1 c2
  refine ⟨[[0,0,0,0,0]],[true],_,_,rfl,c1.mono oM (by rw[hH]; simp; omega),c2.mono oM (by rw[hH]; simp; omega),⟨by decide,by decide,rfl,λs s0 s1=>?_,λs m s0 s1 m0 m1=>?_⟩,by decide,.inr ⟨hb,rfl,rfl⟩⟩
  ·obtain rfl:s=0:=by simp at s1; omega
   rfl
  ·obtain rfl:s=0:=by simp at s1; omega
   obtain ⟨k,rfl⟩:∃k:Nat,m=k:=⟨m.toNat,oM⟩
   match k,m1 with
   |0,_=>decide
   |1,_=>decide
   |2,_=>decide
   |3,_=>decide
   |4,_=>decide
   |k+5,m1=>omega
 cases hnf:nfaF (oneN l) with
 |none=>
  rw[hnf] at q4
  obtain rfl:=q4
  refine g2 @a1_ @rt4 ?_
  exact WP.ret (hH▸⟨eH,bad λnf z=>by rw[hnf] at z; cases z⟩)
 |some nf=>
  rw[hnf] at q4
  cases hsb:subF nf 200 with
  |none=>
   simp only[hsb] at q4
   obtain rfl:=q4
   refine g2 @a1_ @rt4 ?_
   exact WP.ret (hH▸⟨eH,bad λnf' z=>by rw[hnf] at z; cases z; exact hsb⟩)
  |some p=>
   obtain ⟨D0,acc0⟩:=p
   simp only[hsb] at q4
   obtain ⟨v,rfl,D,acc,sN,sA,rfl,gN,gA,ok,hle,hw⟩:=q4
   have o1:=gN.sl.one
   have o2:=gA.sl.one
   have hw1:wrAt 2 (h4++[AObj.cells ⟨[.nils,.nils],0,0,false⟩]) (some (AObj.cells ⟨[.nils,.nils],0,0,false⟩)) h4.length 0 2 0 [sN,sA]=some (h4++[AObj.cells ⟨[sN,sA],0,0,false⟩]):=by
    refine (g5_ (n:=2) (off:=0) (hi:=2) (vs:=[sN,sA]) rfl rfl oM (by simp[o1,o2])).trans ?_
    rw[c9_ rfl]
    rfl
   refine g3 @a1_ @rt4 @hw1 ?_
   obtain ⟨h5,hh5⟩:∃h5,h5=h4++[AObj.cells ⟨[sN,sA],0,0,false⟩]:=⟨_,rfl⟩
   have e5:Ext h4 h5:=by rw[hh5]; exact Ext.push _ _
   have rt5:=e5.get rt4
   have b5:=(List.getElem?_eq_some_iff.1 rt5).1
   have hw2:wrAt 2 h5 (some (AObj.cells ⟨[.nils,.nils],0,0,false⟩)) h.length 0 2 0 [sN,sA]=some (h5.set h.length (.cells ⟨[sN,sA],0,0,false⟩)):=g5_ (n:=2) (off:=0) (hi:=2) (vs:=[sN,sA]) rfl rfl oM (by simp[o1,o2])
   have l3:=(e2.trans e3).len
   rw[<-hh5]
   refine g2 @rt5 @hw2 ?_
   have gN':=((gN.ext e5).set (o:=h.length) (.inl oM) (.cells ⟨[sN,sA],0,0,false⟩)).mono (by omega:h.length<=h3.length) (by simp; have:=e5.len; omega:h4.length<=(h5.set h.length (.cells ⟨[sN,sA],0,0,false⟩)).length)
   have gA':=((gA.ext e5).set (o:=h.length) (.inl oM) (.cells ⟨[sN,sA],0,0,false⟩)).mono (by omega:h.length<=h3.length) (by simp; have:=e5.len; omega:h4.length<=(h5.set h.length (.cells ⟨[sN,sA],0,0,false⟩)).length)
   exact WP.ret ⟨(e04.trans e5).set (Nat.le_refl _) _,D,acc,sN,sA,rfl,gN',gA',ok,Nat.le_trans hle (a6P hsb),.inl ⟨nf,D0,acc0,hnf,hsb,hw⟩⟩
end Go.Gm.AZ
namespace Go.Gm.AZ
open Go Go.Gm
theorem c9k {N v:Nat}{ts bs:List Int}(no:NetOk N es)(ok:DOk D acc)(hvN:v<N)(ht:∀t∈ts,0<=t/\t<N)(hl:bs.length=ts.length)(hll:ts.length<=1000)(lc:LC (N*D.length) (hopA es D.length (onL es D)) (λx=>x=v*D.length) c)(mq:ManyQ es D acc v ts bs)(hT:Sl h 1 tA (ts.map encI))(hM:Sl h 1 mA (bs.map encI))(hC:Sl h 1 cA ((costL N D.length c acc).map encI)) :
  ∀(d i:Nat),i+d=ts.length->WP (λp:Nat × Nat=>c6T p.1 p.2 tA cA mA (I i) h) λr _=>r=.bool true:=by
 intro d
 induction d with
 |zero=>
  intro i hi
  refine WP.rnd (c7v · · ..) ?_
  obtain rfl:i=ts.length:=oM
  refine g1 hT.lenG ?_
  exact WP.ret rfl
 |succ d ih=>
  intro i hi
  refine WP.rnd (c7v · · ..) ?_
  have hit:(i:Int)<ts.length:=oM
  obtain ⟨t0,t1⟩:=ht _ (b7_ (xs:=ts) (i:=(i:Int)) oM hit)
  obtain ⟨t,htt⟩:∃t:Nat,gi ts (i:Int)=t:=⟨(gi ts (i:Int)).toNat,oM⟩
  have htN:t<N:=oM
  have hcl:=i0_ N D.length c acc
  have hcg:=j6_ (S:=D.length) (c:=c) (acc:=acc) htN
  have lw:=mq i oM
  rw[htt] at lw
  rw[(bv_lw ok no hvN htN lc).uniq lw] at hcg
  have e0:=Ext.refl h
  refine g11 hT.lenG hM.idxG hM.ld0 hT.idxG hT.ld0 @encI.eq_1 @htt hC.idxG hC.ld0 @hcl @hcg ?_
  exact ih (i+1) oM
theorem c9l {N on od v:Nat}{ts:List Int}(hN:1<=N/\N<=12)(no:NetOk N es)(co:COk es)(ok:DOk D acc)(lD:D.length<=200)(hvN:v<N)(hE:Sl h 4 s (es.map encE))(hD:Sl h 5 sD (D.map encR))(hA:Sl h 1 sA (acc.map encB))(rn:h[on]?=some (.cells ⟨[I N,s],0,0,false⟩))(rd:h[od]?=some (.cells ⟨[sD,sA],0,0,false⟩))(hT:Sl h 1 tA (ts.map encI))(ht:∀t∈ts,0<=t/\t<N)(hll:ts.length<=1000) :
  WP (λi=>c6S i (.ptr on 0 2 0) (.ptr od 0 2 0) (I v) tA h) λr _=>r=.bool true:=by
 refine WP.congr (c7V · ..) ?_
 have hn1:N*D.length<=12*200:=Nat.mul_le_mul oM lD
 refine g2 @rn @rd ?_
 refine WP.call (a4K no co oM hE ok hD hA hvN) ?_
 rintro xcs h1 ⟨e1,c,lc,g1⟩
 have rn1:=e1.get rn
 have rd1:=e1.get rd
 simp -implicitDefEqProofs (disch:=first|assumption|omega|(simp only[gL,gA]<;>omega)|fail) only[cG,reduceIte,rn1,rd1]
 refine WP.call (a4L ⟨oM,oM⟩ no co (hE.ext e1)) ?_
 rintro x h2 ⟨e2,A,Up,Dn,xv,ix⟩
 have rd2:=e2.get rd1
 simp -implicitDefEqProofs (disch:=first|assumption|omega|(simp only[gL,gA]<;>omega)|fail) only[cG,reduceIte,rd2]
 have e12:=e1.trans e2
 refine WP.call (b4g oM no co xv ix ok (hD.ext e12) (hA.ext e12) oM hvN (hT.ext e12) ht oM) ?_
 rintro m h3 ⟨e3,bs,lb,hM,mq⟩
 have e13:=e12.trans e3
 have hT3:=hT.ext e13
 refine g3 hM.lenG hT3.lenG @lb ?_
 exact WP.ent (c9k no ok hvN ht lb hll lc mq hT3 hM (g1.sl.ext (e2.trans e3)) ts.length 0 oM) λi=>rfl
theorem c9m {hb:Heap}{N on od v:Nat}{s tA:AV}{zs:List Int}(hN:1<=N/\N<=12)(rn:hb[on]?=some (.cells ⟨[I N,s],0,0,false⟩))(hT:Sl hb 1 tA (zs.map encI))(hQ:∀(h:Heap) (out:AV) (ts:List Int),Ext hb h->Sl h 1 out (ts.map encI)->(∀t∈ts,0<=t/\t<(N:Int))->ts.length<=20->WP (λi=>c6S i (.ptr on 0 2 0) (.ptr od 0 2 0) (I v) out h) Q) :
  ∀(d i:Nat) (h:Heap) (out:AV) (oc:Nat) (ts:List Int),i+d=20->FrS (λo=>hb.length<=o) hb h->Gr oc (oc+1) h 1 out (ts.map encI)->(out≠.nils->hb.length<=oc/\oc<h.length)->ts.length=i->(∀t∈ts,0<=t/\t<(N:Int))->
   WP (λp:Nat × Nat=>c6R p.1 p.2 tA (.ptr on 0 2 0) (.ptr od 0 2 0) (I v) out (I i) h) Q:=by
 intro d
 induction d with
 |zero=>
  intro i h out oc ts hi f g po hl ht
  refine WP.rnd (c7w · · ..) ?_
  have e:=f.ext (Ext.refl _) λo o1 o2=>oM
  have hT':=hT.ext e
  obtain rfl:i=20:=oM
  by_cases q:(20:Nat)<zs.length
  ·refine g1 hT'.lenG ?_
   exact WP.lv (hQ h out ts e g.sl ht oM) λi j=>rfl
  ·refine g1 hT'.lenG ?_
   exact WP.lv (hQ h out ts e g.sl ht oM) λi j=>rfl
 |succ d ih=>
  intro i h out oc ts hi f g po hl ht
  refine WP.rnd (c7w · · ..) ?_
  have e:=f.ext (Ext.refl _) λo o1 o2=>oM
  have hT':=hT.ext e
  have e0:=Ext.refl h
  by_cases q:i<zs.length
  ·have rn':=e.get rn
   refine g5 hT'.lenG hT'.idxG hT'.ld0 @encI.eq_1 @rn' ?_
   refine WP.call (h0_ oM (by unfold Fit; omega) _) ?_
   rintro _ _ ⟨rfl,rfl⟩
   obtain ⟨s',h',o',k1,k2,k3,k4⟩:=app1I g (λz=>(po z).2) oM (gi zs (i:Int) % (N:Int))
   have hl1:=f.len
   have hl2:=k4.len
   refine g1 @k1 ?_
   refine ih (i+1) h' s' o' _ oM (f.trans (k4.mono λo _ z=>by have:=(po z.1).1; omega)) k2 (λz=>?_) (by simp[hl]) (λt m=>?_)
   ·rcases (k3 z).1 with ⟨z1,z2⟩|z1
    ·have:=(po z2).1; exact ⟨oM,(k3 z).2⟩
    ·exact ⟨oM,(k3 z).2⟩
   ·rcases List.mem_append.1 m with m|m
    ·exact ht t m
    ·rw[List.mem_singleton] at m
     rw[m]
     exact ⟨Int.emod_nonneg _ oM,Int.emod_lt_of_pos _ oM⟩
  ·refine g1 hT'.lenG ?_
   exact WP.lv (hQ h out ts e g.sl ht oM) λi j=>rfl
theorem c8F {N on od:Nat}{zs:List Int}(hN:1<=N/\N<=12)(no:NetOk N es)(co:COk es)(ok:DOk D acc)(lD:D.length<=200)(hE:Sl h 4 s (es.map encE))(hD:Sl h 5 sD (D.map encR))(hA:Sl h 1 sA (acc.map encB))(rn:h[on]?=some (.cells ⟨[I N,s],0,0,false⟩))(rd:h[od]?=some (.cells ⟨[sD,sA],0,0,false⟩))(hT:Sl h 1 tA (zs.map encI)) :
  WP (λi=>c6Q i (I frm) tA (.ptr on 0 2 0) (.ptr od 0 2 0) h) λr _=>r=.bool true:=by
 refine WP.congr (c7W · ..) ?_
 refine g1 @rn ?_
 refine WP.call (h0_ oM (by unfold Fit; omega) _) ?_
 rintro _ _ ⟨rfl,rfl⟩
 obtain ⟨v,hv⟩:∃v:Nat,frm % (N:Int)=v:=⟨(frm % (N:Int)).toNat,by have:=Int.emod_nonneg frm (show (N:Int)≠0 by omega); omega⟩
 have hvN:v<N:=by have:=Int.emod_lt_of_pos frm (show (0:Int)<N by omega); omega
 rw[hv]
 refine WP.ent (c9m (N:=N) (zs:=zs) hN rn hT (λh' out ts e g ht hl=>?_) 20 0 h .nils h.length [] oM (FrS.refl _ _) (Gr.nil _ _ _ _) (λz=>absurd rfl z) rfl (λt m=>by cases m)) λi=>rfl
 exact c9l hN no co ok lD hvN (hE.ext e) (hD.ext e) (hA.ext e) (e.get rn) (e.get rd) g ht oM
theorem qmany13_spec {h:Heap}{size modes which frm:Int}{ns ls tA:AV}{zs ts:List Int}{l:List Rw}{css:List (List AV)}(hns:Sl h 1 ns (zs.map encI))(hs:Sl h 3 ls css)(hr:RVs h l css)(hT:Sl h 1 tA (ts.map encI)) :
  Tot tab c6I [I size,ns,I modes,I which,ls,I frm,tA] h λr _=>r=.bool true:=by
 refine WP.tot (c8a · ..) ?_
 refine WP.call (a4h h) ?_
 rintro _ h1 ⟨rfl,e1⟩
 refine g0 ?_
 refine WP.call (a9e (hs.ext e1) (hr.ext e1)) ?_
 rintro _ _ ⟨rfl,rfl⟩
 by_cases hf:szF 7 l<=14
 ·rw[decide_eq_true hf]
  simp -implicitDefEqProofs (disch:=first|assumption|omega|(simp only[gL,gA]<;>omega)|fail) only[cG,reduceIte,Nat.reduceAdd,Nat.reduceMul]
  refine WP.call (a0B (hns.ext e1)) ?_
  rintro _ h2 ⟨e2,s,rfl,g2⟩
  have no:=a5H size zs modes
  have co:=a5I size zs modes
  have hN:=u3_ size
  obtain ⟨N,hNN⟩:∃N:Nat,mkN size=N:=⟨(mkN size).toNat,oM⟩
  rw[hNN] at no hN
  rw[hNN]
  generalize mkE size zs modes=es at no co g2
  have gs:=g2.sl
  simp -implicitDefEqProofs (maxSteps:=1000000) (disch:=first|assumption|omega|(simp only[gL]<;>omega)|((repeat (first|exact Ext.refl _|assumption|apply Ext.app|apply Ext.mk|(refine Ext.setr ?_ (by (first|omega|(simp only[gL]<;>omega))) _))); done)|(simp only[gL,gA,gs.one,gs.cells]<;>omega)|fail) only[gB,setAll,partL,fldV,reduceIte,Nat.reduceAdd,Nat.reduceMul,gs.one,gs.cells]
  obtain ⟨h3,hh3⟩:∃h3,h3=(h2++[AObj.cells ⟨[I 0,.nils],0,0,false⟩]).set h2.length (AObj.cells ⟨[I N,s],0,0,false⟩):=⟨_,rfl⟩
  have e3:Ext h2 h3:=by rw[hh3]; exact eX
  have rn:h3[h2.length]?=some (.cells ⟨[I N,s],0,0,false⟩):=by rw[hh3]; exact t0'
  rw[<-hh3]
  have e13:=e2.trans e3
  refine WP.call (b5K (h:=h3)) ?_
  rintro _ h4 ⟨e4,D,acc,nD,nA,rfl,ok,lD,gN,gcc⟩
  have o1:=gN.sl.one
  have o2:=gcc.sl.one
  simp -implicitDefEqProofs (maxSteps:=1000000) (disch:=first|assumption|omega|(simp only[gL]<;>omega)|((repeat (first|exact Ext.refl _|assumption|apply Ext.app|apply Ext.mk|(refine Ext.setr ?_ (by (first|omega|(simp only[gL]<;>omega))) _))); done)|(simp only[gL,gA,o1,o2]<;>omega)|fail) only[gB,setAll,partL,fldV,reduceIte,Nat.reduceAdd,Nat.reduceMul,o1,o2]
  obtain ⟨h5,hh5⟩:∃h5,h5=(h4++[AObj.cells ⟨[.nils,.nils],0,0,false⟩]).set h4.length (AObj.cells ⟨[nD,nA],0,0,false⟩):=⟨_,rfl⟩
  have e5:Ext h4 h5:=by rw[hh5]; exact eX
  have l5:h5.length=h4.length+1:=by rw[hh5]; simp
  have rd:h5[h4.length]?=some (.cells ⟨[nD,nA],0,0,false⟩):=by rw[hh5]; exact t0'
  rw[<-hh5]
  have e15:=(e13.trans e4).trans e5
  refine WP.call (h0_ oM (by unfold Fit; omega) _) ?_
  rintro _ _ ⟨rfl,rfl⟩
  by_cases q:which % (3:Int)=0
  ·rw[q]
   refine g0 ?_
   refine WP.call (a5Z ((hs.ext e1).ext e15) ((hr.ext e1).ext e15) hf) ?_
   rintro _ h6 ⟨e6,D',acc',sD,sA,rfl,yD,yA,ok',lD',_⟩
   have o3:=yD.sl.one
   have o4:=yA.sl.one
   have rd6:=e6.get rd
   have l6:=e6.len
   refine g3 @rd6 @o3 @o4 ?_
   obtain ⟨h7,hh7⟩:∃h7,h7=h6.set h4.length (AObj.cells ⟨[sD,sA],0,0,false⟩):=⟨_,rfl⟩
   have l7:h7.length=h6.length:=by rw[hh7]; simp
   have rd7:h7[h4.length]?=some (.cells ⟨[sD,sA],0,0,false⟩):=by rw[hh7]; exact a0_ oM
   have e47:Ext h4 h7:=by rw[hh7]; exact (e5.trans e6).setr oM _
   rw[<-hh7]
   exact c8F (N:=N) (zs:=ts) oM no co ok' lD' (gs.ext ((e3.trans e4).trans e47)) (by rw[hh7]; exact (yD.set oM _).sl) (by rw[hh7]; exact (yA.set oM _).sl) ((e4.trans e47).get rn) rd7 (((hT.ext e1).ext (e13.trans e4)).ext e47)
  ·have hm:=Int.emod_nonneg which (show (3:Int)≠0 by omega)
   refine g0 ?_
   exact c8F (N:=N) (zs:=ts) oM no co ok lD (gs.ext ((e3.trans e4).trans e5)) (gN.sl.ext e5) (gcc.sl.ext e5) ((e4.trans e5).get rn) rd ((hT.ext e1).ext e15)
 ·rw[decide_eq_false hf]
  refine g0 ?_
  exact WP.ret rfl
end Go.Gm.AZ
namespace Go.Gm
open Go.RowKit
def roObj (cs:List AV):AObj:=.cells ⟨cs,0,0,true⟩
def initH (L:List (List AV × Option Loc)):Heap:=L.map λp=>roObj p.1
def initR (L:List (List AV × Option Loc)):Ren:=⟨λo g=>if g=0 then (L[o]?).bind (·.2) else none,λ_=>none⟩
def EntOk (W:World)(φ:Ren)(p:List AV × Option Loc):Prop:=∀l,p.2=some l->∃C e fr,W.heap[l.b]?=some (.cells C e fr)/\C.size=l.N/\l.n=p.1.length/\CellsAt φ p.1 l C
theorem initS {L:List (List AV × Option Loc)}(hL:∀p∈L,EntOk W (initR L) p) :
  S W.heap.size W (initR L) (initH L) W:=by
 have got:∀o g l,(initR L).c o g=some l->g=0/\∃cs,L[o]?=some (cs,some l):=λo g l h=>by
  simp only[initR] at h
  split at h
  ·rename_i hg
   cases hq:L[o]? with
   |none=>rw[hq] at h; cases h
   |some p=>rw[hq] at h; exact ⟨hg,p.1,by rw[<-(show p.2=some l from h)]⟩
  ·cases h
 have ro:∀o g l,(initR L).c o g=some l->isRo (initH L) o=true:=λo g l h=>by
  obtain ⟨_,cs,hq⟩:=got o g l h
  simp[isRo,initH,hq,roObj]
 refine ⟨⟨λo g l h=>?_,λo b h=>(by cases h),λo g l o' g' l' h h' _=>.inr ⟨ro o g l h,ro o' g' l' h'⟩,λo b o' b' h=>(by cases h)⟩,Below.refl _ _,Nat.le_refl _⟩
 obtain ⟨hg,cs,hq⟩:=got o g l h
 subst hg
 obtain ⟨C,e,fr,h1,h2,h3,h4⟩:=hL _ (List.mem_of_getElem? hq) l rfl
 exact ⟨⟨cs,0,0,true⟩,by simp[initH,hq,roObj],Nat.le_refl _,Nat.le_refl _,⟨C,e,fr,h1,h2,λq=>(by cases q),λ_=>h4⟩,λ_=>h3⟩
theorem entry (hv:Valid P T){L:List (List AV × Option Loc)}(hL:∀p∈L,EntOk W (initR L) p)(ha:VRs (initR L) args args')(ht:Tot T f args (initH L) Q)(hq:∀v h,Q v h->v=.bool true) :
  Calls P f args'.toArray W λe w'=>e=.returned (.bool true)/\Below W.heap.size W w':=by
 obtain ⟨v,h',h1,N,hN⟩:=ht
 have hv1:=hq v h' h1
 subst hv1
 obtain ⟨_,h2⟩:=fnSim (B:=W.heap.size) (w0:=W) hv N f args (initH L) _ _ (hN N (Nat.le_refl N))
 refine (h2 _ W args' ha (initS hL)).mono ?_
 rintro e w' ⟨ψ,v',rfl,k1,k2,k3⟩
 cases k1
 exact ⟨rfl,k2.below⟩
theorem intsArg {W:World}{a:Addr}{len cap:Nat}{zs:List Int}(hl:len<=cap)(hm:cap<=maxLen)(hz:zs.length=cap)(hc:∀i,i<zs.length->W.cell? (a.add i)=some (.int .i64 (zs.getD i 0)))(o:Nat) :
  ∃(p:List AV × Option Loc) (x:AV),(∀φ,EntOk W φ p)/\∀L:List (List AV × Option Loc),L[o]?=some p->VR (initR L) x (.slice (some a) len cap)/\Sl (initH L) 1 x ((zs.take len).map fun n=>[I n]):=by
 by_cases h0:0<zs.length
 ·obtain ⟨b,off,rfl,hcell⟩:=Go.ints_at hc h0
  have h1:=hcell 0 h0
  obtain ⟨C,e,fr,hb,hC⟩:∃C e fr,W.heap[b]?=some (.cells C e fr)/\∀j,j<zs.length->C[off+j]?=some (.int .i64 (zs.getD j 0)):=by
   simp only[World.cell?] at h1
   cases hh:W.heap[b]? with
   |none=>rw[hh] at h1; cases h1
   |some ob=>
    cases ob with
    |cells C e fr=>
     refine ⟨C,e,fr,rfl,fun j hj=>?_⟩
     have:=hcell j hj
     simpa [World.cell?,hh] using this
    |_=>rw[hh] at h1; cases h1
  have hN:off+cap<=C.size:=by
   have:=(Array.getElem?_eq_some_iff.1 (hC (zs.length-1) (by omega))).1
   omega
  refine ⟨(zs.map I,some ⟨b,off,C.size,cap⟩),.sl o 0 len 1 (some cap) 0,fun φ l hl'=>?_,fun L hL=>⟨?_,?_⟩⟩
  ·injection hl' with hl'
   subst hl'
   refine ⟨C,e,fr,hb,rfl,by simp[hz],by simp[hz],hN,fun i hi=>?_⟩
   refine ⟨I (zs.getD i 0),_,?_,hC i (by simpa [hz] using hi),.int _ _,rfl⟩
   simp only at hi
   simp[List.getD_eq_getElem?_getD,hz,hi]
  ·refine VR.sl (l:=⟨b,off,C.size,cap⟩) ?_ (by simp; exact hl) hl hm (by simp; exact hN) (fun c q=>by injection q)
   simp[initR,hL]
  ·refine .inr ⟨o,0,some cap,0,⟨zs.map I,0,0,true⟩,?_,?_,Nat.le_refl _,?_,?_⟩
   ·simp[hz,Nat.min_eq_left hl]
   ·simp[initH,hL,roObj]
   ·simp only[List.drop_zero,List.length_map,Nat.mul_one]
    rw[List.length_take,hz,Nat.min_eq_left hl,<-List.map_take]
    generalize zs.take len=ys
    induction ys with
    |nil=>rfl
    |cons y ys ih=>simp[ih]
   ·intro x hx
    simp only[List.mem_map] at hx
    obtain ⟨n,_,rfl⟩:=hx
    rfl
 ·have hz0:zs=[]:=List.eq_nil_of_length_eq_zero (by omega)
  subst hz0
  simp only[List.length_nil] at hz
  subst hz
  obtain rfl:len=0:=by omega
  refine ⟨([],none),.sl o 0 0 1 (some 0) 0,fun φ l q=>(by cases q),fun L hL=>⟨.sl0 (fun q=>by cases q) (fun c q=>by injection q with q; exact q.symm),?_⟩⟩
  exact .inr ⟨o,0,some 0,0,⟨[],0,0,true⟩,rfl,by simp[initH,hL,roObj],Nat.le_refl _,rfl,fun x hx=>by simp at hx⟩
theorem rowArg {W:World}{a:Option Addr}{len cap:Nat}{zs:List Int}(w:(a=none/\len=0/\cap=0/\zs=[])\/∃x,a=some x/\len<=cap/\cap<=maxLen/\zs.length=cap/\(∀i,i<zs.length->W.cell? (x.add i)=some (.int .i64 (zs.getD i 0)))/\∀n∈zs,(Lit.int .i64 n).wf=true)(o:Nat) :
  ∃(p:List AV × Option Loc) (x:AV),(∀φ,EntOk W φ p)/\∀L:List (List AV × Option Loc),L[o]?=some p->VR (initR L) x (.slice a len cap)/\Sl (initH L) 1 x ((zs.take len).map fun n=>[I n]):=by
 rcases w with ⟨rfl,rfl,rfl,rfl⟩|⟨x,rfl,h1,h2,h3,h4,_⟩
 ·exact ⟨([],none),.nils,fun φ l q=>(by cases q),fun L hL=>⟨.nils,.inl ⟨rfl,rfl⟩⟩⟩
 ·exact intsArg h1 h2 h3 h4 o
end Go.Gm
namespace Go.Gm
structure RawTy (P:Program) (T E I3:TypeId):Prop where
 t:P.underlying T=some (.slice E)
 e:∃f0 f1 f2:Field,P.underlying E=some (.struct #[f0,f1,f2])/\f0.type=I3/\f0.offset=0/\f1.type=I3/\f1.offset=1/\f2.type=T/\f2.offset=2
 i:P.underlying I3=some (.int .i64)
 ce:P.cellsOf E=3
 ci:P.cellsOf I3=1
 ct:P.cellsOf T=1
def Emb (F:List (List AV × Option Loc))(o:Nat)(L:List (List AV × Option Loc)):Prop:=∀(i:Nat) p,F[i]?=some p->L[o+i]?=some p
theorem Emb.head {p:List AV × Option Loc}{F L:List (List AV × Option Loc)}(e:Emb (p::F) o L):L[o]?=some p:=e 0 p rfl
theorem Emb.tail {p:List AV × Option Loc}{F L:List (List AV × Option Loc)}(e:Emb (p::F) o L):Emb F (o+1) L:=λi q h=>by
 have:=e (i+1) q (by simpa using h)
 rwa [show o+(i+1)=o+1+i by omega] at this
theorem Emb.left {F G L:List (List AV × Option Loc)}(e:Emb (F++G) o L):Emb F o L:=λi q h=>e i q (by rw[List.getElem?_append_left (List.getElem?_eq_some_iff.1 h).1]; exact h)
theorem Emb.right {F G L:List (List AV × Option Loc)}(e:Emb (F++G) o L):Emb G (o+F.length) L:=λi q h=>by
 have:=e (F.length+i) q (by rw[List.getElem?_append_right oM,Nat.add_sub_cancel_left]; exact h)
 rwa [show o+(F.length+i)=o+F.length+i by omega] at this
section
variable {H:Type} {enc:TypeId × Value->H} {P:Program} {T E I3:TypeId} {W:World}
def Came (W:World)(a:Option Addr)(len cap:Nat)(o:Nat)(F:List (List AV × Option Loc))(v:AV)(rs:List Rw)(css:List (List AV)):Prop:=
 ∀L,Emb F o L->(∀p∈F,EntOk W (initR L) p)/\VR (initR L) v (.slice a len cap)/\Sl (initH L) 3 v css/\RVs (initH L) rs css
theorem RVs.snoc (a:RV h r cs):∀{l:List Rw} {css:List (List AV)},RVs h l css->RVs h (l++[r]) (css++[cs])
 |_,_,.nil=>.cons a .nil
 |_,_,.cons x y=>.cons x (RVs.snoc a y)
theorem rawsArg (ty:RawTy P T E I3):∀(fuel:Nat) (cs:List Value) (x:DataW H × List MemPlace),DataW.trod enc P W 0 (λ_=>true) true fuel T cs=some x->
  ∃(a:Option Addr) (len cap:Nat),cs=[.slice a len cap]/\∀o,∃F v rs css,Came W a len cap o F v rs css:=by
 intro fuel
 induction fuel using Nat.strongRecOn with
 |_ fuel ih=>
 intro cs x hx
 rcases DataW.trod_slice ty.t hx with ⟨rfl,_⟩|⟨a,len,cap,elems,rest,n,rfl,rfl,_,_,hl,hm,hel,hE,hR,_⟩
 ·exact ⟨none,0,0,rfl,λo=>⟨[],.nils,[],[],λL _=>⟨λp hp=>by simp at hp,.nils,.inl ⟨rfl,rfl⟩,.nil⟩⟩⟩
 ·refine ⟨some a,len,cap,rfl,λo=>?_⟩
  obtain ⟨hrl,hR⟩:=hR rfl
  by_cases hc:cap=0
  ·subst hc
   obtain rfl:len=0:=oM
   refine ⟨[([],none)],.sl o 0 0 3 (some 0) 0,[],[],λL hL=>⟨λp hp l q=>?_,.sl0 (λq=>by cases q) (λc q=>by injection q with q; exact q.symm),?_,.nil⟩⟩
   ·rw[List.mem_singleton.1 hp] at q; cases q
   ·exact .inr ⟨o,0,some 0,0,⟨[],0,0,true⟩,rfl,by simp[initH,hL.head,roObj],Nat.le_refl _,rfl,λx hx=>by simp at hx⟩
  ·
   have each:∀i,i<cap->∃c3 y,W.cells? 0 (a.add (i*3)) 3=some c3/\DataW.trod enc P W 0 (λ_=>true) true n E c3=some y:=by
    intro i hi
    by_cases hil:i<len
    ·have h1:=hE i hil
     rw[List.getElem?_eq_getElem oM,Option.bind_eq_some_iff,ty.ce] at h1
     obtain ⟨c3,h2,h3⟩:=h1
     exact ⟨c3,_,h2,h3⟩
    ·have h1:=hR (i-len) oM
     rw[List.getElem?_eq_getElem oM,Option.bind_eq_some_iff,ty.ce,show len+(i-len)=i by omega] at h1
     obtain ⟨c3,h2,h3⟩:=h1
     exact ⟨c3,_,h2,h3⟩
   obtain ⟨b,off,spot⟩:=a
   have hspot:spot=none:=by
    obtain ⟨c3,y,h1,_⟩:=each 0 oM
    obtain ⟨_,h2,h3⟩:=World.cells?_some h1
    have h4:=h3 0 oM
    rw[List.getElem?_eq_getElem (by omega)] at h4
    have:=World.cell?_spot h4
    simpa [Addr.add] using this
   subst hspot
   have cell:∀i,i<cap->∃(k m:Int) (s:Value) (y:DataW H × List MemPlace) (n':Nat),n'<n+1/\W.cell? ⟨b,off+i*3,none⟩=some (.int .i64 k)/\W.cell? ⟨b,off+i*3+1,none⟩=some (.int .i64 m)/\W.cell? ⟨b,off+i*3+2,none⟩=some s/\
     DataW.trod enc P W 0 (λ_=>true) true n' T [s]=some y:=by
    intro i hi
    obtain ⟨c3,y,h1,h2⟩:=each i hi
    obtain ⟨_,h3,h4⟩:=World.cells?_some h1
    obtain ⟨f0,f1,f2,e0,t0,o0,t1,o1,t2,o2⟩:=ty.e
    obtain ⟨xs,n',rfl,_,_,hxl,hf⟩:=DataW.trod_struct e0 h2
    match c3,h3 with
    |[v0,v1,v2],_=>
    have g0:=hf 0 f0 rfl
    have g1:=hf 1 f1 rfl
    have g2:=hf 2 f2 rfl
    simp only[List.size_toArray,List.length_cons,List.length_nil] at hxl
    rw[t0,o0,ty.ci] at g0
    rw[t1,o1,ty.ci] at g1
    rw[t2,o2,ty.ct] at g2
    simp only[List.drop_zero,List.drop_succ_cons,List.take_succ_cons,List.take_zero] at g0 g1 g2
    rw[List.getElem?_eq_getElem oM] at g0 g1 g2
    obtain ⟨k,q0,_,_⟩:=DataW.trod_int ty.i g0
    obtain ⟨m,q1,_,_⟩:=DataW.trod_int ty.i g1
    have c0:=h4 0 oM
    have c1:=h4 1 oM
    have c2:=h4 2 oM
    rw[Go.WideShapes.add_plain,Go.WideShapes.add_plain] at c0 c1 c2
    simp only[List.cons.injEq,and_true] at q0 q1
    subst q0 q1
    exact ⟨k,m,v2,_,n',oM,by simpa using c0,by simpa using c1,by simpa using c2,g2⟩
   obtain ⟨C,e,fr,hb⟩:∃C e fr,W.heap[b]?=some (.cells C e fr):=by
    obtain ⟨k,m,s,y,n',_,h1,_⟩:=cell 0 (by omega)
    simp only[World.cell?] at h1
    cases hh:W.heap[b]? with
    |none=>rw[hh] at h1; cases h1
    |some ob=>
     cases ob with
     |cells C e fr=>exact ⟨C,e,fr,rfl⟩
     |_=>rw[hh] at h1; cases h1
   have cellC:∀j v,W.cell? ⟨b,j,none⟩=some v->C[j]?=some v:=λj v h=>by simpa [World.cell?,hb] using h
   have hN:off+cap*3<=C.size:=by
    obtain ⟨k,m,s,y,n',_,_,_,h1,_⟩:=cell (cap-1) oM
    have:=(Array.getElem?_eq_some_iff.1 (cellC _ _ h1)).1
    omega
   have rec_:∀m,m<=len->∀o',∃(F:List (List AV × Option Loc)) (rs:List Rw) (css:List (List AV)),css.length=m/\(∀c∈css,c.length=3)/\
     ∀L,Emb F o' L->(∀p∈F,EntOk W (initR L) p)/\RVs (initH L) rs css/\∀j,j<m*3->∃x v,css.flatten[j]?=some x/\C[off+j]?=some v/\VR (initR L) x v/\x.one=true:=by
    intro m
    induction m with
    |zero=>intro _ o'; exact ⟨[],[],[],rfl,λc hc=>by simp at hc,λL _=>⟨λp hp=>by simp at hp,.nil,λj hj=>oM⟩⟩
    |succ m ihm=>
     intro hml o'
     obtain ⟨F,rs,css,h1,h2,h3⟩:=ihm oM o'
     obtain ⟨k,mm,s,y,n',hn',c0,c1,c2,ht⟩:=cell m oM
     obtain ⟨a',len',cap',es,hin⟩:=ih n' hn' [s] y ht
     obtain ⟨G,v,rs',css',hcame⟩:=hin (o'+F.length)
     simp only[List.cons.injEq,and_true] at es
     subst es
     refine ⟨F++G,rs++[.mk k mm rs'],css++[[I k,I mm,v]],by simp[h1],λc hc=>?_,λL hL=>?_⟩
     ·rcases List.mem_append.1 hc with hc|hc
      ·exact h2 c hc
      ·rw[List.mem_singleton.1 hc]; rfl
     ·obtain ⟨k1,k2,k3⟩:=h3 L hL.left
      obtain ⟨k4,k5,k6,k7⟩:=hcame L hL.right
      have hfl:=flatten_len h2
      rw[h1] at hfl
      refine ⟨λp hp=>(List.mem_append.1 hp).elim (k1 p) (k4 p),k2.snoc (.mk k6 k7),λj hj=>?_⟩
      rw[List.flatten_append]
      by_cases hjm:j<m*3
      ·obtain ⟨x,v',q1,q2⟩:=k3 j hjm
       exact ⟨x,v',by rw[List.getElem?_append_left oM]; exact q1,q2⟩
      ·rw[List.getElem?_append_right oM,hfl]
       have hj3:j-m*3=0\/j-m*3=1\/j-m*3=2:=oM
       rcases hj3 with hj3|hj3|hj3
       ·rw[hj3]
        exact ⟨I k,_,rfl,by rw[show off+j=off+m*3 by omega]; exact cellC _ _ c0,.int _ _,rfl⟩
       ·rw[hj3]
        exact ⟨I mm,_,rfl,by rw[show off+j=off+m*3+1 by omega]; exact cellC _ _ c1,.int _ _,rfl⟩
       ·rw[hj3]
        exact ⟨v,_,rfl,by rw[show off+j=off+m*3+2 by omega]; exact cellC _ _ c2,k5,k6.one⟩
   obtain ⟨F,rs,css,h1,h2,h3⟩:=rec_ len (Nat.le_refl _) (o+1)
   have hfl:=flatten_len h2
   rw[h1] at hfl
   refine ⟨(css.flatten,some ⟨b,off,C.size,len*3⟩)::F,.sl o 0 len 3 (some cap) 0,rs,css,λL hL=>?_⟩
   obtain ⟨k1,k2,k3⟩:=h3 L hL.tail
   have hLo:=hL.head
   refine ⟨λp hp=>?_,?_,?_,k2⟩
   ·rcases List.mem_cons.1 hp with rfl|hp
    ·intro l hl'
     injection hl' with hl'
     subst hl'
     exact ⟨C,e,fr,hb,rfl,by simp[hfl],by simp[hfl],by simp; omega,λi hi=>k3 i hi⟩
    ·exact k1 p hp
   ·refine VR.sl (l:=⟨b,off,C.size,len*3⟩) ?_ (by simp) hl hm (by simp; exact hN) (λc q=>by injection q)
    simp[initR,hLo]
   ·refine .inr ⟨o,0,some cap,0,⟨css.flatten,0,0,true⟩,by rw[h1],by simp[initH,hLo,roObj],Nat.le_refl _,?_,h2⟩
    rw[List.drop_zero,h1]
    exact List.take_of_length_le (by rw[hfl]; exact Nat.le_refl _)
end
end Go.Gm
