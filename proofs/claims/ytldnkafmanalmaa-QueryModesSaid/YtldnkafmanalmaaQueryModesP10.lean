/- A part of the proof (GmAQbo, GmAQbe, GmAQbf, GmAQbg, GmAQbh, GmAQbi, GmAQbj, GmAQbl, GmAQbm, GmAQqa, GmAQqb, GmAQqc). -/
import Derived.Test.YtldnkafmanalmaaQueryModesP9
set_option linter.unusedVariables false
set_option linter.unusedSimpArgs false
set_option linter.unusedSectionVars false
namespace Go.Gm.AQ
open Go Go.Gm
def RefV (h:Heap)(a:AV)(N:Int)(es:List E):Prop:=∃s,At h a [I N,s]/\Sl h 4 s (es.map encE)
theorem RefV.ext {h h':Heap}{a:AV}{N:Int}{es:List E}(w:RefV h a N es)(e:Ext h h'):RefV h' a N es:=by
 obtain ⟨s,w1,w2⟩:=w
 exact ⟨s,w1.ext e,w2.ext e⟩
theorem b2X {h:Heap}{N:Int}{s:AV}{es:List E}(hs:Sl h 4 s (es.map encE)) :
  Tot tab a0R [.agg [I N,s]] h fun r h'=>Ext h h'/\RefV h' r N es:=by
 refine WP.tot (fun k=>b1k k _ h) ?_
 refine g1 hs.one ?_
 refine WP.ret ⟨eX,s,?_,hs.ext eX⟩
 exact ⟨h.length+1,0,2,0,⟨[I N,s],0,0,false⟩,by simp,by simp,by simp,Nat.le_refl _,by simp⟩
theorem b7z {h0:Heap}{a:AV}{N v:Int}{es:List E}(w:RefV h0 a N es)(hn:es.length<=100000):∀(d n:Nat) (out:AV) (h:Heap),n+d=es.length->Ext h0 h->Gr h0.length h.length h 1 out ((idxTo (fun e=>e.fr == v) es n).map encI)->
  WP (fun p:Nat × Nat=>l9_ p.1 p.2 a (I v) out (I n) h) fun r h'=>Ext h0 h'/\Gr h0.length h'.length h' 1 r ((outL es v).map encI):=by
 obtain ⟨s,w,ws⟩:=w
 intro d
 induction d with
 |zero=>
  intro n out h h1 e g
  refine WP.rnd (fun i' j=>a2z i' j a (I v) out (I n) h) ?_
  refine g6 w.nil w.nilf w.fldA0 w.fldAf w.ldfE ws.lenG ?_
  refine WP.ret ⟨e,?_⟩
  rw[show n=es.length by omega] at g
  exact g
 |succ d ih=>
  intro n out h h1 e g
  refine WP.rnd (fun i' j=>a2z i' j a (I v) out (I n) h) ?_
  have hle:=o0_ (fun e=>e.fr == v) es n
  by_cases hx:(gi es n).fr=v
  ·obtain ⟨s',h',k1,k2,k3⟩:=g.append1 (bytes:=8) (v:=[I n]) rfl oM oM (by simp; omega) e.len (Nat.le_refl _)
   rw[a3_] at k1
   refine g10 w.nil w.nilf w.fldA0 w.fldAf w.ldfE ws.lenG ws.idxG ws.ldf @encE.eq_1 @k1 ?_
   refine ih (n+1) s' h' oM (k3.ext e (Nat.le_refl _)) (k2.cong ?_)
   simp[a5K,hx,encI]
  ·refine g9 w.nil w.nilf w.fldA0 w.fldAf w.ldfE ws.lenG ws.idxG ws.ldf @encE.eq_1 ?_
   refine ih (n+1) out h oM e (g.cong ?_)
   simp[a5K,hx]
theorem b7A {h:Heap}{a:AV}{N v:Int}{es:List E}(w:RefV h a N es)(hn:es.length<=100000) :
  Tot tab w1_ [a,I v] h fun r h'=>Ext h h'/\Gr h.length h'.length h' 1 r ((outL es v).map encI):=
 WP.tot (fun k=>a9c k _ _ h) (WP.ent (b7z w hn es.length 0 .nils h oM (Ext.refl _) (Gr.nil ..)) fun i=>rfl)
theorem b8U {h0:Heap}{a:AV}{N v:Int}{es:List E}(w:RefV h0 a N es)(hn:es.length<=100000):∀(d n:Nat) (out:AV) (h:Heap),n+d=es.length->Ext h0 h->Gr h0.length h.length h 1 out ((idxTo (fun e=>e.to == v) es n).map encI)->
  WP (fun p:Nat × Nat=>n6_ p.1 p.2 a (I v) out (I n) h) fun r h'=>Ext h0 h'/\Gr h0.length h'.length h' 1 r ((inL es v).map encI):=by
 obtain ⟨s,w,ws⟩:=w
 intro d
 induction d with
 |zero=>
  intro n out h h1 e g
  refine WP.rnd (fun i' j=>a2X i' j a (I v) out (I n) h) ?_
  refine g6 w.nil w.nilf w.fldA0 w.fldAf w.ldfE ws.lenG ?_
  refine WP.ret ⟨e,?_⟩
  rw[show n=es.length by omega] at g
  exact g
 |succ d ih=>
  intro n out h h1 e g
  refine WP.rnd (fun i' j=>a2X i' j a (I v) out (I n) h) ?_
  have hle:=o0_ (fun e=>e.to == v) es n
  by_cases hx:(gi es n).to=v
  ·obtain ⟨s',h',k1,k2,k3⟩:=g.append1 (bytes:=8) (v:=[I n]) rfl oM oM (by simp; omega) e.len (Nat.le_refl _)
   rw[a3_] at k1
   refine g10 w.nil w.nilf w.fldA0 w.fldAf w.ldfE ws.lenG ws.idxG ws.ldf @encE.eq_1 @k1 ?_
   refine ih (n+1) s' h' oM (k3.ext e (Nat.le_refl _)) (k2.cong ?_)
   simp[a5K,hx,encI]
  ·refine g9 w.nil w.nilf w.fldA0 w.fldAf w.ldfE ws.lenG ws.idxG ws.ldf @encE.eq_1 ?_
   refine ih (n+1) out h oM e (g.cong ?_)
   simp[a5K,hx]
theorem b8V {h:Heap}{a:AV}{N v:Int}{es:List E}(w:RefV h a N es)(hn:es.length<=100000) :
  Tot tab y6_ [a,I v] h fun r h'=>Ext h h'/\Gr h.length h'.length h' 1 r ((inL es v).map encI):=
 WP.tot (fun k=>a9D k _ _ h) (WP.ent (b8U w hn es.length 0 .nils h oM (Ext.refl _) (Gr.nil ..)) fun i=>rfl)
def rmTo (es:List E)(v:Int):Nat->Nat
 |0=>0
 |n+1=>if (gi es n).fr=v\/(gi es n).to=v then rmTo es v n ||| 2 ^ (gi es n).md.toNat else rmTo es v n
theorem b4D {N:Int}{es:List E}(ok:NetOk N es)(v:Int):∀n:Nat,n<=es.length->rmTo es v n<2 ^ 5
 |0,_=>by simp[rmTo]
 |n+1,h=>by
  have h1:=b4D ok v n oM
  have h2:=ok.edge _ (b7_ (xs:=es) (i:=(n:Int)) oM oM)
  rw[rmTo]
  split
  ·exact Nat.or_lt_two_pow h1 (Nat.pow_lt_pow_right oM oM)
  ·exact h1
theorem b3h (es:List E)(v:Int)(m:Nat):∀n:Nat,(rmTo es v n).testBit m=true↔∃k:Int,0<=k/\k<n/\((gi es k).fr=v\/(gi es k).to=v)/\(gi es k).md.toNat=m
 |0=>by simp[rmTo]; intro k h0 h1; omega
 |n+1=>by
  have ih:=b3h es v m n
  rw[rmTo]
  constructor
  ·intro h
   split at h
   ·rename_i hc
    rw[Nat.testBit_or,Bool.or_eq_true,Nat.testBit_two_pow,decide_eq_true_eq] at h
    rcases h with h|h
    ·obtain ⟨k,k0,k1,k2⟩:=ih.1 h
     exact ⟨k,k0,oM,k2⟩
    ·exact ⟨n,oM,oM,hc,h⟩
   ·obtain ⟨k,k0,k1,k2⟩:=ih.1 h
    exact ⟨k,k0,oM,k2⟩
  ·rintro ⟨k,k0,k1,k2,k3⟩
   by_cases hk:k=n
   ·subst hk
    rw[if_pos k2,Nat.testBit_or,Nat.testBit_two_pow,k3]; simp
   ·have h4:=ih.2 ⟨k,k0,oM,k2,k3⟩
    split
    ·rw[Nat.testBit_or,h4]; rfl
    ·exact h4
theorem b5B {h:Heap}{a:AV}{N v:Int}{es:List E}(ok:NetOk N es)(w:RefV h a N es):∀(d n:Nat),n+d=es.length->
  WP (fun p:Nat × Nat=>j1_ p.1 p.2 a (I v) (I (rmTo es v n:Nat)) (I n) h) fun r h'=>r=I (rmTo es v es.length:Nat)/\h=h':=by
 obtain ⟨s,w,ws⟩:=w
 have hln:=ok.len
 intro d
 induction d with
 |zero=>
  intro n h1
  refine WP.rnd (fun i' j=>a1W i' j a (I v) _ (I n) h) ?_
  refine g6 w.nil w.nilf w.fldA0 w.fldAf w.ldfE ws.lenG ?_
  rw[show n=es.length by omega]
  exact WP.ret ⟨rfl,rfl⟩
 |succ d ih=>
  intro n h1
  refine WP.rnd (fun i' j=>a1W i' j a (I v) _ (I n) h) ?_
  have he:=ok.edge _ (b7_ (xs:=es) (i:=(n:Int)) oM oM)
  have hp:2 ^ (gi es n).md.toNat<2 ^ 5:=Nat.pow_lt_pow_right oM oM
  have hlt:=b4D ok v n oM
  have hor:=or_i (a:=rmTo es v n) (b:=2 ^ (gi es n).md.toNat) oM oM
  have hn:=ih (n+1) oM
  rw[rmTo] at hn
  by_cases hf:(gi es n).fr=v
  ·rw[if_pos (.inl hf)] at hn
   refine g10 w.nil w.nilf w.fldA0 w.fldAf w.ldfE ws.lenG ws.idxG ws.ldf @encE.eq_1 @hor ?_
   exact hn
  ·by_cases ht:(gi es n).to=v
   ·rw[if_pos (.inr ht)] at hn
    refine g10 w.nil w.nilf w.fldA0 w.fldAf w.ldfE ws.lenG ws.idxG ws.ldf @encE.eq_1 @hor ?_
    exact hn
   ·rw[if_neg (fun q=>q.elim hf ht)] at hn
    refine g10 w.nil w.nilf w.fldA0 w.fldAf w.ldfE ws.lenG ws.idxG ws.ldf @encE.eq_1 @hor ?_
    exact hn
theorem b5C {h:Heap}{a:AV}{N v:Int}{es:List E}(ok:NetOk N es)(w:RefV h a N es) :
  Tot tab s8_ [a,I v] h fun r h'=>r=I (rmTo es v es.length:Nat)/\h=h':=
 WP.tot (fun k=>a7T k _ _ h) (WP.ent (b5B ok w es.length 0 oM) fun i=>rfl)
theorem lss_u (a b:Int):binV .lss .scalar (.int .u64 a) (.int .u64 b)=some (.bool (decide (a<b))):=rfl
theorem add_u {a:Int}(h0:0<=a)(h1:a<=100):binV .add .scalar (.int .u64 a) (.int .u64 1)=some (.int .u64 (a+1)):=by
 show some (AV.int .u64 (IntKind.u64.wrap (a+1)))=_
 congr 2
 simp[IntKind.wrap,IntKind.bits,IntKind.signed]
 omega
def cntM (s n:Nat):Nat:=((List.range n).filter fun m=>s.testBit m).length
theorem b9T (s n:Nat):cntM s (n+1)=cntM s n+((s >>> n) &&& 1):=by
 have h1:((s >>> n) &&& 1)=(s.testBit n).toNat:=by rw[Nat.toNat_testBit,Nat.and_one_is_mod,Nat.shiftRight_eq_div_pow]
 rw[h1]
 simp only[cntM,List.range_succ,List.filter_append,List.length_append,List.filter_cons,List.filter_nil]
 cases s.testBit n<;>simp
theorem c3i (s n:Nat):cntM s n<=n:=Nat.le_trans (List.length_filter_le _ _) (by simp)
def linkB (es:List E)(v:Int):Bool:=decide (2<=cntM (rmTo es v es.length) 5)
theorem c1C {s n a b:Nat}(ha:a<n)(hb:b<n)(hab:a≠b)(h1:s.testBit a=true)(h2:s.testBit b=true):2<=cntM s n:=by
 have hn:((List.range n).filter fun m=>s.testBit m).Nodup:=List.nodup_range.filter _
 have m1:a∈(List.range n).filter fun m=>s.testBit m:=List.mem_filter.2 ⟨List.mem_range.2 ha,h1⟩
 have m2:b∈(List.range n).filter fun m=>s.testBit m:=List.mem_filter.2 ⟨List.mem_range.2 hb,h2⟩
 unfold cntM
 generalize (List.range n).filter (fun m=>s.testBit m)=l at *
 match l,m1,m2 with
 |[],m1,_=>cases m1
 |[x],m1,m2=>
  rw[List.mem_singleton] at m1 m2
  exact absurd (m1.trans m2.symm) hab
 |x::y::l,_,_=>simp
theorem c1D {N:Int}{es:List E}(ok:NetOk N es){v:Int}(h:linkB es v=false):OneM es v:=by
 intro e e' he he' k1 k2
 refine Decidable.byContradiction fun hne=>?_
 have r1:0<=(eg es e).md/\(eg es e).md<5:=(ok.edge _ (b7_ (xs:=es) (i:=(e:Int)) oM oM)).2.2.2.2
 have r2:0<=(eg es e').md/\(eg es e').md<5:=(ok.edge _ (b7_ (xs:=es) (i:=(e':Int)) oM oM)).2.2.2.2
 have b1:=(b3h es v (eg es e).md.toNat es.length).2 ⟨e,oM,oM,k1,rfl⟩
 have b2:=(b3h es v (eg es e').md.toNat es.length).2 ⟨e',oM,oM,k2,rfl⟩
 have:=c1C (n:=5) oM oM oM b1 b2
 rw[linkB,decide_eq_false_iff_not] at h
 exact h this
section
variable {N:Nat} {es:List E} {h0:Heap} {a n1 sE:AV}
theorem c1E (ok:NetOk N es)(w:RefV h0 a N es){out:AV}{h:Heap}(e:Ext h0 h){v:Int}{Q:AV->Heap->Prop}(hQ:WP (fun p:Nat × Nat=>a1n p.1 p.2 n1 a out (I v) (I (cntM (rmTo es v es.length) 5:Nat)) h) Q):∀d m:Nat,m+d=5->
  WP (fun p:(Nat × Nat) × Nat=>v7_ p.1.1 p.1.2 p.2 n1 a out (I v) (I (cntM (rmTo es v es.length) m:Nat)) (.int .u64 m) h) Q:=by
 intro d
 induction d with
 |zero=>
  intro m hm
  refine WP.rnd (fun i j=>a2V i.1 i.2 j n1 a out (I v) _ (.int .u64 m) h) ?_
  obtain rfl:m=5:=oM
  have hlt:decide (((5:Nat):Int)<5)=false:=rfl
  refine g2 @lss_u @hlt ?_
  exact WP.lv hQ fun i j=>rfl
 |succ d ih=>
  intro m hm
  refine WP.rnd (fun i j=>a2V i.1 i.2 j n1 a out (I v) _ (.int .u64 m) h) ?_
  have hlt:decide ((m:Int)<5)=true:=decide_eq_true oM
  have hs:=b4D ok v es.length (Nat.le_refl _)
  have hsh:binV .shr .scalar (I (rmTo es v es.length:Nat)) (.int .u64 (m:Int))=some (I ((rmTo es v es.length >>> m:Nat):Int)):=shr_i (k:=.u64) (s:=rmTo es v es.length) (m:=(m:Int)) oM oM
  have hle:rmTo es v es.length >>> m<=rmTo es v es.length:=by rw[Nat.shiftRight_eq_div_pow]; exact Nat.div_le_self _ _
  have hand:binV .and .scalar (I ((rmTo es v es.length >>> m:Nat):Int)) (I 1)=some (I ((rmTo es v es.length >>> m &&& 1:Nat):Int)):=and_i (b:=1) oM oM
  have h1:=c3i (rmTo es v es.length) m
  have h2:rmTo es v es.length >>> m &&& 1<=1:=Nat.and_le_right
  have hi:=ih (m+1) oM
  rw[b9T] at hi
  refine g2 @lss_u @hlt ?_
  refine WP.call (b5C ok (w.ext e)) ?_
  rintro _ _ ⟨rfl,rfl⟩
  have hadd:binV .add .scalar (I (cntM (rmTo es v es.length) m:Nat)) (I (rmTo es v es.length >>> m &&& 1:Nat))=some (I ((cntM (rmTo es v es.length) m+(rmTo es v es.length >>> m &&& 1):Nat):Int)):=by
   rw[add_i oM oM]; simp
  have hau:=add_u (a:=(m:Int)) oM oM
  refine g4 @hsh @hand @hadd @hau ?_
  exact hi
theorem c1F (ok:NetOk N es)(hN:N<=1000)(w:RefV h0 a N es)(wn:At h0 n1 [I N,sE]):∀(d v:Nat) (out:AV) (h:Heap),v+d=N->Ext h0 h->Gr h0.length h.length h 1 out (((List.range v).map fun (v:Nat)=>linkB es v).map encB)->
  WP (fun p:Nat × Nat=>v6_ p.1 p.2 n1 a out (I v) h) fun r h'=>Ext h0 h'/\Gr h0.length h'.length h' 1 r (((List.range N).map fun (v:Nat)=>linkB es v).map encB):=by
 intro d
 induction d with
 |zero=>
  intro v out h hv e g
  refine WP.rnd (fun i j=>a2W i j n1 a out (I v) h) ?_
  rw[show v=N by omega] at g ⊢
  refine g3 wn.fldA0 wn.ld0E wn.ldfE ?_
  exact WP.ret ⟨e,g⟩
 |succ d ih=>
  intro v out h hv e g
  refine WP.rnd (fun i j=>a2W i j n1 a out (I v) h) ?_
  have ht:(2:Int)<=((cntM (rmTo es v es.length) 5:Nat):Int)↔linkB es v=true:=by rw[linkB,decide_eq_true_eq]; omega
  obtain ⟨s',h',k1,k2,k3⟩:=g.append1 (bytes:=1) (v:=[.bool (linkB es v)]) rfl oM oM (by simp; omega) e.len (Nat.le_refl _)
  rw[a3_] at k1
  have hc:binV .geq .scalar (I ((cntM (rmTo es v es.length) 5:Nat):Int)) (I 2)=some (.bool (linkB es v)):=by
   cases hq:linkB es (v:Int) with
   |true=>exact geq_t (ht.2 hq)
   |false=>exact geq_f (fun q=>by rw[ht.1 q] at hq; cases hq)
  refine g3 wn.fldA0 wn.ld0E wn.ldfE ?_
  refine WP.ent (c1E ok w e ?_ 5 0 oM) fun i=>rfl
  refine WP.congr (fun i=>a7P i.1 i.2 ..) ?_
  refine g2 @hc @k1 ?_
  refine WP.congr (fun i=>a7O i.1 i.2 ..) ?_
  refine g0 ?_
  refine ih (v+1) s' h' oM (k3.ext e (Nat.le_refl _)) (k2.cong ?_)
  simp[List.range_succ,encB]
theorem b8W {h:Heap}(ok:NetOk N es)(hN:N<=1000)(hs:Sl h 4 sE (es.map encE)) :
  Tot tab g4_ [.agg [I N,sE]] h fun r h'=>Ext h h'/\Gr h.length h'.length h' 1 r (((List.range N).map fun (v:Nat)=>linkB es v).map encB):=by
 refine WP.tot (fun k=>a9C k _ h) ?_
 have hl:=hs.one
 obtain ⟨h1,hh1⟩:∃h1,h1=h++[AObj.cells ⟨[I N,sE],0,0,false⟩]:=⟨_,rfl⟩
 have e1:Ext h h1:=by rw[hh1]; exact Ext.push _ _
 have wn:At h1 (.ptr h.length 0 2 0) [I N,sE]:=At.row (wg:=0) (g:=0) (ro:=false) (by rw[hh1]; simp) (Nat.le_refl _) rfl
 refine g1 @hl ?_
 rw[<-hh1]
 refine WP.call (b2X (hs.ext e1)) ?_
 rintro r h2 ⟨e2,w2⟩
 refine WP.ent ((c1F ok hN w2 (wn.ext e2) N 0 .nils h2 oM (Ext.refl _) (Gr.nil ..)).mono fun r h' ⟨q1,q2⟩=>?_) fun i=>rfl
 have:=(e1.trans e2).len
 exact ⟨(e1.trans e2).trans q1,q2.mono this (Nat.le_refl _)⟩
def degV (es:List E)(v:Int):Nat:=(outL es v).length+(inL es v).length
def ordV (es:List E)(d n:Nat):List Int:=((List.range n).filter fun (v:Nat)=>!linkB es v && decide (degV es v=d)).map fun (v:Nat)=>(v:Int)
def ordTo (es:List E)(N:Nat)(D:Nat):List Int:=(List.range D).flatMap fun d=>ordV es d N
theorem b9U (d n:Nat):ordV es d (n+1)=ordV es d n++if linkB es n=false/\degV es n=d then [(n:Int)] else []:=by
 simp only[ordV,List.range_succ,List.filter_append,List.map_append]
 congr 1
 by_cases q:linkB es n=false/\degV es n=d
 ·rw[if_pos q]; simp[q.1,q.2]
 ·rw[if_neg q]
  cases h1:linkB es (n:Int)<;>simp_all
theorem b1b (D:Nat):ordTo es N (D+1)=ordTo es N D++ordV es D N:=by simp[ordTo,List.range_succ]
theorem b6a (d n:Nat):(ordV es d n).length<=n:=by
 unfold ordV
 rw[List.length_map]
 exact Nat.le_trans (List.length_filter_le _ _) (by simp)
theorem b5b:∀D:Nat,(ordTo es N D).length<=D*N
 |0=>by simp[ordTo]
 |D+1=>by
  rw[b1b,List.length_append,Nat.succ_mul]
  have:=b5b D
  have:=b6a (es:=es) D N
  omega
theorem b9V {D:Nat}{v:Int}(h:v∈ordTo es N D):0<=v/\v<N/\linkB es v=false:=by
 simp only[ordTo,ordV,List.mem_flatMap,List.mem_map,List.mem_filter,List.mem_range,Bool.and_eq_true,Bool.not_eq_true'] at h
 obtain ⟨d,hd,n,⟨h1,h2,_⟩,rfl⟩:=h
 exact ⟨oM,oM,h2⟩
theorem b6b {d n:Nat}{v:Int}(h:v∈ordV es d n):degV es v=d:=by
 simp only[ordV,List.mem_map,List.mem_filter,Bool.and_eq_true,decide_eq_true_eq] at h
 obtain ⟨n,⟨_,_,h3⟩,rfl⟩:=h
 exact h3
theorem b2Y:∀D:Nat,(ordTo es N D).Nodup/\∀v∈ordTo es N D,degV es v<D
 |0=>by simp[ordTo]
 |D+1=>by
  obtain ⟨i1,i2⟩:=b2Y D
  rw[b1b]
  refine ⟨List.nodup_append.2 ⟨i1,?_,fun a ha b hb hab=>?_⟩,fun v hv=>?_⟩
  ·refine List.Pairwise.map _ (fun a b h q=>h oM) (List.nodup_range.filter _)
  ·have h1:=i2 a ha
   have h2:=b6b hb
   subst hab
   omega
  ·rcases List.mem_append.1 hv with h|h
   ·have:=i2 v h; omega
   ·have:=b6b h; omega
theorem c1G (ok:NetOk N es)(hN:N<=1000)(w:RefV h0 a N es)(wn:At h0 n1 [I N,sE]){is:AV}(gi':Sl h0 1 is (((List.range N).map fun (v:Nat)=>linkB es v).map encB)){D:Nat}(hD:D<=1000000){Q:AV->Heap->Prop}(hQ:∀out h',Ext h0 h'->Gr h0.length h'.length h' 1 out ((ordTo es N (D+1)).map encI)->WP (fun p:Nat × Nat=>a1k p.1 p.2 n1 a is out (I D) h') Q) :
  ∀(d v:Nat) (out:AV) (h:Heap),v+d=N->Ext h0 h->Gr h0.length h.length h 1 out ((ordTo es N D++ordV es D v).map encI)->
  WP (fun p:(Nat × Nat) × Nat=>i4_ p.1.1 p.1.2 p.2 n1 a is out (I D) (I v) h) Q:=by
 intro d
 induction d with
 |zero=>
  intro v out h hv e g
  refine WP.rnd (fun i j=>a2S i.1 i.2 j n1 a is out (I D) (I v) h) ?_
  rw[show v=N by omega,<-b1b] at g
  rw[show v=N by omega]
  refine g3 wn.fldA0 wn.ld0E wn.ldfE ?_
  exact WP.lv (hQ out h e g) fun i j=>rfl
 |succ d ih=>
  intro v out h hv e g
  refine WP.rnd (fun i j=>a2S i.1 i.2 j n1 a is out (I D) (I v) h) ?_
  have gs:=gi'.ext e
  have hll:((List.range N).map fun (v:Nat)=>linkB es v).length=N:=by simp
  have ldi:=gs.ld0 (H:=h) (i:=(v:Int)) (Ext.refl _) oM (by rw[hll]; omega) oM
  have hgi:gi ((List.range N).map fun (v:Nat)=>linkB es v) (v:Int)=linkB es v:=by
   rw[b2_ (by rw[hll]; omega)]; simp
  rw[hgi] at ldi
  replace ldi:Gm.ld1 h (elP 1 is (v:Int))=some (.bool (linkB es v)):=ldi
  have idi:=gs.idxG (i:=(v:Int)) oM (by rw[hll]; omega)
  have hlen:((ordTo es N D++ordV es D v).length)<=1000000*1000+1000:=by
   rw[List.length_append]
   have h1:=b5b (es:=es) (N:=N) D
   have h2:=b6a (es:=es) D v
   have:D*N<=1000000*1000:=Nat.mul_le_mul hD hN
   omega
  have hov:=b9U (es:=es) D v
  have go1:∀(out':AV) (h':Heap),Ext h0 h'->Gr h0.length h'.length h' 1 out' ((ordTo es N D++ordV es D (v+1)).map encI)->WP (fun p:(Nat × Nat) × Nat=>i4_ p.1.1 p.1.2 p.2 n1 a is out' (I D) (I ((v:Int)+1)) h') Q:=fun out' h' e' g'=>ih (v+1) out' h' oM e' g'
  cases hl:linkB es (v:Int) with
  |true=>
   rw[hl] at ldi
   refine g5 wn.fldA0 wn.ld0E wn.ldfE @idi @ldi ?_
   refine go1 out h e (g.cong ?_)
   rw[hov,if_neg (fun q=>by rw[hl] at q; cases q.1),List.append_nil]
  |false=>
   rw[hl] at ldi
   simp -implicitDefEqProofs (disch:=first|assumption|omega|(simp only[gL,gA]<;>omega)|fail) only[gC,reduceIte,wn.fldA0,wn.ld0E,wn.ldfE,idi,ldi]
   refine WP.call (b7A (w.ext e) ok.len) ?_
   rintro r1 h1 ⟨e1,g1⟩
   have hl1:(outL es v).length<=100000:=Nat.le_trans (o0_ ..) ok.len
   have hl2:(inL es v).length<=100000:=Nat.le_trans (o0_ ..) ok.len
   simp -implicitDefEqProofs (disch:=first|assumption|omega|(simp only[gL,gA]<;>omega)|fail) only[gC,reduceIte,g1.sl.lenG]
   refine WP.call (b8V ((w.ext e).ext e1) ok.len) ?_
   rintro r2 h2 ⟨e2,g2⟩
   have e12:=e1.trans e2
   have eh2:=e.trans e12
   have g':=(g.ext e12).mono (Nat.le_refl _) e12.len
   by_cases hd:degV es v=D
   ·have hdI:((outL es v).length:Int)+((inL es v).length:Int)=(D:Int):=by unfold degV at hd; omega
    obtain ⟨s',h',k1,k2,k3⟩:=g'.append1 (bytes:=8) (v:=[I v]) rfl oM oM (by rw[List.length_map]; omega) eh2.len (Nat.le_refl _)
    rw[a3_] at k1
    simp -implicitDefEqProofs (disch:=first|assumption|omega|(simp only[gL,gA]<;>omega)|fail) only[gC,reduceIte,g2.sl.lenG,hdI,k1]
    refine go1 s' h' (k3.ext eh2 (Nat.le_refl _)) (k2.cong ?_)
    rw[hov,if_pos ⟨hl,hd⟩]
    simp[encI]
   ·have hdI:¬((outL es v).length:Int)+((inL es v).length:Int)=(D:Int):=by unfold degV at hd; omega
    simp -implicitDefEqProofs (disch:=first|assumption|omega|(simp only[gL,gA]<;>omega)|fail) only[gC,reduceIte,g2.sl.lenG,hdI]
    refine go1 out h2 eh2 (g'.cong ?_)
    rw[hov,if_neg (fun q=>hd q.2),List.append_nil]
theorem c1H (ok:NetOk N es)(hN:N<=1000)(w:RefV h0 a N es)(hs:Sl h0 4 sE (es.map encE))(wn:At h0 n1 [I N,sE]){is:AV}(gi':Sl h0 1 is (((List.range N).map fun (v:Nat)=>linkB es v).map encB)) :
  ∀(d D:Nat) (out:AV) (h:Heap),D+d=2*es.length+1->Ext h0 h->Gr h0.length h.length h 1 out ((ordTo es N D).map encI)->
  WP (fun p:Nat × Nat=>v4_ p.1 p.2 n1 a is out (I D) h) fun r h'=>Ext h0 h'/\Gr h0.length h'.length h' 1 r ((ordTo es N (2*es.length+1)).map encI):=by
 have hl:=ok.len
 have w2:IntKind.i64.wrap (2*(es.length:Int))=2*es.length:=d6_ oM oM
 intro d
 induction d with
 |zero=>
  intro D out h hD e g
  refine WP.rnd (fun i j=>a2T i j n1 a is out (I D) h) ?_
  rw[show D=2*es.length+1 by omega] at g ⊢
  have hs':=hs.ext e
  refine g5 wn.fldA0 wn.ld0E wn.ldfE hs'.lenG @w2 ?_
  exact WP.ret ⟨e,g⟩
 |succ d ih=>
  intro D out h hD e g
  refine WP.rnd (fun i j=>a2T i j n1 a is out (I D) h) ?_
  have hs':=hs.ext e
  refine g5 wn.fldA0 wn.ld0E wn.ldfE hs'.lenG @w2 ?_
  refine WP.ent (c1G ok hN w wn gi' (D:=D) oM (fun out' h' e' g'=>?_) N 0 out h oM e (g.cong (by simp[ordV]))) fun i=>rfl
  refine WP.congr (fun i=>a7J i.1 i.2 ..) ?_
  refine g0 ?_
  exact ih (D+1) out' h' oM e' g'
theorem b8X {h:Heap}(ok:NetOk N es)(hN:N<=1000)(hs:Sl h 4 sE (es.map encE)) :
  Tot tab j4_ [.agg [I N,sE]] h fun r h'=>Ext h h'/\Gr h.length h'.length h' 1 r ((ordTo es N (2*es.length+1)).map encI):=by
 refine WP.tot (fun k=>a9z k _ h) ?_
 have hl:=hs.one
 obtain ⟨h1,hh1⟩:∃h1,h1=h++[AObj.cells ⟨[I N,sE],0,0,false⟩]:=⟨_,rfl⟩
 have e1:Ext h h1:=by rw[hh1]; exact Ext.push _ _
 have wn:At h1 (.ptr h.length 0 2 0) [I N,sE]:=At.row (wg:=0) (g:=0) (ro:=false) (by rw[hh1]; simp) (Nat.le_refl _) rfl
 refine g1 @hl ?_
 rw[<-hh1]
 refine WP.call (b2X (hs.ext e1)) ?_
 rintro r h2 ⟨e2,w2⟩
 have wn2:=wn.ext e2
 have rn1:h1[h.length]?=some (.cells ⟨[I N,sE],0,0,false⟩):=by rw[hh1]; simp
 have rn2:=e2.get rn1
 refine g1 @rn2 ?_
 refine WP.call (b8W ok hN ((hs.ext e1).ext e2)) ?_
 rintro is h3 ⟨e3,g3⟩
 have e123:=(e1.trans e2).trans e3
 refine WP.ent ((c1H ok hN (w2.ext e3) (hs.ext e123) (wn2.ext e3) g3.sl (2*es.length+1) 0 .nils h3 oM (Ext.refl _) (Gr.nil ..)).mono fun r h' ⟨q1,q2⟩=>?_) fun i=>rfl
 exact ⟨e123.trans q1,q2.mono e123.len (Nat.le_refl _)⟩
end
end Go.Gm.AQ
namespace Go.Gm.AQ
open Go Go.Gm
def arcE (es:List E)(e:Nat):Ar:=⟨(eg es e).fr,(eg es e).to,(eg es e).md,(eg es e).co,e,0,0⟩
def ixE (N:Nat)(es:List E)(e:Nat):Int:=((eg es e).fr*N+(eg es e).to)*5+(eg es e).md
structure BI1 (N:Nat) (es:List E) (n:Nat) (B:List Int):Prop where
 len:B.length=N*N*5
 val:∀i:Int,0<=i->i<B.length->0<=gi B i/\gi B i<=n/\(0<gi B i->ixE N es (gi B i-1).toNat=i)
 all:∀e:Nat,e<n->0<gi B (ixE N es e)/\(eg es (gi B (ixE N es e)-1).toNat).co<=(eg es e).co
section
variable {N:Nat} {es:List E}
theorem eg_ok (no:NetOk N es){e:Nat}(he:e<es.length):0<=(eg es e).fr/\(eg es e).fr<N/\0<=(eg es e).to/\(eg es e).to<N/\0<=(eg es e).md/\(eg es e).md<5:=no.edge _ (b7_ (xs:=es) (i:=(e:Int)) oM oM)
theorem b3X (no:NetOk N es){e:Nat}(he:e<es.length):0<=ixE N es e/\ixE N es e<((N*N*5:Nat):Int):=by
 obtain ⟨h1,h2,h3,h4,h5,h6⟩:=eg_ok no he
 exact cu_lt h1 h2 h3 h4 h5 h6
theorem BI1.start:BI1 N es 0 (List.replicate (N*N*5) 0):=by
 refine ⟨by simp,fun i i0 i1=>?_,fun e h=>oM⟩
 rw[w2_ i0 (by simpa using i1)]
 exact ⟨oM,oM,oM⟩
theorem BI1.skip {n:Nat}{B:List Int}(b:BI1 N es n B)(h1:0<gi B (ixE N es n))(h2:(eg es (gi B (ixE N es n)-1).toNat).co<=(eg es n).co):BI1 N es (n+1) B:=by
 refine ⟨b.len,fun i i0 i1=>?_,fun e h=>?_⟩
 ·have:=b.val i i0 i1
  exact ⟨this.1,oM,this.2.2⟩
 ·by_cases q:e=n
  ·subst q; exact ⟨h1,h2⟩
  ·exact b.all e oM
theorem BI1.put (no:NetOk N es){n:Nat}(hn:n<es.length){B:List Int}(b:BI1 N es n B)(h1:gi B (ixE N es n)=0\/(eg es n).co<(eg es (gi B (ixE N es n)-1).toNat).co):BI1 N es (n+1) (B.set (ixE N es n).toNat (n+1)):=by
 obtain ⟨x0,x1⟩:=b3X no hn
 have hl:=b.len
 have hx:ixE N es n<B.length:=by rw[hl]; exact x1
 have e1:((n:Int)+1-1).toNat=n:=oM
 refine ⟨by rw[List.length_set]; exact hl,fun i i0 i1=>?_,fun e h=>?_⟩
 ·rw[List.length_set] at i1
  rw[w3_ x0 hx i0]
  split
  ·rename_i q
   exact ⟨oM,oM,fun _=>by rw[e1]; exact q.symm⟩
  ·have:=b.val i i0 i1
   exact ⟨this.1,oM,this.2.2⟩
 ·by_cases q:e=n
  ·subst q
   rw[w3_ x0 hx x0,if_pos rfl,e1]
   exact ⟨oM,Int.le_refl _⟩
  ·have h0:=b.all e oM
   have hex:=b3X no (e:=e) oM
   rw[w3_ x0 hx hex.1]
   split
   ·rename_i q2
    rw[q2] at h0
    rw[e1]
    refine ⟨oM,?_⟩
    rcases h1 with h1|h1<;>omega
   ·exact h0
structure BI2 (N:Nat) (es:List E) (B:List Int) (k:Nat) (A:List Ar) (C:List Int):Prop where
 len:C.length=N*N*5
 la:A.length<=k
 arc:∀(j:Nat) (a:Ar),A[j]?=some a->∃e:Nat,e<es.length/\a=arcE es e
 old:∀i:Int,0<=i->i<k->i<C.length->(gi B i=0/\gi C i=0)\/(0<gi B i/\0<gi C i/\gi C i<=A.length/\gi A (gi C i-1)=arcE es (gi B i-1).toNat)
 new:∀i:Int,k<=i->i<C.length->gi C i=0
theorem BI2.start {B:List Int}:BI2 N es B 0 [] (List.replicate (N*N*5) 0):=
 ⟨by simp,by simp,fun j a h=>by simp at h,fun i i0 i1=>oM,fun i i0 i1=>w2_ oM (by simpa using i1)⟩
theorem BI2.skip {B:List Int}{k:Nat}{A:List Ar}{C:List Int}(b:BI2 N es B k A C)(hk:k<N*N*5)(h:gi B (k:Int)=0):BI2 N es B (k+1) A C:=by
 refine ⟨b.len,by have:=b.la; omega,b.arc,fun i i0 i1 i2=>?_,fun i i0 i1=>b.new i oM i1⟩
 by_cases q:i=k
 ·subst q; exact .inl ⟨h,b.new _ (Int.le_refl _) i2⟩
 ·exact b.old i i0 oM i2
theorem BI2.put {B:List Int}{k:Nat}{A:List Ar}{C:List Int}(b:BI2 N es B k A C)(hk:k<N*N*5)(h:0<gi B (k:Int))(he:(gi B (k:Int)-1).toNat<es.length):BI2 N es B (k+1) (A++[arcE es (gi B (k:Int)-1).toNat]) (C.set k (A.length+1)):=by
 have hl:=b.len
 have hs:∀i:Int,0<=i->gi (C.set k ((A.length:Int)+1)) i=if i=k then (A.length:Int)+1 else gi C i:=fun i i0=>by
  have:=w3_ (xs:=C) (i:=(k:Int)) oM oM i0 ((A.length:Int)+1)
  rwa [Int.toNat_natCast] at this
 refine ⟨by rw[List.length_set]; exact hl,by have:=b.la; simp; omega,fun j a hj=>?_,fun i i0 i1 i2=>?_,fun i i0 i1=>?_⟩
 ·by_cases hj':j<A.length
  ·rw[List.getElem?_append_left hj'] at hj
   exact b.arc j a hj
  ·rw[List.getElem?_append_right oM] at hj
   have q1:=(List.getElem?_eq_some_iff.1 hj).1
   have:j-A.length=0:=by simp at q1; omega
   rw[this,List.getElem?_cons_zero] at hj
   injection hj with hj
   exact ⟨_,he,hj.symm⟩
 ·rw[List.length_set] at i2
  rw[hs i i0]
  by_cases q:i=k
  ·subst q
   rw[if_pos rfl]
   refine .inr ⟨h,oM,by simp,?_⟩
   rw[show (A.length:Int)+1-1=A.length by omega,a6R]
  ·rw[if_neg q]
   rcases b.old i i0 oM i2 with z|⟨z1,z2,z3,z4⟩
   ·exact .inl z
   ·exact .inr ⟨z1,z2,by simp; omega,by rw[a3h oM oM]; exact z4⟩
 ·rw[List.length_set] at i1
  rw[hs i oM,if_neg oM]
  exact b.new i oM i1
theorem BI2.ci (no:NetOk N es){B:List Int}{A:List Ar}{C:List Int}(b1:BI1 N es es.length B)(b:BI2 N es B (N*N*5) A C):CI es N (fun _=>False) A C:=by
 have hl:=b.len
 have hl1:=b1.len
 refine CI.begin no hl (fun k a h=>b.arc k a h) (fun u w m u0 u1 w0 w1 m0 m1=>?_) (fun e he=>?_)
 ·obtain ⟨p0,p1⟩:=cu_lt u0 u1 w0 w1 m0 m1
  simp only[cu]
  rcases b.old _ p0 p1 (by rw[hl]; exact p1) with ⟨_,z⟩|⟨z1,z2,z3,z4⟩
  ·exact ⟨oM,oM,fun q=>oM⟩
  ·refine ⟨oM,z3,fun _=>?_⟩
   have hv:=b1.val _ p0 (by rw[hl1]; exact p1)
   have hlt:(gi B ((u*(N:Int)+w)*5+m)-1).toNat<es.length:=oM
   obtain ⟨g1,g2,g3,g4,g5,g6⟩:=eg_ok no hlt
   have hx:=hv.2.2 z1
   obtain ⟨q1,q2,q3⟩:=b9X g3 g4 g5 g6 w0 w1 m0 m1 hx
   rw[z4]
   exact ⟨q1,q2,q3⟩
 ·obtain ⟨p0,p1⟩:=b3X no he
  obtain ⟨a1,a2⟩:=b1.all e he
  rcases b.old _ p0 p1 (by rw[hl]; exact p1) with ⟨z,_⟩|⟨z1,z2,z3,z4⟩
  ·omega
  ·refine ⟨z2,?_⟩
   show (gi A (gi C (ixE N es e)-1)).co<=_
   rw[z4]
   exact a2
end
section
variable {c:WC} {s:WS} {h0:Heap}
theorem c3e (ok:c.Ok)(w:WV c s h0){ob:Nat}{best:AV}{Q:AV->Heap->Prop}(hQ:∀h B,Ext h0 h->h[h0.length]?=some (.cells ⟨[I c.N,c.sE],0,0,false⟩)->Gr ob (ob+1) h 1 best (B.map encI)->ob<h.length->BI1 c.N c.es c.es.length B->WP (fun k:Nat=>x0_ k (.ptr c.oW 0 8 0) (.ptr h0.length 0 2 0) best h) Q)(hob:h0.length<ob) :
  ∀(d n:Nat) (h:Heap) (B:List Int),n+d=c.es.length->Ext h0 h->h[h0.length]?=some (.cells ⟨[I c.N,c.sE],0,0,false⟩)->Gr ob (ob+1) h 1 best (B.map encI)->ob<h.length->BI1 c.N c.es n B->
   WP (fun p:Nat × Nat=>e9_ p.1 p.2 (.ptr c.oW 0 8 0) (.ptr h0.length 0 2 0) best (I n) h) Q:=by
 have no:=ok.no
 intro d
 induction d with
 |zero=>
  intro n h B hn e rn g go b
  refine WP.rnd (fun i j=>a1c i j _ _ best (I n) h) ?_
  have gE:=(w.ext ok e).gE.sl
  obtain rfl:n=c.es.length:=oM
  simp -implicitDefEqProofs (disch:=first|assumption|omega|(simp only[gL,gA]<;>omega)|fail) only[gC,reduceIte,rn,gE.lenG]
  exact WP.lv (hQ h B e rn g go b) fun i j=>rfl
 |succ d ih=>
  intro n h B hn e rn g go b
  refine WP.rnd (fun i j=>a1c i j _ _ best (I n) h) ?_
  have wh:=w.ext ok e
  have gE:=wh.gE.sl
  have hle:=e.len
  have lb:=w.lb
  have t:=ok.t
  obtain ⟨g1,g2,g3,g4,g5,g6⟩:=eg_ok no (e:=n) oM
  obtain ⟨x0,x1⟩:=b3X no (e:=n) oM
  have hlB:=b.len
  have hx:ixE c.N c.es n<B.length:=by rw[hlB]; exact x1
  have hv:=b.val _ x0 hx
  have hlen:=no.len
  obtain ⟨ed,hed⟩:∃ed,gi c.es (n:Int)=ed:=⟨_,rfl⟩
  have hix:ixE c.N c.es n=(ed.fr*c.N+ed.to)*5+ed.md:=by rw[ixE,eg,hed]
  rw[eg,hed] at g1 g2 g3 g4 g5 g6
  have ldn:∀H,Ext h H->Gm.ldN 4 H (elP 4 c.sE (n:Int))=some (.agg [I ed.fr,I ed.to,I ed.md,I ed.co]):=fun H e=>by have:=gE.ldN (H:=H) (i:=(n:Int)) e oM oM; rw[hed] at this; exact this
  have hz:AV.int .i64 0=I 0:=rfl
  simp only[hz]
  obtain ⟨h2,hh2⟩:∃h2,h2=(h++[AObj.cells ⟨[I 0,I 0,I 0,I 0],0,0,false⟩]).set h.length (.cells ⟨[I ed.fr,I ed.to,I ed.md,I ed.co],0,0,false⟩):=⟨_,rfl⟩
  have e2:Ext h h2:=by rw[hh2]; exact eX
  have l2:h2.length=h.length+1:=by rw[hh2]; simp
  have re2:h2[h.length]?=some (.cells ⟨[I ed.fr,I ed.to,I ed.md,I ed.co],0,0,false⟩):=by rw[hh2]; exact a0_ (by simp)
  have rn2:=e2.get rn
  have e02:=e.trans e2
  have w2:=wh.ext ok e2
  have rw2:=w2.row
  have gB2:=g.ext e2
  have gBs:=gB2.sl
  have gE2:=gE.ext e2
  simp -implicitDefEqProofs (maxSteps:=1000000) (disch:=first|assumption|omega|(simp only[gL]<;>omega)|((repeat (first|exact Ext.refl _|assumption|apply Ext.app|apply Ext.mk|(refine Ext.setr ?_ (by (first|omega|(simp only[gL]<;>omega))) _))); done)|(simp only[gL,gA,rn,gE.lenG,gE.idxG,ldn]<;>omega)|fail) only[gB,setAll,partL,fldV,reduceIte,Nat.reduceAdd,Nat.reduceMul,rn,gE.lenG,gE.idxG,ldn]
  rw[<-hh2]
  refine WP.call (b0r ok w2.at g1 g2 g3 g4 g5 g6) ?_
  rintro _ _ ⟨rfl,rfl⟩
  rw[<-hix]
  have ldb:=gBs.ld0 (H:=h2) (i:=ixE c.N c.es n) (Ext.refl _) x0 hx oM
  obtain ⟨bv,hbv⟩:∃bv,gi B (ixE c.N c.es n)=bv:=⟨_,rfl⟩
  rw[hbv] at hv
  rw[hbv] at ldb
  replace ldb:Gm.ld1 h2 (elP 1 best (ixE c.N c.es n))=some (I bv):=ldb
  have put:(bv=0\/(eg c.es n).co<(eg c.es (bv-1).toNat).co)->∃h3,stN 1 h2 (elP 1 best (ixE c.N c.es n)) (I ((n:Int)+1))=some h3/\WP (fun p:Nat × Nat=>e9_ p.1 p.2 (.ptr c.oW 0 8 0) (.ptr h0.length 0 2 0) best (I ((n:Int)+1)) h3) Q:=by
   intro hc
   obtain ⟨h3,k1,k2,k3,k4⟩:=gB2.write0 (i:=ixE c.N c.es n) (v:=I ((n:Int)+1)) x0 (by simpa using hx) rfl rfl
   refine ⟨h3,k1,ih (n+1) h3 _ oM (k3.ext e02 oM) ?_ (k2.cong (xs:=(B.map encI).set _ _) (ys:=(B.set (ixE c.N c.es n).toNat ((n:Int)+1)).map encI) (by rw[List.map_set]; rfl)) oM (b.put no oM (by rw[hbv]; exact hc))⟩
   rw[k3.get oM oM]; exact rn2
  by_cases b0:bv=0
  ·obtain ⟨h3,k1,k2⟩:=put (.inl b0)
   simp -implicitDefEqProofs (disch:=first|assumption|omega|(simp only[gL,gA]<;>omega)|fail) only[gC,reduceIte,gBs.idxG,ldb,b0]
   rw[k1]
   refine g0 ?_
   exact k2
  ·have hco:(eg c.es n).co=ed.co:=by rw[eg,hed]
   have ldc:=gE2.ldf 3 (H:=h2) (i:=bv-1) (Ext.refl _) oM oM oM
   replace ldc:Gm.ld1 h2 (fldP 3 (elP 4 c.sE (bv-1)))=some (I (gi c.es (bv-1)).co):=ldc
   have hgo:gi c.es (bv-1)=eg c.es (bv-1).toNat:=by rw[eg,Int.toNat_of_nonneg oM]
   rw[hgo] at ldc
   by_cases bc:(eg c.es (bv-1).toNat).co > ed.co
   ·obtain ⟨h3,k1,k2⟩:=put (.inr (by rw[hco]; exact bc))
    refine g7 gBs.idxG @ldb @b0 @rn2 gE2.idxG @ldc @re2 ?_
    rw[k1]
    refine g0 ?_
    exact k2
   ·refine g7 gBs.idxG @ldb @b0 @rn2 gE2.idxG @ldc @re2 ?_
    exact ih (n+1) h2 B oM e02 rn2 gB2 oM (b.skip (by rw[hbv]; omega) (by rw[hbv,hco]; omega))
theorem c3f (ok:c.Ok){s:WS}(w:WV c s h0){on ob:Nat}{best:AV}{B:List Int}(b1:BI1 c.N c.es c.es.length B)(hon:h0.length<=on)(hob:h0.length<=ob) :
  ∀(d k:Nat) (h:Heap) (s1:AV) (o1:Nat) (A:List Ar) (C:List Int),k+d=c.N*c.N*5->WV c { s with sA:=s1,oA:=o1,A:=A,C:=C } h->FrS (fun o=>o=c.oW\/o=c.oC) h0 h->(s1≠.nils->h0.length<=o1/\o1≠on/\o1≠ob)->h[on]?=some (.cells ⟨[I c.N,c.sE],0,0,false⟩)->Gr ob (ob+1) h 1 best (B.map encI)->ob<h.length->BI2 c.N c.es B k A C->
   WP (fun p:Nat × Nat=>h4_ p.1 p.2 (.ptr c.oW 0 8 0) (.ptr on 0 2 0) best (I k) h) fun r h'=>r=.tup []/\∃s1 o1 A C,WV c { s with sA:=s1,oA:=o1,A:=A,C:=C } h'/\FrS (fun o=>o=c.oW\/o=c.oC) h0 h'/\(s1≠.nils->h0.length<=o1)/\CI c.es c.N (fun _=>False) A C/\A.length<=c.N*c.N*5:=by
 have no:=ok.no
 have t:=ok.t
 have lb0:=w.lb
 have hlB:=b1.len
 have hNN:c.N*c.N*5<=100*100*5:=Nat.mul_le_mul_right 5 (Nat.mul_le_mul ok.n.2 ok.n.2)
 intro d
 induction d with
 |zero=>
  intro k h s1 o1 A C hk wh f p1 rn g go b
  refine WP.rnd (fun i j=>a1b i j _ _ best (I k) h) ?_
  obtain rfl:k=c.N*c.N*5:=oM
  have ci:=b.ci no b1
  have la:=b.la
  generalize c.N*c.N*5=K at *
  refine g1 g.sl.lenG ?_
  exact WP.ret ⟨rfl,s1,o1,A,C,wh,f,fun z=>(p1 z).1,ci,la⟩
 |succ d ih=>
  intro k h s1 o1 A C hk wh f p1 rn g go b
  refine WP.rnd (fun i j=>a1b i j _ _ best (I k) h) ?_
  have gb:=g.sl
  have gE:=wh.gE.sl
  have lb:=wh.lb
  have hkB:(k:Int)<B.length:=oM
  have hv:=b1.val k oM hkB
  have ldb:=gb.ld0 (H:=h) (i:=(k:Int)) (Ext.refl _) oM hkB oM
  obtain ⟨bv,hbv⟩:∃bv,gi B (k:Int)=bv:=⟨_,rfl⟩
  rw[hbv] at hv ldb
  replace ldb:Gm.ld1 h (elP 1 best (k:Int))=some (I bv):=ldb
  have hlen:=no.len
  have hlk:(k:Int)<10000000:=oM
  by_cases b0:0<bv
  ·obtain ⟨ed,hed⟩:∃ed,gi c.es (bv-1)=ed:=⟨_,rfl⟩
   have ldn:∀H,Ext h H->Gm.ldN 4 H (elP 4 c.sE (bv-1))=some (.agg [I ed.fr,I ed.to,I ed.md,I ed.co]):=fun H e=>by have:=gE.ldN (H:=H) (i:=bv-1) e oM oM; rw[hed] at this; exact this
   have hz:AV.int .i64 0=I 0:=rfl
   simp only[hz]
   obtain ⟨h2,hh2⟩:∃h2,h2=(h++[AObj.cells ⟨[I 0,I 0,I 0,I 0],0,0,false⟩]).set h.length (.cells ⟨[I ed.fr,I ed.to,I ed.md,I ed.co],0,0,false⟩):=⟨_,rfl⟩
   have e2:Ext h h2:=by rw[hh2]; exact eX
   have l2:h2.length=h.length+1:=by rw[hh2]; simp
   have re2:h2[h.length]?=some (.cells ⟨[I ed.fr,I ed.to,I ed.md,I ed.co],0,0,false⟩):=by rw[hh2]; exact a0_ (by simp)
   have rn2:=e2.get rn
   have w2:=wh.ext ok e2
   have gB2:=g.ext e2
   have gBs:=gB2.sl
   have ldb2:=gBs.ld0 (H:=h2) (i:=(k:Int)) (Ext.refl _) oM hkB oM
   rw[hbv] at ldb2
   replace ldb2:Gm.ld1 h2 (elP 1 best (k:Int))=some (I bv):=ldb2
   refine g6 gb.lenG gb.idxG @ldb @rn gE.idxG @ldn ?_
   rw[<-hh2]
   refine g3 @re2 gBs.idxG @ldb2 ?_
   have hgo:gi c.es (bv-1)=eg c.es (bv-1).toNat:=by rw[eg,Int.toNat_of_nonneg oM]
   obtain ⟨g1,g2,g3,g4,g5,g6⟩:=eg_ok no (e:=(bv-1).toNat) oM
   have hee:eg c.es (bv-1).toNat=ed:=by rw[<-hgo]; exact hed
   have hx:=hv.2.2 b0
   rw[ixE,hee] at hx
   rw[hee] at g1 g2 g3 g4 g5 g6
   have hla:=b.la
   refine WP.call (b5Z (a:=⟨ed.fr,ed.to,ed.md,ed.co,bv-1,0,0⟩) ok w2 b.len g1 g2 g3 g4 g5 g6 (by show A.length<=_; omega)) ?_
   rintro _ h3 ⟨rfl,s2,o2,w3,f3,p3⟩
   rw[hx,Int.toNat_natCast] at w3
   have l3:=f3.len
   have l0:=f.len
   have nD:∀o,h0.length<=o->o<h2.length->(s1≠.nils->o≠o1)->¬(o=c.oW\/o=c.oC\/(s1≠.nils/\o=o1)):=fun o q1 q2 q3 q4=>by
    rcases q4 with q4|q4|⟨q4,q5⟩
    ·omega
    ·omega
    ·exact q3 q4 q5
   have hp:=b.put oM (by rw[hbv]; exact b0) (by rw[hbv]; omega)
   rw[hbv] at hp
   have haE:arcE c.es (bv-1).toNat=⟨ed.fr,ed.to,ed.md,ed.co,bv-1,0,0⟩:=by
    rw[arcE,hee,Int.toNat_of_nonneg oM]
   rw[haE] at hp
   have hon2:on<h.length:=(List.getElem?_eq_some_iff.1 rn).1
   have f02:FrS (fun o=>o=c.oW\/o=c.oC) h0 h2:=f.trans (FrS.ofExt e2)
   refine ih (k+1) h3 s2 o2 _ _ oM w3 ⟨oM,fun o q1 q2=>?_⟩ (fun z=>?_) ?_ (gB2.keep f3 fun _=>nD ob hob oM (fun z=>Ne.symm (p1 z).2.2)) oM hp
   ·rw[f3.get (fun q=>?_) oM]
    ·exact f02.get q1 q2
    ·rcases q with q|q|⟨q,q3⟩
     ·exact q1 (.inl q)
     ·exact q1 (.inr q)
     ·have:=(p1 q).1
      have q3':o=o1:=q3
      omega
   ·rcases p3 z with ⟨q,q2⟩|q
    ·show h0.length<=o2/\o2≠on/\o2≠ob
     rw[q]; exact p1 q2
    ·have q':h2.length<=o2:=q
     have z1:h0.length<=o2:=oM
     have z2:o2≠on:=oM
     have z3:o2≠ob:=oM
     exact ⟨z1,z2,z3⟩
   ·rw[f3.get (nD on hon oM (fun z=>Ne.symm (p1 z).2.1)) oM]; exact rn2
  ·refine g3 gb.lenG gb.idxG @ldb ?_
   exact ih (k+1) h s1 o1 A C oM wh f p1 rn g go (b.skip oM (by rw[hbv]; omega))
end
end Go.Gm.AQ
namespace Go.Gm.AQ
open Go Go.Gm
section
variable {c:WC} {s:WS} {h0:Heap}
theorem b9S (ok:c.Ok)(w:WV c s h0)(hA:s.sA=.nils)(hA2:s.A=[])(hC:s.C=List.replicate (c.N*c.N*5) 0) :
  Tot tab f3_ [.ptr c.oW 0 8 0] h0 fun r h'=>r=.tup []/\∃s1 o1 A C,WV c { s with sA:=s1,oA:=o1,A:=A,C:=C } h'/\FrS (fun o=>o=c.oW\/o=c.oC) h0 h'/\(s1≠.nils->h0.length<=o1)/\CI c.es c.N (fun _=>False) A C/\A.length<=c.N*c.N*5:=by
 refine WP.tot (fun k=>a6J k _ h0) ?_
 have r0:=w.row
 have gE:=w.gE.sl
 have lb:=w.lb
 have t:=ok.t
 have hn:=ok.n
 have hNN:c.N*c.N<=100*100:=Nat.mul_le_mul hn.2 hn.2
 have hq1:((c.N:Int)*(c.N:Int))=((c.N*c.N:Nat):Int):=by simp
 have w1:IntKind.i64.wrap ((c.N:Int)*(c.N:Int))=((c.N*c.N:Nat):Int):=by rw[hq1]; exact d6_ oM oM
 have w2:IntKind.i64.wrap (((c.N*c.N:Nat):Int)*5)=((c.N*c.N*5:Nat):Int):=by
  rw[d6_ oM oM]; simp
 obtain ⟨h2,hh2⟩:∃h2,h2=(h0++[AObj.cells ⟨[I 0,.nils],0,0,false⟩]).set h0.length (.cells ⟨[I c.N,c.sE],0,0,false⟩):=⟨_,rfl⟩
 have e2:Ext h0 h2:=by rw[hh2]; exact eX
 have l2:h2.length=h0.length+1:=by rw[hh2]; simp
 have rn2:h2[h0.length]?=some (.cells ⟨[I c.N,c.sE],0,0,false⟩):=by rw[hh2]; exact a0_ (by simp)
 obtain ⟨sb,h3,k1,k2,k3,k4,k5⟩:=g0_ (zero:=[I 0]) (sz:=1) (bytes:=8) (n:=((c.N*c.N*5:Nat):Int)) h2 oM oM oM rfl rfl
 rw[Int.toNat_natCast] at k2
 have hz:AV.int .i64 0=I 0:=rfl
 simp only[hz]
 have hr:rdNAt 2 (some (AObj.cells ⟨[I c.N,c.sE,s.sR,s.sA,c.sU,c.sD,c.sC,c.sG],0,0,false⟩)) 0 8 0=some (.agg [I c.N,c.sE]):=rfl
 have h1:=gE.one
 refine g3 @r0 @hr @h1 ?_
 rw[<-hh2]
 refine g4 @rn2 @w1 @w2 @k1 ?_
 have e3:=e2.trans k3
 refine WP.ent (c3e ok w (ob:=h2.length) (best:=sb) (fun h B e rn g go b=>?_) oM c.es.length 0 h3 (List.replicate (c.N*c.N*5) 0) oM e3 (k3.get rn2) (k2.cong (by simp[encI])) oM BI1.start) fun i=>rfl
 refine WP.congr (fun i=>a5D i ..) ?_
 have ws:=w.ext ok e
 have hs:s={ s with sA:=.nils,oA:=s.oA,A:=[],C:=List.replicate (c.N*c.N*5) 0 }:=by rw[<-hA,<-hA2,<-hC]
 rw[hs] at ws
 exact WP.ent (c3f ok w b (on:=h0.length) (ob:=h2.length) (Nat.le_refl _) oM (c.N*c.N*5) 0 h .nils s.oA [] _ oM ws (FrS.ofExt e) (fun z=>absurd rfl z) rn g go BI2.start) fun i=>rfl
end
end Go.Gm.AQ
namespace Go.Gm.AQ
open Go Go.Gm
theorem Sg.len {N:Nat}{es:List E}{G:Int->Prop}{m u w:Int}{l:List Nat}(no:NetOk N es)(h:Sg es G m u w l)(hd:(ivs es l).Nodup):l.length<=N+1:=by
 have h1:=b6c N (ivs es l) hd (fun x hx=>by
  obtain ⟨e,he,rfl⟩:=List.mem_map.1 hx
  have:=h.ok.1.mem e (List.dropLast_subset l he)
  have:=eg_ok no this
  omega)
 simp only[ivs,List.length_map,List.length_dropLast] at h1
 omega
theorem ArcG.fit {N:Nat}{es:List E}{G:Int->Prop}{A:List Ar}{k:Nat}{a:Ar}(no:NetOk N es)(co:COk es)(hN:N<=100)(h:ArcG es G A k a):AOk N a/\∃l,Unp A k l/\Sg es G a.md a.fr a.to l/\atC es l=a.co/\l.length<=N+1:=by
 obtain ⟨l,h1,h2,h3,h4⟩:=h
 have hl:=h2.len no h4
 have r:=h2.range no
 have m:=h2.md no
 have c1:=(a8v co l h2.ok.1.mem 0).2
 have c0:=h2.cost co
 refine ⟨⟨r.1.1,r.1.2,r.2.1,r.2.2,m.1,m.2,oM,?_⟩,l,h1,h2,h3,hl⟩
 have h5:atC es l<=0+(l.length:Int)*2147483647:=c1
 omega
theorem b8T (N:Nat)(A:List Ar)(C:List Int)(a b:Int):(shortP N A C a b).1.length<=A.length+1:=by
 unfold shortP
 split
 ·simp
 ·split<;>simp
theorem CJ.mono {N:Nat}{es:List E}{G:Int->Prop}{v:Int}{A0 A:List Ar}{C0 C:List Int}{P P':Int->Int->Prop}(cj:CJ es N G v A0 C0 P A C)(h:∀i j,P' i j->P i j):CJ es N G v A0 C0 P' A C:=
 ⟨cj.toCI0,cj.pre,cj.le,cj.dec,fun a b hp=>cj.don a b (h a b hp)⟩
def Prs (dn up:List Int)(a n:Nat)(i j:Int):Prop:=∃p q:Nat,dn[p]?=some i/\up[q]?=some j/\(p<a\/(p=a/\q<n))
structure KI (c:WC) (s0:WS) (G:Int->Prop) (v:Int) (vs up dn:List Int) (lo uA dA:AV) (a n:Nat) (s1:AV) (o1:Nat) (A:List Ar) (C:List Int) (h:Heap):Prop where
 w:WV c { s0 with sA:=s1,oA:=o1,A:=A,C:=C } h
 nl:Inn c h s1 o1 s0.sR s0.oR lo vs
 nu:Inn c h s1 o1 s0.sR s0.oR uA up
 nd:Inn c h s1 o1 s0.sR s0.oR dA dn
 cj:CJ c.es c.N G v s0.A s0.C (Prs dn up a n) A C
 la:A.length<=s0.A.length+a*up.length+n
structure RowsUD (G:Int->Prop) (v:Int) (A0:List Ar) (up dn:List Int):Prop where
 up:∀k∈up,0<=k/\k<A0.length/\(gi A0 k).fr=v/\¬G (gi A0 k).to
 dn:∀k∈dn,0<=k/\k<A0.length/\(gi A0 k).to=v/\¬G (gi A0 k).fr
theorem Inn.short {c:WC}{h h':Heap}{sA sA' sR x:AV}{oA oA' oR:Nat}{xs:List Int}(ok:c.Ok)(a:Inn c h sA oA sR oR x xs)(f:FrS (fun o=>o=c.oW\/o=c.oC\/(sA≠.nils/\o=oA)) h h')(hq:sA'≠.nils->(oA'=oA/\sA≠.nils)\/h.length<=oA'):Inn c h' sA' oA' sR oR x xs:=by
 have t:=ok.t
 refine a.keep f fun o h1 h2 h3 h4=>⟨fun q=>?_,fun q=>?_,h4⟩
 ·rcases q with q|q|⟨q,q2⟩
  ·omega
  ·omega
  ·exact h3 q q2
 ·rcases hq q with ⟨q1,q2⟩|q1
  ·rw[q1]; exact h3 q2
  ·omega
section
variable {c:WC} {s0:WS} {G:Int->Prop} {v:Int} {vs up dn:List Int} {lo uA dA n1 t2:AV}
theorem c4V (ok:c.Ok)(ci:CI c.es c.N G s0.A s0.C)(gv:¬G v)(ru:RowsUD G v s0.A up dn)(hA0:s0.A.length<=50000000)(hup:up.length<=5*c.N)(hdn:dn.length<=5*c.N){a:Nat}(ha:a<dn.length){iI:Int}{Q:AV->Heap->Prop}(hQ:∀s1 o1 A C h,KI c s0 G v vs up dn lo uA dA (a+1) 0 s1 o1 A C h->WP (fun p:(Nat × Nat) × Nat=>a1g p.1.1 p.1.2 p.2 n1 t2 (.ptr c.oW 0 8 0) lo (I iI) (I v) uA dA (I a) h) Q) :
  ∀(d n:Nat) (s1:AV) (o1:Nat) (A:List Ar) (C:List Int) (h:Heap),n+d=up.length->KI c s0 G v vs up dn lo uA dA a n s1 o1 A C h->
   WP (fun p:((Nat × Nat) × Nat) × Nat=>v2_ p.1.1.1 p.1.1.2 p.1.2 p.2 n1 t2 (.ptr c.oW 0 8 0) lo (I iI) (I v) uA dA (I a) (I n) h) Q:=by
 have hn:=ok.n
 intro d
 induction d with
 |zero=>
  intro n s1 o1 A C h hd ki
  refine WP.rnd (fun i j=>a2O i.1.1 i.1.2 i.2 j ..) ?_
  obtain ⟨ou,gu,pu⟩:=ki.nu
  obtain rfl:n=up.length:=oM
  refine g1 gu.sl.lenG ?_
  refine WP.lv (hQ s1 o1 A C h ⟨ki.w,ki.nl,ki.nu,ki.nd,ki.cj.mono fun i j ⟨p,q,h1,h2,h3⟩=>⟨p,q,h1,h2,?_⟩,?_⟩) fun i j=>rfl
  ·have hq:=(List.getElem?_eq_some_iff.1 h2).1
   omega
  ·have:=ki.la
   rw[Nat.succ_mul]; omega
 |succ d ih=>
  intro n s1 o1 A C h hd ki
  refine WP.rnd (fun i j=>a2O i.1.1 i.1.2 i.2 j ..) ?_
  obtain ⟨ou,gu,pu⟩:=ki.nu
  obtain ⟨od,gd',pd⟩:=ki.nd
  have hnu:(n:Int)<up.length:=oM
  have had:(a:Int)<dn.length:=oM
  have ldu:=gu.sl.ld0 (H:=h) (i:=(n:Int)) (Ext.refl _) oM hnu oM
  have ldd:=gd'.sl.ld0 (H:=h) (i:=(a:Int)) (Ext.refl _) oM had oM
  obtain ⟨x,hx⟩:∃x,gi dn (a:Int)=x:=⟨_,rfl⟩
  obtain ⟨y,hy⟩:∃y,gi up (n:Int)=y:=⟨_,rfl⟩
  rw[hx] at ldd
  rw[hy] at ldu
  replace ldd:Gm.ld1 h (elP 1 dA (a:Int))=some (I x):=ldd
  replace ldu:Gm.ld1 h (elP 1 uA (n:Int))=some (I y):=ldu
  have mx:x∈dn:=hx▸b7_ oM had
  have my:y∈up:=hy▸b7_ oM hnu
  obtain ⟨x0,x1,x2,x3⟩:=ru.dn x mx
  obtain ⟨y0,y1,y2,y3⟩:=ru.up y my
  have cj:=ki.cj
  have hle:=cj.le
  have la:=ki.la
  have hbd:a*up.length<=500*500:=Nat.mul_le_mul oM oM
  have fit:=fun (k:Int) (k0:0<=k) (k1:k<A.length)=>(ArcG.fit ok.no ok.co hn.2 (cj.arc _ _ (c1_ k0 k1))).1
  have ax:=fit x x0 oM
  have ay:=fit y y0 oM
  have hk:=cj.cur _ _ _ ax.f0 ax.f1 ay.t0 ay.t1 ax.m0 ax.m1
  refine g5 gu.sl.lenG gd'.sl.idxG gu.sl.idxG @ldd @ldu ?_
  refine WP.call (b8S ok ki.w cj.len x0 (by show x<A.length; omega) y0 (by show y<A.length; omega) (by show A.length<=_; omega) fit ⟨hk.1,hk.2.1⟩) ?_
  rintro _ h2 ⟨rfl,s2,o2,w2,f2,p2⟩
  have st:=cj.step ok.no ok.co ci gv x0 x1 y0 y1 x2 x3 y2 y3
  refine ih (n+1) s2 o2 _ _ h2 oM ⟨w2,ki.nl.short ok f2 p2,ki.nu.short ok f2 p2,ki.nd.short ok f2 p2,st.mono fun i j ⟨p,q,h1,h2,h3⟩=>?_,?_⟩
  ·by_cases hpq:p<a\/(p=a/\q<n)
   ·exact .inl ⟨p,q,h1,h2,hpq⟩
   ·right
    obtain ⟨rfl,rfl⟩:p=a/\q=n:=oM
    have e1:=c1_ (xs:=dn) (i:=(p:Int)) oM oM
    have e2:=c1_ (xs:=up) (i:=(q:Int)) oM oM
    rw[Int.toNat_natCast,hx,h1] at e1
    rw[Int.toNat_natCast,hy,h2] at e2
    injection e1 with e1
    injection e2 with e2
    exact ⟨e1,e2⟩
  ·have:=b8T c.N A C x y
   show (shortP c.N A C x y).1.length<=_
   omega
theorem c4W (ok:c.Ok)(ci:CI c.es c.N G s0.A s0.C)(gv:¬G v)(ru:RowsUD G v s0.A up dn)(hA0:s0.A.length<=50000000)(hup:up.length<=5*c.N)(hdn:dn.length<=5*c.N){iI:Int}{Q:AV->Heap->Prop}(hQ:∀s1 o1 A C h,KI c s0 G v vs up dn lo uA dA dn.length 0 s1 o1 A C h->WP (fun p:Nat × Nat=>a1h p.1 p.2 n1 t2 (.ptr c.oW 0 8 0) lo (I iI) (I v) h) Q) :
  ∀(d a:Nat) (s1:AV) (o1:Nat) (A:List Ar) (C:List Int) (h:Heap),a+d=dn.length->KI c s0 G v vs up dn lo uA dA a 0 s1 o1 A C h->
   WP (fun p:(Nat × Nat) × Nat=>v1_ p.1.1 p.1.2 p.2 n1 t2 (.ptr c.oW 0 8 0) lo (I iI) (I v) uA dA (I a) h) Q:=by
 have hn:=ok.n
 intro d
 induction d with
 |zero=>
  intro a s1 o1 A C h hd ki
  refine WP.rnd (fun i j=>a2P i.1 i.2 j ..) ?_
  obtain ⟨od,gd',pd⟩:=ki.nd
  obtain rfl:a=dn.length:=oM
  refine g1 gd'.sl.lenG ?_
  exact WP.lv (hQ s1 o1 A C h ki) fun i j=>rfl
 |succ d ih=>
  intro a s1 o1 A C h hd ki
  refine WP.rnd (fun i j=>a2P i.1 i.2 j ..) ?_
  obtain ⟨od,gd',pd⟩:=ki.nd
  refine g1 gd'.sl.lenG ?_
  refine WP.ent (c4V ok ci gv ru hA0 hup hdn (a:=a) oM (fun s2 o2 A2 C2 h2 k2=>?_) up.length 0 s1 o1 A C h oM ki) fun i=>rfl
  refine WP.congr (fun i=>a7B i.1.1 i.1.2 i.2 ..) ?_
  refine g0 ?_
  exact ih (a+1) s2 o2 A2 C2 h2 oM k2
end
end Go.Gm.AQ
namespace Go.Gm.AQ
open Go Go.Gm
structure StgL (es:List E) (G:Int->Prop) (A:List Ar) (v:Int) (up dn:List Int):Prop where
 up:∀w m l,¬G w->Sg es G m v w l->∃k∈up,0<=k/\k<A.length/\(gi A k).to=w/\(gi A k).md=m/\(gi A k).co<=atC es l
 dn:∀u m l,¬G u->u≠v->Sg es G m u v l->∃k∈dn,0<=k/\k<A.length/\(gi A k).fr=u/\(gi A k).md=m/\(gi A k).co<=atC es l
structure Grows (A A':List Ar):Prop where
 le:A.length<=A'.length
 eq:∀k:Int,0<=k->k<A.length->gi A' k=gi A k
theorem StgL.grow {es:List E}{G:Int->Prop}{A A':List Ar}{v:Int}{up dn:List Int}(s:StgL es G A v up dn)(g:Grows A A'):StgL es G A' v up dn:=by
 have:=g.le
 refine ⟨fun w m l h1 h2=>?_,fun u m l h1 h2 h3=>?_⟩
 ·obtain ⟨k,k1,k2,k3,k4⟩:=s.up w m l h1 h2
  exact ⟨k,k1,k2,oM,by rw[g.eq k k2 k3]; exact k4⟩
 ·obtain ⟨k,k1,k2,k3,k4⟩:=s.dn u m l h1 h2 h3
  exact ⟨k,k1,k2,oM,by rw[g.eq k k2 k3]; exact k4⟩
structure LI (c:WC) (vs:List Int) (i:Nat) (s:WS):Prop where
 ci:CI c.es c.N (fun x=>x∈vs.take i) s.A s.C
 lg:s.g.length=c.N
 gg:∀x:Int,0<=x->x<c.N->(gi s.g x=true↔x∈vs.take i)
 la:s.A.length<=50000+i*250000
 lr:s.rk.length=c.N
 rU:∀v:Int,0<=v->v<c.N->(gi s.Up v).length<=5*c.N/\∀k∈gi s.Up v,0<=k/\k<s.A.length/\(gi s.A k).fr=v
 rD:∀v:Int,0<=v->v<c.N->(gi s.Dn v).length<=5*c.N/\∀k∈gi s.Dn v,0<=k/\k<s.A.length/\(gi s.A k).to=v
 st:∀(a b:List Int) (v:Int),vs.take i=a++v::b->StgL c.es (fun x=>x∈a) s.A v (gi s.Up v) (gi s.Dn v)
structure OrdOk (c:WC) (vs:List Int):Prop where
 nd:vs.Nodup
 mem:∀v∈vs,0<=v/\v<c.N/\OneM c.es v
 len:vs.length<=c.N
section
variable {c:WC} {vs:List Int} {i:Nat} {s:WS} {v:Int}
abbrev upL (c:WC)(s:WS)(v:Int):List Int:=pkTo (outF c s v) (gonF s) c.N
abbrev dnL (c:WC)(s:WS)(v:Int):List Int:=pkTo (inF c s v) (gonV s v) c.N
theorem LI.cu (l:LI c vs i s)(hb:s.A.length<=1000000000):CuOk c s:=fun u w m u0 u1 w0 w1 m0 m1=>by
 have:=l.ci.cur u w m u0 u1 w0 w1 m0 m1
 exact ⟨this.1,oM⟩
theorem LI.ud (l:LI c vs i s)(v0:0<=v)(v1:v<c.N):UD c.N (fun x=>x∈vs.take i) v s.A s.C (upL c s v) (dnL c s v):=by
 refine ⟨fun w m w0 w1 m0 m1 hw h=>b1a.2 ⟨w,m,w0,w1,m0,m1,h,?_,rfl⟩,fun u m u0 u1 m0 m1 hu huv h=>b1a.2 ⟨u,m,u0,u1,m0,m1,h,?_,rfl⟩⟩
 ·show gi s.g w=false
  cases hq:gi s.g w with
  |false=>rfl
  |true=>exact absurd ((l.gg w w0 w1).1 hq) hw
 ·show (gi s.g u || decide (u=v))=false
  cases hq:gi s.g u with
  |false=>simp[huv]
  |true=>exact absurd ((l.gg u u0 u1).1 hq) hu
theorem LI.rows (l:LI c vs i s)(v0:0<=v)(v1:v<c.N):RowsUD (fun x=>x∈vs.take i) v s.A (upL c s v) (dnL c s v):=by
 refine ⟨fun k hk=>?_,fun k hk=>?_⟩
 ·obtain ⟨u,m,u0,u1,m0,m1,h1,h2,rfl⟩:=b1a.1 hk
  obtain ⟨c1,c2,c3⟩:=l.ci.cur v u m v0 v1 u0 u1 m0 m1
  obtain ⟨d1,d2,d3⟩:=c3 h1
  refine ⟨by show 0<=Gm.AQ.cu _ _ _ _ _-1; have:0<Gm.AQ.cu c.N s.C v u m:=h1; omega,by show Gm.AQ.cu c.N s.C v u m-1<_; omega,d1,?_⟩
  show ¬(gi s.A (Gm.AQ.cu c.N s.C v u m-1)).to∈_
  rw[d2]
  intro q
  have:=(l.gg u u0 u1).2 q
  have h2':gi s.g u=false:=h2
  rw[this] at h2'
  cases h2'
 ·obtain ⟨u,m,u0,u1,m0,m1,h1,h2,rfl⟩:=b1a.1 hk
  obtain ⟨c1,c2,c3⟩:=l.ci.cur u v m u0 u1 v0 v1 m0 m1
  obtain ⟨d1,d2,d3⟩:=c3 h1
  refine ⟨by show 0<=Gm.AQ.cu _ _ _ _ _-1; have:0<Gm.AQ.cu c.N s.C u v m:=h1; omega,by show Gm.AQ.cu c.N s.C u v m-1<_; omega,d2,?_⟩
  show ¬(gi s.A (Gm.AQ.cu c.N s.C u v m-1)).fr∈_
  rw[d1]
  intro q
  have:=(l.gg u u0 u1).2 q
  have h2':(gi s.g u || decide (u=v))=false:=h2
  rw[this] at h2'
  cases h2'
theorem LI.next (ok:c.Ok)(oo:OrdOk c vs)(l:LI c vs i s)(hv:vs[i]?=some v)(lu:s.Up.length=c.N)(ld:s.Dn.length=c.N){A:List Ar}{C:List Int}(cj:CJ c.es c.N (fun x=>x∈vs.take i) v s.A s.C (Prs (dnL c s v) (upL c s v) (dnL c s v).length 0) A C)(la:A.length<=s.A.length+(dnL c s v).length*(upL c s v).length){s1 sR:AV}{o1 oR:Nat}{rk:List Int}{us ds:List AV}(hrk:rk.length=c.N):LI c vs (i+1) ⟨s1,o1,sR,oR,A,C,s.g.set v.toNat true,rk,us,ds,s.Up.set v.toNat (upL c s v),s.Dn.set v.toNat (dnL c s v)⟩:=by
 obtain ⟨v0,v1,v2⟩:=oo.mem v (List.mem_of_getElem? hv)
 have htk:vs.take (i+1)=vs.take i++[v]:=a3O hv
 have hnv:v ∉ vs.take i:=by
  have h1:=oo.nd
  rw[<-List.take_append_drop (i+1) vs,htk,List.nodup_append] at h1
  have h2:=(List.nodup_append.1 h1.1).2.2
  exact fun q=>h2 v q v (by simp) rfl
 have hG:(fun x=>x∈vs.take (i+1))=fun x=>x∈vs.take i\/x=v:=by funext x; rw[htk]; simp
 have hn:=ok.n
 have lu1:(upL c s v).length<=5*c.N:=a3P (f:=outF c s v) (g:=gonF s) c.N
 have ld1:(dnL c s v).length<=5*c.N:=a3P (f:=inF c s v) (g:=gonV s v) c.N
 have hm:(dnL c s v).length*(upL c s v).length<=500*500:=Nat.mul_le_mul oM oM
 have gr:Grows s.A A:=⟨cj.le,fun k k0 k1=>cj.pre k k0 k1⟩
 have rows:=l.rows v0 v1
 have ud:=l.ud v0 v1
 refine ⟨?_,by show (s.g.set _ _).length=_; rw[List.length_set]; exact l.lg,fun x x0 x1=>?_,by have:=l.la; show A.length<=_; omega,hrk,fun u u0 u1=>?_,fun u u0 u1=>?_,fun a b w hab=>?_⟩
 ·rw[hG]
  refine cj.done ok.no ok.co l.ci hnv ud fun a ha b hb=>?_
  obtain ⟨p,hp⟩:=List.getElem?_of_mem ha
  obtain ⟨q,hq⟩:=List.getElem?_of_mem hb
  exact ⟨p,q,hp,hq,.inl (List.getElem?_eq_some_iff.1 hp).1⟩
 ·show gi (s.g.set v.toNat true) x=true↔_
  rw[w3_ v0 (by rw[l.lg]; exact v1) x0,htk,List.mem_append,List.mem_singleton]
  by_cases q:x=v
  ·rw[if_pos q]; simp[q]
  ·rw[if_neg q]; simp[q,l.gg x x0 x1]
 ·show (gi (s.Up.set v.toNat (upL c s v)) u).length<=_/\∀k∈gi (s.Up.set v.toNat (upL c s v)) u,_
  rw[w3_ v0 (by rw[lu]; exact v1) u0]
  split
  ·rename_i q
   subst q
   refine ⟨lu1,fun k hk=>?_⟩
   obtain ⟨k0,k1,k2,_⟩:=rows.up k hk
   refine ⟨k0,by have:=gr.le; show k<A.length; omega,?_⟩
   show (gi A k).fr=_
   rw[gr.eq k k0 k1]; exact k2
  ·obtain ⟨h1,h2⟩:=l.rU u u0 u1
   refine ⟨h1,fun k hk=>?_⟩
   obtain ⟨k0,k1,k2⟩:=h2 k hk
   refine ⟨k0,by have:=gr.le; show k<A.length; omega,?_⟩
   show (gi A k).fr=_
   rw[gr.eq k k0 k1]; exact k2
 ·show (gi (s.Dn.set v.toNat (dnL c s v)) u).length<=_/\∀k∈gi (s.Dn.set v.toNat (dnL c s v)) u,_
  rw[w3_ v0 (by rw[ld]; exact v1) u0]
  split
  ·rename_i q
   subst q
   refine ⟨ld1,fun k hk=>?_⟩
   obtain ⟨k0,k1,k2,_⟩:=rows.dn k hk
   refine ⟨k0,by have:=gr.le; show k<A.length; omega,?_⟩
   show (gi A k).to=_
   rw[gr.eq k k0 k1]; exact k2
  ·obtain ⟨h1,h2⟩:=l.rD u u0 u1
   refine ⟨h1,fun k hk=>?_⟩
   obtain ⟨k0,k1,k2⟩:=h2 k hk
   refine ⟨k0,by have:=gr.le; show k<A.length; omega,?_⟩
   show (gi A k).to=_
   rw[gr.eq k k0 k1]; exact k2
 ·show StgL c.es (fun x=>x∈a) A w (gi (s.Up.set v.toNat (upL c s v)) w) (gi (s.Dn.set v.toNat (dnL c s v)) w)
  have hw:w∈vs:=List.mem_of_mem_take (show w∈vs.take (i+1) by rw[hab]; simp)
  have hw0:=oo.mem w hw
  rw[w3_ v0 (by rw[lu]; exact v1) hw0.1,w3_ v0 (by rw[ld]; exact v1) hw0.1]
  rw[htk] at hab
  rcases List.eq_nil_or_concat b with rfl|⟨b',z,rfl⟩
  ·obtain ⟨h1,h2⟩:=List.append_inj' hab (by simp)
   injection h2 with h2 _
   subst h2
   rw[if_pos rfl,if_pos rfl,<-h1]
   refine StgL.grow ⟨fun w m l' hw h=>l.ci.stU ok.no hnv ud hw h,fun u m l' hu huv h=>l.ci.stD ok.no hnv ud hu huv h⟩ gr
  ·rw[List.concat_eq_append,<-List.cons_append,<-List.append_assoc] at hab
   obtain ⟨h1,h2⟩:=List.append_inj' hab (by simp)
   have hwv:w≠v:=fun q=>hnv (by rw[h1,q]; simp)
   rw[if_neg hwv,if_neg hwv]
   exact (l.st a b' w h1).grow gr
end
end Go.Gm.AQ
namespace Go.Gm.AQ
open Go Go.Gm
section
variable {c:WC} {vs:List Int} {lo n1 t2:AV}
theorem Gr.inn {c:WC}{s:WS}{h h':Heap}(w:WV c s h){b:Nat}(hb:h.length<=b){x:AV}{xs:List Int}(g:Gr b h'.length h' 1 x (xs.map encI)):Inn c h' s.sA s.oA s.sR s.oR x xs:=by
 obtain ⟨o,p,g'⟩:=g.point
 have lb:=w.lb
 exact ⟨o,g',fun q=>⟨by have:=p q; omega,(p q).2.2,fun z=>by have:=p q; have:=w.pA z; omega,fun z=>by have:=p q; have:=w.pR z; omega⟩⟩
theorem c4X (ok:c.Ok)(oo:OrdOk c vs){Q:AV->Heap->Prop}(hQ:∀s h,WV c s h->LI c vs vs.length s->WP (fun k:Nat=>a1i k n1 t2 (.ptr c.oW 0 8 0) h) Q) :
  ∀(d i:Nat) (s:WS) (h:Heap),i+d=vs.length->WV c s h->LI c vs i s->Inn c h s.sA s.oA s.sR s.oR lo vs->
   WP (fun p:Nat × Nat=>v0_ p.1 p.2 n1 t2 (.ptr c.oW 0 8 0) lo (I i) h) Q:=by
 have hn:=ok.n
 have hvl:=oo.len
 intro d
 induction d with
 |zero=>
  intro i s h hd w l nl
  refine WP.rnd (fun i j=>a2Q i j ..) ?_
  obtain ⟨ol,gl,pl⟩:=nl
  obtain rfl:i=vs.length:=oM
  refine g1 gl.sl.lenG ?_
  exact WP.lv (hQ s h w l) fun i j=>rfl
 |succ d ih=>
  intro i s h hd w l nl
  refine WP.rnd (fun i j=>a2Q i j ..) ?_
  obtain ⟨ol,gl,pl⟩:=id nl
  have hiv:(i:Int)<vs.length:=oM
  have ldv:=gl.sl.ld0 (H:=h) (i:=(i:Int)) (Ext.refl _) oM hiv oM
  obtain ⟨v,hv⟩:∃v,gi vs (i:Int)=v:=⟨_,rfl⟩
  rw[hv] at ldv
  replace ldv:Gm.ld1 h (elP 1 lo (i:Int))=some (I v):=ldv
  obtain ⟨v0,v1,_⟩:=oo.mem v (hv▸b7_ oM hiv)
  have hvi:vs[i]?=some v:=by
   have:=c1_ (xs:=vs) (i:=(i:Int)) oM hiv
   rw[Int.toNat_natCast,hv] at this; exact this
  have r0:=w.row
  have gR:=w.gR.sl
  have hrk:v<s.rk.length:=by rw[l.lr]; exact v1
  obtain ⟨h1,k1,k2,k3,k4⟩:=w.gR.write0 (i:=v) (v:=I (i:Int)) v0 (by simpa using hrk) rfl rfl
  have hnR:s.sR≠.nils:=w.gR.nnil (by intro q; have:=congrArg List.length q; simp at this; rw[this] at hrk; simp at hrk; omega)
  have w1:=w.setR ok hnR (rk':=s.rk.set v.toNat (i:Int)) (k3.s.mono fun o _ z=>oM) (k2.cong (by rw[List.map_set]; rfl))
  have fR:FrS (fun o=>o=s.oR) h h1:=k3.s.mono fun o _ z=>oM
  have pR:=w.pR hnR
  have nl1:Inn c h1 s.sA s.oA s.sR s.oR lo vs:=nl.keep fR fun o _ _ h3 h4=>⟨h4 hnR,h3,h4⟩
  refine g5 gl.sl.lenG gl.sl.idxG @ldv @r0 gR.idxG ?_
  rw[k1]
  simp -implicitDefEqProofs (disch:=first|assumption|omega|(simp only[gL,gA]<;>omega)|fail) only[gC,reduceIte]
  have hla:=l.la
  have hAb:s.A.length<=50000000:=oM
  refine WP.call (b5a ok w1 l.ci.len l.lg (l.cu oM) v0 v1) ?_
  rintro ru h2 ⟨e2,g2⟩
  have w2:=w1.ext ok e2
  refine WP.call (c1B ok w2 l.ci.len l.lg (l.cu oM) v0 v1) ?_
  rintro rd h3 ⟨e3,g3⟩
  have w3:=w2.ext ok e3
  have iu:Inn c h3 s.sA s.oA s.sR s.oR ru (upL c s v):=(Gr.inn w1 (Nat.le_refl _) g2).keep (FrS.ofExt (D:=fun _=>False) e3) fun o _ _ q1 q2=>⟨fun q=>q,q1,q2⟩
  have id':Inn c h3 s.sA s.oA s.sR s.oR rd (dnL c s v):=Gr.inn w2 (Nat.le_refl _) g3
  have nl3:Inn c h3 s.sA s.oA s.sR s.oR lo vs:=nl1.keep (FrS.ofExt (D:=fun _=>False) (e2.trans e3)) fun o _ _ q1 q2=>⟨fun q=>q,q1,q2⟩
  have r3:=w3.row
  have lU:=w.lU
  have hvU:v<s.us.length:=by rw[lU.1]; exact v1
  have hvD:v<s.ds.length:=by rw[lU.2.1]; exact v1
  have cu1:=g2.sl.cells
  have ou1:=g2.sl.one
  have cd1:=g3.sl.cells
  have od1:=g3.sl.one
  obtain ⟨h4,a1,a2,a3,a4⟩:=w3.gU.write0 (i:=v) (v:=ru) v0 (by simpa using hvU) (by rw[cu1]; rfl) (by rw[cu1]; simp[ou1])
  have f4:FrS (fun o=>o=c.oU) h3 h4:=a3.s.mono fun o _ z=>oM
  have t:=ok.t
  have w4:=w3.setU ok v0 v1 (r:=ru) (xs:=upL c s v) f4 (a2.cong (by rw[List.map_set,cu1]; rfl)) iu
  have kU:∀{x:AV} {xs:List Int},Inn c h3 s.sA s.oA s.sR s.oR x xs->Inn c h4 s.sA s.oA s.sR s.oR x xs:=fun hx=>hx.keep f4 fun o q1 _ q3 q4=>⟨oM,q3,q4⟩
  obtain ⟨h5,b1,b2,b3,b4⟩:=w4.gD.write0 (i:=v) (v:=rd) v0 (by simpa using hvD) (by rw[cd1]; rfl) (by rw[cd1]; simp[od1])
  have f5:FrS (fun o=>o=c.oD) h4 h5:=b3.s.mono fun o _ z=>oM
  have w5:=w4.setD ok v0 v1 (r:=rd) (xs:=dnL c s v) f5 (b2.cong (by rw[List.map_set,cd1]; rfl)) (kU id')
  have kD:∀{x:AV} {xs:List Int},Inn c h4 s.sA s.oA s.sR s.oR x xs->Inn c h5 s.sA s.oA s.sR s.oR x xs:=fun hx=>hx.keep f5 fun o q1 _ q3 q4=>⟨oM,q3,q4⟩
  have gU3:=w3.gU.sl
  have gD3:=w3.gD.sl
  simp -implicitDefEqProofs (disch:=first|assumption|omega|(simp only[gL,gA]<;>omega)|fail) only[gC,reduceIte,r3,gU3.idxG,gD3.idxG]
  rw[a1]
  refine g0 ?_
  rw[b1]
  simp -implicitDefEqProofs (disch:=first|assumption|omega|(simp only[gL,gA]<;>omega)|fail) only[gC,reduceIte]
  have hnv:¬v∈vs.take i:=by
   have h1:=oo.nd
   rw[<-List.take_append_drop (i+1) vs,a3O hvi,List.nodup_append] at h1
   have h2:=(List.nodup_append.1 h1.1).2.2
   exact fun q=>h2 v q v (by simp) rfl
  have hul:(upL c s v).length<=5*c.N:=a3P (f:=outF c s v) (g:=gonF s) c.N
  have hdl:(dnL c s v).length<=5*c.N:=a3P (f:=inF c s v) (g:=gonV s v) c.N
  refine WP.ent (c4W (s0:=⟨s.sA,s.oA,s.sR,s.oR,s.A,s.C,s.g,s.rk.set v.toNat (i:Int),s.us.set v.toNat ru,s.ds.set v.toNat rd,s.Up.set v.toNat (upL c s v),s.Dn.set v.toNat (dnL c s v)⟩) (vs:=vs) ok l.ci hnv (l.rows v0 v1) hAb hul hdl (fun s1 o1 A C h6 ki=>?_) (dnL c s v).length 0 s.sA s.oA s.A s.C h5 oM ⟨w5,kD (kU nl3),kD (kU iu),kD (kU id'),l.ci.start.mono fun i j ⟨p,q,_,_,z⟩=>oM,by simp⟩) fun i=>rfl
  refine WP.congr (fun i=>a7D i.1 i.2 ..) ?_
  have w6:=ki.w
  have r6:=w6.row
  have gG6:=w6.gG.sl
  have hvg:v<s.g.length:=by rw[l.lg]; exact v1
  obtain ⟨h7,c1,c2,c3,c4⟩:=w6.gG.write0 (i:=v) (v:=.bool true) v0 (by simpa using hvg) rfl rfl
  have f7:FrS (fun o=>o=c.oG) h6 h7:=c3.s.mono fun o _ z=>oM
  have w7:=w6.setG ok (g':=s.g.set v.toNat true) f7 (c2.cong (by rw[List.map_set]; rfl))
  simp -implicitDefEqProofs (disch:=first|assumption|omega|(simp only[gL,gA]<;>omega)|fail) only[gC,reduceIte,r6,gG6.idxG]
  rw[c1]
  refine g0 ?_
  refine WP.congr (fun i=>a7C i.1 i.2 ..) ?_
  refine g0 ?_
  refine ih (i+1) _ h7 oM w7 ?_ (ki.nl.keep f7 fun o q1 _ q3 q4=>⟨oM,q3,q4⟩)
  exact l.next ok oo hvi lU.2.2.1 lU.2.2.2 ki.cj (by have:=ki.la; show A.length<=_; exact this) (by show (s.rk.set _ _).length=_; rw[List.length_set]; exact l.lr)
end
end Go.Gm.AQ
namespace Go.Gm.AQ
open Go Go.Gm
structure IxV (h:Heap) (r:AV) (N:Nat) (es:List E) (A:List Ar) (Up Dn:List (List Int)):Prop where
 ex:∃sE sR sA sU sD us ds,r=.agg [I N,sE,sR,sA,sU,sD]/\Sl h 4 sE (es.map encE)/\sR.one=true/\Sl h 7 sA (A.map encA)/\Sl h 1 sU (us.map one1)/\Sl h 1 sD (ds.map one1)/\us.length=N/\ds.length=N/\
  (∀v:Int,0<=v->v<N->Sl h 1 (gi us v) ((gi Up v).map encI))/\(∀v:Int,0<=v->v<N->Sl h 1 (gi ds v) ((gi Dn v).map encI))
theorem IxV.ext {h h':Heap}{r:AV}{N:Nat}{es:List E}{A:List Ar}{Up Dn:List (List Int)}(x:IxV h r N es A Up Dn)(e:Ext h h'):IxV h' r N es A Up Dn:=by
 obtain ⟨sE,sR,sA,sU,sD,us,ds,h1,h2,h3,h4,h5,h6,h7,h8,h9,h10⟩:=x.ex
 exact ⟨sE,sR,sA,sU,sD,us,ds,h1,h2.ext e,h3,h4.ext e,h5.ext e,h6.ext e,h7,h8,fun v v0 v1=>(h9 v v0 v1).ext e,fun v v0 v1=>(h10 v v0 v1).ext e⟩
def UpA (N:Nat)(A:List Ar)(Up:List (List Int))(v w m co:Int):Prop:=0<=v/\v<N/\∃k∈gi Up v,0<=k/\k<A.length/\(gi A k).to=w/\(gi A k).md=m/\(gi A k).co=co
def DnA (N:Nat)(A:List Ar)(Dn:List (List Int))(v u m co:Int):Prop:=0<=v/\v<N/\∃k∈gi Dn v,0<=k/\k<A.length/\(gi A k).fr=u/\(gi A k).md=m/\(gi A k).co=co
structure IxS (LL N:Nat) (es:List E) (A:List Ar) (Up Dn:List (List Int)):Prop where
 la:A.length<=50000000
 lu:Up.length=N/\Dn.length=N
 arc:∀k a,A[k]?=some a->AOk N a/\∃l,Unp A k l/\Sg es (fun _=>True) a.md a.fr a.to l/\atC es l=a.co/\l.length<=LL
 rU:∀v:Int,0<=v->v<N->(gi Up v).length<=50000000/\∀k∈gi Up v,0<=k/\k<A.length/\(gi A k).fr=v
 rD:∀v:Int,0<=v->v<N->(gi Dn v).length<=50000000/\∀k∈gi Dn v,0<=k/\k<A.length/\(gi A k).to=v
structure IxC (N:Nat) (es:List E) (A:List Ar) (Up Dn:List (List Int)):Prop extends IxS (N+1) N es A Up Dn where
 cmp:∃vs:List Int,vs.Nodup/\(∀x∈vs,OneM es x)/\(∀(a b:List Int) (v:Int),vs=a++v::b->Stg es (fun x=>x∈a) (UpA N A Up) (DnA N A Dn) v)/\
  (∀v w m l,¬v∈vs->¬w∈vs->Sg es (fun x=>x∈vs) m v w l->∃co,UpA N A Up v w m co/\co<=atC es l)
section
variable {c:WC} {s:WS} {h h':Heap}
theorem WV.addR (w:WV c s h)(ok:c.Ok)(hA:s.sA=.nils){x:Int}{s':AV}{o':Nat}(f:FrS (fun p=>s.sR≠.nils/\p=s.oR) h h')(g:Gr o' (o'+1) h' 1 s' ((s.rk++[x]).map encI))(q:s'≠.nils->((o'=s.oR/\s.sR≠.nils)\/h.length<=o')/\o'<h'.length) :
  h'[c.oW]?=some (.cells ⟨[I c.N,c.sE,s.sR,s.sA,c.sU,c.sD,c.sC,c.sG],0,0,false⟩)/\WV c { s with sR:=s',oR:=o',rk:=s.rk++[x] } (h'.set c.oW (.cells ⟨[I c.N,c.sE,s',s.sA,c.sU,c.sD,c.sC,c.sG],0,0,false⟩)):=by
 have l:=f.len
 have lb:=w.lb
 have hl:=w.eb.len
 have b:=ok.b
 have t:=ok.t
 have d:=ok.d
 have pr:=w.pR
 have nA:∀o,(s.sR≠.nils->o≠s.oR)->¬(s.sR≠.nils/\o=s.oR):=fun o h1 h2=>h1 h2.1 h2.2
 have rw':h'[c.oW]?=_:=(f.get (nA _ fun q=>by have:=pr q; omega) oM).trans w.row
 have f2:=(f.mono (D':=fun p=>(s.sR≠.nils/\p=s.oR)\/p=c.oW) fun _ _ z=>.inl z).trans ((FrS.set1 h' c.oW (.cells ⟨[I c.N,c.sE,s',s.sA,c.sU,c.sD,c.sC,c.sG],0,0,false⟩)).mono fun _ _ z=>.inr z)
 have nB:∀o,(s.sR≠.nils->o≠s.oR)->o≠c.oW->¬((s.sR≠.nils/\o=s.oR)\/o=c.oW):=fun o h1 h2 h3=>h3.elim (nA o h1) h2
 have nC:∀o,o<c.b1->o≠c.oW->¬((s.sR≠.nils/\o=s.oR)\/o=c.oW):=fun o h1 h2=>nB o (fun q=>by have:=pr q; omega) h2
 have ll:(h'.set c.oW (.cells ⟨[I c.N,c.sE,s',s.sA,c.sU,c.sD,c.sC,c.sG],0,0,false⟩)).length=h'.length:=by simp
 have inn:∀{x:AV} {xs:List Int},Inn c h s.sA s.oA s.sR s.oR x xs->Inn c (h'.set c.oW (.cells ⟨[I c.N,c.sE,s',s.sA,c.sU,c.sD,c.sC,c.sG],0,0,false⟩)) s.sA s.oA s' o' x xs:=fun hx=>hx.keep f2 fun o h1 h2 h3 h4=>⟨nB o h4 oM,h3,fun z=>by
  rcases (q z).1 with ⟨z1,z2⟩|z1
  ·have:=h4 z2; omega
  ·omega⟩
 refine ⟨rw',f2.ext w.eb fun o ho=>nC o oM oM,oM,a0_ oM,w.gE.keep f2 fun _=>nC _ oM oM,w.gA.keep f2 fun z=>absurd hA z,fun z=>absurd hA z,?_,fun z=>⟨?_,by have:=(q z).2; show o'<_; omega,fun z2=>absurd hA z2⟩,
  w.gC.keep f2 fun _=>nC _ oM oM,w.gG.keep f2 fun _=>nC _ oM oM,w.gU.keep f2 fun _=>nC _ oM oM,w.gD.keep f2 fun _=>nC _ oM oM,w.lU,fun v v0 v1=>inn (w.rU v v0 v1),fun v v0 v1=>inn (w.rD v v0 v1)⟩
 ·refine g.keep (FrS.set1 ..) fun z=>?_
  rcases (q z).1 with ⟨z1,z2⟩|z1
  ·have:=pr z2; omega
  ·omega
 ·show c.b1<=o'
  rcases (q z).1 with ⟨z1,z2⟩|z1
  ·have:=pr z2; omega
  ·omega
theorem c3g (ok:c.Ok){on:Nat}{sE0 t2:AV}(rn:c.hb[on]?=some (.cells ⟨[I c.N,sE0],0,0,false⟩)){Q:AV->Heap->Prop}(hQ:∀s' h',WV c s' h'->s'.sA=.nils->s'.A=[]->s'.C=s.C->s'.g=s.g->s'.Up=s.Up->s'.Dn=s.Dn->s'.rk.length=c.N->WP (fun k:Nat=>a1f k (.ptr on 0 2 0) t2 (.ptr c.oW 0 8 0) h') Q) :
  ∀(d n:Nat) (s':WS) (h:Heap),n+d=c.N->WV c s' h->s'.sA=.nils->s'.A=[]->s'.C=s.C->s'.g=s.g->s'.Up=s.Up->s'.Dn=s.Dn->s'.rk.length=n->
   WP (fun p:Nat × Nat=>u9_ p.1 p.2 (.ptr on 0 2 0) t2 (.ptr c.oW 0 8 0) (I n) h) Q:=by
 have hn:=ok.n
 intro d
 induction d with
 |zero=>
  intro n s' h hd w q1 q2 q3 q4 q5 q6 q7
  refine WP.rnd (fun i j=>a2R i j ..) ?_
  have rn':=w.eb.get rn
  obtain rfl:n=c.N:=oM
  refine g1 @rn' ?_
  exact WP.lv (hQ s' h w q1 q2 q3 q4 q5 q6 q7) fun i j=>rfl
 |succ d ih=>
  intro n s' h hd w q1 q2 q3 q4 q5 q6 q7
  refine WP.rnd (fun i j=>a2R i j ..) ?_
  have rn':=w.eb.get rn
  have r0:=w.row
  have b:=Gr.lit (h:=h) (sz:=1) (v:=[I (-1)]) rfl
  rw[a3_] at b
  obtain ⟨h2,hh2⟩:∃h2,h2=h++[AObj.cells ⟨[I (-1)],0,0,false⟩]:=⟨_,rfl⟩
  rw[<-hh2] at b
  have e2:Ext h h2:=by rw[hh2]; exact Ext.push _ _
  have w2:=w.ext ok e2
  obtain ⟨s1,h3,o',p1,p2,p3,p4⟩:=w2.gR.appP (fun z=>(w2.pR z).2.1) b.sl oM (bytes:=8) oM (by simp; omega)
  obtain ⟨rw3,w4⟩:=w2.addR ok q1 (x:=-1) p4 (p2.cong (by simp[encI])) p3
  have c1:=p2.sl.cells
  have o1:=p2.sl.one
  have hb:bsl 1 1 h (some [I (-1)])=some (.sl h.length 0 1 1 none 0,h2):=by rw[hh2]; rfl
  have hb2:buildSl 1 1 [AV.int .i64 0] [(0,1,AV.int .i64 (-1))] h=some (.sl h.length 0 1 1 none 0,h2):=by rw[hh2]; rfl
  simp only[hb2]
  simp -implicitDefEqProofs (disch:=first|assumption|omega|(simp only[gL,gA]<;>omega)|fail) only[gC,reduceIte,rn',r0,p1,rw3,c1,o1]
  exact ih (n+1) _ _ oM w4 q1 q2 q3 q4 q5 q6 (by simp[q7])
end
end Go.Gm.AQ
namespace Go.Gm.AQ
open Go Go.Gm
section
variable {c:WC} {s0:WS} {vs:List Int}
theorem c3h (ok:c.Ok)(l:LI c vs vs.length s0)(hvl:vs.length<=100){on:Nat}{sE0 t2:AV}(rn:c.hb[on]?=some (.cells ⟨[I c.N,sE0],0,0,false⟩)){Q:AV->Heap->Prop}(hQ:∀us Up h,WV c { s0 with us:=us,Up:=Up } h->(∀u:Int,0<=u->u<c.N->gi Up u=if gi s0.g u=false then upL c s0 u else gi s0.Up u)->WP (fun k:Nat=>a0E k t2 (.ptr c.oW 0 8 0) h) Q) :
  ∀(d v:Nat) (us:List AV) (Up:List (List Int)) (h:Heap),v+d=c.N->WV c { s0 with us:=us,Up:=Up } h->(∀u:Int,0<=u->u<c.N->gi Up u=if u<v/\gi s0.g u=false then upL c s0 u else gi s0.Up u)->
   WP (fun p:Nat × Nat=>l8_ p.1 p.2 (.ptr on 0 2 0) t2 (.ptr c.oW 0 8 0) (I v) h) Q:=by
 have hn:=ok.n
 intro d
 induction d with
 |zero=>
  intro v us Up h hd w hU
  refine WP.rnd (fun i j=>a2x i j ..) ?_
  have rn':=w.eb.get rn
  obtain rfl:v=c.N:=oM
  refine g1 @rn' ?_
  exact WP.lv (hQ us Up h w fun u u0 u1=>by rw[hU u u0 u1]; simp only[u1,true_and]) fun i j=>rfl
 |succ d ih=>
  intro v us Up h hd w hU
  refine WP.rnd (fun i j=>a2x i j ..) ?_
  have rn':=w.eb.get rn
  have r0:=w.row
  have gG:=w.gG.sl
  have v1:(v:Int)<c.N:=oM
  have hvg:(v:Int)<s0.g.length:=by rw[l.lg]; exact v1
  have ldg:=gG.ld0 (H:=h) (i:=(v:Int)) (Ext.refl _) oM hvg oM
  replace ldg:Gm.ld1 h (elP 1 c.sG (v:Int))=some (.bool (gi s0.g v)):=ldg
  have idg:=gG.idxG (i:=(v:Int)) oM hvg
  cases hg:gi s0.g (v:Int) with
  |true=>
   rw[hg] at ldg
   refine g4 @rn' @r0 @idg @ldg ?_
   refine ih (v+1) us Up h oM w fun u u0 u1=>?_
   rw[hU u u0 u1]
   by_cases q:u=v
   ·subst q; rw[if_neg oM,if_neg (by rw[hg]; simp)]
   ·by_cases q2:u<v/\gi s0.g u=false
    ·rw[if_pos q2,if_pos ⟨oM,q2.2⟩]
    ·rw[if_neg q2,if_neg (fun z=>q2 ⟨oM,z.2⟩)]
  |false=>
   rw[hg] at ldg
   have hla:=l.la
   simp -implicitDefEqProofs (disch:=first|assumption|omega|(simp only[gL,gA]<;>omega)|fail) only[gC,reduceIte,rn',r0,idg,ldg]
   refine WP.call (b5a ok w l.ci.len l.lg (l.cu oM) oM v1) ?_
   rintro ru h2 ⟨e2,g2⟩
   have w2:=w.ext ok e2
   have r2:=w2.row
   have iu:Inn c h2 s0.sA s0.oA s0.sR s0.oR ru (upL c s0 v):=Gr.inn w (Nat.le_refl _) g2
   have lU:=w.lU
   have hvU:(v:Int)<us.length:=by have h0:us.length=c.N:=lU.1; omega
   have cu1:=g2.sl.cells
   have ou1:=g2.sl.one
   obtain ⟨h4,a1,a2,a3,a4⟩:=w2.gU.write0 (i:=(v:Int)) (v:=ru) oM (by simpa using hvU) (by rw[cu1]; rfl) (by rw[cu1]; simp[ou1])
   have f4:FrS (fun o=>o=c.oU) h2 h4:=a3.s.mono fun o _ z=>oM
   have w4:=w2.setU ok (v:=(v:Int)) oM v1 (r:=ru) (xs:=upL c s0 v) f4 (a2.cong (by rw[List.map_set,cu1]; rfl)) iu
   have gU2:=w2.gU.sl
   have idu:=gU2.idxG (i:=(v:Int)) oM hvU
   simp -implicitDefEqProofs (disch:=first|assumption|omega|(simp only[gL,gA]<;>omega)|fail) only[gC,reduceIte,r2,idu]
   rw[a1]
   refine g0 ?_
   refine ih (v+1) _ _ h4 oM w4 fun u u0 u1=>?_
   have lUp:Up.length=c.N:=lU.2.2.1
   rw[w3_ oM oM u0]
   by_cases q:u=v
   ·subst q; rw[if_pos rfl,if_pos ⟨oM,hg⟩]
   ·rw[if_neg q,hU u u0 u1]
    by_cases q2:u<v/\gi s0.g u=false
    ·rw[if_pos q2,if_pos ⟨oM,q2.2⟩]
    ·rw[if_neg q2,if_neg (fun z=>q2 ⟨oM,z.2⟩)]
theorem LI.ixc (ok:c.Ok)(oo:OrdOk c vs)(l:LI c vs vs.length s0)(lu:s0.Up.length=c.N)(ld:s0.Dn.length=c.N){Up:List (List Int)}(hl:Up.length=c.N)(hU:∀u:Int,0<=u->u<c.N->gi Up u=if gi s0.g u=false then upL c s0 u else gi s0.Up u):IxC c.N c.es s0.A Up s0.Dn:=by
 have hn:=ok.n
 have hla:=l.la
 have hvl:=oo.len
 have htk:vs.take vs.length=vs:=List.take_length
 refine ⟨⟨oM,⟨hl,ld⟩,fun k a hk=>?_,fun v v0 v1=>?_,fun v v0 v1=>?_⟩,vs,oo.nd,fun x hx=>(oo.mem x hx).2.2,fun a b v hab=>?_,fun v w m l' hv hw hs=>?_⟩
 ·obtain ⟨h1,l',h2,h3,h4,h5⟩:=ArcG.fit ok.no ok.co hn.2 (l.ci.arc k a hk)
  exact ⟨h1,l',h2,h3.mono fun _ _=>trivial,h4,oM⟩
 ·rw[hU v v0 v1]
  split
  ·have h1:(upL c s0 v).length<=5*c.N:=a3P (f:=outF c s0 v) (g:=gonF s0) c.N
   exact ⟨oM,fun k hk=>by obtain ⟨k0,k1,k2,_⟩:=(l.rows v0 v1).up k hk; exact ⟨k0,k1,k2⟩⟩
  ·obtain ⟨h1,h2⟩:=l.rU v v0 v1
   exact ⟨oM,h2⟩
 ·obtain ⟨h1,h2⟩:=l.rD v v0 v1
  exact ⟨oM,h2⟩
 ·have hm:=oo.mem v (by rw[hab]; simp)
  have st:=l.st a b v (by rw[htk]; exact hab)
  have hgv:gi s0.g v=true:=(l.gg v hm.1 hm.2.1).2 (by rw[htk,hab]; simp)
  have hUv:gi Up v=gi s0.Up v:=by rw[hU v hm.1 hm.2.1,if_neg (by rw[hgv]; simp)]
  refine ⟨fun w m l' hw hs=>?_,fun u m l' hu huv hs=>?_⟩
  ·obtain ⟨k,k1,k2,k3,k4,k5,k6⟩:=st.up w m l' hw hs
   exact ⟨_,⟨hm.1,hm.2.1,k,by rw[hUv]; exact k1,k2,k3,k4,k5,rfl⟩,k6⟩
  ·obtain ⟨k,k1,k2,k3,k4,k5,k6⟩:=st.dn u m l' hu huv hs
   exact ⟨_,⟨hm.1,hm.2.1,k,k1,k2,k3,k4,k5,rfl⟩,k6⟩
 ·have hr:=hs.range ok.no
  have hgv:gi s0.g v=false:=by
   cases hq:gi s0.g v with
   |false=>rfl
   |true=>exact absurd ((l.gg v hr.1.1 hr.1.2).1 hq) (by rw[htk]; exact hv)
  have ci:=l.ci
  rw[htk] at ci
  have ud:=l.ud hr.1.1 hr.1.2
  rw[htk] at ud
  obtain ⟨k,k1,k2,k3,k4,k5,k6⟩:=ci.stU ok.no hv ud hw hs
  exact ⟨_,⟨hr.1.1,hr.1.2,k,by rw[hU v hr.1.1 hr.1.2,if_pos hgv]; exact k1,k2,k3,k4,k5,rfl⟩,k6⟩
end
end Go.Gm.AQ
namespace Go.Gm.AQ
open Go Go.Gm
theorem Gr.place {lo hi sz:Nat}{h:Heap}{s:AV}{xs:List (List AV)}(g:Gr lo hi h sz s xs)(hlt:lo<hi):∃o,lo<=o/\o<hi/\Gr o (o+1) h sz s xs:=by
 by_cases q:s=.nils
 ·subst q
  have:=g.isNil
  subst this
  exact ⟨lo,Nat.le_refl _,hlt,Gr.nil ..⟩
 ·obtain ⟨o,p,g'⟩:=g.point
  have:=p q
  exact ⟨o,this.1,this.2.1,g'⟩
theorem a8J {h:Heap}{N:Nat}{sE0:AV}{es:List E}(hN:1<=N/\N<=100)(no:NetOk N es)(co:COk es)(hs:Sl h 4 sE0 (es.map encE)) :
  Tot tab a6_ [.agg [I N,sE0]] h fun r h'=>Ext h h'/\∃A Up Dn,(∀h2,FrS (fun o=>o<h.length) h' h2->IxV h2 r N es A Up Dn)/\IxC N es A Up Dn:=by
 refine WP.tot (fun k=>a9t k _ h) ?_
 have hz:AV.int .i64 0=I 0:=rfl
 simp only[hz]
 have h0e:=hs.one
 have hlen:=no.len
 obtain ⟨hb,hhb⟩:∃hb,hb=(h++[AObj.cells ⟨[I N,sE0],0,0,false⟩])++[AObj.cells ⟨[I 0,.nils,.nils,.nils,.nils,.nils],0,0,false⟩]:=⟨_,rfl⟩
 have eb:Ext h hb:=by rw[hhb]; exact (Ext.push _ _).app _
 have lb:hb.length=h.length+2:=by rw[hhb]; simp
 have rn:hb[h.length]?=some (.cells ⟨[I N,sE0],0,0,false⟩):=by rw[hhb,m2_ (by simp)]; simp
 have rt:hb[h.length+1]?=some (.cells ⟨[I 0,.nils,.nils,.nils,.nils,.nils],0,0,false⟩):=by rw[hhb,r8_ (by simp)]; simp
 have hNN:N*N<=100*100:=Nat.mul_le_mul hN.2 hN.2
 have hq1:((N:Int)*(N:Int))=((N*N:Nat):Int):=by simp
 have w1:IntKind.i64.wrap ((N:Int)*(N:Int))=((N*N:Nat):Int):=by rw[hq1]; exact d6_ oM oM
 have w2:IntKind.i64.wrap (((N*N:Nat):Int)*5)=((N*N*5:Nat):Int):=by
  rw[d6_ oM oM]; simp
 obtain ⟨sC,h1,c1,c2,c3,c4,c5⟩:=g0_ (zero:=[I 0]) (sz:=1) (bytes:=8) (n:=((N*N*5:Nat):Int)) hb oM oM oM rfl rfl
 obtain ⟨sG,h2,g1,g2,g3,g4,g5⟩:=g0_ (zero:=[.bool false]) (sz:=1) (bytes:=1) (n:=(N:Int)) h1 oM oM oM rfl rfl
 rw[Int.toNat_natCast] at c2 g2
 have hC1:=c2.sl.one
 have hC2:=c2.sl.cells
 have hG1:=g2.sl.one
 have hG2:=g2.sl.cells
 obtain ⟨h3,hh3⟩:∃h3,h3=h2++[AObj.cells ⟨[I 0,.nils,.nils,.nils,.nils,.nils,sC,sG],0,0,false⟩]:=⟨_,rfl⟩
 have e3:Ext h2 h3:=by rw[hh3]; exact Ext.push _ _
 have l3:h3.length=h2.length+1:=by rw[hh3]; simp
 have eh3:Ext hb h3:=(c3.trans g3).trans e3
 have rw3:h3[h2.length]?=some (.cells ⟨[I 0,.nils,.nils,.nils,.nils,.nils,sC,sG],0,0,false⟩):=by rw[hh3]; simp
 obtain ⟨sE,h4,a1,a2,afr⟩:=(Gr.empty h3 4).append (bytes:=32) ((hs.ext (eb.trans eh3)).ext (Ext.push h3 _)) oM oM (by simp; omega) (by simp[mkObj]) (by simp[mkObj])
 rw[List.nil_append] at a2
 have a3:Ext h3 h4:=afr.ext (Ext.push h3 _) (Nat.le_refl _)
 have afl:=afr.len
 rw[a3_,List.length_append,List.length_singleton] at afl
 have hE1:=a2.sl.one
 have hE2:=a2.sl.cells
 have rw4:=a3.get rw3
 have l4:=a3.len
 have rn1:=c3.get rn
 have rn3:=eh3.get rn
 have rn4:=(eh3.trans a3).get rn
 have hmk:∀H:Heap,buildSl 4 0 [] [] H=some (.sl H.length 0 0 4 none 0,mkObj H []):=fun H=>rfl
 have rnm:(h3++[AObj.cells ⟨[],0,0,false⟩])[h.length]?=some (.cells ⟨[I N,sE0],0,0,false⟩):=((eh3.trans (Ext.push h3 _)).get rn)
 rw[a3_] at a1
 simp -implicitDefEqProofs (disch:=first|assumption|omega|(simp only[gL,gA]<;>omega)|fail) only[gC,reduceIte,h0e]
 rw[<-hhb]
 rw[w1,w2,c1]
 have ag:∀x:AV,AV.cells (.agg [I 0,.nils,.nils,.nils,.nils,.nils,sC,sG])=[I 0,.nils,.nils,.nils,.nils,.nils,sC,sG]:=fun _=>rfl
 refine g6 @rn1 @g1 @hC1 @hC2 @hG1 @hG2 ?_
 rw[<-hh3]
 have rn2:=g3.get rn1
 rw[l3] at a1
 refine g6 @rn2 @a1 @hE1 @hE2 @rn4 @rw4 ?_
 obtain ⟨h5,hh5⟩:∃h5,h5=h4.set h2.length (.cells ⟨[I N,sE,.nils,.nils,.nils,.nils,sC,sG],0,0,false⟩):=⟨_,rfl⟩
 have l5:h5.length=h4.length:=by rw[hh5]; simp
 have hl2:h2.length<h4.length:=oM
 have rw5:h5[h2.length]?=some (.cells ⟨[I N,sE,.nils,.nils,.nils,.nils,sC,sG],0,0,false⟩):=by rw[hh5]; exact a0_ hl2
 rw[<-hh5]
 have e5:Ext hb h5:=by rw[hh5]; exact ((eh3.trans a3).setr (by have:=c3.len; have:=g3.len; omega) _)
 have rn5:=e5.get rn
 obtain ⟨sU,h6,u1,u2,u3,u4,u5⟩:=g0_ (zero:=[.nils]) (sz:=1) (bytes:=24) (n:=(N:Int)) h5 oM oM oM rfl rfl
 obtain ⟨sD,h7,d1,d2,d3,d4,d5⟩:=g0_ (zero:=[.nils]) (sz:=1) (bytes:=24) (n:=(N:Int)) h6 oM oM oM rfl rfl
 rw[Int.toNat_natCast] at u2 d2
 have hU1:=u2.sl.one
 have hU2:=u2.sl.cells
 have hD1:=d2.sl.one
 have hD2:=d2.sl.cells
 have rn6:=u3.get rn5
 have rn7:=d3.get rn6
 have rw7:=d3.get (u3.get rw5)
 refine g9 @u1 @d1 @rn6 @rn7 @rw7 @hU1 @hU2 @hD1 @hD2 ?_
 obtain ⟨h9,hh9⟩:∃h9,h9=(h7.set h2.length (.cells ⟨[I N,sE,.nils,.nils,sU,.nils,sC,sG],0,0,false⟩)).set h2.length (.cells ⟨[I N,sE,.nils,.nils,sU,sD,sC,sG],0,0,false⟩):=⟨_,rfl⟩
 rw[<-hh9]
 have l1':h1.length=h.length+3:=oM
 have l2':h2.length=h.length+4:=oM
 have l9:h9.length=h4.length+2:=by rw[hh9]; simp; omega
 have f79:FrS (fun o=>o=h2.length) h7 h9:=by rw[hh9]; exact (FrS.set1 ..).trans (FrS.set1 ..)
 have f45:FrS (fun o=>o=h2.length) h4 h5:=by rw[hh5]; exact FrS.set1 ..
 have f47:FrS (fun o=>o=h2.length) h4 h7:=f45.trans (FrS.ofExt (u3.trans d3))
 have f49:FrS (fun o=>o=h2.length) h4 h9:=f47.trans f79
 obtain ⟨oE,pE1,pE2,gE⟩:=Gr.place a2 oM
 obtain ⟨c,hc⟩:∃c:WC,c=⟨hb,h9.length,h2.length,oE,hb.length,h1.length,h5.length,h6.length,N,es,sE,sU,sD,sC,sG⟩:=⟨_,rfl⟩
 have cok:c.Ok:=by
  subst hc
  exact ⟨hN,no,co,⟨by (try simp only); omega,by (try simp only); omega,by (try simp only); omega,by (try simp only); omega,by (try simp only); omega,by (try simp only); omega⟩,⟨by (try simp only); omega,by (try simp only); omega,by (try simp only); omega,by (try simp only); omega,by (try simp only); omega,by (try simp only); omega⟩,
   ⟨by (try simp only); omega,by (try simp only); omega,by (try simp only); omega,by (try simp only); omega,by (try simp only); omega,by (try simp only); omega,by (try simp only); omega,by (try simp only); omega,by (try simp only); omega,by (try simp only); omega,by (try simp only); omega,by (try simp only); omega,by (try simp only); omega,by (try simp only); omega,by (try simp only); omega⟩⟩
 obtain ⟨s,hs0⟩:∃s:WS,s=⟨.nils,0,.nils,0,[],List.replicate (N*N*5) 0,List.replicate N false,[],List.replicate N .nils,List.replicate N .nils,List.replicate N [],List.replicate N []⟩:=⟨_,rfl⟩
 have inn:∀v:Int,0<=v->v<N->Inn c h9 s.sA s.oA s.sR s.oR (gi (List.replicate N AV.nils) v) (gi (List.replicate N ([]:List Int)) v):=fun v v0 v1=>by
  rw[w2_ v0 v1,w2_ v0 v1]
  exact ⟨0,Gr.nil ..,fun z=>absurd rfl z⟩
 have w:WV c s h9:=by
  subst hc hs0
  have e9:Ext hb h9:=f79.ext ((e5.trans u3).trans d3) fun o ho=>oM
  refine ⟨e9,Nat.le_refl _,by rw[hh9]; exact a0_ (by simp; omega),gE.keep f49 fun _=>by (try simp only); omega,Gr.nil ..,fun z=>absurd rfl z,Gr.nil ..,fun z=>absurd rfl z,?_,?_,?_,?_,⟨by simp,by simp,by simp,by simp⟩,inn,inn⟩
  ·exact ((c2.ext ((g3.trans e3).trans a3)).keep f49 fun _=>by (try simp only); omega).cong (by simp[encI])
  ·exact ((g2.ext (e3.trans a3)).keep f49 fun _=>by (try simp only); omega).cong (by simp[encB])
  ·exact ((u2.ext d3).keep f79 fun _=>by (try simp only); omega).cong (by simp[one1])
  ·exact (d2.keep f79 fun _=>by (try simp only); omega).cong (by simp[one1])
 have hcN:c.N=N:=by rw[hc]
 have hces:c.es=es:=by rw[hc]
 have hcW:c.oW=h2.length:=by rw[hc]
 have hchb:c.hb=hb:=by rw[hc]
 rw[<-hcW]
 have rnc:c.hb[h.length]?=some (.cells ⟨[I c.N,sE0],0,0,false⟩):=by rw[hchb,hcN]; exact rn
 refine WP.ent (c3g (s:=s) cok rnc (t2:=.ptr (h.length+1) 0 6 0) (fun s1 hA w1 q1 q2 q3 q4 q5 q6 q7=>?_) N 0 s h9 oM w (by rw[hs0]) (by rw[hs0]) rfl rfl rfl rfl (by rw[hs0]; rfl)) fun i=>rfl
 refine WP.congr (fun i=>a7F i ..) ?_
 refine WP.call (b9S cok w1 q1 q2 (by rw[q3,hs0,hcN])) ?_
 rintro _ hB ⟨rfl,sA,oA,A,C,w2,fB,pB,ci,laB⟩
 have rnB:=w2.eb.get rnc
 have hsB:Sl hB 4 sE0 (c.es.map encE):=by rw[hces]; exact hs.ext (eb.trans (hchb▸w2.eb))
 simp -implicitDefEqProofs (disch:=first|assumption|omega|(simp only[gL,gA]<;>omega)|fail) only[gC,reduceIte,rnB]
 refine WP.call (b8X cok.no (by omega) hsB) ?_
 rintro lo hO ⟨eO,gO⟩
 obtain ⟨vs,hvs⟩:∃vs,vs=ordTo c.es c.N (2*c.es.length+1):=⟨_,rfl⟩
 rw[<-hvs] at gO
 have oo:OrdOk c vs:=by
  have nd:=(b2Y (es:=c.es) (N:=c.N) (2*c.es.length+1)).1
  rw[<-hvs] at nd
  have hm:∀v∈vs,0<=v/\v<c.N/\linkB c.es v=false:=fun v hv=>b9V (by rw[<-hvs]; exact hv)
  exact ⟨nd,fun v hv=>⟨(hm v hv).1,(hm v hv).2.1,c1D cok.no (hm v hv).2.2⟩,b6c c.N vs nd fun v hv=>⟨(hm v hv).1,(hm v hv).2.1⟩⟩
 have w3:=w2.ext cok eO
 have li:LI c vs 0 { s1 with sA:=sA,oA:=oA,A:=A,C:=C }:=by
  have hrep:∀v:Int,0<=v->v<c.N->gi (List.replicate N ([]:List Int)) v=[]:=fun v v0 v1=>w2_ v0 (by rw[<-hcN]; exact v1)
  have h5:c.N*c.N*5<=50000:=Nat.mul_le_mul_right 5 (Nat.mul_le_mul (by omega:c.N<=100) (by omega:c.N<=100))
  refine ⟨by rw[List.take_zero]; have e:(fun x:Int=>x∈([]:List Int))=fun _=>False:=by { funext x; simp }; rw[e]; exact ci,by show s1.g.length=_; rw[q4,hs0,hcN]; simp,fun x x0 x1=>?_,by show A.length<=_; omega,q7,fun v v0 v1=>?_,fun v v0 v1=>?_,fun a b v hab=>by rw[List.take_zero] at hab; cases a<;>cases hab⟩
  ·show gi s1.g x=true↔_
   rw[q4,hs0]
   show gi (List.replicate N false) x=true↔_
   rw[w2_ x0 oM]; simp
  ·show (gi s1.Up v).length<=_/\∀k∈gi s1.Up v,_
   rw[q5,hs0]
   show (gi (List.replicate N ([]:List Int)) v).length<=_/\∀k∈gi (List.replicate N ([]:List Int)) v,_
   rw[hrep v v0 v1]; simp
  ·show (gi s1.Dn v).length<=_/\∀k∈gi s1.Dn v,_
   rw[q6,hs0]
   show (gi (List.replicate N ([]:List Int)) v).length<=_/\∀k∈gi (List.replicate N ([]:List Int)) v,_
   rw[hrep v v0 v1]; simp
 refine WP.ent (c4X cok oo (fun s2 hC w4 l4=>?_) vs.length 0 _ hO oM w3 li (Gr.inn w2 (Nat.le_refl _) gO)) fun i=>rfl
 refine WP.congr (fun i=>a7E i ..) ?_
 have lU:=w4.lU
 refine WP.ent (c3h cok l4 (by have:=oo.len; omega) rnc (fun us Up hD w5 hUp=>?_) N 0 s2.us s2.Up hC oM w4 (fun u u0 u1=>by rw[if_neg oM])) fun i=>rfl
 refine WP.congr (fun i=>a7h i ..) ?_
 have ixc:=l4.ixc cok oo lU.2.2.1 lU.2.2.2 w5.lU.2.2.1 hUp
 have r5:=w5.row
 have rt5:=w5.eb.get (hchb▸rt)
 have hr:rdNAt 6 (some (AObj.cells ⟨[I c.N,c.sE,s2.sR,s2.sA,c.sU,c.sD,c.sC,c.sG],0,0,false⟩)) 0 8 0=some (.agg [I c.N,c.sE,s2.sR,s2.sA,c.sU,c.sD]):=rfl
 have oE1:=w5.gE.sl.one
 have oR1:=w5.gR.sl.one
 have oA1:=w5.gA.sl.one
 have oU1:=w5.gU.sl.one
 have oD1:=w5.gD.sl.one
 refine g8 @r5 @rt5 @hr @oE1 @oR1 @oA1 @oU1 @oD1 ?_
 obtain ⟨x,hx⟩:∃x,x=AObj.cells ⟨[I c.N,c.sE,s2.sR,s2.sA,c.sU,c.sD],0,0,false⟩:=⟨_,rfl⟩
 rw[<-hx]
 have hot:h.length+1<hD.length:=(List.getElem?_eq_some_iff.1 rt5).1
 have hr6:rdNAt 6 (hD.set (h.length+1) x)[h.length+1]? 0 6 0=some (.agg [I c.N,c.sE,s2.sR,s2.sA,c.sU,c.sD]):=by rw[a0_ hot,hx]; rfl
 rw[hr6]
 refine g0 ?_
 have f0:FrS (fun o=>o=h.length+1) hD (hD.set (h.length+1) x):=FrS.set1 ..
 have b:=cok.b
 have hcl:c.hb.length=h.length+2:=by rw[hchb]; exact lb
 have hb1:c.hb.length<=c.b1:=by have:=cok.t; omega
 refine WP.ret ⟨(eb.trans (hchb▸w5.eb)).setr oM _,s2.A,Up,s2.Dn,fun h2 f1=>?_,by rw[<-hcN,<-hces]; exact ixc⟩
 have f:FrS (fun o=>o<h.length+2) hD h2:=(f0.mono fun o _ z=>oM).trans (f1.mono fun o _ z=>oM)
 have inl:∀{y:AV} {ys:List Int},Inn c hD s2.sA s2.oA s2.sR s2.oR y ys->Sl h2 1 y (ys.map encI):=fun ⟨o,g,p⟩=>(g.keep f fun z=>by have:=p z; omega).sl
 refine ⟨c.sE,s2.sR,s2.sA,c.sU,c.sD,us,s2.ds,by rw[hcN],?_,oR1,?_,?_,?_,?_,?_,?_,?_⟩
 ·rw[<-hces]; exact (w5.gE.keep f fun _=>oM).sl
 ·exact (w5.gA.keep f fun z=>by have:=w5.pA z; omega).sl
 ·exact (w5.gU.keep f fun _=>oM).sl
 ·exact (w5.gD.keep f fun _=>oM).sl
 ·rw[<-hcN]; exact w5.lU.1
 ·rw[<-hcN]; exact w5.lU.2.1
 ·intro v v0 v1; exact inl (w5.rU v v0 (by rw[hcN]; exact v1))
 ·intro v v0 v1; exact inl (w5.rD v v0 (by rw[hcN]; exact v1))
theorem a4L {h:Heap}{N:Nat}{sE0:AV}{es:List E}(hN:1<=N/\N<=100)(no:NetOk N es)(co:COk es)(hs:Sl h 4 sE0 (es.map encE)) :
  Tot tab a6_ [.agg [I N,sE0]] h fun r h'=>Ext h h'/\∃A Up Dn,IxV h' r N es A Up Dn/\IxC N es A Up Dn:=
 (a8J hN no co hs).mono fun _ _ ⟨e,A,Up,Dn,x,ix⟩=>⟨e,A,Up,Dn,x _ (FrS.refl _ _),ix⟩
end Go.Gm.AQ
namespace Go.Gm.AQ
open Go Go.Gm
inductive StkU (A:List Ar):List Nat->List Nat->Prop
 |nil:StkU A [] []
 |cons {k:Nat} {W l ls:List Nat}:Unp A k l->StkU A W ls->StkU A (k::W) (l++ls)
theorem Unp.pos {A:List Ar}{k:Nat}{l:List Nat}(h:Unp A k l):1<=l.length:=by
 induction h with
 |edge h1 h2=>simp
 |two h1 h2 h3 h4 h5 h6 _ _ i1 i2=>rw[List.length_append]; omega
theorem StkU.le {A:List Ar}{W ls:List Nat}(h:StkU A W ls):W.length<=ls.length:=by
 induction h with
 |nil=>simp
 |cons h1 _ ih=>have:=h1.pos; rw[List.length_append,List.length_cons]; omega
section
variable {A:List Ar} {N:Int} {sE sR sA sU sD:AV} {hb:Heap} {ox:Nat}
def natE (n:Nat):List AV:=[I n]
theorem c5g (hlA:A.length<=100000000)(rx:hb[ox]?=some (.cells ⟨[I N,sE,sR,sA,sU,sD],0,0,false⟩))(hA:Sl hb 7 sA (A.map encA)) :
  ∀(d:Nat) (W ls os:List Nat) (h:Heap) (out wait:AV) (oo ow:Nat),2*ls.length-W.length<d->StkU A W ls->os.length+ls.length<=1000->Ext hb h->Gr oo (oo+1) h 1 out (os.map natE)->(out≠.nils->hb.length<=oo/\oo<h.length/\oo≠ow)->
   Gr ow (ow+1) h 1 wait (W.reverse.map natE)->wait≠.nils->hb.length<=ow->ow<h.length->
   WP (fun p:Nat × Nat=>a2p p.1 p.2 (.ptr ox 0 6 0) out wait h) fun r h'=>Ext hb h'/\Gr hb.length h'.length h' 1 r ((os++ls).map natE):=by
 intro d
 induction d with
 |zero=>intro W ls os h out wait oo ow hd; omega
 |succ d ih=>
  intro W ls os h out wait oo ow hd hs hb' e go po gw nw lw uw
  refine WP.rnd (fun i j=>b2R i j ..) ?_
  have rx':=e.get rx
  have gws:=gw.sl
  have hA':=hA.ext e
  cases hs with
  |nil=>
   have lw0:lenS wait=some (I 0):=by rw[gws.len]; rfl
   refine g1 @lw0 ?_
   refine WP.lv ?_ fun i j=>rfl
   refine WP.congr (fun i=>b2Q i ..) ?_
   refine WP.call (a8a go.sl (by simp; omega)) ?_
   rintro r h2 ⟨e2,g2⟩
   refine WP.ret ⟨e.trans e2,?_⟩
   exact g2.mono e.len (Nat.le_refl _)
  |@cons k W l ls hk hs=>
   have hWl:=hs.le
   have hpos:=hk.pos
   rw[List.length_append] at hb'
   rw[List.length_append,List.length_cons] at hd
   have hrl:(k::W).reverse.length=W.length+1:=by simp
   have hgi:gi (k::W).reverse (W.length:Int)=k:=by
    rw[List.reverse_cons]
    have:=a6R W.reverse k
    rwa [List.length_reverse] at this
   have ldk:=gws.ld0 (H:=h) (i:=(W.length:Int)) (Ext.refl _) oM (by rw[hrl]; omega) oM
   rw[hgi] at ldk
   replace ldk:Gm.ld1 h (elP 1 wait (W.length:Int))=some (I (k:Int)):=ldk
   have idk:=gws.idxG (i:=(W.length:Int)) oM (by rw[hrl]; omega)
   have lnk:lenS wait=some (I ((W.length:Int)+1)):=by rw[gws.lenG,hrl]; simp
   obtain ⟨s',t1,t2,t3⟩:=gw.take (n:=(W.length:Int)) oM (by rw[List.length_map,hrl]; omega) nw
   have t2':Gr ow (ow+1) h 1 s' (W.reverse.map natE):=t2.cong (by
    rw[Int.toNat_natCast,<-List.map_take,List.reverse_cons,List.take_append_of_le_length (by simp),List.take_of_length_le (by simp)])
   have hget:∀{a:Ar},A[k]?=some a->gi A (k:Int)=a/\k<A.length:=fun {a} ha=>by
    have hlt:=(List.getElem?_eq_some_iff.1 ha).1
    have:=c1_ (xs:=A) (i:=(k:Int)) oM oM
    rw[Int.toNat_natCast,ha] at this
    injection this with this
    exact ⟨this.symm,hlt⟩
   have hsub:(W.length:Int)+1-1=W.length:=oM
   have hz:AV.int .i64 0=I 0:=rfl
   simp only[hz]
   have main:∀a:Ar,gi A (k:Int)=a->k<A.length->∀H,Ext h H->Gm.ldN 7 H (elP 7 sA (k:Int))=some (.agg [I a.fr,I a.to,I a.md,I a.co,I a.ed,I a.a,I a.b]):=fun a ha hlt H eH=>by
    have:=(hA'.ldN (H:=H) (i:=(k:Int)) eH oM oM); rw[ha] at this; exact this
   cases hk with
   |@edge _ a ha hed=>
    obtain ⟨hga,hlt⟩:=hget ha
    have ldn:=main a hga hlt
    obtain ⟨h2,hh2⟩:∃h2,h2=(h++[AObj.cells ⟨[I 0,I 0,I 0,I 0,I 0,I 0,I 0],0,0,false⟩]).set h.length (.cells ⟨[I a.fr,I a.to,I a.md,I a.co,I a.ed,I a.a,I a.b],0,0,false⟩):=⟨_,rfl⟩
    have e2:Ext h h2:=by rw[hh2]; exact eX
    have l2:h2.length=h.length+1:=by rw[hh2]; simp
    have re2:h2[h.length]?=some (.cells ⟨[I a.fr,I a.to,I a.md,I a.co,I a.ed,I a.a,I a.b],0,0,false⟩):=by rw[hh2]; exact a0_ (by simp)
    have b:=Gr.lit (h:=h2) (sz:=1) (v:=[I a.ed]) rfl
    rw[a3_] at b
    obtain ⟨h3,hh3⟩:∃h3,h3=h2++[AObj.cells ⟨[I a.ed],0,0,false⟩]:=⟨_,rfl⟩
    rw[<-hh3] at b
    have e3:Ext h2 h3:=by rw[hh3]; exact Ext.push _ _
    have l3:h3.length=h2.length+1:=by rw[hh3]; simp
    have e23:=e2.trans e3
    obtain ⟨so,h4,o',q1,q2,q3,q4⟩:=(go.ext e23).appP (fun z=>by have:=po z; omega) b.sl oM (bytes:=8) oM (by simp; omega)
    have hb1:bsl 1 1 h2 (some [I a.ed])=some (.sl h2.length 0 1 1 none 0,h3):=by rw[hh3]; rfl
    have f4:=q4.len
    have q3':so≠.nils->hb.length<=o'/\o'<h4.length/\o'≠ow:=fun z=>by
     have:=e.len
     rcases (q3 z).1 with ⟨z1,z2⟩|z1
     ·have:=po z2; have:=(q3 z).2; omega
     ·have:=(q3 z).2; omega
    refine g9 @lnk @hsub @idk @ldk @t1 @rx' hA'.lenG hA'.idxG @ldn ?_
    rw[<-hh2]
    have hq1:apnd 1 8 out (.sl (h.length+1) 0 1 1 none 0) (h2++[AObj.cells ⟨[AV.int .i64 a.ed],0,0,false⟩])=some (so,h4):=by rw[<-l2]; rw[hh3] at q1; exact q1
    rw[hq1]
    refine g0 ?_
    have ewf:FrS (fun p=>out≠.nils/\p=oo) h h4:=(FrS.ofExt e23).trans q4
    have nod:ow<h.length->¬(out≠.nils/\ow=oo):=fun _ z=>(po z.1).2.2 z.2.symm
    have e4:Ext hb h4:=ewf.ext e fun o ho z=>by have:=po z.1; omega
    have fin:=ih W ls (os++[a.ed.toNat]) h4 so s' o' ow (by simp at hd; omega) hs (by simp at hb' ⊢; omega) e4 (q2.cong (by simp[natE]; omega)) q3' (t2'.keep ewf fun _=>nod uw) t3 lw (by have:=ewf.len; omega)
    rw[List.append_assoc] at fin
    exact fin
   |@two _ i j a m1 m2 ha hed hia hjb hik hjk u1 u2=>
    obtain ⟨hga,hlt⟩:=hget ha
    have ldn:=main a hga hlt
    obtain ⟨h2,hh2⟩:∃h2,h2=(h++[AObj.cells ⟨[I 0,I 0,I 0,I 0,I 0,I 0,I 0],0,0,false⟩]).set h.length (.cells ⟨[I a.fr,I a.to,I a.md,I a.co,I a.ed,I a.a,I a.b],0,0,false⟩):=⟨_,rfl⟩
    have e2:Ext h h2:=by rw[hh2]; exact eX
    have l2:h2.length=h.length+1:=by rw[hh2]; simp
    have re2:h2[h.length]?=some (.cells ⟨[I a.fr,I a.to,I a.md,I a.co,I a.ed,I a.a,I a.b],0,0,false⟩):=by rw[hh2]; exact a0_ (by simp)
    have lo1:lenS out=some (I os.length):=go.sl.lenG
    have lw1:lenS s'=some (I W.length):=by rw[t2'.sl.lenG]; simp
    rw[hed,hia,hjb] at ldn hh2 re2
    have p1:=u1.pos
    have p2:=u2.pos
    rw[List.length_append] at hb' hd
    refine g11 @lnk @hsub @idk @ldk @t1 @rx' hA'.lenG hA'.idxG @ldn @lo1 @lw1 ?_
    rw[<-hh2]
    obtain ⟨h3,hh3⟩:∃h3,h3=h2++[AObj.cells ⟨[I (j:Int),I (i:Int)],0,0,false⟩]:=⟨_,rfl⟩
    have e3:Ext h2 h3:=by rw[hh3]; exact Ext.push _ _
    have l3:h3.length=h2.length+1:=by rw[hh3]; simp
    have e23:=e2.trans e3
    have b:Sl h3 1 (.sl (h.length+1) 0 2 1 none 0) [[I (j:Int)],[I (i:Int)]]:=.inr ⟨h.length+1,0,none,0,⟨[I (j:Int),I (i:Int)],0,0,false⟩,rfl,by rw[hh3,<-l2]; simp,Nat.le_refl _,by simp,by simp⟩
    obtain ⟨s2,h4,o',q1,q2,q3,q4⟩:=(t2'.ext e23).appP (fun z=>oM) b oM (bytes:=8) oM (by simp; omega)
    have hq1:apnd 1 8 s' (.sl (h.length+1) 0 2 1 none 0) (h2++[AObj.cells ⟨[AV.int .i64 (j:Int),AV.int .i64 (i:Int)],0,0,false⟩])=some (s2,h4):=by rw[hh3] at q1; exact q1
    rw[hq1]
    refine g0 ?_
    have q2':Gr o' (o'+1) h4 1 s2 ((i::j::W).reverse.map natE):=q2.cong (by simp[natE])
    have n2:s2≠.nils:=q2'.nnil (by simp)
    have ewf:FrS (fun p=>s'≠.nils/\p=ow) h h4:=(FrS.ofExt e23).trans q4
    have e4:Ext hb h4:=ewf.ext e fun o ho z=>oM
    have ew:=e.len
    have f4:=ewf.len
    have pw:hb.length<=o'/\o'<h4.length/\(out≠.nils->oo≠o'):=by
     rcases (q3 n2).1 with ⟨z1,z2⟩|z1
     ·exact ⟨oM,(q3 n2).2,fun z=>by have:=po z; omega⟩
     ·exact ⟨oM,(q3 n2).2,fun z=>by have:=po z; omega⟩
    have fin:=ih (i::j::W) (m1++(m2++ls)) os h4 out s2 oo o' (by simp only[List.length_append,List.length_cons]; omega) (.cons u1 (.cons u2 hs)) (by simp only[List.length_append]; omega) e4 (go.keep ewf fun z z2=>(po z).2.2 z2.2) (fun z=>⟨(po z).1,by have:=(po z).2.1; omega,pw.2.2 z⟩) q2' n2 pw.1 pw.2.1
    rw[<-List.append_assoc m1] at fin
    exact fin
theorem b7E {h:Heap}(hlA:A.length<=100000000)(hA:Sl h 7 sA (A.map encA))(hE1:sE.one=true)(hR1:sR.one=true)(hU1:sU.one=true)(hD1:sD.one=true){k:Nat}{l:List Nat}(hk:Unp A k l)(hl:l.length<=1000) :
  Tot tab a3c [.agg [I N,sE,sR,sA,sU,sD],I k] h fun r h'=>Ext h h'/\Gr h.length h'.length h' 1 r (l.map natE):=by
 refine WP.tot (fun k=>b4G k _ _ h) ?_
 have hA1:=hA.one
 obtain ⟨h1,hh1⟩:∃h1,h1=h++[AObj.cells ⟨[I N,sE,sR,sA,sU,sD],0,0,false⟩]:=⟨_,rfl⟩
 have e1:Ext h h1:=by rw[hh1]; exact Ext.push _ _
 have l1:h1.length=h.length+1:=by rw[hh1]; simp
 have rx:h1[h.length]?=some (.cells ⟨[I N,sE,sR,sA,sU,sD],0,0,false⟩):=by rw[hh1]; simp
 have b:=Gr.lit (h:=h1) (sz:=1) (v:=[I (k:Int)]) rfl
 rw[a3_] at b
 have e2:Ext h1 (h1++[AObj.cells ⟨[I (k:Int)],0,0,false⟩]):=Ext.push _ _
 refine g5 @hA1 @hE1 @hR1 @hU1 @hD1 ?_
 rw[<-hh1]
 have:=(c5g hlA rx (hA.ext e1) (2*l.length) [k] l [] (h1++[AObj.cells ⟨[I (k:Int)],0,0,false⟩]) .nils (.sl h1.length 0 1 1 none 0) 0 h1.length (by have:=hk.pos; simp; omega) (by have:=StkU.cons hk .nil; rwa [List.append_nil] at this) (by simpa using hl) e2 (Gr.nil ..) (fun z=>absurd rfl z) (b.cong (by simp[natE])) (by simp) (Nat.le_refl _) (by simp))
 rw[l1] at this
 refine WP.ent (this.mono fun r h' ⟨q1,q2⟩=>⟨e1.trans q1,?_⟩) fun i=>rfl
 exact q2.mono oM (Nat.le_refl _)
end
end Go.Gm.AQ
namespace Go.Gm.AQ
open Go Go.Gm
theorem dcell {D:List (List Int)}{acc:List Bool}{h H:Heap}{sD:AV}(ok:DOk D acc)(hD:Sl h 5 sD (D.map encR))(e:Ext h H){s m:Int}(s0:0<=s)(s1:s<D.length)(m0:0<=m)(m1:m<5):∃p,idxA 5 1 (elP 5 sD s) (I m)=some p/\Gm.ld1 H p=some (I (nx D s m)):=by
 obtain ⟨p,p1,p2,-⟩:=cellA (H:=H) hD e s0 s1 m0 m1
 refine ⟨p,p1,?_⟩
 rw[p2]
 have hr:=ok.row s s0 s1
 congr 1
 show (List.map I (gi D s)).getD m.toNat .undef=I (gi (gi D s) m)
 have:=c1_ (xs:=gi D s) (i:=m) m0 oM
 simp[List.getD,this]
def stdyB (D:List (List Int)):Bool:=(List.range D.length).all fun s=>(List.range 5).all fun m=>nx D (nx D (s:Int) (m:Int)) (m:Int) == nx D (s:Int) (m:Int)
theorem a9N {D:List (List Int)}:stdyB D=true↔Stdy D:=by
 simp only[stdyB,List.all_eq_true,List.mem_range,beq_iff_eq]
 constructor
 ·intro h s m s0 s1 m0 m1
  have:=h s.toNat oM m.toNat oM
  rwa [Int.toNat_of_nonneg s0,Int.toNat_of_nonneg m0] at this
 ·intro h s hs m hm
  exact h s m oM oM oM oM
section
variable {D:List (List Int)} {acc:List Bool} {h0:Heap} {sD sA:AV} {od:Nat}
theorem c0m (ok:DOk D acc)(rd:h0[od]?=some (.cells ⟨[sD,sA],0,0,false⟩))(hD:Sl h0 5 sD (D.map encR)){t8:AV}{s:Nat}(hs:s<D.length)(no:∀t m:Nat,t<s->m<5->nx D (nx D (t:Int) (m:Int)) (m:Int)=nx D (t:Int) (m:Int))(hQ:(∀t m:Nat,t<s+1->m<5->nx D (nx D (t:Int) (m:Int)) (m:Int)=nx D (t:Int) (m:Int))->∀h,Ext h0 h->WP (fun p:Nat × Nat=>a2o p.1 p.2 (.ptr od 0 2 0) t8 (I D.length) (I ((s:Int)+1)) h) fun r h'=>Ext h0 h'/\r=.bool (stdyB D)) :
  ∀(d m:Nat) (h:Heap),m+d=5->Ext h0 h->(∀j:Nat,j<m->nx D (nx D (s:Int) (j:Int)) (j:Int)=nx D (s:Int) (j:Int))->
   WP (fun p:(Nat × Nat) × Nat=>a4s p.1.1 p.1.2 p.2 (.ptr od 0 2 0) t8 (I D.length) (I s) (.agg (encR (gi D s))) (I m) h) fun r h'=>Ext h0 h'/\r=.bool (stdyB D):=by
 have hl1:=ok.l1
 intro d
 induction d with
 |zero=>
  intro m h hm e hj
  refine WP.rnd (fun i j=>a7W i.1 i.2 j ..) ?_
  obtain rfl:m=5:=oM
  refine g0 ?_
  refine WP.lv (hQ (fun t m ht hm=>?_) h e) fun i j=>rfl
  by_cases q:t=s
  ·subst q; exact hj m hm
  ·exact no t m oM hm
 |succ d ih=>
  intro m h hm e hj
  refine WP.rnd (fun i j=>a7W i.1 i.2 j ..) ?_
  have rd':=e.get rd
  have hD':=hD.ext e
  have hrow:=ok.row (s:Int) oM oM
  have ix:=b5V (m:=m) hrow oM
  have hto:0<=nx D (s:Int) (m:Int)/\nx D (s:Int) (m:Int)<D.length:=ok.to (s:Int) (m:Int) oM oM oM oM
  obtain ⟨p,p1,p2⟩:=dcell (H:=h) (s:=nx D (s:Int) (m:Int)) ok hD' (Ext.refl _) hto.1 hto.2 (m:=(m:Int)) oM oM
  obtain ⟨to,hto'⟩:∃to,nx D (s:Int) (m:Int)=to:=⟨_,rfl⟩
  have ix':ixA 5 1 none (.agg (encR (gi D s))) (I m)=some (I to):=by rw[ix,<-hto']
  rw[hto'] at hto p1 p2
  by_cases q:nx D to (m:Int)=to
  ·refine g6 @ix' @rd' hD'.idxG @p1 @p2 @q ?_
   refine ih (m+1) h oM e fun j hj'=>?_
   by_cases q2:j=m
   ·subst q2; rw[hto']; exact q
   ·exact hj j oM
  ·refine g6 @ix' @rd' hD'.idxG @p1 @p2 @q ?_
   refine WP.lv (WP.lv (WP.ret ⟨e,?_⟩) fun i j=>rfl) fun i j=>rfl
   congr 1
   cases hb:stdyB D with
   |false=>rfl
   |true=>
    have:=a9N.1 hb (s:Int) (m:Int) oM oM oM oM
    rw[hto'] at this
    exact absurd this q
theorem c0n (ok:DOk D acc)(rd:h0[od]?=some (.cells ⟨[sD,sA],0,0,false⟩))(hD:Sl h0 5 sD (D.map encR)) :
  ∀(d s:Nat) (h:Heap),s+d=D.length->Ext h0 h->(∀t m:Nat,t<s->m<5->nx D (nx D (t:Int) (m:Int)) (m:Int)=nx D (t:Int) (m:Int))->
   WP (fun p:Nat × Nat=>a2o p.1 p.2 (.ptr od 0 2 0) sD (I D.length) (I s) h) fun r h'=>Ext h0 h'/\r=.bool (stdyB D):=by
 have hl1:=ok.l1
 intro d
 induction d with
 |zero=>
  intro s h hs e no
  refine WP.rnd (fun i j=>a7X i j ..) ?_
  obtain rfl:s=D.length:=oM
  refine g0 ?_
  refine WP.ret ⟨e,?_⟩
  congr 1
  refine (a9N.2 fun s m s0 s1 m0 m1=>?_).symm
  have:=no s.toNat m.toNat oM oM
  rwa [Int.toNat_of_nonneg s0,Int.toNat_of_nonneg m0] at this
 |succ d ih=>
  intro s h hs e no
  refine WP.rnd (fun i j=>a7X i j ..) ?_
  have hD':=hD.ext e
  have hrow:=ok.row (s:Int) oM oM
  obtain ⟨rw,hrw⟩:∃rw,gi D (s:Int)=rw:=⟨_,rfl⟩
  have ldn:∀H,Ext h H->Gm.ldN 5 H (elP 5 sD (s:Int))=some (.agg (encR rw)):=fun H eH=>by have:=hD'.ldN (H:=H) (i:=(s:Int)) eH oM oM; rw[hrw] at this; exact this
  rw[hrw] at hrow
  obtain ⟨a,b,c,d',f,rfl⟩:∃a b c d' f,rw=[a,b,c,d',f]:=by
   match rw,hrow with
   |[a,b,c,d',f],_=>exact ⟨a,b,c,d',f,rfl⟩
  have hz:AV.int .i64 0=I 0:=rfl
  simp only[hz]
  simp only[encR,List.map_cons,List.map_nil] at ldn
  obtain ⟨h2,hh2⟩:∃h2,h2=(h++[AObj.cells ⟨[I 0,I 0,I 0,I 0,I 0],0,0,false⟩]).set h.length (.cells ⟨[I a,I b,I c,I d',I f],0,0,false⟩):=⟨_,rfl⟩
  have e2:Ext h h2:=by rw[hh2]; exact eX
  refine g2 hD'.idxG @ldn ?_
  rw[<-hh2]
  have:=c0m ok rd hD (t8:=sD) (s:=s) oM no (fun no' h e=>ih (s+1) h oM e no') 5 0 h2 oM (e.trans e2) (fun j hj=>oM)
  rw[hrw] at this
  exact WP.ent this fun i=>rfl
theorem b3a {h:Heap}(ok:DOk D acc)(hD:Sl h 5 sD (D.map encR))(hA:Sl h 1 sA (acc.map encB)) :
  Tot tab a1s [.agg [sD,sA]] h fun r h'=>Ext h h'/\r=.bool (stdyB D):=by
 refine WP.tot (fun k=>b4F k _ h) ?_
 have o1:=hD.one
 have o2:=hA.one
 obtain ⟨h1,hh1⟩:∃h1,h1=h++[AObj.cells ⟨[sD,sA],0,0,false⟩]:=⟨_,rfl⟩
 have e1:Ext h h1:=by rw[hh1]; exact Ext.push _ _
 have rd:h1[h.length]?=some (.cells ⟨[sD,sA],0,0,false⟩):=by rw[hh1]; simp
 refine g3 @o1 @o2 hD.lenG ?_
 rw[<-hh1]
 exact WP.ent ((c0n ok rd (hD.ext e1) D.length 0 h1 oM (Ext.refl _) (fun t m ht=>oM)).mono fun r h' ⟨q1,q2⟩=>⟨e1.trans q1,q2⟩) fun i=>rfl
end
end Go.Gm.AQ
namespace Go.Gm.AQ
open Go Go.Gm
def FL (b:Nat)(oF:Nat)(sF:AV)(N:Nat)(X:Nat->List Int)(h:Heap):Prop:=
 ∃B:List AV,Gr oF (oF+1) h 1 sF (B.map one1)/\B.length=N/\Fam (fun o=>b<=o) h 1 (fun t:Nat=>t<N) (fun t=>gi B (t:Int)) (fun t=>(X t).map encI)
theorem FL.ext {b oF N:Nat}{sF:AV}{X:Nat->List Int}{h h':Heap}(f:FL b oF sF N X h)(e:Ext h h'):FL b oF sF N X h':=by
 obtain ⟨B,g,l,f⟩:=f
 exact ⟨B,g.ext e,l,f.frs (D:=fun _=>False) (FrS.ofExt e) fun _ _ _ z=>z⟩
theorem FL.add {b oF N:Nat}{sF:AV}{X:Nat->List Int}{h:Heap}(f:FL b oF sF N X h)(hb:oF<b)(hbl:b<=h.length){v:Nat}(hv:v<N)(k:Int)(hl:(X v).length<=10000000000) :
  ∃s1 s2 h2 h3,idxS 1 sF (I v)=some (elP 1 sF v)/\Gm.ld1 h (elP 1 sF v)=some s1/\apnd 1 8 s1 (.sl h.length 0 1 1 none 0) (h++[AObj.cells ⟨[I k],0,0,false⟩])=some (s2,h2)/\s2.one=true/\s2.cells=[s2]/\stN 1 h2 (elP 1 sF v) s2=some h3/\
   FL b oF sF N (fun t=>if t=v then X t++[k] else X t) h3/\FrS (fun o=>b<=o) h h2/\FrS (fun o=>o=oF\/b<=o) h h3/\h2.length=h3.length:=by
 obtain ⟨B,g,lB,fm⟩:=f
 have ld:=g.sl.ld0 (H:=h) (i:=(v:Int)) (Ext.refl _) oM oM oM
 replace ld:Gm.ld1 h (elP 1 sF (v:Int))=some (gi B (v:Int)):=ld
 have b1:Sl (h++[AObj.cells ⟨[I k],0,0,false⟩]) 1 (.sl h.length 0 1 1 none 0) [[I k]]:=by
  have:=(Gr.lit (h:=h) (sz:=1) (v:=[I k]) rfl).sl
  rwa [a3_] at this
 have e1:Ext h (h++[AObj.cells ⟨[I k],0,0,false⟩]):=Ext.push _ _
 have f':Fam (fun o=>b<=o) (h++[AObj.cells ⟨[I k],0,0,false⟩]) 1 (fun t:Nat=>t<N) (fun t=>gi B (t:Int)) (fun t=>(X t).map encI):=fm.frs (D:=fun _=>False) (FrS.ofExt e1) fun _ _ _ z=>z
 obtain ⟨s2,h2,k1,k2,k3,k4⟩:=f'.append (bytes:=8) (t:=v) hv b1 (by simp) oM oM (by simp; omega)
 have g2:=(g.ext e1).frs k4 fun o z1 z2=>oM
 have c2:s2.cells=[s2]:=by
  have:=(k3.sl (t:=v) hv).cells
  simpa using this
 obtain ⟨h3,n1,n2,n3,n4⟩:=g2.write0 (i:=(v:Int)) (v:=s2) oM (by simp; omega) (by rw[c2]; rfl) (by rw[c2]; simp[k2])
 have hlq:=k4.len
 refine ⟨_,s2,h2,h3,g.sl.idxG oM oM,ld,k1,k2,c2,n1,?_,(FrS.ofExt e1).trans k4,?_,n4.symm⟩
 ·have f3:=k3.frs n3.s (fun o z1 z2 z3=>by rcases z2 with z2|z2<;>simp only[List.length_append] at *<;>omega)
  refine ⟨B.set v s2,n2.cong (by rw[c2,Int.toNat_natCast,List.map_set]; rfl),by rw[List.length_set]; exact lB,(f3.mono fun o z1 z2=>?_).congr fun t ht'=>⟨?_,?_⟩⟩
  ·rcases z2 with z2|z2
   ·exact z2
   ·simp only[List.length_append] at z2; omega
  ·show gi (B.set v s2) (t:Int)=if t=v then s2 else gi B (t:Int)
   rw[giset2 oM]
  ·show (if t=v then X t++[k] else X t).map encI=if t=v then (X v).map encI++[[I k]] else (X t).map encI
   by_cases qt:t=v
   ·subst qt; simp[encI]
   ·rw[if_neg qt,if_neg qt]
 ·have z1:FrS (fun o=>o=oF\/b<=o) h (h++[AObj.cells ⟨[I k],0,0,false⟩]):=FrS.ofExt e1
  exact (z1.trans (k4.mono fun o _ z=>.inr z)).trans (n3.s.mono fun o _ z=>.inl oM)
def allD (Dn:List (List Int))(n:Nat):List Int:=(List.range n).flatMap fun (u:Nat)=>gi Dn (u:Int)
def fallX (A:List Ar)(Z:List Int)(t:Nat):List Int:=Z.filter fun k=>decide ((gi A k).fr=(t:Int))
theorem b2e (Dn:List (List Int))(n:Nat):allD Dn (n+1)=allD Dn n++gi Dn (n:Int):=by simp[allD,List.range_succ]
theorem b9f {A:List Ar}{Z:List Int}{k:Int}{v:Nat}(h:(gi A k).fr=(v:Int)):fallX A (Z++[k])=fun t=>if t=v then fallX A Z t++[k] else fallX A Z t:=by
 funext t
 simp only[fallX,List.filter_append,List.filter_cons,List.filter_nil,h]
 by_cases q:t=v
 ·subst q; simp
 ·rw[if_neg q,decide_eq_false oM]; simp
structure WyV (h:Heap) (w:AV) (N:Nat) (es:List E) (A:List Ar) (Up Dn:List (List Int)) (D:List (List Int)) (acc:List Bool):Prop where
 ex:∃o sE sR sA sU sDn sD sAc sF us B,w=.ptr o 0 9 0/\h[o]?=some (.cells ⟨[I N,sE,sR,sA,sU,sDn,sD,sAc,sF],0,0,false⟩)/\Sl h 7 sA (A.map encA)/\Sl h 1 sU (us.map one1)/\us.length=N/\Sl h 5 sD (D.map encR)/\Sl h 1 sAc (acc.map encB)/\Sl h 1 sF (B.map one1)/\B.length=N/\
  (∀v:Int,0<=v->v<N->Sl h 1 (gi us v) ((gi Up v).map encI))/\(∀v:Nat,v<N->Sl h 1 (gi B (v:Int)) ((fallX A (allD Dn N) v).map encI))
theorem WyV.ext {h h':Heap}{w:AV}{N:Nat}{es:List E}{A:List Ar}{Up Dn:List (List Int)}{D:List (List Int)}{acc:List Bool}(x:WyV h w N es A Up Dn D acc)(e:Ext h h'):WyV h' w N es A Up Dn D acc:=by
 obtain ⟨o,sE,sR,sA,sU,sDn,sD,sAc,sF,us,B,h1,h2,h3,h4,h5,h6,h7,h8,h9,h10,h11⟩:=x.ex
 exact ⟨o,sE,sR,sA,sU,sDn,sD,sAc,sF,us,B,h1,e.get h2,h3.ext e,h4.ext e,h5,h6.ext e,h7.ext e,h8.ext e,h9,fun v v0 v1=>(h10 v v0 v1).ext e,fun v hv=>(h11 v hv).ext e⟩
section
variable {h0:Heap} {N LL:Nat} {es:List E} {A:List Ar} {Up Dn:List (List Int)} {sE sR sA sU sDn sD sAc sF:AV} {ds:List AV}
theorem b9g (hA:Sl h0 7 sA (A.map encA))(hlA:A.length<=50000000)(ax:∀k:Int,0<=k->k<A.length->AOk N (gi A k)){u:Nat}{su:AV}{ks:List Int}(hks:∀k∈ks,0<=k/\k<A.length)(hll:ks.length<=50000000)(hsu:Sl h0 1 su (ks.map encI)){Z:List Int}(hZ:Z.length<=5000000000){Q:AV->Heap->Prop}(hQ:∀h,Ext h0 h->h[h0.length]?=some (.cells ⟨[I N,sE,sR,sA,sU,sDn],0,0,false⟩)->h[h0.length+3]?=some (.cells ⟨[I N,sE,sR,sA,sU,sDn,sD,sAc,sF],0,0,false⟩)->FL (h0.length+4) (h0.length+2) sF N (fallX A (Z++ks)) h->h0.length+4<=h.length->
   WP (fun p:Nat × Nat=>a0H p.1 p.2 (.ptr h0.length 0 6 0) (.ptr (h0.length+3) 0 9 0) sDn (I N) (I ((u:Int)+1)) h) Q)(hu:u<=1000) :
  ∀(d n:Nat) (h:Heap),n+d=ks.length->Ext h0 h->h[h0.length]?=some (.cells ⟨[I N,sE,sR,sA,sU,sDn],0,0,false⟩)->h[h0.length+3]?=some (.cells ⟨[I N,sE,sR,sA,sU,sDn,sD,sAc,sF],0,0,false⟩)->FL (h0.length+4) (h0.length+2) sF N (fallX A (Z++ks.take n)) h->h0.length+4<=h.length->
   WP (fun p:(Nat × Nat) × Nat=>a2I p.1.1 p.1.2 p.2 (.ptr h0.length 0 6 0) (.ptr (h0.length+3) 0 9 0) sDn (I N) (I u) su (I ks.length) (I n) h) Q:=by
 intro d
 induction d with
 |zero=>
  intro n h hn e rx rw f bl
  refine WP.rnd (fun i j=>a6s i.1 i.2 j ..) ?_
  obtain rfl:n=ks.length:=oM
  rw[List.take_length] at f
  refine g0 ?_
  exact WP.lv (hQ h e rx rw f bl) fun i j=>rfl
 |succ d ih=>
  intro n h hn e rx rw f bl
  refine WP.rnd (fun i j=>a6s i.1 i.2 j ..) ?_
  have hsu':=hsu.ext e
  have hA':=hA.ext e
  have hnk:(n:Int)<ks.length:=oM
  have ldk:=hsu'.ld0 (H:=h) (i:=(n:Int)) (Ext.refl _) oM hnk oM
  obtain ⟨k,hk⟩:∃k,gi ks (n:Int)=k:=⟨_,rfl⟩
  rw[hk] at ldk
  replace ldk:Gm.ld1 h (elP 1 su (n:Int))=some (I k):=ldk
  obtain ⟨k0,k1⟩:=hks k (hk▸b7_ oM hnk)
  have ak:=ax k k0 k1
  obtain ⟨v,hv⟩:∃v:Nat,(gi A k).fr=(v:Int):=⟨(gi A k).fr.toNat,by have:=ak.f0; omega⟩
  have hvN:v<N:=by have:=ak.f1; omega
  have ldf:=hA'.ldf 0 (H:=h) (i:=k) (Ext.refl _) k0 k1 oM
  have ldf':Gm.ld1 h (fldP 0 (elP 7 sA k))=some (I v):=by rw[ldf]; show some (I (gi A k).fr)=_; rw[hv]
  have hXl:(fallX A (Z++ks.take n) v).length<=10000000000:=by
   have h1:(fallX A (Z++ks.take n) v).length<=(Z++ks.take n).length:=List.length_filter_le _ _
   rw[List.length_append,List.length_take] at h1
   omega
  obtain ⟨s1,s2,h2,h3,p1,p2,p3,p4,p5,p6,p7,p8,p9,p10⟩:=f.add oM bl hvN k hXl
  have rw2:h2[h0.length+3]?=some (.cells ⟨[I N,sE,sR,sA,sU,sDn,sD,sAc,sF],0,0,false⟩):=by rw[p8.get oM oM]; exact rw
  have l2:=p8.len
  have id1:=hsu'.idxG (i:=(n:Int)) oM hnk
  have id2:=hA'.idxG k0 k1
  refine g10 @id1 @ldk @rx @id2 @ldf' @rw @p1 @p2 @p3 @rw2 ?_
  rw[p6]
  refine g0 ?_
  have tk:ks.take (n+1)=ks.take n++[k]:=by
   rw[List.take_add_one,show ks[n]?=some k by have:=c1_ (xs:=ks) (i:=(n:Int)) oM oM; rw[hk] at this; simpa using this]; rfl
  refine ih (n+1) h3 oM (p9.ext e fun o ho=>oM) (by rw[p9.get oM oM]; exact rx) (by rw[p9.get oM oM]; exact rw) ?_ oM
  rw[tk,<-List.append_assoc,b9f hv]
  exact p7
theorem b9h (hN:N<=100)(hA:Sl h0 7 sA (A.map encA))(ix:IxS LL N es A Up Dn)(hD:Sl h0 1 sDn (ds.map one1))(ld:ds.length=N)(hds:∀v:Int,0<=v->v<N->Sl h0 1 (gi ds v) ((gi Dn v).map encI)){Q:AV->Heap->Prop}(hQ:∀h,Ext h0 h->h[h0.length+3]?=some (.cells ⟨[I N,sE,sR,sA,sU,sDn,sD,sAc,sF],0,0,false⟩)->FL (h0.length+4) (h0.length+2) sF N (fallX A (allD Dn N)) h->Q (.ptr (h0.length+3) 0 9 0) h) :
  ∀(d u:Nat) (h:Heap),u+d=N->Ext h0 h->h[h0.length]?=some (.cells ⟨[I N,sE,sR,sA,sU,sDn],0,0,false⟩)->h[h0.length+3]?=some (.cells ⟨[I N,sE,sR,sA,sU,sDn,sD,sAc,sF],0,0,false⟩)->FL (h0.length+4) (h0.length+2) sF N (fallX A (allD Dn u)) h->(allD Dn u).length<=u*50000000->h0.length+4<=h.length->
   WP (fun p:Nat × Nat=>a0H p.1 p.2 (.ptr h0.length 0 6 0) (.ptr (h0.length+3) 0 9 0) sDn (I N) (I u) h) Q:=by
 intro d
 induction d with
 |zero=>
  intro u h hu e rx rw f lz bl
  refine WP.rnd (fun i j=>a6t i j ..) ?_
  obtain rfl:u=N:=oM
  refine g0 ?_
  exact WP.ret (hQ h e rw f)
 |succ d ih=>
  intro u h hu e rx rw f lz bl
  refine WP.rnd (fun i j=>a6t i j ..) ?_
  have hD':=hD.ext e
  have huN:(u:Int)<ds.length:=oM
  have ldu:=hD'.ld0 (H:=h) (i:=(u:Int)) (Ext.refl _) oM huN oM
  replace ldu:Gm.ld1 h (elP 1 sDn (u:Int))=some (gi ds (u:Int)):=ldu
  have idu:=hD'.idxG (i:=(u:Int)) oM huN
  have hsu:=hds u oM oM
  have lnu:=(hsu.ext e).lenG
  have hr:=ix.rD u oM oM
  have ax:∀k:Int,0<=k->k<A.length->AOk N (gi A k):=fun k k0 k1=>(ix.arc _ _ (c1_ k0 k1)).1
  have hla:=ix.la
  refine g3 @idu @ldu @lnu ?_
  refine WP.ent (b9g hA hla ax (u:=u) (ks:=gi Dn (u:Int)) (Z:=allD Dn u) (fun k hk=>⟨(hr.2 k hk).1,(hr.2 k hk).2.1⟩) hr.1 hsu oM (fun h' e' rx' rw' f' bl'=>?_) oM (gi Dn (u:Int)).length 0 h oM e rx rw (by rw[List.take_zero,List.append_nil]; exact f) bl) fun i=>rfl
  refine ih (u+1) h' oM e' rx' rw' (by rw[b2e]; exact f') ?_ bl'
  rw[b2e,List.length_append,Nat.succ_mul]
  omega
end
end Go.Gm.AQ
