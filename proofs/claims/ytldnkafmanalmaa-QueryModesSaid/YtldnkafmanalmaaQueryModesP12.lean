/- A part of the proof (GmAQqt, GmAQqu, GmEntry, GmRw, GmRaw). -/
import Derived.OpenShut
import Derived.ChangeArms
import Derived.DataReads
import Derived.Test.YtldnkafmanalmaaQueryModesP11
set_option linter.unusedVariables false
set_option linter.unusedSimpArgs false
set_option linter.unusedSectionVars false
namespace Go.Gm.AQ
open Go Go.Gm
theorem b6H {A B:List E}{Q:E->Prop}(h:∀e,e<A.length->Q (eg A e)->∃e',e'<B.length/\eg B e'=eg A e){v:Int}:∀(k:Nat) (l:List Nat),l.length=k->OkW A v l->(∀e∈l,Q (eg A e))->
  ∃l',OkW B v l'/\atV B v l'=atV A v l/\wdOf B l'=wdOf A l/\atC B l'=atC A l:=by
 intro k
 induction k with
 |zero=>
  intro l hl _ _
  obtain rfl:l=[]:=List.length_eq_zero_iff.1 hl
  exact ⟨[],fun i e h=>by simp at h,rfl,rfl,rfl⟩
 |succ k ih=>
  intro l hl ho hq
  obtain ⟨l0,e,rfl⟩:∃l0 e,l=l0++[e]:=⟨l.dropLast,l.getLast (by intro z; simp[z] at hl),(List.dropLast_concat_getLast _).symm⟩
  obtain ⟨k1,k2,k3⟩:=b1r ho
  obtain ⟨l',i1,i2,i3,i4⟩:=ih l0 (by simpa using hl) k1 fun x hx=>hq x (by simp[hx])
  obtain ⟨e',j1,j2⟩:=h e k2 (hq e (by simp))
  refine ⟨l'++[e'],i1.snoc j1 (by rw[j2,i2]; exact k3),by rw[q6_,q6_,j2],?_,by rw[w8_,w8_,j2,i4]⟩
  have e1:wdOf B (l'++[e'])=wdOf B l'++[(eg B e').md]:=by simp[wdOf]
  have e2:wdOf A (l0++[e])=wdOf A l0++[(eg A e).md]:=by simp[wdOf]
  rw[e1,e2,i3,j2]
theorem LW.eqv {A B:List E}{v u:Int}{P R:List Int->Prop}{x y:Int}(hx:LW A v u P x)(hy:LW B v u R y)(h1:∀l,OkW A v l->P (wdOf A l)->∃l',OkW B v l'/\atV B v l'=atV A v l/\R (wdOf B l')/\atC B l'=atC A l)(h2:∀l,OkW B v l->R (wdOf B l)->∃l',OkW A v l'/\atV A v l'=atV B v l/\P (wdOf A l')/\atC A l'=atC B l):x=y:=by
 rcases hx.ex with rfl|⟨x0,l,x1,x2,x3,x4⟩
 ·rcases hy.ex with rfl|⟨y0,l,y1,y2,y3,y4⟩
  ·rfl
  ·obtain ⟨l',a1,a2,a3,a4⟩:=h2 l y1 y3
   have:=hx.le l' a1 (by rw[a2]; exact y2) a3
   omega
 ·obtain ⟨l',a1,a2,a3,a4⟩:=h1 l x1 x3
  have:=hy.le l' a1 (by rw[a2]; exact x2) a3
  rcases hy.ex with rfl|⟨y0,l2,y1,y2,y3,y4⟩
  ·omega
  ·obtain ⟨l3,b1,b2,b3,b4⟩:=h2 l2 y1 y3
   have:=hx.le l3 b1 (by rw[b2]; exact y2) b3
   omega
def ofM (es:List E)(m:Nat):List E:=es.filter fun e=>e.md == (m:Int)
theorem a5Y {A:List E}{e:Nat}(h:e<A.length):eg A e∈A:=b7_ oM oM
theorem a9h {A:List E}{x:E}(h:x∈A):∃e,e<A.length/\eg A e=x:=by
 obtain ⟨i,hi,rfl⟩:=List.mem_iff_getElem.1 h
 exact ⟨i,hi,b2_ hi⟩
theorem c5l {es:List E}{m:Nat}{v u:Int}{P R:List Int->Prop}{N:Nat}{x y:Int}(no:NetOk N es)(hx:LW es v u P x)(hy:LW (ofM es m) v u R y)(hP:∀w,(∀k∈w,0<=k/\k<5)->(P w↔∀k∈w,(k == (m:Int))=true))(hR:∀w,(∀k∈w,0<=k/\k<5)->(R w↔∀k∈w,true=true)):x=y:=by
 have no2:∀e∈ofM es m,e∈es/\e.md=m:=fun e he=>by
  obtain ⟨h1,h2⟩:=List.mem_filter.1 he
  exact ⟨h1,by simpa using h2⟩
 have md2:∀l,OkW (ofM es m) v l->∀k∈wdOf (ofM es m) l,k=m/\0<=k/\k<5:=fun l hl k hk=>by
  obtain ⟨e,he,rfl⟩:=List.mem_map.1 hk
  have h3:=no2 _ (a5Y (hl.mem e he))
  have:=no.edge _ h3.1
  exact ⟨h3.2,this.2.2.2.2.1,this.2.2.2.2.2⟩
 refine hx.eqv hy (fun l l1 l2=>?_) (fun l l1 _=>?_)
 ·have hm:=OkW.md no l1
  have h2:=(hP _ hm).1 l2
  obtain ⟨l',a1,a2,a3,a4⟩:=b6H (A:=es) (B:=ofM es m) (Q:=fun e=>e.md=m) (fun e he hq=>by
   obtain ⟨e',b1,b2⟩:=a9h (A:=ofM es m) (x:=eg es e) (List.mem_filter.2 ⟨a5Y he,by simpa using hq⟩)
   exact ⟨e',b1,b2⟩) l.length l rfl l1 (fun e he=>by
    have:=h2 (eg es e).md (List.mem_map.2 ⟨e,he,rfl⟩)
    simpa using this)
  exact ⟨l',a1,a2,(hR _ (by rw[a3]; exact hm)).2 fun _ _=>rfl,a4⟩
 ·have hm:=md2 l l1
  obtain ⟨l',a1,a2,a3,a4⟩:=b6H (A:=ofM es m) (B:=es) (Q:=fun _=>True) (fun e he _=>by
   obtain ⟨e',b1,b2⟩:=a9h (A:=es) (x:=eg (ofM es m) e) (no2 _ (a5Y he)).1
   exact ⟨e',b1,b2⟩) l.length l rfl l1 (fun _ _=>trivial)
  refine ⟨l',a1,a2,?_,a4⟩
  rw[a3]
  exact (hP _ fun k hk=>(hm k hk).2).2 fun k hk=>by simpa using (hm k hk).1
theorem c0q {es:List E}{N:Nat}(m:Nat)(no:NetOk N es):NetOk N (ofM es m):=
 ⟨no.n0,no.n1,Nat.le_trans (List.length_filter_le _ _) no.len,fun e he=>no.edge e (List.mem_filter.1 he).1⟩
theorem c0r {es:List E}(m:Nat)(co:COk es):COk (ofM es m):=⟨fun e he=>co.c e (List.mem_filter.1 he).1⟩
structure PkI (h0:Heap) (on oo N m:Nat) (s:AV) (es:List E) (i:Nat) (h:Heap) (s2:AV):Prop where
 fr:FrS (fun o=>o=oo\/h0.length<=o) h0 h
 ro:h[oo]?=some (.cells ⟨[I N,s2],0,0,false⟩)
 g:Gr h0.length h.length h 4 s2 ((ofM (es.take i) m).map encE)
theorem c2e {h0:Heap}{on oo N m:Nat}{frm:Int}{s:AV}{es:List E}{Q:AV->Heap->Prop}(hlen:es.length<=1000)(hon:on<h0.length)(hoo:oo<h0.length)(hne:on≠oo)(rn:∀h,FrS (fun o=>o=oo\/h0.length<=o) h0 h->h[on]?=some (.cells ⟨[I N,s],0,0,false⟩)/\Sl h 4 s (es.map encE))(hQ:∀h s2,PkI h0 on oo N m s es es.length h s2->WP (fun i:Nat=>m9_ i (I frm) (.ptr on 0 2 0) (I m) (.ptr oo 0 2 0) h) Q) :
  ∀(d i:Nat) (h:Heap) (s2:AV),i+d=es.length->PkI h0 on oo N m s es i h s2->
   WP (fun p:Nat × Nat=>h2_ p.1 p.2 (I frm) (.ptr on 0 2 0) (I m) (.ptr oo 0 2 0) (I i) h) Q:=by
 intro d
 induction d with
 |zero=>
  intro i h s2 hi w
  refine WP.rnd (fun i' j=>a1a i' j ..) ?_
  obtain ⟨rn',hE⟩:=rn h w.fr
  obtain rfl:i=es.length:=oM
  simp -implicitDefEqProofs (disch:=first|assumption|omega|(simp only[gL,gA]<;>omega)|fail) only[gC,reduceIte,rn',hE.lenG]
  exact WP.lv (hQ h s2 w) fun i j=>rfl
 |succ d ih=>
  intro i h s2 hi w
  refine WP.rnd (fun i' j=>a1a i' j ..) ?_
  obtain ⟨rn',hE⟩:=rn h w.fr
  have ro:=w.ro
  have hl:=w.fr.len
  have hie:i<es.length:=oM
  have ii:=hE.idxG (i:=(i:Int)) oM oM
  have ldm:=hE.ldf 2 (H:=h) (i:=(i:Int)) (Ext.refl _) oM oM oM
  replace ldm:Gm.ld1 h (fldP 2 (elP 4 s (i:Int)))=some (I (eg es i).md):=ldm
  have ldN:=hE.ldN (H:=h) (i:=(i:Int)) (Ext.refl _) oM oM
  replace ldN:Gm.ldN 4 h (elP 4 s (i:Int))=some (.agg (encE (eg es i))):=ldN
  have htk:es.take (i+1)=es.take i++[eg es i]:=by
   rw[List.take_add_one,List.getElem?_eq_getElem hie]
   show _=es.take i++[gi es (i:Int)]
   rw[b2_ hie]; rfl
  by_cases c1:(eg es i).md=m
  ·have hF:ofM (es.take (i+1)) m=ofM (es.take i) m++[eg es i]:=by
    rw[htk,ofM,List.filter_append]
    simp[ofM,c1]
   have hfl:(ofM (es.take i) m).length<=1000:=by
    have h1:=List.length_filter_le (fun e:E=>e.md == (m:Int)) (es.take i)
    rw[List.length_take] at h1
    show (List.filter _ _).length<=1000
    omega
   obtain ⟨s',h',k1,k2,k3⟩:=w.g.append1 (bytes:=32) (v:=encE (eg es i)) rfl oM oM (by simp; omega) oM oM
   have l3:=k3.len
   have ro':h'[oo]?=some (.cells ⟨[I N,s2],0,0,false⟩):=by rw[k3.get oM oM]; exact ro
   rw[a3_] at k1
   simp only[encE,c1] at k1 ldN
   simp -implicitDefEqProofs (maxSteps:=1000000) (disch:=first|assumption|omega|(simp only[gL]<;>omega)|((repeat (first|exact Ext.refl _|assumption|apply Ext.app|apply Ext.mk|(refine Ext.setr ?_ (by (first|omega|(simp only[gL]<;>omega))) _))); done)|(simp only[gL,gA,rn',hE.lenG,ii,ldm,c1,ldN,ro,k1,ro',k2.sl.one,k2.sl.cells]<;>omega)|fail) only[gB,setAll,partL,fldV,reduceIte,Nat.reduceAdd,Nat.reduceMul,rn',hE.lenG,ii,ldm,c1,ldN,ro,k1,ro',k2.sl.one,k2.sl.cells]
   refine ih (i+1) _ s' (by omega) ⟨(w.fr.trans ⟨l3,fun o o1 o2=>k3.get (by omega) o2⟩).trans ((FrS.set1 ..).mono fun o _ z=>by omega),a0_ (by omega),?_⟩
   refine ((k2.set oM _).mono (Nat.le_refl _) (by simp)).cong ?_
   rw[hF]; simp[encE]
  ·have hF:ofM (es.take (i+1)) m=ofM (es.take i) m:=by
    rw[htk,ofM,List.filter_append]
    simp[ofM,c1]
   refine g6 @rn' hE.lenG @ii @ldm @c1 (decide_eq_false c1) ?_
   exact ih (i+1) h s2 oM ⟨w.fr,ro,w.g.cong (by rw[hF])⟩
set_option maxHeartbeats 2000000 in
theorem c2f {h0:Heap} {N on od of ox oy v:Nat} {s sE sR sA sU sDn yE yR yA yU yDn nD nA fD fA:AV} {es fs:List E} {A B:List Ar} {Up Dn Up2 Dn2:List (List Int)} {D F:List (List Int)} {acc acc2:List Bool} (hN100:N<=100) (no:NetOk N es) (co:COk es) (no2:NetOk N fs) (co2:COk fs)
  (xv:IxV h0 (.agg [I N,sE,sR,sA,sU,sDn]) N es A Up Dn) (ix:IxC N es A Up Dn) (yv:IxV h0 (.agg [I N,yE,yR,yA,yU,yDn]) N fs B Up2 Dn2) (iy:IxC N fs B Up2 Dn2)
  (ok:DOk D acc) (ok2:DOk F acc2) (hn2:2*(N*D.length)*(N+1)<=1000000) (hn3:2*(N*F.length)*(N+1)<=1000000) (hvN:v<N)
  (hD:Sl h0 5 nD (D.map encR)) (hA:Sl h0 1 nA (acc.map encB)) (hF:Sl h0 5 fD (F.map encR)) (hB:Sl h0 1 fA (acc2.map encB)) (rn:h0[on]?=some (.cells ⟨[I N,s],0,0,false⟩)) (rd:h0[od]?=some (.cells ⟨[nD,nA],0,0,false⟩)) (rf:h0[of]?=some (.cells ⟨[fD,fA],0,0,false⟩))
  (rx:h0[ox]?=some (.cells ⟨[I N,sE,sR,sA,sU,sDn],0,0,false⟩)) (ry:h0[oy]?=some (.cells ⟨[I N,yE,yR,yA,yU,yDn],0,0,false⟩))
  (heq:∀(u:Nat) (x y:Int),u<N->LW es v u (fun w=>gi acc (goS D 0 w)=true) x->LW fs v u (fun w=>gi acc2 (goS F 0 w)=true) y->x=y) :
  ∀(d u:Nat) (h:Heap),u+d=N->Ext h0 h->WP (fun p:Nat × Nat=>n0_ p.1 p.2 (.ptr on 0 2 0) (.ptr od 0 2 0) (.ptr of 0 2 0) (.ptr ox 0 6 0) (.ptr oy 0 6 0) (I v) (I u) h) fun r _=>r=.bool true:=by
 intro d
 induction d with
 |zero=>
  intro u h hu e
  refine WP.rnd (fun i' j=>a0Z i' j ..) ?_
  have rn0:=e.get rn
  refine g1 @rn0 ?_
  exact WP.ret rfl
 |succ d ih=>
  intro u h hu e
  refine WP.rnd (fun i' j=>a0Z i' j ..) ?_
  have rn0:=e.get rn
  have rd0:=e.get rd
  have rx0:=e.get rx
  have huN:u<N:=oM
  have hr6:∀a b c d e f:AV,rdNAt 6 (some (AObj.cells ⟨[a,b,c,d,e,f],0,0,false⟩)) 0 6 0=some (.agg [a,b,c,d,e,f]):=fun _ _ _ _ _ _=>rfl
  refine g4 @rn0 @rd0 @rx0 @hr6 ?_
  refine WP.call (y4_ hN100 no co (xv.ext e) ix ok (hD.ext e) (hA.ext e) hn2 hvN huN) ?_
  rintro rr h2 ⟨e2,b,lw,rq⟩
  obtain ⟨sl,is,rfl,his,o1,c1⟩:∃(sl:AV) (is:Bool),rr=.tup [.agg [I (max b 0),sl],.bool is]/\is=decide (0<=b)/\sl.one=true/\sl.cells=[sl]:=by
   rcases rq with ⟨c0,rfl⟩|⟨c0,sl,ll,rfl,hgl,_⟩
   ·exact ⟨.nils,false,by rw[show max b 0=0 by omega],(decide_eq_false oM).symm,rfl,rfl⟩
   ·exact ⟨sl,true,by rw[show max b 0=b by omega],(decide_eq_true c0).symm,hgl.sl.one,hgl.sl.cells⟩
  refine g4 @a4_ @a5_ @o1 @c1 ?_
  obtain ⟨h3,hh3⟩:∃h3,h3=((h2++[AObj.cells ⟨[AV.int .i64 0,.nils],0,0,false⟩]).set h2.length (.cells ⟨[I (max b 0),sl],0,0,false⟩)):=⟨_,rfl⟩
  have e3:Ext h2 h3:=by rw[hh3]; exact eX
  have r3:h3[h2.length]?=some (.cells ⟨[I (max b 0),sl],0,0,false⟩):=by rw[hh3]; exact a0_ (by simp)
  rw[<-hh3]
  have e03:=(e.trans e2).trans e3
  have ry3:=e03.get ry
  have rf3:=e03.get rf
  refine g3 @ry3 @rf3 @hr6 ?_
  refine WP.call (y4_ hN100 no2 co2 (yv.ext e03) iy ok2 (hF.ext e03) (hB.ext e03) hn3 hvN huN) ?_
  rintro rr h4 ⟨e4,b2,lw2,rq2⟩
  obtain rfl:=heq u b b2 huN lw lw2
  obtain ⟨sl2,is2,rfl,his2,o2,c2⟩:∃(sl:AV) (is:Bool),rr=.tup [.agg [I (max b 0),sl],.bool is]/\is=decide (0<=b)/\sl.one=true/\sl.cells=[sl]:=by
   rcases rq2 with ⟨c0,rfl⟩|⟨c0,sl,ll,rfl,hgl,_⟩
   ·exact ⟨.nils,false,by rw[show max b 0=0 by omega],(decide_eq_false oM).symm,rfl,rfl⟩
   ·exact ⟨sl,true,by rw[show max b 0=b by omega],(decide_eq_true c0).symm,hgl.sl.one,hgl.sl.cells⟩
  obtain rfl:=his.trans his2.symm
  have r4:=e4.get r3
  have l4:=(List.getElem?_eq_some_iff.1 r4).1
  refine g4 @a4_ @a5_ @o2 @c2 ?_
  obtain ⟨h5,hh5⟩:∃h5,h5=((h4++[AObj.cells ⟨[AV.int .i64 0,.nils],0,0,false⟩]).set h4.length (.cells ⟨[I (max b 0),sl2],0,0,false⟩)):=⟨_,rfl⟩
  have e5:Ext h4 h5:=by rw[hh5]; exact eX
  have r5:h5[h4.length]?=some (.cells ⟨[I (max b 0),sl2],0,0,false⟩):=by rw[hh5]; exact a0_ (by simp)
  rw[<-hh5]
  have r45:=e5.get r4
  have nb:binV .neq .bool (.bool is) (.bool is)=some (.bool false):=by cases is<;>rfl
  refine g1 @r4 ?_
  exact ih (u+1) h5 oM ((e03.trans e4).trans e5)
end Go.Gm.AQ
namespace Go.Gm.AQ
open Go Go.Gm
theorem wr2 {h:Heap}{a b:AV}(o1:a.one=true)(o2:b.one=true):wrAt 2 (h++[AObj.cells ⟨[.nils,.nils],0,0,false⟩]) (some (AObj.cells ⟨[.nils,.nils],0,0,false⟩)) h.length 0 2 0 [a,b]=some (h++[AObj.cells ⟨[a,b],0,0,false⟩]):=by
 refine (g5_ (n:=2) (off:=0) (hi:=2) (vs:=[a,b]) rfl rfl oM (by simp[o1,o2])).trans ?_
 rw[c9_ rfl]
 rfl
theorem wr6 {h:Heap}{o:Nat}{n:Int}{a b c d e:AV}(o1:a.one=true)(o2:b.one=true)(o3:c.one=true)(o4:d.one=true)(o5:e.one=true):wrAt 6 h (some (AObj.cells ⟨[I 0,.nils,.nils,.nils,.nils,.nils],0,0,false⟩)) o 0 6 0 [I n,a,b,c,d,e]=some (h.set o (.cells ⟨[I n,a,b,c,d,e],0,0,false⟩)):=
 g5_ (n:=6) (off:=0) (hi:=6) (vs:=[I n,a,b,c,d,e]) rfl rfl oM (by simp[o1,o2,o3,o4,o5,I,a4x])
set_option maxHeartbeats 2000000 in
theorem c2g {h:Heap} {N on oo m:Nat} {frm:Int} {s s2:AV} {es:List E} (hN:1<=N/\N<=12) (hm:m<5) (no:NetOk N es) (co:COk es) (rn:h[on]?=some (.cells ⟨[I N,s],0,0,false⟩)) (ro:h[oo]?=some (.cells ⟨[I N,s2],0,0,false⟩)) (hE:Sl h 4 s (es.map encE)) (hE2:Sl h 4 s2 ((ofM es m).map encE)) :
  WP (fun i:Nat=>m9_ i (I frm) (.ptr on 0 2 0) (I m) (.ptr oo 0 2 0) h) fun r _=>r=.bool true:=by
 refine WP.congr (fun i=>a5C i ..) ?_
 obtain ⟨t,ht1,ht2⟩:=mstr hm
 rw[anystr]
 refine g2 @ht1 @ht2 ?_
 refine WP.call (b3x (smB_m hm) h) ?_
 rintro _ h1 ⟨e1,D,acc,nD,nA,rfl,ok,lD,gN,gA,hw⟩
 have hw1:=wr2 (h:=h1) gN.sl.one gA.sl.one
 refine g2 @a1_ @hw1 ?_
 obtain ⟨h2,hh2⟩:∃h2,h2=h1++[AObj.cells ⟨[nD,nA],0,0,false⟩]:=⟨_,rfl⟩
 have e2:Ext h1 h2:=by rw[hh2]; exact Ext.push _ _
 have rd:h2[h1.length]?=some (.cells ⟨[nD,nA],0,0,false⟩):=by rw[hh2]; simp
 rw[<-hh2]
 refine WP.call (b3x c3K h2) ?_
 rintro _ h3 ⟨e3,F,acc2,fD,fA,rfl,ok2,lF,gF,gB',hw'⟩
 have hw2:=wr2 (h:=h3) gF.sl.one gB'.sl.one
 refine g2 @a1_ @hw2 ?_
 obtain ⟨h4,hh4⟩:∃h4,h4=h3++[AObj.cells ⟨[fD,fA],0,0,false⟩]:=⟨_,rfl⟩
 have e4:Ext h3 h4:=by rw[hh4]; exact Ext.push _ _
 have rf:h4[h3.length]?=some (.cells ⟨[fD,fA],0,0,false⟩):=by rw[hh4]; simp
 rw[<-hh4]
 have e04:=((e1.trans e2).trans e3).trans e4
 have rn4:=e04.get rn
 have ro4:=e04.get ro
 refine g2 @rn4 @ro4 ?_
 have l4:h4.length=h3.length+1:=by rw[hh4]; simp
 obtain ⟨h5,hh5⟩:∃h5,h5=h4++[AObj.cells ⟨[AV.int .i64 0,.nils,.nils,.nils,.nils,.nils],0,0,false⟩]++[AObj.cells ⟨[AV.int .i64 0,.nils,.nils,.nils,.nils,.nils],0,0,false⟩]:=⟨_,rfl⟩
 have e5:Ext h4 h5:=by rw[hh5]; exact eX
 have l5:h5.length=h3.length+3:=by rw[hh5]; simp; omega
 have rx5:h5[h3.length+1]?=some (.cells ⟨[I 0,.nils,.nils,.nils,.nils,.nils],0,0,false⟩):=by rw[hh5,<-l4,m2_ (by simp),r8_ (by simp)]; simp[I]
 have ry5:h5[h3.length+1+1]?=some (.cells ⟨[I 0,.nils,.nils,.nils,.nils,.nils],0,0,false⟩):=by rw[hh5,<-l4,r8_ (by simp)]; simp[I]
 rw[<-hh5]
 have e05:=e04.trans e5
 refine WP.call (a8J (N:=N) ⟨hN.1,oM⟩ no co (hE.ext e05)) ?_
 rintro xx h6 ⟨e6,A,Up,Dn,xvF,ix⟩
 obtain ⟨sE,sR,sAr,sU,sDn,us,ds,hx,hE6,hR,hAr,hU,hDn,-,-,-,-⟩:=(xvF _ (FrS.refl _ _)).ex
 have o1:=hE6.one
 have o2:=hAr.one
 have o3:=hU.one
 have o4:=hDn.one
 have e06:=e05.trans e6
 have ro6:=e06.get ro
 refine g1 @ro6 ?_
 refine WP.call (a8J (N:=N) ⟨hN.1,oM⟩ (c0q m no) (c0r m co) (hE2.ext e06)) ?_
 rintro yy h7 ⟨e7,B,Up2,Dn2,yvF,iy⟩
 obtain ⟨yE,yR,yAr,yU,yDn,us2,ds2,hy,hE7,hR7,hAr7,hU7,hDn7,-,-,-,-⟩:=(yvF _ (FrS.refl _ _)).ex
 have p1:=hE7.one
 have p2:=hAr7.one
 have p3:=hU7.one
 have p4:=hDn7.one
 have rx7:=e7.get (e6.get rx5)
 have ry7:=e7.get (e6.get ry5)
 have bx7:=(List.getElem?_eq_some_iff.1 rx7).1
 have by7:=(List.getElem?_eq_some_iff.1 ry7).1
 subst hx hy
 have hwx:=wr6 (h:=h7) (o:=h3.length+1) (n:=(N:Int)) o1 hR o2 o3 o4
 obtain ⟨h8,hh8⟩:∃h8,h8=h7.set (h3.length+1) (.cells ⟨[I N,sE,sR,sAr,sU,sDn],0,0,false⟩):=⟨_,rfl⟩
 rw[<-hh8] at hwx
 have ry8:h8[h3.length+1+1]?=some (.cells ⟨[I 0,.nils,.nils,.nils,.nils,.nils],0,0,false⟩):=by rw[hh8,a9_ oM]; exact ry7
 have rx8:h8[h3.length+1]?=some (.cells ⟨[I N,sE,sR,sAr,sU,sDn],0,0,false⟩):=by rw[hh8]; exact a0_ bx7
 have l8:h8.length=h7.length:=by rw[hh8]; simp
 have hwy:=wr6 (h:=h8) (o:=h3.length+1+1) (n:=(N:Int)) p1 hR7 p2 p3 p4
 obtain ⟨h9,hh9⟩:∃h9,h9=h8.set (h3.length+1+1) (.cells ⟨[I N,yE,yR,yAr,yU,yDn],0,0,false⟩):=⟨_,rfl⟩
 rw[<-hh9] at hwy
 have rx9:h9[h3.length+1]?=some (.cells ⟨[I N,sE,sR,sAr,sU,sDn],0,0,false⟩):=by rw[hh9,a9_ oM]; exact rx8
 have ry9:h9[h3.length+1+1]?=some (.cells ⟨[I N,yE,yR,yAr,yU,yDn],0,0,false⟩):=by rw[hh9]; exact a0_ oM
 have f79:FrS (fun o=>o=h3.length+1\/o=h3.length+1+1) h7 h9:=by
  have f1:FrS (fun o=>o=h3.length+1\/o=h3.length+1+1) h7 h8:=by rw[hh8]; exact (FrS.set1 ..).mono fun o _ z=>.inl z
  have f2:FrS (fun o=>o=h3.length+1\/o=h3.length+1+1) h8 h9:=by rw[hh9]; exact (FrS.set1 ..).mono fun o _ z=>.inr z
  exact f1.trans f2
 have l6:=e6.len
 have l7:=e7.len
 have xv:=xvF h9 ((FrS.ofExt e7).trans (f79.mono fun o _ z=>oM))
 have yv:=yvF h9 (f79.mono fun o _ z=>oM)
 have e49:Ext h4 h9:=f79.ext ((e5.trans e6).trans e7) fun o ho=>oM
 have e09:=e04.trans e49
 have rn9:=e09.get rn
 have c6:∀a b c d e f:AV,AV.cells (.agg [a,b,c,d,e,f])=[a,b,c,d,e,f]:=fun _ _ _ _ _ _=>rfl
 refine g1 @rx7 ?_
 simp only[hwx,a8B,ry8,hwy]
 refine g1 @rn9 ?_
 refine WP.call (h0_ oM (by unfold Fit; omega) _) ?_
 rintro _ _ ⟨rfl,rfl⟩
 obtain ⟨v,hv⟩:∃v:Nat,frm % (N:Int)=v:=⟨(frm % (N:Int)).toNat,by have:=Int.emod_nonneg frm (show (N:Int)≠0 by omega); omega⟩
 have hvN:v<N:=by have:=Int.emod_lt_of_pos frm (show (0:Int)<N by omega); omega
 rw[hv]
 have hq:∀S:Nat,S<=3->2*(N*S)*(N+1)<=1000000:=fun S hS=>by
  have h1:N*S<=12*3:=Nat.mul_le_mul hN.2 hS
  have h2:2*(N*S)*(N+1)<=72*13:=Nat.mul_le_mul oM oM
  omega
 have e29:=(e3.trans e4).trans e49
 exact WP.ent (c2f (h0:=h9) oM no co (c0q m no) (c0r m co) xv ix yv iy ok ok2 (hq _ lD) (hq _ lF) hvN (gN.sl.ext (e2.trans e29)) (gA.sl.ext (e2.trans e29)) (gF.sl.ext (e4.trans e49)) (gB'.sl.ext (e4.trans e49)) rn9 (e29.get rd) (e49.get rf) rx9 ry9
  (fun u x y hu hx hy=>c5l no hx hy hw hw') N 0 h9 oM (Ext.refl _)) fun i=>rfl
theorem qmodes_spec {h:Heap}{size modes mode frm:Int}{ns:AV}{zs:List Int}(hns:Sl h 1 ns (zs.map encI)) :
  Tot tab i3_ [I size,ns,I modes,I mode,I frm] h fun r _=>r=.bool true:=by
 refine WP.tot (fun k=>a6D k ..) ?_
 refine WP.call (a4h h) ?_
 rintro _ h1 ⟨rfl,e1⟩
 refine g0 ?_
 refine WP.call (a0B (hns.ext e1)) ?_
 rintro _ h2 ⟨e2,s,rfl,g2⟩
 have no:=a5H size zs modes
 have co:=a5I size zs modes
 have hl:=a8w size zs modes
 have hN:=u3_ size
 obtain ⟨N,hNN⟩:∃N:Nat,mkN size=N:=⟨(mkN size).toNat,oM⟩
 rw[hNN] at no hN
 rw[hNN]
 generalize mkE size zs modes=es at no co hl g2
 have gs:=g2.sl
 refine g3 gs.one gs.cells @c9_ ?_
 obtain ⟨h3,hh3⟩:∃h3,h3=h2++[AObj.cells ⟨[I N,s],0,0,false⟩]:=⟨_,rfl⟩
 have e3:Ext h2 h3:=by rw[hh3]; exact Ext.push _ _
 have rn:h3[h2.length]?=some (.cells ⟨[I N,s],0,0,false⟩):=by rw[hh3]; simp
 have l3:h3.length=h2.length+1:=by rw[hh3]; simp
 rw[<-hh3]
 refine WP.call (h0_ oM (by unfold Fit; omega) _) ?_
 rintro _ _ ⟨rfl,rfl⟩
 obtain ⟨m,hm⟩:∃m:Nat,mode % 5=m:=⟨(mode % 5).toNat,oM⟩
 have hm5:m<5:=oM
 rw[hm]
 refine g1 @rn ?_
 obtain ⟨h4,hh4⟩:∃h4,h4=(h3++[AObj.cells ⟨[AV.int .i64 0,.nils],0,0,false⟩]).set h3.length (.cells ⟨[AV.int .i64 N,.nils],0,0,false⟩):=⟨_,rfl⟩
 have e4:Ext h3 h4:=by rw[hh4]; exact eX
 have l4:h4.length=h3.length+1:=by rw[hh4]; simp
 have ro:h4[h3.length]?=some (.cells ⟨[I N,.nils],0,0,false⟩):=by rw[hh4]; exact a0_ (by simp)
 rw[<-hh4]
 have rn4:=e4.get rn
 refine WP.ent (c2e (h0:=h4) (on:=h2.length) (oo:=h3.length) (N:=N) (m:=m) (frm:=frm) (s:=s) (es:=es) oM oM oM oM (fun h f=>⟨?_,?_⟩) (fun h s2 w=>?_) es.length 0 h4 .nils oM ⟨FrS.refl _ _,ro,(Gr.nil ..)⟩) fun i=>rfl
 ·rw[f.get oM oM]; exact rn4
 ·exact (((g2.ext e3).ext e4).frs f fun o o1 o2 z=>oM).sl
 ·have hf:=w.g.sl
  rw[List.take_length] at hf
  refine c2g (s:=s) oM hm5 no co ?_ w.ro ?_ hf
  ·rw[w.fr.get oM oM]; exact rn4
  ·exact (((g2.ext e3).ext e4).frs w.fr fun o o1 o2 z=>oM).sl
end Go.Gm.AQ
namespace Go.Gm
open Go.RowKit
def roObj (cs:List AV):AObj:=.cells ⟨cs,0,0,true⟩
def initH (L:List (List AV × Option Loc)):Heap:=L.map fun p=>roObj p.1
def initR (L:List (List AV × Option Loc)):Ren:=⟨fun o g=>if g=0 then (L[o]?).bind (·.2) else none,fun _=>none⟩
def EntOk (W:World)(φ:Ren)(p:List AV × Option Loc):Prop:=∀l,p.2=some l->∃C e fr,W.heap[l.b]?=some (.cells C e fr)/\C.size=l.N/\l.n=p.1.length/\CellsAt φ p.1 l C
theorem initS {W:World}{L:List (List AV × Option Loc)}(hL:∀p∈L,EntOk W (initR L) p) :
  S W.heap.size W (initR L) (initH L) W:=by
 have got:∀o g l,(initR L).c o g=some l->g=0/\∃cs,L[o]?=some (cs,some l):=fun o g l h=>by
  simp only[initR] at h
  split at h
  ·rename_i hg
   cases hq:L[o]? with
   |none=>rw[hq] at h; cases h
   |some p=>rw[hq] at h; exact ⟨hg,p.1,by rw[<-(show p.2=some l from h)]⟩
  ·cases h
 have ro:∀o g l,(initR L).c o g=some l->isRo (initH L) o=true:=fun o g l h=>by
  obtain ⟨_,cs,hq⟩:=got o g l h
  simp[isRo,initH,hq,roObj]
 refine ⟨⟨fun o g l h=>?_,fun o b h=>(by cases h),fun o g l o' g' l' h h' _=>.inr ⟨ro o g l h,ro o' g' l' h'⟩,fun o b o' b' h=>(by cases h)⟩,Below.refl _ _,Nat.le_refl _⟩
 obtain ⟨hg,cs,hq⟩:=got o g l h
 subst hg
 obtain ⟨C,e,fr,h1,h2,h3,h4⟩:=hL _ (List.mem_of_getElem? hq) l rfl
 exact ⟨⟨cs,0,0,true⟩,by simp[initH,hq,roObj],Nat.le_refl _,Nat.le_refl _,⟨C,e,fr,h1,h2,fun q=>(by cases q),fun _=>h4⟩,fun _=>h3⟩
theorem entry {P:Program}{T:Tab}(hv:Valid P T){W:World}{L:List (List AV × Option Loc)}(hL:∀p∈L,EntOk W (initR L) p){f:FuncId}{args:List AV}{args':List Value}(ha:VRs (initR L) args args'){Q:AV->Heap->Prop}(ht:Tot T f args (initH L) Q)(hq:∀v h,Q v h->v=.bool true) :
  Calls P f args'.toArray W fun e w'=>e=.returned (.bool true)/\Below W.heap.size W w':=by
 obtain ⟨v,h',h1,N,hN⟩:=ht
 have hv1:=hq v h' h1
 subst hv1
 obtain ⟨_,h2⟩:=fnSim (B:=W.heap.size) (w0:=W) hv N f args (initH L) _ _ (hN N (Nat.le_refl N))
 refine (h2 _ W args' ha (initS hL)).mono ?_
 rintro e w' ⟨ψ,v',rfl,k1,k2,k3⟩
 cases k1
 exact ⟨rfl,k2.below⟩
theorem intsArg {W:World}{a:Addr}{len cap:Nat}{zs:List Int}(hl:len<=cap)(hm:cap<=maxLen)(hz:zs.length=cap)(hc:∀i,i<zs.length->W.cell? (a.add i)=some (.int .i64 (zs.getD i 0)))(o:Nat) :
  ∃(p:List AV × Option Loc) (x:AV),(∀φ,EntOk W φ p)/\∀L:List (List AV × Option Loc),L[o]?=some p->VR (initR L) x (.slice (some a) len cap)/\Sl (initH L) 1 x ((zs.take len).map fun n=>[I n]):=by
 by_cases h0:0<zs.length
 ·obtain ⟨b,off,rfl,hcell⟩:=Go.ints_at hc h0
  have h1:=hcell 0 h0
  obtain ⟨C,e,fr,hb,hC⟩:∃C e fr,W.heap[b]?=some (.cells C e fr)/\∀j,j<zs.length->C[off+j]?=some (.int .i64 (zs.getD j 0)):=by
   simp only[World.cell?] at h1
   cases hh:W.heap[b]? with
   |none=>rw[hh] at h1; cases h1
   |some ob=>
    cases ob with
    |cells C e fr=>
     refine ⟨C,e,fr,rfl,fun j hj=>?_⟩
     have:=hcell j hj
     simpa [World.cell?,hh] using this
    |_=>rw[hh] at h1; cases h1
  have hN:off+cap<=C.size:=by
   have:=(Array.getElem?_eq_some_iff.1 (hC (zs.length-1) oM)).1
   omega
  refine ⟨(zs.map I,some ⟨b,off,C.size,cap⟩),.sl o 0 len 1 (some cap) 0,fun φ l hl'=>?_,fun L hL=>⟨?_,?_⟩⟩
  ·injection hl' with hl'
   subst hl'
   refine ⟨C,e,fr,hb,rfl,by simp[hz],by simp[hz],hN,fun i hi=>?_⟩
   refine ⟨I (zs.getD i 0),_,?_,hC i (by simpa [hz] using hi),.int _ _,rfl⟩
   simp only at hi
   simp[List.getD_eq_getElem?_getD,hz,hi]
  ·refine VR.sl (l:=⟨b,off,C.size,cap⟩) ?_ (by simp; exact hl) hl hm (by simp; exact hN) (fun c q=>by injection q)
   simp[initR,hL]
  ·refine .inr ⟨o,0,some cap,0,⟨zs.map I,0,0,true⟩,?_,?_,Nat.le_refl _,?_,?_⟩
   ·simp[hz,Nat.min_eq_left hl]
   ·simp[initH,hL,roObj]
   ·simp only[List.drop_zero,List.length_map,Nat.mul_one]
    rw[List.length_take,hz,Nat.min_eq_left hl,<-List.map_take]
    generalize zs.take len=ys
    induction ys with
    |nil=>rfl
    |cons y ys ih=>simp[ih]
   ·intro x hx
    simp only[List.mem_map] at hx
    obtain ⟨n,_,rfl⟩:=hx
    rfl
 ·have hz0:zs=[]:=List.eq_nil_of_length_eq_zero oM
  subst hz0
  simp only[List.length_nil] at hz
  subst hz
  obtain rfl:len=0:=oM
  refine ⟨([],none),.sl o 0 0 1 (some 0) 0,fun φ l q=>(by cases q),fun L hL=>⟨.sl0 (fun q=>by cases q) (fun c q=>by injection q with q; exact q.symm),?_⟩⟩
  exact .inr ⟨o,0,some 0,0,⟨[],0,0,true⟩,rfl,by simp[initH,hL,roObj],Nat.le_refl _,rfl,fun x hx=>by simp at hx⟩
theorem rowArg {W:World}{a:Option Addr}{len cap:Nat}{zs:List Int}(w:(a=none/\len=0/\cap=0/\zs=[])\/∃x,a=some x/\len<=cap/\cap<=maxLen/\zs.length=cap/\(∀i,i<zs.length->W.cell? (x.add i)=some (.int .i64 (zs.getD i 0)))/\∀n∈zs,(Lit.int .i64 n).wf=true)(o:Nat) :
  ∃(p:List AV × Option Loc) (x:AV),(∀φ,EntOk W φ p)/\∀L:List (List AV × Option Loc),L[o]?=some p->VR (initR L) x (.slice a len cap)/\Sl (initH L) 1 x ((zs.take len).map fun n=>[I n]):=by
 rcases w with ⟨rfl,rfl,rfl,rfl⟩|⟨x,rfl,h1,h2,h3,h4,_⟩
 ·exact ⟨([],none),.nils,fun φ l q=>(by cases q),fun L hL=>⟨.nils,.inl ⟨rfl,rfl⟩⟩⟩
 ·exact intsArg h1 h2 h3 h4 o
end Go.Gm
namespace Go.Gm
inductive Rw where
 |mk (k n:Int) (l:List Rw)
 deriving Inhabited
def Rw.kids:Rw->List Rw
 |.mk _ _ l=>l
theorem Rw.kid_lt {c r:Rw}(h:c∈r.kids):SizeOf.sizeOf c<SizeOf.sizeOf r:=by
 cases r with
 |mk k n l=>have:=List.sizeOf_lt_of_mem (show c∈l from h); simp only[Rw.mk.sizeOf_spec]; omega
theorem Rw.ind {p:Rw->Prop}(h:∀r,(∀c∈r.kids,p c)->p r)(r:Rw):p r:=by
 have:∀(N:Nat) (r:Rw),SizeOf.sizeOf r<=N->p r:=by
  intro N
  induction N with
  |zero=>intro r hr; exact h r fun c hc=>by have:=Rw.kid_lt hc; omega
  |succ N ih=>intro r hr; exact h r fun c hc=>ih c (by have:=Rw.kid_lt hc; omega)
 exact this _ r (Nat.le_refl _)
mutual
inductive RV (h:Heap):Rw->List AV->Prop
 |mk {k n:Int} {l:List Rw} {s:AV} {css:List (List AV)}:Sl h 3 s css->RVs h l css->RV h (.mk k n l) [I k,I n,s]
inductive RVs (h:Heap):List Rw->List (List AV)->Prop
 |nil:RVs h [] []
 |cons {r:Rw} {cs:List AV} {l:List Rw} {css:List (List AV)}:RV h r cs->RVs h l css->RVs h (r::l) (cs::css)
end
mutual
theorem RV.ext {h h':Heap} (e:Ext h h'):∀{r:Rw} {cs:List AV},RV h r cs->RV h' r cs
 |_,_,.mk a b=>.mk (a.ext e) (RVs.ext e b)
theorem RVs.ext {h h':Heap} (e:Ext h h'):∀{l:List Rw} {css:List (List AV)},RVs h l css->RVs h' l css
 |_,_,.nil=>.nil
 |_,_,.cons a b=>.cons (RV.ext e a) (RVs.ext e b)
end
theorem RVs.len {h:Heap}:∀{l:List Rw} {css:List (List AV)},RVs h l css->l.length=css.length
 |_,_,.nil=>rfl
 |_,_,.cons _ b=>by simp[RVs.len b]
theorem RVs.get {h:Heap}:∀{l:List Rw} {css:List (List AV)},RVs h l css->∀{i:Nat} {r:Rw},l[i]?=some r->∃cs,css[i]?=some cs/\RV h r cs
 |_,_,.nil,i,r,q=>by simp at q
 |_,_,.cons a b,0,r,q=>by
  simp only[List.getElem?_cons_zero,Option.some.injEq] at q
  subst q; exact ⟨_,rfl,a⟩
 |_,_,.cons a b,i+1,r,q=>by
  obtain ⟨cs,h1,h2⟩:=RVs.get b (i:=i) (by simpa using q)
  exact ⟨cs,by simpa using h1,h2⟩
theorem RV.len {h:Heap}{r:Rw}{cs:List AV}(a:RV h r cs):cs.length=3:=by cases a; rfl
theorem RV.one {h:Heap}{r:Rw}{cs:List AV}(a:RV h r cs):cs.all AV.one=true:=by
 cases a with
 |mk a b=>simp only[List.all_cons,List.all_nil,a4x,a.one,Bool.and_self]
end Go.Gm
namespace Go.Gm
structure RawTy (P:Program) (T E I3:TypeId):Prop where
 t:P.underlying T=some (.slice E)
 e:∃f0 f1 f2:Field,P.underlying E=some (.struct #[f0,f1,f2])/\f0.type=I3/\f0.offset=0/\f1.type=I3/\f1.offset=1/\f2.type=T/\f2.offset=2
 i:P.underlying I3=some (.int .i64)
 ce:P.cellsOf E=3
 ci:P.cellsOf I3=1
 ct:P.cellsOf T=1
def Emb (F:List (List AV × Option Loc))(o:Nat)(L:List (List AV × Option Loc)):Prop:=∀(i:Nat) p,F[i]?=some p->L[o+i]?=some p
theorem Emb.head {p:List AV × Option Loc}{F L:List (List AV × Option Loc)}{o:Nat}(e:Emb (p::F) o L):L[o]?=some p:=e 0 p rfl
theorem Emb.tail {p:List AV × Option Loc}{F L:List (List AV × Option Loc)}{o:Nat}(e:Emb (p::F) o L):Emb F (o+1) L:=fun i q h=>by
 have:=e (i+1) q (by simpa using h)
 rwa [show o+(i+1)=o+1+i by omega] at this
theorem Emb.left {F G L:List (List AV × Option Loc)}{o:Nat}(e:Emb (F++G) o L):Emb F o L:=fun i q h=>e i q (by rw[List.getElem?_append_left (List.getElem?_eq_some_iff.1 h).1]; exact h)
theorem Emb.right {F G L:List (List AV × Option Loc)}{o:Nat}(e:Emb (F++G) o L):Emb G (o+F.length) L:=fun i q h=>by
 have:=e (F.length+i) q (by rw[List.getElem?_append_right oM,Nat.add_sub_cancel_left]; exact h)
 rwa [show o+(F.length+i)=o+F.length+i by omega] at this
section
variable {H:Type} {enc:TypeId × Value->H} {P:Program} {T E I3:TypeId} {W:World}
theorem RVs.snoc {h:Heap}{r:Rw}{cs:List AV}(a:RV h r cs):∀{l:List Rw} {css:List (List AV)},RVs h l css->RVs h (l++[r]) (css++[cs])
 |_,_,.nil=>.cons a .nil
 |_,_,.cons x y=>.cons x (RVs.snoc a y)
end
end Go.Gm
