/- A part of the proof (GmV, GmX, GmY, GmZ, GmQ, GmG, GmAQa, GmAQb). -/
import Derived.KernelRfl
import Derived.Test.YtldnkafmanalmaaProductKnownP1
namespace Go.Gm
abbrev tT (n:Nat):Opd:=.tmp n
abbrev tK (n:Int):Opd:=.const (.int .i64 n)
abbrev tS (n:Nat) (o:MOp):MOper:=⟨some n,.op o,none⟩
abbrev tD (i n:Nat) (o:MOp):DItem:=⟨i,⟨some n,.op o,none⟩,[]⟩
abbrev tM (n m:Nat):MOper:=tS n (.mv (tT m))
abbrev tL (n m:Nat):MOper:=tS n (.load none (tT m))
abbrev tF (n i m:Nat):MOper:=tS n (.fieldAddr i (tT m))
abbrev tN (n m:Nat):MOper:=tS n (.nilCheck (tT m))
abbrev tX (n i m l:Nat):MOper:=tS n (.idxSl i (tT m) (tT l))
abbrev tA (n i m:Nat):MOper:=tS n (.load (some i) (tT m))
abbrev tW (n i m:Nat):MOper:=⟨none,.op (.store n (tT i) (tT m)),none⟩
abbrev dM (i n m:Nat):DItem:=tD i n (.mv (tT m))
abbrev dL (i n m:Nat):DItem:=tD i n (.load none (tT m))
abbrev dF (i n j m:Nat):DItem:=tD i n (.fieldAddr j (tT m))
end Go.Gm
abbrev Go.Gm.AV.u:Go.Gm.AV:=.undef
set_option linter.unusedVariables false
set_option linter.unusedSimpArgs false
set_option linter.unusedSectionVars false
namespace Go.Gm
abbrev I (n:Int):AV:=.int .i64 n
theorem t1_ {n:Int} (h0:-9223372036854775808≤n) (h1:n≤9223372036854775807):IntKind.i64.wrap n=n:=by
 simp[IntKind.wrap,IntKind.bits,IntKind.signed]
 omega
def Fit (n:Int):Prop:=-9223372036854775808≤n∧n≤9223372036854775807
section
variable (a b:Int)
theorem b2c:binV .lss .scalar (I a) (I b)=some (.bool (decide (a<b))):=rfl
theorem b4h:binV .leq .scalar (I a) (I b)=some (.bool (decide (a≤b))):=rfl
theorem b2d:binV .gtr .scalar (I a) (I b)=some (.bool (decide (a > b))):=rfl
theorem b4i:binV .geq .scalar (I a) (I b)=some (.bool (decide (a≥b))):=rfl
theorem b4j:binV .eql .scalar (I a) (I b)=some (.bool (a == b)):=rfl
theorem b4k:binV .neq .scalar (I a) (I b)=some (.bool (a != b)):=rfl
theorem b4l (h:Fit (a+b)):binV .add .scalar (I a) (I b)=some (I (a+b)):=by
 show some (AV.int .i64 (IntKind.i64.wrap (a+b)))=_
 rw[t1_ h.1 h.2]
theorem b7j (h:Fit (a-b)):binV .sub .scalar (I a) (I b)=some (I (a-b)):=by
 show some (AV.int .i64 (IntKind.i64.wrap (a-b)))=_
 rw[t1_ h.1 h.2]
theorem b4m (h:b≠0):binV .rem .scalar (I a) (I b)=some (I (a.tmod b)):=by
 show (if b=0 then none else some (AV.int .i64 (a.tmod b)))=_
 rw[if_neg h]
theorem b5m (b:Bool):unV .not (.bool b)=some (.bool (!b)):=rfl
end
def Ext (h h':Heap):Prop:=h <+: h'
theorem Ext.refl (h:Heap):Ext h h:=List.prefix_refl h
theorem Ext.trans {h h' h'':Heap} (a:Ext h h') (b:Ext h' h''):Ext h h'':=List.IsPrefix.trans a b
theorem Ext.push (h:Heap) (x:List AObj):Ext h (h++x):=List.prefix_append h x
theorem Ext.len {h h':Heap} (a:Ext h h'):h.length≤h'.length:=List.IsPrefix.length_le a
theorem Ext.get {h h':Heap} (a:Ext h h') {o:Nat} {x:AObj} (hx:h[o]?=some x):h'[o]?=some x:=by
 obtain ⟨t,rfl⟩:=a
 rw[List.getElem?_append_left (List.getElem?_eq_some_iff.1 hx).1]
 exact hx
theorem Ext.set {h h':Heap} (a:Ext h h') {o:Nat} (ho:h.length≤o) (x:AObj):Ext h (h'.set o x):=by
 obtain ⟨t,rfl⟩:=a
 rw[List.set_append_right _ _ ho]
 exact List.prefix_append _ _
def At (h:Heap) (p:AV) (cs:List AV):Prop:=
 ∃o off hi g c,p=.ptr o off hi g∧off+cs.length≤hi∧h[o]?=some (.cells c)∧c.wg≤g∧(c.cells.drop off).take cs.length=cs
theorem At.ext {h h':Heap} {p:AV} {cs:List AV} (a:At h p cs) (e:Ext h h'):At h' p cs:=by
 obtain ⟨o,off,hi,g,c,h1,h2,h3,h4⟩:=a
 exact ⟨o,off,hi,g,c,h1,h2,e.get h3,h4⟩
theorem At.cell {h:Heap} {p:AV} {cs:List AV} (a:At h p cs) {d:Nat} {x:AV} (hx:cs[d]?=some x):∃p',fldA d p=some p'∧ld1 h p'=some x:=by
 obtain ⟨o,off,hi,g,c,rfl,h2,h3,h4,h5⟩:=a
 have hd:=(List.getElem?_eq_some_iff.1 hx).1
 refine ⟨_,rfl,?_⟩
 simp only[ld1,h3]
 rw[if_pos ⟨h4,by omega⟩]
 rw[←h5,List.getElem?_take,if_pos hd,List.getElem?_drop] at hx
 exact hx
theorem At.ld1 {h:Heap} {p:AV} {x:AV} {cs:List AV} (a:At h p (x::cs)):ld1 h p=some x:=by
 obtain ⟨p',h1,h2⟩:=a.cell (d:=0) rfl
 obtain ⟨o,off,hi,g,c,rfl,_⟩:=a
 injection h1 with h1
 rw[←h1] at h2
 exact h2
theorem At.nil {h:Heap} {p:AV} {cs:List AV} (a:At h p cs):nilCk p=some p:=by
 obtain ⟨o,off,hi,g,c,rfl,_⟩:=a
 rfl
theorem At.ldN {h:Heap} {p:AV} {cs:List AV} (a:At h p cs) {n:Nat} (hn:n≤cs.length):ldN n h p=some (.agg (cs.take n)):=by
 obtain ⟨o,off,hi,g,c,rfl,h2,h3,h4,h5⟩:=a
 simp only[Gm.ldN,rdc,h3,if_pos h4]
 rw[if_pos (by omega)]
 simp only[Option.map_some]
 congr 2
 conv=>rhs; rw[←h5]
 rw[List.take_take,Nat.min_eq_left hn]
def Sl (h:Heap) (sz:Nat) (s:AV) (xs:List (List AV)):Prop:=
 (s=.nils∧xs=[])∨∃o off lim g c,s=.sl o off xs.length sz lim g∧h[o]?=some (.cells c)∧c.wg≤g∧(c.cells.drop off).take (xs.length*sz)=xs.flatten∧∀x∈xs,x.length=sz
theorem Sl.ext {h h':Heap} {sz:Nat} {s:AV} {xs:List (List AV)} (a:Sl h sz s xs) (e:Ext h h'):Sl h' sz s xs:=by
 rcases a with a|⟨o,off,lim,g,c,h1,h2,h3⟩
 ·exact .inl a
 ·exact .inr ⟨o,off,lim,g,c,h1,e.get h2,h3⟩
theorem Sl.len {h:Heap} {sz:Nat} {s:AV} {xs:List (List AV)} (a:Sl h sz s xs):lenS s=some (I xs.length):=by
 rcases a with ⟨rfl,rfl⟩|⟨o,off,lim,g,c,rfl,_⟩<;>rfl
theorem b1D {sz:Nat}:∀{xs:List (List AV)},(∀x∈xs,x.length=sz)→∀{i:Nat} {x:List AV},xs[i]?=some x→(xs.flatten.drop (i*sz)).take sz=x
 |[],_,i,x,hx=>by simp at hx
 |y::ys,hl,0,x,hx=>by
  simp only[List.getElem?_cons_zero,Option.some.injEq] at hx
  subst hx
  simp only[Nat.zero_mul,List.drop_zero,List.flatten_cons]
  have h1:=hl y (by simp)
  rw[List.take_append_of_le_length (by omega),List.take_of_length_le (by omega)]
 |y::ys,hl,i+1,x,hx=>by
  have h1:=hl y (by simp)
  rw[List.flatten_cons,Nat.add_mul,Nat.one_mul,Nat.add_comm,←List.drop_drop,List.drop_append_of_le_length (by omega),←h1,List.drop_length,List.nil_append,h1]
  exact b1D (fun z hz=>hl z (List.mem_cons_of_mem _ hz)) (by simpa using hx)
theorem Sl.idx {h:Heap} {sz:Nat} {s:AV} {xs:List (List AV)} (a:Sl h sz s xs) {i:Nat} {x:List AV} (hx:xs[i]?=some x):∃p,idxS sz s (I i)=some p∧At h p x:=by
 have hi:=(List.getElem?_eq_some_iff.1 hx).1
 rcases a with ⟨rfl,rfl⟩|⟨o,off,lim,g,c,rfl,h2,h3,h4,h5⟩
 ·simp at hx
 ·have hxl:x.length=sz:=h5 x (List.mem_of_getElem? hx)
  refine ⟨.ptr o (off+i*sz) (off+i*sz+sz) g,by simp[idxS,hi],o,_,_,g,c,rfl,by omega,h2,h3,?_⟩
  rw[hxl,←List.drop_drop]
  have:=b1D h5 hx
  rw[←h4] at this
  rw[List.drop_take,List.take_take] at this
  have hle:sz≤xs.length*sz-i*sz:=by
   have:(i+1)*sz≤xs.length*sz:=Nat.mul_le_mul_right _ hi
   rw[Nat.add_mul,Nat.one_mul] at this
   omega
  rw[Nat.min_eq_left hle] at this
  exact this
def Row (h:Heap) (o:Nat) (c:CObj):Prop:=h[o]?=some (.cells c)
theorem Row.ext {h h':Heap} {o:Nat} {c:CObj} (a:Row h o c) (e:Ext h h'):Row h' o c:=e.get a
theorem Row.lt {h:Heap} {o:Nat} {c:CObj} (a:Row h o c):o<h.length:=(List.getElem?_eq_some_iff.1 a).1
theorem Row.push {h:Heap} {o:Nat} {c:CObj} (a:Row h o c) (x:AObj):Row (h++[x]) o c:=a.ext (Ext.push h [x])
abbrev vobj (cs:List AV):CObj:=⟨cs,0,0,false⟩
theorem b5n {cs:List AV} (h:Heap) (h1:cs.all AV.one=true):newVar h cs=some (.ptr h.length 0 cs.length 0,mkObj h cs):=by
 unfold newVar; rw[if_pos h1]
theorem Row.new (h:Heap) (cs:List AV):Row (mkObj h cs) h.length (vobj cs):=by
 simp[Row,mkObj]
theorem Ext.new (h:Heap) (cs:List AV):Ext h (mkObj h cs):=Ext.push h _
theorem Row.at {h:Heap} {o:Nat} {c:CObj} (a:Row h o c) {g:Nat} (hg:c.wg≤g) {off n hi:Nat} (hn:off+n≤c.cells.length) (hhi:off+n≤hi):At h (.ptr o off hi g) ((c.cells.drop off).take n):=by
 have hl:((c.cells.drop off).take n).length=n:=by simp; omega
 exact ⟨o,off,hi,g,c,rfl,by rw[hl]; exact hhi,a,hg,by rw[hl]⟩
end Go.Gm
namespace Go.Gm
mutual
theorem AV.beq_refl:∀a:AV,AV.beq a a=true
 |.undef=>rfl
 |.bool b=>by simp[AV.beq]
 |.int k n=>by simp[AV.beq]
 |.str s=>by simp[AV.beq]
 |.nilp=>rfl
 |.ptr ..=>by simp[AV.beq]
 |.nils=>rfl
 |.sl ..=>by simp[AV.beq]
 |.nilmap=>rfl
 |.map _=>by simp[AV.beq]
 |.nilfn=>rfl
 |.fn f a b=>by simp[AV.beq,AV.beqs_refl a,AV.beqs_refl b]
 |.nilifc=>rfl
 |.ifc t v=>by simp[AV.beq,AV.beq_refl v]
 |.agg a=>by simp[AV.beq,AV.beqs_refl a]
 |.tup a=>by simp[AV.beq,AV.beqs_refl a]
theorem AV.beqs_refl:∀a:List AV,AV.beqs a a=true
 |[]=>rfl
 |a::r=>by simp[AV.beqs,AV.beq_refl a,AV.beqs_refl r]
end

section
variable {R:Type}
@[congr] theorem oa_cg {x y:Option AV} {K:AV→Option R} (h:x=y):oa x K=oa y K:=by rw[h]
@[congr] theorem oh_cg {x y:Option Heap} {K:Heap→Option R} (h:x=y):oh x K=oh y K:=by rw[h]
@[congr] theorem ob_cg {x y:Option (AV × Heap)} {K:AV→Heap→Option R} (h:x=y):ob x K=ob y K:=by rw[h]
@[congr] theorem gd_cg {g g':AV} {b:Bool} {x:Option (AV × Heap)} {h:Heap} (e:g=g'):gd g b x h=gd g' b x h:=by rw[e]
@[congr] theorem cond2_cg {c d:AV} {a b:Option R} (e:c=d):cond2 c a b=cond2 d a b:=by rw[e]
@[congr] theorem chk_cg {c d:Bool} {x:Option R} (e:c=d):chk c x=chk d x:=by rw[e]
theorem gd_tt (x:Option (AV × Heap)) (h:Heap):gd (.bool true) true x h=x:=rfl
theorem gd_ft (x:Option (AV × Heap)) (h:Heap):gd (.bool false) true x h=some (.tup [],h):=rfl
theorem gd_ff (x:Option (AV × Heap)) (h:Heap):gd (.bool false) false x h=x:=rfl
theorem gd_tf (x:Option (AV × Heap)) (h:Heap):gd (.bool true) false x h=some (.tup [],h):=rfl
theorem gd_n (b:Bool) (x:Option (AV × Heap)) (h:Heap):gd (.tup []) b x h=some (.tup [],h):=rfl
theorem b3j (x:Option AV) (h:Heap) (K:AV→Heap→Option R):ob (pure1 h x) K=oa x fun v=>K v h:=by cases x<;>rfl
theorem b5o (a b:AV):pickV (.bool true) a b=some a:=rfl
theorem b5p (a b:AV):pickV (.bool false) a b=some b:=rfl
theorem b0O (h:Heap) (v:AV):pure1 h (some v)=some (v,h):=rfl
theorem b1E (v:AV) (h:Heap):sameB (some (v,h)) v=true:=AV.beq_refl v
theorem b1F (call:CallF) (f:FuncId) (a b args:List AV) (h:Heap):callVal call (.fn f a b) args h=call f (a++args++b) h:=rfl
end
section
variable {ι:Type} [Fuel ι]
@[congr] theorem WP_cg {c d:ι→Option (AV × Heap)} {Q:AV→Heap→Prop} (h:∀i,c i=d i):WP c Q=WP d Q:=by rw[funext h]
end
section
variable {ι:Type} [Fuel ι]
theorem WP.rnd {c:ι × Nat→Option (AV × Heap)} {d:ι→Nat→Option (AV × Heap)} {Q:AV→Heap→Prop} (he:∀i j,c (i,j+1)=d i j) (hl:WP (fun p:ι × Nat=>d p.1 p.2) Q):WP c Q:=
 WP.round (L:=fun i j=>c (i,j)) (d:=d) he hl
theorem WP.ent {c:ι→Option (AV × Heap)} {c2:ι × Nat→Option (AV × Heap)} {Q:AV→Heap→Prop} (hl:WP c2 Q) (hc:∀i,c i=c2 (i,Fuel.k i)):WP c Q:=
 WP.congr hc (WP.enter (L:=fun i j=>c2 (i,j)) hl)
theorem WP.lv {c:ι × Nat→Option (AV × Heap)} {d:ι→Option (AV × Heap)} {Q:AV→Heap→Prop} (hd:WP d Q) (hc:∀i j,c (i,j)=d i):WP c Q:=
 WP.congr (fun p=>hc p.1 p.2) (WP.leave hd)
end
section
variable {a b:Int}
theorem lss_t (h:a<b):binV .lss .scalar (I a) (I b)=some (.bool true):=by rw[b2c,decide_eq_true h]
theorem lss_f (h:¬a<b):binV .lss .scalar (I a) (I b)=some (.bool false):=by rw[b2c,decide_eq_false h]
theorem leq_t (h:a≤b):binV .leq .scalar (I a) (I b)=some (.bool true):=by rw[b4h,decide_eq_true h]
theorem leq_f (h:¬a≤b):binV .leq .scalar (I a) (I b)=some (.bool false):=by rw[b4h,decide_eq_false h]
theorem gtr_t (h:b<a):binV .gtr .scalar (I a) (I b)=some (.bool true):=by rw[b2d,decide_eq_true h]
theorem gtr_f (h:¬b<a):binV .gtr .scalar (I a) (I b)=some (.bool false):=by rw[b2d,decide_eq_false h]
theorem geq_t (h:b≤a):binV .geq .scalar (I a) (I b)=some (.bool true):=by rw[b4i,decide_eq_true h]
theorem geq_f (h:¬b≤a):binV .geq .scalar (I a) (I b)=some (.bool false):=by rw[b4i,decide_eq_false h]
theorem eql_t (h:a=b):binV .eql .scalar (I a) (I b)=some (.bool true):=by rw[b4j,beq_iff_eq.2 h]
theorem eql_f (h:¬a=b):binV .eql .scalar (I a) (I b)=some (.bool false):=by rw[b4j,beq_eq_false_iff_ne.2 h]
theorem neq_t (h:¬a=b):binV .neq .scalar (I a) (I b)=some (.bool true):=by rw[b4k,bne_iff_ne.2 h]
theorem neq_f (h:a=b):binV .neq .scalar (I a) (I b)=some (.bool false):=by rw[b4k]; simp[h]
theorem add_i (h1:-9223372036854775808≤a+b) (h2:a+b≤9223372036854775807):binV .add .scalar (I a) (I b)=some (I (a+b)):=b4l a b ⟨h1,h2⟩
theorem sub_i (h1:-9223372036854775808≤a-b) (h2:a-b≤9223372036854775807):binV .sub .scalar (I a) (I b)=some (I (a-b)):=b7j a b ⟨h1,h2⟩
theorem rem_i (h1:¬b=0):binV .rem .scalar (I a) (I b)=some (I (a.tmod b)):=b4m a b h1
theorem quo_w (h1:¬b=0):binV .quo .scalar (I a) (I b)=some (I (IntKind.i64.wrap (a.tdiv b))):=by
 show (if b=0 then none else some (AV.int .i64 (IntKind.i64.wrap (a.tdiv b))))=_
 rw[if_neg h1]
theorem mul_w:binV .mul .scalar (I a) (I b)=some (I (IntKind.i64.wrap (a*b))):=rfl
theorem eql_b (a b:Bool):binV .eql .bool (.bool a) (.bool b)=some (.bool (a == b)):=rfl
theorem neq_b (a b:Bool):binV .neq .bool (.bool a) (.bool b)=some (.bool (!(a == b))):=rfl
theorem b1G (o off len sz:Nat) (lim:Option Nat) (g:Nat):binV .eql .slice (.sl o off len sz lim g) .nils=some (.bool false):=rfl
theorem b0P:binV .eql .slice .nils .nils=some (.bool true):=rfl
theorem b5q:mmV true (I a) (I b)=some (I (max a b)):=by
 show some (AV.int .i64 (if (true:Bool)=true then (if b > a then b else a) else _))=_
 simp only[if_true]
 congr 2
 omega
theorem b5r:mmV false (I a) (I b)=some (I (min a b)):=by
 show some (AV.int .i64 (if (false:Bool)=true then _ else (if b<a then b else a)))=_
 simp only[Bool.false_eq_true,if_false]
 congr 2
 omega
end
def AV.obj:AV→Nat
 |.ptr o _ _ _=>o
 |.sl o _ _ _ _ _=>o
 |.map o=>o
 |_=>0
def elP (sz:Nat) (s:AV) (i:Int):AV:=match s with
 |.sl o off _ _ _ g=>.ptr o (off+i.toNat*sz) (off+i.toNat*sz+sz) g
 |_=>.ptr 0 0 0 0
def fldP (d:Nat):AV→AV
 |.ptr o off hi g=>.ptr o (off+d) hi g
 |v=>v
theorem a6A (d o off hi g:Nat):fldP d (.ptr o off hi g)=.ptr o (off+d) hi g:=rfl
theorem b2D (d e:Nat) (p:AV):fldP d (fldP e p)=fldP (e+d) p:=by cases p<;>simp[fldP,Nat.add_assoc]
theorem b3k (d o off hi g:Nat):fldA d (.ptr o off hi g)=some (.ptr o (off+d) hi g):=rfl
theorem b4n (o off hi g:Nat):nilCk (.ptr o off hi g)=some (.ptr o off hi g):=rfl
theorem b4o (sz d:Nat) (s:AV) (i:Int):fldA d (elP sz s i)=some (fldP d (elP sz s i)):=by cases s<;>rfl
theorem b3l (sz d e:Nat) (s:AV) (i:Int):fldA d (fldP e (elP sz s i))=some (fldP (e+d) (elP sz s i)):=by cases s<;>simp[elP,fldP,fldA,Nat.add_assoc]
theorem b5s (sz:Nat) (s:AV) (i:Int):nilCk (elP sz s i)=some (elP sz s i):=by cases s<;>rfl
theorem b4p (sz e:Nat) (s:AV) (i:Int):nilCk (fldP e (elP sz s i))=some (fldP e (elP sz s i)):=by cases s<;>rfl
theorem b5t (o off len sz:Nat) (lim:Option Nat) (g:Nat):lenS (.sl o off len sz lim g)=some (I len):=rfl
theorem b4q:lenS .nils=some (I 0):=rfl
theorem b5u {o off len sz:Nat} {lim:Option Nat} {g:Nat} {i:Int} (h0:0≤i) (h1:i<len):idxS sz (.sl o off len sz lim g) (I i)=some (.ptr o (off+i.toNat*sz) (off+i.toNat*sz+sz) g):=by
 simp[idxS,h0,h1]
def rdAt (x:Option AObj) (off hi g:Nat):Option AV:=match x with
 |some (.cells c)=>if c.wg≤g∧off<hi then c.cells[off]? else none
 |_=>none
theorem b4r (h:Heap) (o off hi g:Nat):ld1 h (.ptr o off hi g)=rdAt h[o]? off hi g:=rfl
theorem b3m {cs:List AV} {gen wg:Nat} {ro:Bool} {off hi g:Nat} (h1:wg≤g) (h2:off<hi):rdAt (some (.cells ⟨cs,gen,wg,ro⟩)) off hi g=cs[off]?:=if_pos ⟨h1,h2⟩
def rdNAt (n:Nat) (x:Option AObj) (off hi g:Nat):Option AV:=match x with
 |some (.cells c)=>if off+n≤hi∧c.wg≤g then some (.agg ((c.cells.drop off).take n)) else none
 |_=>none
theorem b4s (n:Nat) (h:Heap) (o off hi g:Nat):ldN n h (.ptr o off hi g)=rdNAt n h[o]? off hi g:=by
 simp only[ldN,rdc,rdNAt]
 cases hx:h[o]? with
 |none=>simp
 |some x=>
  cases x with
  |cells c=>
   simp only
   by_cases h1:off+n≤hi
   ·by_cases h2:c.wg≤g
    ·simp[h1,h2]
    ·simp[h1,h2]
   ·simp[h1]
  |map m=>simp
theorem b2E {n:Nat} {cs:List AV} {gen wg:Nat} {ro:Bool} {off hi g:Nat} (h1:wg≤g) (h2:off+n≤hi):rdNAt n (some (.cells ⟨cs,gen,wg,ro⟩)) off hi g=some (.agg ((cs.drop off).take n)):=if_pos ⟨h2,h1⟩
def wrAt (n:Nat) (h:Heap) (x:Option AObj) (o off hi g:Nat) (vs:List AV):Option Heap:=match x with
 |some (.cells c)=>if vs.length=n∧c.ro=false∧c.gen=g∧off+vs.length≤hi∧vs.all AV.one=true then some (h.set o (.cells { c with cells:=setAll c.cells off vs,wg:=g })) else none
 |_=>none
theorem a8y (n:Nat) (h:Heap) (o off hi g:Nat) (v:AV):stN n h (.ptr o off hi g) v=wrAt n h h[o]? o off hi g v.cells:=by
 simp only[stN,wrc,wrAt]
 by_cases h1:v.cells.length=n
 ·simp only[if_pos h1]
  cases hx:h[o]? with
  |none=>rfl
  |some x=>
   cases x with
   |cells c=>simp only[h1,true_and]
   |map m=>rfl
 ·simp only[if_neg h1]
  cases hx:h[o]? with
  |none=>rfl
  |some x=>
   cases x with
   |cells c=>simp only[h1,false_and,if_false]
   |map m=>rfl
theorem a5f {n:Nat} {h:Heap} {cs:List AV} {gen wg:Nat} {o off hi g:Nat} {vs:List AV} (h1:vs.length=n) (h2:gen=g) (h3:off+n≤hi) (h4:vs.all AV.one=true) :
  wrAt n h (some (.cells ⟨cs,gen,wg,false⟩)) o off hi g vs=some (h.set o (.cells ⟨setAll cs off vs,gen,g,false⟩)):=by
 subst h1 h2
 exact if_pos ⟨rfl,rfl,rfl,h3,h4⟩
theorem j1_ {h:Heap} {o p:Nat} {x:AObj} (hne:¬o=p):(h.set o x)[p]?=h[p]?:=List.getElem?_set_ne hne
theorem a8_ {h:Heap} {o:Nat} {x:AObj} (ho:o<h.length):(h.set o x)[o]?=some x:=by simp[ho]
theorem b0g {h t:Heap} {o:Nat} (ho:o<h.length):(h++t)[o]?=h[o]?:=List.getElem?_append_left ho
theorem b0h {h t:Heap} {o:Nat} (ho:h.length≤o):(h++t)[o]?=t[o-h.length]?:=List.getElem?_append_right ho
theorem a6_ (h:Heap) (cs:List AV):mkObj h cs=h++[.cells ⟨cs,0,0,false⟩]:=rfl
theorem b3n {cs:List AV} {h:Heap} (h1:cs.all AV.one=true):newVar h cs=some (.ptr h.length 0 cs.length 0,mkObj h cs):=b5n h h1
section
variable (k:IntKind) (n:Int) (b:Bool) (s:ByteArray) (o off hi g sz:Nat) (lim:Option Nat) (cs:List AV) (t:TypeId) (v:AV)
theorem a8z:(AV.int k n).one=true:=rfl
theorem a9f:(AV.bool b).one=true:=rfl
theorem b0z:(AV.str s).one=true:=rfl
theorem b0A:(AV.ptr o off hi g).one=true:=rfl
theorem b1H:(AV.sl o off hi sz lim g).one=true:=rfl
theorem a9g:AV.nils.one=true:=rfl
theorem a9h:AV.nilp.one=true:=rfl
theorem b0B:(AV.ifc t v).one=true:=rfl
theorem b0C:(AV.map o).one=true:=rfl
theorem w8_:(AV.int k n).cells=[.int k n]:=rfl
theorem a6g:(AV.bool b).cells=[.bool b]:=rfl
theorem a7F:(AV.str s).cells=[.str s]:=rfl
theorem a7G:(AV.ptr o off hi g).cells=[.ptr o off hi g]:=rfl
theorem a9i:(AV.sl o off hi sz lim g).cells=[.sl o off hi sz lim g]:=rfl
theorem a6h:AV.nils.cells=[.nils]:=rfl
theorem a6i:AV.nilp.cells=[.nilp]:=rfl
theorem a7H:(AV.ifc t v).cells=[.ifc t v]:=rfl
theorem a7I:(AV.map o).cells=[.map o]:=rfl
theorem a7J:(AV.agg cs).cells=cs:=rfl
end
theorem b4t (cs:List AV):fillP cs []=some cs:=rfl
theorem b4u {cs:List AV} {off size:Nat} {v:AV} {r:List (Nat × Nat × AV)} (h1:v.cells.length=size) (h2:off+size≤cs.length) (h3:v.cells.all AV.one=true):fillP cs ((off,size,v)::r)=fillP (setAll cs off v.cells) r:=if_pos ⟨h1,h2,h3⟩
theorem b3o (z:List AV) (ps:List (Nat × Nat × AV)):buildV z ps=(fillP z ps).map .agg:=rfl
def bsl (sz len:Nat) (h:Heap) (x:Option (List AV)):Option (AV × Heap):=match x with
 |some cs=>if cs.all AV.one=true∧cs.length=len*sz then some (.sl h.length 0 len sz none 0,mkObj h cs) else none
 |none=>none
theorem b2F (sz len:Nat) (z:List AV) (ps:List (Nat × Nat × AV)) (h:Heap):buildSl sz len z ps h=bsl sz len h (fillP z ps):=rfl
theorem bsl_i {sz len:Nat} {h:Heap} {cs:List AV} (h1:cs.all AV.one=true) (h2:cs.length=len*sz):bsl sz len h (some cs)=some (.sl h.length 0 len sz none 0,mkObj h cs):=if_pos ⟨h1,h2⟩
theorem b8c {zero:List AV} {sz bytes:Nat} {l c:Int} {h:Heap} (h1:0≤l) (h2:l≤c) (h3:c*bytes≤140737488355328) (h4:c≤140737488355328) (h5:zero.length=sz) (h6:zero.all AV.one=true) :
  mkSl zero sz bytes (I l) (I c) h=some (.sl h.length 0 l.toNat sz none 0,mkObj h ((List.replicate l.toNat zero).flatten)):=if_pos ⟨h1,h2,h3,h4,h5,h6⟩
theorem Ext.app {h H:Heap} (a:Ext h H) (t:Heap):Ext h (H++t):=a.trans (Ext.push H t)
theorem Ext.mk {h H:Heap} (a:Ext h H) (cs:List AV):Ext h (mkObj H cs):=a.trans (Ext.push H _)
theorem Ext.setr {h H:Heap} (a:Ext h H) {o:Nat} (ho:h.length≤o) (x:AObj):Ext h (H.set o x):=a.set ho x
theorem Ext.def {h h':Heap} (a:Ext h h'):∃t,h'=h++t:=let ⟨t,e⟩:=a; ⟨t,e.symm⟩
def gi {α:Type} [Inhabited α] (xs:List α) (i:Int):α:=xs.getD i.toNat default
theorem w5_ {α:Type} [Inhabited α] {xs:List α} {i:Int} (h0:0≤i) (h1:i<xs.length):xs[i.toNat]?=some (gi xs i):=by
 have:i.toNat<xs.length:=by omega
 simp[gi,List.getD_eq_getElem?_getD,this]
theorem j3_ {α:Type} [Inhabited α] {xs:List α} {i:Int} (h0:0≤i) (h1:i<xs.length):gi xs i∈xs:=List.mem_of_getElem? (w5_ h0 h1)
theorem d7_ {α:Type} [Inhabited α] {xs:List α} {n:Nat} (h1:n<xs.length):gi xs (n:Int)=xs[n]:=by
 simp[gi,List.getD_eq_getElem?_getD,h1]
section
variable {h H:Heap} {sz:Nat} {s:AV} {α:Type} [Inhabited α] {enc:α→List AV} {xs:List α} {i:Int}
theorem Sl.idxG (a:Sl h sz s (xs.map enc)) {i:Int} (h0:0≤i) (h1:i<xs.length):idxS sz s (I i)=some (elP sz s i):=by
 rcases a with ⟨rfl,h2⟩|⟨o,off,lim,g,c,rfl,_⟩
 ·rw[List.map_eq_nil_iff] at h2; subst h2; simp at h1; omega
 ·simp[idxS,elP,h0,h1]
theorem Sl.lenG (a:Sl h sz s (xs.map enc)):lenS s=some (I xs.length):=by rw[a.len,List.length_map]
theorem Sl.atG (a:Sl h sz s (xs.map enc)) {H:Heap} {i:Int} (e:Ext h H) (h0:0≤i) (h1:i<xs.length):At H (elP sz s i) (enc (gi xs i)):=by
 have hx:(xs.map enc)[i.toNat]?=some (enc (gi xs i)):=by simp[w5_ h0 h1]
 obtain ⟨p,h2,h3⟩:=(a.ext e).idx hx
 have h4:=a.idxG h0 h1
 rw[show ((i.toNat:Nat):Int)=i by omega] at h2
 rw[h2] at h4
 injection h4 with h4
 rw[←h4]; exact h3
theorem At.ldf {p:AV} {cs:List AV} (a:At h p cs) {d:Nat} (hd:d<cs.length):Gm.ld1 h (fldP d p)=some (cs.getD d .undef):=by
 obtain ⟨p',h1,h2⟩:=a.cell (d:=d) (List.getElem?_eq_getElem hd)
 obtain ⟨o,off,hi,g,c,rfl,_⟩:=a
 injection h1 with h1
 rw[a6A,h1,h2,List.getD_eq_getElem?_getD,List.getElem?_eq_getElem hd]; rfl
theorem At.ld0 {p:AV} {cs:List AV} (a:At h p cs) (hd:0<cs.length):Gm.ld1 h p=some (cs.getD 0 .undef):=by
 have:=a.ldf hd
 obtain ⟨o,off,hi,g,c,rfl,_⟩:=a
 exact this
theorem Sl.encLen (a:Sl h sz s (xs.map enc)) {i:Int} (h0:0≤i) (h1:i<xs.length):(enc (gi xs i)).length=sz:=by
 rcases a with ⟨rfl,h2⟩|⟨o,off,lim,g,c,rfl,_,_,_,h5⟩
 ·rw[List.map_eq_nil_iff] at h2; subst h2; simp at h1; omega
 ·exact h5 _ (List.mem_map_of_mem (j3_ h0 h1))
theorem Sl.ldf (a:Sl h sz s (xs.map enc)) (d:Nat) {H:Heap} {i:Int} (e:Ext h H) (h0:0≤i) (h1:i<xs.length) (hd:d<sz):Gm.ld1 H (fldP d (elP sz s i))=some ((enc (gi xs i)).getD d .undef):=(a.atG e h0 h1).ldf (by rw[a.encLen h0 h1]; exact hd)
theorem Sl.ld0 (a:Sl h sz s (xs.map enc)) {H:Heap} {i:Int} (e:Ext h H) (h0:0≤i) (h1:i<xs.length) (hd:0<sz):Gm.ld1 H (elP sz s i)=some ((enc (gi xs i)).getD 0 .undef):=(a.atG e h0 h1).ld0 (by rw[a.encLen h0 h1]; exact hd)
theorem Sl.ldN (a:Sl h sz s (xs.map enc)) {H:Heap} {i:Int} (e:Ext h H) (h0:0≤i) (h1:i<xs.length):Gm.ldN sz H (elP sz s i)=some (.agg (enc (gi xs i))):=by
 have h2:=(a.atG e h0 h1).ldN (n:=sz) (by rw[a.encLen h0 h1]; exact Nat.le_refl _)
 rw[h2,List.take_of_length_le (by rw[a.encLen h0 h1]; exact Nat.le_refl _)]
end
section
variable {h H:Heap} {p:AV} {cs:List AV}
theorem At.fldA0 (a:At h p cs) (d:Nat):fldA d p=some (fldP d p):=by
 obtain ⟨o,off,hi,g,c,rfl,_⟩:=a; rfl
theorem At.fldAf (a:At h p cs) (d e:Nat):fldA d (fldP e p)=some (fldP (e+d) p):=by
 obtain ⟨o,off,hi,g,c,rfl,_⟩:=a; simp[fldP,fldA,Nat.add_assoc]
theorem At.ldfE (a:At h p cs) (d:Nat) {H:Heap} (e:Ext h H) (hd:d<cs.length):Gm.ld1 H (fldP d p)=some (cs.getD d .undef):=(a.ext e).ldf hd
theorem At.neq (a:At h p cs):binV .neq .ptr p .nilp=some (.bool true):=by
 obtain ⟨o,off,hi,g,c,rfl,_⟩:=a; rfl
theorem At.eql (a:At h p cs):binV .eql .ptr p .nilp=some (.bool false):=by
 obtain ⟨o,off,hi,g,c,rfl,_⟩:=a; rfl
end
end Go.Gm
namespace Go.Gm
def Fr (lo hi:Nat) (h h':Heap):Prop:=h.length≤h'.length∧∀o,(o<lo∨hi≤o)→o<h.length→h'[o]?=h[o]?
theorem Fr.get {lo hi:Nat} {h h':Heap} (a:Fr lo hi h h') {o:Nat} (h1:o<lo∨hi≤o) (h2:o<h.length):h'[o]?=h[o]?:=a.2 o h1 h2
theorem Fr.len {lo hi:Nat} {h h':Heap} (a:Fr lo hi h h'):h.length≤h'.length:=a.1
theorem Fr.refl (lo hi:Nat) (h:Heap):Fr lo hi h h:=⟨Nat.le_refl _,fun _ _ _=>rfl⟩
theorem Fr.trans {lo hi:Nat} {h h' h'':Heap} (a:Fr lo hi h h') (b:Fr lo hi h' h''):Fr lo hi h h'':=
 ⟨Nat.le_trans a.1 b.1,fun o h1 h2=>(b.2 o h1 (Nat.lt_of_lt_of_le h2 a.1)).trans (a.2 o h1 h2)⟩
theorem Fr.mono {lo hi lo' hi':Nat} {h h':Heap} (a:Fr lo hi h h') (h1:lo'≤lo) (h2:hi≤hi'):Fr lo' hi' h h':=
 ⟨a.1,fun o k1 k2=>a.2 o (by omega) k2⟩
theorem a2b {h h':Heap}:Ext h h'↔h.length≤h'.length∧∀o,o<h.length→h'[o]?=h[o]?:=by
 constructor
 ·rintro ⟨t,rfl⟩
  exact ⟨by simp,fun o ho=>List.getElem?_append_left ho⟩
 ·rintro ⟨h1,h2⟩
  refine ⟨h'.drop h.length,?_⟩
  apply List.ext_getElem?
  intro i
  by_cases hi:i<h.length
  ·rw[List.getElem?_append_left hi,h2 i hi]
  ·rw[List.getElem?_append_right (by omega),List.getElem?_drop]
   congr 1
   omega
theorem Fr.ext {lo hi:Nat} {h0 h h':Heap} (a:Fr lo hi h h') (e:Ext h0 h) (hl:h0.length≤lo):Ext h0 h':=by
 rw[a2b] at *
 exact ⟨Nat.le_trans e.1 a.1,fun o ho=>(a.2 o (by omega) (by omega)).trans (e.2 o ho)⟩
theorem Fr.ofExt {lo hi:Nat} {h h':Heap} (e:Ext h h'):Fr lo hi h h':=by
 rw[a2b] at e
 exact ⟨e.1,fun o _ ho=>e.2 o ho⟩
theorem Fr.set {lo hi:Nat} (h:Heap) {o:Nat} (h1:lo≤o) (h2:o<hi) (x:AObj):Fr lo hi h (h.set o x):=
 ⟨by simp,fun p k1 k2=>List.getElem?_set_ne (by omega)⟩
def Gr (lo hi:Nat) (h:Heap) (sz:Nat) (s:AV) (xs:List (List AV)):Prop:=
 (s=.nils∧xs=[])∨∃o g wg cs,lo≤o∧o<hi∧s=.sl o 0 xs.length sz none g∧h[o]?=some (.cells ⟨cs,g,wg,false⟩)∧wg≤g∧cs.take (xs.length*sz)=xs.flatten∧∀x∈xs,x.length=sz
theorem Gr.nil (lo hi:Nat) (h:Heap) (sz:Nat):Gr lo hi h sz .nils []:=.inl ⟨rfl,rfl⟩
theorem flatten_len {sz:Nat}:∀{xs:List (List AV)},(∀x∈xs,x.length=sz)→xs.flatten.length=xs.length*sz
 |[],_=>by simp
 |x::xs,h=>by
  rw[List.flatten_cons,List.length_append,h x (by simp),flatten_len (fun y hy=>h y (List.mem_cons_of_mem _ hy)),List.length_cons,Nat.add_mul]
  omega
theorem Gr.sl {lo hi:Nat} {h:Heap} {sz:Nat} {s:AV} {xs:List (List AV)} (a:Gr lo hi h sz s xs):Sl h sz s xs:=by
 rcases a with a|⟨o,g,wg,cs,h1,h2,h3,h4,h5,h6,h7⟩
 ·exact .inl a
 ·exact .inr ⟨o,0,none,g,_,h3,h4,h5,by rw[List.drop_zero]; exact h6,h7⟩
theorem Gr.fr {lo hi lo' hi':Nat} {h h':Heap} {sz:Nat} {s:AV} {xs:List (List AV)} (a:Gr lo hi h sz s xs) (f:Fr lo' hi' h h') (hd:hi≤lo'∨hi'≤lo):Gr lo hi h' sz s xs:=by
 rcases a with a|⟨o,g,wg,cs,h1,h2,h3,h4,h5⟩
 ·exact .inl a
 ·exact .inr ⟨o,g,wg,cs,h1,h2,h3,by rw[f.get (by omega) (List.getElem?_eq_some_iff.1 h4).1]; exact h4,h5⟩
theorem Gr.ext {lo hi:Nat} {h h':Heap} {sz:Nat} {s:AV} {xs:List (List AV)} (a:Gr lo hi h sz s xs) (e:Ext h h'):Gr lo hi h' sz s xs:=by
 rcases a with a|⟨o,g,wg,cs,h1,h2,h3,h4,h5⟩
 ·exact .inl a
 ·exact .inr ⟨o,g,wg,cs,h1,h2,h3,e.get h4,h5⟩
theorem Gr.mono {lo hi lo' hi':Nat} {h:Heap} {sz:Nat} {s:AV} {xs:List (List AV)} (a:Gr lo hi h sz s xs) (h1:lo'≤lo) (h2:hi≤hi'):Gr lo' hi' h sz s xs:=by
 rcases a with a|⟨o,g,wg,cs,k1,k2,h3,h4,h5⟩
 ·exact .inl a
 ·exact .inr ⟨o,g,wg,cs,by omega,by omega,h3,h4,h5⟩
theorem Gr.set {lo hi:Nat} {h:Heap} {sz:Nat} {s:AV} {xs:List (List AV)} (a:Gr lo hi h sz s xs) {o:Nat} (ho:o<lo∨hi≤o) (x:AObj):Gr lo hi (h.set o x) sz s xs:=by
 rcases a with a|⟨p,g,wg,cs,h1,h2,h3,h4,h5⟩
 ·exact .inl a
 ·exact .inr ⟨p,g,wg,cs,h1,h2,h3,by rw[List.getElem?_set_ne (by omega)]; exact h4,h5⟩
theorem Gr.app {lo hi:Nat} {h:Heap} {sz:Nat} {s:AV} {xs:List (List AV)} (a:Gr lo hi h sz s xs) (t:Heap):Gr lo hi (h++t) sz s xs:=a.ext (Ext.push h t)
theorem Gr.low {lo hi:Nat} {h:Heap} {sz:Nat} {s:AV} {xs:List (List AV)} (a:Gr lo hi h sz s xs) (n:Nat) (hn:h.length≤n):Gr lo n h sz s xs:=by
 rcases a with a|⟨p,g,wg,cs,h1,h2,h3,h4,h5⟩
 ·exact .inl a
 ·exact .inr ⟨p,g,wg,cs,h1,by have:=(List.getElem?_eq_some_iff.1 h4).1; omega,h3,h4,h5⟩
theorem Sl.one {h:Heap} {sz:Nat} {s:AV} {xs:List (List AV)} (a:Sl h sz s xs):s.one=true:=by
 rcases a with ⟨rfl,_⟩|⟨o,off,lim,g,c,rfl,_⟩<;>rfl
theorem Sl.cells {h:Heap} {sz:Nat} {s:AV} {xs:List (List AV)} (a:Sl h sz s xs):s.cells=[s]:=by
 rcases a with ⟨rfl,_⟩|⟨o,off,lim,g,c,rfl,_⟩<;>rfl
theorem Sl.sub {h:Heap} {sz:Nat} {s:AV} {xs:List (List AV)} (a:Sl h sz s xs):True:=trivial
theorem Sl.news {h:Heap} {sz:Nat} {s:AV} {xs:List (List AV)} (a:Sl h sz s xs):news sz s h=some (xs.length,xs.flatten):=by
 rcases a with ⟨rfl,rfl⟩|⟨o,off,lim,g,c,rfl,h2,h3,h4,h5⟩
 ·rfl
 ·simp only[Gm.news,if_true,rdc,h2,if_pos h3,h4,Option.map_some]
theorem Gr.appendS {lo hi:Nat} {h:Heap} {sz bytes:Nat} {s x:AV} {xs ys:List (List AV)} (a:Gr lo hi h sz s xs) (b:Sl h sz x ys) (hsz:0<sz) (hb:0<bytes) (hl:(xs.length+ys.length)*bytes≤140737488355328) (hlo:lo≤h.length) (hhi:hi≤h.length) :
  ∃s' h',apnd sz bytes s x h=some (s',h')∧Gr lo h'.length h' sz s' (xs++ys)∧Fr lo hi h h'∧(s≠.nils→Gr lo hi h' sz s' (xs++ys)∧s'≠.nils):=by
 have hys:∀y∈ys,y.length=sz:=by
  rcases b with ⟨_,rfl⟩|⟨_,_,_,_,_,_,_,_,_,h5⟩
  ·simp
  ·exact h5
 have hfl:=flatten_len hys
 simp only[apnd,b.news]
 rcases a with ⟨rfl,rfl⟩|⟨o,g,wg,cs,h1,h2,rfl,h4,h5,h6,h7⟩
 ·simp only[List.length_nil,Nat.zero_add] at hl
  by_cases h0:ys.length=0
  ·have:=List.eq_nil_of_length_eq_zero h0
   subst this
   exact ⟨.nils,h,rfl,.inl ⟨rfl,rfl⟩,Fr.refl _ _ _,fun q=>absurd rfl q⟩
  ·refine ⟨.sl h.length 0 ys.length sz none 0,mkObj h ys.flatten,?_,.inr ⟨h.length,0,0,ys.flatten,hlo,by simp[mkObj],rfl,by simp[mkObj],Nat.le_refl _,List.take_of_length_le (by rw[hfl]; exact Nat.le_refl _),hys⟩,Fr.ofExt (Ext.push h _),fun q=>absurd rfl q⟩
   simp only[if_neg h0]
   rw[if_pos ⟨hl,hfl,hsz,hb⟩]
 ·by_cases h0:ys.length=0
  ·have:=List.eq_nil_of_length_eq_zero h0
   subst this
   simp only[List.append_nil]
   exact ⟨_,h,rfl,.inr ⟨o,g,wg,cs,h1,by omega,rfl,h4,h5,h6,h7⟩,Fr.refl _ _ _,fun _=>⟨.inr ⟨o,g,wg,cs,h1,h2,rfl,h4,h5,h6,h7⟩,by simp⟩⟩
  ·have hox:=(List.getElem?_eq_some_iff.1 h4).1
   have hgr:∀hi',o<hi'→Gr lo hi' (h.set o (.cells ⟨(xs++ys).flatten,g+1,(if xs.length*sz=cs.length then wg else g+1),false⟩)) sz (.sl o 0 (xs.length+ys.length) sz none (g+1)) (xs++ys):=by
    intro hi' hhi'
    refine .inr ⟨o,g+1,(if xs.length*sz=cs.length then wg else g+1),(xs++ys).flatten,h1,hhi',by simp,by simp[hox],by split<;>omega,?_,?_⟩
    ·refine List.take_of_length_le ?_
     rw[flatten_len (sz:=sz)]
     ·exact Nat.le_refl _
     ·intro x hx
      rcases List.mem_append.1 hx with hx|hx
      ·exact h7 x hx
      ·exact hys x hx
    ·intro x hx
     rcases List.mem_append.1 hx with hx|hx
     ·exact h7 x hx
     ·exact hys x hx
   refine ⟨.sl o 0 (xs.length+ys.length) sz none (g+1),h.set o (.cells ⟨(xs++ys).flatten,g+1,(if xs.length*sz=cs.length then wg else g+1),false⟩),?_,hgr _ (by simp; omega),⟨by simp,fun p k1 k2=>List.getElem?_set_ne (by omega)⟩,fun _=>⟨hgr _ h2,by simp⟩⟩
   simp only[if_neg h0,true_and]
   rw[if_neg (by simp only[Classical.not_not]; exact ⟨hl,hfl,hsz,hb⟩)]
   simp only[h4,and_self,if_true,h6]
   simp
theorem Gr.append {lo hi:Nat} {h:Heap} {sz bytes:Nat} {s x:AV} {xs ys:List (List AV)} (a:Gr lo hi h sz s xs) (b:Sl h sz x ys) (hsz:0<sz) (hb:0<bytes) (hl:(xs.length+ys.length)*bytes≤140737488355328) (hlo:lo≤h.length) (hhi:hi≤h.length) :
  ∃s' h',apnd sz bytes s x h=some (s',h')∧Gr lo h'.length h' sz s' (xs++ys)∧Fr lo hi h h':=
 let ⟨s',h',h1,h2,h3,_⟩:=a.appendS b hsz hb hl hlo hhi
 ⟨s',h',h1,h2,h3⟩
theorem Gr.append1 {lo hi:Nat} {h:Heap} {sz bytes:Nat} {s:AV} {xs:List (List AV)} (a:Gr lo hi h sz s xs) {v:List AV} (hv:v.length=sz) (hsz:0<sz) (hb:0<bytes) (hl:(xs.length+1)*bytes≤140737488355328) (hlo:lo≤h.length) (hhi:hi≤h.length) :
  ∃s' h',apnd sz bytes s (.sl h.length 0 1 sz none 0) (mkObj h v)=some (s',h')∧Gr lo h'.length h' sz s' (xs++[v])∧Fr lo hi h h':=by
 have b:Sl (mkObj h v) sz (.sl h.length 0 1 sz none 0) [v]:=.inr ⟨h.length,0,none,0,_,rfl,by simp[mkObj]; rfl,Nat.le_refl _,by simp[List.take_of_length_le (Nat.le_of_eq hv)],by simp[hv]⟩
 obtain ⟨s',h',h1,h2,h3⟩:=(a.ext (Ext.push h _)).append b hsz hb (by simpa using hl) (by simp[mkObj]; omega) (by simp[mkObj]; omega)
 refine ⟨s',h',h1,h2,?_⟩
 exact (Fr.ofExt (lo:=lo) (hi:=hi) (Ext.push h _)).trans h3
theorem b4v {h:Heap} {sz bytes:Nat} {x:AV} {ys:List (List AV)} (b:Sl h sz x ys) (hsz:0<sz) (hb:0<bytes) (hl:ys.length*bytes≤140737488355328) :
  ∃s' h',apnd sz bytes (.sl h.length 0 0 sz none 0) x (mkObj h [])=some (s',h')∧Gr h.length h'.length h' sz s' ys∧Ext h h':=by
 have a:Gr h.length (h.length+1) (mkObj h []) sz (.sl h.length 0 0 sz none 0) []:=.inr ⟨h.length,0,0,[],Nat.le_refl _,by omega,rfl,by simp[mkObj],Nat.le_refl _,by simp,by simp⟩
 obtain ⟨s',h',h1,h2,h3⟩:=a.append (b.ext (Ext.push h _)) hsz hb (by simpa using hl) (by simp[mkObj]) (by simp[mkObj])
 exact ⟨s',h',h1,h2,h3.ext (Ext.push h _) (Nat.le_refl _)⟩
theorem Gr.make {h:Heap} {sz:Nat} {z:List AV} (hz:z.length=sz) (n:Nat):Gr h.length (h.length+1) (mkObj h (List.replicate n z).flatten) sz (.sl h.length 0 n sz none 0) (List.replicate n z):=by
 refine .inr ⟨h.length,0,0,(List.replicate n z).flatten,Nat.le_refl _,by omega,by simp,by simp[mkObj],Nat.le_refl _,?_,?_⟩
 ·refine List.take_of_length_le ?_
  rw[flatten_len (sz:=sz)]
  ·exact Nat.le_refl _
  ·intro x hx; rw[(List.mem_replicate.1 hx).2]; exact hz
 ·intro x hx; rw[(List.mem_replicate.1 hx).2]; exact hz
theorem r6_ {zero:List AV} {sz bytes:Nat} {n:Int} (h:Heap) (h1:0≤n) (h3:n*bytes≤140737488355328) (h4:n≤140737488355328) (h5:zero.length=sz) (h6:zero.all AV.one=true) :
  ∃s h',mkSl zero sz bytes (I n) (I n) h=some (s,h')∧Gr h.length (h.length+1) h' sz s (List.replicate n.toNat zero)∧Ext h h'∧s≠.nils∧h'.length=h.length+1:=
 ⟨_,_,b8c h1 (Int.le_refl _) h3 h4 h5 h6,Gr.make h5 _,Ext.push h _,by simp,by simp[mkObj]⟩
theorem Gr.empty (h:Heap) (sz:Nat):Gr h.length (h.length+1) (mkObj h []) sz (.sl h.length 0 0 sz none 0) []:=
 .inr ⟨h.length,0,0,[],Nat.le_refl _,by omega,rfl,by simp[mkObj],Nat.le_refl _,by simp,by simp⟩
theorem Gr.lit {h:Heap} {sz:Nat} {v:List AV} (hv:v.length=sz):Gr h.length (h.length+1) (mkObj h v) sz (.sl h.length 0 1 sz none 0) [v]:=by
 refine .inr ⟨h.length,0,0,v,Nat.le_refl _,by omega,rfl,by simp[mkObj],Nat.le_refl _,?_,by simp[hv]⟩
 simp[List.take_of_length_le (Nat.le_of_eq hv)]
theorem Gr.take {lo hi:Nat} {h:Heap} {sz:Nat} {s:AV} {xs:List (List AV)} (a:Gr lo hi h sz s xs) {n:Int} (h0:0≤n) (h1:n≤xs.length) (hs:s≠.nils):∃s',slSl sz s none (some (I n)) none=some s'∧Gr lo hi h sz s' (xs.take n.toNat)∧s'≠.nils:=by
 rcases a with ⟨rfl,rfl⟩|⟨o,g,wg,cs,k1,k2,rfl,k4,k5,k6,k7⟩
 ·exact absurd rfl hs
 ·refine ⟨.sl o 0 n.toNat sz none g,?_,.inr ⟨o,g,wg,cs,k1,k2,?_,k4,k5,?_,fun x hx=>k7 x (List.mem_of_mem_take hx)⟩,by simp⟩
  ·have:n.toNat≤xs.length:=by omega
   simp[slSl,bnd,h0,this]
  ·rw[List.length_take]; congr 1; omega
  ·rw[List.length_take,Nat.min_eq_left (by omega:n.toNat≤xs.length)]
   have h2:(cs.take (xs.length*sz)).take (n.toNat*sz)=xs.flatten.take (n.toNat*sz):=by rw[k6]
   rw[List.take_take,Nat.min_eq_left (Nat.mul_le_mul_right _ (by omega))] at h2
   rw[h2]
   have h3:xs=xs.take n.toNat++xs.drop n.toNat:=(List.take_append_drop _ _).symm
   conv=>lhs; rw[h3,List.flatten_append]
   have h4:(xs.take n.toNat).flatten.length=n.toNat*sz:=by
    rw[flatten_len (sz:=sz) (fun x hx=>k7 x (List.mem_of_mem_take hx)),List.length_take,Nat.min_eq_left (by omega:n.toNat≤xs.length)]
   rw[List.take_append_of_le_length (by omega),List.take_of_length_le (by omega)]
theorem b0i:∀(vs cs:List AV) (off:Nat),(setAll cs off vs).length=cs.length
 |[],_,_=>rfl
 |v::vs,cs,off=>by simp[setAll,b0i vs]
theorem a7K:∀(vs cs:List AV) (off i:Nat),off+vs.length≤cs.length→(setAll cs off vs)[i]?=if off≤i∧i<off+vs.length then vs[i-off]? else cs[i]?
 |[],cs,off,i,_=>by
  rw[if_neg (by simp only[List.length_nil]; omega)]; rfl
 |v::vs,cs,off,i,h=>by
  simp only[List.length_cons] at h
  rw[setAll,a7K vs _ _ _ (by simp; omega)]
  by_cases h1:off+1≤i∧i<off+1+vs.length
  ·rw[if_pos h1,if_pos (by simp; omega)]
   rw[show i-off=(i-(off+1))+1 by omega,List.getElem?_cons_succ]
  ·rw[if_neg h1]
   by_cases h2:i=off
   ·subst h2
    rw[if_pos (by simp)]
    simp only[Nat.sub_self,List.getElem?_cons_zero]
    rw[List.getElem?_set_self (by omega)]
   ·rw[if_neg (by simp; omega),List.getElem?_set_ne (by omega)]
theorem a7S {sz:Nat}:∀{xs:List (List AV)},(∀x∈xs,x.length=sz)→∀(i j:Nat),j<sz→xs.flatten[i*sz+j]?=(xs[i]?).bind fun x=>x[j]?
 |[],_,i,j,_=>by simp
 |x::xs,hx,0,j,hj=>by
  have h1:=hx x (by simp)
  rw[List.flatten_cons,Nat.zero_mul,Nat.zero_add,List.getElem?_append_left (by omega)]
  rfl
 |x::xs,hx,i+1,j,hj=>by
  have h1:=hx x (by simp)
  rw[List.flatten_cons,List.getElem?_append_right (by rw[h1,Nat.add_mul]; omega),h1,show (i+1)*sz+j-sz=i*sz+j by rw[Nat.add_mul]; omega,a7S (fun y hy=>hx y (List.mem_cons_of_mem _ hy)) i j hj]
  rfl
theorem Gr.write {lo hi:Nat} {h:Heap} {sz:Nat} {s:AV} {xs:List (List AV)} (a:Gr lo hi h sz s xs) {i:Int} (h0:0≤i) {x:List AV} (hx:xs[i.toNat]?=some x) (d n:Nat) {v:AV} (hv:v.cells.length=n) (hd:d+n≤sz) (h1:v.cells.all AV.one=true) :
  ∃h',stN n h (fldP d (elP sz s i)) v=some h'∧Gr lo hi h' sz s (xs.set i.toNat (setAll x d v.cells))∧Fr lo hi h h'∧h'.length=h.length:=by
 have hi':=(List.getElem?_eq_some_iff.1 hx).1
 rcases a with ⟨rfl,rfl⟩|⟨o,g,wg,cs,k1,k2,rfl,k4,k5,k6,k7⟩
 ·simp at hx
 have hlen:xs.length*sz≤cs.length:=by
  have:=congrArg List.length k6
  rw[List.length_take,flatten_len k7] at this
  omega
 have hle:i.toNat*sz+sz≤xs.length*sz:=by
  have:(i.toNat+1)*sz≤xs.length*sz:=Nat.mul_le_mul_right _ hi'
  rw[Nat.add_mul,Nat.one_mul] at this; exact this
 have hxl:x.length=sz:=k7 x (List.mem_of_getElem? hx)
 have hox:=(List.getElem?_eq_some_iff.1 k4).1
 refine ⟨h.set o (.cells ⟨setAll cs (i.toNat*sz+d) v.cells,g,g,false⟩),?_,.inr ⟨o,g,g,setAll cs (i.toNat*sz+d) v.cells,k1,k2,by simp,by simp[hox],Nat.le_refl _,?_,?_⟩,Fr.set _ k1 k2 _,by simp⟩
 ·simp only[elP,fldP,Nat.zero_add,a8y,k4]
  exact a5f hv rfl (by omega) h1
 ·have hall:∀y∈xs.set i.toNat (setAll x d v.cells),y.length=sz:=by
   intro y hy
   rcases List.mem_or_eq_of_mem_set hy with hy|rfl
   ·exact k7 y hy
   ·rw[b0i,hxl]
  apply List.ext_getElem?
  intro p
  rw[List.getElem?_take]
  simp only[List.length_set]
  by_cases hsz:sz=0
  ·subst hsz
   rw[if_neg (by omega)]
   rw[List.getElem?_eq_none]
   rw[flatten_len hall]; omega
  by_cases hp:p<xs.length*sz
  ·rw[if_pos hp]
   have hpe:p=p / sz*sz+p % sz:=by rw[Nat.mul_comm]; exact (Nat.div_add_mod p sz).symm
   have hpm:p % sz<sz:=Nat.mod_lt _ (by omega)
   have hpd:p / sz<xs.length:=(Nat.div_lt_iff_lt_mul (by omega)).2 hp
   rw[a7K _ _ _ _ (by omega)]
   conv=>rhs; rw[hpe]
   rw[a7S hall _ _ hpm]
   have hcs:cs[p]?=(xs[p / sz]?).bind fun y=>y[p % sz]?:=by
    rw[←a7S k7 _ _ hpm,←hpe,←k6,List.getElem?_take,if_pos hp]
   by_cases hpi:p / sz=i.toNat
   ·rw[hpi,List.getElem?_set_self hi']
    simp only[Option.bind_some]
    rw[a7K _ _ _ _ (by omega)]
    rw[hpi] at hpe
    by_cases hin:d≤p % sz∧p % sz<d+v.cells.length
    ·rw[if_pos hin,if_pos (by omega)]
     congr 1; omega
    ·rw[if_neg hin,if_neg (by omega),hcs,hpi,hx]; rfl
   ·rw[List.getElem?_set_ne (by omega),←hcs,if_neg]
    intro hc
    apply hpi
    have h2:i.toNat*sz≤p:=by omega
    have h3:p<(i.toNat+1)*sz:=by rw[Nat.add_mul]; omega
    exact Nat.le_antisymm (Nat.le_of_lt_succ ((Nat.div_lt_iff_lt_mul (by omega)).2 h3)) ((Nat.le_div_iff_mul_le (by omega)).2 h2)
  ·rw[if_neg hp,List.getElem?_eq_none]
   rw[flatten_len hall,List.length_set]; omega
 ·intro y hy
  rcases List.mem_or_eq_of_mem_set hy with hy|rfl
  ·exact k7 y hy
  ·rw[b0i,hxl]
theorem b5v (sz:Nat) (s:AV) (i:Int):fldP 0 (elP sz s i)=elP sz s i:=by cases s<;>rfl
theorem Gr.write0 {lo hi:Nat} {h:Heap} {sz:Nat} {s:AV} {xs:List (List AV)} (a:Gr lo hi h sz s xs) {i:Int} (h0:0≤i) (hx:i<xs.length) {v:AV} (hv:v.cells.length=sz) (h1:v.cells.all AV.one=true) :
  ∃h',stN sz h (elP sz s i) v=some h'∧Gr lo hi h' sz s (xs.set i.toNat v.cells)∧Fr lo hi h h'∧h'.length=h.length:=by
 have hi':i.toNat<xs.length:=by omega
 obtain ⟨h',k1,k2,k3⟩:=a.write h0 (List.getElem?_eq_getElem hi') 0 sz hv (by omega) h1
 have hxl:(xs[i.toNat]).length=sz:=by
  rcases a with ⟨_,rfl⟩|⟨_,_,_,_,_,_,_,_,_,_,k7⟩
  ·simp at hi'
  ·exact k7 _ (List.getElem_mem hi')
 rw[b5v] at k1
 refine ⟨h',k1,?_,k3⟩
 have:setAll (xs[i.toNat]) 0 v.cells=v.cells:=by
  apply List.ext_getElem?
  intro j
  rw[a7K _ _ _ _ (by omega)]
  by_cases hj:j<v.cells.length
  ·rw[if_pos (by omega)]; rfl
  ·rw[if_neg (by omega),List.getElem?_eq_none (by omega),List.getElem?_eq_none (by omega)]
 rw[this] at k2
 exact k2
theorem Sl.cut {h:Heap} {sz:Nat} {s:AV} {xs:List (List AV)} (a:Sl h sz s xs):∃s',slSl sz s none (some (I xs.length)) (some (I xs.length))=some s'∧Sl h sz s' xs:=by
 rcases a with ⟨rfl,rfl⟩|⟨o,off,lim,g,c,rfl,h2,h3,h4,h5⟩
 ·exact ⟨.nils,rfl,.inl ⟨rfl,rfl⟩⟩
 ·refine ⟨.sl o off xs.length sz (some xs.length) g,?_,.inr ⟨o,off,some xs.length,g,c,rfl,h2,h3,h4,h5⟩⟩
  simp[slSl,bnd]
theorem Sl.map {h:Heap} {sz:Nat} {s:AV} {xs ys:List (List AV)} (a:Sl h sz s xs) (e:xs=ys):Sl h sz s ys:=e▸a
theorem Gr.cong {lo hi:Nat} {h:Heap} {sz:Nat} {s:AV} {xs ys:List (List AV)} (a:Gr lo hi h sz s xs) (e:xs=ys):Gr lo hi h sz s ys:=e▸a
def FrS (D:Nat→Prop) (h h':Heap):Prop:=h.length≤h'.length∧∀o,¬D o→o<h.length→h'[o]?=h[o]?
theorem FrS.len {D:Nat→Prop} {h h':Heap} (a:FrS D h h'):h.length≤h'.length:=a.1
theorem FrS.get {D:Nat→Prop} {h h':Heap} (a:FrS D h h') {o:Nat} (h1:¬D o) (h2:o<h.length):h'[o]?=h[o]?:=a.2 o h1 h2
theorem FrS.refl (D:Nat→Prop) (h:Heap):FrS D h h:=⟨Nat.le_refl _,fun _ _ _=>rfl⟩
theorem FrS.trans {D:Nat→Prop} {h h' h'':Heap} (a:FrS D h h') (b:FrS D h' h''):FrS D h h'':=
 ⟨Nat.le_trans a.1 b.1,fun o h1 h2=>(b.2 o h1 (Nat.lt_of_lt_of_le h2 a.1)).trans (a.2 o h1 h2)⟩
theorem FrS.mono {D D':Nat→Prop} {h h':Heap} (a:FrS D h h') (hd:∀o,o<h.length→D o→D' o):FrS D' h h':=⟨a.1,fun o h1 h2=>a.2 o (fun q=>h1 (hd o h2 q)) h2⟩
theorem Fr.s {lo hi:Nat} {h h':Heap} (a:Fr lo hi h h'):FrS (fun o=>lo≤o∧o<hi) h h':=⟨a.1,fun o h1 h2=>a.2 o (by omega) h2⟩
theorem FrS.ofExt {D:Nat→Prop} {h h':Heap} (e:Ext h h'):FrS D h h':=by
 rw[a2b] at e
 exact ⟨e.1,fun o _ ho=>e.2 o ho⟩
theorem FrS.ext {D:Nat→Prop} {h0 h h':Heap} (a:FrS D h h') (e:Ext h0 h) (hd:∀o,o<h0.length→¬D o):Ext h0 h':=by
 rw[a2b] at *
 exact ⟨Nat.le_trans e.1 a.1,fun o ho=>(a.2 o (hd o ho) (by omega)).trans (e.2 o ho)⟩
theorem Gr.frs {D:Nat→Prop} {lo hi:Nat} {h h':Heap} {sz:Nat} {s:AV} {xs:List (List AV)} (a:Gr lo hi h sz s xs) (f:FrS D h h') (hd:∀o,lo≤o→o<hi→¬D o):Gr lo hi h' sz s xs:=by
 rcases a with a|⟨o,g,wg,cs,h1,h2,h3,h4,h5⟩
 ·exact .inl a
 ·exact .inr ⟨o,g,wg,cs,h1,h2,h3,by rw[f.get (hd o h1 h2) (List.getElem?_eq_some_iff.1 h4).1]; exact h4,h5⟩
theorem At.row {h:Heap} {o:Nat} {cs:List AV} {g wg:Nat} {ro:Bool} (hr:h[o]?=some (.cells ⟨cs,g,wg,ro⟩)) {g':Nat} (hg:wg≤g') {n:Nat} (hn:n=cs.length):At h (.ptr o 0 n g') cs:=
 ⟨o,0,n,g',_,rfl,by omega,hr,hg,by simp⟩
def Fam {κ:Type} (W:Nat→Prop) (h:Heap) (sz:Nat) (A:κ→Prop) (S:κ→AV) (X:κ→List (List AV)):Prop:=
 ∃ob:κ→Nat,(∀t,A t→Gr (ob t) (ob t+1) h sz (S t) (X t)∧(S t≠.nils→W (ob t)∧ob t<h.length))∧∀t t',A t→A t'→t≠t'→S t≠.nils→S t'≠.nils→ob t≠ob t'
theorem Fam.nil {κ:Type} (W:Nat→Prop) (h:Heap) (sz:Nat) {A:κ→Prop} {S:κ→AV} {X:κ→List (List AV)} (hs:∀t,A t→S t=.nils∧X t=[]):Fam W h sz A S X:=
 ⟨fun _=>0,fun t ht=>⟨.inl (hs t ht),fun q=>absurd (hs t ht).1 q⟩,fun t t' ht _ _ q=>absurd (hs t ht).1 q⟩
theorem Fam.mono {κ:Type} {W W':Nat→Prop} {h:Heap} {sz:Nat} {A:κ→Prop} {S:κ→AV} {X:κ→List (List AV)} (f:Fam W h sz A S X) (hh:∀o,o<h.length→W o→W' o):Fam W' h sz A S X:=by
 obtain ⟨ob,h1,h2⟩:=f
 exact ⟨ob,fun t ht=>⟨(h1 t ht).1,fun q=>⟨hh _ ((h1 t ht).2 q).2 ((h1 t ht).2 q).1,((h1 t ht).2 q).2⟩⟩,h2⟩
theorem Fam.sl {κ:Type} {W:Nat→Prop} {h:Heap} {sz:Nat} {A:κ→Prop} {S:κ→AV} {X:κ→List (List AV)} (f:Fam W h sz A S X) {t:κ} (ht:A t):Sl h sz (S t) (X t):=by
 obtain ⟨ob,h1,_⟩:=f
 exact (h1 t ht).1.sl
theorem Fam.congr {κ:Type} {W:Nat→Prop} {h:Heap} {sz:Nat} {A:κ→Prop} {S S':κ→AV} {X X':κ→List (List AV)} (f:Fam W h sz A S X) (he:∀t,A t→S' t=S t∧X' t=X t):Fam W h sz A S' X':=by
 obtain ⟨ob,h1,h2⟩:=f
 refine ⟨ob,fun t ht=>?_,fun t t' ht ht'=>?_⟩
 ·rw[(he t ht).1,(he t ht).2]; exact h1 t ht
 ·rw[(he t ht).1,(he t' ht').1]; exact h2 t t' ht ht'
theorem Fam.frs {κ:Type} {W:Nat→Prop} {h h':Heap} {sz:Nat} {A:κ→Prop} {S:κ→AV} {X:κ→List (List AV)} (f:Fam W h sz A S X) {D:Nat→Prop} (fr:FrS D h h') (hd:∀o,o<h.length→W o→¬D o):Fam W h' sz A S X:=by
 obtain ⟨ob,h1,h2⟩:=f
 refine ⟨ob,fun t ht=>?_,h2⟩
 obtain ⟨h3,h4⟩:=h1 t ht
 by_cases hn:S t=.nils
 ·refine ⟨?_,fun q=>absurd hn q⟩
  rcases h3 with h3|⟨o,g,wg,cs,_,_,q,_⟩
  ·exact .inl h3
  ·rw[hn] at q; cases q
 ·obtain ⟨h5,h6⟩:=h4 hn
  exact ⟨h3.frs fr fun o k1 k2=>by
   obtain rfl:o=ob t:=by omega
   exact hd _ h6 h5,fun _=>⟨h5,Nat.lt_of_lt_of_le h6 fr.len⟩⟩
theorem Gr.agree {lo hi:Nat} {h h':Heap} {sz:Nat} {s:AV} {xs:List (List AV)} (a:Gr lo hi h sz s xs) (hag:∀o,lo≤o→o<hi→o<h.length→h'[o]?=h[o]?):Gr lo hi h' sz s xs:=by
 rcases a with a|⟨o,g,wg,cs,h1,h2,h3,h4,h5⟩
 ·exact .inl a
 ·exact .inr ⟨o,g,wg,cs,h1,h2,h3,by rw[hag o h1 h2 (List.getElem?_eq_some_iff.1 h4).1]; exact h4,h5⟩
theorem Fam.slA {κ:Type} {W:Nat→Prop} {h h':Heap} {sz:Nat} {A:κ→Prop} {S:κ→AV} {X:κ→List (List AV)} (f:Fam W h sz A S X) {t:κ} (ht:A t) (hag:∀o,W o→o<h.length→h'[o]?=h[o]?):Sl h' sz (S t) (X t):=by
 obtain ⟨ob,h1,_⟩:=f
 obtain ⟨h2,h3⟩:=h1 t ht
 by_cases hn:S t=.nils
 ·rcases h2 with h2|⟨o,g,wg,cs,_,_,q,_⟩
  ·exact .inl h2
  ·rw[hn] at q; cases q
 ·obtain ⟨h4,h5⟩:=h3 hn
  exact (h2.agree fun o k1 k2 k3=>by
   obtain rfl:o=ob t:=by omega
   exact hag _ h4 k3).sl
theorem Gr.nnil {lo hi:Nat} {h:Heap} {sz:Nat} {s:AV} {xs:List (List AV)} (a:Gr lo hi h sz s xs) (hx:xs≠[]):s≠.nils:=by
 rcases a with ⟨_,q⟩|⟨o,g,wg,cs,_,_,q,_⟩
 ·exact absurd q hx
 ·rw[q]; simp
theorem Fam.append {κ:Type} [DecidableEq κ] {W:Nat→Prop} {h:Heap} {sz bytes:Nat} {A:κ→Prop} {S:κ→AV} {X:κ→List (List AV)} (f:Fam W h sz A S X) {t:κ} (ht:A t) {x:AV} {ys:List (List AV)} (b:Sl h sz x ys) (hys:ys≠[]) (hsz:0<sz) (hb:0<bytes) (hl:((X t).length+ys.length)*bytes≤140737488355328) :
  ∃s' h',apnd sz bytes (S t) x h=some (s',h')∧s'.one=true∧Fam (fun o=>W o∨h.length≤o) h' sz A (fun t'=>if t'=t then s' else S t') (fun t'=>if t'=t then X t++ys else X t')∧FrS W h h':=by
 obtain ⟨ob,h1,h2⟩:=f
 obtain ⟨h3,h4⟩:=h1 t ht
 have hne:X t++ys≠[]:=by simp[hys]
 by_cases hn:S t=.nils
 ·have hx:X t=[]:=by
   rcases h3 with h3|⟨o,g,wg,cs,_,_,q,_⟩
   ·exact h3.2
   ·rw[hn] at q; cases q
  obtain ⟨s',h',k1,k2,k3⟩:=(Gr.nil h.length h.length h sz).append b hsz hb (by rw[hx] at hl; exact hl) (Nat.le_refl _) (Nat.le_refl _)
  rw[List.nil_append] at k2
  have hs':=k2.nnil hys
  have hfr:FrS (fun o=>h.length≤o) h h':=k3.s.mono fun o q1 q2=>q2.1
  refine ⟨s',h',by rw[hn]; exact k1,k2.sl.one,?_,hfr.mono fun o q1 q2=>by omega⟩
  rcases k2 with ⟨q,_⟩|⟨o,g,wg,cs,m1,m2,m3⟩
  ·exact absurd q hs'
  ·refine ⟨fun t'=>if t'=t then o else ob t',fun t' ht'=>?_,fun t1 t2 a1 a2 hne12 n1 n2=>?_⟩
   ·by_cases htt:t'=t
    ·subst htt
     simp only[if_true,hx,List.nil_append]
     exact ⟨.inr ⟨o,g,wg,cs,Nat.le_refl _,by omega,m3⟩,fun _=>⟨.inr m1,m2⟩⟩
    ·simp only[if_neg htt]
     obtain ⟨j1,j2⟩:=h1 t' ht'
     by_cases hn':S t'=.nils
     ·refine ⟨?_,fun q=>absurd hn' q⟩
      rcases j1 with j1|⟨o,g,wg,cs,_,_,q,_⟩
      ·exact .inl j1
      ·rw[hn'] at q; cases q
     ·obtain ⟨j3,j4⟩:=j2 hn'
      exact ⟨j1.frs hfr fun o k1 k2=>by omega,fun _=>⟨.inl j3,Nat.lt_of_lt_of_le j4 hfr.len⟩⟩
   ·by_cases e1:t1=t
    ·subst e1
     have e2:t2≠t1:=fun q=>hne12 q.symm
     simp only[if_true,if_neg e2] at n1 n2 ⊢
     have:=((h1 t2 a2).2 n2).2
     omega
    ·by_cases e2:t2=t
     ·subst e2
      simp only[if_true,if_neg e1] at n1 n2 ⊢
      have:=((h1 t1 a1).2 n1).2
      omega
     ·simp only[if_neg e1,if_neg e2] at n1 n2 ⊢
      exact h2 t1 t2 a1 a2 hne12 n1 n2
 ·obtain ⟨h5,h6⟩:=h4 hn
  obtain ⟨s',h',k1,k2,k3,k4⟩:=h3.appendS b hsz hb hl (by omega) (by omega)
  have hs':=k2.nnil hne
  have hfr:FrS (fun o=>o=ob t) h h':=k3.s.mono fun o q1 q2=>by omega
  refine ⟨s',h',k1,k2.sl.one,?_,hfr.mono fun o q1 q2=>q2▸h5⟩
  refine ⟨ob,fun t' ht'=>?_,fun t1 t2 a1 a2 hne12 n1 n2=>?_⟩
  ·by_cases htt:t'=t
   ·subst htt
    simp only[if_true]
    exact ⟨(k4 hn).1,fun _=>⟨.inl h5,Nat.lt_of_lt_of_le h6 hfr.len⟩⟩
   ·simp only[if_neg htt]
    obtain ⟨j1,j2⟩:=h1 t' ht'
    by_cases hn':S t'=.nils
    ·refine ⟨?_,fun q=>absurd hn' q⟩
     rcases j1 with j1|⟨o,g,wg,cs,_,_,q,_⟩
     ·exact .inl j1
     ·rw[hn'] at q; cases q
    ·obtain ⟨j3,j4⟩:=j2 hn'
     have:=h2 t' t ht' ht htt hn' hn
     exact ⟨j1.frs hfr fun o k1 k2=>by omega,fun _=>⟨.inl j3,Nat.lt_of_lt_of_le j4 hfr.len⟩⟩
  ·refine h2 t1 t2 a1 a2 hne12 ?_ ?_
   ·by_cases e1:t1=t
    ·rw[e1]; exact hn
    ·simpa [e1] using n1
   ·by_cases e1:t2=t
    ·rw[e1]; exact hn
    ·simpa [e1] using n2
theorem Gr.point {lo hi:Nat} {h:Heap} {sz:Nat} {s:AV} {xs:List (List AV)} (a:Gr lo hi h sz s xs):∃o,(s≠.nils→lo≤o∧o<hi∧o<h.length)∧Gr o (o+1) h sz s xs:=by
 rcases a with a|⟨o,g,wg,cs,h1,h2,h3,h4,h5⟩
 ·exact ⟨0,fun q=>absurd a.1 q,.inl a⟩
 ·exact ⟨o,fun _=>⟨h1,h2,(List.getElem?_eq_some_iff.1 h4).1⟩,.inr ⟨o,g,wg,cs,Nat.le_refl _,by omega,h3,h4,h5⟩⟩
theorem Gr.isNil {lo hi:Nat} {h:Heap} {sz:Nat} {xs:List (List AV)} (a:Gr lo hi h sz .nils xs):xs=[]:=by
 rcases a with a|⟨o,g,wg,cs,_,_,q,_⟩
 ·exact a.2
 ·cases q
theorem Gr.appP {o:Nat} {h:Heap} {sz bytes:Nat} {s x:AV} {xs ys:List (List AV)} (a:Gr o (o+1) h sz s xs) (ho:s≠.nils→o<h.length) (b:Sl h sz x ys) (hsz:0<sz) (hb:0<bytes) (hl:(xs.length+ys.length)*bytes≤140737488355328) :
  ∃s' h' o',apnd sz bytes s x h=some (s',h')∧Gr o' (o'+1) h' sz s' (xs++ys)∧(s'≠.nils→((o'=o∧s≠.nils)∨h.length≤o')∧o'<h'.length)∧FrS (fun p=>s≠.nils∧p=o) h h':=by
 by_cases hn:s=.nils
 ·subst hn
  have:=a.isNil
  subst this
  obtain ⟨s',h',k1,k2,k3⟩:=(Gr.nil h.length h.length h sz).append b hsz hb hl (Nat.le_refl _) (Nat.le_refl _)
  obtain ⟨o',p1,p2⟩:=k2.point
  exact ⟨s',h',o',k1,p2,fun q=>⟨.inr (p1 q).1,(p1 q).2.2⟩,k3.s.mono fun p _ q=>by omega⟩
 ·have ho':=ho hn
  obtain ⟨s',h',k1,k2,k3,k4⟩:=a.appendS b hsz hb hl (by omega) (by omega)
  have:=k3.len
  exact ⟨s',h',o,k1,(k4 hn).1,fun q=>⟨.inl ⟨rfl,hn⟩,by omega⟩,k3.s.mono fun p _ q=>⟨hn,by omega⟩⟩
end Go.Gm
namespace Go.Gm
theorem or_i {a b:Nat} (ha:a<2 ^ 62) (hb:b<2 ^ 62):binV .or .scalar (I a) (I b)=some (I ((a ||| b:Nat):Int)):=by
 show some (AV.int .i64 (bitsI .or .i64 a b))=_
 have h:a ||| b<2 ^ 62:=Nat.or_lt_two_pow ha hb
 have:bitsI .or .i64 a b=((a ||| b:Nat):Int):=by
  have key:(BitVec.ofInt 64 (a:Int) ||| BitVec.ofInt 64 (b:Int)).toNat=a ||| b:=by
   rw[BitVec.ofInt_natCast,BitVec.ofInt_natCast,BitVec.toNat_or,BitVec.toNat_ofNat,BitVec.toNat_ofNat,Nat.mod_eq_of_lt (by omega),Nat.mod_eq_of_lt (by omega)]
  show IntKind.i64.wrap ((BitVec.ofInt 64 (a:Int) ||| BitVec.ofInt 64 (b:Int)).toNat:Int)=_
  rw[key]
  exact t1_ (by omega) (by omega)
 rw[this]
theorem and_i {a b:Nat} (ha:a<2 ^ 62) (hb:b<2 ^ 62):binV .and .scalar (I a) (I b)=some (I ((a &&& b:Nat):Int)):=by
 show some (AV.int .i64 (bitsI .and .i64 a b))=_
 have h:a &&& b<2 ^ 62:=Nat.and_lt_two_pow _ hb
 have:bitsI .and .i64 a b=((a &&& b:Nat):Int):=by
  have key:(BitVec.ofInt 64 (a:Int) &&& BitVec.ofInt 64 (b:Int)).toNat=a &&& b:=by
   rw[BitVec.ofInt_natCast,BitVec.ofInt_natCast,BitVec.toNat_and,BitVec.toNat_ofNat,BitVec.toNat_ofNat,Nat.mod_eq_of_lt (by omega),Nat.mod_eq_of_lt (by omega)]
  show IntKind.i64.wrap ((BitVec.ofInt 64 (a:Int) &&& BitVec.ofInt 64 (b:Int)).toNat:Int)=_
  rw[key]
  exact t1_ (by omega) (by omega)
 rw[this]
theorem shl_i {k:IntKind} {m:Int} (h0:0≤m) (h1:m<62):binV .shl .scalar (I 1) (.int k m)=some (I ((2 ^ m.toNat:Nat):Int)):=by
 show shiftI .shl .i64 1 m=_
 simp only[shiftI]
 rw[if_neg (by omega)]
 have h2:min m.toNat IntKind.i64.bits=m.toNat:=by
  show min m.toNat 64=_; omega
 have h3:2 ^ m.toNat≤2 ^ 62:=Nat.pow_le_pow_right (by omega) (by omega)
 rw[h2]
 congr 2
 rw[Int.one_mul]
 have h4:((2:Int) ^ m.toNat)=((2 ^ m.toNat:Nat):Int):=by norm_cast
 rw[h4]
 generalize 2 ^ m.toNat=x at h3
 exact t1_ (by omega) (by omega)
theorem shr_i {k:IntKind} {s:Nat} {m:Int} (h0:0≤m) (h1:m≤64):binV .shr .scalar (I s) (.int k m)=some (I ((s >>> m.toNat:Nat):Int)):=by
 show shiftI .shr .i64 s m=_
 simp only[shiftI]
 rw[if_neg (by omega)]
 have h2:min m.toNat IntKind.i64.bits=m.toNat:=by
  show min m.toNat 64=_; omega
 rw[h2,Nat.shiftRight_eq_div_pow]
 congr 2
 have h4:((2:Int) ^ m.toNat)=((2 ^ m.toNat:Nat):Int):=by norm_cast
 rw[h4]
 generalize 2 ^ m.toNat=x
 rw[Int.fdiv_eq_ediv_of_nonneg _ (by omega)]
 rfl
theorem a6B {n:Int} (h0:0≤n) (h1:n<9223372036854775808):convV .u64 (I n)=some (.int .u64 n):=by
 show some (AV.int .u64 (IntKind.u64.wrap n))=_
 congr 2
 simp[IntKind.wrap,IntKind.bits,IntKind.signed]
 omega
theorem ixA_i {n sz:Nat} {m:Option Nat} {cs:List AV} {i:Int} (h0:0≤i) (h1:i<n):ixA n sz m (.agg cs) (I i)=partL cs (i.toNat*sz) m:=by
 simp[ixA,h0,h1]
theorem b4w {s:Nat} {m:Nat}:((s >>> m) &&& 1)=if s.testBit m then 1 else 0:=by
 have:=Nat.testBit_eq_decide_div_mod_eq (x:=s) (i:=m)
 rw[Nat.and_one_is_mod,Nat.shiftRight_eq_div_pow,this]
 by_cases h:s / 2 ^ m % 2=1
 ·simp[h]
 ·simp[h]; omega
theorem bit_t {s:Nat} {m:Int} (h0:0≤m) (hb:s.testBit m.toNat=true):binV .eql .scalar (I (((s >>> m.toNat) &&& 1:Nat):Int)) (I 1)=some (.bool true):=by
 rw[b4w,hb]; rfl
theorem bit_f {s:Nat} {m:Int} (h0:0≤m) (hb:s.testBit m.toNat=false):binV .eql .scalar (I (((s >>> m.toNat) &&& 1:Nat):Int)) (I 1)=some (.bool false):=by
 rw[b4w,hb]; rfl
end Go.Gm
namespace Go.Gm
def ltI (x y:Int × Int):Prop:=x.2<y.2∨(x.2=y.2∧x.1<y.1)
instance (x y:Int × Int):Decidable (ltI x y):=by unfold ltI; exact inferInstance
def par (i:Int):Int:=(i-1) / 2
def sw (xs:List (Int × Int)) (i j:Int):List (Int × Int):=(xs.set i.toNat (gi xs j)).set j.toNat (gi xs i)
theorem p7_ {α:Type} [Inhabited α] {xs:List α} {i j:Int} (h0:0≤i) (h1:i<xs.length) (hj:0≤j) (x:α):gi (xs.set i.toNat x) j=if j=i then x else gi xs j:=by
 simp only[gi,List.getD_eq_getElem?_getD]
 by_cases h:j=i
 ·subst h
  rw[if_pos rfl,List.getElem?_set_self (by omega)]; rfl
 ·rw[if_neg h,List.getElem?_set_ne (by omega)]
theorem a5u (xs:List (Int × Int)) (i j:Int):(sw xs i j).length=xs.length:=by simp[sw]
theorem gi_sw {xs:List (Int × Int)} {i j:Int} (i0:0≤i) (i1:i<xs.length) (j0:0≤j) (j1:j<xs.length) {p:Int} (hp:0≤p) :
  gi (sw xs i j) p=if p=j then gi xs i else if p=i then gi xs j else gi xs p:=by
 rw[sw,p7_ j0 (by simp; exact j1) hp,p7_ i0 i1 hp]
def Hp (n:Int) (xs:List (Int × Int)):Prop:=∀i:Int,0<i→i<n→¬ltI (gi xs i) (gi xs (par i))
structure UpI (n:Int) (xs:List (Int × Int)) (j:Int):Prop where
 a:∀i,0<i→i<n→i≠j→¬ltI (gi xs i) (gi xs (par i))
 b:∀c,0<c→c<n→par c=j→0<j→¬ltI (gi xs c) (gi xs (par j))
structure DnI (n:Int) (xs:List (Int × Int)) (i:Int):Prop where
 a:∀c,0<c→c<n→par c≠i→¬ltI (gi xs c) (gi xs (par c))
 b:∀c,0<c→c<n→par c=i→0<i→¬ltI (gi xs c) (gi xs (par i))
theorem p3_ {i:Int} (h:0<i):0≤par i∧par i<i:=by unfold par; omega
theorem UpI.done {n:Int} {xs:List (Int × Int)} {j:Int} (u:UpI n xs j) (h:j=0∨¬ltI (gi xs j) (gi xs (par j))):Hp n xs:=by
 intro i i0 i1
 by_cases hij:i=j
 ·subst hij
  rcases h with h|h
  ·omega
  ·exact h
 ·exact u.a i i0 i1 hij
theorem UpI.swap {n:Int} {xs:List (Int × Int)} {j:Int} (u:UpI n xs j) (j0:0<j) (j1:j<n) (hn:n≤xs.length) (h:ltI (gi xs j) (gi xs (par j))):UpI n (sw xs (par j) j) (par j):=by
 have hp:=p3_ j0
 have g:∀p,0≤p→gi (sw xs (par j) j) p=if p=j then gi xs (par j) else if p=par j then gi xs j else gi xs p:=fun p hp'=>gi_sw hp.1 (by omega) (by omega) (by omega) hp'
 constructor
 ·intro p p0 p1 hpi
  have hpp:=p3_ p0
  rw[g p (by omega),g (par p) hpp.1]
  by_cases e1:p=j
  ·subst e1
   rw[if_pos rfl,if_neg (by omega),if_pos rfl]
   unfold ltI at *; omega
  ·rw[if_neg e1,if_neg hpi]
   have ha:=u.a p p0 p1 e1
   by_cases e2:par p=j
   ·rw[if_pos e2]
    exact u.b p p0 p1 e2 j0
   ·rw[if_neg e2]
    by_cases e3:par p=par j
    ·rw[if_pos e3]
     rw[e3] at ha
     unfold ltI at *; omega
    ·rw[if_neg e3]; exact ha
 ·intro c c0 c1 hc hpj
  have hpp:=p3_ hpj
  have hcp:=p3_ c0
  rw[g c (by omega),g (par (par j)) hpp.1,if_neg (show ¬par (par j)=j by omega),if_neg (show ¬par (par j)=par j by omega)]
  have hi:=u.a (par j) hpj (by omega) (by omega)
  by_cases e1:c=j
  ·rw[if_pos e1]; exact hi
  ·rw[if_neg e1,if_neg (by omega)]
   have ha:=u.a c c0 c1 e1
   rw[hc] at ha
   unfold ltI at *; omega
theorem DnI.done {n:Int} {xs:List (Int × Int)} {i:Int} (u:DnI n xs i) (h:∀c,0<c→c<n→par c=i→¬ltI (gi xs c) (gi xs i)):Hp n xs:=by
 intro c c0 c1
 by_cases hci:par c=i
 ·rw[hci]; exact h c c0 c1 hci
 ·exact u.a c c0 c1 hci
theorem DnI.swap {n:Int} {xs:List (Int × Int)} {i j:Int} (u:DnI n xs i) (i0:0≤i) (hj:par j=i) (j0:0<j) (j1:j<n) (hn:n≤xs.length) (h:ltI (gi xs j) (gi xs i)) (hs:∀c,0<c→c<n→par c=i→¬ltI (gi xs c) (gi xs j)):DnI n (sw xs i j) j:=by
 have hp:=p3_ j0
 have g:∀p,0≤p→gi (sw xs i j) p=if p=j then gi xs i else if p=i then gi xs j else gi xs p:=fun p hp'=>gi_sw i0 (by omega) (by omega) (by omega) hp'
 constructor
 ·intro c c0 c1 hc
  have hcp:=p3_ c0
  rw[g c (by omega),g (par c) hcp.1,if_neg hc]
  by_cases e1:par c=i
  ·rw[if_pos e1]
   by_cases e2:c=j
   ·rw[if_pos e2]; unfold ltI at *; omega
   ·rw[if_neg e2,if_neg (by omega)]
    exact hs c c0 c1 e1
  ·rw[if_neg e1]
   by_cases e2:c=j
   ·subst e2; exact absurd hj e1
   ·rw[if_neg e2]
    by_cases e3:c=i
    ·rw[if_pos e3]; subst e3
     exact u.b j j0 j1 hj c0
    ·rw[if_neg e3]; exact u.a c c0 c1 e1
 ·intro c c0 c1 hc hj0
  have hcp:=p3_ c0
  rw[hj,g c (by omega),g i i0,if_neg (show ¬i=j by omega),if_pos rfl,if_neg (by omega),if_neg (by omega)]
  have:=u.a c c0 c1 (by omega)
  rw[hc] at this; exact this
theorem Hp.root {n:Int} {xs:List (Int × Int)} (h:Hp n xs):∀(d:Nat) (i:Int),i≤d→0≤i→i<n→¬ltI (gi xs i) (gi xs 0)
 |0,i,hd,i0,i1=>by
  rw[show i=0 by omega]; unfold ltI; omega
 |d+1,i,hd,i0,i1=>by
  by_cases hi:i=0
  ·rw[hi]; unfold ltI; omega
  ·have hp:=p3_ (i:=i) (by omega)
   have h1:=h.root d (par i) (by omega) hp.1 (by omega)
   have h2:=h i (by omega) i1
   unfold ltI at *; omega
structure Rep (N:Nat) (xs:List (Int × Int)) (at':List Int) (M:List (Option Int)):Prop where
 la:at'.length=N
 lm:M.length=N
 a:∀i:Int,0≤i→i<xs.length→0≤(gi xs i).1∧(gi xs i).1<N∧gi at' (gi xs i).1=i
 b:∀id:Int,0≤id→id<N→(gi at' id = -1∧gi M id=none)∨(0≤gi at' id∧gi at' id<xs.length∧(gi xs (gi at' id)).1=id∧gi M id=some (gi xs (gi at' id)).2)
theorem Rep.inj {N:Nat} {xs:List (Int × Int)} {at':List Int} {M:List (Option Int)} (r:Rep N xs at' M) {i j:Int} (i0:0≤i) (i1:i<xs.length) (j0:0≤j) (j1:j<xs.length) (h:(gi xs i).1=(gi xs j).1):i=j:=by
 have h1:=(r.a i i0 i1).2.2
 have h2:=(r.a j j0 j1).2.2
 rw[h] at h1
 omega
theorem Rep.swap {N:Nat} {xs:List (Int × Int)} {at':List Int} {M:List (Option Int)} (r:Rep N xs at' M) {i j:Int} (i0:0≤i) (i1:i<xs.length) (j0:0≤j) (j1:j<xs.length) :
  Rep N (sw xs i j) ((at'.set (gi xs j).1.toNat i).set (gi xs i).1.toNat j) M:=by
 have ai:=r.a i i0 i1
 have aj:=r.a j j0 j1
 have la:=r.la
 have ga:∀id,0≤id→gi ((at'.set (gi xs j).1.toNat i).set (gi xs i).1.toNat j) id=if id=(gi xs i).1 then j else if id=(gi xs j).1 then i else gi at' id:=fun id h=>by
  rw[p7_ ai.1 (by simp; omega) h,p7_ aj.1 (by omega) h]
 have gx:∀p,0≤p→gi (sw xs i j) p=if p=j then gi xs i else if p=i then gi xs j else gi xs p:=fun p hp'=>gi_sw i0 i1 j0 j1 hp'
 refine ⟨by simp; exact la,r.lm,fun p p0 p1=>?_,fun id h0 h1=>?_⟩
 ·rw[a5u] at p1
  have ap:=r.a p p0 p1
  rw[gx p p0]
  by_cases e1:p=j
  ·rw[if_pos e1]
   refine ⟨ai.1,ai.2.1,?_⟩
   rw[ga _ ai.1,if_pos rfl,e1]
  ·rw[if_neg e1]
   by_cases e2:p=i
   ·rw[if_pos e2]
    refine ⟨aj.1,aj.2.1,?_⟩
    rw[ga _ aj.1]
    by_cases e3:(gi xs j).1=(gi xs i).1
    ·have:=r.inj j0 j1 i0 i1 e3; omega
    ·rw[if_neg e3,if_pos rfl,e2]
   ·rw[if_neg e2]
    refine ⟨ap.1,ap.2.1,?_⟩
    rw[ga _ ap.1,if_neg (fun q=>e2 (r.inj p0 p1 i0 i1 q)),if_neg (fun q=>e1 (r.inj p0 p1 j0 j1 q))]
    exact ap.2.2
 ·rw[ga id h0,a5u]
  rcases r.b id h0 h1 with ⟨h2,h3⟩|⟨h2,h3,h4,h5⟩
  ·left
   rw[if_neg (fun q=>by rw[q] at h2; omega),if_neg (fun q=>by rw[q] at h2; omega)]
   exact ⟨h2,h3⟩
  ·right
   by_cases e1:id=(gi xs i).1
   ·rw[if_pos e1,gx j j0,if_pos rfl]
    refine ⟨j0,j1,e1.symm,?_⟩
    rw[h5]
    have:gi at' id=i:=by rw[e1]; exact ai.2.2
    rw[this]
   ·rw[if_neg e1]
    by_cases e2:id=(gi xs j).1
    ·have hij:i≠j:=fun q=>e1 (by rw[q]; exact e2)
     rw[if_pos e2,gx i i0,if_neg hij,if_pos rfl]
     refine ⟨i0,i1,e2.symm,?_⟩
     rw[h5]
     have:gi at' id=j:=by rw[e2]; exact aj.2.2
     rw[this]
    ·rw[if_neg e2,gx _ h2]
     have hni:gi at' id≠i:=fun q=>by rw[q] at h4; exact e1 h4.symm
     have hnj:gi at' id≠j:=fun q=>by rw[q] at h4; exact e2 h4.symm
     rw[if_neg hnj,if_neg hni]
     exact ⟨h2,h3,h4,h5⟩
theorem a5g {α:Type} [Inhabited α] {xs:List α} {y:α} {i:Int} (h0:0≤i) (h1:i<xs.length):gi (xs++[y]) i=gi xs i:=by
 simp only[gi,List.getD_eq_getElem?_getD]
 rw[List.getElem?_append_left (by omega)]
theorem b3p {α:Type} [Inhabited α] (xs:List α) (y:α):gi (xs++[y]) xs.length=y:=by
 simp[gi,List.getD_eq_getElem?_getD]
theorem a9j {α:Type} [Inhabited α] {xs:List α} {n:Nat} {i:Int} (h0:0≤i) (h1:i<n):gi (xs.take n) i=gi xs i:=by
 simp only[gi,List.getD_eq_getElem?_getD]
 rw[List.getElem?_take,if_pos (by omega)]
theorem Rep.push {N:Nat} {xs:List (Int × Int)} {at':List Int} {M:List (Option Int)} (r:Rep N xs at' M) {id key:Int} (h0:0≤id) (h1:id<N) (hn:gi at' id = -1) :
  Rep N (xs++[(id,key)]) (at'.set id.toNat xs.length) (M.set id.toNat (some key)):=by
 have la:=r.la
 have lm:=r.lm
 have ga:∀p,0≤p→gi (at'.set id.toNat (xs.length:Int)) p=if p=id then (xs.length:Int) else gi at' p:=fun p hp=>p7_ h0 (by omega) hp _
 have gm:∀p,0≤p→gi (M.set id.toNat (some key)) p=if p=id then some key else gi M p:=fun p hp=>p7_ h0 (by omega) hp _
 refine ⟨by simp; exact la,by simp; exact lm,fun i i0 i1=>?_,fun p p0 p1=>?_⟩
 ·simp only[List.length_append,List.length_cons,List.length_nil] at i1
  by_cases hi:i=xs.length
  ·rw[hi,b3p]
   refine ⟨h0,h1,?_⟩
   rw[ga _ h0,if_pos rfl]
  ·rw[a5g i0 (by omega)]
   have h:=r.a i i0 (by omega)
   refine ⟨h.1,h.2.1,?_⟩
   rw[ga _ h.1,if_neg (fun q=>by rw[q] at h; omega)]
   exact h.2.2
 ·rw[ga p p0,gm p p0]
  by_cases hp:p=id
  ·right
   rw[if_pos hp,if_pos hp,b3p]
   exact ⟨by omega,by simp; omega,hp.symm,rfl⟩
  ·rw[if_neg hp,if_neg hp]
   rcases r.b p p0 p1 with h|⟨h2,h3,h4,h5⟩
   ·exact .inl h
   ·right
    rw[a5g h2 h3]
    exact ⟨h2,by simp; omega,h4,h5⟩
theorem Rep.pop {N:Nat} {xs:List (Int × Int)} {at':List Int} {M:List (Option Int)} (r:Rep N xs at' M) {n:Nat} (hn:xs.length=n+1) :
  Rep N (xs.take n) (at'.set (gi xs n).1.toNat (-1)) (M.set (gi xs n).1.toNat none):=by
 have la:=r.la
 have lm:=r.lm
 have an:=r.a n (by omega) (by omega)
 have ga:∀p,0≤p→gi (at'.set (gi xs n).1.toNat (-1)) p=if p=(gi xs n).1 then -1 else gi at' p:=fun p hp=>p7_ an.1 (by omega) hp _
 have gm:∀p,0≤p→gi (M.set (gi xs n).1.toNat none) p=if p=(gi xs n).1 then none else gi M p:=fun p hp=>p7_ an.1 (by omega) hp _
 have hl:(xs.take n).length=n:=by simp; omega
 refine ⟨by simp; exact la,by simp; exact lm,fun i i0 i1=>?_,fun p p0 p1=>?_⟩
 ·rw[hl] at i1
  rw[a9j i0 i1]
  have h:=r.a i i0 (by omega)
  refine ⟨h.1,h.2.1,?_⟩
  rw[ga _ h.1,if_neg (fun q=>by have:=r.inj i0 (by omega) (show (0:Int)≤n by omega) (by omega) q; omega)]
  exact h.2.2
 ·rw[ga p p0,gm p p0,hl]
  by_cases hp:p=(gi xs n).1
  ·rw[if_pos hp,if_pos hp]; exact .inl ⟨rfl,rfl⟩
  ·rw[if_neg hp,if_neg hp]
   rcases r.b p p0 p1 with h|⟨h2,h3,h4,h5⟩
   ·exact .inl h
   ·right
    have:gi at' p≠n:=fun q=>by rw[q] at h4; exact hp h4.symm
    rw[a9j h2 (by omega)]
    exact ⟨h2,by omega,h4,h5⟩
theorem Rep.lower {N:Nat} {xs:List (Int × Int)} {at':List Int} {M:List (Option Int)} (r:Rep N xs at' M) {id key:Int} (h0:0≤id) (h1:id<N) (hn:0≤gi at' id) :
  Rep N (xs.set (gi at' id).toNat (id,key)) at' (M.set id.toNat (some key)):=by
 have la:=r.la
 have lm:=r.lm
 obtain ⟨h2,h3,h4,h5⟩:0≤gi at' id∧gi at' id<xs.length∧(gi xs (gi at' id)).1=id∧gi M id=some (gi xs (gi at' id)).2:=(r.b id h0 h1).resolve_left (fun q=>by omega)
 have gx:∀p,0≤p→gi (xs.set (gi at' id).toNat (id,key)) p=if p=gi at' id then (id,key) else gi xs p:=fun p hp=>p7_ h2 h3 hp _
 have gm:∀p,0≤p→gi (M.set id.toNat (some key)) p=if p=id then some key else gi M p:=fun p hp=>p7_ h0 (by omega) hp _
 refine ⟨la,by simp; exact lm,fun i i0 i1=>?_,fun p p0 p1=>?_⟩
 ·simp only[List.length_set] at i1
  rw[gx i i0]
  by_cases hi:i=gi at' id
  ·rw[if_pos hi]; exact ⟨h0,h1,hi.symm⟩
  ·rw[if_neg hi]; exact r.a i i0 i1
 ·rw[gm p p0,List.length_set]
  by_cases hp:p=id
  ·right
   rw[if_pos hp,hp,gx _ h2,if_pos rfl]
   exact ⟨h2,h3,rfl,rfl⟩
  ·rw[if_neg hp]
   rcases r.b p p0 p1 with h|⟨k2,k3,k4,k5⟩
   ·exact .inl h
   ·right
    have:gi at' p≠gi at' id:=fun q=>by rw[q,h4] at k4; exact hp k4.symm
    rw[gx _ k2,if_neg this]
    exact ⟨k2,k3,k4,k5⟩
theorem Hp.lower {n:Int} {xs:List (Int × Int)} (h:Hp n xs) {p:Int} (p0:0≤p) (p1:p<n) (hn:n≤xs.length) {x:Int × Int} (hx:ltI x (gi xs p)):UpI n (xs.set p.toNat x) p∧∀c,0<c→c<n→par c=p→¬ltI (gi (xs.set p.toNat x) c) (gi (xs.set p.toNat x) p):=by
 have gx:∀q,0≤q→gi (xs.set p.toNat x) q=if q=p then x else gi xs q:=fun q hq=>p7_ p0 (by omega) hq _
 refine ⟨⟨fun i i0 i1 hi=>?_,fun c c0 c1 hc hp=>?_⟩,fun c c0 c1 hc=>?_⟩
 ·have hp:=p3_ i0
  rw[gx i (by omega),if_neg hi,gx _ hp.1]
  have:=h i i0 i1
  split
  ·rename_i hq
   rw[hq] at this
   unfold ltI at *; omega
  ·exact this
 ·have hcp:=p3_ c0
  have hpp:=p3_ hp
  rw[gx c (by omega),if_neg (by omega),gx _ hpp.1,if_neg (by omega)]
  have h1:=h c c0 c1
  have h2:=h p hp p1
  rw[hc] at h1
  unfold ltI at *; omega
 ·have hcp:=p3_ c0
  rw[gx c (by omega),if_neg (by omega),gx p p0,if_pos rfl]
  have h1:=h c c0 c1
  rw[hc] at h1
  unfold ltI at *; omega
theorem Hp.push {n:Nat} {xs:List (Int × Int)} (h:Hp n xs) (hn:xs.length=n) (x:Int × Int):UpI (n+1:Nat) (xs++[x]) n:=by
 refine ⟨fun i i0 i1 hi=>?_,fun c c0 c1 hc hp=>?_⟩
 ·have hp:=p3_ i0
  rw[a5g (by omega) (by omega),a5g hp.1 (by omega)]
  exact h i i0 (by omega)
 ·have:=p3_ c0
  omega
theorem Hp.begin {n:Nat} {xs:List (Int × Int)} (h:Hp (n+1:Nat) xs) (hn:xs.length=n+1):DnI n (sw xs 0 n) 0:=by
 have g:∀p,0≤p→gi (sw xs 0 n) p=if p=(n:Int) then gi xs 0 else if p=0 then gi xs n else gi xs p:=fun p hp'=>gi_sw (by omega) (by omega) (by omega) (by omega) hp'
 refine ⟨fun c c0 c1 hc=>?_,fun c c0 c1 hc hp=>by omega⟩
 have hcp:=p3_ c0
 rw[g c (by omega),if_neg (by omega),if_neg (by omega),g _ hcp.1,if_neg (by omega),if_neg hc]
 exact h c c0 (by omega)
end Go.Gm
namespace Go.Gm
theorem b5w (x:Bool):gdB (.bool true) true x=x:=rfl
theorem b5x (x:Bool):gdB (.bool false) false x=x:=rfl
theorem b5y (x:Bool):gdB (.bool true) false x=true:=rfl
theorem b5z (x:Bool):gdB (.bool false) true x=true:=rfl
theorem gdB_n (b x:Bool):gdB (.tup []) b x=true:=rfl
theorem beqB (b:Bool):(b == b)=true:=by cases b<;>rfl
theorem gB:type_of% (And.intro (And.intro (And.intro (And.intro (And.intro (And.intro (And.intro (@oa_some) (@oh_some)) (And.intro (@ob_some) (@cond2_true))) (And.intro (And.intro (@cond2_false) (@chk_true)) (And.intro (@gd_tt) (@gd_ft)))) (And.intro (And.intro (And.intro (@gd_ff) (@gd_tf)) (And.intro (@gd_n) (@b3j))) (And.intro (And.intro (@b5o) (@b5p)) (And.intro (@b0O) (@b1E))))) (And.intro (And.intro (And.intro (And.intro (@Bool.and_true) (@b1F)) (And.intro (@List.nil_append.{0}) (@List.append_nil.{0}))) (And.intro (And.intro (@lss_t) (@lss_f)) (And.intro (@leq_t) (@leq_f)))) (And.intro (And.intro (And.intro (@gtr_t) (@gtr_f)) (And.intro (@geq_t) (@geq_f))) (And.intro (And.intro (@eql_t) (@eql_f)) (And.intro (@neq_t) (And.intro (@neq_f) (@add_i))))))) (And.intro (And.intro (And.intro (And.intro (And.intro (@sub_i) (@rem_i)) (And.intro (@quo_w) (@mul_w))) (And.intro (And.intro (@eql_b) (@neq_b)) (And.intro (@b5q) (@b5r)))) (And.intro (And.intro (And.intro (@a6A) (@b2D)) (And.intro (@b3k) (@b4n))) (And.intro (And.intro (@b4o) (@b3l)) (And.intro (@b5s) (@b4p))))) (And.intro (And.intro (And.intro (And.intro (@b5t) (@b4q)) (And.intro (@b5u) (@b4r))) (And.intro (And.intro (@b3m) (@b4s)) (And.intro (@b2E) (@a8y)))) (And.intro (And.intro (And.intro (@a5f) (@j1_)) (And.intro (@a8_) (@b0g))) (And.intro (And.intro (@b0h) (@a6_)) (And.intro (@b3n) (And.intro (@b5m) (@Bool.not_true)))))))) (And.intro (And.intro (And.intro (And.intro (And.intro (And.intro (@Bool.not_false) (@a8z)) (And.intro (@a9f) (@b0z))) (And.intro (And.intro (@b0A) (@b1H)) (And.intro (@a9g) (@a9h)))) (And.intro (And.intro (And.intro (@b0B) (@b0C)) (And.intro (@w8_) (@a6g))) (And.intro (And.intro (@a7F) (@a7G)) (And.intro (@a9i) (@a6h))))) (And.intro (And.intro (And.intro (And.intro (@a6i) (@a7H)) (And.intro (@a7I) (@a7J))) (And.intro (And.intro (@List.all_cons.{0}) (@List.all_nil.{0})) (And.intro (@List.getElem?_cons_zero.{0}) (@List.getElem?_cons_succ.{0})))) (And.intro (And.intro (And.intro (@List.getD_cons_zero.{0}) (@List.getD_cons_succ.{0})) (And.intro (@List.set_cons_zero.{0}) (@List.set_cons_succ.{0}))) (And.intro (And.intro (@List.drop_zero.{0}) (@List.drop_succ_cons.{0})) (And.intro (@List.take_succ_cons.{0}) (And.intro (@List.take_zero.{0}) (@List.length_cons.{0}))))))) (And.intro (And.intro (And.intro (And.intro (And.intro (@List.length_nil.{0}) (@List.length_append.{0})) (And.intro (@List.length_set.{0}) (@Nat.zero_add))) (And.intro (And.intro (@Nat.add_zero) (@Nat.sub_self)) (And.intro (@Nat.add_sub_cancel_left) (@Int.toNat_natCast)))) (And.intro (And.intro (And.intro (@Nat.mul_one) (@and_self)) (And.intro (@if_true.{1}) (@if_false.{1}))) (And.intro (And.intro (@b3o) (@b4u)) (And.intro (@b4t) (And.intro (@Option.map_some.{0,0}) (@b1G)))))) (And.intro (And.intro (And.intro (And.intro (@b0P) (@b2F)) (And.intro (@bsl_i) (@or_i))) (And.intro (And.intro (@and_i) (@shl_i)) (And.intro (@shr_i) (@a6B)))) (And.intro (And.intro (And.intro (@bit_t) (@bit_f)) (And.intro (@ixA_i) (@b5w))) (And.intro (And.intro (@b5x) (@b5y)) (And.intro (@b5z) (And.intro (@gdB_n) (@beqB))))))))):=And.intro (And.intro (And.intro (And.intro (And.intro (And.intro (And.intro (@oa_some) (@oh_some)) (And.intro (@ob_some) (@cond2_true))) (And.intro (And.intro (@cond2_false) (@chk_true)) (And.intro (@gd_tt) (@gd_ft)))) (And.intro (And.intro (And.intro (@gd_ff) (@gd_tf)) (And.intro (@gd_n) (@b3j))) (And.intro (And.intro (@b5o) (@b5p)) (And.intro (@b0O) (@b1E))))) (And.intro (And.intro (And.intro (And.intro (@Bool.and_true) (@b1F)) (And.intro (@List.nil_append.{0}) (@List.append_nil.{0}))) (And.intro (And.intro (@lss_t) (@lss_f)) (And.intro (@leq_t) (@leq_f)))) (And.intro (And.intro (And.intro (@gtr_t) (@gtr_f)) (And.intro (@geq_t) (@geq_f))) (And.intro (And.intro (@eql_t) (@eql_f)) (And.intro (@neq_t) (And.intro (@neq_f) (@add_i))))))) (And.intro (And.intro (And.intro (And.intro (And.intro (@sub_i) (@rem_i)) (And.intro (@quo_w) (@mul_w))) (And.intro (And.intro (@eql_b) (@neq_b)) (And.intro (@b5q) (@b5r)))) (And.intro (And.intro (And.intro (@a6A) (@b2D)) (And.intro (@b3k) (@b4n))) (And.intro (And.intro (@b4o) (@b3l)) (And.intro (@b5s) (@b4p))))) (And.intro (And.intro (And.intro (And.intro (@b5t) (@b4q)) (And.intro (@b5u) (@b4r))) (And.intro (And.intro (@b3m) (@b4s)) (And.intro (@b2E) (@a8y)))) (And.intro (And.intro (And.intro (@a5f) (@j1_)) (And.intro (@a8_) (@b0g))) (And.intro (And.intro (@b0h) (@a6_)) (And.intro (@b3n) (And.intro (@b5m) (@Bool.not_true)))))))) (And.intro (And.intro (And.intro (And.intro (And.intro (And.intro (@Bool.not_false) (@a8z)) (And.intro (@a9f) (@b0z))) (And.intro (And.intro (@b0A) (@b1H)) (And.intro (@a9g) (@a9h)))) (And.intro (And.intro (And.intro (@b0B) (@b0C)) (And.intro (@w8_) (@a6g))) (And.intro (And.intro (@a7F) (@a7G)) (And.intro (@a9i) (@a6h))))) (And.intro (And.intro (And.intro (And.intro (@a6i) (@a7H)) (And.intro (@a7I) (@a7J))) (And.intro (And.intro (@List.all_cons.{0}) (@List.all_nil.{0})) (And.intro (@List.getElem?_cons_zero.{0}) (@List.getElem?_cons_succ.{0})))) (And.intro (And.intro (And.intro (@List.getD_cons_zero.{0}) (@List.getD_cons_succ.{0})) (And.intro (@List.set_cons_zero.{0}) (@List.set_cons_succ.{0}))) (And.intro (And.intro (@List.drop_zero.{0}) (@List.drop_succ_cons.{0})) (And.intro (@List.take_succ_cons.{0}) (And.intro (@List.take_zero.{0}) (@List.length_cons.{0}))))))) (And.intro (And.intro (And.intro (And.intro (And.intro (@List.length_nil.{0}) (@List.length_append.{0})) (And.intro (@List.length_set.{0}) (@Nat.zero_add))) (And.intro (And.intro (@Nat.add_zero) (@Nat.sub_self)) (And.intro (@Nat.add_sub_cancel_left) (@Int.toNat_natCast)))) (And.intro (And.intro (And.intro (@Nat.mul_one) (@and_self)) (And.intro (@if_true.{1}) (@if_false.{1}))) (And.intro (And.intro (@b3o) (@b4u)) (And.intro (@b4t) (And.intro (@Option.map_some.{0,0}) (@b1G)))))) (And.intro (And.intro (And.intro (And.intro (@b0P) (@b2F)) (And.intro (@bsl_i) (@or_i))) (And.intro (And.intro (@and_i) (@shl_i)) (And.intro (@shr_i) (@a6B)))) (And.intro (And.intro (And.intro (@bit_t) (@bit_f)) (And.intro (@ixA_i) (@b5w))) (And.intro (And.intro (@b5x) (@b5y)) (And.intro (@b5z) (And.intro (@gdB_n) (@beqB))))))))
theorem gL:type_of% (And.intro (And.intro (@List.length_append.{0}) (And.intro (@List.length_set.{0}) (@List.length_cons.{0}))) (And.intro (And.intro (@List.length_nil.{0}) (@List.length_map.{0,0})) (And.intro (@List.length_replicate.{0}) (@a6_)))):=And.intro (And.intro (@List.length_append.{0}) (And.intro (@List.length_set.{0}) (@List.length_cons.{0}))) (And.intro (And.intro (@List.length_nil.{0}) (@List.length_map.{0,0})) (And.intro (@List.length_replicate.{0}) (@a6_)))
theorem gA:type_of% (And.intro (And.intro (And.intro (And.intro (@List.all_cons.{0}) (And.intro (@List.all_nil.{0}) (@a8z))) (And.intro (@a9f) (And.intro (@b0z) (@b0A)))) (And.intro (And.intro (@b1H) (And.intro (@a9g) (@a9h))) (And.intro (And.intro (@b0B) (@b0C)) (And.intro (@w8_) (@a6g))))) (And.intro (And.intro (And.intro (@a7F) (And.intro (@a7G) (@a9i))) (And.intro (And.intro (@a6h) (@a6i)) (And.intro (@a7H) (@a7I)))) (And.intro (And.intro (@a7J) (And.intro (@Bool.and_self) (@Bool.and_true))) (And.intro (And.intro (@Bool.true_and) (@Nat.zero_mul)) (And.intro (@Nat.one_mul) (@Nat.mul_one)))))):=And.intro (And.intro (And.intro (And.intro (@List.all_cons.{0}) (And.intro (@List.all_nil.{0}) (@a8z))) (And.intro (@a9f) (And.intro (@b0z) (@b0A)))) (And.intro (And.intro (@b1H) (And.intro (@a9g) (@a9h))) (And.intro (And.intro (@b0B) (@b0C)) (And.intro (@w8_) (@a6g))))) (And.intro (And.intro (And.intro (@a7F) (And.intro (@a7G) (@a9i))) (And.intro (And.intro (@a6h) (@a6i)) (And.intro (@a7H) (@a7I)))) (And.intro (And.intro (@a7J) (And.intro (@Bool.and_self) (@Bool.and_true))) (And.intro (And.intro (@Bool.true_and) (@Nat.zero_mul)) (And.intro (@Nat.one_mul) (@Nat.mul_one)))))
end Go.Gm
namespace Go.Gm.AQ
open Go Go.Gm
abbrev p8_:FuncId:=6
abbrev j4_:FuncId:=15
abbrev i0_:FuncId:=19
abbrev h8_:FuncId:=21
abbrev h2_:FuncId:=24
abbrev f3_:FuncId:=27
abbrev p9_:FuncId:=39
abbrev d8_:FuncId:=40
abbrev e6_:FuncId:=41
abbrev c6_:FuncId:=42
abbrev d9_:FuncId:=43
abbrev j5_:FuncId:=46
abbrev j6_:FuncId:=47
abbrev h3_:FuncId:=48
abbrev g6_:FuncId:=49
abbrev i1_:FuncId:=54
abbrev f5_:FuncId:=58
abbrev l0_:FuncId:=59
abbrev c7_:FuncId:=60
abbrev l1_:FuncId:=69
abbrev g7_:FuncId:=71
abbrev a5v:FuncId:=77
abbrev a2r:FuncId:=78
abbrev f1_:FuncId:=79
abbrev a1d:FuncId:=80
abbrev b1_:FuncId:=83
abbrev a4_:FuncId:=84
abbrev a7_:FuncId:=85
abbrev j7_:FuncId:=86
abbrev l2_:FuncId:=87
abbrev l3_:FuncId:=88
abbrev i2_:FuncId:=89
abbrev a0n:FuncId:=94
abbrev m3_:FuncId:=95
abbrev h4_:FuncId:=107
abbrev l4_:FuncId:=108
abbrev q0_:FuncId:=109
abbrev b8_:FuncId:=110
abbrev f6_:FuncId:=111
abbrev h0_:FuncId:=112
abbrev w9_:FuncId:=113
abbrev a0o:FuncId:=114
abbrev b3_:FuncId:=115
abbrev a2_:FuncId:=116
abbrev e0_:FuncId:=117
abbrev b0_:FuncId:=118
abbrev e1_:FuncId:=119
abbrev c9_:FuncId:=120
abbrev l5_:FuncId:=121
abbrev j8_:FuncId:=122
abbrev j9_:FuncId:=123
abbrev l6_:FuncId:=124
abbrev f2_:FuncId:=126
abbrev c1_:FuncId:=127
abbrev b2_:FuncId:=128
abbrev a0_:FuncId:=129
abbrev c8_:FuncId:=130
abbrev k0_:FuncId:=131
abbrev e7_:FuncId:=132
abbrev e2_:FuncId:=133
abbrev a9_:FuncId:=134
abbrev e3_:FuncId:=135
abbrev e4_:FuncId:=136
abbrev p4_:FuncId:=155
abbrev u5_:FuncId:=156
abbrev x0_:FuncId:=157
abbrev u6_:FuncId:=158
abbrev p5_:FuncId:=159
abbrev s4_:FuncId:=160
def a4H:Res:=[(2,none)]
noncomputable def m5_:MFn:=⟨56,a4H,.seq [2] (.region [tS 2 (.mv (.const (.bool false)))]) (.seq [12] (.seq [11] (.region [⟨some 11,.call j4_ [],none⟩,tS 12 (.un .not (tT 11))]) (.cond (tT 12) (.seq [0,12] (.region [tS 2 (.mv (.const (.bool false)))]) .ret) .skip)) (.seq [13,14,15,16,17,18,19,20] (.region [tS 13 (.build [.int .i64 0,.int .i64 0,.int .i64 0,.int .i64 0] [(0,1,(tK 0)),(1,1,(tK 1)),(2,1,(tK 0)),(3,1,(tK 1))]),tS 14 (.build [.int .i64 0,.int .i64 0,.int .i64 0,.int .i64 0] [(0,1,(tK 1)),(1,1,(tK 2)),(2,1,(tK 0)),(3,1,(tK 1))]),tS 15 (.build [.int .i64 0,.int .i64 0,.int .i64 0,.int .i64 0] [(0,1,(tK 0)),(1,1,(tK 2)),(2,1,(tK 2)),(3,1,(tK 5))]),tS 16 (.build [.int .i64 0,.int .i64 0,.int .i64 0,.int .i64 0] [(0,1,(tK 2)),(1,1,(tK 3)),(2,1,(tK 4)),(3,1,(tK 2))]),tS 17 (.build [.int .i64 0,.int .i64 0,.int .i64 0,.int .i64 0] [(0,1,(tK 2)),(1,1,(tK 0)),(2,1,(tK 1)),(3,1,(tK 0))]),tS 18 (.build [.int .i64 0,.int .i64 0,.int .i64 0,.int .i64 0] [(0,1,(tK 3)),(1,1,(tK 3)),(2,1,(tK 3)),(3,1,(tK 7))]),tS 19 (.buildSlice 4 6 [.int .i64 0,.int .i64 0,.int .i64 0,.int .i64 0,.int .i64 0,.int .i64 0,.int .i64 0,.int .i64 0,.int .i64 0,.int .i64 0,.int .i64 0,.int .i64 0,.int .i64 0,.int .i64 0,.int .i64 0,.int .i64 0,.int .i64 0,.int .i64 0,.int .i64 0,.int .i64 0,.int .i64 0,.int .i64 0,.int .i64 0,.int .i64 0] [(0,4,(tT 13)),(4,4,(tT 14)),(8,4,(tT 15)),(12,4,(tT 16)),(16,4,(tT 17)),(20,4,(tT 18))]),tS 20 (.build [.int .i64 0,.nils] [(0,1,(tK 4)),(1,1,(tT 19))]),tS 3 (.alloc [.int .i64 0,.nils]),tW 2 3 20]) (.seq [21] (.region [tS 21 (.buildSlice 1 14 [.str ⟨#[]⟩,.str ⟨#[]⟩,.str ⟨#[]⟩,.str ⟨#[]⟩,.str ⟨#[]⟩,.str ⟨#[]⟩,.str ⟨#[]⟩,.str ⟨#[]⟩,.str ⟨#[]⟩,.str ⟨#[]⟩,.str ⟨#[]⟩,.str ⟨#[]⟩,.str ⟨#[]⟩,.str ⟨#[]⟩] [(0,1,(.const (.str ⟨#[46,42]⟩))),(1,1,(.const (.str ⟨#[119,42]⟩))),(2,1,(.const (.str ⟨#[99,42]⟩))),(3,1,(.const (.str ⟨#[99,98,63,116]⟩))),(4,1,(.const (.str ⟨#[119,119]⟩))),(5,1,(.const (.str ⟨#[119,42,116]⟩))),(6,1,(.const (.str ⟨#[99,116]⟩))),(7,1,(.const (.str ⟨#[46,42,102]⟩))),(8,1,(.const (.str ⟨#[119,119,98,119,119,116]⟩))),(9,1,(.const (.str ⟨#[95]⟩))),(10,1,(.const (.str ⟨#[48]⟩))),(11,1,(.const (.str ⟨#[40,119,119,98,41,43]⟩))),(12,1,(.const (.str ⟨#[119,123,52,44,52,125,116]⟩))),(13,1,(.const (.str ⟨#[46,123,54,44,54,125,116,42]⟩)))]),tM 4 21]) (.seq [22] (.region [tS 22 (.buildSlice 1 14 [.int .i64 0,.int .i64 0,.int .i64 0,.int .i64 0,.int .i64 0,.int .i64 0,.int .i64 0,.int .i64 0,.int .i64 0,.int .i64 0,.int .i64 0,.int .i64 0,.int .i64 0,.int .i64 0] [(0,1,(tK 3)),(1,1,(tK 2)),(2,1,(tK 2)),(3,1,(tK 3)),(4,1,(tK 2)),(5,1,(tK 3)),(6,1,(tK 3)),(7,1,(tK 3)),(8,1,(tK 3)),(9,1,(tK 0)),(10,1,(tK 0)),(11,1,(tK 0)),(12,1,(tK 3)),(13,1,(tK 3))]),tM 5 22]) (.seq [23] (.region [tS 23 (.buildSlice 1 14 [.int .i64 0,.int .i64 0,.int .i64 0,.int .i64 0,.int .i64 0,.int .i64 0,.int .i64 0,.int .i64 0,.int .i64 0,.int .i64 0,.int .i64 0,.int .i64 0,.int .i64 0,.int .i64 0] [(0,1,(tK 4)),(1,1,(tK 2)),(2,1,(tK 5)),(3,1,(tK 7)),(4,1,(tK 2)),(5,1,(tK 4)),(6,1,(tK 7)),(7,1,(tK 11)),(8,1,(tK 6)),(9,1,(tK 0)),(10,1,(tK (-1))),(11,1,(tK 2)),(12,1,(tK (-1))),(13,1,(tK 6))]),tM 6 23]) (.seq [0,24,25,26,27] (.region [tM 24 0,tM 25 4,tS 26 (.lenSl (tT 25)),⟨some 27,.call i0_ [(tT 24),(tT 26)],none⟩,tM 7 27]) (.seq [4,9,28,29,30,31,32,33,34,35] (.region [tM 29 4,tM 30 7,tX 31 1 29 30,tL 32 31,⟨some 33,.call h2_ [(tT 32)],none⟩,tM 28 33,tS 34 (.extract 0 (tT 28)),tS 35 (.extract 1 (tT 28)),tS 8 (.alloc [.nils,.nils]),tW 2 8 34,tM 9 35]) (.seq [3,8,36,37,38] (.region [tA 36 2 3,tA 37 2 8,⟨some 38,.call h8_ [(tT 36),(tT 37),(tK 0)],none⟩,tM 10 38]) (.seq [5,6,7,10,39,40,41,42,43,44,45,46,47,48,49,50,51,52,53,54,55] (.regionD 56 [dM 0 56 10,tD 1 57 (.lenSl (tT 56)),tD 2 58 (.bin .eql .scalar (tT 57) (tK 4)),dM 3 59 58,⟨4,⟨some 60,.op (.mv (tT 10)),some (59,true)⟩,[]⟩,⟨5,⟨some 61,.op (.mv (tT 5)),some (59,true)⟩,[]⟩,⟨6,⟨some 62,.op (.mv (tT 7)),some (59,true)⟩,[]⟩,⟨7,⟨some 63,.op (.idxSl 1 (tT 61) (tT 62)),some (59,true)⟩,[]⟩,⟨8,⟨some 64,.op (.load none (tT 63)),some (59,true)⟩,[]⟩,⟨9,⟨some 65,.op (.idxSl 1 (tT 60) (tT 64)),some (59,true)⟩,[]⟩,⟨10,⟨some 66,.op (.load none (tT 65)),some (59,true)⟩,[]⟩,⟨11,⟨some 67,.op (.mv (tT 6)),some (59,true)⟩,[]⟩,⟨12,⟨some 68,.op (.mv (tT 7)),some (59,true)⟩,[]⟩,⟨13,⟨some 69,.op (.idxSl 1 (tT 67) (tT 68)),some (59,true)⟩,[]⟩,⟨14,⟨some 70,.op (.load none (tT 69)),some (59,true)⟩,[]⟩,⟨15,⟨some 71,.op (.bin .eql .scalar (tT 66) (tT 70)),some (59,true)⟩,[]⟩,tD 16 72 (.pick (tT 59) (tT 71) (.const (.bool false))),dM 17 73 72] [(39,56),(40,57),(41,58),(42,59),(43,60),(44,61),(45,62),(46,63),(47,64),(48,65),(49,66),(50,67),(51,68),(52,69),(53,70),(54,71),(55,72),(2,73)]) .ret)))))))))⟩
theorem a4I (T:Tab) (k:Nat) (a:AV) (h:Heap):runF T k m5_ [a] h =
 ob (evalFn T k j4_ [] h) fun b c=>
 oa (unV .not b) fun d=>
 cond2 d
 (
 some ((.bool false),c)
 )
 (
 oa (buildV [.int .i64 0,.int .i64 0,.int .i64 0,.int .i64 0] [(0,1,(.int .i64 0)),(1,1,(.int .i64 1)),(2,1,(.int .i64 0)),(3,1,(.int .i64 1))]) fun e=>
 oa (buildV [.int .i64 0,.int .i64 0,.int .i64 0,.int .i64 0] [(0,1,(.int .i64 1)),(1,1,(.int .i64 2)),(2,1,(.int .i64 0)),(3,1,(.int .i64 1))]) fun f=>
 oa (buildV [.int .i64 0,.int .i64 0,.int .i64 0,.int .i64 0] [(0,1,(.int .i64 0)),(1,1,(.int .i64 2)),(2,1,(.int .i64 2)),(3,1,(.int .i64 5))]) fun g=>
 oa (buildV [.int .i64 0,.int .i64 0,.int .i64 0,.int .i64 0] [(0,1,(.int .i64 2)),(1,1,(.int .i64 3)),(2,1,(.int .i64 4)),(3,1,(.int .i64 2))]) fun i=>
 oa (buildV [.int .i64 0,.int .i64 0,.int .i64 0,.int .i64 0] [(0,1,(.int .i64 2)),(1,1,(.int .i64 0)),(2,1,(.int .i64 1)),(3,1,(.int .i64 0))]) fun l=>
 oa (buildV [.int .i64 0,.int .i64 0,.int .i64 0,.int .i64 0] [(0,1,(.int .i64 3)),(1,1,(.int .i64 3)),(2,1,(.int .i64 3)),(3,1,(.int .i64 7))]) fun m=>
 ob (buildSl 4 6 [.int .i64 0,.int .i64 0,.int .i64 0,.int .i64 0,.int .i64 0,.int .i64 0,.int .i64 0,.int .i64 0,.int .i64 0,.int .i64 0,.int .i64 0,.int .i64 0,.int .i64 0,.int .i64 0,.int .i64 0,.int .i64 0,.int .i64 0,.int .i64 0,.int .i64 0,.int .i64 0,.int .i64 0,.int .i64 0,.int .i64 0,.int .i64 0] [(0,4,e),(4,4,f),(8,4,g),(12,4,i),(16,4,l),(20,4,m)] c) fun n o=>
 oa (buildV [.int .i64 0,.nils] [(0,1,(.int .i64 4)),(1,1,n)]) fun p=>
 ob (newVar o [.int .i64 0,.nils]) fun q r=>
 oh (stN 2 r q p) fun s=>
 ob (buildSl 1 14 [.str ⟨#[]⟩,.str ⟨#[]⟩,.str ⟨#[]⟩,.str ⟨#[]⟩,.str ⟨#[]⟩,.str ⟨#[]⟩,.str ⟨#[]⟩,.str ⟨#[]⟩,.str ⟨#[]⟩,.str ⟨#[]⟩,.str ⟨#[]⟩,.str ⟨#[]⟩,.str ⟨#[]⟩,.str ⟨#[]⟩] [(0,1,(.str ⟨#[46,42]⟩)),(1,1,(.str ⟨#[119,42]⟩)),(2,1,(.str ⟨#[99,42]⟩)),(3,1,(.str ⟨#[99,98,63,116]⟩)),(4,1,(.str ⟨#[119,119]⟩)),(5,1,(.str ⟨#[119,42,116]⟩)),(6,1,(.str ⟨#[99,116]⟩)),(7,1,(.str ⟨#[46,42,102]⟩)),(8,1,(.str ⟨#[119,119,98,119,119,116]⟩)),(9,1,(.str ⟨#[95]⟩)),(10,1,(.str ⟨#[48]⟩)),(11,1,(.str ⟨#[40,119,119,98,41,43]⟩)),(12,1,(.str ⟨#[119,123,52,44,52,125,116]⟩)),(13,1,(.str ⟨#[46,123,54,44,54,125,116,42]⟩))] s) fun t u=>
 ob (buildSl 1 14 [.int .i64 0,.int .i64 0,.int .i64 0,.int .i64 0,.int .i64 0,.int .i64 0,.int .i64 0,.int .i64 0,.int .i64 0,.int .i64 0,.int .i64 0,.int .i64 0,.int .i64 0,.int .i64 0] [(0,1,(.int .i64 3)),(1,1,(.int .i64 2)),(2,1,(.int .i64 2)),(3,1,(.int .i64 3)),(4,1,(.int .i64 2)),(5,1,(.int .i64 3)),(6,1,(.int .i64 3)),(7,1,(.int .i64 3)),(8,1,(.int .i64 3)),(9,1,(.int .i64 0)),(10,1,(.int .i64 0)),(11,1,(.int .i64 0)),(12,1,(.int .i64 3)),(13,1,(.int .i64 3))] u) fun v w=>
 ob (buildSl 1 14 [.int .i64 0,.int .i64 0,.int .i64 0,.int .i64 0,.int .i64 0,.int .i64 0,.int .i64 0,.int .i64 0,.int .i64 0,.int .i64 0,.int .i64 0,.int .i64 0,.int .i64 0,.int .i64 0] [(0,1,(.int .i64 4)),(1,1,(.int .i64 2)),(2,1,(.int .i64 5)),(3,1,(.int .i64 7)),(4,1,(.int .i64 2)),(5,1,(.int .i64 4)),(6,1,(.int .i64 7)),(7,1,(.int .i64 11)),(8,1,(.int .i64 6)),(9,1,(.int .i64 0)),(10,1,(.int .i64 (-1))),(11,1,(.int .i64 2)),(12,1,(.int .i64 (-1))),(13,1,(.int .i64 6))] w) fun x y=>
 oa (lenS t) fun z=>
 ob (evalFn T k i0_ [a,z] y) fun aa ab=>
 oa (idxS 1 t aa) fun ac=>
 oa (ld1 ab ac) fun ad=>
 ob (evalFn T k h2_ [ad] ab) fun ae af=>
 oa (extr 0 ae) fun ag=>
 oa (extr 1 ae) fun ai=>
 ob (newVar af [.nils,.nils]) fun al am=>
 oh (stN 2 am al ag) fun an=>
 oa (ldN 2 an q) fun ao=>
 oa (ldN 2 an al) fun ap=>
 ob (evalFn T k h8_ [ao,ap,(.int .i64 0)] an) fun aq ar=>
 oa (lenS aq) fun as=>
 oa (binV .eql .scalar as (.int .i64 4)) fun au=>
 ob (gd au true (some (aq,ar)) ar) fun av aw=>
 ob (gd au true (some (v,aw)) aw) fun ax ay=>
 ob (gd au true (some (aa,ay)) ay) fun az a0=>
 ob (gd au true (pure1 a0 (idxS 1 ax az)) a0) fun a1 a2=>
 ob (gd au true (pure1 a2 (ld1 a2 a1)) a2) fun a3 a4=>
 ob (gd au true (pure1 a4 (idxS 1 av a3)) a4) fun a5 a6=>
 ob (gd au true (pure1 a6 (ld1 a6 a5)) a6) fun a7 a8=>
 ob (gd au true (some (x,a8)) a8) fun a9 ba=>
 ob (gd au true (some (aa,ba)) ba) fun bb bc=>
 ob (gd au true (pure1 bc (idxS 1 a9 bb)) bc) fun bd be=>
 ob (gd au true (pure1 be (ld1 be bd)) be) fun bf bg=>
 ob (gd au true (pure1 bg (binV .eql .scalar a7 bf)) bg) fun bi bl=>
 oa (pickV au bi (.bool false)) fun bm=>
 some (bm,bl)
 ):=runEq (by kernel_rfl)
def a7T:Res:=[(0,none)]
end Go.Gm.AQ
namespace Go.Gm.AQ
open Go Go.Gm
noncomputable def x7_:MFn:=⟨67,a7T,.seq [0] (.region [tS 0 (.mv (.const (.bool false)))]) (.seq [8,9,10] (.region [tS 8 (.build [.int .i64 0,.int .i64 0,.int .i64 0,.int .i64 0] [(0,1,(tK 0)),(1,1,(tK 1)),(3,1,(tK 4))]),tS 9 (.buildSlice 4 1 [.int .i64 0,.int .i64 0,.int .i64 0,.int .i64 0] [(0,4,(tT 8))]),tS 10 (.build [.int .i64 0,.nils] [(0,1,(tK 2)),(1,1,(tT 9))]),tS 1 (.alloc [.int .i64 0,.nils]),tW 2 1 10]) (.seq [11,12,13,14] (.region [tS 11 (.build [.int .i64 0,.int .i64 0,.int .i64 0,.int .i64 0,.int .i64 0] []),tS 12 (.buildSlice 5 1 [.int .i64 0,.int .i64 0,.int .i64 0,.int .i64 0,.int .i64 0] [(0,5,(tT 11))]),tS 13 (.buildSlice 1 1 [.bool false] [(0,1,(.const (.bool true)))]),tS 14 (.build [.nils,.nils] [(0,1,(tT 12)),(1,1,(tT 13))]),tS 2 (.alloc [.nils,.nils]),tW 2 2 14]) (.seq [15,16,17,18,19,20] (.region [tA 16 2 1,tA 17 2 2,⟨some 18,.call f3_ [(tT 16),(tT 17),(tK 1),(tK 1)],none⟩,tM 15 18,tS 19 (.extract 0 (tT 15)),tS 20 (.extract 1 (tT 15)),tS 3 (.alloc [.int .i64 0,.nils]),tW 2 3 19,tM 4 20]) (.seq [21,22,23,24,25,26] (.region [tA 22 2 1,tA 23 2 2,⟨some 24,.call f3_ [(tT 22),(tT 23),(tK 0),(tK 1)],none⟩,tM 21 24,tS 25 (.extract 0 (tT 21)),tS 26 (.extract 1 (tT 21)),tS 5 (.alloc [.int .i64 0,.nils]),tW 2 5 25,tM 6 26]) (.seq [1,2,27,28,29] (.region [tA 27 2 1,tA 28 2 2,⟨some 29,.call h8_ [(tT 27),(tT 28),(tK 0)],none⟩,tM 7 29]) (.seq [3,4,5,6,7,30,31,32,33,34,35,36,37,38,39,40,41,42,43,44,45,46,47,48,49,50,51,52,53,54,55,56,57,58,59,60,61,62,63,64,65,66] (.region [tM 30 4,tM 31 30,⟨some 32,.op (.fieldAddr 0 (tT 3)),some (31,true)⟩,⟨some 33,.op (.load none (tT 32)),some (31,true)⟩,⟨some 34,.op (.bin .eql .scalar (tT 33) (tK 0)),some (31,true)⟩,tS 35 (.pick (tT 31) (tT 34) (.const (.bool false))),tM 36 35,⟨some 37,.op (.fieldAddr 1 (tT 3)),some (36,true)⟩,⟨some 38,.op (.load none (tT 37)),some (36,true)⟩,⟨some 39,.op (.lenSl (tT 38)),some (36,true)⟩,⟨some 40,.op (.bin .eql .scalar (tT 39) (tK 0)),some (36,true)⟩,tS 41 (.pick (tT 36) (tT 40) (.const (.bool false))),tM 42 41,⟨some 43,.op (.mv (tT 6)),some (42,true)⟩,tS 44 (.pick (tT 42) (tT 43) (.const (.bool false))),tM 45 44,⟨some 46,.op (.fieldAddr 0 (tT 5)),some (45,true)⟩,⟨some 47,.op (.load none (tT 46)),some (45,true)⟩,⟨some 48,.op (.bin .eql .scalar (tT 47) (tK 4)),some (45,true)⟩,tS 49 (.pick (tT 45) (tT 48) (.const (.bool false))),tM 50 49,⟨some 51,.op (.fieldAddr 1 (tT 5)),some (50,true)⟩,⟨some 52,.op (.load none (tT 51)),some (50,true)⟩,⟨some 53,.op (.lenSl (tT 52)),some (50,true)⟩,⟨some 54,.op (.bin .eql .scalar (tT 53) (tK 1)),some (50,true)⟩,tS 55 (.pick (tT 50) (tT 54) (.const (.bool false))),tM 56 55,⟨some 57,.op (.mv (tT 7)),some (56,true)⟩,⟨some 58,.op (.lenSl (tT 57)),some (56,true)⟩,⟨some 59,.op (.bin .eql .scalar (tT 58) (tK 2)),some (56,true)⟩,tS 60 (.pick (tT 56) (tT 59) (.const (.bool false))),tM 61 60,⟨some 62,.op (.mv (tT 7)),some (61,true)⟩,⟨some 63,.op (.idxSl 1 (tT 62) (tK 1)),some (61,true)⟩,⟨some 64,.op (.load none (tT 63)),some (61,true)⟩,⟨some 65,.op (.bin .eql .scalar (tT 64) (tK 4)),some (61,true)⟩,tS 66 (.pick (tT 61) (tT 65) (.const (.bool false))),tM 0 66]) .ret))))))⟩
theorem a7U (T:Tab) (k:Nat) (h:Heap):runF T k x7_ [] h =
 oa (buildV [.int .i64 0,.int .i64 0,.int .i64 0,.int .i64 0] [(0,1,(.int .i64 0)),(1,1,(.int .i64 1)),(3,1,(.int .i64 4))]) fun a=>
 ob (buildSl 4 1 [.int .i64 0,.int .i64 0,.int .i64 0,.int .i64 0] [(0,4,a)] h) fun b c=>
 oa (buildV [.int .i64 0,.nils] [(0,1,(.int .i64 2)),(1,1,b)]) fun d=>
 ob (newVar c [.int .i64 0,.nils]) fun e f=>
 oh (stN 2 f e d) fun g=>
 oa (buildV [.int .i64 0,.int .i64 0,.int .i64 0,.int .i64 0,.int .i64 0] []) fun i=>
 ob (buildSl 5 1 [.int .i64 0,.int .i64 0,.int .i64 0,.int .i64 0,.int .i64 0] [(0,5,i)] g) fun l m=>
 ob (buildSl 1 1 [.bool false] [(0,1,(.bool true))] m) fun n o=>
 oa (buildV [.nils,.nils] [(0,1,l),(1,1,n)]) fun p=>
 ob (newVar o [.nils,.nils]) fun q r=>
 oh (stN 2 r q p) fun s=>
 oa (ldN 2 s e) fun t=>
 oa (ldN 2 s q) fun u=>
 ob (evalFn T k f3_ [t,u,(.int .i64 1),(.int .i64 1)] s) fun v w=>
 oa (extr 0 v) fun x=>
 oa (extr 1 v) fun y=>
 ob (newVar w [.int .i64 0,.nils]) fun z aa=>
 oh (stN 2 aa z x) fun ab=>
 oa (ldN 2 ab e) fun ac=>
 oa (ldN 2 ab q) fun ad=>
 ob (evalFn T k f3_ [ac,ad,(.int .i64 0),(.int .i64 1)] ab) fun ae af=>
 oa (extr 0 ae) fun ag=>
 oa (extr 1 ae) fun ai=>
 ob (newVar af [.int .i64 0,.nils]) fun al am=>
 oh (stN 2 am al ag) fun an=>
 oa (ldN 2 an e) fun ao=>
 oa (ldN 2 an q) fun ap=>
 ob (evalFn T k h8_ [ao,ap,(.int .i64 0)] an) fun aq ar=>
 ob (gd y true (pure1 ar (fldA 0 z)) ar) fun as au=>
 ob (gd y true (pure1 au (ld1 au as)) au) fun av aw=>
 ob (gd y true (pure1 aw (binV .eql .scalar av (.int .i64 0))) aw) fun ax ay=>
 oa (pickV y ax (.bool false)) fun az=>
 ob (gd az true (pure1 ay (fldA 1 z)) ay) fun a0 a1=>
 ob (gd az true (pure1 a1 (ld1 a1 a0)) a1) fun a2 a3=>
 ob (gd az true (pure1 a3 (lenS a2)) a3) fun a4 a5=>
 ob (gd az true (pure1 a5 (binV .eql .scalar a4 (.int .i64 0))) a5) fun a6 a7=>
 oa (pickV az a6 (.bool false)) fun a8=>
 ob (gd a8 true (some (ai,a7)) a7) fun a9 ba=>
 oa (pickV a8 a9 (.bool false)) fun bb=>
 ob (gd bb true (pure1 ba (fldA 0 al)) ba) fun bc bd=>
 ob (gd bb true (pure1 bd (ld1 bd bc)) bd) fun be bf=>
 ob (gd bb true (pure1 bf (binV .eql .scalar be (.int .i64 4))) bf) fun bg bi=>
 oa (pickV bb bg (.bool false)) fun bl=>
 ob (gd bl true (pure1 bi (fldA 1 al)) bi) fun bm bn=>
 ob (gd bl true (pure1 bn (ld1 bn bm)) bn) fun bo bp=>
 ob (gd bl true (pure1 bp (lenS bo)) bp) fun bq br=>
 ob (gd bl true (pure1 br (binV .eql .scalar bq (.int .i64 1))) br) fun bs bt=>
 oa (pickV bl bs (.bool false)) fun bu=>
 ob (gd bu true (some (aq,bt)) bt) fun bv bw=>
 ob (gd bu true (pure1 bw (lenS bv)) bw) fun bx bz=>
 ob (gd bu true (pure1 bz (binV .eql .scalar bx (.int .i64 2))) bz) fun b0 b1=>
 oa (pickV bu b0 (.bool false)) fun b2=>
 ob (gd b2 true (some (aq,b1)) b1) fun b3 b4=>
 ob (gd b2 true (pure1 b4 (idxS 1 b3 (.int .i64 1))) b4) fun b5 b6=>
 ob (gd b2 true (pure1 b6 (ld1 b6 b5)) b6) fun b7 b8=>
 ob (gd b2 true (pure1 b8 (binV .eql .scalar b7 (.int .i64 4))) b8) fun b9 ca=>
 oa (pickV b2 b9 (.bool false)) fun cb=>
 some (cb,ca):=runEq (by kernel_rfl)
def a7e:Res:=[(4,none)]
noncomputable def v2_:MFn:=⟨15,a7e,.seq [4] (.region [tS 4 (.mv (tK 0))]) (.seq [0,6,7,8] (.region [tM 6 0,tM 7 1,tS 8 (.bin .rem .scalar (tT 6) (tT 7)),tM 5 8]) (.seq [1,10,11,12,13] (.seq [9] (.region [tM 9 5,tS 10 (.bin .lss .scalar (tT 9) (tK 0))]) (.cond (tT 10) (.region [tM 11 5,tM 12 1,tS 13 (.bin .add .scalar (tT 11) (tT 12)),tM 5 13]) .skip)) (.seq [5,14] (.region [tM 14 5,tM 4 14]) .ret)))⟩
theorem a7f (T:Tab) (k:Nat) (a b:AV) (h:Heap):runF T k v2_ [a,b] h =
 oa (binV .rem .scalar a b) fun c=>
 oa (binV .lss .scalar c (.int .i64 0)) fun d=>
 cond2 d
 (
 oa (binV .add .scalar c b) fun e=>
 some (e,h)
 )
 (
 some (c,h)
 ):=runEq (by kernel_rfl)
noncomputable def a6C:MCode:=.seq [] (.region [tS 26 (.bin .lss .scalar (tT 25) (tT 24))]) (.seq [26] (.cond (tT 26) .skip (.exit 0)) (.seq [9,10,35,36,37,38,39,40,41,42,43,44,45] (.block 1 (.seq [27] (.region [tM 27 25,tM 9 27]) (.seq [28,29,30] (.region [tM 28 8,tM 29 9,tX 30 1 28 29,⟨none,.op (.store 1 (tT 30) (tK (-1))),none⟩]) (.seq [31,32,33] (.region [tM 31 7,tM 32 9,⟨some 33,.call d9_ [(tT 31),(tT 32)],none⟩,tM 10 33]) (.seq [34] (.region [tM 34 10,tS 35 (.bin .geq .scalar (tT 34) (tK 0))]) (.cond (tT 35) (.region [tM 36 8,tM 37 9,tM 38 7,tN 39 38,tF 40 3 39,tL 41 40,tM 42 10,tX 43 1 41 42,tL 44 43,tX 45 1 36 37,tW 1 45 44]) .skip)))))) (.region [tS 46 (.bin .add .scalar (tT 25) (tK 1)),tM 25 46])))
def a6D:Res:=[(6,none)]
noncomputable def a2Q:MFn:=⟨48,a6D,.seq [0,1,6] (.region [tS 3 (.box (tT 0)),tS 4 (.box (tT 1)),tS 6 (.mv (.const .nils))]) (.seq [2,4,11,12,13,14,15,16,17] (.region [tA 11 2 3,tA 12 2 4,⟨some 13,.call p9_ [(tT 11),(tT 12)],none⟩,tM 14 2,tS 15 (.build [.int .i64 0,.int .i64 0] [(0,1,(tT 14)),(1,1,(tK 0))]),tS 16 (.buildSlice 2 1 [.int .i64 0,.int .i64 0] [(0,2,(tT 15))]),⟨some 17,.call d8_ [(tT 13),(.const (.fn e6_ [] [])),(tT 16)],none⟩,tM 7 17]) (.seq [18,19] (.region [tM 18 7,⟨some 19,.call c6_ [(tT 18)],none⟩]) (.seq [3,20,21,22] (.region [tF 20 0 3,tL 21 20,tS 22 (.mkSlice [.int .i64 0] 1 8 (tT 21) (tT 21)),tM 8 22]) (.seq [7,24,25,26] (.seq [23] (.region [tM 23 8,tS 24 (.lenSl (tT 23)),tS 25 (.mv (tK 0))]) (.block 0 (.loop [46] a6C))) (.seq [8,47] (.region [tM 47 8,tM 6 47]) .ret)))))⟩
noncomputable def t2_ (T:Tab) (k j0:Nat) (a b c d:AV) (h:Heap):Option (AV × Heap):=
 loopB T k a6D j0 [46] a6C [.blk 0,.seq [7,24,25,26] (.seq [8,47] (.region [⟨some 47,.op (.mv (.tmp 8)),none⟩,
 ⟨some 6,.op (.mv (.tmp 47)),none⟩]) .ret)] [.undef,.undef,.undef,.undef,.undef,.undef,.undef,a,b,.undef,.undef,.undef,.undef,.undef,.undef,.undef,.undef,.undef,.undef,.undef,.undef,.undef,.undef,.undef,c,d,.undef,.undef,.undef,.undef,.undef,.undef,.undef,.undef,.undef,.undef,.undef,.undef,.undef,.undef,.undef,.undef,.undef,.undef,.undef,.undef,.undef,.undef] h
theorem a4W (T:Tab) (k j0:Nat) (a b c d:AV) (h:Heap):t2_ T k (j0+1) a b c d h =
 oa (binV .lss .scalar d c) fun e=>
 cond2 e
 (
 oa (idxS 1 b d) fun f=>
 oh (stN 1 h f (.int .i64 (-1))) fun g=>
 ob (evalFn T k d9_ [a,d] g) fun i l=>
 oa (binV .geq .scalar i (.int .i64 0)) fun m=>
 cond2 m
 (
 oa (nilCk a) fun n=>
 oa (fldA 3 n) fun o=>
 oa (ld1 l o) fun p=>
 oa (idxS 1 p i) fun q=>
 oa (ld1 l q) fun r=>
 oa (idxS 1 b d) fun s=>
 oh (stN 1 l s r) fun t=>
 oa (binV .add .scalar d (.int .i64 1)) fun u=>
 t2_ T k j0 a b c u t
 )
 (
 oa (binV .add .scalar d (.int .i64 1)) fun v=>
 t2_ T k j0 a b c v l
 )
 )
 (
 some (b,h)
 ):=loopEq (by kernel_rfl)
theorem b1d (T:Tab) (k:Nat) (a b c:AV) (h:Heap):runF T k a2Q [a,b,c] h =
 ob (newVar h (AV.cells a)) fun d e=>
 ob (newVar e (AV.cells b)) fun f g=>
 oa (ldN 2 g d) fun i=>
 oa (ldN 2 g f) fun l=>
 ob (evalFn T k p9_ [i,l] g) fun m n=>
 oa (buildV [.int .i64 0,.int .i64 0] [(0,1,c),(1,1,(.int .i64 0))]) fun o=>
 ob (buildSl 2 1 [.int .i64 0,.int .i64 0] [(0,2,o)] n) fun p q=>
 ob (evalFn T k d8_ [m,(.fn e6_ [] []),p] q) fun r s=>
 ob (evalFn T k c6_ [r] s) fun t u=>
 oa (fldA 0 d) fun v=>
 oa (ld1 u v) fun w=>
 ob (mkSl [.int .i64 0] 1 8 w w u) fun x y=>
 oa (lenS x) fun z=>
 t2_ T k k r x z (.int .i64 0) y:=runEq (by kernel_rfl)
def a6E:Res:=[(2,some (some 2)),(3,none)]
noncomputable def t3_:MFn:=⟨41,a6E,.seq [3] (.region [tS 2 (.alloc [.nils,.nils]),tS 3 (.mv (tK 0))]) (.seq [0,5,11,12,13,14,15,16] (.region [tM 12 0,⟨some 13,.call j5_ [(tT 12)],none⟩,tM 11 13,tS 14 (.extract 0 (tT 11)),tS 15 (.extract 1 (tT 11)),tS 16 (.extract 2 (tT 11)),tS 4 (.alloc [.int .i64 0,.int .i64 0,.int .i64 0,.int .i64 0,.nils]),tW 5 4 14,tM 5 15,tM 6 16]) (.seq [6,18] (.seq [17] (.region [tM 17 6,tS 18 (.bin .neq .scalar (tT 17) (tK 0))]) (.cond (tT 18) (.seq [4,6,18,19,20] (.region [tS 19 (.build [.nils,.nils] []),tM 20 6,tW 2 2 19,tM 3 20]) .ret) .skip)) (.seq [4,21,22,23,24,25] (.region [tA 22 5 4,⟨some 23,.call j6_ [(tT 22)],none⟩,tM 21 23,tS 24 (.extract 0 (tT 21)),tS 25 (.extract 1 (tT 21)),tS 7 (.alloc [.int .i64 0,.int .i64 0,.int .i64 0,.nils,.nils]),tW 5 7 24,tM 8 25]) (.seq [8,27] (.seq [26] (.region [tM 26 8,tS 27 (.bin .neq .scalar (tT 26) (tK 0))]) (.cond (tT 27) (.seq [7,8,27,28,29] (.region [tS 28 (.build [.nils,.nils] []),tM 29 8,tW 2 2 28,tM 3 29]) .ret) .skip)) (.seq [7,30,31,32,33,34] (.region [tA 31 5 7,⟨some 32,.call h3_ [(tT 31),(tK 200)],none⟩,tM 30 32,tS 33 (.extract 0 (tT 30)),tS 34 (.extract 1 (tT 30)),tS 9 (.alloc [.nils,.nils]),tW 2 9 33,tM 10 34]) (.seq [10,36] (.seq [35] (.region [tM 35 10,tS 36 (.bin .neq .scalar (tT 35) (tK 0))]) (.cond (tT 36) (.seq [9,10,36,37,38] (.region [tS 37 (.build [.nils,.nils] []),tM 38 10,tW 2 2 37,tM 3 38]) .ret) .skip)) (.seq [9,39,40] (.region [tA 39 2 9,⟨some 40,.call g6_ [(tT 39)],none⟩,tW 2 2 40,tS 3 (.mv (tK 0))]) .ret)))))))⟩
theorem a6F (T:Tab) (k:Nat) (a:AV) (h:Heap):runF T k t3_ [a] h =
 ob (newVar h [.nils,.nils]) fun b c=>
 ob (evalFn T k j5_ [a] c) fun d e=>
 oa (extr 0 d) fun f=>
 oa (extr 1 d) fun g=>
 oa (extr 2 d) fun i=>
 ob (newVar e [.int .i64 0,.int .i64 0,.int .i64 0,.int .i64 0,.nils]) fun l m=>
 oh (stN 5 m l f) fun n=>
 oa (binV .neq .scalar i (.int .i64 0)) fun o=>
 cond2 o
 (
 oa (buildV [.nils,.nils] []) fun p=>
 oh (stN 2 n b p) fun q=>
 oa (ldN 2 q b) fun r=>
 some (.tup [r,i],q)
 )
 (
 oa (ldN 5 n l) fun s=>
 ob (evalFn T k j6_ [s] n) fun t u=>
 oa (extr 0 t) fun v=>
 oa (extr 1 t) fun w=>
 ob (newVar u [.int .i64 0,.int .i64 0,.int .i64 0,.nils,.nils]) fun x y=>
 oh (stN 5 y x v) fun z=>
 oa (binV .neq .scalar w (.int .i64 0)) fun aa=>
 cond2 aa
 (
 oa (buildV [.nils,.nils] []) fun ab=>
 oh (stN 2 z b ab) fun ac=>
 oa (ldN 2 ac b) fun ad=>
 some (.tup [ad,w],ac)
 )
 (
 oa (ldN 5 z x) fun ae=>
 ob (evalFn T k h3_ [ae,(.int .i64 200)] z) fun af ag=>
 oa (extr 0 af) fun ai=>
 oa (extr 1 af) fun al=>
 ob (newVar ag [.nils,.nils]) fun am an=>
 oh (stN 2 an am ai) fun ao=>
 oa (binV .neq .scalar al (.int .i64 0)) fun ap=>
 cond2 ap
 (
 oa (buildV [.nils,.nils] []) fun aq=>
 oh (stN 2 ao b aq) fun ar=>
 oa (ldN 2 ar b) fun as=>
 some (.tup [as,al],ar)
 )
 (
 oa (ldN 2 ao am) fun au=>
 ob (evalFn T k g6_ [au] ao) fun av aw=>
 oh (stN 2 aw b av) fun ax=>
 oa (ldN 2 ax b) fun ay=>
 some (.tup [ay,(.int .i64 0)],ax)
 )
 )
 ):=runEq (by kernel_rfl)
def b1e:Res:=[(8,some (some 2)),(9,none)]
noncomputable def a2R:MFn:=⟨38,b1e,.seq [0,1,9] (.region [tS 4 (.box (tT 0)),tS 5 (.box (tT 1)),tS 8 (.alloc [.int .i64 0,.nils]),tS 9 (.mv (.const (.bool false)))]) (.seq [2,4,5,12,13,14,15,16,17,18] (.region [tA 12 2 4,tA 13 2 5,⟨some 14,.call p9_ [(tT 12),(tT 13)],none⟩,tM 15 2,tS 16 (.build [.int .i64 0,.int .i64 0] [(0,1,(tT 15)),(1,1,(tK 0))]),tS 17 (.buildSlice 2 1 [.int .i64 0,.int .i64 0] [(0,2,(tT 16))]),⟨some 18,.call d8_ [(tT 14),(.const (.fn e6_ [] [])),(tT 17)],none⟩,tM 10 18]) (.seq [19,20] (.region [tM 19 10,⟨some 20,.call c6_ [(tT 19)],none⟩]) (.seq [3,21,22,23] (.region [tM 21 10,tM 22 3,⟨some 23,.call d9_ [(tT 21),(tT 22)],none⟩,tM 11 23]) (.seq [25] (.seq [24] (.region [tM 24 11,tS 25 (.bin .lss .scalar (tT 24) (tK 0))]) (.cond (tT 25) (.seq [10,11,25,26] (.region [tS 26 (.build [.int .i64 0,.nils] []),tW 2 8 26,tS 9 (.mv (.const (.bool false)))]) .ret) .skip)) (.seq [10,11,27,28,29,30,31,32,33,34,35,36,37] (.regionD 38 [dM 0 38 10,tD 1 39 (.nilCheck (tT 38)),dF 2 40 3 39,dL 3 41 40,dM 4 42 11,tD 5 43 (.idxSl 1 (tT 41) (tT 42)),dL 6 44 43,dM 7 45 10,dM 8 46 11,⟨9,⟨some 47,.call i1_ [(tT 45),(tT 46)],none⟩,[(41,tL 41 40),(44,tL 44 43)]⟩,tD 10 48 (.build [.int .i64 0,.nils] [(0,1,(tT 44)),(1,1,(tT 47))]),tD 11 49 (.store 2 (tT 8) (tT 48)),tD 12 50 (.mv (.const (.bool true)))] [(27,38),(28,39),(29,40),(30,41),(31,42),(32,43),(33,44),(34,45),(35,46),(36,47),(37,48),(9,50)]) .ret)))))⟩
theorem b1f (T:Tab) (k:Nat) (a b c d:AV) (h:Heap):runF T k a2R [a,b,c,d] h =
 ob (newVar h (AV.cells a)) fun e f=>
 ob (newVar f (AV.cells b)) fun g i=>
 ob (newVar i [.int .i64 0,.nils]) fun l m=>
 oa (ldN 2 m e) fun n=>
 oa (ldN 2 m g) fun o=>
 ob (evalFn T k p9_ [n,o] m) fun p q=>
 oa (buildV [.int .i64 0,.int .i64 0] [(0,1,c),(1,1,(.int .i64 0))]) fun r=>
 ob (buildSl 2 1 [.int .i64 0,.int .i64 0] [(0,2,r)] q) fun s t=>
 ob (evalFn T k d8_ [p,(.fn e6_ [] []),s] t) fun u v=>
 ob (evalFn T k c6_ [u] v) fun w x=>
 ob (evalFn T k d9_ [u,d] x) fun y z=>
 oa (binV .lss .scalar y (.int .i64 0)) fun aa=>
 cond2 aa
 (
 oa (buildV [.int .i64 0,.nils] []) fun ab=>
 oh (stN 2 z l ab) fun ac=>
 oa (ldN 2 ac l) fun ad=>
 some (.tup [ad,(.bool false)],ac)
 )
 (
 oa (nilCk u) fun ae=>
 oa (fldA 3 ae) fun af=>
 oa (ld1 z af) fun ag=>
 oa (idxS 1 ag y) fun ai=>
 oa (ld1 z ai) fun al=>
 ob (evalFn T k i1_ [u,y] z) fun am an=>
 chk ((sameB (pure1 an (ld1 an af)) ag && (sameB (pure1 an (ld1 an ai)) al && true))) <|
 oa (buildV [.int .i64 0,.nils] [(0,1,al),(1,1,am)]) fun ao=>
 oh (stN 2 an l ao) fun ap=>
 oa (ldN 2 ap l) fun aq=>
 some (.tup [aq,(.bool true)],ap)
 ):=runEq (by kernel_rfl)
noncomputable def a7L:MCode:=.seq [] (.region [tS 30 (.bin .lss .scalar (tT 29) (tK 5))]) (.seq [30] (.cond (tT 30) .skip (.exit 2)) (.seq [8,9,33,34,35,36,37,38,39,40,41,42,43,44,45,46,47,48,49,50,51,52] (.block 3 (.seq [31,32] (.region [tM 31 29,tS 32 (.ixArr 5 1 none (tT 28) (tT 29)),tM 8 31,tM 9 32]) (.regionD 56 [dM 0 56 5,tD 1 57 (.nilCheck (tT 56)),dF 2 58 5 57,dL 3 59 58,dM 4 60 9,dM 5 61 8,dM 6 62 5,tD 7 63 (.nilCheck (tT 62)),dF 8 64 5 63,dL 9 65 64,dM 10 66 9,dM 11 67 8,tD 12 68 (.idxSl 5 (tT 65) (tT 66)),tD 13 69 (.idxArr 5 1 (tT 68) (tT 67)),dL 14 70 69,dM 15 71 6,tD 16 72 (.buildSlice 1 1 [.int .i64 0] [(0,1,(tT 71))]),tD 18 74 (.idxSl 5 (tT 59) (tT 60)),⟨17,tS 73 (.append 1 8 (tT 70) (tT 72)),[(59,tL 59 58)]⟩,tD 19 75 (.idxArr 5 1 (tT 74) (tT 61)),tD 20 76 (.store 1 (tT 75) (tT 73))] [(33,56),(34,57),(35,58),(36,59),(37,60),(38,61),(39,62),(40,63),(41,64),(42,65),(43,66),(44,67),(45,68),(46,69),(47,70),(48,71),(49,72),(50,73),(51,74),(52,75)]))) (.region [tS 53 (.bin .add .scalar (tT 29) (tK 1)),tM 29 53])))
noncomputable def a3W:MCode:=.seq [] (.region [tS 24 (.bin .lss .scalar (tT 23) (tT 22))]) (.seq [24] (.cond (tT 24) .skip (.exit 0)) (.seq [6,28,29,30] (.block 1 (.seq [25,26,27] (.region [tM 25 23,tX 26 5 21 23,tA 27 5 26,tS 7 (.alloc [.int .i64 0,.int .i64 0,.int .i64 0,.int .i64 0,.int .i64 0]),tM 6 25,tW 5 7 27]) (.seq [7] (.region [tA 28 5 7,tS 29 (.mv (tK 0))]) (.block 2 (.loop [53] a7L))))) (.region [tS 54 (.bin .add .scalar (tT 23) (tK 1)),tM 23 54])))
def a3X:Res:=[(4,none)]
noncomputable def a3Y:MFn:=⟨56,a3X,.seq [0,1,4] (.region [tS 2 (.box (tT 0)),tS 3 (.box (tT 1)),tS 4 (.mv (.const .nilp))]) (.seq [2,10,11,12,13,14,15,16,17,18,19] (.regionD 56 [tD 0 56 (.load (some 2) (tT 2)),tD 1 57 (.load (some 2) (tT 2)),tD 3 59 (.load (some 2) (tT 3)),dF 4 60 0 3,dL 5 61 60,tD 6 62 (.lenSl (tT 61)),tD 7 63 (.mkSlice [.nils,.nils,.nils,.nils,.nils] 5 120 (tT 62) (tT 62)),⟨2,⟨some 58,.call a5v [(tT 57)],none⟩,[(56,tA 56 2 2),(59,tA 59 2 3),(61,tL 61 60)]⟩,tD 8 64 (.build [.int .i64 0,.nils,.nilp,.nils,.nils,.nils] [(0,2,(tT 56)),(2,1,(tT 58)),(3,2,(tT 59)),(5,1,(tT 63))]),tD 9 65 (.box (tT 64)),dM 10 66 65] [(10,56),(11,57),(12,58),(13,59),(14,60),(15,61),(16,62),(17,63),(18,64),(19,65),(5,66)]) (.seq [21,22,23,24] (.seq [3,20] (.region [tF 20 0 3,tL 21 20,tS 22 (.lenSl (tT 21)),tS 23 (.mv (tK 0))]) (.block 0 (.loop [54] a3W))) (.seq [5,55] (.region [tM 55 5,tM 4 55]) .ret)))⟩
noncomputable def x1_ (T:Tab) (k j0:Nat) (a b c d:AV) (h:Heap):Option (AV × Heap):=
 loopB T k a3X j0 [54] a3W [.blk 0,.seq [21,22,23,24] (.seq [5,55] (.region [⟨some 55,.op (.mv (.tmp 5)),none⟩,
 ⟨some 4,.op (.mv (.tmp 55)),none⟩]) .ret)] [.undef,.undef,.undef,.undef,.undef,a,.undef,.undef,.undef,.undef,.undef,.undef,.undef,.undef,.undef,.undef,.undef,.undef,.undef,.undef,.undef,b,c,d,.undef,.undef,.undef,.undef,.undef,.undef,.undef,.undef,.undef,.undef,.undef,.undef,.undef,.undef,.undef,.undef,.undef,.undef,.undef,.undef,.undef,.undef,.undef,.undef,.undef,.undef,.undef,.undef,.undef,.undef,.undef,.undef] h
noncomputable def a1s (T:Tab) (k j0 j1:Nat) (a b c d e f g:AV) (h:Heap):Option (AV × Heap):=
 loopB T k a3X j1 [53] a7L [.blk 2,.blk 1,.seq [6,28,29,30] (.region [⟨some 54,.op (.bin .add .scalar (.tmp 23) (.const (.int .i64 1))),none⟩,
 ⟨some 23,.op (.mv (.tmp 54)),none⟩]),.lp j0 [54] a3W,.blk 0,.seq [21,22,23,24] (.seq [5,55] (.region [⟨some 55,.op (.mv (.tmp 5)),none⟩,
 ⟨some 4,.op (.mv (.tmp 55)),none⟩]) .ret)] [.undef,.undef,.undef,.undef,.undef,a,b,.undef,.undef,.undef,.undef,.undef,.undef,.undef,.undef,.undef,.undef,.undef,.undef,.undef,.undef,c,d,e,.undef,.undef,.undef,.undef,f,g,.undef,.undef,.undef,.undef,.undef,.undef,.undef,.undef,.undef,.undef,.undef,.undef,.undef,.undef,.undef,.undef,.undef,.undef,.undef,.undef,.undef,.undef,.undef,.undef,.undef,.undef] h
theorem a5w (T:Tab) (k j0 j1:Nat) (a b c d e f g:AV) (h:Heap):a1s T k j0 (j1+1) a b c d e f g h =
 oa (binV .lss .scalar g (.int .i64 5)) fun i=>
 cond2 i
 (
 oa (ixA 5 1 none f g) fun l=>
 oa (nilCk a) fun m=>
 oa (fldA 5 m) fun n=>
 oa (ld1 h n) fun o=>
 oa (nilCk a) fun p=>
 oa (fldA 5 p) fun q=>
 oa (ld1 h q) fun r=>
 oa (idxS 5 r l) fun s=>
 oa (idxA 5 1 s g) fun t=>
 oa (ld1 h t) fun u=>
 ob (buildSl 1 1 [.int .i64 0] [(0,1,b)] h) fun v w=>
 oa (idxS 5 o l) fun x=>
 ob (apnd 1 8 u v w) fun y z=>
 chk ((sameB (pure1 z (ld1 z n)) o && true)) <|
 oa (idxA 5 1 x g) fun aa=>
 oh (stN 1 z aa y) fun ab=>
 oa (binV .add .scalar g (.int .i64 1)) fun ac=>
 a1s T k j0 j1 a b c d e f ac ab
 )
 (
 oa (binV .add .scalar e (.int .i64 1)) fun ad=>
 x1_ T k j0 a c d ad h
 ):=loopEq (by kernel_rfl)
theorem a5x (T:Tab) (k j0:Nat) (a b c d:AV) (h:Heap):x1_ T k (j0+1) a b c d h =
 oa (binV .lss .scalar d c) fun e=>
 cond2 e
 (
 oa (idxS 5 b d) fun f=>
 oa (ldN 5 h f) fun g=>
 ob (newVar h [.int .i64 0,.int .i64 0,.int .i64 0,.int .i64 0,.int .i64 0]) fun i l=>
 oh (stN 5 l i g) fun m=>
 oa (ldN 5 m i) fun n=>
 a1s T k j0 k a d b c d n (.int .i64 0) m
 )
 (
 some (a,h)
 ):=loopEq (by kernel_rfl)
theorem b1I (T:Tab) (k:Nat) (a b:AV) (h:Heap):runF T k a3Y [a,b] h =
 ob (newVar h (AV.cells a)) fun c d=>
 ob (newVar d (AV.cells b)) fun e f=>
 oa (ldN 2 f c) fun g=>
 oa (ldN 2 f c) fun i=>
 oa (ldN 2 f e) fun l=>
 oa (fldA 0 e) fun m=>
 oa (ld1 f m) fun n=>
 oa (lenS n) fun o=>
 ob (mkSl [.nils,.nils,.nils,.nils,.nils] 5 120 o o f) fun p q=>
 ob (evalFn T k a5v [i] q) fun r s=>
 chk ((sameB (pure1 s (ldN 2 s c)) g && (sameB (pure1 s (ldN 2 s e)) l && (sameB (pure1 s (ld1 s m)) n && true)))) <|
 oa (buildV [.int .i64 0,.nils,.nilp,.nils,.nils,.nils] [(0,2,g),(2,1,r),(3,2,l),(5,1,p)]) fun t=>
 ob (newVar s (AV.cells t)) fun u v=>
 oa (fldA 0 e) fun w=>
 oa (ld1 v w) fun x=>
 oa (lenS x) fun y=>
 x1_ T k k u x y (.int .i64 0) v:=runEq (by kernel_rfl)
noncomputable def a2s:MCode:=.seq [] (.region [tS 43 (.bin .lss .scalar (tT 42) (tT 41))]) (.seq [43] (.cond (tT 43) .skip (.exit 0)) (.seq [9,45,46,47,48,49,50,51,52,53,54,55,56,57,58,59,60,61,62] (.block 1 (.seq [44] (.region [tM 44 42,tM 9 44]) (.regionD 80 [dM 0 80 8,tD 1 81 (.nilCheck (tT 80)),dF 2 82 3 81,dL 3 83 82,dM 4 84 9,dM 5 85 8,tD 6 86 (.nilCheck (tT 85)),dF 7 87 4 86,dL 8 88 87,dM 9 89 9,dM 10 90 8,tD 11 91 (.nilCheck (tT 90)),dF 12 92 5 91,dL 13 93 92,dM 14 94 9,tD 15 95 (.idxSl 1 (tT 83) (tT 84)),tD 16 96 (.store 1 (tT 95) (tK (-1))),tD 17 97 (.idxSl 1 (tT 88) (tT 89)),tD 18 98 (.store 1 (tT 97) (tK (-1))),tD 19 99 (.idxSl 1 (tT 93) (tT 94)),tD 20 100 (.store 1 (tT 99) (tK (-1)))] [(45,80),(46,81),(47,82),(48,83),(49,84),(50,85),(51,86),(52,87),(53,88),(54,89),(55,90),(56,91),(57,92),(58,93),(59,94),(60,95),(61,97),(62,99)]))) (.region [tS 63 (.bin .add .scalar (tT 42) (tK 1)),tM 42 63])))
noncomputable def a2t:MCode:=.seq [] (.region [tS 67 (.bin .lss .scalar (tT 66) (tT 65))]) (.seq [67] (.cond (tT 67) .skip (.exit 2)) (.seq [11,70,71,72,73,74,75,76,77] (.block 3 (.seq [68,69] (.region [tX 68 2 64 66,tA 69 2 68,tS 11 (.alloc [.int .i64 0,.int .i64 0]),tW 2 11 69]) (.regionD 80 [dM 0 80 8,tD 1 81 (.nilCheck (tT 80)),dF 2 82 2 81,dL 3 83 82,dM 4 84 0,tD 5 85 (.load (some 2) (tT 11)),⟨6,⟨some 86,.call c7_ [(tT 84),(tT 85)],none⟩,[(83,tL 83 82)]⟩,⟨7,⟨some 87,.call f1_ [(tT 83),(tT 86),(tK 0)],none⟩,[]⟩] [(70,80),(71,81),(72,82),(73,83),(74,84),(75,85),(76,86),(77,87)]))) (.region [tS 78 (.bin .add .scalar (tT 66) (tK 1)),tM 66 78])))
noncomputable def x8_:MCode:=.seq [0,64,65,66,67] (.seq [2] (.region [tM 64 2,tS 65 (.lenSl (tT 64)),tS 66 (.mv (tK 0))]) (.block 2 (.loop [78] a2t))) (.seq [8,79] (.region [tM 79 8,tM 6 79]) .ret)
def q8_:Res:=[(6,none)]
noncomputable def x9_:MFn:=⟨80,q8_,.seq [6] (.region [tS 6 (.mv (.const .nilp))]) (.seq [12,13,14,15,16,17,18,19,20,21,22,23,24] (.regionD 80 [dM 0 80 0,tD 1 81 (.nilCheck (tT 80)),dF 2 82 0 81,dF 3 83 0 82,dL 4 84 83,tD 5 85 (.mm true (tT 84) (tK 0)),dM 6 86 0,tD 7 87 (.nilCheck (tT 86)),dF 8 88 3 87,dF 9 89 0 88,dL 10 90 89,tD 11 91 (.lenSl (tT 90)),tD 12 92 (.bin .mul .scalar (tT 85) (tT 91)),dM 13 93 92] [(12,80),(13,81),(14,82),(15,83),(16,84),(17,85),(18,86),(19,87),(20,88),(21,89),(22,90),(23,91),(24,92),(7,93)]) (.seq [1,7,25,26,27,28,29,30,31,32,33,34,35,36] (.regionD 80 [dM 0 80 0,dM 1 81 1,dM 2 82 7,dM 4 84 7,tD 5 85 (.mkSlice [.int .i64 0] 1 8 (tT 84) (tT 84)),dM 6 86 7,tD 7 87 (.mkSlice [.int .i64 0] 1 8 (tT 86) (tT 86)),dM 8 88 7,tD 9 89 (.mkSlice [.int .i64 0] 1 8 (tT 88) (tT 88)),⟨3,⟨some 83,.call a2r [(tT 82)],none⟩,[]⟩,tD 10 90 (.build [.nilp,.nilfn,.nilp,.nils,.nils,.nils,.int .i64 0] [(0,1,(tT 80)),(1,1,(tT 81)),(2,1,(tT 83)),(3,1,(tT 85)),(4,1,(tT 87)),(5,1,(tT 89))]),tD 11 91 (.box (tT 90)),dM 12 92 91] [(25,80),(26,81),(27,82),(28,83),(29,84),(30,85),(31,86),(32,87),(33,88),(34,89),(35,90),(36,91),(8,92)]) (.seq [41,42,43] (.seq [37,38,39,40] (.region [tM 37 8,tN 38 37,tF 39 3 38,tL 40 39,tS 41 (.lenSl (tT 40)),tS 42 (.mv (tK 0))]) (.block 0 (.loop [63] a2s))) (.lab x8_))))⟩
noncomputable def q9_ (T:Tab) (k j0:Nat) (a b c d e:AV) (h:Heap):Option (AV × Heap):=
 loopB T k q8_ j0 [63] a2s [.blk 0,.seq [41,42,43] (.lab x8_)] [a,.u,b,.u,.u,.u,.u,.u,c,.u,.u,.u,.u,.u,.u,.u,.u,.u,.u,.u,.u,.u,.u,.u,.u,.u,.u,.u,.u,.u,.u,.u,.u,.u,.u,.u,.u,.u,.u,.u,.u,d,e,.u,.u,.u,.u,.u,.u,.u,.u,.u,.u,.u,.u,.u,.u,.u,.u,.u,.u,.u,.u,.u,.u,.u,.u,.u,.u,.u,.u,.u,.u,.u,.u,.u,.u,.u,.u,.u] h
noncomputable def y0_ (T:Tab) (k:Nat) (a b c:AV) (h:Heap):Option (AV × Heap):=
 evB T k q8_ x8_ [] [a,.u,b,.u,.u,.u,.u,.u,c,.u,.u,.u,.u,.u,.u,.u,.u,.u,.u,.u,.u,.u,.u,.u,.u,.u,.u,.u,.u,.u,.u,.u,.u,.u,.u,.u,.u,.u,.u,.u,.u,.u,.u,.u,.u,.u,.u,.u,.u,.u,.u,.u,.u,.u,.u,.u,.u,.u,.u,.u,.u,.u,.u,.u,.u,.u,.u,.u,.u,.u,.u,.u,.u,.u,.u,.u,.u,.u,.u,.u] h
noncomputable def r0_ (T:Tab) (k j0:Nat) (a b c d e:AV) (h:Heap):Option (AV × Heap):=
 loopB T k q8_ j0 [78] a2t [.blk 2,.seq [0,64,65,66,67] (.seq [8,79] (.region [⟨some 79,.op (.mv (.tmp 8)),none⟩,
 ⟨some 6,.op (.mv (.tmp 79)),none⟩]) .ret)] [a,.undef,.undef,.undef,.undef,.undef,.undef,.undef,b,.undef,.undef,.undef,.undef,.undef,.undef,.undef,.undef,.undef,.undef,.undef,.undef,.undef,.undef,.undef,.undef,.undef,.undef,.undef,.undef,.undef,.undef,.undef,.undef,.undef,.undef,.undef,.undef,.undef,.undef,.undef,.undef,.undef,.undef,.undef,.undef,.undef,.undef,.undef,.undef,.undef,.undef,.undef,.undef,.undef,.undef,.undef,.undef,.undef,.undef,.undef,.undef,.undef,.undef,.undef,c,d,e,.undef,.undef,.undef,.undef,.undef,.undef,.undef,.undef,.undef,.undef,.undef,.undef,.undef] h
theorem a1t (T:Tab) (k j0:Nat) (a b c d e:AV) (h:Heap):r0_ T k (j0+1) a b c d e h =
 oa (binV .lss .scalar e d) fun f=>
 cond2 f
 (
 oa (idxS 2 c e) fun g=>
 oa (ldN 2 h g) fun i=>
 ob (newVar h [.int .i64 0,.int .i64 0]) fun l m=>
 oh (stN 2 m l i) fun n=>
 oa (nilCk b) fun o=>
 oa (fldA 2 o) fun p=>
 oa (ld1 n p) fun q=>
 oa (ldN 2 n l) fun r=>
 ob (evalFn T k c7_ [a,r] n) fun s t=>
 chk ((sameB (pure1 t (ld1 t p)) q && true)) <|
 ob (evalFn T k f1_ [q,s,(.int .i64 0)] t) fun u v=>
 oa (binV .add .scalar e (.int .i64 1)) fun w=>
 r0_ T k j0 a b c d w v
 )
 (
 some (b,h)
 ):=loopEq (by kernel_rfl)
theorem a6j (T:Tab) (k:Nat) (a b c:AV) (h:Heap):y0_ T k a b c h =
 oa (lenS b) fun d=>
 r0_ T k k a c b d (.int .i64 0) h:=blockEq (by kernel_rfl)
theorem a1u (T:Tab) (k j0:Nat) (a b c d e:AV) (h:Heap):q9_ T k (j0+1) a b c d e h =
 oa (binV .lss .scalar e d) fun f=>
 cond2 f
 (
 oa (nilCk c) fun g=>
 oa (fldA 3 g) fun i=>
 oa (ld1 h i) fun l=>
 oa (nilCk c) fun m=>
 oa (fldA 4 m) fun n=>
 oa (ld1 h n) fun o=>
 oa (nilCk c) fun p=>
 oa (fldA 5 p) fun q=>
 oa (ld1 h q) fun r=>
 oa (idxS 1 l e) fun s=>
 oh (stN 1 h s (.int .i64 (-1))) fun t=>
 oa (idxS 1 o e) fun u=>
 oh (stN 1 t u (.int .i64 (-1))) fun v=>
 oa (idxS 1 r e) fun w=>
 oh (stN 1 v w (.int .i64 (-1))) fun x=>
 oa (binV .add .scalar e (.int .i64 1)) fun y=>
 q9_ T k j0 a b c d y x
 )
 (
 y0_ T k a b c h
 ):=loopEq (by kernel_rfl)
theorem a7V (T:Tab) (k:Nat) (a b c:AV) (h:Heap):runF T k x9_ [a,b,c] h =
 oa (nilCk a) fun d=>
 oa (fldA 0 d) fun e=>
 oa (fldA 0 e) fun f=>
 oa (ld1 h f) fun g=>
 oa (mmV true g (.int .i64 0)) fun i=>
 oa (nilCk a) fun l=>
 oa (fldA 3 l) fun m=>
 oa (fldA 0 m) fun n=>
 oa (ld1 h n) fun o=>
 oa (lenS o) fun p=>
 oa (binV .mul .scalar i p) fun q=>
 ob (mkSl [.int .i64 0] 1 8 q q h) fun r s=>
 ob (mkSl [.int .i64 0] 1 8 q q s) fun t u=>
 ob (mkSl [.int .i64 0] 1 8 q q u) fun v w=>
 ob (evalFn T k a2r [q] w) fun x y=>
 oa (buildV [.nilp,.nilfn,.nilp,.nils,.nils,.nils,.int .i64 0] [(0,1,a),(1,1,b),(2,1,x),(3,1,r),(4,1,t),(5,1,v)]) fun z=>
 ob (newVar y (AV.cells z)) fun aa ab=>
 oa (nilCk aa) fun ac=>
 oa (fldA 3 ac) fun ad=>
 oa (ld1 ab ad) fun ae=>
 oa (lenS ae) fun af=>
 q9_ T k k a c aa af (.int .i64 0) ab:=runEq (by kernel_rfl)
noncomputable def a4X:MCode:=.seq [] (.region [tS 18 (.bin .lss .scalar (tT 17) (tT 16))]) (.seq [18] (.cond (tT 18) .skip (.exit 0)) (.seq [7,8,29,30,31,32,33,34,35,36,37,38,39,40,41,42,43,44,45,46,47,48] (.block 1 (.seq [19,20] (.region [tX 19 1 15 17,tL 20 19,tM 7 20]) (.seq [21,22,23,24,25,26,27,28] (.region [tM 21 0,tN 22 21,tF 23 0 22,tF 24 1 23,tL 25 24,tM 26 7,tX 27 4 25 26,tA 28 4 27,tS 8 (.alloc [.int .i64 0,.int .i64 0,.int .i64 0,.int .i64 0]),tW 4 8 28]) (.regionD 51 [dM 0 51 5,dF 1 52 1 8,dL 2 53 52,dM 3 54 0,tD 4 55 (.nilCheck (tT 54)),dF 5 56 3 55,dF 6 57 0 56,dL 7 58 57,dF 8 59 1 3,dL 9 60 59,dF 10 61 2 8,dL 11 62 61,tD 12 63 (.idxSl 5 (tT 58) (tT 60)),tD 13 64 (.idxArr 5 1 (tT 63) (tT 62)),dL 14 65 64,tD 15 66 (.build [.int .i64 0,.int .i64 0] [(0,1,(tT 53)),(1,1,(tT 65))]),dM 16 67 7,tD 17 68 (.build [.int .i64 0,.int .i64 0,.int .i64 0] [(0,2,(tT 66)),(2,1,(tT 67))]),tD 18 69 (.buildSlice 3 1 [.int .i64 0,.int .i64 0,.int .i64 0] [(0,3,(tT 68))]),tD 19 70 (.append 3 24 (tT 51) (tT 69)),dM 20 71 70] [(29,51),(30,52),(31,53),(32,54),(33,55),(34,56),(35,57),(36,58),(37,59),(38,60),(39,61),(40,62),(41,63),(42,64),(43,65),(44,66),(45,67),(46,68),(47,69),(48,70),(5,71)])))) (.region [tS 49 (.bin .add .scalar (tT 17) (tK 1)),tM 17 49])))
def a4Y:Res:=[(4,none)]
noncomputable def a1k:MFn:=⟨51,a4Y,.seq [1,4] (.region [tS 3 (.box (tT 1)),tS 4 (.mv (.const .nils))]) (.seq [] (.region [tS 5 (.mv (.const .nils))]) (.seq [0,3,15,16,17,18] (.seq [9,10,11,12,13,14] (.regionD 51 [dM 0 51 0,tD 1 52 (.nilCheck (tT 51)),dF 2 53 2 52,dL 3 54 53,dF 4 55 0 3,dL 5 56 55,tD 8 59 (.mv (tK 0)),⟨6,⟨some 57,.call a1d [(tT 54),(tT 56)],none⟩,[]⟩,tD 7 58 (.lenSl (tT 57))] [(9,51),(10,52),(11,53),(12,54),(13,55),(14,56),(15,57),(16,58),(17,59)]) (.block 0 (.loop [49] a4X))) (.seq [5,50] (.region [tM 50 5,tM 4 50]) .ret)))⟩
noncomputable def u7_ (T:Tab) (k j0:Nat) (a b c d e f:AV) (h:Heap):Option (AV × Heap):=
 loopB T k a4Y j0 [49] a4X [.blk 0,.seq [0,3,15,16,17,18] (.seq [5,50] (.region [⟨some 50,.op (.mv (.tmp 5)),none⟩,
 ⟨some 4,.op (.mv (.tmp 50)),none⟩]) .ret)] [a,.undef,.undef,b,.undef,c,.undef,.undef,.undef,.undef,.undef,.undef,.undef,.undef,.undef,d,e,f,.undef,.undef,.undef,.undef,.undef,.undef,.undef,.undef,.undef,.undef,.undef,.undef,.undef,.undef,.undef,.undef,.undef,.undef,.undef,.undef,.undef,.undef,.undef,.undef,.undef,.undef,.undef,.undef,.undef,.undef,.undef,.undef,.undef] h
theorem a2u (T:Tab) (k j0:Nat) (a b c d e f:AV) (h:Heap):u7_ T k (j0+1) a b c d e f h =
 oa (binV .lss .scalar f e) fun g=>
 cond2 g
 (
 oa (idxS 1 d f) fun i=>
 oa (ld1 h i) fun l=>
 oa (nilCk a) fun m=>
 oa (fldA 0 m) fun n=>
 oa (fldA 1 n) fun o=>
 oa (ld1 h o) fun p=>
 oa (idxS 4 p l) fun q=>
 oa (ldN 4 h q) fun r=>
 ob (newVar h [.int .i64 0,.int .i64 0,.int .i64 0,.int .i64 0]) fun s t=>
 oh (stN 4 t s r) fun u=>
 oa (fldA 1 s) fun v=>
 oa (ld1 u v) fun w=>
 oa (nilCk a) fun x=>
 oa (fldA 3 x) fun y=>
 oa (fldA 0 y) fun z=>
 oa (ld1 u z) fun aa=>
 oa (fldA 1 b) fun ab=>
 oa (ld1 u ab) fun ac=>
 oa (fldA 2 s) fun ad=>
 oa (ld1 u ad) fun ae=>
 oa (idxS 5 aa ac) fun af=>
 oa (idxA 5 1 af ae) fun ag=>
 oa (ld1 u ag) fun ai=>
 oa (buildV [.int .i64 0,.int .i64 0] [(0,1,w),(1,1,ai)]) fun al=>
 oa (buildV [.int .i64 0,.int .i64 0,.int .i64 0] [(0,2,al),(2,1,l)]) fun am=>
 ob (buildSl 3 1 [.int .i64 0,.int .i64 0,.int .i64 0] [(0,3,am)] u) fun an ao=>
 ob (apnd 3 24 c an ao) fun ap aq=>
 oa (binV .add .scalar f (.int .i64 1)) fun ar=>
 u7_ T k j0 a b ap d e ar aq
 )
 (
 some (c,h)
 ):=loopEq (by kernel_rfl)
theorem a9K (T:Tab) (k:Nat) (a b:AV) (h:Heap):runF T k a1k [a,b] h =
 ob (newVar h (AV.cells b)) fun c d=>
 oa (nilCk a) fun e=>
 oa (fldA 2 e) fun f=>
 oa (ld1 d f) fun g=>
 oa (fldA 0 c) fun i=>
 oa (ld1 d i) fun l=>
 ob (evalFn T k a1d [g,l] d) fun m n=>
 oa (lenS m) fun o=>
 u7_ T k k a c .nils m o (.int .i64 0) n:=runEq (by kernel_rfl)
noncomputable def a3g:MCode:=.block 1 (.seq [2,4,5,6,7,8] (.region [tM 5 0,⟨some 6,.call f5_ [(tT 5)],none⟩,tM 4 6,tS 7 (.extract 0 (tT 4)),tS 8 (.extract 1 (tT 4)),tM 2 7,tM 3 8]) (.seq [3,9] (.region [tM 9 3,tS 10 (.un .not (tT 9))]) (.cond (tT 10) .ret .skip)))
def a3h:Res:=[]
noncomputable def a0p:MFn:=⟨11,a3h,.block 0 (.loop [10] a3g)⟩
noncomputable def r7_ (T:Tab) (k j0:Nat) (a:AV) (h:Heap):Option (AV × Heap):=
 loopB T k a3h j0 [10] a3g [.blk 0] [a,.u,.u,.u,.u,.u,.u,.u,.u,.u,.u] h
end Go.Gm.AQ
