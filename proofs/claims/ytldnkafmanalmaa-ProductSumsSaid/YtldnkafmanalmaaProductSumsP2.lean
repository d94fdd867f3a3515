/- A part of the proof (GmV, GmX, GmY, GmZ, GmQ, GmG, GmAQa). -/
import Derived.KernelRfl
import Derived.Test.YtldnkafmanalmaaProductSumsP1
namespace Go.Gm
abbrev tT (n:Nat):Opd:=.tmp n
abbrev tK (n:Int):Opd:=.const (.int .i64 n)
abbrev tS (n:Nat)(o:MOp):MOper:=⟨some n,.op o,none⟩
abbrev tD (i n:Nat)(o:MOp):DItem:=⟨i,⟨some n,.op o,none⟩,[]⟩
abbrev tM (n m:Nat):MOper:=tS n (.mv (tT m))
abbrev tL (n m:Nat):MOper:=tS n (.load none (tT m))
abbrev tF (n i m:Nat):MOper:=tS n (.fieldAddr i (tT m))
abbrev tN (n m:Nat):MOper:=tS n (.nilCheck (tT m))
abbrev tX (n i m l:Nat):MOper:=tS n (.idxSl i (tT m) (tT l))
abbrev tA (n i m:Nat):MOper:=tS n (.load (some i) (tT m))
abbrev tW (n i m:Nat):MOper:=⟨none,.op (.store n (tT i) (tT m)),none⟩
abbrev dM (i n m:Nat):DItem:=tD i n (.mv (tT m))
abbrev dL (i n m:Nat):DItem:=tD i n (.load none (tT m))
abbrev dF (i n j m:Nat):DItem:=tD i n (.fieldAddr j (tT m))
end Go.Gm
abbrev Go.Gm.AV.u:Go.Gm.AV:=.undef
set_option linter.unusedVariables false
set_option linter.unusedSimpArgs false
set_option linter.unusedSectionVars false
namespace Go.Gm
abbrev I (n:Int):AV:=.int .i64 n
theorem s9_ {n:Int}(h0:-9223372036854775808≤n)(h1:n≤9223372036854775807):IntKind.i64.wrap n=n:=by
 simp[IntKind.wrap,IntKind.bits,IntKind.signed]
 omega
def Fit (n:Int):Prop:=-9223372036854775808≤n∧n≤9223372036854775807
section
variable (a b:Int)
theorem b1q:binV .lss .scalar (I a) (I b)=some (.bool (decide (a<b))):=rfl
theorem b3H:binV .leq .scalar (I a) (I b)=some (.bool (decide (a≤b))):=rfl
theorem b5j:binV .gtr .scalar (I a) (I b)=some (.bool (decide (a > b))):=rfl
theorem b7r:binV .geq .scalar (I a) (I b)=some (.bool (decide (a≥b))):=rfl
theorem b7s:binV .eql .scalar (I a) (I b)=some (.bool (a == b)):=rfl
theorem b7t:binV .neq .scalar (I a) (I b)=some (.bool (a != b)):=rfl
theorem b3I (h:Fit (a+b)):binV .add .scalar (I a) (I b)=some (I (a+b)):=by
 show some (AV.int .i64 (IntKind.i64.wrap (a+b)))=_
 rw[s9_ h.1 h.2]
theorem c0S (h:Fit (a-b)):binV .sub .scalar (I a) (I b)=some (I (a-b)):=by
 show some (AV.int .i64 (IntKind.i64.wrap (a-b)))=_
 rw[s9_ h.1 h.2]
theorem b3J (h:b≠0):binV .rem .scalar (I a) (I b)=some (I (a.tmod b)):=by
 show (if b=0 then none else some (AV.int .i64 (a.tmod b)))=_
 rw[if_neg h]
theorem b8z (b:Bool):unV .not (.bool b)=some (.bool (!b)):=rfl
end
def Ext (h h':Heap):Prop:=h <+: h'
theorem Ext.refl (h:Heap):Ext h h:=List.prefix_refl h
theorem Ext.trans {h h' h'':Heap}(a:Ext h h')(b:Ext h' h''):Ext h h'':=List.IsPrefix.trans a b
theorem Ext.push (h:Heap)(x:List AObj):Ext h (h++x):=List.prefix_append h x
theorem Ext.len {h h':Heap}(a:Ext h h'):h.length≤h'.length:=List.IsPrefix.length_le a
theorem Ext.get {h h':Heap}(a:Ext h h'){o:Nat}{x:AObj}(hx:h[o]?=some x):h'[o]?=some x:=by
 obtain ⟨t,rfl⟩:=a
 rw[List.getElem?_append_left (List.getElem?_eq_some_iff.1 hx).1]
 exact hx
theorem Ext.set {h h':Heap}(a:Ext h h'){o:Nat}(ho:h.length≤o)(x:AObj):Ext h (h'.set o x):=by
 obtain ⟨t,rfl⟩:=a
 rw[List.set_append_right _ _ ho]
 exact List.prefix_append _ _
def At (h:Heap)(p:AV)(cs:List AV):Prop:=
 ∃o off hi g c,p=.ptr o off hi g∧off+cs.length≤hi∧h[o]?=some (.cells c)∧c.wg≤g∧(c.cells.drop off).take cs.length=cs
theorem At.ext {h h':Heap}{p:AV}{cs:List AV}(a:At h p cs)(e:Ext h h'):At h' p cs:=by
 obtain ⟨o,off,hi,g,c,h1,h2,h3,h4⟩:=a
 exact ⟨o,off,hi,g,c,h1,h2,e.get h3,h4⟩
theorem At.cell {h:Heap}{p:AV}{cs:List AV}(a:At h p cs){d:Nat}{x:AV}(hx:cs[d]?=some x):∃p',fldA d p=some p'∧ld1 h p'=some x:=by
 obtain ⟨o,off,hi,g,c,rfl,h2,h3,h4,h5⟩:=a
 have hd:=(List.getElem?_eq_some_iff.1 hx).1
 refine ⟨_,rfl,?_⟩
 simp only[ld1,h3]
 rw[if_pos ⟨h4,by omega⟩]
 rw[←h5,List.getElem?_take,if_pos hd,List.getElem?_drop] at hx
 exact hx
theorem At.ld1 {h:Heap}{p:AV}{x:AV}{cs:List AV}(a:At h p (x::cs)):ld1 h p=some x:=by
 obtain ⟨p',h1,h2⟩:=a.cell (d:=0) rfl
 obtain ⟨o,off,hi,g,c,rfl,_⟩:=a
 injection h1 with h1
 rw[←h1] at h2
 exact h2
theorem At.nil {h:Heap}{p:AV}{cs:List AV}(a:At h p cs):nilCk p=some p:=by
 obtain ⟨o,off,hi,g,c,rfl,_⟩:=a
 rfl
theorem At.ldN {h:Heap}{p:AV}{cs:List AV}(a:At h p cs){n:Nat}(hn:n≤cs.length):ldN n h p=some (.agg (cs.take n)):=by
 obtain ⟨o,off,hi,g,c,rfl,h2,h3,h4,h5⟩:=a
 simp only[Gm.ldN,rdc,h3,if_pos h4]
 rw[if_pos (by omega)]
 simp only[Option.map_some]
 congr 2
 conv=>rhs; rw[←h5]
 rw[List.take_take,Nat.min_eq_left hn]
def Sl (h:Heap)(sz:Nat)(s:AV)(xs:List (List AV)):Prop:=
 (s=.nils∧xs=[])∨∃o off lim g c,s=.sl o off xs.length sz lim g∧h[o]?=some (.cells c)∧c.wg≤g∧(c.cells.drop off).take (xs.length*sz)=xs.flatten∧∀x∈xs,x.length=sz
theorem Sl.ext {h h':Heap}{sz:Nat}{s:AV}{xs:List (List AV)}(a:Sl h sz s xs)(e:Ext h h'):Sl h' sz s xs:=by
 rcases a with a|⟨o,off,lim,g,c,h1,h2,h3⟩
 ·exact .inl a
 ·exact .inr ⟨o,off,lim,g,c,h1,e.get h2,h3⟩
theorem Sl.len {h:Heap}{sz:Nat}{s:AV}{xs:List (List AV)}(a:Sl h sz s xs):lenS s=some (I xs.length):=by
 rcases a with ⟨rfl,rfl⟩|⟨o,off,lim,g,c,rfl,_⟩<;>rfl
theorem b4M {sz:Nat}:∀{xs:List (List AV)},(∀x∈xs,x.length=sz)→∀{i:Nat} {x:List AV},xs[i]?=some x→(xs.flatten.drop (i*sz)).take sz=x
 |[],_,i,x,hx=>by simp at hx
 |y::ys,hl,0,x,hx=>by
  simp only[List.getElem?_cons_zero,Option.some.injEq] at hx
  subst hx
  simp only[Nat.zero_mul,List.drop_zero,List.flatten_cons]
  have h1:=hl y (by simp)
  rw[List.take_append_of_le_length (by omega),List.take_of_length_le (by omega)]
 |y::ys,hl,i+1,x,hx=>by
  have h1:=hl y (by simp)
  rw[List.flatten_cons,Nat.add_mul,Nat.one_mul,Nat.add_comm,←List.drop_drop,List.drop_append_of_le_length (by omega),←h1,List.drop_length,List.nil_append,h1]
  exact b4M (fun z hz=>hl z (List.mem_cons_of_mem _ hz)) (by simpa using hx)
theorem Sl.idx {h:Heap}{sz:Nat}{s:AV}{xs:List (List AV)}(a:Sl h sz s xs){i:Nat}{x:List AV}(hx:xs[i]?=some x):∃p,idxS sz s (I i)=some p∧At h p x:=by
 have hi:=(List.getElem?_eq_some_iff.1 hx).1
 rcases a with ⟨rfl,rfl⟩|⟨o,off,lim,g,c,rfl,h2,h3,h4,h5⟩
 ·simp at hx
 ·have hxl:x.length=sz:=h5 x (List.mem_of_getElem? hx)
  refine ⟨.ptr o (off+i*sz) (off+i*sz+sz) g,by simp[idxS,hi],o,_,_,g,c,rfl,by omega,h2,h3,?_⟩
  rw[hxl,←List.drop_drop]
  have:=b4M h5 hx
  rw[←h4] at this
  rw[List.drop_take,List.take_take] at this
  have hle:sz≤xs.length*sz-i*sz:=by
   have:(i+1)*sz≤xs.length*sz:=Nat.mul_le_mul_right _ hi
   rw[Nat.add_mul,Nat.one_mul] at this
   omega
  rw[Nat.min_eq_left hle] at this
  exact this
def Row (h:Heap)(o:Nat)(c:CObj):Prop:=h[o]?=some (.cells c)
theorem Row.ext {h h':Heap}{o:Nat}{c:CObj}(a:Row h o c)(e:Ext h h'):Row h' o c:=e.get a
theorem Row.lt {h:Heap}{o:Nat}{c:CObj}(a:Row h o c):o<h.length:=(List.getElem?_eq_some_iff.1 a).1
theorem Row.push {h:Heap}{o:Nat}{c:CObj}(a:Row h o c)(x:AObj):Row (h++[x]) o c:=a.ext (Ext.push h [x])
abbrev vobj (cs:List AV):CObj:=⟨cs,0,0,false⟩
theorem b8A {cs:List AV}(h:Heap)(h1:cs.all AV.one=true):newVar h cs=some (.ptr h.length 0 cs.length 0,mkObj h cs):=by
 unfold newVar; rw[if_pos h1]
theorem Row.new (h:Heap)(cs:List AV):Row (mkObj h cs) h.length (vobj cs):=by
 simp[Row,mkObj]
theorem Ext.new (h:Heap)(cs:List AV):Ext h (mkObj h cs):=Ext.push h _
theorem Row.at {h:Heap}{o:Nat}{c:CObj}(a:Row h o c){g:Nat}(hg:c.wg≤g){off n hi:Nat}(hn:off+n≤c.cells.length)(hhi:off+n≤hi):At h (.ptr o off hi g) ((c.cells.drop off).take n):=by
 have hl:((c.cells.drop off).take n).length=n:=by simp; omega
 exact ⟨o,off,hi,g,c,rfl,by rw[hl]; exact hhi,a,hg,by rw[hl]⟩
end Go.Gm
namespace Go.Gm
mutual
theorem AV.beq_refl:∀a:AV,AV.beq a a=true
 |.undef=>rfl
 |.bool b=>by simp[AV.beq]
 |.int k n=>by simp[AV.beq]
 |.str s=>by simp[AV.beq]
 |.nilp=>rfl
 |.ptr ..=>by simp[AV.beq]
 |.nils=>rfl
 |.sl ..=>by simp[AV.beq]
 |.nilmap=>rfl
 |.map _=>by simp[AV.beq]
 |.nilfn=>rfl
 |.fn f a b=>by simp[AV.beq,AV.beqs_refl a,AV.beqs_refl b]
 |.nilifc=>rfl
 |.ifc t v=>by simp[AV.beq,AV.beq_refl v]
 |.agg a=>by simp[AV.beq,AV.beqs_refl a]
 |.tup a=>by simp[AV.beq,AV.beqs_refl a]
theorem AV.beqs_refl:∀a:List AV,AV.beqs a a=true
 |[]=>rfl
 |a::r=>by simp[AV.beqs,AV.beq_refl a,AV.beqs_refl r]
end

section
variable {R:Type}
@[congr] theorem oa_cg {x y:Option AV} {K:AV→Option R} (h:x=y):oa x K=oa y K:=by rw[h]
@[congr] theorem oh_cg {x y:Option Heap} {K:Heap→Option R} (h:x=y):oh x K=oh y K:=by rw[h]
@[congr] theorem ob_cg {x y:Option (AV × Heap)} {K:AV→Heap→Option R} (h:x=y):ob x K=ob y K:=by rw[h]
@[congr] theorem gd_cg {g g':AV} {b:Bool} {x:Option (AV × Heap)} {h:Heap} (e:g=g'):gd g b x h=gd g' b x h:=by rw[e]
@[congr] theorem cond2_cg {c d:AV} {a b:Option R} (e:c=d):cond2 c a b=cond2 d a b:=by rw[e]
@[congr] theorem chk_cg {c d:Bool} {x:Option R} (e:c=d):chk c x=chk d x:=by rw[e]
theorem gd_tt (x:Option (AV × Heap))(h:Heap):gd (.bool true) true x h=x:=rfl
theorem gd_ft (x:Option (AV × Heap))(h:Heap):gd (.bool false) true x h=some (.tup [],h):=rfl
theorem gd_ff (x:Option (AV × Heap))(h:Heap):gd (.bool false) false x h=x:=rfl
theorem gd_tf (x:Option (AV × Heap))(h:Heap):gd (.bool true) false x h=some (.tup [],h):=rfl
theorem gd_n (b:Bool)(x:Option (AV × Heap))(h:Heap):gd (.tup []) b x h=some (.tup [],h):=rfl
theorem b6o (x:Option AV)(h:Heap)(K:AV→Heap→Option R):ob (pure1 h x) K=oa x fun v=>K v h:=by cases x<;>rfl
theorem b8B (a b:AV):pickV (.bool true) a b=some a:=rfl
theorem b8C (a b:AV):pickV (.bool false) a b=some b:=rfl
theorem b3Y (h:Heap)(v:AV):pure1 h (some v)=some (v,h):=rfl
theorem b4N (v:AV)(h:Heap):sameB (some (v,h)) v=true:=AV.beq_refl v
theorem b4O (call:CallF)(f:FuncId)(a b args:List AV)(h:Heap):callVal call (.fn f a b) args h=call f (a++args++b) h:=rfl
end
section
variable {ι:Type} [Fuel ι]
@[congr] theorem WP_cg {c d:ι→Option (AV × Heap)} {Q:AV→Heap→Prop} (h:∀i,c i=d i):WP c Q=WP d Q:=by rw[funext h]
end
section
variable {ι:Type} [Fuel ι]
theorem WP.rnd {c:ι × Nat→Option (AV × Heap)}{d:ι→Nat→Option (AV × Heap)}{Q:AV→Heap→Prop}(he:∀i j,c (i,j+1)=d i j)(hl:WP (fun p:ι × Nat=>d p.1 p.2) Q):WP c Q:=
 WP.round (L:=fun i j=>c (i,j)) (d:=d) he hl
theorem WP.ent {c:ι→Option (AV × Heap)}{c2:ι × Nat→Option (AV × Heap)}{Q:AV→Heap→Prop}(hl:WP c2 Q)(hc:∀i,c i=c2 (i,Fuel.k i)):WP c Q:=
 WP.congr hc (WP.enter (L:=fun i j=>c2 (i,j)) hl)
theorem WP.lv {c:ι × Nat→Option (AV × Heap)}{d:ι→Option (AV × Heap)}{Q:AV→Heap→Prop}(hd:WP d Q)(hc:∀i j,c (i,j)=d i):WP c Q:=
 WP.congr (fun p=>hc p.1 p.2) (WP.leave hd)
end
section
variable {a b:Int}
theorem lss_t (h:a<b):binV .lss .scalar (I a) (I b)=some (.bool true):=by rw[b1q,decide_eq_true h]
theorem lss_f (h:¬a<b):binV .lss .scalar (I a) (I b)=some (.bool false):=by rw[b1q,decide_eq_false h]
theorem leq_t (h:a≤b):binV .leq .scalar (I a) (I b)=some (.bool true):=by rw[b3H,decide_eq_true h]
theorem leq_f (h:¬a≤b):binV .leq .scalar (I a) (I b)=some (.bool false):=by rw[b3H,decide_eq_false h]
theorem gtr_t (h:b<a):binV .gtr .scalar (I a) (I b)=some (.bool true):=by rw[b5j,decide_eq_true h]
theorem gtr_f (h:¬b<a):binV .gtr .scalar (I a) (I b)=some (.bool false):=by rw[b5j,decide_eq_false h]
theorem geq_t (h:b≤a):binV .geq .scalar (I a) (I b)=some (.bool true):=by rw[b7r,decide_eq_true h]
theorem geq_f (h:¬b≤a):binV .geq .scalar (I a) (I b)=some (.bool false):=by rw[b7r,decide_eq_false h]
theorem eql_t (h:a=b):binV .eql .scalar (I a) (I b)=some (.bool true):=by rw[b7s,beq_iff_eq.2 h]
theorem eql_f (h:¬a=b):binV .eql .scalar (I a) (I b)=some (.bool false):=by rw[b7s,beq_eq_false_iff_ne.2 h]
theorem neq_t (h:¬a=b):binV .neq .scalar (I a) (I b)=some (.bool true):=by rw[b7t,bne_iff_ne.2 h]
theorem neq_f (h:a=b):binV .neq .scalar (I a) (I b)=some (.bool false):=by rw[b7t]; simp[h]
theorem add_i (h1:-9223372036854775808≤a+b)(h2:a+b≤9223372036854775807):binV .add .scalar (I a) (I b)=some (I (a+b)):=b3I a b ⟨h1,h2⟩
theorem sub_i (h1:-9223372036854775808≤a-b)(h2:a-b≤9223372036854775807):binV .sub .scalar (I a) (I b)=some (I (a-b)):=c0S a b ⟨h1,h2⟩
theorem rem_i (h1:¬b=0):binV .rem .scalar (I a) (I b)=some (I (a.tmod b)):=b3J a b h1
theorem quo_w (h1:¬b=0):binV .quo .scalar (I a) (I b)=some (I (IntKind.i64.wrap (a.tdiv b))):=by
 show (if b=0 then none else some (AV.int .i64 (IntKind.i64.wrap (a.tdiv b))))=_
 rw[if_neg h1]
theorem mul_w:binV .mul .scalar (I a) (I b)=some (I (IntKind.i64.wrap (a*b))):=rfl
theorem eql_b (a b:Bool):binV .eql .bool (.bool a) (.bool b)=some (.bool (a == b)):=rfl
theorem neq_b (a b:Bool):binV .neq .bool (.bool a) (.bool b)=some (.bool (!(a == b))):=rfl
theorem b4P (o off len sz:Nat)(lim:Option Nat)(g:Nat):binV .eql .slice (.sl o off len sz lim g) .nils=some (.bool false):=rfl
theorem b3Z:binV .eql .slice .nils .nils=some (.bool true):=rfl
theorem b8D:mmV true (I a) (I b)=some (I (max a b)):=by
 show some (AV.int .i64 (if (true:Bool)=true then (if b > a then b else a) else _))=_
 simp only[if_true]
 congr 2
 omega
theorem b8E:mmV false (I a) (I b)=some (I (min a b)):=by
 show some (AV.int .i64 (if (false:Bool)=true then _ else (if b<a then b else a)))=_
 simp only[Bool.false_eq_true,if_false]
 congr 2
 omega
end
def AV.obj:AV→Nat
 |.ptr o _ _ _=>o
 |.sl o _ _ _ _ _=>o
 |.map o=>o
 |_=>0
def elP (sz:Nat)(s:AV)(i:Int):AV:=match s with
 |.sl o off _ _ _ g=>.ptr o (off+i.toNat*sz) (off+i.toNat*sz+sz) g
 |_=>.ptr 0 0 0 0
def fldP (d:Nat):AV→AV
 |.ptr o off hi g=>.ptr o (off+d) hi g
 |v=>v
theorem a8S (d o off hi g:Nat):fldP d (.ptr o off hi g)=.ptr o (off+d) hi g:=rfl
theorem b5J (d e:Nat)(p:AV):fldP d (fldP e p)=fldP (e+d) p:=by cases p<;>simp[fldP,Nat.add_assoc]
theorem b6p (d o off hi g:Nat):fldA d (.ptr o off hi g)=some (.ptr o (off+d) hi g):=rfl
theorem b7u (o off hi g:Nat):nilCk (.ptr o off hi g)=some (.ptr o off hi g):=rfl
theorem b7v (sz d:Nat)(s:AV)(i:Int):fldA d (elP sz s i)=some (fldP d (elP sz s i)):=by cases s<;>rfl
theorem b6q (sz d e:Nat)(s:AV)(i:Int):fldA d (fldP e (elP sz s i))=some (fldP (e+d) (elP sz s i)):=by cases s<;>simp[elP,fldP,fldA,Nat.add_assoc]
theorem b8F (sz:Nat)(s:AV)(i:Int):nilCk (elP sz s i)=some (elP sz s i):=by cases s<;>rfl
theorem b7w (sz e:Nat)(s:AV)(i:Int):nilCk (fldP e (elP sz s i))=some (fldP e (elP sz s i)):=by cases s<;>rfl
theorem b8G (o off len sz:Nat)(lim:Option Nat)(g:Nat):lenS (.sl o off len sz lim g)=some (I len):=rfl
theorem b7x:lenS .nils=some (I 0):=rfl
theorem b8H {o off len sz:Nat}{lim:Option Nat}{g:Nat}{i:Int}(h0:0≤i)(h1:i<len):idxS sz (.sl o off len sz lim g) (I i)=some (.ptr o (off+i.toNat*sz) (off+i.toNat*sz+sz) g):=by
 simp[idxS,h0,h1]
def rdAt (x:Option AObj)(off hi g:Nat):Option AV:=match x with
 |some (.cells c)=>if c.wg≤g∧off<hi then c.cells[off]? else none
 |_=>none
theorem b7y (h:Heap)(o off hi g:Nat):ld1 h (.ptr o off hi g)=rdAt h[o]? off hi g:=rfl
theorem b6r {cs:List AV}{gen wg:Nat}{ro:Bool}{off hi g:Nat}(h1:wg≤g)(h2:off<hi):rdAt (some (.cells ⟨cs,gen,wg,ro⟩)) off hi g=cs[off]?:=if_pos ⟨h1,h2⟩
def rdNAt (n:Nat)(x:Option AObj)(off hi g:Nat):Option AV:=match x with
 |some (.cells c)=>if off+n≤hi∧c.wg≤g then some (.agg ((c.cells.drop off).take n)) else none
 |_=>none
theorem b7z (n:Nat)(h:Heap)(o off hi g:Nat):ldN n h (.ptr o off hi g)=rdNAt n h[o]? off hi g:=by
 simp only[ldN,rdc,rdNAt]
 cases hx:h[o]? with
 |none=>simp
 |some x=>
  cases x with
  |cells c=>
   simp only
   by_cases h1:off+n≤hi
   ·by_cases h2:c.wg≤g
    ·simp[h1,h2]
    ·simp[h1,h2]
   ·simp[h1]
  |map m=>simp
theorem b5K {n:Nat}{cs:List AV}{gen wg:Nat}{ro:Bool}{off hi g:Nat}(h1:wg≤g)(h2:off+n≤hi):rdNAt n (some (.cells ⟨cs,gen,wg,ro⟩)) off hi g=some (.agg ((cs.drop off).take n)):=if_pos ⟨h2,h1⟩
def wrAt (n:Nat)(h:Heap)(x:Option AObj)(o off hi g:Nat)(vs:List AV):Option Heap:=match x with
 |some (.cells c)=>if vs.length=n∧c.ro=false∧c.gen=g∧off+vs.length≤hi∧vs.all AV.one=true then some (h.set o (.cells { c with cells:=setAll c.cells off vs,wg:=g })) else none
 |_=>none
theorem b1r (n:Nat)(h:Heap)(o off hi g:Nat)(v:AV):stN n h (.ptr o off hi g) v=wrAt n h h[o]? o off hi g v.cells:=by
 simp only[stN,wrc,wrAt]
 by_cases h1:v.cells.length=n
 ·simp only[if_pos h1]
  cases hx:h[o]? with
  |none=>rfl
  |some x=>
   cases x with
   |cells c=>simp only[h1,true_and]
   |map m=>rfl
 ·simp only[if_neg h1]
  cases hx:h[o]? with
  |none=>rfl
  |some x=>
   cases x with
   |cells c=>simp only[h1,false_and,if_false]
   |map m=>rfl
theorem a3h {n:Nat}{h:Heap}{cs:List AV}{gen wg:Nat}{o off hi g:Nat}{vs:List AV}(h1:vs.length=n)(h2:gen=g)(h3:off+n≤hi)(h4:vs.all AV.one=true) :
  wrAt n h (some (.cells ⟨cs,gen,wg,false⟩)) o off hi g vs=some (h.set o (.cells ⟨setAll cs off vs,gen,g,false⟩)):=by
 subst h1 h2
 exact if_pos ⟨rfl,rfl,rfl,h3,h4⟩
theorem b6_ {h:Heap}{o p:Nat}{x:AObj}(hne:¬o=p):(h.set o x)[p]?=h[p]?:=List.getElem?_set_ne hne
theorem b2_ {h:Heap}{o:Nat}{x:AObj}(ho:o<h.length):(h.set o x)[o]?=some x:=by simp[ho]
theorem a4Q {h t:Heap}{o:Nat}(ho:o<h.length):(h++t)[o]?=h[o]?:=List.getElem?_append_left ho
theorem b0p {h t:Heap}{o:Nat}(ho:h.length≤o):(h++t)[o]?=t[o-h.length]?:=List.getElem?_append_right ho
theorem b0_ (h:Heap)(cs:List AV):mkObj h cs=h++[.cells ⟨cs,0,0,false⟩]:=rfl
theorem b6s {cs:List AV}{h:Heap}(h1:cs.all AV.one=true):newVar h cs=some (.ptr h.length 0 cs.length 0,mkObj h cs):=b8A h h1
section
variable (k:IntKind) (n:Int) (b:Bool) (s:ByteArray) (o off hi g sz:Nat) (lim:Option Nat) (cs:List AV) (t:TypeId) (v:AV)
theorem a8N:(AV.int k n).one=true:=rfl
theorem b2d:(AV.bool b).one=true:=rfl
theorem b3K:(AV.str s).one=true:=rfl
theorem b3L:(AV.ptr o off hi g).one=true:=rfl
theorem b4Q:(AV.sl o off hi sz lim g).one=true:=rfl
theorem b2e:AV.nils.one=true:=rfl
theorem b2f:AV.nilp.one=true:=rfl
theorem b3M:(AV.ifc t v).one=true:=rfl
theorem b3N:(AV.map o).one=true:=rfl
theorem a0v:(AV.int k n).cells=[.int k n]:=rfl
theorem a8p:(AV.bool b).cells=[.bool b]:=rfl
theorem b0q:(AV.str s).cells=[.str s]:=rfl
theorem b0r:(AV.ptr o off hi g).cells=[.ptr o off hi g]:=rfl
theorem b2g:(AV.sl o off hi sz lim g).cells=[.sl o off hi sz lim g]:=rfl
theorem a8q:AV.nils.cells=[.nils]:=rfl
theorem a8r:AV.nilp.cells=[.nilp]:=rfl
theorem b0s:(AV.ifc t v).cells=[.ifc t v]:=rfl
theorem b0t:(AV.map o).cells=[.map o]:=rfl
theorem b0u:(AV.agg cs).cells=cs:=rfl
end
theorem b7A (cs:List AV):fillP cs []=some cs:=rfl
theorem b7B {cs:List AV}{off size:Nat}{v:AV}{r:List (Nat × Nat × AV)}(h1:v.cells.length=size)(h2:off+size≤cs.length)(h3:v.cells.all AV.one=true):fillP cs ((off,size,v)::r)=fillP (setAll cs off v.cells) r:=if_pos ⟨h1,h2,h3⟩
theorem b6t (z:List AV)(ps:List (Nat × Nat × AV)):buildV z ps=(fillP z ps).map .agg:=rfl
def bsl (sz len:Nat)(h:Heap)(x:Option (List AV)):Option (AV × Heap):=match x with
 |some cs=>if cs.all AV.one=true∧cs.length=len*sz then some (.sl h.length 0 len sz none 0,mkObj h cs) else none
 |none=>none
theorem b5L (sz len:Nat)(z:List AV)(ps:List (Nat × Nat × AV))(h:Heap):buildSl sz len z ps h=bsl sz len h (fillP z ps):=rfl
theorem bsl_i {sz len:Nat}{h:Heap}{cs:List AV}(h1:cs.all AV.one=true)(h2:cs.length=len*sz):bsl sz len h (some cs)=some (.sl h.length 0 len sz none 0,mkObj h cs):=if_pos ⟨h1,h2⟩
theorem c2d {zero:List AV}{sz bytes:Nat}{l c:Int}{h:Heap}(h1:0≤l)(h2:l≤c)(h3:c*bytes≤140737488355328)(h4:c≤140737488355328)(h5:zero.length=sz)(h6:zero.all AV.one=true) :
  mkSl zero sz bytes (I l) (I c) h=some (.sl h.length 0 l.toNat sz none 0,mkObj h ((List.replicate l.toNat zero).flatten)):=if_pos ⟨h1,h2,h3,h4,h5,h6⟩
theorem Ext.app {h H:Heap}(a:Ext h H)(t:Heap):Ext h (H++t):=a.trans (Ext.push H t)
theorem Ext.mk {h H:Heap}(a:Ext h H)(cs:List AV):Ext h (mkObj H cs):=a.trans (Ext.push H _)
theorem Ext.setr {h H:Heap}(a:Ext h H){o:Nat}(ho:h.length≤o)(x:AObj):Ext h (H.set o x):=a.set ho x
theorem Ext.def {h h':Heap}(a:Ext h h'):∃t,h'=h++t:=let ⟨t,e⟩:=a; ⟨t,e.symm⟩
def gi {α:Type}[Inhabited α](xs:List α)(i:Int):α:=xs.getD i.toNat default
theorem x9_ {α:Type}[Inhabited α]{xs:List α}{i:Int}(h0:0≤i)(h1:i<xs.length):xs[i.toNat]?=some (gi xs i):=by
 have:i.toNat<xs.length:=by omega
 simp[gi,List.getD_eq_getElem?_getD,this]
theorem l8_ {α:Type}[Inhabited α]{xs:List α}{i:Int}(h0:0≤i)(h1:i<xs.length):gi xs i∈xs:=List.mem_of_getElem? (x9_ h0 h1)
theorem c5_ {α:Type}[Inhabited α]{xs:List α}{n:Nat}(h1:n<xs.length):gi xs (n:Int)=xs[n]:=by
 simp[gi,List.getD_eq_getElem?_getD,h1]
section
variable {h H:Heap} {sz:Nat} {s:AV} {α:Type} [Inhabited α] {enc:α→List AV} {xs:List α} {i:Int}
theorem Sl.idxG (a:Sl h sz s (xs.map enc)){i:Int}(h0:0≤i)(h1:i<xs.length):idxS sz s (I i)=some (elP sz s i):=by
 rcases a with ⟨rfl,h2⟩|⟨o,off,lim,g,c,rfl,_⟩
 ·rw[List.map_eq_nil_iff] at h2; subst h2; simp at h1; omega
 ·simp[idxS,elP,h0,h1]
theorem Sl.lenG (a:Sl h sz s (xs.map enc)):lenS s=some (I xs.length):=by rw[a.len,List.length_map]
theorem Sl.atG (a:Sl h sz s (xs.map enc)){H:Heap}{i:Int}(e:Ext h H)(h0:0≤i)(h1:i<xs.length):At H (elP sz s i) (enc (gi xs i)):=by
 have hx:(xs.map enc)[i.toNat]?=some (enc (gi xs i)):=by simp[x9_ h0 h1]
 obtain ⟨p,h2,h3⟩:=(a.ext e).idx hx
 have h4:=a.idxG h0 h1
 rw[show ((i.toNat:Nat):Int)=i by omega] at h2
 rw[h2] at h4
 injection h4 with h4
 rw[←h4]; exact h3
theorem At.ldf {p:AV}{cs:List AV}(a:At h p cs){d:Nat}(hd:d<cs.length):Gm.ld1 h (fldP d p)=some (cs.getD d .undef):=by
 obtain ⟨p',h1,h2⟩:=a.cell (d:=d) (List.getElem?_eq_getElem hd)
 obtain ⟨o,off,hi,g,c,rfl,_⟩:=a
 injection h1 with h1
 rw[a8S,h1,h2,List.getD_eq_getElem?_getD,List.getElem?_eq_getElem hd]; rfl
theorem At.ld0 {p:AV}{cs:List AV}(a:At h p cs)(hd:0<cs.length):Gm.ld1 h p=some (cs.getD 0 .undef):=by
 have:=a.ldf hd
 obtain ⟨o,off,hi,g,c,rfl,_⟩:=a
 exact this
theorem Sl.encLen (a:Sl h sz s (xs.map enc)){i:Int}(h0:0≤i)(h1:i<xs.length):(enc (gi xs i)).length=sz:=by
 rcases a with ⟨rfl,h2⟩|⟨o,off,lim,g,c,rfl,_,_,_,h5⟩
 ·rw[List.map_eq_nil_iff] at h2; subst h2; simp at h1; omega
 ·exact h5 _ (List.mem_map_of_mem (l8_ h0 h1))
theorem Sl.ldf (a:Sl h sz s (xs.map enc))(d:Nat){H:Heap}{i:Int}(e:Ext h H)(h0:0≤i)(h1:i<xs.length)(hd:d<sz):Gm.ld1 H (fldP d (elP sz s i))=some ((enc (gi xs i)).getD d .undef):=(a.atG e h0 h1).ldf (by rw[a.encLen h0 h1]; exact hd)
theorem Sl.ld0 (a:Sl h sz s (xs.map enc)){H:Heap}{i:Int}(e:Ext h H)(h0:0≤i)(h1:i<xs.length)(hd:0<sz):Gm.ld1 H (elP sz s i)=some ((enc (gi xs i)).getD 0 .undef):=(a.atG e h0 h1).ld0 (by rw[a.encLen h0 h1]; exact hd)
theorem Sl.ldN (a:Sl h sz s (xs.map enc)){H:Heap}{i:Int}(e:Ext h H)(h0:0≤i)(h1:i<xs.length):Gm.ldN sz H (elP sz s i)=some (.agg (enc (gi xs i))):=by
 have h2:=(a.atG e h0 h1).ldN (n:=sz) (by rw[a.encLen h0 h1]; exact Nat.le_refl _)
 rw[h2,List.take_of_length_le (by rw[a.encLen h0 h1]; exact Nat.le_refl _)]
end
section
variable {h H:Heap} {p:AV} {cs:List AV}
theorem At.fldA0 (a:At h p cs)(d:Nat):fldA d p=some (fldP d p):=by
 obtain ⟨o,off,hi,g,c,rfl,_⟩:=a; rfl
theorem At.fldAf (a:At h p cs)(d e:Nat):fldA d (fldP e p)=some (fldP (e+d) p):=by
 obtain ⟨o,off,hi,g,c,rfl,_⟩:=a; simp[fldP,fldA,Nat.add_assoc]
theorem At.ldfE (a:At h p cs)(d:Nat){H:Heap}(e:Ext h H)(hd:d<cs.length):Gm.ld1 H (fldP d p)=some (cs.getD d .undef):=(a.ext e).ldf hd
theorem At.neq (a:At h p cs):binV .neq .ptr p .nilp=some (.bool true):=by
 obtain ⟨o,off,hi,g,c,rfl,_⟩:=a; rfl
theorem At.eql (a:At h p cs):binV .eql .ptr p .nilp=some (.bool false):=by
 obtain ⟨o,off,hi,g,c,rfl,_⟩:=a; rfl
end
end Go.Gm
namespace Go.Gm
def Fr (lo hi:Nat)(h h':Heap):Prop:=h.length≤h'.length∧∀o,(o<lo∨hi≤o)→o<h.length→h'[o]?=h[o]?
theorem Fr.get {lo hi:Nat}{h h':Heap}(a:Fr lo hi h h'){o:Nat}(h1:o<lo∨hi≤o)(h2:o<h.length):h'[o]?=h[o]?:=a.2 o h1 h2
theorem Fr.len {lo hi:Nat}{h h':Heap}(a:Fr lo hi h h'):h.length≤h'.length:=a.1
theorem Fr.refl (lo hi:Nat)(h:Heap):Fr lo hi h h:=⟨Nat.le_refl _,fun _ _ _=>rfl⟩
theorem Fr.trans {lo hi:Nat}{h h' h'':Heap}(a:Fr lo hi h h')(b:Fr lo hi h' h''):Fr lo hi h h'':=
 ⟨Nat.le_trans a.1 b.1,fun o h1 h2=>(b.2 o h1 (Nat.lt_of_lt_of_le h2 a.1)).trans (a.2 o h1 h2)⟩
theorem Fr.mono {lo hi lo' hi':Nat}{h h':Heap}(a:Fr lo hi h h')(h1:lo'≤lo)(h2:hi≤hi'):Fr lo' hi' h h':=
 ⟨a.1,fun o k1 k2=>a.2 o (by omega) k2⟩
theorem a3E {h h':Heap}:Ext h h'↔h.length≤h'.length∧∀o,o<h.length→h'[o]?=h[o]?:=by
 constructor
 ·rintro ⟨t,rfl⟩
  exact ⟨by simp,fun o ho=>List.getElem?_append_left ho⟩
 ·rintro ⟨h1,h2⟩
  refine ⟨h'.drop h.length,?_⟩
  apply List.ext_getElem?
  intro i
  by_cases hi:i<h.length
  ·rw[List.getElem?_append_left hi,h2 i hi]
  ·rw[List.getElem?_append_right (by omega),List.getElem?_drop]
   congr 1
   omega
theorem Fr.ext {lo hi:Nat}{h0 h h':Heap}(a:Fr lo hi h h')(e:Ext h0 h)(hl:h0.length≤lo):Ext h0 h':=by
 rw[a3E] at *
 exact ⟨Nat.le_trans e.1 a.1,fun o ho=>(a.2 o (by omega) (by omega)).trans (e.2 o ho)⟩
theorem Fr.ofExt {lo hi:Nat}{h h':Heap}(e:Ext h h'):Fr lo hi h h':=by
 rw[a3E] at e
 exact ⟨e.1,fun o _ ho=>e.2 o ho⟩
theorem Fr.set {lo hi:Nat}(h:Heap){o:Nat}(h1:lo≤o)(h2:o<hi)(x:AObj):Fr lo hi h (h.set o x):=
 ⟨by simp,fun p k1 k2=>List.getElem?_set_ne (by omega)⟩
def Gr (lo hi:Nat)(h:Heap)(sz:Nat)(s:AV)(xs:List (List AV)):Prop:=
 (s=.nils∧xs=[])∨∃o g wg cs,lo≤o∧o<hi∧s=.sl o 0 xs.length sz none g∧h[o]?=some (.cells ⟨cs,g,wg,false⟩)∧wg≤g∧cs.take (xs.length*sz)=xs.flatten∧∀x∈xs,x.length=sz
theorem Gr.nil (lo hi:Nat)(h:Heap)(sz:Nat):Gr lo hi h sz .nils []:=.inl ⟨rfl,rfl⟩
theorem k5_ {sz:Nat}:∀{xs:List (List AV)},(∀x∈xs,x.length=sz)→xs.flatten.length=xs.length*sz
 |[],_=>by simp
 |x::xs,h=>by
  rw[List.flatten_cons,List.length_append,h x (by simp),k5_ (fun y hy=>h y (List.mem_cons_of_mem _ hy)),List.length_cons,Nat.add_mul]
  omega
theorem Gr.sl {lo hi:Nat}{h:Heap}{sz:Nat}{s:AV}{xs:List (List AV)}(a:Gr lo hi h sz s xs):Sl h sz s xs:=by
 rcases a with a|⟨o,g,wg,cs,h1,h2,h3,h4,h5,h6,h7⟩
 ·exact .inl a
 ·exact .inr ⟨o,0,none,g,_,h3,h4,h5,by rw[List.drop_zero]; exact h6,h7⟩
theorem Gr.fr {lo hi lo' hi':Nat}{h h':Heap}{sz:Nat}{s:AV}{xs:List (List AV)}(a:Gr lo hi h sz s xs)(f:Fr lo' hi' h h')(hd:hi≤lo'∨hi'≤lo):Gr lo hi h' sz s xs:=by
 rcases a with a|⟨o,g,wg,cs,h1,h2,h3,h4,h5⟩
 ·exact .inl a
 ·exact .inr ⟨o,g,wg,cs,h1,h2,h3,by rw[f.get (by omega) (List.getElem?_eq_some_iff.1 h4).1]; exact h4,h5⟩
theorem Gr.ext {lo hi:Nat}{h h':Heap}{sz:Nat}{s:AV}{xs:List (List AV)}(a:Gr lo hi h sz s xs)(e:Ext h h'):Gr lo hi h' sz s xs:=by
 rcases a with a|⟨o,g,wg,cs,h1,h2,h3,h4,h5⟩
 ·exact .inl a
 ·exact .inr ⟨o,g,wg,cs,h1,h2,h3,e.get h4,h5⟩
theorem Gr.mono {lo hi lo' hi':Nat}{h:Heap}{sz:Nat}{s:AV}{xs:List (List AV)}(a:Gr lo hi h sz s xs)(h1:lo'≤lo)(h2:hi≤hi'):Gr lo' hi' h sz s xs:=by
 rcases a with a|⟨o,g,wg,cs,k1,k2,h3,h4,h5⟩
 ·exact .inl a
 ·exact .inr ⟨o,g,wg,cs,by omega,by omega,h3,h4,h5⟩
theorem Gr.set {lo hi:Nat}{h:Heap}{sz:Nat}{s:AV}{xs:List (List AV)}(a:Gr lo hi h sz s xs){o:Nat}(ho:o<lo∨hi≤o)(x:AObj):Gr lo hi (h.set o x) sz s xs:=by
 rcases a with a|⟨p,g,wg,cs,h1,h2,h3,h4,h5⟩
 ·exact .inl a
 ·exact .inr ⟨p,g,wg,cs,h1,h2,h3,by rw[List.getElem?_set_ne (by omega)]; exact h4,h5⟩
theorem Gr.app {lo hi:Nat}{h:Heap}{sz:Nat}{s:AV}{xs:List (List AV)}(a:Gr lo hi h sz s xs)(t:Heap):Gr lo hi (h++t) sz s xs:=a.ext (Ext.push h t)
theorem Gr.low {lo hi:Nat}{h:Heap}{sz:Nat}{s:AV}{xs:List (List AV)}(a:Gr lo hi h sz s xs)(n:Nat)(hn:h.length≤n):Gr lo n h sz s xs:=by
 rcases a with a|⟨p,g,wg,cs,h1,h2,h3,h4,h5⟩
 ·exact .inl a
 ·exact .inr ⟨p,g,wg,cs,h1,by have:=(List.getElem?_eq_some_iff.1 h4).1; omega,h3,h4,h5⟩
theorem Sl.one {h:Heap}{sz:Nat}{s:AV}{xs:List (List AV)}(a:Sl h sz s xs):s.one=true:=by
 rcases a with ⟨rfl,_⟩|⟨o,off,lim,g,c,rfl,_⟩<;>rfl
theorem Sl.cells {h:Heap}{sz:Nat}{s:AV}{xs:List (List AV)}(a:Sl h sz s xs):s.cells=[s]:=by
 rcases a with ⟨rfl,_⟩|⟨o,off,lim,g,c,rfl,_⟩<;>rfl
theorem Sl.sub {h:Heap}{sz:Nat}{s:AV}{xs:List (List AV)}(a:Sl h sz s xs):True:=trivial
theorem Sl.news {h:Heap}{sz:Nat}{s:AV}{xs:List (List AV)}(a:Sl h sz s xs):news sz s h=some (xs.length,xs.flatten):=by
 rcases a with ⟨rfl,rfl⟩|⟨o,off,lim,g,c,rfl,h2,h3,h4,h5⟩
 ·rfl
 ·simp only[Gm.news,if_true,rdc,h2,if_pos h3,h4,Option.map_some]
theorem Gr.appendS {lo hi:Nat}{h:Heap}{sz bytes:Nat}{s x:AV}{xs ys:List (List AV)}(a:Gr lo hi h sz s xs)(b:Sl h sz x ys)(hsz:0<sz)(hb:0<bytes)(hl:(xs.length+ys.length)*bytes≤140737488355328)(hlo:lo≤h.length)(hhi:hi≤h.length) :
  ∃s' h',apnd sz bytes s x h=some (s',h')∧Gr lo h'.length h' sz s' (xs++ys)∧Fr lo hi h h'∧(s≠.nils→Gr lo hi h' sz s' (xs++ys)∧s'≠.nils):=by
 have hys:∀y∈ys,y.length=sz:=by
  rcases b with ⟨_,rfl⟩|⟨_,_,_,_,_,_,_,_,_,h5⟩
  ·simp
  ·exact h5
 have hfl:=k5_ hys
 simp only[apnd,b.news]
 rcases a with ⟨rfl,rfl⟩|⟨o,g,wg,cs,h1,h2,rfl,h4,h5,h6,h7⟩
 ·simp only[List.length_nil,Nat.zero_add] at hl
  by_cases h0:ys.length=0
  ·have:=List.eq_nil_of_length_eq_zero h0
   subst this
   exact ⟨.nils,h,rfl,.inl ⟨rfl,rfl⟩,Fr.refl _ _ _,fun q=>absurd rfl q⟩
  ·refine ⟨.sl h.length 0 ys.length sz none 0,mkObj h ys.flatten,?_,.inr ⟨h.length,0,0,ys.flatten,hlo,by simp[mkObj],rfl,by simp[mkObj],Nat.le_refl _,List.take_of_length_le (by rw[hfl]; exact Nat.le_refl _),hys⟩,Fr.ofExt (Ext.push h _),fun q=>absurd rfl q⟩
   simp only[if_neg h0]
   rw[if_pos ⟨hl,hfl,hsz,hb⟩]
 ·by_cases h0:ys.length=0
  ·have:=List.eq_nil_of_length_eq_zero h0
   subst this
   simp only[List.append_nil]
   exact ⟨_,h,rfl,.inr ⟨o,g,wg,cs,h1,by omega,rfl,h4,h5,h6,h7⟩,Fr.refl _ _ _,fun _=>⟨.inr ⟨o,g,wg,cs,h1,h2,rfl,h4,h5,h6,h7⟩,by simp⟩⟩
  ·have hox:=(List.getElem?_eq_some_iff.1 h4).1
   have hgr:∀hi',o<hi'→Gr lo hi' (h.set o (.cells ⟨(xs++ys).flatten,g+1,(if xs.length*sz=cs.length then wg else g+1),false⟩)) sz (.sl o 0 (xs.length+ys.length) sz none (g+1)) (xs++ys):=by
    intro hi' hhi'
    refine .inr ⟨o,g+1,(if xs.length*sz=cs.length then wg else g+1),(xs++ys).flatten,h1,hhi',by simp,by simp[hox],by split<;>omega,?_,?_⟩
    ·refine List.take_of_length_le ?_
     rw[k5_ (sz:=sz)]
     ·exact Nat.le_refl _
     ·intro x hx
      rcases List.mem_append.1 hx with hx|hx
      ·exact h7 x hx
      ·exact hys x hx
    ·intro x hx
     rcases List.mem_append.1 hx with hx|hx
     ·exact h7 x hx
     ·exact hys x hx
   refine ⟨.sl o 0 (xs.length+ys.length) sz none (g+1),h.set o (.cells ⟨(xs++ys).flatten,g+1,(if xs.length*sz=cs.length then wg else g+1),false⟩),?_,hgr _ (by simp; omega),⟨by simp,fun p k1 k2=>List.getElem?_set_ne (by omega)⟩,fun _=>⟨hgr _ h2,by simp⟩⟩
   simp only[if_neg h0,true_and]
   rw[if_neg (by simp only[Classical.not_not]; exact ⟨hl,hfl,hsz,hb⟩)]
   simp only[h4,and_self,if_true,h6]
   simp
theorem Gr.append {lo hi:Nat}{h:Heap}{sz bytes:Nat}{s x:AV}{xs ys:List (List AV)}(a:Gr lo hi h sz s xs)(b:Sl h sz x ys)(hsz:0<sz)(hb:0<bytes)(hl:(xs.length+ys.length)*bytes≤140737488355328)(hlo:lo≤h.length)(hhi:hi≤h.length) :
  ∃s' h',apnd sz bytes s x h=some (s',h')∧Gr lo h'.length h' sz s' (xs++ys)∧Fr lo hi h h':=
 let ⟨s',h',h1,h2,h3,_⟩:=a.appendS b hsz hb hl hlo hhi
 ⟨s',h',h1,h2,h3⟩
theorem Gr.append1 {lo hi:Nat}{h:Heap}{sz bytes:Nat}{s:AV}{xs:List (List AV)}(a:Gr lo hi h sz s xs){v:List AV}(hv:v.length=sz)(hsz:0<sz)(hb:0<bytes)(hl:(xs.length+1)*bytes≤140737488355328)(hlo:lo≤h.length)(hhi:hi≤h.length) :
  ∃s' h',apnd sz bytes s (.sl h.length 0 1 sz none 0) (mkObj h v)=some (s',h')∧Gr lo h'.length h' sz s' (xs++[v])∧Fr lo hi h h':=by
 have b:Sl (mkObj h v) sz (.sl h.length 0 1 sz none 0) [v]:=.inr ⟨h.length,0,none,0,_,rfl,by simp[mkObj]; rfl,Nat.le_refl _,by simp[List.take_of_length_le (Nat.le_of_eq hv)],by simp[hv]⟩
 obtain ⟨s',h',h1,h2,h3⟩:=(a.ext (Ext.push h _)).append b hsz hb (by simpa using hl) (by simp[mkObj]; omega) (by simp[mkObj]; omega)
 refine ⟨s',h',h1,h2,?_⟩
 exact (Fr.ofExt (lo:=lo) (hi:=hi) (Ext.push h _)).trans h3
theorem b7C {h:Heap}{sz bytes:Nat}{x:AV}{ys:List (List AV)}(b:Sl h sz x ys)(hsz:0<sz)(hb:0<bytes)(hl:ys.length*bytes≤140737488355328) :
  ∃s' h',apnd sz bytes (.sl h.length 0 0 sz none 0) x (mkObj h [])=some (s',h')∧Gr h.length h'.length h' sz s' ys∧Ext h h':=by
 have a:Gr h.length (h.length+1) (mkObj h []) sz (.sl h.length 0 0 sz none 0) []:=.inr ⟨h.length,0,0,[],Nat.le_refl _,by omega,rfl,by simp[mkObj],Nat.le_refl _,by simp,by simp⟩
 obtain ⟨s',h',h1,h2,h3⟩:=a.append (b.ext (Ext.push h _)) hsz hb (by simpa using hl) (by simp[mkObj]) (by simp[mkObj])
 exact ⟨s',h',h1,h2,h3.ext (Ext.push h _) (Nat.le_refl _)⟩
theorem Gr.make {h:Heap}{sz:Nat}{z:List AV}(hz:z.length=sz)(n:Nat):Gr h.length (h.length+1) (mkObj h (List.replicate n z).flatten) sz (.sl h.length 0 n sz none 0) (List.replicate n z):=by
 refine .inr ⟨h.length,0,0,(List.replicate n z).flatten,Nat.le_refl _,by omega,by simp,by simp[mkObj],Nat.le_refl _,?_,?_⟩
 ·refine List.take_of_length_le ?_
  rw[k5_ (sz:=sz)]
  ·exact Nat.le_refl _
  ·intro x hx; rw[(List.mem_replicate.1 hx).2]; exact hz
 ·intro x hx; rw[(List.mem_replicate.1 hx).2]; exact hz
theorem t0_ {zero:List AV}{sz bytes:Nat}{n:Int}(h:Heap)(h1:0≤n)(h3:n*bytes≤140737488355328)(h4:n≤140737488355328)(h5:zero.length=sz)(h6:zero.all AV.one=true) :
  ∃s h',mkSl zero sz bytes (I n) (I n) h=some (s,h')∧Gr h.length (h.length+1) h' sz s (List.replicate n.toNat zero)∧Ext h h'∧s≠.nils∧h'.length=h.length+1:=
 ⟨_,_,c2d h1 (Int.le_refl _) h3 h4 h5 h6,Gr.make h5 _,Ext.push h _,by simp,by simp[mkObj]⟩
theorem Gr.empty (h:Heap)(sz:Nat):Gr h.length (h.length+1) (mkObj h []) sz (.sl h.length 0 0 sz none 0) []:=
 .inr ⟨h.length,0,0,[],Nat.le_refl _,by omega,rfl,by simp[mkObj],Nat.le_refl _,by simp,by simp⟩
theorem Gr.lit {h:Heap}{sz:Nat}{v:List AV}(hv:v.length=sz):Gr h.length (h.length+1) (mkObj h v) sz (.sl h.length 0 1 sz none 0) [v]:=by
 refine .inr ⟨h.length,0,0,v,Nat.le_refl _,by omega,rfl,by simp[mkObj],Nat.le_refl _,?_,by simp[hv]⟩
 simp[List.take_of_length_le (Nat.le_of_eq hv)]
theorem Gr.take {lo hi:Nat}{h:Heap}{sz:Nat}{s:AV}{xs:List (List AV)}(a:Gr lo hi h sz s xs){n:Int}(h0:0≤n)(h1:n≤xs.length)(hs:s≠.nils):∃s',slSl sz s none (some (I n)) none=some s'∧Gr lo hi h sz s' (xs.take n.toNat)∧s'≠.nils:=by
 rcases a with ⟨rfl,rfl⟩|⟨o,g,wg,cs,k1,k2,rfl,k4,k5,k6,k7⟩
 ·exact absurd rfl hs
 ·refine ⟨.sl o 0 n.toNat sz none g,?_,.inr ⟨o,g,wg,cs,k1,k2,?_,k4,k5,?_,fun x hx=>k7 x (List.mem_of_mem_take hx)⟩,by simp⟩
  ·have:n.toNat≤xs.length:=by omega
   simp[slSl,bnd,h0,this]
  ·rw[List.length_take]; congr 1; omega
  ·rw[List.length_take,Nat.min_eq_left (by omega:n.toNat≤xs.length)]
   have h2:(cs.take (xs.length*sz)).take (n.toNat*sz)=xs.flatten.take (n.toNat*sz):=by rw[k6]
   rw[List.take_take,Nat.min_eq_left (Nat.mul_le_mul_right _ (by omega))] at h2
   rw[h2]
   have h3:xs=xs.take n.toNat++xs.drop n.toNat:=(List.take_append_drop _ _).symm
   conv=>lhs; rw[h3,List.flatten_append]
   have h4:(xs.take n.toNat).flatten.length=n.toNat*sz:=by
    rw[k5_ (sz:=sz) (fun x hx=>k7 x (List.mem_of_mem_take hx)),List.length_take,Nat.min_eq_left (by omega:n.toNat≤xs.length)]
   rw[List.take_append_of_le_length (by omega),List.take_of_length_le (by omega)]
theorem b3m:∀(vs cs:List AV) (off:Nat),(setAll cs off vs).length=cs.length
 |[],_,_=>rfl
 |v::vs,cs,off=>by simp[setAll,b3m vs]
theorem b0v:∀(vs cs:List AV) (off i:Nat),off+vs.length≤cs.length→(setAll cs off vs)[i]?=if off≤i∧i<off+vs.length then vs[i-off]? else cs[i]?
 |[],cs,off,i,_=>by
  rw[if_neg (by simp only[List.length_nil]; omega)]; rfl
 |v::vs,cs,off,i,h=>by
  simp only[List.length_cons] at h
  rw[setAll,b0v vs _ _ _ (by simp; omega)]
  by_cases h1:off+1≤i∧i<off+1+vs.length
  ·rw[if_pos h1,if_pos (by simp; omega)]
   rw[show i-off=(i-(off+1))+1 by omega,List.getElem?_cons_succ]
  ·rw[if_neg h1]
   by_cases h2:i=off
   ·subst h2
    rw[if_pos (by simp)]
    simp only[Nat.sub_self,List.getElem?_cons_zero]
    rw[List.getElem?_set_self (by omega)]
   ·rw[if_neg (by simp; omega),List.getElem?_set_ne (by omega)]
theorem b0E {sz:Nat}:∀{xs:List (List AV)},(∀x∈xs,x.length=sz)→∀(i j:Nat),j<sz→xs.flatten[i*sz+j]?=(xs[i]?).bind fun x=>x[j]?
 |[],_,i,j,_=>by simp
 |x::xs,hx,0,j,hj=>by
  have h1:=hx x (by simp)
  rw[List.flatten_cons,Nat.zero_mul,Nat.zero_add,List.getElem?_append_left (by omega)]
  rfl
 |x::xs,hx,i+1,j,hj=>by
  have h1:=hx x (by simp)
  rw[List.flatten_cons,List.getElem?_append_right (by rw[h1,Nat.add_mul]; omega),h1,show (i+1)*sz+j-sz=i*sz+j by rw[Nat.add_mul]; omega,b0E (fun y hy=>hx y (List.mem_cons_of_mem _ hy)) i j hj]
  rfl
theorem Gr.write {lo hi:Nat}{h:Heap}{sz:Nat}{s:AV}{xs:List (List AV)}(a:Gr lo hi h sz s xs){i:Int}(h0:0≤i){x:List AV}(hx:xs[i.toNat]?=some x)(d n:Nat){v:AV}(hv:v.cells.length=n)(hd:d+n≤sz)(h1:v.cells.all AV.one=true) :
  ∃h',stN n h (fldP d (elP sz s i)) v=some h'∧Gr lo hi h' sz s (xs.set i.toNat (setAll x d v.cells))∧Fr lo hi h h'∧h'.length=h.length:=by
 have hi':=(List.getElem?_eq_some_iff.1 hx).1
 rcases a with ⟨rfl,rfl⟩|⟨o,g,wg,cs,k1,k2,rfl,k4,k5,k6,k7⟩
 ·simp at hx
 have hlen:xs.length*sz≤cs.length:=by
  have:=congrArg List.length k6
  rw[List.length_take,k5_ k7] at this
  omega
 have hle:i.toNat*sz+sz≤xs.length*sz:=by
  have:(i.toNat+1)*sz≤xs.length*sz:=Nat.mul_le_mul_right _ hi'
  rw[Nat.add_mul,Nat.one_mul] at this; exact this
 have hxl:x.length=sz:=k7 x (List.mem_of_getElem? hx)
 have hox:=(List.getElem?_eq_some_iff.1 k4).1
 refine ⟨h.set o (.cells ⟨setAll cs (i.toNat*sz+d) v.cells,g,g,false⟩),?_,.inr ⟨o,g,g,setAll cs (i.toNat*sz+d) v.cells,k1,k2,by simp,by simp[hox],Nat.le_refl _,?_,?_⟩,Fr.set _ k1 k2 _,by simp⟩
 ·simp only[elP,fldP,Nat.zero_add,b1r,k4]
  exact a3h hv rfl (by omega) h1
 ·have hall:∀y∈xs.set i.toNat (setAll x d v.cells),y.length=sz:=by
   intro y hy
   rcases List.mem_or_eq_of_mem_set hy with hy|rfl
   ·exact k7 y hy
   ·rw[b3m,hxl]
  apply List.ext_getElem?
  intro p
  rw[List.getElem?_take]
  simp only[List.length_set]
  by_cases hsz:sz=0
  ·subst hsz
   rw[if_neg (by omega)]
   rw[List.getElem?_eq_none]
   rw[k5_ hall]; omega
  by_cases hp:p<xs.length*sz
  ·rw[if_pos hp]
   have hpe:p=p / sz*sz+p % sz:=by rw[Nat.mul_comm]; exact (Nat.div_add_mod p sz).symm
   have hpm:p % sz<sz:=Nat.mod_lt _ (by omega)
   have hpd:p / sz<xs.length:=(Nat.div_lt_iff_lt_mul (by omega)).2 hp
   rw[b0v _ _ _ _ (by omega)]
   conv=>rhs; rw[hpe]
   rw[b0E hall _ _ hpm]
   have hcs:cs[p]?=(xs[p / sz]?).bind fun y=>y[p % sz]?:=by
    rw[←b0E k7 _ _ hpm,←hpe,←k6,List.getElem?_take,if_pos hp]
   by_cases hpi:p / sz=i.toNat
   ·rw[hpi,List.getElem?_set_self hi']
    simp only[Option.bind_some]
    rw[b0v _ _ _ _ (by omega)]
    rw[hpi] at hpe
    by_cases hin:d≤p % sz∧p % sz<d+v.cells.length
    ·rw[if_pos hin,if_pos (by omega)]
     congr 1; omega
    ·rw[if_neg hin,if_neg (by omega),hcs,hpi,hx]; rfl
   ·rw[List.getElem?_set_ne (by omega),←hcs,if_neg]
    intro hc
    apply hpi
    have h2:i.toNat*sz≤p:=by omega
    have h3:p<(i.toNat+1)*sz:=by rw[Nat.add_mul]; omega
    exact Nat.le_antisymm (Nat.le_of_lt_succ ((Nat.div_lt_iff_lt_mul (by omega)).2 h3)) ((Nat.le_div_iff_mul_le (by omega)).2 h2)
  ·rw[if_neg hp,List.getElem?_eq_none]
   rw[k5_ hall,List.length_set]; omega
 ·intro y hy
  rcases List.mem_or_eq_of_mem_set hy with hy|rfl
  ·exact k7 y hy
  ·rw[b3m,hxl]
theorem b8I (sz:Nat)(s:AV)(i:Int):fldP 0 (elP sz s i)=elP sz s i:=by cases s<;>rfl
theorem Gr.write0 {lo hi:Nat}{h:Heap}{sz:Nat}{s:AV}{xs:List (List AV)}(a:Gr lo hi h sz s xs){i:Int}(h0:0≤i)(hx:i<xs.length){v:AV}(hv:v.cells.length=sz)(h1:v.cells.all AV.one=true) :
  ∃h',stN sz h (elP sz s i) v=some h'∧Gr lo hi h' sz s (xs.set i.toNat v.cells)∧Fr lo hi h h'∧h'.length=h.length:=by
 have hi':i.toNat<xs.length:=by omega
 obtain ⟨h',k1,k2,k3⟩:=a.write h0 (List.getElem?_eq_getElem hi') 0 sz hv (by omega) h1
 have hxl:(xs[i.toNat]).length=sz:=by
  rcases a with ⟨_,rfl⟩|⟨_,_,_,_,_,_,_,_,_,_,k7⟩
  ·simp at hi'
  ·exact k7 _ (List.getElem_mem hi')
 rw[b8I] at k1
 refine ⟨h',k1,?_,k3⟩
 have:setAll (xs[i.toNat]) 0 v.cells=v.cells:=by
  apply List.ext_getElem?
  intro j
  rw[b0v _ _ _ _ (by omega)]
  by_cases hj:j<v.cells.length
  ·rw[if_pos (by omega)]; rfl
  ·rw[if_neg (by omega),List.getElem?_eq_none (by omega),List.getElem?_eq_none (by omega)]
 rw[this] at k2
 exact k2
theorem Sl.cut {h:Heap}{sz:Nat}{s:AV}{xs:List (List AV)}(a:Sl h sz s xs):∃s',slSl sz s none (some (I xs.length)) (some (I xs.length))=some s'∧Sl h sz s' xs:=by
 rcases a with ⟨rfl,rfl⟩|⟨o,off,lim,g,c,rfl,h2,h3,h4,h5⟩
 ·exact ⟨.nils,rfl,.inl ⟨rfl,rfl⟩⟩
 ·refine ⟨.sl o off xs.length sz (some xs.length) g,?_,.inr ⟨o,off,some xs.length,g,c,rfl,h2,h3,h4,h5⟩⟩
  simp[slSl,bnd]
theorem Sl.map {h:Heap}{sz:Nat}{s:AV}{xs ys:List (List AV)}(a:Sl h sz s xs)(e:xs=ys):Sl h sz s ys:=e▸a
theorem Gr.cong {lo hi:Nat}{h:Heap}{sz:Nat}{s:AV}{xs ys:List (List AV)}(a:Gr lo hi h sz s xs)(e:xs=ys):Gr lo hi h sz s ys:=e▸a
def FrS (D:Nat→Prop)(h h':Heap):Prop:=h.length≤h'.length∧∀o,¬D o→o<h.length→h'[o]?=h[o]?
theorem FrS.len {D:Nat→Prop}{h h':Heap}(a:FrS D h h'):h.length≤h'.length:=a.1
theorem FrS.get {D:Nat→Prop}{h h':Heap}(a:FrS D h h'){o:Nat}(h1:¬D o)(h2:o<h.length):h'[o]?=h[o]?:=a.2 o h1 h2
theorem FrS.refl (D:Nat→Prop)(h:Heap):FrS D h h:=⟨Nat.le_refl _,fun _ _ _=>rfl⟩
theorem FrS.trans {D:Nat→Prop}{h h' h'':Heap}(a:FrS D h h')(b:FrS D h' h''):FrS D h h'':=
 ⟨Nat.le_trans a.1 b.1,fun o h1 h2=>(b.2 o h1 (Nat.lt_of_lt_of_le h2 a.1)).trans (a.2 o h1 h2)⟩
theorem FrS.mono {D D':Nat→Prop}{h h':Heap}(a:FrS D h h')(hd:∀o,o<h.length→D o→D' o):FrS D' h h':=⟨a.1,fun o h1 h2=>a.2 o (fun q=>h1 (hd o h2 q)) h2⟩
theorem Fr.s {lo hi:Nat}{h h':Heap}(a:Fr lo hi h h'):FrS (fun o=>lo≤o∧o<hi) h h':=⟨a.1,fun o h1 h2=>a.2 o (by omega) h2⟩
theorem FrS.ofExt {D:Nat→Prop}{h h':Heap}(e:Ext h h'):FrS D h h':=by
 rw[a3E] at e
 exact ⟨e.1,fun o _ ho=>e.2 o ho⟩
theorem FrS.ext {D:Nat→Prop}{h0 h h':Heap}(a:FrS D h h')(e:Ext h0 h)(hd:∀o,o<h0.length→¬D o):Ext h0 h':=by
 rw[a3E] at *
 exact ⟨Nat.le_trans e.1 a.1,fun o ho=>(a.2 o (hd o ho) (by omega)).trans (e.2 o ho)⟩
theorem Gr.frs {D:Nat→Prop}{lo hi:Nat}{h h':Heap}{sz:Nat}{s:AV}{xs:List (List AV)}(a:Gr lo hi h sz s xs)(f:FrS D h h')(hd:∀o,lo≤o→o<hi→¬D o):Gr lo hi h' sz s xs:=by
 rcases a with a|⟨o,g,wg,cs,h1,h2,h3,h4,h5⟩
 ·exact .inl a
 ·exact .inr ⟨o,g,wg,cs,h1,h2,h3,by rw[f.get (hd o h1 h2) (List.getElem?_eq_some_iff.1 h4).1]; exact h4,h5⟩
theorem At.row {h:Heap}{o:Nat}{cs:List AV}{g wg:Nat}{ro:Bool}(hr:h[o]?=some (.cells ⟨cs,g,wg,ro⟩)){g':Nat}(hg:wg≤g'){n:Nat}(hn:n=cs.length):At h (.ptr o 0 n g') cs:=
 ⟨o,0,n,g',_,rfl,by omega,hr,hg,by simp⟩
def Fam {κ:Type}(W:Nat→Prop)(h:Heap)(sz:Nat)(A:κ→Prop)(S:κ→AV)(X:κ→List (List AV)):Prop:=
 ∃ob:κ→Nat,(∀t,A t→Gr (ob t) (ob t+1) h sz (S t) (X t)∧(S t≠.nils→W (ob t)∧ob t<h.length))∧∀t t',A t→A t'→t≠t'→S t≠.nils→S t'≠.nils→ob t≠ob t'
theorem Fam.nil {κ:Type}(W:Nat→Prop)(h:Heap)(sz:Nat){A:κ→Prop}{S:κ→AV}{X:κ→List (List AV)}(hs:∀t,A t→S t=.nils∧X t=[]):Fam W h sz A S X:=
 ⟨fun _=>0,fun t ht=>⟨.inl (hs t ht),fun q=>absurd (hs t ht).1 q⟩,fun t t' ht _ _ q=>absurd (hs t ht).1 q⟩
theorem Fam.mono {κ:Type}{W W':Nat→Prop}{h:Heap}{sz:Nat}{A:κ→Prop}{S:κ→AV}{X:κ→List (List AV)}(f:Fam W h sz A S X)(hh:∀o,o<h.length→W o→W' o):Fam W' h sz A S X:=by
 obtain ⟨ob,h1,h2⟩:=f
 exact ⟨ob,fun t ht=>⟨(h1 t ht).1,fun q=>⟨hh _ ((h1 t ht).2 q).2 ((h1 t ht).2 q).1,((h1 t ht).2 q).2⟩⟩,h2⟩
theorem Fam.sl {κ:Type}{W:Nat→Prop}{h:Heap}{sz:Nat}{A:κ→Prop}{S:κ→AV}{X:κ→List (List AV)}(f:Fam W h sz A S X){t:κ}(ht:A t):Sl h sz (S t) (X t):=by
 obtain ⟨ob,h1,_⟩:=f
 exact (h1 t ht).1.sl
theorem Fam.congr {κ:Type}{W:Nat→Prop}{h:Heap}{sz:Nat}{A:κ→Prop}{S S':κ→AV}{X X':κ→List (List AV)}(f:Fam W h sz A S X)(he:∀t,A t→S' t=S t∧X' t=X t):Fam W h sz A S' X':=by
 obtain ⟨ob,h1,h2⟩:=f
 refine ⟨ob,fun t ht=>?_,fun t t' ht ht'=>?_⟩
 ·rw[(he t ht).1,(he t ht).2]; exact h1 t ht
 ·rw[(he t ht).1,(he t' ht').1]; exact h2 t t' ht ht'
theorem Fam.frs {κ:Type}{W:Nat→Prop}{h h':Heap}{sz:Nat}{A:κ→Prop}{S:κ→AV}{X:κ→List (List AV)}(f:Fam W h sz A S X){D:Nat→Prop}(fr:FrS D h h')(hd:∀o,o<h.length→W o→¬D o):Fam W h' sz A S X:=by
 obtain ⟨ob,h1,h2⟩:=f
 refine ⟨ob,fun t ht=>?_,h2⟩
 obtain ⟨h3,h4⟩:=h1 t ht
 by_cases hn:S t=.nils
 ·refine ⟨?_,fun q=>absurd hn q⟩
  rcases h3 with h3|⟨o,g,wg,cs,_,_,q,_⟩
  ·exact .inl h3
  ·rw[hn] at q; cases q
 ·obtain ⟨h5,h6⟩:=h4 hn
  exact ⟨h3.frs fr fun o k1 k2=>by
   obtain rfl:o=ob t:=by omega
   exact hd _ h6 h5,fun _=>⟨h5,Nat.lt_of_lt_of_le h6 fr.len⟩⟩
theorem Gr.agree {lo hi:Nat}{h h':Heap}{sz:Nat}{s:AV}{xs:List (List AV)}(a:Gr lo hi h sz s xs)(hag:∀o,lo≤o→o<hi→o<h.length→h'[o]?=h[o]?):Gr lo hi h' sz s xs:=by
 rcases a with a|⟨o,g,wg,cs,h1,h2,h3,h4,h5⟩
 ·exact .inl a
 ·exact .inr ⟨o,g,wg,cs,h1,h2,h3,by rw[hag o h1 h2 (List.getElem?_eq_some_iff.1 h4).1]; exact h4,h5⟩
theorem Fam.slA {κ:Type}{W:Nat→Prop}{h h':Heap}{sz:Nat}{A:κ→Prop}{S:κ→AV}{X:κ→List (List AV)}(f:Fam W h sz A S X){t:κ}(ht:A t)(hag:∀o,W o→o<h.length→h'[o]?=h[o]?):Sl h' sz (S t) (X t):=by
 obtain ⟨ob,h1,_⟩:=f
 obtain ⟨h2,h3⟩:=h1 t ht
 by_cases hn:S t=.nils
 ·rcases h2 with h2|⟨o,g,wg,cs,_,_,q,_⟩
  ·exact .inl h2
  ·rw[hn] at q; cases q
 ·obtain ⟨h4,h5⟩:=h3 hn
  exact (h2.agree fun o k1 k2 k3=>by
   obtain rfl:o=ob t:=by omega
   exact hag _ h4 k3).sl
theorem Gr.nnil {lo hi:Nat}{h:Heap}{sz:Nat}{s:AV}{xs:List (List AV)}(a:Gr lo hi h sz s xs)(hx:xs≠[]):s≠.nils:=by
 rcases a with ⟨_,q⟩|⟨o,g,wg,cs,_,_,q,_⟩
 ·exact absurd q hx
 ·rw[q]; simp
theorem Fam.append {κ:Type}[DecidableEq κ]{W:Nat→Prop}{h:Heap}{sz bytes:Nat}{A:κ→Prop}{S:κ→AV}{X:κ→List (List AV)}(f:Fam W h sz A S X){t:κ}(ht:A t){x:AV}{ys:List (List AV)}(b:Sl h sz x ys)(hys:ys≠[])(hsz:0<sz)(hb:0<bytes)(hl:((X t).length+ys.length)*bytes≤140737488355328) :
  ∃s' h',apnd sz bytes (S t) x h=some (s',h')∧s'.one=true∧Fam (fun o=>W o∨h.length≤o) h' sz A (fun t'=>if t'=t then s' else S t') (fun t'=>if t'=t then X t++ys else X t')∧FrS W h h':=by
 obtain ⟨ob,h1,h2⟩:=f
 obtain ⟨h3,h4⟩:=h1 t ht
 have hne:X t++ys≠[]:=by simp[hys]
 by_cases hn:S t=.nils
 ·have hx:X t=[]:=by
   rcases h3 with h3|⟨o,g,wg,cs,_,_,q,_⟩
   ·exact h3.2
   ·rw[hn] at q; cases q
  obtain ⟨s',h',k1,k2,k3⟩:=(Gr.nil h.length h.length h sz).append b hsz hb (by rw[hx] at hl; exact hl) (Nat.le_refl _) (Nat.le_refl _)
  rw[List.nil_append] at k2
  have hs':=k2.nnil hys
  have hfr:FrS (fun o=>h.length≤o) h h':=k3.s.mono fun o q1 q2=>q2.1
  refine ⟨s',h',by rw[hn]; exact k1,k2.sl.one,?_,hfr.mono fun o q1 q2=>by omega⟩
  rcases k2 with ⟨q,_⟩|⟨o,g,wg,cs,m1,m2,m3⟩
  ·exact absurd q hs'
  ·refine ⟨fun t'=>if t'=t then o else ob t',fun t' ht'=>?_,fun t1 t2 a1 a2 hne12 n1 n2=>?_⟩
   ·by_cases htt:t'=t
    ·subst htt
     simp only[if_true,hx,List.nil_append]
     exact ⟨.inr ⟨o,g,wg,cs,Nat.le_refl _,by omega,m3⟩,fun _=>⟨.inr m1,m2⟩⟩
    ·simp only[if_neg htt]
     obtain ⟨j1,j2⟩:=h1 t' ht'
     by_cases hn':S t'=.nils
     ·refine ⟨?_,fun q=>absurd hn' q⟩
      rcases j1 with j1|⟨o,g,wg,cs,_,_,q,_⟩
      ·exact .inl j1
      ·rw[hn'] at q; cases q
     ·obtain ⟨j3,j4⟩:=j2 hn'
      exact ⟨j1.frs hfr fun o k1 k2=>by omega,fun _=>⟨.inl j3,Nat.lt_of_lt_of_le j4 hfr.len⟩⟩
   ·by_cases e1:t1=t
    ·subst e1
     have e2:t2≠t1:=fun q=>hne12 q.symm
     simp only[if_true,if_neg e2] at n1 n2 ⊢
     have:=((h1 t2 a2).2 n2).2
     omega
    ·by_cases e2:t2=t
     ·subst e2
      simp only[if_true,if_neg e1] at n1 n2 ⊢
      have:=((h1 t1 a1).2 n1).2
      omega
     ·simp only[if_neg e1,if_neg e2] at n1 n2 ⊢
      exact h2 t1 t2 a1 a2 hne12 n1 n2
 ·obtain ⟨h5,h6⟩:=h4 hn
  obtain ⟨s',h',k1,k2,k3,k4⟩:=h3.appendS b hsz hb hl (by omega) (by omega)
  have hs':=k2.nnil hne
  have hfr:FrS (fun o=>o=ob t) h h':=k3.s.mono fun o q1 q2=>by omega
  refine ⟨s',h',k1,k2.sl.one,?_,hfr.mono fun o q1 q2=>q2▸h5⟩
  refine ⟨ob,fun t' ht'=>?_,fun t1 t2 a1 a2 hne12 n1 n2=>?_⟩
  ·by_cases htt:t'=t
   ·subst htt
    simp only[if_true]
    exact ⟨(k4 hn).1,fun _=>⟨.inl h5,Nat.lt_of_lt_of_le h6 hfr.len⟩⟩
   ·simp only[if_neg htt]
    obtain ⟨j1,j2⟩:=h1 t' ht'
    by_cases hn':S t'=.nils
    ·refine ⟨?_,fun q=>absurd hn' q⟩
     rcases j1 with j1|⟨o,g,wg,cs,_,_,q,_⟩
     ·exact .inl j1
     ·rw[hn'] at q; cases q
    ·obtain ⟨j3,j4⟩:=j2 hn'
     have:=h2 t' t ht' ht htt hn' hn
     exact ⟨j1.frs hfr fun o k1 k2=>by omega,fun _=>⟨.inl j3,Nat.lt_of_lt_of_le j4 hfr.len⟩⟩
  ·refine h2 t1 t2 a1 a2 hne12 ?_ ?_
   ·by_cases e1:t1=t
    ·rw[e1]; exact hn
    ·simpa [e1] using n1
   ·by_cases e1:t2=t
    ·rw[e1]; exact hn
    ·simpa [e1] using n2
theorem Gr.point {lo hi:Nat}{h:Heap}{sz:Nat}{s:AV}{xs:List (List AV)}(a:Gr lo hi h sz s xs):∃o,(s≠.nils→lo≤o∧o<hi∧o<h.length)∧Gr o (o+1) h sz s xs:=by
 rcases a with a|⟨o,g,wg,cs,h1,h2,h3,h4,h5⟩
 ·exact ⟨0,fun q=>absurd a.1 q,.inl a⟩
 ·exact ⟨o,fun _=>⟨h1,h2,(List.getElem?_eq_some_iff.1 h4).1⟩,.inr ⟨o,g,wg,cs,Nat.le_refl _,by omega,h3,h4,h5⟩⟩
theorem Gr.isNil {lo hi:Nat}{h:Heap}{sz:Nat}{xs:List (List AV)}(a:Gr lo hi h sz .nils xs):xs=[]:=by
 rcases a with a|⟨o,g,wg,cs,_,_,q,_⟩
 ·exact a.2
 ·cases q
theorem Gr.appP {o:Nat}{h:Heap}{sz bytes:Nat}{s x:AV}{xs ys:List (List AV)}(a:Gr o (o+1) h sz s xs)(ho:s≠.nils→o<h.length)(b:Sl h sz x ys)(hsz:0<sz)(hb:0<bytes)(hl:(xs.length+ys.length)*bytes≤140737488355328) :
  ∃s' h' o',apnd sz bytes s x h=some (s',h')∧Gr o' (o'+1) h' sz s' (xs++ys)∧(s'≠.nils→((o'=o∧s≠.nils)∨h.length≤o')∧o'<h'.length)∧FrS (fun p=>s≠.nils∧p=o) h h':=by
 by_cases hn:s=.nils
 ·subst hn
  have:=a.isNil
  subst this
  obtain ⟨s',h',k1,k2,k3⟩:=(Gr.nil h.length h.length h sz).append b hsz hb hl (Nat.le_refl _) (Nat.le_refl _)
  obtain ⟨o',p1,p2⟩:=k2.point
  exact ⟨s',h',o',k1,p2,fun q=>⟨.inr (p1 q).1,(p1 q).2.2⟩,k3.s.mono fun p _ q=>by omega⟩
 ·have ho':=ho hn
  obtain ⟨s',h',k1,k2,k3,k4⟩:=a.appendS b hsz hb hl (by omega) (by omega)
  have:=k3.len
  exact ⟨s',h',o,k1,(k4 hn).1,fun q=>⟨.inl ⟨rfl,hn⟩,by omega⟩,k3.s.mono fun p _ q=>⟨hn,by omega⟩⟩
end Go.Gm
namespace Go.Gm
theorem or_i {a b:Nat}(ha:a<2 ^ 62)(hb:b<2 ^ 62):binV .or .scalar (I a) (I b)=some (I ((a ||| b:Nat):Int)):=by
 show some (AV.int .i64 (bitsI .or .i64 a b))=_
 have h:a ||| b<2 ^ 62:=Nat.or_lt_two_pow ha hb
 have:bitsI .or .i64 a b=((a ||| b:Nat):Int):=by
  have key:(BitVec.ofInt 64 (a:Int) ||| BitVec.ofInt 64 (b:Int)).toNat=a ||| b:=by
   rw[BitVec.ofInt_natCast,BitVec.ofInt_natCast,BitVec.toNat_or,BitVec.toNat_ofNat,BitVec.toNat_ofNat,Nat.mod_eq_of_lt (by omega),Nat.mod_eq_of_lt (by omega)]
  show IntKind.i64.wrap ((BitVec.ofInt 64 (a:Int) ||| BitVec.ofInt 64 (b:Int)).toNat:Int)=_
  rw[key]
  exact s9_ (by omega) (by omega)
 rw[this]
theorem and_i {a b:Nat}(ha:a<2 ^ 62)(hb:b<2 ^ 62):binV .and .scalar (I a) (I b)=some (I ((a &&& b:Nat):Int)):=by
 show some (AV.int .i64 (bitsI .and .i64 a b))=_
 have h:a &&& b<2 ^ 62:=Nat.and_lt_two_pow _ hb
 have:bitsI .and .i64 a b=((a &&& b:Nat):Int):=by
  have key:(BitVec.ofInt 64 (a:Int) &&& BitVec.ofInt 64 (b:Int)).toNat=a &&& b:=by
   rw[BitVec.ofInt_natCast,BitVec.ofInt_natCast,BitVec.toNat_and,BitVec.toNat_ofNat,BitVec.toNat_ofNat,Nat.mod_eq_of_lt (by omega),Nat.mod_eq_of_lt (by omega)]
  show IntKind.i64.wrap ((BitVec.ofInt 64 (a:Int) &&& BitVec.ofInt 64 (b:Int)).toNat:Int)=_
  rw[key]
  exact s9_ (by omega) (by omega)
 rw[this]
theorem shl_i {k:IntKind}{m:Int}(h0:0≤m)(h1:m<62):binV .shl .scalar (I 1) (.int k m)=some (I ((2 ^ m.toNat:Nat):Int)):=by
 show shiftI .shl .i64 1 m=_
 simp only[shiftI]
 rw[if_neg (by omega)]
 have h2:min m.toNat IntKind.i64.bits=m.toNat:=by
  show min m.toNat 64=_; omega
 have h3:2 ^ m.toNat≤2 ^ 62:=Nat.pow_le_pow_right (by omega) (by omega)
 rw[h2]
 congr 2
 rw[Int.one_mul]
 have h4:((2:Int) ^ m.toNat)=((2 ^ m.toNat:Nat):Int):=by norm_cast
 rw[h4]
 generalize 2 ^ m.toNat=x at h3
 exact s9_ (by omega) (by omega)
theorem shr_i {k:IntKind}{s:Nat}{m:Int}(h0:0≤m)(h1:m≤64):binV .shr .scalar (I s) (.int k m)=some (I ((s >>> m.toNat:Nat):Int)):=by
 show shiftI .shr .i64 s m=_
 simp only[shiftI]
 rw[if_neg (by omega)]
 have h2:min m.toNat IntKind.i64.bits=m.toNat:=by
  show min m.toNat 64=_; omega
 rw[h2,Nat.shiftRight_eq_div_pow]
 congr 2
 have h4:((2:Int) ^ m.toNat)=((2 ^ m.toNat:Nat):Int):=by norm_cast
 rw[h4]
 generalize 2 ^ m.toNat=x
 rw[Int.fdiv_eq_ediv_of_nonneg _ (by omega)]
 rfl
theorem a7c {n:Int}(h0:0≤n)(h1:n<9223372036854775808):convV .u64 (I n)=some (.int .u64 n):=by
 show some (AV.int .u64 (IntKind.u64.wrap n))=_
 congr 2
 simp[IntKind.wrap,IntKind.bits,IntKind.signed]
 omega
theorem ixA_i {n sz:Nat}{m:Option Nat}{cs:List AV}{i:Int}(h0:0≤i)(h1:i<n):ixA n sz m (.agg cs) (I i)=partL cs (i.toNat*sz) m:=by
 simp[ixA,h0,h1]
theorem b7D {s:Nat}{m:Nat}:((s >>> m) &&& 1)=if s.testBit m then 1 else 0:=by
 have:=Nat.testBit_eq_decide_div_mod_eq (x:=s) (i:=m)
 rw[Nat.and_one_is_mod,Nat.shiftRight_eq_div_pow,this]
 by_cases h:s / 2 ^ m % 2=1
 ·simp[h]
 ·simp[h]; omega
theorem bit_t {s:Nat}{m:Int}(h0:0≤m)(hb:s.testBit m.toNat=true):binV .eql .scalar (I (((s >>> m.toNat) &&& 1:Nat):Int)) (I 1)=some (.bool true):=by
 rw[b7D,hb]; rfl
theorem bit_f {s:Nat}{m:Int}(h0:0≤m)(hb:s.testBit m.toNat=false):binV .eql .scalar (I (((s >>> m.toNat) &&& 1:Nat):Int)) (I 1)=some (.bool false):=by
 rw[b7D,hb]; rfl
end Go.Gm
namespace Go.Gm
def ltI (x y:Int × Int):Prop:=x.2<y.2∨(x.2=y.2∧x.1<y.1)
instance (x y:Int × Int):Decidable (ltI x y):=by unfold ltI; exact inferInstance
def par (i:Int):Int:=(i-1) / 2
def sw (xs:List (Int × Int))(i j:Int):List (Int × Int):=(xs.set i.toNat (gi xs j)).set j.toNat (gi xs i)
theorem t1_ {α:Type}[Inhabited α]{xs:List α}{i j:Int}(h0:0≤i)(h1:i<xs.length)(hj:0≤j)(x:α):gi (xs.set i.toNat x) j=if j=i then x else gi xs j:=by
 simp only[gi,List.getD_eq_getElem?_getD]
 by_cases h:j=i
 ·subst h
  rw[if_pos rfl,List.getElem?_set_self (by omega)]; rfl
 ·rw[if_neg h,List.getElem?_set_ne (by omega)]
theorem a7u (xs:List (Int × Int))(i j:Int):(sw xs i j).length=xs.length:=by simp[sw]
theorem gi_sw {xs:List (Int × Int)}{i j:Int}(i0:0≤i)(i1:i<xs.length)(j0:0≤j)(j1:j<xs.length){p:Int}(hp:0≤p) :
  gi (sw xs i j) p=if p=j then gi xs i else if p=i then gi xs j else gi xs p:=by
 rw[sw,t1_ j0 (by simp; exact j1) hp,t1_ i0 i1 hp]
def Hp (n:Int)(xs:List (Int × Int)):Prop:=∀i:Int,0<i→i<n→¬ltI (gi xs i) (gi xs (par i))
structure UpI (n:Int) (xs:List (Int × Int)) (j:Int):Prop where
 a:∀i,0<i→i<n→i≠j→¬ltI (gi xs i) (gi xs (par i))
 b:∀c,0<c→c<n→par c=j→0<j→¬ltI (gi xs c) (gi xs (par j))
structure DnI (n:Int) (xs:List (Int × Int)) (i:Int):Prop where
 a:∀c,0<c→c<n→par c≠i→¬ltI (gi xs c) (gi xs (par c))
 b:∀c,0<c→c<n→par c=i→0<i→¬ltI (gi xs c) (gi xs (par i))
theorem s2_ {i:Int}(h:0<i):0≤par i∧par i<i:=by unfold par; omega
theorem UpI.done {n:Int}{xs:List (Int × Int)}{j:Int}(u:UpI n xs j)(h:j=0∨¬ltI (gi xs j) (gi xs (par j))):Hp n xs:=by
 intro i i0 i1
 by_cases hij:i=j
 ·subst hij
  rcases h with h|h
  ·omega
  ·exact h
 ·exact u.a i i0 i1 hij
theorem UpI.swap {n:Int}{xs:List (Int × Int)}{j:Int}(u:UpI n xs j)(j0:0<j)(j1:j<n)(hn:n≤xs.length)(h:ltI (gi xs j) (gi xs (par j))):UpI n (sw xs (par j) j) (par j):=by
 have hp:=s2_ j0
 have g:∀p,0≤p→gi (sw xs (par j) j) p=if p=j then gi xs (par j) else if p=par j then gi xs j else gi xs p:=fun p hp'=>gi_sw hp.1 (by omega) (by omega) (by omega) hp'
 constructor
 ·intro p p0 p1 hpi
  have hpp:=s2_ p0
  rw[g p (by omega),g (par p) hpp.1]
  by_cases e1:p=j
  ·subst e1
   rw[if_pos rfl,if_neg (by omega),if_pos rfl]
   unfold ltI at *; omega
  ·rw[if_neg e1,if_neg hpi]
   have ha:=u.a p p0 p1 e1
   by_cases e2:par p=j
   ·rw[if_pos e2]
    exact u.b p p0 p1 e2 j0
   ·rw[if_neg e2]
    by_cases e3:par p=par j
    ·rw[if_pos e3]
     rw[e3] at ha
     unfold ltI at *; omega
    ·rw[if_neg e3]; exact ha
 ·intro c c0 c1 hc hpj
  have hpp:=s2_ hpj
  have hcp:=s2_ c0
  rw[g c (by omega),g (par (par j)) hpp.1,if_neg (show ¬par (par j)=j by omega),if_neg (show ¬par (par j)=par j by omega)]
  have hi:=u.a (par j) hpj (by omega) (by omega)
  by_cases e1:c=j
  ·rw[if_pos e1]; exact hi
  ·rw[if_neg e1,if_neg (by omega)]
   have ha:=u.a c c0 c1 e1
   rw[hc] at ha
   unfold ltI at *; omega
theorem DnI.done {n:Int}{xs:List (Int × Int)}{i:Int}(u:DnI n xs i)(h:∀c,0<c→c<n→par c=i→¬ltI (gi xs c) (gi xs i)):Hp n xs:=by
 intro c c0 c1
 by_cases hci:par c=i
 ·rw[hci]; exact h c c0 c1 hci
 ·exact u.a c c0 c1 hci
theorem DnI.swap {n:Int}{xs:List (Int × Int)}{i j:Int}(u:DnI n xs i)(i0:0≤i)(hj:par j=i)(j0:0<j)(j1:j<n)(hn:n≤xs.length)(h:ltI (gi xs j) (gi xs i))(hs:∀c,0<c→c<n→par c=i→¬ltI (gi xs c) (gi xs j)):DnI n (sw xs i j) j:=by
 have hp:=s2_ j0
 have g:∀p,0≤p→gi (sw xs i j) p=if p=j then gi xs i else if p=i then gi xs j else gi xs p:=fun p hp'=>gi_sw i0 (by omega) (by omega) (by omega) hp'
 constructor
 ·intro c c0 c1 hc
  have hcp:=s2_ c0
  rw[g c (by omega),g (par c) hcp.1,if_neg hc]
  by_cases e1:par c=i
  ·rw[if_pos e1]
   by_cases e2:c=j
   ·rw[if_pos e2]; unfold ltI at *; omega
   ·rw[if_neg e2,if_neg (by omega)]
    exact hs c c0 c1 e1
  ·rw[if_neg e1]
   by_cases e2:c=j
   ·subst e2; exact absurd hj e1
   ·rw[if_neg e2]
    by_cases e3:c=i
    ·rw[if_pos e3]; subst e3
     exact u.b j j0 j1 hj c0
    ·rw[if_neg e3]; exact u.a c c0 c1 e1
 ·intro c c0 c1 hc hj0
  have hcp:=s2_ c0
  rw[hj,g c (by omega),g i i0,if_neg (show ¬i=j by omega),if_pos rfl,if_neg (by omega),if_neg (by omega)]
  have:=u.a c c0 c1 (by omega)
  rw[hc] at this; exact this
theorem Hp.root {n:Int}{xs:List (Int × Int)}(h:Hp n xs):∀(d:Nat) (i:Int),i≤d→0≤i→i<n→¬ltI (gi xs i) (gi xs 0)
 |0,i,hd,i0,i1=>by
  rw[show i=0 by omega]; unfold ltI; omega
 |d+1,i,hd,i0,i1=>by
  by_cases hi:i=0
  ·rw[hi]; unfold ltI; omega
  ·have hp:=s2_ (i:=i) (by omega)
   have h1:=h.root d (par i) (by omega) hp.1 (by omega)
   have h2:=h i (by omega) i1
   unfold ltI at *; omega
structure Rep (N:Nat) (xs:List (Int × Int)) (at':List Int) (M:List (Option Int)):Prop where
 la:at'.length=N
 lm:M.length=N
 a:∀i:Int,0≤i→i<xs.length→0≤(gi xs i).1∧(gi xs i).1<N∧gi at' (gi xs i).1=i
 b:∀id:Int,0≤id→id<N→(gi at' id = -1∧gi M id=none)∨(0≤gi at' id∧gi at' id<xs.length∧(gi xs (gi at' id)).1=id∧gi M id=some (gi xs (gi at' id)).2)
theorem Rep.inj {N:Nat}{xs:List (Int × Int)}{at':List Int}{M:List (Option Int)}(r:Rep N xs at' M){i j:Int}(i0:0≤i)(i1:i<xs.length)(j0:0≤j)(j1:j<xs.length)(h:(gi xs i).1=(gi xs j).1):i=j:=by
 have h1:=(r.a i i0 i1).2.2
 have h2:=(r.a j j0 j1).2.2
 rw[h] at h1
 omega
theorem Rep.swap {N:Nat}{xs:List (Int × Int)}{at':List Int}{M:List (Option Int)}(r:Rep N xs at' M){i j:Int}(i0:0≤i)(i1:i<xs.length)(j0:0≤j)(j1:j<xs.length) :
  Rep N (sw xs i j) ((at'.set (gi xs j).1.toNat i).set (gi xs i).1.toNat j) M:=by
 have ai:=r.a i i0 i1
 have aj:=r.a j j0 j1
 have la:=r.la
 have ga:∀id,0≤id→gi ((at'.set (gi xs j).1.toNat i).set (gi xs i).1.toNat j) id=if id=(gi xs i).1 then j else if id=(gi xs j).1 then i else gi at' id:=fun id h=>by
  rw[t1_ ai.1 (by simp; omega) h,t1_ aj.1 (by omega) h]
 have gx:∀p,0≤p→gi (sw xs i j) p=if p=j then gi xs i else if p=i then gi xs j else gi xs p:=fun p hp'=>gi_sw i0 i1 j0 j1 hp'
 refine ⟨by simp; exact la,r.lm,fun p p0 p1=>?_,fun id h0 h1=>?_⟩
 ·rw[a7u] at p1
  have ap:=r.a p p0 p1
  rw[gx p p0]
  by_cases e1:p=j
  ·rw[if_pos e1]
   refine ⟨ai.1,ai.2.1,?_⟩
   rw[ga _ ai.1,if_pos rfl,e1]
  ·rw[if_neg e1]
   by_cases e2:p=i
   ·rw[if_pos e2]
    refine ⟨aj.1,aj.2.1,?_⟩
    rw[ga _ aj.1]
    by_cases e3:(gi xs j).1=(gi xs i).1
    ·have:=r.inj j0 j1 i0 i1 e3; omega
    ·rw[if_neg e3,if_pos rfl,e2]
   ·rw[if_neg e2]
    refine ⟨ap.1,ap.2.1,?_⟩
    rw[ga _ ap.1,if_neg (fun q=>e2 (r.inj p0 p1 i0 i1 q)),if_neg (fun q=>e1 (r.inj p0 p1 j0 j1 q))]
    exact ap.2.2
 ·rw[ga id h0,a7u]
  rcases r.b id h0 h1 with ⟨h2,h3⟩|⟨h2,h3,h4,h5⟩
  ·left
   rw[if_neg (fun q=>by rw[q] at h2; omega),if_neg (fun q=>by rw[q] at h2; omega)]
   exact ⟨h2,h3⟩
  ·right
   by_cases e1:id=(gi xs i).1
   ·rw[if_pos e1,gx j j0,if_pos rfl]
    refine ⟨j0,j1,e1.symm,?_⟩
    rw[h5]
    have:gi at' id=i:=by rw[e1]; exact ai.2.2
    rw[this]
   ·rw[if_neg e1]
    by_cases e2:id=(gi xs j).1
    ·have hij:i≠j:=fun q=>e1 (by rw[q]; exact e2)
     rw[if_pos e2,gx i i0,if_neg hij,if_pos rfl]
     refine ⟨i0,i1,e2.symm,?_⟩
     rw[h5]
     have:gi at' id=j:=by rw[e2]; exact aj.2.2
     rw[this]
    ·rw[if_neg e2,gx _ h2]
     have hni:gi at' id≠i:=fun q=>by rw[q] at h4; exact e1 h4.symm
     have hnj:gi at' id≠j:=fun q=>by rw[q] at h4; exact e2 h4.symm
     rw[if_neg hnj,if_neg hni]
     exact ⟨h2,h3,h4,h5⟩
theorem a7d {α:Type}[Inhabited α]{xs:List α}{y:α}{i:Int}(h0:0≤i)(h1:i<xs.length):gi (xs++[y]) i=gi xs i:=by
 simp only[gi,List.getD_eq_getElem?_getD]
 rw[List.getElem?_append_left (by omega)]
theorem b6u {α:Type}[Inhabited α](xs:List α)(y:α):gi (xs++[y]) xs.length=y:=by
 simp[gi,List.getD_eq_getElem?_getD]
theorem b2h {α:Type}[Inhabited α]{xs:List α}{n:Nat}{i:Int}(h0:0≤i)(h1:i<n):gi (xs.take n) i=gi xs i:=by
 simp only[gi,List.getD_eq_getElem?_getD]
 rw[List.getElem?_take,if_pos (by omega)]
theorem Rep.push {N:Nat}{xs:List (Int × Int)}{at':List Int}{M:List (Option Int)}(r:Rep N xs at' M){id key:Int}(h0:0≤id)(h1:id<N)(hn:gi at' id = -1) :
  Rep N (xs++[(id,key)]) (at'.set id.toNat xs.length) (M.set id.toNat (some key)):=by
 have la:=r.la
 have lm:=r.lm
 have ga:∀p,0≤p→gi (at'.set id.toNat (xs.length:Int)) p=if p=id then (xs.length:Int) else gi at' p:=fun p hp=>t1_ h0 (by omega) hp _
 have gm:∀p,0≤p→gi (M.set id.toNat (some key)) p=if p=id then some key else gi M p:=fun p hp=>t1_ h0 (by omega) hp _
 refine ⟨by simp; exact la,by simp; exact lm,fun i i0 i1=>?_,fun p p0 p1=>?_⟩
 ·simp only[List.length_append,List.length_cons,List.length_nil] at i1
  by_cases hi:i=xs.length
  ·rw[hi,b6u]
   refine ⟨h0,h1,?_⟩
   rw[ga _ h0,if_pos rfl]
  ·rw[a7d i0 (by omega)]
   have h:=r.a i i0 (by omega)
   refine ⟨h.1,h.2.1,?_⟩
   rw[ga _ h.1,if_neg (fun q=>by rw[q] at h; omega)]
   exact h.2.2
 ·rw[ga p p0,gm p p0]
  by_cases hp:p=id
  ·right
   rw[if_pos hp,if_pos hp,b6u]
   exact ⟨by omega,by simp; omega,hp.symm,rfl⟩
  ·rw[if_neg hp,if_neg hp]
   rcases r.b p p0 p1 with h|⟨h2,h3,h4,h5⟩
   ·exact .inl h
   ·right
    rw[a7d h2 h3]
    exact ⟨h2,by simp; omega,h4,h5⟩
theorem Rep.pop {N:Nat}{xs:List (Int × Int)}{at':List Int}{M:List (Option Int)}(r:Rep N xs at' M){n:Nat}(hn:xs.length=n+1) :
  Rep N (xs.take n) (at'.set (gi xs n).1.toNat (-1)) (M.set (gi xs n).1.toNat none):=by
 have la:=r.la
 have lm:=r.lm
 have an:=r.a n (by omega) (by omega)
 have ga:∀p,0≤p→gi (at'.set (gi xs n).1.toNat (-1)) p=if p=(gi xs n).1 then -1 else gi at' p:=fun p hp=>t1_ an.1 (by omega) hp _
 have gm:∀p,0≤p→gi (M.set (gi xs n).1.toNat none) p=if p=(gi xs n).1 then none else gi M p:=fun p hp=>t1_ an.1 (by omega) hp _
 have hl:(xs.take n).length=n:=by simp; omega
 refine ⟨by simp; exact la,by simp; exact lm,fun i i0 i1=>?_,fun p p0 p1=>?_⟩
 ·rw[hl] at i1
  rw[b2h i0 i1]
  have h:=r.a i i0 (by omega)
  refine ⟨h.1,h.2.1,?_⟩
  rw[ga _ h.1,if_neg (fun q=>by have:=r.inj i0 (by omega) (show (0:Int)≤n by omega) (by omega) q; omega)]
  exact h.2.2
 ·rw[ga p p0,gm p p0,hl]
  by_cases hp:p=(gi xs n).1
  ·rw[if_pos hp,if_pos hp]; exact .inl ⟨rfl,rfl⟩
  ·rw[if_neg hp,if_neg hp]
   rcases r.b p p0 p1 with h|⟨h2,h3,h4,h5⟩
   ·exact .inl h
   ·right
    have:gi at' p≠n:=fun q=>by rw[q] at h4; exact hp h4.symm
    rw[b2h h2 (by omega)]
    exact ⟨h2,by omega,h4,h5⟩
theorem Rep.lower {N:Nat}{xs:List (Int × Int)}{at':List Int}{M:List (Option Int)}(r:Rep N xs at' M){id key:Int}(h0:0≤id)(h1:id<N)(hn:0≤gi at' id) :
  Rep N (xs.set (gi at' id).toNat (id,key)) at' (M.set id.toNat (some key)):=by
 have la:=r.la
 have lm:=r.lm
 obtain ⟨h2,h3,h4,h5⟩:0≤gi at' id∧gi at' id<xs.length∧(gi xs (gi at' id)).1=id∧gi M id=some (gi xs (gi at' id)).2:=(r.b id h0 h1).resolve_left (fun q=>by omega)
 have gx:∀p,0≤p→gi (xs.set (gi at' id).toNat (id,key)) p=if p=gi at' id then (id,key) else gi xs p:=fun p hp=>t1_ h2 h3 hp _
 have gm:∀p,0≤p→gi (M.set id.toNat (some key)) p=if p=id then some key else gi M p:=fun p hp=>t1_ h0 (by omega) hp _
 refine ⟨la,by simp; exact lm,fun i i0 i1=>?_,fun p p0 p1=>?_⟩
 ·simp only[List.length_set] at i1
  rw[gx i i0]
  by_cases hi:i=gi at' id
  ·rw[if_pos hi]; exact ⟨h0,h1,hi.symm⟩
  ·rw[if_neg hi]; exact r.a i i0 i1
 ·rw[gm p p0,List.length_set]
  by_cases hp:p=id
  ·right
   rw[if_pos hp,hp,gx _ h2,if_pos rfl]
   exact ⟨h2,h3,rfl,rfl⟩
  ·rw[if_neg hp]
   rcases r.b p p0 p1 with h|⟨k2,k3,k4,k5⟩
   ·exact .inl h
   ·right
    have:gi at' p≠gi at' id:=fun q=>by rw[q,h4] at k4; exact hp k4.symm
    rw[gx _ k2,if_neg this]
    exact ⟨k2,k3,k4,k5⟩
theorem Hp.lower {n:Int}{xs:List (Int × Int)}(h:Hp n xs){p:Int}(p0:0≤p)(p1:p<n)(hn:n≤xs.length){x:Int × Int}(hx:ltI x (gi xs p)):UpI n (xs.set p.toNat x) p∧∀c,0<c→c<n→par c=p→¬ltI (gi (xs.set p.toNat x) c) (gi (xs.set p.toNat x) p):=by
 have gx:∀q,0≤q→gi (xs.set p.toNat x) q=if q=p then x else gi xs q:=fun q hq=>t1_ p0 (by omega) hq _
 refine ⟨⟨fun i i0 i1 hi=>?_,fun c c0 c1 hc hp=>?_⟩,fun c c0 c1 hc=>?_⟩
 ·have hp:=s2_ i0
  rw[gx i (by omega),if_neg hi,gx _ hp.1]
  have:=h i i0 i1
  split
  ·rename_i hq
   rw[hq] at this
   unfold ltI at *; omega
  ·exact this
 ·have hcp:=s2_ c0
  have hpp:=s2_ hp
  rw[gx c (by omega),if_neg (by omega),gx _ hpp.1,if_neg (by omega)]
  have h1:=h c c0 c1
  have h2:=h p hp p1
  rw[hc] at h1
  unfold ltI at *; omega
 ·have hcp:=s2_ c0
  rw[gx c (by omega),if_neg (by omega),gx p p0,if_pos rfl]
  have h1:=h c c0 c1
  rw[hc] at h1
  unfold ltI at *; omega
theorem Hp.push {n:Nat}{xs:List (Int × Int)}(h:Hp n xs)(hn:xs.length=n)(x:Int × Int):UpI (n+1:Nat) (xs++[x]) n:=by
 refine ⟨fun i i0 i1 hi=>?_,fun c c0 c1 hc hp=>?_⟩
 ·have hp:=s2_ i0
  rw[a7d (by omega) (by omega),a7d hp.1 (by omega)]
  exact h i i0 (by omega)
 ·have:=s2_ c0
  omega
theorem Hp.begin {n:Nat}{xs:List (Int × Int)}(h:Hp (n+1:Nat) xs)(hn:xs.length=n+1):DnI n (sw xs 0 n) 0:=by
 have g:∀p,0≤p→gi (sw xs 0 n) p=if p=(n:Int) then gi xs 0 else if p=0 then gi xs n else gi xs p:=fun p hp'=>gi_sw (by omega) (by omega) (by omega) (by omega) hp'
 refine ⟨fun c c0 c1 hc=>?_,fun c c0 c1 hc hp=>by omega⟩
 have hcp:=s2_ c0
 rw[g c (by omega),if_neg (by omega),if_neg (by omega),g _ hcp.1,if_neg (by omega),if_neg hc]
 exact h c c0 (by omega)
end Go.Gm
namespace Go.Gm
theorem b8J (x:Bool):gdB (.bool true) true x=x:=rfl
theorem b8K (x:Bool):gdB (.bool false) false x=x:=rfl
theorem b8L (x:Bool):gdB (.bool true) false x=true:=rfl
theorem b8M (x:Bool):gdB (.bool false) true x=true:=rfl
theorem gdB_n (b x:Bool):gdB (.tup []) b x=true:=rfl
theorem beqB (b:Bool):(b == b)=true:=by cases b<;>rfl
theorem gB:type_of% (And.intro (And.intro (And.intro (And.intro (And.intro (And.intro (And.intro (@oa_some) (@oh_some)) (And.intro (@ob_some) (@cond2_true))) (And.intro (And.intro (@cond2_false) (@chk_true)) (And.intro (@gd_tt) (@gd_ft)))) (And.intro (And.intro (And.intro (@gd_ff) (@gd_tf)) (And.intro (@gd_n) (@b6o))) (And.intro (And.intro (@b8B) (@b8C)) (And.intro (@b3Y) (@b4N))))) (And.intro (And.intro (And.intro (And.intro (@Bool.and_true) (@b4O)) (And.intro (@List.nil_append.{0}) (@List.append_nil.{0}))) (And.intro (And.intro (@lss_t) (@lss_f)) (And.intro (@leq_t) (@leq_f)))) (And.intro (And.intro (And.intro (@gtr_t) (@gtr_f)) (And.intro (@geq_t) (@geq_f))) (And.intro (And.intro (@eql_t) (@eql_f)) (And.intro (@neq_t) (And.intro (@neq_f) (@add_i))))))) (And.intro (And.intro (And.intro (And.intro (And.intro (@sub_i) (@rem_i)) (And.intro (@quo_w) (@mul_w))) (And.intro (And.intro (@eql_b) (@neq_b)) (And.intro (@b8D) (@b8E)))) (And.intro (And.intro (And.intro (@a8S) (@b5J)) (And.intro (@b6p) (@b7u))) (And.intro (And.intro (@b7v) (@b6q)) (And.intro (@b8F) (@b7w))))) (And.intro (And.intro (And.intro (And.intro (@b8G) (@b7x)) (And.intro (@b8H) (@b7y))) (And.intro (And.intro (@b6r) (@b7z)) (And.intro (@b5K) (@b1r)))) (And.intro (And.intro (And.intro (@a3h) (@b6_)) (And.intro (@b2_) (@a4Q))) (And.intro (And.intro (@b0p) (@b0_)) (And.intro (@b6s) (And.intro (@b8z) (@Bool.not_true)))))))) (And.intro (And.intro (And.intro (And.intro (And.intro (And.intro (@Bool.not_false) (@a8N)) (And.intro (@b2d) (@b3K))) (And.intro (And.intro (@b3L) (@b4Q)) (And.intro (@b2e) (@b2f)))) (And.intro (And.intro (And.intro (@b3M) (@b3N)) (And.intro (@a0v) (@a8p))) (And.intro (And.intro (@b0q) (@b0r)) (And.intro (@b2g) (@a8q))))) (And.intro (And.intro (And.intro (And.intro (@a8r) (@b0s)) (And.intro (@b0t) (@b0u))) (And.intro (And.intro (@List.all_cons.{0}) (@List.all_nil.{0})) (And.intro (@List.getElem?_cons_zero.{0}) (@List.getElem?_cons_succ.{0})))) (And.intro (And.intro (And.intro (@List.getD_cons_zero.{0}) (@List.getD_cons_succ.{0})) (And.intro (@List.set_cons_zero.{0}) (@List.set_cons_succ.{0}))) (And.intro (And.intro (@List.drop_zero.{0}) (@List.drop_succ_cons.{0})) (And.intro (@List.take_succ_cons.{0}) (And.intro (@List.take_zero.{0}) (@List.length_cons.{0}))))))) (And.intro (And.intro (And.intro (And.intro (And.intro (@List.length_nil.{0}) (@List.length_append.{0})) (And.intro (@List.length_set.{0}) (@Nat.zero_add))) (And.intro (And.intro (@Nat.add_zero) (@Nat.sub_self)) (And.intro (@Nat.add_sub_cancel_left) (@Int.toNat_natCast)))) (And.intro (And.intro (And.intro (@Nat.mul_one) (@and_self)) (And.intro (@if_true.{1}) (@if_false.{1}))) (And.intro (And.intro (@b6t) (@b7B)) (And.intro (@b7A) (And.intro (@Option.map_some.{0,0}) (@b4P)))))) (And.intro (And.intro (And.intro (And.intro (@b3Z) (@b5L)) (And.intro (@bsl_i) (@or_i))) (And.intro (And.intro (@and_i) (@shl_i)) (And.intro (@shr_i) (@a7c)))) (And.intro (And.intro (And.intro (@bit_t) (@bit_f)) (And.intro (@ixA_i) (@b8J))) (And.intro (And.intro (@b8K) (@b8L)) (And.intro (@b8M) (And.intro (@gdB_n) (@beqB))))))))):=And.intro (And.intro (And.intro (And.intro (And.intro (And.intro (And.intro (@oa_some) (@oh_some)) (And.intro (@ob_some) (@cond2_true))) (And.intro (And.intro (@cond2_false) (@chk_true)) (And.intro (@gd_tt) (@gd_ft)))) (And.intro (And.intro (And.intro (@gd_ff) (@gd_tf)) (And.intro (@gd_n) (@b6o))) (And.intro (And.intro (@b8B) (@b8C)) (And.intro (@b3Y) (@b4N))))) (And.intro (And.intro (And.intro (And.intro (@Bool.and_true) (@b4O)) (And.intro (@List.nil_append.{0}) (@List.append_nil.{0}))) (And.intro (And.intro (@lss_t) (@lss_f)) (And.intro (@leq_t) (@leq_f)))) (And.intro (And.intro (And.intro (@gtr_t) (@gtr_f)) (And.intro (@geq_t) (@geq_f))) (And.intro (And.intro (@eql_t) (@eql_f)) (And.intro (@neq_t) (And.intro (@neq_f) (@add_i))))))) (And.intro (And.intro (And.intro (And.intro (And.intro (@sub_i) (@rem_i)) (And.intro (@quo_w) (@mul_w))) (And.intro (And.intro (@eql_b) (@neq_b)) (And.intro (@b8D) (@b8E)))) (And.intro (And.intro (And.intro (@a8S) (@b5J)) (And.intro (@b6p) (@b7u))) (And.intro (And.intro (@b7v) (@b6q)) (And.intro (@b8F) (@b7w))))) (And.intro (And.intro (And.intro (And.intro (@b8G) (@b7x)) (And.intro (@b8H) (@b7y))) (And.intro (And.intro (@b6r) (@b7z)) (And.intro (@b5K) (@b1r)))) (And.intro (And.intro (And.intro (@a3h) (@b6_)) (And.intro (@b2_) (@a4Q))) (And.intro (And.intro (@b0p) (@b0_)) (And.intro (@b6s) (And.intro (@b8z) (@Bool.not_true)))))))) (And.intro (And.intro (And.intro (And.intro (And.intro (And.intro (@Bool.not_false) (@a8N)) (And.intro (@b2d) (@b3K))) (And.intro (And.intro (@b3L) (@b4Q)) (And.intro (@b2e) (@b2f)))) (And.intro (And.intro (And.intro (@b3M) (@b3N)) (And.intro (@a0v) (@a8p))) (And.intro (And.intro (@b0q) (@b0r)) (And.intro (@b2g) (@a8q))))) (And.intro (And.intro (And.intro (And.intro (@a8r) (@b0s)) (And.intro (@b0t) (@b0u))) (And.intro (And.intro (@List.all_cons.{0}) (@List.all_nil.{0})) (And.intro (@List.getElem?_cons_zero.{0}) (@List.getElem?_cons_succ.{0})))) (And.intro (And.intro (And.intro (@List.getD_cons_zero.{0}) (@List.getD_cons_succ.{0})) (And.intro (@List.set_cons_zero.{0}) (@List.set_cons_succ.{0}))) (And.intro (And.intro (@List.drop_zero.{0}) (@List.drop_succ_cons.{0})) (And.intro (@List.take_succ_cons.{0}) (And.intro (@List.take_zero.{0}) (@List.length_cons.{0}))))))) (And.intro (And.intro (And.intro (And.intro (And.intro (@List.length_nil.{0}) (@List.length_append.{0})) (And.intro (@List.length_set.{0}) (@Nat.zero_add))) (And.intro (And.intro (@Nat.add_zero) (@Nat.sub_self)) (And.intro (@Nat.add_sub_cancel_left) (@Int.toNat_natCast)))) (And.intro (And.intro (And.intro (@Nat.mul_one) (@and_self)) (And.intro (@if_true.{1}) (@if_false.{1}))) (And.intro (And.intro (@b6t) (@b7B)) (And.intro (@b7A) (And.intro (@Option.map_some.{0,0}) (@b4P)))))) (And.intro (And.intro (And.intro (And.intro (@b3Z) (@b5L)) (And.intro (@bsl_i) (@or_i))) (And.intro (And.intro (@and_i) (@shl_i)) (And.intro (@shr_i) (@a7c)))) (And.intro (And.intro (And.intro (@bit_t) (@bit_f)) (And.intro (@ixA_i) (@b8J))) (And.intro (And.intro (@b8K) (@b8L)) (And.intro (@b8M) (And.intro (@gdB_n) (@beqB))))))))
theorem sA0 (cs:List AV)(off:Nat):setAll cs off []=cs:=rfl
theorem sA1 (cs:List AV)(off:Nat)(v:AV)(vs:List AV):setAll cs off (v::vs)=setAll (cs.set off v) (off+1) vs:=rfl
theorem pL0 (cs:List AV)(off:Nat):partL cs off none=cs[off]?:=rfl
theorem pL1 (cs:List AV)(off n:Nat):partL cs off (some n)=some (.agg ((cs.drop off).take n)):=rfl
theorem fV1 (cs:List AV)(off:Nat)(n:Option Nat):fldV off n (.agg cs)=partL cs off n:=rfl
theorem gC:type_of% (And.intro gB (And.intro (And.intro sA0 sA1) (And.intro (And.intro pL0 pL1) fV1))):=And.intro gB (And.intro (And.intro sA0 sA1) (And.intro (And.intro pL0 pL1) fV1))
theorem gL:type_of% (And.intro (And.intro (@List.length_append.{0}) (And.intro (@List.length_set.{0}) (@List.length_cons.{0}))) (And.intro (And.intro (@List.length_nil.{0}) (@List.length_map.{0,0})) (And.intro (@List.length_replicate.{0}) (@b0_)))):=And.intro (And.intro (@List.length_append.{0}) (And.intro (@List.length_set.{0}) (@List.length_cons.{0}))) (And.intro (And.intro (@List.length_nil.{0}) (@List.length_map.{0,0})) (And.intro (@List.length_replicate.{0}) (@b0_)))
theorem gA:type_of% (And.intro (And.intro (And.intro (And.intro (@List.all_cons.{0}) (And.intro (@List.all_nil.{0}) (@a8N))) (And.intro (@b2d) (And.intro (@b3K) (@b3L)))) (And.intro (And.intro (@b4Q) (And.intro (@b2e) (@b2f))) (And.intro (And.intro (@b3M) (@b3N)) (And.intro (@a0v) (@a8p))))) (And.intro (And.intro (And.intro (@b0q) (And.intro (@b0r) (@b2g))) (And.intro (And.intro (@a8q) (@a8r)) (And.intro (@b0s) (@b0t)))) (And.intro (And.intro (@b0u) (And.intro (@Bool.and_self) (@Bool.and_true))) (And.intro (And.intro (@Bool.true_and) (@Nat.zero_mul)) (And.intro (@Nat.one_mul) (@Nat.mul_one)))))):=And.intro (And.intro (And.intro (And.intro (@List.all_cons.{0}) (And.intro (@List.all_nil.{0}) (@a8N))) (And.intro (@b2d) (And.intro (@b3K) (@b3L)))) (And.intro (And.intro (@b4Q) (And.intro (@b2e) (@b2f))) (And.intro (And.intro (@b3M) (@b3N)) (And.intro (@a0v) (@a8p))))) (And.intro (And.intro (And.intro (@b0q) (And.intro (@b0r) (@b2g))) (And.intro (And.intro (@a8q) (@a8r)) (And.intro (@b0s) (@b0t)))) (And.intro (And.intro (@b0u) (And.intro (@Bool.and_self) (@Bool.and_true))) (And.intro (And.intro (@Bool.true_and) (@Nat.zero_mul)) (And.intro (@Nat.one_mul) (@Nat.mul_one)))))
end Go.Gm
namespace Go.Gm.AQ
open Go Go.Gm
abbrev v2_:FuncId:=8
abbrev l9_:FuncId:=15
abbrev s3_:FuncId:=16
abbrev g2_:FuncId:=17
abbrev j7_:FuncId:=18
abbrev e2_:FuncId:=19
abbrev d8_:FuncId:=21
abbrev s4_:FuncId:=23
abbrev j8_:FuncId:=24
abbrev g3_:FuncId:=25
abbrev h0_:FuncId:=27
abbrev g4_:FuncId:=37
abbrev a3_:FuncId:=38
abbrev t2_:FuncId:=39
abbrev f1_:FuncId:=40
abbrev g0_:FuncId:=41
abbrev d9_:FuncId:=42
abbrev f2_:FuncId:=43
abbrev d0_:FuncId:=45
abbrev m0_:FuncId:=46
abbrev m1_:FuncId:=47
abbrev j9_:FuncId:=48
abbrev i8_:FuncId:=49
abbrev s5_:FuncId:=50
abbrev h1_:FuncId:=51
abbrev k6_:FuncId:=54
abbrev h5_:FuncId:=58
abbrev o0_:FuncId:=59
abbrev e0_:FuncId:=60
abbrev o1_:FuncId:=69
abbrev i9_:FuncId:=71
abbrev a7v:FuncId:=77
abbrev a3X:FuncId:=78
abbrev g8_:FuncId:=79
abbrev a2t:FuncId:=80
abbrev a7_:FuncId:=81
abbrev a9_:FuncId:=82
abbrev c0_:FuncId:=83
abbrev a5_:FuncId:=84
abbrev b3_:FuncId:=85
abbrev m2_:FuncId:=86
abbrev o2_:FuncId:=87
abbrev o3_:FuncId:=88
abbrev k7_:FuncId:=89
abbrev a1n:FuncId:=94
abbrev p4_:FuncId:=95
abbrev k0_:FuncId:=107
abbrev o4_:FuncId:=108
abbrev t3_:FuncId:=109
abbrev c9_:FuncId:=110
abbrev h6_:FuncId:=111
abbrev j2_:FuncId:=112
abbrev a0w:FuncId:=113
abbrev a1o:FuncId:=114
abbrev c3_:FuncId:=115
abbrev a4_:FuncId:=116
abbrev f3_:FuncId:=117
abbrev b5_:FuncId:=118
abbrev f4_:FuncId:=119
abbrev e3_:FuncId:=120
abbrev o5_:FuncId:=121
abbrev m3_:FuncId:=122
abbrev m4_:FuncId:=123
abbrev o6_:FuncId:=124
abbrev g9_:FuncId:=126
abbrev d3_:FuncId:=127
abbrev c1_:FuncId:=128
abbrev a0_:FuncId:=129
abbrev e1_:FuncId:=130
abbrev m5_:FuncId:=131
abbrev g1_:FuncId:=132
abbrev f5_:FuncId:=133
abbrev b4_:FuncId:=134
abbrev f6_:FuncId:=135
abbrev f7_:FuncId:=136
abbrev s6_:FuncId:=155
abbrev z5_:FuncId:=156
abbrev a0x:FuncId:=157
abbrev z6_:FuncId:=158
abbrev s7_:FuncId:=159
abbrev w8_:FuncId:=160
noncomputable def a1p:MCode:=.seq [38] (.seq [34,35,36,37] (.region [tM 34 14,tF 35 1 12,tL 36 35,tS 37 (.lenSl (tT 36)),tS 38 (.bin .lss .scalar (tT 34) (tT 37))]) (.cond (tT 38) .skip (.exit 0))) (.seq [53,54,55,56,57,58,59,60,61,62,63,64] (.block 1 (.seq [41,42,43,44,45,46,47,48,49,50,51,52] (.regionD 126 [dF 0 126 1 11,dL 1 127 126,dM 2 128 14,dF 3 129 1 11,dL 4 130 129,dM 5 131 14,tD 6 132 (.idxSl 4 (tT 130) (tT 131)),dF 7 133 3 132,dL 8 134 133,⟨9,⟨some 135,.call e2_ [(tT 134),(tK 100)],none⟩,[(127,tL 127 126)]⟩,tD 10 136 (.idxSl 4 (tT 127) (tT 128)),dF 11 137 3 136,tD 12 138 (.store 1 (tT 137) (tT 135))] [(41,126),(42,127),(43,128),(44,129),(45,130),(46,131),(47,132),(48,133),(49,134),(50,135),(51,136),(52,137)]) (.regionD 126 [dF 0 126 1 12,dL 1 127 126,dM 2 128 14,dF 3 129 1 11,dL 4 130 129,dM 5 131 14,tD 6 132 (.idxSl 4 (tT 130) (tT 131)),dF 7 133 3 132,dL 8 134 133,tD 9 135 (.bin .mul .scalar (tK 2) (tT 134)),tD 10 136 (.idxSl 4 (tT 127) (tT 128)),dF 11 137 3 136,tD 12 138 (.store 1 (tT 137) (tT 135))] [(53,126),(54,127),(55,128),(56,129),(57,130),(58,131),(59,132),(60,133),(61,134),(62,135),(63,136),(64,137)]))) (.region [tM 39 14,tS 40 (.bin .add .scalar (tT 39) (tK 1)),tM 14 40]))
noncomputable def a1q:MCode:=.seq [92] (.seq [89,90,91] (.region [tM 89 18,tF 90 0 11,tL 91 90,tS 92 (.bin .lss .scalar (tT 89) (tT 91))]) (.cond (tT 92) .skip (.exit 2))) (.seq [125] (.block 3 (.seq [95,96,97,98,99,100,101,102,103,104,105,106,107,108,109,110,111,112,113,114,115,116,117,118,119,120,121,122,123,124] (.regionD 126 [dM 0 126 16,dM 1 127 18,tD 2 128 (.idxSl 1 (tT 126) (tT 127)),dL 3 129 128,tD 4 130 (.bin .lss .scalar (tT 129) (tK 0)),dM 5 131 130,⟨6,⟨some 132,.op (.mv (tT 17)),some (131,true)⟩,[]⟩,⟨7,⟨some 133,.op (.mv (tT 18)),some (131,true)⟩,[]⟩,⟨8,⟨some 134,.op (.idxSl 1 (tT 132) (tT 133)),some (131,true)⟩,[]⟩,⟨9,⟨some 135,.op (.load none (tT 134)),some (131,true)⟩,[]⟩,⟨10,⟨some 136,.op (.bin .geq .scalar (tT 135) (tK 0)),some (131,true)⟩,[]⟩,tD 11 137 (.pick (tT 131) (tT 136) (.const (.bool false))),dM 12 138 137,⟨13,⟨some 139,.op (.mv (tT 16)),some (138,false)⟩,[]⟩,⟨14,⟨some 140,.op (.mv (tT 18)),some (138,false)⟩,[]⟩,⟨15,⟨some 141,.op (.idxSl 1 (tT 139) (tT 140)),some (138,false)⟩,[]⟩,⟨16,⟨some 142,.op (.load none (tT 141)),some (138,false)⟩,[]⟩,⟨17,⟨some 143,.op (.bin .geq .scalar (tT 142) (tK 0)),some (138,false)⟩,[]⟩,⟨18,⟨some 144,.op (.mv (tT 143)),some (138,false)⟩,[]⟩,⟨19,⟨some 145,.op (.mv (tT 17)),some (144,true)⟩,[]⟩,⟨20,⟨some 146,.op (.mv (tT 18)),some (144,true)⟩,[]⟩,⟨21,⟨some 147,.op (.idxSl 1 (tT 145) (tT 146)),some (144,true)⟩,[]⟩,⟨22,⟨some 148,.op (.load none (tT 147)),some (144,true)⟩,[]⟩,⟨23,⟨some 149,.op (.mv (tT 16)),some (144,true)⟩,[]⟩,⟨24,⟨some 150,.op (.mv (tT 18)),some (144,true)⟩,[]⟩,⟨25,⟨some 151,.op (.idxSl 1 (tT 149) (tT 150)),some (144,true)⟩,[]⟩,⟨26,⟨some 152,.op (.load none (tT 151)),some (144,true)⟩,[]⟩,⟨27,⟨some 153,.op (.bin .mul .scalar (tK 2) (tT 152)),some (144,true)⟩,[]⟩,⟨28,⟨some 154,.op (.bin .neq .scalar (tT 148) (tT 153)),some (144,true)⟩,[]⟩,⟨29,⟨some 155,.op (.pick (tT 144) (tT 154) (.const (.bool false))),some (138,false)⟩,[]⟩,tD 30 156 (.pick (tT 138) (.const (.bool true)) (tT 155))] [(95,126),(96,127),(97,128),(98,129),(99,130),(100,131),(101,132),(102,133),(103,134),(104,135),(105,136),(106,137),(107,138),(108,139),(109,140),(110,141),(111,142),(112,143),(113,144),(114,145),(115,146),(116,147),(117,148),(118,149),(119,150),(120,151),(121,152),(122,153),(123,154),(124,155),(125,156)]) (.cond (tT 125) (.seq [11,16,17,18,125] (.region [tS 10 (.mv (.const (.bool false)))]) .ret) .skip))) (.region [tM 93 18,tS 94 (.bin .add .scalar (tT 93) (tK 1)),tM 18 94]))
noncomputable def t4_:MCode:=.seq [4,65,66,67,68] (.region [tM 65 4,tF 66 0 11,tL 67 66,⟨some 68,.call e2_ [(tT 65),(tT 67)],none⟩,tM 15 68]) (.seq [12,13,15,69,70,71,72,73,74,75,76] (.regionD 126 [tD 0 126 (.load (some 2) (tT 11)),tD 1 127 (.load (some 2) (tT 13)),dM 2 128 15,tD 4 130 (.load (some 2) (tT 12)),tD 5 131 (.load (some 2) (tT 13)),dM 6 132 15,⟨3,⟨some 129,.call d8_ [(tT 126),(tT 127),(tT 128)],none⟩,[(130,tA 130 2 12),(131,tA 131 2 13)]⟩,⟨7,⟨some 133,.call d8_ [(tT 130),(tT 131),(tT 132)],none⟩,[]⟩,dM 8 134 129,dM 9 135 133] [(69,126),(70,127),(71,128),(72,129),(73,130),(74,131),(75,132),(76,133),(16,134),(17,135)]) (.seq [88] (.seq [77,78,79,80,81,82,83,84,85,86,87] (.region [tM 77 16,tS 78 (.lenSl (tT 77)),tF 79 0 11,tL 80 79,tS 81 (.bin .neq .scalar (tT 78) (tT 80)),tM 82 81,⟨some 83,.op (.mv (tT 17)),some (82,false)⟩,⟨some 84,.op (.lenSl (tT 83)),some (82,false)⟩,⟨some 85,.op (.fieldAddr 0 (tT 11)),some (82,false)⟩,⟨some 86,.op (.load none (tT 85)),some (82,false)⟩,⟨some 87,.op (.bin .neq .scalar (tT 84) (tT 86)),some (82,false)⟩,tS 88 (.pick (tT 82) (.const (.bool true)) (tT 87))]) (.cond (tT 88) (.seq [11,16,17,88] (.region [tS 10 (.mv (.const (.bool false)))]) .ret) .skip)) (.seq [11,16,17,18,92] (.seq [] (.region [tS 18 (.mv (tK 0))]) (.block 2 (.loop [93,94] a1q))) (.seq [] (.region [tS 10 (.mv (.const (.bool true)))]) .ret))))
def j3_:Res:=[(10,none)]
noncomputable def t5_:MFn:=⟨126,j3_,.seq [10] (.region [tS 10 (.mv (.const (.bool false)))]) (.seq [20] (.seq [19] (.region [⟨some 19,.call l9_ [],none⟩,tS 20 (.un .not (tT 19))]) (.cond (tT 20) (.seq [0,1,2,3,4,20] (.region [tS 10 (.mv (.const (.bool false)))]) .ret) .skip)) (.seq [23] (.seq [21,22] (.region [tM 21 3,⟨some 22,.call s3_ [(tT 21)],none⟩,tS 23 (.un .not (tT 22))]) (.cond (tT 23) (.seq [0,1,2,3,4,23] (.region [tS 10 (.mv (.const (.bool true)))]) .ret) .skip)) (.seq [0,1,2,24,25,26,27,28,29,30,31] (.region [tM 24 0,tM 25 1,tM 26 2,⟨some 27,.call g2_ [(tT 24),(tT 25),(tT 26)],none⟩,tM 28 0,tM 29 1,tM 30 2,⟨some 31,.call g2_ [(tT 28),(tT 29),(tT 30)],none⟩,tS 11 (.alloc [.int .i64 0,.nils]),tS 12 (.alloc [.int .i64 0,.nils]),tW 2 11 27,tW 2 12 31]) (.seq [3,32,33] (.region [tM 32 3,⟨some 33,.call j7_ [(tT 32)],none⟩,tS 13 (.alloc [.nils,.nils]),tW 2 13 33]) (.seq [14,38] (.seq [] (.region [tS 14 (.mv (tK 0))]) (.block 0 (.loop [39,40] a1p))) (.lab t4_))))))⟩
noncomputable def j4_ (T:Tab)(k j0:Nat)(a b c d e:AV)(h:Heap):Option (AV × Heap):=
 loopB T k j3_ j0 [39,40] a1p [.blk 0,.seq [14,38] (.lab t4_)] [.u,.u,.u,.u,a,.u,.u,.u,.u,.u,.u,b,c,d,e,.u,.u,.u,.u,.u,.u,.u,.u,.u,.u,.u,.u,.u,.u,.u,.u,.u,.u,.u,.u,.u,.u,.u,.u,.u,.u,.u,.u,.u,.u,.u,.u,.u,.u,.u,.u,.u,.u,.u,.u,.u,.u,.u,.u,.u,.u,.u,.u,.u,.u,.u,.u,.u,.u,.u,.u,.u,.u,.u,.u,.u,.u,.u,.u,.u,.u,.u,.u,.u,.u,.u,.u,.u,.u,.u,.u,.u,.u,.u,.u,.u,.u,.u,.u,.u,.u,.u,.u,.u,.u,.u,.u,.u,.u,.u,.u,.u,.u,.u,.u,.u,.u,.u,.u,.u,.u,.u,.u,.u,.u,.u] h
noncomputable def t6_ (T:Tab)(k:Nat)(a b c d:AV)(h:Heap):Option (AV × Heap):=
 evB T k j3_ t4_ [] [.u,.u,.u,.u,a,.u,.u,.u,.u,.u,.u,b,c,d,.u,.u,.u,.u,.u,.u,.u,.u,.u,.u,.u,.u,.u,.u,.u,.u,.u,.u,.u,.u,.u,.u,.u,.u,.u,.u,.u,.u,.u,.u,.u,.u,.u,.u,.u,.u,.u,.u,.u,.u,.u,.u,.u,.u,.u,.u,.u,.u,.u,.u,.u,.u,.u,.u,.u,.u,.u,.u,.u,.u,.u,.u,.u,.u,.u,.u,.u,.u,.u,.u,.u,.u,.u,.u,.u,.u,.u,.u,.u,.u,.u,.u,.u,.u,.u,.u,.u,.u,.u,.u,.u,.u,.u,.u,.u,.u,.u,.u,.u,.u,.u,.u,.u,.u,.u,.u,.u,.u,.u,.u,.u,.u] h
noncomputable def j5_ (T:Tab)(k j0:Nat)(a b c d:AV)(h:Heap):Option (AV × Heap):=
 loopB T k j3_ j0 [93,94] a1q [.blk 2,.seq [11,16,17,18,92] (.seq [] (.region [⟨some 10,.op (.mv (.const (.bool true))),none⟩]) .ret)] [.u,.u,.u,.u,.u,.u,.u,.u,.u,.u,.u,a,.u,.u,.u,.u,b,c,d,.u,.u,.u,.u,.u,.u,.u,.u,.u,.u,.u,.u,.u,.u,.u,.u,.u,.u,.u,.u,.u,.u,.u,.u,.u,.u,.u,.u,.u,.u,.u,.u,.u,.u,.u,.u,.u,.u,.u,.u,.u,.u,.u,.u,.u,.u,.u,.u,.u,.u,.u,.u,.u,.u,.u,.u,.u,.u,.u,.u,.u,.u,.u,.u,.u,.u,.u,.u,.u,.u,.u,.u,.u,.u,.u,.u,.u,.u,.u,.u,.u,.u,.u,.u,.u,.u,.u,.u,.u,.u,.u,.u,.u,.u,.u,.u,.u,.u,.u,.u,.u,.u,.u,.u,.u,.u,.u] h
theorem z8_ (T:Tab)(k j0:Nat)(a b c d:AV)(h:Heap):j5_ T k (j0+1) a b c d h =
 oa (fldA 0 a) fun e=>oa (ld1 h e) fun f=>oa (binV .lss .scalar d f) fun g=>cond2 g
 (
 oa (idxS 1 b d) fun i=>oa (ld1 h i) fun l=>oa (binV .lss .scalar l (.int .i64 0)) fun m=>ob (gd m true (some (c,h)) h) fun n o=>ob (gd m true (some (d,o)) o) fun p q=>ob (gd m true (pure1 q (idxS 1 n p)) q) fun r s=>ob (gd m true (pure1 s (ld1 s r)) s) fun t u=>ob (gd m true (pure1 u (binV .geq .scalar t (.int .i64 0))) u) fun v w=>oa (pickV m v (.bool false)) fun x=>ob (gd x false (some (b,w)) w) fun y z=>ob (gd x false (some (d,z)) z) fun aa ab=>ob (gd x false (pure1 ab (idxS 1 y aa)) ab) fun ac ad=>ob (gd x false (pure1 ad (ld1 ad ac)) ad) fun ae af=>ob (gd x false (pure1 af (binV .geq .scalar ae (.int .i64 0))) af) fun ag ai=>ob (gd x false (some (ag,ai)) ai) fun al am=>ob (gd al true (some (c,am)) am) fun an ao=>ob (gd al true (some (d,ao)) ao) fun ap aq=>ob (gd al true (pure1 aq (idxS 1 an ap)) aq) fun ar as=>ob (gd al true (pure1 as (ld1 as ar)) as) fun au av=>ob (gd al true (some (b,av)) av) fun aw ax=>ob (gd al true (some (d,ax)) ax) fun ay az=>ob (gd al true (pure1 az (idxS 1 aw ay)) az) fun a0 a1=>ob (gd al true (pure1 a1 (ld1 a1 a0)) a1) fun a2 a3=>ob (gd al true (pure1 a3 (binV .mul .scalar (.int .i64 2) a2)) a3) fun a4 a5=>ob (gd al true (pure1 a5 (binV .neq .scalar au a4)) a5) fun a6 a7=>ob (gd x false (pure1 a7 (pickV al a6 (.bool false))) a7) fun a8 a9=>oa (pickV x (.bool true) a8) fun ba=>cond2 ba
 (
 some ((.bool false),a9)
 )
 (
 oa (binV .add .scalar d (.int .i64 1)) fun bb=>j5_ T k j0 a b c bb a9
 )
 )
 (
 some ((.bool true),h)
 ):=loopEq (by kernel_rfl)
theorem a5x (T:Tab)(k:Nat)(a b c d:AV)(h:Heap):t6_ T k a b c d h =
 oa (fldA 0 b) fun e=>oa (ld1 h e) fun f=>ob (evalFn T k e2_ [a,f] h) fun g i=>oa (ldN 2 i b) fun l=>oa (ldN 2 i d) fun m=>oa (ldN 2 i c) fun n=>oa (ldN 2 i d) fun o=>ob (evalFn T k d8_ [l,m,g] i) fun p q=>chk ((sameB (pure1 q (ldN 2 q c)) n && (sameB (pure1 q (ldN 2 q d)) o && true))) <|ob (evalFn T k d8_ [n,o,g] q) fun r s=>oa (lenS p) fun t=>oa (fldA 0 b) fun u=>oa (ld1 s u) fun v=>oa (binV .neq .scalar t v) fun w=>ob (gd w false (some (r,s)) s) fun x y=>ob (gd w false (pure1 y (lenS x)) y) fun z aa=>ob (gd w false (pure1 aa (fldA 0 b)) aa) fun ab ac=>ob (gd w false (pure1 ac (ld1 ac ab)) ac) fun ad ae=>ob (gd w false (pure1 ae (binV .neq .scalar z ad)) ae) fun af ag=>oa (pickV w (.bool true) af) fun ai=>cond2 ai
 (
 some ((.bool false),ag)
 )
 (
 j5_ T k k b p r (.int .i64 0) ag
 ):=blockEq (by kernel_rfl)
theorem z9_ (T:Tab)(k j0:Nat)(a b c d e:AV)(h:Heap):j4_ T k (j0+1) a b c d e h =
 oa (fldA 1 c) fun f=>oa (ld1 h f) fun g=>oa (lenS g) fun i=>oa (binV .lss .scalar e i) fun l=>cond2 l
 (
 oa (fldA 1 b) fun m=>oa (ld1 h m) fun n=>oa (fldA 1 b) fun o=>oa (ld1 h o) fun p=>oa (idxS 4 p e) fun q=>oa (fldA 3 q) fun r=>oa (ld1 h r) fun s=>ob (evalFn T k e2_ [s,(.int .i64 100)] h) fun t u=>chk ((sameB (pure1 u (ld1 u m)) n && true)) <|oa (idxS 4 n e) fun v=>oa (fldA 3 v) fun w=>oh (stN 1 u w t) fun x=>oa (fldA 1 c) fun y=>oa (ld1 x y) fun z=>oa (fldA 1 b) fun aa=>oa (ld1 x aa) fun ab=>oa (idxS 4 ab e) fun ac=>oa (fldA 3 ac) fun ad=>oa (ld1 x ad) fun ae=>oa (binV .mul .scalar (.int .i64 2) ae) fun af=>oa (idxS 4 z e) fun ag=>oa (fldA 3 ag) fun ai=>oh (stN 1 x ai af) fun al=>oa (binV .add .scalar e (.int .i64 1)) fun am=>j4_ T k j0 a b c d am al
 )
 (
 t6_ T k a b c d h
 ):=loopEq (by kernel_rfl)
theorem a7e (T:Tab)(k:Nat)(a b c d e:AV)(h:Heap):runF T k t5_ [a,b,c,d,e] h =
 ob (evalFn T k l9_ [] h) fun f g=>oa (unV .not f) fun i=>cond2 i
 (
 some ((.bool false),g)
 )
 (
 ob (evalFn T k s3_ [d] g) fun l m=>oa (unV .not l) fun n=>cond2 n
 (
 some ((.bool true),m)
 )
 (
 ob (evalFn T k g2_ [a,b,c] m) fun o p=>ob (evalFn T k g2_ [a,b,c] p) fun q r=>ob (newVar r [.int .i64 0,.nils]) fun s t=>ob (newVar t [.int .i64 0,.nils]) fun u v=>oh (stN 2 v s o) fun w=>oh (stN 2 w u q) fun x=>ob (evalFn T k j7_ [d] x) fun y z=>ob (newVar z [.nils,.nils]) fun aa ab=>oh (stN 2 ab aa y) fun ac=>j4_ T k k e s u aa (.int .i64 0) ac
 )
 ):=runEq (by kernel_rfl)
def b0F:Res:=[(0,none)]
end Go.Gm.AQ
