/- A part of the proof (GmV, GmX, GmY, GmZ, GmQ, GmG, GmAt, GmAZz, GmAZe0, GmAZe1). -/
import Derived.Test.YtldnkafmanalmaaGreatProg
import Derived.KernelRfl
import Derived.Test.YtldnkafmanalmaaGreatQueryCountsP1
set_option autoImplicit true
set_option relaxedAutoImplicit true
set_option linter.unusedVariables false
set_option linter.unusedSimpArgs false
set_option linter.unusedSectionVars false
namespace Go.Gm
abbrev I (n:Int):AV:=.int .i64 n
theorem d6_ {n:Int}(h0:-9223372036854775808<=n)(h1:n<=9223372036854775807):IntKind.i64.wrap n=n:=by
 simp[IntKind.wrap,IntKind.bits,IntKind.signed]
 omega
def Fit (n:Int):Prop:=-9223372036854775808<=n/\n<=9223372036854775807
section
variable (a b:Int)
theorem a6U:binV .lss .scalar (I a) (I b)=some (.bool (decide (a<b))):=rfl
theorem b2G:binV .leq .scalar (I a) (I b)=some (.bool (decide (a<=b))):=rfl
theorem b4R:binV .gtr .scalar (I a) (I b)=some (.bool (decide (a > b))):=rfl
theorem b8w:binV .geq .scalar (I a) (I b)=some (.bool (decide (a>=b))):=rfl
theorem b8x:binV .eql .scalar (I a) (I b)=some (.bool (a == b)):=rfl
theorem b8y:binV .neq .scalar (I a) (I b)=some (.bool (a != b)):=rfl
theorem a8E (h:Fit (a+b)):binV .add .scalar (I a) (I b)=some (I (a+b)):=by
 show some (AV.int .i64 (IntKind.i64.wrap (a+b)))=_
 rw[d6_ h.1 h.2]
theorem c4D (h:Fit (a-b)):binV .sub .scalar (I a) (I b)=some (I (a-b)):=by
 show some (AV.int .i64 (IntKind.i64.wrap (a-b)))=_
 rw[d6_ h.1 h.2]
theorem a8F (h:b≠0):binV .rem .scalar (I a) (I b)=some (I (a.tmod b)):=by
 show (if b=0 then none else some (AV.int .i64 (a.tmod b)))=_
 rw[if_neg h]
theorem c0Z (b:Bool):unV .not (.bool b)=some (.bool (!b)):=rfl
end
def Ext (h h':Heap):Prop:=h <+: h'
theorem Ext.refl (h:Heap):Ext h h:=List.prefix_refl h
theorem Ext.trans (a:Ext h h')(b:Ext h' h''):Ext h h'':=List.IsPrefix.trans a b
theorem Ext.push (h:Heap)(x:List AObj):Ext h (h++x):=List.prefix_append h x
theorem Ext.len (a:Ext h h'):h.length<=h'.length:=List.IsPrefix.length_le a
theorem Ext.get (a:Ext h h'){o:Nat}(hx:h[o]?=some x):h'[o]?=some x:=by
 obtain ⟨t,rfl⟩:=a
 rw[List.getElem?_append_left (List.getElem?_eq_some_iff.1 hx).1]
 exact hx
theorem Ext.set (a:Ext h h'){o:Nat}(ho:h.length<=o)(x:AObj):Ext h (h'.set o x):=by
 obtain ⟨t,rfl⟩:=a
 rw[List.set_append_right _ _ ho]
 exact List.prefix_append _ _
def At (h:Heap)(p:AV)(cs:List AV):Prop:=
 ∃o off hi g c,p=.ptr o off hi g/\off+cs.length<=hi/\h[o]?=some (.cells c)/\c.wg<=g/\(c.cells.drop off).take cs.length=cs
theorem At.ext (a:At h p cs)(e:Ext h h'):At h' p cs:=by
 obtain ⟨o,off,hi,g,c,h1,h2,h3,h4⟩:=a
 exact ⟨o,off,hi,g,c,h1,h2,e.get h3,h4⟩
theorem At.cell (a:At h p cs){d:Nat}(hx:cs[d]?=some x):∃p',fldA d p=some p'/\ld1 h p'=some x:=by
 obtain ⟨o,off,hi,g,c,rfl,h2,h3,h4,h5⟩:=a
 have hd:=(List.getElem?_eq_some_iff.1 hx).1
 refine ⟨_,rfl,?_⟩
 simp only[ld1,h3]
 rw[if_pos ⟨h4,oM⟩]
 rw[<-h5,List.getElem?_take,if_pos hd,List.getElem?_drop] at hx
 exact hx
theorem At.ld1 {x:AV}{cs:List AV}(a:At h p (x::cs)):ld1 h p=some x:=by
 obtain ⟨p',h1,h2⟩:=a.cell (d:=0) rfl
 obtain ⟨o,off,hi,g,c,rfl,_⟩:=a
 injection h1 with h1
 rw[<-h1] at h2
 exact h2
theorem At.nil (a:At h p cs):nilCk p=some p:=by
 obtain ⟨o,off,hi,g,c,rfl,_⟩:=a
 rfl
theorem At.ldN (a:At h p cs){n:Nat}(hn:n<=cs.length):ldN n h p=some (.agg (cs.take n)):=by
 obtain ⟨o,off,hi,g,c,rfl,h2,h3,h4,h5⟩:=a
 simp only[Gm.ldN,rdc,h3,if_pos h4]
 rw[if_pos oM]
 simp only[Option.map_some]
 congr 2
 conv=>rhs; rw[<-h5]
 rw[List.take_take,Nat.min_eq_left hn]
def Sl (h:Heap)(sz:Nat)(s:AV)(xs:List (List AV)):Prop:=
 (s=.nils/\xs=[])\/∃o off lim g c,s=.sl o off xs.length sz lim g/\h[o]?=some (.cells c)/\c.wg<=g/\(c.cells.drop off).take (xs.length*sz)=xs.flatten/\∀x∈xs,x.length=sz
theorem Sl.ext (a:Sl h sz s xs)(e:Ext h h'):Sl h' sz s xs:=by
 rcases a with a|⟨o,off,lim,g,c,h1,h2,h3⟩
 ·exact .inl a
 ·exact .inr ⟨o,off,lim,g,c,h1,e.get h2,h3⟩
theorem Sl.len (a:Sl h sz s xs):lenS s=some (I xs.length):=by
 rcases a with ⟨rfl,rfl⟩|⟨o,off,lim,g,c,rfl,_⟩<;>rfl
theorem b4m {sz:Nat}:∀{xs:List (List AV)},(∀x∈xs,x.length=sz)->∀{i:Nat} {x:List AV},xs[i]?=some x->(xs.flatten.drop (i*sz)).take sz=x
 |[],_,i,x,hx=>by simp at hx
 |y::ys,hl,0,x,hx=>by
  simp only[List.getElem?_cons_zero,Option.some.injEq] at hx
  subst hx
  simp only[Nat.zero_mul,List.drop_zero,List.flatten_cons]
  have h1:=hl y (by simp)
  rw[List.take_append_of_le_length oM,List.take_of_length_le oM]
 |y::ys,hl,i+1,x,hx=>by
  have h1:=hl y (by simp)
  rw[List.flatten_cons,Nat.add_mul,Nat.one_mul,Nat.add_comm,<-List.drop_drop,List.drop_append_of_le_length oM,<-h1,List.drop_length,List.nil_append,h1]
  exact b4m (λz hz=>hl z (List.mem_cons_of_mem _ hz)) (by simpa using hx)
theorem Sl.idx (a:Sl h sz s xs){i:Nat}(hx:xs[i]?=some x):∃p,idxS sz s (I i)=some p/\At h p x:=by
 have hi:=(List.getElem?_eq_some_iff.1 hx).1
 rcases a with ⟨rfl,rfl⟩|⟨o,off,lim,g,c,rfl,h2,h3,h4,h5⟩
 ·simp at hx
 ·have hxl:x.length=sz:=h5 x (List.mem_of_getElem? hx)
  refine ⟨.ptr o (off+i*sz) (off+i*sz+sz) g,by simp[idxS,hi],o,_,_,g,c,rfl,oM,h2,h3,?_⟩
  rw[hxl,<-List.drop_drop]
  have:=b4m h5 hx
  rw[<-h4] at this
  rw[List.drop_take,List.take_take] at this
  have hle:sz<=xs.length*sz-i*sz:=by
   have:(i+1)*sz<=xs.length*sz:=Nat.mul_le_mul_right _ hi
   rw[Nat.add_mul,Nat.one_mul] at this
   omega
  rw[Nat.min_eq_left hle] at this
  exact this
def Row (h:Heap)(o:Nat)(c:CObj):Prop:=h[o]?=some (.cells c)
theorem Row.ext (a:Row h o c)(e:Ext h h'):Row h' o c:=e.get a
theorem Row.lt (a:Row h o c):o<h.length:=(List.getElem?_eq_some_iff.1 a).1
theorem Row.push (a:Row h o c)(x:AObj):Row (h++[x]) o c:=a.ext (Ext.push h [x])
abbrev vobj (cs:List AV):CObj:=⟨cs,0,0,false⟩
theorem c1a {cs:List AV}(h:Heap)(h1:cs.all AV.one=true):newVar h cs=some (.ptr h.length 0 cs.length 0,mkObj h cs):=by
 unfold newVar; rw[if_pos h1]
theorem Row.new (h:Heap)(cs:List AV):Row (mkObj h cs) h.length (vobj cs):=by
 simp[Row,mkObj]
theorem Ext.new (h:Heap)(cs:List AV):Ext h (mkObj h cs):=Ext.push h _
theorem Row.at (a:Row h o c){g:Nat}(hg:c.wg<=g){off n hi:Nat}(hn:off+n<=c.cells.length)(hhi:off+n<=hi):At h (.ptr o off hi g) ((c.cells.drop off).take n):=by
 have hl:((c.cells.drop off).take n).length=n:=by simp; omega
 exact ⟨o,off,hi,g,c,rfl,by rw[hl]; exact hhi,a,hg,by rw[hl]⟩
end Go.Gm
namespace Go.Gm
mutual
theorem AV.beq_refl:∀a:AV,AV.beq a a=true
 |.undef=>rfl
 |.bool b=>by simp[AV.beq]
 |.int k n=>by simp[AV.beq]
 |.str s=>by simp[AV.beq]
 |.nilp=>rfl
 |.ptr ..=>by simp[AV.beq]
 |.nils=>rfl
 |.sl ..=>by simp[AV.beq]
 |.nilmap=>rfl
 |.map _=>by simp[AV.beq]
 |.nilfn=>rfl
 |.fn f a b=>by simp[AV.beq,AV.beqs_refl a,AV.beqs_refl b]
 |.nilifc=>rfl
 |.ifc t v=>by simp[AV.beq,AV.beq_refl v]
 |.agg a=>by simp[AV.beq,AV.beqs_refl a]
 |.tup a=>by simp[AV.beq,AV.beqs_refl a]
theorem AV.beqs_refl:∀a:List AV,AV.beqs a a=true
 |[]=>rfl
 |a::r=>by simp[AV.beqs,AV.beq_refl a,AV.beqs_refl r]
end

section
variable {R:Type}
@[congr] theorem oa_cg {x y:Option AV} {K:AV->Option R} (h:x=y):oa x K=oa y K:=by rw[h]
@[congr] theorem oh_cg {x y:Option Heap} {K:Heap->Option R} (h:x=y):oh x K=oh y K:=by rw[h]
@[congr] theorem ob_cg {x y:Option (AV × Heap)} {K:AV->Heap->Option R} (h:x=y):ob x K=ob y K:=by rw[h]
@[congr] theorem gd_cg {g g':AV} {b:Bool} {x:Option (AV × Heap)} {h:Heap} (e:g=g'):gd g b x h=gd g' b x h:=by rw[e]
@[congr] theorem c6n {c d:AV} {a b:Option R} (e:c=d):cond2 c a b=cond2 d a b:=by rw[e]
@[congr] theorem c6D {c d:Bool} {x:Option R} (e:c=d):chk c x=chk d x:=by rw[e]
theorem gd_tt (x:Option (AV × Heap))(h:Heap):gd (.bool true) true x h=x:=rfl
theorem gd_ft (x:Option (AV × Heap))(h:Heap):gd (.bool false) true x h=some (.tup [],h):=rfl
theorem gd_ff (x:Option (AV × Heap))(h:Heap):gd (.bool false) false x h=x:=rfl
theorem gd_tf (x:Option (AV × Heap))(h:Heap):gd (.bool true) false x h=some (.tup [],h):=rfl
theorem gd_n (b:Bool)(x:Option (AV × Heap))(h:Heap):gd (.tup []) b x h=some (.tup [],h):=rfl
theorem b7o (x:Option AV)(h:Heap)(K:AV->Heap->Option R):ob (pure1 h x) K=oa x λv=>K v h:=by cases x<;>rfl
theorem c1c (a b:AV):pickV (.bool true) a b=some a:=rfl
theorem c1d (a b:AV):pickV (.bool false) a b=some b:=rfl
theorem b3e (h:Heap)(v:AV):pure1 h (some v)=some (v,h):=rfl
theorem b4o (v:AV)(h:Heap):sameB (some (v,h)) v=true:=AV.beq_refl v
theorem b4p (call:CallF)(f:FuncId)(a b args:List AV)(h:Heap):callVal call (.fn f a b) args h=call f (a++args++b) h:=rfl
end
section
variable {ι:Type} [Fuel ι]
@[congr] theorem WP_cg {c d:ι->Option (AV × Heap)} {Q:AV->Heap->Prop} (h:∀i,c i=d i):WP c Q=WP d Q:=by rw[funext h]
end
section
variable {ι:Type} [Fuel ι]
theorem WP.rnd {c:ι × Nat->Option (AV × Heap)}{d:ι->Nat->Option (AV × Heap)}(he:∀i j,c (i,j+1)=d i j)(hl:WP (λp:ι × Nat=>d p.1 p.2) Q):WP c Q:=
 WP.round (L:=λi j=>c (i,j)) (d:=d) he hl
theorem WP.ent {c:ι->Option (AV × Heap)}(hl:WP c2 Q)(hc:∀i,c i=c2 (i,Fuel.k i)):WP c Q:=
 WP.congr hc (WP.enter (L:=λi j=>c2 (i,j)) hl)
theorem WP.lv {c:ι × Nat->Option (AV × Heap)}(hd:WP d Q)(hc:∀i j,c (i,j)=d i):WP c Q:=
 WP.congr (λp=>hc p.1 p.2) (WP.leave hd)
end
section
variable {a b:Int}
theorem lss_t (h:a<b):binV .lss .scalar (I a) (I b)=some (.bool true):=by rw[a6U,decide_eq_true h]
theorem lss_f (h:¬a<b):binV .lss .scalar (I a) (I b)=some (.bool false):=by rw[a6U,decide_eq_false h]
theorem leq_t (h:a<=b):binV .leq .scalar (I a) (I b)=some (.bool true):=by rw[b2G,decide_eq_true h]
theorem leq_f (h:¬a<=b):binV .leq .scalar (I a) (I b)=some (.bool false):=by rw[b2G,decide_eq_false h]
theorem gtr_t (h:b<a):binV .gtr .scalar (I a) (I b)=some (.bool true):=by rw[b4R,decide_eq_true h]
theorem gtr_f (h:¬b<a):binV .gtr .scalar (I a) (I b)=some (.bool false):=by rw[b4R,decide_eq_false h]
theorem geq_t (h:b<=a):binV .geq .scalar (I a) (I b)=some (.bool true):=by rw[b8w,decide_eq_true h]
theorem geq_f (h:¬b<=a):binV .geq .scalar (I a) (I b)=some (.bool false):=by rw[b8w,decide_eq_false h]
theorem eql_t (h:a=b):binV .eql .scalar (I a) (I b)=some (.bool true):=by rw[b8x,beq_iff_eq.2 h]
theorem eql_f (h:¬a=b):binV .eql .scalar (I a) (I b)=some (.bool false):=by rw[b8x,beq_eq_false_iff_ne.2 h]
theorem neq_t (h:¬a=b):binV .neq .scalar (I a) (I b)=some (.bool true):=by rw[b8y,bne_iff_ne.2 h]
theorem neq_f (h:a=b):binV .neq .scalar (I a) (I b)=some (.bool false):=by rw[b8y]; simp[h]
theorem add_i (h1:-9223372036854775808<=a+b)(h2:a+b<=9223372036854775807):binV .add .scalar (I a) (I b)=some (I (a+b)):=a8E a b ⟨h1,h2⟩
theorem sub_i (h1:-9223372036854775808<=a-b)(h2:a-b<=9223372036854775807):binV .sub .scalar (I a) (I b)=some (I (a-b)):=c4D a b ⟨h1,h2⟩
theorem rem_i (h1:¬b=0):binV .rem .scalar (I a) (I b)=some (I (a.tmod b)):=a8F a b h1
theorem quo_w (h1:¬b=0):binV .quo .scalar (I a) (I b)=some (I (IntKind.i64.wrap (a.tdiv b))):=by
 show (if b=0 then none else some (AV.int .i64 (IntKind.i64.wrap (a.tdiv b))))=_
 rw[if_neg h1]
theorem mul_w:binV .mul .scalar (I a) (I b)=some (I (IntKind.i64.wrap (a*b))):=rfl
theorem eql_b (a b:Bool):binV .eql .bool (.bool a) (.bool b)=some (.bool (a == b)):=rfl
theorem neq_b (a b:Bool):binV .neq .bool (.bool a) (.bool b)=some (.bool (!(a == b))):=rfl
theorem b4q (o off len sz:Nat)(lim:Option Nat)(g:Nat):binV .eql .slice (.sl o off len sz lim g) .nils=some (.bool false):=rfl
theorem b3f:binV .eql .slice .nils .nils=some (.bool true):=rfl
theorem c1e:mmV true (I a) (I b)=some (I (max a b)):=by
 show some (AV.int .i64 (if (true:Bool)=true then (if b > a then b else a) else _))=_
 try simp only[if_true]
 congr 2
 omega
theorem c1f:mmV false (I a) (I b)=some (I (min a b)):=by
 show some (AV.int .i64 (if (false:Bool)=true then _ else (if b<a then b else a)))=_
 simp only[Bool.false_eq_true,if_false]
 congr 2
 omega
end
def AV.obj:AV->Nat
 |.ptr o _ _ _=>o
 |.sl o _ _ _ _ _=>o
 |.map o=>o
 |_=>0
def elP (sz:Nat)(s:AV)(i:Int):AV:=match s with
 |.sl o off _ _ _ g=>.ptr o (off+i.toNat*sz) (off+i.toNat*sz+sz) g
 |_=>.ptr 0 0 0 0
def fldP (d:Nat):AV->AV
 |.ptr o off hi g=>.ptr o (off+d) hi g
 |v=>v
theorem a6V (d o off hi g:Nat):fldP d (.ptr o off hi g)=.ptr o (off+d) hi g:=rfl
theorem b5x (d e:Nat)(p:AV):fldP d (fldP e p)=fldP (e+d) p:=by cases p<;>simp[fldP,Nat.add_assoc]
theorem b7p (d o off hi g:Nat):fldA d (.ptr o off hi g)=some (.ptr o (off+d) hi g):=rfl
theorem b8z (o off hi g:Nat):nilCk (.ptr o off hi g)=some (.ptr o off hi g):=rfl
theorem b8A (sz d:Nat)(s:AV)(i:Int):fldA d (elP sz s i)=some (fldP d (elP sz s i)):=by cases s<;>rfl
theorem b7q (sz d e:Nat)(s:AV)(i:Int):fldA d (fldP e (elP sz s i))=some (fldP (e+d) (elP sz s i)):=by cases s<;>simp[elP,fldP,fldA,Nat.add_assoc]
theorem c1g (sz:Nat)(s:AV)(i:Int):nilCk (elP sz s i)=some (elP sz s i):=by cases s<;>rfl
theorem b8B (sz e:Nat)(s:AV)(i:Int):nilCk (fldP e (elP sz s i))=some (fldP e (elP sz s i)):=by cases s<;>rfl
theorem c1h (o off len sz:Nat)(lim:Option Nat)(g:Nat):lenS (.sl o off len sz lim g)=some (I len):=rfl
theorem b8C:lenS .nils=some (I 0):=rfl
theorem c1i {o off len sz:Nat}{i:Int}(h0:0<=i)(h1:i<len):idxS sz (.sl o off len sz lim g) (I i)=some (.ptr o (off+i.toNat*sz) (off+i.toNat*sz+sz) g):=by
 simp[idxS,h0,h1]
def rdAt (x:Option AObj)(off hi g:Nat):Option AV:=match x with
 |some (.cells c)=>if c.wg<=g/\off<hi then c.cells[off]? else none
 |_=>none
theorem b8D (h:Heap)(o off hi g:Nat):ld1 h (.ptr o off hi g)=rdAt h[o]? off hi g:=rfl
theorem b7r {cs:List AV}{gen wg:Nat}{ro:Bool}{off hi g:Nat}(h1:wg<=g)(h2:off<hi):rdAt (some (.cells ⟨cs,gen,wg,ro⟩)) off hi g=cs[off]?:=if_pos ⟨h1,h2⟩
def rdNAt (n:Nat)(x:Option AObj)(off hi g:Nat):Option AV:=match x with
 |some (.cells c)=>if off+n<=hi/\c.wg<=g then some (.agg ((c.cells.drop off).take n)) else none
 |_=>none
theorem b8E (n:Nat)(h:Heap)(o off hi g:Nat):ldN n h (.ptr o off hi g)=rdNAt n h[o]? off hi g:=by
 simp only[ldN,rdc,rdNAt]
 cases hx:h[o]? with
 |none=>simp
 |some x=>
  cases x with
  |cells c=>
   simp only
   by_cases h1:off+n<=hi
   ·by_cases h2:c.wg<=g
    ·simp[h1,h2]
    ·simp[h1,h2]
   ·simp[h1]
  |map m=>simp
theorem b5y {n:Nat}{cs:List AV}{gen wg:Nat}{ro:Bool}{off hi g:Nat}(h1:wg<=g)(h2:off+n<=hi):rdNAt n (some (.cells ⟨cs,gen,wg,ro⟩)) off hi g=some (.agg ((cs.drop off).take n)):=if_pos ⟨h2,h1⟩
def wrAt (n:Nat)(h:Heap)(x:Option AObj)(o off hi g:Nat)(vs:List AV):Option Heap:=match x with
 |some (.cells c)=>if vs.length=n/\c.ro=false/\c.gen=g/\off+vs.length<=hi/\vs.all AV.one=true then some (h.set o (.cells { c with cells:=setAll c.cells off vs,wg:=g })) else none
 |_=>none
theorem b0V (n:Nat)(h:Heap)(o off hi g:Nat)(v:AV):stN n h (.ptr o off hi g) v=wrAt n h h[o]? o off hi g v.cells:=by
 simp only[stN,wrc,wrAt]
 by_cases h1:v.cells.length=n
 ·simp only[if_pos h1]
  cases hx:h[o]? with
  |none=>rfl
  |some x=>
   cases x with
   |cells c=>simp only[h1,true_and]
   |map m=>rfl
 ·simp only[if_neg h1]
  cases hx:h[o]? with
  |none=>rfl
  |some x=>
   cases x with
   |cells c=>simp only[h1,false_and,if_false]
   |map m=>rfl
theorem g5_ {n:Nat}{cs:List AV}{gen wg:Nat}{o off hi g:Nat}{vs:List AV}(h1:vs.length=n)(h2:gen=g)(h3:off+n<=hi)(h4:vs.all AV.one=true) :
  wrAt n h (some (.cells ⟨cs,gen,wg,false⟩)) o off hi g vs=some (h.set o (.cells ⟨setAll cs off vs,gen,g,false⟩)):=by
 subst h1 h2
 exact if_pos ⟨rfl,rfl,rfl,h3,h4⟩
theorem a9_ {h:Heap}{o p:Nat}(hne:¬o=p):(h.set o x)[p]?=h[p]?:=List.getElem?_set_ne hne
theorem a0_ {h:Heap}{o:Nat}(ho:o<h.length):(h.set o x)[o]?=some x:=by simp[ho]
theorem m2_ {h t:Heap}{o:Nat}(ho:o<h.length):(h++t)[o]?=h[o]?:=List.getElem?_append_left ho
theorem r8_ {h t:Heap}{o:Nat}(ho:h.length<=o):(h++t)[o]?=t[o-h.length]?:=List.getElem?_append_right ho
theorem a3_ (h:Heap)(cs:List AV):mkObj h cs=h++[.cells ⟨cs,0,0,false⟩]:=rfl
theorem b3R {cs:List AV}(h1:cs.all AV.one=true):newVar h cs=some (.ptr h.length 0 cs.length 0,mkObj h cs):=c1a h h1
section
variable (k:IntKind) (n:Int) (b:Bool) (s:ByteArray) (o off hi g sz:Nat) (lim:Option Nat) (cs:List AV) (t:TypeId) (v:AV)
theorem a4x:(AV.int k n).one=true:=rfl
theorem b1z:(AV.bool b).one=true:=rfl
theorem b2H:(AV.str s).one=true:=rfl
theorem b2I:(AV.ptr o off hi g).one=true:=rfl
theorem b4r:(AV.sl o off hi sz lim g).one=true:=rfl
theorem b1A:AV.nils.one=true:=rfl
theorem b1B:AV.nilp.one=true:=rfl
theorem b2J:(AV.ifc t v).one=true:=rfl
theorem b2K:(AV.map o).one=true:=rfl
theorem a1C:(AV.int k n).cells=[.int k n]:=rfl
theorem a8r:(AV.bool b).cells=[.bool b]:=rfl
theorem a9R:(AV.str s).cells=[.str s]:=rfl
theorem a9S:(AV.ptr o off hi g).cells=[.ptr o off hi g]:=rfl
theorem b1C:(AV.sl o off hi sz lim g).cells=[.sl o off hi sz lim g]:=rfl
theorem a8s:AV.nils.cells=[.nils]:=rfl
theorem a8t:AV.nilp.cells=[.nilp]:=rfl
theorem a9T:(AV.ifc t v).cells=[.ifc t v]:=rfl
theorem a9U:(AV.map o).cells=[.map o]:=rfl
theorem a9V:(AV.agg cs).cells=cs:=rfl
end
theorem b8F (cs:List AV):fillP cs []=some cs:=rfl
theorem b8G {cs:List AV}{off size:Nat}{v:AV}{r:List (Nat × Nat × AV)}(h1:v.cells.length=size)(h2:off+size<=cs.length)(h3:v.cells.all AV.one=true):fillP cs ((off,size,v)::r)=fillP (setAll cs off v.cells) r:=if_pos ⟨h1,h2,h3⟩
theorem b7s (z:List AV)(ps:List (Nat × Nat × AV)):buildV z ps=(fillP z ps).map .agg:=rfl
def bsl (sz len:Nat)(h:Heap)(x:Option (List AV)):Option (AV × Heap):=match x with
 |some cs=>if cs.all AV.one=true/\cs.length=len*sz then some (.sl h.length 0 len sz none 0,mkObj h cs) else none
 |none=>none
theorem b5z (sz len:Nat)(z:List AV)(ps:List (Nat × Nat × AV))(h:Heap):buildSl sz len z ps h=bsl sz len h (fillP z ps):=rfl
theorem bsl_i {sz len:Nat}{cs:List AV}(h1:cs.all AV.one=true)(h2:cs.length=len*sz):bsl sz len h (some cs)=some (.sl h.length 0 len sz none 0,mkObj h cs):=if_pos ⟨h1,h2⟩
theorem c1j {zero:List AV}{sz bytes:Nat}{l c:Int}(h1:0<=l)(h2:l<=c)(h3:c*bytes<=140737488355328)(h4:c<=140737488355328)(h5:zero.length=sz)(h6:zero.all AV.one=true) :
  mkSl zero sz bytes (I l) (I c) h=some (.sl h.length 0 l.toNat sz none 0,mkObj h ((List.replicate l.toNat zero).flatten)):=if_pos ⟨h1,h2,h3,h4,h5,h6⟩
theorem Ext.app (a:Ext h H)(t:Heap):Ext h (H++t):=a.trans (Ext.push H t)
theorem Ext.mk (a:Ext h H)(cs:List AV):Ext h (mkObj H cs):=a.trans (Ext.push H _)
theorem Ext.setr (a:Ext h H){o:Nat}(ho:h.length<=o)(x:AObj):Ext h (H.set o x):=a.set ho x
theorem Ext.def (a:Ext h h'):∃t,h'=h++t:=let ⟨t,e⟩:=a; ⟨t,e.symm⟩
def gi {α:Type}[Inhabited α](xs:List α)(i:Int):α:=xs.getD i.toNat default
theorem c1_ {α:Type}[Inhabited α]{xs:List α}{i:Int}(h0:0<=i)(h1:i<xs.length):xs[i.toNat]?=some (gi xs i):=by
 have:i.toNat<xs.length:=oM
 simp[gi,List.getD_eq_getElem?_getD,this]
theorem b7_ {α:Type}[Inhabited α]{xs:List α}{i:Int}(h0:0<=i)(h1:i<xs.length):gi xs i∈xs:=List.mem_of_getElem? (c1_ h0 h1)
theorem b2_ {α:Type}[Inhabited α]{xs:List α}{n:Nat}(h1:n<xs.length):gi xs (n:Int)=xs[n]:=by
 simp[gi,List.getD_eq_getElem?_getD,h1]
section
variable {h H:Heap} {sz:Nat} {s:AV} {α:Type} [Inhabited α] {enc:α->List AV} {xs:List α} {i:Int}
theorem Sl.idxG (a:Sl h sz s (xs.map enc))⦃i:Int⦄(h0:0<=i)(h1:i<xs.length):idxS sz s (I i)=some (elP sz s i):=by
 rcases a with ⟨rfl,h2⟩|⟨o,off,lim,g,c,rfl,_⟩
 ·rw[List.map_eq_nil_iff] at h2; subst h2; simp at h1; omega
 ·simp[idxS,elP,h0,h1]
theorem Sl.lenG (a:Sl h sz s (xs.map enc)):lenS s=some (I xs.length):=by rw[a.len,List.length_map]
theorem Sl.atG (a:Sl h sz s (xs.map enc)){i:Int}(e:Ext h H)(h0:0<=i)(h1:i<xs.length):At H (elP sz s i) (enc (gi xs i)):=by
 have hx:(xs.map enc)[i.toNat]?=some (enc (gi xs i)):=by simp[c1_ h0 h1]
 obtain ⟨p,h2,h3⟩:=(a.ext e).idx hx
 have h4:=a.idxG h0 h1
 rw[show ((i.toNat:Nat):Int)=i by omega] at h2
 rw[h2] at h4
 injection h4 with h4
 rw[<-h4]; exact h3
theorem At.ldf (a:At h p cs){d:Nat}(hd:d<cs.length):Gm.ld1 h (fldP d p)=some (cs.getD d .undef):=by
 obtain ⟨p',h1,h2⟩:=a.cell (d:=d) (List.getElem?_eq_getElem hd)
 obtain ⟨o,off,hi,g,c,rfl,_⟩:=a
 injection h1 with h1
 rw[a6V,h1,h2,List.getD_eq_getElem?_getD,List.getElem?_eq_getElem hd]; rfl
theorem At.ld0 (a:At h p cs)(hd:0<cs.length):Gm.ld1 h p=some (cs.getD 0 .undef):=by
 have:=a.ldf hd
 obtain ⟨o,off,hi,g,c,rfl,_⟩:=a
 exact this
theorem Sl.encLen (a:Sl h sz s (xs.map enc)){i:Int}(h0:0<=i)(h1:i<xs.length):(enc (gi xs i)).length=sz:=by
 rcases a with ⟨rfl,h2⟩|⟨o,off,lim,g,c,rfl,_,_,_,h5⟩
 ·rw[List.map_eq_nil_iff] at h2; subst h2; simp at h1; omega
 ·exact h5 _ (List.mem_map_of_mem (b7_ h0 h1))
theorem Sl.ldf (a:Sl h sz s (xs.map enc))(d:Nat)⦃H:Heap⦄⦃i:Int⦄(e:Ext h H)(h0:0<=i)(h1:i<xs.length)(hd:d<sz):Gm.ld1 H (fldP d (elP sz s i))=some ((enc (gi xs i)).getD d .undef):=(a.atG e h0 h1).ldf (by rw[a.encLen h0 h1]; exact hd)
theorem Sl.ld0 (a:Sl h sz s (xs.map enc))⦃H:Heap⦄⦃i:Int⦄(e:Ext h H)(h0:0<=i)(h1:i<xs.length)(hd:0<sz):Gm.ld1 H (elP sz s i)=some ((enc (gi xs i)).getD 0 .undef):=(a.atG e h0 h1).ld0 (by rw[a.encLen h0 h1]; exact hd)
theorem Sl.ldN (a:Sl h sz s (xs.map enc))⦃H:Heap⦄⦃i:Int⦄(e:Ext h H)(h0:0<=i)(h1:i<xs.length):Gm.ldN sz H (elP sz s i)=some (.agg (enc (gi xs i))):=by
 have h2:=(a.atG e h0 h1).ldN (n:=sz) (by rw[a.encLen h0 h1]; exact Nat.le_refl _)
 rw[h2,List.take_of_length_le (by rw[a.encLen h0 h1]; exact Nat.le_refl _)]
end
section
variable {h H:Heap} {p:AV} {cs:List AV}
theorem At.fldA0 (a:At h p cs)(d:Nat):fldA d p=some (fldP d p):=by
 obtain ⟨o,off,hi,g,c,rfl,_⟩:=a; rfl
theorem At.fldAf (a:At h p cs)(d e:Nat):fldA d (fldP e p)=some (fldP (e+d) p):=by
 obtain ⟨o,off,hi,g,c,rfl,_⟩:=a; simp[fldP,fldA,Nat.add_assoc]
theorem At.nilf (a:At h p cs)(e:Nat):nilCk (fldP e p)=some (fldP e p):=by
 obtain ⟨o,off,hi,g,c,rfl,_⟩:=a; rfl
theorem At.ldfE (a:At h p cs)(d:Nat)⦃H:Heap⦄(e:Ext h H)(hd:d<cs.length):Gm.ld1 H (fldP d p)=some (cs.getD d .undef):=(a.ext e).ldf hd
theorem At.ld0E (a:At h p cs)⦃H:Heap⦄(e:Ext h H)(hd:0<cs.length):Gm.ld1 H p=some (cs.getD 0 .undef):=(a.ext e).ld0 hd
theorem At.neq (a:At h p cs):binV .neq .ptr p .nilp=some (.bool true):=by
 obtain ⟨o,off,hi,g,c,rfl,_⟩:=a; rfl
theorem At.eql (a:At h p cs):binV .eql .ptr p .nilp=some (.bool false):=by
 obtain ⟨o,off,hi,g,c,rfl,_⟩:=a; rfl
end
end Go.Gm
namespace Go.Gm
def Fr (lo hi:Nat)(h h':Heap):Prop:=h.length<=h'.length/\∀o,(o<lo\/hi<=o)->o<h.length->h'[o]?=h[o]?
theorem Fr.get (a:Fr lo hi h h'){o:Nat}(h1:o<lo\/hi<=o)(h2:o<h.length):h'[o]?=h[o]?:=a.2 o h1 h2
theorem Fr.len (a:Fr lo hi h h'):h.length<=h'.length:=a.1
theorem Fr.refl (lo hi:Nat)(h:Heap):Fr lo hi h h:=⟨Nat.le_refl _,λ_ _ _=>rfl⟩
theorem Fr.trans (a:Fr lo hi h h')(b:Fr lo hi h' h''):Fr lo hi h h'':=
 ⟨Nat.le_trans a.1 b.1,λo h1 h2=>(b.2 o h1 (Nat.lt_of_lt_of_le h2 a.1)).trans (a.2 o h1 h2)⟩
theorem Fr.mono {lo hi lo' hi':Nat}(a:Fr lo hi h h')(h1:lo'<=lo)(h2:hi<=hi'):Fr lo' hi' h h':=
 ⟨a.1,λo k1 k2=>a.2 o oM k2⟩
theorem a3i:Ext h h'↔h.length<=h'.length/\∀o,o<h.length->h'[o]?=h[o]?:=by
 constructor
 ·rintro ⟨t,rfl⟩
  exact ⟨by simp,λo ho=>List.getElem?_append_left ho⟩
 ·rintro ⟨h1,h2⟩
  refine ⟨h'.drop h.length,?_⟩
  apply List.ext_getElem?
  intro i
  by_cases hi:i<h.length
  ·rw[List.getElem?_append_left hi,h2 i hi]
  ·rw[List.getElem?_append_right oM,List.getElem?_drop]
   congr 1
   omega
theorem Fr.ext (a:Fr lo hi h h')(e:Ext h0 h)(hl:h0.length<=lo):Ext h0 h':=by
 rw[a3i] at *
 exact ⟨Nat.le_trans e.1 a.1,λo ho=>(a.2 o oM oM).trans (e.2 o ho)⟩
theorem Fr.ofExt (e:Ext h h'):Fr lo hi h h':=by
 rw[a3i] at e
 exact ⟨e.1,λo _ ho=>e.2 o ho⟩
theorem Fr.set {lo hi:Nat}(h:Heap){o:Nat}(h1:lo<=o)(h2:o<hi)(x:AObj):Fr lo hi h (h.set o x):=
 ⟨by simp,λp k1 k2=>List.getElem?_set_ne oM⟩
def Gr (lo hi:Nat)(h:Heap)(sz:Nat)(s:AV)(xs:List (List AV)):Prop:=
 (s=.nils/\xs=[])\/∃o g wg cs,lo<=o/\o<hi/\s=.sl o 0 xs.length sz none g/\h[o]?=some (.cells ⟨cs,g,wg,false⟩)/\wg<=g/\cs.take (xs.length*sz)=xs.flatten/\∀x∈xs,x.length=sz
theorem Gr.nil (lo hi:Nat)(h:Heap)(sz:Nat):Gr lo hi h sz .nils []:=.inl ⟨rfl,rfl⟩
theorem flatten_len {sz:Nat}:∀{xs:List (List AV)},(∀x∈xs,x.length=sz)->xs.flatten.length=xs.length*sz
 |[],_=>by simp
 |x::xs,h=>by
  rw[List.flatten_cons,List.length_append,h x (by simp),flatten_len (λy hy=>h y (List.mem_cons_of_mem _ hy)),List.length_cons,Nat.add_mul]
  omega
theorem Gr.sl (a:Gr lo hi h sz s xs):Sl h sz s xs:=by
 rcases a with a|⟨o,g,wg,cs,h1,h2,h3,h4,h5,h6,h7⟩
 ·exact .inl a
 ·exact .inr ⟨o,0,none,g,_,h3,h4,h5,by rw[List.drop_zero]; exact h6,h7⟩
theorem Gr.fr (a:Gr lo hi h sz s xs)(f:Fr lo' hi' h h')(hd:hi<=lo'\/hi'<=lo):Gr lo hi h' sz s xs:=by
 rcases a with a|⟨o,g,wg,cs,h1,h2,h3,h4,h5⟩
 ·exact .inl a
 ·exact .inr ⟨o,g,wg,cs,h1,h2,h3,by rw[f.get oM (List.getElem?_eq_some_iff.1 h4).1]; exact h4,h5⟩
theorem Gr.ext (a:Gr lo hi h sz s xs)(e:Ext h h'):Gr lo hi h' sz s xs:=by
 rcases a with a|⟨o,g,wg,cs,h1,h2,h3,h4,h5⟩
 ·exact .inl a
 ·exact .inr ⟨o,g,wg,cs,h1,h2,h3,e.get h4,h5⟩
theorem Gr.mono {lo hi lo' hi':Nat}(a:Gr lo hi h sz s xs)(h1:lo'<=lo)(h2:hi<=hi'):Gr lo' hi' h sz s xs:=by
 rcases a with a|⟨o,g,wg,cs,k1,k2,h3,h4,h5⟩
 ·exact .inl a
 ·exact .inr ⟨o,g,wg,cs,oM,oM,h3,h4,h5⟩
theorem Gr.set (a:Gr lo hi h sz s xs){o:Nat}(ho:o<lo\/hi<=o)(x:AObj):Gr lo hi (h.set o x) sz s xs:=by
 rcases a with a|⟨p,g,wg,cs,h1,h2,h3,h4,h5⟩
 ·exact .inl a
 ·exact .inr ⟨p,g,wg,cs,h1,h2,h3,by rw[List.getElem?_set_ne oM]; exact h4,h5⟩
theorem Gr.app (a:Gr lo hi h sz s xs)(t:Heap):Gr lo hi (h++t) sz s xs:=a.ext (Ext.push h t)
theorem Gr.low (a:Gr lo hi h sz s xs)(n:Nat)(hn:h.length<=n):Gr lo n h sz s xs:=by
 rcases a with a|⟨p,g,wg,cs,h1,h2,h3,h4,h5⟩
 ·exact .inl a
 ·exact .inr ⟨p,g,wg,cs,h1,by have:=(List.getElem?_eq_some_iff.1 h4).1; omega,h3,h4,h5⟩
theorem Sl.one (a:Sl h sz s xs):s.one=true:=by
 rcases a with ⟨rfl,_⟩|⟨o,off,lim,g,c,rfl,_⟩<;>rfl
theorem Sl.cells (a:Sl h sz s xs):s.cells=[s]:=by
 rcases a with ⟨rfl,_⟩|⟨o,off,lim,g,c,rfl,_⟩<;>rfl
theorem Sl.sub (a:Sl h sz s xs):True:=trivial
theorem Sl.news (a:Sl h sz s xs):news sz s h=some (xs.length,xs.flatten):=by
 rcases a with ⟨rfl,rfl⟩|⟨o,off,lim,g,c,rfl,h2,h3,h4,h5⟩
 ·rfl
 ·simp only[Gm.news,if_true,rdc,h2,if_pos h3,h4,Option.map_some]
theorem Gr.appendS {sz bytes:Nat}(a:Gr lo hi h sz s xs)(b:Sl h sz x ys)(hsz:0<sz)(hb:0<bytes)(hl:(xs.length+ys.length)*bytes<=140737488355328)(hlo:lo<=h.length)(hhi:hi<=h.length) :
  ∃s' h',apnd sz bytes s x h=some (s',h')/\Gr lo h'.length h' sz s' (xs++ys)/\Fr lo hi h h'/\(s≠.nils->Gr lo hi h' sz s' (xs++ys)/\s'≠.nils):=by
 have hys:∀y∈ys,y.length=sz:=by
  rcases b with ⟨_,rfl⟩|⟨_,_,_,_,_,_,_,_,_,h5⟩
  ·simp
  ·exact h5
 have hfl:=flatten_len hys
 simp only[apnd,b.news]
 rcases a with ⟨rfl,rfl⟩|⟨o,g,wg,cs,h1,h2,rfl,h4,h5,h6,h7⟩
 ·simp only[List.length_nil,Nat.zero_add] at hl
  by_cases h0:ys.length=0
  ·have:=List.eq_nil_of_length_eq_zero h0
   subst this
   exact ⟨.nils,h,rfl,.inl ⟨rfl,rfl⟩,Fr.refl _ _ _,λq=>absurd rfl q⟩
  ·refine ⟨.sl h.length 0 ys.length sz none 0,mkObj h ys.flatten,?_,.inr ⟨h.length,0,0,ys.flatten,hlo,by simp[mkObj],rfl,by simp[mkObj],Nat.le_refl _,List.take_of_length_le (by rw[hfl]; exact Nat.le_refl _),hys⟩,Fr.ofExt (Ext.push h _),λq=>absurd rfl q⟩
   simp only[if_neg h0]
   rw[if_pos ⟨hl,hfl,hsz,hb⟩]
 ·by_cases h0:ys.length=0
  ·have:=List.eq_nil_of_length_eq_zero h0
   subst this
   simp only[List.append_nil]
   exact ⟨_,h,rfl,.inr ⟨o,g,wg,cs,h1,oM,rfl,h4,h5,h6,h7⟩,Fr.refl _ _ _,λ_=>⟨.inr ⟨o,g,wg,cs,h1,h2,rfl,h4,h5,h6,h7⟩,by simp⟩⟩
  ·have hox:=(List.getElem?_eq_some_iff.1 h4).1
   have hgr:∀hi',o<hi'->Gr lo hi' (h.set o (.cells ⟨(xs++ys).flatten,g+1,(if xs.length*sz=cs.length then wg else g+1),false⟩)) sz (.sl o 0 (xs.length+ys.length) sz none (g+1)) (xs++ys):=by
    intro hi' hhi'
    refine .inr ⟨o,g+1,(if xs.length*sz=cs.length then wg else g+1),(xs++ys).flatten,h1,hhi',by simp,by simp[hox],by split<;>omega,?_,?_⟩
    ·refine List.take_of_length_le ?_
     rw[flatten_len (sz:=sz)]
     ·exact Nat.le_refl _
     ·intro x hx
      rcases List.mem_append.1 hx with hx|hx
      ·exact h7 x hx
      ·exact hys x hx
    ·intro x hx
     rcases List.mem_append.1 hx with hx|hx
     ·exact h7 x hx
     ·exact hys x hx
   refine ⟨.sl o 0 (xs.length+ys.length) sz none (g+1),h.set o (.cells ⟨(xs++ys).flatten,g+1,(if xs.length*sz=cs.length then wg else g+1),false⟩),?_,hgr _ (by simp; omega),⟨by simp,λp k1 k2=>List.getElem?_set_ne oM⟩,λ_=>⟨hgr _ h2,by simp⟩⟩
   simp only[if_neg h0,true_and]
   rw[if_neg (by simp only[Classical.not_not]; exact ⟨hl,hfl,hsz,hb⟩)]
   simp only[h4,and_self,if_true,h6]
   simp
theorem Gr.append {sz bytes:Nat}(a:Gr lo hi h sz s xs)(b:Sl h sz x ys)(hsz:0<sz)(hb:0<bytes)(hl:(xs.length+ys.length)*bytes<=140737488355328)(hlo:lo<=h.length)(hhi:hi<=h.length) :
  ∃s' h',apnd sz bytes s x h=some (s',h')/\Gr lo h'.length h' sz s' (xs++ys)/\Fr lo hi h h':=
 let ⟨s',h',h1,h2,h3,_⟩:=a.appendS b hsz hb hl hlo hhi
 ⟨s',h',h1,h2,h3⟩
theorem Gr.append1 {sz bytes:Nat}(a:Gr lo hi h sz s xs){v:List AV}(hv:v.length=sz)(hsz:0<sz)(hb:0<bytes)(hl:(xs.length+1)*bytes<=140737488355328)(hlo:lo<=h.length)(hhi:hi<=h.length) :
  ∃s' h',apnd sz bytes s (.sl h.length 0 1 sz none 0) (mkObj h v)=some (s',h')/\Gr lo h'.length h' sz s' (xs++[v])/\Fr lo hi h h':=by
 have b:Sl (mkObj h v) sz (.sl h.length 0 1 sz none 0) [v]:=.inr ⟨h.length,0,none,0,_,rfl,by simp[mkObj]; rfl,Nat.le_refl _,by simp[List.take_of_length_le (Nat.le_of_eq hv)],by simp[hv]⟩
 obtain ⟨s',h',h1,h2,h3⟩:=(a.ext (Ext.push h _)).append b hsz hb (by simpa using hl) (by simp[mkObj]; omega) (by simp[mkObj]; omega)
 refine ⟨s',h',h1,h2,?_⟩
 exact (Fr.ofExt (lo:=lo) (hi:=hi) (Ext.push h _)).trans h3
theorem b8H {sz bytes:Nat}(b:Sl h sz x ys)(hsz:0<sz)(hb:0<bytes)(hl:ys.length*bytes<=140737488355328) :
  ∃s' h',apnd sz bytes (.sl h.length 0 0 sz none 0) x (mkObj h [])=some (s',h')/\Gr h.length h'.length h' sz s' ys/\Ext h h':=by
 have a:Gr h.length (h.length+1) (mkObj h []) sz (.sl h.length 0 0 sz none 0) []:=.inr ⟨h.length,0,0,[],Nat.le_refl _,oM,rfl,by simp[mkObj],Nat.le_refl _,by simp,by simp⟩
 obtain ⟨s',h',h1,h2,h3⟩:=a.append (b.ext (Ext.push h _)) hsz hb (by simpa using hl) (by simp[mkObj]) (by simp[mkObj])
 exact ⟨s',h',h1,h2,h3.ext (Ext.push h _) (Nat.le_refl _)⟩
theorem Gr.make {h:Heap}{sz:Nat}{z:List AV}(hz:z.length=sz)(n:Nat):Gr h.length (h.length+1) (mkObj h (List.replicate n z).flatten) sz (.sl h.length 0 n sz none 0) (List.replicate n z):=by
 refine .inr ⟨h.length,0,0,(List.replicate n z).flatten,Nat.le_refl _,oM,by simp,by simp[mkObj],Nat.le_refl _,?_,?_⟩
 ·refine List.take_of_length_le ?_
  rw[flatten_len (sz:=sz)]
  ·exact Nat.le_refl _
  ·intro x hx; rw[(List.mem_replicate.1 hx).2]; exact hz
 ·intro x hx; rw[(List.mem_replicate.1 hx).2]; exact hz
theorem g0_ {zero:List AV}{sz bytes:Nat}{n:Int}(h:Heap)(h1:0<=n)(h3:n*bytes<=140737488355328)(h4:n<=140737488355328)(h5:zero.length=sz)(h6:zero.all AV.one=true) :
  ∃s h',mkSl zero sz bytes (I n) (I n) h=some (s,h')/\Gr h.length (h.length+1) h' sz s (List.replicate n.toNat zero)/\Ext h h'/\s≠.nils/\h'.length=h.length+1:=
 ⟨_,_,c1j h1 (Int.le_refl _) h3 h4 h5 h6,Gr.make h5 _,Ext.push h _,by simp,by simp[mkObj]⟩
theorem Gr.empty (h:Heap)(sz:Nat):Gr h.length (h.length+1) (mkObj h []) sz (.sl h.length 0 0 sz none 0) []:=
 .inr ⟨h.length,0,0,[],Nat.le_refl _,oM,rfl,by simp[mkObj],Nat.le_refl _,by simp,by simp⟩
theorem Gr.lit {h:Heap}{sz:Nat}{v:List AV}(hv:v.length=sz):Gr h.length (h.length+1) (mkObj h v) sz (.sl h.length 0 1 sz none 0) [v]:=by
 refine .inr ⟨h.length,0,0,v,Nat.le_refl _,oM,rfl,by simp[mkObj],Nat.le_refl _,?_,by simp[hv]⟩
 simp[List.take_of_length_le (Nat.le_of_eq hv)]
theorem Gr.take (a:Gr lo hi h sz s xs){n:Int}(h0:0<=n)(h1:n<=xs.length)(hs:s≠.nils):∃s',slSl sz s none (some (I n)) none=some s'/\Gr lo hi h sz s' (xs.take n.toNat)/\s'≠.nils:=by
 rcases a with ⟨rfl,rfl⟩|⟨o,g,wg,cs,k1,k2,rfl,k4,k5,k6,k7⟩
 ·exact absurd rfl hs
 ·refine ⟨.sl o 0 n.toNat sz none g,?_,.inr ⟨o,g,wg,cs,k1,k2,?_,k4,k5,?_,λx hx=>k7 x (List.mem_of_mem_take hx)⟩,by simp⟩
  ·have:n.toNat<=xs.length:=oM
   simp[slSl,bnd,h0,this]
  ·rw[List.length_take]; congr 1; omega
  ·rw[List.length_take,Nat.min_eq_left (by omega:n.toNat<=xs.length)]
   have h2:(cs.take (xs.length*sz)).take (n.toNat*sz)=xs.flatten.take (n.toNat*sz):=by rw[k6]
   rw[List.take_take,Nat.min_eq_left (Nat.mul_le_mul_right _ oM)] at h2
   rw[h2]
   have h3:xs=xs.take n.toNat++xs.drop n.toNat:=(List.take_append_drop _ _).symm
   conv=>lhs; rw[h3,List.flatten_append]
   have h4:(xs.take n.toNat).flatten.length=n.toNat*sz:=by
    rw[flatten_len (sz:=sz) (λx hx=>k7 x (List.mem_of_mem_take hx)),List.length_take,Nat.min_eq_left (by omega:n.toNat<=xs.length)]
   rw[List.take_append_of_le_length oM,List.take_of_length_le oM]
theorem b2t:∀(vs cs:List AV) (off:Nat),(setAll cs off vs).length=cs.length
 |[],_,_=>rfl
 |v::vs,cs,off=>by simp[setAll,b2t vs]
theorem a9W:∀(vs cs:List AV) (off i:Nat),off+vs.length<=cs.length->(setAll cs off vs)[i]?=if off<=i/\i<off+vs.length then vs[i-off]? else cs[i]?
 |[],cs,off,i,_=>by
  rw[if_neg (by simp only[List.length_nil]; omega)]; rfl
 |v::vs,cs,off,i,h=>by
  simp only[List.length_cons] at h
  rw[setAll,a9W vs _ _ _ (by simp; omega)]
  by_cases h1:off+1<=i/\i<off+1+vs.length
  ·rw[if_pos h1,if_pos (by simp; omega)]
   rw[show i-off=(i-(off+1))+1 by omega,List.getElem?_cons_succ]
  ·rw[if_neg h1]
   by_cases h2:i=off
   ·subst h2
    rw[if_pos (by simp)]
    simp only[Nat.sub_self,List.getElem?_cons_zero]
    rw[List.getElem?_set_self oM]
   ·rw[if_neg (by simp; omega),List.getElem?_set_ne oM]
theorem b0n {sz:Nat}:∀{xs:List (List AV)},(∀x∈xs,x.length=sz)->∀(i j:Nat),j<sz->xs.flatten[i*sz+j]?=(xs[i]?).bind λx=>x[j]?
 |[],_,i,j,_=>by simp
 |x::xs,hx,0,j,hj=>by
  have h1:=hx x (by simp)
  rw[List.flatten_cons,Nat.zero_mul,Nat.zero_add,List.getElem?_append_left oM]
  rfl
 |x::xs,hx,i+1,j,hj=>by
  have h1:=hx x (by simp)
  rw[List.flatten_cons,List.getElem?_append_right (by rw[h1,Nat.add_mul]; omega),h1,show (i+1)*sz+j-sz=i*sz+j by rw[Nat.add_mul]; omega,b0n (λy hy=>hx y (List.mem_cons_of_mem _ hy)) i j hj]
  rfl
theorem Gr.write (a:Gr lo hi h sz s xs){i:Int}(h0:0<=i)(hx:xs[i.toNat]?=some x)(d n:Nat){v:AV}(hv:v.cells.length=n)(hd:d+n<=sz)(h1:v.cells.all AV.one=true) :
  ∃h',stN n h (fldP d (elP sz s i)) v=some h'/\Gr lo hi h' sz s (xs.set i.toNat (setAll x d v.cells))/\Fr lo hi h h'/\h'.length=h.length:=by
 have hi':=(List.getElem?_eq_some_iff.1 hx).1
 rcases a with ⟨rfl,rfl⟩|⟨o,g,wg,cs,k1,k2,rfl,k4,k5,k6,k7⟩
 ·simp at hx
 have hlen:xs.length*sz<=cs.length:=by
  have:=congrArg List.length k6
  rw[List.length_take,flatten_len k7] at this
  omega
 have hle:i.toNat*sz+sz<=xs.length*sz:=by
  have:(i.toNat+1)*sz<=xs.length*sz:=Nat.mul_le_mul_right _ hi'
  rw[Nat.add_mul,Nat.one_mul] at this; exact this
 have hxl:x.length=sz:=k7 x (List.mem_of_getElem? hx)
 have hox:=(List.getElem?_eq_some_iff.1 k4).1
 refine ⟨h.set o (.cells ⟨setAll cs (i.toNat*sz+d) v.cells,g,g,false⟩),?_,.inr ⟨o,g,g,setAll cs (i.toNat*sz+d) v.cells,k1,k2,by simp,by simp[hox],Nat.le_refl _,?_,?_⟩,Fr.set _ k1 k2 _,by simp⟩
 ·simp only[elP,fldP,Nat.zero_add,b0V,k4]
  exact g5_ hv rfl oM h1
 ·have hall:∀y∈xs.set i.toNat (setAll x d v.cells),y.length=sz:=by
   intro y hy
   rcases List.mem_or_eq_of_mem_set hy with hy|rfl
   ·exact k7 y hy
   ·rw[b2t,hxl]
  apply List.ext_getElem?
  intro p
  rw[List.getElem?_take]
  simp only[List.length_set]
  by_cases hsz:sz=0
  ·subst hsz
   rw[if_neg oM]
   rw[List.getElem?_eq_none]
   rw[flatten_len hall]; omega
  by_cases hp:p<xs.length*sz
  ·rw[if_pos hp]
   have hpe:p=p / sz*sz+p % sz:=by rw[Nat.mul_comm]; exact (Nat.div_add_mod p sz).symm
   have hpm:p % sz<sz:=Nat.mod_lt _ oM
   have hpd:p / sz<xs.length:=(Nat.div_lt_iff_lt_mul oM).2 hp
   rw[a9W _ _ _ _ oM]
   conv=>rhs; rw[hpe]
   rw[b0n hall _ _ hpm]
   have hcs:cs[p]?=(xs[p / sz]?).bind λy=>y[p % sz]?:=by
    rw[<-b0n k7 _ _ hpm,<-hpe,<-k6,List.getElem?_take,if_pos hp]
   by_cases hpi:p / sz=i.toNat
   ·rw[hpi,List.getElem?_set_self hi']
    simp only[Option.bind_some]
    rw[a9W _ _ _ _ oM]
    rw[hpi] at hpe
    by_cases hin:d<=p % sz/\p % sz<d+v.cells.length
    ·rw[if_pos hin,if_pos oM]
     congr 1; omega
    ·rw[if_neg hin,if_neg oM,hcs,hpi,hx]; rfl
   ·rw[List.getElem?_set_ne oM,<-hcs,if_neg]
    intro hc
    apply hpi
    have h2:i.toNat*sz<=p:=oM
    have h3:p<(i.toNat+1)*sz:=by rw[Nat.add_mul]; omega
    exact Nat.le_antisymm (Nat.le_of_lt_succ ((Nat.div_lt_iff_lt_mul oM).2 h3)) ((Nat.le_div_iff_mul_le oM).2 h2)
  ·rw[if_neg hp,List.getElem?_eq_none]
   rw[flatten_len hall,List.length_set]; omega
 ·intro y hy
  rcases List.mem_or_eq_of_mem_set hy with hy|rfl
  ·exact k7 y hy
  ·rw[b2t,hxl]
theorem c1k (sz:Nat)(s:AV)(i:Int):fldP 0 (elP sz s i)=elP sz s i:=by cases s<;>rfl
theorem Gr.write0 (a:Gr lo hi h sz s xs){i:Int}(h0:0<=i)(hx:i<xs.length){v:AV}(hv:v.cells.length=sz)(h1:v.cells.all AV.one=true) :
  ∃h',stN sz h (elP sz s i) v=some h'/\Gr lo hi h' sz s (xs.set i.toNat v.cells)/\Fr lo hi h h'/\h'.length=h.length:=by
 have hi':i.toNat<xs.length:=oM
 obtain ⟨h',k1,k2,k3⟩:=a.write h0 (List.getElem?_eq_getElem hi') 0 sz hv oM h1
 have hxl:(xs[i.toNat]).length=sz:=by
  rcases a with ⟨_,rfl⟩|⟨_,_,_,_,_,_,_,_,_,_,k7⟩
  ·simp at hi'
  ·exact k7 _ (List.getElem_mem hi')
 rw[c1k] at k1
 refine ⟨h',k1,?_,k3⟩
 have:setAll (xs[i.toNat]) 0 v.cells=v.cells:=by
  apply List.ext_getElem?
  intro j
  rw[a9W _ _ _ _ oM]
  by_cases hj:j<v.cells.length
  ·rw[if_pos oM]; rfl
  ·rw[if_neg oM,List.getElem?_eq_none oM,List.getElem?_eq_none oM]
 rw[this] at k2
 exact k2
theorem Sl.cut (a:Sl h sz s xs):∃s',slSl sz s none (some (I xs.length)) (some (I xs.length))=some s'/\Sl h sz s' xs:=by
 rcases a with ⟨rfl,rfl⟩|⟨o,off,lim,g,c,rfl,h2,h3,h4,h5⟩
 ·exact ⟨.nils,rfl,.inl ⟨rfl,rfl⟩⟩
 ·refine ⟨.sl o off xs.length sz (some xs.length) g,?_,.inr ⟨o,off,some xs.length,g,c,rfl,h2,h3,h4,h5⟩⟩
  simp[slSl,bnd]
theorem Sl.map {xs ys:List (List AV)}(a:Sl h sz s xs)(e:xs=ys):Sl h sz s ys:=e▸a
theorem Gr.cong {xs ys:List (List AV)}(a:Gr lo hi h sz s xs)(e:xs=ys):Gr lo hi h sz s ys:=e▸a
def FrS (D:Nat->Prop)(h h':Heap):Prop:=h.length<=h'.length/\∀o,¬D o->o<h.length->h'[o]?=h[o]?
theorem FrS.len (a:FrS D h h'):h.length<=h'.length:=a.1
theorem FrS.get (a:FrS D h h')(h1:¬D o)(h2:o<h.length):h'[o]?=h[o]?:=a.2 o h1 h2
theorem FrS.refl (D:Nat->Prop)(h:Heap):FrS D h h:=⟨Nat.le_refl _,λ_ _ _=>rfl⟩
theorem FrS.trans (a:FrS D h h')(b:FrS D h' h''):FrS D h h'':=
 ⟨Nat.le_trans a.1 b.1,λo h1 h2=>(b.2 o h1 (Nat.lt_of_lt_of_le h2 a.1)).trans (a.2 o h1 h2)⟩
theorem FrS.mono {D D':Nat->Prop}(a:FrS D h h')(hd:∀o,o<h.length->D o->D' o):FrS D' h h':=⟨a.1,λo h1 h2=>a.2 o (λq=>h1 (hd o h2 q)) h2⟩
theorem Fr.s (a:Fr lo hi h h'):FrS (λo=>lo<=o/\o<hi) h h':=⟨a.1,λo h1 h2=>a.2 o oM h2⟩
theorem FrS.ofExt (e:Ext h h'):FrS D h h':=by
 rw[a3i] at e
 exact ⟨e.1,λo _ ho=>e.2 o ho⟩
theorem FrS.ext (a:FrS D h h')(e:Ext h0 h)(hd:∀o,o<h0.length->¬D o):Ext h0 h':=by
 rw[a3i] at *
 exact ⟨Nat.le_trans e.1 a.1,λo ho=>(a.2 o (hd o ho) oM).trans (e.2 o ho)⟩
theorem Gr.frs (a:Gr lo hi h sz s xs)(f:FrS D h h')(hd:∀o,lo<=o->o<hi->¬D o):Gr lo hi h' sz s xs:=by
 rcases a with a|⟨o,g,wg,cs,h1,h2,h3,h4,h5⟩
 ·exact .inl a
 ·exact .inr ⟨o,g,wg,cs,h1,h2,h3,by rw[f.get (hd o h1 h2) (List.getElem?_eq_some_iff.1 h4).1]; exact h4,h5⟩
theorem At.row {h:Heap}{o:Nat}{cs:List AV}{g wg:Nat}{ro:Bool}(hr:h[o]?=some (.cells ⟨cs,g,wg,ro⟩)){g':Nat}(hg:wg<=g'){n:Nat}(hn:n=cs.length):At h (.ptr o 0 n g') cs:=
 ⟨o,0,n,g',_,rfl,oM,hr,hg,by simp⟩
def Fam {κ:Type}(W:Nat->Prop)(h:Heap)(sz:Nat)(A:κ->Prop)(S:κ->AV)(X:κ->List (List AV)):Prop:=
 ∃ob:κ->Nat,(∀t,A t->Gr (ob t) (ob t+1) h sz (S t) (X t)/\(S t≠.nils->W (ob t)/\ob t<h.length))/\∀t t',A t->A t'->t≠t'->S t≠.nils->S t'≠.nils->ob t≠ob t'
theorem Fam.nil {κ:Type}(W:Nat->Prop)(h:Heap)(sz:Nat){A:κ->Prop}{S:κ->AV}{X:κ->List (List AV)}(hs:∀t,A t->S t=.nils/\X t=[]):Fam W h sz A S X:=
 ⟨λ_=>0,λt ht=>⟨.inl (hs t ht),λq=>absurd (hs t ht).1 q⟩,λt t' ht _ _ q=>absurd (hs t ht).1 q⟩
theorem Fam.mono {κ:Type}{W W':Nat->Prop}{h:Heap}{sz:Nat}{A:κ->Prop}{S:κ->AV}{X:κ->List (List AV)}(f:Fam W h sz A S X)(hh:∀o,o<h.length->W o->W' o):Fam W' h sz A S X:=by
 obtain ⟨ob,h1,h2⟩:=f
 exact ⟨ob,λt ht=>⟨(h1 t ht).1,λq=>⟨hh _ ((h1 t ht).2 q).2 ((h1 t ht).2 q).1,((h1 t ht).2 q).2⟩⟩,h2⟩
theorem Fam.sl {κ:Type}{W:Nat->Prop}{h:Heap}{sz:Nat}{A:κ->Prop}{S:κ->AV}{X:κ->List (List AV)}(f:Fam W h sz A S X){t:κ}(ht:A t):Sl h sz (S t) (X t):=by
 obtain ⟨ob,h1,_⟩:=f
 exact (h1 t ht).1.sl
theorem Fam.congr {κ:Type}{W:Nat->Prop}{h:Heap}{sz:Nat}{A:κ->Prop}{S S':κ->AV}{X X':κ->List (List AV)}(f:Fam W h sz A S X)(he:∀t,A t->S' t=S t/\X' t=X t):Fam W h sz A S' X':=by
 obtain ⟨ob,h1,h2⟩:=f
 refine ⟨ob,λt ht=>?_,λt t' ht ht'=>?_⟩
 ·rw[(he t ht).1,(he t ht).2]; exact h1 t ht
 ·rw[(he t ht).1,(he t' ht').1]; exact h2 t t' ht ht'
theorem Fam.frs {κ:Type}{W:Nat->Prop}{h h':Heap}{sz:Nat}{A:κ->Prop}{S:κ->AV}{X:κ->List (List AV)}(f:Fam W h sz A S X){D:Nat->Prop}(fr:FrS D h h')(hd:∀o,o<h.length->W o->¬D o):Fam W h' sz A S X:=by
 obtain ⟨ob,h1,h2⟩:=f
 refine ⟨ob,λt ht=>?_,h2⟩
 obtain ⟨h3,h4⟩:=h1 t ht
 by_cases hn:S t=.nils
 ·refine ⟨?_,λq=>absurd hn q⟩
  rcases h3 with h3|⟨o,g,wg,cs,_,_,q,_⟩
  ·exact .inl h3
  ·rw[hn] at q; cases q
 ·obtain ⟨h5,h6⟩:=h4 hn
  exact ⟨h3.frs fr λo k1 k2=>by
   obtain rfl:o=ob t:=oM
   exact hd _ h6 h5,λ_=>⟨h5,Nat.lt_of_lt_of_le h6 fr.len⟩⟩
theorem Gr.agree {h h':Heap}(a:Gr lo hi h sz s xs)(hag:∀o,lo<=o->o<hi->o<h.length->h'[o]?=h[o]?):Gr lo hi h' sz s xs:=by
 rcases a with a|⟨o,g,wg,cs,h1,h2,h3,h4,h5⟩
 ·exact .inl a
 ·exact .inr ⟨o,g,wg,cs,h1,h2,h3,by rw[hag o h1 h2 (List.getElem?_eq_some_iff.1 h4).1]; exact h4,h5⟩
theorem Fam.slA {κ:Type}{W:Nat->Prop}{h h':Heap}{sz:Nat}{A:κ->Prop}{S:κ->AV}{X:κ->List (List AV)}(f:Fam W h sz A S X){t:κ}(ht:A t)(hag:∀o,W o->o<h.length->h'[o]?=h[o]?):Sl h' sz (S t) (X t):=by
 obtain ⟨ob,h1,_⟩:=f
 obtain ⟨h2,h3⟩:=h1 t ht
 by_cases hn:S t=.nils
 ·rcases h2 with h2|⟨o,g,wg,cs,_,_,q,_⟩
  ·exact .inl h2
  ·rw[hn] at q; cases q
 ·obtain ⟨h4,h5⟩:=h3 hn
  exact (h2.agree λo k1 k2 k3=>by
   obtain rfl:o=ob t:=oM
   exact hag _ h4 k3).sl
theorem Gr.nnil (a:Gr lo hi h sz s xs)(hx:xs≠[]):s≠.nils:=by
 rcases a with ⟨_,q⟩|⟨o,g,wg,cs,_,_,q,_⟩
 ·exact absurd q hx
 ·rw[q]; simp
theorem Fam.append {κ:Type}[DecidableEq κ]{W:Nat->Prop}{h:Heap}{sz bytes:Nat}{A:κ->Prop}{S:κ->AV}{X:κ->List (List AV)}(f:Fam W h sz A S X){t:κ}(ht:A t){x:AV}{ys:List (List AV)}(b:Sl h sz x ys)(hys:ys≠[])(hsz:0<sz)(hb:0<bytes)(hl:((X t).length+ys.length)*bytes<=140737488355328) :
  ∃s' h',apnd sz bytes (S t) x h=some (s',h')/\s'.one=true/\Fam (λo=>W o\/h.length<=o) h' sz A (λt'=>if t'=t then s' else S t') (λt'=>if t'=t then X t++ys else X t')/\FrS W h h':=by
 obtain ⟨ob,h1,h2⟩:=f
 obtain ⟨h3,h4⟩:=h1 t ht
 have hne:X t++ys≠[]:=by simp[hys]
 by_cases hn:S t=.nils
 ·have hx:X t=[]:=by
   rcases h3 with h3|⟨o,g,wg,cs,_,_,q,_⟩
   ·exact h3.2
   ·rw[hn] at q; cases q
  obtain ⟨s',h',k1,k2,k3⟩:=(Gr.nil h.length h.length h sz).append b hsz hb (by rw[hx] at hl; exact hl) (Nat.le_refl _) (Nat.le_refl _)
  rw[List.nil_append] at k2
  have hs':=k2.nnil hys
  have hfr:FrS (λo=>h.length<=o) h h':=k3.s.mono λo q1 q2=>q2.1
  refine ⟨s',h',by rw[hn]; exact k1,k2.sl.one,?_,hfr.mono λo q1 q2=>oM⟩
  rcases k2 with ⟨q,_⟩|⟨o,g,wg,cs,m1,m2,m3⟩
  ·exact absurd q hs'
  ·refine ⟨λt'=>if t'=t then o else ob t',λt' ht'=>?_,λt1 t2 a1 a2 hne12 n1 n2=>?_⟩
   ·by_cases htt:t'=t
    ·subst htt
     simp only[if_true,hx,List.nil_append]
     exact ⟨.inr ⟨o,g,wg,cs,Nat.le_refl _,oM,m3⟩,λ_=>⟨.inr m1,m2⟩⟩
    ·simp only[if_neg htt]
     obtain ⟨j1,j2⟩:=h1 t' ht'
     by_cases hn':S t'=.nils
     ·refine ⟨?_,λq=>absurd hn' q⟩
      rcases j1 with j1|⟨o,g,wg,cs,_,_,q,_⟩
      ·exact .inl j1
      ·rw[hn'] at q; cases q
     ·obtain ⟨j3,j4⟩:=j2 hn'
      exact ⟨j1.frs hfr λo k1 k2=>oM,λ_=>⟨.inl j3,Nat.lt_of_lt_of_le j4 hfr.len⟩⟩
   ·by_cases e1:t1=t
    ·subst e1
     have e2:t2≠t1:=λq=>hne12 q.symm
     simp only[if_true,if_neg e2] at n1 n2 ⊢
     have:=((h1 t2 a2).2 n2).2
     omega
    ·by_cases e2:t2=t
     ·subst e2
      simp only[if_true,if_neg e1] at n1 n2 ⊢
      have:=((h1 t1 a1).2 n1).2
      omega
     ·simp only[if_neg e1,if_neg e2] at n1 n2 ⊢
      exact h2 t1 t2 a1 a2 hne12 n1 n2
 ·obtain ⟨h5,h6⟩:=h4 hn
  obtain ⟨s',h',k1,k2,k3,k4⟩:=h3.appendS b hsz hb hl oM oM
  have hs':=k2.nnil hne
  have hfr:FrS (λo=>o=ob t) h h':=k3.s.mono λo q1 q2=>oM
  refine ⟨s',h',k1,k2.sl.one,?_,hfr.mono λo q1 q2=>q2▸h5⟩
  refine ⟨ob,λt' ht'=>?_,λt1 t2 a1 a2 hne12 n1 n2=>?_⟩
  ·by_cases htt:t'=t
   ·subst htt
    try simp only[if_true]
    exact ⟨(k4 hn).1,λ_=>⟨.inl h5,Nat.lt_of_lt_of_le h6 hfr.len⟩⟩
   ·simp only[if_neg htt]
    obtain ⟨j1,j2⟩:=h1 t' ht'
    by_cases hn':S t'=.nils
    ·refine ⟨?_,λq=>absurd hn' q⟩
     rcases j1 with j1|⟨o,g,wg,cs,_,_,q,_⟩
     ·exact .inl j1
     ·rw[hn'] at q; cases q
    ·obtain ⟨j3,j4⟩:=j2 hn'
     have:=h2 t' t ht' ht htt hn' hn
     exact ⟨j1.frs hfr λo k1 k2=>oM,λ_=>⟨.inl j3,Nat.lt_of_lt_of_le j4 hfr.len⟩⟩
  ·refine h2 t1 t2 a1 a2 hne12 ?_ ?_
   ·by_cases e1:t1=t
    ·rw[e1]; exact hn
    ·simpa [e1] using n1
   ·by_cases e1:t2=t
    ·rw[e1]; exact hn
    ·simpa [e1] using n2
theorem Gr.point (a:Gr lo hi h sz s xs):∃o,(s≠.nils->lo<=o/\o<hi/\o<h.length)/\Gr o (o+1) h sz s xs:=by
 rcases a with a|⟨o,g,wg,cs,h1,h2,h3,h4,h5⟩
 ·exact ⟨0,λq=>absurd a.1 q,.inl a⟩
 ·exact ⟨o,λ_=>⟨h1,h2,(List.getElem?_eq_some_iff.1 h4).1⟩,.inr ⟨o,g,wg,cs,Nat.le_refl _,oM,h3,h4,h5⟩⟩
theorem Gr.isNil (a:Gr lo hi h sz .nils xs):xs=[]:=by
 rcases a with a|⟨o,g,wg,cs,_,_,q,_⟩
 ·exact a.2
 ·cases q
theorem Gr.appP {sz bytes:Nat}(a:Gr o (o+1) h sz s xs)(ho:s≠.nils->o<h.length)(b:Sl h sz x ys)(hsz:0<sz)(hb:0<bytes)(hl:(xs.length+ys.length)*bytes<=140737488355328) :
  ∃s' h' o',apnd sz bytes s x h=some (s',h')/\Gr o' (o'+1) h' sz s' (xs++ys)/\(s'≠.nils->((o'=o/\s≠.nils)\/h.length<=o')/\o'<h'.length)/\FrS (λp=>s≠.nils/\p=o) h h':=by
 by_cases hn:s=.nils
 ·subst hn
  have:=a.isNil
  subst this
  obtain ⟨s',h',k1,k2,k3⟩:=(Gr.nil h.length h.length h sz).append b hsz hb hl (Nat.le_refl _) (Nat.le_refl _)
  obtain ⟨o',p1,p2⟩:=k2.point
  exact ⟨s',h',o',k1,p2,λq=>⟨.inr (p1 q).1,(p1 q).2.2⟩,k3.s.mono λp _ q=>oM⟩
 ·have ho':=ho hn
  obtain ⟨s',h',k1,k2,k3,k4⟩:=a.appendS b hsz hb hl oM oM
  have:=k3.len
  exact ⟨s',h',o,k1,(k4 hn).1,λq=>⟨.inl ⟨rfl,hn⟩,oM⟩,k3.s.mono λp _ q=>⟨hn,oM⟩⟩
end Go.Gm
namespace Go.Gm
theorem or_i {a b:Nat}(ha:a<2 ^ 62)(hb:b<2 ^ 62):binV .or .scalar (I a) (I b)=some (I ((a ||| b:Nat):Int)):=by
 show some (AV.int .i64 (bitsI .or .i64 a b))=_
 have h:a ||| b<2 ^ 62:=Nat.or_lt_two_pow ha hb
 have:bitsI .or .i64 a b=((a ||| b:Nat):Int):=by
  have key:(BitVec.ofInt 64 (a:Int) ||| BitVec.ofInt 64 (b:Int)).toNat=a ||| b:=by
   rw[BitVec.ofInt_natCast,BitVec.ofInt_natCast,BitVec.toNat_or,BitVec.toNat_ofNat,BitVec.toNat_ofNat,Nat.mod_eq_of_lt oM,Nat.mod_eq_of_lt oM]
  show IntKind.i64.wrap ((BitVec.ofInt 64 (a:Int) ||| BitVec.ofInt 64 (b:Int)).toNat:Int)=_
  rw[key]
  exact d6_ oM oM
 rw[this]
theorem and_i {a b:Nat}(ha:a<2 ^ 62)(hb:b<2 ^ 62):binV .and .scalar (I a) (I b)=some (I ((a &&& b:Nat):Int)):=by
 show some (AV.int .i64 (bitsI .and .i64 a b))=_
 have h:a &&& b<2 ^ 62:=Nat.and_lt_two_pow _ hb
 have:bitsI .and .i64 a b=((a &&& b:Nat):Int):=by
  have key:(BitVec.ofInt 64 (a:Int) &&& BitVec.ofInt 64 (b:Int)).toNat=a &&& b:=by
   rw[BitVec.ofInt_natCast,BitVec.ofInt_natCast,BitVec.toNat_and,BitVec.toNat_ofNat,BitVec.toNat_ofNat,Nat.mod_eq_of_lt oM,Nat.mod_eq_of_lt oM]
  show IntKind.i64.wrap ((BitVec.ofInt 64 (a:Int) &&& BitVec.ofInt 64 (b:Int)).toNat:Int)=_
  rw[key]
  exact d6_ oM oM
 rw[this]
theorem shl_i {m:Int}(h0:0<=m)(h1:m<62):binV .shl .scalar (I 1) (.int k m)=some (I ((2 ^ m.toNat:Nat):Int)):=by
 show shiftI .shl .i64 1 m=_
 try simp only[shiftI]
 rw[if_neg oM]
 have h2:min m.toNat IntKind.i64.bits=m.toNat:=by
  show min m.toNat 64=_; omega
 have h3:2 ^ m.toNat<=2 ^ 62:=Nat.pow_le_pow_right oM oM
 rw[h2]
 congr 2
 rw[Int.one_mul]
 have h4:((2:Int) ^ m.toNat)=((2 ^ m.toNat:Nat):Int):=by norm_cast
 rw[h4]
 generalize 2 ^ m.toNat=x at h3
 exact d6_ oM oM
theorem shr_i {k:IntKind}{s:Nat}{m:Int}(h0:0<=m)(h1:m<=64):binV .shr .scalar (I s) (.int k m)=some (I ((s >>> m.toNat:Nat):Int)):=by
 show shiftI .shr .i64 s m=_
 try simp only[shiftI]
 rw[if_neg oM]
 have h2:min m.toNat IntKind.i64.bits=m.toNat:=by
  show min m.toNat 64=_; omega
 rw[h2,Nat.shiftRight_eq_div_pow]
 congr 2
 have h4:((2:Int) ^ m.toNat)=((2 ^ m.toNat:Nat):Int):=by norm_cast
 rw[h4]
 generalize 2 ^ m.toNat=x
 rw[Int.fdiv_eq_ediv_of_nonneg _ oM]
 rfl
theorem a5n {n:Int}(h0:0<=n)(h1:n<9223372036854775808):convV .u64 (I n)=some (.int .u64 n):=by
 show some (AV.int .u64 (IntKind.u64.wrap n))=_
 congr 2
 simp[IntKind.wrap,IntKind.bits,IntKind.signed]
 omega
theorem ixA_i {n sz:Nat}{i:Int}(h0:0<=i)(h1:i<n):ixA n sz m (.agg cs) (I i)=partL cs (i.toNat*sz) m:=by
 simp[ixA,h0,h1]
theorem b8I {s:Nat}{m:Nat}:((s >>> m) &&& 1)=if s.testBit m then 1 else 0:=by
 have:=Nat.testBit_eq_decide_div_mod_eq (x:=s) (i:=m)
 rw[Nat.and_one_is_mod,Nat.shiftRight_eq_div_pow,this]
 by_cases h:s / 2 ^ m % 2=1
 ·simp[h]
 ·simp[h]; omega
theorem bit_t {s:Nat}{m:Int}(h0:0<=m)(hb:s.testBit m.toNat=true):binV .eql .scalar (I (((s >>> m.toNat) &&& 1:Nat):Int)) (I 1)=some (.bool true):=by
 rw[b8I,hb]; rfl
theorem bit_f {s:Nat}{m:Int}(h0:0<=m)(hb:s.testBit m.toNat=false):binV .eql .scalar (I (((s >>> m.toNat) &&& 1:Nat):Int)) (I 1)=some (.bool false):=by
 rw[b8I,hb]; rfl
end Go.Gm
namespace Go.Gm
def ltI (x y:Int × Int):Prop:=x.2<y.2\/(x.2=y.2/\x.1<y.1)
instance (x y:Int × Int):Decidable (ltI x y):=by unfold ltI; exact inferInstance
def par (i:Int):Int:=(i-1) / 2
def sw (xs:List (Int × Int))(i j:Int):List (Int × Int):=(xs.set i.toNat (gi xs j)).set j.toNat (gi xs i)
theorem x5_ {α:Type}[Inhabited α]{xs:List α}{i j:Int}(h0:0<=i)(h1:i<xs.length)(hj:0<=j)(x:α):gi (xs.set i.toNat x) j=if j=i then x else gi xs j:=by
 simp only[gi,List.getD_eq_getElem?_getD]
 by_cases h:j=i
 ·subst h
  rw[if_pos rfl,List.getElem?_set_self oM]; rfl
 ·rw[if_neg h,List.getElem?_set_ne oM]
theorem a7x (xs:List (Int × Int))(i j:Int):(sw xs i j).length=xs.length:=by simp[sw]
theorem gi_sw {xs:List (Int × Int)}{i j:Int}(i0:0<=i)(i1:i<xs.length)(j0:0<=j)(j1:j<xs.length){p:Int}(hp:0<=p) :
  gi (sw xs i j) p=if p=j then gi xs i else if p=i then gi xs j else gi xs p:=by
 rw[sw,x5_ j0 (by simp; exact j1) hp,x5_ i0 i1 hp]
def Hp (n:Int)(xs:List (Int × Int)):Prop:=∀i:Int,0<i->i<n->¬ltI (gi xs i) (gi xs (par i))
structure UpI (n:Int) (xs:List (Int × Int)) (j:Int):Prop where
 a:∀i,0<i->i<n->i≠j->¬ltI (gi xs i) (gi xs (par i))
 b:∀c,0<c->c<n->par c=j->0<j->¬ltI (gi xs c) (gi xs (par j))
structure DnI (n:Int) (xs:List (Int × Int)) (i:Int):Prop where
 a:∀c,0<c->c<n->par c≠i->¬ltI (gi xs c) (gi xs (par c))
 b:∀c,0<c->c<n->par c=i->0<i->¬ltI (gi xs c) (gi xs (par i))
theorem w7_ {i:Int}(h:0<i):0<=par i/\par i<i:=by unfold par; omega
theorem UpI.done (u:UpI n xs j)(h:j=0\/¬ltI (gi xs j) (gi xs (par j))):Hp n xs:=by
 intro i i0 i1
 by_cases hij:i=j
 ·subst hij
  rcases h with h|h
  ·omega
  ·exact h
 ·exact u.a i i0 i1 hij
theorem UpI.swap (u:UpI n xs j)(j0:0<j)(j1:j<n)(hn:n<=xs.length)(h:ltI (gi xs j) (gi xs (par j))):UpI n (sw xs (par j) j) (par j):=by
 have hp:=w7_ j0
 have g:∀p,0<=p->gi (sw xs (par j) j) p=if p=j then gi xs (par j) else if p=par j then gi xs j else gi xs p:=λp hp'=>gi_sw hp.1 oM oM oM hp'
 constructor
 ·intro p p0 p1 hpi
  have hpp:=w7_ p0
  rw[g p (by omega),g (par p) hpp.1]
  by_cases e1:p=j
  ·subst e1
   rw[if_pos rfl,if_neg (by omega),if_pos rfl]
   unfold ltI at *; omega
  ·rw[if_neg e1,if_neg hpi]
   have ha:=u.a p p0 p1 e1
   by_cases e2:par p=j
   ·rw[if_pos e2]
    exact u.b p p0 p1 e2 j0
   ·rw[if_neg e2]
    by_cases e3:par p=par j
    ·rw[if_pos e3]
     rw[e3] at ha
     unfold ltI at *; omega
    ·rw[if_neg e3]; exact ha
 ·intro c c0 c1 hc hpj
  have hpp:=w7_ hpj
  have hcp:=w7_ c0
  rw[g c (by omega),g (par (par j)) hpp.1,if_neg (show ¬par (par j)=j by omega),if_neg (show ¬par (par j)=par j by omega)]
  have hi:=u.a (par j) hpj oM oM
  by_cases e1:c=j
  ·rw[if_pos e1]; exact hi
  ·rw[if_neg e1,if_neg oM]
   have ha:=u.a c c0 c1 e1
   rw[hc] at ha
   unfold ltI at *; omega
theorem DnI.done (u:DnI n xs i)(h:∀c,0<c->c<n->par c=i->¬ltI (gi xs c) (gi xs i)):Hp n xs:=by
 intro c c0 c1
 by_cases hci:par c=i
 ·rw[hci]; exact h c c0 c1 hci
 ·exact u.a c c0 c1 hci
theorem DnI.swap (u:DnI n xs i)(i0:0<=i)(hj:par j=i)(j0:0<j)(j1:j<n)(hn:n<=xs.length)(h:ltI (gi xs j) (gi xs i))(hs:∀c,0<c->c<n->par c=i->¬ltI (gi xs c) (gi xs j)):DnI n (sw xs i j) j:=by
 have hp:=w7_ j0
 have g:∀p,0<=p->gi (sw xs i j) p=if p=j then gi xs i else if p=i then gi xs j else gi xs p:=λp hp'=>gi_sw i0 oM oM oM hp'
 constructor
 ·intro c c0 c1 hc
  have hcp:=w7_ c0
  rw[g c (by omega),g (par c) hcp.1,if_neg hc]
  by_cases e1:par c=i
  ·rw[if_pos e1]
   by_cases e2:c=j
   ·rw[if_pos e2]; unfold ltI at *; omega
   ·rw[if_neg e2,if_neg (by omega)]
    exact hs c c0 c1 e1
  ·rw[if_neg e1]
   by_cases e2:c=j
   ·subst e2; exact absurd hj e1
   ·rw[if_neg e2]
    by_cases e3:c=i
    ·rw[if_pos e3]; subst e3
     exact u.b j j0 j1 hj c0
    ·rw[if_neg e3]; exact u.a c c0 c1 e1
 ·intro c c0 c1 hc hj0
  have hcp:=w7_ c0
  rw[hj,g c (by omega),g i i0,if_neg (show ¬i=j by omega),if_pos rfl,if_neg (by omega),if_neg (by omega)]
  have:=u.a c c0 c1 oM
  rw[hc] at this; exact this
theorem Hp.root (h:Hp n xs):∀(d:Nat) (i:Int),i<=d->0<=i->i<n->¬ltI (gi xs i) (gi xs 0)
 |0,i,hd,i0,i1=>by
  rw[show i=0 by omega]; unfold ltI; omega
 |d+1,i,hd,i0,i1=>by
  by_cases hi:i=0
  ·rw[hi]; unfold ltI; omega
  ·have hp:=w7_ (i:=i) oM
   have h1:=h.root d (par i) oM hp.1 oM
   have h2:=h i oM i1
   unfold ltI at *; omega
structure Rep (N:Nat) (xs:List (Int × Int)) (at':List Int) (M:List (Option Int)):Prop where
 la:at'.length=N
 lm:M.length=N
 a:∀i:Int,0<=i->i<xs.length->0<=(gi xs i).1/\(gi xs i).1<N/\gi at' (gi xs i).1=i
 b:∀id:Int,0<=id->id<N->(gi at' id = -1/\gi M id=none)\/(0<=gi at' id/\gi at' id<xs.length/\(gi xs (gi at' id)).1=id/\gi M id=some (gi xs (gi at' id)).2)
theorem Rep.inj (r:Rep N xs at' M){i j:Int}(i0:0<=i)(i1:i<xs.length)(j0:0<=j)(j1:j<xs.length)(h:(gi xs i).1=(gi xs j).1):i=j:=by
 have h1:=(r.a i i0 i1).2.2
 have h2:=(r.a j j0 j1).2.2
 rw[h] at h1
 omega
theorem Rep.swap (r:Rep N xs at' M){i j:Int}(i0:0<=i)(i1:i<xs.length)(j0:0<=j)(j1:j<xs.length) :
  Rep N (sw xs i j) ((at'.set (gi xs j).1.toNat i).set (gi xs i).1.toNat j) M:=by
 have ai:=r.a i i0 i1
 have aj:=r.a j j0 j1
 have la:=r.la
 have ga:∀id,0<=id->gi ((at'.set (gi xs j).1.toNat i).set (gi xs i).1.toNat j) id=if id=(gi xs i).1 then j else if id=(gi xs j).1 then i else gi at' id:=λid h=>by
  rw[x5_ ai.1 (by simp; omega) h,x5_ aj.1 oM h]
 have gx:∀p,0<=p->gi (sw xs i j) p=if p=j then gi xs i else if p=i then gi xs j else gi xs p:=λp hp'=>gi_sw i0 i1 j0 j1 hp'
 refine ⟨by simp; exact la,r.lm,λp p0 p1=>?_,λid h0 h1=>?_⟩
 ·rw[a7x] at p1
  have ap:=r.a p p0 p1
  rw[gx p p0]
  by_cases e1:p=j
  ·rw[if_pos e1]
   refine ⟨ai.1,ai.2.1,?_⟩
   rw[ga _ ai.1,if_pos rfl,e1]
  ·rw[if_neg e1]
   by_cases e2:p=i
   ·rw[if_pos e2]
    refine ⟨aj.1,aj.2.1,?_⟩
    rw[ga _ aj.1]
    by_cases e3:(gi xs j).1=(gi xs i).1
    ·have:=r.inj j0 j1 i0 i1 e3; omega
    ·rw[if_neg e3,if_pos rfl,e2]
   ·rw[if_neg e2]
    refine ⟨ap.1,ap.2.1,?_⟩
    rw[ga _ ap.1,if_neg (λq=>e2 (r.inj p0 p1 i0 i1 q)),if_neg (λq=>e1 (r.inj p0 p1 j0 j1 q))]
    exact ap.2.2
 ·rw[ga id h0,a7x]
  rcases r.b id h0 h1 with ⟨h2,h3⟩|⟨h2,h3,h4,h5⟩
  ·left
   rw[if_neg (λq=>by rw[q] at h2; omega),if_neg (λq=>by rw[q] at h2; omega)]
   exact ⟨h2,h3⟩
  ·right
   by_cases e1:id=(gi xs i).1
   ·rw[if_pos e1,gx j j0,if_pos rfl]
    refine ⟨j0,j1,e1.symm,?_⟩
    rw[h5]
    have:gi at' id=i:=by rw[e1]; exact ai.2.2
    rw[this]
   ·rw[if_neg e1]
    by_cases e2:id=(gi xs j).1
    ·have hij:i≠j:=λq=>e1 (by rw[q]; exact e2)
     rw[if_pos e2,gx i i0,if_neg hij,if_pos rfl]
     refine ⟨i0,i1,e2.symm,?_⟩
     rw[h5]
     have:gi at' id=j:=by rw[e2]; exact aj.2.2
     rw[this]
    ·rw[if_neg e2,gx _ h2]
     have hni:gi at' id≠i:=λq=>by rw[q] at h4; exact e1 h4.symm
     have hnj:gi at' id≠j:=λq=>by rw[q] at h4; exact e2 h4.symm
     rw[if_neg hnj,if_neg hni]
     exact ⟨h2,h3,h4,h5⟩
theorem a3h {α:Type}[Inhabited α]{xs:List α}{y:α}{i:Int}(h0:0<=i)(h1:i<xs.length):gi (xs++[y]) i=gi xs i:=by
 simp only[gi,List.getD_eq_getElem?_getD]
 rw[List.getElem?_append_left oM]
theorem a6R {α:Type}[Inhabited α](xs:List α)(y:α):gi (xs++[y]) xs.length=y:=by
 simp[gi,List.getD_eq_getElem?_getD]
theorem b1x {α:Type}[Inhabited α]{xs:List α}{n:Nat}{i:Int}(h0:0<=i)(h1:i<n):gi (xs.take n) i=gi xs i:=by
 simp only[gi,List.getD_eq_getElem?_getD]
 rw[List.getElem?_take,if_pos oM]
theorem Rep.push (r:Rep N xs at' M){id key:Int}(h0:0<=id)(h1:id<N)(hn:gi at' id = -1) :
  Rep N (xs++[(id,key)]) (at'.set id.toNat xs.length) (M.set id.toNat (some key)):=by
 have la:=r.la
 have lm:=r.lm
 have ga:∀p,0<=p->gi (at'.set id.toNat (xs.length:Int)) p=if p=id then (xs.length:Int) else gi at' p:=λp hp=>x5_ h0 oM hp _
 have gm:∀p,0<=p->gi (M.set id.toNat (some key)) p=if p=id then some key else gi M p:=λp hp=>x5_ h0 oM hp _
 refine ⟨by simp; exact la,by simp; exact lm,λi i0 i1=>?_,λp p0 p1=>?_⟩
 ·simp only[List.length_append,List.length_cons,List.length_nil] at i1
  by_cases hi:i=xs.length
  ·rw[hi,a6R]
   refine ⟨h0,h1,?_⟩
   rw[ga _ h0,if_pos rfl]
  ·rw[a3h i0 oM]
   have h:=r.a i i0 oM
   refine ⟨h.1,h.2.1,?_⟩
   rw[ga _ h.1,if_neg (λq=>by rw[q] at h; omega)]
   exact h.2.2
 ·rw[ga p p0,gm p p0]
  by_cases hp:p=id
  ·right
   rw[if_pos hp,if_pos hp,a6R]
   exact ⟨oM,by simp; omega,hp.symm,rfl⟩
  ·rw[if_neg hp,if_neg hp]
   rcases r.b p p0 p1 with h|⟨h2,h3,h4,h5⟩
   ·exact .inl h
   ·right
    rw[a3h h2 h3]
    exact ⟨h2,by simp; omega,h4,h5⟩
theorem Rep.pop (r:Rep N xs at' M){n:Nat}(hn:xs.length=n+1) :
  Rep N (xs.take n) (at'.set (gi xs n).1.toNat (-1)) (M.set (gi xs n).1.toNat none):=by
 have la:=r.la
 have lm:=r.lm
 have an:=r.a n (by omega) (by omega)
 have ga:∀p,0<=p->gi (at'.set (gi xs n).1.toNat (-1)) p=if p=(gi xs n).1 then -1 else gi at' p:=fun p hp=>x5_ an.1 (by omega) hp _
 have gm:∀p,0<=p->gi (M.set (gi xs n).1.toNat none) p=if p=(gi xs n).1 then none else gi M p:=fun p hp=>x5_ an.1 (by omega) hp _
 have hl:(xs.take n).length=n:=by simp; omega
 refine ⟨by simp; exact la,by simp; exact lm,λi i0 i1=>?_,λp p0 p1=>?_⟩
 ·rw[hl] at i1
  rw[b1x i0 i1]
  have h:=r.a i i0 (by omega)
  refine ⟨h.1,h.2.1,?_⟩
  rw[ga _ h.1,if_neg (fun q=>by have:=r.inj i0 (by omega) (show (0:Int)<=n by omega) (by omega) q; omega)]
  exact h.2.2
 ·rw[ga p p0,gm p p0,hl]
  by_cases hp:p=(gi xs n).1
  ·rw[if_pos hp,if_pos hp]; exact .inl ⟨rfl,rfl⟩
  ·rw[if_neg hp,if_neg hp]
   rcases r.b p p0 p1 with h|⟨h2,h3,h4,h5⟩
   ·exact .inl h
   ·right
    have:gi at' p≠n:=λq=>by rw[q] at h4; exact hp h4.symm
    rw[b1x h2 oM]
    exact ⟨h2,oM,h4,h5⟩
theorem Rep.lower (r:Rep N xs at' M){id key:Int}(h0:0<=id)(h1:id<N)(hn:0<=gi at' id) :
  Rep N (xs.set (gi at' id).toNat (id,key)) at' (M.set id.toNat (some key)):=by
 have la:=r.la
 have lm:=r.lm
 obtain ⟨h2,h3,h4,h5⟩:0<=gi at' id/\gi at' id<xs.length/\(gi xs (gi at' id)).1=id/\gi M id=some (gi xs (gi at' id)).2:=(r.b id h0 h1).resolve_left (λq=>oM)
 have gx:∀p,0<=p->gi (xs.set (gi at' id).toNat (id,key)) p=if p=gi at' id then (id,key) else gi xs p:=λp hp=>x5_ h2 h3 hp _
 have gm:∀p,0<=p->gi (M.set id.toNat (some key)) p=if p=id then some key else gi M p:=λp hp=>x5_ h0 oM hp _
 refine ⟨la,by simp; exact lm,λi i0 i1=>?_,λp p0 p1=>?_⟩
 ·simp only[List.length_set] at i1
  rw[gx i i0]
  by_cases hi:i=gi at' id
  ·rw[if_pos hi]; exact ⟨h0,h1,hi.symm⟩
  ·rw[if_neg hi]; exact r.a i i0 i1
 ·rw[gm p p0,List.length_set]
  by_cases hp:p=id
  ·right
   rw[if_pos hp,hp,gx _ h2,if_pos rfl]
   exact ⟨h2,h3,rfl,rfl⟩
  ·rw[if_neg hp]
   rcases r.b p p0 p1 with h|⟨k2,k3,k4,k5⟩
   ·exact .inl h
   ·right
    have:gi at' p≠gi at' id:=λq=>by rw[q,h4] at k4; exact hp k4.symm
    rw[gx _ k2,if_neg this]
    exact ⟨k2,k3,k4,k5⟩
theorem Hp.lower (h:Hp n xs){p:Int}(p0:0<=p)(p1:p<n)(hn:n<=xs.length)(hx:ltI x (gi xs p)):UpI n (xs.set p.toNat x) p/\∀c,0<c->c<n->par c=p->¬ltI (gi (xs.set p.toNat x) c) (gi (xs.set p.toNat x) p):=by
 have gx:∀q,0<=q->gi (xs.set p.toNat x) q=if q=p then x else gi xs q:=λq hq=>x5_ p0 oM hq _
 refine ⟨⟨λi i0 i1 hi=>?_,λc c0 c1 hc hp=>?_⟩,λc c0 c1 hc=>?_⟩
 ·have hp:=w7_ i0
  rw[gx i oM,if_neg hi,gx _ hp.1]
  have:=h i i0 i1
  split
  ·rename_i hq
   rw[hq] at this
   unfold ltI at *; omega
  ·exact this
 ·have hcp:=w7_ c0
  have hpp:=w7_ hp
  rw[gx c oM,if_neg oM,gx _ hpp.1,if_neg oM]
  have h1:=h c c0 c1
  have h2:=h p hp p1
  rw[hc] at h1
  unfold ltI at *; omega
 ·have hcp:=w7_ c0
  rw[gx c oM,if_neg oM,gx p p0,if_pos rfl]
  have h1:=h c c0 c1
  rw[hc] at h1
  unfold ltI at *; omega
theorem Hp.push {n:Nat}{xs:List (Int × Int)}(h:Hp n xs)(hn:xs.length=n)(x:Int × Int):UpI (n+1:Nat) (xs++[x]) n:=by
 refine ⟨λi i0 i1 hi=>?_,λc c0 c1 hc hp=>?_⟩
 ·have hp:=w7_ i0
  rw[a3h oM oM,a3h hp.1 oM]
  exact h i i0 oM
 ·have:=w7_ c0
  omega
theorem Hp.begin {n:Nat}(h:Hp (n+1:Nat) xs)(hn:xs.length=n+1):DnI n (sw xs 0 n) 0:=by
 have g:∀p,0<=p->gi (sw xs 0 n) p=if p=(n:Int) then gi xs 0 else if p=0 then gi xs n else gi xs p:=λp hp'=>gi_sw oM oM oM oM hp'
 refine ⟨λc c0 c1 hc=>?_,λc c0 c1 hc hp=>oM⟩
 have hcp:=w7_ c0
 rw[g c oM,if_neg oM,if_neg oM,g _ hcp.1,if_neg oM,if_neg hc]
 exact h c c0 oM
end Go.Gm
namespace Go.Gm
theorem c0I (x:Bool):gdB (.bool true) true x=x:=rfl
theorem c0J (x:Bool):gdB (.bool false) false x=x:=rfl
theorem c0K (x:Bool):gdB (.bool true) false x=true:=rfl
theorem c0L (x:Bool):gdB (.bool false) true x=true:=rfl
theorem gdB_n (b x:Bool):gdB (.tup []) b x=true:=rfl
theorem beqB (b:Bool):(b == b)=true:=by cases b<;>rfl
theorem gB:type_of% (And.intro (And.intro (And.intro (And.intro (And.intro (And.intro (And.intro (@b0N) (@a8B)) (And.intro (@b0O) (@a2L))) (And.intro (And.intro (@a1M) (@b3E)) (And.intro (@gd_tt) (@gd_ft)))) (And.intro (And.intro (And.intro (@gd_ff) (@gd_tf)) (And.intro (@gd_n) (@b7o))) (And.intro (And.intro (@c1c) (@c1d)) (And.intro (@b3e) (@b4o))))) (And.intro (And.intro (And.intro (And.intro (@Bool.and_true) (@b4p)) (And.intro (@List.nil_append.{0}) (@List.append_nil.{0}))) (And.intro (And.intro (@lss_t) (@lss_f)) (And.intro (@leq_t) (@leq_f)))) (And.intro (And.intro (And.intro (@gtr_t) (@gtr_f)) (And.intro (@geq_t) (@geq_f))) (And.intro (And.intro (@eql_t) (@eql_f)) (And.intro (@neq_t) (And.intro (@neq_f) (@add_i))))))) (And.intro (And.intro (And.intro (And.intro (And.intro (@sub_i) (@rem_i)) (And.intro (@quo_w) (@mul_w))) (And.intro (And.intro (@eql_b) (@neq_b)) (And.intro (@c1e) (@c1f)))) (And.intro (And.intro (And.intro (@a6V) (@b5x)) (And.intro (@b7p) (@b8z))) (And.intro (And.intro (@b8A) (@b7q)) (And.intro (@c1g) (@b8B))))) (And.intro (And.intro (And.intro (And.intro (@c1h) (@b8C)) (And.intro (@c1i) (@b8D))) (And.intro (And.intro (@b7r) (@b8E)) (And.intro (@b5y) (@b0V)))) (And.intro (And.intro (And.intro (@g5_) (@a9_)) (And.intro (@a0_) (@m2_))) (And.intro (And.intro (@r8_) (@a3_)) (And.intro (@b3R) (And.intro (@c0Z) (@Bool.not_true)))))))) (And.intro (And.intro (And.intro (And.intro (And.intro (And.intro (@Bool.not_false) (@a4x)) (And.intro (@b1z) (@b2H))) (And.intro (And.intro (@b2I) (@b4r)) (And.intro (@b1A) (@b1B)))) (And.intro (And.intro (And.intro (@b2J) (@b2K)) (And.intro (@a1C) (@a8r))) (And.intro (And.intro (@a9R) (@a9S)) (And.intro (@b1C) (@a8s))))) (And.intro (And.intro (And.intro (And.intro (@a8t) (@a9T)) (And.intro (@a9U) (@a9V))) (And.intro (And.intro (@List.all_cons.{0}) (@List.all_nil.{0})) (And.intro (@List.getElem?_cons_zero.{0}) (@List.getElem?_cons_succ.{0})))) (And.intro (And.intro (And.intro (@List.getD_cons_zero.{0}) (@List.getD_cons_succ.{0})) (And.intro (@List.set_cons_zero.{0}) (@List.set_cons_succ.{0}))) (And.intro (And.intro (@List.drop_zero.{0}) (@List.drop_succ_cons.{0})) (And.intro (@List.take_succ_cons.{0}) (And.intro (@List.take_zero.{0}) (@List.length_cons.{0}))))))) (And.intro (And.intro (And.intro (And.intro (And.intro (@List.length_nil.{0}) (@List.length_append.{0})) (And.intro (@List.length_set.{0}) (@Nat.zero_add))) (And.intro (And.intro (@Nat.add_zero) (@Nat.sub_self)) (And.intro (@Nat.add_sub_cancel_left) (@Int.toNat_natCast)))) (And.intro (And.intro (And.intro (@Nat.mul_one) (@and_self)) (And.intro (@if_true.{1}) (@if_false.{1}))) (And.intro (And.intro (@b7s) (@b8G)) (And.intro (@b8F) (And.intro (@Option.map_some.{0,0}) (@b4q)))))) (And.intro (And.intro (And.intro (And.intro (@b3f) (@b5z)) (And.intro (@bsl_i) (@or_i))) (And.intro (And.intro (@and_i) (@shl_i)) (And.intro (@shr_i) (@a5n)))) (And.intro (And.intro (And.intro (@bit_t) (@bit_f)) (And.intro (@ixA_i) (@c0I))) (And.intro (And.intro (@c0J) (@c0K)) (And.intro (@c0L) (And.intro (@gdB_n) (@beqB))))))))):=And.intro (And.intro (And.intro (And.intro (And.intro (And.intro (And.intro (@b0N) (@a8B)) (And.intro (@b0O) (@a2L))) (And.intro (And.intro (@a1M) (@b3E)) (And.intro (@gd_tt) (@gd_ft)))) (And.intro (And.intro (And.intro (@gd_ff) (@gd_tf)) (And.intro (@gd_n) (@b7o))) (And.intro (And.intro (@c1c) (@c1d)) (And.intro (@b3e) (@b4o))))) (And.intro (And.intro (And.intro (And.intro (@Bool.and_true) (@b4p)) (And.intro (@List.nil_append.{0}) (@List.append_nil.{0}))) (And.intro (And.intro (@lss_t) (@lss_f)) (And.intro (@leq_t) (@leq_f)))) (And.intro (And.intro (And.intro (@gtr_t) (@gtr_f)) (And.intro (@geq_t) (@geq_f))) (And.intro (And.intro (@eql_t) (@eql_f)) (And.intro (@neq_t) (And.intro (@neq_f) (@add_i))))))) (And.intro (And.intro (And.intro (And.intro (And.intro (@sub_i) (@rem_i)) (And.intro (@quo_w) (@mul_w))) (And.intro (And.intro (@eql_b) (@neq_b)) (And.intro (@c1e) (@c1f)))) (And.intro (And.intro (And.intro (@a6V) (@b5x)) (And.intro (@b7p) (@b8z))) (And.intro (And.intro (@b8A) (@b7q)) (And.intro (@c1g) (@b8B))))) (And.intro (And.intro (And.intro (And.intro (@c1h) (@b8C)) (And.intro (@c1i) (@b8D))) (And.intro (And.intro (@b7r) (@b8E)) (And.intro (@b5y) (@b0V)))) (And.intro (And.intro (And.intro (@g5_) (@a9_)) (And.intro (@a0_) (@m2_))) (And.intro (And.intro (@r8_) (@a3_)) (And.intro (@b3R) (And.intro (@c0Z) (@Bool.not_true)))))))) (And.intro (And.intro (And.intro (And.intro (And.intro (And.intro (@Bool.not_false) (@a4x)) (And.intro (@b1z) (@b2H))) (And.intro (And.intro (@b2I) (@b4r)) (And.intro (@b1A) (@b1B)))) (And.intro (And.intro (And.intro (@b2J) (@b2K)) (And.intro (@a1C) (@a8r))) (And.intro (And.intro (@a9R) (@a9S)) (And.intro (@b1C) (@a8s))))) (And.intro (And.intro (And.intro (And.intro (@a8t) (@a9T)) (And.intro (@a9U) (@a9V))) (And.intro (And.intro (@List.all_cons.{0}) (@List.all_nil.{0})) (And.intro (@List.getElem?_cons_zero.{0}) (@List.getElem?_cons_succ.{0})))) (And.intro (And.intro (And.intro (@List.getD_cons_zero.{0}) (@List.getD_cons_succ.{0})) (And.intro (@List.set_cons_zero.{0}) (@List.set_cons_succ.{0}))) (And.intro (And.intro (@List.drop_zero.{0}) (@List.drop_succ_cons.{0})) (And.intro (@List.take_succ_cons.{0}) (And.intro (@List.take_zero.{0}) (@List.length_cons.{0}))))))) (And.intro (And.intro (And.intro (And.intro (And.intro (@List.length_nil.{0}) (@List.length_append.{0})) (And.intro (@List.length_set.{0}) (@Nat.zero_add))) (And.intro (And.intro (@Nat.add_zero) (@Nat.sub_self)) (And.intro (@Nat.add_sub_cancel_left) (@Int.toNat_natCast)))) (And.intro (And.intro (And.intro (@Nat.mul_one) (@and_self)) (And.intro (@if_true.{1}) (@if_false.{1}))) (And.intro (And.intro (@b7s) (@b8G)) (And.intro (@b8F) (And.intro (@Option.map_some.{0,0}) (@b4q)))))) (And.intro (And.intro (And.intro (And.intro (@b3f) (@b5z)) (And.intro (@bsl_i) (@or_i))) (And.intro (And.intro (@and_i) (@shl_i)) (And.intro (@shr_i) (@a5n)))) (And.intro (And.intro (And.intro (@bit_t) (@bit_f)) (And.intro (@ixA_i) (@c0I))) (And.intro (And.intro (@c0J) (@c0K)) (And.intro (@c0L) (And.intro (@gdB_n) (@beqB))))))))
theorem sA0 (cs:List AV)(off:Nat):setAll cs off []=cs:=rfl
theorem sA1 (cs:List AV)(off:Nat)(v:AV)(vs:List AV):setAll cs off (v::vs)=setAll (cs.set off v) (off+1) vs:=rfl
theorem pL0 (cs:List AV)(off:Nat):partL cs off none=cs[off]?:=rfl
theorem pL1 (cs:List AV)(off n:Nat):partL cs off (some n)=some (.agg ((cs.drop off).take n)):=rfl
theorem fV1 (cs:List AV)(off:Nat)(n:Option Nat):fldV off n (.agg cs)=partL cs off n:=rfl
theorem cG:type_of% (And.intro gB (And.intro (And.intro sA0 sA1) (And.intro (And.intro pL0 pL1) fV1))):=And.intro gB (And.intro (And.intro sA0 sA1) (And.intro (And.intro pL0 pL1) fV1))
theorem gL:type_of% (And.intro (And.intro (@List.length_append.{0}) (And.intro (@List.length_set.{0}) (@List.length_cons.{0}))) (And.intro (And.intro (@List.length_nil.{0}) (@List.length_map.{0,0})) (And.intro (@List.length_replicate.{0}) (@a3_)))):=And.intro (And.intro (@List.length_append.{0}) (And.intro (@List.length_set.{0}) (@List.length_cons.{0}))) (And.intro (And.intro (@List.length_nil.{0}) (@List.length_map.{0,0})) (And.intro (@List.length_replicate.{0}) (@a3_)))
theorem gA:type_of% (And.intro (And.intro (And.intro (And.intro (@List.all_cons.{0}) (And.intro (@List.all_nil.{0}) (@a4x))) (And.intro (@b1z) (And.intro (@b2H) (@b2I)))) (And.intro (And.intro (@b4r) (And.intro (@b1A) (@b1B))) (And.intro (And.intro (@b2J) (@b2K)) (And.intro (@a1C) (@a8r))))) (And.intro (And.intro (And.intro (@a9R) (And.intro (@a9S) (@b1C))) (And.intro (And.intro (@a8s) (@a8t)) (And.intro (@a9T) (@a9U)))) (And.intro (And.intro (@a9V) (And.intro (@Bool.and_self) (@Bool.and_true))) (And.intro (And.intro (@Bool.true_and) (@Nat.zero_mul)) (And.intro (@Nat.one_mul) (@Nat.mul_one)))))):=And.intro (And.intro (And.intro (And.intro (@List.all_cons.{0}) (And.intro (@List.all_nil.{0}) (@a4x))) (And.intro (@b1z) (And.intro (@b2H) (@b2I)))) (And.intro (And.intro (@b4r) (And.intro (@b1A) (@b1B))) (And.intro (And.intro (@b2J) (@b2K)) (And.intro (@a1C) (@a8r))))) (And.intro (And.intro (And.intro (@a9R) (And.intro (@a9S) (@b1C))) (And.intro (And.intro (@a8s) (@a8t)) (And.intro (@a9T) (@a9U)))) (And.intro (And.intro (@a9V) (And.intro (@Bool.and_self) (@Bool.and_true))) (And.intro (And.intro (@Bool.true_and) (@Nat.zero_mul)) (And.intro (@Nat.one_mul) (@Nat.mul_one)))))
theorem oL {p:Prop}(h:p:=by (first|omega|(simp only[gL]<;>omega))):p:=h
theorem eX {p:Prop}(h:p:=by (repeat (first|exact Ext.refl _|assumption|apply Ext.app|apply Ext.mk|(refine Ext.setr ?_ oL _)))):p:=h
theorem g0 {P Q:Prop}(q:Q)(e:P=Q:=by simp -implicitDefEqProofs (maxSteps:=1000000) (disch:=first|assumption|omega|(simp only[gL]<;>omega)|((repeat (first|exact Ext.refl _|assumption|apply Ext.app|apply Ext.mk|(refine Ext.setr ?_ (by (first|omega|(simp only[gL]<;>omega))) _))); done)|(simp only[gL,gA]<;>omega)|fail) only[cG,reduceIte,Nat.reduceAdd,Nat.reduceMul]; rfl):P:=(e).mpr q
theorem g1 {X0 P Q:Prop}(x0:X0)(q:Q)(e:X0->P=Q:=by intro x0; simp -implicitDefEqProofs (maxSteps:=1000000) (disch:=first|assumption|omega|(simp only[gL]<;>omega)|((repeat (first|exact Ext.refl _|assumption|apply Ext.app|apply Ext.mk|(refine Ext.setr ?_ (by (first|omega|(simp only[gL]<;>omega))) _))); done)|(simp only[gL,gA,x0]<;>omega)|fail) only[cG,reduceIte,Nat.reduceAdd,Nat.reduceMul,x0]; rfl):P:=(e x0).mpr q
theorem g2 {X0 X1 P Q:Prop}(x0:X0)(x1:X1)(q:Q)(e:X0->X1->P=Q:=by intro x0 x1; simp -implicitDefEqProofs (maxSteps:=1000000) (disch:=first|assumption|omega|(simp only[gL]<;>omega)|((repeat (first|exact Ext.refl _|assumption|apply Ext.app|apply Ext.mk|(refine Ext.setr ?_ (by (first|omega|(simp only[gL]<;>omega))) _))); done)|(simp only[gL,gA,x0,x1]<;>omega)|fail) only[cG,reduceIte,Nat.reduceAdd,Nat.reduceMul,x0,x1]; rfl):P:=(e x0 x1).mpr q
theorem g3 {X0 X1 X2 P Q:Prop}(x0:X0)(x1:X1)(x2:X2)(q:Q)(e:X0->X1->X2->P=Q:=by intro x0 x1 x2; simp -implicitDefEqProofs (maxSteps:=1000000) (disch:=first|assumption|omega|(simp only[gL]<;>omega)|((repeat (first|exact Ext.refl _|assumption|apply Ext.app|apply Ext.mk|(refine Ext.setr ?_ (by (first|omega|(simp only[gL]<;>omega))) _))); done)|(simp only[gL,gA,x0,x1,x2]<;>omega)|fail) only[cG,reduceIte,Nat.reduceAdd,Nat.reduceMul,x0,x1,x2]; rfl):P:=(e x0 x1 x2).mpr q
theorem g4 {X0 X1 X2 X3 P Q:Prop}(x0:X0)(x1:X1)(x2:X2)(x3:X3)(q:Q)(e:X0->X1->X2->X3->P=Q:=by intro x0 x1 x2 x3; simp -implicitDefEqProofs (maxSteps:=1000000) (disch:=first|assumption|omega|(simp only[gL]<;>omega)|((repeat (first|exact Ext.refl _|assumption|apply Ext.app|apply Ext.mk|(refine Ext.setr ?_ (by (first|omega|(simp only[gL]<;>omega))) _))); done)|(simp only[gL,gA,x0,x1,x2,x3]<;>omega)|fail) only[cG,reduceIte,Nat.reduceAdd,Nat.reduceMul,x0,x1,x2,x3]; rfl):P:=(e x0 x1 x2 x3).mpr q
theorem g5 {X0 X1 X2 X3 X4 P Q:Prop}(x0:X0)(x1:X1)(x2:X2)(x3:X3)(x4:X4)(q:Q)(e:X0->X1->X2->X3->X4->P=Q:=by intro x0 x1 x2 x3 x4; simp -implicitDefEqProofs (maxSteps:=1000000) (disch:=first|assumption|omega|(simp only[gL]<;>omega)|((repeat (first|exact Ext.refl _|assumption|apply Ext.app|apply Ext.mk|(refine Ext.setr ?_ (by (first|omega|(simp only[gL]<;>omega))) _))); done)|(simp only[gL,gA,x0,x1,x2,x3,x4]<;>omega)|fail) only[cG,reduceIte,Nat.reduceAdd,Nat.reduceMul,x0,x1,x2,x3,x4]; rfl):P:=(e x0 x1 x2 x3 x4).mpr q
theorem g6 {X0 X1 X2 X3 X4 X5 P Q:Prop}(x0:X0)(x1:X1)(x2:X2)(x3:X3)(x4:X4)(x5:X5)(q:Q)(e:X0->X1->X2->X3->X4->X5->P=Q:=by intro x0 x1 x2 x3 x4 x5; simp -implicitDefEqProofs (maxSteps:=1000000) (disch:=first|assumption|omega|(simp only[gL]<;>omega)|((repeat (first|exact Ext.refl _|assumption|apply Ext.app|apply Ext.mk|(refine Ext.setr ?_ (by (first|omega|(simp only[gL]<;>omega))) _))); done)|(simp only[gL,gA,x0,x1,x2,x3,x4,x5]<;>omega)|fail) only[cG,reduceIte,Nat.reduceAdd,Nat.reduceMul,x0,x1,x2,x3,x4,x5]; rfl):P:=(e x0 x1 x2 x3 x4 x5).mpr q
theorem g7 {X0 X1 X2 X3 X4 X5 X6 P Q:Prop}(x0:X0)(x1:X1)(x2:X2)(x3:X3)(x4:X4)(x5:X5)(x6:X6)(q:Q)(e:X0->X1->X2->X3->X4->X5->X6->P=Q:=by intro x0 x1 x2 x3 x4 x5 x6; simp -implicitDefEqProofs (maxSteps:=1000000) (disch:=first|assumption|omega|(simp only[gL]<;>omega)|((repeat (first|exact Ext.refl _|assumption|apply Ext.app|apply Ext.mk|(refine Ext.setr ?_ (by (first|omega|(simp only[gL]<;>omega))) _))); done)|(simp only[gL,gA,x0,x1,x2,x3,x4,x5,x6]<;>omega)|fail) only[cG,reduceIte,Nat.reduceAdd,Nat.reduceMul,x0,x1,x2,x3,x4,x5,x6]; rfl):P:=(e x0 x1 x2 x3 x4 x5 x6).mpr q
theorem g8 {X0 X1 X2 X3 X4 X5 X6 X7 P Q:Prop}(x0:X0)(x1:X1)(x2:X2)(x3:X3)(x4:X4)(x5:X5)(x6:X6)(x7:X7)(q:Q)(e:X0->X1->X2->X3->X4->X5->X6->X7->P=Q:=by intro x0 x1 x2 x3 x4 x5 x6 x7; simp -implicitDefEqProofs (maxSteps:=1000000) (disch:=first|assumption|omega|(simp only[gL]<;>omega)|((repeat (first|exact Ext.refl _|assumption|apply Ext.app|apply Ext.mk|(refine Ext.setr ?_ (by (first|omega|(simp only[gL]<;>omega))) _))); done)|(simp only[gL,gA,x0,x1,x2,x3,x4,x5,x6,x7]<;>omega)|fail) only[cG,reduceIte,Nat.reduceAdd,Nat.reduceMul,x0,x1,x2,x3,x4,x5,x6,x7]; rfl):P:=(e x0 x1 x2 x3 x4 x5 x6 x7).mpr q
theorem g9 {X0 X1 X2 X3 X4 X5 X6 X7 X8 P Q:Prop}(x0:X0)(x1:X1)(x2:X2)(x3:X3)(x4:X4)(x5:X5)(x6:X6)(x7:X7)(x8:X8)(q:Q)(e:X0->X1->X2->X3->X4->X5->X6->X7->X8->P=Q:=by intro x0 x1 x2 x3 x4 x5 x6 x7 x8; simp -implicitDefEqProofs (maxSteps:=1000000) (disch:=first|assumption|omega|(simp only[gL]<;>omega)|((repeat (first|exact Ext.refl _|assumption|apply Ext.app|apply Ext.mk|(refine Ext.setr ?_ (by (first|omega|(simp only[gL]<;>omega))) _))); done)|(simp only[gL,gA,x0,x1,x2,x3,x4,x5,x6,x7,x8]<;>omega)|fail) only[cG,reduceIte,Nat.reduceAdd,Nat.reduceMul,x0,x1,x2,x3,x4,x5,x6,x7,x8]; rfl):P:=(e x0 x1 x2 x3 x4 x5 x6 x7 x8).mpr q
theorem g10 {X0 X1 X2 X3 X4 X5 X6 X7 X8 X9 P Q:Prop}(x0:X0)(x1:X1)(x2:X2)(x3:X3)(x4:X4)(x5:X5)(x6:X6)(x7:X7)(x8:X8)(x9:X9)(q:Q)(e:X0->X1->X2->X3->X4->X5->X6->X7->X8->X9->P=Q:=by intro x0 x1 x2 x3 x4 x5 x6 x7 x8 x9; simp -implicitDefEqProofs (maxSteps:=1000000) (disch:=first|assumption|omega|(simp only[gL]<;>omega)|((repeat (first|exact Ext.refl _|assumption|apply Ext.app|apply Ext.mk|(refine Ext.setr ?_ (by (first|omega|(simp only[gL]<;>omega))) _))); done)|(simp only[gL,gA,x0,x1,x2,x3,x4,x5,x6,x7,x8,x9]<;>omega)|fail) only[cG,reduceIte,Nat.reduceAdd,Nat.reduceMul,x0,x1,x2,x3,x4,x5,x6,x7,x8,x9]; rfl):P:=(e x0 x1 x2 x3 x4 x5 x6 x7 x8 x9).mpr q
theorem g11 {X0 X1 X2 X3 X4 X5 X6 X7 X8 X9 X10 P Q:Prop}(x0:X0)(x1:X1)(x2:X2)(x3:X3)(x4:X4)(x5:X5)(x6:X6)(x7:X7)(x8:X8)(x9:X9)(x10:X10)(q:Q)(e:X0->X1->X2->X3->X4->X5->X6->X7->X8->X9->X10->P=Q:=by intro x0 x1 x2 x3 x4 x5 x6 x7 x8 x9 x10; simp -implicitDefEqProofs (maxSteps:=1000000) (disch:=first|assumption|omega|(simp only[gL]<;>omega)|((repeat (first|exact Ext.refl _|assumption|apply Ext.app|apply Ext.mk|(refine Ext.setr ?_ (by (first|omega|(simp only[gL]<;>omega))) _))); done)|(simp only[gL,gA,x0,x1,x2,x3,x4,x5,x6,x7,x8,x9,x10]<;>omega)|fail) only[cG,reduceIte,Nat.reduceAdd,Nat.reduceMul,x0,x1,x2,x3,x4,x5,x6,x7,x8,x9,x10]; rfl):P:=(e x0 x1 x2 x3 x4 x5 x6 x7 x8 x9 x10).mpr q
theorem g12 {X0 X1 X2 X3 X4 X5 X6 X7 X8 X9 X10 X11 P Q:Prop}(x0:X0)(x1:X1)(x2:X2)(x3:X3)(x4:X4)(x5:X5)(x6:X6)(x7:X7)(x8:X8)(x9:X9)(x10:X10)(x11:X11)(q:Q)(e:X0->X1->X2->X3->X4->X5->X6->X7->X8->X9->X10->X11->P=Q:=by intro x0 x1 x2 x3 x4 x5 x6 x7 x8 x9 x10 x11; simp -implicitDefEqProofs (maxSteps:=1000000) (disch:=first|assumption|omega|(simp only[gL]<;>omega)|((repeat (first|exact Ext.refl _|assumption|apply Ext.app|apply Ext.mk|(refine Ext.setr ?_ (by (first|omega|(simp only[gL]<;>omega))) _))); done)|(simp only[gL,gA,x0,x1,x2,x3,x4,x5,x6,x7,x8,x9,x10,x11]<;>omega)|fail) only[cG,reduceIte,Nat.reduceAdd,Nat.reduceMul,x0,x1,x2,x3,x4,x5,x6,x7,x8,x9,x10,x11]; rfl):P:=(e x0 x1 x2 x3 x4 x5 x6 x7 x8 x9 x10 x11).mpr q
theorem g13 {X0 X1 X2 X3 X4 X5 X6 X7 X8 X9 X10 X11 X12 P Q:Prop}(x0:X0)(x1:X1)(x2:X2)(x3:X3)(x4:X4)(x5:X5)(x6:X6)(x7:X7)(x8:X8)(x9:X9)(x10:X10)(x11:X11)(x12:X12)(q:Q)(e:X0->X1->X2->X3->X4->X5->X6->X7->X8->X9->X10->X11->X12->P=Q:=by intro x0 x1 x2 x3 x4 x5 x6 x7 x8 x9 x10 x11 x12; simp -implicitDefEqProofs (maxSteps:=1000000) (disch:=first|assumption|omega|(simp only[gL]<;>omega)|((repeat (first|exact Ext.refl _|assumption|apply Ext.app|apply Ext.mk|(refine Ext.setr ?_ (by (first|omega|(simp only[gL]<;>omega))) _))); done)|(simp only[gL,gA,x0,x1,x2,x3,x4,x5,x6,x7,x8,x9,x10,x11,x12]<;>omega)|fail) only[cG,reduceIte,Nat.reduceAdd,Nat.reduceMul,x0,x1,x2,x3,x4,x5,x6,x7,x8,x9,x10,x11,x12]; rfl):P:=(e x0 x1 x2 x3 x4 x5 x6 x7 x8 x9 x10 x11 x12).mpr q
theorem g14 {X0 X1 X2 X3 X4 X5 X6 X7 X8 X9 X10 X11 X12 X13 P Q:Prop}(x0:X0)(x1:X1)(x2:X2)(x3:X3)(x4:X4)(x5:X5)(x6:X6)(x7:X7)(x8:X8)(x9:X9)(x10:X10)(x11:X11)(x12:X12)(x13:X13)(q:Q)(e:X0->X1->X2->X3->X4->X5->X6->X7->X8->X9->X10->X11->X12->X13->P=Q:=by intro x0 x1 x2 x3 x4 x5 x6 x7 x8 x9 x10 x11 x12 x13; simp -implicitDefEqProofs (maxSteps:=1000000) (disch:=first|assumption|omega|(simp only[gL]<;>omega)|((repeat (first|exact Ext.refl _|assumption|apply Ext.app|apply Ext.mk|(refine Ext.setr ?_ (by (first|omega|(simp only[gL]<;>omega))) _))); done)|(simp only[gL,gA,x0,x1,x2,x3,x4,x5,x6,x7,x8,x9,x10,x11,x12,x13]<;>omega)|fail) only[cG,reduceIte,Nat.reduceAdd,Nat.reduceMul,x0,x1,x2,x3,x4,x5,x6,x7,x8,x9,x10,x11,x12,x13]; rfl):P:=(e x0 x1 x2 x3 x4 x5 x6 x7 x8 x9 x10 x11 x12 x13).mpr q
theorem g15 {X0 X1 X2 X3 X4 X5 X6 X7 X8 X9 X10 X11 X12 X13 X14 P Q:Prop}(x0:X0)(x1:X1)(x2:X2)(x3:X3)(x4:X4)(x5:X5)(x6:X6)(x7:X7)(x8:X8)(x9:X9)(x10:X10)(x11:X11)(x12:X12)(x13:X13)(x14:X14)(q:Q)(e:X0->X1->X2->X3->X4->X5->X6->X7->X8->X9->X10->X11->X12->X13->X14->P=Q:=by intro x0 x1 x2 x3 x4 x5 x6 x7 x8 x9 x10 x11 x12 x13 x14; simp -implicitDefEqProofs (maxSteps:=1000000) (disch:=first|assumption|omega|(simp only[gL]<;>omega)|((repeat (first|exact Ext.refl _|assumption|apply Ext.app|apply Ext.mk|(refine Ext.setr ?_ (by (first|omega|(simp only[gL]<;>omega))) _))); done)|(simp only[gL,gA,x0,x1,x2,x3,x4,x5,x6,x7,x8,x9,x10,x11,x12,x13,x14]<;>omega)|fail) only[cG,reduceIte,Nat.reduceAdd,Nat.reduceMul,x0,x1,x2,x3,x4,x5,x6,x7,x8,x9,x10,x11,x12,x13,x14]; rfl):P:=(e x0 x1 x2 x3 x4 x5 x6 x7 x8 x9 x10 x11 x12 x13 x14).mpr q
theorem g16 {X0 X1 X2 X3 X4 X5 X6 X7 X8 X9 X10 X11 X12 X13 X14 X15 P Q:Prop}(x0:X0)(x1:X1)(x2:X2)(x3:X3)(x4:X4)(x5:X5)(x6:X6)(x7:X7)(x8:X8)(x9:X9)(x10:X10)(x11:X11)(x12:X12)(x13:X13)(x14:X14)(x15:X15)(q:Q)(e:X0->X1->X2->X3->X4->X5->X6->X7->X8->X9->X10->X11->X12->X13->X14->X15->P=Q:=by intro x0 x1 x2 x3 x4 x5 x6 x7 x8 x9 x10 x11 x12 x13 x14 x15; simp -implicitDefEqProofs (maxSteps:=1000000) (disch:=first|assumption|omega|(simp only[gL]<;>omega)|((repeat (first|exact Ext.refl _|assumption|apply Ext.app|apply Ext.mk|(refine Ext.setr ?_ (by (first|omega|(simp only[gL]<;>omega))) _))); done)|(simp only[gL,gA,x0,x1,x2,x3,x4,x5,x6,x7,x8,x9,x10,x11,x12,x13,x14,x15]<;>omega)|fail) only[cG,reduceIte,Nat.reduceAdd,Nat.reduceMul,x0,x1,x2,x3,x4,x5,x6,x7,x8,x9,x10,x11,x12,x13,x14,x15]; rfl):P:=(e x0 x1 x2 x3 x4 x5 x6 x7 x8 x9 x10 x11 x12 x13 x14 x15).mpr q
theorem g17 {X0 X1 X2 X3 X4 X5 X6 X7 X8 X9 X10 X11 X12 X13 X14 X15 X16 P Q:Prop}(x0:X0)(x1:X1)(x2:X2)(x3:X3)(x4:X4)(x5:X5)(x6:X6)(x7:X7)(x8:X8)(x9:X9)(x10:X10)(x11:X11)(x12:X12)(x13:X13)(x14:X14)(x15:X15)(x16:X16)(q:Q)(e:X0->X1->X2->X3->X4->X5->X6->X7->X8->X9->X10->X11->X12->X13->X14->X15->X16->P=Q:=by intro x0 x1 x2 x3 x4 x5 x6 x7 x8 x9 x10 x11 x12 x13 x14 x15 x16; simp -implicitDefEqProofs (maxSteps:=1000000) (disch:=first|assumption|omega|(simp only[gL]<;>omega)|((repeat (first|exact Ext.refl _|assumption|apply Ext.app|apply Ext.mk|(refine Ext.setr ?_ (by (first|omega|(simp only[gL]<;>omega))) _))); done)|(simp only[gL,gA,x0,x1,x2,x3,x4,x5,x6,x7,x8,x9,x10,x11,x12,x13,x14,x15,x16]<;>omega)|fail) only[cG,reduceIte,Nat.reduceAdd,Nat.reduceMul,x0,x1,x2,x3,x4,x5,x6,x7,x8,x9,x10,x11,x12,x13,x14,x15,x16]; rfl):P:=(e x0 x1 x2 x3 x4 x5 x6 x7 x8 x9 x10 x11 x12 x13 x14 x15 x16).mpr q
theorem g18 {X0 X1 X2 X3 X4 X5 X6 X7 X8 X9 X10 X11 X12 X13 X14 X15 X16 X17 P Q:Prop}(x0:X0)(x1:X1)(x2:X2)(x3:X3)(x4:X4)(x5:X5)(x6:X6)(x7:X7)(x8:X8)(x9:X9)(x10:X10)(x11:X11)(x12:X12)(x13:X13)(x14:X14)(x15:X15)(x16:X16)(x17:X17)(q:Q)(e:X0->X1->X2->X3->X4->X5->X6->X7->X8->X9->X10->X11->X12->X13->X14->X15->X16->X17->P=Q:=by intro x0 x1 x2 x3 x4 x5 x6 x7 x8 x9 x10 x11 x12 x13 x14 x15 x16 x17; simp -implicitDefEqProofs (maxSteps:=1000000) (disch:=first|assumption|omega|(simp only[gL]<;>omega)|((repeat (first|exact Ext.refl _|assumption|apply Ext.app|apply Ext.mk|(refine Ext.setr ?_ (by (first|omega|(simp only[gL]<;>omega))) _))); done)|(simp only[gL,gA,x0,x1,x2,x3,x4,x5,x6,x7,x8,x9,x10,x11,x12,x13,x14,x15,x16,x17]<;>omega)|fail) only[cG,reduceIte,Nat.reduceAdd,Nat.reduceMul,x0,x1,x2,x3,x4,x5,x6,x7,x8,x9,x10,x11,x12,x13,x14,x15,x16,x17]; rfl):P:=(e x0 x1 x2 x3 x4 x5 x6 x7 x8 x9 x10 x11 x12 x13 x14 x15 x16 x17).mpr q
theorem t0' {P:Prop}(e:P:=by simp -implicitDefEqProofs (maxSteps:=1000000) (disch:=first|assumption|omega|(simp only[gL]<;>omega)|((repeat (first|exact Ext.refl _|assumption|apply Ext.app|apply Ext.mk|(refine Ext.setr ?_ (by (first|omega|(simp only[gL]<;>omega))) _))); done)|(simp only[gL,gA]<;>omega)|fail) only[cG,reduceIte,Nat.reduceAdd,Nat.reduceMul]):P:=e
end Go.Gm
namespace Go.Gm
def fz {α:Type}(n:Nat)(k:Nat->α):α:=match n with|0=>k 0|m+1=>k (m+1)
def effO:Op->Bool
 |.store ..|.mapUpdate ..|.insert ..|.makeMap ..=>true
 |.call c=>match c.callee with
  |.builtin .append=>true
  |.builtin _=>false
  |_=>true
 |_=>false
def preE (sz t:Nat):List Edge->Nat->Nat
 |[],m=>m
 |e::r,m=>match Region.binds .any e with
  |true=>fz (m ||| (1 <<< e.on) ||| ((t >>> (e.on*sz)) &&& (2 ^ sz-1))) (preE sz t r)
  |false=>preE sz t r m
def preT (sz:Nat):List Oper->Nat->Nat->Nat
 |[],_,t=>t
 |o::r,i,t=>fz (t ||| (preE sz t o.after.toList 0 <<< (i*sz))) (preT sz r (i+1))
def bitsOf (b:Nat):Nat->Nat->Nat->List Nat
 |0,_,_=>[]
 |n+1,i,m=>match Nat.beq (m % 2) b with
  |true=>i::bitsOf b n (i+1) (m / 2)
  |false=>bitsOf b n (i+1) (m / 2)
def pickO (sz t d:Nat):List Oper->Nat->Option Nat->Option Nat
 |[],_,b=>b
 |o::r,i,b=>match Nat.beq ((d >>> i) % 2) 1 || !(Nat.beq (((t >>> (i*sz)) &&& (2 ^ sz-1)) &&& d) ((t >>> (i*sz)) &&& (2 ^ sz-1))) with
  |true=>pickO sz t d r (i+1) b
  |false=>match effO o.op with
   |false=>some i
   |true=>pickO sz t d r (i+1) (match b with|none=>some i|some j=>some j)
def ordT (sz t:Nat)(ops:List Oper):Nat->Nat->List Nat
 |0,_=>[]
 |n+1,d=>match pickO sz t d ops 0 none with
  |some i=>fz i λi=>i::fz (d ||| (1 <<< i)) (ordT sz t ops n)
  |none=>[]
def findReg (id:Nat):Code->Option (Array Oper)
 |.region j ops true=>match Nat.beq id j with|true=>some ops|false=>none
 |.seq a b=>match findReg id a with|some x=>some x|none=>findReg id b
 |.cond _ a b=>match findReg id a with|some x=>some x|none=>findReg id b
 |.block _ c=>findReg id c
 |.loop c=>findReg id c
 |_=>none
def dOf (ops:List Oper)(sz:Nat):DHint:=fz (preT sz ops 0 0) λt=>(λi=>bitsOf 1 sz 0 ((t >>> (i*sz)) &&& (2 ^ sz-1)),ordT sz t ops sz 0)
abbrev Blks:=List (Nat × Nat × Nat)
def hintA (fn:Func)(B:Blks):Hint:=
 ⟨fn.ntmps,λn=>match B.lookup n with|some (m,_)=>bitsOf 0 fn.ntmps 0 m|none=>[],
  λid=>match fn.body.bind (findReg id) with|some ops=>dOf ops.toList ops.size|none=>(λ_=>[],[]),
  B.map (·.1)⟩
def tabA (P:Program)(B:FuncId->Blks)(meth:TypeId->String->Option FuncId):Tab:=⟨λf=>(P.funcs[f]?).bind λfn=>compFn P (hintA fn (B f)) fn,meth⟩
theorem b9j (hm:MethOk P (tabA P B meth)):Valid P (tabA P B meth):=by
 refine ⟨λf mf h=>?_,hm⟩
 simp only[tabA,Option.bind_eq_some_iff] at h
 obtain ⟨fn,h2,h3⟩:=h
 exact ⟨fn,_,h2,h3⟩
section
variable (T:Tab) (B:FuncId->Blks)
abbrev sprd:Nat->Nat->List AV->Frm
 |0,_,_=>[]
 |n+1,m,vs=>match Nat.beq (m % 2) 1 with
  |true=>vs.headD .undef::sprd n (m / 2) vs.tail
  |false=>.undef::sprd n (m / 2) vs
abbrev runG (ev:MCode->List SF->Frm->Heap->Option (AV × Heap))(lp:Nat->List Nat->MCode->List SF->Frm->Heap->Option (AV × Heap)):MCode->Nat->List Nat->List SF->Frm->Heap->Option (AV × Heap)
 |.lab c,p,js,s,fr,h=>match Nat.beq (p % 10) 3 with
  |true=>runG ev lp c (p / 10) js s fr h
  |false=>ev c s fr h
 |.seq fgt a b,p,js,s,fr,h=>match Nat.beq (p % 10) 1 with
  |true=>runG ev lp a (p / 10) js (.seq fgt b::s) fr h
  |false=>runG ev lp b (p / 10) js s fr h
 |.cond _ a b,p,js,s,fr,h=>match Nat.beq (p % 10) 1 with
  |true=>runG ev lp a (p / 10) js s fr h
  |false=>runG ev lp b (p / 10) js s fr h
 |.block id c,p,js,s,fr,h=>runG ev lp c p js (.blk id::s) fr h
 |.loop fgt c,p,js,s,fr,h=>match Nat.beq (p % 10) 3 with
  |true=>runG ev lp c (p / 10) js.tail (.lp (js.headD 0) fgt c::s) fr h
  |false=>lp (js.headD 0) fgt c s fr h
 |_,_,_,_,_,_=>none
def bk (f:FuncId)(i:Nat)(js:List Nat)(vs:List AV)(h:Heap)(k:Nat):Option (AV × Heap):=match T.fn f with
 |some mf=>runG (evB T k mf.results) (loopB T k mf.results) mf.body ((B f).getD i (0,0,0)).2.2 js [] (sprd mf.ntmps ((B f).getD i (0,0,0)).2.1 vs) h
 |none=>none
abbrev lpS (n k:Nat)(rs:Res)(j:Nat)(fgt:List Nat)(c:MCode)(s:List SF)(fr:Frm)(h:Heap):Option (AV × Heap):=match j with
 |0=>none
 |j+1=>evS T k rs n c (.lp j fgt c::s) fr h
abbrev bkS (f:FuncId)(i:Nat)(js:List Nat)(vs:List AV)(h:Heap)(k:Nat):Option (AV × Heap):=match T.fn f with
 |some mf=>runG (evS T k mf.results fuelS) (lpS T fuelS k mf.results) mf.body ((B f).getD i (0,0,0)).2.2 js [] (sprd mf.ntmps ((B f).getD i (0,0,0)).2.1 vs) h
 |none=>none
abbrev fnS (f:FuncId)(args:List AV)(h:Heap)(k:Nat):Option (AV × Heap):=match T.fn f with
 |some mf=>evS T k mf.results fuelS mf.body [] (args++List.replicate (mf.ntmps-args.length) .undef) h
 |none=>none
end
section
variable {T:Tab} {B:FuncId->Blks}
theorem c5t (n k:Nat)(rs:Res)(j:Nat)(fgt:List Nat)(c:MCode)(s:List SF)(fr:Frm)(h:Heap):loopB T k rs j fgt c s fr h=lpS T n k rs j fgt c s fr h:=by
 cases j with
 |zero=>rfl
 |succ j=>exact (b9q ..).trans (a4V T k rs n c (.lp j fgt c::s) fr h).symm
theorem c3X {ev ev':MCode->List SF->Frm->Heap->Option (AV × Heap)}{lp lp':Nat->List Nat->MCode->List SF->Frm->Heap->Option (AV × Heap)}(h1:∀c s fr h,ev c s fr h=ev' c s fr h)(h2:∀j fgt c s fr h,lp j fgt c s fr h=lp' j fgt c s fr h)(c:MCode)(p:Nat)(js:List Nat)(s:List SF)(fr:Frm)(h:Heap):runG ev lp c p js s fr h=runG ev' lp' c p js s fr h:=by
 obtain rfl:ev=ev':=by funext c s fr h; exact h1 c s fr h
 obtain rfl:lp=lp':=by funext j fgt c s fr h; exact h2 j fgt c s fr h
 rfl
theorem bkN (n:Nat)(f:FuncId)(i:Nat)(js:List Nat)(vs:List AV)(h:Heap)(k:Nat):bk T B f i js vs h k=match T.fn f with
 |some mf=>runG (evS T k mf.results n) (lpS T n k mf.results) mf.body ((B f).getD i (0,0,0)).2.2 js [] (sprd mf.ntmps ((B f).getD i (0,0,0)).2.1 vs) h
 |none=>none:=by
 unfold bk
 cases T.fn f with
 |none=>rfl
 |some mf=>exact c3X (λc s fr h=>(a4V ..).symm) (λj fgt c s fr h=>c5t ..) _ _ _ _ _ _
theorem bkEq {t:Option (AV × Heap)}(e:bkS T B f i js vs h k=t:=by kernel_rfl):bk T B f i js vs h k=t:=(bkN fuelS ..).trans e
theorem fnN (n:Nat)(f:FuncId)(args:List AV)(h:Heap)(k:Nat):evalFn T (k+1) f args h=match T.fn f with
 |some mf=>evS T k mf.results n mf.body [] (args++List.replicate (mf.ntmps-args.length) .undef) h
 |none=>none:=by
 cases hf:T.fn f with
 |none=>simp only[evalFn,hf]
 |some mf=>rw[b9p hf]; exact (a4V T k mf.results n mf.body [] _ h).symm
theorem fnEq {t:Option (AV × Heap)}(e:fnS T f args h k=t:=by kernel_rfl):evalFn T (k+1) f args h=t:=(fnN fuelS ..).trans e
end
end Go.Gm
namespace Go.Gm.AZ
open Go Go.Gm
def methL:List (TypeId × String × FuncId):=[(221,"Len",109),(221,"Less",156),(221,"Pop",157),(221,"Push",158),(221,"Swap",159),(221,"milestone/queue.place",160)]
def meths:TypeId->String->Option FuncId:=λt nm=>(methL.find? λp=>p.1 == t && p.2.1 == nm).map (·.2.2)
abbrev c7K:FuncId:=9
abbrev g3_:FuncId:=10
abbrev b3_:FuncId:=11
abbrev b1_:FuncId:=14
abbrev c4_:FuncId:=17
abbrev p9_:FuncId:=18
abbrev a6_:FuncId:=19
abbrev d4_:FuncId:=22
abbrev k7_:FuncId:=23
abbrev b0_:FuncId:=26
abbrev b8_:FuncId:=28
abbrev c5_:FuncId:=32
abbrev a1s:FuncId:=33
abbrev c2_:FuncId:=34
abbrev t9_:FuncId:=35
abbrev m0_:FuncId:=36
abbrev j8_:FuncId:=37
abbrev f3_:FuncId:=38
abbrev j4_:FuncId:=39
abbrev e6_:FuncId:=40
abbrev h8_:FuncId:=41
abbrev z0_:FuncId:=42
abbrev o5_:FuncId:=49
abbrev u0_:FuncId:=50
abbrev a3c:FuncId:=51
abbrev r5_:FuncId:=52
abbrev t8_:FuncId:=53
abbrev a3j:FuncId:=54
abbrev a0f:FuncId:=58
abbrev a2u:FuncId:=59
abbrev d0_:FuncId:=60
abbrev d8_:FuncId:=61
abbrev x3_:FuncId:=65
abbrev e1_:FuncId:=66
abbrev e7_:FuncId:=67
abbrev i7_:FuncId:=68
abbrev r3_:FuncId:=69
abbrev a4U:FuncId:=70
abbrev n9_:FuncId:=71
abbrev a1x:FuncId:=72
abbrev a0o:FuncId:=73
abbrev a2c:FuncId:=74
abbrev a0p:FuncId:=75
abbrev a0h:FuncId:=76
abbrev f2_:FuncId:=77
abbrev k2_:FuncId:=78
abbrev a0R:FuncId:=79
abbrev g4_:FuncId:=80
abbrev w1_:FuncId:=81
abbrev y6_:FuncId:=82
abbrev p8_:FuncId:=86
abbrev a1w:FuncId:=87
abbrev f0_:FuncId:=93
abbrev b5_:FuncId:=94
abbrev b9_:FuncId:=95
abbrev a2v:FuncId:=96
abbrev u1_:FuncId:=97
abbrev a0x:FuncId:=98
abbrev j5_:FuncId:=99
abbrev a7p:FuncId:=102
abbrev r4_:FuncId:=103
abbrev a7U:FuncId:=104
abbrev h7_:FuncId:=105
abbrev r6_:FuncId:=106
abbrev a0i:FuncId:=107
abbrev a0y:FuncId:=108
abbrev z1_:FuncId:=109
abbrev a2J:FuncId:=110
abbrev s8_:FuncId:=111
abbrev f4_:FuncId:=112
abbrev b6_:FuncId:=113
abbrev d3_:FuncId:=114
abbrev l7_:FuncId:=115
abbrev n2_:FuncId:=116
abbrev c3_:FuncId:=117
abbrev a0z:FuncId:=118
abbrev e2_:FuncId:=119
abbrev a1r:FuncId:=120
abbrev a4j:FuncId:=121
abbrev a4t:FuncId:=122
abbrev a3L:FuncId:=123
abbrev a4u:FuncId:=124
abbrev a0w:FuncId:=125
abbrev w6_:FuncId:=126
abbrev f5_:FuncId:=127
abbrev f1_:FuncId:=128
abbrev a2_:FuncId:=129
abbrev c8_:FuncId:=130
abbrev a0j:FuncId:=131
abbrev z2_:FuncId:=132
abbrev h9_:FuncId:=133
abbrev i9_:FuncId:=134
abbrev n3_:FuncId:=135
abbrev x4_:FuncId:=136
abbrev a3k:FuncId:=155
abbrev a3l:FuncId:=156
abbrev a4k:FuncId:=157
abbrev a3m:FuncId:=158
abbrev a0S:FuncId:=159
abbrev a2K:FuncId:=160
noncomputable def tbl:FuncId->Blks:=λf=>(List.lookup f [(9,[(11,256000,212222222)]),(11,[(4,454,2122),(10,1990,2221232122),(13,1478,232221232122)]),(17,[(5,920,21222),(12,3992,21212321222),(10,1944,2212321222),(8,920,22321222)]),(18,[(7,7516194304,21212122),(2,572,222),(17,7881299347923456,21223222),(23,7881299348054528,222122321223222)]),(19,[(6,30,212222),(4,14,22222),(14,110,2122322222),(24,2030,2122221232122322222),(29,4078,21232122221232122322222),(27,2030,2232122221232122322222),(22,238,222221232122322222),(17,110,2232122322222),(12,14,222322222),(35,4110,213222322222),(33,12,23222322222)]),(22,[(12,15632,12222222),(11,12560,22222222),(19,0xe000000000000001110,212322222222),(17,4352,22322222222)]),(32,[(4,412,2122),(9,924,21232122),(7,412,2232122),(2,156,222),(16,1176,2123222),(21,3224,22232123222),(27,15512,2212322232123222),(24,3224,22322232123222)]),(33,[(3,1794,212),(9,50946,221223212)]),(34,[(6,50332032,212222)]),(35,[(4,7340068,2122),(10,477102116,2212232122)]),(36,[(5,6597069766722,21222),(3,66,2222),(11,64,232222),(18,2368,222223232222)]),(37,[(5,917602,21222)]),(38,[(4,29,2122),(2,13,222),(12,141,23222)]),(39,[(5,122,21222),(10,250,212321222),(8,122,22321222)]),(40,[(4,99,2122),(9,227,21232122),(7,99,2232122)]),(41,[(4,99,2122),(9,227,21232122),(7,99,2232122)]),(50,[(1,13,2)]),(51,[(4,100,1222),(3,32,2222)]),(53,[(8,14366,212222),(6,6150,22222)]),(58,[(6,100,22222)]),(60,[(5,470,21222),(12,2006,21212321222),(18,6102,22212321212321222),(10,982,2212321222),(8,470,22321222),(3,144,2222)]),(61,[(8,254,21222222),(15,1022,21212321222222),(20,2046,2212321212321222222),(13,510,2212321222222),(11,254,22321222222)]),(65,[(4,14680096,2122),(10,819986528,2212232122)]),(66,[(5,6597069766917,21222),(3,261,2222),(12,0x70000000000000101,2132222)]),(67,[(4,229417,2122)]),(68,[(0,1,0)]),(69,[(4,458787,2122)]),(70,[(4,196616,2122)]),(75,[(2,3670279,22)]),(80,[(5,58,21222),(12,250,21212321222),(10,122,2212321222),(8,58,22321222)]),(81,[(4,99,2122)]),(82,[(4,99,2122)]),(86,[(3,35,122),(2,32,222)]),(87,[(6,142,2122)]),(93,[(3,13,122),(2,12,222)]),(95,[(10,969,2222222),(14,1993,2132222222),(19,4041,221232132222222),(12,457,232222222),(23,16448,223232222222)]),(97,[(4,398,2122),(2,136,222)]),(98,[(3,35,212)]),(99,[(4,26,2122),(2,10,222),(10,42,23222)]),(102,[(5,469762056,21222)]),(105,[(8,492581209243697,212222),(6,16,22222)]),(111,[(4,99,2122)]),(112,[(3,13,122),(2,12,222)]),(114,[(4,457,2122),(2,193,222),(14,2241,2123222),(12,192,223222)]),(116,[(6,4157,212222222)]),(117,[(5,228,21222),(3,100,2222),(13,868,21232222),(11,352,2232222),(20,2400,2132232222),(25,6496,21232132232222),(23,2400,2232132232222)]),(118,[(3,35,212)]),(119,[(5,454,21222),(11,966,1212321222),(10,966,2212321222),(14,966,232212321222),(8,454,22321222),(3,192,2222)]),(126,[(0,3,0)]),(127,[(3,135,122),(2,130,222),(8,647,22223122)]),(128,[(2,13,22),(7,13,222322)]),(130,[(1,189,22),(5,4285,21322),(10,12477,2212321322),(3,141,2322)]),(131,[(6,542,2122)]),(133,[(5,249,21222),(3,121,2222)]),(134,[(3,9,212)]),(135,[(2,13,22)])]).getD []
noncomputable def tab:Tab:=tabA Go.Proofs.Tryz.prog tbl meths
set_option maxRecDepth 100000 in
theorem methOk:MethOk Go.Proofs.Tryz.prog tab:=by
 have all:∀p∈methL,∀a w,(method (Go.Proofs.Tryz.prog.types.size+Made.depth) p.1 (.pointer (some a)) p.2.1).run Go.Proofs.Tryz.prog w=.ok (p.2.2,.pointer (some a)) w:=by
  intro p hp
  simp only[methL,List.mem_cons,List.not_mem_nil,or_false] at hp
  rcases hp with rfl|rfl|rfl|rfl|rfl|rfl<;>exact λa w=>by kernel_rfl
 intro t nm f h a w
 have h2:(methL.find? λp=>p.1 == t && p.2.1 == nm).map (·.2.2)=some f:=h
 rw[Option.map_eq_some_iff] at h2
 obtain ⟨p,h3,h4⟩:=h2
 have h5:=List.find?_some h3
 rw[Bool.and_eq_true,beq_iff_eq,beq_iff_eq] at h5
 have h6:=all p (List.mem_of_find?_eq_some h3) a w
 rw[h5.1,h5.2,h4] at h6
 exact h6
theorem valid:Valid Go.Proofs.Tryz.prog tab:=b9j methOk
end Go.Gm.AZ
namespace Go.Gm.AZ
open Go Go.Gm
noncomputable section
variable (k j0 j1 j2 j3:Nat) (a b c d e f g i l m:AV) (h:Heap)
def c6X:=bk tab tbl c7K 0 [j0] [a,b,c,d,e,f] h k
theorem c8k:c6X k (j0+1) a b c d e f h =
 oa (lenS b) λg=>oa (binV .lss .scalar f g) λi=>cond2 i
 (
 oa (idxS 1 b f) λl=>oa (ld1 h l) λm=>ob (evalFn tab k b0_ [m] h) λn o=>oa (extr 0 n) λp=>oa (extr 1 n) λq=>ob (newVar o [.nils,.nils]) λr s=>oh (stN 2 s r p) λt=>oa (binV .neq .scalar q (I 0)) λu=>cond2 u
 (
 some ((.bool false),t)
 )
 (
 oa (ldN 2 t a) λv=>oa (ldN 2 t r) λw=>ob (evalFn tab k c4_ [v,w,d] t) λx y=>oa (ldN 6 y c) λz=>oa (ldN 2 y r) λaa=>ob (evalFn tab k d4_ [z,aa,d,e] y) λab ac=>oa (extr 0 ab) λad=>oa (extr 1 ab) λae=>ob (newVar ac [I 0,.nils]) λaf ag=>oh (stN 2 ag af ad) λai=>oa (idxS 1 x e) λal=>oa (ld1 ai al) λam=>oa (binV .geq .scalar am (I 0)) λan=>oa (binV .neq .bool ae an) λao=>ob (gd ao false (some (ae,ai)) ai) λap aq=>ob (gd ao false (some (ap,aq)) aq) λar au=>ob (gd ar true (pure1 au (ldN 2 au a)) au) λav aw=>ob (gd ar true (pure1 aw (ldN 2 aw r)) aw) λax ay=>ob (gd ar true (some (d,ay)) ay) λaz a0=>ob (gd ar true (some (e,a0)) a0) λa1 a2=>ob (gd ar true (pure1 a2 (ldN 2 a2 af)) a2) λa3 a4=>ob (gd ar true (some (x,a4)) a4) λa5 a6=>ob (gd ar true (some (e,a6)) a6) λa7 a8=>ob (gd ar true (pure1 a8 (idxS 1 a5 a7)) a8) λa9 ba=>ob (gd ar true (pure1 ba (ld1 ba a9)) ba) λbb bc=>ob (gd ar true (evalFn tab k k7_ [av,ax,az,a1,a3,bb] bc) bc) λbd be=>ob (gd ar true (pure1 be (unV .not bd)) be) λbf bg=>ob (gd ao false (pure1 bg (pickV ar bf (.bool false))) bg) λbi bl=>oa (pickV ao (.bool true) bi) λbm=>cond2 bm
 (
 some ((.bool false),bl)
 )
 (
 oa (binV .add .scalar f (I 1)) λbn=>c6X k j0 a b c d e bn bl
 )
 )
 )
 (
 some ((.bool true),h)
 ):=bkEq
theorem c8z:evalFn tab (k+1) c7K [a,b,c,d,e] h =
 ob (evalFn tab k g3_ [] h) λf g=>oa (unV .not f) λi=>cond2 i
 (
 some ((.bool false),g)
 )
 (
 ob (evalFn tab k b3_ [a,b,(I 0)] g) λl m=>ob (newVar m [I 0,.nils]) λn o=>oh (stN 2 o n l) λp=>ob (evalFn tab k b1_ [c,(I 5)] p) λq r=>oa (binV .add .scalar (I 48) q) λs=>oa (convV .u8 s) λt=>ob (buildSl 1 1 [.int .u8 0] [(0,1,t)] r) λu v=>oa (b2sV v u) λw=>oa (binV .add .scalar (.str ⟨#[46,123]⟩) w) λx=>oa (binV .add .scalar x (.str ⟨#[44]⟩)) λy=>oa (binV .add .scalar y w) λz=>oa (binV .add .scalar z (.str ⟨#[125]⟩)) λaa=>oa (binV .add .scalar (.str ⟨#[91,119,98,93,123]⟩) w) λab=>oa (binV .add .scalar ab (.str ⟨#[44,57,125]⟩)) λac=>oa (binV .add .scalar (.str ⟨#[119,123,48,44]⟩) w) λad=>oa (binV .add .scalar ad (.str ⟨#[125,98,42]⟩)) λae=>ob (buildSl 1 5 [.str ⟨#[]⟩,.str ⟨#[]⟩,.str ⟨#[]⟩,.str ⟨#[]⟩,.str ⟨#[]⟩] [(0,1,aa),(1,1,(.str ⟨#[40,46,46,41,42]⟩)),(2,1,(.str ⟨#[40,46,46,46,41,42,46]⟩)),(3,1,ac),(4,1,ae)] v) λaf ag=>oa (ldN 2 ag n) λai=>ob (evalFn tab k a6_ [ai] ag) λal am=>ob (newVar am [I 0,.nils,.nils,.nils,.nils,.nils]) λan ao=>oh (stN 6 ao an al) λap=>oa (fldA 0 n) λaq=>oa (ld1 ap aq) λar=>oa (fldA 0 n) λau=>oa (ld1 ap au) λav=>ob (evalFn tab k b1_ [d,ar] ap) λaw ax=>chk ((sameB (pure1 ax (ld1 ax au)) av && true)) <|ob (evalFn tab k b1_ [e,av] ax) λay az=>c6X k k n af an aw ay (I 0) az
 ):=fnEq
theorem a9s:evalFn tab (k+1) g3_ [] h =
 oa (buildV [I 0,I 0,I 0,I 0] [(0,1,(I 0)),(1,1,(I 1)),(3,1,(I 4))]) λa=>ob (buildSl 4 1 [I 0,I 0,I 0,I 0] [(0,4,a)] h) λb c=>oa (buildV [I 0,.nils] [(0,1,(I 2)),(1,1,b)]) λd=>ob (evalFn tab k a6_ [d] c) λe f=>ob (newVar f [I 0,.nils,.nils,.nils,.nils,.nils]) λg i=>oh (stN 6 i g e) λl=>oa (buildV [I 0,I 0,I 0,I 0,I 0] []) λm=>ob (buildSl 5 1 [I 0,I 0,I 0,I 0,I 0] [(0,5,m)] l) λn o=>ob (buildSl 1 1 [.bool false] [(0,1,(.bool true))] o) λp q=>oa (buildV [.nils,.nils] [(0,1,n),(1,1,p)]) λr=>ob (newVar q [.nils,.nils]) λs t=>oh (stN 2 t s r) λu=>oa (ldN 6 u g) λv=>oa (ldN 2 u s) λw=>ob (evalFn tab k d4_ [v,w,(I 0),(I 1)] u) λx y=>oa (extr 0 x) λz=>oa (extr 1 x) λaa=>ob (newVar y [I 0,.nils]) λab ac=>oh (stN 2 ac ab z) λad=>oa (ldN 6 ad g) λae=>oa (ldN 2 ad s) λaf=>ob (buildSl 1 2 [I 0,I 0] [(0,1,(I 1)),(1,1,(I 0))] ad) λag ai=>ob (evalFn tab k p9_ [ae,af,(I 0),ag] ai) λal am=>oa (ldN 6 am g) λan=>oa (ldN 2 am s) λao=>ob (evalFn tab k p9_ [an,ao,(I 0),.nils] am) λap aq=>oa (lenS ap) λar=>oa (binV .eql .scalar ar (I 0)) λau=>ob (gd au true (some (aa,aq)) aq) λav aw=>oa (pickV au av (.bool false)) λax=>ob (gd ax true (pure1 aw (fldA 0 ab)) aw) λay az=>ob (gd ax true (pure1 az (ld1 az ay)) az) λa0 a1=>ob (gd ax true (pure1 a1 (binV .eql .scalar a0 (I 4))) a1) λa2 a3=>oa (pickV ax a2 (.bool false)) λa4=>ob (gd a4 true (pure1 a3 (fldA 1 ab)) a3) λa5 a6=>ob (gd a4 true (pure1 a6 (ld1 a6 a5)) a6) λa7 a8=>ob (gd a4 true (pure1 a8 (lenS a7)) a8) λa9 ba=>ob (gd a4 true (pure1 ba (binV .eql .scalar a9 (I 1))) ba) λbb bc=>oa (pickV a4 bb (.bool false)) λbd=>ob (gd bd true (some (al,bc)) bc) λbe bf=>ob (gd bd true (pure1 bf (lenS be)) bf) λbg bi=>ob (gd bd true (pure1 bi (binV .eql .scalar bg (I 2))) bi) λbl bm=>oa (pickV bd bl (.bool false)) λbn=>ob (gd bn true (some (al,bm)) bm) λbo bp=>ob (gd bn true (pure1 bp (idxS 1 bo (I 0))) bp) λbq br=>ob (gd bn true (pure1 br (ld1 br bq)) br) λbs bt=>ob (gd bn true (pure1 bt (binV .eql .scalar bs (I 4))) bt) λbu bv=>oa (pickV bn bu (.bool false)) λbw=>ob (gd bw true (some (al,bv)) bv) λbx bz=>ob (gd bw true (pure1 bz (idxS 1 bx (I 1))) bz) λb0 b1=>ob (gd bw true (pure1 b1 (ld1 b1 b0)) b1) λb2 b3=>ob (gd bw true (pure1 b3 (binV .eql .scalar b2 (I 0))) b3) λb4 b5=>oa (pickV bw b4 (.bool false)) λb6=>some (b6,b5):=fnEq
def k3_:=bk tab tbl b3_ 0 [j0] [a,b,c,d,e] h k
def k4_:=bk tab tbl b3_ 1 [j0] [a,b,c,d,e,f,g] h k
def z3_:=bk tab tbl b3_ 2 [j0] [a,b,c,d,e,f] h k
theorem a8L:z3_ k j0 a b c d e f h =
 oa (fldA 1 d) λg=>oa (ld1 h g) λi=>oa (ldN 4 h f) λl=>ob (buildSl 4 1 [I 0,I 0,I 0,I 0] [(0,4,l)] h) λm n=>ob (apnd 4 32 i m n) λo p=>oa (fldA 1 d) λq=>oh (stN 1 p q o) λr=>oa (binV .add .scalar e (I 1)) λs=>k3_ k j0 a b c d s r:=bkEq
theorem a8M:k4_ k j0 a b c d e f g h =
 ob (evalFn tab k b8_ [f,(I 31)] h) λi l=>oa (binV .eql .scalar i (I 0)) λm=>cond2 m
 (
 oa (binV .quo .scalar f (I 31)) λn=>ob (evalFn tab k b8_ [n,(I 3)] l) λo p=>oa (binV .sub .scalar (I 2147483647) o) λq=>oa (fldA 3 g) λr=>oh (stN 1 p r q) λs=>z3_ k j0 a b c d e g s
 )
 (
 z3_ k j0 a b c d e g l
 ):=bkEq
theorem a3Q:k3_ k (j0+1) a b c d e h =
 oa (lenS a) λf=>oa (binV .lss .scalar e f) λg=>ob (gd g true (some (e,h)) h) λi l=>ob (gd g true (pure1 l (binV .lss .scalar i (I 40))) l) λm n=>oa (pickV g m (.bool false)) λo=>cond2 o
 (
 oa (idxS 1 a e) λp=>oa (ld1 n p) λq=>oa (fldA 0 d) λr=>oa (ld1 n r) λs=>oa (binV .quo .scalar q (I 13)) λt=>oa (fldA 0 d) λu=>oa (ld1 n u) λv=>oa (binV .quo .scalar q (I 170)) λw=>oa (binV .quo .scalar q (I 900)) λx=>ob (newVar n [I 0,I 0,I 0,I 0]) λy z=>ob (evalFn tab k b8_ [q,s] z) λaa ab=>chk ((sameB (pure1 ab (ld1 ab u)) v && true)) <|ob (evalFn tab k b8_ [t,v] ab) λac ad=>ob (evalFn tab k b8_ [w,(I 5)] ad) λae af=>ob (evalFn tab k b8_ [x,(I 9)] af) λag ai=>oa (buildV [I 0,I 0,I 0,I 0] [(0,1,aa),(1,1,ac),(2,1,ae),(3,1,ag)]) λal=>oh (stN 4 ai y al) λam=>ob (evalFn tab k b8_ [b,(I 3)] am) λan ao=>oa (binV .eql .scalar an (I 0)) λap=>cond2 ap
 (
 oa (fldA 0 y) λaq=>oa (ld1 ao aq) λar=>oa (fldA 1 y) λau=>oa (ld1 ao au) λav=>oa (binV .add .scalar ar av) λaw=>ob (evalFn tab k b8_ [aw,(I 2)] ao) λax ay=>oa (fldA 2 y) λaz=>oh (stN 1 ay az ax) λa0=>k4_ k j0 a b c d e q y a0
 )
 (
 ob (evalFn tab k b8_ [b,(I 3)] ao) λa1 a2=>oa (binV .eql .scalar a1 (I 1)) λa3=>cond2 a3
 (
 oa (fldA 2 y) λa4=>oa (ld1 a2 a4) λa5=>oa (fldA 0 y) λa6=>oa (ld1 a2 a6) λa7=>oa (binV .mul .scalar a5 a7) λa8=>ob (evalFn tab k b8_ [a8,(I 3)] a2) λa9 ba=>oa (fldA 2 y) λbb=>oh (stN 1 ba bb a9) λbc=>k4_ k j0 a b c d e q y bc
 )
 (
 k4_ k j0 a b c d e q y a2
 )
 )
 )
 (
 oa (ldN 2 n d) λbd=>oh (stN 2 n c bd) λbe=>oa (ldN 2 be c) λbf=>some (bf,be)
 ):=bkEq
theorem b0t:evalFn tab (k+1) b3_ [a,b,c] h =
 ob (newVar h [I 0,.nils]) λd e=>ob (evalFn tab k b8_ [a,(I 12)] e) λf g=>oa (binV .add .scalar (I 1) f) λi=>oa (buildV [I 0,.nils] [(0,1,i)]) λl=>ob (newVar g [I 0,.nils]) λm n=>oh (stN 2 n m l) λo=>k3_ k k b c d m (I 0) o:=fnEq
theorem a8V:evalFn tab (k+1) b1_ [a,b] h =
 oa (binV .rem .scalar a b) λc=>oa (binV .lss .scalar c (I 0)) λd=>cond2 d
 (
 oa (binV .add .scalar c b) λe=>some (e,h)
 )
 (
 some (c,h)
 ):=fnEq
end
end Go.Gm.AZ
namespace Go.Gm.AZ
open Go Go.Gm
noncomputable section
variable (k j0 j1 j2 j3:Nat) (a b c d e f g i l m:AV) (h:Heap)
def o8_:=bk tab tbl c4_ 0 [j0] [a,b,c,d,e] h k
def o9_:=bk tab tbl c4_ 1 [j0,j1] [a,b,c,d,e,f,g] h k
def a1D:=bk tab tbl c4_ 2 [j0] [a,b,c,d,e,f] h k
def a4M:=bk tab tbl c4_ 3 [j0] [a,b,c,d,e] h k
theorem a8c:a4M k j0 a b c d e h =
 oa (binV .add .scalar e (I 1)) λf=>o8_ k j0 a b c d f h:=bkEq
theorem a8d:a1D k j0 a b c d e f h =
 ob (buildSl 1 1 [I 0] [(0,1,f)] h) λg i=>ob (apnd 1 8 d g i) λl m=>a4M k j0 a b c l e m:=bkEq
theorem a3n:o9_ k j0 (j1+1) a b c d e f g h =
 oa (fldA 0 b) λi=>oa (ld1 h i) λl=>oa (lenS l) λm=>oa (binV .lss .scalar g m) λn=>cond2 n
 (
 oa (fldA 1 b) λo=>oa (ld1 h o) λp=>oa (idxS 1 p g) λq=>oa (ld1 h q) λr=>ob (gd r true (some (c,h)) h) λs t=>ob (gd r true (some (e,t)) t) λu v=>ob (gd r true (pure1 v (idxS 1 s u)) v) λw x=>ob (gd r true (pure1 x (ld1 x w)) x) λy z=>ob (gd r true (some (g,z)) z) λaa ab=>ob (gd r true (pure1 ab (idxS 1 y aa)) ab) λac ad=>ob (gd r true (pure1 ad (ld1 ad ac)) ad) λae af=>ob (gd r true (pure1 af (binV .geq .scalar ae (I 0))) af) λag ai=>oa (pickV r ag (.bool false)) λal=>ob (gd al true (some (f,ai)) ai) λam an=>ob (gd al true (pure1 an (binV .lss .scalar am (I 0))) an) λao ap=>ob (gd al true (some (ao,ap)) ap) λaq ar=>ob (gd aq false (some (c,ar)) ar) λau av=>ob (gd aq false (some (e,av)) av) λaw ax=>ob (gd aq false (pure1 ax (idxS 1 au aw)) ax) λay az=>ob (gd aq false (pure1 az (ld1 az ay)) az) λa0 a1=>ob (gd aq false (some (g,a1)) a1) λa2 a3=>ob (gd aq false (pure1 a3 (idxS 1 a0 a2)) a3) λa4 a5=>ob (gd aq false (pure1 a5 (ld1 a5 a4)) a5) λa6 a7=>ob (gd aq false (some (f,a7)) a7) λa8 a9=>ob (gd aq false (pure1 a9 (binV .lss .scalar a6 a8)) a9) λba bb=>ob (gd al true (pure1 bb (pickV aq (.bool true) ba)) bb) λbc bd=>oa (pickV al bc (.bool false)) λbe=>cond2 be
 (
 oa (idxS 1 c e) λbf=>oa (ld1 bd bf) λbg=>oa (idxS 1 bg g) λbi=>oa (ld1 bd bi) λbl=>oa (binV .add .scalar g (I 1)) λbm=>o9_ k j0 j1 a b c d e bl bm bd
 )
 (
 oa (binV .add .scalar g (I 1)) λbn=>o9_ k j0 j1 a b c d e f bn bd
 )
 )
 (
 a1D k j0 a b c d e f h
 ):=bkEq
theorem a3o:o8_ k (j0+1) a b c d e h =
 oa (fldA 0 a) λf=>oa (ld1 h f) λg=>oa (binV .lss .scalar e g) λi=>cond2 i
 (
 o9_ k j0 k a b c d e (I (-1)) (I 0) h
 )
 (
 some (d,h)
 ):=bkEq
theorem a9Y:evalFn tab (k+1) c4_ [a,b,c] h =
 ob (newVar h (AV.cells a)) λd e=>ob (newVar e (AV.cells b)) λf g=>oa (ldN 2 g d) λi=>oa (ldN 2 g f) λl=>ob (evalFn tab k c5_ [i,l,c] g) λm n=>o8_ k k d f m .nils (I 0) n:=fnEq
def a4X:=bk tab tbl p9_ 0 [j0] [a,b,c,d,e] h k
def b1D:=bk tab tbl p9_ 1 [] [a,b,c,d,e] h k
def a4Y:=bk tab tbl p9_ 2 [j0] [a,b,c,d,e,f] h k
def a4Z:=bk tab tbl p9_ 3 [j0] [a,b,c,d,e,f,g] h k
theorem a8Z:a4X k (j0+1) a b c d e h =
 oa (binV .lss .scalar e d) λf=>cond2 f
 (
 oa (idxS 1 c e) λg=>oa (ld1 h g) λi=>oa (idxS 1 b i) λl=>oa (ld1 h l) λm=>ob (buildSl 1 1 [I 0] [(0,1,m)] h) λn o=>ob (apnd 1 8 a n o) λp q=>oa (binV .add .scalar e (I 1)) λr=>a4X k j0 p b c d r q
 )
 (
 some (a,h)
 ):=bkEq
theorem b3n:a4Z k j0 a b c d e f g h =
 ob (buildSl 1 1 [I 0] [(0,1,d)] h) λi l=>ob (apnd 1 8 a i l) λm n=>oa (binV .add .scalar g (I 1)) λo=>a4Y k j0 m b c e f o n:=bkEq
theorem a9a:a4Y k (j0+1) a b c d e f h =
 oa (binV .lss .scalar f e) λg=>cond2 g
 (
 oa (idxS 1 d f) λi=>oa (ld1 h i) λl=>ob (callVal (evalFn tab k) c [b,l] h) λm n=>oa (binV .geq .scalar m (I 0)) λo=>cond2 o
 (
 oa (nilCk b) λp=>oa (fldA 2 p) λq=>oa (ld1 n q) λr=>oa (idxS 1 r m) λs=>oa (ld1 n s) λt=>a4Z k j0 a b c t d e f n
 )
 (
 a4Z k j0 a b c (I (-1)) d e f n
 )
 )
 (
 some (a,h)
 ):=bkEq
theorem b3o:b1D k a b c d e h =
 oa (ldN 6 h c) λf=>oa (ldN 2 h d) λg=>ob (evalFn tab k t9_ [f,g] h) λi l=>ob (evalFn tab k m0_ [i,a] l) λm n=>oa (lenS b) λo=>a4Y k k e m (.fn j8_ [] []) b o (I 0) n:=bkEq
theorem b5D:evalFn tab (k+1) p9_ [a,b,c,d] h =
 ob (newVar h (AV.cells a)) λe f=>ob (newVar f (AV.cells b)) λg i=>oa (lenS d) λl=>ob (mkSl [I 0] 1 8 (I 0) l i) λm n=>oa (ldN 2 n g) λo=>ob (evalFn tab k a1s [o] n) λp q=>oa (unV .not p) λr=>cond2 r
 (
 oa (fldA 0 e) λs=>oa (ldN 2 q s) λt=>oa (ldN 2 q g) λu=>ob (evalFn tab k c2_ [t,u,c] q) λv w=>oa (lenS d) λx=>a4X k k m v d x (I 0) w
 )
 (
 b1D k c d e g m q
 ):=fnEq
def u9_:=bk tab tbl a6_ 0 [j0] [a,b,c,d] h k
def a1f:=bk tab tbl a6_ 1 [] [a,b,c] h k
def v0_:=bk tab tbl a6_ 2 [j0] [a,b,c,d,e] h k
def v1_:=bk tab tbl a6_ 3 [j0,j1] [a,b,c,d,e,f,g,i,l] h k
def v2_:=bk tab tbl a6_ 4 [j0,j1,j2] [a,b,c,d,e,f,g,i,l,m] h k
def a1g:=bk tab tbl a6_ 5 [j0,j1] [a,b,c,d,e,f,g,i,l] h k
def a1h:=bk tab tbl a6_ 6 [j0] [a,b,c,d,e,f] h k
def a4y:=bk tab tbl a6_ 7 [j0] [a,b,c,d,e] h k
def a1i:=bk tab tbl a6_ 8 [] [a,b,c] h k
def l8_:=bk tab tbl a6_ 9 [j0] [a,b,c,d] h k
def a0E:=bk tab tbl a6_ 10 [] [a,b] h k
theorem a7B:a1g k j0 j1 a b c d e f g i l h =
 oa (binV .add .scalar l (I 1)) λm=>v1_ k j0 j1 a b c d e f g i m h:=bkEq
theorem a2O:v2_ k j0 j1 (j2+1) a b c d e f g i l m h =
 oa (lenS g) λn=>oa (binV .lss .scalar m n) λo=>cond2 o
 (
 oa (idxS 1 i l) λp=>oa (ld1 h p) λq=>oa (idxS 1 g m) λr=>oa (ld1 h r) λs=>ob (evalFn tab k z0_ [c,q,s] h) λt u=>oa (binV .add .scalar m (I 1)) λv=>v2_ k j0 j1 j2 a b c d e f g i l v u
 )
 (
 a1g k j0 j1 a b c d e f g i l h
 ):=bkEq
theorem a7C:a4y k j0 a b c d e h =
 oa (binV .add .scalar e (I 1)) λf=>v0_ k j0 a b c d f h:=bkEq
theorem a7D:a1h k j0 a b c d e f h =
 oa (nilCk c) λg=>oa (fldA 7 g) λi=>oa (ld1 h i) λl=>oa (idxS 1 l f) λm=>oh (stN 1 h m (.bool true)) λn=>a4y k j0 a b c d e n:=bkEq
theorem a2P:v1_ k j0 (j1+1) a b c d e f g i l h =
 oa (lenS i) λm=>oa (binV .lss .scalar l m) λn=>cond2 n
 (
 v2_ k j0 j1 k a b c d e f g i l (I 0) h
 )
 (
 a1h k j0 a b c d e f h
 ):=bkEq
theorem a7h:a0E k a b h =
 oa (nilCk b) λc=>oa (fldA 0 c) λd=>oa (ldN 6 h d) λe=>oh (stN 6 h a e) λf=>oa (ldN 6 f a) λg=>some (g,f):=bkEq
theorem a2x:l8_ k (j0+1) a b c d h =
 oa (fldA 0 a) λe=>oa (ld1 h e) λf=>oa (binV .lss .scalar d f) λg=>cond2 g
 (
 oa (nilCk c) λi=>oa (fldA 7 i) λl=>oa (ld1 h l) λm=>oa (idxS 1 m d) λn=>oa (ld1 h n) λo=>oa (unV .not o) λp=>cond2 p
 (
 oa (nilCk c) λq=>oa (fldA 0 q) λr=>oa (fldA 4 r) λs=>oa (ld1 h s) λt=>ob (evalFn tab k e6_ [c,d] h) λu v=>chk ((sameB (pure1 v (ld1 v s)) t && true)) <|oa (idxS 1 t d) λw=>oh (stN 1 v w u) λx=>oa (binV .add .scalar d (I 1)) λy=>l8_ k j0 a b c y x
 )
 (
 oa (binV .add .scalar d (I 1)) λz=>l8_ k j0 a b c z h
 )
 )
 (
 a0E k b c h
 ):=bkEq
theorem a7E:a1i k a b c h =
 l8_ k k a b c (I 0) h:=bkEq
theorem a2Q:v0_ k (j0+1) a b c d e h =
 oa (lenS d) λf=>oa (binV .lss .scalar e f) λg=>cond2 g
 (
 oa (idxS 1 d e) λi=>oa (ld1 h i) λl=>oa (nilCk c) λm=>oa (fldA 0 m) λn=>oa (fldA 2 n) λo=>oa (ld1 h o) λp=>oa (idxS 1 p l) λq=>oh (stN 1 h q e) λr=>ob (evalFn tab k e6_ [c,l] r) λs t=>ob (evalFn tab k h8_ [c,l] t) λu v=>oa (nilCk c) λw=>oa (fldA 0 w) λx=>oa (fldA 4 x) λy=>oa (ld1 v y) λz=>oa (nilCk c) λaa=>oa (fldA 0 aa) λab=>oa (fldA 5 ab) λac=>oa (ld1 v ac) λad=>oa (idxS 1 z l) λae=>oh (stN 1 v ae s) λaf=>oa (idxS 1 ad l) λag=>oh (stN 1 af ag u) λai=>v1_ k j0 k a b c d e l s u (I 0) ai
 )
 (
 a1i k a b c h
 ):=bkEq
theorem a7F:a1f k a b c h =
 ob (evalFn tab k f3_ [c] h) λd e=>oa (ldN 2 e a) λf=>ob (evalFn tab k j4_ [f] e) λg i=>v0_ k k a b c g (I 0) i:=bkEq
theorem a2R:u9_ k (j0+1) a b c d h =
 oa (fldA 0 a) λe=>oa (ld1 h e) λf=>oa (binV .lss .scalar d f) λg=>cond2 g
 (
 oa (nilCk c) λi=>oa (fldA 0 i) λl=>oa (fldA 2 l) λm=>oa (ld1 h m) λn=>ob (buildSl 1 1 [I 0] [(0,1,(I (-1)))] h) λo p=>ob (apnd 1 8 n o p) λq r=>oa (nilCk c) λs=>oa (fldA 0 s) λt=>oa (fldA 2 t) λu=>oh (stN 1 r u q) λv=>oa (binV .add .scalar d (I 1)) λw=>u9_ k j0 a b c w v
 )
 (
 a1f k a b c h
 ):=bkEq
theorem a9t:evalFn tab (k+1) a6_ [a] h =
 ob (newVar h (AV.cells a)) λb c=>ob (newVar c [I 0,.nils,.nils,.nils,.nils,.nils]) λd e=>oa (fldA 0 b) λf=>oa (ld1 e f) λg=>oa (fldA 0 b) λi=>oa (ld1 e i) λl=>oa (binV .mul .scalar g l) λm=>oa (binV .mul .scalar m (I 5)) λn=>ob (mkSl [I 0] 1 8 n n e) λo p=>oa (fldA 0 b) λq=>oa (ld1 p q) λr=>ob (mkSl [.bool false] 1 1 r r p) λs t=>oa (buildV [I 0,.nils,.nils,.nils,.nils,.nils,.nils,.nils] [(6,1,o),(7,1,s)]) λu=>ob (newVar t (AV.cells u)) λv w=>oa (fldA 0 b) λx=>oa (ld1 w x) λy=>ob (buildSl 4 0 [] [] w) λz aa=>oa (fldA 1 b) λab=>oa (ld1 aa ab) λac=>ob (apnd 4 32 z ac aa) λad ae=>chk ((sameB (pure1 ae (ld1 ae x)) y && true)) <|oa (buildV [I 0,.nils] [(0,1,y),(1,1,ad)]) λaf=>oa (nilCk v) λag=>oa (fldA 0 ag) λai=>oa (fldA 0 ai) λal=>oh (stN 2 ae al af) λam=>oa (fldA 0 b) λan=>oa (ld1 am an) λao=>ob (mkSl [.nils] 1 24 ao ao am) λap aq=>oa (fldA 0 b) λar=>oa (ld1 aq ar) λau=>ob (mkSl [.nils] 1 24 au au aq) λav aw=>oa (nilCk v) λax=>oa (fldA 0 ax) λay=>oa (fldA 4 ay) λaz=>oh (stN 1 aw az ap) λa0=>chk ((sameB (pure1 a0 (ld1 a0 ar)) au && true)) <|oa (nilCk v) λa1=>oa (fldA 0 a1) λa2=>oa (fldA 5 a2) λa3=>oh (stN 1 a0 a3 av) λa4=>u9_ k k b d v (I 0) a4:=fnEq
def a4q:=bk tab tbl d4_ 0 [j0] [a,b,c,d,e,f] h k
def a6E:=bk tab tbl d4_ 1 [] [a,b,c,d] h k
def a4r:=bk tab tbl d4_ 2 [j0] [a,b,c,d,e,f] h k
def b0x:=bk tab tbl d4_ 3 [] [a,b] h k
theorem b2L:b0x k a b h =
 oa (fldA 1 b) λc=>oa (ld1 h c) λd=>ob (evalFn tab k r5_ [d] h) λe f=>oa (fldA 1 b) λg=>oh (stN 1 f g e) λi=>oa (ldN 2 i b) λl=>oh (stN 2 i a l) λm=>oa (ldN 2 m a) λn=>some (.tup [n,(.bool true)],m):=bkEq
theorem a7V:a4r k (j0+1) a b c d e f h =
 oa (binV .lss .scalar f e) λg=>cond2 g
 (
 oa (idxS 1 d f) λi=>oa (ld1 h i) λl=>oa (fldA 1 c) λm=>oa (ld1 h m) λn=>oa (ldN 6 h a) λo=>ob (evalFn tab k a3c [o,l] h) λp q=>chk ((sameB (pure1 q (ld1 q m)) n && true)) <|ob (apnd 1 8 n p q) λr s=>oa (fldA 1 c) λt=>oh (stN 1 s t r) λu=>oa (binV .add .scalar f (I 1)) λv=>a4r k j0 a b c d e v u
 )
 (
 b0x k b c h
 ):=bkEq
theorem b2M:a6E k a b c d h =
 ob (evalFn tab k u0_ [d] h) λe f=>oa (lenS d) λg=>a4r k k a b c d g (I 0) f:=bkEq
theorem b2N:a4q k (j0+1) a b c d e f h =
 oa (nilCk c) λg=>oa (fldA 4 g) λi=>oa (ld1 h i) λl=>oa (idxS 1 l d) λm=>oa (ld1 h m) λn=>oa (binV .geq .scalar n (I 0)) λo=>cond2 o
 (
 oa (nilCk c) λp=>oa (fldA 3 p) λq=>oa (ld1 h q) λr=>oa (idxS 1 r d) λs=>oa (ld1 h s) λt=>ob (buildSl 1 1 [I 0] [(0,1,t)] h) λu v=>ob (apnd 1 8 f u v) λw x=>oa (nilCk c) λy=>oa (fldA 4 y) λz=>oa (ld1 x z) λaa=>oa (idxS 1 aa d) λab=>oa (ld1 x ab) λac=>a4q k j0 a b c ac e w x
 )
 (
 a6E k a b e f h
 ):=bkEq
theorem b4E:evalFn tab (k+1) d4_ [a,b,c,d] h =
 ob (newVar h (AV.cells a)) λe f=>ob (newVar f (AV.cells b)) λg i=>ob (newVar i [I 0,.nils]) λl m=>oa (ldN 2 m g) λn=>ob (evalFn tab k a1s [n] m) λo p=>oa (unV .not o) λq=>cond2 q
 (
 oa (fldA 0 e) λr=>oa (ldN 2 p r) λs=>oa (ldN 2 p g) λt=>ob (evalFn tab k o5_ [s,t,c,d] p) λu v=>oa (extr 0 u) λw=>oa (extr 1 u) λx=>oh (stN 2 v l w) λy=>oa (ldN 2 y l) λz=>some (.tup [z,x],y)
 )
 (
 oa (ldN 6 p e) λaa=>oa (ldN 2 p g) λab=>ob (evalFn tab k t9_ [aa,ab] p) λac ad=>ob (evalFn tab k m0_ [ac,c] ad) λae af=>ob (evalFn tab k j8_ [ae,d] af) λag ai=>oa (binV .lss .scalar ag (I 0)) λal=>cond2 al
 (
 oa (buildV [I 0,.nils] []) λam=>oh (stN 2 ai l am) λan=>oa (ldN 2 an l) λao=>some (.tup [ao,(.bool false)],an)
 )
 (
 oa (nilCk ae) λap=>oa (fldA 2 ap) λaq=>oa (ld1 ai aq) λar=>oa (idxS 1 ar ag) λau=>oa (ld1 ai au) λav=>oa (buildV [I 0,.nils] [(0,1,av)]) λaw=>ob (newVar ai [I 0,.nils]) λax ay=>oh (stN 2 ay ax aw) λaz=>a4q k k e l ae ag ax .nils az
 )
 ):=fnEq
theorem a9Z:evalFn tab (k+1) k7_ [a,b,c,d,e,f] h =
 ob (newVar h (AV.cells a)) λg i=>ob (newVar i (AV.cells b)) λl m=>ob (newVar m (AV.cells e)) λn o=>oa (ldN 2 o g) λp=>oa (fldA 1 n) λq=>oa (ld1 o q) λr=>ob (evalFn tab k t8_ [p,c,d,r] o) λs t=>oa (extr 0 s) λu=>oa (extr 1 s) λv=>oa (extr 2 s) λw=>ob (gd w true (some (u,t)) t) λx y=>ob (gd w true (pure1 y (fldA 0 n)) y) λz aa=>ob (gd w true (pure1 aa (ld1 aa z)) aa) λab ac=>ob (gd w true (pure1 ac (binV .eql .scalar x ab)) ac) λad ae=>oa (pickV w ad (.bool false)) λaf=>ob (gd af true (some (u,ae)) ae) λag ai=>ob (gd af true (some (f,ai)) ai) λal am=>ob (gd af true (pure1 am (binV .eql .scalar ag al)) am) λan ao=>oa (pickV af an (.bool false)) λap=>ob (gd ap true (pure1 ao (ldN 2 ao l)) ao) λaq ar=>ob (gd ap true (some (v,ar)) ar) λau av=>ob (gd ap true (evalFn tab k a3j [aq,au] av) av) λaw ax=>oa (pickV ap aw (.bool false)) λay=>some (ay,ax):=fnEq
end
end Go.Gm.AZ
