/- A part of the proof (GmOps5, GmCall, GmLay, GmDraw, GmCode, GmK, GmW). -/
import Derived.Laws.BytesString
import Derived.Laws.Cells
import Derived.Calls
import Derived.LoopN
import Derived.Orders
import Derived.Test.YtldnkafmanalmaaGreatQueryCountsP0
set_option autoImplicit true
set_option relaxedAutoImplicit true
set_option linter.unusedVariables false
set_option linter.unusedSimpArgs false
namespace Go.Gm
open Go.RowKit
section
variable {B:Nat} {w0:World} {φ:Ren} {h h':Heap} {w:World} {P:Program} {fr:Frm} {cmp:Operand->Option Opd} {ρ:Operand->Value}
theorem b4i:∀{cs:List AV} {l:List UInt8},b2sL cs=some l->∃ns:List Int,cs=ns.map (AV.int .u8)/\l=ns.map λn=>UInt8.ofNat n.toNat
 |[],l,h=>by injection h with h; exact ⟨[],rfl,h.symm⟩
 |.int .u8 n::r,l,h=>by
  simp only[b2sL,Option.map_eq_some_iff] at h
  obtain ⟨l',h1,rfl⟩:=h
  obtain ⟨ns,rfl,rfl⟩:=b4i h1
  exact ⟨n::ns,rfl,rfl⟩
theorem b4j:∀(ns:List Int) (r:ByteArray),ns.foldl (λr n=>r.push (UInt8.ofNat n.toNat)) r=⟨r.data++(ns.map λn=>UInt8.ofNat n.toNat).toArray⟩
 |[],r=>by simp
 |n::ns,r=>by
  simp only[List.foldl_cons]
  rw[b4j ns]
  simp[ByteArray.push]
theorem b5q:∀{ns:List Int} {vs:List Value},VRs φ (ns.map (AV.int .u8)) vs->vs=ns.map (Value.int .u8)
 |[],_,.nil=>rfl
 |n::ns,_,.cons a b=>by cases a; rw[b5q b]; rfl
theorem c5D (hs:S B w0 φ h w)(h1:P.underlying s=some (.slice e))(h2:P.underlying e=some (.int .u8))(h3:P.underlying d=some .string)(hr:VR φ y x)(hv:b2sV h y=some v) :
  ∃v',(convert s d x).run P w=.ok v' w/\VR φ v v':=by
 have base:∀(a:Addr) (len cap:Nat) (cs:List AV) (vs:List Value) (l:List UInt8),vs.length=len->VRs φ cs vs->(∀j v,vs[j]?=some v->w.cell? (a.add j)=some v)->b2sL cs=some l->(convert s d (.slice (some a) len cap)).run P w=.ok (.string ⟨l.toArray⟩) w:=by
  intro a len cap cs vs l hl hvs hc hb
  obtain ⟨ns,rfl,rfl⟩:=b4i hb
  have hvn:=b5q hvs
  rw[run_convert_bytes_string w s d e (some a) len cap h1 h2 h3]
  have hlc:=run_loadCells_list (P:=P) w a vs hc
  rw[hl,hvn] at hlc
  rw[run_bytesToString w a len cap ns hlc,b4j]
  have he0:ByteArray.empty.data=#[]:=rfl
  rw[he0]; simp
 cases hr with
 |nils=>
  simp only[b2sV,Option.some.injEq] at hv
  subst hv
  refine ⟨_,?_,.str _⟩
  rw[run_convert_bytes_string w s d e none 0 0 h1 h2 h3]
  simp[Conv.bytesToString,Sem.run_pure]
 |@sl o off len sz g cap lim l hl hn hlc hm hN hcap=>
  simp only[b2sV] at hv
  split at hv
  ·rename_i heq; cases heq
  ·rename_i o' off' len' lim' g' heq
   injection heq with q1 q2 q3 q4 q5 q6
   subst q1 q2 q3 q4 q6
   simp only[Option.map_eq_some_iff,Option.bind_eq_some_iff] at hv
   obtain ⟨b,⟨cs,hc,hb⟩,rfl⟩:=hv
   obtain ⟨vs,k1,k2,_,_,k5⟩:=hs.cellsAt hl oM hc
   exact ⟨_,base _ _ _ cs vs b k1 k2 k5 hb,.str _⟩
  ·cases hv
 |@sl0 o off sz g lim a ho hcap=>
  simp only[b2sV] at hv
  split at hv
  ·rename_i heq; cases heq
  ·rename_i o' off' len' lim' g' heq
   injection heq with q1 q2 q3 q4 q5 q6
   subst q1 q2 q3 q4 q6
   simp only[Option.map_eq_some_iff,Option.bind_eq_some_iff] at hv
   obtain ⟨b,⟨cs,hc,hb⟩,rfl⟩:=hv
   have hcs:cs=[]:=by
    simp only[rdc] at hc
    split at hc
    ·split at hc
     ·injection hc with hc; simpa using hc.symm
     ·cases hc
    ·cases hc
   subst hcs
   exact ⟨_,base _ _ _ [] [] b rfl .nil (λj v q=>by simp at q) hb,.str _⟩
  ·cases hv
 |_=>simp[b2sV] at hv
theorem optOpd (hf:EvOk φ cmp fr ρ)(hc:compOpdO cmp x=some y) :
  (∀z,y.map (·.ev fr)=some z->∃u,x.map ρ=some u/\VR φ z u)/\(y.map (·.ev fr)=none->x.map ρ=none)/\y.isSome=x.isSome:=by
 cases x with
 |none=>injection hc with hc; subst hc; exact ⟨λ_ q=>by simp at q,λ_=>rfl,rfl⟩
 |some x=>
  simp only[compOpdO,Option.map_eq_some_iff] at hc
  obtain ⟨z,e,rfl⟩:=hc
  exact ⟨λu q=>⟨_,rfl,by simp only[Option.map_some,Option.some.injEq] at q; subst q; exact hf.ev e⟩,λq=>by simp at q,rfl⟩
theorem b5r (hf:EvOk φ cmp fr ρ):∀{ps:List (Nat × Operand)} {qs:List (Nat × Nat × Opd)},compPartsL cmp pl ps=some qs->
  ps.length=qs.length/\∀(i:Nat) p q,(ps.map λ(i,x)=>(i,ρ x))[i]?=some p->(qs.map λ(o,s,x)=>(o,s,x.ev fr))[i]?=some q->pl[p.1]?=some (q.1,q.2.1)/\VR φ q.2.2 p.2
 |[],qs,h=>by injection h with h; subst h; exact ⟨rfl,λi p q h=>by simp at h⟩
 |p::ps,qs,h=>by
  simp only[compPartsL,Option.bind_eq_some_iff,Option.map_eq_some_iff,compPartL] at h
  obtain ⟨x,⟨y,h0,z,hz,rfl⟩,xs,h2,rfl⟩:=h
  obtain ⟨k1,k2⟩:=b5r hf h2
  refine ⟨by simp[k1],λi=>?_⟩
  cases i with
  |zero=>
   intro p' q' e1 e2
   simp only[List.map_cons,List.getElem?_cons_zero,Option.some.injEq] at e1 e2
   subst e1 e2
   exact ⟨hz,hf.ev h0⟩
  |succ i=>intro p' q' e1 e2; exact k2 i p' q' (by simpa using e1) (by simpa using e2)
theorem b2q (hf:EvOk φ cmp fr ρ):∀{ps:List (Nat × Operand)} {qs:List (Nat × Nat × Opd)},compPartsS cmp s ps=some qs->
  ps.length=qs.length/\∀(i:Nat) p q,(ps.map λ(i,x)=>(i,ρ x))[i]?=some p->(qs.map λ(o,s,x)=>(o,s,x.ev fr))[i]?=some q->some (p.1*s,s)=some (q.1,q.2.1)/\VR φ q.2.2 p.2
 |[],qs,h=>by injection h with h; subst h; exact ⟨rfl,λi p q h=>by simp at h⟩
 |p::ps,qs,h=>by
  simp only[compPartsS,Option.bind_eq_some_iff,Option.map_eq_some_iff,compPartS] at h
  obtain ⟨x,⟨y,h0,rfl⟩,xs,h2,rfl⟩:=h
  obtain ⟨k1,k2⟩:=b2q hf h2
  refine ⟨by simp[k1],λi=>?_⟩
  cases i with
  |zero=>
   intro p' q' e1 e2
   simp only[List.map_cons,List.getElem?_cons_zero,Option.some.injEq] at e1 e2
   subst e1 e2
   exact ⟨rfl,hf.ev h0⟩
  |succ i=>intro p' q' e1 e2; exact k2 i p' q' (by simpa using e1) (by simpa using e2)
theorem VR.bool_inv (h:VR φ (.bool b) v):v=.bool b:=by cases h; rfl
theorem b5s {us us':List Value}{w:World}(hz:∀w,(zeroValue t).run P w=.ok zv w)(hzc:zv.cells=us.toArray){place:Nat->Option (Nat × Nat)}(hp:(∃fs pl,P.underlying t=some (.struct fs)/\placesOf P fs.toList=some pl/\place=λi:Nat=>pl[i]?)\/(∃n e s,P.underlying t=some (.array n e)/\szOf P e=some s/\place=λi=>some (i*s,s)))(hf:Instr.fill place us.toArray ps=some us'.toArray):(Instr.build t ps.toArray).run P w=.ok (.agg us'.toArray) w:=by
 rcases hp with ⟨fs,pl,hu,hpl,rfl⟩|⟨n,e,s,hu,hs,rfl⟩
 ·have:=run_places (P:=P) w fs.toList pl hpl
  have e:(λi:Nat=>pl.toArray[i]?)=λi:Nat=>pl[i]?:=by funext i; simp
  simp[Instr.build,run_underlying hu,hz,Array.mapM_eq_mapM_toList,this,hzc,e,hf]
 ·simp[Instr.build,run_underlying hu,hz,q4_ hs,hzc,hf]
theorem b7g {z:List AV}{sz:Nat}(hz:z.length=sz)(hs:0<sz):∀(n j:Nat),j<n*sz->((List.replicate n z).flatten)[j]?=z[j % sz]?
 |0,j,h=>by omega
 |n+1,j,h=>by
  rw[List.replicate_succ,List.flatten_cons]
  by_cases hj:j<sz
  ·rw[List.getElem?_append_left (by omega),Nat.mod_eq_of_lt hj]
  ·have h':j-sz<n*sz:=by rw[Nat.add_mul,Nat.one_mul] at h; omega
   rw[List.getElem?_append_right (by omega),hz,b7g hz hs n (j-sz) h',<-Nat.mod_eq_sub_mod (show j>=sz by omega)]
theorem b3P {z:List AV}{sz:Nat}(hz:z.length=sz)(n:Nat):((List.replicate n z).flatten).length=n*sz:=by
 simp[hz]
theorem b2r {n:Int}(h0:0<=n)(h1:n<=140737488355328):IntKind.i64.wrap n=n:=by
 simp[IntKind.wrap,IntKind.bits,IntKind.signed]
 omega
def Maker (φ:Ren)(w:World)(h:Heap)(G:Ren->Heap->World->Prop):Prop:=
 ∀(cs:List AV) (vs rest:List Value),VRs φ cs vs->cs.all AV.one=true->∀e:TypeId,∃ψ,G ψ (mkObj h cs) (w.alloc (.cells (vs++rest).toArray e))/\ψ.c h.length 0=some ⟨w.heap.size,0,(vs++rest).length,cs.length⟩
theorem S.maker (hs:S B w0 φ h w):Maker φ w h λψ h' w'=>S B w0 ψ h' w'/\Kept φ h ψ h':=λcs vs rest hv h1 e=>by
 obtain ⟨ψ,p1,p2,p3⟩:=hs.make (rest:=rest) hv h1 e
 exact ⟨ψ,⟨p1,p2⟩,p3⟩
theorem mkSlG (hs:Maker φ w h G)(he:ElemOk P t e i zv sz by_)(hz:ofVal zv=some y)(hsz:0<sz)(hl:VR φ l l')(hc:VR φ c c'){v:AV}{h':Heap}(hv:mkSl y.cells sz by_ l c h=some (v,h')):∃ψ v' w',(Instr.makeSlice t l' c').run P w=.ok v' w'/\VR ψ v v'/\G ψ h' w':=by
 obtain ⟨hu,hi,hzv,hsize,hby,hzc⟩:=he
 obtain ⟨hzr,hz1⟩:=a4W (φ:=φ) hz
 unfold mkSl at hv
 split at hv
 ·rename_i ln cn
  split at hv
  ·rename_i hcond
   obtain ⟨c1,c2,c3,c4,c5,c6⟩:=hcond
   injection hv with hv
   injection hv with e1 e2
   subst e1 e2
   cases hl
   cases hc
   obtain ⟨ln,rfl⟩:=Int.eq_ofNat_of_zero_le c1
   obtain ⟨cn,rfl⟩:=Int.eq_ofNat_of_zero_le (show 0<=cn by omega)
   have hlc:ln<=cn:=oM
   simp only[Int.toNat_natCast]
   have hcell:∀N,((Array.range (N*sz)).map (λx=>zv.cells[x % zv.cells.size]!)).toList=(List.range (N*sz)).map λj=>zv.cells.toList.getD (j % sz) undef:=by
    intro N
    simp only[Array.toList_map,Array.toList_range]
    refine List.map_congr_left (λj hj=>?_)
    have hm:j % sz<sz:=Nat.mod_lt _ hsz
    rw[hzc,List.getD_eq_getElem?_getD,Array.getElem?_toList,getElem!_def,Array.getElem?_eq_getElem oM]
    rfl
   have hsplit:(List.range (cn*sz)).map (λj=>zv.cells.toList.getD (j % sz) undef)=((List.range (cn*sz)).map (λj=>zv.cells.toList.getD (j % sz) undef)).take (ln*sz)++((List.range (cn*sz)).map (λj=>zv.cells.toList.getD (j % sz) undef)).drop (ln*sz):=(List.take_append_drop _ _).symm
   have hls:ln*sz<=cn*sz:=Nat.mul_le_mul_right _ hlc
   have hvrs:VRs φ ((List.replicate ln y.cells).flatten) (((List.range (cn*sz)).map (λj=>zv.cells.toList.getD (j % sz) undef)).take (ln*sz)):=by
    refine VRs.of_get (by rw[b3P c5,List.length_take,List.length_map,List.length_range,Nat.min_eq_left hls]) (λj x v hx hv'=>?_)
    have hj:j<ln*sz:=by have:=(List.getElem?_eq_some_iff.1 hx).1; rw[b3P c5] at this; exact this
    rw[b7g c5 hsz ln j hj] at hx
    rw[List.getElem?_take,if_pos hj,List.getElem?_map,List.getElem?_range oM] at hv'
    simp only[Option.map_some,Option.some.injEq] at hv'
    subst hv'
    obtain ⟨v',e',r⟩:=hzr.get hx
    rw[List.getD_eq_getElem?_getD,e']
    exact r
   have hone:((List.replicate ln y.cells).flatten).all AV.one=true:=by
    rw[List.all_eq_true]
    intro x hx
    simp only[List.mem_flatten,List.mem_replicate] at hx
    obtain ⟨l,⟨_,rfl⟩,hx⟩:=hx
    exact List.all_eq_true.1 hz1 x hx
   obtain ⟨ψ,p1,p3⟩:=hs ((List.replicate ln y.cells).flatten) (((List.range (cn*sz)).map (λj=>zv.cells.toList.getD (j % sz) undef)).take (ln*sz)) (((List.range (cn*sz)).map (λj=>zv.cells.toList.getD (j % sz) undef)).drop (ln*sz)) hvrs hone e
   rw[<-hsplit] at p1 p3
   have hcn:cn<=140737488355328:=oM
   refine ⟨ψ,.slice (some ⟨w.heap.size,0,none⟩) ln cn,_,?_,VR.sl (φ:=ψ) (off:=0) (lim:=none) p3 (by simp only[b3P c5]; omega) hlc (by unfold maxLen; omega) (by simp) (λ_ q=>by cases q),p1⟩
   have w1:=b2r (n:=(ln:Int)) oM oM
   have w2:=b2r (n:=(cn:Int)) oM oM
   have hb:¬((by_:Int)*cn > 2 ^ 48):=by
    have:(by_:Int)*cn=cn*by_:=Int.mul_comm ..
    omega
   have harr:(Array.range (cn*sz)).map (λx=>zv.cells[x % zv.cells.size]!)=((List.range (cn*sz)).map λj=>zv.cells.toList.getD (j % sz) undef).toArray:=by
    apply Array.ext'; rw[hcell]
   have hcond:((decide ((cn:Int)<0) || decide ((by_:Int)*cn > 2 ^ 48)) || decide ((ln:Int)<0) || decide ((ln:Int) > cn))=false:=by
    simp only[Bool.or_eq_false_iff,decide_eq_false_iff_not]
    omega
   by_cases h0:cn*sz=0
   ·have e0:(Array.range (cn*sz)).map (λx=>(#[]:Array Value)[x % (#[]:Array Value).size]!)=(Array.range (cn*sz)).map (λx=>zv.cells[x % zv.cells.size]!):=by
     have:Array.range (cn*sz)=#[]:=by rw[h0]; simp
     rw[this]; simp
    simp only[Instr.makeSlice,Sem.run_bind,run_underlying hu,Result.andThen_ok,asInt,asIntOf,Sem.run_pure,typeInfo,run_program,hi,hby,w1,w2,hcond,Bool.false_eq_true,if_false,Sem.run_ite,run_askRoom,Int.toNat_natCast,sizeOf,hsize,if_pos h0,e0,harr,newRow,run_newObj]
    rfl
   ·simp only[Instr.makeSlice,Sem.run_bind,run_underlying hu,Result.andThen_ok,asInt,asIntOf,Sem.run_pure,typeInfo,run_program,hi,hby,w1,w2,hcond,Bool.false_eq_true,if_false,Sem.run_ite,run_askRoom,Int.toNat_natCast,sizeOf,hsize,if_neg h0,zeroValue,hzv,harr,newRow,run_newObj]
    rfl
  ·cases hv
 ·cases hv
theorem c4s (hs:S B w0 φ h w)(he:ElemOk P t e i zv sz by_)(hz:ofVal zv=some y)(hsz:0<sz)(hl:VR φ l l')(hc:VR φ c c'){v:AV}{h':Heap}(hv:mkSl y.cells sz by_ l c h=some (v,h')):∃ψ v' w',(Instr.makeSlice t l' c').run P w=.ok v' w'/\VR ψ v v'/\S B w0 ψ h' w'/\Kept φ h ψ h':=mkSlG hs.maker he hz hsz hl hc hv
theorem buildSlG (hs:Maker φ w h G)(hf:EvOk φ cmp fr ρ){sz by_ n:Nat}(hel:ElemOk P t e i zv sz by_)(hzo:ofVal zv=some y)(hzl:y.cells.length=sz)(hsz:n*sz<=16777216/\0<sz){ps:Array (Nat × Operand)}(h3:compPartsS cmp sz ps.toList=some qs){v:AV}{h':Heap}(he:buildSl sz n ((List.range (n*sz)).map λj=>y.cells.getD (j % sz) .undef) (qs.map λ(o,s,x)=>(o,s,x.ev fr)) h=some (v,h')) :
  ∃ψ v' w',(Instr.buildSlice t n (ps.map λ(i,x)=>(i,ρ x))).run P w=.ok v' w'/\VR ψ v v'/\G ψ h' w':=by
 unfold buildSl at he
 obtain ⟨hu,hi,hz,hsize,hby,hzc⟩:=hel
 obtain ⟨hzr,hz1⟩:=a4W (φ:=φ) hzo
 cases ps with
 |mk pl0=>
 obtain ⟨k1,k2⟩:=b2q hf h3
 have htmpl:VRs φ ((List.range (n*sz)).map λj=>y.cells.getD (j % sz) .undef) ((List.range (n*sz)).map λj=>zv.cells.toList.getD (j % sz) undef):=by
  refine VRs.of_get (by simp) (λj x v hx hv=>?_)
  have hj:j<n*sz:=by have:=(List.getElem?_eq_some_iff.1 hx).1; simpa using this
  simp only[List.getElem?_map,List.getElem?_range hj,Option.map_some,Option.some.injEq] at hx hv
  subst hx hv
  have hm:j % sz<sz:=Nat.mod_lt _ hsz.2
  have h4:y.cells[j % sz]?=some (y.cells[j % sz]'oM):=List.getElem?_eq_getElem oM
  obtain ⟨v',e',r⟩:=hzr.get h4
  rw[List.getD_eq_getElem?_getD,List.getD_eq_getElem?_getD,h4,e']
  exact r
 cases hfill:fillP ((List.range (n*sz)).map λj=>y.cells.getD (j % sz) .undef) (qs.map λ(o,s,x)=>(o,s,x.ev fr)) with
 |none=>rw[hfill] at he; cases he
 |some cs=>
  rw[hfill] at he
  simp only at he
  split at he
  ·rename_i hcs
   injection he with he
   injection he with e1 e2
   subst e1 e2
   obtain ⟨us',m1,m2,m3⟩:=b2B (place:=λi=>some (i*sz,sz)) htmpl (by simpa using k1) k2 hfill
   obtain ⟨ψ,p1,p3⟩:=hs cs us' [] m2 hcs.1 e
   rw[List.append_nil] at p1 p3
   have hus:us'.length=n*sz:=by rw[<-m2.length]; exact hcs.2
   have hn:n<=n*sz:=Nat.le_mul_of_pos_right _ hsz.2
   refine ⟨ψ,.slice (some ⟨w.heap.size,0,none⟩) n n,_,?_,VR.sl (φ:=ψ) (off:=0) (lim:=none) p3 (by simp only[hcs.2]; omega) (Nat.le_refl _) (by unfold maxLen; omega) (by simp only[hus]; omega) (λ_ q=>by cases q),p1⟩
   have hbig:¬(n*sz > 2 ^ 24):=oM
   have harr:(Array.range (n*sz)).map (λx=>zv.cells[x % zv.cells.size]!)=((List.range (n*sz)).map λj=>zv.cells.toList.getD (j % sz) undef).toArray:=by
    apply Array.ext'
    simp only[Array.toList_map,Array.toList_range]
    refine List.map_congr_left (λj hj=>?_)
    have hm:j % sz<sz:=Nat.mod_lt _ hsz.2
    rw[hzc,List.getD_eq_getElem?_getD,Array.getElem?_toList,getElem!_def,Array.getElem?_eq_getElem oM]
    rfl
   have hszr:=q4_ (show szOf P e=some sz by simp[szOf,hi,hsize])
   have hfin:Instr.fill (λi=>some (i*sz,sz)) ((Array.range (n*sz)).map (λx=>zv.cells[x % zv.cells.size]!)) (pl0.map λ(i,x)=>(i,ρ x))=some us'.toArray:=by rw[harr]; exact m1
   by_cases h0:n*sz=0
   ·have e0:(Array.range (n*sz)).map (λx=>(#[]:Array Value)[x % (#[]:Array Value).size]!)=(Array.range (n*sz)).map (λx=>zv.cells[x % zv.cells.size]!):=by
     have:Array.range (n*sz)=#[]:=by rw[h0]; simp
     rw[this]; simp
    simp only[Instr.buildSlice,Sem.run_bind,run_underlying hu,Result.andThen_ok,hszr,if_neg hbig,if_pos h0,Sem.run_pure,List.map_toArray]
    rw[e0,hfin]
    simp[newRow]
   ·simp only[Instr.buildSlice,Sem.run_bind,run_underlying hu,Result.andThen_ok,hszr,if_neg hbig,if_neg h0,Sem.run_pure,zeroValue,typeInfo,run_program,hi,hz,List.map_toArray]
    rw[hfin]
    simp[newRow]
  ·cases he
theorem c4t (hu:P.underlying t=some (.array n e))(hsz:szOf P e=some sz)(hr:VR φ x x')(hi:VR φ i i')(hv:idxA n sz x i=some v)(w:World) :
  ∃v',(Instr.indexAt t x' i').run P w=.ok v' w/\VR φ v v':=by
 unfold idxA at hv
 split at hv
 ·rename_i o off hhi g k m
  split at hv
  ·rename_i hc
   injection hv with hv
   subst hv
   cases hr
   cases hi
   rename_i l hn hl
   have hb:(0:Int)<=m/\m<(n:Int):=⟨hc.1,hc.2.1⟩
   refine ⟨.pointer (some ⟨l.b,l.d+(off+m.toNat*sz),none⟩),by simp only[Instr.indexAt,asIntOf,Sem.run_bind,Sem.run_pure,run_underlying hu,Result.andThen_ok,Instr.sureAddr,hb,and_self,if_true,q4_ hsz,b0Q,Nat.add_assoc],.ptr hl ?_⟩
   have hm:=Nat.mul_le_mul_right sz (show m.toNat+1<=n by omega)
   rw[Nat.add_mul,Nat.one_mul] at hm
   omega
  ·cases hv
 ·cases hv
theorem c4u (hu:P.underlying t=some (.slice e))(hsz:szOf P e=some sz)(hr:VR φ x x')(hi:VR φ i i')(hv:idxS sz x i=some v)(w:World) :
  ∃v',(Instr.indexAt t x' i').run P w=.ok v' w/\VR φ v v':=by
 unfold idxS at hv
 split at hv
 ·rename_i o off len sz' lim g k m
  split at hv
  ·rename_i hc
   injection hv with hv
   subst hv
   cases hi
   obtain ⟨c1,c2,c3⟩:=hc
   rcases hr.slice_form rfl with ⟨l,hl,hoff,hform⟩|hform
   ·obtain ⟨cap,rfl,q1,_⟩:=hform
    rw[c3] at q1
    have hb:(0:Int)<=m/\m<(len:Int):=⟨c1,c2⟩
    refine ⟨.pointer (some ⟨l.b,l.d+(off+m.toNat*sz),none⟩),by simp only[Instr.indexAt,asIntOf,Sem.run_bind,Sem.run_pure,run_underlying hu,Result.andThen_ok,hb,and_self,if_true,q4_ hsz,b0Q,Nat.add_assoc],.ptr hl ?_⟩
    have hm:=Nat.mul_le_mul_right sz (show m.toNat+1<=len by omega)
    rw[Nat.add_mul,Nat.one_mul] at hm
    omega
   ·omega
  ·cases hv
 ·cases hv
theorem S.makeMap (hs:S B w0 φ h w)(ks:KS):∃ψ,S B w0 ψ (h++[.map ks []]) (w.alloc (.map #[] 0))/\Kept φ h ψ (h++[.map ks []])/\ψ.m h.length=some w.heap.size:=by
 have hun:=hs.wr.unm_of_len (o:=h.length) (Nat.le_refl _)
 have hp:=hs.push (.map ks [])
 have hle:φ.le { φ with m:=λo=>if o=h.length then some w.heap.size else φ.m o }:=⟨λ_ _ _ e=>e,λo b e=>by
  simp only
  split
  ·rename_i q; subst q; rw[hun.2] at e; cases e
  ·exact e⟩
 have lt:∀o b,φ.m o=some b->b<w.heap.size:=λo b hb=>by
  obtain ⟨_,es,_,_,es',clk,k,_⟩:=hs.wr.map o b hb
  exact b0T k
 refine ⟨{ φ with m:=λo=>if o=h.length then some w.heap.size else φ.m o },⟨⟨λo g l hl=>?_,λo b hb=>?_,hp.wr.sep,λo b o' b' e1 e2 e3=>?_⟩,hs.below.alloc hs.base _,by simp; have:=hs.base; omega⟩,
  ⟨hle,by simp,λo ho hc hm=>⟨hc,by simp only; rw[if_neg oM]; exact hm,List.getElem?_append_left ho⟩⟩,by simp⟩
 ·obtain ⟨c,h2,h3⟩:=hp.wr.cell o g l hl
  exact ⟨c,h2,(h3.move (x6_ w _ _ h3.lt)).mono hle⟩
 ·simp only at hb
  split at hb
  ·rename_i q
   subst q
   injection hb with hb
   subst hb
   exact ⟨ks,[],by simp,hs.base,#[],0,a6S w _,.nil⟩
  ·obtain ⟨k0,es,h2,h3,es',clk,h4,h5⟩:=hp.wr.map o b hb
   exact ⟨k0,es,h2,h3,es',clk,(x6_ w _ _ (b0T h4)).trans h4,h5.mono hle⟩
 ·simp only at e1 e2
  subst e3
  split at e1
  ·rename_i q1
   injection e1 with e1
   subst e1
   split at e2
   ·rename_i q2; rw[q1,q2]
   ·have:=lt _ _ e2; omega
  ·split at e2
   ·injection e2 with e2
    subst e2
    have:=lt _ _ e1; omega
   ·exact hs.wr.msep _ _ _ _ e1 e2 rfl
theorem opSim (hs:S B w0 φ h w)(hf:EvOk φ cmp fr ρ){o:Oper}{m:MOp}(hc:compOp P cmp o.op=some m){v:AV}(he:evalM m fr h=some (v,h')):OpOk P B w0 φ h w (execOp ρ o) v h':=by
 obtain ⟨dst,op,type,pos,after,guard⟩:=o
 replace hc:compOp P cmp op=some m:=hc
 unfold execOp
 have pureStep:∀{x:Option AV} {s:Sem Value},pure1 h x=some (v,h')→(x=some v→∃v',s.run P w=.ok v' w∧VR φ v v')→OpOk P B w0 φ h w (do pure (.value (←s))) v h':=by
  intro x s hp hx
  obtain ⟨h1,h2⟩:=q5_ hp
  subst h2
  obtain ⟨v',k1,k2⟩:=hx h1
  exact b2p hs k1 k2
 cases op with
 |move x=>
  simp only[compOp,Option.map_eq_some_iff] at hc
  obtain ⟨y,h1,rfl⟩:=hc
  injection he with he; injection he with e1 e2; subst e1 e2
  exact ⟨φ,_,w,.inl rfl,hf.ev h1,hs,.refl _ _⟩
 |assign x=>
  simp only[compOp,Option.map_eq_some_iff] at hc
  obtain ⟨y,h1,rfl⟩:=hc
  injection he with he; injection he with e1 e2; subst e1 e2
  exact ⟨φ,_,w,.inl rfl,hf.ev h1,hs,.refl _ _⟩
 |pick c x y=>
  simp only[compOp,Option.bind_eq_some_iff,Option.map_eq_some_iff] at hc
  obtain ⟨c',h1,x',h2,y',h3,rfl⟩:=hc
  simp only[evalM] at he
  obtain ⟨he1,e2⟩:=q5_ he
  clear he
  subst e2
  simp only[Option.map_eq_some_iff] at he1
  obtain ⟨b,hb,rfl⟩:=he1
  have hr:=hf.ev h1
  cases hcv:c'.ev fr<;>rw[hcv] at hb hr<;>simp only[bool?] at hb<;>try (cases hb; done)
  injection hb with hb
  subst hb
  have hcc:=hr.bool_inv
  rename_i b
  cases b
  ·exact ⟨φ,_,w,.inl (by simp[asBool,hcc]),hf.ev h3,hs,.refl _ _⟩
  ·exact ⟨φ,_,w,.inl (by simp[asBool,hcc]),hf.ev h2,hs,.refl _ _⟩
 |alloc t=>
  simp only[compOp,Option.map_eq_some_iff] at hc
  obtain ⟨z,h1,rfl⟩:=hc
  obtain ⟨zv,hz,hzo⟩:=a6b h1
  simp only[evalM] at he
  obtain ⟨ψ,v',k1,k2,k3,rfl⟩:=hs.newVar (a4W hzo).1 he t
  refine a6c ⟨ψ,_,_,?_,k1,k2,k3⟩
  simp only[Instr.alloc,Sem.run_bind,hz,Result.andThen_ok,Go.newVar,newRow,run_newObj,Sem.run_pure,Array.toArray_toList]
  rfl
 |box t x=>
  simp only[compOp,Option.map_eq_some_iff] at hc
  obtain ⟨y,h1,rfl⟩:=hc
  simp only[evalM] at he
  have hu:y.ev fr≠.undef:=by
   intro q; rw[q] at he; simp[Gm.newVar,AV.cells,AV.one] at he
  obtain ⟨ψ,v',k1,k2,k3,rfl⟩:=hs.newVar ((hf.ev h1).cells_of hu) he t
  refine a6c ⟨ψ,_,_,?_,k1,k2,k3⟩
  simp only[Instr.box,Sem.run_bind,Result.andThen_ok,Go.newVar,newRow,run_newObj,Sem.run_pure,Array.toArray_toList]
  rfl
 |build t ps=>
  simp only[compOp,Option.bind_eq_some_iff] at hc
  obtain ⟨z,h1,hc⟩:=hc
  obtain ⟨zv,hz,hzo⟩:=a6b h1
  have hzc:=(a4W (φ:=φ) hzo).1
  cases ps with
  |mk pl0=>
  split at hc
  ·rename_i fs hu
   simp only[Option.bind_eq_some_iff,Option.map_eq_some_iff] at hc
   obtain ⟨pl,h2,qs,h3,rfl⟩:=hc
   simp only[evalM] at he
   refine pureStep he (λhe1=>?_)
   simp only[buildV,Option.map_eq_some_iff] at he1
   obtain ⟨cs,he1,rfl⟩:=he1
   obtain ⟨k1,k2⟩:=b5r hf h3
   obtain ⟨us',m1,m2,_⟩:=b2B hzc (by simpa using k1) k2 he1
   refine ⟨_,?_,.agg m2⟩
   simpa using b5s (P:=P) hz (us:=zv.cells.toList) (by simp) (.inl ⟨fs,pl,hu,h2,rfl⟩) m1
  ·rename_i n e hu
   simp only[Option.bind_eq_some_iff,Option.map_eq_some_iff] at hc
   obtain ⟨s,h2,qs,h3,rfl⟩:=hc
   simp only[evalM] at he
   refine pureStep he (λhe1=>?_)
   simp only[buildV,Option.map_eq_some_iff] at he1
   obtain ⟨cs,he1,rfl⟩:=he1
   obtain ⟨k1,k2⟩:=b2q hf h3
   obtain ⟨us',m1,m2,_⟩:=b2B (place:=λi=>some (i*s,s)) hzc (by simpa using k1) k2 he1
   refine ⟨_,?_,.agg m2⟩
   simpa using b5s (P:=P) hz (us:=zv.cells.toList) (by simp) (.inr ⟨n,e,s,hu,h2,rfl⟩) m1
  ·cases hc
 |load t x=>
  simp only[compOp,Option.bind_eq_some_iff,Option.map_eq_some_iff] at hc
  obtain ⟨n,h1,y,h2,rfl⟩:=hc
  have hx:=hf.ev h2
  cases n with
  |none=>
   simp only[evalM] at he
   refine pureStep he (λhe1=>?_)
   obtain ⟨ad,v',e,k1,k2⟩:=hs.loadVar h1 hx (x:=v) (by exact he1)
   exact ⟨v',by rw[e]; simp[Instr.loadAt,Instr.sureAddr,k1],k2⟩
  |some n=>
   simp only[evalM] at he
   refine pureStep he (λhe1=>?_)
   obtain ⟨ad,v',e,k1,k2⟩:=hs.loadVar h1 hx (x:=v) (by exact he1)
   exact ⟨v',by rw[e]; simp[Instr.loadAt,Instr.sureAddr,k1],k2⟩
 |store t x y=>
  simp only[compOp,Option.bind_eq_some_iff,Option.map_eq_some_iff] at hc
  obtain ⟨n,h1,x',h2,y',h3,rfl⟩:=hc
  simp only[evalM,Option.map_eq_some_iff] at he
  obtain ⟨h2',he,e⟩:=he
  injection e with e1 e2
  subst e1 e2
  obtain ⟨ad,w',e,k1,k2,k3⟩:=hs.storeVar h1 (hf.ev h2) (hf.ev h3) he
  refine ⟨φ,undef,w',.inr ⟨?_,rfl⟩,.undef _,k2,k3⟩
  show (do Instr.storeAt t (ρ x) (ρ y); pure Next.skip:Sem Next).run P w=_
  rw[e]
  simp[Instr.storeAt,Instr.sureAddr,k1]
 |nilCheck x=>
  simp only[compOp,Option.map_eq_some_iff] at hc
  obtain ⟨y,h1,rfl⟩:=hc
  simp only[evalM] at he
  obtain ⟨he1,e2⟩:=q5_ he
  clear he pureStep
  subst e2
  have hr:=hf.ev h1
  generalize hxv:ρ x=xv at hr
  generalize y.ev fr=yv at hr he1
  cases yv<;>simp only[nilCk] at he1<;>try (cases he1; done)
  all_goals
   injection he1 with he1
   subst he1
   cases hr
   exact ⟨φ,ρ x,w,.inl (by simp[hxv]),by rw[hxv]; constructor<;>assumption,hs,.refl _ _⟩
 |binOp op t x y u=>
  simp only[compOp,Option.bind_eq_some_iff,Option.map_eq_some_iff] at hc
  obtain ⟨k,h1,x',h2,y',h3,rfl⟩:=hc
  simp only[evalM] at he
  exact pureStep he (λhe1=>c4r h1 (hf.ev h2) (hf.ev h3) he1 _ _ w)
 |unOp op t x=>
  simp only[compOp,Option.map_eq_some_iff] at hc
  obtain ⟨y,h1,rfl⟩:=hc
  simp only[evalM] at he
  exact pureStep he (λhe1=>c5C (hf.ev h1) he1 w)
 |buildSlice t n ps=>
  simp only[compOp,Option.bind_eq_some_iff] at hc
  obtain ⟨e,h1,⟨sz,by_,z⟩,h2,hc⟩:=hc
  simp only at hc
  split at hc
  ·rename_i hsz
   simp only[Option.map_eq_some_iff] at hc
   obtain ⟨qs,h3,rfl⟩:=hc
   simp only[evalM] at he
   obtain ⟨i,zv,hel,y,hzo,rfl,hzl⟩:=a7t (a1B h1) h2
   exact a6c (buildSlG hs.maker hf hel hzo hzl hsz h3 he)
  ·cases hc
 |convert s d x=>
  simp only[compOp,Option.bind_eq_some_iff] at hc
  obtain ⟨y,h1,hc⟩:=hc
  have hr:=hf.ev h1
  split at hc
  ·rename_i k1 k2 hu1 hu2
   injection hc with hc
   subst hc
   simp only[evalM] at he
   refine pureStep he (λhe1=>?_)
   generalize ρ x=xv at hr
   generalize y.ev fr=yv at hr he1
   cases yv<;>simp only[convV] at he1<;>try (cases he1; done)
   injection he1 with he1
   subst he1
   cases hr
   exact ⟨_,by simp only[convert,Sem.run_bind,run_underlying hu1,run_underlying hu2,Result.andThen_ok,Conv.intToInt,Sem.run_pure],.int _ _⟩
  ·rename_i e hu1 hu2
   split at hc
   ·rename_i hu3
    injection hc with hc
    subst hc
    simp only[evalM] at he
    exact pureStep he (λhe1=>c5D hs hu1 hu3 hu2 hr he1)
   ·cases hc
  ·cases hc
 |makeInterface t x=>
  simp only[compOp] at hc
  split at hc
  ·cases hc
  ·rename_i d hd hu
   simp only[Option.map_eq_some_iff] at hc
   obtain ⟨y,h1,rfl⟩:=hc
   simp only[evalM,Option.some.injEq,Prod.mk.injEq] at he
   obtain ⟨rfl,rfl⟩:=he
   refine b2p hs (v':=.iface t (ρ x)) ?_ (.ifc (hf.ev h1))
   simp only[Instr.makeInterface,Sem.run_bind,run_underlying hu,Result.andThen_ok]
   cases d<;>first|rfl|exact absurd rfl (hd _)
  ·cases hc
 |makeFunc f xs ys=>
  cases f with
  |func f=>
   simp only[compOp,Option.bind_eq_some_iff,Option.map_eq_some_iff] at hc
   obtain ⟨xs',h1,ys',h2,rfl⟩:=hc
   simp only[evalM,Option.some.injEq,Prod.mk.injEq] at he
   obtain ⟨rfl,rfl⟩:=he
   refine b2p hs (v':=.func (.func f) (xs.toList.map ρ).toArray (ys.toList.map ρ).toArray) ?_ (.fn (hf.evs h1) (hf.evs h2))
   have e1:Array.map ρ xs=(List.map ρ xs.toList).toArray:=by apply Array.ext'; simp
   have e2:Array.map ρ ys=(List.map ρ ys.toList).toArray:=by apply Array.ext'; simp
   simp only[Instr.makeFunc,e1,e2,Sem.run_pure]
  |_=>simp[compOp] at hc
 |makeSlice t l c=>
  simp only[compOp,Option.bind_eq_some_iff] at hc
  obtain ⟨e,h1,⟨sz,by_,z⟩,h2,hc⟩:=hc
  simp only at hc
  split at hc
  ·rename_i hsz
   simp only[Option.bind_eq_some_iff,Option.map_eq_some_iff] at hc
   obtain ⟨l',h3,c',h4,rfl⟩:=hc
   simp only[evalM] at he
   obtain ⟨i,zv,hel,y,hzo,rfl,hzl⟩:=a7t (a1B h1) h2
   exact a6c (c4s hs hel hzo hsz (hf.ev h3) (hf.ev h4) he)
  ·cases hc
 |slice t x lo hi mx=>
  simp only[compOp,Option.bind_eq_some_iff] at hc
  obtain ⟨y,h1,lo',h2,hi',h3,mx',h4,hc⟩:=hc
  obtain ⟨l1,l2,l3⟩:=optOpd hf h2
  obtain ⟨u1,u2,u3⟩:=optOpd hf h3
  obtain ⟨m1,m2,m3⟩:=optOpd hf h4
  split at hc
  ·rename_i e hu
   simp only[Option.bind_eq_some_iff] at hc
   obtain ⟨sz,hsz,hc⟩:=hc
   split at hc
   ·cases hc
   ·rename_i hmh
    injection hc with hc
    subst hc
    simp only[evalM] at he
    refine pureStep he (λhe1=>b7e hu hsz (hf.ev h1) l1 l2 u1 u2 m1 m2 (λq=>?_) he1 w)
    cases mx'<;>cases hi'<;>simp_all
  ·rename_i hu
   split at hc
   ·cases hc
   ·rename_i hmx
    injection hc with hc
    subst hc
    simp only[evalM] at he
    refine pureStep he (λhe1=>?_)
    have e0:mx.map ρ=none:=m2 (by cases mx'<;>simp_all)
    rw[e0]
    exact b7f hu (hf.ev h1) l1 l2 u1 u2 he1 w
  ·cases hc
 |fieldAddr t x f=>
  simp only[compOp,Option.bind_eq_some_iff] at hc
  obtain ⟨y,h1,hc⟩:=hc
  split at hc
  ·rename_i fs hu
   simp only[Option.bind_eq_some_iff] at hc
   obtain ⟨fd,hfd,s,hsz,hc⟩:=hc
   split at hc
   ·cases hc
   ·rename_i hs0
    injection hc with hc
    subst hc
    simp only[evalM] at he
    refine pureStep he (λhe1=>?_)
    have hr:=hf.ev h1
    generalize ρ x=xv at hr
    generalize y.ev fr=yv at hr he1
    cases yv<;>simp only[fldA] at he1<;>try (cases he1; done)
    injection he1 with he1
    subst he1
    cases hr
    rename_i l hn hl
    refine ⟨.pointer (some ⟨l.b,l.d+(_+fd.offset),none⟩),?_,.ptr hl hn⟩
    simp only[Instr.fieldAt,Sem.run_bind,run_underlying hu,Result.andThen_ok,hfd,Instr.sureAddr,Sem.run_pure,fieldPlace,q4_ hsz,if_neg hs0,b0Q,Nat.add_assoc]
  ·cases hc
 |field t x f=>
  simp only[compOp,Option.bind_eq_some_iff] at hc
  obtain ⟨y,h1,hc⟩:=hc
  split at hc
  ·rename_i fs hu
   simp only[Option.bind_eq_some_iff,Option.map_eq_some_iff] at hc
   obtain ⟨fd,hfd,n,hn,rfl⟩:=hc
   simp only[evalM] at he
   refine pureStep he (λhe1=>?_)
   have hr:=hf.ev h1
   generalize ρ x=xv at hr
   generalize y.ev fr=yv at hr he1
   cases yv<;>simp only[fldV] at he1<;>try (cases he1; done)
   cases hr
   rename_i hcs
   obtain ⟨v',k1,k2⟩:=b8n hn hcs he1 w
   exact ⟨v',by simp only[Instr.field,Sem.run_bind,run_underlying hu,Result.andThen_ok,hfd,asAgg,Sem.run_pure,k1],k2⟩
  ·cases hc
 |indexAddr t x i=>
  simp only[compOp,Option.bind_eq_some_iff] at hc
  obtain ⟨y,h1,j,h2,hc⟩:=hc
  have hr:=hf.ev h1
  have hi:=hf.ev h2
  split at hc
  ·rename_i n e hu
   simp only[Option.map_eq_some_iff] at hc
   obtain ⟨sz,hsz,rfl⟩:=hc
   simp only[evalM] at he
   refine pureStep he (λhe1=>?_)
   generalize ρ x=xv at hr
   generalize ρ i=iv at hi
   generalize y.ev fr=yv at hr he1
   generalize j.ev fr=jv at hi he1
   exact c4t hu hsz hr hi he1 w
  ·rename_i e hu
   simp only[Option.map_eq_some_iff] at hc
   obtain ⟨sz,hsz,rfl⟩:=hc
   simp only[evalM] at he
   refine pureStep he (λhe1=>?_)
   exact c4u hu hsz hr hi he1 w
  ·cases hc
 |index t x i=>
  simp only[compOp,Option.bind_eq_some_iff] at hc
  obtain ⟨y,h1,j,h2,hc⟩:=hc
  have hr:=hf.ev h1
  have hi:=hf.ev h2
  split at hc
  ·rename_i n e hu
   simp only[Option.bind_eq_some_iff,Option.map_eq_some_iff] at hc
   obtain ⟨sz,hsz,m',hm',rfl⟩:=hc
   simp only[evalM] at he
   refine pureStep he (λhe1=>?_)
   generalize ρ x=xv at hr
   generalize ρ i=iv at hi
   generalize y.ev fr=yv at hr he1
   generalize j.ev fr=jv at hi he1
   cases yv<;>cases jv<;>simp only[ixA] at he1<;>try (cases he1; done)
   split at he1
   ·rename_i hcond
    cases hr
    cases hi
    rename_i hcs
    obtain ⟨v',k1,k2⟩:=b8n hm' hcs he1 w
    exact ⟨v',by simp only[Instr.index,asIntOf,Sem.run_bind,Sem.run_pure,run_underlying hu,Result.andThen_ok,hcond,and_self,if_true,q4_ hsz,k1],k2⟩
   ·cases he1
  ·rename_i hu
   injection hc with hc
   subst hc
   simp only[evalM] at he
   refine pureStep he (λhe1=>?_)
   generalize ρ x=xv at hr
   generalize ρ i=iv at hi
   generalize y.ev fr=yv at hr he1
   generalize j.ev fr=jv at hi he1
   cases yv<;>cases jv<;>simp only[ixS] at he1<;>try (cases he1; done)
   split at he1
   ·rename_i h0
    simp only[Option.map_eq_some_iff] at he1
    obtain ⟨b,hb,rfl⟩:=he1
    cases hr
    cases hi
    exact ⟨_,by simp only[Instr.index,asIntOf,Sem.run_bind,Sem.run_pure,run_underlying hu,Result.andThen_ok,h0,if_true,hb],.int _ _⟩
   ·cases he1
  ·cases hc
 |typeAssert x xt t ok=>
  simp only[compOp] at hc
  split at hc
  ·cases hc
  ·rename_i d hd hu
   simp only[Option.bind_eq_some_iff,Option.map_eq_some_iff] at hc
   obtain ⟨y,h1,z,h2,rfl⟩:=hc
   obtain ⟨zv,hz,hzo⟩:=a6b h2
   simp only[evalM] at he
   refine pureStep he (λhe1=>?_)
   have hr:=hf.ev h1
   generalize ρ x=xv at hr
   generalize y.ev fr=yv at hr he1
   cases yv<;>simp only[tAssert] at he1<;>try (cases he1; done)
   cases hr
   rename_i u x0 v0 hv0
   have hmain:(Instr.typeAssert (.iface u v0) xt t ok).run P w=(if u=t then (pure (if ok then .tuple #[v0,.bool true] else v0):Sem Value) else (if ok then do pure (.tuple #[←zeroValue t,.bool false]) else runtimePanic (.typeAssertion (some xt) (some u) t ""))).run P w:=by
    simp only[Instr.typeAssert,Sem.run_bind,run_underlying hu,Result.andThen_ok]
    all_goals (cases d<;>first|rfl|exact absurd rfl (hd _))
   rw[hmain]
   split at he1
   ·rename_i hut
    rw[if_pos hut]
    injection he1 with he1
    subst he1
    refine ⟨_,rfl,?_⟩
    cases ok
    ·exact hv0
    ·exact .tup (cs':=[_,_]) (.cons hv0 (.cons (.bool _) .nil))
   ·rename_i hut
    rw[if_neg hut]
    split at he1
    ·rename_i hok
     injection he1 with he1
     subst he1
     refine ⟨.tuple #[zv,.bool false],by rw[if_pos hok]; simp[hz],.tup (cs':=[_,_]) (.cons (b3O hzo) (.cons (.bool _) .nil))⟩
    ·cases he1
  ·cases hc
 |extract x i=>
  simp only[compOp,Option.map_eq_some_iff] at hc
  obtain ⟨y,h1,rfl⟩:=hc
  simp only[evalM] at he
  refine pureStep he (λhe1=>?_)
  have hr:=hf.ev h1
  generalize ρ x=xv at hr
  generalize y.ev fr=yv at hr he1
  cases yv<;>simp only[extr] at he1<;>try (cases he1; done)
  cases hr
  rename_i hcs
  obtain ⟨v',k1,k2⟩:=hcs.get he1
  exact ⟨v',by simp[Instr.extract,k1],k2⟩
 |lookup t x k ok=>
  simp only[compOp] at hc
  split at hc
  ·rename_i kt et hu
   simp only[Option.bind_eq_some_iff,Option.map_eq_some_iff] at hc
   obtain ⟨ks,hks,z,hz,x1,h1,k1,h2,rfl⟩:=hc
   obtain ⟨zv,hzr,hzo⟩:=a6b hz
   simp only[evalM] at he
   exact pureStep he (λhe1=>c2y hs hu hks hzr (b3O hzo) (hf.ev h1) (hf.ev h2) he1)
  ·cases hc
 |mapUpdate t x k u=>
  simp only[compOp] at hc
  split at hc
  ·rename_i kt et hu
   simp only[Option.bind_eq_some_iff,Option.map_eq_some_iff] at hc
   obtain ⟨ks,hks,x1,h1,k1,h2,u1,h3,rfl⟩:=hc
   simp only[evalM,Option.map_eq_some_iff] at he
   obtain ⟨h1',he1,he2⟩:=he
   injection he2 with e1 e2
   subst e1 e2
   obtain ⟨w',g1,g2,g3⟩:=b8k hs hu hks (hf.ev h1) (hf.ev h2) (hf.ev h3) he1
   refine ⟨φ,undef,w',.inr ⟨?_,rfl⟩,.undef _,g2,g3⟩
   show (do Instr.mapUpdate t (ρ x) (ρ k) (ρ u); pure Next.skip:Sem Next).run P w=_
   simp[g1]
  ·cases hc
 |insert t x k u=>
  simp only[compOp] at hc
  split at hc
  ·rename_i kt et hu
   simp only[Option.bind_eq_some_iff,Option.map_eq_some_iff] at hc
   obtain ⟨ks,hks,x1,h1,k1,h2,u1,h3,rfl⟩:=hc
   simp only[evalM,Option.map_eq_some_iff] at he
   obtain ⟨h1',he1,he2⟩:=he
   injection he2 with e1 e2
   subst e1 e2
   obtain ⟨w',g1,g2,g3⟩:=b8k hs hu hks (hf.ev h1) (hf.ev h2) (hf.ev h3) he1
   refine ⟨φ,undef,w',.inr ⟨?_,rfl⟩,.undef _,g2,g3⟩
   show (do Instr.mapUpdate t (ρ x) (ρ k) (ρ u); pure Next.skip:Sem Next).run P w=_
   simp[g1]
  ·cases hc
 |makeMap t r=>
  cases r with
  |none=>
   simp only[compOp] at hc
   split at hc
   ·rename_i kt et hu
    simp only[Option.map_eq_some_iff] at hc
    obtain ⟨ks,_,rfl⟩:=hc
    simp only[evalM,Option.some.injEq,Prod.mk.injEq] at he
    obtain ⟨rfl,rfl⟩:=he
    obtain ⟨ψ,p1,p2,p3⟩:=hs.makeMap ks
    exact a6c ⟨ψ,.map (some w.heap.size),_,by simp[Instr.makeMap],.map p3,p1,p2⟩
   ·cases hc
  |some r=>simp[compOp] at hc
 |call c=>
  obtain ⟨callee,args,argTypes⟩:=c
  have hargs:args=args.toList.toArray:=by simp
  have htys:argTypes=argTypes.toList.toArray:=by simp
  cases callee with
  |builtin b=>
   simp only[compOp,compBuiltin] at hc
   split at hc
   ·rename_i x t e1 e2
    rw[e1] at hargs
    rw[e2] at htys
    subst hargs htys
    simp only[Option.bind_eq_some_iff] at hc
    obtain ⟨y,h1,hc⟩:=hc
    have hr:=hf.ev h1
    split at hc
    ·rename_i e hu
     injection hc with hc
     subst hc
     simp only[evalM] at he
     obtain ⟨he1,e3⟩:=q5_ he
     clear he pureStep
     subst e3
     generalize hxv:ρ x=xv at hr
     generalize y.ev fr=yv at hr he1
     cases yv<;>simp only[lenS] at he1<;>try (cases he1; done)
     ·injection he1 with he1
      subst he1
      cases hr
      exact ⟨φ,.int .i64 0,w,.inl (by simp[resolve,invoke,builtin,Builtin.len_,run_underlying hu,goInt,hxv]),.int _ _,hs,.refl _ _⟩
     ·injection he1 with he1
      subst he1
      rcases hr.slice_form rfl with ⟨l,hl,hoff,hform⟩|hform
      ·obtain ⟨cap,rfl,_⟩:=hform
       exact ⟨φ,.int .i64 _,w,.inl (by simp[resolve,invoke,builtin,Builtin.len_,run_underlying hu,goInt,hxv]),.int _ _,hs,.refl _ _⟩
      ·obtain ⟨rfl,ad,rfl,_⟩:=hform
       exact ⟨φ,.int .i64 _,w,.inl (by simp[resolve,invoke,builtin,Builtin.len_,run_underlying hu,goInt,hxv]),.int _ _,hs,.refl _ _⟩
    ·rename_i hu
     injection hc with hc
     subst hc
     simp only[evalM] at he
     obtain ⟨he1,e3⟩:=q5_ he
     clear he pureStep
     subst e3
     generalize hxv:ρ x=xv at hr
     generalize y.ev fr=yv at hr he1
     cases yv<;>simp only[lenB] at he1<;>try (cases he1; done)
     injection he1 with he1
     subst he1
     cases hr
     exact ⟨φ,.int .i64 _,w,.inl (by simp[resolve,invoke,builtin,Builtin.len_,run_underlying hu,goInt,hxv]),.int _ _,hs,.refl _ _⟩
    ·cases hc
   ·rename_i s x t u e1 e2
    rw[e1] at hargs
    rw[e2] at htys
    subst hargs htys
    split at hc
    ·rename_i htu
     subst htu
     simp only[Option.bind_eq_some_iff,Option.map_eq_some_iff] at hc
     obtain ⟨e,h1,⟨sz,by_,z⟩,h2,s',h3,x',h4,rfl⟩:=hc
     obtain ⟨i,zv,hel,y,hzo,rfl,hzl⟩:=a7t (a1B h1) h2
     simp only[evalM] at he
     obtain ⟨ψ,v',w',k1,k2,k3,k4⟩:=hs.apnd hel (ty:=type) (hf.ev h3) (hf.ev h4) he
     exact ⟨ψ,v',w',.inl (by simp[resolve,invoke,builtin,k1]),k2,k3,k4⟩
    ·cases hc
   ·rename_i x y e1
    rw[e1] at hargs
    subst hargs
    simp only[Option.bind_eq_some_iff,Option.map_eq_some_iff] at hc
    obtain ⟨x',h1,y',h2,rfl⟩:=hc
    have hx:=hf.ev h1
    have hy:=hf.ev h2
    simp only[evalM] at he
    obtain ⟨he1,e3⟩:=q5_ he
    clear he pureStep
    subst e3
    generalize hxv:ρ x=xv at hx
    generalize hyv:ρ y=yv at hy
    generalize x'.ev fr=xa at hx he1
    generalize y'.ev fr=ya at hy he1
    unfold mmV at he1
    split at he1
    ·injection he1 with he1
     subst he1
     cases hx; cases hy
     exact ⟨φ,_,w,.inl (by simp[resolve,invoke,builtin,Builtin.max_,Builtin.max2,hxv,hyv]),.int _ _,hs,.refl _ _⟩
    ·cases he1
   ·rename_i x y e1
    rw[e1] at hargs
    subst hargs
    simp only[Option.bind_eq_some_iff,Option.map_eq_some_iff] at hc
    obtain ⟨x',h1,y',h2,rfl⟩:=hc
    have hx:=hf.ev h1
    have hy:=hf.ev h2
    simp only[evalM] at he
    obtain ⟨he1,e3⟩:=q5_ he
    clear he pureStep
    subst e3
    generalize hxv:ρ x=xv at hx
    generalize hyv:ρ y=yv at hy
    generalize x'.ev fr=xa at hx he1
    generalize y'.ev fr=ya at hy he1
    unfold mmV at he1
    split at he1
    ·injection he1 with he1
     subst he1
     cases hx; cases hy
     exact ⟨φ,_,w,.inl (by simp[resolve,invoke,builtin,Builtin.min_,Builtin.min2,hxv,hyv]),.int _ _,hs,.refl _ _⟩
    ·cases he1
   ·cases hc
  |_=>simp[compOp] at hc
 |_=>simp[compOp] at hc
end
end Go.Gm
namespace Go.Gm
open Go.RowKit
def RetOk (B:Nat)(w0:World)(φ:Ren)(h:Heap)(v:AV)(h':Heap):Ending->World->Prop:=λe w'=>
 ∃ψ v',e=.returned v'/\VR ψ v v'/\S B w0 ψ h' w'/\Kept φ h ψ h'
def CallOk (P:Program)(B:Nat)(w0:World)(call:CallF):Prop:=
 ∀f args h v h',call f args h=some (v,h')→(∃fn,P.funcs[f]?=some fn∧fn.body.isNone=false∧(fn.name == "runtime.NumGoroutine")=false)∧
  ∀φ w args',VRs φ args args'→S B w0 φ h w→Calls P f args'.toArray w (RetOk B w0 φ h v h')
def MethOk (P:Program)(T:Tab):Prop:=∀t nm f,T.meth t nm=some f->∀a w,(method (P.types.size+Made.depth) t (.pointer (some a)) nm).run P w=.ok (f,.pointer (some a)) w
section
variable {B:Nat} {w0:World} {φ:Ren} {h h':Heap} {w:World} {P:Program} {fr:Frm} {a:Act} {T:Tab} {call:CallF}
theorem a9k {f:FuncId}{args:Array Value}(hf:∃fn,P.funcs[f]?=some fn∧fn.body.isNone=false∧(fn.name == "runtime.NumGoroutine")=false)(w:World):(callFunc f args).run P w=.ok (.enter f args) w:=by
 obtain ⟨fn,h1,h2,h3⟩:=hf
 simp only[callFunc,Sem.run_bind,run_program,Result.andThen_ok,h1,h3,h2,Bool.false_eq_true,if_false,Sem.run_pure]
theorem enterSim (hco:CallOk P B w0 call)(hs:S B w0 φ h w){o:Oper}{f:FuncId}{args:List AV}{args':List Value}{v:AV}(he:call f args h=some (v,h'))(hargs:VRs φ args args')(hrun:∀(hf:∃fn,P.funcs[f]?=some fn∧fn.body.isNone=false∧(fn.name == "runtime.NumGoroutine")=false),(execOp a.eval o).run P w=.ok (.enter f args'.toArray) w){K:Act→World→Prop}{Q:Exit→Act→World→Prop}(hK:∀ψ v' w',VR ψ v v'→S B w0 ψ h' w'→Kept φ h ψ h'→K (a.put o.dst v') w'):o.wp P a w K Q:=by
 obtain ⟨h1,h2⟩:=hco _ _ _ _ _ he
 unfold Oper.wp
 rw[hrun h1,Oper.upon_enter]
 refine (h2 φ w args' hargs hs).mono ?_
 rintro e w' ⟨ψ,v',rfl,k1,k2,k3⟩
 exact hK ψ v' w' k1 k2 k3
theorem b4M (xs:Array Operand):(xs.map a.eval)=(xs.toList.map a.eval).toArray:=by apply Array.ext'; simp
theorem operSim (hco:CallOk P B w0 call)(hme:MethOk P T)(hs:S B w0 φ h w)(hf:EvOk φ cmp fr a.eval){o:Oper}(hc:compAny P cmp o.op=some m){v:AV}(he:evalO T call m fr h=some (v,h')){K:Act->World->Prop}(hK:∀ψ v' w',VR ψ v v'->S B w0 ψ h' w'->Kept φ h ψ h'->K (a.put o.dst v') w'):o.wp P a w K Q:=by
 unfold compAny at hc
 split at hc
 ·rename_i f args ts e
  simp only[Option.map_eq_some_iff] at hc
  obtain ⟨ys,h1,rfl⟩:=hc
  refine enterSim hco hs he (hf.evs h1) (λhfn=>?_) hK
  obtain ⟨dst,op,type,pos,after,guard⟩:=o
  simp only at e
  subst e
  simp[execOp,resolve,Deferred.ofValue,invoke,Act.eval,a9k hfn,b4M]
 ·rename_i x args ts hx e
  simp only[Option.bind_eq_some_iff,Option.map_eq_some_iff] at hc
  obtain ⟨y,h0,ys,h1,rfl⟩:=hc
  obtain ⟨dst,op,type,pos,after,guard⟩:=o
  simp only at e
  subst e
  have hr:=hf.ev h0
  simp only[evalO] at he
  split at he
  ·rename_i f xs0 ys0 e
   rw[e] at hr
   generalize hxv:a.eval x=xv at hr
   cases hr
   rename_i xs' ys' r1 r2
   refine enterSim hco hs he ((r1.append (hf.evs h1)).append r2) (λhfn=>?_) hK
   simp[execOp,resolve,Deferred.ofValue,invoke,hxv,a9k hfn,b4M]
  ·cases he
 ·rename_i x nm args ts e
  simp only[Option.bind_eq_some_iff,Option.map_eq_some_iff] at hc
  obtain ⟨y,h0,ys,h1,rfl⟩:=hc
  obtain ⟨dst,op,type,pos,after,guard⟩:=o
  simp only at e
  subst e
  have hr:=hf.ev h0
  simp only[evalO] at he
  split at he
  ·rename_i t o off hi g e
   rw[e] at hr
   split at he
   ·rename_i f hm
    generalize hxv:a.eval x=xv at hr
    cases hr
    rename_i v0 r
    have r0:=r
    cases r
    have hmm:=hme _ _ _ hm
    refine enterSim hco hs he (.cons r0 (hf.evs h1)) (λhfn=>?_) hK
    simp[execOp,resolve,invoke,hxv,callMethod,hmm,a9k hfn,b4M]
    exact List.take_of_length_le (by simp)
   ·cases he
  ·cases he
 ·rename_i h1 h2 h3
  simp only[Option.map_eq_some_iff] at hc
  obtain ⟨m',hc,rfl⟩:=hc
  obtain ⟨ψ,v',w',hg,k1,k2,k3⟩:=opSim hs hf hc he
  unfold Oper.wp
  rcases hg with hg|⟨hg,rfl⟩
  ·rw[hg,Oper.upon_value]; exact hK ψ v' w' k1 k2 k3
  ·rw[hg,Oper.upon_skip]; exact hK ψ undef w' k1 k2 k3
theorem c4a (hf:FR φ fr a)(hc:compOper P ops o=some m)(hw:want fr m.guard=some b):Region.wanted o (yielded ops a.tmps)=b/\m.dst=o.dst:=by
 unfold compOper at hc
 simp only[Option.bind_eq_some_iff] at hc
 obtain ⟨x,hx,hc⟩:=hc
 split at hc
 ·rename_i hg
  injection hc with hc
  subst hc
  injection hw with hw
  subst hw
  exact ⟨by simp[Region.wanted,hg],rfl⟩
 ·rename_i j b' hg
  simp only[Option.map_eq_some_iff] at hc
  obtain ⟨d,hd,rfl⟩:=hc
  refine ⟨?_,rfl⟩
  unfold want at hw
  simp only at hw
  split at hw
  ·rename_i c hcv
   injection hw with hw
   subst hw
   have hx2:fr[d]?=some (.bool c):=by
    rw[List.getD_eq_getElem?_getD] at hcv
    cases hq:fr[d]? with
    |none=>rw[hq] at hcv; cases hcv
    |some y=>rw[hq] at hcv; simp only[Option.getD_some] at hcv; rw[hcv]
   obtain ⟨v,hv,hr⟩:=VRs.get hf hx2
   cases hr
   rw[Array.getElem?_toList] at hv
   simp only[Region.wanted,hg,yielded,hd,Option.bind_some,hv]
   cases c<;>cases b'<;>rfl
  ·rename_i hcv
   injection hw with hw
   subst hw
   have hx2:fr[d]?=some (.tup []):=by
    rw[List.getD_eq_getElem?_getD] at hcv
    cases hq:fr[d]? with
    |none=>rw[hq] at hcv; cases hcv
    |some y=>rw[hq] at hcv; simp only[Option.getD_some] at hcv; rw[hcv]
   obtain ⟨v,hv,hr⟩:=VRs.get hf hx2
   cases hr
   rename_i hr
   cases hr
   rw[Array.getElem?_toList] at hv
   simp only[Region.wanted,hg,yielded,hd,Option.bind_some,hv]
   rfl
  ·cases hw
end
end Go.Gm
namespace Go.Gm
open Go.RowKit
mutual
theorem AV.beq_eq:∀{a b:AV},AV.beq a b=true->a=b
 |.undef,b,h=>by cases b<;>simp_all [AV.beq]
 |.bool _,b,h=>by cases b<;>simp_all [AV.beq]
 |.int _ _,b,h=>by cases b<;>simp_all [AV.beq]
 |.str _,b,h=>by cases b<;>simp_all [AV.beq]
 |.nilp,b,h=>by cases b<;>simp_all [AV.beq]
 |.ptr ..,b,h=>by cases b<;>simp_all [AV.beq]
 |.nils,b,h=>by cases b<;>simp_all [AV.beq]
 |.sl ..,b,h=>by cases b<;>simp_all [AV.beq]
 |.nilmap,b,h=>by cases b<;>simp_all [AV.beq]
 |.map _,b,h=>by cases b<;>simp_all [AV.beq]
 |.nilfn,b,h=>by cases b<;>simp_all [AV.beq]
 |.fn f x y,b,h=>by
  cases b<;>simp only[AV.beq,Bool.and_eq_true,beq_iff_eq] at h<;>try (cases h; done)
  obtain ⟨⟨h1,h2⟩,h3⟩:=h
  rw[h1,AV.beqs_eq h2,AV.beqs_eq h3]
 |.nilifc,b,h=>by cases b<;>simp_all [AV.beq]
 |.ifc t v,b,h=>by
  cases b<;>simp only[AV.beq,Bool.and_eq_true,beq_iff_eq] at h<;>try (cases h; done)
  rw[h.1,AV.beq_eq h.2]
 |.agg x,b,h=>by
  cases b<;>simp only[AV.beq] at h<;>try (cases h; done)
  rw[AV.beqs_eq h]
 |.tup x,b,h=>by
  cases b<;>simp only[AV.beq] at h<;>try (cases h; done)
  rw[AV.beqs_eq h]
theorem AV.beqs_eq:∀{a b:List AV},AV.beqs a b=true->a=b
 |[],b,h=>by cases b<;>simp_all [AV.beqs]
 |x::a,b,h=>by
  cases b with
  |nil=>simp[AV.beqs] at h
  |cons y b=>
   simp only[AV.beqs,Bool.and_eq_true] at h
   rw[AV.beq_eq h.1,AV.beqs_eq h.2]
end

section
variable {B:Nat} {w0:World} {φ:Ren} {h0 hc:Heap} {w:World} {P:Program} {fr:Frm} {cmp:Operand->Option Opd} {ρ:Operand->Value}
theorem b5l {obj:AObj}(h1:mkObj h cs=h++[obj]):obj=.cells ⟨cs,0,0,false⟩:=by
 unfold mkObj at h1
 have:=List.append_cancel_left h1
 injection this with this
 exact this.symm
theorem notAlloc (hm:compOp P cmp o=some m)(h1:∀t,o≠.alloc t)(h2:∀t x,o≠.box t x)(h3:∀t n ps,o≠.buildSlice t n ps)(h4:∀t l c,o≠.makeSlice t l c):allocM m=false:=by
 unfold compOp at hm
 split at hm<;>first
  |exact absurd rfl (h1 _)
  |exact absurd rfl (h2 _ _)
  |exact absurd rfl (h3 _ _ _)
  |exact absurd rfl (h4 _ _ _)
  |cases hm
  |skip
 all_goals (try (cases hm; done))
 all_goals (try simp only[compBuiltin,Option.bind_eq_some_iff,Option.map_eq_some_iff] at hm)
 all_goals
  repeat' first
   |rfl
   |(cases hm; rfl)
   |(cases hm; done)
   |(obtain ⟨_,_,hm⟩:=hm)
   |(split at hm)
   |(simp only[compBuiltin,Option.bind_eq_some_iff,Option.map_eq_some_iff] at hm)
theorem laySim (hs:S B w0 φ hc w)(hf:EvOk φ cmp fr ρ){o:Oper}(hcm:compOp P cmp o.op=some m)(hal:allocM m=true){v:AV}{obj:AObj}(he:evalM m fr h0=some (v,h0++[obj]))(hobj:hc[h0.length]?=some obj)(hun:∀g,φ.c h0.length g=none) :
  ∃ψ v' w',Gives P (execOp ρ o) w v' w'/\VR ψ v v'/\S B w0 ψ hc w'/\φ.le ψ/\ψ.m=φ.m/\∀o' g,o'≠h0.length->ψ.c o' g=φ.c o' g:=by
 obtain ⟨dst,op,type,pos,after,guard⟩:=o
 replace hcm:compOp P cmp op=some m:=hcm
 unfold execOp
 have value:∀{s:Sem Value} {ψ v' w'},s.run P w=.ok v' w'->VR ψ v v'->S B w0 ψ hc w'->φ.le ψ->ψ.m=φ.m->(∀o' g,o'≠h0.length->ψ.c o' g=φ.c o' g)->
   ∃ψ v' w',Gives P (do pure (.value (<-s))) w v' w'/\VR ψ v v'/\S B w0 ψ hc w'/\φ.le ψ/\ψ.m=φ.m/\∀o' g,o'≠h0.length->ψ.c o' g=φ.c o' g:=
  λh1 h2 h3 h4 h5 h6=>⟨_,_,_,.inl (by rw[Sem.run_bind,h1]; rfl),h2,h3,h4,h5,h6⟩
 have other:∀{l:Loc} o' g,o'≠h0.length->(φ.setC h0.length 0 l).c o' g=φ.c o' g:=λo' g hne=>by
  simp only[Ren.setC]; rw[if_neg (λq=>hne q.1)]
 have nv:∀{cs:List AV} {vs:List Value},VRs φ cs vs->newVar h0 cs=some (v,h0++[obj])->∀e,∃ψ,VR ψ v (.pointer (some ⟨w.heap.size,0,none⟩))/\S B w0 ψ hc (w.alloc (.cells vs.toArray e))/\φ.le ψ/\ψ.m=φ.m/\∀o' g,o'≠h0.length->ψ.c o' g=φ.c o' g:=by
  intro cs vs hv hn e
  unfold Gm.newVar at hn
  split at hn
  ·rename_i h1
   injection hn with hn
   injection hn with hn1 hn2
   subst hn1
   have:=b5l hn2
   subst this
   have p1:=hs.lay (o:=h0.length) hobj hun (vs:=vs) (rest:=[]) hv h1 e
   rw[List.append_nil] at p1
   exact ⟨_,by simpa using VR.ptr (φ:=φ.setC h0.length 0 ⟨w.heap.size,0,vs.length,cs.length⟩) (o:=h0.length) (g:=0) (off:=0) (hi:=cs.length) (by simp[Ren.setC]; rfl) (Nat.le_refl _),p1,Ren.setC_le (hun 0),rfl,other⟩
  ·cases hn
 have mk:Maker φ w h0 λψ h' w'=>h'=h0++[obj]->S B w0 ψ hc w'/\φ.le ψ/\ψ.m=φ.m/\∀o' g,o'≠h0.length->ψ.c o' g=φ.c o' g:=λcs vs rest hv h1 e=>by
  by_cases hq:mkObj h0 cs=h0++[obj]
  ·have:=b5l hq
   subst this
   exact ⟨_,λ_=>⟨hs.lay (o:=h0.length) hobj hun (vs:=vs) (rest:=rest) hv h1 e,Ren.setC_le (hun 0),rfl,other⟩,by simp[Ren.setC]⟩
  ·exact ⟨φ.setC h0.length 0 ⟨w.heap.size,0,(vs++rest).length,cs.length⟩,λq=>absurd q hq,by simp[Ren.setC]⟩
 cases op with
 |alloc t=>
  simp only[compOp,Option.map_eq_some_iff] at hcm
  obtain ⟨z,h1,rfl⟩:=hcm
  obtain ⟨zv,hz,hzo⟩:=a6b h1
  simp only[evalM] at he
  obtain ⟨ψ,k1,k2,k3,k4,k5⟩:=nv (a4W hzo).1 he t
  refine value ?_ k1 k2 k3 k4 k5
  simp only[Instr.alloc,Sem.run_bind,hz,Result.andThen_ok,Go.newVar,newRow,run_newObj,Sem.run_pure,Array.toArray_toList]
  rfl
 |box t x=>
  simp only[compOp,Option.map_eq_some_iff] at hcm
  obtain ⟨y,h1,rfl⟩:=hcm
  simp only[evalM] at he
  have hu:y.ev fr≠.undef:=by
   intro q; rw[q] at he; simp[Gm.newVar,AV.cells,AV.one] at he
  obtain ⟨ψ,k1,k2,k3,k4,k5⟩:=nv ((hf.ev h1).cells_of hu) he t
  refine value ?_ k1 k2 k3 k4 k5
  simp only[Instr.box,Sem.run_bind,Result.andThen_ok,Go.newVar,newRow,run_newObj,Sem.run_pure,Array.toArray_toList]
  rfl
 |buildSlice t n ps=>
  simp only[compOp,Option.bind_eq_some_iff] at hcm
  obtain ⟨e,h1,⟨sz,by_,z⟩,h2,hcm⟩:=hcm
  simp only at hcm
  split at hcm
  ·rename_i hsz
   simp only[Option.map_eq_some_iff] at hcm
   obtain ⟨qs,h3,rfl⟩:=hcm
   simp only[evalM] at he
   obtain ⟨i,zv,hel,y,hzo,rfl,hzl⟩:=a7t (a1B h1) h2
   obtain ⟨ψ,v',w',k1,k2,k3⟩:=buildSlG mk hf hel hzo hzl hsz h3 he
   obtain ⟨k3,k4,k5,k6⟩:=k3 rfl
   exact value k1 k2 k3 k4 k5 k6
  ·cases hcm
 |makeSlice t l c=>
  simp only[compOp,Option.bind_eq_some_iff] at hcm
  obtain ⟨e,h1,⟨sz,by_,z⟩,h2,hcm⟩:=hcm
  simp only at hcm
  split at hcm
  ·rename_i hsz
   simp only[Option.bind_eq_some_iff,Option.map_eq_some_iff] at hcm
   obtain ⟨l',h3,c',h4,rfl⟩:=hcm
   simp only[evalM] at he
   obtain ⟨i,zv,hel,y,hzo,rfl,hzl⟩:=a7t (a1B h1) h2
   obtain ⟨ψ,v',w',k1,k2,k3⟩:=mkSlG mk hel hzo hsz (hf.ev h3) (hf.ev h4) he
   obtain ⟨k3,k4,k5,k6⟩:=k3 rfl
   exact value k1 k2 k3 k4 k5 k6
  ·cases hcm
 |_=>exact absurd (notAlloc hcm (by simp) (by simp) (by simp) (by simp)) (by rw[hal]; simp)
end
end Go.Gm
namespace Go.Gm
open Go.RowKit
theorem b7G {m:MOp}(hx:∀x∈m.opds,x.ev fr=x.ev fr')(h:Heap):evalM m fr h=evalM m fr' h:=by
 have maps:∀l:List Opd,(∀x∈l,x.ev fr=x.ev fr')->l.map (·.ev fr)=l.map (·.ev fr'):=λl hl=>List.map_congr_left hl
 have parts:∀l:List (Nat × Nat × Opd),(∀x∈l.map (·.2.2),x.ev fr=x.ev fr')->(l.map λ(o,s,x)=>(o,s,x.ev fr))=l.map λ(o,s,x)=>(o,s,x.ev fr'):=λl hl=>
  List.map_congr_left λp hp=>by
   obtain ⟨o,s,x⟩:=p
   simp only[hl x (List.mem_map.2 ⟨_,hp,rfl⟩)]
 have opts:∀l:Option Opd,(∀x∈l.toList,x.ev fr=x.ev fr')->l.map (·.ev fr)=l.map (·.ev fr'):=λl hl=>by
  cases l with
  |none=>rfl
  |some x=>simp[hl x (by simp)]
 cases m<;>(try simp only[MOp.opds,List.mem_cons,List.mem_append,List.not_mem_nil,or_false,forall_eq_or_imp,forall_eq] at hx)
 case load n a=>cases n<;>simp only[evalM,hx]
 case build z ps=>simp only[evalM]; rw[parts ps hx]
 case buildSlice sz len z ps=>simp only[evalM]; rw[parts ps hx]
 case mkFn f a b=>simp only[evalM]; rw[maps a (λx h=>hx x (.inl h)),maps b (λx h=>hx x (.inr h))]
 case sliceStr x lo hi=>simp only[evalM]; rw[hx.1,opts lo (λx h=>hx.2 x (.inl h)),opts hi (λx h=>hx.2 x (.inr h))]
 case sliceSl sz x lo hi mx=>simp only[evalM]; rw[hx.1,opts lo (λx h=>hx.2 x (.inl (.inl h))),opts hi (λx h=>hx.2 x (.inl (.inr h))),opts mx (λx h=>hx.2 x (.inr h))]
 all_goals simp only[evalM,hx]
theorem c2v {x:AObj}(hv:ld1 h a=some v):ld1 (h++[x]) a=some v:=by
 unfold ld1 at hv ⊢
 split at hv
 ·split at hv
  ·rename_i c hc
   rw[List.getElem?_append_left (List.getElem?_eq_some_iff.1 hc).1,hc]
   exact hv
  ·cases hv
 ·cases hv
theorem b3B {x:AObj}(hv:rdc h o off n g=some cs):rdc (h++[x]) o off n g=some cs:=by
 unfold rdc at hv ⊢
 split at hv
 ·rename_i c hc
  rw[List.getElem?_append_left (List.getElem?_eq_some_iff.1 hc).1,hc]
  exact hv
 ·cases hv
theorem c2w {x:AObj}(hv:ldN n h a=some v):ldN n (h++[x]) a=some v:=by
 unfold ldN at hv ⊢
 split at hv
 ·split at hv
  ·rename_i hle
   simp only[Option.map_eq_some_iff] at hv
   obtain ⟨cs,h1,h2⟩:=hv
   simp only[if_pos hle,b3B h1,Option.map_some,h2]
  ·cases hv
 ·cases hv
theorem b9m {x:AObj}(hv:lookM ks z ok h a k=some v):lookM ks z ok (h++[x]) a k=some v:=by
 unfold lookM at hv ⊢
 split at hv
 ·rename_i hf
  rw[if_pos hf]
  split at hv
  ·exact hv
  ·split at hv
   ·rename_i hc
    rw[List.getElem?_append_left (List.getElem?_eq_some_iff.1 hc).1,hc]
    exact hv
   ·cases hv
  ·cases hv
 ·cases hv
theorem c0F {x:AObj}(hv:b2sV h a=some v):b2sV (h++[x]) a=some v:=by
 unfold b2sV at hv ⊢
 split at hv
 ·exact hv
 ·simp only[Option.map_eq_some_iff,Option.bind_eq_some_iff] at hv ⊢
  obtain ⟨l,⟨cs,h1,h2⟩,h3⟩:=hv
  first|exact ⟨l,⟨cs,b3B h1,h2⟩,h3⟩|(rw[b3B h1]; simp[h2,h3])
 ·cases hv
theorem light {h h':Heap}{v:AV}(hv:evalM m fr h=some (v,h'))(he:effM m=false)(ha:allocM m=false) :
  h'=h/\(∀x,evalM m fr (h++[x])=some (v,h++[x]))/\(readM m=false->∀h2,evalM m fr h2=some (v,h2)):=by
 have p1:∀{x:Option AV} {h h':Heap},pure1 h x=some (v,h')->h'=h/\∀h2,pure1 h2 x=some (v,h2):=λhp=>by
  obtain ⟨e1,e2⟩:=q5_ hp
  exact ⟨e2,λh2=>by rw[e1]; rfl⟩
 cases m<;>(first|(simp[effM] at he; done)|(simp[allocM] at ha; done)|skip)
 case load n a=>
  cases n with
  |none=>
   obtain ⟨e1,e2⟩:=q5_ (show pure1 h _=some (v,h') from hv)
   exact ⟨e2,λx=>by simp only[evalM,c2v e1]; rfl,λq=>by simp[readM] at q⟩
  |some n=>
   obtain ⟨e1,e2⟩:=q5_ (show pure1 h _=some (v,h') from hv)
   exact ⟨e2,λx=>by simp only[evalM,c2w e1]; rfl,λq=>by simp[readM] at q⟩
 case b2s a=>
  obtain ⟨e1,e2⟩:=q5_ (show pure1 h _=some (v,h') from hv)
  exact ⟨e2,λx=>by simp only[evalM,c0F e1]; rfl,λq=>by simp[readM] at q⟩
 case mv x=>
  injection hv with hv; injection hv with e1 e2; subst e1 e2
  exact ⟨rfl,λ_=>rfl,λ_ _=>rfl⟩
 case mkIfc t x=>
  injection hv with hv; injection hv with e1 e2; subst e1 e2
  exact ⟨rfl,λ_=>rfl,λ_ _=>rfl⟩
 case mkFn f a b=>
  injection hv with hv; injection hv with e1 e2; subst e1 e2
  exact ⟨rfl,λ_=>rfl,λ_ _=>rfl⟩
 case lookup ks z ok x k=>
  obtain ⟨e1,e2⟩:=q5_ (show pure1 h _=some (v,h') from hv)
  exact ⟨e2,λx=>by simp only[evalM,b9m e1]; rfl,λq=>by simp[readM] at q⟩
 all_goals
  obtain ⟨e1,e2⟩:=p1 (show pure1 h _=some (v,h') from hv)
  exact ⟨e1,λx=>e2 _,λ_ h2=>e2 h2⟩
theorem laid {h h':Heap}{v:AV}(hv:evalM m fr h=some (v,h'))(ha:allocM m=true):∃obj,h'=h++[obj]:=by
 cases m<;>simp only[allocM] at ha<;>try (cases ha; done)
 case alloc z=>
  simp only[evalM,newVar] at hv
  split at hv
  ·injection hv with hv; injection hv with e1 e2; exact ⟨_,e2.symm⟩
  ·cases hv
 case box x=>
  simp only[evalM,newVar] at hv
  split at hv
  ·injection hv with hv; injection hv with e1 e2; exact ⟨_,e2.symm⟩
  ·cases hv
 case buildSlice sz len z ps=>
  simp only[evalM,buildSl] at hv
  split at hv
  ·split at hv
   ·injection hv with hv; injection hv with e1 e2; exact ⟨_,e2.symm⟩
   ·cases hv
  ·cases hv
 case mkSlice z sz by_ l c=>
  simp only[evalM,mkSl] at hv
  split at hv
  ·split at hv
   ·injection hv with hv; injection hv with e1 e2; exact ⟨_,e2.symm⟩
   ·cases hv
  ·cases hv
theorem a3d {fr:Frm}{i:Nat}(hi:i<fr.length):(fr.set i v).getD i .undef=v:=by
 simp[List.getD_eq_getElem?_getD,hi]
theorem r7_ {fr:Frm}{i j:Nat}(hi:i≠j):(fr.set i v).getD j .undef=fr.getD j .undef:=by
 simp[List.getD_eq_getElem?_getD,List.getElem?_set_ne hi]
section
variable {B:Nat} {w0:World} {P:Program} {T:Tab} {call:CallF} {N:Nat} {ops:Array Oper} {pre:Nat->List Nat}
structure IOk (P:Program) (N:Nat) (ops:Array Oper) (pre:Nat->List Nat) (it:DItem) (o:Oper):Prop where
 op:ops[it.i]?=some o
 dst:it.op.dst=some (N+it.i)
 cmp:compAny P (cmpD N ops pre it.i) o.op=some it.op.op
 grd:compG N ops pre it.i o.guard=some it.op.guard
 just:∀j∈pre it.i,∃e∈o.after,Region.binds .any e=true/\(e.on=j\/j∈pre e.on)
 slots:slotsOk N (pre it.i) it.op.op=true
 back:∀e∈o.after,Region.binds .any e=true->e.on<it.i
structure Step (P:Program) (N:Nat) (ops:Array Oper) (pre:Nat->List Nat) (done:List DItem) (it:DItem) (o:Oper):Prop extends IOk P N ops pre it o where
 new:∀x∈done,x.i≠it.i
 edges:∀e∈o.after,Region.binds .any e=true->∃x∈done,x.i=e.on
 eff:∀x∈done,isEff x.op.op=true->x.i∈pre it.i
 ag:isEff it.op.op=true->∀x∈done,isRead x.op.op=true->x.i ∉ pre it.i->(N+x.i,x.op)∈it.ag
theorem c0G (hc:compD1 P N ops pre done i=some it):it.i=i/\∃o,Step P N ops pre done it o:=by
 unfold compD1 at hc
 simp only[Option.bind_eq_some_iff] at hc
 obtain ⟨o,ho,hc⟩:=hc
 split at hc
 ·rename_i hcond
  simp only[Bool.and_eq_true,Bool.not_eq_true',List.all_eq_true,Array.all_eq_true',Bool.or_eq_true,List.any_eq_true,Array.any_eq_true',beq_iff_eq,List.contains_iff_mem,decide_eq_true_eq] at hcond
  obtain ⟨⟨⟨c1,c2⟩,c3⟩,c4⟩:=hcond
  simp only[Option.bind_eq_some_iff] at hc
  obtain ⟨m,hm,g,hg,hc⟩:=hc
  split at hc
  ·cases hc
  ·rename_i hs
   injection hc with hc
   subst hc
   refine ⟨rfl,o,⟨⟨ho,rfl,hm,hg,λj hj=>?_,by simpa using hs,λe he hb=>?_⟩,λx hx q=>?_,λe he hb=>?_,λx hx hxe=>?_,λhe x hx hr hn=>?_⟩⟩
   ·obtain ⟨e,he,hb,h2⟩:=c3 j hj
    exact ⟨e,he,hb,h2⟩
   ·rcases c2 e he with h1|h1
    ·rw[hb] at h1; cases h1
    ·exact h1.1
   ·have:=c1
    simp only[List.any_eq_false,beq_iff_eq] at this
    exact this x hx q
   ·rcases c2 e he with h1|h1
    ·rw[hb] at h1; cases h1
    ·exact h1.2
   ·rcases c4 x hx with h1|h1
    ·rw[hxe] at h1; cases h1
    ·exact h1
   ·simp only[he,if_true,List.mem_map,List.mem_filter]
    exact ⟨x,⟨hx,by simp[hr,hn]⟩,rfl⟩
 ·cases hc
def Chain (P:Program)(N:Nat)(ops:Array Oper)(pre:Nat->List Nat):List DItem->List DItem->Prop
 |_,[]=>True
 |done,it::r=>(∃o,Step P N ops pre done it o)/\Chain P N ops pre (done++[it]) r
theorem b6P:∀{ord:List Nat} {done its:List DItem},compD P N ops pre done ord=some its->Chain P N ops pre done its/\its.map (·.i)=ord
 |[],done,its,h=>by injection h with h; subst h; exact ⟨trivial,rfl⟩
 |i::r,done,its,h=>by
  simp only[compD,Option.bind_eq_some_iff,Option.map_eq_some_iff] at h
  obtain ⟨it,h1,its',h2,rfl⟩:=h
  obtain ⟨e,h3⟩:=c0G h1
  obtain ⟨h4,h5⟩:=b6P h2
  exact ⟨⟨h3,h4⟩,by simp[e,h5]⟩
theorem Chain.item:∀{r done:List DItem},Chain P N ops pre done r->∀it∈r,∃o,IOk P N ops pre it o
 |[],done,h,it,hit=>by simp at hit
 |x::r,done,h,it,hit=>by
  rcases List.mem_cons.1 hit with e|hit
  ·obtain ⟨o,ho⟩:=h.1; exact ⟨o,by rw[e]; exact ho.toIOk⟩
  ·exact h.2.item it hit
theorem Chain.eff {x:DItem}(he:isEff x.op.op=true){it:DItem}:∀{r done:List DItem},Chain P N ops pre done r->x∈done->it∈r->x.i∈pre it.i
 |[],done,h,hx,hit=>by simp at hit
 |y::r,done,h,hx,hit=>by
  rcases List.mem_cons.1 hit with e|hit
  ·obtain ⟨o,ho⟩:=h.1; rw[e]; exact ho.eff x hx he
  ·exact h.2.eff he (List.mem_append_left _ hx) hit
theorem Chain.new {x it:DItem}:∀{r done:List DItem},Chain P N ops pre done r->x∈done->it∈r->x.i≠it.i
 |[],done,h,hx,hit=>by simp at hit
 |y::r,done,h,hx,hit=>by
  rcases List.mem_cons.1 hit with e|hit
  ·obtain ⟨o,ho⟩:=h.1; rw[e]; exact ho.new x hx
  ·exact h.2.new (List.mem_append_left _ hx) hit
theorem a3g (hd:dstsOk N ops=true){j d:Nat}(hj:ops[j]?=some o)(ho:o.dst=some d):d<N/\writer ops d=some j:=by
 have hlt:j<ops.size:=(Array.getElem?_eq_some_iff.1 hj).1
 simp only[dstsOk,List.all_eq_true,List.mem_range] at hd
 have:=hd j hlt
 simp only[hj,ho,Bool.and_eq_true,decide_eq_true_eq] at this
 exact this
theorem b7H (hw:writer ops s=some j):∃o,ops[j]?=some o/\o.dst=some s:=by
 have:=List.find?_some hw
 cases ho:ops[j]? with
 |none=>rw[ho] at this; cases this
 |some o=>rw[ho] at this; exact ⟨o,rfl,of_decide_eq_true this⟩
theorem b7I {s j:Nat}(hw:writer ops s=none)(hj:ops[j]?=some o):o.dst≠some s:=by
 have hlt:j<ops.size:=(Array.getElem?_eq_some_iff.1 hj).1
 have:=List.find?_eq_none.1 hw j (List.mem_range.2 hlt)
 simpa [hj] using this
def Pend (N:Nat)(L:Nat)(φ:Ren)(frD:Frm)(hD:Heap)(it:DItem)(ob:Nat->Nat):Prop:=
 ∃b,want frD it.op.guard=some b/\(b=false->frD.getD (N+it.i) .undef=.tup [])/\
  (b=true->∃m,it.op.op=.op m/\effM m=false/\((allocM m=false/\evalM m frD hD=some (frD.getD (N+it.i) .undef,hD))\/
   (allocM m=true/\∃hA obj,hA.length=ob it.i/\L<=ob it.i/\evalM m frD hA=some (frD.getD (N+it.i) .undef,hA++[obj])/\hD[ob it.i]?=some obj/\(∀g,φ.c (ob it.i) g=none)/\φ.m (ob it.i)=none)))
def AW (frD:Frm)(it:DItem):Prop:=want frD it.op.guard=some true/\∃m,it.op.op=.op m/\allocM m=true
structure Core (P:Program) (T:Tab) (call:CallF) (N:Nat) (ops:Array Oper) (pre:Nat->List Nat) (B:Nat) (w0:World) (φ0:Ren) (h0:Heap) (fr0:Frm) (frE:Frm) (hE:Heap) (n:Nat)
  (listed:Array Bool) (pd rest:List DItem) (φ:Ren) (frD:Frm) (hD:Heap) (ob:Nat->Nat) (a:Act) (w:World):Prop where
 ev:evalD T call rest frD hD=some (frE,hE)
 chain:Chain P N ops pre pd rest
 items:∀it∈pd,∃o,IOk P N ops pre it o
 edges:∀it∈pd,∀o,ops[it.i]?=some o->∀e∈o.after,Region.binds .any e=true->∃x∈pd,x.i=e.on
 uniq:∀x∈pd,∀y∈pd,x.i=y.i->x=y
 cov:∀i,i<ops.size->(∃x∈pd,x.i=i)\/∃x∈rest,x.i=i
 lsize:listed.size=ops.size
 lpd:∀i,listed.getD i false=true->∃x∈pd,x.i=i
 lcl:∀i,listed.getD i false=true->∀j∈pre i,listed.getD j false=true
 leff:∀x∈pd,isEff x.op.op=true->listed.getD x.i false=true
 pcl:∀x∈pd,∀j∈pre x.i,∃y∈pd,y.i=j
 pend:∀x∈pd,listed.getD x.i false=false->Pend N h0.length φ frD hD x ob
 obs:∀x∈pd,∀y∈pd,listed.getD x.i false=false->listed.getD y.i false=false->AW frD x->AW frD y->ob x.i=ob y.i->x=y
 oblt:∀x∈pd,listed.getD x.i false=false->AW frD x->ob x.i<hD.length
 flen:frD.length=N+n
 nle:∀x∈pd++rest,x.i<n
 fold:∀s,s<N->frD.getD s .undef=fr0.getD s .undef
 tsize:a.tmps.size=N
 tun:∀s,s<N->(∀x∈pd,listed.getD x.i false=true->∀o,ops[x.i]?=some o->o.dst≠some s)->VR φ (fr0.getD s .undef) (a.tmps.getD s undef)
 tdo:∀x∈pd,listed.getD x.i false=true->∀o s,ops[x.i]?=some o->o.dst=some s->VR φ (frD.getD (N+x.i) .undef) (a.tmps.getD s undef)
 s:S B w0 φ hD w
 kept:Kept φ0 h0 φ hD
theorem stable (hx:IOk P N ops pre it o){k:Nat}(hk:k ∉ pre it.i)(fr:Frm)(v:AV) :
  want (fr.set (N+k) v) it.op.guard=want fr it.op.guard/\∀m,it.op.op=.op m->∀h,evalM m (fr.set (N+k) v) h=evalM m fr h:=by
 refine ⟨?_,λm hm h=>b7G (λx hx'=>?_) h⟩
 ·have hg:=hx.grd
  cases hog:o.guard with
  |none=>rw[hog] at hg; injection hg with hg; rw[<-hg]; rfl
  |some gb=>
   obtain ⟨g,b⟩:=gb
   rw[hog] at hg
   simp only[compG] at hg
   split at hg
   ·rename_i hc
    injection hg with hg
    simp only[Bool.and_eq_true,List.contains_iff_mem] at hc
    have hne:k≠g:=λq=>hk (q▸hc.1)
    rw[<-hg]
    try simp only[want]
    rw[r7_ oM]
   ·cases hg
 ·have hs:=hx.slots
  rw[hm] at hs
  have:=List.all_eq_true.1 hs x hx'
  cases x with
  |const v=>rfl
  |tmp s=>
   simp only[slotOk,Bool.or_eq_true,decide_eq_true_eq,List.any_eq_true,beq_iff_eq] at this
   simp only[Opd.ev]
   refine r7_ ?_
   rcases this with h1|⟨j,hj,rfl⟩
   ·omega
   ·have hne:k≠j:=λq=>hk (q▸hj)
    omega
theorem Pend.set (hp:Pend N L φ frD hD it ob)(hx:IOk P N ops pre it o){k:Nat}(hk:k ∉ pre it.i)(hki:k≠it.i)(v:AV) :
  Pend N L φ (frD.set (N+k) v) hD it ob:=by
 obtain ⟨b,h1,h2,h3⟩:=hp
 obtain ⟨k1,k2⟩:=stable hx hk frD v
 have k3:(frD.set (N+k) v).getD (N+it.i) .undef=frD.getD (N+it.i) .undef:=r7_ oM
 refine ⟨b,k1.trans h1,λhb=>k3.trans (h2 hb),λhb=>?_⟩
 obtain ⟨m,m1,m2,m3⟩:=h3 hb
 refine ⟨m,m1,m2,?_⟩
 rcases m3 with ⟨q1,q2⟩|⟨q1,hA,obj,q2,q3,q4,q5⟩
 ·exact .inl ⟨q1,by rw[k2 m m1,k3]; exact q2⟩
 ·exact .inr ⟨q1,hA,obj,q2,q3,by rw[k2 m m1,k3]; exact q4,q5⟩
theorem Pend.push (hp:Pend N L φ frD hD it ob)(x:AObj):Pend N L φ frD (hD++[x]) it ob:=by
 obtain ⟨b,h1,h2,h3⟩:=hp
 refine ⟨b,h1,h2,λhb=>?_⟩
 obtain ⟨m,m1,m2,m3⟩:=h3 hb
 refine ⟨m,m1,m2,?_⟩
 rcases m3 with ⟨q1,q2⟩|⟨q1,hA,obj,q2,q3,q4,q5,q6⟩
 ·exact .inl ⟨q1,(light q2 m2 q1).2.1 x⟩
 ·exact .inr ⟨q1,hA,obj,q2,q3,q4,by rw[List.getElem?_append_left (List.getElem?_eq_some_iff.1 q5).1]; exact q5,q6⟩
theorem Pend.ob {ob ob':Nat->Nat}(hp:Pend N L φ frD hD it ob)(ho:ob' it.i=ob it.i):Pend N L φ frD hD it ob':=by
 unfold Pend at hp ⊢
 rw[ho]
 exact hp
variable {φ0:Ren} {h0:Heap} {fr0 frE:Frm} {hE:Heap} {n:Nat} {listed:Array Bool}
theorem Core.adv1 {pd r:List DItem}{it:DItem}(hc:Core P T call N ops pre B w0 φ0 h0 fr0 frE hE n listed pd (it::r) φ frD hD ob a w)(he:isEff it.op.op=false) :
  ∃frD' hD' ob',Core P T call N ops pre B w0 φ0 h0 fr0 frE hE n listed (pd++[it]) r φ frD' hD' ob' a w:=by
 obtain ⟨⟨o,ho⟩,hch⟩:=hc.chain
 have hun:listed.getD it.i false=false:=by
  cases hl:listed.getD it.i false with
  |false=>rfl
  |true=>
   obtain ⟨x,hx,e⟩:=hc.lpd _ hl
   exact absurd e (ho.new x hx)
 have hitn:it.i<n:=hc.nle it (by simp)
 have key:∀(v:AV) (hD':Heap) (ob':Nat->Nat),evalD T call r (frD.set (N+it.i) v) hD'=some (frE,hE)->S B w0 φ hD' w->Kept φ0 h0 φ hD'->hD.length<=hD'.length->(∀x∈pd,ob' x.i=ob x.i)->
   (∀x∈pd,listed.getD x.i false=false->Pend N h0.length φ frD hD' x ob)->Pend N h0.length φ (frD.set (N+it.i) v) hD' it ob'->
   (AW (frD.set (N+it.i) v) it->hD.length<=ob' it.i/\ob' it.i<hD'.length)->
   Core P T call N ops pre B w0 φ0 h0 fr0 frE hE n listed (pd++[it]) r φ (frD.set (N+it.i) v) hD' ob' a w:=by
  intro v hD' ob' k1 k2 k3 kl kob k4 k5 k6
  have notpre:∀x∈pd,it.i ∉ pre x.i:=λx hx q=>by
   obtain ⟨y,hy,e⟩:=hc.pcl x hx _ q
   exact ho.new y hy e
  have preit:∀j∈pre it.i,∃y∈pd,y.i=j:=λj hj=>by
   obtain ⟨e,he,hb,h2⟩:=ho.just j hj
   obtain ⟨x,hx,q⟩:=ho.edges e he hb
   rcases h2 with h2|h2
   ·exact ⟨x,hx,q.trans h2⟩
   ·rw[<-q] at h2; exact hc.pcl x hx j h2
  have aw:∀x∈pd,AW (frD.set (N+it.i) v) x->AW frD x:=λx hx q=>by
   obtain ⟨o',ho'⟩:=hc.items x hx
   exact ⟨by rw[<-(stable ho' (notpre x hx) frD v).1]; exact q.1,q.2⟩
  exact {
   ev:=k1
   chain:=hch
   items:=λx hx=>by
    rcases List.mem_append.1 hx with hx|hx
    ·exact hc.items x hx
    ·simp only[List.mem_singleton] at hx; subst hx; exact ⟨o,ho.toIOk⟩
   edges:=λx hx o' ho' e he hb=>by
    rcases List.mem_append.1 hx with hx|hx
    ·obtain ⟨y,hy,q⟩:=hc.edges x hx o' ho' e he hb
     exact ⟨y,List.mem_append_left _ hy,q⟩
    ·simp only[List.mem_singleton] at hx; subst hx
     rw[ho.op] at ho'; injection ho' with ho'; subst ho'
     obtain ⟨y,hy,q⟩:=ho.edges e he hb
     exact ⟨y,List.mem_append_left _ hy,q⟩
   uniq:=λx hx y hy e=>by
    rcases List.mem_append.1 hx with hx'|hx'<;>rcases List.mem_append.1 hy with hy'|hy'
    ·exact hc.uniq x hx' y hy' e
    ·simp only[List.mem_singleton] at hy'; subst hy'; exact absurd e (ho.new x hx')
    ·simp only[List.mem_singleton] at hx'; subst hx'; exact absurd e.symm (ho.new y hy')
    ·simp only[List.mem_singleton] at hx' hy'; rw[hx',hy']
   cov:=λi hi=>by
    rcases hc.cov i hi with ⟨x,hx,e⟩|⟨x,hx,e⟩
    ·exact .inl ⟨x,List.mem_append_left _ hx,e⟩
    ·rcases List.mem_cons.1 hx with q|hx
     ·exact .inl ⟨it,by simp,by rw[<-q]; exact e⟩
     ·exact .inr ⟨x,hx,e⟩
   lsize:=hc.lsize
   lpd:=λi hi=>by
    obtain ⟨x,hx,e⟩:=hc.lpd i hi
    exact ⟨x,List.mem_append_left _ hx,e⟩
   lcl:=hc.lcl
   leff:=λx hx hxe=>by
    rcases List.mem_append.1 hx with hx|hx
    ·exact hc.leff x hx hxe
    ·simp only[List.mem_singleton] at hx; subst hx; rw[he] at hxe; cases hxe
   pcl:=λx hx j hj=>by
    rcases List.mem_append.1 hx with hx|hx
    ·obtain ⟨y,hy,e⟩:=hc.pcl x hx j hj
     exact ⟨y,List.mem_append_left _ hy,e⟩
    ·simp only[List.mem_singleton] at hx; subst hx
     obtain ⟨y,hy,e⟩:=preit j hj
     exact ⟨y,List.mem_append_left _ hy,e⟩
   pend:=λx hx hl=>by
    rcases List.mem_append.1 hx with hx|hx
    ·obtain ⟨o',ho'⟩:=hc.items x hx
     exact ((k4 x hx hl).set ho' (notpre x hx) (λq=>ho.new x hx q.symm) v).ob (kob x hx)
    ·simp only[List.mem_singleton] at hx; subst hx; exact k5
   obs:=λx hx y hy lx ly ax ay e=>by
    rcases List.mem_append.1 hx with hx'|hx'<;>rcases List.mem_append.1 hy with hy'|hy'
    ·rw[kob x hx',kob y hy'] at e; exact hc.obs x hx' y hy' lx ly (aw x hx' ax) (aw y hy' ay) e
    ·simp only[List.mem_singleton] at hy'; subst hy'
     have h1:=hc.oblt x hx' lx (aw x hx' ax)
     have h2:=(k6 ay).1
     rw[kob x hx'] at e
     omega
    ·simp only[List.mem_singleton] at hx'; subst hx'
     have h1:=hc.oblt y hy' ly (aw y hy' ay)
     have h2:=(k6 ax).1
     rw[kob y hy'] at e
     omega
    ·simp only[List.mem_singleton] at hx' hy'; rw[hx',hy']
   oblt:=λx hx lx ax=>by
    rcases List.mem_append.1 hx with hx'|hx'
    ·rw[kob x hx']; exact Nat.lt_of_lt_of_le (hc.oblt x hx' lx (aw x hx' ax)) kl
    ·simp only[List.mem_singleton] at hx'; subst hx'; exact (k6 ax).2
   flen:=by rw[List.length_set]; exact hc.flen
   nle:=λx hx=>hc.nle x (by simpa using hx)
   fold:=λs hs=>by rw[r7_ oM]; exact hc.fold s hs
   tsize:=hc.tsize
   tun:=λs hs hx=>hc.tun s hs (λx hxp=>hx x (List.mem_append_left _ hxp))
   tdo:=λx hx hl o' s hox hd=>by
    rcases List.mem_append.1 hx with hx|hx
    ·rw[r7_ (by have:=ho.new x hx; omega)]; exact hc.tdo x hx hl o' s hox hd
    ·simp only[List.mem_singleton] at hx; subst hx; rw[hun] at hl; cases hl
   s:=k2
   kept:=k3 }
 have hev:=hc.ev
 simp only[evalD,Option.bind_eq_some_iff] at hev
 obtain ⟨b,hw,hev⟩:=hev
 have hwst:∀v,want (frD.set (N+it.i) v) it.op.guard=some b:=λv=>by
  have hk:it.i ∉ pre it.i:=λq=>by
   obtain ⟨e,he,hb,h2⟩:=ho.just _ q
   obtain ⟨x,hx,q2⟩:=ho.edges e he hb
   rcases h2 with h2|h2
   ·exact ho.new x hx (q2.trans h2)
   ·rw[<-q2] at h2
    obtain ⟨y,hy,q3⟩:=hc.pcl x hx _ h2
    exact ho.new y hy q3
  rw[(stable ho.toIOk hk frD v).1]; exact hw
 have hself:it.i ∉ pre it.i:=λq=>by
   obtain ⟨e,he,hb,h2⟩:=ho.just _ q
   obtain ⟨x,hx,q2⟩:=ho.edges e he hb
   rcases h2 with h2|h2
   ·exact ho.new x hx (q2.trans h2)
   ·rw[<-q2] at h2
    obtain ⟨y,hy,q3⟩:=hc.pcl x hx _ h2
    exact ho.new y hy q3
 cases b with
 |false=>
  rw[if_neg (by simp)] at hev
  rw[ho.dst] at hev
  exact ⟨_,hD,ob,key (.tup []) hD ob hev hc.s hc.kept (Nat.le_refl _) (λ_ _=>rfl) hc.pend ⟨false,hwst _,λ_=>a3d (by rw[hc.flen]; omega),λq=>by cases q⟩
   (λ⟨q,_⟩=>by rw[hwst] at q; cases q)⟩
 |true=>
  rw[if_pos rfl] at hev
  simp only[Option.bind_eq_some_iff] at hev
  obtain ⟨⟨v,h1⟩,he1,hev⟩:=hev
  simp only at hev
  split at hev
  ·rename_i hag
   rw[ho.dst] at hev
   cases hop:it.op.op with
   |op m=>
    rw[hop] at he he1
    simp only[isEff] at he
    simp only[evalO] at he1
    cases hal:allocM m with
    |false=>
     obtain ⟨e1,e2,_⟩:=light he1 he hal
     subst e1
     refine ⟨_,h1,ob,key v h1 ob hev hc.s hc.kept (Nat.le_refl _) (λ_ _=>rfl) hc.pend ⟨true,hwst _,λq=>by (cases q),λ_=>⟨m,hop,he,.inl ⟨hal,?_⟩⟩⟩ (λ⟨_,m',hm',hal'⟩=>?_)⟩
     ·rw[(stable ho.toIOk hself frD v).2 m hop,a3d (by rw[hc.flen]; omega)]; exact he1
     ·rw[hop] at hm'; injection hm' with hm'; subst hm'; rw[hal] at hal'; cases hal'
    |true=>
     obtain ⟨obj,e1⟩:=laid he1 hal
     subst e1
     have hunm:=hc.s.wr.unm_of_len (o:=hD.length) (Nat.le_refl _)
     have hle:h0.length<=hD.length:=hc.kept.len
     refine ⟨_,hD++[obj],λj=>if j=it.i then hD.length else ob j,key v (hD++[obj]) _ hev (hc.s.push obj) (hc.kept.trans (.push _ _ _)) (by simp) (λx hx=>if_neg (ho.new x hx)) (λx hx hl=>(hc.pend x hx hl).push obj) ⟨true,hwst _,λq=>by (cases q),λ_=>⟨m,hop,he,.inr ⟨hal,hD,obj,?_,?_,?_,?_,?_⟩⟩⟩ (λ_=>?_)⟩
     ·simp
     ·simpa using hle
     ·rw[(stable ho.toIOk hself frD v).2 m hop,a3d (by rw[hc.flen]; omega)]; exact he1
     ·simp
     ·simpa using hunm
     ·simp
   |_=>rw[hop] at he; simp[isEff] at he
  ·cases hev
theorem Core.adv:∀{rest pd:List DItem} {frD:Frm} {hD:Heap} {ob:Nat->Nat},Core P T call N ops pre B w0 φ0 h0 fr0 frE hE n listed pd rest φ frD hD ob a w->
  ∃pd' rest' frD' hD' ob',Core P T call N ops pre B w0 φ0 h0 fr0 frE hE n listed pd' rest' φ frD' hD' ob' a w/\∀E r,rest'=E::r->isEff E.op.op=true
 |[],pd,frD,hD,ob,hc=>⟨pd,[],frD,hD,ob,hc,λE r q=>by cases q⟩
 |it::r,pd,frD,hD,ob,hc=>by
  cases he:isEff it.op.op with
  |true=>exact ⟨pd,it::r,frD,hD,ob,hc,λE r' q=>by injection q with q1 q2; rw[<-q1]; exact he⟩
  |false=>
   obtain ⟨frD',hD',ob',hc'⟩:=hc.adv1 he
   exact hc'.adv
variable {pd rest:List DItem} {φ:Ren} {frD:Frm} {hD:Heap} {ob:Nat->Nat} {a:Act} {w:World} {it:DItem} {o:Oper}
theorem Core.pre_listed (hc:Core P T call N ops pre B w0 φ0 h0 fr0 frE hE n listed pd rest φ frD hD ob a w)(ho:IOk P N ops pre it o)(hr:it.i∈Region.ready .any ops listed) :
  listed.getD it.i false=false/\∀j∈pre it.i,listed.getD j false=true:=by
 obtain ⟨h1,o',h2,h3⟩:=mem_ready.1 hr
 rw[ho.op] at h2
 injection h2 with h2
 subst h2
 refine ⟨?_,λj hj=>?_⟩
 ·have hlt:it.i<listed.size:=by rw[hc.lsize]; exact (Array.getElem?_eq_some_iff.1 ho.op).1
  rw[Array.getD_eq_getD_getElem?,Array.getElem?_eq_getElem hlt] at h1 ⊢
  exact h1
 ·obtain ⟨e,he,hb,h4⟩:=ho.just j hj
  have h5:=h3 e he hb
  rcases h4 with h4|h4
  ·rw[<-h4]; exact h5
  ·exact hc.lcl _ h5 j h4
theorem Core.slot (hc:Core P T call N ops pre B w0 φ0 h0 fr0 frE hE n listed pd rest φ frD hD ob a w){j s:Nat}{oj:Oper}(hl:listed.getD j false=true)(hj:ops[j]?=some oj)(hd:oj.dst=some s) :
  VR φ (frD.getD (N+j) .undef) (a.tmps.getD s undef):=by
 obtain ⟨x,hx,e⟩:=hc.lpd j hl
 subst e
 exact hc.tdo x hx hl oj s hj hd
theorem Core.evOk (hc:Core P T call N ops pre B w0 φ0 h0 fr0 frE hE n listed pd rest φ frD hD ob a w)(hd:dstsOk N ops=true)(hun:listed.getD i false=false)(hpre:∀j∈pre i,listed.getD j false=true) :
  EvOk φ (cmpD N ops pre i) frD a.eval:=by
 have hk:EvOk φ compOpd [] ({ tmps:=#[],defers:=[] }:Act).eval:=FR.evOk (by unfold FR; exact .nil)
 intro x y hxy
 cases x with
 |tmp s=>
  simp only[cmpD] at hxy
  split at hxy
  ·rename_i hs
   have plain:(∀x∈pd,listed.getD x.i false=true->∀o,ops[x.i]?=some o->o.dst≠some s)->VR φ (frD.getD s .undef) (a.tmps.getD s undef):=λq=>by
    rw[hc.fold s hs]; exact hc.tun s hs q
   split at hxy
   ·rename_i hw
    injection hxy with hxy
    subst hxy
    exact plain (λx hx hl o ho=>b7I hw ho)
   ·rename_i j hw
    obtain ⟨oj,hj,hjd⟩:=b7H hw
    split at hxy
    ·rename_i hmem
     injection hxy with hxy
     subst hxy
     exact hc.slot (hpre j (by simpa using hmem)) hj hjd
    ·split at hxy
     ·rename_i hor
      injection hxy with hxy
      subst hxy
      refine plain (λx hx hl o ho hds=>?_)
      have hwx:=(a3g hd ho hds).2
      rw[hw] at hwx
      injection hwx with hwx
      rcases hor with hor|hor
      ·rw[<-hwx,hor,hun] at hl; cases hl
      ·have:=hc.lcl _ hl i (by rw[<-hwx]; simpa using hor)
       rw[hun] at this; cases this
     ·cases hxy
  ·cases hxy
 |const v=>
  have:=hk (.const v) y hxy
  simp only[cmpD,compOpd,Option.map_eq_some_iff] at hxy
  obtain ⟨z,hz,rfl⟩:=hxy
  exact this
 |func f=>
  simp only[cmpD,compOpd] at hxy
  injection hxy with hxy
  subst hxy
  exact .fn (xs':=[]) (ys':=[]) .nil .nil
 |global g=>cases hxy
theorem Core.wanted (hc:Core P T call N ops pre B w0 φ0 h0 fr0 frE hE n listed pd rest φ frD hD ob a w)(ho:IOk P N ops pre it o)(hpre:∀j∈pre it.i,listed.getD j false=true)(hw:want frD it.op.guard=some b) :
  Region.wanted o (yielded ops a.tmps)=b:=by
 have hg:=ho.grd
 cases hog:o.guard with
 |none=>
  rw[hog] at hg
  injection hg with hg
  rw[<-hg] at hw
  injection hw with hw
  subst hw
  simp[Region.wanted,hog]
 |some gb=>
  obtain ⟨g,b'⟩:=gb
  rw[hog] at hg
  simp only[compG] at hg
  split at hg
  ·rename_i hcc
   injection hg with hg
   simp only[Bool.and_eq_true,List.contains_iff_mem] at hcc
   obtain ⟨d,hd⟩:=Option.isSome_iff_exists.1 hcc.2
   simp only[Option.bind_eq_some_iff] at hd
   obtain ⟨og,hog1,hog2⟩:=hd
   have hr:=hc.slot (hpre g hcc.1) hog1 hog2
   rw[<-hg] at hw
   simp only[want] at hw
   split at hw
   ·rename_i c hcv
    injection hw with hw
    rw[hcv] at hr
    have hv:=hr.bool_inv
    have hv2:a.tmps[d]?=some (.bool c):=by
     rw[Array.getD_eq_getD_getElem?] at hv
     cases hq:a.tmps[d]? with
     |none=>rw[hq] at hv; cases hv
     |some y=>rw[hq] at hv; simp only[Option.getD_some] at hv; rw[hv]
    simp only[Region.wanted,hog,yielded,hog1,Option.bind_some,hog2,hv2]
    rw[<-hw]
    cases c<;>cases b'<;>rfl
   ·rename_i hcv
    injection hw with hw
    rw[hcv] at hr
    generalize hv:a.tmps.getD d undef=v at hr
    cases hr
    rename_i cs' hr
    cases hr
    subst hw
    simp only[Region.wanted,hog,yielded,hog1,Option.bind_some,hog2]
    rw[Array.getD_eq_getD_getElem?] at hv
    cases hq:a.tmps[d]? with
    |none=>rfl
    |some y=>rw[hq] at hv; simp only[Option.getD_some] at hv; subst hv; rfl
   ·cases hw
  ·cases hg
theorem u2_ {i j:Nat}(hi:i<listed.size):(listed.setIfInBounds i true).getD j false=true↔j=i\/listed.getD j false=true:=by
 by_cases h:i=j
 ·subst h
  simp[Array.getD_eq_getD_getElem?,hi]
 ·rw[getD_set_ne false h]
  simp[Ne.symm h]
theorem a4l {i j:Nat}(hi:i<listed.size)(h:(listed.setIfInBounds i true).getD j false=false):j≠i/\listed.getD j false=false:=by
 by_cases q:i=j
 ·subst q
  simp[Array.getD_eq_getD_getElem?,hi] at h
 ·rw[getD_set_ne false q] at h
  exact ⟨Ne.symm q,h⟩
theorem Core.tput (hc:Core P T call N ops pre B w0 φ0 h0 fr0 frE hE n listed pd rest φ frD hD ob a w)(hd:dstsOk N ops=true)(ho:IOk P N ops pre it o)(hle:φ.le ψ){pd':List DItem}(hit:it∈pd')(hpd:∀x∈pd,x∈pd')(hun:listed.getD it.i false=false){frD':Frm}(hfr:∀x∈pd,listed.getD x.i false=true->frD'.getD (N+x.i) .undef=frD.getD (N+x.i) .undef)(hv:VR ψ (frD'.getD (N+it.i) .undef) v') :
  (a.put o.dst v').tmps.size=N/\
  (∀s,s<N->(∀x∈pd',(listed.setIfInBounds it.i true).getD x.i false=true->∀o,ops[x.i]?=some o->o.dst≠some s)->VR ψ (fr0.getD s .undef) ((a.put o.dst v').tmps.getD s undef))/\
  (∀x∈pd',(listed.setIfInBounds it.i true).getD x.i false=true->∀o' s,ops[x.i]?=some o'->o'.dst=some s->VR ψ (frD'.getD (N+x.i) .undef) ((a.put o.dst v').tmps.getD s undef)):=by
 have hlt:it.i<listed.size:=by rw[hc.lsize]; exact (Array.getElem?_eq_some_iff.1 ho.op).1
 have same:∀s,o.dst≠some s->(a.put o.dst v').tmps.getD s undef=a.tmps.getD s undef:=λs hs=>by
  cases hds:o.dst with
  |none=>rfl
  |some d=>
   have:d≠s:=λq=>hs (by rw[hds,q])
   simp[Act.put,Array.getD_eq_getD_getElem?,Array.getElem?_setIfInBounds_ne this]
 refine ⟨?_,λs hs hx=>?_,λx hx hl o' s hox hds=>?_⟩
 ·cases hds:o.dst with
  |none=>exact hc.tsize
  |some d=>simp only[Act.put,Array.size_setIfInBounds]; exact hc.tsize
 ·rw[same s (hx it hit ((u2_ hlt).2 (.inl rfl)) o ho.op)]
  exact (hc.tun s hs (λx hxp hl=>hx x (hpd x hxp) ((u2_ hlt).2 (.inr hl)))).mono hle
 ·by_cases hxi:x.i=it.i
  ·rw[hxi] at hox ⊢
   rw[ho.op] at hox
   injection hox with hox
   subst hox
   have hsN:=(a3g hd ho.op hds).1
   have:(a.put o.dst v').tmps.getD s undef=v':=by
    rw[hds]
    simp[Act.put,Array.getD_eq_getD_getElem?,hc.tsize,hsN]
   rw[this]
   exact hv
  ·have hl2:listed.getD x.i false=true:=by
    rcases (u2_ hlt).1 hl with q|q
    ·exact absurd q hxi
    ·exact q
   obtain ⟨x',hx',e⟩:=hc.lpd _ hl2
   have hne:o.dst≠some s:=λq=>by
    have k1:=(a3g hd ho.op q).2
    have k2:=(a3g hd hox hds).2
    rw[k1] at k2
    injection k2 with k2
    exact hxi k2.symm
   rw[same s hne,<-e,hfr x' hx' (by rw[e]; exact hl2)]
   rw[<-e] at hox hl2
   exact (hc.tdo x' hx' hl2 o' s hox hds).mono hle
theorem b9n (h:compAny P cmp op=some (.op m)):compOp P cmp op=some m:=by
 unfold compAny at h
 split at h
 ·simp only[Option.map_eq_some_iff] at h; obtain ⟨_,_,h⟩:=h; cases h
 ·simp only[Option.bind_eq_some_iff,Option.map_eq_some_iff] at h; obtain ⟨_,_,_,_,h⟩:=h; cases h
 ·simp only[Option.bind_eq_some_iff,Option.map_eq_some_iff] at h; obtain ⟨_,_,_,_,h⟩:=h; cases h
 ·simp only[Option.map_eq_some_iff] at h; obtain ⟨_,h1,h2⟩:=h; injection h2 with h2; subst h2; exact h1
theorem Pend.mono {ψ:Ren}(hp:Pend N L φ frD hD it ob)(h:AW frD it->ob it.i<hD.length->(∀g,φ.c (ob it.i) g=none)->φ.m (ob it.i)=none->(∀g,ψ.c (ob it.i) g=none)/\ψ.m (ob it.i)=none):Pend N L ψ frD hD it ob:=by
 obtain ⟨b,h1,h2,h3⟩:=hp
 refine ⟨b,h1,h2,λhb=>?_⟩
 obtain ⟨m,m1,m2,m3⟩:=h3 hb
 refine ⟨m,m1,m2,?_⟩
 rcases m3 with ⟨q1,q2⟩|⟨q1,hA,obj,q2,q3,q4,q5,q6,q7⟩
 ·exact .inl ⟨q1,q2⟩
 ·exact .inr ⟨q1,hA,obj,q2,q3,q4,q5,h ⟨by rw[h1,hb],m,m1,q1⟩ (List.getElem?_eq_some_iff.1 q5).1 q6 q7⟩
theorem Core.listP (hc:Core P T call N ops pre B w0 φ0 h0 fr0 frE hE n listed pd rest φ frD hD ob a w)(hd:dstsOk N ops=true)(hit:it∈pd)(ho:IOk P N ops pre it o)(hr:it.i∈Region.ready .any ops listed)(hle:φ.le ψ)(hs:S B w0 ψ hD w')(hk:Kept φ0 h0 ψ hD)(hp:∀x∈pd,x.i≠it.i->listed.getD x.i false=false->Pend N h0.length φ frD hD x ob->Pend N h0.length ψ frD hD x ob)(hv:VR ψ (frD.getD (N+it.i) .undef) v'):Core P T call N ops pre B w0 φ0 h0 fr0 frE hE n (listed.setIfInBounds it.i true) pd rest ψ frD hD ob (a.put o.dst v') w':=by
 obtain ⟨hun,hpre⟩:=hc.pre_listed ho hr
 have hlt:it.i<listed.size:=by rw[hc.lsize]; exact (Array.getElem?_eq_some_iff.1 ho.op).1
 obtain ⟨t1,t2,t3⟩:=hc.tput hd ho hle hit (λx hx=>hx) hun (λ_ _ _=>rfl) hv
 exact {
  ev:=hc.ev
  chain:=hc.chain
  items:=hc.items
  edges:=hc.edges
  uniq:=hc.uniq
  cov:=hc.cov
  lsize:=by rw[Array.size_setIfInBounds]; exact hc.lsize
  lpd:=λi hi=>by
   rcases (u2_ hlt).1 hi with q|q
   ·exact ⟨it,hit,q.symm⟩
   ·exact hc.lpd i q
  lcl:=λi hi j hj=>(u2_ hlt).2 (.inr (by
   rcases (u2_ hlt).1 hi with q|q
   ·exact hpre j (by rw[<-q]; exact hj)
   ·exact hc.lcl i q j hj))
  leff:=λx hx he=>(u2_ hlt).2 (.inr (hc.leff x hx he))
  pcl:=hc.pcl
  pend:=λx hx hl=>by
   obtain ⟨q1,q2⟩:=a4l hlt hl
   exact hp x hx q1 q2 (hc.pend x hx q2)
  obs:=λx hx y hy lx ly=>hc.obs x hx y hy (a4l hlt lx).2 (a4l hlt ly).2
  oblt:=λx hx lx=>hc.oblt x hx (a4l hlt lx).2
  flen:=hc.flen
  nle:=hc.nle
  fold:=hc.fold
  tsize:=t1
  tun:=t2
  tdo:=t3
  s:=hs
  kept:=hk }
theorem a6X (a:Act)(d:Option Tmp)(v:Value):(a.put d v).defers=a.defers:=by cases d<;>rfl
theorem Core.stepP (hc:Core P T call N ops pre B w0 φ0 h0 fr0 frE hE n listed pd rest φ frD hD ob a w)(hd:dstsOk N ops=true)(hit:it∈pd)(ho:IOk P N ops pre it o)(hr:it.i∈Region.ready .any ops listed){K:Act->World->Prop}(hK:∀ψ a' w',Core P T call N ops pre B w0 φ0 h0 fr0 frE hE n (listed.setIfInBounds it.i true) pd rest ψ frD hD ob a' w'->a'.defers=a.defers->K a' w'):wpOp P ops Q it.i K a w:=by
 obtain ⟨hun,hpre⟩:=hc.pre_listed ho hr
 have hpd:=hc.pend it hit hun
 obtain ⟨b,hw,h2,h3⟩:=hpd
 have hwt:=hc.wanted ho hpre hw
 unfold wpOp
 simp only[ho.op,hwt]
 cases b with
 |false=>
  rw[if_neg (by simp)]
  exact hK φ _ w (hc.listP hd hit ho hr (.refl _) hc.s hc.kept (λ_ _ _ _ q=>q) (by rw[h2 rfl]; exact .tup (cs':=[]) .nil)) (a6X _ _ _)
 |true=>
  rw[if_pos rfl]
  obtain ⟨m,hm,hme,h4⟩:=h3 rfl
  have hcm:compOp P (cmpD N ops pre it.i) o.op=some m:=b9n (by rw[<-hm]; exact ho.cmp)
  have hev:=hc.evOk hd hun hpre
  have fin:∀{ψ v' w'},Gives P (execOp a.eval o) w v' w'->VR ψ (frD.getD (N+it.i) .undef) v'->S B w0 ψ hD w'->φ.le ψ->Kept φ0 h0 ψ hD->
    (∀x∈pd,x.i≠it.i->listed.getD x.i false=false->Pend N h0.length φ frD hD x ob->Pend N h0.length ψ frD hD x ob)->o.wp P a w K Q:=by
   intro ψ v' w' hg k1 k2 k3 k4 k5
   have:=hK ψ _ w' (hc.listP hd hit ho hr k3 k2 k4 k5 k1) (a6X _ _ _)
   unfold Oper.wp
   rcases hg with hg|⟨hg,rfl⟩
   ·rw[hg,Oper.upon_value]; exact this
   ·rw[hg,Oper.upon_skip]; exact this
  rcases h4 with ⟨ha,he⟩|⟨ha,hA,obj,e1,e2,he,e3,e4,e5⟩
  ·obtain ⟨ψ,v',w',hg,k1,k2,k3⟩:=opSim hc.s hev hcm he
   exact .inl (fin hg k1 k2 k3.le (hc.kept.trans k3) (λx hx _ _ q=>q.mono (λ_ hl q1 q2=>by
    obtain ⟨r1,r2,_⟩:=k3.un _ hl q1 q2
    exact ⟨r1,r2⟩)))
  ·obtain ⟨ψ,v',w',hg,k1,k2,k3,k4,k5⟩:=laySim (hc:=hD) hc.s hev hcm ha he (by rw[e1]; exact e3) (by rw[e1]; exact e4)
   refine .inl (fin hg k1 k2 k3 ⟨hc.kept.le.trans k3,hc.kept.len,λo' ho' hc' hm'=>?_⟩ (λx hx hne hlx q=>q.mono (λhaw hl q1 q2=>?_)))
   ·obtain ⟨r1,r2,r3⟩:=hc.kept.un o' ho' hc' hm'
    exact ⟨λg=>by rw[k5 o' g oM]; exact r1 g,by rw[k4]; exact r2,r3⟩
   ·have:ob x.i≠ob it.i:=λq=>hne (by rw[hc.obs x hx it hit hlx hun haw ⟨hw,m,hm,ha⟩ q])
    exact ⟨λg=>by rw[k5 _ g oM]; exact q1 g,by rw[k4]; exact q2⟩
theorem Core.listE {r:List DItem}(hc:Core P T call N ops pre B w0 φ0 h0 fr0 frE hE n listed pd (it::r) φ frD hD ob a w)(hd:dstsOk N ops=true)(ho:Step P N ops pre pd it o)(hr:it.i∈Region.ready .any ops listed)(hkp:Kept φ hD ψ hD')(hs:S B w0 ψ hD' w')(hev:evalD T call r (frD.set (N+it.i) v) hD'=some (frE,hE))(hp:∀x∈pd,x.i≠it.i->listed.getD x.i false=false->Pend N h0.length φ frD hD x ob->Pend N h0.length ψ (frD.set (N+it.i) v) hD' x ob)(hv:VR ψ v v'):Core P T call N ops pre B w0 φ0 h0 fr0 frE hE n (listed.setIfInBounds it.i true) (pd++[it]) r ψ (frD.set (N+it.i) v) hD' ob (a.put o.dst v') w':=by
 obtain ⟨hun,hpre⟩:=hc.pre_listed ho.toIOk hr
 have hlt:it.i<listed.size:=by rw[hc.lsize]; exact (Array.getElem?_eq_some_iff.1 ho.op).1
 have hitn:it.i<n:=hc.nle it (by simp)
 have hself:(frD.set (N+it.i) v).getD (N+it.i) .undef=v:=a3d (by rw[hc.flen]; omega)
 have hoth:∀x∈pd,(frD.set (N+it.i) v).getD (N+x.i) .undef=frD.getD (N+x.i) .undef:=λx hx=>r7_ (by have:=ho.new x hx; omega)
 have notpre:∀x∈pd,it.i ∉ pre x.i:=λx hx q=>by
  obtain ⟨y,hy,e⟩:=hc.pcl x hx _ q
  exact ho.new y hy e
 have aw:∀x∈pd,AW (frD.set (N+it.i) v) x->AW frD x:=λx hx q=>by
  obtain ⟨o',ho'⟩:=hc.items x hx
  exact ⟨by rw[<-(stable ho' (notpre x hx) frD v).1]; exact q.1,q.2⟩
 have preit:∀j∈pre it.i,∃y∈pd,y.i=j:=λj hj=>hc.lpd j (hpre j hj)
 obtain ⟨t1,t2,t3⟩:=hc.tput hd ho.toIOk hkp.le (pd':=pd++[it]) (by simp) (λx hx=>List.mem_append_left _ hx) hun (frD':=frD.set (N+it.i) v) (λx hx _=>hoth x hx) (by rw[hself]; exact hv)
 have inpd:∀x∈pd++[it],(listed.setIfInBounds it.i true).getD x.i false=false->x∈pd/\x.i≠it.i/\listed.getD x.i false=false:=λx hx hl=>by
  obtain ⟨q1,q2⟩:=a4l hlt hl
  rcases List.mem_append.1 hx with hx'|hx'
  ·exact ⟨hx',q1,q2⟩
  ·simp only[List.mem_singleton] at hx'; rw[hx'] at q1; exact absurd rfl q1
 exact {
  ev:=hev
  chain:=hc.chain.2
  items:=λx hx=>by
   rcases List.mem_append.1 hx with hx|hx
   ·exact hc.items x hx
   ·simp only[List.mem_singleton] at hx; subst hx; exact ⟨o,ho.toIOk⟩
  edges:=λx hx o' ho' e he hb=>by
   rcases List.mem_append.1 hx with hx|hx
   ·obtain ⟨y,hy,q⟩:=hc.edges x hx o' ho' e he hb
    exact ⟨y,List.mem_append_left _ hy,q⟩
   ·simp only[List.mem_singleton] at hx; subst hx
    rw[ho.op] at ho'; injection ho' with ho'; subst ho'
    obtain ⟨y,hy,q⟩:=ho.edges e he hb
    exact ⟨y,List.mem_append_left _ hy,q⟩
  uniq:=λx hx y hy e=>by
   rcases List.mem_append.1 hx with hx'|hx'<;>rcases List.mem_append.1 hy with hy'|hy'
   ·exact hc.uniq x hx' y hy' e
   ·simp only[List.mem_singleton] at hy'; subst hy'; exact absurd e (ho.new x hx')
   ·simp only[List.mem_singleton] at hx'; subst hx'; exact absurd e.symm (ho.new y hy')
   ·simp only[List.mem_singleton] at hx' hy'; rw[hx',hy']
  cov:=λi hi=>by
   rcases hc.cov i hi with ⟨x,hx,e⟩|⟨x,hx,e⟩
   ·exact .inl ⟨x,List.mem_append_left _ hx,e⟩
   ·rcases List.mem_cons.1 hx with q|hx
    ·exact .inl ⟨it,by simp,by rw[<-q]; exact e⟩
    ·exact .inr ⟨x,hx,e⟩
  lsize:=by rw[Array.size_setIfInBounds]; exact hc.lsize
  lpd:=λi hi=>by
   rcases (u2_ hlt).1 hi with q|q
   ·exact ⟨it,by simp,q.symm⟩
   ·obtain ⟨x,hx,e⟩:=hc.lpd i q
    exact ⟨x,List.mem_append_left _ hx,e⟩
  lcl:=λi hi j hj=>(u2_ hlt).2 (.inr (by
   rcases (u2_ hlt).1 hi with q|q
   ·exact hpre j (by rw[<-q]; exact hj)
   ·exact hc.lcl i q j hj))
  leff:=λx hx he=>(u2_ hlt).2 (by
   rcases List.mem_append.1 hx with hx|hx
   ·exact .inr (hc.leff x hx he)
   ·simp only[List.mem_singleton] at hx; subst hx; exact .inl rfl)
  pcl:=λx hx j hj=>by
   rcases List.mem_append.1 hx with hx|hx
   ·obtain ⟨y,hy,e⟩:=hc.pcl x hx j hj
    exact ⟨y,List.mem_append_left _ hy,e⟩
   ·simp only[List.mem_singleton] at hx; subst hx
    obtain ⟨y,hy,e⟩:=preit j hj
    exact ⟨y,List.mem_append_left _ hy,e⟩
  pend:=λx hx hl=>by
   obtain ⟨q1,q2,q3⟩:=inpd x hx hl
   exact hp x q1 q2 q3 (hc.pend x q1 q3)
  obs:=λx hx y hy lx ly ax ay=>by
   obtain ⟨q1,q2,q3⟩:=inpd x hx lx
   obtain ⟨r1,r2,r3⟩:=inpd y hy ly
   exact hc.obs x q1 y r1 q3 r3 (aw x q1 ax) (aw y r1 ay)
  oblt:=λx hx lx ax=>by
   obtain ⟨q1,q2,q3⟩:=inpd x hx lx
   exact Nat.lt_of_lt_of_le (hc.oblt x q1 q3 (aw x q1 ax)) hkp.len
  flen:=by rw[List.length_set]; exact hc.flen
  nle:=λx hx=>hc.nle x (by simpa using hx)
  fold:=λs hs=>by rw[r7_ oM]; exact hc.fold s hs
  tsize:=t1
  tun:=t2
  tdo:=t3
  s:=hs
  kept:=hc.kept.trans hkp }
theorem Core.stepE {r:List DItem}(hco:CallOk P B w0 call)(hme:MethOk P T)(hc:Core P T call N ops pre B w0 φ0 h0 fr0 frE hE n listed pd (it::r) φ frD hD ob a w)(hd:dstsOk N ops=true)(heff:isEff it.op.op=true)(hr:it.i∈Region.ready .any ops listed){K:Act->World->Prop}(hK:∀ψ frD' hD' a' w',Core P T call N ops pre B w0 φ0 h0 fr0 frE hE n (listed.setIfInBounds it.i true) (pd++[it]) r ψ frD' hD' ob a' w'->a'.defers=a.defers->K a' w'):wpOp P ops Q it.i K a w:=by
 obtain ⟨o,ho⟩:=hc.chain.1
 obtain ⟨hun,hpre⟩:=hc.pre_listed ho.toIOk hr
 have notpre:∀x∈pd,it.i ∉ pre x.i:=λx hx q=>by
  obtain ⟨y,hy,e⟩:=hc.pcl x hx _ q
  exact ho.new y hy e
 have hev:=hc.ev
 simp only[evalD,Option.bind_eq_some_iff] at hev
 obtain ⟨b,hw,hev⟩:=hev
 have hwt:=hc.wanted ho.toIOk hpre hw
 unfold wpOp
 simp only[ho.op,hwt]
 cases b with
 |false=>
  rw[if_neg (by simp)] at hev ⊢
  rw[ho.dst] at hev
  exact hK φ _ hD _ w (hc.listE hd ho hr (.refl _ _) hc.s hev (λx hx hne _ q=>by
   obtain ⟨o',ho'⟩:=hc.items x hx
   exact q.set ho' (notpre x hx) (Ne.symm hne) _) (.tup (cs':=[]) .nil)) (a6X _ _ _)
 |true=>
  rw[if_pos rfl] at hev ⊢
  simp only[Option.bind_eq_some_iff] at hev
  obtain ⟨⟨v,h1⟩,he1,hev⟩:=hev
  simp only at hev
  split at hev
  ·rename_i hag
   rw[ho.dst] at hev hag
   have hag2:=List.all_eq_true.1 hag
   refine .inl (operSim hco hme hc.s (hc.evOk hd hun hpre) ho.cmp he1 (λψ v' w' k1 k2 k3=>?_))
   refine hK ψ _ h1 _ w' (hc.listE hd ho hr k3 k2 hev (λx hx hne hlx q=>?_) k1) (a6X _ _ _)
   obtain ⟨o',ho'⟩:=hc.items x hx
   have q':=q.set ho' (notpre x hx) (Ne.symm hne) v
   obtain ⟨b,p1,p2,p3⟩:=q'
   refine ⟨b,p1,p2,λhb=>?_⟩
   obtain ⟨m,m1,m2,m3⟩:=p3 hb
   refine ⟨m,m1,m2,?_⟩
   rcases m3 with ⟨q1,q2⟩|⟨q1,hA,obj,q2,q3,q4,q5,q6,q7⟩
   ·refine .inl ⟨q1,?_⟩
    obtain ⟨_,_,l3⟩:=light q2 m2 q1
    cases hrd:readM m with
    |false=>exact l3 hrd h1
    |true=>
     have hnp:x.i ∉ pre it.i:=λq=>by have:=hpre _ q; rw[hlx] at this; cases this
     have:=hag2 _ (ho.ag heff x hx (by rw[m1]; exact hrd) hnp)
     simp only[againB] at this
     simp only[Gm.put] at this
     rw[p1,hb,m1] at this
     simp only at this
     split at this
     ·rename_i u hu
      obtain ⟨u1,u2⟩:=u
      have e1:=AV.beq_eq this
      simp only at e1
      have e2:=(light hu m2 q1).1
      rw[hu,e1,e2]
     ·cases this
   ·obtain ⟨r1,r2,r3⟩:=k3.un _ (List.getElem?_eq_some_iff.1 q5).1 q6 q7
    exact .inr ⟨q1,hA,obj,q2,q3,q4,r3.trans q5,r1,r2⟩
  ·cases hev
theorem b9o (hsz:listed.size=ops.size)(hb:∀i o,ops[i]?=some o->∀e∈o.after,Region.binds .any e=true->e.on<i):∀i,i<ops.size->listed.getD i false=false->∃j,j∈Region.ready .any ops listed:=by
 intro i
 induction i using Nat.strongRecOn with
 |_ i ih=>
  intro hi hl
  have ho:ops[i]?=some ops[i]:=Array.getElem?_eq_getElem hi
  by_cases hall:∀e∈ops[i].after,Region.binds .any e=true->listed.getD e.on false=true
  ·refine ⟨i,mem_ready.2 ⟨?_,_,ho,hall⟩⟩
   rw[Array.getD_eq_getD_getElem?,Array.getElem?_eq_getElem oM] at hl ⊢
   exact hl
  ·simp only[Classical.not_forall] at hall
   obtain ⟨e,he,hbe,hne⟩:=hall
   have hlt:=hb i _ ho e he hbe
   exact ih e.on hlt oM (by simpa using hne)
theorem drawMain (hco:CallOk P B w0 call)(hme:MethOk P T)(hd:dstsOk N ops=true){Q:Exit->Act->World->Prop}{d0:List Deferred}(hfin:∀listed pd φ ob a w,Core P T call N ops pre B w0 φ0 h0 fr0 frE hE n listed pd [] φ frE hE ob a w->(∀i,i<ops.size->listed.getD i false=true)->a.defers=d0->Q .normal a w) :
  ∀fuel (listed:Array Bool) (pd rest:List DItem) (φ:Ren) (frD:Frm) (hD:Heap) (ob:Nat->Nat) (a:Act) (w:World),Core P T call N ops pre B w0 φ0 h0 fr0 frE hE n listed pd rest φ frD hD ob a w->
  (∀E r,rest=E::r->isEff E.op.op=true)->listed.toList.count false=fuel->a.defers=d0->wpAny P .any ops Q fuel listed a w:=by
 intro fuel
 induction fuel with
 |zero=>
  intro listed pd rest φ frD hD ob a w hc hE hcnt hdf
  have hall:∀i,i<ops.size->listed.getD i false=true:=λi hi=>by
   have hi':i<listed.size:=by rw[hc.lsize]; exact hi
   rw[Array.getD_eq_getD_getElem?,Array.getElem?_eq_getElem hi',Option.getD_some]
   cases hq:listed[i] with
   |true=>rfl
   |false=>
    have hm:false∈listed.toList:=by rw[<-hq]; simp
    exact absurd hm (List.count_eq_zero.1 hcnt)
  refine ⟨?_,?_⟩
  ·cases hr:Region.ready .any ops listed with
   |nil=>rfl
   |cons j js=>
    have hj:j∈Region.ready .any ops listed:=by rw[hr]; simp
    obtain ⟨h1,o,h2,_⟩:=mem_ready.1 hj
    have hlt:=(Array.getElem?_eq_some_iff.1 h2).1
    have h3:=hall j hlt
    have hlt':j<listed.size:=by rw[hc.lsize]; exact hlt
    rw[Array.getD_eq_getD_getElem?,Array.getElem?_eq_getElem hlt'] at h1 h3
    simp only[Option.getD_some] at h1 h3
    rw[h1] at h3; cases h3
  ·cases rest with
   |nil=>
    have hev:=hc.ev
    simp only[evalD,Option.some.injEq,Prod.mk.injEq] at hev
    obtain ⟨e1,e2⟩:=hev
    subst e1 e2
    exact hfin _ _ _ _ _ _ hc hall hdf
   |cons E r=>
    obtain ⟨o,ho⟩:=hc.chain.1
    have:=hall E.i (Array.getElem?_eq_some_iff.1 ho.op).1
    obtain ⟨x,hx,e⟩:=hc.lpd _ this
    exact absurd e (ho.new x hx)
 |succ fuel ih=>
  intro listed pd rest φ frD hD ob a w hc hE hcnt hdf
  have cnt:∀i,i∈Region.ready .any ops listed->(listed.setIfInBounds i true).toList.count false=fuel:=λi hi=>by
   obtain ⟨h1,o,h2,_⟩:=mem_ready.1 hi
   have hlt:=(Array.getElem?_eq_some_iff.1 h2).1
   have hlt':i<listed.toList.length:=by simp[hc.lsize]; exact hlt
   have hlt2:i<listed.size:=by rw[hc.lsize]; exact hlt
   rw[Array.getD_eq_getD_getElem?,Array.getElem?_eq_getElem hlt2,Option.getD_some] at h1
   rw[Array.toList_setIfInBounds,List.count_set hlt',hcnt]
   simp[h1]
  have item:∀i o,ops[i]?=some o->∃it,it.i=i/\IOk P N ops pre it o:=λi o ho=>by
   have fit:∀x:DItem,x.i=i->(∃o,IOk P N ops pre x o)->∃it,it.i=i/\IOk P N ops pre it o:=λx e ⟨o',h⟩=>by
    have:=h.op
    rw[e,ho] at this
    injection this with this
    subst this
    exact ⟨x,e,h⟩
   rcases hc.cov i (Array.getElem?_eq_some_iff.1 ho).1 with ⟨x,hx,e⟩|⟨x,hx,e⟩
   ·exact fit x e (hc.items x hx)
   ·exact fit x e (hc.chain.item x hx)
  refine ⟨λhr=>?_,λi hi=>?_⟩
  ·have hpos:0<listed.toList.count false:=oM
   have hm:=List.count_pos_iff.1 hpos
   obtain ⟨i,hi,hq⟩:=List.getElem_of_mem hm
   have hi':i<listed.size:=by simpa using hi
   obtain ⟨j,hj⟩:=b9o (listed:=listed) hc.lsize (λi o ho e he hb=>by
    obtain ⟨it,rfl,hit⟩:=item i o ho
    exact hit.back e he hb) i (by rw[<-hc.lsize]; exact hi') (by
     rw[Array.getD_eq_getD_getElem?,Array.getElem?_eq_getElem hi',Option.getD_some]; simpa using hq)
   rw[hr] at hj
   cases hj
  ·have hisz:i<ops.size:=by
    obtain ⟨h1,o,h2,_⟩:=mem_ready.1 hi
    exact (Array.getElem?_eq_some_iff.1 h2).1
   rcases hc.cov i hisz with ⟨x,hx,e⟩|⟨x,hx,e⟩
   ·subst e
    obtain ⟨o,ho⟩:=hc.items x hx
    exact hc.stepP hd hx ho hi (λψ a' w' hc' hdf'=>ih _ _ _ _ _ _ _ _ _ hc' hE (cnt _ hi) (hdf'.trans hdf))
   ·cases rest with
    |nil=>simp at hx
    |cons E r=>
     have heff:=hE E r rfl
     rcases List.mem_cons.1 hx with q|hx
     ·subst q
      subst e
      exact hc.stepE hco hme hd heff hi (λψ frD' hD' a' w' hc' hdf'=>by
       obtain ⟨pd2,rest2,frD2,hD2,ob2,hc2,hE2⟩:=hc'.adv
       exact ih _ _ _ _ _ _ _ _ _ hc2 hE2 (cnt _ hi) (hdf'.trans hdf))
     ·subst e
      obtain ⟨o,ho⟩:=hc.chain.2.item x hx
      obtain ⟨hun,hpre⟩:=hc.pre_listed ho hi
      have:=hpre _ (hc.chain.2.eff heff (by simp) hx)
      obtain ⟨y,hy,e⟩:=hc.lpd _ this
      exact absurd e (hc.chain.new hy (by simp))
theorem b5j:∀(outs:List (Nat × Nat)) (fr:Frm),(outFr fr frE outs).length=fr.length
 |[],fr=>rfl
 |(d,s)::r,fr=>by simp[outFr,b5j r]
theorem b3C:∀(outs:List (Nat × Nat)) (fr:Frm) (s:Nat),(∀k,(s,k) ∉ outs)->(outFr fr frE outs).getD s .undef=fr.getD s .undef
 |[],fr,s,h=>rfl
 |(d,q)::r,fr,s,h=>by
  try simp only[outFr]
  rw[b3C r _ s (λk hk=>h k (List.mem_cons_of_mem _ hk)),r7_]
  rintro rfl
  exact h q (by simp)
theorem b5k:∀(outs:List (Nat × Nat)) (fr:Frm) (s k:Nat),(∀k',(s,k')∈outs->k'=k)->s<fr.length->(s,k)∈outs->(outFr fr frE outs).getD s .undef=frE.getD k .undef
 |[],fr,s,k,h,hs,hm=>by simp at hm
 |(d,q)::r,fr,s,k,h,hs,hm=>by
  try simp only[outFr]
  by_cases hr:(s,k)∈r
  ·exact b5k r _ s k (λk' hk'=>h k' (List.mem_cons_of_mem _ hk')) (by simpa using hs) hr
  ·rw[b3C r _ s (λk' hk'=>by have:=h k' (List.mem_cons_of_mem _ hk'); subst this; exact hr hk')]
   rcases List.mem_cons.1 hm with e|e
   ·injection e with e1 e2; subst e1 e2; exact a3d hs
   ·exact absurd e hr
theorem FR.of_getD {fr:Frm}{a:Act}(hl:fr.length=a.tmps.size)(h:∀s,s<fr.length->VR φ (fr.getD s .undef) (a.tmps.getD s undef)):FR φ fr a:=by
 unfold FR
 refine VRs.of_get (by simpa using hl) (λi x v hx hv=>?_)
 have hi:=(List.getElem?_eq_some_iff.1 hx).1
 have:=h i hi
 rw[List.getD_eq_getElem?_getD,hx] at this
 rw[Array.getElem?_toList] at hv
 rw[Array.getD_eq_getD_getElem?,hv] at this
 exact this
theorem drawSim (hco:CallOk P B w0 call)(hme:MethOk P T)(hm:P.follows .mixedOrders=true){H:Hint}{id:Nat}{ops:Array Oper}{m:MCode}(hcr:compReg P H id ops=some m){R:Type}{r:R}{k:Nat}{K:Kont R}{fr:Frm}{h:Heap}{φ:Ren}{w:World}{a:Act}{Q:Exit->Act->World->Prop}(he:evalC T call k m fr h K=some r)(hf:FR φ fr a)(hs:S B w0 φ h w)(hQ:∀fr' h' ψ a' w',K .normal fr' h'=some r->FR ψ fr' a'->a'.defers=a.defers->S B w0 ψ h' w'->Kept φ h ψ h'->Q .normal a' w'):(Code.region id ops true).wp P Q a w:=by
 unfold compReg at hcr
 split at hcr
 ·rename_i hcond
  simp only[Bool.and_eq_true,List.all_eq_true,List.mem_range,List.contains_iff_mem,decide_eq_true_eq] at hcond
  obtain ⟨⟨hd,hcov⟩,hlen⟩:=hcond
  simp only[Option.map_eq_some_iff] at hcr
  obtain ⟨its,hits,rfl⟩:=hcr
  obtain ⟨hchain,hmap⟩:=b6P hits
  simp only[evalC] at he
  split at he
  ·rename_i hN
   simp only[Option.bind_eq_some_iff] at he
   obtain ⟨⟨frE,hE⟩,he1,he2⟩:=he
   have hitl:its.length=ops.size:=by rw[<-hlen,<-hmap]; simp
   have hts:a.tmps.size=H.N:=by have:=VRs.length hf; simp at this; omega
   have hgt:∀s,s<H.N->(fr++List.replicate its.length AV.undef).getD s .undef=fr.getD s .undef:=λs hs'=>by
    rw[List.getD_eq_getElem?_getD,List.getElem?_append_left oM,<-List.getD_eq_getElem?_getD]
   have hno:∀i,(Array.replicate ops.size false).getD i false=false:=λi=>by
    rw[Array.getD_eq_getD_getElem?,Array.getElem?_replicate]
    split<;>rfl
   have c0:Core P T call H.N ops (H.D id).1 B w0 φ h fr frE hE its.length (Array.replicate ops.size false) [] its φ (fr++List.replicate its.length .undef) h (λ_=>0) a w.drew:={
    ev:=he1
    chain:=hchain
    items:=λ_ hx=>by simp at hx
    edges:=λ_ hx=>by simp at hx
    uniq:=λ_ hx=>by simp at hx
    cov:=λi hi=>by
     have:=hcov i hi
     rw[<-hmap,List.mem_map] at this
     exact .inr this
    lsize:=by simp
    lpd:=λi hi=>by rw[hno] at hi; cases hi
    lcl:=λi hi=>by rw[hno] at hi; cases hi
    leff:=λ_ hx=>by simp at hx
    pcl:=λ_ hx=>by simp at hx
    pend:=λ_ hx=>by simp at hx
    obs:=λ_ hx=>by simp at hx
    oblt:=λ_ hx=>by simp at hx
    flen:=by simp[hN]
    nle:=λx hx=>by
     obtain ⟨o,ho⟩:=hchain.item x (by simpa using hx)
     rw[hitl]; exact (Array.getElem?_eq_some_iff.1 ho.op).1
    fold:=hgt
    tsize:=hts
    tun:=λs hs' _=>hf.getD s
    tdo:=λ_ hx=>by simp at hx
    s:=hs.drew
    kept:=.refl _ _ }
   obtain ⟨pd2,rest2,frD2,hD2,ob2,hc2,hE2⟩:=c0.adv
   refine wp_region_any hm (drawMain hco hme hd (d0:=a.defers) (λlisted pd ψ ob a' w' hc hall hdf=>?_) _ _ _ _ _ _ _ _ _ _ hc2 hE2 (by simp) rfl)
   have hsz:=b5j (frE:=frE) (outsOf H.N ops) fr
   refine hQ _ _ ψ a' w' he2 (FR.of_getD (by rw[hsz,hc.tsize]; exact hN) (λs hs'=>?_)) hdf hc.s hc.kept
   rw[hsz,hN] at hs'
   have mem:∀k,(s,k)∈outsOf H.N ops↔∃j o,ops[j]?=some o/\o.dst=some s/\k=H.N+j:=λk=>by
    simp only[outsOf,List.mem_filterMap,List.mem_range,Option.bind_eq_some_iff,Option.map_eq_some_iff,Prod.mk.injEq]
    constructor
    ·rintro ⟨j,hj,o,ho,d,hds,rfl,rfl⟩; exact ⟨j,o,ho,hds,rfl⟩
    ·rintro ⟨j,o,ho,hds,rfl⟩; exact ⟨j,(Array.getElem?_eq_some_iff.1 ho).1,o,ho,s,hds,rfl,rfl⟩
   by_cases hw:∃k,(s,k)∈outsOf H.N ops
   ·obtain ⟨k,hk⟩:=hw
    have hk':=hk
    rw[mem] at hk'
    obtain ⟨j,o,ho,hds,rfl⟩:=hk'
    rw[b5k _ _ s (H.N+j) (λk' hk'=>by
     rw[mem] at hk'
     obtain ⟨j',o',ho',hds',rfl⟩:=hk'
     have q1:=(a3g hd ho hds).2
     have q2:=(a3g hd ho' hds').2
     rw[q1] at q2; injection q2 with q2; rw[q2]) oM hk]
    exact hc.slot (hall j (Array.getElem?_eq_some_iff.1 ho).1) ho hds
   ·simp only[not_exists] at hw
    rw[b3C _ _ s hw]
    refine hc.tun s hs' (λx hx hl o ho hds=>hw (H.N+x.i) ((mem _).2 ⟨x.i,o,ho,hds,rfl⟩))
  ·cases he
 ·cases hcr
end
end Go.Gm
namespace Go.Gm
open Go.RowKit
section
variable {B:Nat} {w0:World} {φ:Ren} {h h':Heap} {w:World} {P:Program} {fr:Frm} {a:Act} {T:Tab} {call:CallF}
theorem regSim (hco:CallOk P B w0 call)(hme:MethOk P T){Q:Exit->Act->World->Prop}:∀{l:List Oper} {ms:List MOper} {φ:Ren} {h:Heap} {w:World} {fr:Frm} {a:Act} {fr':Frm} {h':Heap},
  compOpers P ops l=some ms->S B w0 φ h w->FR φ fr a->evalR T call ms fr h=some (fr',h')->
  (∀ψ a' w',FR ψ fr' a'->a'.defers=a.defers->S B w0 ψ h' w'->Kept φ h ψ h'->Q .normal a' w')->wpList P ops Q l a w
 |[],ms,φ,h,w,fr,a,fr',h',hc,hs,hf,he,hQ=>by
  injection hc with hc
  subst hc
  injection he with he
  injection he with e1 e2
  subst e1 e2
  exact hQ φ a w hf rfl hs (.refl _ _)
 |o::l,ms,φ,h,w,fr,a,fr',h',hc,hs,hf,he,hQ=>by
  simp only[compOpers,Option.bind_eq_some_iff,Option.map_eq_some_iff] at hc
  obtain ⟨m,h1,ms',h2,rfl⟩:=hc
  simp only[evalR,Option.bind_eq_some_iff] at he
  obtain ⟨b,hw,he⟩:=he
  obtain ⟨hwb,hd⟩:=c4a hf h1 hw
  unfold wpList
  rw[hwb]
  cases b with
  |false=>
   rw[if_neg (by simp)] at he ⊢
   refine regSim hco hme h2 hs (fr:=put fr m.dst (.tup [])) ?_ he (λψ a' w' k1 k2 k3 k4=>hQ ψ a' w' k1 (k2.trans ?_) k3 k4)
   ·rw[hd]; exact hf.put (.tup (cs':=[]) .nil) o.dst
   ·cases o.dst<;>rfl
  |true=>
   rw[if_pos rfl] at he ⊢
   simp only[Option.bind_eq_some_iff] at he
   obtain ⟨⟨v,h1'⟩,he1,he2⟩:=he
   have hca:compAny P compOpd o.op=some m.op:=by
    unfold compOper at h1
    simp only[Option.bind_eq_some_iff] at h1
    obtain ⟨x,hx,h1⟩:=h1
    split at h1
    ·injection h1 with h1; subst h1; exact hx
    ·simp only[Option.map_eq_some_iff] at h1; obtain ⟨d,_,rfl⟩:=h1; exact hx
   refine .inl (operSim hco hme hs hf.evOk hca he1 (λψ v' w' k1 k2 k3=>?_))
   refine regSim hco hme h2 k2 (fr:=put fr m.dst v) ?_ he2 (λχ a' w'' l1 l2 l3 l4=>hQ χ a' w'' l1 (l2.trans ?_) l3 (k3.trans l4))
   ·rw[hd]; exact (hf.mono k3.le).put k1 o.dst
   ·cases o.dst<;>rfl
theorem FR.forget (hf:FR φ fr a):∀(l:List Nat),FR φ (forget fr l) a:=by
 intro l
 induction l generalizing fr with
 |nil=>exact hf
 |cons t l ih=>
  refine ih ?_
  refine VRs.of_get (by simpa using VRs.length hf) (λi x u hx hu=>?_)
  rw[List.getElem?_set] at hx
  split at hx
  ·split at hx
   ·injection hx with hx; subst hx; exact .undef _
   ·cases hx
  ·obtain ⟨v,hv,hr⟩:=VRs.get hf hx
   rw[hu] at hv
   injection hv with hv
   subst hv
   exact hr
def toExit:MExit->Exit
 |.normal=>.normal
 |.exit id=>.exit id
 |.ret=>.ret
theorem c0E {R:Type}(T:Tab)(call:CallF)(k:Nat)(b:Bool)(c:MCode)(fr:Frm)(h:Heap)(K:Kont R):evalC T call k (labIf b c) fr h K=evalC T call k c fr h K:=by
 cases b<;>rfl
theorem codeSim (hco:CallOk P B w0 call)(hme:MethOk P T){F:Hint}{R:Type}{k:Nat}{r:R}:∀{c:Code} {n n':Nat} {m:MCode},compC P F c n=some (m,n')->
  ∀{K:Kont R} {fr:Frm} {h:Heap} {φ:Ren} {w:World} {a:Act} {Q:Exit->Act->World->Prop},evalC T call k m fr h K=some r->FR φ fr a->S B w0 φ h w->
  (∀e fr' h' ψ a' w',K e fr' h'=some r->FR ψ fr' a'->a'.defers=a.defers->S B w0 ψ h' w'->Kept φ h ψ h'->Q (toExit e) a' w')->c.wp P Q a w
 |.skip,n,n',m,hc,K,fr,h,φ,w,a,Q,he,hf,hs,hQ=>by
  injection hc with hc; injection hc with e1 e2; subst e1
  exact wp_skip (hQ .normal _ _ _ _ _ he hf rfl hs (.refl _ _))
 |.region id ops d,n,n',m,hc,K,fr,h,φ,w,a,Q,he,hf,hs,hQ=>by
  cases d with
  |true=>
   simp only[compC] at hc
   split at hc
   ·rename_i hm
    simp only[Option.map_eq_some_iff,Prod.mk.injEq] at hc
    obtain ⟨m',h1,rfl,_⟩:=hc
    exact drawSim hco hme hm h1 he hf hs (λfr' h' ψ a' w' hk k1 k2 k3 k4=>hQ .normal _ _ _ _ _ hk k1 k2 k3 k4)
   ·cases hc
  |false=>
   simp only[compC,Option.map_eq_some_iff,Prod.mk.injEq] at hc
   obtain ⟨ms,h1,rfl,_⟩:=hc
   simp only[evalC,Option.bind_eq_some_iff] at he
   obtain ⟨⟨fr',h'⟩,he1,he2⟩:=he
   exact wp_region_list (regSim hco hme h1 hs hf he1 (λψ a' w' k1 k2 k3 k4=>hQ .normal _ _ _ _ _ he2 k1 k2 k3 k4))
 |.seq x y,n,n',m,hc,K,fr,h,φ,w,a,Q,he,hf,hs,hQ=>by
  simp only[compC,Option.bind_eq_some_iff,Option.map_eq_some_iff,Prod.mk.injEq] at hc
  obtain ⟨⟨x',n1⟩,h1,⟨y',n2⟩,h2,rfl,_⟩:=hc
  simp only[evalC] at he
  refine wp_seq (codeSim hco hme h1 he hf hs (λe fr' h' ψ a' w' hk k1 k2 k3 k4=>?_))
  cases e with
  |normal=>
   simp only[c0E] at hk
   exact codeSim hco hme h2 hk (k1.forget _) k3 (λe fr2 h2 χ a2 w2 hk2 l1 l2 l3 l4=>hQ e _ _ _ _ _ hk2 l1 (l2.trans k2) l3 (k4.trans l4))
  |exit id=>exact hQ _ _ _ _ _ _ hk k1 k2 k3 k4
  |ret=>exact hQ _ _ _ _ _ _ hk k1 k2 k3 k4
 |.cond c x y,n,n',m,hc,K,fr,h,φ,w,a,Q,he,hf,hs,hQ=>by
  simp only[compC,Option.bind_eq_some_iff,Option.map_eq_some_iff,Prod.mk.injEq] at hc
  obtain ⟨c',h0,⟨x',n1⟩,h1,⟨y',n2⟩,h2,rfl,_⟩:=hc
  simp only[evalC] at he
  have hr:=hf.ev h0
  split at he
  ·rename_i e
   rw[e] at hr
   exact wp_cond_true hr.bool_inv (codeSim hco hme h1 he hf hs hQ)
  ·rename_i e
   rw[e] at hr
   exact wp_cond_false hr.bool_inv (codeSim hco hme h2 he hf hs hQ)
  ·cases he
 |.block id c,n,n',m,hc,K,fr,h,φ,w,a,Q,he,hf,hs,hQ=>by
  simp only[compC,Option.map_eq_some_iff,Prod.mk.injEq] at hc
  obtain ⟨⟨c',n1⟩,h1,rfl,_⟩:=hc
  simp only[evalC] at he
  refine wp_block (codeSim hco hme h1 he hf hs (λe fr' h' ψ a' w' hk k1 k2 k3 k4=>?_))
  cases e with
  |normal=>exact hQ .normal _ _ _ _ _ (by simpa using hk) k1 k2 k3 k4
  |exit id'=>
   simp only[toExit,Exit.inBlock]
   by_cases hid:id'=id
   ·subst hid
    rw[if_pos rfl]
    exact hQ .normal _ _ _ _ _ (by simpa using hk) k1 k2 k3 k4
   ·rw[if_neg hid]
    exact hQ (.exit id') _ _ _ _ _ (by simpa [hid] using hk) k1 k2 k3 k4
  |ret=>exact hQ .ret _ _ _ _ _ (by simpa using hk) k1 k2 k3 k4
 |.loop c,n,n',m,hc,K,fr,h,φ,w,a,Q,he,hf,hs,hQ=>by
  simp only[compC,Option.map_eq_some_iff,Prod.mk.injEq] at hc
  obtain ⟨⟨c',n1⟩,h1,rfl,_⟩:=hc
  simp only[evalC] at he
  refine wp_loop_rounds k ?_
  have key:∀(j:Nat) (fr:Frm) (h1':Heap) (φ1:Ren) (w1:World) (a1:Act),loopN (λfr h K=>evalC T call k c' fr h K) (F.F n) j fr h1' K=some r->FR φ1 fr a1->a1.defers=a.defers->S B w0 φ1 h1' w1->Kept φ h φ1 h1'->Code.rounds P c Q j a1 w1:=by
   intro j
   induction j with
   |zero=>intro fr h1' φ1 w1 a1 hl; simp[loopN] at hl
   |succ j ih=>
    intro fr h1' φ1 w1 a1 hl k1 k2 k3 k4
    simp only[loopN] at hl
    rw[rounds_succ]
    refine codeSim hco hme h1 hl k1 k3 (λe fr' h' ψ a' w' hk l1 l2 l3 l4=>?_)
    cases e with
    |normal=>exact ih _ _ _ _ _ hk (l1.forget _) (l2.trans k2) l3 (k4.trans l4)
    |exit id=>exact hQ _ _ _ _ _ _ hk l1 (l2.trans k2) l3 (k4.trans l4)
    |ret=>exact hQ _ _ _ _ _ _ hk l1 (l2.trans k2) l3 (k4.trans l4)
  exact key k _ _ _ _ _ he (hf.forget _) rfl hs (.refl _ _)
 |.exit id,n,n',m,hc,K,fr,h,φ,w,a,Q,he,hf,hs,hQ=>by
  injection hc with hc; injection hc with e1 e2; subst e1
  exact wp_exit (hQ (.exit id) _ _ _ _ _ he hf rfl hs (.refl _ _))
 |.ret,n,n',m,hc,K,fr,h,φ,w,a,Q,he,hf,hs,hQ=>by
  injection hc with hc; injection hc with e1 e2; subst e1
  exact wp_ret (hQ .ret _ _ _ _ _ he hf rfl hs (.refl _ _))
 |.scope _,n,n',m,hc,_,_,_,_,_,_,_,_,_,_,_=>by simp[compC] at hc
 |.label _,n,n',m,hc,_,_,_,_,_,_,_,_,_,_,_=>by simp[compC] at hc
 |.goto _,n,n',m,hc,_,_,_,_,_,_,_,_,_,_,_=>by simp[compC] at hc
 |.refuse _,n,n',m,hc,_,_,_,_,_,_,_,_,_,_,_=>by simp[compC] at hc
 |.rangeFunc ..,n,n',m,hc,_,_,_,_,_,_,_,_,_,_,_=>by simp[compC] at hc
def resSem (tmps:Array Value):ResultVar->Sem Value
 |.tmp t=>pure (tmps.getD t undef)
 |.cell b t=>do loadVar t (<-asAddr (tmps.getD b undef))
theorem b9k (fn:Func)(tmps:Array Value):results fn tmps=(do let vs <-fn.results.mapM (resSem tmps); pure (if h:vs.size=1 then vs[0] else .tuple vs)):=by
 unfold results
 have e:(λr:ResultVar=>match r with
  |.tmp t=>(pure (tmps.getD t undef):Sem Value)
  |.cell a t=>do loadVar t (<-asAddr (tmps.getD a undef)))=resSem tmps:=by
  funext r; cases r<;>rfl
 rw[<-e]
 rfl
theorem resOne (hs:S B w0 φ h w)(hf:FR φ fr a)(hc:compRes P r=some x)(hv:result fr h x=some v) :
  ∃v',(resSem a.tmps r).run P w=.ok v' w/\VR φ v v':=by
 cases r with
 |tmp t=>
  injection hc with hc
  subst hc
  injection hv with hv
  subst hv
  exact ⟨_,rfl,hf.getD t⟩
 |cell b t=>
  simp only[compRes,Option.map_eq_some_iff] at hc
  obtain ⟨n,hn,rfl⟩:=hc
  cases n with
  |none=>
   obtain ⟨ad,v',e,k1,k2⟩:=hs.loadVar hn (hf.getD b) (x:=v) (by exact hv)
   exact ⟨v',by simp only[resSem,e,Sem.run_bind,asAddr,Sem.run_pure,Result.andThen_ok,k1],k2⟩
  |some n=>
   obtain ⟨ad,v',e,k1,k2⟩:=hs.loadVar hn (hf.getD b) (x:=v) (by exact hv)
   exact ⟨v',by simp only[resSem,e,Sem.run_bind,asAddr,Sem.run_pure,Result.andThen_ok,k1],k2⟩
theorem resL (hs:S B w0 φ h w)(hf:FR φ fr a):∀{rs:List ResultVar} {xs:List (Nat × Option (Option Nat))} {vs:List AV},compRess P rs=some xs->resultsL fr h xs=some vs->
  ∃vs',(rs.mapM (resSem a.tmps)).run P w=.ok vs' w/\VRs φ vs vs'
 |[],xs,vs,hc,hv=>by
  injection hc with hc; subst hc
  injection hv with hv; subst hv
  exact ⟨[],rfl,.nil⟩
 |r::rs,xs,vs,hc,hv=>by
  simp only[compRess,Option.bind_eq_some_iff,Option.map_eq_some_iff] at hc
  obtain ⟨x,h1,xs',h2,rfl⟩:=hc
  simp only[resultsL,Option.bind_eq_some_iff,Option.map_eq_some_iff] at hv
  obtain ⟨v,h3,vs',h4,rfl⟩:=hv
  obtain ⟨v',k1,k2⟩:=resOne hs hf h1 h3
  obtain ⟨vs'',k3,k4⟩:=resL hs hf h2 h4
  exact ⟨v'::vs'',by simp only[List.mapM_cons,Sem.run_bind,k1,k3,Result.andThen_ok,Sem.run_pure],.cons k2 k4⟩
theorem b9l (hs:S B w0 φ h w)(hf:FR φ fr a){fn:Func}(hc:compRess P fn.results.toList=some xs)(hv:resultsV fr h xs=some v) :
  ∃v',(results fn a.tmps).run P w=.ok v' w/\VR φ v v':=by
 simp only[resultsV,Option.map_eq_some_iff] at hv
 obtain ⟨vs,h1,rfl⟩:=hv
 obtain ⟨vs',k1,k2⟩:=resL hs hf hc h1
 have hrun:(results fn a.tmps).run P w=.ok (if h:vs'.toArray.size=1 then vs'.toArray[0] else .tuple vs'.toArray) w:=by
  rw[b9k,Array.mapM_eq_mapM_toList]
  simp only[Sem.run_bind,Sem.run_map,k1,Result.andThen_ok,Sem.run_pure]
 refine ⟨_,hrun,?_⟩
 match vs,vs',k2 with
 |[v],[v'],.cons r .nil=>exact r
 |[],[],.nil=>exact .tup .nil
 |x::y::r,x'::y'::r',k2=>
  rw[dif_neg (by simp)]
  exact .tup k2
structure Valid (P:Program) (T:Tab):Prop where
 fn:∀f mf,T.fn f=some mf->∃fn F,P.funcs[f]?=some fn/\compFn P F fn=some mf
 meth:MethOk P T
theorem fnSim (hv:Valid P T):∀k,CallOk P B w0 (evalFn T k)
 |0=>λf args h v h' he=>by simp[evalFn] at he
 |k+1=>λf args h v h' he=>by
  simp only[evalFn] at he
  split at he
  ·rename_i mf hmf
   obtain ⟨fn,F,h1,h2⟩:=hv.fn f mf hmf
   simp only[compFn,Option.bind_eq_some_iff] at h2
   obtain ⟨c,hb,⟨m,n'⟩,hcc,rs,hr,hcf⟩:=h2
   split at hcf
   ·cases hcf
   ·rename_i hname
    injection hcf with hcf
    subst hcf
    refine ⟨⟨fn,h1,by rw[hb]; rfl,by simpa using hname⟩,λφ w args' hargs hs=>?_⟩
    refine calls_of_wp h1 hb ?_
    have hf:FR φ (args++List.replicate (fn.ntmps-args.length) .undef) { tmps:=args'.toArray++Array.replicate (fn.ntmps-args'.toArray.size) undef,defers:=[] }:=by
     unfold FR
     have hl:=hargs.length
     simp only[Array.toList_append,Array.toList_replicate,List.size_toArray,<-hl]
     refine hargs.append (VRs.of_get (by simp) (λi x u hx hu=>?_))
     rw[List.getElem?_replicate] at hx
     split at hx
     ·injection hx with hx; subst hx; exact .undef _
     ·cases hx
    refine codeSim (fnSim hv k) hv.meth hcc he hf hs (λe fr' h'' ψ a' w' hk k1 k2 k3 k4=>?_)
    have fin:∀{fr':Frm},(resultsV fr' h'' rs).map (λv=>(v,h''))=some (v,h')->FR ψ fr' a'->bodyPost P fn (RetOk B w0 φ h v h') .ret a' w':=by
     intro fr' hk1 k1
     simp only[Option.map_eq_some_iff,Prod.mk.injEq] at hk1
     obtain ⟨v2,hk2,e1,e2⟩:=hk1
     subst e1 e2
     obtain ⟨v',r1,r2⟩:=b9l k3 k1 hr hk2
     exact ⟨k2,v',r1,ψ,v',rfl,r2,k3,k4⟩
    cases e with
    |normal=>exact fin hk k1
    |ret=>exact fin hk k1
    |exit id=>cases hk
  ·cases he
end
end Go.Gm
namespace Go.Gm
section
variable {R:Type}
def oa (x:Option AV)(K:AV->Option R):Option R:=match x with|some v=>K v|none=>none
def oh (x:Option Heap)(K:Heap->Option R):Option R:=match x with|some h=>K h|none=>none
def ob (x:Option (AV × Heap))(K:AV->Heap->Option R):Option R:=match x with|some p=>K p.1 p.2|none=>none
@[simp] theorem b0N (v:AV) (K:AV->Option R):oa (some v) K=K v:=rfl
@[simp] theorem a8B (h:Heap) (K:Heap->Option R):oh (some h) K=K h:=rfl
@[simp] theorem b0O (v:AV) (h:Heap) (K:AV->Heap->Option R):ob (some (v,h)) K=K v h:=rfl
theorem a4v (x:Option (AV × Heap))(K:AV->Heap->Option R):ob x K=x.bind λp=>K p.1 p.2:=by cases x<;>rfl
theorem b3D (x:Option AV)(h:Heap)(K:AV->Heap->Option R):(oa x λv=>K v h)=(pure1 h x).bind λp=>K p.1 p.2:=by cases x<;>rfl
def pickV (c a b:AV):Option AV:=(bool? c).map λt=>if t then a else b
def callVal (call:CallF)(x:AV)(args:List AV)(h:Heap):Option (AV × Heap):=match x with
 |.fn f a b=>call f (a++args++b) h
 |_=>none
def callMeth (T:Tab)(call:CallF)(nm:String)(x:AV)(args:List AV)(h:Heap):Option (AV × Heap):=match x with
 |.ifc t (.ptr o off hi g)=>match T.meth t nm with
  |some f=>call f (.ptr o off hi g::args) h
  |none=>none
 |_=>none
abbrev evalMK (op:MOp)(fr:Frm)(h:Heap)(K:AV->Heap->Option R):Option R:=
 match op with
 |.mv x=>K (x.ev fr) h
 |.pick c a b=>oa (pickV (c.ev fr) (a.ev fr) (b.ev fr)) λv=>K v h
 |.alloc z=>ob (newVar h z) K
 |.box x=>ob (newVar h (x.ev fr).cells) K
 |.build z ps=>oa (buildV z (ps.map λp=>(p.1,p.2.1,p.2.2.ev fr))) λv=>K v h
 |.buildSlice sz len z ps=>ob (buildSl sz len z (ps.map λp=>(p.1,p.2.1,p.2.2.ev fr)) h) K
 |.load none a=>oa (ld1 h (a.ev fr)) λv=>K v h
 |.load (some n) a=>oa (ldN n h (a.ev fr)) λv=>K v h
 |.store n a x=>oh (stN n h (a.ev fr) (x.ev fr)) λh'=>K .undef h'
 |.nilCheck x=>oa (nilCk (x.ev fr)) λv=>K v h
 |.bin op ek x y=>oa (binV op ek (x.ev fr) (y.ev fr)) λv=>K v h
 |.un op x=>oa (unV op (x.ev fr)) λv=>K v h
 |.convI k x=>oa (convV k (x.ev fr)) λv=>K v h
 |.b2s x=>oa (b2sV h (x.ev fr)) λv=>K v h
 |.mkIfc t x=>K (.ifc t (x.ev fr)) h
 |.mkFn f a b=>K (.fn f (a.map λx=>x.ev fr) (b.map λx=>x.ev fr)) h
 |.mkSlice z sz by_ l c=>ob (mkSl z sz by_ (l.ev fr) (c.ev fr) h) K
 |.sliceStr x lo hi=>oa (slStr (x.ev fr) (lo.map λx=>x.ev fr) (hi.map λx=>x.ev fr)) λv=>K v h
 |.sliceSl sz x lo hi mx=>oa (slSl sz (x.ev fr) (lo.map λx=>x.ev fr) (hi.map λx=>x.ev fr) (mx.map λx=>x.ev fr)) λv=>K v h
 |.fieldAddr d x=>oa (fldA d (x.ev fr)) λv=>K v h
 |.field d n x=>oa (fldV d n (x.ev fr)) λv=>K v h
 |.idxArr n sz x i=>oa (idxA n sz (x.ev fr) (i.ev fr)) λv=>K v h
 |.idxSl sz x i=>oa (idxS sz (x.ev fr) (i.ev fr)) λv=>K v h
 |.ixArr n sz m x i=>oa (ixA n sz m (x.ev fr) (i.ev fr)) λv=>K v h
 |.ixStr x i=>oa (ixS (x.ev fr) (i.ev fr)) λv=>K v h
 |.typeAssert t z ok x=>oa (tAssert t z ok (x.ev fr)) λv=>K v h
 |.extract i x=>oa (extr i (x.ev fr)) λv=>K v h
 |.append sz by_ s x=>ob (apnd sz by_ (s.ev fr) (x.ev fr) h) K
 |.lookup ks z ok x k=>oa (lookM ks z ok h (x.ev fr) (k.ev fr)) λv=>K v h
 |.mapUpd ks x k v=>oh (updM ks h (x.ev fr) (k.ev fr) (v.ev fr)) λh'=>K .undef h'
 |.lenSl x=>oa (lenS (x.ev fr)) λv=>K v h
 |.lenStr x=>oa (lenB (x.ev fr)) λv=>K v h
 |.mm mx x y=>oa (mmV mx (x.ev fr) (y.ev fr)) λv=>K v h
 |op=>ob (evalM op fr h) K
theorem c0M (op:MOp)(fr:Frm)(h:Heap)(K:AV->Heap->Option R):evalMK op fr h K=(evalM op fr h).bind λp=>K p.1 p.2:=by
 cases op with
 |load n a=>cases n<;>simp only[evalMK,evalM,b3D]
 |pick c a b=>simp only[evalMK,evalM,b3D,pickV]
 |store n a x=>simp only[evalMK,evalM]; cases stN n h (a.ev fr) (x.ev fr)<;>rfl
 |mapUpd ks x k v=>simp only[evalMK,evalM]; cases updM ks h (x.ev fr) (k.ev fr) (v.ev fr)<;>rfl
 |mv x=>rfl
 |mkIfc t x=>rfl
 |mkFn f a b=>rfl
 |_=>first|exact b3D _ _ _|(simp only[evalMK,evalM,a4v]; done)|(simp only[evalMK,a4v]; done)|(simp only[evalMK,evalM,a4v]; rfl)
abbrev evalOK (T:Tab)(call:CallF)(op:MAny)(fr:Frm)(h:Heap)(K:AV->Heap->Option R):Option R:=
 match op with
 |.call f xs=>ob (call f (xs.map λx=>x.ev fr) h) K
 |.callV x xs=>ob (callVal call (x.ev fr) (xs.map λx=>x.ev fr) h) K
 |.invoke nm x xs=>ob (callMeth T call nm (x.ev fr) (xs.map λx=>x.ev fr) h) K
 |.op m=>evalMK m fr h K
theorem b2k (T:Tab)(call:CallF)(op:MAny)(fr:Frm)(h:Heap)(K:AV->Heap->Option R):evalOK T call op fr h K=(evalO T call op fr h).bind λp=>K p.1 p.2:=by
 cases op with
 |op m=>exact c0M m fr h K
 |call f xs=>simp only[evalOK,evalO,a4v]
 |callV x xs=>
  simp only[evalOK,evalO,a4v,callVal]
  generalize x.ev fr=y
  cases y<;>rfl
 |invoke nm x xs=>
  simp only[evalOK,evalO,a4v,callMeth]
  generalize x.ev fr=y
  cases y with
  |ifc t v=>cases v<;>first|rfl|(simp only; cases T.meth t nm<;>rfl)
  |_=>rfl
def gd (g:AV)(b:Bool)(x:Option (AV × Heap))(h:Heap):Option (AV × Heap):=match g with
 |.bool c=>if c == b then x else some (.tup [],h)
 |.tup []=>some (.tup [],h)
 |_=>none
theorem gd_eq (fr:Frm)(d:Nat)(b:Bool)(x:Option (AV × Heap))(h:Heap)(K:AV->Heap->Option R) :
  ob (gd (fr.getD d .undef) b x h) K=(want fr (some (d,b))).bind λw=>if w then x.bind λp=>K p.1 p.2 else K (.tup []) h:=by
 try simp only[want]
 generalize fr.getD d .undef=g
 cases g with
 |bool c=>cases c<;>cases b<;>simp[gd,a4v]
 |tup l=>cases l<;>simp[gd,a4v]
 |_=>simp[gd,a4v]
abbrev evalRK (T:Tab)(call:CallF):List MOper->Frm->Heap->(Frm->Heap->Option R)->Option R
 |[],fr,h,K=>K fr h
 |⟨dst,op,none⟩::r,fr,h,K=>evalOK T call op fr h λv h'=>evalRK T call r (put fr dst v) h' K
 |⟨dst,op,some g⟩::r,fr,h,K=>ob (gd (fr.getD g.1 .undef) g.2 (evalO T call op fr h) h) λv h'=>evalRK T call r (put fr dst v) h' K
theorem a9P (T:Tab)(call:CallF):∀(l:List MOper) (fr:Frm) (h:Heap) (K:Frm->Heap->Option R),evalRK T call l fr h K=(evalR T call l fr h).bind λp=>K p.1 p.2
 |[],fr,h,K=>rfl
 |⟨dst,op,none⟩::r,fr,h,K=>by
  simp only[evalRK,evalR,b2k,want,Option.bind_some,if_true,Option.bind_assoc]
  congr 1
  funext p
  exact a9P T call r _ _ K
 |⟨dst,op,some (d,b)⟩::r,fr,h,K=>by
  simp only[evalRK,evalR,gd_eq,Option.bind_assoc]
  congr 1
  funext w
  cases w with
  |false=>simp only[Bool.false_eq_true,if_false]; exact a9P T call r _ _ K
  |true=>
   simp only[if_true,Option.bind_assoc]
   congr 1
   funext p
   exact a9P T call r _ _ K
def sameB (x:Option (AV × Heap))(v:AV):Bool:=match x with
 |some u=>u.1.beq v
 |none=>false
def gdB (g:AV)(b:Bool)(x:Bool):Bool:=match g with
 |.bool c=>if c == b then x else true
 |.tup []=>true
 |_=>false
def againK (fr:Frm)(h:Heap):List (Nat × MOper)->Bool
 |[]=>true
 |(j,⟨_,.op m,none⟩)::r=>sameB (evalM m fr h) (fr.getD j .undef) && againK fr h r
 |(j,⟨_,.op m,some g⟩)::r=>gdB (fr.getD g.1 .undef) g.2 (sameB (evalM m fr h) (fr.getD j .undef)) && againK fr h r
 |p::r=>againB fr h p && againK fr h r
theorem a4m (fr:Frm)(h:Heap):∀l,againK fr h l=l.all (againB fr h)
 |[]=>rfl
 |(j,⟨_,.op m,none⟩)::r=>by
  simp only[againK,List.all_cons,a4m fr h r,againB,want,sameB]
  cases evalM m fr h<;>rfl
 |(j,⟨_,.op m,some (d,b)⟩)::r=>by
  simp only[againK,List.all_cons,a4m fr h r,againB,want,sameB]
  congr 1
  generalize fr.getD d .undef=g
  unfold gdB
  cases g with
  |bool c=>cases c<;>cases b<;>rfl
  |tup l=>cases l<;>rfl
  |_=>rfl
 |(j,⟨_,.call f a,_⟩)::r=>by simp only[againK,List.all_cons,a4m fr h r]
 |(j,⟨_,.callV f a,_⟩)::r=>by simp only[againK,List.all_cons,a4m fr h r]
 |(j,⟨_,.invoke n f a,_⟩)::r=>by simp only[againK,List.all_cons,a4m fr h r]
def chk (b:Bool)(x:Option R):Option R:=if b then x else none
@[simp] theorem b3E (x:Option R):chk true x=x:=rfl
abbrev evalDK (T:Tab)(call:CallF):List DItem->Frm->Heap->(Frm->Heap->Option R)->Option R
 |[],fr,h,K=>K fr h
 |⟨_,⟨dst,op,none⟩,[]⟩::r,fr,h,K=>evalOK T call op fr h λv h'=>evalDK T call r (put fr dst v) h' K
 |⟨_,⟨dst,op,none⟩,ag⟩::r,fr,h,K=>evalOK T call op fr h λv h'=>chk (againK (put fr dst v) h' ag) (evalDK T call r (put fr dst v) h' K)
 |⟨_,⟨dst,op,some g⟩,[]⟩::r,fr,h,K=>ob (gd (fr.getD g.1 .undef) g.2 (evalO T call op fr h) h) λv h'=>evalDK T call r (put fr dst v) h' K
 |⟨_,⟨dst,op,some g⟩,ag⟩::r,fr,h,K=>ob (gd (fr.getD g.1 .undef) g.2 (evalO T call op fr h) h) λv h'=>chk (gdB (fr.getD g.1 .undef) g.2 (againK (put fr dst v) h' ag)) (evalDK T call r (put fr dst v) h' K)
theorem a4n (T:Tab)(call:CallF):∀(l:List DItem) (fr:Frm) (h:Heap) (K:Frm->Heap->Option R),evalDK T call l fr h K=(evalD T call l fr h).bind λp=>K p.1 p.2
 |[],fr,h,K=>rfl
 |⟨_,⟨dst,op,none⟩,[]⟩::r,fr,h,K=>by
  simp only[evalDK,evalD,b2k,want,Option.bind_some,if_true,Option.bind_assoc,List.all_nil]
  congr 1
  funext p
  exact a4n T call r _ _ K
 |⟨_,⟨dst,op,none⟩,x::ag⟩::r,fr,h,K=>by
  simp only[evalDK,evalD,b2k,want,Option.bind_some,if_true,Option.bind_assoc,a4m]
  congr 1
  funext p
  unfold chk
  split
  ·exact a4n T call r _ _ K
  ·rfl
 |⟨_,⟨dst,op,some (d,b)⟩,[]⟩::r,fr,h,K=>by
  simp only[evalDK,evalD,gd_eq,Option.bind_assoc,List.all_nil,if_true]
  congr 1
  funext w
  cases w with
  |false=>simp only[Bool.false_eq_true,if_false]; exact a4n T call r _ _ K
  |true=>
   simp only[if_true,Option.bind_assoc]
   congr 1
   funext p
   exact a4n T call r _ _ K
 |⟨_,⟨dst,op,some (d,b)⟩,x::ag⟩::r,fr,h,K=>by
  simp only[evalDK,evalD,gd_eq,Option.bind_assoc,a4m]
  cases hw:want fr (some (d,b)) with
  |none=>rfl
  |some w=>
   have hg:∀y,gdB (fr.getD d .undef) b y=if w then y else true:=by
    intro y
    simp only[want] at hw
    generalize fr.getD d .undef=g at hw
    unfold gdB
    cases g with
    |bool c=>injection hw with hw; subst hw; cases c<;>cases b<;>rfl
    |tup l=>cases l with
     |nil=>injection hw with hw; subst hw; rfl
     |cons _ _=>cases hw
    |_=>cases hw
   simp only[Option.bind_some,hg]
   cases w with
   |false=>simp only[Bool.false_eq_true,if_false,b3E]; exact a4n T call r _ _ K
   |true=>
    simp only[if_true,Option.bind_assoc]
    congr 1
    funext p
    unfold chk
    split
    ·exact a4n T call r _ _ K
    ·rfl
abbrev seqK (g:Frm->Heap->Kont R->Option R)(fgt:List Nat)(K:Kont R):Kont R:=λe fr h=>match e with
 |.normal=>g (forget fr fgt) h K
 |e=>K e fr h
abbrev blockK (id:Nat)(K:Kont R):Kont R:=λe fr h=>K (if e=.exit id then .normal else e) fr h
def loopK (B:Frm->Heap->Kont R->Option R)(fgt:List Nat):Nat->Frm->Heap->Kont R->Option R
 |0,_,_,_=>none
 |k+1,fr,h,K=>B fr h (seqK (λfr' h' K'=>loopK B fgt k fr' h' K') fgt K)
def cond2 (c:AV)(a b:Option R):Option R:=match c with
 |.bool true=>a
 |.bool false=>b
 |_=>none
@[simp] theorem a2L (a b:Option R):cond2 (.bool true) a b=a:=rfl
@[simp] theorem a1M (a b:Option R):cond2 (.bool false) a b=b:=rfl
abbrev lenIs (fr:Frm)(n:Nat)(x:Option R):Option R:=if fr.length=n then x else none
def evalCK (T:Tab)(call:CallF)(k:Nat):MCode->Frm->Heap->Kont R->Option R
 |.skip,fr,h,K=>K .normal fr h
 |.region ops,fr,h,K=>evalRK T call ops fr h (K .normal)
 |.regionD N items outs,fr,h,K=>lenIs fr N (evalDK T call items (fr++List.replicate items.length .undef) h λfrE h'=>K .normal (outFr fr frE outs) h')
 |.seq fgt a b,fr,h,K=>evalCK T call k a fr h (seqK (λfr h K=>evalCK T call k b fr h K) fgt K)
 |.cond c a b,fr,h,K=>cond2 (c.ev fr) (evalCK T call k a fr h K) (evalCK T call k b fr h K)
 |.block id c,fr,h,K=>evalCK T call k c fr h (blockK id K)
 |.loop fgt c,fr,h,K=>loopK (λfr h K=>evalCK T call k c fr h K) fgt k (forget fr fgt) h K
 |.exit id,fr,h,K=>K (.exit id) fr h
 |.ret,fr,h,K=>K .ret fr h
 |.bad,_,_,_=>none
 |.lab c,fr,h,K=>evalCK T call k c fr h K
theorem b6Q {B B':Frm->Heap->Kont R->Option R}(hB:∀fr h K,B fr h K=B' fr h K)(fgt:List Nat):∀k fr h K,loopK B fgt k fr h K=loopN B' fgt k fr h K
 |0,_,_,_=>rfl
 |k+1,fr,h,K=>by
  simp only[loopK,loopN,hB]
  congr 1
  funext e fr' h'
  cases e<;>simp only[seqK]
  exact b6Q hB fgt k _ _ _
theorem a2C (T:Tab)(call:CallF)(k:Nat):∀(c:MCode) (fr:Frm) (h:Heap) (K:Kont R),evalCK T call k c fr h K=evalC T call k c fr h K
 |.skip,_,_,_=>rfl
 |.region ops,fr,h,K=>a9P T call ops fr h _
 |.regionD N items outs,fr,h,K=>by
  simp only[evalCK,evalC,a4n,lenIs]
 |.seq fgt a b,fr,h,K=>by
  simp only[evalCK,evalC]
  rw[a2C T call k a]
  congr 1
  funext e fr' h'
  cases e<;>simp only[seqK]
  exact a2C T call k b _ _ _
 |.cond c a b,fr,h,K=>by
  simp only[evalCK,evalC,a2C T call k a,a2C T call k b]
  generalize c.ev fr=y
  cases y with
  |bool b=>cases b<;>rfl
  |_=>rfl
 |.block id c,fr,h,K=>by
  simp only[evalCK,evalC]
  exact a2C T call k c _ _ _
 |.loop fgt c,fr,h,K=>by
  simp only[evalCK,evalC]
  exact b6Q (λfr h K=>a2C T call k c fr h K) fgt k _ _ _
 |.exit _,_,_,_=>rfl
 |.ret,_,_,_=>rfl
 |.bad,_,_,_=>rfl
 |.lab c,fr,h,K=>by
  simp only[evalCK,evalC]
  exact a2C T call k c _ _ _
end
def tupOf:List AV->AV
 |[v]=>v
 |vs=>.tup vs
abbrev resultsK {R:Type}(fr:Frm)(h:Heap):List (Nat × Option (Option Nat))->(List AV->Option R)->Option R
 |[],K=>K []
 |(t,none)::rs,K=>resultsK fr h rs λvs=>K (fr.getD t .undef::vs)
 |(t,some none)::rs,K=>oa (ld1 h (fr.getD t .undef)) λv=>resultsK fr h rs λvs=>K (v::vs)
 |(t,some (some n))::rs,K=>oa (ldN n h (fr.getD t .undef)) λv=>resultsK fr h rs λvs=>K (v::vs)
theorem a6Y {R:Type}(fr:Frm)(h:Heap):∀(rs:List (Nat × Option (Option Nat))) (K:List AV->Option R),resultsK fr h rs K=(resultsL fr h rs).bind K
 |[],K=>rfl
 |(t,none)::rs,K=>by
  simp only[resultsK,resultsL,result,a6Y fr h rs,Option.bind_some]
  cases resultsL fr h rs<;>rfl
 |(t,some none)::rs,K=>by
  simp only[resultsK,resultsL,result,a6Y fr h rs]
  cases ld1 h (fr.getD t .undef) with
  |none=>rfl
  |some v=>simp only[b0N,Option.bind_some]; cases resultsL fr h rs<;>rfl
 |(t,some (some n))::rs,K=>by
  simp only[resultsK,resultsL,result,a6Y fr h rs]
  cases ldN n h (fr.getD t .undef) with
  |none=>rfl
  |some v=>simp only[b0N,Option.bind_some]; cases resultsL fr h rs<;>rfl
abbrev resK (rs:List (Nat × Option (Option Nat))):Kont (AV × Heap):=λe fr h=>match e with
 |.exit _=>none
 |_=>resultsK fr h rs λvs=>some (tupOf vs,h)
theorem c4c (fn:MFn):resK fn.results=kend fn:=by
 funext e fr h
 have key:(resultsK fr h fn.results λvs=>some (tupOf vs,h))=(resultsV fr h fn.results).map λv=>(v,h):=by
  rw[a6Y,resultsV]
  cases resultsL fr h fn.results with
  |none=>rfl
  |some vs=>
   simp only[Option.bind_some,Option.map_some]
   congr 2
 cases e with
 |normal=>exact key
 |ret=>exact key
 |exit _=>rfl
def runF (T:Tab)(k:Nat)(mf:MFn)(args:List AV)(h:Heap):Option (AV × Heap):=
 evalCK T (evalFn T k) k mf.body (args++List.replicate (mf.ntmps-args.length) .undef) h (resK mf.results)
theorem b9p {T:Tab}(hf:T.fn f=some mf)(k:Nat)(args:List AV)(h:Heap):evalFn T (k+1) f args h=runF T k mf args h:=by
 simp only[evalFn,hf,runF,a2C,c4c]
inductive SF where
 |seq (fgt:List Nat) (b:MCode)
 |blk (id:Nat)
 |lp (j:Nat) (fgt:List Nat) (c:MCode)
abbrev Res:=List (Nat × Option (Option Nat))
def kontOf (T:Tab)(k:Nat)(rs:Res):List SF->Kont (AV × Heap)
 |[]=>resK rs
 |.seq fgt b::s=>seqK (λfr h K=>evalCK T (evalFn T k) k b fr h K) fgt (kontOf T k rs s)
 |.blk id::s=>blockK id (kontOf T k rs s)
 |.lp j fgt c::s=>seqK (λfr' h' K'=>loopK (λfr h K=>evalCK T (evalFn T k) k c fr h K) fgt j fr' h' K') fgt (kontOf T k rs s)
def evB (T:Tab)(k:Nat)(rs:Res)(c:MCode)(s:List SF)(fr:Frm)(h:Heap):Option (AV × Heap):=evalCK T (evalFn T k) k c fr h (kontOf T k rs s)
def loopB (T:Tab)(k:Nat)(rs:Res)(j:Nat)(fgt:List Nat)(c:MCode)(s:List SF)(fr:Frm)(h:Heap):Option (AV × Heap):=
 loopK (λfr h K=>evalCK T (evalFn T k) k c fr h K) fgt j fr h (kontOf T k rs s)
theorem b9q (T:Tab)(k:Nat)(rs:Res)(j:Nat)(fgt:List Nat)(c:MCode)(s:List SF)(fr:Frm)(h:Heap):loopB T k rs (j+1) fgt c s fr h=evB T k rs c (.lp j fgt c::s) fr h:=rfl
abbrev popS (T:Tab)(k:Nat)(rs:Res)(ev:MCode->List SF->Frm->Heap->Option (AV × Heap))(e:MExit):List SF->Frm->Heap->Option (AV × Heap)
 |[],fr,h=>resK rs e fr h
 |.seq fgt b::s,fr,h=>match e with
  |.normal=>ev b s (forget fr fgt) h
  |.exit id=>popS T k rs ev (.exit id) s fr h
  |.ret=>popS T k rs ev .ret s fr h
 |.blk id::s,fr,h=>popS T k rs ev (if e=.exit id then .normal else e) s fr h
 |.lp j fgt c::s,fr,h=>match e with
  |.normal=>loopB T k rs j fgt c s (forget fr fgt) h
  |.exit id=>popS T k rs ev (.exit id) s fr h
  |.ret=>popS T k rs ev .ret s fr h
abbrev evS (T:Tab)(k:Nat)(rs:Res):Nat->MCode->List SF->Frm->Heap->Option (AV × Heap)
 |0,c,s,fr,h=>evB T k rs c s fr h
 |n+1,c,s,fr,h=>match c with
  |.skip=>popS T k rs (evS T k rs n) .normal s fr h
  |.region ops=>evalRK T (evalFn T k) ops fr h λfr' h'=>popS T k rs (evS T k rs n) .normal s fr' h'
  |.regionD N items outs=>lenIs fr N (evalDK T (evalFn T k) items (fr++List.replicate items.length .undef) h λfrE h'=>popS T k rs (evS T k rs n) .normal s (outFr fr frE outs) h')
  |.seq fgt a b=>evS T k rs n a (.seq fgt b::s) fr h
  |.cond c a b=>cond2 (c.ev fr) (evS T k rs n a s fr h) (evS T k rs n b s fr h)
  |.block id c=>evS T k rs n c (.blk id::s) fr h
  |.loop fgt c=>loopB T k rs k fgt c s (forget fr fgt) h
  |.exit id=>popS T k rs (evS T k rs n) (.exit id) s fr h
  |.ret=>popS T k rs (evS T k rs n) .ret s fr h
  |.bad=>none
  |.lab c=>evB T k rs c s fr h
theorem a8C (T:Tab)(k:Nat)(rs:Res){ev:MCode->List SF->Frm->Heap->Option (AV × Heap)}(hev:∀c s fr h,ev c s fr h=evB T k rs c s fr h):∀(s:List SF) (e:MExit) (fr:Frm) (h:Heap),popS T k rs ev e s fr h=kontOf T k rs s e fr h
 |[],e,fr,h=>rfl
 |.seq fgt b::s,e,fr,h=>by
  cases e<;>simp only[popS,kontOf,seqK]
  ·exact hev _ _ _ _
  ·exact a8C T k rs hev s _ fr h
  ·exact a8C T k rs hev s _ fr h
 |.blk id::s,e,fr,h=>by
  simp only[popS,kontOf,blockK]
  exact a8C T k rs hev s _ fr h
 |.lp j fgt c::s,e,fr,h=>by
  cases e<;>simp only[popS,kontOf,seqK]
  ·rfl
  ·exact a8C T k rs hev s _ fr h
  ·exact a8C T k rs hev s _ fr h
theorem a4V (T:Tab)(k:Nat)(rs:Res):∀(n:Nat) (c:MCode) (s:List SF) (fr:Frm) (h:Heap),evS T k rs n c s fr h=evB T k rs c s fr h
 |0,_,_,_,_=>rfl
 |n+1,c,s,fr,h=>by
  have hp:=a8C T k rs (a4V T k rs n)
  cases c with
  |skip=>exact hp s _ fr h
  |region ops=>
   simp only[evS,evB,evalCK,hp]
  |regionD N items outs=>simp only[evS,evB,evalCK,hp]
  |seq fgt a b=>simp only[evS,a4V T k rs n]; rfl
  |cond c a b=>simp only[evS,a4V T k rs n]; rfl
  |block id c=>simp only[evS,a4V T k rs n]; rfl
  |loop fgt c=>rfl
  |exit id=>exact hp s _ fr h
  |ret=>exact hp s _ fr h
  |bad=>rfl
  |lab c=>rfl
abbrev fuelS:Nat:=1000000
end Go.Gm
namespace Go.Gm
class Fuel (ι:Type) where
 big:Nat->ι->Prop
 mono:∀{N M:Nat} {i:ι},N<=M->big M i->big N i
 k:ι->Nat
 k_big:∀{N:Nat} {i:ι},big N i->N<=k i
instance:Fuel Nat:=⟨λN k=>N<=k,λh k=>Nat.le_trans h k,λk=>k,λh=>h⟩
instance {ι:Type} [Fuel ι]:Fuel (ι × Nat):=⟨λN p=>Fuel.big N p.1/\N<=p.2,λh k=>⟨Fuel.mono h k.1,Nat.le_trans h k.2⟩,λp=>Fuel.k p.1,λh=>Fuel.k_big h.1⟩
section
variable {ι:Type} [Fuel ι]
def WP (c:ι->Option (AV × Heap))(Q:AV->Heap->Prop):Prop:=∃v h,Q v h/\∃N,∀i,Fuel.big N i->c i=some (v,h)
def Tot (T:Tab)(f:FuncId)(args:List AV)(h:Heap)(Q:AV->Heap->Prop):Prop:=∃v h',Q v h'/\∃N,∀k,N<=k->evalFn T k f args h=some (v,h')
theorem WP.ret {Q:AV->Heap->Prop}(hq:Q v h):WP (λ_:ι=>some (v,h)) Q:=⟨v,h,hq,0,λ_ _=>rfl⟩
theorem WP.mono {c:ι->Option (AV × Heap)}{Q Q':AV->Heap->Prop}(hc:WP c Q)(hq:∀v h,Q v h->Q' v h):WP c Q':=
 let ⟨v,h,h1,h2⟩:=hc
 ⟨v,h,hq v h h1,h2⟩
theorem WP.congr {c d:ι->Option (AV × Heap)}(he:∀i,c i=d i)(hd:WP d Q):WP c Q:=
 let ⟨v,h,h1,N,h2⟩:=hd
 ⟨v,h,h1,N,λi hi=>(he i).trans (h2 i hi)⟩
theorem WP.oa {x:Option AV}{K:ι->AV->Option (AV × Heap)}(hx:x=some v)(hk:WP (λi=>K i v) Q):WP (λi=>Gm.oa x (K i)) Q:=by
 subst hx; exact hk
theorem WP.oh {x:Option Heap}{K:ι->Heap->Option (AV × Heap)}(hx:x=some v)(hk:WP (λi=>K i v) Q):WP (λi=>Gm.oh x (K i)) Q:=by
 subst hx; exact hk
theorem WP.ob {x:Option (AV × Heap)}{v:AV}{h:Heap}{K:ι->AV->Heap->Option (AV × Heap)}(hx:x=some (v,h))(hk:WP (λi=>K i v h) Q):WP (λi=>Gm.ob x (K i)) Q:=by
 subst hx; exact hk
theorem WP.call {K:ι->AV->Heap->Option (AV × Heap)}(hf:Tot T f args h Q')(hk:∀v h',Q' v h'->WP (λi=>K i v h') Q) :
  WP (λi=>Gm.ob (evalFn T (Fuel.k i) f args h) (K i)) Q:=by
 obtain ⟨v,h',hq,N,hN⟩:=hf
 obtain ⟨v2,h2,hq2,M,hM⟩:=hk v h' hq
 refine ⟨v2,h2,hq2,max N M,λi hi=>?_⟩
 show Gm.ob (evalFn T (Fuel.k i) f args h) (K i)=some (v2,h2)
 rw[hN _ (Nat.le_trans (Nat.le_max_left N M) (Fuel.k_big hi))]
 exact hM i (Fuel.mono (Nat.le_max_right N M) hi)
theorem WP.enter {L:ι->Nat->Option (AV × Heap)}(hl:WP (λp:ι × Nat=>L p.1 p.2) Q):WP (λi=>L i (Fuel.k i)) Q:=by
 obtain ⟨v,h,hq,N,hN⟩:=hl
 exact ⟨v,h,hq,N,λi hi=>hN (i,Fuel.k i) ⟨hi,Fuel.k_big hi⟩⟩
theorem WP.round {L d:ι->Nat->Option (AV × Heap)}(he:∀i j,L i (j+1)=d i j)(hl:WP (λp:ι × Nat=>d p.1 p.2) Q):WP (λp:ι × Nat=>L p.1 p.2) Q:=by
 obtain ⟨v,h,hq,N,hN⟩:=hl
 refine ⟨v,h,hq,N+1,λp hp=>?_⟩
 obtain ⟨i,j⟩:=p
 obtain ⟨h1,h2⟩:=hp
 obtain ⟨j,rfl⟩:∃j',j=j'+1:=⟨j-1,by simp at h2; omega⟩
 exact (he i j).trans (hN (i,j) ⟨Fuel.mono (Nat.le_succ N) h1,by simp at h2; exact h2⟩)
theorem WP.leave (hc:WP c Q):WP (λp:ι × Nat=>c p.1) Q:=by
 obtain ⟨v,h,hq,N,hN⟩:=hc
 exact ⟨v,h,hq,N,λp hp=>hN p.1 hp.1⟩
theorem WP.tot {c:Nat->Option (AV × Heap)}(he:∀k,evalFn T (k+1) f args h=c k)(hc:WP c Q):Tot T f args h Q:=by
 obtain ⟨v,h',hq,N,hN⟩:=hc
 refine ⟨v,h',hq,N+1,λk hk=>?_⟩
 obtain ⟨k,rfl⟩:∃k',k=k'+1:=⟨k-1,oM⟩
 exact (he k).trans (hN k (by exact Nat.le_of_succ_le_succ hk))
theorem Tot.mono {Q Q':AV->Heap->Prop}(hc:Tot T f args h Q)(hq:∀v h,Q v h->Q' v h):Tot T f args h Q':=
 let ⟨v,h,h1,h2⟩:=hc
 ⟨v,h,hq v h h1,h2⟩
end
end Go.Gm
