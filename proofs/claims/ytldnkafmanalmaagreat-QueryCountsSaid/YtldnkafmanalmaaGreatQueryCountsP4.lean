/- A part of the proof (GmAZe6, GmAZe7, GmAZT, GmAZP, GmAZQ, GmAZN, GmAZM, GmAZA). -/
import Derived.Test.YtldnkafmanalmaaGreatQueryCountsP3
set_option autoImplicit true
set_option relaxedAutoImplicit true
set_option linter.unusedVariables false
set_option linter.unusedSimpArgs false
set_option linter.unusedSectionVars false
namespace Go.Gm.AZ
open Go Go.Gm
noncomputable section
variable (k j0 j1 j2 j3:Nat) (a b c d e f g i l m:AV) (h:Heap)
def a5T:=bk tab tbl a7p 0 [j0] [a,b,c,d] h k
theorem b1E:a5T k (j0+1) a b c d h =
 oa (binV .lss .scalar d c) λe=>cond2 e
 (
 oa (idxS 4 b d) λf=>oa (ldN 4 h f) λg=>ob (newVar h [I 0,I 0,I 0,I 0]) λi l=>oh (stN 4 l i g) λm=>oa (fldA 0 i) λn=>oa (ld1 m n) λo=>ob (evalFn tab k a4j [a,o] m) λp q=>ob (gd p true (some (a,q)) q) λr s=>ob (gd p true (pure1 s (fldA 1 i)) s) λt u=>ob (gd p true (pure1 u (ld1 u t)) u) λv w=>ob (gd p true (evalFn tab k a4j [r,v] w) w) λx y=>oa (pickV p x (.bool false)) λz=>cond2 z
 (
 oa (nilCk a) λaa=>oa (fldA 2 aa) λab=>oa (ld1 y ab) λac=>oa (fldA 0 i) λad=>oa (ld1 y ad) λae=>oa (idxS 2 ac ae) λaf=>oa (fldA 1 i) λag=>oa (ld1 y ag) λai=>ob (evalFn tab k a4t [af,d,ai] y) λal am=>oa (nilCk a) λan=>oa (fldA 3 an) λao=>oa (ld1 am ao) λap=>oa (fldA 1 i) λaq=>oa (ld1 am aq) λar=>oa (idxS 2 ap ar) λau=>oa (fldA 0 i) λav=>oa (ld1 am av) λaw=>ob (evalFn tab k a4t [au,d,aw] am) λax ay=>oa (binV .add .scalar d (I 1)) λaz=>a5T k j0 a b c az ay
 )
 (
 oa (binV .add .scalar d (I 1)) λa0=>a5T k j0 a b c a0 y
 )
 )
 (
 some (a,h)
 ):=bkEq
theorem b8Z:evalFn tab (k+1) a7p [a] h =
 ob (newVar h (AV.cells a)) λb c=>oa (fldA 0 b) λd=>oa (ld1 c d) λe=>oa (mmV true e (I 0)) λf=>ob (mkSl [.nils,.nils] 2 48 f f c) λg i=>oa (fldA 0 b) λl=>oa (ld1 i l) λm=>oa (mmV true m (I 0)) λn=>ob (mkSl [.nils,.nils] 2 48 n n i) λo p=>oa (buildV [I 0,.nils,.nils,.nils] [(2,1,g),(3,1,o)]) λq=>ob (newVar p (AV.cells q)) λr s=>oa (fldA 0 b) λt=>oa (ld1 s t) λu=>oa (fldA 1 b) λv=>oa (ld1 s v) λw=>ob (evalFn tab k a1r [w] s) λx y=>chk ((sameB (pure1 y (ld1 y t)) u && true)) <|oa (buildV [I 0,.nils] [(0,1,u),(1,1,x)]) λz=>oa (nilCk r) λaa=>oa (fldA 0 aa) λab=>oh (stN 2 y ab z) λac=>oa (fldA 1 b) λad=>oa (ld1 ac ad) λae=>oa (lenS ae) λaf=>a5T k k r ae af (I 0) ac:=fnEq
theorem b1H:evalFn tab (k+1) r4_ [a,b] h =
 ob (newVar h (AV.cells b)) λc d=>oa (fldA 0 c) λe=>oa (ld1 d e) λf=>oa (nilCk a) λg=>oa (fldA 3 g) λi=>oa (fldA 0 i) λl=>oa (ld1 d l) λm=>oa (lenS m) λn=>oa (binV .mul .scalar f n) λo=>oa (fldA 1 c) λp=>oa (ld1 d p) λq=>oa (binV .add .scalar o q) λr=>some (r,d):=fnEq
theorem b4H:evalFn tab (k+1) a7U [a,b] h =
 oa (nilCk a) λc=>oa (fldA 2 c) λd=>oa (ld1 h d) λe=>ob (evalFn tab k a4u [a,e,b] h) λf g=>ob (callVal (evalFn tab k) (.fn a3L [] []) [f] g) λi l=>some (i,l):=fnEq
def p4_:=bk tab tbl h7_ 0 [j0] [a,b,c,d,e,f] h k
def a4O:=bk tab tbl h7_ 1 [] [a] h k
theorem a8l:a4O k a h =
 some (.tup [a,(.bool true)],h):=bkEq
theorem a3D:p4_ k (j0+1) a b c d e f h =
 oa (binV .lss .scalar f e) λg=>cond2 g
 (
 oa (idxS 3 d f) λi=>oa (ldN 3 h i) λl=>ob (newVar h [I 0,I 0,I 0]) λm n=>oh (stN 3 n m l) λo=>oa (nilCk a) λp=>oa (fldA 0 p) λq=>oa (ld1 o q) λr=>oa (fldA 0 m) λs=>oa (ldN 2 o s) λt=>ob (evalFn tab k r4_ [r,t] o) λu v=>oa (nilCk a) λw=>oa (fldA 3 w) λx=>oa (ld1 v x) λy=>oa (idxS 1 y u) λz=>oa (ld1 v z) λaa=>oa (binV .lss .scalar aa (I 0)) λab=>ob (gd ab true (some (a,v)) v) λac ad=>ob (gd ab true (pure1 ad (nilCk ac)) ad) λae af=>ob (gd ab true (pure1 af (fldA 2 ae)) af) λag ai=>ob (gd ab true (pure1 ai (ld1 ai ag)) ai) λal am=>ob (gd ab true (some (u,am)) am) λan ao=>ob (gd ab true (some (c,ao)) ao) λap aq=>ob (gd ab true (some (a,aq)) aq) λar au=>ob (gd ab true (pure1 au (nilCk ar)) au) λav aw=>ob (gd ab true (pure1 aw (fldA 0 av)) aw) λax ay=>ob (gd ab true (pure1 ay (ld1 ay ax)) ay) λaz a0=>ob (gd ab true (pure1 a0 (nilCk az)) a0) λa1 a2=>ob (gd ab true (pure1 a2 (fldA 0 a1)) a2) λa3 a4=>ob (gd ab true (pure1 a4 (fldA 1 a3)) a4) λa5 a6=>ob (gd ab true (pure1 a6 (ld1 a6 a5)) a6) λa7 a8=>ob (gd ab true (pure1 a8 (fldA 2 m)) a8) λa9 ba=>ob (gd ab true (pure1 ba (ld1 ba a9)) ba) λbb bc=>ob (gd ab true (pure1 bc (idxS 4 a7 bb)) bc) λbd be=>ob (gd ab true (pure1 be (fldA 3 bd)) be) λbf bg=>ob (gd ab true (pure1 bg (ld1 bg bf)) bg) λbi bl=>ob (gd ab true (pure1 bl (binV .add .scalar ap bi)) bl) λbm bn=>ob (gd ab true (evalFn tab k n9_ [al,an,bm] bn) bn) λbo bp=>oa (pickV ab bo (.bool false)) λbq=>cond2 bq
 (
 oa (nilCk a) λbr=>oa (fldA 4 br) λbs=>oa (ld1 bp bs) λbt=>oa (nilCk a) λbu=>oa (fldA 5 bu) λbv=>oa (ld1 bp bv) λbw=>oa (fldA 2 m) λbx=>oa (ld1 bp bx) λbz=>oa (idxS 1 bt u) λb0=>oh (stN 1 bp b0 bz) λb1=>oa (idxS 1 bw u) λb2=>oh (stN 1 b1 b2 b) λb3=>oa (binV .add .scalar f (I 1)) λb4=>p4_ k j0 a b c d e b4 b3
 )
 (
 oa (binV .add .scalar f (I 1)) λb5=>p4_ k j0 a b c d e b5 bp
 )
 )
 (
 a4O k b h
 ):=bkEq
theorem b0f:evalFn tab (k+1) h7_ [a] h =
 oa (nilCk a) λb=>oa (fldA 2 b) λc=>oa (ld1 h c) λd=>ob (evalFn tab k a0o [d] h) λe f=>oa (extr 0 e) λg=>oa (extr 1 e) λi=>oa (extr 2 e) λl=>oa (unV .not l) λm=>cond2 m
 (
 some (.tup [(I 0),(.bool false)],f)
 )
 (
 oa (nilCk a) λn=>oa (fldA 3 n) λo=>oa (ld1 f o) λp=>oa (idxS 1 p g) λq=>oh (stN 1 f q i) λr=>oa (nilCk a) λs=>oa (fldA 6 s) λt=>oh (stN 1 r t i) λu=>oa (nilCk a) λv=>oa (fldA 1 v) λw=>oa (ld1 u w) λx=>oa (nilCk a) λy=>oa (fldA 0 y) λz=>oa (ld1 u z) λaa=>oa (nilCk a) λab=>oa (fldA 0 ab) λac=>oa (ld1 u ac) λad=>ob (evalFn tab k a0w [ad,g] u) λae af=>chk ((sameB (pure1 af (ld1 af w)) x && (sameB (pure1 af (ld1 af z)) aa && true))) <|ob (callVal (evalFn tab k) x [aa,ae] af) λag ai=>oa (lenS ag) λal=>p4_ k k a g i ag al (I 0) ai
 ):=fnEq
theorem b1K:evalFn tab (k+1) r6_ [a] h =
 oa (nilCk a) λb=>oa (fldA 0 b) λc=>some ((.ifc 221 c),h):=fnEq
theorem b0i:evalFn tab (k+1) a0i [a,b] h =
 ob (callMeth tab (evalFn tab k) "Push" a [b] h) λc d=>ob (callMeth tab (evalFn tab k) "Len" a [] d) λe f=>oa (binV .sub .scalar e (I 1)) λg=>ob (evalFn tab k w6_ [a,g] f) λi l=>some (.tup [],l):=fnEq
theorem b0G:evalFn tab (k+1) a0y [a,b] h =
 ob (callMeth tab (evalFn tab k) "Len" a [] h) λc d=>ob (evalFn tab k f5_ [a,b,c] d) λe f=>oa (unV .not e) λg=>cond2 g
 (
 ob (evalFn tab k w6_ [a,b] f) λi l=>some (.tup [],l)
 )
 (
 some (.tup [],f)
 ):=fnEq
theorem b1L:evalFn tab (k+1) z1_ [a] h =
 oa (nilCk a) λb=>oa (fldA 0 b) λc=>oa (ld1 h c) λd=>oa (lenS d) λe=>some (e,h):=fnEq
theorem b0I:evalFn tab (k+1) a2J [a] h =
 ob (callMeth tab (evalFn tab k) "Len" a [] h) λb c=>oa (binV .sub .scalar b (I 1)) λd=>ob (callMeth tab (evalFn tab k) "Swap" a [(I 0),d] c) λe f=>ob (evalFn tab k f5_ [a,(I 0),d] f) λg i=>ob (callMeth tab (evalFn tab k) "Pop" a [] i) λl m=>some (l,m):=fnEq
def j1_:=bk tab tbl s8_ 0 [j0] [a,b,c,d] h k
theorem a1W:j1_ k (j0+1) a b c d h =
 oa (nilCk a) λe=>oa (fldA 0 e) λf=>oa (fldA 1 f) λg=>oa (ld1 h g) λi=>oa (lenS i) λl=>oa (binV .lss .scalar d l) λm=>cond2 m
 (
 oa (nilCk a) λn=>oa (fldA 0 n) λo=>oa (fldA 1 o) λp=>oa (ld1 h p) λq=>oa (idxS 4 q d) λr=>oa (fldA 0 r) λs=>oa (ld1 h s) λt=>oa (binV .eql .scalar t b) λu=>ob (gd u false (some (a,h)) h) λv w=>ob (gd u false (pure1 w (nilCk v)) w) λx y=>ob (gd u false (pure1 y (fldA 0 x)) y) λz aa=>ob (gd u false (pure1 aa (fldA 1 z)) aa) λab ac=>ob (gd u false (pure1 ac (ld1 ac ab)) ac) λad ae=>ob (gd u false (some (d,ae)) ae) λaf ag=>ob (gd u false (pure1 ag (idxS 4 ad af)) ag) λai al=>ob (gd u false (pure1 al (fldA 1 ai)) al) λam an=>ob (gd u false (pure1 an (ld1 an am)) an) λao ap=>ob (gd u false (some (b,ap)) ap) λaq ar=>ob (gd u false (pure1 ar (binV .eql .scalar ao aq)) ar) λau av=>oa (pickV u (.bool true) au) λaw=>cond2 aw
 (
 oa (nilCk a) λax=>oa (fldA 0 ax) λay=>oa (fldA 1 ay) λaz=>oa (ld1 av az) λa1=>oa (idxS 4 a1 d) λa2=>oa (fldA 2 a2) λa3=>oa (ld1 av a3) λa4=>oa (convV .u64 a4) λa5=>oa (binV .shl .scalar (I 1) a5) λa6=>oa (binV .or .scalar c a6) λa7=>oa (binV .add .scalar d (I 1)) λa8=>j1_ k j0 a b a7 a8 av
 )
 (
 oa (binV .add .scalar d (I 1)) λa9=>j1_ k j0 a b c a9 av
 )
 )
 (
 some (c,h)
 ):=bkEq
theorem a7T:evalFn tab (k+1) s8_ [a,b] h =
 j1_ k k a b (I 0) (I 0) h:=fnEq
def n1_:=bk tab tbl f4_ 0 [j0] [a,b,c] h k
def x2_:=bk tab tbl f4_ 1 [] [a,b] h k
theorem a5E:x2_ k a b h =
 oa (lenS b) λc=>oa (binV .eql .scalar c (I 1)) λd=>cond2 d
 (
 oa (idxS 5 b (I 0)) λe=>oa (ldN 5 h e) λf=>oh (stN 5 h a f) λg=>oa (ldN 5 g a) λi=>some (i,g)
 )
 (
 oa (buildV [I 0,I 0,I 0,I 0,.nils] [(0,1,(I 4)),(4,1,b)]) λl=>oh (stN 5 h a l) λm=>oa (ldN 5 m a) λn=>some (n,m)
 ):=bkEq
theorem a5F:n1_ k (j0+1) a b c h =
 ob (evalFn tab k b6_ [a] h) λd e=>oa (extr 0 d) λf=>oa (extr 1 d) λg=>oa (unV .not g) λi=>ob (gd i false (some (f,e)) e) λl m=>ob (gd i false (pure1 m (binV .eql .scalar l (.int .u8 124))) m) λn o=>oa (pickV i (.bool true) n) λp=>ob (gd p false (some (f,o)) o) λq r=>ob (gd p false (pure1 r (binV .eql .scalar q (.int .u8 41))) r) λs t=>oa (pickV p (.bool true) s) λu=>cond2 u
 (
 x2_ k b c t
 )
 (
 ob (evalFn tab k f1_ [a] t) λv w=>ob (buildSl 5 1 [I 0,I 0,I 0,I 0,.nils] [(0,5,v)] w) λx y=>ob (apnd 5 56 c x y) λz aa=>n1_ k j0 a b z aa
 ):=bkEq
theorem a6M:evalFn tab (k+1) f4_ [a] h =
 ob (newVar h [I 0,I 0,I 0,I 0,.nils]) λb c=>ob (evalFn tab k f1_ [a] c) λd e=>ob (buildSl 5 1 [I 0,I 0,I 0,I 0,.nils] [(0,5,d)] e) λf g=>n1_ k k a b f g:=fnEq
theorem a2r:evalFn tab (k+1) b6_ [a] h =
 oa (nilCk a) λb=>oa (fldA 1 b) λc=>oa (ld1 h c) λd=>oa (nilCk a) λe=>oa (fldA 0 e) λf=>oa (ld1 h f) λg=>oa (lenB g) λi=>oa (binV .geq .scalar d i) λl=>ob (gd l false (some (a,h)) h) λm n=>ob (gd l false (pure1 n (nilCk m)) n) λo p=>ob (gd l false (pure1 p (fldA 3 o)) p) λq r=>ob (gd l false (pure1 r (ld1 r q)) r) λs t=>ob (gd l false (pure1 t (binV .neq .scalar s (I 0))) t) λu v=>oa (pickV l (.bool true) u) λw=>cond2 w
 (
 some (.tup [(.int .u8 0),(.bool false)],v)
 )
 (
 oa (nilCk a) λx=>oa (fldA 0 x) λy=>oa (ld1 v y) λz=>oa (nilCk a) λaa=>oa (fldA 1 aa) λab=>oa (ld1 v ab) λac=>oa (ixS z ac) λad=>some (.tup [ad,(.bool true)],v)
 ):=fnEq
def l3_:=bk tab tbl d3_ 0 [j0] [a,b,c,d,e] h k
def u7_:=bk tab tbl d3_ 1 [] [a,b,c] h k
def l4_:=bk tab tbl d3_ 2 [j0] [a,b,c,d] h k
def a1V:=bk tab tbl d3_ 3 [] [a,b] h k
theorem a5g:a1V k a b h =
 oa (idxS 1 a (I 0)) λc=>oa (ld1 h c) λd=>oa (lenS b) λe=>oa (binV .sub .scalar e (I 1)) λf=>oa (idxS 1 b f) λg=>oa (ld1 h g) λi=>some (.tup [d,i],h):=bkEq
theorem a0K:l4_ k (j0+1) a b c d h =
 oa (binV .add .scalar d (I 1)) λe=>oa (lenS b) λf=>oa (binV .lss .scalar e f) λg=>cond2 g
 (
 oa (idxS 1 c d) λi=>oa (ld1 h i) λl=>oa (binV .add .scalar d (I 1)) λm=>oa (idxS 1 b m) λn=>oa (ld1 h n) λo=>ob (evalFn tab k a2_ [a,l,o] h) λp q=>oa (binV .add .scalar d (I 1)) λr=>l4_ k j0 a b c r q
 )
 (
 a1V k b c h
 ):=bkEq
theorem a5h:u7_ k a b c h =
 oa (nilCk a) λd=>oa (fldA 5 d) λe=>oa (ld1 h e) λf=>cond2 f
 (
 some (.tup [(I 0),(I 0)],h)
 )
 (
 l4_ k k a b c (I 0) h
 ):=bkEq
theorem a0L:l3_ k (j0+1) a b c d e h =
 oa (fldA 4 b) λf=>oa (ld1 h f) λg=>oa (lenS g) λi=>oa (binV .lss .scalar e i) λl=>ob (gd l true (some (a,h)) h) λm n=>ob (gd l true (pure1 n (nilCk m)) n) λo p=>ob (gd l true (pure1 p (fldA 5 o)) p) λq r=>ob (gd l true (pure1 r (ld1 r q)) r) λs t=>ob (gd l true (pure1 t (unV .not s)) t) λu v=>oa (pickV l u (.bool false)) λw=>cond2 w
 (
 oa (fldA 4 b) λx=>oa (ld1 v x) λy=>oa (idxS 5 y e) λz=>oa (ldN 5 v z) λaa=>ob (evalFn tab k b9_ [a,aa] v) λab ac=>oa (extr 0 ab) λad=>oa (extr 1 ab) λae=>ob (buildSl 1 1 [I 0] [(0,1,ad)] ac) λaf ag=>ob (apnd 1 8 c af ag) λai al=>ob (buildSl 1 1 [I 0] [(0,1,ae)] al) λam an=>ob (apnd 1 8 d am an) λao ap=>oa (binV .add .scalar e (I 1)) λaq=>l3_ k j0 a b ai ao aq ap
 )
 (
 u7_ k a c d v
 ):=bkEq
theorem a6k:evalFn tab (k+1) d3_ [a,b] h =
 ob (newVar h (AV.cells b)) λc d=>l3_ k k a c .nils .nils (I 0) d:=fnEq
theorem a5V:evalFn tab (k+1) l7_ [a] h =
 oa (nilCk a) λb=>oa (fldA 0 b) λc=>oa (fldA 0 c) λd=>oa (ld1 h d) λe=>oa (binV .geq .scalar e (I 1000)) λf=>cond2 f
 (
 oa (nilCk a) λg=>oa (fldA 5 g) λi=>oh (stN 1 h i (.bool true)) λl=>some ((I 0),l)
 )
 (
 oa (nilCk a) λm=>oa (fldA 0 m) λn=>oa (fldA 0 n) λo=>oa (ld1 h o) λp=>oa (binV .add .scalar p (I 1)) λq=>oa (nilCk a) λr=>oa (fldA 0 r) λs=>oa (fldA 0 s) λt=>oh (stN 1 h t q) λu=>oa (nilCk a) λv=>oa (fldA 0 v) λw=>oa (fldA 0 w) λx=>oa (ld1 u x) λy=>oa (binV .sub .scalar y (I 1)) λz=>some (z,u)
 ):=fnEq
def l5_:=bk tab tbl n2_ 0 [j0] [a,b,c,d,e,f] h k
theorem a0M:l5_ k (j0+1) a b c d e f h =
 oa (lenS d) λg=>oa (binV .lss .scalar f g) λi=>cond2 i
 (
 oa (idxS 1 d f) λl=>oa (ld1 h l) λm=>ob (evalFn tab k a2_ [a,b,m] h) λn o=>oa (idxS 1 e f) λp=>oa (ld1 o p) λq=>ob (evalFn tab k a2_ [a,q,c] o) λr s=>oa (binV .add .scalar f (I 1)) λt=>l5_ k j0 a b c d e t s
 )
 (
 some (.tup [],h)
 ):=bkEq
theorem a6l:evalFn tab (k+1) n2_ [a,b,c,d,e,f] h =
 ob (newVar h (AV.cells b)) λg i=>oa (fldA 0 g) λl=>oa (ld1 i l) λm=>oa (binV .eql .scalar m (I 1)) λn=>cond2 n
 (
 oa (nilCk a) λo=>oa (fldA 0 o) λp=>oa (fldA 3 p) λq=>oa (ld1 i q) λr=>oa (fldA 1 g) λs=>oa (ld1 i s) λt=>oa (buildV [I 0,I 0,I 0] [(0,1,c),(1,1,d),(2,1,t)]) λu=>ob (buildSl 3 1 [I 0,I 0,I 0] [(0,3,u)] i) λv w=>ob (apnd 3 24 r v w) λx y=>oa (nilCk a) λz=>oa (fldA 0 z) λaa=>oa (fldA 3 aa) λab=>oh (stN 1 y ab x) λac=>some (.tup [],ac)
 )
 (
 oa (binV .eql .scalar m (I 3)) λad=>cond2 ad
 (
 ob (evalFn tab k a2_ [a,c,d] i) λae af=>some (.tup [],af)
 )
 (
 oa (binV .eql .scalar m (I 5)) λag=>cond2 ag
 (
 l5_ k k a c d e f (I 0) i
 )
 (
 oa (binV .eql .scalar m (I 6)) λai=>cond2 ai
 (
 oa (idxS 1 e (I 0)) λal=>oa (ld1 i al) λam=>ob (evalFn tab k a2_ [a,c,am] i) λan ao=>ob (evalFn tab k a2_ [a,c,d] ao) λap aq=>oa (idxS 1 f (I 0)) λar=>oa (ld1 aq ar) λau=>oa (idxS 1 e (I 0)) λav=>oa (ld1 aq av) λaw=>ob (evalFn tab k a2_ [a,au,aw] aq) λax ay=>oa (idxS 1 f (I 0)) λaz=>oa (ld1 ay az) λa0=>ob (evalFn tab k a2_ [a,a0,d] ay) λa1 a2=>some (.tup [],a2)
 )
 (
 oa (binV .eql .scalar m (I 7)) λa3=>cond2 a3
 (
 oa (idxS 1 e (I 0)) λa4=>oa (ld1 i a4) λa5=>ob (evalFn tab k a2_ [a,c,a5] i) λa6 a7=>oa (idxS 1 f (I 0)) λa8=>oa (ld1 a7 a8) λa9=>oa (idxS 1 e (I 0)) λba=>oa (ld1 a7 ba) λbb=>ob (evalFn tab k a2_ [a,a9,bb] a7) λbc bd=>oa (idxS 1 f (I 0)) λbe=>oa (ld1 bd be) λbf=>ob (evalFn tab k a2_ [a,bf,d] bd) λbg bi=>some (.tup [],bi)
 )
 (
 oa (binV .eql .scalar m (I 8)) λbl=>cond2 bl
 (
 oa (idxS 1 e (I 0)) λbm=>oa (ld1 i bm) λbn=>ob (evalFn tab k a2_ [a,c,bn] i) λbo bp=>ob (evalFn tab k a2_ [a,c,d] bp) λbq br=>oa (idxS 1 f (I 0)) λbs=>oa (ld1 br bs) λbt=>ob (evalFn tab k a2_ [a,bt,d] br) λbu bv=>some (.tup [],bv)
 )
 (
 oa (binV .eql .scalar m (I 9)) λbw=>cond2 bw
 (
 oa (ldN 5 i g) λbx=>ob (evalFn tab k c8_ [a,bx,c,d,e,f] i) λbz b1=>some (.tup [],b1)
 )
 (
 some (.tup [],i)
 )
 )
 )
 )
 )
 )
 ):=fnEq
def n7_:=bk tab tbl c3_ 0 [j0] [a,b,c,d] h k
def a4E:=bk tab tbl c3_ 1 [] [a,b,c] h k
def v8_:=bk tab tbl c3_ 2 [j0] [a,b,c,d,e] h k
def a1o:=bk tab tbl c3_ 3 [] [a,b,c] h k
def v9_:=bk tab tbl c3_ 4 [j0] [a,b,c,d] h k
def n8_:=bk tab tbl c3_ 5 [j0,j1] [a,b,c,d,e] h k
def a1p:=bk tab tbl c3_ 6 [j0] [a,b,c,d] h k
theorem a7Q:a1p k j0 a b c d h =
 oa (binV .add .scalar d (I 1)) λe=>v9_ k j0 a b c e h:=bkEq
theorem a2Y:n8_ k j0 (j1+1) a b c d e h =
 oa (idxS 1 b d) λf=>oa (ld1 h f) λg=>oa (idxS 1 c g) λi=>oa (ld1 h i) λl=>oa (lenS l) λm=>oa (binV .lss .scalar e m) λn=>cond2 n
 (
 oa (idxS 1 b d) λo=>oa (ld1 h o) λp=>oa (idxS 1 c p) λq=>oa (ld1 h q) λr=>oa (idxS 1 r e) λs=>oa (ld1 h s) λt=>oa (idxS 1 a t) λu=>oa (ld1 h u) λv=>oa (unV .not v) λw=>cond2 w
 (
 oa (idxS 1 a t) λx=>oh (stN 1 h x (.bool true)) λy=>ob (buildSl 1 1 [I 0] [(0,1,t)] y) λz aa=>ob (apnd 1 8 b z aa) λab ac=>oa (binV .add .scalar e (I 1)) λad=>n8_ k j0 j1 a ab c d ad ac
 )
 (
 oa (binV .add .scalar e (I 1)) λae=>n8_ k j0 j1 a b c d ae h
 )
 )
 (
 a1p k j0 a b c d h
 ):=bkEq
theorem a2Z:v9_ k (j0+1) a b c d h =
 oa (lenS b) λe=>oa (binV .lss .scalar d e) λf=>cond2 f
 (
 n8_ k j0 k a b c d (I 0) h
 )
 (
 some (a,h)
 ):=bkEq
theorem a7R:a1o k a b c h =
 v9_ k k a b c (I 0) h:=bkEq
theorem a3a:v8_ k (j0+1) a b c d e h =
 oa (fldA 4 a) λf=>oa (ld1 h f) λg=>oa (lenS g) λi=>oa (binV .lss .scalar e i) λl=>cond2 l
 (
 oa (fldA 4 a) λm=>oa (ld1 h m) λn=>oa (idxS 2 n e) λo=>oa (ldN 2 h o) λp=>ob (newVar h [I 0,I 0]) λq r=>oh (stN 2 r q p) λs=>oa (idxA 2 1 q (I 0)) λt=>oa (ld1 s t) λu=>oa (idxA 2 1 q (I 0)) λv=>oa (ld1 s v) λw=>oa (idxS 1 d w) λx=>oa (ld1 s x) λy=>oa (idxA 2 1 q (I 1)) λz=>oa (ld1 s z) λaa=>ob (buildSl 1 1 [I 0] [(0,1,aa)] s) λab ac=>ob (apnd 1 8 y ab ac) λad ae=>chk ((sameB (pure1 ae (ld1 ae t)) u && true)) <|oa (idxS 1 d u) λaf=>oh (stN 1 ae af ad) λag=>oa (binV .add .scalar e (I 1)) λai=>v8_ k j0 a b c d ai ag
 )
 (
 a1o k b c d h
 ):=bkEq
theorem a7S:a4E k a b c h =
 oa (fldA 0 a) λd=>oa (ld1 h d) λe=>ob (mkSl [.nils] 1 24 e e h) λf g=>v8_ k k a b c f (I 0) g:=bkEq
theorem a3b:n7_ k (j0+1) a b c d h =
 oa (lenS b) λe=>oa (binV .lss .scalar d e) λf=>cond2 f
 (
 oa (idxS 1 b d) λg=>oa (ld1 h g) λi=>cond2 i
 (
 ob (buildSl 1 1 [I 0] [(0,1,d)] h) λl m=>ob (apnd 1 8 c l m) λn o=>oa (binV .add .scalar d (I 1)) λp=>n7_ k j0 a b n p o
 )
 (
 oa (binV .add .scalar d (I 1)) λq=>n7_ k j0 a b c q h
 )
 )
 (
 a4E k a b c h
 ):=bkEq
theorem a9E:evalFn tab (k+1) c3_ [a,b] h =
 ob (newVar h (AV.cells a)) λc d=>ob (buildSl 1 0 [] [] d) λe f=>ob (apnd 1 1 e b f) λg i=>n7_ k k c g .nils (I 0) i:=fnEq
def a0c:=bk tab tbl a0z 0 [j0] [a,b,c] h k
theorem a4e:a0c k (j0+1) a b c h =
 oa (lenS a) λd=>oa (binV .lss .scalar c d) λe=>cond2 e
 (
 oa (idxS 1 a c) λf=>oa (ld1 h f) λg=>oa (idxS 1 b c) λi=>oa (ld1 h i) λl=>oa (binV .neq .bool g l) λm=>cond2 m
 (
 some ((.bool false),h)
 )
 (
 oa (binV .add .scalar c (I 1)) λn=>a0c k j0 a b n h
 )
 )
 (
 some ((.bool true),h)
 ):=bkEq
theorem b0H:evalFn tab (k+1) a0z [a,b] h =
 a0c k k a b (I 0) h:=fnEq
def y1_:=bk tab tbl e2_ 0 [j0] [a,b,c,d,e] h k
def y2_:=bk tab tbl e2_ 1 [j0,j1] [a,b,c,d,e,f] h k
def a1K:=bk tab tbl e2_ 2 [j0] [a,b,c,d,e,f] h k
def a1L:=bk tab tbl e2_ 3 [j0] [a,b,c,d,e,f] h k
def a4Q:=bk tab tbl e2_ 4 [j0] [a,b,c,d,e] h k
def a4R:=bk tab tbl e2_ 5 [] [a,b] h k
theorem a3E:a4Q k j0 a b c d e h =
 oa (binV .add .scalar e (I 1)) λf=>y1_ k j0 a b c d f h:=bkEq
theorem a3F:a1L k j0 a b c d e f h =
 oa (idxS 1 c e) λg=>oh (stN 1 h g f) λi=>a4Q k j0 a b c d e i:=bkEq
theorem a8p:a1K k j0 a b c d e f h =
 oa (lenS d) λg=>oa (binV .eql .scalar f g) λi=>cond2 i
 (
 ob (buildSl 1 1 [I 0] [(0,1,e)] h) λl m=>ob (apnd 1 8 d l m) λn o=>a1L k j0 a b c n e f o
 )
 (
 a1L k j0 a b c d e f h
 ):=bkEq
theorem a3G:y2_ k j0 (j1+1) a b c d e f h =
 oa (lenS d) λg=>oa (binV .lss .scalar f g) λi=>ob (gd i true (pure1 h (ldN 2 h b)) h) λl m=>ob (gd i true (some (a,m)) m) λn o=>ob (gd i true (some (d,o)) o) λp q=>ob (gd i true (some (f,q)) q) λr s=>ob (gd i true (pure1 s (idxS 1 p r)) s) λt u=>ob (gd i true (pure1 u (ld1 u t)) u) λv w=>ob (gd i true (some (e,w)) w) λx y=>ob (gd i true (evalFn tab k a0j [l,n,v,x] y) y) λz aa=>ob (gd i true (pure1 aa (unV .not z)) aa) λab ac=>oa (pickV i ab (.bool false)) λad=>cond2 ad
 (
 oa (binV .add .scalar f (I 1)) λae=>y2_ k j0 j1 a b c d e ae ac
 )
 (
 a1K k j0 a b c d e f ac
 ):=bkEq
theorem a8q:a4R k a b h =
 oa (lenS b) λc=>some (.tup [a,c],h):=bkEq
theorem a3H:y1_ k (j0+1) a b c d e h =
 oa (lenS a) λf=>oa (binV .lss .scalar e f) λg=>cond2 g
 (
 y2_ k j0 k a b c d e (I 0) h
 )
 (
 a4R k c d h
 ):=bkEq
theorem b0j:evalFn tab (k+1) e2_ [a,b] h =
 ob (newVar h (AV.cells a)) λc d=>oa (lenS b) λe=>ob (mkSl [I 0] 1 8 e e d) λf g=>y1_ k k b c f .nils (I 0) g:=fnEq
theorem a9d:evalFn tab (k+1) a1r [a] h =
 oa (binV .eql .slice a .nils) λb=>cond2 b
 (
 some (.nils,h)
 )
 (
 ob (buildSl 4 0 [] [] h) λc d=>ob (apnd 4 32 c a d) λe f=>some (e,f)
 ):=fnEq
theorem b5I:evalFn tab (k+1) a4j [a,b] h =
 oa (binV .geq .scalar b (I 0)) λc=>ob (gd c true (some (b,h)) h) λd e=>ob (gd c true (some (a,e)) e) λf g=>ob (gd c true (pure1 g (nilCk f)) g) λi l=>ob (gd c true (pure1 l (fldA 2 i)) l) λm n=>ob (gd c true (pure1 n (ld1 n m)) n) λo p=>ob (gd c true (pure1 p (lenS o)) p) λq r=>ob (gd c true (pure1 r (binV .lss .scalar d q)) r) λs t=>oa (pickV c s (.bool false)) λu=>some (u,t):=fnEq
theorem b4a:evalFn tab (k+1) a4t [a,b,c] h =
 oa (nilCk a) λd=>oa (fldA 0 d) λe=>oa (ld1 h e) λf=>ob (buildSl 1 1 [I 0] [(0,1,b)] h) λg i=>oa (nilCk a) λl=>oa (fldA 1 l) λm=>oa (ld1 i m) λn=>ob (buildSl 1 1 [I 0] [(0,1,c)] i) λo p=>ob (apnd 1 8 f g p) λq r=>chk ((sameB (pure1 r (ld1 r m)) n && true)) <|ob (apnd 1 8 n o r) λs t=>oa (nilCk a) λu=>oa (fldA 0 u) λv=>oh (stN 1 t v q) λw=>oa (nilCk a) λx=>oa (fldA 1 x) λy=>oh (stN 1 w y s) λz=>some (.tup [],z):=fnEq
theorem b3r:evalFn tab (k+1) a3L [a] h =
 ob (newVar h (AV.cells a)) λb c=>oa (fldA 0 b) λd=>oa (ld1 c d) λe=>oa (lenS e) λf=>oa (fldA 0 b) λg=>oa (ld1 c g) λi=>oa (slSl 1 i none (some f) (some f)) λl=>ob (evalFn tab k r5_ [l] c) λm n=>some (m,n):=fnEq
theorem b4b:evalFn tab (k+1) a4u [a,b,c] h =
 ob (newVar h [.nils,.nils]) λd e=>ob (evalFn tab k a4j [a,c] e) λf g=>oa (unV .not f) λi=>cond2 i
 (
 oa (buildV [.nils,.nils] []) λl=>oh (stN 2 g d l) λm=>oa (ldN 2 m d) λn=>some (n,m)
 )
 (
 oa (idxS 2 b c) λo=>oa (ldN 2 g o) λp=>oh (stN 2 g d p) λq=>oa (ldN 2 q d) λr=>some (r,q)
 ):=fnEq
theorem b0A:evalFn tab (k+1) a0w [a,b] h =
 ob (newVar h [I 0,I 0]) λc d=>oa (nilCk a) λe=>oa (fldA 3 e) λf=>oa (fldA 0 f) λg=>oa (ld1 d g) λi=>oa (lenS i) λl=>oa (binV .quo .scalar b l) λm=>oa (nilCk a) λn=>oa (fldA 3 n) λo=>oa (fldA 0 o) λp=>oa (ld1 d p) λq=>oa (lenS q) λr=>oa (binV .rem .scalar b r) λs=>oa (buildV [I 0,I 0] [(0,1,m),(1,1,s)]) λt=>oh (stN 2 d c t) λu=>oa (ldN 2 u c) λv=>some (v,u):=fnEq
def a0s:=bk tab tbl w6_ 0 [j0] [a,b] h k
theorem a4F:a0s k (j0+1) a b h =
 oa (binV .sub .scalar b (I 1)) λc=>oa (binV .quo .scalar c (I 2)) λd=>oa (binV .eql .scalar d b) λe=>ob (gd e false (some (a,h)) h) λf g=>ob (gd e false (some (b,g)) g) λi l=>ob (gd e false (some (d,l)) l) λm n=>ob (gd e false (callMeth tab (evalFn tab k) "Less" f [i,m] n) n) λo p=>ob (gd e false (pure1 p (unV .not o)) p) λq r=>oa (pickV e (.bool true) q) λs=>cond2 s
 (
 some (.tup [],r)
 )
 (
 ob (callMeth tab (evalFn tab k) "Swap" a [d,b] r) λt u=>a0s k j0 a d u
 ):=bkEq
theorem b1l:evalFn tab (k+1) w6_ [a,b] h =
 a0s k k a b h:=fnEq
def p5_:=bk tab tbl f5_ 0 [j0] [a,b,c,d] h k
def p6_:=bk tab tbl f5_ 1 [] [a,b] h k
def p7_:=bk tab tbl f5_ 2 [j0] [a,b,c,d,e] h k
theorem a3I:p6_ k a b h =
 oa (binV .gtr .scalar b a) λc=>some (c,h):=bkEq
theorem a3J:p7_ k j0 a b c d e h =
 ob (callMeth tab (evalFn tab k) "Less" a [e,d] h) λf g=>oa (unV .not f) λi=>cond2 i
 (
 p6_ k b d g
 )
 (
 ob (callMeth tab (evalFn tab k) "Swap" a [d,e] g) λl m=>p5_ k j0 a b c e m
 ):=bkEq
theorem a0t:p5_ k (j0+1) a b c d h =
 oa (binV .mul .scalar (I 2) d) λe=>oa (binV .add .scalar e (I 1)) λf=>oa (binV .geq .scalar f c) λg=>ob (gd g false (some (f,h)) h) λi l=>ob (gd g false (pure1 l (binV .lss .scalar i (I 0))) l) λm n=>oa (pickV g (.bool true) m) λo=>cond2 o
 (
 p6_ k b d n
 )
 (
 oa (binV .add .scalar f (I 1)) λp=>oa (binV .lss .scalar p c) λq=>ob (gd q true (some (a,n)) n) λr s=>ob (gd q true (some (p,s)) s) λt u=>ob (gd q true (some (f,u)) u) λv w=>ob (gd q true (callMeth tab (evalFn tab k) "Less" r [t,v] w) w) λx y=>oa (pickV q x (.bool false)) λz=>cond2 z
 (
 p7_ k j0 a b c d p y
 )
 (
 p7_ k j0 a b c d f y
 )
 ):=bkEq
theorem a4S:evalFn tab (k+1) f5_ [a,b,c] h =
 p5_ k k a b c b h:=fnEq
def e3_:=bk tab tbl f1_ 0 [j0] [a,b,c] h k
def e4_:=bk tab tbl f1_ 1 [j0] [a,b,c] h k
theorem a5i:e4_ k j0 a b c h =
 oa (nilCk a) λd=>oa (fldA 1 d) λe=>oa (ld1 h e) λf=>oa (binV .add .scalar f (I 1)) λg=>oa (nilCk a) λi=>oa (fldA 1 i) λl=>oh (stN 1 h l g) λm=>e3_ k j0 a b c m:=bkEq
theorem a5j:e3_ k (j0+1) a b c h =
 ob (evalFn tab k b6_ [a] h) λd e=>oa (extr 0 d) λf=>oa (extr 1 d) λg=>oa (unV .not g) λi=>cond2 i
 (
 oa (ldN 5 e c) λl=>oh (stN 5 e b l) λm=>oa (ldN 5 m b) λn=>some (n,m)
 )
 (
 oa (binV .eql .scalar f (.int .u8 42)) λo=>cond2 o
 (
 oa (ldN 5 e c) λp=>ob (buildSl 5 1 [I 0,I 0,I 0,I 0,.nils] [(0,5,p)] e) λq r=>oa (buildV [I 0,I 0,I 0,I 0,.nils] [(0,1,(I 6)),(4,1,q)]) λs=>oh (stN 5 r c s) λt=>e4_ k j0 a b c t
 )
 (
 oa (binV .eql .scalar f (.int .u8 43)) λu=>cond2 u
 (
 oa (ldN 5 e c) λv=>ob (buildSl 5 1 [I 0,I 0,I 0,I 0,.nils] [(0,5,v)] e) λw x=>oa (buildV [I 0,I 0,I 0,I 0,.nils] [(0,1,(I 7)),(4,1,w)]) λy=>oh (stN 5 x c y) λz=>e4_ k j0 a b c z
 )
 (
 oa (binV .eql .scalar f (.int .u8 63)) λaa=>cond2 aa
 (
 oa (ldN 5 e c) λab=>ob (buildSl 5 1 [I 0,I 0,I 0,I 0,.nils] [(0,5,ab)] e) λac ad=>oa (buildV [I 0,I 0,I 0,I 0,.nils] [(0,1,(I 8)),(4,1,ac)]) λae=>oh (stN 5 ad c ae) λaf=>e4_ k j0 a b c af
 )
 (
 oa (binV .eql .scalar f (.int .u8 123)) λag=>cond2 ag
 (
 oa (nilCk a) λai=>oa (fldA 1 ai) λal=>oa (ld1 e al) λam=>oa (binV .add .scalar am (I 1)) λan=>oa (nilCk a) λao=>oa (fldA 1 ao) λap=>oh (stN 1 e ap an) λaq=>oa (ldN 5 aq c) λar=>ob (evalFn tab k h9_ [a,ar] aq) λau av=>oh (stN 5 av c au) λaw=>e3_ k j0 a b c aw
 )
 (
 oa (ldN 5 e c) λax=>oh (stN 5 e b ax) λay=>oa (ldN 5 ay b) λaz=>some (az,ay)
 )
 )
 )
 )
 ):=bkEq
theorem a6m:evalFn tab (k+1) f1_ [a] h =
 ob (newVar h [I 0,I 0,I 0,I 0,.nils]) λb c=>ob (evalFn tab k z2_ [a] c) λd e=>ob (newVar e [I 0,I 0,I 0,I 0,.nils]) λf g=>oh (stN 5 g f d) λi=>e3_ k k a b f i:=fnEq
theorem a6n:evalFn tab (k+1) a2_ [a,b,c] h =
 oa (nilCk a) λd=>oa (fldA 0 d) λe=>oa (fldA 4 e) λf=>oa (ld1 h f) λg=>oa (buildV [I 0,I 0] [(0,1,b),(1,1,c)]) λi=>ob (buildSl 2 1 [I 0,I 0] [(0,2,i)] h) λl m=>ob (apnd 2 16 g l m) λn o=>oa (nilCk a) λp=>oa (fldA 0 p) λq=>oa (fldA 4 q) λr=>oh (stN 1 o r n) λs=>some (.tup [],s):=fnEq
end
end Go.Gm.AZ
namespace Go.Gm.AZ
open Go Go.Gm
noncomputable section
variable (k j0 j1 j2 j3:Nat) (a b c d e f g i l m:AV) (h:Heap)
def s9_:=bk tab tbl c8_ 0 [] [a,b,c,d,e,f] h k
def f6_:=bk tab tbl c8_ 1 [j0] [a,b,c,d,e,f,g] h k
def j2_:=bk tab tbl c8_ 2 [j0] [a,b,c,d,e,f,g,i] h k
def a1d:=bk tab tbl c8_ 3 [] [a,b,c,d] h k
theorem a4H:j2_ k j0 a b c d e f g i h =
 oa (unV .not i) λl=>cond2 l
 (
 oa (idxS 1 e g) λm=>oa (ld1 h m) λn=>oa (binV .add .scalar g (I 1)) λo=>oa (idxS 1 d o) λp=>oa (ld1 h p) λq=>ob (evalFn tab k a2_ [a,n,q] h) λr s=>oa (binV .add .scalar g (I 1)) λt=>f6_ k j0 a b c d e f t s
 )
 (
 oa (binV .add .scalar g (I 1)) λu=>f6_ k j0 a b c d e f u h
 ):=bkEq
theorem a4I:a1d k a b c d h =
 oa (fldA 2 d) λe=>oa (ld1 h e) λf=>oa (binV .eql .scalar f (I 0)) λg=>cond2 g
 (
 ob (evalFn tab k a2_ [a,b,c] h) λi l=>some (.tup [],l)
 )
 (
 some (.tup [],h)
 ):=bkEq
theorem a0m:f6_ k (j0+1) a b c d e f g h =
 oa (lenS d) λi=>oa (binV .lss .scalar g i) λl=>cond2 l
 (
 oa (lenS d) λm=>oa (binV .sub .scalar m (I 1)) λn=>oa (binV .eql .scalar g n) λo=>ob (gd o false (some (g,h)) h) λp q=>ob (gd o false (pure1 q (binV .add .scalar p (I 1))) q) λr s=>ob (gd o false (pure1 s (fldA 2 f)) s) λt u=>ob (gd o false (pure1 u (ld1 u t)) u) λv w=>ob (gd o false (pure1 w (binV .geq .scalar r v)) w) λx y=>oa (pickV o (.bool true) x) λz=>cond2 z
 (
 oa (idxS 1 e g) λaa=>oa (ld1 y aa) λab=>ob (evalFn tab k a2_ [a,ab,c] y) λac ad=>j2_ k j0 a b c d e f g o ad
 )
 (
 j2_ k j0 a b c d e f g o y
 )
 )
 (
 a1d k a b c f h
 ):=bkEq
theorem a0n:s9_ k a b c d e f h =
 f6_ k k a b c d e f (I 0) h:=bkEq
theorem a5G:evalFn tab (k+1) c8_ [a,b,c,d,e,f] h =
 ob (newVar h (AV.cells b)) λg i=>oa (fldA 3 g) λl=>oa (ld1 i l) λm=>oa (binV .gtr .scalar m (I 0)) λn=>cond2 n
 (
 oa (idxS 1 e (I 0)) λo=>oa (ld1 i o) λp=>ob (evalFn tab k a2_ [a,c,p] i) λq r=>s9_ k a c d e f g r
 )
 (
 s9_ k a c d e f g i
 ):=fnEq
def y3_:=bk tab tbl a0j 0 [j0] [a,b,c,d,e] h k
theorem a3K:y3_ k (j0+1) a b c d e h =
 oa (binV .lss .scalar e (I 5)) λf=>cond2 f
 (
 oa (fldA 0 d) λg=>oa (ld1 h g) λi=>oa (idxS 5 i b) λl=>oa (idxA 5 1 l e) λm=>oa (ld1 h m) λn=>oa (idxS 1 a n) λo=>oa (ld1 h o) λp=>oa (fldA 0 d) λq=>oa (ld1 h q) λr=>oa (idxS 5 r c) λs=>oa (idxA 5 1 s e) λt=>oa (ld1 h t) λu=>oa (idxS 1 a u) λv=>oa (ld1 h v) λw=>oa (binV .neq .scalar p w) λx=>cond2 x
 (
 some ((.bool false),h)
 )
 (
 oa (binV .add .scalar e (I 1)) λy=>y3_ k j0 a b c d y h
 )
 )
 (
 some ((.bool true),h)
 ):=bkEq
theorem b0k:evalFn tab (k+1) a0j [a,b,c,d] h =
 ob (newVar h (AV.cells a)) λe f=>oa (idxS 1 b c) λg=>oa (ld1 f g) λi=>oa (idxS 1 b d) λl=>oa (ld1 f l) λm=>oa (binV .neq .scalar i m) λn=>cond2 n
 (
 some ((.bool false),f)
 )
 (
 y3_ k k b c d e (I 0) f
 ):=fnEq
theorem a6N:evalFn tab (k+1) z2_ [a] h =
 ob (newVar h [I 0,I 0,I 0,I 0,.nils]) λb c=>ob (evalFn tab k b6_ [a] c) λd e=>oa (extr 0 d) λf=>oa (extr 1 d) λg=>oa (unV .not g) λi=>cond2 i
 (
 ob (evalFn tab k b5_ [a,(I 3)] e) λl m=>oh (stN 5 m b l) λn=>oa (ldN 5 n b) λo=>some (o,n)
 )
 (
 oa (binV .eql .scalar f (.int .u8 40)) λp=>ob (gd p true (some (a,e)) e) λq r=>ob (gd p true (pure1 r (nilCk q)) r) λs t=>ob (gd p true (pure1 t (fldA 2 s)) t) λu v=>ob (gd p true (pure1 v (ld1 v u)) v) λw x=>ob (gd p true (pure1 x (binV .geq .scalar w (I 30))) x) λy z=>oa (pickV p y (.bool false)) λaa=>cond2 aa
 (
 ob (evalFn tab k b5_ [a,(I 4)] z) λab ac=>oh (stN 5 ac b ab) λad=>oa (ldN 5 ad b) λae=>some (ae,ad)
 )
 (
 oa (nilCk a) λaf=>oa (fldA 1 af) λag=>oa (ld1 z ag) λai=>oa (binV .add .scalar ai (I 1)) λal=>oa (nilCk a) λam=>oa (fldA 1 am) λan=>oh (stN 1 z an al) λao=>ob (evalFn tab k i9_ [f] ao) λap aq=>oa (binV .geq .scalar ap (I 0)) λar=>cond2 ar
 (
 ob (evalFn tab k i9_ [f] aq) λau av=>oa (convV .u64 au) λaw=>oa (binV .shl .scalar (I 1) aw) λax=>oa (buildV [I 0,I 0,I 0,I 0,.nils] [(0,1,(I 1)),(1,1,ax)]) λay=>oh (stN 5 av b ay) λaz=>oa (ldN 5 az b) λa0=>some (a0,az)
 )
 (
 oa (binV .eql .scalar f (.int .u8 46)) λa1=>cond2 a1
 (
 oa (buildV [I 0,I 0,I 0,I 0,.nils] [(0,1,(I 1)),(1,1,(I 31))]) λa2=>oh (stN 5 aq b a2) λa3=>oa (ldN 5 a3 b) λa4=>some (a4,a3)
 )
 (
 oa (binV .eql .scalar f (.int .u8 48)) λa5=>cond2 a5
 (
 oa (buildV [I 0,I 0,I 0,I 0,.nils] [(0,1,(I 2))]) λa6=>oh (stN 5 aq b a6) λa7=>oa (ldN 5 a7 b) λa8=>some (a8,a7)
 )
 (
 oa (binV .eql .scalar f (.int .u8 95)) λa9=>cond2 a9
 (
 oa (buildV [I 0,I 0,I 0,I 0,.nils] [(0,1,(I 3))]) λba=>oh (stN 5 aq b ba) λbb=>oa (ldN 5 bb b) λbc=>some (bc,bb)
 )
 (
 oa (binV .eql .scalar f (.int .u8 91)) λbd=>cond2 bd
 (
 ob (evalFn tab k n3_ [a] aq) λbe bf=>oh (stN 5 bf b be) λbg=>oa (ldN 5 bg b) λbi=>some (bi,bg)
 )
 (
 oa (binV .eql .scalar f (.int .u8 40)) λbl=>cond2 bl
 (
 ob (evalFn tab k x4_ [a] aq) λbm bn=>oh (stN 5 bn b bm) λbo=>oa (ldN 5 bo b) λbp=>some (bp,bo)
 )
 (
 oa (nilCk a) λbq=>oa (fldA 1 bq) λbr=>oa (ld1 aq br) λbs=>oa (binV .sub .scalar bs (I 1)) λbt=>oa (nilCk a) λbu=>oa (fldA 1 bu) λbv=>oh (stN 1 aq bv bt) λbw=>ob (evalFn tab k b5_ [a,(I 3)] bw) λbx bz=>oh (stN 5 bz b bx) λb0=>oa (ldN 5 b0 b) λb1=>some (b1,b0)
 )
 )
 )
 )
 )
 )
 )
 ):=fnEq
def g8_:=bk tab tbl h9_ 0 [j0] [a,b,c,d,e,f] h k
def a1X:=bk tab tbl h9_ 1 [] [a,b,c,d,e] h k
theorem a5k:a1X k a b c d e h =
 oa (idxA 2 1 e (I 0)) λf=>oa (ld1 h f) λg=>oa (idxA 2 1 e (I 1)) λi=>oa (ld1 h i) λl=>oa (binV .gtr .scalar g l) λm=>cond2 m
 (
 oa (nilCk a) λn=>oa (fldA 1 n) λo=>oh (stN 1 h o d) λp=>ob (evalFn tab k b5_ [a,(I 3)] p) λq r=>oh (stN 5 r c q) λs=>oa (ldN 5 s c) λt=>some (t,s)
 )
 (
 oa (idxA 2 1 e (I 0)) λu=>oa (ld1 h u) λv=>oa (idxA 2 1 e (I 1)) λw=>oa (ld1 h w) λx=>oa (ldN 5 h b) λy=>ob (buildSl 5 1 [I 0,I 0,I 0,I 0,.nils] [(0,5,y)] h) λz aa=>oa (buildV [I 0,I 0,I 0,I 0,.nils] [(0,1,(I 9)),(2,1,v),(3,1,x),(4,1,z)]) λab=>oh (stN 5 aa c ab) λac=>oa (ldN 5 ac c) λad=>some (ad,ac)
 ):=bkEq
theorem a0N:g8_ k (j0+1) a b c d e f h =
 oa (binV .lss .scalar f (I 2)) λg=>cond2 g
 (
 ob (evalFn tab k b6_ [a] h) λi l=>oa (extr 0 i) λm=>oa (extr 1 i) λn=>oa (unV .not n) λo=>ob (gd o false (some (m,l)) l) λp q=>ob (gd o false (pure1 q (binV .lss .scalar p (.int .u8 48))) q) λr s=>oa (pickV o (.bool true) r) λt=>ob (gd t false (some (m,s)) s) λu v=>ob (gd t false (pure1 v (binV .gtr .scalar u (.int .u8 57))) v) λw x=>oa (pickV t (.bool true) w) λy=>cond2 y
 (
 cond2 n
 (
 oa (nilCk a) λz=>oa (fldA 1 z) λaa=>oh (stN 1 x aa d) λab=>ob (evalFn tab k b5_ [a,(I 3)] ab) λac ad=>oh (stN 5 ad c ac) λae=>oa (ldN 5 ae c) λaf=>some (af,ae)
 )
 (
 ob (evalFn tab k b5_ [a,(I 3)] x) λag ai=>oh (stN 5 ai c ag) λal=>oa (ldN 5 al c) λam=>some (am,al)
 )
 )
 (
 oa (binV .sub .scalar m (.int .u8 48)) λan=>oa (convV .i64 an) λao=>oa (idxA 2 1 e f) λap=>oh (stN 1 x ap ao) λaq=>oa (nilCk a) λar=>oa (fldA 1 ar) λau=>oa (ld1 aq au) λav=>oa (binV .add .scalar av (I 1)) λaw=>oa (nilCk a) λax=>oa (fldA 1 ax) λay=>oh (stN 1 aq ay aw) λaz=>ob (evalFn tab k b6_ [a] az) λa0 a1=>oa (extr 0 a0) λa2=>oa (extr 1 a0) λa3=>oa (unV .not a3) λa4=>ob (gd a4 false (some (a2,a1)) a1) λa5 a6=>ob (gd a4 false (pure1 a6 (buildV [.int .u8 0,.int .u8 0] [(0,1,(.int .u8 44)),(1,1,(.int .u8 125))])) a6) λa7 a8=>ob (gd a4 false (some (f,a8)) a8) λa9 ba=>ob (gd a4 false (pure1 ba (ixA 2 1 none a7 a9)) ba) λbb bc=>ob (gd a4 false (pure1 bc (binV .neq .scalar a5 bb)) bc) λbd be=>oa (pickV a4 (.bool true) bd) λbf=>cond2 bf
 (
 ob (evalFn tab k b5_ [a,(I 3)] be) λbg bi=>oh (stN 5 bi c bg) λbl=>oa (ldN 5 bl c) λbm=>some (bm,bl)
 )
 (
 oa (nilCk a) λbn=>oa (fldA 1 bn) λbo=>oa (ld1 be bo) λbp=>oa (binV .add .scalar bp (I 1)) λbq=>oa (nilCk a) λbr=>oa (fldA 1 br) λbs=>oh (stN 1 be bs bq) λbt=>oa (binV .add .scalar f (I 1)) λbu=>g8_ k j0 a b c d e bu bt
 )
 )
 )
 (
 a1X k a b c d e h
 ):=bkEq
theorem a6o:evalFn tab (k+1) h9_ [a,b] h =
 ob (newVar h (AV.cells b)) λc d=>ob (newVar d [I 0,I 0,I 0,I 0,.nils]) λe f=>oa (nilCk a) λg=>oa (fldA 1 g) λi=>oa (ld1 f i) λl=>oa (binV .sub .scalar l (I 1)) λm=>ob (newVar f [I 0,I 0]) λn o=>g8_ k k a c e m n (I 0) o:=fnEq
def a0d:=bk tab tbl i9_ 0 [j0] [a,b] h k
theorem a4f:a0d k (j0+1) a b h =
 oa (binV .lss .scalar b (I 5)) λc=>cond2 c
 (
 oa (ixS (.str ⟨#[119,98,99,102,116]⟩) b) λd=>oa (binV .eql .scalar d a) λe=>cond2 e
 (
 some (b,h)
 )
 (
 oa (binV .add .scalar b (I 1)) λf=>a0d k j0 a f h
 )
 )
 (
 some ((I (-1)),h)
 ):=bkEq
theorem b0J:evalFn tab (k+1) i9_ [a] h =
 a0d k k a (I 0) h:=fnEq
def l6_:=bk tab tbl n3_ 0 [j0] [a,b,c] h k
theorem a5l:l6_ k (j0+1) a b c h =
 ob (evalFn tab k b6_ [a] h) λd e=>oa (extr 0 d) λf=>oa (extr 1 d) λg=>ob (gd g true (some (f,e)) e) λi l=>ob (gd g true (pure1 l (binV .eql .scalar i (.int .u8 93))) l) λm n=>oa (pickV g m (.bool false)) λo=>ob (gd o true (some (c,n)) n) λp q=>ob (gd o true (pure1 q (binV .gtr .scalar p (I 0))) q) λr s=>oa (pickV o r (.bool false)) λt=>cond2 t
 (
 oa (nilCk a) λu=>oa (fldA 1 u) λv=>oa (ld1 s v) λw=>oa (binV .add .scalar w (I 1)) λx=>oa (nilCk a) λy=>oa (fldA 1 y) λz=>oh (stN 1 s z x) λaa=>oa (buildV [I 0,I 0,I 0,I 0,.nils] [(0,1,(I 1)),(1,1,c)]) λab=>oh (stN 5 aa b ab) λac=>oa (ldN 5 ac b) λad=>some (ad,ac)
 )
 (
 oa (unV .not g) λae=>ob (gd ae false (some (f,s)) s) λaf ag=>ob (gd ae false (evalFn tab k i9_ [af] ag) ag) λai al=>ob (gd ae false (pure1 al (binV .lss .scalar ai (I 0))) al) λam an=>oa (pickV ae (.bool true) am) λao=>cond2 ao
 (
 ob (evalFn tab k b5_ [a,(I 3)] an) λap aq=>oh (stN 5 aq b ap) λar=>oa (ldN 5 ar b) λau=>some (au,ar)
 )
 (
 ob (evalFn tab k i9_ [f] an) λav aw=>oa (convV .u64 av) λax=>oa (binV .shl .scalar (I 1) ax) λay=>oa (binV .or .scalar c ay) λaz=>oa (nilCk a) λa0=>oa (fldA 1 a0) λa1=>oa (ld1 aw a1) λa2=>oa (binV .add .scalar a2 (I 1)) λa3=>oa (nilCk a) λa4=>oa (fldA 1 a4) λa5=>oh (stN 1 aw a5 a3) λa6=>l6_ k j0 a b az a6
 )
 ):=bkEq
theorem a6p:evalFn tab (k+1) n3_ [a] h =
 ob (newVar h [I 0,I 0,I 0,I 0,.nils]) λb c=>l6_ k k a b (I 0) c:=fnEq
theorem a6q:evalFn tab (k+1) x4_ [a] h =
 ob (newVar h [I 0,I 0,I 0,I 0,.nils]) λb c=>oa (nilCk a) λd=>oa (fldA 2 d) λe=>oa (ld1 c e) λf=>oa (binV .add .scalar f (I 1)) λg=>oa (nilCk a) λi=>oa (fldA 2 i) λl=>oh (stN 1 c l g) λm=>ob (evalFn tab k f0_ [a] m) λn o=>ob (newVar o [I 0,I 0,I 0,I 0,.nils]) λp q=>oh (stN 5 q p n) λr=>ob (evalFn tab k b6_ [a] r) λs t=>oa (extr 0 s) λu=>oa (extr 1 s) λv=>oa (unV .not v) λw=>ob (gd w false (some (u,t)) t) λx y=>ob (gd w false (pure1 y (binV .neq .scalar x (.int .u8 41))) y) λz aa=>oa (pickV w (.bool true) z) λab=>cond2 ab
 (
 ob (evalFn tab k b5_ [a,(I 3)] aa) λac ad=>oh (stN 5 ad b ac) λae=>oa (ldN 5 ae b) λaf=>some (af,ae)
 )
 (
 oa (nilCk a) λag=>oa (fldA 1 ag) λai=>oa (ld1 aa ai) λal=>oa (binV .add .scalar al (I 1)) λam=>oa (nilCk a) λan=>oa (fldA 1 an) λao=>oh (stN 1 aa ao am) λap=>oa (nilCk a) λaq=>oa (fldA 2 aq) λar=>oa (ld1 ap ar) λau=>oa (binV .sub .scalar au (I 1)) λav=>oa (nilCk a) λaw=>oa (fldA 2 aw) λax=>oh (stN 1 ap ax av) λay=>oa (ldN 5 ay p) λaz=>oh (stN 5 ay b az) λa0=>oa (ldN 5 a0 b) λa1=>some (a1,a0)
 ):=fnEq
theorem b1m:evalFn tab (k+1) a3k [a,b] h =
 ob (newVar h (AV.cells a)) λc d=>ob (newVar d (AV.cells b)) λe f=>oa (fldA 1 c) λg=>oa (ld1 f g) λi=>oa (fldA 1 e) λl=>oa (ld1 f l) λm=>oa (binV .neq .scalar i m) λn=>cond2 n
 (
 oa (fldA 1 c) λo=>oa (ld1 f o) λp=>oa (fldA 1 e) λq=>oa (ld1 f q) λr=>oa (binV .lss .scalar p r) λs=>some (s,f)
 )
 (
 oa (fldA 0 c) λt=>oa (ld1 f t) λu=>oa (fldA 0 e) λv=>oa (ld1 f v) λw=>oa (binV .lss .scalar u w) λx=>some (x,f)
 ):=fnEq
theorem b1n:evalFn tab (k+1) a3l [a,b,c] h =
 oa (nilCk a) λd=>oa (fldA 0 d) λe=>oa (ld1 h e) λf=>oa (idxS 2 f b) λg=>oa (ldN 2 h g) λi=>oa (nilCk a) λl=>oa (fldA 0 l) λm=>oa (ld1 h m) λn=>oa (idxS 2 n c) λo=>oa (ldN 2 h o) λp=>ob (callVal (evalFn tab k) (.fn a3k [] []) [i,p] h) λq r=>some (q,r):=fnEq
theorem b1M:evalFn tab (k+1) a4k [a] h =
 oa (nilCk a) λb=>oa (fldA 0 b) λc=>oa (ld1 h c) λd=>oa (lenS d) λe=>oa (binV .sub .scalar e (I 1)) λf=>oa (nilCk a) λg=>oa (fldA 0 g) λi=>oa (ld1 h i) λl=>oa (idxS 2 l f) λm=>oa (ldN 2 h m) λn=>ob (newVar h [I 0,I 0]) λo p=>oh (stN 2 p o n) λq=>oa (nilCk a) λr=>oa (fldA 0 r) λs=>oa (ld1 q s) λt=>oa (slSl 2 t none (some f) none) λu=>oa (nilCk a) λv=>oa (fldA 0 v) λw=>oh (stN 1 q w u) λx=>oa (nilCk a) λy=>oa (fldA 1 y) λz=>oa (ld1 x z) λaa=>oa (fldA 0 o) λab=>oa (ld1 x ab) λac=>oa (idxS 1 aa ac) λad=>oh (stN 1 x ad (I (-1))) λae=>oa (ldN 2 ae o) λaf=>some ((.ifc 196 af),ae):=fnEq
theorem b1o:evalFn tab (k+1) a3m [a,b] h =
 oa (tAssert 196 (.agg [I 0,I 0]) true b) λc=>oa (extr 0 c) λd=>oa (extr 1 c) λe=>ob (newVar h [I 0,I 0]) λf g=>oh (stN 2 g f d) λi=>cond2 e
 (
 oa (nilCk a) λl=>oa (fldA 1 l) λm=>oa (ld1 i m) λn=>oa (fldA 0 f) λo=>oa (ld1 i o) λp=>oa (nilCk a) λq=>oa (fldA 0 q) λr=>oa (ld1 i r) λs=>oa (lenS s) λt=>oa (idxS 1 n p) λu=>oh (stN 1 i u t) λv=>oa (nilCk a) λw=>oa (fldA 0 w) λx=>oa (ld1 v x) λy=>oa (ldN 2 v f) λz=>ob (buildSl 2 1 [I 0,I 0] [(0,2,z)] v) λaa ab=>ob (apnd 2 16 y aa ab) λac ad=>oa (nilCk a) λae=>oa (fldA 0 ae) λaf=>oh (stN 1 ad af ac) λag=>some (.tup [],ag)
 )
 (
 some (.tup [],i)
 ):=fnEq
theorem b1p:evalFn tab (k+1) a0S [a,b,c] h =
 oa (nilCk a) λd=>oa (fldA 0 d) λe=>oa (ld1 h e) λf=>oa (nilCk a) λg=>oa (fldA 0 g) λi=>oa (ld1 h i) λl=>oa (nilCk a) λm=>oa (fldA 0 m) λn=>oa (ld1 h n) λo=>oa (idxS 2 o c) λp=>oa (ldN 2 h p) λq=>oa (nilCk a) λr=>oa (fldA 0 r) λs=>oa (ld1 h s) λt=>oa (idxS 2 t b) λu=>oa (ldN 2 h u) λv=>oa (idxS 2 f b) λw=>oh (stN 2 h w q) λx=>oa (idxS 2 l c) λy=>oh (stN 2 x y v) λz=>oa (nilCk a) λaa=>oa (fldA 1 aa) λab=>oa (ld1 z ab) λac=>oa (nilCk a) λad=>oa (fldA 0 ad) λae=>oa (ld1 z ae) λaf=>oa (idxS 2 af b) λag=>oa (fldA 0 ag) λai=>oa (ld1 z ai) λal=>oa (nilCk a) λam=>oa (fldA 1 am) λan=>oa (ld1 z an) λao=>oa (nilCk a) λap=>oa (fldA 0 ap) λaq=>oa (ld1 z aq) λar=>oa (idxS 2 ar c) λau=>oa (fldA 0 au) λav=>oa (ld1 z av) λaw=>oa (idxS 1 ac al) λax=>oh (stN 1 z ax b) λay=>oa (idxS 1 ao aw) λaz=>oh (stN 1 ay az c) λa0=>some (.tup [],a0):=fnEq
theorem b0K:evalFn tab (k+1) a2K [a,b] h =
 oa (binV .lss .scalar b (I 0)) λc=>ob (gd c false (some (b,h)) h) λd e=>ob (gd c false (some (a,e)) e) λf g=>ob (gd c false (pure1 g (nilCk f)) g) λi l=>ob (gd c false (pure1 l (fldA 1 i)) l) λm n=>ob (gd c false (pure1 n (ld1 n m)) n) λo p=>ob (gd c false (pure1 p (lenS o)) p) λq r=>ob (gd c false (pure1 r (binV .geq .scalar d q)) r) λs t=>oa (pickV c (.bool true) s) λu=>cond2 u
 (
 some ((I (-1)),t)
 )
 (
 oa (nilCk a) λv=>oa (fldA 1 v) λw=>oa (ld1 t w) λx=>oa (idxS 1 x b) λy=>oa (ld1 t y) λz=>some (z,t)
 ):=fnEq
end
end Go.Gm.AZ
namespace Go.Gm.AZ
open Go Go.Gm
theorem o7_ {a n:Int}(hn:0<n)(hf:Fit n)(h:Heap):Tot tab b8_ [I a,I n] h λv h'=>v=I (a % n)/\h=h':=by
 refine WP.tot (a9u · ..) ?_
 refine WP.oa (a8F a n oM) ?_
 refine WP.oa (a6U _ _) ?_
 have hlt:=Int.tmod_lt_of_pos a hn
 have hgt:=Int.lt_tmod_of_pos a hn
 have h1:=Int.tmod_eq_emod (a:=a) (b:=n)
 have h2:=Int.emod_nonneg a (by omega:n≠0)
 have h3:=Int.emod_lt_of_pos a hn
 by_cases h0:a.tmod n<0
 ·simp only[decide_eq_true h0,a2L]
  refine WP.oa (a8E _ _ (by unfold Fit at *; omega)) (WP.ret ⟨?_,rfl⟩)
  congr 1
  split at h1<;>omega
 ·simp only[decide_eq_false h0,a1M]
  refine WP.ret ⟨?_,rfl⟩
  congr 1
  split at h1<;>omega
end Go.Gm.AZ
namespace Go.Gm.AZ
open Go Go.Gm
structure E where
 fr:Int
 to:Int
 md:Int
 co:Int
 deriving Inhabited
def encE (e:E):List AV:=[I e.fr,I e.to,I e.md,I e.co]
def encI (n:Int):List AV:=[I n]
def encB (b:Bool):List AV:=[.bool b]
def encP (p:AV × AV):List AV:=[p.1,p.2]
structure NetOk (N:Int) (es:List E):Prop where
 n0:0<=N
 n1:N<=100000
 len:es.length<=100000
 edge:∀e∈es,0<=e.fr/\e.fr<N/\0<=e.to/\e.to<N/\0<=e.md/\e.md<5
def idxTo (p:E->Bool)(es:List E)(n:Nat):List Int:=((List.range n).filter λ(i:Nat)=>p (gi es i)).map λ(i:Nat)=>(i:Int)
theorem a5K (p:E->Bool)(es:List E)(n:Nat):idxTo p es (n+1)=idxTo p es n++if p (gi es n) then [(n:Int)] else []:=by
 simp only[idxTo,List.range_succ,List.filter_append,List.map_append]
 congr 1
 by_cases h:p (gi es n)<;>simp[h]
theorem o0_ (p:E->Bool)(es:List E)(n:Nat):(idxTo p es n).length<=n:=by
 simp only[idxTo,List.length_map]
 exact Nat.le_trans (List.length_filter_le ..) (by simp)
theorem q8_ {k:Int}:k∈idxTo p es n↔0<=k/\k<n/\p (gi es k)=true:=by
 simp only[idxTo,List.mem_map,List.mem_filter,List.mem_range]
 constructor
 ·rintro ⟨a,⟨h1,h2⟩,rfl⟩
  exact ⟨oM,oM,h2⟩
 ·rintro ⟨h1,h2,h3⟩
  exact ⟨k.toNat,⟨oM,by rw[show ((k.toNat:Nat):Int)=k by omega]; exact h3⟩,oM⟩
def outL (es:List E)(v:Int):List Int:=idxTo (λe=>e.fr == v) es es.length
def inL (es:List E)(v:Int):List Int:=idxTo (λe=>e.to == v) es es.length
theorem c1t (ok:NetOk N es){v:Int}(hv:¬(0<=v/\v<N)):outL es v=[]:=by
 rw[List.eq_nil_iff_forall_not_mem]
 intro k hk
 rw[outL,q8_] at hk
 have:=ok.edge _ (b7_ hk.1 hk.2.1)
 have h3:=hk.2.2
 simp only[beq_iff_eq] at h3
 omega
structure AdjW (h:Heap) (a:AV) (N:Int) (es:List E) (s so si:AV) (O J:List (AV × AV)):Prop where
 pt:At h a [I N,s,so,si]
 ed:Sl h 4 s (es.map encE)
 so:Sl h 2 so (O.map encP)
 si:Sl h 2 si (J.map encP)
 lo:(O.length:Int)=N
 lj:(J.length:Int)=N
 oe:∀v,0<=v->v<N->Sl h 1 (gi O v).1 ((outL es v).map encI)
 oo:∀v,0<=v->v<N->Sl h 1 (gi O v).2 (((outL es v).map λk=>(gi es k).to).map encI)
 ie:∀v,0<=v->v<N->Sl h 1 (gi J v).1 ((inL es v).map encI)
 io:∀v,0<=v->v<N->Sl h 1 (gi J v).2 (((inL es v).map λk=>(gi es k).fr).map encI)
def AdjV (h:Heap)(a:AV)(N:Int)(es:List E):Prop:=∃s so si O J,AdjW h a N es s so si O J
theorem AdjW.ext {h h':Heap}{a:AV}{N:Int}{es:List E}{s so si:AV}{O J:List (AV × AV)}(w:AdjW h a N es s so si O J)(e:Ext h h'):AdjW h' a N es s so si O J:=
 ⟨w.pt.ext e,w.ed.ext e,w.so.ext e,w.si.ext e,w.lo,w.lj,λv h0 h1=>(w.oe v h0 h1).ext e,λv h0 h1=>(w.oo v h0 h1).ext e,λv h0 h1=>(w.ie v h0 h1).ext e,λv h0 h1=>(w.io v h0 h1).ext e⟩
theorem AdjV.ext (w:AdjV h a N es)(e:Ext h h'):AdjV h' a N es:=by
 obtain ⟨s,so,si,O,J,w⟩:=w
 exact ⟨s,so,si,O,J,w.ext e⟩
theorem b4z {a s so si:AV}(ha:At h a [I N,s,so,si]){O:List (AV × AV)}(hO:Sl h 2 so (O.map encP)) :
  Tot tab a4j [a,I v] h λr h'=>r=.bool (decide (0<=v/\v<O.length))/\h=h':=by
 refine WP.tot (b5I · ..) ?_
 by_cases h0:0<=v
 ·by_cases h1:v<O.length
  ·refine g4 ha.nil ha.fldA0 ha.ldfE hO.lenG ?_
   exact WP.ret ⟨by simp[h0,h1],rfl⟩
  ·refine g4 ha.nil ha.fldA0 ha.ldfE hO.lenG ?_
   exact WP.ret ⟨by simp[h0,h1],rfl⟩
 ·refine g0 ?_
  exact WP.ret ⟨by simp[h0],rfl⟩
theorem a8a (hs:Sl h 1 s xs)(hl:xs.length<=10000000) :
  Tot tab r5_ [s] h λr h'=>Ext h h'/\Gr h.length h'.length h' 1 r xs:=by
 refine WP.tot (b1I · ..) ?_
 have hs':=hs
 rcases hs with ⟨rfl,rfl⟩|⟨o,off,lim,g,c,rfl,_⟩
 ·refine g0 ?_
  exact WP.ret ⟨Ext.refl _,Gr.nil ..⟩
 ·obtain ⟨s',h',h1,h2,h3⟩:=b8H (bytes:=8) hs' oM oM oM
  rw[a3_] at h1
  refine g1 @h1 ?_
  exact WP.ret ⟨h3,h2⟩
theorem b7x (hs:Sl h 4 s xs)(hl:xs.length<=10000000) :
  Tot tab a1r [s] h λr h'=>Ext h h'/\Gr h.length h'.length h' 4 r xs:=by
 refine WP.tot (a9d · ..) ?_
 have hs':=hs
 rcases hs with ⟨rfl,rfl⟩|⟨o,off,lim,g,c,rfl,_⟩
 ·refine g0 ?_
  exact WP.ret ⟨Ext.refl _,Gr.nil ..⟩
 ·obtain ⟨s',h',h1,h2,h3⟩:=b8H (bytes:=32) hs' oM oM oM
  rw[a3_] at h1
  refine g1 @h1 ?_
  exact WP.ret ⟨h3,h2⟩
theorem a9G {s1 s2:AV}(hs:Sl h 1 s1 xs)(h2:s2.one=true)(hl:xs.length<=10000000) :
  Tot tab a3L [.agg [s1,s2]] h λr h'=>Ext h h'/\Gr h.length h'.length h' 1 r xs:=by
 refine WP.tot (b3r · ..) ?_
 have e:Ext h (mkObj h [s1,s2]):=Ext.push h _
 obtain ⟨s',h3,h4⟩:=(hs.ext e).cut
 rw[a3_] at h4 e
 refine g4 hs.one @h2 hs.len @h3 ?_
 refine WP.call (a8a h4 hl) ?_
 rintro r h' ⟨e1,g1⟩
 exact WP.ret ⟨e.trans e1,g1.mono (Ext.len e) (Nat.le_refl _)⟩
theorem b4Y {N v:Int}(w:AdjW h a N es s so si O J){L:List (AV × AV)}(hl:Sl h 2 l (L.map encP))(hL:(L.length:Int)=N)(h1:∀v,0<=v->v<N->(gi L v).1.one=true/\(gi L v).2.one=true) :
  Tot tab a4u [a,l,I v] h λr h'=>Ext h h'/\r=if 0<=v/\v<N then .agg [(gi L v).1,(gi L v).2] else .agg [.nils,.nils]:=by
 refine WP.tot (b4b · ..) ?_
 refine g0 ?_
 have e:Ext h (mkObj h [.nils,.nils]):=Ext.push h _
 rw[a3_] at e
 refine WP.call (b4z (w.pt.ext e) (w.so.ext e)) ?_
 rintro _ _ ⟨rfl,rfl⟩
 have hlo:=w.lo
 by_cases hv:0<=v/\v<N
 ·rw[if_pos hv]
  obtain ⟨k1,k2⟩:=h1 v hv.1 hv.2
  refine g6 (show decide (0<=v/\v<(O.length:Int))=true from decide_eq_true oM) hl.idxG hl.ldN @encP.eq_1 @k1 @k2 ?_
  exact WP.ret ⟨eX,rfl⟩
 ·rw[if_neg hv]
  refine g1 (show decide (0<=v/\v<(O.length:Int))=false from decide_eq_false oM) ?_
  exact WP.ret ⟨eX,rfl⟩
theorem c1u (ok:NetOk N es)(w:AdjV h a N es) :
  Tot tab a7U [a,I v] h λr h'=>Ext h h'/\Gr h.length h'.length h' 1 r ((outL es v).map encI):=by
 obtain ⟨s,so,si,O,J,w⟩:=w
 refine WP.tot (b4H · ..) ?_
 refine g3 w.pt.nil w.pt.fldA0 w.pt.ldfE ?_
 refine WP.call (b4Y w w.so w.lo λv h0 h1=>⟨(w.oe v h0 h1).one,(w.oo v h0 h1).one⟩) ?_
 rintro r h1 ⟨e1,rfl⟩
 have hl:(outL es v).length<=100000:=Nat.le_trans (o0_ ..) ok.len
 by_cases hv:0<=v/\v<N
 ·rw[if_pos hv]
  refine WP.call (a9G ((w.oe v hv.1 hv.2).ext e1) (w.oo v hv.1 hv.2).one (by simp; omega)) ?_
  rintro r h' ⟨e2,g⟩
  exact WP.ret ⟨e1.trans e2,g.mono e1.len (Nat.le_refl _)⟩
 ·rw[if_neg hv,c1t ok hv]
  refine WP.call (a9G (xs:=[]) (.inl ⟨rfl,rfl⟩) rfl (by simp)) ?_
  rintro r h' ⟨e2,g⟩
  exact WP.ret ⟨e1.trans e2,g.mono e1.len (Nat.le_refl _)⟩
end Go.Gm.AZ
namespace Go.Gm.AZ
open Go Go.Gm
theorem w3_ {α:Type}[Inhabited α]{xs:List α}{i j:Int}(h0:0<=i)(h1:i<xs.length)(hj:0<=j)(x:α):gi (xs.set i.toNat x) j=if j=i then x else gi xs j:=by
 simp only[gi,List.getD_eq_getElem?_getD]
 by_cases h:j=i
 ·subst h
  rw[if_pos rfl,List.getElem?_set_self oM]; rfl
 ·rw[if_neg h,List.getElem?_set_ne oM]
theorem b5T {κ:Type}[DecidableEq κ]{W:Nat->Prop}{h:Heap}{A:κ->Prop}{S:κ->AV}{X:κ->List (List AV)}(f:Fam W h 1 A S X){t1 t2:κ}(a1:A t1)(a2:A t2)(hne:t1≠t2){q:Nat}(hq:¬W q)(hqh:q<h.length){arr:AV}{L:List (AV × AV)}(g:Gr q (q+1) h 2 arr (L.map encP)){v:Int}(v0:0<=v)(v1:v<L.length)(e1:(gi L v).1=S t1)(e2:(gi L v).2=S t2)(edge other:Int)(l1:(X t1).length<=1000000)(l2:(X t2).length<=1000000) :
  Tot tab a4t [elP 2 arr v,I edge,I other] h λr h'=>∃s1 s2,Gr q (q+1) h' 2 arr ((L.set v.toNat (s1,s2)).map encP)/\
   Fam (λo=>W o\/h.length<=o) h' 1 A (λt=>if t=t2 then s2 else if t=t1 then s1 else S t) (λt=>if t=t2 then X t2++[[I other]] else if t=t1 then X t1++[[I edge]] else X t)/\FrS (λo=>o=q\/W o) h h':=by
 refine WP.tot (b4a · ..) ?_
 have b1:Sl ((h++[AObj.cells ⟨[I edge],0,0,false⟩])++[AObj.cells ⟨[I other],0,0,false⟩]) 1 (.sl h.length 0 1 1 none 0) [[I edge]]:=((Gr.lit (h:=h) (sz:=1) (v:=[I edge]) rfl).sl).ext (by rw[a3_]; exact eX)
 have b2:Sl ((h++[AObj.cells ⟨[I edge],0,0,false⟩])++[AObj.cells ⟨[I other],0,0,false⟩]) 1 (.sl (h.length+1) 0 1 1 none 0) [[I other]]:=by
  have:=(Gr.lit (h:=h++[AObj.cells ⟨[I edge],0,0,false⟩]) (sz:=1) (v:=[I other]) rfl).sl
  simpa [a3_] using this
 have ex0:Ext h (h++[AObj.cells ⟨[I edge],0,0,false⟩]):=eX
 have ex:Ext h ((h++[AObj.cells ⟨[I edge],0,0,false⟩])++[AObj.cells ⟨[I other],0,0,false⟩]):=eX
 have hl2:((h++[AObj.cells ⟨[I edge],0,0,false⟩])++[AObj.cells ⟨[I other],0,0,false⟩]).length=h.length+2:=by simp
 obtain ⟨h2,hh⟩:∃h2,h2=((h++[AObj.cells ⟨[I edge],0,0,false⟩])++[AObj.cells ⟨[I other],0,0,false⟩]):=⟨_,rfl⟩
 rw[<-hh] at b1 b2 ex hl2
 have f2:Fam (λo=>W o/\o<h.length) h2 1 A S X:=(f.mono λo q1 q2=>⟨q2,q1⟩).frs (D:=λ_=>False) (FrS.ofExt ex) (λ_ _ _ q=>q)
 obtain ⟨s1,h3,k1,k2,k3,k4⟩:=f2.append (bytes:=8) a1 b1 (by simp) oM oM (by simp; omega)
 have b2':Sl h3 1 (.sl (h.length+1) 0 1 1 none 0) [[I other]]:=by
  obtain ⟨o,off,lim,gg,c,q1,q2,q3⟩:=b2.resolve_left (by simp)
  injection q1 with p1 p2 p3 p4 p5 p6
  refine .inr ⟨o,off,lim,gg,c,by rw[<-p1,<-p2,<-p3,<-p5,<-p6],?_,q3⟩
  rw[k4.get oM oM]
  exact q2
 obtain ⟨s2,h4,m1,m2,m3,m4⟩:=k3.append (bytes:=8) (t:=t2) a2 b2' (by simp) oM oM (by rw[if_neg (λq=>hne q.symm)]; simp; omega)
 simp only[if_neg (show ¬t2=t1 from λq=>hne q.symm)] at m1 m3
 have g3:=(g.ext ex).frs k4 (λo q1 q2 q3=>hq (by rw[show q=o by omega]; exact q3.1))
 have g4:=g3.frs m4 (λo q1 q2 q3=>by
  rcases q3 with q3|q3
  ·exact hq (by rw[show q=o by omega]; exact q3.1)
  ·omega)
 have c1:s1.cells=[s1]:=by
  have:=(k3.sl a1).cells
  simpa using this
 have c2:s2.cells=[s2]:=by
  have:=(m3.sl a2).cells
  simpa using this
 obtain ⟨h5,n1,n2,n3,n4⟩:=g4.write (i:=v) v0 (x:=encP (gi L v)) (by simp[c1_ v0 v1]) 0 1 (v:=s1) (by rw[c1]; rfl) oM (by rw[c1]; simp[k2])
 rw[c1] at n2
 obtain ⟨h6,r1,r2,r3,r4⟩:=n2.write (i:=v) v0 (x:=setAll (encP (gi L v)) 0 [s1]) (by rw[List.getElem?_set_self (by simp; omega)]) 1 1 (v:=s2) (by rw[c2]; rfl) oM (by rw[c2]; simp[m2])
 rw[c2,List.set_set] at r2
 have g3s:=g3.sl
 rw[hh] at k1
 have ldk:ld1 h3 (fldP 1 (elP 2 arr v))=some (S t2):=by
  have:=g3s.ldf 1 (i:=v) (Ext.refl _) v0 v1 oM
  simpa [encP,e2] using this
 refine g9 g.sl.ldf @encP.eq_1 @e1 @e2 @k1 @ldk @m1 @n1 @r1 ?_
 refine WP.ret ⟨s1,s2,?_,?_,?_⟩
 ·refine r2.cong ?_
  rw[List.map_set]; rfl
 ·have f4:=(m3.frs n3.s (λo q1 q2 q3=>?_)).frs r3.s (λo q1 q2 q3=>?_)
  ·refine (f4.mono λo q1 q2=>?_).congr λt ht=>?_
   ·rcases q2 with (q2|q2)|q2
    ·exact .inl q2.1
    ·exact .inr oM
    ·have:=k4.len
     exact .inr oM
   ·by_cases x2:t=t2
    ·simp[x2]
    ·simp[x2]
  ·have:o=q:=oM
   subst this
   rcases q2 with (q2|q2)|q2
   ·exact hq q2.1
   ·omega
   ·have:=k4.len; omega
  ·have:o=q:=oM
   subst this
   rcases q2 with (q2|q2)|q2
   ·exact hq q2.1
   ·omega
   ·have:=k4.len; omega
 ·have z1:FrS (λo=>o=q\/W o) h h2:=FrS.ofExt ex
  have z2:FrS (λo=>o=q\/W o) h2 h3:=k4.mono λo q1 q2=>.inr q2.1
  have z3:FrS (λo=>o=q\/W o\/h2.length<=o) h3 h4:=m4.mono λo q1 q2=>by
   rcases q2 with q2|q2
   ·exact .inr (.inl q2.1)
   ·exact .inr (.inr q2)
  have z4:FrS (λo=>o=q) h4 h6:=(n3.s.mono λo q1 q2=>oM).trans (r3.s.mono λo q1 q2=>oM)
  refine ⟨by have:=z1.len; have:=z2.len; have:=z3.len; have:=z4.len; omega,λo q1 q2=>?_⟩
  have l1:=z1.len
  have l2:=z2.len
  have l3:=z3.len
  rw[z4.get (λq=>q1 (.inl q)) oM,z3.get (λq=>?_) oM,z2.get q1 oM,z1.get q1 q2]
  rcases q with q|q|q
  ·exact q1 (.inl q)
  ·exact q1 (.inr q)
  ·omega
def Sf (O J:List (AV × AV))(t:Nat × Nat):AV:=match t with
 |(0,v)=>(gi O v).1
 |(1,v)=>(gi O v).2
 |(2,v)=>(gi J v).1
 |(_,v)=>(gi J v).2
def Xf (es:List E)(n:Nat)(t:Nat × Nat):List Int:=match t with
 |(0,v)=>idxTo (λe=>e.fr == (v:Int)) es n
 |(1,v)=>(idxTo (λe=>e.fr == (v:Int)) es n).map λk=>(gi es k).to
 |(2,v)=>idxTo (λe=>e.to == (v:Int)) es n
 |(_,v)=>(idxTo (λe=>e.to == (v:Int)) es n).map λk=>(gi es k).fr
theorem b3W (es:List E)(n:Nat)(t:Nat × Nat):(Xf es n t).length<=n:=by
 obtain ⟨j,v⟩:=t
 match j with
 |0=>simp only[Xf]; exact o0_ ..
 |1=>simp only[Xf,List.length_map]; exact o0_ ..
 |2=>simp only[Xf]; exact o0_ ..
 |j+3=>simp only[Xf,List.length_map]; exact o0_ ..
structure NewI (hb:Heap) (N:Nat) (es:List E) (q1 q2:Nat) (so si:AV) (n:Nat) (h:Heap) (O J:List (AV × AV)):Prop where
 fr:FrS (λo=>o=q1\/o=q2\/hb.length<=o) hb h
 go:Gr q1 (q1+1) h 2 so (O.map encP)
 gj:Gr q2 (q2+1) h 2 si (J.map encP)
 lo:O.length=N
 lj:J.length=N
 fam:Fam (λo=>hb.length<=o) h 1 (λt:Nat × Nat=>t.1<4/\t.2<N) (Sf O J) λt=>(Xf es n t).map encI
theorem c1s {hb:Heap}{N:Nat}{es:List E}{q1 q2 qa:Nat}{s s' so si:AV}(ok:NetOk N es)(hq1:q1<hb.length)(hq2:q2<hb.length)(hqa:qa<hb.length)(hne:q1≠q2)(hna1:qa≠q1)(hna2:qa≠q2)(ha:hb[qa]?=some (.cells ⟨[I N,s',so,si],0,0,false⟩)){Q:AV->Heap->Prop}(hs:∀h,FrS (λo=>o=q1\/o=q2\/hb.length<=o) hb h->Sl h 4 s (es.map encE))(hQ:∀h O J,NewI hb N es q1 q2 so si es.length h O J->Q (.ptr qa 0 4 0) h) :
  ∀(d n:Nat) (h:Heap) (O J:List (AV × AV)),n+d=es.length->NewI hb N es q1 q2 so si n h O J->
   WP (λp:Nat × Nat=>a5T p.1 p.2 (.ptr qa 0 4 0) s (I es.length) (I n) h) Q:=by
 intro d
 induction d with
 |zero=>
  intro n h O J h1 w
  refine WP.rnd (b1E · · ..) ?_
  refine g0 ?_
  refine WP.ret (hQ h O J ?_)
  rw[<-show n=es.length by omega]; exact w
 |succ d ih=>
  intro n h O J h1 w
  have hln:=ok.len
  refine WP.rnd (b1E · · ..) ?_
  obtain ⟨e,he⟩:∃e,gi es n=e:=⟨_,rfl⟩
  have hed:=ok.edge _ (b7_ (xs:=es) (i:=(n:Int)) oM oM)
  rw[he] at hed
  have hsl:=hs h w.fr
  have hwl:=w.fr.len
  obtain ⟨h6,hh6⟩:∃h6,h6=(h++[AObj.cells ⟨[I 0,I 0,I 0,I 0],0,0,false⟩]).set h.length (.cells ⟨encE e,0,0,false⟩):=⟨_,rfl⟩
  have ex:Ext h h6:=by rw[hh6]; exact eX
  have hr6:h6[h.length]?=some (.cells ⟨encE e,0,0,false⟩):=by rw[hh6]; simp
  have hl6:h6.length=h.length+1:=by rw[hh6]; simp
  have hp6:At h6 (.ptr qa 0 4 0) [I N,s',so,si]:=by
   exact At.row (ex.get (by rw[w.fr.get oM hqa]; exact ha)) (Nat.le_refl _) rfl
  have he6:At h6 (.ptr h.length 0 4 0) (encE e):=At.row hr6 (Nat.le_refl _) rfl
  have so6:=w.go.ext ex
  have sj6:=w.gj.ext ex
  have f6:Fam (λo=>hb.length<=o/\o<h.length) h6 1 (λt:Nat × Nat=>t.1<4/\t.2<N) (Sf O J) λt=>(Xf es n t).map encI:=
   (w.fam.mono λo q1 q2=>⟨q2,q1⟩).frs (D:=λ_=>False) (FrS.ofExt ex) (λ_ _ _ q=>q)
  have hlo:=w.lo
  have hlj:=w.lj
  have hx0:=b3W es n (0,e.fr.toNat)
  have hx1:=b3W es n (1,e.fr.toNat)
  have hx2:=b3W es n (2,e.to.toNat)
  have hx3:=b3W es n (3,e.to.toNat)
  have hfn:((e.fr.toNat:Nat):Int)=e.fr:=oM
  have htn:((e.to.toNat:Nat):Int)=e.to:=oM
  refine g4 hsl.idxG hsl.ldN @he @encE.eq_1 ?_
  simp only[encE] at hh6
  rw[<-hh6]
  refine WP.call (b4z hp6 so6.sl) ?_
  rintro _ h7 ⟨rfl,e7⟩
  obtain rfl:=e7
  simp only[encE] at hr6
  have hra:h6[qa]?=some (.cells ⟨[I N,s',so,si],0,0,false⟩):=ex.get (by rw[w.fr.get oM hqa]; exact ha)
  refine g3 (show decide (0<=e.fr/\e.fr<(O.length:Int))=true from decide_eq_true oM) @hr6 @hra ?_
  refine WP.call (b4z hp6 so6.sl) ?_
  rintro _ h7 ⟨rfl,e7⟩
  obtain rfl:=e7
  refine g4 (show decide (0<=e.to/\e.to<(O.length:Int))=true from decide_eq_true oM) @hr6 @hra so6.sl.idxG ?_
  refine WP.call (b5T f6 (t1:=(0,e.fr.toNat)) (t2:=(1,e.fr.toNat)) ⟨by simp,by simp; omega⟩ ⟨by simp,by simp; omega⟩ (by simp) oM oM so6 hed.1 oM (by simp only[Sf,hfn]) (by simp only[Sf,hfn]) n e.to (by simp; omega) (by simp; omega)) ?_
  rintro r8 h8 ⟨s1,s2,so8,f8,fr8⟩
  have hl8:=fr8.len
  have hr8:h8[h.length]?=some (.cells ⟨[I e.fr,I e.to,I e.md,I e.co],0,0,false⟩):=by rw[fr8.get oM oM]; exact hr6
  have hra8:h8[qa]?=some (.cells ⟨[I N,s',so,si],0,0,false⟩):=by rw[fr8.get oM oM]; exact hra
  have sj8:=sj6.frs fr8 (λo q1 q2=>oM)
  refine g3 @hr8 @hra8 sj8.sl.idxG ?_
  refine WP.call (b5T f8 (t1:=(2,e.to.toNat)) (t2:=(3,e.to.toNat)) ⟨by simp,by simp; omega⟩ ⟨by simp,by simp; omega⟩ (by simp) oM oM sj8 hed.2.2.1 oM (by simp[Sf,htn]) (by simp[Sf,htn]) n e.fr (by simp; omega) (by simp; omega)) ?_
  rintro r9 h9 ⟨s3,s4,sj9,f9,fr9⟩
  have hl9:=fr9.len
  have so9:=so8.frs fr9 (λo q1 q2=>oM)
  refine ih (n+1) h9 _ _ oM ⟨?_,so9,sj9,by simp; exact hlo,by simp; exact hlj,?_⟩
  ·have z1:=(w.fr.trans (FrS.ofExt ex)).trans (fr8.mono λo q1 q2=>oM)
   exact z1.trans (fr9.mono λo q1 q2=>oM)
  ·refine (f9.mono λo q1 q2=>oM).congr λt ht=>?_
   have hgo:∀v:Nat,v<N->gi (O.set e.fr.toNat (s1,s2)) (v:Int)=if (v:Int)=e.fr then (s1,s2) else gi O v:=λv hv=>w3_ hed.1 oM oM _
   have hgj:∀v:Nat,v<N->gi (J.set e.to.toNat (s3,s4)) (v:Int)=if (v:Int)=e.to then (s3,s4) else gi J v:=λv hv=>w3_ hed.2.2.1 oM oM _
   obtain ⟨j,v⟩:=t
   obtain ⟨hj,hv⟩:=ht
   simp only at hj hv
   have efr:((v:Int)=e.fr)↔v=e.fr.toNat:=oM
   have eto:((v:Int)=e.to)↔v=e.to.toNat:=oM
   have hxs:=λp=>a5K p es n
   match j,hj with
   |0,_=>
    simp only[Sf,Xf,hgo v hv,efr,hxs,he,Prod.mk.injEq]
    by_cases hvf:v=e.fr.toNat
    ·subst hvf; simp[encI,hfn,Sf,Xf]
    ·have:¬e.fr=(v:Int):=λq=>hvf (efr.1 q.symm)
     simp[hvf,this,Sf,Xf]
   |1,_=>
    simp only[Sf,Xf,hgo v hv,efr,hxs,he,Prod.mk.injEq]
    by_cases hvf:v=e.fr.toNat
    ·subst hvf; simp[encI,hfn,Sf,Xf,he]
    ·have:¬e.fr=(v:Int):=λq=>hvf (efr.1 q.symm)
     simp[hvf,this,Sf,Xf]
   |2,_=>
    simp only[Sf,Xf,hgj v hv,eto,hxs,he,Prod.mk.injEq]
    by_cases hvf:v=e.to.toNat
    ·subst hvf; simp[encI,htn,Sf,Xf]
    ·have:¬e.to=(v:Int):=λq=>hvf (eto.1 q.symm)
     simp[hvf,this,Sf,Xf]
   |3,_=>
    simp only[Sf,Xf,hgj v hv,eto,hxs,he,Prod.mk.injEq]
    by_cases hvf:v=e.to.toNat
    ·subst hvf; simp[encI,htn,Sf,Xf,he]
    ·have:¬e.to=(v:Int):=λq=>hvf (eto.1 q.symm)
     simp[hvf,this,Sf,Xf]
theorem b4X {h:Heap}{N:Nat}{s:AV}{es:List E}(ok:NetOk N es)(hs:Sl h 4 s (es.map encE)) :
  Tot tab a7p [.agg [I N,s]] h λr h'=>Ext h h'/\(∀H,(∀o,h.length<=o->o<h'.length->H[o]?=h'[o]?)->AdjV H r N es)/\∃o,h.length<=o/\r=.ptr o 0 4 0:=by
 have hnb:=ok.n1
 have hln:=ok.len
 refine WP.tot (b8Z · ..) ?_
 have e1:Ext h (h++[AObj.cells ⟨[I N,s],0,0,false⟩]):=eX
 obtain ⟨h1,hh1⟩:∃h1,h1=h++[AObj.cells ⟨[I N,s],0,0,false⟩]:=⟨_,rfl⟩
 rw[<-hh1] at e1
 have hr1:h1[h.length]?=some (.cells ⟨[I N,s],0,0,false⟩):=by rw[hh1]; simp
 have hl1:h1.length=h.length+1:=by rw[hh1]; simp
 have hmx:max (N:Int) 0=N:=oM
 obtain ⟨so,h2,k1,k2,k3,k4,k5⟩:=g0_ (zero:=[AV.nils,.nils]) (sz:=2) (bytes:=48) (n:=(N:Int)) h1 oM oM oM rfl rfl
 obtain ⟨si,h3,m1,m2,m3,m4,m5⟩:=g0_ (zero:=[AV.nils,.nils]) (sz:=2) (bytes:=48) (n:=(N:Int)) h2 oM oM oM rfl rfl
 have hr2:=k3.get hr1
 have hr3:=m3.get hr2
 have e4:Ext h3 (h3++[AObj.cells ⟨[I 0,.nils,so,si],0,0,false⟩]):=eX
 obtain ⟨h4,hh4⟩:∃h4,h4=h3++[AObj.cells ⟨[I 0,.nils,so,si],0,0,false⟩]:=⟨_,rfl⟩
 rw[<-hh4] at e4
 have hr4:=e4.get hr3
 have hl4:h4.length=h3.length+1:=by rw[hh4]; simp
 have hra:h4[h3.length]?=some (.cells ⟨[I 0,.nils,so,si],0,0,false⟩):=by rw[hh4]; simp
 refine g2 hs.one hs.cells ?_
 rw[<-hh1]
 refine g10 @hr1 @hmx @k1 @hr2 @m1 @hr3 k2.sl.one k2.sl.cells m2.sl.one m2.sl.cells ?_
 rw[show I 0=I 0 from rfl,<-hh4]
 refine WP.call (b7x (hs.ext ((e1.trans k3).trans (m3.trans e4))) (by simp; omega)) ?_
 rintro s' h5 ⟨e5,g5⟩
 have hr5:=e5.get hr4
 have hra5:=e5.get hra
 have hl5:=e5.len
 obtain ⟨h6,hh6⟩:∃h6,h6=h5.set h3.length (.cells ⟨[I N,s',so,si],0,0,false⟩):=⟨_,rfl⟩
 have hl6:h6.length=h5.length:=by rw[hh6]; simp
 have f6:FrS (λo=>o=h3.length) h5 h6:=by rw[hh6]; exact ⟨by simp,λo q1 q2=>List.getElem?_set_ne (λq=>q1 q.symm)⟩
 have e6:Ext h h6:=f6.ext (((e1.trans k3).trans (m3.trans e4)).trans e5) (λo q1 q2=>oM)
 have e25:Ext h2 h5:=(m3.trans e4).trans e5
 have e35:Ext h3 h5:=e4.trans e5
 have hr6:h6[h.length]?=some (.cells ⟨[I N,s],0,0,false⟩):=by rw[f6.get oM oM]; exact hr5
 have hra6:h6[h3.length]?=some (.cells ⟨[I N,s',so,si],0,0,false⟩):=by rw[hh6]; exact a0_ oM
 have hgg:Gr h4.length h6.length h6 4 s' (es.map encE):=(g5.frs f6 (λo q1 q2=>oM)).mono (Nat.le_refl _) oM
 have go6:Gr h1.length (h1.length+1) h6 2 so (List.replicate N [AV.nils,.nils]):=(k2.ext e25).frs f6 (λo q1 q2=>oM)
 have gi6:Gr h2.length (h2.length+1) h6 2 si (List.replicate N [AV.nils,.nils]):=(m2.ext e35).frs f6 (λo q1 q2=>oM)
 have hrep:List.replicate N [AV.nils,.nils]=(List.replicate N (AV.nils,AV.nils)).map encP:=by rw[List.map_replicate]; rfl
 rw[hrep] at go6 gi6
 simp only[I] at hr5 hra5 hr6 hh6
 refine g4 @hr5 @hra5 g5.sl.one g5.sl.cells ?_
 rw[<-hh6]
 refine g2 @hr6 hs.lenG ?_
 have hgi:∀v,0<=v->v<(N:Int)->gi (List.replicate N (AV.nils,AV.nils)) v=(AV.nils,AV.nils):=λv v0 v1=>by
  have:v.toNat<N:=oM
  simp[gi,List.getD_eq_getElem?_getD,List.getElem?_replicate,this]
 refine WP.ent (c1s (q1:=h1.length) (q2:=h2.length) (qa:=h3.length) (hb:=h6) (s':=s') (so:=so) (si:=si) ok oM oM oM oM oM oM hra6 (λH f=>hs.ext (f.ext e6 (λo q1 q2=>oM))) ?_ es.length 0 h6 _ _ oM
  ⟨FrS.refl _ _,go6,gi6,by simp,by simp,Fam.nil _ _ _ λt ht=>?_⟩) λi=>rfl
 ·intro H O J w
  refine ⟨w.fr.ext e6 (λo q1 q2=>oM),λH2 hag=>⟨s',so,si,O,J,?_,?_,(w.go.agree λo q1 q2 q3=>hag o oM q3).sl,(w.gj.agree λo q1 q2 q3=>hag o oM q3).sl,by have:=w.lo; omega,by have:=w.lj; omega,?_,?_,?_,?_⟩,⟨h3.length,oM,rfl⟩⟩
  ·exact At.row (by rw[hag _ oM (by have:=w.fr.len; omega),w.fr.get oM oM]; exact hra6) (Nat.le_refl _) rfl
  ·exact ((hgg.frs w.fr (λo q1 q2=>oM)).agree λo q1 q2 q3=>hag o oM q3).sl
  ·intro v v0 v1
   have:=w.fam.slA (t:=(0,v.toNat)) ⟨by simp,by simp; omega⟩ (λo q1 q2=>hag o oM q2)
   simpa only[Sf,Xf,outL,inL,show ((v.toNat:Nat):Int)=v by omega] using this
  ·intro v v0 v1
   have:=w.fam.slA (t:=(1,v.toNat)) ⟨by simp,by simp; omega⟩ (λo q1 q2=>hag o oM q2)
   simpa only[Sf,Xf,outL,inL,show ((v.toNat:Nat):Int)=v by omega] using this
  ·intro v v0 v1
   have:=w.fam.slA (t:=(2,v.toNat)) ⟨by simp,by simp; omega⟩ (λo q1 q2=>hag o oM q2)
   simpa only[Sf,Xf,outL,inL,show ((v.toNat:Nat):Int)=v by omega] using this
  ·intro v v0 v1
   have:=w.fam.slA (t:=(3,v.toNat)) ⟨by simp,by simp; omega⟩ (λo q1 q2=>hag o oM q2)
   simpa only[Sf,Xf,outL,inL,show ((v.toNat:Nat):Int)=v by omega] using this
 ·obtain ⟨j,v⟩:=t
  obtain ⟨hj,hv⟩:=ht
  simp only at hj hv
  have hg:=hgi v oM oM
  match j,hj with
  |0,_=>simp[Sf,Xf,hg,idxTo]
  |1,_=>simp[Sf,Xf,hg,idxTo]
  |2,_=>simp[Sf,Xf,hg,idxTo]
  |3,_=>simp[Sf,Xf,hg,idxTo]
end Go.Gm.AZ
namespace Go.Gm.AZ
open Go Go.Gm
def mkN (size:Int):Int:=1+size % 12
def mkEdge (N modes k:Int):E:=
 let fr:=k % N
 let to:=IntKind.i64.wrap (k.tdiv 13) % N
 let md:=IntKind.i64.wrap (k.tdiv 170) % 5
 ⟨fr,to,if modes % 3=0 then (fr+to) % 2 else if modes % 3=1 then IntKind.i64.wrap (md*fr) % 3 else md,
  if k % 31=0 then 2147483647-IntKind.i64.wrap (k.tdiv 31) % 3 else IntKind.i64.wrap (k.tdiv 900) % 9⟩
def mkE (size:Int)(zs:List Int)(modes:Int):List E:=(zs.take 40).map (mkEdge (mkN size) modes)
theorem u3_ (size:Int):1<=mkN size/\mkN size<=12:=by unfold mkN; omega
theorem a5H (size:Int)(zs:List Int)(modes:Int):NetOk (mkN size) (mkE size zs modes):=by
 have hN:=u3_ size
 refine ⟨oM,oM,by simp[mkE]; omega,?_⟩
 intro e he
 simp only[mkE,List.mem_map] at he
 obtain ⟨k,_,rfl⟩:=he
 try simp only[mkEdge]
 have h1:=Int.emod_nonneg k (show mkN size≠0 by omega)
 have h2:=Int.emod_lt_of_pos k (show 0<mkN size by omega)
 have h3:=Int.emod_nonneg (IntKind.i64.wrap (k.tdiv 13)) (show mkN size≠0 by omega)
 have h4:=Int.emod_lt_of_pos (IntKind.i64.wrap (k.tdiv 13)) (show 0<mkN size by omega)
 refine ⟨h1,h2,h3,h4,?_⟩
 split
 ·omega
 ·split<;>omega
structure MkI (h0:Heap) (N:Int) (xs:List E) (h:Heap) (s:AV) (hi:Nat):Prop where
 ext:Ext h0 h
 r6:h[h0.length]?=some (.cells ⟨[I 0,.nils],0,0,false⟩)
 r7:h[h0.length+1]?=some (.cells ⟨[I N,s],0,0,false⟩)
 gr:Gr (h0.length+2) hi h 4 s (xs.map encE)
 hin:hi<=h.length
 lon:h0.length+2<=hi
theorem b7P {xs:List E}{n:Nat}(hx:xs.length<=1000)(hn:n<=1000){e:E}(ih:∀h s,MkI h0 N (xs++[e]) h s h.length->WP (λp:Nat × Nat=>k3_ p.1 p.2 ns (I modes) (.ptr h0.length 0 2 0) (.ptr (h0.length+1) 0 2 0) (I (n+1)) h) Q){h:Heap}{s:AV}(w:MkI h0 N xs h s oe)(he:h[oe]?=some (.cells ⟨encE e,0,0,false⟩)) :
  WP (λp:Nat × Nat=>z3_ p.1 p.2 ns (I modes) (.ptr h0.length 0 2 0) (.ptr (h0.length+1) 0 2 0) (I n) (.ptr oe 0 4 0) h) Q:=by
 refine WP.congr (λp=>a8L p.1 p.2 ..) ?_
 have hlo:=w.lon
 have hhi:=w.hin
 have hoe:oe<h.length:=(List.getElem?_eq_some_iff.1 he).1
 obtain ⟨s',h',k1,k2,k3⟩:=w.gr.append1 (bytes:=32) (v:=encE e) rfl oM oM (by simp; omega) oM oM
 have r6':h'[h0.length]?=some (.cells ⟨[I 0,.nils],0,0,false⟩):=by rw[k3.get oM oM]; exact w.r6
 have r7':h'[h0.length+1]?=some (.cells ⟨[I N,s],0,0,false⟩):=by rw[k3.get oM oM]; exact w.r7
 have hl':=k3.len
 have w7:=w.r7
 rw[a3_] at k1
 simp only[encE] at he k1
 refine g6 @w7 @he @k1 @r7' k2.sl.one k2.sl.cells ?_
 refine ih _ s' ⟨?_,?_,?_,?_,by simp,by simp; omega⟩
 ·have:=k3.ext w.ext oM
  exact eX
 ·rw[a9_ oM]; exact r6'
 ·rw[a0_ oM]
 ·refine ((k2.set oM _).mono (Nat.le_refl _) (by simp)).cong ?_
  simp[encE]
theorem c2V {N modes k:Int}{xs:List E}{n:Nat}(hx:xs.length<=1000)(hn:n<=1000){e:E}(ih:∀h s,MkI h0 N (xs++[{ e with co:=if k % 31=0 then 2147483647-IntKind.i64.wrap (k.tdiv 31) % 3 else e.co }]) h s h.length->WP (λp:Nat × Nat=>k3_ p.1 p.2 ns (I modes) (.ptr h0.length 0 2 0) (.ptr (h0.length+1) 0 2 0) (I (n+1)) h) Q){h:Heap}{s:AV}(w:MkI h0 N xs h s oe)(he:h[oe]?=some (.cells ⟨encE e,0,0,false⟩)) :
  WP (λp:Nat × Nat=>k4_ p.1 p.2 ns (I modes) (.ptr h0.length 0 2 0) (.ptr (h0.length+1) 0 2 0) (I n) (I k) (.ptr oe 0 4 0) h) Q:=by
 refine WP.congr (λp=>a8M p.1 p.2 ..) ?_
 have hlo:=w.lon
 have hhi:=w.hin
 have hoe:oe<h.length:=(List.getElem?_eq_some_iff.1 he).1
 refine WP.call (o7_ oM (by unfold Fit; omega) h) ?_
 rintro _ h1 ⟨rfl,e1⟩
 obtain rfl:=e1
 by_cases h31:k % 31=0
 ·refine g0 ?_
  refine WP.call (o7_ oM (by unfold Fit; omega) h) ?_
  rintro _ h1 ⟨rfl,e1⟩
  obtain rfl:=e1
  simp only[encE] at he
  refine g1 @he ?_
  refine b7P hx hn ih (s:=s) ⟨?_,?_,?_,w.gr.set oM _,by simp; omega,hlo⟩ ?_
  ·have:=w.ext
   exact eX
  ·rw[a9_ oM]; exact w.r6
  ·rw[a9_ oM]; exact w.r7
  ·rw[a0_ oM]; simp[encE,h31]
 ·refine g0 ?_
  refine b7P hx hn ih (s:=s) w ?_
  rw[he]; simp[encE,h31]
theorem c2W {zs:List Int}(hns:Sl h0 1 ns (zs.map encI)){Q:AV->Heap->Prop}(hQ:∀h s,MkI h0 (mkN size) (mkE size zs modes) h s h.length->∀h',Ext h0 h'->(Gr (h0.length+2) h.length h' 4 s ((mkE size zs modes).map encE))->Q (.agg [I (mkN size),s]) h') :
  ∀(d n:Nat) (h:Heap) (s:AV),n+d=(zs.take 40).length->MkI h0 (mkN size) ((zs.take n).map (mkEdge (mkN size) modes)) h s h.length->
   WP (λp:Nat × Nat=>k3_ p.1 p.2 ns (I modes) (.ptr h0.length 0 2 0) (.ptr (h0.length+1) 0 2 0) (I n) h) Q:=by
 have hN:=u3_ size
 intro d
 induction d with
 |zero=>
  intro n h s h1 w
  refine WP.rnd (a3Q · · ..) ?_
  have hl0:=w.ext.len
  have hlo:=w.lon
  have r6:=w.r6
  have r7:=w.r7
  have hz:zs.take n=zs.take 40:=by
   rw[List.length_take] at h1
   by_cases hz:zs.length<=40
   ·rw[List.take_of_length_le oM,List.take_of_length_le oM]
   ·rw[show n=40 by omega]
  have hfin:WP (λp:Nat × Nat=>some (AV.agg [I (mkN size),s],h.set h0.length (.cells ⟨[I (mkN size),s],0,0,false⟩))) Q:=by
   have w':MkI h0 (mkN size) (mkE size zs modes) h s h.length:=by
    have:=w
    rw[hz] at this; exact this
   refine WP.ret (hQ h s w' _ (w.ext.setr oM _) (w'.gr.set oM _))
  rw[List.length_take] at h1
  by_cases hn:n<zs.length
  ·refine g4 hns.lenG @r7 @r6 w.gr.sl.one ?_
   exact hfin
  ·refine g4 hns.lenG @r7 @r6 w.gr.sl.one ?_
   exact hfin
 |succ d ih=>
  intro n h s h1 w
  rw[List.length_take] at h1
  refine WP.rnd (a3Q · · ..) ?_
  obtain ⟨k,hk⟩:∃k,gi zs n=k:=⟨_,rfl⟩
  have hl0:=w.ext.len
  have hlo:=w.lon
  have r6:=w.r6
  have r7:=w.r7
  have ex:=w.ext
  have htk:zs.take (n+1)=zs.take n++[k]:=by
   rw[List.take_add_one,show zs[n]?=some k by
    have:=c1_ (xs:=zs) (i:=(n:Int)) oM oM
    rw[hk] at this; simpa using this]
   rfl
  refine g6 hns.lenG hns.idxG hns.ld0 @hk @encI.eq_1 @r7 ?_
  refine WP.call (o7_ oM (by unfold Fit; omega) _) ?_
  rintro _ _ ⟨rfl,rfl⟩
  refine g1 @r7 ?_
  refine WP.call (o7_ oM (by unfold Fit; omega) _) ?_
  rintro _ _ ⟨rfl,rfl⟩
  refine WP.call (o7_ oM (by unfold Fit; omega) _) ?_
  rintro _ _ ⟨rfl,rfl⟩
  refine WP.call (o7_ oM (by unfold Fit; omega) _) ?_
  rintro _ _ ⟨rfl,rfl⟩
  refine g0 ?_
  refine WP.call (o7_ oM (by unfold Fit; omega) _) ?_
  rintro _ _ ⟨rfl,rfl⟩
  have hb:∀x y z t:Int,MkI h0 (mkN size) ((zs.take n).map (mkEdge (mkN size) modes)) ((h++[AObj.cells ⟨[I 0,I 0,I 0,I 0],0,0,false⟩]).set h.length (.cells ⟨encE ⟨x,y,z,t⟩,0,0,false⟩)) s h.length:=by
   intro x y z t
   refine ⟨eX,?_,?_,(w.gr.app _).set oM _,by simp,hlo⟩
   ·rw[a9_ oM,m2_ oM]; exact r6
   ·rw[a9_ oM,m2_ oM]; exact r7
  have fin:∀(h':Heap) (e:E),MkI h0 (mkN size) ((zs.take n).map (mkEdge (mkN size) modes)) h' s h.length->h'[h.length]?=some (.cells ⟨encE e,0,0,false⟩)->
    { e with co:=if k % 31=0 then 2147483647-IntKind.i64.wrap (k.tdiv 31) % 3 else e.co }=mkEdge (mkN size) modes k->
    WP (λp:Nat × Nat=>k4_ p.1 p.2 ns (I modes) (.ptr h0.length 0 2 0) (.ptr (h0.length+1) 0 2 0) (I n) (I k) (.ptr h.length 0 4 0) h') Q:=by
   intro h' e w' he hee
   refine c2V (n:=n) (xs:=(zs.take n).map (mkEdge (mkN size) modes)) (by simp; omega) oM (λh'' s' w''=>?_) w' he
   rw[hee] at w''
   refine ih (n+1) h'' s' (by rw[List.length_take]; omega) ?_
   rw[htk,List.map_append]
   exact w''
  have rd:∀x:AObj,((h++[AObj.cells ⟨[I 0,I 0,I 0,I 0],0,0,false⟩]).set h.length x)[h.length]?=some x:=λx=>a0_ (by simp)
  have q1:=Int.emod_nonneg k (show mkN size≠0 by omega)
  have q2:=Int.emod_lt_of_pos k (show 0<mkN size by omega)
  have q3:=Int.emod_nonneg (IntKind.i64.wrap (k.tdiv 13)) (show mkN size≠0 by omega)
  have q4:=Int.emod_lt_of_pos (IntKind.i64.wrap (k.tdiv 13)) (show 0<mkN size by omega)
  by_cases hm0:modes % 3=0
  ·refine g0 ?_
   refine WP.call (o7_ oM (by unfold Fit; omega) _) ?_
   rintro _ _ ⟨rfl,rfl⟩
   refine g0 ?_
   refine fin _ ⟨k % mkN size,IntKind.i64.wrap (k.tdiv 13) % mkN size,(k % mkN size+IntKind.i64.wrap (k.tdiv 13) % mkN size) % 2,IntKind.i64.wrap (k.tdiv 900) % 9⟩ ?_ ?_ ?_
   ·exact ⟨(hb _ _ _ _).ext.setr oM _,by rw[a9_ oM]; exact (hb _ _ _ _).r6,by rw[a9_ oM]; exact (hb _ _ _ _).r7,(hb _ _ _ _).gr.set oM _,by simp,hlo⟩
   ·rw[a0_ (by simp)]; rfl
   ·simp[mkEdge,hm0]
  ·refine g0 ?_
   refine WP.call (o7_ oM (by unfold Fit; omega) _) ?_
   rintro _ _ ⟨rfl,rfl⟩
   by_cases hm1:modes % 3=1
   ·refine g0 ?_
    refine WP.call (o7_ oM (by unfold Fit; omega) _) ?_
    rintro _ _ ⟨rfl,rfl⟩
    refine g0 ?_
    refine fin _ ⟨k % mkN size,IntKind.i64.wrap (k.tdiv 13) % mkN size,IntKind.i64.wrap (IntKind.i64.wrap (k.tdiv 170) % 5*(k % mkN size)) % 3,IntKind.i64.wrap (k.tdiv 900) % 9⟩ ?_ ?_ ?_
    ·exact ⟨(hb _ _ _ _).ext.setr oM _,by rw[a9_ oM]; exact (hb _ _ _ _).r6,by rw[a9_ oM]; exact (hb _ _ _ _).r7,(hb _ _ _ _).gr.set oM _,by simp,hlo⟩
    ·rw[a0_ (by simp)]; rfl
    ·simp[mkEdge,hm1]
   ·refine g0 ?_
    refine fin _ ⟨k % mkN size,IntKind.i64.wrap (k.tdiv 13) % mkN size,IntKind.i64.wrap (k.tdiv 170) % 5,IntKind.i64.wrap (k.tdiv 900) % 9⟩ ?_ ?_ ?_
    ·exact hb _ _ _ _
    ·rw[a0_ (by simp)]; rfl
    ·simp[mkEdge,hm0,hm1]
theorem a0B {zs:List Int}(hns:Sl h 1 ns (zs.map encI)) :
  Tot tab b3_ [I size,ns,I modes] h λr h'=>Ext h h'/\∃s,r=.agg [I (mkN size),s]/\Gr h.length h'.length h' 4 s ((mkE size zs modes).map encE):=by
 refine WP.tot (b0t · ..) ?_
 have hN:=u3_ size
 refine g0 ?_
 refine WP.call (o7_ oM (by unfold Fit; omega) _) ?_
 rintro _ _ ⟨rfl,rfl⟩
 refine g0 ?_
 refine WP.ent (c2W (size:=size) (modes:=modes) hns ?_ (zs.take 40).length 0 _ .nils oM ⟨?_,?_,?_,Gr.nil ..,by simp,by simp⟩) λi=>rfl
 ·intro h1 s w h' e g
  exact ⟨e,s,rfl,(g.mono oM (Nat.le_refl _)).low _ (Nat.le_refl _)⟩
 ·exact eX
 ·rw[a9_ oM,m2_ (by simp),r8_ oM]; simp
 ·rw[a0_ (by simp)]; rfl
end Go.Gm.AZ
namespace Go.Gm.AZ
open Go Go.Gm
abbrev tyIt:TypeId:=196
abbrev tyHp:TypeId:=221
def encIt (x:Int × Int):List AV:=[I x.1,I x.2]
theorem a6v (call:CallF)(o off hi g:Nat)(args:List AV)(h:Heap):callMeth tab call "Len" (.ifc tyHp (.ptr o off hi g)) args h=call z1_ (.ptr o off hi g::args) h:=rfl
theorem a0A (call:CallF)(o off hi g:Nat)(args:List AV)(h:Heap):callMeth tab call "Less" (.ifc tyHp (.ptr o off hi g)) args h=call a3l (.ptr o off hi g::args) h:=rfl
theorem a5o (call:CallF)(o off hi g:Nat)(args:List AV)(h:Heap):callMeth tab call "Swap" (.ifc tyHp (.ptr o off hi g)) args h=call a0S (.ptr o off hi g::args) h:=rfl
theorem b4T (call:CallF)(o off hi g:Nat)(args:List AV)(h:Heap):callMeth tab call "Push" (.ifc tyHp (.ptr o off hi g)) args h=call a3m (.ptr o off hi g::args) h:=rfl
theorem b5Q (call:CallF)(o off hi g:Nat)(args:List AV)(h:Heap):callMeth tab call "Pop" (.ifc tyHp (.ptr o off hi g)) args h=call a4k (.ptr o off hi g::args) h:=rfl
theorem a7Y (call:CallF)(o off hi g:Nat)(args:List AV)(h:Heap):callMeth tab call "milestone/queue.place" (.ifc tyHp (.ptr o off hi g)) args h=call a2K (.ptr o off hi g::args) h:=rfl
theorem a9F (t:TypeId)(z v:AV):tAssert t z true (.ifc t v)=some (.tup [v,.bool true]):=by simp[tAssert]
theorem a4_ (a:AV)(l:List AV):extr 0 (.tup (a::l))=some a:=rfl
theorem a5_ (a b:AV)(l:List AV):extr 1 (.tup (a::b::l))=some b:=rfl
theorem a6Z (a b c:AV)(l:List AV):extr 2 (.tup (a::b::c::l))=some c:=rfl
structure QW (W:Nat->Prop) (h:Heap) (oq:Nat) (xs:List (Int × Int)) (at':List Int) (s1 s2:AV) (o1 o2:Nat):Prop where
 row:h[oq]?=some (.cells ⟨[s1,s2],0,0,false⟩)
 g1:Gr o1 (o1+1) h 2 s1 (xs.map encIt)
 n1:s1≠.nils->W o1/\o1≠oq/\o1≠o2/\o1<h.length
 g2:Gr o2 (o2+1) h 1 s2 (at'.map encI)
 w2:W o2
 d2:o2≠oq
 l2:o2<h.length
 wq:W oq
 len:xs.length<=10000000
 lat:at'.length<=10000000
def QS (W:Nat->Prop)(h:Heap)(oq:Nat)(xs:List (Int × Int))(at':List Int):Prop:=∃s1 s2 o1 o2,QW W h oq xs at' s1 s2 o1 o2
section
variable {W:Nat->Prop} {h h':Heap} {oq:Nat} {xs:List (Int × Int)} {at':List Int} {s1 s2:AV} {o1 o2:Nat}
theorem QW.ext (q:QW W h oq xs at' s1 s2 o1 o2)(e:Ext h h'):QW W h' oq xs at' s1 s2 o1 o2:=
 ⟨e.get q.row,q.g1.ext e,λn=>let ⟨a,b,c,d⟩:=q.n1 n; ⟨a,b,c,Nat.lt_of_lt_of_le d e.len⟩,q.g2.ext e,q.w2,q.d2,Nat.lt_of_lt_of_le q.l2 e.len,q.wq,q.len,q.lat⟩
theorem QS.ext (q:QS W h oq xs at')(e:Ext h h'):QS W h' oq xs at':=let ⟨s1,s2,o1,o2,q⟩:=q; ⟨s1,s2,o1,o2,q.ext e⟩
theorem QS.mono {W':Nat->Prop}(q:QS W h oq xs at')(hw:∀o,o<h.length->W o->W' o):QS W' h oq xs at':=by
 obtain ⟨s1,s2,o1,o2,q⟩:=q
 have hq:=(List.getElem?_eq_some_iff.1 q.row).1
 exact ⟨s1,s2,o1,o2,q.row,q.g1,λn=>let ⟨a,b,c,d⟩:=q.n1 n; ⟨hw _ d a,b,c,d⟩,q.g2,hw _ q.l2 q.w2,q.d2,q.l2,hw _ hq q.wq,q.len,q.lat⟩
theorem QS.frs (q:QS W h oq xs at')(f:FrS D h h')(hd:∀o,o<h.length->W o->¬D o):QS W h' oq xs at':=by
 obtain ⟨s1,s2,o1,o2,q⟩:=q
 have hq:=(List.getElem?_eq_some_iff.1 q.row).1
 refine ⟨s1,s2,o1,o2,by rw[f.get (hd _ hq q.wq) hq]; exact q.row,?_,λn=>let ⟨a,b,c,d⟩:=q.n1 n; ⟨a,b,c,Nat.lt_of_lt_of_le d f.len⟩,q.g2.frs f λo k1 k2=>?_,q.w2,q.d2,Nat.lt_of_lt_of_le q.l2 f.len,q.wq,q.len,q.lat⟩
 ·by_cases hn:s1=.nils
  ·rcases q.g1 with k|⟨o,g,wg,cs,_,_,k,_⟩
   ·exact .inl k
   ·rw[hn] at k; cases k
  ·obtain ⟨a,b,c,d⟩:=q.n1 hn
   exact q.g1.frs f λo k1 k2=>by
    obtain rfl:o=o1:=oM
    exact hd _ d a
 ·obtain rfl:o=o2:=oM
  exact hd _ q.l2 q.w2
theorem a8G (q:QS W h oq xs at'):Tot tab z1_ [.ptr oq 0 2 0] h λr h'=>r=I xs.length/\h=h':=by
 obtain ⟨s1,s2,o1,o2,q⟩:=q
 refine WP.tot (b1L · ..) ?_
 refine g2 q.row q.g1.sl.lenG ?_
 exact WP.ret ⟨rfl,rfl⟩
theorem b3S (q:QS W h oq xs at')(id:Int):Tot tab a2K [.ptr oq 0 2 0,I id] h λr h'=>r=I (if 0<=id/\id<at'.length then gi at' id else -1)/\h=h':=by
 obtain ⟨s1,s2,o1,o2,q⟩:=q
 refine WP.tot (b0K · ..) ?_
 by_cases h0:0<=id
 ·by_cases h1:id<at'.length
  ·refine g5 q.row q.g2.sl.lenG q.g2.sl.idxG q.g2.sl.ld0 @encI.eq_1 ?_
   exact WP.ret ⟨by rw[if_pos ⟨h0,h1⟩],rfl⟩
  ·refine g2 q.row q.g2.sl.lenG ?_
   exact WP.ret ⟨by rw[if_neg (λq=>h1 q.2)],rfl⟩
 ·refine g0 ?_
  exact WP.ret ⟨by rw[if_neg (λq=>h0 q.1)],rfl⟩
theorem b7v (x y:Int × Int)(h:Heap):Tot tab a3k [.agg (encIt x),.agg (encIt y)] h λr h'=>r=.bool (decide (ltI x y))/\Ext h h':=by
 refine WP.tot (b1m · ..) ?_
 try simp only[encIt]
 by_cases h1:x.2=y.2
 ·by_cases h2:x.1<y.1
  ·refine g0 ?_
   exact WP.ret ⟨by simp[ltI,h1,h2],eX⟩
  ·refine g0 ?_
   exact WP.ret ⟨by simp[ltI,h1,h2],eX⟩
 ·by_cases h2:x.2<y.2
  ·refine g0 ?_
   exact WP.ret ⟨by simp[ltI,h1,h2],eX⟩
  ·refine g0 ?_
   exact WP.ret ⟨by simp[ltI,h1,h2],eX⟩
theorem a7a (q:QS W h oq xs at'){i j:Int}(i0:0<=i)(i1:i<xs.length)(j0:0<=j)(j1:j<xs.length):Tot tab a3l [.ptr oq 0 2 0,I i,I j] h λr h'=>r=.bool (decide (ltI (gi xs i) (gi xs j)))/\Ext h h':=by
 obtain ⟨s1,s2,o1,o2,q⟩:=q
 refine WP.tot (b1n · ..) ?_
 refine g3 q.row q.g1.sl.idxG q.g1.sl.ldN ?_
 refine WP.call (b7v _ _ _) ?_
 rintro _ h' ⟨rfl,e⟩
 exact WP.ret ⟨rfl,e⟩
theorem b2W (x:Int × Int):(AV.agg (encIt x)).cells=encIt x:=rfl
theorem b9r (q:QS W h oq xs at'){i j:Int}(i0:0<=i)(i1:i<xs.length)(j0:0<=j)(j1:j<xs.length)(ai:0<=(gi xs i).1/\(gi xs i).1<at'.length)(aj:0<=(gi xs j).1/\(gi xs j).1<at'.length) :
  Tot tab a0S [.ptr oq 0 2 0,I i,I j] h λr h'=>QS W h' oq (sw xs i j) ((at'.set (gi xs j).1.toNat i).set (gi xs i).1.toNat j)/\FrS W h h':=by
 obtain ⟨s1,s2,o1,o2,q⟩:=q
 refine WP.tot (b1p · ..) ?_
 have hq:=(List.getElem?_eq_some_iff.1 q.row).1
 have hn:s1≠.nils:=q.g1.nnil (by intro hx; rw[List.map_eq_nil_iff] at hx; rw[hx] at i1; simp at i1; omega)
 obtain ⟨w1,d1,d12,l1⟩:=q.n1 hn
 obtain ⟨h1,k1,k2,k3,k4⟩:=q.g1.write0 (i:=i) (v:=.agg (encIt (gi xs j))) i0 (by simp; omega) rfl rfl
 rw[b2W,<-List.map_set] at k2
 obtain ⟨h2,m1,m2,m3,m4⟩:=k2.write0 (i:=j) (v:=.agg (encIt (gi xs i))) j0 (by simp; omega) rfl rfl
 rw[b2W,<-List.map_set] at m2
 have m2':Gr o1 (o1+1) h2 2 s1 ((sw xs i j).map encIt):=m2
 have row1:h1[oq]?=some (.cells ⟨[s1,s2],0,0,false⟩):=by rw[k3.get oM hq]; exact q.row
 have row2:h2[oq]?=some (.cells ⟨[s1,s2],0,0,false⟩):=by rw[m3.get oM oM]; exact row1
 have g22:Gr o2 (o2+1) h2 1 s2 (at'.map encI):=(q.g2.fr k3 oM).fr m3 oM
 have hl:=a7x xs i j
 have gi1:gi (sw xs i j) i=gi xs j:=by
  rw[gi_sw i0 i1 j0 j1 i0]
  by_cases hij:i=j
  ·rw[if_pos hij,hij]
  ·rw[if_neg hij,if_pos rfl]
 have gj1:gi (sw xs i j) j=gi xs i:=by rw[gi_sw i0 i1 j0 j1 j0,if_pos rfl]
 obtain ⟨h3,p1,p2,p3,p4⟩:=g22.write0 (i:=(gi xs j).1) (v:=I i) aj.1 (by simp; omega) rfl rfl
 have row3:h3[oq]?=some (.cells ⟨[s1,s2],0,0,false⟩):=by rw[p3.get (by have:=q.d2; omega) oM]; exact row2
 obtain ⟨h4,r1,r2,r3,r4⟩:=p2.write0 (i:=(gi xs i).1) (v:=I j) ai.1 (by simp; omega) rfl rfl
 have row4:h4[oq]?=some (.cells ⟨[s1,s2],0,0,false⟩):=by rw[r3.get (by have:=q.d2; omega) oM]; exact row3
 simp only[encIt] at k1 m1
 simp -implicitDefEqProofs (disch:=first|assumption|omega|exact Ext.refl _|(simp only[gL,gA]<;>omega)|fail) only[cG,reduceIte,q.row,q.g1.sl.idxG,q.g1.sl.ldN,k1,m1,row2,g22.sl.idxG,m2'.sl.idxG,m2'.sl.ldf,encIt,gi1,gj1,p1,r1,row1,row3]
 have hd2:=q.d2
 refine WP.ret ⟨⟨s1,s2,o1,o2,row4,(m2'.fr p3 oM).fr r3 oM,λ_=>⟨w1,d1,d12,oM⟩,r2.cong ?_,q.w2,q.d2,by have:=q.l2; omega,q.wq,by rw[hl]; exact q.len,by simp; exact q.lat⟩,?_⟩
 ·rw[a1C,a1C,List.map_set,List.map_set]; rfl
 ·have f1:FrS W h h2:=(k3.trans m3).s.mono λo _ k=>by
   obtain rfl:o=o1:=oM
   exact w1
  exact f1.trans ((p3.trans r3).s.mono λo _ k=>by
   obtain rfl:o=o2:=oM
   exact q.w2)
theorem b9s (q:QS W h oq xs at'){id key:Int}(h0:0<=id)(h1:id<at'.length)(hlen:xs.length+1<=10000000) :
  Tot tab a3m [.ptr oq 0 2 0,.ifc tyIt (.agg (encIt (id,key)))] h λr h'=>QS (λo=>W o\/h.length<=o) h' oq (xs++[(id,key)]) (at'.set id.toNat xs.length)/\FrS W h h':=by
 obtain ⟨s1,s2,o1,o2,q⟩:=q
 refine WP.tot (b1o · ..) ?_
 have hq:=(List.getElem?_eq_some_iff.1 q.row).1
 have hd2:=q.d2
 have hl2:=q.l2
 have hql:=q.len
 have hqa:=q.lat
 obtain ⟨hA,hhA⟩:∃hA,hA=(h++[AObj.cells ⟨[I 0,I 0],0,0,false⟩]).set h.length (.cells ⟨[I id,I key],0,0,false⟩):=⟨_,rfl⟩
 have eA:Ext h hA:=by rw[hhA]; exact eX
 have hlA:hA.length=h.length+1:=by rw[hhA]; simp
 have rA:hA[h.length]?=some (.cells ⟨[I id,I key],0,0,false⟩):=by rw[hhA]; exact a0_ (by simp)
 have rowA:=eA.get q.row
 have g2A:=q.g2.ext eA
 obtain ⟨hB,p1,p2,p3,p4⟩:=g2A.write0 (i:=id) (v:=I xs.length) h0 (by simp; omega) rfl rfl
 have rowB:hB[oq]?=some (.cells ⟨[s1,s2],0,0,false⟩):=by rw[p3.get oM oM]; exact rowA
 have rB:hB[h.length]?=some (.cells ⟨[I id,I key],0,0,false⟩):=by rw[p3.get oM oM]; exact rA
 have g1B:Gr o1 (o1+1) hB 2 s1 (xs.map encIt):=by
  by_cases hn:s1=.nils
  ·subst hn
   rw[q.g1.isNil]; exact .inl ⟨rfl,rfl⟩
  ·have:=q.n1 hn
   exact (q.g1.ext eA).fr p3 oM
 have eC:Ext hB (mkObj hB (encIt (id,key))):=Ext.push _ _
 obtain ⟨s3,hD,o3,m1,m2,m3,m4⟩:=(g1B.ext eC).appP (bytes:=16) (λhn=>by have:=q.n1 hn; simp[mkObj]; omega) ((Gr.lit (h:=hB) (sz:=2) (v:=encIt (id,key)) rfl).sl) oM oM (by simp; omega)
 have hn3:s3≠.nils:=m2.nnil (by simp)
 obtain ⟨m5,m6⟩:=m3 hn3
 have hlC:(mkObj hB (encIt (id,key))).length=h.length+2:=by simp[mkObj]; omega
 have hlD:=m4.len
 have rowD:hD[oq]?=some (.cells ⟨[s1,s2],0,0,false⟩):=by
  rw[m4.get (λz=>by have:=q.n1 z.1; omega) oM]; exact eC.get rowB
 have g2D:Gr o2 (o2+1) hD 1 s2 ((at'.map encI).set id.toNat (I xs.length).cells):=(p2.ext eC).frs m4 λo k1 k2 z=>by have:=q.n1 z.1; omega
 rw[a3_] at m1
 simp only[encIt] at m1
 simp -implicitDefEqProofs (disch:=first|assumption|omega|(simp only[gL,gA]<;>omega)|fail) only[cG,reduceIte,a9F,a4_,a5_,encIt]
 rw[show I 0=I 0 from rfl,<-hhA]
 simp -implicitDefEqProofs (disch:=first|assumption|omega|(simp only[gL]<;>omega)|((repeat (first|exact Ext.refl _|assumption|apply Ext.app|apply Ext.mk|(refine Ext.setr ?_ (by (first|omega|(simp only[gL]<;>omega))) _))); done)|(simp only[gL,gA,q.row,rowA,rA,q.g1.sl.lenG,g2A.sl.idxG,p1,rowB,rB,m1,rowD,m2.sl.one,m2.sl.cells]<;>omega)|fail) only[gB,setAll,partL,fldV,reduceIte,Nat.reduceAdd,Nat.reduceMul,q.row,rowA,rA,q.g1.sl.lenG,g2A.sl.idxG,p1,rowB,rB,m1,rowD,m2.sl.one,m2.sl.cells]
 have ho3q:oq≠o3:=by
  rcases m5 with ⟨rfl,z⟩|z
  ·exact (q.n1 z).2.1.symm
  ·omega
 have ho32:o3≠o2:=by
  rcases m5 with ⟨rfl,z⟩|z
  ·exact (q.n1 z).2.2.1
  ·omega
 refine WP.ret ⟨⟨s3,s2,o3,o2,?_,?_,λ_=>⟨?_,ho3q.symm,ho32,by simp; omega⟩,?_,.inl q.w2,q.d2,by simp; omega,.inl q.wq,by simp; omega,by simp; exact q.lat⟩,?_⟩
 ·rw[a0_ oM]
 ·refine (m2.set oM _).cong (by simp)
 ·rcases m5 with ⟨rfl,z⟩|z
  ·exact .inl (q.n1 z).1
  ·exact .inr oM
 ·refine (g2D.set oM _).cong ?_
  rw[a1C,List.map_set]; rfl
 ·have f1:FrS W h hB:=(FrS.ofExt eA).trans (p3.s.mono λo _ k=>by
   obtain rfl:o=o2:=oM
   exact q.w2)
  have f2:FrS W hB hD:=(FrS.ofExt eC).trans (m4.mono λo _ k=>by
   rw[k.2]; exact (q.n1 k.1).1)
  refine (f1.trans f2).trans ⟨by simp,λo k1 k2=>List.getElem?_set_ne (λz=>?_)⟩
  exact k1 (z▸q.wq)
theorem b9t (q:QS W h oq xs at'){n:Nat}(hn:xs.length=n+1)(an:0<=(gi xs n).1/\(gi xs n).1<at'.length) :
  Tot tab a4k [.ptr oq 0 2 0] h λr h'=>r=.ifc tyIt (.agg (encIt (gi xs n)))/\QS W h' oq (xs.take n) (at'.set (gi xs n).1.toNat (-1))/\FrS W h h':=by
 obtain ⟨s1,s2,o1,o2,q⟩:=q
 refine WP.tot (b1M · ..) ?_
 have hq:=(List.getElem?_eq_some_iff.1 q.row).1
 have hd2:=q.d2
 have hl2:=q.l2
 have hql:=q.len
 have hqa:=q.lat
 have hnn:s1≠.nils:=q.g1.nnil (by intro hx; rw[List.map_eq_nil_iff] at hx; rw[hx] at hn; simp at hn)
 obtain ⟨w1,d1,d12,l1⟩:=q.n1 hnn
 obtain ⟨x,hx⟩:∃x,gi xs n=x:=⟨_,rfl⟩
 rw[hx] at an ⊢
 obtain ⟨hA,hhA⟩:∃hA,hA=(h++[AObj.cells ⟨[I 0,I 0],0,0,false⟩]).set h.length (.cells ⟨[I x.1,I x.2],0,0,false⟩):=⟨_,rfl⟩
 have eA:Ext h hA:=by rw[hhA]; exact eX
 have hlA:hA.length=h.length+1:=by rw[hhA]; simp
 have rA:hA[h.length]?=some (.cells ⟨[I x.1,I x.2],0,0,false⟩):=by rw[hhA]; exact a0_ (by simp)
 have rowA:=eA.get q.row
 have g1A:=q.g1.ext eA
 have g2A:=q.g2.ext eA
 obtain ⟨s3,t1,t2,t3⟩:=g1A.take (n:=(n:Int)) oM (by simp; omega) hnn
 obtain ⟨hB,hhB⟩:∃hB,hB=hA.set oq (.cells ⟨[s3,s2],0,0,false⟩):=⟨_,rfl⟩
 have hlB:hB.length=hA.length:=by rw[hhB]; simp
 have rowB:hB[oq]?=some (.cells ⟨[s3,s2],0,0,false⟩):=by rw[hhB]; exact a0_ oM
 have rB:hB[h.length]?=some (.cells ⟨[I x.1,I x.2],0,0,false⟩):=by rw[hhB,a9_ oM]; exact rA
 have g1B:Gr o1 (o1+1) hB 2 s3 ((xs.map encIt).take (n:Int).toNat):=by rw[hhB]; exact t2.set oM _
 have g2B:Gr o2 (o2+1) hB 1 s2 (at'.map encI):=by rw[hhB]; exact g2A.set oM _
 obtain ⟨hC,p1,p2,p3,p4⟩:=g2B.write0 (i:=x.1) (v:=I (-1)) an.1 (by simp; omega) rfl rfl
 have rC:hC[h.length]?=some (.cells ⟨[I x.1,I x.2],0,0,false⟩):=by rw[p3.get oM oM]; exact rB
 have rowC:hC[oq]?=some (.cells ⟨[s3,s2],0,0,false⟩):=by rw[p3.get oM oM]; exact rowB
 have hn1:((xs.length:Nat):Int)-1=n:=oM
 refine g7 q.row q.g1.sl.lenG @hn1 q.g1.sl.idxG q.g1.sl.ldN @hx @encIt.eq_1 ?_
 rw[show I 0=I 0 from rfl,<-hhA]
 refine g5 q.row @rowA @t1 t2.sl.one t2.sl.cells ?_
 rw[<-hhB]
 simp -implicitDefEqProofs (disch:=first|assumption|omega|(simp only[gL,gA]<;>omega)|fail) only[cG,reduceIte,rA,rowB,rB,g2B.sl.idxG,p1,rC]
 refine WP.ret ⟨rfl,⟨s3,s2,o1,o2,rowC,?_,λ_=>⟨w1,d1,d12,oM⟩,?_,q.w2,q.d2,oM,q.wq,by have:=q.len; simp; omega,by simp; exact q.lat⟩,?_⟩
 ·refine (g1B.fr p3 oM).cong ?_
  rw[Int.toNat_natCast,List.map_take]
 ·refine p2.cong ?_
  rw[a1C,List.map_set]; rfl
 ·have f1:FrS W hA hB:=by
   rw[hhB]
   exact ⟨by simp,λo k1 k2=>List.getElem?_set_ne (λz=>by subst z; exact k1 q.wq)⟩
  exact ((FrS.ofExt eA).trans f1).trans (p3.s.mono λo _ k=>by
   obtain rfl:o=o2:=oM
   exact q.w2)
end
end Go.Gm.AZ
