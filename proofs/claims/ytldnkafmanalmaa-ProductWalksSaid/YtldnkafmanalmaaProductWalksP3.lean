/- A part of the proof (GmAQe3, GmAQe4, GmAQe5, GmAQe6). -/
import Derived.Test.YtldnkafmanalmaaProductWalksP2
set_option autoImplicit true
set_option relaxedAutoImplicit true
set_option linter.unusedVariables false
namespace Go.Gm.AQ
open Go Go.Gm
noncomputable section
variable (k j0 j1 j2 j3:Nat) (a b c d e f g i l m n:AV) (h:Heap)
def x7_:=bk tab tbl e1_ 0 [j0] [a,b,c,d,e] h k
def a1E:=bk tab tbl e1_ 1 [] [a,b,c] h k
def x8_:=bk tab tbl e1_ 2 [j0] [a,b,c,d,e] h k
theorem a3v:x8_ k (j0+1) a b c d e h =
 oa (binV .lss .scalar e d) λf=>cond2 f
 (
 oa (idxS 2 c e) λg=>oa (ldN 2 h g) λi=>ob (newVar h [I 0,I 0]) λl m=>oh (stN 2 m l i) λn=>oa (nilCk b) λo=>oa (fldA 2 o) λp=>oa (ld1 n p) λq=>oa (ldN 2 n l) λr=>ob (evalFn tab k r4_ [a,r] n) λs t=>chk ((sameB (pure1 t (ld1 t p)) q && true)) <|ob (evalFn tab k n9_ [q,s,(I 0)] t) λu v=>oa (binV .add .scalar e (I 1)) λw=>x8_ k j0 a b c d w v
 )
 (
 some (b,h)
 ):=bkEq
theorem a8e:a1E k a b c h =
 oa (lenS b) λd=>x8_ k k a c b d (I 0) h:=bkEq
theorem a3w:x7_ k (j0+1) a b c d e h =
 oa (binV .lss .scalar e d) λf=>cond2 f
 (
 oa (nilCk c) λg=>oa (fldA 3 g) λi=>oa (ld1 h i) λl=>oa (nilCk c) λm=>oa (fldA 4 m) λn=>oa (ld1 h n) λo=>oa (nilCk c) λp=>oa (fldA 5 p) λq=>oa (ld1 h q) λr=>oa (idxS 1 l e) λs=>oh (stN 1 h s (I (-1))) λt=>oa (idxS 1 o e) λu=>oh (stN 1 t u (I (-1))) λv=>oa (idxS 1 r e) λw=>oh (stN 1 v w (I (-1))) λx=>oa (binV .add .scalar e (I 1)) λy=>x7_ k j0 a b c d y x
 )
 (
 a1E k a b c h
 ):=bkEq
theorem b0a:evalFn tab (k+1) e1_ [a,b,c] h =
 oa (nilCk a) λd=>oa (fldA 0 d) λe=>oa (fldA 0 e) λf=>oa (ld1 h f) λg=>oa (mmV true g (I 0)) λi=>oa (nilCk a) λl=>oa (fldA 3 l) λm=>oa (fldA 0 m) λn=>oa (ld1 h n) λo=>oa (lenS o) λp=>oa (binV .mul .scalar i p) λq=>ob (mkSl [I 0] 1 8 q q h) λr s=>ob (mkSl [I 0] 1 8 q q s) λt u=>ob (mkSl [I 0] 1 8 q q u) λv w=>ob (evalFn tab k a4U [q] w) λx y=>oa (buildV [.nilp,.nilfn,.nilp,.nils,.nils,.nils,I 0] [(0,1,a),(1,1,b),(2,1,x),(3,1,r),(4,1,t),(5,1,v)]) λz=>ob (newVar y (AV.cells z)) λaa ab=>oa (nilCk aa) λac=>oa (fldA 3 ac) λad=>oa (ld1 ab ad) λae=>oa (lenS ae) λaf=>x7_ k k a c aa af (I 0) ab:=fnEq
def a0Q:=bk tab tbl e7_ 0 [j0] [a,b,c,d,e,f] h k
theorem a4N:a0Q k (j0+1) a b c d e f h =
 oa (binV .lss .scalar f e) λg=>cond2 g
 (
 oa (idxS 1 d f) λi=>oa (ld1 h i) λl=>oa (nilCk a) λm=>oa (fldA 0 m) λn=>oa (fldA 1 n) λo=>oa (ld1 h o) λp=>oa (idxS 4 p l) λq=>oa (ldN 4 h q) λr=>ob (newVar h [I 0,I 0,I 0,I 0]) λs t=>oh (stN 4 t s r) λu=>oa (fldA 1 s) λv=>oa (ld1 u v) λw=>oa (nilCk a) λx=>oa (fldA 3 x) λy=>oa (fldA 0 y) λz=>oa (ld1 u z) λaa=>oa (fldA 1 b) λab=>oa (ld1 u ab) λac=>oa (fldA 2 s) λad=>oa (ld1 u ad) λae=>oa (idxS 5 aa ac) λaf=>oa (idxA 5 1 af ae) λag=>oa (ld1 u ag) λai=>oa (buildV [I 0,I 0] [(0,1,w),(1,1,ai)]) λal=>oa (buildV [I 0,I 0,I 0] [(0,2,al),(2,1,l)]) λam=>ob (buildSl 3 1 [I 0,I 0,I 0] [(0,3,am)] u) λan ao=>ob (apnd 3 24 c an ao) λap aq=>oa (binV .add .scalar f (I 1)) λar=>a0Q k j0 a b ap d e ar aq
 )
 (
 some (c,h)
 ):=bkEq
theorem b1G:evalFn tab (k+1) e7_ [a,b] h =
 ob (newVar h (AV.cells b)) λc d=>oa (nilCk a) λe=>oa (fldA 2 e) λf=>oa (ld1 d f) λg=>oa (fldA 0 c) λi=>oa (ld1 d i) λl=>ob (evalFn tab k a7U [g,l] d) λm n=>oa (lenS m) λo=>a0Q k k a c .nils m o (I 0) n:=fnEq
def z7_:=bk tab tbl i7_ 0 [j0] [a] h k
theorem a3W:z7_ k (j0+1) a h =
 ob (evalFn tab k h7_ [a] h) λb c=>oa (extr 0 b) λd=>oa (extr 1 b) λe=>oa (unV .not e) λf=>cond2 f
 (
 some (.tup [],c)
 )
 (
 z7_ k j0 a c
 ):=bkEq
theorem b0y:evalFn tab (k+1) i7_ [a] h =
 z7_ k k a h:=fnEq
def p0_:=bk tab tbl r3_ 0 [j0] [a,b,c,d,e,f] h k
theorem a3x:p0_ k (j0+1) a b c d e f h =
 oa (binV .lss .scalar f e) λg=>cond2 g
 (
 oa (idxS 1 d f) λi=>oa (ld1 h i) λl=>oa (nilCk a) λm=>oa (fldA 0 m) λn=>oa (ld1 h n) λo=>oa (buildV [I 0,I 0] [(0,1,b),(1,1,f)]) λp=>ob (evalFn tab k r4_ [o,p] h) λq r=>ob (gd l true (some (a,r)) r) λs t=>ob (gd l true (pure1 t (nilCk s)) t) λu v=>ob (gd l true (pure1 v (fldA 3 u)) v) λw x=>ob (gd l true (pure1 x (ld1 x w)) x) λy z=>ob (gd l true (some (q,z)) z) λaa ab=>ob (gd l true (pure1 ab (idxS 1 y aa)) ab) λac ad=>ob (gd l true (pure1 ad (ld1 ad ac)) ad) λae af=>ob (gd l true (pure1 af (binV .geq .scalar ae (I 0))) af) λag ai=>oa (pickV l ag (.bool false)) λal=>ob (gd al true (some (c,ai)) ai) λam an=>ob (gd al true (pure1 an (binV .lss .scalar am (I 0))) an) λao ap=>ob (gd al true (some (ao,ap)) ap) λaq ar=>ob (gd aq false (some (a,ar)) ar) λau av=>ob (gd aq false (pure1 av (nilCk au)) av) λaw ax=>ob (gd aq false (pure1 ax (fldA 3 aw)) ax) λay az=>ob (gd aq false (pure1 az (ld1 az ay)) az) λa0 a1=>ob (gd aq false (some (q,a1)) a1) λa2 a3=>ob (gd aq false (pure1 a3 (idxS 1 a0 a2)) a3) λa4 a5=>ob (gd aq false (pure1 a5 (ld1 a5 a4)) a5) λa6 a7=>ob (gd aq false (some (a,a7)) a7) λa8 a9=>ob (gd aq false (pure1 a9 (nilCk a8)) a9) λba bb=>ob (gd aq false (pure1 bb (fldA 3 ba)) bb) λbc bd=>ob (gd aq false (pure1 bd (ld1 bd bc)) bd) λbe bf=>ob (gd aq false (some (c,bf)) bf) λbg bi=>ob (gd aq false (pure1 bi (idxS 1 be bg)) bi) λbl bm=>ob (gd aq false (pure1 bm (ld1 bm bl)) bm) λbn bo=>ob (gd aq false (pure1 bo (binV .lss .scalar a6 bn)) bo) λbp bq=>ob (gd al true (pure1 bq (pickV aq (.bool true) bp)) bq) λbr bs=>oa (pickV al br (.bool false)) λbt=>cond2 bt
 (
 oa (binV .add .scalar f (I 1)) λbu=>p0_ k j0 a b q d e bu bs
 )
 (
 oa (binV .add .scalar f (I 1)) λbv=>p0_ k j0 a b c d e bv bs
 )
 )
 (
 some (c,h)
 ):=bkEq
theorem b0b:evalFn tab (k+1) r3_ [a,b] h =
 oa (nilCk a) λc=>oa (fldA 0 c) λd=>oa (ld1 h d) λe=>oa (nilCk e) λf=>oa (fldA 3 f) λg=>oa (fldA 1 g) λi=>oa (ld1 h i) λl=>oa (lenS l) λm=>p0_ k k a b (I (-1)) l m (I 0) h:=fnEq
def s0_:=bk tab tbl c0_ 0 [] [a,b,c,d] h k
def k0_:=bk tab tbl c0_ 1 [] [a,b,c,d] h k
def k1_:=bk tab tbl c0_ 2 [] [a,b,c,d] h k
def s1_:=bk tab tbl c0_ 3 [j0] [a,b,c,d] h k
def d1_:=bk tab tbl c0_ 4 [] [a,b,c,d] h k
def s2_:=bk tab tbl c0_ 5 [j0] [a,b,c,d] h k
def a0q:=bk tab tbl c0_ 6 [] [a,b] h k
theorem a2h:s1_ k (j0+1) a b c d h =
 oa (binV .lss .scalar d (I 2)) λe=>ob (gd e false (some (d,h)) h) λf g=>ob (gd e false (pure1 g (fldA 2 a)) g) λi l=>ob (gd e false (pure1 l (ld1 l i)) l) λm n=>ob (gd e false (pure1 n (lenS m)) n) λo p=>ob (gd e false (pure1 p (binV .lss .scalar f o)) p) λq r=>ob (gd e false (some (q,r)) r) λs t=>ob (gd s true (some (d,t)) t) λu v=>ob (gd s true (pure1 v (binV .lss .scalar u (I 4))) v) λw x=>ob (gd e false (pure1 x (pickV s w (.bool false))) x) λy z=>oa (pickV e (.bool true) y) λaa=>cond2 aa
 (
 oa (fldA 4 c) λab=>oa (ld1 z ab) λac=>oa (ldN 3 z a) λad=>ob (evalFn tab k d9_ [ad,d] z) λae af=>chk ((sameB (pure1 af (ld1 af ab)) ac && true)) <|ob (buildSl 5 1 [I 0,I 0,I 0,I 0,.nils] [(0,5,ae)] af) λag ai=>ob (apnd 5 56 ac ag ai) λal am=>oa (fldA 4 c) λan=>oh (stN 1 am an al) λao=>oa (binV .add .scalar d (I 1)) λap=>s1_ k j0 a b c ap ao
 )
 (
 oa (ldN 5 z c) λaq=>oh (stN 5 z b aq) λar=>oa (ldN 5 ar b) λau=>some (au,ar)
 ):=bkEq
theorem a2i:s2_ k (j0+1) a b c d h =
 oa (binV .lss .scalar d (I 2)) λe=>ob (gd e false (some (d,h)) h) λf g=>ob (gd e false (pure1 g (fldA 2 a)) g) λi l=>ob (gd e false (pure1 l (ld1 l i)) l) λm n=>ob (gd e false (pure1 n (lenS m)) n) λo p=>ob (gd e false (pure1 p (binV .lss .scalar f o)) p) λq r=>ob (gd e false (some (q,r)) r) λs t=>ob (gd s true (some (d,t)) t) λu v=>ob (gd s true (pure1 v (binV .lss .scalar u (I 4))) v) λw x=>ob (gd e false (pure1 x (pickV s w (.bool false))) x) λy z=>oa (pickV e (.bool true) y) λaa=>cond2 aa
 (
 oa (fldA 4 c) λab=>oa (ld1 z ab) λac=>oa (ldN 3 z a) λad=>ob (evalFn tab k d9_ [ad,d] z) λae af=>chk ((sameB (pure1 af (ld1 af ab)) ac && true)) <|ob (buildSl 5 1 [I 0,I 0,I 0,I 0,.nils] [(0,5,ae)] af) λag ai=>ob (apnd 5 56 ac ag ai) λal am=>oa (fldA 4 c) λan=>oh (stN 1 am an al) λao=>oa (binV .add .scalar d (I 1)) λap=>s2_ k j0 a b c ap ao
 )
 (
 oa (ldN 5 z c) λaq=>oh (stN 5 z b aq) λar=>oa (ldN 5 ar b) λau=>some (au,ar)
 ):=bkEq
theorem a6F:a0q k a b h =
 oa (fldA 1 a) λc=>oa (ld1 h c) λd=>ob (evalFn tab k d5_ [d,(I 4)] h) λe f=>oa (fldA 1 a) λg=>oa (ld1 f g) λi=>oa (binV .quo .scalar i (I 4)) λl=>oa (ldN 3 f a) λm=>ob (evalFn tab k d5_ [l,(I 3)] f) λn o=>chk ((sameB (pure1 o (ldN 3 o a)) m && true)) <|oa (binV .add .scalar e n) λp=>ob (evalFn tab k d9_ [m,(I 0)] o) λq r=>ob (buildSl 5 1 [I 0,I 0,I 0,I 0,.nils] [(0,5,q)] r) λs t=>oa (buildV [I 0,I 0,I 0,I 0,.nils] [(0,1,(I 9)),(2,1,e),(3,1,p),(4,1,s)]) λu=>oh (stN 5 t b u) λv=>oa (ldN 5 v b) λw=>some (w,v):=bkEq
theorem h3_:d1_ k a b c d h =
 cond2 d
 (
 oa (buildV [I 0,I 0,I 0,I 0,.nils] [(0,1,(I 5))]) λe=>ob (newVar h [I 0,I 0,I 0,I 0,.nils]) λf g=>oh (stN 5 g f e) λi=>s2_ k k a b f (I 0) i
 )
 (
 oa (binV .eql .scalar c (I 10)) λl=>cond2 l
 (
 oa (ldN 3 h a) λm=>ob (evalFn tab k d9_ [m,(I 0)] h) λn o=>ob (buildSl 5 1 [I 0,I 0,I 0,I 0,.nils] [(0,5,n)] o) λp q=>oa (buildV [I 0,I 0,I 0,I 0,.nils] [(0,1,(I 6)),(4,1,p)]) λr=>oh (stN 5 q b r) λs=>oa (ldN 5 s b) λt=>some (t,s)
 )
 (
 oa (binV .eql .scalar c (I 11)) λu=>cond2 u
 (
 oa (ldN 3 h a) λv=>ob (evalFn tab k d9_ [v,(I 0)] h) λw x=>ob (buildSl 5 1 [I 0,I 0,I 0,I 0,.nils] [(0,5,w)] x) λy z=>oa (buildV [I 0,I 0,I 0,I 0,.nils] [(0,1,(I 7)),(4,1,y)]) λaa=>oh (stN 5 z b aa) λab=>oa (ldN 5 ab b) λac=>some (ac,ab)
 )
 (
 oa (binV .eql .scalar c (I 12)) λad=>cond2 ad
 (
 oa (ldN 3 h a) λae=>ob (evalFn tab k d9_ [ae,(I 0)] h) λaf ag=>ob (buildSl 5 1 [I 0,I 0,I 0,I 0,.nils] [(0,5,af)] ag) λai al=>oa (buildV [I 0,I 0,I 0,I 0,.nils] [(0,1,(I 8)),(4,1,ai)]) λam=>oh (stN 5 al b am) λan=>oa (ldN 5 an b) λao=>some (ao,an)
 )
 (
 a0q k a b h
 )
 )
 )
 ):=bkEq
theorem d2_:k1_ k a b c d h =
 cond2 d
 (
 oa (buildV [I 0,I 0,I 0,I 0,.nils] [(0,1,(I 4))]) λe=>ob (newVar h [I 0,I 0,I 0,I 0,.nils]) λf g=>oh (stN 5 g f e) λi=>s1_ k k a b f (I 0) i
 )
 (
 oa (binV .eql .scalar c (I 8)) λl=>cond2 l
 (
 d1_ k a b c l h
 )
 (
 oa (binV .eql .scalar c (I 9)) λm=>d1_ k a b c m h
 )
 ):=bkEq
theorem b4_:k0_ k a b c d h =
 cond2 d
 (
 oa (fldA 1 a) λe=>oa (ld1 h e) λf=>ob (evalFn tab k d5_ [f,(I 5)] h) λg i=>oa (convV .u64 g) λl=>oa (binV .shl .scalar (I 1) l) λm=>oa (buildV [I 0,I 0,I 0,I 0,.nils] [(0,1,(I 1)),(1,1,m)]) λn=>oh (stN 5 i b n) λo=>oa (ldN 5 o b) λp=>some (p,o)
 )
 (
 oa (binV .eql .scalar c (I 4)) λq=>cond2 q
 (
 ob (buildSl 1 3 [I 0,I 0,I 0] [(0,1,(I 2)),(1,1,(I 3)),(2,1,(I 3))] h) λr s=>oa (fldA 1 a) λt=>oa (ld1 s t) λu=>ob (evalFn tab k d5_ [u,(I 3)] s) λv w=>oa (idxS 1 r v) λx=>oa (ld1 w x) λy=>oa (buildV [I 0,I 0,I 0,I 0,.nils] [(0,1,y)]) λz=>oh (stN 5 w b z) λaa=>oa (ldN 5 aa b) λab=>some (ab,aa)
 )
 (
 oa (binV .eql .scalar c (I 5)) λac=>cond2 ac
 (
 k1_ k a b c ac h
 )
 (
 oa (binV .eql .scalar c (I 6)) λad=>cond2 ad
 (
 k1_ k a b c ad h
 )
 (
 oa (binV .eql .scalar c (I 7)) λae=>k1_ k a b c ae h
 )
 )
 )
 ):=bkEq
theorem a8_:s0_ k a b c d h =
 cond2 d
 (
 oa (fldA 1 a) λe=>oa (ld1 h e) λf=>ob (evalFn tab k d5_ [f,(I 31)] h) λg i=>oa (binV .add .scalar (I 1) g) λl=>oa (buildV [I 0,I 0,I 0,I 0,.nils] [(0,1,(I 1)),(1,1,l)]) λm=>oh (stN 5 i b m) λn=>oa (ldN 5 n b) λo=>some (o,n)
 )
 (
 oa (binV .eql .scalar c (I 2)) λp=>cond2 p
 (
 k0_ k a b c p h
 )
 (
 oa (binV .eql .scalar c (I 3)) λq=>k0_ k a b c q h
 )
 ):=bkEq
theorem a8i:evalFn tab (k+1) c0_ [a] h =
 ob (newVar h (AV.cells a)) λb c=>ob (newVar c [I 0,I 0,I 0,I 0,.nils]) λd e=>oa (fldA 0 b) λf=>oa (ld1 e f) λg=>ob (evalFn tab k d5_ [g,(I 14)] e) λi l=>oa (binV .eql .scalar i (I 0)) λm=>cond2 m
 (
 s0_ k b d i m l
 )
 (
 oa (binV .eql .scalar i (I 1)) λn=>s0_ k b d i n l
 ):=fnEq
def a1I:=bk tab tbl a0f 0 [] [a,b,c] h k
theorem a8j:a1I k a b c h =
 oa (nilCk b) λd=>oa (fldA 3 d) λe=>oa (ld1 h e) λf=>oa (binV .neq .scalar f (I 0)) λg=>cond2 g
 (
 oa (buildV [I 0,I 0,I 0,I 0,.nils] []) λi=>oa (nilCk b) λl=>oa (fldA 1 l) λm=>oa (ld1 h m) λn=>oa (nilCk b) λo=>oa (fldA 3 o) λp=>oa (ld1 h p) λq=>oh (stN 5 h a i) λr=>chk ((sameB (pure1 r (ld1 r m)) n && (sameB (pure1 r (ld1 r p)) q && true))) <|oa (ldN 5 r a) λs=>some (.tup [s,n,q],r)
 )
 (
 oa (ldN 5 h c) λt=>oh (stN 5 h a t) λu=>oa (ldN 5 u a) λv=>some (.tup [v,(I 0),(I 0)],u)
 ):=bkEq
theorem b0d:evalFn tab (k+1) a0f [a] h =
 ob (newVar h [I 0,I 0,I 0,I 0,.nils]) λb c=>oa (lenB a) λd=>oa (binV .gtr .scalar d (I 200)) λe=>cond2 e
 (
 oa (buildV [I 0,I 0,I 0,I 0,.nils] []) λf=>oh (stN 5 c b f) λg=>oa (ldN 5 g b) λi=>some (.tup [i,(I 0),(I 4)],g)
 )
 (
 oa (buildV [.str ⟨#[]⟩,I 0,I 0,I 0] [(0,1,a)]) λl=>ob (newVar c (AV.cells l)) λm n=>ob (evalFn tab k f0_ [m] n) λo p=>ob (newVar p [I 0,I 0,I 0,I 0,.nils]) λq r=>oh (stN 5 r q o) λs=>oa (nilCk m) λt=>oa (fldA 3 t) λu=>oa (ld1 s u) λv=>oa (binV .eql .scalar v (I 0)) λw=>ob (gd w true (some (m,s)) s) λx y=>ob (gd w true (pure1 y (nilCk x)) y) λz aa=>ob (gd w true (pure1 aa (fldA 1 z)) aa) λab ac=>ob (gd w true (pure1 ac (ld1 ac ab)) ac) λad ae=>ob (gd w true (some (a,ae)) ae) λaf ag=>ob (gd w true (pure1 ag (lenB af)) ag) λai al=>ob (gd w true (pure1 al (binV .lss .scalar ad ai)) al) λam an=>oa (pickV w am (.bool false)) λao=>cond2 ao
 (
 ob (evalFn tab k b5_ [m,(I 3)] an) λap aq=>a1I k b m q aq
 )
 (
 a1I k b m q an
 )
 ):=fnEq
theorem b0e:evalFn tab (k+1) a2u [a] h =
 ob (newVar h (AV.cells a)) λb c=>ob (newVar c [I 0,I 0,I 0,.nils,.nils]) λd e=>oa (buildV [I 0,I 0,I 0,.nils,.nils,.bool false] []) λf=>ob (newVar e (AV.cells f)) λg i=>oa (ldN 5 i b) λl=>ob (evalFn tab k b9_ [g,l] i) λm n=>oa (extr 0 m) λo=>oa (extr 1 m) λp=>oa (nilCk g) λq=>oa (fldA 5 q) λr=>oa (ld1 n r) λs=>cond2 s
 (
 oa (buildV [I 0,I 0,I 0,.nils,.nils] []) λt=>oh (stN 5 n d t) λu=>oa (ldN 5 u d) λv=>some (.tup [v,(I 4)],u)
 )
 (
 oa (nilCk g) λw=>oa (fldA 0 w) λx=>oa (fldA 1 x) λy=>oh (stN 1 n y o) λz=>oa (nilCk g) λaa=>oa (fldA 0 aa) λab=>oa (fldA 2 ab) λac=>oh (stN 1 z ac p) λad=>oa (nilCk g) λae=>oa (fldA 0 ae) λaf=>oa (ldN 5 ad af) λag=>oh (stN 5 ad d ag) λai=>oa (ldN 5 ai d) λal=>some (.tup [al,(I 0)],ai)
 ):=fnEq
def t1_:=bk tab tbl d0_ 0 [j0] [a,b,c,d,e,f] h k
def t2_:=bk tab tbl d0_ 1 [j0,j1] [a,b,c,d,e,f,g,i] h k
def t3_:=bk tab tbl d0_ 2 [j0,j1] [a,b,c,d,e,f,g,i,l] h k
def a0F:=bk tab tbl d0_ 3 [j0] [a,b,c,d,e,f,g] h k
def a3X:=bk tab tbl d0_ 4 [j0] [a,b,c,d,e,f] h k
def a0G:=bk tab tbl d0_ 5 [] [a,b] h k
theorem a7k:t3_ k j0 j1 a b c d e f g i l h =
 oa (idxA 5 1 g i) λm=>oh (stN 1 h m l) λn=>oa (binV .add .scalar i (I 1)) λo=>t2_ k j0 j1 a b c d e f g o n:=bkEq
theorem a7l:a3X k j0 a b c d e f h =
 oa (binV .add .scalar f (I 1)) λg=>t1_ k j0 a b c d e g h:=bkEq
theorem a7m:a0F k j0 a b c d e f g h =
 oa (fldA 0 e) λi=>oa (ld1 h i) λl=>oa (ldN 5 h g) λm=>ob (buildSl 5 1 [I 0,I 0,I 0,I 0,I 0] [(0,5,m)] h) λn o=>ob (apnd 5 40 l n o) λp q=>oa (fldA 0 e) λr=>oh (stN 1 q r p) λs=>oa (fldA 1 e) λt=>oa (ld1 s t) λu=>oa (idxS 1 d f) λv=>oa (ld1 s v) λw=>oa (fldA 2 b) λx=>oa (ld1 s x) λy=>oa (idxS 1 w y) λz=>oa (ld1 s z) λaa=>ob (buildSl 1 1 [.bool false] [(0,1,aa)] s) λab ac=>ob (apnd 1 1 u ab ac) λad ae=>oa (fldA 1 e) λaf=>oh (stN 1 ae af ad) λag=>a3X k j0 a b c d e f ag:=bkEq
theorem a2y:t2_ k j0 (j1+1) a b c d e f g i h =
 oa (binV .lss .scalar i (I 5)) λl=>cond2 l
 (
 oa (ldN 5 h b) λm=>oa (idxS 1 d f) λn=>oa (ld1 h n) λo=>ob (evalFn tab k u1_ [m,o,i] h) λp q=>ob (evalFn tab k a0x [d,p] q) λr s=>oa (binV .lss .scalar r (I 0)) λt=>cond2 t
 (
 oa (lenS d) λu=>oa (binV .geq .scalar u a) λv=>cond2 v
 (
 oa (buildV [.nils,.nils] []) λw=>oh (stN 2 s c w) λx=>oa (ldN 2 x c) λy=>some (.tup [y,(I 5)],x)
 )
 (
 ob (buildSl 1 1 [.nils] [(0,1,p)] s) λz aa=>ob (apnd 1 24 d z aa) λab ac=>t3_ k j0 j1 a b c ab e f g i u ac
 )
 )
 (
 t3_ k j0 j1 a b c d e f g i r s
 )
 )
 (
 a0F k j0 a b c d e f g h
 ):=bkEq
theorem a7n:a0G k a b h =
 oa (ldN 2 h b) λc=>oh (stN 2 h a c) λd=>oa (ldN 2 d a) λe=>some (.tup [e,(I 0)],d):=bkEq
theorem a7o:t1_ k (j0+1) a b c d e f h =
 oa (lenS d) λg=>oa (binV .lss .scalar f g) λi=>cond2 i
 (
 ob (newVar h [I 0,I 0,I 0,I 0,I 0]) λl m=>t2_ k j0 k a b c d e f l (I 0) m
 )
 (
 a0G k c e h
 ):=bkEq
theorem a8X:evalFn tab (k+1) d0_ [a,b] h =
 ob (newVar h (AV.cells a)) λc d=>ob (newVar d [.nils,.nils]) λe f=>oa (ldN 5 f c) λg=>ob (evalFn tab k a2v [g] f) λi l=>ob (buildSl 1 1 [.nils] [(0,1,i)] l) λm n=>ob (newVar n [.nils,.nils]) λo p=>t1_ k k b c e m o (I 0) p:=fnEq
def s3_:=bk tab tbl d8_ 0 [j0] [a,b,c,d,e,f,g] h k
def s4_:=bk tab tbl d8_ 1 [j0,j1] [a,b,c,d,e,f,g,i,l] h k
def s5_:=bk tab tbl d8_ 2 [j0,j1] [a,b,c,d,e,f,g,i,l,m] h k
def a0r:=bk tab tbl d8_ 3 [j0] [a,b,c,d,e,f,g,i] h k
def a3C:=bk tab tbl d8_ 4 [j0] [a,b,c,d,e,f,g] h k
theorem a6G:s5_ k j0 j1 a b c d e f g i l m h =
 oa (idxS 1 c m) λn=>oa (ld1 h n) λo=>oa (idxS 1 e o) λp=>oa (ld1 h p) λq=>oa (binV .sub .scalar q (I 1)) λr=>oa (idxA 5 1 i l) λs=>oh (stN 1 h s r) λt=>oa (binV .add .scalar l (I 1)) λu=>s4_ k j0 j1 a b c d e f g i u t:=bkEq
theorem a6H:a3C k j0 a b c d e f g h =
 oa (binV .add .scalar g (I 1)) λi=>s3_ k j0 a b c d e f i h:=bkEq
theorem a6I:a0r k j0 a b c d e f g i h =
 oa (fldA 0 d) λl=>oa (ld1 h l) λm=>oa (ldN 5 h i) λn=>ob (buildSl 5 1 [I 0,I 0,I 0,I 0,I 0] [(0,5,n)] h) λo p=>ob (apnd 5 40 m o p) λq r=>oa (fldA 0 d) λs=>oh (stN 1 r s q) λt=>oa (fldA 1 d) λu=>oa (ld1 t u) λv=>oa (fldA 1 a) λw=>oa (ld1 t w) λx=>oa (idxS 1 f g) λy=>oa (ld1 t y) λz=>oa (idxS 1 x z) λaa=>oa (ld1 t aa) λab=>ob (buildSl 1 1 [.bool false] [(0,1,ab)] t) λac ad=>ob (apnd 1 1 v ac ad) λae af=>oa (fldA 1 d) λag=>oh (stN 1 af ag ae) λai=>a3C k j0 a b c d e f g ai:=bkEq
theorem a2j:s4_ k j0 (j1+1) a b c d e f g i l h =
 oa (binV .lss .scalar l (I 5)) λm=>cond2 m
 (
 oa (fldA 0 a) λn=>oa (ld1 h n) λo=>oa (idxS 1 f g) λp=>oa (ld1 h p) λq=>oa (idxS 5 o q) λr=>oa (idxA 5 1 r l) λs=>oa (ld1 h s) λt=>oa (idxS 1 c t) λu=>oa (ld1 h u) λv=>oa (idxS 1 e v) λw=>oa (ld1 h w) λx=>oa (binV .eql .scalar x (I 0)) λy=>cond2 y
 (
 ob (buildSl 1 1 [I 0] [(0,1,t)] h) λz aa=>ob (apnd 1 8 f z aa) λab ac=>oa (idxS 1 c t) λad=>oa (ld1 ac ad) λae=>oa (lenS ab) λaf=>oa (idxS 1 e ae) λag=>oh (stN 1 ac ag af) λai=>s5_ k j0 j1 a b c d e ab g i l t ai
 )
 (
 s5_ k j0 j1 a b c d e f g i l t h
 )
 )
 (
 a0r k j0 a b c d e f g i h
 ):=bkEq
theorem a2k:s3_ k (j0+1) a b c d e f g h =
 oa (lenS f) λi=>oa (binV .lss .scalar g i) λl=>cond2 l
 (
 ob (newVar h [I 0,I 0,I 0,I 0,I 0]) λm n=>s4_ k j0 k a b c d e f g m (I 0) n
 )
 (
 oa (ldN 2 h d) λo=>oh (stN 2 h b o) λp=>oa (ldN 2 p b) λq=>some (q,p)
 ):=bkEq
theorem a8k:evalFn tab (k+1) d8_ [a] h =
 ob (newVar h (AV.cells a)) λb c=>ob (newVar c [.nils,.nils]) λd e=>oa (ldN 2 e b) λf=>ob (evalFn tab k j5_ [f] e) λg i=>ob (newVar i [.nils,.nils]) λl m=>oa (fldA 0 b) λn=>oa (ld1 m n) λo=>oa (lenS o) λp=>ob (mkSl [I 0] 1 8 p p m) λq r=>ob (buildSl 1 1 [I 0] [(0,1,(I 0))] r) λs t=>oa (idxS 1 g (I 0)) λu=>oa (ld1 t u) λv=>oa (idxS 1 q v) λw=>oh (stN 1 t w (I 1)) λx=>s3_ k k b d g l q s (I 0) x:=fnEq
def t4_:=bk tab tbl w5_ 0 [j0] [a,b,c] h k
def a2H:=bk tab tbl w5_ 1 [] [a,b] h k
theorem a9v:a2H k a b h =
 oa (binV .eql .scalar a (I 31)) λc=>cond2 c
 (
 some ((.str ⟨#[46]⟩),h)
 )
 (
 oa (lenB b) λd=>oa (binV .eql .scalar d (I 1)) λe=>cond2 e
 (
 some (b,h)
 )
 (
 oa (binV .add .scalar (.str ⟨#[91]⟩) b) λf=>oa (binV .add .scalar f (.str ⟨#[93]⟩)) λg=>some (g,h)
 )
 ):=bkEq
theorem a4z:t4_ k (j0+1) a b c h =
 oa (binV .lss .scalar c (I 5)) λd=>cond2 d
 (
 oa (convV .u64 c) λe=>oa (binV .shr .scalar a e) λf=>oa (binV .and .scalar f (I 1)) λg=>oa (binV .eql .scalar g (I 1)) λi=>cond2 i
 (
 oa (binV .add .scalar c (I 1)) λl=>oa (slStr (.str ⟨#[119,98,99,102,116]⟩) (some c) (some l)) λm=>oa (binV .add .scalar b m) λn=>oa (binV .add .scalar c (I 1)) λo=>t4_ k j0 a n o h
 )
 (
 oa (binV .add .scalar c (I 1)) λp=>t4_ k j0 a b p h
 )
 )
 (
 a2H k a b h
 ):=bkEq
theorem b1e:evalFn tab (k+1) w5_ [a] h =
 t4_ k k a (.str ⟨#[]⟩) (I 0) h:=fnEq
theorem a7G:evalFn tab (k+1) a0v [a,b] h =
 ob (newVar h (AV.cells b)) λc d=>oa (ldN 5 d c) λe=>ob (evalFn tab k c6_ [e] d) λf g=>oa (fldA 0 c) λi=>oa (ld1 g i) λl=>oa (binV .eql .scalar l (I 5)) λm=>ob (gd m false (pure1 g (fldA 0 c)) g) λn o=>ob (gd m false (pure1 o (ld1 o n)) o) λp q=>ob (gd m false (pure1 q (binV .eql .scalar p (I 4))) q) λr s=>ob (gd m false (some (r,s)) s) λt u=>ob (gd t true (some (a,u)) u) λv w=>ob (gd t true (pure1 w (binV .neq .scalar v (I 5))) w) λx y=>ob (gd m false (pure1 y (pickV t x (.bool false))) y) λz aa=>oa (pickV m (.bool true) z) λab=>cond2 ab
 (
 oa (binV .add .scalar (.str ⟨#[40]⟩) f) λac=>oa (binV .add .scalar ac (.str ⟨#[41]⟩)) λad=>some (ad,aa)
 )
 (
 some (f,aa)
 ):=fnEq
end
end Go.Gm.AQ
namespace Go.Gm.AQ
open Go Go.Gm
noncomputable section
variable (k j0 j1 j2 j3:Nat) (a b c d e f g i l m n:AV) (h:Heap)
def a2l:=bk tab tbl c7_ 0 [j0] [a,b,c,d,e] h k
def a2m:=bk tab tbl c7_ 1 [j0] [a,b,c,d] h k
def a2n:=bk tab tbl c7_ 2 [j0] [a,b,c,d,e] h k
theorem b6e:a2l k (j0+1) a b c d e h =
 oa (lenS a) λf=>oa (binV .lss .scalar e f) λg=>cond2 g
 (
 oa (binV .add .scalar e (I 1)) λi=>oa (idxS 1 b e) λl=>oa (ld1 h l) λm=>ob (gd m true (some (a,h)) h) λn o=>ob (gd m true (some (e,o)) o) λp q=>ob (gd m true (pure1 q (idxS 1 n p)) q) λr s=>ob (gd m true (pure1 s (ld1 s r)) s) λt u=>ob (gd m true (pure1 u (binV .geq .scalar t (I 0))) u) λv w=>oa (pickV m v (.bool false)) λx=>ob (gd x true (some (a,w)) w) λy z=>ob (gd x true (some (e,z)) z) λaa ab=>ob (gd x true (pure1 ab (idxS 1 y aa)) ab) λac ad=>ob (gd x true (pure1 ad (ld1 ad ac)) ad) λae af=>ob (gd x true (pure1 af (binV .lss .scalar ae (I 5))) af) λag ai=>oa (pickV x ag (.bool false)) λal=>ob (gd al true (pure1 ai (fldA 1 c)) ai) λam an=>ob (gd al true (pure1 an (ld1 an am)) an) λao ap=>ob (gd al true (some (a,ap)) ap) λaq ar=>ob (gd al true (some (e,ar)) ar) λau av=>ob (gd al true (pure1 av (idxS 1 aq au)) av) λaw ax=>ob (gd al true (pure1 ax (ld1 ax aw)) ax) λay az=>ob (gd al true (pure1 az (convV .u64 ay)) az) λa0 a1=>ob (gd al true (pure1 a1 (binV .shr .scalar ao a0)) a1) λa2 a3=>ob (gd al true (pure1 a3 (binV .and .scalar a2 (I 1))) a3) λa4 a5=>ob (gd al true (pure1 a5 (binV .eql .scalar a4 (I 1))) a5) λa6 a7=>oa (pickV al a6 (.bool false)) λa8=>oa (idxS 1 d i) λa9=>oh (stN 1 a7 a9 a8) λba=>oa (binV .add .scalar e (I 1)) λbb=>a2l k j0 a b c d bb ba
 )
 (
 some (d,h)
 ):=bkEq
theorem b6f:a2m k (j0+1) a b c d h =
 oa (fldA 4 b) λe=>oa (ld1 h e) λf=>oa (lenS f) λg=>oa (binV .lss .scalar d g) λi=>cond2 i
 (
 oa (fldA 4 b) λl=>oa (ld1 h l) λm=>oa (idxS 5 m d) λn=>oa (ldN 5 h n) λo=>ob (evalFn tab k c7_ [o,a,c] h) λp q=>oa (binV .add .scalar d (I 1)) λr=>a2m k j0 a b p r q
 )
 (
 some (c,h)
 ):=bkEq
theorem b6g:a2n k (j0+1) a b c d e h =
 oa (fldA 4 c) λf=>oa (ld1 h f) λg=>oa (lenS g) λi=>oa (binV .lss .scalar e i) λl=>cond2 l
 (
 oa (fldA 4 c) λm=>oa (ld1 h m) λn=>oa (idxS 5 n e) λo=>oa (ldN 5 h o) λp=>ob (evalFn tab k c7_ [p,a,b] h) λq r=>ob (evalFn tab k g2_ [d,q] r) λs t=>oa (extr 0 s) λu=>oa (extr 1 s) λv=>oa (binV .add .scalar e (I 1)) λw=>a2n k j0 a b c u w t
 )
 (
 some (d,h)
 ):=bkEq
theorem b7Q:evalFn tab (k+1) c7_ [a,b,c] h =
 ob (newVar h (AV.cells a)) λd e=>oa (lenS c) λf=>ob (mkSl [.bool false] 1 1 f f e) λg i=>oa (fldA 0 d) λl=>oa (ld1 i l) λm=>oa (binV .eql .scalar m (I 1)) λn=>cond2 n
 (
 a2l k k b c d g (I 0) i
 )
 (
 oa (binV .eql .scalar m (I 3)) λo=>cond2 o
 (
 some (c,i)
 )
 (
 oa (binV .eql .scalar m (I 4)) λp=>cond2 p
 (
 a2m k k b d c (I 0) i
 )
 (
 oa (binV .eql .scalar m (I 5)) λq=>cond2 q
 (
 a2n k k b c d g (I 0) i
 )
 (
 oa (binV .eql .scalar m (I 6)) λr=>cond2 r
 (
 oa (fldA 4 d) λs=>oa (ld1 i s) λt=>oa (idxS 5 t (I 0)) λu=>oa (ldN 5 i u) λv=>ob (evalFn tab k a0g [v,b,c,(I 0)] i) λw x=>ob (evalFn tab k g2_ [c,w] x) λy z=>oa (extr 0 y) λaa=>oa (extr 1 y) λab=>some (aa,z)
 )
 (
 oa (binV .eql .scalar m (I 7)) λac=>cond2 ac
 (
 oa (fldA 4 d) λad=>oa (ld1 i ad) λae=>oa (idxS 5 ae (I 0)) λaf=>oa (ldN 5 i af) λag=>ob (evalFn tab k a0g [ag,b,c,(I 0)] i) λai al=>some (ai,al)
 )
 (
 oa (binV .eql .scalar m (I 8)) λam=>cond2 am
 (
 oa (fldA 4 d) λan=>oa (ld1 i an) λao=>oa (idxS 5 ao (I 0)) λap=>oa (ldN 5 i ap) λaq=>ob (evalFn tab k c7_ [aq,b,c] i) λar au=>ob (evalFn tab k g2_ [c,ar] au) λav aw=>oa (extr 0 av) λax=>oa (extr 1 av) λay=>some (ax,aw)
 )
 (
 oa (binV .eql .scalar m (I 9)) λaz=>cond2 az
 (
 oa (ldN 5 i d) λa0=>ob (evalFn tab k q0_ [a0,b,c] i) λa1 a2=>some (a1,a2)
 )
 (
 some (g,i)
 )
 )
 )
 )
 )
 )
 )
 ):=fnEq
theorem b8Y:evalFn tab (k+1) a6u [a,b] h =
 ob (mkSl [.bool false] 1 1 a a h) λc d=>oa (idxS 1 c b) λe=>oh (stN 1 d e (.bool true)) λf=>some (c,f):=fnEq
def v3_:=bk tab tbl p8_ 0 [j0] [a,b,c] h k
def a1j:=bk tab tbl p8_ 1 [] [a] h k
theorem a7H:a1j k a h =
 ob (evalFn tab k u0_ [a] h) λb c=>ob (evalFn tab k r5_ [a] c) λd e=>some (d,e):=bkEq
theorem a7I:v3_ k (j0+1) a b c h =
 oa (nilCk a) λd=>oa (fldA 5 d) λe=>oa (ld1 h e) λf=>oa (idxS 1 f b) λg=>oa (ld1 h g) λi=>oa (binV .geq .scalar i (I 0)) λl=>cond2 l
 (
 oa (nilCk a) λm=>oa (fldA 4 m) λn=>oa (ld1 h n) λo=>oa (idxS 1 o b) λp=>oa (ld1 h p) λq=>ob (buildSl 1 1 [I 0] [(0,1,q)] h) λr s=>ob (apnd 1 8 c r s) λt u=>oa (nilCk a) λv=>oa (fldA 5 v) λw=>oa (ld1 u w) λx=>oa (idxS 1 x b) λy=>oa (ld1 u y) λz=>v3_ k j0 a z t u
 )
 (
 a1j k c h
 ):=bkEq
theorem a9w:evalFn tab (k+1) p8_ [a,b] h =
 v3_ k k a b .nils h:=fnEq
def r0_:=bk tab tbl i8_ 0 [j0] [a,b,c,d,e,f] h k
def z8_:=bk tab tbl i8_ 1 [j0,j1] [a,b,c,d,e,f,g,i,l,m,n] h k
theorem a3Y:z8_ k j0 (j1+1) a b c d e f g i l m n h =
 oa (binV .lss .scalar n m) λo=>cond2 o
 (
 oa (idxS 1 l n) λp=>oa (ld1 h p) λq=>oa (fldA 0 e) λr=>oa (ld1 h r) λs=>oa (buildV [I 0,I 0] [(0,1,s),(1,1,q)]) λt=>oa (buildV [I 0,I 0,I 0] [(0,2,t),(2,1,d)]) λu=>ob (buildSl 3 1 [I 0,I 0,I 0] [(0,3,u)] h) λv w=>ob (apnd 3 24 c v w) λx y=>oa (binV .add .scalar n (I 1)) λz=>z8_ k j0 j1 a b x d e f g i l m z y
 )
 (
 oa (binV .add .scalar i (I 1)) λaa=>r0_ k j0 a b c f g aa h
 ):=bkEq
theorem a3Z:r0_ k (j0+1) a b c d e f h =
 oa (binV .lss .scalar f e) λg=>cond2 g
 (
 oa (idxS 1 d f) λi=>oa (ld1 h i) λl=>oa (nilCk a) λm=>oa (fldA 0 m) λn=>oa (fldA 1 n) λo=>oa (ld1 h o) λp=>oa (idxS 4 p l) λq=>oa (ldN 4 h q) λr=>ob (newVar h [I 0,I 0,I 0,I 0]) λs t=>oh (stN 4 t s r) λu=>oa (nilCk a) λv=>oa (fldA 5 v) λw=>oa (ld1 u w) λx=>oa (fldA 1 b) λy=>oa (ld1 u y) λz=>oa (fldA 2 s) λaa=>oa (ld1 u aa) λab=>oa (idxS 5 x z) λac=>oa (idxA 5 1 ac ab) λad=>oa (ld1 u ad) λae=>oa (lenS ae) λaf=>z8_ k j0 k a b c l s d e f ae af (I 0) u
 )
 (
 some (c,h)
 ):=bkEq
theorem b0z:evalFn tab (k+1) i8_ [a,b] h =
 ob (newVar h (AV.cells b)) λc d=>oa (nilCk a) λe=>oa (fldA 2 e) λf=>oa (ld1 d f) λg=>oa (fldA 0 c) λi=>oa (ld1 d i) λl=>ob (evalFn tab k a9j [g,l] d) λm n=>oa (lenS m) λo=>r0_ k k a c .nils m o (I 0) n:=fnEq
theorem b2O:evalFn tab (k+1) a0P [a,b,c,d] h =
 oa (ld1 h b) λe=>oa (ld1 h c) λf=>ob (evalFn tab k y5_ [e,a] h) λg i=>chk ((sameB (pure1 i (ld1 i c)) f && true)) <|ob (evalFn tab k y5_ [f,a] i) λl m=>oa (binV .geq .scalar g (I 0)) λn=>ob (gd n true (some (l,m)) m) λo p=>ob (gd n true (pure1 p (binV .geq .scalar o (I 0))) p) λq r=>oa (pickV n q (.bool false)) λs=>ob (gd s true (pure1 r (ld1 r d)) r) λt u=>ob (gd s true (pure1 u (binV .lss .scalar t (I 0))) u) λv w=>ob (gd s true (some (v,w)) w) λx y=>ob (gd x false (some (g,y)) y) λz aa=>ob (gd x false (some (l,aa)) aa) λab ac=>ob (gd x false (pure1 ac (binV .add .scalar z ab)) ac) λad ae=>ob (gd x false (pure1 ae (ld1 ae d)) ae) λaf ag=>ob (gd x false (pure1 ag (binV .lss .scalar ad af)) ag) λai al=>ob (gd s true (pure1 al (pickV x (.bool true) ai)) al) λam an=>oa (pickV s am (.bool false)) λao=>cond2 ao
 (
 oa (binV .add .scalar g l) λap=>oh (stN 1 an d ap) λaq=>some (.tup [],aq)
 )
 (
 some (.tup [],an)
 ):=fnEq
theorem a9x:evalFn tab (k+1) y5_ [a,b] h =
 oa (nilCk a) λc=>oa (fldA 3 c) λd=>oa (ld1 h d) λe=>oa (idxS 1 e b) λf=>oa (ld1 h f) λg=>oa (binV .geq .scalar g (I 0)) λi=>cond2 i
 (
 oa (nilCk a) λl=>oa (fldA 3 l) λm=>oa (ld1 h m) λn=>oa (idxS 1 n b) λo=>oa (ld1 h o) λp=>some (p,h)
 )
 (
 oa (nilCk a) λq=>oa (fldA 2 q) λr=>oa (ld1 h r) λs=>ob (evalFn tab k a2b [s,b] h) λt u=>oa (extr 0 t) λv=>oa (extr 1 t) λw=>cond2 w
 (
 some (v,u)
 )
 (
 some ((I (-1)),u)
 )
 ):=fnEq
def p4_:=bk tab tbl h7_ 0 [j0] [a,b,c,d,e,f] h k
def a4O:=bk tab tbl h7_ 1 [] [a] h k
theorem a8l:a4O k a h =
 some (.tup [a,(.bool true)],h):=bkEq
theorem a3D:p4_ k (j0+1) a b c d e f h =
 oa (binV .lss .scalar f e) λg=>cond2 g
 (
 oa (idxS 3 d f) λi=>oa (ldN 3 h i) λl=>ob (newVar h [I 0,I 0,I 0]) λm n=>oh (stN 3 n m l) λo=>oa (nilCk a) λp=>oa (fldA 0 p) λq=>oa (ld1 o q) λr=>oa (fldA 0 m) λs=>oa (ldN 2 o s) λt=>ob (evalFn tab k r4_ [r,t] o) λu v=>oa (nilCk a) λw=>oa (fldA 3 w) λx=>oa (ld1 v x) λy=>oa (idxS 1 y u) λz=>oa (ld1 v z) λaa=>oa (binV .lss .scalar aa (I 0)) λab=>ob (gd ab true (some (a,v)) v) λac ad=>ob (gd ab true (pure1 ad (nilCk ac)) ad) λae af=>ob (gd ab true (pure1 af (fldA 2 ae)) af) λag ai=>ob (gd ab true (pure1 ai (ld1 ai ag)) ai) λal am=>ob (gd ab true (some (u,am)) am) λan ao=>ob (gd ab true (some (c,ao)) ao) λap aq=>ob (gd ab true (some (a,aq)) aq) λar au=>ob (gd ab true (pure1 au (nilCk ar)) au) λav aw=>ob (gd ab true (pure1 aw (fldA 0 av)) aw) λax ay=>ob (gd ab true (pure1 ay (ld1 ay ax)) ay) λaz a0=>ob (gd ab true (pure1 a0 (nilCk az)) a0) λa1 a2=>ob (gd ab true (pure1 a2 (fldA 0 a1)) a2) λa3 a4=>ob (gd ab true (pure1 a4 (fldA 1 a3)) a4) λa5 a6=>ob (gd ab true (pure1 a6 (ld1 a6 a5)) a6) λa7 a8=>ob (gd ab true (pure1 a8 (fldA 2 m)) a8) λa9 ba=>ob (gd ab true (pure1 ba (ld1 ba a9)) ba) λbb bc=>ob (gd ab true (pure1 bc (idxS 4 a7 bb)) bc) λbd be=>ob (gd ab true (pure1 be (fldA 3 bd)) be) λbf bg=>ob (gd ab true (pure1 bg (ld1 bg bf)) bg) λbi bl=>ob (gd ab true (pure1 bl (binV .add .scalar ap bi)) bl) λbm bn=>ob (gd ab true (evalFn tab k n9_ [al,an,bm] bn) bn) λbo bp=>oa (pickV ab bo (.bool false)) λbq=>cond2 bq
 (
 oa (nilCk a) λbr=>oa (fldA 4 br) λbs=>oa (ld1 bp bs) λbt=>oa (nilCk a) λbu=>oa (fldA 5 bu) λbv=>oa (ld1 bp bv) λbw=>oa (fldA 2 m) λbx=>oa (ld1 bp bx) λbz=>oa (idxS 1 bt u) λb0=>oh (stN 1 bp b0 bz) λb1=>oa (idxS 1 bw u) λb2=>oh (stN 1 b1 b2 b) λb3=>oa (binV .add .scalar f (I 1)) λb4=>p4_ k j0 a b c d e b4 b3
 )
 (
 oa (binV .add .scalar f (I 1)) λb5=>p4_ k j0 a b c d e b5 bp
 )
 )
 (
 a4O k b h
 ):=bkEq
theorem b0f:evalFn tab (k+1) h7_ [a] h =
 oa (nilCk a) λb=>oa (fldA 2 b) λc=>oa (ld1 h c) λd=>ob (evalFn tab k a0o [d] h) λe f=>oa (extr 0 e) λg=>oa (extr 1 e) λi=>oa (extr 2 e) λl=>oa (unV .not l) λm=>cond2 m
 (
 some (.tup [(I 0),(.bool false)],f)
 )
 (
 oa (nilCk a) λn=>oa (fldA 3 n) λo=>oa (ld1 f o) λp=>oa (idxS 1 p g) λq=>oh (stN 1 f q i) λr=>oa (nilCk a) λs=>oa (fldA 6 s) λt=>oh (stN 1 r t i) λu=>oa (nilCk a) λv=>oa (fldA 1 v) λw=>oa (ld1 u w) λx=>oa (nilCk a) λy=>oa (fldA 0 y) λz=>oa (ld1 u z) λaa=>oa (nilCk a) λab=>oa (fldA 0 ab) λac=>oa (ld1 u ac) λad=>ob (evalFn tab k a0w [ad,g] u) λae af=>chk ((sameB (pure1 af (ld1 af w)) x && (sameB (pure1 af (ld1 af z)) aa && true))) <|ob (callVal (evalFn tab k) x [aa,ae] af) λag ai=>oa (lenS ag) λal=>p4_ k k a g i ag al (I 0) ai
 ):=fnEq
theorem b0A:evalFn tab (k+1) a0w [a,b] h =
 ob (newVar h [I 0,I 0]) λc d=>oa (nilCk a) λe=>oa (fldA 3 e) λf=>oa (fldA 0 f) λg=>oa (ld1 d g) λi=>oa (lenS i) λl=>oa (binV .quo .scalar b l) λm=>oa (nilCk a) λn=>oa (fldA 3 n) λo=>oa (fldA 0 o) λp=>oa (ld1 d p) λq=>oa (lenS q) λr=>oa (binV .rem .scalar b r) λs=>oa (buildV [I 0,I 0] [(0,1,m),(1,1,s)]) λt=>oh (stN 2 d c t) λu=>oa (ldN 2 u c) λv=>some (v,u):=fnEq
theorem b1H:evalFn tab (k+1) r4_ [a,b] h =
 ob (newVar h (AV.cells b)) λc d=>oa (fldA 0 c) λe=>oa (ld1 d e) λf=>oa (nilCk a) λg=>oa (fldA 3 g) λi=>oa (fldA 0 i) λl=>oa (ld1 d l) λm=>oa (lenS m) λn=>oa (binV .mul .scalar f n) λo=>oa (fldA 1 c) λp=>oa (ld1 d p) λq=>oa (binV .add .scalar o q) λr=>some (r,d):=fnEq
def z9_:=bk tab tbl u0_ 0 [j0] [a,b,c] h k
theorem a4b:z9_ k (j0+1) a b c h =
 oa (binV .lss .scalar b c) λd=>cond2 d
 (
 oa (idxS 1 a c) λe=>oa (ld1 h e) λf=>oa (idxS 1 a b) λg=>oa (ld1 h g) λi=>oa (idxS 1 a b) λl=>oh (stN 1 h l f) λm=>oa (idxS 1 a c) λn=>oh (stN 1 m n i) λo=>oa (binV .add .scalar b (I 1)) λp=>oa (binV .sub .scalar c (I 1)) λq=>z9_ k j0 a p q o
 )
 (
 some (.tup [],h)
 ):=bkEq
theorem b0C:evalFn tab (k+1) u0_ [a] h =
 oa (lenS a) λb=>oa (binV .sub .scalar b (I 1)) λc=>z9_ k k a (I 0) c h:=fnEq
theorem b1I:evalFn tab (k+1) r5_ [a] h =
 oa (binV .eql .slice a .nils) λb=>cond2 b
 (
 some (.nils,h)
 )
 (
 ob (buildSl 1 0 [] [] h) λc d=>ob (apnd 1 8 c a d) λe f=>some (e,f)
 ):=fnEq
end
end Go.Gm.AQ
namespace Go.Gm.AQ
open Go Go.Gm
noncomputable section
variable (k j0 j1 j2 j3:Nat) (a b c d e f g i l m n:AV) (h:Heap)
def a5T:=bk tab tbl a7p 0 [j0] [a,b,c,d] h k
theorem b1E:a5T k (j0+1) a b c d h =
 oa (binV .lss .scalar d c) λe=>cond2 e
 (
 oa (idxS 4 b d) λf=>oa (ldN 4 h f) λg=>ob (newVar h [I 0,I 0,I 0,I 0]) λi l=>oh (stN 4 l i g) λm=>oa (fldA 0 i) λn=>oa (ld1 m n) λo=>ob (evalFn tab k a4j [a,o] m) λp q=>ob (gd p true (some (a,q)) q) λr s=>ob (gd p true (pure1 s (fldA 1 i)) s) λt u=>ob (gd p true (pure1 u (ld1 u t)) u) λv w=>ob (gd p true (evalFn tab k a4j [r,v] w) w) λx y=>oa (pickV p x (.bool false)) λz=>cond2 z
 (
 oa (nilCk a) λaa=>oa (fldA 2 aa) λab=>oa (ld1 y ab) λac=>oa (fldA 0 i) λad=>oa (ld1 y ad) λae=>oa (idxS 2 ac ae) λaf=>oa (fldA 1 i) λag=>oa (ld1 y ag) λai=>ob (evalFn tab k a4t [af,d,ai] y) λal am=>oa (nilCk a) λan=>oa (fldA 3 an) λao=>oa (ld1 am ao) λap=>oa (fldA 1 i) λaq=>oa (ld1 am aq) λar=>oa (idxS 2 ap ar) λau=>oa (fldA 0 i) λav=>oa (ld1 am av) λaw=>ob (evalFn tab k a4t [au,d,aw] am) λax ay=>oa (binV .add .scalar d (I 1)) λaz=>a5T k j0 a b c az ay
 )
 (
 oa (binV .add .scalar d (I 1)) λa0=>a5T k j0 a b c a0 y
 )
 )
 (
 some (a,h)
 ):=bkEq
theorem b8Z:evalFn tab (k+1) a7p [a] h =
 ob (newVar h (AV.cells a)) λb c=>oa (fldA 0 b) λd=>oa (ld1 c d) λe=>oa (mmV true e (I 0)) λf=>ob (mkSl [.nils,.nils] 2 48 f f c) λg i=>oa (fldA 0 b) λl=>oa (ld1 i l) λm=>oa (mmV true m (I 0)) λn=>ob (mkSl [.nils,.nils] 2 48 n n i) λo p=>oa (buildV [I 0,.nils,.nils,.nils] [(2,1,g),(3,1,o)]) λq=>ob (newVar p (AV.cells q)) λr s=>oa (fldA 0 b) λt=>oa (ld1 s t) λu=>oa (fldA 1 b) λv=>oa (ld1 s v) λw=>ob (evalFn tab k a1r [w] s) λx y=>chk ((sameB (pure1 y (ld1 y t)) u && true)) <|oa (buildV [I 0,.nils] [(0,1,u),(1,1,x)]) λz=>oa (nilCk r) λaa=>oa (fldA 0 aa) λab=>oh (stN 2 y ab z) λac=>oa (fldA 1 b) λad=>oa (ld1 ac ad) λae=>oa (lenS ae) λaf=>a5T k k r ae af (I 0) ac:=fnEq
def a5U:=bk tab tbl a4U 0 [j0] [a,b,c] h k
theorem a9L:a5U k (j0+1) a b c h =
 oa (binV .lss .scalar c b) λd=>cond2 d
 (
 oa (nilCk a) λe=>oa (fldA 0 e) λf=>oa (fldA 1 f) λg=>oa (ld1 h g) λi=>oa (idxS 1 i c) λl=>oh (stN 1 h l (I (-1))) λm=>oa (binV .add .scalar c (I 1)) λn=>a5U k j0 a b n m
 )
 (
 some (a,h)
 ):=bkEq
theorem b6h:evalFn tab (k+1) a4U [a] h =
 oa (mmV true a (I 0)) λb=>ob (mkSl [I 0] 1 8 b b h) λc d=>oa (buildV [.nils,.nils] [(1,1,c)]) λe=>oa (buildV [.nils,.nils] [(0,2,e)]) λf=>ob (newVar d (AV.cells f)) λg i=>oa (nilCk g) λl=>oa (fldA 0 l) λm=>oa (fldA 1 m) λn=>oa (ld1 i n) λo=>oa (lenS o) λp=>a5U k k g p (I 0) i:=fnEq
theorem b1V:evalFn tab (k+1) n9_ [a,b,c] h =
 oa (binV .lss .scalar b (I 0)) λd=>ob (gd d false (some (b,h)) h) λe f=>ob (gd d false (some (a,f)) f) λg i=>ob (gd d false (pure1 i (nilCk g)) i) λl m=>ob (gd d false (pure1 m (fldA 0 l)) m) λn o=>ob (gd d false (pure1 o (fldA 1 n)) o) λp q=>ob (gd d false (pure1 q (ld1 q p)) q) λr s=>ob (gd d false (pure1 s (lenS r)) s) λt u=>ob (gd d false (pure1 u (binV .geq .scalar e t)) u) λv w=>oa (pickV d (.bool true) v) λx=>cond2 x
 (
 some ((.bool false),w)
 )
 (
 ob (evalFn tab k r6_ [a] w) λy z=>ob (callMeth tab (evalFn tab k) "milestone/queue.place" y [b] z) λaa ab=>oa (binV .lss .scalar aa (I 0)) λac=>cond2 ac
 (
 oa (buildV [I 0,I 0] [(0,1,b),(1,1,c)]) λad=>ob (evalFn tab k a0i [y,(.ifc 198 ad)] ab) λae af=>some ((.bool true),af)
 )
 (
 oa (nilCk a) λag=>oa (fldA 0 ag) λai=>oa (fldA 0 ai) λal=>oa (ld1 ab al) λam=>oa (idxS 2 am aa) λan=>oa (fldA 1 an) λao=>oa (ld1 ab ao) λap=>oa (binV .leq .scalar ap c) λaq=>cond2 aq
 (
 some ((.bool false),ab)
 )
 (
 oa (nilCk a) λar=>oa (fldA 0 ar) λau=>oa (fldA 0 au) λav=>oa (ld1 ab av) λaw=>oa (idxS 2 aw aa) λax=>oa (fldA 1 ax) λay=>oh (stN 1 ab ay c) λaz=>ob (evalFn tab k a0y [y,aa] az) λa0 a1=>some ((.bool true),a1)
 )
 )
 ):=fnEq
theorem b4H:evalFn tab (k+1) a7U [a,b] h =
 oa (nilCk a) λc=>oa (fldA 2 c) λd=>oa (ld1 h d) λe=>ob (evalFn tab k a4u [a,e,b] h) λf g=>ob (callVal (evalFn tab k) (.fn a3L [] []) [f] g) λi l=>some (i,l):=fnEq
theorem a9A:evalFn tab (k+1) d5_ [a,b] h =
 oa (binV .rem .scalar a b) λc=>oa (binV .lss .scalar c (I 0)) λd=>cond2 d
 (
 oa (binV .add .scalar c b) λe=>some (e,h)
 )
 (
 some (c,h)
 ):=fnEq
theorem a8n:evalFn tab (k+1) d9_ [a,b] h =
 ob (newVar h (AV.cells a)) λc d=>ob (newVar d [I 0,I 0,I 0,I 0,.nils]) λe f=>oa (fldA 2 c) λg=>oa (ld1 f g) λi=>oa (lenS i) λl=>oa (binV .lss .scalar b l) λm=>cond2 m
 (
 oa (fldA 2 c) λn=>oa (ld1 f n) λo=>oa (idxS 3 o b) λp=>oa (ldN 3 f p) λq=>ob (evalFn tab k c0_ [q] f) λr s=>oh (stN 5 s e r) λt=>oa (ldN 5 t e) λu=>some (u,t)
 )
 (
 oa (fldA 1 c) λv=>oa (ld1 f v) λw=>oa (binV .add .scalar w b) λx=>ob (evalFn tab k d5_ [x,(I 5)] f) λy z=>oa (convV .u64 y) λaa=>oa (binV .shl .scalar (I 1) aa) λab=>oa (buildV [I 0,I 0,I 0,I 0,.nils] [(0,1,(I 1)),(1,1,ab)]) λac=>oh (stN 5 z e ac) λad=>oa (ldN 5 ad e) λae=>some (ae,ad)
 ):=fnEq
def k9_:=bk tab tbl f0_ 0 [j0] [a,b,c] h k
def u5_:=bk tab tbl f0_ 1 [] [a,b] h k
theorem a5b:u5_ k a b h =
 oa (lenS b) λc=>oa (binV .eql .scalar c (I 1)) λd=>cond2 d
 (
 oa (idxS 5 b (I 0)) λe=>oa (ldN 5 h e) λf=>oh (stN 5 h a f) λg=>oa (ldN 5 g a) λi=>some (i,g)
 )
 (
 oa (buildV [I 0,I 0,I 0,I 0,.nils] [(0,1,(I 5)),(4,1,b)]) λl=>oh (stN 5 h a l) λm=>oa (ldN 5 m a) λn=>some (n,m)
 ):=bkEq
theorem a5c:k9_ k (j0+1) a b c h =
 ob (evalFn tab k b6_ [a] h) λd e=>oa (extr 0 d) λf=>oa (extr 1 d) λg=>oa (unV .not g) λi=>ob (gd i false (some (f,e)) e) λl m=>ob (gd i false (pure1 m (binV .neq .scalar l (.int .u8 124))) m) λn o=>oa (pickV i (.bool true) n) λp=>cond2 p
 (
 u5_ k b c o
 )
 (
 oa (nilCk a) λq=>oa (fldA 1 q) λr=>oa (ld1 o r) λs=>oa (binV .add .scalar s (I 1)) λt=>oa (nilCk a) λu=>oa (fldA 1 u) λv=>oh (stN 1 o v t) λw=>ob (evalFn tab k f4_ [a] w) λx y=>ob (buildSl 5 1 [I 0,I 0,I 0,I 0,.nils] [(0,5,x)] y) λz aa=>ob (apnd 5 56 c z aa) λab ac=>k9_ k j0 a b ab ac
 ):=bkEq
theorem a6j:evalFn tab (k+1) f0_ [a] h =
 ob (newVar h [I 0,I 0,I 0,I 0,.nils]) λb c=>ob (evalFn tab k f4_ [a] c) λd e=>ob (buildSl 5 1 [I 0,I 0,I 0,I 0,.nils] [(0,5,d)] e) λf g=>k9_ k k a b f g:=fnEq
def u6_:=bk tab tbl b9_ 0 [] [a,b,c,d,e,f] h k
def l0_:=bk tab tbl b9_ 1 [j0] [a,b,c,d,e,f,g] h k
def l1_:=bk tab tbl b9_ 2 [j0] [a,b,c,d,e,f,g,i] h k
def g7_:=bk tab tbl b9_ 3 [] [a,b,c,d,e] h k
def l2_:=bk tab tbl b9_ 4 [] [a,b] h k
theorem a5d:l1_ k j0 a b c d e f g i h =
 oa (ldN 5 h i) λl=>ob (evalFn tab k b9_ [a,l] h) λm n=>oa (extr 0 m) λo=>oa (extr 1 m) λp=>ob (buildSl 1 1 [I 0] [(0,1,o)] n) λq r=>ob (apnd 1 8 d q r) λs t=>ob (buildSl 1 1 [I 0] [(0,1,p)] t) λu v=>ob (apnd 1 8 e u v) λw x=>oa (binV .add .scalar g (I 1)) λy=>l0_ k j0 a b c s w f y x:=bkEq
theorem a5e:l2_ k a b h =
 some (.tup [a,b],h):=bkEq
theorem a5f:g7_ k a b c d e h =
 ob (evalFn tab k l7_ [a] h) λf g=>oa (nilCk a) λi=>oa (fldA 5 i) λl=>oa (ld1 g l) λm=>oa (unV .not m) λn=>cond2 n
 (
 oa (ldN 5 g b) λo=>ob (evalFn tab k n2_ [a,o,c,f,d,e] g) λp q=>l2_ k c f q
 )
 (
 l2_ k c f g
 ):=bkEq
theorem a0I:l0_ k (j0+1) a b c d e f g h =
 oa (binV .lss .scalar g f) λi=>ob (gd i true (some (a,h)) h) λl m=>ob (gd i true (pure1 m (nilCk l)) m) λn o=>ob (gd i true (pure1 o (fldA 5 n)) o) λp q=>ob (gd i true (pure1 q (ld1 q p)) q) λr s=>ob (gd i true (pure1 s (unV .not r)) s) λt u=>oa (pickV i t (.bool false)) λv=>cond2 v
 (
 oa (fldA 4 b) λw=>oa (ld1 u w) λx=>oa (idxS 5 x (I 0)) λy=>oa (ldN 5 u y) λz=>ob (newVar u [I 0,I 0,I 0,I 0,.nils]) λaa ab=>oh (stN 5 ab aa z) λac=>oa (fldA 0 b) λad=>oa (ld1 ac ad) λae=>oa (binV .eql .scalar ae (I 5)) λaf=>cond2 af
 (
 oa (fldA 4 b) λag=>oa (ld1 ac ag) λai=>oa (idxS 5 ai g) λal=>oa (ldN 5 ac al) λam=>oh (stN 5 ac aa am) λan=>l1_ k j0 a b c d e f g aa an
 )
 (
 l1_ k j0 a b c d e f g aa ac
 )
 )
 (
 g7_ k a b c d e u
 ):=bkEq
theorem a0J:u6_ k a b c d e f h =
 l0_ k k a b c d e f (I 0) h:=bkEq
theorem a1U:evalFn tab (k+1) b9_ [a,b] h =
 ob (newVar h (AV.cells b)) λc d=>oa (nilCk a) λe=>oa (fldA 5 e) λf=>oa (ld1 d f) λg=>cond2 g
 (
 some (.tup [(I 0),(I 0)],d)
 )
 (
 oa (fldA 0 c) λi=>oa (ld1 d i) λl=>oa (binV .eql .scalar l (I 4)) λm=>cond2 m
 (
 oa (ldN 5 d c) λn=>ob (evalFn tab k d3_ [a,n] d) λo p=>oa (extr 0 o) λq=>oa (extr 1 o) λr=>some (.tup [q,r],p)
 )
 (
 ob (evalFn tab k l7_ [a] d) λs t=>oa (fldA 4 c) λu=>oa (ld1 t u) λv=>oa (lenS v) λw=>oa (fldA 0 c) λx=>oa (ld1 t x) λy=>oa (binV .eql .scalar y (I 9)) λz=>cond2 z
 (
 oa (fldA 3 c) λaa=>oa (ld1 t aa) λab=>u6_ k a c s .nils .nils ab t
 )
 (
 u6_ k a c s .nils .nils w t
 )
 )
 ):=fnEq
theorem b0g:evalFn tab (k+1) a2v [a] h =
 ob (newVar h (AV.cells a)) λb c=>oa (fldA 0 b) λd=>oa (ld1 c d) λe=>ob (mkSl [.bool false] 1 1 e e c) λf g=>oa (fldA 1 b) λi=>oa (ld1 g i) λl=>oa (idxS 1 f l) λm=>oh (stN 1 g m (.bool true)) λn=>oa (ldN 5 n b) λo=>ob (evalFn tab k c3_ [o,f] n) λp q=>some (p,q):=fnEq
def r2_:=bk tab tbl u1_ 0 [j0] [a,b,c,d,e] h k
def a5s:=bk tab tbl u1_ 1 [] [a,b] h k
theorem a9b:a5s k a b h =
 oa (ldN 5 h a) λc=>ob (evalFn tab k c3_ [c,b] h) λd e=>some (d,e):=bkEq
theorem a4c:r2_ k (j0+1) a b c d e h =
 oa (fldA 3 c) λf=>oa (ld1 h f) λg=>oa (lenS g) λi=>oa (binV .lss .scalar e i) λl=>cond2 l
 (
 oa (fldA 3 c) λm=>oa (ld1 h m) λn=>oa (idxS 3 n e) λo=>oa (ldN 3 h o) λp=>ob (newVar h [I 0,I 0,I 0]) λq r=>oh (stN 3 r q p) λs=>oa (binV .geq .scalar b (I 0)) λt=>ob (gd t true (some (b,s)) s) λu v=>ob (gd t true (pure1 v (binV .lss .scalar u (I 5))) v) λw x=>oa (pickV t w (.bool false)) λy=>ob (gd y true (some (a,x)) x) λz aa=>ob (gd y true (pure1 aa (fldA 0 q)) aa) λab ac=>ob (gd y true (pure1 ac (ld1 ac ab)) ac) λad ae=>ob (gd y true (pure1 ae (idxS 1 z ad)) ae) λaf ag=>ob (gd y true (pure1 ag (ld1 ag af)) ag) λai al=>oa (pickV y ai (.bool false)) λam=>ob (gd am true (pure1 al (fldA 2 q)) al) λan ao=>ob (gd am true (pure1 ao (ld1 ao an)) ao) λap aq=>ob (gd am true (some (b,aq)) aq) λar au=>ob (gd am true (pure1 au (convV .u64 ar)) au) λav aw=>ob (gd am true (pure1 aw (binV .shr .scalar ap av)) aw) λax ay=>ob (gd am true (pure1 ay (binV .and .scalar ax (I 1))) ay) λaz a0=>ob (gd am true (pure1 a0 (binV .eql .scalar az (I 1))) a0) λa1 a2=>oa (pickV am a1 (.bool false)) λa3=>cond2 a3
 (
 oa (fldA 1 q) λa4=>oa (ld1 a2 a4) λa5=>oa (idxS 1 d a5) λa6=>oh (stN 1 a2 a6 (.bool true)) λa7=>oa (binV .add .scalar e (I 1)) λa8=>r2_ k j0 a b c d a8 a7
 )
 (
 oa (binV .add .scalar e (I 1)) λa9=>r2_ k j0 a b c d a9 a2
 )
 )
 (
 a5s k c d h
 ):=bkEq
theorem b0E:evalFn tab (k+1) u1_ [a,b,c] h =
 ob (newVar h (AV.cells a)) λd e=>oa (fldA 0 d) λf=>oa (ld1 e f) λg=>ob (mkSl [.bool false] 1 1 g g e) λi l=>r2_ k k b c d i (I 0) l:=fnEq
def a0a:=bk tab tbl a0x 0 [j0] [a,b,c] h k
theorem a4d:a0a k (j0+1) a b c h =
 oa (lenS a) λd=>oa (binV .lss .scalar c d) λe=>cond2 e
 (
 oa (idxS 1 a c) λf=>oa (ld1 h f) λg=>ob (evalFn tab k a0z [g,b] h) λi l=>cond2 i
 (
 some (c,l)
 )
 (
 oa (binV .add .scalar c (I 1)) λm=>a0a k j0 a b m l
 )
 )
 (
 some ((I (-1)),h)
 ):=bkEq
theorem b0F:evalFn tab (k+1) a0x [a,b] h =
 a0a k k a b (I 0) h:=fnEq
def n5_:=bk tab tbl j5_ 0 [j0] [a,b,c] h k
def a4B:=bk tab tbl j5_ 1 [] [a,b] h k
def v5_:=bk tab tbl j5_ 2 [j0] [a,b,c] h k
theorem a7L:v5_ k (j0+1) a b c h =
 oa (ldN 2 h a) λd=>ob (evalFn tab k e2_ [d,b] h) λe f=>oa (extr 0 e) λg=>oa (extr 1 e) λi=>oa (binV .eql .scalar i c) λl=>cond2 l
 (
 some (g,f)
 )
 (
 v5_ k j0 a g i f
 ):=bkEq
theorem a7M:a4B k a b h =
 v5_ k k a b (I 0) h:=bkEq
theorem a2U:n5_ k (j0+1) a b c h =
 oa (lenS b) λd=>oa (binV .lss .scalar c d) λe=>cond2 e
 (
 oa (fldA 1 a) λf=>oa (ld1 h f) λg=>oa (idxS 1 g c) λi=>oa (ld1 h i) λl=>cond2 l
 (
 oa (idxS 1 b c) λm=>oh (stN 1 h m (I 1)) λn=>oa (binV .add .scalar c (I 1)) λo=>n5_ k j0 a b o n
 )
 (
 oa (binV .add .scalar c (I 1)) λp=>n5_ k j0 a b p h
 )
 )
 (
 a4B k a b h
 ):=bkEq
theorem a9B:evalFn tab (k+1) j5_ [a] h =
 ob (newVar h (AV.cells a)) λb c=>oa (fldA 0 b) λd=>oa (ld1 c d) λe=>oa (lenS e) λf=>ob (mkSl [I 0] 1 8 f f c) λg i=>n5_ k k b g (I 0) i:=fnEq
def a0b:=bk tab tbl g2_ 0 [j0] [a,b,c,d] h k
def a5t:=bk tab tbl g2_ 1 [] [a,b] h k
theorem b6i:a5t k a b h =
 some (.tup [a,b],h):=bkEq
theorem b6j:a0b k (j0+1) a b c d h =
 oa (lenS a) λe=>oa (binV .lss .scalar d e) λf=>cond2 f
 (
 oa (idxS 1 a d) λg=>oa (ld1 h g) λi=>ob (gd i true (some (b,h)) h) λl m=>ob (gd i true (some (d,m)) m) λn o=>ob (gd i true (pure1 o (idxS 1 l n)) o) λp q=>ob (gd i true (pure1 q (ld1 q p)) q) λr s=>ob (gd i true (pure1 s (unV .not r)) s) λt u=>oa (pickV i t (.bool false)) λv=>cond2 v
 (
 oa (idxS 1 b d) λw=>oh (stN 1 u w (.bool true)) λx=>oa (binV .add .scalar d (I 1)) λy=>a0b k j0 a b (.bool true) y x
 )
 (
 oa (binV .add .scalar d (I 1)) λz=>a0b k j0 a b c z u
 )
 )
 (
 a5t k b c h
 ):=bkEq
theorem b7R:evalFn tab (k+1) g2_ [a,b] h =
 ob (buildSl 1 0 [] [] h) λc d=>ob (apnd 1 1 c a d) λe f=>a0b k k b e (.bool false) (I 0) f:=fnEq
def a1J:=bk tab tbl a0g 0 [j0] [a,b,c,d,e,f] h k
theorem b5O:a1J k (j0+1) a b c d e f h =
 oa (binV .eql .scalar b (I 0)) λg=>ob (gd g false (some (f,h)) h) λi l=>ob (gd g false (some (b,l)) l) λm n=>ob (gd g false (pure1 n (binV .lss .scalar i m)) n) λo p=>oa (pickV g (.bool true) o) λq=>cond2 q
 (
 oa (ldN 5 p c) λr=>ob (evalFn tab k c7_ [r,a,e] p) λs t=>ob (evalFn tab k g2_ [d,s] t) λu v=>oa (extr 0 u) λw=>oa (extr 1 u) λx=>oa (unV .not x) λy=>cond2 y
 (
 some (w,v)
 )
 (
 oa (binV .add .scalar f (I 1)) λz=>a1J k j0 a b c w s z v
 )
 )
 (
 some (d,p)
 ):=bkEq
theorem b7C:evalFn tab (k+1) a0g [a,b,c,d] h =
 ob (newVar h (AV.cells a)) λe f=>oa (lenS c) λg=>ob (mkSl [.bool false] 1 1 g g f) λi l=>a1J k k b d e i c (I 0) l:=fnEq
def a1l:=bk tab tbl q0_ 0 [j0] [a,b,c,d] h k
def a4C:=bk tab tbl q0_ 1 [] [a,b,c] h k
def a1m:=bk tab tbl q0_ 2 [j0] [a,b,c,d,e] h k
theorem b5E:a1m k (j0+1) a b c d e h =
 oa (fldA 3 c) λf=>oa (ld1 h f) λg=>oa (binV .lss .scalar e g) λi=>cond2 i
 (
 oa (fldA 4 c) λl=>oa (ld1 h l) λm=>oa (idxS 5 m (I 0)) λn=>oa (ldN 5 h n) λo=>ob (evalFn tab k c7_ [o,a,b] h) λp q=>ob (evalFn tab k g2_ [d,p] q) λr s=>oa (extr 0 r) λt=>oa (extr 1 r) λu=>oa (binV .add .scalar e (I 1)) λv=>a1m k j0 a p c t v s
 )
 (
 some (d,h)
 ):=bkEq
theorem b5F:a4C k a b c h =
 oa (fldA 2 c) λd=>oa (ld1 h d) λe=>a1m k k a b c b e h:=bkEq
theorem b5G:a1l k (j0+1) a b c d h =
 oa (fldA 2 c) λe=>oa (ld1 h e) λf=>oa (binV .lss .scalar d f) λg=>cond2 g
 (
 oa (fldA 4 c) λi=>oa (ld1 h i) λl=>oa (idxS 5 l (I 0)) λm=>oa (ldN 5 h m) λn=>ob (evalFn tab k c7_ [n,a,b] h) λo p=>oa (binV .add .scalar d (I 1)) λq=>a1l k j0 a o c q p
 )
 (
 a4C k a b c h
 ):=bkEq
theorem b7t:evalFn tab (k+1) q0_ [a,b,c] h =
 ob (newVar h (AV.cells a)) λd e=>a1l k k b c d (I 0) e:=fnEq
theorem b5H:evalFn tab (k+1) a9j [a,b] h =
 oa (nilCk a) λc=>oa (fldA 3 c) λd=>oa (ld1 h d) λe=>ob (evalFn tab k a4u [a,e,b] h) λf g=>ob (callVal (evalFn tab k) (.fn a3L [] []) [f] g) λi l=>some (i,l):=fnEq
theorem b1W:evalFn tab (k+1) a2b [a,b] h =
 ob (evalFn tab k r6_ [a] h) λc d=>ob (callMeth tab (evalFn tab k) "milestone/queue.place" c [b] d) λe f=>oa (binV .lss .scalar e (I 0)) λg=>cond2 g
 (
 some (.tup [(I 0),(.bool false)],f)
 )
 (
 oa (nilCk a) λi=>oa (fldA 0 i) λl=>oa (fldA 0 l) λm=>oa (ld1 f m) λn=>oa (idxS 2 n e) λo=>oa (fldA 1 o) λp=>oa (ld1 f p) λq=>some (.tup [q,(.bool true)],f)
 ):=fnEq
theorem b1X:evalFn tab (k+1) a0o [a] h =
 oa (nilCk a) λb=>oa (fldA 0 b) λc=>ob (evalFn tab k z1_ [c] h) λd e=>oa (binV .eql .scalar d (I 0)) λf=>cond2 f
 (
 some (.tup [(I 0),(I 0),(.bool false)],e)
 )
 (
 ob (evalFn tab k r6_ [a] e) λg i=>ob (evalFn tab k a2J [g] i) λl m=>oa (tAssert 198 (.agg [I 0,I 0]) true l) λn=>oa (extr 0 n) λo=>oa (extr 1 n) λp=>ob (newVar m [I 0,I 0]) λq r=>oh (stN 2 r q o) λs=>oa (fldA 0 q) λt=>oa (ld1 s t) λu=>oa (fldA 1 q) λv=>oa (ld1 s v) λw=>some (.tup [u,w,p],s)
 ):=fnEq
end
end Go.Gm.AQ
namespace Go.Gm.AQ
open Go Go.Gm
noncomputable section
variable (k j0 j1 j2 j3:Nat) (a b c d e f g i l m n:AV) (h:Heap)
theorem a9d:evalFn tab (k+1) a1r [a] h =
 oa (binV .eql .slice a .nils) λb=>cond2 b
 (
 some (.nils,h)
 )
 (
 ob (buildSl 4 0 [] [] h) λc d=>ob (apnd 4 32 c a d) λe f=>some (e,f)
 ):=fnEq
theorem b5I:evalFn tab (k+1) a4j [a,b] h =
 oa (binV .geq .scalar b (I 0)) λc=>ob (gd c true (some (b,h)) h) λd e=>ob (gd c true (some (a,e)) e) λf g=>ob (gd c true (pure1 g (nilCk f)) g) λi l=>ob (gd c true (pure1 l (fldA 2 i)) l) λm n=>ob (gd c true (pure1 n (ld1 n m)) n) λo p=>ob (gd c true (pure1 p (lenS o)) p) λq r=>ob (gd c true (pure1 r (binV .lss .scalar d q)) r) λs t=>oa (pickV c s (.bool false)) λu=>some (u,t):=fnEq
theorem b4a:evalFn tab (k+1) a4t [a,b,c] h =
 oa (nilCk a) λd=>oa (fldA 0 d) λe=>oa (ld1 h e) λf=>ob (buildSl 1 1 [I 0] [(0,1,b)] h) λg i=>oa (nilCk a) λl=>oa (fldA 1 l) λm=>oa (ld1 i m) λn=>ob (buildSl 1 1 [I 0] [(0,1,c)] i) λo p=>ob (apnd 1 8 f g p) λq r=>chk ((sameB (pure1 r (ld1 r m)) n && true)) <|ob (apnd 1 8 n o r) λs t=>oa (nilCk a) λu=>oa (fldA 0 u) λv=>oh (stN 1 t v q) λw=>oa (nilCk a) λx=>oa (fldA 1 x) λy=>oh (stN 1 w y s) λz=>some (.tup [],z):=fnEq
theorem b1K:evalFn tab (k+1) r6_ [a] h =
 oa (nilCk a) λb=>oa (fldA 0 b) λc=>some ((.ifc 218 c),h):=fnEq
theorem b0i:evalFn tab (k+1) a0i [a,b] h =
 ob (callMeth tab (evalFn tab k) "Push" a [b] h) λc d=>ob (callMeth tab (evalFn tab k) "Len" a [] d) λe f=>oa (binV .sub .scalar e (I 1)) λg=>ob (evalFn tab k w6_ [a,g] f) λi l=>some (.tup [],l):=fnEq
theorem b0G:evalFn tab (k+1) a0y [a,b] h =
 ob (callMeth tab (evalFn tab k) "Len" a [] h) λc d=>ob (evalFn tab k f5_ [a,b,c] d) λe f=>oa (unV .not e) λg=>cond2 g
 (
 ob (evalFn tab k w6_ [a,b] f) λi l=>some (.tup [],l)
 )
 (
 some (.tup [],f)
 ):=fnEq
theorem b3r:evalFn tab (k+1) a3L [a] h =
 ob (newVar h (AV.cells a)) λb c=>oa (fldA 0 b) λd=>oa (ld1 c d) λe=>oa (lenS e) λf=>oa (fldA 0 b) λg=>oa (ld1 c g) λi=>oa (slSl 1 i none (some f) (some f)) λl=>ob (evalFn tab k r5_ [l] c) λm n=>some (m,n):=fnEq
theorem b4b:evalFn tab (k+1) a4u [a,b,c] h =
 ob (newVar h [.nils,.nils]) λd e=>ob (evalFn tab k a4j [a,c] e) λf g=>oa (unV .not f) λi=>cond2 i
 (
 oa (buildV [.nils,.nils] []) λl=>oh (stN 2 g d l) λm=>oa (ldN 2 m d) λn=>some (n,m)
 )
 (
 oa (idxS 2 b c) λo=>oa (ldN 2 g o) λp=>oh (stN 2 g d p) λq=>oa (ldN 2 q d) λr=>some (r,q)
 ):=fnEq
def n1_:=bk tab tbl f4_ 0 [j0] [a,b,c] h k
def x2_:=bk tab tbl f4_ 1 [] [a,b] h k
theorem a5E:x2_ k a b h =
 oa (lenS b) λc=>oa (binV .eql .scalar c (I 1)) λd=>cond2 d
 (
 oa (idxS 5 b (I 0)) λe=>oa (ldN 5 h e) λf=>oh (stN 5 h a f) λg=>oa (ldN 5 g a) λi=>some (i,g)
 )
 (
 oa (buildV [I 0,I 0,I 0,I 0,.nils] [(0,1,(I 4)),(4,1,b)]) λl=>oh (stN 5 h a l) λm=>oa (ldN 5 m a) λn=>some (n,m)
 ):=bkEq
theorem a5F:n1_ k (j0+1) a b c h =
 ob (evalFn tab k b6_ [a] h) λd e=>oa (extr 0 d) λf=>oa (extr 1 d) λg=>oa (unV .not g) λi=>ob (gd i false (some (f,e)) e) λl m=>ob (gd i false (pure1 m (binV .eql .scalar l (.int .u8 124))) m) λn o=>oa (pickV i (.bool true) n) λp=>ob (gd p false (some (f,o)) o) λq r=>ob (gd p false (pure1 r (binV .eql .scalar q (.int .u8 41))) r) λs t=>oa (pickV p (.bool true) s) λu=>cond2 u
 (
 x2_ k b c t
 )
 (
 ob (evalFn tab k f1_ [a] t) λv w=>ob (buildSl 5 1 [I 0,I 0,I 0,I 0,.nils] [(0,5,v)] w) λx y=>ob (apnd 5 56 c x y) λz aa=>n1_ k j0 a b z aa
 ):=bkEq
theorem a6M:evalFn tab (k+1) f4_ [a] h =
 ob (newVar h [I 0,I 0,I 0,I 0,.nils]) λb c=>ob (evalFn tab k f1_ [a] c) λd e=>ob (buildSl 5 1 [I 0,I 0,I 0,I 0,.nils] [(0,5,d)] e) λf g=>n1_ k k a b f g:=fnEq
theorem a2r:evalFn tab (k+1) b6_ [a] h =
 oa (nilCk a) λb=>oa (fldA 1 b) λc=>oa (ld1 h c) λd=>oa (nilCk a) λe=>oa (fldA 0 e) λf=>oa (ld1 h f) λg=>oa (lenB g) λi=>oa (binV .geq .scalar d i) λl=>ob (gd l false (some (a,h)) h) λm n=>ob (gd l false (pure1 n (nilCk m)) n) λo p=>ob (gd l false (pure1 p (fldA 3 o)) p) λq r=>ob (gd l false (pure1 r (ld1 r q)) r) λs t=>ob (gd l false (pure1 t (binV .neq .scalar s (I 0))) t) λu v=>oa (pickV l (.bool true) u) λw=>cond2 w
 (
 some (.tup [(.int .u8 0),(.bool false)],v)
 )
 (
 oa (nilCk a) λx=>oa (fldA 0 x) λy=>oa (ld1 v y) λz=>oa (nilCk a) λaa=>oa (fldA 1 aa) λab=>oa (ld1 v ab) λac=>oa (ixS z ac) λad=>some (.tup [ad,(.bool true)],v)
 ):=fnEq
def l3_:=bk tab tbl d3_ 0 [j0] [a,b,c,d,e] h k
def u7_:=bk tab tbl d3_ 1 [] [a,b,c] h k
def l4_:=bk tab tbl d3_ 2 [j0] [a,b,c,d] h k
def a1V:=bk tab tbl d3_ 3 [] [a,b] h k
theorem a5g:a1V k a b h =
 oa (idxS 1 a (I 0)) λc=>oa (ld1 h c) λd=>oa (lenS b) λe=>oa (binV .sub .scalar e (I 1)) λf=>oa (idxS 1 b f) λg=>oa (ld1 h g) λi=>some (.tup [d,i],h):=bkEq
theorem a0K:l4_ k (j0+1) a b c d h =
 oa (binV .add .scalar d (I 1)) λe=>oa (lenS b) λf=>oa (binV .lss .scalar e f) λg=>cond2 g
 (
 oa (idxS 1 c d) λi=>oa (ld1 h i) λl=>oa (binV .add .scalar d (I 1)) λm=>oa (idxS 1 b m) λn=>oa (ld1 h n) λo=>ob (evalFn tab k a2_ [a,l,o] h) λp q=>oa (binV .add .scalar d (I 1)) λr=>l4_ k j0 a b c r q
 )
 (
 a1V k b c h
 ):=bkEq
theorem a5h:u7_ k a b c h =
 oa (nilCk a) λd=>oa (fldA 5 d) λe=>oa (ld1 h e) λf=>cond2 f
 (
 some (.tup [(I 0),(I 0)],h)
 )
 (
 l4_ k k a b c (I 0) h
 ):=bkEq
theorem a0L:l3_ k (j0+1) a b c d e h =
 oa (fldA 4 b) λf=>oa (ld1 h f) λg=>oa (lenS g) λi=>oa (binV .lss .scalar e i) λl=>ob (gd l true (some (a,h)) h) λm n=>ob (gd l true (pure1 n (nilCk m)) n) λo p=>ob (gd l true (pure1 p (fldA 5 o)) p) λq r=>ob (gd l true (pure1 r (ld1 r q)) r) λs t=>ob (gd l true (pure1 t (unV .not s)) t) λu v=>oa (pickV l u (.bool false)) λw=>cond2 w
 (
 oa (fldA 4 b) λx=>oa (ld1 v x) λy=>oa (idxS 5 y e) λz=>oa (ldN 5 v z) λaa=>ob (evalFn tab k b9_ [a,aa] v) λab ac=>oa (extr 0 ab) λad=>oa (extr 1 ab) λae=>ob (buildSl 1 1 [I 0] [(0,1,ad)] ac) λaf ag=>ob (apnd 1 8 c af ag) λai al=>ob (buildSl 1 1 [I 0] [(0,1,ae)] al) λam an=>ob (apnd 1 8 d am an) λao ap=>oa (binV .add .scalar e (I 1)) λaq=>l3_ k j0 a b ai ao aq ap
 )
 (
 u7_ k a c d v
 ):=bkEq
theorem a6k:evalFn tab (k+1) d3_ [a,b] h =
 ob (newVar h (AV.cells b)) λc d=>l3_ k k a c .nils .nils (I 0) d:=fnEq
theorem a5V:evalFn tab (k+1) l7_ [a] h =
 oa (nilCk a) λb=>oa (fldA 0 b) λc=>oa (fldA 0 c) λd=>oa (ld1 h d) λe=>oa (binV .geq .scalar e (I 1000)) λf=>cond2 f
 (
 oa (nilCk a) λg=>oa (fldA 5 g) λi=>oh (stN 1 h i (.bool true)) λl=>some ((I 0),l)
 )
 (
 oa (nilCk a) λm=>oa (fldA 0 m) λn=>oa (fldA 0 n) λo=>oa (ld1 h o) λp=>oa (binV .add .scalar p (I 1)) λq=>oa (nilCk a) λr=>oa (fldA 0 r) λs=>oa (fldA 0 s) λt=>oh (stN 1 h t q) λu=>oa (nilCk a) λv=>oa (fldA 0 v) λw=>oa (fldA 0 w) λx=>oa (ld1 u x) λy=>oa (binV .sub .scalar y (I 1)) λz=>some (z,u)
 ):=fnEq
def l5_:=bk tab tbl n2_ 0 [j0] [a,b,c,d,e,f] h k
theorem a0M:l5_ k (j0+1) a b c d e f h =
 oa (lenS d) λg=>oa (binV .lss .scalar f g) λi=>cond2 i
 (
 oa (idxS 1 d f) λl=>oa (ld1 h l) λm=>ob (evalFn tab k a2_ [a,b,m] h) λn o=>oa (idxS 1 e f) λp=>oa (ld1 o p) λq=>ob (evalFn tab k a2_ [a,q,c] o) λr s=>oa (binV .add .scalar f (I 1)) λt=>l5_ k j0 a b c d e t s
 )
 (
 some (.tup [],h)
 ):=bkEq
theorem a6l:evalFn tab (k+1) n2_ [a,b,c,d,e,f] h =
 ob (newVar h (AV.cells b)) λg i=>oa (fldA 0 g) λl=>oa (ld1 i l) λm=>oa (binV .eql .scalar m (I 1)) λn=>cond2 n
 (
 oa (nilCk a) λo=>oa (fldA 0 o) λp=>oa (fldA 3 p) λq=>oa (ld1 i q) λr=>oa (fldA 1 g) λs=>oa (ld1 i s) λt=>oa (buildV [I 0,I 0,I 0] [(0,1,c),(1,1,d),(2,1,t)]) λu=>ob (buildSl 3 1 [I 0,I 0,I 0] [(0,3,u)] i) λv w=>ob (apnd 3 24 r v w) λx y=>oa (nilCk a) λz=>oa (fldA 0 z) λaa=>oa (fldA 3 aa) λab=>oh (stN 1 y ab x) λac=>some (.tup [],ac)
 )
 (
 oa (binV .eql .scalar m (I 3)) λad=>cond2 ad
 (
 ob (evalFn tab k a2_ [a,c,d] i) λae af=>some (.tup [],af)
 )
 (
 oa (binV .eql .scalar m (I 5)) λag=>cond2 ag
 (
 l5_ k k a c d e f (I 0) i
 )
 (
 oa (binV .eql .scalar m (I 6)) λai=>cond2 ai
 (
 oa (idxS 1 e (I 0)) λal=>oa (ld1 i al) λam=>ob (evalFn tab k a2_ [a,c,am] i) λan ao=>ob (evalFn tab k a2_ [a,c,d] ao) λap aq=>oa (idxS 1 f (I 0)) λar=>oa (ld1 aq ar) λau=>oa (idxS 1 e (I 0)) λav=>oa (ld1 aq av) λaw=>ob (evalFn tab k a2_ [a,au,aw] aq) λax ay=>oa (idxS 1 f (I 0)) λaz=>oa (ld1 ay az) λa0=>ob (evalFn tab k a2_ [a,a0,d] ay) λa1 a2=>some (.tup [],a2)
 )
 (
 oa (binV .eql .scalar m (I 7)) λa3=>cond2 a3
 (
 oa (idxS 1 e (I 0)) λa4=>oa (ld1 i a4) λa5=>ob (evalFn tab k a2_ [a,c,a5] i) λa6 a7=>oa (idxS 1 f (I 0)) λa8=>oa (ld1 a7 a8) λa9=>oa (idxS 1 e (I 0)) λba=>oa (ld1 a7 ba) λbb=>ob (evalFn tab k a2_ [a,a9,bb] a7) λbc bd=>oa (idxS 1 f (I 0)) λbe=>oa (ld1 bd be) λbf=>ob (evalFn tab k a2_ [a,bf,d] bd) λbg bi=>some (.tup [],bi)
 )
 (
 oa (binV .eql .scalar m (I 8)) λbl=>cond2 bl
 (
 oa (idxS 1 e (I 0)) λbm=>oa (ld1 i bm) λbn=>ob (evalFn tab k a2_ [a,c,bn] i) λbo bp=>ob (evalFn tab k a2_ [a,c,d] bp) λbq br=>oa (idxS 1 f (I 0)) λbs=>oa (ld1 br bs) λbt=>ob (evalFn tab k a2_ [a,bt,d] br) λbu bv=>some (.tup [],bv)
 )
 (
 oa (binV .eql .scalar m (I 9)) λbw=>cond2 bw
 (
 oa (ldN 5 i g) λbx=>ob (evalFn tab k c8_ [a,bx,c,d,e,f] i) λbz b1=>some (.tup [],b1)
 )
 (
 some (.tup [],i)
 )
 )
 )
 )
 )
 )
 ):=fnEq
def n7_:=bk tab tbl c3_ 0 [j0] [a,b,c,d] h k
def a4E:=bk tab tbl c3_ 1 [] [a,b,c] h k
def v8_:=bk tab tbl c3_ 2 [j0] [a,b,c,d,e] h k
def a1o:=bk tab tbl c3_ 3 [] [a,b,c] h k
def v9_:=bk tab tbl c3_ 4 [j0] [a,b,c,d] h k
def n8_:=bk tab tbl c3_ 5 [j0,j1] [a,b,c,d,e] h k
def a1p:=bk tab tbl c3_ 6 [j0] [a,b,c,d] h k
theorem a7Q:a1p k j0 a b c d h =
 oa (binV .add .scalar d (I 1)) λe=>v9_ k j0 a b c e h:=bkEq
theorem a2Y:n8_ k j0 (j1+1) a b c d e h =
 oa (idxS 1 b d) λf=>oa (ld1 h f) λg=>oa (idxS 1 c g) λi=>oa (ld1 h i) λl=>oa (lenS l) λm=>oa (binV .lss .scalar e m) λn=>cond2 n
 (
 oa (idxS 1 b d) λo=>oa (ld1 h o) λp=>oa (idxS 1 c p) λq=>oa (ld1 h q) λr=>oa (idxS 1 r e) λs=>oa (ld1 h s) λt=>oa (idxS 1 a t) λu=>oa (ld1 h u) λv=>oa (unV .not v) λw=>cond2 w
 (
 oa (idxS 1 a t) λx=>oh (stN 1 h x (.bool true)) λy=>ob (buildSl 1 1 [I 0] [(0,1,t)] y) λz aa=>ob (apnd 1 8 b z aa) λab ac=>oa (binV .add .scalar e (I 1)) λad=>n8_ k j0 j1 a ab c d ad ac
 )
 (
 oa (binV .add .scalar e (I 1)) λae=>n8_ k j0 j1 a b c d ae h
 )
 )
 (
 a1p k j0 a b c d h
 ):=bkEq
theorem a2Z:v9_ k (j0+1) a b c d h =
 oa (lenS b) λe=>oa (binV .lss .scalar d e) λf=>cond2 f
 (
 n8_ k j0 k a b c d (I 0) h
 )
 (
 some (a,h)
 ):=bkEq
theorem a7R:a1o k a b c h =
 v9_ k k a b c (I 0) h:=bkEq
theorem a3a:v8_ k (j0+1) a b c d e h =
 oa (fldA 4 a) λf=>oa (ld1 h f) λg=>oa (lenS g) λi=>oa (binV .lss .scalar e i) λl=>cond2 l
 (
 oa (fldA 4 a) λm=>oa (ld1 h m) λn=>oa (idxS 2 n e) λo=>oa (ldN 2 h o) λp=>ob (newVar h [I 0,I 0]) λq r=>oh (stN 2 r q p) λs=>oa (idxA 2 1 q (I 0)) λt=>oa (ld1 s t) λu=>oa (idxA 2 1 q (I 0)) λv=>oa (ld1 s v) λw=>oa (idxS 1 d w) λx=>oa (ld1 s x) λy=>oa (idxA 2 1 q (I 1)) λz=>oa (ld1 s z) λaa=>ob (buildSl 1 1 [I 0] [(0,1,aa)] s) λab ac=>ob (apnd 1 8 y ab ac) λad ae=>chk ((sameB (pure1 ae (ld1 ae t)) u && true)) <|oa (idxS 1 d u) λaf=>oh (stN 1 ae af ad) λag=>oa (binV .add .scalar e (I 1)) λai=>v8_ k j0 a b c d ai ag
 )
 (
 a1o k b c d h
 ):=bkEq
theorem a7S:a4E k a b c h =
 oa (fldA 0 a) λd=>oa (ld1 h d) λe=>ob (mkSl [.nils] 1 24 e e h) λf g=>v8_ k k a b c f (I 0) g:=bkEq
theorem a3b:n7_ k (j0+1) a b c d h =
 oa (lenS b) λe=>oa (binV .lss .scalar d e) λf=>cond2 f
 (
 oa (idxS 1 b d) λg=>oa (ld1 h g) λi=>cond2 i
 (
 ob (buildSl 1 1 [I 0] [(0,1,d)] h) λl m=>ob (apnd 1 8 c l m) λn o=>oa (binV .add .scalar d (I 1)) λp=>n7_ k j0 a b n p o
 )
 (
 oa (binV .add .scalar d (I 1)) λq=>n7_ k j0 a b c q h
 )
 )
 (
 a4E k a b c h
 ):=bkEq
theorem a9E:evalFn tab (k+1) c3_ [a,b] h =
 ob (newVar h (AV.cells a)) λc d=>ob (buildSl 1 0 [] [] d) λe f=>ob (apnd 1 1 e b f) λg i=>n7_ k k c g .nils (I 0) i:=fnEq
def a0c:=bk tab tbl a0z 0 [j0] [a,b,c] h k
theorem a4e:a0c k (j0+1) a b c h =
 oa (lenS a) λd=>oa (binV .lss .scalar c d) λe=>cond2 e
 (
 oa (idxS 1 a c) λf=>oa (ld1 h f) λg=>oa (idxS 1 b c) λi=>oa (ld1 h i) λl=>oa (binV .neq .bool g l) λm=>cond2 m
 (
 some ((.bool false),h)
 )
 (
 oa (binV .add .scalar c (I 1)) λn=>a0c k j0 a b n h
 )
 )
 (
 some ((.bool true),h)
 ):=bkEq
theorem b0H:evalFn tab (k+1) a0z [a,b] h =
 a0c k k a b (I 0) h:=fnEq
def y1_:=bk tab tbl e2_ 0 [j0] [a,b,c,d,e] h k
def y2_:=bk tab tbl e2_ 1 [j0,j1] [a,b,c,d,e,f] h k
def a1K:=bk tab tbl e2_ 2 [j0] [a,b,c,d,e,f] h k
def a1L:=bk tab tbl e2_ 3 [j0] [a,b,c,d,e,f] h k
def a4Q:=bk tab tbl e2_ 4 [j0] [a,b,c,d,e] h k
def a4R:=bk tab tbl e2_ 5 [] [a,b] h k
theorem a3E:a4Q k j0 a b c d e h =
 oa (binV .add .scalar e (I 1)) λf=>y1_ k j0 a b c d f h:=bkEq
theorem a3F:a1L k j0 a b c d e f h =
 oa (idxS 1 c e) λg=>oh (stN 1 h g f) λi=>a4Q k j0 a b c d e i:=bkEq
theorem a8p:a1K k j0 a b c d e f h =
 oa (lenS d) λg=>oa (binV .eql .scalar f g) λi=>cond2 i
 (
 ob (buildSl 1 1 [I 0] [(0,1,e)] h) λl m=>ob (apnd 1 8 d l m) λn o=>a1L k j0 a b c n e f o
 )
 (
 a1L k j0 a b c d e f h
 ):=bkEq
theorem a3G:y2_ k j0 (j1+1) a b c d e f h =
 oa (lenS d) λg=>oa (binV .lss .scalar f g) λi=>ob (gd i true (pure1 h (ldN 2 h b)) h) λl m=>ob (gd i true (some (a,m)) m) λn o=>ob (gd i true (some (d,o)) o) λp q=>ob (gd i true (some (f,q)) q) λr s=>ob (gd i true (pure1 s (idxS 1 p r)) s) λt u=>ob (gd i true (pure1 u (ld1 u t)) u) λv w=>ob (gd i true (some (e,w)) w) λx y=>ob (gd i true (evalFn tab k a0j [l,n,v,x] y) y) λz aa=>ob (gd i true (pure1 aa (unV .not z)) aa) λab ac=>oa (pickV i ab (.bool false)) λad=>cond2 ad
 (
 oa (binV .add .scalar f (I 1)) λae=>y2_ k j0 j1 a b c d e ae ac
 )
 (
 a1K k j0 a b c d e f ac
 ):=bkEq
theorem a8q:a4R k a b h =
 oa (lenS b) λc=>some (.tup [a,c],h):=bkEq
theorem a3H:y1_ k (j0+1) a b c d e h =
 oa (lenS a) λf=>oa (binV .lss .scalar e f) λg=>cond2 g
 (
 y2_ k j0 k a b c d e (I 0) h
 )
 (
 a4R k c d h
 ):=bkEq
theorem b0j:evalFn tab (k+1) e2_ [a,b] h =
 ob (newVar h (AV.cells a)) λc d=>oa (lenS b) λe=>ob (mkSl [I 0] 1 8 e e d) λf g=>y1_ k k b c f .nils (I 0) g:=fnEq
theorem b1L:evalFn tab (k+1) z1_ [a] h =
 oa (nilCk a) λb=>oa (fldA 0 b) λc=>oa (ld1 h c) λd=>oa (lenS d) λe=>some (e,h):=fnEq
theorem b0I:evalFn tab (k+1) a2J [a] h =
 ob (callMeth tab (evalFn tab k) "Len" a [] h) λb c=>oa (binV .sub .scalar b (I 1)) λd=>ob (callMeth tab (evalFn tab k) "Swap" a [(I 0),d] c) λe f=>ob (evalFn tab k f5_ [a,(I 0),d] f) λg i=>ob (callMeth tab (evalFn tab k) "Pop" a [] i) λl m=>some (l,m):=fnEq
def a0s:=bk tab tbl w6_ 0 [j0] [a,b] h k
theorem a4F:a0s k (j0+1) a b h =
 oa (binV .sub .scalar b (I 1)) λc=>oa (binV .quo .scalar c (I 2)) λd=>oa (binV .eql .scalar d b) λe=>ob (gd e false (some (a,h)) h) λf g=>ob (gd e false (some (b,g)) g) λi l=>ob (gd e false (some (d,l)) l) λm n=>ob (gd e false (callMeth tab (evalFn tab k) "Less" f [i,m] n) n) λo p=>ob (gd e false (pure1 p (unV .not o)) p) λq r=>oa (pickV e (.bool true) q) λs=>cond2 s
 (
 some (.tup [],r)
 )
 (
 ob (callMeth tab (evalFn tab k) "Swap" a [d,b] r) λt u=>a0s k j0 a d u
 ):=bkEq
theorem b1l:evalFn tab (k+1) w6_ [a,b] h =
 a0s k k a b h:=fnEq
def p5_:=bk tab tbl f5_ 0 [j0] [a,b,c,d] h k
def p6_:=bk tab tbl f5_ 1 [] [a,b] h k
def p7_:=bk tab tbl f5_ 2 [j0] [a,b,c,d,e] h k
theorem a3I:p6_ k a b h =
 oa (binV .gtr .scalar b a) λc=>some (c,h):=bkEq
theorem a3J:p7_ k j0 a b c d e h =
 ob (callMeth tab (evalFn tab k) "Less" a [e,d] h) λf g=>oa (unV .not f) λi=>cond2 i
 (
 p6_ k b d g
 )
 (
 ob (callMeth tab (evalFn tab k) "Swap" a [d,e] g) λl m=>p5_ k j0 a b c e m
 ):=bkEq
theorem a0t:p5_ k (j0+1) a b c d h =
 oa (binV .mul .scalar (I 2) d) λe=>oa (binV .add .scalar e (I 1)) λf=>oa (binV .geq .scalar f c) λg=>ob (gd g false (some (f,h)) h) λi l=>ob (gd g false (pure1 l (binV .lss .scalar i (I 0))) l) λm n=>oa (pickV g (.bool true) m) λo=>cond2 o
 (
 p6_ k b d n
 )
 (
 oa (binV .add .scalar f (I 1)) λp=>oa (binV .lss .scalar p c) λq=>ob (gd q true (some (a,n)) n) λr s=>ob (gd q true (some (p,s)) s) λt u=>ob (gd q true (some (f,u)) u) λv w=>ob (gd q true (callMeth tab (evalFn tab k) "Less" r [t,v] w) w) λx y=>oa (pickV q x (.bool false)) λz=>cond2 z
 (
 p7_ k j0 a b c d p y
 )
 (
 p7_ k j0 a b c d f y
 )
 ):=bkEq
theorem a4S:evalFn tab (k+1) f5_ [a,b,c] h =
 p5_ k k a b c b h:=fnEq
end
end Go.Gm.AQ
