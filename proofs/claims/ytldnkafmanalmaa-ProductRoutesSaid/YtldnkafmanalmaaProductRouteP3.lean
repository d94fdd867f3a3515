/- A part of the proof (GmAQe3, GmAQe4, GmAQe5, GmAQe6). -/
import Derived.Test.YtldnkafmanalmaaProductRouteP2
set_option linter.unusedVariables false
namespace Go.Gm.AQ
open Go Go.Gm
noncomputable section
variable (k j0 j1 j2 j3:Nat) (a b c d e f g i l m n:AV) (h:Heap)
def n8_:=bk tab tbl c5_ 0 [j0] [a,b,c,d,e] h k
def u8_:=bk tab tbl c5_ 1 [] [a,b,c] h k
def n9_:=bk tab tbl c5_ 2 [j0] [a,b,c,d,e] h k
theorem a0d:n9_ k (j0+1) a b c d e h =
 oa (binV .lss .scalar e d) fun f=>cond2 f
 (
 oa (idxS 2 c e) fun g=>oa (ldN 2 h g) fun i=>ob (newVar h [.int .i64 0,.int .i64 0]) fun l m=>oh (stN 2 m l i) fun n=>oa (nilCk b) fun o=>oa (fldA 2 o) fun p=>oa (ld1 n p) fun q=>oa (ldN 2 n l) fun r=>ob (evalFn tab k j1_ [a,r] n) fun s t=>chk ((sameB (pure1 t (ld1 t p)) q && true)) <|ob (evalFn tab k p8_ [q,s,(.int .i64 0)] t) fun u v=>oa (binV .add .scalar e (.int .i64 1)) fun w=>n9_ k j0 a b c d w v
 )
 (
 some (b,h)
 ):=bkEq
theorem a2Z:u8_ k a b c h =
 oa (lenS b) fun d=>n9_ k k a c b d (.int .i64 0) h:=bkEq
theorem a0e:n8_ k (j0+1) a b c d e h =
 oa (binV .lss .scalar e d) fun f=>cond2 f
 (
 oa (nilCk c) fun g=>oa (fldA 3 g) fun i=>oa (ld1 h i) fun l=>oa (nilCk c) fun m=>oa (fldA 4 m) fun n=>oa (ld1 h n) fun o=>oa (nilCk c) fun p=>oa (fldA 5 p) fun q=>oa (ld1 h q) fun r=>oa (idxS 1 l e) fun s=>oh (stN 1 h s (.int .i64 (-1))) fun t=>oa (idxS 1 o e) fun u=>oh (stN 1 t u (.int .i64 (-1))) fun v=>oa (idxS 1 r e) fun w=>oh (stN 1 v w (.int .i64 (-1))) fun x=>oa (binV .add .scalar e (.int .i64 1)) fun y=>n8_ k j0 a b c d y x
 )
 (
 u8_ k a b c h
 ):=bkEq
theorem a4l:evalFn tab (k+1) c5_ [a,b,c] h =
 oa (nilCk a) fun d=>oa (fldA 0 d) fun e=>oa (fldA 0 e) fun f=>oa (ld1 h f) fun g=>oa (mmV true g (.int .i64 0)) fun i=>oa (nilCk a) fun l=>oa (fldA 3 l) fun m=>oa (fldA 0 m) fun n=>oa (ld1 h n) fun o=>oa (lenS o) fun p=>oa (binV .mul .scalar i p) fun q=>ob (mkSl [.int .i64 0] 1 8 q q h) fun r s=>ob (mkSl [.int .i64 0] 1 8 q q s) fun t u=>ob (mkSl [.int .i64 0] 1 8 q q u) fun v w=>ob (evalFn tab k a2p [q] w) fun x y=>oa (buildV [.nilp,.nilfn,.nilp,.nils,.nils,.nils,.int .i64 0] [(0,1,a),(1,1,b),(2,1,x),(3,1,r),(4,1,t),(5,1,v)]) fun z=>ob (newVar y (AV.cells z)) fun aa ab=>oa (nilCk aa) fun ac=>oa (fldA 3 ac) fun ad=>oa (ld1 ab ad) fun ae=>oa (lenS ae) fun af=>n8_ k k a c aa af (.int .i64 0) ab:=fnEq
def s7_:=bk tab tbl c9_ 0 [j0] [a,b,c,d,e,f] h k
theorem a1a:s7_ k (j0+1) a b c d e f h =
 oa (binV .lss .scalar f e) fun g=>cond2 g
 (
 oa (idxS 1 d f) fun i=>oa (ld1 h i) fun l=>oa (nilCk a) fun m=>oa (fldA 0 m) fun n=>oa (fldA 1 n) fun o=>oa (ld1 h o) fun p=>oa (idxS 4 p l) fun q=>oa (ldN 4 h q) fun r=>ob (newVar h [.int .i64 0,.int .i64 0,.int .i64 0,.int .i64 0]) fun s t=>oh (stN 4 t s r) fun u=>oa (fldA 1 s) fun v=>oa (ld1 u v) fun w=>oa (nilCk a) fun x=>oa (fldA 3 x) fun y=>oa (fldA 0 y) fun z=>oa (ld1 u z) fun aa=>oa (fldA 1 b) fun ab=>oa (ld1 u ab) fun ac=>oa (fldA 2 s) fun ad=>oa (ld1 u ad) fun ae=>oa (idxS 5 aa ac) fun af=>oa (idxA 5 1 af ae) fun ag=>oa (ld1 u ag) fun ai=>oa (buildV [.int .i64 0,.int .i64 0] [(0,1,w),(1,1,ai)]) fun al=>oa (buildV [.int .i64 0,.int .i64 0,.int .i64 0] [(0,2,al),(2,1,l)]) fun am=>ob (buildSl 3 1 [.int .i64 0,.int .i64 0,.int .i64 0] [(0,3,am)] u) fun an ao=>ob (apnd 3 24 c an ao) fun ap aq=>oa (binV .add .scalar f (.int .i64 1)) fun ar=>s7_ k j0 a b ap d e ar aq
 )
 (
 some (c,h)
 ):=bkEq
theorem a5o:evalFn tab (k+1) c9_ [a,b] h =
 ob (newVar h (AV.cells b)) fun c d=>oa (nilCk a) fun e=>oa (fldA 2 e) fun f=>oa (ld1 d f) fun g=>oa (fldA 0 c) fun i=>oa (ld1 d i) fun l=>ob (evalFn tab k a2L [g,l] d) fun m n=>oa (lenS m) fun o=>s7_ k k a c .nils m o (.int .i64 0) n:=fnEq
def p2_:=bk tab tbl e4_ 0 [j0] [a] h k
theorem a0C:p2_ k (j0+1) a h =
 ob (evalFn tab k d9_ [a] h) fun b c=>oa (extr 0 b) fun d=>oa (extr 1 b) fun e=>oa (unV .not e) fun f=>cond2 f
 (
 some (.tup [],c)
 )
 (
 p2_ k j0 a c
 ):=bkEq
theorem a4C:evalFn tab (k+1) e4_ [a] h =
 p2_ k k a h:=fnEq
def h8_:=bk tab tbl j0_ 0 [j0] [a,b,c,d,e,f] h k
theorem a0f:h8_ k (j0+1) a b c d e f h =
 oa (binV .lss .scalar f e) fun g=>cond2 g
 (
 oa (idxS 1 d f) fun i=>oa (ld1 h i) fun l=>oa (nilCk a) fun m=>oa (fldA 0 m) fun n=>oa (ld1 h n) fun o=>oa (buildV [.int .i64 0,.int .i64 0] [(0,1,b),(1,1,f)]) fun p=>ob (evalFn tab k j1_ [o,p] h) fun q r=>ob (gd l true (some (a,r)) r) fun s t=>ob (gd l true (pure1 t (nilCk s)) t) fun u v=>ob (gd l true (pure1 v (fldA 3 u)) v) fun w x=>ob (gd l true (pure1 x (ld1 x w)) x) fun y z=>ob (gd l true (some (q,z)) z) fun aa ab=>ob (gd l true (pure1 ab (idxS 1 y aa)) ab) fun ac ad=>ob (gd l true (pure1 ad (ld1 ad ac)) ad) fun ae af=>ob (gd l true (pure1 af (binV .geq .scalar ae (.int .i64 0))) af) fun ag ai=>oa (pickV l ag (.bool false)) fun al=>ob (gd al true (some (c,ai)) ai) fun am an=>ob (gd al true (pure1 an (binV .lss .scalar am (.int .i64 0))) an) fun ao ap=>ob (gd al true (some (ao,ap)) ap) fun aq ar=>ob (gd aq false (some (a,ar)) ar) fun au av=>ob (gd aq false (pure1 av (nilCk au)) av) fun aw ax=>ob (gd aq false (pure1 ax (fldA 3 aw)) ax) fun ay az=>ob (gd aq false (pure1 az (ld1 az ay)) az) fun a0 a1=>ob (gd aq false (some (q,a1)) a1) fun a2 a3=>ob (gd aq false (pure1 a3 (idxS 1 a0 a2)) a3) fun a4 a5=>ob (gd aq false (pure1 a5 (ld1 a5 a4)) a5) fun a6 a7=>ob (gd aq false (some (a,a7)) a7) fun a8 a9=>ob (gd aq false (pure1 a9 (nilCk a8)) a9) fun ba bb=>ob (gd aq false (pure1 bb (fldA 3 ba)) bb) fun bc bd=>ob (gd aq false (pure1 bd (ld1 bd bc)) bd) fun be bf=>ob (gd aq false (some (c,bf)) bf) fun bg bi=>ob (gd aq false (pure1 bi (idxS 1 be bg)) bi) fun bl bm=>ob (gd aq false (pure1 bm (ld1 bm bl)) bm) fun bn bo=>ob (gd aq false (pure1 bo (binV .lss .scalar a6 bn)) bo) fun bp bq=>ob (gd al true (pure1 bq (pickV aq (.bool true) bp)) bq) fun br bs=>oa (pickV al br (.bool false)) fun bt=>cond2 bt
 (
 oa (binV .add .scalar f (.int .i64 1)) fun bu=>h8_ k j0 a b q d e bu bs
 )
 (
 oa (binV .add .scalar f (.int .i64 1)) fun bv=>h8_ k j0 a b c d e bv bs
 )
 )
 (
 some (c,h)
 ):=bkEq
theorem a4m:evalFn tab (k+1) j0_ [a,b] h =
 oa (nilCk a) fun c=>oa (fldA 0 c) fun d=>oa (ld1 h d) fun e=>oa (nilCk e) fun f=>oa (fldA 3 f) fun g=>oa (fldA 1 g) fun i=>oa (ld1 h i) fun l=>oa (lenS l) fun m=>h8_ k k a b (.int .i64 (-1)) l m (.int .i64 0) h:=fnEq
def h9_:=bk tab tbl b4_ 0 [j0] [a,b,c,d,e] h k
def o0_:=bk tab tbl b4_ 1 [j0,j1] [a,b,c,d,e,f] h k
def u9_:=bk tab tbl b4_ 2 [j0] [a,b,c,d,e] h k
def v0_:=bk tab tbl b4_ 3 [] [a,b,c,d] h k
def i0_:=bk tab tbl b4_ 4 [j0] [a,b,c,d] h k
def o1_:=bk tab tbl b4_ 5 [j0,j1] [a,b,c,d,e] h k
def i1_:=bk tab tbl b4_ 6 [j0,j1,j2] [a,b,c,d,e,f,g] h k
def v1_:=bk tab tbl b4_ 7 [j0,j1] [a,b,c,d,e] h k
theorem a3a:u9_ k j0 a b c d e h =
 oa (binV .add .scalar e (.int .i64 1)) fun f=>h9_ k j0 a b c d f h:=bkEq
theorem a0g:o0_ k j0 (j1+1) a b c d e f h =
 oa (fldA 0 c) fun g=>oa (ld1 h g) fun i=>oa (lenS i) fun l=>oa (binV .lss .scalar f l) fun m=>cond2 m
 (
 oa (idxS 1 d e) fun n=>oa (ld1 h n) fun o=>ob (buildSl 1 1 [.int .i64 0] [(0,1,(.int .i64 (-1)))] h) fun p q=>ob (apnd 1 8 o p q) fun r s=>oa (idxS 1 d e) fun t=>oh (stN 1 s t r) fun u=>oa (binV .add .scalar f (.int .i64 1)) fun v=>o0_ k j0 j1 a b c d e v u
 )
 (
 u9_ k j0 a b c d e h
 ):=bkEq
theorem a3b:v1_ k j0 j1 a b c d e h =
 oa (binV .add .scalar e (.int .i64 1)) fun f=>o1_ k j0 j1 a b c d f h:=bkEq
theorem a0h:i1_ k j0 j1 (j2+1) a b c d e f g h =
 oa (fldA 0 b) fun i=>oa (ld1 h i) fun l=>oa (lenS l) fun m=>oa (binV .lss .scalar g m) fun n=>cond2 n
 (
 oa (fldA 0 b) fun o=>oa (ld1 h o) fun p=>oa (fldA 2 f) fun q=>oa (ld1 h q) fun r=>oa (idxS 5 p g) fun s=>oa (idxA 5 1 s r) fun t=>oa (ld1 h t) fun u=>oa (fldA 0 f) fun v=>oa (ld1 h v) fun w=>oa (idxS 1 c w) fun x=>oa (ld1 h x) fun y=>oa (idxS 1 y g) fun z=>oa (ld1 h z) fun aa=>oa (binV .geq .scalar aa (.int .i64 0)) fun ab=>ob (gd ab true (some (c,h)) h) fun ac ad=>ob (gd ab true (pure1 ad (fldA 1 f)) ad) fun ae af=>ob (gd ab true (pure1 af (ld1 af ae)) af) fun ag ai=>ob (gd ab true (pure1 ai (idxS 1 ac ag)) ai) fun al am=>ob (gd ab true (pure1 am (ld1 am al)) am) fun an ao=>ob (gd ab true (some (u,ao)) ao) fun ap aq=>ob (gd ab true (pure1 aq (idxS 1 an ap)) aq) fun ar au=>ob (gd ab true (pure1 au (ld1 au ar)) au) fun av aw=>ob (gd ab true (pure1 aw (binV .lss .scalar av (.int .i64 0))) aw) fun ax ay=>ob (gd ab true (some (ax,ay)) ay) fun az a0=>ob (gd az false (some (c,a0)) a0) fun a1 a2=>ob (gd az false (pure1 a2 (fldA 1 f)) a2) fun a3 a4=>ob (gd az false (pure1 a4 (ld1 a4 a3)) a4) fun a5 a6=>ob (gd az false (pure1 a6 (idxS 1 a1 a5)) a6) fun a7 a8=>ob (gd az false (pure1 a8 (ld1 a8 a7)) a8) fun a9 ba=>ob (gd az false (some (u,ba)) ba) fun bb bc=>ob (gd az false (pure1 bc (idxS 1 a9 bb)) bc) fun bd be=>ob (gd az false (pure1 be (ld1 be bd)) be) fun bf bg=>ob (gd az false (some (c,bg)) bg) fun bi bl=>ob (gd az false (pure1 bl (fldA 0 f)) bl) fun bm bn=>ob (gd az false (pure1 bn (ld1 bn bm)) bn) fun bo bp=>ob (gd az false (pure1 bp (idxS 1 bi bo)) bp) fun bq br=>ob (gd az false (pure1 br (ld1 br bq)) br) fun bs bt=>ob (gd az false (some (g,bt)) bt) fun bu bv=>ob (gd az false (pure1 bv (idxS 1 bs bu)) bv) fun bw bx=>ob (gd az false (pure1 bx (ld1 bx bw)) bx) fun bz b0=>ob (gd az false (pure1 b0 (fldA 3 f)) b0) fun b1 b2=>ob (gd az false (pure1 b2 (ld1 b2 b1)) b2) fun b3 b4=>ob (gd az false (pure1 b4 (binV .add .scalar bz b3)) b4) fun b5 b6=>ob (gd az false (pure1 b6 (binV .gtr .scalar bf b5)) b6) fun b7 b8=>ob (gd ab true (pure1 b8 (pickV az (.bool true) b7)) b8) fun b9 ca=>oa (pickV ab b9 (.bool false)) fun cb=>cond2 cb
 (
 oa (fldA 1 f) fun cc=>oa (ld1 ca cc) fun cd=>oa (idxS 1 c cd) fun ce=>oa (ld1 ca ce) fun cf=>oa (fldA 0 f) fun cg=>oa (ld1 ca cg) fun ci=>oa (idxS 1 c ci) fun cl=>oa (ld1 ca cl) fun cm=>oa (idxS 1 cm g) fun cn=>oa (ld1 ca cn) fun co=>oa (fldA 3 f) fun cp=>oa (ld1 ca cp) fun cq=>oa (binV .add .scalar co cq) fun cr=>oa (idxS 1 cf u) fun cs=>oh (stN 1 ca cs cr) fun ct=>oa (binV .add .scalar g (.int .i64 1)) fun cu=>i1_ k j0 j1 j2 a b c (.bool true) e f cu ct
 )
 (
 oa (binV .add .scalar g (.int .i64 1)) fun cv=>i1_ k j0 j1 j2 a b c d e f cv ca
 )
 )
 (
 v1_ k j0 j1 a b c d e h
 ):=bkEq
theorem a0i:o1_ k j0 (j1+1) a b c d e h =
 oa (fldA 1 a) fun f=>oa (ld1 h f) fun g=>oa (lenS g) fun i=>oa (binV .lss .scalar e i) fun l=>cond2 l
 (
 oa (fldA 1 a) fun m=>oa (ld1 h m) fun n=>oa (idxS 4 n e) fun o=>oa (ldN 4 h o) fun p=>ob (newVar h [.int .i64 0,.int .i64 0,.int .i64 0,.int .i64 0]) fun q r=>oh (stN 4 r q p) fun s=>i1_ k j0 j1 k a b c d e q (.int .i64 0) s
 )
 (
 i0_ k j0 a b c d h
 ):=bkEq
theorem j8_:i0_ k (j0+1) a b c d h =
 cond2 d
 (
 o1_ k j0 k a b c (.bool false) (.int .i64 0) h
 )
 (
 some (c,h)
 ):=bkEq
theorem a3c:v0_ k a b c d h =
 oa (idxS 1 d a) fun e=>oa (ld1 h e) fun f=>oa (idxS 1 f (.int .i64 0)) fun g=>oh (stN 1 h g (.int .i64 0)) fun i=>i0_ k k b c d (.bool true) i:=bkEq
theorem a0j:h9_ k (j0+1) a b c d e h =
 oa (fldA 0 b) fun f=>oa (ld1 h f) fun g=>oa (binV .lss .scalar e g) fun i=>cond2 i
 (
 o0_ k j0 k a b c d e (.int .i64 0) h
 )
 (
 v0_ k a b c d h
 ):=bkEq
theorem a4n:evalFn tab (k+1) b4_ [a,b,c] h =
 ob (newVar h (AV.cells a)) fun d e=>ob (newVar e (AV.cells b)) fun f g=>oa (fldA 0 d) fun i=>oa (ld1 g i) fun l=>ob (mkSl [.nils] 1 24 l l g) fun m n=>h9_ k k c d f m (.int .i64 0) n:=fnEq
def j9_:=bk tab tbl b2_ 0 [] [a,b,c,d] h k
def f1_:=bk tab tbl b2_ 1 [] [a,b,c,d] h k
def f2_:=bk tab tbl b2_ 2 [] [a,b,c,d] h k
def k0_:=bk tab tbl b2_ 3 [j0] [a,b,c,d] h k
def b8_:=bk tab tbl b2_ 4 [] [a,b,c,d] h k
def k1_:=bk tab tbl b2_ 5 [j0] [a,b,c,d] h k
def q7_:=bk tab tbl b2_ 6 [] [a,b] h k
theorem w5_:k0_ k (j0+1) a b c d h =
 oa (binV .lss .scalar d (.int .i64 2)) fun e=>ob (gd e false (some (d,h)) h) fun f g=>ob (gd e false (pure1 g (fldA 2 a)) g) fun i l=>ob (gd e false (pure1 l (ld1 l i)) l) fun m n=>ob (gd e false (pure1 n (lenS m)) n) fun o p=>ob (gd e false (pure1 p (binV .lss .scalar f o)) p) fun q r=>ob (gd e false (some (q,r)) r) fun s t=>ob (gd s true (some (d,t)) t) fun u v=>ob (gd s true (pure1 v (binV .lss .scalar u (.int .i64 4))) v) fun w x=>ob (gd e false (pure1 x (pickV s w (.bool false))) x) fun y z=>oa (pickV e (.bool true) y) fun aa=>cond2 aa
 (
 oa (fldA 4 c) fun ab=>oa (ld1 z ab) fun ac=>oa (ldN 3 z a) fun ad=>ob (evalFn tab k c3_ [ad,d] z) fun ae af=>chk ((sameB (pure1 af (ld1 af ab)) ac && true)) <|ob (buildSl 5 1 [.int .i64 0,.int .i64 0,.int .i64 0,.int .i64 0,.nils] [(0,5,ae)] af) fun ag ai=>ob (apnd 5 56 ac ag ai) fun al am=>oa (fldA 4 c) fun an=>oh (stN 1 am an al) fun ao=>oa (binV .add .scalar d (.int .i64 1)) fun ap=>k0_ k j0 a b c ap ao
 )
 (
 oa (ldN 5 z c) fun aq=>oh (stN 5 z b aq) fun ar=>oa (ldN 5 ar b) fun au=>some (au,ar)
 ):=bkEq
theorem w6_:k1_ k (j0+1) a b c d h =
 oa (binV .lss .scalar d (.int .i64 2)) fun e=>ob (gd e false (some (d,h)) h) fun f g=>ob (gd e false (pure1 g (fldA 2 a)) g) fun i l=>ob (gd e false (pure1 l (ld1 l i)) l) fun m n=>ob (gd e false (pure1 n (lenS m)) n) fun o p=>ob (gd e false (pure1 p (binV .lss .scalar f o)) p) fun q r=>ob (gd e false (some (q,r)) r) fun s t=>ob (gd s true (some (d,t)) t) fun u v=>ob (gd s true (pure1 v (binV .lss .scalar u (.int .i64 4))) v) fun w x=>ob (gd e false (pure1 x (pickV s w (.bool false))) x) fun y z=>oa (pickV e (.bool true) y) fun aa=>cond2 aa
 (
 oa (fldA 4 c) fun ab=>oa (ld1 z ab) fun ac=>oa (ldN 3 z a) fun ad=>ob (evalFn tab k c3_ [ad,d] z) fun ae af=>chk ((sameB (pure1 af (ld1 af ab)) ac && true)) <|ob (buildSl 5 1 [.int .i64 0,.int .i64 0,.int .i64 0,.int .i64 0,.nils] [(0,5,ae)] af) fun ag ai=>ob (apnd 5 56 ac ag ai) fun al am=>oa (fldA 4 c) fun an=>oh (stN 1 am an al) fun ao=>oa (binV .add .scalar d (.int .i64 1)) fun ap=>k1_ k j0 a b c ap ao
 )
 (
 oa (ldN 5 z c) fun aq=>oh (stN 5 z b aq) fun ar=>oa (ldN 5 ar b) fun au=>some (au,ar)
 ):=bkEq
theorem a2f:q7_ k a b h =
 oa (fldA 1 a) fun c=>oa (ld1 h c) fun d=>ob (evalFn tab k c1_ [d,(.int .i64 4)] h) fun e f=>oa (fldA 1 a) fun g=>oa (ld1 f g) fun i=>oa (binV .quo .scalar i (.int .i64 4)) fun l=>oa (ldN 3 f a) fun m=>ob (evalFn tab k c1_ [l,(.int .i64 3)] f) fun n o=>chk ((sameB (pure1 o (ldN 3 o a)) m && true)) <|oa (binV .add .scalar e n) fun p=>ob (evalFn tab k c3_ [m,(.int .i64 0)] o) fun q r=>ob (buildSl 5 1 [.int .i64 0,.int .i64 0,.int .i64 0,.int .i64 0,.nils] [(0,5,q)] r) fun s t=>oa (buildV [.int .i64 0,.int .i64 0,.int .i64 0,.int .i64 0,.nils] [(0,1,(.int .i64 9)),(2,1,e),(3,1,p),(4,1,s)]) fun u=>oh (stN 5 t b u) fun v=>oa (ldN 5 v b) fun w=>some (w,v):=bkEq
theorem e1_:b8_ k a b c d h =
 cond2 d
 (
 oa (buildV [.int .i64 0,.int .i64 0,.int .i64 0,.int .i64 0,.nils] [(0,1,(.int .i64 5))]) fun e=>ob (newVar h [.int .i64 0,.int .i64 0,.int .i64 0,.int .i64 0,.nils]) fun f g=>oh (stN 5 g f e) fun i=>k1_ k k a b f (.int .i64 0) i
 )
 (
 oa (binV .eql .scalar c (.int .i64 10)) fun l=>cond2 l
 (
 oa (ldN 3 h a) fun m=>ob (evalFn tab k c3_ [m,(.int .i64 0)] h) fun n o=>ob (buildSl 5 1 [.int .i64 0,.int .i64 0,.int .i64 0,.int .i64 0,.nils] [(0,5,n)] o) fun p q=>oa (buildV [.int .i64 0,.int .i64 0,.int .i64 0,.int .i64 0,.nils] [(0,1,(.int .i64 6)),(4,1,p)]) fun r=>oh (stN 5 q b r) fun s=>oa (ldN 5 s b) fun t=>some (t,s)
 )
 (
 oa (binV .eql .scalar c (.int .i64 11)) fun u=>cond2 u
 (
 oa (ldN 3 h a) fun v=>ob (evalFn tab k c3_ [v,(.int .i64 0)] h) fun w x=>ob (buildSl 5 1 [.int .i64 0,.int .i64 0,.int .i64 0,.int .i64 0,.nils] [(0,5,w)] x) fun y z=>oa (buildV [.int .i64 0,.int .i64 0,.int .i64 0,.int .i64 0,.nils] [(0,1,(.int .i64 7)),(4,1,y)]) fun aa=>oh (stN 5 z b aa) fun ab=>oa (ldN 5 ab b) fun ac=>some (ac,ab)
 )
 (
 oa (binV .eql .scalar c (.int .i64 12)) fun ad=>cond2 ad
 (
 oa (ldN 3 h a) fun ae=>ob (evalFn tab k c3_ [ae,(.int .i64 0)] h) fun af ag=>ob (buildSl 5 1 [.int .i64 0,.int .i64 0,.int .i64 0,.int .i64 0,.nils] [(0,5,af)] ag) fun ai al=>oa (buildV [.int .i64 0,.int .i64 0,.int .i64 0,.int .i64 0,.nils] [(0,1,(.int .i64 8)),(4,1,ai)]) fun am=>oh (stN 5 al b am) fun an=>oa (ldN 5 an b) fun ao=>some (ao,an)
 )
 (
 q7_ k a b h
 )
 )
 )
 ):=bkEq
theorem c0_:f2_ k a b c d h =
 cond2 d
 (
 oa (buildV [.int .i64 0,.int .i64 0,.int .i64 0,.int .i64 0,.nils] [(0,1,(.int .i64 4))]) fun e=>ob (newVar h [.int .i64 0,.int .i64 0,.int .i64 0,.int .i64 0,.nils]) fun f g=>oh (stN 5 g f e) fun i=>k0_ k k a b f (.int .i64 0) i
 )
 (
 oa (binV .eql .scalar c (.int .i64 8)) fun l=>cond2 l
 (
 b8_ k a b c l h
 )
 (
 oa (binV .eql .scalar c (.int .i64 9)) fun m=>b8_ k a b c m h
 )
 ):=bkEq
theorem a5_:f1_ k a b c d h =
 cond2 d
 (
 oa (fldA 1 a) fun e=>oa (ld1 h e) fun f=>ob (evalFn tab k c1_ [f,(.int .i64 5)] h) fun g i=>oa (convV .u64 g) fun l=>oa (binV .shl .scalar (.int .i64 1) l) fun m=>oa (buildV [.int .i64 0,.int .i64 0,.int .i64 0,.int .i64 0,.nils] [(0,1,(.int .i64 1)),(1,1,m)]) fun n=>oh (stN 5 i b n) fun o=>oa (ldN 5 o b) fun p=>some (p,o)
 )
 (
 oa (binV .eql .scalar c (.int .i64 4)) fun q=>cond2 q
 (
 ob (buildSl 1 3 [.int .i64 0,.int .i64 0,.int .i64 0] [(0,1,(.int .i64 2)),(1,1,(.int .i64 3)),(2,1,(.int .i64 3))] h) fun r s=>oa (fldA 1 a) fun t=>oa (ld1 s t) fun u=>ob (evalFn tab k c1_ [u,(.int .i64 3)] s) fun v w=>oa (idxS 1 r v) fun x=>oa (ld1 w x) fun y=>oa (buildV [.int .i64 0,.int .i64 0,.int .i64 0,.int .i64 0,.nils] [(0,1,y)]) fun z=>oh (stN 5 w b z) fun aa=>oa (ldN 5 aa b) fun ab=>some (ab,aa)
 )
 (
 oa (binV .eql .scalar c (.int .i64 5)) fun ac=>cond2 ac
 (
 f2_ k a b c ac h
 )
 (
 oa (binV .eql .scalar c (.int .i64 6)) fun ad=>cond2 ad
 (
 f2_ k a b c ad h
 )
 (
 oa (binV .eql .scalar c (.int .i64 7)) fun ae=>f2_ k a b c ae h
 )
 )
 )
 ):=bkEq
theorem a2_:j9_ k a b c d h =
 cond2 d
 (
 oa (fldA 1 a) fun e=>oa (ld1 h e) fun f=>ob (evalFn tab k c1_ [f,(.int .i64 31)] h) fun g i=>oa (binV .add .scalar (.int .i64 1) g) fun l=>oa (buildV [.int .i64 0,.int .i64 0,.int .i64 0,.int .i64 0,.nils] [(0,1,(.int .i64 1)),(1,1,l)]) fun m=>oh (stN 5 i b m) fun n=>oa (ldN 5 n b) fun o=>some (o,n)
 )
 (
 oa (binV .eql .scalar c (.int .i64 2)) fun p=>cond2 p
 (
 f1_ k a b c p h
 )
 (
 oa (binV .eql .scalar c (.int .i64 3)) fun q=>f1_ k a b c q h
 )
 ):=bkEq
theorem a3d:evalFn tab (k+1) b2_ [a] h =
 ob (newVar h (AV.cells a)) fun b c=>ob (newVar c [.int .i64 0,.int .i64 0,.int .i64 0,.int .i64 0,.nils]) fun d e=>oa (fldA 0 b) fun f=>oa (ld1 e f) fun g=>ob (evalFn tab k c1_ [g,(.int .i64 14)] e) fun i l=>oa (binV .eql .scalar i (.int .i64 0)) fun m=>cond2 m
 (
 j9_ k b d i m l
 )
 (
 oa (binV .eql .scalar i (.int .i64 1)) fun n=>j9_ k b d i n l
 ):=fnEq
def v2_:=bk tab tbl o6_ 0 [] [a,b,c] h k
theorem a3e:v2_ k a b c h =
 oa (nilCk b) fun d=>oa (fldA 3 d) fun e=>oa (ld1 h e) fun f=>oa (binV .neq .scalar f (.int .i64 0)) fun g=>cond2 g
 (
 oa (buildV [.int .i64 0,.int .i64 0,.int .i64 0,.int .i64 0,.nils] []) fun i=>oa (nilCk b) fun l=>oa (fldA 1 l) fun m=>oa (ld1 h m) fun n=>oa (nilCk b) fun o=>oa (fldA 3 o) fun p=>oa (ld1 h p) fun q=>oh (stN 5 h a i) fun r=>chk ((sameB (pure1 r (ld1 r m)) n && (sameB (pure1 r (ld1 r p)) q && true))) <|oa (ldN 5 r a) fun s=>some (.tup [s,n,q],r)
 )
 (
 oa (ldN 5 h c) fun t=>oh (stN 5 h a t) fun u=>oa (ldN 5 u a) fun v=>some (.tup [v,(.int .i64 0),(.int .i64 0)],u)
 ):=bkEq
theorem a4o:evalFn tab (k+1) o6_ [a] h =
 ob (newVar h [.int .i64 0,.int .i64 0,.int .i64 0,.int .i64 0,.nils]) fun b c=>oa (lenB a) fun d=>oa (binV .gtr .scalar d (.int .i64 200)) fun e=>cond2 e
 (
 oa (buildV [.int .i64 0,.int .i64 0,.int .i64 0,.int .i64 0,.nils] []) fun f=>oh (stN 5 c b f) fun g=>oa (ldN 5 g b) fun i=>some (.tup [i,(.int .i64 0),(.int .i64 4)],g)
 )
 (
 oa (buildV [.str ⟨#[]⟩,.int .i64 0,.int .i64 0,.int .i64 0] [(0,1,a)]) fun l=>ob (newVar c (AV.cells l)) fun m n=>ob (evalFn tab k d0_ [m] n) fun o p=>ob (newVar p [.int .i64 0,.int .i64 0,.int .i64 0,.int .i64 0,.nils]) fun q r=>oh (stN 5 r q o) fun s=>oa (nilCk m) fun t=>oa (fldA 3 t) fun u=>oa (ld1 s u) fun v=>oa (binV .eql .scalar v (.int .i64 0)) fun w=>ob (gd w true (some (m,s)) s) fun x y=>ob (gd w true (pure1 y (nilCk x)) y) fun z aa=>ob (gd w true (pure1 aa (fldA 1 z)) aa) fun ab ac=>ob (gd w true (pure1 ac (ld1 ac ab)) ac) fun ad ae=>ob (gd w true (some (a,ae)) ae) fun af ag=>ob (gd w true (pure1 ag (lenB af)) ag) fun ai al=>ob (gd w true (pure1 al (binV .lss .scalar ad ai)) al) fun am an=>oa (pickV w am (.bool false)) fun ao=>cond2 ao
 (
 ob (evalFn tab k b1_ [m,(.int .i64 3)] an) fun ap aq=>v2_ k b m q aq
 )
 (
 v2_ k b m q an
 )
 ):=fnEq
theorem a4p:evalFn tab (k+1) w2_ [a] h =
 ob (newVar h (AV.cells a)) fun b c=>ob (newVar c [.int .i64 0,.int .i64 0,.int .i64 0,.nils,.nils]) fun d e=>oa (buildV [.int .i64 0,.int .i64 0,.int .i64 0,.nils,.nils,.bool false] []) fun f=>ob (newVar e (AV.cells f)) fun g i=>oa (ldN 5 i b) fun l=>ob (evalFn tab k a8_ [g,l] i) fun m n=>oa (extr 0 m) fun o=>oa (extr 1 m) fun p=>oa (nilCk g) fun q=>oa (fldA 5 q) fun r=>oa (ld1 n r) fun s=>cond2 s
 (
 oa (buildV [.int .i64 0,.int .i64 0,.int .i64 0,.nils,.nils] []) fun t=>oh (stN 5 n d t) fun u=>oa (ldN 5 u d) fun v=>some (.tup [v,(.int .i64 4)],u)
 )
 (
 oa (nilCk g) fun w=>oa (fldA 0 w) fun x=>oa (fldA 1 x) fun y=>oh (stN 1 n y o) fun z=>oa (nilCk g) fun aa=>oa (fldA 0 aa) fun ab=>oa (fldA 2 ab) fun ac=>oh (stN 1 z ac p) fun ad=>oa (nilCk g) fun ae=>oa (fldA 0 ae) fun af=>oa (ldN 5 ad af) fun ag=>oh (stN 5 ad d ag) fun ai=>oa (ldN 5 ai d) fun al=>some (.tup [al,(.int .i64 0)],ai)
 ):=fnEq
def l1_:=bk tab tbl b7_ 0 [j0] [a,b,c,d,e,f] h k
def l2_:=bk tab tbl b7_ 1 [j0,j1] [a,b,c,d,e,f,g,i] h k
def l3_:=bk tab tbl b7_ 2 [j0,j1] [a,b,c,d,e,f,g,i,l] h k
def r7_:=bk tab tbl b7_ 3 [j0] [a,b,c,d,e,f,g] h k
def a0D:=bk tab tbl b7_ 4 [j0] [a,b,c,d,e,f] h k
def r8_:=bk tab tbl b7_ 5 [] [a,b] h k
theorem a2z:l3_ k j0 j1 a b c d e f g i l h =
 oa (idxA 5 1 g i) fun m=>oh (stN 1 h m l) fun n=>oa (binV .add .scalar i (.int .i64 1)) fun o=>l2_ k j0 j1 a b c d e f g o n:=bkEq
theorem a2A:a0D k j0 a b c d e f h =
 oa (binV .add .scalar f (.int .i64 1)) fun g=>l1_ k j0 a b c d e g h:=bkEq
theorem a2B:r7_ k j0 a b c d e f g h =
 oa (fldA 0 e) fun i=>oa (ld1 h i) fun l=>oa (ldN 5 h g) fun m=>ob (buildSl 5 1 [.int .i64 0,.int .i64 0,.int .i64 0,.int .i64 0,.int .i64 0] [(0,5,m)] h) fun n o=>ob (apnd 5 40 l n o) fun p q=>oa (fldA 0 e) fun r=>oh (stN 1 q r p) fun s=>oa (fldA 1 e) fun t=>oa (ld1 s t) fun u=>oa (idxS 1 d f) fun v=>oa (ld1 s v) fun w=>oa (fldA 2 b) fun x=>oa (ld1 s x) fun y=>oa (idxS 1 w y) fun z=>oa (ld1 s z) fun aa=>ob (buildSl 1 1 [.bool false] [(0,1,aa)] s) fun ab ac=>ob (apnd 1 1 u ab ac) fun ad ae=>oa (fldA 1 e) fun af=>oh (stN 1 ae af ad) fun ag=>a0D k j0 a b c d e f ag:=bkEq
theorem x1_:l2_ k j0 (j1+1) a b c d e f g i h =
 oa (binV .lss .scalar i (.int .i64 5)) fun l=>cond2 l
 (
 oa (ldN 5 h b) fun m=>oa (idxS 1 d f) fun n=>oa (ld1 h n) fun o=>ob (evalFn tab k l0_ [m,o,i] h) fun p q=>ob (evalFn tab k q4_ [d,p] q) fun r s=>oa (binV .lss .scalar r (.int .i64 0)) fun t=>cond2 t
 (
 oa (lenS d) fun u=>oa (binV .geq .scalar u a) fun v=>cond2 v
 (
 oa (buildV [.nils,.nils] []) fun w=>oh (stN 2 s c w) fun x=>oa (ldN 2 x c) fun y=>some (.tup [y,(.int .i64 5)],x)
 )
 (
 ob (buildSl 1 1 [.nils] [(0,1,p)] s) fun z aa=>ob (apnd 1 24 d z aa) fun ab ac=>l3_ k j0 j1 a b c ab e f g i u ac
 )
 )
 (
 l3_ k j0 j1 a b c d e f g i r s
 )
 )
 (
 r7_ k j0 a b c d e f g h
 ):=bkEq
theorem a2C:r8_ k a b h =
 oa (ldN 2 h b) fun c=>oh (stN 2 h a c) fun d=>oa (ldN 2 d a) fun e=>some (.tup [e,(.int .i64 0)],d):=bkEq
theorem a2D:l1_ k (j0+1) a b c d e f h =
 oa (lenS d) fun g=>oa (binV .lss .scalar f g) fun i=>cond2 i
 (
 ob (newVar h [.int .i64 0,.int .i64 0,.int .i64 0,.int .i64 0,.int .i64 0]) fun l m=>l2_ k j0 k a b c d e f l (.int .i64 0) m
 )
 (
 r8_ k c e h
 ):=bkEq
theorem a3z:evalFn tab (k+1) b7_ [a,b] h =
 ob (newVar h (AV.cells a)) fun c d=>ob (newVar d [.nils,.nils]) fun e f=>oa (ldN 5 f c) fun g=>ob (evalFn tab k w3_ [g] f) fun i l=>ob (buildSl 1 1 [.nils] [(0,1,i)] l) fun m n=>ob (newVar n [.nils,.nils]) fun o p=>l1_ k k b c e m o (.int .i64 0) p:=fnEq
def k2_:=bk tab tbl c2_ 0 [j0] [a,b,c,d,e,f,g] h k
def k3_:=bk tab tbl c2_ 1 [j0,j1] [a,b,c,d,e,f,g,i,l] h k
def k4_:=bk tab tbl c2_ 2 [j0,j1] [a,b,c,d,e,f,g,i,l,m] h k
def q8_:=bk tab tbl c2_ 3 [j0] [a,b,c,d,e,f,g,i] h k
def a0k:=bk tab tbl c2_ 4 [j0] [a,b,c,d,e,f,g] h k
theorem a2g:k4_ k j0 j1 a b c d e f g i l m h =
 oa (idxS 1 c m) fun n=>oa (ld1 h n) fun o=>oa (idxS 1 e o) fun p=>oa (ld1 h p) fun q=>oa (binV .sub .scalar q (.int .i64 1)) fun r=>oa (idxA 5 1 i l) fun s=>oh (stN 1 h s r) fun t=>oa (binV .add .scalar l (.int .i64 1)) fun u=>k3_ k j0 j1 a b c d e f g i u t:=bkEq
theorem a2h:a0k k j0 a b c d e f g h =
 oa (binV .add .scalar g (.int .i64 1)) fun i=>k2_ k j0 a b c d e f i h:=bkEq
theorem a2i:q8_ k j0 a b c d e f g i h =
 oa (fldA 0 d) fun l=>oa (ld1 h l) fun m=>oa (ldN 5 h i) fun n=>ob (buildSl 5 1 [.int .i64 0,.int .i64 0,.int .i64 0,.int .i64 0,.int .i64 0] [(0,5,n)] h) fun o p=>ob (apnd 5 40 m o p) fun q r=>oa (fldA 0 d) fun s=>oh (stN 1 r s q) fun t=>oa (fldA 1 d) fun u=>oa (ld1 t u) fun v=>oa (fldA 1 a) fun w=>oa (ld1 t w) fun x=>oa (idxS 1 f g) fun y=>oa (ld1 t y) fun z=>oa (idxS 1 x z) fun aa=>oa (ld1 t aa) fun ab=>ob (buildSl 1 1 [.bool false] [(0,1,ab)] t) fun ac ad=>ob (apnd 1 1 v ac ad) fun ae af=>oa (fldA 1 d) fun ag=>oh (stN 1 af ag ae) fun ai=>a0k k j0 a b c d e f g ai:=bkEq
theorem w7_:k3_ k j0 (j1+1) a b c d e f g i l h =
 oa (binV .lss .scalar l (.int .i64 5)) fun m=>cond2 m
 (
 oa (fldA 0 a) fun n=>oa (ld1 h n) fun o=>oa (idxS 1 f g) fun p=>oa (ld1 h p) fun q=>oa (idxS 5 o q) fun r=>oa (idxA 5 1 r l) fun s=>oa (ld1 h s) fun t=>oa (idxS 1 c t) fun u=>oa (ld1 h u) fun v=>oa (idxS 1 e v) fun w=>oa (ld1 h w) fun x=>oa (binV .eql .scalar x (.int .i64 0)) fun y=>cond2 y
 (
 ob (buildSl 1 1 [.int .i64 0] [(0,1,t)] h) fun z aa=>ob (apnd 1 8 f z aa) fun ab ac=>oa (idxS 1 c t) fun ad=>oa (ld1 ac ad) fun ae=>oa (lenS ab) fun af=>oa (idxS 1 e ae) fun ag=>oh (stN 1 ac ag af) fun ai=>k4_ k j0 j1 a b c d e ab g i l t ai
 )
 (
 k4_ k j0 j1 a b c d e f g i l t h
 )
 )
 (
 q8_ k j0 a b c d e f g i h
 ):=bkEq
theorem w8_:k2_ k (j0+1) a b c d e f g h =
 oa (lenS f) fun i=>oa (binV .lss .scalar g i) fun l=>cond2 l
 (
 ob (newVar h [.int .i64 0,.int .i64 0,.int .i64 0,.int .i64 0,.int .i64 0]) fun m n=>k3_ k j0 k a b c d e f g m (.int .i64 0) n
 )
 (
 oa (ldN 2 h d) fun o=>oh (stN 2 h b o) fun p=>oa (ldN 2 p b) fun q=>some (q,p)
 ):=bkEq
theorem a3f:evalFn tab (k+1) c2_ [a] h =
 ob (newVar h (AV.cells a)) fun b c=>ob (newVar c [.nils,.nils]) fun d e=>oa (ldN 2 e b) fun f=>ob (evalFn tab k e9_ [f] e) fun g i=>ob (newVar i [.nils,.nils]) fun l m=>oa (fldA 0 b) fun n=>oa (ld1 m n) fun o=>oa (lenS o) fun p=>ob (mkSl [.int .i64 0] 1 8 p p m) fun q r=>ob (buildSl 1 1 [.int .i64 0] [(0,1,(.int .i64 0))] r) fun s t=>oa (idxS 1 g (.int .i64 0)) fun u=>oa (ld1 t u) fun v=>oa (idxS 1 q v) fun w=>oh (stN 1 t w (.int .i64 1)) fun x=>k2_ k k b d g l q s (.int .i64 0) x:=fnEq
def l4_:=bk tab tbl m7_ 0 [j0] [a,b,c] h k
def x7_:=bk tab tbl m7_ 1 [] [a,b] h k
theorem a3N:x7_ k a b h =
 oa (binV .eql .scalar a (.int .i64 31)) fun c=>cond2 c
 (
 some ((.str ⟨#[46]⟩),h)
 )
 (
 oa (lenB b) fun d=>oa (binV .eql .scalar d (.int .i64 1)) fun e=>cond2 e
 (
 some (b,h)
 )
 (
 oa (binV .add .scalar (.str ⟨#[91]⟩) b) fun f=>oa (binV .add .scalar f (.str ⟨#[93]⟩)) fun g=>some (g,h)
 )
 ):=bkEq
theorem a0S:l4_ k (j0+1) a b c h =
 oa (binV .lss .scalar c (.int .i64 5)) fun d=>cond2 d
 (
 oa (convV .u64 c) fun e=>oa (binV .shr .scalar a e) fun f=>oa (binV .and .scalar f (.int .i64 1)) fun g=>oa (binV .eql .scalar g (.int .i64 1)) fun i=>cond2 i
 (
 oa (binV .add .scalar c (.int .i64 1)) fun l=>oa (slStr (.str ⟨#[119,98,99,102,116]⟩) (some c) (some l)) fun m=>oa (binV .add .scalar b m) fun n=>oa (binV .add .scalar c (.int .i64 1)) fun o=>l4_ k j0 a n o h
 )
 (
 oa (binV .add .scalar c (.int .i64 1)) fun p=>l4_ k j0 a b p h
 )
 )
 (
 x7_ k a b h
 ):=bkEq
theorem a5a:evalFn tab (k+1) m7_ [a] h =
 l4_ k k a (.str ⟨#[]⟩) (.int .i64 0) h:=fnEq
theorem a2M:evalFn tab (k+1) q1_ [a,b] h =
 ob (newVar h (AV.cells b)) fun c d=>oa (ldN 5 d c) fun e=>ob (evalFn tab k e3_ [e] d) fun f g=>oa (fldA 0 c) fun i=>oa (ld1 g i) fun l=>oa (binV .eql .scalar l (.int .i64 5)) fun m=>ob (gd m false (pure1 g (fldA 0 c)) g) fun n o=>ob (gd m false (pure1 o (ld1 o n)) o) fun p q=>ob (gd m false (pure1 q (binV .eql .scalar p (.int .i64 4))) q) fun r s=>ob (gd m false (some (r,s)) s) fun t u=>ob (gd t true (some (a,u)) u) fun v w=>ob (gd t true (pure1 w (binV .neq .scalar v (.int .i64 5))) w) fun x y=>ob (gd m false (pure1 y (pickV t x (.bool false))) y) fun z aa=>oa (pickV m (.bool true) z) fun ab=>cond2 ab
 (
 oa (binV .add .scalar (.str ⟨#[40]⟩) f) fun ac=>oa (binV .add .scalar ac (.str ⟨#[41]⟩)) fun ad=>some (ad,aa)
 )
 (
 some (f,aa)
 ):=fnEq
end
end Go.Gm.AQ
namespace Go.Gm.AQ
open Go Go.Gm
noncomputable section
variable (k j0 j1 j2 j3:Nat) (a b c d e f g i l m n:AV) (h:Heap)
def m2_:=bk tab tbl h5_ 0 [j0] [a,b,c] h k
def t2_:=bk tab tbl h5_ 1 [] [a] h k
theorem a2N:t2_ k a h =
 ob (evalFn tab k q3_ [a] h) fun b c=>ob (evalFn tab k t9_ [a] c) fun d e=>some (d,e):=bkEq
theorem a2O:m2_ k (j0+1) a b c h =
 oa (nilCk a) fun d=>oa (fldA 5 d) fun e=>oa (ld1 h e) fun f=>oa (idxS 1 f b) fun g=>oa (ld1 h g) fun i=>oa (binV .geq .scalar i (.int .i64 0)) fun l=>cond2 l
 (
 oa (nilCk a) fun m=>oa (fldA 4 m) fun n=>oa (ld1 h n) fun o=>oa (idxS 1 o b) fun p=>oa (ld1 h p) fun q=>ob (buildSl 1 1 [.int .i64 0] [(0,1,q)] h) fun r s=>ob (apnd 1 8 c r s) fun t u=>oa (nilCk a) fun v=>oa (fldA 5 v) fun w=>oa (ld1 u w) fun x=>oa (idxS 1 x b) fun y=>oa (ld1 u y) fun z=>m2_ k j0 a z t u
 )
 (
 t2_ k c h
 ):=bkEq
theorem a3O:evalFn tab (k+1) h5_ [a,b] h =
 m2_ k k a b .nils h:=fnEq
def j4_:=bk tab tbl e5_ 0 [j0] [a,b,c,d,e,f] h k
def p3_:=bk tab tbl e5_ 1 [j0,j1] [a,b,c,d,e,f,g,i,l,m,n] h k
theorem a0E:p3_ k j0 (j1+1) a b c d e f g i l m n h =
 oa (binV .lss .scalar n m) fun o=>cond2 o
 (
 oa (idxS 1 l n) fun p=>oa (ld1 h p) fun q=>oa (fldA 0 e) fun r=>oa (ld1 h r) fun s=>oa (buildV [.int .i64 0,.int .i64 0] [(0,1,s),(1,1,q)]) fun t=>oa (buildV [.int .i64 0,.int .i64 0,.int .i64 0] [(0,2,t),(2,1,d)]) fun u=>ob (buildSl 3 1 [.int .i64 0,.int .i64 0,.int .i64 0] [(0,3,u)] h) fun v w=>ob (apnd 3 24 c v w) fun x y=>oa (binV .add .scalar n (.int .i64 1)) fun z=>p3_ k j0 j1 a b x d e f g i l m z y
 )
 (
 oa (binV .add .scalar i (.int .i64 1)) fun aa=>j4_ k j0 a b c f g aa h
 ):=bkEq
theorem a0F:j4_ k (j0+1) a b c d e f h =
 oa (binV .lss .scalar f e) fun g=>cond2 g
 (
 oa (idxS 1 d f) fun i=>oa (ld1 h i) fun l=>oa (nilCk a) fun m=>oa (fldA 0 m) fun n=>oa (fldA 1 n) fun o=>oa (ld1 h o) fun p=>oa (idxS 4 p l) fun q=>oa (ldN 4 h q) fun r=>ob (newVar h [.int .i64 0,.int .i64 0,.int .i64 0,.int .i64 0]) fun s t=>oh (stN 4 t s r) fun u=>oa (nilCk a) fun v=>oa (fldA 5 v) fun w=>oa (ld1 u w) fun x=>oa (fldA 1 b) fun y=>oa (ld1 u y) fun z=>oa (fldA 2 s) fun aa=>oa (ld1 u aa) fun ab=>oa (idxS 5 x z) fun ac=>oa (idxA 5 1 ac ab) fun ad=>oa (ld1 u ad) fun ae=>oa (lenS ae) fun af=>p3_ k j0 k a b c l s d e f ae af (.int .i64 0) u
 )
 (
 some (c,h)
 ):=bkEq
theorem a4D:evalFn tab (k+1) e5_ [a,b] h =
 ob (newVar h (AV.cells b)) fun c d=>oa (nilCk a) fun e=>oa (fldA 2 e) fun f=>oa (ld1 d f) fun g=>oa (fldA 0 c) fun i=>oa (ld1 d i) fun l=>ob (evalFn tab k a3s [g,l] d) fun m n=>oa (lenS m) fun o=>j4_ k k a c .nils m o (.int .i64 0) n:=fnEq
theorem a6k:evalFn tab (k+1) r5_ [a,b,c,d] h =
 oa (ld1 h b) fun e=>oa (ld1 h c) fun f=>ob (evalFn tab k n7_ [e,a] h) fun g i=>chk ((sameB (pure1 i (ld1 i c)) f && true)) <|ob (evalFn tab k n7_ [f,a] i) fun l m=>oa (binV .geq .scalar g (.int .i64 0)) fun n=>ob (gd n true (some (l,m)) m) fun o p=>ob (gd n true (pure1 p (binV .geq .scalar o (.int .i64 0))) p) fun q r=>oa (pickV n q (.bool false)) fun s=>ob (gd s true (pure1 r (ld1 r d)) r) fun t u=>ob (gd s true (pure1 u (binV .lss .scalar t (.int .i64 0))) u) fun v w=>ob (gd s true (some (v,w)) w) fun x y=>ob (gd x false (some (g,y)) y) fun z aa=>ob (gd x false (some (l,aa)) aa) fun ab ac=>ob (gd x false (pure1 ac (binV .add .scalar z ab)) ac) fun ad ae=>ob (gd x false (pure1 ae (ld1 ae d)) ae) fun af ag=>ob (gd x false (pure1 ag (binV .lss .scalar ad af)) ag) fun ai al=>ob (gd s true (pure1 al (pickV x (.bool true) ai)) al) fun am an=>oa (pickV s am (.bool false)) fun ao=>cond2 ao
 (
 oa (binV .add .scalar g l) fun ap=>oh (stN 1 an d ap) fun aq=>some (.tup [],aq)
 )
 (
 some (.tup [],an)
 ):=fnEq
theorem a3P:evalFn tab (k+1) n7_ [a,b] h =
 oa (nilCk a) fun c=>oa (fldA 3 c) fun d=>oa (ld1 h d) fun e=>oa (idxS 1 e b) fun f=>oa (ld1 h f) fun g=>oa (binV .geq .scalar g (.int .i64 0)) fun i=>cond2 i
 (
 oa (nilCk a) fun l=>oa (fldA 3 l) fun m=>oa (ld1 h m) fun n=>oa (idxS 1 n b) fun o=>oa (ld1 h o) fun p=>some (p,h)
 )
 (
 oa (nilCk a) fun q=>oa (fldA 2 q) fun r=>oa (ld1 h r) fun s=>ob (evalFn tab k v8_ [s,b] h) fun t u=>oa (extr 0 t) fun v=>oa (extr 1 t) fun w=>cond2 w
 (
 some (v,u)
 )
 (
 some ((.int .i64 (-1)),u)
 )
 ):=fnEq
def i2_:=bk tab tbl d9_ 0 [j0] [a,b,c,d,e,f] h k
def a1b:=bk tab tbl d9_ 1 [] [a] h k
theorem a3g:a1b k a h =
 some (.tup [a,(.bool true)],h):=bkEq
theorem a0l:i2_ k (j0+1) a b c d e f h =
 oa (binV .lss .scalar f e) fun g=>cond2 g
 (
 oa (idxS 3 d f) fun i=>oa (ldN 3 h i) fun l=>ob (newVar h [.int .i64 0,.int .i64 0,.int .i64 0]) fun m n=>oh (stN 3 n m l) fun o=>oa (nilCk a) fun p=>oa (fldA 0 p) fun q=>oa (ld1 o q) fun r=>oa (fldA 0 m) fun s=>oa (ldN 2 o s) fun t=>ob (evalFn tab k j1_ [r,t] o) fun u v=>oa (nilCk a) fun w=>oa (fldA 3 w) fun x=>oa (ld1 v x) fun y=>oa (idxS 1 y u) fun z=>oa (ld1 v z) fun aa=>oa (binV .lss .scalar aa (.int .i64 0)) fun ab=>ob (gd ab true (some (a,v)) v) fun ac ad=>ob (gd ab true (pure1 ad (nilCk ac)) ad) fun ae af=>ob (gd ab true (pure1 af (fldA 2 ae)) af) fun ag ai=>ob (gd ab true (pure1 ai (ld1 ai ag)) ai) fun al am=>ob (gd ab true (some (u,am)) am) fun an ao=>ob (gd ab true (some (c,ao)) ao) fun ap aq=>ob (gd ab true (some (a,aq)) aq) fun ar au=>ob (gd ab true (pure1 au (nilCk ar)) au) fun av aw=>ob (gd ab true (pure1 aw (fldA 0 av)) aw) fun ax ay=>ob (gd ab true (pure1 ay (ld1 ay ax)) ay) fun az a0=>ob (gd ab true (pure1 a0 (nilCk az)) a0) fun a1 a2=>ob (gd ab true (pure1 a2 (fldA 0 a1)) a2) fun a3 a4=>ob (gd ab true (pure1 a4 (fldA 1 a3)) a4) fun a5 a6=>ob (gd ab true (pure1 a6 (ld1 a6 a5)) a6) fun a7 a8=>ob (gd ab true (pure1 a8 (fldA 2 m)) a8) fun a9 ba=>ob (gd ab true (pure1 ba (ld1 ba a9)) ba) fun bb bc=>ob (gd ab true (pure1 bc (idxS 4 a7 bb)) bc) fun bd be=>ob (gd ab true (pure1 be (fldA 3 bd)) be) fun bf bg=>ob (gd ab true (pure1 bg (ld1 bg bf)) bg) fun bi bl=>ob (gd ab true (pure1 bl (binV .add .scalar ap bi)) bl) fun bm bn=>ob (gd ab true (evalFn tab k p8_ [al,an,bm] bn) bn) fun bo bp=>oa (pickV ab bo (.bool false)) fun bq=>cond2 bq
 (
 oa (nilCk a) fun br=>oa (fldA 4 br) fun bs=>oa (ld1 bp bs) fun bt=>oa (nilCk a) fun bu=>oa (fldA 5 bu) fun bv=>oa (ld1 bp bv) fun bw=>oa (fldA 2 m) fun bx=>oa (ld1 bp bx) fun bz=>oa (idxS 1 bt u) fun b0=>oh (stN 1 bp b0 bz) fun b1=>oa (idxS 1 bw u) fun b2=>oh (stN 1 b1 b2 b) fun b3=>oa (binV .add .scalar f (.int .i64 1)) fun b4=>i2_ k j0 a b c d e b4 b3
 )
 (
 oa (binV .add .scalar f (.int .i64 1)) fun b5=>i2_ k j0 a b c d e b5 bp
 )
 )
 (
 a1b k b h
 ):=bkEq
theorem a4q:evalFn tab (k+1) d9_ [a] h =
 oa (nilCk a) fun b=>oa (fldA 2 b) fun c=>oa (ld1 h c) fun d=>ob (evalFn tab k v9_ [d] h) fun e f=>oa (extr 0 e) fun g=>oa (extr 1 e) fun i=>oa (extr 2 e) fun l=>oa (unV .not l) fun m=>cond2 m
 (
 some (.tup [(.int .i64 0),(.bool false)],f)
 )
 (
 oa (nilCk a) fun n=>oa (fldA 3 n) fun o=>oa (ld1 f o) fun p=>oa (idxS 1 p g) fun q=>oh (stN 1 f q i) fun r=>oa (nilCk a) fun s=>oa (fldA 6 s) fun t=>oh (stN 1 r t i) fun u=>oa (nilCk a) fun v=>oa (fldA 1 v) fun w=>oa (ld1 u w) fun x=>oa (nilCk a) fun y=>oa (fldA 0 y) fun z=>oa (ld1 u z) fun aa=>oa (nilCk a) fun ab=>oa (fldA 0 ab) fun ac=>oa (ld1 u ac) fun ad=>ob (evalFn tab k q2_ [ad,g] u) fun ae af=>chk ((sameB (pure1 af (ld1 af w)) x && (sameB (pure1 af (ld1 af z)) aa && true))) <|ob (callVal (evalFn tab k) x [aa,ae] af) fun ag ai=>oa (lenS ag) fun al=>i2_ k k a g i ag al (.int .i64 0) ai
 ):=fnEq
theorem a4E:evalFn tab (k+1) q2_ [a,b] h =
 ob (newVar h [.int .i64 0,.int .i64 0]) fun c d=>oa (nilCk a) fun e=>oa (fldA 3 e) fun f=>oa (fldA 0 f) fun g=>oa (ld1 d g) fun i=>oa (lenS i) fun l=>oa (binV .quo .scalar b l) fun m=>oa (nilCk a) fun n=>oa (fldA 3 n) fun o=>oa (fldA 0 o) fun p=>oa (ld1 d p) fun q=>oa (lenS q) fun r=>oa (binV .rem .scalar b r) fun s=>oa (buildV [.int .i64 0,.int .i64 0] [(0,1,m),(1,1,s)]) fun t=>oh (stN 2 d c t) fun u=>oa (ldN 2 u c) fun v=>some (v,u):=fnEq
theorem a5p:evalFn tab (k+1) j1_ [a,b] h =
 ob (newVar h (AV.cells b)) fun c d=>oa (fldA 0 c) fun e=>oa (ld1 d e) fun f=>oa (nilCk a) fun g=>oa (fldA 3 g) fun i=>oa (fldA 0 i) fun l=>oa (ld1 d l) fun m=>oa (lenS m) fun n=>oa (binV .mul .scalar f n) fun o=>oa (fldA 1 c) fun p=>oa (ld1 d p) fun q=>oa (binV .add .scalar o q) fun r=>some (r,d):=fnEq
def j5_:=bk tab tbl k9_ 0 [j0] [a,b,c,d,e,f,g] h k
def a1y:=bk tab tbl k9_ 1 [] [a,b,c,d] h k
theorem a3A:a1y k a b c d h =
 oa (binV .neq .scalar a b) fun e=>cond2 e
 (
 some (.tup [(.int .i64 0),.nils,(.bool false)],h)
 )
 (
 some (.tup [c,d,(.bool true)],h)
 ):=bkEq
theorem a0G:j5_ k (j0+1) a b c d e f g h =
 oa (lenS c) fun i=>oa (binV .lss .scalar g i) fun l=>cond2 l
 (
 oa (idxS 1 c g) fun m=>oa (ld1 h m) fun n=>oa (binV .lss .scalar n (.int .i64 0)) fun o=>ob (gd o false (some (c,h)) h) fun p q=>ob (gd o false (some (g,q)) q) fun r s=>ob (gd o false (pure1 s (idxS 1 p r)) s) fun t u=>ob (gd o false (pure1 u (ld1 u t)) u) fun v w=>ob (gd o false (pure1 w (fldA 1 d)) w) fun x y=>ob (gd o false (pure1 y (ld1 y x)) y) fun z aa=>ob (gd o false (pure1 aa (lenS z)) aa) fun ab ac=>ob (gd o false (pure1 ac (binV .geq .scalar v ab)) ac) fun ad ae=>oa (pickV o (.bool true) ad) fun af=>ob (gd af false (pure1 ae (fldA 1 d)) ae) fun ag ai=>ob (gd af false (pure1 ai (ld1 ai ag)) ai) fun al am=>ob (gd af false (some (c,am)) am) fun an ao=>ob (gd af false (some (g,ao)) ao) fun ap aq=>ob (gd af false (pure1 aq (idxS 1 an ap)) aq) fun ar au=>ob (gd af false (pure1 au (ld1 au ar)) au) fun av aw=>ob (gd af false (pure1 aw (idxS 4 al av)) aw) fun ax ay=>ob (gd af false (pure1 ay (fldA 0 ax)) ay) fun az a0=>ob (gd af false (pure1 a0 (ld1 a0 az)) a0) fun a1 a2=>ob (gd af false (some (a,a2)) a2) fun a3 a4=>ob (gd af false (pure1 a4 (binV .neq .scalar a1 a3)) a4) fun a5 a6=>oa (pickV af (.bool true) a5) fun a7=>cond2 a7
 (
 some (.tup [(.int .i64 0),.nils,(.bool false)],a6)
 )
 (
 oa (fldA 1 d) fun a8=>oa (ld1 a6 a8) fun a9=>oa (idxS 1 c g) fun ba=>oa (ld1 a6 ba) fun bb=>oa (idxS 4 a9 bb) fun bc=>oa (ldN 4 a6 bc) fun bd=>ob (newVar a6 [.int .i64 0,.int .i64 0,.int .i64 0,.int .i64 0]) fun be bf=>oh (stN 4 bf be bd) fun bg=>oa (fldA 1 be) fun bi=>oa (ld1 bg bi) fun bl=>oa (fldA 3 be) fun bm=>oa (ld1 bg bm) fun bn=>oa (binV .add .scalar e bn) fun bo=>oa (fldA 2 be) fun bp=>oa (ld1 bg bp) fun bq=>ob (buildSl 1 1 [.int .i64 0] [(0,1,bq)] bg) fun br bs=>ob (apnd 1 8 f br bs) fun bt bu=>oa (binV .add .scalar g (.int .i64 1)) fun bv=>j5_ k j0 bl b c d bo bt bv bu
 )
 )
 (
 a1y k a b e f h
 ):=bkEq
theorem a4F:evalFn tab (k+1) k9_ [a,b,c,d] h =
 ob (newVar h (AV.cells a)) fun e f=>oa (binV .lss .scalar b (.int .i64 0)) fun g=>ob (gd g false (some (b,f)) f) fun i l=>ob (gd g false (pure1 l (fldA 0 e)) l) fun m n=>ob (gd g false (pure1 n (ld1 n m)) n) fun o p=>ob (gd g false (pure1 p (binV .geq .scalar i o)) p) fun q r=>oa (pickV g (.bool true) q) fun s=>ob (gd s false (some (c,r)) r) fun t u=>ob (gd s false (pure1 u (binV .lss .scalar t (.int .i64 0))) u) fun v w=>oa (pickV s (.bool true) v) fun x=>ob (gd x false (some (c,w)) w) fun y z=>ob (gd x false (pure1 z (fldA 0 e)) z) fun aa ab=>ob (gd x false (pure1 ab (ld1 ab aa)) ab) fun ac ad=>ob (gd x false (pure1 ad (binV .geq .scalar y ac)) ad) fun ae af=>oa (pickV x (.bool true) ae) fun ag=>cond2 ag
 (
 some (.tup [(.int .i64 0),.nils,(.bool false)],af)
 )
 (
 j5_ k k b c d e (.int .i64 0) .nils (.int .i64 0) af
 ):=fnEq
theorem a5b:evalFn tab (k+1) y8_ [a,b] h =
 ob (newVar h (AV.cells a)) fun c d=>oa (ldN 2 d c) fun e=>ob (evalFn tab k u0_ [e,(.int .i64 0),b] d) fun f g=>oa (binV .geq .scalar f (.int .i64 0)) fun i=>ob (gd i true (pure1 g (fldA 1 c)) g) fun l m=>ob (gd i true (pure1 m (ld1 m l)) m) fun n o=>ob (gd i true (some (f,o)) o) fun p q=>ob (gd i true (pure1 q (idxS 1 n p)) q) fun r s=>ob (gd i true (pure1 s (ld1 s r)) s) fun t u=>oa (pickV i t (.bool false)) fun v=>some (v,u):=fnEq
def p4_:=bk tab tbl q3_ 0 [j0] [a,b,c] h k
theorem a0H:p4_ k (j0+1) a b c h =
 oa (binV .lss .scalar b c) fun d=>cond2 d
 (
 oa (idxS 1 a c) fun e=>oa (ld1 h e) fun f=>oa (idxS 1 a b) fun g=>oa (ld1 h g) fun i=>oa (idxS 1 a b) fun l=>oh (stN 1 h l f) fun m=>oa (idxS 1 a c) fun n=>oh (stN 1 m n i) fun o=>oa (binV .add .scalar b (.int .i64 1)) fun p=>oa (binV .sub .scalar c (.int .i64 1)) fun q=>p4_ k j0 a p q o
 )
 (
 some (.tup [],h)
 ):=bkEq
theorem a4G:evalFn tab (k+1) q3_ [a] h =
 oa (lenS a) fun b=>oa (binV .sub .scalar b (.int .i64 1)) fun c=>p4_ k k a (.int .i64 0) c h:=fnEq
theorem a5q:evalFn tab (k+1) t9_ [a] h =
 oa (binV .eql .slice a .nils) fun b=>cond2 b
 (
 some (.nils,h)
 )
 (
 ob (buildSl 1 0 [] [] h) fun c d=>ob (apnd 1 8 c a d) fun e f=>some (e,f)
 ):=fnEq
end
end Go.Gm.AQ
namespace Go.Gm.AQ
open Go Go.Gm
noncomputable section
variable (k j0 j1 j2 j3:Nat) (a b c d e f g i l m n:AV) (h:Heap)
def a1M:=bk tab tbl a4a 0 [j0] [a,b,c,d] h k
theorem a5n:a1M k (j0+1) a b c d h =
 oa (binV .lss .scalar d c) fun e=>cond2 e
 (
 oa (idxS 4 b d) fun f=>oa (ldN 4 h f) fun g=>ob (newVar h [.int .i64 0,.int .i64 0,.int .i64 0,.int .i64 0]) fun i l=>oh (stN 4 l i g) fun m=>oa (fldA 0 i) fun n=>oa (ld1 m n) fun o=>ob (evalFn tab k a0x [a,o] m) fun p q=>ob (gd p true (some (a,q)) q) fun r s=>ob (gd p true (pure1 s (fldA 1 i)) s) fun t u=>ob (gd p true (pure1 u (ld1 u t)) u) fun v w=>ob (gd p true (evalFn tab k a0x [r,v] w) w) fun x y=>oa (pickV p x (.bool false)) fun z=>cond2 z
 (
 oa (nilCk a) fun aa=>oa (fldA 2 aa) fun ab=>oa (ld1 y ab) fun ac=>oa (fldA 0 i) fun ad=>oa (ld1 y ad) fun ae=>oa (idxS 2 ac ae) fun af=>oa (fldA 1 i) fun ag=>oa (ld1 y ag) fun ai=>ob (evalFn tab k a0P [af,d,ai] y) fun al am=>oa (nilCk a) fun an=>oa (fldA 3 an) fun ao=>oa (ld1 am ao) fun ap=>oa (fldA 1 i) fun aq=>oa (ld1 am aq) fun ar=>oa (idxS 2 ap ar) fun au=>oa (fldA 0 i) fun av=>oa (ld1 am av) fun aw=>ob (evalFn tab k a0P [au,d,aw] am) fun ax ay=>oa (binV .add .scalar d (.int .i64 1)) fun az=>a1M k j0 a b c az ay
 )
 (
 oa (binV .add .scalar d (.int .i64 1)) fun a0=>a1M k j0 a b c a0 y
 )
 )
 (
 some (a,h)
 ):=bkEq
theorem b0n:evalFn tab (k+1) a4a [a] h =
 ob (newVar h (AV.cells a)) fun b c=>oa (fldA 0 b) fun d=>oa (ld1 c d) fun e=>oa (mmV true e (.int .i64 0)) fun f=>ob (mkSl [.nils,.nils] 2 48 f f c) fun g i=>oa (fldA 0 b) fun l=>oa (ld1 i l) fun m=>oa (mmV true m (.int .i64 0)) fun n=>ob (mkSl [.nils,.nils] 2 48 n n i) fun o p=>oa (buildV [.int .i64 0,.nils,.nils,.nils] [(2,1,g),(3,1,o)]) fun q=>ob (newVar p (AV.cells q)) fun r s=>oa (fldA 0 b) fun t=>oa (ld1 s t) fun u=>oa (fldA 1 b) fun v=>oa (ld1 s v) fun w=>ob (evalFn tab k t1_ [w] s) fun x y=>chk ((sameB (pure1 y (ld1 y t)) u && true)) <|oa (buildV [.int .i64 0,.nils] [(0,1,u),(1,1,x)]) fun z=>oa (nilCk r) fun aa=>oa (fldA 0 aa) fun ab=>oh (stN 2 y ab z) fun ac=>oa (fldA 1 b) fun ad=>oa (ld1 ac ad) fun ae=>oa (lenS ae) fun af=>a1M k k r ae af (.int .i64 0) ac:=fnEq
def a1N:=bk tab tbl a2p 0 [j0] [a,b,c] h k
theorem a4b:a1N k (j0+1) a b c h =
 oa (binV .lss .scalar c b) fun d=>cond2 d
 (
 oa (nilCk a) fun e=>oa (fldA 0 e) fun f=>oa (fldA 1 f) fun g=>oa (ld1 h g) fun i=>oa (idxS 1 i c) fun l=>oh (stN 1 h l (.int .i64 (-1))) fun m=>oa (binV .add .scalar c (.int .i64 1)) fun n=>a1N k j0 a b n m
 )
 (
 some (a,h)
 ):=bkEq
theorem a8w:evalFn tab (k+1) a2p [a] h =
 oa (mmV true a (.int .i64 0)) fun b=>ob (mkSl [.int .i64 0] 1 8 b b h) fun c d=>oa (buildV [.nils,.nils] [(1,1,c)]) fun e=>oa (buildV [.nils,.nils] [(0,2,e)]) fun f=>ob (newVar d (AV.cells f)) fun g i=>oa (nilCk g) fun l=>oa (fldA 0 l) fun m=>oa (fldA 1 m) fun n=>oa (ld1 i n) fun o=>oa (lenS o) fun p=>a1N k k g p (.int .i64 0) i:=fnEq
theorem a5I:evalFn tab (k+1) p8_ [a,b,c] h =
 oa (binV .lss .scalar b (.int .i64 0)) fun d=>ob (gd d false (some (b,h)) h) fun e f=>ob (gd d false (some (a,f)) f) fun g i=>ob (gd d false (pure1 i (nilCk g)) i) fun l m=>ob (gd d false (pure1 m (fldA 0 l)) m) fun n o=>ob (gd d false (pure1 o (fldA 1 n)) o) fun p q=>ob (gd d false (pure1 q (ld1 q p)) q) fun r s=>ob (gd d false (pure1 s (lenS r)) s) fun t u=>ob (gd d false (pure1 u (binV .geq .scalar e t)) u) fun v w=>oa (pickV d (.bool true) v) fun x=>cond2 x
 (
 some ((.bool false),w)
 )
 (
 ob (evalFn tab k j2_ [a] w) fun y z=>ob (callMeth tab (evalFn tab k) "milestone/queue.place" y [b] z) fun aa ab=>oa (binV .lss .scalar aa (.int .i64 0)) fun ac=>cond2 ac
 (
 oa (buildV [.int .i64 0,.int .i64 0] [(0,1,b),(1,1,c)]) fun ad=>ob (evalFn tab k o7_ [y,(.ifc 198 ad)] ab) fun ae af=>some ((.bool true),af)
 )
 (
 oa (nilCk a) fun ag=>oa (fldA 0 ag) fun ai=>oa (fldA 0 ai) fun al=>oa (ld1 ab al) fun am=>oa (idxS 2 am aa) fun an=>oa (fldA 1 an) fun ao=>oa (ld1 ab ao) fun ap=>oa (binV .leq .scalar ap c) fun aq=>cond2 aq
 (
 some ((.bool false),ab)
 )
 (
 oa (nilCk a) fun ar=>oa (fldA 0 ar) fun au=>oa (fldA 0 au) fun av=>oa (ld1 ab av) fun aw=>oa (idxS 2 aw aa) fun ax=>oa (fldA 1 ax) fun ay=>oh (stN 1 ab ay c) fun az=>ob (evalFn tab k q5_ [y,aa] az) fun a0 a1=>some ((.bool true),a1)
 )
 )
 ):=fnEq
theorem a7n:evalFn tab (k+1) a2L [a,b] h =
 oa (nilCk a) fun c=>oa (fldA 2 c) fun d=>oa (ld1 h d) fun e=>ob (evalFn tab k a0Q [a,e,b] h) fun f g=>ob (callVal (evalFn tab k) (.fn z4_ [] []) [f] g) fun i l=>some (i,l):=fnEq
theorem a3Q:evalFn tab (k+1) c1_ [a,b] h =
 oa (binV .rem .scalar a b) fun c=>oa (binV .lss .scalar c (.int .i64 0)) fun d=>cond2 d
 (
 oa (binV .add .scalar c b) fun e=>some (e,h)
 )
 (
 some (c,h)
 ):=fnEq
theorem a3h:evalFn tab (k+1) c3_ [a,b] h =
 ob (newVar h (AV.cells a)) fun c d=>ob (newVar d [.int .i64 0,.int .i64 0,.int .i64 0,.int .i64 0,.nils]) fun e f=>oa (fldA 2 c) fun g=>oa (ld1 f g) fun i=>oa (lenS i) fun l=>oa (binV .lss .scalar b l) fun m=>cond2 m
 (
 oa (fldA 2 c) fun n=>oa (ld1 f n) fun o=>oa (idxS 3 o b) fun p=>oa (ldN 3 f p) fun q=>ob (evalFn tab k b2_ [q] f) fun r s=>oh (stN 5 s e r) fun t=>oa (ldN 5 t e) fun u=>some (u,t)
 )
 (
 oa (fldA 1 c) fun v=>oa (ld1 f v) fun w=>oa (binV .add .scalar w b) fun x=>ob (evalFn tab k c1_ [x,(.int .i64 5)] f) fun y z=>oa (convV .u64 y) fun aa=>oa (binV .shl .scalar (.int .i64 1) aa) fun ab=>oa (buildV [.int .i64 0,.int .i64 0,.int .i64 0,.int .i64 0,.nils] [(0,1,(.int .i64 1)),(1,1,ab)]) fun ac=>oh (stN 5 z e ac) fun ad=>oa (ldN 5 ad e) fun ae=>some (ae,ad)
 ):=fnEq
def f7_:=bk tab tbl d0_ 0 [j0] [a,b,c] h k
def l9_:=bk tab tbl d0_ 1 [] [a,b] h k
theorem a1j:l9_ k a b h =
 oa (lenS b) fun c=>oa (binV .eql .scalar c (.int .i64 1)) fun d=>cond2 d
 (
 oa (idxS 5 b (.int .i64 0)) fun e=>oa (ldN 5 h e) fun f=>oh (stN 5 h a f) fun g=>oa (ldN 5 g a) fun i=>some (i,g)
 )
 (
 oa (buildV [.int .i64 0,.int .i64 0,.int .i64 0,.int .i64 0,.nils] [(0,1,(.int .i64 5)),(4,1,b)]) fun l=>oh (stN 5 h a l) fun m=>oa (ldN 5 m a) fun n=>some (n,m)
 ):=bkEq
theorem a1k:f7_ k (j0+1) a b c h =
 ob (evalFn tab k a6_ [a] h) fun d e=>oa (extr 0 d) fun f=>oa (extr 1 d) fun g=>oa (unV .not g) fun i=>ob (gd i false (some (f,e)) e) fun l m=>ob (gd i false (pure1 m (binV .neq .scalar l (.int .u8 124))) m) fun n o=>oa (pickV i (.bool true) n) fun p=>cond2 p
 (
 l9_ k b c o
 )
 (
 oa (nilCk a) fun q=>oa (fldA 1 q) fun r=>oa (ld1 o r) fun s=>oa (binV .add .scalar s (.int .i64 1)) fun t=>oa (nilCk a) fun u=>oa (fldA 1 u) fun v=>oh (stN 1 o v t) fun w=>ob (evalFn tab k d2_ [a] w) fun x y=>ob (buildSl 5 1 [.int .i64 0,.int .i64 0,.int .i64 0,.int .i64 0,.nils] [(0,5,x)] y) fun z aa=>ob (apnd 5 56 c z aa) fun ab ac=>f7_ k j0 a b ab ac
 ):=bkEq
theorem a1T:evalFn tab (k+1) d0_ [a] h =
 ob (newVar h [.int .i64 0,.int .i64 0,.int .i64 0,.int .i64 0,.nils]) fun b c=>ob (evalFn tab k d2_ [a] c) fun d e=>ob (buildSl 5 1 [.int .i64 0,.int .i64 0,.int .i64 0,.int .i64 0,.nils] [(0,5,d)] e) fun f g=>f7_ k k a b f g:=fnEq
def m0_:=bk tab tbl a8_ 0 [] [a,b,c,d,e,f] h k
def f8_:=bk tab tbl a8_ 1 [j0] [a,b,c,d,e,f,g] h k
def f9_:=bk tab tbl a8_ 2 [j0] [a,b,c,d,e,f,g,i] h k
def d5_:=bk tab tbl a8_ 3 [] [a,b,c,d,e] h k
def g0_:=bk tab tbl a8_ 4 [] [a,b] h k
theorem a1l:f9_ k j0 a b c d e f g i h =
 oa (ldN 5 h i) fun l=>ob (evalFn tab k a8_ [a,l] h) fun m n=>oa (extr 0 m) fun o=>oa (extr 1 m) fun p=>ob (buildSl 1 1 [.int .i64 0] [(0,1,o)] n) fun q r=>ob (apnd 1 8 d q r) fun s t=>ob (buildSl 1 1 [.int .i64 0] [(0,1,p)] t) fun u v=>ob (apnd 1 8 e u v) fun w x=>oa (binV .add .scalar g (.int .i64 1)) fun y=>f8_ k j0 a b c s w f y x:=bkEq
theorem a1m:g0_ k a b h =
 some (.tup [a,b],h):=bkEq
theorem a1n:d5_ k a b c d e h =
 ob (evalFn tab k f6_ [a] h) fun f g=>oa (nilCk a) fun i=>oa (fldA 5 i) fun l=>oa (ld1 g l) fun m=>oa (unV .not m) fun n=>cond2 n
 (
 oa (ldN 5 g b) fun o=>ob (evalFn tab k g7_ [a,o,c,f,d,e] g) fun p q=>g0_ k c f q
 )
 (
 g0_ k c f g
 ):=bkEq
theorem r9_:f8_ k (j0+1) a b c d e f g h =
 oa (binV .lss .scalar g f) fun i=>ob (gd i true (some (a,h)) h) fun l m=>ob (gd i true (pure1 m (nilCk l)) m) fun n o=>ob (gd i true (pure1 o (fldA 5 n)) o) fun p q=>ob (gd i true (pure1 q (ld1 q p)) q) fun r s=>ob (gd i true (pure1 s (unV .not r)) s) fun t u=>oa (pickV i t (.bool false)) fun v=>cond2 v
 (
 oa (fldA 4 b) fun w=>oa (ld1 u w) fun x=>oa (idxS 5 x (.int .i64 0)) fun y=>oa (ldN 5 u y) fun z=>ob (newVar u [.int .i64 0,.int .i64 0,.int .i64 0,.int .i64 0,.nils]) fun aa ab=>oh (stN 5 ab aa z) fun ac=>oa (fldA 0 b) fun ad=>oa (ld1 ac ad) fun ae=>oa (binV .eql .scalar ae (.int .i64 5)) fun af=>cond2 af
 (
 oa (fldA 4 b) fun ag=>oa (ld1 ac ag) fun ai=>oa (idxS 5 ai g) fun al=>oa (ldN 5 ac al) fun am=>oh (stN 5 ac aa am) fun an=>f9_ k j0 a b c d e f g aa an
 )
 (
 f9_ k j0 a b c d e f g aa ac
 )
 )
 (
 d5_ k a b c d e u
 ):=bkEq
theorem s0_:m0_ k a b c d e f h =
 f8_ k k a b c d e f (.int .i64 0) h:=bkEq
theorem v5_:evalFn tab (k+1) a8_ [a,b] h =
 ob (newVar h (AV.cells b)) fun c d=>oa (nilCk a) fun e=>oa (fldA 5 e) fun f=>oa (ld1 d f) fun g=>cond2 g
 (
 some (.tup [(.int .i64 0),(.int .i64 0)],d)
 )
 (
 oa (fldA 0 c) fun i=>oa (ld1 d i) fun l=>oa (binV .eql .scalar l (.int .i64 4)) fun m=>cond2 m
 (
 oa (ldN 5 d c) fun n=>ob (evalFn tab k b9_ [a,n] d) fun o p=>oa (extr 0 o) fun q=>oa (extr 1 o) fun r=>some (.tup [q,r],p)
 )
 (
 ob (evalFn tab k f6_ [a] d) fun s t=>oa (fldA 4 c) fun u=>oa (ld1 t u) fun v=>oa (lenS v) fun w=>oa (fldA 0 c) fun x=>oa (ld1 t x) fun y=>oa (binV .eql .scalar y (.int .i64 9)) fun z=>cond2 z
 (
 oa (fldA 3 c) fun aa=>oa (ld1 t aa) fun ab=>m0_ k a c s .nils .nils ab t
 )
 (
 m0_ k a c s .nils .nils w t
 )
 )
 ):=fnEq
theorem a4r:evalFn tab (k+1) w3_ [a] h =
 ob (newVar h (AV.cells a)) fun b c=>oa (fldA 0 b) fun d=>oa (ld1 c d) fun e=>ob (mkSl [.bool false] 1 1 e e c) fun f g=>oa (fldA 1 b) fun i=>oa (ld1 g i) fun l=>oa (idxS 1 f l) fun m=>oh (stN 1 g m (.bool true)) fun n=>oa (ldN 5 n b) fun o=>ob (evalFn tab k b3_ [o,f] n) fun p q=>some (p,q):=fnEq
def j6_:=bk tab tbl l0_ 0 [j0] [a,b,c,d,e] h k
def a1z:=bk tab tbl l0_ 1 [] [a,b] h k
theorem a3B:a1z k a b h =
 oa (ldN 5 h a) fun c=>ob (evalFn tab k b3_ [c,b] h) fun d e=>some (d,e):=bkEq
theorem a0I:j6_ k (j0+1) a b c d e h =
 oa (fldA 3 c) fun f=>oa (ld1 h f) fun g=>oa (lenS g) fun i=>oa (binV .lss .scalar e i) fun l=>cond2 l
 (
 oa (fldA 3 c) fun m=>oa (ld1 h m) fun n=>oa (idxS 3 n e) fun o=>oa (ldN 3 h o) fun p=>ob (newVar h [.int .i64 0,.int .i64 0,.int .i64 0]) fun q r=>oh (stN 3 r q p) fun s=>oa (binV .geq .scalar b (.int .i64 0)) fun t=>ob (gd t true (some (b,s)) s) fun u v=>ob (gd t true (pure1 v (binV .lss .scalar u (.int .i64 5))) v) fun w x=>oa (pickV t w (.bool false)) fun y=>ob (gd y true (some (a,x)) x) fun z aa=>ob (gd y true (pure1 aa (fldA 0 q)) aa) fun ab ac=>ob (gd y true (pure1 ac (ld1 ac ab)) ac) fun ad ae=>ob (gd y true (pure1 ae (idxS 1 z ad)) ae) fun af ag=>ob (gd y true (pure1 ag (ld1 ag af)) ag) fun ai al=>oa (pickV y ai (.bool false)) fun am=>ob (gd am true (pure1 al (fldA 2 q)) al) fun an ao=>ob (gd am true (pure1 ao (ld1 ao an)) ao) fun ap aq=>ob (gd am true (some (b,aq)) aq) fun ar au=>ob (gd am true (pure1 au (convV .u64 ar)) au) fun av aw=>ob (gd am true (pure1 aw (binV .shr .scalar ap av)) aw) fun ax ay=>ob (gd am true (pure1 ay (binV .and .scalar ax (.int .i64 1))) ay) fun az a0=>ob (gd am true (pure1 a0 (binV .eql .scalar az (.int .i64 1))) a0) fun a1 a2=>oa (pickV am a1 (.bool false)) fun a3=>cond2 a3
 (
 oa (fldA 1 q) fun a4=>oa (ld1 a2 a4) fun a5=>oa (idxS 1 d a5) fun a6=>oh (stN 1 a2 a6 (.bool true)) fun a7=>oa (binV .add .scalar e (.int .i64 1)) fun a8=>j6_ k j0 a b c d a8 a7
 )
 (
 oa (binV .add .scalar e (.int .i64 1)) fun a9=>j6_ k j0 a b c d a9 a2
 )
 )
 (
 a1z k c d h
 ):=bkEq
theorem a4H:evalFn tab (k+1) l0_ [a,b,c] h =
 ob (newVar h (AV.cells a)) fun d e=>oa (fldA 0 d) fun f=>oa (ld1 e f) fun g=>ob (mkSl [.bool false] 1 1 g g e) fun i l=>j6_ k k b c d i (.int .i64 0) l:=fnEq
def p5_:=bk tab tbl q4_ 0 [j0] [a,b,c] h k
theorem a0J:p5_ k (j0+1) a b c h =
 oa (lenS a) fun d=>oa (binV .lss .scalar c d) fun e=>cond2 e
 (
 oa (idxS 1 a c) fun f=>oa (ld1 h f) fun g=>ob (evalFn tab k q6_ [g,b] h) fun i l=>cond2 i
 (
 some (c,l)
 )
 (
 oa (binV .add .scalar c (.int .i64 1)) fun m=>p5_ k j0 a b m l
 )
 )
 (
 some ((.int .i64 (-1)),h)
 ):=bkEq
theorem a4I:evalFn tab (k+1) q4_ [a,b] h =
 p5_ k k a b (.int .i64 0) h:=fnEq
def h0_:=bk tab tbl e9_ 0 [j0] [a,b,c] h k
def a0T:=bk tab tbl e9_ 1 [] [a,b] h k
def m3_:=bk tab tbl e9_ 2 [j0] [a,b,c] h k
theorem a2P:m3_ k (j0+1) a b c h =
 oa (ldN 2 h a) fun d=>ob (evalFn tab k c6_ [d,b] h) fun e f=>oa (extr 0 e) fun g=>oa (extr 1 e) fun i=>oa (binV .eql .scalar i c) fun l=>cond2 l
 (
 some (g,f)
 )
 (
 m3_ k j0 a g i f
 ):=bkEq
theorem a2Q:a0T k a b h =
 m3_ k k a b (.int .i64 0) h:=bkEq
theorem y0_:h0_ k (j0+1) a b c h =
 oa (lenS b) fun d=>oa (binV .lss .scalar c d) fun e=>cond2 e
 (
 oa (fldA 1 a) fun f=>oa (ld1 h f) fun g=>oa (idxS 1 g c) fun i=>oa (ld1 h i) fun l=>cond2 l
 (
 oa (idxS 1 b c) fun m=>oh (stN 1 h m (.int .i64 1)) fun n=>oa (binV .add .scalar c (.int .i64 1)) fun o=>h0_ k j0 a b o n
 )
 (
 oa (binV .add .scalar c (.int .i64 1)) fun p=>h0_ k j0 a b p h
 )
 )
 (
 a0T k a b h
 ):=bkEq
theorem a3R:evalFn tab (k+1) e9_ [a] h =
 ob (newVar h (AV.cells a)) fun b c=>oa (fldA 0 b) fun d=>oa (ld1 c d) fun e=>oa (lenS e) fun f=>ob (mkSl [.int .i64 0] 1 8 f f c) fun g i=>h0_ k k b g (.int .i64 0) i:=fnEq
theorem a7Z:evalFn tab (k+1) a3s [a,b] h =
 oa (nilCk a) fun c=>oa (fldA 3 c) fun d=>oa (ld1 h d) fun e=>ob (evalFn tab k a0Q [a,e,b] h) fun f g=>ob (callVal (evalFn tab k) (.fn z4_ [] []) [f] g) fun i l=>some (i,l):=fnEq
theorem a5J:evalFn tab (k+1) v8_ [a,b] h =
 ob (evalFn tab k j2_ [a] h) fun c d=>ob (callMeth tab (evalFn tab k) "milestone/queue.place" c [b] d) fun e f=>oa (binV .lss .scalar e (.int .i64 0)) fun g=>cond2 g
 (
 some (.tup [(.int .i64 0),(.bool false)],f)
 )
 (
 oa (nilCk a) fun i=>oa (fldA 0 i) fun l=>oa (fldA 0 l) fun m=>oa (ld1 f m) fun n=>oa (idxS 2 n e) fun o=>oa (fldA 1 o) fun p=>oa (ld1 f p) fun q=>some (.tup [q,(.bool true)],f)
 ):=fnEq
theorem a5K:evalFn tab (k+1) v9_ [a] h =
 oa (nilCk a) fun b=>oa (fldA 0 b) fun c=>ob (evalFn tab k u1_ [c] h) fun d e=>oa (binV .eql .scalar d (.int .i64 0)) fun f=>cond2 f
 (
 some (.tup [(.int .i64 0),(.int .i64 0),(.bool false)],e)
 )
 (
 ob (evalFn tab k j2_ [a] e) fun g i=>ob (evalFn tab k x5_ [g] i) fun l m=>oa (tAssert 198 (.agg [.int .i64 0,.int .i64 0]) true l) fun n=>oa (extr 0 n) fun o=>oa (extr 1 n) fun p=>ob (newVar m [.int .i64 0,.int .i64 0]) fun q r=>oh (stN 2 r q o) fun s=>oa (fldA 0 q) fun t=>oa (ld1 s t) fun u=>oa (fldA 1 q) fun v=>oa (ld1 s v) fun w=>some (.tup [u,w,p],s)
 ):=fnEq
end
end Go.Gm.AQ
namespace Go.Gm.AQ
open Go Go.Gm
noncomputable section
variable (k j0 j1 j2 j3:Nat) (a b c d e f g i l m n:AV) (h:Heap)
def m9_:=bk tab tbl u0_ 0 [j0] [a,b,c,d] h k
theorem a1c:m9_ k (j0+1) a b c d h =
 oa (lenS b) fun e=>oa (binV .lss .scalar d e) fun f=>cond2 f
 (
 oa (idxS 1 b d) fun g=>oa (ld1 h g) fun i=>oa (binV .lss .scalar i (.int .i64 0)) fun l=>ob (gd l false (some (b,h)) h) fun m n=>ob (gd l false (some (d,n)) n) fun o p=>ob (gd l false (pure1 p (idxS 1 m o)) p) fun q r=>ob (gd l false (pure1 r (ld1 r q)) r) fun s t=>ob (gd l false (pure1 t (binV .geq .scalar s (.int .i64 5))) t) fun u v=>oa (pickV l (.bool true) u) fun w=>cond2 w
 (
 some ((.int .i64 (-1)),v)
 )
 (
 oa (fldA 0 c) fun x=>oa (ld1 v x) fun y=>oa (idxS 1 b d) fun z=>oa (ld1 v z) fun aa=>oa (idxS 5 y a) fun ab=>oa (idxA 5 1 ab aa) fun ac=>oa (ld1 v ac) fun ad=>oa (binV .add .scalar d (.int .i64 1)) fun ae=>m9_ k j0 ad b c ae v
 )
 )
 (
 some (a,h)
 ):=bkEq
theorem a5r:evalFn tab (k+1) u0_ [a,b,c] h =
 ob (newVar h (AV.cells a)) fun d e=>oa (binV .lss .scalar b (.int .i64 0)) fun f=>ob (gd f false (some (b,e)) e) fun g i=>ob (gd f false (pure1 i (fldA 0 d)) i) fun l m=>ob (gd f false (pure1 m (ld1 m l)) m) fun n o=>ob (gd f false (pure1 o (lenS n)) o) fun p q=>ob (gd f false (pure1 q (binV .geq .scalar g p)) q) fun r s=>oa (pickV f (.bool true) r) fun t=>cond2 t
 (
 some ((.int .i64 (-1)),s)
 )
 (
 m9_ k k b c d (.int .i64 0) s
 ):=fnEq
theorem a3C:evalFn tab (k+1) t1_ [a] h =
 oa (binV .eql .slice a .nils) fun b=>cond2 b
 (
 some (.nils,h)
 )
 (
 ob (buildSl 4 0 [] [] h) fun c d=>ob (apnd 4 32 c a d) fun e f=>some (e,f)
 ):=fnEq
theorem a8a:evalFn tab (k+1) a0x [a,b] h =
 oa (binV .geq .scalar b (.int .i64 0)) fun c=>ob (gd c true (some (b,h)) h) fun d e=>ob (gd c true (some (a,e)) e) fun f g=>ob (gd c true (pure1 g (nilCk f)) g) fun i l=>ob (gd c true (pure1 l (fldA 2 i)) l) fun m n=>ob (gd c true (pure1 n (ld1 n m)) n) fun o p=>ob (gd c true (pure1 p (lenS o)) p) fun q r=>ob (gd c true (pure1 r (binV .lss .scalar d q)) r) fun s t=>oa (pickV c s (.bool false)) fun u=>some (u,t):=fnEq
theorem a6Y:evalFn tab (k+1) a0P [a,b,c] h =
 oa (nilCk a) fun d=>oa (fldA 0 d) fun e=>oa (ld1 h e) fun f=>ob (buildSl 1 1 [.int .i64 0] [(0,1,b)] h) fun g i=>oa (nilCk a) fun l=>oa (fldA 1 l) fun m=>oa (ld1 i m) fun n=>ob (buildSl 1 1 [.int .i64 0] [(0,1,c)] i) fun o p=>ob (apnd 1 8 f g p) fun q r=>chk ((sameB (pure1 r (ld1 r m)) n && true)) <|ob (apnd 1 8 n o r) fun s t=>oa (nilCk a) fun u=>oa (fldA 0 u) fun v=>oh (stN 1 t v q) fun w=>oa (nilCk a) fun x=>oa (fldA 1 x) fun y=>oh (stN 1 w y s) fun z=>some (.tup [],z):=fnEq
theorem a5s:evalFn tab (k+1) j2_ [a] h =
 oa (nilCk a) fun b=>oa (fldA 0 b) fun c=>some ((.ifc 218 c),h):=fnEq
theorem a4s:evalFn tab (k+1) o7_ [a,b] h =
 ob (callMeth tab (evalFn tab k) "Push" a [b] h) fun c d=>ob (callMeth tab (evalFn tab k) "Len" a [] d) fun e f=>oa (binV .sub .scalar e (.int .i64 1)) fun g=>ob (evalFn tab k m8_ [a,g] f) fun i l=>some (.tup [],l):=fnEq
theorem a4J:evalFn tab (k+1) q5_ [a,b] h =
 ob (callMeth tab (evalFn tab k) "Len" a [] h) fun c d=>ob (evalFn tab k d3_ [a,b,c] d) fun e f=>oa (unV .not e) fun g=>cond2 g
 (
 ob (evalFn tab k m8_ [a,b] f) fun i l=>some (.tup [],l)
 )
 (
 some (.tup [],f)
 ):=fnEq
theorem a6A:evalFn tab (k+1) z4_ [a] h =
 ob (newVar h (AV.cells a)) fun b c=>oa (fldA 0 b) fun d=>oa (ld1 c d) fun e=>oa (lenS e) fun f=>oa (fldA 0 b) fun g=>oa (ld1 c g) fun i=>oa (slSl 1 i none (some f) (some f)) fun l=>ob (evalFn tab k t9_ [l] c) fun m n=>some (m,n):=fnEq
theorem a6Z:evalFn tab (k+1) a0Q [a,b,c] h =
 ob (newVar h [.nils,.nils]) fun d e=>ob (evalFn tab k a0x [a,c] e) fun f g=>oa (unV .not f) fun i=>cond2 i
 (
 oa (buildV [.nils,.nils] []) fun l=>oh (stN 2 g d l) fun m=>oa (ldN 2 m d) fun n=>some (n,m)
 )
 (
 oa (idxS 2 b c) fun o=>oa (ldN 2 g o) fun p=>oh (stN 2 g d p) fun q=>oa (ldN 2 q d) fun r=>some (r,q)
 ):=fnEq
def g9_:=bk tab tbl d2_ 0 [j0] [a,b,c] h k
def n5_:=bk tab tbl d2_ 1 [] [a,b] h k
theorem a1D:n5_ k a b h =
 oa (lenS b) fun c=>oa (binV .eql .scalar c (.int .i64 1)) fun d=>cond2 d
 (
 oa (idxS 5 b (.int .i64 0)) fun e=>oa (ldN 5 h e) fun f=>oh (stN 5 h a f) fun g=>oa (ldN 5 g a) fun i=>some (i,g)
 )
 (
 oa (buildV [.int .i64 0,.int .i64 0,.int .i64 0,.int .i64 0,.nils] [(0,1,(.int .i64 4)),(4,1,b)]) fun l=>oh (stN 5 h a l) fun m=>oa (ldN 5 m a) fun n=>some (n,m)
 ):=bkEq
theorem a1E:g9_ k (j0+1) a b c h =
 ob (evalFn tab k a6_ [a] h) fun d e=>oa (extr 0 d) fun f=>oa (extr 1 d) fun g=>oa (unV .not g) fun i=>ob (gd i false (some (f,e)) e) fun l m=>ob (gd i false (pure1 m (binV .eql .scalar l (.int .u8 124))) m) fun n o=>oa (pickV i (.bool true) n) fun p=>ob (gd p false (some (f,o)) o) fun q r=>ob (gd p false (pure1 r (binV .eql .scalar q (.int .u8 41))) r) fun s t=>oa (pickV p (.bool true) s) fun u=>cond2 u
 (
 n5_ k b c t
 )
 (
 ob (evalFn tab k d1_ [a] t) fun v w=>ob (buildSl 5 1 [.int .i64 0,.int .i64 0,.int .i64 0,.int .i64 0,.nils] [(0,5,v)] w) fun x y=>ob (apnd 5 56 c x y) fun z aa=>g9_ k j0 a b z aa
 ):=bkEq
theorem a2j:evalFn tab (k+1) d2_ [a] h =
 ob (newVar h [.int .i64 0,.int .i64 0,.int .i64 0,.int .i64 0,.nils]) fun b c=>ob (evalFn tab k d1_ [a] c) fun d e=>ob (buildSl 5 1 [.int .i64 0,.int .i64 0,.int .i64 0,.int .i64 0,.nils] [(0,5,d)] e) fun f g=>g9_ k k a b f g:=fnEq
theorem w9_:evalFn tab (k+1) a6_ [a] h =
 oa (nilCk a) fun b=>oa (fldA 1 b) fun c=>oa (ld1 h c) fun d=>oa (nilCk a) fun e=>oa (fldA 0 e) fun f=>oa (ld1 h f) fun g=>oa (lenB g) fun i=>oa (binV .geq .scalar d i) fun l=>ob (gd l false (some (a,h)) h) fun m n=>ob (gd l false (pure1 n (nilCk m)) n) fun o p=>ob (gd l false (pure1 p (fldA 3 o)) p) fun q r=>ob (gd l false (pure1 r (ld1 r q)) r) fun s t=>ob (gd l false (pure1 t (binV .neq .scalar s (.int .i64 0))) t) fun u v=>oa (pickV l (.bool true) u) fun w=>cond2 w
 (
 some (.tup [(.int .u8 0),(.bool false)],v)
 )
 (
 oa (nilCk a) fun x=>oa (fldA 0 x) fun y=>oa (ld1 v y) fun z=>oa (nilCk a) fun aa=>oa (fldA 1 aa) fun ab=>oa (ld1 v ab) fun ac=>oa (ixS z ac) fun ad=>some (.tup [ad,(.bool true)],v)
 ):=fnEq
def g1_:=bk tab tbl b9_ 0 [j0] [a,b,c,d,e] h k
def m1_:=bk tab tbl b9_ 1 [] [a,b,c] h k
def g2_:=bk tab tbl b9_ 2 [j0] [a,b,c,d] h k
def v6_:=bk tab tbl b9_ 3 [] [a,b] h k
theorem a1o:v6_ k a b h =
 oa (idxS 1 a (.int .i64 0)) fun c=>oa (ld1 h c) fun d=>oa (lenS b) fun e=>oa (binV .sub .scalar e (.int .i64 1)) fun f=>oa (idxS 1 b f) fun g=>oa (ld1 h g) fun i=>some (.tup [d,i],h):=bkEq
theorem s1_:g2_ k (j0+1) a b c d h =
 oa (binV .add .scalar d (.int .i64 1)) fun e=>oa (lenS b) fun f=>oa (binV .lss .scalar e f) fun g=>cond2 g
 (
 oa (idxS 1 c d) fun i=>oa (ld1 h i) fun l=>oa (binV .add .scalar d (.int .i64 1)) fun m=>oa (idxS 1 b m) fun n=>oa (ld1 h n) fun o=>ob (evalFn tab k a0_ [a,l,o] h) fun p q=>oa (binV .add .scalar d (.int .i64 1)) fun r=>g2_ k j0 a b c r q
 )
 (
 v6_ k b c h
 ):=bkEq
theorem a1p:m1_ k a b c h =
 oa (nilCk a) fun d=>oa (fldA 5 d) fun e=>oa (ld1 h e) fun f=>cond2 f
 (
 some (.tup [(.int .i64 0),(.int .i64 0)],h)
 )
 (
 g2_ k k a b c (.int .i64 0) h
 ):=bkEq
theorem s2_:g1_ k (j0+1) a b c d e h =
 oa (fldA 4 b) fun f=>oa (ld1 h f) fun g=>oa (lenS g) fun i=>oa (binV .lss .scalar e i) fun l=>ob (gd l true (some (a,h)) h) fun m n=>ob (gd l true (pure1 n (nilCk m)) n) fun o p=>ob (gd l true (pure1 p (fldA 5 o)) p) fun q r=>ob (gd l true (pure1 r (ld1 r q)) r) fun s t=>ob (gd l true (pure1 t (unV .not s)) t) fun u v=>oa (pickV l u (.bool false)) fun w=>cond2 w
 (
 oa (fldA 4 b) fun x=>oa (ld1 v x) fun y=>oa (idxS 5 y e) fun z=>oa (ldN 5 v z) fun aa=>ob (evalFn tab k a8_ [a,aa] v) fun ab ac=>oa (extr 0 ab) fun ad=>oa (extr 1 ab) fun ae=>ob (buildSl 1 1 [.int .i64 0] [(0,1,ad)] ac) fun af ag=>ob (apnd 1 8 c af ag) fun ai al=>ob (buildSl 1 1 [.int .i64 0] [(0,1,ae)] al) fun am an=>ob (apnd 1 8 d am an) fun ao ap=>oa (binV .add .scalar e (.int .i64 1)) fun aq=>g1_ k j0 a b ai ao aq ap
 )
 (
 m1_ k a c d v
 ):=bkEq
theorem a1U:evalFn tab (k+1) b9_ [a,b] h =
 ob (newVar h (AV.cells b)) fun c d=>g1_ k k a c .nils .nils (.int .i64 0) d:=fnEq
theorem a1O:evalFn tab (k+1) f6_ [a] h =
 oa (nilCk a) fun b=>oa (fldA 0 b) fun c=>oa (fldA 0 c) fun d=>oa (ld1 h d) fun e=>oa (binV .geq .scalar e (.int .i64 1000)) fun f=>cond2 f
 (
 oa (nilCk a) fun g=>oa (fldA 5 g) fun i=>oh (stN 1 h i (.bool true)) fun l=>some ((.int .i64 0),l)
 )
 (
 oa (nilCk a) fun m=>oa (fldA 0 m) fun n=>oa (fldA 0 n) fun o=>oa (ld1 h o) fun p=>oa (binV .add .scalar p (.int .i64 1)) fun q=>oa (nilCk a) fun r=>oa (fldA 0 r) fun s=>oa (fldA 0 s) fun t=>oh (stN 1 h t q) fun u=>oa (nilCk a) fun v=>oa (fldA 0 v) fun w=>oa (fldA 0 w) fun x=>oa (ld1 u x) fun y=>oa (binV .sub .scalar y (.int .i64 1)) fun z=>some (z,u)
 ):=fnEq
def g3_:=bk tab tbl g7_ 0 [j0] [a,b,c,d,e,f] h k
theorem s3_:g3_ k (j0+1) a b c d e f h =
 oa (lenS d) fun g=>oa (binV .lss .scalar f g) fun i=>cond2 i
 (
 oa (idxS 1 d f) fun l=>oa (ld1 h l) fun m=>ob (evalFn tab k a0_ [a,b,m] h) fun n o=>oa (idxS 1 e f) fun p=>oa (ld1 o p) fun q=>ob (evalFn tab k a0_ [a,q,c] o) fun r s=>oa (binV .add .scalar f (.int .i64 1)) fun t=>g3_ k j0 a b c d e t s
 )
 (
 some (.tup [],h)
 ):=bkEq
theorem a1V:evalFn tab (k+1) g7_ [a,b,c,d,e,f] h =
 ob (newVar h (AV.cells b)) fun g i=>oa (fldA 0 g) fun l=>oa (ld1 i l) fun m=>oa (binV .eql .scalar m (.int .i64 1)) fun n=>cond2 n
 (
 oa (nilCk a) fun o=>oa (fldA 0 o) fun p=>oa (fldA 3 p) fun q=>oa (ld1 i q) fun r=>oa (fldA 1 g) fun s=>oa (ld1 i s) fun t=>oa (buildV [.int .i64 0,.int .i64 0,.int .i64 0] [(0,1,c),(1,1,d),(2,1,t)]) fun u=>ob (buildSl 3 1 [.int .i64 0,.int .i64 0,.int .i64 0] [(0,3,u)] i) fun v w=>ob (apnd 3 24 r v w) fun x y=>oa (nilCk a) fun z=>oa (fldA 0 z) fun aa=>oa (fldA 3 aa) fun ab=>oh (stN 1 y ab x) fun ac=>some (.tup [],ac)
 )
 (
 oa (binV .eql .scalar m (.int .i64 3)) fun ad=>cond2 ad
 (
 ob (evalFn tab k a0_ [a,c,d] i) fun ae af=>some (.tup [],af)
 )
 (
 oa (binV .eql .scalar m (.int .i64 5)) fun ag=>cond2 ag
 (
 g3_ k k a c d e f (.int .i64 0) i
 )
 (
 oa (binV .eql .scalar m (.int .i64 6)) fun ai=>cond2 ai
 (
 oa (idxS 1 e (.int .i64 0)) fun al=>oa (ld1 i al) fun am=>ob (evalFn tab k a0_ [a,c,am] i) fun an ao=>ob (evalFn tab k a0_ [a,c,d] ao) fun ap aq=>oa (idxS 1 f (.int .i64 0)) fun ar=>oa (ld1 aq ar) fun au=>oa (idxS 1 e (.int .i64 0)) fun av=>oa (ld1 aq av) fun aw=>ob (evalFn tab k a0_ [a,au,aw] aq) fun ax ay=>oa (idxS 1 f (.int .i64 0)) fun az=>oa (ld1 ay az) fun a0=>ob (evalFn tab k a0_ [a,a0,d] ay) fun a1 a2=>some (.tup [],a2)
 )
 (
 oa (binV .eql .scalar m (.int .i64 7)) fun a3=>cond2 a3
 (
 oa (idxS 1 e (.int .i64 0)) fun a4=>oa (ld1 i a4) fun a5=>ob (evalFn tab k a0_ [a,c,a5] i) fun a6 a7=>oa (idxS 1 f (.int .i64 0)) fun a8=>oa (ld1 a7 a8) fun a9=>oa (idxS 1 e (.int .i64 0)) fun ba=>oa (ld1 a7 ba) fun bb=>ob (evalFn tab k a0_ [a,a9,bb] a7) fun bc bd=>oa (idxS 1 f (.int .i64 0)) fun be=>oa (ld1 bd be) fun bf=>ob (evalFn tab k a0_ [a,bf,d] bd) fun bg bi=>some (.tup [],bi)
 )
 (
 oa (binV .eql .scalar m (.int .i64 8)) fun bl=>cond2 bl
 (
 oa (idxS 1 e (.int .i64 0)) fun bm=>oa (ld1 i bm) fun bn=>ob (evalFn tab k a0_ [a,c,bn] i) fun bo bp=>ob (evalFn tab k a0_ [a,c,d] bp) fun bq br=>oa (idxS 1 f (.int .i64 0)) fun bs=>oa (ld1 br bs) fun bt=>ob (evalFn tab k a0_ [a,bt,d] br) fun bu bv=>some (.tup [],bv)
 )
 (
 oa (binV .eql .scalar m (.int .i64 9)) fun bw=>cond2 bw
 (
 oa (ldN 5 i g) fun bx=>ob (evalFn tab k b6_ [a,bx,c,d,e,f] i) fun bz b1=>some (.tup [],b1)
 )
 (
 some (.tup [],i)
 )
 )
 )
 )
 )
 )
 ):=fnEq
def h1_:=bk tab tbl b3_ 0 [j0] [a,b,c,d] h k
def a0U:=bk tab tbl b3_ 1 [] [a,b,c] h k
def m4_:=bk tab tbl b3_ 2 [j0] [a,b,c,d,e] h k
def t3_:=bk tab tbl b3_ 3 [] [a,b,c] h k
def m5_:=bk tab tbl b3_ 4 [j0] [a,b,c,d] h k
def h2_:=bk tab tbl b3_ 5 [j0,j1] [a,b,c,d,e] h k
def t4_:=bk tab tbl b3_ 6 [j0] [a,b,c,d] h k
theorem a2R:t4_ k j0 a b c d h =
 oa (binV .add .scalar d (.int .i64 1)) fun e=>m5_ k j0 a b c e h:=bkEq
theorem y1_:h2_ k j0 (j1+1) a b c d e h =
 oa (idxS 1 b d) fun f=>oa (ld1 h f) fun g=>oa (idxS 1 c g) fun i=>oa (ld1 h i) fun l=>oa (lenS l) fun m=>oa (binV .lss .scalar e m) fun n=>cond2 n
 (
 oa (idxS 1 b d) fun o=>oa (ld1 h o) fun p=>oa (idxS 1 c p) fun q=>oa (ld1 h q) fun r=>oa (idxS 1 r e) fun s=>oa (ld1 h s) fun t=>oa (idxS 1 a t) fun u=>oa (ld1 h u) fun v=>oa (unV .not v) fun w=>cond2 w
 (
 oa (idxS 1 a t) fun x=>oh (stN 1 h x (.bool true)) fun y=>ob (buildSl 1 1 [.int .i64 0] [(0,1,t)] y) fun z aa=>ob (apnd 1 8 b z aa) fun ab ac=>oa (binV .add .scalar e (.int .i64 1)) fun ad=>h2_ k j0 j1 a ab c d ad ac
 )
 (
 oa (binV .add .scalar e (.int .i64 1)) fun ae=>h2_ k j0 j1 a b c d ae h
 )
 )
 (
 t4_ k j0 a b c d h
 ):=bkEq
theorem y2_:m5_ k (j0+1) a b c d h =
 oa (lenS b) fun e=>oa (binV .lss .scalar d e) fun f=>cond2 f
 (
 h2_ k j0 k a b c d (.int .i64 0) h
 )
 (
 some (a,h)
 ):=bkEq
theorem a2S:t3_ k a b c h =
 m5_ k k a b c (.int .i64 0) h:=bkEq
theorem y3_:m4_ k (j0+1) a b c d e h =
 oa (fldA 4 a) fun f=>oa (ld1 h f) fun g=>oa (lenS g) fun i=>oa (binV .lss .scalar e i) fun l=>cond2 l
 (
 oa (fldA 4 a) fun m=>oa (ld1 h m) fun n=>oa (idxS 2 n e) fun o=>oa (ldN 2 h o) fun p=>ob (newVar h [.int .i64 0,.int .i64 0]) fun q r=>oh (stN 2 r q p) fun s=>oa (idxA 2 1 q (.int .i64 0)) fun t=>oa (ld1 s t) fun u=>oa (idxA 2 1 q (.int .i64 0)) fun v=>oa (ld1 s v) fun w=>oa (idxS 1 d w) fun x=>oa (ld1 s x) fun y=>oa (idxA 2 1 q (.int .i64 1)) fun z=>oa (ld1 s z) fun aa=>ob (buildSl 1 1 [.int .i64 0] [(0,1,aa)] s) fun ab ac=>ob (apnd 1 8 y ab ac) fun ad ae=>chk ((sameB (pure1 ae (ld1 ae t)) u && true)) <|oa (idxS 1 d u) fun af=>oh (stN 1 ae af ad) fun ag=>oa (binV .add .scalar e (.int .i64 1)) fun ai=>m4_ k j0 a b c d ai ag
 )
 (
 t3_ k b c d h
 ):=bkEq
theorem a2T:a0U k a b c h =
 oa (fldA 0 a) fun d=>oa (ld1 h d) fun e=>ob (mkSl [.nils] 1 24 e e h) fun f g=>m4_ k k a b c f (.int .i64 0) g:=bkEq
theorem y4_:h1_ k (j0+1) a b c d h =
 oa (lenS b) fun e=>oa (binV .lss .scalar d e) fun f=>cond2 f
 (
 oa (idxS 1 b d) fun g=>oa (ld1 h g) fun i=>cond2 i
 (
 ob (buildSl 1 1 [.int .i64 0] [(0,1,d)] h) fun l m=>ob (apnd 1 8 c l m) fun n o=>oa (binV .add .scalar d (.int .i64 1)) fun p=>h1_ k j0 a b n p o
 )
 (
 oa (binV .add .scalar d (.int .i64 1)) fun q=>h1_ k j0 a b c q h
 )
 )
 (
 a0U k a b c h
 ):=bkEq
theorem a3S:evalFn tab (k+1) b3_ [a,b] h =
 ob (newVar h (AV.cells a)) fun c d=>ob (buildSl 1 0 [] [] d) fun e f=>ob (apnd 1 1 e b f) fun g i=>h1_ k k c g .nils (.int .i64 0) i:=fnEq
def p6_:=bk tab tbl q6_ 0 [j0] [a,b,c] h k
theorem a0K:p6_ k (j0+1) a b c h =
 oa (lenS a) fun d=>oa (binV .lss .scalar c d) fun e=>cond2 e
 (
 oa (idxS 1 a c) fun f=>oa (ld1 h f) fun g=>oa (idxS 1 b c) fun i=>oa (ld1 h i) fun l=>oa (binV .neq .bool g l) fun m=>cond2 m
 (
 some ((.bool false),h)
 )
 (
 oa (binV .add .scalar c (.int .i64 1)) fun n=>p6_ k j0 a b n h
 )
 )
 (
 some ((.bool true),h)
 ):=bkEq
theorem a4K:evalFn tab (k+1) q6_ [a,b] h =
 p6_ k k a b (.int .i64 0) h:=fnEq
def o2_:=bk tab tbl c6_ 0 [j0] [a,b,c,d,e] h k
def o3_:=bk tab tbl c6_ 1 [j0,j1] [a,b,c,d,e,f] h k
def v3_:=bk tab tbl c6_ 2 [j0] [a,b,c,d,e,f] h k
def v4_:=bk tab tbl c6_ 3 [j0] [a,b,c,d,e,f] h k
def a1d:=bk tab tbl c6_ 4 [j0] [a,b,c,d,e] h k
def a1e:=bk tab tbl c6_ 5 [] [a,b] h k
theorem a0m:a1d k j0 a b c d e h =
 oa (binV .add .scalar e (.int .i64 1)) fun f=>o2_ k j0 a b c d f h:=bkEq
theorem a0n:v4_ k j0 a b c d e f h =
 oa (idxS 1 c e) fun g=>oh (stN 1 h g f) fun i=>a1d k j0 a b c d e i:=bkEq
theorem a3i:v3_ k j0 a b c d e f h =
 oa (lenS d) fun g=>oa (binV .eql .scalar f g) fun i=>cond2 i
 (
 ob (buildSl 1 1 [.int .i64 0] [(0,1,e)] h) fun l m=>ob (apnd 1 8 d l m) fun n o=>v4_ k j0 a b c n e f o
 )
 (
 v4_ k j0 a b c d e f h
 ):=bkEq
theorem a0o:o3_ k j0 (j1+1) a b c d e f h =
 oa (lenS d) fun g=>oa (binV .lss .scalar f g) fun i=>ob (gd i true (pure1 h (ldN 2 h b)) h) fun l m=>ob (gd i true (some (a,m)) m) fun n o=>ob (gd i true (some (d,o)) o) fun p q=>ob (gd i true (some (f,q)) q) fun r s=>ob (gd i true (pure1 s (idxS 1 p r)) s) fun t u=>ob (gd i true (pure1 u (ld1 u t)) u) fun v w=>ob (gd i true (some (e,w)) w) fun x y=>ob (gd i true (evalFn tab k o8_ [l,n,v,x] y) y) fun z aa=>ob (gd i true (pure1 aa (unV .not z)) aa) fun ab ac=>oa (pickV i ab (.bool false)) fun ad=>cond2 ad
 (
 oa (binV .add .scalar f (.int .i64 1)) fun ae=>o3_ k j0 j1 a b c d e ae ac
 )
 (
 v3_ k j0 a b c d e f ac
 ):=bkEq
theorem a3j:a1e k a b h =
 oa (lenS b) fun c=>some (.tup [a,c],h):=bkEq
theorem a0p:o2_ k (j0+1) a b c d e h =
 oa (lenS a) fun f=>oa (binV .lss .scalar e f) fun g=>cond2 g
 (
 o3_ k j0 k a b c d e (.int .i64 0) h
 )
 (
 a1e k c d h
 ):=bkEq
theorem a4t:evalFn tab (k+1) c6_ [a,b] h =
 ob (newVar h (AV.cells a)) fun c d=>oa (lenS b) fun e=>ob (mkSl [.int .i64 0] 1 8 e e d) fun f g=>o2_ k k b c f .nils (.int .i64 0) g:=fnEq
theorem a5t:evalFn tab (k+1) u1_ [a] h =
 oa (nilCk a) fun b=>oa (fldA 0 b) fun c=>oa (ld1 h c) fun d=>oa (lenS d) fun e=>some (e,h):=fnEq
theorem a4L:evalFn tab (k+1) x5_ [a] h =
 ob (callMeth tab (evalFn tab k) "Len" a [] h) fun b c=>oa (binV .sub .scalar b (.int .i64 1)) fun d=>ob (callMeth tab (evalFn tab k) "Swap" a [(.int .i64 0),d] c) fun e f=>ob (evalFn tab k d3_ [a,(.int .i64 0),d] f) fun g i=>ob (callMeth tab (evalFn tab k) "Pop" a [] i) fun l m=>some (l,m):=fnEq
def q9_:=bk tab tbl m8_ 0 [j0] [a,b] h k
theorem a0V:q9_ k (j0+1) a b h =
 oa (binV .sub .scalar b (.int .i64 1)) fun c=>oa (binV .quo .scalar c (.int .i64 2)) fun d=>oa (binV .eql .scalar d b) fun e=>ob (gd e false (some (a,h)) h) fun f g=>ob (gd e false (some (b,g)) g) fun i l=>ob (gd e false (some (d,l)) l) fun m n=>ob (gd e false (callMeth tab (evalFn tab k) "Less" f [i,m] n) n) fun o p=>ob (gd e false (pure1 p (unV .not o)) p) fun q r=>oa (pickV e (.bool true) q) fun s=>cond2 s
 (
 some (.tup [],r)
 )
 (
 ob (callMeth tab (evalFn tab k) "Swap" a [d,b] r) fun t u=>q9_ k j0 a d u
 ):=bkEq
theorem a5c:evalFn tab (k+1) m8_ [a,b] h =
 q9_ k k a b h:=fnEq
def i3_:=bk tab tbl d3_ 0 [j0] [a,b,c,d] h k
def i4_:=bk tab tbl d3_ 1 [] [a,b] h k
def i5_:=bk tab tbl d3_ 2 [j0] [a,b,c,d,e] h k
theorem a0q:i4_ k a b h =
 oa (binV .gtr .scalar b a) fun c=>some (c,h):=bkEq
theorem a0r:i5_ k j0 a b c d e h =
 ob (callMeth tab (evalFn tab k) "Less" a [e,d] h) fun f g=>oa (unV .not f) fun i=>cond2 i
 (
 i4_ k b d g
 )
 (
 ob (callMeth tab (evalFn tab k) "Swap" a [d,e] g) fun l m=>i3_ k j0 a b c e m
 ):=bkEq
theorem r0_:i3_ k (j0+1) a b c d h =
 oa (binV .mul .scalar (.int .i64 2) d) fun e=>oa (binV .add .scalar e (.int .i64 1)) fun f=>oa (binV .geq .scalar f c) fun g=>ob (gd g false (some (f,h)) h) fun i l=>ob (gd g false (pure1 l (binV .lss .scalar i (.int .i64 0))) l) fun m n=>oa (pickV g (.bool true) m) fun o=>cond2 o
 (
 i4_ k b d n
 )
 (
 oa (binV .add .scalar f (.int .i64 1)) fun p=>oa (binV .lss .scalar p c) fun q=>ob (gd q true (some (a,n)) n) fun r s=>ob (gd q true (some (p,s)) s) fun t u=>ob (gd q true (some (f,u)) u) fun v w=>ob (gd q true (callMeth tab (evalFn tab k) "Less" r [t,v] w) w) fun x y=>oa (pickV q x (.bool false)) fun z=>cond2 z
 (
 i5_ k j0 a b c d p y
 )
 (
 i5_ k j0 a b c d f y
 )
 ):=bkEq
theorem a1f:evalFn tab (k+1) d3_ [a,b,c] h =
 i3_ k k a b c b h:=fnEq
end
end Go.Gm.AQ
