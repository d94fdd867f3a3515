/- A part of the proof (GmAQe3, GmAQe4, GmAQe5, GmAQe6, GmAQe7, GmAQT, GmAQP). -/
import Derived.Test.YtldnkafmanalmaaProductMoreP2
set_option linter.unusedVariables false
set_option linter.unusedSimpArgs false
set_option linter.unusedSectionVars false
namespace Go.Gm.AQ
open Go Go.Gm
noncomputable section
variable (k j0 j1 j2 j3:Nat) (a b c d e f g i l m:AV) (h:Heap)
def m0_:=bk tab tbl d6_ 0 [j0] [a,b,c,d,e] h k
def s6_:=bk tab tbl d6_ 1 [] [a,b,c] h k
def m1_:=bk tab tbl d6_ 2 [j0] [a,b,c,d,e] h k
theorem x0_:m1_ k (j0+1) a b c d e h =
 oa (binV .lss .scalar e d) fun f=>cond2 f
 (
 oa (idxS 2 c e) fun g=>oa (ldN 2 h g) fun i=>ob (newVar h [.int .i64 0,.int .i64 0]) fun l m=>oh (stN 2 m l i) fun n=>oa (nilCk b) fun o=>oa (fldA 2 o) fun p=>oa (ld1 n p) fun q=>oa (ldN 2 n l) fun r=>ob (evalFn tab k m5_ [a,r] n) fun s t=>chk ((sameB (pure1 t (ld1 t p)) q && true)) <|ob (evalFn tab k o0_ [q,s,(.int .i64 0)] t) fun u v=>oa (binV .add .scalar e (.int .i64 1)) fun w=>m1_ k j0 a b c d w v
 )
 (
 some (b,h)
 ):=bkEq
theorem a2b:s6_ k a b c h =
 oa (lenS b) fun d=>m1_ k k a c b d (.int .i64 0) h:=bkEq
theorem x1_:m0_ k (j0+1) a b c d e h =
 oa (binV .lss .scalar e d) fun f=>cond2 f
 (
 oa (nilCk c) fun g=>oa (fldA 3 g) fun i=>oa (ld1 h i) fun l=>oa (nilCk c) fun m=>oa (fldA 4 m) fun n=>oa (ld1 h n) fun o=>oa (nilCk c) fun p=>oa (fldA 5 p) fun q=>oa (ld1 h q) fun r=>oa (idxS 1 l e) fun s=>oh (stN 1 h s (.int .i64 (-1))) fun t=>oa (idxS 1 o e) fun u=>oh (stN 1 t u (.int .i64 (-1))) fun v=>oa (idxS 1 r e) fun w=>oh (stN 1 v w (.int .i64 (-1))) fun x=>oa (binV .add .scalar e (.int .i64 1)) fun y=>m0_ k j0 a b c d y x
 )
 (
 s6_ k a b c h
 ):=bkEq
theorem a3k:evalFn tab (k+1) d6_ [a,b,c] h =
 oa (nilCk a) fun d=>oa (fldA 0 d) fun e=>oa (fldA 0 e) fun f=>oa (ld1 h f) fun g=>oa (mmV true g (.int .i64 0)) fun i=>oa (nilCk a) fun l=>oa (fldA 3 l) fun m=>oa (fldA 0 m) fun n=>oa (ld1 h n) fun o=>oa (lenS o) fun p=>oa (binV .mul .scalar i p) fun q=>ob (mkSl [.int .i64 0] 1 8 q q h) fun r s=>ob (mkSl [.int .i64 0] 1 8 q q s) fun t u=>ob (mkSl [.int .i64 0] 1 8 q q u) fun v w=>ob (evalFn tab k a1y [q] w) fun x y=>oa (buildV [.nilp,.nilfn,.nilp,.nils,.nils,.nils,.int .i64 0] [(0,1,a),(1,1,b),(2,1,x),(3,1,r),(4,1,t),(5,1,v)]) fun z=>ob (newVar y (AV.cells z)) fun aa ab=>oa (nilCk aa) fun ac=>oa (fldA 3 ac) fun ad=>oa (ld1 ab ad) fun ae=>oa (lenS ae) fun af=>m0_ k k a c aa af (.int .i64 0) ab:=fnEq
def q9_:=bk tab tbl i4_ 0 [j0] [a,b,c,d,e,f] h k
theorem a0n:q9_ k (j0+1) a b c d e f h =
 oa (binV .lss .scalar f e) fun g=>cond2 g
 (
 oa (idxS 1 d f) fun i=>oa (ld1 h i) fun l=>oa (nilCk a) fun m=>oa (fldA 0 m) fun n=>oa (fldA 1 n) fun o=>oa (ld1 h o) fun p=>oa (idxS 4 p l) fun q=>oa (ldN 4 h q) fun r=>ob (newVar h [.int .i64 0,.int .i64 0,.int .i64 0,.int .i64 0]) fun s t=>oh (stN 4 t s r) fun u=>oa (fldA 1 s) fun v=>oa (ld1 u v) fun w=>oa (nilCk a) fun x=>oa (fldA 3 x) fun y=>oa (fldA 0 y) fun z=>oa (ld1 u z) fun aa=>oa (fldA 1 b) fun ab=>oa (ld1 u ab) fun ac=>oa (fldA 2 s) fun ad=>oa (ld1 u ad) fun ae=>oa (idxS 5 aa ac) fun af=>oa (idxA 5 1 af ae) fun ag=>oa (ld1 u ag) fun ai=>oa (buildV [.int .i64 0,.int .i64 0] [(0,1,w),(1,1,ai)]) fun al=>oa (buildV [.int .i64 0,.int .i64 0,.int .i64 0] [(0,2,al),(2,1,l)]) fun am=>ob (buildSl 3 1 [.int .i64 0,.int .i64 0,.int .i64 0] [(0,3,am)] u) fun an ao=>ob (apnd 3 24 c an ao) fun ap aq=>oa (binV .add .scalar f (.int .i64 1)) fun ar=>q9_ k j0 a b ap d e ar aq
 )
 (
 some (c,h)
 ):=bkEq
theorem a4e:evalFn tab (k+1) i4_ [a,b] h =
 ob (newVar h (AV.cells b)) fun c d=>oa (nilCk a) fun e=>oa (fldA 2 e) fun f=>oa (ld1 d f) fun g=>oa (fldA 0 c) fun i=>oa (ld1 d i) fun l=>ob (evalFn tab k a1P [g,l] d) fun m n=>oa (lenS m) fun o=>q9_ k k a c .nils m o (.int .i64 0) n:=fnEq
def n5_:=bk tab tbl g0_ 0 [j0] [a] h k
theorem z1_:n5_ k (j0+1) a h =
 ob (evalFn tab k e6_ [a] h) fun b c=>oa (extr 0 b) fun d=>oa (extr 1 b) fun e=>oa (unV .not e) fun f=>cond2 f
 (
 some (.tup [],c)
 )
 (
 n5_ k j0 a c
 ):=bkEq
theorem a3z:evalFn tab (k+1) g0_ [a] h =
 n5_ k k a h:=fnEq
def h5_:=bk tab tbl i5_ 0 [j0] [a,b,c,d,e,f] h k
theorem x2_:h5_ k (j0+1) a b c d e f h =
 oa (binV .lss .scalar f e) fun g=>cond2 g
 (
 oa (idxS 1 d f) fun i=>oa (ld1 h i) fun l=>oa (nilCk a) fun m=>oa (fldA 0 m) fun n=>oa (ld1 h n) fun o=>oa (buildV [.int .i64 0,.int .i64 0] [(0,1,b),(1,1,f)]) fun p=>ob (evalFn tab k m5_ [o,p] h) fun q r=>ob (gd l true (some (a,r)) r) fun s t=>ob (gd l true (pure1 t (nilCk s)) t) fun u v=>ob (gd l true (pure1 v (fldA 3 u)) v) fun w x=>ob (gd l true (pure1 x (ld1 x w)) x) fun y z=>ob (gd l true (some (q,z)) z) fun aa ab=>ob (gd l true (pure1 ab (idxS 1 y aa)) ab) fun ac ad=>ob (gd l true (pure1 ad (ld1 ad ac)) ad) fun ae af=>ob (gd l true (pure1 af (binV .geq .scalar ae (.int .i64 0))) af) fun ag ai=>oa (pickV l ag (.bool false)) fun al=>ob (gd al true (some (c,ai)) ai) fun am an=>ob (gd al true (pure1 an (binV .lss .scalar am (.int .i64 0))) an) fun ao ap=>ob (gd al true (some (ao,ap)) ap) fun aq ar=>ob (gd aq false (some (a,ar)) ar) fun au av=>ob (gd aq false (pure1 av (nilCk au)) av) fun aw ax=>ob (gd aq false (pure1 ax (fldA 3 aw)) ax) fun ay az=>ob (gd aq false (pure1 az (ld1 az ay)) az) fun a0 a1=>ob (gd aq false (some (q,a1)) a1) fun a2 a3=>ob (gd aq false (pure1 a3 (idxS 1 a0 a2)) a3) fun a4 a5=>ob (gd aq false (pure1 a5 (ld1 a5 a4)) a5) fun a6 a7=>ob (gd aq false (some (a,a7)) a7) fun a8 a9=>ob (gd aq false (pure1 a9 (nilCk a8)) a9) fun ba bb=>ob (gd aq false (pure1 bb (fldA 3 ba)) bb) fun bc bd=>ob (gd aq false (pure1 bd (ld1 bd bc)) bd) fun be bf=>ob (gd aq false (some (c,bf)) bf) fun bg bi=>ob (gd aq false (pure1 bi (idxS 1 be bg)) bi) fun bl bm=>ob (gd aq false (pure1 bm (ld1 bm bl)) bm) fun bn bo=>ob (gd aq false (pure1 bo (binV .lss .scalar a6 bn)) bo) fun bp bq=>ob (gd al true (pure1 bq (pickV aq (.bool true) bp)) bq) fun br bs=>oa (pickV al br (.bool false)) fun bt=>cond2 bt
 (
 oa (binV .add .scalar f (.int .i64 1)) fun bu=>h5_ k j0 a b q d e bu bs
 )
 (
 oa (binV .add .scalar f (.int .i64 1)) fun bv=>h5_ k j0 a b c d e bv bs
 )
 )
 (
 some (c,h)
 ):=bkEq
theorem a3l:evalFn tab (k+1) i5_ [a,b] h =
 oa (nilCk a) fun c=>oa (fldA 0 c) fun d=>oa (ld1 h d) fun e=>oa (nilCk e) fun f=>oa (fldA 3 f) fun g=>oa (fldA 1 g) fun i=>oa (ld1 h i) fun l=>oa (lenS l) fun m=>h5_ k k a b (.int .i64 (-1)) l m (.int .i64 0) h:=fnEq
def i9_:=bk tab tbl b0_ 0 [] [a,b,c,d] h k
def e4_:=bk tab tbl b0_ 1 [] [a,b,c,d] h k
def e5_:=bk tab tbl b0_ 2 [] [a,b,c,d] h k
def j0_:=bk tab tbl b0_ 3 [j0] [a,b,c,d] h k
def b5_:=bk tab tbl b0_ 4 [] [a,b,c,d] h k
def j1_:=bk tab tbl b0_ 5 [j0] [a,b,c,d] h k
def o8_:=bk tab tbl b0_ 6 [] [a,b] h k
theorem t9_:j0_ k (j0+1) a b c d h =
 oa (binV .lss .scalar d (.int .i64 2)) fun e=>ob (gd e false (some (d,h)) h) fun f g=>ob (gd e false (pure1 g (fldA 2 a)) g) fun i l=>ob (gd e false (pure1 l (ld1 l i)) l) fun m n=>ob (gd e false (pure1 n (lenS m)) n) fun o p=>ob (gd e false (pure1 p (binV .lss .scalar f o)) p) fun q r=>ob (gd e false (some (q,r)) r) fun s t=>ob (gd s true (some (d,t)) t) fun u v=>ob (gd s true (pure1 v (binV .lss .scalar u (.int .i64 4))) v) fun w x=>ob (gd e false (pure1 x (pickV s w (.bool false))) x) fun y z=>oa (pickV e (.bool true) y) fun aa=>cond2 aa
 (
 oa (fldA 4 c) fun ab=>oa (ld1 z ab) fun ac=>oa (ldN 3 z a) fun ad=>ob (evalFn tab k c1_ [ad,d] z) fun ae af=>chk ((sameB (pure1 af (ld1 af ab)) ac && true)) <|ob (buildSl 5 1 [.int .i64 0,.int .i64 0,.int .i64 0,.int .i64 0,.nils] [(0,5,ae)] af) fun ag ai=>ob (apnd 5 56 ac ag ai) fun al am=>oa (fldA 4 c) fun an=>oh (stN 1 am an al) fun ao=>oa (binV .add .scalar d (.int .i64 1)) fun ap=>j0_ k j0 a b c ap ao
 )
 (
 oa (ldN 5 z c) fun aq=>oh (stN 5 z b aq) fun ar=>oa (ldN 5 ar b) fun au=>some (au,ar)
 ):=bkEq
theorem u0_:j1_ k (j0+1) a b c d h =
 oa (binV .lss .scalar d (.int .i64 2)) fun e=>ob (gd e false (some (d,h)) h) fun f g=>ob (gd e false (pure1 g (fldA 2 a)) g) fun i l=>ob (gd e false (pure1 l (ld1 l i)) l) fun m n=>ob (gd e false (pure1 n (lenS m)) n) fun o p=>ob (gd e false (pure1 p (binV .lss .scalar f o)) p) fun q r=>ob (gd e false (some (q,r)) r) fun s t=>ob (gd s true (some (d,t)) t) fun u v=>ob (gd s true (pure1 v (binV .lss .scalar u (.int .i64 4))) v) fun w x=>ob (gd e false (pure1 x (pickV s w (.bool false))) x) fun y z=>oa (pickV e (.bool true) y) fun aa=>cond2 aa
 (
 oa (fldA 4 c) fun ab=>oa (ld1 z ab) fun ac=>oa (ldN 3 z a) fun ad=>ob (evalFn tab k c1_ [ad,d] z) fun ae af=>chk ((sameB (pure1 af (ld1 af ab)) ac && true)) <|ob (buildSl 5 1 [.int .i64 0,.int .i64 0,.int .i64 0,.int .i64 0,.nils] [(0,5,ae)] af) fun ag ai=>ob (apnd 5 56 ac ag ai) fun al am=>oa (fldA 4 c) fun an=>oh (stN 1 am an al) fun ao=>oa (binV .add .scalar d (.int .i64 1)) fun ap=>j1_ k j0 a b c ap ao
 )
 (
 oa (ldN 5 z c) fun aq=>oh (stN 5 z b aq) fun ar=>oa (ldN 5 ar b) fun au=>some (au,ar)
 ):=bkEq
theorem a1o:o8_ k a b h =
 oa (fldA 1 a) fun c=>oa (ld1 h c) fun d=>ob (evalFn tab k b9_ [d,(.int .i64 4)] h) fun e f=>oa (fldA 1 a) fun g=>oa (ld1 f g) fun i=>oa (binV .quo .scalar i (.int .i64 4)) fun l=>oa (ldN 3 f a) fun m=>ob (evalFn tab k b9_ [l,(.int .i64 3)] f) fun n o=>chk ((sameB (pure1 o (ldN 3 o a)) m && true)) <|oa (binV .add .scalar e n) fun p=>ob (evalFn tab k c1_ [m,(.int .i64 0)] o) fun q r=>ob (buildSl 5 1 [.int .i64 0,.int .i64 0,.int .i64 0,.int .i64 0,.nils] [(0,5,q)] r) fun s t=>oa (buildV [.int .i64 0,.int .i64 0,.int .i64 0,.int .i64 0,.nils] [(0,1,(.int .i64 9)),(2,1,e),(3,1,p),(4,1,s)]) fun u=>oh (stN 5 t b u) fun v=>oa (ldN 5 v b) fun w=>some (w,v):=bkEq
theorem d8_:b5_ k a b c d h =
 cond2 d
 (
 oa (buildV [.int .i64 0,.int .i64 0,.int .i64 0,.int .i64 0,.nils] [(0,1,(.int .i64 5))]) fun e=>ob (newVar h [.int .i64 0,.int .i64 0,.int .i64 0,.int .i64 0,.nils]) fun f g=>oh (stN 5 g f e) fun i=>j1_ k k a b f (.int .i64 0) i
 )
 (
 oa (binV .eql .scalar c (.int .i64 10)) fun l=>cond2 l
 (
 oa (ldN 3 h a) fun m=>ob (evalFn tab k c1_ [m,(.int .i64 0)] h) fun n o=>ob (buildSl 5 1 [.int .i64 0,.int .i64 0,.int .i64 0,.int .i64 0,.nils] [(0,5,n)] o) fun p q=>oa (buildV [.int .i64 0,.int .i64 0,.int .i64 0,.int .i64 0,.nils] [(0,1,(.int .i64 6)),(4,1,p)]) fun r=>oh (stN 5 q b r) fun s=>oa (ldN 5 s b) fun t=>some (t,s)
 )
 (
 oa (binV .eql .scalar c (.int .i64 11)) fun u=>cond2 u
 (
 oa (ldN 3 h a) fun v=>ob (evalFn tab k c1_ [v,(.int .i64 0)] h) fun w x=>ob (buildSl 5 1 [.int .i64 0,.int .i64 0,.int .i64 0,.int .i64 0,.nils] [(0,5,w)] x) fun y z=>oa (buildV [.int .i64 0,.int .i64 0,.int .i64 0,.int .i64 0,.nils] [(0,1,(.int .i64 7)),(4,1,y)]) fun aa=>oh (stN 5 z b aa) fun ab=>oa (ldN 5 ab b) fun ac=>some (ac,ab)
 )
 (
 oa (binV .eql .scalar c (.int .i64 12)) fun ad=>cond2 ad
 (
 oa (ldN 3 h a) fun ae=>ob (evalFn tab k c1_ [ae,(.int .i64 0)] h) fun af ag=>ob (buildSl 5 1 [.int .i64 0,.int .i64 0,.int .i64 0,.int .i64 0,.nils] [(0,5,af)] ag) fun ai al=>oa (buildV [.int .i64 0,.int .i64 0,.int .i64 0,.int .i64 0,.nils] [(0,1,(.int .i64 8)),(4,1,ai)]) fun am=>oh (stN 5 al b am) fun an=>oa (ldN 5 an b) fun ao=>some (ao,an)
 )
 (
 o8_ k a b h
 )
 )
 )
 ):=bkEq
theorem b7_:e5_ k a b c d h =
 cond2 d
 (
 oa (buildV [.int .i64 0,.int .i64 0,.int .i64 0,.int .i64 0,.nils] [(0,1,(.int .i64 4))]) fun e=>ob (newVar h [.int .i64 0,.int .i64 0,.int .i64 0,.int .i64 0,.nils]) fun f g=>oh (stN 5 g f e) fun i=>j0_ k k a b f (.int .i64 0) i
 )
 (
 oa (binV .eql .scalar c (.int .i64 8)) fun l=>cond2 l
 (
 b5_ k a b c l h
 )
 (
 oa (binV .eql .scalar c (.int .i64 9)) fun m=>b5_ k a b c m h
 )
 ):=bkEq
theorem a5_:e4_ k a b c d h =
 cond2 d
 (
 oa (fldA 1 a) fun e=>oa (ld1 h e) fun f=>ob (evalFn tab k b9_ [f,(.int .i64 5)] h) fun g i=>oa (convV .u64 g) fun l=>oa (binV .shl .scalar (.int .i64 1) l) fun m=>oa (buildV [.int .i64 0,.int .i64 0,.int .i64 0,.int .i64 0,.nils] [(0,1,(.int .i64 1)),(1,1,m)]) fun n=>oh (stN 5 i b n) fun o=>oa (ldN 5 o b) fun p=>some (p,o)
 )
 (
 oa (binV .eql .scalar c (.int .i64 4)) fun q=>cond2 q
 (
 ob (buildSl 1 3 [.int .i64 0,.int .i64 0,.int .i64 0] [(0,1,(.int .i64 2)),(1,1,(.int .i64 3)),(2,1,(.int .i64 3))] h) fun r s=>oa (fldA 1 a) fun t=>oa (ld1 s t) fun u=>ob (evalFn tab k b9_ [u,(.int .i64 3)] s) fun v w=>oa (idxS 1 r v) fun x=>oa (ld1 w x) fun y=>oa (buildV [.int .i64 0,.int .i64 0,.int .i64 0,.int .i64 0,.nils] [(0,1,y)]) fun z=>oh (stN 5 w b z) fun aa=>oa (ldN 5 aa b) fun ab=>some (ab,aa)
 )
 (
 oa (binV .eql .scalar c (.int .i64 5)) fun ac=>cond2 ac
 (
 e5_ k a b c ac h
 )
 (
 oa (binV .eql .scalar c (.int .i64 6)) fun ad=>cond2 ad
 (
 e5_ k a b c ad h
 )
 (
 oa (binV .eql .scalar c (.int .i64 7)) fun ae=>e5_ k a b c ae h
 )
 )
 )
 ):=bkEq
theorem a2_:i9_ k a b c d h =
 cond2 d
 (
 oa (fldA 1 a) fun e=>oa (ld1 h e) fun f=>ob (evalFn tab k b9_ [f,(.int .i64 31)] h) fun g i=>oa (binV .add .scalar (.int .i64 1) g) fun l=>oa (buildV [.int .i64 0,.int .i64 0,.int .i64 0,.int .i64 0,.nils] [(0,1,(.int .i64 1)),(1,1,l)]) fun m=>oh (stN 5 i b m) fun n=>oa (ldN 5 n b) fun o=>some (o,n)
 )
 (
 oa (binV .eql .scalar c (.int .i64 2)) fun p=>cond2 p
 (
 e4_ k a b c p h
 )
 (
 oa (binV .eql .scalar c (.int .i64 3)) fun q=>e4_ k a b c q h
 )
 ):=bkEq
theorem a2c:evalFn tab (k+1) b0_ [a] h =
 ob (newVar h (AV.cells a)) fun b c=>ob (newVar c [.int .i64 0,.int .i64 0,.int .i64 0,.int .i64 0,.nils]) fun d e=>oa (fldA 0 b) fun f=>oa (ld1 e f) fun g=>ob (evalFn tab k b9_ [g,(.int .i64 14)] e) fun i l=>oa (binV .eql .scalar i (.int .i64 0)) fun m=>cond2 m
 (
 i9_ k b d i m l
 )
 (
 oa (binV .eql .scalar i (.int .i64 1)) fun n=>i9_ k b d i n l
 ):=fnEq
def s7_:=bk tab tbl m9_ 0 [] [a,b,c] h k
theorem a2d:s7_ k a b c h =
 oa (nilCk b) fun d=>oa (fldA 3 d) fun e=>oa (ld1 h e) fun f=>oa (binV .neq .scalar f (.int .i64 0)) fun g=>cond2 g
 (
 oa (buildV [.int .i64 0,.int .i64 0,.int .i64 0,.int .i64 0,.nils] []) fun i=>oa (nilCk b) fun l=>oa (fldA 1 l) fun m=>oa (ld1 h m) fun n=>oa (nilCk b) fun o=>oa (fldA 3 o) fun p=>oa (ld1 h p) fun q=>oh (stN 5 h a i) fun r=>chk ((sameB (pure1 r (ld1 r m)) n && (sameB (pure1 r (ld1 r p)) q && true))) <|oa (ldN 5 r a) fun s=>some (.tup [s,n,q],r)
 )
 (
 oa (ldN 5 h c) fun t=>oh (stN 5 h a t) fun u=>oa (ldN 5 u a) fun v=>some (.tup [v,(.int .i64 0),(.int .i64 0)],u)
 ):=bkEq
theorem a3m:evalFn tab (k+1) m9_ [a] h =
 ob (newVar h [.int .i64 0,.int .i64 0,.int .i64 0,.int .i64 0,.nils]) fun b c=>oa (lenB a) fun d=>oa (binV .gtr .scalar d (.int .i64 200)) fun e=>cond2 e
 (
 oa (buildV [.int .i64 0,.int .i64 0,.int .i64 0,.int .i64 0,.nils] []) fun f=>oh (stN 5 c b f) fun g=>oa (ldN 5 g b) fun i=>some (.tup [i,(.int .i64 0),(.int .i64 4)],g)
 )
 (
 oa (buildV [.str ⟨#[]⟩,.int .i64 0,.int .i64 0,.int .i64 0] [(0,1,a)]) fun l=>ob (newVar c (AV.cells l)) fun m n=>ob (evalFn tab k c5_ [m] n) fun o p=>ob (newVar p [.int .i64 0,.int .i64 0,.int .i64 0,.int .i64 0,.nils]) fun q r=>oh (stN 5 r q o) fun s=>oa (nilCk m) fun t=>oa (fldA 3 t) fun u=>oa (ld1 s u) fun v=>oa (binV .eql .scalar v (.int .i64 0)) fun w=>ob (gd w true (some (m,s)) s) fun x y=>ob (gd w true (pure1 y (nilCk x)) y) fun z aa=>ob (gd w true (pure1 aa (fldA 1 z)) aa) fun ab ac=>ob (gd w true (pure1 ac (ld1 ac ab)) ac) fun ad ae=>ob (gd w true (some (a,ae)) ae) fun af ag=>ob (gd w true (pure1 ag (lenB af)) ag) fun ai al=>ob (gd w true (pure1 al (binV .lss .scalar ad ai)) al) fun am an=>oa (pickV w am (.bool false)) fun ao=>cond2 ao
 (
 ob (evalFn tab k a9_ [m,(.int .i64 3)] an) fun ap aq=>s7_ k b m q aq
 )
 (
 s7_ k b m q an
 )
 ):=fnEq
theorem a3n:evalFn tab (k+1) t6_ [a] h =
 ob (newVar h (AV.cells a)) fun b c=>ob (newVar c [.int .i64 0,.int .i64 0,.int .i64 0,.nils,.nils]) fun d e=>oa (buildV [.int .i64 0,.int .i64 0,.int .i64 0,.nils,.nils,.bool false] []) fun f=>ob (newVar e (AV.cells f)) fun g i=>oa (ldN 5 i b) fun l=>ob (evalFn tab k a8_ [g,l] i) fun m n=>oa (extr 0 m) fun o=>oa (extr 1 m) fun p=>oa (nilCk g) fun q=>oa (fldA 5 q) fun r=>oa (ld1 n r) fun s=>cond2 s
 (
 oa (buildV [.int .i64 0,.int .i64 0,.int .i64 0,.nils,.nils] []) fun t=>oh (stN 5 n d t) fun u=>oa (ldN 5 u d) fun v=>some (.tup [v,(.int .i64 4)],u)
 )
 (
 oa (nilCk g) fun w=>oa (fldA 0 w) fun x=>oa (fldA 1 x) fun y=>oh (stN 1 n y o) fun z=>oa (nilCk g) fun aa=>oa (fldA 0 aa) fun ab=>oa (fldA 2 ab) fun ac=>oh (stN 1 z ac p) fun ad=>oa (nilCk g) fun ae=>oa (fldA 0 ae) fun af=>oa (ldN 5 ad af) fun ag=>oh (stN 5 ad d ag) fun ai=>oa (ldN 5 ai d) fun al=>some (.tup [al,(.int .i64 0)],ai)
 ):=fnEq
def k0_:=bk tab tbl b4_ 0 [j0] [a,b,c,d,e,f] h k
def k1_:=bk tab tbl b4_ 1 [j0,j1] [a,b,c,d,e,f,g,i] h k
def k2_:=bk tab tbl b4_ 2 [j0,j1] [a,b,c,d,e,f,g,i,l] h k
def p8_:=bk tab tbl b4_ 3 [j0] [a,b,c,d,e,f,g] h k
def z2_:=bk tab tbl b4_ 4 [j0] [a,b,c,d,e,f] h k
def p9_:=bk tab tbl b4_ 5 [] [a,b] h k
theorem a1D:k2_ k j0 j1 a b c d e f g i l h =
 oa (idxA 5 1 g i) fun m=>oh (stN 1 h m l) fun n=>oa (binV .add .scalar i (.int .i64 1)) fun o=>k1_ k j0 j1 a b c d e f g o n:=bkEq
theorem a1E:z2_ k j0 a b c d e f h =
 oa (binV .add .scalar f (.int .i64 1)) fun g=>k0_ k j0 a b c d e g h:=bkEq
theorem a1F:p8_ k j0 a b c d e f g h =
 oa (fldA 0 e) fun i=>oa (ld1 h i) fun l=>oa (ldN 5 h g) fun m=>ob (buildSl 5 1 [.int .i64 0,.int .i64 0,.int .i64 0,.int .i64 0,.int .i64 0] [(0,5,m)] h) fun n o=>ob (apnd 5 40 l n o) fun p q=>oa (fldA 0 e) fun r=>oh (stN 1 q r p) fun s=>oa (fldA 1 e) fun t=>oa (ld1 s t) fun u=>oa (idxS 1 d f) fun v=>oa (ld1 s v) fun w=>oa (fldA 2 b) fun x=>oa (ld1 s x) fun y=>oa (idxS 1 w y) fun z=>oa (ld1 s z) fun aa=>ob (buildSl 1 1 [.bool false] [(0,1,aa)] s) fun ab ac=>ob (apnd 1 1 u ab ac) fun ad ae=>oa (fldA 1 e) fun af=>oh (stN 1 ae af ad) fun ag=>z2_ k j0 a b c d e f ag:=bkEq
theorem u5_:k1_ k j0 (j1+1) a b c d e f g i h =
 oa (binV .lss .scalar i (.int .i64 5)) fun l=>cond2 l
 (
 oa (ldN 5 h b) fun m=>oa (idxS 1 d f) fun n=>oa (ld1 h n) fun o=>ob (evalFn tab k j9_ [m,o,i] h) fun p q=>ob (evalFn tab k o5_ [d,p] q) fun r s=>oa (binV .lss .scalar r (.int .i64 0)) fun t=>cond2 t
 (
 oa (lenS d) fun u=>oa (binV .geq .scalar u a) fun v=>cond2 v
 (
 oa (buildV [.nils,.nils] []) fun w=>oh (stN 2 s c w) fun x=>oa (ldN 2 x c) fun y=>some (.tup [y,(.int .i64 5)],x)
 )
 (
 ob (buildSl 1 1 [.nils] [(0,1,p)] s) fun z aa=>ob (apnd 1 24 d z aa) fun ab ac=>k2_ k j0 j1 a b c ab e f g i u ac
 )
 )
 (
 k2_ k j0 j1 a b c d e f g i r s
 )
 )
 (
 p8_ k j0 a b c d e f g h
 ):=bkEq
theorem a1G:p9_ k a b h =
 oa (ldN 2 h b) fun c=>oh (stN 2 h a c) fun d=>oa (ldN 2 d a) fun e=>some (.tup [e,(.int .i64 0)],d):=bkEq
theorem a1H:k0_ k (j0+1) a b c d e f h =
 oa (lenS d) fun g=>oa (binV .lss .scalar f g) fun i=>cond2 i
 (
 ob (newVar h [.int .i64 0,.int .i64 0,.int .i64 0,.int .i64 0,.int .i64 0]) fun l m=>k1_ k j0 k a b c d e f l (.int .i64 0) m
 )
 (
 p9_ k c e h
 ):=bkEq
theorem a2x:evalFn tab (k+1) b4_ [a,b] h =
 ob (newVar h (AV.cells a)) fun c d=>ob (newVar d [.nils,.nils]) fun e f=>oa (ldN 5 f c) fun g=>ob (evalFn tab k t7_ [g] f) fun i l=>ob (buildSl 1 1 [.nils] [(0,1,i)] l) fun m n=>ob (newVar n [.nils,.nils]) fun o p=>k0_ k k b c e m o (.int .i64 0) p:=fnEq
def j2_:=bk tab tbl c0_ 0 [j0] [a,b,c,d,e,f,g] h k
def j3_:=bk tab tbl c0_ 1 [j0,j1] [a,b,c,d,e,f,g,i,l] h k
def j4_:=bk tab tbl c0_ 2 [j0,j1] [a,b,c,d,e,f,g,i,l,m] h k
def o9_:=bk tab tbl c0_ 3 [j0] [a,b,c,d,e,f,g,i] h k
def x3_:=bk tab tbl c0_ 4 [j0] [a,b,c,d,e,f,g] h k
theorem a1p:j4_ k j0 j1 a b c d e f g i l m h =
 oa (idxS 1 c m) fun n=>oa (ld1 h n) fun o=>oa (idxS 1 e o) fun p=>oa (ld1 h p) fun q=>oa (binV .sub .scalar q (.int .i64 1)) fun r=>oa (idxA 5 1 i l) fun s=>oh (stN 1 h s r) fun t=>oa (binV .add .scalar l (.int .i64 1)) fun u=>j3_ k j0 j1 a b c d e f g i u t:=bkEq
theorem a1q:x3_ k j0 a b c d e f g h =
 oa (binV .add .scalar g (.int .i64 1)) fun i=>j2_ k j0 a b c d e f i h:=bkEq
theorem a1r:o9_ k j0 a b c d e f g i h =
 oa (fldA 0 d) fun l=>oa (ld1 h l) fun m=>oa (ldN 5 h i) fun n=>ob (buildSl 5 1 [.int .i64 0,.int .i64 0,.int .i64 0,.int .i64 0,.int .i64 0] [(0,5,n)] h) fun o p=>ob (apnd 5 40 m o p) fun q r=>oa (fldA 0 d) fun s=>oh (stN 1 r s q) fun t=>oa (fldA 1 d) fun u=>oa (ld1 t u) fun v=>oa (fldA 1 a) fun w=>oa (ld1 t w) fun x=>oa (idxS 1 f g) fun y=>oa (ld1 t y) fun z=>oa (idxS 1 x z) fun aa=>oa (ld1 t aa) fun ab=>ob (buildSl 1 1 [.bool false] [(0,1,ab)] t) fun ac ad=>ob (apnd 1 1 v ac ad) fun ae af=>oa (fldA 1 d) fun ag=>oh (stN 1 af ag ae) fun ai=>x3_ k j0 a b c d e f g ai:=bkEq
theorem u1_:j3_ k j0 (j1+1) a b c d e f g i l h =
 oa (binV .lss .scalar l (.int .i64 5)) fun m=>cond2 m
 (
 oa (fldA 0 a) fun n=>oa (ld1 h n) fun o=>oa (idxS 1 f g) fun p=>oa (ld1 h p) fun q=>oa (idxS 5 o q) fun r=>oa (idxA 5 1 r l) fun s=>oa (ld1 h s) fun t=>oa (idxS 1 c t) fun u=>oa (ld1 h u) fun v=>oa (idxS 1 e v) fun w=>oa (ld1 h w) fun x=>oa (binV .eql .scalar x (.int .i64 0)) fun y=>cond2 y
 (
 ob (buildSl 1 1 [.int .i64 0] [(0,1,t)] h) fun z aa=>ob (apnd 1 8 f z aa) fun ab ac=>oa (idxS 1 c t) fun ad=>oa (ld1 ac ad) fun ae=>oa (lenS ab) fun af=>oa (idxS 1 e ae) fun ag=>oh (stN 1 ac ag af) fun ai=>j4_ k j0 j1 a b c d e ab g i l t ai
 )
 (
 j4_ k j0 j1 a b c d e f g i l t h
 )
 )
 (
 o9_ k j0 a b c d e f g i h
 ):=bkEq
theorem u2_:j2_ k (j0+1) a b c d e f g h =
 oa (lenS f) fun i=>oa (binV .lss .scalar g i) fun l=>cond2 l
 (
 ob (newVar h [.int .i64 0,.int .i64 0,.int .i64 0,.int .i64 0,.int .i64 0]) fun m n=>j3_ k j0 k a b c d e f g m (.int .i64 0) n
 )
 (
 oa (ldN 2 h d) fun o=>oh (stN 2 h b o) fun p=>oa (ldN 2 p b) fun q=>some (q,p)
 ):=bkEq
theorem a2e:evalFn tab (k+1) c0_ [a] h =
 ob (newVar h (AV.cells a)) fun b c=>ob (newVar c [.nils,.nils]) fun d e=>oa (ldN 2 e b) fun f=>ob (evalFn tab k e3_ [f] e) fun g i=>ob (newVar i [.nils,.nils]) fun l m=>oa (fldA 0 b) fun n=>oa (ld1 m n) fun o=>oa (lenS o) fun p=>ob (mkSl [.int .i64 0] 1 8 p p m) fun q r=>ob (buildSl 1 1 [.int .i64 0] [(0,1,(.int .i64 0))] r) fun s t=>oa (idxS 1 g (.int .i64 0)) fun u=>oa (ld1 t u) fun v=>oa (idxS 1 q v) fun w=>oh (stN 1 t w (.int .i64 1)) fun x=>j2_ k k b d g l q s (.int .i64 0) x:=fnEq
def k3_:=bk tab tbl l3_ 0 [j0] [a,b,c] h k
def v3_:=bk tab tbl l3_ 1 [] [a,b] h k
theorem a2M:v3_ k a b h =
 oa (binV .eql .scalar a (.int .i64 31)) fun c=>cond2 c
 (
 some ((.str ⟨#[46]⟩),h)
 )
 (
 oa (lenB b) fun d=>oa (binV .eql .scalar d (.int .i64 1)) fun e=>cond2 e
 (
 some (b,h)
 )
 (
 oa (binV .add .scalar (.str ⟨#[91]⟩) b) fun f=>oa (binV .add .scalar f (.str ⟨#[93]⟩)) fun g=>some (g,h)
 )
 ):=bkEq
theorem a0f:k3_ k (j0+1) a b c h =
 oa (binV .lss .scalar c (.int .i64 5)) fun d=>cond2 d
 (
 oa (convV .u64 c) fun e=>oa (binV .shr .scalar a e) fun f=>oa (binV .and .scalar f (.int .i64 1)) fun g=>oa (binV .eql .scalar g (.int .i64 1)) fun i=>cond2 i
 (
 oa (binV .add .scalar c (.int .i64 1)) fun l=>oa (slStr (.str ⟨#[119,98,99,102,116]⟩) (some c) (some l)) fun m=>oa (binV .add .scalar b m) fun n=>oa (binV .add .scalar c (.int .i64 1)) fun o=>k3_ k j0 a n o h
 )
 (
 oa (binV .add .scalar c (.int .i64 1)) fun p=>k3_ k j0 a b p h
 )
 )
 (
 v3_ k a b h
 ):=bkEq
theorem a3T:evalFn tab (k+1) l3_ [a] h =
 k3_ k k a (.str ⟨#[]⟩) (.int .i64 0) h:=fnEq
theorem a1Q:evalFn tab (k+1) o3_ [a,b] h =
 ob (newVar h (AV.cells b)) fun c d=>oa (ldN 5 d c) fun e=>ob (evalFn tab k b8_ [e] d) fun f g=>oa (fldA 0 c) fun i=>oa (ld1 g i) fun l=>oa (binV .eql .scalar l (.int .i64 5)) fun m=>ob (gd m false (pure1 g (fldA 0 c)) g) fun n o=>ob (gd m false (pure1 o (ld1 o n)) o) fun p q=>ob (gd m false (pure1 q (binV .eql .scalar p (.int .i64 4))) q) fun r s=>ob (gd m false (some (r,s)) s) fun t u=>ob (gd t true (some (a,u)) u) fun v w=>ob (gd t true (pure1 w (binV .neq .scalar v (.int .i64 5))) w) fun x y=>ob (gd m false (pure1 y (pickV t x (.bool false))) y) fun z aa=>oa (pickV m (.bool true) z) fun ab=>cond2 ab
 (
 oa (binV .add .scalar (.str ⟨#[40]⟩) f) fun ac=>oa (binV .add .scalar ac (.str ⟨#[41]⟩)) fun ad=>some (ad,aa)
 )
 (
 some (f,aa)
 ):=fnEq
end
end Go.Gm.AQ
namespace Go.Gm.AQ
open Go Go.Gm
noncomputable section
variable (k j0 j1 j2 j3:Nat) (a b c d e f g i l m:AV) (h:Heap)
def k8_:=bk tab tbl h4_ 0 [j0] [a,b,c] h k
def r4_:=bk tab tbl h4_ 1 [] [a] h k
theorem a1R:r4_ k a h =
 ob (evalFn tab k o4_ [a] h) fun b c=>ob (evalFn tab k s0_ [a] c) fun d e=>some (d,e):=bkEq
theorem a1S:k8_ k (j0+1) a b c h =
 oa (nilCk a) fun d=>oa (fldA 5 d) fun e=>oa (ld1 h e) fun f=>oa (idxS 1 f b) fun g=>oa (ld1 h g) fun i=>oa (binV .geq .scalar i (.int .i64 0)) fun l=>cond2 l
 (
 oa (nilCk a) fun m=>oa (fldA 4 m) fun n=>oa (ld1 h n) fun o=>oa (idxS 1 o b) fun p=>oa (ld1 h p) fun q=>ob (buildSl 1 1 [.int .i64 0] [(0,1,q)] h) fun r s=>ob (apnd 1 8 c r s) fun t u=>oa (nilCk a) fun v=>oa (fldA 5 v) fun w=>oa (ld1 u w) fun x=>oa (idxS 1 x b) fun y=>oa (ld1 u y) fun z=>k8_ k j0 a z t u
 )
 (
 r4_ k c h
 ):=bkEq
theorem a2N:evalFn tab (k+1) h4_ [a,b] h =
 k8_ k k a b .nils h:=fnEq
def h6_:=bk tab tbl e6_ 0 [j0] [a,b,c,d,e,f] h k
def a0o:=bk tab tbl e6_ 1 [] [a] h k
theorem a2f:a0o k a h =
 some (.tup [a,(.bool true)],h):=bkEq
theorem x4_:h6_ k (j0+1) a b c d e f h =
 oa (binV .lss .scalar f e) fun g=>cond2 g
 (
 oa (idxS 3 d f) fun i=>oa (ldN 3 h i) fun l=>ob (newVar h [.int .i64 0,.int .i64 0,.int .i64 0]) fun m n=>oh (stN 3 n m l) fun o=>oa (nilCk a) fun p=>oa (fldA 0 p) fun q=>oa (ld1 o q) fun r=>oa (fldA 0 m) fun s=>oa (ldN 2 o s) fun t=>ob (evalFn tab k m5_ [r,t] o) fun u v=>oa (nilCk a) fun w=>oa (fldA 3 w) fun x=>oa (ld1 v x) fun y=>oa (idxS 1 y u) fun z=>oa (ld1 v z) fun aa=>oa (binV .lss .scalar aa (.int .i64 0)) fun ab=>ob (gd ab true (some (a,v)) v) fun ac ad=>ob (gd ab true (pure1 ad (nilCk ac)) ad) fun ae af=>ob (gd ab true (pure1 af (fldA 2 ae)) af) fun ag ai=>ob (gd ab true (pure1 ai (ld1 ai ag)) ai) fun al am=>ob (gd ab true (some (u,am)) am) fun an ao=>ob (gd ab true (some (c,ao)) ao) fun ap aq=>ob (gd ab true (some (a,aq)) aq) fun ar au=>ob (gd ab true (pure1 au (nilCk ar)) au) fun av aw=>ob (gd ab true (pure1 aw (fldA 0 av)) aw) fun ax ay=>ob (gd ab true (pure1 ay (ld1 ay ax)) ay) fun az a0=>ob (gd ab true (pure1 a0 (nilCk az)) a0) fun a1 a2=>ob (gd ab true (pure1 a2 (fldA 0 a1)) a2) fun a3 a4=>ob (gd ab true (pure1 a4 (fldA 1 a3)) a4) fun a5 a6=>ob (gd ab true (pure1 a6 (ld1 a6 a5)) a6) fun a7 a8=>ob (gd ab true (pure1 a8 (fldA 2 m)) a8) fun a9 ba=>ob (gd ab true (pure1 ba (ld1 ba a9)) ba) fun bb bc=>ob (gd ab true (pure1 bc (idxS 4 a7 bb)) bc) fun bd be=>ob (gd ab true (pure1 be (fldA 3 bd)) be) fun bf bg=>ob (gd ab true (pure1 bg (ld1 bg bf)) bg) fun bi bl=>ob (gd ab true (pure1 bl (binV .add .scalar ap bi)) bl) fun bm bn=>ob (gd ab true (evalFn tab k o0_ [al,an,bm] bn) bn) fun bo bp=>oa (pickV ab bo (.bool false)) fun bq=>cond2 bq
 (
 oa (nilCk a) fun br=>oa (fldA 4 br) fun bs=>oa (ld1 bp bs) fun bt=>oa (nilCk a) fun bu=>oa (fldA 5 bu) fun bv=>oa (ld1 bp bv) fun bw=>oa (fldA 2 m) fun bx=>oa (ld1 bp bx) fun bz=>oa (idxS 1 bt u) fun b0=>oh (stN 1 bp b0 bz) fun b1=>oa (idxS 1 bw u) fun b2=>oh (stN 1 b1 b2 b) fun b3=>oa (binV .add .scalar f (.int .i64 1)) fun b4=>h6_ k j0 a b c d e b4 b3
 )
 (
 oa (binV .add .scalar f (.int .i64 1)) fun b5=>h6_ k j0 a b c d e b5 bp
 )
 )
 (
 a0o k b h
 ):=bkEq
theorem a3o:evalFn tab (k+1) e6_ [a] h =
 oa (nilCk a) fun b=>oa (fldA 2 b) fun c=>oa (ld1 h c) fun d=>ob (evalFn tab k t4_ [d] h) fun e f=>oa (extr 0 e) fun g=>oa (extr 1 e) fun i=>oa (extr 2 e) fun l=>oa (unV .not l) fun m=>cond2 m
 (
 some (.tup [(.int .i64 0),(.bool false)],f)
 )
 (
 oa (nilCk a) fun n=>oa (fldA 3 n) fun o=>oa (ld1 f o) fun p=>oa (idxS 1 p g) fun q=>oh (stN 1 f q i) fun r=>oa (nilCk a) fun s=>oa (fldA 6 s) fun t=>oh (stN 1 r t i) fun u=>oa (nilCk a) fun v=>oa (fldA 1 v) fun w=>oa (ld1 u w) fun x=>oa (nilCk a) fun y=>oa (fldA 0 y) fun z=>oa (ld1 u z) fun aa=>oa (nilCk a) fun ab=>oa (fldA 0 ab) fun ac=>oa (ld1 u ac) fun ad=>ob (evalFn tab k v0_ [ad,g] u) fun ae af=>chk ((sameB (pure1 af (ld1 af w)) x && (sameB (pure1 af (ld1 af z)) aa && true))) <|ob (callVal (evalFn tab k) x [aa,ae] af) fun ag ai=>oa (lenS ag) fun al=>h6_ k k a g i ag al (.int .i64 0) ai
 ):=fnEq
theorem a3A:evalFn tab (k+1) v0_ [a,b] h =
 ob (newVar h [.int .i64 0,.int .i64 0]) fun c d=>oa (nilCk a) fun e=>oa (fldA 3 e) fun f=>oa (fldA 0 f) fun g=>oa (ld1 d g) fun i=>oa (lenS i) fun l=>oa (binV .quo .scalar b l) fun m=>oa (nilCk a) fun n=>oa (fldA 3 n) fun o=>oa (fldA 0 o) fun p=>oa (ld1 d p) fun q=>oa (lenS q) fun r=>oa (binV .rem .scalar b r) fun s=>oa (buildV [.int .i64 0,.int .i64 0] [(0,1,m),(1,1,s)]) fun t=>oh (stN 2 d c t) fun u=>oa (ldN 2 u c) fun v=>some (v,u):=fnEq
theorem a4f:evalFn tab (k+1) m5_ [a,b] h =
 ob (newVar h (AV.cells b)) fun c d=>oa (fldA 0 c) fun e=>oa (ld1 d e) fun f=>oa (nilCk a) fun g=>oa (fldA 3 g) fun i=>oa (fldA 0 i) fun l=>oa (ld1 d l) fun m=>oa (lenS m) fun n=>oa (binV .mul .scalar f n) fun o=>oa (fldA 1 c) fun p=>oa (ld1 d p) fun q=>oa (binV .add .scalar o q) fun r=>some (r,d):=fnEq
def n6_:=bk tab tbl o4_ 0 [j0] [a,b,c] h k
theorem z3_:n6_ k (j0+1) a b c h =
 oa (binV .lss .scalar b c) fun d=>cond2 d
 (
 oa (idxS 1 a c) fun e=>oa (ld1 h e) fun f=>oa (idxS 1 a b) fun g=>oa (ld1 h g) fun i=>oa (idxS 1 a b) fun l=>oh (stN 1 h l f) fun m=>oa (idxS 1 a c) fun n=>oh (stN 1 m n i) fun o=>oa (binV .add .scalar b (.int .i64 1)) fun p=>oa (binV .sub .scalar c (.int .i64 1)) fun q=>n6_ k j0 a p q o
 )
 (
 some (.tup [],h)
 ):=bkEq
theorem a3B:evalFn tab (k+1) o4_ [a] h =
 oa (lenS a) fun b=>oa (binV .sub .scalar b (.int .i64 1)) fun c=>n6_ k k a (.int .i64 0) c h:=fnEq
theorem a4g:evalFn tab (k+1) s0_ [a] h =
 oa (binV .eql .slice a .nils) fun b=>cond2 b
 (
 some (.nils,h)
 )
 (
 ob (buildSl 1 0 [] [] h) fun c d=>ob (apnd 1 8 c a d) fun e f=>some (e,f)
 ):=fnEq
end
end Go.Gm.AQ
namespace Go.Gm.AQ
open Go Go.Gm
noncomputable section
variable (k j0 j1 j2 j3:Nat) (a b c d e f g i l m:AV) (h:Heap)
def a0T:=bk tab tbl a2Z 0 [j0] [a,b,c,d] h k
theorem a4d:a0T k (j0+1) a b c d h =
 oa (binV .lss .scalar d c) fun e=>cond2 e
 (
 oa (idxS 4 b d) fun f=>oa (ldN 4 h f) fun g=>ob (newVar h [.int .i64 0,.int .i64 0,.int .i64 0,.int .i64 0]) fun i l=>oh (stN 4 l i g) fun m=>oa (fldA 0 i) fun n=>oa (ld1 m n) fun o=>ob (evalFn tab k y6_ [a,o] m) fun p q=>ob (gd p true (some (a,q)) q) fun r s=>ob (gd p true (pure1 s (fldA 1 i)) s) fun t u=>ob (gd p true (pure1 u (ld1 u t)) u) fun v w=>ob (gd p true (evalFn tab k y6_ [r,v] w) w) fun x y=>oa (pickV p x (.bool false)) fun z=>cond2 z
 (
 oa (nilCk a) fun aa=>oa (fldA 2 aa) fun ab=>oa (ld1 y ab) fun ac=>oa (fldA 0 i) fun ad=>oa (ld1 y ad) fun ae=>oa (idxS 2 ac ae) fun af=>oa (fldA 1 i) fun ag=>oa (ld1 y ag) fun ai=>ob (evalFn tab k a0e [af,d,ai] y) fun al am=>oa (nilCk a) fun an=>oa (fldA 3 an) fun ao=>oa (ld1 am ao) fun ap=>oa (fldA 1 i) fun aq=>oa (ld1 am aq) fun ar=>oa (idxS 2 ap ar) fun au=>oa (fldA 0 i) fun av=>oa (ld1 am av) fun aw=>ob (evalFn tab k a0e [au,d,aw] am) fun ax ay=>oa (binV .add .scalar d (.int .i64 1)) fun az=>a0T k j0 a b c az ay
 )
 (
 oa (binV .add .scalar d (.int .i64 1)) fun a0=>a0T k j0 a b c a0 y
 )
 )
 (
 some (a,h)
 ):=bkEq
theorem a8Z:evalFn tab (k+1) a2Z [a] h =
 ob (newVar h (AV.cells a)) fun b c=>oa (fldA 0 b) fun d=>oa (ld1 c d) fun e=>oa (mmV true e (.int .i64 0)) fun f=>ob (mkSl [.nils,.nils] 2 48 f f c) fun g i=>oa (fldA 0 b) fun l=>oa (ld1 i l) fun m=>oa (mmV true m (.int .i64 0)) fun n=>ob (mkSl [.nils,.nils] 2 48 n n i) fun o p=>oa (buildV [.int .i64 0,.nils,.nils,.nils] [(2,1,g),(3,1,o)]) fun q=>ob (newVar p (AV.cells q)) fun r s=>oa (fldA 0 b) fun t=>oa (ld1 s t) fun u=>oa (fldA 1 b) fun v=>oa (ld1 s v) fun w=>ob (evalFn tab k r3_ [w] s) fun x y=>chk ((sameB (pure1 y (ld1 y t)) u && true)) <|oa (buildV [.int .i64 0,.nils] [(0,1,u),(1,1,x)]) fun z=>oa (nilCk r) fun aa=>oa (fldA 0 aa) fun ab=>oh (stN 2 y ab z) fun ac=>oa (fldA 1 b) fun ad=>oa (ld1 ac ad) fun ae=>oa (lenS ae) fun af=>a0T k k r ae af (.int .i64 0) ac:=fnEq
def a0U:=bk tab tbl a1y 0 [j0] [a,b,c] h k
theorem a3a:a0U k (j0+1) a b c h =
 oa (binV .lss .scalar c b) fun d=>cond2 d
 (
 oa (nilCk a) fun e=>oa (fldA 0 e) fun f=>oa (fldA 1 f) fun g=>oa (ld1 h g) fun i=>oa (idxS 1 i c) fun l=>oh (stN 1 h l (.int .i64 (-1))) fun m=>oa (binV .add .scalar c (.int .i64 1)) fun n=>a0U k j0 a b n m
 )
 (
 some (a,h)
 ):=bkEq
theorem a7a:evalFn tab (k+1) a1y [a] h =
 oa (mmV true a (.int .i64 0)) fun b=>ob (mkSl [.int .i64 0] 1 8 b b h) fun c d=>oa (buildV [.nils,.nils] [(1,1,c)]) fun e=>oa (buildV [.nils,.nils] [(0,2,e)]) fun f=>ob (newVar d (AV.cells f)) fun g i=>oa (nilCk g) fun l=>oa (fldA 0 l) fun m=>oa (fldA 1 m) fun n=>oa (ld1 i n) fun o=>oa (lenS o) fun p=>a0U k k g p (.int .i64 0) i:=fnEq
theorem a4t:evalFn tab (k+1) o0_ [a,b,c] h =
 oa (binV .lss .scalar b (.int .i64 0)) fun d=>ob (gd d false (some (b,h)) h) fun e f=>ob (gd d false (some (a,f)) f) fun g i=>ob (gd d false (pure1 i (nilCk g)) i) fun l m=>ob (gd d false (pure1 m (fldA 0 l)) m) fun n o=>ob (gd d false (pure1 o (fldA 1 n)) o) fun p q=>ob (gd d false (pure1 q (ld1 q p)) q) fun r s=>ob (gd d false (pure1 s (lenS r)) s) fun t u=>ob (gd d false (pure1 u (binV .geq .scalar e t)) u) fun v w=>oa (pickV d (.bool true) v) fun x=>cond2 x
 (
 some ((.bool false),w)
 )
 (
 ob (evalFn tab k i6_ [a] w) fun y z=>ob (callMeth tab (evalFn tab k) "milestone/queue.place" y [b] z) fun aa ab=>oa (binV .lss .scalar aa (.int .i64 0)) fun ac=>cond2 ac
 (
 oa (buildV [.int .i64 0,.int .i64 0] [(0,1,b),(1,1,c)]) fun ad=>ob (evalFn tab k n0_ [y,(.ifc 198 ad)] ab) fun ae af=>some ((.bool true),af)
 )
 (
 oa (nilCk a) fun ag=>oa (fldA 0 ag) fun ai=>oa (fldA 0 ai) fun al=>oa (ld1 ab al) fun am=>oa (idxS 2 am aa) fun an=>oa (fldA 1 an) fun ao=>oa (ld1 ab ao) fun ap=>oa (binV .leq .scalar ap c) fun aq=>cond2 aq
 (
 some ((.bool false),ab)
 )
 (
 oa (nilCk a) fun ar=>oa (fldA 0 ar) fun au=>oa (fldA 0 au) fun av=>oa (ld1 ab av) fun aw=>oa (idxS 2 aw aa) fun ax=>oa (fldA 1 ax) fun ay=>oh (stN 1 ab ay c) fun az=>ob (evalFn tab k o6_ [y,aa] az) fun a0 a1=>some ((.bool true),a1)
 )
 )
 ):=fnEq
theorem a5V:evalFn tab (k+1) a1P [a,b] h =
 oa (nilCk a) fun c=>oa (fldA 2 c) fun d=>oa (ld1 h d) fun e=>ob (evalFn tab k a1m [a,e,b] h) fun f g=>ob (callVal (evalFn tab k) (.fn a0S [] []) [f] g) fun i l=>some (i,l):=fnEq
theorem a2O:evalFn tab (k+1) b9_ [a,b] h =
 oa (binV .rem .scalar a b) fun c=>oa (binV .lss .scalar c (.int .i64 0)) fun d=>cond2 d
 (
 oa (binV .add .scalar c b) fun e=>some (e,h)
 )
 (
 some (c,h)
 ):=fnEq
theorem a2g:evalFn tab (k+1) c1_ [a,b] h =
 ob (newVar h (AV.cells a)) fun c d=>ob (newVar d [.int .i64 0,.int .i64 0,.int .i64 0,.int .i64 0,.nils]) fun e f=>oa (fldA 2 c) fun g=>oa (ld1 f g) fun i=>oa (lenS i) fun l=>oa (binV .lss .scalar b l) fun m=>cond2 m
 (
 oa (fldA 2 c) fun n=>oa (ld1 f n) fun o=>oa (idxS 3 o b) fun p=>oa (ldN 3 f p) fun q=>ob (evalFn tab k b0_ [q] f) fun r s=>oh (stN 5 s e r) fun t=>oa (ldN 5 t e) fun u=>some (u,t)
 )
 (
 oa (fldA 1 c) fun v=>oa (ld1 f v) fun w=>oa (binV .add .scalar w b) fun x=>ob (evalFn tab k b9_ [x,(.int .i64 5)] f) fun y z=>oa (convV .u64 y) fun aa=>oa (binV .shl .scalar (.int .i64 1) aa) fun ab=>oa (buildV [.int .i64 0,.int .i64 0,.int .i64 0,.int .i64 0,.nils] [(0,1,(.int .i64 1)),(1,1,ab)]) fun ac=>oh (stN 5 z e ac) fun ad=>oa (ldN 5 ad e) fun ae=>some (ae,ad)
 ):=fnEq
def f0_:=bk tab tbl c5_ 0 [j0] [a,b,c] h k
def k5_:=bk tab tbl c5_ 1 [] [a,b] h k
theorem a0t:k5_ k a b h =
 oa (lenS b) fun c=>oa (binV .eql .scalar c (.int .i64 1)) fun d=>cond2 d
 (
 oa (idxS 5 b (.int .i64 0)) fun e=>oa (ldN 5 h e) fun f=>oh (stN 5 h a f) fun g=>oa (ldN 5 g a) fun i=>some (i,g)
 )
 (
 oa (buildV [.int .i64 0,.int .i64 0,.int .i64 0,.int .i64 0,.nils] [(0,1,(.int .i64 5)),(4,1,b)]) fun l=>oh (stN 5 h a l) fun m=>oa (ldN 5 m a) fun n=>some (n,m)
 ):=bkEq
theorem a0u:f0_ k (j0+1) a b c h =
 ob (evalFn tab k a6_ [a] h) fun d e=>oa (extr 0 d) fun f=>oa (extr 1 d) fun g=>oa (unV .not g) fun i=>ob (gd i false (some (f,e)) e) fun l m=>ob (gd i false (pure1 m (binV .neq .scalar l (.int .u8 124))) m) fun n o=>oa (pickV i (.bool true) n) fun p=>cond2 p
 (
 k5_ k b c o
 )
 (
 oa (nilCk a) fun q=>oa (fldA 1 q) fun r=>oa (ld1 o r) fun s=>oa (binV .add .scalar s (.int .i64 1)) fun t=>oa (nilCk a) fun u=>oa (fldA 1 u) fun v=>oh (stN 1 o v t) fun w=>ob (evalFn tab k c8_ [a] w) fun x y=>ob (buildSl 5 1 [.int .i64 0,.int .i64 0,.int .i64 0,.int .i64 0,.nils] [(0,5,x)] y) fun z aa=>ob (apnd 5 56 c z aa) fun ab ac=>f0_ k j0 a b ab ac
 ):=bkEq
theorem a1a:evalFn tab (k+1) c5_ [a] h =
 ob (newVar h [.int .i64 0,.int .i64 0,.int .i64 0,.int .i64 0,.nils]) fun b c=>ob (evalFn tab k c8_ [a] c) fun d e=>ob (buildSl 5 1 [.int .i64 0,.int .i64 0,.int .i64 0,.int .i64 0,.nils] [(0,5,d)] e) fun f g=>f0_ k k a b f g:=fnEq
def k6_:=bk tab tbl a8_ 0 [] [a,b,c,d,e,f] h k
def f1_:=bk tab tbl a8_ 1 [j0] [a,b,c,d,e,f,g] h k
def f2_:=bk tab tbl a8_ 2 [j0] [a,b,c,d,e,f,g,i] h k
def d4_:=bk tab tbl a8_ 3 [] [a,b,c,d,e] h k
def f3_:=bk tab tbl a8_ 4 [] [a,b] h k
theorem a0v:f2_ k j0 a b c d e f g i h =
 oa (ldN 5 h i) fun l=>ob (evalFn tab k a8_ [a,l] h) fun m n=>oa (extr 0 m) fun o=>oa (extr 1 m) fun p=>ob (buildSl 1 1 [.int .i64 0] [(0,1,o)] n) fun q r=>ob (apnd 1 8 d q r) fun s t=>ob (buildSl 1 1 [.int .i64 0] [(0,1,p)] t) fun u v=>ob (apnd 1 8 e u v) fun w x=>oa (binV .add .scalar g (.int .i64 1)) fun y=>f1_ k j0 a b c s w f y x:=bkEq
theorem a0w:f3_ k a b h =
 some (.tup [a,b],h):=bkEq
theorem a0x:d4_ k a b c d e h =
 ob (evalFn tab k e9_ [a] h) fun f g=>oa (nilCk a) fun i=>oa (fldA 5 i) fun l=>oa (ld1 g l) fun m=>oa (unV .not m) fun n=>cond2 n
 (
 oa (ldN 5 g b) fun o=>ob (evalFn tab k g1_ [a,o,c,f,d,e] g) fun p q=>f3_ k c f q
 )
 (
 f3_ k c f g
 ):=bkEq
theorem q0_:f1_ k (j0+1) a b c d e f g h =
 oa (binV .lss .scalar g f) fun i=>ob (gd i true (some (a,h)) h) fun l m=>ob (gd i true (pure1 m (nilCk l)) m) fun n o=>ob (gd i true (pure1 o (fldA 5 n)) o) fun p q=>ob (gd i true (pure1 q (ld1 q p)) q) fun r s=>ob (gd i true (pure1 s (unV .not r)) s) fun t u=>oa (pickV i t (.bool false)) fun v=>cond2 v
 (
 oa (fldA 4 b) fun w=>oa (ld1 u w) fun x=>oa (idxS 5 x (.int .i64 0)) fun y=>oa (ldN 5 u y) fun z=>ob (newVar u [.int .i64 0,.int .i64 0,.int .i64 0,.int .i64 0,.nils]) fun aa ab=>oh (stN 5 ab aa z) fun ac=>oa (fldA 0 b) fun ad=>oa (ld1 ac ad) fun ae=>oa (binV .eql .scalar ae (.int .i64 5)) fun af=>cond2 af
 (
 oa (fldA 4 b) fun ag=>oa (ld1 ac ag) fun ai=>oa (idxS 5 ai g) fun al=>oa (ldN 5 ac al) fun am=>oh (stN 5 ac aa am) fun an=>f2_ k j0 a b c d e f g aa an
 )
 (
 f2_ k j0 a b c d e f g aa ac
 )
 )
 (
 d4_ k a b c d e u
 ):=bkEq
theorem q1_:k6_ k a b c d e f h =
 f1_ k k a b c d e f (.int .i64 0) h:=bkEq
theorem t1_:evalFn tab (k+1) a8_ [a,b] h =
 ob (newVar h (AV.cells b)) fun c d=>oa (nilCk a) fun e=>oa (fldA 5 e) fun f=>oa (ld1 d f) fun g=>cond2 g
 (
 some (.tup [(.int .i64 0),(.int .i64 0)],d)
 )
 (
 oa (fldA 0 c) fun i=>oa (ld1 d i) fun l=>oa (binV .eql .scalar l (.int .i64 4)) fun m=>cond2 m
 (
 oa (ldN 5 d c) fun n=>ob (evalFn tab k b6_ [a,n] d) fun o p=>oa (extr 0 o) fun q=>oa (extr 1 o) fun r=>some (.tup [q,r],p)
 )
 (
 ob (evalFn tab k e9_ [a] d) fun s t=>oa (fldA 4 c) fun u=>oa (ld1 t u) fun v=>oa (lenS v) fun w=>oa (fldA 0 c) fun x=>oa (ld1 t x) fun y=>oa (binV .eql .scalar y (.int .i64 9)) fun z=>cond2 z
 (
 oa (fldA 3 c) fun aa=>oa (ld1 t aa) fun ab=>k6_ k a c s .nils .nils ab t
 )
 (
 k6_ k a c s .nils .nils w t
 )
 )
 ):=fnEq
theorem a3p:evalFn tab (k+1) t7_ [a] h =
 ob (newVar h (AV.cells a)) fun b c=>oa (fldA 0 b) fun d=>oa (ld1 c d) fun e=>ob (mkSl [.bool false] 1 1 e e c) fun f g=>oa (fldA 1 b) fun i=>oa (ld1 g i) fun l=>oa (idxS 1 f l) fun m=>oh (stN 1 g m (.bool true)) fun n=>oa (ldN 5 n b) fun o=>ob (evalFn tab k b1_ [o,f] n) fun p q=>some (p,q):=fnEq
def i8_:=bk tab tbl j9_ 0 [j0] [a,b,c,d,e] h k
def a0H:=bk tab tbl j9_ 1 [] [a,b] h k
theorem a2y:a0H k a b h =
 oa (ldN 5 h a) fun c=>ob (evalFn tab k b1_ [c,b] h) fun d e=>some (d,e):=bkEq
theorem z4_:i8_ k (j0+1) a b c d e h =
 oa (fldA 3 c) fun f=>oa (ld1 h f) fun g=>oa (lenS g) fun i=>oa (binV .lss .scalar e i) fun l=>cond2 l
 (
 oa (fldA 3 c) fun m=>oa (ld1 h m) fun n=>oa (idxS 3 n e) fun o=>oa (ldN 3 h o) fun p=>ob (newVar h [.int .i64 0,.int .i64 0,.int .i64 0]) fun q r=>oh (stN 3 r q p) fun s=>oa (binV .geq .scalar b (.int .i64 0)) fun t=>ob (gd t true (some (b,s)) s) fun u v=>ob (gd t true (pure1 v (binV .lss .scalar u (.int .i64 5))) v) fun w x=>oa (pickV t w (.bool false)) fun y=>ob (gd y true (some (a,x)) x) fun z aa=>ob (gd y true (pure1 aa (fldA 0 q)) aa) fun ab ac=>ob (gd y true (pure1 ac (ld1 ac ab)) ac) fun ad ae=>ob (gd y true (pure1 ae (idxS 1 z ad)) ae) fun af ag=>ob (gd y true (pure1 ag (ld1 ag af)) ag) fun ai al=>oa (pickV y ai (.bool false)) fun am=>ob (gd am true (pure1 al (fldA 2 q)) al) fun an ao=>ob (gd am true (pure1 ao (ld1 ao an)) ao) fun ap aq=>ob (gd am true (some (b,aq)) aq) fun ar au=>ob (gd am true (pure1 au (convV .u64 ar)) au) fun av aw=>ob (gd am true (pure1 aw (binV .shr .scalar ap av)) aw) fun ax ay=>ob (gd am true (pure1 ay (binV .and .scalar ax (.int .i64 1))) ay) fun az a0=>ob (gd am true (pure1 a0 (binV .eql .scalar az (.int .i64 1))) a0) fun a1 a2=>oa (pickV am a1 (.bool false)) fun a3=>cond2 a3
 (
 oa (fldA 1 q) fun a4=>oa (ld1 a2 a4) fun a5=>oa (idxS 1 d a5) fun a6=>oh (stN 1 a2 a6 (.bool true)) fun a7=>oa (binV .add .scalar e (.int .i64 1)) fun a8=>i8_ k j0 a b c d a8 a7
 )
 (
 oa (binV .add .scalar e (.int .i64 1)) fun a9=>i8_ k j0 a b c d a9 a2
 )
 )
 (
 a0H k c d h
 ):=bkEq
theorem a3C:evalFn tab (k+1) j9_ [a,b,c] h =
 ob (newVar h (AV.cells a)) fun d e=>oa (fldA 0 d) fun f=>oa (ld1 e f) fun g=>ob (mkSl [.bool false] 1 1 g g e) fun i l=>i8_ k k b c d i (.int .i64 0) l:=fnEq
def n7_:=bk tab tbl o5_ 0 [j0] [a,b,c] h k
theorem z5_:n7_ k (j0+1) a b c h =
 oa (lenS a) fun d=>oa (binV .lss .scalar c d) fun e=>cond2 e
 (
 oa (idxS 1 a c) fun f=>oa (ld1 h f) fun g=>ob (evalFn tab k o7_ [g,b] h) fun i l=>cond2 i
 (
 some (c,l)
 )
 (
 oa (binV .add .scalar c (.int .i64 1)) fun m=>n7_ k j0 a b m l
 )
 )
 (
 some ((.int .i64 (-1)),h)
 ):=bkEq
theorem a3D:evalFn tab (k+1) o5_ [a,b] h =
 n7_ k k a b (.int .i64 0) h:=fnEq
def g6_:=bk tab tbl e3_ 0 [j0] [a,b,c] h k
def a0g:=bk tab tbl e3_ 1 [] [a,b] h k
def k9_:=bk tab tbl e3_ 2 [j0] [a,b,c] h k
theorem a1T:k9_ k (j0+1) a b c h =
 oa (ldN 2 h a) fun d=>ob (evalFn tab k c2_ [d,b] h) fun e f=>oa (extr 0 e) fun g=>oa (extr 1 e) fun i=>oa (binV .eql .scalar i c) fun l=>cond2 l
 (
 some (g,f)
 )
 (
 k9_ k j0 a g i f
 ):=bkEq
theorem a1U:a0g k a b h =
 k9_ k k a b (.int .i64 0) h:=bkEq
theorem v7_:g6_ k (j0+1) a b c h =
 oa (lenS b) fun d=>oa (binV .lss .scalar c d) fun e=>cond2 e
 (
 oa (fldA 1 a) fun f=>oa (ld1 h f) fun g=>oa (idxS 1 g c) fun i=>oa (ld1 h i) fun l=>cond2 l
 (
 oa (idxS 1 b c) fun m=>oh (stN 1 h m (.int .i64 1)) fun n=>oa (binV .add .scalar c (.int .i64 1)) fun o=>g6_ k j0 a b o n
 )
 (
 oa (binV .add .scalar c (.int .i64 1)) fun p=>g6_ k j0 a b p h
 )
 )
 (
 a0g k a b h
 ):=bkEq
theorem a2P:evalFn tab (k+1) e3_ [a] h =
 ob (newVar h (AV.cells a)) fun b c=>oa (fldA 0 b) fun d=>oa (ld1 c d) fun e=>oa (lenS e) fun f=>ob (mkSl [.int .i64 0] 1 8 f f c) fun g i=>g6_ k k b g (.int .i64 0) i:=fnEq
theorem a4u:evalFn tab (k+1) a0j [a,b] h =
 ob (evalFn tab k i6_ [a] h) fun c d=>ob (callMeth tab (evalFn tab k) "milestone/queue.place" c [b] d) fun e f=>oa (binV .lss .scalar e (.int .i64 0)) fun g=>cond2 g
 (
 some (.tup [(.int .i64 0),(.bool false)],f)
 )
 (
 oa (nilCk a) fun i=>oa (fldA 0 i) fun l=>oa (fldA 0 l) fun m=>oa (ld1 f m) fun n=>oa (idxS 2 n e) fun o=>oa (fldA 1 o) fun p=>oa (ld1 f p) fun q=>some (.tup [q,(.bool true)],f)
 ):=fnEq
theorem a4v:evalFn tab (k+1) t4_ [a] h =
 oa (nilCk a) fun b=>oa (fldA 0 b) fun c=>ob (evalFn tab k s1_ [c] h) fun d e=>oa (binV .eql .scalar d (.int .i64 0)) fun f=>cond2 f
 (
 some (.tup [(.int .i64 0),(.int .i64 0),(.bool false)],e)
 )
 (
 ob (evalFn tab k i6_ [a] e) fun g i=>ob (evalFn tab k v1_ [g] i) fun l m=>oa (tAssert 198 (.agg [.int .i64 0,.int .i64 0]) true l) fun n=>oa (extr 0 n) fun o=>oa (extr 1 n) fun p=>ob (newVar m [.int .i64 0,.int .i64 0]) fun q r=>oh (stN 2 r q o) fun s=>oa (fldA 0 q) fun t=>oa (ld1 s t) fun u=>oa (fldA 1 q) fun v=>oa (ld1 s v) fun w=>some (.tup [u,w,p],s)
 ):=fnEq
end
end Go.Gm.AQ
namespace Go.Gm.AQ
open Go Go.Gm
noncomputable section
variable (k j0 j1 j2 j3:Nat) (a b c d e f g i l m:AV) (h:Heap)
theorem a2z:evalFn tab (k+1) r3_ [a] h =
 oa (binV .eql .slice a .nils) fun b=>cond2 b
 (
 some (.nils,h)
 )
 (
 ob (buildSl 4 0 [] [] h) fun c d=>ob (apnd 4 32 c a d) fun e f=>some (e,f)
 ):=fnEq
theorem a6E:evalFn tab (k+1) y6_ [a,b] h =
 oa (binV .geq .scalar b (.int .i64 0)) fun c=>ob (gd c true (some (b,h)) h) fun d e=>ob (gd c true (some (a,e)) e) fun f g=>ob (gd c true (pure1 g (nilCk f)) g) fun i l=>ob (gd c true (pure1 l (fldA 2 i)) l) fun m n=>ob (gd c true (pure1 n (ld1 n m)) n) fun o p=>ob (gd c true (pure1 p (lenS o)) p) fun q r=>ob (gd c true (pure1 r (binV .lss .scalar d q)) r) fun s t=>oa (pickV c s (.bool false)) fun u=>some (u,t):=fnEq
theorem a5G:evalFn tab (k+1) a0e [a,b,c] h =
 oa (nilCk a) fun d=>oa (fldA 0 d) fun e=>oa (ld1 h e) fun f=>ob (buildSl 1 1 [.int .i64 0] [(0,1,b)] h) fun g i=>oa (nilCk a) fun l=>oa (fldA 1 l) fun m=>oa (ld1 i m) fun n=>ob (buildSl 1 1 [.int .i64 0] [(0,1,c)] i) fun o p=>ob (apnd 1 8 f g p) fun q r=>chk ((sameB (pure1 r (ld1 r m)) n && true)) <|ob (apnd 1 8 n o r) fun s t=>oa (nilCk a) fun u=>oa (fldA 0 u) fun v=>oh (stN 1 t v q) fun w=>oa (nilCk a) fun x=>oa (fldA 1 x) fun y=>oh (stN 1 w y s) fun z=>some (.tup [],z):=fnEq
theorem a4h:evalFn tab (k+1) i6_ [a] h =
 oa (nilCk a) fun b=>oa (fldA 0 b) fun c=>some ((.ifc 218 c),h):=fnEq
theorem a3q:evalFn tab (k+1) n0_ [a,b] h =
 ob (callMeth tab (evalFn tab k) "Push" a [b] h) fun c d=>ob (callMeth tab (evalFn tab k) "Len" a [] d) fun e f=>oa (binV .sub .scalar e (.int .i64 1)) fun g=>ob (evalFn tab k l4_ [a,g] f) fun i l=>some (.tup [],l):=fnEq
theorem a3E:evalFn tab (k+1) o6_ [a,b] h =
 ob (callMeth tab (evalFn tab k) "Len" a [] h) fun c d=>ob (evalFn tab k c9_ [a,b,c] d) fun e f=>oa (unV .not e) fun g=>cond2 g
 (
 ob (evalFn tab k l4_ [a,b] f) fun i l=>some (.tup [],l)
 )
 (
 some (.tup [],f)
 ):=fnEq
theorem a5h:evalFn tab (k+1) a0S [a] h =
 ob (newVar h (AV.cells a)) fun b c=>oa (fldA 0 b) fun d=>oa (ld1 c d) fun e=>oa (lenS e) fun f=>oa (fldA 0 b) fun g=>oa (ld1 c g) fun i=>oa (slSl 1 i none (some f) (some f)) fun l=>ob (evalFn tab k s0_ [l] c) fun m n=>some (m,n):=fnEq
theorem a5H:evalFn tab (k+1) a1m [a,b,c] h =
 ob (newVar h [.nils,.nils]) fun d e=>ob (evalFn tab k y6_ [a,c] e) fun f g=>oa (unV .not f) fun i=>cond2 i
 (
 oa (buildV [.nils,.nils] []) fun l=>oh (stN 2 g d l) fun m=>oa (ldN 2 m d) fun n=>some (n,m)
 )
 (
 oa (idxS 2 b c) fun o=>oa (ldN 2 g o) fun p=>oh (stN 2 g d p) fun q=>oa (ldN 2 q d) fun r=>some (r,q)
 ):=fnEq
def g4_:=bk tab tbl c8_ 0 [j0] [a,b,c] h k
def l8_:=bk tab tbl c8_ 1 [] [a,b] h k
theorem a0M:l8_ k a b h =
 oa (lenS b) fun c=>oa (binV .eql .scalar c (.int .i64 1)) fun d=>cond2 d
 (
 oa (idxS 5 b (.int .i64 0)) fun e=>oa (ldN 5 h e) fun f=>oh (stN 5 h a f) fun g=>oa (ldN 5 g a) fun i=>some (i,g)
 )
 (
 oa (buildV [.int .i64 0,.int .i64 0,.int .i64 0,.int .i64 0,.nils] [(0,1,(.int .i64 4)),(4,1,b)]) fun l=>oh (stN 5 h a l) fun m=>oa (ldN 5 m a) fun n=>some (n,m)
 ):=bkEq
theorem a0N:g4_ k (j0+1) a b c h =
 ob (evalFn tab k a6_ [a] h) fun d e=>oa (extr 0 d) fun f=>oa (extr 1 d) fun g=>oa (unV .not g) fun i=>ob (gd i false (some (f,e)) e) fun l m=>ob (gd i false (pure1 m (binV .eql .scalar l (.int .u8 124))) m) fun n o=>oa (pickV i (.bool true) n) fun p=>ob (gd p false (some (f,o)) o) fun q r=>ob (gd p false (pure1 r (binV .eql .scalar q (.int .u8 41))) r) fun s t=>oa (pickV p (.bool true) s) fun u=>cond2 u
 (
 l8_ k b c t
 )
 (
 ob (evalFn tab k c6_ [a] t) fun v w=>ob (buildSl 5 1 [.int .i64 0,.int .i64 0,.int .i64 0,.int .i64 0,.nils] [(0,5,v)] w) fun x y=>ob (apnd 5 56 c x y) fun z aa=>g4_ k j0 a b z aa
 ):=bkEq
theorem a1s:evalFn tab (k+1) c8_ [a] h =
 ob (newVar h [.int .i64 0,.int .i64 0,.int .i64 0,.int .i64 0,.nils]) fun b c=>ob (evalFn tab k c6_ [a] c) fun d e=>ob (buildSl 5 1 [.int .i64 0,.int .i64 0,.int .i64 0,.int .i64 0,.nils] [(0,5,d)] e) fun f g=>g4_ k k a b f g:=fnEq
theorem u3_:evalFn tab (k+1) a6_ [a] h =
 oa (nilCk a) fun b=>oa (fldA 1 b) fun c=>oa (ld1 h c) fun d=>oa (nilCk a) fun e=>oa (fldA 0 e) fun f=>oa (ld1 h f) fun g=>oa (lenB g) fun i=>oa (binV .geq .scalar d i) fun l=>ob (gd l false (some (a,h)) h) fun m n=>ob (gd l false (pure1 n (nilCk m)) n) fun o p=>ob (gd l false (pure1 p (fldA 3 o)) p) fun q r=>ob (gd l false (pure1 r (ld1 r q)) r) fun s t=>ob (gd l false (pure1 t (binV .neq .scalar s (.int .i64 0))) t) fun u v=>oa (pickV l (.bool true) u) fun w=>cond2 w
 (
 some (.tup [(.int .u8 0),(.bool false)],v)
 )
 (
 oa (nilCk a) fun x=>oa (fldA 0 x) fun y=>oa (ld1 v y) fun z=>oa (nilCk a) fun aa=>oa (fldA 1 aa) fun ab=>oa (ld1 v ab) fun ac=>oa (ixS z ac) fun ad=>some (.tup [ad,(.bool true)],v)
 ):=fnEq
def f4_:=bk tab tbl b6_ 0 [j0] [a,b,c,d,e] h k
def k7_:=bk tab tbl b6_ 1 [] [a,b,c] h k
def f5_:=bk tab tbl b6_ 2 [j0] [a,b,c,d] h k
def t2_:=bk tab tbl b6_ 3 [] [a,b] h k
theorem a0y:t2_ k a b h =
 oa (idxS 1 a (.int .i64 0)) fun c=>oa (ld1 h c) fun d=>oa (lenS b) fun e=>oa (binV .sub .scalar e (.int .i64 1)) fun f=>oa (idxS 1 b f) fun g=>oa (ld1 h g) fun i=>some (.tup [d,i],h):=bkEq
theorem q2_:f5_ k (j0+1) a b c d h =
 oa (binV .add .scalar d (.int .i64 1)) fun e=>oa (lenS b) fun f=>oa (binV .lss .scalar e f) fun g=>cond2 g
 (
 oa (idxS 1 c d) fun i=>oa (ld1 h i) fun l=>oa (binV .add .scalar d (.int .i64 1)) fun m=>oa (idxS 1 b m) fun n=>oa (ld1 h n) fun o=>ob (evalFn tab k a1_ [a,l,o] h) fun p q=>oa (binV .add .scalar d (.int .i64 1)) fun r=>f5_ k j0 a b c r q
 )
 (
 t2_ k b c h
 ):=bkEq
theorem a0z:k7_ k a b c h =
 oa (nilCk a) fun d=>oa (fldA 5 d) fun e=>oa (ld1 h e) fun f=>cond2 f
 (
 some (.tup [(.int .i64 0),(.int .i64 0)],h)
 )
 (
 f5_ k k a b c (.int .i64 0) h
 ):=bkEq
theorem q3_:f4_ k (j0+1) a b c d e h =
 oa (fldA 4 b) fun f=>oa (ld1 h f) fun g=>oa (lenS g) fun i=>oa (binV .lss .scalar e i) fun l=>ob (gd l true (some (a,h)) h) fun m n=>ob (gd l true (pure1 n (nilCk m)) n) fun o p=>ob (gd l true (pure1 p (fldA 5 o)) p) fun q r=>ob (gd l true (pure1 r (ld1 r q)) r) fun s t=>ob (gd l true (pure1 t (unV .not s)) t) fun u v=>oa (pickV l u (.bool false)) fun w=>cond2 w
 (
 oa (fldA 4 b) fun x=>oa (ld1 v x) fun y=>oa (idxS 5 y e) fun z=>oa (ldN 5 v z) fun aa=>ob (evalFn tab k a8_ [a,aa] v) fun ab ac=>oa (extr 0 ab) fun ad=>oa (extr 1 ab) fun ae=>ob (buildSl 1 1 [.int .i64 0] [(0,1,ad)] ac) fun af ag=>ob (apnd 1 8 c af ag) fun ai al=>ob (buildSl 1 1 [.int .i64 0] [(0,1,ae)] al) fun am an=>ob (apnd 1 8 d am an) fun ao ap=>oa (binV .add .scalar e (.int .i64 1)) fun aq=>f4_ k j0 a b ai ao aq ap
 )
 (
 k7_ k a c d v
 ):=bkEq
theorem a1b:evalFn tab (k+1) b6_ [a,b] h =
 ob (newVar h (AV.cells b)) fun c d=>f4_ k k a c .nils .nils (.int .i64 0) d:=fnEq
theorem a0V:evalFn tab (k+1) e9_ [a] h =
 oa (nilCk a) fun b=>oa (fldA 0 b) fun c=>oa (fldA 0 c) fun d=>oa (ld1 h d) fun e=>oa (binV .geq .scalar e (.int .i64 1000)) fun f=>cond2 f
 (
 oa (nilCk a) fun g=>oa (fldA 5 g) fun i=>oh (stN 1 h i (.bool true)) fun l=>some ((.int .i64 0),l)
 )
 (
 oa (nilCk a) fun m=>oa (fldA 0 m) fun n=>oa (fldA 0 n) fun o=>oa (ld1 h o) fun p=>oa (binV .add .scalar p (.int .i64 1)) fun q=>oa (nilCk a) fun r=>oa (fldA 0 r) fun s=>oa (fldA 0 s) fun t=>oh (stN 1 h t q) fun u=>oa (nilCk a) fun v=>oa (fldA 0 v) fun w=>oa (fldA 0 w) fun x=>oa (ld1 u x) fun y=>oa (binV .sub .scalar y (.int .i64 1)) fun z=>some (z,u)
 ):=fnEq
def f6_:=bk tab tbl g1_ 0 [j0] [a,b,c,d,e,f] h k
theorem q4_:f6_ k (j0+1) a b c d e f h =
 oa (lenS d) fun g=>oa (binV .lss .scalar f g) fun i=>cond2 i
 (
 oa (idxS 1 d f) fun l=>oa (ld1 h l) fun m=>ob (evalFn tab k a1_ [a,b,m] h) fun n o=>oa (idxS 1 e f) fun p=>oa (ld1 o p) fun q=>ob (evalFn tab k a1_ [a,q,c] o) fun r s=>oa (binV .add .scalar f (.int .i64 1)) fun t=>f6_ k j0 a b c d e t s
 )
 (
 some (.tup [],h)
 ):=bkEq
theorem a1c:evalFn tab (k+1) g1_ [a,b,c,d,e,f] h =
 ob (newVar h (AV.cells b)) fun g i=>oa (fldA 0 g) fun l=>oa (ld1 i l) fun m=>oa (binV .eql .scalar m (.int .i64 1)) fun n=>cond2 n
 (
 oa (nilCk a) fun o=>oa (fldA 0 o) fun p=>oa (fldA 3 p) fun q=>oa (ld1 i q) fun r=>oa (fldA 1 g) fun s=>oa (ld1 i s) fun t=>oa (buildV [.int .i64 0,.int .i64 0,.int .i64 0] [(0,1,c),(1,1,d),(2,1,t)]) fun u=>ob (buildSl 3 1 [.int .i64 0,.int .i64 0,.int .i64 0] [(0,3,u)] i) fun v w=>ob (apnd 3 24 r v w) fun x y=>oa (nilCk a) fun z=>oa (fldA 0 z) fun aa=>oa (fldA 3 aa) fun ab=>oh (stN 1 y ab x) fun ac=>some (.tup [],ac)
 )
 (
 oa (binV .eql .scalar m (.int .i64 3)) fun ad=>cond2 ad
 (
 ob (evalFn tab k a1_ [a,c,d] i) fun ae af=>some (.tup [],af)
 )
 (
 oa (binV .eql .scalar m (.int .i64 5)) fun ag=>cond2 ag
 (
 f6_ k k a c d e f (.int .i64 0) i
 )
 (
 oa (binV .eql .scalar m (.int .i64 6)) fun ai=>cond2 ai
 (
 oa (idxS 1 e (.int .i64 0)) fun al=>oa (ld1 i al) fun am=>ob (evalFn tab k a1_ [a,c,am] i) fun an ao=>ob (evalFn tab k a1_ [a,c,d] ao) fun ap aq=>oa (idxS 1 f (.int .i64 0)) fun ar=>oa (ld1 aq ar) fun au=>oa (idxS 1 e (.int .i64 0)) fun av=>oa (ld1 aq av) fun aw=>ob (evalFn tab k a1_ [a,au,aw] aq) fun ax ay=>oa (idxS 1 f (.int .i64 0)) fun az=>oa (ld1 ay az) fun a0=>ob (evalFn tab k a1_ [a,a0,d] ay) fun a1 a2=>some (.tup [],a2)
 )
 (
 oa (binV .eql .scalar m (.int .i64 7)) fun a3=>cond2 a3
 (
 oa (idxS 1 e (.int .i64 0)) fun a4=>oa (ld1 i a4) fun a5=>ob (evalFn tab k a1_ [a,c,a5] i) fun a6 a7=>oa (idxS 1 f (.int .i64 0)) fun a8=>oa (ld1 a7 a8) fun a9=>oa (idxS 1 e (.int .i64 0)) fun ba=>oa (ld1 a7 ba) fun bb=>ob (evalFn tab k a1_ [a,a9,bb] a7) fun bc bd=>oa (idxS 1 f (.int .i64 0)) fun be=>oa (ld1 bd be) fun bf=>ob (evalFn tab k a1_ [a,bf,d] bd) fun bg bi=>some (.tup [],bi)
 )
 (
 oa (binV .eql .scalar m (.int .i64 8)) fun bl=>cond2 bl
 (
 oa (idxS 1 e (.int .i64 0)) fun bm=>oa (ld1 i bm) fun bn=>ob (evalFn tab k a1_ [a,c,bn] i) fun bo bp=>ob (evalFn tab k a1_ [a,c,d] bp) fun bq br=>oa (idxS 1 f (.int .i64 0)) fun bs=>oa (ld1 br bs) fun bt=>ob (evalFn tab k a1_ [a,bt,d] br) fun bu bv=>some (.tup [],bv)
 )
 (
 oa (binV .eql .scalar m (.int .i64 9)) fun bw=>cond2 bw
 (
 oa (ldN 5 i g) fun bx=>ob (evalFn tab k b3_ [a,bx,c,d,e,f] i) fun bz b1=>some (.tup [],b1)
 )
 (
 some (.tup [],i)
 )
 )
 )
 )
 )
 )
 ):=fnEq
def g7_:=bk tab tbl b1_ 0 [j0] [a,b,c,d] h k
def a0h:=bk tab tbl b1_ 1 [] [a,b,c] h k
def l0_:=bk tab tbl b1_ 2 [j0] [a,b,c,d,e] h k
def r5_:=bk tab tbl b1_ 3 [] [a,b,c] h k
def l1_:=bk tab tbl b1_ 4 [j0] [a,b,c,d] h k
def g8_:=bk tab tbl b1_ 5 [j0,j1] [a,b,c,d,e] h k
def r6_:=bk tab tbl b1_ 6 [j0] [a,b,c,d] h k
theorem a1V:r6_ k j0 a b c d h =
 oa (binV .add .scalar d (.int .i64 1)) fun e=>l1_ k j0 a b c e h:=bkEq
theorem v8_:g8_ k j0 (j1+1) a b c d e h =
 oa (idxS 1 b d) fun f=>oa (ld1 h f) fun g=>oa (idxS 1 c g) fun i=>oa (ld1 h i) fun l=>oa (lenS l) fun m=>oa (binV .lss .scalar e m) fun n=>cond2 n
 (
 oa (idxS 1 b d) fun o=>oa (ld1 h o) fun p=>oa (idxS 1 c p) fun q=>oa (ld1 h q) fun r=>oa (idxS 1 r e) fun s=>oa (ld1 h s) fun t=>oa (idxS 1 a t) fun u=>oa (ld1 h u) fun v=>oa (unV .not v) fun w=>cond2 w
 (
 oa (idxS 1 a t) fun x=>oh (stN 1 h x (.bool true)) fun y=>ob (buildSl 1 1 [.int .i64 0] [(0,1,t)] y) fun z aa=>ob (apnd 1 8 b z aa) fun ab ac=>oa (binV .add .scalar e (.int .i64 1)) fun ad=>g8_ k j0 j1 a ab c d ad ac
 )
 (
 oa (binV .add .scalar e (.int .i64 1)) fun ae=>g8_ k j0 j1 a b c d ae h
 )
 )
 (
 r6_ k j0 a b c d h
 ):=bkEq
theorem v9_:l1_ k (j0+1) a b c d h =
 oa (lenS b) fun e=>oa (binV .lss .scalar d e) fun f=>cond2 f
 (
 g8_ k j0 k a b c d (.int .i64 0) h
 )
 (
 some (a,h)
 ):=bkEq
theorem a1W:r5_ k a b c h =
 l1_ k k a b c (.int .i64 0) h:=bkEq
theorem w0_:l0_ k (j0+1) a b c d e h =
 oa (fldA 4 a) fun f=>oa (ld1 h f) fun g=>oa (lenS g) fun i=>oa (binV .lss .scalar e i) fun l=>cond2 l
 (
 oa (fldA 4 a) fun m=>oa (ld1 h m) fun n=>oa (idxS 2 n e) fun o=>oa (ldN 2 h o) fun p=>ob (newVar h [.int .i64 0,.int .i64 0]) fun q r=>oh (stN 2 r q p) fun s=>oa (idxA 2 1 q (.int .i64 0)) fun t=>oa (ld1 s t) fun u=>oa (idxA 2 1 q (.int .i64 0)) fun v=>oa (ld1 s v) fun w=>oa (idxS 1 d w) fun x=>oa (ld1 s x) fun y=>oa (idxA 2 1 q (.int .i64 1)) fun z=>oa (ld1 s z) fun aa=>ob (buildSl 1 1 [.int .i64 0] [(0,1,aa)] s) fun ab ac=>ob (apnd 1 8 y ab ac) fun ad ae=>chk ((sameB (pure1 ae (ld1 ae t)) u && true)) <|oa (idxS 1 d u) fun af=>oh (stN 1 ae af ad) fun ag=>oa (binV .add .scalar e (.int .i64 1)) fun ai=>l0_ k j0 a b c d ai ag
 )
 (
 r5_ k b c d h
 ):=bkEq
theorem a1X:a0h k a b c h =
 oa (fldA 0 a) fun d=>oa (ld1 h d) fun e=>ob (mkSl [.nils] 1 24 e e h) fun f g=>l0_ k k a b c f (.int .i64 0) g:=bkEq
theorem w1_:g7_ k (j0+1) a b c d h =
 oa (lenS b) fun e=>oa (binV .lss .scalar d e) fun f=>cond2 f
 (
 oa (idxS 1 b d) fun g=>oa (ld1 h g) fun i=>cond2 i
 (
 ob (buildSl 1 1 [.int .i64 0] [(0,1,d)] h) fun l m=>ob (apnd 1 8 c l m) fun n o=>oa (binV .add .scalar d (.int .i64 1)) fun p=>g7_ k j0 a b n p o
 )
 (
 oa (binV .add .scalar d (.int .i64 1)) fun q=>g7_ k j0 a b c q h
 )
 )
 (
 a0h k a b c h
 ):=bkEq
theorem a2Q:evalFn tab (k+1) b1_ [a,b] h =
 ob (newVar h (AV.cells a)) fun c d=>ob (buildSl 1 0 [] [] d) fun e f=>ob (apnd 1 1 e b f) fun g i=>g7_ k k c g .nils (.int .i64 0) i:=fnEq
def n8_:=bk tab tbl o7_ 0 [j0] [a,b,c] h k
theorem z6_:n8_ k (j0+1) a b c h =
 oa (lenS a) fun d=>oa (binV .lss .scalar c d) fun e=>cond2 e
 (
 oa (idxS 1 a c) fun f=>oa (ld1 h f) fun g=>oa (idxS 1 b c) fun i=>oa (ld1 h i) fun l=>oa (binV .neq .bool g l) fun m=>cond2 m
 (
 some ((.bool false),h)
 )
 (
 oa (binV .add .scalar c (.int .i64 1)) fun n=>n8_ k j0 a b n h
 )
 )
 (
 some ((.bool true),h)
 ):=bkEq
theorem a3F:evalFn tab (k+1) o7_ [a,b] h =
 n8_ k k a b (.int .i64 0) h:=fnEq
def m2_:=bk tab tbl c2_ 0 [j0] [a,b,c,d,e] h k
def m3_:=bk tab tbl c2_ 1 [j0,j1] [a,b,c,d,e,f] h k
def s8_:=bk tab tbl c2_ 2 [j0] [a,b,c,d,e,f] h k
def s9_:=bk tab tbl c2_ 3 [j0] [a,b,c,d,e,f] h k
def a0p:=bk tab tbl c2_ 4 [j0] [a,b,c,d,e] h k
def a0q:=bk tab tbl c2_ 5 [] [a,b] h k
theorem x5_:a0p k j0 a b c d e h =
 oa (binV .add .scalar e (.int .i64 1)) fun f=>m2_ k j0 a b c d f h:=bkEq
theorem x6_:s9_ k j0 a b c d e f h =
 oa (idxS 1 c e) fun g=>oh (stN 1 h g f) fun i=>a0p k j0 a b c d e i:=bkEq
theorem a2h:s8_ k j0 a b c d e f h =
 oa (lenS d) fun g=>oa (binV .eql .scalar f g) fun i=>cond2 i
 (
 ob (buildSl 1 1 [.int .i64 0] [(0,1,e)] h) fun l m=>ob (apnd 1 8 d l m) fun n o=>s9_ k j0 a b c n e f o
 )
 (
 s9_ k j0 a b c d e f h
 ):=bkEq
theorem x7_:m3_ k j0 (j1+1) a b c d e f h =
 oa (lenS d) fun g=>oa (binV .lss .scalar f g) fun i=>ob (gd i true (pure1 h (ldN 2 h b)) h) fun l m=>ob (gd i true (some (a,m)) m) fun n o=>ob (gd i true (some (d,o)) o) fun p q=>ob (gd i true (some (f,q)) q) fun r s=>ob (gd i true (pure1 s (idxS 1 p r)) s) fun t u=>ob (gd i true (pure1 u (ld1 u t)) u) fun v w=>ob (gd i true (some (e,w)) w) fun x y=>ob (gd i true (evalFn tab k n1_ [l,n,v,x] y) y) fun z aa=>ob (gd i true (pure1 aa (unV .not z)) aa) fun ab ac=>oa (pickV i ab (.bool false)) fun ad=>cond2 ad
 (
 oa (binV .add .scalar f (.int .i64 1)) fun ae=>m3_ k j0 j1 a b c d e ae ac
 )
 (
 s8_ k j0 a b c d e f ac
 ):=bkEq
theorem a2i:a0q k a b h =
 oa (lenS b) fun c=>some (.tup [a,c],h):=bkEq
theorem x8_:m2_ k (j0+1) a b c d e h =
 oa (lenS a) fun f=>oa (binV .lss .scalar e f) fun g=>cond2 g
 (
 m3_ k j0 k a b c d e (.int .i64 0) h
 )
 (
 a0q k c d h
 ):=bkEq
theorem a3r:evalFn tab (k+1) c2_ [a,b] h =
 ob (newVar h (AV.cells a)) fun c d=>oa (lenS b) fun e=>ob (mkSl [.int .i64 0] 1 8 e e d) fun f g=>m2_ k k b c f .nils (.int .i64 0) g:=fnEq
theorem a4i:evalFn tab (k+1) s1_ [a] h =
 oa (nilCk a) fun b=>oa (fldA 0 b) fun c=>oa (ld1 h c) fun d=>oa (lenS d) fun e=>some (e,h):=fnEq
theorem a3G:evalFn tab (k+1) v1_ [a] h =
 ob (callMeth tab (evalFn tab k) "Len" a [] h) fun b c=>oa (binV .sub .scalar b (.int .i64 1)) fun d=>ob (callMeth tab (evalFn tab k) "Swap" a [(.int .i64 0),d] c) fun e f=>ob (evalFn tab k c9_ [a,(.int .i64 0),d] f) fun g i=>ob (callMeth tab (evalFn tab k) "Pop" a [] i) fun l m=>some (l,m):=fnEq
def p0_:=bk tab tbl l4_ 0 [j0] [a,b] h k
theorem a0i:p0_ k (j0+1) a b h =
 oa (binV .sub .scalar b (.int .i64 1)) fun c=>oa (binV .quo .scalar c (.int .i64 2)) fun d=>oa (binV .eql .scalar d b) fun e=>ob (gd e false (some (a,h)) h) fun f g=>ob (gd e false (some (b,g)) g) fun i l=>ob (gd e false (some (d,l)) l) fun m n=>ob (gd e false (callMeth tab (evalFn tab k) "Less" f [i,m] n) n) fun o p=>ob (gd e false (pure1 p (unV .not o)) p) fun q r=>oa (pickV e (.bool true) q) fun s=>cond2 s
 (
 some (.tup [],r)
 )
 (
 ob (callMeth tab (evalFn tab k) "Swap" a [d,b] r) fun t u=>p0_ k j0 a d u
 ):=bkEq
theorem a3U:evalFn tab (k+1) l4_ [a,b] h =
 p0_ k k a b h:=fnEq
def h7_:=bk tab tbl c9_ 0 [j0] [a,b,c,d] h k
def h8_:=bk tab tbl c9_ 1 [] [a,b] h k
def h9_:=bk tab tbl c9_ 2 [j0] [a,b,c,d,e] h k
theorem x9_:h8_ k a b h =
 oa (binV .gtr .scalar b a) fun c=>some (c,h):=bkEq
theorem y0_:h9_ k j0 a b c d e h =
 ob (callMeth tab (evalFn tab k) "Less" a [e,d] h) fun f g=>oa (unV .not f) fun i=>cond2 i
 (
 h8_ k b d g
 )
 (
 ob (callMeth tab (evalFn tab k) "Swap" a [d,e] g) fun l m=>h7_ k j0 a b c e m
 ):=bkEq
theorem p1_:h7_ k (j0+1) a b c d h =
 oa (binV .mul .scalar (.int .i64 2) d) fun e=>oa (binV .add .scalar e (.int .i64 1)) fun f=>oa (binV .geq .scalar f c) fun g=>ob (gd g false (some (f,h)) h) fun i l=>ob (gd g false (pure1 l (binV .lss .scalar i (.int .i64 0))) l) fun m n=>oa (pickV g (.bool true) m) fun o=>cond2 o
 (
 h8_ k b d n
 )
 (
 oa (binV .add .scalar f (.int .i64 1)) fun p=>oa (binV .lss .scalar p c) fun q=>ob (gd q true (some (a,n)) n) fun r s=>ob (gd q true (some (p,s)) s) fun t u=>ob (gd q true (some (f,u)) u) fun v w=>ob (gd q true (callMeth tab (evalFn tab k) "Less" r [t,v] w) w) fun x y=>oa (pickV q x (.bool false)) fun z=>cond2 z
 (
 h9_ k j0 a b c d p y
 )
 (
 h9_ k j0 a b c d f y
 )
 ):=bkEq
theorem a0r:evalFn tab (k+1) c9_ [a,b,c] h =
 h7_ k k a b c b h:=fnEq
end
end Go.Gm.AQ
namespace Go.Gm.AQ
open Go Go.Gm
noncomputable section
variable (k j0 j1 j2 j3:Nat) (a b c d e f g i l m:AV) (h:Heap)
def c3_:=bk tab tbl c6_ 0 [j0] [a,b,c] h k
def c4_:=bk tab tbl c6_ 1 [j0] [a,b,c] h k
theorem a0A:c4_ k j0 a b c h =
 oa (nilCk a) fun d=>oa (fldA 1 d) fun e=>oa (ld1 h e) fun f=>oa (binV .add .scalar f (.int .i64 1)) fun g=>oa (nilCk a) fun i=>oa (fldA 1 i) fun l=>oh (stN 1 h l g) fun m=>c3_ k j0 a b c m:=bkEq
theorem a0B:c3_ k (j0+1) a b c h =
 ob (evalFn tab k a6_ [a] h) fun d e=>oa (extr 0 d) fun f=>oa (extr 1 d) fun g=>oa (unV .not g) fun i=>cond2 i
 (
 oa (ldN 5 e c) fun l=>oh (stN 5 e b l) fun m=>oa (ldN 5 m b) fun n=>some (n,m)
 )
 (
 oa (binV .eql .scalar f (.int .u8 42)) fun o=>cond2 o
 (
 oa (ldN 5 e c) fun p=>ob (buildSl 5 1 [.int .i64 0,.int .i64 0,.int .i64 0,.int .i64 0,.nils] [(0,5,p)] e) fun q r=>oa (buildV [.int .i64 0,.int .i64 0,.int .i64 0,.int .i64 0,.nils] [(0,1,(.int .i64 6)),(4,1,q)]) fun s=>oh (stN 5 r c s) fun t=>c4_ k j0 a b c t
 )
 (
 oa (binV .eql .scalar f (.int .u8 43)) fun u=>cond2 u
 (
 oa (ldN 5 e c) fun v=>ob (buildSl 5 1 [.int .i64 0,.int .i64 0,.int .i64 0,.int .i64 0,.nils] [(0,5,v)] e) fun w x=>oa (buildV [.int .i64 0,.int .i64 0,.int .i64 0,.int .i64 0,.nils] [(0,1,(.int .i64 7)),(4,1,w)]) fun y=>oh (stN 5 x c y) fun z=>c4_ k j0 a b c z
 )
 (
 oa (binV .eql .scalar f (.int .u8 63)) fun aa=>cond2 aa
 (
 oa (ldN 5 e c) fun ab=>ob (buildSl 5 1 [.int .i64 0,.int .i64 0,.int .i64 0,.int .i64 0,.nils] [(0,5,ab)] e) fun ac ad=>oa (buildV [.int .i64 0,.int .i64 0,.int .i64 0,.int .i64 0,.nils] [(0,1,(.int .i64 8)),(4,1,ac)]) fun ae=>oh (stN 5 ad c ae) fun af=>c4_ k j0 a b c af
 )
 (
 oa (binV .eql .scalar f (.int .u8 123)) fun ag=>cond2 ag
 (
 oa (nilCk a) fun ai=>oa (fldA 1 ai) fun al=>oa (ld1 e al) fun am=>oa (binV .add .scalar am (.int .i64 1)) fun an=>oa (nilCk a) fun ao=>oa (fldA 1 ao) fun ap=>oh (stN 1 e ap an) fun aq=>oa (ldN 5 aq c) fun ar=>ob (evalFn tab k d7_ [a,ar] aq) fun au av=>oh (stN 5 av c au) fun aw=>c3_ k j0 a b c aw
 )
 (
 oa (ldN 5 e c) fun ax=>oh (stN 5 e b ax) fun ay=>oa (ldN 5 ay b) fun az=>some (az,ay)
 )
 )
 )
 )
 ):=bkEq
theorem a1d:evalFn tab (k+1) c6_ [a] h =
 ob (newVar h [.int .i64 0,.int .i64 0,.int .i64 0,.int .i64 0,.nils]) fun b c=>ob (evalFn tab k m6_ [a] c) fun d e=>ob (newVar e [.int .i64 0,.int .i64 0,.int .i64 0,.int .i64 0,.nils]) fun f g=>oh (stN 5 g f d) fun i=>c3_ k k a b f i:=fnEq
theorem a1e:evalFn tab (k+1) a1_ [a,b,c] h =
 oa (nilCk a) fun d=>oa (fldA 0 d) fun e=>oa (fldA 4 e) fun f=>oa (ld1 h f) fun g=>oa (buildV [.int .i64 0,.int .i64 0] [(0,1,b),(1,1,c)]) fun i=>ob (buildSl 2 1 [.int .i64 0,.int .i64 0] [(0,2,i)] h) fun l m=>ob (apnd 2 16 g l m) fun n o=>oa (nilCk a) fun p=>oa (fldA 0 p) fun q=>oa (fldA 4 q) fun r=>oh (stN 1 o r n) fun s=>some (.tup [],s):=fnEq
def j5_:=bk tab tbl b3_ 0 [] [a,b,c,d,e,f] h k
def d0_:=bk tab tbl b3_ 1 [j0] [a,b,c,d,e,f,g] h k
def e2_:=bk tab tbl b3_ 2 [j0] [a,b,c,d,e,f,g,i] h k
def r1_:=bk tab tbl b3_ 3 [] [a,b,c,d] h k
theorem a0k:e2_ k j0 a b c d e f g i h =
 oa (unV .not i) fun l=>cond2 l
 (
 oa (idxS 1 e g) fun m=>oa (ld1 h m) fun n=>oa (binV .add .scalar g (.int .i64 1)) fun o=>oa (idxS 1 d o) fun p=>oa (ld1 h p) fun q=>ob (evalFn tab k a1_ [a,n,q] h) fun r s=>oa (binV .add .scalar g (.int .i64 1)) fun t=>d0_ k j0 a b c d e f t s
 )
 (
 oa (binV .add .scalar g (.int .i64 1)) fun u=>d0_ k j0 a b c d e f u h
 ):=bkEq
theorem a0l:r1_ k a b c d h =
 oa (fldA 2 d) fun e=>oa (ld1 h e) fun f=>oa (binV .eql .scalar f (.int .i64 0)) fun g=>cond2 g
 (
 ob (evalFn tab k a1_ [a,b,c] h) fun i l=>some (.tup [],l)
 )
 (
 some (.tup [],h)
 ):=bkEq
theorem o1_:d0_ k (j0+1) a b c d e f g h =
 oa (lenS d) fun i=>oa (binV .lss .scalar g i) fun l=>cond2 l
 (
 oa (lenS d) fun m=>oa (binV .sub .scalar m (.int .i64 1)) fun n=>oa (binV .eql .scalar g n) fun o=>ob (gd o false (some (g,h)) h) fun p q=>ob (gd o false (pure1 q (binV .add .scalar p (.int .i64 1))) q) fun r s=>ob (gd o false (pure1 s (fldA 2 f)) s) fun t u=>ob (gd o false (pure1 u (ld1 u t)) u) fun v w=>ob (gd o false (pure1 w (binV .geq .scalar r v)) w) fun x y=>oa (pickV o (.bool true) x) fun z=>cond2 z
 (
 oa (idxS 1 e g) fun aa=>oa (ld1 y aa) fun ab=>ob (evalFn tab k a1_ [a,ab,c] y) fun ac ad=>e2_ k j0 a b c d e f g o ad
 )
 (
 e2_ k j0 a b c d e f g o y
 )
 )
 (
 r1_ k a b c f h
 ):=bkEq
theorem o2_:j5_ k a b c d e f h =
 d0_ k k a b c d e f (.int .i64 0) h:=bkEq
theorem a0O:evalFn tab (k+1) b3_ [a,b,c,d,e,f] h =
 ob (newVar h (AV.cells b)) fun g i=>oa (fldA 3 g) fun l=>oa (ld1 i l) fun m=>oa (binV .gtr .scalar m (.int .i64 0)) fun n=>cond2 n
 (
 oa (idxS 1 e (.int .i64 0)) fun o=>oa (ld1 i o) fun p=>ob (evalFn tab k a1_ [a,c,p] i) fun q r=>j5_ k a c d e f g r
 )
 (
 j5_ k a c d e f g i
 ):=fnEq
def m4_:=bk tab tbl n1_ 0 [j0] [a,b,c,d,e] h k
theorem y1_:m4_ k (j0+1) a b c d e h =
 oa (binV .lss .scalar e (.int .i64 5)) fun f=>cond2 f
 (
 oa (fldA 0 d) fun g=>oa (ld1 h g) fun i=>oa (idxS 5 i b) fun l=>oa (idxA 5 1 l e) fun m=>oa (ld1 h m) fun n=>oa (idxS 1 a n) fun o=>oa (ld1 h o) fun p=>oa (fldA 0 d) fun q=>oa (ld1 h q) fun r=>oa (idxS 5 r c) fun s=>oa (idxA 5 1 s e) fun t=>oa (ld1 h t) fun u=>oa (idxS 1 a u) fun v=>oa (ld1 h v) fun w=>oa (binV .neq .scalar p w) fun x=>cond2 x
 (
 some ((.bool false),h)
 )
 (
 oa (binV .add .scalar e (.int .i64 1)) fun y=>m4_ k j0 a b c d y h
 )
 )
 (
 some ((.bool true),h)
 ):=bkEq
theorem a3s:evalFn tab (k+1) n1_ [a,b,c,d] h =
 ob (newVar h (AV.cells a)) fun e f=>oa (idxS 1 b c) fun g=>oa (ld1 f g) fun i=>oa (idxS 1 b d) fun l=>oa (ld1 f l) fun m=>oa (binV .neq .scalar i m) fun n=>cond2 n
 (
 some ((.bool false),f)
 )
 (
 m4_ k k b c d e (.int .i64 0) f
 ):=fnEq
theorem a1t:evalFn tab (k+1) m6_ [a] h =
 ob (newVar h [.int .i64 0,.int .i64 0,.int .i64 0,.int .i64 0,.nils]) fun b c=>ob (evalFn tab k a6_ [a] c) fun d e=>oa (extr 0 d) fun f=>oa (extr 1 d) fun g=>oa (unV .not g) fun i=>cond2 i
 (
 ob (evalFn tab k a9_ [a,(.int .i64 3)] e) fun l m=>oh (stN 5 m b l) fun n=>oa (ldN 5 n b) fun o=>some (o,n)
 )
 (
 oa (binV .eql .scalar f (.int .u8 40)) fun p=>ob (gd p true (some (a,e)) e) fun q r=>ob (gd p true (pure1 r (nilCk q)) r) fun s t=>ob (gd p true (pure1 t (fldA 2 s)) t) fun u v=>ob (gd p true (pure1 v (ld1 v u)) v) fun w x=>ob (gd p true (pure1 x (binV .geq .scalar w (.int .i64 30))) x) fun y z=>oa (pickV p y (.bool false)) fun aa=>cond2 aa
 (
 ob (evalFn tab k a9_ [a,(.int .i64 4)] z) fun ab ac=>oh (stN 5 ac b ab) fun ad=>oa (ldN 5 ad b) fun ae=>some (ae,ad)
 )
 (
 oa (nilCk a) fun af=>oa (fldA 1 af) fun ag=>oa (ld1 z ag) fun ai=>oa (binV .add .scalar ai (.int .i64 1)) fun al=>oa (nilCk a) fun am=>oa (fldA 1 am) fun an=>oh (stN 1 z an al) fun ao=>ob (evalFn tab k e1_ [f] ao) fun ap aq=>oa (binV .geq .scalar ap (.int .i64 0)) fun ar=>cond2 ar
 (
 ob (evalFn tab k e1_ [f] aq) fun au av=>oa (convV .u64 au) fun aw=>oa (binV .shl .scalar (.int .i64 1) aw) fun ax=>oa (buildV [.int .i64 0,.int .i64 0,.int .i64 0,.int .i64 0,.nils] [(0,1,(.int .i64 1)),(1,1,ax)]) fun ay=>oh (stN 5 av b ay) fun az=>oa (ldN 5 az b) fun a0=>some (a0,az)
 )
 (
 oa (binV .eql .scalar f (.int .u8 46)) fun a1=>cond2 a1
 (
 oa (buildV [.int .i64 0,.int .i64 0,.int .i64 0,.int .i64 0,.nils] [(0,1,(.int .i64 1)),(1,1,(.int .i64 31))]) fun a2=>oh (stN 5 aq b a2) fun a3=>oa (ldN 5 a3 b) fun a4=>some (a4,a3)
 )
 (
 oa (binV .eql .scalar f (.int .u8 48)) fun a5=>cond2 a5
 (
 oa (buildV [.int .i64 0,.int .i64 0,.int .i64 0,.int .i64 0,.nils] [(0,1,(.int .i64 2))]) fun a6=>oh (stN 5 aq b a6) fun a7=>oa (ldN 5 a7 b) fun a8=>some (a8,a7)
 )
 (
 oa (binV .eql .scalar f (.int .u8 95)) fun a9=>cond2 a9
 (
 oa (buildV [.int .i64 0,.int .i64 0,.int .i64 0,.int .i64 0,.nils] [(0,1,(.int .i64 3))]) fun ba=>oh (stN 5 aq b ba) fun bb=>oa (ldN 5 bb b) fun bc=>some (bc,bb)
 )
 (
 oa (binV .eql .scalar f (.int .u8 91)) fun bd=>cond2 bd
 (
 ob (evalFn tab k g2_ [a] aq) fun be bf=>oh (stN 5 bf b be) fun bg=>oa (ldN 5 bg b) fun bi=>some (bi,bg)
 )
 (
 oa (binV .eql .scalar f (.int .u8 40)) fun bl=>cond2 bl
 (
 ob (evalFn tab k l7_ [a] aq) fun bm bn=>oh (stN 5 bn b bm) fun bo=>oa (ldN 5 bo b) fun bp=>some (bp,bo)
 )
 (
 oa (nilCk a) fun bq=>oa (fldA 1 bq) fun br=>oa (ld1 aq br) fun bs=>oa (binV .sub .scalar bs (.int .i64 1)) fun bt=>oa (nilCk a) fun bu=>oa (fldA 1 bu) fun bv=>oh (stN 1 aq bv bt) fun bw=>ob (evalFn tab k a9_ [a,(.int .i64 3)] bw) fun bx bz=>oh (stN 5 bz b bx) fun b0=>oa (ldN 5 b0 b) fun b1=>some (b1,b0)
 )
 )
 )
 )
 )
 )
 )
 ):=fnEq
def d5_:=bk tab tbl d7_ 0 [j0] [a,b,c,d,e,f] h k
def t3_:=bk tab tbl d7_ 1 [] [a,b,c,d,e] h k
theorem a0C:t3_ k a b c d e h =
 oa (idxA 2 1 e (.int .i64 0)) fun f=>oa (ld1 h f) fun g=>oa (idxA 2 1 e (.int .i64 1)) fun i=>oa (ld1 h i) fun l=>oa (binV .gtr .scalar g l) fun m=>cond2 m
 (
 oa (nilCk a) fun n=>oa (fldA 1 n) fun o=>oh (stN 1 h o d) fun p=>ob (evalFn tab k a9_ [a,(.int .i64 3)] p) fun q r=>oh (stN 5 r c q) fun s=>oa (ldN 5 s c) fun t=>some (t,s)
 )
 (
 oa (idxA 2 1 e (.int .i64 0)) fun u=>oa (ld1 h u) fun v=>oa (idxA 2 1 e (.int .i64 1)) fun w=>oa (ld1 h w) fun x=>oa (ldN 5 h b) fun y=>ob (buildSl 5 1 [.int .i64 0,.int .i64 0,.int .i64 0,.int .i64 0,.nils] [(0,5,y)] h) fun z aa=>oa (buildV [.int .i64 0,.int .i64 0,.int .i64 0,.int .i64 0,.nils] [(0,1,(.int .i64 9)),(2,1,v),(3,1,x),(4,1,z)]) fun ab=>oh (stN 5 aa c ab) fun ac=>oa (ldN 5 ac c) fun ad=>some (ad,ac)
 ):=bkEq
theorem q5_:d5_ k (j0+1) a b c d e f h =
 oa (binV .lss .scalar f (.int .i64 2)) fun g=>cond2 g
 (
 ob (evalFn tab k a6_ [a] h) fun i l=>oa (extr 0 i) fun m=>oa (extr 1 i) fun n=>oa (unV .not n) fun o=>ob (gd o false (some (m,l)) l) fun p q=>ob (gd o false (pure1 q (binV .lss .scalar p (.int .u8 48))) q) fun r s=>oa (pickV o (.bool true) r) fun t=>ob (gd t false (some (m,s)) s) fun u v=>ob (gd t false (pure1 v (binV .gtr .scalar u (.int .u8 57))) v) fun w x=>oa (pickV t (.bool true) w) fun y=>cond2 y
 (
 cond2 n
 (
 oa (nilCk a) fun z=>oa (fldA 1 z) fun aa=>oh (stN 1 x aa d) fun ab=>ob (evalFn tab k a9_ [a,(.int .i64 3)] ab) fun ac ad=>oh (stN 5 ad c ac) fun ae=>oa (ldN 5 ae c) fun af=>some (af,ae)
 )
 (
 ob (evalFn tab k a9_ [a,(.int .i64 3)] x) fun ag ai=>oh (stN 5 ai c ag) fun al=>oa (ldN 5 al c) fun am=>some (am,al)
 )
 )
 (
 oa (binV .sub .scalar m (.int .u8 48)) fun an=>oa (convV .i64 an) fun ao=>oa (idxA 2 1 e f) fun ap=>oh (stN 1 x ap ao) fun aq=>oa (nilCk a) fun ar=>oa (fldA 1 ar) fun au=>oa (ld1 aq au) fun av=>oa (binV .add .scalar av (.int .i64 1)) fun aw=>oa (nilCk a) fun ax=>oa (fldA 1 ax) fun ay=>oh (stN 1 aq ay aw) fun az=>ob (evalFn tab k a6_ [a] az) fun a0 a1=>oa (extr 0 a0) fun a2=>oa (extr 1 a0) fun a3=>oa (unV .not a3) fun a4=>ob (gd a4 false (some (a2,a1)) a1) fun a5 a6=>ob (gd a4 false (pure1 a6 (buildV [.int .u8 0,.int .u8 0] [(0,1,(.int .u8 44)),(1,1,(.int .u8 125))])) a6) fun a7 a8=>ob (gd a4 false (some (f,a8)) a8) fun a9 ba=>ob (gd a4 false (pure1 ba (ixA 2 1 none a7 a9)) ba) fun bb bc=>ob (gd a4 false (pure1 bc (binV .neq .scalar a5 bb)) bc) fun bd be=>oa (pickV a4 (.bool true) bd) fun bf=>cond2 bf
 (
 ob (evalFn tab k a9_ [a,(.int .i64 3)] be) fun bg bi=>oh (stN 5 bi c bg) fun bl=>oa (ldN 5 bl c) fun bm=>some (bm,bl)
 )
 (
 oa (nilCk a) fun bn=>oa (fldA 1 bn) fun bo=>oa (ld1 be bo) fun bp=>oa (binV .add .scalar bp (.int .i64 1)) fun bq=>oa (nilCk a) fun br=>oa (fldA 1 br) fun bs=>oh (stN 1 be bs bq) fun bt=>oa (binV .add .scalar f (.int .i64 1)) fun bu=>d5_ k j0 a b c d e bu bt
 )
 )
 )
 (
 t3_ k a b c d e h
 ):=bkEq
theorem a1f:evalFn tab (k+1) d7_ [a,b] h =
 ob (newVar h (AV.cells b)) fun c d=>ob (newVar d [.int .i64 0,.int .i64 0,.int .i64 0,.int .i64 0,.nils]) fun e f=>oa (nilCk a) fun g=>oa (fldA 1 g) fun i=>oa (ld1 f i) fun l=>oa (binV .sub .scalar l (.int .i64 1)) fun m=>ob (newVar f [.int .i64 0,.int .i64 0]) fun n o=>d5_ k k a c e m n (.int .i64 0) o:=fnEq
def n9_:=bk tab tbl e1_ 0 [j0] [a,b] h k
theorem z7_:n9_ k (j0+1) a b h =
 oa (binV .lss .scalar b (.int .i64 5)) fun c=>cond2 c
 (
 oa (ixS (.str ⟨#[119,98,99,102,116]⟩) b) fun d=>oa (binV .eql .scalar d a) fun e=>cond2 e
 (
 some (b,h)
 )
 (
 oa (binV .add .scalar b (.int .i64 1)) fun f=>n9_ k j0 a f h
 )
 )
 (
 some ((.int .i64 (-1)),h)
 ):=bkEq
theorem a3H:evalFn tab (k+1) e1_ [a] h =
 n9_ k k a (.int .i64 0) h:=fnEq
def f7_:=bk tab tbl g2_ 0 [j0] [a,b,c] h k
theorem a0D:f7_ k (j0+1) a b c h =
 ob (evalFn tab k a6_ [a] h) fun d e=>oa (extr 0 d) fun f=>oa (extr 1 d) fun g=>ob (gd g true (some (f,e)) e) fun i l=>ob (gd g true (pure1 l (binV .eql .scalar i (.int .u8 93))) l) fun m n=>oa (pickV g m (.bool false)) fun o=>ob (gd o true (some (c,n)) n) fun p q=>ob (gd o true (pure1 q (binV .gtr .scalar p (.int .i64 0))) q) fun r s=>oa (pickV o r (.bool false)) fun t=>cond2 t
 (
 oa (nilCk a) fun u=>oa (fldA 1 u) fun v=>oa (ld1 s v) fun w=>oa (binV .add .scalar w (.int .i64 1)) fun x=>oa (nilCk a) fun y=>oa (fldA 1 y) fun z=>oh (stN 1 s z x) fun aa=>oa (buildV [.int .i64 0,.int .i64 0,.int .i64 0,.int .i64 0,.nils] [(0,1,(.int .i64 1)),(1,1,c)]) fun ab=>oh (stN 5 aa b ab) fun ac=>oa (ldN 5 ac b) fun ad=>some (ad,ac)
 )
 (
 oa (unV .not g) fun ae=>ob (gd ae false (some (f,s)) s) fun af ag=>ob (gd ae false (evalFn tab k e1_ [af] ag) ag) fun ai al=>ob (gd ae false (pure1 al (binV .lss .scalar ai (.int .i64 0))) al) fun am an=>oa (pickV ae (.bool true) am) fun ao=>cond2 ao
 (
 ob (evalFn tab k a9_ [a,(.int .i64 3)] an) fun ap aq=>oh (stN 5 aq b ap) fun ar=>oa (ldN 5 ar b) fun au=>some (au,ar)
 )
 (
 ob (evalFn tab k e1_ [f] an) fun av aw=>oa (convV .u64 av) fun ax=>oa (binV .shl .scalar (.int .i64 1) ax) fun ay=>oa (binV .or .scalar c ay) fun az=>oa (nilCk a) fun a0=>oa (fldA 1 a0) fun a1=>oa (ld1 aw a1) fun a2=>oa (binV .add .scalar a2 (.int .i64 1)) fun a3=>oa (nilCk a) fun a4=>oa (fldA 1 a4) fun a5=>oh (stN 1 aw a5 a3) fun a6=>f7_ k j0 a b az a6
 )
 ):=bkEq
theorem a1g:evalFn tab (k+1) g2_ [a] h =
 ob (newVar h [.int .i64 0,.int .i64 0,.int .i64 0,.int .i64 0,.nils]) fun b c=>f7_ k k a b (.int .i64 0) c:=fnEq
theorem a1h:evalFn tab (k+1) l7_ [a] h =
 ob (newVar h [.int .i64 0,.int .i64 0,.int .i64 0,.int .i64 0,.nils]) fun b c=>oa (nilCk a) fun d=>oa (fldA 2 d) fun e=>oa (ld1 c e) fun f=>oa (binV .add .scalar f (.int .i64 1)) fun g=>oa (nilCk a) fun i=>oa (fldA 2 i) fun l=>oh (stN 1 c l g) fun m=>ob (evalFn tab k c5_ [a] m) fun n o=>ob (newVar o [.int .i64 0,.int .i64 0,.int .i64 0,.int .i64 0,.nils]) fun p q=>oh (stN 5 q p n) fun r=>ob (evalFn tab k a6_ [a] r) fun s t=>oa (extr 0 s) fun u=>oa (extr 1 s) fun v=>oa (unV .not v) fun w=>ob (gd w false (some (u,t)) t) fun x y=>ob (gd w false (pure1 y (binV .neq .scalar x (.int .u8 41))) y) fun z aa=>oa (pickV w (.bool true) z) fun ab=>cond2 ab
 (
 ob (evalFn tab k a9_ [a,(.int .i64 3)] aa) fun ac ad=>oh (stN 5 ad b ac) fun ae=>oa (ldN 5 ae b) fun af=>some (af,ae)
 )
 (
 oa (nilCk a) fun ag=>oa (fldA 1 ag) fun ai=>oa (ld1 aa ai) fun al=>oa (binV .add .scalar al (.int .i64 1)) fun am=>oa (nilCk a) fun an=>oa (fldA 1 an) fun ao=>oh (stN 1 aa ao am) fun ap=>oa (nilCk a) fun aq=>oa (fldA 2 aq) fun ar=>oa (ld1 ap ar) fun au=>oa (binV .sub .scalar au (.int .i64 1)) fun av=>oa (nilCk a) fun aw=>oa (fldA 2 aw) fun ax=>oh (stN 1 ap ax av) fun ay=>oa (ldN 5 ay p) fun az=>oh (stN 5 ay b az) fun a0=>oa (ldN 5 a0 b) fun a1=>some (a1,a0)
 ):=fnEq
theorem a3V:evalFn tab (k+1) w4_ [a,b] h =
 ob (newVar h (AV.cells a)) fun c d=>ob (newVar d (AV.cells b)) fun e f=>oa (fldA 1 c) fun g=>oa (ld1 f g) fun i=>oa (fldA 1 e) fun l=>oa (ld1 f l) fun m=>oa (binV .neq .scalar i m) fun n=>cond2 n
 (
 oa (fldA 1 c) fun o=>oa (ld1 f o) fun p=>oa (fldA 1 e) fun q=>oa (ld1 f q) fun r=>oa (binV .lss .scalar p r) fun s=>some (s,f)
 )
 (
 oa (fldA 0 c) fun t=>oa (ld1 f t) fun u=>oa (fldA 0 e) fun v=>oa (ld1 f v) fun w=>oa (binV .lss .scalar u w) fun x=>some (x,f)
 ):=fnEq
theorem a3W:evalFn tab (k+1) w5_ [a,b,c] h =
 oa (nilCk a) fun d=>oa (fldA 0 d) fun e=>oa (ld1 h e) fun f=>oa (idxS 2 f b) fun g=>oa (ldN 2 h g) fun i=>oa (nilCk a) fun l=>oa (fldA 0 l) fun m=>oa (ld1 h m) fun n=>oa (idxS 2 n c) fun o=>oa (ldN 2 h o) fun p=>ob (callVal (evalFn tab k) (.fn w4_ [] []) [i,p] h) fun q r=>some (q,r):=fnEq
theorem a4j:evalFn tab (k+1) y7_ [a] h =
 oa (nilCk a) fun b=>oa (fldA 0 b) fun c=>oa (ld1 h c) fun d=>oa (lenS d) fun e=>oa (binV .sub .scalar e (.int .i64 1)) fun f=>oa (nilCk a) fun g=>oa (fldA 0 g) fun i=>oa (ld1 h i) fun l=>oa (idxS 2 l f) fun m=>oa (ldN 2 h m) fun n=>ob (newVar h [.int .i64 0,.int .i64 0]) fun o p=>oh (stN 2 p o n) fun q=>oa (nilCk a) fun r=>oa (fldA 0 r) fun s=>oa (ld1 q s) fun t=>oa (slSl 2 t none (some f) none) fun u=>oa (nilCk a) fun v=>oa (fldA 0 v) fun w=>oh (stN 1 q w u) fun x=>oa (nilCk a) fun y=>oa (fldA 1 y) fun z=>oa (ld1 x z) fun aa=>oa (fldA 0 o) fun ab=>oa (ld1 x ab) fun ac=>oa (idxS 1 aa ac) fun ad=>oh (stN 1 x ad (.int .i64 (-1))) fun ae=>oa (ldN 2 ae o) fun af=>some ((.ifc 198 af),ae):=fnEq
theorem a3X:evalFn tab (k+1) w6_ [a,b] h =
 oa (tAssert 198 (.agg [.int .i64 0,.int .i64 0]) true b) fun c=>oa (extr 0 c) fun d=>oa (extr 1 c) fun e=>ob (newVar h [.int .i64 0,.int .i64 0]) fun f g=>oh (stN 2 g f d) fun i=>cond2 e
 (
 oa (nilCk a) fun l=>oa (fldA 1 l) fun m=>oa (ld1 i m) fun n=>oa (fldA 0 f) fun o=>oa (ld1 i o) fun p=>oa (nilCk a) fun q=>oa (fldA 0 q) fun r=>oa (ld1 i r) fun s=>oa (lenS s) fun t=>oa (idxS 1 n p) fun u=>oh (stN 1 i u t) fun v=>oa (nilCk a) fun w=>oa (fldA 0 w) fun x=>oa (ld1 v x) fun y=>oa (ldN 2 v f) fun z=>ob (buildSl 2 1 [.int .i64 0,.int .i64 0] [(0,2,z)] v) fun aa ab=>ob (apnd 2 16 y aa ab) fun ac ad=>oa (nilCk a) fun ae=>oa (fldA 0 ae) fun af=>oh (stN 1 ad af ac) fun ag=>some (.tup [],ag)
 )
 (
 some (.tup [],i)
 ):=fnEq
theorem a3Y:evalFn tab (k+1) q8_ [a,b,c] h =
 oa (nilCk a) fun d=>oa (fldA 0 d) fun e=>oa (ld1 h e) fun f=>oa (nilCk a) fun g=>oa (fldA 0 g) fun i=>oa (ld1 h i) fun l=>oa (nilCk a) fun m=>oa (fldA 0 m) fun n=>oa (ld1 h n) fun o=>oa (idxS 2 o c) fun p=>oa (ldN 2 h p) fun q=>oa (nilCk a) fun r=>oa (fldA 0 r) fun s=>oa (ld1 h s) fun t=>oa (idxS 2 t b) fun u=>oa (ldN 2 h u) fun v=>oa (idxS 2 f b) fun w=>oh (stN 2 h w q) fun x=>oa (idxS 2 l c) fun y=>oh (stN 2 x y v) fun z=>oa (nilCk a) fun aa=>oa (fldA 1 aa) fun ab=>oa (ld1 z ab) fun ac=>oa (nilCk a) fun ad=>oa (fldA 0 ad) fun ae=>oa (ld1 z ae) fun af=>oa (idxS 2 af b) fun ag=>oa (fldA 0 ag) fun ai=>oa (ld1 z ai) fun al=>oa (nilCk a) fun am=>oa (fldA 1 am) fun an=>oa (ld1 z an) fun ao=>oa (nilCk a) fun ap=>oa (fldA 0 ap) fun aq=>oa (ld1 z aq) fun ar=>oa (idxS 2 ar c) fun au=>oa (fldA 0 au) fun av=>oa (ld1 z av) fun aw=>oa (idxS 1 ac al) fun ax=>oh (stN 1 z ax b) fun ay=>oa (idxS 1 ao aw) fun az=>oh (stN 1 ay az c) fun a0=>some (.tup [],a0):=fnEq
theorem a3I:evalFn tab (k+1) v2_ [a,b] h =
 oa (binV .lss .scalar b (.int .i64 0)) fun c=>ob (gd c false (some (b,h)) h) fun d e=>ob (gd c false (some (a,e)) e) fun f g=>ob (gd c false (pure1 g (nilCk f)) g) fun i l=>ob (gd c false (pure1 l (fldA 1 i)) l) fun m n=>ob (gd c false (pure1 n (ld1 n m)) n) fun o p=>ob (gd c false (pure1 p (lenS o)) p) fun q r=>ob (gd c false (pure1 r (binV .geq .scalar d q)) r) fun s t=>oa (pickV c (.bool true) s) fun u=>cond2 u
 (
 some ((.int .i64 (-1)),t)
 )
 (
 oa (nilCk a) fun v=>oa (fldA 1 v) fun w=>oa (ld1 t w) fun x=>oa (idxS 1 x b) fun y=>oa (ld1 t y) fun z=>some (z,t)
 ):=fnEq
end
end Go.Gm.AQ
namespace Go.Gm.AQ
open Go Go.Gm
theorem i0_ {a n:Int}(hn:0<n)(hf:Fit n)(h:Heap):Tot tab a7_ [I a,I n] h fun v h'=>v=I (a % n)/\h=h':=by
 refine WP.tot (fun k=>a2L k _ _ h) ?_
 refine WP.oa (a4D a n (by omega)) ?_
 refine WP.oa (a3v _ _) ?_
 have hlt:=Int.tmod_lt_of_pos a hn
 have hgt:=Int.lt_tmod_of_pos a hn
 have h1:=Int.tmod_eq_emod (a:=a) (b:=n)
 have h2:=Int.emod_nonneg a (by omega:n≠0)
 have h3:=Int.emod_lt_of_pos a hn
 by_cases h0:a.tmod n<0
 ·simp only[decide_eq_true h0,cond2_true]
  refine WP.oa (a4C _ _ (by unfold Fit at *; omega)) (WP.ret ⟨?_,rfl⟩)
  congr 1
  split at h1<;>omega
 ·simp only[decide_eq_false h0,cond2_false]
  refine WP.ret ⟨?_,rfl⟩
  congr 1
  split at h1<;>omega
theorem z8_ {a n:Int}(hn:0<n)(hf:Fit n)(h:Heap):Tot tab d3_ [I a,I n] h fun v h'=>v=I (a % n)/\h=h':=by
 refine WP.tot (fun k=>a2K k _ _ h) ?_
 refine WP.oa (a4D a n (by omega)) ?_
 refine WP.oa (a3v _ _) ?_
 have hlt:=Int.tmod_lt_of_pos a hn
 have hgt:=Int.lt_tmod_of_pos a hn
 have h1:=Int.tmod_eq_emod (a:=a) (b:=n)
 have h2:=Int.emod_nonneg a (by omega:n≠0)
 have h3:=Int.emod_lt_of_pos a hn
 by_cases h0:a.tmod n<0
 ·simp only[decide_eq_true h0,cond2_true]
  refine WP.oa (a4C _ _ (by unfold Fit at *; omega)) (WP.ret ⟨?_,rfl⟩)
  congr 1
  split at h1<;>omega
 ·simp only[decide_eq_false h0,cond2_false]
  refine WP.ret ⟨?_,rfl⟩
  congr 1
  split at h1<;>omega
end Go.Gm.AQ
