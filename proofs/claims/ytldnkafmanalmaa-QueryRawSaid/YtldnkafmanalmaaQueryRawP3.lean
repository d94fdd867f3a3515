/- A part of the proof (GmAQe3, GmAQe4, GmAQe5, GmAQe6, GmAQe7, GmAQT, GmAQP, GmAQQ). -/
import Derived.Test.YtldnkafmanalmaaQueryRawP2
set_option linter.unusedVariables false
set_option linter.unusedSimpArgs false
set_option linter.unusedSectionVars false
namespace Go.Gm.AQ
open Go Go.Gm
noncomputable section
variable (k j0 j1 j2 j3:Nat) (a b c d e f g i l m:AV) (h:Heap)
def k6_:=bk tab tbl c1_ 0 [j0] [a,b,c,d,e] h k
def q0_:=bk tab tbl c1_ 1 [] [a,b,c] h k
def k7_:=bk tab tbl c1_ 2 [j0] [a,b,c,d,e] h k
theorem u8_:k7_ k (j0+1) a b c d e h =
 oa (binV .lss .scalar e d) fun f=>cond2 f
 (
 oa (idxS 2 c e) fun g=>oa (ldN 2 h g) fun i=>ob (newVar h [.int .i64 0,.int .i64 0]) fun l m=>oh (stN 2 m l i) fun n=>oa (nilCk b) fun o=>oa (fldA 2 o) fun p=>oa (ld1 n p) fun q=>oa (ldN 2 n l) fun r=>ob (evalFn tab k l0_ [a,r] n) fun s t=>chk ((sameB (pure1 t (ld1 t p)) q && true)) <|ob (evalFn tab k e5_ [q,s,(.int .i64 0)] t) fun u v=>oa (binV .add .scalar e (.int .i64 1)) fun w=>k7_ k j0 a b c d w v
 )
 (
 some (b,h)
 ):=bkEq
theorem a1q:q0_ k a b c h =
 oa (lenS b) fun d=>k7_ k k a c b d (.int .i64 0) h:=bkEq
theorem u9_:k6_ k (j0+1) a b c d e h =
 oa (binV .lss .scalar e d) fun f=>cond2 f
 (
 oa (nilCk c) fun g=>oa (fldA 3 g) fun i=>oa (ld1 h i) fun l=>oa (nilCk c) fun m=>oa (fldA 4 m) fun n=>oa (ld1 h n) fun o=>oa (nilCk c) fun p=>oa (fldA 5 p) fun q=>oa (ld1 h q) fun r=>oa (idxS 1 l e) fun s=>oh (stN 1 h s (.int .i64 (-1))) fun t=>oa (idxS 1 o e) fun u=>oh (stN 1 t u (.int .i64 (-1))) fun v=>oa (idxS 1 r e) fun w=>oh (stN 1 v w (.int .i64 (-1))) fun x=>oa (binV .add .scalar e (.int .i64 1)) fun y=>k6_ k j0 a b c d y x
 )
 (
 q0_ k a b c h
 ):=bkEq
theorem a2u:evalFn tab (k+1) c1_ [a,b,c] h =
 oa (nilCk a) fun d=>oa (fldA 0 d) fun e=>oa (fldA 0 e) fun f=>oa (ld1 h f) fun g=>oa (mmV true g (.int .i64 0)) fun i=>oa (nilCk a) fun l=>oa (fldA 3 l) fun m=>oa (fldA 0 m) fun n=>oa (ld1 h n) fun o=>oa (lenS o) fun p=>oa (binV .mul .scalar i p) fun q=>ob (mkSl [.int .i64 0] 1 8 q q h) fun r s=>ob (mkSl [.int .i64 0] 1 8 q q s) fun t u=>ob (mkSl [.int .i64 0] 1 8 q q u) fun v w=>ob (evalFn tab k y8_ [q] w) fun x y=>oa (buildV [.nilp,.nilfn,.nilp,.nils,.nils,.nils,.int .i64 0] [(0,1,a),(1,1,b),(2,1,x),(3,1,r),(4,1,t),(5,1,v)]) fun z=>ob (newVar y (AV.cells z)) fun aa ab=>oa (nilCk aa) fun ac=>oa (fldA 3 ac) fun ad=>oa (ld1 ab ad) fun ae=>oa (lenS ae) fun af=>k6_ k k a c aa af (.int .i64 0) ab:=fnEq
def n5_:=bk tab tbl g8_ 0 [j0] [a,b,c,d,e,f] h k
theorem z0_:n5_ k (j0+1) a b c d e f h =
 oa (binV .lss .scalar f e) fun g=>cond2 g
 (
 oa (idxS 1 d f) fun i=>oa (ld1 h i) fun l=>oa (nilCk a) fun m=>oa (fldA 0 m) fun n=>oa (fldA 1 n) fun o=>oa (ld1 h o) fun p=>oa (idxS 4 p l) fun q=>oa (ldN 4 h q) fun r=>ob (newVar h [.int .i64 0,.int .i64 0,.int .i64 0,.int .i64 0]) fun s t=>oh (stN 4 t s r) fun u=>oa (fldA 1 s) fun v=>oa (ld1 u v) fun w=>oa (nilCk a) fun x=>oa (fldA 3 x) fun y=>oa (fldA 0 y) fun z=>oa (ld1 u z) fun aa=>oa (fldA 1 b) fun ab=>oa (ld1 u ab) fun ac=>oa (fldA 2 s) fun ad=>oa (ld1 u ad) fun ae=>oa (idxS 5 aa ac) fun af=>oa (idxA 5 1 af ae) fun ag=>oa (ld1 u ag) fun ai=>oa (buildV [.int .i64 0,.int .i64 0] [(0,1,w),(1,1,ai)]) fun al=>oa (buildV [.int .i64 0,.int .i64 0,.int .i64 0] [(0,2,al),(2,1,l)]) fun am=>ob (buildSl 3 1 [.int .i64 0,.int .i64 0,.int .i64 0] [(0,3,am)] u) fun an ao=>ob (apnd 3 24 c an ao) fun ap aq=>oa (binV .add .scalar f (.int .i64 1)) fun ar=>n5_ k j0 a b ap d e ar aq
 )
 (
 some (c,h)
 ):=bkEq
theorem a3t:evalFn tab (k+1) g8_ [a,b] h =
 ob (newVar h (AV.cells b)) fun c d=>oa (nilCk a) fun e=>oa (fldA 2 e) fun f=>oa (ld1 d f) fun g=>oa (fldA 0 c) fun i=>oa (ld1 d i) fun l=>ob (evalFn tab k a0T [g,l] d) fun m n=>oa (lenS m) fun o=>n5_ k k a c .nils m o (.int .i64 0) n:=fnEq
def l7_:=bk tab tbl e3_ 0 [j0] [a] h k
theorem w7_:l7_ k (j0+1) a h =
 ob (evalFn tab k d3_ [a] h) fun b c=>oa (extr 0 b) fun d=>oa (extr 1 b) fun e=>oa (unV .not e) fun f=>cond2 f
 (
 some (.tup [],c)
 )
 (
 l7_ k j0 a c
 ):=bkEq
theorem a2H:evalFn tab (k+1) e3_ [a] h =
 l7_ k k a h:=fnEq
def f2_:=bk tab tbl g9_ 0 [j0] [a,b,c,d,e,f] h k
theorem v0_:f2_ k (j0+1) a b c d e f h =
 oa (binV .lss .scalar f e) fun g=>cond2 g
 (
 oa (idxS 1 d f) fun i=>oa (ld1 h i) fun l=>oa (nilCk a) fun m=>oa (fldA 0 m) fun n=>oa (ld1 h n) fun o=>oa (buildV [.int .i64 0,.int .i64 0] [(0,1,b),(1,1,f)]) fun p=>ob (evalFn tab k l0_ [o,p] h) fun q r=>ob (gd l true (some (a,r)) r) fun s t=>ob (gd l true (pure1 t (nilCk s)) t) fun u v=>ob (gd l true (pure1 v (fldA 3 u)) v) fun w x=>ob (gd l true (pure1 x (ld1 x w)) x) fun y z=>ob (gd l true (some (q,z)) z) fun aa ab=>ob (gd l true (pure1 ab (idxS 1 y aa)) ab) fun ac ad=>ob (gd l true (pure1 ad (ld1 ad ac)) ad) fun ae af=>ob (gd l true (pure1 af (binV .geq .scalar ae (.int .i64 0))) af) fun ag ai=>oa (pickV l ag (.bool false)) fun al=>ob (gd al true (some (c,ai)) ai) fun am an=>ob (gd al true (pure1 an (binV .lss .scalar am (.int .i64 0))) an) fun ao ap=>ob (gd al true (some (ao,ap)) ap) fun aq ar=>ob (gd aq false (some (a,ar)) ar) fun au av=>ob (gd aq false (pure1 av (nilCk au)) av) fun aw ax=>ob (gd aq false (pure1 ax (fldA 3 aw)) ax) fun ay az=>ob (gd aq false (pure1 az (ld1 az ay)) az) fun a0 a1=>ob (gd aq false (some (q,a1)) a1) fun a2 a3=>ob (gd aq false (pure1 a3 (idxS 1 a0 a2)) a3) fun a4 a5=>ob (gd aq false (pure1 a5 (ld1 a5 a4)) a5) fun a6 a7=>ob (gd aq false (some (a,a7)) a7) fun a8 a9=>ob (gd aq false (pure1 a9 (nilCk a8)) a9) fun ba bb=>ob (gd aq false (pure1 bb (fldA 3 ba)) bb) fun bc bd=>ob (gd aq false (pure1 bd (ld1 bd bc)) bd) fun be bf=>ob (gd aq false (some (c,bf)) bf) fun bg bi=>ob (gd aq false (pure1 bi (idxS 1 be bg)) bi) fun bl bm=>ob (gd aq false (pure1 bm (ld1 bm bl)) bm) fun bn bo=>ob (gd aq false (pure1 bo (binV .lss .scalar a6 bn)) bo) fun bp bq=>ob (gd al true (pure1 bq (pickV aq (.bool true) bp)) bq) fun br bs=>oa (pickV al br (.bool false)) fun bt=>cond2 bt
 (
 oa (binV .add .scalar f (.int .i64 1)) fun bu=>f2_ k j0 a b q d e bu bs
 )
 (
 oa (binV .add .scalar f (.int .i64 1)) fun bv=>f2_ k j0 a b c d e bv bs
 )
 )
 (
 some (c,h)
 ):=bkEq
theorem a2v:evalFn tab (k+1) g9_ [a,b] h =
 oa (nilCk a) fun c=>oa (fldA 0 c) fun d=>oa (ld1 h d) fun e=>oa (nilCk e) fun f=>oa (fldA 3 f) fun g=>oa (fldA 1 g) fun i=>oa (ld1 h i) fun l=>oa (lenS l) fun m=>f2_ k k a b (.int .i64 (-1)) l m (.int .i64 0) h:=fnEq
def f3_:=bk tab tbl a6_ 0 [j0] [a,b,c,d,e] h k
def k8_:=bk tab tbl a6_ 1 [j0,j1] [a,b,c,d,e,f] h k
def q1_:=bk tab tbl a6_ 2 [j0] [a,b,c,d,e] h k
def q2_:=bk tab tbl a6_ 3 [] [a,b,c,d] h k
def f4_:=bk tab tbl a6_ 4 [j0] [a,b,c,d] h k
def k9_:=bk tab tbl a6_ 5 [j0,j1] [a,b,c,d,e] h k
def f5_:=bk tab tbl a6_ 6 [j0,j1,j2] [a,b,c,d,e,f,g] h k
def q3_:=bk tab tbl a6_ 7 [j0,j1] [a,b,c,d,e] h k
theorem a1r:q1_ k j0 a b c d e h =
 oa (binV .add .scalar e (.int .i64 1)) fun f=>f3_ k j0 a b c d f h:=bkEq
theorem v1_:k8_ k j0 (j1+1) a b c d e f h =
 oa (fldA 0 c) fun g=>oa (ld1 h g) fun i=>oa (lenS i) fun l=>oa (binV .lss .scalar f l) fun m=>cond2 m
 (
 oa (idxS 1 d e) fun n=>oa (ld1 h n) fun o=>ob (buildSl 1 1 [.int .i64 0] [(0,1,(.int .i64 (-1)))] h) fun p q=>ob (apnd 1 8 o p q) fun r s=>oa (idxS 1 d e) fun t=>oh (stN 1 s t r) fun u=>oa (binV .add .scalar f (.int .i64 1)) fun v=>k8_ k j0 j1 a b c d e v u
 )
 (
 q1_ k j0 a b c d e h
 ):=bkEq
theorem a1s:q3_ k j0 j1 a b c d e h =
 oa (binV .add .scalar e (.int .i64 1)) fun f=>k9_ k j0 j1 a b c d f h:=bkEq
theorem v2_:f5_ k j0 j1 (j2+1) a b c d e f g h =
 oa (fldA 0 b) fun i=>oa (ld1 h i) fun l=>oa (lenS l) fun m=>oa (binV .lss .scalar g m) fun n=>cond2 n
 (
 oa (fldA 0 b) fun o=>oa (ld1 h o) fun p=>oa (fldA 2 f) fun q=>oa (ld1 h q) fun r=>oa (idxS 5 p g) fun s=>oa (idxA 5 1 s r) fun t=>oa (ld1 h t) fun u=>oa (fldA 0 f) fun v=>oa (ld1 h v) fun w=>oa (idxS 1 c w) fun x=>oa (ld1 h x) fun y=>oa (idxS 1 y g) fun z=>oa (ld1 h z) fun aa=>oa (binV .geq .scalar aa (.int .i64 0)) fun ab=>ob (gd ab true (some (c,h)) h) fun ac ad=>ob (gd ab true (pure1 ad (fldA 1 f)) ad) fun ae af=>ob (gd ab true (pure1 af (ld1 af ae)) af) fun ag ai=>ob (gd ab true (pure1 ai (idxS 1 ac ag)) ai) fun al am=>ob (gd ab true (pure1 am (ld1 am al)) am) fun an ao=>ob (gd ab true (some (u,ao)) ao) fun ap aq=>ob (gd ab true (pure1 aq (idxS 1 an ap)) aq) fun ar au=>ob (gd ab true (pure1 au (ld1 au ar)) au) fun av aw=>ob (gd ab true (pure1 aw (binV .lss .scalar av (.int .i64 0))) aw) fun ax ay=>ob (gd ab true (some (ax,ay)) ay) fun az a0=>ob (gd az false (some (c,a0)) a0) fun a1 a2=>ob (gd az false (pure1 a2 (fldA 1 f)) a2) fun a3 a4=>ob (gd az false (pure1 a4 (ld1 a4 a3)) a4) fun a5 a6=>ob (gd az false (pure1 a6 (idxS 1 a1 a5)) a6) fun a7 a8=>ob (gd az false (pure1 a8 (ld1 a8 a7)) a8) fun a9 ba=>ob (gd az false (some (u,ba)) ba) fun bb bc=>ob (gd az false (pure1 bc (idxS 1 a9 bb)) bc) fun bd be=>ob (gd az false (pure1 be (ld1 be bd)) be) fun bf bg=>ob (gd az false (some (c,bg)) bg) fun bi bl=>ob (gd az false (pure1 bl (fldA 0 f)) bl) fun bm bn=>ob (gd az false (pure1 bn (ld1 bn bm)) bn) fun bo bp=>ob (gd az false (pure1 bp (idxS 1 bi bo)) bp) fun bq br=>ob (gd az false (pure1 br (ld1 br bq)) br) fun bs bt=>ob (gd az false (some (g,bt)) bt) fun bu bv=>ob (gd az false (pure1 bv (idxS 1 bs bu)) bv) fun bw bx=>ob (gd az false (pure1 bx (ld1 bx bw)) bx) fun bz b0=>ob (gd az false (pure1 b0 (fldA 3 f)) b0) fun b1 b2=>ob (gd az false (pure1 b2 (ld1 b2 b1)) b2) fun b3 b4=>ob (gd az false (pure1 b4 (binV .add .scalar bz b3)) b4) fun b5 b6=>ob (gd az false (pure1 b6 (binV .gtr .scalar bf b5)) b6) fun b7 b8=>ob (gd ab true (pure1 b8 (pickV az (.bool true) b7)) b8) fun b9 ca=>oa (pickV ab b9 (.bool false)) fun cb=>cond2 cb
 (
 oa (fldA 1 f) fun cc=>oa (ld1 ca cc) fun cd=>oa (idxS 1 c cd) fun ce=>oa (ld1 ca ce) fun cf=>oa (fldA 0 f) fun cg=>oa (ld1 ca cg) fun ci=>oa (idxS 1 c ci) fun cl=>oa (ld1 ca cl) fun cm=>oa (idxS 1 cm g) fun cn=>oa (ld1 ca cn) fun co=>oa (fldA 3 f) fun cp=>oa (ld1 ca cp) fun cq=>oa (binV .add .scalar co cq) fun cr=>oa (idxS 1 cf u) fun cs=>oh (stN 1 ca cs cr) fun ct=>oa (binV .add .scalar g (.int .i64 1)) fun cu=>f5_ k j0 j1 j2 a b c (.bool true) e f cu ct
 )
 (
 oa (binV .add .scalar g (.int .i64 1)) fun cv=>f5_ k j0 j1 j2 a b c d e f cv ca
 )
 )
 (
 q3_ k j0 j1 a b c d e h
 ):=bkEq
theorem v3_:k9_ k j0 (j1+1) a b c d e h =
 oa (fldA 1 a) fun f=>oa (ld1 h f) fun g=>oa (lenS g) fun i=>oa (binV .lss .scalar e i) fun l=>cond2 l
 (
 oa (fldA 1 a) fun m=>oa (ld1 h m) fun n=>oa (idxS 4 n e) fun o=>oa (ldN 4 h o) fun p=>ob (newVar h [.int .i64 0,.int .i64 0,.int .i64 0,.int .i64 0]) fun q r=>oh (stN 4 r q p) fun s=>f5_ k j0 j1 k a b c d e q (.int .i64 0) s
 )
 (
 f4_ k j0 a b c d h
 ):=bkEq
theorem h4_:f4_ k (j0+1) a b c d h =
 cond2 d
 (
 k9_ k j0 k a b c (.bool false) (.int .i64 0) h
 )
 (
 some (c,h)
 ):=bkEq
theorem a1t:q2_ k a b c d h =
 oa (idxS 1 d a) fun e=>oa (ld1 h e) fun f=>oa (idxS 1 f (.int .i64 0)) fun g=>oh (stN 1 h g (.int .i64 0)) fun i=>f4_ k k b c d (.bool true) i:=bkEq
theorem v4_:f3_ k (j0+1) a b c d e h =
 oa (fldA 0 b) fun f=>oa (ld1 h f) fun g=>oa (binV .lss .scalar e g) fun i=>cond2 i
 (
 k8_ k j0 k a b c d e (.int .i64 0) h
 )
 (
 q2_ k a b c d h
 ):=bkEq
theorem a2w:evalFn tab (k+1) a6_ [a,b,c] h =
 ob (newVar h (AV.cells a)) fun d e=>ob (newVar e (AV.cells b)) fun f g=>oa (fldA 0 d) fun i=>oa (ld1 g i) fun l=>ob (mkSl [.nils] 1 24 l l g) fun m n=>f3_ k k c d f m (.int .i64 0) n:=fnEq
end
end Go.Gm.AQ
namespace Go.Gm.AQ
open Go Go.Gm
noncomputable section
variable (k j0 j1 j2 j3:Nat) (a b c d e f g i l m:AV) (h:Heap)
def j1_:=bk tab tbl e8_ 0 [j0] [a,b,c] h k
def o4_:=bk tab tbl e8_ 1 [] [a] h k
theorem a1a:o4_ k a h =
 ob (evalFn tab k i1_ [a] h) fun b c=>ob (evalFn tab k h0_ [a] c) fun d e=>some (d,e):=bkEq
theorem a1b:j1_ k (j0+1) a b c h =
 oa (nilCk a) fun d=>oa (fldA 5 d) fun e=>oa (ld1 h e) fun f=>oa (idxS 1 f b) fun g=>oa (ld1 h g) fun i=>oa (binV .geq .scalar i (.int .i64 0)) fun l=>cond2 l
 (
 oa (nilCk a) fun m=>oa (fldA 4 m) fun n=>oa (ld1 h n) fun o=>oa (idxS 1 o b) fun p=>oa (ld1 h p) fun q=>ob (buildSl 1 1 [.int .i64 0] [(0,1,q)] h) fun r s=>ob (apnd 1 8 c r s) fun t u=>oa (nilCk a) fun v=>oa (fldA 5 v) fun w=>oa (ld1 u w) fun x=>oa (idxS 1 x b) fun y=>oa (ld1 u y) fun z=>j1_ k j0 a z t u
 )
 (
 o4_ k c h
 ):=bkEq
theorem a1X:evalFn tab (k+1) e8_ [a,b] h =
 j1_ k k a b .nils h:=fnEq
def f6_:=bk tab tbl d3_ 0 [j0] [a,b,c,d,e,f] h k
def z1_:=bk tab tbl d3_ 1 [] [a] h k
theorem a1u:z1_ k a h =
 some (.tup [a,(.bool true)],h):=bkEq
theorem v5_:f6_ k (j0+1) a b c d e f h =
 oa (binV .lss .scalar f e) fun g=>cond2 g
 (
 oa (idxS 3 d f) fun i=>oa (ldN 3 h i) fun l=>ob (newVar h [.int .i64 0,.int .i64 0,.int .i64 0]) fun m n=>oh (stN 3 n m l) fun o=>oa (nilCk a) fun p=>oa (fldA 0 p) fun q=>oa (ld1 o q) fun r=>oa (fldA 0 m) fun s=>oa (ldN 2 o s) fun t=>ob (evalFn tab k l0_ [r,t] o) fun u v=>oa (nilCk a) fun w=>oa (fldA 3 w) fun x=>oa (ld1 v x) fun y=>oa (idxS 1 y u) fun z=>oa (ld1 v z) fun aa=>oa (binV .lss .scalar aa (.int .i64 0)) fun ab=>ob (gd ab true (some (a,v)) v) fun ac ad=>ob (gd ab true (pure1 ad (nilCk ac)) ad) fun ae af=>ob (gd ab true (pure1 af (fldA 2 ae)) af) fun ag ai=>ob (gd ab true (pure1 ai (ld1 ai ag)) ai) fun al am=>ob (gd ab true (some (u,am)) am) fun an ao=>ob (gd ab true (some (c,ao)) ao) fun ap aq=>ob (gd ab true (some (a,aq)) aq) fun ar au=>ob (gd ab true (pure1 au (nilCk ar)) au) fun av aw=>ob (gd ab true (pure1 aw (fldA 0 av)) aw) fun ax ay=>ob (gd ab true (pure1 ay (ld1 ay ax)) ay) fun az a0=>ob (gd ab true (pure1 a0 (nilCk az)) a0) fun a1 a2=>ob (gd ab true (pure1 a2 (fldA 0 a1)) a2) fun a3 a4=>ob (gd ab true (pure1 a4 (fldA 1 a3)) a4) fun a5 a6=>ob (gd ab true (pure1 a6 (ld1 a6 a5)) a6) fun a7 a8=>ob (gd ab true (pure1 a8 (fldA 2 m)) a8) fun a9 ba=>ob (gd ab true (pure1 ba (ld1 ba a9)) ba) fun bb bc=>ob (gd ab true (pure1 bc (idxS 4 a7 bb)) bc) fun bd be=>ob (gd ab true (pure1 be (fldA 3 bd)) be) fun bf bg=>ob (gd ab true (pure1 bg (ld1 bg bf)) bg) fun bi bl=>ob (gd ab true (pure1 bl (binV .add .scalar ap bi)) bl) fun bm bn=>ob (gd ab true (evalFn tab k e5_ [al,an,bm] bn) bn) fun bo bp=>oa (pickV ab bo (.bool false)) fun bq=>cond2 bq
 (
 oa (nilCk a) fun br=>oa (fldA 4 br) fun bs=>oa (ld1 bp bs) fun bt=>oa (nilCk a) fun bu=>oa (fldA 5 bu) fun bv=>oa (ld1 bp bv) fun bw=>oa (fldA 2 m) fun bx=>oa (ld1 bp bx) fun bz=>oa (idxS 1 bt u) fun b0=>oh (stN 1 bp b0 bz) fun b1=>oa (idxS 1 bw u) fun b2=>oh (stN 1 b1 b2 b) fun b3=>oa (binV .add .scalar f (.int .i64 1)) fun b4=>f6_ k j0 a b c d e b4 b3
 )
 (
 oa (binV .add .scalar f (.int .i64 1)) fun b5=>f6_ k j0 a b c d e b5 bp
 )
 )
 (
 z1_ k b h
 ):=bkEq
theorem a2x:evalFn tab (k+1) d3_ [a] h =
 oa (nilCk a) fun b=>oa (fldA 2 b) fun c=>oa (ld1 h c) fun d=>ob (evalFn tab k m1_ [d] h) fun e f=>oa (extr 0 e) fun g=>oa (extr 1 e) fun i=>oa (extr 2 e) fun l=>oa (unV .not l) fun m=>cond2 m
 (
 some (.tup [(.int .i64 0),(.bool false)],f)
 )
 (
 oa (nilCk a) fun n=>oa (fldA 3 n) fun o=>oa (ld1 f o) fun p=>oa (idxS 1 p g) fun q=>oh (stN 1 f q i) fun r=>oa (nilCk a) fun s=>oa (fldA 6 s) fun t=>oh (stN 1 r t i) fun u=>oa (nilCk a) fun v=>oa (fldA 1 v) fun w=>oa (ld1 u w) fun x=>oa (nilCk a) fun y=>oa (fldA 0 y) fun z=>oa (ld1 u z) fun aa=>oa (nilCk a) fun ab=>oa (fldA 0 ab) fun ac=>oa (ld1 u ac) fun ad=>ob (evalFn tab k s2_ [ad,g] u) fun ae af=>chk ((sameB (pure1 af (ld1 af w)) x && (sameB (pure1 af (ld1 af z)) aa && true))) <|ob (callVal (evalFn tab k) x [aa,ae] af) fun ag ai=>oa (lenS ag) fun al=>f6_ k k a g i ag al (.int .i64 0) ai
 ):=fnEq
theorem a2I:evalFn tab (k+1) s2_ [a,b] h =
 ob (newVar h [.int .i64 0,.int .i64 0]) fun c d=>oa (nilCk a) fun e=>oa (fldA 3 e) fun f=>oa (fldA 0 f) fun g=>oa (ld1 d g) fun i=>oa (lenS i) fun l=>oa (binV .quo .scalar b l) fun m=>oa (nilCk a) fun n=>oa (fldA 3 n) fun o=>oa (fldA 0 o) fun p=>oa (ld1 d p) fun q=>oa (lenS q) fun r=>oa (binV .rem .scalar b r) fun s=>oa (buildV [.int .i64 0,.int .i64 0] [(0,1,m),(1,1,s)]) fun t=>oh (stN 2 d c t) fun u=>oa (ldN 2 u c) fun v=>some (v,u):=fnEq
theorem a3u:evalFn tab (k+1) l0_ [a,b] h =
 ob (newVar h (AV.cells b)) fun c d=>oa (fldA 0 c) fun e=>oa (ld1 d e) fun f=>oa (nilCk a) fun g=>oa (fldA 3 g) fun i=>oa (fldA 0 i) fun l=>oa (ld1 d l) fun m=>oa (lenS m) fun n=>oa (binV .mul .scalar f n) fun o=>oa (fldA 1 c) fun p=>oa (ld1 d p) fun q=>oa (binV .add .scalar o q) fun r=>some (r,d):=fnEq
def h2_:=bk tab tbl h9_ 0 [j0] [a,b,c,d,e,f,g] h k
def a0a:=bk tab tbl h9_ 1 [] [a,b,c,d] h k
theorem a1L:a0a k a b c d h =
 oa (binV .neq .scalar a b) fun e=>cond2 e
 (
 some (.tup [(.int .i64 0),.nils,(.bool false)],h)
 )
 (
 some (.tup [c,d,(.bool true)],h)
 ):=bkEq
theorem w8_:h2_ k (j0+1) a b c d e f g h =
 oa (lenS c) fun i=>oa (binV .lss .scalar g i) fun l=>cond2 l
 (
 oa (idxS 1 c g) fun m=>oa (ld1 h m) fun n=>oa (binV .lss .scalar n (.int .i64 0)) fun o=>ob (gd o false (some (c,h)) h) fun p q=>ob (gd o false (some (g,q)) q) fun r s=>ob (gd o false (pure1 s (idxS 1 p r)) s) fun t u=>ob (gd o false (pure1 u (ld1 u t)) u) fun v w=>ob (gd o false (pure1 w (fldA 1 d)) w) fun x y=>ob (gd o false (pure1 y (ld1 y x)) y) fun z aa=>ob (gd o false (pure1 aa (lenS z)) aa) fun ab ac=>ob (gd o false (pure1 ac (binV .geq .scalar v ab)) ac) fun ad ae=>oa (pickV o (.bool true) ad) fun af=>ob (gd af false (pure1 ae (fldA 1 d)) ae) fun ag ai=>ob (gd af false (pure1 ai (ld1 ai ag)) ai) fun al am=>ob (gd af false (some (c,am)) am) fun an ao=>ob (gd af false (some (g,ao)) ao) fun ap aq=>ob (gd af false (pure1 aq (idxS 1 an ap)) aq) fun ar au=>ob (gd af false (pure1 au (ld1 au ar)) au) fun av aw=>ob (gd af false (pure1 aw (idxS 4 al av)) aw) fun ax ay=>ob (gd af false (pure1 ay (fldA 0 ax)) ay) fun az a0=>ob (gd af false (pure1 a0 (ld1 a0 az)) a0) fun a1 a2=>ob (gd af false (some (a,a2)) a2) fun a3 a4=>ob (gd af false (pure1 a4 (binV .neq .scalar a1 a3)) a4) fun a5 a6=>oa (pickV af (.bool true) a5) fun a7=>cond2 a7
 (
 some (.tup [(.int .i64 0),.nils,(.bool false)],a6)
 )
 (
 oa (fldA 1 d) fun a8=>oa (ld1 a6 a8) fun a9=>oa (idxS 1 c g) fun ba=>oa (ld1 a6 ba) fun bb=>oa (idxS 4 a9 bb) fun bc=>oa (ldN 4 a6 bc) fun bd=>ob (newVar a6 [.int .i64 0,.int .i64 0,.int .i64 0,.int .i64 0]) fun be bf=>oh (stN 4 bf be bd) fun bg=>oa (fldA 1 be) fun bi=>oa (ld1 bg bi) fun bl=>oa (fldA 3 be) fun bm=>oa (ld1 bg bm) fun bn=>oa (binV .add .scalar e bn) fun bo=>oa (fldA 2 be) fun bp=>oa (ld1 bg bp) fun bq=>ob (buildSl 1 1 [.int .i64 0] [(0,1,bq)] bg) fun br bs=>ob (apnd 1 8 f br bs) fun bt bu=>oa (binV .add .scalar g (.int .i64 1)) fun bv=>h2_ k j0 bl b c d bo bt bv bu
 )
 )
 (
 a0a k a b e f h
 ):=bkEq
theorem a2J:evalFn tab (k+1) h9_ [a,b,c,d] h =
 ob (newVar h (AV.cells a)) fun e f=>oa (binV .lss .scalar b (.int .i64 0)) fun g=>ob (gd g false (some (b,f)) f) fun i l=>ob (gd g false (pure1 l (fldA 0 e)) l) fun m n=>ob (gd g false (pure1 n (ld1 n m)) n) fun o p=>ob (gd g false (pure1 p (binV .geq .scalar i o)) p) fun q r=>oa (pickV g (.bool true) q) fun s=>ob (gd s false (some (c,r)) r) fun t u=>ob (gd s false (pure1 u (binV .lss .scalar t (.int .i64 0))) u) fun v w=>oa (pickV s (.bool true) v) fun x=>ob (gd x false (some (c,w)) w) fun y z=>ob (gd x false (pure1 z (fldA 0 e)) z) fun aa ab=>ob (gd x false (pure1 ab (ld1 ab aa)) ab) fun ac ad=>ob (gd x false (pure1 ad (binV .geq .scalar y ac)) ad) fun ae af=>oa (pickV x (.bool true) ae) fun ag=>cond2 ag
 (
 some (.tup [(.int .i64 0),.nils,(.bool false)],af)
 )
 (
 h2_ k k b c d e (.int .i64 0) .nils (.int .i64 0) af
 ):=fnEq
theorem a2X:evalFn tab (k+1) t8_ [a,b] h =
 ob (newVar h (AV.cells a)) fun c d=>oa (ldN 2 d c) fun e=>ob (evalFn tab k p2_ [e,(.int .i64 0),b] d) fun f g=>oa (binV .geq .scalar f (.int .i64 0)) fun i=>ob (gd i true (pure1 g (fldA 1 c)) g) fun l m=>ob (gd i true (pure1 m (ld1 m l)) m) fun n o=>ob (gd i true (some (f,o)) o) fun p q=>ob (gd i true (pure1 q (idxS 1 n p)) q) fun r s=>ob (gd i true (pure1 s (ld1 s r)) s) fun t u=>oa (pickV i t (.bool false)) fun v=>some (v,u):=fnEq
def z4_:=bk tab tbl e9_ 0 [j0] [a,b,c,d,e] h k
def a3q:=bk tab tbl e9_ 1 [] [a,b,c,d,e] h k
def z5_:=bk tab tbl e9_ 2 [j0] [a,b,c,d,e,f] h k
def z6_:=bk tab tbl e9_ 3 [j0] [a,b,c,d,e,f,g] h k
theorem a1M:z4_ k (j0+1) a b c d e h =
 oa (binV .lss .scalar e d) fun f=>cond2 f
 (
 oa (idxS 1 c e) fun g=>oa (ld1 h g) fun i=>oa (idxS 1 b i) fun l=>oa (ld1 h l) fun m=>ob (buildSl 1 1 [.int .i64 0] [(0,1,m)] h) fun n o=>ob (apnd 1 8 a n o) fun p q=>oa (binV .add .scalar e (.int .i64 1)) fun r=>z4_ k j0 p b c d r q
 )
 (
 some (a,h)
 ):=bkEq
theorem a4G:z6_ k j0 a b c d e f g h =
 ob (buildSl 1 1 [.int .i64 0] [(0,1,d)] h) fun i l=>ob (apnd 1 8 a i l) fun m n=>oa (binV .add .scalar g (.int .i64 1)) fun o=>z5_ k j0 m b c e f o n:=bkEq
theorem a1N:z5_ k (j0+1) a b c d e f h =
 oa (binV .lss .scalar f e) fun g=>cond2 g
 (
 oa (idxS 1 d f) fun i=>oa (ld1 h i) fun l=>ob (callVal (evalFn tab k) c [b,l] h) fun m n=>oa (binV .geq .scalar m (.int .i64 0)) fun o=>cond2 o
 (
 oa (nilCk b) fun p=>oa (fldA 2 p) fun q=>oa (ld1 n q) fun r=>oa (idxS 1 r m) fun s=>oa (ld1 n s) fun t=>z6_ k j0 a b c t d e f n
 )
 (
 z6_ k j0 a b c (.int .i64 (-1)) d e f n
 )
 )
 (
 some (a,h)
 ):=bkEq
theorem a4H:a3q k a b c d e h =
 oa (ldN 6 h c) fun f=>oa (ldN 2 h d) fun g=>ob (evalFn tab k i0_ [f,g] h) fun i l=>ob (evalFn tab k d8_ [i,a] l) fun m n=>oa (lenS b) fun o=>z5_ k k e m (.fn d1_ [] []) b o (.int .i64 0) n:=bkEq
theorem a6g:evalFn tab (k+1) e9_ [a,b,c,d] h =
 ob (newVar h (AV.cells a)) fun e f=>ob (newVar f (AV.cells b)) fun g i=>oa (lenS d) fun l=>ob (mkSl [.int .i64 0] 1 8 (.int .i64 0) l i) fun m n=>oa (ldN 2 n g) fun o=>ob (evalFn tab k o7_ [o] n) fun p q=>oa (unV .not p) fun r=>cond2 r
 (
 oa (fldA 0 e) fun s=>oa (ldN 2 q s) fun t=>oa (ldN 2 q g) fun u=>ob (evalFn tab k u4_ [t,u,c] q) fun v w=>oa (lenS d) fun x=>z4_ k k m v d x (.int .i64 0) w
 )
 (
 a3q k c d e g m q
 ):=fnEq
theorem a1Y:evalFn tab (k+1) c9_ [a,b] h =
 oa (binV .rem .scalar a b) fun c=>oa (binV .lss .scalar c (.int .i64 0)) fun d=>cond2 d
 (
 oa (binV .add .scalar c b) fun e=>some (e,h)
 )
 (
 some (c,h)
 ):=fnEq
def r5_:=bk tab tbl o7_ 0 [j0] [a,b,c,d] h k
def x8_:=bk tab tbl o7_ 1 [j0,j1] [a,b,c,d,e,f] h k
theorem a1j:x8_ k j0 (j1+1) a b c d e f h =
 oa (binV .lss .scalar f (.int .i64 5)) fun g=>cond2 g
 (
 oa (ixA 5 1 none e f) fun i=>oa (fldA 0 a) fun l=>oa (ld1 h l) fun m=>oa (idxS 5 m i) fun n=>oa (idxA 5 1 n f) fun o=>oa (ld1 h o) fun p=>oa (binV .neq .scalar p i) fun q=>cond2 q
 (
 some ((.bool false),h)
 )
 (
 oa (binV .add .scalar f (.int .i64 1)) fun r=>x8_ k j0 j1 a b c d e r h
 )
 )
 (
 oa (binV .add .scalar d (.int .i64 1)) fun s=>r5_ k j0 a b c s h
 ):=bkEq
theorem a1k:r5_ k (j0+1) a b c d h =
 oa (binV .lss .scalar d c) fun e=>cond2 e
 (
 oa (idxS 5 b d) fun f=>oa (ldN 5 h f) fun g=>ob (newVar h [.int .i64 0,.int .i64 0,.int .i64 0,.int .i64 0,.int .i64 0]) fun i l=>oh (stN 5 l i g) fun m=>oa (ldN 5 m i) fun n=>x8_ k j0 k a b c d n (.int .i64 0) m
 )
 (
 some ((.bool true),h)
 ):=bkEq
theorem a5v:evalFn tab (k+1) o7_ [a] h =
 ob (newVar h (AV.cells a)) fun b c=>oa (fldA 0 b) fun d=>oa (ld1 c d) fun e=>oa (lenS e) fun f=>r5_ k k b e f (.int .i64 0) c:=fnEq
def n2_:=bk tab tbl i0_ 0 [j0] [a,b,c,d,e] h k
def s5_:=bk tab tbl i0_ 1 [j0,j1] [a,b,c,d,e,f,g,i] h k
theorem a0u:s5_ k j0 (j1+1) a b c d e f g i h =
 oa (binV .lss .scalar i g) fun l=>cond2 l
 (
 oa (idxS 1 f i) fun m=>oa (ld1 h m) fun n=>oa (fldA 3 a) fun o=>oa (ld1 h o) fun p=>oa (idxS 7 p n) fun q=>oa (fldA 0 q) fun r=>oa (ld1 h r) fun s=>oa (nilCk b) fun t=>oa (fldA 8 t) fun u=>oa (ld1 h u) fun v=>oa (nilCk b) fun w=>oa (fldA 8 w) fun x=>oa (ld1 h x) fun y=>oa (idxS 1 y s) fun z=>oa (ld1 h z) fun aa=>ob (buildSl 1 1 [.int .i64 0] [(0,1,n)] h) fun ab ac=>ob (apnd 1 8 aa ab ac) fun ad ae=>chk ((sameB (pure1 ae (ld1 ae u)) v && true)) <|oa (idxS 1 v s) fun af=>oh (stN 1 ae af ad) fun ag=>oa (binV .add .scalar i (.int .i64 1)) fun ai=>s5_ k j0 j1 a b c d e f g ai ag
 )
 (
 oa (binV .add .scalar e (.int .i64 1)) fun al=>n2_ k j0 a b c d al h
 ):=bkEq
theorem a0v:n2_ k (j0+1) a b c d e h =
 oa (binV .lss .scalar e d) fun f=>cond2 f
 (
 oa (idxS 1 c e) fun g=>oa (ld1 h g) fun i=>oa (lenS i) fun l=>s5_ k j0 k a b c d e i l (.int .i64 0) h
 )
 (
 some (b,h)
 ):=bkEq
theorem a4I:evalFn tab (k+1) i0_ [a,b] h =
 ob (newVar h (AV.cells a)) fun c d=>ob (newVar d (AV.cells b)) fun e f=>oa (ldN 6 f c) fun g=>oa (ldN 2 f e) fun i=>oa (fldA 0 c) fun l=>oa (fldA 0 l) fun m=>oa (ld1 f m) fun n=>ob (mkSl [.nils] 1 24 n n f) fun o p=>oa (buildV [.int .i64 0,.nils,.nils,.nils,.nils,.nils,.nils,.nils,.nils] [(0,6,g),(6,2,i),(8,1,o)]) fun q=>ob (newVar p (AV.cells q)) fun r s=>oa (fldA 5 c) fun t=>oa (ld1 s t) fun u=>oa (lenS u) fun v=>n2_ k k c r u v (.int .i64 0) s:=fnEq
def r0_:=bk tab tbl d8_ 0 [j0] [a,b,c,d] h k
def y6_:=bk tab tbl d8_ 1 [] [a,b] h k
def r1_:=bk tab tbl d8_ 2 [j0] [a] h k
def r2_:=bk tab tbl d8_ 3 [j0] [a,b,c] h k
theorem a2Y:r2_ k j0 a b c h =
 oa (nilCk a) fun d=>oa (fldA 0 d) fun e=>oa (ld1 h e) fun f=>oa (nilCk f) fun g=>oa (fldA 8 g) fun i=>oa (ld1 h i) fun l=>oa (fldA 0 c) fun m=>oa (ld1 h m) fun n=>oa (idxS 1 l n) fun o=>oa (ld1 h o) fun p=>ob (evalFn tab k m2_ [a,b,(.bool true),p] h) fun q r=>r1_ k j0 a r:=bkEq
theorem a2Z:r1_ k (j0+1) a h =
 oa (nilCk a) fun b=>oa (fldA 1 b) fun c=>oa (ld1 h c) fun d=>ob (evalFn tab k m1_ [d] h) fun e f=>oa (extr 0 e) fun g=>oa (extr 1 e) fun i=>oa (extr 2 e) fun l=>oa (unV .not l) fun m=>cond2 m
 (
 some (a,f)
 )
 (
 oa (nilCk a) fun n=>oa (fldA 2 n) fun o=>oa (ld1 f o) fun p=>oa (idxS 1 p g) fun q=>oh (stN 1 f q i) fun r=>oa (nilCk a) fun s=>oa (fldA 0 s) fun t=>oa (ld1 r t) fun u=>ob (evalFn tab k q9_ [u,g] r) fun v w=>ob (newVar w [.int .i64 0,.int .i64 0,.bool false]) fun x y=>oh (stN 3 y x v) fun z=>oa (fldA 2 x) fun aa=>oa (ld1 z aa) fun ab=>oa (unV .not ab) fun ac=>cond2 ac
 (
 oa (nilCk a) fun ad=>oa (fldA 0 ad) fun ae=>oa (ld1 z ae) fun af=>oa (nilCk af) fun ag=>oa (fldA 0 ag) fun ai=>oa (fldA 4 ai) fun al=>oa (ld1 z al) fun am=>oa (fldA 0 x) fun an=>oa (ld1 z an) fun ao=>oa (idxS 1 am ao) fun ap=>oa (ld1 z ap) fun aq=>ob (evalFn tab k m2_ [a,g,(.bool false),aq] z) fun ar au=>r2_ k j0 a g x au
 )
 (
 r2_ k j0 a g x z
 )
 ):=bkEq
theorem a3a:y6_ k a b h =
 oa (nilCk b) fun c=>oa (fldA 1 c) fun d=>oa (ld1 h d) fun e=>oa (nilCk b) fun f=>oa (fldA 0 f) fun g=>oa (ld1 h g) fun i=>oa (buildV [.int .i64 0,.int .i64 0,.bool false] [(0,1,a)]) fun l=>ob (evalFn tab k p3_ [i,l] h) fun m n=>chk ((sameB (pure1 n (ld1 n d)) e && true)) <|ob (evalFn tab k e5_ [e,m,(.int .i64 0)] n) fun o p=>r1_ k k b p:=bkEq
theorem a0j:r0_ k (j0+1) a b c d h =
 oa (binV .lss .scalar d c) fun e=>cond2 e
 (
 oa (nilCk b) fun f=>oa (fldA 2 f) fun g=>oa (ld1 h g) fun i=>oa (nilCk b) fun l=>oa (fldA 3 l) fun m=>oa (ld1 h m) fun n=>oa (nilCk b) fun o=>oa (fldA 4 o) fun p=>oa (ld1 h p) fun q=>oa (idxS 1 i d) fun r=>oh (stN 1 h r (.int .i64 (-1))) fun s=>oa (idxS 1 n d) fun t=>oh (stN 1 s t (.int .i64 (-1))) fun u=>oa (idxS 1 q d) fun v=>oh (stN 1 u v (.int .i64 (-1))) fun w=>oa (binV .add .scalar d (.int .i64 1)) fun x=>r0_ k j0 a b c x w
 )
 (
 y6_ k a b h
 ):=bkEq
theorem a4i:evalFn tab (k+1) d8_ [a,b] h =
 oa (nilCk a) fun c=>oa (fldA 0 c) fun d=>oa (fldA 0 d) fun e=>oa (fldA 0 e) fun f=>oa (ld1 h f) fun g=>oa (binV .mul .scalar (.int .i64 2) g) fun i=>oa (nilCk a) fun l=>oa (fldA 6 l) fun m=>oa (fldA 0 m) fun n=>oa (ld1 h n) fun o=>oa (lenS o) fun p=>oa (binV .mul .scalar i p) fun q=>ob (mkSl [.int .i64 0] 1 8 q q h) fun r s=>ob (mkSl [.int .i64 0] 1 8 q q s) fun t u=>ob (mkSl [.int .i64 0] 1 8 q q u) fun v w=>ob (evalFn tab k y8_ [q] w) fun x y=>oa (buildV [.nilp,.nilp,.nils,.nils,.nils] [(0,1,a),(1,1,x),(2,1,r),(3,1,t),(4,1,v)]) fun z=>ob (newVar y (AV.cells z)) fun aa ab=>oa (nilCk aa) fun ac=>oa (fldA 2 ac) fun ad=>oa (ld1 ab ad) fun ae=>oa (lenS ae) fun af=>r0_ k k b aa af (.int .i64 0) ab:=fnEq
def i3_:=bk tab tbl d1_ 0 [j0] [a,b,c,d,e,f] h k
theorem y2_:i3_ k (j0+1) a b c d e f h =
 oa (binV .lss .scalar f e) fun g=>cond2 g
 (
 oa (idxS 1 d f) fun i=>oa (ld1 h i) fun l=>cond2 l
 (
 oa (buildV [.int .i64 0,.int .i64 0,.bool false] [(0,1,a),(1,1,f),(2,1,(.bool false))]) fun m=>ob (callVal (evalFn tab k) c [m] h) fun n o=>oa (buildV [.int .i64 0,.int .i64 0,.bool false] [(0,1,a),(1,1,f),(2,1,(.bool true))]) fun p=>ob (callVal (evalFn tab k) c [p] o) fun q r=>oa (binV .add .scalar f (.int .i64 1)) fun s=>i3_ k j0 a b c d e s r
 )
 (
 oa (binV .add .scalar f (.int .i64 1)) fun t=>i3_ k j0 a b c d e t h
 )
 )
 (
 oa (ld1 h b) fun u=>some (u,h)
 ):=bkEq
theorem a3b:evalFn tab (k+1) d1_ [a,b] h =
 ob (newVar h (AV.cells a)) fun c d=>ob (newVar d [.int .i64 0]) fun e f=>oh (stN 1 f e (.int .i64 (-1))) fun g=>oa (ld1 g c) fun i=>oa (nilCk i) fun l=>oa (fldA 0 l) fun m=>oa (ld1 g m) fun n=>oa (nilCk n) fun o=>oa (fldA 6 o) fun p=>oa (fldA 1 p) fun q=>oa (ld1 g q) fun r=>oa (lenS r) fun s=>i3_ k k b e (.fn l4_ [] [c,e]) r s (.int .i64 0) g:=fnEq
def l8_:=bk tab tbl i1_ 0 [j0] [a,b,c] h k
theorem w9_:l8_ k (j0+1) a b c h =
 oa (binV .lss .scalar b c) fun d=>cond2 d
 (
 oa (idxS 1 a c) fun e=>oa (ld1 h e) fun f=>oa (idxS 1 a b) fun g=>oa (ld1 h g) fun i=>oa (idxS 1 a b) fun l=>oh (stN 1 h l f) fun m=>oa (idxS 1 a c) fun n=>oh (stN 1 m n i) fun o=>oa (binV .add .scalar b (.int .i64 1)) fun p=>oa (binV .sub .scalar c (.int .i64 1)) fun q=>l8_ k j0 a p q o
 )
 (
 some (.tup [],h)
 ):=bkEq
theorem a2K:evalFn tab (k+1) i1_ [a] h =
 oa (lenS a) fun b=>oa (binV .sub .scalar b (.int .i64 1)) fun c=>l8_ k k a (.int .i64 0) c h:=fnEq
def r6_:=bk tab tbl s7_ 0 [j0] [a,b,c] h k
def a2L:=bk tab tbl s7_ 1 [] [a] h k
theorem a4j:a2L k a h =
 ob (evalFn tab k h0_ [a] h) fun b c=>some (b,c):=bkEq
theorem a4k:r6_ k (j0+1) a b c h =
 oa (lenS c) fun d=>oa (binV .gtr .scalar d (.int .i64 0)) fun e=>cond2 e
 (
 oa (lenS c) fun f=>oa (binV .sub .scalar f (.int .i64 1)) fun g=>oa (idxS 1 c g) fun i=>oa (ld1 h i) fun l=>oa (lenS c) fun m=>oa (binV .sub .scalar m (.int .i64 1)) fun n=>oa (slSl 1 c none (some n) none) fun o=>oa (binV .lss .scalar l (.int .i64 0)) fun p=>ob (gd p false (some (l,h)) h) fun q r=>ob (gd p false (pure1 r (fldA 3 a)) r) fun s t=>ob (gd p false (pure1 t (ld1 t s)) t) fun u v=>ob (gd p false (pure1 v (lenS u)) v) fun w x=>ob (gd p false (pure1 x (binV .geq .scalar q w)) x) fun y z=>oa (pickV p (.bool true) y) fun aa=>cond2 aa
 (
 some (.nils,z)
 )
 (
 oa (fldA 3 a) fun ab=>oa (ld1 z ab) fun ac=>oa (idxS 7 ac l) fun ad=>oa (ldN 7 z ad) fun ae=>ob (newVar z [.int .i64 0,.int .i64 0,.int .i64 0,.int .i64 0,.int .i64 0,.int .i64 0,.int .i64 0]) fun af ag=>oh (stN 7 ag af ae) fun ai=>oa (fldA 4 af) fun al=>oa (ld1 ai al) fun am=>oa (binV .geq .scalar am (.int .i64 0)) fun an=>cond2 an
 (
 oa (fldA 4 af) fun ao=>oa (ld1 ai ao) fun ap=>ob (buildSl 1 1 [.int .i64 0] [(0,1,ap)] ai) fun aq ar=>ob (apnd 1 8 b aq ar) fun au av=>r6_ k j0 a au o av
 )
 (
 oa (fldA 5 af) fun aw=>oa (ld1 ai aw) fun ax=>oa (binV .lss .scalar ax l) fun ay=>ob (gd ay true (pure1 ai (fldA 6 af)) ai) fun az a0=>ob (gd ay true (pure1 a0 (ld1 a0 az)) a0) fun a1 a2=>ob (gd ay true (some (l,a2)) a2) fun a3 a4=>ob (gd ay true (pure1 a4 (binV .lss .scalar a1 a3)) a4) fun a5 a6=>oa (pickV ay a5 (.bool false)) fun a7=>ob (gd a7 true (some (b,a6)) a6) fun a8 a9=>ob (gd a7 true (pure1 a9 (lenS a8)) a9) fun ba bb=>ob (gd a7 true (some (o,bb)) bb) fun bc bd=>ob (gd a7 true (pure1 bd (lenS bc)) bd) fun be bf=>ob (gd a7 true (pure1 bf (binV .add .scalar ba be)) bf) fun bg bi=>ob (gd a7 true (pure1 bi (binV .lss .scalar bg (.int .i64 2000))) bi) fun bl bm=>oa (pickV a7 bl (.bool false)) fun bn=>cond2 bn
 (
 oa (fldA 6 af) fun bo=>oa (ld1 bm bo) fun bp=>oa (fldA 5 af) fun bq=>oa (ld1 bm bq) fun br=>ob (buildSl 1 2 [.int .i64 0,.int .i64 0] [(0,1,bp),(1,1,br)] bm) fun bs bt=>ob (apnd 1 8 o bs bt) fun bu bv=>r6_ k j0 a b bu bv
 )
 (
 some (.nils,bm)
 )
 )
 )
 )
 (
 a2L k b h
 ):=bkEq
theorem a5w:evalFn tab (k+1) s7_ [a,b] h =
 ob (newVar h (AV.cells a)) fun c d=>ob (buildSl 1 1 [.int .i64 0] [(0,1,b)] d) fun e f=>r6_ k k c .nils e f:=fnEq
theorem a3v:evalFn tab (k+1) h0_ [a] h =
 oa (binV .eql .slice a .nils) fun b=>cond2 b
 (
 some (.nils,h)
 )
 (
 ob (buildSl 1 0 [] [] h) fun c d=>ob (apnd 1 8 c a d) fun e f=>some (e,f)
 ):=fnEq
end
end Go.Gm.AQ
namespace Go.Gm.AQ
open Go Go.Gm
noncomputable section
variable (k j0 j1 j2 j3:Nat) (a b c d e f g i l m:AV) (h:Heap)
def b0_:=bk tab tbl b3_ 0 [j0] [a,b,c,d] h k
def k2_:=bk tab tbl b3_ 1 [] [a,b,c] h k
def c3_:=bk tab tbl b3_ 2 [j0] [a,b,c,d] h k
theorem n6_:c3_ k (j0+1) a b c d h =
 oa (lenS c) fun e=>oa (binV .lss .scalar d e) fun f=>cond2 f
 (
 oa (idxS 1 c d) fun g=>oa (ld1 h g) fun i=>oa (binV .gtr .scalar i (.int .i64 0)) fun l=>cond2 l
 (
 oa (fldA 1 b) fun m=>oa (ld1 h m) fun n=>oa (idxS 1 c d) fun o=>oa (ld1 h o) fun p=>oa (binV .sub .scalar p (.int .i64 1)) fun q=>oa (idxS 4 n q) fun r=>oa (ldN 4 h r) fun s=>ob (newVar h [.int .i64 0,.int .i64 0,.int .i64 0,.int .i64 0]) fun t u=>oh (stN 4 u t s) fun v=>oa (fldA 0 t) fun w=>oa (ld1 v w) fun x=>oa (fldA 1 t) fun y=>oa (ld1 v y) fun z=>oa (fldA 2 t) fun aa=>oa (ld1 v aa) fun ab=>oa (fldA 3 t) fun ac=>oa (ld1 v ac) fun ad=>oa (idxS 1 c d) fun ae=>oa (ld1 v ae) fun af=>oa (binV .sub .scalar af (.int .i64 1)) fun ag=>oa (buildV [.int .i64 0,.int .i64 0,.int .i64 0,.int .i64 0,.int .i64 0,.int .i64 0,.int .i64 0] [(0,1,x),(1,1,z),(2,1,ab),(3,1,ad),(4,1,ag)]) fun ai=>ob (evalFn tab k d2_ [a,ai] v) fun al am=>oa (binV .add .scalar d (.int .i64 1)) fun an=>c3_ k j0 a b c an am
 )
 (
 oa (binV .add .scalar d (.int .i64 1)) fun ao=>c3_ k j0 a b c ao h
 )
 )
 (
 some (.tup [],h)
 ):=bkEq
theorem a0d:k2_ k a b c h =
 c3_ k k a b c (.int .i64 0) h:=bkEq
theorem n7_:b0_ k (j0+1) a b c d h =
 oa (fldA 1 b) fun e=>oa (ld1 h e) fun f=>oa (lenS f) fun g=>oa (binV .lss .scalar d g) fun i=>cond2 i
 (
 oa (fldA 1 b) fun l=>oa (ld1 h l) fun m=>oa (idxS 4 m d) fun n=>oa (ldN 4 h n) fun o=>ob (newVar h [.int .i64 0,.int .i64 0,.int .i64 0,.int .i64 0]) fun p q=>oh (stN 4 q p o) fun r=>oa (fldA 0 p) fun s=>oa (ld1 r s) fun t=>oa (fldA 1 p) fun u=>oa (ld1 r u) fun v=>oa (fldA 2 p) fun w=>oa (ld1 r w) fun x=>ob (evalFn tab k b1_ [a,t,v,x] r) fun y z=>oa (idxS 1 c y) fun aa=>oa (ld1 z aa) fun ab=>oa (binV .eql .scalar ab (.int .i64 0)) fun ac=>ob (gd ac false (pure1 z (fldA 1 b)) z) fun ad ae=>ob (gd ac false (pure1 ae (ld1 ae ad)) ae) fun af ag=>ob (gd ac false (some (c,ag)) ag) fun ai al=>ob (gd ac false (some (y,al)) al) fun am an=>ob (gd ac false (pure1 an (idxS 1 ai am)) an) fun ao ap=>ob (gd ac false (pure1 ap (ld1 ap ao)) ap) fun aq ar=>ob (gd ac false (pure1 ar (binV .sub .scalar aq (.int .i64 1))) ar) fun au av=>ob (gd ac false (pure1 av (idxS 4 af au)) av) fun aw ax=>ob (gd ac false (pure1 ax (fldA 3 aw)) ax) fun ay az=>ob (gd ac false (pure1 az (ld1 az ay)) az) fun a0 a1=>ob (gd ac false (pure1 a1 (fldA 3 p)) a1) fun a2 a3=>ob (gd ac false (pure1 a3 (ld1 a3 a2)) a3) fun a4 a5=>ob (gd ac false (pure1 a5 (binV .gtr .scalar a0 a4)) a5) fun a6 a7=>oa (pickV ac (.bool true) a6) fun a8=>cond2 a8
 (
 oa (binV .add .scalar d (.int .i64 1)) fun a9=>oa (idxS 1 c y) fun ba=>oh (stN 1 a7 ba a9) fun bb=>oa (binV .add .scalar d (.int .i64 1)) fun bc=>b0_ k j0 a b c bc bb
 )
 (
 oa (binV .add .scalar d (.int .i64 1)) fun bd=>b0_ k j0 a b c bd a7
 )
 )
 (
 k2_ k a b c h
 ):=bkEq
theorem a0B:evalFn tab (k+1) b3_ [a] h =
 oa (nilCk a) fun b=>oa (fldA 0 b) fun c=>oa (fldA 0 c) fun d=>oa (ldN 2 h d) fun e=>ob (newVar h [.int .i64 0,.nils]) fun f g=>oh (stN 2 g f e) fun i=>oa (fldA 0 f) fun l=>oa (ld1 i l) fun m=>oa (fldA 0 f) fun n=>oa (ld1 i n) fun o=>oa (binV .mul .scalar m o) fun p=>oa (binV .mul .scalar p (.int .i64 5)) fun q=>ob (mkSl [.int .i64 0] 1 8 q q i) fun r s=>b0_ k k a f r (.int .i64 0) s:=fnEq
def j2_:=bk tab tbl d0_ 0 [j0] [a,b,c,d,e] h k
def c4_:=bk tab tbl d0_ 1 [j0,j1] [a,b,c,d,e,f] h k
def o5_:=bk tab tbl d0_ 2 [j0] [a,b,c,d,e] h k
theorem a1c:o5_ k j0 a b c d e h =
 oa (binV .add .scalar e (.int .i64 1)) fun f=>j2_ k j0 a b c d f h:=bkEq
theorem t2_:c4_ k j0 (j1+1) a b c d e f h =
 oa (fldA 0 a) fun g=>oa (ld1 h g) fun i=>oa (binV .lss .scalar f i) fun l=>cond2 l
 (
 oa (idxS 1 c f) fun m=>oa (ld1 h m) fun n=>oa (unV .not n) fun o=>ob (gd o true (some (b,h)) h) fun p q=>ob (gd o true (some (f,q)) q) fun r s=>ob (gd o true (evalFn tab k i6_ [p,r] s) s) fun t u=>ob (gd o true (pure1 u (lenS t)) u) fun v w=>ob (gd o true (some (b,w)) w) fun x y=>ob (gd o true (some (f,y)) y) fun z aa=>ob (gd o true (evalFn tab k k5_ [x,z] aa) aa) fun ab ac=>ob (gd o true (pure1 ac (lenS ab)) ac) fun ad ae=>ob (gd o true (pure1 ae (binV .add .scalar v ad)) ae) fun af ag=>ob (gd o true (some (e,ag)) ag) fun ai al=>ob (gd o true (pure1 al (binV .eql .scalar af ai)) al) fun am an=>oa (pickV o am (.bool false)) fun ao=>cond2 ao
 (
 ob (buildSl 1 1 [.int .i64 0] [(0,1,f)] an) fun ap aq=>ob (apnd 1 8 d ap aq) fun ar au=>oa (binV .add .scalar f (.int .i64 1)) fun av=>c4_ k j0 j1 a b c ar e av au
 )
 (
 oa (binV .add .scalar f (.int .i64 1)) fun aw=>c4_ k j0 j1 a b c d e aw an
 )
 )
 (
 o5_ k j0 a b c d e h
 ):=bkEq
theorem t3_:j2_ k (j0+1) a b c d e h =
 oa (fldA 1 a) fun f=>oa (ld1 h f) fun g=>oa (lenS g) fun i=>oa (binV .mul .scalar (.int .i64 2) i) fun l=>oa (binV .leq .scalar e l) fun m=>cond2 m
 (
 c4_ k j0 k a b c d e (.int .i64 0) h
 )
 (
 some (d,h)
 ):=bkEq
theorem a1Z:evalFn tab (k+1) d0_ [a] h =
 ob (newVar h (AV.cells a)) fun b c=>oa (ldN 2 c b) fun d=>oa (ldN 2 c b) fun e=>ob (evalFn tab k n3_ [d] c) fun f g=>chk ((sameB (pure1 g (ldN 2 g b)) e && true)) <|ob (evalFn tab k b8_ [e] g) fun i l=>j2_ k k b f i .nils (.int .i64 0) l:=fnEq
def g6_:=bk tab tbl a8_ 0 [j0] [a,b,c,d] h k
def b7_:=bk tab tbl a8_ 1 [j0,j1] [a,b,c,d,e] h k
def m0_:=bk tab tbl a8_ 2 [j0] [a,b,c,d] h k
theorem a0r:m0_ k j0 a b c d h =
 oa (binV .add .scalar d (.int .i64 1)) fun e=>g6_ k j0 a b c e h:=bkEq
theorem q6_:b7_ k j0 (j1+1) a b c d e h =
 oa (binV .lss .scalar e (.int .i64 5)) fun f=>cond2 f
 (
 oa (nilCk a) fun g=>oa (fldA 6 g) fun i=>oa (ld1 h i) fun l=>ob (evalFn tab k b1_ [a,b,d,e] h) fun m n=>chk ((sameB (pure1 n (ld1 n i)) l && true)) <|oa (idxS 1 l m) fun o=>oa (ld1 n o) fun p=>oa (binV .gtr .scalar p (.int .i64 0)) fun q=>ob (gd q true (some (a,n)) n) fun r s=>ob (gd q true (pure1 s (nilCk r)) s) fun t u=>ob (gd q true (pure1 u (fldA 7 t)) u) fun v w=>ob (gd q true (pure1 w (ld1 w v)) w) fun x y=>ob (gd q true (some (d,y)) y) fun z aa=>ob (gd q true (pure1 aa (idxS 1 x z)) aa) fun ab ac=>ob (gd q true (pure1 ac (ld1 ac ab)) ac) fun ad ae=>ob (gd q true (pure1 ae (unV .not ad)) ae) fun af ag=>oa (pickV q af (.bool false)) fun ai=>cond2 ai
 (
 oa (binV .sub .scalar p (.int .i64 1)) fun al=>ob (buildSl 1 1 [.int .i64 0] [(0,1,al)] ag) fun am an=>ob (apnd 1 8 c am an) fun ao ap=>oa (binV .add .scalar e (.int .i64 1)) fun aq=>b7_ k j0 j1 a b ao d aq ap
 )
 (
 oa (binV .add .scalar e (.int .i64 1)) fun ar=>b7_ k j0 j1 a b c d ar ag
 )
 )
 (
 m0_ k j0 a b c d h
 ):=bkEq
theorem q7_:g6_ k (j0+1) a b c d h =
 oa (nilCk a) fun e=>oa (fldA 0 e) fun f=>oa (fldA 0 f) fun g=>oa (fldA 0 g) fun i=>oa (ld1 h i) fun l=>oa (binV .lss .scalar d l) fun m=>cond2 m
 (
 b7_ k j0 k a b c d (.int .i64 0) h
 )
 (
 some (c,h)
 ):=bkEq
theorem a1d:evalFn tab (k+1) a8_ [a,b] h =
 g6_ k k a b .nils (.int .i64 0) h:=fnEq
def h5_:=bk tab tbl c2_ 0 [j0] [a,b,c,d] h k
def a9_:=bk tab tbl c2_ 1 [j0,j1] [a,b,c,d,e] h k
def h6_:=bk tab tbl c2_ 2 [j0] [a,b,c,d] h k
theorem a0C:h6_ k j0 a b c d h =
 oa (binV .add .scalar d (.int .i64 1)) fun e=>h5_ k j0 a b c e h:=bkEq
theorem k3_:a9_ k j0 (j1+1) a b c d e h =
 oa (binV .lss .scalar e (.int .i64 5)) fun f=>ob (gd f true (some (d,h)) h) fun g i=>ob (gd f true (some (b,i)) i) fun l m=>ob (gd f true (pure1 m (binV .neq .scalar g l)) m) fun n o=>oa (pickV f n (.bool false)) fun p=>cond2 p
 (
 oa (nilCk a) fun q=>oa (fldA 6 q) fun r=>oa (ld1 o r) fun s=>ob (evalFn tab k b1_ [a,d,b,e] o) fun t u=>chk ((sameB (pure1 u (ld1 u r)) s && true)) <|oa (idxS 1 s t) fun v=>oa (ld1 u v) fun w=>oa (binV .gtr .scalar w (.int .i64 0)) fun x=>ob (gd x true (some (a,u)) u) fun y z=>ob (gd x true (pure1 z (nilCk y)) z) fun aa ab=>ob (gd x true (pure1 ab (fldA 7 aa)) ab) fun ac ad=>ob (gd x true (pure1 ad (ld1 ad ac)) ad) fun ae af=>ob (gd x true (some (d,af)) af) fun ag ai=>ob (gd x true (pure1 ai (idxS 1 ae ag)) ai) fun al am=>ob (gd x true (pure1 am (ld1 am al)) am) fun an ao=>ob (gd x true (pure1 ao (unV .not an)) ao) fun ap aq=>oa (pickV x ap (.bool false)) fun ar=>cond2 ar
 (
 oa (binV .sub .scalar w (.int .i64 1)) fun au=>ob (buildSl 1 1 [.int .i64 0] [(0,1,au)] aq) fun av aw=>ob (apnd 1 8 c av aw) fun ax ay=>oa (binV .add .scalar e (.int .i64 1)) fun az=>a9_ k j0 j1 a b ax d az ay
 )
 (
 oa (binV .add .scalar e (.int .i64 1)) fun a0=>a9_ k j0 j1 a b c d a0 aq
 )
 )
 (
 h6_ k j0 a b c d o
 ):=bkEq
theorem r7_:h5_ k (j0+1) a b c d h =
 oa (nilCk a) fun e=>oa (fldA 0 e) fun f=>oa (fldA 0 f) fun g=>oa (fldA 0 g) fun i=>oa (ld1 h i) fun l=>oa (binV .lss .scalar d l) fun m=>cond2 m
 (
 a9_ k j0 k a b c d (.int .i64 0) h
 )
 (
 some (c,h)
 ):=bkEq
theorem a1v:evalFn tab (k+1) c2_ [a,b] h =
 h5_ k k a b .nils (.int .i64 0) h:=fnEq
theorem a0D:evalFn tab (k+1) l1_ [a,b,c] h =
 oa (nilCk a) fun d=>oa (fldA 0 d) fun e=>oa (fldA 3 e) fun f=>oa (ld1 h f) fun g=>oa (idxS 7 g b) fun i=>oa (ldN 7 h i) fun l=>oa (nilCk a) fun m=>oa (fldA 0 m) fun n=>oa (fldA 3 n) fun o=>oa (ld1 h o) fun p=>oa (idxS 7 p c) fun q=>oa (ldN 7 h q) fun r=>ob (newVar h [.int .i64 0,.int .i64 0,.int .i64 0,.int .i64 0,.int .i64 0,.int .i64 0,.int .i64 0]) fun s t=>ob (newVar t [.int .i64 0,.int .i64 0,.int .i64 0,.int .i64 0,.int .i64 0,.int .i64 0,.int .i64 0]) fun u v=>oh (stN 7 v s l) fun w=>chk ((sameB (pure1 w (ld1 w o)) p && (sameB (pure1 w (ldN 7 w q)) r && true))) <|oh (stN 7 w u r) fun x=>oa (fldA 2 s) fun y=>oa (ld1 x y) fun z=>oa (fldA 2 u) fun aa=>oa (ld1 x aa) fun ab=>oa (binV .neq .scalar z ab) fun ac=>ob (gd ac false (pure1 x (fldA 1 u)) x) fun ad ae=>ob (gd ac false (pure1 ae (ld1 ae ad)) ae) fun af ag=>ob (gd ac false (pure1 ag (fldA 1 s)) ag) fun ai al=>ob (gd ac false (pure1 al (ld1 al ai)) al) fun am an=>ob (gd ac false (pure1 an (binV .eql .scalar af am)) an) fun ao ap=>oa (pickV ac (.bool true) ao) fun aq=>cond2 aq
 (
 some (.tup [],ap)
 )
 (
 oa (nilCk a) fun ar=>oa (fldA 6 ar) fun au=>oa (ld1 ap au) fun av=>oa (fldA 0 s) fun aw=>oa (ld1 ap aw) fun ax=>oa (fldA 1 u) fun ay=>oa (ld1 ap ay) fun az=>oa (fldA 2 s) fun a0=>oa (ld1 ap a0) fun a2=>ob (evalFn tab k b1_ [a,ax,az,a2] ap) fun a3 a4=>chk ((sameB (pure1 a4 (ld1 a4 au)) av && true)) <|oa (idxS 1 av a3) fun a5=>oa (ld1 a4 a5) fun a6=>oa (binV .eql .scalar a6 (.int .i64 0)) fun a7=>ob (gd a7 false (some (a,a4)) a4) fun a8 a9=>ob (gd a7 false (pure1 a9 (nilCk a8)) a9) fun ba bb=>ob (gd a7 false (pure1 bb (fldA 0 ba)) bb) fun bc bd=>ob (gd a7 false (pure1 bd (fldA 3 bc)) bd) fun be bf=>ob (gd a7 false (pure1 bf (ld1 bf be)) bf) fun bg bi=>ob (gd a7 false (some (a6,bi)) bi) fun bl bm=>ob (gd a7 false (pure1 bm (binV .sub .scalar bl (.int .i64 1))) bm) fun bn bo=>ob (gd a7 false (pure1 bo (idxS 7 bg bn)) bo) fun bp bq=>ob (gd a7 false (pure1 bq (fldA 3 bp)) bq) fun br bs=>ob (gd a7 false (pure1 bs (ld1 bs br)) bs) fun bt bu=>ob (gd a7 false (pure1 bu (fldA 3 s)) bu) fun bv bw=>ob (gd a7 false (pure1 bw (ld1 bw bv)) bw) fun bx bz=>ob (gd a7 false (pure1 bz (fldA 3 u)) bz) fun b0 b1=>ob (gd a7 false (pure1 b1 (ld1 b1 b0)) b1) fun b3 b4=>ob (gd a7 false (pure1 b4 (binV .add .scalar bx b3)) b4) fun b5 b6=>ob (gd a7 false (pure1 b6 (binV .gtr .scalar bt b5)) b6) fun b7 b8=>oa (pickV a7 (.bool true) b7) fun b9=>cond2 b9
 (
 oa (fldA 0 s) fun ca=>oa (ld1 b8 ca) fun cb=>oa (fldA 1 u) fun cc=>oa (ld1 b8 cc) fun cd=>oa (fldA 2 s) fun ce=>oa (ld1 b8 ce) fun cf=>oa (fldA 3 s) fun cg=>oa (ld1 b8 cg) fun ci=>oa (fldA 3 u) fun cl=>oa (ld1 b8 cl) fun cm=>oa (binV .add .scalar ci cm) fun cn=>oa (buildV [.int .i64 0,.int .i64 0,.int .i64 0,.int .i64 0,.int .i64 0,.int .i64 0,.int .i64 0] [(0,1,cb),(1,1,cd),(2,1,cf),(3,1,cn),(4,1,(.int .i64 (-1))),(5,1,b),(6,1,c)]) fun co=>ob (evalFn tab k d2_ [a,co] b8) fun cp cq=>some (.tup [],cq)
 )
 (
 some (.tup [],b8)
 )
 ):=fnEq
def a0k:=bk tab tbl a2j 0 [j0] [a,b,c,d] h k
theorem a3r:a0k k (j0+1) a b c d h =
 oa (binV .lss .scalar d c) fun e=>cond2 e
 (
 oa (idxS 4 b d) fun f=>oa (ldN 4 h f) fun g=>ob (newVar h [.int .i64 0,.int .i64 0,.int .i64 0,.int .i64 0]) fun i l=>oh (stN 4 l i g) fun m=>oa (fldA 0 i) fun n=>oa (ld1 m n) fun o=>ob (evalFn tab k w2_ [a,o] m) fun p q=>ob (gd p true (some (a,q)) q) fun r s=>ob (gd p true (pure1 s (fldA 1 i)) s) fun t u=>ob (gd p true (pure1 u (ld1 u t)) u) fun v w=>ob (gd p true (evalFn tab k w2_ [r,v] w) w) fun x y=>oa (pickV p x (.bool false)) fun z=>cond2 z
 (
 oa (nilCk a) fun aa=>oa (fldA 2 aa) fun ab=>oa (ld1 y ab) fun ac=>oa (fldA 0 i) fun ad=>oa (ld1 y ad) fun ae=>oa (idxS 2 ac ae) fun af=>oa (fldA 1 i) fun ag=>oa (ld1 y ag) fun ai=>ob (evalFn tab k x5_ [af,d,ai] y) fun al am=>oa (nilCk a) fun an=>oa (fldA 3 an) fun ao=>oa (ld1 am ao) fun ap=>oa (fldA 1 i) fun aq=>oa (ld1 am aq) fun ar=>oa (idxS 2 ap ar) fun au=>oa (fldA 0 i) fun av=>oa (ld1 am av) fun aw=>ob (evalFn tab k x5_ [au,d,aw] am) fun ax ay=>oa (binV .add .scalar d (.int .i64 1)) fun az=>a0k k j0 a b c az ay
 )
 (
 oa (binV .add .scalar d (.int .i64 1)) fun a0=>a0k k j0 a b c a0 y
 )
 )
 (
 some (a,h)
 ):=bkEq
theorem a7S:evalFn tab (k+1) a2j [a] h =
 ob (newVar h (AV.cells a)) fun b c=>oa (fldA 0 b) fun d=>oa (ld1 c d) fun e=>oa (mmV true e (.int .i64 0)) fun f=>ob (mkSl [.nils,.nils] 2 48 f f c) fun g i=>oa (fldA 0 b) fun l=>oa (ld1 i l) fun m=>oa (mmV true m (.int .i64 0)) fun n=>ob (mkSl [.nils,.nils] 2 48 n n i) fun o p=>oa (buildV [.int .i64 0,.nils,.nils,.nils] [(2,1,g),(3,1,o)]) fun q=>ob (newVar p (AV.cells q)) fun r s=>oa (fldA 0 b) fun t=>oa (ld1 s t) fun u=>oa (fldA 1 b) fun v=>oa (ld1 s v) fun w=>ob (evalFn tab k n9_ [w] s) fun x y=>chk ((sameB (pure1 y (ld1 y t)) u && true)) <|oa (buildV [.int .i64 0,.nils] [(0,1,u),(1,1,x)]) fun z=>oa (nilCk r) fun aa=>oa (fldA 0 aa) fun ab=>oh (stN 2 y ab z) fun ac=>oa (fldA 1 b) fun ad=>oa (ld1 ac ad) fun ae=>oa (lenS ae) fun af=>a0k k k r ae af (.int .i64 0) ac:=fnEq
def a0l:=bk tab tbl y8_ 0 [j0] [a,b,c] h k
theorem a2k:a0l k (j0+1) a b c h =
 oa (binV .lss .scalar c b) fun d=>cond2 d
 (
 oa (nilCk a) fun e=>oa (fldA 0 e) fun f=>oa (fldA 1 f) fun g=>oa (ld1 h g) fun i=>oa (idxS 1 i c) fun l=>oh (stN 1 h l (.int .i64 (-1))) fun m=>oa (binV .add .scalar c (.int .i64 1)) fun n=>a0l k j0 a b n m
 )
 (
 some (a,h)
 ):=bkEq
theorem a6E:evalFn tab (k+1) y8_ [a] h =
 oa (mmV true a (.int .i64 0)) fun b=>ob (mkSl [.int .i64 0] 1 8 b b h) fun c d=>oa (buildV [.nils,.nils] [(1,1,c)]) fun e=>oa (buildV [.nils,.nils] [(0,2,e)]) fun f=>ob (newVar d (AV.cells f)) fun g i=>oa (nilCk g) fun l=>oa (fldA 0 l) fun m=>oa (fldA 1 m) fun n=>oa (ld1 i n) fun o=>oa (lenS o) fun p=>a0l k k g p (.int .i64 0) i:=fnEq
theorem a3J:evalFn tab (k+1) e5_ [a,b,c] h =
 oa (binV .lss .scalar b (.int .i64 0)) fun d=>ob (gd d false (some (b,h)) h) fun e f=>ob (gd d false (some (a,f)) f) fun g i=>ob (gd d false (pure1 i (nilCk g)) i) fun l m=>ob (gd d false (pure1 m (fldA 0 l)) m) fun n o=>ob (gd d false (pure1 o (fldA 1 n)) o) fun p q=>ob (gd d false (pure1 q (ld1 q p)) q) fun r s=>ob (gd d false (pure1 s (lenS r)) s) fun t u=>ob (gd d false (pure1 u (binV .geq .scalar e t)) u) fun v w=>oa (pickV d (.bool true) v) fun x=>cond2 x
 (
 some ((.bool false),w)
 )
 (
 ob (evalFn tab k h1_ [a] w) fun y z=>ob (callMeth tab (evalFn tab k) "milestone/queue.place" y [b] z) fun aa ab=>oa (binV .lss .scalar aa (.int .i64 0)) fun ac=>cond2 ac
 (
 oa (buildV [.int .i64 0,.int .i64 0] [(0,1,b),(1,1,c)]) fun ad=>ob (evalFn tab k l5_ [y,(.ifc 198 ad)] ab) fun ae af=>some ((.bool true),af)
 )
 (
 oa (nilCk a) fun ag=>oa (fldA 0 ag) fun ai=>oa (fldA 0 ai) fun al=>oa (ld1 ab al) fun am=>oa (idxS 2 am aa) fun an=>oa (fldA 1 an) fun ao=>oa (ld1 ab ao) fun ap=>oa (binV .leq .scalar ap c) fun aq=>cond2 aq
 (
 some ((.bool false),ab)
 )
 (
 oa (nilCk a) fun ar=>oa (fldA 0 ar) fun au=>oa (fldA 0 au) fun av=>oa (ld1 ab av) fun aw=>oa (idxS 2 aw aa) fun ax=>oa (fldA 1 ax) fun ay=>oh (stN 1 ab ay c) fun az=>ob (evalFn tab k m3_ [y,aa] az) fun a0 a1=>some ((.bool true),a1)
 )
 )
 ):=fnEq
theorem a5x:evalFn tab (k+1) a0T [a,b] h =
 oa (nilCk a) fun c=>oa (fldA 2 c) fun d=>oa (ld1 h d) fun e=>ob (evalFn tab k a0z [a,e,b] h) fun f g=>ob (callVal (evalFn tab k) (.fn a0i [] []) [f] g) fun i l=>some (i,l):=fnEq
theorem a3K:evalFn tab (k+1) y5_ [a,b] h =
 ob (evalFn tab k h1_ [a] h) fun c d=>ob (callMeth tab (evalFn tab k) "milestone/queue.place" c [b] d) fun e f=>oa (binV .lss .scalar e (.int .i64 0)) fun g=>cond2 g
 (
 some (.tup [(.int .i64 0),(.bool false)],f)
 )
 (
 oa (nilCk a) fun i=>oa (fldA 0 i) fun l=>oa (fldA 0 l) fun m=>oa (ld1 f m) fun n=>oa (idxS 2 n e) fun o=>oa (fldA 1 o) fun p=>oa (ld1 f p) fun q=>some (.tup [q,(.bool true)],f)
 ):=fnEq
theorem a3L:evalFn tab (k+1) m1_ [a] h =
 oa (nilCk a) fun b=>oa (fldA 0 b) fun c=>ob (evalFn tab k p4_ [c] h) fun d e=>oa (binV .eql .scalar d (.int .i64 0)) fun f=>cond2 f
 (
 some (.tup [(.int .i64 0),(.int .i64 0),(.bool false)],e)
 )
 (
 ob (evalFn tab k h1_ [a] e) fun g i=>ob (evalFn tab k s3_ [g] i) fun l m=>oa (tAssert 198 (.agg [.int .i64 0,.int .i64 0]) true l) fun n=>oa (extr 0 n) fun o=>oa (extr 1 n) fun p=>ob (newVar m [.int .i64 0,.int .i64 0]) fun q r=>oh (stN 2 r q o) fun s=>oa (fldA 0 q) fun t=>oa (ld1 s t) fun u=>oa (fldA 1 q) fun v=>oa (ld1 s v) fun w=>some (.tup [u,w,p],s)
 ):=fnEq
end
end Go.Gm.AQ
namespace Go.Gm.AQ
open Go Go.Gm
noncomputable section
variable (k j0 j1 j2 j3:Nat) (a b c d e f g i l m:AV) (h:Heap)
def j7_:=bk tab tbl p2_ 0 [j0] [a,b,c,d] h k
theorem z2_:j7_ k (j0+1) a b c d h =
 oa (lenS b) fun e=>oa (binV .lss .scalar d e) fun f=>cond2 f
 (
 oa (idxS 1 b d) fun g=>oa (ld1 h g) fun i=>oa (binV .lss .scalar i (.int .i64 0)) fun l=>ob (gd l false (some (b,h)) h) fun m n=>ob (gd l false (some (d,n)) n) fun o p=>ob (gd l false (pure1 p (idxS 1 m o)) p) fun q r=>ob (gd l false (pure1 r (ld1 r q)) r) fun s t=>ob (gd l false (pure1 t (binV .geq .scalar s (.int .i64 5))) t) fun u v=>oa (pickV l (.bool true) u) fun w=>cond2 w
 (
 some ((.int .i64 (-1)),v)
 )
 (
 oa (fldA 0 c) fun x=>oa (ld1 v x) fun y=>oa (idxS 1 b d) fun z=>oa (ld1 v z) fun aa=>oa (idxS 5 y a) fun ab=>oa (idxA 5 1 ab aa) fun ac=>oa (ld1 v ac) fun ad=>oa (binV .add .scalar d (.int .i64 1)) fun ae=>j7_ k j0 ad b c ae v
 )
 )
 (
 some (a,h)
 ):=bkEq
theorem a3w:evalFn tab (k+1) p2_ [a,b,c] h =
 ob (newVar h (AV.cells a)) fun d e=>oa (binV .lss .scalar b (.int .i64 0)) fun f=>ob (gd f false (some (b,e)) e) fun g i=>ob (gd f false (pure1 i (fldA 0 d)) i) fun l m=>ob (gd f false (pure1 m (ld1 m l)) m) fun n o=>ob (gd f false (pure1 o (lenS n)) o) fun p q=>ob (gd f false (pure1 q (binV .geq .scalar g p)) q) fun r s=>oa (pickV f (.bool true) r) fun t=>cond2 t
 (
 some ((.int .i64 (-1)),s)
 )
 (
 j7_ k k b c d (.int .i64 0) s
 ):=fnEq
theorem a4J:evalFn tab (k+1) p3_ [a,b] h =
 ob (newVar h (AV.cells b)) fun c d=>oa (fldA 0 c) fun e=>oa (ld1 d e) fun f=>oa (nilCk a) fun g=>oa (fldA 6 g) fun i=>oa (fldA 0 i) fun l=>oa (ld1 d l) fun m=>oa (lenS m) fun n=>oa (binV .mul .scalar f n) fun o=>oa (fldA 1 c) fun p=>oa (ld1 d p) fun q=>oa (binV .add .scalar o q) fun r=>oa (binV .mul .scalar (.int .i64 2) r) fun s=>oa (fldA 2 c) fun t=>oa (ld1 d t) fun u=>cond2 u
 (
 oa (binV .add .scalar s (.int .i64 1)) fun v=>some (v,d)
 )
 (
 some (s,d)
 ):=fnEq
theorem a3M:evalFn tab (k+1) q9_ [a,b] h =
 ob (newVar h [.int .i64 0,.int .i64 0,.bool false]) fun c d=>oa (binV .quo .scalar b (.int .i64 2)) fun e=>oa (nilCk a) fun f=>oa (fldA 6 f) fun g=>oa (fldA 0 g) fun i=>oa (ld1 d i) fun l=>oa (lenS l) fun m=>oa (binV .quo .scalar e m) fun n=>oa (nilCk a) fun o=>oa (fldA 6 o) fun p=>oa (fldA 0 p) fun q=>oa (ld1 d q) fun r=>oa (lenS r) fun s=>oa (binV .rem .scalar e s) fun t=>oa (binV .rem .scalar b (.int .i64 2)) fun u=>oa (binV .eql .scalar u (.int .i64 1)) fun v=>oa (buildV [.int .i64 0,.int .i64 0,.bool false] [(0,1,n),(1,1,t),(2,1,v)]) fun w=>oh (stN 3 d c w) fun x=>oa (ldN 3 x c) fun y=>some (y,x):=fnEq
def l2_:=bk tab tbl m2_ 0 [j0] [a,b,c,d,e,f,g] h k
theorem a0b:l2_ k (j0+1) a b c d e f g h =
 oa (binV .lss .scalar g f) fun i=>cond2 i
 (
 oa (idxS 1 e g) fun l=>oa (ld1 h l) fun m=>oa (nilCk a) fun n=>oa (fldA 0 n) fun o=>oa (ld1 h o) fun p=>oa (nilCk p) fun q=>oa (fldA 0 q) fun r=>oa (fldA 3 r) fun s=>oa (ld1 h s) fun t=>oa (idxS 7 t m) fun u=>oa (ldN 7 h u) fun v=>ob (newVar h [.int .i64 0,.int .i64 0,.int .i64 0,.int .i64 0,.int .i64 0,.int .i64 0,.int .i64 0]) fun w x=>oh (stN 7 x w v) fun y=>oa (nilCk a) fun z=>oa (fldA 0 z) fun aa=>oa (ld1 y aa) fun ab=>oa (fldA 1 w) fun ac=>oa (ld1 y ac) fun ad=>oa (nilCk a) fun ae=>oa (fldA 0 ae) fun af=>oa (ld1 y af) fun ag=>oa (nilCk ag) fun ai=>oa (fldA 6 ai) fun al=>oa (fldA 0 al) fun am=>oa (ld1 y am) fun an=>oa (fldA 1 d) fun ao=>oa (ld1 y ao) fun ap=>oa (fldA 2 w) fun aq=>oa (ld1 y aq) fun ar=>oa (idxS 5 an ap) fun au=>oa (idxA 5 1 au ar) fun av=>oa (ld1 y av) fun aw=>oa (buildV [.int .i64 0,.int .i64 0,.bool false] [(0,1,ad),(1,1,aw),(2,1,c)]) fun ax=>ob (evalFn tab k p3_ [ab,ax] y) fun ay az=>oa (nilCk a) fun a0=>oa (fldA 2 a0) fun a1=>oa (ld1 az a1) fun a2=>oa (idxS 1 a2 ay) fun a3=>oa (ld1 az a3) fun a4=>oa (binV .lss .scalar a4 (.int .i64 0)) fun a5=>ob (gd a5 true (some (a,az)) az) fun a6 a7=>ob (gd a5 true (pure1 a7 (nilCk a6)) a7) fun a8 a9=>ob (gd a5 true (pure1 a9 (fldA 1 a8)) a9) fun ba bb=>ob (gd a5 true (pure1 bb (ld1 bb ba)) bb) fun bc bd=>ob (gd a5 true (some (ay,bd)) bd) fun be bf=>ob (gd a5 true (some (a,bf)) bf) fun bg bi=>ob (gd a5 true (pure1 bi (nilCk bg)) bi) fun bl bm=>ob (gd a5 true (pure1 bm (fldA 2 bl)) bm) fun bn bo=>ob (gd a5 true (pure1 bo (ld1 bo bn)) bo) fun bp bq=>ob (gd a5 true (some (b,bq)) bq) fun br bs=>ob (gd a5 true (pure1 bs (idxS 1 bp br)) bs) fun bt bu=>ob (gd a5 true (pure1 bu (ld1 bu bt)) bu) fun bv bw=>ob (gd a5 true (pure1 bw (fldA 3 w)) bw) fun bx bz=>ob (gd a5 true (pure1 bz (ld1 bz bx)) bz) fun b0 b1=>ob (gd a5 true (pure1 b1 (binV .add .scalar bv b0)) b1) fun b2 b3=>ob (gd a5 true (evalFn tab k e5_ [bc,be,b2] b3) b3) fun b4 b5=>oa (pickV a5 b4 (.bool false)) fun b6=>cond2 b6
 (
 oa (nilCk a) fun b7=>oa (fldA 3 b7) fun b8=>oa (ld1 b5 b8) fun b9=>oa (nilCk a) fun ca=>oa (fldA 4 ca) fun cb=>oa (ld1 b5 cb) fun cc=>oa (idxS 1 b9 ay) fun cd=>oh (stN 1 b5 cd m) fun ce=>oa (idxS 1 cc ay) fun cf=>oh (stN 1 ce cf b) fun cg=>oa (binV .add .scalar g (.int .i64 1)) fun ci=>l2_ k j0 a b c d e f ci cg
 )
 (
 oa (binV .add .scalar g (.int .i64 1)) fun cl=>l2_ k j0 a b c d e f cl b5
 )
 )
 (
 some (.tup [],h)
 ):=bkEq
theorem a3N:evalFn tab (k+1) m2_ [a,b,c,d] h =
 oa (nilCk a) fun e=>oa (fldA 0 e) fun f=>oa (ld1 h f) fun g=>ob (evalFn tab k q9_ [g,b] h) fun i l=>ob (newVar l [.int .i64 0,.int .i64 0,.bool false]) fun m n=>oh (stN 3 n m i) fun o=>oa (lenS d) fun p=>l2_ k k a b c m d p (.int .i64 0) o:=fnEq
theorem a2y:evalFn tab (k+1) l4_ [a,b,c] h =
 ob (newVar h (AV.cells a)) fun d e=>oa (ld1 e b) fun f=>oa (nilCk f) fun g=>oa (fldA 0 g) fun i=>oa (ld1 e i) fun l=>oa (ldN 3 e d) fun m=>ob (evalFn tab k p3_ [l,m] e) fun n o=>oa (ld1 o b) fun p=>oa (nilCk p) fun q=>oa (fldA 2 q) fun r=>oa (ld1 o r) fun s=>oa (idxS 1 s n) fun t=>oa (ld1 o t) fun u=>oa (binV .geq .scalar u (.int .i64 0)) fun v=>ob (gd v true (pure1 o (ld1 o c)) o) fun w x=>ob (gd v true (pure1 x (binV .lss .scalar w (.int .i64 0))) x) fun y z=>ob (gd v true (some (y,z)) z) fun aa ab=>ob (gd aa false (pure1 ab (ld1 ab b)) ab) fun ac ad=>ob (gd aa false (pure1 ad (nilCk ac)) ad) fun ae af=>ob (gd aa false (pure1 af (fldA 2 ae)) af) fun ag ai=>ob (gd aa false (pure1 ai (ld1 ai ag)) ai) fun al am=>ob (gd aa false (some (n,am)) am) fun an ao=>ob (gd aa false (pure1 ao (idxS 1 al an)) ao) fun ap aq=>ob (gd aa false (pure1 aq (ld1 aq ap)) aq) fun ar au=>ob (gd aa false (pure1 au (ld1 au b)) au) fun av aw=>ob (gd aa false (pure1 aw (nilCk av)) aw) fun ax ay=>ob (gd aa false (pure1 ay (fldA 2 ax)) ay) fun az a0=>ob (gd aa false (pure1 a0 (ld1 a0 az)) a0) fun a1 a2=>ob (gd aa false (pure1 a2 (ld1 a2 c)) a2) fun a3 a4=>ob (gd aa false (pure1 a4 (idxS 1 a1 a3)) a4) fun a5 a6=>ob (gd aa false (pure1 a6 (ld1 a6 a5)) a6) fun a7 a8=>ob (gd aa false (pure1 a8 (binV .lss .scalar ar a7)) a8) fun a9 ba=>ob (gd v true (pure1 ba (pickV aa (.bool true) a9)) ba) fun bb bc=>oa (pickV v bb (.bool false)) fun bd=>cond2 bd
 (
 oh (stN 1 bc c n) fun be=>some (.tup [],be)
 )
 (
 some (.tup [],bc)
 ):=fnEq
theorem a1w:evalFn tab (k+1) b1_ [a,b,c,d] h =
 oa (nilCk a) fun e=>oa (fldA 0 e) fun f=>oa (fldA 0 f) fun g=>oa (fldA 0 g) fun i=>oa (ld1 h i) fun l=>oa (binV .mul .scalar b l) fun m=>oa (binV .add .scalar m c) fun n=>oa (binV .mul .scalar n (.int .i64 5)) fun o=>oa (binV .add .scalar o d) fun p=>some (p,h):=fnEq
theorem a1e:evalFn tab (k+1) d2_ [a,b] h =
 ob (newVar h (AV.cells b)) fun c d=>oa (nilCk a) fun e=>oa (fldA 0 e) fun f=>oa (fldA 3 f) fun g=>oa (ld1 d g) fun i=>oa (ldN 7 d c) fun l=>ob (buildSl 7 1 [.int .i64 0,.int .i64 0,.int .i64 0,.int .i64 0,.int .i64 0,.int .i64 0,.int .i64 0] [(0,7,l)] d) fun m n=>ob (apnd 7 56 i m n) fun o p=>oa (nilCk a) fun q=>oa (fldA 0 q) fun r=>oa (fldA 3 r) fun s=>oh (stN 1 p s o) fun t=>oa (nilCk a) fun u=>oa (fldA 6 u) fun v=>oa (ld1 t v) fun w=>oa (fldA 0 c) fun x=>oa (ld1 t x) fun y=>oa (fldA 1 c) fun z=>oa (ld1 t z) fun aa=>oa (fldA 2 c) fun ab=>oa (ld1 t ab) fun ac=>oa (nilCk a) fun ad=>oa (fldA 0 ad) fun ae=>oa (fldA 3 ae) fun af=>oa (ld1 t af) fun ag=>oa (lenS ag) fun ai=>ob (evalFn tab k b1_ [a,y,aa,ac] t) fun al am=>chk ((sameB (pure1 am (ld1 am v)) w && (sameB (pure1 am (ld1 am af)) ag && true))) <|oa (idxS 1 w al) fun an=>oh (stN 1 am an ai) fun ao=>some (.tup [],ao):=fnEq
theorem a3c:evalFn tab (k+1) n3_ [a] h =
 ob (newVar h (AV.cells a)) fun b c=>oa (ldN 2 c b) fun d=>oa (buildV [.int .i64 0,.nils] [(0,2,d)]) fun e=>ob (newVar c (AV.cells e)) fun f g=>some (f,g):=fnEq
def j3_:=bk tab tbl b8_ 0 [j0] [a,b,c,d] h k
def j4_:=bk tab tbl b8_ 1 [j0,j1] [a,b,c,d,e,f] h k
def o6_:=bk tab tbl b8_ 2 [j0] [a,b,c,d,e] h k
def y3_:=bk tab tbl b8_ 3 [j0] [a,b,c,d] h k
theorem a1f:y3_ k j0 a b c d h =
 oa (binV .add .scalar d (.int .i64 1)) fun e=>j3_ k j0 a b c e h:=bkEq
theorem a1g:o6_ k j0 a b c d e h =
 oa (binV .geq .scalar e (.int .i64 2)) fun f=>ob (buildSl 1 1 [.bool false] [(0,1,f)] h) fun g i=>ob (apnd 1 1 c g i) fun l m=>y3_ k j0 a b l d m:=bkEq
theorem t4_:j4_ k j0 (j1+1) a b c d e f h =
 oa (binV .lss .scalar f (.int .u64 5)) fun g=>cond2 g
 (
 ob (evalFn tab k h3_ [b,d] h) fun i l=>oa (binV .shr .scalar i f) fun m=>oa (binV .and .scalar m (.int .i64 1)) fun n=>oa (binV .add .scalar e n) fun o=>oa (binV .add .scalar f (.int .u64 1)) fun p=>j4_ k j0 j1 a b c d o p l
 )
 (
 o6_ k j0 a b c d e h
 ):=bkEq
theorem t5_:j3_ k (j0+1) a b c d h =
 oa (fldA 0 a) fun e=>oa (ld1 h e) fun f=>oa (binV .lss .scalar d f) fun g=>cond2 g
 (
 j4_ k j0 k a b c d (.int .i64 0) (.int .u64 0) h
 )
 (
 some (c,h)
 ):=bkEq
theorem a2a:evalFn tab (k+1) b8_ [a] h =
 ob (newVar h (AV.cells a)) fun b c=>oa (ldN 2 c b) fun d=>ob (evalFn tab k n3_ [d] c) fun e f=>j3_ k k b e .nils (.int .i64 0) f:=fnEq
def e0_:=bk tab tbl i6_ 0 [j0] [a,b,c,d] h k
theorem s1_:e0_ k (j0+1) a b c d h =
 oa (nilCk a) fun e=>oa (fldA 0 e) fun f=>oa (fldA 1 f) fun g=>oa (ld1 h g) fun i=>oa (lenS i) fun l=>oa (binV .lss .scalar d l) fun m=>cond2 m
 (
 oa (nilCk a) fun n=>oa (fldA 0 n) fun o=>oa (fldA 1 o) fun p=>oa (ld1 h p) fun q=>oa (idxS 4 q d) fun r=>oa (fldA 0 r) fun s=>oa (ld1 h s) fun t=>oa (binV .eql .scalar t b) fun u=>cond2 u
 (
 ob (buildSl 1 1 [.int .i64 0] [(0,1,d)] h) fun v w=>ob (apnd 1 8 c v w) fun x y=>oa (binV .add .scalar d (.int .i64 1)) fun z=>e0_ k j0 a b x z y
 )
 (
 oa (binV .add .scalar d (.int .i64 1)) fun aa=>e0_ k j0 a b c aa h
 )
 )
 (
 some (c,h)
 ):=bkEq
theorem a1O:evalFn tab (k+1) i6_ [a,b] h =
 e0_ k k a b .nils (.int .i64 0) h:=fnEq
def e4_:=bk tab tbl k5_ 0 [j0] [a,b,c,d] h k
theorem t6_:e4_ k (j0+1) a b c d h =
 oa (nilCk a) fun e=>oa (fldA 0 e) fun f=>oa (fldA 1 f) fun g=>oa (ld1 h g) fun i=>oa (lenS i) fun l=>oa (binV .lss .scalar d l) fun m=>cond2 m
 (
 oa (nilCk a) fun n=>oa (fldA 0 n) fun o=>oa (fldA 1 o) fun p=>oa (ld1 h p) fun q=>oa (idxS 4 q d) fun r=>oa (fldA 1 r) fun s=>oa (ld1 h s) fun t=>oa (binV .eql .scalar t b) fun u=>cond2 u
 (
 ob (buildSl 1 1 [.int .i64 0] [(0,1,d)] h) fun v w=>ob (apnd 1 8 c v w) fun x y=>oa (binV .add .scalar d (.int .i64 1)) fun z=>e4_ k j0 a b x z y
 )
 (
 oa (binV .add .scalar d (.int .i64 1)) fun aa=>e4_ k j0 a b c aa h
 )
 )
 (
 some (c,h)
 ):=bkEq
theorem a2b:evalFn tab (k+1) k5_ [a,b] h =
 e4_ k k a b .nils (.int .i64 0) h:=fnEq
theorem a1P:evalFn tab (k+1) n9_ [a] h =
 oa (binV .eql .slice a .nils) fun b=>cond2 b
 (
 some (.nils,h)
 )
 (
 ob (buildSl 4 0 [] [] h) fun c d=>ob (apnd 4 32 c a d) fun e f=>some (e,f)
 ):=fnEq
theorem a6h:evalFn tab (k+1) w2_ [a,b] h =
 oa (binV .geq .scalar b (.int .i64 0)) fun c=>ob (gd c true (some (b,h)) h) fun d e=>ob (gd c true (some (a,e)) e) fun f g=>ob (gd c true (pure1 g (nilCk f)) g) fun i l=>ob (gd c true (pure1 l (fldA 2 i)) l) fun m n=>ob (gd c true (pure1 n (ld1 n m)) n) fun o p=>ob (gd c true (pure1 p (lenS o)) p) fun q r=>ob (gd c true (pure1 r (binV .lss .scalar d q)) r) fun s t=>oa (pickV c s (.bool false)) fun u=>some (u,t):=fnEq
theorem a5f:evalFn tab (k+1) x5_ [a,b,c] h =
 oa (nilCk a) fun d=>oa (fldA 0 d) fun e=>oa (ld1 h e) fun f=>ob (buildSl 1 1 [.int .i64 0] [(0,1,b)] h) fun g i=>oa (nilCk a) fun l=>oa (fldA 1 l) fun m=>oa (ld1 i m) fun n=>ob (buildSl 1 1 [.int .i64 0] [(0,1,c)] i) fun o p=>ob (apnd 1 8 f g p) fun q r=>chk ((sameB (pure1 r (ld1 r m)) n && true)) <|ob (apnd 1 8 n o r) fun s t=>oa (nilCk a) fun u=>oa (fldA 0 u) fun v=>oh (stN 1 t v q) fun w=>oa (nilCk a) fun x=>oa (fldA 1 x) fun y=>oh (stN 1 w y s) fun z=>some (.tup [],z):=fnEq
theorem a3x:evalFn tab (k+1) h1_ [a] h =
 oa (nilCk a) fun b=>oa (fldA 0 b) fun c=>some ((.ifc 218 c),h):=fnEq
theorem a2z:evalFn tab (k+1) l5_ [a,b] h =
 ob (callMeth tab (evalFn tab k) "Push" a [b] h) fun c d=>ob (callMeth tab (evalFn tab k) "Len" a [] d) fun e f=>oa (binV .sub .scalar e (.int .i64 1)) fun g=>ob (evalFn tab k j6_ [a,g] f) fun i l=>some (.tup [],l):=fnEq
theorem a2M:evalFn tab (k+1) m3_ [a,b] h =
 ob (callMeth tab (evalFn tab k) "Len" a [] h) fun c d=>ob (evalFn tab k b4_ [a,b,c] d) fun e f=>oa (unV .not e) fun g=>cond2 g
 (
 ob (evalFn tab k j6_ [a,b] f) fun i l=>some (.tup [],l)
 )
 (
 some (.tup [],f)
 ):=fnEq
theorem a4K:evalFn tab (k+1) a0i [a] h =
 ob (newVar h (AV.cells a)) fun b c=>oa (fldA 0 b) fun d=>oa (ld1 c d) fun e=>oa (lenS e) fun f=>oa (fldA 0 b) fun g=>oa (ld1 c g) fun i=>oa (slSl 1 i none (some f) (some f)) fun l=>ob (evalFn tab k h0_ [l] c) fun m n=>some (m,n):=fnEq
theorem a5g:evalFn tab (k+1) a0z [a,b,c] h =
 ob (newVar h [.nils,.nils]) fun d e=>ob (evalFn tab k w2_ [a,c] e) fun f g=>oa (unV .not f) fun i=>cond2 i
 (
 oa (buildV [.nils,.nils] []) fun l=>oh (stN 2 g d l) fun m=>oa (ldN 2 m d) fun n=>some (n,m)
 )
 (
 oa (idxS 2 b c) fun o=>oa (ldN 2 g o) fun p=>oh (stN 2 g d p) fun q=>oa (ldN 2 q d) fun r=>some (r,q)
 ):=fnEq
theorem a3y:evalFn tab (k+1) p4_ [a] h =
 oa (nilCk a) fun b=>oa (fldA 0 b) fun c=>oa (ld1 h c) fun d=>oa (lenS d) fun e=>some (e,h):=fnEq
theorem a2N:evalFn tab (k+1) s3_ [a] h =
 ob (callMeth tab (evalFn tab k) "Len" a [] h) fun b c=>oa (binV .sub .scalar b (.int .i64 1)) fun d=>ob (callMeth tab (evalFn tab k) "Swap" a [(.int .i64 0),d] c) fun e f=>ob (evalFn tab k b4_ [a,(.int .i64 0),d] f) fun g i=>ob (callMeth tab (evalFn tab k) "Pop" a [] i) fun l m=>some (l,m):=fnEq
def c8_:=bk tab tbl h3_ 0 [j0] [a,b,c,d] h k
theorem q8_:c8_ k (j0+1) a b c d h =
 oa (nilCk a) fun e=>oa (fldA 0 e) fun f=>oa (fldA 1 f) fun g=>oa (ld1 h g) fun i=>oa (lenS i) fun l=>oa (binV .lss .scalar d l) fun m=>cond2 m
 (
 oa (nilCk a) fun n=>oa (fldA 0 n) fun o=>oa (fldA 1 o) fun p=>oa (ld1 h p) fun q=>oa (idxS 4 q d) fun r=>oa (fldA 0 r) fun s=>oa (ld1 h s) fun t=>oa (binV .eql .scalar t b) fun u=>ob (gd u false (some (a,h)) h) fun v w=>ob (gd u false (pure1 w (nilCk v)) w) fun x y=>ob (gd u false (pure1 y (fldA 0 x)) y) fun z aa=>ob (gd u false (pure1 aa (fldA 1 z)) aa) fun ab ac=>ob (gd u false (pure1 ac (ld1 ac ab)) ac) fun ad ae=>ob (gd u false (some (d,ae)) ae) fun af ag=>ob (gd u false (pure1 ag (idxS 4 ad af)) ag) fun ai al=>ob (gd u false (pure1 al (fldA 1 ai)) al) fun am an=>ob (gd u false (pure1 an (ld1 an am)) an) fun ao ap=>ob (gd u false (some (b,ap)) ap) fun aq ar=>ob (gd u false (pure1 ar (binV .eql .scalar ao aq)) ar) fun au av=>oa (pickV u (.bool true) au) fun aw=>cond2 aw
 (
 oa (nilCk a) fun ax=>oa (fldA 0 ax) fun ay=>oa (fldA 1 ay) fun az=>oa (ld1 av az) fun a1=>oa (idxS 4 a1 d) fun a2=>oa (fldA 2 a2) fun a3=>oa (ld1 av a3) fun a4=>oa (convV .u64 a4) fun a5=>oa (binV .shl .scalar (.int .i64 1) a5) fun a6=>oa (binV .or .scalar c a6) fun a7=>oa (binV .add .scalar d (.int .i64 1)) fun a8=>c8_ k j0 a b a7 a8 av
 )
 (
 oa (binV .add .scalar d (.int .i64 1)) fun a9=>c8_ k j0 a b c a9 av
 )
 )
 (
 some (c,h)
 ):=bkEq
theorem a1h:evalFn tab (k+1) h3_ [a,b] h =
 c8_ k k a b (.int .i64 0) (.int .i64 0) h:=fnEq
def m4_:=bk tab tbl j6_ 0 [j0] [a,b] h k
theorem y4_:m4_ k (j0+1) a b h =
 oa (binV .sub .scalar b (.int .i64 1)) fun c=>oa (binV .quo .scalar c (.int .i64 2)) fun d=>oa (binV .eql .scalar d b) fun e=>ob (gd e false (some (a,h)) h) fun f g=>ob (gd e false (some (b,g)) g) fun i l=>ob (gd e false (some (d,l)) l) fun m n=>ob (gd e false (callMeth tab (evalFn tab k) "Less" f [i,m] n) n) fun o p=>ob (gd e false (pure1 p (unV .not o)) p) fun q r=>oa (pickV e (.bool true) q) fun s=>cond2 s
 (
 some (.tup [],r)
 )
 (
 ob (callMeth tab (evalFn tab k) "Swap" a [d,b] r) fun t u=>m4_ k j0 a d u
 ):=bkEq
theorem a3d:evalFn tab (k+1) j6_ [a,b] h =
 m4_ k k a b h:=fnEq
def f7_:=bk tab tbl b4_ 0 [j0] [a,b,c,d] h k
def f8_:=bk tab tbl b4_ 1 [] [a,b] h k
def f9_:=bk tab tbl b4_ 2 [j0] [a,b,c,d,e] h k
theorem v6_:f8_ k a b h =
 oa (binV .gtr .scalar b a) fun c=>some (c,h):=bkEq
theorem v7_:f9_ k j0 a b c d e h =
 ob (callMeth tab (evalFn tab k) "Less" a [e,d] h) fun f g=>oa (unV .not f) fun i=>cond2 i
 (
 f8_ k b d g
 )
 (
 ob (callMeth tab (evalFn tab k) "Swap" a [d,e] g) fun l m=>f7_ k j0 a b c e m
 ):=bkEq
theorem m5_:f7_ k (j0+1) a b c d h =
 oa (binV .mul .scalar (.int .i64 2) d) fun e=>oa (binV .add .scalar e (.int .i64 1)) fun f=>oa (binV .geq .scalar f c) fun g=>ob (gd g false (some (f,h)) h) fun i l=>ob (gd g false (pure1 l (binV .lss .scalar i (.int .i64 0))) l) fun m n=>oa (pickV g (.bool true) m) fun o=>cond2 o
 (
 f8_ k b d n
 )
 (
 oa (binV .add .scalar f (.int .i64 1)) fun p=>oa (binV .lss .scalar p c) fun q=>ob (gd q true (some (a,n)) n) fun r s=>ob (gd q true (some (p,s)) s) fun t u=>ob (gd q true (some (f,u)) u) fun v w=>ob (gd q true (callMeth tab (evalFn tab k) "Less" r [t,v] w) w) fun x y=>oa (pickV q x (.bool false)) fun z=>cond2 z
 (
 f9_ k j0 a b c d p y
 )
 (
 f9_ k j0 a b c d f y
 )
 ):=bkEq
theorem z3_:evalFn tab (k+1) b4_ [a,b,c] h =
 f7_ k k a b c b h:=fnEq
end
end Go.Gm.AQ
namespace Go.Gm.AQ
open Go Go.Gm
noncomputable section
variable (k j0 j1 j2 j3:Nat) (a b c d e f g i l m:AV) (h:Heap)
theorem a0s:evalFn tab (k+1) k1_ [a,b,c] h =
 oa (nilCk a) fun d=>oa (fldA 0 d) fun e=>oa (fldA 4 e) fun f=>oa (ld1 h f) fun g=>oa (buildV [.int .i64 0,.int .i64 0] [(0,1,b),(1,1,c)]) fun i=>ob (buildSl 2 1 [.int .i64 0,.int .i64 0] [(0,2,i)] h) fun l m=>ob (apnd 2 16 g l m) fun n o=>oa (nilCk a) fun p=>oa (fldA 0 p) fun q=>oa (fldA 4 q) fun r=>oh (stN 1 o r n) fun s=>some (.tup [],s):=fnEq
theorem a3e:evalFn tab (k+1) t9_ [a,b] h =
 ob (newVar h (AV.cells a)) fun c d=>ob (newVar d (AV.cells b)) fun e f=>oa (fldA 1 c) fun g=>oa (ld1 f g) fun i=>oa (fldA 1 e) fun l=>oa (ld1 f l) fun m=>oa (binV .neq .scalar i m) fun n=>cond2 n
 (
 oa (fldA 1 c) fun o=>oa (ld1 f o) fun p=>oa (fldA 1 e) fun q=>oa (ld1 f q) fun r=>oa (binV .lss .scalar p r) fun s=>some (s,f)
 )
 (
 oa (fldA 0 c) fun t=>oa (ld1 f t) fun u=>oa (fldA 0 e) fun v=>oa (ld1 f v) fun w=>oa (binV .lss .scalar u w) fun x=>some (x,f)
 ):=fnEq
theorem a3f:evalFn tab (k+1) u0_ [a,b,c] h =
 oa (nilCk a) fun d=>oa (fldA 0 d) fun e=>oa (ld1 h e) fun f=>oa (idxS 2 f b) fun g=>oa (ldN 2 h g) fun i=>oa (nilCk a) fun l=>oa (fldA 0 l) fun m=>oa (ld1 h m) fun n=>oa (idxS 2 n c) fun o=>oa (ldN 2 h o) fun p=>ob (callVal (evalFn tab k) (.fn t9_ [] []) [i,p] h) fun q r=>some (q,r):=fnEq
theorem a3z:evalFn tab (k+1) w3_ [a] h =
 oa (nilCk a) fun b=>oa (fldA 0 b) fun c=>oa (ld1 h c) fun d=>oa (lenS d) fun e=>oa (binV .sub .scalar e (.int .i64 1)) fun f=>oa (nilCk a) fun g=>oa (fldA 0 g) fun i=>oa (ld1 h i) fun l=>oa (idxS 2 l f) fun m=>oa (ldN 2 h m) fun n=>ob (newVar h [.int .i64 0,.int .i64 0]) fun o p=>oh (stN 2 p o n) fun q=>oa (nilCk a) fun r=>oa (fldA 0 r) fun s=>oa (ld1 q s) fun t=>oa (slSl 2 t none (some f) none) fun u=>oa (nilCk a) fun v=>oa (fldA 0 v) fun w=>oh (stN 1 q w u) fun x=>oa (nilCk a) fun y=>oa (fldA 1 y) fun z=>oa (ld1 x z) fun aa=>oa (fldA 0 o) fun ab=>oa (ld1 x ab) fun ac=>oa (idxS 1 aa ac) fun ad=>oh (stN 1 x ad (.int .i64 (-1))) fun ae=>oa (ldN 2 ae o) fun af=>some ((.ifc 198 af),ae):=fnEq
theorem a3g:evalFn tab (k+1) u1_ [a,b] h =
 oa (tAssert 198 (.agg [.int .i64 0,.int .i64 0]) true b) fun c=>oa (extr 0 c) fun d=>oa (extr 1 c) fun e=>ob (newVar h [.int .i64 0,.int .i64 0]) fun f g=>oh (stN 2 g f d) fun i=>cond2 e
 (
 oa (nilCk a) fun l=>oa (fldA 1 l) fun m=>oa (ld1 i m) fun n=>oa (fldA 0 f) fun o=>oa (ld1 i o) fun p=>oa (nilCk a) fun q=>oa (fldA 0 q) fun r=>oa (ld1 i r) fun s=>oa (lenS s) fun t=>oa (idxS 1 n p) fun u=>oh (stN 1 i u t) fun v=>oa (nilCk a) fun w=>oa (fldA 0 w) fun x=>oa (ld1 v x) fun y=>oa (ldN 2 v f) fun z=>ob (buildSl 2 1 [.int .i64 0,.int .i64 0] [(0,2,z)] v) fun aa ab=>ob (apnd 2 16 y aa ab) fun ac ad=>oa (nilCk a) fun ae=>oa (fldA 0 ae) fun af=>oh (stN 1 ad af ac) fun ag=>some (.tup [],ag)
 )
 (
 some (.tup [],i)
 ):=fnEq
theorem a3h:evalFn tab (k+1) n4_ [a,b,c] h =
 oa (nilCk a) fun d=>oa (fldA 0 d) fun e=>oa (ld1 h e) fun f=>oa (nilCk a) fun g=>oa (fldA 0 g) fun i=>oa (ld1 h i) fun l=>oa (nilCk a) fun m=>oa (fldA 0 m) fun n=>oa (ld1 h n) fun o=>oa (idxS 2 o c) fun p=>oa (ldN 2 h p) fun q=>oa (nilCk a) fun r=>oa (fldA 0 r) fun s=>oa (ld1 h s) fun t=>oa (idxS 2 t b) fun u=>oa (ldN 2 h u) fun v=>oa (idxS 2 f b) fun w=>oh (stN 2 h w q) fun x=>oa (idxS 2 l c) fun y=>oh (stN 2 x y v) fun z=>oa (nilCk a) fun aa=>oa (fldA 1 aa) fun ab=>oa (ld1 z ab) fun ac=>oa (nilCk a) fun ad=>oa (fldA 0 ad) fun ae=>oa (ld1 z ae) fun af=>oa (idxS 2 af b) fun ag=>oa (fldA 0 ag) fun ai=>oa (ld1 z ai) fun al=>oa (nilCk a) fun am=>oa (fldA 1 am) fun an=>oa (ld1 z an) fun ao=>oa (nilCk a) fun ap=>oa (fldA 0 ap) fun aq=>oa (ld1 z aq) fun ar=>oa (idxS 2 ar c) fun au=>oa (fldA 0 au) fun av=>oa (ld1 z av) fun aw=>oa (idxS 1 ac al) fun ax=>oh (stN 1 z ax b) fun ay=>oa (idxS 1 ao aw) fun az=>oh (stN 1 ay az c) fun a0=>some (.tup [],a0):=fnEq
theorem a2O:evalFn tab (k+1) s4_ [a,b] h =
 oa (binV .lss .scalar b (.int .i64 0)) fun c=>ob (gd c false (some (b,h)) h) fun d e=>ob (gd c false (some (a,e)) e) fun f g=>ob (gd c false (pure1 g (nilCk f)) g) fun i l=>ob (gd c false (pure1 l (fldA 1 i)) l) fun m n=>ob (gd c false (pure1 n (ld1 n m)) n) fun o p=>ob (gd c false (pure1 p (lenS o)) p) fun q r=>ob (gd c false (pure1 r (binV .geq .scalar d q)) r) fun s t=>oa (pickV c (.bool true) s) fun u=>cond2 u
 (
 some ((.int .i64 (-1)),t)
 )
 (
 oa (nilCk a) fun v=>oa (fldA 1 v) fun w=>oa (ld1 t w) fun x=>oa (idxS 1 x b) fun y=>oa (ld1 t y) fun z=>some (z,t)
 ):=fnEq
end
end Go.Gm.AQ
namespace Go.Gm.AQ
open Go Go.Gm
theorem g0_ {a n:Int}(hn:0<n)(hf:Fit n)(h:Heap):Tot tab a3_ [I a,I n] h fun v h'=>v=I (a % n)/\h=h':=by
 refine WP.tot (fun k=>a1W k _ _ h) ?_
 refine WP.oa (a3T a n (by omega)) ?_
 refine WP.oa (a2D _ _) ?_
 have hlt:=Int.tmod_lt_of_pos a hn
 have hgt:=Int.lt_tmod_of_pos a hn
 have h1:=Int.tmod_eq_emod (a:=a) (b:=n)
 have h2:=Int.emod_nonneg a (by omega:n≠0)
 have h3:=Int.emod_lt_of_pos a hn
 by_cases h0:a.tmod n<0
 ·simp only[decide_eq_true h0,cond2_true]
  refine WP.oa (a3S _ _ (by unfold Fit at *; omega)) (WP.ret ⟨?_,rfl⟩)
  congr 1
  split at h1<;>omega
 ·simp only[decide_eq_false h0,cond2_false]
  refine WP.ret ⟨?_,rfl⟩
  congr 1
  split at h1<;>omega
theorem a0m {a n:Int}(hn:0<n)(hf:Fit n)(h:Heap):Tot tab c9_ [I a,I n] h fun v h'=>v=I (a % n)/\h=h':=by
 refine WP.tot (fun k=>a1Y k _ _ h) ?_
 refine WP.oa (a3T a n (by omega)) ?_
 refine WP.oa (a2D _ _) ?_
 have hlt:=Int.tmod_lt_of_pos a hn
 have hgt:=Int.lt_tmod_of_pos a hn
 have h1:=Int.tmod_eq_emod (a:=a) (b:=n)
 have h2:=Int.emod_nonneg a (by omega:n≠0)
 have h3:=Int.emod_lt_of_pos a hn
 by_cases h0:a.tmod n<0
 ·simp only[decide_eq_true h0,cond2_true]
  refine WP.oa (a3S _ _ (by unfold Fit at *; omega)) (WP.ret ⟨?_,rfl⟩)
  congr 1
  split at h1<;>omega
 ·simp only[decide_eq_false h0,cond2_false]
  refine WP.ret ⟨?_,rfl⟩
  congr 1
  split at h1<;>omega
end Go.Gm.AQ
namespace Go.Gm.AQ
open Go Go.Gm
structure E where
 fr:Int
 to:Int
 md:Int
 co:Int
 deriving Inhabited
def encE (e:E):List AV:=[I e.fr,I e.to,I e.md,I e.co]
def encI (n:Int):List AV:=[I n]
def encB (b:Bool):List AV:=[.bool b]
def encP (p:AV × AV):List AV:=[p.1,p.2]
structure NetOk (N:Int) (es:List E):Prop where
 n0:0<=N
 n1:N<=100000
 len:es.length<=100000
 edge:∀e∈es,0<=e.fr/\e.fr<N/\0<=e.to/\e.to<N/\0<=e.md/\e.md<5
def idxTo (p:E->Bool)(es:List E)(n:Nat):List Int:=((List.range n).filter fun (i:Nat)=>p (gi es i)).map fun (i:Nat)=>(i:Int)
theorem a0n (p:E->Bool)(es:List E)(n:Nat):idxTo p es (n+1)=idxTo p es n++if p (gi es n) then [(n:Int)] else []:=by
 simp only[idxTo,List.range_succ,List.filter_append,List.map_append]
 congr 1
 by_cases h:p (gi es n)<;>simp[h]
theorem l3_ (p:E->Bool)(es:List E)(n:Nat):(idxTo p es n).length<=n:=by
 simp only[idxTo,List.length_map]
 exact Nat.le_trans (List.length_filter_le ..) (by simp)
theorem x0_ {p:E->Bool}{es:List E}{n:Nat}{k:Int}:k∈idxTo p es n↔0<=k/\k<n/\p (gi es k)=true:=by
 simp only[idxTo,List.mem_map,List.mem_filter,List.mem_range]
 constructor
 ·rintro ⟨a,⟨h1,h2⟩,rfl⟩
  exact ⟨by omega,by omega,h2⟩
 ·rintro ⟨h1,h2,h3⟩
  exact ⟨k.toNat,⟨by omega,by rw[show ((k.toNat:Nat):Int)=k by omega]; exact h3⟩,by omega⟩
def outL (es:List E)(v:Int):List Int:=idxTo (fun e=>e.fr == v) es es.length
def inL (es:List E)(v:Int):List Int:=idxTo (fun e=>e.to == v) es es.length
theorem a9v {N:Int}{es:List E}(ok:NetOk N es){v:Int}(hv:¬(0<=v/\v<N)):outL es v=[]:=by
 rw[List.eq_nil_iff_forall_not_mem]
 intro k hk
 rw[outL,x0_] at hk
 have:=ok.edge _ (a4_ hk.1 hk.2.1)
 have h3:=hk.2.2
 simp only[beq_iff_eq] at h3
 omega
structure AdjW (h:Heap) (a:AV) (N:Int) (es:List E) (s so si:AV) (O J:List (AV × AV)):Prop where
 pt:At h a [I N,s,so,si]
 ed:Sl h 4 s (es.map encE)
 so:Sl h 2 so (O.map encP)
 si:Sl h 2 si (J.map encP)
 lo:(O.length:Int)=N
 lj:(J.length:Int)=N
 oe:∀v,0<=v->v<N->Sl h 1 (gi O v).1 ((outL es v).map encI)
 oo:∀v,0<=v->v<N->Sl h 1 (gi O v).2 (((outL es v).map fun k=>(gi es k).to).map encI)
 ie:∀v,0<=v->v<N->Sl h 1 (gi J v).1 ((inL es v).map encI)
 io:∀v,0<=v->v<N->Sl h 1 (gi J v).2 (((inL es v).map fun k=>(gi es k).fr).map encI)
def AdjV (h:Heap)(a:AV)(N:Int)(es:List E):Prop:=∃s so si O J,AdjW h a N es s so si O J
theorem AdjW.ext {h h':Heap}{a:AV}{N:Int}{es:List E}{s so si:AV}{O J:List (AV × AV)}(w:AdjW h a N es s so si O J)(e:Ext h h'):AdjW h' a N es s so si O J:=
 ⟨w.pt.ext e,w.ed.ext e,w.so.ext e,w.si.ext e,w.lo,w.lj,fun v h0 h1=>(w.oe v h0 h1).ext e,fun v h0 h1=>(w.oo v h0 h1).ext e,fun v h0 h1=>(w.ie v h0 h1).ext e,fun v h0 h1=>(w.io v h0 h1).ext e⟩
theorem AdjV.ext {h h':Heap}{a:AV}{N:Int}{es:List E}(w:AdjV h a N es)(e:Ext h h'):AdjV h' a N es:=by
 obtain ⟨s,so,si,O,J,w⟩:=w
 exact ⟨s,so,si,O,J,w.ext e⟩
theorem a5y {h:Heap}{a s so si:AV}{N v:Int}(ha:At h a [I N,s,so,si]){O:List (AV × AV)}(hO:Sl h 2 so (O.map encP)) :
  Tot tab w2_ [a,I v] h fun r h'=>r=.bool (decide (0<=v/\v<O.length))/\h=h':=by
 refine WP.tot (fun k=>a6h k _ _ h) ?_
 by_cases h0:0<=v
 ·by_cases h1:v<O.length
  ·simp -implicitDefEqProofs (disch:=first|assumption|omega|(simp only[gL]<;>omega)|((repeat (first|exact Ext.refl _|assumption|apply Ext.app|apply Ext.mk|(refine Ext.setr ?_ (by (first|omega|(simp only[gL]<;>omega))) _))); done)|(simp only[gL,gA,ha.nil,ha.fldA0,ha.ldfE,hO.lenG]<;>omega)|fail) only[gB,setAll,partL,fldV,reduceIte,Nat.reduceAdd,Nat.reduceMul,ha.nil,ha.fldA0,ha.ldfE,hO.lenG]
   exact WP.ret ⟨by simp[h0,h1],rfl⟩
  ·simp -implicitDefEqProofs (disch:=first|assumption|omega|(simp only[gL]<;>omega)|((repeat (first|exact Ext.refl _|assumption|apply Ext.app|apply Ext.mk|(refine Ext.setr ?_ (by (first|omega|(simp only[gL]<;>omega))) _))); done)|(simp only[gL,gA,ha.nil,ha.fldA0,ha.ldfE,hO.lenG]<;>omega)|fail) only[gB,setAll,partL,fldV,reduceIte,Nat.reduceAdd,Nat.reduceMul,ha.nil,ha.fldA0,ha.ldfE,hO.lenG]
   exact WP.ret ⟨by simp[h0,h1],rfl⟩
 ·simp -implicitDefEqProofs (disch:=first|assumption|omega|(simp only[gL]<;>omega)|((repeat (first|exact Ext.refl _|assumption|apply Ext.app|apply Ext.mk|(refine Ext.setr ?_ (by (first|omega|(simp only[gL]<;>omega))) _))); done)|(simp only[gL,gA]<;>omega)|fail) only[gB,setAll,partL,fldV,reduceIte,Nat.reduceAdd,Nat.reduceMul]
  exact WP.ret ⟨by simp[h0],rfl⟩
theorem a1x {h:Heap}{s:AV}{xs:List (List AV)}(hs:Sl h 1 s xs)(hl:xs.length<=10000000) :
  Tot tab h0_ [s] h fun r h'=>Ext h h'/\Gr h.length h'.length h' 1 r xs:=by
 refine WP.tot (fun k=>a3v k _ h) ?_
 have hs':=hs
 rcases hs with ⟨rfl,rfl⟩|⟨o,off,lim,g,c,rfl,_⟩
 ·simp -implicitDefEqProofs (disch:=first|assumption|omega|(simp only[gL,gA]<;>omega)|fail) only[gC,reduceIte]
  exact WP.ret ⟨Ext.refl _,Gr.nil ..⟩
 ·obtain ⟨s',h',h1,h2,h3⟩:=a7x (bytes:=8) hs' (by omega) (by omega) (by omega)
  rw[a1_] at h1
  simp -implicitDefEqProofs (disch:=first|assumption|omega|(simp only[gL,gA]<;>omega)|fail) only[gC,reduceIte,h1]
  exact WP.ret ⟨h3,h2⟩
theorem a6Z {h:Heap}{s:AV}{xs:List (List AV)}(hs:Sl h 4 s xs)(hl:xs.length<=10000000) :
  Tot tab n9_ [s] h fun r h'=>Ext h h'/\Gr h.length h'.length h' 4 r xs:=by
 refine WP.tot (fun k=>a1P k _ h) ?_
 have hs':=hs
 rcases hs with ⟨rfl,rfl⟩|⟨o,off,lim,g,c,rfl,_⟩
 ·simp -implicitDefEqProofs (disch:=first|assumption|omega|(simp only[gL,gA]<;>omega)|fail) only[gC,reduceIte]
  exact WP.ret ⟨Ext.refl _,Gr.nil ..⟩
 ·obtain ⟨s',h',h1,h2,h3⟩:=a7x (bytes:=32) hs' (by omega) (by omega) (by omega)
  rw[a1_] at h1
  simp -implicitDefEqProofs (disch:=first|assumption|omega|(simp only[gL,gA]<;>omega)|fail) only[gC,reduceIte,h1]
  exact WP.ret ⟨h3,h2⟩
theorem a5U {h:Heap}{s1 s2:AV}{xs:List (List AV)}(hs:Sl h 1 s1 xs)(h2:s2.one=true)(hl:xs.length<=10000000) :
  Tot tab a0i [.agg [s1,s2]] h fun r h'=>Ext h h'/\Gr h.length h'.length h' 1 r xs:=by
 refine WP.tot (fun k=>a4K k _ h) ?_
 have e:Ext h (mkObj h [s1,s2]):=Ext.push h _
 obtain ⟨s',h3,h4⟩:=(hs.ext e).cut
 rw[a1_] at h4 e
 simp -implicitDefEqProofs (disch:=first|assumption|omega|(simp only[gL]<;>omega)|((repeat (first|exact Ext.refl _|assumption|apply Ext.app|apply Ext.mk|(refine Ext.setr ?_ (by (first|omega|(simp only[gL]<;>omega))) _))); done)|(simp only[gL,gA,hs.one,h2,hs.len,h3]<;>omega)|fail) only[gB,setAll,partL,fldV,reduceIte,Nat.reduceAdd,Nat.reduceMul,hs.one,h2,hs.len,h3]
 refine WP.call (a1x h4 hl) ?_
 rintro r h' ⟨e1,g1⟩
 exact WP.ret ⟨e.trans e1,g1.mono (Ext.len e) (Nat.le_refl _)⟩
theorem a8H {h:Heap}{a:AV}{N v:Int}{es:List E}{s so si:AV}{O J:List (AV × AV)}(w:AdjW h a N es s so si O J){l:AV}{L:List (AV × AV)}(hl:Sl h 2 l (L.map encP))(hL:(L.length:Int)=N)(h1:∀v,0<=v->v<N->(gi L v).1.one=true/\(gi L v).2.one=true) :
  Tot tab a0z [a,l,I v] h fun r h'=>Ext h h'/\r=if 0<=v/\v<N then .agg [(gi L v).1,(gi L v).2] else .agg [.nils,.nils]:=by
 refine WP.tot (fun k=>a5g k _ _ _ h) ?_
 simp -implicitDefEqProofs (disch:=first|assumption|omega|(simp only[gL]<;>omega)|((repeat (first|exact Ext.refl _|assumption|apply Ext.app|apply Ext.mk|(refine Ext.setr ?_ (by (first|omega|(simp only[gL]<;>omega))) _))); done)|(simp only[gL,gA]<;>omega)|fail) only[gB,setAll,partL,fldV,reduceIte,Nat.reduceAdd,Nat.reduceMul]
 have e:Ext h (mkObj h [.nils,.nils]):=Ext.push h _
 rw[a1_] at e
 refine WP.call (a5y (w.pt.ext e) (w.so.ext e)) ?_
 rintro _ _ ⟨rfl,rfl⟩
 have hlo:=w.lo
 by_cases hv:0<=v/\v<N
 ·rw[if_pos hv]
  obtain ⟨k1,k2⟩:=h1 v hv.1 hv.2
  simp -implicitDefEqProofs (disch:=first|assumption|omega|(simp only[gL]<;>omega)|((repeat (first|exact Ext.refl _|assumption|apply Ext.app|apply Ext.mk|(refine Ext.setr ?_ (by (first|omega|(simp only[gL]<;>omega))) _))); done)|(simp only[gL,gA,show decide (0<=v/\v<(O.length:Int))=true from decide_eq_true (by omega),hl.idxG,hl.ldN,encP,k1,k2]<;>omega)|fail) only[gB,setAll,partL,fldV,reduceIte,Nat.reduceAdd,Nat.reduceMul,show decide (0<=v/\v<(O.length:Int))=true from decide_eq_true (by omega),hl.idxG,hl.ldN,encP,k1,k2]
  exact WP.ret ⟨by ((repeat (first|exact Ext.refl _|assumption|apply Ext.app|apply Ext.mk|(refine Ext.setr ?_ (by (first|omega|(simp only[gL]<;>omega))) _)))),rfl⟩
 ·rw[if_neg hv]
  simp -implicitDefEqProofs (disch:=first|assumption|omega|(simp only[gL]<;>omega)|((repeat (first|exact Ext.refl _|assumption|apply Ext.app|apply Ext.mk|(refine Ext.setr ?_ (by (first|omega|(simp only[gL]<;>omega))) _))); done)|(simp only[gL,gA,show decide (0<=v/\v<(O.length:Int))=false from decide_eq_false (by omega)]<;>omega)|fail) only[gB,setAll,partL,fldV,reduceIte,Nat.reduceAdd,Nat.reduceMul,show decide (0<=v/\v<(O.length:Int))=false from decide_eq_false (by omega)]
  exact WP.ret ⟨by ((repeat (first|exact Ext.refl _|assumption|apply Ext.app|apply Ext.mk|(refine Ext.setr ?_ (by (first|omega|(simp only[gL]<;>omega))) _)))),rfl⟩
theorem a9w {h:Heap}{a:AV}{N v:Int}{es:List E}(ok:NetOk N es)(w:AdjV h a N es) :
  Tot tab a0T [a,I v] h fun r h'=>Ext h h'/\Gr h.length h'.length h' 1 r ((outL es v).map encI):=by
 obtain ⟨s,so,si,O,J,w⟩:=w
 refine WP.tot (fun k=>a5x k _ _ h) ?_
 simp -implicitDefEqProofs (disch:=first|assumption|omega|(simp only[gL]<;>omega)|((repeat (first|exact Ext.refl _|assumption|apply Ext.app|apply Ext.mk|(refine Ext.setr ?_ (by (first|omega|(simp only[gL]<;>omega))) _))); done)|(simp only[gL,gA,w.pt.nil,w.pt.fldA0,w.pt.ldfE]<;>omega)|fail) only[gB,setAll,partL,fldV,reduceIte,Nat.reduceAdd,Nat.reduceMul,w.pt.nil,w.pt.fldA0,w.pt.ldfE]
 refine WP.call (a8H w w.so w.lo fun v h0 h1=>⟨(w.oe v h0 h1).one,(w.oo v h0 h1).one⟩) ?_
 rintro r h1 ⟨e1,rfl⟩
 have hl:(outL es v).length<=100000:=Nat.le_trans (l3_ ..) ok.len
 by_cases hv:0<=v/\v<N
 ·rw[if_pos hv]
  refine WP.call (a5U ((w.oe v hv.1 hv.2).ext e1) (w.oo v hv.1 hv.2).one (by simp; omega)) ?_
  rintro r h' ⟨e2,g⟩
  exact WP.ret ⟨e1.trans e2,g.mono e1.len (Nat.le_refl _)⟩
 ·rw[if_neg hv,a9v ok hv]
  refine WP.call (a5U (xs:=[]) (.inl ⟨rfl,rfl⟩) rfl (by simp)) ?_
  rintro r h' ⟨e2,g⟩
  exact WP.ret ⟨e1.trans e2,g.mono e1.len (Nat.le_refl _)⟩
end Go.Gm.AQ
