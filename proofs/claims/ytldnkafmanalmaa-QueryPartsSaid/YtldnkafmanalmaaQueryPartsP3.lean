/- A part of the proof (GmAQe3, GmAQe4, GmAQe5). -/
import Derived.Test.YtldnkafmanalmaaQueryPartsP2
set_option linter.unusedVariables false
namespace Go.Gm.AQ
open Go Go.Gm
noncomputable section
variable (k j0 j1 j2 j3:Nat) (a b c d e f g i l m:AV) (h:Heap)
def x7_:=bk tab tbl e1_ 0 [j0] [a,b,c,d,e] h k
def a1E:=bk tab tbl e1_ 1 [] [a,b,c] h k
def x8_:=bk tab tbl e1_ 2 [j0] [a,b,c,d,e] h k
theorem a3v:x8_ k (j0+1) a b c d e h =
 oa (binV .lss .scalar e d) fun f=>cond2 f
 (
 oa (idxS 2 c e) fun g=>oa (ldN 2 h g) fun i=>ob (newVar h [.int .i64 0,.int .i64 0]) fun l m=>oh (stN 2 m l i) fun n=>oa (nilCk b) fun o=>oa (fldA 2 o) fun p=>oa (ld1 n p) fun q=>oa (ldN 2 n l) fun r=>ob (evalFn tab k r4_ [a,r] n) fun s t=>chk ((sameB (pure1 t (ld1 t p)) q && true)) <|ob (evalFn tab k n9_ [q,s,(.int .i64 0)] t) fun u v=>oa (binV .add .scalar e (.int .i64 1)) fun w=>x8_ k j0 a b c d w v
 )
 (
 some (b,h)
 ):=bkEq
theorem a8e:a1E k a b c h =
 oa (lenS b) fun d=>x8_ k k a c b d (.int .i64 0) h:=bkEq
theorem a3w:x7_ k (j0+1) a b c d e h =
 oa (binV .lss .scalar e d) fun f=>cond2 f
 (
 oa (nilCk c) fun g=>oa (fldA 3 g) fun i=>oa (ld1 h i) fun l=>oa (nilCk c) fun m=>oa (fldA 4 m) fun n=>oa (ld1 h n) fun o=>oa (nilCk c) fun p=>oa (fldA 5 p) fun q=>oa (ld1 h q) fun r=>oa (idxS 1 l e) fun s=>oh (stN 1 h s (.int .i64 (-1))) fun t=>oa (idxS 1 o e) fun u=>oh (stN 1 t u (.int .i64 (-1))) fun v=>oa (idxS 1 r e) fun w=>oh (stN 1 v w (.int .i64 (-1))) fun x=>oa (binV .add .scalar e (.int .i64 1)) fun y=>x7_ k j0 a b c d y x
 )
 (
 a1E k a b c h
 ):=bkEq
theorem b0a:evalFn tab (k+1) e1_ [a,b,c] h =
 oa (nilCk a) fun d=>oa (fldA 0 d) fun e=>oa (fldA 0 e) fun f=>oa (ld1 h f) fun g=>oa (mmV true g (.int .i64 0)) fun i=>oa (nilCk a) fun l=>oa (fldA 3 l) fun m=>oa (fldA 0 m) fun n=>oa (ld1 h n) fun o=>oa (lenS o) fun p=>oa (binV .mul .scalar i p) fun q=>ob (mkSl [.int .i64 0] 1 8 q q h) fun r s=>ob (mkSl [.int .i64 0] 1 8 q q s) fun t u=>ob (mkSl [.int .i64 0] 1 8 q q u) fun v w=>ob (evalFn tab k a4U [q] w) fun x y=>oa (buildV [.nilp,.nilfn,.nilp,.nils,.nils,.nils,.int .i64 0] [(0,1,a),(1,1,b),(2,1,x),(3,1,r),(4,1,t),(5,1,v)]) fun z=>ob (newVar y (AV.cells z)) fun aa ab=>oa (nilCk aa) fun ac=>oa (fldA 3 ac) fun ad=>oa (ld1 ab ad) fun ae=>oa (lenS ae) fun af=>x7_ k k a c aa af (.int .i64 0) ab:=fnEq
def a0Q:=bk tab tbl e7_ 0 [j0] [a,b,c,d,e,f] h k
theorem a4N:a0Q k (j0+1) a b c d e f h =
 oa (binV .lss .scalar f e) fun g=>cond2 g
 (
 oa (idxS 1 d f) fun i=>oa (ld1 h i) fun l=>oa (nilCk a) fun m=>oa (fldA 0 m) fun n=>oa (fldA 1 n) fun o=>oa (ld1 h o) fun p=>oa (idxS 4 p l) fun q=>oa (ldN 4 h q) fun r=>ob (newVar h [.int .i64 0,.int .i64 0,.int .i64 0,.int .i64 0]) fun s t=>oh (stN 4 t s r) fun u=>oa (fldA 1 s) fun v=>oa (ld1 u v) fun w=>oa (nilCk a) fun x=>oa (fldA 3 x) fun y=>oa (fldA 0 y) fun z=>oa (ld1 u z) fun aa=>oa (fldA 1 b) fun ab=>oa (ld1 u ab) fun ac=>oa (fldA 2 s) fun ad=>oa (ld1 u ad) fun ae=>oa (idxS 5 aa ac) fun af=>oa (idxA 5 1 af ae) fun ag=>oa (ld1 u ag) fun ai=>oa (buildV [.int .i64 0,.int .i64 0] [(0,1,w),(1,1,ai)]) fun al=>oa (buildV [.int .i64 0,.int .i64 0,.int .i64 0] [(0,2,al),(2,1,l)]) fun am=>ob (buildSl 3 1 [.int .i64 0,.int .i64 0,.int .i64 0] [(0,3,am)] u) fun an ao=>ob (apnd 3 24 c an ao) fun ap aq=>oa (binV .add .scalar f (.int .i64 1)) fun ar=>a0Q k j0 a b ap d e ar aq
 )
 (
 some (c,h)
 ):=bkEq
theorem b1G:evalFn tab (k+1) e7_ [a,b] h =
 ob (newVar h (AV.cells b)) fun c d=>oa (nilCk a) fun e=>oa (fldA 2 e) fun f=>oa (ld1 d f) fun g=>oa (fldA 0 c) fun i=>oa (ld1 d i) fun l=>ob (evalFn tab k a7U [g,l] d) fun m n=>oa (lenS m) fun o=>a0Q k k a c .nils m o (.int .i64 0) n:=fnEq
def z7_:=bk tab tbl i7_ 0 [j0] [a] h k
theorem a3W:z7_ k (j0+1) a h =
 ob (evalFn tab k h7_ [a] h) fun b c=>oa (extr 0 b) fun d=>oa (extr 1 b) fun e=>oa (unV .not e) fun f=>cond2 f
 (
 some (.tup [],c)
 )
 (
 z7_ k j0 a c
 ):=bkEq
theorem b0y:evalFn tab (k+1) i7_ [a] h =
 z7_ k k a h:=fnEq
def p0_:=bk tab tbl r3_ 0 [j0] [a,b,c,d,e,f] h k
theorem a3x:p0_ k (j0+1) a b c d e f h =
 oa (binV .lss .scalar f e) fun g=>cond2 g
 (
 oa (idxS 1 d f) fun i=>oa (ld1 h i) fun l=>oa (nilCk a) fun m=>oa (fldA 0 m) fun n=>oa (ld1 h n) fun o=>oa (buildV [.int .i64 0,.int .i64 0] [(0,1,b),(1,1,f)]) fun p=>ob (evalFn tab k r4_ [o,p] h) fun q r=>ob (gd l true (some (a,r)) r) fun s t=>ob (gd l true (pure1 t (nilCk s)) t) fun u v=>ob (gd l true (pure1 v (fldA 3 u)) v) fun w x=>ob (gd l true (pure1 x (ld1 x w)) x) fun y z=>ob (gd l true (some (q,z)) z) fun aa ab=>ob (gd l true (pure1 ab (idxS 1 y aa)) ab) fun ac ad=>ob (gd l true (pure1 ad (ld1 ad ac)) ad) fun ae af=>ob (gd l true (pure1 af (binV .geq .scalar ae (.int .i64 0))) af) fun ag ai=>oa (pickV l ag (.bool false)) fun al=>ob (gd al true (some (c,ai)) ai) fun am an=>ob (gd al true (pure1 an (binV .lss .scalar am (.int .i64 0))) an) fun ao ap=>ob (gd al true (some (ao,ap)) ap) fun aq ar=>ob (gd aq false (some (a,ar)) ar) fun au av=>ob (gd aq false (pure1 av (nilCk au)) av) fun aw ax=>ob (gd aq false (pure1 ax (fldA 3 aw)) ax) fun ay az=>ob (gd aq false (pure1 az (ld1 az ay)) az) fun a0 a1=>ob (gd aq false (some (q,a1)) a1) fun a2 a3=>ob (gd aq false (pure1 a3 (idxS 1 a0 a2)) a3) fun a4 a5=>ob (gd aq false (pure1 a5 (ld1 a5 a4)) a5) fun a6 a7=>ob (gd aq false (some (a,a7)) a7) fun a8 a9=>ob (gd aq false (pure1 a9 (nilCk a8)) a9) fun ba bb=>ob (gd aq false (pure1 bb (fldA 3 ba)) bb) fun bc bd=>ob (gd aq false (pure1 bd (ld1 bd bc)) bd) fun be bf=>ob (gd aq false (some (c,bf)) bf) fun bg bi=>ob (gd aq false (pure1 bi (idxS 1 be bg)) bi) fun bl bm=>ob (gd aq false (pure1 bm (ld1 bm bl)) bm) fun bn bo=>ob (gd aq false (pure1 bo (binV .lss .scalar a6 bn)) bo) fun bp bq=>ob (gd al true (pure1 bq (pickV aq (.bool true) bp)) bq) fun br bs=>oa (pickV al br (.bool false)) fun bt=>cond2 bt
 (
 oa (binV .add .scalar f (.int .i64 1)) fun bu=>p0_ k j0 a b q d e bu bs
 )
 (
 oa (binV .add .scalar f (.int .i64 1)) fun bv=>p0_ k j0 a b c d e bv bs
 )
 )
 (
 some (c,h)
 ):=bkEq
theorem b0b:evalFn tab (k+1) r3_ [a,b] h =
 oa (nilCk a) fun c=>oa (fldA 0 c) fun d=>oa (ld1 h d) fun e=>oa (nilCk e) fun f=>oa (fldA 3 f) fun g=>oa (fldA 1 g) fun i=>oa (ld1 h i) fun l=>oa (lenS l) fun m=>p0_ k k a b (.int .i64 (-1)) l m (.int .i64 0) h:=fnEq
def p1_:=bk tab tbl c5_ 0 [j0] [a,b,c,d,e] h k
def x9_:=bk tab tbl c5_ 1 [j0,j1] [a,b,c,d,e,f] h k
def a1F:=bk tab tbl c5_ 2 [j0] [a,b,c,d,e] h k
def a1G:=bk tab tbl c5_ 3 [] [a,b,c,d] h k
def p2_:=bk tab tbl c5_ 4 [j0] [a,b,c,d] h k
def y0_:=bk tab tbl c5_ 5 [j0,j1] [a,b,c,d,e] h k
def p3_:=bk tab tbl c5_ 6 [j0,j1,j2] [a,b,c,d,e,f,g] h k
def a1H:=bk tab tbl c5_ 7 [j0,j1] [a,b,c,d,e] h k
theorem a8f:a1F k j0 a b c d e h =
 oa (binV .add .scalar e (.int .i64 1)) fun f=>p1_ k j0 a b c d f h:=bkEq
theorem a3y:x9_ k j0 (j1+1) a b c d e f h =
 oa (fldA 0 c) fun g=>oa (ld1 h g) fun i=>oa (lenS i) fun l=>oa (binV .lss .scalar f l) fun m=>cond2 m
 (
 oa (idxS 1 d e) fun n=>oa (ld1 h n) fun o=>ob (buildSl 1 1 [.int .i64 0] [(0,1,(.int .i64 (-1)))] h) fun p q=>ob (apnd 1 8 o p q) fun r s=>oa (idxS 1 d e) fun t=>oh (stN 1 s t r) fun u=>oa (binV .add .scalar f (.int .i64 1)) fun v=>x9_ k j0 j1 a b c d e v u
 )
 (
 a1F k j0 a b c d e h
 ):=bkEq
theorem a8g:a1H k j0 j1 a b c d e h =
 oa (binV .add .scalar e (.int .i64 1)) fun f=>y0_ k j0 j1 a b c d f h:=bkEq
theorem a3z:p3_ k j0 j1 (j2+1) a b c d e f g h =
 oa (fldA 0 b) fun i=>oa (ld1 h i) fun l=>oa (lenS l) fun m=>oa (binV .lss .scalar g m) fun n=>cond2 n
 (
 oa (fldA 0 b) fun o=>oa (ld1 h o) fun p=>oa (fldA 2 f) fun q=>oa (ld1 h q) fun r=>oa (idxS 5 p g) fun s=>oa (idxA 5 1 s r) fun t=>oa (ld1 h t) fun u=>oa (fldA 0 f) fun v=>oa (ld1 h v) fun w=>oa (idxS 1 c w) fun x=>oa (ld1 h x) fun y=>oa (idxS 1 y g) fun z=>oa (ld1 h z) fun aa=>oa (binV .geq .scalar aa (.int .i64 0)) fun ab=>ob (gd ab true (some (c,h)) h) fun ac ad=>ob (gd ab true (pure1 ad (fldA 1 f)) ad) fun ae af=>ob (gd ab true (pure1 af (ld1 af ae)) af) fun ag ai=>ob (gd ab true (pure1 ai (idxS 1 ac ag)) ai) fun al am=>ob (gd ab true (pure1 am (ld1 am al)) am) fun an ao=>ob (gd ab true (some (u,ao)) ao) fun ap aq=>ob (gd ab true (pure1 aq (idxS 1 an ap)) aq) fun ar au=>ob (gd ab true (pure1 au (ld1 au ar)) au) fun av aw=>ob (gd ab true (pure1 aw (binV .lss .scalar av (.int .i64 0))) aw) fun ax ay=>ob (gd ab true (some (ax,ay)) ay) fun az a0=>ob (gd az false (some (c,a0)) a0) fun a1 a2=>ob (gd az false (pure1 a2 (fldA 1 f)) a2) fun a3 a4=>ob (gd az false (pure1 a4 (ld1 a4 a3)) a4) fun a5 a6=>ob (gd az false (pure1 a6 (idxS 1 a1 a5)) a6) fun a7 a8=>ob (gd az false (pure1 a8 (ld1 a8 a7)) a8) fun a9 ba=>ob (gd az false (some (u,ba)) ba) fun bb bc=>ob (gd az false (pure1 bc (idxS 1 a9 bb)) bc) fun bd be=>ob (gd az false (pure1 be (ld1 be bd)) be) fun bf bg=>ob (gd az false (some (c,bg)) bg) fun bi bl=>ob (gd az false (pure1 bl (fldA 0 f)) bl) fun bm bn=>ob (gd az false (pure1 bn (ld1 bn bm)) bn) fun bo bp=>ob (gd az false (pure1 bp (idxS 1 bi bo)) bp) fun bq br=>ob (gd az false (pure1 br (ld1 br bq)) br) fun bs bt=>ob (gd az false (some (g,bt)) bt) fun bu bv=>ob (gd az false (pure1 bv (idxS 1 bs bu)) bv) fun bw bx=>ob (gd az false (pure1 bx (ld1 bx bw)) bx) fun bz b0=>ob (gd az false (pure1 b0 (fldA 3 f)) b0) fun b1 b2=>ob (gd az false (pure1 b2 (ld1 b2 b1)) b2) fun b3 b4=>ob (gd az false (pure1 b4 (binV .add .scalar bz b3)) b4) fun b5 b6=>ob (gd az false (pure1 b6 (binV .gtr .scalar bf b5)) b6) fun b7 b8=>ob (gd ab true (pure1 b8 (pickV az (.bool true) b7)) b8) fun b9 ca=>oa (pickV ab b9 (.bool false)) fun cb=>cond2 cb
 (
 oa (fldA 1 f) fun cc=>oa (ld1 ca cc) fun cd=>oa (idxS 1 c cd) fun ce=>oa (ld1 ca ce) fun cf=>oa (fldA 0 f) fun cg=>oa (ld1 ca cg) fun ci=>oa (idxS 1 c ci) fun cl=>oa (ld1 ca cl) fun cm=>oa (idxS 1 cm g) fun cn=>oa (ld1 ca cn) fun co=>oa (fldA 3 f) fun cp=>oa (ld1 ca cp) fun cq=>oa (binV .add .scalar co cq) fun cr=>oa (idxS 1 cf u) fun cs=>oh (stN 1 ca cs cr) fun ct=>oa (binV .add .scalar g (.int .i64 1)) fun cu=>p3_ k j0 j1 j2 a b c (.bool true) e f cu ct
 )
 (
 oa (binV .add .scalar g (.int .i64 1)) fun cv=>p3_ k j0 j1 j2 a b c d e f cv ca
 )
 )
 (
 a1H k j0 j1 a b c d e h
 ):=bkEq
theorem a3A:y0_ k j0 (j1+1) a b c d e h =
 oa (fldA 1 a) fun f=>oa (ld1 h f) fun g=>oa (lenS g) fun i=>oa (binV .lss .scalar e i) fun l=>cond2 l
 (
 oa (fldA 1 a) fun m=>oa (ld1 h m) fun n=>oa (idxS 4 n e) fun o=>oa (ldN 4 h o) fun p=>ob (newVar h [.int .i64 0,.int .i64 0,.int .i64 0,.int .i64 0]) fun q r=>oh (stN 4 r q p) fun s=>p3_ k j0 j1 k a b c d e q (.int .i64 0) s
 )
 (
 p2_ k j0 a b c d h
 ):=bkEq
theorem r9_:p2_ k (j0+1) a b c d h =
 cond2 d
 (
 y0_ k j0 k a b c (.bool false) (.int .i64 0) h
 )
 (
 some (c,h)
 ):=bkEq
theorem a8h:a1G k a b c d h =
 oa (idxS 1 d a) fun e=>oa (ld1 h e) fun f=>oa (idxS 1 f (.int .i64 0)) fun g=>oh (stN 1 h g (.int .i64 0)) fun i=>p2_ k k b c d (.bool true) i:=bkEq
theorem a3B:p1_ k (j0+1) a b c d e h =
 oa (fldA 0 b) fun f=>oa (ld1 h f) fun g=>oa (binV .lss .scalar e g) fun i=>cond2 i
 (
 x9_ k j0 k a b c d e (.int .i64 0) h
 )
 (
 a1G k a b c d h
 ):=bkEq
theorem b0c:evalFn tab (k+1) c5_ [a,b,c] h =
 ob (newVar h (AV.cells a)) fun d e=>ob (newVar e (AV.cells b)) fun f g=>oa (fldA 0 d) fun i=>oa (ld1 g i) fun l=>ob (mkSl [.nils] 1 24 l l g) fun m n=>p1_ k k c d f m (.int .i64 0) n:=fnEq
def a1I:=bk tab tbl a0f 0 [] [a,b,c] h k
theorem a8j:a1I k a b c h =
 oa (nilCk b) fun d=>oa (fldA 3 d) fun e=>oa (ld1 h e) fun f=>oa (binV .neq .scalar f (.int .i64 0)) fun g=>cond2 g
 (
 oa (buildV [.int .i64 0,.int .i64 0,.int .i64 0,.int .i64 0,.nils] []) fun i=>oa (nilCk b) fun l=>oa (fldA 1 l) fun m=>oa (ld1 h m) fun n=>oa (nilCk b) fun o=>oa (fldA 3 o) fun p=>oa (ld1 h p) fun q=>oh (stN 5 h a i) fun r=>chk ((sameB (pure1 r (ld1 r m)) n && (sameB (pure1 r (ld1 r p)) q && true))) <|oa (ldN 5 r a) fun s=>some (.tup [s,n,q],r)
 )
 (
 oa (ldN 5 h c) fun t=>oh (stN 5 h a t) fun u=>oa (ldN 5 u a) fun v=>some (.tup [v,(.int .i64 0),(.int .i64 0)],u)
 ):=bkEq
theorem b0d:evalFn tab (k+1) a0f [a] h =
 ob (newVar h [.int .i64 0,.int .i64 0,.int .i64 0,.int .i64 0,.nils]) fun b c=>oa (lenB a) fun d=>oa (binV .gtr .scalar d (.int .i64 200)) fun e=>cond2 e
 (
 oa (buildV [.int .i64 0,.int .i64 0,.int .i64 0,.int .i64 0,.nils] []) fun f=>oh (stN 5 c b f) fun g=>oa (ldN 5 g b) fun i=>some (.tup [i,(.int .i64 0),(.int .i64 4)],g)
 )
 (
 oa (buildV [.str ⟨#[]⟩,.int .i64 0,.int .i64 0,.int .i64 0] [(0,1,a)]) fun l=>ob (newVar c (AV.cells l)) fun m n=>ob (evalFn tab k f0_ [m] n) fun o p=>ob (newVar p [.int .i64 0,.int .i64 0,.int .i64 0,.int .i64 0,.nils]) fun q r=>oh (stN 5 r q o) fun s=>oa (nilCk m) fun t=>oa (fldA 3 t) fun u=>oa (ld1 s u) fun v=>oa (binV .eql .scalar v (.int .i64 0)) fun w=>ob (gd w true (some (m,s)) s) fun x y=>ob (gd w true (pure1 y (nilCk x)) y) fun z aa=>ob (gd w true (pure1 aa (fldA 1 z)) aa) fun ab ac=>ob (gd w true (pure1 ac (ld1 ac ab)) ac) fun ad ae=>ob (gd w true (some (a,ae)) ae) fun af ag=>ob (gd w true (pure1 ag (lenB af)) ag) fun ai al=>ob (gd w true (pure1 al (binV .lss .scalar ad ai)) al) fun am an=>oa (pickV w am (.bool false)) fun ao=>cond2 ao
 (
 ob (evalFn tab k b5_ [m,(.int .i64 3)] an) fun ap aq=>a1I k b m q aq
 )
 (
 a1I k b m q an
 )
 ):=fnEq
theorem b0e:evalFn tab (k+1) a2u [a] h =
 ob (newVar h (AV.cells a)) fun b c=>ob (newVar c [.int .i64 0,.int .i64 0,.int .i64 0,.nils,.nils]) fun d e=>oa (buildV [.int .i64 0,.int .i64 0,.int .i64 0,.nils,.nils,.bool false] []) fun f=>ob (newVar e (AV.cells f)) fun g i=>oa (ldN 5 i b) fun l=>ob (evalFn tab k b9_ [g,l] i) fun m n=>oa (extr 0 m) fun o=>oa (extr 1 m) fun p=>oa (nilCk g) fun q=>oa (fldA 5 q) fun r=>oa (ld1 n r) fun s=>cond2 s
 (
 oa (buildV [.int .i64 0,.int .i64 0,.int .i64 0,.nils,.nils] []) fun t=>oh (stN 5 n d t) fun u=>oa (ldN 5 u d) fun v=>some (.tup [v,(.int .i64 4)],u)
 )
 (
 oa (nilCk g) fun w=>oa (fldA 0 w) fun x=>oa (fldA 1 x) fun y=>oh (stN 1 n y o) fun z=>oa (nilCk g) fun aa=>oa (fldA 0 aa) fun ab=>oa (fldA 2 ab) fun ac=>oh (stN 1 z ac p) fun ad=>oa (nilCk g) fun ae=>oa (fldA 0 ae) fun af=>oa (ldN 5 ad af) fun ag=>oh (stN 5 ad d ag) fun ai=>oa (ldN 5 ai d) fun al=>some (.tup [al,(.int .i64 0)],ai)
 ):=fnEq
def t1_:=bk tab tbl d0_ 0 [j0] [a,b,c,d,e,f] h k
def t2_:=bk tab tbl d0_ 1 [j0,j1] [a,b,c,d,e,f,g,i] h k
def t3_:=bk tab tbl d0_ 2 [j0,j1] [a,b,c,d,e,f,g,i,l] h k
def a0F:=bk tab tbl d0_ 3 [j0] [a,b,c,d,e,f,g] h k
def a3X:=bk tab tbl d0_ 4 [j0] [a,b,c,d,e,f] h k
def a0G:=bk tab tbl d0_ 5 [] [a,b] h k
theorem a7k:t3_ k j0 j1 a b c d e f g i l h =
 oa (idxA 5 1 g i) fun m=>oh (stN 1 h m l) fun n=>oa (binV .add .scalar i (.int .i64 1)) fun o=>t2_ k j0 j1 a b c d e f g o n:=bkEq
theorem a7l:a3X k j0 a b c d e f h =
 oa (binV .add .scalar f (.int .i64 1)) fun g=>t1_ k j0 a b c d e g h:=bkEq
theorem a7m:a0F k j0 a b c d e f g h =
 oa (fldA 0 e) fun i=>oa (ld1 h i) fun l=>oa (ldN 5 h g) fun m=>ob (buildSl 5 1 [.int .i64 0,.int .i64 0,.int .i64 0,.int .i64 0,.int .i64 0] [(0,5,m)] h) fun n o=>ob (apnd 5 40 l n o) fun p q=>oa (fldA 0 e) fun r=>oh (stN 1 q r p) fun s=>oa (fldA 1 e) fun t=>oa (ld1 s t) fun u=>oa (idxS 1 d f) fun v=>oa (ld1 s v) fun w=>oa (fldA 2 b) fun x=>oa (ld1 s x) fun y=>oa (idxS 1 w y) fun z=>oa (ld1 s z) fun aa=>ob (buildSl 1 1 [.bool false] [(0,1,aa)] s) fun ab ac=>ob (apnd 1 1 u ab ac) fun ad ae=>oa (fldA 1 e) fun af=>oh (stN 1 ae af ad) fun ag=>a3X k j0 a b c d e f ag:=bkEq
theorem a2y:t2_ k j0 (j1+1) a b c d e f g i h =
 oa (binV .lss .scalar i (.int .i64 5)) fun l=>cond2 l
 (
 oa (ldN 5 h b) fun m=>oa (idxS 1 d f) fun n=>oa (ld1 h n) fun o=>ob (evalFn tab k u1_ [m,o,i] h) fun p q=>ob (evalFn tab k a0x [d,p] q) fun r s=>oa (binV .lss .scalar r (.int .i64 0)) fun t=>cond2 t
 (
 oa (lenS d) fun u=>oa (binV .geq .scalar u a) fun v=>cond2 v
 (
 oa (buildV [.nils,.nils] []) fun w=>oh (stN 2 s c w) fun x=>oa (ldN 2 x c) fun y=>some (.tup [y,(.int .i64 5)],x)
 )
 (
 ob (buildSl 1 1 [.nils] [(0,1,p)] s) fun z aa=>ob (apnd 1 24 d z aa) fun ab ac=>t3_ k j0 j1 a b c ab e f g i u ac
 )
 )
 (
 t3_ k j0 j1 a b c d e f g i r s
 )
 )
 (
 a0F k j0 a b c d e f g h
 ):=bkEq
theorem a7n:a0G k a b h =
 oa (ldN 2 h b) fun c=>oh (stN 2 h a c) fun d=>oa (ldN 2 d a) fun e=>some (.tup [e,(.int .i64 0)],d):=bkEq
theorem a7o:t1_ k (j0+1) a b c d e f h =
 oa (lenS d) fun g=>oa (binV .lss .scalar f g) fun i=>cond2 i
 (
 ob (newVar h [.int .i64 0,.int .i64 0,.int .i64 0,.int .i64 0,.int .i64 0]) fun l m=>t2_ k j0 k a b c d e f l (.int .i64 0) m
 )
 (
 a0G k c e h
 ):=bkEq
theorem a8X:evalFn tab (k+1) d0_ [a,b] h =
 ob (newVar h (AV.cells a)) fun c d=>ob (newVar d [.nils,.nils]) fun e f=>oa (ldN 5 f c) fun g=>ob (evalFn tab k a2v [g] f) fun i l=>ob (buildSl 1 1 [.nils] [(0,1,i)] l) fun m n=>ob (newVar n [.nils,.nils]) fun o p=>t1_ k k b c e m o (.int .i64 0) p:=fnEq
def s3_:=bk tab tbl d8_ 0 [j0] [a,b,c,d,e,f,g] h k
def s4_:=bk tab tbl d8_ 1 [j0,j1] [a,b,c,d,e,f,g,i,l] h k
def s5_:=bk tab tbl d8_ 2 [j0,j1] [a,b,c,d,e,f,g,i,l,m] h k
def a0r:=bk tab tbl d8_ 3 [j0] [a,b,c,d,e,f,g,i] h k
def a3C:=bk tab tbl d8_ 4 [j0] [a,b,c,d,e,f,g] h k
theorem a6G:s5_ k j0 j1 a b c d e f g i l m h =
 oa (idxS 1 c m) fun n=>oa (ld1 h n) fun o=>oa (idxS 1 e o) fun p=>oa (ld1 h p) fun q=>oa (binV .sub .scalar q (.int .i64 1)) fun r=>oa (idxA 5 1 i l) fun s=>oh (stN 1 h s r) fun t=>oa (binV .add .scalar l (.int .i64 1)) fun u=>s4_ k j0 j1 a b c d e f g i u t:=bkEq
theorem a6H:a3C k j0 a b c d e f g h =
 oa (binV .add .scalar g (.int .i64 1)) fun i=>s3_ k j0 a b c d e f i h:=bkEq
theorem a6I:a0r k j0 a b c d e f g i h =
 oa (fldA 0 d) fun l=>oa (ld1 h l) fun m=>oa (ldN 5 h i) fun n=>ob (buildSl 5 1 [.int .i64 0,.int .i64 0,.int .i64 0,.int .i64 0,.int .i64 0] [(0,5,n)] h) fun o p=>ob (apnd 5 40 m o p) fun q r=>oa (fldA 0 d) fun s=>oh (stN 1 r s q) fun t=>oa (fldA 1 d) fun u=>oa (ld1 t u) fun v=>oa (fldA 1 a) fun w=>oa (ld1 t w) fun x=>oa (idxS 1 f g) fun y=>oa (ld1 t y) fun z=>oa (idxS 1 x z) fun aa=>oa (ld1 t aa) fun ab=>ob (buildSl 1 1 [.bool false] [(0,1,ab)] t) fun ac ad=>ob (apnd 1 1 v ac ad) fun ae af=>oa (fldA 1 d) fun ag=>oh (stN 1 af ag ae) fun ai=>a3C k j0 a b c d e f g ai:=bkEq
theorem a2j:s4_ k j0 (j1+1) a b c d e f g i l h =
 oa (binV .lss .scalar l (.int .i64 5)) fun m=>cond2 m
 (
 oa (fldA 0 a) fun n=>oa (ld1 h n) fun o=>oa (idxS 1 f g) fun p=>oa (ld1 h p) fun q=>oa (idxS 5 o q) fun r=>oa (idxA 5 1 r l) fun s=>oa (ld1 h s) fun t=>oa (idxS 1 c t) fun u=>oa (ld1 h u) fun v=>oa (idxS 1 e v) fun w=>oa (ld1 h w) fun x=>oa (binV .eql .scalar x (.int .i64 0)) fun y=>cond2 y
 (
 ob (buildSl 1 1 [.int .i64 0] [(0,1,t)] h) fun z aa=>ob (apnd 1 8 f z aa) fun ab ac=>oa (idxS 1 c t) fun ad=>oa (ld1 ac ad) fun ae=>oa (lenS ab) fun af=>oa (idxS 1 e ae) fun ag=>oh (stN 1 ac ag af) fun ai=>s5_ k j0 j1 a b c d e ab g i l t ai
 )
 (
 s5_ k j0 j1 a b c d e f g i l t h
 )
 )
 (
 a0r k j0 a b c d e f g i h
 ):=bkEq
theorem a2k:s3_ k (j0+1) a b c d e f g h =
 oa (lenS f) fun i=>oa (binV .lss .scalar g i) fun l=>cond2 l
 (
 ob (newVar h [.int .i64 0,.int .i64 0,.int .i64 0,.int .i64 0,.int .i64 0]) fun m n=>s4_ k j0 k a b c d e f g m (.int .i64 0) n
 )
 (
 oa (ldN 2 h d) fun o=>oh (stN 2 h b o) fun p=>oa (ldN 2 p b) fun q=>some (q,p)
 ):=bkEq
theorem a8k:evalFn tab (k+1) d8_ [a] h =
 ob (newVar h (AV.cells a)) fun b c=>ob (newVar c [.nils,.nils]) fun d e=>oa (ldN 2 e b) fun f=>ob (evalFn tab k j5_ [f] e) fun g i=>ob (newVar i [.nils,.nils]) fun l m=>oa (fldA 0 b) fun n=>oa (ld1 m n) fun o=>oa (lenS o) fun p=>ob (mkSl [.int .i64 0] 1 8 p p m) fun q r=>ob (buildSl 1 1 [.int .i64 0] [(0,1,(.int .i64 0))] r) fun s t=>oa (idxS 1 g (.int .i64 0)) fun u=>oa (ld1 t u) fun v=>oa (idxS 1 q v) fun w=>oh (stN 1 t w (.int .i64 1)) fun x=>s3_ k k b d g l q s (.int .i64 0) x:=fnEq
end
end Go.Gm.AQ
namespace Go.Gm.AQ
open Go Go.Gm
noncomputable section
variable (k j0 j1 j2 j3:Nat) (a b c d e f g i l m:AV) (h:Heap)
def v3_:=bk tab tbl p8_ 0 [j0] [a,b,c] h k
def a1j:=bk tab tbl p8_ 1 [] [a] h k
theorem a7H:a1j k a h =
 ob (evalFn tab k u0_ [a] h) fun b c=>ob (evalFn tab k r5_ [a] c) fun d e=>some (d,e):=bkEq
theorem a7I:v3_ k (j0+1) a b c h =
 oa (nilCk a) fun d=>oa (fldA 5 d) fun e=>oa (ld1 h e) fun f=>oa (idxS 1 f b) fun g=>oa (ld1 h g) fun i=>oa (binV .geq .scalar i (.int .i64 0)) fun l=>cond2 l
 (
 oa (nilCk a) fun m=>oa (fldA 4 m) fun n=>oa (ld1 h n) fun o=>oa (idxS 1 o b) fun p=>oa (ld1 h p) fun q=>ob (buildSl 1 1 [.int .i64 0] [(0,1,q)] h) fun r s=>ob (apnd 1 8 c r s) fun t u=>oa (nilCk a) fun v=>oa (fldA 5 v) fun w=>oa (ld1 u w) fun x=>oa (idxS 1 x b) fun y=>oa (ld1 u y) fun z=>v3_ k j0 a z t u
 )
 (
 a1j k c h
 ):=bkEq
theorem a9w:evalFn tab (k+1) p8_ [a,b] h =
 v3_ k k a b .nils h:=fnEq
def p4_:=bk tab tbl h7_ 0 [j0] [a,b,c,d,e,f] h k
def a4O:=bk tab tbl h7_ 1 [] [a] h k
theorem a8l:a4O k a h =
 some (.tup [a,(.bool true)],h):=bkEq
theorem a3D:p4_ k (j0+1) a b c d e f h =
 oa (binV .lss .scalar f e) fun g=>cond2 g
 (
 oa (idxS 3 d f) fun i=>oa (ldN 3 h i) fun l=>ob (newVar h [.int .i64 0,.int .i64 0,.int .i64 0]) fun m n=>oh (stN 3 n m l) fun o=>oa (nilCk a) fun p=>oa (fldA 0 p) fun q=>oa (ld1 o q) fun r=>oa (fldA 0 m) fun s=>oa (ldN 2 o s) fun t=>ob (evalFn tab k r4_ [r,t] o) fun u v=>oa (nilCk a) fun w=>oa (fldA 3 w) fun x=>oa (ld1 v x) fun y=>oa (idxS 1 y u) fun z=>oa (ld1 v z) fun aa=>oa (binV .lss .scalar aa (.int .i64 0)) fun ab=>ob (gd ab true (some (a,v)) v) fun ac ad=>ob (gd ab true (pure1 ad (nilCk ac)) ad) fun ae af=>ob (gd ab true (pure1 af (fldA 2 ae)) af) fun ag ai=>ob (gd ab true (pure1 ai (ld1 ai ag)) ai) fun al am=>ob (gd ab true (some (u,am)) am) fun an ao=>ob (gd ab true (some (c,ao)) ao) fun ap aq=>ob (gd ab true (some (a,aq)) aq) fun ar au=>ob (gd ab true (pure1 au (nilCk ar)) au) fun av aw=>ob (gd ab true (pure1 aw (fldA 0 av)) aw) fun ax ay=>ob (gd ab true (pure1 ay (ld1 ay ax)) ay) fun az a0=>ob (gd ab true (pure1 a0 (nilCk az)) a0) fun a1 a2=>ob (gd ab true (pure1 a2 (fldA 0 a1)) a2) fun a3 a4=>ob (gd ab true (pure1 a4 (fldA 1 a3)) a4) fun a5 a6=>ob (gd ab true (pure1 a6 (ld1 a6 a5)) a6) fun a7 a8=>ob (gd ab true (pure1 a8 (fldA 2 m)) a8) fun a9 ba=>ob (gd ab true (pure1 ba (ld1 ba a9)) ba) fun bb bc=>ob (gd ab true (pure1 bc (idxS 4 a7 bb)) bc) fun bd be=>ob (gd ab true (pure1 be (fldA 3 bd)) be) fun bf bg=>ob (gd ab true (pure1 bg (ld1 bg bf)) bg) fun bi bl=>ob (gd ab true (pure1 bl (binV .add .scalar ap bi)) bl) fun bm bn=>ob (gd ab true (evalFn tab k n9_ [al,an,bm] bn) bn) fun bo bp=>oa (pickV ab bo (.bool false)) fun bq=>cond2 bq
 (
 oa (nilCk a) fun br=>oa (fldA 4 br) fun bs=>oa (ld1 bp bs) fun bt=>oa (nilCk a) fun bu=>oa (fldA 5 bu) fun bv=>oa (ld1 bp bv) fun bw=>oa (fldA 2 m) fun bx=>oa (ld1 bp bx) fun bz=>oa (idxS 1 bt u) fun b0=>oh (stN 1 bp b0 bz) fun b1=>oa (idxS 1 bw u) fun b2=>oh (stN 1 b1 b2 b) fun b3=>oa (binV .add .scalar f (.int .i64 1)) fun b4=>p4_ k j0 a b c d e b4 b3
 )
 (
 oa (binV .add .scalar f (.int .i64 1)) fun b5=>p4_ k j0 a b c d e b5 bp
 )
 )
 (
 a4O k b h
 ):=bkEq
theorem b0f:evalFn tab (k+1) h7_ [a] h =
 oa (nilCk a) fun b=>oa (fldA 2 b) fun c=>oa (ld1 h c) fun d=>ob (evalFn tab k a0o [d] h) fun e f=>oa (extr 0 e) fun g=>oa (extr 1 e) fun i=>oa (extr 2 e) fun l=>oa (unV .not l) fun m=>cond2 m
 (
 some (.tup [(.int .i64 0),(.bool false)],f)
 )
 (
 oa (nilCk a) fun n=>oa (fldA 3 n) fun o=>oa (ld1 f o) fun p=>oa (idxS 1 p g) fun q=>oh (stN 1 f q i) fun r=>oa (nilCk a) fun s=>oa (fldA 6 s) fun t=>oh (stN 1 r t i) fun u=>oa (nilCk a) fun v=>oa (fldA 1 v) fun w=>oa (ld1 u w) fun x=>oa (nilCk a) fun y=>oa (fldA 0 y) fun z=>oa (ld1 u z) fun aa=>oa (nilCk a) fun ab=>oa (fldA 0 ab) fun ac=>oa (ld1 u ac) fun ad=>ob (evalFn tab k a0w [ad,g] u) fun ae af=>chk ((sameB (pure1 af (ld1 af w)) x && (sameB (pure1 af (ld1 af z)) aa && true))) <|ob (callVal (evalFn tab k) x [aa,ae] af) fun ag ai=>oa (lenS ag) fun al=>p4_ k k a g i ag al (.int .i64 0) ai
 ):=fnEq
theorem b0A:evalFn tab (k+1) a0w [a,b] h =
 ob (newVar h [.int .i64 0,.int .i64 0]) fun c d=>oa (nilCk a) fun e=>oa (fldA 3 e) fun f=>oa (fldA 0 f) fun g=>oa (ld1 d g) fun i=>oa (lenS i) fun l=>oa (binV .quo .scalar b l) fun m=>oa (nilCk a) fun n=>oa (fldA 3 n) fun o=>oa (fldA 0 o) fun p=>oa (ld1 d p) fun q=>oa (lenS q) fun r=>oa (binV .rem .scalar b r) fun s=>oa (buildV [.int .i64 0,.int .i64 0] [(0,1,m),(1,1,s)]) fun t=>oh (stN 2 d c t) fun u=>oa (ldN 2 u c) fun v=>some (v,u):=fnEq
theorem b1H:evalFn tab (k+1) r4_ [a,b] h =
 ob (newVar h (AV.cells b)) fun c d=>oa (fldA 0 c) fun e=>oa (ld1 d e) fun f=>oa (nilCk a) fun g=>oa (fldA 3 g) fun i=>oa (fldA 0 i) fun l=>oa (ld1 d l) fun m=>oa (lenS m) fun n=>oa (binV .mul .scalar f n) fun o=>oa (fldA 1 c) fun p=>oa (ld1 d p) fun q=>oa (binV .add .scalar o q) fun r=>some (r,d):=fnEq
def a4X:=bk tab tbl p9_ 0 [j0] [a,b,c,d,e] h k
def b1D:=bk tab tbl p9_ 1 [] [a,b,c,d,e] h k
def a4Y:=bk tab tbl p9_ 2 [j0] [a,b,c,d,e,f] h k
def a4Z:=bk tab tbl p9_ 3 [j0] [a,b,c,d,e,f,g] h k
theorem a8Z:a4X k (j0+1) a b c d e h =
 oa (binV .lss .scalar e d) fun f=>cond2 f
 (
 oa (idxS 1 c e) fun g=>oa (ld1 h g) fun i=>oa (idxS 1 b i) fun l=>oa (ld1 h l) fun m=>ob (buildSl 1 1 [.int .i64 0] [(0,1,m)] h) fun n o=>ob (apnd 1 8 a n o) fun p q=>oa (binV .add .scalar e (.int .i64 1)) fun r=>a4X k j0 p b c d r q
 )
 (
 some (a,h)
 ):=bkEq
theorem b3n:a4Z k j0 a b c d e f g h =
 ob (buildSl 1 1 [.int .i64 0] [(0,1,d)] h) fun i l=>ob (apnd 1 8 a i l) fun m n=>oa (binV .add .scalar g (.int .i64 1)) fun o=>a4Y k j0 m b c e f o n:=bkEq
theorem a9a:a4Y k (j0+1) a b c d e f h =
 oa (binV .lss .scalar f e) fun g=>cond2 g
 (
 oa (idxS 1 d f) fun i=>oa (ld1 h i) fun l=>ob (callVal (evalFn tab k) c [b,l] h) fun m n=>oa (binV .geq .scalar m (.int .i64 0)) fun o=>cond2 o
 (
 oa (nilCk b) fun p=>oa (fldA 2 p) fun q=>oa (ld1 n q) fun r=>oa (idxS 1 r m) fun s=>oa (ld1 n s) fun t=>a4Z k j0 a b c t d e f n
 )
 (
 a4Z k j0 a b c (.int .i64 (-1)) d e f n
 )
 )
 (
 some (a,h)
 ):=bkEq
theorem b3o:b1D k a b c d e h =
 oa (ldN 6 h c) fun f=>oa (ldN 2 h d) fun g=>ob (evalFn tab k t9_ [f,g] h) fun i l=>ob (evalFn tab k m0_ [i,a] l) fun m n=>oa (lenS b) fun o=>a4Y k k e m (.fn j8_ [] []) b o (.int .i64 0) n:=bkEq
theorem b5D:evalFn tab (k+1) p9_ [a,b,c,d] h =
 ob (newVar h (AV.cells a)) fun e f=>ob (newVar f (AV.cells b)) fun g i=>oa (lenS d) fun l=>ob (mkSl [.int .i64 0] 1 8 (.int .i64 0) l i) fun m n=>oa (ldN 2 n g) fun o=>ob (evalFn tab k a1s [o] n) fun p q=>oa (unV .not p) fun r=>cond2 r
 (
 oa (fldA 0 e) fun s=>oa (ldN 2 q s) fun t=>oa (ldN 2 q g) fun u=>ob (evalFn tab k c2_ [t,u,c] q) fun v w=>oa (lenS d) fun x=>a4X k k m v d x (.int .i64 0) w
 )
 (
 b1D k c d e g m q
 ):=fnEq
def a2o:=bk tab tbl a1s 0 [j0] [a,b,c,d] h k
def a4s:=bk tab tbl a1s 1 [j0,j1] [a,b,c,d,e,f] h k
theorem a7W:a4s k j0 (j1+1) a b c d e f h =
 oa (binV .lss .scalar f (.int .i64 5)) fun g=>cond2 g
 (
 oa (ixA 5 1 none e f) fun i=>oa (fldA 0 a) fun l=>oa (ld1 h l) fun m=>oa (idxS 5 m i) fun n=>oa (idxA 5 1 n f) fun o=>oa (ld1 h o) fun p=>oa (binV .neq .scalar p i) fun q=>cond2 q
 (
 some ((.bool false),h)
 )
 (
 oa (binV .add .scalar f (.int .i64 1)) fun r=>a4s k j0 j1 a b c d e r h
 )
 )
 (
 oa (binV .add .scalar d (.int .i64 1)) fun s=>a2o k j0 a b c s h
 ):=bkEq
theorem a7X:a2o k (j0+1) a b c d h =
 oa (binV .lss .scalar d c) fun e=>cond2 e
 (
 oa (idxS 5 b d) fun f=>oa (ldN 5 h f) fun g=>ob (newVar h [.int .i64 0,.int .i64 0,.int .i64 0,.int .i64 0,.int .i64 0]) fun i l=>oh (stN 5 l i g) fun m=>oa (ldN 5 m i) fun n=>a4s k j0 k a b c d n (.int .i64 0) m
 )
 (
 some ((.bool true),h)
 ):=bkEq
theorem b4F:evalFn tab (k+1) a1s [a] h =
 ob (newVar h (AV.cells a)) fun b c=>oa (fldA 0 b) fun d=>oa (ld1 c d) fun e=>oa (lenS e) fun f=>a2o k k b e f (.int .i64 0) c:=fnEq
def a0H:=bk tab tbl t9_ 0 [j0] [a,b,c,d,e] h k
def a2I:=bk tab tbl t9_ 1 [j0,j1] [a,b,c,d,e,f,g,i] h k
theorem a6s:a2I k j0 (j1+1) a b c d e f g i h =
 oa (binV .lss .scalar i g) fun l=>cond2 l
 (
 oa (idxS 1 f i) fun m=>oa (ld1 h m) fun n=>oa (fldA 3 a) fun o=>oa (ld1 h o) fun p=>oa (idxS 7 p n) fun q=>oa (fldA 0 q) fun r=>oa (ld1 h r) fun s=>oa (nilCk b) fun t=>oa (fldA 8 t) fun u=>oa (ld1 h u) fun v=>oa (nilCk b) fun w=>oa (fldA 8 w) fun x=>oa (ld1 h x) fun y=>oa (idxS 1 y s) fun z=>oa (ld1 h z) fun aa=>ob (buildSl 1 1 [.int .i64 0] [(0,1,n)] h) fun ab ac=>ob (apnd 1 8 aa ab ac) fun ad ae=>chk ((sameB (pure1 ae (ld1 ae u)) v && true)) <|oa (idxS 1 v s) fun af=>oh (stN 1 ae af ad) fun ag=>oa (binV .add .scalar i (.int .i64 1)) fun ai=>a2I k j0 j1 a b c d e f g ai ag
 )
 (
 oa (binV .add .scalar e (.int .i64 1)) fun al=>a0H k j0 a b c d al h
 ):=bkEq
theorem a6t:a0H k (j0+1) a b c d e h =
 oa (binV .lss .scalar e d) fun f=>cond2 f
 (
 oa (idxS 1 c e) fun g=>oa (ld1 h g) fun i=>oa (lenS i) fun l=>a2I k j0 k a b c d e i l (.int .i64 0) h
 )
 (
 some (b,h)
 ):=bkEq
theorem b3p:evalFn tab (k+1) t9_ [a,b] h =
 ob (newVar h (AV.cells a)) fun c d=>ob (newVar d (AV.cells b)) fun e f=>oa (ldN 6 f c) fun g=>oa (ldN 2 f e) fun i=>oa (fldA 0 c) fun l=>oa (fldA 0 l) fun m=>oa (ld1 f m) fun n=>ob (mkSl [.nils] 1 24 n n f) fun o p=>oa (buildV [.int .i64 0,.nils,.nils,.nils,.nils,.nils,.nils,.nils,.nils] [(0,6,g),(6,2,i),(8,1,o)]) fun q=>ob (newVar p (AV.cells q)) fun r s=>oa (fldA 5 c) fun t=>oa (ld1 s t) fun u=>oa (lenS u) fun v=>a0H k k c r u v (.int .i64 0) s:=fnEq
def a1Y:=bk tab tbl m0_ 0 [j0] [a,b,c,d] h k
def a4G:=bk tab tbl m0_ 1 [] [a,b] h k
def a1Z:=bk tab tbl m0_ 2 [j0] [a] h k
def a2a:=bk tab tbl m0_ 3 [j0] [a,b,c] h k
theorem b1g:a2a k j0 a b c h =
 oa (nilCk a) fun d=>oa (fldA 0 d) fun e=>oa (ld1 h e) fun f=>oa (nilCk f) fun g=>oa (fldA 8 g) fun i=>oa (ld1 h i) fun l=>oa (fldA 0 c) fun m=>oa (ld1 h m) fun n=>oa (idxS 1 l n) fun o=>oa (ld1 h o) fun p=>ob (evalFn tab k a0p [a,b,(.bool true),p] h) fun q r=>a1Z k j0 a r:=bkEq
theorem b1h:a1Z k (j0+1) a h =
 oa (nilCk a) fun b=>oa (fldA 1 b) fun c=>oa (ld1 h c) fun d=>ob (evalFn tab k a0o [d] h) fun e f=>oa (extr 0 e) fun g=>oa (extr 1 e) fun i=>oa (extr 2 e) fun l=>oa (unV .not l) fun m=>cond2 m
 (
 some (a,f)
 )
 (
 oa (nilCk a) fun n=>oa (fldA 2 n) fun o=>oa (ld1 f o) fun p=>oa (idxS 1 p g) fun q=>oh (stN 1 f q i) fun r=>oa (nilCk a) fun s=>oa (fldA 0 s) fun t=>oa (ld1 r t) fun u=>ob (evalFn tab k a2c [u,g] r) fun v w=>ob (newVar w [.int .i64 0,.int .i64 0,.bool false]) fun x y=>oh (stN 3 y x v) fun z=>oa (fldA 2 x) fun aa=>oa (ld1 z aa) fun ab=>oa (unV .not ab) fun ac=>cond2 ac
 (
 oa (nilCk a) fun ad=>oa (fldA 0 ad) fun ae=>oa (ld1 z ae) fun af=>oa (nilCk af) fun ag=>oa (fldA 0 ag) fun ai=>oa (fldA 4 ai) fun al=>oa (ld1 z al) fun am=>oa (fldA 0 x) fun an=>oa (ld1 z an) fun ao=>oa (idxS 1 am ao) fun ap=>oa (ld1 z ap) fun aq=>ob (evalFn tab k a0p [a,g,(.bool false),aq] z) fun ar au=>a2a k j0 a g x au
 )
 (
 a2a k j0 a g x z
 )
 ):=bkEq
theorem b1i:a4G k a b h =
 oa (nilCk b) fun c=>oa (fldA 1 c) fun d=>oa (ld1 h d) fun e=>oa (nilCk b) fun f=>oa (fldA 0 f) fun g=>oa (ld1 h g) fun i=>oa (buildV [.int .i64 0,.int .i64 0,.bool false] [(0,1,a)]) fun l=>ob (evalFn tab k a1x [i,l] h) fun m n=>chk ((sameB (pure1 n (ld1 n d)) e && true)) <|ob (evalFn tab k n9_ [e,m,(.int .i64 0)] n) fun o p=>a1Z k k b p:=bkEq
theorem a5S:a1Y k (j0+1) a b c d h =
 oa (binV .lss .scalar d c) fun e=>cond2 e
 (
 oa (nilCk b) fun f=>oa (fldA 2 f) fun g=>oa (ld1 h g) fun i=>oa (nilCk b) fun l=>oa (fldA 3 l) fun m=>oa (ld1 h m) fun n=>oa (nilCk b) fun o=>oa (fldA 4 o) fun p=>oa (ld1 h p) fun q=>oa (idxS 1 i d) fun r=>oh (stN 1 h r (.int .i64 (-1))) fun s=>oa (idxS 1 n d) fun t=>oh (stN 1 s t (.int .i64 (-1))) fun u=>oa (idxS 1 q d) fun v=>oh (stN 1 u v (.int .i64 (-1))) fun w=>oa (binV .add .scalar d (.int .i64 1)) fun x=>a1Y k j0 a b c x w
 )
 (
 a4G k a b h
 ):=bkEq
theorem b2P:evalFn tab (k+1) m0_ [a,b] h =
 oa (nilCk a) fun c=>oa (fldA 0 c) fun d=>oa (fldA 0 d) fun e=>oa (fldA 0 e) fun f=>oa (ld1 h f) fun g=>oa (binV .mul .scalar (.int .i64 2) g) fun i=>oa (nilCk a) fun l=>oa (fldA 6 l) fun m=>oa (fldA 0 m) fun n=>oa (ld1 h n) fun o=>oa (lenS o) fun p=>oa (binV .mul .scalar i p) fun q=>ob (mkSl [.int .i64 0] 1 8 q q h) fun r s=>ob (mkSl [.int .i64 0] 1 8 q q s) fun t u=>ob (mkSl [.int .i64 0] 1 8 q q u) fun v w=>ob (evalFn tab k a4U [q] w) fun x y=>oa (buildV [.nilp,.nilp,.nils,.nils,.nils] [(0,1,a),(1,1,x),(2,1,r),(3,1,t),(4,1,v)]) fun z=>ob (newVar y (AV.cells z)) fun aa ab=>oa (nilCk aa) fun ac=>oa (fldA 2 ac) fun ad=>oa (ld1 ab ad) fun ae=>oa (lenS ae) fun af=>a1Y k k b aa af (.int .i64 0) ab:=fnEq
def t5_:=bk tab tbl j8_ 0 [j0] [a,b,c,d,e,f] h k
theorem a4A:t5_ k (j0+1) a b c d e f h =
 oa (binV .lss .scalar f e) fun g=>cond2 g
 (
 oa (idxS 1 d f) fun i=>oa (ld1 h i) fun l=>cond2 l
 (
 oa (buildV [.int .i64 0,.int .i64 0,.bool false] [(0,1,a),(1,1,f),(2,1,(.bool false))]) fun m=>ob (callVal (evalFn tab k) c [m] h) fun n o=>oa (buildV [.int .i64 0,.int .i64 0,.bool false] [(0,1,a),(1,1,f),(2,1,(.bool true))]) fun p=>ob (callVal (evalFn tab k) c [p] o) fun q r=>oa (binV .add .scalar f (.int .i64 1)) fun s=>t5_ k j0 a b c d e s r
 )
 (
 oa (binV .add .scalar f (.int .i64 1)) fun t=>t5_ k j0 a b c d e t h
 )
 )
 (
 oa (ld1 h b) fun u=>some (u,h)
 ):=bkEq
theorem b1j:evalFn tab (k+1) j8_ [a,b] h =
 ob (newVar h (AV.cells a)) fun c d=>ob (newVar d [.int .i64 0]) fun e f=>oh (stN 1 f e (.int .i64 (-1))) fun g=>oa (ld1 g c) fun i=>oa (nilCk i) fun l=>oa (fldA 0 l) fun m=>oa (ld1 g m) fun n=>oa (nilCk n) fun o=>oa (fldA 6 o) fun p=>oa (fldA 1 p) fun q=>oa (ld1 g q) fun r=>oa (lenS r) fun s=>t5_ k k b e (.fn a0h [] [c,e]) r s (.int .i64 0) g:=fnEq
def z9_:=bk tab tbl u0_ 0 [j0] [a,b,c] h k
theorem a4b:z9_ k (j0+1) a b c h =
 oa (binV .lss .scalar b c) fun d=>cond2 d
 (
 oa (idxS 1 a c) fun e=>oa (ld1 h e) fun f=>oa (idxS 1 a b) fun g=>oa (ld1 h g) fun i=>oa (idxS 1 a b) fun l=>oh (stN 1 h l f) fun m=>oa (idxS 1 a c) fun n=>oh (stN 1 m n i) fun o=>oa (binV .add .scalar b (.int .i64 1)) fun p=>oa (binV .sub .scalar c (.int .i64 1)) fun q=>z9_ k j0 a p q o
 )
 (
 some (.tup [],h)
 ):=bkEq
theorem b0C:evalFn tab (k+1) u0_ [a] h =
 oa (lenS a) fun b=>oa (binV .sub .scalar b (.int .i64 1)) fun c=>z9_ k k a (.int .i64 0) c h:=fnEq
def a2p:=bk tab tbl a3c 0 [j0] [a,b,c] h k
def b0D:=bk tab tbl a3c 1 [] [a] h k
theorem b2Q:b0D k a h =
 ob (evalFn tab k r5_ [a] h) fun b c=>some (b,c):=bkEq
theorem b2R:a2p k (j0+1) a b c h =
 oa (lenS c) fun d=>oa (binV .gtr .scalar d (.int .i64 0)) fun e=>cond2 e
 (
 oa (lenS c) fun f=>oa (binV .sub .scalar f (.int .i64 1)) fun g=>oa (idxS 1 c g) fun i=>oa (ld1 h i) fun l=>oa (lenS c) fun m=>oa (binV .sub .scalar m (.int .i64 1)) fun n=>oa (slSl 1 c none (some n) none) fun o=>oa (binV .lss .scalar l (.int .i64 0)) fun p=>ob (gd p false (some (l,h)) h) fun q r=>ob (gd p false (pure1 r (fldA 3 a)) r) fun s t=>ob (gd p false (pure1 t (ld1 t s)) t) fun u v=>ob (gd p false (pure1 v (lenS u)) v) fun w x=>ob (gd p false (pure1 x (binV .geq .scalar q w)) x) fun y z=>oa (pickV p (.bool true) y) fun aa=>cond2 aa
 (
 some (.nils,z)
 )
 (
 oa (fldA 3 a) fun ab=>oa (ld1 z ab) fun ac=>oa (idxS 7 ac l) fun ad=>oa (ldN 7 z ad) fun ae=>ob (newVar z [.int .i64 0,.int .i64 0,.int .i64 0,.int .i64 0,.int .i64 0,.int .i64 0,.int .i64 0]) fun af ag=>oh (stN 7 ag af ae) fun ai=>oa (fldA 4 af) fun al=>oa (ld1 ai al) fun am=>oa (binV .geq .scalar am (.int .i64 0)) fun an=>cond2 an
 (
 oa (fldA 4 af) fun ao=>oa (ld1 ai ao) fun ap=>ob (buildSl 1 1 [.int .i64 0] [(0,1,ap)] ai) fun aq ar=>ob (apnd 1 8 b aq ar) fun au av=>a2p k j0 a au o av
 )
 (
 oa (fldA 5 af) fun aw=>oa (ld1 ai aw) fun ax=>oa (binV .lss .scalar ax l) fun ay=>ob (gd ay true (pure1 ai (fldA 6 af)) ai) fun az a0=>ob (gd ay true (pure1 a0 (ld1 a0 az)) a0) fun a1 a2=>ob (gd ay true (some (l,a2)) a2) fun a3 a4=>ob (gd ay true (pure1 a4 (binV .lss .scalar a1 a3)) a4) fun a5 a6=>oa (pickV ay a5 (.bool false)) fun a7=>ob (gd a7 true (some (b,a6)) a6) fun a8 a9=>ob (gd a7 true (pure1 a9 (lenS a8)) a9) fun ba bb=>ob (gd a7 true (some (o,bb)) bb) fun bc bd=>ob (gd a7 true (pure1 bd (lenS bc)) bd) fun be bf=>ob (gd a7 true (pure1 bf (binV .add .scalar ba be)) bf) fun bg bi=>ob (gd a7 true (pure1 bi (binV .lss .scalar bg (.int .i64 2000))) bi) fun bl bm=>oa (pickV a7 bl (.bool false)) fun bn=>cond2 bn
 (
 oa (fldA 6 af) fun bo=>oa (ld1 bm bo) fun bp=>oa (fldA 5 af) fun bq=>oa (ld1 bm bq) fun br=>ob (buildSl 1 2 [.int .i64 0,.int .i64 0] [(0,1,bp),(1,1,br)] bm) fun bs bt=>ob (apnd 1 8 o bs bt) fun bu bv=>a2p k j0 a b bu bv
 )
 (
 some (.nils,bm)
 )
 )
 )
 )
 (
 b0D k b h
 ):=bkEq
theorem b4G:evalFn tab (k+1) a3c [a,b] h =
 ob (newVar h (AV.cells a)) fun c d=>ob (buildSl 1 1 [.int .i64 0] [(0,1,b)] d) fun e f=>a2p k k c .nils e f:=fnEq
theorem b1I:evalFn tab (k+1) r5_ [a] h =
 oa (binV .eql .slice a .nils) fun b=>cond2 b
 (
 some (.nils,h)
 )
 (
 ob (buildSl 1 0 [] [] h) fun c d=>ob (apnd 1 8 c a d) fun e f=>some (e,f)
 ):=fnEq
end
end Go.Gm.AQ
namespace Go.Gm.AQ
open Go Go.Gm
noncomputable section
variable (k j0 j1 j2 j3:Nat) (a b c d e f g i l m:AV) (h:Heap)
def e9_:=bk tab tbl f3_ 0 [j0] [a,b,c,d] h k
def x0_:=bk tab tbl f3_ 1 [] [a,b,c] h k
def h4_:=bk tab tbl f3_ 2 [j0] [a,b,c,d] h k
theorem a1b:h4_ k (j0+1) a b c d h =
 oa (lenS c) fun e=>oa (binV .lss .scalar d e) fun f=>cond2 f
 (
 oa (idxS 1 c d) fun g=>oa (ld1 h g) fun i=>oa (binV .gtr .scalar i (.int .i64 0)) fun l=>cond2 l
 (
 oa (fldA 1 b) fun m=>oa (ld1 h m) fun n=>oa (idxS 1 c d) fun o=>oa (ld1 h o) fun p=>oa (binV .sub .scalar p (.int .i64 1)) fun q=>oa (idxS 4 n q) fun r=>oa (ldN 4 h r) fun s=>ob (newVar h [.int .i64 0,.int .i64 0,.int .i64 0,.int .i64 0]) fun t u=>oh (stN 4 u t s) fun v=>oa (fldA 0 t) fun w=>oa (ld1 v w) fun x=>oa (fldA 1 t) fun y=>oa (ld1 v y) fun z=>oa (fldA 2 t) fun aa=>oa (ld1 v aa) fun ab=>oa (fldA 3 t) fun ac=>oa (ld1 v ac) fun ad=>oa (idxS 1 c d) fun ae=>oa (ld1 v ae) fun af=>oa (binV .sub .scalar af (.int .i64 1)) fun ag=>oa (buildV [.int .i64 0,.int .i64 0,.int .i64 0,.int .i64 0,.int .i64 0,.int .i64 0,.int .i64 0] [(0,1,x),(1,1,z),(2,1,ab),(3,1,ad),(4,1,ag)]) fun ai=>ob (evalFn tab k k2_ [a,ai] v) fun al am=>oa (binV .add .scalar d (.int .i64 1)) fun an=>h4_ k j0 a b c an am
 )
 (
 oa (binV .add .scalar d (.int .i64 1)) fun ao=>h4_ k j0 a b c ao h
 )
 )
 (
 some (.tup [],h)
 ):=bkEq
theorem a5D:x0_ k a b c h =
 h4_ k k a b c (.int .i64 0) h:=bkEq
theorem a1c:e9_ k (j0+1) a b c d h =
 oa (fldA 1 b) fun e=>oa (ld1 h e) fun f=>oa (lenS f) fun g=>oa (binV .lss .scalar d g) fun i=>cond2 i
 (
 oa (fldA 1 b) fun l=>oa (ld1 h l) fun m=>oa (idxS 4 m d) fun n=>oa (ldN 4 h n) fun o=>ob (newVar h [.int .i64 0,.int .i64 0,.int .i64 0,.int .i64 0]) fun p q=>oh (stN 4 q p o) fun r=>oa (fldA 0 p) fun s=>oa (ld1 r s) fun t=>oa (fldA 1 p) fun u=>oa (ld1 r u) fun v=>oa (fldA 2 p) fun w=>oa (ld1 r w) fun x=>ob (evalFn tab k f2_ [a,t,v,x] r) fun y z=>oa (idxS 1 c y) fun aa=>oa (ld1 z aa) fun ab=>oa (binV .eql .scalar ab (.int .i64 0)) fun ac=>ob (gd ac false (pure1 z (fldA 1 b)) z) fun ad ae=>ob (gd ac false (pure1 ae (ld1 ae ad)) ae) fun af ag=>ob (gd ac false (some (c,ag)) ag) fun ai al=>ob (gd ac false (some (y,al)) al) fun am an=>ob (gd ac false (pure1 an (idxS 1 ai am)) an) fun ao ap=>ob (gd ac false (pure1 ap (ld1 ap ao)) ap) fun aq ar=>ob (gd ac false (pure1 ar (binV .sub .scalar aq (.int .i64 1))) ar) fun au av=>ob (gd ac false (pure1 av (idxS 4 af au)) av) fun aw ax=>ob (gd ac false (pure1 ax (fldA 3 aw)) ax) fun ay az=>ob (gd ac false (pure1 az (ld1 az ay)) az) fun a0 a1=>ob (gd ac false (pure1 a1 (fldA 3 p)) a1) fun a2 a3=>ob (gd ac false (pure1 a3 (ld1 a3 a2)) a3) fun a4 a5=>ob (gd ac false (pure1 a5 (binV .gtr .scalar a0 a4)) a5) fun a6 a7=>oa (pickV ac (.bool true) a6) fun a8=>cond2 a8
 (
 oa (binV .add .scalar d (.int .i64 1)) fun a9=>oa (idxS 1 c y) fun ba=>oh (stN 1 a7 ba a9) fun bb=>oa (binV .add .scalar d (.int .i64 1)) fun bc=>e9_ k j0 a b c bc bb
 )
 (
 oa (binV .add .scalar d (.int .i64 1)) fun bd=>e9_ k j0 a b c bd a7
 )
 )
 (
 x0_ k a b c h
 ):=bkEq
theorem a6J:evalFn tab (k+1) f3_ [a] h =
 oa (nilCk a) fun b=>oa (fldA 0 b) fun c=>oa (fldA 0 c) fun d=>oa (ldN 2 h d) fun e=>ob (newVar h [.int .i64 0,.nils]) fun f g=>oh (stN 2 g f e) fun i=>oa (fldA 0 f) fun l=>oa (ld1 i l) fun m=>oa (fldA 0 f) fun n=>oa (ld1 i n) fun o=>oa (binV .mul .scalar m o) fun p=>oa (binV .mul .scalar p (.int .i64 5)) fun q=>ob (mkSl [.int .i64 0] 1 8 q q i) fun r s=>e9_ k k a f r (.int .i64 0) s:=fnEq
def v4_:=bk tab tbl j4_ 0 [j0] [a,b,c,d,e] h k
def i4_:=bk tab tbl j4_ 1 [j0,j1] [a,b,c,d,e,f] h k
def a1k:=bk tab tbl j4_ 2 [j0] [a,b,c,d,e] h k
theorem a7J:a1k k j0 a b c d e h =
 oa (binV .add .scalar e (.int .i64 1)) fun f=>v4_ k j0 a b c d f h:=bkEq
theorem a2S:i4_ k j0 (j1+1) a b c d e f h =
 oa (fldA 0 a) fun g=>oa (ld1 h g) fun i=>oa (binV .lss .scalar f i) fun l=>cond2 l
 (
 oa (idxS 1 c f) fun m=>oa (ld1 h m) fun n=>oa (unV .not n) fun o=>ob (gd o true (some (b,h)) h) fun p q=>ob (gd o true (some (f,q)) q) fun r s=>ob (gd o true (evalFn tab k w1_ [p,r] s) s) fun t u=>ob (gd o true (pure1 u (lenS t)) u) fun v w=>ob (gd o true (some (b,w)) w) fun x y=>ob (gd o true (some (f,y)) y) fun z aa=>ob (gd o true (evalFn tab k y6_ [x,z] aa) aa) fun ab ac=>ob (gd o true (pure1 ac (lenS ab)) ac) fun ad ae=>ob (gd o true (pure1 ae (binV .add .scalar v ad)) ae) fun af ag=>ob (gd o true (some (e,ag)) ag) fun ai al=>ob (gd o true (pure1 al (binV .eql .scalar af ai)) al) fun am an=>oa (pickV o am (.bool false)) fun ao=>cond2 ao
 (
 ob (buildSl 1 1 [.int .i64 0] [(0,1,f)] an) fun ap aq=>ob (apnd 1 8 d ap aq) fun ar au=>oa (binV .add .scalar f (.int .i64 1)) fun av=>i4_ k j0 j1 a b c ar e av au
 )
 (
 oa (binV .add .scalar f (.int .i64 1)) fun aw=>i4_ k j0 j1 a b c d e aw an
 )
 )
 (
 a1k k j0 a b c d e h
 ):=bkEq
theorem a2T:v4_ k (j0+1) a b c d e h =
 oa (fldA 1 a) fun f=>oa (ld1 h f) fun g=>oa (lenS g) fun i=>oa (binV .mul .scalar (.int .i64 2) i) fun l=>oa (binV .leq .scalar e l) fun m=>cond2 m
 (
 i4_ k j0 k a b c d e (.int .i64 0) h
 )
 (
 some (d,h)
 ):=bkEq
theorem a9z:evalFn tab (k+1) j4_ [a] h =
 ob (newVar h (AV.cells a)) fun b c=>oa (ldN 2 c b) fun d=>oa (ldN 2 c b) fun e=>ob (evalFn tab k a0R [d] c) fun f g=>chk ((sameB (pure1 g (ldN 2 g b)) e && true)) <|ob (evalFn tab k g4_ [e] g) fun i l=>v4_ k k b f i .nils (.int .i64 0) l:=fnEq
def q3_:=bk tab tbl e6_ 0 [j0] [a,b,c,d] h k
def f8_:=bk tab tbl e6_ 1 [j0,j1] [a,b,c,d,e] h k
def a0l:=bk tab tbl e6_ 2 [j0] [a,b,c,d] h k
theorem a6i:a0l k j0 a b c d h =
 oa (binV .add .scalar d (.int .i64 1)) fun e=>q3_ k j0 a b c e h:=bkEq
theorem a1S:f8_ k j0 (j1+1) a b c d e h =
 oa (binV .lss .scalar e (.int .i64 5)) fun f=>cond2 f
 (
 oa (nilCk a) fun g=>oa (fldA 6 g) fun i=>oa (ld1 h i) fun l=>ob (evalFn tab k f2_ [a,b,d,e] h) fun m n=>chk ((sameB (pure1 n (ld1 n i)) l && true)) <|oa (idxS 1 l m) fun o=>oa (ld1 n o) fun p=>oa (binV .gtr .scalar p (.int .i64 0)) fun q=>ob (gd q true (some (a,n)) n) fun r s=>ob (gd q true (pure1 s (nilCk r)) s) fun t u=>ob (gd q true (pure1 u (fldA 7 t)) u) fun v w=>ob (gd q true (pure1 w (ld1 w v)) w) fun x y=>ob (gd q true (some (d,y)) y) fun z aa=>ob (gd q true (pure1 aa (idxS 1 x z)) aa) fun ab ac=>ob (gd q true (pure1 ac (ld1 ac ab)) ac) fun ad ae=>ob (gd q true (pure1 ae (unV .not ad)) ae) fun af ag=>oa (pickV q af (.bool false)) fun ai=>cond2 ai
 (
 oa (binV .sub .scalar p (.int .i64 1)) fun al=>ob (buildSl 1 1 [.int .i64 0] [(0,1,al)] ag) fun am an=>ob (apnd 1 8 c am an) fun ao ap=>oa (binV .add .scalar e (.int .i64 1)) fun aq=>f8_ k j0 j1 a b ao d aq ap
 )
 (
 oa (binV .add .scalar e (.int .i64 1)) fun ar=>f8_ k j0 j1 a b c d ar ag
 )
 )
 (
 a0l k j0 a b c d h
 ):=bkEq
theorem a1T:q3_ k (j0+1) a b c d h =
 oa (nilCk a) fun e=>oa (fldA 0 e) fun f=>oa (fldA 0 f) fun g=>oa (fldA 0 g) fun i=>oa (ld1 h i) fun l=>oa (binV .lss .scalar d l) fun m=>cond2 m
 (
 f8_ k j0 k a b c d (.int .i64 0) h
 )
 (
 some (c,h)
 ):=bkEq
theorem a7K:evalFn tab (k+1) e6_ [a,b] h =
 q3_ k k a b .nils (.int .i64 0) h:=fnEq
def s6_:=bk tab tbl h8_ 0 [j0] [a,b,c,d] h k
def e5_:=bk tab tbl h8_ 1 [j0,j1] [a,b,c,d,e] h k
def s7_:=bk tab tbl h8_ 2 [j0] [a,b,c,d] h k
theorem a6K:s7_ k j0 a b c d h =
 oa (binV .add .scalar d (.int .i64 1)) fun e=>s6_ k j0 a b c e h:=bkEq
theorem x1_:e5_ k j0 (j1+1) a b c d e h =
 oa (binV .lss .scalar e (.int .i64 5)) fun f=>ob (gd f true (some (d,h)) h) fun g i=>ob (gd f true (some (b,i)) i) fun l m=>ob (gd f true (pure1 m (binV .neq .scalar g l)) m) fun n o=>oa (pickV f n (.bool false)) fun p=>cond2 p
 (
 oa (nilCk a) fun q=>oa (fldA 6 q) fun r=>oa (ld1 o r) fun s=>ob (evalFn tab k f2_ [a,d,b,e] o) fun t u=>chk ((sameB (pure1 u (ld1 u r)) s && true)) <|oa (idxS 1 s t) fun v=>oa (ld1 u v) fun w=>oa (binV .gtr .scalar w (.int .i64 0)) fun x=>ob (gd x true (some (a,u)) u) fun y z=>ob (gd x true (pure1 z (nilCk y)) z) fun aa ab=>ob (gd x true (pure1 ab (fldA 7 aa)) ab) fun ac ad=>ob (gd x true (pure1 ad (ld1 ad ac)) ad) fun ae af=>ob (gd x true (some (d,af)) af) fun ag ai=>ob (gd x true (pure1 ai (idxS 1 ae ag)) ai) fun al am=>ob (gd x true (pure1 am (ld1 am al)) am) fun an ao=>ob (gd x true (pure1 ao (unV .not an)) ao) fun ap aq=>oa (pickV x ap (.bool false)) fun ar=>cond2 ar
 (
 oa (binV .sub .scalar w (.int .i64 1)) fun au=>ob (buildSl 1 1 [.int .i64 0] [(0,1,au)] aq) fun av aw=>ob (apnd 1 8 c av aw) fun ax ay=>oa (binV .add .scalar e (.int .i64 1)) fun az=>e5_ k j0 j1 a b ax d az ay
 )
 (
 oa (binV .add .scalar e (.int .i64 1)) fun a0=>e5_ k j0 j1 a b c d a0 aq
 )
 )
 (
 s7_ k j0 a b c d o
 ):=bkEq
theorem a2q:s6_ k (j0+1) a b c d h =
 oa (nilCk a) fun e=>oa (fldA 0 e) fun f=>oa (fldA 0 f) fun g=>oa (fldA 0 g) fun i=>oa (ld1 h i) fun l=>oa (binV .lss .scalar d l) fun m=>cond2 m
 (
 e5_ k j0 k a b c d (.int .i64 0) h
 )
 (
 some (c,h)
 ):=bkEq
theorem a8m:evalFn tab (k+1) h8_ [a,b] h =
 s6_ k k a b .nils (.int .i64 0) h:=fnEq
theorem a6L:evalFn tab (k+1) z0_ [a,b,c] h =
 oa (nilCk a) fun d=>oa (fldA 0 d) fun e=>oa (fldA 3 e) fun f=>oa (ld1 h f) fun g=>oa (idxS 7 g b) fun i=>oa (ldN 7 h i) fun l=>oa (nilCk a) fun m=>oa (fldA 0 m) fun n=>oa (fldA 3 n) fun o=>oa (ld1 h o) fun p=>oa (idxS 7 p c) fun q=>oa (ldN 7 h q) fun r=>ob (newVar h [.int .i64 0,.int .i64 0,.int .i64 0,.int .i64 0,.int .i64 0,.int .i64 0,.int .i64 0]) fun s t=>ob (newVar t [.int .i64 0,.int .i64 0,.int .i64 0,.int .i64 0,.int .i64 0,.int .i64 0,.int .i64 0]) fun u v=>oh (stN 7 v s l) fun w=>chk ((sameB (pure1 w (ld1 w o)) p && (sameB (pure1 w (ldN 7 w q)) r && true))) <|oh (stN 7 w u r) fun x=>oa (fldA 2 s) fun y=>oa (ld1 x y) fun z=>oa (fldA 2 u) fun aa=>oa (ld1 x aa) fun ab=>oa (binV .neq .scalar z ab) fun ac=>ob (gd ac false (pure1 x (fldA 1 u)) x) fun ad ae=>ob (gd ac false (pure1 ae (ld1 ae ad)) ae) fun af ag=>ob (gd ac false (pure1 ag (fldA 1 s)) ag) fun ai al=>ob (gd ac false (pure1 al (ld1 al ai)) al) fun am an=>ob (gd ac false (pure1 an (binV .eql .scalar af am)) an) fun ao ap=>oa (pickV ac (.bool true) ao) fun aq=>cond2 aq
 (
 some (.tup [],ap)
 )
 (
 oa (nilCk a) fun ar=>oa (fldA 6 ar) fun au=>oa (ld1 ap au) fun av=>oa (fldA 0 s) fun aw=>oa (ld1 ap aw) fun ax=>oa (fldA 1 u) fun ay=>oa (ld1 ap ay) fun az=>oa (fldA 2 s) fun a0=>oa (ld1 ap a0) fun a2=>ob (evalFn tab k f2_ [a,ax,az,a2] ap) fun a3 a4=>chk ((sameB (pure1 a4 (ld1 a4 au)) av && true)) <|oa (idxS 1 av a3) fun a5=>oa (ld1 a4 a5) fun a6=>oa (binV .eql .scalar a6 (.int .i64 0)) fun a7=>ob (gd a7 false (some (a,a4)) a4) fun a8 a9=>ob (gd a7 false (pure1 a9 (nilCk a8)) a9) fun ba bb=>ob (gd a7 false (pure1 bb (fldA 0 ba)) bb) fun bc bd=>ob (gd a7 false (pure1 bd (fldA 3 bc)) bd) fun be bf=>ob (gd a7 false (pure1 bf (ld1 bf be)) bf) fun bg bi=>ob (gd a7 false (some (a6,bi)) bi) fun bl bm=>ob (gd a7 false (pure1 bm (binV .sub .scalar bl (.int .i64 1))) bm) fun bn bo=>ob (gd a7 false (pure1 bo (idxS 7 bg bn)) bo) fun bp bq=>ob (gd a7 false (pure1 bq (fldA 3 bp)) bq) fun br bs=>ob (gd a7 false (pure1 bs (ld1 bs br)) bs) fun bt bu=>ob (gd a7 false (pure1 bu (fldA 3 s)) bu) fun bv bw=>ob (gd a7 false (pure1 bw (ld1 bw bv)) bw) fun bx bz=>ob (gd a7 false (pure1 bz (fldA 3 u)) bz) fun b0 b1=>ob (gd a7 false (pure1 b1 (ld1 b1 b0)) b1) fun b3 b4=>ob (gd a7 false (pure1 b4 (binV .add .scalar bx b3)) b4) fun b5 b6=>ob (gd a7 false (pure1 b6 (binV .gtr .scalar bt b5)) b6) fun b7 b8=>oa (pickV a7 (.bool true) b7) fun b9=>cond2 b9
 (
 oa (fldA 0 s) fun ca=>oa (ld1 b8 ca) fun cb=>oa (fldA 1 u) fun cc=>oa (ld1 b8 cc) fun cd=>oa (fldA 2 s) fun ce=>oa (ld1 b8 ce) fun cf=>oa (fldA 3 s) fun cg=>oa (ld1 b8 cg) fun ci=>oa (fldA 3 u) fun cl=>oa (ld1 b8 cl) fun cm=>oa (binV .add .scalar ci cm) fun cn=>oa (buildV [.int .i64 0,.int .i64 0,.int .i64 0,.int .i64 0,.int .i64 0,.int .i64 0,.int .i64 0] [(0,1,cb),(1,1,cd),(2,1,cf),(3,1,cn),(4,1,(.int .i64 (-1))),(5,1,b),(6,1,c)]) fun co=>ob (evalFn tab k k2_ [a,co] b8) fun cp cq=>some (.tup [],cq)
 )
 (
 some (.tup [],b8)
 )
 ):=fnEq
def a5T:=bk tab tbl a7p 0 [j0] [a,b,c,d] h k
theorem b1E:a5T k (j0+1) a b c d h =
 oa (binV .lss .scalar d c) fun e=>cond2 e
 (
 oa (idxS 4 b d) fun f=>oa (ldN 4 h f) fun g=>ob (newVar h [.int .i64 0,.int .i64 0,.int .i64 0,.int .i64 0]) fun i l=>oh (stN 4 l i g) fun m=>oa (fldA 0 i) fun n=>oa (ld1 m n) fun o=>ob (evalFn tab k a4j [a,o] m) fun p q=>ob (gd p true (some (a,q)) q) fun r s=>ob (gd p true (pure1 s (fldA 1 i)) s) fun t u=>ob (gd p true (pure1 u (ld1 u t)) u) fun v w=>ob (gd p true (evalFn tab k a4j [r,v] w) w) fun x y=>oa (pickV p x (.bool false)) fun z=>cond2 z
 (
 oa (nilCk a) fun aa=>oa (fldA 2 aa) fun ab=>oa (ld1 y ab) fun ac=>oa (fldA 0 i) fun ad=>oa (ld1 y ad) fun ae=>oa (idxS 2 ac ae) fun af=>oa (fldA 1 i) fun ag=>oa (ld1 y ag) fun ai=>ob (evalFn tab k a4t [af,d,ai] y) fun al am=>oa (nilCk a) fun an=>oa (fldA 3 an) fun ao=>oa (ld1 am ao) fun ap=>oa (fldA 1 i) fun aq=>oa (ld1 am aq) fun ar=>oa (idxS 2 ap ar) fun au=>oa (fldA 0 i) fun av=>oa (ld1 am av) fun aw=>ob (evalFn tab k a4t [au,d,aw] am) fun ax ay=>oa (binV .add .scalar d (.int .i64 1)) fun az=>a5T k j0 a b c az ay
 )
 (
 oa (binV .add .scalar d (.int .i64 1)) fun a0=>a5T k j0 a b c a0 y
 )
 )
 (
 some (a,h)
 ):=bkEq
theorem b8Z:evalFn tab (k+1) a7p [a] h =
 ob (newVar h (AV.cells a)) fun b c=>oa (fldA 0 b) fun d=>oa (ld1 c d) fun e=>oa (mmV true e (.int .i64 0)) fun f=>ob (mkSl [.nils,.nils] 2 48 f f c) fun g i=>oa (fldA 0 b) fun l=>oa (ld1 i l) fun m=>oa (mmV true m (.int .i64 0)) fun n=>ob (mkSl [.nils,.nils] 2 48 n n i) fun o p=>oa (buildV [.int .i64 0,.nils,.nils,.nils] [(2,1,g),(3,1,o)]) fun q=>ob (newVar p (AV.cells q)) fun r s=>oa (fldA 0 b) fun t=>oa (ld1 s t) fun u=>oa (fldA 1 b) fun v=>oa (ld1 s v) fun w=>ob (evalFn tab k a1r [w] s) fun x y=>chk ((sameB (pure1 y (ld1 y t)) u && true)) <|oa (buildV [.int .i64 0,.nils] [(0,1,u),(1,1,x)]) fun z=>oa (nilCk r) fun aa=>oa (fldA 0 aa) fun ab=>oh (stN 2 y ab z) fun ac=>oa (fldA 1 b) fun ad=>oa (ld1 ac ad) fun ae=>oa (lenS ae) fun af=>a5T k k r ae af (.int .i64 0) ac:=fnEq
def a5U:=bk tab tbl a4U 0 [j0] [a,b,c] h k
theorem a9L:a5U k (j0+1) a b c h =
 oa (binV .lss .scalar c b) fun d=>cond2 d
 (
 oa (nilCk a) fun e=>oa (fldA 0 e) fun f=>oa (fldA 1 f) fun g=>oa (ld1 h g) fun i=>oa (idxS 1 i c) fun l=>oh (stN 1 h l (.int .i64 (-1))) fun m=>oa (binV .add .scalar c (.int .i64 1)) fun n=>a5U k j0 a b n m
 )
 (
 some (a,h)
 ):=bkEq
theorem b6h:evalFn tab (k+1) a4U [a] h =
 oa (mmV true a (.int .i64 0)) fun b=>ob (mkSl [.int .i64 0] 1 8 b b h) fun c d=>oa (buildV [.nils,.nils] [(1,1,c)]) fun e=>oa (buildV [.nils,.nils] [(0,2,e)]) fun f=>ob (newVar d (AV.cells f)) fun g i=>oa (nilCk g) fun l=>oa (fldA 0 l) fun m=>oa (fldA 1 m) fun n=>oa (ld1 i n) fun o=>oa (lenS o) fun p=>a5U k k g p (.int .i64 0) i:=fnEq
theorem b1V:evalFn tab (k+1) n9_ [a,b,c] h =
 oa (binV .lss .scalar b (.int .i64 0)) fun d=>ob (gd d false (some (b,h)) h) fun e f=>ob (gd d false (some (a,f)) f) fun g i=>ob (gd d false (pure1 i (nilCk g)) i) fun l m=>ob (gd d false (pure1 m (fldA 0 l)) m) fun n o=>ob (gd d false (pure1 o (fldA 1 n)) o) fun p q=>ob (gd d false (pure1 q (ld1 q p)) q) fun r s=>ob (gd d false (pure1 s (lenS r)) s) fun t u=>ob (gd d false (pure1 u (binV .geq .scalar e t)) u) fun v w=>oa (pickV d (.bool true) v) fun x=>cond2 x
 (
 some ((.bool false),w)
 )
 (
 ob (evalFn tab k r6_ [a] w) fun y z=>ob (callMeth tab (evalFn tab k) "milestone/queue.place" y [b] z) fun aa ab=>oa (binV .lss .scalar aa (.int .i64 0)) fun ac=>cond2 ac
 (
 oa (buildV [.int .i64 0,.int .i64 0] [(0,1,b),(1,1,c)]) fun ad=>ob (evalFn tab k a0i [y,(.ifc 198 ad)] ab) fun ae af=>some ((.bool true),af)
 )
 (
 oa (nilCk a) fun ag=>oa (fldA 0 ag) fun ai=>oa (fldA 0 ai) fun al=>oa (ld1 ab al) fun am=>oa (idxS 2 am aa) fun an=>oa (fldA 1 an) fun ao=>oa (ld1 ab ao) fun ap=>oa (binV .leq .scalar ap c) fun aq=>cond2 aq
 (
 some ((.bool false),ab)
 )
 (
 oa (nilCk a) fun ar=>oa (fldA 0 ar) fun au=>oa (fldA 0 au) fun av=>oa (ld1 ab av) fun aw=>oa (idxS 2 aw aa) fun ax=>oa (fldA 1 ax) fun ay=>oh (stN 1 ab ay c) fun az=>ob (evalFn tab k a0y [y,aa] az) fun a0 a1=>some ((.bool true),a1)
 )
 )
 ):=fnEq
theorem b4H:evalFn tab (k+1) a7U [a,b] h =
 oa (nilCk a) fun c=>oa (fldA 2 c) fun d=>oa (ld1 h d) fun e=>ob (evalFn tab k a4u [a,e,b] h) fun f g=>ob (callVal (evalFn tab k) (.fn a3L [] []) [f] g) fun i l=>some (i,l):=fnEq
def k9_:=bk tab tbl f0_ 0 [j0] [a,b,c] h k
def u5_:=bk tab tbl f0_ 1 [] [a,b] h k
theorem a5b:u5_ k a b h =
 oa (lenS b) fun c=>oa (binV .eql .scalar c (.int .i64 1)) fun d=>cond2 d
 (
 oa (idxS 5 b (.int .i64 0)) fun e=>oa (ldN 5 h e) fun f=>oh (stN 5 h a f) fun g=>oa (ldN 5 g a) fun i=>some (i,g)
 )
 (
 oa (buildV [.int .i64 0,.int .i64 0,.int .i64 0,.int .i64 0,.nils] [(0,1,(.int .i64 5)),(4,1,b)]) fun l=>oh (stN 5 h a l) fun m=>oa (ldN 5 m a) fun n=>some (n,m)
 ):=bkEq
theorem a5c:k9_ k (j0+1) a b c h =
 ob (evalFn tab k b6_ [a] h) fun d e=>oa (extr 0 d) fun f=>oa (extr 1 d) fun g=>oa (unV .not g) fun i=>ob (gd i false (some (f,e)) e) fun l m=>ob (gd i false (pure1 m (binV .neq .scalar l (.int .u8 124))) m) fun n o=>oa (pickV i (.bool true) n) fun p=>cond2 p
 (
 u5_ k b c o
 )
 (
 oa (nilCk a) fun q=>oa (fldA 1 q) fun r=>oa (ld1 o r) fun s=>oa (binV .add .scalar s (.int .i64 1)) fun t=>oa (nilCk a) fun u=>oa (fldA 1 u) fun v=>oh (stN 1 o v t) fun w=>ob (evalFn tab k f4_ [a] w) fun x y=>ob (buildSl 5 1 [.int .i64 0,.int .i64 0,.int .i64 0,.int .i64 0,.nils] [(0,5,x)] y) fun z aa=>ob (apnd 5 56 c z aa) fun ab ac=>k9_ k j0 a b ab ac
 ):=bkEq
theorem a6j:evalFn tab (k+1) f0_ [a] h =
 ob (newVar h [.int .i64 0,.int .i64 0,.int .i64 0,.int .i64 0,.nils]) fun b c=>ob (evalFn tab k f4_ [a] c) fun d e=>ob (buildSl 5 1 [.int .i64 0,.int .i64 0,.int .i64 0,.int .i64 0,.nils] [(0,5,d)] e) fun f g=>k9_ k k a b f g:=fnEq
def u6_:=bk tab tbl b9_ 0 [] [a,b,c,d,e,f] h k
def l0_:=bk tab tbl b9_ 1 [j0] [a,b,c,d,e,f,g] h k
def l1_:=bk tab tbl b9_ 2 [j0] [a,b,c,d,e,f,g,i] h k
def g7_:=bk tab tbl b9_ 3 [] [a,b,c,d,e] h k
def l2_:=bk tab tbl b9_ 4 [] [a,b] h k
theorem a5d:l1_ k j0 a b c d e f g i h =
 oa (ldN 5 h i) fun l=>ob (evalFn tab k b9_ [a,l] h) fun m n=>oa (extr 0 m) fun o=>oa (extr 1 m) fun p=>ob (buildSl 1 1 [.int .i64 0] [(0,1,o)] n) fun q r=>ob (apnd 1 8 d q r) fun s t=>ob (buildSl 1 1 [.int .i64 0] [(0,1,p)] t) fun u v=>ob (apnd 1 8 e u v) fun w x=>oa (binV .add .scalar g (.int .i64 1)) fun y=>l0_ k j0 a b c s w f y x:=bkEq
theorem a5e:l2_ k a b h =
 some (.tup [a,b],h):=bkEq
theorem a5f:g7_ k a b c d e h =
 ob (evalFn tab k l7_ [a] h) fun f g=>oa (nilCk a) fun i=>oa (fldA 5 i) fun l=>oa (ld1 g l) fun m=>oa (unV .not m) fun n=>cond2 n
 (
 oa (ldN 5 g b) fun o=>ob (evalFn tab k n2_ [a,o,c,f,d,e] g) fun p q=>l2_ k c f q
 )
 (
 l2_ k c f g
 ):=bkEq
theorem a0I:l0_ k (j0+1) a b c d e f g h =
 oa (binV .lss .scalar g f) fun i=>ob (gd i true (some (a,h)) h) fun l m=>ob (gd i true (pure1 m (nilCk l)) m) fun n o=>ob (gd i true (pure1 o (fldA 5 n)) o) fun p q=>ob (gd i true (pure1 q (ld1 q p)) q) fun r s=>ob (gd i true (pure1 s (unV .not r)) s) fun t u=>oa (pickV i t (.bool false)) fun v=>cond2 v
 (
 oa (fldA 4 b) fun w=>oa (ld1 u w) fun x=>oa (idxS 5 x (.int .i64 0)) fun y=>oa (ldN 5 u y) fun z=>ob (newVar u [.int .i64 0,.int .i64 0,.int .i64 0,.int .i64 0,.nils]) fun aa ab=>oh (stN 5 ab aa z) fun ac=>oa (fldA 0 b) fun ad=>oa (ld1 ac ad) fun ae=>oa (binV .eql .scalar ae (.int .i64 5)) fun af=>cond2 af
 (
 oa (fldA 4 b) fun ag=>oa (ld1 ac ag) fun ai=>oa (idxS 5 ai g) fun al=>oa (ldN 5 ac al) fun am=>oh (stN 5 ac aa am) fun an=>l1_ k j0 a b c d e f g aa an
 )
 (
 l1_ k j0 a b c d e f g aa ac
 )
 )
 (
 g7_ k a b c d e u
 ):=bkEq
theorem a0J:u6_ k a b c d e f h =
 l0_ k k a b c d e f (.int .i64 0) h:=bkEq
theorem a1U:evalFn tab (k+1) b9_ [a,b] h =
 ob (newVar h (AV.cells b)) fun c d=>oa (nilCk a) fun e=>oa (fldA 5 e) fun f=>oa (ld1 d f) fun g=>cond2 g
 (
 some (.tup [(.int .i64 0),(.int .i64 0)],d)
 )
 (
 oa (fldA 0 c) fun i=>oa (ld1 d i) fun l=>oa (binV .eql .scalar l (.int .i64 4)) fun m=>cond2 m
 (
 oa (ldN 5 d c) fun n=>ob (evalFn tab k d3_ [a,n] d) fun o p=>oa (extr 0 o) fun q=>oa (extr 1 o) fun r=>some (.tup [q,r],p)
 )
 (
 ob (evalFn tab k l7_ [a] d) fun s t=>oa (fldA 4 c) fun u=>oa (ld1 t u) fun v=>oa (lenS v) fun w=>oa (fldA 0 c) fun x=>oa (ld1 t x) fun y=>oa (binV .eql .scalar y (.int .i64 9)) fun z=>cond2 z
 (
 oa (fldA 3 c) fun aa=>oa (ld1 t aa) fun ab=>u6_ k a c s .nils .nils ab t
 )
 (
 u6_ k a c s .nils .nils w t
 )
 )
 ):=fnEq
theorem b0g:evalFn tab (k+1) a2v [a] h =
 ob (newVar h (AV.cells a)) fun b c=>oa (fldA 0 b) fun d=>oa (ld1 c d) fun e=>ob (mkSl [.bool false] 1 1 e e c) fun f g=>oa (fldA 1 b) fun i=>oa (ld1 g i) fun l=>oa (idxS 1 f l) fun m=>oh (stN 1 g m (.bool true)) fun n=>oa (ldN 5 n b) fun o=>ob (evalFn tab k c3_ [o,f] n) fun p q=>some (p,q):=fnEq
def r2_:=bk tab tbl u1_ 0 [j0] [a,b,c,d,e] h k
def a5s:=bk tab tbl u1_ 1 [] [a,b] h k
theorem a9b:a5s k a b h =
 oa (ldN 5 h a) fun c=>ob (evalFn tab k c3_ [c,b] h) fun d e=>some (d,e):=bkEq
theorem a4c:r2_ k (j0+1) a b c d e h =
 oa (fldA 3 c) fun f=>oa (ld1 h f) fun g=>oa (lenS g) fun i=>oa (binV .lss .scalar e i) fun l=>cond2 l
 (
 oa (fldA 3 c) fun m=>oa (ld1 h m) fun n=>oa (idxS 3 n e) fun o=>oa (ldN 3 h o) fun p=>ob (newVar h [.int .i64 0,.int .i64 0,.int .i64 0]) fun q r=>oh (stN 3 r q p) fun s=>oa (binV .geq .scalar b (.int .i64 0)) fun t=>ob (gd t true (some (b,s)) s) fun u v=>ob (gd t true (pure1 v (binV .lss .scalar u (.int .i64 5))) v) fun w x=>oa (pickV t w (.bool false)) fun y=>ob (gd y true (some (a,x)) x) fun z aa=>ob (gd y true (pure1 aa (fldA 0 q)) aa) fun ab ac=>ob (gd y true (pure1 ac (ld1 ac ab)) ac) fun ad ae=>ob (gd y true (pure1 ae (idxS 1 z ad)) ae) fun af ag=>ob (gd y true (pure1 ag (ld1 ag af)) ag) fun ai al=>oa (pickV y ai (.bool false)) fun am=>ob (gd am true (pure1 al (fldA 2 q)) al) fun an ao=>ob (gd am true (pure1 ao (ld1 ao an)) ao) fun ap aq=>ob (gd am true (some (b,aq)) aq) fun ar au=>ob (gd am true (pure1 au (convV .u64 ar)) au) fun av aw=>ob (gd am true (pure1 aw (binV .shr .scalar ap av)) aw) fun ax ay=>ob (gd am true (pure1 ay (binV .and .scalar ax (.int .i64 1))) ay) fun az a0=>ob (gd am true (pure1 a0 (binV .eql .scalar az (.int .i64 1))) a0) fun a1 a2=>oa (pickV am a1 (.bool false)) fun a3=>cond2 a3
 (
 oa (fldA 1 q) fun a4=>oa (ld1 a2 a4) fun a5=>oa (idxS 1 d a5) fun a6=>oh (stN 1 a2 a6 (.bool true)) fun a7=>oa (binV .add .scalar e (.int .i64 1)) fun a8=>r2_ k j0 a b c d a8 a7
 )
 (
 oa (binV .add .scalar e (.int .i64 1)) fun a9=>r2_ k j0 a b c d a9 a2
 )
 )
 (
 a5s k c d h
 ):=bkEq
theorem b0E:evalFn tab (k+1) u1_ [a,b,c] h =
 ob (newVar h (AV.cells a)) fun d e=>oa (fldA 0 d) fun f=>oa (ld1 e f) fun g=>ob (mkSl [.bool false] 1 1 g g e) fun i l=>r2_ k k b c d i (.int .i64 0) l:=fnEq
def a0a:=bk tab tbl a0x 0 [j0] [a,b,c] h k
theorem a4d:a0a k (j0+1) a b c h =
 oa (lenS a) fun d=>oa (binV .lss .scalar c d) fun e=>cond2 e
 (
 oa (idxS 1 a c) fun f=>oa (ld1 h f) fun g=>ob (evalFn tab k a0z [g,b] h) fun i l=>cond2 i
 (
 some (c,l)
 )
 (
 oa (binV .add .scalar c (.int .i64 1)) fun m=>a0a k j0 a b m l
 )
 )
 (
 some ((.int .i64 (-1)),h)
 ):=bkEq
theorem b0F:evalFn tab (k+1) a0x [a,b] h =
 a0a k k a b (.int .i64 0) h:=fnEq
def n5_:=bk tab tbl j5_ 0 [j0] [a,b,c] h k
def a4B:=bk tab tbl j5_ 1 [] [a,b] h k
def v5_:=bk tab tbl j5_ 2 [j0] [a,b,c] h k
theorem a7L:v5_ k (j0+1) a b c h =
 oa (ldN 2 h a) fun d=>ob (evalFn tab k e2_ [d,b] h) fun e f=>oa (extr 0 e) fun g=>oa (extr 1 e) fun i=>oa (binV .eql .scalar i c) fun l=>cond2 l
 (
 some (g,f)
 )
 (
 v5_ k j0 a g i f
 ):=bkEq
theorem a7M:a4B k a b h =
 v5_ k k a b (.int .i64 0) h:=bkEq
theorem a2U:n5_ k (j0+1) a b c h =
 oa (lenS b) fun d=>oa (binV .lss .scalar c d) fun e=>cond2 e
 (
 oa (fldA 1 a) fun f=>oa (ld1 h f) fun g=>oa (idxS 1 g c) fun i=>oa (ld1 h i) fun l=>cond2 l
 (
 oa (idxS 1 b c) fun m=>oh (stN 1 h m (.int .i64 1)) fun n=>oa (binV .add .scalar c (.int .i64 1)) fun o=>n5_ k j0 a b o n
 )
 (
 oa (binV .add .scalar c (.int .i64 1)) fun p=>n5_ k j0 a b p h
 )
 )
 (
 a4B k a b h
 ):=bkEq
theorem a9B:evalFn tab (k+1) j5_ [a] h =
 ob (newVar h (AV.cells a)) fun b c=>oa (fldA 0 b) fun d=>oa (ld1 c d) fun e=>oa (lenS e) fun f=>ob (mkSl [.int .i64 0] 1 8 f f c) fun g i=>n5_ k k b g (.int .i64 0) i:=fnEq
theorem b1W:evalFn tab (k+1) a2b [a,b] h =
 ob (evalFn tab k r6_ [a] h) fun c d=>ob (callMeth tab (evalFn tab k) "milestone/queue.place" c [b] d) fun e f=>oa (binV .lss .scalar e (.int .i64 0)) fun g=>cond2 g
 (
 some (.tup [(.int .i64 0),(.bool false)],f)
 )
 (
 oa (nilCk a) fun i=>oa (fldA 0 i) fun l=>oa (fldA 0 l) fun m=>oa (ld1 f m) fun n=>oa (idxS 2 n e) fun o=>oa (fldA 1 o) fun p=>oa (ld1 f p) fun q=>some (.tup [q,(.bool true)],f)
 ):=fnEq
theorem b1X:evalFn tab (k+1) a0o [a] h =
 oa (nilCk a) fun b=>oa (fldA 0 b) fun c=>ob (evalFn tab k z1_ [c] h) fun d e=>oa (binV .eql .scalar d (.int .i64 0)) fun f=>cond2 f
 (
 some (.tup [(.int .i64 0),(.int .i64 0),(.bool false)],e)
 )
 (
 ob (evalFn tab k r6_ [a] e) fun g i=>ob (evalFn tab k a2J [g] i) fun l m=>oa (tAssert 198 (.agg [.int .i64 0,.int .i64 0]) true l) fun n=>oa (extr 0 n) fun o=>oa (extr 1 n) fun p=>ob (newVar m [.int .i64 0,.int .i64 0]) fun q r=>oh (stN 2 r q o) fun s=>oa (fldA 0 q) fun t=>oa (ld1 s t) fun u=>oa (fldA 1 q) fun v=>oa (ld1 s v) fun w=>some (.tup [u,w,p],s)
 ):=fnEq
end
end Go.Gm.AQ
