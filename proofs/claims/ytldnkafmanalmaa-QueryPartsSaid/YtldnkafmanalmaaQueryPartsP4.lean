/- A part of the proof (GmAQe6, GmAQe7, GmAQT, GmAQP, GmAQQ, GmAQN, GmAQM). -/
import Derived.Test.YtldnkafmanalmaaQueryPartsP3
set_option linter.unusedVariables false
set_option linter.unusedSimpArgs false
set_option linter.unusedSectionVars false
namespace Go.Gm.AQ
open Go Go.Gm
noncomputable section
variable (k j0 j1 j2 j3:Nat) (a b c d e f g i l m:AV) (h:Heap)
theorem b3q:evalFn tab (k+1) a1x [a,b] h =
 ob (newVar h (AV.cells b)) fun c d=>oa (fldA 0 c) fun e=>oa (ld1 d e) fun f=>oa (nilCk a) fun g=>oa (fldA 6 g) fun i=>oa (fldA 0 i) fun l=>oa (ld1 d l) fun m=>oa (lenS m) fun n=>oa (binV .mul .scalar f n) fun o=>oa (fldA 1 c) fun p=>oa (ld1 d p) fun q=>oa (binV .add .scalar o q) fun r=>oa (binV .mul .scalar (.int .i64 2) r) fun s=>oa (fldA 2 c) fun t=>oa (ld1 d t) fun u=>cond2 u
 (
 oa (binV .add .scalar s (.int .i64 1)) fun v=>some (v,d)
 )
 (
 some (s,d)
 ):=fnEq
theorem b1Y:evalFn tab (k+1) a2c [a,b] h =
 ob (newVar h [.int .i64 0,.int .i64 0,.bool false]) fun c d=>oa (binV .quo .scalar b (.int .i64 2)) fun e=>oa (nilCk a) fun f=>oa (fldA 6 f) fun g=>oa (fldA 0 g) fun i=>oa (ld1 d i) fun l=>oa (lenS l) fun m=>oa (binV .quo .scalar e m) fun n=>oa (nilCk a) fun o=>oa (fldA 6 o) fun p=>oa (fldA 0 p) fun q=>oa (ld1 d q) fun r=>oa (lenS r) fun s=>oa (binV .rem .scalar e s) fun t=>oa (binV .rem .scalar b (.int .i64 2)) fun u=>oa (binV .eql .scalar u (.int .i64 1)) fun v=>oa (buildV [.int .i64 0,.int .i64 0,.bool false] [(0,1,n),(1,1,t),(2,1,v)]) fun w=>oh (stN 3 d c w) fun x=>oa (ldN 3 x c) fun y=>some (y,x):=fnEq
def y8_:=bk tab tbl a0p 0 [j0] [a,b,c,d,e,f,g] h k
theorem a5u:y8_ k (j0+1) a b c d e f g h =
 oa (binV .lss .scalar g f) fun i=>cond2 i
 (
 oa (idxS 1 e g) fun l=>oa (ld1 h l) fun m=>oa (nilCk a) fun n=>oa (fldA 0 n) fun o=>oa (ld1 h o) fun p=>oa (nilCk p) fun q=>oa (fldA 0 q) fun r=>oa (fldA 3 r) fun s=>oa (ld1 h s) fun t=>oa (idxS 7 t m) fun u=>oa (ldN 7 h u) fun v=>ob (newVar h [.int .i64 0,.int .i64 0,.int .i64 0,.int .i64 0,.int .i64 0,.int .i64 0,.int .i64 0]) fun w x=>oh (stN 7 x w v) fun y=>oa (nilCk a) fun z=>oa (fldA 0 z) fun aa=>oa (ld1 y aa) fun ab=>oa (fldA 1 w) fun ac=>oa (ld1 y ac) fun ad=>oa (nilCk a) fun ae=>oa (fldA 0 ae) fun af=>oa (ld1 y af) fun ag=>oa (nilCk ag) fun ai=>oa (fldA 6 ai) fun al=>oa (fldA 0 al) fun am=>oa (ld1 y am) fun an=>oa (fldA 1 d) fun ao=>oa (ld1 y ao) fun ap=>oa (fldA 2 w) fun aq=>oa (ld1 y aq) fun ar=>oa (idxS 5 an ap) fun au=>oa (idxA 5 1 au ar) fun av=>oa (ld1 y av) fun aw=>oa (buildV [.int .i64 0,.int .i64 0,.bool false] [(0,1,ad),(1,1,aw),(2,1,c)]) fun ax=>ob (evalFn tab k a1x [ab,ax] y) fun ay az=>oa (nilCk a) fun a0=>oa (fldA 2 a0) fun a1=>oa (ld1 az a1) fun a2=>oa (idxS 1 a2 ay) fun a3=>oa (ld1 az a3) fun a4=>oa (binV .lss .scalar a4 (.int .i64 0)) fun a5=>ob (gd a5 true (some (a,az)) az) fun a6 a7=>ob (gd a5 true (pure1 a7 (nilCk a6)) a7) fun a8 a9=>ob (gd a5 true (pure1 a9 (fldA 1 a8)) a9) fun ba bb=>ob (gd a5 true (pure1 bb (ld1 bb ba)) bb) fun bc bd=>ob (gd a5 true (some (ay,bd)) bd) fun be bf=>ob (gd a5 true (some (a,bf)) bf) fun bg bi=>ob (gd a5 true (pure1 bi (nilCk bg)) bi) fun bl bm=>ob (gd a5 true (pure1 bm (fldA 2 bl)) bm) fun bn bo=>ob (gd a5 true (pure1 bo (ld1 bo bn)) bo) fun bp bq=>ob (gd a5 true (some (b,bq)) bq) fun br bs=>ob (gd a5 true (pure1 bs (idxS 1 bp br)) bs) fun bt bu=>ob (gd a5 true (pure1 bu (ld1 bu bt)) bu) fun bv bw=>ob (gd a5 true (pure1 bw (fldA 3 w)) bw) fun bx bz=>ob (gd a5 true (pure1 bz (ld1 bz bx)) bz) fun b0 b1=>ob (gd a5 true (pure1 b1 (binV .add .scalar bv b0)) b1) fun b2 b3=>ob (gd a5 true (evalFn tab k n9_ [bc,be,b2] b3) b3) fun b4 b5=>oa (pickV a5 b4 (.bool false)) fun b6=>cond2 b6
 (
 oa (nilCk a) fun b7=>oa (fldA 3 b7) fun b8=>oa (ld1 b5 b8) fun b9=>oa (nilCk a) fun ca=>oa (fldA 4 ca) fun cb=>oa (ld1 b5 cb) fun cc=>oa (idxS 1 b9 ay) fun cd=>oh (stN 1 b5 cd m) fun ce=>oa (idxS 1 cc ay) fun cf=>oh (stN 1 ce cf b) fun cg=>oa (binV .add .scalar g (.int .i64 1)) fun ci=>y8_ k j0 a b c d e f ci cg
 )
 (
 oa (binV .add .scalar g (.int .i64 1)) fun cl=>y8_ k j0 a b c d e f cl b5
 )
 )
 (
 some (.tup [],h)
 ):=bkEq
theorem b1Z:evalFn tab (k+1) a0p [a,b,c,d] h =
 oa (nilCk a) fun e=>oa (fldA 0 e) fun f=>oa (ld1 h f) fun g=>ob (evalFn tab k a2c [g,b] h) fun i l=>ob (newVar l [.int .i64 0,.int .i64 0,.bool false]) fun m n=>oh (stN 3 n m i) fun o=>oa (lenS d) fun p=>y8_ k k a b c m d p (.int .i64 0) o:=fnEq
theorem b0h:evalFn tab (k+1) a0h [a,b,c] h =
 ob (newVar h (AV.cells a)) fun d e=>oa (ld1 e b) fun f=>oa (nilCk f) fun g=>oa (fldA 0 g) fun i=>oa (ld1 e i) fun l=>oa (ldN 3 e d) fun m=>ob (evalFn tab k a1x [l,m] e) fun n o=>oa (ld1 o b) fun p=>oa (nilCk p) fun q=>oa (fldA 2 q) fun r=>oa (ld1 o r) fun s=>oa (idxS 1 s n) fun t=>oa (ld1 o t) fun u=>oa (binV .geq .scalar u (.int .i64 0)) fun v=>ob (gd v true (pure1 o (ld1 o c)) o) fun w x=>ob (gd v true (pure1 x (binV .lss .scalar w (.int .i64 0))) x) fun y z=>ob (gd v true (some (y,z)) z) fun aa ab=>ob (gd aa false (pure1 ab (ld1 ab b)) ab) fun ac ad=>ob (gd aa false (pure1 ad (nilCk ac)) ad) fun ae af=>ob (gd aa false (pure1 af (fldA 2 ae)) af) fun ag ai=>ob (gd aa false (pure1 ai (ld1 ai ag)) ai) fun al am=>ob (gd aa false (some (n,am)) am) fun an ao=>ob (gd aa false (pure1 ao (idxS 1 al an)) ao) fun ap aq=>ob (gd aa false (pure1 aq (ld1 aq ap)) aq) fun ar au=>ob (gd aa false (pure1 au (ld1 au b)) au) fun av aw=>ob (gd aa false (pure1 aw (nilCk av)) aw) fun ax ay=>ob (gd aa false (pure1 ay (fldA 2 ax)) ay) fun az a0=>ob (gd aa false (pure1 a0 (ld1 a0 az)) a0) fun a1 a2=>ob (gd aa false (pure1 a2 (ld1 a2 c)) a2) fun a3 a4=>ob (gd aa false (pure1 a4 (idxS 1 a1 a3)) a4) fun a5 a6=>ob (gd aa false (pure1 a6 (ld1 a6 a5)) a6) fun a7 a8=>ob (gd aa false (pure1 a8 (binV .lss .scalar ar a7)) a8) fun a9 ba=>ob (gd v true (pure1 ba (pickV aa (.bool true) a9)) ba) fun bb bc=>oa (pickV v bb (.bool false)) fun bd=>cond2 bd
 (
 oh (stN 1 bc c n) fun be=>some (.tup [],be)
 )
 (
 some (.tup [],bc)
 ):=fnEq
theorem a8o:evalFn tab (k+1) f2_ [a,b,c,d] h =
 oa (nilCk a) fun e=>oa (fldA 0 e) fun f=>oa (fldA 0 f) fun g=>oa (fldA 0 g) fun i=>oa (ld1 h i) fun l=>oa (binV .mul .scalar b l) fun m=>oa (binV .add .scalar m c) fun n=>oa (binV .mul .scalar n (.int .i64 5)) fun o=>oa (binV .add .scalar o d) fun p=>some (p,h):=fnEq
theorem a7N:evalFn tab (k+1) k2_ [a,b] h =
 ob (newVar h (AV.cells b)) fun c d=>oa (nilCk a) fun e=>oa (fldA 0 e) fun f=>oa (fldA 3 f) fun g=>oa (ld1 d g) fun i=>oa (ldN 7 d c) fun l=>ob (buildSl 7 1 [.int .i64 0,.int .i64 0,.int .i64 0,.int .i64 0,.int .i64 0,.int .i64 0,.int .i64 0] [(0,7,l)] d) fun m n=>ob (apnd 7 56 i m n) fun o p=>oa (nilCk a) fun q=>oa (fldA 0 q) fun r=>oa (fldA 3 r) fun s=>oh (stN 1 p s o) fun t=>oa (nilCk a) fun u=>oa (fldA 6 u) fun v=>oa (ld1 t v) fun w=>oa (fldA 0 c) fun x=>oa (ld1 t x) fun y=>oa (fldA 1 c) fun z=>oa (ld1 t z) fun aa=>oa (fldA 2 c) fun ab=>oa (ld1 t ab) fun ac=>oa (nilCk a) fun ad=>oa (fldA 0 ad) fun ae=>oa (fldA 3 ae) fun af=>oa (ld1 t af) fun ag=>oa (lenS ag) fun ai=>ob (evalFn tab k f2_ [a,y,aa,ac] t) fun al am=>chk ((sameB (pure1 am (ld1 am v)) w && (sameB (pure1 am (ld1 am af)) ag && true))) <|oa (idxS 1 w al) fun an=>oh (stN 1 am an ai) fun ao=>some (.tup [],ao):=fnEq
theorem b1k:evalFn tab (k+1) a0R [a] h =
 ob (newVar h (AV.cells a)) fun b c=>oa (ldN 2 c b) fun d=>oa (buildV [.int .i64 0,.nils] [(0,2,d)]) fun e=>ob (newVar c (AV.cells e)) fun f g=>some (f,g):=fnEq
def v6_:=bk tab tbl g4_ 0 [j0] [a,b,c,d] h k
def v7_:=bk tab tbl g4_ 1 [j0,j1] [a,b,c,d,e,f] h k
def a1n:=bk tab tbl g4_ 2 [j0] [a,b,c,d,e] h k
def a4D:=bk tab tbl g4_ 3 [j0] [a,b,c,d] h k
theorem a7O:a4D k j0 a b c d h =
 oa (binV .add .scalar d (.int .i64 1)) fun e=>v6_ k j0 a b c e h:=bkEq
theorem a7P:a1n k j0 a b c d e h =
 oa (binV .geq .scalar e (.int .i64 2)) fun f=>ob (buildSl 1 1 [.bool false] [(0,1,f)] h) fun g i=>ob (apnd 1 1 c g i) fun l m=>a4D k j0 a b l d m:=bkEq
theorem a2V:v7_ k j0 (j1+1) a b c d e f h =
 oa (binV .lss .scalar f (.int .u64 5)) fun g=>cond2 g
 (
 ob (evalFn tab k s8_ [b,d] h) fun i l=>oa (binV .shr .scalar i f) fun m=>oa (binV .and .scalar m (.int .i64 1)) fun n=>oa (binV .add .scalar e n) fun o=>oa (binV .add .scalar f (.int .u64 1)) fun p=>v7_ k j0 j1 a b c d o p l
 )
 (
 a1n k j0 a b c d e h
 ):=bkEq
theorem a2W:v6_ k (j0+1) a b c d h =
 oa (fldA 0 a) fun e=>oa (ld1 h e) fun f=>oa (binV .lss .scalar d f) fun g=>cond2 g
 (
 v7_ k j0 k a b c d (.int .i64 0) (.int .u64 0) h
 )
 (
 some (c,h)
 ):=bkEq
theorem a9C:evalFn tab (k+1) g4_ [a] h =
 ob (newVar h (AV.cells a)) fun b c=>oa (ldN 2 c b) fun d=>ob (evalFn tab k a0R [d] c) fun e f=>v6_ k k b e .nils (.int .i64 0) f:=fnEq
def l9_:=bk tab tbl w1_ 0 [j0] [a,b,c,d] h k
theorem a2z:l9_ k (j0+1) a b c d h =
 oa (nilCk a) fun e=>oa (fldA 0 e) fun f=>oa (fldA 1 f) fun g=>oa (ld1 h g) fun i=>oa (lenS i) fun l=>oa (binV .lss .scalar d l) fun m=>cond2 m
 (
 oa (nilCk a) fun n=>oa (fldA 0 n) fun o=>oa (fldA 1 o) fun p=>oa (ld1 h p) fun q=>oa (idxS 4 q d) fun r=>oa (fldA 0 r) fun s=>oa (ld1 h s) fun t=>oa (binV .eql .scalar t b) fun u=>cond2 u
 (
 ob (buildSl 1 1 [.int .i64 0] [(0,1,d)] h) fun v w=>ob (apnd 1 8 c v w) fun x y=>oa (binV .add .scalar d (.int .i64 1)) fun z=>l9_ k j0 a b x z y
 )
 (
 oa (binV .add .scalar d (.int .i64 1)) fun aa=>l9_ k j0 a b c aa h
 )
 )
 (
 some (c,h)
 ):=bkEq
theorem a9c:evalFn tab (k+1) w1_ [a,b] h =
 l9_ k k a b .nils (.int .i64 0) h:=fnEq
def n6_:=bk tab tbl y6_ 0 [j0] [a,b,c,d] h k
theorem a2X:n6_ k (j0+1) a b c d h =
 oa (nilCk a) fun e=>oa (fldA 0 e) fun f=>oa (fldA 1 f) fun g=>oa (ld1 h g) fun i=>oa (lenS i) fun l=>oa (binV .lss .scalar d l) fun m=>cond2 m
 (
 oa (nilCk a) fun n=>oa (fldA 0 n) fun o=>oa (fldA 1 o) fun p=>oa (ld1 h p) fun q=>oa (idxS 4 q d) fun r=>oa (fldA 1 r) fun s=>oa (ld1 h s) fun t=>oa (binV .eql .scalar t b) fun u=>cond2 u
 (
 ob (buildSl 1 1 [.int .i64 0] [(0,1,d)] h) fun v w=>ob (apnd 1 8 c v w) fun x y=>oa (binV .add .scalar d (.int .i64 1)) fun z=>n6_ k j0 a b x z y
 )
 (
 oa (binV .add .scalar d (.int .i64 1)) fun aa=>n6_ k j0 a b c aa h
 )
 )
 (
 some (c,h)
 ):=bkEq
theorem a9D:evalFn tab (k+1) y6_ [a,b] h =
 n6_ k k a b .nils (.int .i64 0) h:=fnEq
theorem a9d:evalFn tab (k+1) a1r [a] h =
 oa (binV .eql .slice a .nils) fun b=>cond2 b
 (
 some (.nils,h)
 )
 (
 ob (buildSl 4 0 [] [] h) fun c d=>ob (apnd 4 32 c a d) fun e f=>some (e,f)
 ):=fnEq
theorem b5I:evalFn tab (k+1) a4j [a,b] h =
 oa (binV .geq .scalar b (.int .i64 0)) fun c=>ob (gd c true (some (b,h)) h) fun d e=>ob (gd c true (some (a,e)) e) fun f g=>ob (gd c true (pure1 g (nilCk f)) g) fun i l=>ob (gd c true (pure1 l (fldA 2 i)) l) fun m n=>ob (gd c true (pure1 n (ld1 n m)) n) fun o p=>ob (gd c true (pure1 p (lenS o)) p) fun q r=>ob (gd c true (pure1 r (binV .lss .scalar d q)) r) fun s t=>oa (pickV c s (.bool false)) fun u=>some (u,t):=fnEq
theorem b4a:evalFn tab (k+1) a4t [a,b,c] h =
 oa (nilCk a) fun d=>oa (fldA 0 d) fun e=>oa (ld1 h e) fun f=>ob (buildSl 1 1 [.int .i64 0] [(0,1,b)] h) fun g i=>oa (nilCk a) fun l=>oa (fldA 1 l) fun m=>oa (ld1 i m) fun n=>ob (buildSl 1 1 [.int .i64 0] [(0,1,c)] i) fun o p=>ob (apnd 1 8 f g p) fun q r=>chk ((sameB (pure1 r (ld1 r m)) n && true)) <|ob (apnd 1 8 n o r) fun s t=>oa (nilCk a) fun u=>oa (fldA 0 u) fun v=>oh (stN 1 t v q) fun w=>oa (nilCk a) fun x=>oa (fldA 1 x) fun y=>oh (stN 1 w y s) fun z=>some (.tup [],z):=fnEq
theorem b1K:evalFn tab (k+1) r6_ [a] h =
 oa (nilCk a) fun b=>oa (fldA 0 b) fun c=>some ((.ifc 218 c),h):=fnEq
theorem b0i:evalFn tab (k+1) a0i [a,b] h =
 ob (callMeth tab (evalFn tab k) "Push" a [b] h) fun c d=>ob (callMeth tab (evalFn tab k) "Len" a [] d) fun e f=>oa (binV .sub .scalar e (.int .i64 1)) fun g=>ob (evalFn tab k w6_ [a,g] f) fun i l=>some (.tup [],l):=fnEq
theorem b0G:evalFn tab (k+1) a0y [a,b] h =
 ob (callMeth tab (evalFn tab k) "Len" a [] h) fun c d=>ob (evalFn tab k f5_ [a,b,c] d) fun e f=>oa (unV .not e) fun g=>cond2 g
 (
 ob (evalFn tab k w6_ [a,b] f) fun i l=>some (.tup [],l)
 )
 (
 some (.tup [],f)
 ):=fnEq
theorem b3r:evalFn tab (k+1) a3L [a] h =
 ob (newVar h (AV.cells a)) fun b c=>oa (fldA 0 b) fun d=>oa (ld1 c d) fun e=>oa (lenS e) fun f=>oa (fldA 0 b) fun g=>oa (ld1 c g) fun i=>oa (slSl 1 i none (some f) (some f)) fun l=>ob (evalFn tab k r5_ [l] c) fun m n=>some (m,n):=fnEq
theorem b4b:evalFn tab (k+1) a4u [a,b,c] h =
 ob (newVar h [.nils,.nils]) fun d e=>ob (evalFn tab k a4j [a,c] e) fun f g=>oa (unV .not f) fun i=>cond2 i
 (
 oa (buildV [.nils,.nils] []) fun l=>oh (stN 2 g d l) fun m=>oa (ldN 2 m d) fun n=>some (n,m)
 )
 (
 oa (idxS 2 b c) fun o=>oa (ldN 2 g o) fun p=>oh (stN 2 g d p) fun q=>oa (ldN 2 q d) fun r=>some (r,q)
 ):=fnEq
def n1_:=bk tab tbl f4_ 0 [j0] [a,b,c] h k
def x2_:=bk tab tbl f4_ 1 [] [a,b] h k
theorem a5E:x2_ k a b h =
 oa (lenS b) fun c=>oa (binV .eql .scalar c (.int .i64 1)) fun d=>cond2 d
 (
 oa (idxS 5 b (.int .i64 0)) fun e=>oa (ldN 5 h e) fun f=>oh (stN 5 h a f) fun g=>oa (ldN 5 g a) fun i=>some (i,g)
 )
 (
 oa (buildV [.int .i64 0,.int .i64 0,.int .i64 0,.int .i64 0,.nils] [(0,1,(.int .i64 4)),(4,1,b)]) fun l=>oh (stN 5 h a l) fun m=>oa (ldN 5 m a) fun n=>some (n,m)
 ):=bkEq
theorem a5F:n1_ k (j0+1) a b c h =
 ob (evalFn tab k b6_ [a] h) fun d e=>oa (extr 0 d) fun f=>oa (extr 1 d) fun g=>oa (unV .not g) fun i=>ob (gd i false (some (f,e)) e) fun l m=>ob (gd i false (pure1 m (binV .eql .scalar l (.int .u8 124))) m) fun n o=>oa (pickV i (.bool true) n) fun p=>ob (gd p false (some (f,o)) o) fun q r=>ob (gd p false (pure1 r (binV .eql .scalar q (.int .u8 41))) r) fun s t=>oa (pickV p (.bool true) s) fun u=>cond2 u
 (
 x2_ k b c t
 )
 (
 ob (evalFn tab k f1_ [a] t) fun v w=>ob (buildSl 5 1 [.int .i64 0,.int .i64 0,.int .i64 0,.int .i64 0,.nils] [(0,5,v)] w) fun x y=>ob (apnd 5 56 c x y) fun z aa=>n1_ k j0 a b z aa
 ):=bkEq
theorem a6M:evalFn tab (k+1) f4_ [a] h =
 ob (newVar h [.int .i64 0,.int .i64 0,.int .i64 0,.int .i64 0,.nils]) fun b c=>ob (evalFn tab k f1_ [a] c) fun d e=>ob (buildSl 5 1 [.int .i64 0,.int .i64 0,.int .i64 0,.int .i64 0,.nils] [(0,5,d)] e) fun f g=>n1_ k k a b f g:=fnEq
theorem a2r:evalFn tab (k+1) b6_ [a] h =
 oa (nilCk a) fun b=>oa (fldA 1 b) fun c=>oa (ld1 h c) fun d=>oa (nilCk a) fun e=>oa (fldA 0 e) fun f=>oa (ld1 h f) fun g=>oa (lenB g) fun i=>oa (binV .geq .scalar d i) fun l=>ob (gd l false (some (a,h)) h) fun m n=>ob (gd l false (pure1 n (nilCk m)) n) fun o p=>ob (gd l false (pure1 p (fldA 3 o)) p) fun q r=>ob (gd l false (pure1 r (ld1 r q)) r) fun s t=>ob (gd l false (pure1 t (binV .neq .scalar s (.int .i64 0))) t) fun u v=>oa (pickV l (.bool true) u) fun w=>cond2 w
 (
 some (.tup [(.int .u8 0),(.bool false)],v)
 )
 (
 oa (nilCk a) fun x=>oa (fldA 0 x) fun y=>oa (ld1 v y) fun z=>oa (nilCk a) fun aa=>oa (fldA 1 aa) fun ab=>oa (ld1 v ab) fun ac=>oa (ixS z ac) fun ad=>some (.tup [ad,(.bool true)],v)
 ):=fnEq
def l3_:=bk tab tbl d3_ 0 [j0] [a,b,c,d,e] h k
def u7_:=bk tab tbl d3_ 1 [] [a,b,c] h k
def l4_:=bk tab tbl d3_ 2 [j0] [a,b,c,d] h k
def a1V:=bk tab tbl d3_ 3 [] [a,b] h k
theorem a5g:a1V k a b h =
 oa (idxS 1 a (.int .i64 0)) fun c=>oa (ld1 h c) fun d=>oa (lenS b) fun e=>oa (binV .sub .scalar e (.int .i64 1)) fun f=>oa (idxS 1 b f) fun g=>oa (ld1 h g) fun i=>some (.tup [d,i],h):=bkEq
theorem a0K:l4_ k (j0+1) a b c d h =
 oa (binV .add .scalar d (.int .i64 1)) fun e=>oa (lenS b) fun f=>oa (binV .lss .scalar e f) fun g=>cond2 g
 (
 oa (idxS 1 c d) fun i=>oa (ld1 h i) fun l=>oa (binV .add .scalar d (.int .i64 1)) fun m=>oa (idxS 1 b m) fun n=>oa (ld1 h n) fun o=>ob (evalFn tab k a2_ [a,l,o] h) fun p q=>oa (binV .add .scalar d (.int .i64 1)) fun r=>l4_ k j0 a b c r q
 )
 (
 a1V k b c h
 ):=bkEq
theorem a5h:u7_ k a b c h =
 oa (nilCk a) fun d=>oa (fldA 5 d) fun e=>oa (ld1 h e) fun f=>cond2 f
 (
 some (.tup [(.int .i64 0),(.int .i64 0)],h)
 )
 (
 l4_ k k a b c (.int .i64 0) h
 ):=bkEq
theorem a0L:l3_ k (j0+1) a b c d e h =
 oa (fldA 4 b) fun f=>oa (ld1 h f) fun g=>oa (lenS g) fun i=>oa (binV .lss .scalar e i) fun l=>ob (gd l true (some (a,h)) h) fun m n=>ob (gd l true (pure1 n (nilCk m)) n) fun o p=>ob (gd l true (pure1 p (fldA 5 o)) p) fun q r=>ob (gd l true (pure1 r (ld1 r q)) r) fun s t=>ob (gd l true (pure1 t (unV .not s)) t) fun u v=>oa (pickV l u (.bool false)) fun w=>cond2 w
 (
 oa (fldA 4 b) fun x=>oa (ld1 v x) fun y=>oa (idxS 5 y e) fun z=>oa (ldN 5 v z) fun aa=>ob (evalFn tab k b9_ [a,aa] v) fun ab ac=>oa (extr 0 ab) fun ad=>oa (extr 1 ab) fun ae=>ob (buildSl 1 1 [.int .i64 0] [(0,1,ad)] ac) fun af ag=>ob (apnd 1 8 c af ag) fun ai al=>ob (buildSl 1 1 [.int .i64 0] [(0,1,ae)] al) fun am an=>ob (apnd 1 8 d am an) fun ao ap=>oa (binV .add .scalar e (.int .i64 1)) fun aq=>l3_ k j0 a b ai ao aq ap
 )
 (
 u7_ k a c d v
 ):=bkEq
theorem a6k:evalFn tab (k+1) d3_ [a,b] h =
 ob (newVar h (AV.cells b)) fun c d=>l3_ k k a c .nils .nils (.int .i64 0) d:=fnEq
theorem a5V:evalFn tab (k+1) l7_ [a] h =
 oa (nilCk a) fun b=>oa (fldA 0 b) fun c=>oa (fldA 0 c) fun d=>oa (ld1 h d) fun e=>oa (binV .geq .scalar e (.int .i64 1000)) fun f=>cond2 f
 (
 oa (nilCk a) fun g=>oa (fldA 5 g) fun i=>oh (stN 1 h i (.bool true)) fun l=>some ((.int .i64 0),l)
 )
 (
 oa (nilCk a) fun m=>oa (fldA 0 m) fun n=>oa (fldA 0 n) fun o=>oa (ld1 h o) fun p=>oa (binV .add .scalar p (.int .i64 1)) fun q=>oa (nilCk a) fun r=>oa (fldA 0 r) fun s=>oa (fldA 0 s) fun t=>oh (stN 1 h t q) fun u=>oa (nilCk a) fun v=>oa (fldA 0 v) fun w=>oa (fldA 0 w) fun x=>oa (ld1 u x) fun y=>oa (binV .sub .scalar y (.int .i64 1)) fun z=>some (z,u)
 ):=fnEq
def l5_:=bk tab tbl n2_ 0 [j0] [a,b,c,d,e,f] h k
theorem a0M:l5_ k (j0+1) a b c d e f h =
 oa (lenS d) fun g=>oa (binV .lss .scalar f g) fun i=>cond2 i
 (
 oa (idxS 1 d f) fun l=>oa (ld1 h l) fun m=>ob (evalFn tab k a2_ [a,b,m] h) fun n o=>oa (idxS 1 e f) fun p=>oa (ld1 o p) fun q=>ob (evalFn tab k a2_ [a,q,c] o) fun r s=>oa (binV .add .scalar f (.int .i64 1)) fun t=>l5_ k j0 a b c d e t s
 )
 (
 some (.tup [],h)
 ):=bkEq
theorem a6l:evalFn tab (k+1) n2_ [a,b,c,d,e,f] h =
 ob (newVar h (AV.cells b)) fun g i=>oa (fldA 0 g) fun l=>oa (ld1 i l) fun m=>oa (binV .eql .scalar m (.int .i64 1)) fun n=>cond2 n
 (
 oa (nilCk a) fun o=>oa (fldA 0 o) fun p=>oa (fldA 3 p) fun q=>oa (ld1 i q) fun r=>oa (fldA 1 g) fun s=>oa (ld1 i s) fun t=>oa (buildV [.int .i64 0,.int .i64 0,.int .i64 0] [(0,1,c),(1,1,d),(2,1,t)]) fun u=>ob (buildSl 3 1 [.int .i64 0,.int .i64 0,.int .i64 0] [(0,3,u)] i) fun v w=>ob (apnd 3 24 r v w) fun x y=>oa (nilCk a) fun z=>oa (fldA 0 z) fun aa=>oa (fldA 3 aa) fun ab=>oh (stN 1 y ab x) fun ac=>some (.tup [],ac)
 )
 (
 oa (binV .eql .scalar m (.int .i64 3)) fun ad=>cond2 ad
 (
 ob (evalFn tab k a2_ [a,c,d] i) fun ae af=>some (.tup [],af)
 )
 (
 oa (binV .eql .scalar m (.int .i64 5)) fun ag=>cond2 ag
 (
 l5_ k k a c d e f (.int .i64 0) i
 )
 (
 oa (binV .eql .scalar m (.int .i64 6)) fun ai=>cond2 ai
 (
 oa (idxS 1 e (.int .i64 0)) fun al=>oa (ld1 i al) fun am=>ob (evalFn tab k a2_ [a,c,am] i) fun an ao=>ob (evalFn tab k a2_ [a,c,d] ao) fun ap aq=>oa (idxS 1 f (.int .i64 0)) fun ar=>oa (ld1 aq ar) fun au=>oa (idxS 1 e (.int .i64 0)) fun av=>oa (ld1 aq av) fun aw=>ob (evalFn tab k a2_ [a,au,aw] aq) fun ax ay=>oa (idxS 1 f (.int .i64 0)) fun az=>oa (ld1 ay az) fun a0=>ob (evalFn tab k a2_ [a,a0,d] ay) fun a1 a2=>some (.tup [],a2)
 )
 (
 oa (binV .eql .scalar m (.int .i64 7)) fun a3=>cond2 a3
 (
 oa (idxS 1 e (.int .i64 0)) fun a4=>oa (ld1 i a4) fun a5=>ob (evalFn tab k a2_ [a,c,a5] i) fun a6 a7=>oa (idxS 1 f (.int .i64 0)) fun a8=>oa (ld1 a7 a8) fun a9=>oa (idxS 1 e (.int .i64 0)) fun ba=>oa (ld1 a7 ba) fun bb=>ob (evalFn tab k a2_ [a,a9,bb] a7) fun bc bd=>oa (idxS 1 f (.int .i64 0)) fun be=>oa (ld1 bd be) fun bf=>ob (evalFn tab k a2_ [a,bf,d] bd) fun bg bi=>some (.tup [],bi)
 )
 (
 oa (binV .eql .scalar m (.int .i64 8)) fun bl=>cond2 bl
 (
 oa (idxS 1 e (.int .i64 0)) fun bm=>oa (ld1 i bm) fun bn=>ob (evalFn tab k a2_ [a,c,bn] i) fun bo bp=>ob (evalFn tab k a2_ [a,c,d] bp) fun bq br=>oa (idxS 1 f (.int .i64 0)) fun bs=>oa (ld1 br bs) fun bt=>ob (evalFn tab k a2_ [a,bt,d] br) fun bu bv=>some (.tup [],bv)
 )
 (
 oa (binV .eql .scalar m (.int .i64 9)) fun bw=>cond2 bw
 (
 oa (ldN 5 i g) fun bx=>ob (evalFn tab k c8_ [a,bx,c,d,e,f] i) fun bz b1=>some (.tup [],b1)
 )
 (
 some (.tup [],i)
 )
 )
 )
 )
 )
 )
 ):=fnEq
def n7_:=bk tab tbl c3_ 0 [j0] [a,b,c,d] h k
def a4E:=bk tab tbl c3_ 1 [] [a,b,c] h k
def v8_:=bk tab tbl c3_ 2 [j0] [a,b,c,d,e] h k
def a1o:=bk tab tbl c3_ 3 [] [a,b,c] h k
def v9_:=bk tab tbl c3_ 4 [j0] [a,b,c,d] h k
def n8_:=bk tab tbl c3_ 5 [j0,j1] [a,b,c,d,e] h k
def a1p:=bk tab tbl c3_ 6 [j0] [a,b,c,d] h k
theorem a7Q:a1p k j0 a b c d h =
 oa (binV .add .scalar d (.int .i64 1)) fun e=>v9_ k j0 a b c e h:=bkEq
theorem a2Y:n8_ k j0 (j1+1) a b c d e h =
 oa (idxS 1 b d) fun f=>oa (ld1 h f) fun g=>oa (idxS 1 c g) fun i=>oa (ld1 h i) fun l=>oa (lenS l) fun m=>oa (binV .lss .scalar e m) fun n=>cond2 n
 (
 oa (idxS 1 b d) fun o=>oa (ld1 h o) fun p=>oa (idxS 1 c p) fun q=>oa (ld1 h q) fun r=>oa (idxS 1 r e) fun s=>oa (ld1 h s) fun t=>oa (idxS 1 a t) fun u=>oa (ld1 h u) fun v=>oa (unV .not v) fun w=>cond2 w
 (
 oa (idxS 1 a t) fun x=>oh (stN 1 h x (.bool true)) fun y=>ob (buildSl 1 1 [.int .i64 0] [(0,1,t)] y) fun z aa=>ob (apnd 1 8 b z aa) fun ab ac=>oa (binV .add .scalar e (.int .i64 1)) fun ad=>n8_ k j0 j1 a ab c d ad ac
 )
 (
 oa (binV .add .scalar e (.int .i64 1)) fun ae=>n8_ k j0 j1 a b c d ae h
 )
 )
 (
 a1p k j0 a b c d h
 ):=bkEq
theorem a2Z:v9_ k (j0+1) a b c d h =
 oa (lenS b) fun e=>oa (binV .lss .scalar d e) fun f=>cond2 f
 (
 n8_ k j0 k a b c d (.int .i64 0) h
 )
 (
 some (a,h)
 ):=bkEq
theorem a7R:a1o k a b c h =
 v9_ k k a b c (.int .i64 0) h:=bkEq
theorem a3a:v8_ k (j0+1) a b c d e h =
 oa (fldA 4 a) fun f=>oa (ld1 h f) fun g=>oa (lenS g) fun i=>oa (binV .lss .scalar e i) fun l=>cond2 l
 (
 oa (fldA 4 a) fun m=>oa (ld1 h m) fun n=>oa (idxS 2 n e) fun o=>oa (ldN 2 h o) fun p=>ob (newVar h [.int .i64 0,.int .i64 0]) fun q r=>oh (stN 2 r q p) fun s=>oa (idxA 2 1 q (.int .i64 0)) fun t=>oa (ld1 s t) fun u=>oa (idxA 2 1 q (.int .i64 0)) fun v=>oa (ld1 s v) fun w=>oa (idxS 1 d w) fun x=>oa (ld1 s x) fun y=>oa (idxA 2 1 q (.int .i64 1)) fun z=>oa (ld1 s z) fun aa=>ob (buildSl 1 1 [.int .i64 0] [(0,1,aa)] s) fun ab ac=>ob (apnd 1 8 y ab ac) fun ad ae=>chk ((sameB (pure1 ae (ld1 ae t)) u && true)) <|oa (idxS 1 d u) fun af=>oh (stN 1 ae af ad) fun ag=>oa (binV .add .scalar e (.int .i64 1)) fun ai=>v8_ k j0 a b c d ai ag
 )
 (
 a1o k b c d h
 ):=bkEq
theorem a7S:a4E k a b c h =
 oa (fldA 0 a) fun d=>oa (ld1 h d) fun e=>ob (mkSl [.nils] 1 24 e e h) fun f g=>v8_ k k a b c f (.int .i64 0) g:=bkEq
theorem a3b:n7_ k (j0+1) a b c d h =
 oa (lenS b) fun e=>oa (binV .lss .scalar d e) fun f=>cond2 f
 (
 oa (idxS 1 b d) fun g=>oa (ld1 h g) fun i=>cond2 i
 (
 ob (buildSl 1 1 [.int .i64 0] [(0,1,d)] h) fun l m=>ob (apnd 1 8 c l m) fun n o=>oa (binV .add .scalar d (.int .i64 1)) fun p=>n7_ k j0 a b n p o
 )
 (
 oa (binV .add .scalar d (.int .i64 1)) fun q=>n7_ k j0 a b c q h
 )
 )
 (
 a4E k a b c h
 ):=bkEq
theorem a9E:evalFn tab (k+1) c3_ [a,b] h =
 ob (newVar h (AV.cells a)) fun c d=>ob (buildSl 1 0 [] [] d) fun e f=>ob (apnd 1 1 e b f) fun g i=>n7_ k k c g .nils (.int .i64 0) i:=fnEq
def a0c:=bk tab tbl a0z 0 [j0] [a,b,c] h k
theorem a4e:a0c k (j0+1) a b c h =
 oa (lenS a) fun d=>oa (binV .lss .scalar c d) fun e=>cond2 e
 (
 oa (idxS 1 a c) fun f=>oa (ld1 h f) fun g=>oa (idxS 1 b c) fun i=>oa (ld1 h i) fun l=>oa (binV .neq .bool g l) fun m=>cond2 m
 (
 some ((.bool false),h)
 )
 (
 oa (binV .add .scalar c (.int .i64 1)) fun n=>a0c k j0 a b n h
 )
 )
 (
 some ((.bool true),h)
 ):=bkEq
theorem b0H:evalFn tab (k+1) a0z [a,b] h =
 a0c k k a b (.int .i64 0) h:=fnEq
def y1_:=bk tab tbl e2_ 0 [j0] [a,b,c,d,e] h k
def y2_:=bk tab tbl e2_ 1 [j0,j1] [a,b,c,d,e,f] h k
def a1K:=bk tab tbl e2_ 2 [j0] [a,b,c,d,e,f] h k
def a1L:=bk tab tbl e2_ 3 [j0] [a,b,c,d,e,f] h k
def a4Q:=bk tab tbl e2_ 4 [j0] [a,b,c,d,e] h k
def a4R:=bk tab tbl e2_ 5 [] [a,b] h k
theorem a3E:a4Q k j0 a b c d e h =
 oa (binV .add .scalar e (.int .i64 1)) fun f=>y1_ k j0 a b c d f h:=bkEq
theorem a3F:a1L k j0 a b c d e f h =
 oa (idxS 1 c e) fun g=>oh (stN 1 h g f) fun i=>a4Q k j0 a b c d e i:=bkEq
theorem a8p:a1K k j0 a b c d e f h =
 oa (lenS d) fun g=>oa (binV .eql .scalar f g) fun i=>cond2 i
 (
 ob (buildSl 1 1 [.int .i64 0] [(0,1,e)] h) fun l m=>ob (apnd 1 8 d l m) fun n o=>a1L k j0 a b c n e f o
 )
 (
 a1L k j0 a b c d e f h
 ):=bkEq
theorem a3G:y2_ k j0 (j1+1) a b c d e f h =
 oa (lenS d) fun g=>oa (binV .lss .scalar f g) fun i=>ob (gd i true (pure1 h (ldN 2 h b)) h) fun l m=>ob (gd i true (some (a,m)) m) fun n o=>ob (gd i true (some (d,o)) o) fun p q=>ob (gd i true (some (f,q)) q) fun r s=>ob (gd i true (pure1 s (idxS 1 p r)) s) fun t u=>ob (gd i true (pure1 u (ld1 u t)) u) fun v w=>ob (gd i true (some (e,w)) w) fun x y=>ob (gd i true (evalFn tab k a0j [l,n,v,x] y) y) fun z aa=>ob (gd i true (pure1 aa (unV .not z)) aa) fun ab ac=>oa (pickV i ab (.bool false)) fun ad=>cond2 ad
 (
 oa (binV .add .scalar f (.int .i64 1)) fun ae=>y2_ k j0 j1 a b c d e ae ac
 )
 (
 a1K k j0 a b c d e f ac
 ):=bkEq
theorem a8q:a4R k a b h =
 oa (lenS b) fun c=>some (.tup [a,c],h):=bkEq
theorem a3H:y1_ k (j0+1) a b c d e h =
 oa (lenS a) fun f=>oa (binV .lss .scalar e f) fun g=>cond2 g
 (
 y2_ k j0 k a b c d e (.int .i64 0) h
 )
 (
 a4R k c d h
 ):=bkEq
theorem b0j:evalFn tab (k+1) e2_ [a,b] h =
 ob (newVar h (AV.cells a)) fun c d=>oa (lenS b) fun e=>ob (mkSl [.int .i64 0] 1 8 e e d) fun f g=>y1_ k k b c f .nils (.int .i64 0) g:=fnEq
theorem b1L:evalFn tab (k+1) z1_ [a] h =
 oa (nilCk a) fun b=>oa (fldA 0 b) fun c=>oa (ld1 h c) fun d=>oa (lenS d) fun e=>some (e,h):=fnEq
theorem b0I:evalFn tab (k+1) a2J [a] h =
 ob (callMeth tab (evalFn tab k) "Len" a [] h) fun b c=>oa (binV .sub .scalar b (.int .i64 1)) fun d=>ob (callMeth tab (evalFn tab k) "Swap" a [(.int .i64 0),d] c) fun e f=>ob (evalFn tab k f5_ [a,(.int .i64 0),d] f) fun g i=>ob (callMeth tab (evalFn tab k) "Pop" a [] i) fun l m=>some (l,m):=fnEq
def j1_:=bk tab tbl s8_ 0 [j0] [a,b,c,d] h k
theorem a1W:j1_ k (j0+1) a b c d h =
 oa (nilCk a) fun e=>oa (fldA 0 e) fun f=>oa (fldA 1 f) fun g=>oa (ld1 h g) fun i=>oa (lenS i) fun l=>oa (binV .lss .scalar d l) fun m=>cond2 m
 (
 oa (nilCk a) fun n=>oa (fldA 0 n) fun o=>oa (fldA 1 o) fun p=>oa (ld1 h p) fun q=>oa (idxS 4 q d) fun r=>oa (fldA 0 r) fun s=>oa (ld1 h s) fun t=>oa (binV .eql .scalar t b) fun u=>ob (gd u false (some (a,h)) h) fun v w=>ob (gd u false (pure1 w (nilCk v)) w) fun x y=>ob (gd u false (pure1 y (fldA 0 x)) y) fun z aa=>ob (gd u false (pure1 aa (fldA 1 z)) aa) fun ab ac=>ob (gd u false (pure1 ac (ld1 ac ab)) ac) fun ad ae=>ob (gd u false (some (d,ae)) ae) fun af ag=>ob (gd u false (pure1 ag (idxS 4 ad af)) ag) fun ai al=>ob (gd u false (pure1 al (fldA 1 ai)) al) fun am an=>ob (gd u false (pure1 an (ld1 an am)) an) fun ao ap=>ob (gd u false (some (b,ap)) ap) fun aq ar=>ob (gd u false (pure1 ar (binV .eql .scalar ao aq)) ar) fun au av=>oa (pickV u (.bool true) au) fun aw=>cond2 aw
 (
 oa (nilCk a) fun ax=>oa (fldA 0 ax) fun ay=>oa (fldA 1 ay) fun az=>oa (ld1 av az) fun a1=>oa (idxS 4 a1 d) fun a2=>oa (fldA 2 a2) fun a3=>oa (ld1 av a3) fun a4=>oa (convV .u64 a4) fun a5=>oa (binV .shl .scalar (.int .i64 1) a5) fun a6=>oa (binV .or .scalar c a6) fun a7=>oa (binV .add .scalar d (.int .i64 1)) fun a8=>j1_ k j0 a b a7 a8 av
 )
 (
 oa (binV .add .scalar d (.int .i64 1)) fun a9=>j1_ k j0 a b c a9 av
 )
 )
 (
 some (c,h)
 ):=bkEq
theorem a7T:evalFn tab (k+1) s8_ [a,b] h =
 j1_ k k a b (.int .i64 0) (.int .i64 0) h:=fnEq
def a0s:=bk tab tbl w6_ 0 [j0] [a,b] h k
theorem a4F:a0s k (j0+1) a b h =
 oa (binV .sub .scalar b (.int .i64 1)) fun c=>oa (binV .quo .scalar c (.int .i64 2)) fun d=>oa (binV .eql .scalar d b) fun e=>ob (gd e false (some (a,h)) h) fun f g=>ob (gd e false (some (b,g)) g) fun i l=>ob (gd e false (some (d,l)) l) fun m n=>ob (gd e false (callMeth tab (evalFn tab k) "Less" f [i,m] n) n) fun o p=>ob (gd e false (pure1 p (unV .not o)) p) fun q r=>oa (pickV e (.bool true) q) fun s=>cond2 s
 (
 some (.tup [],r)
 )
 (
 ob (callMeth tab (evalFn tab k) "Swap" a [d,b] r) fun t u=>a0s k j0 a d u
 ):=bkEq
theorem b1l:evalFn tab (k+1) w6_ [a,b] h =
 a0s k k a b h:=fnEq
def p5_:=bk tab tbl f5_ 0 [j0] [a,b,c,d] h k
def p6_:=bk tab tbl f5_ 1 [] [a,b] h k
def p7_:=bk tab tbl f5_ 2 [j0] [a,b,c,d,e] h k
theorem a3I:p6_ k a b h =
 oa (binV .gtr .scalar b a) fun c=>some (c,h):=bkEq
theorem a3J:p7_ k j0 a b c d e h =
 ob (callMeth tab (evalFn tab k) "Less" a [e,d] h) fun f g=>oa (unV .not f) fun i=>cond2 i
 (
 p6_ k b d g
 )
 (
 ob (callMeth tab (evalFn tab k) "Swap" a [d,e] g) fun l m=>p5_ k j0 a b c e m
 ):=bkEq
theorem a0t:p5_ k (j0+1) a b c d h =
 oa (binV .mul .scalar (.int .i64 2) d) fun e=>oa (binV .add .scalar e (.int .i64 1)) fun f=>oa (binV .geq .scalar f c) fun g=>ob (gd g false (some (f,h)) h) fun i l=>ob (gd g false (pure1 l (binV .lss .scalar i (.int .i64 0))) l) fun m n=>oa (pickV g (.bool true) m) fun o=>cond2 o
 (
 p6_ k b d n
 )
 (
 oa (binV .add .scalar f (.int .i64 1)) fun p=>oa (binV .lss .scalar p c) fun q=>ob (gd q true (some (a,n)) n) fun r s=>ob (gd q true (some (p,s)) s) fun t u=>ob (gd q true (some (f,u)) u) fun v w=>ob (gd q true (callMeth tab (evalFn tab k) "Less" r [t,v] w) w) fun x y=>oa (pickV q x (.bool false)) fun z=>cond2 z
 (
 p7_ k j0 a b c d p y
 )
 (
 p7_ k j0 a b c d f y
 )
 ):=bkEq
theorem a4S:evalFn tab (k+1) f5_ [a,b,c] h =
 p5_ k k a b c b h:=fnEq
end
end Go.Gm.AQ
namespace Go.Gm.AQ
open Go Go.Gm
noncomputable section
variable (k j0 j1 j2 j3:Nat) (a b c d e f g i l m:AV) (h:Heap)
def e3_:=bk tab tbl f1_ 0 [j0] [a,b,c] h k
def e4_:=bk tab tbl f1_ 1 [j0] [a,b,c] h k
theorem a5i:e4_ k j0 a b c h =
 oa (nilCk a) fun d=>oa (fldA 1 d) fun e=>oa (ld1 h e) fun f=>oa (binV .add .scalar f (.int .i64 1)) fun g=>oa (nilCk a) fun i=>oa (fldA 1 i) fun l=>oh (stN 1 h l g) fun m=>e3_ k j0 a b c m:=bkEq
theorem a5j:e3_ k (j0+1) a b c h =
 ob (evalFn tab k b6_ [a] h) fun d e=>oa (extr 0 d) fun f=>oa (extr 1 d) fun g=>oa (unV .not g) fun i=>cond2 i
 (
 oa (ldN 5 e c) fun l=>oh (stN 5 e b l) fun m=>oa (ldN 5 m b) fun n=>some (n,m)
 )
 (
 oa (binV .eql .scalar f (.int .u8 42)) fun o=>cond2 o
 (
 oa (ldN 5 e c) fun p=>ob (buildSl 5 1 [.int .i64 0,.int .i64 0,.int .i64 0,.int .i64 0,.nils] [(0,5,p)] e) fun q r=>oa (buildV [.int .i64 0,.int .i64 0,.int .i64 0,.int .i64 0,.nils] [(0,1,(.int .i64 6)),(4,1,q)]) fun s=>oh (stN 5 r c s) fun t=>e4_ k j0 a b c t
 )
 (
 oa (binV .eql .scalar f (.int .u8 43)) fun u=>cond2 u
 (
 oa (ldN 5 e c) fun v=>ob (buildSl 5 1 [.int .i64 0,.int .i64 0,.int .i64 0,.int .i64 0,.nils] [(0,5,v)] e) fun w x=>oa (buildV [.int .i64 0,.int .i64 0,.int .i64 0,.int .i64 0,.nils] [(0,1,(.int .i64 7)),(4,1,w)]) fun y=>oh (stN 5 x c y) fun z=>e4_ k j0 a b c z
 )
 (
 oa (binV .eql .scalar f (.int .u8 63)) fun aa=>cond2 aa
 (
 oa (ldN 5 e c) fun ab=>ob (buildSl 5 1 [.int .i64 0,.int .i64 0,.int .i64 0,.int .i64 0,.nils] [(0,5,ab)] e) fun ac ad=>oa (buildV [.int .i64 0,.int .i64 0,.int .i64 0,.int .i64 0,.nils] [(0,1,(.int .i64 8)),(4,1,ac)]) fun ae=>oh (stN 5 ad c ae) fun af=>e4_ k j0 a b c af
 )
 (
 oa (binV .eql .scalar f (.int .u8 123)) fun ag=>cond2 ag
 (
 oa (nilCk a) fun ai=>oa (fldA 1 ai) fun al=>oa (ld1 e al) fun am=>oa (binV .add .scalar am (.int .i64 1)) fun an=>oa (nilCk a) fun ao=>oa (fldA 1 ao) fun ap=>oh (stN 1 e ap an) fun aq=>oa (ldN 5 aq c) fun ar=>ob (evalFn tab k h9_ [a,ar] aq) fun au av=>oh (stN 5 av c au) fun aw=>e3_ k j0 a b c aw
 )
 (
 oa (ldN 5 e c) fun ax=>oh (stN 5 e b ax) fun ay=>oa (ldN 5 ay b) fun az=>some (az,ay)
 )
 )
 )
 )
 ):=bkEq
theorem a6m:evalFn tab (k+1) f1_ [a] h =
 ob (newVar h [.int .i64 0,.int .i64 0,.int .i64 0,.int .i64 0,.nils]) fun b c=>ob (evalFn tab k z2_ [a] c) fun d e=>ob (newVar e [.int .i64 0,.int .i64 0,.int .i64 0,.int .i64 0,.nils]) fun f g=>oh (stN 5 g f d) fun i=>e3_ k k a b f i:=fnEq
theorem a6n:evalFn tab (k+1) a2_ [a,b,c] h =
 oa (nilCk a) fun d=>oa (fldA 0 d) fun e=>oa (fldA 4 e) fun f=>oa (ld1 h f) fun g=>oa (buildV [.int .i64 0,.int .i64 0] [(0,1,b),(1,1,c)]) fun i=>ob (buildSl 2 1 [.int .i64 0,.int .i64 0] [(0,2,i)] h) fun l m=>ob (apnd 2 16 g l m) fun n o=>oa (nilCk a) fun p=>oa (fldA 0 p) fun q=>oa (fldA 4 q) fun r=>oh (stN 1 o r n) fun s=>some (.tup [],s):=fnEq
def s9_:=bk tab tbl c8_ 0 [] [a,b,c,d,e,f] h k
def f6_:=bk tab tbl c8_ 1 [j0] [a,b,c,d,e,f,g] h k
def j2_:=bk tab tbl c8_ 2 [j0] [a,b,c,d,e,f,g,i] h k
def a1d:=bk tab tbl c8_ 3 [] [a,b,c,d] h k
theorem a4H:j2_ k j0 a b c d e f g i h =
 oa (unV .not i) fun l=>cond2 l
 (
 oa (idxS 1 e g) fun m=>oa (ld1 h m) fun n=>oa (binV .add .scalar g (.int .i64 1)) fun o=>oa (idxS 1 d o) fun p=>oa (ld1 h p) fun q=>ob (evalFn tab k a2_ [a,n,q] h) fun r s=>oa (binV .add .scalar g (.int .i64 1)) fun t=>f6_ k j0 a b c d e f t s
 )
 (
 oa (binV .add .scalar g (.int .i64 1)) fun u=>f6_ k j0 a b c d e f u h
 ):=bkEq
theorem a4I:a1d k a b c d h =
 oa (fldA 2 d) fun e=>oa (ld1 h e) fun f=>oa (binV .eql .scalar f (.int .i64 0)) fun g=>cond2 g
 (
 ob (evalFn tab k a2_ [a,b,c] h) fun i l=>some (.tup [],l)
 )
 (
 some (.tup [],h)
 ):=bkEq
theorem a0m:f6_ k (j0+1) a b c d e f g h =
 oa (lenS d) fun i=>oa (binV .lss .scalar g i) fun l=>cond2 l
 (
 oa (lenS d) fun m=>oa (binV .sub .scalar m (.int .i64 1)) fun n=>oa (binV .eql .scalar g n) fun o=>ob (gd o false (some (g,h)) h) fun p q=>ob (gd o false (pure1 q (binV .add .scalar p (.int .i64 1))) q) fun r s=>ob (gd o false (pure1 s (fldA 2 f)) s) fun t u=>ob (gd o false (pure1 u (ld1 u t)) u) fun v w=>ob (gd o false (pure1 w (binV .geq .scalar r v)) w) fun x y=>oa (pickV o (.bool true) x) fun z=>cond2 z
 (
 oa (idxS 1 e g) fun aa=>oa (ld1 y aa) fun ab=>ob (evalFn tab k a2_ [a,ab,c] y) fun ac ad=>j2_ k j0 a b c d e f g o ad
 )
 (
 j2_ k j0 a b c d e f g o y
 )
 )
 (
 a1d k a b c f h
 ):=bkEq
theorem a0n:s9_ k a b c d e f h =
 f6_ k k a b c d e f (.int .i64 0) h:=bkEq
theorem a5G:evalFn tab (k+1) c8_ [a,b,c,d,e,f] h =
 ob (newVar h (AV.cells b)) fun g i=>oa (fldA 3 g) fun l=>oa (ld1 i l) fun m=>oa (binV .gtr .scalar m (.int .i64 0)) fun n=>cond2 n
 (
 oa (idxS 1 e (.int .i64 0)) fun o=>oa (ld1 i o) fun p=>ob (evalFn tab k a2_ [a,c,p] i) fun q r=>s9_ k a c d e f g r
 )
 (
 s9_ k a c d e f g i
 ):=fnEq
def y3_:=bk tab tbl a0j 0 [j0] [a,b,c,d,e] h k
theorem a3K:y3_ k (j0+1) a b c d e h =
 oa (binV .lss .scalar e (.int .i64 5)) fun f=>cond2 f
 (
 oa (fldA 0 d) fun g=>oa (ld1 h g) fun i=>oa (idxS 5 i b) fun l=>oa (idxA 5 1 l e) fun m=>oa (ld1 h m) fun n=>oa (idxS 1 a n) fun o=>oa (ld1 h o) fun p=>oa (fldA 0 d) fun q=>oa (ld1 h q) fun r=>oa (idxS 5 r c) fun s=>oa (idxA 5 1 s e) fun t=>oa (ld1 h t) fun u=>oa (idxS 1 a u) fun v=>oa (ld1 h v) fun w=>oa (binV .neq .scalar p w) fun x=>cond2 x
 (
 some ((.bool false),h)
 )
 (
 oa (binV .add .scalar e (.int .i64 1)) fun y=>y3_ k j0 a b c d y h
 )
 )
 (
 some ((.bool true),h)
 ):=bkEq
theorem b0k:evalFn tab (k+1) a0j [a,b,c,d] h =
 ob (newVar h (AV.cells a)) fun e f=>oa (idxS 1 b c) fun g=>oa (ld1 f g) fun i=>oa (idxS 1 b d) fun l=>oa (ld1 f l) fun m=>oa (binV .neq .scalar i m) fun n=>cond2 n
 (
 some ((.bool false),f)
 )
 (
 y3_ k k b c d e (.int .i64 0) f
 ):=fnEq
theorem a6N:evalFn tab (k+1) z2_ [a] h =
 ob (newVar h [.int .i64 0,.int .i64 0,.int .i64 0,.int .i64 0,.nils]) fun b c=>ob (evalFn tab k b6_ [a] c) fun d e=>oa (extr 0 d) fun f=>oa (extr 1 d) fun g=>oa (unV .not g) fun i=>cond2 i
 (
 ob (evalFn tab k b5_ [a,(.int .i64 3)] e) fun l m=>oh (stN 5 m b l) fun n=>oa (ldN 5 n b) fun o=>some (o,n)
 )
 (
 oa (binV .eql .scalar f (.int .u8 40)) fun p=>ob (gd p true (some (a,e)) e) fun q r=>ob (gd p true (pure1 r (nilCk q)) r) fun s t=>ob (gd p true (pure1 t (fldA 2 s)) t) fun u v=>ob (gd p true (pure1 v (ld1 v u)) v) fun w x=>ob (gd p true (pure1 x (binV .geq .scalar w (.int .i64 30))) x) fun y z=>oa (pickV p y (.bool false)) fun aa=>cond2 aa
 (
 ob (evalFn tab k b5_ [a,(.int .i64 4)] z) fun ab ac=>oh (stN 5 ac b ab) fun ad=>oa (ldN 5 ad b) fun ae=>some (ae,ad)
 )
 (
 oa (nilCk a) fun af=>oa (fldA 1 af) fun ag=>oa (ld1 z ag) fun ai=>oa (binV .add .scalar ai (.int .i64 1)) fun al=>oa (nilCk a) fun am=>oa (fldA 1 am) fun an=>oh (stN 1 z an al) fun ao=>ob (evalFn tab k i9_ [f] ao) fun ap aq=>oa (binV .geq .scalar ap (.int .i64 0)) fun ar=>cond2 ar
 (
 ob (evalFn tab k i9_ [f] aq) fun au av=>oa (convV .u64 au) fun aw=>oa (binV .shl .scalar (.int .i64 1) aw) fun ax=>oa (buildV [.int .i64 0,.int .i64 0,.int .i64 0,.int .i64 0,.nils] [(0,1,(.int .i64 1)),(1,1,ax)]) fun ay=>oh (stN 5 av b ay) fun az=>oa (ldN 5 az b) fun a0=>some (a0,az)
 )
 (
 oa (binV .eql .scalar f (.int .u8 46)) fun a1=>cond2 a1
 (
 oa (buildV [.int .i64 0,.int .i64 0,.int .i64 0,.int .i64 0,.nils] [(0,1,(.int .i64 1)),(1,1,(.int .i64 31))]) fun a2=>oh (stN 5 aq b a2) fun a3=>oa (ldN 5 a3 b) fun a4=>some (a4,a3)
 )
 (
 oa (binV .eql .scalar f (.int .u8 48)) fun a5=>cond2 a5
 (
 oa (buildV [.int .i64 0,.int .i64 0,.int .i64 0,.int .i64 0,.nils] [(0,1,(.int .i64 2))]) fun a6=>oh (stN 5 aq b a6) fun a7=>oa (ldN 5 a7 b) fun a8=>some (a8,a7)
 )
 (
 oa (binV .eql .scalar f (.int .u8 95)) fun a9=>cond2 a9
 (
 oa (buildV [.int .i64 0,.int .i64 0,.int .i64 0,.int .i64 0,.nils] [(0,1,(.int .i64 3))]) fun ba=>oh (stN 5 aq b ba) fun bb=>oa (ldN 5 bb b) fun bc=>some (bc,bb)
 )
 (
 oa (binV .eql .scalar f (.int .u8 91)) fun bd=>cond2 bd
 (
 ob (evalFn tab k n3_ [a] aq) fun be bf=>oh (stN 5 bf b be) fun bg=>oa (ldN 5 bg b) fun bi=>some (bi,bg)
 )
 (
 oa (binV .eql .scalar f (.int .u8 40)) fun bl=>cond2 bl
 (
 ob (evalFn tab k x4_ [a] aq) fun bm bn=>oh (stN 5 bn b bm) fun bo=>oa (ldN 5 bo b) fun bp=>some (bp,bo)
 )
 (
 oa (nilCk a) fun bq=>oa (fldA 1 bq) fun br=>oa (ld1 aq br) fun bs=>oa (binV .sub .scalar bs (.int .i64 1)) fun bt=>oa (nilCk a) fun bu=>oa (fldA 1 bu) fun bv=>oh (stN 1 aq bv bt) fun bw=>ob (evalFn tab k b5_ [a,(.int .i64 3)] bw) fun bx bz=>oh (stN 5 bz b bx) fun b0=>oa (ldN 5 b0 b) fun b1=>some (b1,b0)
 )
 )
 )
 )
 )
 )
 )
 ):=fnEq
def g8_:=bk tab tbl h9_ 0 [j0] [a,b,c,d,e,f] h k
def a1X:=bk tab tbl h9_ 1 [] [a,b,c,d,e] h k
theorem a5k:a1X k a b c d e h =
 oa (idxA 2 1 e (.int .i64 0)) fun f=>oa (ld1 h f) fun g=>oa (idxA 2 1 e (.int .i64 1)) fun i=>oa (ld1 h i) fun l=>oa (binV .gtr .scalar g l) fun m=>cond2 m
 (
 oa (nilCk a) fun n=>oa (fldA 1 n) fun o=>oh (stN 1 h o d) fun p=>ob (evalFn tab k b5_ [a,(.int .i64 3)] p) fun q r=>oh (stN 5 r c q) fun s=>oa (ldN 5 s c) fun t=>some (t,s)
 )
 (
 oa (idxA 2 1 e (.int .i64 0)) fun u=>oa (ld1 h u) fun v=>oa (idxA 2 1 e (.int .i64 1)) fun w=>oa (ld1 h w) fun x=>oa (ldN 5 h b) fun y=>ob (buildSl 5 1 [.int .i64 0,.int .i64 0,.int .i64 0,.int .i64 0,.nils] [(0,5,y)] h) fun z aa=>oa (buildV [.int .i64 0,.int .i64 0,.int .i64 0,.int .i64 0,.nils] [(0,1,(.int .i64 9)),(2,1,v),(3,1,x),(4,1,z)]) fun ab=>oh (stN 5 aa c ab) fun ac=>oa (ldN 5 ac c) fun ad=>some (ad,ac)
 ):=bkEq
theorem a0N:g8_ k (j0+1) a b c d e f h =
 oa (binV .lss .scalar f (.int .i64 2)) fun g=>cond2 g
 (
 ob (evalFn tab k b6_ [a] h) fun i l=>oa (extr 0 i) fun m=>oa (extr 1 i) fun n=>oa (unV .not n) fun o=>ob (gd o false (some (m,l)) l) fun p q=>ob (gd o false (pure1 q (binV .lss .scalar p (.int .u8 48))) q) fun r s=>oa (pickV o (.bool true) r) fun t=>ob (gd t false (some (m,s)) s) fun u v=>ob (gd t false (pure1 v (binV .gtr .scalar u (.int .u8 57))) v) fun w x=>oa (pickV t (.bool true) w) fun y=>cond2 y
 (
 cond2 n
 (
 oa (nilCk a) fun z=>oa (fldA 1 z) fun aa=>oh (stN 1 x aa d) fun ab=>ob (evalFn tab k b5_ [a,(.int .i64 3)] ab) fun ac ad=>oh (stN 5 ad c ac) fun ae=>oa (ldN 5 ae c) fun af=>some (af,ae)
 )
 (
 ob (evalFn tab k b5_ [a,(.int .i64 3)] x) fun ag ai=>oh (stN 5 ai c ag) fun al=>oa (ldN 5 al c) fun am=>some (am,al)
 )
 )
 (
 oa (binV .sub .scalar m (.int .u8 48)) fun an=>oa (convV .i64 an) fun ao=>oa (idxA 2 1 e f) fun ap=>oh (stN 1 x ap ao) fun aq=>oa (nilCk a) fun ar=>oa (fldA 1 ar) fun au=>oa (ld1 aq au) fun av=>oa (binV .add .scalar av (.int .i64 1)) fun aw=>oa (nilCk a) fun ax=>oa (fldA 1 ax) fun ay=>oh (stN 1 aq ay aw) fun az=>ob (evalFn tab k b6_ [a] az) fun a0 a1=>oa (extr 0 a0) fun a2=>oa (extr 1 a0) fun a3=>oa (unV .not a3) fun a4=>ob (gd a4 false (some (a2,a1)) a1) fun a5 a6=>ob (gd a4 false (pure1 a6 (buildV [.int .u8 0,.int .u8 0] [(0,1,(.int .u8 44)),(1,1,(.int .u8 125))])) a6) fun a7 a8=>ob (gd a4 false (some (f,a8)) a8) fun a9 ba=>ob (gd a4 false (pure1 ba (ixA 2 1 none a7 a9)) ba) fun bb bc=>ob (gd a4 false (pure1 bc (binV .neq .scalar a5 bb)) bc) fun bd be=>oa (pickV a4 (.bool true) bd) fun bf=>cond2 bf
 (
 ob (evalFn tab k b5_ [a,(.int .i64 3)] be) fun bg bi=>oh (stN 5 bi c bg) fun bl=>oa (ldN 5 bl c) fun bm=>some (bm,bl)
 )
 (
 oa (nilCk a) fun bn=>oa (fldA 1 bn) fun bo=>oa (ld1 be bo) fun bp=>oa (binV .add .scalar bp (.int .i64 1)) fun bq=>oa (nilCk a) fun br=>oa (fldA 1 br) fun bs=>oh (stN 1 be bs bq) fun bt=>oa (binV .add .scalar f (.int .i64 1)) fun bu=>g8_ k j0 a b c d e bu bt
 )
 )
 )
 (
 a1X k a b c d e h
 ):=bkEq
theorem a6o:evalFn tab (k+1) h9_ [a,b] h =
 ob (newVar h (AV.cells b)) fun c d=>ob (newVar d [.int .i64 0,.int .i64 0,.int .i64 0,.int .i64 0,.nils]) fun e f=>oa (nilCk a) fun g=>oa (fldA 1 g) fun i=>oa (ld1 f i) fun l=>oa (binV .sub .scalar l (.int .i64 1)) fun m=>ob (newVar f [.int .i64 0,.int .i64 0]) fun n o=>g8_ k k a c e m n (.int .i64 0) o:=fnEq
def a0d:=bk tab tbl i9_ 0 [j0] [a,b] h k
theorem a4f:a0d k (j0+1) a b h =
 oa (binV .lss .scalar b (.int .i64 5)) fun c=>cond2 c
 (
 oa (ixS (.str ⟨#[119,98,99,102,116]⟩) b) fun d=>oa (binV .eql .scalar d a) fun e=>cond2 e
 (
 some (b,h)
 )
 (
 oa (binV .add .scalar b (.int .i64 1)) fun f=>a0d k j0 a f h
 )
 )
 (
 some ((.int .i64 (-1)),h)
 ):=bkEq
theorem b0J:evalFn tab (k+1) i9_ [a] h =
 a0d k k a (.int .i64 0) h:=fnEq
def l6_:=bk tab tbl n3_ 0 [j0] [a,b,c] h k
theorem a5l:l6_ k (j0+1) a b c h =
 ob (evalFn tab k b6_ [a] h) fun d e=>oa (extr 0 d) fun f=>oa (extr 1 d) fun g=>ob (gd g true (some (f,e)) e) fun i l=>ob (gd g true (pure1 l (binV .eql .scalar i (.int .u8 93))) l) fun m n=>oa (pickV g m (.bool false)) fun o=>ob (gd o true (some (c,n)) n) fun p q=>ob (gd o true (pure1 q (binV .gtr .scalar p (.int .i64 0))) q) fun r s=>oa (pickV o r (.bool false)) fun t=>cond2 t
 (
 oa (nilCk a) fun u=>oa (fldA 1 u) fun v=>oa (ld1 s v) fun w=>oa (binV .add .scalar w (.int .i64 1)) fun x=>oa (nilCk a) fun y=>oa (fldA 1 y) fun z=>oh (stN 1 s z x) fun aa=>oa (buildV [.int .i64 0,.int .i64 0,.int .i64 0,.int .i64 0,.nils] [(0,1,(.int .i64 1)),(1,1,c)]) fun ab=>oh (stN 5 aa b ab) fun ac=>oa (ldN 5 ac b) fun ad=>some (ad,ac)
 )
 (
 oa (unV .not g) fun ae=>ob (gd ae false (some (f,s)) s) fun af ag=>ob (gd ae false (evalFn tab k i9_ [af] ag) ag) fun ai al=>ob (gd ae false (pure1 al (binV .lss .scalar ai (.int .i64 0))) al) fun am an=>oa (pickV ae (.bool true) am) fun ao=>cond2 ao
 (
 ob (evalFn tab k b5_ [a,(.int .i64 3)] an) fun ap aq=>oh (stN 5 aq b ap) fun ar=>oa (ldN 5 ar b) fun au=>some (au,ar)
 )
 (
 ob (evalFn tab k i9_ [f] an) fun av aw=>oa (convV .u64 av) fun ax=>oa (binV .shl .scalar (.int .i64 1) ax) fun ay=>oa (binV .or .scalar c ay) fun az=>oa (nilCk a) fun a0=>oa (fldA 1 a0) fun a1=>oa (ld1 aw a1) fun a2=>oa (binV .add .scalar a2 (.int .i64 1)) fun a3=>oa (nilCk a) fun a4=>oa (fldA 1 a4) fun a5=>oh (stN 1 aw a5 a3) fun a6=>l6_ k j0 a b az a6
 )
 ):=bkEq
theorem a6p:evalFn tab (k+1) n3_ [a] h =
 ob (newVar h [.int .i64 0,.int .i64 0,.int .i64 0,.int .i64 0,.nils]) fun b c=>l6_ k k a b (.int .i64 0) c:=fnEq
theorem a6q:evalFn tab (k+1) x4_ [a] h =
 ob (newVar h [.int .i64 0,.int .i64 0,.int .i64 0,.int .i64 0,.nils]) fun b c=>oa (nilCk a) fun d=>oa (fldA 2 d) fun e=>oa (ld1 c e) fun f=>oa (binV .add .scalar f (.int .i64 1)) fun g=>oa (nilCk a) fun i=>oa (fldA 2 i) fun l=>oh (stN 1 c l g) fun m=>ob (evalFn tab k f0_ [a] m) fun n o=>ob (newVar o [.int .i64 0,.int .i64 0,.int .i64 0,.int .i64 0,.nils]) fun p q=>oh (stN 5 q p n) fun r=>ob (evalFn tab k b6_ [a] r) fun s t=>oa (extr 0 s) fun u=>oa (extr 1 s) fun v=>oa (unV .not v) fun w=>ob (gd w false (some (u,t)) t) fun x y=>ob (gd w false (pure1 y (binV .neq .scalar x (.int .u8 41))) y) fun z aa=>oa (pickV w (.bool true) z) fun ab=>cond2 ab
 (
 ob (evalFn tab k b5_ [a,(.int .i64 3)] aa) fun ac ad=>oh (stN 5 ad b ac) fun ae=>oa (ldN 5 ae b) fun af=>some (af,ae)
 )
 (
 oa (nilCk a) fun ag=>oa (fldA 1 ag) fun ai=>oa (ld1 aa ai) fun al=>oa (binV .add .scalar al (.int .i64 1)) fun am=>oa (nilCk a) fun an=>oa (fldA 1 an) fun ao=>oh (stN 1 aa ao am) fun ap=>oa (nilCk a) fun aq=>oa (fldA 2 aq) fun ar=>oa (ld1 ap ar) fun au=>oa (binV .sub .scalar au (.int .i64 1)) fun av=>oa (nilCk a) fun aw=>oa (fldA 2 aw) fun ax=>oh (stN 1 ap ax av) fun ay=>oa (ldN 5 ay p) fun az=>oh (stN 5 ay b az) fun a0=>oa (ldN 5 a0 b) fun a1=>some (a1,a0)
 ):=fnEq
theorem b1m:evalFn tab (k+1) a3k [a,b] h =
 ob (newVar h (AV.cells a)) fun c d=>ob (newVar d (AV.cells b)) fun e f=>oa (fldA 1 c) fun g=>oa (ld1 f g) fun i=>oa (fldA 1 e) fun l=>oa (ld1 f l) fun m=>oa (binV .neq .scalar i m) fun n=>cond2 n
 (
 oa (fldA 1 c) fun o=>oa (ld1 f o) fun p=>oa (fldA 1 e) fun q=>oa (ld1 f q) fun r=>oa (binV .lss .scalar p r) fun s=>some (s,f)
 )
 (
 oa (fldA 0 c) fun t=>oa (ld1 f t) fun u=>oa (fldA 0 e) fun v=>oa (ld1 f v) fun w=>oa (binV .lss .scalar u w) fun x=>some (x,f)
 ):=fnEq
theorem b1n:evalFn tab (k+1) a3l [a,b,c] h =
 oa (nilCk a) fun d=>oa (fldA 0 d) fun e=>oa (ld1 h e) fun f=>oa (idxS 2 f b) fun g=>oa (ldN 2 h g) fun i=>oa (nilCk a) fun l=>oa (fldA 0 l) fun m=>oa (ld1 h m) fun n=>oa (idxS 2 n c) fun o=>oa (ldN 2 h o) fun p=>ob (callVal (evalFn tab k) (.fn a3k [] []) [i,p] h) fun q r=>some (q,r):=fnEq
theorem b1M:evalFn tab (k+1) a4k [a] h =
 oa (nilCk a) fun b=>oa (fldA 0 b) fun c=>oa (ld1 h c) fun d=>oa (lenS d) fun e=>oa (binV .sub .scalar e (.int .i64 1)) fun f=>oa (nilCk a) fun g=>oa (fldA 0 g) fun i=>oa (ld1 h i) fun l=>oa (idxS 2 l f) fun m=>oa (ldN 2 h m) fun n=>ob (newVar h [.int .i64 0,.int .i64 0]) fun o p=>oh (stN 2 p o n) fun q=>oa (nilCk a) fun r=>oa (fldA 0 r) fun s=>oa (ld1 q s) fun t=>oa (slSl 2 t none (some f) none) fun u=>oa (nilCk a) fun v=>oa (fldA 0 v) fun w=>oh (stN 1 q w u) fun x=>oa (nilCk a) fun y=>oa (fldA 1 y) fun z=>oa (ld1 x z) fun aa=>oa (fldA 0 o) fun ab=>oa (ld1 x ab) fun ac=>oa (idxS 1 aa ac) fun ad=>oh (stN 1 x ad (.int .i64 (-1))) fun ae=>oa (ldN 2 ae o) fun af=>some ((.ifc 198 af),ae):=fnEq
theorem b1o:evalFn tab (k+1) a3m [a,b] h =
 oa (tAssert 198 (.agg [.int .i64 0,.int .i64 0]) true b) fun c=>oa (extr 0 c) fun d=>oa (extr 1 c) fun e=>ob (newVar h [.int .i64 0,.int .i64 0]) fun f g=>oh (stN 2 g f d) fun i=>cond2 e
 (
 oa (nilCk a) fun l=>oa (fldA 1 l) fun m=>oa (ld1 i m) fun n=>oa (fldA 0 f) fun o=>oa (ld1 i o) fun p=>oa (nilCk a) fun q=>oa (fldA 0 q) fun r=>oa (ld1 i r) fun s=>oa (lenS s) fun t=>oa (idxS 1 n p) fun u=>oh (stN 1 i u t) fun v=>oa (nilCk a) fun w=>oa (fldA 0 w) fun x=>oa (ld1 v x) fun y=>oa (ldN 2 v f) fun z=>ob (buildSl 2 1 [.int .i64 0,.int .i64 0] [(0,2,z)] v) fun aa ab=>ob (apnd 2 16 y aa ab) fun ac ad=>oa (nilCk a) fun ae=>oa (fldA 0 ae) fun af=>oh (stN 1 ad af ac) fun ag=>some (.tup [],ag)
 )
 (
 some (.tup [],i)
 ):=fnEq
theorem b1p:evalFn tab (k+1) a0S [a,b,c] h =
 oa (nilCk a) fun d=>oa (fldA 0 d) fun e=>oa (ld1 h e) fun f=>oa (nilCk a) fun g=>oa (fldA 0 g) fun i=>oa (ld1 h i) fun l=>oa (nilCk a) fun m=>oa (fldA 0 m) fun n=>oa (ld1 h n) fun o=>oa (idxS 2 o c) fun p=>oa (ldN 2 h p) fun q=>oa (nilCk a) fun r=>oa (fldA 0 r) fun s=>oa (ld1 h s) fun t=>oa (idxS 2 t b) fun u=>oa (ldN 2 h u) fun v=>oa (idxS 2 f b) fun w=>oh (stN 2 h w q) fun x=>oa (idxS 2 l c) fun y=>oh (stN 2 x y v) fun z=>oa (nilCk a) fun aa=>oa (fldA 1 aa) fun ab=>oa (ld1 z ab) fun ac=>oa (nilCk a) fun ad=>oa (fldA 0 ad) fun ae=>oa (ld1 z ae) fun af=>oa (idxS 2 af b) fun ag=>oa (fldA 0 ag) fun ai=>oa (ld1 z ai) fun al=>oa (nilCk a) fun am=>oa (fldA 1 am) fun an=>oa (ld1 z an) fun ao=>oa (nilCk a) fun ap=>oa (fldA 0 ap) fun aq=>oa (ld1 z aq) fun ar=>oa (idxS 2 ar c) fun au=>oa (fldA 0 au) fun av=>oa (ld1 z av) fun aw=>oa (idxS 1 ac al) fun ax=>oh (stN 1 z ax b) fun ay=>oa (idxS 1 ao aw) fun az=>oh (stN 1 ay az c) fun a0=>some (.tup [],a0):=fnEq
theorem b0K:evalFn tab (k+1) a2K [a,b] h =
 oa (binV .lss .scalar b (.int .i64 0)) fun c=>ob (gd c false (some (b,h)) h) fun d e=>ob (gd c false (some (a,e)) e) fun f g=>ob (gd c false (pure1 g (nilCk f)) g) fun i l=>ob (gd c false (pure1 l (fldA 1 i)) l) fun m n=>ob (gd c false (pure1 n (ld1 n m)) n) fun o p=>ob (gd c false (pure1 p (lenS o)) p) fun q r=>ob (gd c false (pure1 r (binV .geq .scalar d q)) r) fun s t=>oa (pickV c (.bool true) s) fun u=>cond2 u
 (
 some ((.int .i64 (-1)),t)
 )
 (
 oa (nilCk a) fun v=>oa (fldA 1 v) fun w=>oa (ld1 t w) fun x=>oa (idxS 1 x b) fun y=>oa (ld1 t y) fun z=>some (z,t)
 ):=fnEq
end
end Go.Gm.AQ
namespace Go.Gm.AQ
open Go Go.Gm
theorem o7_ {a n:Int}(hn:0<n)(hf:Fit n)(h:Heap):Tot tab b8_ [I a,I n] h fun v h'=>v=I (a % n)/\h=h':=by
 refine WP.tot (fun k=>a9u k _ _ h) ?_
 refine WP.oa (a8F a n oM) ?_
 refine WP.oa (a6U _ _) ?_
 have hlt:=Int.tmod_lt_of_pos a hn
 have hgt:=Int.lt_tmod_of_pos a hn
 have h1:=Int.tmod_eq_emod (a:=a) (b:=n)
 have h2:=Int.emod_nonneg a (by omega:n≠0)
 have h3:=Int.emod_lt_of_pos a hn
 by_cases h0:a.tmod n<0
 ·simp only[decide_eq_true h0,a2L]
  refine WP.oa (a8E _ _ (by unfold Fit at *; omega)) (WP.ret ⟨?_,rfl⟩)
  congr 1
  split at h1<;>omega
 ·simp only[decide_eq_false h0,a1M]
  refine WP.ret ⟨?_,rfl⟩
  congr 1
  split at h1<;>omega
end Go.Gm.AQ
namespace Go.Gm.AQ
open Go Go.Gm
structure E where
 fr:Int
 to:Int
 md:Int
 co:Int
 deriving Inhabited
def encE (e:E):List AV:=[I e.fr,I e.to,I e.md,I e.co]
def encI (n:Int):List AV:=[I n]
def encB (b:Bool):List AV:=[.bool b]
def encP (p:AV × AV):List AV:=[p.1,p.2]
structure NetOk (N:Int) (es:List E):Prop where
 n0:0<=N
 n1:N<=100000
 len:es.length<=100000
 edge:∀e∈es,0<=e.fr/\e.fr<N/\0<=e.to/\e.to<N/\0<=e.md/\e.md<5
def idxTo (p:E->Bool)(es:List E)(n:Nat):List Int:=((List.range n).filter fun (i:Nat)=>p (gi es i)).map fun (i:Nat)=>(i:Int)
theorem a5K (p:E->Bool)(es:List E)(n:Nat):idxTo p es (n+1)=idxTo p es n++if p (gi es n) then [(n:Int)] else []:=by
 simp only[idxTo,List.range_succ,List.filter_append,List.map_append]
 congr 1
 by_cases h:p (gi es n)<;>simp[h]
theorem o0_ (p:E->Bool)(es:List E)(n:Nat):(idxTo p es n).length<=n:=by
 simp only[idxTo,List.length_map]
 exact Nat.le_trans (List.length_filter_le ..) (by simp)
theorem q8_ {p:E->Bool}{es:List E}{n:Nat}{k:Int}:k∈idxTo p es n↔0<=k/\k<n/\p (gi es k)=true:=by
 simp only[idxTo,List.mem_map,List.mem_filter,List.mem_range]
 constructor
 ·rintro ⟨a,⟨h1,h2⟩,rfl⟩
  exact ⟨oM,oM,h2⟩
 ·rintro ⟨h1,h2,h3⟩
  exact ⟨k.toNat,⟨oM,by rw[show ((k.toNat:Nat):Int)=k by omega]; exact h3⟩,oM⟩
def outL (es:List E)(v:Int):List Int:=idxTo (fun e=>e.fr == v) es es.length
def inL (es:List E)(v:Int):List Int:=idxTo (fun e=>e.to == v) es es.length
theorem c1t {N:Int}{es:List E}(ok:NetOk N es){v:Int}(hv:¬(0<=v/\v<N)):outL es v=[]:=by
 rw[List.eq_nil_iff_forall_not_mem]
 intro k hk
 rw[outL,q8_] at hk
 have:=ok.edge _ (b7_ hk.1 hk.2.1)
 have h3:=hk.2.2
 simp only[beq_iff_eq] at h3
 omega
structure AdjW (h:Heap) (a:AV) (N:Int) (es:List E) (s so si:AV) (O J:List (AV × AV)):Prop where
 pt:At h a [I N,s,so,si]
 ed:Sl h 4 s (es.map encE)
 so:Sl h 2 so (O.map encP)
 si:Sl h 2 si (J.map encP)
 lo:(O.length:Int)=N
 lj:(J.length:Int)=N
 oe:∀v,0<=v->v<N->Sl h 1 (gi O v).1 ((outL es v).map encI)
 oo:∀v,0<=v->v<N->Sl h 1 (gi O v).2 (((outL es v).map fun k=>(gi es k).to).map encI)
 ie:∀v,0<=v->v<N->Sl h 1 (gi J v).1 ((inL es v).map encI)
 io:∀v,0<=v->v<N->Sl h 1 (gi J v).2 (((inL es v).map fun k=>(gi es k).fr).map encI)
def AdjV (h:Heap)(a:AV)(N:Int)(es:List E):Prop:=∃s so si O J,AdjW h a N es s so si O J
theorem AdjW.ext {h h':Heap}{a:AV}{N:Int}{es:List E}{s so si:AV}{O J:List (AV × AV)}(w:AdjW h a N es s so si O J)(e:Ext h h'):AdjW h' a N es s so si O J:=
 ⟨w.pt.ext e,w.ed.ext e,w.so.ext e,w.si.ext e,w.lo,w.lj,fun v h0 h1=>(w.oe v h0 h1).ext e,fun v h0 h1=>(w.oo v h0 h1).ext e,fun v h0 h1=>(w.ie v h0 h1).ext e,fun v h0 h1=>(w.io v h0 h1).ext e⟩
theorem AdjV.ext {h h':Heap}{a:AV}{N:Int}{es:List E}(w:AdjV h a N es)(e:Ext h h'):AdjV h' a N es:=by
 obtain ⟨s,so,si,O,J,w⟩:=w
 exact ⟨s,so,si,O,J,w.ext e⟩
theorem b4z {h:Heap}{a s so si:AV}{N v:Int}(ha:At h a [I N,s,so,si]){O:List (AV × AV)}(hO:Sl h 2 so (O.map encP)) :
  Tot tab a4j [a,I v] h fun r h'=>r=.bool (decide (0<=v/\v<O.length))/\h=h':=by
 refine WP.tot (fun k=>b5I k _ _ h) ?_
 by_cases h0:0<=v
 ·by_cases h1:v<O.length
  ·refine g4 ha.nil ha.fldA0 ha.ldfE hO.lenG ?_
   exact WP.ret ⟨by simp[h0,h1],rfl⟩
  ·refine g4 ha.nil ha.fldA0 ha.ldfE hO.lenG ?_
   exact WP.ret ⟨by simp[h0,h1],rfl⟩
 ·refine g0 ?_
  exact WP.ret ⟨by simp[h0],rfl⟩
theorem a8a {h:Heap}{s:AV}{xs:List (List AV)}(hs:Sl h 1 s xs)(hl:xs.length<=10000000) :
  Tot tab r5_ [s] h fun r h'=>Ext h h'/\Gr h.length h'.length h' 1 r xs:=by
 refine WP.tot (fun k=>b1I k _ h) ?_
 have hs':=hs
 rcases hs with ⟨rfl,rfl⟩|⟨o,off,lim,g,c,rfl,_⟩
 ·refine g0 ?_
  exact WP.ret ⟨Ext.refl _,Gr.nil ..⟩
 ·obtain ⟨s',h',h1,h2,h3⟩:=b8H (bytes:=8) hs' oM oM oM
  rw[a3_] at h1
  refine g1 @h1 ?_
  exact WP.ret ⟨h3,h2⟩
theorem b7x {h:Heap}{s:AV}{xs:List (List AV)}(hs:Sl h 4 s xs)(hl:xs.length<=10000000) :
  Tot tab a1r [s] h fun r h'=>Ext h h'/\Gr h.length h'.length h' 4 r xs:=by
 refine WP.tot (fun k=>a9d k _ h) ?_
 have hs':=hs
 rcases hs with ⟨rfl,rfl⟩|⟨o,off,lim,g,c,rfl,_⟩
 ·refine g0 ?_
  exact WP.ret ⟨Ext.refl _,Gr.nil ..⟩
 ·obtain ⟨s',h',h1,h2,h3⟩:=b8H (bytes:=32) hs' oM oM oM
  rw[a3_] at h1
  refine g1 @h1 ?_
  exact WP.ret ⟨h3,h2⟩
theorem a9G {h:Heap}{s1 s2:AV}{xs:List (List AV)}(hs:Sl h 1 s1 xs)(h2:s2.one=true)(hl:xs.length<=10000000) :
  Tot tab a3L [.agg [s1,s2]] h fun r h'=>Ext h h'/\Gr h.length h'.length h' 1 r xs:=by
 refine WP.tot (fun k=>b3r k _ h) ?_
 have e:Ext h (mkObj h [s1,s2]):=Ext.push h _
 obtain ⟨s',h3,h4⟩:=(hs.ext e).cut
 rw[a3_] at h4 e
 refine g4 hs.one @h2 hs.len @h3 ?_
 refine WP.call (a8a h4 hl) ?_
 rintro r h' ⟨e1,g1⟩
 exact WP.ret ⟨e.trans e1,g1.mono (Ext.len e) (Nat.le_refl _)⟩
theorem b4Y {h:Heap}{a:AV}{N v:Int}{es:List E}{s so si:AV}{O J:List (AV × AV)}(w:AdjW h a N es s so si O J){l:AV}{L:List (AV × AV)}(hl:Sl h 2 l (L.map encP))(hL:(L.length:Int)=N)(h1:∀v,0<=v->v<N->(gi L v).1.one=true/\(gi L v).2.one=true) :
  Tot tab a4u [a,l,I v] h fun r h'=>Ext h h'/\r=if 0<=v/\v<N then .agg [(gi L v).1,(gi L v).2] else .agg [.nils,.nils]:=by
 refine WP.tot (fun k=>b4b k _ _ _ h) ?_
 refine g0 ?_
 have e:Ext h (mkObj h [.nils,.nils]):=Ext.push h _
 rw[a3_] at e
 refine WP.call (b4z (w.pt.ext e) (w.so.ext e)) ?_
 rintro _ _ ⟨rfl,rfl⟩
 have hlo:=w.lo
 by_cases hv:0<=v/\v<N
 ·rw[if_pos hv]
  obtain ⟨k1,k2⟩:=h1 v hv.1 hv.2
  refine g6 (show decide (0<=v/\v<(O.length:Int))=true from decide_eq_true oM) hl.idxG hl.ldN @encP.eq_1 @k1 @k2 ?_
  exact WP.ret ⟨eX,rfl⟩
 ·rw[if_neg hv]
  refine g1 (show decide (0<=v/\v<(O.length:Int))=false from decide_eq_false oM) ?_
  exact WP.ret ⟨eX,rfl⟩
theorem c1u {h:Heap}{a:AV}{N v:Int}{es:List E}(ok:NetOk N es)(w:AdjV h a N es) :
  Tot tab a7U [a,I v] h fun r h'=>Ext h h'/\Gr h.length h'.length h' 1 r ((outL es v).map encI):=by
 obtain ⟨s,so,si,O,J,w⟩:=w
 refine WP.tot (fun k=>b4H k _ _ h) ?_
 refine g3 w.pt.nil w.pt.fldA0 w.pt.ldfE ?_
 refine WP.call (b4Y w w.so w.lo fun v h0 h1=>⟨(w.oe v h0 h1).one,(w.oo v h0 h1).one⟩) ?_
 rintro r h1 ⟨e1,rfl⟩
 have hl:(outL es v).length<=100000:=Nat.le_trans (o0_ ..) ok.len
 by_cases hv:0<=v/\v<N
 ·rw[if_pos hv]
  refine WP.call (a9G ((w.oe v hv.1 hv.2).ext e1) (w.oo v hv.1 hv.2).one (by simp; omega)) ?_
  rintro r h' ⟨e2,g⟩
  exact WP.ret ⟨e1.trans e2,g.mono e1.len (Nat.le_refl _)⟩
 ·rw[if_neg hv,c1t ok hv]
  refine WP.call (a9G (xs:=[]) (.inl ⟨rfl,rfl⟩) rfl (by simp)) ?_
  rintro r h' ⟨e2,g⟩
  exact WP.ret ⟨e1.trans e2,g.mono e1.len (Nat.le_refl _)⟩
end Go.Gm.AQ
namespace Go.Gm.AQ
open Go Go.Gm
theorem w3_ {α:Type}[Inhabited α]{xs:List α}{i j:Int}(h0:0<=i)(h1:i<xs.length)(hj:0<=j)(x:α):gi (xs.set i.toNat x) j=if j=i then x else gi xs j:=by
 simp only[gi,List.getD_eq_getElem?_getD]
 by_cases h:j=i
 ·subst h
  rw[if_pos rfl,List.getElem?_set_self oM]; rfl
 ·rw[if_neg h,List.getElem?_set_ne oM]
theorem b5T {κ:Type}[DecidableEq κ]{W:Nat->Prop}{h:Heap}{A:κ->Prop}{S:κ->AV}{X:κ->List (List AV)}(f:Fam W h 1 A S X){t1 t2:κ}(a1:A t1)(a2:A t2)(hne:t1≠t2){q:Nat}(hq:¬W q)(hqh:q<h.length){arr:AV}{L:List (AV × AV)}(g:Gr q (q+1) h 2 arr (L.map encP)){v:Int}(v0:0<=v)(v1:v<L.length)(e1:(gi L v).1=S t1)(e2:(gi L v).2=S t2)(edge other:Int)(l1:(X t1).length<=1000000)(l2:(X t2).length<=1000000) :
  Tot tab a4t [elP 2 arr v,I edge,I other] h fun r h'=>∃s1 s2,Gr q (q+1) h' 2 arr ((L.set v.toNat (s1,s2)).map encP)/\
   Fam (fun o=>W o\/h.length<=o) h' 1 A (fun t=>if t=t2 then s2 else if t=t1 then s1 else S t) (fun t=>if t=t2 then X t2++[[I other]] else if t=t1 then X t1++[[I edge]] else X t)/\FrS (fun o=>o=q\/W o) h h':=by
 refine WP.tot (fun k=>b4a k _ _ _ h) ?_
 have b1:Sl ((h++[AObj.cells ⟨[I edge],0,0,false⟩])++[AObj.cells ⟨[I other],0,0,false⟩]) 1 (.sl h.length 0 1 1 none 0) [[I edge]]:=((Gr.lit (h:=h) (sz:=1) (v:=[I edge]) rfl).sl).ext (by rw[a3_]; exact eX)
 have b2:Sl ((h++[AObj.cells ⟨[I edge],0,0,false⟩])++[AObj.cells ⟨[I other],0,0,false⟩]) 1 (.sl (h.length+1) 0 1 1 none 0) [[I other]]:=by
  have:=(Gr.lit (h:=h++[AObj.cells ⟨[I edge],0,0,false⟩]) (sz:=1) (v:=[I other]) rfl).sl
  simpa [a3_] using this
 have ex0:Ext h (h++[AObj.cells ⟨[I edge],0,0,false⟩]):=eX
 have ex:Ext h ((h++[AObj.cells ⟨[I edge],0,0,false⟩])++[AObj.cells ⟨[I other],0,0,false⟩]):=eX
 have hl2:((h++[AObj.cells ⟨[I edge],0,0,false⟩])++[AObj.cells ⟨[I other],0,0,false⟩]).length=h.length+2:=by simp
 obtain ⟨h2,hh⟩:∃h2,h2=((h++[AObj.cells ⟨[I edge],0,0,false⟩])++[AObj.cells ⟨[I other],0,0,false⟩]):=⟨_,rfl⟩
 rw[<-hh] at b1 b2 ex hl2
 have f2:Fam (fun o=>W o/\o<h.length) h2 1 A S X:=(f.mono fun o q1 q2=>⟨q2,q1⟩).frs (D:=fun _=>False) (FrS.ofExt ex) (fun _ _ _ q=>q)
 obtain ⟨s1,h3,k1,k2,k3,k4⟩:=f2.append (bytes:=8) a1 b1 (by simp) oM oM (by simp; omega)
 have b2':Sl h3 1 (.sl (h.length+1) 0 1 1 none 0) [[I other]]:=by
  obtain ⟨o,off,lim,gg,c,q1,q2,q3⟩:=b2.resolve_left (by simp)
  injection q1 with p1 p2 p3 p4 p5 p6
  refine .inr ⟨o,off,lim,gg,c,by rw[<-p1,<-p2,<-p3,<-p5,<-p6],?_,q3⟩
  rw[k4.get oM oM]
  exact q2
 obtain ⟨s2,h4,m1,m2,m3,m4⟩:=k3.append (bytes:=8) (t:=t2) a2 b2' (by simp) oM oM (by rw[if_neg (fun q=>hne q.symm)]; simp; omega)
 simp only[if_neg (show ¬t2=t1 from fun q=>hne q.symm)] at m1 m3
 have g3:=(g.ext ex).frs k4 (fun o q1 q2 q3=>hq (by rw[show q=o by omega]; exact q3.1))
 have g4:=g3.frs m4 (fun o q1 q2 q3=>by
  rcases q3 with q3|q3
  ·exact hq (by rw[show q=o by omega]; exact q3.1)
  ·omega)
 have c1:s1.cells=[s1]:=by
  have:=(k3.sl a1).cells
  simpa using this
 have c2:s2.cells=[s2]:=by
  have:=(m3.sl a2).cells
  simpa using this
 obtain ⟨h5,n1,n2,n3,n4⟩:=g4.write (i:=v) v0 (x:=encP (gi L v)) (by simp[c1_ v0 v1]) 0 1 (v:=s1) (by rw[c1]; rfl) oM (by rw[c1]; simp[k2])
 rw[c1] at n2
 obtain ⟨h6,r1,r2,r3,r4⟩:=n2.write (i:=v) v0 (x:=setAll (encP (gi L v)) 0 [s1]) (by rw[List.getElem?_set_self (by simp; omega)]) 1 1 (v:=s2) (by rw[c2]; rfl) oM (by rw[c2]; simp[m2])
 rw[c2,List.set_set] at r2
 have g3s:=g3.sl
 rw[hh] at k1
 have ldk:ld1 h3 (fldP 1 (elP 2 arr v))=some (S t2):=by
  have:=g3s.ldf 1 (i:=v) (Ext.refl _) v0 v1 oM
  simpa [encP,e2] using this
 refine g9 g.sl.ldf @encP.eq_1 @e1 @e2 @k1 @ldk @m1 @n1 @r1 ?_
 refine WP.ret ⟨s1,s2,?_,?_,?_⟩
 ·refine r2.cong ?_
  rw[List.map_set]; rfl
 ·have f4:=(m3.frs n3.s (fun o q1 q2 q3=>?_)).frs r3.s (fun o q1 q2 q3=>?_)
  ·refine (f4.mono fun o q1 q2=>?_).congr fun t ht=>?_
   ·rcases q2 with (q2|q2)|q2
    ·exact .inl q2.1
    ·exact .inr oM
    ·have:=k4.len
     exact .inr oM
   ·by_cases x2:t=t2
    ·simp[x2]
    ·simp[x2]
  ·have:o=q:=oM
   subst this
   rcases q2 with (q2|q2)|q2
   ·exact hq q2.1
   ·omega
   ·have:=k4.len; omega
  ·have:o=q:=oM
   subst this
   rcases q2 with (q2|q2)|q2
   ·exact hq q2.1
   ·omega
   ·have:=k4.len; omega
 ·have z1:FrS (fun o=>o=q\/W o) h h2:=FrS.ofExt ex
  have z2:FrS (fun o=>o=q\/W o) h2 h3:=k4.mono fun o q1 q2=>.inr q2.1
  have z3:FrS (fun o=>o=q\/W o\/h2.length<=o) h3 h4:=m4.mono fun o q1 q2=>by
   rcases q2 with q2|q2
   ·exact .inr (.inl q2.1)
   ·exact .inr (.inr q2)
  have z4:FrS (fun o=>o=q) h4 h6:=(n3.s.mono fun o q1 q2=>oM).trans (r3.s.mono fun o q1 q2=>oM)
  refine ⟨by have:=z1.len; have:=z2.len; have:=z3.len; have:=z4.len; omega,fun o q1 q2=>?_⟩
  have l1:=z1.len
  have l2:=z2.len
  have l3:=z3.len
  rw[z4.get (fun q=>q1 (.inl q)) oM,z3.get (fun q=>?_) oM,z2.get q1 oM,z1.get q1 q2]
  rcases q with q|q|q
  ·exact q1 (.inl q)
  ·exact q1 (.inr q)
  ·omega
def Sf (O J:List (AV × AV))(t:Nat × Nat):AV:=match t with
 |(0,v)=>(gi O v).1
 |(1,v)=>(gi O v).2
 |(2,v)=>(gi J v).1
 |(_,v)=>(gi J v).2
def Xf (es:List E)(n:Nat)(t:Nat × Nat):List Int:=match t with
 |(0,v)=>idxTo (fun e=>e.fr == (v:Int)) es n
 |(1,v)=>(idxTo (fun e=>e.fr == (v:Int)) es n).map fun k=>(gi es k).to
 |(2,v)=>idxTo (fun e=>e.to == (v:Int)) es n
 |(_,v)=>(idxTo (fun e=>e.to == (v:Int)) es n).map fun k=>(gi es k).fr
theorem b3W (es:List E)(n:Nat)(t:Nat × Nat):(Xf es n t).length<=n:=by
 obtain ⟨j,v⟩:=t
 match j with
 |0=>simp only[Xf]; exact o0_ ..
 |1=>simp only[Xf,List.length_map]; exact o0_ ..
 |2=>simp only[Xf]; exact o0_ ..
 |j+3=>simp only[Xf,List.length_map]; exact o0_ ..
structure NewI (hb:Heap) (N:Nat) (es:List E) (q1 q2:Nat) (so si:AV) (n:Nat) (h:Heap) (O J:List (AV × AV)):Prop where
 fr:FrS (fun o=>o=q1\/o=q2\/hb.length<=o) hb h
 go:Gr q1 (q1+1) h 2 so (O.map encP)
 gj:Gr q2 (q2+1) h 2 si (J.map encP)
 lo:O.length=N
 lj:J.length=N
 fam:Fam (fun o=>hb.length<=o) h 1 (fun t:Nat × Nat=>t.1<4/\t.2<N) (Sf O J) fun t=>(Xf es n t).map encI
theorem c1s {hb:Heap}{N:Nat}{es:List E}{q1 q2 qa:Nat}{s s' so si:AV}(ok:NetOk N es)(hq1:q1<hb.length)(hq2:q2<hb.length)(hqa:qa<hb.length)(hne:q1≠q2)(hna1:qa≠q1)(hna2:qa≠q2)(ha:hb[qa]?=some (.cells ⟨[I N,s',so,si],0,0,false⟩)){Q:AV->Heap->Prop}(hs:∀h,FrS (fun o=>o=q1\/o=q2\/hb.length<=o) hb h->Sl h 4 s (es.map encE))(hQ:∀h O J,NewI hb N es q1 q2 so si es.length h O J->Q (.ptr qa 0 4 0) h) :
  ∀(d n:Nat) (h:Heap) (O J:List (AV × AV)),n+d=es.length->NewI hb N es q1 q2 so si n h O J->
   WP (fun p:Nat × Nat=>a5T p.1 p.2 (.ptr qa 0 4 0) s (I es.length) (I n) h) Q:=by
 intro d
 induction d with
 |zero=>
  intro n h O J h1 w
  refine WP.rnd (fun i' j=>b1E i' j (.ptr qa 0 4 0) s (I es.length) (I n) h) ?_
  refine g0 ?_
  refine WP.ret (hQ h O J ?_)
  rw[<-show n=es.length by omega]; exact w
 |succ d ih=>
  intro n h O J h1 w
  have hln:=ok.len
  refine WP.rnd (fun i' j=>b1E i' j (.ptr qa 0 4 0) s (I es.length) (I n) h) ?_
  obtain ⟨e,he⟩:∃e,gi es n=e:=⟨_,rfl⟩
  have hed:=ok.edge _ (b7_ (xs:=es) (i:=(n:Int)) oM oM)
  rw[he] at hed
  have hsl:=hs h w.fr
  have hwl:=w.fr.len
  obtain ⟨h6,hh6⟩:∃h6,h6=(h++[AObj.cells ⟨[I 0,I 0,I 0,I 0],0,0,false⟩]).set h.length (.cells ⟨encE e,0,0,false⟩):=⟨_,rfl⟩
  have ex:Ext h h6:=by rw[hh6]; exact eX
  have hr6:h6[h.length]?=some (.cells ⟨encE e,0,0,false⟩):=by rw[hh6]; simp
  have hl6:h6.length=h.length+1:=by rw[hh6]; simp
  have hp6:At h6 (.ptr qa 0 4 0) [I N,s',so,si]:=by
   exact At.row (ex.get (by rw[w.fr.get oM hqa]; exact ha)) (Nat.le_refl _) rfl
  have he6:At h6 (.ptr h.length 0 4 0) (encE e):=At.row hr6 (Nat.le_refl _) rfl
  have so6:=w.go.ext ex
  have sj6:=w.gj.ext ex
  have f6:Fam (fun o=>hb.length<=o/\o<h.length) h6 1 (fun t:Nat × Nat=>t.1<4/\t.2<N) (Sf O J) fun t=>(Xf es n t).map encI:=
   (w.fam.mono fun o q1 q2=>⟨q2,q1⟩).frs (D:=fun _=>False) (FrS.ofExt ex) (fun _ _ _ q=>q)
  have hlo:=w.lo
  have hlj:=w.lj
  have hx0:=b3W es n (0,e.fr.toNat)
  have hx1:=b3W es n (1,e.fr.toNat)
  have hx2:=b3W es n (2,e.to.toNat)
  have hx3:=b3W es n (3,e.to.toNat)
  have hfn:((e.fr.toNat:Nat):Int)=e.fr:=oM
  have htn:((e.to.toNat:Nat):Int)=e.to:=oM
  refine g4 hsl.idxG hsl.ldN @he @encE.eq_1 ?_
  simp only[encE] at hh6
  rw[<-hh6]
  refine WP.call (b4z hp6 so6.sl) ?_
  rintro _ h7 ⟨rfl,e7⟩
  obtain rfl:=e7
  simp only[encE] at hr6
  have hra:h6[qa]?=some (.cells ⟨[I N,s',so,si],0,0,false⟩):=ex.get (by rw[w.fr.get oM hqa]; exact ha)
  refine g3 (show decide (0<=e.fr/\e.fr<(O.length:Int))=true from decide_eq_true oM) @hr6 @hra ?_
  refine WP.call (b4z hp6 so6.sl) ?_
  rintro _ h7 ⟨rfl,e7⟩
  obtain rfl:=e7
  refine g4 (show decide (0<=e.to/\e.to<(O.length:Int))=true from decide_eq_true oM) @hr6 @hra so6.sl.idxG ?_
  refine WP.call (b5T f6 (t1:=(0,e.fr.toNat)) (t2:=(1,e.fr.toNat)) ⟨by simp,by simp; omega⟩ ⟨by simp,by simp; omega⟩ (by simp) oM oM so6 hed.1 oM (by simp only[Sf,hfn]) (by simp only[Sf,hfn]) n e.to (by simp; omega) (by simp; omega)) ?_
  rintro r8 h8 ⟨s1,s2,so8,f8,fr8⟩
  have hl8:=fr8.len
  have hr8:h8[h.length]?=some (.cells ⟨[I e.fr,I e.to,I e.md,I e.co],0,0,false⟩):=by rw[fr8.get oM oM]; exact hr6
  have hra8:h8[qa]?=some (.cells ⟨[I N,s',so,si],0,0,false⟩):=by rw[fr8.get oM oM]; exact hra
  have sj8:=sj6.frs fr8 (fun o q1 q2=>oM)
  refine g3 @hr8 @hra8 sj8.sl.idxG ?_
  refine WP.call (b5T f8 (t1:=(2,e.to.toNat)) (t2:=(3,e.to.toNat)) ⟨by simp,by simp; omega⟩ ⟨by simp,by simp; omega⟩ (by simp) oM oM sj8 hed.2.2.1 oM (by simp[Sf,htn]) (by simp[Sf,htn]) n e.fr (by simp; omega) (by simp; omega)) ?_
  rintro r9 h9 ⟨s3,s4,sj9,f9,fr9⟩
  have hl9:=fr9.len
  have so9:=so8.frs fr9 (fun o q1 q2=>oM)
  refine ih (n+1) h9 _ _ oM ⟨?_,so9,sj9,by simp; exact hlo,by simp; exact hlj,?_⟩
  ·have z1:=(w.fr.trans (FrS.ofExt ex)).trans (fr8.mono fun o q1 q2=>oM)
   exact z1.trans (fr9.mono fun o q1 q2=>oM)
  ·refine (f9.mono fun o q1 q2=>oM).congr fun t ht=>?_
   have hgo:∀v:Nat,v<N->gi (O.set e.fr.toNat (s1,s2)) (v:Int)=if (v:Int)=e.fr then (s1,s2) else gi O v:=fun v hv=>w3_ hed.1 oM oM _
   have hgj:∀v:Nat,v<N->gi (J.set e.to.toNat (s3,s4)) (v:Int)=if (v:Int)=e.to then (s3,s4) else gi J v:=fun v hv=>w3_ hed.2.2.1 oM oM _
   obtain ⟨j,v⟩:=t
   obtain ⟨hj,hv⟩:=ht
   simp only at hj hv
   have efr:((v:Int)=e.fr)↔v=e.fr.toNat:=oM
   have eto:((v:Int)=e.to)↔v=e.to.toNat:=oM
   have hxs:=fun p=>a5K p es n
   match j,hj with
   |0,_=>
    simp only[Sf,Xf,hgo v hv,efr,hxs,he,Prod.mk.injEq]
    by_cases hvf:v=e.fr.toNat
    ·subst hvf; simp[encI,hfn,Sf,Xf]
    ·have:¬e.fr=(v:Int):=fun q=>hvf (efr.1 q.symm)
     simp[hvf,this,Sf,Xf]
   |1,_=>
    simp only[Sf,Xf,hgo v hv,efr,hxs,he,Prod.mk.injEq]
    by_cases hvf:v=e.fr.toNat
    ·subst hvf; simp[encI,hfn,Sf,Xf,he]
    ·have:¬e.fr=(v:Int):=fun q=>hvf (efr.1 q.symm)
     simp[hvf,this,Sf,Xf]
   |2,_=>
    simp only[Sf,Xf,hgj v hv,eto,hxs,he,Prod.mk.injEq]
    by_cases hvf:v=e.to.toNat
    ·subst hvf; simp[encI,htn,Sf,Xf]
    ·have:¬e.to=(v:Int):=fun q=>hvf (eto.1 q.symm)
     simp[hvf,this,Sf,Xf]
   |3,_=>
    simp only[Sf,Xf,hgj v hv,eto,hxs,he,Prod.mk.injEq]
    by_cases hvf:v=e.to.toNat
    ·subst hvf; simp[encI,htn,Sf,Xf,he]
    ·have:¬e.to=(v:Int):=fun q=>hvf (eto.1 q.symm)
     simp[hvf,this,Sf,Xf]
theorem b4X {h:Heap}{N:Nat}{s:AV}{es:List E}(ok:NetOk N es)(hs:Sl h 4 s (es.map encE)) :
  Tot tab a7p [.agg [I N,s]] h fun r h'=>Ext h h'/\(∀H,(∀o,h.length<=o->o<h'.length->H[o]?=h'[o]?)->AdjV H r N es)/\∃o,h.length<=o/\r=.ptr o 0 4 0:=by
 have hnb:=ok.n1
 have hln:=ok.len
 refine WP.tot (fun k=>b8Z k _ h) ?_
 have e1:Ext h (h++[AObj.cells ⟨[I N,s],0,0,false⟩]):=eX
 obtain ⟨h1,hh1⟩:∃h1,h1=h++[AObj.cells ⟨[I N,s],0,0,false⟩]:=⟨_,rfl⟩
 rw[<-hh1] at e1
 have hr1:h1[h.length]?=some (.cells ⟨[I N,s],0,0,false⟩):=by rw[hh1]; simp
 have hl1:h1.length=h.length+1:=by rw[hh1]; simp
 have hmx:max (N:Int) 0=N:=oM
 obtain ⟨so,h2,k1,k2,k3,k4,k5⟩:=g0_ (zero:=[AV.nils,.nils]) (sz:=2) (bytes:=48) (n:=(N:Int)) h1 oM oM oM rfl rfl
 obtain ⟨si,h3,m1,m2,m3,m4,m5⟩:=g0_ (zero:=[AV.nils,.nils]) (sz:=2) (bytes:=48) (n:=(N:Int)) h2 oM oM oM rfl rfl
 have hr2:=k3.get hr1
 have hr3:=m3.get hr2
 have e4:Ext h3 (h3++[AObj.cells ⟨[I 0,.nils,so,si],0,0,false⟩]):=eX
 obtain ⟨h4,hh4⟩:∃h4,h4=h3++[AObj.cells ⟨[I 0,.nils,so,si],0,0,false⟩]:=⟨_,rfl⟩
 rw[<-hh4] at e4
 have hr4:=e4.get hr3
 have hl4:h4.length=h3.length+1:=by rw[hh4]; simp
 have hra:h4[h3.length]?=some (.cells ⟨[I 0,.nils,so,si],0,0,false⟩):=by rw[hh4]; simp
 refine g2 hs.one hs.cells ?_
 rw[<-hh1]
 refine g10 @hr1 @hmx @k1 @hr2 @m1 @hr3 k2.sl.one k2.sl.cells m2.sl.one m2.sl.cells ?_
 rw[show AV.int .i64 0=I 0 from rfl,<-hh4]
 refine WP.call (b7x (hs.ext ((e1.trans k3).trans (m3.trans e4))) (by simp; omega)) ?_
 rintro s' h5 ⟨e5,g5⟩
 have hr5:=e5.get hr4
 have hra5:=e5.get hra
 have hl5:=e5.len
 obtain ⟨h6,hh6⟩:∃h6,h6=h5.set h3.length (.cells ⟨[I N,s',so,si],0,0,false⟩):=⟨_,rfl⟩
 have hl6:h6.length=h5.length:=by rw[hh6]; simp
 have f6:FrS (fun o=>o=h3.length) h5 h6:=by rw[hh6]; exact ⟨by simp,fun o q1 q2=>List.getElem?_set_ne (fun q=>q1 q.symm)⟩
 have e6:Ext h h6:=f6.ext (((e1.trans k3).trans (m3.trans e4)).trans e5) (fun o q1 q2=>oM)
 have e25:Ext h2 h5:=(m3.trans e4).trans e5
 have e35:Ext h3 h5:=e4.trans e5
 have hr6:h6[h.length]?=some (.cells ⟨[I N,s],0,0,false⟩):=by rw[f6.get oM oM]; exact hr5
 have hra6:h6[h3.length]?=some (.cells ⟨[I N,s',so,si],0,0,false⟩):=by rw[hh6]; exact a0_ oM
 have hgg:Gr h4.length h6.length h6 4 s' (es.map encE):=(g5.frs f6 (fun o q1 q2=>oM)).mono (Nat.le_refl _) oM
 have go6:Gr h1.length (h1.length+1) h6 2 so (List.replicate N [AV.nils,.nils]):=(k2.ext e25).frs f6 (fun o q1 q2=>oM)
 have gi6:Gr h2.length (h2.length+1) h6 2 si (List.replicate N [AV.nils,.nils]):=(m2.ext e35).frs f6 (fun o q1 q2=>oM)
 have hrep:List.replicate N [AV.nils,.nils]=(List.replicate N (AV.nils,AV.nils)).map encP:=by rw[List.map_replicate]; rfl
 rw[hrep] at go6 gi6
 simp only[I] at hr5 hra5 hr6 hh6
 refine g4 @hr5 @hra5 g5.sl.one g5.sl.cells ?_
 rw[<-hh6]
 refine g2 @hr6 hs.lenG ?_
 have hgi:∀v,0<=v->v<(N:Int)->gi (List.replicate N (AV.nils,AV.nils)) v=(AV.nils,AV.nils):=fun v v0 v1=>by
  have:v.toNat<N:=oM
  simp[gi,List.getD_eq_getElem?_getD,List.getElem?_replicate,this]
 refine WP.ent (c1s (q1:=h1.length) (q2:=h2.length) (qa:=h3.length) (hb:=h6) (s':=s') (so:=so) (si:=si) ok oM oM oM oM oM oM hra6 (fun H f=>hs.ext (f.ext e6 (fun o q1 q2=>oM))) ?_ es.length 0 h6 _ _ oM
  ⟨FrS.refl _ _,go6,gi6,by simp,by simp,Fam.nil _ _ _ fun t ht=>?_⟩) fun i=>rfl
 ·intro H O J w
  refine ⟨w.fr.ext e6 (fun o q1 q2=>oM),fun H2 hag=>⟨s',so,si,O,J,?_,?_,(w.go.agree fun o q1 q2 q3=>hag o oM q3).sl,(w.gj.agree fun o q1 q2 q3=>hag o oM q3).sl,by have:=w.lo; omega,by have:=w.lj; omega,?_,?_,?_,?_⟩,⟨h3.length,oM,rfl⟩⟩
  ·exact At.row (by rw[hag _ oM (by have:=w.fr.len; omega),w.fr.get oM oM]; exact hra6) (Nat.le_refl _) rfl
  ·exact ((hgg.frs w.fr (fun o q1 q2=>oM)).agree fun o q1 q2 q3=>hag o oM q3).sl
  ·intro v v0 v1
   have:=w.fam.slA (t:=(0,v.toNat)) ⟨by simp,by simp; omega⟩ (fun o q1 q2=>hag o oM q2)
   simpa only[Sf,Xf,outL,inL,show ((v.toNat:Nat):Int)=v by omega] using this
  ·intro v v0 v1
   have:=w.fam.slA (t:=(1,v.toNat)) ⟨by simp,by simp; omega⟩ (fun o q1 q2=>hag o oM q2)
   simpa only[Sf,Xf,outL,inL,show ((v.toNat:Nat):Int)=v by omega] using this
  ·intro v v0 v1
   have:=w.fam.slA (t:=(2,v.toNat)) ⟨by simp,by simp; omega⟩ (fun o q1 q2=>hag o oM q2)
   simpa only[Sf,Xf,outL,inL,show ((v.toNat:Nat):Int)=v by omega] using this
  ·intro v v0 v1
   have:=w.fam.slA (t:=(3,v.toNat)) ⟨by simp,by simp; omega⟩ (fun o q1 q2=>hag o oM q2)
   simpa only[Sf,Xf,outL,inL,show ((v.toNat:Nat):Int)=v by omega] using this
 ·obtain ⟨j,v⟩:=t
  obtain ⟨hj,hv⟩:=ht
  simp only at hj hv
  have hg:=hgi v oM oM
  match j,hj with
  |0,_=>simp[Sf,Xf,hg,idxTo]
  |1,_=>simp[Sf,Xf,hg,idxTo]
  |2,_=>simp[Sf,Xf,hg,idxTo]
  |3,_=>simp[Sf,Xf,hg,idxTo]
end Go.Gm.AQ
namespace Go.Gm.AQ
open Go Go.Gm
def mkN (size:Int):Int:=1+size % 12
def mkEdge (N modes k:Int):E:=
 let fr:=k % N
 let to:=IntKind.i64.wrap (k.tdiv 13) % N
 let md:=IntKind.i64.wrap (k.tdiv 170) % 5
 ⟨fr,to,if modes % 3=0 then (fr+to) % 2 else if modes % 3=1 then IntKind.i64.wrap (md*fr) % 3 else md,
  if k % 31=0 then 2147483647-IntKind.i64.wrap (k.tdiv 31) % 3 else IntKind.i64.wrap (k.tdiv 900) % 9⟩
def mkE (size:Int)(zs:List Int)(modes:Int):List E:=(zs.take 40).map (mkEdge (mkN size) modes)
theorem u3_ (size:Int):1<=mkN size/\mkN size<=12:=by unfold mkN; omega
theorem a5H (size:Int)(zs:List Int)(modes:Int):NetOk (mkN size) (mkE size zs modes):=by
 have hN:=u3_ size
 refine ⟨oM,oM,by simp[mkE]; omega,?_⟩
 intro e he
 simp only[mkE,List.mem_map] at he
 obtain ⟨k,_,rfl⟩:=he
 simp only[mkEdge]
 have h1:=Int.emod_nonneg k (show mkN size≠0 by omega)
 have h2:=Int.emod_lt_of_pos k (show 0<mkN size by omega)
 have h3:=Int.emod_nonneg (IntKind.i64.wrap (k.tdiv 13)) (show mkN size≠0 by omega)
 have h4:=Int.emod_lt_of_pos (IntKind.i64.wrap (k.tdiv 13)) (show 0<mkN size by omega)
 refine ⟨h1,h2,h3,h4,?_⟩
 split
 ·omega
 ·split<;>omega
theorem a8w (size:Int)(zs:List Int)(modes:Int):(mkE size zs modes).length<=40:=by simp[mkE]; omega
structure MkI (h0:Heap) (N:Int) (xs:List E) (h:Heap) (s:AV) (hi:Nat):Prop where
 ext:Ext h0 h
 r6:h[h0.length]?=some (.cells ⟨[I 0,.nils],0,0,false⟩)
 r7:h[h0.length+1]?=some (.cells ⟨[I N,s],0,0,false⟩)
 gr:Gr (h0.length+2) hi h 4 s (xs.map encE)
 hin:hi<=h.length
 lon:h0.length+2<=hi
theorem b7P {h0:Heap}{N modes:Int}{ns:AV}{xs:List E}{n:Nat}{Q:AV->Heap->Prop}(hx:xs.length<=1000)(hn:n<=1000){e:E}(ih:∀h s,MkI h0 N (xs++[e]) h s h.length->WP (fun p:Nat × Nat=>k3_ p.1 p.2 ns (I modes) (.ptr h0.length 0 2 0) (.ptr (h0.length+1) 0 2 0) (I (n+1)) h) Q){h:Heap}{s:AV}{oe:Nat}(w:MkI h0 N xs h s oe)(he:h[oe]?=some (.cells ⟨encE e,0,0,false⟩)) :
  WP (fun p:Nat × Nat=>z3_ p.1 p.2 ns (I modes) (.ptr h0.length 0 2 0) (.ptr (h0.length+1) 0 2 0) (I n) (.ptr oe 0 4 0) h) Q:=by
 refine WP.congr (fun p=>a8L p.1 p.2 ns (I modes) (.ptr h0.length 0 2 0) (.ptr (h0.length+1) 0 2 0) (I n) (.ptr oe 0 4 0) h) ?_
 have hlo:=w.lon
 have hhi:=w.hin
 have hoe:oe<h.length:=(List.getElem?_eq_some_iff.1 he).1
 obtain ⟨s',h',k1,k2,k3⟩:=w.gr.append1 (bytes:=32) (v:=encE e) rfl oM oM (by simp; omega) oM oM
 have r6':h'[h0.length]?=some (.cells ⟨[I 0,.nils],0,0,false⟩):=by rw[k3.get oM oM]; exact w.r6
 have r7':h'[h0.length+1]?=some (.cells ⟨[I N,s],0,0,false⟩):=by rw[k3.get oM oM]; exact w.r7
 have hl':=k3.len
 have w7:=w.r7
 rw[a3_] at k1
 simp only[encE] at he k1
 refine g6 @w7 @he @k1 @r7' k2.sl.one k2.sl.cells ?_
 refine ih _ s' ⟨?_,?_,?_,?_,by simp,by simp; omega⟩
 ·have:=k3.ext w.ext oM
  exact eX
 ·rw[a9_ oM]; exact r6'
 ·rw[a0_ oM]
 ·refine ((k2.set oM _).mono (Nat.le_refl _) (by simp)).cong ?_
  simp[encE]
theorem c2V {h0:Heap}{N modes k:Int}{ns:AV}{xs:List E}{n:Nat}{Q:AV->Heap->Prop}(hx:xs.length<=1000)(hn:n<=1000){e:E}(ih:∀h s,MkI h0 N (xs++[{ e with co:=if k % 31=0 then 2147483647-IntKind.i64.wrap (k.tdiv 31) % 3 else e.co }]) h s h.length->WP (fun p:Nat × Nat=>k3_ p.1 p.2 ns (I modes) (.ptr h0.length 0 2 0) (.ptr (h0.length+1) 0 2 0) (I (n+1)) h) Q){h:Heap}{s:AV}{oe:Nat}(w:MkI h0 N xs h s oe)(he:h[oe]?=some (.cells ⟨encE e,0,0,false⟩)) :
  WP (fun p:Nat × Nat=>k4_ p.1 p.2 ns (I modes) (.ptr h0.length 0 2 0) (.ptr (h0.length+1) 0 2 0) (I n) (I k) (.ptr oe 0 4 0) h) Q:=by
 refine WP.congr (fun p=>a8M p.1 p.2 ns (I modes) (.ptr h0.length 0 2 0) (.ptr (h0.length+1) 0 2 0) (I n) (I k) (.ptr oe 0 4 0) h) ?_
 have hlo:=w.lon
 have hhi:=w.hin
 have hoe:oe<h.length:=(List.getElem?_eq_some_iff.1 he).1
 refine WP.call (o7_ oM (by unfold Fit; omega) h) ?_
 rintro _ h1 ⟨rfl,e1⟩
 obtain rfl:=e1
 by_cases h31:k % 31=0
 ·refine g0 ?_
  refine WP.call (o7_ oM (by unfold Fit; omega) h) ?_
  rintro _ h1 ⟨rfl,e1⟩
  obtain rfl:=e1
  simp only[encE] at he
  refine g1 @he ?_
  refine b7P hx hn ih (s:=s) ⟨?_,?_,?_,w.gr.set oM _,by simp; omega,hlo⟩ ?_
  ·have:=w.ext
   exact eX
  ·rw[a9_ oM]; exact w.r6
  ·rw[a9_ oM]; exact w.r7
  ·rw[a0_ oM]; simp[encE,h31]
 ·refine g0 ?_
  refine b7P hx hn ih (s:=s) w ?_
  rw[he]; simp[encE,h31]
theorem c2W {h0:Heap}{size modes:Int}{ns:AV}{zs:List Int}(hns:Sl h0 1 ns (zs.map encI)){Q:AV->Heap->Prop}(hQ:∀h s,MkI h0 (mkN size) (mkE size zs modes) h s h.length->∀h',Ext h0 h'->(Gr (h0.length+2) h.length h' 4 s ((mkE size zs modes).map encE))->Q (.agg [I (mkN size),s]) h') :
  ∀(d n:Nat) (h:Heap) (s:AV),n+d=(zs.take 40).length->MkI h0 (mkN size) ((zs.take n).map (mkEdge (mkN size) modes)) h s h.length->
   WP (fun p:Nat × Nat=>k3_ p.1 p.2 ns (I modes) (.ptr h0.length 0 2 0) (.ptr (h0.length+1) 0 2 0) (I n) h) Q:=by
 have hN:=u3_ size
 intro d
 induction d with
 |zero=>
  intro n h s h1 w
  refine WP.rnd (fun i' j=>a3Q i' j ns (I modes) (.ptr h0.length 0 2 0) (.ptr (h0.length+1) 0 2 0) (I n) h) ?_
  have hl0:=w.ext.len
  have hlo:=w.lon
  have r6:=w.r6
  have r7:=w.r7
  have hz:zs.take n=zs.take 40:=by
   rw[List.length_take] at h1
   by_cases hz:zs.length<=40
   ·rw[List.take_of_length_le oM,List.take_of_length_le oM]
   ·rw[show n=40 by omega]
  have hfin:WP (fun p:Nat × Nat=>some (AV.agg [I (mkN size),s],h.set h0.length (.cells ⟨[I (mkN size),s],0,0,false⟩))) Q:=by
   have w':MkI h0 (mkN size) (mkE size zs modes) h s h.length:=by
    have:=w
    rw[hz] at this; exact this
   refine WP.ret (hQ h s w' _ (w.ext.setr oM _) (w'.gr.set oM _))
  rw[List.length_take] at h1
  by_cases hn:n<zs.length
  ·refine g4 hns.lenG @r7 @r6 w.gr.sl.one ?_
   exact hfin
  ·refine g4 hns.lenG @r7 @r6 w.gr.sl.one ?_
   exact hfin
 |succ d ih=>
  intro n h s h1 w
  rw[List.length_take] at h1
  refine WP.rnd (fun i' j=>a3Q i' j ns (I modes) (.ptr h0.length 0 2 0) (.ptr (h0.length+1) 0 2 0) (I n) h) ?_
  obtain ⟨k,hk⟩:∃k,gi zs n=k:=⟨_,rfl⟩
  have hl0:=w.ext.len
  have hlo:=w.lon
  have r6:=w.r6
  have r7:=w.r7
  have ex:=w.ext
  have htk:zs.take (n+1)=zs.take n++[k]:=by
   rw[List.take_add_one,show zs[n]?=some k by
    have:=c1_ (xs:=zs) (i:=(n:Int)) oM oM
    rw[hk] at this; simpa using this]
   rfl
  refine g6 hns.lenG hns.idxG hns.ld0 @hk @encI.eq_1 @r7 ?_
  refine WP.call (o7_ oM (by unfold Fit; omega) _) ?_
  rintro _ _ ⟨rfl,rfl⟩
  refine g1 @r7 ?_
  refine WP.call (o7_ oM (by unfold Fit; omega) _) ?_
  rintro _ _ ⟨rfl,rfl⟩
  refine WP.call (o7_ oM (by unfold Fit; omega) _) ?_
  rintro _ _ ⟨rfl,rfl⟩
  refine WP.call (o7_ oM (by unfold Fit; omega) _) ?_
  rintro _ _ ⟨rfl,rfl⟩
  refine g0 ?_
  refine WP.call (o7_ oM (by unfold Fit; omega) _) ?_
  rintro _ _ ⟨rfl,rfl⟩
  have hb:∀x y z t:Int,MkI h0 (mkN size) ((zs.take n).map (mkEdge (mkN size) modes)) ((h++[AObj.cells ⟨[I 0,I 0,I 0,I 0],0,0,false⟩]).set h.length (.cells ⟨encE ⟨x,y,z,t⟩,0,0,false⟩)) s h.length:=by
   intro x y z t
   refine ⟨eX,?_,?_,(w.gr.app _).set oM _,by simp,hlo⟩
   ·rw[a9_ oM,m2_ oM]; exact r6
   ·rw[a9_ oM,m2_ oM]; exact r7
  have fin:∀(h':Heap) (e:E),MkI h0 (mkN size) ((zs.take n).map (mkEdge (mkN size) modes)) h' s h.length->h'[h.length]?=some (.cells ⟨encE e,0,0,false⟩)->
    { e with co:=if k % 31=0 then 2147483647-IntKind.i64.wrap (k.tdiv 31) % 3 else e.co }=mkEdge (mkN size) modes k->
    WP (fun p:Nat × Nat=>k4_ p.1 p.2 ns (I modes) (.ptr h0.length 0 2 0) (.ptr (h0.length+1) 0 2 0) (I n) (I k) (.ptr h.length 0 4 0) h') Q:=by
   intro h' e w' he hee
   refine c2V (n:=n) (xs:=(zs.take n).map (mkEdge (mkN size) modes)) (by simp; omega) oM (fun h'' s' w''=>?_) w' he
   rw[hee] at w''
   refine ih (n+1) h'' s' (by rw[List.length_take]; omega) ?_
   rw[htk,List.map_append]
   exact w''
  have rd:∀x:AObj,((h++[AObj.cells ⟨[I 0,I 0,I 0,I 0],0,0,false⟩]).set h.length x)[h.length]?=some x:=fun x=>a0_ (by simp)
  have q1:=Int.emod_nonneg k (show mkN size≠0 by omega)
  have q2:=Int.emod_lt_of_pos k (show 0<mkN size by omega)
  have q3:=Int.emod_nonneg (IntKind.i64.wrap (k.tdiv 13)) (show mkN size≠0 by omega)
  have q4:=Int.emod_lt_of_pos (IntKind.i64.wrap (k.tdiv 13)) (show 0<mkN size by omega)
  by_cases hm0:modes % 3=0
  ·refine g0 ?_
   refine WP.call (o7_ oM (by unfold Fit; omega) _) ?_
   rintro _ _ ⟨rfl,rfl⟩
   refine g0 ?_
   refine fin _ ⟨k % mkN size,IntKind.i64.wrap (k.tdiv 13) % mkN size,(k % mkN size+IntKind.i64.wrap (k.tdiv 13) % mkN size) % 2,IntKind.i64.wrap (k.tdiv 900) % 9⟩ ?_ ?_ ?_
   ·exact ⟨(hb _ _ _ _).ext.setr oM _,by rw[a9_ oM]; exact (hb _ _ _ _).r6,by rw[a9_ oM]; exact (hb _ _ _ _).r7,(hb _ _ _ _).gr.set oM _,by simp,hlo⟩
   ·rw[a0_ (by simp)]; rfl
   ·simp[mkEdge,hm0]
  ·refine g0 ?_
   refine WP.call (o7_ oM (by unfold Fit; omega) _) ?_
   rintro _ _ ⟨rfl,rfl⟩
   by_cases hm1:modes % 3=1
   ·refine g0 ?_
    refine WP.call (o7_ oM (by unfold Fit; omega) _) ?_
    rintro _ _ ⟨rfl,rfl⟩
    refine g0 ?_
    refine fin _ ⟨k % mkN size,IntKind.i64.wrap (k.tdiv 13) % mkN size,IntKind.i64.wrap (IntKind.i64.wrap (k.tdiv 170) % 5*(k % mkN size)) % 3,IntKind.i64.wrap (k.tdiv 900) % 9⟩ ?_ ?_ ?_
    ·exact ⟨(hb _ _ _ _).ext.setr oM _,by rw[a9_ oM]; exact (hb _ _ _ _).r6,by rw[a9_ oM]; exact (hb _ _ _ _).r7,(hb _ _ _ _).gr.set oM _,by simp,hlo⟩
    ·rw[a0_ (by simp)]; rfl
    ·simp[mkEdge,hm1]
   ·refine g0 ?_
    refine fin _ ⟨k % mkN size,IntKind.i64.wrap (k.tdiv 13) % mkN size,IntKind.i64.wrap (k.tdiv 170) % 5,IntKind.i64.wrap (k.tdiv 900) % 9⟩ ?_ ?_ ?_
    ·exact hb _ _ _ _
    ·rw[a0_ (by simp)]; rfl
    ·simp[mkEdge,hm0,hm1]
theorem a0B {h:Heap}{size modes:Int}{ns:AV}{zs:List Int}(hns:Sl h 1 ns (zs.map encI)) :
  Tot tab b3_ [I size,ns,I modes] h fun r h'=>Ext h h'/\∃s,r=.agg [I (mkN size),s]/\Gr h.length h'.length h' 4 s ((mkE size zs modes).map encE):=by
 refine WP.tot (fun k=>b0t k _ _ _ h) ?_
 have hN:=u3_ size
 refine g0 ?_
 refine WP.call (o7_ oM (by unfold Fit; omega) _) ?_
 rintro _ _ ⟨rfl,rfl⟩
 refine g0 ?_
 refine WP.ent (c2W (size:=size) (modes:=modes) hns ?_ (zs.take 40).length 0 _ .nils oM ⟨?_,?_,?_,Gr.nil ..,by simp,by simp⟩) fun i=>rfl
 ·intro h1 s w h' e g
  exact ⟨e,s,rfl,(g.mono oM (Nat.le_refl _)).low _ (Nat.le_refl _)⟩
 ·exact eX
 ·rw[a9_ oM,m2_ (by simp),r8_ oM]; simp
 ·rw[a0_ (by simp)]; rfl
end Go.Gm.AQ
