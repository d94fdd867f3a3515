/- A part of the proof (GmAZe2, GmAZe3, GmAZe4, GmAZe5). -/
import Derived.Test.YtldnkafmanalmaaGreatQueryCountsP2
set_option autoImplicit true
set_option relaxedAutoImplicit true
set_option linter.unusedVariables false
namespace Go.Gm.AZ
open Go Go.Gm
noncomputable section
variable (k j0 j1 j2 j3:Nat) (a b c d e f g i l m:AV) (h:Heap)
theorem a8P:evalFn tab (k+1) b0_ [a] h =
 ob (newVar h [.nils,.nils]) λb c=>ob (evalFn tab k a0f [a] c) λd e=>oa (extr 0 d) λf=>oa (extr 1 d) λg=>oa (extr 2 d) λi=>ob (newVar e [I 0,I 0,I 0,I 0,.nils]) λl m=>oh (stN 5 m l f) λn=>oa (binV .neq .scalar i (I 0)) λo=>cond2 o
 (
 oa (buildV [.nils,.nils] []) λp=>oh (stN 2 n b p) λq=>oa (ldN 2 q b) λr=>some (.tup [r,i],q)
 )
 (
 oa (ldN 5 n l) λs=>ob (evalFn tab k a2u [s] n) λt u=>oa (extr 0 t) λv=>oa (extr 1 t) λw=>ob (newVar u [I 0,I 0,I 0,.nils,.nils]) λx y=>oh (stN 5 y x v) λz=>oa (binV .neq .scalar w (I 0)) λaa=>cond2 aa
 (
 oa (buildV [.nils,.nils] []) λab=>oh (stN 2 z b ab) λac=>oa (ldN 2 ac b) λad=>some (.tup [ad,w],ac)
 )
 (
 oa (ldN 5 z x) λae=>ob (evalFn tab k d0_ [ae,(I 200)] z) λaf ag=>oa (extr 0 af) λai=>oa (extr 1 af) λal=>ob (newVar ag [.nils,.nils]) λam an=>oh (stN 2 an am ai) λao=>oa (binV .neq .scalar al (I 0)) λap=>cond2 ap
 (
 oa (buildV [.nils,.nils] []) λaq=>oh (stN 2 ao b aq) λar=>oa (ldN 2 ar b) λau=>some (.tup [au,al],ar)
 )
 (
 oa (ldN 2 ao am) λav=>ob (evalFn tab k d8_ [av] ao) λaw ax=>oh (stN 2 ax b aw) λay=>oa (ldN 2 ay b) λaz=>some (.tup [az,(I 0)],ay)
 )
 )
 ):=fnEq
theorem a9u:evalFn tab (k+1) b8_ [a,b] h =
 oa (binV .rem .scalar a b) λc=>oa (binV .lss .scalar c (I 0)) λd=>cond2 d
 (
 oa (binV .add .scalar c b) λe=>some (e,h)
 )
 (
 some (c,h)
 ):=fnEq
def p1_:=bk tab tbl c5_ 0 [j0] [a,b,c,d,e] h k
def x9_:=bk tab tbl c5_ 1 [j0,j1] [a,b,c,d,e,f] h k
def a1F:=bk tab tbl c5_ 2 [j0] [a,b,c,d,e] h k
def a1G:=bk tab tbl c5_ 3 [] [a,b,c,d] h k
def p2_:=bk tab tbl c5_ 4 [j0] [a,b,c,d] h k
def y0_:=bk tab tbl c5_ 5 [j0,j1] [a,b,c,d,e] h k
def p3_:=bk tab tbl c5_ 6 [j0,j1,j2] [a,b,c,d,e,f,g] h k
def a1H:=bk tab tbl c5_ 7 [j0,j1] [a,b,c,d,e] h k
theorem a8f:a1F k j0 a b c d e h =
 oa (binV .add .scalar e (I 1)) λf=>p1_ k j0 a b c d f h:=bkEq
theorem a3y:x9_ k j0 (j1+1) a b c d e f h =
 oa (fldA 0 c) λg=>oa (ld1 h g) λi=>oa (lenS i) λl=>oa (binV .lss .scalar f l) λm=>cond2 m
 (
 oa (idxS 1 d e) λn=>oa (ld1 h n) λo=>ob (buildSl 1 1 [I 0] [(0,1,(I (-1)))] h) λp q=>ob (apnd 1 8 o p q) λr s=>oa (idxS 1 d e) λt=>oh (stN 1 s t r) λu=>oa (binV .add .scalar f (I 1)) λv=>x9_ k j0 j1 a b c d e v u
 )
 (
 a1F k j0 a b c d e h
 ):=bkEq
theorem a8g:a1H k j0 j1 a b c d e h =
 oa (binV .add .scalar e (I 1)) λf=>y0_ k j0 j1 a b c d f h:=bkEq
theorem a3z:p3_ k j0 j1 (j2+1) a b c d e f g h =
 oa (fldA 0 b) λi=>oa (ld1 h i) λl=>oa (lenS l) λm=>oa (binV .lss .scalar g m) λn=>cond2 n
 (
 oa (fldA 0 b) λo=>oa (ld1 h o) λp=>oa (fldA 2 f) λq=>oa (ld1 h q) λr=>oa (idxS 5 p g) λs=>oa (idxA 5 1 s r) λt=>oa (ld1 h t) λu=>oa (fldA 0 f) λv=>oa (ld1 h v) λw=>oa (idxS 1 c w) λx=>oa (ld1 h x) λy=>oa (idxS 1 y g) λz=>oa (ld1 h z) λaa=>oa (binV .geq .scalar aa (I 0)) λab=>ob (gd ab true (some (c,h)) h) λac ad=>ob (gd ab true (pure1 ad (fldA 1 f)) ad) λae af=>ob (gd ab true (pure1 af (ld1 af ae)) af) λag ai=>ob (gd ab true (pure1 ai (idxS 1 ac ag)) ai) λal am=>ob (gd ab true (pure1 am (ld1 am al)) am) λan ao=>ob (gd ab true (some (u,ao)) ao) λap aq=>ob (gd ab true (pure1 aq (idxS 1 an ap)) aq) λar au=>ob (gd ab true (pure1 au (ld1 au ar)) au) λav aw=>ob (gd ab true (pure1 aw (binV .lss .scalar av (I 0))) aw) λax ay=>ob (gd ab true (some (ax,ay)) ay) λaz a0=>ob (gd az false (some (c,a0)) a0) λa1 a2=>ob (gd az false (pure1 a2 (fldA 1 f)) a2) λa3 a4=>ob (gd az false (pure1 a4 (ld1 a4 a3)) a4) λa5 a6=>ob (gd az false (pure1 a6 (idxS 1 a1 a5)) a6) λa7 a8=>ob (gd az false (pure1 a8 (ld1 a8 a7)) a8) λa9 ba=>ob (gd az false (some (u,ba)) ba) λbb bc=>ob (gd az false (pure1 bc (idxS 1 a9 bb)) bc) λbd be=>ob (gd az false (pure1 be (ld1 be bd)) be) λbf bg=>ob (gd az false (some (c,bg)) bg) λbi bl=>ob (gd az false (pure1 bl (fldA 0 f)) bl) λbm bn=>ob (gd az false (pure1 bn (ld1 bn bm)) bn) λbo bp=>ob (gd az false (pure1 bp (idxS 1 bi bo)) bp) λbq br=>ob (gd az false (pure1 br (ld1 br bq)) br) λbs bt=>ob (gd az false (some (g,bt)) bt) λbu bv=>ob (gd az false (pure1 bv (idxS 1 bs bu)) bv) λbw bx=>ob (gd az false (pure1 bx (ld1 bx bw)) bx) λbz b0=>ob (gd az false (pure1 b0 (fldA 3 f)) b0) λb1 b2=>ob (gd az false (pure1 b2 (ld1 b2 b1)) b2) λb3 b4=>ob (gd az false (pure1 b4 (binV .add .scalar bz b3)) b4) λb5 b6=>ob (gd az false (pure1 b6 (binV .gtr .scalar bf b5)) b6) λb7 b8=>ob (gd ab true (pure1 b8 (pickV az (.bool true) b7)) b8) λb9 ca=>oa (pickV ab b9 (.bool false)) λcb=>cond2 cb
 (
 oa (fldA 1 f) λcc=>oa (ld1 ca cc) λcd=>oa (idxS 1 c cd) λce=>oa (ld1 ca ce) λcf=>oa (fldA 0 f) λcg=>oa (ld1 ca cg) λci=>oa (idxS 1 c ci) λcl=>oa (ld1 ca cl) λcm=>oa (idxS 1 cm g) λcn=>oa (ld1 ca cn) λco=>oa (fldA 3 f) λcp=>oa (ld1 ca cp) λcq=>oa (binV .add .scalar co cq) λcr=>oa (idxS 1 cf u) λcs=>oh (stN 1 ca cs cr) λct=>oa (binV .add .scalar g (I 1)) λcu=>p3_ k j0 j1 j2 a b c (.bool true) e f cu ct
 )
 (
 oa (binV .add .scalar g (I 1)) λcv=>p3_ k j0 j1 j2 a b c d e f cv ca
 )
 )
 (
 a1H k j0 j1 a b c d e h
 ):=bkEq
theorem a3A:y0_ k j0 (j1+1) a b c d e h =
 oa (fldA 1 a) λf=>oa (ld1 h f) λg=>oa (lenS g) λi=>oa (binV .lss .scalar e i) λl=>cond2 l
 (
 oa (fldA 1 a) λm=>oa (ld1 h m) λn=>oa (idxS 4 n e) λo=>oa (ldN 4 h o) λp=>ob (newVar h [I 0,I 0,I 0,I 0]) λq r=>oh (stN 4 r q p) λs=>p3_ k j0 j1 k a b c d e q (I 0) s
 )
 (
 p2_ k j0 a b c d h
 ):=bkEq
theorem r9_:p2_ k (j0+1) a b c d h =
 cond2 d
 (
 y0_ k j0 k a b c (.bool false) (I 0) h
 )
 (
 some (c,h)
 ):=bkEq
theorem a8h:a1G k a b c d h =
 oa (idxS 1 d a) λe=>oa (ld1 h e) λf=>oa (idxS 1 f (I 0)) λg=>oh (stN 1 h g (I 0)) λi=>p2_ k k b c d (.bool true) i:=bkEq
theorem a3B:p1_ k (j0+1) a b c d e h =
 oa (fldA 0 b) λf=>oa (ld1 h f) λg=>oa (binV .lss .scalar e g) λi=>cond2 i
 (
 x9_ k j0 k a b c d e (I 0) h
 )
 (
 a1G k a b c d h
 ):=bkEq
theorem b0c:evalFn tab (k+1) c5_ [a,b,c] h =
 ob (newVar h (AV.cells a)) λd e=>ob (newVar e (AV.cells b)) λf g=>oa (fldA 0 d) λi=>oa (ld1 g i) λl=>ob (mkSl [.nils] 1 24 l l g) λm n=>p1_ k k c d f m (I 0) n:=fnEq
def a2o:=bk tab tbl a1s 0 [j0] [a,b,c,d] h k
def a4s:=bk tab tbl a1s 1 [j0,j1] [a,b,c,d,e,f] h k
theorem a7W:a4s k j0 (j1+1) a b c d e f h =
 oa (binV .lss .scalar f (I 5)) λg=>cond2 g
 (
 oa (ixA 5 1 none e f) λi=>oa (fldA 0 a) λl=>oa (ld1 h l) λm=>oa (idxS 5 m i) λn=>oa (idxA 5 1 n f) λo=>oa (ld1 h o) λp=>oa (binV .neq .scalar p i) λq=>cond2 q
 (
 some ((.bool false),h)
 )
 (
 oa (binV .add .scalar f (I 1)) λr=>a4s k j0 j1 a b c d e r h
 )
 )
 (
 oa (binV .add .scalar d (I 1)) λs=>a2o k j0 a b c s h
 ):=bkEq
theorem a7X:a2o k (j0+1) a b c d h =
 oa (binV .lss .scalar d c) λe=>cond2 e
 (
 oa (idxS 5 b d) λf=>oa (ldN 5 h f) λg=>ob (newVar h [I 0,I 0,I 0,I 0,I 0]) λi l=>oh (stN 5 l i g) λm=>oa (ldN 5 m i) λn=>a4s k j0 k a b c d n (I 0) m
 )
 (
 some ((.bool true),h)
 ):=bkEq
theorem b4F:evalFn tab (k+1) a1s [a] h =
 ob (newVar h (AV.cells a)) λb c=>oa (fldA 0 b) λd=>oa (ld1 c d) λe=>oa (lenS e) λf=>a2o k k b e f (I 0) c:=fnEq
def a0D:=bk tab tbl c2_ 0 [j0] [a,b,c,d] h k
theorem a6r:a0D k (j0+1) a b c d h =
 oa (binV .lss .scalar d c) λe=>cond2 e
 (
 oa (idxS 1 b d) λf=>oh (stN 1 h f (I (-1))) λg=>ob (evalFn tab k r3_ [a,d] g) λi l=>oa (binV .geq .scalar i (I 0)) λm=>cond2 m
 (
 oa (nilCk a) λn=>oa (fldA 3 n) λo=>oa (ld1 l o) λp=>oa (idxS 1 p i) λq=>oa (ld1 l q) λr=>oa (idxS 1 b d) λs=>oh (stN 1 l s r) λt=>oa (binV .add .scalar d (I 1)) λu=>a0D k j0 a b c u t
 )
 (
 oa (binV .add .scalar d (I 1)) λv=>a0D k j0 a b c v l
 )
 )
 (
 some (b,h)
 ):=bkEq
theorem a8O:evalFn tab (k+1) c2_ [a,b,c] h =
 ob (newVar h (AV.cells a)) λd e=>ob (newVar e (AV.cells b)) λf g=>oa (ldN 2 g d) λi=>oa (ldN 2 g f) λl=>ob (evalFn tab k x3_ [i,l] g) λm n=>oa (buildV [I 0,I 0] [(0,1,c),(1,1,(I 0))]) λo=>ob (buildSl 2 1 [I 0,I 0] [(0,2,o)] n) λp q=>ob (evalFn tab k e1_ [m,(.fn e7_ [] []),p] q) λr s=>ob (evalFn tab k i7_ [r] s) λt u=>oa (fldA 0 d) λv=>oa (ld1 u v) λw=>ob (mkSl [I 0] 1 8 w w u) λx y=>oa (lenS x) λz=>a0D k k r x z (I 0) y:=fnEq
def a0H:=bk tab tbl t9_ 0 [j0] [a,b,c,d,e] h k
def a2I:=bk tab tbl t9_ 1 [j0,j1] [a,b,c,d,e,f,g,i] h k
theorem a6s:a2I k j0 (j1+1) a b c d e f g i h =
 oa (binV .lss .scalar i g) λl=>cond2 l
 (
 oa (idxS 1 f i) λm=>oa (ld1 h m) λn=>oa (fldA 3 a) λo=>oa (ld1 h o) λp=>oa (idxS 7 p n) λq=>oa (fldA 0 q) λr=>oa (ld1 h r) λs=>oa (nilCk b) λt=>oa (fldA 8 t) λu=>oa (ld1 h u) λv=>oa (nilCk b) λw=>oa (fldA 8 w) λx=>oa (ld1 h x) λy=>oa (idxS 1 y s) λz=>oa (ld1 h z) λaa=>ob (buildSl 1 1 [I 0] [(0,1,n)] h) λab ac=>ob (apnd 1 8 aa ab ac) λad ae=>chk ((sameB (pure1 ae (ld1 ae u)) v && true)) <|oa (idxS 1 v s) λaf=>oh (stN 1 ae af ad) λag=>oa (binV .add .scalar i (I 1)) λai=>a2I k j0 j1 a b c d e f g ai ag
 )
 (
 oa (binV .add .scalar e (I 1)) λal=>a0H k j0 a b c d al h
 ):=bkEq
theorem a6t:a0H k (j0+1) a b c d e h =
 oa (binV .lss .scalar e d) λf=>cond2 f
 (
 oa (idxS 1 c e) λg=>oa (ld1 h g) λi=>oa (lenS i) λl=>a2I k j0 k a b c d e i l (I 0) h
 )
 (
 some (b,h)
 ):=bkEq
theorem b3p:evalFn tab (k+1) t9_ [a,b] h =
 ob (newVar h (AV.cells a)) λc d=>ob (newVar d (AV.cells b)) λe f=>oa (ldN 6 f c) λg=>oa (ldN 2 f e) λi=>oa (fldA 0 c) λl=>oa (fldA 0 l) λm=>oa (ld1 f m) λn=>ob (mkSl [.nils] 1 24 n n f) λo p=>oa (buildV [I 0,.nils,.nils,.nils,.nils,.nils,.nils,.nils,.nils] [(0,6,g),(6,2,i),(8,1,o)]) λq=>ob (newVar p (AV.cells q)) λr s=>oa (fldA 5 c) λt=>oa (ld1 s t) λu=>oa (lenS u) λv=>a0H k k c r u v (I 0) s:=fnEq
def a1Y:=bk tab tbl m0_ 0 [j0] [a,b,c,d] h k
def a4G:=bk tab tbl m0_ 1 [] [a,b] h k
def a1Z:=bk tab tbl m0_ 2 [j0] [a] h k
def a2a:=bk tab tbl m0_ 3 [j0] [a,b,c] h k
theorem b1g:a2a k j0 a b c h =
 oa (nilCk a) λd=>oa (fldA 0 d) λe=>oa (ld1 h e) λf=>oa (nilCk f) λg=>oa (fldA 8 g) λi=>oa (ld1 h i) λl=>oa (fldA 0 c) λm=>oa (ld1 h m) λn=>oa (idxS 1 l n) λo=>oa (ld1 h o) λp=>ob (evalFn tab k a0p [a,b,(.bool true),p] h) λq r=>a1Z k j0 a r:=bkEq
theorem b1h:a1Z k (j0+1) a h =
 oa (nilCk a) λb=>oa (fldA 1 b) λc=>oa (ld1 h c) λd=>ob (evalFn tab k a0o [d] h) λe f=>oa (extr 0 e) λg=>oa (extr 1 e) λi=>oa (extr 2 e) λl=>oa (unV .not l) λm=>cond2 m
 (
 some (a,f)
 )
 (
 oa (nilCk a) λn=>oa (fldA 2 n) λo=>oa (ld1 f o) λp=>oa (idxS 1 p g) λq=>oh (stN 1 f q i) λr=>oa (nilCk a) λs=>oa (fldA 0 s) λt=>oa (ld1 r t) λu=>ob (evalFn tab k a2c [u,g] r) λv w=>ob (newVar w [I 0,I 0,.bool false]) λx y=>oh (stN 3 y x v) λz=>oa (fldA 2 x) λaa=>oa (ld1 z aa) λab=>oa (unV .not ab) λac=>cond2 ac
 (
 oa (nilCk a) λad=>oa (fldA 0 ad) λae=>oa (ld1 z ae) λaf=>oa (nilCk af) λag=>oa (fldA 0 ag) λai=>oa (fldA 4 ai) λal=>oa (ld1 z al) λam=>oa (fldA 0 x) λan=>oa (ld1 z an) λao=>oa (idxS 1 am ao) λap=>oa (ld1 z ap) λaq=>ob (evalFn tab k a0p [a,g,(.bool false),aq] z) λar au=>a2a k j0 a g x au
 )
 (
 a2a k j0 a g x z
 )
 ):=bkEq
theorem b1i:a4G k a b h =
 oa (nilCk b) λc=>oa (fldA 1 c) λd=>oa (ld1 h d) λe=>oa (nilCk b) λf=>oa (fldA 0 f) λg=>oa (ld1 h g) λi=>oa (buildV [I 0,I 0,.bool false] [(0,1,a)]) λl=>ob (evalFn tab k a1x [i,l] h) λm n=>chk ((sameB (pure1 n (ld1 n d)) e && true)) <|ob (evalFn tab k n9_ [e,m,(I 0)] n) λo p=>a1Z k k b p:=bkEq
theorem a5S:a1Y k (j0+1) a b c d h =
 oa (binV .lss .scalar d c) λe=>cond2 e
 (
 oa (nilCk b) λf=>oa (fldA 2 f) λg=>oa (ld1 h g) λi=>oa (nilCk b) λl=>oa (fldA 3 l) λm=>oa (ld1 h m) λn=>oa (nilCk b) λo=>oa (fldA 4 o) λp=>oa (ld1 h p) λq=>oa (idxS 1 i d) λr=>oh (stN 1 h r (I (-1))) λs=>oa (idxS 1 n d) λt=>oh (stN 1 s t (I (-1))) λu=>oa (idxS 1 q d) λv=>oh (stN 1 u v (I (-1))) λw=>oa (binV .add .scalar d (I 1)) λx=>a1Y k j0 a b c x w
 )
 (
 a4G k a b h
 ):=bkEq
theorem b2P:evalFn tab (k+1) m0_ [a,b] h =
 oa (nilCk a) λc=>oa (fldA 0 c) λd=>oa (fldA 0 d) λe=>oa (fldA 0 e) λf=>oa (ld1 h f) λg=>oa (binV .mul .scalar (I 2) g) λi=>oa (nilCk a) λl=>oa (fldA 6 l) λm=>oa (fldA 0 m) λn=>oa (ld1 h n) λo=>oa (lenS o) λp=>oa (binV .mul .scalar i p) λq=>ob (mkSl [I 0] 1 8 q q h) λr s=>ob (mkSl [I 0] 1 8 q q s) λt u=>ob (mkSl [I 0] 1 8 q q u) λv w=>ob (evalFn tab k a4U [q] w) λx y=>oa (buildV [.nilp,.nilp,.nils,.nils,.nils] [(0,1,a),(1,1,x),(2,1,r),(3,1,t),(4,1,v)]) λz=>ob (newVar y (AV.cells z)) λaa ab=>oa (nilCk aa) λac=>oa (fldA 2 ac) λad=>oa (ld1 ab ad) λae=>oa (lenS ae) λaf=>a1Y k k b aa af (I 0) ab:=fnEq
def t5_:=bk tab tbl j8_ 0 [j0] [a,b,c,d,e,f] h k
theorem a4A:t5_ k (j0+1) a b c d e f h =
 oa (binV .lss .scalar f e) λg=>cond2 g
 (
 oa (idxS 1 d f) λi=>oa (ld1 h i) λl=>cond2 l
 (
 oa (buildV [I 0,I 0,.bool false] [(0,1,a),(1,1,f),(2,1,(.bool false))]) λm=>ob (callVal (evalFn tab k) c [m] h) λn o=>oa (buildV [I 0,I 0,.bool false] [(0,1,a),(1,1,f),(2,1,(.bool true))]) λp=>ob (callVal (evalFn tab k) c [p] o) λq r=>oa (binV .add .scalar f (I 1)) λs=>t5_ k j0 a b c d e s r
 )
 (
 oa (binV .add .scalar f (I 1)) λt=>t5_ k j0 a b c d e t h
 )
 )
 (
 oa (ld1 h b) λu=>some (u,h)
 ):=bkEq
theorem b1j:evalFn tab (k+1) j8_ [a,b] h =
 ob (newVar h (AV.cells a)) λc d=>ob (newVar d [I 0]) λe f=>oh (stN 1 f e (I (-1))) λg=>oa (ld1 g c) λi=>oa (nilCk i) λl=>oa (fldA 0 l) λm=>oa (ld1 g m) λn=>oa (nilCk n) λo=>oa (fldA 6 o) λp=>oa (fldA 1 p) λq=>oa (ld1 g q) λr=>oa (lenS r) λs=>t5_ k k b e (.fn a0h [] [c,e]) r s (I 0) g:=fnEq
def e9_:=bk tab tbl f3_ 0 [j0] [a,b,c,d] h k
def x0_:=bk tab tbl f3_ 1 [] [a,b,c] h k
def h4_:=bk tab tbl f3_ 2 [j0] [a,b,c,d] h k
theorem a1b:h4_ k (j0+1) a b c d h =
 oa (lenS c) λe=>oa (binV .lss .scalar d e) λf=>cond2 f
 (
 oa (idxS 1 c d) λg=>oa (ld1 h g) λi=>oa (binV .gtr .scalar i (I 0)) λl=>cond2 l
 (
 oa (fldA 1 b) λm=>oa (ld1 h m) λn=>oa (idxS 1 c d) λo=>oa (ld1 h o) λp=>oa (binV .sub .scalar p (I 1)) λq=>oa (idxS 4 n q) λr=>oa (ldN 4 h r) λs=>ob (newVar h [I 0,I 0,I 0,I 0]) λt u=>oh (stN 4 u t s) λv=>oa (fldA 0 t) λw=>oa (ld1 v w) λx=>oa (fldA 1 t) λy=>oa (ld1 v y) λz=>oa (fldA 2 t) λaa=>oa (ld1 v aa) λab=>oa (fldA 3 t) λac=>oa (ld1 v ac) λad=>oa (idxS 1 c d) λae=>oa (ld1 v ae) λaf=>oa (binV .sub .scalar af (I 1)) λag=>oa (buildV [I 0,I 0,I 0,I 0,I 0,I 0,I 0] [(0,1,x),(1,1,z),(2,1,ab),(3,1,ad),(4,1,ag)]) λai=>ob (evalFn tab k k2_ [a,ai] v) λal am=>oa (binV .add .scalar d (I 1)) λan=>h4_ k j0 a b c an am
 )
 (
 oa (binV .add .scalar d (I 1)) λao=>h4_ k j0 a b c ao h
 )
 )
 (
 some (.tup [],h)
 ):=bkEq
theorem a5D:x0_ k a b c h =
 h4_ k k a b c (I 0) h:=bkEq
theorem a1c:e9_ k (j0+1) a b c d h =
 oa (fldA 1 b) λe=>oa (ld1 h e) λf=>oa (lenS f) λg=>oa (binV .lss .scalar d g) λi=>cond2 i
 (
 oa (fldA 1 b) λl=>oa (ld1 h l) λm=>oa (idxS 4 m d) λn=>oa (ldN 4 h n) λo=>ob (newVar h [I 0,I 0,I 0,I 0]) λp q=>oh (stN 4 q p o) λr=>oa (fldA 0 p) λs=>oa (ld1 r s) λt=>oa (fldA 1 p) λu=>oa (ld1 r u) λv=>oa (fldA 2 p) λw=>oa (ld1 r w) λx=>ob (evalFn tab k f2_ [a,t,v,x] r) λy z=>oa (idxS 1 c y) λaa=>oa (ld1 z aa) λab=>oa (binV .eql .scalar ab (I 0)) λac=>ob (gd ac false (pure1 z (fldA 1 b)) z) λad ae=>ob (gd ac false (pure1 ae (ld1 ae ad)) ae) λaf ag=>ob (gd ac false (some (c,ag)) ag) λai al=>ob (gd ac false (some (y,al)) al) λam an=>ob (gd ac false (pure1 an (idxS 1 ai am)) an) λao ap=>ob (gd ac false (pure1 ap (ld1 ap ao)) ap) λaq ar=>ob (gd ac false (pure1 ar (binV .sub .scalar aq (I 1))) ar) λau av=>ob (gd ac false (pure1 av (idxS 4 af au)) av) λaw ax=>ob (gd ac false (pure1 ax (fldA 3 aw)) ax) λay az=>ob (gd ac false (pure1 az (ld1 az ay)) az) λa0 a1=>ob (gd ac false (pure1 a1 (fldA 3 p)) a1) λa2 a3=>ob (gd ac false (pure1 a3 (ld1 a3 a2)) a3) λa4 a5=>ob (gd ac false (pure1 a5 (binV .gtr .scalar a0 a4)) a5) λa6 a7=>oa (pickV ac (.bool true) a6) λa8=>cond2 a8
 (
 oa (binV .add .scalar d (I 1)) λa9=>oa (idxS 1 c y) λba=>oh (stN 1 a7 ba a9) λbb=>oa (binV .add .scalar d (I 1)) λbc=>e9_ k j0 a b c bc bb
 )
 (
 oa (binV .add .scalar d (I 1)) λbd=>e9_ k j0 a b c bd a7
 )
 )
 (
 x0_ k a b c h
 ):=bkEq
theorem a6J:evalFn tab (k+1) f3_ [a] h =
 oa (nilCk a) λb=>oa (fldA 0 b) λc=>oa (fldA 0 c) λd=>oa (ldN 2 h d) λe=>ob (newVar h [I 0,.nils]) λf g=>oh (stN 2 g f e) λi=>oa (fldA 0 f) λl=>oa (ld1 i l) λm=>oa (fldA 0 f) λn=>oa (ld1 i n) λo=>oa (binV .mul .scalar m o) λp=>oa (binV .mul .scalar p (I 5)) λq=>ob (mkSl [I 0] 1 8 q q i) λr s=>e9_ k k a f r (I 0) s:=fnEq
def v4_:=bk tab tbl j4_ 0 [j0] [a,b,c,d,e] h k
def i4_:=bk tab tbl j4_ 1 [j0,j1] [a,b,c,d,e,f] h k
def a1k:=bk tab tbl j4_ 2 [j0] [a,b,c,d,e] h k
theorem a7J:a1k k j0 a b c d e h =
 oa (binV .add .scalar e (I 1)) λf=>v4_ k j0 a b c d f h:=bkEq
theorem a2S:i4_ k j0 (j1+1) a b c d e f h =
 oa (fldA 0 a) λg=>oa (ld1 h g) λi=>oa (binV .lss .scalar f i) λl=>cond2 l
 (
 oa (idxS 1 c f) λm=>oa (ld1 h m) λn=>oa (unV .not n) λo=>ob (gd o true (some (b,h)) h) λp q=>ob (gd o true (some (f,q)) q) λr s=>ob (gd o true (evalFn tab k w1_ [p,r] s) s) λt u=>ob (gd o true (pure1 u (lenS t)) u) λv w=>ob (gd o true (some (b,w)) w) λx y=>ob (gd o true (some (f,y)) y) λz aa=>ob (gd o true (evalFn tab k y6_ [x,z] aa) aa) λab ac=>ob (gd o true (pure1 ac (lenS ab)) ac) λad ae=>ob (gd o true (pure1 ae (binV .add .scalar v ad)) ae) λaf ag=>ob (gd o true (some (e,ag)) ag) λai al=>ob (gd o true (pure1 al (binV .eql .scalar af ai)) al) λam an=>oa (pickV o am (.bool false)) λao=>cond2 ao
 (
 ob (buildSl 1 1 [I 0] [(0,1,f)] an) λap aq=>ob (apnd 1 8 d ap aq) λar au=>oa (binV .add .scalar f (I 1)) λav=>i4_ k j0 j1 a b c ar e av au
 )
 (
 oa (binV .add .scalar f (I 1)) λaw=>i4_ k j0 j1 a b c d e aw an
 )
 )
 (
 a1k k j0 a b c d e h
 ):=bkEq
theorem a2T:v4_ k (j0+1) a b c d e h =
 oa (fldA 1 a) λf=>oa (ld1 h f) λg=>oa (lenS g) λi=>oa (binV .mul .scalar (I 2) i) λl=>oa (binV .leq .scalar e l) λm=>cond2 m
 (
 i4_ k j0 k a b c d e (I 0) h
 )
 (
 some (d,h)
 ):=bkEq
theorem a9z:evalFn tab (k+1) j4_ [a] h =
 ob (newVar h (AV.cells a)) λb c=>oa (ldN 2 c b) λd=>oa (ldN 2 c b) λe=>ob (evalFn tab k a0R [d] c) λf g=>chk ((sameB (pure1 g (ldN 2 g b)) e && true)) <|ob (evalFn tab k g4_ [e] g) λi l=>v4_ k k b f i .nils (I 0) l:=fnEq
def q3_:=bk tab tbl e6_ 0 [j0] [a,b,c,d] h k
def f8_:=bk tab tbl e6_ 1 [j0,j1] [a,b,c,d,e] h k
def a0l:=bk tab tbl e6_ 2 [j0] [a,b,c,d] h k
theorem a6i:a0l k j0 a b c d h =
 oa (binV .add .scalar d (I 1)) λe=>q3_ k j0 a b c e h:=bkEq
theorem a1S:f8_ k j0 (j1+1) a b c d e h =
 oa (binV .lss .scalar e (I 5)) λf=>cond2 f
 (
 oa (nilCk a) λg=>oa (fldA 6 g) λi=>oa (ld1 h i) λl=>ob (evalFn tab k f2_ [a,b,d,e] h) λm n=>chk ((sameB (pure1 n (ld1 n i)) l && true)) <|oa (idxS 1 l m) λo=>oa (ld1 n o) λp=>oa (binV .gtr .scalar p (I 0)) λq=>ob (gd q true (some (a,n)) n) λr s=>ob (gd q true (pure1 s (nilCk r)) s) λt u=>ob (gd q true (pure1 u (fldA 7 t)) u) λv w=>ob (gd q true (pure1 w (ld1 w v)) w) λx y=>ob (gd q true (some (d,y)) y) λz aa=>ob (gd q true (pure1 aa (idxS 1 x z)) aa) λab ac=>ob (gd q true (pure1 ac (ld1 ac ab)) ac) λad ae=>ob (gd q true (pure1 ae (unV .not ad)) ae) λaf ag=>oa (pickV q af (.bool false)) λai=>cond2 ai
 (
 oa (binV .sub .scalar p (I 1)) λal=>ob (buildSl 1 1 [I 0] [(0,1,al)] ag) λam an=>ob (apnd 1 8 c am an) λao ap=>oa (binV .add .scalar e (I 1)) λaq=>f8_ k j0 j1 a b ao d aq ap
 )
 (
 oa (binV .add .scalar e (I 1)) λar=>f8_ k j0 j1 a b c d ar ag
 )
 )
 (
 a0l k j0 a b c d h
 ):=bkEq
theorem a1T:q3_ k (j0+1) a b c d h =
 oa (nilCk a) λe=>oa (fldA 0 e) λf=>oa (fldA 0 f) λg=>oa (fldA 0 g) λi=>oa (ld1 h i) λl=>oa (binV .lss .scalar d l) λm=>cond2 m
 (
 f8_ k j0 k a b c d (I 0) h
 )
 (
 some (c,h)
 ):=bkEq
theorem a7K:evalFn tab (k+1) e6_ [a,b] h =
 q3_ k k a b .nils (I 0) h:=fnEq
def s6_:=bk tab tbl h8_ 0 [j0] [a,b,c,d] h k
def e5_:=bk tab tbl h8_ 1 [j0,j1] [a,b,c,d,e] h k
def s7_:=bk tab tbl h8_ 2 [j0] [a,b,c,d] h k
theorem a6K:s7_ k j0 a b c d h =
 oa (binV .add .scalar d (I 1)) λe=>s6_ k j0 a b c e h:=bkEq
theorem x1_:e5_ k j0 (j1+1) a b c d e h =
 oa (binV .lss .scalar e (I 5)) λf=>ob (gd f true (some (d,h)) h) λg i=>ob (gd f true (some (b,i)) i) λl m=>ob (gd f true (pure1 m (binV .neq .scalar g l)) m) λn o=>oa (pickV f n (.bool false)) λp=>cond2 p
 (
 oa (nilCk a) λq=>oa (fldA 6 q) λr=>oa (ld1 o r) λs=>ob (evalFn tab k f2_ [a,d,b,e] o) λt u=>chk ((sameB (pure1 u (ld1 u r)) s && true)) <|oa (idxS 1 s t) λv=>oa (ld1 u v) λw=>oa (binV .gtr .scalar w (I 0)) λx=>ob (gd x true (some (a,u)) u) λy z=>ob (gd x true (pure1 z (nilCk y)) z) λaa ab=>ob (gd x true (pure1 ab (fldA 7 aa)) ab) λac ad=>ob (gd x true (pure1 ad (ld1 ad ac)) ad) λae af=>ob (gd x true (some (d,af)) af) λag ai=>ob (gd x true (pure1 ai (idxS 1 ae ag)) ai) λal am=>ob (gd x true (pure1 am (ld1 am al)) am) λan ao=>ob (gd x true (pure1 ao (unV .not an)) ao) λap aq=>oa (pickV x ap (.bool false)) λar=>cond2 ar
 (
 oa (binV .sub .scalar w (I 1)) λau=>ob (buildSl 1 1 [I 0] [(0,1,au)] aq) λav aw=>ob (apnd 1 8 c av aw) λax ay=>oa (binV .add .scalar e (I 1)) λaz=>e5_ k j0 j1 a b ax d az ay
 )
 (
 oa (binV .add .scalar e (I 1)) λa0=>e5_ k j0 j1 a b c d a0 aq
 )
 )
 (
 s7_ k j0 a b c d o
 ):=bkEq
theorem a2q:s6_ k (j0+1) a b c d h =
 oa (nilCk a) λe=>oa (fldA 0 e) λf=>oa (fldA 0 f) λg=>oa (fldA 0 g) λi=>oa (ld1 h i) λl=>oa (binV .lss .scalar d l) λm=>cond2 m
 (
 e5_ k j0 k a b c d (I 0) h
 )
 (
 some (c,h)
 ):=bkEq
theorem a8m:evalFn tab (k+1) h8_ [a,b] h =
 s6_ k k a b .nils (I 0) h:=fnEq
end
end Go.Gm.AZ
namespace Go.Gm.AZ
open Go Go.Gm
noncomputable section
variable (k j0 j1 j2 j3:Nat) (a b c d e f g i l m:AV) (h:Heap)
theorem a6L:evalFn tab (k+1) z0_ [a,b,c] h =
 oa (nilCk a) λd=>oa (fldA 0 d) λe=>oa (fldA 3 e) λf=>oa (ld1 h f) λg=>oa (idxS 7 g b) λi=>oa (ldN 7 h i) λl=>oa (nilCk a) λm=>oa (fldA 0 m) λn=>oa (fldA 3 n) λo=>oa (ld1 h o) λp=>oa (idxS 7 p c) λq=>oa (ldN 7 h q) λr=>ob (newVar h [I 0,I 0,I 0,I 0,I 0,I 0,I 0]) λs t=>ob (newVar t [I 0,I 0,I 0,I 0,I 0,I 0,I 0]) λu v=>oh (stN 7 v s l) λw=>chk ((sameB (pure1 w (ld1 w o)) p && (sameB (pure1 w (ldN 7 w q)) r && true))) <|oh (stN 7 w u r) λx=>oa (fldA 2 s) λy=>oa (ld1 x y) λz=>oa (fldA 2 u) λaa=>oa (ld1 x aa) λab=>oa (binV .neq .scalar z ab) λac=>ob (gd ac false (pure1 x (fldA 1 u)) x) λad ae=>ob (gd ac false (pure1 ae (ld1 ae ad)) ae) λaf ag=>ob (gd ac false (pure1 ag (fldA 1 s)) ag) λai al=>ob (gd ac false (pure1 al (ld1 al ai)) al) λam an=>ob (gd ac false (pure1 an (binV .eql .scalar af am)) an) λao ap=>oa (pickV ac (.bool true) ao) λaq=>cond2 aq
 (
 some (.tup [],ap)
 )
 (
 oa (nilCk a) λar=>oa (fldA 6 ar) λau=>oa (ld1 ap au) λav=>oa (fldA 0 s) λaw=>oa (ld1 ap aw) λax=>oa (fldA 1 u) λay=>oa (ld1 ap ay) λaz=>oa (fldA 2 s) λa0=>oa (ld1 ap a0) λa2=>ob (evalFn tab k f2_ [a,ax,az,a2] ap) λa3 a4=>chk ((sameB (pure1 a4 (ld1 a4 au)) av && true)) <|oa (idxS 1 av a3) λa5=>oa (ld1 a4 a5) λa6=>oa (binV .eql .scalar a6 (I 0)) λa7=>ob (gd a7 false (some (a,a4)) a4) λa8 a9=>ob (gd a7 false (pure1 a9 (nilCk a8)) a9) λba bb=>ob (gd a7 false (pure1 bb (fldA 0 ba)) bb) λbc bd=>ob (gd a7 false (pure1 bd (fldA 3 bc)) bd) λbe bf=>ob (gd a7 false (pure1 bf (ld1 bf be)) bf) λbg bi=>ob (gd a7 false (some (a6,bi)) bi) λbl bm=>ob (gd a7 false (pure1 bm (binV .sub .scalar bl (I 1))) bm) λbn bo=>ob (gd a7 false (pure1 bo (idxS 7 bg bn)) bo) λbp bq=>ob (gd a7 false (pure1 bq (fldA 3 bp)) bq) λbr bs=>ob (gd a7 false (pure1 bs (ld1 bs br)) bs) λbt bu=>ob (gd a7 false (pure1 bu (fldA 3 s)) bu) λbv bw=>ob (gd a7 false (pure1 bw (ld1 bw bv)) bw) λbx bz=>ob (gd a7 false (pure1 bz (fldA 3 u)) bz) λb0 b1=>ob (gd a7 false (pure1 b1 (ld1 b1 b0)) b1) λb3 b4=>ob (gd a7 false (pure1 b4 (binV .add .scalar bx b3)) b4) λb5 b6=>ob (gd a7 false (pure1 b6 (binV .gtr .scalar bt b5)) b6) λb7 b8=>oa (pickV a7 (.bool true) b7) λb9=>cond2 b9
 (
 oa (fldA 0 s) λca=>oa (ld1 b8 ca) λcb=>oa (fldA 1 u) λcc=>oa (ld1 b8 cc) λcd=>oa (fldA 2 s) λce=>oa (ld1 b8 ce) λcf=>oa (fldA 3 s) λcg=>oa (ld1 b8 cg) λci=>oa (fldA 3 u) λcl=>oa (ld1 b8 cl) λcm=>oa (binV .add .scalar ci cm) λcn=>oa (buildV [I 0,I 0,I 0,I 0,I 0,I 0,I 0] [(0,1,cb),(1,1,cd),(2,1,cf),(3,1,cn),(4,1,(I (-1))),(5,1,b),(6,1,c)]) λco=>ob (evalFn tab k k2_ [a,co] b8) λcp cq=>some (.tup [],cq)
 )
 (
 some (.tup [],b8)
 )
 ):=fnEq
theorem b3m:evalFn tab (k+1) o5_ [a,b,c,d] h =
 ob (newVar h (AV.cells a)) λe f=>ob (newVar f (AV.cells b)) λg i=>ob (newVar i [I 0,.nils]) λl m=>oa (ldN 2 m e) λn=>oa (ldN 2 m g) λo=>ob (evalFn tab k x3_ [n,o] m) λp q=>oa (buildV [I 0,I 0] [(0,1,c),(1,1,(I 0))]) λr=>ob (buildSl 2 1 [I 0,I 0] [(0,2,r)] q) λs t=>ob (evalFn tab k e1_ [p,(.fn e7_ [] []),s] t) λu v=>ob (evalFn tab k i7_ [u] v) λw x=>ob (evalFn tab k r3_ [u,d] x) λy z=>oa (binV .lss .scalar y (I 0)) λaa=>cond2 aa
 (
 oa (buildV [I 0,.nils] []) λab=>oh (stN 2 z l ab) λac=>oa (ldN 2 ac l) λad=>some (.tup [ad,(.bool false)],ac)
 )
 (
 oa (nilCk u) λae=>oa (fldA 3 ae) λaf=>oa (ld1 z af) λag=>oa (idxS 1 ag y) λai=>oa (ld1 z ai) λal=>ob (evalFn tab k p8_ [u,y] z) λam an=>chk ((sameB (pure1 an (ld1 an af)) ag && (sameB (pure1 an (ld1 an ai)) al && true))) <|oa (buildV [I 0,.nils] [(0,1,al),(1,1,am)]) λao=>oh (stN 2 an l ao) λap=>oa (ldN 2 ap l) λaq=>some (.tup [aq,(.bool true)],ap)
 ):=fnEq
def z9_:=bk tab tbl u0_ 0 [j0] [a,b,c] h k
theorem a4b:z9_ k (j0+1) a b c h =
 oa (binV .lss .scalar b c) λd=>cond2 d
 (
 oa (idxS 1 a c) λe=>oa (ld1 h e) λf=>oa (idxS 1 a b) λg=>oa (ld1 h g) λi=>oa (idxS 1 a b) λl=>oh (stN 1 h l f) λm=>oa (idxS 1 a c) λn=>oh (stN 1 m n i) λo=>oa (binV .add .scalar b (I 1)) λp=>oa (binV .sub .scalar c (I 1)) λq=>z9_ k j0 a p q o
 )
 (
 some (.tup [],h)
 ):=bkEq
theorem b0C:evalFn tab (k+1) u0_ [a] h =
 oa (lenS a) λb=>oa (binV .sub .scalar b (I 1)) λc=>z9_ k k a (I 0) c h:=fnEq
def a2p:=bk tab tbl a3c 0 [j0] [a,b,c] h k
def b0D:=bk tab tbl a3c 1 [] [a] h k
theorem b2Q:b0D k a h =
 ob (evalFn tab k r5_ [a] h) λb c=>some (b,c):=bkEq
theorem b2R:a2p k (j0+1) a b c h =
 oa (lenS c) λd=>oa (binV .gtr .scalar d (I 0)) λe=>cond2 e
 (
 oa (lenS c) λf=>oa (binV .sub .scalar f (I 1)) λg=>oa (idxS 1 c g) λi=>oa (ld1 h i) λl=>oa (lenS c) λm=>oa (binV .sub .scalar m (I 1)) λn=>oa (slSl 1 c none (some n) none) λo=>oa (binV .lss .scalar l (I 0)) λp=>ob (gd p false (some (l,h)) h) λq r=>ob (gd p false (pure1 r (fldA 3 a)) r) λs t=>ob (gd p false (pure1 t (ld1 t s)) t) λu v=>ob (gd p false (pure1 v (lenS u)) v) λw x=>ob (gd p false (pure1 x (binV .geq .scalar q w)) x) λy z=>oa (pickV p (.bool true) y) λaa=>cond2 aa
 (
 some (.nils,z)
 )
 (
 oa (fldA 3 a) λab=>oa (ld1 z ab) λac=>oa (idxS 7 ac l) λad=>oa (ldN 7 z ad) λae=>ob (newVar z [I 0,I 0,I 0,I 0,I 0,I 0,I 0]) λaf ag=>oh (stN 7 ag af ae) λai=>oa (fldA 4 af) λal=>oa (ld1 ai al) λam=>oa (binV .geq .scalar am (I 0)) λan=>cond2 an
 (
 oa (fldA 4 af) λao=>oa (ld1 ai ao) λap=>ob (buildSl 1 1 [I 0] [(0,1,ap)] ai) λaq ar=>ob (apnd 1 8 b aq ar) λau av=>a2p k j0 a au o av
 )
 (
 oa (fldA 5 af) λaw=>oa (ld1 ai aw) λax=>oa (binV .lss .scalar ax l) λay=>ob (gd ay true (pure1 ai (fldA 6 af)) ai) λaz a0=>ob (gd ay true (pure1 a0 (ld1 a0 az)) a0) λa1 a2=>ob (gd ay true (some (l,a2)) a2) λa3 a4=>ob (gd ay true (pure1 a4 (binV .lss .scalar a1 a3)) a4) λa5 a6=>oa (pickV ay a5 (.bool false)) λa7=>ob (gd a7 true (some (b,a6)) a6) λa8 a9=>ob (gd a7 true (pure1 a9 (lenS a8)) a9) λba bb=>ob (gd a7 true (some (o,bb)) bb) λbc bd=>ob (gd a7 true (pure1 bd (lenS bc)) bd) λbe bf=>ob (gd a7 true (pure1 bf (binV .add .scalar ba be)) bf) λbg bi=>ob (gd a7 true (pure1 bi (binV .lss .scalar bg (I 2000))) bi) λbl bm=>oa (pickV a7 bl (.bool false)) λbn=>cond2 bn
 (
 oa (fldA 6 af) λbo=>oa (ld1 bm bo) λbp=>oa (fldA 5 af) λbq=>oa (ld1 bm bq) λbr=>ob (buildSl 1 2 [I 0,I 0] [(0,1,bp),(1,1,br)] bm) λbs bt=>ob (apnd 1 8 o bs bt) λbu bv=>a2p k j0 a b bu bv
 )
 (
 some (.nils,bm)
 )
 )
 )
 )
 (
 b0D k b h
 ):=bkEq
theorem b4G:evalFn tab (k+1) a3c [a,b] h =
 ob (newVar h (AV.cells a)) λc d=>ob (buildSl 1 1 [I 0] [(0,1,b)] d) λe f=>a2p k k c .nils e f:=fnEq
theorem b1I:evalFn tab (k+1) r5_ [a] h =
 oa (binV .eql .slice a .nils) λb=>cond2 b
 (
 some (.nils,h)
 )
 (
 ob (buildSl 1 0 [] [] h) λc d=>ob (apnd 1 8 c a d) λe f=>some (e,f)
 ):=fnEq
def r1_:=bk tab tbl t8_ 0 [j0] [a,b,c,d,e,f,g] h k
def a5r:=bk tab tbl t8_ 1 [] [a,b,c,d] h k
theorem a8Y:a5r k a b c d h =
 oa (binV .neq .scalar a b) λe=>cond2 e
 (
 some (.tup [(I 0),.nils,(.bool false)],h)
 )
 (
 some (.tup [c,d,(.bool true)],h)
 ):=bkEq
theorem a4a:r1_ k (j0+1) a b c d e f g h =
 oa (lenS c) λi=>oa (binV .lss .scalar g i) λl=>cond2 l
 (
 oa (idxS 1 c g) λm=>oa (ld1 h m) λn=>oa (binV .lss .scalar n (I 0)) λo=>ob (gd o false (some (c,h)) h) λp q=>ob (gd o false (some (g,q)) q) λr s=>ob (gd o false (pure1 s (idxS 1 p r)) s) λt u=>ob (gd o false (pure1 u (ld1 u t)) u) λv w=>ob (gd o false (pure1 w (fldA 1 d)) w) λx y=>ob (gd o false (pure1 y (ld1 y x)) y) λz aa=>ob (gd o false (pure1 aa (lenS z)) aa) λab ac=>ob (gd o false (pure1 ac (binV .geq .scalar v ab)) ac) λad ae=>oa (pickV o (.bool true) ad) λaf=>ob (gd af false (pure1 ae (fldA 1 d)) ae) λag ai=>ob (gd af false (pure1 ai (ld1 ai ag)) ai) λal am=>ob (gd af false (some (c,am)) am) λan ao=>ob (gd af false (some (g,ao)) ao) λap aq=>ob (gd af false (pure1 aq (idxS 1 an ap)) aq) λar au=>ob (gd af false (pure1 au (ld1 au ar)) au) λav aw=>ob (gd af false (pure1 aw (idxS 4 al av)) aw) λax ay=>ob (gd af false (pure1 ay (fldA 0 ax)) ay) λaz a0=>ob (gd af false (pure1 a0 (ld1 a0 az)) a0) λa1 a2=>ob (gd af false (some (a,a2)) a2) λa3 a4=>ob (gd af false (pure1 a4 (binV .neq .scalar a1 a3)) a4) λa5 a6=>oa (pickV af (.bool true) a5) λa7=>cond2 a7
 (
 some (.tup [(I 0),.nils,(.bool false)],a6)
 )
 (
 oa (fldA 1 d) λa8=>oa (ld1 a6 a8) λa9=>oa (idxS 1 c g) λba=>oa (ld1 a6 ba) λbb=>oa (idxS 4 a9 bb) λbc=>oa (ldN 4 a6 bc) λbd=>ob (newVar a6 [I 0,I 0,I 0,I 0]) λbe bf=>oh (stN 4 bf be bd) λbg=>oa (fldA 1 be) λbi=>oa (ld1 bg bi) λbl=>oa (fldA 3 be) λbm=>oa (ld1 bg bm) λbn=>oa (binV .add .scalar e bn) λbo=>oa (fldA 2 be) λbp=>oa (ld1 bg bp) λbq=>ob (buildSl 1 1 [I 0] [(0,1,bq)] bg) λbr bs=>ob (apnd 1 8 f br bs) λbt bu=>oa (binV .add .scalar g (I 1)) λbv=>r1_ k j0 bl b c d bo bt bv bu
 )
 )
 (
 a5r k a b e f h
 ):=bkEq
theorem b0B:evalFn tab (k+1) t8_ [a,b,c,d] h =
 ob (newVar h (AV.cells a)) λe f=>oa (binV .lss .scalar b (I 0)) λg=>ob (gd g false (some (b,f)) f) λi l=>ob (gd g false (pure1 l (fldA 0 e)) l) λm n=>ob (gd g false (pure1 n (ld1 n m)) n) λo p=>ob (gd g false (pure1 p (binV .geq .scalar i o)) p) λq r=>oa (pickV g (.bool true) q) λs=>ob (gd s false (some (c,r)) r) λt u=>ob (gd s false (pure1 u (binV .lss .scalar t (I 0))) u) λv w=>oa (pickV s (.bool true) v) λx=>ob (gd x false (some (c,w)) w) λy z=>ob (gd x false (pure1 z (fldA 0 e)) z) λaa ab=>ob (gd x false (pure1 ab (ld1 ab aa)) ab) λac ad=>ob (gd x false (pure1 ad (binV .geq .scalar y ac)) ad) λae af=>oa (pickV x (.bool true) ae) λag=>cond2 ag
 (
 some (.tup [(I 0),.nils,(.bool false)],af)
 )
 (
 r1_ k k b c d e (I 0) .nils (I 0) af
 ):=fnEq
theorem b1f:evalFn tab (k+1) a3j [a,b] h =
 ob (newVar h (AV.cells a)) λc d=>oa (ldN 2 d c) λe=>ob (evalFn tab k a1w [e,(I 0),b] d) λf g=>oa (binV .geq .scalar f (I 0)) λi=>ob (gd i true (pure1 g (fldA 1 c)) g) λl m=>ob (gd i true (pure1 m (ld1 m l)) m) λn o=>ob (gd i true (some (f,o)) o) λp q=>ob (gd i true (pure1 q (idxS 1 n p)) q) λr s=>ob (gd i true (pure1 s (ld1 s r)) s) λt u=>oa (pickV i t (.bool false)) λv=>some (v,u):=fnEq
end
end Go.Gm.AZ
namespace Go.Gm.AZ
open Go Go.Gm
noncomputable section
variable (k j0 j1 j2 j3:Nat) (a b c d e f g i l m:AV) (h:Heap)
def a1I:=bk tab tbl a0f 0 [] [a,b,c] h k
theorem a8j:a1I k a b c h =
 oa (nilCk b) λd=>oa (fldA 3 d) λe=>oa (ld1 h e) λf=>oa (binV .neq .scalar f (I 0)) λg=>cond2 g
 (
 oa (buildV [I 0,I 0,I 0,I 0,.nils] []) λi=>oa (nilCk b) λl=>oa (fldA 1 l) λm=>oa (ld1 h m) λn=>oa (nilCk b) λo=>oa (fldA 3 o) λp=>oa (ld1 h p) λq=>oh (stN 5 h a i) λr=>chk ((sameB (pure1 r (ld1 r m)) n && (sameB (pure1 r (ld1 r p)) q && true))) <|oa (ldN 5 r a) λs=>some (.tup [s,n,q],r)
 )
 (
 oa (ldN 5 h c) λt=>oh (stN 5 h a t) λu=>oa (ldN 5 u a) λv=>some (.tup [v,(I 0),(I 0)],u)
 ):=bkEq
theorem b0d:evalFn tab (k+1) a0f [a] h =
 ob (newVar h [I 0,I 0,I 0,I 0,.nils]) λb c=>oa (lenB a) λd=>oa (binV .gtr .scalar d (I 200)) λe=>cond2 e
 (
 oa (buildV [I 0,I 0,I 0,I 0,.nils] []) λf=>oh (stN 5 c b f) λg=>oa (ldN 5 g b) λi=>some (.tup [i,(I 0),(I 4)],g)
 )
 (
 oa (buildV [.str ⟨#[]⟩,I 0,I 0,I 0] [(0,1,a)]) λl=>ob (newVar c (AV.cells l)) λm n=>ob (evalFn tab k f0_ [m] n) λo p=>ob (newVar p [I 0,I 0,I 0,I 0,.nils]) λq r=>oh (stN 5 r q o) λs=>oa (nilCk m) λt=>oa (fldA 3 t) λu=>oa (ld1 s u) λv=>oa (binV .eql .scalar v (I 0)) λw=>ob (gd w true (some (m,s)) s) λx y=>ob (gd w true (pure1 y (nilCk x)) y) λz aa=>ob (gd w true (pure1 aa (fldA 1 z)) aa) λab ac=>ob (gd w true (pure1 ac (ld1 ac ab)) ac) λad ae=>ob (gd w true (some (a,ae)) ae) λaf ag=>ob (gd w true (pure1 ag (lenB af)) ag) λai al=>ob (gd w true (pure1 al (binV .lss .scalar ad ai)) al) λam an=>oa (pickV w am (.bool false)) λao=>cond2 ao
 (
 ob (evalFn tab k b5_ [m,(I 3)] an) λap aq=>a1I k b m q aq
 )
 (
 a1I k b m q an
 )
 ):=fnEq
theorem b0e:evalFn tab (k+1) a2u [a] h =
 ob (newVar h (AV.cells a)) λb c=>ob (newVar c [I 0,I 0,I 0,.nils,.nils]) λd e=>oa (buildV [I 0,I 0,I 0,.nils,.nils,.bool false] []) λf=>ob (newVar e (AV.cells f)) λg i=>oa (ldN 5 i b) λl=>ob (evalFn tab k b9_ [g,l] i) λm n=>oa (extr 0 m) λo=>oa (extr 1 m) λp=>oa (nilCk g) λq=>oa (fldA 5 q) λr=>oa (ld1 n r) λs=>cond2 s
 (
 oa (buildV [I 0,I 0,I 0,.nils,.nils] []) λt=>oh (stN 5 n d t) λu=>oa (ldN 5 u d) λv=>some (.tup [v,(I 4)],u)
 )
 (
 oa (nilCk g) λw=>oa (fldA 0 w) λx=>oa (fldA 1 x) λy=>oh (stN 1 n y o) λz=>oa (nilCk g) λaa=>oa (fldA 0 aa) λab=>oa (fldA 2 ab) λac=>oh (stN 1 z ac p) λad=>oa (nilCk g) λae=>oa (fldA 0 ae) λaf=>oa (ldN 5 ad af) λag=>oh (stN 5 ad d ag) λai=>oa (ldN 5 ai d) λal=>some (.tup [al,(I 0)],ai)
 ):=fnEq
def t1_:=bk tab tbl d0_ 0 [j0] [a,b,c,d,e,f] h k
def t2_:=bk tab tbl d0_ 1 [j0,j1] [a,b,c,d,e,f,g,i] h k
def t3_:=bk tab tbl d0_ 2 [j0,j1] [a,b,c,d,e,f,g,i,l] h k
def a0F:=bk tab tbl d0_ 3 [j0] [a,b,c,d,e,f,g] h k
def a3X:=bk tab tbl d0_ 4 [j0] [a,b,c,d,e,f] h k
def a0G:=bk tab tbl d0_ 5 [] [a,b] h k
theorem a7k:t3_ k j0 j1 a b c d e f g i l h =
 oa (idxA 5 1 g i) λm=>oh (stN 1 h m l) λn=>oa (binV .add .scalar i (I 1)) λo=>t2_ k j0 j1 a b c d e f g o n:=bkEq
theorem a7l:a3X k j0 a b c d e f h =
 oa (binV .add .scalar f (I 1)) λg=>t1_ k j0 a b c d e g h:=bkEq
theorem a7m:a0F k j0 a b c d e f g h =
 oa (fldA 0 e) λi=>oa (ld1 h i) λl=>oa (ldN 5 h g) λm=>ob (buildSl 5 1 [I 0,I 0,I 0,I 0,I 0] [(0,5,m)] h) λn o=>ob (apnd 5 40 l n o) λp q=>oa (fldA 0 e) λr=>oh (stN 1 q r p) λs=>oa (fldA 1 e) λt=>oa (ld1 s t) λu=>oa (idxS 1 d f) λv=>oa (ld1 s v) λw=>oa (fldA 2 b) λx=>oa (ld1 s x) λy=>oa (idxS 1 w y) λz=>oa (ld1 s z) λaa=>ob (buildSl 1 1 [.bool false] [(0,1,aa)] s) λab ac=>ob (apnd 1 1 u ab ac) λad ae=>oa (fldA 1 e) λaf=>oh (stN 1 ae af ad) λag=>a3X k j0 a b c d e f ag:=bkEq
theorem a2y:t2_ k j0 (j1+1) a b c d e f g i h =
 oa (binV .lss .scalar i (I 5)) λl=>cond2 l
 (
 oa (ldN 5 h b) λm=>oa (idxS 1 d f) λn=>oa (ld1 h n) λo=>ob (evalFn tab k u1_ [m,o,i] h) λp q=>ob (evalFn tab k a0x [d,p] q) λr s=>oa (binV .lss .scalar r (I 0)) λt=>cond2 t
 (
 oa (lenS d) λu=>oa (binV .geq .scalar u a) λv=>cond2 v
 (
 oa (buildV [.nils,.nils] []) λw=>oh (stN 2 s c w) λx=>oa (ldN 2 x c) λy=>some (.tup [y,(I 5)],x)
 )
 (
 ob (buildSl 1 1 [.nils] [(0,1,p)] s) λz aa=>ob (apnd 1 24 d z aa) λab ac=>t3_ k j0 j1 a b c ab e f g i u ac
 )
 )
 (
 t3_ k j0 j1 a b c d e f g i r s
 )
 )
 (
 a0F k j0 a b c d e f g h
 ):=bkEq
theorem a7n:a0G k a b h =
 oa (ldN 2 h b) λc=>oh (stN 2 h a c) λd=>oa (ldN 2 d a) λe=>some (.tup [e,(I 0)],d):=bkEq
theorem a7o:t1_ k (j0+1) a b c d e f h =
 oa (lenS d) λg=>oa (binV .lss .scalar f g) λi=>cond2 i
 (
 ob (newVar h [I 0,I 0,I 0,I 0,I 0]) λl m=>t2_ k j0 k a b c d e f l (I 0) m
 )
 (
 a0G k c e h
 ):=bkEq
theorem a8X:evalFn tab (k+1) d0_ [a,b] h =
 ob (newVar h (AV.cells a)) λc d=>ob (newVar d [.nils,.nils]) λe f=>oa (ldN 5 f c) λg=>ob (evalFn tab k a2v [g] f) λi l=>ob (buildSl 1 1 [.nils] [(0,1,i)] l) λm n=>ob (newVar n [.nils,.nils]) λo p=>t1_ k k b c e m o (I 0) p:=fnEq
def s3_:=bk tab tbl d8_ 0 [j0] [a,b,c,d,e,f,g] h k
def s4_:=bk tab tbl d8_ 1 [j0,j1] [a,b,c,d,e,f,g,i,l] h k
def s5_:=bk tab tbl d8_ 2 [j0,j1] [a,b,c,d,e,f,g,i,l,m] h k
def a0r:=bk tab tbl d8_ 3 [j0] [a,b,c,d,e,f,g,i] h k
def a3C:=bk tab tbl d8_ 4 [j0] [a,b,c,d,e,f,g] h k
theorem a6G:s5_ k j0 j1 a b c d e f g i l m h =
 oa (idxS 1 c m) λn=>oa (ld1 h n) λo=>oa (idxS 1 e o) λp=>oa (ld1 h p) λq=>oa (binV .sub .scalar q (I 1)) λr=>oa (idxA 5 1 i l) λs=>oh (stN 1 h s r) λt=>oa (binV .add .scalar l (I 1)) λu=>s4_ k j0 j1 a b c d e f g i u t:=bkEq
theorem a6H:a3C k j0 a b c d e f g h =
 oa (binV .add .scalar g (I 1)) λi=>s3_ k j0 a b c d e f i h:=bkEq
theorem a6I:a0r k j0 a b c d e f g i h =
 oa (fldA 0 d) λl=>oa (ld1 h l) λm=>oa (ldN 5 h i) λn=>ob (buildSl 5 1 [I 0,I 0,I 0,I 0,I 0] [(0,5,n)] h) λo p=>ob (apnd 5 40 m o p) λq r=>oa (fldA 0 d) λs=>oh (stN 1 r s q) λt=>oa (fldA 1 d) λu=>oa (ld1 t u) λv=>oa (fldA 1 a) λw=>oa (ld1 t w) λx=>oa (idxS 1 f g) λy=>oa (ld1 t y) λz=>oa (idxS 1 x z) λaa=>oa (ld1 t aa) λab=>ob (buildSl 1 1 [.bool false] [(0,1,ab)] t) λac ad=>ob (apnd 1 1 v ac ad) λae af=>oa (fldA 1 d) λag=>oh (stN 1 af ag ae) λai=>a3C k j0 a b c d e f g ai:=bkEq
theorem a2j:s4_ k j0 (j1+1) a b c d e f g i l h =
 oa (binV .lss .scalar l (I 5)) λm=>cond2 m
 (
 oa (fldA 0 a) λn=>oa (ld1 h n) λo=>oa (idxS 1 f g) λp=>oa (ld1 h p) λq=>oa (idxS 5 o q) λr=>oa (idxA 5 1 r l) λs=>oa (ld1 h s) λt=>oa (idxS 1 c t) λu=>oa (ld1 h u) λv=>oa (idxS 1 e v) λw=>oa (ld1 h w) λx=>oa (binV .eql .scalar x (I 0)) λy=>cond2 y
 (
 ob (buildSl 1 1 [I 0] [(0,1,t)] h) λz aa=>ob (apnd 1 8 f z aa) λab ac=>oa (idxS 1 c t) λad=>oa (ld1 ac ad) λae=>oa (lenS ab) λaf=>oa (idxS 1 e ae) λag=>oh (stN 1 ac ag af) λai=>s5_ k j0 j1 a b c d e ab g i l t ai
 )
 (
 s5_ k j0 j1 a b c d e f g i l t h
 )
 )
 (
 a0r k j0 a b c d e f g i h
 ):=bkEq
theorem a2k:s3_ k (j0+1) a b c d e f g h =
 oa (lenS f) λi=>oa (binV .lss .scalar g i) λl=>cond2 l
 (
 ob (newVar h [I 0,I 0,I 0,I 0,I 0]) λm n=>s4_ k j0 k a b c d e f g m (I 0) n
 )
 (
 oa (ldN 2 h d) λo=>oh (stN 2 h b o) λp=>oa (ldN 2 p b) λq=>some (q,p)
 ):=bkEq
theorem a8k:evalFn tab (k+1) d8_ [a] h =
 ob (newVar h (AV.cells a)) λb c=>ob (newVar c [.nils,.nils]) λd e=>oa (ldN 2 e b) λf=>ob (evalFn tab k j5_ [f] e) λg i=>ob (newVar i [.nils,.nils]) λl m=>oa (fldA 0 b) λn=>oa (ld1 m n) λo=>oa (lenS o) λp=>ob (mkSl [I 0] 1 8 p p m) λq r=>ob (buildSl 1 1 [I 0] [(0,1,(I 0))] r) λs t=>oa (idxS 1 g (I 0)) λu=>oa (ld1 t u) λv=>oa (idxS 1 q v) λw=>oh (stN 1 t w (I 1)) λx=>s3_ k k b d g l q s (I 0) x:=fnEq
def a1v:=bk tab tbl x3_ 0 [j0] [a,b,c,d] h k
def a3u:=bk tab tbl x3_ 1 [j0,j1] [a,b,c,d,e,f,g] h k
theorem a7i:a3u k j0 (j1+1) a b c d e f g h =
 oa (binV .lss .scalar g (I 5)) λi=>cond2 i
 (
 oa (ixA 5 1 none f g) λl=>oa (nilCk a) λm=>oa (fldA 5 m) λn=>oa (ld1 h n) λo=>oa (nilCk a) λp=>oa (fldA 5 p) λq=>oa (ld1 h q) λr=>oa (idxS 5 r l) λs=>oa (idxA 5 1 s g) λt=>oa (ld1 h t) λu=>ob (buildSl 1 1 [I 0] [(0,1,b)] h) λv w=>oa (idxS 5 o l) λx=>ob (apnd 1 8 u v w) λy z=>chk ((sameB (pure1 z (ld1 z n)) o && true)) <|oa (idxA 5 1 x g) λaa=>oh (stN 1 z aa y) λab=>oa (binV .add .scalar g (I 1)) λac=>a3u k j0 j1 a b c d e f ac ab
 )
 (
 oa (binV .add .scalar e (I 1)) λad=>a1v k j0 a c d ad h
 ):=bkEq
theorem a7j:a1v k (j0+1) a b c d h =
 oa (binV .lss .scalar d c) λe=>cond2 e
 (
 oa (idxS 5 b d) λf=>oa (ldN 5 h f) λg=>ob (newVar h [I 0,I 0,I 0,I 0,I 0]) λi l=>oh (stN 5 l i g) λm=>oa (ldN 5 m i) λn=>a3u k j0 k a d b c d n (I 0) m
 )
 (
 some (a,h)
 ):=bkEq
theorem b3Z:evalFn tab (k+1) x3_ [a,b] h =
 ob (newVar h (AV.cells a)) λc d=>ob (newVar d (AV.cells b)) λe f=>oa (ldN 2 f c) λg=>oa (ldN 2 f c) λi=>oa (ldN 2 f e) λl=>oa (fldA 0 e) λm=>oa (ld1 f m) λn=>oa (lenS n) λo=>ob (mkSl [.nils,.nils,.nils,.nils,.nils] 5 120 o o f) λp q=>ob (evalFn tab k a7p [i] q) λr s=>chk ((sameB (pure1 s (ldN 2 s c)) g && (sameB (pure1 s (ldN 2 s e)) l && (sameB (pure1 s (ld1 s m)) n && true)))) <|oa (buildV [I 0,.nils,.nilp,.nils,.nils,.nils] [(0,2,g),(2,1,r),(3,2,l),(5,1,p)]) λt=>ob (newVar s (AV.cells t)) λu v=>oa (fldA 0 e) λw=>oa (ld1 v w) λx=>oa (lenS x) λy=>a1v k k u x y (I 0) v:=fnEq
def x7_:=bk tab tbl e1_ 0 [j0] [a,b,c,d,e] h k
def a1E:=bk tab tbl e1_ 1 [] [a,b,c] h k
def x8_:=bk tab tbl e1_ 2 [j0] [a,b,c,d,e] h k
theorem a3v:x8_ k (j0+1) a b c d e h =
 oa (binV .lss .scalar e d) λf=>cond2 f
 (
 oa (idxS 2 c e) λg=>oa (ldN 2 h g) λi=>ob (newVar h [I 0,I 0]) λl m=>oh (stN 2 m l i) λn=>oa (nilCk b) λo=>oa (fldA 2 o) λp=>oa (ld1 n p) λq=>oa (ldN 2 n l) λr=>ob (evalFn tab k r4_ [a,r] n) λs t=>chk ((sameB (pure1 t (ld1 t p)) q && true)) <|ob (evalFn tab k n9_ [q,s,(I 0)] t) λu v=>oa (binV .add .scalar e (I 1)) λw=>x8_ k j0 a b c d w v
 )
 (
 some (b,h)
 ):=bkEq
theorem a8e:a1E k a b c h =
 oa (lenS b) λd=>x8_ k k a c b d (I 0) h:=bkEq
theorem a3w:x7_ k (j0+1) a b c d e h =
 oa (binV .lss .scalar e d) λf=>cond2 f
 (
 oa (nilCk c) λg=>oa (fldA 3 g) λi=>oa (ld1 h i) λl=>oa (nilCk c) λm=>oa (fldA 4 m) λn=>oa (ld1 h n) λo=>oa (nilCk c) λp=>oa (fldA 5 p) λq=>oa (ld1 h q) λr=>oa (idxS 1 l e) λs=>oh (stN 1 h s (I (-1))) λt=>oa (idxS 1 o e) λu=>oh (stN 1 t u (I (-1))) λv=>oa (idxS 1 r e) λw=>oh (stN 1 v w (I (-1))) λx=>oa (binV .add .scalar e (I 1)) λy=>x7_ k j0 a b c d y x
 )
 (
 a1E k a b c h
 ):=bkEq
theorem b0a:evalFn tab (k+1) e1_ [a,b,c] h =
 oa (nilCk a) λd=>oa (fldA 0 d) λe=>oa (fldA 0 e) λf=>oa (ld1 h f) λg=>oa (mmV true g (I 0)) λi=>oa (nilCk a) λl=>oa (fldA 3 l) λm=>oa (fldA 0 m) λn=>oa (ld1 h n) λo=>oa (lenS o) λp=>oa (binV .mul .scalar i p) λq=>ob (mkSl [I 0] 1 8 q q h) λr s=>ob (mkSl [I 0] 1 8 q q s) λt u=>ob (mkSl [I 0] 1 8 q q u) λv w=>ob (evalFn tab k a4U [q] w) λx y=>oa (buildV [.nilp,.nilfn,.nilp,.nils,.nils,.nils,I 0] [(0,1,a),(1,1,b),(2,1,x),(3,1,r),(4,1,t),(5,1,v)]) λz=>ob (newVar y (AV.cells z)) λaa ab=>oa (nilCk aa) λac=>oa (fldA 3 ac) λad=>oa (ld1 ab ad) λae=>oa (lenS ae) λaf=>x7_ k k a c aa af (I 0) ab:=fnEq
def a0Q:=bk tab tbl e7_ 0 [j0] [a,b,c,d,e,f] h k
theorem a4N:a0Q k (j0+1) a b c d e f h =
 oa (binV .lss .scalar f e) λg=>cond2 g
 (
 oa (idxS 1 d f) λi=>oa (ld1 h i) λl=>oa (nilCk a) λm=>oa (fldA 0 m) λn=>oa (fldA 1 n) λo=>oa (ld1 h o) λp=>oa (idxS 4 p l) λq=>oa (ldN 4 h q) λr=>ob (newVar h [I 0,I 0,I 0,I 0]) λs t=>oh (stN 4 t s r) λu=>oa (fldA 1 s) λv=>oa (ld1 u v) λw=>oa (nilCk a) λx=>oa (fldA 3 x) λy=>oa (fldA 0 y) λz=>oa (ld1 u z) λaa=>oa (fldA 1 b) λab=>oa (ld1 u ab) λac=>oa (fldA 2 s) λad=>oa (ld1 u ad) λae=>oa (idxS 5 aa ac) λaf=>oa (idxA 5 1 af ae) λag=>oa (ld1 u ag) λai=>oa (buildV [I 0,I 0] [(0,1,w),(1,1,ai)]) λal=>oa (buildV [I 0,I 0,I 0] [(0,2,al),(2,1,l)]) λam=>ob (buildSl 3 1 [I 0,I 0,I 0] [(0,3,am)] u) λan ao=>ob (apnd 3 24 c an ao) λap aq=>oa (binV .add .scalar f (I 1)) λar=>a0Q k j0 a b ap d e ar aq
 )
 (
 some (c,h)
 ):=bkEq
theorem b1G:evalFn tab (k+1) e7_ [a,b] h =
 ob (newVar h (AV.cells b)) λc d=>oa (nilCk a) λe=>oa (fldA 2 e) λf=>oa (ld1 d f) λg=>oa (fldA 0 c) λi=>oa (ld1 d i) λl=>ob (evalFn tab k a7U [g,l] d) λm n=>oa (lenS m) λo=>a0Q k k a c .nils m o (I 0) n:=fnEq
def z7_:=bk tab tbl i7_ 0 [j0] [a] h k
theorem a3W:z7_ k (j0+1) a h =
 ob (evalFn tab k h7_ [a] h) λb c=>oa (extr 0 b) λd=>oa (extr 1 b) λe=>oa (unV .not e) λf=>cond2 f
 (
 some (.tup [],c)
 )
 (
 z7_ k j0 a c
 ):=bkEq
theorem b0y:evalFn tab (k+1) i7_ [a] h =
 z7_ k k a h:=fnEq
def p0_:=bk tab tbl r3_ 0 [j0] [a,b,c,d,e,f] h k
theorem a3x:p0_ k (j0+1) a b c d e f h =
 oa (binV .lss .scalar f e) λg=>cond2 g
 (
 oa (idxS 1 d f) λi=>oa (ld1 h i) λl=>oa (nilCk a) λm=>oa (fldA 0 m) λn=>oa (ld1 h n) λo=>oa (buildV [I 0,I 0] [(0,1,b),(1,1,f)]) λp=>ob (evalFn tab k r4_ [o,p] h) λq r=>ob (gd l true (some (a,r)) r) λs t=>ob (gd l true (pure1 t (nilCk s)) t) λu v=>ob (gd l true (pure1 v (fldA 3 u)) v) λw x=>ob (gd l true (pure1 x (ld1 x w)) x) λy z=>ob (gd l true (some (q,z)) z) λaa ab=>ob (gd l true (pure1 ab (idxS 1 y aa)) ab) λac ad=>ob (gd l true (pure1 ad (ld1 ad ac)) ad) λae af=>ob (gd l true (pure1 af (binV .geq .scalar ae (I 0))) af) λag ai=>oa (pickV l ag (.bool false)) λal=>ob (gd al true (some (c,ai)) ai) λam an=>ob (gd al true (pure1 an (binV .lss .scalar am (I 0))) an) λao ap=>ob (gd al true (some (ao,ap)) ap) λaq ar=>ob (gd aq false (some (a,ar)) ar) λau av=>ob (gd aq false (pure1 av (nilCk au)) av) λaw ax=>ob (gd aq false (pure1 ax (fldA 3 aw)) ax) λay az=>ob (gd aq false (pure1 az (ld1 az ay)) az) λa0 a1=>ob (gd aq false (some (q,a1)) a1) λa2 a3=>ob (gd aq false (pure1 a3 (idxS 1 a0 a2)) a3) λa4 a5=>ob (gd aq false (pure1 a5 (ld1 a5 a4)) a5) λa6 a7=>ob (gd aq false (some (a,a7)) a7) λa8 a9=>ob (gd aq false (pure1 a9 (nilCk a8)) a9) λba bb=>ob (gd aq false (pure1 bb (fldA 3 ba)) bb) λbc bd=>ob (gd aq false (pure1 bd (ld1 bd bc)) bd) λbe bf=>ob (gd aq false (some (c,bf)) bf) λbg bi=>ob (gd aq false (pure1 bi (idxS 1 be bg)) bi) λbl bm=>ob (gd aq false (pure1 bm (ld1 bm bl)) bm) λbn bo=>ob (gd aq false (pure1 bo (binV .lss .scalar a6 bn)) bo) λbp bq=>ob (gd al true (pure1 bq (pickV aq (.bool true) bp)) bq) λbr bs=>oa (pickV al br (.bool false)) λbt=>cond2 bt
 (
 oa (binV .add .scalar f (I 1)) λbu=>p0_ k j0 a b q d e bu bs
 )
 (
 oa (binV .add .scalar f (I 1)) λbv=>p0_ k j0 a b c d e bv bs
 )
 )
 (
 some (c,h)
 ):=bkEq
theorem b0b:evalFn tab (k+1) r3_ [a,b] h =
 oa (nilCk a) λc=>oa (fldA 0 c) λd=>oa (ld1 h d) λe=>oa (nilCk e) λf=>oa (fldA 3 f) λg=>oa (fldA 1 g) λi=>oa (ld1 h i) λl=>oa (lenS l) λm=>p0_ k k a b (I (-1)) l m (I 0) h:=fnEq
end
end Go.Gm.AZ
namespace Go.Gm.AZ
open Go Go.Gm
noncomputable section
variable (k j0 j1 j2 j3:Nat) (a b c d e f g i l m:AV) (h:Heap)
def a5U:=bk tab tbl a4U 0 [j0] [a,b,c] h k
theorem a9L:a5U k (j0+1) a b c h =
 oa (binV .lss .scalar c b) λd=>cond2 d
 (
 oa (nilCk a) λe=>oa (fldA 0 e) λf=>oa (fldA 1 f) λg=>oa (ld1 h g) λi=>oa (idxS 1 i c) λl=>oh (stN 1 h l (I (-1))) λm=>oa (binV .add .scalar c (I 1)) λn=>a5U k j0 a b n m
 )
 (
 some (a,h)
 ):=bkEq
theorem b6h:evalFn tab (k+1) a4U [a] h =
 oa (mmV true a (I 0)) λb=>ob (mkSl [I 0] 1 8 b b h) λc d=>oa (buildV [.nils,.nils] [(1,1,c)]) λe=>oa (buildV [.nils,.nils] [(0,2,e)]) λf=>ob (newVar d (AV.cells f)) λg i=>oa (nilCk g) λl=>oa (fldA 0 l) λm=>oa (fldA 1 m) λn=>oa (ld1 i n) λo=>oa (lenS o) λp=>a5U k k g p (I 0) i:=fnEq
theorem b1V:evalFn tab (k+1) n9_ [a,b,c] h =
 oa (binV .lss .scalar b (I 0)) λd=>ob (gd d false (some (b,h)) h) λe f=>ob (gd d false (some (a,f)) f) λg i=>ob (gd d false (pure1 i (nilCk g)) i) λl m=>ob (gd d false (pure1 m (fldA 0 l)) m) λn o=>ob (gd d false (pure1 o (fldA 1 n)) o) λp q=>ob (gd d false (pure1 q (ld1 q p)) q) λr s=>ob (gd d false (pure1 s (lenS r)) s) λt u=>ob (gd d false (pure1 u (binV .geq .scalar e t)) u) λv w=>oa (pickV d (.bool true) v) λx=>cond2 x
 (
 some ((.bool false),w)
 )
 (
 ob (evalFn tab k r6_ [a] w) λy z=>ob (callMeth tab (evalFn tab k) "milestone/queue.place" y [b] z) λaa ab=>oa (binV .lss .scalar aa (I 0)) λac=>cond2 ac
 (
 oa (buildV [I 0,I 0] [(0,1,b),(1,1,c)]) λad=>ob (evalFn tab k a0i [y,(.ifc 196 ad)] ab) λae af=>some ((.bool true),af)
 )
 (
 oa (nilCk a) λag=>oa (fldA 0 ag) λai=>oa (fldA 0 ai) λal=>oa (ld1 ab al) λam=>oa (idxS 2 am aa) λan=>oa (fldA 1 an) λao=>oa (ld1 ab ao) λap=>oa (binV .leq .scalar ap c) λaq=>cond2 aq
 (
 some ((.bool false),ab)
 )
 (
 oa (nilCk a) λar=>oa (fldA 0 ar) λau=>oa (fldA 0 au) λav=>oa (ld1 ab av) λaw=>oa (idxS 2 aw aa) λax=>oa (fldA 1 ax) λay=>oh (stN 1 ab ay c) λaz=>ob (evalFn tab k a0y [y,aa] az) λa0 a1=>some ((.bool true),a1)
 )
 )
 ):=fnEq
theorem b3q:evalFn tab (k+1) a1x [a,b] h =
 ob (newVar h (AV.cells b)) λc d=>oa (fldA 0 c) λe=>oa (ld1 d e) λf=>oa (nilCk a) λg=>oa (fldA 6 g) λi=>oa (fldA 0 i) λl=>oa (ld1 d l) λm=>oa (lenS m) λn=>oa (binV .mul .scalar f n) λo=>oa (fldA 1 c) λp=>oa (ld1 d p) λq=>oa (binV .add .scalar o q) λr=>oa (binV .mul .scalar (I 2) r) λs=>oa (fldA 2 c) λt=>oa (ld1 d t) λu=>cond2 u
 (
 oa (binV .add .scalar s (I 1)) λv=>some (v,d)
 )
 (
 some (s,d)
 ):=fnEq
theorem b1X:evalFn tab (k+1) a0o [a] h =
 oa (nilCk a) λb=>oa (fldA 0 b) λc=>ob (evalFn tab k z1_ [c] h) λd e=>oa (binV .eql .scalar d (I 0)) λf=>cond2 f
 (
 some (.tup [(I 0),(I 0),(.bool false)],e)
 )
 (
 ob (evalFn tab k r6_ [a] e) λg i=>ob (evalFn tab k a2J [g] i) λl m=>oa (tAssert 196 (.agg [I 0,I 0]) true l) λn=>oa (extr 0 n) λo=>oa (extr 1 n) λp=>ob (newVar m [I 0,I 0]) λq r=>oh (stN 2 r q o) λs=>oa (fldA 0 q) λt=>oa (ld1 s t) λu=>oa (fldA 1 q) λv=>oa (ld1 s v) λw=>some (.tup [u,w,p],s)
 ):=fnEq
theorem b1Y:evalFn tab (k+1) a2c [a,b] h =
 ob (newVar h [I 0,I 0,.bool false]) λc d=>oa (binV .quo .scalar b (I 2)) λe=>oa (nilCk a) λf=>oa (fldA 6 f) λg=>oa (fldA 0 g) λi=>oa (ld1 d i) λl=>oa (lenS l) λm=>oa (binV .quo .scalar e m) λn=>oa (nilCk a) λo=>oa (fldA 6 o) λp=>oa (fldA 0 p) λq=>oa (ld1 d q) λr=>oa (lenS r) λs=>oa (binV .rem .scalar e s) λt=>oa (binV .rem .scalar b (I 2)) λu=>oa (binV .eql .scalar u (I 1)) λv=>oa (buildV [I 0,I 0,.bool false] [(0,1,n),(1,1,t),(2,1,v)]) λw=>oh (stN 3 d c w) λx=>oa (ldN 3 x c) λy=>some (y,x):=fnEq
def y8_:=bk tab tbl a0p 0 [j0] [a,b,c,d,e,f,g] h k
theorem a5u:y8_ k (j0+1) a b c d e f g h =
 oa (binV .lss .scalar g f) λi=>cond2 i
 (
 oa (idxS 1 e g) λl=>oa (ld1 h l) λm=>oa (nilCk a) λn=>oa (fldA 0 n) λo=>oa (ld1 h o) λp=>oa (nilCk p) λq=>oa (fldA 0 q) λr=>oa (fldA 3 r) λs=>oa (ld1 h s) λt=>oa (idxS 7 t m) λu=>oa (ldN 7 h u) λv=>ob (newVar h [I 0,I 0,I 0,I 0,I 0,I 0,I 0]) λw x=>oh (stN 7 x w v) λy=>oa (nilCk a) λz=>oa (fldA 0 z) λaa=>oa (ld1 y aa) λab=>oa (fldA 1 w) λac=>oa (ld1 y ac) λad=>oa (nilCk a) λae=>oa (fldA 0 ae) λaf=>oa (ld1 y af) λag=>oa (nilCk ag) λai=>oa (fldA 6 ai) λal=>oa (fldA 0 al) λam=>oa (ld1 y am) λan=>oa (fldA 1 d) λao=>oa (ld1 y ao) λap=>oa (fldA 2 w) λaq=>oa (ld1 y aq) λar=>oa (idxS 5 an ap) λau=>oa (idxA 5 1 au ar) λav=>oa (ld1 y av) λaw=>oa (buildV [I 0,I 0,.bool false] [(0,1,ad),(1,1,aw),(2,1,c)]) λax=>ob (evalFn tab k a1x [ab,ax] y) λay az=>oa (nilCk a) λa0=>oa (fldA 2 a0) λa1=>oa (ld1 az a1) λa2=>oa (idxS 1 a2 ay) λa3=>oa (ld1 az a3) λa4=>oa (binV .lss .scalar a4 (I 0)) λa5=>ob (gd a5 true (some (a,az)) az) λa6 a7=>ob (gd a5 true (pure1 a7 (nilCk a6)) a7) λa8 a9=>ob (gd a5 true (pure1 a9 (fldA 1 a8)) a9) λba bb=>ob (gd a5 true (pure1 bb (ld1 bb ba)) bb) λbc bd=>ob (gd a5 true (some (ay,bd)) bd) λbe bf=>ob (gd a5 true (some (a,bf)) bf) λbg bi=>ob (gd a5 true (pure1 bi (nilCk bg)) bi) λbl bm=>ob (gd a5 true (pure1 bm (fldA 2 bl)) bm) λbn bo=>ob (gd a5 true (pure1 bo (ld1 bo bn)) bo) λbp bq=>ob (gd a5 true (some (b,bq)) bq) λbr bs=>ob (gd a5 true (pure1 bs (idxS 1 bp br)) bs) λbt bu=>ob (gd a5 true (pure1 bu (ld1 bu bt)) bu) λbv bw=>ob (gd a5 true (pure1 bw (fldA 3 w)) bw) λbx bz=>ob (gd a5 true (pure1 bz (ld1 bz bx)) bz) λb0 b1=>ob (gd a5 true (pure1 b1 (binV .add .scalar bv b0)) b1) λb2 b3=>ob (gd a5 true (evalFn tab k n9_ [bc,be,b2] b3) b3) λb4 b5=>oa (pickV a5 b4 (.bool false)) λb6=>cond2 b6
 (
 oa (nilCk a) λb7=>oa (fldA 3 b7) λb8=>oa (ld1 b5 b8) λb9=>oa (nilCk a) λca=>oa (fldA 4 ca) λcb=>oa (ld1 b5 cb) λcc=>oa (idxS 1 b9 ay) λcd=>oh (stN 1 b5 cd m) λce=>oa (idxS 1 cc ay) λcf=>oh (stN 1 ce cf b) λcg=>oa (binV .add .scalar g (I 1)) λci=>y8_ k j0 a b c d e f ci cg
 )
 (
 oa (binV .add .scalar g (I 1)) λcl=>y8_ k j0 a b c d e f cl b5
 )
 )
 (
 some (.tup [],h)
 ):=bkEq
theorem b1Z:evalFn tab (k+1) a0p [a,b,c,d] h =
 oa (nilCk a) λe=>oa (fldA 0 e) λf=>oa (ld1 h f) λg=>ob (evalFn tab k a2c [g,b] h) λi l=>ob (newVar l [I 0,I 0,.bool false]) λm n=>oh (stN 3 n m i) λo=>oa (lenS d) λp=>y8_ k k a b c m d p (I 0) o:=fnEq
theorem b0h:evalFn tab (k+1) a0h [a,b,c] h =
 ob (newVar h (AV.cells a)) λd e=>oa (ld1 e b) λf=>oa (nilCk f) λg=>oa (fldA 0 g) λi=>oa (ld1 e i) λl=>oa (ldN 3 e d) λm=>ob (evalFn tab k a1x [l,m] e) λn o=>oa (ld1 o b) λp=>oa (nilCk p) λq=>oa (fldA 2 q) λr=>oa (ld1 o r) λs=>oa (idxS 1 s n) λt=>oa (ld1 o t) λu=>oa (binV .geq .scalar u (I 0)) λv=>ob (gd v true (pure1 o (ld1 o c)) o) λw x=>ob (gd v true (pure1 x (binV .lss .scalar w (I 0))) x) λy z=>ob (gd v true (some (y,z)) z) λaa ab=>ob (gd aa false (pure1 ab (ld1 ab b)) ab) λac ad=>ob (gd aa false (pure1 ad (nilCk ac)) ad) λae af=>ob (gd aa false (pure1 af (fldA 2 ae)) af) λag ai=>ob (gd aa false (pure1 ai (ld1 ai ag)) ai) λal am=>ob (gd aa false (some (n,am)) am) λan ao=>ob (gd aa false (pure1 ao (idxS 1 al an)) ao) λap aq=>ob (gd aa false (pure1 aq (ld1 aq ap)) aq) λar au=>ob (gd aa false (pure1 au (ld1 au b)) au) λav aw=>ob (gd aa false (pure1 aw (nilCk av)) aw) λax ay=>ob (gd aa false (pure1 ay (fldA 2 ax)) ay) λaz a0=>ob (gd aa false (pure1 a0 (ld1 a0 az)) a0) λa1 a2=>ob (gd aa false (pure1 a2 (ld1 a2 c)) a2) λa3 a4=>ob (gd aa false (pure1 a4 (idxS 1 a1 a3)) a4) λa5 a6=>ob (gd aa false (pure1 a6 (ld1 a6 a5)) a6) λa7 a8=>ob (gd aa false (pure1 a8 (binV .lss .scalar ar a7)) a8) λa9 ba=>ob (gd v true (pure1 ba (pickV aa (.bool true) a9)) ba) λbb bc=>oa (pickV v bb (.bool false)) λbd=>cond2 bd
 (
 oh (stN 1 bc c n) λbe=>some (.tup [],be)
 )
 (
 some (.tup [],bc)
 ):=fnEq
theorem a8o:evalFn tab (k+1) f2_ [a,b,c,d] h =
 oa (nilCk a) λe=>oa (fldA 0 e) λf=>oa (fldA 0 f) λg=>oa (fldA 0 g) λi=>oa (ld1 h i) λl=>oa (binV .mul .scalar b l) λm=>oa (binV .add .scalar m c) λn=>oa (binV .mul .scalar n (I 5)) λo=>oa (binV .add .scalar o d) λp=>some (p,h):=fnEq
theorem a7N:evalFn tab (k+1) k2_ [a,b] h =
 ob (newVar h (AV.cells b)) λc d=>oa (nilCk a) λe=>oa (fldA 0 e) λf=>oa (fldA 3 f) λg=>oa (ld1 d g) λi=>oa (ldN 7 d c) λl=>ob (buildSl 7 1 [I 0,I 0,I 0,I 0,I 0,I 0,I 0] [(0,7,l)] d) λm n=>ob (apnd 7 56 i m n) λo p=>oa (nilCk a) λq=>oa (fldA 0 q) λr=>oa (fldA 3 r) λs=>oh (stN 1 p s o) λt=>oa (nilCk a) λu=>oa (fldA 6 u) λv=>oa (ld1 t v) λw=>oa (fldA 0 c) λx=>oa (ld1 t x) λy=>oa (fldA 1 c) λz=>oa (ld1 t z) λaa=>oa (fldA 2 c) λab=>oa (ld1 t ab) λac=>oa (nilCk a) λad=>oa (fldA 0 ad) λae=>oa (fldA 3 ae) λaf=>oa (ld1 t af) λag=>oa (lenS ag) λai=>ob (evalFn tab k f2_ [a,y,aa,ac] t) λal am=>chk ((sameB (pure1 am (ld1 am v)) w && (sameB (pure1 am (ld1 am af)) ag && true))) <|oa (idxS 1 w al) λan=>oh (stN 1 am an ai) λao=>some (.tup [],ao):=fnEq
theorem b1k:evalFn tab (k+1) a0R [a] h =
 ob (newVar h (AV.cells a)) λb c=>oa (ldN 2 c b) λd=>oa (buildV [I 0,.nils] [(0,2,d)]) λe=>ob (newVar c (AV.cells e)) λf g=>some (f,g):=fnEq
def v6_:=bk tab tbl g4_ 0 [j0] [a,b,c,d] h k
def v7_:=bk tab tbl g4_ 1 [j0,j1] [a,b,c,d,e,f] h k
def a1n:=bk tab tbl g4_ 2 [j0] [a,b,c,d,e] h k
def a4D:=bk tab tbl g4_ 3 [j0] [a,b,c,d] h k
theorem a7O:a4D k j0 a b c d h =
 oa (binV .add .scalar d (I 1)) λe=>v6_ k j0 a b c e h:=bkEq
theorem a7P:a1n k j0 a b c d e h =
 oa (binV .geq .scalar e (I 2)) λf=>ob (buildSl 1 1 [.bool false] [(0,1,f)] h) λg i=>ob (apnd 1 1 c g i) λl m=>a4D k j0 a b l d m:=bkEq
theorem a2V:v7_ k j0 (j1+1) a b c d e f h =
 oa (binV .lss .scalar f (.int .u64 5)) λg=>cond2 g
 (
 ob (evalFn tab k s8_ [b,d] h) λi l=>oa (binV .shr .scalar i f) λm=>oa (binV .and .scalar m (I 1)) λn=>oa (binV .add .scalar e n) λo=>oa (binV .add .scalar f (.int .u64 1)) λp=>v7_ k j0 j1 a b c d o p l
 )
 (
 a1n k j0 a b c d e h
 ):=bkEq
theorem a2W:v6_ k (j0+1) a b c d h =
 oa (fldA 0 a) λe=>oa (ld1 h e) λf=>oa (binV .lss .scalar d f) λg=>cond2 g
 (
 v7_ k j0 k a b c d (I 0) (.int .u64 0) h
 )
 (
 some (c,h)
 ):=bkEq
theorem a9C:evalFn tab (k+1) g4_ [a] h =
 ob (newVar h (AV.cells a)) λb c=>oa (ldN 2 c b) λd=>ob (evalFn tab k a0R [d] c) λe f=>v6_ k k b e .nils (I 0) f:=fnEq
def l9_:=bk tab tbl w1_ 0 [j0] [a,b,c,d] h k
theorem a2z:l9_ k (j0+1) a b c d h =
 oa (nilCk a) λe=>oa (fldA 0 e) λf=>oa (fldA 1 f) λg=>oa (ld1 h g) λi=>oa (lenS i) λl=>oa (binV .lss .scalar d l) λm=>cond2 m
 (
 oa (nilCk a) λn=>oa (fldA 0 n) λo=>oa (fldA 1 o) λp=>oa (ld1 h p) λq=>oa (idxS 4 q d) λr=>oa (fldA 0 r) λs=>oa (ld1 h s) λt=>oa (binV .eql .scalar t b) λu=>cond2 u
 (
 ob (buildSl 1 1 [I 0] [(0,1,d)] h) λv w=>ob (apnd 1 8 c v w) λx y=>oa (binV .add .scalar d (I 1)) λz=>l9_ k j0 a b x z y
 )
 (
 oa (binV .add .scalar d (I 1)) λaa=>l9_ k j0 a b c aa h
 )
 )
 (
 some (c,h)
 ):=bkEq
theorem a9c:evalFn tab (k+1) w1_ [a,b] h =
 l9_ k k a b .nils (I 0) h:=fnEq
def n6_:=bk tab tbl y6_ 0 [j0] [a,b,c,d] h k
theorem a2X:n6_ k (j0+1) a b c d h =
 oa (nilCk a) λe=>oa (fldA 0 e) λf=>oa (fldA 1 f) λg=>oa (ld1 h g) λi=>oa (lenS i) λl=>oa (binV .lss .scalar d l) λm=>cond2 m
 (
 oa (nilCk a) λn=>oa (fldA 0 n) λo=>oa (fldA 1 o) λp=>oa (ld1 h p) λq=>oa (idxS 4 q d) λr=>oa (fldA 1 r) λs=>oa (ld1 h s) λt=>oa (binV .eql .scalar t b) λu=>cond2 u
 (
 ob (buildSl 1 1 [I 0] [(0,1,d)] h) λv w=>ob (apnd 1 8 c v w) λx y=>oa (binV .add .scalar d (I 1)) λz=>n6_ k j0 a b x z y
 )
 (
 oa (binV .add .scalar d (I 1)) λaa=>n6_ k j0 a b c aa h
 )
 )
 (
 some (c,h)
 ):=bkEq
theorem a9D:evalFn tab (k+1) y6_ [a,b] h =
 n6_ k k a b .nils (I 0) h:=fnEq
def v3_:=bk tab tbl p8_ 0 [j0] [a,b,c] h k
def a1j:=bk tab tbl p8_ 1 [] [a] h k
theorem a7H:a1j k a h =
 ob (evalFn tab k u0_ [a] h) λb c=>ob (evalFn tab k r5_ [a] c) λd e=>some (d,e):=bkEq
theorem a7I:v3_ k (j0+1) a b c h =
 oa (nilCk a) λd=>oa (fldA 5 d) λe=>oa (ld1 h e) λf=>oa (idxS 1 f b) λg=>oa (ld1 h g) λi=>oa (binV .geq .scalar i (I 0)) λl=>cond2 l
 (
 oa (nilCk a) λm=>oa (fldA 4 m) λn=>oa (ld1 h n) λo=>oa (idxS 1 o b) λp=>oa (ld1 h p) λq=>ob (buildSl 1 1 [I 0] [(0,1,q)] h) λr s=>ob (apnd 1 8 c r s) λt u=>oa (nilCk a) λv=>oa (fldA 5 v) λw=>oa (ld1 u w) λx=>oa (idxS 1 x b) λy=>oa (ld1 u y) λz=>v3_ k j0 a z t u
 )
 (
 a1j k c h
 ):=bkEq
theorem a9w:evalFn tab (k+1) p8_ [a,b] h =
 v3_ k k a b .nils h:=fnEq
def w4_:=bk tab tbl a1w 0 [j0] [a,b,c,d] h k
theorem a4P:w4_ k (j0+1) a b c d h =
 oa (lenS b) λe=>oa (binV .lss .scalar d e) λf=>cond2 f
 (
 oa (idxS 1 b d) λg=>oa (ld1 h g) λi=>oa (binV .lss .scalar i (I 0)) λl=>ob (gd l false (some (b,h)) h) λm n=>ob (gd l false (some (d,n)) n) λo p=>ob (gd l false (pure1 p (idxS 1 m o)) p) λq r=>ob (gd l false (pure1 r (ld1 r q)) r) λs t=>ob (gd l false (pure1 t (binV .geq .scalar s (I 5))) t) λu v=>oa (pickV l (.bool true) u) λw=>cond2 w
 (
 some ((I (-1)),v)
 )
 (
 oa (fldA 0 c) λx=>oa (ld1 v x) λy=>oa (idxS 1 b d) λz=>oa (ld1 v z) λaa=>oa (idxS 5 y a) λab=>oa (idxA 5 1 ab aa) λac=>oa (ld1 v ac) λad=>oa (binV .add .scalar d (I 1)) λae=>w4_ k j0 ad b c ae v
 )
 )
 (
 some (a,h)
 ):=bkEq
theorem b1J:evalFn tab (k+1) a1w [a,b,c] h =
 ob (newVar h (AV.cells a)) λd e=>oa (binV .lss .scalar b (I 0)) λf=>ob (gd f false (some (b,e)) e) λg i=>ob (gd f false (pure1 i (fldA 0 d)) i) λl m=>ob (gd f false (pure1 m (ld1 m l)) m) λn o=>ob (gd f false (pure1 o (lenS n)) o) λp q=>ob (gd f false (pure1 q (binV .geq .scalar g p)) q) λr s=>oa (pickV f (.bool true) r) λt=>cond2 t
 (
 some ((I (-1)),s)
 )
 (
 w4_ k k b c d (I 0) s
 ):=fnEq
def k9_:=bk tab tbl f0_ 0 [j0] [a,b,c] h k
def u5_:=bk tab tbl f0_ 1 [] [a,b] h k
theorem a5b:u5_ k a b h =
 oa (lenS b) λc=>oa (binV .eql .scalar c (I 1)) λd=>cond2 d
 (
 oa (idxS 5 b (I 0)) λe=>oa (ldN 5 h e) λf=>oh (stN 5 h a f) λg=>oa (ldN 5 g a) λi=>some (i,g)
 )
 (
 oa (buildV [I 0,I 0,I 0,I 0,.nils] [(0,1,(I 5)),(4,1,b)]) λl=>oh (stN 5 h a l) λm=>oa (ldN 5 m a) λn=>some (n,m)
 ):=bkEq
theorem a5c:k9_ k (j0+1) a b c h =
 ob (evalFn tab k b6_ [a] h) λd e=>oa (extr 0 d) λf=>oa (extr 1 d) λg=>oa (unV .not g) λi=>ob (gd i false (some (f,e)) e) λl m=>ob (gd i false (pure1 m (binV .neq .scalar l (.int .u8 124))) m) λn o=>oa (pickV i (.bool true) n) λp=>cond2 p
 (
 u5_ k b c o
 )
 (
 oa (nilCk a) λq=>oa (fldA 1 q) λr=>oa (ld1 o r) λs=>oa (binV .add .scalar s (I 1)) λt=>oa (nilCk a) λu=>oa (fldA 1 u) λv=>oh (stN 1 o v t) λw=>ob (evalFn tab k f4_ [a] w) λx y=>ob (buildSl 5 1 [I 0,I 0,I 0,I 0,.nils] [(0,5,x)] y) λz aa=>ob (apnd 5 56 c z aa) λab ac=>k9_ k j0 a b ab ac
 ):=bkEq
theorem a6j:evalFn tab (k+1) f0_ [a] h =
 ob (newVar h [I 0,I 0,I 0,I 0,.nils]) λb c=>ob (evalFn tab k f4_ [a] c) λd e=>ob (buildSl 5 1 [I 0,I 0,I 0,I 0,.nils] [(0,5,d)] e) λf g=>k9_ k k a b f g:=fnEq
def u6_:=bk tab tbl b9_ 0 [] [a,b,c,d,e,f] h k
def l0_:=bk tab tbl b9_ 1 [j0] [a,b,c,d,e,f,g] h k
def l1_:=bk tab tbl b9_ 2 [j0] [a,b,c,d,e,f,g,i] h k
def g7_:=bk tab tbl b9_ 3 [] [a,b,c,d,e] h k
def l2_:=bk tab tbl b9_ 4 [] [a,b] h k
theorem a5d:l1_ k j0 a b c d e f g i h =
 oa (ldN 5 h i) λl=>ob (evalFn tab k b9_ [a,l] h) λm n=>oa (extr 0 m) λo=>oa (extr 1 m) λp=>ob (buildSl 1 1 [I 0] [(0,1,o)] n) λq r=>ob (apnd 1 8 d q r) λs t=>ob (buildSl 1 1 [I 0] [(0,1,p)] t) λu v=>ob (apnd 1 8 e u v) λw x=>oa (binV .add .scalar g (I 1)) λy=>l0_ k j0 a b c s w f y x:=bkEq
theorem a5e:l2_ k a b h =
 some (.tup [a,b],h):=bkEq
theorem a5f:g7_ k a b c d e h =
 ob (evalFn tab k l7_ [a] h) λf g=>oa (nilCk a) λi=>oa (fldA 5 i) λl=>oa (ld1 g l) λm=>oa (unV .not m) λn=>cond2 n
 (
 oa (ldN 5 g b) λo=>ob (evalFn tab k n2_ [a,o,c,f,d,e] g) λp q=>l2_ k c f q
 )
 (
 l2_ k c f g
 ):=bkEq
theorem a0I:l0_ k (j0+1) a b c d e f g h =
 oa (binV .lss .scalar g f) λi=>ob (gd i true (some (a,h)) h) λl m=>ob (gd i true (pure1 m (nilCk l)) m) λn o=>ob (gd i true (pure1 o (fldA 5 n)) o) λp q=>ob (gd i true (pure1 q (ld1 q p)) q) λr s=>ob (gd i true (pure1 s (unV .not r)) s) λt u=>oa (pickV i t (.bool false)) λv=>cond2 v
 (
 oa (fldA 4 b) λw=>oa (ld1 u w) λx=>oa (idxS 5 x (I 0)) λy=>oa (ldN 5 u y) λz=>ob (newVar u [I 0,I 0,I 0,I 0,.nils]) λaa ab=>oh (stN 5 ab aa z) λac=>oa (fldA 0 b) λad=>oa (ld1 ac ad) λae=>oa (binV .eql .scalar ae (I 5)) λaf=>cond2 af
 (
 oa (fldA 4 b) λag=>oa (ld1 ac ag) λai=>oa (idxS 5 ai g) λal=>oa (ldN 5 ac al) λam=>oh (stN 5 ac aa am) λan=>l1_ k j0 a b c d e f g aa an
 )
 (
 l1_ k j0 a b c d e f g aa ac
 )
 )
 (
 g7_ k a b c d e u
 ):=bkEq
theorem a0J:u6_ k a b c d e f h =
 l0_ k k a b c d e f (I 0) h:=bkEq
theorem a1U:evalFn tab (k+1) b9_ [a,b] h =
 ob (newVar h (AV.cells b)) λc d=>oa (nilCk a) λe=>oa (fldA 5 e) λf=>oa (ld1 d f) λg=>cond2 g
 (
 some (.tup [(I 0),(I 0)],d)
 )
 (
 oa (fldA 0 c) λi=>oa (ld1 d i) λl=>oa (binV .eql .scalar l (I 4)) λm=>cond2 m
 (
 oa (ldN 5 d c) λn=>ob (evalFn tab k d3_ [a,n] d) λo p=>oa (extr 0 o) λq=>oa (extr 1 o) λr=>some (.tup [q,r],p)
 )
 (
 ob (evalFn tab k l7_ [a] d) λs t=>oa (fldA 4 c) λu=>oa (ld1 t u) λv=>oa (lenS v) λw=>oa (fldA 0 c) λx=>oa (ld1 t x) λy=>oa (binV .eql .scalar y (I 9)) λz=>cond2 z
 (
 oa (fldA 3 c) λaa=>oa (ld1 t aa) λab=>u6_ k a c s .nils .nils ab t
 )
 (
 u6_ k a c s .nils .nils w t
 )
 )
 ):=fnEq
theorem b0g:evalFn tab (k+1) a2v [a] h =
 ob (newVar h (AV.cells a)) λb c=>oa (fldA 0 b) λd=>oa (ld1 c d) λe=>ob (mkSl [.bool false] 1 1 e e c) λf g=>oa (fldA 1 b) λi=>oa (ld1 g i) λl=>oa (idxS 1 f l) λm=>oh (stN 1 g m (.bool true)) λn=>oa (ldN 5 n b) λo=>ob (evalFn tab k c3_ [o,f] n) λp q=>some (p,q):=fnEq
def r2_:=bk tab tbl u1_ 0 [j0] [a,b,c,d,e] h k
def a5s:=bk tab tbl u1_ 1 [] [a,b] h k
theorem a9b:a5s k a b h =
 oa (ldN 5 h a) λc=>ob (evalFn tab k c3_ [c,b] h) λd e=>some (d,e):=bkEq
theorem a4c:r2_ k (j0+1) a b c d e h =
 oa (fldA 3 c) λf=>oa (ld1 h f) λg=>oa (lenS g) λi=>oa (binV .lss .scalar e i) λl=>cond2 l
 (
 oa (fldA 3 c) λm=>oa (ld1 h m) λn=>oa (idxS 3 n e) λo=>oa (ldN 3 h o) λp=>ob (newVar h [I 0,I 0,I 0]) λq r=>oh (stN 3 r q p) λs=>oa (binV .geq .scalar b (I 0)) λt=>ob (gd t true (some (b,s)) s) λu v=>ob (gd t true (pure1 v (binV .lss .scalar u (I 5))) v) λw x=>oa (pickV t w (.bool false)) λy=>ob (gd y true (some (a,x)) x) λz aa=>ob (gd y true (pure1 aa (fldA 0 q)) aa) λab ac=>ob (gd y true (pure1 ac (ld1 ac ab)) ac) λad ae=>ob (gd y true (pure1 ae (idxS 1 z ad)) ae) λaf ag=>ob (gd y true (pure1 ag (ld1 ag af)) ag) λai al=>oa (pickV y ai (.bool false)) λam=>ob (gd am true (pure1 al (fldA 2 q)) al) λan ao=>ob (gd am true (pure1 ao (ld1 ao an)) ao) λap aq=>ob (gd am true (some (b,aq)) aq) λar au=>ob (gd am true (pure1 au (convV .u64 ar)) au) λav aw=>ob (gd am true (pure1 aw (binV .shr .scalar ap av)) aw) λax ay=>ob (gd am true (pure1 ay (binV .and .scalar ax (I 1))) ay) λaz a0=>ob (gd am true (pure1 a0 (binV .eql .scalar az (I 1))) a0) λa1 a2=>oa (pickV am a1 (.bool false)) λa3=>cond2 a3
 (
 oa (fldA 1 q) λa4=>oa (ld1 a2 a4) λa5=>oa (idxS 1 d a5) λa6=>oh (stN 1 a2 a6 (.bool true)) λa7=>oa (binV .add .scalar e (I 1)) λa8=>r2_ k j0 a b c d a8 a7
 )
 (
 oa (binV .add .scalar e (I 1)) λa9=>r2_ k j0 a b c d a9 a2
 )
 )
 (
 a5s k c d h
 ):=bkEq
theorem b0E:evalFn tab (k+1) u1_ [a,b,c] h =
 ob (newVar h (AV.cells a)) λd e=>oa (fldA 0 d) λf=>oa (ld1 e f) λg=>ob (mkSl [.bool false] 1 1 g g e) λi l=>r2_ k k b c d i (I 0) l:=fnEq
def a0a:=bk tab tbl a0x 0 [j0] [a,b,c] h k
theorem a4d:a0a k (j0+1) a b c h =
 oa (lenS a) λd=>oa (binV .lss .scalar c d) λe=>cond2 e
 (
 oa (idxS 1 a c) λf=>oa (ld1 h f) λg=>ob (evalFn tab k a0z [g,b] h) λi l=>cond2 i
 (
 some (c,l)
 )
 (
 oa (binV .add .scalar c (I 1)) λm=>a0a k j0 a b m l
 )
 )
 (
 some ((I (-1)),h)
 ):=bkEq
theorem b0F:evalFn tab (k+1) a0x [a,b] h =
 a0a k k a b (I 0) h:=fnEq
def n5_:=bk tab tbl j5_ 0 [j0] [a,b,c] h k
def a4B:=bk tab tbl j5_ 1 [] [a,b] h k
def v5_:=bk tab tbl j5_ 2 [j0] [a,b,c] h k
theorem a7L:v5_ k (j0+1) a b c h =
 oa (ldN 2 h a) λd=>ob (evalFn tab k e2_ [d,b] h) λe f=>oa (extr 0 e) λg=>oa (extr 1 e) λi=>oa (binV .eql .scalar i c) λl=>cond2 l
 (
 some (g,f)
 )
 (
 v5_ k j0 a g i f
 ):=bkEq
theorem a7M:a4B k a b h =
 v5_ k k a b (I 0) h:=bkEq
theorem a2U:n5_ k (j0+1) a b c h =
 oa (lenS b) λd=>oa (binV .lss .scalar c d) λe=>cond2 e
 (
 oa (fldA 1 a) λf=>oa (ld1 h f) λg=>oa (idxS 1 g c) λi=>oa (ld1 h i) λl=>cond2 l
 (
 oa (idxS 1 b c) λm=>oh (stN 1 h m (I 1)) λn=>oa (binV .add .scalar c (I 1)) λo=>n5_ k j0 a b o n
 )
 (
 oa (binV .add .scalar c (I 1)) λp=>n5_ k j0 a b p h
 )
 )
 (
 a4B k a b h
 ):=bkEq
theorem a9B:evalFn tab (k+1) j5_ [a] h =
 ob (newVar h (AV.cells a)) λb c=>oa (fldA 0 b) λd=>oa (ld1 c d) λe=>oa (lenS e) λf=>ob (mkSl [I 0] 1 8 f f c) λg i=>n5_ k k b g (I 0) i:=fnEq
end
end Go.Gm.AZ
