/- A part of the proof (GmAQc, GmAQd). -/
import Derived.KernelRfl
import Derived.Test.YtldnkafmanalmaaProductKnownP2
set_option linter.unusedVariables false
namespace Go.Gm.AQ
open Go Go.Gm
theorem a1K (T:Tab) (k j0:Nat) (a:AV) (h:Heap):r7_ T k (j0+1) a h =
 ob (evalFn T k f5_ [a] h) fun b c=>
 oa (extr 0 b) fun d=>
 oa (extr 1 b) fun e=>
 oa (unV .not e) fun f=>
 cond2 f
 (
 some (.tup [],c)
 )
 (
 r7_ T k j0 a c
 ):=loopEq (by kernel_rfl)
theorem a8A (T:Tab) (k:Nat) (a:AV) (h:Heap):runF T k a0p [a] h =
 r7_ T k k a h:=runEq (by kernel_rfl)
noncomputable def a2v:MCode:=.seq [] (.region [tS 19 (.bin .lss .scalar (tT 18) (tT 17))]) (.seq [19] (.cond (tT 19) .skip (.exit 0)) (.seq [8,62,63] (.block 1 (.seq [20,21,22] (.region [tM 20 18,tX 21 1 16 18,tL 22 21,tM 6 20,tM 7 22]) (.seq [6,23,24,25,26,27,28,29,30] (.region [tM 23 0,tN 24 23,tF 25 0 24,tL 26 25,tM 27 1,tM 28 6,tS 29 (.build [.int .i64 0,.int .i64 0] [(0,1,(tT 27)),(1,1,(tT 28))]),⟨some 30,.call c7_ [(tT 26),(tT 29)],none⟩,tM 8 30]) (.seq [7,31,32,33,34,35,36,37,38,39,40,41,42,43,44,45,46,47,48,49,50,51,52,53,54,55,56,57,58,59,60,61] (.regionD 66 [dM 0 66 7,dM 1 67 66,⟨2,⟨some 68,.op (.mv (tT 0)),some (67,true)⟩,[]⟩,⟨3,⟨some 69,.op (.nilCheck (tT 68)),some (67,true)⟩,[]⟩,⟨4,⟨some 70,.op (.fieldAddr 3 (tT 69)),some (67,true)⟩,[]⟩,⟨5,⟨some 71,.op (.load none (tT 70)),some (67,true)⟩,[]⟩,⟨6,⟨some 72,.op (.mv (tT 8)),some (67,true)⟩,[]⟩,⟨7,⟨some 73,.op (.idxSl 1 (tT 71) (tT 72)),some (67,true)⟩,[]⟩,⟨8,⟨some 74,.op (.load none (tT 73)),some (67,true)⟩,[]⟩,⟨9,⟨some 75,.op (.bin .geq .scalar (tT 74) (tK 0)),some (67,true)⟩,[]⟩,tD 10 76 (.pick (tT 67) (tT 75) (.const (.bool false))),dM 11 77 76,⟨12,⟨some 78,.op (.mv (tT 5)),some (77,true)⟩,[]⟩,⟨13,⟨some 79,.op (.bin .lss .scalar (tT 78) (tK 0)),some (77,true)⟩,[]⟩,⟨14,⟨some 80,.op (.mv (tT 79)),some (77,true)⟩,[]⟩,⟨15,⟨some 81,.op (.mv (tT 0)),some (80,false)⟩,[]⟩,⟨16,⟨some 82,.op (.nilCheck (tT 81)),some (80,false)⟩,[]⟩,⟨17,⟨some 83,.op (.fieldAddr 3 (tT 82)),some (80,false)⟩,[]⟩,⟨18,⟨some 84,.op (.load none (tT 83)),some (80,false)⟩,[]⟩,⟨19,⟨some 85,.op (.mv (tT 8)),some (80,false)⟩,[]⟩,⟨20,⟨some 86,.op (.idxSl 1 (tT 84) (tT 85)),some (80,false)⟩,[]⟩,⟨21,⟨some 87,.op (.load none (tT 86)),some (80,false)⟩,[]⟩,⟨22,⟨some 88,.op (.mv (tT 0)),some (80,false)⟩,[]⟩,⟨23,⟨some 89,.op (.nilCheck (tT 88)),some (80,false)⟩,[]⟩,⟨24,⟨some 90,.op (.fieldAddr 3 (tT 89)),some (80,false)⟩,[]⟩,⟨25,⟨some 91,.op (.load none (tT 90)),some (80,false)⟩,[]⟩,⟨26,⟨some 92,.op (.mv (tT 5)),some (80,false)⟩,[]⟩,⟨27,⟨some 93,.op (.idxSl 1 (tT 91) (tT 92)),some (80,false)⟩,[]⟩,⟨28,⟨some 94,.op (.load none (tT 93)),some (80,false)⟩,[]⟩,⟨29,⟨some 95,.op (.bin .lss .scalar (tT 87) (tT 94)),some (80,false)⟩,[]⟩,⟨30,⟨some 96,.op (.pick (tT 80) (.const (.bool true)) (tT 95)),some (77,true)⟩,[]⟩,tD 31 97 (.pick (tT 77) (tT 96) (.const (.bool false)))] [(31,66),(32,67),(33,68),(34,69),(35,70),(36,71),(37,72),(38,73),(39,74),(40,75),(41,76),(42,77),(43,78),(44,79),(45,80),(46,81),(47,82),(48,83),(49,84),(50,85),(51,86),(52,87),(53,88),(54,89),(55,90),(56,91),(57,92),(58,93),(59,94),(60,95),(61,96),(62,97)]) (.cond (tT 62) (.region [tM 63 8,tM 5 63]) .skip))))) (.region [tS 64 (.bin .add .scalar (tT 18) (tK 1)),tM 18 64])))
def a2w:Res:=[(4,none)]
noncomputable def y1_:MFn:=⟨66,a2w,.seq [4] (.region [tS 4 (.mv (tK 0))]) (.seq [] (.region [tS 5 (.mv (tK (-1)))]) (.seq [0,1,16,17,18,19] (.seq [9,10,11,12,13,14,15] (.region [tM 9 0,tN 10 9,tF 11 0 10,tL 12 11,tN 13 12,tF 14 3 13,tF 15 1 14,tL 16 15,tS 17 (.lenSl (tT 16)),tS 18 (.mv (tK 0))]) (.block 0 (.loop [64] a2v))) (.seq [5,65] (.region [tM 65 5,tM 4 65]) .ret)))⟩
noncomputable def i3_ (T:Tab) (k j0:Nat) (a b c d e f:AV) (h:Heap):Option (AV × Heap):=
 loopB T k a2w j0 [64] a2v [.blk 0,.seq [0,1,16,17,18,19] (.seq [5,65] (.region [⟨some 65,.op (.mv (.tmp 5)),none⟩,
 ⟨some 4,.op (.mv (.tmp 65)),none⟩]) .ret)] [a,b,.undef,.undef,.undef,c,.undef,.undef,.undef,.undef,.undef,.undef,.undef,.undef,.undef,.undef,d,e,f,.undef,.undef,.undef,.undef,.undef,.undef,.undef,.undef,.undef,.undef,.undef,.undef,.undef,.undef,.undef,.undef,.undef,.undef,.undef,.undef,.undef,.undef,.undef,.undef,.undef,.undef,.undef,.undef,.undef,.undef,.undef,.undef,.undef,.undef,.undef,.undef,.undef,.undef,.undef,.undef,.undef,.undef,.undef,.undef,.undef,.undef,.undef] h
theorem a1v (T:Tab) (k j0:Nat) (a b c d e f:AV) (h:Heap):i3_ T k (j0+1) a b c d e f h =
 oa (binV .lss .scalar f e) fun g=>
 cond2 g
 (
 oa (idxS 1 d f) fun i=>
 oa (ld1 h i) fun l=>
 oa (nilCk a) fun m=>
 oa (fldA 0 m) fun n=>
 oa (ld1 h n) fun o=>
 oa (buildV [.int .i64 0,.int .i64 0] [(0,1,b),(1,1,f)]) fun p=>
 ob (evalFn T k c7_ [o,p] h) fun q r=>
 ob (gd l true (some (a,r)) r) fun s t=>
 ob (gd l true (pure1 t (nilCk s)) t) fun u v=>
 ob (gd l true (pure1 v (fldA 3 u)) v) fun w x=>
 ob (gd l true (pure1 x (ld1 x w)) x) fun y z=>
 ob (gd l true (some (q,z)) z) fun aa ab=>
 ob (gd l true (pure1 ab (idxS 1 y aa)) ab) fun ac ad=>
 ob (gd l true (pure1 ad (ld1 ad ac)) ad) fun ae af=>
 ob (gd l true (pure1 af (binV .geq .scalar ae (.int .i64 0))) af) fun ag ai=>
 oa (pickV l ag (.bool false)) fun al=>
 ob (gd al true (some (c,ai)) ai) fun am an=>
 ob (gd al true (pure1 an (binV .lss .scalar am (.int .i64 0))) an) fun ao ap=>
 ob (gd al true (some (ao,ap)) ap) fun aq ar=>
 ob (gd aq false (some (a,ar)) ar) fun as au=>
 ob (gd aq false (pure1 au (nilCk as)) au) fun av aw=>
 ob (gd aq false (pure1 aw (fldA 3 av)) aw) fun ax ay=>
 ob (gd aq false (pure1 ay (ld1 ay ax)) ay) fun az a0=>
 ob (gd aq false (some (q,a0)) a0) fun a1 a2=>
 ob (gd aq false (pure1 a2 (idxS 1 az a1)) a2) fun a3 a4=>
 ob (gd aq false (pure1 a4 (ld1 a4 a3)) a4) fun a5 a6=>
 ob (gd aq false (some (a,a6)) a6) fun a7 a8=>
 ob (gd aq false (pure1 a8 (nilCk a7)) a8) fun a9 ba=>
 ob (gd aq false (pure1 ba (fldA 3 a9)) ba) fun bb bc=>
 ob (gd aq false (pure1 bc (ld1 bc bb)) bc) fun bd be=>
 ob (gd aq false (some (c,be)) be) fun bf bg=>
 ob (gd aq false (pure1 bg (idxS 1 bd bf)) bg) fun bi bl=>
 ob (gd aq false (pure1 bl (ld1 bl bi)) bl) fun bm bn=>
 ob (gd aq false (pure1 bn (binV .lss .scalar a5 bm)) bn) fun bo bp=>
 ob (gd al true (pure1 bp (pickV aq (.bool true) bo)) bp) fun bq br=>
 oa (pickV al bq (.bool false)) fun bs=>
 cond2 bs
 (
 oa (binV .add .scalar f (.int .i64 1)) fun bt=>
 i3_ T k j0 a b q d e bt br
 )
 (
 oa (binV .add .scalar f (.int .i64 1)) fun bu=>
 i3_ T k j0 a b c d e bu br
 )
 )
 (
 some (c,h)
 ):=loopEq (by kernel_rfl)
theorem a7W (T:Tab) (k:Nat) (a b:AV) (h:Heap):runF T k y1_ [a,b] h =
 oa (nilCk a) fun c=>
 oa (fldA 0 c) fun d=>
 oa (ld1 h d) fun e=>
 oa (nilCk e) fun f=>
 oa (fldA 3 f) fun g=>
 oa (fldA 1 g) fun i=>
 oa (ld1 h i) fun l=>
 oa (lenS l) fun m=>
 i3_ T k k a b (.int .i64 (-1)) l m (.int .i64 0) h:=runEq (by kernel_rfl)
noncomputable def a2x:MCode:=.seq [5,36] (.seq [32,33,34,35] (.region [tM 32 5,tN 33 32,tF 34 3 33,tL 35 34,tS 36 (.bin .neq .scalar (tT 35) (tK 0))]) (.cond (tT 36) (.seq [5,6,36,37,38,39,40,41,42,43,44,45] (.regionD 47 [tD 0 47 (.build [.int .i64 0,.int .i64 0,.int .i64 0,.int .i64 0,.nils] []),dM 1 48 5,tD 2 49 (.nilCheck (tT 48)),dF 3 50 1 49,dL 4 51 50,dM 5 52 5,tD 6 53 (.nilCheck (tT 52)),dF 7 54 3 53,dL 8 55 54,⟨9,tS 56 (.store 5 (tT 2) (tT 47)),[(51,tL 51 50),(55,tL 55 54)]⟩,dM 10 57 51,dM 11 58 55] [(37,47),(38,48),(39,49),(40,50),(41,51),(42,52),(43,53),(44,54),(45,55),(3,57),(4,58)]) .ret) .skip)) (.seq [6,46] (.region [tA 46 5 6,tW 5 2 46,tS 3 (.mv (tK 0)),tS 4 (.mv (tK 0))]) .ret)
def a2y:Res:=[(2,some (some 5)),(3,none),(4,none)]
noncomputable def y2_:MFn:=⟨47,a2y,.seq [3,4] (.region [tS 2 (.alloc [.int .i64 0,.int .i64 0,.int .i64 0,.int .i64 0,.nils]),tS 3 (.mv (tK 0)),tS 4 (.mv (tK 0))]) (.seq [9] (.seq [7,8] (.region [tM 7 0,tS 8 (.lenStr (tT 7)),tS 9 (.bin .gtr .scalar (tT 8) (tK 200))]) (.cond (tT 9) (.seq [0,9,10] (.region [tS 10 (.build [.int .i64 0,.int .i64 0,.int .i64 0,.int .i64 0,.nils] []),tW 5 2 10,tS 3 (.mv (tK 0)),tS 4 (.mv (tK 4))]) .ret) .skip)) (.seq [11,12,13] (.region [tM 11 0,tS 12 (.build [.str ⟨#[]⟩,.int .i64 0,.int .i64 0,.int .i64 0] [(0,1,(tT 11))]),tS 13 (.box (tT 12)),tM 5 13]) (.seq [14,15] (.region [tM 14 5,⟨some 15,.call b1_ [(tT 14)],none⟩,tS 6 (.alloc [.int .i64 0,.int .i64 0,.int .i64 0,.int .i64 0,.nils]),tW 5 6 15]) (.seq [29,30,31] (.seq [0,16,17,18,19,20,21,22,23,24,25,26,27,28] (.region [tM 16 5,tN 17 16,tF 18 3 17,tL 19 18,tS 20 (.bin .eql .scalar (tT 19) (tK 0)),tM 21 20,⟨some 22,.op (.mv (tT 5)),some (21,true)⟩,⟨some 23,.op (.nilCheck (tT 22)),some (21,true)⟩,⟨some 24,.op (.fieldAddr 1 (tT 23)),some (21,true)⟩,⟨some 25,.op (.load none (tT 24)),some (21,true)⟩,⟨some 26,.op (.mv (tT 0)),some (21,true)⟩,⟨some 27,.op (.lenStr (tT 26)),some (21,true)⟩,⟨some 28,.op (.bin .lss .scalar (tT 25) (tT 27)),some (21,true)⟩,tS 29 (.pick (tT 21) (tT 28) (.const (.bool false)))]) (.cond (tT 29) (.region [tM 30 5,⟨some 31,.call a4_ [(tT 30),(tK 3)],none⟩]) .skip)) (.lab a2x)))))⟩
noncomputable def y3_ (T:Tab) (k:Nat) (a b c:AV) (h:Heap):Option (AV × Heap):=
 evB T k a2y a2x [] [.u,.u,a,.u,.u,b,c,.u,.u,.u,.u,.u,.u,.u,.u,.u,.u,.u,.u,.u,.u,.u,.u,.u,.u,.u,.u,.u,.u,.u,.u,.u,.u,.u,.u,.u,.u,.u,.u,.u,.u,.u,.u,.u,.u,.u,.u] h
theorem a6k (T:Tab) (k:Nat) (a b c:AV) (h:Heap):y3_ T k a b c h =
 oa (nilCk b) fun d=>
 oa (fldA 3 d) fun e=>
 oa (ld1 h e) fun f=>
 oa (binV .neq .scalar f (.int .i64 0)) fun g=>
 cond2 g
 (
 oa (buildV [.int .i64 0,.int .i64 0,.int .i64 0,.int .i64 0,.nils] []) fun i=>
 oa (nilCk b) fun l=>
 oa (fldA 1 l) fun m=>
 oa (ld1 h m) fun n=>
 oa (nilCk b) fun o=>
 oa (fldA 3 o) fun p=>
 oa (ld1 h p) fun q=>
 oh (stN 5 h a i) fun r=>
 chk ((sameB (pure1 r (ld1 r m)) n && (sameB (pure1 r (ld1 r p)) q && true))) <|
 oa (ldN 5 r a) fun s=>
 some (.tup [s,n,q],r)
 )
 (
 oa (ldN 5 h c) fun t=>
 oh (stN 5 h a t) fun u=>
 oa (ldN 5 u a) fun v=>
 some (.tup [v,(.int .i64 0),(.int .i64 0)],u)
 ):=blockEq (by kernel_rfl)
theorem a7X (T:Tab) (k:Nat) (a:AV) (h:Heap):runF T k y2_ [a] h =
 ob (newVar h [.int .i64 0,.int .i64 0,.int .i64 0,.int .i64 0,.nils]) fun b c=>
 oa (lenB a) fun d=>
 oa (binV .gtr .scalar d (.int .i64 200)) fun e=>
 cond2 e
 (
 oa (buildV [.int .i64 0,.int .i64 0,.int .i64 0,.int .i64 0,.nils] []) fun f=>
 oh (stN 5 c b f) fun g=>
 oa (ldN 5 g b) fun i=>
 some (.tup [i,(.int .i64 0),(.int .i64 4)],g)
 )
 (
 oa (buildV [.str ⟨#[]⟩,.int .i64 0,.int .i64 0,.int .i64 0] [(0,1,a)]) fun l=>
 ob (newVar c (AV.cells l)) fun m n=>
 ob (evalFn T k b1_ [m] n) fun o p=>
 ob (newVar p [.int .i64 0,.int .i64 0,.int .i64 0,.int .i64 0,.nils]) fun q r=>
 oh (stN 5 r q o) fun s=>
 oa (nilCk m) fun t=>
 oa (fldA 3 t) fun u=>
 oa (ld1 s u) fun v=>
 oa (binV .eql .scalar v (.int .i64 0)) fun w=>
 ob (gd w true (some (m,s)) s) fun x y=>
 ob (gd w true (pure1 y (nilCk x)) y) fun z aa=>
 ob (gd w true (pure1 aa (fldA 1 z)) aa) fun ab ac=>
 ob (gd w true (pure1 ac (ld1 ac ab)) ac) fun ad ae=>
 ob (gd w true (some (a,ae)) ae) fun af ag=>
 ob (gd w true (pure1 ag (lenB af)) ag) fun ai al=>
 ob (gd w true (pure1 al (binV .lss .scalar ad ai)) al) fun am an=>
 oa (pickV w am (.bool false)) fun ao=>
 cond2 ao
 (
 ob (evalFn T k a4_ [m,(.int .i64 3)] an) fun ap aq=>
 y3_ T k b m q aq
 )
 (
 y3_ T k b m q an
 )
 ):=runEq (by kernel_rfl)
def a7Y:Res:=[(2,some (some 5)),(3,none)]
noncomputable def y4_:MFn:=⟨34,a7Y,.seq [0,3] (.region [tS 1 (.box (tT 0)),tS 2 (.alloc [.int .i64 0,.int .i64 0,.int .i64 0,.nils,.nils]),tS 3 (.mv (tK 0))]) (.seq [7,8] (.region [tS 7 (.build [.int .i64 0,.int .i64 0,.int .i64 0,.nils,.nils,.bool false] []),tS 8 (.box (tT 7)),tM 4 8]) (.seq [1,9,10,11,12,13,14] (.region [tM 10 4,tA 11 5 1,⟨some 12,.call a7_ [(tT 10),(tT 11)],none⟩,tM 9 12,tS 13 (.extract 0 (tT 9)),tS 14 (.extract 1 (tT 9)),tM 5 13,tM 6 14]) (.seq [18] (.seq [15,16,17] (.region [tM 15 4,tN 16 15,tF 17 5 16,tL 18 17]) (.cond (tT 18) (.seq [4,5,6,18,19] (.region [tS 19 (.build [.int .i64 0,.int .i64 0,.int .i64 0,.nils,.nils] []),tW 5 2 19,tS 3 (.mv (tK 4))]) .ret) .skip)) (.seq [5,6,20,21,22,23,24,25,26,27,28,29] (.region [tM 20 4,tM 21 4,tM 22 5,tM 23 6,tN 24 20,tF 25 0 24,tF 26 1 25,tW 1 26 22,tN 27 21,tF 28 0 27,tF 29 2 28,tW 1 29 23]) (.seq [4,30,31,32,33] (.region [tM 30 4,tN 31 30,tF 32 0 31,tA 33 5 32,tW 5 2 33,tS 3 (.mv (tK 0))]) .ret)))))⟩
theorem a7Z (T:Tab) (k:Nat) (a:AV) (h:Heap):runF T k y4_ [a] h =
 ob (newVar h (AV.cells a)) fun b c=>
 ob (newVar c [.int .i64 0,.int .i64 0,.int .i64 0,.nils,.nils]) fun d e=>
 oa (buildV [.int .i64 0,.int .i64 0,.int .i64 0,.nils,.nils,.bool false] []) fun f=>
 ob (newVar e (AV.cells f)) fun g i=>
 oa (ldN 5 i b) fun l=>
 ob (evalFn T k a7_ [g,l] i) fun m n=>
 oa (extr 0 m) fun o=>
 oa (extr 1 m) fun p=>
 oa (nilCk g) fun q=>
 oa (fldA 5 q) fun r=>
 oa (ld1 n r) fun s=>
 cond2 s
 (
 oa (buildV [.int .i64 0,.int .i64 0,.int .i64 0,.nils,.nils] []) fun t=>
 oh (stN 5 n d t) fun u=>
 oa (ldN 5 u d) fun v=>
 some (.tup [v,(.int .i64 4)],u)
 )
 (
 oa (nilCk g) fun w=>
 oa (fldA 0 w) fun x=>
 oa (fldA 1 x) fun y=>
 oh (stN 1 n y o) fun z=>
 oa (nilCk g) fun aa=>
 oa (fldA 0 aa) fun ab=>
 oa (fldA 2 ab) fun ac=>
 oh (stN 1 z ac p) fun ad=>
 oa (nilCk g) fun ae=>
 oa (fldA 0 ae) fun af=>
 oa (ldN 5 ad af) fun ag=>
 oh (stN 5 ad d ag) fun ai=>
 oa (ldN 5 ai d) fun al=>
 some (.tup [al,(.int .i64 0)],ai)
 ):=runEq (by kernel_rfl)
noncomputable def a1L:MCode:=.region [tM 48 10,tM 49 12,tS 50 (.idxArr 5 1 (tT 9) (tT 48)),tW 1 50 49]
noncomputable def t4_:MCode:=.seq [23] (.seq [22] (.region [tM 22 10,tS 23 (.bin .lss .scalar (tT 22) (tK 5))]) (.cond (tT 23) .skip (.exit 2))) (.seq [12,48,49,50] (.block 3 (.seq [26,27,28,29,30,31,32] (.regionD 71 [tD 0 71 (.load (some 5) (tT 2)),dM 1 72 6,dM 2 73 8,tD 3 74 (.idxSl 1 (tT 72) (tT 73)),dL 4 75 74,dM 5 76 10,⟨6,⟨some 77,.call l2_ [(tT 71),(tT 75),(tT 76)],none⟩,[]⟩,dM 7 78 77] [(26,71),(27,72),(28,73),(29,74),(30,75),(31,76),(32,77),(11,78)]) (.seq [33,34,35] (.region [tM 33 6,tM 34 11,⟨some 35,.call l3_ [(tT 33),(tT 34)],none⟩,tM 12 35]) (.seq [11,37,44,45,46,47] (.seq [36] (.region [tM 36 12,tS 37 (.bin .lss .scalar (tT 36) (tK 0))]) (.cond (tT 37) (.seq [37,38,39] (.region [tM 38 6,tS 39 (.lenSl (tT 38)),tM 12 39]) (.seq [42] (.seq [40,41] (.region [tM 40 12,tM 41 1,tS 42 (.bin .geq .scalar (tT 40) (tT 41))]) (.cond (tT 42) (.seq [1,2,6,7,8,9,10,11,12,42,43] (.region [tS 43 (.build [.nils,.nils] []),tW 2 4 43,tS 5 (.mv (tK 5))]) .ret) .skip)) (.region [tM 44 6,tM 45 11,tS 46 (.buildSlice 1 1 [.nils] [(0,1,(tT 45))]),tS 47 (.append 1 24 (tT 44) (tT 46)),tM 6 47]))) .skip)) (.lab a1L))))) (.region [tM 24 10,tS 25 (.bin .add .scalar (tT 24) (tK 1)),tM 10 25]))
noncomputable def l7_:MCode:=.seq [9,51,52,53,54,55,56] (.region [tF 51 0 7,tL 52 51,tA 53 5 9,tS 54 (.buildSlice 5 1 [.int .i64 0,.int .i64 0,.int .i64 0,.int .i64 0,.int .i64 0] [(0,5,(tT 53))]),tS 55 (.append 5 40 (tT 52) (tT 54)),tF 56 0 7,tW 1 56 55]) (.regionD 71 [dF 0 71 1 7,dL 1 72 71,dM 2 73 6,dM 3 74 8,tD 4 75 (.idxSl 1 (tT 73) (tT 74)),dL 5 76 75,dF 6 77 2 2,dL 7 78 77,tD 8 79 (.idxSl 1 (tT 76) (tT 78)),dL 9 80 79,tD 10 81 (.buildSlice 1 1 [.bool false] [(0,1,(tT 80))]),tD 11 82 (.append 1 1 (tT 72) (tT 81)),dF 12 83 1 7,tD 13 84 (.store 1 (tT 83) (tT 82))] [(57,71),(58,72),(59,73),(60,74),(61,75),(62,76),(63,77),(64,78),(65,79),(66,80),(67,81),(68,82),(69,83)])
noncomputable def g8_:MCode:=.region [tM 20 8,tS 21 (.bin .add .scalar (tT 20) (tK 1)),tM 8 21]
noncomputable def e5_:MCode:=.seq [19] (.seq [16,17,18] (.region [tM 16 8,tM 17 6,tS 18 (.lenSl (tT 17)),tS 19 (.bin .lss .scalar (tT 16) (tT 18))]) (.cond (tT 19) .skip (.exit 0))) (.seq [57,58,59,60,61,62,63,64,65,66,67,68,69] (.block 1 (.seq [] (.region [tS 9 (.alloc [.int .i64 0,.int .i64 0,.int .i64 0,.int .i64 0,.int .i64 0])]) (.seq [10,23] (.seq [] (.region [tS 10 (.mv (tK 0))]) (.block 2 (.loop [24,25] t4_))) (.lab l7_)))) (.lab g8_))
noncomputable def b9_:MCode:=.seq [7,70] (.region [tA 70 2 7,tW 2 4 70,tS 5 (.mv (tK 0))]) .ret
def c0_:Res:=[(4,some (some 2)),(5,none)]
noncomputable def t5_:MFn:=⟨71,c0_,.seq [0,5] (.region [tS 2 (.box (tT 0)),tS 4 (.alloc [.nils,.nils]),tS 5 (.mv (tK 0))]) (.seq [13,14,15] (.region [tA 13 5 2,⟨some 14,.call j7_ [(tT 13)],none⟩,tS 15 (.buildSlice 1 1 [.nils] [(0,1,(tT 14))]),tM 6 15]) (.seq [] (.region [tS 7 (.alloc [.nils,.nils])]) (.seq [1,2,6,8,19] (.seq [] (.region [tS 8 (.mv (tK 0))]) (.block 0 (.loop [20,21] e5_))) (.lab b9_))))⟩
noncomputable def l8_ (T:Tab) (k j0:Nat) (a b c d e f:AV) (h:Heap):Option (AV × Heap):=
 loopB T k c0_ j0 [20,21] e5_ [.blk 0,.seq [1,2,6,8,19] (.lab b9_)] [.u,a,b,.u,c,.u,d,e,f,.u,.u,.u,.u,.u,.u,.u,.u,.u,.u,.u,.u,.u,.u,.u,.u,.u,.u,.u,.u,.u,.u,.u,.u,.u,.u,.u,.u,.u,.u,.u,.u,.u,.u,.u,.u,.u,.u,.u,.u,.u,.u,.u,.u,.u,.u,.u,.u,.u,.u,.u,.u,.u,.u,.u,.u,.u,.u,.u,.u,.u,.u] h
noncomputable def l9_ (T:Tab) (k j0 j1:Nat) (a b c d e f g i:AV) (h:Heap):Option (AV × Heap):=
 loopB T k c0_ j1 [24,25] t4_ [.blk 2,.seq [10,23] (.lab l7_),.blk 1,.seq [57,58,59,60,61,62,63,64,65,66,67,68,69] (.lab g8_),.lp j0 [20,21] e5_,.blk 0,.seq [1,2,6,8,19] (.lab b9_)] [.u,a,b,.u,c,.u,d,e,f,g,i,.u,.u,.u,.u,.u,.u,.u,.u,.u,.u,.u,.u,.u,.u,.u,.u,.u,.u,.u,.u,.u,.u,.u,.u,.u,.u,.u,.u,.u,.u,.u,.u,.u,.u,.u,.u,.u,.u,.u,.u,.u,.u,.u,.u,.u,.u,.u,.u,.u,.u,.u,.u,.u,.u,.u,.u,.u,.u,.u,.u] h
noncomputable def m0_ (T:Tab) (k j0 j1:Nat) (a b c d e f g i l:AV) (h:Heap):Option (AV × Heap):=
 evB T k c0_ a1L [.blk 3,.seq [12,48,49,50] (.region [⟨some 24,.op (.mv (.tmp 10)),none⟩,
 ⟨some 25,.op (.bin .add .scalar (.tmp 24) (.const (.int .i64 1))),none⟩,
 ⟨some 10,.op (.mv (.tmp 25)),none⟩]),.lp j1 [24,25] t4_,.blk 2,.seq [10,23] (.lab l7_),.blk 1,.seq [57,58,59,60,61,62,63,64,65,66,67,68,69] (.lab g8_),.lp j0 [20,21] e5_,.blk 0,.seq [1,2,6,8,19] (.lab b9_)] [.undef,a,b,.undef,c,.undef,d,e,f,g,i,.undef,l,.undef,.undef,.undef,.undef,.undef,.undef,.undef,.undef,.undef,.undef,.undef,.undef,.undef,.undef,.undef,.undef,.undef,.undef,.undef,.undef,.undef,.undef,.undef,.undef,.undef,.undef,.undef,.undef,.undef,.undef,.undef,.undef,.undef,.undef,.undef,.undef,.undef,.undef,.undef,.undef,.undef,.undef,.undef,.undef,.undef,.undef,.undef,.undef,.undef,.undef,.undef,.undef,.undef,.undef,.undef,.undef,.undef,.undef] h
noncomputable def t6_ (T:Tab) (k j0:Nat) (a b c d e f g:AV) (h:Heap):Option (AV × Heap):=
 evB T k c0_ l7_ [.blk 1,.seq [57,58,59,60,61,62,63,64,65,66,67,68,69] (.lab g8_),.lp j0 [20,21] e5_,.blk 0,.seq [1,2,6,8,19] (.lab b9_)] [.u,a,b,.u,c,.u,d,e,f,g,.u,.u,.u,.u,.u,.u,.u,.u,.u,.u,.u,.u,.u,.u,.u,.u,.u,.u,.u,.u,.u,.u,.u,.u,.u,.u,.u,.u,.u,.u,.u,.u,.u,.u,.u,.u,.u,.u,.u,.u,.u,.u,.u,.u,.u,.u,.u,.u,.u,.u,.u,.u,.u,.u,.u,.u,.u,.u,.u,.u,.u] h
noncomputable def a1M (T:Tab) (k j0:Nat) (a b c d e f:AV) (h:Heap):Option (AV × Heap):=
 evB T k c0_ g8_ [.lp j0 [20,21] e5_,.blk 0,.seq [1,2,6,8,19] (.lab b9_)] [.u,a,b,.u,c,.u,d,e,f,.u,.u,.u,.u,.u,.u,.u,.u,.u,.u,.u,.u,.u,.u,.u,.u,.u,.u,.u,.u,.u,.u,.u,.u,.u,.u,.u,.u,.u,.u,.u,.u,.u,.u,.u,.u,.u,.u,.u,.u,.u,.u,.u,.u,.u,.u,.u,.u,.u,.u,.u,.u,.u,.u,.u,.u,.u,.u,.u,.u,.u,.u] h
noncomputable def t7_ (T:Tab) (k:Nat) (a b:AV) (h:Heap):Option (AV × Heap):=
 evB T k c0_ b9_ [] [.u,.u,.u,.u,a,.u,.u,b,.u,.u,.u,.u,.u,.u,.u,.u,.u,.u,.u,.u,.u,.u,.u,.u,.u,.u,.u,.u,.u,.u,.u,.u,.u,.u,.u,.u,.u,.u,.u,.u,.u,.u,.u,.u,.u,.u,.u,.u,.u,.u,.u,.u,.u,.u,.u,.u,.u,.u,.u,.u,.u,.u,.u,.u,.u,.u,.u,.u,.u,.u,.u] h
theorem a5y (T:Tab) (k j0 j1:Nat) (a b c d e f g i l:AV) (h:Heap):m0_ T k j0 j1 a b c d e f g i l h =
 oa (idxA 5 1 g i) fun m=>
 oh (stN 1 h m l) fun n=>
 oa (binV .add .scalar i (.int .i64 1)) fun o=>
 l9_ T k j0 j1 a b c d e f g o n:=blockEq (by kernel_rfl)
theorem a5z (T:Tab) (k j0:Nat) (a b c d e f:AV) (h:Heap):a1M T k j0 a b c d e f h =
 oa (binV .add .scalar f (.int .i64 1)) fun g=>
 l8_ T k j0 a b c d e g h:=blockEq (by kernel_rfl)
theorem a5A (T:Tab) (k j0:Nat) (a b c d e f g:AV) (h:Heap):t6_ T k j0 a b c d e f g h =
 oa (fldA 0 e) fun i=>
 oa (ld1 h i) fun l=>
 oa (ldN 5 h g) fun m=>
 ob (buildSl 5 1 [.int .i64 0,.int .i64 0,.int .i64 0,.int .i64 0,.int .i64 0] [(0,5,m)] h) fun n o=>
 ob (apnd 5 40 l n o) fun p q=>
 oa (fldA 0 e) fun r=>
 oh (stN 1 q r p) fun s=>
 oa (fldA 1 e) fun t=>
 oa (ld1 s t) fun u=>
 oa (idxS 1 d f) fun v=>
 oa (ld1 s v) fun w=>
 oa (fldA 2 b) fun x=>
 oa (ld1 s x) fun y=>
 oa (idxS 1 w y) fun z=>
 oa (ld1 s z) fun aa=>
 ob (buildSl 1 1 [.bool false] [(0,1,aa)] s) fun ab ac=>
 ob (apnd 1 1 u ab ac) fun ad ae=>
 oa (fldA 1 e) fun af=>
 oh (stN 1 ae af ad) fun ag=>
 a1M T k j0 a b c d e f ag:=blockEq (by kernel_rfl)
theorem a0Q (T:Tab) (k j0 j1:Nat) (a b c d e f g i:AV) (h:Heap):l9_ T k j0 (j1+1) a b c d e f g i h =
 oa (binV .lss .scalar i (.int .i64 5)) fun l=>
 cond2 l
 (
 oa (ldN 5 h b) fun m=>
 oa (idxS 1 d f) fun n=>
 oa (ld1 h n) fun o=>
 ob (evalFn T k l2_ [m,o,i] h) fun p q=>
 ob (evalFn T k l3_ [d,p] q) fun r s=>
 oa (binV .lss .scalar r (.int .i64 0)) fun t=>
 cond2 t
 (
 oa (lenS d) fun u=>
 oa (binV .geq .scalar u a) fun v=>
 cond2 v
 (
 oa (buildV [.nils,.nils] []) fun w=>
 oh (stN 2 s c w) fun x=>
 oa (ldN 2 x c) fun y=>
 some (.tup [y,(.int .i64 5)],x)
 )
 (
 ob (buildSl 1 1 [.nils] [(0,1,p)] s) fun z aa=>
 ob (apnd 1 24 d z aa) fun ab ac=>
 m0_ T k j0 j1 a b c ab e f g i u ac
 )
 )
 (
 m0_ T k j0 j1 a b c d e f g i r s
 )
 )
 (
 t6_ T k j0 a b c d e f g h
 ):=loopEq (by kernel_rfl)
theorem a5B (T:Tab) (k:Nat) (a b:AV) (h:Heap):t7_ T k a b h =
 oa (ldN 2 h b) fun c=>
 oh (stN 2 h a c) fun d=>
 oa (ldN 2 d a) fun e=>
 some (.tup [e,(.int .i64 0)],d):=blockEq (by kernel_rfl)
theorem a5C (T:Tab) (k j0:Nat) (a b c d e f:AV) (h:Heap):l8_ T k (j0+1) a b c d e f h =
 oa (lenS d) fun g=>
 oa (binV .lss .scalar f g) fun i=>
 cond2 i
 (
 ob (newVar h [.int .i64 0,.int .i64 0,.int .i64 0,.int .i64 0,.int .i64 0]) fun l m=>
 l9_ T k j0 k a b c d e f l (.int .i64 0) m
 )
 (
 t7_ T k c e h
 ):=loopEq (by kernel_rfl)
theorem a6G (T:Tab) (k:Nat) (a b:AV) (h:Heap):runF T k t5_ [a,b] h =
 ob (newVar h (AV.cells a)) fun c d=>
 ob (newVar d [.nils,.nils]) fun e f=>
 oa (ldN 5 f c) fun g=>
 ob (evalFn T k j7_ [g] f) fun i l=>
 ob (buildSl 1 1 [.nils] [(0,1,i)] l) fun m n=>
 ob (newVar n [.nils,.nils]) fun o p=>
 l8_ T k k b c e m o (.int .i64 0) p:=runEq (by kernel_rfl)
noncomputable def a1w:MCode:=.region [tM 63 9,tM 64 5,tM 65 3,tM 66 10,tX 67 1 65 66,tL 68 67,tX 69 1 64 68,tL 70 69,tS 71 (.bin .sub .scalar (tT 70) (tK 1)),tS 72 (.idxArr 5 1 (tT 8) (tT 63)),tW 1 72 71]
noncomputable def s5_:MCode:=.seq [30] (.seq [29] (.region [tM 29 9,tS 30 (.bin .lss .scalar (tT 29) (tK 5))]) (.cond (tT 30) .skip (.exit 2))) (.seq [10,63,64,65,66,67,68,69,70,71,72] (.block 3 (.seq [33,34,35,36,37,38,39,40,41,42] (.regionD 93 [dF 0 93 0 1,dL 1 94 93,dM 2 95 6,dM 3 96 7,tD 4 97 (.idxSl 1 (tT 95) (tT 96)),dL 5 98 97,dM 6 99 9,tD 7 100 (.idxSl 5 (tT 94) (tT 98)),tD 8 101 (.idxArr 5 1 (tT 100) (tT 99)),dL 9 102 101,dM 10 103 102] [(33,93),(34,94),(35,95),(36,96),(37,97),(38,98),(39,99),(40,100),(41,101),(42,102),(10,103)]) (.seq [50,55,56,57,58,59,60,61,62] (.seq [43,44,45,46,47,48,49] (.region [tM 43 5,tM 44 3,tM 45 10,tX 46 1 44 45,tL 47 46,tX 48 1 43 47,tL 49 48,tS 50 (.bin .eql .scalar (tT 49) (tK 0))]) (.cond (tT 50) (.seq [50,51,52,53,54] (.region [tM 51 6,tM 52 10,tS 53 (.buildSlice 1 1 [.int .i64 0] [(0,1,(tT 52))]),tS 54 (.append 1 8 (tT 51) (tT 53)),tM 6 54]) (.region [tM 55 5,tM 56 3,tM 57 10,tX 58 1 56 57,tL 59 58,tM 60 6,tS 61 (.lenSl (tT 60)),tX 62 1 55 59,tW 1 62 61])) .skip)) (.lab a1w)))) (.region [tM 31 9,tS 32 (.bin .add .scalar (tT 31) (tK 1)),tM 9 32]))
noncomputable def k2_:MCode:=.seq [8,73,74,75,76,77,78] (.region [tF 73 0 4,tL 74 73,tA 75 5 8,tS 76 (.buildSlice 5 1 [.int .i64 0,.int .i64 0,.int .i64 0,.int .i64 0,.int .i64 0] [(0,5,(tT 75))]),tS 77 (.append 5 40 (tT 74) (tT 76)),tF 78 0 4,tW 1 78 77]) (.regionD 93 [dF 0 93 1 4,dL 1 94 93,dF 2 95 1 1,dL 3 96 95,dM 4 97 6,dM 5 98 7,tD 6 99 (.idxSl 1 (tT 97) (tT 98)),dL 7 100 99,tD 8 101 (.idxSl 1 (tT 96) (tT 100)),dL 9 102 101,tD 10 103 (.buildSlice 1 1 [.bool false] [(0,1,(tT 102))]),tD 11 104 (.append 1 1 (tT 94) (tT 103)),dF 12 105 1 4,tD 13 106 (.store 1 (tT 105) (tT 104))] [(79,93),(80,94),(81,95),(82,96),(83,97),(84,98),(85,99),(86,100),(87,101),(88,102),(89,103),(90,104),(91,105)])
noncomputable def f4_:MCode:=.region [tM 27 7,tS 28 (.bin .add .scalar (tT 27) (tK 1)),tM 7 28]
noncomputable def d2_:MCode:=.seq [26] (.seq [23,24,25] (.region [tM 23 7,tM 24 6,tS 25 (.lenSl (tT 24)),tS 26 (.bin .lss .scalar (tT 23) (tT 25))]) (.cond (tT 26) .skip (.exit 0))) (.seq [79,80,81,82,83,84,85,86,87,88,89,90,91] (.block 1 (.seq [] (.region [tS 8 (.alloc [.int .i64 0,.int .i64 0,.int .i64 0,.int .i64 0,.int .i64 0])]) (.seq [9,30] (.seq [] (.region [tS 9 (.mv (tK 0))]) (.block 2 (.loop [31,32] s5_))) (.lab k2_)))) (.lab f4_))
def d3_:Res:=[(2,some (some 2))]
noncomputable def s6_:MFn:=⟨93,d3_,.seq [0] (.region [tS 1 (.box (tT 0)),tS 2 (.alloc [.nils,.nils])]) (.seq [11,12] (.region [tA 11 2 1,⟨some 12,.call i2_ [(tT 11)],none⟩,tM 3 12]) (.seq [] (.region [tS 4 (.alloc [.nils,.nils])]) (.seq [13,14,15,16] (.region [tF 13 0 1,tL 14 13,tS 15 (.lenSl (tT 14)),tS 16 (.mkSlice [.int .i64 0] 1 8 (tT 15) (tT 15)),tM 5 16]) (.seq [17] (.region [tS 17 (.buildSlice 1 1 [.int .i64 0] [(0,1,(tK 0))]),tM 6 17]) (.seq [18,19,20,21,22] (.region [tM 18 5,tM 19 3,tS 20 (.idxSl 1 (tT 19) (tK 0)),tL 21 20,tX 22 1 18 21,⟨none,.op (.store 1 (tT 22) (tK 1)),none⟩]) (.seq [1,3,5,6,7,26] (.seq [] (.region [tS 7 (.mv (tK 0))]) (.block 0 (.loop [27,28] d2_))) (.seq [4,92] (.region [tA 92 2 4,tW 2 2 92]) .ret)))))))⟩
noncomputable def k3_ (T:Tab) (k j0:Nat) (a b c d e f g:AV) (h:Heap):Option (AV × Heap):=
 loopB T k d3_ j0 [27,28] d2_ [.blk 0,.seq [1,3,5,6,7,26] (.seq [4,92] (.region [⟨some 92,.op (.load (some 2) (.tmp 4)),none⟩,
 ⟨none,.op (.store 2 (.tmp 2) (.tmp 92)),none⟩]) .ret)] [.undef,a,b,c,d,e,f,g,.undef,.undef,.undef,.undef,.undef,.undef,.undef,.undef,.undef,.undef,.undef,.undef,.undef,.undef,.undef,.undef,.undef,.undef,.undef,.undef,.undef,.undef,.undef,.undef,.undef,.undef,.undef,.undef,.undef,.undef,.undef,.undef,.undef,.undef,.undef,.undef,.undef,.undef,.undef,.undef,.undef,.undef,.undef,.undef,.undef,.undef,.undef,.undef,.undef,.undef,.undef,.undef,.undef,.undef,.undef,.undef,.undef,.undef,.undef,.undef,.undef,.undef,.undef,.undef,.undef,.undef,.undef,.undef,.undef,.undef,.undef,.undef,.undef,.undef,.undef,.undef,.undef,.undef,.undef,.undef,.undef,.undef,.undef,.undef,.undef] h
noncomputable def k4_ (T:Tab) (k j0 j1:Nat) (a b c d e f g i l:AV) (h:Heap):Option (AV × Heap):=
 loopB T k d3_ j1 [31,32] s5_ [.blk 2,.seq [9,30] (.lab k2_),.blk 1,.seq [79,80,81,82,83,84,85,86,87,88,89,90,91] (.lab f4_),.lp j0 [27,28] d2_,.blk 0,.seq [1,3,5,6,7,26] (.seq [4,92] (.region [⟨some 92,.op (.load (some 2) (.tmp 4)),none⟩,
 ⟨none,.op (.store 2 (.tmp 2) (.tmp 92)),none⟩]) .ret)] [.undef,a,b,c,d,e,f,g,i,l,.undef,.undef,.undef,.undef,.undef,.undef,.undef,.undef,.undef,.undef,.undef,.undef,.undef,.undef,.undef,.undef,.undef,.undef,.undef,.undef,.undef,.undef,.undef,.undef,.undef,.undef,.undef,.undef,.undef,.undef,.undef,.undef,.undef,.undef,.undef,.undef,.undef,.undef,.undef,.undef,.undef,.undef,.undef,.undef,.undef,.undef,.undef,.undef,.undef,.undef,.undef,.undef,.undef,.undef,.undef,.undef,.undef,.undef,.undef,.undef,.undef,.undef,.undef,.undef,.undef,.undef,.undef,.undef,.undef,.undef,.undef,.undef,.undef,.undef,.undef,.undef,.undef,.undef,.undef,.undef,.undef,.undef,.undef] h
noncomputable def k5_ (T:Tab) (k j0 j1:Nat) (a b c d e f g i l m:AV) (h:Heap):Option (AV × Heap):=
 evB T k d3_ a1w [.blk 3,.seq [10,63,64,65,66,67,68,69,70,71,72] (.region [⟨some 31,.op (.mv (.tmp 9)),none⟩,
 ⟨some 32,.op (.bin .add .scalar (.tmp 31) (.const (.int .i64 1))),none⟩,
 ⟨some 9,.op (.mv (.tmp 32)),none⟩]),.lp j1 [31,32] s5_,.blk 2,.seq [9,30] (.lab k2_),.blk 1,.seq [79,80,81,82,83,84,85,86,87,88,89,90,91] (.lab f4_),.lp j0 [27,28] d2_,.blk 0,.seq [1,3,5,6,7,26] (.seq [4,92] (.region [⟨some 92,.op (.load (some 2) (.tmp 4)),none⟩,
 ⟨none,.op (.store 2 (.tmp 2) (.tmp 92)),none⟩]) .ret)] [.undef,a,b,c,d,e,f,g,i,l,m,.undef,.undef,.undef,.undef,.undef,.undef,.undef,.undef,.undef,.undef,.undef,.undef,.undef,.undef,.undef,.undef,.undef,.undef,.undef,.undef,.undef,.undef,.undef,.undef,.undef,.undef,.undef,.undef,.undef,.undef,.undef,.undef,.undef,.undef,.undef,.undef,.undef,.undef,.undef,.undef,.undef,.undef,.undef,.undef,.undef,.undef,.undef,.undef,.undef,.undef,.undef,.undef,.undef,.undef,.undef,.undef,.undef,.undef,.undef,.undef,.undef,.undef,.undef,.undef,.undef,.undef,.undef,.undef,.undef,.undef,.undef,.undef,.undef,.undef,.undef,.undef,.undef,.undef,.undef,.undef,.undef,.undef] h
noncomputable def s7_ (T:Tab) (k j0:Nat) (a b c d e f g i:AV) (h:Heap):Option (AV × Heap):=
 evB T k d3_ k2_ [.blk 1,.seq [79,80,81,82,83,84,85,86,87,88,89,90,91] (.lab f4_),.lp j0 [27,28] d2_,.blk 0,.seq [1,3,5,6,7,26] (.seq [4,92] (.region [⟨some 92,.op (.load (some 2) (.tmp 4)),none⟩,
 ⟨none,.op (.store 2 (.tmp 2) (.tmp 92)),none⟩]) .ret)] [.undef,a,b,c,d,e,f,g,i,.undef,.undef,.undef,.undef,.undef,.undef,.undef,.undef,.undef,.undef,.undef,.undef,.undef,.undef,.undef,.undef,.undef,.undef,.undef,.undef,.undef,.undef,.undef,.undef,.undef,.undef,.undef,.undef,.undef,.undef,.undef,.undef,.undef,.undef,.undef,.undef,.undef,.undef,.undef,.undef,.undef,.undef,.undef,.undef,.undef,.undef,.undef,.undef,.undef,.undef,.undef,.undef,.undef,.undef,.undef,.undef,.undef,.undef,.undef,.undef,.undef,.undef,.undef,.undef,.undef,.undef,.undef,.undef,.undef,.undef,.undef,.undef,.undef,.undef,.undef,.undef,.undef,.undef,.undef,.undef,.undef,.undef,.undef,.undef] h
noncomputable def a1x (T:Tab) (k j0:Nat) (a b c d e f g:AV) (h:Heap):Option (AV × Heap):=
 evB T k d3_ f4_ [.lp j0 [27,28] d2_,.blk 0,.seq [1,3,5,6,7,26] (.seq [4,92] (.region [⟨some 92,.op (.load (some 2) (.tmp 4)),none⟩,
 ⟨none,.op (.store 2 (.tmp 2) (.tmp 92)),none⟩]) .ret)] [.undef,a,b,c,d,e,f,g,.undef,.undef,.undef,.undef,.undef,.undef,.undef,.undef,.undef,.undef,.undef,.undef,.undef,.undef,.undef,.undef,.undef,.undef,.undef,.undef,.undef,.undef,.undef,.undef,.undef,.undef,.undef,.undef,.undef,.undef,.undef,.undef,.undef,.undef,.undef,.undef,.undef,.undef,.undef,.undef,.undef,.undef,.undef,.undef,.undef,.undef,.undef,.undef,.undef,.undef,.undef,.undef,.undef,.undef,.undef,.undef,.undef,.undef,.undef,.undef,.undef,.undef,.undef,.undef,.undef,.undef,.undef,.undef,.undef,.undef,.undef,.undef,.undef,.undef,.undef,.undef,.undef,.undef,.undef,.undef,.undef,.undef,.undef,.undef,.undef] h
theorem a5h (T:Tab) (k j0 j1:Nat) (a b c d e f g i l m:AV) (h:Heap):k5_ T k j0 j1 a b c d e f g i l m h =
 oa (idxS 1 c m) fun n=>
 oa (ld1 h n) fun o=>
 oa (idxS 1 e o) fun p=>
 oa (ld1 h p) fun q=>
 oa (binV .sub .scalar q (.int .i64 1)) fun r=>
 oa (idxA 5 1 i l) fun s=>
 oh (stN 1 h s r) fun t=>
 oa (binV .add .scalar l (.int .i64 1)) fun u=>
 k4_ T k j0 j1 a b c d e f g i u t:=blockEq (by kernel_rfl)
theorem a5i (T:Tab) (k j0:Nat) (a b c d e f g:AV) (h:Heap):a1x T k j0 a b c d e f g h =
 oa (binV .add .scalar g (.int .i64 1)) fun i=>
 k3_ T k j0 a b c d e f i h:=blockEq (by kernel_rfl)
theorem a5j (T:Tab) (k j0:Nat) (a b c d e f g i:AV) (h:Heap):s7_ T k j0 a b c d e f g i h =
 oa (fldA 0 d) fun l=>
 oa (ld1 h l) fun m=>
 oa (ldN 5 h i) fun n=>
 ob (buildSl 5 1 [.int .i64 0,.int .i64 0,.int .i64 0,.int .i64 0,.int .i64 0] [(0,5,n)] h) fun o p=>
 ob (apnd 5 40 m o p) fun q r=>
 oa (fldA 0 d) fun s=>
 oh (stN 1 r s q) fun t=>
 oa (fldA 1 d) fun u=>
 oa (ld1 t u) fun v=>
 oa (fldA 1 a) fun w=>
 oa (ld1 t w) fun x=>
 oa (idxS 1 f g) fun y=>
 oa (ld1 t y) fun z=>
 oa (idxS 1 x z) fun aa=>
 oa (ld1 t aa) fun ab=>
 ob (buildSl 1 1 [.bool false] [(0,1,ab)] t) fun ac ad=>
 ob (apnd 1 1 v ac ad) fun ae af=>
 oa (fldA 1 d) fun ag=>
 oh (stN 1 af ag ae) fun ai=>
 a1x T k j0 a b c d e f g ai:=blockEq (by kernel_rfl)
theorem a0q (T:Tab) (k j0 j1:Nat) (a b c d e f g i l:AV) (h:Heap):k4_ T k j0 (j1+1) a b c d e f g i l h =
 oa (binV .lss .scalar l (.int .i64 5)) fun m=>
 cond2 m
 (
 oa (fldA 0 a) fun n=>
 oa (ld1 h n) fun o=>
 oa (idxS 1 f g) fun p=>
 oa (ld1 h p) fun q=>
 oa (idxS 5 o q) fun r=>
 oa (idxA 5 1 r l) fun s=>
 oa (ld1 h s) fun t=>
 oa (idxS 1 c t) fun u=>
 oa (ld1 h u) fun v=>
 oa (idxS 1 e v) fun w=>
 oa (ld1 h w) fun x=>
 oa (binV .eql .scalar x (.int .i64 0)) fun y=>
 cond2 y
 (
 ob (buildSl 1 1 [.int .i64 0] [(0,1,t)] h) fun z aa=>
 ob (apnd 1 8 f z aa) fun ab ac=>
 oa (idxS 1 c t) fun ad=>
 oa (ld1 ac ad) fun ae=>
 oa (lenS ab) fun af=>
 oa (idxS 1 e ae) fun ag=>
 oh (stN 1 ac ag af) fun ai=>
 k5_ T k j0 j1 a b c d e ab g i l t ai
 )
 (
 k5_ T k j0 j1 a b c d e f g i l t h
 )
 )
 (
 s7_ T k j0 a b c d e f g i h
 ):=loopEq (by kernel_rfl)
theorem a0r (T:Tab) (k j0:Nat) (a b c d e f g:AV) (h:Heap):k3_ T k (j0+1) a b c d e f g h =
 oa (lenS f) fun i=>
 oa (binV .lss .scalar g i) fun l=>
 cond2 l
 (
 ob (newVar h [.int .i64 0,.int .i64 0,.int .i64 0,.int .i64 0,.int .i64 0]) fun m n=>
 k4_ T k j0 k a b c d e f g m (.int .i64 0) n
 )
 (
 oa (ldN 2 h d) fun o=>
 oh (stN 2 h b o) fun p=>
 oa (ldN 2 p b) fun q=>
 some (q,p)
 ):=loopEq (by kernel_rfl)
theorem a6l (T:Tab) (k:Nat) (a:AV) (h:Heap):runF T k s6_ [a] h =
 ob (newVar h (AV.cells a)) fun b c=>
 ob (newVar c [.nils,.nils]) fun d e=>
 oa (ldN 2 e b) fun f=>
 ob (evalFn T k i2_ [f] e) fun g i=>
 ob (newVar i [.nils,.nils]) fun l m=>
 oa (fldA 0 b) fun n=>
 oa (ld1 m n) fun o=>
 oa (lenS o) fun p=>
 ob (mkSl [.int .i64 0] 1 8 p p m) fun q r=>
 ob (buildSl 1 1 [.int .i64 0] [(0,1,(.int .i64 0))] r) fun s t=>
 oa (idxS 1 g (.int .i64 0)) fun u=>
 oa (ld1 t u) fun v=>
 oa (idxS 1 q v) fun w=>
 oh (stN 1 t w (.int .i64 1)) fun x=>
 k3_ T k k b d g l q s (.int .i64 0) x:=runEq (by kernel_rfl)
noncomputable def a2c:MCode:=.seq [13] (.seq [6,7,8,9,10,11,12] (.region [tM 6 0,tN 7 6,tF 8 5 7,tL 9 8,tM 10 1,tX 11 1 9 10,tL 12 11,tS 13 (.bin .geq .scalar (tT 12) (tK 0))]) (.cond (tT 13) .skip (.exit 0))) (.seq [21,22,23,24,25,26,27,28,29,30] (.block 1 (.region [tM 21 5,tM 22 0,tN 23 22,tF 24 4 23,tL 25 24,tM 26 1,tX 27 1 25 26,tL 28 27,tS 29 (.buildSlice 1 1 [.int .i64 0] [(0,1,(tT 28))]),tS 30 (.append 1 8 (tT 21) (tT 29)),tM 5 30])) (.region [tM 14 0,tN 15 14,tF 16 5 15,tL 17 16,tM 18 1,tX 19 1 17 18,tL 20 19,tM 1 20]))
noncomputable def v3_:MCode:=.seq [31,32] (.region [tM 31 5,⟨some 32,.call l1_ [(tT 31)],none⟩]) (.seq [5,33,34] (.region [tM 33 5,⟨some 34,.call g7_ [(tT 33)],none⟩,tM 4 34]) .ret)
def v4_:Res:=[(4,none)]
noncomputable def v5_:MFn:=⟨35,v4_,.seq [4] (.region [tS 4 (.mv (.const .nils))]) (.seq [] (.region [tS 5 (.mv (.const .nils))]) (.seq [0,1,13] (.block 0 (.loop [14,15,16,17,18,19,20] a2c)) (.lab v3_)))⟩
noncomputable def o7_ (T:Tab) (k j0:Nat) (a b c:AV) (h:Heap):Option (AV × Heap):=
 loopB T k v4_ j0 [14,15,16,17,18,19,20] a2c [.blk 0,.seq [0,1,13] (.lab v3_)] [a,b,.u,.u,.u,c,.u,.u,.u,.u,.u,.u,.u,.u,.u,.u,.u,.u,.u,.u,.u,.u,.u,.u,.u,.u,.u,.u,.u,.u,.u,.u,.u,.u,.u] h
noncomputable def v6_ (T:Tab) (k:Nat) (a:AV) (h:Heap):Option (AV × Heap):=
 evB T k v4_ v3_ [] [.u,.u,.u,.u,.u,a,.u,.u,.u,.u,.u,.u,.u,.u,.u,.u,.u,.u,.u,.u,.u,.u,.u,.u,.u,.u,.u,.u,.u,.u,.u,.u,.u,.u,.u] h
theorem a5R (T:Tab) (k:Nat) (a:AV) (h:Heap):v6_ T k a h =
 ob (evalFn T k l1_ [a] h) fun b c=>
 ob (evalFn T k g7_ [a] c) fun d e=>
 some (d,e):=blockEq (by kernel_rfl)
theorem a5S (T:Tab) (k j0:Nat) (a b c:AV) (h:Heap):o7_ T k (j0+1) a b c h =
 oa (nilCk a) fun d=>
 oa (fldA 5 d) fun e=>
 oa (ld1 h e) fun f=>
 oa (idxS 1 f b) fun g=>
 oa (ld1 h g) fun i=>
 oa (binV .geq .scalar i (.int .i64 0)) fun l=>
 cond2 l
 (
 oa (nilCk a) fun m=>
 oa (fldA 4 m) fun n=>
 oa (ld1 h n) fun o=>
 oa (idxS 1 o b) fun p=>
 oa (ld1 h p) fun q=>
 ob (buildSl 1 1 [.int .i64 0] [(0,1,q)] h) fun r s=>
 ob (apnd 1 8 c r s) fun t u=>
 oa (nilCk a) fun v=>
 oa (fldA 5 v) fun w=>
 oa (ld1 u w) fun x=>
 oa (idxS 1 x b) fun y=>
 oa (ld1 u y) fun z=>
 o7_ T k j0 a z t u
 )
 (
 v6_ T k c h
 ):=loopEq (by kernel_rfl)
theorem a7g (T:Tab) (k:Nat) (a b:AV) (h:Heap):runF T k v5_ [a,b] h =
 o7_ T k k a b .nils h:=runEq (by kernel_rfl)
noncomputable def a2z:MCode:=.seq [] (.region [tS 49 (.bin .lss .scalar (tT 48) (tT 47))]) (.seq [49] (.cond (tT 49) .skip (.exit 0)) (.seq [8,9,89,90,91,92,93,94,95,96,97,98,99,100,101,102,103,104] (.block 1 (.seq [50,51] (.region [tX 50 3 46 48,tA 51 3 50,tS 8 (.alloc [.int .i64 0,.int .i64 0,.int .i64 0]),tW 3 8 51]) (.seq [52,53,54,55,56,57,58] (.regionD 107 [dM 0 107 0,tD 1 108 (.nilCheck (tT 107)),dF 2 109 0 108,dL 3 110 109,dF 4 111 0 8,tD 5 112 (.load (some 2) (tT 111)),⟨6,⟨some 113,.call c7_ [(tT 110),(tT 112)],none⟩,[]⟩,dM 7 114 113] [(52,107),(53,108),(54,109),(55,110),(56,111),(57,112),(58,113),(9,114)]) (.seq [59,60,61,62,63,64,65,66,67,68,69,70,71,72,73,74,75,76,77,78,79,80,81,82,83,84,85,86,87,88] (.regionD 107 [dM 0 107 0,tD 1 108 (.nilCheck (tT 107)),dF 2 109 3 108,dL 3 110 109,dM 4 111 9,tD 5 112 (.idxSl 1 (tT 110) (tT 111)),dL 6 113 112,tD 7 114 (.bin .lss .scalar (tT 113) (tK 0)),dM 8 115 114,⟨9,⟨some 116,.op (.mv (tT 0)),some (115,true)⟩,[]⟩,⟨10,⟨some 117,.op (.nilCheck (tT 116)),some (115,true)⟩,[]⟩,⟨11,⟨some 118,.op (.fieldAddr 2 (tT 117)),some (115,true)⟩,[]⟩,⟨12,⟨some 119,.op (.load none (tT 118)),some (115,true)⟩,[]⟩,⟨13,⟨some 120,.op (.mv (tT 9)),some (115,true)⟩,[]⟩,⟨14,⟨some 121,.op (.mv (tT 5)),some (115,true)⟩,[]⟩,⟨15,⟨some 122,.op (.mv (tT 0)),some (115,true)⟩,[]⟩,⟨16,⟨some 123,.op (.nilCheck (tT 122)),some (115,true)⟩,[]⟩,⟨17,⟨some 124,.op (.fieldAddr 0 (tT 123)),some (115,true)⟩,[]⟩,⟨18,⟨some 125,.op (.load none (tT 124)),some (115,true)⟩,[]⟩,⟨19,⟨some 126,.op (.nilCheck (tT 125)),some (115,true)⟩,[]⟩,⟨20,⟨some 127,.op (.fieldAddr 0 (tT 126)),some (115,true)⟩,[]⟩,⟨21,⟨some 128,.op (.fieldAddr 1 (tT 127)),some (115,true)⟩,[]⟩,⟨22,⟨some 129,.op (.load none (tT 128)),some (115,true)⟩,[]⟩,⟨23,⟨some 130,.op (.fieldAddr 2 (tT 8)),some (115,true)⟩,[]⟩,⟨24,⟨some 131,.op (.load none (tT 130)),some (115,true)⟩,[]⟩,⟨25,⟨some 132,.op (.idxSl 4 (tT 129) (tT 131)),some (115,true)⟩,[]⟩,⟨26,⟨some 133,.op (.fieldAddr 3 (tT 132)),some (115,true)⟩,[]⟩,⟨27,⟨some 134,.op (.load none (tT 133)),some (115,true)⟩,[]⟩,⟨28,⟨some 135,.op (.bin .add .scalar (tT 121) (tT 134)),some (115,true)⟩,[]⟩,⟨29,⟨some 136,.call f1_ [(tT 119),(tT 120),(tT 135)],some (115,true)⟩,[]⟩,tD 30 137 (.pick (tT 115) (tT 136) (.const (.bool false)))] [(59,107),(60,108),(61,109),(62,110),(63,111),(64,112),(65,113),(66,114),(67,115),(68,116),(69,117),(70,118),(71,119),(72,120),(73,121),(74,122),(75,123),(76,124),(77,125),(78,126),(79,127),(80,128),(81,129),(82,130),(83,131),(84,132),(85,133),(86,134),(87,135),(88,136),(89,137)]) (.cond (tT 89) (.regionD 107 [dM 0 107 0,tD 1 108 (.nilCheck (tT 107)),dF 2 109 4 108,dL 3 110 109,dM 4 111 9,dM 5 112 0,tD 6 113 (.nilCheck (tT 112)),dF 7 114 5 113,dL 8 115 114,dM 9 116 9,dF 10 117 2 8,dL 11 118 117,dM 12 119 4,tD 13 120 (.idxSl 1 (tT 110) (tT 111)),tD 14 121 (.store 1 (tT 120) (tT 118)),tD 15 122 (.idxSl 1 (tT 115) (tT 116)),tD 16 123 (.store 1 (tT 122) (tT 119))] [(90,107),(91,108),(92,109),(93,110),(94,111),(95,112),(96,113),(97,114),(98,115),(99,116),(100,117),(101,118),(102,119),(103,120),(104,122)]) .skip))))) (.region [tS 105 (.bin .add .scalar (tT 48) (tK 1)),tM 48 105])))
noncomputable def y5_:MCode:=.seq [4,106] (.region [tM 106 4,tM 2 106,tS 3 (.mv (.const (.bool true)))]) .ret
def y6_:Res:=[(2,none),(3,none)]
noncomputable def y7_:MFn:=⟨107,y6_,.seq [2,3] (.region [tS 2 (.mv (tK 0)),tS 3 (.mv (.const (.bool false)))]) (.seq [10,11,12,13,14,15,16,17,18] (.region [tM 11 0,tN 12 11,tF 13 2 12,tL 14 13,⟨some 15,.call m3_ [(tT 14)],none⟩,tM 10 15,tS 16 (.extract 0 (tT 10)),tS 17 (.extract 1 (tT 10)),tS 18 (.extract 2 (tT 10)),tM 4 16,tM 5 17,tM 6 18]) (.seq [20] (.seq [6,19] (.region [tM 19 6,tS 20 (.un .not (tT 19))]) (.cond (tT 20) (.seq [0,4,5,20] (.region [tS 2 (.mv (tK 0)),tS 3 (.mv (.const (.bool false)))]) .ret) .skip)) (.seq [21,22,23,24,25,26,27,28,29,30,31] (.region [tM 21 0,tN 22 21,tF 23 3 22,tL 24 23,tM 25 4,tM 26 0,tM 27 5,tM 28 5,tX 29 1 24 25,tW 1 29 27,tN 30 26,tF 31 6 30,tW 1 31 28]) (.seq [0,5,46,47,48,49] (.seq [32,33,34,35,36,37,38,39,40,41,42,43,44,45] (.regionD 107 [dM 0 107 0,tD 1 108 (.nilCheck (tT 107)),dF 2 109 1 108,dL 3 110 109,dM 4 111 0,tD 5 112 (.nilCheck (tT 111)),dF 6 113 0 112,dL 7 114 113,dM 8 115 0,tD 9 116 (.nilCheck (tT 115)),dF 10 117 0 116,dL 11 118 117,dM 12 119 4,tD 16 123 (.mv (tK 0)),⟨13,⟨some 120,.call l0_ [(tT 118),(tT 119)],none⟩,[(110,tL 110 109),(114,tL 114 113)]⟩,⟨14,⟨some 121,.callV (tT 110) [(tT 114),(tT 120)],none⟩,[]⟩,tD 15 122 (.lenSl (tT 121))] [(32,107),(33,108),(34,109),(35,110),(36,111),(37,112),(38,113),(39,114),(40,115),(41,116),(42,117),(43,118),(44,119),(45,120),(46,121),(47,122),(48,123)]) (.block 0 (.loop [105] a2z))) (.lab y5_)))))⟩
noncomputable def i4_ (T:Tab) (k j0:Nat) (a b c d e f:AV) (h:Heap):Option (AV × Heap):=
 loopB T k y6_ j0 [105] a2z [.blk 0,.seq [0,5,46,47,48,49] (.lab y5_)] [a,.u,.u,.u,b,c,.u,.u,.u,.u,.u,.u,.u,.u,.u,.u,.u,.u,.u,.u,.u,.u,.u,.u,.u,.u,.u,.u,.u,.u,.u,.u,.u,.u,.u,.u,.u,.u,.u,.u,.u,.u,.u,.u,.u,.u,d,e,f,.u,.u,.u,.u,.u,.u,.u,.u,.u,.u,.u,.u,.u,.u,.u,.u,.u,.u,.u,.u,.u,.u,.u,.u,.u,.u,.u,.u,.u,.u,.u,.u,.u,.u,.u,.u,.u,.u,.u,.u,.u,.u,.u,.u,.u,.u,.u,.u,.u,.u,.u,.u,.u,.u,.u,.u,.u,.u] h
noncomputable def a2A (T:Tab) (k:Nat) (a:AV) (h:Heap):Option (AV × Heap):=
 evB T k y6_ y5_ [] [.u,.u,.u,.u,a,.u,.u,.u,.u,.u,.u,.u,.u,.u,.u,.u,.u,.u,.u,.u,.u,.u,.u,.u,.u,.u,.u,.u,.u,.u,.u,.u,.u,.u,.u,.u,.u,.u,.u,.u,.u,.u,.u,.u,.u,.u,.u,.u,.u,.u,.u,.u,.u,.u,.u,.u,.u,.u,.u,.u,.u,.u,.u,.u,.u,.u,.u,.u,.u,.u,.u,.u,.u,.u,.u,.u,.u,.u,.u,.u,.u,.u,.u,.u,.u,.u,.u,.u,.u,.u,.u,.u,.u,.u,.u,.u,.u,.u,.u,.u,.u,.u,.u,.u,.u,.u,.u] h
theorem a6m (T:Tab) (k:Nat) (a:AV) (h:Heap):a2A T k a h =
 some (.tup [a,(.bool true)],h):=blockEq (by kernel_rfl)
theorem a1y (T:Tab) (k j0:Nat) (a b c d e f:AV) (h:Heap):i4_ T k (j0+1) a b c d e f h =
 oa (binV .lss .scalar f e) fun g=>
 cond2 g
 (
 oa (idxS 3 d f) fun i=>
 oa (ldN 3 h i) fun l=>
 ob (newVar h [.int .i64 0,.int .i64 0,.int .i64 0]) fun m n=>
 oh (stN 3 n m l) fun o=>
 oa (nilCk a) fun p=>
 oa (fldA 0 p) fun q=>
 oa (ld1 o q) fun r=>
 oa (fldA 0 m) fun s=>
 oa (ldN 2 o s) fun t=>
 ob (evalFn T k c7_ [r,t] o) fun u v=>
 oa (nilCk a) fun w=>
 oa (fldA 3 w) fun x=>
 oa (ld1 v x) fun y=>
 oa (idxS 1 y u) fun z=>
 oa (ld1 v z) fun aa=>
 oa (binV .lss .scalar aa (.int .i64 0)) fun ab=>
 ob (gd ab true (some (a,v)) v) fun ac ad=>
 ob (gd ab true (pure1 ad (nilCk ac)) ad) fun ae af=>
 ob (gd ab true (pure1 af (fldA 2 ae)) af) fun ag ai=>
 ob (gd ab true (pure1 ai (ld1 ai ag)) ai) fun al am=>
 ob (gd ab true (some (u,am)) am) fun an ao=>
 ob (gd ab true (some (c,ao)) ao) fun ap aq=>
 ob (gd ab true (some (a,aq)) aq) fun ar as=>
 ob (gd ab true (pure1 as (nilCk ar)) as) fun au av=>
 ob (gd ab true (pure1 av (fldA 0 au)) av) fun aw ax=>
 ob (gd ab true (pure1 ax (ld1 ax aw)) ax) fun ay az=>
 ob (gd ab true (pure1 az (nilCk ay)) az) fun a0 a1=>
 ob (gd ab true (pure1 a1 (fldA 0 a0)) a1) fun a2 a3=>
 ob (gd ab true (pure1 a3 (fldA 1 a2)) a3) fun a4 a5=>
 ob (gd ab true (pure1 a5 (ld1 a5 a4)) a5) fun a6 a7=>
 ob (gd ab true (pure1 a7 (fldA 2 m)) a7) fun a8 a9=>
 ob (gd ab true (pure1 a9 (ld1 a9 a8)) a9) fun ba bb=>
 ob (gd ab true (pure1 bb (idxS 4 a6 ba)) bb) fun bc bd=>
 ob (gd ab true (pure1 bd (fldA 3 bc)) bd) fun be bf=>
 ob (gd ab true (pure1 bf (ld1 bf be)) bf) fun bg bi=>
 ob (gd ab true (pure1 bi (binV .add .scalar ap bg)) bi) fun bl bm=>
 ob (gd ab true (evalFn T k f1_ [al,an,bl] bm) bm) fun bn bo=>
 oa (pickV ab bn (.bool false)) fun bp=>
 cond2 bp
 (
 oa (nilCk a) fun bq=>
 oa (fldA 4 bq) fun br=>
 oa (ld1 bo br) fun bs=>
 oa (nilCk a) fun bt=>
 oa (fldA 5 bt) fun bu=>
 oa (ld1 bo bu) fun bv=>
 oa (fldA 2 m) fun bw=>
 oa (ld1 bo bw) fun bx=>
 oa (idxS 1 bs u) fun bz=>
 oh (stN 1 bo bz bx) fun b0=>
 oa (idxS 1 bv u) fun b1=>
 oh (stN 1 b0 b1 b) fun b2=>
 oa (binV .add .scalar f (.int .i64 1)) fun b3=>
 i4_ T k j0 a b c d e b3 b2
 )
 (
 oa (binV .add .scalar f (.int .i64 1)) fun b4=>
 i4_ T k j0 a b c d e b4 bo
 )
 )
 (
 a2A T k b h
 ):=loopEq (by kernel_rfl)
theorem a8a (T:Tab) (k:Nat) (a:AV) (h:Heap):runF T k y7_ [a] h =
 oa (nilCk a) fun b=>
 oa (fldA 2 b) fun c=>
 oa (ld1 h c) fun d=>
 ob (evalFn T k m3_ [d] h) fun e f=>
 oa (extr 0 e) fun g=>
 oa (extr 1 e) fun i=>
 oa (extr 2 e) fun l=>
 oa (unV .not l) fun m=>
 cond2 m
 (
 some (.tup [(.int .i64 0),(.bool false)],f)
 )
 (
 oa (nilCk a) fun n=>
 oa (fldA 3 n) fun o=>
 oa (ld1 f o) fun p=>
 oa (idxS 1 p g) fun q=>
 oh (stN 1 f q i) fun r=>
 oa (nilCk a) fun s=>
 oa (fldA 6 s) fun t=>
 oh (stN 1 r t i) fun u=>
 oa (nilCk a) fun v=>
 oa (fldA 1 v) fun w=>
 oa (ld1 u w) fun x=>
 oa (nilCk a) fun y=>
 oa (fldA 0 y) fun z=>
 oa (ld1 u z) fun aa=>
 oa (nilCk a) fun ab=>
 oa (fldA 0 ab) fun ac=>
 oa (ld1 u ac) fun ad=>
 ob (evalFn T k l0_ [ad,g] u) fun ae af=>
 chk ((sameB (pure1 af (ld1 af w)) x && (sameB (pure1 af (ld1 af z)) aa && true))) <|
 ob (callVal (evalFn T k) x [aa,ae] af) fun ag ai=>
 oa (lenS ag) fun al=>
 i4_ T k k a g i ag al (.int .i64 0) ai
 ):=runEq (by kernel_rfl)
def a8B:Res:=[(4,some (some 2))]
noncomputable def a0s:MFn:=⟨22,a8B,.seq [] (.region [tS 4 (.alloc [.int .i64 0,.int .i64 0])]) (.seq [0,1,5,6,7,8,9,10,11,12,13,14,15,16,17,18,19,20,21] (.regionD 22 [dM 0 22 1,dM 1 23 0,tD 2 24 (.nilCheck (tT 23)),dF 3 25 3 24,dF 4 26 0 25,dL 5 27 26,tD 6 28 (.lenSl (tT 27)),tD 7 29 (.bin .quo .scalar (tT 22) (tT 28)),dM 8 30 1,dM 9 31 0,tD 10 32 (.nilCheck (tT 31)),dF 11 33 3 32,dF 12 34 0 33,dL 13 35 34,tD 14 36 (.lenSl (tT 35)),tD 15 37 (.bin .rem .scalar (tT 30) (tT 36)),tD 16 38 (.build [.int .i64 0,.int .i64 0] [(0,1,(tT 29)),(1,1,(tT 37))]),tD 17 39 (.store 2 (tT 4) (tT 38))] [(5,22),(6,23),(7,24),(8,25),(9,26),(10,27),(11,28),(12,29),(13,30),(14,31),(15,32),(16,33),(17,34),(18,35),(19,36),(20,37),(21,38)]) .ret)⟩
theorem a8C (T:Tab) (k:Nat) (a b:AV) (h:Heap):runF T k a0s [a,b] h =
 ob (newVar h [.int .i64 0,.int .i64 0]) fun c d=>
 oa (nilCk a) fun e=>
 oa (fldA 3 e) fun f=>
 oa (fldA 0 f) fun g=>
 oa (ld1 d g) fun i=>
 oa (lenS i) fun l=>
 oa (binV .quo .scalar b l) fun m=>
 oa (nilCk a) fun n=>
 oa (fldA 3 n) fun o=>
 oa (fldA 0 o) fun p=>
 oa (ld1 d p) fun q=>
 oa (lenS q) fun r=>
 oa (binV .rem .scalar b r) fun s=>
 oa (buildV [.int .i64 0,.int .i64 0] [(0,1,m),(1,1,s)]) fun t=>
 oh (stN 2 d c t) fun u=>
 oa (ldN 2 u c) fun v=>
 some (v,u):=runEq (by kernel_rfl)
def a9L:Res:=[(4,none)]
noncomputable def a1l:MFn:=⟨17,a9L,.seq [1,4] (.region [tS 3 (.box (tT 1)),tS 4 (.mv (tK 0))]) (.seq [0,3,5,6,7,8,9,10,11,12,13,14,15,16] (.regionD 17 [dF 0 17 0 3,dL 1 18 17,dM 2 19 0,tD 3 20 (.nilCheck (tT 19)),dF 4 21 3 20,dF 5 22 0 21,dL 6 23 22,tD 7 24 (.lenSl (tT 23)),tD 8 25 (.bin .mul .scalar (tT 18) (tT 24)),dF 9 26 1 3,dL 10 27 26,tD 11 28 (.bin .add .scalar (tT 25) (tT 27)),dM 12 29 28] [(5,17),(6,18),(7,19),(8,20),(9,21),(10,22),(11,23),(12,24),(13,25),(14,26),(15,27),(16,28),(4,29)]) .ret)⟩
theorem a9M (T:Tab) (k:Nat) (a b:AV) (h:Heap):runF T k a1l [a,b] h =
 ob (newVar h (AV.cells b)) fun c d=>
 oa (fldA 0 c) fun e=>
 oa (ld1 d e) fun f=>
 oa (nilCk a) fun g=>
 oa (fldA 3 g) fun i=>
 oa (fldA 0 i) fun l=>
 oa (ld1 d l) fun m=>
 oa (lenS m) fun n=>
 oa (binV .mul .scalar f n) fun o=>
 oa (fldA 1 c) fun p=>
 oa (ld1 d p) fun q=>
 oa (binV .add .scalar o q) fun r=>
 some (r,d):=runEq (by kernel_rfl)
end Go.Gm.AQ
namespace Go.Gm.AQ
open Go Go.Gm
noncomputable def a3i:MCode:=.seq [9] (.seq [7,8] (.region [tM 7 2,tM 8 3,tS 9 (.bin .lss .scalar (tT 7) (tT 8))]) (.cond (tT 9) .skip (.exit 0))) (.seq [14,15,16,17,18,19,20,21,22,23,24,25,26,27] (.block 1 (.regionD 28 [dM 0 28 0,dM 1 29 2,dM 2 30 0,dM 3 31 3,dM 4 32 0,dM 5 33 3,tD 6 34 (.idxSl 1 (tT 32) (tT 33)),dL 7 35 34,dM 8 36 0,dM 9 37 2,tD 10 38 (.idxSl 1 (tT 36) (tT 37)),dL 11 39 38,tD 12 40 (.idxSl 1 (tT 28) (tT 29)),tD 13 41 (.store 1 (tT 40) (tT 35)),tD 14 42 (.idxSl 1 (tT 30) (tT 31)),tD 15 43 (.store 1 (tT 42) (tT 39))] [(14,28),(15,29),(16,30),(17,31),(18,32),(19,33),(20,34),(21,35),(22,36),(23,37),(24,38),(25,39),(26,40),(27,42)])) (.region [tM 10 2,tS 11 (.bin .add .scalar (tT 10) (tK 1)),tM 12 3,tS 13 (.bin .sub .scalar (tT 12) (tK 1)),tM 2 11,tM 3 13]))
def a3j:Res:=[]
noncomputable def a0t:MFn:=⟨28,a3j,.seq [4,5,6] (.region [tM 4 0,tS 5 (.lenSl (tT 4)),tS 6 (.bin .sub .scalar (tT 5) (tK 1)),tS 2 (.mv (tK 0)),tM 3 6]) (.block 0 (.loop [10,11,12,13] a3i))⟩
noncomputable def r8_ (T:Tab) (k j0:Nat) (a b j3:AV) (h:Heap):Option (AV × Heap):=
 loopB T k a3j j0 [10,11,12,13] a3i [.blk 0] [a,.u,b,j3,.u,.u,.u,.u,.u,.u,.u,.u,.u,.u,.u,.u,.u,.u,.u,.u,.u,.u,.u,.u,.u,.u,.u,.u] h
theorem a1N (T:Tab) (k j0:Nat) (a b j3:AV) (h:Heap):r8_ T k (j0+1) a b j3 h =
 oa (binV .lss .scalar b j3) fun c=>
 cond2 c
 (
 oa (idxS 1 a j3) fun d=>
 oa (ld1 h d) fun e=>
 oa (idxS 1 a b) fun f=>
 oa (ld1 h f) fun g=>
 oa (idxS 1 a b) fun i=>
 oh (stN 1 h i e) fun l=>
 oa (idxS 1 a j3) fun m=>
 oh (stN 1 l m g) fun n=>
 oa (binV .add .scalar b (.int .i64 1)) fun o=>
 oa (binV .sub .scalar j3 (.int .i64 1)) fun p=>
 r8_ T k j0 a o p n
 )
 (
 some (.tup [],h)
 ):=loopEq (by kernel_rfl)
theorem a8D (T:Tab) (k:Nat) (a:AV) (h:Heap):runF T k a0t [a] h =
 oa (lenS a) fun b=>
 oa (binV .sub .scalar b (.int .i64 1)) fun c=>
 r8_ T k k a (.int .i64 0) c h:=runEq (by kernel_rfl)
def a9N:Res:=[(2,none)]
noncomputable def a1m:MFn:=⟨8,a9N,.seq [2] (.region [tS 2 (.mv (.const .nils))]) (.seq [4] (.seq [3] (.region [tM 3 0,tS 4 (.bin .eql .slice (tT 3) (.const .nils))]) (.cond (tT 4) (.seq [0,4] (.region [tS 2 (.mv (.const .nils))]) .ret) .skip)) (.seq [0,5,6,7] (.region [tS 5 (.buildSlice 1 0 [] []),tM 6 0,tS 7 (.append 1 8 (tT 5) (tT 6)),tM 2 7]) .ret))⟩
theorem a9O (T:Tab) (k:Nat) (a:AV) (h:Heap):runF T k a1m [a] h =
 oa (binV .eql .slice a .nils) fun b=>
 cond2 b
 (
 some (.nils,h)
 )
 (
 ob (buildSl 1 0 [] [] h) fun c d=>
 ob (apnd 1 8 c a d) fun e f=>
 some (e,f)
 ):=runEq (by kernel_rfl)
noncomputable def b1J:MCode:=.seq [] (.region [tS 29 (.bin .lss .scalar (tT 28) (tT 27))]) (.seq [29] (.cond (tT 29) .skip (.exit 0)) (.seq [4,5,42,54,55,56,57,58,59,60,61,62,63,64] (.block 1 (.seq [30,31,32] (.region [tM 30 28,tX 31 4 26 28,tA 32 4 31,tS 5 (.alloc [.int .i64 0,.int .i64 0,.int .i64 0,.int .i64 0]),tM 4 30,tW 4 5 32]) (.seq [33,34,35,36,37,38,39,40,41] (.region [tM 33 3,tF 34 0 5,tL 35 34,⟨some 36,.call l4_ [(tT 33),(tT 35)],none⟩,tM 37 36,⟨some 38,.op (.mv (tT 3)),some (37,true)⟩,⟨some 39,.op (.fieldAddr 1 (tT 5)),some (37,true)⟩,⟨some 40,.op (.load none (tT 39)),some (37,true)⟩,⟨some 41,.call l4_ [(tT 38),(tT 40)],some (37,true)⟩,tS 42 (.pick (tT 37) (tT 41) (.const (.bool false)))]) (.cond (tT 42) (.seq [42,43,44,45,46,47,48,49,50,51,52,53] (.regionD 67 [dM 0 67 3,tD 1 68 (.nilCheck (tT 67)),dF 2 69 2 68,dL 3 70 69,dF 4 71 0 5,dL 5 72 71,tD 6 73 (.idxSl 2 (tT 70) (tT 72)),dM 7 74 4,dF 8 75 1 5,dL 9 76 75,⟨10,⟨some 77,.call q0_ [(tT 73),(tT 74),(tT 76)],none⟩,[]⟩] [(43,67),(44,68),(45,69),(46,70),(47,71),(48,72),(49,73),(50,74),(51,75),(52,76),(53,77)]) (.regionD 67 [dM 0 67 3,tD 1 68 (.nilCheck (tT 67)),dF 2 69 3 68,dL 3 70 69,dF 4 71 1 5,dL 5 72 71,tD 6 73 (.idxSl 2 (tT 70) (tT 72)),dM 7 74 4,dF 8 75 0 5,dL 9 76 75,⟨10,⟨some 77,.call q0_ [(tT 73),(tT 74),(tT 76)],none⟩,[]⟩] [(54,67),(55,68),(56,69),(57,70),(58,71),(59,72),(60,73),(61,74),(62,75),(63,76),(64,77)])) .skip)))) (.region [tS 65 (.bin .add .scalar (tT 28) (tK 1)),tM 28 65])))
def b1K:Res:=[(2,none)]
noncomputable def a9k:MFn:=⟨67,b1K,.seq [0,2] (.region [tS 1 (.box (tT 0)),tS 2 (.mv (.const .nilp))]) (.seq [6,7,8,9,10,11,12,13,14,15] (.regionD 67 [dF 0 67 0 1,dL 1 68 67,tD 2 69 (.mm true (tT 68) (tK 0)),tD 3 70 (.mkSlice [.nils,.nils] 2 48 (tT 69) (tT 69)),dF 4 71 0 1,dL 5 72 71,tD 6 73 (.mm true (tT 72) (tK 0)),tD 7 74 (.mkSlice [.nils,.nils] 2 48 (tT 73) (tT 73)),tD 8 75 (.build [.int .i64 0,.nils,.nils,.nils] [(2,1,(tT 70)),(3,1,(tT 74))]),tD 9 76 (.box (tT 75)),dM 10 77 76] [(6,67),(7,68),(8,69),(9,70),(10,71),(11,72),(12,73),(13,74),(14,75),(15,76),(3,77)]) (.seq [16,17,18,19,20,21,22,23,24] (.regionD 67 [dM 0 67 3,dF 1 68 0 1,dL 2 69 68,dF 3 70 1 1,dL 4 71 70,⟨5,⟨some 72,.call h4_ [(tT 71)],none⟩,[(69,tL 69 68)]⟩,tD 6 73 (.build [.int .i64 0,.nils] [(0,1,(tT 69)),(1,1,(tT 72))]),tD 7 74 (.nilCheck (tT 67)),dF 8 75 0 74,tD 9 76 (.store 2 (tT 75) (tT 73))] [(16,67),(17,68),(18,69),(19,70),(20,71),(21,72),(22,73),(23,74),(24,75)]) (.seq [26,27,28,29] (.seq [1,25] (.region [tF 25 1 1,tL 26 25,tS 27 (.lenSl (tT 26)),tS 28 (.mv (tK 0))]) (.block 0 (.loop [65] b1J))) (.seq [3,66] (.region [tM 66 3,tM 2 66]) .ret))))⟩
noncomputable def a3Z (T:Tab) (k j0:Nat) (a b c d:AV) (h:Heap):Option (AV × Heap):=
 loopB T k b1K j0 [65] b1J [.blk 0,.seq [26,27,28,29] (.seq [3,66] (.region [⟨some 66,.op (.mv (.tmp 3)),none⟩,
 ⟨some 2,.op (.mv (.tmp 66)),none⟩]) .ret)] [.undef,.undef,.undef,a,.undef,.undef,.undef,.undef,.undef,.undef,.undef,.undef,.undef,.undef,.undef,.undef,.undef,.undef,.undef,.undef,.undef,.undef,.undef,.undef,.undef,.undef,b,c,d,.undef,.undef,.undef,.undef,.undef,.undef,.undef,.undef,.undef,.undef,.undef,.undef,.undef,.undef,.undef,.undef,.undef,.undef,.undef,.undef,.undef,.undef,.undef,.undef,.undef,.undef,.undef,.undef,.undef,.undef,.undef,.undef,.undef,.undef,.undef,.undef,.undef,.undef] h
theorem a9I (T:Tab) (k j0:Nat) (a b c d:AV) (h:Heap):a3Z T k (j0+1) a b c d h =
 oa (binV .lss .scalar d c) fun e=>
 cond2 e
 (
 oa (idxS 4 b d) fun f=>
 oa (ldN 4 h f) fun g=>
 ob (newVar h [.int .i64 0,.int .i64 0,.int .i64 0,.int .i64 0]) fun i l=>
 oh (stN 4 l i g) fun m=>
 oa (fldA 0 i) fun n=>
 oa (ld1 m n) fun o=>
 ob (evalFn T k l4_ [a,o] m) fun p q=>
 ob (gd p true (some (a,q)) q) fun r s=>
 ob (gd p true (pure1 s (fldA 1 i)) s) fun t u=>
 ob (gd p true (pure1 u (ld1 u t)) u) fun v w=>
 ob (gd p true (evalFn T k l4_ [r,v] w) w) fun x y=>
 oa (pickV p x (.bool false)) fun z=>
 cond2 z
 (
 oa (nilCk a) fun aa=>
 oa (fldA 2 aa) fun ab=>
 oa (ld1 y ab) fun ac=>
 oa (fldA 0 i) fun ad=>
 oa (ld1 y ad) fun ae=>
 oa (idxS 2 ac ae) fun af=>
 oa (fldA 1 i) fun ag=>
 oa (ld1 y ag) fun ai=>
 ob (evalFn T k q0_ [af,d,ai] y) fun al am=>
 oa (nilCk a) fun an=>
 oa (fldA 3 an) fun ao=>
 oa (ld1 am ao) fun ap=>
 oa (fldA 1 i) fun aq=>
 oa (ld1 am aq) fun ar=>
 oa (idxS 2 ap ar) fun as=>
 oa (fldA 0 i) fun au=>
 oa (ld1 am au) fun av=>
 ob (evalFn T k q0_ [as,d,av] am) fun aw ax=>
 oa (binV .add .scalar d (.int .i64 1)) fun ay=>
 a3Z T k j0 a b c ay ax
 )
 (
 oa (binV .add .scalar d (.int .i64 1)) fun az=>
 a3Z T k j0 a b c az y
 )
 )
 (
 some (a,h)
 ):=loopEq (by kernel_rfl)
theorem b4S (T:Tab) (k:Nat) (a:AV) (h:Heap):runF T k a9k [a] h =
 ob (newVar h (AV.cells a)) fun b c=>
 oa (fldA 0 b) fun d=>
 oa (ld1 c d) fun e=>
 oa (mmV true e (.int .i64 0)) fun f=>
 ob (mkSl [.nils,.nils] 2 48 f f c) fun g i=>
 oa (fldA 0 b) fun l=>
 oa (ld1 i l) fun m=>
 oa (mmV true m (.int .i64 0)) fun n=>
 ob (mkSl [.nils,.nils] 2 48 n n i) fun o p=>
 oa (buildV [.int .i64 0,.nils,.nils,.nils] [(2,1,g),(3,1,o)]) fun q=>
 ob (newVar p (AV.cells q)) fun r s=>
 oa (fldA 0 b) fun t=>
 oa (ld1 s t) fun u=>
 oa (fldA 1 b) fun v=>
 oa (ld1 s v) fun w=>
 ob (evalFn T k h4_ [w] s) fun x y=>
 chk ((sameB (pure1 y (ld1 y t)) u && true)) <|
 oa (buildV [.int .i64 0,.nils] [(0,1,u),(1,1,x)]) fun z=>
 oa (nilCk r) fun aa=>
 oa (fldA 0 aa) fun ab=>
 oh (stN 2 y ab z) fun ac=>
 oa (fldA 1 b) fun ad=>
 oa (ld1 ac ad) fun ae=>
 oa (lenS ae) fun af=>
 a3Z T k k r ae af (.int .i64 0) ac:=runEq (by kernel_rfl)
noncomputable def b0j:MCode:=.seq [] (.region [tS 18 (.bin .lss .scalar (tT 17) (tT 16))]) (.seq [18] (.cond (tT 18) .skip (.exit 0)) (.seq [4,20,21,22,23,24,25,26] (.block 1 (.seq [19] (.region [tM 19 17,tM 4 19]) (.region [tM 20 3,tN 21 20,tF 22 0 21,tF 23 1 22,tL 24 23,tM 25 4,tX 26 1 24 25,⟨none,.op (.store 1 (tT 26) (tK (-1))),none⟩]))) (.region [tS 27 (.bin .add .scalar (tT 17) (tK 1)),tM 17 27])))
def b0k:Res:=[(2,none)]
noncomputable def a6H:MFn:=⟨29,b0k,.seq [2] (.region [tS 2 (.mv (.const .nilp))]) (.seq [0,5,6,7,8,9,10] (.region [tM 5 0,tS 6 (.mm true (tT 5) (tK 0)),tS 7 (.mkSlice [.int .i64 0] 1 8 (tT 6) (tT 6)),tS 8 (.build [.nils,.nils] [(1,1,(tT 7))]),tS 9 (.build [.nils,.nils] [(0,2,(tT 8))]),tS 10 (.box (tT 9)),tM 3 10]) (.seq [16,17,18] (.seq [11,12,13,14,15] (.region [tM 11 3,tN 12 11,tF 13 0 12,tF 14 1 13,tL 15 14,tS 16 (.lenSl (tT 15)),tS 17 (.mv (tK 0))]) (.block 0 (.loop [27] b0j))) (.seq [3,28] (.region [tM 28 3,tM 2 28]) .ret)))⟩
noncomputable def a4a (T:Tab) (k j0:Nat) (a b c:AV) (h:Heap):Option (AV × Heap):=
 loopB T k b0k j0 [27] b0j [.blk 0,.seq [16,17,18] (.seq [3,28] (.region [⟨some 28,.op (.mv (.tmp 3)),none⟩,
 ⟨some 2,.op (.mv (.tmp 28)),none⟩]) .ret)] [.undef,.undef,.undef,a,.undef,.undef,.undef,.undef,.undef,.undef,.undef,.undef,.undef,.undef,.undef,.undef,b,c,.undef,.undef,.undef,.undef,.undef,.undef,.undef,.undef,.undef,.undef,.undef] h
theorem a7M (T:Tab) (k j0:Nat) (a b c:AV) (h:Heap):a4a T k (j0+1) a b c h =
 oa (binV .lss .scalar c b) fun d=>
 cond2 d
 (
 oa (nilCk a) fun e=>
 oa (fldA 0 e) fun f=>
 oa (fldA 1 f) fun g=>
 oa (ld1 h g) fun i=>
 oa (idxS 1 i c) fun l=>
 oh (stN 1 h l (.int .i64 (-1))) fun m=>
 oa (binV .add .scalar c (.int .i64 1)) fun n=>
 a4a T k j0 a b n m
 )
 (
 some (a,h)
 ):=loopEq (by kernel_rfl)
theorem b3q (T:Tab) (k:Nat) (a:AV) (h:Heap):runF T k a6H [a] h =
 oa (mmV true a (.int .i64 0)) fun b=>
 ob (mkSl [.int .i64 0] 1 8 b b h) fun c d=>
 oa (buildV [.nils,.nils] [(1,1,c)]) fun e=>
 oa (buildV [.nils,.nils] [(0,2,e)]) fun f=>
 ob (newVar d (AV.cells f)) fun g i=>
 oa (nilCk g) fun l=>
 oa (fldA 0 l) fun m=>
 oa (fldA 1 m) fun n=>
 oa (ld1 i n) fun o=>
 oa (lenS o) fun p=>
 a4a T k k g p (.int .i64 0) i:=runEq (by kernel_rfl)
def b0l:Res:=[(6,none)]
noncomputable def a1O:MFn:=⟨57,b0l,.seq [6] (.region [tS 6 (.mv (.const (.bool false)))]) (.seq [20] (.seq [9,10,11,12,13,14,15,16,17,18,19] (.region [tM 9 1,tS 10 (.bin .lss .scalar (tT 9) (tK 0)),tM 11 10,⟨some 12,.op (.mv (tT 1)),some (11,false)⟩,⟨some 13,.op (.mv (tT 0)),some (11,false)⟩,⟨some 14,.op (.nilCheck (tT 13)),some (11,false)⟩,⟨some 15,.op (.fieldAddr 0 (tT 14)),some (11,false)⟩,⟨some 16,.op (.fieldAddr 1 (tT 15)),some (11,false)⟩,⟨some 17,.op (.load none (tT 16)),some (11,false)⟩,⟨some 18,.op (.lenSl (tT 17)),some (11,false)⟩,⟨some 19,.op (.bin .geq .scalar (tT 12) (tT 18)),some (11,false)⟩,tS 20 (.pick (tT 11) (.const (.bool true)) (tT 19))]) (.cond (tT 20) (.seq [0,1,2,20] (.region [tS 6 (.mv (.const (.bool false)))]) .ret) .skip)) (.seq [21,22] (.region [tM 21 0,⟨some 22,.call b8_ [(tT 21)],none⟩,tM 7 22]) (.seq [23,24,25] (.region [tM 23 7,tM 24 1,⟨some 25,.invoke "milestone/queue.place" (tT 23) [(tT 24)],none⟩,tM 8 25]) (.seq [1,27] (.seq [26] (.region [tM 26 8,tS 27 (.bin .lss .scalar (tT 26) (tK 0))]) (.cond (tT 27) (.seq [0,1,2,7,8,27,28,29,30,31,32,33] (.region [tM 28 7,tM 29 1,tM 30 2,tS 31 (.build [.int .i64 0,.int .i64 0] [(0,1,(tT 29)),(1,1,(tT 30))]),tS 32 (.mkIfc 198 (tT 31)),⟨some 33,.call f6_ [(tT 28),(tT 32)],none⟩]) (.seq [] (.region [tS 6 (.mv (.const (.bool true)))]) .ret)) .skip)) (.seq [44] (.seq [34,35,36,37,38,39,40,41,42,43] (.region [tM 34 0,tN 35 34,tF 36 0 35,tF 37 0 36,tL 38 37,tM 39 8,tX 40 2 38 39,tF 41 1 40,tL 42 41,tM 43 2,tS 44 (.bin .leq .scalar (tT 42) (tT 43))]) (.cond (tT 44) (.seq [0,2,7,8,44] (.region [tS 6 (.mv (.const (.bool false)))]) .ret) .skip)) (.seq [0,2,45,46,47,48,49,50,51,52,53] (.region [tM 45 0,tN 46 45,tF 47 0 46,tF 48 0 47,tL 49 48,tM 50 8,tM 51 2,tX 52 2 49 50,tF 53 1 52,tW 1 53 51]) (.seq [7,8,54,55,56] (.region [tM 54 7,tM 55 8,⟨some 56,.call h0_ [(tT 54),(tT 55)],none⟩]) (.seq [] (.region [tS 6 (.mv (.const (.bool true)))]) .ret))))))))⟩
theorem b0m (T:Tab) (k:Nat) (a b c:AV) (h:Heap):runF T k a1O [a,b,c] h =
 oa (binV .lss .scalar b (.int .i64 0)) fun d=>
 ob (gd d false (some (b,h)) h) fun e f=>
 ob (gd d false (some (a,f)) f) fun g i=>
 ob (gd d false (pure1 i (nilCk g)) i) fun l m=>
 ob (gd d false (pure1 m (fldA 0 l)) m) fun n o=>
 ob (gd d false (pure1 o (fldA 1 n)) o) fun p q=>
 ob (gd d false (pure1 q (ld1 q p)) q) fun r s=>
 ob (gd d false (pure1 s (lenS r)) s) fun t u=>
 ob (gd d false (pure1 u (binV .geq .scalar e t)) u) fun v w=>
 oa (pickV d (.bool true) v) fun x=>
 cond2 x
 (
 some ((.bool false),w)
 )
 (
 ob (evalFn T k b8_ [a] w) fun y z=>
 ob (callMeth T (evalFn T k) "milestone/queue.place" y [b] z) fun aa ab=>
 oa (binV .lss .scalar aa (.int .i64 0)) fun ac=>
 cond2 ac
 (
 oa (buildV [.int .i64 0,.int .i64 0] [(0,1,b),(1,1,c)]) fun ad=>
 ob (evalFn T k f6_ [y,(.ifc 198 ad)] ab) fun ae af=>
 some ((.bool true),af)
 )
 (
 oa (nilCk a) fun ag=>
 oa (fldA 0 ag) fun ai=>
 oa (fldA 0 ai) fun al=>
 oa (ld1 ab al) fun am=>
 oa (idxS 2 am aa) fun an=>
 oa (fldA 1 an) fun ao=>
 oa (ld1 ab ao) fun ap=>
 oa (binV .leq .scalar ap c) fun aq=>
 cond2 aq
 (
 some ((.bool false),ab)
 )
 (
 oa (nilCk a) fun ar=>
 oa (fldA 0 ar) fun as=>
 oa (fldA 0 as) fun au=>
 oa (ld1 ab au) fun av=>
 oa (idxS 2 av aa) fun aw=>
 oa (fldA 1 aw) fun ax=>
 oh (stN 1 ab ax c) fun ay=>
 ob (evalFn T k h0_ [y,aa] ay) fun az a0=>
 some ((.bool true),a0)
 )
 )
 ):=runEq (by kernel_rfl)
def b2e:Res:=[(4,none)]
noncomputable def a5k:MFn:=⟨15,b2e,.seq [4] (.region [tS 4 (.mv (.const .nils))]) (.seq [] (.region [tS 5 (.mv (.const (.fn w9_ [] [])))]) (.seq [0,1,5,6,7,8,9,10,11,12,13,14] (.region [tM 6 5,tM 7 0,tM 8 0,tN 9 8,tF 10 2 9,tL 11 10,tM 12 1,⟨some 13,.call a0o [(tT 7),(tT 11),(tT 12)],none⟩,⟨some 14,.callV (tT 6) [(tT 13)],none⟩,tM 4 14]) .ret))⟩
theorem b2f (T:Tab) (k:Nat) (a b:AV) (h:Heap):runF T k a5k [a,b] h =
 oa (nilCk a) fun c=>
 oa (fldA 2 c) fun d=>
 oa (ld1 h d) fun e=>
 ob (evalFn T k a0o [a,e,b] h) fun f g=>
 ob (callVal (evalFn T k) (.fn w9_ [] []) [f] g) fun i l=>
 some (i,l):=runEq (by kernel_rfl)
noncomputable def z7_:MCode:=.block 1 (.seq [9,10,11,12,13] (.region [tM 10 0,⟨some 11,.call a2_ [(tT 10)],none⟩,tM 9 11,tS 12 (.extract 0 (tT 9)),tS 13 (.extract 1 (tT 9)),tM 4 12,tM 5 13]) (.seq [19] (.seq [4,5,14,15,16,17,18] (.region [tM 14 5,tS 15 (.un .not (tT 14)),tM 16 15,⟨some 17,.op (.mv (tT 4)),some (16,false)⟩,⟨some 18,.op (.bin .neq .scalar (tT 17) (.const (.int .u8 124))),some (16,false)⟩,tS 19 (.pick (tT 16) (.const (.bool true)) (tT 18))]) (.cond (tT 19) (.exit 0) .skip)) (.seq [20,21,22,23,24,25,26] (.region [tM 20 0,tN 21 20,tF 22 1 21,tL 23 22,tS 24 (.bin .add .scalar (tT 23) (tK 1)),tN 25 20,tF 26 1 25,tW 1 26 24]) (.region [tM 27 3,tM 28 0,⟨some 29,.call b3_ [(tT 28)],none⟩,tS 30 (.buildSlice 5 1 [.int .i64 0,.int .i64 0,.int .i64 0,.int .i64 0,.nils] [(0,5,(tT 29))]),tS 31 (.append 5 56 (tT 27) (tT 30)),tM 3 31]))))
noncomputable def m6_:MCode:=.seq [34] (.seq [32,33] (.region [tM 32 3,tS 33 (.lenSl (tT 32)),tS 34 (.bin .eql .scalar (tT 33) (tK 1))]) (.cond (tT 34) (.seq [3,34,35,36,37] (.region [tM 35 3,tS 36 (.idxSl 5 (tT 35) (tK 0)),tA 37 5 36,tW 5 2 37]) .ret) .skip)) (.seq [3,38,39] (.region [tM 38 3,tS 39 (.build [.int .i64 0,.int .i64 0,.int .i64 0,.int .i64 0,.nils] [(0,1,(tK 5)),(4,1,(tT 38))]),tW 5 2 39]) .ret)
def m7_:Res:=[(2,some (some 5))]
noncomputable def m8_:MFn:=⟨40,m7_,.seq [] (.region [tS 2 (.alloc [.int .i64 0,.int .i64 0,.int .i64 0,.int .i64 0,.nils])]) (.seq [6,7,8] (.region [tM 6 0,⟨some 7,.call b3_ [(tT 6)],none⟩,tS 8 (.buildSlice 5 1 [.int .i64 0,.int .i64 0,.int .i64 0,.int .i64 0,.nils] [(0,5,(tT 7))]),tM 3 8]) (.seq [0,19] (.block 0 (.loop [27,28,29,30,31] z7_)) (.lab m6_)))⟩
noncomputable def f7_ (T:Tab) (k j0:Nat) (a b c:AV) (h:Heap):Option (AV × Heap):=
 loopB T k m7_ j0 [27,28,29,30,31] z7_ [.blk 0,.seq [0,19] (.lab m6_)] [a,.u,b,c,.u,.u,.u,.u,.u,.u,.u,.u,.u,.u,.u,.u,.u,.u,.u,.u,.u,.u,.u,.u,.u,.u,.u,.u,.u,.u,.u,.u,.u,.u,.u,.u,.u,.u,.u,.u] h
noncomputable def m9_ (T:Tab) (k:Nat) (a b:AV) (h:Heap):Option (AV × Heap):=
 evB T k m7_ m6_ [] [.u,.u,a,b,.u,.u,.u,.u,.u,.u,.u,.u,.u,.u,.u,.u,.u,.u,.u,.u,.u,.u,.u,.u,.u,.u,.u,.u,.u,.u,.u,.u,.u,.u,.u,.u,.u,.u,.u,.u] h
theorem a2S (T:Tab) (k:Nat) (a b:AV) (h:Heap):m9_ T k a b h =
 oa (lenS b) fun c=>
 oa (binV .eql .scalar c (.int .i64 1)) fun d=>
 cond2 d
 (
 oa (idxS 5 b (.int .i64 0)) fun e=>
 oa (ldN 5 h e) fun f=>
 oh (stN 5 h a f) fun g=>
 oa (ldN 5 g a) fun i=>
 some (i,g)
 )
 (
 oa (buildV [.int .i64 0,.int .i64 0,.int .i64 0,.int .i64 0,.nils] [(0,1,(.int .i64 5)),(4,1,b)]) fun l=>
 oh (stN 5 h a l) fun m=>
 oa (ldN 5 m a) fun n=>
 some (n,m)
 ):=blockEq (by kernel_rfl)
theorem a2T (T:Tab) (k j0:Nat) (a b c:AV) (h:Heap):f7_ T k (j0+1) a b c h =
 ob (evalFn T k a2_ [a] h) fun d e=>
 oa (extr 0 d) fun f=>
 oa (extr 1 d) fun g=>
 oa (unV .not g) fun i=>
 ob (gd i false (some (f,e)) e) fun l m=>
 ob (gd i false (pure1 m (binV .neq .scalar l (.int .u8 124))) m) fun n o=>
 oa (pickV i (.bool true) n) fun p=>
 cond2 p
 (
 m9_ T k b c o
 )
 (
 oa (nilCk a) fun q=>
 oa (fldA 1 q) fun r=>
 oa (ld1 o r) fun s=>
 oa (binV .add .scalar s (.int .i64 1)) fun t=>
 oa (nilCk a) fun u=>
 oa (fldA 1 u) fun v=>
 oh (stN 1 o v t) fun w=>
 ob (evalFn T k b3_ [a] w) fun x y=>
 ob (buildSl 5 1 [.int .i64 0,.int .i64 0,.int .i64 0,.int .i64 0,.nils] [(0,5,x)] y) fun z aa=>
 ob (apnd 5 56 c z aa) fun ab ac=>
 f7_ T k j0 a b ab ac
 ):=loopEq (by kernel_rfl)
theorem a4J (T:Tab) (k:Nat) (a:AV) (h:Heap):runF T k m8_ [a] h =
 ob (newVar h [.int .i64 0,.int .i64 0,.int .i64 0,.int .i64 0,.nils]) fun b c=>
 ob (evalFn T k b3_ [a] c) fun d e=>
 ob (buildSl 5 1 [.int .i64 0,.int .i64 0,.int .i64 0,.int .i64 0,.nils] [(0,5,d)] e) fun f g=>
 f7_ T k k a b f g:=runEq (by kernel_rfl)
noncomputable def z8_:MCode:=.seq [11,61,62,63,64,65,66] (.region [tM 62 0,tA 63 5 11,⟨some 64,.call a7_ [(tT 62),(tT 63)],none⟩,tM 61 64,tS 65 (.extract 0 (tT 61)),tS 66 (.extract 1 (tT 61)),tM 12 65,tM 13 66]) (.region [tM 67 7,tM 68 12,tS 69 (.buildSlice 1 1 [.int .i64 0] [(0,1,(tT 68))]),tS 70 (.append 1 8 (tT 67) (tT 69)),tM 71 8,tM 72 13,tS 73 (.buildSlice 1 1 [.int .i64 0] [(0,1,(tT 72))]),tS 74 (.append 1 8 (tT 71) (tT 73)),tM 7 70,tM 8 74])
noncomputable def n0_:MCode:=.seq [46] (.seq [37,38,39,40,41,42,43,44,45] (.region [tM 37 10,tM 38 9,tS 39 (.bin .lss .scalar (tT 37) (tT 38)),tM 40 39,⟨some 41,.op (.mv (tT 0)),some (40,true)⟩,⟨some 42,.op (.nilCheck (tT 41)),some (40,true)⟩,⟨some 43,.op (.fieldAddr 5 (tT 42)),some (40,true)⟩,⟨some 44,.op (.load none (tT 43)),some (40,true)⟩,⟨some 45,.op (.un .not (tT 44)),some (40,true)⟩,tS 46 (.pick (tT 40) (tT 45) (.const (.bool false)))]) (.cond (tT 46) .skip (.exit 0))) (.seq [12,13,67,68,69,70,71,72,73,74] (.block 1 (.seq [49,50,51,52] (.region [tF 49 4 3,tL 50 49,tS 51 (.idxSl 5 (tT 50) (tK 0)),tA 52 5 51,tS 11 (.alloc [.int .i64 0,.int .i64 0,.int .i64 0,.int .i64 0,.nils]),tW 5 11 52]) (.seq [55,56,57,58,59,60] (.seq [53,54] (.region [tF 53 0 3,tL 54 53,tS 55 (.bin .eql .scalar (tT 54) (tK 5))]) (.cond (tT 55) (.region [tF 56 4 3,tL 57 56,tM 58 10,tX 59 5 57 58,tA 60 5 59,tW 5 11 60]) .skip)) (.lab z8_)))) (.region [tM 47 10,tS 48 (.bin .add .scalar (tT 47) (tK 1)),tM 10 48]))
noncomputable def z9_:MCode:=.seq [6,14,89,90] (.region [tM 89 6,tM 90 14,tM 4 89,tM 5 90]) .ret
noncomputable def f8_:MCode:=.seq [75,76] (.region [tM 75 0,⟨some 76,.call b0_ [(tT 75)],none⟩,tM 14 76]) (.seq [0,3,7,8,81,82,83,84,85,86,87,88] (.seq [77,78,79,80] (.region [tM 77 0,tN 78 77,tF 79 5 78,tL 80 79,tS 81 (.un .not (tT 80))]) (.cond (tT 81) (.region [tM 82 0,tA 83 5 3,tM 84 6,tM 85 14,tM 86 7,tM 87 8,⟨some 88,.call e1_ [(tT 82),(tT 83),(tT 84),(tT 85),(tT 86),(tT 87)],none⟩]) .skip)) (.lab z9_))
noncomputable def a0a:MCode:=.seq [9,10,46] (.seq [] (.region [tS 10 (.mv (tK 0))]) (.block 0 (.loop [47,48] n0_))) (.lab f8_)
def b5_:Res:=[(4,none),(5,none)]
noncomputable def n1_:MFn:=⟨91,b5_,.seq [1,4,5] (.region [tS 3 (.box (tT 1)),tS 4 (.mv (tK 0)),tS 5 (.mv (tK 0))]) (.seq [18] (.seq [15,16,17] (.region [tM 15 0,tN 16 15,tF 17 5 16,tL 18 17]) (.cond (tT 18) (.seq [0,3,18] (.region [tS 4 (.mv (tK 0)),tS 5 (.mv (tK 0))]) .ret) .skip)) (.seq [21] (.seq [19,20] (.region [tF 19 0 3,tL 20 19,tS 21 (.bin .eql .scalar (tT 20) (tK 4))]) (.cond (tT 21) (.seq [0,3,21,22,23,24,25,26] (.region [tM 22 0,tA 23 5 3,⟨some 24,.call e0_ [(tT 22),(tT 23)],none⟩,tS 25 (.extract 0 (tT 24)),tS 26 (.extract 1 (tT 24)),tM 4 25,tM 5 26]) .ret) .skip)) (.seq [27,28] (.region [tM 27 0,⟨some 28,.call b0_ [(tT 27)],none⟩,tM 6 28]) (.seq [] (.region [tS 7 (.mv (.const .nils)),tS 8 (.mv (.const .nils))]) (.seq [29,30,31] (.region [tF 29 4 3,tL 30 29,tS 31 (.lenSl (tT 30)),tM 9 31]) (.seq [34,35,36] (.seq [32,33] (.region [tF 32 0 3,tL 33 32,tS 34 (.bin .eql .scalar (tT 33) (tK 9))]) (.cond (tT 34) (.region [tF 35 3 3,tL 36 35,tM 9 36]) .skip)) (.lab a0a)))))))⟩
noncomputable def n2_ (T:Tab) (k:Nat) (a b c d e f:AV) (h:Heap):Option (AV × Heap):=
 evB T k b5_ a0a [] [a,.u,.u,b,.u,.u,c,d,e,f,.u,.u,.u,.u,.u,.u,.u,.u,.u,.u,.u,.u,.u,.u,.u,.u,.u,.u,.u,.u,.u,.u,.u,.u,.u,.u,.u,.u,.u,.u,.u,.u,.u,.u,.u,.u,.u,.u,.u,.u,.u,.u,.u,.u,.u,.u,.u,.u,.u,.u,.u,.u,.u,.u,.u,.u,.u,.u,.u,.u,.u,.u,.u,.u,.u,.u,.u,.u,.u,.u,.u,.u,.u,.u,.u,.u,.u,.u,.u,.u,.u] h
noncomputable def f9_ (T:Tab) (k j0:Nat) (a b c d e f g:AV) (h:Heap):Option (AV × Heap):=
 loopB T k b5_ j0 [47,48] n0_ [.blk 0,.seq [9,10,46] (.lab f8_)] [a,.u,.u,b,.u,.u,c,d,e,f,g,.u,.u,.u,.u,.u,.u,.u,.u,.u,.u,.u,.u,.u,.u,.u,.u,.u,.u,.u,.u,.u,.u,.u,.u,.u,.u,.u,.u,.u,.u,.u,.u,.u,.u,.u,.u,.u,.u,.u,.u,.u,.u,.u,.u,.u,.u,.u,.u,.u,.u,.u,.u,.u,.u,.u,.u,.u,.u,.u,.u,.u,.u,.u,.u,.u,.u,.u,.u,.u,.u,.u,.u,.u,.u,.u,.u,.u,.u,.u,.u] h
noncomputable def g0_ (T:Tab) (k j0:Nat) (a b c d e f g i:AV) (h:Heap):Option (AV × Heap):=
 evB T k b5_ z8_ [.blk 1,.seq [12,13,67,68,69,70,71,72,73,74] (.region [⟨some 47,.op (.mv (.tmp 10)),none⟩,
 ⟨some 48,.op (.bin .add .scalar (.tmp 47) (.const (.int .i64 1))),none⟩,
 ⟨some 10,.op (.mv (.tmp 48)),none⟩]),.lp j0 [47,48] n0_,.blk 0,.seq [9,10,46] (.lab f8_)] [a,.undef,.undef,b,.undef,.undef,c,d,e,f,g,i,.undef,.undef,.undef,.undef,.undef,.undef,.undef,.undef,.undef,.undef,.undef,.undef,.undef,.undef,.undef,.undef,.undef,.undef,.undef,.undef,.undef,.undef,.undef,.undef,.undef,.undef,.undef,.undef,.undef,.undef,.undef,.undef,.undef,.undef,.undef,.undef,.undef,.undef,.undef,.undef,.undef,.undef,.undef,.undef,.undef,.undef,.undef,.undef,.undef,.undef,.undef,.undef,.undef,.undef,.undef,.undef,.undef,.undef,.undef,.undef,.undef,.undef,.undef,.undef,.undef,.undef,.undef,.undef,.undef,.undef,.undef,.undef,.undef,.undef,.undef,.undef,.undef,.undef,.undef] h
noncomputable def d4_ (T:Tab) (k:Nat) (a b c d e:AV) (h:Heap):Option (AV × Heap):=
 evB T k b5_ f8_ [] [a,.u,.u,b,.u,.u,c,d,e,.u,.u,.u,.u,.u,.u,.u,.u,.u,.u,.u,.u,.u,.u,.u,.u,.u,.u,.u,.u,.u,.u,.u,.u,.u,.u,.u,.u,.u,.u,.u,.u,.u,.u,.u,.u,.u,.u,.u,.u,.u,.u,.u,.u,.u,.u,.u,.u,.u,.u,.u,.u,.u,.u,.u,.u,.u,.u,.u,.u,.u,.u,.u,.u,.u,.u,.u,.u,.u,.u,.u,.u,.u,.u,.u,.u,.u,.u,.u,.u,.u,.u] h
noncomputable def g1_ (T:Tab) (k:Nat) (a b:AV) (h:Heap):Option (AV × Heap):=
 evB T k b5_ z9_ [] [.u,.u,.u,.u,.u,.u,a,.u,.u,.u,.u,.u,.u,.u,b,.u,.u,.u,.u,.u,.u,.u,.u,.u,.u,.u,.u,.u,.u,.u,.u,.u,.u,.u,.u,.u,.u,.u,.u,.u,.u,.u,.u,.u,.u,.u,.u,.u,.u,.u,.u,.u,.u,.u,.u,.u,.u,.u,.u,.u,.u,.u,.u,.u,.u,.u,.u,.u,.u,.u,.u,.u,.u,.u,.u,.u,.u,.u,.u,.u,.u,.u,.u,.u,.u,.u,.u,.u,.u,.u,.u] h
theorem a2U (T:Tab) (k j0:Nat) (a b c d e f g i:AV) (h:Heap):g0_ T k j0 a b c d e f g i h =
 oa (ldN 5 h i) fun l=>
 ob (evalFn T k a7_ [a,l] h) fun m n=>
 oa (extr 0 m) fun o=>
 oa (extr 1 m) fun p=>
 ob (buildSl 1 1 [.int .i64 0] [(0,1,o)] n) fun q r=>
 ob (apnd 1 8 d q r) fun s t=>
 ob (buildSl 1 1 [.int .i64 0] [(0,1,p)] t) fun u v=>
 ob (apnd 1 8 e u v) fun w x=>
 oa (binV .add .scalar g (.int .i64 1)) fun y=>
 f9_ T k j0 a b c s w f y x:=blockEq (by kernel_rfl)
theorem a2V (T:Tab) (k:Nat) (a b:AV) (h:Heap):g1_ T k a b h =
 some (.tup [a,b],h):=blockEq (by kernel_rfl)
theorem a2W (T:Tab) (k:Nat) (a b c d e:AV) (h:Heap):d4_ T k a b c d e h =
 ob (evalFn T k b0_ [a] h) fun f g=>
 oa (nilCk a) fun i=>
 oa (fldA 5 i) fun l=>
 oa (ld1 g l) fun m=>
 oa (unV .not m) fun n=>
 cond2 n
 (
 oa (ldN 5 g b) fun o=>
 ob (evalFn T k e1_ [a,o,c,f,d,e] g) fun p q=>
 g1_ T k c f q
 )
 (
 g1_ T k c f g
 ):=blockEq (by kernel_rfl)
theorem t8_ (T:Tab) (k j0:Nat) (a b c d e f g:AV) (h:Heap):f9_ T k (j0+1) a b c d e f g h =
 oa (binV .lss .scalar g f) fun i=>
 ob (gd i true (some (a,h)) h) fun l m=>
 ob (gd i true (pure1 m (nilCk l)) m) fun n o=>
 ob (gd i true (pure1 o (fldA 5 n)) o) fun p q=>
 ob (gd i true (pure1 q (ld1 q p)) q) fun r s=>
 ob (gd i true (pure1 s (unV .not r)) s) fun t u=>
 oa (pickV i t (.bool false)) fun v=>
 cond2 v
 (
 oa (fldA 4 b) fun w=>
 oa (ld1 u w) fun x=>
 oa (idxS 5 x (.int .i64 0)) fun y=>
 oa (ldN 5 u y) fun z=>
 ob (newVar u [.int .i64 0,.int .i64 0,.int .i64 0,.int .i64 0,.nils]) fun aa ab=>
 oh (stN 5 ab aa z) fun ac=>
 oa (fldA 0 b) fun ad=>
 oa (ld1 ac ad) fun ae=>
 oa (binV .eql .scalar ae (.int .i64 5)) fun af=>
 cond2 af
 (
 oa (fldA 4 b) fun ag=>
 oa (ld1 ac ag) fun ai=>
 oa (idxS 5 ai g) fun al=>
 oa (ldN 5 ac al) fun am=>
 oh (stN 5 ac aa am) fun an=>
 g0_ T k j0 a b c d e f g aa an
 )
 (
 g0_ T k j0 a b c d e f g aa ac
 )
 )
 (
 d4_ T k a b c d e u
 ):=loopEq (by kernel_rfl)
theorem t9_ (T:Tab) (k:Nat) (a b c d e f:AV) (h:Heap):n2_ T k a b c d e f h =
 f9_ T k k a b c d e f (.int .i64 0) h:=blockEq (by kernel_rfl)
theorem a0b (T:Tab) (k:Nat) (a b:AV) (h:Heap):runF T k n1_ [a,b] h =
 ob (newVar h (AV.cells b)) fun c d=>
 oa (nilCk a) fun e=>
 oa (fldA 5 e) fun f=>
 oa (ld1 d f) fun g=>
 cond2 g
 (
 some (.tup [(.int .i64 0),(.int .i64 0)],d)
 )
 (
 oa (fldA 0 c) fun i=>
 oa (ld1 d i) fun l=>
 oa (binV .eql .scalar l (.int .i64 4)) fun m=>
 cond2 m
 (
 oa (ldN 5 d c) fun n=>
 ob (evalFn T k e0_ [a,n] d) fun o p=>
 oa (extr 0 o) fun q=>
 oa (extr 1 o) fun r=>
 some (.tup [q,r],p)
 )
 (
 ob (evalFn T k b0_ [a] d) fun s t=>
 oa (fldA 4 c) fun u=>
 oa (ld1 t u) fun v=>
 oa (lenS v) fun w=>
 oa (fldA 0 c) fun x=>
 oa (ld1 t x) fun y=>
 oa (binV .eql .scalar y (.int .i64 9)) fun z=>
 cond2 z
 (
 oa (fldA 3 c) fun aa=>
 oa (ld1 t aa) fun ab=>
 n2_ T k a c s .nils .nils ab t
 )
 (
 n2_ T k a c s .nils .nils w t
 )
 )
 ):=runEq (by kernel_rfl)
def a8b:Res:=[(2,none)]
noncomputable def y8_:MFn:=⟨14,a8b,.seq [0,2] (.region [tS 1 (.box (tT 0)),tS 2 (.mv (.const .nils))]) (.seq [4,5,6] (.region [tF 4 0 1,tL 5 4,tS 6 (.mkSlice [.bool false] 1 1 (tT 5) (tT 5)),tM 3 6]) (.seq [7,8,9,10] (.region [tM 7 3,tF 8 1 1,tL 9 8,tX 10 1 7 9,⟨none,.op (.store 1 (tT 10) (.const (.bool true))),none⟩]) (.seq [1,3,11,12,13] (.region [tA 11 5 1,tM 12 3,⟨some 13,.call c9_ [(tT 11),(tT 12)],none⟩,tM 2 13]) .ret)))⟩
theorem a8c (T:Tab) (k:Nat) (a:AV) (h:Heap):runF T k y8_ [a] h =
 ob (newVar h (AV.cells a)) fun b c=>
 oa (fldA 0 b) fun d=>
 oa (ld1 c d) fun e=>
 ob (mkSl [.bool false] 1 1 e e c) fun f g=>
 oa (fldA 1 b) fun i=>
 oa (ld1 g i) fun l=>
 oa (idxS 1 f l) fun m=>
 oh (stN 1 g m (.bool true)) fun n=>
 oa (ldN 5 n b) fun o=>
 ob (evalFn T k c9_ [o,f] n) fun p q=>
 some (p,q):=runEq (by kernel_rfl)
noncomputable def a3k:MCode:=.seq [17] (.seq [13,14,15,16] (.region [tM 13 8,tF 14 3 3,tL 15 14,tS 16 (.lenSl (tT 15)),tS 17 (.bin .lss .scalar (tT 13) (tT 16))]) (.cond (tT 17) .skip (.exit 0))) (.seq [9,46,47,48,49,50] (.block 1 (.seq [20,21,22,23,24] (.region [tF 20 3 3,tL 21 20,tM 22 8,tX 23 3 21 22,tA 24 3 23,tS 9 (.alloc [.int .i64 0,.int .i64 0,.int .i64 0]),tW 3 9 24]) (.seq [25,26,27,28,29,30,31,32,33,34,35,36,37,38,39,40,41,42,43,44,45] (.region [tM 25 2,tS 26 (.bin .geq .scalar (tT 25) (tK 0)),tM 27 26,⟨some 28,.op (.mv (tT 2)),some (27,true)⟩,⟨some 29,.op (.bin .lss .scalar (tT 28) (tK 5)),some (27,true)⟩,tS 30 (.pick (tT 27) (tT 29) (.const (.bool false))),tM 31 30,⟨some 32,.op (.mv (tT 1)),some (31,true)⟩,⟨some 33,.op (.fieldAddr 0 (tT 9)),some (31,true)⟩,⟨some 34,.op (.load none (tT 33)),some (31,true)⟩,⟨some 35,.op (.idxSl 1 (tT 32) (tT 34)),some (31,true)⟩,⟨some 36,.op (.load none (tT 35)),some (31,true)⟩,tS 37 (.pick (tT 31) (tT 36) (.const (.bool false))),tM 38 37,⟨some 39,.op (.fieldAddr 2 (tT 9)),some (38,true)⟩,⟨some 40,.op (.load none (tT 39)),some (38,true)⟩,⟨some 41,.op (.mv (tT 2)),some (38,true)⟩,⟨some 42,.op (.convI .u64 (tT 41)),some (38,true)⟩,⟨some 43,.op (.bin .shr .scalar (tT 40) (tT 42)),some (38,true)⟩,⟨some 44,.op (.bin .and .scalar (tT 43) (tK 1)),some (38,true)⟩,⟨some 45,.op (.bin .eql .scalar (tT 44) (tK 1)),some (38,true)⟩,tS 46 (.pick (tT 38) (tT 45) (.const (.bool false)))]) (.cond (tT 46) (.region [tM 47 7,tF 48 1 9,tL 49 48,tX 50 1 47 49,⟨none,.op (.store 1 (tT 50) (.const (.bool true))),none⟩]) .skip)))) (.region [tM 18 8,tS 19 (.bin .add .scalar (tT 18) (tK 1)),tM 8 19]))
noncomputable def a0u:MCode:=.seq [3,7,51,52,53] (.region [tA 51 5 3,tM 52 7,⟨some 53,.call c9_ [(tT 51),(tT 52)],none⟩,tM 6 53]) .ret
def a0v:Res:=[(6,none)]
noncomputable def a0w:MFn:=⟨54,a0v,.seq [0,6] (.region [tS 3 (.box (tT 0)),tS 6 (.mv (.const .nils))]) (.seq [10,11,12] (.region [tF 10 0 3,tL 11 10,tS 12 (.mkSlice [.bool false] 1 1 (tT 11) (tT 11)),tM 7 12]) (.seq [1,2,8,17] (.seq [] (.region [tS 8 (.mv (tK 0))]) (.block 0 (.loop [18,19] a3k))) (.lab a0u)))⟩
noncomputable def k1_ (T:Tab) (k j0:Nat) (a b c d e:AV) (h:Heap):Option (AV × Heap):=
 loopB T k a0v j0 [18,19] a3k [.blk 0,.seq [1,2,8,17] (.lab a0u)] [.u,a,b,c,.u,.u,.u,d,e,.u,.u,.u,.u,.u,.u,.u,.u,.u,.u,.u,.u,.u,.u,.u,.u,.u,.u,.u,.u,.u,.u,.u,.u,.u,.u,.u,.u,.u,.u,.u,.u,.u,.u,.u,.u,.u,.u,.u,.u,.u,.u,.u,.u,.u] h
noncomputable def a3l (T:Tab) (k:Nat) (a b:AV) (h:Heap):Option (AV × Heap):=
 evB T k a0v a0u [] [.u,.u,.u,a,.u,.u,.u,b,.u,.u,.u,.u,.u,.u,.u,.u,.u,.u,.u,.u,.u,.u,.u,.u,.u,.u,.u,.u,.u,.u,.u,.u,.u,.u,.u,.u,.u,.u,.u,.u,.u,.u,.u,.u,.u,.u,.u,.u,.u,.u,.u,.u,.u,.u] h
theorem a6I (T:Tab) (k:Nat) (a b:AV) (h:Heap):a3l T k a b h =
 oa (ldN 5 h a) fun c=>
 ob (evalFn T k c9_ [c,b] h) fun d e=>
 some (d,e):=blockEq (by kernel_rfl)
theorem a1P (T:Tab) (k j0:Nat) (a b c d e:AV) (h:Heap):k1_ T k (j0+1) a b c d e h =
 oa (fldA 3 c) fun f=>
 oa (ld1 h f) fun g=>
 oa (lenS g) fun i=>
 oa (binV .lss .scalar e i) fun l=>
 cond2 l
 (
 oa (fldA 3 c) fun m=>
 oa (ld1 h m) fun n=>
 oa (idxS 3 n e) fun o=>
 oa (ldN 3 h o) fun p=>
 ob (newVar h [.int .i64 0,.int .i64 0,.int .i64 0]) fun q r=>
 oh (stN 3 r q p) fun s=>
 oa (binV .geq .scalar b (.int .i64 0)) fun t=>
 ob (gd t true (some (b,s)) s) fun u v=>
 ob (gd t true (pure1 v (binV .lss .scalar u (.int .i64 5))) v) fun w x=>
 oa (pickV t w (.bool false)) fun y=>
 ob (gd y true (some (a,x)) x) fun z aa=>
 ob (gd y true (pure1 aa (fldA 0 q)) aa) fun ab ac=>
 ob (gd y true (pure1 ac (ld1 ac ab)) ac) fun ad ae=>
 ob (gd y true (pure1 ae (idxS 1 z ad)) ae) fun af ag=>
 ob (gd y true (pure1 ag (ld1 ag af)) ag) fun ai al=>
 oa (pickV y ai (.bool false)) fun am=>
 ob (gd am true (pure1 al (fldA 2 q)) al) fun an ao=>
 ob (gd am true (pure1 ao (ld1 ao an)) ao) fun ap aq=>
 ob (gd am true (some (b,aq)) aq) fun ar as=>
 ob (gd am true (pure1 as (convV .u64 ar)) as) fun au av=>
 ob (gd am true (pure1 av (binV .shr .scalar ap au)) av) fun aw ax=>
 ob (gd am true (pure1 ax (binV .and .scalar aw (.int .i64 1))) ax) fun ay az=>
 ob (gd am true (pure1 az (binV .eql .scalar ay (.int .i64 1))) az) fun a0 a1=>
 oa (pickV am a0 (.bool false)) fun a2=>
 cond2 a2
 (
 oa (fldA 1 q) fun a3=>
 oa (ld1 a1 a3) fun a4=>
 oa (idxS 1 d a4) fun a5=>
 oh (stN 1 a1 a5 (.bool true)) fun a6=>
 oa (binV .add .scalar e (.int .i64 1)) fun a7=>
 k1_ T k j0 a b c d a7 a6
 )
 (
 oa (binV .add .scalar e (.int .i64 1)) fun a8=>
 k1_ T k j0 a b c d a8 a1
 )
 )
 (
 a3l T k c d h
 ):=loopEq (by kernel_rfl)
theorem a8E (T:Tab) (k:Nat) (a b c:AV) (h:Heap):runF T k a0w [a,b,c] h =
 ob (newVar h (AV.cells a)) fun d e=>
 oa (fldA 0 d) fun f=>
 oa (ld1 e f) fun g=>
 ob (mkSl [.bool false] 1 1 g g e) fun i l=>
 k1_ T k k b c d i (.int .i64 0) l:=runEq (by kernel_rfl)
noncomputable def a3m:MCode:=.seq [9] (.seq [6,7,8] (.region [tM 6 5,tM 7 0,tS 8 (.lenSl (tT 7)),tS 9 (.bin .lss .scalar (tT 6) (tT 8))]) (.cond (tT 9) .skip (.exit 0))) (.seq [17] (.block 1 (.seq [12,13,14,15,16] (.region [tM 12 0,tM 13 5,tX 14 1 12 13,tL 15 14,tM 16 1,⟨some 17,.call l5_ [(tT 15),(tT 16)],none⟩]) (.cond (tT 17) (.seq [0,1,5,17,18] (.region [tM 18 5,tM 4 18]) .ret) .skip))) (.region [tM 10 5,tS 11 (.bin .add .scalar (tT 10) (tK 1)),tM 5 11]))
def a3n:Res:=[(4,none)]
noncomputable def a0x:MFn:=⟨19,a3n,.seq [4] (.region [tS 4 (.mv (tK 0))]) (.seq [0,1,5,9] (.seq [] (.region [tS 5 (.mv (tK 0))]) (.block 0 (.loop [10,11] a3m))) (.seq [] (.region [tS 4 (.mv (tK (-1)))]) .ret))⟩
noncomputable def r9_ (T:Tab) (k j0:Nat) (a b c:AV) (h:Heap):Option (AV × Heap):=
 loopB T k a3n j0 [10,11] a3m [.blk 0,.seq [0,1,5,9] (.seq [] (.region [⟨some 4,.op (.mv (.const (.int .i64 (-1)))),none⟩]) .ret)] [a,b,.u,.u,.u,c,.u,.u,.u,.u,.u,.u,.u,.u,.u,.u,.u,.u,.u] h
theorem a1Q (T:Tab) (k j0:Nat) (a b c:AV) (h:Heap):r9_ T k (j0+1) a b c h =
 oa (lenS a) fun d=>
 oa (binV .lss .scalar c d) fun e=>
 cond2 e
 (
 oa (idxS 1 a c) fun f=>
 oa (ld1 h f) fun g=>
 ob (evalFn T k l5_ [g,b] h) fun i l=>
 cond2 i
 (
 some (c,l)
 )
 (
 oa (binV .add .scalar c (.int .i64 1)) fun m=>
 r9_ T k j0 a b m l
 )
 )
 (
 some ((.int .i64 (-1)),h)
 ):=loopEq (by kernel_rfl)
theorem a8F (T:Tab) (k:Nat) (a b:AV) (h:Heap):runF T k a0x [a,b] h =
 r9_ T k k a b (.int .i64 0) h:=runEq (by kernel_rfl)
noncomputable def a2d:MCode:=.seq [15] (.seq [12,13,14] (.region [tM 12 4,tM 13 3,tS 14 (.lenSl (tT 13)),tS 15 (.bin .lss .scalar (tT 12) (tT 14))]) (.cond (tT 15) .skip (.exit 0))) (.seq [22,23,24,25] (.block 1 (.seq [18,19,20,21] (.region [tF 18 1 1,tL 19 18,tM 20 4,tX 21 1 19 20,tL 22 21]) (.cond (tT 22) (.region [tM 23 3,tM 24 4,tX 25 1 23 24,⟨none,.op (.store 1 (tT 25) (tK 1)),none⟩]) .skip))) (.region [tM 16 4,tS 17 (.bin .add .scalar (tT 16) (tK 1)),tM 4 17]))
noncomputable def a2e:MCode:=.block 3 (.seq [3,26,27,28,29,30,31] (.region [tA 27 2 1,tM 28 3,⟨some 29,.call j8_ [(tT 27),(tT 28)],none⟩,tM 26 29,tS 30 (.extract 0 (tT 26)),tS 31 (.extract 1 (tT 26)),tM 6 30,tM 7 31]) (.seq [34] (.seq [5,32,33] (.region [tM 32 7,tM 33 5,tS 34 (.bin .eql .scalar (tT 32) (tT 33))]) (.cond (tT 34) (.seq [1,6,7,34,35] (.region [tM 35 6,tM 2 35]) .ret) .skip)) (.region [tM 36 6,tM 37 7,tM 3 36,tM 5 37])))
noncomputable def v7_:MCode:=.seq [] (.region [tS 5 (.mv (tK 0))]) (.block 2 (.loop [6,7,36,37] a2e))
def o8_:Res:=[(2,none)]
noncomputable def v8_:MFn:=⟨38,o8_,.seq [0,2] (.region [tS 1 (.box (tT 0)),tS 2 (.mv (.const .nils))]) (.seq [8,9,10,11] (.region [tF 8 0 1,tL 9 8,tS 10 (.lenSl (tT 9)),tS 11 (.mkSlice [.int .i64 0] 1 8 (tT 10) (tT 10)),tM 3 11]) (.seq [4,15] (.seq [] (.region [tS 4 (.mv (tK 0))]) (.block 0 (.loop [16,17] a2d))) (.lab v7_)))⟩
noncomputable def h5_ (T:Tab) (k j0:Nat) (a b c:AV) (h:Heap):Option (AV × Heap):=
 loopB T k o8_ j0 [16,17] a2d [.blk 0,.seq [4,15] (.lab v7_)] [.u,a,.u,b,c,.u,.u,.u,.u,.u,.u,.u,.u,.u,.u,.u,.u,.u,.u,.u,.u,.u,.u,.u,.u,.u,.u,.u,.u,.u,.u,.u,.u,.u,.u,.u,.u,.u] h
noncomputable def a2f (T:Tab) (k:Nat) (a b:AV) (h:Heap):Option (AV × Heap):=
 evB T k o8_ v7_ [] [.u,a,.u,b,.u,.u,.u,.u,.u,.u,.u,.u,.u,.u,.u,.u,.u,.u,.u,.u,.u,.u,.u,.u,.u,.u,.u,.u,.u,.u,.u,.u,.u,.u,.u,.u,.u,.u] h
noncomputable def o9_ (T:Tab) (k j0:Nat) (a b c:AV) (h:Heap):Option (AV × Heap):=
 loopB T k o8_ j0 [6,7,36,37] a2e [.blk 2] [.u,a,.u,b,.u,c,.u,.u,.u,.u,.u,.u,.u,.u,.u,.u,.u,.u,.u,.u,.u,.u,.u,.u,.u,.u,.u,.u,.u,.u,.u,.u,.u,.u,.u,.u,.u,.u] h
theorem a5T (T:Tab) (k j0:Nat) (a b c:AV) (h:Heap):o9_ T k (j0+1) a b c h =
 oa (ldN 2 h a) fun d=>
 ob (evalFn T k j8_ [d,b] h) fun e f=>
 oa (extr 0 e) fun g=>
 oa (extr 1 e) fun i=>
 oa (binV .eql .scalar i c) fun l=>
 cond2 l
 (
 some (g,f)
 )
 (
 o9_ T k j0 a g i f
 ):=loopEq (by kernel_rfl)
theorem a5U (T:Tab) (k:Nat) (a b:AV) (h:Heap):a2f T k a b h =
 o9_ T k k a b (.int .i64 0) h:=blockEq (by kernel_rfl)
theorem a1e (T:Tab) (k j0:Nat) (a b c:AV) (h:Heap):h5_ T k (j0+1) a b c h =
 oa (lenS b) fun d=>
 oa (binV .lss .scalar c d) fun e=>
 cond2 e
 (
 oa (fldA 1 a) fun f=>
 oa (ld1 h f) fun g=>
 oa (idxS 1 g c) fun i=>
 oa (ld1 h i) fun l=>
 cond2 l
 (
 oa (idxS 1 b c) fun m=>
 oh (stN 1 h m (.int .i64 1)) fun n=>
 oa (binV .add .scalar c (.int .i64 1)) fun o=>
 h5_ T k j0 a b o n
 )
 (
 oa (binV .add .scalar c (.int .i64 1)) fun p=>
 h5_ T k j0 a b p h
 )
 )
 (
 a2f T k a b h
 ):=loopEq (by kernel_rfl)
theorem a7h (T:Tab) (k:Nat) (a:AV) (h:Heap):runF T k v8_ [a] h =
 ob (newVar h (AV.cells a)) fun b c=>
 oa (fldA 0 b) fun d=>
 oa (ld1 c d) fun e=>
 oa (lenS e) fun f=>
 ob (mkSl [.int .i64 0] 1 8 f f c) fun g i=>
 h5_ T k k b g (.int .i64 0) i:=runEq (by kernel_rfl)
def b0n:Res:=[(4,none),(5,none)]
noncomputable def a1R:MFn:=⟨22,b0n,.seq [4,5] (.region [tS 4 (.mv (tK 0)),tS 5 (.mv (.const (.bool false)))]) (.seq [1,7,8,9,10] (.region [tM 7 0,⟨some 8,.call b8_ [(tT 7)],none⟩,tM 9 1,⟨some 10,.invoke "milestone/queue.place" (tT 8) [(tT 9)],none⟩,tM 6 10]) (.seq [12] (.seq [11] (.region [tM 11 6,tS 12 (.bin .lss .scalar (tT 11) (tK 0))]) (.cond (tT 12) (.seq [0,6,12] (.region [tS 4 (.mv (tK 0)),tS 5 (.mv (.const (.bool false)))]) .ret) .skip)) (.seq [0,6,13,14,15,16,17,18,19,20,21] (.region [tM 13 0,tN 14 13,tF 15 0 14,tF 16 0 15,tL 17 16,tM 18 6,tX 19 2 17 18,tF 20 1 19,tL 21 20,tM 4 21,tS 5 (.mv (.const (.bool true)))]) .ret)))⟩
theorem b0o (T:Tab) (k:Nat) (a b:AV) (h:Heap):runF T k a1R [a,b] h =
 ob (evalFn T k b8_ [a] h) fun c d=>
 ob (callMeth T (evalFn T k) "milestone/queue.place" c [b] d) fun e f=>
 oa (binV .lss .scalar e (.int .i64 0)) fun g=>
 cond2 g
 (
 some (.tup [(.int .i64 0),(.bool false)],f)
 )
 (
 oa (nilCk a) fun i=>
 oa (fldA 0 i) fun l=>
 oa (fldA 0 l) fun m=>
 oa (ld1 f m) fun n=>
 oa (idxS 2 n e) fun o=>
 oa (fldA 1 o) fun p=>
 oa (ld1 f p) fun q=>
 some (.tup [q,(.bool true)],f)
 ):=runEq (by kernel_rfl)
def b0p:Res:=[(2,none),(3,none),(4,none)]
noncomputable def a1S:MFn:=⟨23,b0p,.seq [2,3,4] (.region [tS 2 (.mv (tK 0)),tS 3 (.mv (tK 0)),tS 4 (.mv (.const (.bool false)))]) (.seq [10] (.seq [6,7,8,9] (.region [tM 6 0,tN 7 6,tF 8 0 7,⟨some 9,.call j9_ [(tT 8)],none⟩,tS 10 (.bin .eql .scalar (tT 9) (tK 0))]) (.cond (tT 10) (.seq [0,10] (.region [tS 2 (.mv (tK 0)),tS 3 (.mv (tK 0)),tS 4 (.mv (.const (.bool false)))]) .ret) .skip)) (.seq [0,11,12,13,14,15,16,17] (.region [tM 12 0,⟨some 13,.call b8_ [(tT 12)],none⟩,⟨some 14,.call l6_ [(tT 13)],none⟩,tS 15 (.typeAssert 198 (.agg [.int .i64 0,.int .i64 0]) true (tT 14)),tM 11 15,tS 16 (.extract 0 (tT 11)),tS 17 (.extract 1 (tT 11)),tS 5 (.alloc [.int .i64 0,.int .i64 0]),tW 2 5 16,tM 4 17]) (.seq [5,18,19,20,21,22] (.regionD 23 [dF 0 23 0 5,dL 1 24 23,dF 2 25 1 5,dL 3 26 25,dM 4 27 4,dM 5 28 24,dM 6 29 26,dM 7 30 27] [(18,23),(19,24),(20,25),(21,26),(22,27),(2,28),(3,29),(4,30)]) .ret)))⟩
theorem b0q (T:Tab) (k:Nat) (a:AV) (h:Heap):runF T k a1S [a] h =
 oa (nilCk a) fun b=>
 oa (fldA 0 b) fun c=>
 ob (evalFn T k j9_ [c] h) fun d e=>
 oa (binV .eql .scalar d (.int .i64 0)) fun f=>
 cond2 f
 (
 some (.tup [(.int .i64 0),(.int .i64 0),(.bool false)],e)
 )
 (
 ob (evalFn T k b8_ [a] e) fun g i=>
 ob (evalFn T k l6_ [g] i) fun l m=>
 oa (tAssert 198 (.agg [.int .i64 0,.int .i64 0]) true l) fun n=>
 oa (extr 0 n) fun o=>
 oa (extr 1 n) fun p=>
 ob (newVar m [.int .i64 0,.int .i64 0]) fun q r=>
 oh (stN 2 r q o) fun s=>
 oa (fldA 0 q) fun t=>
 oa (ld1 s t) fun u=>
 oa (fldA 1 q) fun v=>
 oa (ld1 s v) fun w=>
 some (.tup [u,w,p],s)
 ):=runEq (by kernel_rfl)
end Go.Gm.AQ
