/- A part of the proof (GmAQc). -/
import Derived.KernelRfl
import Derived.Test.YtldnkafmanalmaaProductSumsP3
set_option linter.unusedVariables false
namespace Go.Gm.AQ
open Go Go.Gm
theorem a3l (T:Tab)(k j0:Nat)(a:AV)(h:Heap):w0_ T k (j0+1) a h =
 ob (evalFn T k h5_ [a] h) fun b c=>oa (extr 0 b) fun d=>oa (extr 1 b) fun e=>oa (unV .not e) fun f=>cond2 f
 (
 some (.tup [],c)
 )
 (
 w0_ T k j0 a c
 ):=loopEq (by kernel_rfl)
theorem b1u (T:Tab)(k:Nat)(a:AV)(h:Heap):runF T k a1w [a] h =
 w0_ T k k a h:=runEq (by kernel_rfl)
noncomputable def a4b:MCode:=.seq [] (.region [tS 19 (.bin .lss .scalar (tT 18) (tT 17))]) (.seq [19] (.cond (tT 19) .skip (.exit 0)) (.seq [8,62,63] (.block 1 (.seq [20,21,22] (.region [tM 20 18,tX 21 1 16 18,tL 22 21,tM 6 20,tM 7 22]) (.seq [6,23,24,25,26,27,28,29,30] (.region [tM 23 0,tN 24 23,tF 25 0 24,tL 26 25,tM 27 1,tM 28 6,tS 29 (.build [.int .i64 0,.int .i64 0] [(0,1,(tT 27)),(1,1,(tT 28))]),⟨some 30,.call e0_ [(tT 26),(tT 29)],none⟩,tM 8 30]) (.seq [7,31,32,33,34,35,36,37,38,39,40,41,42,43,44,45,46,47,48,49,50,51,52,53,54,55,56,57,58,59,60,61] (.regionD 66 [dM 0 66 7,dM 1 67 66,⟨2,⟨some 68,.op (.mv (tT 0)),some (67,true)⟩,[]⟩,⟨3,⟨some 69,.op (.nilCheck (tT 68)),some (67,true)⟩,[]⟩,⟨4,⟨some 70,.op (.fieldAddr 3 (tT 69)),some (67,true)⟩,[]⟩,⟨5,⟨some 71,.op (.load none (tT 70)),some (67,true)⟩,[]⟩,⟨6,⟨some 72,.op (.mv (tT 8)),some (67,true)⟩,[]⟩,⟨7,⟨some 73,.op (.idxSl 1 (tT 71) (tT 72)),some (67,true)⟩,[]⟩,⟨8,⟨some 74,.op (.load none (tT 73)),some (67,true)⟩,[]⟩,⟨9,⟨some 75,.op (.bin .geq .scalar (tT 74) (tK 0)),some (67,true)⟩,[]⟩,tD 10 76 (.pick (tT 67) (tT 75) (.const (.bool false))),dM 11 77 76,⟨12,⟨some 78,.op (.mv (tT 5)),some (77,true)⟩,[]⟩,⟨13,⟨some 79,.op (.bin .lss .scalar (tT 78) (tK 0)),some (77,true)⟩,[]⟩,⟨14,⟨some 80,.op (.mv (tT 79)),some (77,true)⟩,[]⟩,⟨15,⟨some 81,.op (.mv (tT 0)),some (80,false)⟩,[]⟩,⟨16,⟨some 82,.op (.nilCheck (tT 81)),some (80,false)⟩,[]⟩,⟨17,⟨some 83,.op (.fieldAddr 3 (tT 82)),some (80,false)⟩,[]⟩,⟨18,⟨some 84,.op (.load none (tT 83)),some (80,false)⟩,[]⟩,⟨19,⟨some 85,.op (.mv (tT 8)),some (80,false)⟩,[]⟩,⟨20,⟨some 86,.op (.idxSl 1 (tT 84) (tT 85)),some (80,false)⟩,[]⟩,⟨21,⟨some 87,.op (.load none (tT 86)),some (80,false)⟩,[]⟩,⟨22,⟨some 88,.op (.mv (tT 0)),some (80,false)⟩,[]⟩,⟨23,⟨some 89,.op (.nilCheck (tT 88)),some (80,false)⟩,[]⟩,⟨24,⟨some 90,.op (.fieldAddr 3 (tT 89)),some (80,false)⟩,[]⟩,⟨25,⟨some 91,.op (.load none (tT 90)),some (80,false)⟩,[]⟩,⟨26,⟨some 92,.op (.mv (tT 5)),some (80,false)⟩,[]⟩,⟨27,⟨some 93,.op (.idxSl 1 (tT 91) (tT 92)),some (80,false)⟩,[]⟩,⟨28,⟨some 94,.op (.load none (tT 93)),some (80,false)⟩,[]⟩,⟨29,⟨some 95,.op (.bin .lss .scalar (tT 87) (tT 94)),some (80,false)⟩,[]⟩,⟨30,⟨some 96,.op (.pick (tT 80) (.const (.bool true)) (tT 95)),some (77,true)⟩,[]⟩,tD 31 97 (.pick (tT 77) (tT 96) (.const (.bool false)))] [(31,66),(32,67),(33,68),(34,69),(35,70),(36,71),(37,72),(38,73),(39,74),(40,75),(41,76),(42,77),(43,78),(44,79),(45,80),(46,81),(47,82),(48,83),(49,84),(50,85),(51,86),(52,87),(53,88),(54,89),(55,90),(56,91),(57,92),(58,93),(59,94),(60,95),(61,96),(62,97)]) (.cond (tT 62) (.region [tM 63 8,tM 5 63]) .skip))))) (.region [tS 64 (.bin .add .scalar (tT 18) (tK 1)),tM 18 64])))
def a4c:Res:=[(4,none)]
noncomputable def a0H:MFn:=⟨66,a4c,.seq [4] (.region [tS 4 (.mv (tK 0))]) (.seq [] (.region [tS 5 (.mv (tK (-1)))]) (.seq [0,1,16,17,18,19] (.seq [9,10,11,12,13,14,15] (.region [tM 9 0,tN 10 9,tF 11 0 10,tL 12 11,tN 13 12,tF 14 3 13,tF 15 1 14,tL 16 15,tS 17 (.lenSl (tT 16)),tS 18 (.mv (tK 0))]) (.block 0 (.loop [64] a4b))) (.seq [5,65] (.region [tM 65 5,tM 4 65]) .ret)))⟩
noncomputable def k8_ (T:Tab)(k j0:Nat)(a b c d e f:AV)(h:Heap):Option (AV × Heap):=
 loopB T k a4c j0 [64] a4b [.blk 0,.seq [0,1,16,17,18,19] (.seq [5,65] (.region [⟨some 65,.op (.mv (.tmp 5)),none⟩,
 ⟨some 4,.op (.mv (.tmp 65)),none⟩]) .ret)] [a,b,.undef,.undef,.undef,c,.undef,.undef,.undef,.undef,.undef,.undef,.undef,.undef,.undef,.undef,d,e,f,.undef,.undef,.undef,.undef,.undef,.undef,.undef,.undef,.undef,.undef,.undef,.undef,.undef,.undef,.undef,.undef,.undef,.undef,.undef,.undef,.undef,.undef,.undef,.undef,.undef,.undef,.undef,.undef,.undef,.undef,.undef,.undef,.undef,.undef,.undef,.undef,.undef,.undef,.undef,.undef,.undef,.undef,.undef,.undef,.undef,.undef,.undef] h
theorem a2L (T:Tab)(k j0:Nat)(a b c d e f:AV)(h:Heap):k8_ T k (j0+1) a b c d e f h =
 oa (binV .lss .scalar f e) fun g=>cond2 g
 (
 oa (idxS 1 d f) fun i=>oa (ld1 h i) fun l=>oa (nilCk a) fun m=>oa (fldA 0 m) fun n=>oa (ld1 h n) fun o=>oa (buildV [.int .i64 0,.int .i64 0] [(0,1,b),(1,1,f)]) fun p=>ob (evalFn T k e0_ [o,p] h) fun q r=>ob (gd l true (some (a,r)) r) fun s t=>ob (gd l true (pure1 t (nilCk s)) t) fun u v=>ob (gd l true (pure1 v (fldA 3 u)) v) fun w x=>ob (gd l true (pure1 x (ld1 x w)) x) fun y z=>ob (gd l true (some (q,z)) z) fun aa ab=>ob (gd l true (pure1 ab (idxS 1 y aa)) ab) fun ac ad=>ob (gd l true (pure1 ad (ld1 ad ac)) ad) fun ae af=>ob (gd l true (pure1 af (binV .geq .scalar ae (.int .i64 0))) af) fun ag ai=>oa (pickV l ag (.bool false)) fun al=>ob (gd al true (some (c,ai)) ai) fun am an=>ob (gd al true (pure1 an (binV .lss .scalar am (.int .i64 0))) an) fun ao ap=>ob (gd al true (some (ao,ap)) ap) fun aq ar=>ob (gd aq false (some (a,ar)) ar) fun as au=>ob (gd aq false (pure1 au (nilCk as)) au) fun av aw=>ob (gd aq false (pure1 aw (fldA 3 av)) aw) fun ax ay=>ob (gd aq false (pure1 ay (ld1 ay ax)) ay) fun az a0=>ob (gd aq false (some (q,a0)) a0) fun a1 a2=>ob (gd aq false (pure1 a2 (idxS 1 az a1)) a2) fun a3 a4=>ob (gd aq false (pure1 a4 (ld1 a4 a3)) a4) fun a5 a6=>ob (gd aq false (some (a,a6)) a6) fun a7 a8=>ob (gd aq false (pure1 a8 (nilCk a7)) a8) fun a9 ba=>ob (gd aq false (pure1 ba (fldA 3 a9)) ba) fun bb bc=>ob (gd aq false (pure1 bc (ld1 bc bb)) bc) fun bd be=>ob (gd aq false (some (c,be)) be) fun bf bg=>ob (gd aq false (pure1 bg (idxS 1 bd bf)) bg) fun bi bl=>ob (gd aq false (pure1 bl (ld1 bl bi)) bl) fun bm bn=>ob (gd aq false (pure1 bn (binV .lss .scalar a5 bm)) bn) fun bo bp=>ob (gd al true (pure1 bp (pickV aq (.bool true) bo)) bp) fun bq br=>oa (pickV al bq (.bool false)) fun bs=>cond2 bs
 (
 oa (binV .add .scalar f (.int .i64 1)) fun bt=>k8_ T k j0 a b q d e bt br
 )
 (
 oa (binV .add .scalar f (.int .i64 1)) fun bu=>k8_ T k j0 a b c d e bu br
 )
 )
 (
 some (c,h)
 ):=loopEq (by kernel_rfl)
theorem b0I (T:Tab)(k:Nat)(a b:AV)(h:Heap):runF T k a0H [a,b] h =
 oa (nilCk a) fun c=>oa (fldA 0 c) fun d=>oa (ld1 h d) fun e=>oa (nilCk e) fun f=>oa (fldA 3 f) fun g=>oa (fldA 1 g) fun i=>oa (ld1 h i) fun l=>oa (lenS l) fun m=>k8_ T k k a b (.int .i64 (-1)) l m (.int .i64 0) h:=runEq (by kernel_rfl)
noncomputable def a2M:MCode:=.seq [54] (.seq [42,43,44,45,46,47,48,49,50,51,52,53] (.region [tM 42 4,tS 43 (.bin .lss .scalar (tT 42) (tK 2)),tM 44 43,⟨some 45,.op (.mv (tT 4)),some (44,false)⟩,⟨some 46,.op (.fieldAddr 2 (tT 1)),some (44,false)⟩,⟨some 47,.op (.load none (tT 46)),some (44,false)⟩,⟨some 48,.op (.lenSl (tT 47)),some (44,false)⟩,⟨some 49,.op (.bin .lss .scalar (tT 45) (tT 48)),some (44,false)⟩,⟨some 50,.op (.mv (tT 49)),some (44,false)⟩,⟨some 51,.op (.mv (tT 4)),some (50,true)⟩,⟨some 52,.op (.bin .lss .scalar (tT 51) (tK 4)),some (50,true)⟩,⟨some 53,.op (.pick (tT 50) (tT 52) (.const (.bool false))),some (44,false)⟩,tS 54 (.pick (tT 44) (.const (.bool true)) (tT 53))]) (.cond (tT 54) .skip (.exit 1))) (.seq [57,58,59,60,61,62,63,64] (.block 2 (.regionD 126 [dF 0 126 4 3,dL 1 127 126,tD 2 128 (.load (some 3) (tT 1)),dM 3 129 4,⟨4,⟨some 130,.call a9_ [(tT 128),(tT 129)],none⟩,[(127,tL 127 126)]⟩,tD 5 131 (.buildSlice 5 1 [.int .i64 0,.int .i64 0,.int .i64 0,.int .i64 0,.nils] [(0,5,(tT 130))]),tD 6 132 (.append 5 56 (tT 127) (tT 131)),dF 7 133 4 3,tD 8 134 (.store 1 (tT 133) (tT 132))] [(57,126),(58,127),(59,128),(60,129),(61,130),(62,131),(63,132),(64,133)])) (.region [tM 55 4,tS 56 (.bin .add .scalar (tT 55) (tK 1)),tM 4 56]))
noncomputable def a2N:MCode:=.seq [82] (.seq [70,71,72,73,74,75,76,77,78,79,80,81] (.region [tM 70 6,tS 71 (.bin .lss .scalar (tT 70) (tK 2)),tM 72 71,⟨some 73,.op (.mv (tT 6)),some (72,false)⟩,⟨some 74,.op (.fieldAddr 2 (tT 1)),some (72,false)⟩,⟨some 75,.op (.load none (tT 74)),some (72,false)⟩,⟨some 76,.op (.lenSl (tT 75)),some (72,false)⟩,⟨some 77,.op (.bin .lss .scalar (tT 73) (tT 76)),some (72,false)⟩,⟨some 78,.op (.mv (tT 77)),some (72,false)⟩,⟨some 79,.op (.mv (tT 6)),some (78,true)⟩,⟨some 80,.op (.bin .lss .scalar (tT 79) (tK 4)),some (78,true)⟩,⟨some 81,.op (.pick (tT 78) (tT 80) (.const (.bool false))),some (72,false)⟩,tS 82 (.pick (tT 72) (.const (.bool true)) (tT 81))]) (.cond (tT 82) .skip (.exit 3))) (.seq [85,86,87,88,89,90,91,92] (.block 4 (.regionD 126 [dF 0 126 4 5,dL 1 127 126,tD 2 128 (.load (some 3) (tT 1)),dM 3 129 6,⟨4,⟨some 130,.call a9_ [(tT 128),(tT 129)],none⟩,[(127,tL 127 126)]⟩,tD 5 131 (.buildSlice 5 1 [.int .i64 0,.int .i64 0,.int .i64 0,.int .i64 0,.nils] [(0,5,(tT 130))]),tD 6 132 (.append 5 56 (tT 127) (tT 131)),dF 7 133 4 5,tD 8 134 (.store 1 (tT 133) (tT 132))] [(85,126),(86,127),(87,128),(88,129),(89,130),(90,131),(91,132),(92,133)])) (.region [tM 83 6,tS 84 (.bin .add .scalar (tT 83) (tK 1)),tM 6 84]))
noncomputable def a2O:MCode:=.cond (tT 66) (.seq [10,66,69] (.region [tS 69 (.build [.int .i64 0,.int .i64 0,.int .i64 0,.int .i64 0,.nils] [(0,1,(tK 5))]),tS 5 (.alloc [.int .i64 0,.int .i64 0,.int .i64 0,.int .i64 0,.nils]),tW 5 5 69]) (.seq [1,6,82] (.seq [] (.region [tS 6 (.mv (tK 0))]) (.block 3 (.loop [83,84] a2N))) (.seq [5,93] (.region [tA 93 5 5,tW 5 2 93]) .ret))) (.seq [66,95] (.region [tS 95 (.bin .eql .scalar (tT 10) (tK 10)),tM 94 95]) (.cond (tT 94) (.seq [1,10,94,96,97,98,99] (.region [tA 96 3 1,⟨some 97,.call a9_ [(tT 96),(tK 0)],none⟩,tS 98 (.buildSlice 5 1 [.int .i64 0,.int .i64 0,.int .i64 0,.int .i64 0,.nils] [(0,5,(tT 97))]),tS 99 (.build [.int .i64 0,.int .i64 0,.int .i64 0,.int .i64 0,.nils] [(0,1,(tK 6)),(4,1,(tT 98))]),tW 5 2 99]) .ret) (.seq [94,101] (.region [tS 101 (.bin .eql .scalar (tT 10) (tK 11)),tM 100 101]) (.cond (tT 100) (.seq [1,10,100,102,103,104,105] (.region [tA 102 3 1,⟨some 103,.call a9_ [(tT 102),(tK 0)],none⟩,tS 104 (.buildSlice 5 1 [.int .i64 0,.int .i64 0,.int .i64 0,.int .i64 0,.nils] [(0,5,(tT 103))]),tS 105 (.build [.int .i64 0,.int .i64 0,.int .i64 0,.int .i64 0,.nils] [(0,1,(tK 7)),(4,1,(tT 104))]),tW 5 2 105]) .ret) (.seq [10,100,107] (.region [tS 107 (.bin .eql .scalar (tT 10) (tK 12)),tM 106 107]) (.cond (tT 106) (.seq [1,106,108,109,110,111] (.region [tA 108 3 1,⟨some 109,.call a9_ [(tT 108),(tK 0)],none⟩,tS 110 (.buildSlice 5 1 [.int .i64 0,.int .i64 0,.int .i64 0,.int .i64 0,.nils] [(0,5,(tT 109))]),tS 111 (.build [.int .i64 0,.int .i64 0,.int .i64 0,.int .i64 0,.nils] [(0,1,(tK 8)),(4,1,(tT 110))]),tW 5 2 111]) .ret) .skip))))))
noncomputable def a2P:MCode:=.cond (tT 37) (.seq [10,37,41] (.region [tS 41 (.build [.int .i64 0,.int .i64 0,.int .i64 0,.int .i64 0,.nils] [(0,1,(tK 4))]),tS 3 (.alloc [.int .i64 0,.int .i64 0,.int .i64 0,.int .i64 0,.nils]),tW 5 3 41]) (.seq [1,4,54] (.seq [] (.region [tS 4 (.mv (tK 0))]) (.block 1 (.loop [55,56] a2M))) (.seq [3,65] (.region [tA 65 5 3,tW 5 2 65]) .ret))) (.seq [68] (.seq [37,67] (.region [tS 67 (.bin .eql .scalar (tT 10) (tK 8)),tM 66 67]) (.cond (tT 66) .skip (.region [tS 68 (.bin .eql .scalar (tT 10) (tK 9)),tM 66 68]))) (.lab a2O))
noncomputable def a2Q:MCode:=.cond (tT 19) (.seq [1,10,19,22,23,24,25,26,27] (.region [tF 22 1 1,tL 23 22,⟨some 24,.call a7_ [(tT 23),(tK 5)],none⟩,tS 25 (.convI .u64 (tT 24)),tS 26 (.bin .shl .scalar (tK 1) (tT 25)),tS 27 (.build [.int .i64 0,.int .i64 0,.int .i64 0,.int .i64 0,.nils] [(0,1,(tK 1)),(1,1,(tT 26))]),tW 5 2 27]) .ret) (.seq [19,29] (.region [tS 29 (.bin .eql .scalar (tT 10) (tK 4)),tM 28 29]) (.cond (tT 28) (.seq [1,10,28,30,31,32,33,34,35,36] (.region [tS 30 (.buildSlice 1 3 [.int .i64 0,.int .i64 0,.int .i64 0] [(0,1,(tK 2)),(1,1,(tK 3)),(2,1,(tK 3))]),tF 31 1 1,tL 32 31,⟨some 33,.call a7_ [(tT 32),(tK 3)],none⟩,tX 34 1 30 33,tL 35 34,tS 36 (.build [.int .i64 0,.int .i64 0,.int .i64 0,.int .i64 0,.nils] [(0,1,(tT 35))]),tW 5 2 36]) .ret) (.seq [40] (.seq [28,38] (.region [tS 38 (.bin .eql .scalar (tT 10) (tK 5)),tM 37 38]) (.cond (tT 37) .skip (.seq [39] (.region [tS 39 (.bin .eql .scalar (tT 10) (tK 6)),tM 37 39]) (.cond (tT 37) .skip (.region [tS 40 (.bin .eql .scalar (tT 10) (tK 7)),tM 37 40]))))) (.lab a2P))))
noncomputable def a2R:MCode:=.cond (tT 11) (.seq [1,10,11,14,15,16,17,18] (.region [tF 14 1 1,tL 15 14,⟨some 16,.call a7_ [(tT 15),(tK 31)],none⟩,tS 17 (.bin .add .scalar (tK 1) (tT 16)),tS 18 (.build [.int .i64 0,.int .i64 0,.int .i64 0,.int .i64 0,.nils] [(0,1,(tK 1)),(1,1,(tT 17))]),tW 5 2 18]) .ret) (.seq [21] (.seq [11,20] (.region [tS 20 (.bin .eql .scalar (tT 10) (tK 2)),tM 19 20]) (.cond (tT 19) .skip (.region [tS 21 (.bin .eql .scalar (tT 10) (tK 3)),tM 19 21]))) (.lab a2Q))
noncomputable def b7_:MCode:=.seq [112,113,114] (.region [tF 112 1 1,tL 113 112,⟨some 114,.call a7_ [(tT 113),(tK 4)],none⟩,tM 7 114]) (.seq [1,7,115,116,117,118,119,120,121,122,123,124,125] (.regionD 126 [dM 0 126 7,dM 1 127 7,dF 2 128 1 1,dL 3 129 128,tD 4 130 (.bin .quo .scalar (tT 129) (tK 4)),tD 7 133 (.load (some 3) (tT 1)),⟨5,⟨some 131,.call a7_ [(tT 130),(tK 3)],none⟩,[(133,tA 133 3 1)]⟩,tD 6 132 (.bin .add .scalar (tT 127) (tT 131)),⟨8,⟨some 134,.call a9_ [(tT 133),(tK 0)],none⟩,[]⟩,tD 9 135 (.buildSlice 5 1 [.int .i64 0,.int .i64 0,.int .i64 0,.int .i64 0,.nils] [(0,5,(tT 134))]),tD 10 136 (.build [.int .i64 0,.int .i64 0,.int .i64 0,.int .i64 0,.nils] [(0,1,(tK 9)),(2,1,(tT 126)),(3,1,(tT 132)),(4,1,(tT 135))]),tD 11 137 (.store 5 (tT 2) (tT 136))] [(115,126),(116,127),(117,128),(118,129),(119,130),(120,131),(121,132),(122,133),(123,134),(124,135),(125,136)]) .ret)
def b8_:Res:=[(2,some (some 5))]
noncomputable def w9_:MFn:=⟨126,b8_,.seq [0] (.region [tS 1 (.box (tT 0)),tS 2 (.alloc [.int .i64 0,.int .i64 0,.int .i64 0,.int .i64 0,.nils])]) (.seq [106] (.seq [8,9] (.region [tF 8 0 1,tL 9 8,⟨some 10,.call a7_ [(tT 9),(tK 14)],none⟩]) (.block 0 (.seq [13] (.seq [12] (.region [tS 12 (.bin .eql .scalar (tT 10) (tK 0)),tM 11 12]) (.cond (tT 11) .skip (.region [tS 13 (.bin .eql .scalar (tT 10) (tK 1)),tM 11 13]))) (.lab a2R)))) (.lab b7_))⟩
noncomputable def m9_ (T:Tab)(k:Nat)(a b c d:AV)(h:Heap):Option (AV × Heap):=
 evB T k b8_ a2R [.blk 0,.seq [106] (.lab b7_)] [.u,a,b,.u,.u,.u,.u,.u,.u,.u,c,d,.u,.u,.u,.u,.u,.u,.u,.u,.u,.u,.u,.u,.u,.u,.u,.u,.u,.u,.u,.u,.u,.u,.u,.u,.u,.u,.u,.u,.u,.u,.u,.u,.u,.u,.u,.u,.u,.u,.u,.u,.u,.u,.u,.u,.u,.u,.u,.u,.u,.u,.u,.u,.u,.u,.u,.u,.u,.u,.u,.u,.u,.u,.u,.u,.u,.u,.u,.u,.u,.u,.u,.u,.u,.u,.u,.u,.u,.u,.u,.u,.u,.u,.u,.u,.u,.u,.u,.u,.u,.u,.u,.u,.u,.u,.u,.u,.u,.u,.u,.u,.u,.u,.u,.u,.u,.u,.u,.u,.u,.u,.u,.u,.u,.u] h
noncomputable def h2_ (T:Tab)(k:Nat)(a b c d:AV)(h:Heap):Option (AV × Heap):=
 evB T k b8_ a2Q [.blk 0,.seq [106] (.lab b7_)] [.u,a,b,.u,.u,.u,.u,.u,.u,.u,c,.u,.u,.u,.u,.u,.u,.u,.u,d,.u,.u,.u,.u,.u,.u,.u,.u,.u,.u,.u,.u,.u,.u,.u,.u,.u,.u,.u,.u,.u,.u,.u,.u,.u,.u,.u,.u,.u,.u,.u,.u,.u,.u,.u,.u,.u,.u,.u,.u,.u,.u,.u,.u,.u,.u,.u,.u,.u,.u,.u,.u,.u,.u,.u,.u,.u,.u,.u,.u,.u,.u,.u,.u,.u,.u,.u,.u,.u,.u,.u,.u,.u,.u,.u,.u,.u,.u,.u,.u,.u,.u,.u,.u,.u,.u,.u,.u,.u,.u,.u,.u,.u,.u,.u,.u,.u,.u,.u,.u,.u,.u,.u,.u,.u,.u] h
noncomputable def h3_ (T:Tab)(k:Nat)(a b c d:AV)(h:Heap):Option (AV × Heap):=
 evB T k b8_ a2P [.blk 0,.seq [106] (.lab b7_)] [.u,a,b,.u,.u,.u,.u,.u,.u,.u,c,.u,.u,.u,.u,.u,.u,.u,.u,.u,.u,.u,.u,.u,.u,.u,.u,.u,.u,.u,.u,.u,.u,.u,.u,.u,.u,d,.u,.u,.u,.u,.u,.u,.u,.u,.u,.u,.u,.u,.u,.u,.u,.u,.u,.u,.u,.u,.u,.u,.u,.u,.u,.u,.u,.u,.u,.u,.u,.u,.u,.u,.u,.u,.u,.u,.u,.u,.u,.u,.u,.u,.u,.u,.u,.u,.u,.u,.u,.u,.u,.u,.u,.u,.u,.u,.u,.u,.u,.u,.u,.u,.u,.u,.u,.u,.u,.u,.u,.u,.u,.u,.u,.u,.u,.u,.u,.u,.u,.u,.u,.u,.u,.u,.u,.u] h
noncomputable def n0_ (T:Tab)(k j0:Nat)(a b c d:AV)(h:Heap):Option (AV × Heap):=
 loopB T k b8_ j0 [55,56] a2M [.blk 1,.seq [1,4,54] (.seq [3,65] (.region [⟨some 65,.op (.load (some 5) (.tmp 3)),none⟩,
 ⟨none,.op (.store 5 (.tmp 2) (.tmp 65)),none⟩]) .ret),.blk 0,.seq [106] (.lab b7_)] [.undef,a,b,c,d,.undef,.undef,.undef,.undef,.undef,.undef,.undef,.undef,.undef,.undef,.undef,.undef,.undef,.undef,.undef,.undef,.undef,.undef,.undef,.undef,.undef,.undef,.undef,.undef,.undef,.undef,.undef,.undef,.undef,.undef,.undef,.undef,.undef,.undef,.undef,.undef,.undef,.undef,.undef,.undef,.undef,.undef,.undef,.undef,.undef,.undef,.undef,.undef,.undef,.undef,.undef,.undef,.undef,.undef,.undef,.undef,.undef,.undef,.undef,.undef,.undef,.undef,.undef,.undef,.undef,.undef,.undef,.undef,.undef,.undef,.undef,.undef,.undef,.undef,.undef,.undef,.undef,.undef,.undef,.undef,.undef,.undef,.undef,.undef,.undef,.undef,.undef,.undef,.undef,.undef,.undef,.undef,.undef,.undef,.undef,.undef,.undef,.undef,.undef,.undef,.undef,.undef,.undef,.undef,.undef,.undef,.undef,.undef,.undef,.undef,.undef,.undef,.undef,.undef,.undef,.undef,.undef,.undef,.undef,.undef,.undef] h
noncomputable def b9_ (T:Tab)(k:Nat)(a b c d:AV)(h:Heap):Option (AV × Heap):=
 evB T k b8_ a2O [.blk 0,.seq [106] (.lab b7_)] [.u,a,b,.u,.u,.u,.u,.u,.u,.u,c,.u,.u,.u,.u,.u,.u,.u,.u,.u,.u,.u,.u,.u,.u,.u,.u,.u,.u,.u,.u,.u,.u,.u,.u,.u,.u,.u,.u,.u,.u,.u,.u,.u,.u,.u,.u,.u,.u,.u,.u,.u,.u,.u,.u,.u,.u,.u,.u,.u,.u,.u,.u,.u,.u,.u,d,.u,.u,.u,.u,.u,.u,.u,.u,.u,.u,.u,.u,.u,.u,.u,.u,.u,.u,.u,.u,.u,.u,.u,.u,.u,.u,.u,.u,.u,.u,.u,.u,.u,.u,.u,.u,.u,.u,.u,.u,.u,.u,.u,.u,.u,.u,.u,.u,.u,.u,.u,.u,.u,.u,.u,.u,.u,.u,.u] h
noncomputable def n1_ (T:Tab)(k j0:Nat)(a b c d:AV)(h:Heap):Option (AV × Heap):=
 loopB T k b8_ j0 [83,84] a2N [.blk 3,.seq [1,6,82] (.seq [5,93] (.region [⟨some 93,.op (.load (some 5) (.tmp 5)),none⟩,
 ⟨none,.op (.store 5 (.tmp 2) (.tmp 93)),none⟩]) .ret),.blk 0,.seq [106] (.lab b7_)] [.undef,a,b,.undef,.undef,c,d,.undef,.undef,.undef,.undef,.undef,.undef,.undef,.undef,.undef,.undef,.undef,.undef,.undef,.undef,.undef,.undef,.undef,.undef,.undef,.undef,.undef,.undef,.undef,.undef,.undef,.undef,.undef,.undef,.undef,.undef,.undef,.undef,.undef,.undef,.undef,.undef,.undef,.undef,.undef,.undef,.undef,.undef,.undef,.undef,.undef,.undef,.undef,.undef,.undef,.undef,.undef,.undef,.undef,.undef,.undef,.undef,.undef,.undef,.undef,.undef,.undef,.undef,.undef,.undef,.undef,.undef,.undef,.undef,.undef,.undef,.undef,.undef,.undef,.undef,.undef,.undef,.undef,.undef,.undef,.undef,.undef,.undef,.undef,.undef,.undef,.undef,.undef,.undef,.undef,.undef,.undef,.undef,.undef,.undef,.undef,.undef,.undef,.undef,.undef,.undef,.undef,.undef,.undef,.undef,.undef,.undef,.undef,.undef,.undef,.undef,.undef,.undef,.undef,.undef,.undef,.undef,.undef,.undef,.undef] h
noncomputable def x0_ (T:Tab)(k:Nat)(a b:AV)(h:Heap):Option (AV × Heap):=
 evB T k b8_ b7_ [] [.u,a,b,.u,.u,.u,.u,.u,.u,.u,.u,.u,.u,.u,.u,.u,.u,.u,.u,.u,.u,.u,.u,.u,.u,.u,.u,.u,.u,.u,.u,.u,.u,.u,.u,.u,.u,.u,.u,.u,.u,.u,.u,.u,.u,.u,.u,.u,.u,.u,.u,.u,.u,.u,.u,.u,.u,.u,.u,.u,.u,.u,.u,.u,.u,.u,.u,.u,.u,.u,.u,.u,.u,.u,.u,.u,.u,.u,.u,.u,.u,.u,.u,.u,.u,.u,.u,.u,.u,.u,.u,.u,.u,.u,.u,.u,.u,.u,.u,.u,.u,.u,.u,.u,.u,.u,.u,.u,.u,.u,.u,.u,.u,.u,.u,.u,.u,.u,.u,.u,.u,.u,.u,.u,.u,.u] h
theorem a1x (T:Tab)(k j0:Nat)(a b c d:AV)(h:Heap):n0_ T k (j0+1) a b c d h =
 oa (binV .lss .scalar d (.int .i64 2)) fun e=>ob (gd e false (some (d,h)) h) fun f g=>ob (gd e false (pure1 g (fldA 2 a)) g) fun i l=>ob (gd e false (pure1 l (ld1 l i)) l) fun m n=>ob (gd e false (pure1 n (lenS m)) n) fun o p=>ob (gd e false (pure1 p (binV .lss .scalar f o)) p) fun q r=>ob (gd e false (some (q,r)) r) fun s t=>ob (gd s true (some (d,t)) t) fun u v=>ob (gd s true (pure1 v (binV .lss .scalar u (.int .i64 4))) v) fun w x=>ob (gd e false (pure1 x (pickV s w (.bool false))) x) fun y z=>oa (pickV e (.bool true) y) fun aa=>cond2 aa
 (
 oa (fldA 4 c) fun ab=>oa (ld1 z ab) fun ac=>oa (ldN 3 z a) fun ad=>ob (evalFn T k a9_ [ad,d] z) fun ae af=>chk ((sameB (pure1 af (ld1 af ab)) ac && true)) <|ob (buildSl 5 1 [.int .i64 0,.int .i64 0,.int .i64 0,.int .i64 0,.nils] [(0,5,ae)] af) fun ag ai=>ob (apnd 5 56 ac ag ai) fun al am=>oa (fldA 4 c) fun an=>oh (stN 1 am an al) fun ao=>oa (binV .add .scalar d (.int .i64 1)) fun ap=>n0_ T k j0 a b c ap ao
 )
 (
 oa (ldN 5 z c) fun aq=>oh (stN 5 z b aq) fun ar=>oa (ldN 5 ar b) fun as=>some (as,ar)
 ):=loopEq (by kernel_rfl)
theorem a1y (T:Tab)(k j0:Nat)(a b c d:AV)(h:Heap):n1_ T k (j0+1) a b c d h =
 oa (binV .lss .scalar d (.int .i64 2)) fun e=>ob (gd e false (some (d,h)) h) fun f g=>ob (gd e false (pure1 g (fldA 2 a)) g) fun i l=>ob (gd e false (pure1 l (ld1 l i)) l) fun m n=>ob (gd e false (pure1 n (lenS m)) n) fun o p=>ob (gd e false (pure1 p (binV .lss .scalar f o)) p) fun q r=>ob (gd e false (some (q,r)) r) fun s t=>ob (gd s true (some (d,t)) t) fun u v=>ob (gd s true (pure1 v (binV .lss .scalar u (.int .i64 4))) v) fun w x=>ob (gd e false (pure1 x (pickV s w (.bool false))) x) fun y z=>oa (pickV e (.bool true) y) fun aa=>cond2 aa
 (
 oa (fldA 4 c) fun ab=>oa (ld1 z ab) fun ac=>oa (ldN 3 z a) fun ad=>ob (evalFn T k a9_ [ad,d] z) fun ae af=>chk ((sameB (pure1 af (ld1 af ab)) ac && true)) <|ob (buildSl 5 1 [.int .i64 0,.int .i64 0,.int .i64 0,.int .i64 0,.nils] [(0,5,ae)] af) fun ag ai=>ob (apnd 5 56 ac ag ai) fun al am=>oa (fldA 4 c) fun an=>oh (stN 1 am an al) fun ao=>oa (binV .add .scalar d (.int .i64 1)) fun ap=>n1_ T k j0 a b c ap ao
 )
 (
 oa (ldN 5 z c) fun aq=>oh (stN 5 z b aq) fun ar=>oa (ldN 5 ar b) fun as=>some (as,ar)
 ):=loopEq (by kernel_rfl)
theorem a7f (T:Tab)(k:Nat)(a b:AV)(h:Heap):x0_ T k a b h =
 oa (fldA 1 a) fun c=>oa (ld1 h c) fun d=>ob (evalFn T k a7_ [d,(.int .i64 4)] h) fun e f=>oa (fldA 1 a) fun g=>oa (ld1 f g) fun i=>oa (binV .quo .scalar i (.int .i64 4)) fun l=>oa (ldN 3 f a) fun m=>ob (evalFn T k a7_ [l,(.int .i64 3)] f) fun n o=>chk ((sameB (pure1 o (ldN 3 o a)) m && true)) <|oa (binV .add .scalar e n) fun p=>ob (evalFn T k a9_ [m,(.int .i64 0)] o) fun q r=>ob (buildSl 5 1 [.int .i64 0,.int .i64 0,.int .i64 0,.int .i64 0,.nils] [(0,5,q)] r) fun s t=>oa (buildV [.int .i64 0,.int .i64 0,.int .i64 0,.int .i64 0,.nils] [(0,1,(.int .i64 9)),(2,1,e),(3,1,p),(4,1,s)]) fun u=>oh (stN 5 t b u) fun v=>oa (ldN 5 v b) fun w=>some (w,v):=blockEq (by kernel_rfl)
theorem f8_ (T:Tab)(k:Nat)(a b c d:AV)(h:Heap):b9_ T k a b c d h =
 cond2 d
 (
 oa (buildV [.int .i64 0,.int .i64 0,.int .i64 0,.int .i64 0,.nils] [(0,1,(.int .i64 5))]) fun e=>ob (newVar h [.int .i64 0,.int .i64 0,.int .i64 0,.int .i64 0,.nils]) fun f g=>oh (stN 5 g f e) fun i=>n1_ T k k a b f (.int .i64 0) i
 )
 (
 oa (binV .eql .scalar c (.int .i64 10)) fun l=>cond2 l
 (
 oa (ldN 3 h a) fun m=>ob (evalFn T k a9_ [m,(.int .i64 0)] h) fun n o=>ob (buildSl 5 1 [.int .i64 0,.int .i64 0,.int .i64 0,.int .i64 0,.nils] [(0,5,n)] o) fun p q=>oa (buildV [.int .i64 0,.int .i64 0,.int .i64 0,.int .i64 0,.nils] [(0,1,(.int .i64 6)),(4,1,p)]) fun r=>oh (stN 5 q b r) fun s=>oa (ldN 5 s b) fun t=>some (t,s)
 )
 (
 oa (binV .eql .scalar c (.int .i64 11)) fun u=>cond2 u
 (
 oa (ldN 3 h a) fun v=>ob (evalFn T k a9_ [v,(.int .i64 0)] h) fun w x=>ob (buildSl 5 1 [.int .i64 0,.int .i64 0,.int .i64 0,.int .i64 0,.nils] [(0,5,w)] x) fun y z=>oa (buildV [.int .i64 0,.int .i64 0,.int .i64 0,.int .i64 0,.nils] [(0,1,(.int .i64 7)),(4,1,y)]) fun aa=>oh (stN 5 z b aa) fun ab=>oa (ldN 5 ab b) fun ac=>some (ac,ab)
 )
 (
 oa (binV .eql .scalar c (.int .i64 12)) fun ad=>cond2 ad
 (
 oa (ldN 3 h a) fun ae=>ob (evalFn T k a9_ [ae,(.int .i64 0)] h) fun af ag=>ob (buildSl 5 1 [.int .i64 0,.int .i64 0,.int .i64 0,.int .i64 0,.nils] [(0,5,af)] ag) fun ai al=>oa (buildV [.int .i64 0,.int .i64 0,.int .i64 0,.int .i64 0,.nils] [(0,1,(.int .i64 8)),(4,1,ai)]) fun am=>oh (stN 5 al b am) fun an=>oa (ldN 5 an b) fun ao=>some (ao,an)
 )
 (
 x0_ T k a b h
 )
 )
 )
 ):=blockEq (by kernel_rfl)
theorem c2_ (T:Tab)(k:Nat)(a b c d:AV)(h:Heap):h3_ T k a b c d h =
 cond2 d
 (
 oa (buildV [.int .i64 0,.int .i64 0,.int .i64 0,.int .i64 0,.nils] [(0,1,(.int .i64 4))]) fun e=>ob (newVar h [.int .i64 0,.int .i64 0,.int .i64 0,.int .i64 0,.nils]) fun f g=>oh (stN 5 g f e) fun i=>n0_ T k k a b f (.int .i64 0) i
 )
 (
 oa (binV .eql .scalar c (.int .i64 8)) fun l=>cond2 l
 (
 b9_ T k a b c l h
 )
 (
 oa (binV .eql .scalar c (.int .i64 9)) fun m=>b9_ T k a b c m h
 )
 ):=blockEq (by kernel_rfl)
theorem b1_ (T:Tab)(k:Nat)(a b c d:AV)(h:Heap):h2_ T k a b c d h =
 cond2 d
 (
 oa (fldA 1 a) fun e=>oa (ld1 h e) fun f=>ob (evalFn T k a7_ [f,(.int .i64 5)] h) fun g i=>oa (convV .u64 g) fun l=>oa (binV .shl .scalar (.int .i64 1) l) fun m=>oa (buildV [.int .i64 0,.int .i64 0,.int .i64 0,.int .i64 0,.nils] [(0,1,(.int .i64 1)),(1,1,m)]) fun n=>oh (stN 5 i b n) fun o=>oa (ldN 5 o b) fun p=>some (p,o)
 )
 (
 oa (binV .eql .scalar c (.int .i64 4)) fun q=>cond2 q
 (
 ob (buildSl 1 3 [.int .i64 0,.int .i64 0,.int .i64 0] [(0,1,(.int .i64 2)),(1,1,(.int .i64 3)),(2,1,(.int .i64 3))] h) fun r s=>oa (fldA 1 a) fun t=>oa (ld1 s t) fun u=>ob (evalFn T k a7_ [u,(.int .i64 3)] s) fun v w=>oa (idxS 1 r v) fun x=>oa (ld1 w x) fun y=>oa (buildV [.int .i64 0,.int .i64 0,.int .i64 0,.int .i64 0,.nils] [(0,1,y)]) fun z=>oh (stN 5 w b z) fun aa=>oa (ldN 5 aa b) fun ab=>some (ab,aa)
 )
 (
 oa (binV .eql .scalar c (.int .i64 5)) fun ac=>cond2 ac
 (
 h3_ T k a b c ac h
 )
 (
 oa (binV .eql .scalar c (.int .i64 6)) fun ad=>cond2 ad
 (
 h3_ T k a b c ad h
 )
 (
 oa (binV .eql .scalar c (.int .i64 7)) fun ae=>h3_ T k a b c ae h
 )
 )
 )
 ):=blockEq (by kernel_rfl)
theorem a8_ (T:Tab)(k:Nat)(a b c d:AV)(h:Heap):m9_ T k a b c d h =
 cond2 d
 (
 oa (fldA 1 a) fun e=>oa (ld1 h e) fun f=>ob (evalFn T k a7_ [f,(.int .i64 31)] h) fun g i=>oa (binV .add .scalar (.int .i64 1) g) fun l=>oa (buildV [.int .i64 0,.int .i64 0,.int .i64 0,.int .i64 0,.nils] [(0,1,(.int .i64 1)),(1,1,l)]) fun m=>oh (stN 5 i b m) fun n=>oa (ldN 5 n b) fun o=>some (o,n)
 )
 (
 oa (binV .eql .scalar c (.int .i64 2)) fun p=>cond2 p
 (
 h2_ T k a b c p h
 )
 (
 oa (binV .eql .scalar c (.int .i64 3)) fun q=>h2_ T k a b c q h
 )
 ):=blockEq (by kernel_rfl)
theorem a8t (T:Tab)(k:Nat)(a:AV)(h:Heap):runF T k w9_ [a] h =
 ob (newVar h (AV.cells a)) fun b c=>ob (newVar c [.int .i64 0,.int .i64 0,.int .i64 0,.int .i64 0,.nils]) fun d e=>oa (fldA 0 b) fun f=>oa (ld1 e f) fun g=>ob (evalFn T k a7_ [g,(.int .i64 14)] e) fun i l=>oa (binV .eql .scalar i (.int .i64 0)) fun m=>cond2 m
 (
 m9_ T k b d i m l
 )
 (
 oa (binV .eql .scalar i (.int .i64 1)) fun n=>m9_ T k b d i n l
 ):=runEq (by kernel_rfl)
noncomputable def a4d:MCode:=.seq [5,36] (.seq [32,33,34,35] (.region [tM 32 5,tN 33 32,tF 34 3 33,tL 35 34,tS 36 (.bin .neq .scalar (tT 35) (tK 0))]) (.cond (tT 36) (.seq [5,6,36,37,38,39,40,41,42,43,44,45] (.regionD 47 [tD 0 47 (.build [.int .i64 0,.int .i64 0,.int .i64 0,.int .i64 0,.nils] []),dM 1 48 5,tD 2 49 (.nilCheck (tT 48)),dF 3 50 1 49,dL 4 51 50,dM 5 52 5,tD 6 53 (.nilCheck (tT 52)),dF 7 54 3 53,dL 8 55 54,⟨9,tS 56 (.store 5 (tT 2) (tT 47)),[(51,tL 51 50),(55,tL 55 54)]⟩,dM 10 57 51,dM 11 58 55] [(37,47),(38,48),(39,49),(40,50),(41,51),(42,52),(43,53),(44,54),(45,55),(3,57),(4,58)]) .ret) .skip)) (.seq [6,46] (.region [tA 46 5 6,tW 5 2 46,tS 3 (.mv (tK 0)),tS 4 (.mv (tK 0))]) .ret)
def a4e:Res:=[(2,some (some 5)),(3,none),(4,none)]
noncomputable def a0I:MFn:=⟨47,a4e,.seq [3,4] (.region [tS 2 (.alloc [.int .i64 0,.int .i64 0,.int .i64 0,.int .i64 0,.nils]),tS 3 (.mv (tK 0)),tS 4 (.mv (tK 0))]) (.seq [9] (.seq [7,8] (.region [tM 7 0,tS 8 (.lenStr (tT 7)),tS 9 (.bin .gtr .scalar (tT 8) (tK 200))]) (.cond (tT 9) (.seq [0,9,10] (.region [tS 10 (.build [.int .i64 0,.int .i64 0,.int .i64 0,.int .i64 0,.nils] []),tW 5 2 10,tS 3 (.mv (tK 0)),tS 4 (.mv (tK 4))]) .ret) .skip)) (.seq [11,12,13] (.region [tM 11 0,tS 12 (.build [.str ⟨#[]⟩,.int .i64 0,.int .i64 0,.int .i64 0] [(0,1,(tT 11))]),tS 13 (.box (tT 12)),tM 5 13]) (.seq [14,15] (.region [tM 14 5,⟨some 15,.call c0_ [(tT 14)],none⟩,tS 6 (.alloc [.int .i64 0,.int .i64 0,.int .i64 0,.int .i64 0,.nils]),tW 5 6 15]) (.seq [29,30,31] (.seq [0,16,17,18,19,20,21,22,23,24,25,26,27,28] (.region [tM 16 5,tN 17 16,tF 18 3 17,tL 19 18,tS 20 (.bin .eql .scalar (tT 19) (tK 0)),tM 21 20,⟨some 22,.op (.mv (tT 5)),some (21,true)⟩,⟨some 23,.op (.nilCheck (tT 22)),some (21,true)⟩,⟨some 24,.op (.fieldAddr 1 (tT 23)),some (21,true)⟩,⟨some 25,.op (.load none (tT 24)),some (21,true)⟩,⟨some 26,.op (.mv (tT 0)),some (21,true)⟩,⟨some 27,.op (.lenStr (tT 26)),some (21,true)⟩,⟨some 28,.op (.bin .lss .scalar (tT 25) (tT 27)),some (21,true)⟩,tS 29 (.pick (tT 21) (tT 28) (.const (.bool false)))]) (.cond (tT 29) (.region [tM 30 5,⟨some 31,.call a5_ [(tT 30),(tK 3)],none⟩]) .skip)) (.lab a4d)))))⟩
noncomputable def a0J (T:Tab)(k:Nat)(a b c:AV)(h:Heap):Option (AV × Heap):=
 evB T k a4e a4d [] [.u,.u,a,.u,.u,b,c,.u,.u,.u,.u,.u,.u,.u,.u,.u,.u,.u,.u,.u,.u,.u,.u,.u,.u,.u,.u,.u,.u,.u,.u,.u,.u,.u,.u,.u,.u,.u,.u,.u,.u,.u,.u,.u,.u,.u,.u] h
theorem a8u (T:Tab)(k:Nat)(a b c:AV)(h:Heap):a0J T k a b c h =
 oa (nilCk b) fun d=>oa (fldA 3 d) fun e=>oa (ld1 h e) fun f=>oa (binV .neq .scalar f (.int .i64 0)) fun g=>cond2 g
 (
 oa (buildV [.int .i64 0,.int .i64 0,.int .i64 0,.int .i64 0,.nils] []) fun i=>oa (nilCk b) fun l=>oa (fldA 1 l) fun m=>oa (ld1 h m) fun n=>oa (nilCk b) fun o=>oa (fldA 3 o) fun p=>oa (ld1 h p) fun q=>oh (stN 5 h a i) fun r=>chk ((sameB (pure1 r (ld1 r m)) n && (sameB (pure1 r (ld1 r p)) q && true))) <|oa (ldN 5 r a) fun s=>some (.tup [s,n,q],r)
 )
 (
 oa (ldN 5 h c) fun t=>oh (stN 5 h a t) fun u=>oa (ldN 5 u a) fun v=>some (.tup [v,(.int .i64 0),(.int .i64 0)],u)
 ):=blockEq (by kernel_rfl)
theorem b0J (T:Tab)(k:Nat)(a:AV)(h:Heap):runF T k a0I [a] h =
 ob (newVar h [.int .i64 0,.int .i64 0,.int .i64 0,.int .i64 0,.nils]) fun b c=>oa (lenB a) fun d=>oa (binV .gtr .scalar d (.int .i64 200)) fun e=>cond2 e
 (
 oa (buildV [.int .i64 0,.int .i64 0,.int .i64 0,.int .i64 0,.nils] []) fun f=>oh (stN 5 c b f) fun g=>oa (ldN 5 g b) fun i=>some (.tup [i,(.int .i64 0),(.int .i64 4)],g)
 )
 (
 oa (buildV [.str ⟨#[]⟩,.int .i64 0,.int .i64 0,.int .i64 0] [(0,1,a)]) fun l=>ob (newVar c (AV.cells l)) fun m n=>ob (evalFn T k c0_ [m] n) fun o p=>ob (newVar p [.int .i64 0,.int .i64 0,.int .i64 0,.int .i64 0,.nils]) fun q r=>oh (stN 5 r q o) fun s=>oa (nilCk m) fun t=>oa (fldA 3 t) fun u=>oa (ld1 s u) fun v=>oa (binV .eql .scalar v (.int .i64 0)) fun w=>ob (gd w true (some (m,s)) s) fun x y=>ob (gd w true (pure1 y (nilCk x)) y) fun z aa=>ob (gd w true (pure1 aa (fldA 1 z)) aa) fun ab ac=>ob (gd w true (pure1 ac (ld1 ac ab)) ac) fun ad ae=>ob (gd w true (some (a,ae)) ae) fun af ag=>ob (gd w true (pure1 ag (lenB af)) ag) fun ai al=>ob (gd w true (pure1 al (binV .lss .scalar ad ai)) al) fun am an=>oa (pickV w am (.bool false)) fun ao=>cond2 ao
 (
 ob (evalFn T k a5_ [m,(.int .i64 3)] an) fun ap aq=>a0J T k b m q aq
 )
 (
 a0J T k b m q an
 )
 ):=runEq (by kernel_rfl)
def b0K:Res:=[(2,some (some 5)),(3,none)]
noncomputable def a0K:MFn:=⟨34,b0K,.seq [0,3] (.region [tS 1 (.box (tT 0)),tS 2 (.alloc [.int .i64 0,.int .i64 0,.int .i64 0,.nils,.nils]),tS 3 (.mv (tK 0))]) (.seq [7,8] (.region [tS 7 (.build [.int .i64 0,.int .i64 0,.int .i64 0,.nils,.nils,.bool false] []),tS 8 (.box (tT 7)),tM 4 8]) (.seq [1,9,10,11,12,13,14] (.region [tM 10 4,tA 11 5 1,⟨some 12,.call b3_ [(tT 10),(tT 11)],none⟩,tM 9 12,tS 13 (.extract 0 (tT 9)),tS 14 (.extract 1 (tT 9)),tM 5 13,tM 6 14]) (.seq [18] (.seq [15,16,17] (.region [tM 15 4,tN 16 15,tF 17 5 16,tL 18 17]) (.cond (tT 18) (.seq [4,5,6,18,19] (.region [tS 19 (.build [.int .i64 0,.int .i64 0,.int .i64 0,.nils,.nils] []),tW 5 2 19,tS 3 (.mv (tK 4))]) .ret) .skip)) (.seq [5,6,20,21,22,23,24,25,26,27,28,29] (.region [tM 20 4,tM 21 4,tM 22 5,tM 23 6,tN 24 20,tF 25 0 24,tF 26 1 25,tW 1 26 22,tN 27 21,tF 28 0 27,tF 29 2 28,tW 1 29 23]) (.seq [4,30,31,32,33] (.region [tM 30 4,tN 31 30,tF 32 0 31,tA 33 5 32,tW 5 2 33,tS 3 (.mv (tK 0))]) .ret)))))⟩
theorem b0L (T:Tab)(k:Nat)(a:AV)(h:Heap):runF T k a0K [a] h =
 ob (newVar h (AV.cells a)) fun b c=>ob (newVar c [.int .i64 0,.int .i64 0,.int .i64 0,.nils,.nils]) fun d e=>oa (buildV [.int .i64 0,.int .i64 0,.int .i64 0,.nils,.nils,.bool false] []) fun f=>ob (newVar e (AV.cells f)) fun g i=>oa (ldN 5 i b) fun l=>ob (evalFn T k b3_ [g,l] i) fun m n=>oa (extr 0 m) fun o=>oa (extr 1 m) fun p=>oa (nilCk g) fun q=>oa (fldA 5 q) fun r=>oa (ld1 n r) fun s=>cond2 s
 (
 oa (buildV [.int .i64 0,.int .i64 0,.int .i64 0,.nils,.nils] []) fun t=>oh (stN 5 n d t) fun u=>oa (ldN 5 u d) fun v=>some (.tup [v,(.int .i64 4)],u)
 )
 (
 oa (nilCk g) fun w=>oa (fldA 0 w) fun x=>oa (fldA 1 x) fun y=>oh (stN 1 n y o) fun z=>oa (nilCk g) fun aa=>oa (fldA 0 aa) fun ab=>oa (fldA 2 ab) fun ac=>oh (stN 1 z ac p) fun ad=>oa (nilCk g) fun ae=>oa (fldA 0 ae) fun af=>oa (ldN 5 ad af) fun ag=>oh (stN 5 ad d ag) fun ai=>oa (ldN 5 ai d) fun al=>some (.tup [al,(.int .i64 0)],ai)
 ):=runEq (by kernel_rfl)
noncomputable def a3m:MCode:=.region [tM 48 10,tM 49 12,tS 50 (.idxArr 5 1 (tT 9) (tT 48)),tW 1 50 49]
noncomputable def y3_:MCode:=.seq [23] (.seq [22] (.region [tM 22 10,tS 23 (.bin .lss .scalar (tT 22) (tK 5))]) (.cond (tT 23) .skip (.exit 2))) (.seq [12,48,49,50] (.block 3 (.seq [26,27,28,29,30,31,32] (.regionD 71 [tD 0 71 (.load (some 5) (tT 2)),dM 1 72 6,dM 2 73 8,tD 3 74 (.idxSl 1 (tT 72) (tT 73)),dL 4 75 74,dM 5 76 10,⟨6,⟨some 77,.call o2_ [(tT 71),(tT 75),(tT 76)],none⟩,[]⟩,dM 7 78 77] [(26,71),(27,72),(28,73),(29,74),(30,75),(31,76),(32,77),(11,78)]) (.seq [33,34,35] (.region [tM 33 6,tM 34 11,⟨some 35,.call o3_ [(tT 33),(tT 34)],none⟩,tM 12 35]) (.seq [11,37,44,45,46,47] (.seq [36] (.region [tM 36 12,tS 37 (.bin .lss .scalar (tT 36) (tK 0))]) (.cond (tT 37) (.seq [37,38,39] (.region [tM 38 6,tS 39 (.lenSl (tT 38)),tM 12 39]) (.seq [42] (.seq [40,41] (.region [tM 40 12,tM 41 1,tS 42 (.bin .geq .scalar (tT 40) (tT 41))]) (.cond (tT 42) (.seq [1,2,6,7,8,9,10,11,12,42,43] (.region [tS 43 (.build [.nils,.nils] []),tW 2 4 43,tS 5 (.mv (tK 5))]) .ret) .skip)) (.region [tM 44 6,tM 45 11,tS 46 (.buildSlice 1 1 [.nils] [(0,1,(tT 45))]),tS 47 (.append 1 24 (tT 44) (tT 46)),tM 6 47]))) .skip)) (.lab a3m))))) (.region [tM 24 10,tS 25 (.bin .add .scalar (tT 24) (tK 1)),tM 10 25]))
noncomputable def o7_:MCode:=.seq [9,51,52,53,54,55,56] (.region [tF 51 0 7,tL 52 51,tA 53 5 9,tS 54 (.buildSlice 5 1 [.int .i64 0,.int .i64 0,.int .i64 0,.int .i64 0,.int .i64 0] [(0,5,(tT 53))]),tS 55 (.append 5 40 (tT 52) (tT 54)),tF 56 0 7,tW 1 56 55]) (.regionD 71 [dF 0 71 1 7,dL 1 72 71,dM 2 73 6,dM 3 74 8,tD 4 75 (.idxSl 1 (tT 73) (tT 74)),dL 5 76 75,dF 6 77 2 2,dL 7 78 77,tD 8 79 (.idxSl 1 (tT 76) (tT 78)),dL 9 80 79,tD 10 81 (.buildSlice 1 1 [.bool false] [(0,1,(tT 80))]),tD 11 82 (.append 1 1 (tT 72) (tT 81)),dF 12 83 1 7,tD 13 84 (.store 1 (tT 83) (tT 82))] [(57,71),(58,72),(59,73),(60,74),(61,75),(62,76),(63,77),(64,78),(65,79),(66,80),(67,81),(68,82),(69,83)])
noncomputable def j0_:MCode:=.region [tM 20 8,tS 21 (.bin .add .scalar (tT 20) (tK 1)),tM 8 21]
noncomputable def f9_:MCode:=.seq [19] (.seq [16,17,18] (.region [tM 16 8,tM 17 6,tS 18 (.lenSl (tT 17)),tS 19 (.bin .lss .scalar (tT 16) (tT 18))]) (.cond (tT 19) .skip (.exit 0))) (.seq [57,58,59,60,61,62,63,64,65,66,67,68,69] (.block 1 (.seq [] (.region [tS 9 (.alloc [.int .i64 0,.int .i64 0,.int .i64 0,.int .i64 0,.int .i64 0])]) (.seq [10,23] (.seq [] (.region [tS 10 (.mv (tK 0))]) (.block 2 (.loop [24,25] y3_))) (.lab o7_)))) (.lab j0_))
noncomputable def d1_:MCode:=.seq [7,70] (.region [tA 70 2 7,tW 2 4 70,tS 5 (.mv (tK 0))]) .ret
def d2_:Res:=[(4,some (some 2)),(5,none)]
noncomputable def y4_:MFn:=⟨71,d2_,.seq [0,5] (.region [tS 2 (.box (tT 0)),tS 4 (.alloc [.nils,.nils]),tS 5 (.mv (tK 0))]) (.seq [13,14,15] (.region [tA 13 5 2,⟨some 14,.call m2_ [(tT 13)],none⟩,tS 15 (.buildSlice 1 1 [.nils] [(0,1,(tT 14))]),tM 6 15]) (.seq [] (.region [tS 7 (.alloc [.nils,.nils])]) (.seq [1,2,6,8,19] (.seq [] (.region [tS 8 (.mv (tK 0))]) (.block 0 (.loop [20,21] f9_))) (.lab d1_))))⟩
noncomputable def o8_ (T:Tab)(k j0:Nat)(a b c d e f:AV)(h:Heap):Option (AV × Heap):=
 loopB T k d2_ j0 [20,21] f9_ [.blk 0,.seq [1,2,6,8,19] (.lab d1_)] [.u,a,b,.u,c,.u,d,e,f,.u,.u,.u,.u,.u,.u,.u,.u,.u,.u,.u,.u,.u,.u,.u,.u,.u,.u,.u,.u,.u,.u,.u,.u,.u,.u,.u,.u,.u,.u,.u,.u,.u,.u,.u,.u,.u,.u,.u,.u,.u,.u,.u,.u,.u,.u,.u,.u,.u,.u,.u,.u,.u,.u,.u,.u,.u,.u,.u,.u,.u,.u] h
noncomputable def o9_ (T:Tab)(k j0 j1:Nat)(a b c d e f g i:AV)(h:Heap):Option (AV × Heap):=
 loopB T k d2_ j1 [24,25] y3_ [.blk 2,.seq [10,23] (.lab o7_),.blk 1,.seq [57,58,59,60,61,62,63,64,65,66,67,68,69] (.lab j0_),.lp j0 [20,21] f9_,.blk 0,.seq [1,2,6,8,19] (.lab d1_)] [.u,a,b,.u,c,.u,d,e,f,g,i,.u,.u,.u,.u,.u,.u,.u,.u,.u,.u,.u,.u,.u,.u,.u,.u,.u,.u,.u,.u,.u,.u,.u,.u,.u,.u,.u,.u,.u,.u,.u,.u,.u,.u,.u,.u,.u,.u,.u,.u,.u,.u,.u,.u,.u,.u,.u,.u,.u,.u,.u,.u,.u,.u,.u,.u,.u,.u,.u,.u] h
noncomputable def p0_ (T:Tab)(k j0 j1:Nat)(a b c d e f g i l:AV)(h:Heap):Option (AV × Heap):=
 evB T k d2_ a3m [.blk 3,.seq [12,48,49,50] (.region [⟨some 24,.op (.mv (.tmp 10)),none⟩,
 ⟨some 25,.op (.bin .add .scalar (.tmp 24) (.const (.int .i64 1))),none⟩,
 ⟨some 10,.op (.mv (.tmp 25)),none⟩]),.lp j1 [24,25] y3_,.blk 2,.seq [10,23] (.lab o7_),.blk 1,.seq [57,58,59,60,61,62,63,64,65,66,67,68,69] (.lab j0_),.lp j0 [20,21] f9_,.blk 0,.seq [1,2,6,8,19] (.lab d1_)] [.undef,a,b,.undef,c,.undef,d,e,f,g,i,.undef,l,.undef,.undef,.undef,.undef,.undef,.undef,.undef,.undef,.undef,.undef,.undef,.undef,.undef,.undef,.undef,.undef,.undef,.undef,.undef,.undef,.undef,.undef,.undef,.undef,.undef,.undef,.undef,.undef,.undef,.undef,.undef,.undef,.undef,.undef,.undef,.undef,.undef,.undef,.undef,.undef,.undef,.undef,.undef,.undef,.undef,.undef,.undef,.undef,.undef,.undef,.undef,.undef,.undef,.undef,.undef,.undef,.undef,.undef] h
noncomputable def y5_ (T:Tab)(k j0:Nat)(a b c d e f g:AV)(h:Heap):Option (AV × Heap):=
 evB T k d2_ o7_ [.blk 1,.seq [57,58,59,60,61,62,63,64,65,66,67,68,69] (.lab j0_),.lp j0 [20,21] f9_,.blk 0,.seq [1,2,6,8,19] (.lab d1_)] [.u,a,b,.u,c,.u,d,e,f,g,.u,.u,.u,.u,.u,.u,.u,.u,.u,.u,.u,.u,.u,.u,.u,.u,.u,.u,.u,.u,.u,.u,.u,.u,.u,.u,.u,.u,.u,.u,.u,.u,.u,.u,.u,.u,.u,.u,.u,.u,.u,.u,.u,.u,.u,.u,.u,.u,.u,.u,.u,.u,.u,.u,.u,.u,.u,.u,.u,.u,.u] h
noncomputable def a3n (T:Tab)(k j0:Nat)(a b c d e f:AV)(h:Heap):Option (AV × Heap):=
 evB T k d2_ j0_ [.lp j0 [20,21] f9_,.blk 0,.seq [1,2,6,8,19] (.lab d1_)] [.u,a,b,.u,c,.u,d,e,f,.u,.u,.u,.u,.u,.u,.u,.u,.u,.u,.u,.u,.u,.u,.u,.u,.u,.u,.u,.u,.u,.u,.u,.u,.u,.u,.u,.u,.u,.u,.u,.u,.u,.u,.u,.u,.u,.u,.u,.u,.u,.u,.u,.u,.u,.u,.u,.u,.u,.u,.u,.u,.u,.u,.u,.u,.u,.u,.u,.u,.u,.u] h
noncomputable def y6_ (T:Tab)(k:Nat)(a b:AV)(h:Heap):Option (AV × Heap):=
 evB T k d2_ d1_ [] [.u,.u,.u,.u,a,.u,.u,b,.u,.u,.u,.u,.u,.u,.u,.u,.u,.u,.u,.u,.u,.u,.u,.u,.u,.u,.u,.u,.u,.u,.u,.u,.u,.u,.u,.u,.u,.u,.u,.u,.u,.u,.u,.u,.u,.u,.u,.u,.u,.u,.u,.u,.u,.u,.u,.u,.u,.u,.u,.u,.u,.u,.u,.u,.u,.u,.u,.u,.u,.u,.u] h
theorem a7y (T:Tab)(k j0 j1:Nat)(a b c d e f g i l:AV)(h:Heap):p0_ T k j0 j1 a b c d e f g i l h =
 oa (idxA 5 1 g i) fun m=>oh (stN 1 h m l) fun n=>oa (binV .add .scalar i (.int .i64 1)) fun o=>o9_ T k j0 j1 a b c d e f g o n:=blockEq (by kernel_rfl)
theorem a7z (T:Tab)(k j0:Nat)(a b c d e f:AV)(h:Heap):a3n T k j0 a b c d e f h =
 oa (binV .add .scalar f (.int .i64 1)) fun g=>o8_ T k j0 a b c d e g h:=blockEq (by kernel_rfl)
theorem a7A (T:Tab)(k j0:Nat)(a b c d e f g:AV)(h:Heap):y5_ T k j0 a b c d e f g h =
 oa (fldA 0 e) fun i=>oa (ld1 h i) fun l=>oa (ldN 5 h g) fun m=>ob (buildSl 5 1 [.int .i64 0,.int .i64 0,.int .i64 0,.int .i64 0,.int .i64 0] [(0,5,m)] h) fun n o=>ob (apnd 5 40 l n o) fun p q=>oa (fldA 0 e) fun r=>oh (stN 1 q r p) fun s=>oa (fldA 1 e) fun t=>oa (ld1 s t) fun u=>oa (idxS 1 d f) fun v=>oa (ld1 s v) fun w=>oa (fldA 2 b) fun x=>oa (ld1 s x) fun y=>oa (idxS 1 w y) fun z=>oa (ld1 s z) fun aa=>ob (buildSl 1 1 [.bool false] [(0,1,aa)] s) fun ab ac=>ob (apnd 1 1 u ab ac) fun ad ae=>oa (fldA 1 e) fun af=>oh (stN 1 ae af ad) fun ag=>a3n T k j0 a b c d e f ag:=blockEq (by kernel_rfl)
theorem a1Y (T:Tab)(k j0 j1:Nat)(a b c d e f g i:AV)(h:Heap):o9_ T k j0 (j1+1) a b c d e f g i h =
 oa (binV .lss .scalar i (.int .i64 5)) fun l=>cond2 l
 (
 oa (ldN 5 h b) fun m=>oa (idxS 1 d f) fun n=>oa (ld1 h n) fun o=>ob (evalFn T k o2_ [m,o,i] h) fun p q=>ob (evalFn T k o3_ [d,p] q) fun r s=>oa (binV .lss .scalar r (.int .i64 0)) fun t=>cond2 t
 (
 oa (lenS d) fun u=>oa (binV .geq .scalar u a) fun v=>cond2 v
 (
 oa (buildV [.nils,.nils] []) fun w=>oh (stN 2 s c w) fun x=>oa (ldN 2 x c) fun y=>some (.tup [y,(.int .i64 5)],x)
 )
 (
 ob (buildSl 1 1 [.nils] [(0,1,p)] s) fun z aa=>ob (apnd 1 24 d z aa) fun ab ac=>p0_ T k j0 j1 a b c ab e f g i u ac
 )
 )
 (
 p0_ T k j0 j1 a b c d e f g i r s
 )
 )
 (
 y5_ T k j0 a b c d e f g h
 ):=loopEq (by kernel_rfl)
theorem a7B (T:Tab)(k:Nat)(a b:AV)(h:Heap):y6_ T k a b h =
 oa (ldN 2 h b) fun c=>oh (stN 2 h a c) fun d=>oa (ldN 2 d a) fun e=>some (.tup [e,(.int .i64 0)],d):=blockEq (by kernel_rfl)
theorem a7C (T:Tab)(k j0:Nat)(a b c d e f:AV)(h:Heap):o8_ T k (j0+1) a b c d e f h =
 oa (lenS d) fun g=>oa (binV .lss .scalar f g) fun i=>cond2 i
 (
 ob (newVar h [.int .i64 0,.int .i64 0,.int .i64 0,.int .i64 0,.int .i64 0]) fun l m=>o9_ T k j0 k a b c d e f l (.int .i64 0) m
 )
 (
 y6_ T k c e h
 ):=loopEq (by kernel_rfl)
theorem a9e (T:Tab)(k:Nat)(a b:AV)(h:Heap):runF T k y4_ [a,b] h =
 ob (newVar h (AV.cells a)) fun c d=>ob (newVar d [.nils,.nils]) fun e f=>oa (ldN 5 f c) fun g=>ob (evalFn T k m2_ [g] f) fun i l=>ob (buildSl 1 1 [.nils] [(0,1,i)] l) fun m n=>ob (newVar n [.nils,.nils]) fun o p=>o8_ T k k b c e m o (.int .i64 0) p:=runEq (by kernel_rfl)
noncomputable def a2S:MCode:=.region [tM 63 9,tM 64 5,tM 65 3,tM 66 10,tX 67 1 65 66,tL 68 67,tX 69 1 64 68,tL 70 69,tS 71 (.bin .sub .scalar (tT 70) (tK 1)),tS 72 (.idxArr 5 1 (tT 8) (tT 63)),tW 1 72 71]
noncomputable def x1_:MCode:=.seq [30] (.seq [29] (.region [tM 29 9,tS 30 (.bin .lss .scalar (tT 29) (tK 5))]) (.cond (tT 30) .skip (.exit 2))) (.seq [10,63,64,65,66,67,68,69,70,71,72] (.block 3 (.seq [33,34,35,36,37,38,39,40,41,42] (.regionD 93 [dF 0 93 0 1,dL 1 94 93,dM 2 95 6,dM 3 96 7,tD 4 97 (.idxSl 1 (tT 95) (tT 96)),dL 5 98 97,dM 6 99 9,tD 7 100 (.idxSl 5 (tT 94) (tT 98)),tD 8 101 (.idxArr 5 1 (tT 100) (tT 99)),dL 9 102 101,dM 10 103 102] [(33,93),(34,94),(35,95),(36,96),(37,97),(38,98),(39,99),(40,100),(41,101),(42,102),(10,103)]) (.seq [50,55,56,57,58,59,60,61,62] (.seq [43,44,45,46,47,48,49] (.region [tM 43 5,tM 44 3,tM 45 10,tX 46 1 44 45,tL 47 46,tX 48 1 43 47,tL 49 48,tS 50 (.bin .eql .scalar (tT 49) (tK 0))]) (.cond (tT 50) (.seq [50,51,52,53,54] (.region [tM 51 6,tM 52 10,tS 53 (.buildSlice 1 1 [.int .i64 0] [(0,1,(tT 52))]),tS 54 (.append 1 8 (tT 51) (tT 53)),tM 6 54]) (.region [tM 55 5,tM 56 3,tM 57 10,tX 58 1 56 57,tL 59 58,tM 60 6,tS 61 (.lenSl (tT 60)),tX 62 1 55 59,tW 1 62 61])) .skip)) (.lab a2S)))) (.region [tM 31 9,tS 32 (.bin .add .scalar (tT 31) (tK 1)),tM 9 32]))
noncomputable def n2_:MCode:=.seq [8,73,74,75,76,77,78] (.region [tF 73 0 4,tL 74 73,tA 75 5 8,tS 76 (.buildSlice 5 1 [.int .i64 0,.int .i64 0,.int .i64 0,.int .i64 0,.int .i64 0] [(0,5,(tT 75))]),tS 77 (.append 5 40 (tT 74) (tT 76)),tF 78 0 4,tW 1 78 77]) (.regionD 93 [dF 0 93 1 4,dL 1 94 93,dF 2 95 1 1,dL 3 96 95,dM 4 97 6,dM 5 98 7,tD 6 99 (.idxSl 1 (tT 97) (tT 98)),dL 7 100 99,tD 8 101 (.idxSl 1 (tT 96) (tT 100)),dL 9 102 101,tD 10 103 (.buildSlice 1 1 [.bool false] [(0,1,(tT 102))]),tD 11 104 (.append 1 1 (tT 94) (tT 103)),dF 12 105 1 4,tD 13 106 (.store 1 (tT 105) (tT 104))] [(79,93),(80,94),(81,95),(82,96),(83,97),(84,98),(85,99),(86,100),(87,101),(88,102),(89,103),(90,104),(91,105)])
noncomputable def h4_:MCode:=.region [tM 27 7,tS 28 (.bin .add .scalar (tT 27) (tK 1)),tM 7 28]
noncomputable def e6_:MCode:=.seq [26] (.seq [23,24,25] (.region [tM 23 7,tM 24 6,tS 25 (.lenSl (tT 24)),tS 26 (.bin .lss .scalar (tT 23) (tT 25))]) (.cond (tT 26) .skip (.exit 0))) (.seq [79,80,81,82,83,84,85,86,87,88,89,90,91] (.block 1 (.seq [] (.region [tS 8 (.alloc [.int .i64 0,.int .i64 0,.int .i64 0,.int .i64 0,.int .i64 0])]) (.seq [9,30] (.seq [] (.region [tS 9 (.mv (tK 0))]) (.block 2 (.loop [31,32] x1_))) (.lab n2_)))) (.lab h4_))
def e7_:Res:=[(2,some (some 2))]
noncomputable def x2_:MFn:=⟨93,e7_,.seq [0] (.region [tS 1 (.box (tT 0)),tS 2 (.alloc [.nils,.nils])]) (.seq [11,12] (.region [tA 11 2 1,⟨some 12,.call k7_ [(tT 11)],none⟩,tM 3 12]) (.seq [] (.region [tS 4 (.alloc [.nils,.nils])]) (.seq [13,14,15,16] (.region [tF 13 0 1,tL 14 13,tS 15 (.lenSl (tT 14)),tS 16 (.mkSlice [.int .i64 0] 1 8 (tT 15) (tT 15)),tM 5 16]) (.seq [17] (.region [tS 17 (.buildSlice 1 1 [.int .i64 0] [(0,1,(tK 0))]),tM 6 17]) (.seq [18,19,20,21,22] (.region [tM 18 5,tM 19 3,tS 20 (.idxSl 1 (tT 19) (tK 0)),tL 21 20,tX 22 1 18 21,⟨none,.op (.store 1 (tT 22) (tK 1)),none⟩]) (.seq [1,3,5,6,7,26] (.seq [] (.region [tS 7 (.mv (tK 0))]) (.block 0 (.loop [27,28] e6_))) (.seq [4,92] (.region [tA 92 2 4,tW 2 2 92]) .ret)))))))⟩
noncomputable def n3_ (T:Tab)(k j0:Nat)(a b c d e f g:AV)(h:Heap):Option (AV × Heap):=
 loopB T k e7_ j0 [27,28] e6_ [.blk 0,.seq [1,3,5,6,7,26] (.seq [4,92] (.region [⟨some 92,.op (.load (some 2) (.tmp 4)),none⟩,
 ⟨none,.op (.store 2 (.tmp 2) (.tmp 92)),none⟩]) .ret)] [.undef,a,b,c,d,e,f,g,.undef,.undef,.undef,.undef,.undef,.undef,.undef,.undef,.undef,.undef,.undef,.undef,.undef,.undef,.undef,.undef,.undef,.undef,.undef,.undef,.undef,.undef,.undef,.undef,.undef,.undef,.undef,.undef,.undef,.undef,.undef,.undef,.undef,.undef,.undef,.undef,.undef,.undef,.undef,.undef,.undef,.undef,.undef,.undef,.undef,.undef,.undef,.undef,.undef,.undef,.undef,.undef,.undef,.undef,.undef,.undef,.undef,.undef,.undef,.undef,.undef,.undef,.undef,.undef,.undef,.undef,.undef,.undef,.undef,.undef,.undef,.undef,.undef,.undef,.undef,.undef,.undef,.undef,.undef,.undef,.undef,.undef,.undef,.undef,.undef] h
noncomputable def n4_ (T:Tab)(k j0 j1:Nat)(a b c d e f g i l:AV)(h:Heap):Option (AV × Heap):=
 loopB T k e7_ j1 [31,32] x1_ [.blk 2,.seq [9,30] (.lab n2_),.blk 1,.seq [79,80,81,82,83,84,85,86,87,88,89,90,91] (.lab h4_),.lp j0 [27,28] e6_,.blk 0,.seq [1,3,5,6,7,26] (.seq [4,92] (.region [⟨some 92,.op (.load (some 2) (.tmp 4)),none⟩,
 ⟨none,.op (.store 2 (.tmp 2) (.tmp 92)),none⟩]) .ret)] [.undef,a,b,c,d,e,f,g,i,l,.undef,.undef,.undef,.undef,.undef,.undef,.undef,.undef,.undef,.undef,.undef,.undef,.undef,.undef,.undef,.undef,.undef,.undef,.undef,.undef,.undef,.undef,.undef,.undef,.undef,.undef,.undef,.undef,.undef,.undef,.undef,.undef,.undef,.undef,.undef,.undef,.undef,.undef,.undef,.undef,.undef,.undef,.undef,.undef,.undef,.undef,.undef,.undef,.undef,.undef,.undef,.undef,.undef,.undef,.undef,.undef,.undef,.undef,.undef,.undef,.undef,.undef,.undef,.undef,.undef,.undef,.undef,.undef,.undef,.undef,.undef,.undef,.undef,.undef,.undef,.undef,.undef,.undef,.undef,.undef,.undef,.undef,.undef] h
noncomputable def n5_ (T:Tab)(k j0 j1:Nat)(a b c d e f g i l m:AV)(h:Heap):Option (AV × Heap):=
 evB T k e7_ a2S [.blk 3,.seq [10,63,64,65,66,67,68,69,70,71,72] (.region [⟨some 31,.op (.mv (.tmp 9)),none⟩,
 ⟨some 32,.op (.bin .add .scalar (.tmp 31) (.const (.int .i64 1))),none⟩,
 ⟨some 9,.op (.mv (.tmp 32)),none⟩]),.lp j1 [31,32] x1_,.blk 2,.seq [9,30] (.lab n2_),.blk 1,.seq [79,80,81,82,83,84,85,86,87,88,89,90,91] (.lab h4_),.lp j0 [27,28] e6_,.blk 0,.seq [1,3,5,6,7,26] (.seq [4,92] (.region [⟨some 92,.op (.load (some 2) (.tmp 4)),none⟩,
 ⟨none,.op (.store 2 (.tmp 2) (.tmp 92)),none⟩]) .ret)] [.undef,a,b,c,d,e,f,g,i,l,m,.undef,.undef,.undef,.undef,.undef,.undef,.undef,.undef,.undef,.undef,.undef,.undef,.undef,.undef,.undef,.undef,.undef,.undef,.undef,.undef,.undef,.undef,.undef,.undef,.undef,.undef,.undef,.undef,.undef,.undef,.undef,.undef,.undef,.undef,.undef,.undef,.undef,.undef,.undef,.undef,.undef,.undef,.undef,.undef,.undef,.undef,.undef,.undef,.undef,.undef,.undef,.undef,.undef,.undef,.undef,.undef,.undef,.undef,.undef,.undef,.undef,.undef,.undef,.undef,.undef,.undef,.undef,.undef,.undef,.undef,.undef,.undef,.undef,.undef,.undef,.undef,.undef,.undef,.undef,.undef,.undef,.undef] h
noncomputable def x3_ (T:Tab)(k j0:Nat)(a b c d e f g i:AV)(h:Heap):Option (AV × Heap):=
 evB T k e7_ n2_ [.blk 1,.seq [79,80,81,82,83,84,85,86,87,88,89,90,91] (.lab h4_),.lp j0 [27,28] e6_,.blk 0,.seq [1,3,5,6,7,26] (.seq [4,92] (.region [⟨some 92,.op (.load (some 2) (.tmp 4)),none⟩,
 ⟨none,.op (.store 2 (.tmp 2) (.tmp 92)),none⟩]) .ret)] [.undef,a,b,c,d,e,f,g,i,.undef,.undef,.undef,.undef,.undef,.undef,.undef,.undef,.undef,.undef,.undef,.undef,.undef,.undef,.undef,.undef,.undef,.undef,.undef,.undef,.undef,.undef,.undef,.undef,.undef,.undef,.undef,.undef,.undef,.undef,.undef,.undef,.undef,.undef,.undef,.undef,.undef,.undef,.undef,.undef,.undef,.undef,.undef,.undef,.undef,.undef,.undef,.undef,.undef,.undef,.undef,.undef,.undef,.undef,.undef,.undef,.undef,.undef,.undef,.undef,.undef,.undef,.undef,.undef,.undef,.undef,.undef,.undef,.undef,.undef,.undef,.undef,.undef,.undef,.undef,.undef,.undef,.undef,.undef,.undef,.undef,.undef,.undef,.undef] h
noncomputable def a2T (T:Tab)(k j0:Nat)(a b c d e f g:AV)(h:Heap):Option (AV × Heap):=
 evB T k e7_ h4_ [.lp j0 [27,28] e6_,.blk 0,.seq [1,3,5,6,7,26] (.seq [4,92] (.region [⟨some 92,.op (.load (some 2) (.tmp 4)),none⟩,
 ⟨none,.op (.store 2 (.tmp 2) (.tmp 92)),none⟩]) .ret)] [.undef,a,b,c,d,e,f,g,.undef,.undef,.undef,.undef,.undef,.undef,.undef,.undef,.undef,.undef,.undef,.undef,.undef,.undef,.undef,.undef,.undef,.undef,.undef,.undef,.undef,.undef,.undef,.undef,.undef,.undef,.undef,.undef,.undef,.undef,.undef,.undef,.undef,.undef,.undef,.undef,.undef,.undef,.undef,.undef,.undef,.undef,.undef,.undef,.undef,.undef,.undef,.undef,.undef,.undef,.undef,.undef,.undef,.undef,.undef,.undef,.undef,.undef,.undef,.undef,.undef,.undef,.undef,.undef,.undef,.undef,.undef,.undef,.undef,.undef,.undef,.undef,.undef,.undef,.undef,.undef,.undef,.undef,.undef,.undef,.undef,.undef,.undef,.undef,.undef] h
theorem a7g (T:Tab)(k j0 j1:Nat)(a b c d e f g i l m:AV)(h:Heap):n5_ T k j0 j1 a b c d e f g i l m h =
 oa (idxS 1 c m) fun n=>oa (ld1 h n) fun o=>oa (idxS 1 e o) fun p=>oa (ld1 h p) fun q=>oa (binV .sub .scalar q (.int .i64 1)) fun r=>oa (idxA 5 1 i l) fun s=>oh (stN 1 h s r) fun t=>oa (binV .add .scalar l (.int .i64 1)) fun u=>n4_ T k j0 j1 a b c d e f g i u t:=blockEq (by kernel_rfl)
theorem a7h (T:Tab)(k j0:Nat)(a b c d e f g:AV)(h:Heap):a2T T k j0 a b c d e f g h =
 oa (binV .add .scalar g (.int .i64 1)) fun i=>n3_ T k j0 a b c d e f i h:=blockEq (by kernel_rfl)
theorem a7i (T:Tab)(k j0:Nat)(a b c d e f g i:AV)(h:Heap):x3_ T k j0 a b c d e f g i h =
 oa (fldA 0 d) fun l=>oa (ld1 h l) fun m=>oa (ldN 5 h i) fun n=>ob (buildSl 5 1 [.int .i64 0,.int .i64 0,.int .i64 0,.int .i64 0,.int .i64 0] [(0,5,n)] h) fun o p=>ob (apnd 5 40 m o p) fun q r=>oa (fldA 0 d) fun s=>oh (stN 1 r s q) fun t=>oa (fldA 1 d) fun u=>oa (ld1 t u) fun v=>oa (fldA 1 a) fun w=>oa (ld1 t w) fun x=>oa (idxS 1 f g) fun y=>oa (ld1 t y) fun z=>oa (idxS 1 x z) fun aa=>oa (ld1 t aa) fun ab=>ob (buildSl 1 1 [.bool false] [(0,1,ab)] t) fun ac ad=>ob (apnd 1 1 v ac ad) fun ae af=>oa (fldA 1 d) fun ag=>oh (stN 1 af ag ae) fun ai=>a2T T k j0 a b c d e f g ai:=blockEq (by kernel_rfl)
theorem a1z (T:Tab)(k j0 j1:Nat)(a b c d e f g i l:AV)(h:Heap):n4_ T k j0 (j1+1) a b c d e f g i l h =
 oa (binV .lss .scalar l (.int .i64 5)) fun m=>cond2 m
 (
 oa (fldA 0 a) fun n=>oa (ld1 h n) fun o=>oa (idxS 1 f g) fun p=>oa (ld1 h p) fun q=>oa (idxS 5 o q) fun r=>oa (idxA 5 1 r l) fun s=>oa (ld1 h s) fun t=>oa (idxS 1 c t) fun u=>oa (ld1 h u) fun v=>oa (idxS 1 e v) fun w=>oa (ld1 h w) fun x=>oa (binV .eql .scalar x (.int .i64 0)) fun y=>cond2 y
 (
 ob (buildSl 1 1 [.int .i64 0] [(0,1,t)] h) fun z aa=>ob (apnd 1 8 f z aa) fun ab ac=>oa (idxS 1 c t) fun ad=>oa (ld1 ac ad) fun ae=>oa (lenS ab) fun af=>oa (idxS 1 e ae) fun ag=>oh (stN 1 ac ag af) fun ai=>n5_ T k j0 j1 a b c d e ab g i l t ai
 )
 (
 n5_ T k j0 j1 a b c d e f g i l t h
 )
 )
 (
 x3_ T k j0 a b c d e f g i h
 ):=loopEq (by kernel_rfl)
theorem a1A (T:Tab)(k j0:Nat)(a b c d e f g:AV)(h:Heap):n3_ T k (j0+1) a b c d e f g h =
 oa (lenS f) fun i=>oa (binV .lss .scalar g i) fun l=>cond2 l
 (
 ob (newVar h [.int .i64 0,.int .i64 0,.int .i64 0,.int .i64 0,.int .i64 0]) fun m n=>n4_ T k j0 k a b c d e f g m (.int .i64 0) n
 )
 (
 oa (ldN 2 h d) fun o=>oh (stN 2 h b o) fun p=>oa (ldN 2 p b) fun q=>some (q,p)
 ):=loopEq (by kernel_rfl)
theorem a8v (T:Tab)(k:Nat)(a:AV)(h:Heap):runF T k x2_ [a] h =
 ob (newVar h (AV.cells a)) fun b c=>ob (newVar c [.nils,.nils]) fun d e=>oa (ldN 2 e b) fun f=>ob (evalFn T k k7_ [f] e) fun g i=>ob (newVar i [.nils,.nils]) fun l m=>oa (fldA 0 b) fun n=>oa (ld1 m n) fun o=>oa (lenS o) fun p=>ob (mkSl [.int .i64 0] 1 8 p p m) fun q r=>ob (buildSl 1 1 [.int .i64 0] [(0,1,(.int .i64 0))] r) fun s t=>oa (idxS 1 g (.int .i64 0)) fun u=>oa (ld1 t u) fun v=>oa (idxS 1 q v) fun w=>oh (stN 1 t w (.int .i64 1)) fun x=>n3_ T k k b d g l q s (.int .i64 0) x:=runEq (by kernel_rfl)
noncomputable def a5Q:MCode:=.seq [6] (.seq [5] (.region [tM 5 4,tS 6 (.bin .lss .scalar (tT 5) (tK 5))]) (.cond (tT 6) .skip (.exit 0))) (.seq [14,15,16,17,18,19,20] (.block 1 (.seq [9,10,11,12,13] (.region [tM 9 0,tM 10 4,tS 11 (.convI .u64 (tT 10)),tS 12 (.bin .shr .scalar (tT 9) (tT 11)),tS 13 (.bin .and .scalar (tT 12) (tK 1)),tS 14 (.bin .eql .scalar (tT 13) (tK 1))]) (.cond (tT 14) (.region [tM 15 3,tM 16 4,tM 17 4,tS 18 (.bin .add .scalar (tT 17) (tK 1)),tS 19 (.sliceStr (.const (.str ⟨#[119,98,99,102,116]⟩)) (some (tT 16)) (some (tT 18))),tS 20 (.bin .add .scalar (tT 15) (tT 19)),tM 3 20]) .skip))) (.region [tM 7 4,tS 8 (.bin .add .scalar (tT 7) (tK 1)),tM 4 8]))
noncomputable def a2i:MCode:=.seq [22] (.seq [0,21] (.region [tM 21 0,tS 22 (.bin .eql .scalar (tT 21) (tK 31))]) (.cond (tT 22) (.seq [3,22] (.region [tS 2 (.mv (.const (.str ⟨#[46]⟩)))]) .ret) .skip)) (.seq [25] (.seq [23,24] (.region [tM 23 3,tS 24 (.lenStr (tT 23)),tS 25 (.bin .eql .scalar (tT 24) (tK 1))]) (.cond (tT 25) (.seq [3,25,26] (.region [tM 26 3,tM 2 26]) .ret) .skip)) (.seq [3,27,28,29] (.region [tM 27 3,tS 28 (.bin .add .scalar (.const (.str ⟨#[91]⟩)) (tT 27)),tS 29 (.bin .add .scalar (tT 28) (.const (.str ⟨#[93]⟩))),tM 2 29]) .ret))
def a2j:Res:=[(2,none)]
noncomputable def a2k:MFn:=⟨30,a2j,.seq [2] (.region [tS 2 (.mv (.const (.str ⟨#[]⟩)))]) (.seq [] (.region [tS 3 (.mv (.const (.str ⟨#[]⟩)))]) (.seq [4,6] (.seq [] (.region [tS 4 (.mv (tK 0))]) (.block 0 (.loop [7,8] a5Q))) (.lab a2i)))⟩
noncomputable def p1_ (T:Tab)(k j0:Nat)(a b c:AV)(h:Heap):Option (AV × Heap):=
 loopB T k a2j j0 [7,8] a5Q [.blk 0,.seq [4,6] (.lab a2i)] [a,.u,.u,b,c,.u,.u,.u,.u,.u,.u,.u,.u,.u,.u,.u,.u,.u,.u,.u,.u,.u,.u,.u,.u,.u,.u,.u,.u,.u] h
noncomputable def a2l (T:Tab)(k:Nat)(a b:AV)(h:Heap):Option (AV × Heap):=
 evB T k a2j a2i [] [a,.u,.u,b,.u,.u,.u,.u,.u,.u,.u,.u,.u,.u,.u,.u,.u,.u,.u,.u,.u,.u,.u,.u,.u,.u,.u,.u,.u,.u] h
theorem a9L (T:Tab)(k:Nat)(a b:AV)(h:Heap):a2l T k a b h =
 oa (binV .eql .scalar a (.int .i64 31)) fun c=>cond2 c
 (
 some ((.str ⟨#[46]⟩),h)
 )
 (
 oa (lenB b) fun d=>oa (binV .eql .scalar d (.int .i64 1)) fun e=>cond2 e
 (
 some (b,h)
 )
 (
 oa (binV .add .scalar (.str ⟨#[91]⟩) b) fun f=>oa (binV .add .scalar f (.str ⟨#[93]⟩)) fun g=>some (g,h)
 )
 ):=blockEq (by kernel_rfl)
theorem a3F (T:Tab)(k j0:Nat)(a b c:AV)(h:Heap):p1_ T k (j0+1) a b c h =
 oa (binV .lss .scalar c (.int .i64 5)) fun d=>cond2 d
 (
 oa (convV .u64 c) fun e=>oa (binV .shr .scalar a e) fun f=>oa (binV .and .scalar f (.int .i64 1)) fun g=>oa (binV .eql .scalar g (.int .i64 1)) fun i=>cond2 i
 (
 oa (binV .add .scalar c (.int .i64 1)) fun l=>oa (slStr (.str ⟨#[119,98,99,102,116]⟩) (some c) (some l)) fun m=>oa (binV .add .scalar b m) fun n=>oa (binV .add .scalar c (.int .i64 1)) fun o=>p1_ T k j0 a n o h
 )
 (
 oa (binV .add .scalar c (.int .i64 1)) fun p=>p1_ T k j0 a b p h
 )
 )
 (
 a2l T k a b h
 ):=loopEq (by kernel_rfl)
theorem b2m (T:Tab)(k:Nat)(a:AV)(h:Heap):runF T k a2k [a] h =
 p1_ T k k a (.str ⟨#[]⟩) (.int .i64 0) h:=runEq (by kernel_rfl)
def a7V:Res:=[(4,none)]
noncomputable def w5_:MFn:=⟨24,a7V,.seq [1,4] (.region [tS 3 (.box (tT 1)),tS 4 (.mv (.const (.str ⟨#[]⟩)))]) (.seq [6,7] (.region [tA 6 5 3,⟨some 7,.call g3_ [(tT 6)],none⟩,tM 5 7]) (.seq [19] (.seq [0,3,8,9,10,11,12,13,14,15,16,17,18] (.region [tF 8 0 3,tL 9 8,tS 10 (.bin .eql .scalar (tT 9) (tK 5)),tM 11 10,⟨some 12,.op (.fieldAddr 0 (tT 3)),some (11,false)⟩,⟨some 13,.op (.load none (tT 12)),some (11,false)⟩,⟨some 14,.op (.bin .eql .scalar (tT 13) (tK 4)),some (11,false)⟩,⟨some 15,.op (.mv (tT 14)),some (11,false)⟩,⟨some 16,.op (.mv (tT 0)),some (15,true)⟩,⟨some 17,.op (.bin .neq .scalar (tT 16) (tK 5)),some (15,true)⟩,⟨some 18,.op (.pick (tT 15) (tT 17) (.const (.bool false))),some (11,false)⟩,tS 19 (.pick (tT 11) (.const (.bool true)) (tT 18))]) (.cond (tT 19) (.seq [5,19,20,21,22] (.region [tM 20 5,tS 21 (.bin .add .scalar (.const (.str ⟨#[40]⟩)) (tT 20)),tS 22 (.bin .add .scalar (tT 21) (.const (.str ⟨#[41]⟩))),tM 4 22]) .ret) .skip)) (.seq [5,23] (.region [tM 23 5,tM 4 23]) .ret)))⟩
theorem a7W (T:Tab)(k:Nat)(a b:AV)(h:Heap):runF T k w5_ [a,b] h =
 ob (newVar h (AV.cells b)) fun c d=>oa (ldN 5 d c) fun e=>ob (evalFn T k g3_ [e] d) fun f g=>oa (fldA 0 c) fun i=>oa (ld1 g i) fun l=>oa (binV .eql .scalar l (.int .i64 5)) fun m=>ob (gd m false (pure1 g (fldA 0 c)) g) fun n o=>ob (gd m false (pure1 o (ld1 o n)) o) fun p q=>ob (gd m false (pure1 q (binV .eql .scalar p (.int .i64 4))) q) fun r s=>ob (gd m false (some (r,s)) s) fun t u=>ob (gd t true (some (a,u)) u) fun v w=>ob (gd t true (pure1 w (binV .neq .scalar v (.int .i64 5))) w) fun x y=>ob (gd m false (pure1 y (pickV t x (.bool false))) y) fun z aa=>oa (pickV m (.bool true) z) fun ab=>cond2 ab
 (
 oa (binV .add .scalar (.str ⟨#[40]⟩) f) fun ac=>oa (binV .add .scalar ac (.str ⟨#[41]⟩)) fun ad=>some (ad,aa)
 )
 (
 some (f,aa)
 ):=runEq (by kernel_rfl)
noncomputable def a3G:MCode:=.seq [13] (.seq [6,7,8,9,10,11,12] (.region [tM 6 0,tN 7 6,tF 8 5 7,tL 9 8,tM 10 1,tX 11 1 9 10,tL 12 11,tS 13 (.bin .geq .scalar (tT 12) (tK 0))]) (.cond (tT 13) .skip (.exit 0))) (.seq [21,22,23,24,25,26,27,28,29,30] (.block 1 (.region [tM 21 5,tM 22 0,tN 23 22,tF 24 4 23,tL 25 24,tM 26 1,tX 27 1 25 26,tL 28 27,tS 29 (.buildSlice 1 1 [.int .i64 0] [(0,1,(tT 28))]),tS 30 (.append 1 8 (tT 21) (tT 29)),tM 5 30])) (.region [tM 14 0,tN 15 14,tF 16 5 15,tL 17 16,tM 18 1,tX 19 1 17 18,tL 20 19,tM 1 20]))
noncomputable def a0g:MCode:=.seq [31,32] (.region [tM 31 5,⟨some 32,.call o1_ [(tT 31)],none⟩]) (.seq [5,33,34] (.region [tM 33 5,⟨some 34,.call i9_ [(tT 33)],none⟩,tM 4 34]) .ret)
def a0h:Res:=[(4,none)]
noncomputable def a0i:MFn:=⟨35,a0h,.seq [4] (.region [tS 4 (.mv (.const .nils))]) (.seq [] (.region [tS 5 (.mv (.const .nils))]) (.seq [0,1,13] (.block 0 (.loop [14,15,16,17,18,19,20] a3G)) (.lab a0g)))⟩
noncomputable def r6_ (T:Tab)(k j0:Nat)(a b c:AV)(h:Heap):Option (AV × Heap):=
 loopB T k a0h j0 [14,15,16,17,18,19,20] a3G [.blk 0,.seq [0,1,13] (.lab a0g)] [a,b,.u,.u,.u,c,.u,.u,.u,.u,.u,.u,.u,.u,.u,.u,.u,.u,.u,.u,.u,.u,.u,.u,.u,.u,.u,.u,.u,.u,.u,.u,.u,.u,.u] h
noncomputable def a0j (T:Tab)(k:Nat)(a:AV)(h:Heap):Option (AV × Heap):=
 evB T k a0h a0g [] [.u,.u,.u,.u,.u,a,.u,.u,.u,.u,.u,.u,.u,.u,.u,.u,.u,.u,.u,.u,.u,.u,.u,.u,.u,.u,.u,.u,.u,.u,.u,.u,.u,.u,.u] h
theorem a7X (T:Tab)(k:Nat)(a:AV)(h:Heap):a0j T k a h =
 ob (evalFn T k o1_ [a] h) fun b c=>ob (evalFn T k i9_ [a] c) fun d e=>some (d,e):=blockEq (by kernel_rfl)
theorem a7Y (T:Tab)(k j0:Nat)(a b c:AV)(h:Heap):r6_ T k (j0+1) a b c h =
 oa (nilCk a) fun d=>oa (fldA 5 d) fun e=>oa (ld1 h e) fun f=>oa (idxS 1 f b) fun g=>oa (ld1 h g) fun i=>oa (binV .geq .scalar i (.int .i64 0)) fun l=>cond2 l
 (
 oa (nilCk a) fun m=>oa (fldA 4 m) fun n=>oa (ld1 h n) fun o=>oa (idxS 1 o b) fun p=>oa (ld1 h p) fun q=>ob (buildSl 1 1 [.int .i64 0] [(0,1,q)] h) fun r s=>ob (apnd 1 8 c r s) fun t u=>oa (nilCk a) fun v=>oa (fldA 5 v) fun w=>oa (ld1 u w) fun x=>oa (idxS 1 x b) fun y=>oa (ld1 u y) fun z=>r6_ T k j0 a z t u
 )
 (
 a0j T k c h
 ):=loopEq (by kernel_rfl)
theorem a9M (T:Tab)(k:Nat)(a b:AV)(h:Heap):runF T k a0i [a,b] h =
 r6_ T k k a b .nils h:=runEq (by kernel_rfl)
noncomputable def a4f:MCode:=.seq [] (.region [tS 49 (.bin .lss .scalar (tT 48) (tT 47))]) (.seq [49] (.cond (tT 49) .skip (.exit 0)) (.seq [8,9,89,90,91,92,93,94,95,96,97,98,99,100,101,102,103,104] (.block 1 (.seq [50,51] (.region [tX 50 3 46 48,tA 51 3 50,tS 8 (.alloc [.int .i64 0,.int .i64 0,.int .i64 0]),tW 3 8 51]) (.seq [52,53,54,55,56,57,58] (.regionD 107 [dM 0 107 0,tD 1 108 (.nilCheck (tT 107)),dF 2 109 0 108,dL 3 110 109,dF 4 111 0 8,tD 5 112 (.load (some 2) (tT 111)),⟨6,⟨some 113,.call e0_ [(tT 110),(tT 112)],none⟩,[]⟩,dM 7 114 113] [(52,107),(53,108),(54,109),(55,110),(56,111),(57,112),(58,113),(9,114)]) (.seq [59,60,61,62,63,64,65,66,67,68,69,70,71,72,73,74,75,76,77,78,79,80,81,82,83,84,85,86,87,88] (.regionD 107 [dM 0 107 0,tD 1 108 (.nilCheck (tT 107)),dF 2 109 3 108,dL 3 110 109,dM 4 111 9,tD 5 112 (.idxSl 1 (tT 110) (tT 111)),dL 6 113 112,tD 7 114 (.bin .lss .scalar (tT 113) (tK 0)),dM 8 115 114,⟨9,⟨some 116,.op (.mv (tT 0)),some (115,true)⟩,[]⟩,⟨10,⟨some 117,.op (.nilCheck (tT 116)),some (115,true)⟩,[]⟩,⟨11,⟨some 118,.op (.fieldAddr 2 (tT 117)),some (115,true)⟩,[]⟩,⟨12,⟨some 119,.op (.load none (tT 118)),some (115,true)⟩,[]⟩,⟨13,⟨some 120,.op (.mv (tT 9)),some (115,true)⟩,[]⟩,⟨14,⟨some 121,.op (.mv (tT 5)),some (115,true)⟩,[]⟩,⟨15,⟨some 122,.op (.mv (tT 0)),some (115,true)⟩,[]⟩,⟨16,⟨some 123,.op (.nilCheck (tT 122)),some (115,true)⟩,[]⟩,⟨17,⟨some 124,.op (.fieldAddr 0 (tT 123)),some (115,true)⟩,[]⟩,⟨18,⟨some 125,.op (.load none (tT 124)),some (115,true)⟩,[]⟩,⟨19,⟨some 126,.op (.nilCheck (tT 125)),some (115,true)⟩,[]⟩,⟨20,⟨some 127,.op (.fieldAddr 0 (tT 126)),some (115,true)⟩,[]⟩,⟨21,⟨some 128,.op (.fieldAddr 1 (tT 127)),some (115,true)⟩,[]⟩,⟨22,⟨some 129,.op (.load none (tT 128)),some (115,true)⟩,[]⟩,⟨23,⟨some 130,.op (.fieldAddr 2 (tT 8)),some (115,true)⟩,[]⟩,⟨24,⟨some 131,.op (.load none (tT 130)),some (115,true)⟩,[]⟩,⟨25,⟨some 132,.op (.idxSl 4 (tT 129) (tT 131)),some (115,true)⟩,[]⟩,⟨26,⟨some 133,.op (.fieldAddr 3 (tT 132)),some (115,true)⟩,[]⟩,⟨27,⟨some 134,.op (.load none (tT 133)),some (115,true)⟩,[]⟩,⟨28,⟨some 135,.op (.bin .add .scalar (tT 121) (tT 134)),some (115,true)⟩,[]⟩,⟨29,⟨some 136,.call g8_ [(tT 119),(tT 120),(tT 135)],some (115,true)⟩,[]⟩,tD 30 137 (.pick (tT 115) (tT 136) (.const (.bool false)))] [(59,107),(60,108),(61,109),(62,110),(63,111),(64,112),(65,113),(66,114),(67,115),(68,116),(69,117),(70,118),(71,119),(72,120),(73,121),(74,122),(75,123),(76,124),(77,125),(78,126),(79,127),(80,128),(81,129),(82,130),(83,131),(84,132),(85,133),(86,134),(87,135),(88,136),(89,137)]) (.cond (tT 89) (.regionD 107 [dM 0 107 0,tD 1 108 (.nilCheck (tT 107)),dF 2 109 4 108,dL 3 110 109,dM 4 111 9,dM 5 112 0,tD 6 113 (.nilCheck (tT 112)),dF 7 114 5 113,dL 8 115 114,dM 9 116 9,dF 10 117 2 8,dL 11 118 117,dM 12 119 4,tD 13 120 (.idxSl 1 (tT 110) (tT 111)),tD 14 121 (.store 1 (tT 120) (tT 118)),tD 15 122 (.idxSl 1 (tT 115) (tT 116)),tD 16 123 (.store 1 (tT 122) (tT 119))] [(90,107),(91,108),(92,109),(93,110),(94,111),(95,112),(96,113),(97,114),(98,115),(99,116),(100,117),(101,118),(102,119),(103,120),(104,122)]) .skip))))) (.region [tS 105 (.bin .add .scalar (tT 48) (tK 1)),tM 48 105])))
noncomputable def a0L:MCode:=.seq [4,106] (.region [tM 106 4,tM 2 106,tS 3 (.mv (.const (.bool true)))]) .ret
def a0M:Res:=[(2,none),(3,none)]
noncomputable def a0N:MFn:=⟨107,a0M,.seq [2,3] (.region [tS 2 (.mv (tK 0)),tS 3 (.mv (.const (.bool false)))]) (.seq [10,11,12,13,14,15,16,17,18] (.region [tM 11 0,tN 12 11,tF 13 2 12,tL 14 13,⟨some 15,.call p4_ [(tT 14)],none⟩,tM 10 15,tS 16 (.extract 0 (tT 10)),tS 17 (.extract 1 (tT 10)),tS 18 (.extract 2 (tT 10)),tM 4 16,tM 5 17,tM 6 18]) (.seq [20] (.seq [6,19] (.region [tM 19 6,tS 20 (.un .not (tT 19))]) (.cond (tT 20) (.seq [0,4,5,20] (.region [tS 2 (.mv (tK 0)),tS 3 (.mv (.const (.bool false)))]) .ret) .skip)) (.seq [21,22,23,24,25,26,27,28,29,30,31] (.region [tM 21 0,tN 22 21,tF 23 3 22,tL 24 23,tM 25 4,tM 26 0,tM 27 5,tM 28 5,tX 29 1 24 25,tW 1 29 27,tN 30 26,tF 31 6 30,tW 1 31 28]) (.seq [0,5,46,47,48,49] (.seq [32,33,34,35,36,37,38,39,40,41,42,43,44,45] (.regionD 107 [dM 0 107 0,tD 1 108 (.nilCheck (tT 107)),dF 2 109 1 108,dL 3 110 109,dM 4 111 0,tD 5 112 (.nilCheck (tT 111)),dF 6 113 0 112,dL 7 114 113,dM 8 115 0,tD 9 116 (.nilCheck (tT 115)),dF 10 117 0 116,dL 11 118 117,dM 12 119 4,tD 16 123 (.mv (tK 0)),⟨13,⟨some 120,.call o0_ [(tT 118),(tT 119)],none⟩,[(110,tL 110 109),(114,tL 114 113)]⟩,⟨14,⟨some 121,.callV (tT 110) [(tT 114),(tT 120)],none⟩,[]⟩,tD 15 122 (.lenSl (tT 121))] [(32,107),(33,108),(34,109),(35,110),(36,111),(37,112),(38,113),(39,114),(40,115),(41,116),(42,117),(43,118),(44,119),(45,120),(46,121),(47,122),(48,123)]) (.block 0 (.loop [105] a4f))) (.lab a0L)))))⟩
noncomputable def k9_ (T:Tab)(k j0:Nat)(a b c d e f:AV)(h:Heap):Option (AV × Heap):=
 loopB T k a0M j0 [105] a4f [.blk 0,.seq [0,5,46,47,48,49] (.lab a0L)] [a,.u,.u,.u,b,c,.u,.u,.u,.u,.u,.u,.u,.u,.u,.u,.u,.u,.u,.u,.u,.u,.u,.u,.u,.u,.u,.u,.u,.u,.u,.u,.u,.u,.u,.u,.u,.u,.u,.u,.u,.u,.u,.u,.u,.u,d,e,f,.u,.u,.u,.u,.u,.u,.u,.u,.u,.u,.u,.u,.u,.u,.u,.u,.u,.u,.u,.u,.u,.u,.u,.u,.u,.u,.u,.u,.u,.u,.u,.u,.u,.u,.u,.u,.u,.u,.u,.u,.u,.u,.u,.u,.u,.u,.u,.u,.u,.u,.u,.u,.u,.u,.u,.u,.u,.u] h
noncomputable def a4g (T:Tab)(k:Nat)(a:AV)(h:Heap):Option (AV × Heap):=
 evB T k a0M a0L [] [.u,.u,.u,.u,a,.u,.u,.u,.u,.u,.u,.u,.u,.u,.u,.u,.u,.u,.u,.u,.u,.u,.u,.u,.u,.u,.u,.u,.u,.u,.u,.u,.u,.u,.u,.u,.u,.u,.u,.u,.u,.u,.u,.u,.u,.u,.u,.u,.u,.u,.u,.u,.u,.u,.u,.u,.u,.u,.u,.u,.u,.u,.u,.u,.u,.u,.u,.u,.u,.u,.u,.u,.u,.u,.u,.u,.u,.u,.u,.u,.u,.u,.u,.u,.u,.u,.u,.u,.u,.u,.u,.u,.u,.u,.u,.u,.u,.u,.u,.u,.u,.u,.u,.u,.u,.u,.u] h
theorem a8w (T:Tab)(k:Nat)(a:AV)(h:Heap):a4g T k a h =
 some (.tup [a,(.bool true)],h):=blockEq (by kernel_rfl)
theorem a2U (T:Tab)(k j0:Nat)(a b c d e f:AV)(h:Heap):k9_ T k (j0+1) a b c d e f h =
 oa (binV .lss .scalar f e) fun g=>cond2 g
 (
 oa (idxS 3 d f) fun i=>oa (ldN 3 h i) fun l=>ob (newVar h [.int .i64 0,.int .i64 0,.int .i64 0]) fun m n=>oh (stN 3 n m l) fun o=>oa (nilCk a) fun p=>oa (fldA 0 p) fun q=>oa (ld1 o q) fun r=>oa (fldA 0 m) fun s=>oa (ldN 2 o s) fun t=>ob (evalFn T k e0_ [r,t] o) fun u v=>oa (nilCk a) fun w=>oa (fldA 3 w) fun x=>oa (ld1 v x) fun y=>oa (idxS 1 y u) fun z=>oa (ld1 v z) fun aa=>oa (binV .lss .scalar aa (.int .i64 0)) fun ab=>ob (gd ab true (some (a,v)) v) fun ac ad=>ob (gd ab true (pure1 ad (nilCk ac)) ad) fun ae af=>ob (gd ab true (pure1 af (fldA 2 ae)) af) fun ag ai=>ob (gd ab true (pure1 ai (ld1 ai ag)) ai) fun al am=>ob (gd ab true (some (u,am)) am) fun an ao=>ob (gd ab true (some (c,ao)) ao) fun ap aq=>ob (gd ab true (some (a,aq)) aq) fun ar as=>ob (gd ab true (pure1 as (nilCk ar)) as) fun au av=>ob (gd ab true (pure1 av (fldA 0 au)) av) fun aw ax=>ob (gd ab true (pure1 ax (ld1 ax aw)) ax) fun ay az=>ob (gd ab true (pure1 az (nilCk ay)) az) fun a0 a1=>ob (gd ab true (pure1 a1 (fldA 0 a0)) a1) fun a2 a3=>ob (gd ab true (pure1 a3 (fldA 1 a2)) a3) fun a4 a5=>ob (gd ab true (pure1 a5 (ld1 a5 a4)) a5) fun a6 a7=>ob (gd ab true (pure1 a7 (fldA 2 m)) a7) fun a8 a9=>ob (gd ab true (pure1 a9 (ld1 a9 a8)) a9) fun ba bb=>ob (gd ab true (pure1 bb (idxS 4 a6 ba)) bb) fun bc bd=>ob (gd ab true (pure1 bd (fldA 3 bc)) bd) fun be bf=>ob (gd ab true (pure1 bf (ld1 bf be)) bf) fun bg bi=>ob (gd ab true (pure1 bi (binV .add .scalar ap bg)) bi) fun bl bm=>ob (gd ab true (evalFn T k g8_ [al,an,bl] bm) bm) fun bn bo=>oa (pickV ab bn (.bool false)) fun bp=>cond2 bp
 (
 oa (nilCk a) fun bq=>oa (fldA 4 bq) fun br=>oa (ld1 bo br) fun bs=>oa (nilCk a) fun bt=>oa (fldA 5 bt) fun bu=>oa (ld1 bo bu) fun bv=>oa (fldA 2 m) fun bw=>oa (ld1 bo bw) fun bx=>oa (idxS 1 bs u) fun bz=>oh (stN 1 bo bz bx) fun b0=>oa (idxS 1 bv u) fun b1=>oh (stN 1 b0 b1 b) fun b2=>oa (binV .add .scalar f (.int .i64 1)) fun b3=>k9_ T k j0 a b c d e b3 b2
 )
 (
 oa (binV .add .scalar f (.int .i64 1)) fun b4=>k9_ T k j0 a b c d e b4 bo
 )
 )
 (
 a4g T k b h
 ):=loopEq (by kernel_rfl)
theorem b0M (T:Tab)(k:Nat)(a:AV)(h:Heap):runF T k a0N [a] h =
 oa (nilCk a) fun b=>oa (fldA 2 b) fun c=>oa (ld1 h c) fun d=>ob (evalFn T k p4_ [d] h) fun e f=>oa (extr 0 e) fun g=>oa (extr 1 e) fun i=>oa (extr 2 e) fun l=>oa (unV .not l) fun m=>cond2 m
 (
 some (.tup [(.int .i64 0),(.bool false)],f)
 )
 (
 oa (nilCk a) fun n=>oa (fldA 3 n) fun o=>oa (ld1 f o) fun p=>oa (idxS 1 p g) fun q=>oh (stN 1 f q i) fun r=>oa (nilCk a) fun s=>oa (fldA 6 s) fun t=>oh (stN 1 r t i) fun u=>oa (nilCk a) fun v=>oa (fldA 1 v) fun w=>oa (ld1 u w) fun x=>oa (nilCk a) fun y=>oa (fldA 0 y) fun z=>oa (ld1 u z) fun aa=>oa (nilCk a) fun ab=>oa (fldA 0 ab) fun ac=>oa (ld1 u ac) fun ad=>ob (evalFn T k o0_ [ad,g] u) fun ae af=>chk ((sameB (pure1 af (ld1 af w)) x && (sameB (pure1 af (ld1 af z)) aa && true))) <|ob (callVal (evalFn T k) x [aa,ae] af) fun ag ai=>oa (lenS ag) fun al=>k9_ T k k a g i ag al (.int .i64 0) ai
 ):=runEq (by kernel_rfl)
def b1v:Res:=[(4,some (some 2))]
noncomputable def a1B:MFn:=⟨22,b1v,.seq [] (.region [tS 4 (.alloc [.int .i64 0,.int .i64 0])]) (.seq [0,1,5,6,7,8,9,10,11,12,13,14,15,16,17,18,19,20,21] (.regionD 22 [dM 0 22 1,dM 1 23 0,tD 2 24 (.nilCheck (tT 23)),dF 3 25 3 24,dF 4 26 0 25,dL 5 27 26,tD 6 28 (.lenSl (tT 27)),tD 7 29 (.bin .quo .scalar (tT 22) (tT 28)),dM 8 30 1,dM 9 31 0,tD 10 32 (.nilCheck (tT 31)),dF 11 33 3 32,dF 12 34 0 33,dL 13 35 34,tD 14 36 (.lenSl (tT 35)),tD 15 37 (.bin .rem .scalar (tT 30) (tT 36)),tD 16 38 (.build [.int .i64 0,.int .i64 0] [(0,1,(tT 29)),(1,1,(tT 37))]),tD 17 39 (.store 2 (tT 4) (tT 38))] [(5,22),(6,23),(7,24),(8,25),(9,26),(10,27),(11,28),(12,29),(13,30),(14,31),(15,32),(16,33),(17,34),(18,35),(19,36),(20,37),(21,38)]) .ret)⟩
theorem b1w (T:Tab)(k:Nat)(a b:AV)(h:Heap):runF T k a1B [a,b] h =
 ob (newVar h [.int .i64 0,.int .i64 0]) fun c d=>oa (nilCk a) fun e=>oa (fldA 3 e) fun f=>oa (fldA 0 f) fun g=>oa (ld1 d g) fun i=>oa (lenS i) fun l=>oa (binV .quo .scalar b l) fun m=>oa (nilCk a) fun n=>oa (fldA 3 n) fun o=>oa (fldA 0 o) fun p=>oa (ld1 d p) fun q=>oa (lenS q) fun r=>oa (binV .rem .scalar b r) fun s=>oa (buildV [.int .i64 0,.int .i64 0] [(0,1,m),(1,1,s)]) fun t=>oh (stN 2 d c t) fun u=>oa (ldN 2 u c) fun v=>some (v,u):=runEq (by kernel_rfl)
def b2R:Res:=[(4,none)]
noncomputable def a2B:MFn:=⟨17,b2R,.seq [1,4] (.region [tS 3 (.box (tT 1)),tS 4 (.mv (tK 0))]) (.seq [0,3,5,6,7,8,9,10,11,12,13,14,15,16] (.regionD 17 [dF 0 17 0 3,dL 1 18 17,dM 2 19 0,tD 3 20 (.nilCheck (tT 19)),dF 4 21 3 20,dF 5 22 0 21,dL 6 23 22,tD 7 24 (.lenSl (tT 23)),tD 8 25 (.bin .mul .scalar (tT 18) (tT 24)),dF 9 26 1 3,dL 10 27 26,tD 11 28 (.bin .add .scalar (tT 25) (tT 27)),dM 12 29 28] [(5,17),(6,18),(7,19),(8,20),(9,21),(10,22),(11,23),(12,24),(13,25),(14,26),(15,27),(16,28),(4,29)]) .ret)⟩
theorem b2S (T:Tab)(k:Nat)(a b:AV)(h:Heap):runF T k a2B [a,b] h =
 ob (newVar h (AV.cells b)) fun c d=>oa (fldA 0 c) fun e=>oa (ld1 d e) fun f=>oa (nilCk a) fun g=>oa (fldA 3 g) fun i=>oa (fldA 0 i) fun l=>oa (ld1 d l) fun m=>oa (lenS m) fun n=>oa (binV .mul .scalar f n) fun o=>oa (fldA 1 c) fun p=>oa (ld1 d p) fun q=>oa (binV .add .scalar o q) fun r=>some (r,d):=runEq (by kernel_rfl)
end Go.Gm.AQ
