/- A part of the proof (GmAQd). -/
import Derived.KernelRfl
import Derived.Test.YtldnkafmanalmaaProductSumsP4
set_option linter.unusedVariables false
namespace Go.Gm.AQ
open Go Go.Gm
noncomputable def a4Z:MCode:=.seq [9] (.seq [7,8] (.region [tM 7 2,tM 8 3,tS 9 (.bin .lss .scalar (tT 7) (tT 8))]) (.cond (tT 9) .skip (.exit 0))) (.seq [14,15,16,17,18,19,20,21,22,23,24,25,26,27] (.block 1 (.regionD 28 [dM 0 28 0,dM 1 29 2,dM 2 30 0,dM 3 31 3,dM 4 32 0,dM 5 33 3,tD 6 34 (.idxSl 1 (tT 32) (tT 33)),dL 7 35 34,dM 8 36 0,dM 9 37 2,tD 10 38 (.idxSl 1 (tT 36) (tT 37)),dL 11 39 38,tD 12 40 (.idxSl 1 (tT 28) (tT 29)),tD 13 41 (.store 1 (tT 40) (tT 35)),tD 14 42 (.idxSl 1 (tT 30) (tT 31)),tD 15 43 (.store 1 (tT 42) (tT 39))] [(14,28),(15,29),(16,30),(17,31),(18,32),(19,33),(20,34),(21,35),(22,36),(23,37),(24,38),(25,39),(26,40),(27,42)])) (.region [tM 10 2,tS 11 (.bin .add .scalar (tT 10) (tK 1)),tM 12 3,tS 13 (.bin .sub .scalar (tT 12) (tK 1)),tM 2 11,tM 3 13]))
def a5a:Res:=[]
noncomputable def a1C:MFn:=⟨28,a5a,.seq [4,5,6] (.region [tM 4 0,tS 5 (.lenSl (tT 4)),tS 6 (.bin .sub .scalar (tT 5) (tK 1)),tS 2 (.mv (tK 0)),tM 3 6]) (.block 0 (.loop [10,11,12,13] a4Z))⟩
noncomputable def w1_ (T:Tab)(k j0:Nat)(a b j3:AV)(h:Heap):Option (AV × Heap):=
 loopB T k a5a j0 [10,11,12,13] a4Z [.blk 0] [a,.u,b,j3,.u,.u,.u,.u,.u,.u,.u,.u,.u,.u,.u,.u,.u,.u,.u,.u,.u,.u,.u,.u,.u,.u,.u,.u] h
theorem a3o (T:Tab)(k j0:Nat)(a b j3:AV)(h:Heap):w1_ T k (j0+1) a b j3 h =
 oa (binV .lss .scalar b j3) fun c=>cond2 c
 (
 oa (idxS 1 a j3) fun d=>oa (ld1 h d) fun e=>oa (idxS 1 a b) fun f=>oa (ld1 h f) fun g=>oa (idxS 1 a b) fun i=>oh (stN 1 h i e) fun l=>oa (idxS 1 a j3) fun m=>oh (stN 1 l m g) fun n=>oa (binV .add .scalar b (.int .i64 1)) fun o=>oa (binV .sub .scalar j3 (.int .i64 1)) fun p=>w1_ T k j0 a o p n
 )
 (
 some (.tup [],h)
 ):=loopEq (by kernel_rfl)
theorem b1x (T:Tab)(k:Nat)(a:AV)(h:Heap):runF T k a1C [a] h =
 oa (lenS a) fun b=>oa (binV .sub .scalar b (.int .i64 1)) fun c=>w1_ T k k a (.int .i64 0) c h:=runEq (by kernel_rfl)
def b2T:Res:=[(2,none)]
noncomputable def a2C:MFn:=⟨8,b2T,.seq [2] (.region [tS 2 (.mv (.const .nils))]) (.seq [4] (.seq [3] (.region [tM 3 0,tS 4 (.bin .eql .slice (tT 3) (.const .nils))]) (.cond (tT 4) (.seq [0,4] (.region [tS 2 (.mv (.const .nils))]) .ret) .skip)) (.seq [0,5,6,7] (.region [tS 5 (.buildSlice 1 0 [] []),tM 6 0,tS 7 (.append 1 8 (tT 5) (tT 6)),tM 2 7]) .ret))⟩
theorem b2U (T:Tab)(k:Nat)(a:AV)(h:Heap):runF T k a2C [a] h =
 oa (binV .eql .slice a .nils) fun b=>cond2 b
 (
 some (.nils,h)
 )
 (
 ob (buildSl 1 0 [] [] h) fun c d=>ob (apnd 1 8 c a d) fun e f=>some (e,f)
 ):=runEq (by kernel_rfl)
noncomputable def b4S:MCode:=.seq [] (.region [tS 29 (.bin .lss .scalar (tT 28) (tT 27))]) (.seq [29] (.cond (tT 29) .skip (.exit 0)) (.seq [4,5,42,54,55,56,57,58,59,60,61,62,63,64] (.block 1 (.seq [30,31,32] (.region [tM 30 28,tX 31 4 26 28,tA 32 4 31,tS 5 (.alloc [.int .i64 0,.int .i64 0,.int .i64 0,.int .i64 0]),tM 4 30,tW 4 5 32]) (.seq [33,34,35,36,37,38,39,40,41] (.region [tM 33 3,tF 34 0 5,tL 35 34,⟨some 36,.call o4_ [(tT 33),(tT 35)],none⟩,tM 37 36,⟨some 38,.op (.mv (tT 3)),some (37,true)⟩,⟨some 39,.op (.fieldAddr 1 (tT 5)),some (37,true)⟩,⟨some 40,.op (.load none (tT 39)),some (37,true)⟩,⟨some 41,.call o4_ [(tT 38),(tT 40)],some (37,true)⟩,tS 42 (.pick (tT 37) (tT 41) (.const (.bool false)))]) (.cond (tT 42) (.seq [42,43,44,45,46,47,48,49,50,51,52,53] (.regionD 67 [dM 0 67 3,tD 1 68 (.nilCheck (tT 67)),dF 2 69 2 68,dL 3 70 69,dF 4 71 0 5,dL 5 72 71,tD 6 73 (.idxSl 2 (tT 70) (tT 72)),dM 7 74 4,dF 8 75 1 5,dL 9 76 75,⟨10,⟨some 77,.call t3_ [(tT 73),(tT 74),(tT 76)],none⟩,[]⟩] [(43,67),(44,68),(45,69),(46,70),(47,71),(48,72),(49,73),(50,74),(51,75),(52,76),(53,77)]) (.regionD 67 [dM 0 67 3,tD 1 68 (.nilCheck (tT 67)),dF 2 69 3 68,dL 3 70 69,dF 4 71 1 5,dL 5 72 71,tD 6 73 (.idxSl 2 (tT 70) (tT 72)),dM 7 74 4,dF 8 75 0 5,dL 9 76 75,⟨10,⟨some 77,.call t3_ [(tT 73),(tT 74),(tT 76)],none⟩,[]⟩] [(54,67),(55,68),(56,69),(57,70),(58,71),(59,72),(60,73),(61,74),(62,75),(63,76),(64,77)])) .skip)))) (.region [tS 65 (.bin .add .scalar (tT 28) (tK 1)),tM 28 65])))
def b4T:Res:=[(2,none)]
noncomputable def b2n:MFn:=⟨67,b4T,.seq [0,2] (.region [tS 1 (.box (tT 0)),tS 2 (.mv (.const .nilp))]) (.seq [6,7,8,9,10,11,12,13,14,15] (.regionD 67 [dF 0 67 0 1,dL 1 68 67,tD 2 69 (.mm true (tT 68) (tK 0)),tD 3 70 (.mkSlice [.nils,.nils] 2 48 (tT 69) (tT 69)),dF 4 71 0 1,dL 5 72 71,tD 6 73 (.mm true (tT 72) (tK 0)),tD 7 74 (.mkSlice [.nils,.nils] 2 48 (tT 73) (tT 73)),tD 8 75 (.build [.int .i64 0,.nils,.nils,.nils] [(2,1,(tT 70)),(3,1,(tT 74))]),tD 9 76 (.box (tT 75)),dM 10 77 76] [(6,67),(7,68),(8,69),(9,70),(10,71),(11,72),(12,73),(13,74),(14,75),(15,76),(3,77)]) (.seq [16,17,18,19,20,21,22,23,24] (.regionD 67 [dM 0 67 3,dF 1 68 0 1,dL 2 69 68,dF 3 70 1 1,dL 4 71 70,⟨5,⟨some 72,.call k0_ [(tT 71)],none⟩,[(69,tL 69 68)]⟩,tD 6 73 (.build [.int .i64 0,.nils] [(0,1,(tT 69)),(1,1,(tT 72))]),tD 7 74 (.nilCheck (tT 67)),dF 8 75 0 74,tD 9 76 (.store 2 (tT 75) (tT 73))] [(16,67),(17,68),(18,69),(19,70),(20,71),(21,72),(22,73),(23,74),(24,75)]) (.seq [26,27,28,29] (.seq [1,25] (.region [tF 25 1 1,tL 26 25,tS 27 (.lenSl (tT 26)),tS 28 (.mv (tK 0))]) (.block 0 (.loop [65] b4S))) (.seq [3,66] (.region [tM 66 3,tM 2 66]) .ret))))⟩
noncomputable def a5R (T:Tab)(k j0:Nat)(a b c d:AV)(h:Heap):Option (AV × Heap):=
 loopB T k b4T j0 [65] b4S [.blk 0,.seq [26,27,28,29] (.seq [3,66] (.region [⟨some 66,.op (.mv (.tmp 3)),none⟩,
 ⟨some 2,.op (.mv (.tmp 66)),none⟩]) .ret)] [.undef,.undef,.undef,a,.undef,.undef,.undef,.undef,.undef,.undef,.undef,.undef,.undef,.undef,.undef,.undef,.undef,.undef,.undef,.undef,.undef,.undef,.undef,.undef,.undef,.undef,b,c,d,.undef,.undef,.undef,.undef,.undef,.undef,.undef,.undef,.undef,.undef,.undef,.undef,.undef,.undef,.undef,.undef,.undef,.undef,.undef,.undef,.undef,.undef,.undef,.undef,.undef,.undef,.undef,.undef,.undef,.undef,.undef,.undef,.undef,.undef,.undef,.undef,.undef,.undef] h
theorem b2O (T:Tab)(k j0:Nat)(a b c d:AV)(h:Heap):a5R T k (j0+1) a b c d h =
 oa (binV .lss .scalar d c) fun e=>cond2 e
 (
 oa (idxS 4 b d) fun f=>oa (ldN 4 h f) fun g=>ob (newVar h [.int .i64 0,.int .i64 0,.int .i64 0,.int .i64 0]) fun i l=>oh (stN 4 l i g) fun m=>oa (fldA 0 i) fun n=>oa (ld1 m n) fun o=>ob (evalFn T k o4_ [a,o] m) fun p q=>ob (gd p true (some (a,q)) q) fun r s=>ob (gd p true (pure1 s (fldA 1 i)) s) fun t u=>ob (gd p true (pure1 u (ld1 u t)) u) fun v w=>ob (gd p true (evalFn T k o4_ [r,v] w) w) fun x y=>oa (pickV p x (.bool false)) fun z=>cond2 z
 (
 oa (nilCk a) fun aa=>oa (fldA 2 aa) fun ab=>oa (ld1 y ab) fun ac=>oa (fldA 0 i) fun ad=>oa (ld1 y ad) fun ae=>oa (idxS 2 ac ae) fun af=>oa (fldA 1 i) fun ag=>oa (ld1 y ag) fun ai=>ob (evalFn T k t3_ [af,d,ai] y) fun al am=>oa (nilCk a) fun an=>oa (fldA 3 an) fun ao=>oa (ld1 am ao) fun ap=>oa (fldA 1 i) fun aq=>oa (ld1 am aq) fun ar=>oa (idxS 2 ap ar) fun as=>oa (fldA 0 i) fun au=>oa (ld1 am au) fun av=>ob (evalFn T k t3_ [as,d,av] am) fun aw ax=>oa (binV .add .scalar d (.int .i64 1)) fun ay=>a5R T k j0 a b c ay ax
 )
 (
 oa (binV .add .scalar d (.int .i64 1)) fun az=>a5R T k j0 a b c az y
 )
 )
 (
 some (a,h)
 ):=loopEq (by kernel_rfl)
theorem b8e (T:Tab)(k:Nat)(a:AV)(h:Heap):runF T k b2n [a] h =
 ob (newVar h (AV.cells a)) fun b c=>oa (fldA 0 b) fun d=>oa (ld1 c d) fun e=>oa (mmV true e (.int .i64 0)) fun f=>ob (mkSl [.nils,.nils] 2 48 f f c) fun g i=>oa (fldA 0 b) fun l=>oa (ld1 i l) fun m=>oa (mmV true m (.int .i64 0)) fun n=>ob (mkSl [.nils,.nils] 2 48 n n i) fun o p=>oa (buildV [.int .i64 0,.nils,.nils,.nils] [(2,1,g),(3,1,o)]) fun q=>ob (newVar p (AV.cells q)) fun r s=>oa (fldA 0 b) fun t=>oa (ld1 s t) fun u=>oa (fldA 1 b) fun v=>oa (ld1 s v) fun w=>ob (evalFn T k k0_ [w] s) fun x y=>chk ((sameB (pure1 y (ld1 y t)) u && true)) <|oa (buildV [.int .i64 0,.nils] [(0,1,u),(1,1,x)]) fun z=>oa (nilCk r) fun aa=>oa (fldA 0 aa) fun ab=>oh (stN 2 y ab z) fun ac=>oa (fldA 1 b) fun ad=>oa (ld1 ac ad) fun ae=>oa (lenS ae) fun af=>a5R T k k r ae af (.int .i64 0) ac:=runEq (by kernel_rfl)
noncomputable def b3n:MCode:=.seq [] (.region [tS 18 (.bin .lss .scalar (tT 17) (tT 16))]) (.seq [18] (.cond (tT 18) .skip (.exit 0)) (.seq [4,20,21,22,23,24,25,26] (.block 1 (.seq [19] (.region [tM 19 17,tM 4 19]) (.region [tM 20 3,tN 21 20,tF 22 0 21,tF 23 1 22,tL 24 23,tM 25 4,tX 26 1 24 25,⟨none,.op (.store 1 (tT 26) (tK (-1))),none⟩]))) (.region [tS 27 (.bin .add .scalar (tT 17) (tK 1)),tM 17 27])))
def b3o:Res:=[(2,none)]
noncomputable def a9f:MFn:=⟨29,b3o,.seq [2] (.region [tS 2 (.mv (.const .nilp))]) (.seq [0,5,6,7,8,9,10] (.region [tM 5 0,tS 6 (.mm true (tT 5) (tK 0)),tS 7 (.mkSlice [.int .i64 0] 1 8 (tT 6) (tT 6)),tS 8 (.build [.nils,.nils] [(1,1,(tT 7))]),tS 9 (.build [.nils,.nils] [(0,2,(tT 8))]),tS 10 (.box (tT 9)),tM 3 10]) (.seq [16,17,18] (.seq [11,12,13,14,15] (.region [tM 11 3,tN 12 11,tF 13 0 12,tF 14 1 13,tL 15 14,tS 16 (.lenSl (tT 15)),tS 17 (.mv (tK 0))]) (.block 0 (.loop [27] b3n))) (.seq [3,28] (.region [tM 28 3,tM 2 28]) .ret)))⟩
noncomputable def a5S (T:Tab)(k j0:Nat)(a b c:AV)(h:Heap):Option (AV × Heap):=
 loopB T k b3o j0 [27] b3n [.blk 0,.seq [16,17,18] (.seq [3,28] (.region [⟨some 28,.op (.mv (.tmp 3)),none⟩,
 ⟨some 2,.op (.mv (.tmp 28)),none⟩]) .ret)] [.undef,.undef,.undef,a,.undef,.undef,.undef,.undef,.undef,.undef,.undef,.undef,.undef,.undef,.undef,.undef,b,c,.undef,.undef,.undef,.undef,.undef,.undef,.undef,.undef,.undef,.undef,.undef] h
theorem b0x (T:Tab)(k j0:Nat)(a b c:AV)(h:Heap):a5S T k (j0+1) a b c h =
 oa (binV .lss .scalar c b) fun d=>cond2 d
 (
 oa (nilCk a) fun e=>oa (fldA 0 e) fun f=>oa (fldA 1 f) fun g=>oa (ld1 h g) fun i=>oa (idxS 1 i c) fun l=>oh (stN 1 h l (.int .i64 (-1))) fun m=>oa (binV .add .scalar c (.int .i64 1)) fun n=>a5S T k j0 a b n m
 )
 (
 some (a,h)
 ):=loopEq (by kernel_rfl)
theorem b6v (T:Tab)(k:Nat)(a:AV)(h:Heap):runF T k a9f [a] h =
 oa (mmV true a (.int .i64 0)) fun b=>ob (mkSl [.int .i64 0] 1 8 b b h) fun c d=>oa (buildV [.nils,.nils] [(1,1,c)]) fun e=>oa (buildV [.nils,.nils] [(0,2,e)]) fun f=>ob (newVar d (AV.cells f)) fun g i=>oa (nilCk g) fun l=>oa (fldA 0 l) fun m=>oa (fldA 1 m) fun n=>oa (ld1 i n) fun o=>oa (lenS o) fun p=>a5S T k k g p (.int .i64 0) i:=runEq (by kernel_rfl)
def b3p:Res:=[(6,none)]
noncomputable def a3p:MFn:=⟨57,b3p,.seq [6] (.region [tS 6 (.mv (.const (.bool false)))]) (.seq [20] (.seq [9,10,11,12,13,14,15,16,17,18,19] (.region [tM 9 1,tS 10 (.bin .lss .scalar (tT 9) (tK 0)),tM 11 10,⟨some 12,.op (.mv (tT 1)),some (11,false)⟩,⟨some 13,.op (.mv (tT 0)),some (11,false)⟩,⟨some 14,.op (.nilCheck (tT 13)),some (11,false)⟩,⟨some 15,.op (.fieldAddr 0 (tT 14)),some (11,false)⟩,⟨some 16,.op (.fieldAddr 1 (tT 15)),some (11,false)⟩,⟨some 17,.op (.load none (tT 16)),some (11,false)⟩,⟨some 18,.op (.lenSl (tT 17)),some (11,false)⟩,⟨some 19,.op (.bin .geq .scalar (tT 12) (tT 18)),some (11,false)⟩,tS 20 (.pick (tT 11) (.const (.bool true)) (tT 19))]) (.cond (tT 20) (.seq [0,1,2,20] (.region [tS 6 (.mv (.const (.bool false)))]) .ret) .skip)) (.seq [21,22] (.region [tM 21 0,⟨some 22,.call c9_ [(tT 21)],none⟩,tM 7 22]) (.seq [23,24,25] (.region [tM 23 7,tM 24 1,⟨some 25,.invoke "milestone/queue.place" (tT 23) [(tT 24)],none⟩,tM 8 25]) (.seq [1,27] (.seq [26] (.region [tM 26 8,tS 27 (.bin .lss .scalar (tT 26) (tK 0))]) (.cond (tT 27) (.seq [0,1,2,7,8,27,28,29,30,31,32,33] (.region [tM 28 7,tM 29 1,tM 30 2,tS 31 (.build [.int .i64 0,.int .i64 0] [(0,1,(tT 29)),(1,1,(tT 30))]),tS 32 (.mkIfc 198 (tT 31)),⟨some 33,.call h6_ [(tT 28),(tT 32)],none⟩]) (.seq [] (.region [tS 6 (.mv (.const (.bool true)))]) .ret)) .skip)) (.seq [44] (.seq [34,35,36,37,38,39,40,41,42,43] (.region [tM 34 0,tN 35 34,tF 36 0 35,tF 37 0 36,tL 38 37,tM 39 8,tX 40 2 38 39,tF 41 1 40,tL 42 41,tM 43 2,tS 44 (.bin .leq .scalar (tT 42) (tT 43))]) (.cond (tT 44) (.seq [0,2,7,8,44] (.region [tS 6 (.mv (.const (.bool false)))]) .ret) .skip)) (.seq [0,2,45,46,47,48,49,50,51,52,53] (.region [tM 45 0,tN 46 45,tF 47 0 46,tF 48 0 47,tL 49 48,tM 50 8,tM 51 2,tX 52 2 49 50,tF 53 1 52,tW 1 53 51]) (.seq [7,8,54,55,56] (.region [tM 54 7,tM 55 8,⟨some 56,.call j2_ [(tT 54),(tT 55)],none⟩]) (.seq [] (.region [tS 6 (.mv (.const (.bool true)))]) .ret))))))))⟩
theorem b3q (T:Tab)(k:Nat)(a b c:AV)(h:Heap):runF T k a3p [a,b,c] h =
 oa (binV .lss .scalar b (.int .i64 0)) fun d=>ob (gd d false (some (b,h)) h) fun e f=>ob (gd d false (some (a,f)) f) fun g i=>ob (gd d false (pure1 i (nilCk g)) i) fun l m=>ob (gd d false (pure1 m (fldA 0 l)) m) fun n o=>ob (gd d false (pure1 o (fldA 1 n)) o) fun p q=>ob (gd d false (pure1 q (ld1 q p)) q) fun r s=>ob (gd d false (pure1 s (lenS r)) s) fun t u=>ob (gd d false (pure1 u (binV .geq .scalar e t)) u) fun v w=>oa (pickV d (.bool true) v) fun x=>cond2 x
 (
 some ((.bool false),w)
 )
 (
 ob (evalFn T k c9_ [a] w) fun y z=>ob (callMeth T (evalFn T k) "milestone/queue.place" y [b] z) fun aa ab=>oa (binV .lss .scalar aa (.int .i64 0)) fun ac=>cond2 ac
 (
 oa (buildV [.int .i64 0,.int .i64 0] [(0,1,b),(1,1,c)]) fun ad=>ob (evalFn T k h6_ [y,(.ifc 198 ad)] ab) fun ae af=>some ((.bool true),af)
 )
 (
 oa (nilCk a) fun ag=>oa (fldA 0 ag) fun ai=>oa (fldA 0 ai) fun al=>oa (ld1 ab al) fun am=>oa (idxS 2 am aa) fun an=>oa (fldA 1 an) fun ao=>oa (ld1 ab ao) fun ap=>oa (binV .leq .scalar ap c) fun aq=>cond2 aq
 (
 some ((.bool false),ab)
 )
 (
 oa (nilCk a) fun ar=>oa (fldA 0 ar) fun as=>oa (fldA 0 as) fun au=>oa (ld1 ab au) fun av=>oa (idxS 2 av aa) fun aw=>oa (fldA 1 aw) fun ax=>oh (stN 1 ab ax c) fun ay=>ob (evalFn T k j2_ [y,aa] ay) fun az a0=>some ((.bool true),a0)
 )
 )
 ):=runEq (by kernel_rfl)
def b5k:Res:=[(4,none)]
noncomputable def a7j:MFn:=⟨15,b5k,.seq [4] (.region [tS 4 (.mv (.const .nils))]) (.seq [] (.region [tS 5 (.mv (.const (.fn a0w [] [])))]) (.seq [0,1,5,6,7,8,9,10,11,12,13,14] (.region [tM 6 5,tM 7 0,tM 8 0,tN 9 8,tF 10 2 9,tL 11 10,tM 12 1,⟨some 13,.call a1o [(tT 7),(tT 11),(tT 12)],none⟩,⟨some 14,.callV (tT 6) [(tT 13)],none⟩,tM 4 14]) .ret))⟩
theorem b5l (T:Tab)(k:Nat)(a b:AV)(h:Heap):runF T k a7j [a,b] h =
 oa (nilCk a) fun c=>oa (fldA 2 c) fun d=>oa (ld1 h d) fun e=>ob (evalFn T k a1o [a,e,b] h) fun f g=>ob (callVal (evalFn T k) (.fn a0w [] []) [f] g) fun i l=>some (i,l):=runEq (by kernel_rfl)
def a9N:Res:=[(4,none)]
noncomputable def a0k:MFn:=⟨15,a9N,.seq [4] (.region [tS 4 (.mv (tK 0))]) (.seq [0,6,7,8] (.region [tM 6 0,tM 7 1,tS 8 (.bin .rem .scalar (tT 6) (tT 7)),tM 5 8]) (.seq [1,10,11,12,13] (.seq [9] (.region [tM 9 5,tS 10 (.bin .lss .scalar (tT 9) (tK 0))]) (.cond (tT 10) (.region [tM 11 5,tM 12 1,tS 13 (.bin .add .scalar (tT 11) (tT 12)),tM 5 13]) .skip)) (.seq [5,14] (.region [tM 14 5,tM 4 14]) .ret)))⟩
theorem a9O (T:Tab)(k:Nat)(a b:AV)(h:Heap):runF T k a0k [a,b] h =
 oa (binV .rem .scalar a b) fun c=>oa (binV .lss .scalar c (.int .i64 0)) fun d=>cond2 d
 (
 oa (binV .add .scalar c b) fun e=>some (e,h)
 )
 (
 some (c,h)
 ):=runEq (by kernel_rfl)
def a8x:Res:=[(4,some (some 5))]
noncomputable def x4_:MFn:=⟨24,a8x,.seq [0] (.region [tS 2 (.box (tT 0)),tS 4 (.alloc [.int .i64 0,.int .i64 0,.int .i64 0,.int .i64 0,.nils])]) (.seq [9] (.seq [5,6,7,8] (.region [tM 5 1,tF 6 2 2,tL 7 6,tS 8 (.lenSl (tT 7)),tS 9 (.bin .lss .scalar (tT 5) (tT 8))]) (.cond (tT 9) (.seq [1,2,9,10,11,12,13,14,15] (.region [tF 10 2 2,tL 11 10,tM 12 1,tX 13 3 11 12,tA 14 3 13,⟨some 15,.call d0_ [(tT 14)],none⟩,tW 5 4 15]) .ret) .skip)) (.seq [1,2,16,17,18,19,20,21,22,23] (.region [tF 16 1 2,tL 17 16,tM 18 1,tS 19 (.bin .add .scalar (tT 17) (tT 18)),⟨some 20,.call a7_ [(tT 19),(tK 5)],none⟩,tS 21 (.convI .u64 (tT 20)),tS 22 (.bin .shl .scalar (tK 1) (tT 21)),tS 23 (.build [.int .i64 0,.int .i64 0,.int .i64 0,.int .i64 0,.nils] [(0,1,(tK 1)),(1,1,(tT 22))]),tW 5 4 23]) .ret))⟩
theorem a8y (T:Tab)(k:Nat)(a b:AV)(h:Heap):runF T k x4_ [a,b] h =
 ob (newVar h (AV.cells a)) fun c d=>ob (newVar d [.int .i64 0,.int .i64 0,.int .i64 0,.int .i64 0,.nils]) fun e f=>oa (fldA 2 c) fun g=>oa (ld1 f g) fun i=>oa (lenS i) fun l=>oa (binV .lss .scalar b l) fun m=>cond2 m
 (
 oa (fldA 2 c) fun n=>oa (ld1 f n) fun o=>oa (idxS 3 o b) fun p=>oa (ldN 3 f p) fun q=>ob (evalFn T k d0_ [q] f) fun r s=>oh (stN 5 s e r) fun t=>oa (ldN 5 t e) fun u=>some (u,t)
 )
 (
 oa (fldA 1 c) fun v=>oa (ld1 f v) fun w=>oa (binV .add .scalar w b) fun x=>ob (evalFn T k a7_ [x,(.int .i64 5)] f) fun y z=>oa (convV .u64 y) fun aa=>oa (binV .shl .scalar (.int .i64 1) aa) fun ab=>oa (buildV [.int .i64 0,.int .i64 0,.int .i64 0,.int .i64 0,.nils] [(0,1,(.int .i64 1)),(1,1,ab)]) fun ac=>oh (stN 5 z e ac) fun ad=>oa (ldN 5 ad e) fun ae=>some (ae,ad)
 ):=runEq (by kernel_rfl)
noncomputable def a0X:MCode:=.block 1 (.seq [9,10,11,12,13] (.region [tM 10 0,⟨some 11,.call a4_ [(tT 10)],none⟩,tM 9 11,tS 12 (.extract 0 (tT 9)),tS 13 (.extract 1 (tT 9)),tM 4 12,tM 5 13]) (.seq [19] (.seq [4,5,14,15,16,17,18] (.region [tM 14 5,tS 15 (.un .not (tT 14)),tM 16 15,⟨some 17,.op (.mv (tT 4)),some (16,false)⟩,⟨some 18,.op (.bin .neq .scalar (tT 17) (.const (.int .u8 124))),some (16,false)⟩,tS 19 (.pick (tT 16) (.const (.bool true)) (tT 18))]) (.cond (tT 19) (.exit 0) .skip)) (.seq [20,21,22,23,24,25,26] (.region [tM 20 0,tN 21 20,tF 22 1 21,tL 23 22,tS 24 (.bin .add .scalar (tT 23) (tK 1)),tN 25 20,tF 26 1 25,tW 1 26 24]) (.region [tM 27 3,tM 28 0,⟨some 29,.call c3_ [(tT 28)],none⟩,tS 30 (.buildSlice 5 1 [.int .i64 0,.int .i64 0,.int .i64 0,.int .i64 0,.nils] [(0,5,(tT 29))]),tS 31 (.append 5 56 (tT 27) (tT 30)),tM 3 31]))))
noncomputable def p5_:MCode:=.seq [34] (.seq [32,33] (.region [tM 32 3,tS 33 (.lenSl (tT 32)),tS 34 (.bin .eql .scalar (tT 33) (tK 1))]) (.cond (tT 34) (.seq [3,34,35,36,37] (.region [tM 35 3,tS 36 (.idxSl 5 (tT 35) (tK 0)),tA 37 5 36,tW 5 2 37]) .ret) .skip)) (.seq [3,38,39] (.region [tM 38 3,tS 39 (.build [.int .i64 0,.int .i64 0,.int .i64 0,.int .i64 0,.nils] [(0,1,(tK 5)),(4,1,(tT 38))]),tW 5 2 39]) .ret)
def p6_:Res:=[(2,some (some 5))]
noncomputable def p7_:MFn:=⟨40,p6_,.seq [] (.region [tS 2 (.alloc [.int .i64 0,.int .i64 0,.int .i64 0,.int .i64 0,.nils])]) (.seq [6,7,8] (.region [tM 6 0,⟨some 7,.call c3_ [(tT 6)],none⟩,tS 8 (.buildSlice 5 1 [.int .i64 0,.int .i64 0,.int .i64 0,.int .i64 0,.nils] [(0,5,(tT 7))]),tM 3 8]) (.seq [0,19] (.block 0 (.loop [27,28,29,30,31] a0X)) (.lab p5_)))⟩
noncomputable def h9_ (T:Tab)(k j0:Nat)(a b c:AV)(h:Heap):Option (AV × Heap):=
 loopB T k p6_ j0 [27,28,29,30,31] a0X [.blk 0,.seq [0,19] (.lab p5_)] [a,.u,b,c,.u,.u,.u,.u,.u,.u,.u,.u,.u,.u,.u,.u,.u,.u,.u,.u,.u,.u,.u,.u,.u,.u,.u,.u,.u,.u,.u,.u,.u,.u,.u,.u,.u,.u,.u,.u] h
noncomputable def p8_ (T:Tab)(k:Nat)(a b:AV)(h:Heap):Option (AV × Heap):=
 evB T k p6_ p5_ [] [.u,.u,a,b,.u,.u,.u,.u,.u,.u,.u,.u,.u,.u,.u,.u,.u,.u,.u,.u,.u,.u,.u,.u,.u,.u,.u,.u,.u,.u,.u,.u,.u,.u,.u,.u,.u,.u,.u,.u] h
theorem a4A (T:Tab)(k:Nat)(a b:AV)(h:Heap):p8_ T k a b h =
 oa (lenS b) fun c=>oa (binV .eql .scalar c (.int .i64 1)) fun d=>cond2 d
 (
 oa (idxS 5 b (.int .i64 0)) fun e=>oa (ldN 5 h e) fun f=>oh (stN 5 h a f) fun g=>oa (ldN 5 g a) fun i=>some (i,g)
 )
 (
 oa (buildV [.int .i64 0,.int .i64 0,.int .i64 0,.int .i64 0,.nils] [(0,1,(.int .i64 5)),(4,1,b)]) fun l=>oh (stN 5 h a l) fun m=>oa (ldN 5 m a) fun n=>some (n,m)
 ):=blockEq (by kernel_rfl)
theorem a4B (T:Tab)(k j0:Nat)(a b c:AV)(h:Heap):h9_ T k (j0+1) a b c h =
 ob (evalFn T k a4_ [a] h) fun d e=>oa (extr 0 d) fun f=>oa (extr 1 d) fun g=>oa (unV .not g) fun i=>ob (gd i false (some (f,e)) e) fun l m=>ob (gd i false (pure1 m (binV .neq .scalar l (.int .u8 124))) m) fun n o=>oa (pickV i (.bool true) n) fun p=>cond2 p
 (
 p8_ T k b c o
 )
 (
 oa (nilCk a) fun q=>oa (fldA 1 q) fun r=>oa (ld1 o r) fun s=>oa (binV .add .scalar s (.int .i64 1)) fun t=>oa (nilCk a) fun u=>oa (fldA 1 u) fun v=>oh (stN 1 o v t) fun w=>ob (evalFn T k c3_ [a] w) fun x y=>ob (buildSl 5 1 [.int .i64 0,.int .i64 0,.int .i64 0,.int .i64 0,.nils] [(0,5,x)] y) fun z aa=>ob (apnd 5 56 c z aa) fun ab ac=>h9_ T k j0 a b ab ac
 ):=loopEq (by kernel_rfl)
theorem a6C (T:Tab)(k:Nat)(a:AV)(h:Heap):runF T k p7_ [a] h =
 ob (newVar h [.int .i64 0,.int .i64 0,.int .i64 0,.int .i64 0,.nils]) fun b c=>ob (evalFn T k c3_ [a] c) fun d e=>ob (buildSl 5 1 [.int .i64 0,.int .i64 0,.int .i64 0,.int .i64 0,.nils] [(0,5,d)] e) fun f g=>h9_ T k k a b f g:=runEq (by kernel_rfl)
noncomputable def a0Y:MCode:=.seq [11,61,62,63,64,65,66] (.region [tM 62 0,tA 63 5 11,⟨some 64,.call b3_ [(tT 62),(tT 63)],none⟩,tM 61 64,tS 65 (.extract 0 (tT 61)),tS 66 (.extract 1 (tT 61)),tM 12 65,tM 13 66]) (.region [tM 67 7,tM 68 12,tS 69 (.buildSlice 1 1 [.int .i64 0] [(0,1,(tT 68))]),tS 70 (.append 1 8 (tT 67) (tT 69)),tM 71 8,tM 72 13,tS 73 (.buildSlice 1 1 [.int .i64 0] [(0,1,(tT 72))]),tS 74 (.append 1 8 (tT 71) (tT 73)),tM 7 70,tM 8 74])
noncomputable def p9_:MCode:=.seq [46] (.seq [37,38,39,40,41,42,43,44,45] (.region [tM 37 10,tM 38 9,tS 39 (.bin .lss .scalar (tT 37) (tT 38)),tM 40 39,⟨some 41,.op (.mv (tT 0)),some (40,true)⟩,⟨some 42,.op (.nilCheck (tT 41)),some (40,true)⟩,⟨some 43,.op (.fieldAddr 5 (tT 42)),some (40,true)⟩,⟨some 44,.op (.load none (tT 43)),some (40,true)⟩,⟨some 45,.op (.un .not (tT 44)),some (40,true)⟩,tS 46 (.pick (tT 40) (tT 45) (.const (.bool false)))]) (.cond (tT 46) .skip (.exit 0))) (.seq [12,13,67,68,69,70,71,72,73,74] (.block 1 (.seq [49,50,51,52] (.region [tF 49 4 3,tL 50 49,tS 51 (.idxSl 5 (tT 50) (tK 0)),tA 52 5 51,tS 11 (.alloc [.int .i64 0,.int .i64 0,.int .i64 0,.int .i64 0,.nils]),tW 5 11 52]) (.seq [55,56,57,58,59,60] (.seq [53,54] (.region [tF 53 0 3,tL 54 53,tS 55 (.bin .eql .scalar (tT 54) (tK 5))]) (.cond (tT 55) (.region [tF 56 4 3,tL 57 56,tM 58 10,tX 59 5 57 58,tA 60 5 59,tW 5 11 60]) .skip)) (.lab a0Y)))) (.region [tM 47 10,tS 48 (.bin .add .scalar (tT 47) (tK 1)),tM 10 48]))
noncomputable def a0Z:MCode:=.seq [6,14,89,90] (.region [tM 89 6,tM 90 14,tM 4 89,tM 5 90]) .ret
noncomputable def i0_:MCode:=.seq [75,76] (.region [tM 75 0,⟨some 76,.call b5_ [(tT 75)],none⟩,tM 14 76]) (.seq [0,3,7,8,81,82,83,84,85,86,87,88] (.seq [77,78,79,80] (.region [tM 77 0,tN 78 77,tF 79 5 78,tL 80 79,tS 81 (.un .not (tT 80))]) (.cond (tT 81) (.region [tM 82 0,tA 83 5 3,tM 84 6,tM 85 14,tM 86 7,tM 87 8,⟨some 88,.call f4_ [(tT 82),(tT 83),(tT 84),(tT 85),(tT 86),(tT 87)],none⟩]) .skip)) (.lab a0Z))
noncomputable def a1a:MCode:=.seq [9,10,46] (.seq [] (.region [tS 10 (.mv (tK 0))]) (.block 0 (.loop [47,48] p9_))) (.lab i0_)
def c6_:Res:=[(4,none),(5,none)]
noncomputable def q0_:MFn:=⟨91,c6_,.seq [1,4,5] (.region [tS 3 (.box (tT 1)),tS 4 (.mv (tK 0)),tS 5 (.mv (tK 0))]) (.seq [18] (.seq [15,16,17] (.region [tM 15 0,tN 16 15,tF 17 5 16,tL 18 17]) (.cond (tT 18) (.seq [0,3,18] (.region [tS 4 (.mv (tK 0)),tS 5 (.mv (tK 0))]) .ret) .skip)) (.seq [21] (.seq [19,20] (.region [tF 19 0 3,tL 20 19,tS 21 (.bin .eql .scalar (tT 20) (tK 4))]) (.cond (tT 21) (.seq [0,3,21,22,23,24,25,26] (.region [tM 22 0,tA 23 5 3,⟨some 24,.call f3_ [(tT 22),(tT 23)],none⟩,tS 25 (.extract 0 (tT 24)),tS 26 (.extract 1 (tT 24)),tM 4 25,tM 5 26]) .ret) .skip)) (.seq [27,28] (.region [tM 27 0,⟨some 28,.call b5_ [(tT 27)],none⟩,tM 6 28]) (.seq [] (.region [tS 7 (.mv (.const .nils)),tS 8 (.mv (.const .nils))]) (.seq [29,30,31] (.region [tF 29 4 3,tL 30 29,tS 31 (.lenSl (tT 30)),tM 9 31]) (.seq [34,35,36] (.seq [32,33] (.region [tF 32 0 3,tL 33 32,tS 34 (.bin .eql .scalar (tT 33) (tK 9))]) (.cond (tT 34) (.region [tF 35 3 3,tL 36 35,tM 9 36]) .skip)) (.lab a1a)))))))⟩
noncomputable def q1_ (T:Tab)(k:Nat)(a b c d e f:AV)(h:Heap):Option (AV × Heap):=
 evB T k c6_ a1a [] [a,.u,.u,b,.u,.u,c,d,e,f,.u,.u,.u,.u,.u,.u,.u,.u,.u,.u,.u,.u,.u,.u,.u,.u,.u,.u,.u,.u,.u,.u,.u,.u,.u,.u,.u,.u,.u,.u,.u,.u,.u,.u,.u,.u,.u,.u,.u,.u,.u,.u,.u,.u,.u,.u,.u,.u,.u,.u,.u,.u,.u,.u,.u,.u,.u,.u,.u,.u,.u,.u,.u,.u,.u,.u,.u,.u,.u,.u,.u,.u,.u,.u,.u,.u,.u,.u,.u,.u,.u] h
noncomputable def i1_ (T:Tab)(k j0:Nat)(a b c d e f g:AV)(h:Heap):Option (AV × Heap):=
 loopB T k c6_ j0 [47,48] p9_ [.blk 0,.seq [9,10,46] (.lab i0_)] [a,.u,.u,b,.u,.u,c,d,e,f,g,.u,.u,.u,.u,.u,.u,.u,.u,.u,.u,.u,.u,.u,.u,.u,.u,.u,.u,.u,.u,.u,.u,.u,.u,.u,.u,.u,.u,.u,.u,.u,.u,.u,.u,.u,.u,.u,.u,.u,.u,.u,.u,.u,.u,.u,.u,.u,.u,.u,.u,.u,.u,.u,.u,.u,.u,.u,.u,.u,.u,.u,.u,.u,.u,.u,.u,.u,.u,.u,.u,.u,.u,.u,.u,.u,.u,.u,.u,.u,.u] h
noncomputable def i2_ (T:Tab)(k j0:Nat)(a b c d e f g i:AV)(h:Heap):Option (AV × Heap):=
 evB T k c6_ a0Y [.blk 1,.seq [12,13,67,68,69,70,71,72,73,74] (.region [⟨some 47,.op (.mv (.tmp 10)),none⟩,
 ⟨some 48,.op (.bin .add .scalar (.tmp 47) (.const (.int .i64 1))),none⟩,
 ⟨some 10,.op (.mv (.tmp 48)),none⟩]),.lp j0 [47,48] p9_,.blk 0,.seq [9,10,46] (.lab i0_)] [a,.undef,.undef,b,.undef,.undef,c,d,e,f,g,i,.undef,.undef,.undef,.undef,.undef,.undef,.undef,.undef,.undef,.undef,.undef,.undef,.undef,.undef,.undef,.undef,.undef,.undef,.undef,.undef,.undef,.undef,.undef,.undef,.undef,.undef,.undef,.undef,.undef,.undef,.undef,.undef,.undef,.undef,.undef,.undef,.undef,.undef,.undef,.undef,.undef,.undef,.undef,.undef,.undef,.undef,.undef,.undef,.undef,.undef,.undef,.undef,.undef,.undef,.undef,.undef,.undef,.undef,.undef,.undef,.undef,.undef,.undef,.undef,.undef,.undef,.undef,.undef,.undef,.undef,.undef,.undef,.undef,.undef,.undef,.undef,.undef,.undef,.undef] h
noncomputable def e8_ (T:Tab)(k:Nat)(a b c d e:AV)(h:Heap):Option (AV × Heap):=
 evB T k c6_ i0_ [] [a,.u,.u,b,.u,.u,c,d,e,.u,.u,.u,.u,.u,.u,.u,.u,.u,.u,.u,.u,.u,.u,.u,.u,.u,.u,.u,.u,.u,.u,.u,.u,.u,.u,.u,.u,.u,.u,.u,.u,.u,.u,.u,.u,.u,.u,.u,.u,.u,.u,.u,.u,.u,.u,.u,.u,.u,.u,.u,.u,.u,.u,.u,.u,.u,.u,.u,.u,.u,.u,.u,.u,.u,.u,.u,.u,.u,.u,.u,.u,.u,.u,.u,.u,.u,.u,.u,.u,.u,.u] h
noncomputable def i3_ (T:Tab)(k:Nat)(a b:AV)(h:Heap):Option (AV × Heap):=
 evB T k c6_ a0Z [] [.u,.u,.u,.u,.u,.u,a,.u,.u,.u,.u,.u,.u,.u,b,.u,.u,.u,.u,.u,.u,.u,.u,.u,.u,.u,.u,.u,.u,.u,.u,.u,.u,.u,.u,.u,.u,.u,.u,.u,.u,.u,.u,.u,.u,.u,.u,.u,.u,.u,.u,.u,.u,.u,.u,.u,.u,.u,.u,.u,.u,.u,.u,.u,.u,.u,.u,.u,.u,.u,.u,.u,.u,.u,.u,.u,.u,.u,.u,.u,.u,.u,.u,.u,.u,.u,.u,.u,.u,.u,.u] h
theorem a4C (T:Tab)(k j0:Nat)(a b c d e f g i:AV)(h:Heap):i2_ T k j0 a b c d e f g i h =
 oa (ldN 5 h i) fun l=>ob (evalFn T k b3_ [a,l] h) fun m n=>oa (extr 0 m) fun o=>oa (extr 1 m) fun p=>ob (buildSl 1 1 [.int .i64 0] [(0,1,o)] n) fun q r=>ob (apnd 1 8 d q r) fun s t=>ob (buildSl 1 1 [.int .i64 0] [(0,1,p)] t) fun u v=>ob (apnd 1 8 e u v) fun w x=>oa (binV .add .scalar g (.int .i64 1)) fun y=>i1_ T k j0 a b c s w f y x:=blockEq (by kernel_rfl)
theorem a4D (T:Tab)(k:Nat)(a b:AV)(h:Heap):i3_ T k a b h =
 some (.tup [a,b],h):=blockEq (by kernel_rfl)
theorem a4E (T:Tab)(k:Nat)(a b c d e:AV)(h:Heap):e8_ T k a b c d e h =
 ob (evalFn T k b5_ [a] h) fun f g=>oa (nilCk a) fun i=>oa (fldA 5 i) fun l=>oa (ld1 g l) fun m=>oa (unV .not m) fun n=>cond2 n
 (
 oa (ldN 5 g b) fun o=>ob (evalFn T k f4_ [a,o,c,f,d,e] g) fun p q=>i3_ T k c f q
 )
 (
 i3_ T k c f g
 ):=blockEq (by kernel_rfl)
theorem y7_ (T:Tab)(k j0:Nat)(a b c d e f g:AV)(h:Heap):i1_ T k (j0+1) a b c d e f g h =
 oa (binV .lss .scalar g f) fun i=>ob (gd i true (some (a,h)) h) fun l m=>ob (gd i true (pure1 m (nilCk l)) m) fun n o=>ob (gd i true (pure1 o (fldA 5 n)) o) fun p q=>ob (gd i true (pure1 q (ld1 q p)) q) fun r s=>ob (gd i true (pure1 s (unV .not r)) s) fun t u=>oa (pickV i t (.bool false)) fun v=>cond2 v
 (
 oa (fldA 4 b) fun w=>oa (ld1 u w) fun x=>oa (idxS 5 x (.int .i64 0)) fun y=>oa (ldN 5 u y) fun z=>ob (newVar u [.int .i64 0,.int .i64 0,.int .i64 0,.int .i64 0,.nils]) fun aa ab=>oh (stN 5 ab aa z) fun ac=>oa (fldA 0 b) fun ad=>oa (ld1 ac ad) fun ae=>oa (binV .eql .scalar ae (.int .i64 5)) fun af=>cond2 af
 (
 oa (fldA 4 b) fun ag=>oa (ld1 ac ag) fun ai=>oa (idxS 5 ai g) fun al=>oa (ldN 5 ac al) fun am=>oh (stN 5 ac aa am) fun an=>i2_ T k j0 a b c d e f g aa an
 )
 (
 i2_ T k j0 a b c d e f g aa ac
 )
 )
 (
 e8_ T k a b c d e u
 ):=loopEq (by kernel_rfl)
theorem y8_ (T:Tab)(k:Nat)(a b c d e f:AV)(h:Heap):q1_ T k a b c d e f h =
 i1_ T k k a b c d e f (.int .i64 0) h:=blockEq (by kernel_rfl)
theorem a1b (T:Tab)(k:Nat)(a b:AV)(h:Heap):runF T k q0_ [a,b] h =
 ob (newVar h (AV.cells b)) fun c d=>oa (nilCk a) fun e=>oa (fldA 5 e) fun f=>oa (ld1 d f) fun g=>cond2 g
 (
 some (.tup [(.int .i64 0),(.int .i64 0)],d)
 )
 (
 oa (fldA 0 c) fun i=>oa (ld1 d i) fun l=>oa (binV .eql .scalar l (.int .i64 4)) fun m=>cond2 m
 (
 oa (ldN 5 d c) fun n=>ob (evalFn T k f3_ [a,n] d) fun o p=>oa (extr 0 o) fun q=>oa (extr 1 o) fun r=>some (.tup [q,r],p)
 )
 (
 ob (evalFn T k b5_ [a] d) fun s t=>oa (fldA 4 c) fun u=>oa (ld1 t u) fun v=>oa (lenS v) fun w=>oa (fldA 0 c) fun x=>oa (ld1 t x) fun y=>oa (binV .eql .scalar y (.int .i64 9)) fun z=>cond2 z
 (
 oa (fldA 3 c) fun aa=>oa (ld1 t aa) fun ab=>q1_ T k a c s .nils .nils ab t
 )
 (
 q1_ T k a c s .nils .nils w t
 )
 )
 ):=runEq (by kernel_rfl)
def b0N:Res:=[(2,none)]
noncomputable def a0O:MFn:=⟨14,b0N,.seq [0,2] (.region [tS 1 (.box (tT 0)),tS 2 (.mv (.const .nils))]) (.seq [4,5,6] (.region [tF 4 0 1,tL 5 4,tS 6 (.mkSlice [.bool false] 1 1 (tT 5) (tT 5)),tM 3 6]) (.seq [7,8,9,10] (.region [tM 7 3,tF 8 1 1,tL 9 8,tX 10 1 7 9,⟨none,.op (.store 1 (tT 10) (.const (.bool true))),none⟩]) (.seq [1,3,11,12,13] (.region [tA 11 5 1,tM 12 3,⟨some 13,.call e3_ [(tT 11),(tT 12)],none⟩,tM 2 13]) .ret)))⟩
theorem b0O (T:Tab)(k:Nat)(a:AV)(h:Heap):runF T k a0O [a] h =
 ob (newVar h (AV.cells a)) fun b c=>oa (fldA 0 b) fun d=>oa (ld1 c d) fun e=>ob (mkSl [.bool false] 1 1 e e c) fun f g=>oa (fldA 1 b) fun i=>oa (ld1 g i) fun l=>oa (idxS 1 f l) fun m=>oh (stN 1 g m (.bool true)) fun n=>oa (ldN 5 n b) fun o=>ob (evalFn T k e3_ [o,f] n) fun p q=>some (p,q):=runEq (by kernel_rfl)
noncomputable def a5b:MCode:=.seq [17] (.seq [13,14,15,16] (.region [tM 13 8,tF 14 3 3,tL 15 14,tS 16 (.lenSl (tT 15)),tS 17 (.bin .lss .scalar (tT 13) (tT 16))]) (.cond (tT 17) .skip (.exit 0))) (.seq [9,46,47,48,49,50] (.block 1 (.seq [20,21,22,23,24] (.region [tF 20 3 3,tL 21 20,tM 22 8,tX 23 3 21 22,tA 24 3 23,tS 9 (.alloc [.int .i64 0,.int .i64 0,.int .i64 0]),tW 3 9 24]) (.seq [25,26,27,28,29,30,31,32,33,34,35,36,37,38,39,40,41,42,43,44,45] (.region [tM 25 2,tS 26 (.bin .geq .scalar (tT 25) (tK 0)),tM 27 26,⟨some 28,.op (.mv (tT 2)),some (27,true)⟩,⟨some 29,.op (.bin .lss .scalar (tT 28) (tK 5)),some (27,true)⟩,tS 30 (.pick (tT 27) (tT 29) (.const (.bool false))),tM 31 30,⟨some 32,.op (.mv (tT 1)),some (31,true)⟩,⟨some 33,.op (.fieldAddr 0 (tT 9)),some (31,true)⟩,⟨some 34,.op (.load none (tT 33)),some (31,true)⟩,⟨some 35,.op (.idxSl 1 (tT 32) (tT 34)),some (31,true)⟩,⟨some 36,.op (.load none (tT 35)),some (31,true)⟩,tS 37 (.pick (tT 31) (tT 36) (.const (.bool false))),tM 38 37,⟨some 39,.op (.fieldAddr 2 (tT 9)),some (38,true)⟩,⟨some 40,.op (.load none (tT 39)),some (38,true)⟩,⟨some 41,.op (.mv (tT 2)),some (38,true)⟩,⟨some 42,.op (.convI .u64 (tT 41)),some (38,true)⟩,⟨some 43,.op (.bin .shr .scalar (tT 40) (tT 42)),some (38,true)⟩,⟨some 44,.op (.bin .and .scalar (tT 43) (tK 1)),some (38,true)⟩,⟨some 45,.op (.bin .eql .scalar (tT 44) (tK 1)),some (38,true)⟩,tS 46 (.pick (tT 38) (tT 45) (.const (.bool false)))]) (.cond (tT 46) (.region [tM 47 7,tF 48 1 9,tL 49 48,tX 50 1 47 49,⟨none,.op (.store 1 (tT 50) (.const (.bool true))),none⟩]) .skip)))) (.region [tM 18 8,tS 19 (.bin .add .scalar (tT 18) (tK 1)),tM 8 19]))
noncomputable def a1D:MCode:=.seq [3,7,51,52,53] (.region [tA 51 5 3,tM 52 7,⟨some 53,.call e3_ [(tT 51),(tT 52)],none⟩,tM 6 53]) .ret
def a1E:Res:=[(6,none)]
noncomputable def a1F:MFn:=⟨54,a1E,.seq [0,6] (.region [tS 3 (.box (tT 0)),tS 6 (.mv (.const .nils))]) (.seq [10,11,12] (.region [tF 10 0 3,tL 11 10,tS 12 (.mkSlice [.bool false] 1 1 (tT 11) (tT 11)),tM 7 12]) (.seq [1,2,8,17] (.seq [] (.region [tS 8 (.mv (tK 0))]) (.block 0 (.loop [18,19] a5b))) (.lab a1D)))⟩
noncomputable def m7_ (T:Tab)(k j0:Nat)(a b c d e:AV)(h:Heap):Option (AV × Heap):=
 loopB T k a1E j0 [18,19] a5b [.blk 0,.seq [1,2,8,17] (.lab a1D)] [.u,a,b,c,.u,.u,.u,d,e,.u,.u,.u,.u,.u,.u,.u,.u,.u,.u,.u,.u,.u,.u,.u,.u,.u,.u,.u,.u,.u,.u,.u,.u,.u,.u,.u,.u,.u,.u,.u,.u,.u,.u,.u,.u,.u,.u,.u,.u,.u,.u,.u,.u,.u] h
noncomputable def a5c (T:Tab)(k:Nat)(a b:AV)(h:Heap):Option (AV × Heap):=
 evB T k a1E a1D [] [.u,.u,.u,a,.u,.u,.u,b,.u,.u,.u,.u,.u,.u,.u,.u,.u,.u,.u,.u,.u,.u,.u,.u,.u,.u,.u,.u,.u,.u,.u,.u,.u,.u,.u,.u,.u,.u,.u,.u,.u,.u,.u,.u,.u,.u,.u,.u,.u,.u,.u,.u,.u,.u] h
theorem a9g (T:Tab)(k:Nat)(a b:AV)(h:Heap):a5c T k a b h =
 oa (ldN 5 h a) fun c=>ob (evalFn T k e3_ [c,b] h) fun d e=>some (d,e):=blockEq (by kernel_rfl)
theorem a3q (T:Tab)(k j0:Nat)(a b c d e:AV)(h:Heap):m7_ T k (j0+1) a b c d e h =
 oa (fldA 3 c) fun f=>oa (ld1 h f) fun g=>oa (lenS g) fun i=>oa (binV .lss .scalar e i) fun l=>cond2 l
 (
 oa (fldA 3 c) fun m=>oa (ld1 h m) fun n=>oa (idxS 3 n e) fun o=>oa (ldN 3 h o) fun p=>ob (newVar h [.int .i64 0,.int .i64 0,.int .i64 0]) fun q r=>oh (stN 3 r q p) fun s=>oa (binV .geq .scalar b (.int .i64 0)) fun t=>ob (gd t true (some (b,s)) s) fun u v=>ob (gd t true (pure1 v (binV .lss .scalar u (.int .i64 5))) v) fun w x=>oa (pickV t w (.bool false)) fun y=>ob (gd y true (some (a,x)) x) fun z aa=>ob (gd y true (pure1 aa (fldA 0 q)) aa) fun ab ac=>ob (gd y true (pure1 ac (ld1 ac ab)) ac) fun ad ae=>ob (gd y true (pure1 ae (idxS 1 z ad)) ae) fun af ag=>ob (gd y true (pure1 ag (ld1 ag af)) ag) fun ai al=>oa (pickV y ai (.bool false)) fun am=>ob (gd am true (pure1 al (fldA 2 q)) al) fun an ao=>ob (gd am true (pure1 ao (ld1 ao an)) ao) fun ap aq=>ob (gd am true (some (b,aq)) aq) fun ar as=>ob (gd am true (pure1 as (convV .u64 ar)) as) fun au av=>ob (gd am true (pure1 av (binV .shr .scalar ap au)) av) fun aw ax=>ob (gd am true (pure1 ax (binV .and .scalar aw (.int .i64 1))) ax) fun ay az=>ob (gd am true (pure1 az (binV .eql .scalar ay (.int .i64 1))) az) fun a0 a1=>oa (pickV am a0 (.bool false)) fun a2=>cond2 a2
 (
 oa (fldA 1 q) fun a3=>oa (ld1 a1 a3) fun a4=>oa (idxS 1 d a4) fun a5=>oh (stN 1 a1 a5 (.bool true)) fun a6=>oa (binV .add .scalar e (.int .i64 1)) fun a7=>m7_ T k j0 a b c d a7 a6
 )
 (
 oa (binV .add .scalar e (.int .i64 1)) fun a8=>m7_ T k j0 a b c d a8 a1
 )
 )
 (
 a5c T k c d h
 ):=loopEq (by kernel_rfl)
theorem b1y (T:Tab)(k:Nat)(a b c:AV)(h:Heap):runF T k a1F [a,b,c] h =
 ob (newVar h (AV.cells a)) fun d e=>oa (fldA 0 d) fun f=>oa (ld1 e f) fun g=>ob (mkSl [.bool false] 1 1 g g e) fun i l=>m7_ T k k b c d i (.int .i64 0) l:=runEq (by kernel_rfl)
noncomputable def a5d:MCode:=.seq [9] (.seq [6,7,8] (.region [tM 6 5,tM 7 0,tS 8 (.lenSl (tT 7)),tS 9 (.bin .lss .scalar (tT 6) (tT 8))]) (.cond (tT 9) .skip (.exit 0))) (.seq [17] (.block 1 (.seq [12,13,14,15,16] (.region [tM 12 0,tM 13 5,tX 14 1 12 13,tL 15 14,tM 16 1,⟨some 17,.call o5_ [(tT 15),(tT 16)],none⟩]) (.cond (tT 17) (.seq [0,1,5,17,18] (.region [tM 18 5,tM 4 18]) .ret) .skip))) (.region [tM 10 5,tS 11 (.bin .add .scalar (tT 10) (tK 1)),tM 5 11]))
def a5e:Res:=[(4,none)]
noncomputable def a1G:MFn:=⟨19,a5e,.seq [4] (.region [tS 4 (.mv (tK 0))]) (.seq [0,1,5,9] (.seq [] (.region [tS 5 (.mv (tK 0))]) (.block 0 (.loop [10,11] a5d))) (.seq [] (.region [tS 4 (.mv (tK (-1)))]) .ret))⟩
noncomputable def w2_ (T:Tab)(k j0:Nat)(a b c:AV)(h:Heap):Option (AV × Heap):=
 loopB T k a5e j0 [10,11] a5d [.blk 0,.seq [0,1,5,9] (.seq [] (.region [⟨some 4,.op (.mv (.const (.int .i64 (-1)))),none⟩]) .ret)] [a,b,.u,.u,.u,c,.u,.u,.u,.u,.u,.u,.u,.u,.u,.u,.u,.u,.u] h
theorem a3r (T:Tab)(k j0:Nat)(a b c:AV)(h:Heap):w2_ T k (j0+1) a b c h =
 oa (lenS a) fun d=>oa (binV .lss .scalar c d) fun e=>cond2 e
 (
 oa (idxS 1 a c) fun f=>oa (ld1 h f) fun g=>ob (evalFn T k o5_ [g,b] h) fun i l=>cond2 i
 (
 some (c,l)
 )
 (
 oa (binV .add .scalar c (.int .i64 1)) fun m=>w2_ T k j0 a b m l
 )
 )
 (
 some ((.int .i64 (-1)),h)
 ):=loopEq (by kernel_rfl)
theorem b1z (T:Tab)(k:Nat)(a b:AV)(h:Heap):runF T k a1G [a,b] h =
 w2_ T k k a b (.int .i64 0) h:=runEq (by kernel_rfl)
noncomputable def a3H:MCode:=.seq [15] (.seq [12,13,14] (.region [tM 12 4,tM 13 3,tS 14 (.lenSl (tT 13)),tS 15 (.bin .lss .scalar (tT 12) (tT 14))]) (.cond (tT 15) .skip (.exit 0))) (.seq [22,23,24,25] (.block 1 (.seq [18,19,20,21] (.region [tF 18 1 1,tL 19 18,tM 20 4,tX 21 1 19 20,tL 22 21]) (.cond (tT 22) (.region [tM 23 3,tM 24 4,tX 25 1 23 24,⟨none,.op (.store 1 (tT 25) (tK 1)),none⟩]) .skip))) (.region [tM 16 4,tS 17 (.bin .add .scalar (tT 16) (tK 1)),tM 4 17]))
noncomputable def a3I:MCode:=.block 3 (.seq [3,26,27,28,29,30,31] (.region [tA 27 2 1,tM 28 3,⟨some 29,.call m3_ [(tT 27),(tT 28)],none⟩,tM 26 29,tS 30 (.extract 0 (tT 26)),tS 31 (.extract 1 (tT 26)),tM 6 30,tM 7 31]) (.seq [34] (.seq [5,32,33] (.region [tM 32 7,tM 33 5,tS 34 (.bin .eql .scalar (tT 32) (tT 33))]) (.cond (tT 34) (.seq [1,6,7,34,35] (.region [tM 35 6,tM 2 35]) .ret) .skip)) (.region [tM 36 6,tM 37 7,tM 3 36,tM 5 37])))
noncomputable def a0l:MCode:=.seq [] (.region [tS 5 (.mv (tK 0))]) (.block 2 (.loop [6,7,36,37] a3I))
def r7_:Res:=[(2,none)]
noncomputable def a0m:MFn:=⟨38,r7_,.seq [0,2] (.region [tS 1 (.box (tT 0)),tS 2 (.mv (.const .nils))]) (.seq [8,9,10,11] (.region [tF 8 0 1,tL 9 8,tS 10 (.lenSl (tT 9)),tS 11 (.mkSlice [.int .i64 0] 1 8 (tT 10) (tT 10)),tM 3 11]) (.seq [4,15] (.seq [] (.region [tS 4 (.mv (tK 0))]) (.block 0 (.loop [16,17] a3H))) (.lab a0l)))⟩
noncomputable def k1_ (T:Tab)(k j0:Nat)(a b c:AV)(h:Heap):Option (AV × Heap):=
 loopB T k r7_ j0 [16,17] a3H [.blk 0,.seq [4,15] (.lab a0l)] [.u,a,.u,b,c,.u,.u,.u,.u,.u,.u,.u,.u,.u,.u,.u,.u,.u,.u,.u,.u,.u,.u,.u,.u,.u,.u,.u,.u,.u,.u,.u,.u,.u,.u,.u,.u,.u] h
noncomputable def a3J (T:Tab)(k:Nat)(a b:AV)(h:Heap):Option (AV × Heap):=
 evB T k r7_ a0l [] [.u,a,.u,b,.u,.u,.u,.u,.u,.u,.u,.u,.u,.u,.u,.u,.u,.u,.u,.u,.u,.u,.u,.u,.u,.u,.u,.u,.u,.u,.u,.u,.u,.u,.u,.u,.u,.u] h
noncomputable def r8_ (T:Tab)(k j0:Nat)(a b c:AV)(h:Heap):Option (AV × Heap):=
 loopB T k r7_ j0 [6,7,36,37] a3I [.blk 2] [.u,a,.u,b,.u,c,.u,.u,.u,.u,.u,.u,.u,.u,.u,.u,.u,.u,.u,.u,.u,.u,.u,.u,.u,.u,.u,.u,.u,.u,.u,.u,.u,.u,.u,.u,.u,.u] h
theorem a7Z (T:Tab)(k j0:Nat)(a b c:AV)(h:Heap):r8_ T k (j0+1) a b c h =
 oa (ldN 2 h a) fun d=>ob (evalFn T k m3_ [d,b] h) fun e f=>oa (extr 0 e) fun g=>oa (extr 1 e) fun i=>oa (binV .eql .scalar i c) fun l=>cond2 l
 (
 some (g,f)
 )
 (
 r8_ T k j0 a g i f
 ):=loopEq (by kernel_rfl)
theorem a8a (T:Tab)(k:Nat)(a b:AV)(h:Heap):a3J T k a b h =
 r8_ T k k a b (.int .i64 0) h:=blockEq (by kernel_rfl)
theorem a2u (T:Tab)(k j0:Nat)(a b c:AV)(h:Heap):k1_ T k (j0+1) a b c h =
 oa (lenS b) fun d=>oa (binV .lss .scalar c d) fun e=>cond2 e
 (
 oa (fldA 1 a) fun f=>oa (ld1 h f) fun g=>oa (idxS 1 g c) fun i=>oa (ld1 h i) fun l=>cond2 l
 (
 oa (idxS 1 b c) fun m=>oh (stN 1 h m (.int .i64 1)) fun n=>oa (binV .add .scalar c (.int .i64 1)) fun o=>k1_ T k j0 a b o n
 )
 (
 oa (binV .add .scalar c (.int .i64 1)) fun p=>k1_ T k j0 a b p h
 )
 )
 (
 a3J T k a b h
 ):=loopEq (by kernel_rfl)
theorem a9P (T:Tab)(k:Nat)(a:AV)(h:Heap):runF T k a0m [a] h =
 ob (newVar h (AV.cells a)) fun b c=>oa (fldA 0 b) fun d=>oa (ld1 c d) fun e=>oa (lenS e) fun f=>ob (mkSl [.int .i64 0] 1 8 f f c) fun g i=>k1_ T k k b g (.int .i64 0) i:=runEq (by kernel_rfl)
def b3r:Res:=[(4,none),(5,none)]
noncomputable def a3s:MFn:=⟨22,b3r,.seq [4,5] (.region [tS 4 (.mv (tK 0)),tS 5 (.mv (.const (.bool false)))]) (.seq [1,7,8,9,10] (.region [tM 7 0,⟨some 8,.call c9_ [(tT 7)],none⟩,tM 9 1,⟨some 10,.invoke "milestone/queue.place" (tT 8) [(tT 9)],none⟩,tM 6 10]) (.seq [12] (.seq [11] (.region [tM 11 6,tS 12 (.bin .lss .scalar (tT 11) (tK 0))]) (.cond (tT 12) (.seq [0,6,12] (.region [tS 4 (.mv (tK 0)),tS 5 (.mv (.const (.bool false)))]) .ret) .skip)) (.seq [0,6,13,14,15,16,17,18,19,20,21] (.region [tM 13 0,tN 14 13,tF 15 0 14,tF 16 0 15,tL 17 16,tM 18 6,tX 19 2 17 18,tF 20 1 19,tL 21 20,tM 4 21,tS 5 (.mv (.const (.bool true)))]) .ret)))⟩
theorem b3s (T:Tab)(k:Nat)(a b:AV)(h:Heap):runF T k a3s [a,b] h =
 ob (evalFn T k c9_ [a] h) fun c d=>ob (callMeth T (evalFn T k) "milestone/queue.place" c [b] d) fun e f=>oa (binV .lss .scalar e (.int .i64 0)) fun g=>cond2 g
 (
 some (.tup [(.int .i64 0),(.bool false)],f)
 )
 (
 oa (nilCk a) fun i=>oa (fldA 0 i) fun l=>oa (fldA 0 l) fun m=>oa (ld1 f m) fun n=>oa (idxS 2 n e) fun o=>oa (fldA 1 o) fun p=>oa (ld1 f p) fun q=>some (.tup [q,(.bool true)],f)
 ):=runEq (by kernel_rfl)
def b3t:Res:=[(2,none),(3,none),(4,none)]
noncomputable def a3t:MFn:=⟨23,b3t,.seq [2,3,4] (.region [tS 2 (.mv (tK 0)),tS 3 (.mv (tK 0)),tS 4 (.mv (.const (.bool false)))]) (.seq [10] (.seq [6,7,8,9] (.region [tM 6 0,tN 7 6,tF 8 0 7,⟨some 9,.call m4_ [(tT 8)],none⟩,tS 10 (.bin .eql .scalar (tT 9) (tK 0))]) (.cond (tT 10) (.seq [0,10] (.region [tS 2 (.mv (tK 0)),tS 3 (.mv (tK 0)),tS 4 (.mv (.const (.bool false)))]) .ret) .skip)) (.seq [0,11,12,13,14,15,16,17] (.region [tM 12 0,⟨some 13,.call c9_ [(tT 12)],none⟩,⟨some 14,.call o6_ [(tT 13)],none⟩,tS 15 (.typeAssert 198 (.agg [.int .i64 0,.int .i64 0]) true (tT 14)),tM 11 15,tS 16 (.extract 0 (tT 11)),tS 17 (.extract 1 (tT 11)),tS 5 (.alloc [.int .i64 0,.int .i64 0]),tW 2 5 16,tM 4 17]) (.seq [5,18,19,20,21,22] (.regionD 23 [dF 0 23 0 5,dL 1 24 23,dF 2 25 1 5,dL 3 26 25,dM 4 27 4,dM 5 28 24,dM 6 29 26,dM 7 30 27] [(18,23),(19,24),(20,25),(21,26),(22,27),(2,28),(3,29),(4,30)]) .ret)))⟩
theorem b3u (T:Tab)(k:Nat)(a:AV)(h:Heap):runF T k a3t [a] h =
 oa (nilCk a) fun b=>oa (fldA 0 b) fun c=>ob (evalFn T k m4_ [c] h) fun d e=>oa (binV .eql .scalar d (.int .i64 0)) fun f=>cond2 f
 (
 some (.tup [(.int .i64 0),(.int .i64 0),(.bool false)],e)
 )
 (
 ob (evalFn T k c9_ [a] e) fun g i=>ob (evalFn T k o6_ [g] i) fun l m=>oa (tAssert 198 (.agg [.int .i64 0,.int .i64 0]) true l) fun n=>oa (extr 0 n) fun o=>oa (extr 1 n) fun p=>ob (newVar m [.int .i64 0,.int .i64 0]) fun q r=>oh (stN 2 r q o) fun s=>oa (fldA 0 q) fun t=>oa (ld1 s t) fun u=>oa (fldA 1 q) fun v=>oa (ld1 s v) fun w=>some (.tup [u,w,p],s)
 ):=runEq (by kernel_rfl)
end Go.Gm.AQ
