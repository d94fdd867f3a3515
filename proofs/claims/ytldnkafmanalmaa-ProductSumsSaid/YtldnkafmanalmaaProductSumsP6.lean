/- A part of the proof (GmAQ). -/
import Derived.KernelRfl
import Derived.Test.YtldnkafmanalmaaProductSumsP5
set_option linter.unusedVariables false
namespace Go.Gm.AQ
open Go Go.Gm
def a9h:Res:=[(2,none)]
noncomputable def y9_:MFn:=⟨8,a9h,.seq [2] (.region [tS 2 (.mv (.const .nils))]) (.seq [4] (.seq [3] (.region [tM 3 0,tS 4 (.bin .eql .slice (tT 3) (.const .nils))]) (.cond (tT 4) (.seq [0,4] (.region [tS 2 (.mv (.const .nils))]) .ret) .skip)) (.seq [0,5,6,7] (.region [tS 5 (.buildSlice 4 0 [] []),tM 6 0,tS 7 (.append 4 32 (tT 5) (tT 6)),tM 2 7]) .ret))⟩
theorem a9i (T:Tab)(k:Nat)(a:AV)(h:Heap):runF T k y9_ [a] h =
 oa (binV .eql .slice a .nils) fun b=>cond2 b
 (
 some (.nils,h)
 )
 (
 ob (buildSl 4 0 [] [] h) fun c d=>ob (apnd 4 32 c a d) fun e f=>some (e,f)
 ):=runEq (by kernel_rfl)
def b5X:Res:=[(4,none)]
noncomputable def a8b:MFn:=⟨16,b5X,.seq [4] (.region [tS 4 (.mv (.const (.bool false)))]) (.seq [0,1,5,6,7,8,9,10,11,12,13,14,15] (.region [tM 5 1,tS 6 (.bin .geq .scalar (tT 5) (tK 0)),tM 7 6,⟨some 8,.op (.mv (tT 1)),some (7,true)⟩,⟨some 9,.op (.mv (tT 0)),some (7,true)⟩,⟨some 10,.op (.nilCheck (tT 9)),some (7,true)⟩,⟨some 11,.op (.fieldAddr 2 (tT 10)),some (7,true)⟩,⟨some 12,.op (.load none (tT 11)),some (7,true)⟩,⟨some 13,.op (.lenSl (tT 12)),some (7,true)⟩,⟨some 14,.op (.bin .lss .scalar (tT 8) (tT 13)),some (7,true)⟩,tS 15 (.pick (tT 7) (tT 14) (.const (.bool false))),tM 4 15]) .ret)⟩
theorem b5Y (T:Tab)(k:Nat)(a b:AV)(h:Heap):runF T k a8b [a,b] h =
 oa (binV .geq .scalar b (.int .i64 0)) fun c=>ob (gd c true (some (b,h)) h) fun d e=>ob (gd c true (some (a,e)) e) fun f g=>ob (gd c true (pure1 g (nilCk f)) g) fun i l=>ob (gd c true (pure1 l (fldA 2 i)) l) fun m n=>ob (gd c true (pure1 n (ld1 n m)) n) fun o p=>ob (gd c true (pure1 p (lenS o)) p) fun q r=>ob (gd c true (pure1 r (binV .lss .scalar d q)) r) fun s t=>oa (pickV c s (.bool false)) fun u=>some (u,t):=runEq (by kernel_rfl)
def b4U:Res:=[]
noncomputable def a5T:MFn:=⟨26,b4U,.regionD 26 [dM 0 26 0,dM 1 27 0,dM 2 28 0,tD 3 29 (.nilCheck (tT 28)),dF 4 30 0 29,dL 5 31 30,dM 6 32 1,tD 7 33 (.buildSlice 1 1 [.int .i64 0] [(0,1,(tT 32))]),dM 9 35 0,tD 10 36 (.nilCheck (tT 35)),dF 11 37 1 36,dL 12 38 37,dM 13 39 2,tD 14 40 (.buildSlice 1 1 [.int .i64 0] [(0,1,(tT 39))]),⟨8,tS 34 (.append 1 8 (tT 31) (tT 33)),[(38,tL 38 37)]⟩,tD 15 41 (.append 1 8 (tT 38) (tT 40)),tD 16 42 (.nilCheck (tT 26)),dF 17 43 0 42,tD 18 44 (.store 1 (tT 43) (tT 34)),tD 19 45 (.nilCheck (tT 27)),dF 20 46 1 45,tD 21 47 (.store 1 (tT 46) (tT 41))] [(6,26),(7,27),(8,28),(9,29),(10,30),(11,31),(12,32),(13,33),(14,34),(15,35),(16,36),(17,37),(18,38),(19,39),(20,40),(21,41),(22,42),(23,43),(24,45),(25,46)]⟩
theorem b4V (T:Tab)(k:Nat)(a b c:AV)(h:Heap):runF T k a5T [a,b,c] h =
 oa (nilCk a) fun d=>oa (fldA 0 d) fun e=>oa (ld1 h e) fun f=>ob (buildSl 1 1 [.int .i64 0] [(0,1,b)] h) fun g i=>oa (nilCk a) fun l=>oa (fldA 1 l) fun m=>oa (ld1 i m) fun n=>ob (buildSl 1 1 [.int .i64 0] [(0,1,c)] i) fun o p=>ob (apnd 1 8 f g p) fun q r=>chk ((sameB (pure1 r (ld1 r m)) n && true)) <|ob (apnd 1 8 n o r) fun s t=>oa (nilCk a) fun u=>oa (fldA 0 u) fun v=>oh (stN 1 t v q) fun w=>oa (nilCk a) fun x=>oa (fldA 1 x) fun y=>oh (stN 1 w y s) fun z=>some (.tup [],z):=runEq (by kernel_rfl)
def b2V:Res:=[(2,none)]
noncomputable def a2D:MFn:=⟨7,b2V,.seq [2] (.region [tS 2 (.mv (.const .nilifc))]) (.seq [0,3,4,5,6] (.region [tM 3 0,tN 4 3,tF 5 0 4,tS 6 (.mkIfc 218 (tT 5)),tM 2 6]) .ret)⟩
theorem b2W (T:Tab)(k:Nat)(a:AV)(h:Heap):runF T k a2D [a] h =
 oa (nilCk a) fun b=>oa (fldA 0 b) fun c=>some ((.ifc 218 c),h):=runEq (by kernel_rfl)
def b0P:Res:=[]
noncomputable def a0P:MFn:=⟨12,b0P,.seq [1,4,5,6] (.region [tM 4 0,tM 5 1,⟨some 6,.invoke "Push" (tT 4) [(tT 5)],none⟩]) (.region [tM 7 0,tM 8 0,⟨some 9,.invoke "Len" (tT 8) [],none⟩,tS 10 (.bin .sub .scalar (tT 9) (tK 1)),⟨some 11,.call g9_ [(tT 7),(tT 10)],none⟩])⟩
theorem b0Q (T:Tab)(k:Nat)(a b:AV)(h:Heap):runF T k a0P [a,b] h =
 ob (callMeth T (evalFn T k) "Push" a [b] h) fun c d=>ob (callMeth T (evalFn T k) "Len" a [] d) fun e f=>oa (binV .sub .scalar e (.int .i64 1)) fun g=>ob (evalFn T k g9_ [a,g] f) fun i l=>some (.tup [],l):=runEq (by kernel_rfl)
def b1A:Res:=[]
noncomputable def a1H:MFn:=⟨13,b1A,.seq [4,5,6,7,8] (.region [tM 4 0,tM 5 1,tM 6 0,⟨some 7,.invoke "Len" (tT 6) [],none⟩,⟨some 8,.call d3_ [(tT 4),(tT 5),(tT 7)],none⟩,tS 9 (.un .not (tT 8))]) (.cond (tT 9) (.region [tM 10 0,tM 11 1,⟨some 12,.call g9_ [(tT 10),(tT 11)],none⟩]) .skip)⟩
theorem b1B (T:Tab)(k:Nat)(a b:AV)(h:Heap):runF T k a1H [a,b] h =
 ob (callMeth T (evalFn T k) "Len" a [] h) fun c d=>ob (evalFn T k d3_ [a,b,c] d) fun e f=>oa (unV .not e) fun g=>cond2 g
 (
 ob (evalFn T k g9_ [a,b] f) fun i l=>some (.tup [],l)
 )
 (
 some (.tup [],f)
 ):=runEq (by kernel_rfl)
def b4q:Res:=[(2,none)]
noncomputable def a4F:MFn:=⟨13,b4q,.seq [0,2] (.region [tS 1 (.box (tT 0)),tS 2 (.mv (.const .nils))]) (.seq [4,5,6] (.region [tF 4 0 1,tL 5 4,tS 6 (.lenSl (tT 5)),tM 3 6]) (.seq [1,3,7,8,9,10,11,12] (.region [tF 7 0 1,tL 8 7,tM 9 3,tM 10 3,tS 11 (.sliceSl 1 (tT 8) none (some (tT 9)) (some (tT 10))),⟨some 12,.call i9_ [(tT 11)],none⟩,tM 2 12]) .ret))⟩
theorem b4r (T:Tab)(k:Nat)(a:AV)(h:Heap):runF T k a4F [a] h =
 ob (newVar h (AV.cells a)) fun b c=>oa (fldA 0 b) fun d=>oa (ld1 c d) fun e=>oa (lenS e) fun f=>oa (fldA 0 b) fun g=>oa (ld1 c g) fun i=>oa (slSl 1 i none (some f) (some f)) fun l=>ob (evalFn T k i9_ [l] c) fun m n=>some (m,n):=runEq (by kernel_rfl)
def b4W:Res:=[(6,some (some 2))]
noncomputable def a5U:MFn:=⟨16,b4W,.seq [] (.region [tS 6 (.alloc [.nils,.nils])]) (.seq [10] (.seq [0,7,8,9] (.region [tM 7 0,tM 8 2,⟨some 9,.call o4_ [(tT 7),(tT 8)],none⟩,tS 10 (.un .not (tT 9))]) (.cond (tT 10) (.seq [1,2,10,11] (.region [tS 11 (.build [.nils,.nils] []),tW 2 6 11]) .ret) .skip)) (.seq [1,2,12,13,14,15] (.region [tM 12 1,tM 13 2,tX 14 2 12 13,tA 15 2 14,tW 2 6 15]) .ret))⟩
theorem b4X (T:Tab)(k:Nat)(a b c:AV)(h:Heap):runF T k a5U [a,b,c] h =
 ob (newVar h [.nils,.nils]) fun d e=>ob (evalFn T k o4_ [a,c] e) fun f g=>oa (unV .not f) fun i=>cond2 i
 (
 oa (buildV [.nils,.nils] []) fun l=>oh (stN 2 g d l) fun m=>oa (ldN 2 m d) fun n=>some (n,m)
 )
 (
 oa (idxS 2 b c) fun o=>oa (ldN 2 g o) fun p=>oh (stN 2 g d p) fun q=>oa (ldN 2 q d) fun r=>some (r,q)
 ):=runEq (by kernel_rfl)
noncomputable def a1I:MCode:=.block 1 (.seq [9,10,11,12,13] (.region [tM 10 0,⟨some 11,.call a4_ [(tT 10)],none⟩,tM 9 11,tS 12 (.extract 0 (tT 9)),tS 13 (.extract 1 (tT 9)),tM 4 12,tM 5 13]) (.seq [23] (.seq [4,5,14,15,16,17,18,19,20,21,22] (.region [tM 14 5,tS 15 (.un .not (tT 14)),tM 16 15,⟨some 17,.op (.mv (tT 4)),some (16,false)⟩,⟨some 18,.op (.bin .eql .scalar (tT 17) (.const (.int .u8 124))),some (16,false)⟩,tS 19 (.pick (tT 16) (.const (.bool true)) (tT 18)),tM 20 19,⟨some 21,.op (.mv (tT 4)),some (20,false)⟩,⟨some 22,.op (.bin .eql .scalar (tT 21) (.const (.int .u8 41))),some (20,false)⟩,tS 23 (.pick (tT 20) (.const (.bool true)) (tT 22))]) (.cond (tT 23) (.exit 0) .skip)) (.region [tM 24 3,tM 25 0,⟨some 26,.call c1_ [(tT 25)],none⟩,tS 27 (.buildSlice 5 1 [.int .i64 0,.int .i64 0,.int .i64 0,.int .i64 0,.nils] [(0,5,(tT 26))]),tS 28 (.append 5 56 (tT 24) (tT 27)),tM 3 28])))
noncomputable def t7_:MCode:=.seq [31] (.seq [29,30] (.region [tM 29 3,tS 30 (.lenSl (tT 29)),tS 31 (.bin .eql .scalar (tT 30) (tK 1))]) (.cond (tT 31) (.seq [3,31,32,33,34] (.region [tM 32 3,tS 33 (.idxSl 5 (tT 32) (tK 0)),tA 34 5 33,tW 5 2 34]) .ret) .skip)) (.seq [3,35,36] (.region [tM 35 3,tS 36 (.build [.int .i64 0,.int .i64 0,.int .i64 0,.int .i64 0,.nils] [(0,1,(tK 4)),(4,1,(tT 35))]),tW 5 2 36]) .ret)
def t8_:Res:=[(2,some (some 5))]
noncomputable def t9_:MFn:=⟨37,t8_,.seq [] (.region [tS 2 (.alloc [.int .i64 0,.int .i64 0,.int .i64 0,.int .i64 0,.nils])]) (.seq [6,7,8] (.region [tM 6 0,⟨some 7,.call c1_ [(tT 6)],none⟩,tS 8 (.buildSlice 5 1 [.int .i64 0,.int .i64 0,.int .i64 0,.int .i64 0,.nils] [(0,5,(tT 7))]),tM 3 8]) (.seq [0,23] (.block 0 (.loop [24,25,26,27,28] a1I)) (.lab t7_)))⟩
noncomputable def j6_ (T:Tab)(k j0:Nat)(a b c:AV)(h:Heap):Option (AV × Heap):=
 loopB T k t8_ j0 [24,25,26,27,28] a1I [.blk 0,.seq [0,23] (.lab t7_)] [a,.u,b,c,.u,.u,.u,.u,.u,.u,.u,.u,.u,.u,.u,.u,.u,.u,.u,.u,.u,.u,.u,.u,.u,.u,.u,.u,.u,.u,.u,.u,.u,.u,.u,.u,.u] h
noncomputable def u0_ (T:Tab)(k:Nat)(a b:AV)(h:Heap):Option (AV × Heap):=
 evB T k t8_ t7_ [] [.u,.u,a,b,.u,.u,.u,.u,.u,.u,.u,.u,.u,.u,.u,.u,.u,.u,.u,.u,.u,.u,.u,.u,.u,.u,.u,.u,.u,.u,.u,.u,.u,.u,.u,.u,.u] h
theorem a5y (T:Tab)(k:Nat)(a b:AV)(h:Heap):u0_ T k a b h =
 oa (lenS b) fun c=>oa (binV .eql .scalar c (.int .i64 1)) fun d=>cond2 d
 (
 oa (idxS 5 b (.int .i64 0)) fun e=>oa (ldN 5 h e) fun f=>oh (stN 5 h a f) fun g=>oa (ldN 5 g a) fun i=>some (i,g)
 )
 (
 oa (buildV [.int .i64 0,.int .i64 0,.int .i64 0,.int .i64 0,.nils] [(0,1,(.int .i64 4)),(4,1,b)]) fun l=>oh (stN 5 h a l) fun m=>oa (ldN 5 m a) fun n=>some (n,m)
 ):=blockEq (by kernel_rfl)
theorem a5z (T:Tab)(k j0:Nat)(a b c:AV)(h:Heap):j6_ T k (j0+1) a b c h =
 ob (evalFn T k a4_ [a] h) fun d e=>oa (extr 0 d) fun f=>oa (extr 1 d) fun g=>oa (unV .not g) fun i=>ob (gd i false (some (f,e)) e) fun l m=>ob (gd i false (pure1 m (binV .eql .scalar l (.int .u8 124))) m) fun n o=>oa (pickV i (.bool true) n) fun p=>ob (gd p false (some (f,o)) o) fun q r=>ob (gd p false (pure1 r (binV .eql .scalar q (.int .u8 41))) r) fun s t=>oa (pickV p (.bool true) s) fun u=>cond2 u
 (
 u0_ T k b c t
 )
 (
 ob (evalFn T k c1_ [a] t) fun v w=>ob (buildSl 5 1 [.int .i64 0,.int .i64 0,.int .i64 0,.int .i64 0,.nils] [(0,5,v)] w) fun x y=>ob (apnd 5 56 c x y) fun z aa=>j6_ T k j0 a b z aa
 ):=loopEq (by kernel_rfl)
theorem a7k (T:Tab)(k:Nat)(a:AV)(h:Heap):runF T k t9_ [a] h =
 ob (newVar h [.int .i64 0,.int .i64 0,.int .i64 0,.int .i64 0,.nils]) fun b c=>ob (evalFn T k c1_ [a] c) fun d e=>ob (buildSl 5 1 [.int .i64 0,.int .i64 0,.int .i64 0,.int .i64 0,.nils] [(0,5,d)] e) fun f g=>j6_ T k k a b f g:=runEq (by kernel_rfl)
def a7l:Res:=[(2,none),(3,none)]
noncomputable def u1_:MFn:=⟨30,a7l,.seq [2,3] (.region [tS 2 (.mv (.const (.int .u8 0))),tS 3 (.mv (.const (.bool false)))]) (.seq [20] (.seq [4,5,6,7,8,9,10,11,12,13,14,15,16,17,18,19] (.regionD 30 [dM 0 30 0,tD 1 31 (.nilCheck (tT 30)),dF 2 32 1 31,dL 3 33 32,dM 4 34 0,tD 5 35 (.nilCheck (tT 34)),dF 6 36 0 35,dL 7 37 36,tD 8 38 (.lenStr (tT 37)),tD 9 39 (.bin .geq .scalar (tT 33) (tT 38)),dM 10 40 39,⟨11,⟨some 41,.op (.mv (tT 0)),some (40,false)⟩,[]⟩,⟨12,⟨some 42,.op (.nilCheck (tT 41)),some (40,false)⟩,[]⟩,⟨13,⟨some 43,.op (.fieldAddr 3 (tT 42)),some (40,false)⟩,[]⟩,⟨14,⟨some 44,.op (.load none (tT 43)),some (40,false)⟩,[]⟩,⟨15,⟨some 45,.op (.bin .neq .scalar (tT 44) (tK 0)),some (40,false)⟩,[]⟩,tD 16 46 (.pick (tT 40) (.const (.bool true)) (tT 45))] [(4,30),(5,31),(6,32),(7,33),(8,34),(9,35),(10,36),(11,37),(12,38),(13,39),(14,40),(15,41),(16,42),(17,43),(18,44),(19,45),(20,46)]) (.cond (tT 20) (.seq [0,20] (.region [tS 2 (.mv (.const (.int .u8 0))),tS 3 (.mv (.const (.bool false)))]) .ret) .skip)) (.seq [0,21,22,23,24,25,26,27,28,29] (.regionD 30 [dM 0 30 0,tD 1 31 (.nilCheck (tT 30)),dF 2 32 0 31,dL 3 33 32,dM 4 34 0,tD 5 35 (.nilCheck (tT 34)),dF 6 36 1 35,dL 7 37 36,tD 8 38 (.ixStr (tT 33) (tT 37)),dM 9 39 38,tD 10 40 (.mv (.const (.bool true)))] [(21,30),(22,31),(23,32),(24,33),(25,34),(26,35),(27,36),(28,37),(29,38),(2,39),(3,40)]) .ret))⟩
theorem a1J (T:Tab)(k:Nat)(a:AV)(h:Heap):runF T k u1_ [a] h =
 oa (nilCk a) fun b=>oa (fldA 1 b) fun c=>oa (ld1 h c) fun d=>oa (nilCk a) fun e=>oa (fldA 0 e) fun f=>oa (ld1 h f) fun g=>oa (lenB g) fun i=>oa (binV .geq .scalar d i) fun l=>ob (gd l false (some (a,h)) h) fun m n=>ob (gd l false (pure1 n (nilCk m)) n) fun o p=>ob (gd l false (pure1 p (fldA 3 o)) p) fun q r=>ob (gd l false (pure1 r (ld1 r q)) r) fun s t=>ob (gd l false (pure1 t (binV .neq .scalar s (.int .i64 0))) t) fun u v=>oa (pickV l (.bool true) u) fun w=>cond2 w
 (
 some (.tup [(.int .u8 0),(.bool false)],v)
 )
 (
 oa (nilCk a) fun x=>oa (fldA 0 x) fun y=>oa (ld1 v y) fun z=>oa (nilCk a) fun aa=>oa (fldA 1 aa) fun ab=>oa (ld1 v ab) fun ac=>oa (ixS z ac) fun ad=>some (.tup [ad,(.bool true)],v)
 ):=runEq (by kernel_rfl)
noncomputable def a1c:MCode:=.seq [23] (.seq [12,13,14,15,16,17,18,19,20,21,22] (.region [tM 12 8,tF 13 4 3,tL 14 13,tS 15 (.lenSl (tT 14)),tS 16 (.bin .lss .scalar (tT 12) (tT 15)),tM 17 16,⟨some 18,.op (.mv (tT 0)),some (17,true)⟩,⟨some 19,.op (.nilCheck (tT 18)),some (17,true)⟩,⟨some 20,.op (.fieldAddr 5 (tT 19)),some (17,true)⟩,⟨some 21,.op (.load none (tT 20)),some (17,true)⟩,⟨some 22,.op (.un .not (tT 21)),some (17,true)⟩,tS 23 (.pick (tT 17) (tT 22) (.const (.bool false)))]) (.cond (tT 23) .skip (.exit 0))) (.seq [9,10,36,37,38,39,40,41,42,43] (.block 1 (.seq [26,27,28,29,30,31,32,33,34,35] (.region [tM 27 0,tF 28 4 3,tL 29 28,tM 30 8,tX 31 5 29 30,tA 32 5 31,⟨some 33,.call b3_ [(tT 27),(tT 32)],none⟩,tM 26 33,tS 34 (.extract 0 (tT 26)),tS 35 (.extract 1 (tT 26)),tM 9 34,tM 10 35]) (.region [tM 36 6,tM 37 9,tS 38 (.buildSlice 1 1 [.int .i64 0] [(0,1,(tT 37))]),tS 39 (.append 1 8 (tT 36) (tT 38)),tM 40 7,tM 41 10,tS 42 (.buildSlice 1 1 [.int .i64 0] [(0,1,(tT 41))]),tS 43 (.append 1 8 (tT 40) (tT 42)),tM 6 39,tM 7 43]))) (.region [tM 24 8,tS 25 (.bin .add .scalar (tT 24) (tK 1)),tM 8 25]))
noncomputable def a1d:MCode:=.seq [52] (.seq [48,49,50,51] (.region [tM 48 11,tS 49 (.bin .add .scalar (tT 48) (tK 1)),tM 50 6,tS 51 (.lenSl (tT 50)),tS 52 (.bin .lss .scalar (tT 49) (tT 51))]) (.cond (tT 52) .skip (.exit 2))) (.seq [55,56,57,58,59,60,61,62,63,64,65] (.block 3 (.regionD 75 [dM 0 75 0,dM 1 76 7,dM 2 77 11,tD 3 78 (.idxSl 1 (tT 76) (tT 77)),dL 4 79 78,dM 5 80 6,dM 6 81 11,tD 7 82 (.bin .add .scalar (tT 81) (tK 1)),tD 8 83 (.idxSl 1 (tT 80) (tT 82)),dL 9 84 83,⟨10,⟨some 85,.call a0_ [(tT 75),(tT 79),(tT 84)],none⟩,[]⟩] [(55,75),(56,76),(57,77),(58,78),(59,79),(60,80),(61,81),(62,82),(63,83),(64,84),(65,85)])) (.region [tM 53 11,tS 54 (.bin .add .scalar (tT 53) (tK 1)),tM 11 54]))
noncomputable def q2_:MCode:=.seq [6,7,66,67,68,69,70,71,72,73,74] (.regionD 75 [dM 0 75 6,tD 1 76 (.idxSl 1 (tT 75) (tK 0)),dL 2 77 76,dM 3 78 7,dM 4 79 7,tD 5 80 (.lenSl (tT 79)),tD 6 81 (.bin .sub .scalar (tT 80) (tK 1)),tD 7 82 (.idxSl 1 (tT 78) (tT 81)),dL 8 83 82,dM 9 84 77,dM 10 85 83] [(66,75),(67,76),(68,77),(69,78),(70,79),(71,80),(72,81),(73,82),(74,83),(4,84),(5,85)]) .ret
noncomputable def q3_:MCode:=.seq [47] (.seq [44,45,46] (.region [tM 44 0,tN 45 44,tF 46 5 45,tL 47 46]) (.cond (tT 47) (.seq [0,6,7,47] (.region [tS 4 (.mv (tK 0)),tS 5 (.mv (tK 0))]) .ret) .skip)) (.seq [0,11,52] (.seq [] (.region [tS 11 (.mv (tK 0))]) (.block 2 (.loop [53,54] a1d))) (.lab q2_))
def e9_:Res:=[(4,none),(5,none)]
noncomputable def q4_:MFn:=⟨75,e9_,.seq [1,4,5] (.region [tS 3 (.box (tT 1)),tS 4 (.mv (tK 0)),tS 5 (.mv (tK 0))]) (.seq [] (.region [tS 6 (.mv (.const .nils)),tS 7 (.mv (.const .nils))]) (.seq [3,8,23] (.seq [] (.region [tS 8 (.mv (tK 0))]) (.block 0 (.loop [24,25] a1c))) (.lab q3_)))⟩
noncomputable def i4_ (T:Tab)(k j0:Nat)(a b c d e:AV)(h:Heap):Option (AV × Heap):=
 loopB T k e9_ j0 [24,25] a1c [.blk 0,.seq [3,8,23] (.lab q3_)] [a,.u,.u,b,.u,.u,c,d,e,.u,.u,.u,.u,.u,.u,.u,.u,.u,.u,.u,.u,.u,.u,.u,.u,.u,.u,.u,.u,.u,.u,.u,.u,.u,.u,.u,.u,.u,.u,.u,.u,.u,.u,.u,.u,.u,.u,.u,.u,.u,.u,.u,.u,.u,.u,.u,.u,.u,.u,.u,.u,.u,.u,.u,.u,.u,.u,.u,.u,.u,.u,.u,.u,.u,.u] h
noncomputable def q5_ (T:Tab)(k:Nat)(a b c:AV)(h:Heap):Option (AV × Heap):=
 evB T k e9_ q3_ [] [a,.u,.u,.u,.u,.u,b,c,.u,.u,.u,.u,.u,.u,.u,.u,.u,.u,.u,.u,.u,.u,.u,.u,.u,.u,.u,.u,.u,.u,.u,.u,.u,.u,.u,.u,.u,.u,.u,.u,.u,.u,.u,.u,.u,.u,.u,.u,.u,.u,.u,.u,.u,.u,.u,.u,.u,.u,.u,.u,.u,.u,.u,.u,.u,.u,.u,.u,.u,.u,.u,.u,.u,.u,.u] h
noncomputable def i5_ (T:Tab)(k j0:Nat)(a b c d:AV)(h:Heap):Option (AV × Heap):=
 loopB T k e9_ j0 [53,54] a1d [.blk 2,.seq [0,11,52] (.lab q2_)] [a,.u,.u,.u,.u,.u,b,c,.u,.u,.u,d,.u,.u,.u,.u,.u,.u,.u,.u,.u,.u,.u,.u,.u,.u,.u,.u,.u,.u,.u,.u,.u,.u,.u,.u,.u,.u,.u,.u,.u,.u,.u,.u,.u,.u,.u,.u,.u,.u,.u,.u,.u,.u,.u,.u,.u,.u,.u,.u,.u,.u,.u,.u,.u,.u,.u,.u,.u,.u,.u,.u,.u,.u,.u] h
noncomputable def a1e (T:Tab)(k:Nat)(a b:AV)(h:Heap):Option (AV × Heap):=
 evB T k e9_ q2_ [] [.u,.u,.u,.u,.u,.u,a,b,.u,.u,.u,.u,.u,.u,.u,.u,.u,.u,.u,.u,.u,.u,.u,.u,.u,.u,.u,.u,.u,.u,.u,.u,.u,.u,.u,.u,.u,.u,.u,.u,.u,.u,.u,.u,.u,.u,.u,.u,.u,.u,.u,.u,.u,.u,.u,.u,.u,.u,.u,.u,.u,.u,.u,.u,.u,.u,.u,.u,.u,.u,.u,.u,.u,.u,.u] h
theorem a4G (T:Tab)(k:Nat)(a b:AV)(h:Heap):a1e T k a b h =
 oa (idxS 1 a (.int .i64 0)) fun c=>oa (ld1 h c) fun d=>oa (lenS b) fun e=>oa (binV .sub .scalar e (.int .i64 1)) fun f=>oa (idxS 1 b f) fun g=>oa (ld1 h g) fun i=>some (.tup [d,i],h):=blockEq (by kernel_rfl)
theorem z0_ (T:Tab)(k j0:Nat)(a b c d:AV)(h:Heap):i5_ T k (j0+1) a b c d h =
 oa (binV .add .scalar d (.int .i64 1)) fun e=>oa (lenS b) fun f=>oa (binV .lss .scalar e f) fun g=>cond2 g
 (
 oa (idxS 1 c d) fun i=>oa (ld1 h i) fun l=>oa (binV .add .scalar d (.int .i64 1)) fun m=>oa (idxS 1 b m) fun n=>oa (ld1 h n) fun o=>ob (evalFn T k a0_ [a,l,o] h) fun p q=>oa (binV .add .scalar d (.int .i64 1)) fun r=>i5_ T k j0 a b c r q
 )
 (
 a1e T k b c h
 ):=loopEq (by kernel_rfl)
theorem a4H (T:Tab)(k:Nat)(a b c:AV)(h:Heap):q5_ T k a b c h =
 oa (nilCk a) fun d=>oa (fldA 5 d) fun e=>oa (ld1 h e) fun f=>cond2 f
 (
 some (.tup [(.int .i64 0),(.int .i64 0)],h)
 )
 (
 i5_ T k k a b c (.int .i64 0) h
 ):=blockEq (by kernel_rfl)
theorem z1_ (T:Tab)(k j0:Nat)(a b c d e:AV)(h:Heap):i4_ T k (j0+1) a b c d e h =
 oa (fldA 4 b) fun f=>oa (ld1 h f) fun g=>oa (lenS g) fun i=>oa (binV .lss .scalar e i) fun l=>ob (gd l true (some (a,h)) h) fun m n=>ob (gd l true (pure1 n (nilCk m)) n) fun o p=>ob (gd l true (pure1 p (fldA 5 o)) p) fun q r=>ob (gd l true (pure1 r (ld1 r q)) r) fun s t=>ob (gd l true (pure1 t (unV .not s)) t) fun u v=>oa (pickV l u (.bool false)) fun w=>cond2 w
 (
 oa (fldA 4 b) fun x=>oa (ld1 v x) fun y=>oa (idxS 5 y e) fun z=>oa (ldN 5 v z) fun aa=>ob (evalFn T k b3_ [a,aa] v) fun ab ac=>oa (extr 0 ab) fun ad=>oa (extr 1 ab) fun ae=>ob (buildSl 1 1 [.int .i64 0] [(0,1,ad)] ac) fun af ag=>ob (apnd 1 8 c af ag) fun ai al=>ob (buildSl 1 1 [.int .i64 0] [(0,1,ae)] al) fun am an=>ob (apnd 1 8 d am an) fun ao ap=>oa (binV .add .scalar e (.int .i64 1)) fun aq=>i4_ T k j0 a b ai ao aq ap
 )
 (
 q5_ T k a c d v
 ):=loopEq (by kernel_rfl)
theorem a6D (T:Tab)(k:Nat)(a b:AV)(h:Heap):runF T k q4_ [a,b] h =
 ob (newVar h (AV.cells b)) fun c d=>i4_ T k k a c .nils .nils (.int .i64 0) d:=runEq (by kernel_rfl)
def a5V:Res:=[(2,none)]
noncomputable def p2_:MFn:=⟨27,a5V,.seq [2] (.region [tS 2 (.mv (tK 0))]) (.seq [8] (.seq [3,4,5,6,7] (.region [tM 3 0,tN 4 3,tF 5 0 4,tF 6 0 5,tL 7 6,tS 8 (.bin .geq .scalar (tT 7) (tK 1000))]) (.cond (tT 8) (.seq [0,8,9,10,11] (.region [tM 9 0,tN 10 9,tF 11 5 10,⟨none,.op (.store 1 (tT 11) (.const (.bool true))),none⟩]) (.seq [] (.region [tS 2 (.mv (tK 0))]) .ret)) .skip)) (.seq [12,13,14,15,16,17,18,19,20] (.region [tM 12 0,tN 13 12,tF 14 0 13,tF 15 0 14,tL 16 15,tS 17 (.bin .add .scalar (tT 16) (tK 1)),tN 18 12,tF 19 0 18,tF 20 0 19,tW 1 20 17]) (.seq [0,21,22,23,24,25,26] (.region [tM 21 0,tN 22 21,tF 23 0 22,tF 24 0 23,tL 25 24,tS 26 (.bin .sub .scalar (tT 25) (tK 1)),tM 2 26]) .ret)))⟩
theorem a5W (T:Tab)(k:Nat)(a:AV)(h:Heap):runF T k p2_ [a] h =
 oa (nilCk a) fun b=>oa (fldA 0 b) fun c=>oa (fldA 0 c) fun d=>oa (ld1 h d) fun e=>oa (binV .geq .scalar e (.int .i64 1000)) fun f=>cond2 f
 (
 oa (nilCk a) fun g=>oa (fldA 5 g) fun i=>oh (stN 1 h i (.bool true)) fun l=>some ((.int .i64 0),l)
 )
 (
 oa (nilCk a) fun m=>oa (fldA 0 m) fun n=>oa (fldA 0 n) fun o=>oa (ld1 h o) fun p=>oa (binV .add .scalar p (.int .i64 1)) fun q=>oa (nilCk a) fun r=>oa (fldA 0 r) fun s=>oa (fldA 0 s) fun t=>oh (stN 1 h t q) fun u=>oa (nilCk a) fun v=>oa (fldA 0 v) fun w=>oa (fldA 0 w) fun x=>oa (ld1 u x) fun y=>oa (binV .sub .scalar y (.int .i64 1)) fun z=>some (z,u)
 ):=runEq (by kernel_rfl)
noncomputable def a1f:MCode:=.seq [44] (.seq [41,42,43] (.region [tM 41 12,tM 42 4,tS 43 (.lenSl (tT 42)),tS 44 (.bin .lss .scalar (tT 41) (tT 43))]) (.cond (tT 44) .skip (.exit 1))) (.seq [54,55,56,57,58,59,60] (.block 2 (.seq [47,48,49,50,51,52,53] (.region [tM 47 0,tM 48 2,tM 49 4,tM 50 12,tX 51 1 49 50,tL 52 51,⟨some 53,.call a0_ [(tT 47),(tT 48),(tT 52)],none⟩]) (.region [tM 54 0,tM 55 5,tM 56 12,tX 57 1 55 56,tL 58 57,tM 59 3,⟨some 60,.call a0_ [(tT 54),(tT 58),(tT 59)],none⟩]))) (.region [tM 45 12,tS 46 (.bin .add .scalar (tT 45) (tK 1)),tM 12 46]))
def a1g:Res:=[]
noncomputable def q6_:MFn:=⟨136,a1g,.seq [1] (.region [tS 7 (.box (tT 1))]) (.seq [13] (.region [tF 13 0 7,tL 14 13]) (.block 0 (.seq [16] (.region [tS 16 (.bin .eql .scalar (tT 14) (tK 1)),tM 15 16]) (.cond (tT 15) (.regionD 136 [dM 0 136 0,dM 1 137 0,tD 2 138 (.nilCheck (tT 137)),dF 3 139 0 138,dF 4 140 3 139,dL 5 141 140,dM 6 142 2,dM 7 143 3,dF 8 144 1 7,dL 9 145 144,tD 10 146 (.build [.int .i64 0,.int .i64 0,.int .i64 0] [(0,1,(tT 142)),(1,1,(tT 143)),(2,1,(tT 145))]),tD 11 147 (.buildSlice 3 1 [.int .i64 0,.int .i64 0,.int .i64 0] [(0,3,(tT 146))]),tD 12 148 (.append 3 24 (tT 141) (tT 147)),tD 13 149 (.nilCheck (tT 136)),dF 14 150 0 149,dF 15 151 3 150,tD 16 152 (.store 1 (tT 151) (tT 148))] [(17,136),(18,137),(19,138),(20,139),(21,140),(22,141),(23,142),(24,143),(25,144),(26,145),(27,146),(28,147),(29,148),(30,149),(31,150),(32,151)]) (.seq [15,34] (.region [tS 34 (.bin .eql .scalar (tT 14) (tK 3)),tM 33 34]) (.cond (tT 33) (.region [tM 35 0,tM 36 2,tM 37 3,⟨some 38,.call a0_ [(tT 35),(tT 36),(tT 37)],none⟩]) (.seq [33,40] (.region [tS 40 (.bin .eql .scalar (tT 14) (tK 5)),tM 39 40]) (.cond (tT 39) (.seq [7,14,39] (.region [tS 12 (.mv (tK 0))]) (.block 1 (.loop [45,46] a1f))) (.seq [39,62] (.region [tS 62 (.bin .eql .scalar (tT 14) (tK 6)),tM 61 62]) (.cond (tT 61) (.seq [7,14,61,63,64,65,66,67,68] (.region [tM 63 0,tM 64 2,tM 65 4,tS 66 (.idxSl 1 (tT 65) (tK 0)),tL 67 66,⟨some 68,.call a0_ [(tT 63),(tT 64),(tT 67)],none⟩]) (.seq [2,69,70,71,72] (.region [tM 69 0,tM 70 2,tM 71 3,⟨some 72,.call a0_ [(tT 69),(tT 70),(tT 71)],none⟩]) (.seq [4,73,74,75,76,77,78,79,80] (.regionD 136 [dM 0 136 0,dM 1 137 5,tD 2 138 (.idxSl 1 (tT 137) (tK 0)),dL 3 139 138,dM 4 140 4,tD 5 141 (.idxSl 1 (tT 140) (tK 0)),dL 6 142 141,⟨7,⟨some 143,.call a0_ [(tT 136),(tT 139),(tT 142)],none⟩,[]⟩] [(73,136),(74,137),(75,138),(76,139),(77,140),(78,141),(79,142),(80,143)]) (.region [tM 81 0,tM 82 5,tS 83 (.idxSl 1 (tT 82) (tK 0)),tL 84 83,tM 85 3,⟨some 86,.call a0_ [(tT 81),(tT 84),(tT 85)],none⟩])))) (.seq [61,88] (.region [tS 88 (.bin .eql .scalar (tT 14) (tK 7)),tM 87 88]) (.cond (tT 87) (.seq [2,7,14,87,89,90,91,92,93,94] (.region [tM 89 0,tM 90 2,tM 91 4,tS 92 (.idxSl 1 (tT 91) (tK 0)),tL 93 92,⟨some 94,.call a0_ [(tT 89),(tT 90),(tT 93)],none⟩]) (.seq [4,95,96,97,98,99,100,101,102] (.regionD 136 [dM 0 136 0,dM 1 137 5,tD 2 138 (.idxSl 1 (tT 137) (tK 0)),dL 3 139 138,dM 4 140 4,tD 5 141 (.idxSl 1 (tT 140) (tK 0)),dL 6 142 141,⟨7,⟨some 143,.call a0_ [(tT 136),(tT 139),(tT 142)],none⟩,[]⟩] [(95,136),(96,137),(97,138),(98,139),(99,140),(100,141),(101,142),(102,143)]) (.region [tM 103 0,tM 104 5,tS 105 (.idxSl 1 (tT 104) (tK 0)),tL 106 105,tM 107 3,⟨some 108,.call a0_ [(tT 103),(tT 106),(tT 107)],none⟩]))) (.seq [87,110] (.region [tS 110 (.bin .eql .scalar (tT 14) (tK 8)),tM 109 110]) (.cond (tT 109) (.seq [4,7,14,109,111,112,113,114,115,116] (.region [tM 111 0,tM 112 2,tM 113 4,tS 114 (.idxSl 1 (tT 113) (tK 0)),tL 115 114,⟨some 116,.call a0_ [(tT 111),(tT 112),(tT 115)],none⟩]) (.seq [2,117,118,119,120] (.region [tM 117 0,tM 118 2,tM 119 3,⟨some 120,.call a0_ [(tT 117),(tT 118),(tT 119)],none⟩]) (.region [tM 121 0,tM 122 5,tS 123 (.idxSl 1 (tT 122) (tK 0)),tL 124 123,tM 125 3,⟨some 126,.call a0_ [(tT 121),(tT 124),(tT 125)],none⟩]))) (.seq [14,109,128] (.region [tS 128 (.bin .eql .scalar (tT 14) (tK 9)),tM 127 128]) (.cond (tT 127) (.region [tM 129 0,tA 130 5 7,tM 131 2,tM 132 3,tM 133 4,tM 134 5,⟨some 135,.call e1_ [(tT 129),(tT 130),(tT 131),(tT 132),(tT 133),(tT 134)],none⟩]) .skip))))))))))))))))⟩
noncomputable def i6_ (T:Tab)(k j0:Nat)(a b c d e f:AV)(h:Heap):Option (AV × Heap):=
 loopB T k a1g j0 [45,46] a1f [.blk 1,.blk 0] [a,.u,b,c,d,e,.u,.u,.u,.u,.u,.u,f,.u,.u,.u,.u,.u,.u,.u,.u,.u,.u,.u,.u,.u,.u,.u,.u,.u,.u,.u,.u,.u,.u,.u,.u,.u,.u,.u,.u,.u,.u,.u,.u,.u,.u,.u,.u,.u,.u,.u,.u,.u,.u,.u,.u,.u,.u,.u,.u,.u,.u,.u,.u,.u,.u,.u,.u,.u,.u,.u,.u,.u,.u,.u,.u,.u,.u,.u,.u,.u,.u,.u,.u,.u,.u,.u,.u,.u,.u,.u,.u,.u,.u,.u,.u,.u,.u,.u,.u,.u,.u,.u,.u,.u,.u,.u,.u,.u,.u,.u,.u,.u,.u,.u,.u,.u,.u,.u,.u,.u,.u,.u,.u,.u,.u,.u,.u,.u,.u,.u,.u,.u,.u,.u] h
theorem z2_ (T:Tab)(k j0:Nat)(a b c d e f:AV)(h:Heap):i6_ T k (j0+1) a b c d e f h =
 oa (lenS d) fun g=>oa (binV .lss .scalar f g) fun i=>cond2 i
 (
 oa (idxS 1 d f) fun l=>oa (ld1 h l) fun m=>ob (evalFn T k a0_ [a,b,m] h) fun n o=>oa (idxS 1 e f) fun p=>oa (ld1 o p) fun q=>ob (evalFn T k a0_ [a,q,c] o) fun r s=>oa (binV .add .scalar f (.int .i64 1)) fun t=>i6_ T k j0 a b c d e t s
 )
 (
 some (.tup [],h)
 ):=loopEq (by kernel_rfl)
theorem a6E (T:Tab)(k:Nat)(a b c d e f:AV)(h:Heap):runF T k q6_ [a,b,c,d,e,f] h =
 ob (newVar h (AV.cells b)) fun g i=>oa (fldA 0 g) fun l=>oa (ld1 i l) fun m=>oa (binV .eql .scalar m (.int .i64 1)) fun n=>cond2 n
 (
 oa (nilCk a) fun o=>oa (fldA 0 o) fun p=>oa (fldA 3 p) fun q=>oa (ld1 i q) fun r=>oa (fldA 1 g) fun s=>oa (ld1 i s) fun t=>oa (buildV [.int .i64 0,.int .i64 0,.int .i64 0] [(0,1,c),(1,1,d),(2,1,t)]) fun u=>ob (buildSl 3 1 [.int .i64 0,.int .i64 0,.int .i64 0] [(0,3,u)] i) fun v w=>ob (apnd 3 24 r v w) fun x y=>oa (nilCk a) fun z=>oa (fldA 0 z) fun aa=>oa (fldA 3 aa) fun ab=>oh (stN 1 y ab x) fun ac=>some (.tup [],ac)
 )
 (
 oa (binV .eql .scalar m (.int .i64 3)) fun ad=>cond2 ad
 (
 ob (evalFn T k a0_ [a,c,d] i) fun ae af=>some (.tup [],af)
 )
 (
 oa (binV .eql .scalar m (.int .i64 5)) fun ag=>cond2 ag
 (
 i6_ T k k a c d e f (.int .i64 0) i
 )
 (
 oa (binV .eql .scalar m (.int .i64 6)) fun ai=>cond2 ai
 (
 oa (idxS 1 e (.int .i64 0)) fun al=>oa (ld1 i al) fun am=>ob (evalFn T k a0_ [a,c,am] i) fun an ao=>ob (evalFn T k a0_ [a,c,d] ao) fun ap aq=>oa (idxS 1 f (.int .i64 0)) fun ar=>oa (ld1 aq ar) fun as=>oa (idxS 1 e (.int .i64 0)) fun au=>oa (ld1 aq au) fun av=>ob (evalFn T k a0_ [a,as,av] aq) fun aw ax=>oa (idxS 1 f (.int .i64 0)) fun ay=>oa (ld1 ax ay) fun az=>ob (evalFn T k a0_ [a,az,d] ax) fun a0 a1=>some (.tup [],a1)
 )
 (
 oa (binV .eql .scalar m (.int .i64 7)) fun a2=>cond2 a2
 (
 oa (idxS 1 e (.int .i64 0)) fun a3=>oa (ld1 i a3) fun a4=>ob (evalFn T k a0_ [a,c,a4] i) fun a5 a6=>oa (idxS 1 f (.int .i64 0)) fun a7=>oa (ld1 a6 a7) fun a8=>oa (idxS 1 e (.int .i64 0)) fun a9=>oa (ld1 a6 a9) fun ba=>ob (evalFn T k a0_ [a,a8,ba] a6) fun bb bc=>oa (idxS 1 f (.int .i64 0)) fun bd=>oa (ld1 bc bd) fun be=>ob (evalFn T k a0_ [a,be,d] bc) fun bf bg=>some (.tup [],bg)
 )
 (
 oa (binV .eql .scalar m (.int .i64 8)) fun bi=>cond2 bi
 (
 oa (idxS 1 e (.int .i64 0)) fun bl=>oa (ld1 i bl) fun bm=>ob (evalFn T k a0_ [a,c,bm] i) fun bn bo=>ob (evalFn T k a0_ [a,c,d] bo) fun bp bq=>oa (idxS 1 f (.int .i64 0)) fun br=>oa (ld1 bq br) fun bs=>ob (evalFn T k a0_ [a,bs,d] bq) fun bt bu=>some (.tup [],bu)
 )
 (
 oa (binV .eql .scalar m (.int .i64 9)) fun bv=>cond2 bv
 (
 oa (ldN 5 i g) fun bw=>ob (evalFn T k e1_ [a,bw,c,d,e,f] i) fun bx bz=>some (.tup [],bz)
 )
 (
 some (.tup [],i)
 )
 )
 )
 )
 )
 )
 ):=runEq (by kernel_rfl)
noncomputable def a3K:MCode:=.seq [20] (.seq [17,18,19] (.region [tM 17 7,tM 18 5,tS 19 (.lenSl (tT 18)),tS 20 (.bin .lss .scalar (tT 17) (tT 19))]) (.cond (tT 20) .skip (.exit 0))) (.seq [26,27,28,29,30] (.block 1 (.seq [23,24,25] (.region [tM 23 5,tM 24 7,tX 25 1 23 24,tL 26 25]) (.cond (tT 26) (.region [tM 27 6,tM 28 7,tS 29 (.buildSlice 1 1 [.int .i64 0] [(0,1,(tT 28))]),tS 30 (.append 1 8 (tT 27) (tT 29)),tM 6 30]) .skip))) (.region [tM 21 7,tS 22 (.bin .add .scalar (tT 21) (tK 1)),tM 7 22]))
noncomputable def a3L:MCode:=.seq [38] (.seq [34,35,36,37] (.region [tM 34 9,tF 35 4 2,tL 36 35,tS 37 (.lenSl (tT 36)),tS 38 (.bin .lss .scalar (tT 34) (tT 37))]) (.cond (tT 38) .skip (.exit 2))) (.seq [10,46,47,48,49,50,51,52,53,54,55,56,57,58] (.block 3 (.seq [41,42,43,44,45] (.region [tF 41 4 2,tL 42 41,tM 43 9,tX 44 2 42 43,tA 45 2 44,tS 10 (.alloc [.int .i64 0,.int .i64 0]),tW 2 10 45]) (.regionD 100 [dM 0 100 8,tD 1 101 (.idxArr 2 1 (tT 10) (tK 0)),dL 2 102 101,dM 3 103 8,tD 4 104 (.idxArr 2 1 (tT 10) (tK 0)),dL 5 105 104,tD 6 106 (.idxSl 1 (tT 103) (tT 105)),dL 7 107 106,tD 8 108 (.idxArr 2 1 (tT 10) (tK 1)),dL 9 109 108,tD 10 110 (.buildSlice 1 1 [.int .i64 0] [(0,1,(tT 109))]),⟨11,tS 111 (.append 1 8 (tT 107) (tT 110)),[(102,tL 102 101)]⟩,tD 12 112 (.idxSl 1 (tT 100) (tT 102)),tD 13 113 (.store 1 (tT 112) (tT 111))] [(46,100),(47,101),(48,102),(49,103),(50,104),(51,105),(52,106),(53,107),(54,108),(55,109),(56,110),(57,111),(58,112)]))) (.region [tM 39 9,tS 40 (.bin .add .scalar (tT 39) (tK 1)),tM 9 40]))
noncomputable def a3M:MCode:=.seq [74] (.seq [65,66,67,68,69,70,71,72,73] (.region [tM 65 12,tM 66 8,tM 67 6,tM 68 11,tX 69 1 67 68,tL 70 69,tX 71 1 66 70,tL 72 71,tS 73 (.lenSl (tT 72)),tS 74 (.bin .lss .scalar (tT 65) (tT 73))]) (.cond (tT 74) .skip (.exit 6))) (.seq [13,91,95,96,97,98] (.block 7 (.seq [77,78,79,80,81,82,83,84,85,86] (.region [tM 77 8,tM 78 6,tM 79 11,tX 80 1 78 79,tL 81 80,tX 82 1 77 81,tL 83 82,tM 84 12,tX 85 1 83 84,tL 86 85,tM 13 86]) (.seq [87,88,89,90] (.region [tM 87 5,tM 88 13,tX 89 1 87 88,tL 90 89,tS 91 (.un .not (tT 90))]) (.cond (tT 91) (.seq [91,92,93,94] (.region [tM 92 5,tM 93 13,tX 94 1 92 93,⟨none,.op (.store 1 (tT 94) (.const (.bool true))),none⟩]) (.region [tM 95 6,tM 96 13,tS 97 (.buildSlice 1 1 [.int .i64 0] [(0,1,(tT 96))]),tS 98 (.append 1 8 (tT 95) (tT 97)),tM 6 98])) .skip)))) (.region [tM 75 12,tS 76 (.bin .add .scalar (tT 75) (tK 1)),tM 12 76]))
noncomputable def a0n:MCode:=.region [tM 63 11,tS 64 (.bin .add .scalar (tT 63) (tK 1)),tM 11 64]
noncomputable def r9_:MCode:=.seq [62] (.seq [59,60,61] (.region [tM 59 11,tM 60 6,tS 61 (.lenSl (tT 60)),tS 62 (.bin .lss .scalar (tT 59) (tT 61))]) (.cond (tT 62) .skip (.exit 4))) (.seq [12,74] (.block 5 (.seq [] (.region [tS 12 (.mv (tK 0))]) (.block 6 (.loop [75,76] a3M)))) (.lab a0n))
noncomputable def a0o:MCode:=.seq [6,8,11,62] (.seq [] (.region [tS 11 (.mv (tK 0))]) (.block 4 (.loop [63,64] r9_))) (.seq [5,99] (.region [tM 99 5,tM 4 99]) .ret)
noncomputable def a0p:MCode:=.seq [31,32,33] (.region [tF 31 0 2,tL 32 31,tS 33 (.mkSlice [.nils] 1 24 (tT 32) (tT 32)),tM 8 33]) (.seq [2,9,38] (.seq [] (.region [tS 9 (.mv (tK 0))]) (.block 2 (.loop [39,40] a3L))) (.lab a0o))
def c4_:Res:=[(4,none)]
noncomputable def a0q:MFn:=⟨100,c4_,.seq [0,4] (.region [tS 2 (.box (tT 0)),tS 4 (.mv (.const .nils))]) (.seq [1,14,15,16] (.region [tS 14 (.buildSlice 1 0 [] []),tM 15 1,tS 16 (.append 1 1 (tT 14) (tT 15)),tM 5 16]) (.seq [] (.region [tS 6 (.mv (.const .nils))]) (.seq [7,20] (.seq [] (.region [tS 7 (.mv (tK 0))]) (.block 0 (.loop [21,22] a3K))) (.lab a0p))))⟩
noncomputable def k2_ (T:Tab)(k j0:Nat)(a b c d:AV)(h:Heap):Option (AV × Heap):=
 loopB T k c4_ j0 [21,22] a3K [.blk 0,.seq [7,20] (.lab a0p)] [.u,.u,a,.u,.u,b,c,d,.u,.u,.u,.u,.u,.u,.u,.u,.u,.u,.u,.u,.u,.u,.u,.u,.u,.u,.u,.u,.u,.u,.u,.u,.u,.u,.u,.u,.u,.u,.u,.u,.u,.u,.u,.u,.u,.u,.u,.u,.u,.u,.u,.u,.u,.u,.u,.u,.u,.u,.u,.u,.u,.u,.u,.u,.u,.u,.u,.u,.u,.u,.u,.u,.u,.u,.u,.u,.u,.u,.u,.u,.u,.u,.u,.u,.u,.u,.u,.u,.u,.u,.u,.u,.u,.u,.u,.u,.u,.u,.u,.u] h
noncomputable def a3N (T:Tab)(k:Nat)(a b c:AV)(h:Heap):Option (AV × Heap):=
 evB T k c4_ a0p [] [.u,.u,a,.u,.u,b,c,.u,.u,.u,.u,.u,.u,.u,.u,.u,.u,.u,.u,.u,.u,.u,.u,.u,.u,.u,.u,.u,.u,.u,.u,.u,.u,.u,.u,.u,.u,.u,.u,.u,.u,.u,.u,.u,.u,.u,.u,.u,.u,.u,.u,.u,.u,.u,.u,.u,.u,.u,.u,.u,.u,.u,.u,.u,.u,.u,.u,.u,.u,.u,.u,.u,.u,.u,.u,.u,.u,.u,.u,.u,.u,.u,.u,.u,.u,.u,.u,.u,.u,.u,.u,.u,.u,.u,.u,.u,.u,.u,.u,.u] h
noncomputable def s0_ (T:Tab)(k j0:Nat)(a b c d e:AV)(h:Heap):Option (AV × Heap):=
 loopB T k c4_ j0 [39,40] a3L [.blk 2,.seq [2,9,38] (.lab a0o)] [.u,.u,a,.u,.u,b,c,.u,d,e,.u,.u,.u,.u,.u,.u,.u,.u,.u,.u,.u,.u,.u,.u,.u,.u,.u,.u,.u,.u,.u,.u,.u,.u,.u,.u,.u,.u,.u,.u,.u,.u,.u,.u,.u,.u,.u,.u,.u,.u,.u,.u,.u,.u,.u,.u,.u,.u,.u,.u,.u,.u,.u,.u,.u,.u,.u,.u,.u,.u,.u,.u,.u,.u,.u,.u,.u,.u,.u,.u,.u,.u,.u,.u,.u,.u,.u,.u,.u,.u,.u,.u,.u,.u,.u,.u,.u,.u,.u,.u] h
noncomputable def a0r (T:Tab)(k:Nat)(a b c:AV)(h:Heap):Option (AV × Heap):=
 evB T k c4_ a0o [] [.u,.u,.u,.u,.u,a,b,.u,c,.u,.u,.u,.u,.u,.u,.u,.u,.u,.u,.u,.u,.u,.u,.u,.u,.u,.u,.u,.u,.u,.u,.u,.u,.u,.u,.u,.u,.u,.u,.u,.u,.u,.u,.u,.u,.u,.u,.u,.u,.u,.u,.u,.u,.u,.u,.u,.u,.u,.u,.u,.u,.u,.u,.u,.u,.u,.u,.u,.u,.u,.u,.u,.u,.u,.u,.u,.u,.u,.u,.u,.u,.u,.u,.u,.u,.u,.u,.u,.u,.u,.u,.u,.u,.u,.u,.u,.u,.u,.u,.u] h
noncomputable def s1_ (T:Tab)(k j0:Nat)(a b c d:AV)(h:Heap):Option (AV × Heap):=
 loopB T k c4_ j0 [63,64] r9_ [.blk 4,.seq [6,8,11,62] (.seq [5,99] (.region [⟨some 99,.op (.mv (.tmp 5)),none⟩,
 ⟨some 4,.op (.mv (.tmp 99)),none⟩]) .ret)] [.undef,.undef,.undef,.undef,.undef,a,b,.undef,c,.undef,.undef,d,.undef,.undef,.undef,.undef,.undef,.undef,.undef,.undef,.undef,.undef,.undef,.undef,.undef,.undef,.undef,.undef,.undef,.undef,.undef,.undef,.undef,.undef,.undef,.undef,.undef,.undef,.undef,.undef,.undef,.undef,.undef,.undef,.undef,.undef,.undef,.undef,.undef,.undef,.undef,.undef,.undef,.undef,.undef,.undef,.undef,.undef,.undef,.undef,.undef,.undef,.undef,.undef,.undef,.undef,.undef,.undef,.undef,.undef,.undef,.undef,.undef,.undef,.undef,.undef,.undef,.undef,.undef,.undef,.undef,.undef,.undef,.undef,.undef,.undef,.undef,.undef,.undef,.undef,.undef,.undef,.undef,.undef,.undef,.undef,.undef,.undef,.undef,.undef] h
noncomputable def k3_ (T:Tab)(k j0 j1:Nat)(a b c d e:AV)(h:Heap):Option (AV × Heap):=
 loopB T k c4_ j1 [75,76] a3M [.blk 6,.blk 5,.seq [12,74] (.lab a0n),.lp j0 [63,64] r9_,.blk 4,.seq [6,8,11,62] (.seq [5,99] (.region [⟨some 99,.op (.mv (.tmp 5)),none⟩,
 ⟨some 4,.op (.mv (.tmp 99)),none⟩]) .ret)] [.undef,.undef,.undef,.undef,.undef,a,b,.undef,c,.undef,.undef,d,e,.undef,.undef,.undef,.undef,.undef,.undef,.undef,.undef,.undef,.undef,.undef,.undef,.undef,.undef,.undef,.undef,.undef,.undef,.undef,.undef,.undef,.undef,.undef,.undef,.undef,.undef,.undef,.undef,.undef,.undef,.undef,.undef,.undef,.undef,.undef,.undef,.undef,.undef,.undef,.undef,.undef,.undef,.undef,.undef,.undef,.undef,.undef,.undef,.undef,.undef,.undef,.undef,.undef,.undef,.undef,.undef,.undef,.undef,.undef,.undef,.undef,.undef,.undef,.undef,.undef,.undef,.undef,.undef,.undef,.undef,.undef,.undef,.undef,.undef,.undef,.undef,.undef,.undef,.undef,.undef,.undef,.undef,.undef,.undef,.undef,.undef,.undef] h
noncomputable def a0s (T:Tab)(k j0:Nat)(a b c d:AV)(h:Heap):Option (AV × Heap):=
 evB T k c4_ a0n [.lp j0 [63,64] r9_,.blk 4,.seq [6,8,11,62] (.seq [5,99] (.region [⟨some 99,.op (.mv (.tmp 5)),none⟩,
 ⟨some 4,.op (.mv (.tmp 99)),none⟩]) .ret)] [.undef,.undef,.undef,.undef,.undef,a,b,.undef,c,.undef,.undef,d,.undef,.undef,.undef,.undef,.undef,.undef,.undef,.undef,.undef,.undef,.undef,.undef,.undef,.undef,.undef,.undef,.undef,.undef,.undef,.undef,.undef,.undef,.undef,.undef,.undef,.undef,.undef,.undef,.undef,.undef,.undef,.undef,.undef,.undef,.undef,.undef,.undef,.undef,.undef,.undef,.undef,.undef,.undef,.undef,.undef,.undef,.undef,.undef,.undef,.undef,.undef,.undef,.undef,.undef,.undef,.undef,.undef,.undef,.undef,.undef,.undef,.undef,.undef,.undef,.undef,.undef,.undef,.undef,.undef,.undef,.undef,.undef,.undef,.undef,.undef,.undef,.undef,.undef,.undef,.undef,.undef,.undef,.undef,.undef,.undef,.undef,.undef,.undef] h
theorem a8c (T:Tab)(k j0:Nat)(a b c d:AV)(h:Heap):a0s T k j0 a b c d h =
 oa (binV .add .scalar d (.int .i64 1)) fun e=>s1_ T k j0 a b c e h:=blockEq (by kernel_rfl)
theorem a2v (T:Tab)(k j0 j1:Nat)(a b c d e:AV)(h:Heap):k3_ T k j0 (j1+1) a b c d e h =
 oa (idxS 1 b d) fun f=>oa (ld1 h f) fun g=>oa (idxS 1 c g) fun i=>oa (ld1 h i) fun l=>oa (lenS l) fun m=>oa (binV .lss .scalar e m) fun n=>cond2 n
 (
 oa (idxS 1 b d) fun o=>oa (ld1 h o) fun p=>oa (idxS 1 c p) fun q=>oa (ld1 h q) fun r=>oa (idxS 1 r e) fun s=>oa (ld1 h s) fun t=>oa (idxS 1 a t) fun u=>oa (ld1 h u) fun v=>oa (unV .not v) fun w=>cond2 w
 (
 oa (idxS 1 a t) fun x=>oh (stN 1 h x (.bool true)) fun y=>ob (buildSl 1 1 [.int .i64 0] [(0,1,t)] y) fun z aa=>ob (apnd 1 8 b z aa) fun ab ac=>oa (binV .add .scalar e (.int .i64 1)) fun ad=>k3_ T k j0 j1 a ab c d ad ac
 )
 (
 oa (binV .add .scalar e (.int .i64 1)) fun ae=>k3_ T k j0 j1 a b c d ae h
 )
 )
 (
 a0s T k j0 a b c d h
 ):=loopEq (by kernel_rfl)
theorem a2w (T:Tab)(k j0:Nat)(a b c d:AV)(h:Heap):s1_ T k (j0+1) a b c d h =
 oa (lenS b) fun e=>oa (binV .lss .scalar d e) fun f=>cond2 f
 (
 k3_ T k j0 k a b c d (.int .i64 0) h
 )
 (
 some (a,h)
 ):=loopEq (by kernel_rfl)
theorem a8d (T:Tab)(k:Nat)(a b c:AV)(h:Heap):a0r T k a b c h =
 s1_ T k k a b c (.int .i64 0) h:=blockEq (by kernel_rfl)
theorem a2x (T:Tab)(k j0:Nat)(a b c d e:AV)(h:Heap):s0_ T k (j0+1) a b c d e h =
 oa (fldA 4 a) fun f=>oa (ld1 h f) fun g=>oa (lenS g) fun i=>oa (binV .lss .scalar e i) fun l=>cond2 l
 (
 oa (fldA 4 a) fun m=>oa (ld1 h m) fun n=>oa (idxS 2 n e) fun o=>oa (ldN 2 h o) fun p=>ob (newVar h [.int .i64 0,.int .i64 0]) fun q r=>oh (stN 2 r q p) fun s=>oa (idxA 2 1 q (.int .i64 0)) fun t=>oa (ld1 s t) fun u=>oa (idxA 2 1 q (.int .i64 0)) fun v=>oa (ld1 s v) fun w=>oa (idxS 1 d w) fun x=>oa (ld1 s x) fun y=>oa (idxA 2 1 q (.int .i64 1)) fun z=>oa (ld1 s z) fun aa=>ob (buildSl 1 1 [.int .i64 0] [(0,1,aa)] s) fun ab ac=>ob (apnd 1 8 y ab ac) fun ad ae=>chk ((sameB (pure1 ae (ld1 ae t)) u && true)) <|oa (idxS 1 d u) fun af=>oh (stN 1 ae af ad) fun ag=>oa (binV .add .scalar e (.int .i64 1)) fun ai=>s0_ T k j0 a b c d ai ag
 )
 (
 a0r T k b c d h
 ):=loopEq (by kernel_rfl)
theorem a8e (T:Tab)(k:Nat)(a b c:AV)(h:Heap):a3N T k a b c h =
 oa (fldA 0 a) fun d=>oa (ld1 h d) fun e=>ob (mkSl [.nils] 1 24 e e h) fun f g=>s0_ T k k a b c f (.int .i64 0) g:=blockEq (by kernel_rfl)
theorem a2y (T:Tab)(k j0:Nat)(a b c d:AV)(h:Heap):k2_ T k (j0+1) a b c d h =
 oa (lenS b) fun e=>oa (binV .lss .scalar d e) fun f=>cond2 f
 (
 oa (idxS 1 b d) fun g=>oa (ld1 h g) fun i=>cond2 i
 (
 ob (buildSl 1 1 [.int .i64 0] [(0,1,d)] h) fun l m=>ob (apnd 1 8 c l m) fun n o=>oa (binV .add .scalar d (.int .i64 1)) fun p=>k2_ T k j0 a b n p o
 )
 (
 oa (binV .add .scalar d (.int .i64 1)) fun q=>k2_ T k j0 a b c q h
 )
 )
 (
 a3N T k a b c h
 ):=loopEq (by kernel_rfl)
theorem a9Q (T:Tab)(k:Nat)(a b:AV)(h:Heap):runF T k a0q [a,b] h =
 ob (newVar h (AV.cells a)) fun c d=>ob (buildSl 1 0 [] [] d) fun e f=>ob (apnd 1 1 e b f) fun g i=>k2_ T k k c g .nils (.int .i64 0) i:=runEq (by kernel_rfl)
noncomputable def a5f:MCode:=.seq [9] (.seq [6,7,8] (.region [tM 6 5,tM 7 0,tS 8 (.lenSl (tT 7)),tS 9 (.bin .lss .scalar (tT 6) (tT 8))]) (.cond (tT 9) .skip (.exit 0))) (.seq [20] (.block 1 (.seq [12,13,14,15,16,17,18,19] (.regionD 21 [dM 0 21 0,dM 1 22 5,tD 2 23 (.idxSl 1 (tT 21) (tT 22)),dL 3 24 23,dM 4 25 1,dM 5 26 5,tD 6 27 (.idxSl 1 (tT 25) (tT 26)),dL 7 28 27,tD 8 29 (.bin .neq .bool (tT 24) (tT 28))] [(12,21),(13,22),(14,23),(15,24),(16,25),(17,26),(18,27),(19,28),(20,29)]) (.cond (tT 20) (.seq [0,1,5,20] (.region [tS 4 (.mv (.const (.bool false)))]) .ret) .skip))) (.region [tM 10 5,tS 11 (.bin .add .scalar (tT 10) (tK 1)),tM 5 11]))
def a5g:Res:=[(4,none)]
noncomputable def a1K:MFn:=⟨21,a5g,.seq [4] (.region [tS 4 (.mv (.const (.bool false)))]) (.seq [0,1,5,9] (.seq [] (.region [tS 5 (.mv (tK 0))]) (.block 0 (.loop [10,11] a5f))) (.seq [] (.region [tS 4 (.mv (.const (.bool true)))]) .ret))⟩
noncomputable def w3_ (T:Tab)(k j0:Nat)(a b c:AV)(h:Heap):Option (AV × Heap):=
 loopB T k a5g j0 [10,11] a5f [.blk 0,.seq [0,1,5,9] (.seq [] (.region [⟨some 4,.op (.mv (.const (.bool true))),none⟩]) .ret)] [a,b,.u,.u,.u,c,.u,.u,.u,.u,.u,.u,.u,.u,.u,.u,.u,.u,.u,.u,.u] h
theorem a3u (T:Tab)(k j0:Nat)(a b c:AV)(h:Heap):w3_ T k (j0+1) a b c h =
 oa (lenS a) fun d=>oa (binV .lss .scalar c d) fun e=>cond2 e
 (
 oa (idxS 1 a c) fun f=>oa (ld1 h f) fun g=>oa (idxS 1 b c) fun i=>oa (ld1 h i) fun l=>oa (binV .neq .bool g l) fun m=>cond2 m
 (
 some ((.bool false),h)
 )
 (
 oa (binV .add .scalar c (.int .i64 1)) fun n=>w3_ T k j0 a b n h
 )
 )
 (
 some ((.bool true),h)
 ):=loopEq (by kernel_rfl)
theorem b1C (T:Tab)(k:Nat)(a b:AV)(h:Heap):runF T k a1K [a,b] h =
 w3_ T k k a b (.int .i64 0) h:=runEq (by kernel_rfl)
noncomputable def a4h:MCode:=.seq [33] (.seq [19,20,21,22,23,24,25,26,27,28,29,30,31,32] (.regionD 51 [dM 0 51 9,dM 1 52 7,tD 2 53 (.lenSl (tT 52)),tD 3 54 (.bin .lss .scalar (tT 51) (tT 53)),dM 4 55 54,⟨5,⟨some 56,.op (.load (some 2) (tT 2)),some (55,true)⟩,[]⟩,⟨6,⟨some 57,.op (.mv (tT 1)),some (55,true)⟩,[]⟩,⟨7,⟨some 58,.op (.mv (tT 7)),some (55,true)⟩,[]⟩,⟨8,⟨some 59,.op (.mv (tT 9)),some (55,true)⟩,[]⟩,⟨9,⟨some 60,.op (.idxSl 1 (tT 58) (tT 59)),some (55,true)⟩,[]⟩,⟨10,⟨some 61,.op (.load none (tT 60)),some (55,true)⟩,[]⟩,⟨11,⟨some 62,.op (.mv (tT 8)),some (55,true)⟩,[]⟩,⟨12,⟨some 63,.call m5_ [(tT 56),(tT 57),(tT 61),(tT 62)],some (55,true)⟩,[]⟩,⟨13,⟨some 64,.op (.un .not (tT 63)),some (55,true)⟩,[]⟩,tD 14 65 (.pick (tT 55) (tT 64) (.const (.bool false)))] [(19,51),(20,52),(21,53),(22,54),(23,55),(24,56),(25,57),(26,58),(27,59),(28,60),(29,61),(30,62),(31,63),(32,64),(33,65)]) (.cond (tT 33) .skip (.exit 2))) (.block 3 (.region [tM 34 9,tS 35 (.bin .add .scalar (tT 34) (tK 1)),tM 9 35]))
noncomputable def a4i:MCode:=.region [tM 44 6,tM 45 8,tM 46 9,tX 47 1 44 45,tW 1 47 46]
noncomputable def a0Q:MCode:=.seq [39,40,41,42,43] (.seq [36,37,38] (.region [tM 36 9,tM 37 7,tS 38 (.lenSl (tT 37)),tS 39 (.bin .eql .scalar (tT 36) (tT 38))]) (.cond (tT 39) (.region [tM 40 7,tM 41 8,tS 42 (.buildSlice 1 1 [.int .i64 0] [(0,1,(tT 41))]),tS 43 (.append 1 8 (tT 40) (tT 42)),tM 7 43]) .skip)) (.lab a4i)
noncomputable def l0_:MCode:=.region [tM 17 8,tS 18 (.bin .add .scalar (tT 17) (tK 1)),tM 8 18]
noncomputable def g7_:MCode:=.seq [16] (.seq [13,14,15] (.region [tM 13 8,tM 14 1,tS 15 (.lenSl (tT 14)),tS 16 (.bin .lss .scalar (tT 13) (tT 15))]) (.cond (tT 16) .skip (.exit 0))) (.seq [9,44,45,46,47] (.block 1 (.seq [] (.region [tS 9 (.mv (tK 0))]) (.seq [33] (.block 2 (.loop [34,35] a4h)) (.lab a0Q)))) (.lab l0_))
noncomputable def e4_:MCode:=.seq [6,7,48,49,50] (.region [tM 48 6,tM 49 7,tS 50 (.lenSl (tT 49)),tM 4 48,tM 5 50]) .ret
def e5_:Res:=[(4,none),(5,none)]
noncomputable def a0R:MFn:=⟨51,e5_,.seq [0,4,5] (.region [tS 2 (.box (tT 0)),tS 4 (.mv (.const .nils)),tS 5 (.mv (tK 0))]) (.seq [10,11,12] (.region [tM 10 1,tS 11 (.lenSl (tT 10)),tS 12 (.mkSlice [.int .i64 0] 1 8 (tT 11) (tT 11)),tM 6 12]) (.seq [] (.region [tS 7 (.mv (.const .nils))]) (.seq [1,2,8,16] (.seq [] (.region [tS 8 (.mv (tK 0))]) (.block 0 (.loop [17,18] g7_))) (.lab e4_))))⟩
noncomputable def u7_ (T:Tab)(k j0:Nat)(a b c d e:AV)(h:Heap):Option (AV × Heap):=
 loopB T k e5_ j0 [17,18] g7_ [.blk 0,.seq [1,2,8,16] (.lab e4_)] [.u,a,b,.u,.u,.u,c,d,e,.u,.u,.u,.u,.u,.u,.u,.u,.u,.u,.u,.u,.u,.u,.u,.u,.u,.u,.u,.u,.u,.u,.u,.u,.u,.u,.u,.u,.u,.u,.u,.u,.u,.u,.u,.u,.u,.u,.u,.u,.u,.u] h
noncomputable def u8_ (T:Tab)(k j0 j1:Nat)(a b c d e f:AV)(h:Heap):Option (AV × Heap):=
 loopB T k e5_ j1 [34,35] a4h [.blk 2,.seq [33] (.lab a0Q),.blk 1,.seq [9,44,45,46,47] (.lab l0_),.lp j0 [17,18] g7_,.blk 0,.seq [1,2,8,16] (.lab e4_)] [.u,a,b,.u,.u,.u,c,d,e,f,.u,.u,.u,.u,.u,.u,.u,.u,.u,.u,.u,.u,.u,.u,.u,.u,.u,.u,.u,.u,.u,.u,.u,.u,.u,.u,.u,.u,.u,.u,.u,.u,.u,.u,.u,.u,.u,.u,.u,.u,.u] h
noncomputable def a0S (T:Tab)(k j0:Nat)(a b c d e f:AV)(h:Heap):Option (AV × Heap):=
 evB T k e5_ a0Q [.blk 1,.seq [9,44,45,46,47] (.lab l0_),.lp j0 [17,18] g7_,.blk 0,.seq [1,2,8,16] (.lab e4_)] [.u,a,b,.u,.u,.u,c,d,e,f,.u,.u,.u,.u,.u,.u,.u,.u,.u,.u,.u,.u,.u,.u,.u,.u,.u,.u,.u,.u,.u,.u,.u,.u,.u,.u,.u,.u,.u,.u,.u,.u,.u,.u,.u,.u,.u,.u,.u,.u,.u] h
noncomputable def a0T (T:Tab)(k j0:Nat)(a b c d e f:AV)(h:Heap):Option (AV × Heap):=
 evB T k e5_ a4i [.blk 1,.seq [9,44,45,46,47] (.lab l0_),.lp j0 [17,18] g7_,.blk 0,.seq [1,2,8,16] (.lab e4_)] [.u,a,b,.u,.u,.u,c,d,e,f,.u,.u,.u,.u,.u,.u,.u,.u,.u,.u,.u,.u,.u,.u,.u,.u,.u,.u,.u,.u,.u,.u,.u,.u,.u,.u,.u,.u,.u,.u,.u,.u,.u,.u,.u,.u,.u,.u,.u,.u,.u] h
noncomputable def a4j (T:Tab)(k j0:Nat)(a b c d e:AV)(h:Heap):Option (AV × Heap):=
 evB T k e5_ l0_ [.lp j0 [17,18] g7_,.blk 0,.seq [1,2,8,16] (.lab e4_)] [.u,a,b,.u,.u,.u,c,d,e,.u,.u,.u,.u,.u,.u,.u,.u,.u,.u,.u,.u,.u,.u,.u,.u,.u,.u,.u,.u,.u,.u,.u,.u,.u,.u,.u,.u,.u,.u,.u,.u,.u,.u,.u,.u,.u,.u,.u,.u,.u,.u] h
noncomputable def a4k (T:Tab)(k:Nat)(a b:AV)(h:Heap):Option (AV × Heap):=
 evB T k e5_ e4_ [] [.u,.u,.u,.u,.u,.u,a,b,.u,.u,.u,.u,.u,.u,.u,.u,.u,.u,.u,.u,.u,.u,.u,.u,.u,.u,.u,.u,.u,.u,.u,.u,.u,.u,.u,.u,.u,.u,.u,.u,.u,.u,.u,.u,.u,.u,.u,.u,.u,.u,.u] h
theorem a2V (T:Tab)(k j0:Nat)(a b c d e:AV)(h:Heap):a4j T k j0 a b c d e h =
 oa (binV .add .scalar e (.int .i64 1)) fun f=>u7_ T k j0 a b c d f h:=blockEq (by kernel_rfl)
theorem a2W (T:Tab)(k j0:Nat)(a b c d e f:AV)(h:Heap):a0T T k j0 a b c d e f h =
 oa (idxS 1 c e) fun g=>oh (stN 1 h g f) fun i=>a4j T k j0 a b c d e i:=blockEq (by kernel_rfl)
theorem a8z (T:Tab)(k j0:Nat)(a b c d e f:AV)(h:Heap):a0S T k j0 a b c d e f h =
 oa (lenS d) fun g=>oa (binV .eql .scalar f g) fun i=>cond2 i
 (
 ob (buildSl 1 1 [.int .i64 0] [(0,1,e)] h) fun l m=>ob (apnd 1 8 d l m) fun n o=>a0T T k j0 a b c n e f o
 )
 (
 a0T T k j0 a b c d e f h
 ):=blockEq (by kernel_rfl)
theorem a2X (T:Tab)(k j0 j1:Nat)(a b c d e f:AV)(h:Heap):u8_ T k j0 (j1+1) a b c d e f h =
 oa (lenS d) fun g=>oa (binV .lss .scalar f g) fun i=>ob (gd i true (pure1 h (ldN 2 h b)) h) fun l m=>ob (gd i true (some (a,m)) m) fun n o=>ob (gd i true (some (d,o)) o) fun p q=>ob (gd i true (some (f,q)) q) fun r s=>ob (gd i true (pure1 s (idxS 1 p r)) s) fun t u=>ob (gd i true (pure1 u (ld1 u t)) u) fun v w=>ob (gd i true (some (e,w)) w) fun x y=>ob (gd i true (evalFn T k m5_ [l,n,v,x] y) y) fun z aa=>ob (gd i true (pure1 aa (unV .not z)) aa) fun ab ac=>oa (pickV i ab (.bool false)) fun ad=>cond2 ad
 (
 oa (binV .add .scalar f (.int .i64 1)) fun ae=>u8_ T k j0 j1 a b c d e ae ac
 )
 (
 a0S T k j0 a b c d e f ac
 ):=loopEq (by kernel_rfl)
theorem a8A (T:Tab)(k:Nat)(a b:AV)(h:Heap):a4k T k a b h =
 oa (lenS b) fun c=>some (.tup [a,c],h):=blockEq (by kernel_rfl)
theorem a2Y (T:Tab)(k j0:Nat)(a b c d e:AV)(h:Heap):u7_ T k (j0+1) a b c d e h =
 oa (lenS a) fun f=>oa (binV .lss .scalar e f) fun g=>cond2 g
 (
 u8_ T k j0 k a b c d e (.int .i64 0) h
 )
 (
 a4k T k c d h
 ):=loopEq (by kernel_rfl)
theorem b0R (T:Tab)(k:Nat)(a b:AV)(h:Heap):runF T k a0R [a,b] h =
 ob (newVar h (AV.cells a)) fun c d=>oa (lenS b) fun e=>ob (mkSl [.int .i64 0] 1 8 e e d) fun f g=>u7_ T k k b c f .nils (.int .i64 0) g:=runEq (by kernel_rfl)
def b2X:Res:=[(2,none)]
noncomputable def a2E:MFn:=⟨8,b2X,.seq [2] (.region [tS 2 (.mv (tK 0))]) (.seq [0,3,4,5,6,7] (.region [tM 3 0,tN 4 3,tF 5 0 4,tL 6 5,tS 7 (.lenSl (tT 6)),tM 2 7]) .ret)⟩
theorem b2Y (T:Tab)(k:Nat)(a:AV)(h:Heap):runF T k a2E [a] h =
 oa (nilCk a) fun b=>oa (fldA 0 b) fun c=>oa (ld1 h c) fun d=>oa (lenS d) fun e=>some (e,h):=runEq (by kernel_rfl)
def b1D:Res:=[(2,none)]
noncomputable def a1L:MFn:=⟨15,b1D,.seq [2] (.region [tS 2 (.mv (.const .nilifc))]) (.seq [4,5,6] (.region [tM 4 0,⟨some 5,.invoke "Len" (tT 4) [],none⟩,tS 6 (.bin .sub .scalar (tT 5) (tK 1)),tM 3 6]) (.seq [7,8,9] (.region [tM 7 0,tM 8 3,⟨some 9,.invoke "Swap" (tT 7) [(tK 0),(tT 8)],none⟩]) (.seq [3,10,11,12] (.region [tM 10 0,tM 11 3,⟨some 12,.call d3_ [(tT 10),(tK 0),(tT 11)],none⟩]) (.seq [0,13,14] (.region [tM 13 0,⟨some 14,.invoke "Pop" (tT 13) [],none⟩,tM 2 14]) .ret))))⟩
theorem b1E (T:Tab)(k:Nat)(a:AV)(h:Heap):runF T k a1L [a] h =
 ob (callMeth T (evalFn T k) "Len" a [] h) fun b c=>oa (binV .sub .scalar b (.int .i64 1)) fun d=>ob (callMeth T (evalFn T k) "Swap" a [(.int .i64 0),d] c) fun e f=>ob (evalFn T k d3_ [a,(.int .i64 0),d] f) fun g i=>ob (callMeth T (evalFn T k) "Pop" a [] i) fun l m=>some (l,m):=runEq (by kernel_rfl)
noncomputable def a5X:MCode:=.block 1 (.seq [5,6,7] (.region [tM 5 1,tS 6 (.bin .sub .scalar (tT 5) (tK 1)),tS 7 (.bin .quo .scalar (tT 6) (tK 2)),tM 4 7]) (.seq [17] (.seq [8,9,10,11,12,13,14,15,16] (.region [tM 8 4,tM 9 1,tS 10 (.bin .eql .scalar (tT 8) (tT 9)),tM 11 10,⟨some 12,.op (.mv (tT 0)),some (11,false)⟩,⟨some 13,.op (.mv (tT 1)),some (11,false)⟩,⟨some 14,.op (.mv (tT 4)),some (11,false)⟩,⟨some 15,.invoke "Less" (tT 12) [(tT 13),(tT 14)],some (11,false)⟩,⟨some 16,.op (.un .not (tT 15)),some (11,false)⟩,tS 17 (.pick (tT 11) (.const (.bool true)) (tT 16))]) (.cond (tT 17) (.exit 0) .skip)) (.seq [1,18,19,20,21] (.region [tM 18 0,tM 19 4,tM 20 1,⟨some 21,.invoke "Swap" (tT 18) [(tT 19),(tT 20)],none⟩]) (.region [tM 22 4,tM 1 22]))))
def a5Y:Res:=[]
noncomputable def a2m:MFn:=⟨23,a5Y,.block 0 (.loop [4,22] a5X)⟩
noncomputable def x5_ (T:Tab)(k j0:Nat)(a j1:AV)(h:Heap):Option (AV × Heap):=
 loopB T k a5Y j0 [4,22] a5X [.blk 0] [a,j1,.u,.u,.u,.u,.u,.u,.u,.u,.u,.u,.u,.u,.u,.u,.u,.u,.u,.u,.u,.u,.u] h
theorem a3O (T:Tab)(k j0:Nat)(a j1:AV)(h:Heap):x5_ T k (j0+1) a j1 h =
 oa (binV .sub .scalar j1 (.int .i64 1)) fun b=>oa (binV .quo .scalar b (.int .i64 2)) fun c=>oa (binV .eql .scalar c j1) fun d=>ob (gd d false (some (a,h)) h) fun e f=>ob (gd d false (some (j1,f)) f) fun g i=>ob (gd d false (some (c,i)) i) fun l m=>ob (gd d false (callMeth T (evalFn T k) "Less" e [g,l] m) m) fun n o=>ob (gd d false (pure1 o (unV .not n)) o) fun p q=>oa (pickV d (.bool true) p) fun r=>cond2 r
 (
 some (.tup [],q)
 )
 (
 ob (callMeth T (evalFn T k) "Swap" a [c,j1] q) fun s t=>x5_ T k j0 a c t
 ):=loopEq (by kernel_rfl)
theorem b2o (T:Tab)(k:Nat)(a j1:AV)(h:Heap):runF T k a2m [a,j1] h =
 x5_ T k k a j1 h:=runEq (by kernel_rfl)
noncomputable def a4l:MCode:=.seq [39] (.seq [35,36,37,38] (.region [tM 35 0,tM 36 9,tM 37 7,⟨some 38,.invoke "Less" (tT 35) [(tT 36),(tT 37)],none⟩,tS 39 (.un .not (tT 38))]) (.cond (tT 39) (.exit 0) .skip)) (.seq [7,40,41,42,43] (.region [tM 40 0,tM 41 7,tM 42 9,⟨some 43,.invoke "Swap" (tT 40) [(tT 41),(tT 42)],none⟩]) (.region [tM 44 9,tM 7 44]))
noncomputable def a0U:MCode:=.block 1 (.seq [12,13,14] (.region [tM 12 7,tS 13 (.bin .mul .scalar (tK 2) (tT 12)),tS 14 (.bin .add .scalar (tT 13) (tK 1)),tM 8 14]) (.seq [21] (.seq [15,16,17,18,19,20] (.region [tM 15 8,tM 16 2,tS 17 (.bin .geq .scalar (tT 15) (tT 16)),tM 18 17,⟨some 19,.op (.mv (tT 8)),some (18,false)⟩,⟨some 20,.op (.bin .lss .scalar (tT 19) (tK 0)),some (18,false)⟩,tS 21 (.pick (tT 18) (.const (.bool true)) (tT 20))]) (.cond (tT 21) (.exit 0) .skip)) (.seq [22] (.region [tM 22 8,tM 9 22]) (.seq [10,33,34] (.seq [23,24] (.region [tM 23 8,tS 24 (.bin .add .scalar (tT 23) (tK 1)),tM 10 24]) (.seq [8,25,26,27,28,29,30,31,32] (.region [tM 25 10,tM 26 2,tS 27 (.bin .lss .scalar (tT 25) (tT 26)),tM 28 27,⟨some 29,.op (.mv (tT 0)),some (28,true)⟩,⟨some 30,.op (.mv (tT 10)),some (28,true)⟩,⟨some 31,.op (.mv (tT 8)),some (28,true)⟩,⟨some 32,.invoke "Less" (tT 29) [(tT 30),(tT 31)],some (28,true)⟩,tS 33 (.pick (tT 28) (tT 32) (.const (.bool false)))]) (.cond (tT 33) (.region [tM 34 10,tM 9 34]) .skip))) (.lab a4l)))))
noncomputable def u9_:MCode:=.seq [1,7,45,46,47] (.region [tM 45 7,tM 46 1,tS 47 (.bin .gtr .scalar (tT 45) (tT 46)),tM 6 47]) .ret
def v0_:Res:=[(6,none)]
noncomputable def a0V:MFn:=⟨48,v0_,.seq [6] (.region [tS 6 (.mv (.const (.bool false)))]) (.seq [11] (.region [tM 11 1,tM 7 11]) (.seq [0,2,8,9,21,39] (.block 0 (.loop [9,44] a0U)) (.lab u9_)))⟩
noncomputable def l1_ (T:Tab)(k j0:Nat)(a b c d:AV)(h:Heap):Option (AV × Heap):=
 loopB T k v0_ j0 [9,44] a0U [.blk 0,.seq [0,2,8,9,21,39] (.lab u9_)] [a,b,c,.u,.u,.u,.u,d,.u,.u,.u,.u,.u,.u,.u,.u,.u,.u,.u,.u,.u,.u,.u,.u,.u,.u,.u,.u,.u,.u,.u,.u,.u,.u,.u,.u,.u,.u,.u,.u,.u,.u,.u,.u,.u,.u,.u,.u] h
noncomputable def l2_ (T:Tab)(k:Nat)(a b:AV)(h:Heap):Option (AV × Heap):=
 evB T k v0_ u9_ [] [.u,a,.u,.u,.u,.u,.u,b,.u,.u,.u,.u,.u,.u,.u,.u,.u,.u,.u,.u,.u,.u,.u,.u,.u,.u,.u,.u,.u,.u,.u,.u,.u,.u,.u,.u,.u,.u,.u,.u,.u,.u,.u,.u,.u,.u,.u,.u] h
noncomputable def l3_ (T:Tab)(k j0:Nat)(a b c d j9:AV)(h:Heap):Option (AV × Heap):=
 evB T k v0_ a4l [.blk 1,.lp j0 [9,44] a0U,.blk 0,.seq [0,2,8,9,21,39] (.lab u9_)] [a,b,c,.u,.u,.u,.u,d,.u,j9,.u,.u,.u,.u,.u,.u,.u,.u,.u,.u,.u,.u,.u,.u,.u,.u,.u,.u,.u,.u,.u,.u,.u,.u,.u,.u,.u,.u,.u,.u,.u,.u,.u,.u,.u,.u,.u,.u] h
theorem a2Z (T:Tab)(k:Nat)(a b:AV)(h:Heap):l2_ T k a b h =
 oa (binV .gtr .scalar b a) fun c=>some (c,h):=blockEq (by kernel_rfl)
theorem a3a (T:Tab)(k j0:Nat)(a b c d j9:AV)(h:Heap):l3_ T k j0 a b c d j9 h =
 ob (callMeth T (evalFn T k) "Less" a [j9,d] h) fun e f=>oa (unV .not e) fun g=>cond2 g
 (
 l2_ T k b d f
 )
 (
 ob (callMeth T (evalFn T k) "Swap" a [d,j9] f) fun i l=>l1_ T k j0 a b c j9 l
 ):=blockEq (by kernel_rfl)
theorem x6_ (T:Tab)(k j0:Nat)(a b c d:AV)(h:Heap):l1_ T k (j0+1) a b c d h =
 oa (binV .mul .scalar (.int .i64 2) d) fun e=>oa (binV .add .scalar e (.int .i64 1)) fun f=>oa (binV .geq .scalar f c) fun g=>ob (gd g false (some (f,h)) h) fun i l=>ob (gd g false (pure1 l (binV .lss .scalar i (.int .i64 0))) l) fun m n=>oa (pickV g (.bool true) m) fun o=>cond2 o
 (
 l2_ T k b d n
 )
 (
 oa (binV .add .scalar f (.int .i64 1)) fun p=>oa (binV .lss .scalar p c) fun q=>ob (gd q true (some (a,n)) n) fun r s=>ob (gd q true (some (p,s)) s) fun t u=>ob (gd q true (some (f,u)) u) fun v w=>ob (gd q true (callMeth T (evalFn T k) "Less" r [t,v] w) w) fun x y=>oa (pickV q x (.bool false)) fun z=>cond2 z
 (
 l3_ T k j0 a b c d p y
 )
 (
 l3_ T k j0 a b c d f y
 )
 ):=loopEq (by kernel_rfl)
theorem a4m (T:Tab)(k:Nat)(a b c:AV)(h:Heap):runF T k a0V [a,b,c] h =
 l1_ T k k a b c b h:=runEq (by kernel_rfl)
noncomputable def a1h:MCode:=.region [tM 45 0,tN 46 45,tF 47 1 46,tL 48 47,tS 49 (.bin .add .scalar (tT 48) (tK 1)),tN 50 45,tF 51 1 50,tW 1 51 49]
noncomputable def q7_:MCode:=.block 1 (.seq [8,9,10,11,12] (.region [tM 9 0,⟨some 10,.call a4_ [(tT 9)],none⟩,tM 8 10,tS 11 (.extract 0 (tT 8)),tS 12 (.extract 1 (tT 8)),tM 4 11,tM 5 12]) (.seq [14] (.seq [5,13] (.region [tM 13 5,tS 14 (.un .not (tT 13))]) (.cond (tT 14) (.seq [0,3,4,14,15] (.region [tA 15 5 3,tW 5 2 15]) .ret) .skip)) (.seq [16,18,20,21,22,23,25,26,27,28,30,31,32] (.seq [4] (.region [tM 16 4]) (.block 2 (.seq [19] (.region [tS 19 (.bin .eql .scalar (tT 16) (.const (.int .u8 42))),tM 18 19]) (.cond (tT 18) (.region [tA 20 5 3,tS 21 (.buildSlice 5 1 [.int .i64 0,.int .i64 0,.int .i64 0,.int .i64 0,.nils] [(0,5,(tT 20))]),tS 22 (.build [.int .i64 0,.int .i64 0,.int .i64 0,.int .i64 0,.nils] [(0,1,(tK 6)),(4,1,(tT 21))]),tW 5 3 22]) (.seq [18,24] (.region [tS 24 (.bin .eql .scalar (tT 16) (.const (.int .u8 43))),tM 23 24]) (.cond (tT 23) (.region [tA 25 5 3,tS 26 (.buildSlice 5 1 [.int .i64 0,.int .i64 0,.int .i64 0,.int .i64 0,.nils] [(0,5,(tT 25))]),tS 27 (.build [.int .i64 0,.int .i64 0,.int .i64 0,.int .i64 0,.nils] [(0,1,(tK 7)),(4,1,(tT 26))]),tW 5 3 27]) (.seq [23,29] (.region [tS 29 (.bin .eql .scalar (tT 16) (.const (.int .u8 63))),tM 28 29]) (.cond (tT 28) (.region [tA 30 5 3,tS 31 (.buildSlice 5 1 [.int .i64 0,.int .i64 0,.int .i64 0,.int .i64 0,.nils] [(0,5,(tT 30))]),tS 32 (.build [.int .i64 0,.int .i64 0,.int .i64 0,.int .i64 0,.nils] [(0,1,(tK 8)),(4,1,(tT 31))]),tW 5 3 32]) (.seq [16,28,34] (.region [tS 34 (.bin .eql .scalar (tT 16) (.const (.int .u8 123))),tM 33 34]) (.cond (tT 33) (.seq [33,35,36,37,38,39,40,41] (.region [tM 35 0,tN 36 35,tF 37 1 36,tL 38 37,tS 39 (.bin .add .scalar (tT 38) (tK 1)),tN 40 35,tF 41 1 40,tW 1 41 39]) (.seq [42,43,44] (.region [tM 42 0,tA 43 5 3,⟨some 44,.call f5_ [(tT 42),(tT 43)],none⟩,tW 5 3 44]) (.exit 1))) (.seq [0,3,17,33] (.region [tA 17 5 3,tW 5 2 17]) .ret))))))))))) (.lab a1h))))
def q8_:Res:=[(2,some (some 5))]
noncomputable def q9_:MFn:=⟨52,q8_,.seq [] (.region [tS 2 (.alloc [.int .i64 0,.int .i64 0,.int .i64 0,.int .i64 0,.nils])]) (.seq [6,7] (.region [tM 6 0,⟨some 7,.call g1_ [(tT 6)],none⟩,tS 3 (.alloc [.int .i64 0,.int .i64 0,.int .i64 0,.int .i64 0,.nils]),tW 5 3 7]) (.block 0 (.loop [45,46,47,48,49,50,51] q7_)))⟩
noncomputable def c7_ (T:Tab)(k j0:Nat)(a b c:AV)(h:Heap):Option (AV × Heap):=
 loopB T k q8_ j0 [45,46,47,48,49,50,51] q7_ [.blk 0] [a,.u,b,c,.u,.u,.u,.u,.u,.u,.u,.u,.u,.u,.u,.u,.u,.u,.u,.u,.u,.u,.u,.u,.u,.u,.u,.u,.u,.u,.u,.u,.u,.u,.u,.u,.u,.u,.u,.u,.u,.u,.u,.u,.u,.u,.u,.u,.u,.u,.u,.u] h
noncomputable def c8_ (T:Tab)(k j0:Nat)(a b c:AV)(h:Heap):Option (AV × Heap):=
 evB T k q8_ a1h [.blk 1,.lp j0 [45,46,47,48,49,50,51] q7_,.blk 0] [a,.u,b,c,.u,.u,.u,.u,.u,.u,.u,.u,.u,.u,.u,.u,.u,.u,.u,.u,.u,.u,.u,.u,.u,.u,.u,.u,.u,.u,.u,.u,.u,.u,.u,.u,.u,.u,.u,.u,.u,.u,.u,.u,.u,.u,.u,.u,.u,.u,.u,.u] h
theorem a4I (T:Tab)(k j0:Nat)(a b c:AV)(h:Heap):c8_ T k j0 a b c h =
 oa (nilCk a) fun d=>oa (fldA 1 d) fun e=>oa (ld1 h e) fun f=>oa (binV .add .scalar f (.int .i64 1)) fun g=>oa (nilCk a) fun i=>oa (fldA 1 i) fun l=>oh (stN 1 h l g) fun m=>c7_ T k j0 a b c m:=blockEq (by kernel_rfl)
theorem a4J (T:Tab)(k j0:Nat)(a b c:AV)(h:Heap):c7_ T k (j0+1) a b c h =
 ob (evalFn T k a4_ [a] h) fun d e=>oa (extr 0 d) fun f=>oa (extr 1 d) fun g=>oa (unV .not g) fun i=>cond2 i
 (
 oa (ldN 5 e c) fun l=>oh (stN 5 e b l) fun m=>oa (ldN 5 m b) fun n=>some (n,m)
 )
 (
 oa (binV .eql .scalar f (.int .u8 42)) fun o=>cond2 o
 (
 oa (ldN 5 e c) fun p=>ob (buildSl 5 1 [.int .i64 0,.int .i64 0,.int .i64 0,.int .i64 0,.nils] [(0,5,p)] e) fun q r=>oa (buildV [.int .i64 0,.int .i64 0,.int .i64 0,.int .i64 0,.nils] [(0,1,(.int .i64 6)),(4,1,q)]) fun s=>oh (stN 5 r c s) fun t=>c8_ T k j0 a b c t
 )
 (
 oa (binV .eql .scalar f (.int .u8 43)) fun u=>cond2 u
 (
 oa (ldN 5 e c) fun v=>ob (buildSl 5 1 [.int .i64 0,.int .i64 0,.int .i64 0,.int .i64 0,.nils] [(0,5,v)] e) fun w x=>oa (buildV [.int .i64 0,.int .i64 0,.int .i64 0,.int .i64 0,.nils] [(0,1,(.int .i64 7)),(4,1,w)]) fun y=>oh (stN 5 x c y) fun z=>c8_ T k j0 a b c z
 )
 (
 oa (binV .eql .scalar f (.int .u8 63)) fun aa=>cond2 aa
 (
 oa (ldN 5 e c) fun ab=>ob (buildSl 5 1 [.int .i64 0,.int .i64 0,.int .i64 0,.int .i64 0,.nils] [(0,5,ab)] e) fun ac ad=>oa (buildV [.int .i64 0,.int .i64 0,.int .i64 0,.int .i64 0,.nils] [(0,1,(.int .i64 8)),(4,1,ac)]) fun ae=>oh (stN 5 ad c ae) fun af=>c8_ T k j0 a b c af
 )
 (
 oa (binV .eql .scalar f (.int .u8 123)) fun ag=>cond2 ag
 (
 oa (nilCk a) fun ai=>oa (fldA 1 ai) fun al=>oa (ld1 e al) fun am=>oa (binV .add .scalar am (.int .i64 1)) fun an=>oa (nilCk a) fun ao=>oa (fldA 1 ao) fun ap=>oh (stN 1 e ap an) fun aq=>oa (ldN 5 aq c) fun ar=>ob (evalFn T k f5_ [a,ar] aq) fun as au=>oh (stN 5 au c as) fun av=>c7_ T k j0 a b c av
 )
 (
 oa (ldN 5 e c) fun aw=>oh (stN 5 e b aw) fun ax=>oa (ldN 5 ax b) fun ay=>some (ay,ax)
 )
 )
 )
 )
 ):=loopEq (by kernel_rfl)
theorem a6F (T:Tab)(k:Nat)(a:AV)(h:Heap):runF T k q9_ [a] h =
 ob (newVar h [.int .i64 0,.int .i64 0,.int .i64 0,.int .i64 0,.nils]) fun b c=>ob (evalFn T k g1_ [a] c) fun d e=>ob (newVar e [.int .i64 0,.int .i64 0,.int .i64 0,.int .i64 0,.nils]) fun f g=>oh (stN 5 g f d) fun i=>c7_ T k k a b f i:=runEq (by kernel_rfl)
def a6G:Res:=[]
noncomputable def r0_:MFn:=⟨20,a6G,.region [tM 6 0,tM 7 0,tN 8 7,tF 9 0 8,tF 10 4 9,tL 11 10,tM 12 1,tM 13 2,tS 14 (.build [.int .i64 0,.int .i64 0] [(0,1,(tT 12)),(1,1,(tT 13))]),tS 15 (.buildSlice 2 1 [.int .i64 0,.int .i64 0] [(0,2,(tT 14))]),tS 16 (.append 2 16 (tT 11) (tT 15)),tN 17 6,tF 18 0 17,tF 19 4 18,tW 1 19 16]⟩
theorem a6H (T:Tab)(k:Nat)(a b c:AV)(h:Heap):runF T k r0_ [a,b,c] h =
 oa (nilCk a) fun d=>oa (fldA 0 d) fun e=>oa (fldA 4 e) fun f=>oa (ld1 h f) fun g=>oa (buildV [.int .i64 0,.int .i64 0] [(0,1,b),(1,1,c)]) fun i=>ob (buildSl 2 1 [.int .i64 0,.int .i64 0] [(0,2,i)] h) fun l m=>ob (apnd 2 16 g l m) fun n o=>oa (nilCk a) fun p=>oa (fldA 0 p) fun q=>oa (fldA 4 q) fun r=>oh (stN 1 o r n) fun s=>some (.tup [],s):=runEq (by kernel_rfl)
noncomputable def a0a:MCode:=.seq [13,49] (.region [tM 49 13,tS 50 (.un .not (tT 49))]) (.cond (tT 50) (.regionD 69 [dM 0 69 0,dM 1 70 5,dM 2 71 12,tD 3 72 (.idxSl 1 (tT 70) (tT 71)),dL 4 73 72,dM 5 74 4,dM 6 75 12,tD 7 76 (.bin .add .scalar (tT 75) (tK 1)),tD 8 77 (.idxSl 1 (tT 74) (tT 76)),dL 9 78 77,⟨10,⟨some 79,.call a0_ [(tT 69),(tT 73),(tT 78)],none⟩,[]⟩] [(51,69),(52,70),(53,71),(54,72),(55,73),(56,74),(57,75),(58,76),(59,77),(60,78),(61,79)]) .skip)
noncomputable def n6_:MCode:=.seq [26] (.seq [23,24,25] (.region [tM 23 12,tM 24 4,tS 25 (.lenSl (tT 24)),tS 26 (.bin .lss .scalar (tT 23) (tT 25))]) (.cond (tT 26) .skip (.exit 0))) (.seq [50,51,52,53,54,55,56,57,58,59,60,61] (.block 1 (.seq [29,30,31,32,33] (.region [tM 29 12,tM 30 4,tS 31 (.lenSl (tT 30)),tS 32 (.bin .sub .scalar (tT 31) (tK 1)),tS 33 (.bin .eql .scalar (tT 29) (tT 32)),tM 13 33]) (.seq [41,42,43,44,45,46,47,48] (.seq [34,35,36,37,38,39,40] (.region [tM 34 13,tM 35 34,⟨some 36,.op (.mv (tT 12)),some (35,false)⟩,⟨some 37,.op (.bin .add .scalar (tT 36) (tK 1)),some (35,false)⟩,⟨some 38,.op (.fieldAddr 2 (tT 7)),some (35,false)⟩,⟨some 39,.op (.load none (tT 38)),some (35,false)⟩,⟨some 40,.op (.bin .geq .scalar (tT 37) (tT 39)),some (35,false)⟩,tS 41 (.pick (tT 35) (.const (.bool true)) (tT 40))]) (.cond (tT 41) (.region [tM 42 0,tM 43 5,tM 44 12,tX 45 1 43 44,tL 46 45,tM 47 3,⟨some 48,.call a0_ [(tT 42),(tT 46),(tT 47)],none⟩]) .skip)) (.lab a0a)))) (.region [tM 27 12,tS 28 (.bin .add .scalar (tT 27) (tK 1)),tM 12 28]))
noncomputable def g5_:MCode:=.seq [7,62,63] (.region [tF 62 2 7,tL 63 62,tS 64 (.bin .eql .scalar (tT 63) (tK 0))]) (.cond (tT 64) (.region [tM 65 0,tM 66 2,tM 67 3,⟨some 68,.call a0_ [(tT 65),(tT 66),(tT 67)],none⟩]) .skip)
noncomputable def a0b:MCode:=.seq [4,5,12,26] (.seq [] (.region [tS 12 (.mv (tK 0))]) (.block 0 (.loop [27,28] n6_))) (.lab g5_)
def d4_:Res:=[]
noncomputable def n7_:MFn:=⟨69,d4_,.seq [1] (.region [tS 7 (.box (tT 1))]) (.seq [16,17,18,19,20,21,22] (.seq [14,15] (.region [tF 14 3 7,tL 15 14,tS 16 (.bin .gtr .scalar (tT 15) (tK 0))]) (.cond (tT 16) (.region [tM 17 0,tM 18 2,tM 19 4,tS 20 (.idxSl 1 (tT 19) (tK 0)),tL 21 20,⟨some 22,.call a0_ [(tT 17),(tT 18),(tT 21)],none⟩]) .skip)) (.lab a0b))⟩
noncomputable def n8_ (T:Tab)(k:Nat)(a b c d e f:AV)(h:Heap):Option (AV × Heap):=
 evB T k d4_ a0b [] [a,.u,b,c,d,e,.u,f,.u,.u,.u,.u,.u,.u,.u,.u,.u,.u,.u,.u,.u,.u,.u,.u,.u,.u,.u,.u,.u,.u,.u,.u,.u,.u,.u,.u,.u,.u,.u,.u,.u,.u,.u,.u,.u,.u,.u,.u,.u,.u,.u,.u,.u,.u,.u,.u,.u,.u,.u,.u,.u,.u,.u,.u,.u,.u,.u,.u,.u] h
noncomputable def d5_ (T:Tab)(k j0:Nat)(a b c d e f g:AV)(h:Heap):Option (AV × Heap):=
 loopB T k d4_ j0 [27,28] n6_ [.blk 0,.seq [4,5,12,26] (.lab g5_)] [a,.u,b,c,d,e,.u,f,.u,.u,.u,.u,g,.u,.u,.u,.u,.u,.u,.u,.u,.u,.u,.u,.u,.u,.u,.u,.u,.u,.u,.u,.u,.u,.u,.u,.u,.u,.u,.u,.u,.u,.u,.u,.u,.u,.u,.u,.u,.u,.u,.u,.u,.u,.u,.u,.u,.u,.u,.u,.u,.u,.u,.u,.u,.u,.u,.u,.u] h
noncomputable def g6_ (T:Tab)(k j0:Nat)(a b c d e f g i:AV)(h:Heap):Option (AV × Heap):=
 evB T k d4_ a0a [.blk 1,.seq [50,51,52,53,54,55,56,57,58,59,60,61] (.region [⟨some 27,.op (.mv (.tmp 12)),none⟩,
 ⟨some 28,.op (.bin .add .scalar (.tmp 27) (.const (.int .i64 1))),none⟩,
 ⟨some 12,.op (.mv (.tmp 28)),none⟩]),.lp j0 [27,28] n6_,.blk 0,.seq [4,5,12,26] (.lab g5_)] [a,.undef,b,c,d,e,.undef,f,.undef,.undef,.undef,.undef,g,i,.undef,.undef,.undef,.undef,.undef,.undef,.undef,.undef,.undef,.undef,.undef,.undef,.undef,.undef,.undef,.undef,.undef,.undef,.undef,.undef,.undef,.undef,.undef,.undef,.undef,.undef,.undef,.undef,.undef,.undef,.undef,.undef,.undef,.undef,.undef,.undef,.undef,.undef,.undef,.undef,.undef,.undef,.undef,.undef,.undef,.undef,.undef,.undef,.undef,.undef,.undef,.undef,.undef,.undef,.undef] h
noncomputable def a0c (T:Tab)(k:Nat)(a b c d:AV)(h:Heap):Option (AV × Heap):=
 evB T k d4_ g5_ [] [a,.u,b,c,.u,.u,.u,d,.u,.u,.u,.u,.u,.u,.u,.u,.u,.u,.u,.u,.u,.u,.u,.u,.u,.u,.u,.u,.u,.u,.u,.u,.u,.u,.u,.u,.u,.u,.u,.u,.u,.u,.u,.u,.u,.u,.u,.u,.u,.u,.u,.u,.u,.u,.u,.u,.u,.u,.u,.u,.u,.u,.u,.u,.u,.u,.u,.u,.u] h
theorem a3U (T:Tab)(k j0:Nat)(a b c d e f g i:AV)(h:Heap):g6_ T k j0 a b c d e f g i h =
 oa (unV .not i) fun l=>cond2 l
 (
 oa (idxS 1 e g) fun m=>oa (ld1 h m) fun n=>oa (binV .add .scalar g (.int .i64 1)) fun o=>oa (idxS 1 d o) fun p=>oa (ld1 h p) fun q=>ob (evalFn T k a0_ [a,n,q] h) fun r s=>oa (binV .add .scalar g (.int .i64 1)) fun t=>d5_ T k j0 a b c d e f t s
 )
 (
 oa (binV .add .scalar g (.int .i64 1)) fun u=>d5_ T k j0 a b c d e f u h
 ):=blockEq (by kernel_rfl)
theorem a3V (T:Tab)(k:Nat)(a b c d:AV)(h:Heap):a0c T k a b c d h =
 oa (fldA 2 d) fun e=>oa (ld1 h e) fun f=>oa (binV .eql .scalar f (.int .i64 0)) fun g=>cond2 g
 (
 ob (evalFn T k a0_ [a,b,c] h) fun i l=>some (.tup [],l)
 )
 (
 some (.tup [],h)
 ):=blockEq (by kernel_rfl)
theorem w6_ (T:Tab)(k j0:Nat)(a b c d e f g:AV)(h:Heap):d5_ T k (j0+1) a b c d e f g h =
 oa (lenS d) fun i=>oa (binV .lss .scalar g i) fun l=>cond2 l
 (
 oa (lenS d) fun m=>oa (binV .sub .scalar m (.int .i64 1)) fun n=>oa (binV .eql .scalar g n) fun o=>ob (gd o false (some (g,h)) h) fun p q=>ob (gd o false (pure1 q (binV .add .scalar p (.int .i64 1))) q) fun r s=>ob (gd o false (pure1 s (fldA 2 f)) s) fun t u=>ob (gd o false (pure1 u (ld1 u t)) u) fun v w=>ob (gd o false (pure1 w (binV .geq .scalar r v)) w) fun x y=>oa (pickV o (.bool true) x) fun z=>cond2 z
 (
 oa (idxS 1 e g) fun aa=>oa (ld1 y aa) fun ab=>ob (evalFn T k a0_ [a,ab,c] y) fun ac ad=>g6_ T k j0 a b c d e f g o ad
 )
 (
 g6_ T k j0 a b c d e f g o y
 )
 )
 (
 a0c T k a b c f h
 ):=loopEq (by kernel_rfl)
theorem w7_ (T:Tab)(k:Nat)(a b c d e f:AV)(h:Heap):n8_ T k a b c d e f h =
 d5_ T k k a b c d e f (.int .i64 0) h:=blockEq (by kernel_rfl)
theorem a5A (T:Tab)(k:Nat)(a b c d e f:AV)(h:Heap):runF T k n7_ [a,b,c,d,e,f] h =
 ob (newVar h (AV.cells b)) fun g i=>oa (fldA 3 g) fun l=>oa (ld1 i l) fun m=>oa (binV .gtr .scalar m (.int .i64 0)) fun n=>cond2 n
 (
 oa (idxS 1 e (.int .i64 0)) fun o=>oa (ld1 i o) fun p=>ob (evalFn T k a0_ [a,c,p] i) fun q r=>n8_ T k a c d e f g r
 )
 (
 n8_ T k a c d e f g i
 ):=runEq (by kernel_rfl)
noncomputable def a4n:MCode:=.seq [20] (.seq [19] (.region [tM 19 9,tS 20 (.bin .lss .scalar (tT 19) (tK 5))]) (.cond (tT 20) .skip (.exit 0))) (.seq [43] (.block 1 (.seq [23,24,25,26,27,28,29,30,31,32,33,34,35,36,37,38,39,40,41,42] (.regionD 44 [dM 0 44 1,dF 1 45 0 4,dL 2 46 45,dM 3 47 2,dM 4 48 9,tD 5 49 (.idxSl 5 (tT 46) (tT 47)),tD 6 50 (.idxArr 5 1 (tT 49) (tT 48)),dL 7 51 50,tD 8 52 (.idxSl 1 (tT 44) (tT 51)),dL 9 53 52,dM 10 54 1,dF 11 55 0 4,dL 12 56 55,dM 13 57 3,dM 14 58 9,tD 15 59 (.idxSl 5 (tT 56) (tT 57)),tD 16 60 (.idxArr 5 1 (tT 59) (tT 58)),dL 17 61 60,tD 18 62 (.idxSl 1 (tT 54) (tT 61)),dL 19 63 62,tD 20 64 (.bin .neq .scalar (tT 53) (tT 63))] [(23,44),(24,45),(25,46),(26,47),(27,48),(28,49),(29,50),(30,51),(31,52),(32,53),(33,54),(34,55),(35,56),(36,57),(37,58),(38,59),(39,60),(40,61),(41,62),(42,63),(43,64)]) (.cond (tT 43) (.seq [1,2,3,4,9,43] (.region [tS 8 (.mv (.const (.bool false)))]) .ret) .skip))) (.region [tM 21 9,tS 22 (.bin .add .scalar (tT 21) (tK 1)),tM 9 22]))
def a4o:Res:=[(8,none)]
noncomputable def a0W:MFn:=⟨44,a4o,.seq [0,8] (.region [tS 4 (.box (tT 0)),tS 8 (.mv (.const (.bool false)))]) (.seq [18] (.seq [10,11,12,13,14,15,16,17] (.regionD 44 [dM 0 44 1,dM 1 45 2,tD 2 46 (.idxSl 1 (tT 44) (tT 45)),dL 3 47 46,dM 4 48 1,dM 5 49 3,tD 6 50 (.idxSl 1 (tT 48) (tT 49)),dL 7 51 50,tD 8 52 (.bin .neq .scalar (tT 47) (tT 51))] [(10,44),(11,45),(12,46),(13,47),(14,48),(15,49),(16,50),(17,51),(18,52)]) (.cond (tT 18) (.seq [1,2,3,4,18] (.region [tS 8 (.mv (.const (.bool false)))]) .ret) .skip)) (.seq [1,2,3,4,9,20] (.seq [] (.region [tS 9 (.mv (tK 0))]) (.block 0 (.loop [21,22] a4n))) (.seq [] (.region [tS 8 (.mv (.const (.bool true)))]) .ret)))⟩
noncomputable def v1_ (T:Tab)(k j0:Nat)(a b c d e:AV)(h:Heap):Option (AV × Heap):=
 loopB T k a4o j0 [21,22] a4n [.blk 0,.seq [1,2,3,4,9,20] (.seq [] (.region [⟨some 8,.op (.mv (.const (.bool true))),none⟩]) .ret)] [.u,a,b,c,d,.u,.u,.u,.u,e,.u,.u,.u,.u,.u,.u,.u,.u,.u,.u,.u,.u,.u,.u,.u,.u,.u,.u,.u,.u,.u,.u,.u,.u,.u,.u,.u,.u,.u,.u,.u,.u,.u,.u] h
theorem a3b (T:Tab)(k j0:Nat)(a b c d e:AV)(h:Heap):v1_ T k (j0+1) a b c d e h =
 oa (binV .lss .scalar e (.int .i64 5)) fun f=>cond2 f
 (
 oa (fldA 0 d) fun g=>oa (ld1 h g) fun i=>oa (idxS 5 i b) fun l=>oa (idxA 5 1 l e) fun m=>oa (ld1 h m) fun n=>oa (idxS 1 a n) fun o=>oa (ld1 h o) fun p=>oa (fldA 0 d) fun q=>oa (ld1 h q) fun r=>oa (idxS 5 r c) fun s=>oa (idxA 5 1 s e) fun t=>oa (ld1 h t) fun u=>oa (idxS 1 a u) fun v=>oa (ld1 h v) fun w=>oa (binV .neq .scalar p w) fun x=>cond2 x
 (
 some ((.bool false),h)
 )
 (
 oa (binV .add .scalar e (.int .i64 1)) fun y=>v1_ T k j0 a b c d y h
 )
 )
 (
 some ((.bool true),h)
 ):=loopEq (by kernel_rfl)
theorem b0S (T:Tab)(k:Nat)(a b c d:AV)(h:Heap):runF T k a0W [a,b,c,d] h =
 ob (newVar h (AV.cells a)) fun e f=>oa (idxS 1 b c) fun g=>oa (ld1 f g) fun i=>oa (idxS 1 b d) fun l=>oa (ld1 f l) fun m=>oa (binV .neq .scalar i m) fun n=>cond2 n
 (
 some ((.bool false),f)
 )
 (
 v1_ T k k b c d e (.int .i64 0) f
 ):=runEq (by kernel_rfl)
def a7m:Res:=[(2,some (some 5))]
noncomputable def u2_:MFn:=⟨72,a7m,.seq [] (.region [tS 2 (.alloc [.int .i64 0,.int .i64 0,.int .i64 0,.int .i64 0,.nils])]) (.seq [5,6,7,8,9] (.region [tM 6 0,⟨some 7,.call a4_ [(tT 6)],none⟩,tM 5 7,tS 8 (.extract 0 (tT 5)),tS 9 (.extract 1 (tT 5)),tM 3 8,tM 4 9]) (.seq [11] (.seq [4,10] (.region [tM 10 4,tS 11 (.un .not (tT 10))]) (.cond (tT 11) (.seq [0,3,11,12,13] (.region [tM 12 0,⟨some 13,.call a5_ [(tT 12),(tK 3)],none⟩,tW 5 2 13]) .ret) .skip)) (.seq [22] (.seq [14,15,16,17,18,19,20,21] (.region [tM 14 3,tS 15 (.bin .eql .scalar (tT 14) (.const (.int .u8 40))),tM 16 15,⟨some 17,.op (.mv (tT 0)),some (16,true)⟩,⟨some 18,.op (.nilCheck (tT 17)),some (16,true)⟩,⟨some 19,.op (.fieldAddr 2 (tT 18)),some (16,true)⟩,⟨some 20,.op (.load none (tT 19)),some (16,true)⟩,⟨some 21,.op (.bin .geq .scalar (tT 20) (tK 30)),some (16,true)⟩,tS 22 (.pick (tT 16) (tT 21) (.const (.bool false)))]) (.cond (tT 22) (.seq [0,3,22,23,24] (.region [tM 23 0,⟨some 24,.call a5_ [(tT 23),(tK 4)],none⟩,tW 5 2 24]) .ret) .skip)) (.seq [25,26,27,28,29,30,31] (.region [tM 25 0,tN 26 25,tF 27 1 26,tL 28 27,tS 29 (.bin .add .scalar (tT 28) (tK 1)),tN 30 25,tF 31 1 30,tW 1 31 29]) (.seq [58] (.block 0 (.seq [33,34,35] (.region [tM 33 3,⟨some 34,.call b4_ [(tT 33)],none⟩,tS 35 (.bin .geq .scalar (tT 34) (tK 0)),tM 32 35]) (.cond (tT 32) (.seq [0,3,32,36,37,38,39,40] (.region [tM 36 3,⟨some 37,.call b4_ [(tT 36)],none⟩,tS 38 (.convI .u64 (tT 37)),tS 39 (.bin .shl .scalar (tK 1) (tT 38)),tS 40 (.build [.int .i64 0,.int .i64 0,.int .i64 0,.int .i64 0,.nils] [(0,1,(tK 1)),(1,1,(tT 39))]),tW 5 2 40]) .ret) (.seq [32,42,43] (.region [tM 42 3,tS 43 (.bin .eql .scalar (tT 42) (.const (.int .u8 46))),tM 41 43]) (.cond (tT 41) (.seq [0,3,41,44] (.region [tS 44 (.build [.int .i64 0,.int .i64 0,.int .i64 0,.int .i64 0,.nils] [(0,1,(tK 1)),(1,1,(tK 31))]),tW 5 2 44]) .ret) (.seq [41,46,47] (.region [tM 46 3,tS 47 (.bin .eql .scalar (tT 46) (.const (.int .u8 48))),tM 45 47]) (.cond (tT 45) (.seq [0,3,45,48] (.region [tS 48 (.build [.int .i64 0,.int .i64 0,.int .i64 0,.int .i64 0,.nils] [(0,1,(tK 2))]),tW 5 2 48]) .ret) (.seq [45,50,51] (.region [tM 50 3,tS 51 (.bin .eql .scalar (tT 50) (.const (.int .u8 95))),tM 49 51]) (.cond (tT 49) (.seq [0,3,49,52] (.region [tS 52 (.build [.int .i64 0,.int .i64 0,.int .i64 0,.int .i64 0,.nils] [(0,1,(tK 3))]),tW 5 2 52]) .ret) (.seq [49,54,55] (.region [tM 54 3,tS 55 (.bin .eql .scalar (tT 54) (.const (.int .u8 91))),tM 53 55]) (.cond (tT 53) (.seq [0,3,53,56,57] (.region [tM 56 0,⟨some 57,.call f6_ [(tT 56)],none⟩,tW 5 2 57]) .ret) (.seq [3,53,59,60] (.region [tM 59 3,tS 60 (.bin .eql .scalar (tT 59) (.const (.int .u8 40))),tM 58 60]) (.cond (tT 58) (.seq [0,58,61,62] (.region [tM 61 0,⟨some 62,.call f7_ [(tT 61)],none⟩,tW 5 2 62]) .ret) .skip))))))))))))) (.seq [63,64,65,66,67,68,69] (.region [tM 63 0,tN 64 63,tF 65 1 64,tL 66 65,tS 67 (.bin .sub .scalar (tT 66) (tK 1)),tN 68 63,tF 69 1 68,tW 1 69 67]) (.seq [0,70,71] (.region [tM 70 0,⟨some 71,.call a5_ [(tT 70),(tK 3)],none⟩,tW 5 2 71]) .ret)))))))⟩
theorem a7n (T:Tab)(k:Nat)(a:AV)(h:Heap):runF T k u2_ [a] h =
 ob (newVar h [.int .i64 0,.int .i64 0,.int .i64 0,.int .i64 0,.nils]) fun b c=>ob (evalFn T k a4_ [a] c) fun d e=>oa (extr 0 d) fun f=>oa (extr 1 d) fun g=>oa (unV .not g) fun i=>cond2 i
 (
 ob (evalFn T k a5_ [a,(.int .i64 3)] e) fun l m=>oh (stN 5 m b l) fun n=>oa (ldN 5 n b) fun o=>some (o,n)
 )
 (
 oa (binV .eql .scalar f (.int .u8 40)) fun p=>ob (gd p true (some (a,e)) e) fun q r=>ob (gd p true (pure1 r (nilCk q)) r) fun s t=>ob (gd p true (pure1 t (fldA 2 s)) t) fun u v=>ob (gd p true (pure1 v (ld1 v u)) v) fun w x=>ob (gd p true (pure1 x (binV .geq .scalar w (.int .i64 30))) x) fun y z=>oa (pickV p y (.bool false)) fun aa=>cond2 aa
 (
 ob (evalFn T k a5_ [a,(.int .i64 4)] z) fun ab ac=>oh (stN 5 ac b ab) fun ad=>oa (ldN 5 ad b) fun ae=>some (ae,ad)
 )
 (
 oa (nilCk a) fun af=>oa (fldA 1 af) fun ag=>oa (ld1 z ag) fun ai=>oa (binV .add .scalar ai (.int .i64 1)) fun al=>oa (nilCk a) fun am=>oa (fldA 1 am) fun an=>oh (stN 1 z an al) fun ao=>ob (evalFn T k b4_ [f] ao) fun ap aq=>oa (binV .geq .scalar ap (.int .i64 0)) fun ar=>cond2 ar
 (
 ob (evalFn T k b4_ [f] aq) fun as au=>oa (convV .u64 as) fun av=>oa (binV .shl .scalar (.int .i64 1) av) fun aw=>oa (buildV [.int .i64 0,.int .i64 0,.int .i64 0,.int .i64 0,.nils] [(0,1,(.int .i64 1)),(1,1,aw)]) fun ax=>oh (stN 5 au b ax) fun ay=>oa (ldN 5 ay b) fun az=>some (az,ay)
 )
 (
 oa (binV .eql .scalar f (.int .u8 46)) fun a0=>cond2 a0
 (
 oa (buildV [.int .i64 0,.int .i64 0,.int .i64 0,.int .i64 0,.nils] [(0,1,(.int .i64 1)),(1,1,(.int .i64 31))]) fun a1=>oh (stN 5 aq b a1) fun a2=>oa (ldN 5 a2 b) fun a3=>some (a3,a2)
 )
 (
 oa (binV .eql .scalar f (.int .u8 48)) fun a4=>cond2 a4
 (
 oa (buildV [.int .i64 0,.int .i64 0,.int .i64 0,.int .i64 0,.nils] [(0,1,(.int .i64 2))]) fun a5=>oh (stN 5 aq b a5) fun a6=>oa (ldN 5 a6 b) fun a7=>some (a7,a6)
 )
 (
 oa (binV .eql .scalar f (.int .u8 95)) fun a8=>cond2 a8
 (
 oa (buildV [.int .i64 0,.int .i64 0,.int .i64 0,.int .i64 0,.nils] [(0,1,(.int .i64 3))]) fun a9=>oh (stN 5 aq b a9) fun ba=>oa (ldN 5 ba b) fun bb=>some (bb,ba)
 )
 (
 oa (binV .eql .scalar f (.int .u8 91)) fun bc=>cond2 bc
 (
 ob (evalFn T k f6_ [a] aq) fun bd be=>oh (stN 5 be b bd) fun bf=>oa (ldN 5 bf b) fun bg=>some (bg,bf)
 )
 (
 oa (binV .eql .scalar f (.int .u8 40)) fun bi=>cond2 bi
 (
 ob (evalFn T k f7_ [a] aq) fun bl bm=>oh (stN 5 bm b bl) fun bn=>oa (ldN 5 bn b) fun bo=>some (bo,bn)
 )
 (
 oa (nilCk a) fun bp=>oa (fldA 1 bp) fun bq=>oa (ld1 aq bq) fun br=>oa (binV .sub .scalar br (.int .i64 1)) fun bs=>oa (nilCk a) fun bt=>oa (fldA 1 bt) fun bu=>oh (stN 1 aq bu bs) fun bv=>ob (evalFn T k a5_ [a,(.int .i64 3)] bv) fun bw bx=>oh (stN 5 bx b bw) fun bz=>oa (ldN 5 bz b) fun b0=>some (b0,bz)
 )
 )
 )
 )
 )
 )
 )
 ):=runEq (by kernel_rfl)
noncomputable def a1i:MCode:=.seq [16] (.seq [15] (.region [tM 15 7,tS 16 (.bin .lss .scalar (tT 15) (tK 2))]) (.cond (tT 16) .skip (.exit 0))) (.seq [69,70,71,72,73,74,75] (.block 1 (.seq [19,20,21,22,23] (.region [tM 20 0,⟨some 21,.call a4_ [(tT 20)],none⟩,tM 19 21,tS 22 (.extract 0 (tT 19)),tS 23 (.extract 1 (tT 19)),tM 8 22,tM 9 23]) (.seq [9,33] (.seq [24,25,26,27,28,29,30,31,32] (.region [tM 24 9,tS 25 (.un .not (tT 24)),tM 26 25,⟨some 27,.op (.mv (tT 8)),some (26,false)⟩,⟨some 28,.op (.bin .lss .scalar (tT 27) (.const (.int .u8 48))),some (26,false)⟩,tS 29 (.pick (tT 26) (.const (.bool true)) (tT 28)),tM 30 29,⟨some 31,.op (.mv (tT 8)),some (30,false)⟩,⟨some 32,.op (.bin .gtr .scalar (tT 31) (.const (.int .u8 57))),some (30,false)⟩,tS 33 (.pick (tT 30) (.const (.bool true)) (tT 32))]) (.cond (tT 33) (.seq [5,34,35,36,37,38] (.seq [3,6,7,8,9,33] (.region [tM 34 9]) (.cond (tT 34) (.region [tM 35 0,tM 36 5,tN 37 35,tF 38 1 37,tW 1 38 36]) .skip)) (.seq [0,39,40] (.region [tM 39 0,⟨some 40,.call a5_ [(tT 39),(tK 3)],none⟩,tW 5 4 40]) .ret)) .skip)) (.seq [8,41,42,43,44,45] (.region [tM 41 7,tM 42 8,tS 43 (.bin .sub .scalar (tT 42) (.const (.int .u8 48))),tS 44 (.convI .i64 (tT 43)),tS 45 (.idxArr 2 1 (tT 6) (tT 41)),tW 1 45 44]) (.seq [46,47,48,49,50,51,52] (.region [tM 46 0,tN 47 46,tF 48 1 47,tL 49 48,tS 50 (.bin .add .scalar (tT 49) (tK 1)),tN 51 46,tF 52 1 51,tW 1 52 50]) (.seq [53,54,55,56,57] (.region [tM 54 0,⟨some 55,.call a4_ [(tT 54)],none⟩,tM 53 55,tS 56 (.extract 0 (tT 53)),tS 57 (.extract 1 (tT 53)),tM 8 56,tM 9 57]) (.seq [66] (.seq [8,9,58,59,60,61,62,63,64,65] (.region [tM 58 9,tS 59 (.un .not (tT 58)),tM 60 59,⟨some 61,.op (.mv (tT 8)),some (60,false)⟩,⟨some 62,.op (.build [.int .u8 0,.int .u8 0] [(0,1,(.const (.int .u8 44))),(1,1,(.const (.int .u8 125)))]),some (60,false)⟩,⟨some 63,.op (.mv (tT 7)),some (60,false)⟩,⟨some 64,.op (.ixArr 2 1 none (tT 62) (tT 63)),some (60,false)⟩,⟨some 65,.op (.bin .neq .scalar (tT 61) (tT 64)),some (60,false)⟩,tS 66 (.pick (tT 60) (.const (.bool true)) (tT 65))]) (.cond (tT 66) (.seq [0,3,5,6,7,66,67,68] (.region [tM 67 0,⟨some 68,.call a5_ [(tT 67),(tK 3)],none⟩,tW 5 4 68]) .ret) .skip)) (.region [tM 69 0,tN 70 69,tF 71 1 70,tL 72 71,tS 73 (.bin .add .scalar (tT 72) (tK 1)),tN 74 69,tF 75 1 74,tW 1 75 73])))))))) (.region [tM 17 7,tS 18 (.bin .add .scalar (tT 17) (tK 1)),tM 7 18]))
noncomputable def r1_:MCode:=.seq [0,5,80] (.seq [76,77,78,79] (.region [tS 76 (.idxArr 2 1 (tT 6) (tK 0)),tL 77 76,tS 78 (.idxArr 2 1 (tT 6) (tK 1)),tL 79 78,tS 80 (.bin .gtr .scalar (tT 77) (tT 79))]) (.cond (tT 80) (.seq [3,5,6,80,81,82,83,84] (.region [tM 81 0,tM 82 5,tN 83 81,tF 84 1 83,tW 1 84 82]) (.seq [0,85,86] (.region [tM 85 0,⟨some 86,.call a5_ [(tT 85),(tK 3)],none⟩,tW 5 4 86]) .ret)) .skip)) (.seq [3,6,87,88,89,90,91,92,93] (.region [tS 87 (.idxArr 2 1 (tT 6) (tK 0)),tL 88 87,tS 89 (.idxArr 2 1 (tT 6) (tK 1)),tL 90 89,tA 91 5 3,tS 92 (.buildSlice 5 1 [.int .i64 0,.int .i64 0,.int .i64 0,.int .i64 0,.nils] [(0,5,(tT 91))]),tS 93 (.build [.int .i64 0,.int .i64 0,.int .i64 0,.int .i64 0,.nils] [(0,1,(tK 9)),(2,1,(tT 88)),(3,1,(tT 90)),(4,1,(tT 92))]),tW 5 4 93]) .ret)
def r2_:Res:=[(4,some (some 5))]
noncomputable def r3_:MFn:=⟨94,r2_,.seq [1] (.region [tS 3 (.box (tT 1)),tS 4 (.alloc [.int .i64 0,.int .i64 0,.int .i64 0,.int .i64 0,.nils])]) (.seq [10,11,12,13,14] (.region [tM 10 0,tN 11 10,tF 12 1 11,tL 13 12,tS 14 (.bin .sub .scalar (tT 13) (tK 1)),tM 5 14]) (.seq [] (.region [tS 6 (.alloc [.int .i64 0,.int .i64 0])]) (.seq [7,16] (.seq [] (.region [tS 7 (.mv (tK 0))]) (.block 0 (.loop [17,18] a1i))) (.lab r1_))))⟩
noncomputable def f0_ (T:Tab)(k j0:Nat)(a b c d e f:AV)(h:Heap):Option (AV × Heap):=
 loopB T k r2_ j0 [17,18] a1i [.blk 0,.seq [7,16] (.lab r1_)] [a,.u,.u,b,c,d,e,f,.u,.u,.u,.u,.u,.u,.u,.u,.u,.u,.u,.u,.u,.u,.u,.u,.u,.u,.u,.u,.u,.u,.u,.u,.u,.u,.u,.u,.u,.u,.u,.u,.u,.u,.u,.u,.u,.u,.u,.u,.u,.u,.u,.u,.u,.u,.u,.u,.u,.u,.u,.u,.u,.u,.u,.u,.u,.u,.u,.u,.u,.u,.u,.u,.u,.u,.u,.u,.u,.u,.u,.u,.u,.u,.u,.u,.u,.u,.u,.u,.u,.u,.u,.u,.u,.u] h
noncomputable def a1j (T:Tab)(k:Nat)(a b c d e:AV)(h:Heap):Option (AV × Heap):=
 evB T k r2_ r1_ [] [a,.u,.u,b,c,d,e,.u,.u,.u,.u,.u,.u,.u,.u,.u,.u,.u,.u,.u,.u,.u,.u,.u,.u,.u,.u,.u,.u,.u,.u,.u,.u,.u,.u,.u,.u,.u,.u,.u,.u,.u,.u,.u,.u,.u,.u,.u,.u,.u,.u,.u,.u,.u,.u,.u,.u,.u,.u,.u,.u,.u,.u,.u,.u,.u,.u,.u,.u,.u,.u,.u,.u,.u,.u,.u,.u,.u,.u,.u,.u,.u,.u,.u,.u,.u,.u,.u,.u,.u,.u,.u,.u,.u] h
theorem a4K (T:Tab)(k:Nat)(a b c d e:AV)(h:Heap):a1j T k a b c d e h =
 oa (idxA 2 1 e (.int .i64 0)) fun f=>oa (ld1 h f) fun g=>oa (idxA 2 1 e (.int .i64 1)) fun i=>oa (ld1 h i) fun l=>oa (binV .gtr .scalar g l) fun m=>cond2 m
 (
 oa (nilCk a) fun n=>oa (fldA 1 n) fun o=>oh (stN 1 h o d) fun p=>ob (evalFn T k a5_ [a,(.int .i64 3)] p) fun q r=>oh (stN 5 r c q) fun s=>oa (ldN 5 s c) fun t=>some (t,s)
 )
 (
 oa (idxA 2 1 e (.int .i64 0)) fun u=>oa (ld1 h u) fun v=>oa (idxA 2 1 e (.int .i64 1)) fun w=>oa (ld1 h w) fun x=>oa (ldN 5 h b) fun y=>ob (buildSl 5 1 [.int .i64 0,.int .i64 0,.int .i64 0,.int .i64 0,.nils] [(0,5,y)] h) fun z aa=>oa (buildV [.int .i64 0,.int .i64 0,.int .i64 0,.int .i64 0,.nils] [(0,1,(.int .i64 9)),(2,1,v),(3,1,x),(4,1,z)]) fun ab=>oh (stN 5 aa c ab) fun ac=>oa (ldN 5 ac c) fun ad=>some (ad,ac)
 ):=blockEq (by kernel_rfl)
theorem z3_ (T:Tab)(k j0:Nat)(a b c d e f:AV)(h:Heap):f0_ T k (j0+1) a b c d e f h =
 oa (binV .lss .scalar f (.int .i64 2)) fun g=>cond2 g
 (
 ob (evalFn T k a4_ [a] h) fun i l=>oa (extr 0 i) fun m=>oa (extr 1 i) fun n=>oa (unV .not n) fun o=>ob (gd o false (some (m,l)) l) fun p q=>ob (gd o false (pure1 q (binV .lss .scalar p (.int .u8 48))) q) fun r s=>oa (pickV o (.bool true) r) fun t=>ob (gd t false (some (m,s)) s) fun u v=>ob (gd t false (pure1 v (binV .gtr .scalar u (.int .u8 57))) v) fun w x=>oa (pickV t (.bool true) w) fun y=>cond2 y
 (
 cond2 n
 (
 oa (nilCk a) fun z=>oa (fldA 1 z) fun aa=>oh (stN 1 x aa d) fun ab=>ob (evalFn T k a5_ [a,(.int .i64 3)] ab) fun ac ad=>oh (stN 5 ad c ac) fun ae=>oa (ldN 5 ae c) fun af=>some (af,ae)
 )
 (
 ob (evalFn T k a5_ [a,(.int .i64 3)] x) fun ag ai=>oh (stN 5 ai c ag) fun al=>oa (ldN 5 al c) fun am=>some (am,al)
 )
 )
 (
 oa (binV .sub .scalar m (.int .u8 48)) fun an=>oa (convV .i64 an) fun ao=>oa (idxA 2 1 e f) fun ap=>oh (stN 1 x ap ao) fun aq=>oa (nilCk a) fun ar=>oa (fldA 1 ar) fun as=>oa (ld1 aq as) fun au=>oa (binV .add .scalar au (.int .i64 1)) fun av=>oa (nilCk a) fun aw=>oa (fldA 1 aw) fun ax=>oh (stN 1 aq ax av) fun ay=>ob (evalFn T k a4_ [a] ay) fun az a0=>oa (extr 0 az) fun a1=>oa (extr 1 az) fun a2=>oa (unV .not a2) fun a3=>ob (gd a3 false (some (a1,a0)) a0) fun a4 a5=>ob (gd a3 false (pure1 a5 (buildV [.int .u8 0,.int .u8 0] [(0,1,(.int .u8 44)),(1,1,(.int .u8 125))])) a5) fun a6 a7=>ob (gd a3 false (some (f,a7)) a7) fun a8 a9=>ob (gd a3 false (pure1 a9 (ixA 2 1 none a6 a8)) a9) fun ba bb=>ob (gd a3 false (pure1 bb (binV .neq .scalar a4 ba)) bb) fun bc bd=>oa (pickV a3 (.bool true) bc) fun be=>cond2 be
 (
 ob (evalFn T k a5_ [a,(.int .i64 3)] bd) fun bf bg=>oh (stN 5 bg c bf) fun bi=>oa (ldN 5 bi c) fun bl=>some (bl,bi)
 )
 (
 oa (nilCk a) fun bm=>oa (fldA 1 bm) fun bn=>oa (ld1 bd bn) fun bo=>oa (binV .add .scalar bo (.int .i64 1)) fun bp=>oa (nilCk a) fun bq=>oa (fldA 1 bq) fun br=>oh (stN 1 bd br bp) fun bs=>oa (binV .add .scalar f (.int .i64 1)) fun bt=>f0_ T k j0 a b c d e bt bs
 )
 )
 )
 (
 a1j T k a b c d e h
 ):=loopEq (by kernel_rfl)
theorem a6I (T:Tab)(k:Nat)(a b:AV)(h:Heap):runF T k r3_ [a,b] h =
 ob (newVar h (AV.cells b)) fun c d=>ob (newVar d [.int .i64 0,.int .i64 0,.int .i64 0,.int .i64 0,.nils]) fun e f=>oa (nilCk a) fun g=>oa (fldA 1 g) fun i=>oa (ld1 f i) fun l=>oa (binV .sub .scalar l (.int .i64 1)) fun m=>ob (newVar f [.int .i64 0,.int .i64 0]) fun n o=>f0_ T k k a c e m n (.int .i64 0) o:=runEq (by kernel_rfl)
noncomputable def a5h:MCode:=.seq [5] (.seq [4] (.region [tM 4 3,tS 5 (.bin .lss .scalar (tT 4) (tK 5))]) (.cond (tT 5) .skip (.exit 0))) (.seq [11] (.block 1 (.seq [8,9,10] (.region [tM 8 3,tS 9 (.ixStr (.const (.str ⟨#[119,98,99,102,116]⟩)) (tT 8)),tM 10 0,tS 11 (.bin .eql .scalar (tT 9) (tT 10))]) (.cond (tT 11) (.seq [0,3,11,12] (.region [tM 12 3,tM 2 12]) .ret) .skip))) (.region [tM 6 3,tS 7 (.bin .add .scalar (tT 6) (tK 1)),tM 3 7]))
def a5i:Res:=[(2,none)]
noncomputable def a1M:MFn:=⟨13,a5i,.seq [2] (.region [tS 2 (.mv (tK 0))]) (.seq [0,3,5] (.seq [] (.region [tS 3 (.mv (tK 0))]) (.block 0 (.loop [6,7] a5h))) (.seq [] (.region [tS 2 (.mv (tK (-1)))]) .ret))⟩
noncomputable def w4_ (T:Tab)(k j0:Nat)(a b:AV)(h:Heap):Option (AV × Heap):=
 loopB T k a5i j0 [6,7] a5h [.blk 0,.seq [0,3,5] (.seq [] (.region [⟨some 2,.op (.mv (.const (.int .i64 (-1)))),none⟩]) .ret)] [a,.u,.u,b,.u,.u,.u,.u,.u,.u,.u,.u,.u] h
theorem a3v (T:Tab)(k j0:Nat)(a b:AV)(h:Heap):w4_ T k (j0+1) a b h =
 oa (binV .lss .scalar b (.int .i64 5)) fun c=>cond2 c
 (
 oa (ixS (.str ⟨#[119,98,99,102,116]⟩) b) fun d=>oa (binV .eql .scalar d a) fun e=>cond2 e
 (
 some (b,h)
 )
 (
 oa (binV .add .scalar b (.int .i64 1)) fun f=>w4_ T k j0 a f h
 )
 )
 (
 some ((.int .i64 (-1)),h)
 ):=loopEq (by kernel_rfl)
theorem b1F (T:Tab)(k:Nat)(a:AV)(h:Heap):runF T k a1M [a] h =
 w4_ T k k a (.int .i64 0) h:=runEq (by kernel_rfl)
noncomputable def a1k:MCode:=.block 1 (.seq [6,7,8,9,10] (.region [tM 7 0,⟨some 8,.call a4_ [(tT 7)],none⟩,tM 6 8,tS 9 (.extract 0 (tT 6)),tS 10 (.extract 1 (tT 6)),tM 4 9,tM 5 10]) (.seq [19] (.seq [11,12,13,14,15,16,17,18] (.region [tM 11 5,tM 12 11,⟨some 13,.op (.mv (tT 4)),some (12,true)⟩,⟨some 14,.op (.bin .eql .scalar (tT 13) (.const (.int .u8 93))),some (12,true)⟩,tS 15 (.pick (tT 12) (tT 14) (.const (.bool false))),tM 16 15,⟨some 17,.op (.mv (tT 3)),some (16,true)⟩,⟨some 18,.op (.bin .gtr .scalar (tT 17) (tK 0)),some (16,true)⟩,tS 19 (.pick (tT 16) (tT 18) (.const (.bool false)))]) (.cond (tT 19) (.seq [0,4,5,19,20,21,22,23,24,25,26] (.region [tM 20 0,tN 21 20,tF 22 1 21,tL 23 22,tS 24 (.bin .add .scalar (tT 23) (tK 1)),tN 25 20,tF 26 1 25,tW 1 26 24]) (.seq [3,27,28] (.region [tM 27 3,tS 28 (.build [.int .i64 0,.int .i64 0,.int .i64 0,.int .i64 0,.nils] [(0,1,(tK 1)),(1,1,(tT 27))]),tW 5 2 28]) .ret)) .skip)) (.seq [35] (.seq [5,29,30,31,32,33,34] (.region [tM 29 5,tS 30 (.un .not (tT 29)),tM 31 30,⟨some 32,.op (.mv (tT 4)),some (31,false)⟩,⟨some 33,.call b4_ [(tT 32)],some (31,false)⟩,⟨some 34,.op (.bin .lss .scalar (tT 33) (tK 0)),some (31,false)⟩,tS 35 (.pick (tT 31) (.const (.bool true)) (tT 34))]) (.cond (tT 35) (.seq [0,3,4,35,36,37] (.region [tM 36 0,⟨some 37,.call a5_ [(tT 36),(tK 3)],none⟩,tW 5 2 37]) .ret) .skip)) (.seq [4,38,39,40,41,42,43] (.region [tM 38 3,tM 39 4,⟨some 40,.call b4_ [(tT 39)],none⟩,tS 41 (.convI .u64 (tT 40)),tS 42 (.bin .shl .scalar (tK 1) (tT 41)),tS 43 (.bin .or .scalar (tT 38) (tT 42)),tM 3 43]) (.region [tM 44 0,tN 45 44,tF 46 1 45,tL 47 46,tS 48 (.bin .add .scalar (tT 47) (tK 1)),tN 49 44,tF 50 1 49,tW 1 50 48])))))
def a1l:Res:=[(2,some (some 5))]
noncomputable def r4_:MFn:=⟨51,a1l,.seq [] (.region [tS 2 (.alloc [.int .i64 0,.int .i64 0,.int .i64 0,.int .i64 0,.nils])]) (.seq [] (.region [tS 3 (.mv (tK 0))]) (.block 0 (.loop [44,45,46,47,48,49,50] a1k)))⟩
noncomputable def i7_ (T:Tab)(k j0:Nat)(a b c:AV)(h:Heap):Option (AV × Heap):=
 loopB T k a1l j0 [44,45,46,47,48,49,50] a1k [.blk 0] [a,.u,b,c,.u,.u,.u,.u,.u,.u,.u,.u,.u,.u,.u,.u,.u,.u,.u,.u,.u,.u,.u,.u,.u,.u,.u,.u,.u,.u,.u,.u,.u,.u,.u,.u,.u,.u,.u,.u,.u,.u,.u,.u,.u,.u,.u,.u,.u,.u,.u] h
theorem a4L (T:Tab)(k j0:Nat)(a b c:AV)(h:Heap):i7_ T k (j0+1) a b c h =
 ob (evalFn T k a4_ [a] h) fun d e=>oa (extr 0 d) fun f=>oa (extr 1 d) fun g=>ob (gd g true (some (f,e)) e) fun i l=>ob (gd g true (pure1 l (binV .eql .scalar i (.int .u8 93))) l) fun m n=>oa (pickV g m (.bool false)) fun o=>ob (gd o true (some (c,n)) n) fun p q=>ob (gd o true (pure1 q (binV .gtr .scalar p (.int .i64 0))) q) fun r s=>oa (pickV o r (.bool false)) fun t=>cond2 t
 (
 oa (nilCk a) fun u=>oa (fldA 1 u) fun v=>oa (ld1 s v) fun w=>oa (binV .add .scalar w (.int .i64 1)) fun x=>oa (nilCk a) fun y=>oa (fldA 1 y) fun z=>oh (stN 1 s z x) fun aa=>oa (buildV [.int .i64 0,.int .i64 0,.int .i64 0,.int .i64 0,.nils] [(0,1,(.int .i64 1)),(1,1,c)]) fun ab=>oh (stN 5 aa b ab) fun ac=>oa (ldN 5 ac b) fun ad=>some (ad,ac)
 )
 (
 oa (unV .not g) fun ae=>ob (gd ae false (some (f,s)) s) fun af ag=>ob (gd ae false (evalFn T k b4_ [af] ag) ag) fun ai al=>ob (gd ae false (pure1 al (binV .lss .scalar ai (.int .i64 0))) al) fun am an=>oa (pickV ae (.bool true) am) fun ao=>cond2 ao
 (
 ob (evalFn T k a5_ [a,(.int .i64 3)] an) fun ap aq=>oh (stN 5 aq b ap) fun ar=>oa (ldN 5 ar b) fun as=>some (as,ar)
 )
 (
 ob (evalFn T k b4_ [f] an) fun au av=>oa (convV .u64 au) fun aw=>oa (binV .shl .scalar (.int .i64 1) aw) fun ax=>oa (binV .or .scalar c ax) fun ay=>oa (nilCk a) fun az=>oa (fldA 1 az) fun a0=>oa (ld1 av a0) fun a1=>oa (binV .add .scalar a1 (.int .i64 1)) fun a2=>oa (nilCk a) fun a3=>oa (fldA 1 a3) fun a4=>oh (stN 1 av a4 a2) fun a5=>i7_ T k j0 a b ay a5
 )
 ):=loopEq (by kernel_rfl)
theorem a6J (T:Tab)(k:Nat)(a:AV)(h:Heap):runF T k r4_ [a] h =
 ob (newVar h [.int .i64 0,.int .i64 0,.int .i64 0,.int .i64 0,.nils]) fun b c=>i7_ T k k a b (.int .i64 0) c:=runEq (by kernel_rfl)
def a6K:Res:=[(2,some (some 5))]
noncomputable def r5_:MFn:=⟨43,a6K,.seq [] (.region [tS 2 (.alloc [.int .i64 0,.int .i64 0,.int .i64 0,.int .i64 0,.nils])]) (.seq [6,7,8,9,10,11,12] (.region [tM 6 0,tN 7 6,tF 8 2 7,tL 9 8,tS 10 (.bin .add .scalar (tT 9) (tK 1)),tN 11 6,tF 12 2 11,tW 1 12 10]) (.seq [13,14] (.region [tM 13 0,⟨some 14,.call c0_ [(tT 13)],none⟩,tS 3 (.alloc [.int .i64 0,.int .i64 0,.int .i64 0,.int .i64 0,.nils]),tW 5 3 14]) (.seq [15,16,17,18,19] (.region [tM 16 0,⟨some 17,.call a4_ [(tT 16)],none⟩,tM 15 17,tS 18 (.extract 0 (tT 15)),tS 19 (.extract 1 (tT 15)),tM 4 18,tM 5 19]) (.seq [25] (.seq [4,5,20,21,22,23,24] (.region [tM 20 5,tS 21 (.un .not (tT 20)),tM 22 21,⟨some 23,.op (.mv (tT 4)),some (22,false)⟩,⟨some 24,.op (.bin .neq .scalar (tT 23) (.const (.int .u8 41))),some (22,false)⟩,tS 25 (.pick (tT 22) (.const (.bool true)) (tT 24))]) (.cond (tT 25) (.seq [0,3,25,26,27] (.region [tM 26 0,⟨some 27,.call a5_ [(tT 26),(tK 3)],none⟩,tW 5 2 27]) .ret) .skip)) (.seq [28,29,30,31,32,33,34] (.region [tM 28 0,tN 29 28,tF 30 1 29,tL 31 30,tS 32 (.bin .add .scalar (tT 31) (tK 1)),tN 33 28,tF 34 1 33,tW 1 34 32]) (.seq [0,35,36,37,38,39,40,41] (.region [tM 35 0,tN 36 35,tF 37 2 36,tL 38 37,tS 39 (.bin .sub .scalar (tT 38) (tK 1)),tN 40 35,tF 41 2 40,tW 1 41 39]) (.seq [3,42] (.region [tA 42 5 3,tW 5 2 42]) .ret)))))))⟩
theorem a6L (T:Tab)(k:Nat)(a:AV)(h:Heap):runF T k r5_ [a] h =
 ob (newVar h [.int .i64 0,.int .i64 0,.int .i64 0,.int .i64 0,.nils]) fun b c=>oa (nilCk a) fun d=>oa (fldA 2 d) fun e=>oa (ld1 c e) fun f=>oa (binV .add .scalar f (.int .i64 1)) fun g=>oa (nilCk a) fun i=>oa (fldA 2 i) fun l=>oh (stN 1 c l g) fun m=>ob (evalFn T k c0_ [a] m) fun n o=>ob (newVar o [.int .i64 0,.int .i64 0,.int .i64 0,.int .i64 0,.nils]) fun p q=>oh (stN 5 q p n) fun r=>ob (evalFn T k a4_ [a] r) fun s t=>oa (extr 0 s) fun u=>oa (extr 1 s) fun v=>oa (unV .not v) fun w=>ob (gd w false (some (u,t)) t) fun x y=>ob (gd w false (pure1 y (binV .neq .scalar x (.int .u8 41))) y) fun z aa=>oa (pickV w (.bool true) z) fun ab=>cond2 ab
 (
 ob (evalFn T k a5_ [a,(.int .i64 3)] aa) fun ac ad=>oh (stN 5 ad b ac) fun ae=>oa (ldN 5 ae b) fun af=>some (af,ae)
 )
 (
 oa (nilCk a) fun ag=>oa (fldA 1 ag) fun ai=>oa (ld1 aa ai) fun al=>oa (binV .add .scalar al (.int .i64 1)) fun am=>oa (nilCk a) fun an=>oa (fldA 1 an) fun ao=>oh (stN 1 aa ao am) fun ap=>oa (nilCk a) fun aq=>oa (fldA 2 aq) fun ar=>oa (ld1 ap ar) fun as=>oa (binV .sub .scalar as (.int .i64 1)) fun au=>oa (nilCk a) fun av=>oa (fldA 2 av) fun aw=>oh (stN 1 ap aw au) fun ax=>oa (ldN 5 ax p) fun ay=>oh (stN 5 ax b ay) fun az=>oa (ldN 5 az b) fun a0=>some (a0,az)
 ):=runEq (by kernel_rfl)
def b2p:Res:=[(4,none)]
noncomputable def a2n:MFn:=⟨20,b2p,.seq [0,1,4] (.region [tS 2 (.box (tT 0)),tS 3 (.box (tT 1)),tS 4 (.mv (.const (.bool false)))]) (.seq [9] (.seq [5,6,7,8] (.region [tF 5 1 2,tL 6 5,tF 7 1 3,tL 8 7,tS 9 (.bin .neq .scalar (tT 6) (tT 8))]) (.cond (tT 9) (.seq [2,3,9,10,11,12,13,14] (.region [tF 10 1 2,tL 11 10,tF 12 1 3,tL 13 12,tS 14 (.bin .lss .scalar (tT 11) (tT 13)),tM 4 14]) .ret) .skip)) (.seq [2,3,15,16,17,18,19] (.region [tF 15 0 2,tL 16 15,tF 17 0 3,tL 18 17,tS 19 (.bin .lss .scalar (tT 16) (tT 18)),tM 4 19]) .ret))⟩
theorem b2q (T:Tab)(k:Nat)(a b:AV)(h:Heap):runF T k a2n [a,b] h =
 ob (newVar h (AV.cells a)) fun c d=>ob (newVar d (AV.cells b)) fun e f=>oa (fldA 1 c) fun g=>oa (ld1 f g) fun i=>oa (fldA 1 e) fun l=>oa (ld1 f l) fun m=>oa (binV .neq .scalar i m) fun n=>cond2 n
 (
 oa (fldA 1 c) fun o=>oa (ld1 f o) fun p=>oa (fldA 1 e) fun q=>oa (ld1 f q) fun r=>oa (binV .lss .scalar p r) fun s=>some (s,f)
 )
 (
 oa (fldA 0 c) fun t=>oa (ld1 f t) fun u=>oa (fldA 0 e) fun v=>oa (ld1 f v) fun w=>oa (binV .lss .scalar u w) fun x=>some (x,f)
 ):=runEq (by kernel_rfl)
def b2r:Res:=[(6,none)]
noncomputable def a2o:MFn:=⟨24,b2r,.seq [6] (.region [tS 6 (.mv (.const (.bool false)))]) (.seq [] (.region [tS 7 (.mv (.const (.fn s6_ [] [])))]) (.seq [0,1,2,7,8,9,10,11,12,13,14,15,16,17,18,19,20,21,22,23] (.regionD 24 [dM 0 24 7,dM 1 25 0,tD 2 26 (.nilCheck (tT 25)),dF 3 27 0 26,dL 4 28 27,dM 5 29 1,tD 6 30 (.idxSl 2 (tT 28) (tT 29)),tD 7 31 (.load (some 2) (tT 30)),dM 8 32 0,tD 9 33 (.nilCheck (tT 32)),dF 10 34 0 33,dL 11 35 34,dM 12 36 2,tD 13 37 (.idxSl 2 (tT 35) (tT 36)),tD 14 38 (.load (some 2) (tT 37)),⟨15,⟨some 39,.callV (tT 24) [(tT 31),(tT 38)],none⟩,[]⟩,dM 16 40 39] [(8,24),(9,25),(10,26),(11,27),(12,28),(13,29),(14,30),(15,31),(16,32),(17,33),(18,34),(19,35),(20,36),(21,37),(22,38),(23,39),(6,40)]) .ret))⟩
theorem b2t (T:Tab)(k:Nat)(a b j2:AV)(h:Heap):runF T k a2o [a,b,j2] h =
 oa (nilCk a) fun c=>oa (fldA 0 c) fun d=>oa (ld1 h d) fun e=>oa (idxS 2 e b) fun f=>oa (ldN 2 h f) fun g=>oa (nilCk a) fun i=>oa (fldA 0 i) fun l=>oa (ld1 h l) fun m=>oa (idxS 2 m j2) fun n=>oa (ldN 2 h n) fun o=>ob (callVal (evalFn T k) (.fn s6_ [] []) [g,o] h) fun p q=>some (p,q):=runEq (by kernel_rfl)
def b2Z:Res:=[(2,none)]
noncomputable def a2F:MFn:=⟨36,b2Z,.seq [2] (.region [tS 2 (.mv (.const .nilifc))]) (.seq [5,6,7,8,9,10] (.region [tM 5 0,tN 6 5,tF 7 0 6,tL 8 7,tS 9 (.lenSl (tT 8)),tS 10 (.bin .sub .scalar (tT 9) (tK 1)),tM 3 10]) (.seq [11,12,13,14,15,16,17] (.region [tM 11 0,tN 12 11,tF 13 0 12,tL 14 13,tM 15 3,tX 16 2 14 15,tA 17 2 16,tS 4 (.alloc [.int .i64 0,.int .i64 0]),tW 2 4 17]) (.seq [3,18,19,20,21,22,23,24,25,26] (.region [tM 18 0,tM 19 0,tN 20 19,tF 21 0 20,tL 22 21,tM 23 3,tS 24 (.sliceSl 2 (tT 22) none (some (tT 23)) none),tN 25 18,tF 26 0 25,tW 1 26 24]) (.seq [0,27,28,29,30,31,32,33] (.regionD 36 [dM 0 36 0,tD 1 37 (.nilCheck (tT 36)),dF 2 38 1 37,dL 3 39 38,dF 4 40 0 4,dL 5 41 40,tD 6 42 (.idxSl 1 (tT 39) (tT 41)),tD 7 43 (.store 1 (tT 42) (tK (-1)))] [(27,36),(28,37),(29,38),(30,39),(31,40),(32,41),(33,42)]) (.seq [4,34,35] (.region [tA 34 2 4,tS 35 (.mkIfc 198 (tT 34)),tM 2 35]) .ret)))))⟩
theorem b3a (T:Tab)(k:Nat)(a:AV)(h:Heap):runF T k a2F [a] h =
 oa (nilCk a) fun b=>oa (fldA 0 b) fun c=>oa (ld1 h c) fun d=>oa (lenS d) fun e=>oa (binV .sub .scalar e (.int .i64 1)) fun f=>oa (nilCk a) fun g=>oa (fldA 0 g) fun i=>oa (ld1 h i) fun l=>oa (idxS 2 l f) fun m=>oa (ldN 2 h m) fun n=>ob (newVar h [.int .i64 0,.int .i64 0]) fun o p=>oh (stN 2 p o n) fun q=>oa (nilCk a) fun r=>oa (fldA 0 r) fun s=>oa (ld1 q s) fun t=>oa (slSl 2 t none (some f) none) fun u=>oa (nilCk a) fun v=>oa (fldA 0 v) fun w=>oh (stN 1 q w u) fun x=>oa (nilCk a) fun y=>oa (fldA 1 y) fun z=>oa (ld1 x z) fun aa=>oa (fldA 0 o) fun ab=>oa (ld1 x ab) fun ac=>oa (idxS 1 aa ac) fun ad=>oh (stN 1 x ad (.int .i64 (-1))) fun ae=>oa (ldN 2 ae o) fun af=>some ((.ifc 198 af),ae):=runEq (by kernel_rfl)
def b2u:Res:=[]
noncomputable def a2p:MFn:=⟨34,b2u,.seq [1,6,7,8,9,10] (.region [tM 7 1,tS 8 (.typeAssert 198 (.agg [.int .i64 0,.int .i64 0]) true (tT 7)),tM 6 8,tS 9 (.extract 0 (tT 6)),tS 10 (.extract 1 (tT 6)),tS 4 (.alloc [.int .i64 0,.int .i64 0]),tW 2 4 9,tM 5 10]) (.seq [5] (.region [tM 11 5]) (.cond (tT 11) (.seq [11,12,13,14,15,16,17,18,19,20,21,22,23] (.regionD 34 [dM 0 34 0,tD 1 35 (.nilCheck (tT 34)),dF 2 36 1 35,dL 3 37 36,dF 4 38 0 4,dL 5 39 38,dM 6 40 0,tD 7 41 (.nilCheck (tT 40)),dF 8 42 0 41,dL 9 43 42,tD 10 44 (.lenSl (tT 43)),tD 11 45 (.idxSl 1 (tT 37) (tT 39)),tD 12 46 (.store 1 (tT 45) (tT 44))] [(12,34),(13,35),(14,36),(15,37),(16,38),(17,39),(18,40),(19,41),(20,42),(21,43),(22,44),(23,45)]) (.regionD 34 [dM 0 34 0,dM 1 35 0,tD 2 36 (.nilCheck (tT 35)),dF 3 37 0 36,dL 4 38 37,tD 5 39 (.load (some 2) (tT 4)),tD 6 40 (.buildSlice 2 1 [.int .i64 0,.int .i64 0] [(0,2,(tT 39))]),tD 7 41 (.append 2 16 (tT 38) (tT 40)),tD 8 42 (.nilCheck (tT 34)),dF 9 43 0 42,tD 10 44 (.store 1 (tT 43) (tT 41))] [(24,34),(25,35),(26,36),(27,37),(28,38),(29,39),(30,40),(31,41),(32,42),(33,43)])) .skip))⟩
theorem b2v (T:Tab)(k:Nat)(a b:AV)(h:Heap):runF T k a2p [a,b] h =
 oa (tAssert 198 (.agg [.int .i64 0,.int .i64 0]) true b) fun c=>oa (extr 0 c) fun d=>oa (extr 1 c) fun e=>ob (newVar h [.int .i64 0,.int .i64 0]) fun f g=>oh (stN 2 g f d) fun i=>cond2 e
 (
 oa (nilCk a) fun l=>oa (fldA 1 l) fun m=>oa (ld1 i m) fun n=>oa (fldA 0 f) fun o=>oa (ld1 i o) fun p=>oa (nilCk a) fun q=>oa (fldA 0 q) fun r=>oa (ld1 i r) fun s=>oa (lenS s) fun t=>oa (idxS 1 n p) fun u=>oh (stN 1 i u t) fun v=>oa (nilCk a) fun w=>oa (fldA 0 w) fun x=>oa (ld1 v x) fun y=>oa (ldN 2 v f) fun z=>ob (buildSl 2 1 [.int .i64 0,.int .i64 0] [(0,2,z)] v) fun aa ab=>ob (apnd 2 16 y aa ab) fun ac ad=>oa (nilCk a) fun ae=>oa (fldA 0 ae) fun af=>oh (stN 1 ad af ac) fun ag=>some (.tup [],ag)
 )
 (
 some (.tup [],i)
 ):=runEq (by kernel_rfl)
def b2w:Res:=[]
noncomputable def a2q:MFn:=⟨60,b2w,.seq [6,7,8,9,10,11,12,13,14,15,16,17,18,19,20,21,22,23,24,25,26,27,28,29,30,31] (.regionD 60 [dM 0 60 0,tD 1 61 (.nilCheck (tT 60)),dF 2 62 0 61,dL 3 63 62,dM 4 64 1,dM 5 65 0,tD 6 66 (.nilCheck (tT 65)),dF 7 67 0 66,dL 8 68 67,dM 9 69 2,dM 10 70 0,tD 11 71 (.nilCheck (tT 70)),dF 12 72 0 71,dL 13 73 72,dM 14 74 2,tD 15 75 (.idxSl 2 (tT 73) (tT 74)),tD 16 76 (.load (some 2) (tT 75)),dM 17 77 0,tD 18 78 (.nilCheck (tT 77)),dF 19 79 0 78,dL 20 80 79,dM 21 81 1,tD 22 82 (.idxSl 2 (tT 80) (tT 81)),tD 23 83 (.load (some 2) (tT 82)),tD 24 84 (.idxSl 2 (tT 63) (tT 64)),tD 25 85 (.store 2 (tT 84) (tT 76)),tD 26 86 (.idxSl 2 (tT 68) (tT 69)),tD 27 87 (.store 2 (tT 86) (tT 83))] [(6,60),(7,61),(8,62),(9,63),(10,64),(11,65),(12,66),(13,67),(14,68),(15,69),(16,70),(17,71),(18,72),(19,73),(20,74),(21,75),(22,76),(23,77),(24,78),(25,79),(26,80),(27,81),(28,82),(29,83),(30,84),(31,86)]) (.regionD 60 [dM 0 60 0,tD 1 61 (.nilCheck (tT 60)),dF 2 62 1 61,dL 3 63 62,dM 4 64 0,tD 5 65 (.nilCheck (tT 64)),dF 6 66 0 65,dL 7 67 66,dM 8 68 1,tD 9 69 (.idxSl 2 (tT 67) (tT 68)),dF 10 70 0 69,dL 11 71 70,dM 12 72 0,tD 13 73 (.nilCheck (tT 72)),dF 14 74 1 73,dL 15 75 74,dM 16 76 0,tD 17 77 (.nilCheck (tT 76)),dF 18 78 0 77,dL 19 79 78,dM 20 80 2,tD 21 81 (.idxSl 2 (tT 79) (tT 80)),dF 22 82 0 81,dL 23 83 82,dM 24 84 1,dM 25 85 2,tD 26 86 (.idxSl 1 (tT 63) (tT 71)),tD 27 87 (.store 1 (tT 86) (tT 84)),tD 28 88 (.idxSl 1 (tT 75) (tT 83)),tD 29 89 (.store 1 (tT 88) (tT 85))] [(32,60),(33,61),(34,62),(35,63),(36,64),(37,65),(38,66),(39,67),(40,68),(41,69),(42,70),(43,71),(44,72),(45,73),(46,74),(47,75),(48,76),(49,77),(50,78),(51,79),(52,80),(53,81),(54,82),(55,83),(56,84),(57,85),(58,86),(59,88)])⟩
theorem b2x (T:Tab)(k:Nat)(a b j2:AV)(h:Heap):runF T k a2q [a,b,j2] h =
 oa (nilCk a) fun c=>oa (fldA 0 c) fun d=>oa (ld1 h d) fun e=>oa (nilCk a) fun f=>oa (fldA 0 f) fun g=>oa (ld1 h g) fun i=>oa (nilCk a) fun l=>oa (fldA 0 l) fun m=>oa (ld1 h m) fun n=>oa (idxS 2 n j2) fun o=>oa (ldN 2 h o) fun p=>oa (nilCk a) fun q=>oa (fldA 0 q) fun r=>oa (ld1 h r) fun s=>oa (idxS 2 s b) fun t=>oa (ldN 2 h t) fun u=>oa (idxS 2 e b) fun v=>oh (stN 2 h v p) fun w=>oa (idxS 2 i j2) fun x=>oh (stN 2 w x u) fun y=>oa (nilCk a) fun z=>oa (fldA 1 z) fun aa=>oa (ld1 y aa) fun ab=>oa (nilCk a) fun ac=>oa (fldA 0 ac) fun ad=>oa (ld1 y ad) fun ae=>oa (idxS 2 ae b) fun af=>oa (fldA 0 af) fun ag=>oa (ld1 y ag) fun ai=>oa (nilCk a) fun al=>oa (fldA 1 al) fun am=>oa (ld1 y am) fun an=>oa (nilCk a) fun ao=>oa (fldA 0 ao) fun ap=>oa (ld1 y ap) fun aq=>oa (idxS 2 aq j2) fun ar=>oa (fldA 0 ar) fun as=>oa (ld1 y as) fun au=>oa (idxS 1 ab ai) fun av=>oh (stN 1 y av b) fun aw=>oa (idxS 1 an au) fun ax=>oh (stN 1 aw ax j2) fun ay=>some (.tup [],ay):=runEq (by kernel_rfl)
def b1G:Res:=[(4,none)]
noncomputable def a1N:MFn:=⟨23,b1G,.seq [4] (.region [tS 4 (.mv (tK 0))]) (.seq [15] (.seq [5,6,7,8,9,10,11,12,13,14] (.region [tM 5 1,tS 6 (.bin .lss .scalar (tT 5) (tK 0)),tM 7 6,⟨some 8,.op (.mv (tT 1)),some (7,false)⟩,⟨some 9,.op (.mv (tT 0)),some (7,false)⟩,⟨some 10,.op (.nilCheck (tT 9)),some (7,false)⟩,⟨some 11,.op (.fieldAddr 1 (tT 10)),some (7,false)⟩,⟨some 12,.op (.load none (tT 11)),some (7,false)⟩,⟨some 13,.op (.lenSl (tT 12)),some (7,false)⟩,⟨some 14,.op (.bin .geq .scalar (tT 8) (tT 13)),some (7,false)⟩,tS 15 (.pick (tT 7) (.const (.bool true)) (tT 14))]) (.cond (tT 15) (.seq [0,1,15] (.region [tS 4 (.mv (tK (-1)))]) .ret) .skip)) (.seq [0,1,16,17,18,19,20,21,22] (.region [tM 16 0,tN 17 16,tF 18 1 17,tL 19 18,tM 20 1,tX 21 1 19 20,tL 22 21,tM 4 22]) .ret))⟩
theorem b1H (T:Tab)(k:Nat)(a b:AV)(h:Heap):runF T k a1N [a,b] h =
 oa (binV .lss .scalar b (.int .i64 0)) fun c=>ob (gd c false (some (b,h)) h) fun d e=>ob (gd c false (some (a,e)) e) fun f g=>ob (gd c false (pure1 g (nilCk f)) g) fun i l=>ob (gd c false (pure1 l (fldA 1 i)) l) fun m n=>ob (gd c false (pure1 n (ld1 n m)) n) fun o p=>ob (gd c false (pure1 p (lenS o)) p) fun q r=>ob (gd c false (pure1 r (binV .geq .scalar d q)) r) fun s t=>oa (pickV c (.bool true) s) fun u=>cond2 u
 (
 some ((.int .i64 (-1)),t)
 )
 (
 oa (nilCk a) fun v=>oa (fldA 1 v) fun w=>oa (ld1 t w) fun x=>oa (idxS 1 x b) fun y=>oa (ld1 t y) fun z=>some (z,t)
 ):=runEq (by kernel_rfl)
end Go.Gm.AQ
