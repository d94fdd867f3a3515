/- A part of the proof (GmAQb, GmAQc). -/
import Derived.KernelRfl
import Derived.Test.YtldnkafmanalmaaProductTrianP2
abbrev Go.Gm.AV.u:Go.Gm.AV:=.undef
set_option linter.unusedVariables false
namespace Go.Gm.AQ
open Go Go.Gm
noncomputable def y7_:MFn:=⟨67,a8z,.seq [0] (.region [tS 0 (.mv (.const (.bool false)))]) (.seq [8,9,10] (.region [tS 8 (.build [.int .i64 0,.int .i64 0,.int .i64 0,.int .i64 0] [(0,1,(tK 0)),(1,1,(tK 1)),(3,1,(tK 4))]),tS 9 (.buildSlice 4 1 [.int .i64 0,.int .i64 0,.int .i64 0,.int .i64 0] [(0,4,(tT 8))]),tS 10 (.build [.int .i64 0,.nils] [(0,1,(tK 2)),(1,1,(tT 9))]),tS 1 (.alloc [.int .i64 0,.nils]),tW 2 1 10]) (.seq [11,12,13,14] (.region [tS 11 (.build [.int .i64 0,.int .i64 0,.int .i64 0,.int .i64 0,.int .i64 0] []),tS 12 (.buildSlice 5 1 [.int .i64 0,.int .i64 0,.int .i64 0,.int .i64 0,.int .i64 0] [(0,5,(tT 11))]),tS 13 (.buildSlice 1 1 [.bool false] [(0,1,(.const (.bool true)))]),tS 14 (.build [.nils,.nils] [(0,1,(tT 12)),(1,1,(tT 13))]),tS 2 (.alloc [.nils,.nils]),tW 2 2 14]) (.seq [15,16,17,18,19,20] (.region [tA 16 2 1,tA 17 2 2,⟨some 18,.call f7_ [(tT 16),(tT 17),(tK 1),(tK 1)],none⟩,tM 15 18,tS 19 (.extract 0 (tT 15)),tS 20 (.extract 1 (tT 15)),tS 3 (.alloc [.int .i64 0,.nils]),tW 2 3 19,tM 4 20]) (.seq [21,22,23,24,25,26] (.region [tA 22 2 1,tA 23 2 2,⟨some 24,.call f7_ [(tT 22),(tT 23),(tK 0),(tK 1)],none⟩,tM 21 24,tS 25 (.extract 0 (tT 21)),tS 26 (.extract 1 (tT 21)),tS 5 (.alloc [.int .i64 0,.nils]),tW 2 5 25,tM 6 26]) (.seq [1,2,27,28,29] (.region [tA 27 2 1,tA 28 2 2,⟨some 29,.call c9_ [(tT 27),(tT 28),(tK 0)],none⟩,tM 7 29]) (.seq [3,4,5,6,7,30,31,32,33,34,35,36,37,38,39,40,41,42,43,44,45,46,47,48,49,50,51,52,53,54,55,56,57,58,59,60,61,62,63,64,65,66] (.region [tM 30 4,tM 31 30,⟨some 32,.op (.fieldAddr 0 (tT 3)),some (31,true)⟩,⟨some 33,.op (.load none (tT 32)),some (31,true)⟩,⟨some 34,.op (.bin .eql .scalar (tT 33) (tK 0)),some (31,true)⟩,tS 35 (.pick (tT 31) (tT 34) (.const (.bool false))),tM 36 35,⟨some 37,.op (.fieldAddr 1 (tT 3)),some (36,true)⟩,⟨some 38,.op (.load none (tT 37)),some (36,true)⟩,⟨some 39,.op (.lenSl (tT 38)),some (36,true)⟩,⟨some 40,.op (.bin .eql .scalar (tT 39) (tK 0)),some (36,true)⟩,tS 41 (.pick (tT 36) (tT 40) (.const (.bool false))),tM 42 41,⟨some 43,.op (.mv (tT 6)),some (42,true)⟩,tS 44 (.pick (tT 42) (tT 43) (.const (.bool false))),tM 45 44,⟨some 46,.op (.fieldAddr 0 (tT 5)),some (45,true)⟩,⟨some 47,.op (.load none (tT 46)),some (45,true)⟩,⟨some 48,.op (.bin .eql .scalar (tT 47) (tK 4)),some (45,true)⟩,tS 49 (.pick (tT 45) (tT 48) (.const (.bool false))),tM 50 49,⟨some 51,.op (.fieldAddr 1 (tT 5)),some (50,true)⟩,⟨some 52,.op (.load none (tT 51)),some (50,true)⟩,⟨some 53,.op (.lenSl (tT 52)),some (50,true)⟩,⟨some 54,.op (.bin .eql .scalar (tT 53) (tK 1)),some (50,true)⟩,tS 55 (.pick (tT 50) (tT 54) (.const (.bool false))),tM 56 55,⟨some 57,.op (.mv (tT 7)),some (56,true)⟩,⟨some 58,.op (.lenSl (tT 57)),some (56,true)⟩,⟨some 59,.op (.bin .eql .scalar (tT 58) (tK 2)),some (56,true)⟩,tS 60 (.pick (tT 56) (tT 59) (.const (.bool false))),tM 61 60,⟨some 62,.op (.mv (tT 7)),some (61,true)⟩,⟨some 63,.op (.idxSl 1 (tT 62) (tK 1)),some (61,true)⟩,⟨some 64,.op (.load none (tT 63)),some (61,true)⟩,⟨some 65,.op (.bin .eql .scalar (tT 64) (tK 4)),some (61,true)⟩,tS 66 (.pick (tT 61) (tT 65) (.const (.bool false))),tM 0 66]) .ret))))))⟩
theorem a8A (T:Tab) (k:Nat) (h:Heap):runF T k y7_ [] h =
 oa (buildV [.int .i64 0,.int .i64 0,.int .i64 0,.int .i64 0] [(0,1,(.int .i64 0)),(1,1,(.int .i64 1)),(3,1,(.int .i64 4))]) fun a=>
 ob (buildSl 4 1 [.int .i64 0,.int .i64 0,.int .i64 0,.int .i64 0] [(0,4,a)] h) fun b c=>
 oa (buildV [.int .i64 0,.nils] [(0,1,(.int .i64 2)),(1,1,b)]) fun d=>
 ob (newVar c [.int .i64 0,.nils]) fun e f=>
 oh (stN 2 f e d) fun g=>
 oa (buildV [.int .i64 0,.int .i64 0,.int .i64 0,.int .i64 0,.int .i64 0] []) fun i=>
 ob (buildSl 5 1 [.int .i64 0,.int .i64 0,.int .i64 0,.int .i64 0,.int .i64 0] [(0,5,i)] g) fun l m=>
 ob (buildSl 1 1 [.bool false] [(0,1,(.bool true))] m) fun n o=>
 oa (buildV [.nils,.nils] [(0,1,l),(1,1,n)]) fun p=>
 ob (newVar o [.nils,.nils]) fun q r=>
 oh (stN 2 r q p) fun s=>
 oa (ldN 2 s e) fun t=>
 oa (ldN 2 s q) fun u=>
 ob (evalFn T k f7_ [t,u,(.int .i64 1),(.int .i64 1)] s) fun v w=>
 oa (extr 0 v) fun x=>
 oa (extr 1 v) fun y=>
 ob (newVar w [.int .i64 0,.nils]) fun z aa=>
 oh (stN 2 aa z x) fun ab=>
 oa (ldN 2 ab e) fun ac=>
 oa (ldN 2 ab q) fun ad=>
 ob (evalFn T k f7_ [ac,ad,(.int .i64 0),(.int .i64 1)] ab) fun ae af=>
 oa (extr 0 ae) fun ag=>
 oa (extr 1 ae) fun ai=>
 ob (newVar af [.int .i64 0,.nils]) fun al am=>
 oh (stN 2 am al ag) fun an=>
 oa (ldN 2 an e) fun ao=>
 oa (ldN 2 an q) fun ap=>
 ob (evalFn T k c9_ [ao,ap,(.int .i64 0)] an) fun aq ar=>
 ob (gd y true (pure1 ar (fldA 0 z)) ar) fun as au=>
 ob (gd y true (pure1 au (ld1 au as)) au) fun av aw=>
 ob (gd y true (pure1 aw (binV .eql .scalar av (.int .i64 0))) aw) fun ax ay=>
 oa (pickV y ax (.bool false)) fun az=>
 ob (gd az true (pure1 ay (fldA 1 z)) ay) fun a0 a1=>
 ob (gd az true (pure1 a1 (ld1 a1 a0)) a1) fun a2 a3=>
 ob (gd az true (pure1 a3 (lenS a2)) a3) fun a4 a5=>
 ob (gd az true (pure1 a5 (binV .eql .scalar a4 (.int .i64 0))) a5) fun a6 a7=>
 oa (pickV az a6 (.bool false)) fun a8=>
 ob (gd a8 true (some (ai,a7)) a7) fun a9 ba=>
 oa (pickV a8 a9 (.bool false)) fun bb=>
 ob (gd bb true (pure1 ba (fldA 0 al)) ba) fun bc bd=>
 ob (gd bb true (pure1 bd (ld1 bd bc)) bd) fun be bf=>
 ob (gd bb true (pure1 bf (binV .eql .scalar be (.int .i64 4))) bf) fun bg bi=>
 oa (pickV bb bg (.bool false)) fun bl=>
 ob (gd bl true (pure1 bi (fldA 1 al)) bi) fun bm bn=>
 ob (gd bl true (pure1 bn (ld1 bn bm)) bn) fun bo bp=>
 ob (gd bl true (pure1 bp (lenS bo)) bp) fun bq br=>
 ob (gd bl true (pure1 br (binV .eql .scalar bq (.int .i64 1))) br) fun bs bt=>
 oa (pickV bl bs (.bool false)) fun bu=>
 ob (gd bu true (some (aq,bt)) bt) fun bv bw=>
 ob (gd bu true (pure1 bw (lenS bv)) bw) fun bx bz=>
 ob (gd bu true (pure1 bz (binV .eql .scalar bx (.int .i64 2))) bz) fun b0 b1=>
 oa (pickV bu b0 (.bool false)) fun b2=>
 ob (gd b2 true (some (aq,b1)) b1) fun b3 b4=>
 ob (gd b2 true (pure1 b4 (idxS 1 b3 (.int .i64 1))) b4) fun b5 b6=>
 ob (gd b2 true (pure1 b6 (ld1 b6 b5)) b6) fun b7 b8=>
 ob (gd b2 true (pure1 b8 (binV .eql .scalar b7 (.int .i64 4))) b8) fun b9 ca=>
 oa (pickV b2 b9 (.bool false)) fun cb=>
 some (cb,ca):=runEq (by kernel_rfl)
noncomputable def a3x:MCode:=.region [tF 73 1 7,tL 74 73,tA 75 4 10,tS 76 (.buildSlice 4 1 [.int .i64 0,.int .i64 0,.int .i64 0,.int .i64 0] [(0,4,(tT 75))]),tS 77 (.append 4 32 (tT 74) (tT 76)),tF 78 1 7,tW 1 78 77]
noncomputable def a3y:MCode:=.seq [9,67,68,69,70,71,72] (.seq [65,66] (.region [tM 65 9,⟨some 66,.call a2_ [(tT 65),(tK 31)],none⟩,tS 67 (.bin .eql .scalar (tT 66) (tK 0))]) (.cond (tT 67) (.region [tM 68 9,tS 69 (.bin .quo .scalar (tT 68) (tK 31)),⟨some 70,.call a2_ [(tT 69),(tK 3)],none⟩,tS 71 (.bin .sub .scalar (tK 2147483647) (tT 70)),tF 72 3 10,tW 1 72 71]) .skip)) (.lab a3x)
noncomputable def s2_:MCode:=.seq [22] (.seq [15,16,17,18,19,20,21] (.region [tM 15 8,tM 16 1,tS 17 (.lenSl (tT 16)),tS 18 (.bin .lss .scalar (tT 15) (tT 17)),tM 19 18,⟨some 20,.op (.mv (tT 8)),some (19,true)⟩,⟨some 21,.op (.bin .lss .scalar (tT 20) (tK 40)),some (19,true)⟩,tS 22 (.pick (tT 19) (tT 21) (.const (.bool false)))]) (.cond (tT 22) .skip (.exit 0))) (.seq [10,73,74,75,76,77,78] (.block 1 (.seq [25,26,27,28] (.region [tM 25 1,tM 26 8,tX 27 1 25 26,tL 28 27,tM 9 28]) (.seq [29,30,31,32,33,34,35,36,37,38,39,40,41,42,43,44] (.regionD 80 [dM 0 80 9,dF 1 81 0 7,dL 2 82 81,dM 4 84 9,tD 5 85 (.bin .quo .scalar (tT 84) (tK 13)),dF 6 86 0 7,dL 7 87 86,dM 9 89 9,tD 10 90 (.bin .quo .scalar (tT 89) (tK 170)),dM 12 92 9,tD 13 93 (.bin .quo .scalar (tT 92) (tK 900)),tD 16 96 (.alloc [.int .i64 0,.int .i64 0,.int .i64 0,.int .i64 0]),⟨3,⟨some 83,.call a2_ [(tT 80),(tT 82)],none⟩,[(87,tL 87 86)]⟩,⟨8,⟨some 88,.call a2_ [(tT 85),(tT 87)],none⟩,[]⟩,⟨11,⟨some 91,.call a2_ [(tT 90),(tK 5)],none⟩,[]⟩,⟨14,⟨some 94,.call a2_ [(tT 93),(tK 9)],none⟩,[]⟩,tD 15 95 (.build [.int .i64 0,.int .i64 0,.int .i64 0,.int .i64 0] [(0,1,(tT 83)),(1,1,(tT 88)),(2,1,(tT 91)),(3,1,(tT 94))]),tD 17 97 (.store 4 (tT 96) (tT 95))] [(29,80),(30,81),(31,82),(32,83),(33,84),(34,85),(35,86),(36,87),(37,88),(38,89),(39,90),(40,91),(41,92),(42,93),(43,94),(44,95),(10,96)]) (.seq [47,48,49,50,51,52,53,54,57,58,59,60,61,62,63,64] (.seq [45,46] (.region [tM 45 2,⟨some 46,.call a2_ [(tT 45),(tK 3)],none⟩,tS 47 (.bin .eql .scalar (tT 46) (tK 0))]) (.cond (tT 47) (.region [tF 48 0 10,tL 49 48,tF 50 1 10,tL 51 50,tS 52 (.bin .add .scalar (tT 49) (tT 51)),⟨some 53,.call a2_ [(tT 52),(tK 2)],none⟩,tF 54 2 10,tW 1 54 53]) (.seq [47,55,56] (.region [tM 55 2,⟨some 56,.call a2_ [(tT 55),(tK 3)],none⟩,tS 57 (.bin .eql .scalar (tT 56) (tK 1))]) (.cond (tT 57) (.region [tF 58 2 10,tL 59 58,tF 60 0 10,tL 61 60,tS 62 (.bin .mul .scalar (tT 59) (tT 61)),⟨some 63,.call a2_ [(tT 62),(tK 3)],none⟩,tF 64 2 10,tW 1 64 63]) .skip)))) (.lab a3y))))) (.region [tM 23 8,tS 24 (.bin .add .scalar (tT 23) (tK 1)),tM 8 24]))
def s3_:Res:=[(6,some (some 2))]
noncomputable def a0z:MFn:=⟨80,s3_,.seq [] (.region [tS 6 (.alloc [.int .i64 0,.nils])]) (.seq [0,11,12,13,14] (.region [tM 11 0,⟨some 12,.call a2_ [(tT 11),(tK 12)],none⟩,tS 13 (.bin .add .scalar (tK 1) (tT 12)),tS 14 (.build [.int .i64 0,.nils] [(0,1,(tT 13))]),tS 7 (.alloc [.int .i64 0,.nils]),tW 2 7 14]) (.seq [1,2,8,22] (.seq [] (.region [tS 8 (.mv (tK 0))]) (.block 0 (.loop [23,24] s2_))) (.seq [7,79] (.region [tA 79 2 7,tW 2 6 79]) .ret)))⟩
noncomputable def g1_ (T:Tab) (k j0:Nat) (a b c d e:AV) (h:Heap):Option (AV × Heap):=
 loopB T k s3_ j0 [23,24] s2_ [.blk 0,.seq [1,2,8,22] (.seq [7,79] (.region [⟨some 79,.op (.load (some 2) (.tmp 7)),none⟩,
 ⟨none,.op (.store 2 (.tmp 6) (.tmp 79)),none⟩]) .ret)] [.undef,a,b,.undef,.undef,.undef,c,d,e,.undef,.undef,.undef,.undef,.undef,.undef,.undef,.undef,.undef,.undef,.undef,.undef,.undef,.undef,.undef,.undef,.undef,.undef,.undef,.undef,.undef,.undef,.undef,.undef,.undef,.undef,.undef,.undef,.undef,.undef,.undef,.undef,.undef,.undef,.undef,.undef,.undef,.undef,.undef,.undef,.undef,.undef,.undef,.undef,.undef,.undef,.undef,.undef,.undef,.undef,.undef,.undef,.undef,.undef,.undef,.undef,.undef,.undef,.undef,.undef,.undef,.undef,.undef,.undef,.undef,.undef,.undef,.undef,.undef,.undef,.undef] h
noncomputable def g2_ (T:Tab) (k j0:Nat) (a b c d e f g:AV) (h:Heap):Option (AV × Heap):=
 evB T k s3_ a3y [.blk 1,.seq [10,73,74,75,76,77,78] (.region [⟨some 23,.op (.mv (.tmp 8)),none⟩,
 ⟨some 24,.op (.bin .add .scalar (.tmp 23) (.const (.int .i64 1))),none⟩,
 ⟨some 8,.op (.mv (.tmp 24)),none⟩]),.lp j0 [23,24] s2_,.blk 0,.seq [1,2,8,22] (.seq [7,79] (.region [⟨some 79,.op (.load (some 2) (.tmp 7)),none⟩,
 ⟨none,.op (.store 2 (.tmp 6) (.tmp 79)),none⟩]) .ret)] [.undef,a,b,.undef,.undef,.undef,c,d,e,f,g,.undef,.undef,.undef,.undef,.undef,.undef,.undef,.undef,.undef,.undef,.undef,.undef,.undef,.undef,.undef,.undef,.undef,.undef,.undef,.undef,.undef,.undef,.undef,.undef,.undef,.undef,.undef,.undef,.undef,.undef,.undef,.undef,.undef,.undef,.undef,.undef,.undef,.undef,.undef,.undef,.undef,.undef,.undef,.undef,.undef,.undef,.undef,.undef,.undef,.undef,.undef,.undef,.undef,.undef,.undef,.undef,.undef,.undef,.undef,.undef,.undef,.undef,.undef,.undef,.undef,.undef,.undef,.undef,.undef] h
noncomputable def s4_ (T:Tab) (k j0:Nat) (a b c d e f:AV) (h:Heap):Option (AV × Heap):=
 evB T k s3_ a3x [.blk 1,.seq [10,73,74,75,76,77,78] (.region [⟨some 23,.op (.mv (.tmp 8)),none⟩,
 ⟨some 24,.op (.bin .add .scalar (.tmp 23) (.const (.int .i64 1))),none⟩,
 ⟨some 8,.op (.mv (.tmp 24)),none⟩]),.lp j0 [23,24] s2_,.blk 0,.seq [1,2,8,22] (.seq [7,79] (.region [⟨some 79,.op (.load (some 2) (.tmp 7)),none⟩,
 ⟨none,.op (.store 2 (.tmp 6) (.tmp 79)),none⟩]) .ret)] [.undef,a,b,.undef,.undef,.undef,c,d,e,.undef,f,.undef,.undef,.undef,.undef,.undef,.undef,.undef,.undef,.undef,.undef,.undef,.undef,.undef,.undef,.undef,.undef,.undef,.undef,.undef,.undef,.undef,.undef,.undef,.undef,.undef,.undef,.undef,.undef,.undef,.undef,.undef,.undef,.undef,.undef,.undef,.undef,.undef,.undef,.undef,.undef,.undef,.undef,.undef,.undef,.undef,.undef,.undef,.undef,.undef,.undef,.undef,.undef,.undef,.undef,.undef,.undef,.undef,.undef,.undef,.undef,.undef,.undef,.undef,.undef,.undef,.undef,.undef,.undef,.undef] h
theorem a6Y (T:Tab) (k j0:Nat) (a b c d e f:AV) (h:Heap):s4_ T k j0 a b c d e f h =
 oa (fldA 1 d) fun g=>
 oa (ld1 h g) fun i=>
 oa (ldN 4 h f) fun l=>
 ob (buildSl 4 1 [.int .i64 0,.int .i64 0,.int .i64 0,.int .i64 0] [(0,4,l)] h) fun m n=>
 ob (apnd 4 32 i m n) fun o p=>
 oa (fldA 1 d) fun q=>
 oh (stN 1 p q o) fun r=>
 oa (binV .add .scalar e (.int .i64 1)) fun s=>
 g1_ T k j0 a b c d s r:=blockEq (by kernel_rfl)
theorem a6Z (T:Tab) (k j0:Nat) (a b c d e f g:AV) (h:Heap):g2_ T k j0 a b c d e f g h =
 ob (evalFn T k a2_ [f,(.int .i64 31)] h) fun i l=>
 oa (binV .eql .scalar i (.int .i64 0)) fun m=>
 cond2 m
 (
 oa (binV .quo .scalar f (.int .i64 31)) fun n=>
 ob (evalFn T k a2_ [n,(.int .i64 3)] l) fun o p=>
 oa (binV .sub .scalar (.int .i64 2147483647) o) fun q=>
 oa (fldA 3 g) fun r=>
 oh (stN 1 p r q) fun s=>
 s4_ T k j0 a b c d e g s
 )
 (
 s4_ T k j0 a b c d e g l
 ):=blockEq (by kernel_rfl)
theorem a1U (T:Tab) (k j0:Nat) (a b c d e:AV) (h:Heap):g1_ T k (j0+1) a b c d e h =
 oa (lenS a) fun f=>
 oa (binV .lss .scalar e f) fun g=>
 ob (gd g true (some (e,h)) h) fun i l=>
 ob (gd g true (pure1 l (binV .lss .scalar i (.int .i64 40))) l) fun m n=>
 oa (pickV g m (.bool false)) fun o=>
 cond2 o
 (
 oa (idxS 1 a e) fun p=>
 oa (ld1 n p) fun q=>
 oa (fldA 0 d) fun r=>
 oa (ld1 n r) fun s=>
 oa (binV .quo .scalar q (.int .i64 13)) fun t=>
 oa (fldA 0 d) fun u=>
 oa (ld1 n u) fun v=>
 oa (binV .quo .scalar q (.int .i64 170)) fun w=>
 oa (binV .quo .scalar q (.int .i64 900)) fun x=>
 ob (newVar n [.int .i64 0,.int .i64 0,.int .i64 0,.int .i64 0]) fun y z=>
 ob (evalFn T k a2_ [q,s] z) fun aa ab=>
 chk ((sameB (pure1 ab (ld1 ab u)) v && true)) <|
 ob (evalFn T k a2_ [t,v] ab) fun ac ad=>
 ob (evalFn T k a2_ [w,(.int .i64 5)] ad) fun ae af=>
 ob (evalFn T k a2_ [x,(.int .i64 9)] af) fun ag ai=>
 oa (buildV [.int .i64 0,.int .i64 0,.int .i64 0,.int .i64 0] [(0,1,aa),(1,1,ac),(2,1,ae),(3,1,ag)]) fun al=>
 oh (stN 4 ai y al) fun am=>
 ob (evalFn T k a2_ [b,(.int .i64 3)] am) fun an ao=>
 oa (binV .eql .scalar an (.int .i64 0)) fun ap=>
 cond2 ap
 (
 oa (fldA 0 y) fun aq=>
 oa (ld1 ao aq) fun ar=>
 oa (fldA 1 y) fun as=>
 oa (ld1 ao as) fun au=>
 oa (binV .add .scalar ar au) fun av=>
 ob (evalFn T k a2_ [av,(.int .i64 2)] ao) fun aw ax=>
 oa (fldA 2 y) fun ay=>
 oh (stN 1 ax ay aw) fun az=>
 g2_ T k j0 a b c d e q y az
 )
 (
 ob (evalFn T k a2_ [b,(.int .i64 3)] ao) fun a0 a1=>
 oa (binV .eql .scalar a0 (.int .i64 1)) fun a2=>
 cond2 a2
 (
 oa (fldA 2 y) fun a3=>
 oa (ld1 a1 a3) fun a4=>
 oa (fldA 0 y) fun a5=>
 oa (ld1 a1 a5) fun a6=>
 oa (binV .mul .scalar a4 a6) fun a7=>
 ob (evalFn T k a2_ [a7,(.int .i64 3)] a1) fun a8 a9=>
 oa (fldA 2 y) fun ba=>
 oh (stN 1 a9 ba a8) fun bb=>
 g2_ T k j0 a b c d e q y bb
 )
 (
 g2_ T k j0 a b c d e q y a1
 )
 )
 )
 (
 oa (ldN 2 n d) fun bc=>
 oh (stN 2 n c bc) fun bd=>
 oa (ldN 2 bd c) fun be=>
 some (be,bd)
 ):=loopEq (by kernel_rfl)
theorem a9g (T:Tab) (k:Nat) (a b c:AV) (h:Heap):runF T k a0z [a,b,c] h =
 ob (newVar h [.int .i64 0,.nils]) fun d e=>
 ob (evalFn T k a2_ [a,(.int .i64 12)] e) fun f g=>
 oa (binV .add .scalar (.int .i64 1) f) fun i=>
 oa (buildV [.int .i64 0,.nils] [(0,1,i)]) fun l=>
 ob (newVar g [.int .i64 0,.nils]) fun m n=>
 oh (stN 2 n m l) fun o=>
 g1_ T k k b c d m (.int .i64 0) o:=runEq (by kernel_rfl)
def a7F:Res:=[(4,none)]
noncomputable def w3_:MFn:=⟨15,a7F,.seq [4] (.region [tS 4 (.mv (tK 0))]) (.seq [0,6,7,8] (.region [tM 6 0,tM 7 1,tS 8 (.bin .rem .scalar (tT 6) (tT 7)),tM 5 8]) (.seq [1,10,11,12,13] (.seq [9] (.region [tM 9 5,tS 10 (.bin .lss .scalar (tT 9) (tK 0))]) (.cond (tT 10) (.region [tM 11 5,tM 12 1,tS 13 (.bin .add .scalar (tT 11) (tT 12)),tM 5 13]) .skip)) (.seq [5,14] (.region [tM 14 5,tM 4 14]) .ret)))⟩
theorem a7G (T:Tab) (k:Nat) (a b:AV) (h:Heap):runF T k w3_ [a,b] h =
 oa (binV .rem .scalar a b) fun c=>
 oa (binV .lss .scalar c (.int .i64 0)) fun d=>
 cond2 d
 (
 oa (binV .add .scalar c b) fun e=>
 some (e,h)
 )
 (
 some (c,h)
 ):=runEq (by kernel_rfl)
noncomputable def a7a:MCode:=.seq [] (.region [tS 26 (.bin .lss .scalar (tT 25) (tT 24))]) (.seq [26] (.cond (tT 26) .skip (.exit 0)) (.seq [9,10,35,36,37,38,39,40,41,42,43,44,45] (.block 1 (.seq [27] (.region [tM 27 25,tM 9 27]) (.seq [28,29,30] (.region [tM 28 8,tM 29 9,tX 30 1 28 29,⟨none,.op (.store 1 (tT 30) (tK (-1))),none⟩]) (.seq [31,32,33] (.region [tM 31 7,tM 32 9,⟨some 33,.call e2_ [(tT 31),(tT 32)],none⟩,tM 10 33]) (.seq [34] (.region [tM 34 10,tS 35 (.bin .geq .scalar (tT 34) (tK 0))]) (.cond (tT 35) (.region [tM 36 8,tM 37 9,tM 38 7,tN 39 38,tF 40 3 39,tL 41 40,tM 42 10,tX 43 1 41 42,tL 44 43,tX 45 1 36 37,tW 1 45 44]) .skip)))))) (.region [tS 46 (.bin .add .scalar (tT 25) (tK 1)),tM 25 46])))
def a7b:Res:=[(6,none)]
noncomputable def a3g:MFn:=⟨48,a7b,.seq [0,1,6] (.region [tS 3 (.box (tT 0)),tS 4 (.box (tT 1)),tS 6 (.mv (.const .nils))]) (.seq [2,4,11,12,13,14,15,16,17] (.region [tA 11 2 3,tA 12 2 4,⟨some 13,.call q5_ [(tT 11),(tT 12)],none⟩,tM 14 2,tS 15 (.build [.int .i64 0,.int .i64 0] [(0,1,(tT 14)),(1,1,(tK 0))]),tS 16 (.buildSlice 2 1 [.int .i64 0,.int .i64 0] [(0,2,(tT 15))]),⟨some 17,.call e1_ [(tT 13),(.const (.fn e9_ [] [])),(tT 16)],none⟩,tM 7 17]) (.seq [18,19] (.region [tM 18 7,⟨some 19,.call d0_ [(tT 18)],none⟩]) (.seq [3,20,21,22] (.region [tF 20 0 3,tL 21 20,tS 22 (.mkSlice [.int .i64 0] 1 8 (tT 21) (tT 21)),tM 8 22]) (.seq [7,24,25,26] (.seq [23] (.region [tM 23 8,tS 24 (.lenSl (tT 23)),tS 25 (.mv (tK 0))]) (.block 0 (.loop [46] a7a))) (.seq [8,47] (.region [tM 47 8,tM 6 47]) .ret)))))⟩
noncomputable def u2_ (T:Tab) (k j0:Nat) (a b c d:AV) (h:Heap):Option (AV × Heap):=
 loopB T k a7b j0 [46] a7a [.blk 0,.seq [7,24,25,26] (.seq [8,47] (.region [⟨some 47,.op (.mv (.tmp 8)),none⟩,
 ⟨some 6,.op (.mv (.tmp 47)),none⟩]) .ret)] [.undef,.undef,.undef,.undef,.undef,.undef,.undef,a,b,.undef,.undef,.undef,.undef,.undef,.undef,.undef,.undef,.undef,.undef,.undef,.undef,.undef,.undef,.undef,c,d,.undef,.undef,.undef,.undef,.undef,.undef,.undef,.undef,.undef,.undef,.undef,.undef,.undef,.undef,.undef,.undef,.undef,.undef,.undef,.undef,.undef,.undef] h
theorem a5n (T:Tab) (k j0:Nat) (a b c d:AV) (h:Heap):u2_ T k (j0+1) a b c d h =
 oa (binV .lss .scalar d c) fun e=>
 cond2 e
 (
 oa (idxS 1 b d) fun f=>
 oh (stN 1 h f (.int .i64 (-1))) fun g=>
 ob (evalFn T k e2_ [a,d] g) fun i l=>
 oa (binV .geq .scalar i (.int .i64 0)) fun m=>
 cond2 m
 (
 oa (nilCk a) fun n=>
 oa (fldA 3 n) fun o=>
 oa (ld1 l o) fun p=>
 oa (idxS 1 p i) fun q=>
 oa (ld1 l q) fun r=>
 oa (idxS 1 b d) fun s=>
 oh (stN 1 l s r) fun t=>
 oa (binV .add .scalar d (.int .i64 1)) fun u=>
 u2_ T k j0 a b c u t
 )
 (
 oa (binV .add .scalar d (.int .i64 1)) fun v=>
 u2_ T k j0 a b c v l
 )
 )
 (
 some (b,h)
 ):=loopEq (by kernel_rfl)
theorem a7c (T:Tab) (k:Nat) (a b c:AV) (h:Heap):runF T k a3g [a,b,c] h =
 ob (newVar h (AV.cells a)) fun d e=>
 ob (newVar e (AV.cells b)) fun f g=>
 oa (ldN 2 g d) fun i=>
 oa (ldN 2 g f) fun l=>
 ob (evalFn T k q5_ [i,l] g) fun m n=>
 oa (buildV [.int .i64 0,.int .i64 0] [(0,1,c),(1,1,(.int .i64 0))]) fun o=>
 ob (buildSl 2 1 [.int .i64 0,.int .i64 0] [(0,2,o)] n) fun p q=>
 ob (evalFn T k e1_ [m,(.fn e9_ [] []),p] q) fun r s=>
 ob (evalFn T k d0_ [r] s) fun t u=>
 oa (fldA 0 d) fun v=>
 oa (ld1 u v) fun w=>
 ob (mkSl [.int .i64 0] 1 8 w w u) fun x y=>
 oa (lenS x) fun z=>
 u2_ T k k r x z (.int .i64 0) y:=runEq (by kernel_rfl)
def a7d:Res:=[(2,some (some 2)),(3,none)]
noncomputable def u3_:MFn:=⟨41,a7d,.seq [3] (.region [tS 2 (.alloc [.nils,.nils]),tS 3 (.mv (tK 0))]) (.seq [0,5,11,12,13,14,15,16] (.region [tM 12 0,⟨some 13,.call j9_ [(tT 12)],none⟩,tM 11 13,tS 14 (.extract 0 (tT 11)),tS 15 (.extract 1 (tT 11)),tS 16 (.extract 2 (tT 11)),tS 4 (.alloc [.int .i64 0,.int .i64 0,.int .i64 0,.int .i64 0,.nils]),tW 5 4 14,tM 5 15,tM 6 16]) (.seq [6,18] (.seq [17] (.region [tM 17 6,tS 18 (.bin .neq .scalar (tT 17) (tK 0))]) (.cond (tT 18) (.seq [4,6,18,19,20] (.region [tS 19 (.build [.nils,.nils] []),tM 20 6,tW 2 2 19,tM 3 20]) .ret) .skip)) (.seq [4,21,22,23,24,25] (.region [tA 22 5 4,⟨some 23,.call k0_ [(tT 22)],none⟩,tM 21 23,tS 24 (.extract 0 (tT 21)),tS 25 (.extract 1 (tT 21)),tS 7 (.alloc [.int .i64 0,.int .i64 0,.int .i64 0,.nils,.nils]),tW 5 7 24,tM 8 25]) (.seq [8,27] (.seq [26] (.region [tM 26 8,tS 27 (.bin .neq .scalar (tT 26) (tK 0))]) (.cond (tT 27) (.seq [7,8,27,28,29] (.region [tS 28 (.build [.nils,.nils] []),tM 29 8,tW 2 2 28,tM 3 29]) .ret) .skip)) (.seq [7,30,31,32,33,34] (.region [tA 31 5 7,⟨some 32,.call h9_ [(tT 31),(tK 200)],none⟩,tM 30 32,tS 33 (.extract 0 (tT 30)),tS 34 (.extract 1 (tT 30)),tS 9 (.alloc [.nils,.nils]),tW 2 9 33,tM 10 34]) (.seq [10,36] (.seq [35] (.region [tM 35 10,tS 36 (.bin .neq .scalar (tT 35) (tK 0))]) (.cond (tT 36) (.seq [9,10,36,37,38] (.region [tS 37 (.build [.nils,.nils] []),tM 38 10,tW 2 2 37,tM 3 38]) .ret) .skip)) (.seq [9,39,40] (.region [tA 39 2 9,⟨some 40,.call h2_ [(tT 39)],none⟩,tW 2 2 40,tS 3 (.mv (tK 0))]) .ret)))))))⟩
theorem a7e (T:Tab) (k:Nat) (a:AV) (h:Heap):runF T k u3_ [a] h =
 ob (newVar h [.nils,.nils]) fun b c=>
 ob (evalFn T k j9_ [a] c) fun d e=>
 oa (extr 0 d) fun f=>
 oa (extr 1 d) fun g=>
 oa (extr 2 d) fun i=>
 ob (newVar e [.int .i64 0,.int .i64 0,.int .i64 0,.int .i64 0,.nils]) fun l m=>
 oh (stN 5 m l f) fun n=>
 oa (binV .neq .scalar i (.int .i64 0)) fun o=>
 cond2 o
 (
 oa (buildV [.nils,.nils] []) fun p=>
 oh (stN 2 n b p) fun q=>
 oa (ldN 2 q b) fun r=>
 some (.tup [r,i],q)
 )
 (
 oa (ldN 5 n l) fun s=>
 ob (evalFn T k k0_ [s] n) fun t u=>
 oa (extr 0 t) fun v=>
 oa (extr 1 t) fun w=>
 ob (newVar u [.int .i64 0,.int .i64 0,.int .i64 0,.nils,.nils]) fun x y=>
 oh (stN 5 y x v) fun z=>
 oa (binV .neq .scalar w (.int .i64 0)) fun aa=>
 cond2 aa
 (
 oa (buildV [.nils,.nils] []) fun ab=>
 oh (stN 2 z b ab) fun ac=>
 oa (ldN 2 ac b) fun ad=>
 some (.tup [ad,w],ac)
 )
 (
 oa (ldN 5 z x) fun ae=>
 ob (evalFn T k h9_ [ae,(.int .i64 200)] z) fun af ag=>
 oa (extr 0 af) fun ai=>
 oa (extr 1 af) fun al=>
 ob (newVar ag [.nils,.nils]) fun am an=>
 oh (stN 2 an am ai) fun ao=>
 oa (binV .neq .scalar al (.int .i64 0)) fun ap=>
 cond2 ap
 (
 oa (buildV [.nils,.nils] []) fun aq=>
 oh (stN 2 ao b aq) fun ar=>
 oa (ldN 2 ar b) fun as=>
 some (.tup [as,al],ar)
 )
 (
 oa (ldN 2 ao am) fun au=>
 ob (evalFn T k h2_ [au] ao) fun av aw=>
 oh (stN 2 aw b av) fun ax=>
 oa (ldN 2 ax b) fun ay=>
 some (.tup [ay,(.int .i64 0)],ax)
 )
 )
 ):=runEq (by kernel_rfl)
def b1K:Res:=[(8,some (some 2)),(9,none)]
noncomputable def a3h:MFn:=⟨38,b1K,.seq [0,1,9] (.region [tS 4 (.box (tT 0)),tS 5 (.box (tT 1)),tS 8 (.alloc [.int .i64 0,.nils]),tS 9 (.mv (.const (.bool false)))]) (.seq [2,4,5,12,13,14,15,16,17,18] (.region [tA 12 2 4,tA 13 2 5,⟨some 14,.call q5_ [(tT 12),(tT 13)],none⟩,tM 15 2,tS 16 (.build [.int .i64 0,.int .i64 0] [(0,1,(tT 15)),(1,1,(tK 0))]),tS 17 (.buildSlice 2 1 [.int .i64 0,.int .i64 0] [(0,2,(tT 16))]),⟨some 18,.call e1_ [(tT 14),(.const (.fn e9_ [] [])),(tT 17)],none⟩,tM 10 18]) (.seq [19,20] (.region [tM 19 10,⟨some 20,.call d0_ [(tT 19)],none⟩]) (.seq [3,21,22,23] (.region [tM 21 10,tM 22 3,⟨some 23,.call e2_ [(tT 21),(tT 22)],none⟩,tM 11 23]) (.seq [25] (.seq [24] (.region [tM 24 11,tS 25 (.bin .lss .scalar (tT 24) (tK 0))]) (.cond (tT 25) (.seq [10,11,25,26] (.region [tS 26 (.build [.int .i64 0,.nils] []),tW 2 8 26,tS 9 (.mv (.const (.bool false)))]) .ret) .skip)) (.seq [10,11,27,28,29,30,31,32,33,34,35,36,37] (.regionD 38 [dM 0 38 10,tD 1 39 (.nilCheck (tT 38)),dF 2 40 3 39,dL 3 41 40,dM 4 42 11,tD 5 43 (.idxSl 1 (tT 41) (tT 42)),dL 6 44 43,dM 7 45 10,dM 8 46 11,⟨9,⟨some 47,.call i5_ [(tT 45),(tT 46)],none⟩,[(41,tL 41 40),(44,tL 44 43)]⟩,tD 10 48 (.build [.int .i64 0,.nils] [(0,1,(tT 44)),(1,1,(tT 47))]),tD 11 49 (.store 2 (tT 8) (tT 48)),tD 12 50 (.mv (.const (.bool true)))] [(27,38),(28,39),(29,40),(30,41),(31,42),(32,43),(33,44),(34,45),(35,46),(36,47),(37,48),(9,50)]) .ret)))))⟩
theorem b1L (T:Tab) (k:Nat) (a b c d:AV) (h:Heap):runF T k a3h [a,b,c,d] h =
 ob (newVar h (AV.cells a)) fun e f=>
 ob (newVar f (AV.cells b)) fun g i=>
 ob (newVar i [.int .i64 0,.nils]) fun l m=>
 oa (ldN 2 m e) fun n=>
 oa (ldN 2 m g) fun o=>
 ob (evalFn T k q5_ [n,o] m) fun p q=>
 oa (buildV [.int .i64 0,.int .i64 0] [(0,1,c),(1,1,(.int .i64 0))]) fun r=>
 ob (buildSl 2 1 [.int .i64 0,.int .i64 0] [(0,2,r)] q) fun s t=>
 ob (evalFn T k e1_ [p,(.fn e9_ [] []),s] t) fun u v=>
 ob (evalFn T k d0_ [u] v) fun w x=>
 ob (evalFn T k e2_ [u,d] x) fun y z=>
 oa (binV .lss .scalar y (.int .i64 0)) fun aa=>
 cond2 aa
 (
 oa (buildV [.int .i64 0,.nils] []) fun ab=>
 oh (stN 2 z l ab) fun ac=>
 oa (ldN 2 ac l) fun ad=>
 some (.tup [ad,(.bool false)],ac)
 )
 (
 oa (nilCk u) fun ae=>
 oa (fldA 3 ae) fun af=>
 oa (ld1 z af) fun ag=>
 oa (idxS 1 ag y) fun ai=>
 oa (ld1 z ai) fun al=>
 ob (evalFn T k i5_ [u,y] z) fun am an=>
 chk ((sameB (pure1 an (ld1 an af)) ag && (sameB (pure1 an (ld1 an ai)) al && true))) <|
 oa (buildV [.int .i64 0,.nils] [(0,1,al),(1,1,am)]) fun ao=>
 oh (stN 2 an l ao) fun ap=>
 oa (ldN 2 ap l) fun aq=>
 some (.tup [aq,(.bool true)],ap)
 ):=runEq (by kernel_rfl)
def a7H:Res:=[(4,none)]
noncomputable def w4_:MFn:=⟨15,a7H,.seq [4] (.region [tS 4 (.mv (tK 0))]) (.seq [0,6,7,8] (.region [tM 6 0,tM 7 1,tS 8 (.bin .rem .scalar (tT 6) (tT 7)),tM 5 8]) (.seq [1,10,11,12,13] (.seq [9] (.region [tM 9 5,tS 10 (.bin .lss .scalar (tT 9) (tK 0))]) (.cond (tT 10) (.region [tM 11 5,tM 12 1,tS 13 (.bin .add .scalar (tT 11) (tT 12)),tM 5 13]) .skip)) (.seq [5,14] (.region [tM 14 5,tM 4 14]) .ret)))⟩
theorem a7I (T:Tab) (k:Nat) (a b:AV) (h:Heap):runF T k w4_ [a,b] h =
 oa (binV .rem .scalar a b) fun c=>
 oa (binV .lss .scalar c (.int .i64 0)) fun d=>
 cond2 d
 (
 oa (binV .add .scalar c b) fun e=>
 some (e,h)
 )
 (
 some (c,h)
 ):=runEq (by kernel_rfl)
noncomputable def a8q:MCode:=.seq [] (.region [tS 30 (.bin .lss .scalar (tT 29) (tK 5))]) (.seq [30] (.cond (tT 30) .skip (.exit 2)) (.seq [8,9,33,34,35,36,37,38,39,40,41,42,43,44,45,46,47,48,49,50,51,52] (.block 3 (.seq [31,32] (.region [tM 31 29,tS 32 (.ixArr 5 1 none (tT 28) (tT 29)),tM 8 31,tM 9 32]) (.regionD 56 [dM 0 56 5,tD 1 57 (.nilCheck (tT 56)),dF 2 58 5 57,dL 3 59 58,dM 4 60 9,dM 5 61 8,dM 6 62 5,tD 7 63 (.nilCheck (tT 62)),dF 8 64 5 63,dL 9 65 64,dM 10 66 9,dM 11 67 8,tD 12 68 (.idxSl 5 (tT 65) (tT 66)),tD 13 69 (.idxArr 5 1 (tT 68) (tT 67)),dL 14 70 69,dM 15 71 6,tD 16 72 (.buildSlice 1 1 [.int .i64 0] [(0,1,(tT 71))]),tD 18 74 (.idxSl 5 (tT 59) (tT 60)),⟨17,tS 73 (.append 1 8 (tT 70) (tT 72)),[(59,tL 59 58)]⟩,tD 19 75 (.idxArr 5 1 (tT 74) (tT 61)),tD 20 76 (.store 1 (tT 75) (tT 73))] [(33,56),(34,57),(35,58),(36,59),(37,60),(38,61),(39,62),(40,63),(41,64),(42,65),(43,66),(44,67),(45,68),(46,69),(47,70),(48,71),(49,72),(50,73),(51,74),(52,75)]))) (.region [tS 53 (.bin .add .scalar (tT 29) (tK 1)),tM 29 53])))
noncomputable def a4o:MCode:=.seq [] (.region [tS 24 (.bin .lss .scalar (tT 23) (tT 22))]) (.seq [24] (.cond (tT 24) .skip (.exit 0)) (.seq [6,28,29,30] (.block 1 (.seq [25,26,27] (.region [tM 25 23,tX 26 5 21 23,tA 27 5 26,tS 7 (.alloc [.int .i64 0,.int .i64 0,.int .i64 0,.int .i64 0,.int .i64 0]),tM 6 25,tW 5 7 27]) (.seq [7] (.region [tA 28 5 7,tS 29 (.mv (tK 0))]) (.block 2 (.loop [53] a8q))))) (.region [tS 54 (.bin .add .scalar (tT 23) (tK 1)),tM 23 54])))
def a4p:Res:=[(4,none)]
noncomputable def a4q:MFn:=⟨56,a4p,.seq [0,1,4] (.region [tS 2 (.box (tT 0)),tS 3 (.box (tT 1)),tS 4 (.mv (.const .nilp))]) (.seq [2,10,11,12,13,14,15,16,17,18,19] (.regionD 56 [tD 0 56 (.load (some 2) (tT 2)),tD 1 57 (.load (some 2) (tT 2)),tD 3 59 (.load (some 2) (tT 3)),dF 4 60 0 3,dL 5 61 60,tD 6 62 (.lenSl (tT 61)),tD 7 63 (.mkSlice [.nils,.nils,.nils,.nils,.nils] 5 120 (tT 62) (tT 62)),⟨2,⟨some 58,.call a5N [(tT 57)],none⟩,[(56,tA 56 2 2),(59,tA 59 2 3),(61,tL 61 60)]⟩,tD 8 64 (.build [.int .i64 0,.nils,.nilp,.nils,.nils,.nils] [(0,2,(tT 56)),(2,1,(tT 58)),(3,2,(tT 59)),(5,1,(tT 63))]),tD 9 65 (.box (tT 64)),dM 10 66 65] [(10,56),(11,57),(12,58),(13,59),(14,60),(15,61),(16,62),(17,63),(18,64),(19,65),(5,66)]) (.seq [21,22,23,24] (.seq [3,20] (.region [tF 20 0 3,tL 21 20,tS 22 (.lenSl (tT 21)),tS 23 (.mv (tK 0))]) (.block 0 (.loop [54] a4o))) (.seq [5,55] (.region [tM 55 5,tM 4 55]) .ret)))⟩
noncomputable def y2_ (T:Tab) (k j0:Nat) (a b c d:AV) (h:Heap):Option (AV × Heap):=
 loopB T k a4p j0 [54] a4o [.blk 0,.seq [21,22,23,24] (.seq [5,55] (.region [⟨some 55,.op (.mv (.tmp 5)),none⟩,
 ⟨some 4,.op (.mv (.tmp 55)),none⟩]) .ret)] [.undef,.undef,.undef,.undef,.undef,a,.undef,.undef,.undef,.undef,.undef,.undef,.undef,.undef,.undef,.undef,.undef,.undef,.undef,.undef,.undef,b,c,d,.undef,.undef,.undef,.undef,.undef,.undef,.undef,.undef,.undef,.undef,.undef,.undef,.undef,.undef,.undef,.undef,.undef,.undef,.undef,.undef,.undef,.undef,.undef,.undef,.undef,.undef,.undef,.undef,.undef,.undef,.undef,.undef] h
noncomputable def a1C (T:Tab) (k j0 j1:Nat) (a b c d e f g:AV) (h:Heap):Option (AV × Heap):=
 loopB T k a4p j1 [53] a8q [.blk 2,.blk 1,.seq [6,28,29,30] (.region [⟨some 54,.op (.bin .add .scalar (.tmp 23) (.const (.int .i64 1))),none⟩,
 ⟨some 23,.op (.mv (.tmp 54)),none⟩]),.lp j0 [54] a4o,.blk 0,.seq [21,22,23,24] (.seq [5,55] (.region [⟨some 55,.op (.mv (.tmp 5)),none⟩,
 ⟨some 4,.op (.mv (.tmp 55)),none⟩]) .ret)] [.undef,.undef,.undef,.undef,.undef,a,b,.undef,.undef,.undef,.undef,.undef,.undef,.undef,.undef,.undef,.undef,.undef,.undef,.undef,.undef,c,d,e,.undef,.undef,.undef,.undef,f,g,.undef,.undef,.undef,.undef,.undef,.undef,.undef,.undef,.undef,.undef,.undef,.undef,.undef,.undef,.undef,.undef,.undef,.undef,.undef,.undef,.undef,.undef,.undef,.undef,.undef,.undef] h
theorem a5O (T:Tab) (k j0 j1:Nat) (a b c d e f g:AV) (h:Heap):a1C T k j0 (j1+1) a b c d e f g h =
 oa (binV .lss .scalar g (.int .i64 5)) fun i=>
 cond2 i
 (
 oa (ixA 5 1 none f g) fun l=>
 oa (nilCk a) fun m=>
 oa (fldA 5 m) fun n=>
 oa (ld1 h n) fun o=>
 oa (nilCk a) fun p=>
 oa (fldA 5 p) fun q=>
 oa (ld1 h q) fun r=>
 oa (idxS 5 r l) fun s=>
 oa (idxA 5 1 s g) fun t=>
 oa (ld1 h t) fun u=>
 ob (buildSl 1 1 [.int .i64 0] [(0,1,b)] h) fun v w=>
 oa (idxS 5 o l) fun x=>
 ob (apnd 1 8 u v w) fun y z=>
 chk ((sameB (pure1 z (ld1 z n)) o && true)) <|
 oa (idxA 5 1 x g) fun aa=>
 oh (stN 1 z aa y) fun ab=>
 oa (binV .add .scalar g (.int .i64 1)) fun ac=>
 a1C T k j0 j1 a b c d e f ac ab
 )
 (
 oa (binV .add .scalar e (.int .i64 1)) fun ad=>
 y2_ T k j0 a c d ad h
 ):=loopEq (by kernel_rfl)
theorem a5P (T:Tab) (k j0:Nat) (a b c d:AV) (h:Heap):y2_ T k (j0+1) a b c d h =
 oa (binV .lss .scalar d c) fun e=>
 cond2 e
 (
 oa (idxS 5 b d) fun f=>
 oa (ldN 5 h f) fun g=>
 ob (newVar h [.int .i64 0,.int .i64 0,.int .i64 0,.int .i64 0,.int .i64 0]) fun i l=>
 oh (stN 5 l i g) fun m=>
 oa (ldN 5 m i) fun n=>
 a1C T k j0 k a d b c d n (.int .i64 0) m
 )
 (
 some (a,h)
 ):=loopEq (by kernel_rfl)
theorem b2n (T:Tab) (k:Nat) (a b:AV) (h:Heap):runF T k a4q [a,b] h =
 ob (newVar h (AV.cells a)) fun c d=>
 ob (newVar d (AV.cells b)) fun e f=>
 oa (ldN 2 f c) fun g=>
 oa (ldN 2 f c) fun i=>
 oa (ldN 2 f e) fun l=>
 oa (fldA 0 e) fun m=>
 oa (ld1 f m) fun n=>
 oa (lenS n) fun o=>
 ob (mkSl [.nils,.nils,.nils,.nils,.nils] 5 120 o o f) fun p q=>
 ob (evalFn T k a5N [i] q) fun r s=>
 chk ((sameB (pure1 s (ldN 2 s c)) g && (sameB (pure1 s (ldN 2 s e)) l && (sameB (pure1 s (ld1 s m)) n && true)))) <|
 oa (buildV [.int .i64 0,.nils,.nilp,.nils,.nils,.nils] [(0,2,g),(2,1,r),(3,2,l),(5,1,p)]) fun t=>
 ob (newVar s (AV.cells t)) fun u v=>
 oa (fldA 0 e) fun w=>
 oa (ld1 v w) fun x=>
 oa (lenS x) fun y=>
 y2_ T k k u x y (.int .i64 0) v:=runEq (by kernel_rfl)
noncomputable def a2E:MCode:=.seq [] (.region [tS 43 (.bin .lss .scalar (tT 42) (tT 41))]) (.seq [43] (.cond (tT 43) .skip (.exit 0)) (.seq [9,45,46,47,48,49,50,51,52,53,54,55,56,57,58,59,60,61,62] (.block 1 (.seq [44] (.region [tM 44 42,tM 9 44]) (.regionD 80 [dM 0 80 8,tD 1 81 (.nilCheck (tT 80)),dF 2 82 3 81,dL 3 83 82,dM 4 84 9,dM 5 85 8,tD 6 86 (.nilCheck (tT 85)),dF 7 87 4 86,dL 8 88 87,dM 9 89 9,dM 10 90 8,tD 11 91 (.nilCheck (tT 90)),dF 12 92 5 91,dL 13 93 92,dM 14 94 9,tD 15 95 (.idxSl 1 (tT 83) (tT 84)),tD 16 96 (.store 1 (tT 95) (tK (-1))),tD 17 97 (.idxSl 1 (tT 88) (tT 89)),tD 18 98 (.store 1 (tT 97) (tK (-1))),tD 19 99 (.idxSl 1 (tT 93) (tT 94)),tD 20 100 (.store 1 (tT 99) (tK (-1)))] [(45,80),(46,81),(47,82),(48,83),(49,84),(50,85),(51,86),(52,87),(53,88),(54,89),(55,90),(56,91),(57,92),(58,93),(59,94),(60,95),(61,97),(62,99)]))) (.region [tS 63 (.bin .add .scalar (tT 42) (tK 1)),tM 42 63])))
noncomputable def a2F:MCode:=.seq [] (.region [tS 67 (.bin .lss .scalar (tT 66) (tT 65))]) (.seq [67] (.cond (tT 67) .skip (.exit 2)) (.seq [11,70,71,72,73,74,75,76,77] (.block 3 (.seq [68,69] (.region [tX 68 2 64 66,tA 69 2 68,tS 11 (.alloc [.int .i64 0,.int .i64 0]),tW 2 11 69]) (.regionD 80 [dM 0 80 8,tD 1 81 (.nilCheck (tT 80)),dF 2 82 2 81,dL 3 83 82,dM 4 84 0,tD 5 85 (.load (some 2) (tT 11)),⟨6,⟨some 86,.call d1_ [(tT 84),(tT 85)],none⟩,[(83,tL 83 82)]⟩,⟨7,⟨some 87,.call f5_ [(tT 83),(tT 86),(tK 0)],none⟩,[]⟩] [(70,80),(71,81),(72,82),(73,83),(74,84),(75,85),(76,86),(77,87)]))) (.region [tS 78 (.bin .add .scalar (tT 66) (tK 1)),tM 66 78])))
noncomputable def y8_:MCode:=.seq [0,64,65,66,67] (.seq [2] (.region [tM 64 2,tS 65 (.lenSl (tT 64)),tS 66 (.mv (tK 0))]) (.block 2 (.loop [78] a2F))) (.seq [8,79] (.region [tM 79 8,tM 6 79]) .ret)
def r4_:Res:=[(6,none)]
noncomputable def y9_:MFn:=⟨80,r4_,.seq [6] (.region [tS 6 (.mv (.const .nilp))]) (.seq [12,13,14,15,16,17,18,19,20,21,22,23,24] (.regionD 80 [dM 0 80 0,tD 1 81 (.nilCheck (tT 80)),dF 2 82 0 81,dF 3 83 0 82,dL 4 84 83,tD 5 85 (.mm true (tT 84) (tK 0)),dM 6 86 0,tD 7 87 (.nilCheck (tT 86)),dF 8 88 3 87,dF 9 89 0 88,dL 10 90 89,tD 11 91 (.lenSl (tT 90)),tD 12 92 (.bin .mul .scalar (tT 85) (tT 91)),dM 13 93 92] [(12,80),(13,81),(14,82),(15,83),(16,84),(17,85),(18,86),(19,87),(20,88),(21,89),(22,90),(23,91),(24,92),(7,93)]) (.seq [1,7,25,26,27,28,29,30,31,32,33,34,35,36] (.regionD 80 [dM 0 80 0,dM 1 81 1,dM 2 82 7,dM 4 84 7,tD 5 85 (.mkSlice [.int .i64 0] 1 8 (tT 84) (tT 84)),dM 6 86 7,tD 7 87 (.mkSlice [.int .i64 0] 1 8 (tT 86) (tT 86)),dM 8 88 7,tD 9 89 (.mkSlice [.int .i64 0] 1 8 (tT 88) (tT 88)),⟨3,⟨some 83,.call a2D [(tT 82)],none⟩,[]⟩,tD 10 90 (.build [.nilp,.nilfn,.nilp,.nils,.nils,.nils,.int .i64 0] [(0,1,(tT 80)),(1,1,(tT 81)),(2,1,(tT 83)),(3,1,(tT 85)),(4,1,(tT 87)),(5,1,(tT 89))]),tD 11 91 (.box (tT 90)),dM 12 92 91] [(25,80),(26,81),(27,82),(28,83),(29,84),(30,85),(31,86),(32,87),(33,88),(34,89),(35,90),(36,91),(8,92)]) (.seq [41,42,43] (.seq [37,38,39,40] (.region [tM 37 8,tN 38 37,tF 39 3 38,tL 40 39,tS 41 (.lenSl (tT 40)),tS 42 (.mv (tK 0))]) (.block 0 (.loop [63] a2E))) (.lab y8_))))⟩
noncomputable def r5_ (T:Tab) (k j0:Nat) (a b c d e:AV) (h:Heap):Option (AV × Heap):=
 loopB T k r4_ j0 [63] a2E [.blk 0,.seq [41,42,43] (.lab y8_)] [a,.u,b,.u,.u,.u,.u,.u,c,.u,.u,.u,.u,.u,.u,.u,.u,.u,.u,.u,.u,.u,.u,.u,.u,.u,.u,.u,.u,.u,.u,.u,.u,.u,.u,.u,.u,.u,.u,.u,.u,d,e,.u,.u,.u,.u,.u,.u,.u,.u,.u,.u,.u,.u,.u,.u,.u,.u,.u,.u,.u,.u,.u,.u,.u,.u,.u,.u,.u,.u,.u,.u,.u,.u,.u,.u,.u,.u,.u] h
noncomputable def z0_ (T:Tab) (k:Nat) (a b c:AV) (h:Heap):Option (AV × Heap):=
 evB T k r4_ y8_ [] [a,.u,b,.u,.u,.u,.u,.u,c,.u,.u,.u,.u,.u,.u,.u,.u,.u,.u,.u,.u,.u,.u,.u,.u,.u,.u,.u,.u,.u,.u,.u,.u,.u,.u,.u,.u,.u,.u,.u,.u,.u,.u,.u,.u,.u,.u,.u,.u,.u,.u,.u,.u,.u,.u,.u,.u,.u,.u,.u,.u,.u,.u,.u,.u,.u,.u,.u,.u,.u,.u,.u,.u,.u,.u,.u,.u,.u,.u,.u] h
noncomputable def r6_ (T:Tab) (k j0:Nat) (a b c d e:AV) (h:Heap):Option (AV × Heap):=
 loopB T k r4_ j0 [78] a2F [.blk 2,.seq [0,64,65,66,67] (.seq [8,79] (.region [⟨some 79,.op (.mv (.tmp 8)),none⟩,
 ⟨some 6,.op (.mv (.tmp 79)),none⟩]) .ret)] [a,.undef,.undef,.undef,.undef,.undef,.undef,.undef,b,.undef,.undef,.undef,.undef,.undef,.undef,.undef,.undef,.undef,.undef,.undef,.undef,.undef,.undef,.undef,.undef,.undef,.undef,.undef,.undef,.undef,.undef,.undef,.undef,.undef,.undef,.undef,.undef,.undef,.undef,.undef,.undef,.undef,.undef,.undef,.undef,.undef,.undef,.undef,.undef,.undef,.undef,.undef,.undef,.undef,.undef,.undef,.undef,.undef,.undef,.undef,.undef,.undef,.undef,.undef,c,d,e,.undef,.undef,.undef,.undef,.undef,.undef,.undef,.undef,.undef,.undef,.undef,.undef,.undef] h
theorem a1D (T:Tab) (k j0:Nat) (a b c d e:AV) (h:Heap):r6_ T k (j0+1) a b c d e h =
 oa (binV .lss .scalar e d) fun f=>
 cond2 f
 (
 oa (idxS 2 c e) fun g=>
 oa (ldN 2 h g) fun i=>
 ob (newVar h [.int .i64 0,.int .i64 0]) fun l m=>
 oh (stN 2 m l i) fun n=>
 oa (nilCk b) fun o=>
 oa (fldA 2 o) fun p=>
 oa (ld1 n p) fun q=>
 oa (ldN 2 n l) fun r=>
 ob (evalFn T k d1_ [a,r] n) fun s t=>
 chk ((sameB (pure1 t (ld1 t p)) q && true)) <|
 ob (evalFn T k f5_ [q,s,(.int .i64 0)] t) fun u v=>
 oa (binV .add .scalar e (.int .i64 1)) fun w=>
 r6_ T k j0 a b c d w v
 )
 (
 some (b,h)
 ):=loopEq (by kernel_rfl)
theorem a6C (T:Tab) (k:Nat) (a b c:AV) (h:Heap):z0_ T k a b c h =
 oa (lenS b) fun d=>
 r6_ T k k a c b d (.int .i64 0) h:=blockEq (by kernel_rfl)
theorem a1E (T:Tab) (k j0:Nat) (a b c d e:AV) (h:Heap):r5_ T k (j0+1) a b c d e h =
 oa (binV .lss .scalar e d) fun f=>
 cond2 f
 (
 oa (nilCk c) fun g=>
 oa (fldA 3 g) fun i=>
 oa (ld1 h i) fun l=>
 oa (nilCk c) fun m=>
 oa (fldA 4 m) fun n=>
 oa (ld1 h n) fun o=>
 oa (nilCk c) fun p=>
 oa (fldA 5 p) fun q=>
 oa (ld1 h q) fun r=>
 oa (idxS 1 l e) fun s=>
 oh (stN 1 h s (.int .i64 (-1))) fun t=>
 oa (idxS 1 o e) fun u=>
 oh (stN 1 t u (.int .i64 (-1))) fun v=>
 oa (idxS 1 r e) fun w=>
 oh (stN 1 v w (.int .i64 (-1))) fun x=>
 oa (binV .add .scalar e (.int .i64 1)) fun y=>
 r5_ T k j0 a b c d y x
 )
 (
 z0_ T k a b c h
 ):=loopEq (by kernel_rfl)
theorem a8B (T:Tab) (k:Nat) (a b c:AV) (h:Heap):runF T k y9_ [a,b,c] h =
 oa (nilCk a) fun d=>
 oa (fldA 0 d) fun e=>
 oa (fldA 0 e) fun f=>
 oa (ld1 h f) fun g=>
 oa (mmV true g (.int .i64 0)) fun i=>
 oa (nilCk a) fun l=>
 oa (fldA 3 l) fun m=>
 oa (fldA 0 m) fun n=>
 oa (ld1 h n) fun o=>
 oa (lenS o) fun p=>
 oa (binV .mul .scalar i p) fun q=>
 ob (mkSl [.int .i64 0] 1 8 q q h) fun r s=>
 ob (mkSl [.int .i64 0] 1 8 q q s) fun t u=>
 ob (mkSl [.int .i64 0] 1 8 q q u) fun v w=>
 ob (evalFn T k a2D [q] w) fun x y=>
 oa (buildV [.nilp,.nilfn,.nilp,.nils,.nils,.nils,.int .i64 0] [(0,1,a),(1,1,b),(2,1,x),(3,1,r),(4,1,t),(5,1,v)]) fun z=>
 ob (newVar y (AV.cells z)) fun aa ab=>
 oa (nilCk aa) fun ac=>
 oa (fldA 3 ac) fun ad=>
 oa (ld1 ab ad) fun ae=>
 oa (lenS ae) fun af=>
 r5_ T k k a c aa af (.int .i64 0) ab:=runEq (by kernel_rfl)
noncomputable def a5o:MCode:=.seq [] (.region [tS 18 (.bin .lss .scalar (tT 17) (tT 16))]) (.seq [18] (.cond (tT 18) .skip (.exit 0)) (.seq [7,8,29,30,31,32,33,34,35,36,37,38,39,40,41,42,43,44,45,46,47,48] (.block 1 (.seq [19,20] (.region [tX 19 1 15 17,tL 20 19,tM 7 20]) (.seq [21,22,23,24,25,26,27,28] (.region [tM 21 0,tN 22 21,tF 23 0 22,tF 24 1 23,tL 25 24,tM 26 7,tX 27 4 25 26,tA 28 4 27,tS 8 (.alloc [.int .i64 0,.int .i64 0,.int .i64 0,.int .i64 0]),tW 4 8 28]) (.regionD 51 [dM 0 51 5,dF 1 52 1 8,dL 2 53 52,dM 3 54 0,tD 4 55 (.nilCheck (tT 54)),dF 5 56 3 55,dF 6 57 0 56,dL 7 58 57,dF 8 59 1 3,dL 9 60 59,dF 10 61 2 8,dL 11 62 61,tD 12 63 (.idxSl 5 (tT 58) (tT 60)),tD 13 64 (.idxArr 5 1 (tT 63) (tT 62)),dL 14 65 64,tD 15 66 (.build [.int .i64 0,.int .i64 0] [(0,1,(tT 53)),(1,1,(tT 65))]),dM 16 67 7,tD 17 68 (.build [.int .i64 0,.int .i64 0,.int .i64 0] [(0,2,(tT 66)),(2,1,(tT 67))]),tD 18 69 (.buildSlice 3 1 [.int .i64 0,.int .i64 0,.int .i64 0] [(0,3,(tT 68))]),tD 19 70 (.append 3 24 (tT 51) (tT 69)),dM 20 71 70] [(29,51),(30,52),(31,53),(32,54),(33,55),(34,56),(35,57),(36,58),(37,59),(38,60),(39,61),(40,62),(41,63),(42,64),(43,65),(44,66),(45,67),(46,68),(47,69),(48,70),(5,71)])))) (.region [tS 49 (.bin .add .scalar (tT 17) (tK 1)),tM 17 49])))
def a5p:Res:=[(4,none)]
noncomputable def a1u:MFn:=⟨51,a5p,.seq [1,4] (.region [tS 3 (.box (tT 1)),tS 4 (.mv (.const .nils))]) (.seq [] (.region [tS 5 (.mv (.const .nils))]) (.seq [0,3,15,16,17,18] (.seq [9,10,11,12,13,14] (.regionD 51 [dM 0 51 0,tD 1 52 (.nilCheck (tT 51)),dF 2 53 2 52,dL 3 54 53,dF 4 55 0 3,dL 5 56 55,tD 8 59 (.mv (tK 0)),⟨6,⟨some 57,.call a1n [(tT 54),(tT 56)],none⟩,[]⟩,tD 7 58 (.lenSl (tT 57))] [(9,51),(10,52),(11,53),(12,54),(13,55),(14,56),(15,57),(16,58),(17,59)]) (.block 0 (.loop [49] a5o))) (.seq [5,50] (.region [tM 50 5,tM 4 50]) .ret)))⟩
noncomputable def v7_ (T:Tab) (k j0:Nat) (a b c d e f:AV) (h:Heap):Option (AV × Heap):=
 loopB T k a5p j0 [49] a5o [.blk 0,.seq [0,3,15,16,17,18] (.seq [5,50] (.region [⟨some 50,.op (.mv (.tmp 5)),none⟩,
 ⟨some 4,.op (.mv (.tmp 50)),none⟩]) .ret)] [a,.undef,.undef,b,.undef,c,.undef,.undef,.undef,.undef,.undef,.undef,.undef,.undef,.undef,d,e,f,.undef,.undef,.undef,.undef,.undef,.undef,.undef,.undef,.undef,.undef,.undef,.undef,.undef,.undef,.undef,.undef,.undef,.undef,.undef,.undef,.undef,.undef,.undef,.undef,.undef,.undef,.undef,.undef,.undef,.undef,.undef,.undef,.undef] h
theorem a2G (T:Tab) (k j0:Nat) (a b c d e f:AV) (h:Heap):v7_ T k (j0+1) a b c d e f h =
 oa (binV .lss .scalar f e) fun g=>
 cond2 g
 (
 oa (idxS 1 d f) fun i=>
 oa (ld1 h i) fun l=>
 oa (nilCk a) fun m=>
 oa (fldA 0 m) fun n=>
 oa (fldA 1 n) fun o=>
 oa (ld1 h o) fun p=>
 oa (idxS 4 p l) fun q=>
 oa (ldN 4 h q) fun r=>
 ob (newVar h [.int .i64 0,.int .i64 0,.int .i64 0,.int .i64 0]) fun s t=>
 oh (stN 4 t s r) fun u=>
 oa (fldA 1 s) fun v=>
 oa (ld1 u v) fun w=>
 oa (nilCk a) fun x=>
 oa (fldA 3 x) fun y=>
 oa (fldA 0 y) fun z=>
 oa (ld1 u z) fun aa=>
 oa (fldA 1 b) fun ab=>
 oa (ld1 u ab) fun ac=>
 oa (fldA 2 s) fun ad=>
 oa (ld1 u ad) fun ae=>
 oa (idxS 5 aa ac) fun af=>
 oa (idxA 5 1 af ae) fun ag=>
 oa (ld1 u ag) fun ai=>
 oa (buildV [.int .i64 0,.int .i64 0] [(0,1,w),(1,1,ai)]) fun al=>
 oa (buildV [.int .i64 0,.int .i64 0,.int .i64 0] [(0,2,al),(2,1,l)]) fun am=>
 ob (buildSl 3 1 [.int .i64 0,.int .i64 0,.int .i64 0] [(0,3,am)] u) fun an ao=>
 ob (apnd 3 24 c an ao) fun ap aq=>
 oa (binV .add .scalar f (.int .i64 1)) fun ar=>
 v7_ T k j0 a b ap d e ar aq
 )
 (
 some (c,h)
 ):=loopEq (by kernel_rfl)
theorem b0s (T:Tab) (k:Nat) (a b:AV) (h:Heap):runF T k a1u [a,b] h =
 ob (newVar h (AV.cells b)) fun c d=>
 oa (nilCk a) fun e=>
 oa (fldA 2 e) fun f=>
 oa (ld1 d f) fun g=>
 oa (fldA 0 c) fun i=>
 oa (ld1 d i) fun l=>
 ob (evalFn T k a1n [g,l] d) fun m n=>
 oa (lenS m) fun o=>
 v7_ T k k a c .nils m o (.int .i64 0) n:=runEq (by kernel_rfl)
noncomputable def a3z:MCode:=.block 1 (.seq [2,4,5,6,7,8] (.region [tM 5 0,⟨some 6,.call f9_ [(tT 5)],none⟩,tM 4 6,tS 7 (.extract 0 (tT 4)),tS 8 (.extract 1 (tT 4)),tM 2 7,tM 3 8]) (.seq [3,9] (.region [tM 9 3,tS 10 (.un .not (tT 9))]) (.cond (tT 10) .ret .skip)))
def a3A:Res:=[]
noncomputable def a0A:MFn:=⟨11,a3A,.block 0 (.loop [10] a3z)⟩
noncomputable def s5_ (T:Tab) (k j0:Nat) (a:AV) (h:Heap):Option (AV × Heap):=
 loopB T k a3A j0 [10] a3z [.blk 0] [a,.u,.u,.u,.u,.u,.u,.u,.u,.u,.u] h
end Go.Gm.AQ
namespace Go.Gm.AQ
open Go Go.Gm
theorem a1V (T:Tab) (k j0:Nat) (a:AV) (h:Heap):s5_ T k (j0+1) a h =
 ob (evalFn T k f9_ [a] h) fun b c=>
 oa (extr 0 b) fun d=>
 oa (extr 1 b) fun e=>
 oa (unV .not e) fun f=>
 cond2 f
 (
 some (.tup [],c)
 )
 (
 s5_ T k j0 a c
 ):=loopEq (by kernel_rfl)
theorem a9h (T:Tab) (k:Nat) (a:AV) (h:Heap):runF T k a0A [a] h =
 s5_ T k k a h:=runEq (by kernel_rfl)
noncomputable def a2H:MCode:=.seq [] (.region [tS 19 (.bin .lss .scalar (tT 18) (tT 17))]) (.seq [19] (.cond (tT 19) .skip (.exit 0)) (.seq [8,62,63] (.block 1 (.seq [20,21,22] (.region [tM 20 18,tX 21 1 16 18,tL 22 21,tM 6 20,tM 7 22]) (.seq [6,23,24,25,26,27,28,29,30] (.region [tM 23 0,tN 24 23,tF 25 0 24,tL 26 25,tM 27 1,tM 28 6,tS 29 (.build [.int .i64 0,.int .i64 0] [(0,1,(tT 27)),(1,1,(tT 28))]),⟨some 30,.call d1_ [(tT 26),(tT 29)],none⟩,tM 8 30]) (.seq [7,31,32,33,34,35,36,37,38,39,40,41,42,43,44,45,46,47,48,49,50,51,52,53,54,55,56,57,58,59,60,61] (.regionD 66 [dM 0 66 7,dM 1 67 66,⟨2,⟨some 68,.op (.mv (tT 0)),some (67,true)⟩,[]⟩,⟨3,⟨some 69,.op (.nilCheck (tT 68)),some (67,true)⟩,[]⟩,⟨4,⟨some 70,.op (.fieldAddr 3 (tT 69)),some (67,true)⟩,[]⟩,⟨5,⟨some 71,.op (.load none (tT 70)),some (67,true)⟩,[]⟩,⟨6,⟨some 72,.op (.mv (tT 8)),some (67,true)⟩,[]⟩,⟨7,⟨some 73,.op (.idxSl 1 (tT 71) (tT 72)),some (67,true)⟩,[]⟩,⟨8,⟨some 74,.op (.load none (tT 73)),some (67,true)⟩,[]⟩,⟨9,⟨some 75,.op (.bin .geq .scalar (tT 74) (tK 0)),some (67,true)⟩,[]⟩,tD 10 76 (.pick (tT 67) (tT 75) (.const (.bool false))),dM 11 77 76,⟨12,⟨some 78,.op (.mv (tT 5)),some (77,true)⟩,[]⟩,⟨13,⟨some 79,.op (.bin .lss .scalar (tT 78) (tK 0)),some (77,true)⟩,[]⟩,⟨14,⟨some 80,.op (.mv (tT 79)),some (77,true)⟩,[]⟩,⟨15,⟨some 81,.op (.mv (tT 0)),some (80,false)⟩,[]⟩,⟨16,⟨some 82,.op (.nilCheck (tT 81)),some (80,false)⟩,[]⟩,⟨17,⟨some 83,.op (.fieldAddr 3 (tT 82)),some (80,false)⟩,[]⟩,⟨18,⟨some 84,.op (.load none (tT 83)),some (80,false)⟩,[]⟩,⟨19,⟨some 85,.op (.mv (tT 8)),some (80,false)⟩,[]⟩,⟨20,⟨some 86,.op (.idxSl 1 (tT 84) (tT 85)),some (80,false)⟩,[]⟩,⟨21,⟨some 87,.op (.load none (tT 86)),some (80,false)⟩,[]⟩,⟨22,⟨some 88,.op (.mv (tT 0)),some (80,false)⟩,[]⟩,⟨23,⟨some 89,.op (.nilCheck (tT 88)),some (80,false)⟩,[]⟩,⟨24,⟨some 90,.op (.fieldAddr 3 (tT 89)),some (80,false)⟩,[]⟩,⟨25,⟨some 91,.op (.load none (tT 90)),some (80,false)⟩,[]⟩,⟨26,⟨some 92,.op (.mv (tT 5)),some (80,false)⟩,[]⟩,⟨27,⟨some 93,.op (.idxSl 1 (tT 91) (tT 92)),some (80,false)⟩,[]⟩,⟨28,⟨some 94,.op (.load none (tT 93)),some (80,false)⟩,[]⟩,⟨29,⟨some 95,.op (.bin .lss .scalar (tT 87) (tT 94)),some (80,false)⟩,[]⟩,⟨30,⟨some 96,.op (.pick (tT 80) (.const (.bool true)) (tT 95)),some (77,true)⟩,[]⟩,tD 31 97 (.pick (tT 77) (tT 96) (.const (.bool false)))] [(31,66),(32,67),(33,68),(34,69),(35,70),(36,71),(37,72),(38,73),(39,74),(40,75),(41,76),(42,77),(43,78),(44,79),(45,80),(46,81),(47,82),(48,83),(49,84),(50,85),(51,86),(52,87),(53,88),(54,89),(55,90),(56,91),(57,92),(58,93),(59,94),(60,95),(61,96),(62,97)]) (.cond (tT 62) (.region [tM 63 8,tM 5 63]) .skip))))) (.region [tS 64 (.bin .add .scalar (tT 18) (tK 1)),tM 18 64])))
def a2I:Res:=[(4,none)]
noncomputable def z1_:MFn:=⟨66,a2I,.seq [4] (.region [tS 4 (.mv (tK 0))]) (.seq [] (.region [tS 5 (.mv (tK (-1)))]) (.seq [0,1,16,17,18,19] (.seq [9,10,11,12,13,14,15] (.region [tM 9 0,tN 10 9,tF 11 0 10,tL 12 11,tN 13 12,tF 14 3 13,tF 15 1 14,tL 16 15,tS 17 (.lenSl (tT 16)),tS 18 (.mv (tK 0))]) (.block 0 (.loop [64] a2H))) (.seq [5,65] (.region [tM 65 5,tM 4 65]) .ret)))⟩
noncomputable def i7_ (T:Tab) (k j0:Nat) (a b c d e f:AV) (h:Heap):Option (AV × Heap):=
 loopB T k a2I j0 [64] a2H [.blk 0,.seq [0,1,16,17,18,19] (.seq [5,65] (.region [⟨some 65,.op (.mv (.tmp 5)),none⟩,
 ⟨some 4,.op (.mv (.tmp 65)),none⟩]) .ret)] [a,b,.undef,.undef,.undef,c,.undef,.undef,.undef,.undef,.undef,.undef,.undef,.undef,.undef,.undef,d,e,f,.undef,.undef,.undef,.undef,.undef,.undef,.undef,.undef,.undef,.undef,.undef,.undef,.undef,.undef,.undef,.undef,.undef,.undef,.undef,.undef,.undef,.undef,.undef,.undef,.undef,.undef,.undef,.undef,.undef,.undef,.undef,.undef,.undef,.undef,.undef,.undef,.undef,.undef,.undef,.undef,.undef,.undef,.undef,.undef,.undef,.undef,.undef] h
theorem a1F (T:Tab) (k j0:Nat) (a b c d e f:AV) (h:Heap):i7_ T k (j0+1) a b c d e f h =
 oa (binV .lss .scalar f e) fun g=>
 cond2 g
 (
 oa (idxS 1 d f) fun i=>
 oa (ld1 h i) fun l=>
 oa (nilCk a) fun m=>
 oa (fldA 0 m) fun n=>
 oa (ld1 h n) fun o=>
 oa (buildV [.int .i64 0,.int .i64 0] [(0,1,b),(1,1,f)]) fun p=>
 ob (evalFn T k d1_ [o,p] h) fun q r=>
 ob (gd l true (some (a,r)) r) fun s t=>
 ob (gd l true (pure1 t (nilCk s)) t) fun u v=>
 ob (gd l true (pure1 v (fldA 3 u)) v) fun w x=>
 ob (gd l true (pure1 x (ld1 x w)) x) fun y z=>
 ob (gd l true (some (q,z)) z) fun aa ab=>
 ob (gd l true (pure1 ab (idxS 1 y aa)) ab) fun ac ad=>
 ob (gd l true (pure1 ad (ld1 ad ac)) ad) fun ae af=>
 ob (gd l true (pure1 af (binV .geq .scalar ae (.int .i64 0))) af) fun ag ai=>
 oa (pickV l ag (.bool false)) fun al=>
 ob (gd al true (some (c,ai)) ai) fun am an=>
 ob (gd al true (pure1 an (binV .lss .scalar am (.int .i64 0))) an) fun ao ap=>
 ob (gd al true (some (ao,ap)) ap) fun aq ar=>
 ob (gd aq false (some (a,ar)) ar) fun as au=>
 ob (gd aq false (pure1 au (nilCk as)) au) fun av aw=>
 ob (gd aq false (pure1 aw (fldA 3 av)) aw) fun ax ay=>
 ob (gd aq false (pure1 ay (ld1 ay ax)) ay) fun az a0=>
 ob (gd aq false (some (q,a0)) a0) fun a1 a2=>
 ob (gd aq false (pure1 a2 (idxS 1 az a1)) a2) fun a3 a4=>
 ob (gd aq false (pure1 a4 (ld1 a4 a3)) a4) fun a5 a6=>
 ob (gd aq false (some (a,a6)) a6) fun a7 a8=>
 ob (gd aq false (pure1 a8 (nilCk a7)) a8) fun a9 ba=>
 ob (gd aq false (pure1 ba (fldA 3 a9)) ba) fun bb bc=>
 ob (gd aq false (pure1 bc (ld1 bc bb)) bc) fun bd be=>
 ob (gd aq false (some (c,be)) be) fun bf bg=>
 ob (gd aq false (pure1 bg (idxS 1 bd bf)) bg) fun bi bl=>
 ob (gd aq false (pure1 bl (ld1 bl bi)) bl) fun bm bn=>
 ob (gd aq false (pure1 bn (binV .lss .scalar a5 bm)) bn) fun bo bp=>
 ob (gd al true (pure1 bp (pickV aq (.bool true) bo)) bp) fun bq br=>
 oa (pickV al bq (.bool false)) fun bs=>
 cond2 bs
 (
 oa (binV .add .scalar f (.int .i64 1)) fun bt=>
 i7_ T k j0 a b q d e bt br
 )
 (
 oa (binV .add .scalar f (.int .i64 1)) fun bu=>
 i7_ T k j0 a b c d e bu br
 )
 )
 (
 some (c,h)
 ):=loopEq (by kernel_rfl)
theorem a8C (T:Tab) (k:Nat) (a b:AV) (h:Heap):runF T k z1_ [a,b] h =
 oa (nilCk a) fun c=>
 oa (fldA 0 c) fun d=>
 oa (ld1 h d) fun e=>
 oa (nilCk e) fun f=>
 oa (fldA 3 f) fun g=>
 oa (fldA 1 g) fun i=>
 oa (ld1 h i) fun l=>
 oa (lenS l) fun m=>
 i7_ T k k a b (.int .i64 (-1)) l m (.int .i64 0) h:=runEq (by kernel_rfl)
noncomputable def a2J:MCode:=.seq [5,36] (.seq [32,33,34,35] (.region [tM 32 5,tN 33 32,tF 34 3 33,tL 35 34,tS 36 (.bin .neq .scalar (tT 35) (tK 0))]) (.cond (tT 36) (.seq [5,6,36,37,38,39,40,41,42,43,44,45] (.regionD 47 [tD 0 47 (.build [.int .i64 0,.int .i64 0,.int .i64 0,.int .i64 0,.nils] []),dM 1 48 5,tD 2 49 (.nilCheck (tT 48)),dF 3 50 1 49,dL 4 51 50,dM 5 52 5,tD 6 53 (.nilCheck (tT 52)),dF 7 54 3 53,dL 8 55 54,⟨9,tS 56 (.store 5 (tT 2) (tT 47)),[(51,tL 51 50),(55,tL 55 54)]⟩,dM 10 57 51,dM 11 58 55] [(37,47),(38,48),(39,49),(40,50),(41,51),(42,52),(43,53),(44,54),(45,55),(3,57),(4,58)]) .ret) .skip)) (.seq [6,46] (.region [tA 46 5 6,tW 5 2 46,tS 3 (.mv (tK 0)),tS 4 (.mv (tK 0))]) .ret)
def a2K:Res:=[(2,some (some 5)),(3,none),(4,none)]
noncomputable def z2_:MFn:=⟨47,a2K,.seq [3,4] (.region [tS 2 (.alloc [.int .i64 0,.int .i64 0,.int .i64 0,.int .i64 0,.nils]),tS 3 (.mv (tK 0)),tS 4 (.mv (tK 0))]) (.seq [9] (.seq [7,8] (.region [tM 7 0,tS 8 (.lenStr (tT 7)),tS 9 (.bin .gtr .scalar (tT 8) (tK 200))]) (.cond (tT 9) (.seq [0,9,10] (.region [tS 10 (.build [.int .i64 0,.int .i64 0,.int .i64 0,.int .i64 0,.nils] []),tW 5 2 10,tS 3 (.mv (tK 0)),tS 4 (.mv (tK 4))]) .ret) .skip)) (.seq [11,12,13] (.region [tM 11 0,tS 12 (.build [.str ⟨#[]⟩,.int .i64 0,.int .i64 0,.int .i64 0] [(0,1,(tT 11))]),tS 13 (.box (tT 12)),tM 5 13]) (.seq [14,15] (.region [tM 14 5,⟨some 15,.call b4_ [(tT 14)],none⟩,tS 6 (.alloc [.int .i64 0,.int .i64 0,.int .i64 0,.int .i64 0,.nils]),tW 5 6 15]) (.seq [29,30,31] (.seq [0,16,17,18,19,20,21,22,23,24,25,26,27,28] (.region [tM 16 5,tN 17 16,tF 18 3 17,tL 19 18,tS 20 (.bin .eql .scalar (tT 19) (tK 0)),tM 21 20,⟨some 22,.op (.mv (tT 5)),some (21,true)⟩,⟨some 23,.op (.nilCheck (tT 22)),some (21,true)⟩,⟨some 24,.op (.fieldAddr 1 (tT 23)),some (21,true)⟩,⟨some 25,.op (.load none (tT 24)),some (21,true)⟩,⟨some 26,.op (.mv (tT 0)),some (21,true)⟩,⟨some 27,.op (.lenStr (tT 26)),some (21,true)⟩,⟨some 28,.op (.bin .lss .scalar (tT 25) (tT 27)),some (21,true)⟩,tS 29 (.pick (tT 21) (tT 28) (.const (.bool false)))]) (.cond (tT 29) (.region [tM 30 5,⟨some 31,.call a5_ [(tT 30),(tK 3)],none⟩]) .skip)) (.lab a2J)))))⟩
noncomputable def z3_ (T:Tab) (k:Nat) (a b c:AV) (h:Heap):Option (AV × Heap):=
 evB T k a2K a2J [] [.u,.u,a,.u,.u,b,c,.u,.u,.u,.u,.u,.u,.u,.u,.u,.u,.u,.u,.u,.u,.u,.u,.u,.u,.u,.u,.u,.u,.u,.u,.u,.u,.u,.u,.u,.u,.u,.u,.u,.u,.u,.u,.u,.u,.u,.u] h
theorem a6D (T:Tab) (k:Nat) (a b c:AV) (h:Heap):z3_ T k a b c h =
 oa (nilCk b) fun d=>
 oa (fldA 3 d) fun e=>
 oa (ld1 h e) fun f=>
 oa (binV .neq .scalar f (.int .i64 0)) fun g=>
 cond2 g
 (
 oa (buildV [.int .i64 0,.int .i64 0,.int .i64 0,.int .i64 0,.nils] []) fun i=>
 oa (nilCk b) fun l=>
 oa (fldA 1 l) fun m=>
 oa (ld1 h m) fun n=>
 oa (nilCk b) fun o=>
 oa (fldA 3 o) fun p=>
 oa (ld1 h p) fun q=>
 oh (stN 5 h a i) fun r=>
 chk ((sameB (pure1 r (ld1 r m)) n && (sameB (pure1 r (ld1 r p)) q && true))) <|
 oa (ldN 5 r a) fun s=>
 some (.tup [s,n,q],r)
 )
 (
 oa (ldN 5 h c) fun t=>
 oh (stN 5 h a t) fun u=>
 oa (ldN 5 u a) fun v=>
 some (.tup [v,(.int .i64 0),(.int .i64 0)],u)
 ):=blockEq (by kernel_rfl)
theorem a8D (T:Tab) (k:Nat) (a:AV) (h:Heap):runF T k z2_ [a] h =
 ob (newVar h [.int .i64 0,.int .i64 0,.int .i64 0,.int .i64 0,.nils]) fun b c=>
 oa (lenB a) fun d=>
 oa (binV .gtr .scalar d (.int .i64 200)) fun e=>
 cond2 e
 (
 oa (buildV [.int .i64 0,.int .i64 0,.int .i64 0,.int .i64 0,.nils] []) fun f=>
 oh (stN 5 c b f) fun g=>
 oa (ldN 5 g b) fun i=>
 some (.tup [i,(.int .i64 0),(.int .i64 4)],g)
 )
 (
 oa (buildV [.str ⟨#[]⟩,.int .i64 0,.int .i64 0,.int .i64 0] [(0,1,a)]) fun l=>
 ob (newVar c (AV.cells l)) fun m n=>
 ob (evalFn T k b4_ [m] n) fun o p=>
 ob (newVar p [.int .i64 0,.int .i64 0,.int .i64 0,.int .i64 0,.nils]) fun q r=>
 oh (stN 5 r q o) fun s=>
 oa (nilCk m) fun t=>
 oa (fldA 3 t) fun u=>
 oa (ld1 s u) fun v=>
 oa (binV .eql .scalar v (.int .i64 0)) fun w=>
 ob (gd w true (some (m,s)) s) fun x y=>
 ob (gd w true (pure1 y (nilCk x)) y) fun z aa=>
 ob (gd w true (pure1 aa (fldA 1 z)) aa) fun ab ac=>
 ob (gd w true (pure1 ac (ld1 ac ab)) ac) fun ad ae=>
 ob (gd w true (some (a,ae)) ae) fun af ag=>
 ob (gd w true (pure1 ag (lenB af)) ag) fun ai al=>
 ob (gd w true (pure1 al (binV .lss .scalar ad ai)) al) fun am an=>
 oa (pickV w am (.bool false)) fun ao=>
 cond2 ao
 (
 ob (evalFn T k a5_ [m,(.int .i64 3)] an) fun ap aq=>
 z3_ T k b m q aq
 )
 (
 z3_ T k b m q an
 )
 ):=runEq (by kernel_rfl)
def a8E:Res:=[(2,some (some 5)),(3,none)]
noncomputable def z4_:MFn:=⟨34,a8E,.seq [0,3] (.region [tS 1 (.box (tT 0)),tS 2 (.alloc [.int .i64 0,.int .i64 0,.int .i64 0,.nils,.nils]),tS 3 (.mv (tK 0))]) (.seq [7,8] (.region [tS 7 (.build [.int .i64 0,.int .i64 0,.int .i64 0,.nils,.nils,.bool false] []),tS 8 (.box (tT 7)),tM 4 8]) (.seq [1,9,10,11,12,13,14] (.region [tM 10 4,tA 11 5 1,⟨some 12,.call a9_ [(tT 10),(tT 11)],none⟩,tM 9 12,tS 13 (.extract 0 (tT 9)),tS 14 (.extract 1 (tT 9)),tM 5 13,tM 6 14]) (.seq [18] (.seq [15,16,17] (.region [tM 15 4,tN 16 15,tF 17 5 16,tL 18 17]) (.cond (tT 18) (.seq [4,5,6,18,19] (.region [tS 19 (.build [.int .i64 0,.int .i64 0,.int .i64 0,.nils,.nils] []),tW 5 2 19,tS 3 (.mv (tK 4))]) .ret) .skip)) (.seq [5,6,20,21,22,23,24,25,26,27,28,29] (.region [tM 20 4,tM 21 4,tM 22 5,tM 23 6,tN 24 20,tF 25 0 24,tF 26 1 25,tW 1 26 22,tN 27 21,tF 28 0 27,tF 29 2 28,tW 1 29 23]) (.seq [4,30,31,32,33] (.region [tM 30 4,tN 31 30,tF 32 0 31,tA 33 5 32,tW 5 2 33,tS 3 (.mv (tK 0))]) .ret)))))⟩
theorem a8F (T:Tab) (k:Nat) (a:AV) (h:Heap):runF T k z4_ [a] h =
 ob (newVar h (AV.cells a)) fun b c=>
 ob (newVar c [.int .i64 0,.int .i64 0,.int .i64 0,.nils,.nils]) fun d e=>
 oa (buildV [.int .i64 0,.int .i64 0,.int .i64 0,.nils,.nils,.bool false] []) fun f=>
 ob (newVar e (AV.cells f)) fun g i=>
 oa (ldN 5 i b) fun l=>
 ob (evalFn T k a9_ [g,l] i) fun m n=>
 oa (extr 0 m) fun o=>
 oa (extr 1 m) fun p=>
 oa (nilCk g) fun q=>
 oa (fldA 5 q) fun r=>
 oa (ld1 n r) fun s=>
 cond2 s
 (
 oa (buildV [.int .i64 0,.int .i64 0,.int .i64 0,.nils,.nils] []) fun t=>
 oh (stN 5 n d t) fun u=>
 oa (ldN 5 u d) fun v=>
 some (.tup [v,(.int .i64 4)],u)
 )
 (
 oa (nilCk g) fun w=>
 oa (fldA 0 w) fun x=>
 oa (fldA 1 x) fun y=>
 oh (stN 1 n y o) fun z=>
 oa (nilCk g) fun aa=>
 oa (fldA 0 aa) fun ab=>
 oa (fldA 2 ab) fun ac=>
 oh (stN 1 z ac p) fun ad=>
 oa (nilCk g) fun ae=>
 oa (fldA 0 ae) fun af=>
 oa (ldN 5 ad af) fun ag=>
 oh (stN 5 ad d ag) fun ai=>
 oa (ldN 5 ai d) fun al=>
 some (.tup [al,(.int .i64 0)],ai)
 ):=runEq (by kernel_rfl)
noncomputable def a1W:MCode:=.region [tM 48 10,tM 49 12,tS 50 (.idxArr 5 1 (tT 9) (tT 48)),tW 1 50 49]
noncomputable def u4_:MCode:=.seq [23] (.seq [22] (.region [tM 22 10,tS 23 (.bin .lss .scalar (tT 22) (tK 5))]) (.cond (tT 23) .skip (.exit 2))) (.seq [12,48,49,50] (.block 3 (.seq [26,27,28,29,30,31,32] (.regionD 71 [tD 0 71 (.load (some 5) (tT 2)),dM 1 72 6,dM 2 73 8,tD 3 74 (.idxSl 1 (tT 72) (tT 73)),dL 4 75 74,dM 5 76 10,⟨6,⟨some 77,.call l9_ [(tT 71),(tT 75),(tT 76)],none⟩,[]⟩,dM 7 78 77] [(26,71),(27,72),(28,73),(29,74),(30,75),(31,76),(32,77),(11,78)]) (.seq [33,34,35] (.region [tM 33 6,tM 34 11,⟨some 35,.call m0_ [(tT 33),(tT 34)],none⟩,tM 12 35]) (.seq [11,37,44,45,46,47] (.seq [36] (.region [tM 36 12,tS 37 (.bin .lss .scalar (tT 36) (tK 0))]) (.cond (tT 37) (.seq [37,38,39] (.region [tM 38 6,tS 39 (.lenSl (tT 38)),tM 12 39]) (.seq [42] (.seq [40,41] (.region [tM 40 12,tM 41 1,tS 42 (.bin .geq .scalar (tT 40) (tT 41))]) (.cond (tT 42) (.seq [1,2,6,7,8,9,10,11,12,42,43] (.region [tS 43 (.build [.nils,.nils] []),tW 2 4 43,tS 5 (.mv (tK 5))]) .ret) .skip)) (.region [tM 44 6,tM 45 11,tS 46 (.buildSlice 1 1 [.nils] [(0,1,(tT 45))]),tS 47 (.append 1 24 (tT 44) (tT 46)),tM 6 47]))) .skip)) (.lab a1W))))) (.region [tM 24 10,tS 25 (.bin .add .scalar (tT 24) (tK 1)),tM 10 25]))
noncomputable def m4_:MCode:=.seq [9,51,52,53,54,55,56] (.region [tF 51 0 7,tL 52 51,tA 53 5 9,tS 54 (.buildSlice 5 1 [.int .i64 0,.int .i64 0,.int .i64 0,.int .i64 0,.int .i64 0] [(0,5,(tT 53))]),tS 55 (.append 5 40 (tT 52) (tT 54)),tF 56 0 7,tW 1 56 55]) (.regionD 71 [dF 0 71 1 7,dL 1 72 71,dM 2 73 6,dM 3 74 8,tD 4 75 (.idxSl 1 (tT 73) (tT 74)),dL 5 76 75,dF 6 77 2 2,dL 7 78 77,tD 8 79 (.idxSl 1 (tT 76) (tT 78)),dL 9 80 79,tD 10 81 (.buildSlice 1 1 [.bool false] [(0,1,(tT 80))]),tD 11 82 (.append 1 1 (tT 72) (tT 81)),dF 12 83 1 7,tD 13 84 (.store 1 (tT 83) (tT 82))] [(57,71),(58,72),(59,73),(60,74),(61,75),(62,76),(63,77),(64,78),(65,79),(66,80),(67,81),(68,82),(69,83)])
noncomputable def h4_:MCode:=.region [tM 20 8,tS 21 (.bin .add .scalar (tT 20) (tK 1)),tM 8 21]
noncomputable def e8_:MCode:=.seq [19] (.seq [16,17,18] (.region [tM 16 8,tM 17 6,tS 18 (.lenSl (tT 17)),tS 19 (.bin .lss .scalar (tT 16) (tT 18))]) (.cond (tT 19) .skip (.exit 0))) (.seq [57,58,59,60,61,62,63,64,65,66,67,68,69] (.block 1 (.seq [] (.region [tS 9 (.alloc [.int .i64 0,.int .i64 0,.int .i64 0,.int .i64 0,.int .i64 0])]) (.seq [10,23] (.seq [] (.region [tS 10 (.mv (tK 0))]) (.block 2 (.loop [24,25] u4_))) (.lab m4_)))) (.lab h4_))
noncomputable def c2_:MCode:=.seq [7,70] (.region [tA 70 2 7,tW 2 4 70,tS 5 (.mv (tK 0))]) .ret
def c3_:Res:=[(4,some (some 2)),(5,none)]
noncomputable def u5_:MFn:=⟨71,c3_,.seq [0,5] (.region [tS 2 (.box (tT 0)),tS 4 (.alloc [.nils,.nils]),tS 5 (.mv (tK 0))]) (.seq [13,14,15] (.region [tA 13 5 2,⟨some 14,.call k1_ [(tT 13)],none⟩,tS 15 (.buildSlice 1 1 [.nils] [(0,1,(tT 14))]),tM 6 15]) (.seq [] (.region [tS 7 (.alloc [.nils,.nils])]) (.seq [1,2,6,8,19] (.seq [] (.region [tS 8 (.mv (tK 0))]) (.block 0 (.loop [20,21] e8_))) (.lab c2_))))⟩
noncomputable def m5_ (T:Tab) (k j0:Nat) (a b c d e f:AV) (h:Heap):Option (AV × Heap):=
 loopB T k c3_ j0 [20,21] e8_ [.blk 0,.seq [1,2,6,8,19] (.lab c2_)] [.u,a,b,.u,c,.u,d,e,f,.u,.u,.u,.u,.u,.u,.u,.u,.u,.u,.u,.u,.u,.u,.u,.u,.u,.u,.u,.u,.u,.u,.u,.u,.u,.u,.u,.u,.u,.u,.u,.u,.u,.u,.u,.u,.u,.u,.u,.u,.u,.u,.u,.u,.u,.u,.u,.u,.u,.u,.u,.u,.u,.u,.u,.u,.u,.u,.u,.u,.u,.u] h
noncomputable def m6_ (T:Tab) (k j0 j1:Nat) (a b c d e f g i:AV) (h:Heap):Option (AV × Heap):=
 loopB T k c3_ j1 [24,25] u4_ [.blk 2,.seq [10,23] (.lab m4_),.blk 1,.seq [57,58,59,60,61,62,63,64,65,66,67,68,69] (.lab h4_),.lp j0 [20,21] e8_,.blk 0,.seq [1,2,6,8,19] (.lab c2_)] [.u,a,b,.u,c,.u,d,e,f,g,i,.u,.u,.u,.u,.u,.u,.u,.u,.u,.u,.u,.u,.u,.u,.u,.u,.u,.u,.u,.u,.u,.u,.u,.u,.u,.u,.u,.u,.u,.u,.u,.u,.u,.u,.u,.u,.u,.u,.u,.u,.u,.u,.u,.u,.u,.u,.u,.u,.u,.u,.u,.u,.u,.u,.u,.u,.u,.u,.u,.u] h
noncomputable def m7_ (T:Tab) (k j0 j1:Nat) (a b c d e f g i l:AV) (h:Heap):Option (AV × Heap):=
 evB T k c3_ a1W [.blk 3,.seq [12,48,49,50] (.region [⟨some 24,.op (.mv (.tmp 10)),none⟩,
 ⟨some 25,.op (.bin .add .scalar (.tmp 24) (.const (.int .i64 1))),none⟩,
 ⟨some 10,.op (.mv (.tmp 25)),none⟩]),.lp j1 [24,25] u4_,.blk 2,.seq [10,23] (.lab m4_),.blk 1,.seq [57,58,59,60,61,62,63,64,65,66,67,68,69] (.lab h4_),.lp j0 [20,21] e8_,.blk 0,.seq [1,2,6,8,19] (.lab c2_)] [.undef,a,b,.undef,c,.undef,d,e,f,g,i,.undef,l,.undef,.undef,.undef,.undef,.undef,.undef,.undef,.undef,.undef,.undef,.undef,.undef,.undef,.undef,.undef,.undef,.undef,.undef,.undef,.undef,.undef,.undef,.undef,.undef,.undef,.undef,.undef,.undef,.undef,.undef,.undef,.undef,.undef,.undef,.undef,.undef,.undef,.undef,.undef,.undef,.undef,.undef,.undef,.undef,.undef,.undef,.undef,.undef,.undef,.undef,.undef,.undef,.undef,.undef,.undef,.undef,.undef,.undef] h
noncomputable def u6_ (T:Tab) (k j0:Nat) (a b c d e f g:AV) (h:Heap):Option (AV × Heap):=
 evB T k c3_ m4_ [.blk 1,.seq [57,58,59,60,61,62,63,64,65,66,67,68,69] (.lab h4_),.lp j0 [20,21] e8_,.blk 0,.seq [1,2,6,8,19] (.lab c2_)] [.u,a,b,.u,c,.u,d,e,f,g,.u,.u,.u,.u,.u,.u,.u,.u,.u,.u,.u,.u,.u,.u,.u,.u,.u,.u,.u,.u,.u,.u,.u,.u,.u,.u,.u,.u,.u,.u,.u,.u,.u,.u,.u,.u,.u,.u,.u,.u,.u,.u,.u,.u,.u,.u,.u,.u,.u,.u,.u,.u,.u,.u,.u,.u,.u,.u,.u,.u,.u] h
noncomputable def a1X (T:Tab) (k j0:Nat) (a b c d e f:AV) (h:Heap):Option (AV × Heap):=
 evB T k c3_ h4_ [.lp j0 [20,21] e8_,.blk 0,.seq [1,2,6,8,19] (.lab c2_)] [.u,a,b,.u,c,.u,d,e,f,.u,.u,.u,.u,.u,.u,.u,.u,.u,.u,.u,.u,.u,.u,.u,.u,.u,.u,.u,.u,.u,.u,.u,.u,.u,.u,.u,.u,.u,.u,.u,.u,.u,.u,.u,.u,.u,.u,.u,.u,.u,.u,.u,.u,.u,.u,.u,.u,.u,.u,.u,.u,.u,.u,.u,.u,.u,.u,.u,.u,.u,.u] h
noncomputable def u7_ (T:Tab) (k:Nat) (a b:AV) (h:Heap):Option (AV × Heap):=
 evB T k c3_ c2_ [] [.u,.u,.u,.u,a,.u,.u,b,.u,.u,.u,.u,.u,.u,.u,.u,.u,.u,.u,.u,.u,.u,.u,.u,.u,.u,.u,.u,.u,.u,.u,.u,.u,.u,.u,.u,.u,.u,.u,.u,.u,.u,.u,.u,.u,.u,.u,.u,.u,.u,.u,.u,.u,.u,.u,.u,.u,.u,.u,.u,.u,.u,.u,.u,.u,.u,.u,.u,.u,.u,.u] h
theorem a5Q (T:Tab) (k j0 j1:Nat) (a b c d e f g i l:AV) (h:Heap):m7_ T k j0 j1 a b c d e f g i l h =
 oa (idxA 5 1 g i) fun m=>
 oh (stN 1 h m l) fun n=>
 oa (binV .add .scalar i (.int .i64 1)) fun o=>
 m6_ T k j0 j1 a b c d e f g o n:=blockEq (by kernel_rfl)
theorem a5R (T:Tab) (k j0:Nat) (a b c d e f:AV) (h:Heap):a1X T k j0 a b c d e f h =
 oa (binV .add .scalar f (.int .i64 1)) fun g=>
 m5_ T k j0 a b c d e g h:=blockEq (by kernel_rfl)
theorem a5S (T:Tab) (k j0:Nat) (a b c d e f g:AV) (h:Heap):u6_ T k j0 a b c d e f g h =
 oa (fldA 0 e) fun i=>
 oa (ld1 h i) fun l=>
 oa (ldN 5 h g) fun m=>
 ob (buildSl 5 1 [.int .i64 0,.int .i64 0,.int .i64 0,.int .i64 0,.int .i64 0] [(0,5,m)] h) fun n o=>
 ob (apnd 5 40 l n o) fun p q=>
 oa (fldA 0 e) fun r=>
 oh (stN 1 q r p) fun s=>
 oa (fldA 1 e) fun t=>
 oa (ld1 s t) fun u=>
 oa (idxS 1 d f) fun v=>
 oa (ld1 s v) fun w=>
 oa (fldA 2 b) fun x=>
 oa (ld1 s x) fun y=>
 oa (idxS 1 w y) fun z=>
 oa (ld1 s z) fun aa=>
 ob (buildSl 1 1 [.bool false] [(0,1,aa)] s) fun ab ac=>
 ob (apnd 1 1 u ab ac) fun ad ae=>
 oa (fldA 1 e) fun af=>
 oh (stN 1 ae af ad) fun ag=>
 a1X T k j0 a b c d e f ag:=blockEq (by kernel_rfl)
theorem a1a (T:Tab) (k j0 j1:Nat) (a b c d e f g i:AV) (h:Heap):m6_ T k j0 (j1+1) a b c d e f g i h =
 oa (binV .lss .scalar i (.int .i64 5)) fun l=>
 cond2 l
 (
 oa (ldN 5 h b) fun m=>
 oa (idxS 1 d f) fun n=>
 oa (ld1 h n) fun o=>
 ob (evalFn T k l9_ [m,o,i] h) fun p q=>
 ob (evalFn T k m0_ [d,p] q) fun r s=>
 oa (binV .lss .scalar r (.int .i64 0)) fun t=>
 cond2 t
 (
 oa (lenS d) fun u=>
 oa (binV .geq .scalar u a) fun v=>
 cond2 v
 (
 oa (buildV [.nils,.nils] []) fun w=>
 oh (stN 2 s c w) fun x=>
 oa (ldN 2 x c) fun y=>
 some (.tup [y,(.int .i64 5)],x)
 )
 (
 ob (buildSl 1 1 [.nils] [(0,1,p)] s) fun z aa=>
 ob (apnd 1 24 d z aa) fun ab ac=>
 m7_ T k j0 j1 a b c ab e f g i u ac
 )
 )
 (
 m7_ T k j0 j1 a b c d e f g i r s
 )
 )
 (
 u6_ T k j0 a b c d e f g h
 ):=loopEq (by kernel_rfl)
theorem a5T (T:Tab) (k:Nat) (a b:AV) (h:Heap):u7_ T k a b h =
 oa (ldN 2 h b) fun c=>
 oh (stN 2 h a c) fun d=>
 oa (ldN 2 d a) fun e=>
 some (.tup [e,(.int .i64 0)],d):=blockEq (by kernel_rfl)
theorem a5U (T:Tab) (k j0:Nat) (a b c d e f:AV) (h:Heap):m5_ T k (j0+1) a b c d e f h =
 oa (lenS d) fun g=>
 oa (binV .lss .scalar f g) fun i=>
 cond2 i
 (
 ob (newVar h [.int .i64 0,.int .i64 0,.int .i64 0,.int .i64 0,.int .i64 0]) fun l m=>
 m6_ T k j0 k a b c d e f l (.int .i64 0) m
 )
 (
 u7_ T k c e h
 ):=loopEq (by kernel_rfl)
theorem a7f (T:Tab) (k:Nat) (a b:AV) (h:Heap):runF T k u5_ [a,b] h =
 ob (newVar h (AV.cells a)) fun c d=>
 ob (newVar d [.nils,.nils]) fun e f=>
 oa (ldN 5 f c) fun g=>
 ob (evalFn T k k1_ [g] f) fun i l=>
 ob (buildSl 1 1 [.nils] [(0,1,i)] l) fun m n=>
 ob (newVar n [.nils,.nils]) fun o p=>
 m5_ T k k b c e m o (.int .i64 0) p:=runEq (by kernel_rfl)
noncomputable def a1G:MCode:=.region [tM 63 9,tM 64 5,tM 65 3,tM 66 10,tX 67 1 65 66,tL 68 67,tX 69 1 64 68,tL 70 69,tS 71 (.bin .sub .scalar (tT 70) (tK 1)),tS 72 (.idxArr 5 1 (tT 8) (tT 63)),tW 1 72 71]
noncomputable def t3_:MCode:=.seq [30] (.seq [29] (.region [tM 29 9,tS 30 (.bin .lss .scalar (tT 29) (tK 5))]) (.cond (tT 30) .skip (.exit 2))) (.seq [10,63,64,65,66,67,68,69,70,71,72] (.block 3 (.seq [33,34,35,36,37,38,39,40,41,42] (.regionD 93 [dF 0 93 0 1,dL 1 94 93,dM 2 95 6,dM 3 96 7,tD 4 97 (.idxSl 1 (tT 95) (tT 96)),dL 5 98 97,dM 6 99 9,tD 7 100 (.idxSl 5 (tT 94) (tT 98)),tD 8 101 (.idxArr 5 1 (tT 100) (tT 99)),dL 9 102 101,dM 10 103 102] [(33,93),(34,94),(35,95),(36,96),(37,97),(38,98),(39,99),(40,100),(41,101),(42,102),(10,103)]) (.seq [50,55,56,57,58,59,60,61,62] (.seq [43,44,45,46,47,48,49] (.region [tM 43 5,tM 44 3,tM 45 10,tX 46 1 44 45,tL 47 46,tX 48 1 43 47,tL 49 48,tS 50 (.bin .eql .scalar (tT 49) (tK 0))]) (.cond (tT 50) (.seq [50,51,52,53,54] (.region [tM 51 6,tM 52 10,tS 53 (.buildSlice 1 1 [.int .i64 0] [(0,1,(tT 52))]),tS 54 (.append 1 8 (tT 51) (tT 53)),tM 6 54]) (.region [tM 55 5,tM 56 3,tM 57 10,tX 58 1 56 57,tL 59 58,tM 60 6,tS 61 (.lenSl (tT 60)),tX 62 1 55 59,tW 1 62 61])) .skip)) (.lab a1G)))) (.region [tM 31 9,tS 32 (.bin .add .scalar (tT 31) (tK 1)),tM 9 32]))
noncomputable def k6_:MCode:=.seq [8,73,74,75,76,77,78] (.region [tF 73 0 4,tL 74 73,tA 75 5 8,tS 76 (.buildSlice 5 1 [.int .i64 0,.int .i64 0,.int .i64 0,.int .i64 0,.int .i64 0] [(0,5,(tT 75))]),tS 77 (.append 5 40 (tT 74) (tT 76)),tF 78 0 4,tW 1 78 77]) (.regionD 93 [dF 0 93 1 4,dL 1 94 93,dF 2 95 1 1,dL 3 96 95,dM 4 97 6,dM 5 98 7,tD 6 99 (.idxSl 1 (tT 97) (tT 98)),dL 7 100 99,tD 8 101 (.idxSl 1 (tT 96) (tT 100)),dL 9 102 101,tD 10 103 (.buildSlice 1 1 [.bool false] [(0,1,(tT 102))]),tD 11 104 (.append 1 1 (tT 94) (tT 103)),dF 12 105 1 4,tD 13 106 (.store 1 (tT 105) (tT 104))] [(79,93),(80,94),(81,95),(82,96),(83,97),(84,98),(85,99),(86,100),(87,101),(88,102),(89,103),(90,104),(91,105)])
noncomputable def f8_:MCode:=.region [tM 27 7,tS 28 (.bin .add .scalar (tT 27) (tK 1)),tM 7 28]
noncomputable def d6_:MCode:=.seq [26] (.seq [23,24,25] (.region [tM 23 7,tM 24 6,tS 25 (.lenSl (tT 24)),tS 26 (.bin .lss .scalar (tT 23) (tT 25))]) (.cond (tT 26) .skip (.exit 0))) (.seq [79,80,81,82,83,84,85,86,87,88,89,90,91] (.block 1 (.seq [] (.region [tS 8 (.alloc [.int .i64 0,.int .i64 0,.int .i64 0,.int .i64 0,.int .i64 0])]) (.seq [9,30] (.seq [] (.region [tS 9 (.mv (tK 0))]) (.block 2 (.loop [31,32] t3_))) (.lab k6_)))) (.lab f8_))
def d7_:Res:=[(2,some (some 2))]
noncomputable def t4_:MFn:=⟨93,d7_,.seq [0] (.region [tS 1 (.box (tT 0)),tS 2 (.alloc [.nils,.nils])]) (.seq [11,12] (.region [tA 11 2 1,⟨some 12,.call i6_ [(tT 11)],none⟩,tM 3 12]) (.seq [] (.region [tS 4 (.alloc [.nils,.nils])]) (.seq [13,14,15,16] (.region [tF 13 0 1,tL 14 13,tS 15 (.lenSl (tT 14)),tS 16 (.mkSlice [.int .i64 0] 1 8 (tT 15) (tT 15)),tM 5 16]) (.seq [17] (.region [tS 17 (.buildSlice 1 1 [.int .i64 0] [(0,1,(tK 0))]),tM 6 17]) (.seq [18,19,20,21,22] (.region [tM 18 5,tM 19 3,tS 20 (.idxSl 1 (tT 19) (tK 0)),tL 21 20,tX 22 1 18 21,⟨none,.op (.store 1 (tT 22) (tK 1)),none⟩]) (.seq [1,3,5,6,7,26] (.seq [] (.region [tS 7 (.mv (tK 0))]) (.block 0 (.loop [27,28] d6_))) (.seq [4,92] (.region [tA 92 2 4,tW 2 2 92]) .ret)))))))⟩
noncomputable def k7_ (T:Tab) (k j0:Nat) (a b c d e f g:AV) (h:Heap):Option (AV × Heap):=
 loopB T k d7_ j0 [27,28] d6_ [.blk 0,.seq [1,3,5,6,7,26] (.seq [4,92] (.region [⟨some 92,.op (.load (some 2) (.tmp 4)),none⟩,
 ⟨none,.op (.store 2 (.tmp 2) (.tmp 92)),none⟩]) .ret)] [.undef,a,b,c,d,e,f,g,.undef,.undef,.undef,.undef,.undef,.undef,.undef,.undef,.undef,.undef,.undef,.undef,.undef,.undef,.undef,.undef,.undef,.undef,.undef,.undef,.undef,.undef,.undef,.undef,.undef,.undef,.undef,.undef,.undef,.undef,.undef,.undef,.undef,.undef,.undef,.undef,.undef,.undef,.undef,.undef,.undef,.undef,.undef,.undef,.undef,.undef,.undef,.undef,.undef,.undef,.undef,.undef,.undef,.undef,.undef,.undef,.undef,.undef,.undef,.undef,.undef,.undef,.undef,.undef,.undef,.undef,.undef,.undef,.undef,.undef,.undef,.undef,.undef,.undef,.undef,.undef,.undef,.undef,.undef,.undef,.undef,.undef,.undef,.undef,.undef] h
noncomputable def k8_ (T:Tab) (k j0 j1:Nat) (a b c d e f g i l:AV) (h:Heap):Option (AV × Heap):=
 loopB T k d7_ j1 [31,32] t3_ [.blk 2,.seq [9,30] (.lab k6_),.blk 1,.seq [79,80,81,82,83,84,85,86,87,88,89,90,91] (.lab f8_),.lp j0 [27,28] d6_,.blk 0,.seq [1,3,5,6,7,26] (.seq [4,92] (.region [⟨some 92,.op (.load (some 2) (.tmp 4)),none⟩,
 ⟨none,.op (.store 2 (.tmp 2) (.tmp 92)),none⟩]) .ret)] [.undef,a,b,c,d,e,f,g,i,l,.undef,.undef,.undef,.undef,.undef,.undef,.undef,.undef,.undef,.undef,.undef,.undef,.undef,.undef,.undef,.undef,.undef,.undef,.undef,.undef,.undef,.undef,.undef,.undef,.undef,.undef,.undef,.undef,.undef,.undef,.undef,.undef,.undef,.undef,.undef,.undef,.undef,.undef,.undef,.undef,.undef,.undef,.undef,.undef,.undef,.undef,.undef,.undef,.undef,.undef,.undef,.undef,.undef,.undef,.undef,.undef,.undef,.undef,.undef,.undef,.undef,.undef,.undef,.undef,.undef,.undef,.undef,.undef,.undef,.undef,.undef,.undef,.undef,.undef,.undef,.undef,.undef,.undef,.undef,.undef,.undef,.undef,.undef] h
noncomputable def k9_ (T:Tab) (k j0 j1:Nat) (a b c d e f g i l m:AV) (h:Heap):Option (AV × Heap):=
 evB T k d7_ a1G [.blk 3,.seq [10,63,64,65,66,67,68,69,70,71,72] (.region [⟨some 31,.op (.mv (.tmp 9)),none⟩,
 ⟨some 32,.op (.bin .add .scalar (.tmp 31) (.const (.int .i64 1))),none⟩,
 ⟨some 9,.op (.mv (.tmp 32)),none⟩]),.lp j1 [31,32] t3_,.blk 2,.seq [9,30] (.lab k6_),.blk 1,.seq [79,80,81,82,83,84,85,86,87,88,89,90,91] (.lab f8_),.lp j0 [27,28] d6_,.blk 0,.seq [1,3,5,6,7,26] (.seq [4,92] (.region [⟨some 92,.op (.load (some 2) (.tmp 4)),none⟩,
 ⟨none,.op (.store 2 (.tmp 2) (.tmp 92)),none⟩]) .ret)] [.undef,a,b,c,d,e,f,g,i,l,m,.undef,.undef,.undef,.undef,.undef,.undef,.undef,.undef,.undef,.undef,.undef,.undef,.undef,.undef,.undef,.undef,.undef,.undef,.undef,.undef,.undef,.undef,.undef,.undef,.undef,.undef,.undef,.undef,.undef,.undef,.undef,.undef,.undef,.undef,.undef,.undef,.undef,.undef,.undef,.undef,.undef,.undef,.undef,.undef,.undef,.undef,.undef,.undef,.undef,.undef,.undef,.undef,.undef,.undef,.undef,.undef,.undef,.undef,.undef,.undef,.undef,.undef,.undef,.undef,.undef,.undef,.undef,.undef,.undef,.undef,.undef,.undef,.undef,.undef,.undef,.undef,.undef,.undef,.undef,.undef,.undef,.undef] h
noncomputable def t5_ (T:Tab) (k j0:Nat) (a b c d e f g i:AV) (h:Heap):Option (AV × Heap):=
 evB T k d7_ k6_ [.blk 1,.seq [79,80,81,82,83,84,85,86,87,88,89,90,91] (.lab f8_),.lp j0 [27,28] d6_,.blk 0,.seq [1,3,5,6,7,26] (.seq [4,92] (.region [⟨some 92,.op (.load (some 2) (.tmp 4)),none⟩,
 ⟨none,.op (.store 2 (.tmp 2) (.tmp 92)),none⟩]) .ret)] [.undef,a,b,c,d,e,f,g,i,.undef,.undef,.undef,.undef,.undef,.undef,.undef,.undef,.undef,.undef,.undef,.undef,.undef,.undef,.undef,.undef,.undef,.undef,.undef,.undef,.undef,.undef,.undef,.undef,.undef,.undef,.undef,.undef,.undef,.undef,.undef,.undef,.undef,.undef,.undef,.undef,.undef,.undef,.undef,.undef,.undef,.undef,.undef,.undef,.undef,.undef,.undef,.undef,.undef,.undef,.undef,.undef,.undef,.undef,.undef,.undef,.undef,.undef,.undef,.undef,.undef,.undef,.undef,.undef,.undef,.undef,.undef,.undef,.undef,.undef,.undef,.undef,.undef,.undef,.undef,.undef,.undef,.undef,.undef,.undef,.undef,.undef,.undef,.undef] h
noncomputable def a1H (T:Tab) (k j0:Nat) (a b c d e f g:AV) (h:Heap):Option (AV × Heap):=
 evB T k d7_ f8_ [.lp j0 [27,28] d6_,.blk 0,.seq [1,3,5,6,7,26] (.seq [4,92] (.region [⟨some 92,.op (.load (some 2) (.tmp 4)),none⟩,
 ⟨none,.op (.store 2 (.tmp 2) (.tmp 92)),none⟩]) .ret)] [.undef,a,b,c,d,e,f,g,.undef,.undef,.undef,.undef,.undef,.undef,.undef,.undef,.undef,.undef,.undef,.undef,.undef,.undef,.undef,.undef,.undef,.undef,.undef,.undef,.undef,.undef,.undef,.undef,.undef,.undef,.undef,.undef,.undef,.undef,.undef,.undef,.undef,.undef,.undef,.undef,.undef,.undef,.undef,.undef,.undef,.undef,.undef,.undef,.undef,.undef,.undef,.undef,.undef,.undef,.undef,.undef,.undef,.undef,.undef,.undef,.undef,.undef,.undef,.undef,.undef,.undef,.undef,.undef,.undef,.undef,.undef,.undef,.undef,.undef,.undef,.undef,.undef,.undef,.undef,.undef,.undef,.undef,.undef,.undef,.undef,.undef,.undef,.undef,.undef] h
theorem a5y (T:Tab) (k j0 j1:Nat) (a b c d e f g i l m:AV) (h:Heap):k9_ T k j0 j1 a b c d e f g i l m h =
 oa (idxS 1 c m) fun n=>
 oa (ld1 h n) fun o=>
 oa (idxS 1 e o) fun p=>
 oa (ld1 h p) fun q=>
 oa (binV .sub .scalar q (.int .i64 1)) fun r=>
 oa (idxA 5 1 i l) fun s=>
 oh (stN 1 h s r) fun t=>
 oa (binV .add .scalar l (.int .i64 1)) fun u=>
 k8_ T k j0 j1 a b c d e f g i u t:=blockEq (by kernel_rfl)
theorem a5z (T:Tab) (k j0:Nat) (a b c d e f g:AV) (h:Heap):a1H T k j0 a b c d e f g h =
 oa (binV .add .scalar g (.int .i64 1)) fun i=>
 k7_ T k j0 a b c d e f i h:=blockEq (by kernel_rfl)
theorem a5A (T:Tab) (k j0:Nat) (a b c d e f g i:AV) (h:Heap):t5_ T k j0 a b c d e f g i h =
 oa (fldA 0 d) fun l=>
 oa (ld1 h l) fun m=>
 oa (ldN 5 h i) fun n=>
 ob (buildSl 5 1 [.int .i64 0,.int .i64 0,.int .i64 0,.int .i64 0,.int .i64 0] [(0,5,n)] h) fun o p=>
 ob (apnd 5 40 m o p) fun q r=>
 oa (fldA 0 d) fun s=>
 oh (stN 1 r s q) fun t=>
 oa (fldA 1 d) fun u=>
 oa (ld1 t u) fun v=>
 oa (fldA 1 a) fun w=>
 oa (ld1 t w) fun x=>
 oa (idxS 1 f g) fun y=>
 oa (ld1 t y) fun z=>
 oa (idxS 1 x z) fun aa=>
 oa (ld1 t aa) fun ab=>
 ob (buildSl 1 1 [.bool false] [(0,1,ab)] t) fun ac ad=>
 ob (apnd 1 1 v ac ad) fun ae af=>
 oa (fldA 1 d) fun ag=>
 oh (stN 1 af ag ae) fun ai=>
 a1H T k j0 a b c d e f g ai:=blockEq (by kernel_rfl)
theorem a0B (T:Tab) (k j0 j1:Nat) (a b c d e f g i l:AV) (h:Heap):k8_ T k j0 (j1+1) a b c d e f g i l h =
 oa (binV .lss .scalar l (.int .i64 5)) fun m=>
 cond2 m
 (
 oa (fldA 0 a) fun n=>
 oa (ld1 h n) fun o=>
 oa (idxS 1 f g) fun p=>
 oa (ld1 h p) fun q=>
 oa (idxS 5 o q) fun r=>
 oa (idxA 5 1 r l) fun s=>
 oa (ld1 h s) fun t=>
 oa (idxS 1 c t) fun u=>
 oa (ld1 h u) fun v=>
 oa (idxS 1 e v) fun w=>
 oa (ld1 h w) fun x=>
 oa (binV .eql .scalar x (.int .i64 0)) fun y=>
 cond2 y
 (
 ob (buildSl 1 1 [.int .i64 0] [(0,1,t)] h) fun z aa=>
 ob (apnd 1 8 f z aa) fun ab ac=>
 oa (idxS 1 c t) fun ad=>
 oa (ld1 ac ad) fun ae=>
 oa (lenS ab) fun af=>
 oa (idxS 1 e ae) fun ag=>
 oh (stN 1 ac ag af) fun ai=>
 k9_ T k j0 j1 a b c d e ab g i l t ai
 )
 (
 k9_ T k j0 j1 a b c d e f g i l t h
 )
 )
 (
 t5_ T k j0 a b c d e f g i h
 ):=loopEq (by kernel_rfl)
theorem a0C (T:Tab) (k j0:Nat) (a b c d e f g:AV) (h:Heap):k7_ T k (j0+1) a b c d e f g h =
 oa (lenS f) fun i=>
 oa (binV .lss .scalar g i) fun l=>
 cond2 l
 (
 ob (newVar h [.int .i64 0,.int .i64 0,.int .i64 0,.int .i64 0,.int .i64 0]) fun m n=>
 k8_ T k j0 k a b c d e f g m (.int .i64 0) n
 )
 (
 oa (ldN 2 h d) fun o=>
 oh (stN 2 h b o) fun p=>
 oa (ldN 2 p b) fun q=>
 some (q,p)
 ):=loopEq (by kernel_rfl)
theorem a6E (T:Tab) (k:Nat) (a:AV) (h:Heap):runF T k t4_ [a] h =
 ob (newVar h (AV.cells a)) fun b c=>
 ob (newVar c [.nils,.nils]) fun d e=>
 oa (ldN 2 e b) fun f=>
 ob (evalFn T k i6_ [f] e) fun g i=>
 ob (newVar i [.nils,.nils]) fun l m=>
 oa (fldA 0 b) fun n=>
 oa (ld1 m n) fun o=>
 oa (lenS o) fun p=>
 ob (mkSl [.int .i64 0] 1 8 p p m) fun q r=>
 ob (buildSl 1 1 [.int .i64 0] [(0,1,(.int .i64 0))] r) fun s t=>
 oa (idxS 1 g (.int .i64 0)) fun u=>
 oa (ld1 t u) fun v=>
 oa (idxS 1 q v) fun w=>
 oh (stN 1 t w (.int .i64 1)) fun x=>
 k7_ T k k b d g l q s (.int .i64 0) x:=runEq (by kernel_rfl)
noncomputable def a2n:MCode:=.seq [13] (.seq [6,7,8,9,10,11,12] (.region [tM 6 0,tN 7 6,tF 8 5 7,tL 9 8,tM 10 1,tX 11 1 9 10,tL 12 11,tS 13 (.bin .geq .scalar (tT 12) (tK 0))]) (.cond (tT 13) .skip (.exit 0))) (.seq [21,22,23,24,25,26,27,28,29,30] (.block 1 (.region [tM 21 5,tM 22 0,tN 23 22,tF 24 4 23,tL 25 24,tM 26 1,tX 27 1 25 26,tL 28 27,tS 29 (.buildSlice 1 1 [.int .i64 0] [(0,1,(tT 28))]),tS 30 (.append 1 8 (tT 21) (tT 29)),tM 5 30])) (.region [tM 14 0,tN 15 14,tF 16 5 15,tL 17 16,tM 18 1,tX 19 1 17 18,tL 20 19,tM 1 20]))
noncomputable def w5_:MCode:=.seq [31,32] (.region [tM 31 5,⟨some 32,.call l8_ [(tT 31)],none⟩]) (.seq [5,33,34] (.region [tM 33 5,⟨some 34,.call h3_ [(tT 33)],none⟩,tM 4 34]) .ret)
def w6_:Res:=[(4,none)]
noncomputable def w7_:MFn:=⟨35,w6_,.seq [4] (.region [tS 4 (.mv (.const .nils))]) (.seq [] (.region [tS 5 (.mv (.const .nils))]) (.seq [0,1,13] (.block 0 (.loop [14,15,16,17,18,19,20] a2n)) (.lab w5_)))⟩
noncomputable def p3_ (T:Tab) (k j0:Nat) (a b c:AV) (h:Heap):Option (AV × Heap):=
 loopB T k w6_ j0 [14,15,16,17,18,19,20] a2n [.blk 0,.seq [0,1,13] (.lab w5_)] [a,b,.u,.u,.u,c,.u,.u,.u,.u,.u,.u,.u,.u,.u,.u,.u,.u,.u,.u,.u,.u,.u,.u,.u,.u,.u,.u,.u,.u,.u,.u,.u,.u,.u] h
noncomputable def w8_ (T:Tab) (k:Nat) (a:AV) (h:Heap):Option (AV × Heap):=
 evB T k w6_ w5_ [] [.u,.u,.u,.u,.u,a,.u,.u,.u,.u,.u,.u,.u,.u,.u,.u,.u,.u,.u,.u,.u,.u,.u,.u,.u,.u,.u,.u,.u,.u,.u,.u,.u,.u,.u] h
theorem a6k (T:Tab) (k:Nat) (a:AV) (h:Heap):w8_ T k a h =
 ob (evalFn T k l8_ [a] h) fun b c=>
 ob (evalFn T k h3_ [a] c) fun d e=>
 some (d,e):=blockEq (by kernel_rfl)
theorem a6l (T:Tab) (k j0:Nat) (a b c:AV) (h:Heap):p3_ T k (j0+1) a b c h =
 oa (nilCk a) fun d=>
 oa (fldA 5 d) fun e=>
 oa (ld1 h e) fun f=>
 oa (idxS 1 f b) fun g=>
 oa (ld1 h g) fun i=>
 oa (binV .geq .scalar i (.int .i64 0)) fun l=>
 cond2 l
 (
 oa (nilCk a) fun m=>
 oa (fldA 4 m) fun n=>
 oa (ld1 h n) fun o=>
 oa (idxS 1 o b) fun p=>
 oa (ld1 h p) fun q=>
 ob (buildSl 1 1 [.int .i64 0] [(0,1,q)] h) fun r s=>
 ob (apnd 1 8 c r s) fun t u=>
 oa (nilCk a) fun v=>
 oa (fldA 5 v) fun w=>
 oa (ld1 u w) fun x=>
 oa (idxS 1 x b) fun y=>
 oa (ld1 u y) fun z=>
 p3_ T k j0 a z t u
 )
 (
 w8_ T k c h
 ):=loopEq (by kernel_rfl)
theorem a7J (T:Tab) (k:Nat) (a b:AV) (h:Heap):runF T k w7_ [a,b] h =
 p3_ T k k a b .nils h:=runEq (by kernel_rfl)
noncomputable def a2L:MCode:=.seq [] (.region [tS 49 (.bin .lss .scalar (tT 48) (tT 47))]) (.seq [49] (.cond (tT 49) .skip (.exit 0)) (.seq [8,9,89,90,91,92,93,94,95,96,97,98,99,100,101,102,103,104] (.block 1 (.seq [50,51] (.region [tX 50 3 46 48,tA 51 3 50,tS 8 (.alloc [.int .i64 0,.int .i64 0,.int .i64 0]),tW 3 8 51]) (.seq [52,53,54,55,56,57,58] (.regionD 107 [dM 0 107 0,tD 1 108 (.nilCheck (tT 107)),dF 2 109 0 108,dL 3 110 109,dF 4 111 0 8,tD 5 112 (.load (some 2) (tT 111)),⟨6,⟨some 113,.call d1_ [(tT 110),(tT 112)],none⟩,[]⟩,dM 7 114 113] [(52,107),(53,108),(54,109),(55,110),(56,111),(57,112),(58,113),(9,114)]) (.seq [59,60,61,62,63,64,65,66,67,68,69,70,71,72,73,74,75,76,77,78,79,80,81,82,83,84,85,86,87,88] (.regionD 107 [dM 0 107 0,tD 1 108 (.nilCheck (tT 107)),dF 2 109 3 108,dL 3 110 109,dM 4 111 9,tD 5 112 (.idxSl 1 (tT 110) (tT 111)),dL 6 113 112,tD 7 114 (.bin .lss .scalar (tT 113) (tK 0)),dM 8 115 114,⟨9,⟨some 116,.op (.mv (tT 0)),some (115,true)⟩,[]⟩,⟨10,⟨some 117,.op (.nilCheck (tT 116)),some (115,true)⟩,[]⟩,⟨11,⟨some 118,.op (.fieldAddr 2 (tT 117)),some (115,true)⟩,[]⟩,⟨12,⟨some 119,.op (.load none (tT 118)),some (115,true)⟩,[]⟩,⟨13,⟨some 120,.op (.mv (tT 9)),some (115,true)⟩,[]⟩,⟨14,⟨some 121,.op (.mv (tT 5)),some (115,true)⟩,[]⟩,⟨15,⟨some 122,.op (.mv (tT 0)),some (115,true)⟩,[]⟩,⟨16,⟨some 123,.op (.nilCheck (tT 122)),some (115,true)⟩,[]⟩,⟨17,⟨some 124,.op (.fieldAddr 0 (tT 123)),some (115,true)⟩,[]⟩,⟨18,⟨some 125,.op (.load none (tT 124)),some (115,true)⟩,[]⟩,⟨19,⟨some 126,.op (.nilCheck (tT 125)),some (115,true)⟩,[]⟩,⟨20,⟨some 127,.op (.fieldAddr 0 (tT 126)),some (115,true)⟩,[]⟩,⟨21,⟨some 128,.op (.fieldAddr 1 (tT 127)),some (115,true)⟩,[]⟩,⟨22,⟨some 129,.op (.load none (tT 128)),some (115,true)⟩,[]⟩,⟨23,⟨some 130,.op (.fieldAddr 2 (tT 8)),some (115,true)⟩,[]⟩,⟨24,⟨some 131,.op (.load none (tT 130)),some (115,true)⟩,[]⟩,⟨25,⟨some 132,.op (.idxSl 4 (tT 129) (tT 131)),some (115,true)⟩,[]⟩,⟨26,⟨some 133,.op (.fieldAddr 3 (tT 132)),some (115,true)⟩,[]⟩,⟨27,⟨some 134,.op (.load none (tT 133)),some (115,true)⟩,[]⟩,⟨28,⟨some 135,.op (.bin .add .scalar (tT 121) (tT 134)),some (115,true)⟩,[]⟩,⟨29,⟨some 136,.call f5_ [(tT 119),(tT 120),(tT 135)],some (115,true)⟩,[]⟩,tD 30 137 (.pick (tT 115) (tT 136) (.const (.bool false)))] [(59,107),(60,108),(61,109),(62,110),(63,111),(64,112),(65,113),(66,114),(67,115),(68,116),(69,117),(70,118),(71,119),(72,120),(73,121),(74,122),(75,123),(76,124),(77,125),(78,126),(79,127),(80,128),(81,129),(82,130),(83,131),(84,132),(85,133),(86,134),(87,135),(88,136),(89,137)]) (.cond (tT 89) (.regionD 107 [dM 0 107 0,tD 1 108 (.nilCheck (tT 107)),dF 2 109 4 108,dL 3 110 109,dM 4 111 9,dM 5 112 0,tD 6 113 (.nilCheck (tT 112)),dF 7 114 5 113,dL 8 115 114,dM 9 116 9,dF 10 117 2 8,dL 11 118 117,dM 12 119 4,tD 13 120 (.idxSl 1 (tT 110) (tT 111)),tD 14 121 (.store 1 (tT 120) (tT 118)),tD 15 122 (.idxSl 1 (tT 115) (tT 116)),tD 16 123 (.store 1 (tT 122) (tT 119))] [(90,107),(91,108),(92,109),(93,110),(94,111),(95,112),(96,113),(97,114),(98,115),(99,116),(100,117),(101,118),(102,119),(103,120),(104,122)]) .skip))))) (.region [tS 105 (.bin .add .scalar (tT 48) (tK 1)),tM 48 105])))
noncomputable def z5_:MCode:=.seq [4,106] (.region [tM 106 4,tM 2 106,tS 3 (.mv (.const (.bool true)))]) .ret
def z6_:Res:=[(2,none),(3,none)]
noncomputable def z7_:MFn:=⟨107,z6_,.seq [2,3] (.region [tS 2 (.mv (tK 0)),tS 3 (.mv (.const (.bool false)))]) (.seq [10,11,12,13,14,15,16,17,18] (.region [tM 11 0,tN 12 11,tF 13 2 12,tL 14 13,⟨some 15,.call n0_ [(tT 14)],none⟩,tM 10 15,tS 16 (.extract 0 (tT 10)),tS 17 (.extract 1 (tT 10)),tS 18 (.extract 2 (tT 10)),tM 4 16,tM 5 17,tM 6 18]) (.seq [20] (.seq [6,19] (.region [tM 19 6,tS 20 (.un .not (tT 19))]) (.cond (tT 20) (.seq [0,4,5,20] (.region [tS 2 (.mv (tK 0)),tS 3 (.mv (.const (.bool false)))]) .ret) .skip)) (.seq [21,22,23,24,25,26,27,28,29,30,31] (.region [tM 21 0,tN 22 21,tF 23 3 22,tL 24 23,tM 25 4,tM 26 0,tM 27 5,tM 28 5,tX 29 1 24 25,tW 1 29 27,tN 30 26,tF 31 6 30,tW 1 31 28]) (.seq [0,5,46,47,48,49] (.seq [32,33,34,35,36,37,38,39,40,41,42,43,44,45] (.regionD 107 [dM 0 107 0,tD 1 108 (.nilCheck (tT 107)),dF 2 109 1 108,dL 3 110 109,dM 4 111 0,tD 5 112 (.nilCheck (tT 111)),dF 6 113 0 112,dL 7 114 113,dM 8 115 0,tD 9 116 (.nilCheck (tT 115)),dF 10 117 0 116,dL 11 118 117,dM 12 119 4,tD 16 123 (.mv (tK 0)),⟨13,⟨some 120,.call l7_ [(tT 118),(tT 119)],none⟩,[(110,tL 110 109),(114,tL 114 113)]⟩,⟨14,⟨some 121,.callV (tT 110) [(tT 114),(tT 120)],none⟩,[]⟩,tD 15 122 (.lenSl (tT 121))] [(32,107),(33,108),(34,109),(35,110),(36,111),(37,112),(38,113),(39,114),(40,115),(41,116),(42,117),(43,118),(44,119),(45,120),(46,121),(47,122),(48,123)]) (.block 0 (.loop [105] a2L))) (.lab z5_)))))⟩
noncomputable def i8_ (T:Tab) (k j0:Nat) (a b c d e f:AV) (h:Heap):Option (AV × Heap):=
 loopB T k z6_ j0 [105] a2L [.blk 0,.seq [0,5,46,47,48,49] (.lab z5_)] [a,.u,.u,.u,b,c,.u,.u,.u,.u,.u,.u,.u,.u,.u,.u,.u,.u,.u,.u,.u,.u,.u,.u,.u,.u,.u,.u,.u,.u,.u,.u,.u,.u,.u,.u,.u,.u,.u,.u,.u,.u,.u,.u,.u,.u,d,e,f,.u,.u,.u,.u,.u,.u,.u,.u,.u,.u,.u,.u,.u,.u,.u,.u,.u,.u,.u,.u,.u,.u,.u,.u,.u,.u,.u,.u,.u,.u,.u,.u,.u,.u,.u,.u,.u,.u,.u,.u,.u,.u,.u,.u,.u,.u,.u,.u,.u,.u,.u,.u,.u,.u,.u,.u,.u,.u] h
noncomputable def a2M (T:Tab) (k:Nat) (a:AV) (h:Heap):Option (AV × Heap):=
 evB T k z6_ z5_ [] [.u,.u,.u,.u,a,.u,.u,.u,.u,.u,.u,.u,.u,.u,.u,.u,.u,.u,.u,.u,.u,.u,.u,.u,.u,.u,.u,.u,.u,.u,.u,.u,.u,.u,.u,.u,.u,.u,.u,.u,.u,.u,.u,.u,.u,.u,.u,.u,.u,.u,.u,.u,.u,.u,.u,.u,.u,.u,.u,.u,.u,.u,.u,.u,.u,.u,.u,.u,.u,.u,.u,.u,.u,.u,.u,.u,.u,.u,.u,.u,.u,.u,.u,.u,.u,.u,.u,.u,.u,.u,.u,.u,.u,.u,.u,.u,.u,.u,.u,.u,.u,.u,.u,.u,.u,.u,.u] h
theorem a6F (T:Tab) (k:Nat) (a:AV) (h:Heap):a2M T k a h =
 some (.tup [a,(.bool true)],h):=blockEq (by kernel_rfl)
theorem a1I (T:Tab) (k j0:Nat) (a b c d e f:AV) (h:Heap):i8_ T k (j0+1) a b c d e f h =
 oa (binV .lss .scalar f e) fun g=>
 cond2 g
 (
 oa (idxS 3 d f) fun i=>
 oa (ldN 3 h i) fun l=>
 ob (newVar h [.int .i64 0,.int .i64 0,.int .i64 0]) fun m n=>
 oh (stN 3 n m l) fun o=>
 oa (nilCk a) fun p=>
 oa (fldA 0 p) fun q=>
 oa (ld1 o q) fun r=>
 oa (fldA 0 m) fun s=>
 oa (ldN 2 o s) fun t=>
 ob (evalFn T k d1_ [r,t] o) fun u v=>
 oa (nilCk a) fun w=>
 oa (fldA 3 w) fun x=>
 oa (ld1 v x) fun y=>
 oa (idxS 1 y u) fun z=>
 oa (ld1 v z) fun aa=>
 oa (binV .lss .scalar aa (.int .i64 0)) fun ab=>
 ob (gd ab true (some (a,v)) v) fun ac ad=>
 ob (gd ab true (pure1 ad (nilCk ac)) ad) fun ae af=>
 ob (gd ab true (pure1 af (fldA 2 ae)) af) fun ag ai=>
 ob (gd ab true (pure1 ai (ld1 ai ag)) ai) fun al am=>
 ob (gd ab true (some (u,am)) am) fun an ao=>
 ob (gd ab true (some (c,ao)) ao) fun ap aq=>
 ob (gd ab true (some (a,aq)) aq) fun ar as=>
 ob (gd ab true (pure1 as (nilCk ar)) as) fun au av=>
 ob (gd ab true (pure1 av (fldA 0 au)) av) fun aw ax=>
 ob (gd ab true (pure1 ax (ld1 ax aw)) ax) fun ay az=>
 ob (gd ab true (pure1 az (nilCk ay)) az) fun a0 a1=>
 ob (gd ab true (pure1 a1 (fldA 0 a0)) a1) fun a2 a3=>
 ob (gd ab true (pure1 a3 (fldA 1 a2)) a3) fun a4 a5=>
 ob (gd ab true (pure1 a5 (ld1 a5 a4)) a5) fun a6 a7=>
 ob (gd ab true (pure1 a7 (fldA 2 m)) a7) fun a8 a9=>
 ob (gd ab true (pure1 a9 (ld1 a9 a8)) a9) fun ba bb=>
 ob (gd ab true (pure1 bb (idxS 4 a6 ba)) bb) fun bc bd=>
 ob (gd ab true (pure1 bd (fldA 3 bc)) bd) fun be bf=>
 ob (gd ab true (pure1 bf (ld1 bf be)) bf) fun bg bi=>
 ob (gd ab true (pure1 bi (binV .add .scalar ap bg)) bi) fun bl bm=>
 ob (gd ab true (evalFn T k f5_ [al,an,bl] bm) bm) fun bn bo=>
 oa (pickV ab bn (.bool false)) fun bp=>
 cond2 bp
 (
 oa (nilCk a) fun bq=>
 oa (fldA 4 bq) fun br=>
 oa (ld1 bo br) fun bs=>
 oa (nilCk a) fun bt=>
 oa (fldA 5 bt) fun bu=>
 oa (ld1 bo bu) fun bv=>
 oa (fldA 2 m) fun bw=>
 oa (ld1 bo bw) fun bx=>
 oa (idxS 1 bs u) fun bz=>
 oh (stN 1 bo bz bx) fun b0=>
 oa (idxS 1 bv u) fun b1=>
 oh (stN 1 b0 b1 b) fun b2=>
 oa (binV .add .scalar f (.int .i64 1)) fun b3=>
 i8_ T k j0 a b c d e b3 b2
 )
 (
 oa (binV .add .scalar f (.int .i64 1)) fun b4=>
 i8_ T k j0 a b c d e b4 bo
 )
 )
 (
 a2M T k b h
 ):=loopEq (by kernel_rfl)
theorem a8G (T:Tab) (k:Nat) (a:AV) (h:Heap):runF T k z7_ [a] h =
 oa (nilCk a) fun b=>
 oa (fldA 2 b) fun c=>
 oa (ld1 h c) fun d=>
 ob (evalFn T k n0_ [d] h) fun e f=>
 oa (extr 0 e) fun g=>
 oa (extr 1 e) fun i=>
 oa (extr 2 e) fun l=>
 oa (unV .not l) fun m=>
 cond2 m
 (
 some (.tup [(.int .i64 0),(.bool false)],f)
 )
 (
 oa (nilCk a) fun n=>
 oa (fldA 3 n) fun o=>
 oa (ld1 f o) fun p=>
 oa (idxS 1 p g) fun q=>
 oh (stN 1 f q i) fun r=>
 oa (nilCk a) fun s=>
 oa (fldA 6 s) fun t=>
 oh (stN 1 r t i) fun u=>
 oa (nilCk a) fun v=>
 oa (fldA 1 v) fun w=>
 oa (ld1 u w) fun x=>
 oa (nilCk a) fun y=>
 oa (fldA 0 y) fun z=>
 oa (ld1 u z) fun aa=>
 oa (nilCk a) fun ab=>
 oa (fldA 0 ab) fun ac=>
 oa (ld1 u ac) fun ad=>
 ob (evalFn T k l7_ [ad,g] u) fun ae af=>
 chk ((sameB (pure1 af (ld1 af w)) x && (sameB (pure1 af (ld1 af z)) aa && true))) <|
 ob (callVal (evalFn T k) x [aa,ae] af) fun ag ai=>
 oa (lenS ag) fun al=>
 i8_ T k k a g i ag al (.int .i64 0) ai
 ):=runEq (by kernel_rfl)
def a9i:Res:=[(4,some (some 2))]
noncomputable def a0D:MFn:=⟨22,a9i,.seq [] (.region [tS 4 (.alloc [.int .i64 0,.int .i64 0])]) (.seq [0,1,5,6,7,8,9,10,11,12,13,14,15,16,17,18,19,20,21] (.regionD 22 [dM 0 22 1,dM 1 23 0,tD 2 24 (.nilCheck (tT 23)),dF 3 25 3 24,dF 4 26 0 25,dL 5 27 26,tD 6 28 (.lenSl (tT 27)),tD 7 29 (.bin .quo .scalar (tT 22) (tT 28)),dM 8 30 1,dM 9 31 0,tD 10 32 (.nilCheck (tT 31)),dF 11 33 3 32,dF 12 34 0 33,dL 13 35 34,tD 14 36 (.lenSl (tT 35)),tD 15 37 (.bin .rem .scalar (tT 30) (tT 36)),tD 16 38 (.build [.int .i64 0,.int .i64 0] [(0,1,(tT 29)),(1,1,(tT 37))]),tD 17 39 (.store 2 (tT 4) (tT 38))] [(5,22),(6,23),(7,24),(8,25),(9,26),(10,27),(11,28),(12,29),(13,30),(14,31),(15,32),(16,33),(17,34),(18,35),(19,36),(20,37),(21,38)]) .ret)⟩
theorem a9j (T:Tab) (k:Nat) (a b:AV) (h:Heap):runF T k a0D [a,b] h =
 ob (newVar h [.int .i64 0,.int .i64 0]) fun c d=>
 oa (nilCk a) fun e=>
 oa (fldA 3 e) fun f=>
 oa (fldA 0 f) fun g=>
 oa (ld1 d g) fun i=>
 oa (lenS i) fun l=>
 oa (binV .quo .scalar b l) fun m=>
 oa (nilCk a) fun n=>
 oa (fldA 3 n) fun o=>
 oa (fldA 0 o) fun p=>
 oa (ld1 d p) fun q=>
 oa (lenS q) fun r=>
 oa (binV .rem .scalar b r) fun s=>
 oa (buildV [.int .i64 0,.int .i64 0] [(0,1,m),(1,1,s)]) fun t=>
 oh (stN 2 d c t) fun u=>
 oa (ldN 2 u c) fun v=>
 some (v,u):=runEq (by kernel_rfl)
def b0t:Res:=[(4,none)]
noncomputable def a1v:MFn:=⟨17,b0t,.seq [1,4] (.region [tS 3 (.box (tT 1)),tS 4 (.mv (tK 0))]) (.seq [0,3,5,6,7,8,9,10,11,12,13,14,15,16] (.regionD 17 [dF 0 17 0 3,dL 1 18 17,dM 2 19 0,tD 3 20 (.nilCheck (tT 19)),dF 4 21 3 20,dF 5 22 0 21,dL 6 23 22,tD 7 24 (.lenSl (tT 23)),tD 8 25 (.bin .mul .scalar (tT 18) (tT 24)),dF 9 26 1 3,dL 10 27 26,tD 11 28 (.bin .add .scalar (tT 25) (tT 27)),dM 12 29 28] [(5,17),(6,18),(7,19),(8,20),(9,21),(10,22),(11,23),(12,24),(13,25),(14,26),(15,27),(16,28),(4,29)]) .ret)⟩
theorem b0u (T:Tab) (k:Nat) (a b:AV) (h:Heap):runF T k a1v [a,b] h =
 ob (newVar h (AV.cells b)) fun c d=>
 oa (fldA 0 c) fun e=>
 oa (ld1 d e) fun f=>
 oa (nilCk a) fun g=>
 oa (fldA 3 g) fun i=>
 oa (fldA 0 i) fun l=>
 oa (ld1 d l) fun m=>
 oa (lenS m) fun n=>
 oa (binV .mul .scalar f n) fun o=>
 oa (fldA 1 c) fun p=>
 oa (ld1 d p) fun q=>
 oa (binV .add .scalar o q) fun r=>
 some (r,d):=runEq (by kernel_rfl)
end Go.Gm.AQ
