/- A part of the proof (GmAQb). -/
import Derived.KernelRfl
import Derived.Test.YtldnkafmanalmaaProductSumsP2
set_option linter.unusedVariables false
namespace Go.Gm.AQ
open Go Go.Gm
noncomputable def a0D:MFn:=⟨67,b0F,.seq [0] (.region [tS 0 (.mv (.const (.bool false)))]) (.seq [8,9,10] (.region [tS 8 (.build [.int .i64 0,.int .i64 0,.int .i64 0,.int .i64 0] [(0,1,(tK 0)),(1,1,(tK 1)),(3,1,(tK 4))]),tS 9 (.buildSlice 4 1 [.int .i64 0,.int .i64 0,.int .i64 0,.int .i64 0] [(0,4,(tT 8))]),tS 10 (.build [.int .i64 0,.nils] [(0,1,(tK 2)),(1,1,(tT 9))]),tS 1 (.alloc [.int .i64 0,.nils]),tW 2 1 10]) (.seq [11,12,13,14] (.region [tS 11 (.build [.int .i64 0,.int .i64 0,.int .i64 0,.int .i64 0,.int .i64 0] []),tS 12 (.buildSlice 5 1 [.int .i64 0,.int .i64 0,.int .i64 0,.int .i64 0,.int .i64 0] [(0,5,(tT 11))]),tS 13 (.buildSlice 1 1 [.bool false] [(0,1,(.const (.bool true)))]),tS 14 (.build [.nils,.nils] [(0,1,(tT 12)),(1,1,(tT 13))]),tS 2 (.alloc [.nils,.nils]),tW 2 2 14]) (.seq [15,16,17,18,19,20] (.region [tA 16 2 1,tA 17 2 2,⟨some 18,.call h0_ [(tT 16),(tT 17),(tK 1),(tK 1)],none⟩,tM 15 18,tS 19 (.extract 0 (tT 15)),tS 20 (.extract 1 (tT 15)),tS 3 (.alloc [.int .i64 0,.nils]),tW 2 3 19,tM 4 20]) (.seq [21,22,23,24,25,26] (.region [tA 22 2 1,tA 23 2 2,⟨some 24,.call h0_ [(tT 22),(tT 23),(tK 0),(tK 1)],none⟩,tM 21 24,tS 25 (.extract 0 (tT 21)),tS 26 (.extract 1 (tT 21)),tS 5 (.alloc [.int .i64 0,.nils]),tW 2 5 25,tM 6 26]) (.seq [1,2,27,28,29] (.region [tA 27 2 1,tA 28 2 2,⟨some 29,.call d8_ [(tT 27),(tT 28),(tK 0)],none⟩,tM 7 29]) (.seq [3,4,5,6,7,30,31,32,33,34,35,36,37,38,39,40,41,42,43,44,45,46,47,48,49,50,51,52,53,54,55,56,57,58,59,60,61,62,63,64,65,66] (.region [tM 30 4,tM 31 30,⟨some 32,.op (.fieldAddr 0 (tT 3)),some (31,true)⟩,⟨some 33,.op (.load none (tT 32)),some (31,true)⟩,⟨some 34,.op (.bin .eql .scalar (tT 33) (tK 0)),some (31,true)⟩,tS 35 (.pick (tT 31) (tT 34) (.const (.bool false))),tM 36 35,⟨some 37,.op (.fieldAddr 1 (tT 3)),some (36,true)⟩,⟨some 38,.op (.load none (tT 37)),some (36,true)⟩,⟨some 39,.op (.lenSl (tT 38)),some (36,true)⟩,⟨some 40,.op (.bin .eql .scalar (tT 39) (tK 0)),some (36,true)⟩,tS 41 (.pick (tT 36) (tT 40) (.const (.bool false))),tM 42 41,⟨some 43,.op (.mv (tT 6)),some (42,true)⟩,tS 44 (.pick (tT 42) (tT 43) (.const (.bool false))),tM 45 44,⟨some 46,.op (.fieldAddr 0 (tT 5)),some (45,true)⟩,⟨some 47,.op (.load none (tT 46)),some (45,true)⟩,⟨some 48,.op (.bin .eql .scalar (tT 47) (tK 4)),some (45,true)⟩,tS 49 (.pick (tT 45) (tT 48) (.const (.bool false))),tM 50 49,⟨some 51,.op (.fieldAddr 1 (tT 5)),some (50,true)⟩,⟨some 52,.op (.load none (tT 51)),some (50,true)⟩,⟨some 53,.op (.lenSl (tT 52)),some (50,true)⟩,⟨some 54,.op (.bin .eql .scalar (tT 53) (tK 1)),some (50,true)⟩,tS 55 (.pick (tT 50) (tT 54) (.const (.bool false))),tM 56 55,⟨some 57,.op (.mv (tT 7)),some (56,true)⟩,⟨some 58,.op (.lenSl (tT 57)),some (56,true)⟩,⟨some 59,.op (.bin .eql .scalar (tT 58) (tK 2)),some (56,true)⟩,tS 60 (.pick (tT 56) (tT 59) (.const (.bool false))),tM 61 60,⟨some 62,.op (.mv (tT 7)),some (61,true)⟩,⟨some 63,.op (.idxSl 1 (tT 62) (tK 1)),some (61,true)⟩,⟨some 64,.op (.load none (tT 63)),some (61,true)⟩,⟨some 65,.op (.bin .eql .scalar (tT 64) (tK 4)),some (61,true)⟩,tS 66 (.pick (tT 61) (tT 65) (.const (.bool false))),tM 0 66]) .ret))))))⟩
theorem b0G (T:Tab)(k:Nat)(h:Heap):runF T k a0D [] h =
 oa (buildV [.int .i64 0,.int .i64 0,.int .i64 0,.int .i64 0] [(0,1,(.int .i64 0)),(1,1,(.int .i64 1)),(3,1,(.int .i64 4))]) fun a=>ob (buildSl 4 1 [.int .i64 0,.int .i64 0,.int .i64 0,.int .i64 0] [(0,4,a)] h) fun b c=>oa (buildV [.int .i64 0,.nils] [(0,1,(.int .i64 2)),(1,1,b)]) fun d=>ob (newVar c [.int .i64 0,.nils]) fun e f=>oh (stN 2 f e d) fun g=>oa (buildV [.int .i64 0,.int .i64 0,.int .i64 0,.int .i64 0,.int .i64 0] []) fun i=>ob (buildSl 5 1 [.int .i64 0,.int .i64 0,.int .i64 0,.int .i64 0,.int .i64 0] [(0,5,i)] g) fun l m=>ob (buildSl 1 1 [.bool false] [(0,1,(.bool true))] m) fun n o=>oa (buildV [.nils,.nils] [(0,1,l),(1,1,n)]) fun p=>ob (newVar o [.nils,.nils]) fun q r=>oh (stN 2 r q p) fun s=>oa (ldN 2 s e) fun t=>oa (ldN 2 s q) fun u=>ob (evalFn T k h0_ [t,u,(.int .i64 1),(.int .i64 1)] s) fun v w=>oa (extr 0 v) fun x=>oa (extr 1 v) fun y=>ob (newVar w [.int .i64 0,.nils]) fun z aa=>oh (stN 2 aa z x) fun ab=>oa (ldN 2 ab e) fun ac=>oa (ldN 2 ab q) fun ad=>ob (evalFn T k h0_ [ac,ad,(.int .i64 0),(.int .i64 1)] ab) fun ae af=>oa (extr 0 ae) fun ag=>oa (extr 1 ae) fun ai=>ob (newVar af [.int .i64 0,.nils]) fun al am=>oh (stN 2 am al ag) fun an=>oa (ldN 2 an e) fun ao=>oa (ldN 2 an q) fun ap=>ob (evalFn T k d8_ [ao,ap,(.int .i64 0)] an) fun aq ar=>ob (gd y true (pure1 ar (fldA 0 z)) ar) fun as au=>ob (gd y true (pure1 au (ld1 au as)) au) fun av aw=>ob (gd y true (pure1 aw (binV .eql .scalar av (.int .i64 0))) aw) fun ax ay=>oa (pickV y ax (.bool false)) fun az=>ob (gd az true (pure1 ay (fldA 1 z)) ay) fun a0 a1=>ob (gd az true (pure1 a1 (ld1 a1 a0)) a1) fun a2 a3=>ob (gd az true (pure1 a3 (lenS a2)) a3) fun a4 a5=>ob (gd az true (pure1 a5 (binV .eql .scalar a4 (.int .i64 0))) a5) fun a6 a7=>oa (pickV az a6 (.bool false)) fun a8=>ob (gd a8 true (some (ai,a7)) a7) fun a9 ba=>oa (pickV a8 a9 (.bool false)) fun bb=>ob (gd bb true (pure1 ba (fldA 0 al)) ba) fun bc bd=>ob (gd bb true (pure1 bd (ld1 bd bc)) bd) fun be bf=>ob (gd bb true (pure1 bf (binV .eql .scalar be (.int .i64 4))) bf) fun bg bi=>oa (pickV bb bg (.bool false)) fun bl=>ob (gd bl true (pure1 bi (fldA 1 al)) bi) fun bm bn=>ob (gd bl true (pure1 bn (ld1 bn bm)) bn) fun bo bp=>ob (gd bl true (pure1 bp (lenS bo)) bp) fun bq br=>ob (gd bl true (pure1 br (binV .eql .scalar bq (.int .i64 1))) br) fun bs bt=>oa (pickV bl bs (.bool false)) fun bu=>ob (gd bu true (some (aq,bt)) bt) fun bv bw=>ob (gd bu true (pure1 bw (lenS bv)) bw) fun bx bz=>ob (gd bu true (pure1 bz (binV .eql .scalar bx (.int .i64 2))) bz) fun b0 b1=>oa (pickV bu b0 (.bool false)) fun b2=>ob (gd b2 true (some (aq,b1)) b1) fun b3 b4=>ob (gd b2 true (pure1 b4 (idxS 1 b3 (.int .i64 1))) b4) fun b5 b6=>ob (gd b2 true (pure1 b6 (ld1 b6 b5)) b6) fun b7 b8=>ob (gd b2 true (pure1 b8 (binV .eql .scalar b7 (.int .i64 4))) b8) fun b9 ca=>oa (pickV b2 b9 (.bool false)) fun cb=>some (cb,ca):=runEq (by kernel_rfl)
def b2i:Res:=[(2,none)]
noncomputable def a2g:MFn:=⟨6,b2i,.seq [2] (.region [tS 2 (.mv (.const (.bool false)))]) (.seq [0,3,4,5] (.region [tM 3 0,⟨some 4,.call g4_ [(tT 3),(tK 0)],none⟩,tS 5 (.bin .leq .scalar (tT 4) (tK 14)),tM 2 5]) .ret)⟩
theorem b2j (T:Tab)(k:Nat)(a:AV)(h:Heap):runF T k a2g [a] h =
 ob (evalFn T k g4_ [a,(.int .i64 0)] h) fun b c=>oa (binV .leq .scalar b (.int .i64 14)) fun d=>some (d,c):=runEq (by kernel_rfl)
noncomputable def a4R:MCode:=.region [tF 73 1 7,tL 74 73,tA 75 4 10,tS 76 (.buildSlice 4 1 [.int .i64 0,.int .i64 0,.int .i64 0,.int .i64 0] [(0,4,(tT 75))]),tS 77 (.append 4 32 (tT 74) (tT 76)),tF 78 1 7,tW 1 78 77]
noncomputable def a4S:MCode:=.seq [9,67,68,69,70,71,72] (.seq [65,66] (.region [tM 65 9,⟨some 66,.call a3_ [(tT 65),(tK 31)],none⟩,tS 67 (.bin .eql .scalar (tT 66) (tK 0))]) (.cond (tT 67) (.region [tM 68 9,tS 69 (.bin .quo .scalar (tT 68) (tK 31)),⟨some 70,.call a3_ [(tT 69),(tK 3)],none⟩,tS 71 (.bin .sub .scalar (tK 2147483647) (tT 70)),tF 72 3 10,tW 1 72 71]) .skip)) (.lab a4R)
noncomputable def v3_:MCode:=.seq [22] (.seq [15,16,17,18,19,20,21] (.region [tM 15 8,tM 16 1,tS 17 (.lenSl (tT 16)),tS 18 (.bin .lss .scalar (tT 15) (tT 17)),tM 19 18,⟨some 20,.op (.mv (tT 8)),some (19,true)⟩,⟨some 21,.op (.bin .lss .scalar (tT 20) (tK 40)),some (19,true)⟩,tS 22 (.pick (tT 19) (tT 21) (.const (.bool false)))]) (.cond (tT 22) .skip (.exit 0))) (.seq [10,73,74,75,76,77,78] (.block 1 (.seq [25,26,27,28] (.region [tM 25 1,tM 26 8,tX 27 1 25 26,tL 28 27,tM 9 28]) (.seq [29,30,31,32,33,34,35,36,37,38,39,40,41,42,43,44] (.regionD 80 [dM 0 80 9,dF 1 81 0 7,dL 2 82 81,dM 4 84 9,tD 5 85 (.bin .quo .scalar (tT 84) (tK 13)),dF 6 86 0 7,dL 7 87 86,dM 9 89 9,tD 10 90 (.bin .quo .scalar (tT 89) (tK 170)),dM 12 92 9,tD 13 93 (.bin .quo .scalar (tT 92) (tK 900)),tD 16 96 (.alloc [.int .i64 0,.int .i64 0,.int .i64 0,.int .i64 0]),⟨3,⟨some 83,.call a3_ [(tT 80),(tT 82)],none⟩,[(87,tL 87 86)]⟩,⟨8,⟨some 88,.call a3_ [(tT 85),(tT 87)],none⟩,[]⟩,⟨11,⟨some 91,.call a3_ [(tT 90),(tK 5)],none⟩,[]⟩,⟨14,⟨some 94,.call a3_ [(tT 93),(tK 9)],none⟩,[]⟩,tD 15 95 (.build [.int .i64 0,.int .i64 0,.int .i64 0,.int .i64 0] [(0,1,(tT 83)),(1,1,(tT 88)),(2,1,(tT 91)),(3,1,(tT 94))]),tD 17 97 (.store 4 (tT 96) (tT 95))] [(29,80),(30,81),(31,82),(32,83),(33,84),(34,85),(35,86),(36,87),(37,88),(38,89),(39,90),(40,91),(41,92),(42,93),(43,94),(44,95),(10,96)]) (.seq [47,48,49,50,51,52,53,54,57,58,59,60,61,62,63,64] (.seq [45,46] (.region [tM 45 2,⟨some 46,.call a3_ [(tT 45),(tK 3)],none⟩,tS 47 (.bin .eql .scalar (tT 46) (tK 0))]) (.cond (tT 47) (.region [tF 48 0 10,tL 49 48,tF 50 1 10,tL 51 50,tS 52 (.bin .add .scalar (tT 49) (tT 51)),⟨some 53,.call a3_ [(tT 52),(tK 2)],none⟩,tF 54 2 10,tW 1 54 53]) (.seq [47,55,56] (.region [tM 55 2,⟨some 56,.call a3_ [(tT 55),(tK 3)],none⟩,tS 57 (.bin .eql .scalar (tT 56) (tK 1))]) (.cond (tT 57) (.region [tF 58 2 10,tL 59 58,tF 60 0 10,tL 61 60,tS 62 (.bin .mul .scalar (tT 59) (tT 61)),⟨some 63,.call a3_ [(tT 62),(tK 3)],none⟩,tF 64 2 10,tW 1 64 63]) .skip)))) (.lab a4S))))) (.region [tM 23 8,tS 24 (.bin .add .scalar (tT 23) (tK 1)),tM 8 24]))
def v4_:Res:=[(6,some (some 2))]
noncomputable def a1r:MFn:=⟨80,v4_,.seq [] (.region [tS 6 (.alloc [.int .i64 0,.nils])]) (.seq [0,11,12,13,14] (.region [tM 11 0,⟨some 12,.call a3_ [(tT 11),(tK 12)],none⟩,tS 13 (.bin .add .scalar (tK 1) (tT 12)),tS 14 (.build [.int .i64 0,.nils] [(0,1,(tT 13))]),tS 7 (.alloc [.int .i64 0,.nils]),tW 2 7 14]) (.seq [1,2,8,22] (.seq [] (.region [tS 8 (.mv (tK 0))]) (.block 0 (.loop [23,24] v3_))) (.seq [7,79] (.region [tA 79 2 7,tW 2 6 79]) .ret)))⟩
noncomputable def h7_ (T:Tab)(k j0:Nat)(a b c d e:AV)(h:Heap):Option (AV × Heap):=
 loopB T k v4_ j0 [23,24] v3_ [.blk 0,.seq [1,2,8,22] (.seq [7,79] (.region [⟨some 79,.op (.load (some 2) (.tmp 7)),none⟩,
 ⟨none,.op (.store 2 (.tmp 6) (.tmp 79)),none⟩]) .ret)] [.undef,a,b,.undef,.undef,.undef,c,d,e,.undef,.undef,.undef,.undef,.undef,.undef,.undef,.undef,.undef,.undef,.undef,.undef,.undef,.undef,.undef,.undef,.undef,.undef,.undef,.undef,.undef,.undef,.undef,.undef,.undef,.undef,.undef,.undef,.undef,.undef,.undef,.undef,.undef,.undef,.undef,.undef,.undef,.undef,.undef,.undef,.undef,.undef,.undef,.undef,.undef,.undef,.undef,.undef,.undef,.undef,.undef,.undef,.undef,.undef,.undef,.undef,.undef,.undef,.undef,.undef,.undef,.undef,.undef,.undef,.undef,.undef,.undef,.undef,.undef,.undef,.undef] h
noncomputable def h8_ (T:Tab)(k j0:Nat)(a b c d e f g:AV)(h:Heap):Option (AV × Heap):=
 evB T k v4_ a4S [.blk 1,.seq [10,73,74,75,76,77,78] (.region [⟨some 23,.op (.mv (.tmp 8)),none⟩,
 ⟨some 24,.op (.bin .add .scalar (.tmp 23) (.const (.int .i64 1))),none⟩,
 ⟨some 8,.op (.mv (.tmp 24)),none⟩]),.lp j0 [23,24] v3_,.blk 0,.seq [1,2,8,22] (.seq [7,79] (.region [⟨some 79,.op (.load (some 2) (.tmp 7)),none⟩,
 ⟨none,.op (.store 2 (.tmp 6) (.tmp 79)),none⟩]) .ret)] [.undef,a,b,.undef,.undef,.undef,c,d,e,f,g,.undef,.undef,.undef,.undef,.undef,.undef,.undef,.undef,.undef,.undef,.undef,.undef,.undef,.undef,.undef,.undef,.undef,.undef,.undef,.undef,.undef,.undef,.undef,.undef,.undef,.undef,.undef,.undef,.undef,.undef,.undef,.undef,.undef,.undef,.undef,.undef,.undef,.undef,.undef,.undef,.undef,.undef,.undef,.undef,.undef,.undef,.undef,.undef,.undef,.undef,.undef,.undef,.undef,.undef,.undef,.undef,.undef,.undef,.undef,.undef,.undef,.undef,.undef,.undef,.undef,.undef,.undef,.undef,.undef] h
noncomputable def v5_ (T:Tab)(k j0:Nat)(a b c d e f:AV)(h:Heap):Option (AV × Heap):=
 evB T k v4_ a4R [.blk 1,.seq [10,73,74,75,76,77,78] (.region [⟨some 23,.op (.mv (.tmp 8)),none⟩,
 ⟨some 24,.op (.bin .add .scalar (.tmp 23) (.const (.int .i64 1))),none⟩,
 ⟨some 8,.op (.mv (.tmp 24)),none⟩]),.lp j0 [23,24] v3_,.blk 0,.seq [1,2,8,22] (.seq [7,79] (.region [⟨some 79,.op (.load (some 2) (.tmp 7)),none⟩,
 ⟨none,.op (.store 2 (.tmp 6) (.tmp 79)),none⟩]) .ret)] [.undef,a,b,.undef,.undef,.undef,c,d,e,.undef,f,.undef,.undef,.undef,.undef,.undef,.undef,.undef,.undef,.undef,.undef,.undef,.undef,.undef,.undef,.undef,.undef,.undef,.undef,.undef,.undef,.undef,.undef,.undef,.undef,.undef,.undef,.undef,.undef,.undef,.undef,.undef,.undef,.undef,.undef,.undef,.undef,.undef,.undef,.undef,.undef,.undef,.undef,.undef,.undef,.undef,.undef,.undef,.undef,.undef,.undef,.undef,.undef,.undef,.undef,.undef,.undef,.undef,.undef,.undef,.undef,.undef,.undef,.undef,.undef,.undef,.undef,.undef,.undef,.undef] h
theorem a8T (T:Tab)(k j0:Nat)(a b c d e f:AV)(h:Heap):v5_ T k j0 a b c d e f h =
 oa (fldA 1 d) fun g=>oa (ld1 h g) fun i=>oa (ldN 4 h f) fun l=>ob (buildSl 4 1 [.int .i64 0,.int .i64 0,.int .i64 0,.int .i64 0] [(0,4,l)] h) fun m n=>ob (apnd 4 32 i m n) fun o p=>oa (fldA 1 d) fun q=>oh (stN 1 p q o) fun r=>oa (binV .add .scalar e (.int .i64 1)) fun s=>h7_ T k j0 a b c d s r:=blockEq (by kernel_rfl)
theorem a8U (T:Tab)(k j0:Nat)(a b c d e f g:AV)(h:Heap):h8_ T k j0 a b c d e f g h =
 ob (evalFn T k a3_ [f,(.int .i64 31)] h) fun i l=>oa (binV .eql .scalar i (.int .i64 0)) fun m=>cond2 m
 (
 oa (binV .quo .scalar f (.int .i64 31)) fun n=>ob (evalFn T k a3_ [n,(.int .i64 3)] l) fun o p=>oa (binV .sub .scalar (.int .i64 2147483647) o) fun q=>oa (fldA 3 g) fun r=>oh (stN 1 p r q) fun s=>v5_ T k j0 a b c d e g s
 )
 (
 v5_ T k j0 a b c d e g l
 ):=blockEq (by kernel_rfl)
theorem a3i (T:Tab)(k j0:Nat)(a b c d e:AV)(h:Heap):h7_ T k (j0+1) a b c d e h =
 oa (lenS a) fun f=>oa (binV .lss .scalar e f) fun g=>ob (gd g true (some (e,h)) h) fun i l=>ob (gd g true (pure1 l (binV .lss .scalar i (.int .i64 40))) l) fun m n=>oa (pickV g m (.bool false)) fun o=>cond2 o
 (
 oa (idxS 1 a e) fun p=>oa (ld1 n p) fun q=>oa (fldA 0 d) fun r=>oa (ld1 n r) fun s=>oa (binV .quo .scalar q (.int .i64 13)) fun t=>oa (fldA 0 d) fun u=>oa (ld1 n u) fun v=>oa (binV .quo .scalar q (.int .i64 170)) fun w=>oa (binV .quo .scalar q (.int .i64 900)) fun x=>ob (newVar n [.int .i64 0,.int .i64 0,.int .i64 0,.int .i64 0]) fun y z=>ob (evalFn T k a3_ [q,s] z) fun aa ab=>chk ((sameB (pure1 ab (ld1 ab u)) v && true)) <|ob (evalFn T k a3_ [t,v] ab) fun ac ad=>ob (evalFn T k a3_ [w,(.int .i64 5)] ad) fun ae af=>ob (evalFn T k a3_ [x,(.int .i64 9)] af) fun ag ai=>oa (buildV [.int .i64 0,.int .i64 0,.int .i64 0,.int .i64 0] [(0,1,aa),(1,1,ac),(2,1,ae),(3,1,ag)]) fun al=>oh (stN 4 ai y al) fun am=>ob (evalFn T k a3_ [b,(.int .i64 3)] am) fun an ao=>oa (binV .eql .scalar an (.int .i64 0)) fun ap=>cond2 ap
 (
 oa (fldA 0 y) fun aq=>oa (ld1 ao aq) fun ar=>oa (fldA 1 y) fun as=>oa (ld1 ao as) fun au=>oa (binV .add .scalar ar au) fun av=>ob (evalFn T k a3_ [av,(.int .i64 2)] ao) fun aw ax=>oa (fldA 2 y) fun ay=>oh (stN 1 ax ay aw) fun az=>h8_ T k j0 a b c d e q y az
 )
 (
 ob (evalFn T k a3_ [b,(.int .i64 3)] ao) fun a0 a1=>oa (binV .eql .scalar a0 (.int .i64 1)) fun a2=>cond2 a2
 (
 oa (fldA 2 y) fun a3=>oa (ld1 a1 a3) fun a4=>oa (fldA 0 y) fun a5=>oa (ld1 a1 a5) fun a6=>oa (binV .mul .scalar a4 a6) fun a7=>ob (evalFn T k a3_ [a7,(.int .i64 3)] a1) fun a8 a9=>oa (fldA 2 y) fun ba=>oh (stN 1 a9 ba a8) fun bb=>h8_ T k j0 a b c d e q y bb
 )
 (
 h8_ T k j0 a b c d e q y a1
 )
 )
 )
 (
 oa (ldN 2 n d) fun bc=>oh (stN 2 n c bc) fun bd=>oa (ldN 2 bd c) fun be=>some (be,bd)
 ):=loopEq (by kernel_rfl)
theorem b1s (T:Tab)(k:Nat)(a b c:AV)(h:Heap):runF T k a1r [a,b,c] h =
 ob (newVar h [.int .i64 0,.nils]) fun d e=>ob (evalFn T k a3_ [a,(.int .i64 12)] e) fun f g=>oa (binV .add .scalar (.int .i64 1) f) fun i=>oa (buildV [.int .i64 0,.nils] [(0,1,i)]) fun l=>ob (newVar g [.int .i64 0,.nils]) fun m n=>oh (stN 2 n m l) fun o=>h7_ T k k b c d m (.int .i64 0) o:=runEq (by kernel_rfl)
def a8V:Res:=[(2,some (some 2))]
noncomputable def y0_:MFn:=⟨19,a8V,.seq [] (.region [tS 2 (.alloc [.nils,.nils])]) (.seq [0,5,6,7,8,9,10,11] (.region [tM 6 0,⟨some 7,.call s4_ [(tT 6)],none⟩,⟨some 8,.call g3_ [(tT 7)],none⟩,⟨some 9,.call j8_ [(tT 8)],none⟩,tM 5 9,tS 10 (.extract 0 (tT 5)),tS 11 (.extract 1 (tT 5)),tS 3 (.alloc [.nils,.nils]),tW 2 3 10,tM 4 11]) (.seq [13] (.seq [4,12] (.region [tM 12 4,tS 13 (.bin .neq .scalar (tT 12) (tK 0))]) (.cond (tT 13) (.seq [3,13,14,15,16,17] (.region [tS 14 (.build [.int .i64 0,.int .i64 0,.int .i64 0,.int .i64 0,.int .i64 0] []),tS 15 (.buildSlice 5 1 [.int .i64 0,.int .i64 0,.int .i64 0,.int .i64 0,.int .i64 0] [(0,5,(tT 14))]),tS 16 (.buildSlice 1 1 [.bool false] [(0,1,(.const (.bool true)))]),tS 17 (.build [.nils,.nils] [(0,1,(tT 15)),(1,1,(tT 16))]),tW 2 2 17]) .ret) .skip)) (.seq [3,18] (.region [tA 18 2 3,tW 2 2 18]) .ret)))⟩
theorem a8W (T:Tab)(k:Nat)(a:AV)(h:Heap):runF T k y0_ [a] h =
 ob (newVar h [.nils,.nils]) fun b c=>ob (evalFn T k s4_ [a] c) fun d e=>ob (evalFn T k g3_ [d] e) fun f g=>ob (evalFn T k j8_ [f] g) fun i l=>oa (extr 0 i) fun m=>oa (extr 1 i) fun n=>ob (newVar l [.nils,.nils]) fun o p=>oh (stN 2 p o m) fun q=>oa (binV .neq .scalar n (.int .i64 0)) fun r=>cond2 r
 (
 oa (buildV [.int .i64 0,.int .i64 0,.int .i64 0,.int .i64 0,.int .i64 0] []) fun s=>ob (buildSl 5 1 [.int .i64 0,.int .i64 0,.int .i64 0,.int .i64 0,.int .i64 0] [(0,5,s)] q) fun t u=>ob (buildSl 1 1 [.bool false] [(0,1,(.bool true))] u) fun v w=>oa (buildV [.nils,.nils] [(0,1,t),(1,1,v)]) fun x=>oh (stN 2 w b x) fun y=>oa (ldN 2 y b) fun z=>some (z,y)
 )
 (
 oa (ldN 2 q o) fun aa=>oh (stN 2 q b aa) fun ab=>oa (ldN 2 ab b) fun ac=>some (ac,ab)
 ):=runEq (by kernel_rfl)
def a9H:Res:=[(4,none)]
noncomputable def a0e:MFn:=⟨15,a9H,.seq [4] (.region [tS 4 (.mv (tK 0))]) (.seq [0,6,7,8] (.region [tM 6 0,tM 7 1,tS 8 (.bin .rem .scalar (tT 6) (tT 7)),tM 5 8]) (.seq [1,10,11,12,13] (.seq [9] (.region [tM 9 5,tS 10 (.bin .lss .scalar (tT 9) (tK 0))]) (.cond (tT 10) (.region [tM 11 5,tM 12 1,tS 13 (.bin .add .scalar (tT 11) (tT 12)),tM 5 13]) .skip)) (.seq [5,14] (.region [tM 14 5,tM 4 14]) .ret)))⟩
theorem a9I (T:Tab)(k:Nat)(a b:AV)(h:Heap):runF T k a0e [a,b] h =
 oa (binV .rem .scalar a b) fun c=>oa (binV .lss .scalar c (.int .i64 0)) fun d=>cond2 d
 (
 oa (binV .add .scalar c b) fun e=>some (e,h)
 )
 (
 some (c,h)
 ):=runEq (by kernel_rfl)
noncomputable def a8X:MCode:=.seq [] (.region [tS 26 (.bin .lss .scalar (tT 25) (tT 24))]) (.seq [26] (.cond (tT 26) .skip (.exit 0)) (.seq [9,10,35,36,37,38,39,40,41,42,43,44,45] (.block 1 (.seq [27] (.region [tM 27 25,tM 9 27]) (.seq [28,29,30] (.region [tM 28 8,tM 29 9,tX 30 1 28 29,⟨none,.op (.store 1 (tT 30) (tK (-1))),none⟩]) (.seq [31,32,33] (.region [tM 31 7,tM 32 9,⟨some 33,.call f2_ [(tT 31),(tT 32)],none⟩,tM 10 33]) (.seq [34] (.region [tM 34 10,tS 35 (.bin .geq .scalar (tT 34) (tK 0))]) (.cond (tT 35) (.region [tM 36 8,tM 37 9,tM 38 7,tN 39 38,tF 40 3 39,tL 41 40,tM 42 10,tX 43 1 41 42,tL 44 43,tX 45 1 36 37,tW 1 45 44]) .skip)))))) (.region [tS 46 (.bin .add .scalar (tT 25) (tK 1)),tM 25 46])))
def a8Y:Res:=[(6,none)]
noncomputable def a4y:MFn:=⟨48,a8Y,.seq [0,1,6] (.region [tS 3 (.box (tT 0)),tS 4 (.box (tT 1)),tS 6 (.mv (.const .nils))]) (.seq [2,4,11,12,13,14,15,16,17] (.region [tA 11 2 3,tA 12 2 4,⟨some 13,.call t2_ [(tT 11),(tT 12)],none⟩,tM 14 2,tS 15 (.build [.int .i64 0,.int .i64 0] [(0,1,(tT 14)),(1,1,(tK 0))]),tS 16 (.buildSlice 2 1 [.int .i64 0,.int .i64 0] [(0,2,(tT 15))]),⟨some 17,.call f1_ [(tT 13),(.const (.fn g0_ [] [])),(tT 16)],none⟩,tM 7 17]) (.seq [18,19] (.region [tM 18 7,⟨some 19,.call d9_ [(tT 18)],none⟩]) (.seq [3,20,21,22] (.region [tF 20 0 3,tL 21 20,tS 22 (.mkSlice [.int .i64 0] 1 8 (tT 21) (tT 21)),tM 8 22]) (.seq [7,24,25,26] (.seq [23] (.region [tM 23 8,tS 24 (.lenSl (tT 23)),tS 25 (.mv (tK 0))]) (.block 0 (.loop [46] a8X))) (.seq [8,47] (.region [tM 47 8,tM 6 47]) .ret)))))⟩
noncomputable def y1_ (T:Tab)(k j0:Nat)(a b c d:AV)(h:Heap):Option (AV × Heap):=
 loopB T k a8Y j0 [46] a8X [.blk 0,.seq [7,24,25,26] (.seq [8,47] (.region [⟨some 47,.op (.mv (.tmp 8)),none⟩,
 ⟨some 6,.op (.mv (.tmp 47)),none⟩]) .ret)] [.undef,.undef,.undef,.undef,.undef,.undef,.undef,a,b,.undef,.undef,.undef,.undef,.undef,.undef,.undef,.undef,.undef,.undef,.undef,.undef,.undef,.undef,.undef,c,d,.undef,.undef,.undef,.undef,.undef,.undef,.undef,.undef,.undef,.undef,.undef,.undef,.undef,.undef,.undef,.undef,.undef,.undef,.undef,.undef,.undef,.undef] h
theorem a6Q (T:Tab)(k j0:Nat)(a b c d:AV)(h:Heap):y1_ T k (j0+1) a b c d h =
 oa (binV .lss .scalar d c) fun e=>cond2 e
 (
 oa (idxS 1 b d) fun f=>oh (stN 1 h f (.int .i64 (-1))) fun g=>ob (evalFn T k f2_ [a,d] g) fun i l=>oa (binV .geq .scalar i (.int .i64 0)) fun m=>cond2 m
 (
 oa (nilCk a) fun n=>oa (fldA 3 n) fun o=>oa (ld1 l o) fun p=>oa (idxS 1 p i) fun q=>oa (ld1 l q) fun r=>oa (idxS 1 b d) fun s=>oh (stN 1 l s r) fun t=>oa (binV .add .scalar d (.int .i64 1)) fun u=>y1_ T k j0 a b c u t
 )
 (
 oa (binV .add .scalar d (.int .i64 1)) fun v=>y1_ T k j0 a b c v l
 )
 )
 (
 some (b,h)
 ):=loopEq (by kernel_rfl)
theorem a8Z (T:Tab)(k:Nat)(a b c:AV)(h:Heap):runF T k a4y [a,b,c] h =
 ob (newVar h (AV.cells a)) fun d e=>ob (newVar e (AV.cells b)) fun f g=>oa (ldN 2 g d) fun i=>oa (ldN 2 g f) fun l=>ob (evalFn T k t2_ [i,l] g) fun m n=>oa (buildV [.int .i64 0,.int .i64 0] [(0,1,c),(1,1,(.int .i64 0))]) fun o=>ob (buildSl 2 1 [.int .i64 0,.int .i64 0] [(0,2,o)] n) fun p q=>ob (evalFn T k f1_ [m,(.fn g0_ [] []),p] q) fun r s=>ob (evalFn T k d9_ [r] s) fun t u=>oa (fldA 0 d) fun v=>oa (ld1 u v) fun w=>ob (mkSl [.int .i64 0] 1 8 w w u) fun x y=>oa (lenS x) fun z=>y1_ T k k r x z (.int .i64 0) y:=runEq (by kernel_rfl)
def b2k:Res:=[(2,some (some 5))]
noncomputable def a2h:MFn:=⟨11,b2k,.seq [] (.region [tS 2 (.alloc [.int .i64 0,.int .i64 0,.int .i64 0,.int .i64 0,.nils])]) (.seq [5] (.seq [3,4] (.region [tM 3 0,tS 4 (.lenSl (tT 3)),tS 5 (.bin .eql .scalar (tT 4) (tK 0))]) (.cond (tT 5) (.seq [0,5,6] (.region [tS 6 (.build [.int .i64 0,.int .i64 0,.int .i64 0,.int .i64 0,.nils] [(0,1,(tK 1)),(1,1,(tK 1))]),tW 5 2 6]) .ret) .skip)) (.seq [0,7,8,9,10] (.region [tM 7 0,tS 8 (.idxSl 3 (tT 7) (tK 0)),tA 9 3 8,⟨some 10,.call d0_ [(tT 9)],none⟩,tW 5 2 10]) .ret))⟩
theorem b2l (T:Tab)(k:Nat)(a:AV)(h:Heap):runF T k a2h [a] h =
 ob (newVar h [.int .i64 0,.int .i64 0,.int .i64 0,.int .i64 0,.nils]) fun b c=>oa (lenS a) fun d=>oa (binV .eql .scalar d (.int .i64 0)) fun e=>cond2 e
 (
 oa (buildV [.int .i64 0,.int .i64 0,.int .i64 0,.int .i64 0,.nils] [(0,1,(.int .i64 1)),(1,1,(.int .i64 1))]) fun f=>oh (stN 5 c b f) fun g=>oa (ldN 5 g b) fun i=>some (i,g)
 )
 (
 oa (idxS 3 a (.int .i64 0)) fun l=>oa (ldN 3 c l) fun m=>ob (evalFn T k d0_ [m] c) fun n o=>oh (stN 5 o b n) fun p=>oa (ldN 5 p b) fun q=>some (q,p)
 ):=runEq (by kernel_rfl)
def a9a:Res:=[(2,some (some 2)),(3,none)]
noncomputable def y2_:MFn:=⟨41,a9a,.seq [3] (.region [tS 2 (.alloc [.nils,.nils]),tS 3 (.mv (tK 0))]) (.seq [0,5,11,12,13,14,15,16] (.region [tM 12 0,⟨some 13,.call m0_ [(tT 12)],none⟩,tM 11 13,tS 14 (.extract 0 (tT 11)),tS 15 (.extract 1 (tT 11)),tS 16 (.extract 2 (tT 11)),tS 4 (.alloc [.int .i64 0,.int .i64 0,.int .i64 0,.int .i64 0,.nils]),tW 5 4 14,tM 5 15,tM 6 16]) (.seq [6,18] (.seq [17] (.region [tM 17 6,tS 18 (.bin .neq .scalar (tT 17) (tK 0))]) (.cond (tT 18) (.seq [4,6,18,19,20] (.region [tS 19 (.build [.nils,.nils] []),tM 20 6,tW 2 2 19,tM 3 20]) .ret) .skip)) (.seq [4,21,22,23,24,25] (.region [tA 22 5 4,⟨some 23,.call m1_ [(tT 22)],none⟩,tM 21 23,tS 24 (.extract 0 (tT 21)),tS 25 (.extract 1 (tT 21)),tS 7 (.alloc [.int .i64 0,.int .i64 0,.int .i64 0,.nils,.nils]),tW 5 7 24,tM 8 25]) (.seq [8,27] (.seq [26] (.region [tM 26 8,tS 27 (.bin .neq .scalar (tT 26) (tK 0))]) (.cond (tT 27) (.seq [7,8,27,28,29] (.region [tS 28 (.build [.nils,.nils] []),tM 29 8,tW 2 2 28,tM 3 29]) .ret) .skip)) (.seq [7,30,31,32,33,34] (.region [tA 31 5 7,⟨some 32,.call j9_ [(tT 31),(tK 200)],none⟩,tM 30 32,tS 33 (.extract 0 (tT 30)),tS 34 (.extract 1 (tT 30)),tS 9 (.alloc [.nils,.nils]),tW 2 9 33,tM 10 34]) (.seq [10,36] (.seq [35] (.region [tM 35 10,tS 36 (.bin .neq .scalar (tT 35) (tK 0))]) (.cond (tT 36) (.seq [9,10,36,37,38] (.region [tS 37 (.build [.nils,.nils] []),tM 38 10,tW 2 2 37,tM 3 38]) .ret) .skip)) (.seq [9,39,40] (.region [tA 39 2 9,⟨some 40,.call i8_ [(tT 39)],none⟩,tW 2 2 40,tS 3 (.mv (tK 0))]) .ret)))))))⟩
theorem a9b (T:Tab)(k:Nat)(a:AV)(h:Heap):runF T k y2_ [a] h =
 ob (newVar h [.nils,.nils]) fun b c=>ob (evalFn T k m0_ [a] c) fun d e=>oa (extr 0 d) fun f=>oa (extr 1 d) fun g=>oa (extr 2 d) fun i=>ob (newVar e [.int .i64 0,.int .i64 0,.int .i64 0,.int .i64 0,.nils]) fun l m=>oh (stN 5 m l f) fun n=>oa (binV .neq .scalar i (.int .i64 0)) fun o=>cond2 o
 (
 oa (buildV [.nils,.nils] []) fun p=>oh (stN 2 n b p) fun q=>oa (ldN 2 q b) fun r=>some (.tup [r,i],q)
 )
 (
 oa (ldN 5 n l) fun s=>ob (evalFn T k m1_ [s] n) fun t u=>oa (extr 0 t) fun v=>oa (extr 1 t) fun w=>ob (newVar u [.int .i64 0,.int .i64 0,.int .i64 0,.nils,.nils]) fun x y=>oh (stN 5 y x v) fun z=>oa (binV .neq .scalar w (.int .i64 0)) fun aa=>cond2 aa
 (
 oa (buildV [.nils,.nils] []) fun ab=>oh (stN 2 z b ab) fun ac=>oa (ldN 2 ac b) fun ad=>some (.tup [ad,w],ac)
 )
 (
 oa (ldN 5 z x) fun ae=>ob (evalFn T k j9_ [ae,(.int .i64 200)] z) fun af ag=>oa (extr 0 af) fun ai=>oa (extr 1 af) fun al=>ob (newVar ag [.nils,.nils]) fun am an=>oh (stN 2 an am ai) fun ao=>oa (binV .neq .scalar al (.int .i64 0)) fun ap=>cond2 ap
 (
 oa (buildV [.nils,.nils] []) fun aq=>oh (stN 2 ao b aq) fun ar=>oa (ldN 2 ar b) fun as=>some (.tup [as,al],ar)
 )
 (
 oa (ldN 2 ao am) fun au=>ob (evalFn T k i8_ [au] ao) fun av aw=>oh (stN 2 aw b av) fun ax=>oa (ldN 2 ax b) fun ay=>some (.tup [ay,(.int .i64 0)],ax)
 )
 )
 ):=runEq (by kernel_rfl)
noncomputable def a4T:MCode:=.regionD 71 [dM 0 71 3,dF 1 72 0 1,dL 2 73 72,dF 3 74 4 1,dL 4 75 74,dM 5 76 4,tD 6 77 (.idxSl 5 (tT 75) (tT 76)),tD 7 78 (.load (some 5) (tT 77)),⟨8,⟨some 79,.call h1_ [(tT 73),(tT 78)],none⟩,[]⟩,tD 9 80 (.bin .add .scalar (tT 71) (tT 79)),dM 10 81 80] [(32,71),(33,72),(34,73),(35,74),(36,75),(37,76),(38,77),(39,78),(40,79),(41,80),(3,81)]
noncomputable def a1s:MCode:=.seq [20] (.seq [16,17,18,19] (.region [tM 16 4,tF 17 4 1,tL 18 17,tS 19 (.lenSl (tT 18)),tS 20 (.bin .lss .scalar (tT 16) (tT 19))]) (.cond (tT 20) .skip (.exit 1))) (.seq [32,33,34,35,36,37,38,39,40,41] (.block 2 (.seq [29,30,31] (.seq [23,24,25,26,27,28] (.region [tM 23 4,tS 24 (.bin .gtr .scalar (tT 23) (tK 0)),tM 25 24,⟨some 26,.op (.fieldAddr 0 (tT 1)),some (25,true)⟩,⟨some 27,.op (.load none (tT 26)),some (25,true)⟩,⟨some 28,.op (.bin .eql .scalar (tT 27) (tK 5)),some (25,true)⟩,tS 29 (.pick (tT 25) (tT 28) (.const (.bool false)))]) (.cond (tT 29) (.region [tM 30 3,tS 31 (.bin .add .scalar (tT 30) (.const (.str ⟨#[124]⟩))),tM 3 31]) .skip)) (.lab a4T))) (.region [tM 21 4,tS 22 (.bin .add .scalar (tT 21) (tK 1)),tM 4 22]))
noncomputable def v6_:MCode:=.seq [1,43,44,46,47,48,50,51,52,54,55,56,58,59,60,61,62,63,64,65,66,67,68,69] (.seq [42] (.region [tF 42 0 1,tL 43 42]) (.block 3 (.seq [45] (.region [tS 45 (.bin .eql .scalar (tT 43) (tK 6)),tM 44 45]) (.cond (tT 44) (.region [tM 46 3,tS 47 (.bin .add .scalar (tT 46) (.const (.str ⟨#[42]⟩))),tM 3 47]) (.seq [44,49] (.region [tS 49 (.bin .eql .scalar (tT 43) (tK 7)),tM 48 49]) (.cond (tT 48) (.region [tM 50 3,tS 51 (.bin .add .scalar (tT 50) (.const (.str ⟨#[43]⟩))),tM 3 51]) (.seq [48,53] (.region [tS 53 (.bin .eql .scalar (tT 43) (tK 8)),tM 52 53]) (.cond (tT 52) (.region [tM 54 3,tS 55 (.bin .add .scalar (tT 54) (.const (.str ⟨#[63]⟩))),tM 3 55]) (.seq [43,52,57] (.region [tS 57 (.bin .eql .scalar (tT 43) (tK 9)),tM 56 57]) (.cond (tT 56) (.region [tM 58 3,tF 59 2 1,tL 60 59,tS 61 (.bin .add .scalar (tK 48) (tT 60)),tS 62 (.convI .u8 (tT 61)),tF 63 3 1,tL 64 63,tS 65 (.bin .add .scalar (tK 48) (tT 64)),tS 66 (.convI .u8 (tT 65)),tS 67 (.buildSlice 1 5 [.int .u8 0,.int .u8 0,.int .u8 0,.int .u8 0,.int .u8 0] [(0,1,(.const (.int .u8 123))),(1,1,(tT 62)),(2,1,(.const (.int .u8 44))),(3,1,(tT 66)),(4,1,(.const (.int .u8 125)))]),tS 68 (.b2s (tT 67)),tS 69 (.bin .add .scalar (tT 58) (tT 68)),tM 3 69]) .skip)))))))))) (.seq [3,70] (.region [tM 70 3,tM 2 70]) .ret)
def v7_:Res:=[(2,none)]
noncomputable def a1t:MFn:=⟨71,v7_,.seq [0,2] (.region [tS 1 (.box (tT 0)),tS 2 (.mv (.const (.str ⟨#[]⟩)))]) (.seq [14] (.seq [5] (.region [tF 5 0 1,tL 6 5]) (.block 0 (.seq [8] (.region [tS 8 (.bin .eql .scalar (tT 6) (tK 1)),tM 7 8]) (.cond (tT 7) (.seq [1,6,7,9,10,11] (.region [tF 9 1 1,tL 10 9,⟨some 11,.call s5_ [(tT 10)],none⟩,tM 2 11]) .ret) (.seq [7,13] (.region [tS 13 (.bin .eql .scalar (tT 6) (tK 2)),tM 12 13]) (.cond (tT 12) (.seq [1,6,12] (.region [tS 2 (.mv (.const (.str ⟨#[48]⟩)))]) .ret) (.seq [6,12,15] (.region [tS 15 (.bin .eql .scalar (tT 6) (tK 3)),tM 14 15]) (.cond (tT 14) (.seq [1,14] (.region [tS 2 (.mv (.const (.str ⟨#[95]⟩)))]) .ret) .skip)))))))) (.seq [] (.region [tS 3 (.mv (.const (.str ⟨#[]⟩)))]) (.seq [4,20] (.seq [] (.region [tS 4 (.mv (tK 0))]) (.block 1 (.loop [21,22] a1s))) (.lab v6_))))⟩
noncomputable def m6_ (T:Tab)(k j0:Nat)(a b c:AV)(h:Heap):Option (AV × Heap):=
 loopB T k v7_ j0 [21,22] a1s [.blk 1,.seq [4,20] (.lab v6_)] [.u,a,.u,b,c,.u,.u,.u,.u,.u,.u,.u,.u,.u,.u,.u,.u,.u,.u,.u,.u,.u,.u,.u,.u,.u,.u,.u,.u,.u,.u,.u,.u,.u,.u,.u,.u,.u,.u,.u,.u,.u,.u,.u,.u,.u,.u,.u,.u,.u,.u,.u,.u,.u,.u,.u,.u,.u,.u,.u,.u,.u,.u,.u,.u,.u,.u,.u,.u,.u,.u] h
noncomputable def v8_ (T:Tab)(k j0:Nat)(a b c:AV)(h:Heap):Option (AV × Heap):=
 evB T k v7_ a4T [.blk 2,.seq [32,33,34,35,36,37,38,39,40,41] (.region [⟨some 21,.op (.mv (.tmp 4)),none⟩,
 ⟨some 22,.op (.bin .add .scalar (.tmp 21) (.const (.int .i64 1))),none⟩,
 ⟨some 4,.op (.mv (.tmp 22)),none⟩]),.lp j0 [21,22] a1s,.blk 1,.seq [4,20] (.lab v6_)] [.undef,a,.undef,b,c,.undef,.undef,.undef,.undef,.undef,.undef,.undef,.undef,.undef,.undef,.undef,.undef,.undef,.undef,.undef,.undef,.undef,.undef,.undef,.undef,.undef,.undef,.undef,.undef,.undef,.undef,.undef,.undef,.undef,.undef,.undef,.undef,.undef,.undef,.undef,.undef,.undef,.undef,.undef,.undef,.undef,.undef,.undef,.undef,.undef,.undef,.undef,.undef,.undef,.undef,.undef,.undef,.undef,.undef,.undef,.undef,.undef,.undef,.undef,.undef,.undef,.undef,.undef,.undef,.undef,.undef] h
noncomputable def a1u (T:Tab)(k:Nat)(a b:AV)(h:Heap):Option (AV × Heap):=
 evB T k v7_ v6_ [] [.u,a,.u,b,.u,.u,.u,.u,.u,.u,.u,.u,.u,.u,.u,.u,.u,.u,.u,.u,.u,.u,.u,.u,.u,.u,.u,.u,.u,.u,.u,.u,.u,.u,.u,.u,.u,.u,.u,.u,.u,.u,.u,.u,.u,.u,.u,.u,.u,.u,.u,.u,.u,.u,.u,.u,.u,.u,.u,.u,.u,.u,.u,.u,.u,.u,.u,.u,.u,.u,.u] h
theorem a9c (T:Tab)(k j0:Nat)(a b c:AV)(h:Heap):v8_ T k j0 a b c h =
 oa (fldA 0 a) fun d=>oa (ld1 h d) fun e=>oa (fldA 4 a) fun f=>oa (ld1 h f) fun g=>oa (idxS 5 g c) fun i=>oa (ldN 5 h i) fun l=>ob (evalFn T k h1_ [e,l] h) fun m n=>oa (binV .add .scalar b m) fun o=>oa (binV .add .scalar c (.int .i64 1)) fun p=>m6_ T k j0 a o p n:=blockEq (by kernel_rfl)
theorem a9d (T:Tab)(k:Nat)(a b:AV)(h:Heap):a1u T k a b h =
 oa (fldA 0 a) fun c=>oa (ld1 h c) fun d=>oa (binV .eql .scalar d (.int .i64 6)) fun e=>cond2 e
 (
 oa (binV .add .scalar b (.str ⟨#[42]⟩)) fun f=>some (f,h)
 )
 (
 oa (binV .eql .scalar d (.int .i64 7)) fun g=>cond2 g
 (
 oa (binV .add .scalar b (.str ⟨#[43]⟩)) fun i=>some (i,h)
 )
 (
 oa (binV .eql .scalar d (.int .i64 8)) fun l=>cond2 l
 (
 oa (binV .add .scalar b (.str ⟨#[63]⟩)) fun m=>some (m,h)
 )
 (
 oa (binV .eql .scalar d (.int .i64 9)) fun n=>cond2 n
 (
 oa (fldA 2 a) fun o=>oa (ld1 h o) fun p=>oa (binV .add .scalar (.int .i64 48) p) fun q=>oa (convV .u8 q) fun r=>oa (fldA 3 a) fun s=>oa (ld1 h s) fun t=>oa (binV .add .scalar (.int .i64 48) t) fun u=>oa (convV .u8 u) fun v=>ob (buildSl 1 5 [.int .u8 0,.int .u8 0,.int .u8 0,.int .u8 0,.int .u8 0] [(0,1,(.int .u8 123)),(1,1,r),(2,1,(.int .u8 44)),(3,1,v),(4,1,(.int .u8 125))] h) fun w x=>oa (b2sV x w) fun y=>oa (binV .add .scalar b y) fun z=>some (z,x)
 )
 (
 some (b,h)
 )
 )
 )
 ):=blockEq (by kernel_rfl)
theorem a3j (T:Tab)(k j0:Nat)(a b c:AV)(h:Heap):m6_ T k (j0+1) a b c h =
 oa (fldA 4 a) fun d=>oa (ld1 h d) fun e=>oa (lenS e) fun f=>oa (binV .lss .scalar c f) fun g=>cond2 g
 (
 oa (binV .gtr .scalar c (.int .i64 0)) fun i=>ob (gd i true (pure1 h (fldA 0 a)) h) fun l m=>ob (gd i true (pure1 m (ld1 m l)) m) fun n o=>ob (gd i true (pure1 o (binV .eql .scalar n (.int .i64 5))) o) fun p q=>oa (pickV i p (.bool false)) fun r=>cond2 r
 (
 oa (binV .add .scalar b (.str ⟨#[124]⟩)) fun s=>v8_ T k j0 a s c q
 )
 (
 v8_ T k j0 a b c q
 )
 )
 (
 a1u T k a b h
 ):=loopEq (by kernel_rfl)
theorem b1t (T:Tab)(k:Nat)(a:AV)(h:Heap):runF T k a1t [a] h =
 ob (newVar h (AV.cells a)) fun b c=>oa (fldA 0 b) fun d=>oa (ld1 c d) fun e=>oa (binV .eql .scalar e (.int .i64 1)) fun f=>cond2 f
 (
 oa (fldA 1 b) fun g=>oa (ld1 c g) fun i=>ob (evalFn T k s5_ [i] c) fun l m=>some (l,m)
 )
 (
 oa (binV .eql .scalar e (.int .i64 2)) fun n=>cond2 n
 (
 some ((.str ⟨#[48]⟩),c)
 )
 (
 oa (binV .eql .scalar e (.int .i64 3)) fun o=>cond2 o
 (
 some ((.str ⟨#[95]⟩),c)
 )
 (
 m6_ T k k b (.str ⟨#[]⟩) (.int .i64 0) c
 )
 )
 ):=runEq (by kernel_rfl)
def b4o:Res:=[(8,some (some 2)),(9,none)]
noncomputable def a4z:MFn:=⟨38,b4o,.seq [0,1,9] (.region [tS 4 (.box (tT 0)),tS 5 (.box (tT 1)),tS 8 (.alloc [.int .i64 0,.nils]),tS 9 (.mv (.const (.bool false)))]) (.seq [2,4,5,12,13,14,15,16,17,18] (.region [tA 12 2 4,tA 13 2 5,⟨some 14,.call t2_ [(tT 12),(tT 13)],none⟩,tM 15 2,tS 16 (.build [.int .i64 0,.int .i64 0] [(0,1,(tT 15)),(1,1,(tK 0))]),tS 17 (.buildSlice 2 1 [.int .i64 0,.int .i64 0] [(0,2,(tT 16))]),⟨some 18,.call f1_ [(tT 14),(.const (.fn g0_ [] [])),(tT 17)],none⟩,tM 10 18]) (.seq [19,20] (.region [tM 19 10,⟨some 20,.call d9_ [(tT 19)],none⟩]) (.seq [3,21,22,23] (.region [tM 21 10,tM 22 3,⟨some 23,.call f2_ [(tT 21),(tT 22)],none⟩,tM 11 23]) (.seq [25] (.seq [24] (.region [tM 24 11,tS 25 (.bin .lss .scalar (tT 24) (tK 0))]) (.cond (tT 25) (.seq [10,11,25,26] (.region [tS 26 (.build [.int .i64 0,.nils] []),tW 2 8 26,tS 9 (.mv (.const (.bool false)))]) .ret) .skip)) (.seq [10,11,27,28,29,30,31,32,33,34,35,36,37] (.regionD 38 [dM 0 38 10,tD 1 39 (.nilCheck (tT 38)),dF 2 40 3 39,dL 3 41 40,dM 4 42 11,tD 5 43 (.idxSl 1 (tT 41) (tT 42)),dL 6 44 43,dM 7 45 10,dM 8 46 11,⟨9,⟨some 47,.call k6_ [(tT 45),(tT 46)],none⟩,[(41,tL 41 40),(44,tL 44 43)]⟩,tD 10 48 (.build [.int .i64 0,.nils] [(0,1,(tT 44)),(1,1,(tT 47))]),tD 11 49 (.store 2 (tT 8) (tT 48)),tD 12 50 (.mv (.const (.bool true)))] [(27,38),(28,39),(29,40),(30,41),(31,42),(32,43),(33,44),(34,45),(35,46),(36,47),(37,48),(9,50)]) .ret)))))⟩
theorem b4p (T:Tab)(k:Nat)(a b c d:AV)(h:Heap):runF T k a4z [a,b,c,d] h =
 ob (newVar h (AV.cells a)) fun e f=>ob (newVar f (AV.cells b)) fun g i=>ob (newVar i [.int .i64 0,.nils]) fun l m=>oa (ldN 2 m e) fun n=>oa (ldN 2 m g) fun o=>ob (evalFn T k t2_ [n,o] m) fun p q=>oa (buildV [.int .i64 0,.int .i64 0] [(0,1,c),(1,1,(.int .i64 0))]) fun r=>ob (buildSl 2 1 [.int .i64 0,.int .i64 0] [(0,2,r)] q) fun s t=>ob (evalFn T k f1_ [p,(.fn g0_ [] []),s] t) fun u v=>ob (evalFn T k d9_ [u] v) fun w x=>ob (evalFn T k f2_ [u,d] x) fun y z=>oa (binV .lss .scalar y (.int .i64 0)) fun aa=>cond2 aa
 (
 oa (buildV [.int .i64 0,.nils] []) fun ab=>oh (stN 2 z l ab) fun ac=>oa (ldN 2 ac l) fun ad=>some (.tup [ad,(.bool false)],ac)
 )
 (
 oa (nilCk u) fun ae=>oa (fldA 3 ae) fun af=>oa (ld1 z af) fun ag=>oa (idxS 1 ag y) fun ai=>oa (ld1 z ai) fun al=>ob (evalFn T k k6_ [u,y] z) fun am an=>chk ((sameB (pure1 an (ld1 an af)) ag && (sameB (pure1 an (ld1 an ai)) al && true))) <|oa (buildV [.int .i64 0,.nils] [(0,1,al),(1,1,am)]) fun ao=>oh (stN 2 an l ao) fun ap=>oa (ldN 2 ap l) fun aq=>some (.tup [aq,(.bool true)],ap)
 ):=runEq (by kernel_rfl)
noncomputable def a4U:MCode:=.seq [16] (.seq [9,10,11,12,13,14,15] (.region [tM 9 6,tM 10 0,tS 11 (.lenSl (tT 10)),tS 12 (.bin .lss .scalar (tT 9) (tT 11)),tM 13 12,⟨some 14,.op (.mv (tT 5)),some (13,true)⟩,⟨some 15,.op (.bin .leq .scalar (tT 14) (tK 14)),some (13,true)⟩,tS 16 (.pick (tT 13) (tT 15) (.const (.bool false)))]) (.cond (tT 16) .skip (.exit 0))) (.seq [19,20,21,22,23,24,25,26,27,28,29] (.block 1 (.region [tM 19 5,tS 20 (.bin .add .scalar (tT 19) (tK 1)),tM 21 0,tM 22 6,tX 23 3 21 22,tF 24 2 23,tL 25 24,tM 26 1,tS 27 (.bin .add .scalar (tT 26) (tK 1)),⟨some 28,.call g4_ [(tT 25),(tT 27)],none⟩,tS 29 (.bin .add .scalar (tT 20) (tT 28)),tM 5 29])) (.region [tM 17 6,tS 18 (.bin .add .scalar (tT 17) (tK 1)),tM 6 18]))
def a4V:Res:=[(4,none)]
noncomputable def a1v:MFn:=⟨31,a4V,.seq [4] (.region [tS 4 (.mv (tK 0))]) (.seq [8] (.seq [7] (.region [tM 7 1,tS 8 (.bin .gtr .scalar (tT 7) (tK 6))]) (.cond (tT 8) (.seq [0,1,8] (.region [tS 4 (.mv (tK 1000))]) .ret) .skip)) (.seq [] (.region [tS 5 (.mv (tK 0))]) (.seq [0,1,6,16] (.seq [] (.region [tS 6 (.mv (tK 0))]) (.block 0 (.loop [17,18] a4U))) (.seq [5,30] (.region [tM 30 5,tM 4 30]) .ret))))⟩
noncomputable def v9_ (T:Tab)(k j0:Nat)(a b c d:AV)(h:Heap):Option (AV × Heap):=
 loopB T k a4V j0 [17,18] a4U [.blk 0,.seq [0,1,6,16] (.seq [5,30] (.region [⟨some 30,.op (.mv (.tmp 5)),none⟩,
 ⟨some 4,.op (.mv (.tmp 30)),none⟩]) .ret)] [a,b,.undef,.undef,.undef,c,d,.undef,.undef,.undef,.undef,.undef,.undef,.undef,.undef,.undef,.undef,.undef,.undef,.undef,.undef,.undef,.undef,.undef,.undef,.undef,.undef,.undef,.undef,.undef,.undef] h
theorem a3k (T:Tab)(k j0:Nat)(a b c d:AV)(h:Heap):v9_ T k (j0+1) a b c d h =
 oa (lenS a) fun e=>oa (binV .lss .scalar d e) fun f=>ob (gd f true (some (c,h)) h) fun g i=>ob (gd f true (pure1 i (binV .leq .scalar g (.int .i64 14))) i) fun l m=>oa (pickV f l (.bool false)) fun n=>cond2 n
 (
 oa (binV .add .scalar c (.int .i64 1)) fun o=>oa (idxS 3 a d) fun p=>oa (fldA 2 p) fun q=>oa (ld1 m q) fun r=>oa (binV .add .scalar b (.int .i64 1)) fun s=>ob (evalFn T k g4_ [r,s] m) fun t u=>oa (binV .add .scalar o t) fun v=>oa (binV .add .scalar d (.int .i64 1)) fun w=>v9_ T k j0 a b v w u
 )
 (
 some (c,m)
 ):=loopEq (by kernel_rfl)
theorem a4W (T:Tab)(k:Nat)(a b:AV)(h:Heap):runF T k a1v [a,b] h =
 oa (binV .gtr .scalar b (.int .i64 6)) fun c=>cond2 c
 (
 some ((.int .i64 1000),h)
 )
 (
 v9_ T k k a b (.int .i64 0) (.int .i64 0) h
 ):=runEq (by kernel_rfl)
def a9J:Res:=[(4,none)]
noncomputable def a0f:MFn:=⟨15,a9J,.seq [4] (.region [tS 4 (.mv (tK 0))]) (.seq [0,6,7,8] (.region [tM 6 0,tM 7 1,tS 8 (.bin .rem .scalar (tT 6) (tT 7)),tM 5 8]) (.seq [1,10,11,12,13] (.seq [9] (.region [tM 9 5,tS 10 (.bin .lss .scalar (tT 9) (tK 0))]) (.cond (tT 10) (.region [tM 11 5,tM 12 1,tS 13 (.bin .add .scalar (tT 11) (tT 12)),tM 5 13]) .skip)) (.seq [5,14] (.region [tM 14 5,tM 4 14]) .ret)))⟩
theorem a9K (T:Tab)(k:Nat)(a b:AV)(h:Heap):runF T k a0f [a,b] h =
 oa (binV .rem .scalar a b) fun c=>oa (binV .lss .scalar c (.int .i64 0)) fun d=>cond2 d
 (
 oa (binV .add .scalar c b) fun e=>some (e,h)
 )
 (
 some (c,h)
 ):=runEq (by kernel_rfl)
noncomputable def b0w:MCode:=.seq [] (.region [tS 30 (.bin .lss .scalar (tT 29) (tK 5))]) (.seq [30] (.cond (tT 30) .skip (.exit 2)) (.seq [8,9,33,34,35,36,37,38,39,40,41,42,43,44,45,46,47,48,49,50,51,52] (.block 3 (.seq [31,32] (.region [tM 31 29,tS 32 (.ixArr 5 1 none (tT 28) (tT 29)),tM 8 31,tM 9 32]) (.regionD 56 [dM 0 56 5,tD 1 57 (.nilCheck (tT 56)),dF 2 58 5 57,dL 3 59 58,dM 4 60 9,dM 5 61 8,dM 6 62 5,tD 7 63 (.nilCheck (tT 62)),dF 8 64 5 63,dL 9 65 64,dM 10 66 9,dM 11 67 8,tD 12 68 (.idxSl 5 (tT 65) (tT 66)),tD 13 69 (.idxArr 5 1 (tT 68) (tT 67)),dL 14 70 69,dM 15 71 6,tD 16 72 (.buildSlice 1 1 [.int .i64 0] [(0,1,(tT 71))]),tD 18 74 (.idxSl 5 (tT 59) (tT 60)),⟨17,tS 73 (.append 1 8 (tT 70) (tT 72)),[(59,tL 59 58)]⟩,tD 19 75 (.idxArr 5 1 (tT 74) (tT 61)),tD 20 76 (.store 1 (tT 75) (tT 73))] [(33,56),(34,57),(35,58),(36,59),(37,60),(38,61),(39,62),(40,63),(41,64),(42,65),(43,66),(44,67),(45,68),(46,69),(47,70),(48,71),(49,72),(50,73),(51,74),(52,75)]))) (.region [tS 53 (.bin .add .scalar (tT 29) (tK 1)),tM 29 53])))
noncomputable def a5N:MCode:=.seq [] (.region [tS 24 (.bin .lss .scalar (tT 23) (tT 22))]) (.seq [24] (.cond (tT 24) .skip (.exit 0)) (.seq [6,28,29,30] (.block 1 (.seq [25,26,27] (.region [tM 25 23,tX 26 5 21 23,tA 27 5 26,tS 7 (.alloc [.int .i64 0,.int .i64 0,.int .i64 0,.int .i64 0,.int .i64 0]),tM 6 25,tW 5 7 27]) (.seq [7] (.region [tA 28 5 7,tS 29 (.mv (tK 0))]) (.block 2 (.loop [53] b0w))))) (.region [tS 54 (.bin .add .scalar (tT 23) (tK 1)),tM 23 54])))
def a5O:Res:=[(4,none)]
noncomputable def a5P:MFn:=⟨56,a5O,.seq [0,1,4] (.region [tS 2 (.box (tT 0)),tS 3 (.box (tT 1)),tS 4 (.mv (.const .nilp))]) (.seq [2,10,11,12,13,14,15,16,17,18,19] (.regionD 56 [tD 0 56 (.load (some 2) (tT 2)),tD 1 57 (.load (some 2) (tT 2)),tD 3 59 (.load (some 2) (tT 3)),dF 4 60 0 3,dL 5 61 60,tD 6 62 (.lenSl (tT 61)),tD 7 63 (.mkSlice [.nils,.nils,.nils,.nils,.nils] 5 120 (tT 62) (tT 62)),⟨2,⟨some 58,.call a7v [(tT 57)],none⟩,[(56,tA 56 2 2),(59,tA 59 2 3),(61,tL 61 60)]⟩,tD 8 64 (.build [.int .i64 0,.nils,.nilp,.nils,.nils,.nils] [(0,2,(tT 56)),(2,1,(tT 58)),(3,2,(tT 59)),(5,1,(tT 63))]),tD 9 65 (.box (tT 64)),dM 10 66 65] [(10,56),(11,57),(12,58),(13,59),(14,60),(15,61),(16,62),(17,63),(18,64),(19,65),(5,66)]) (.seq [21,22,23,24] (.seq [3,20] (.region [tF 20 0 3,tL 21 20,tS 22 (.lenSl (tT 21)),tS 23 (.mv (tK 0))]) (.block 0 (.loop [54] a5N))) (.seq [5,55] (.region [tM 55 5,tM 4 55]) .ret)))⟩
noncomputable def a0y (T:Tab)(k j0:Nat)(a b c d:AV)(h:Heap):Option (AV × Heap):=
 loopB T k a5O j0 [54] a5N [.blk 0,.seq [21,22,23,24] (.seq [5,55] (.region [⟨some 55,.op (.mv (.tmp 5)),none⟩,
 ⟨some 4,.op (.mv (.tmp 55)),none⟩]) .ret)] [.undef,.undef,.undef,.undef,.undef,a,.undef,.undef,.undef,.undef,.undef,.undef,.undef,.undef,.undef,.undef,.undef,.undef,.undef,.undef,.undef,b,c,d,.undef,.undef,.undef,.undef,.undef,.undef,.undef,.undef,.undef,.undef,.undef,.undef,.undef,.undef,.undef,.undef,.undef,.undef,.undef,.undef,.undef,.undef,.undef,.undef,.undef,.undef,.undef,.undef,.undef,.undef,.undef,.undef] h
noncomputable def a2I (T:Tab)(k j0 j1:Nat)(a b c d e f g:AV)(h:Heap):Option (AV × Heap):=
 loopB T k a5O j1 [53] b0w [.blk 2,.blk 1,.seq [6,28,29,30] (.region [⟨some 54,.op (.bin .add .scalar (.tmp 23) (.const (.int .i64 1))),none⟩,
 ⟨some 23,.op (.mv (.tmp 54)),none⟩]),.lp j0 [54] a5N,.blk 0,.seq [21,22,23,24] (.seq [5,55] (.region [⟨some 55,.op (.mv (.tmp 5)),none⟩,
 ⟨some 4,.op (.mv (.tmp 55)),none⟩]) .ret)] [.undef,.undef,.undef,.undef,.undef,a,b,.undef,.undef,.undef,.undef,.undef,.undef,.undef,.undef,.undef,.undef,.undef,.undef,.undef,.undef,c,d,e,.undef,.undef,.undef,.undef,f,g,.undef,.undef,.undef,.undef,.undef,.undef,.undef,.undef,.undef,.undef,.undef,.undef,.undef,.undef,.undef,.undef,.undef,.undef,.undef,.undef,.undef,.undef,.undef,.undef,.undef,.undef] h
theorem a7w (T:Tab)(k j0 j1:Nat)(a b c d e f g:AV)(h:Heap):a2I T k j0 (j1+1) a b c d e f g h =
 oa (binV .lss .scalar g (.int .i64 5)) fun i=>cond2 i
 (
 oa (ixA 5 1 none f g) fun l=>oa (nilCk a) fun m=>oa (fldA 5 m) fun n=>oa (ld1 h n) fun o=>oa (nilCk a) fun p=>oa (fldA 5 p) fun q=>oa (ld1 h q) fun r=>oa (idxS 5 r l) fun s=>oa (idxA 5 1 s g) fun t=>oa (ld1 h t) fun u=>ob (buildSl 1 1 [.int .i64 0] [(0,1,b)] h) fun v w=>oa (idxS 5 o l) fun x=>ob (apnd 1 8 u v w) fun y z=>chk ((sameB (pure1 z (ld1 z n)) o && true)) <|oa (idxA 5 1 x g) fun aa=>oh (stN 1 z aa y) fun ab=>oa (binV .add .scalar g (.int .i64 1)) fun ac=>a2I T k j0 j1 a b c d e f ac ab
 )
 (
 oa (binV .add .scalar e (.int .i64 1)) fun ad=>a0y T k j0 a c d ad h
 ):=loopEq (by kernel_rfl)
theorem a7x (T:Tab)(k j0:Nat)(a b c d:AV)(h:Heap):a0y T k (j0+1) a b c d h =
 oa (binV .lss .scalar d c) fun e=>cond2 e
 (
 oa (idxS 5 b d) fun f=>oa (ldN 5 h f) fun g=>ob (newVar h [.int .i64 0,.int .i64 0,.int .i64 0,.int .i64 0,.int .i64 0]) fun i l=>oh (stN 5 l i g) fun m=>oa (ldN 5 m i) fun n=>a2I T k j0 k a d b c d n (.int .i64 0) m
 )
 (
 some (a,h)
 ):=loopEq (by kernel_rfl)
theorem b4R (T:Tab)(k:Nat)(a b:AV)(h:Heap):runF T k a5P [a,b] h =
 ob (newVar h (AV.cells a)) fun c d=>ob (newVar d (AV.cells b)) fun e f=>oa (ldN 2 f c) fun g=>oa (ldN 2 f c) fun i=>oa (ldN 2 f e) fun l=>oa (fldA 0 e) fun m=>oa (ld1 f m) fun n=>oa (lenS n) fun o=>ob (mkSl [.nils,.nils,.nils,.nils,.nils] 5 120 o o f) fun p q=>ob (evalFn T k a7v [i] q) fun r s=>chk ((sameB (pure1 s (ldN 2 s c)) g && (sameB (pure1 s (ldN 2 s e)) l && (sameB (pure1 s (ld1 s m)) n && true)))) <|oa (buildV [.int .i64 0,.nils,.nilp,.nils,.nils,.nils] [(0,2,g),(2,1,r),(3,2,l),(5,1,p)]) fun t=>ob (newVar s (AV.cells t)) fun u v=>oa (fldA 0 e) fun w=>oa (ld1 v w) fun x=>oa (lenS x) fun y=>a0y T k k u x y (.int .i64 0) v:=runEq (by kernel_rfl)
noncomputable def a3Y:MCode:=.seq [] (.region [tS 43 (.bin .lss .scalar (tT 42) (tT 41))]) (.seq [43] (.cond (tT 43) .skip (.exit 0)) (.seq [9,45,46,47,48,49,50,51,52,53,54,55,56,57,58,59,60,61,62] (.block 1 (.seq [44] (.region [tM 44 42,tM 9 44]) (.regionD 80 [dM 0 80 8,tD 1 81 (.nilCheck (tT 80)),dF 2 82 3 81,dL 3 83 82,dM 4 84 9,dM 5 85 8,tD 6 86 (.nilCheck (tT 85)),dF 7 87 4 86,dL 8 88 87,dM 9 89 9,dM 10 90 8,tD 11 91 (.nilCheck (tT 90)),dF 12 92 5 91,dL 13 93 92,dM 14 94 9,tD 15 95 (.idxSl 1 (tT 83) (tT 84)),tD 16 96 (.store 1 (tT 95) (tK (-1))),tD 17 97 (.idxSl 1 (tT 88) (tT 89)),tD 18 98 (.store 1 (tT 97) (tK (-1))),tD 19 99 (.idxSl 1 (tT 93) (tT 94)),tD 20 100 (.store 1 (tT 99) (tK (-1)))] [(45,80),(46,81),(47,82),(48,83),(49,84),(50,85),(51,86),(52,87),(53,88),(54,89),(55,90),(56,91),(57,92),(58,93),(59,94),(60,95),(61,97),(62,99)]))) (.region [tS 63 (.bin .add .scalar (tT 42) (tK 1)),tM 42 63])))
noncomputable def a3Z:MCode:=.seq [] (.region [tS 67 (.bin .lss .scalar (tT 66) (tT 65))]) (.seq [67] (.cond (tT 67) .skip (.exit 2)) (.seq [11,70,71,72,73,74,75,76,77] (.block 3 (.seq [68,69] (.region [tX 68 2 64 66,tA 69 2 68,tS 11 (.alloc [.int .i64 0,.int .i64 0]),tW 2 11 69]) (.regionD 80 [dM 0 80 8,tD 1 81 (.nilCheck (tT 80)),dF 2 82 2 81,dL 3 83 82,dM 4 84 0,tD 5 85 (.load (some 2) (tT 11)),⟨6,⟨some 86,.call e0_ [(tT 84),(tT 85)],none⟩,[(83,tL 83 82)]⟩,⟨7,⟨some 87,.call g8_ [(tT 83),(tT 86),(tK 0)],none⟩,[]⟩] [(70,80),(71,81),(72,82),(73,83),(74,84),(75,85),(76,86),(77,87)]))) (.region [tS 78 (.bin .add .scalar (tT 66) (tK 1)),tM 66 78])))
noncomputable def a0E:MCode:=.seq [0,64,65,66,67] (.seq [2] (.region [tM 64 2,tS 65 (.lenSl (tT 64)),tS 66 (.mv (tK 0))]) (.block 2 (.loop [78] a3Z))) (.seq [8,79] (.region [tM 79 8,tM 6 79]) .ret)
def u4_:Res:=[(6,none)]
noncomputable def a0F:MFn:=⟨80,u4_,.seq [6] (.region [tS 6 (.mv (.const .nilp))]) (.seq [12,13,14,15,16,17,18,19,20,21,22,23,24] (.regionD 80 [dM 0 80 0,tD 1 81 (.nilCheck (tT 80)),dF 2 82 0 81,dF 3 83 0 82,dL 4 84 83,tD 5 85 (.mm true (tT 84) (tK 0)),dM 6 86 0,tD 7 87 (.nilCheck (tT 86)),dF 8 88 3 87,dF 9 89 0 88,dL 10 90 89,tD 11 91 (.lenSl (tT 90)),tD 12 92 (.bin .mul .scalar (tT 85) (tT 91)),dM 13 93 92] [(12,80),(13,81),(14,82),(15,83),(16,84),(17,85),(18,86),(19,87),(20,88),(21,89),(22,90),(23,91),(24,92),(7,93)]) (.seq [1,7,25,26,27,28,29,30,31,32,33,34,35,36] (.regionD 80 [dM 0 80 0,dM 1 81 1,dM 2 82 7,dM 4 84 7,tD 5 85 (.mkSlice [.int .i64 0] 1 8 (tT 84) (tT 84)),dM 6 86 7,tD 7 87 (.mkSlice [.int .i64 0] 1 8 (tT 86) (tT 86)),dM 8 88 7,tD 9 89 (.mkSlice [.int .i64 0] 1 8 (tT 88) (tT 88)),⟨3,⟨some 83,.call a3X [(tT 82)],none⟩,[]⟩,tD 10 90 (.build [.nilp,.nilfn,.nilp,.nils,.nils,.nils,.int .i64 0] [(0,1,(tT 80)),(1,1,(tT 81)),(2,1,(tT 83)),(3,1,(tT 85)),(4,1,(tT 87)),(5,1,(tT 89))]),tD 11 91 (.box (tT 90)),dM 12 92 91] [(25,80),(26,81),(27,82),(28,83),(29,84),(30,85),(31,86),(32,87),(33,88),(34,89),(35,90),(36,91),(8,92)]) (.seq [41,42,43] (.seq [37,38,39,40] (.region [tM 37 8,tN 38 37,tF 39 3 38,tL 40 39,tS 41 (.lenSl (tT 40)),tS 42 (.mv (tK 0))]) (.block 0 (.loop [63] a3Y))) (.lab a0E))))⟩
noncomputable def u5_ (T:Tab)(k j0:Nat)(a b c d e:AV)(h:Heap):Option (AV × Heap):=
 loopB T k u4_ j0 [63] a3Y [.blk 0,.seq [41,42,43] (.lab a0E)] [a,.u,b,.u,.u,.u,.u,.u,c,.u,.u,.u,.u,.u,.u,.u,.u,.u,.u,.u,.u,.u,.u,.u,.u,.u,.u,.u,.u,.u,.u,.u,.u,.u,.u,.u,.u,.u,.u,.u,.u,d,e,.u,.u,.u,.u,.u,.u,.u,.u,.u,.u,.u,.u,.u,.u,.u,.u,.u,.u,.u,.u,.u,.u,.u,.u,.u,.u,.u,.u,.u,.u,.u,.u,.u,.u,.u,.u,.u] h
noncomputable def a0G (T:Tab)(k:Nat)(a b c:AV)(h:Heap):Option (AV × Heap):=
 evB T k u4_ a0E [] [a,.u,b,.u,.u,.u,.u,.u,c,.u,.u,.u,.u,.u,.u,.u,.u,.u,.u,.u,.u,.u,.u,.u,.u,.u,.u,.u,.u,.u,.u,.u,.u,.u,.u,.u,.u,.u,.u,.u,.u,.u,.u,.u,.u,.u,.u,.u,.u,.u,.u,.u,.u,.u,.u,.u,.u,.u,.u,.u,.u,.u,.u,.u,.u,.u,.u,.u,.u,.u,.u,.u,.u,.u,.u,.u,.u,.u,.u,.u] h
noncomputable def u6_ (T:Tab)(k j0:Nat)(a b c d e:AV)(h:Heap):Option (AV × Heap):=
 loopB T k u4_ j0 [78] a3Z [.blk 2,.seq [0,64,65,66,67] (.seq [8,79] (.region [⟨some 79,.op (.mv (.tmp 8)),none⟩,
 ⟨some 6,.op (.mv (.tmp 79)),none⟩]) .ret)] [a,.undef,.undef,.undef,.undef,.undef,.undef,.undef,b,.undef,.undef,.undef,.undef,.undef,.undef,.undef,.undef,.undef,.undef,.undef,.undef,.undef,.undef,.undef,.undef,.undef,.undef,.undef,.undef,.undef,.undef,.undef,.undef,.undef,.undef,.undef,.undef,.undef,.undef,.undef,.undef,.undef,.undef,.undef,.undef,.undef,.undef,.undef,.undef,.undef,.undef,.undef,.undef,.undef,.undef,.undef,.undef,.undef,.undef,.undef,.undef,.undef,.undef,.undef,c,d,e,.undef,.undef,.undef,.undef,.undef,.undef,.undef,.undef,.undef,.undef,.undef,.undef,.undef] h
theorem a2J (T:Tab)(k j0:Nat)(a b c d e:AV)(h:Heap):u6_ T k (j0+1) a b c d e h =
 oa (binV .lss .scalar e d) fun f=>cond2 f
 (
 oa (idxS 2 c e) fun g=>oa (ldN 2 h g) fun i=>ob (newVar h [.int .i64 0,.int .i64 0]) fun l m=>oh (stN 2 m l i) fun n=>oa (nilCk b) fun o=>oa (fldA 2 o) fun p=>oa (ld1 n p) fun q=>oa (ldN 2 n l) fun r=>ob (evalFn T k e0_ [a,r] n) fun s t=>chk ((sameB (pure1 t (ld1 t p)) q && true)) <|ob (evalFn T k g8_ [q,s,(.int .i64 0)] t) fun u v=>oa (binV .add .scalar e (.int .i64 1)) fun w=>u6_ T k j0 a b c d w v
 )
 (
 some (b,h)
 ):=loopEq (by kernel_rfl)
theorem a8s (T:Tab)(k:Nat)(a b c:AV)(h:Heap):a0G T k a b c h =
 oa (lenS b) fun d=>u6_ T k k a c b d (.int .i64 0) h:=blockEq (by kernel_rfl)
theorem a2K (T:Tab)(k j0:Nat)(a b c d e:AV)(h:Heap):u5_ T k (j0+1) a b c d e h =
 oa (binV .lss .scalar e d) fun f=>cond2 f
 (
 oa (nilCk c) fun g=>oa (fldA 3 g) fun i=>oa (ld1 h i) fun l=>oa (nilCk c) fun m=>oa (fldA 4 m) fun n=>oa (ld1 h n) fun o=>oa (nilCk c) fun p=>oa (fldA 5 p) fun q=>oa (ld1 h q) fun r=>oa (idxS 1 l e) fun s=>oh (stN 1 h s (.int .i64 (-1))) fun t=>oa (idxS 1 o e) fun u=>oh (stN 1 t u (.int .i64 (-1))) fun v=>oa (idxS 1 r e) fun w=>oh (stN 1 v w (.int .i64 (-1))) fun x=>oa (binV .add .scalar e (.int .i64 1)) fun y=>u5_ T k j0 a b c d y x
 )
 (
 a0G T k a b c h
 ):=loopEq (by kernel_rfl)
theorem b0H (T:Tab)(k:Nat)(a b c:AV)(h:Heap):runF T k a0F [a,b,c] h =
 oa (nilCk a) fun d=>oa (fldA 0 d) fun e=>oa (fldA 0 e) fun f=>oa (ld1 h f) fun g=>oa (mmV true g (.int .i64 0)) fun i=>oa (nilCk a) fun l=>oa (fldA 3 l) fun m=>oa (fldA 0 m) fun n=>oa (ld1 h n) fun o=>oa (lenS o) fun p=>oa (binV .mul .scalar i p) fun q=>ob (mkSl [.int .i64 0] 1 8 q q h) fun r s=>ob (mkSl [.int .i64 0] 1 8 q q s) fun t u=>ob (mkSl [.int .i64 0] 1 8 q q u) fun v w=>ob (evalFn T k a3X [q] w) fun x y=>oa (buildV [.nilp,.nilfn,.nilp,.nils,.nils,.nils,.int .i64 0] [(0,1,a),(1,1,b),(2,1,x),(3,1,r),(4,1,t),(5,1,v)]) fun z=>ob (newVar y (AV.cells z)) fun aa ab=>oa (nilCk aa) fun ac=>oa (fldA 3 ac) fun ad=>oa (ld1 ab ad) fun ae=>oa (lenS ae) fun af=>u5_ T k k a c aa af (.int .i64 0) ab:=runEq (by kernel_rfl)
noncomputable def a6R:MCode:=.seq [] (.region [tS 18 (.bin .lss .scalar (tT 17) (tT 16))]) (.seq [18] (.cond (tT 18) .skip (.exit 0)) (.seq [7,8,29,30,31,32,33,34,35,36,37,38,39,40,41,42,43,44,45,46,47,48] (.block 1 (.seq [19,20] (.region [tX 19 1 15 17,tL 20 19,tM 7 20]) (.seq [21,22,23,24,25,26,27,28] (.region [tM 21 0,tN 22 21,tF 23 0 22,tF 24 1 23,tL 25 24,tM 26 7,tX 27 4 25 26,tA 28 4 27,tS 8 (.alloc [.int .i64 0,.int .i64 0,.int .i64 0,.int .i64 0]),tW 4 8 28]) (.regionD 51 [dM 0 51 5,dF 1 52 1 8,dL 2 53 52,dM 3 54 0,tD 4 55 (.nilCheck (tT 54)),dF 5 56 3 55,dF 6 57 0 56,dL 7 58 57,dF 8 59 1 3,dL 9 60 59,dF 10 61 2 8,dL 11 62 61,tD 12 63 (.idxSl 5 (tT 58) (tT 60)),tD 13 64 (.idxArr 5 1 (tT 63) (tT 62)),dL 14 65 64,tD 15 66 (.build [.int .i64 0,.int .i64 0] [(0,1,(tT 53)),(1,1,(tT 65))]),dM 16 67 7,tD 17 68 (.build [.int .i64 0,.int .i64 0,.int .i64 0] [(0,2,(tT 66)),(2,1,(tT 67))]),tD 18 69 (.buildSlice 3 1 [.int .i64 0,.int .i64 0,.int .i64 0] [(0,3,(tT 68))]),tD 19 70 (.append 3 24 (tT 51) (tT 69)),dM 20 71 70] [(29,51),(30,52),(31,53),(32,54),(33,55),(34,56),(35,57),(36,58),(37,59),(38,60),(39,61),(40,62),(41,63),(42,64),(43,65),(44,66),(45,67),(46,68),(47,69),(48,70),(5,71)])))) (.region [tS 49 (.bin .add .scalar (tT 17) (tK 1)),tM 17 49])))
def a6S:Res:=[(4,none)]
noncomputable def a2A:MFn:=⟨51,a6S,.seq [1,4] (.region [tS 3 (.box (tT 1)),tS 4 (.mv (.const .nils))]) (.seq [] (.region [tS 5 (.mv (.const .nils))]) (.seq [0,3,15,16,17,18] (.seq [9,10,11,12,13,14] (.regionD 51 [dM 0 51 0,tD 1 52 (.nilCheck (tT 51)),dF 2 53 2 52,dL 3 54 53,dF 4 55 0 3,dL 5 56 55,tD 8 59 (.mv (tK 0)),⟨6,⟨some 57,.call a2t [(tT 54),(tT 56)],none⟩,[]⟩,tD 7 58 (.lenSl (tT 57))] [(9,51),(10,52),(11,53),(12,54),(13,55),(14,56),(15,57),(16,58),(17,59)]) (.block 0 (.loop [49] a6R))) (.seq [5,50] (.region [tM 50 5,tM 4 50]) .ret)))⟩
noncomputable def z7_ (T:Tab)(k j0:Nat)(a b c d e f:AV)(h:Heap):Option (AV × Heap):=
 loopB T k a6S j0 [49] a6R [.blk 0,.seq [0,3,15,16,17,18] (.seq [5,50] (.region [⟨some 50,.op (.mv (.tmp 5)),none⟩,
 ⟨some 4,.op (.mv (.tmp 50)),none⟩]) .ret)] [a,.undef,.undef,b,.undef,c,.undef,.undef,.undef,.undef,.undef,.undef,.undef,.undef,.undef,d,e,f,.undef,.undef,.undef,.undef,.undef,.undef,.undef,.undef,.undef,.undef,.undef,.undef,.undef,.undef,.undef,.undef,.undef,.undef,.undef,.undef,.undef,.undef,.undef,.undef,.undef,.undef,.undef,.undef,.undef,.undef,.undef,.undef,.undef] h
theorem a4a (T:Tab)(k j0:Nat)(a b c d e f:AV)(h:Heap):z7_ T k (j0+1) a b c d e f h =
 oa (binV .lss .scalar f e) fun g=>cond2 g
 (
 oa (idxS 1 d f) fun i=>oa (ld1 h i) fun l=>oa (nilCk a) fun m=>oa (fldA 0 m) fun n=>oa (fldA 1 n) fun o=>oa (ld1 h o) fun p=>oa (idxS 4 p l) fun q=>oa (ldN 4 h q) fun r=>ob (newVar h [.int .i64 0,.int .i64 0,.int .i64 0,.int .i64 0]) fun s t=>oh (stN 4 t s r) fun u=>oa (fldA 1 s) fun v=>oa (ld1 u v) fun w=>oa (nilCk a) fun x=>oa (fldA 3 x) fun y=>oa (fldA 0 y) fun z=>oa (ld1 u z) fun aa=>oa (fldA 1 b) fun ab=>oa (ld1 u ab) fun ac=>oa (fldA 2 s) fun ad=>oa (ld1 u ad) fun ae=>oa (idxS 5 aa ac) fun af=>oa (idxA 5 1 af ae) fun ag=>oa (ld1 u ag) fun ai=>oa (buildV [.int .i64 0,.int .i64 0] [(0,1,w),(1,1,ai)]) fun al=>oa (buildV [.int .i64 0,.int .i64 0,.int .i64 0] [(0,2,al),(2,1,l)]) fun am=>ob (buildSl 3 1 [.int .i64 0,.int .i64 0,.int .i64 0] [(0,3,am)] u) fun an ao=>ob (apnd 3 24 c an ao) fun ap aq=>oa (binV .add .scalar f (.int .i64 1)) fun ar=>z7_ T k j0 a b ap d e ar aq
 )
 (
 some (c,h)
 ):=loopEq (by kernel_rfl)
theorem b2Q (T:Tab)(k:Nat)(a b:AV)(h:Heap):runF T k a2A [a,b] h =
 ob (newVar h (AV.cells b)) fun c d=>oa (nilCk a) fun e=>oa (fldA 2 e) fun f=>oa (ld1 d f) fun g=>oa (fldA 0 c) fun i=>oa (ld1 d i) fun l=>ob (evalFn T k a2t [g,l] d) fun m n=>oa (lenS m) fun o=>z7_ T k k a c .nils m o (.int .i64 0) n:=runEq (by kernel_rfl)
noncomputable def a4X:MCode:=.block 1 (.seq [2,4,5,6,7,8] (.region [tM 5 0,⟨some 6,.call h5_ [(tT 5)],none⟩,tM 4 6,tS 7 (.extract 0 (tT 4)),tS 8 (.extract 1 (tT 4)),tM 2 7,tM 3 8]) (.seq [3,9] (.region [tM 9 3,tS 10 (.un .not (tT 9))]) (.cond (tT 10) .ret .skip)))
def a4Y:Res:=[]
noncomputable def a1w:MFn:=⟨11,a4Y,.block 0 (.loop [10] a4X)⟩
noncomputable def w0_ (T:Tab)(k j0:Nat)(a:AV)(h:Heap):Option (AV × Heap):=
 loopB T k a4Y j0 [10] a4X [.blk 0] [a,.u,.u,.u,.u,.u,.u,.u,.u,.u,.u] h
end Go.Gm.AQ
