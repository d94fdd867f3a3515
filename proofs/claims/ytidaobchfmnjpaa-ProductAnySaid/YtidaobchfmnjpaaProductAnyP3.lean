/- A part of the proof: an abstract machine, what it does, and what the functions of the program come to on it (GmA9a). -/
import Derived.KernelRfl
import Derived.Test.YtidaobchfmnjpaaProductAnyP2
namespace Go.Gm
abbrev tT (n : Nat) : Opd := .tmp n
abbrev tK (n : Int) : Opd := .const (.int .i64 n)
abbrev tS (n : Nat) (o : MOp) : MOper := ⟨some n, .op o, none⟩
abbrev tD (i n : Nat) (o : MOp) : DItem := ⟨i, ⟨some n, .op o, none⟩, []⟩
end Go.Gm
abbrev Go.Gm.AV.u : Go.Gm.AV := .undef
set_option linter.unusedVariables false
namespace Go.Gm.A9
open Go Go.Gm
abbrev n7_ : FuncId := 4
abbrev h0_ : FuncId := 6
abbrev i7_ : FuncId := 7
abbrev i8_ : FuncId := 8
abbrev b9_ : FuncId := 9
abbrev e8_ : FuncId := 10
abbrev c5_ : FuncId := 11
abbrev b8_ : FuncId := 12
abbrev u0_ : FuncId := 13
abbrev i9_ : FuncId := 14
abbrev e1_ : FuncId := 15
abbrev j0_ : FuncId := 16
abbrev h1_ : FuncId := 17
abbrev a1_ : FuncId := 18
abbrev a6_ : FuncId := 19
abbrev e4_ : FuncId := 20
abbrev a7_ : FuncId := 21
abbrev a8_ : FuncId := 22
abbrev b1_ : FuncId := 23
abbrev c6_ : FuncId := 24
abbrev h2_ : FuncId := 25
abbrev e9_ : FuncId := 26
abbrev c7_ : FuncId := 27
abbrev k9_ : FuncId := 28
abbrev c0_ : FuncId := 29
abbrev b6_ : FuncId := 30
abbrev c8_ : FuncId := 31
abbrev b3_ : FuncId := 32
abbrev f0_ : FuncId := 33
abbrev j1_ : FuncId := 34
abbrev k3_ : FuncId := 35
abbrev a2P : FuncId := 36
abbrev a0K : FuncId := 37
abbrev d1_ : FuncId := 38
abbrev w9_ : FuncId := 39
abbrev j2_ : FuncId := 40
abbrev e2_ : FuncId := 41
abbrev a0m : FuncId := 42
abbrev j7_ : FuncId := 43
abbrev j8_ : FuncId := 44
abbrev h3_ : FuncId := 45
abbrev m6_ : FuncId := 46
abbrev e6_ : FuncId := 47
abbrev j3_ : FuncId := 48
abbrev l0_ : FuncId := 49
abbrev b5_ : FuncId := 50
abbrev d6_ : FuncId := 51
abbrev e5_ : FuncId := 52
abbrev j4_ : FuncId := 53
abbrev l1_ : FuncId := 54
abbrev h4_ : FuncId := 55
abbrev j5_ : FuncId := 56
abbrev h5_ : FuncId := 57
abbrev d2_ : FuncId := 58
abbrev b7_ : FuncId := 59
abbrev k4_ : FuncId := 78
abbrev p1_ : FuncId := 79
abbrev q9_ : FuncId := 80
abbrev p2_ : FuncId := 81
abbrev k5_ : FuncId := 82
abbrev n8_ : FuncId := 83
def a2Q : Res := [(16, none)]
noncomputable def m7_ : MFn := ⟨127, a2Q, .seq [16] (.region [tS 16 (.mv (.const (.bool false)))]) (.seq [29] (.seq [28] (.region [⟨some 28, .call h0_ [], none⟩, tS 29 (.un .not (tT 28))]) (.cond (tT 29) (.seq [0, 1, 2, 3, 4, 5, 6, 7, 29] (.region [tS 16 (.mv (.const (.bool false)))]) .ret) .skip)) (.seq [0, 1, 2, 3, 4, 5, 30, 31, 32, 33, 34, 35, 36, 37] (.region [tS 30 (.mv (tT 0)), tS 31 (.mv (tT 1)), tS 32 (.mv (tT 2)), ⟨some 33, .call i7_ [(tT 30), (tT 31), (tT 32)], none⟩, tS 34 (.mv (tT 3)), tS 35 (.mv (tT 4)), tS 36 (.mv (tT 5)), ⟨some 37, .call i8_ [(tT 34), (tT 35), (tT 36)], none⟩, tS 17 (.alloc [.int .i64 0, .nils]), tS 18 (.alloc [.nils, .nils]), ⟨none, .op (.store 2 (tT 17) (tT 33)), none⟩, ⟨none, .op (.store 2 (tT 18) (tT 37)), none⟩]) (.seq [6, 7, 38, 39, 40, 41, 42, 43, 44, 45] (.regionD 127 [tD 0 127 (.mv (tT 6)), tD 1 128 (.fieldAddr 0 (tT 17)), tD 2 129 (.load none (tT 128)), tD 4 131 (.mv (tT 7)), tD 5 132 (.fieldAddr 0 (tT 17)), tD 6 133 (.load none (tT 132)), ⟨3, ⟨some 130, .call b9_ [(tT 127), (tT 129)], none⟩, [(133, tS 133 (.load none (tT 132)))]⟩, ⟨7, ⟨some 134, .call b9_ [(tT 131), (tT 133)], none⟩, []⟩, tD 8 135 (.mv (tT 130)), tD 9 136 (.mv (tT 134))] [(38, 127), (39, 128), (40, 129), (41, 130), (42, 131), (43, 132), (44, 133), (45, 134), (19, 135), (20, 136)]) (.seq [46, 47, 48, 49] (.region [tS 46 (.load (some 2) (tT 17)), tS 47 (.load (some 2) (tT 18)), tS 48 (.mv (tT 19)), ⟨some 49, .call c5_ [(tT 46), (tT 47), (tT 48)], none⟩, tS 21 (.mv (tT 49))]) (.seq [50, 51, 52, 53, 54, 55, 56, 57] (.region [tS 51 (.load (some 2) (tT 17)), tS 52 (.load (some 2) (tT 18)), tS 53 (.mv (tT 19)), tS 54 (.mv (tT 20)), ⟨some 55, .call b8_ [(tT 51), (tT 52), (tT 53), (tT 54)], none⟩, tS 50 (.mv (tT 55)), tS 56 (.extract 0 (tT 50)), tS 57 (.extract 1 (tT 50)), tS 22 (.alloc [.int .i64 0, .nils]), ⟨none, .op (.store 2 (tT 22) (tT 56)), none⟩, tS 23 (.mv (tT 57))]) (.seq [58, 59, 60, 61, 62, 63, 64, 65] (.region [tS 59 (.load (some 2) (tT 17)), tS 60 (.load (some 2) (tT 18)), tS 61 (.mv (tT 19)), tS 62 (.mv (tT 20)), ⟨some 63, .call u0_ [(tT 59), (tT 60), (tT 61), (tT 62)], none⟩, tS 58 (.mv (tT 63)), tS 64 (.extract 0 (tT 58)), tS 65 (.extract 1 (tT 58)), tS 24 (.mv (tT 64)), tS 25 (.mv (tT 65))]) (.seq [27, 66, 67, 68, 69, 70, 71, 72, 73, 74] (.regionD 127 [tD 0 127 (.load (some 2) (tT 17)), tD 1 128 (.load (some 2) (tT 18)), tD 3 130 (.mv (tT 19)), tD 4 131 (.mv (tT 20)), ⟨2, ⟨some 129, .call e1_ [(tT 128)], none⟩, [(127, tS 127 (.load (some 2) (tT 17)))]⟩, ⟨5, ⟨some 132, .call i9_ [(tT 127), (tT 129), (tT 130), (tT 131)], none⟩, []⟩, tD 6 133 (.mv (tT 132)), tD 7 134 (.extract 0 (tT 133)), tD 8 135 (.extract 1 (tT 133)), tD 9 136 (.mv (tT 134)), tD 10 137 (.mv (tT 135))] [(67, 127), (68, 128), (69, 129), (70, 130), (71, 131), (72, 132), (66, 133), (73, 134), (74, 135), (26, 136), (27, 137)]) (.seq [17, 18, 19, 20, 21, 22, 23, 24, 25, 26, 75, 76, 77, 78, 79, 80, 81, 82, 83, 84, 85, 86, 87, 88, 89, 90, 91, 92, 93, 94, 95, 96, 97, 98, 99, 100, 101, 102, 103, 104, 105, 106, 107, 108, 109, 110, 111, 112, 113, 114, 115, 116, 117, 118, 119, 120, 121, 122, 123, 124, 125, 126] (.regionD 127 [tD 0 127 (.load (some 2) (tT 17)), tD 1 128 (.load (some 2) (tT 18)), tD 2 129 (.mv (tT 19)), tD 4 131 (.mv (tT 21)), ⟨3, ⟨some 130, .call e8_ [(tT 127), (tT 128), (tT 129)], none⟩, []⟩, ⟨5, ⟨some 132, .call j0_ [(tT 130), (tT 131)], none⟩, []⟩, tD 6 133 (.mv (tT 132)), ⟨7, ⟨some 134, .op (.mv (tT 23)), some (133, true)⟩, []⟩, ⟨8, ⟨some 135, .op (.mv (tT 21)), some (133, true)⟩, []⟩, ⟨9, ⟨some 136, .op (.mv (tT 20)), some (133, true)⟩, []⟩, ⟨10, ⟨some 137, .op (.idxSl 1 (tT 135) (tT 136)), some (133, true)⟩, []⟩, ⟨11, ⟨some 138, .op (.load none (tT 137)), some (133, true)⟩, []⟩, ⟨12, ⟨some 139, .op (.bin .geq .scalar (tT 138) (tK 0)), some (133, true)⟩, []⟩, ⟨13, ⟨some 140, .op (.bin .eql .bool (tT 134) (tT 139)), some (133, true)⟩, []⟩, tD 14 141 (.pick (tT 133) (tT 140) (.const (.bool false))), tD 15 142 (.mv (tT 141)), ⟨16, ⟨some 143, .op (.mv (tT 25)), some (142, true)⟩, []⟩, ⟨17, ⟨some 144, .op (.mv (tT 23)), some (142, true)⟩, []⟩, ⟨18, ⟨some 145, .op (.bin .eql .bool (tT 143) (tT 144)), some (142, true)⟩, []⟩, tD 19 146 (.pick (tT 142) (tT 145) (.const (.bool false))), tD 20 147 (.mv (tT 146)), ⟨21, ⟨some 148, .op (.mv (tT 23)), some (147, true)⟩, []⟩, ⟨22, ⟨some 149, .op (.un .not (tT 148)), some (147, true)⟩, []⟩, ⟨23, ⟨some 150, .op (.mv (tT 149)), some (147, true)⟩, []⟩, ⟨24, ⟨some 151, .op (.mv (tT 24)), some (150, false)⟩, []⟩, ⟨25, ⟨some 152, .op (.mv (tT 21)), some (150, false)⟩, []⟩, ⟨26, ⟨some 153, .op (.mv (tT 20)), some (150, false)⟩, []⟩, ⟨27, ⟨some 154, .op (.idxSl 1 (tT 152) (tT 153)), some (150, false)⟩, []⟩, ⟨28, ⟨some 155, .op (.load none (tT 154)), some (150, false)⟩, []⟩, ⟨29, ⟨some 156, .op (.bin .eql .scalar (tT 151) (tT 155)), some (150, false)⟩, []⟩, ⟨30, ⟨some 157, .op (.mv (tT 156)), some (150, false)⟩, []⟩, ⟨31, ⟨some 158, .op (.mv (tT 26)), some (157, true)⟩, []⟩, ⟨32, ⟨some 159, .op (.mv (tT 21)), some (157, true)⟩, []⟩, ⟨33, ⟨some 160, .op (.mv (tT 20)), some (157, true)⟩, []⟩, ⟨34, ⟨some 161, .op (.idxSl 1 (tT 159) (tT 160)), some (157, true)⟩, []⟩, ⟨35, ⟨some 162, .op (.load none (tT 161)), some (157, true)⟩, []⟩, ⟨36, ⟨some 163, .op (.bin .eql .scalar (tT 158) (tT 162)), some (157, true)⟩, []⟩, ⟨37, ⟨some 164, .op (.pick (tT 157) (tT 163) (.const (.bool false))), some (150, false)⟩, []⟩, ⟨38, ⟨some 165, .op (.mv (tT 164)), some (150, false)⟩, []⟩, ⟨39, ⟨some 166, .op (.load (some 2) (tT 17)), some (165, true)⟩, []⟩, ⟨40, ⟨some 167, .op (.load (some 2) (tT 18)), some (165, true)⟩, []⟩, ⟨41, ⟨some 168, .op (.mv (tT 19)), some (165, true)⟩, []⟩, ⟨42, ⟨some 169, .op (.mv (tT 20)), some (165, true)⟩, []⟩, ⟨43, ⟨some 170, .op (.load (some 2) (tT 22)), some (165, true)⟩, []⟩, ⟨44, ⟨some 171, .op (.mv (tT 21)), some (165, true)⟩, []⟩, ⟨45, ⟨some 172, .op (.mv (tT 20)), some (165, true)⟩, []⟩, ⟨46, ⟨some 173, .op (.idxSl 1 (tT 171) (tT 172)), some (165, true)⟩, []⟩, ⟨47, ⟨some 174, .op (.load none (tT 173)), some (165, true)⟩, []⟩, ⟨48, ⟨some 175, .call h1_ [(tT 166), (tT 167), (tT 168), (tT 169), (tT 170), (tT 174)], some (165, true)⟩, []⟩, ⟨49, ⟨some 176, .op (.pick (tT 165) (tT 175) (.const (.bool false))), some (150, false)⟩, []⟩, ⟨50, ⟨some 177, .op (.pick (tT 150) (.const (.bool true)) (tT 176)), some (147, true)⟩, []⟩, tD 51 178 (.pick (tT 147) (tT 177) (.const (.bool false))), tD 52 179 (.mv (tT 178))] [(75, 127), (76, 128), (77, 129), (78, 130), (79, 131), (80, 132), (81, 133), (82, 134), (83, 135), (84, 136), (85, 137), (86, 138), (87, 139), (88, 140), (89, 141), (90, 142), (91, 143), (92, 144), (93, 145), (94, 146), (95, 147), (96, 148), (97, 149), (98, 150), (99, 151), (100, 152), (101, 153), (102, 154), (103, 155), (104, 156), (105, 157), (106, 158), (107, 159), (108, 160), (109, 161), (110, 162), (111, 163), (112, 164), (113, 165), (114, 166), (115, 167), (116, 168), (117, 169), (118, 170), (119, 171), (120, 172), (121, 173), (122, 174), (123, 175), (124, 176), (125, 177), (126, 178), (16, 179)]) .ret))))))))⟩
theorem a2R (T : Tab) (k : Nat) (size0 ns1 modes2 states3 ms4 acc5 from6 to7 : AV) (h : Heap) : runF T k m7_ [size0, ns1, modes2, states3, ms4, acc5, from6, to7] h =
 ob (evalFn T k h0_ [] h) fun t28_1 h_2 =>
 oa (unV .not t28_1) fun t29_3 =>
 cond2 t29_3
 (
 some ((.bool false), h_2)
 )
 (
 ob (evalFn T k i7_ [size0, ns1, modes2] h_2) fun t33_4 h_5 =>
 ob (evalFn T k i8_ [states3, ms4, acc5] h_5) fun t37_6 h_7 =>
 ob (newVar h_7 [.int .i64 0, .nils]) fun n17_8 h_9 =>
 ob (newVar h_9 [.nils, .nils]) fun d18_10 h_11 =>
 oh (stN 2 h_11 n17_8 t33_4) fun h_12 =>
 oh (stN 2 h_12 d18_10 t37_6) fun h_13 =>
 oa (fldA 0 n17_8) fun t128_14 =>
 oa (ld1 h_13 t128_14) fun t129_15 =>
 oa (fldA 0 n17_8) fun t132_16 =>
 oa (ld1 h_13 t132_16) fun t133_17 =>
 ob (evalFn T k b9_ [from6, t129_15] h_13) fun t130_18 h_19 =>
 chk ((sameB (pure1 h_19 (ld1 h_19 t132_16)) t133_17 && true)) <|
 ob (evalFn T k b9_ [to7, t133_17] h_19) fun t134_20 h_21 =>
 oa (ldN 2 h_21 n17_8) fun t46_22 =>
 oa (ldN 2 h_21 d18_10) fun t47_23 =>
 ob (evalFn T k c5_ [t46_22, t47_23, t130_18] h_21) fun t49_24 h_25 =>
 oa (ldN 2 h_25 n17_8) fun t51_26 =>
 oa (ldN 2 h_25 d18_10) fun t52_27 =>
 ob (evalFn T k b8_ [t51_26, t52_27, t130_18, t134_20] h_25) fun t55_28 h_29 =>
 oa (extr 0 t55_28) fun t56_30 =>
 oa (extr 1 t55_28) fun t57_31 =>
 ob (newVar h_29 [.int .i64 0, .nils]) fun r22_32 h_33 =>
 oh (stN 2 h_33 r22_32 t56_30) fun h_34 =>
 oa (ldN 2 h_34 n17_8) fun t59_35 =>
 oa (ldN 2 h_34 d18_10) fun t60_36 =>
 ob (evalFn T k u0_ [t59_35, t60_36, t130_18, t134_20] h_34) fun t63_37 h_38 =>
 oa (extr 0 t63_37) fun t64_39 =>
 oa (extr 1 t63_37) fun t65_40 =>
 oa (ldN 2 h_38 n17_8) fun t127_41 =>
 oa (ldN 2 h_38 d18_10) fun t128_42 =>
 ob (evalFn T k e1_ [t128_42] h_38) fun t129_43 h_44 =>
 chk ((sameB (pure1 h_44 (ldN 2 h_44 n17_8)) t127_41 && true)) <|
 ob (evalFn T k i9_ [t127_41, t129_43, t130_18, t134_20] h_44) fun t132_45 h_46 =>
 oa (extr 0 t132_45) fun t134_47 =>
 oa (extr 1 t132_45) fun t135_48 =>
 oa (ldN 2 h_46 n17_8) fun t127_49 =>
 oa (ldN 2 h_46 d18_10) fun t128_50 =>
 ob (evalFn T k e8_ [t127_49, t128_50, t130_18] h_46) fun t130_51 h_52 =>
 ob (evalFn T k j0_ [t130_51, t49_24] h_52) fun t132_53 h_54 =>
 ob (gd t132_53 true (some (t57_31, h_54)) h_54) fun t134_55 h_56 =>
 ob (gd t132_53 true (some (t49_24, h_56)) h_56) fun t135_57 h_58 =>
 ob (gd t132_53 true (some (t134_20, h_58)) h_58) fun t136_59 h_60 =>
 ob (gd t132_53 true (pure1 h_60 (idxS 1 t135_57 t136_59)) h_60) fun t137_61 h_62 =>
 ob (gd t132_53 true (pure1 h_62 (ld1 h_62 t137_61)) h_62) fun t138_63 h_64 =>
 ob (gd t132_53 true (pure1 h_64 (binV .geq .scalar t138_63 (.int .i64 0))) h_64) fun t139_65 h_66 =>
 ob (gd t132_53 true (pure1 h_66 (binV .eql .bool t134_55 t139_65)) h_66) fun t140_67 h_68 =>
 oa (pickV t132_53 t140_67 (.bool false)) fun t141_69 =>
 ob (gd t141_69 true (some (t65_40, h_68)) h_68) fun t143_70 h_71 =>
 ob (gd t141_69 true (some (t57_31, h_71)) h_71) fun t144_72 h_73 =>
 ob (gd t141_69 true (pure1 h_73 (binV .eql .bool t143_70 t144_72)) h_73) fun t145_74 h_75 =>
 oa (pickV t141_69 t145_74 (.bool false)) fun t146_76 =>
 ob (gd t146_76 true (some (t57_31, h_75)) h_75) fun t148_77 h_78 =>
 ob (gd t146_76 true (pure1 h_78 (unV .not t148_77)) h_78) fun t149_79 h_80 =>
 ob (gd t146_76 true (some (t149_79, h_80)) h_80) fun t150_81 h_82 =>
 ob (gd t150_81 false (some (t64_39, h_82)) h_82) fun t151_83 h_84 =>
 ob (gd t150_81 false (some (t49_24, h_84)) h_84) fun t152_85 h_86 =>
 ob (gd t150_81 false (some (t134_20, h_86)) h_86) fun t153_87 h_88 =>
 ob (gd t150_81 false (pure1 h_88 (idxS 1 t152_85 t153_87)) h_88) fun t154_89 h_90 =>
 ob (gd t150_81 false (pure1 h_90 (ld1 h_90 t154_89)) h_90) fun t155_91 h_92 =>
 ob (gd t150_81 false (pure1 h_92 (binV .eql .scalar t151_83 t155_91)) h_92) fun t156_93 h_94 =>
 ob (gd t150_81 false (some (t156_93, h_94)) h_94) fun t157_95 h_96 =>
 ob (gd t157_95 true (some (t134_47, h_96)) h_96) fun t158_97 h_98 =>
 ob (gd t157_95 true (some (t49_24, h_98)) h_98) fun t159_99 h_100 =>
 ob (gd t157_95 true (some (t134_20, h_100)) h_100) fun t160_101 h_102 =>
 ob (gd t157_95 true (pure1 h_102 (idxS 1 t159_99 t160_101)) h_102) fun t161_103 h_104 =>
 ob (gd t157_95 true (pure1 h_104 (ld1 h_104 t161_103)) h_104) fun t162_105 h_106 =>
 ob (gd t157_95 true (pure1 h_106 (binV .eql .scalar t158_97 t162_105)) h_106) fun t163_107 h_108 =>
 ob (gd t150_81 false (pure1 h_108 (pickV t157_95 t163_107 (.bool false))) h_108) fun t164_109 h_110 =>
 ob (gd t150_81 false (some (t164_109, h_110)) h_110) fun t165_111 h_112 =>
 ob (gd t165_111 true (pure1 h_112 (ldN 2 h_112 n17_8)) h_112) fun t166_113 h_114 =>
 ob (gd t165_111 true (pure1 h_114 (ldN 2 h_114 d18_10)) h_114) fun t167_115 h_116 =>
 ob (gd t165_111 true (some (t130_18, h_116)) h_116) fun t168_117 h_118 =>
 ob (gd t165_111 true (some (t134_20, h_118)) h_118) fun t169_119 h_120 =>
 ob (gd t165_111 true (pure1 h_120 (ldN 2 h_120 r22_32)) h_120) fun t170_121 h_122 =>
 ob (gd t165_111 true (some (t49_24, h_122)) h_122) fun t171_123 h_124 =>
 ob (gd t165_111 true (some (t134_20, h_124)) h_124) fun t172_125 h_126 =>
 ob (gd t165_111 true (pure1 h_126 (idxS 1 t171_123 t172_125)) h_126) fun t173_127 h_128 =>
 ob (gd t165_111 true (pure1 h_128 (ld1 h_128 t173_127)) h_128) fun t174_129 h_130 =>
 ob (gd t165_111 true (evalFn T k h1_ [t166_113, t167_115, t168_117, t169_119, t170_121, t174_129] h_130) h_130) fun t175_131 h_132 =>
 ob (gd t150_81 false (pure1 h_132 (pickV t165_111 t175_131 (.bool false))) h_132) fun t176_133 h_134 =>
 ob (gd t146_76 true (pure1 h_134 (pickV t150_81 (.bool true) t176_133)) h_134) fun t177_135 h_136 =>
 oa (pickV t146_76 t177_135 (.bool false)) fun t178_137 =>
 some (t178_137, h_136)
 ) := runEq (by kernel_rfl)
def a5F : Res := [(0, none)]
noncomputable def r4_ : MFn := ⟨67, a5F, .seq [0] (.region [tS 0 (.mv (.const (.bool false)))]) (.seq [8, 9, 10] (.region [tS 8 (.build [.int .i64 0, .int .i64 0, .int .i64 0, .int .i64 0] [(0, 1, (tK 0)), (1, 1, (tK 1)), (3, 1, (tK 4))]), tS 9 (.buildSlice 4 1 [.int .i64 0, .int .i64 0, .int .i64 0, .int .i64 0] [(0, 4, (tT 8))]), tS 10 (.build [.int .i64 0, .nils] [(0, 1, (tK 2)), (1, 1, (tT 9))]), tS 1 (.alloc [.int .i64 0, .nils]), ⟨none, .op (.store 2 (tT 1) (tT 10)), none⟩]) (.seq [11, 12, 13, 14] (.region [tS 11 (.build [.int .i64 0, .int .i64 0, .int .i64 0, .int .i64 0, .int .i64 0] []), tS 12 (.buildSlice 5 1 [.int .i64 0, .int .i64 0, .int .i64 0, .int .i64 0, .int .i64 0] [(0, 5, (tT 11))]), tS 13 (.buildSlice 1 1 [.bool false] [(0, 1, (.const (.bool true)))]), tS 14 (.build [.nils, .nils] [(0, 1, (tT 12)), (1, 1, (tT 13))]), tS 2 (.alloc [.nils, .nils]), ⟨none, .op (.store 2 (tT 2) (tT 14)), none⟩]) (.seq [15, 16, 17, 18, 19, 20] (.region [tS 16 (.load (some 2) (tT 1)), tS 17 (.load (some 2) (tT 2)), ⟨some 18, .call b8_ [(tT 16), (tT 17), (tK 1), (tK 1)], none⟩, tS 15 (.mv (tT 18)), tS 19 (.extract 0 (tT 15)), tS 20 (.extract 1 (tT 15)), tS 3 (.alloc [.int .i64 0, .nils]), ⟨none, .op (.store 2 (tT 3) (tT 19)), none⟩, tS 4 (.mv (tT 20))]) (.seq [21, 22, 23, 24, 25, 26] (.region [tS 22 (.load (some 2) (tT 1)), tS 23 (.load (some 2) (tT 2)), ⟨some 24, .call b8_ [(tT 22), (tT 23), (tK 0), (tK 1)], none⟩, tS 21 (.mv (tT 24)), tS 25 (.extract 0 (tT 21)), tS 26 (.extract 1 (tT 21)), tS 5 (.alloc [.int .i64 0, .nils]), ⟨none, .op (.store 2 (tT 5) (tT 25)), none⟩, tS 6 (.mv (tT 26))]) (.seq [1, 2, 27, 28, 29] (.region [tS 27 (.load (some 2) (tT 1)), tS 28 (.load (some 2) (tT 2)), ⟨some 29, .call e8_ [(tT 27), (tT 28), (tK 0)], none⟩, tS 7 (.mv (tT 29))]) (.seq [3, 4, 5, 6, 7, 30, 31, 32, 33, 34, 35, 36, 37, 38, 39, 40, 41, 42, 43, 44, 45, 46, 47, 48, 49, 50, 51, 52, 53, 54, 55, 56, 57, 58, 59, 60, 61, 62, 63, 64, 65, 66] (.region [tS 30 (.mv (tT 4)), tS 31 (.mv (tT 30)), ⟨some 32, .op (.fieldAddr 0 (tT 3)), some (31, true)⟩, ⟨some 33, .op (.load none (tT 32)), some (31, true)⟩, ⟨some 34, .op (.bin .eql .scalar (tT 33) (tK 0)), some (31, true)⟩, tS 35 (.pick (tT 31) (tT 34) (.const (.bool false))), tS 36 (.mv (tT 35)), ⟨some 37, .op (.fieldAddr 1 (tT 3)), some (36, true)⟩, ⟨some 38, .op (.load none (tT 37)), some (36, true)⟩, ⟨some 39, .op (.lenSl (tT 38)), some (36, true)⟩, ⟨some 40, .op (.bin .eql .scalar (tT 39) (tK 0)), some (36, true)⟩, tS 41 (.pick (tT 36) (tT 40) (.const (.bool false))), tS 42 (.mv (tT 41)), ⟨some 43, .op (.mv (tT 6)), some (42, true)⟩, tS 44 (.pick (tT 42) (tT 43) (.const (.bool false))), tS 45 (.mv (tT 44)), ⟨some 46, .op (.fieldAddr 0 (tT 5)), some (45, true)⟩, ⟨some 47, .op (.load none (tT 46)), some (45, true)⟩, ⟨some 48, .op (.bin .eql .scalar (tT 47) (tK 4)), some (45, true)⟩, tS 49 (.pick (tT 45) (tT 48) (.const (.bool false))), tS 50 (.mv (tT 49)), ⟨some 51, .op (.fieldAddr 1 (tT 5)), some (50, true)⟩, ⟨some 52, .op (.load none (tT 51)), some (50, true)⟩, ⟨some 53, .op (.lenSl (tT 52)), some (50, true)⟩, ⟨some 54, .op (.bin .eql .scalar (tT 53) (tK 1)), some (50, true)⟩, tS 55 (.pick (tT 50) (tT 54) (.const (.bool false))), tS 56 (.mv (tT 55)), ⟨some 57, .op (.mv (tT 7)), some (56, true)⟩, ⟨some 58, .op (.lenSl (tT 57)), some (56, true)⟩, ⟨some 59, .op (.bin .eql .scalar (tT 58) (tK 2)), some (56, true)⟩, tS 60 (.pick (tT 56) (tT 59) (.const (.bool false))), tS 61 (.mv (tT 60)), ⟨some 62, .op (.mv (tT 7)), some (61, true)⟩, ⟨some 63, .op (.idxSl 1 (tT 62) (tK 1)), some (61, true)⟩, ⟨some 64, .op (.load none (tT 63)), some (61, true)⟩, ⟨some 65, .op (.bin .eql .scalar (tT 64) (tK 4)), some (61, true)⟩, tS 66 (.pick (tT 61) (tT 65) (.const (.bool false))), tS 0 (.mv (tT 66))]) .ret))))))⟩
theorem a5G (T : Tab) (k : Nat) (h : Heap) : runF T k r4_ [] h =
 oa (buildV [.int .i64 0, .int .i64 0, .int .i64 0, .int .i64 0] [(0, 1, (.int .i64 0)), (1, 1, (.int .i64 1)), (3, 1, (.int .i64 4))]) fun t8_1 =>
 ob (buildSl 4 1 [.int .i64 0, .int .i64 0, .int .i64 0, .int .i64 0] [(0, 4, t8_1)] h) fun t9_2 h_3 =>
 oa (buildV [.int .i64 0, .nils] [(0, 1, (.int .i64 2)), (1, 1, t9_2)]) fun t10_4 =>
 ob (newVar h_3 [.int .i64 0, .nils]) fun n1_5 h_6 =>
 oh (stN 2 h_6 n1_5 t10_4) fun h_7 =>
 oa (buildV [.int .i64 0, .int .i64 0, .int .i64 0, .int .i64 0, .int .i64 0] []) fun t11_8 =>
 ob (buildSl 5 1 [.int .i64 0, .int .i64 0, .int .i64 0, .int .i64 0, .int .i64 0] [(0, 5, t11_8)] h_7) fun t12_9 h_10 =>
 ob (buildSl 1 1 [.bool false] [(0, 1, (.bool true))] h_10) fun t13_11 h_12 =>
 oa (buildV [.nils, .nils] [(0, 1, t12_9), (1, 1, t13_11)]) fun t14_13 =>
 ob (newVar h_12 [.nils, .nils]) fun d2_14 h_15 =>
 oh (stN 2 h_15 d2_14 t14_13) fun h_16 =>
 oa (ldN 2 h_16 n1_5) fun t16_17 =>
 oa (ldN 2 h_16 d2_14) fun t17_18 =>
 ob (evalFn T k b8_ [t16_17, t17_18, (.int .i64 1), (.int .i64 1)] h_16) fun t18_19 h_20 =>
 oa (extr 0 t18_19) fun t19_21 =>
 oa (extr 1 t18_19) fun t20_22 =>
 ob (newVar h_20 [.int .i64 0, .nils]) fun r3_23 h_24 =>
 oh (stN 2 h_24 r3_23 t19_21) fun h_25 =>
 oa (ldN 2 h_25 n1_5) fun t22_26 =>
 oa (ldN 2 h_25 d2_14) fun t23_27 =>
 ob (evalFn T k b8_ [t22_26, t23_27, (.int .i64 0), (.int .i64 1)] h_25) fun t24_28 h_29 =>
 oa (extr 0 t24_28) fun t25_30 =>
 oa (extr 1 t24_28) fun t26_31 =>
 ob (newVar h_29 [.int .i64 0, .nils]) fun o5_32 h_33 =>
 oh (stN 2 h_33 o5_32 t25_30) fun h_34 =>
 oa (ldN 2 h_34 n1_5) fun t27_35 =>
 oa (ldN 2 h_34 d2_14) fun t28_36 =>
 ob (evalFn T k e8_ [t27_35, t28_36, (.int .i64 0)] h_34) fun t29_37 h_38 =>
 ob (gd t20_22 true (pure1 h_38 (fldA 0 r3_23)) h_38) fun t32_39 h_40 =>
 ob (gd t20_22 true (pure1 h_40 (ld1 h_40 t32_39)) h_40) fun t33_41 h_42 =>
 ob (gd t20_22 true (pure1 h_42 (binV .eql .scalar t33_41 (.int .i64 0))) h_42) fun t34_43 h_44 =>
 oa (pickV t20_22 t34_43 (.bool false)) fun t35_45 =>
 ob (gd t35_45 true (pure1 h_44 (fldA 1 r3_23)) h_44) fun t37_46 h_47 =>
 ob (gd t35_45 true (pure1 h_47 (ld1 h_47 t37_46)) h_47) fun t38_48 h_49 =>
 ob (gd t35_45 true (pure1 h_49 (lenS t38_48)) h_49) fun t39_50 h_51 =>
 ob (gd t35_45 true (pure1 h_51 (binV .eql .scalar t39_50 (.int .i64 0))) h_51) fun t40_52 h_53 =>
 oa (pickV t35_45 t40_52 (.bool false)) fun t41_54 =>
 ob (gd t41_54 true (some (t26_31, h_53)) h_53) fun t43_55 h_56 =>
 oa (pickV t41_54 t43_55 (.bool false)) fun t44_57 =>
 ob (gd t44_57 true (pure1 h_56 (fldA 0 o5_32)) h_56) fun t46_58 h_59 =>
 ob (gd t44_57 true (pure1 h_59 (ld1 h_59 t46_58)) h_59) fun t47_60 h_61 =>
 ob (gd t44_57 true (pure1 h_61 (binV .eql .scalar t47_60 (.int .i64 4))) h_61) fun t48_62 h_63 =>
 oa (pickV t44_57 t48_62 (.bool false)) fun t49_64 =>
 ob (gd t49_64 true (pure1 h_63 (fldA 1 o5_32)) h_63) fun t51_65 h_66 =>
 ob (gd t49_64 true (pure1 h_66 (ld1 h_66 t51_65)) h_66) fun t52_67 h_68 =>
 ob (gd t49_64 true (pure1 h_68 (lenS t52_67)) h_68) fun t53_69 h_70 =>
 ob (gd t49_64 true (pure1 h_70 (binV .eql .scalar t53_69 (.int .i64 1))) h_70) fun t54_71 h_72 =>
 oa (pickV t49_64 t54_71 (.bool false)) fun t55_73 =>
 ob (gd t55_73 true (some (t29_37, h_72)) h_72) fun t57_74 h_75 =>
 ob (gd t55_73 true (pure1 h_75 (lenS t57_74)) h_75) fun t58_76 h_77 =>
 ob (gd t55_73 true (pure1 h_77 (binV .eql .scalar t58_76 (.int .i64 2))) h_77) fun t59_78 h_79 =>
 oa (pickV t55_73 t59_78 (.bool false)) fun t60_80 =>
 ob (gd t60_80 true (some (t29_37, h_79)) h_79) fun t62_81 h_82 =>
 ob (gd t60_80 true (pure1 h_82 (idxS 1 t62_81 (.int .i64 1))) h_82) fun t63_83 h_84 =>
 ob (gd t60_80 true (pure1 h_84 (ld1 h_84 t63_83)) h_84) fun t64_85 h_86 =>
 ob (gd t60_80 true (pure1 h_86 (binV .eql .scalar t64_85 (.int .i64 4))) h_86) fun t65_87 h_88 =>
 oa (pickV t60_80 t65_87 (.bool false)) fun t66_89 =>
 some (t66_89, h_88) := runEq (by kernel_rfl)
noncomputable def a1o : MCode := .region [tS 73 (.fieldAddr 1 (tT 7)), tS 74 (.load none (tT 73)), tS 75 (.load (some 4) (tT 10)), tS 76 (.buildSlice 4 1 [.int .i64 0, .int .i64 0, .int .i64 0, .int .i64 0] [(0, 4, (tT 75))]), tS 77 (.append 4 32 (tT 74) (tT 76)), tS 78 (.fieldAddr 1 (tT 7)), ⟨none, .op (.store 1 (tT 78) (tT 77)), none⟩]
noncomputable def a1p : MCode := .seq [9, 67, 68, 69, 70, 71, 72] (.seq [65, 66] (.region [tS 65 (.mv (tT 9)), ⟨some 66, .call a1_ [(tT 65), (tK 31)], none⟩, tS 67 (.bin .eql .scalar (tT 66) (tK 0))]) (.cond (tT 67) (.region [tS 68 (.mv (tT 9)), tS 69 (.bin .quo .scalar (tT 68) (tK 31)), ⟨some 70, .call a1_ [(tT 69), (tK 3)], none⟩, tS 71 (.bin .sub .scalar (tK 2147483647) (tT 70)), tS 72 (.fieldAddr 3 (tT 10)), ⟨none, .op (.store 1 (tT 72) (tT 71)), none⟩]) .skip)) (.lab a1o)
noncomputable def m8_ : MCode := .seq [22] (.seq [15, 16, 17, 18, 19, 20, 21] (.region [tS 15 (.mv (tT 8)), tS 16 (.mv (tT 1)), tS 17 (.lenSl (tT 16)), tS 18 (.bin .lss .scalar (tT 15) (tT 17)), tS 19 (.mv (tT 18)), ⟨some 20, .op (.mv (tT 8)), some (19, true)⟩, ⟨some 21, .op (.bin .lss .scalar (tT 20) (tK 40)), some (19, true)⟩, tS 22 (.pick (tT 19) (tT 21) (.const (.bool false)))]) (.cond (tT 22) .skip (.exit 0))) (.seq [10, 73, 74, 75, 76, 77, 78] (.block 1 (.seq [25, 26, 27, 28] (.region [tS 25 (.mv (tT 1)), tS 26 (.mv (tT 8)), tS 27 (.idxSl 1 (tT 25) (tT 26)), tS 28 (.load none (tT 27)), tS 9 (.mv (tT 28))]) (.seq [29, 30, 31, 32, 33, 34, 35, 36, 37, 38, 39, 40, 41, 42, 43, 44] (.regionD 80 [tD 0 80 (.mv (tT 9)), tD 1 81 (.fieldAddr 0 (tT 7)), tD 2 82 (.load none (tT 81)), tD 4 84 (.mv (tT 9)), tD 5 85 (.bin .quo .scalar (tT 84) (tK 13)), tD 6 86 (.fieldAddr 0 (tT 7)), tD 7 87 (.load none (tT 86)), tD 9 89 (.mv (tT 9)), tD 10 90 (.bin .quo .scalar (tT 89) (tK 170)), tD 12 92 (.mv (tT 9)), tD 13 93 (.bin .quo .scalar (tT 92) (tK 900)), tD 16 96 (.alloc [.int .i64 0, .int .i64 0, .int .i64 0, .int .i64 0]), ⟨3, ⟨some 83, .call a1_ [(tT 80), (tT 82)], none⟩, [(87, tS 87 (.load none (tT 86)))]⟩, ⟨8, ⟨some 88, .call a1_ [(tT 85), (tT 87)], none⟩, []⟩, ⟨11, ⟨some 91, .call a1_ [(tT 90), (tK 5)], none⟩, []⟩, ⟨14, ⟨some 94, .call a1_ [(tT 93), (tK 9)], none⟩, []⟩, tD 15 95 (.build [.int .i64 0, .int .i64 0, .int .i64 0, .int .i64 0] [(0, 1, (tT 83)), (1, 1, (tT 88)), (2, 1, (tT 91)), (3, 1, (tT 94))]), tD 17 97 (.store 4 (tT 96) (tT 95))] [(29, 80), (30, 81), (31, 82), (32, 83), (33, 84), (34, 85), (35, 86), (36, 87), (37, 88), (38, 89), (39, 90), (40, 91), (41, 92), (42, 93), (43, 94), (44, 95), (10, 96)]) (.seq [47, 48, 49, 50, 51, 52, 53, 54, 57, 58, 59, 60, 61, 62, 63, 64] (.seq [45, 46] (.region [tS 45 (.mv (tT 2)), ⟨some 46, .call a1_ [(tT 45), (tK 3)], none⟩, tS 47 (.bin .eql .scalar (tT 46) (tK 0))]) (.cond (tT 47) (.region [tS 48 (.fieldAddr 0 (tT 10)), tS 49 (.load none (tT 48)), tS 50 (.fieldAddr 1 (tT 10)), tS 51 (.load none (tT 50)), tS 52 (.bin .add .scalar (tT 49) (tT 51)), ⟨some 53, .call a1_ [(tT 52), (tK 2)], none⟩, tS 54 (.fieldAddr 2 (tT 10)), ⟨none, .op (.store 1 (tT 54) (tT 53)), none⟩]) (.seq [47, 55, 56] (.region [tS 55 (.mv (tT 2)), ⟨some 56, .call a1_ [(tT 55), (tK 3)], none⟩, tS 57 (.bin .eql .scalar (tT 56) (tK 1))]) (.cond (tT 57) (.region [tS 58 (.fieldAddr 2 (tT 10)), tS 59 (.load none (tT 58)), tS 60 (.fieldAddr 0 (tT 10)), tS 61 (.load none (tT 60)), tS 62 (.bin .mul .scalar (tT 59) (tT 61)), ⟨some 63, .call a1_ [(tT 62), (tK 3)], none⟩, tS 64 (.fieldAddr 2 (tT 10)), ⟨none, .op (.store 1 (tT 64) (tT 63)), none⟩]) .skip)))) (.lab a1p))))) (.region [tS 23 (.mv (tT 8)), tS 24 (.bin .add .scalar (tT 23) (tK 1)), tS 8 (.mv (tT 24))]))
def m9_ : Res := [(6, some (some 2))]
noncomputable def u1_ : MFn := ⟨80, m9_, .seq [] (.region [tS 6 (.alloc [.int .i64 0, .nils])]) (.seq [0, 11, 12, 13, 14] (.region [tS 11 (.mv (tT 0)), ⟨some 12, .call a1_ [(tT 11), (tK 12)], none⟩, tS 13 (.bin .add .scalar (tK 1) (tT 12)), tS 14 (.build [.int .i64 0, .nils] [(0, 1, (tT 13))]), tS 7 (.alloc [.int .i64 0, .nils]), ⟨none, .op (.store 2 (tT 7) (tT 14)), none⟩]) (.seq [1, 2, 8, 22] (.seq [] (.region [tS 8 (.mv (tK 0))]) (.block 0 (.loop [23, 24] m8_))) (.seq [7, 79] (.region [tS 79 (.load (some 2) (tT 7)), ⟨none, .op (.store 2 (tT 6) (tT 79)), none⟩]) .ret)))⟩
noncomputable def d7_ (T : Tab) (k j0 : Nat) (ns1 modes2 t6 n7 i8 : AV) (h : Heap) : Option (AV × Heap) :=
  loopB T k m9_ j0 [23, 24] m8_ [.blk 0, .seq [1, 2, 8, 22] (.seq [7, 79] (.region [⟨some 79, .op (.load (some 2) (.tmp 7)), none⟩,
  ⟨none, .op (.store 2 (.tmp 6) (.tmp 79)), none⟩]) .ret)] [.undef, ns1, modes2, .undef, .undef, .undef, t6, n7, i8, .undef, .undef, .undef, .undef, .undef, .undef, .undef, .undef, .undef, .undef, .undef, .undef, .undef, .undef, .undef, .undef, .undef, .undef, .undef, .undef, .undef, .undef, .undef, .undef, .undef, .undef, .undef, .undef, .undef, .undef, .undef, .undef, .undef, .undef, .undef, .undef, .undef, .undef, .undef, .undef, .undef, .undef, .undef, .undef, .undef, .undef, .undef, .undef, .undef, .undef, .undef, .undef, .undef, .undef, .undef, .undef, .undef, .undef, .undef, .undef, .undef, .undef, .undef, .undef, .undef, .undef, .undef, .undef, .undef, .undef, .undef] h
noncomputable def d8_ (T : Tab) (k j0 : Nat) (ns1 modes2 t6 n7 i8 k9 e10 : AV) (h : Heap) : Option (AV × Heap) :=
  evB T k m9_ a1p [.blk 1, .seq [10, 73, 74, 75, 76, 77, 78] (.region [⟨some 23, .op (.mv (.tmp 8)), none⟩,
  ⟨some 24, .op (.bin .add .scalar (.tmp 23) (.const (.int .i64 1))), none⟩,
  ⟨some 8, .op (.mv (.tmp 24)), none⟩]), .lp j0 [23, 24] m8_, .blk 0, .seq [1, 2, 8, 22] (.seq [7, 79] (.region [⟨some 79, .op (.load (some 2) (.tmp 7)), none⟩,
  ⟨none, .op (.store 2 (.tmp 6) (.tmp 79)), none⟩]) .ret)] [.undef, ns1, modes2, .undef, .undef, .undef, t6, n7, i8, k9, e10, .undef, .undef, .undef, .undef, .undef, .undef, .undef, .undef, .undef, .undef, .undef, .undef, .undef, .undef, .undef, .undef, .undef, .undef, .undef, .undef, .undef, .undef, .undef, .undef, .undef, .undef, .undef, .undef, .undef, .undef, .undef, .undef, .undef, .undef, .undef, .undef, .undef, .undef, .undef, .undef, .undef, .undef, .undef, .undef, .undef, .undef, .undef, .undef, .undef, .undef, .undef, .undef, .undef, .undef, .undef, .undef, .undef, .undef, .undef, .undef, .undef, .undef, .undef, .undef, .undef, .undef, .undef, .undef, .undef] h
noncomputable def n0_ (T : Tab) (k j0 : Nat) (ns1 modes2 t6 n7 i8 e10 : AV) (h : Heap) : Option (AV × Heap) :=
  evB T k m9_ a1o [.blk 1, .seq [10, 73, 74, 75, 76, 77, 78] (.region [⟨some 23, .op (.mv (.tmp 8)), none⟩,
  ⟨some 24, .op (.bin .add .scalar (.tmp 23) (.const (.int .i64 1))), none⟩,
  ⟨some 8, .op (.mv (.tmp 24)), none⟩]), .lp j0 [23, 24] m8_, .blk 0, .seq [1, 2, 8, 22] (.seq [7, 79] (.region [⟨some 79, .op (.load (some 2) (.tmp 7)), none⟩,
  ⟨none, .op (.store 2 (.tmp 6) (.tmp 79)), none⟩]) .ret)] [.undef, ns1, modes2, .undef, .undef, .undef, t6, n7, i8, .undef, e10, .undef, .undef, .undef, .undef, .undef, .undef, .undef, .undef, .undef, .undef, .undef, .undef, .undef, .undef, .undef, .undef, .undef, .undef, .undef, .undef, .undef, .undef, .undef, .undef, .undef, .undef, .undef, .undef, .undef, .undef, .undef, .undef, .undef, .undef, .undef, .undef, .undef, .undef, .undef, .undef, .undef, .undef, .undef, .undef, .undef, .undef, .undef, .undef, .undef, .undef, .undef, .undef, .undef, .undef, .undef, .undef, .undef, .undef, .undef, .undef, .undef, .undef, .undef, .undef, .undef, .undef, .undef, .undef, .undef] h
theorem a3Z (T : Tab) (k j0 : Nat) (ns1 modes2 t6 n7 i8 e10 : AV) (h : Heap) : n0_ T k j0 ns1 modes2 t6 n7 i8 e10 h =
 oa (fldA 1 n7) fun t73_1 =>
 oa (ld1 h t73_1) fun t74_2 =>
 oa (ldN 4 h e10) fun t75_3 =>
 ob (buildSl 4 1 [.int .i64 0, .int .i64 0, .int .i64 0, .int .i64 0] [(0, 4, t75_3)] h) fun t76_4 h_5 =>
 ob (apnd 4 32 t74_2 t76_4 h_5) fun t77_6 h_7 =>
 oa (fldA 1 n7) fun t78_8 =>
 oh (stN 1 h_7 t78_8 t77_6) fun h_9 =>
 oa (binV .add .scalar i8 (.int .i64 1)) fun t24_10 =>
 d7_ T k j0 ns1 modes2 t6 n7 t24_10 h_9 := blockEq (by kernel_rfl)
theorem a4a (T : Tab) (k j0 : Nat) (ns1 modes2 t6 n7 i8 k9 e10 : AV) (h : Heap) : d8_ T k j0 ns1 modes2 t6 n7 i8 k9 e10 h =
 ob (evalFn T k a1_ [k9, (.int .i64 31)] h) fun t66_1 h_2 =>
 oa (binV .eql .scalar t66_1 (.int .i64 0)) fun t67_3 =>
 cond2 t67_3
 (
 oa (binV .quo .scalar k9 (.int .i64 31)) fun t69_4 =>
 ob (evalFn T k a1_ [t69_4, (.int .i64 3)] h_2) fun t70_5 h_6 =>
 oa (binV .sub .scalar (.int .i64 2147483647) t70_5) fun t71_7 =>
 oa (fldA 3 e10) fun t72_8 =>
 oh (stN 1 h_6 t72_8 t71_7) fun h_9 =>
 n0_ T k j0 ns1 modes2 t6 n7 i8 e10 h_9
 )
 (
 n0_ T k j0 ns1 modes2 t6 n7 i8 e10 h_2
 ) := blockEq (by kernel_rfl)
theorem a0n (T : Tab) (k j0 : Nat) (ns1 modes2 t6 n7 i8 : AV) (h : Heap) : d7_ T k (j0 + 1) ns1 modes2 t6 n7 i8 h =
 oa (lenS ns1) fun t17_1 =>
 oa (binV .lss .scalar i8 t17_1) fun t18_2 =>
 ob (gd t18_2 true (some (i8, h)) h) fun t20_3 h_4 =>
 ob (gd t18_2 true (pure1 h_4 (binV .lss .scalar t20_3 (.int .i64 40))) h_4) fun t21_5 h_6 =>
 oa (pickV t18_2 t21_5 (.bool false)) fun t22_7 =>
 cond2 t22_7
 (
 oa (idxS 1 ns1 i8) fun t27_8 =>
 oa (ld1 h_6 t27_8) fun t28_9 =>
 oa (fldA 0 n7) fun t81_10 =>
 oa (ld1 h_6 t81_10) fun t82_11 =>
 oa (binV .quo .scalar t28_9 (.int .i64 13)) fun t85_12 =>
 oa (fldA 0 n7) fun t86_13 =>
 oa (ld1 h_6 t86_13) fun t87_14 =>
 oa (binV .quo .scalar t28_9 (.int .i64 170)) fun t90_15 =>
 oa (binV .quo .scalar t28_9 (.int .i64 900)) fun t93_16 =>
 ob (newVar h_6 [.int .i64 0, .int .i64 0, .int .i64 0, .int .i64 0]) fun t96_17 h_18 =>
 ob (evalFn T k a1_ [t28_9, t82_11] h_18) fun t83_19 h_20 =>
 chk ((sameB (pure1 h_20 (ld1 h_20 t86_13)) t87_14 && true)) <|
 ob (evalFn T k a1_ [t85_12, t87_14] h_20) fun t88_21 h_22 =>
 ob (evalFn T k a1_ [t90_15, (.int .i64 5)] h_22) fun t91_23 h_24 =>
 ob (evalFn T k a1_ [t93_16, (.int .i64 9)] h_24) fun t94_25 h_26 =>
 oa (buildV [.int .i64 0, .int .i64 0, .int .i64 0, .int .i64 0] [(0, 1, t83_19), (1, 1, t88_21), (2, 1, t91_23), (3, 1, t94_25)]) fun t95_27 =>
 oh (stN 4 h_26 t96_17 t95_27) fun h_28 =>
 ob (evalFn T k a1_ [modes2, (.int .i64 3)] h_28) fun t46_29 h_30 =>
 oa (binV .eql .scalar t46_29 (.int .i64 0)) fun t47_31 =>
 cond2 t47_31
 (
 oa (fldA 0 t96_17) fun t48_32 =>
 oa (ld1 h_30 t48_32) fun t49_33 =>
 oa (fldA 1 t96_17) fun t50_34 =>
 oa (ld1 h_30 t50_34) fun t51_35 =>
 oa (binV .add .scalar t49_33 t51_35) fun t52_36 =>
 ob (evalFn T k a1_ [t52_36, (.int .i64 2)] h_30) fun t53_37 h_38 =>
 oa (fldA 2 t96_17) fun t54_39 =>
 oh (stN 1 h_38 t54_39 t53_37) fun h_40 =>
 d8_ T k j0 ns1 modes2 t6 n7 i8 t28_9 t96_17 h_40
 )
 (
 ob (evalFn T k a1_ [modes2, (.int .i64 3)] h_30) fun t56_41 h_42 =>
 oa (binV .eql .scalar t56_41 (.int .i64 1)) fun t57_43 =>
 cond2 t57_43
 (
 oa (fldA 2 t96_17) fun t58_44 =>
 oa (ld1 h_42 t58_44) fun t59_45 =>
 oa (fldA 0 t96_17) fun t60_46 =>
 oa (ld1 h_42 t60_46) fun t61_47 =>
 oa (binV .mul .scalar t59_45 t61_47) fun t62_48 =>
 ob (evalFn T k a1_ [t62_48, (.int .i64 3)] h_42) fun t63_49 h_50 =>
 oa (fldA 2 t96_17) fun t64_51 =>
 oh (stN 1 h_50 t64_51 t63_49) fun h_52 =>
 d8_ T k j0 ns1 modes2 t6 n7 i8 t28_9 t96_17 h_52
 )
 (
 d8_ T k j0 ns1 modes2 t6 n7 i8 t28_9 t96_17 h_42
 )
 )
 )
 (
 oa (ldN 2 h_6 n7) fun t79_53 =>
 oh (stN 2 h_6 t6 t79_53) fun h_54 =>
 oa (ldN 2 h_54 t6) fun t6_55 =>
 some (t6_55, h_54)
 ) := loopEq (by kernel_rfl)
theorem a6q (T : Tab) (k : Nat) (size0 ns1 modes2 : AV) (h : Heap) : runF T k u1_ [size0, ns1, modes2] h =
 ob (newVar h [.int .i64 0, .nils]) fun t6_1 h_2 =>
 ob (evalFn T k a1_ [size0, (.int .i64 12)] h_2) fun t12_3 h_4 =>
 oa (binV .add .scalar (.int .i64 1) t12_3) fun t13_5 =>
 oa (buildV [.int .i64 0, .nils] [(0, 1, t13_5)]) fun t14_6 =>
 ob (newVar h_4 [.int .i64 0, .nils]) fun n7_7 h_8 =>
 oh (stN 2 h_8 n7_7 t14_6) fun h_9 =>
 d7_ T k k ns1 modes2 t6_1 n7_7 (.int .i64 0) h_9 := runEq (by kernel_rfl)
noncomputable def a1q : MCode := .seq [22] (.seq [21] (.region [tS 21 (.mv (tT 11)), tS 22 (.bin .lss .scalar (tT 21) (tK 5))]) (.cond (tT 22) .skip (.exit 2))) (.seq [12, 32, 33, 34, 35, 36, 37, 38, 39, 40, 41, 42, 43, 44, 45, 46, 47, 48, 49] (.block 3 (.seq [25, 26, 27, 28] (.region [tS 25 (.mv (tT 9)), tS 26 (.bin .mul .scalar (tK 5) (tT 25)), tS 27 (.mv (tT 11)), tS 28 (.bin .add .scalar (tT 26) (tT 27)), tS 12 (.mv (tT 28))]) (.seq [29, 30, 31] (.region [tS 29 (.mv (tT 12)), tS 30 (.mv (tT 1)), tS 31 (.lenSl (tT 30)), tS 32 (.bin .lss .scalar (tT 29) (tT 31))]) (.cond (tT 32) (.region [tS 33 (.mv (tT 11)), tS 34 (.mv (tT 1)), tS 35 (.mv (tT 12)), tS 36 (.idxSl 1 (tT 34) (tT 35)), tS 37 (.load none (tT 36)), tS 38 (.mv (tT 8)), ⟨some 39, .call a6_ [(tT 37), (tT 38)], none⟩, tS 40 (.idxArr 5 1 (tT 10) (tT 33)), ⟨none, .op (.store 1 (tT 40) (tT 39)), none⟩]) (.region [tS 41 (.mv (tT 11)), tS 42 (.mv (tT 9)), tS 43 (.mv (tT 11)), tS 44 (.mv (tT 2)), tS 45 (.bin .mul .scalar (tT 43) (tT 44)), tS 46 (.bin .add .scalar (tT 42) (tT 45)), tS 47 (.mv (tT 8)), ⟨some 48, .call a6_ [(tT 46), (tT 47)], none⟩, tS 49 (.idxArr 5 1 (tT 10) (tT 41)), ⟨none, .op (.store 1 (tT 49) (tT 48)), none⟩]))))) (.region [tS 23 (.mv (tT 11)), tS 24 (.bin .add .scalar (tT 23) (tK 1)), tS 11 (.mv (tT 24))]))
noncomputable def u2_ : MCode := .seq [10, 50, 51, 52, 53, 54, 55] (.region [tS 50 (.fieldAddr 0 (tT 7)), tS 51 (.load none (tT 50)), tS 52 (.load (some 5) (tT 10)), tS 53 (.buildSlice 5 1 [.int .i64 0, .int .i64 0, .int .i64 0, .int .i64 0, .int .i64 0] [(0, 5, (tT 52))]), tS 54 (.append 5 40 (tT 51) (tT 53)), tS 55 (.fieldAddr 0 (tT 7)), ⟨none, .op (.store 1 (tT 55) (tT 54)), none⟩]) (.regionD 68 [tD 0 68 (.fieldAddr 1 (tT 7)), tD 1 69 (.load none (tT 68)), tD 2 70 (.mv (tT 2)), tD 3 71 (.mv (tT 9)), tD 4 72 (.convI .u64 (tT 71)), tD 5 73 (.bin .shr .scalar (tT 70) (tT 72)), ⟨6, ⟨some 74, .call a6_ [(tT 73), (tK 2)], none⟩, [(69, tS 69 (.load none (tT 68)))]⟩, tD 7 75 (.bin .eql .scalar (tT 74) (tK 1)), tD 8 76 (.buildSlice 1 1 [.bool false] [(0, 1, (tT 75))]), tD 9 77 (.append 1 1 (tT 69) (tT 76)), tD 10 78 (.fieldAddr 1 (tT 7)), tD 11 79 (.store 1 (tT 78) (tT 77))] [(56, 68), (57, 69), (58, 70), (59, 71), (60, 72), (61, 73), (62, 74), (63, 75), (64, 76), (65, 77), (66, 78)])
noncomputable def n1_ : MCode := .region [tS 19 (.mv (tT 9)), tS 20 (.bin .add .scalar (tT 19) (tK 1)), tS 9 (.mv (tT 20))]
noncomputable def h6_ : MCode := .seq [18] (.seq [16, 17] (.region [tS 16 (.mv (tT 9)), tS 17 (.mv (tT 8)), tS 18 (.bin .lss .scalar (tT 16) (tT 17))]) (.cond (tT 18) .skip (.exit 0))) (.seq [56, 57, 58, 59, 60, 61, 62, 63, 64, 65, 66] (.block 1 (.seq [] (.region [tS 10 (.alloc [.int .i64 0, .int .i64 0, .int .i64 0, .int .i64 0, .int .i64 0])]) (.seq [11, 22] (.seq [] (.region [tS 11 (.mv (tK 0))]) (.block 2 (.loop [23, 24] a1q))) (.lab u2_)))) (.lab n1_))
def h7_ : Res := [(6, some (some 2))]
noncomputable def u3_ : MFn := ⟨68, h7_, .seq [] (.region [tS 6 (.alloc [.nils, .nils])]) (.seq [] (.region [tS 7 (.alloc [.nils, .nils])]) (.seq [0, 13, 14, 15] (.region [tS 13 (.mv (tT 0)), ⟨some 14, .call a6_ [(tT 13), (tK 9)], none⟩, tS 15 (.bin .add .scalar (tK 1) (tT 14)), tS 8 (.mv (tT 15))]) (.seq [1, 2, 8, 9, 18] (.seq [] (.region [tS 9 (.mv (tK 0))]) (.block 0 (.loop [19, 20] h6_))) (.seq [7, 67] (.region [tS 67 (.load (some 2) (tT 7)), ⟨none, .op (.store 2 (tT 6) (tT 67)), none⟩]) .ret))))⟩
noncomputable def d9_ (T : Tab) (k j0 : Nat) (ns1 acc2 t6 d7 n8 i9 : AV) (h : Heap) : Option (AV × Heap) :=
  loopB T k h7_ j0 [19, 20] h6_ [.blk 0, .seq [1, 2, 8, 9, 18] (.seq [7, 67] (.region [⟨some 67, .op (.load (some 2) (.tmp 7)), none⟩,
  ⟨none, .op (.store 2 (.tmp 6) (.tmp 67)), none⟩]) .ret)] [.undef, ns1, acc2, .undef, .undef, .undef, t6, d7, n8, i9, .undef, .undef, .undef, .undef, .undef, .undef, .undef, .undef, .undef, .undef, .undef, .undef, .undef, .undef, .undef, .undef, .undef, .undef, .undef, .undef, .undef, .undef, .undef, .undef, .undef, .undef, .undef, .undef, .undef, .undef, .undef, .undef, .undef, .undef, .undef, .undef, .undef, .undef, .undef, .undef, .undef, .undef, .undef, .undef, .undef, .undef, .undef, .undef, .undef, .undef, .undef, .undef, .undef, .undef, .undef, .undef, .undef, .undef] h
noncomputable def e0_ (T : Tab) (k j0 j1 : Nat) (ns1 acc2 t6 d7 n8 i9 next10 m11 : AV) (h : Heap) : Option (AV × Heap) :=
  loopB T k h7_ j1 [23, 24] a1q [.blk 2, .seq [11, 22] (.lab u2_), .blk 1, .seq [56, 57, 58, 59, 60, 61, 62, 63, 64, 65, 66] (.lab n1_), .lp j0 [19, 20] h6_, .blk 0, .seq [1, 2, 8, 9, 18] (.seq [7, 67] (.region [⟨some 67, .op (.load (some 2) (.tmp 7)), none⟩,
  ⟨none, .op (.store 2 (.tmp 6) (.tmp 67)), none⟩]) .ret)] [.undef, ns1, acc2, .undef, .undef, .undef, t6, d7, n8, i9, next10, m11, .undef, .undef, .undef, .undef, .undef, .undef, .undef, .undef, .undef, .undef, .undef, .undef, .undef, .undef, .undef, .undef, .undef, .undef, .undef, .undef, .undef, .undef, .undef, .undef, .undef, .undef, .undef, .undef, .undef, .undef, .undef, .undef, .undef, .undef, .undef, .undef, .undef, .undef, .undef, .undef, .undef, .undef, .undef, .undef, .undef, .undef, .undef, .undef, .undef, .undef, .undef, .undef, .undef, .undef, .undef, .undef] h
noncomputable def u4_ (T : Tab) (k j0 : Nat) (ns1 acc2 t6 d7 n8 i9 next10 : AV) (h : Heap) : Option (AV × Heap) :=
  evB T k h7_ u2_ [.blk 1, .seq [56, 57, 58, 59, 60, 61, 62, 63, 64, 65, 66] (.lab n1_), .lp j0 [19, 20] h6_, .blk 0, .seq [1, 2, 8, 9, 18] (.seq [7, 67] (.region [⟨some 67, .op (.load (some 2) (.tmp 7)), none⟩,
  ⟨none, .op (.store 2 (.tmp 6) (.tmp 67)), none⟩]) .ret)] [.undef, ns1, acc2, .undef, .undef, .undef, t6, d7, n8, i9, next10, .undef, .undef, .undef, .undef, .undef, .undef, .undef, .undef, .undef, .undef, .undef, .undef, .undef, .undef, .undef, .undef, .undef, .undef, .undef, .undef, .undef, .undef, .undef, .undef, .undef, .undef, .undef, .undef, .undef, .undef, .undef, .undef, .undef, .undef, .undef, .undef, .undef, .undef, .undef, .undef, .undef, .undef, .undef, .undef, .undef, .undef, .undef, .undef, .undef, .undef, .undef, .undef, .undef, .undef, .undef, .undef, .undef] h
noncomputable def a1r (T : Tab) (k j0 : Nat) (ns1 acc2 t6 d7 n8 i9 : AV) (h : Heap) : Option (AV × Heap) :=
  evB T k h7_ n1_ [.lp j0 [19, 20] h6_, .blk 0, .seq [1, 2, 8, 9, 18] (.seq [7, 67] (.region [⟨some 67, .op (.load (some 2) (.tmp 7)), none⟩,
  ⟨none, .op (.store 2 (.tmp 6) (.tmp 67)), none⟩]) .ret)] [.undef, ns1, acc2, .undef, .undef, .undef, t6, d7, n8, i9, .undef, .undef, .undef, .undef, .undef, .undef, .undef, .undef, .undef, .undef, .undef, .undef, .undef, .undef, .undef, .undef, .undef, .undef, .undef, .undef, .undef, .undef, .undef, .undef, .undef, .undef, .undef, .undef, .undef, .undef, .undef, .undef, .undef, .undef, .undef, .undef, .undef, .undef, .undef, .undef, .undef, .undef, .undef, .undef, .undef, .undef, .undef, .undef, .undef, .undef, .undef, .undef, .undef, .undef, .undef, .undef, .undef, .undef] h
theorem a4b (T : Tab) (k j0 : Nat) (ns1 acc2 t6 d7 n8 i9 : AV) (h : Heap) : a1r T k j0 ns1 acc2 t6 d7 n8 i9 h =
 oa (binV .add .scalar i9 (.int .i64 1)) fun t20_1 =>
 d9_ T k j0 ns1 acc2 t6 d7 n8 t20_1 h := blockEq (by kernel_rfl)
theorem a4c (T : Tab) (k j0 : Nat) (ns1 acc2 t6 d7 n8 i9 next10 : AV) (h : Heap) : u4_ T k j0 ns1 acc2 t6 d7 n8 i9 next10 h =
 oa (fldA 0 d7) fun t50_1 =>
 oa (ld1 h t50_1) fun t51_2 =>
 oa (ldN 5 h next10) fun t52_3 =>
 ob (buildSl 5 1 [.int .i64 0, .int .i64 0, .int .i64 0, .int .i64 0, .int .i64 0] [(0, 5, t52_3)] h) fun t53_4 h_5 =>
 ob (apnd 5 40 t51_2 t53_4 h_5) fun t54_6 h_7 =>
 oa (fldA 0 d7) fun t55_8 =>
 oh (stN 1 h_7 t55_8 t54_6) fun h_9 =>
 oa (fldA 1 d7) fun t68_10 =>
 oa (ld1 h_9 t68_10) fun t69_11 =>
 oa (convV .u64 i9) fun t72_12 =>
 oa (binV .shr .scalar acc2 t72_12) fun t73_13 =>
 ob (evalFn T k a6_ [t73_13, (.int .i64 2)] h_9) fun t74_14 h_15 =>
 chk ((sameB (pure1 h_15 (ld1 h_15 t68_10)) t69_11 && true)) <|
 oa (binV .eql .scalar t74_14 (.int .i64 1)) fun t75_16 =>
 ob (buildSl 1 1 [.bool false] [(0, 1, t75_16)] h_15) fun t76_17 h_18 =>
 ob (apnd 1 1 t69_11 t76_17 h_18) fun t77_19 h_20 =>
 oa (fldA 1 d7) fun t78_21 =>
 oh (stN 1 h_20 t78_21 t77_19) fun h_22 =>
 a1r T k j0 ns1 acc2 t6 d7 n8 i9 h_22 := blockEq (by kernel_rfl)
theorem a0o (T : Tab) (k j0 j1 : Nat) (ns1 acc2 t6 d7 n8 i9 next10 m11 : AV) (h : Heap) : e0_ T k j0 (j1 + 1) ns1 acc2 t6 d7 n8 i9 next10 m11 h =
 oa (binV .lss .scalar m11 (.int .i64 5)) fun t22_1 =>
 cond2 t22_1
 (
 oa (binV .mul .scalar (.int .i64 5) i9) fun t26_2 =>
 oa (binV .add .scalar t26_2 m11) fun t28_3 =>
 oa (lenS ns1) fun t31_4 =>
 oa (binV .lss .scalar t28_3 t31_4) fun t32_5 =>
 cond2 t32_5
 (
 oa (idxS 1 ns1 t28_3) fun t36_6 =>
 oa (ld1 h t36_6) fun t37_7 =>
 ob (evalFn T k a6_ [t37_7, n8] h) fun t39_8 h_9 =>
 oa (idxA 5 1 next10 m11) fun t40_10 =>
 oh (stN 1 h_9 t40_10 t39_8) fun h_11 =>
 oa (binV .add .scalar m11 (.int .i64 1)) fun t24_12 =>
 e0_ T k j0 j1 ns1 acc2 t6 d7 n8 i9 next10 t24_12 h_11
 )
 (
 oa (binV .mul .scalar m11 acc2) fun t45_13 =>
 oa (binV .add .scalar i9 t45_13) fun t46_14 =>
 ob (evalFn T k a6_ [t46_14, n8] h) fun t48_15 h_16 =>
 oa (idxA 5 1 next10 m11) fun t49_17 =>
 oh (stN 1 h_16 t49_17 t48_15) fun h_18 =>
 oa (binV .add .scalar m11 (.int .i64 1)) fun t24_19 =>
 e0_ T k j0 j1 ns1 acc2 t6 d7 n8 i9 next10 t24_19 h_18
 )
 )
 (
 u4_ T k j0 ns1 acc2 t6 d7 n8 i9 next10 h
 ) := loopEq (by kernel_rfl)
theorem a0p (T : Tab) (k j0 : Nat) (ns1 acc2 t6 d7 n8 i9 : AV) (h : Heap) : d9_ T k (j0 + 1) ns1 acc2 t6 d7 n8 i9 h =
 oa (binV .lss .scalar i9 n8) fun t18_1 =>
 cond2 t18_1
 (
 ob (newVar h [.int .i64 0, .int .i64 0, .int .i64 0, .int .i64 0, .int .i64 0]) fun next10_2 h_3 =>
 e0_ T k j0 k ns1 acc2 t6 d7 n8 i9 next10_2 (.int .i64 0) h_3
 )
 (
 oa (ldN 2 h d7) fun t67_4 =>
 oh (stN 2 h t6 t67_4) fun h_5 =>
 oa (ldN 2 h_5 t6) fun t6_6 =>
 some (t6_6, h_5)
 ) := loopEq (by kernel_rfl)
theorem a6r (T : Tab) (k : Nat) (size0 ns1 acc2 : AV) (h : Heap) : runF T k u3_ [size0, ns1, acc2] h =
 ob (newVar h [.nils, .nils]) fun t6_1 h_2 =>
 ob (newVar h_2 [.nils, .nils]) fun d7_3 h_4 =>
 ob (evalFn T k a6_ [size0, (.int .i64 9)] h_4) fun t14_5 h_6 =>
 oa (binV .add .scalar (.int .i64 1) t14_5) fun t15_7 =>
 d9_ T k k ns1 acc2 t6_1 d7_3 t15_7 (.int .i64 0) h_6 := runEq (by kernel_rfl)
def a4C : Res := [(4, none)]
noncomputable def p4_ : MFn := ⟨15, a4C, .seq [4] (.region [tS 4 (.mv (tK 0))]) (.seq [0, 6, 7, 8] (.region [tS 6 (.mv (tT 0)), tS 7 (.mv (tT 1)), tS 8 (.bin .rem .scalar (tT 6) (tT 7)), tS 5 (.mv (tT 8))]) (.seq [1, 10, 11, 12, 13] (.seq [9] (.region [tS 9 (.mv (tT 5)), tS 10 (.bin .lss .scalar (tT 9) (tK 0))]) (.cond (tT 10) (.region [tS 11 (.mv (tT 5)), tS 12 (.mv (tT 1)), tS 13 (.bin .add .scalar (tT 11) (tT 12)), tS 5 (.mv (tT 13))]) .skip)) (.seq [5, 14] (.region [tS 14 (.mv (tT 5)), tS 4 (.mv (tT 14))]) .ret)))⟩
theorem a4D (T : Tab) (k : Nat) (at0 n1 : AV) (h : Heap) : runF T k p4_ [at0, n1] h =
 oa (binV .rem .scalar at0 n1) fun t8_1 =>
 oa (binV .lss .scalar t8_1 (.int .i64 0)) fun t10_2 =>
 cond2 t10_2
 (
 oa (binV .add .scalar t8_1 n1) fun t13_3 =>
 some (t13_3, h)
 )
 (
 some (t8_1, h)
 ) := runEq (by kernel_rfl)
noncomputable def a4d : MCode := .seq [] (.region [tS 26 (.bin .lss .scalar (tT 25) (tT 24))]) (.seq [26] (.cond (tT 26) .skip (.exit 0)) (.seq [9, 10, 35, 36, 37, 38, 39, 40, 41, 42, 43, 44, 45] (.block 1 (.seq [27] (.region [tS 27 (.mv (tT 25)), tS 9 (.mv (tT 27))]) (.seq [28, 29, 30] (.region [tS 28 (.mv (tT 8)), tS 29 (.mv (tT 9)), tS 30 (.idxSl 1 (tT 28) (tT 29)), ⟨none, .op (.store 1 (tT 30) (tK (-1))), none⟩]) (.seq [31, 32, 33] (.region [tS 31 (.mv (tT 7)), tS 32 (.mv (tT 9)), ⟨some 33, .call c6_ [(tT 31), (tT 32)], none⟩, tS 10 (.mv (tT 33))]) (.seq [34] (.region [tS 34 (.mv (tT 10)), tS 35 (.bin .geq .scalar (tT 34) (tK 0))]) (.cond (tT 35) (.region [tS 36 (.mv (tT 8)), tS 37 (.mv (tT 9)), tS 38 (.mv (tT 7)), tS 39 (.nilCheck (tT 38)), tS 40 (.fieldAddr 3 (tT 39)), tS 41 (.load none (tT 40)), tS 42 (.mv (tT 10)), tS 43 (.idxSl 1 (tT 41) (tT 42)), tS 44 (.load none (tT 43)), tS 45 (.idxSl 1 (tT 36) (tT 37)), ⟨none, .op (.store 1 (tT 45) (tT 44)), none⟩]) .skip)))))) (.region [tS 46 (.bin .add .scalar (tT 25) (tK 1)), tS 25 (.mv (tT 46))])))
def a4e : Res := [(6, none)]
noncomputable def a1l : MFn := ⟨48, a4e, .seq [0, 1, 6] (.region [tS 3 (.box (tT 0)), tS 4 (.box (tT 1)), tS 6 (.mv (.const .nils))]) (.seq [2, 4, 11, 12, 13, 14, 15, 16, 17] (.region [tS 11 (.load (some 2) (tT 3)), tS 12 (.load (some 2) (tT 4)), ⟨some 13, .call e4_ [(tT 11), (tT 12)], none⟩, tS 14 (.mv (tT 2)), tS 15 (.build [.int .i64 0, .int .i64 0] [(0, 1, (tT 14)), (1, 1, (tK 0))]), tS 16 (.buildSlice 2 1 [.int .i64 0, .int .i64 0] [(0, 2, (tT 15))]), ⟨some 17, .call a7_ [(tT 13), (.const (.fn a8_ [] [])), (tT 16)], none⟩, tS 7 (.mv (tT 17))]) (.seq [18, 19] (.region [tS 18 (.mv (tT 7)), ⟨some 19, .call b1_ [(tT 18)], none⟩]) (.seq [3, 20, 21, 22] (.region [tS 20 (.fieldAddr 0 (tT 3)), tS 21 (.load none (tT 20)), tS 22 (.mkSlice [.int .i64 0] 1 8 (tT 21) (tT 21)), tS 8 (.mv (tT 22))]) (.seq [7, 24, 25, 26] (.seq [23] (.region [tS 23 (.mv (tT 8)), tS 24 (.lenSl (tT 23)), tS 25 (.mv (tK 0))]) (.block 0 (.loop [46] a4d))) (.seq [8, 47] (.region [tS 47 (.mv (tT 8)), tS 6 (.mv (tT 47))]) .ret)))))⟩
noncomputable def o9_ (T : Tab) (k j0 : Nat) (s7 out8 t24 t25 : AV) (h : Heap) : Option (AV × Heap) :=
  loopB T k a4e j0 [46] a4d [.blk 0, .seq [7, 24, 25, 26] (.seq [8, 47] (.region [⟨some 47, .op (.mv (.tmp 8)), none⟩,
  ⟨some 6, .op (.mv (.tmp 47)), none⟩]) .ret)] [.undef, .undef, .undef, .undef, .undef, .undef, .undef, s7, out8, .undef, .undef, .undef, .undef, .undef, .undef, .undef, .undef, .undef, .undef, .undef, .undef, .undef, .undef, .undef, t24, t25, .undef, .undef, .undef, .undef, .undef, .undef, .undef, .undef, .undef, .undef, .undef, .undef, .undef, .undef, .undef, .undef, .undef, .undef, .undef, .undef, .undef, .undef] h
theorem a2s (T : Tab) (k j0 : Nat) (s7 out8 t24 t25 : AV) (h : Heap) : o9_ T k (j0 + 1) s7 out8 t24 t25 h =
 oa (binV .lss .scalar t25 t24) fun t26_1 =>
 cond2 t26_1
 (
 oa (idxS 1 out8 t25) fun t30_2 =>
 oh (stN 1 h t30_2 (.int .i64 (-1))) fun h_3 =>
 ob (evalFn T k c6_ [s7, t25] h_3) fun t33_4 h_5 =>
 oa (binV .geq .scalar t33_4 (.int .i64 0)) fun t35_6 =>
 cond2 t35_6
 (
 oa (nilCk s7) fun t39_7 =>
 oa (fldA 3 t39_7) fun t40_8 =>
 oa (ld1 h_5 t40_8) fun t41_9 =>
 oa (idxS 1 t41_9 t33_4) fun t43_10 =>
 oa (ld1 h_5 t43_10) fun t44_11 =>
 oa (idxS 1 out8 t25) fun t45_12 =>
 oh (stN 1 h_5 t45_12 t44_11) fun h_13 =>
 oa (binV .add .scalar t25 (.int .i64 1)) fun t46_14 =>
 o9_ T k j0 s7 out8 t24 t46_14 h_13
 )
 (
 oa (binV .add .scalar t25 (.int .i64 1)) fun t46_15 =>
 o9_ T k j0 s7 out8 t24 t46_15 h_5
 )
 )
 (
 some (out8, h)
 ) := loopEq (by kernel_rfl)
theorem a9r (T : Tab) (k : Nat) (n0 d1 from2 : AV) (h : Heap) : runF T k a1l [n0, d1, from2] h =
 ob (newVar h (AV.cells n0)) fun n3_1 h_2 =>
 ob (newVar h_2 (AV.cells d1)) fun d4_3 h_4 =>
 oa (ldN 2 h_4 n3_1) fun t11_5 =>
 oa (ldN 2 h_4 d4_3) fun t12_6 =>
 ob (evalFn T k e4_ [t11_5, t12_6] h_4) fun t13_7 h_8 =>
 oa (buildV [.int .i64 0, .int .i64 0] [(0, 1, from2), (1, 1, (.int .i64 0))]) fun t15_9 =>
 ob (buildSl 2 1 [.int .i64 0, .int .i64 0] [(0, 2, t15_9)] h_8) fun t16_10 h_11 =>
 ob (evalFn T k a7_ [t13_7, (.fn a8_ [] []), t16_10] h_11) fun t17_12 h_13 =>
 ob (evalFn T k b1_ [t17_12] h_13) fun t19_14 h_15 =>
 oa (fldA 0 n3_1) fun t20_16 =>
 oa (ld1 h_15 t20_16) fun t21_17 =>
 ob (mkSl [.int .i64 0] 1 8 t21_17 t21_17 h_15) fun t22_18 h_19 =>
 oa (lenS t22_18) fun t24_20 =>
 o9_ T k k t17_12 t22_18 t24_20 (.int .i64 0) h_19 := runEq (by kernel_rfl)
noncomputable def a0L : MCode := .seq [26] (.seq [22, 23, 24, 25] (.region [tS 22 (.mv (tT 11)), tS 23 (.fieldAddr 0 (tT 4)), tS 24 (.load none (tT 23)), tS 25 (.lenSl (tT 24)), tS 26 (.bin .lss .scalar (tT 22) (tT 25))]) (.cond (tT 26) .skip (.exit 2))) (.seq [58, 59, 60, 61, 62, 63, 64, 65] (.block 3 (.seq [29, 30, 31, 32, 33, 34, 35, 36, 37, 38, 39, 40, 41, 42, 43, 44, 45, 46, 47, 48, 49, 50, 51, 52, 53, 54, 55, 56, 57] (.region [tS 29 (.fieldAddr 1 (tT 4)), tS 30 (.load none (tT 29)), tS 31 (.mv (tT 11)), tS 32 (.idxSl 1 (tT 30) (tT 31)), tS 33 (.load none (tT 32)), tS 34 (.mv (tT 33)), ⟨some 35, .op (.mv (tT 7)), some (34, true)⟩, ⟨some 36, .op (.mv (tT 9)), some (34, true)⟩, ⟨some 37, .op (.idxSl 1 (tT 35) (tT 36)), some (34, true)⟩, ⟨some 38, .op (.load none (tT 37)), some (34, true)⟩, ⟨some 39, .op (.mv (tT 11)), some (34, true)⟩, ⟨some 40, .op (.idxSl 1 (tT 38) (tT 39)), some (34, true)⟩, ⟨some 41, .op (.load none (tT 40)), some (34, true)⟩, ⟨some 42, .op (.bin .geq .scalar (tT 41) (tK 0)), some (34, true)⟩, tS 43 (.pick (tT 34) (tT 42) (.const (.bool false))), tS 44 (.mv (tT 43)), ⟨some 45, .op (.mv (tT 10)), some (44, true)⟩, ⟨some 46, .op (.bin .lss .scalar (tT 45) (tK 0)), some (44, true)⟩, ⟨some 47, .op (.mv (tT 46)), some (44, true)⟩, ⟨some 48, .op (.mv (tT 7)), some (47, false)⟩, ⟨some 49, .op (.mv (tT 9)), some (47, false)⟩, ⟨some 50, .op (.idxSl 1 (tT 48) (tT 49)), some (47, false)⟩, ⟨some 51, .op (.load none (tT 50)), some (47, false)⟩, ⟨some 52, .op (.mv (tT 11)), some (47, false)⟩, ⟨some 53, .op (.idxSl 1 (tT 51) (tT 52)), some (47, false)⟩, ⟨some 54, .op (.load none (tT 53)), some (47, false)⟩, ⟨some 55, .op (.mv (tT 10)), some (47, false)⟩, ⟨some 56, .op (.bin .lss .scalar (tT 54) (tT 55)), some (47, false)⟩, ⟨some 57, .op (.pick (tT 47) (.const (.bool true)) (tT 56)), some (44, true)⟩, tS 58 (.pick (tT 44) (tT 57) (.const (.bool false)))]) (.cond (tT 58) (.region [tS 59 (.mv (tT 7)), tS 60 (.mv (tT 9)), tS 61 (.idxSl 1 (tT 59) (tT 60)), tS 62 (.load none (tT 61)), tS 63 (.mv (tT 11)), tS 64 (.idxSl 1 (tT 62) (tT 63)), tS 65 (.load none (tT 64)), tS 10 (.mv (tT 65))]) .skip))) (.region [tS 27 (.mv (tT 11)), tS 28 (.bin .add .scalar (tT 27) (tK 1)), tS 11 (.mv (tT 28))]))
noncomputable def r5_ : MCode := .region [tS 66 (.mv (tT 8)), tS 67 (.mv (tT 10)), tS 68 (.buildSlice 1 1 [.int .i64 0] [(0, 1, (tT 67))]), tS 69 (.append 1 8 (tT 66) (tT 68)), tS 8 (.mv (tT 69))]
noncomputable def l3_ : MCode := .region [tS 20 (.mv (tT 9)), tS 21 (.bin .add .scalar (tT 20) (tK 1)), tS 9 (.mv (tT 21))]
noncomputable def f1_ : MCode := .seq [19] (.seq [16, 17, 18] (.region [tS 16 (.mv (tT 9)), tS 17 (.fieldAddr 0 (tT 3)), tS 18 (.load none (tT 17)), tS 19 (.bin .lss .scalar (tT 16) (tT 18))]) (.cond (tT 19) .skip (.exit 0))) (.seq [10, 66, 67, 68, 69] (.block 1 (.seq [] (.region [tS 10 (.mv (tK (-1)))]) (.seq [11, 26] (.seq [] (.region [tS 11 (.mv (tK 0))]) (.block 2 (.loop [27, 28] a0L))) (.lab r5_)))) (.lab l3_))
def f2_ : Res := [(6, none)]
noncomputable def r6_ : MFn := ⟨71, f2_, .seq [0, 1, 6] (.region [tS 3 (.box (tT 0)), tS 4 (.box (tT 1)), tS 6 (.mv (.const .nils))]) (.seq [2, 12, 13, 14, 15] (.region [tS 12 (.load (some 2) (tT 3)), tS 13 (.load (some 2) (tT 4)), tS 14 (.mv (tT 2)), ⟨some 15, .call h2_ [(tT 12), (tT 13), (tT 14)], none⟩, tS 7 (.mv (tT 15))]) (.seq [] (.region [tS 8 (.mv (.const .nils))]) (.seq [3, 4, 7, 9, 19] (.seq [] (.region [tS 9 (.mv (tK 0))]) (.block 0 (.loop [20, 21] f1_))) (.seq [8, 70] (.region [tS 70 (.mv (tT 8)), tS 6 (.mv (tT 70))]) .ret))))⟩
noncomputable def f3_ (T : Tab) (k j0 : Nat) (n3 d4 c7 out8 v9 : AV) (h : Heap) : Option (AV × Heap) :=
  loopB T k f2_ j0 [20, 21] f1_ [.blk 0, .seq [3, 4, 7, 9, 19] (.seq [8, 70] (.region [⟨some 70, .op (.mv (.tmp 8)), none⟩,
  ⟨some 6, .op (.mv (.tmp 70)), none⟩]) .ret)] [.undef, .undef, .undef, n3, d4, .undef, .undef, c7, out8, v9, .undef, .undef, .undef, .undef, .undef, .undef, .undef, .undef, .undef, .undef, .undef, .undef, .undef, .undef, .undef, .undef, .undef, .undef, .undef, .undef, .undef, .undef, .undef, .undef, .undef, .undef, .undef, .undef, .undef, .undef, .undef, .undef, .undef, .undef, .undef, .undef, .undef, .undef, .undef, .undef, .undef, .undef, .undef, .undef, .undef, .undef, .undef, .undef, .undef, .undef, .undef, .undef, .undef, .undef, .undef, .undef, .undef, .undef, .undef, .undef, .undef] h
noncomputable def f4_ (T : Tab) (k j0 j1 : Nat) (n3 d4 c7 out8 v9 best10 s11 : AV) (h : Heap) : Option (AV × Heap) :=
  loopB T k f2_ j1 [27, 28] a0L [.blk 2, .seq [11, 26] (.lab r5_), .blk 1, .seq [10, 66, 67, 68, 69] (.lab l3_), .lp j0 [20, 21] f1_, .blk 0, .seq [3, 4, 7, 9, 19] (.seq [8, 70] (.region [⟨some 70, .op (.mv (.tmp 8)), none⟩,
  ⟨some 6, .op (.mv (.tmp 70)), none⟩]) .ret)] [.undef, .undef, .undef, n3, d4, .undef, .undef, c7, out8, v9, best10, s11, .undef, .undef, .undef, .undef, .undef, .undef, .undef, .undef, .undef, .undef, .undef, .undef, .undef, .undef, .undef, .undef, .undef, .undef, .undef, .undef, .undef, .undef, .undef, .undef, .undef, .undef, .undef, .undef, .undef, .undef, .undef, .undef, .undef, .undef, .undef, .undef, .undef, .undef, .undef, .undef, .undef, .undef, .undef, .undef, .undef, .undef, .undef, .undef, .undef, .undef, .undef, .undef, .undef, .undef, .undef, .undef, .undef, .undef, .undef] h
noncomputable def r7_ (T : Tab) (k j0 : Nat) (n3 d4 c7 out8 v9 best10 : AV) (h : Heap) : Option (AV × Heap) :=
  evB T k f2_ r5_ [.blk 1, .seq [10, 66, 67, 68, 69] (.lab l3_), .lp j0 [20, 21] f1_, .blk 0, .seq [3, 4, 7, 9, 19] (.seq [8, 70] (.region [⟨some 70, .op (.mv (.tmp 8)), none⟩,
  ⟨some 6, .op (.mv (.tmp 70)), none⟩]) .ret)] [.undef, .undef, .undef, n3, d4, .undef, .undef, c7, out8, v9, best10, .undef, .undef, .undef, .undef, .undef, .undef, .undef, .undef, .undef, .undef, .undef, .undef, .undef, .undef, .undef, .undef, .undef, .undef, .undef, .undef, .undef, .undef, .undef, .undef, .undef, .undef, .undef, .undef, .undef, .undef, .undef, .undef, .undef, .undef, .undef, .undef, .undef, .undef, .undef, .undef, .undef, .undef, .undef, .undef, .undef, .undef, .undef, .undef, .undef, .undef, .undef, .undef, .undef, .undef, .undef, .undef, .undef, .undef, .undef, .undef] h
noncomputable def a0M (T : Tab) (k j0 : Nat) (n3 d4 c7 out8 v9 : AV) (h : Heap) : Option (AV × Heap) :=
  evB T k f2_ l3_ [.lp j0 [20, 21] f1_, .blk 0, .seq [3, 4, 7, 9, 19] (.seq [8, 70] (.region [⟨some 70, .op (.mv (.tmp 8)), none⟩,
  ⟨some 6, .op (.mv (.tmp 70)), none⟩]) .ret)] [.undef, .undef, .undef, n3, d4, .undef, .undef, c7, out8, v9, .undef, .undef, .undef, .undef, .undef, .undef, .undef, .undef, .undef, .undef, .undef, .undef, .undef, .undef, .undef, .undef, .undef, .undef, .undef, .undef, .undef, .undef, .undef, .undef, .undef, .undef, .undef, .undef, .undef, .undef, .undef, .undef, .undef, .undef, .undef, .undef, .undef, .undef, .undef, .undef, .undef, .undef, .undef, .undef, .undef, .undef, .undef, .undef, .undef, .undef, .undef, .undef, .undef, .undef, .undef, .undef, .undef, .undef, .undef, .undef, .undef] h
theorem a3B (T : Tab) (k j0 : Nat) (n3 d4 c7 out8 v9 : AV) (h : Heap) : a0M T k j0 n3 d4 c7 out8 v9 h =
 oa (binV .add .scalar v9 (.int .i64 1)) fun t21_1 =>
 f3_ T k j0 n3 d4 c7 out8 t21_1 h := blockEq (by kernel_rfl)
theorem a3C (T : Tab) (k j0 : Nat) (n3 d4 c7 out8 v9 best10 : AV) (h : Heap) : r7_ T k j0 n3 d4 c7 out8 v9 best10 h =
 ob (buildSl 1 1 [.int .i64 0] [(0, 1, best10)] h) fun t68_1 h_2 =>
 ob (apnd 1 8 out8 t68_1 h_2) fun t69_3 h_4 =>
 a0M T k j0 n3 d4 c7 t69_3 v9 h_4 := blockEq (by kernel_rfl)
theorem y2_ (T : Tab) (k j0 j1 : Nat) (n3 d4 c7 out8 v9 best10 s11 : AV) (h : Heap) : f4_ T k j0 (j1 + 1) n3 d4 c7 out8 v9 best10 s11 h =
 oa (fldA 0 d4) fun t23_1 =>
 oa (ld1 h t23_1) fun t24_2 =>
 oa (lenS t24_2) fun t25_3 =>
 oa (binV .lss .scalar s11 t25_3) fun t26_4 =>
 cond2 t26_4
 (
 oa (fldA 1 d4) fun t29_5 =>
 oa (ld1 h t29_5) fun t30_6 =>
 oa (idxS 1 t30_6 s11) fun t32_7 =>
 oa (ld1 h t32_7) fun t33_8 =>
 ob (gd t33_8 true (some (c7, h)) h) fun t35_9 h_10 =>
 ob (gd t33_8 true (some (v9, h_10)) h_10) fun t36_11 h_12 =>
 ob (gd t33_8 true (pure1 h_12 (idxS 1 t35_9 t36_11)) h_12) fun t37_13 h_14 =>
 ob (gd t33_8 true (pure1 h_14 (ld1 h_14 t37_13)) h_14) fun t38_15 h_16 =>
 ob (gd t33_8 true (some (s11, h_16)) h_16) fun t39_17 h_18 =>
 ob (gd t33_8 true (pure1 h_18 (idxS 1 t38_15 t39_17)) h_18) fun t40_19 h_20 =>
 ob (gd t33_8 true (pure1 h_20 (ld1 h_20 t40_19)) h_20) fun t41_21 h_22 =>
 ob (gd t33_8 true (pure1 h_22 (binV .geq .scalar t41_21 (.int .i64 0))) h_22) fun t42_23 h_24 =>
 oa (pickV t33_8 t42_23 (.bool false)) fun t43_25 =>
 ob (gd t43_25 true (some (best10, h_24)) h_24) fun t45_26 h_27 =>
 ob (gd t43_25 true (pure1 h_27 (binV .lss .scalar t45_26 (.int .i64 0))) h_27) fun t46_28 h_29 =>
 ob (gd t43_25 true (some (t46_28, h_29)) h_29) fun t47_30 h_31 =>
 ob (gd t47_30 false (some (c7, h_31)) h_31) fun t48_32 h_33 =>
 ob (gd t47_30 false (some (v9, h_33)) h_33) fun t49_34 h_35 =>
 ob (gd t47_30 false (pure1 h_35 (idxS 1 t48_32 t49_34)) h_35) fun t50_36 h_37 =>
 ob (gd t47_30 false (pure1 h_37 (ld1 h_37 t50_36)) h_37) fun t51_38 h_39 =>
 ob (gd t47_30 false (some (s11, h_39)) h_39) fun t52_40 h_41 =>
 ob (gd t47_30 false (pure1 h_41 (idxS 1 t51_38 t52_40)) h_41) fun t53_42 h_43 =>
 ob (gd t47_30 false (pure1 h_43 (ld1 h_43 t53_42)) h_43) fun t54_44 h_45 =>
 ob (gd t47_30 false (some (best10, h_45)) h_45) fun t55_46 h_47 =>
 ob (gd t47_30 false (pure1 h_47 (binV .lss .scalar t54_44 t55_46)) h_47) fun t56_48 h_49 =>
 ob (gd t43_25 true (pure1 h_49 (pickV t47_30 (.bool true) t56_48)) h_49) fun t57_50 h_51 =>
 oa (pickV t43_25 t57_50 (.bool false)) fun t58_52 =>
 cond2 t58_52
 (
 oa (idxS 1 c7 v9) fun t61_53 =>
 oa (ld1 h_51 t61_53) fun t62_54 =>
 oa (idxS 1 t62_54 s11) fun t64_55 =>
 oa (ld1 h_51 t64_55) fun t65_56 =>
 oa (binV .add .scalar s11 (.int .i64 1)) fun t28_57 =>
 f4_ T k j0 j1 n3 d4 c7 out8 v9 t65_56 t28_57 h_51
 )
 (
 oa (binV .add .scalar s11 (.int .i64 1)) fun t28_58 =>
 f4_ T k j0 j1 n3 d4 c7 out8 v9 best10 t28_58 h_51
 )
 )
 (
 r7_ T k j0 n3 d4 c7 out8 v9 best10 h
 ) := loopEq (by kernel_rfl)
theorem y3_ (T : Tab) (k j0 : Nat) (n3 d4 c7 out8 v9 : AV) (h : Heap) : f3_ T k (j0 + 1) n3 d4 c7 out8 v9 h =
 oa (fldA 0 n3) fun t17_1 =>
 oa (ld1 h t17_1) fun t18_2 =>
 oa (binV .lss .scalar v9 t18_2) fun t19_3 =>
 cond2 t19_3
 (
 f4_ T k j0 k n3 d4 c7 out8 v9 (.int .i64 (-1)) (.int .i64 0) h
 )
 (
 some (out8, h)
 ) := loopEq (by kernel_rfl)
theorem a5H (T : Tab) (k : Nat) (n0 d1 from2 : AV) (h : Heap) : runF T k r6_ [n0, d1, from2] h =
 ob (newVar h (AV.cells n0)) fun n3_1 h_2 =>
 ob (newVar h_2 (AV.cells d1)) fun d4_3 h_4 =>
 oa (ldN 2 h_4 n3_1) fun t12_5 =>
 oa (ldN 2 h_4 d4_3) fun t13_6 =>
 ob (evalFn T k h2_ [t12_5, t13_6, from2] h_4) fun t15_7 h_8 =>
 f3_ T k k n3_1 d4_3 t15_7 .nils (.int .i64 0) h_8 := runEq (by kernel_rfl)
def a9s : Res := [(8, some (some 2)), (9, none)]
noncomputable def a1m : MFn := ⟨38, a9s, .seq [0, 1, 9] (.region [tS 4 (.box (tT 0)), tS 5 (.box (tT 1)), tS 8 (.alloc [.int .i64 0, .nils]), tS 9 (.mv (.const (.bool false)))]) (.seq [2, 4, 5, 12, 13, 14, 15, 16, 17, 18] (.region [tS 12 (.load (some 2) (tT 4)), tS 13 (.load (some 2) (tT 5)), ⟨some 14, .call e4_ [(tT 12), (tT 13)], none⟩, tS 15 (.mv (tT 2)), tS 16 (.build [.int .i64 0, .int .i64 0] [(0, 1, (tT 15)), (1, 1, (tK 0))]), tS 17 (.buildSlice 2 1 [.int .i64 0, .int .i64 0] [(0, 2, (tT 16))]), ⟨some 18, .call a7_ [(tT 14), (.const (.fn a8_ [] [])), (tT 17)], none⟩, tS 10 (.mv (tT 18))]) (.seq [19, 20] (.region [tS 19 (.mv (tT 10)), ⟨some 20, .call b1_ [(tT 19)], none⟩]) (.seq [3, 21, 22, 23] (.region [tS 21 (.mv (tT 10)), tS 22 (.mv (tT 3)), ⟨some 23, .call c6_ [(tT 21), (tT 22)], none⟩, tS 11 (.mv (tT 23))]) (.seq [25] (.seq [24] (.region [tS 24 (.mv (tT 11)), tS 25 (.bin .lss .scalar (tT 24) (tK 0))]) (.cond (tT 25) (.seq [10, 11, 25, 26] (.region [tS 26 (.build [.int .i64 0, .nils] []), ⟨none, .op (.store 2 (tT 8) (tT 26)), none⟩, tS 9 (.mv (.const (.bool false)))]) .ret) .skip)) (.seq [10, 11, 27, 28, 29, 30, 31, 32, 33, 34, 35, 36, 37] (.regionD 38 [tD 0 38 (.mv (tT 10)), tD 1 39 (.nilCheck (tT 38)), tD 2 40 (.fieldAddr 3 (tT 39)), tD 3 41 (.load none (tT 40)), tD 4 42 (.mv (tT 11)), tD 5 43 (.idxSl 1 (tT 41) (tT 42)), tD 6 44 (.load none (tT 43)), tD 7 45 (.mv (tT 10)), tD 8 46 (.mv (tT 11)), ⟨9, ⟨some 47, .call e9_ [(tT 45), (tT 46)], none⟩, [(41, tS 41 (.load none (tT 40))), (44, tS 44 (.load none (tT 43)))]⟩, tD 10 48 (.build [.int .i64 0, .nils] [(0, 1, (tT 44)), (1, 1, (tT 47))]), tD 11 49 (.store 2 (tT 8) (tT 48)), tD 12 50 (.mv (.const (.bool true)))] [(27, 38), (28, 39), (29, 40), (30, 41), (31, 42), (32, 43), (33, 44), (34, 45), (35, 46), (36, 47), (37, 48), (9, 50)]) .ret)))))⟩
theorem a9t (T : Tab) (k : Nat) (n0 d1 from2 to3 : AV) (h : Heap) : runF T k a1m [n0, d1, from2, to3] h =
 ob (newVar h (AV.cells n0)) fun n4_1 h_2 =>
 ob (newVar h_2 (AV.cells d1)) fun d5_3 h_4 =>
 ob (newVar h_4 [.int .i64 0, .nils]) fun t8_5 h_6 =>
 oa (ldN 2 h_6 n4_1) fun t12_7 =>
 oa (ldN 2 h_6 d5_3) fun t13_8 =>
 ob (evalFn T k e4_ [t12_7, t13_8] h_6) fun t14_9 h_10 =>
 oa (buildV [.int .i64 0, .int .i64 0] [(0, 1, from2), (1, 1, (.int .i64 0))]) fun t16_11 =>
 ob (buildSl 2 1 [.int .i64 0, .int .i64 0] [(0, 2, t16_11)] h_10) fun t17_12 h_13 =>
 ob (evalFn T k a7_ [t14_9, (.fn a8_ [] []), t17_12] h_13) fun t18_14 h_15 =>
 ob (evalFn T k b1_ [t18_14] h_15) fun t20_16 h_17 =>
 ob (evalFn T k c6_ [t18_14, to3] h_17) fun t23_18 h_19 =>
 oa (binV .lss .scalar t23_18 (.int .i64 0)) fun t25_20 =>
 cond2 t25_20
 (
 oa (buildV [.int .i64 0, .nils] []) fun t26_21 =>
 oh (stN 2 h_19 t8_5 t26_21) fun h_22 =>
 oa (ldN 2 h_22 t8_5) fun t8_23 =>
 some (.tup [t8_23, (.bool false)], h_22)
 )
 (
 oa (nilCk t18_14) fun t39_24 =>
 oa (fldA 3 t39_24) fun t40_25 =>
 oa (ld1 h_19 t40_25) fun t41_26 =>
 oa (idxS 1 t41_26 t23_18) fun t43_27 =>
 oa (ld1 h_19 t43_27) fun t44_28 =>
 ob (evalFn T k e9_ [t18_14, t23_18] h_19) fun t47_29 h_30 =>
 chk ((sameB (pure1 h_30 (ld1 h_30 t40_25)) t41_26 && (sameB (pure1 h_30 (ld1 h_30 t43_27)) t44_28 && true))) <|
 oa (buildV [.int .i64 0, .nils] [(0, 1, t44_28), (1, 1, t47_29)]) fun t48_31 =>
 oh (stN 2 h_30 t8_5 t48_31) fun h_32 =>
 oa (ldN 2 h_32 t8_5) fun t8_33 =>
 some (.tup [t8_33, (.bool true)], h_32)
 ) := runEq (by kernel_rfl)
noncomputable def a5q : MCode := .seq [] (.region [tS 37 (.bin .lss .scalar (tT 36) (tT 35))]) (.seq [37] (.cond (tT 37) .skip (.exit 0)) (.seq [13, 41, 42, 43, 44, 45, 46, 47] (.block 1 (.seq [38, 39, 40] (.region [tS 38 (.mv (tT 36)), tS 39 (.idxSl 1 (tT 34) (tT 36)), tS 40 (.load none (tT 39)), tS 13 (.mv (tT 38)), tS 14 (.mv (tT 40))]) (.seq [14] (.region [tS 41 (.mv (tT 14))]) (.cond (tT 41) (.region [tS 42 (.mv (tT 12)), tS 43 (.mv (tT 3)), tS 44 (.mv (tT 13)), tS 45 (.build [.int .i64 0, .int .i64 0] [(0, 1, (tT 43)), (1, 1, (tT 44))]), tS 46 (.buildSlice 2 1 [.int .i64 0, .int .i64 0] [(0, 2, (tT 45))]), tS 47 (.append 2 16 (tT 42) (tT 46)), tS 12 (.mv (tT 47))]) .skip)))) (.region [tS 48 (.bin .add .scalar (tT 36) (tK 1)), tS 36 (.mv (tT 48))])))
noncomputable def a5r : MCode := .seq [] (.region [tS 93 (.bin .lss .scalar (tT 92) (tT 91))]) (.seq [93] (.cond (tT 93) .skip (.exit 4)) (.seq [22, 95, 96, 97] (.block 5 (.seq [94] (.region [tS 94 (.mv (tT 92)), tS 22 (.mv (tT 94))]) (.region [tS 95 (.mv (tT 17)), tS 96 (.mv (tT 22)), ⟨some 97, .callV (tT 95) [(tT 96)], none⟩]))) (.region [tS 98 (.bin .add .scalar (tT 92) (tK 1)), tS 92 (.mv (tT 98))])))
noncomputable def a5s : MCode := .seq [] (.region [tS 115 (.bin .lss .scalar (tT 114) (tT 113))]) (.seq [115] (.cond (tT 115) .skip (.exit 6)) (.seq [24, 118, 119, 120, 121, 122, 123] (.block 7 (.seq [116, 117] (.region [tS 116 (.idxSl 3 (tT 112) (tT 114)), tS 117 (.load (some 3) (tT 116)), tS 24 (.alloc [.int .i64 0, .int .i64 0, .int .i64 0]), ⟨none, .op (.store 3 (tT 24) (tT 117)), none⟩]) (.region [tS 118 (.mv (tT 17)), tS 119 (.mv (tT 10)), tS 120 (.fieldAddr 0 (tT 24)), tS 121 (.load (some 2) (tT 120)), ⟨some 122, .call b3_ [(tT 119), (tT 121)], none⟩, ⟨some 123, .callV (tT 118) [(tT 122)], none⟩]))) (.region [tS 124 (.bin .add .scalar (tT 114) (tK 1)), tS 114 (.mv (tT 124))])))
noncomputable def a1Q : MCode := .seq [99, 100, 101] (.region [tS 99 (.mv (tT 17)), tS 100 (.mv (tT 20)), ⟨some 101, .callV (tT 99) [(tT 100)], none⟩]) (.seq [20, 102, 103, 104, 105, 106, 107, 108, 109, 110, 111] (.regionD 129 [tD 0 129 (.mv (tT 19)), tD 1 130 (.idxArr 2 1 (tT 18) (tT 129)), tD 2 131 (.load none (tT 130)), tD 3 132 (.nilCheck (tT 131)), tD 4 133 (.fieldAddr 1 (tT 132)), tD 5 134 (.load none (tT 133)), tD 6 135 (.mv (tT 10)), tD 7 136 (.mv (tT 10)), tD 8 137 (.mv (tT 20)), tD 12 141 (.mv (tK 0)), ⟨9, ⟨some 138, .call c8_ [(tT 136), (tT 137)], none⟩, [(131, tS 131 (.load none (tT 130))), (134, tS 134 (.load none (tT 133)))]⟩, ⟨10, ⟨some 139, .callV (tT 134) [(tT 135), (tT 138)], none⟩, []⟩, tD 11 140 (.lenSl (tT 139))] [(102, 129), (103, 130), (104, 131), (105, 132), (106, 133), (107, 134), (108, 135), (109, 136), (110, 137), (111, 138), (112, 139), (113, 140), (114, 141)]) (.block 6 (.loop [124] a5s)))
noncomputable def r0_ : MCode := .region [tS 71 (.mv (tT 19)), tS 72 (.bin .sub .scalar (tK 1) (tT 71)), tS 19 (.mv (tT 72))]
noncomputable def n2_ : MCode := .seq [70] (.seq [56, 57, 58, 59, 60, 61, 62, 63, 64, 65, 66, 67, 68, 69] (.regionD 129 [tD 0 129 (.load none (tT 16)), tD 1 130 (.bin .lss .scalar (tT 129) (tK 0)), tD 2 131 (.mv (tT 130)), ⟨3, ⟨some 132, .op (.load none (tT 11)), some (131, false)⟩, []⟩, ⟨4, ⟨some 133, .op (.nilCheck (tT 132)), some (131, false)⟩, []⟩, ⟨5, ⟨some 134, .op (.fieldAddr 6 (tT 133)), some (131, false)⟩, []⟩, ⟨6, ⟨some 135, .op (.load none (tT 134)), some (131, false)⟩, []⟩, ⟨7, ⟨some 136, .op (.load none (tT 15)), some (131, false)⟩, []⟩, ⟨8, ⟨some 137, .op (.nilCheck (tT 136)), some (131, false)⟩, []⟩, ⟨9, ⟨some 138, .op (.fieldAddr 6 (tT 137)), some (131, false)⟩, []⟩, ⟨10, ⟨some 139, .op (.load none (tT 138)), some (131, false)⟩, []⟩, ⟨11, ⟨some 140, .op (.bin .add .scalar (tT 135) (tT 139)), some (131, false)⟩, []⟩, ⟨12, ⟨some 141, .op (.load none (tT 16)), some (131, false)⟩, []⟩, ⟨13, ⟨some 142, .op (.bin .lss .scalar (tT 140) (tT 141)), some (131, false)⟩, []⟩, tD 14 143 (.pick (tT 131) (.const (.bool true)) (tT 142))] [(56, 129), (57, 130), (58, 131), (59, 132), (60, 133), (61, 134), (62, 135), (63, 136), (64, 137), (65, 138), (66, 139), (67, 140), (68, 141), (69, 142), (70, 143)]) (.cond (tT 70) .skip (.exit 2))) (.seq [112, 113, 114, 115] (.block 3 (.seq [73, 74, 75, 76, 77, 78, 79] (.region [tS 74 (.mv (tT 19)), tS 75 (.idxArr 2 1 (tT 18) (tT 74)), tS 76 (.load none (tT 75)), ⟨some 77, .call b6_ [(tT 76)], none⟩, tS 73 (.mv (tT 77)), tS 78 (.extract 0 (tT 73)), tS 79 (.extract 1 (tT 73)), tS 20 (.mv (tT 78)), tS 21 (.mv (tT 79))]) (.seq [81] (.seq [21, 80] (.region [tS 80 (.mv (tT 21)), tS 81 (.un .not (tT 80))]) (.cond (tT 81) (.seq [10, 15, 18, 19, 20, 81, 82, 83, 84, 85, 86] (.region [tS 82 (.mv (tT 19)), tS 83 (.bin .sub .scalar (tK 1) (tT 82)), tS 84 (.idxArr 2 1 (tT 18) (tT 83)), tS 85 (.load none (tT 84)), ⟨some 86, .call b1_ [(tT 85)], none⟩]) (.seq [17, 91, 92, 93] (.seq [11, 87, 88, 89, 90] (.region [tS 87 (.load none (tT 11)), tS 88 (.nilCheck (tT 87)), tS 89 (.fieldAddr 3 (tT 88)), tS 90 (.load none (tT 89)), tS 91 (.lenSl (tT 90)), tS 92 (.mv (tK 0))]) (.block 4 (.loop [98] a5r))) (.exit 2))) .skip)) (.lab a1Q)))) (.lab r0_))
noncomputable def j6_ : MCode := .seq [16, 125, 126, 127, 128] (.regionD 129 [tD 0 129 (.load none (tT 16)), tD 1 130 (.mm true (tT 129) (tK 0)), tD 2 131 (.load none (tT 16)), tD 3 132 (.bin .geq .scalar (tT 131) (tK 0)), tD 4 133 (.mv (tT 130)), tD 5 134 (.mv (tT 132))] [(125, 129), (126, 130), (127, 131), (128, 132), (8, 133), (9, 134)]) .ret
noncomputable def a1R : MCode := .seq [12, 49, 50, 51] (.region [tS 49 (.mv (tT 10)), tS 50 (.mv (tT 12)), ⟨some 51, .call a7_ [(tT 49), (.const (.fn c7_ [] [])), (tT 50)], none⟩, tS 15 (.alloc [.nilp]), ⟨none, .op (.store 1 (tT 15) (tT 51)), none⟩]) (.seq [] (.region [tS 16 (.alloc [.int .i64 0]), ⟨none, .op (.store 1 (tT 16) (tK (-1))), none⟩]) (.seq [52] (.region [tS 52 (.mkFn k9_ [] [(tT 11), (tT 15), (tT 16)]), tS 17 (.mv (tT 52))]) (.seq [53, 54, 55] (.region [tS 53 (.load none (tT 11)), tS 54 (.load none (tT 15)), tS 55 (.build [.nilp, .nilp] [(0, 1, (tT 53)), (1, 1, (tT 54))]), tS 18 (.alloc [.nilp, .nilp]), ⟨none, .op (.store 2 (tT 18) (tT 55)), none⟩]) (.seq [10, 11, 15, 17, 18, 19, 70] (.seq [] (.region [tS 19 (.mv (tK 0))]) (.block 2 (.loop [71, 72] n2_))) (.lab j6_)))))
def d3_ : Res := [(8, none), (9, none)]
noncomputable def a1S : MFn := ⟨129, d3_, .seq [0, 1, 8, 9] (.region [tS 4 (.box (tT 0)), tS 5 (.box (tT 1)), tS 8 (.mv (tK 0)), tS 9 (.mv (.const (.bool false)))]) (.seq [4, 25, 26, 27] (.region [tS 25 (.load (some 2) (tT 4)), tS 26 (.load (some 2) (tT 5)), ⟨some 27, .call e4_ [(tT 25), (tT 26)], none⟩, tS 10 (.mv (tT 27))]) (.seq [2, 28, 29, 30, 31, 32] (.region [tS 28 (.mv (tT 10)), tS 29 (.mv (tT 2)), tS 30 (.build [.int .i64 0, .int .i64 0] [(0, 1, (tT 29)), (1, 1, (tK 0))]), tS 31 (.buildSlice 2 1 [.int .i64 0, .int .i64 0] [(0, 2, (tT 30))]), ⟨some 32, .call a7_ [(tT 28), (.const (.fn a8_ [] [])), (tT 31)], none⟩, tS 11 (.alloc [.nilp]), ⟨none, .op (.store 1 (tT 11) (tT 32)), none⟩]) (.seq [] (.region [tS 12 (.mv (.const .nils))]) (.seq [3, 34, 35, 36, 37] (.seq [5, 33] (.region [tS 33 (.fieldAddr 1 (tT 5)), tS 34 (.load none (tT 33)), tS 35 (.lenSl (tT 34)), tS 36 (.mv (tK 0))]) (.block 0 (.loop [48] a5q))) (.lab a1R)))))⟩
noncomputable def r1_ (T : Tab) (k j0 : Nat) (to3 g10 there11 ends12 t34 t35 t36 : AV) (h : Heap) : Option (AV × Heap) :=
  loopB T k d3_ j0 [48] a5q [.blk 0, .seq [3, 34, 35, 36, 37] (.lab a1R)] [.u, .u, .u, to3, .u, .u, .u, .u, .u, .u, g10, there11, ends12, .u, .u, .u, .u, .u, .u, .u, .u, .u, .u, .u, .u, .u, .u, .u, .u, .u, .u, .u, .u, .u, t34, t35, t36, .u, .u, .u, .u, .u, .u, .u, .u, .u, .u, .u, .u, .u, .u, .u, .u, .u, .u, .u, .u, .u, .u, .u, .u, .u, .u, .u, .u, .u, .u, .u, .u, .u, .u, .u, .u, .u, .u, .u, .u, .u, .u, .u, .u, .u, .u, .u, .u, .u, .u, .u, .u, .u, .u, .u, .u, .u, .u, .u, .u, .u, .u, .u, .u, .u, .u, .u, .u, .u, .u, .u, .u, .u, .u, .u, .u, .u, .u, .u, .u, .u, .u, .u, .u, .u, .u, .u, .u, .u, .u, .u, .u] h
noncomputable def a1T (T : Tab) (k : Nat) (g10 there11 ends12 : AV) (h : Heap) : Option (AV × Heap) :=
  evB T k d3_ a1R [] [.u, .u, .u, .u, .u, .u, .u, .u, .u, .u, g10, there11, ends12, .u, .u, .u, .u, .u, .u, .u, .u, .u, .u, .u, .u, .u, .u, .u, .u, .u, .u, .u, .u, .u, .u, .u, .u, .u, .u, .u, .u, .u, .u, .u, .u, .u, .u, .u, .u, .u, .u, .u, .u, .u, .u, .u, .u, .u, .u, .u, .u, .u, .u, .u, .u, .u, .u, .u, .u, .u, .u, .u, .u, .u, .u, .u, .u, .u, .u, .u, .u, .u, .u, .u, .u, .u, .u, .u, .u, .u, .u, .u, .u, .u, .u, .u, .u, .u, .u, .u, .u, .u, .u, .u, .u, .u, .u, .u, .u, .u, .u, .u, .u, .u, .u, .u, .u, .u, .u, .u, .u, .u, .u, .u, .u, .u, .u, .u, .u] h
noncomputable def y4_ (T : Tab) (k j0 : Nat) (g10 there11 back15 least16 meet17 sides18 k19 : AV) (h : Heap) : Option (AV × Heap) :=
  loopB T k d3_ j0 [71, 72] n2_ [.blk 2, .seq [10, 11, 15, 17, 18, 19, 70] (.lab j6_)] [.u, .u, .u, .u, .u, .u, .u, .u, .u, .u, g10, there11, .u, .u, .u, back15, least16, meet17, sides18, k19, .u, .u, .u, .u, .u, .u, .u, .u, .u, .u, .u, .u, .u, .u, .u, .u, .u, .u, .u, .u, .u, .u, .u, .u, .u, .u, .u, .u, .u, .u, .u, .u, .u, .u, .u, .u, .u, .u, .u, .u, .u, .u, .u, .u, .u, .u, .u, .u, .u, .u, .u, .u, .u, .u, .u, .u, .u, .u, .u, .u, .u, .u, .u, .u, .u, .u, .u, .u, .u, .u, .u, .u, .u, .u, .u, .u, .u, .u, .u, .u, .u, .u, .u, .u, .u, .u, .u, .u, .u, .u, .u, .u, .u, .u, .u, .u, .u, .u, .u, .u, .u, .u, .u, .u, .u, .u, .u, .u, .u] h
noncomputable def y5_ (T : Tab) (k j0 j1 : Nat) (least16 meet17 t91 t92 : AV) (h : Heap) : Option (AV × Heap) :=
  loopB T k d3_ j1 [98] a5r [.blk 4, .seq [17, 91, 92, 93] (.exit 2), .seq [81] (.lab a1Q), .blk 3, .seq [112, 113, 114, 115] (.lab r0_), .lp j0 [71, 72] n2_, .blk 2, .seq [10, 11, 15, 17, 18, 19, 70] (.lab j6_)] [.u, .u, .u, .u, .u, .u, .u, .u, .u, .u, .u, .u, .u, .u, .u, .u, least16, meet17, .u, .u, .u, .u, .u, .u, .u, .u, .u, .u, .u, .u, .u, .u, .u, .u, .u, .u, .u, .u, .u, .u, .u, .u, .u, .u, .u, .u, .u, .u, .u, .u, .u, .u, .u, .u, .u, .u, .u, .u, .u, .u, .u, .u, .u, .u, .u, .u, .u, .u, .u, .u, .u, .u, .u, .u, .u, .u, .u, .u, .u, .u, .u, .u, .u, .u, .u, .u, .u, .u, .u, .u, .u, t91, t92, .u, .u, .u, .u, .u, .u, .u, .u, .u, .u, .u, .u, .u, .u, .u, .u, .u, .u, .u, .u, .u, .u, .u, .u, .u, .u, .u, .u, .u, .u, .u, .u, .u, .u, .u, .u] h
noncomputable def y6_ (T : Tab) (k : Nat) (least16 : AV) (h : Heap) : Option (AV × Heap) :=
  evB T k d3_ j6_ [] [.u, .u, .u, .u, .u, .u, .u, .u, .u, .u, .u, .u, .u, .u, .u, .u, least16, .u, .u, .u, .u, .u, .u, .u, .u, .u, .u, .u, .u, .u, .u, .u, .u, .u, .u, .u, .u, .u, .u, .u, .u, .u, .u, .u, .u, .u, .u, .u, .u, .u, .u, .u, .u, .u, .u, .u, .u, .u, .u, .u, .u, .u, .u, .u, .u, .u, .u, .u, .u, .u, .u, .u, .u, .u, .u, .u, .u, .u, .u, .u, .u, .u, .u, .u, .u, .u, .u, .u, .u, .u, .u, .u, .u, .u, .u, .u, .u, .u, .u, .u, .u, .u, .u, .u, .u, .u, .u, .u, .u, .u, .u, .u, .u, .u, .u, .u, .u, .u, .u, .u, .u, .u, .u, .u, .u, .u, .u, .u, .u] h
noncomputable def a1U (T : Tab) (k j0 : Nat) (g10 there11 back15 least16 meet17 sides18 k19 id20 : AV) (h : Heap) : Option (AV × Heap) :=
  evB T k d3_ a1Q [.blk 3, .seq [112, 113, 114, 115] (.lab r0_), .lp j0 [71, 72] n2_, .blk 2, .seq [10, 11, 15, 17, 18, 19, 70] (.lab j6_)] [.u, .u, .u, .u, .u, .u, .u, .u, .u, .u, g10, there11, .u, .u, .u, back15, least16, meet17, sides18, k19, id20, .u, .u, .u, .u, .u, .u, .u, .u, .u, .u, .u, .u, .u, .u, .u, .u, .u, .u, .u, .u, .u, .u, .u, .u, .u, .u, .u, .u, .u, .u, .u, .u, .u, .u, .u, .u, .u, .u, .u, .u, .u, .u, .u, .u, .u, .u, .u, .u, .u, .u, .u, .u, .u, .u, .u, .u, .u, .u, .u, .u, .u, .u, .u, .u, .u, .u, .u, .u, .u, .u, .u, .u, .u, .u, .u, .u, .u, .u, .u, .u, .u, .u, .u, .u, .u, .u, .u, .u, .u, .u, .u, .u, .u, .u, .u, .u, .u, .u, .u, .u, .u, .u, .u, .u, .u, .u, .u, .u] h
noncomputable def y7_ (T : Tab) (k j0 j1 : Nat) (g10 there11 back15 least16 meet17 sides18 k19 t112 t113 t114 : AV) (h : Heap) : Option (AV × Heap) :=
  loopB T k d3_ j1 [124] a5s [.blk 6, .blk 3, .seq [112, 113, 114, 115] (.lab r0_), .lp j0 [71, 72] n2_, .blk 2, .seq [10, 11, 15, 17, 18, 19, 70] (.lab j6_)] [.u, .u, .u, .u, .u, .u, .u, .u, .u, .u, g10, there11, .u, .u, .u, back15, least16, meet17, sides18, k19, .u, .u, .u, .u, .u, .u, .u, .u, .u, .u, .u, .u, .u, .u, .u, .u, .u, .u, .u, .u, .u, .u, .u, .u, .u, .u, .u, .u, .u, .u, .u, .u, .u, .u, .u, .u, .u, .u, .u, .u, .u, .u, .u, .u, .u, .u, .u, .u, .u, .u, .u, .u, .u, .u, .u, .u, .u, .u, .u, .u, .u, .u, .u, .u, .u, .u, .u, .u, .u, .u, .u, .u, .u, .u, .u, .u, .u, .u, .u, .u, .u, .u, .u, .u, .u, .u, .u, .u, .u, .u, .u, .u, t112, t113, t114, .u, .u, .u, .u, .u, .u, .u, .u, .u, .u, .u, .u, .u, .u] h
noncomputable def y8_ (T : Tab) (k j0 : Nat) (g10 there11 back15 least16 meet17 sides18 k19 : AV) (h : Heap) : Option (AV × Heap) :=
  evB T k d3_ r0_ [.lp j0 [71, 72] n2_, .blk 2, .seq [10, 11, 15, 17, 18, 19, 70] (.lab j6_)] [.u, .u, .u, .u, .u, .u, .u, .u, .u, .u, g10, there11, .u, .u, .u, back15, least16, meet17, sides18, k19, .u, .u, .u, .u, .u, .u, .u, .u, .u, .u, .u, .u, .u, .u, .u, .u, .u, .u, .u, .u, .u, .u, .u, .u, .u, .u, .u, .u, .u, .u, .u, .u, .u, .u, .u, .u, .u, .u, .u, .u, .u, .u, .u, .u, .u, .u, .u, .u, .u, .u, .u, .u, .u, .u, .u, .u, .u, .u, .u, .u, .u, .u, .u, .u, .u, .u, .u, .u, .u, .u, .u, .u, .u, .u, .u, .u, .u, .u, .u, .u, .u, .u, .u, .u, .u, .u, .u, .u, .u, .u, .u, .u, .u, .u, .u, .u, .u, .u, .u, .u, .u, .u, .u, .u, .u, .u, .u, .u, .u] h
theorem a8g (T : Tab) (k : Nat) (least16 : AV) (h : Heap) : y6_ T k least16 h =
 oa (ld1 h least16) fun t129_1 =>
 oa (mmV true t129_1 (.int .i64 0)) fun t130_2 =>
 oa (ld1 h least16) fun t131_3 =>
 oa (binV .geq .scalar t131_3 (.int .i64 0)) fun t132_4 =>
 some (.tup [t130_2, t132_4], h) := blockEq (by kernel_rfl)
theorem a2S (T : Tab) (k j0 j1 : Nat) (least16 meet17 t91 t92 : AV) (h : Heap) : y5_ T k j0 (j1 + 1) least16 meet17 t91 t92 h =
 oa (binV .lss .scalar t92 t91) fun t93_1 =>
 cond2 t93_1
 (
 ob (callVal (evalFn T k) meet17 [t92] h) fun t97_2 h_3 =>
 oa (binV .add .scalar t92 (.int .i64 1)) fun t98_4 =>
 y5_ T k j0 j1 least16 meet17 t91 t98_4 h_3
 )
 (
 y6_ T k least16 h
 ) := loopEq (by kernel_rfl)
theorem a2T (T : Tab) (k j0 : Nat) (g10 there11 back15 least16 meet17 sides18 k19 : AV) (h : Heap) : y8_ T k j0 g10 there11 back15 least16 meet17 sides18 k19 h =
 oa (binV .sub .scalar (.int .i64 1) k19) fun t72_1 =>
 y4_ T k j0 g10 there11 back15 least16 meet17 sides18 t72_1 h := blockEq (by kernel_rfl)
theorem a2U (T : Tab) (k j0 j1 : Nat) (g10 there11 back15 least16 meet17 sides18 k19 t112 t113 t114 : AV) (h : Heap) : y7_ T k j0 (j1 + 1) g10 there11 back15 least16 meet17 sides18 k19 t112 t113 t114 h =
 oa (binV .lss .scalar t114 t113) fun t115_1 =>
 cond2 t115_1
 (
 oa (idxS 3 t112 t114) fun t116_2 =>
 oa (ldN 3 h t116_2) fun t117_3 =>
 ob (newVar h [.int .i64 0, .int .i64 0, .int .i64 0]) fun h24_4 h_5 =>
 oh (stN 3 h_5 h24_4 t117_3) fun h_6 =>
 oa (fldA 0 h24_4) fun t120_7 =>
 oa (ldN 2 h_6 t120_7) fun t121_8 =>
 ob (evalFn T k b3_ [g10, t121_8] h_6) fun t122_9 h_10 =>
 ob (callVal (evalFn T k) meet17 [t122_9] h_10) fun t123_11 h_12 =>
 oa (binV .add .scalar t114 (.int .i64 1)) fun t124_13 =>
 y7_ T k j0 j1 g10 there11 back15 least16 meet17 sides18 k19 t112 t113 t124_13 h_12
 )
 (
 y8_ T k j0 g10 there11 back15 least16 meet17 sides18 k19 h
 ) := loopEq (by kernel_rfl)
theorem a8h (T : Tab) (k j0 : Nat) (g10 there11 back15 least16 meet17 sides18 k19 id20 : AV) (h : Heap) : a1U T k j0 g10 there11 back15 least16 meet17 sides18 k19 id20 h =
 ob (callVal (evalFn T k) meet17 [id20] h) fun t101_1 h_2 =>
 oa (idxA 2 1 sides18 k19) fun t130_3 =>
 oa (ld1 h_2 t130_3) fun t131_4 =>
 oa (nilCk t131_4) fun t132_5 =>
 oa (fldA 1 t132_5) fun t133_6 =>
 oa (ld1 h_2 t133_6) fun t134_7 =>
 ob (evalFn T k c8_ [g10, id20] h_2) fun t138_8 h_9 =>
 chk ((sameB (pure1 h_9 (ld1 h_9 t130_3)) t131_4 && (sameB (pure1 h_9 (ld1 h_9 t133_6)) t134_7 && true))) <|
 ob (callVal (evalFn T k) t134_7 [g10, t138_8] h_9) fun t139_10 h_11 =>
 oa (lenS t139_10) fun t140_12 =>
 y7_ T k j0 k g10 there11 back15 least16 meet17 sides18 k19 t139_10 t140_12 (.int .i64 0) h_11 := blockEq (by kernel_rfl)
theorem a8i (T : Tab) (k j0 : Nat) (g10 there11 back15 least16 meet17 sides18 k19 : AV) (h : Heap) : y4_ T k (j0 + 1) g10 there11 back15 least16 meet17 sides18 k19 h =
 oa (ld1 h least16) fun t129_1 =>
 oa (binV .lss .scalar t129_1 (.int .i64 0)) fun t130_2 =>
 ob (gd t130_2 false (pure1 h (ld1 h there11)) h) fun t132_3 h_4 =>
 ob (gd t130_2 false (pure1 h_4 (nilCk t132_3)) h_4) fun t133_5 h_6 =>
 ob (gd t130_2 false (pure1 h_6 (fldA 6 t133_5)) h_6) fun t134_7 h_8 =>
 ob (gd t130_2 false (pure1 h_8 (ld1 h_8 t134_7)) h_8) fun t135_9 h_10 =>
 ob (gd t130_2 false (pure1 h_10 (ld1 h_10 back15)) h_10) fun t136_11 h_12 =>
 ob (gd t130_2 false (pure1 h_12 (nilCk t136_11)) h_12) fun t137_13 h_14 =>
 ob (gd t130_2 false (pure1 h_14 (fldA 6 t137_13)) h_14) fun t138_15 h_16 =>
 ob (gd t130_2 false (pure1 h_16 (ld1 h_16 t138_15)) h_16) fun t139_17 h_18 =>
 ob (gd t130_2 false (pure1 h_18 (binV .add .scalar t135_9 t139_17)) h_18) fun t140_19 h_20 =>
 ob (gd t130_2 false (pure1 h_20 (ld1 h_20 least16)) h_20) fun t141_21 h_22 =>
 ob (gd t130_2 false (pure1 h_22 (binV .lss .scalar t140_19 t141_21)) h_22) fun t142_23 h_24 =>
 oa (pickV t130_2 (.bool true) t142_23) fun t143_25 =>
 cond2 t143_25
 (
 oa (idxA 2 1 sides18 k19) fun t75_26 =>
 oa (ld1 h_24 t75_26) fun t76_27 =>
 ob (evalFn T k b6_ [t76_27] h_24) fun t77_28 h_29 =>
 oa (extr 0 t77_28) fun t78_30 =>
 oa (extr 1 t77_28) fun t79_31 =>
 oa (unV .not t79_31) fun t81_32 =>
 cond2 t81_32
 (
 oa (binV .sub .scalar (.int .i64 1) k19) fun t83_33 =>
 oa (idxA 2 1 sides18 t83_33) fun t84_34 =>
 oa (ld1 h_29 t84_34) fun t85_35 =>
 ob (evalFn T k b1_ [t85_35] h_29) fun t86_36 h_37 =>
 oa (ld1 h_37 there11) fun t87_38 =>
 oa (nilCk t87_38) fun t88_39 =>
 oa (fldA 3 t88_39) fun t89_40 =>
 oa (ld1 h_37 t89_40) fun t90_41 =>
 oa (lenS t90_41) fun t91_42 =>
 y5_ T k j0 k least16 meet17 t91_42 (.int .i64 0) h_37
 )
 (
 a1U T k j0 g10 there11 back15 least16 meet17 sides18 k19 t78_30 h_29
 )
 )
 (
 y6_ T k least16 h_24
 ) := loopEq (by kernel_rfl)
theorem a8j (T : Tab) (k : Nat) (g10 there11 ends12 : AV) (h : Heap) : a1T T k g10 there11 ends12 h =
 ob (evalFn T k a7_ [g10, (.fn c7_ [] []), ends12] h) fun t51_1 h_2 =>
 ob (newVar h_2 [.nilp]) fun back15_3 h_4 =>
 oh (stN 1 h_4 back15_3 t51_1) fun h_5 =>
 ob (newVar h_5 [.int .i64 0]) fun least16_6 h_7 =>
 oh (stN 1 h_7 least16_6 (.int .i64 (-1))) fun h_8 =>
 oa (ld1 h_8 there11) fun t53_9 =>
 oa (ld1 h_8 back15_3) fun t54_10 =>
 oa (buildV [.nilp, .nilp] [(0, 1, t53_9), (1, 1, t54_10)]) fun t55_11 =>
 ob (newVar h_8 [.nilp, .nilp]) fun sides18_12 h_13 =>
 oh (stN 2 h_13 sides18_12 t55_11) fun h_14 =>
 y4_ T k k g10 there11 back15_3 least16_6 (.fn k9_ [] [there11, back15_3, least16_6]) sides18_12 (.int .i64 0) h_14 := blockEq (by kernel_rfl)
theorem a2V (T : Tab) (k j0 : Nat) (to3 g10 there11 ends12 t34 t35 t36 : AV) (h : Heap) : r1_ T k (j0 + 1) to3 g10 there11 ends12 t34 t35 t36 h =
 oa (binV .lss .scalar t36 t35) fun t37_1 =>
 cond2 t37_1
 (
 oa (idxS 1 t34 t36) fun t39_2 =>
 oa (ld1 h t39_2) fun t40_3 =>
 cond2 t40_3
 (
 oa (buildV [.int .i64 0, .int .i64 0] [(0, 1, to3), (1, 1, t36)]) fun t45_4 =>
 ob (buildSl 2 1 [.int .i64 0, .int .i64 0] [(0, 2, t45_4)] h) fun t46_5 h_6 =>
 ob (apnd 2 16 ends12 t46_5 h_6) fun t47_7 h_8 =>
 oa (binV .add .scalar t36 (.int .i64 1)) fun t48_9 =>
 r1_ T k j0 to3 g10 there11 t47_7 t34 t35 t48_9 h_8
 )
 (
 oa (binV .add .scalar t36 (.int .i64 1)) fun t48_10 =>
 r1_ T k j0 to3 g10 there11 ends12 t34 t35 t48_10 h
 )
 )
 (
 a1T T k g10 there11 ends12 h
 ) := loopEq (by kernel_rfl)
theorem a9P (T : Tab) (k : Nat) (n0 d1 from2 to3 : AV) (h : Heap) : runF T k a1S [n0, d1, from2, to3] h =
 ob (newVar h (AV.cells n0)) fun n4_1 h_2 =>
 ob (newVar h_2 (AV.cells d1)) fun d5_3 h_4 =>
 oa (ldN 2 h_4 n4_1) fun t25_5 =>
 oa (ldN 2 h_4 d5_3) fun t26_6 =>
 ob (evalFn T k e4_ [t25_5, t26_6] h_4) fun t27_7 h_8 =>
 oa (buildV [.int .i64 0, .int .i64 0] [(0, 1, from2), (1, 1, (.int .i64 0))]) fun t30_9 =>
 ob (buildSl 2 1 [.int .i64 0, .int .i64 0] [(0, 2, t30_9)] h_8) fun t31_10 h_11 =>
 ob (evalFn T k a7_ [t27_7, (.fn a8_ [] []), t31_10] h_11) fun t32_12 h_13 =>
 ob (newVar h_13 [.nilp]) fun there11_14 h_15 =>
 oh (stN 1 h_15 there11_14 t32_12) fun h_16 =>
 oa (fldA 1 d5_3) fun t33_17 =>
 oa (ld1 h_16 t33_17) fun t34_18 =>
 oa (lenS t34_18) fun t35_19 =>
 r1_ T k k to3 t27_7 there11_14 .nils t34_18 t35_19 (.int .i64 0) h_16 := runEq (by kernel_rfl)
def a6s : Res := [(8, none), (9, none)]
noncomputable def u5_ : MFn := ⟨24, a6s, .seq [0, 1, 8, 9] (.region [tS 4 (.box (tT 0)), tS 5 (.box (tT 1)), tS 8 (.mv (tK 0)), tS 9 (.mv (.const (.bool false)))]) (.seq [2, 4, 5, 11, 12, 13, 14] (.region [tS 11 (.load (some 2) (tT 4)), tS 12 (.load (some 2) (tT 5)), tS 13 (.mv (tT 2)), ⟨some 14, .call c5_ [(tT 11), (tT 12), (tT 13)], none⟩, tS 10 (.mv (tT 14))]) (.seq [19] (.seq [15, 16, 17, 18] (.region [tS 15 (.mv (tT 10)), tS 16 (.mv (tT 3)), tS 17 (.idxSl 1 (tT 15) (tT 16)), tS 18 (.load none (tT 17)), tS 19 (.bin .lss .scalar (tT 18) (tK 0))]) (.cond (tT 19) (.seq [3, 10, 19] (.region [tS 8 (.mv (tK 0)), tS 9 (.mv (.const (.bool false)))]) .ret) .skip)) (.seq [3, 10, 20, 21, 22, 23] (.region [tS 20 (.mv (tT 10)), tS 21 (.mv (tT 3)), tS 22 (.idxSl 1 (tT 20) (tT 21)), tS 23 (.load none (tT 22)), tS 8 (.mv (tT 23)), tS 9 (.mv (.const (.bool true)))]) .ret)))⟩
theorem a6t (T : Tab) (k : Nat) (n0 d1 from2 to3 : AV) (h : Heap) : runF T k u5_ [n0, d1, from2, to3] h =
 ob (newVar h (AV.cells n0)) fun n4_1 h_2 =>
 ob (newVar h_2 (AV.cells d1)) fun d5_3 h_4 =>
 oa (ldN 2 h_4 n4_1) fun t11_5 =>
 oa (ldN 2 h_4 d5_3) fun t12_6 =>
 ob (evalFn T k c5_ [t11_5, t12_6, from2] h_4) fun t14_7 h_8 =>
 oa (idxS 1 t14_7 to3) fun t17_9 =>
 oa (ld1 h_8 t17_9) fun t18_10 =>
 oa (binV .lss .scalar t18_10 (.int .i64 0)) fun t19_11 =>
 cond2 t19_11
 (
 some (.tup [(.int .i64 0), (.bool false)], h_8)
 )
 (
 oa (idxS 1 t14_7 to3) fun t22_12 =>
 oa (ld1 h_8 t22_12) fun t23_13 =>
 some (.tup [t23_13, (.bool true)], h_8)
 ) := runEq (by kernel_rfl)
noncomputable def y9_ : MCode := .region [tS 63 (.mv (tT 9)), tS 64 (.mv (tT 5)), tS 65 (.mv (tT 3)), tS 66 (.mv (tT 10)), tS 67 (.idxSl 1 (tT 65) (tT 66)), tS 68 (.load none (tT 67)), tS 69 (.idxSl 1 (tT 64) (tT 68)), tS 70 (.load none (tT 69)), tS 71 (.bin .sub .scalar (tT 70) (tK 1)), tS 72 (.idxArr 5 1 (tT 8) (tT 63)), ⟨none, .op (.store 1 (tT 72) (tT 71)), none⟩]
noncomputable def n9_ : MCode := .seq [30] (.seq [29] (.region [tS 29 (.mv (tT 9)), tS 30 (.bin .lss .scalar (tT 29) (tK 5))]) (.cond (tT 30) .skip (.exit 2))) (.seq [10, 63, 64, 65, 66, 67, 68, 69, 70, 71, 72] (.block 3 (.seq [33, 34, 35, 36, 37, 38, 39, 40, 41, 42] (.regionD 93 [tD 0 93 (.fieldAddr 0 (tT 1)), tD 1 94 (.load none (tT 93)), tD 2 95 (.mv (tT 6)), tD 3 96 (.mv (tT 7)), tD 4 97 (.idxSl 1 (tT 95) (tT 96)), tD 5 98 (.load none (tT 97)), tD 6 99 (.mv (tT 9)), tD 7 100 (.idxSl 5 (tT 94) (tT 98)), tD 8 101 (.idxArr 5 1 (tT 100) (tT 99)), tD 9 102 (.load none (tT 101)), tD 10 103 (.mv (tT 102))] [(33, 93), (34, 94), (35, 95), (36, 96), (37, 97), (38, 98), (39, 99), (40, 100), (41, 101), (42, 102), (10, 103)]) (.seq [50, 55, 56, 57, 58, 59, 60, 61, 62] (.seq [43, 44, 45, 46, 47, 48, 49] (.region [tS 43 (.mv (tT 5)), tS 44 (.mv (tT 3)), tS 45 (.mv (tT 10)), tS 46 (.idxSl 1 (tT 44) (tT 45)), tS 47 (.load none (tT 46)), tS 48 (.idxSl 1 (tT 43) (tT 47)), tS 49 (.load none (tT 48)), tS 50 (.bin .eql .scalar (tT 49) (tK 0))]) (.cond (tT 50) (.seq [50, 51, 52, 53, 54] (.region [tS 51 (.mv (tT 6)), tS 52 (.mv (tT 10)), tS 53 (.buildSlice 1 1 [.int .i64 0] [(0, 1, (tT 52))]), tS 54 (.append 1 8 (tT 51) (tT 53)), tS 6 (.mv (tT 54))]) (.region [tS 55 (.mv (tT 5)), tS 56 (.mv (tT 3)), tS 57 (.mv (tT 10)), tS 58 (.idxSl 1 (tT 56) (tT 57)), tS 59 (.load none (tT 58)), tS 60 (.mv (tT 6)), tS 61 (.lenSl (tT 60)), tS 62 (.idxSl 1 (tT 55) (tT 59)), ⟨none, .op (.store 1 (tT 62) (tT 61)), none⟩])) .skip)) (.lab y9_)))) (.region [tS 31 (.mv (tT 9)), tS 32 (.bin .add .scalar (tT 31) (tK 1)), tS 9 (.mv (tT 32))]))
noncomputable def i1_ : MCode := .seq [8, 73, 74, 75, 76, 77, 78] (.region [tS 73 (.fieldAddr 0 (tT 4)), tS 74 (.load none (tT 73)), tS 75 (.load (some 5) (tT 8)), tS 76 (.buildSlice 5 1 [.int .i64 0, .int .i64 0, .int .i64 0, .int .i64 0, .int .i64 0] [(0, 5, (tT 75))]), tS 77 (.append 5 40 (tT 74) (tT 76)), tS 78 (.fieldAddr 0 (tT 4)), ⟨none, .op (.store 1 (tT 78) (tT 77)), none⟩]) (.regionD 93 [tD 0 93 (.fieldAddr 1 (tT 4)), tD 1 94 (.load none (tT 93)), tD 2 95 (.fieldAddr 1 (tT 1)), tD 3 96 (.load none (tT 95)), tD 4 97 (.mv (tT 6)), tD 5 98 (.mv (tT 7)), tD 6 99 (.idxSl 1 (tT 97) (tT 98)), tD 7 100 (.load none (tT 99)), tD 8 101 (.idxSl 1 (tT 96) (tT 100)), tD 9 102 (.load none (tT 101)), tD 10 103 (.buildSlice 1 1 [.bool false] [(0, 1, (tT 102))]), tD 11 104 (.append 1 1 (tT 94) (tT 103)), tD 12 105 (.fieldAddr 1 (tT 4)), tD 13 106 (.store 1 (tT 105) (tT 104))] [(79, 93), (80, 94), (81, 95), (82, 96), (83, 97), (84, 98), (85, 99), (86, 100), (87, 101), (88, 102), (89, 103), (90, 104), (91, 105)])
noncomputable def d4_ : MCode := .region [tS 27 (.mv (tT 7)), tS 28 (.bin .add .scalar (tT 27) (tK 1)), tS 7 (.mv (tT 28))]
noncomputable def c3_ : MCode := .seq [26] (.seq [23, 24, 25] (.region [tS 23 (.mv (tT 7)), tS 24 (.mv (tT 6)), tS 25 (.lenSl (tT 24)), tS 26 (.bin .lss .scalar (tT 23) (tT 25))]) (.cond (tT 26) .skip (.exit 0))) (.seq [79, 80, 81, 82, 83, 84, 85, 86, 87, 88, 89, 90, 91] (.block 1 (.seq [] (.region [tS 8 (.alloc [.int .i64 0, .int .i64 0, .int .i64 0, .int .i64 0, .int .i64 0])]) (.seq [9, 30] (.seq [] (.region [tS 9 (.mv (tK 0))]) (.block 2 (.loop [31, 32] n9_))) (.lab i1_)))) (.lab d4_))
def c4_ : Res := [(2, some (some 2))]
noncomputable def o0_ : MFn := ⟨93, c4_, .seq [0] (.region [tS 1 (.box (tT 0)), tS 2 (.alloc [.nils, .nils])]) (.seq [11, 12] (.region [tS 11 (.load (some 2) (tT 1)), ⟨some 12, .call f0_ [(tT 11)], none⟩, tS 3 (.mv (tT 12))]) (.seq [] (.region [tS 4 (.alloc [.nils, .nils])]) (.seq [13, 14, 15, 16] (.region [tS 13 (.fieldAddr 0 (tT 1)), tS 14 (.load none (tT 13)), tS 15 (.lenSl (tT 14)), tS 16 (.mkSlice [.int .i64 0] 1 8 (tT 15) (tT 15)), tS 5 (.mv (tT 16))]) (.seq [17] (.region [tS 17 (.buildSlice 1 1 [.int .i64 0] [(0, 1, (tK 0))]), tS 6 (.mv (tT 17))]) (.seq [18, 19, 20, 21, 22] (.region [tS 18 (.mv (tT 5)), tS 19 (.mv (tT 3)), tS 20 (.idxSl 1 (tT 19) (tK 0)), tS 21 (.load none (tT 20)), tS 22 (.idxSl 1 (tT 18) (tT 21)), ⟨none, .op (.store 1 (tT 22) (tK 1)), none⟩]) (.seq [1, 3, 5, 6, 7, 26] (.seq [] (.region [tS 7 (.mv (tK 0))]) (.block 0 (.loop [27, 28] c3_))) (.seq [4, 92] (.region [tS 92 (.load (some 2) (tT 4)), ⟨none, .op (.store 2 (tT 2) (tT 92)), none⟩]) .ret)))))))⟩
noncomputable def i2_ (T : Tab) (k j0 : Nat) (d1 t2 c3 out4 rank5 states6 i7 : AV) (h : Heap) : Option (AV × Heap) :=
  loopB T k c4_ j0 [27, 28] c3_ [.blk 0, .seq [1, 3, 5, 6, 7, 26] (.seq [4, 92] (.region [⟨some 92, .op (.load (some 2) (.tmp 4)), none⟩,
  ⟨none, .op (.store 2 (.tmp 2) (.tmp 92)), none⟩]) .ret)] [.undef, d1, t2, c3, out4, rank5, states6, i7, .undef, .undef, .undef, .undef, .undef, .undef, .undef, .undef, .undef, .undef, .undef, .undef, .undef, .undef, .undef, .undef, .undef, .undef, .undef, .undef, .undef, .undef, .undef, .undef, .undef, .undef, .undef, .undef, .undef, .undef, .undef, .undef, .undef, .undef, .undef, .undef, .undef, .undef, .undef, .undef, .undef, .undef, .undef, .undef, .undef, .undef, .undef, .undef, .undef, .undef, .undef, .undef, .undef, .undef, .undef, .undef, .undef, .undef, .undef, .undef, .undef, .undef, .undef, .undef, .undef, .undef, .undef, .undef, .undef, .undef, .undef, .undef, .undef, .undef, .undef, .undef, .undef, .undef, .undef, .undef, .undef, .undef, .undef, .undef, .undef] h
noncomputable def i3_ (T : Tab) (k j0 j1 : Nat) (d1 t2 c3 out4 rank5 states6 i7 next8 m9 : AV) (h : Heap) : Option (AV × Heap) :=
  loopB T k c4_ j1 [31, 32] n9_ [.blk 2, .seq [9, 30] (.lab i1_), .blk 1, .seq [79, 80, 81, 82, 83, 84, 85, 86, 87, 88, 89, 90, 91] (.lab d4_), .lp j0 [27, 28] c3_, .blk 0, .seq [1, 3, 5, 6, 7, 26] (.seq [4, 92] (.region [⟨some 92, .op (.load (some 2) (.tmp 4)), none⟩,
  ⟨none, .op (.store 2 (.tmp 2) (.tmp 92)), none⟩]) .ret)] [.undef, d1, t2, c3, out4, rank5, states6, i7, next8, m9, .undef, .undef, .undef, .undef, .undef, .undef, .undef, .undef, .undef, .undef, .undef, .undef, .undef, .undef, .undef, .undef, .undef, .undef, .undef, .undef, .undef, .undef, .undef, .undef, .undef, .undef, .undef, .undef, .undef, .undef, .undef, .undef, .undef, .undef, .undef, .undef, .undef, .undef, .undef, .undef, .undef, .undef, .undef, .undef, .undef, .undef, .undef, .undef, .undef, .undef, .undef, .undef, .undef, .undef, .undef, .undef, .undef, .undef, .undef, .undef, .undef, .undef, .undef, .undef, .undef, .undef, .undef, .undef, .undef, .undef, .undef, .undef, .undef, .undef, .undef, .undef, .undef, .undef, .undef, .undef, .undef, .undef, .undef] h
noncomputable def i4_ (T : Tab) (k j0 j1 : Nat) (d1 t2 c3 out4 rank5 states6 i7 next8 m9 to10 : AV) (h : Heap) : Option (AV × Heap) :=
  evB T k c4_ y9_ [.blk 3, .seq [10, 63, 64, 65, 66, 67, 68, 69, 70, 71, 72] (.region [⟨some 31, .op (.mv (.tmp 9)), none⟩,
  ⟨some 32, .op (.bin .add .scalar (.tmp 31) (.const (.int .i64 1))), none⟩,
  ⟨some 9, .op (.mv (.tmp 32)), none⟩]), .lp j1 [31, 32] n9_, .blk 2, .seq [9, 30] (.lab i1_), .blk 1, .seq [79, 80, 81, 82, 83, 84, 85, 86, 87, 88, 89, 90, 91] (.lab d4_), .lp j0 [27, 28] c3_, .blk 0, .seq [1, 3, 5, 6, 7, 26] (.seq [4, 92] (.region [⟨some 92, .op (.load (some 2) (.tmp 4)), none⟩,
  ⟨none, .op (.store 2 (.tmp 2) (.tmp 92)), none⟩]) .ret)] [.undef, d1, t2, c3, out4, rank5, states6, i7, next8, m9, to10, .undef, .undef, .undef, .undef, .undef, .undef, .undef, .undef, .undef, .undef, .undef, .undef, .undef, .undef, .undef, .undef, .undef, .undef, .undef, .undef, .undef, .undef, .undef, .undef, .undef, .undef, .undef, .undef, .undef, .undef, .undef, .undef, .undef, .undef, .undef, .undef, .undef, .undef, .undef, .undef, .undef, .undef, .undef, .undef, .undef, .undef, .undef, .undef, .undef, .undef, .undef, .undef, .undef, .undef, .undef, .undef, .undef, .undef, .undef, .undef, .undef, .undef, .undef, .undef, .undef, .undef, .undef, .undef, .undef, .undef, .undef, .undef, .undef, .undef, .undef, .undef, .undef, .undef, .undef, .undef, .undef, .undef] h
noncomputable def o1_ (T : Tab) (k j0 : Nat) (d1 t2 c3 out4 rank5 states6 i7 next8 : AV) (h : Heap) : Option (AV × Heap) :=
  evB T k c4_ i1_ [.blk 1, .seq [79, 80, 81, 82, 83, 84, 85, 86, 87, 88, 89, 90, 91] (.lab d4_), .lp j0 [27, 28] c3_, .blk 0, .seq [1, 3, 5, 6, 7, 26] (.seq [4, 92] (.region [⟨some 92, .op (.load (some 2) (.tmp 4)), none⟩,
  ⟨none, .op (.store 2 (.tmp 2) (.tmp 92)), none⟩]) .ret)] [.undef, d1, t2, c3, out4, rank5, states6, i7, next8, .undef, .undef, .undef, .undef, .undef, .undef, .undef, .undef, .undef, .undef, .undef, .undef, .undef, .undef, .undef, .undef, .undef, .undef, .undef, .undef, .undef, .undef, .undef, .undef, .undef, .undef, .undef, .undef, .undef, .undef, .undef, .undef, .undef, .undef, .undef, .undef, .undef, .undef, .undef, .undef, .undef, .undef, .undef, .undef, .undef, .undef, .undef, .undef, .undef, .undef, .undef, .undef, .undef, .undef, .undef, .undef, .undef, .undef, .undef, .undef, .undef, .undef, .undef, .undef, .undef, .undef, .undef, .undef, .undef, .undef, .undef, .undef, .undef, .undef, .undef, .undef, .undef, .undef, .undef, .undef, .undef, .undef, .undef, .undef] h
noncomputable def z0_ (T : Tab) (k j0 : Nat) (d1 t2 c3 out4 rank5 states6 i7 : AV) (h : Heap) : Option (AV × Heap) :=
  evB T k c4_ d4_ [.lp j0 [27, 28] c3_, .blk 0, .seq [1, 3, 5, 6, 7, 26] (.seq [4, 92] (.region [⟨some 92, .op (.load (some 2) (.tmp 4)), none⟩,
  ⟨none, .op (.store 2 (.tmp 2) (.tmp 92)), none⟩]) .ret)] [.undef, d1, t2, c3, out4, rank5, states6, i7, .undef, .undef, .undef, .undef, .undef, .undef, .undef, .undef, .undef, .undef, .undef, .undef, .undef, .undef, .undef, .undef, .undef, .undef, .undef, .undef, .undef, .undef, .undef, .undef, .undef, .undef, .undef, .undef, .undef, .undef, .undef, .undef, .undef, .undef, .undef, .undef, .undef, .undef, .undef, .undef, .undef, .undef, .undef, .undef, .undef, .undef, .undef, .undef, .undef, .undef, .undef, .undef, .undef, .undef, .undef, .undef, .undef, .undef, .undef, .undef, .undef, .undef, .undef, .undef, .undef, .undef, .undef, .undef, .undef, .undef, .undef, .undef, .undef, .undef, .undef, .undef, .undef, .undef, .undef, .undef, .undef, .undef, .undef, .undef, .undef] h
theorem a2E (T : Tab) (k j0 j1 : Nat) (d1 t2 c3 out4 rank5 states6 i7 next8 m9 to10 : AV) (h : Heap) : i4_ T k j0 j1 d1 t2 c3 out4 rank5 states6 i7 next8 m9 to10 h =
 oa (idxS 1 c3 to10) fun t67_1 =>
 oa (ld1 h t67_1) fun t68_2 =>
 oa (idxS 1 rank5 t68_2) fun t69_3 =>
 oa (ld1 h t69_3) fun t70_4 =>
 oa (binV .sub .scalar t70_4 (.int .i64 1)) fun t71_5 =>
 oa (idxA 5 1 next8 m9) fun t72_6 =>
 oh (stN 1 h t72_6 t71_5) fun h_7 =>
 oa (binV .add .scalar m9 (.int .i64 1)) fun t32_8 =>
 i3_ T k j0 j1 d1 t2 c3 out4 rank5 states6 i7 next8 t32_8 h_7 := blockEq (by kernel_rfl)
theorem a2F (T : Tab) (k j0 : Nat) (d1 t2 c3 out4 rank5 states6 i7 : AV) (h : Heap) : z0_ T k j0 d1 t2 c3 out4 rank5 states6 i7 h =
 oa (binV .add .scalar i7 (.int .i64 1)) fun t28_1 =>
 i2_ T k j0 d1 t2 c3 out4 rank5 states6 t28_1 h := blockEq (by kernel_rfl)
theorem a2G (T : Tab) (k j0 : Nat) (d1 t2 c3 out4 rank5 states6 i7 next8 : AV) (h : Heap) : o1_ T k j0 d1 t2 c3 out4 rank5 states6 i7 next8 h =
 oa (fldA 0 out4) fun t73_1 =>
 oa (ld1 h t73_1) fun t74_2 =>
 oa (ldN 5 h next8) fun t75_3 =>
 ob (buildSl 5 1 [.int .i64 0, .int .i64 0, .int .i64 0, .int .i64 0, .int .i64 0] [(0, 5, t75_3)] h) fun t76_4 h_5 =>
 ob (apnd 5 40 t74_2 t76_4 h_5) fun t77_6 h_7 =>
 oa (fldA 0 out4) fun t78_8 =>
 oh (stN 1 h_7 t78_8 t77_6) fun h_9 =>
 oa (fldA 1 out4) fun t93_10 =>
 oa (ld1 h_9 t93_10) fun t94_11 =>
 oa (fldA 1 d1) fun t95_12 =>
 oa (ld1 h_9 t95_12) fun t96_13 =>
 oa (idxS 1 states6 i7) fun t99_14 =>
 oa (ld1 h_9 t99_14) fun t100_15 =>
 oa (idxS 1 t96_13 t100_15) fun t101_16 =>
 oa (ld1 h_9 t101_16) fun t102_17 =>
 ob (buildSl 1 1 [.bool false] [(0, 1, t102_17)] h_9) fun t103_18 h_19 =>
 ob (apnd 1 1 t94_11 t103_18 h_19) fun t104_20 h_21 =>
 oa (fldA 1 out4) fun t105_22 =>
 oh (stN 1 h_21 t105_22 t104_20) fun h_23 =>
 z0_ T k j0 d1 t2 c3 out4 rank5 states6 i7 h_23 := blockEq (by kernel_rfl)
theorem u6_ (T : Tab) (k j0 j1 : Nat) (d1 t2 c3 out4 rank5 states6 i7 next8 m9 : AV) (h : Heap) : i3_ T k j0 (j1 + 1) d1 t2 c3 out4 rank5 states6 i7 next8 m9 h =
 oa (binV .lss .scalar m9 (.int .i64 5)) fun t30_1 =>
 cond2 t30_1
 (
 oa (fldA 0 d1) fun t93_2 =>
 oa (ld1 h t93_2) fun t94_3 =>
 oa (idxS 1 states6 i7) fun t97_4 =>
 oa (ld1 h t97_4) fun t98_5 =>
 oa (idxS 5 t94_3 t98_5) fun t100_6 =>
 oa (idxA 5 1 t100_6 m9) fun t101_7 =>
 oa (ld1 h t101_7) fun t102_8 =>
 oa (idxS 1 c3 t102_8) fun t46_9 =>
 oa (ld1 h t46_9) fun t47_10 =>
 oa (idxS 1 rank5 t47_10) fun t48_11 =>
 oa (ld1 h t48_11) fun t49_12 =>
 oa (binV .eql .scalar t49_12 (.int .i64 0)) fun t50_13 =>
 cond2 t50_13
 (
 ob (buildSl 1 1 [.int .i64 0] [(0, 1, t102_8)] h) fun t53_14 h_15 =>
 ob (apnd 1 8 states6 t53_14 h_15) fun t54_16 h_17 =>
 oa (idxS 1 c3 t102_8) fun t58_18 =>
 oa (ld1 h_17 t58_18) fun t59_19 =>
 oa (lenS t54_16) fun t61_20 =>
 oa (idxS 1 rank5 t59_19) fun t62_21 =>
 oh (stN 1 h_17 t62_21 t61_20) fun h_22 =>
 i4_ T k j0 j1 d1 t2 c3 out4 rank5 t54_16 i7 next8 m9 t102_8 h_22
 )
 (
 i4_ T k j0 j1 d1 t2 c3 out4 rank5 states6 i7 next8 m9 t102_8 h
 )
 )
 (
 o1_ T k j0 d1 t2 c3 out4 rank5 states6 i7 next8 h
 ) := loopEq (by kernel_rfl)
theorem u7_ (T : Tab) (k j0 : Nat) (d1 t2 c3 out4 rank5 states6 i7 : AV) (h : Heap) : i2_ T k (j0 + 1) d1 t2 c3 out4 rank5 states6 i7 h =
 oa (lenS states6) fun t25_1 =>
 oa (binV .lss .scalar i7 t25_1) fun t26_2 =>
 cond2 t26_2
 (
 ob (newVar h [.int .i64 0, .int .i64 0, .int .i64 0, .int .i64 0, .int .i64 0]) fun next8_3 h_4 =>
 i3_ T k j0 k d1 t2 c3 out4 rank5 states6 i7 next8_3 (.int .i64 0) h_4
 )
 (
 oa (ldN 2 h out4) fun t92_5 =>
 oh (stN 2 h t2 t92_5) fun h_6 =>
 oa (ldN 2 h_6 t2) fun t2_7 =>
 some (t2_7, h_6)
 ) := loopEq (by kernel_rfl)
theorem a3D (T : Tab) (k : Nat) (d0 : AV) (h : Heap) : runF T k o0_ [d0] h =
 ob (newVar h (AV.cells d0)) fun d1_1 h_2 =>
 ob (newVar h_2 [.nils, .nils]) fun t2_3 h_4 =>
 oa (ldN 2 h_4 d1_1) fun t11_5 =>
 ob (evalFn T k f0_ [t11_5] h_4) fun t12_6 h_7 =>
 ob (newVar h_7 [.nils, .nils]) fun out4_8 h_9 =>
 oa (fldA 0 d1_1) fun t13_10 =>
 oa (ld1 h_9 t13_10) fun t14_11 =>
 oa (lenS t14_11) fun t15_12 =>
 ob (mkSl [.int .i64 0] 1 8 t15_12 t15_12 h_9) fun t16_13 h_14 =>
 ob (buildSl 1 1 [.int .i64 0] [(0, 1, (.int .i64 0))] h_14) fun t17_15 h_16 =>
 oa (idxS 1 t12_6 (.int .i64 0)) fun t20_17 =>
 oa (ld1 h_16 t20_17) fun t21_18 =>
 oa (idxS 1 t16_13 t21_18) fun t22_19 =>
 oh (stN 1 h_16 t22_19 (.int .i64 1)) fun h_20 =>
 i2_ T k k d1_1 t2_3 t12_6 out4_8 t16_13 t17_15 (.int .i64 0) h_20 := runEq (by kernel_rfl)
noncomputable def a1s : MCode := .seq [14] (.seq [11, 12, 13] (.region [tS 11 (.mv (tT 5)), tS 12 (.mv (tT 0)), tS 13 (.lenSl (tT 12)), tS 14 (.bin .lss .scalar (tT 11) (tT 13))]) (.cond (tT 14) .skip (.exit 0))) (.seq [25] (.block 1 (.seq [17, 18, 19, 20, 21, 22, 23, 24] (.regionD 26 [tD 0 26 (.mv (tT 0)), tD 1 27 (.mv (tT 5)), tD 2 28 (.idxSl 1 (tT 26) (tT 27)), tD 3 29 (.load none (tT 28)), tD 4 30 (.mv (tT 1)), tD 5 31 (.mv (tT 5)), tD 6 32 (.idxSl 1 (tT 30) (tT 31)), tD 7 33 (.load none (tT 32)), tD 8 34 (.bin .neq .scalar (tT 29) (tT 33))] [(17, 26), (18, 27), (19, 28), (20, 29), (21, 30), (22, 31), (23, 32), (24, 33), (25, 34)]) (.cond (tT 25) (.seq [0, 1, 5, 25] (.region [tS 4 (.mv (.const (.bool false)))]) .ret) .skip))) (.region [tS 15 (.mv (tT 5)), tS 16 (.bin .add .scalar (tT 15) (tK 1)), tS 5 (.mv (tT 16))]))
def a1t : Res := [(4, none)]
noncomputable def u8_ : MFn := ⟨26, a1t, .seq [4] (.region [tS 4 (.mv (.const (.bool false)))]) (.seq [10] (.seq [6, 7, 8, 9] (.region [tS 6 (.mv (tT 0)), tS 7 (.lenSl (tT 6)), tS 8 (.mv (tT 1)), tS 9 (.lenSl (tT 8)), tS 10 (.bin .neq .scalar (tT 7) (tT 9))]) (.cond (tT 10) (.seq [0, 1, 10] (.region [tS 4 (.mv (.const (.bool false)))]) .ret) .skip)) (.seq [0, 1, 5, 14] (.seq [] (.region [tS 5 (.mv (tK 0))]) (.block 0 (.loop [15, 16] a1s))) (.seq [] (.region [tS 4 (.mv (.const (.bool true)))]) .ret)))⟩
noncomputable def n3_ (T : Tab) (k j0 : Nat) (a0 b1 i5 : AV) (h : Heap) : Option (AV × Heap) :=
  loopB T k a1t j0 [15, 16] a1s [.blk 0, .seq [0, 1, 5, 14] (.seq [] (.region [⟨some 4, .op (.mv (.const (.bool true))), none⟩]) .ret)] [a0, b1, .u, .u, .u, i5, .u, .u, .u, .u, .u, .u, .u, .u, .u, .u, .u, .u, .u, .u, .u, .u, .u, .u, .u, .u] h
theorem a0q (T : Tab) (k j0 : Nat) (a0 b1 i5 : AV) (h : Heap) : n3_ T k (j0 + 1) a0 b1 i5 h =
 oa (lenS a0) fun t13_1 =>
 oa (binV .lss .scalar i5 t13_1) fun t14_2 =>
 cond2 t14_2
 (
 oa (idxS 1 a0 i5) fun t28_3 =>
 oa (ld1 h t28_3) fun t29_4 =>
 oa (idxS 1 b1 i5) fun t32_5 =>
 oa (ld1 h t32_5) fun t33_6 =>
 oa (binV .neq .scalar t29_4 t33_6) fun t34_7 =>
 cond2 t34_7
 (
 some ((.bool false), h)
 )
 (
 oa (binV .add .scalar i5 (.int .i64 1)) fun t16_8 =>
 n3_ T k j0 a0 b1 t16_8 h
 )
 )
 (
 some ((.bool true), h)
 ) := loopEq (by kernel_rfl)
theorem a6u (T : Tab) (k : Nat) (a0 b1 : AV) (h : Heap) : runF T k u8_ [a0, b1] h =
 oa (lenS a0) fun t7_1 =>
 oa (lenS b1) fun t9_2 =>
 oa (binV .neq .scalar t7_1 t9_2) fun t10_3 =>
 cond2 t10_3
 (
 some ((.bool false), h)
 )
 (
 n3_ T k k a0 b1 (.int .i64 0) h
 ) := runEq (by kernel_rfl)
def a5I : Res := [(12, none)]
noncomputable def r8_ : MFn := ⟨43, a5I, .seq [0, 1, 4, 12] (.region [tS 6 (.box (tT 0)), tS 7 (.box (tT 1)), tS 10 (.box (tT 4)), tS 12 (.mv (.const (.bool false)))]) (.seq [2, 3, 6, 16, 17, 18, 19, 20, 21, 22, 23, 24, 25] (.region [tS 17 (.load (some 2) (tT 6)), tS 18 (.mv (tT 2)), tS 19 (.mv (tT 3)), tS 20 (.fieldAddr 1 (tT 10)), tS 21 (.load none (tT 20)), ⟨some 22, .call j1_ [(tT 17), (tT 18), (tT 19), (tT 21)], none⟩, tS 16 (.mv (tT 22)), tS 23 (.extract 0 (tT 16)), tS 24 (.extract 1 (tT 16)), tS 25 (.extract 2 (tT 16)), tS 13 (.mv (tT 23)), tS 14 (.mv (tT 24)), tS 15 (.mv (tT 25))]) (.seq [5, 7, 10, 13, 14, 15, 26, 27, 28, 29, 30, 31, 32, 33, 34, 35, 36, 37, 38, 39, 40, 41, 42] (.region [tS 26 (.mv (tT 15)), tS 27 (.mv (tT 26)), ⟨some 28, .op (.mv (tT 13)), some (27, true)⟩, ⟨some 29, .op (.fieldAddr 0 (tT 10)), some (27, true)⟩, ⟨some 30, .op (.load none (tT 29)), some (27, true)⟩, ⟨some 31, .op (.bin .eql .scalar (tT 28) (tT 30)), some (27, true)⟩, tS 32 (.pick (tT 27) (tT 31) (.const (.bool false))), tS 33 (.mv (tT 32)), ⟨some 34, .op (.mv (tT 13)), some (33, true)⟩, ⟨some 35, .op (.mv (tT 5)), some (33, true)⟩, ⟨some 36, .op (.bin .eql .scalar (tT 34) (tT 35)), some (33, true)⟩, tS 37 (.pick (tT 33) (tT 36) (.const (.bool false))), tS 38 (.mv (tT 37)), ⟨some 39, .op (.load (some 2) (tT 7)), some (38, true)⟩, ⟨some 40, .op (.mv (tT 14)), some (38, true)⟩, ⟨some 41, .call k3_ [(tT 39), (tT 40)], some (38, true)⟩, tS 42 (.pick (tT 38) (tT 41) (.const (.bool false))), tS 12 (.mv (tT 42))]) .ret))⟩
theorem a5J (T : Tab) (k : Nat) (n0 d1 from2 to3 r4 cost5 : AV) (h : Heap) : runF T k r8_ [n0, d1, from2, to3, r4, cost5] h =
 ob (newVar h (AV.cells n0)) fun n6_1 h_2 =>
 ob (newVar h_2 (AV.cells d1)) fun d7_3 h_4 =>
 ob (newVar h_4 (AV.cells r4)) fun r10_5 h_6 =>
 oa (ldN 2 h_6 n6_1) fun t17_7 =>
 oa (fldA 1 r10_5) fun t20_8 =>
 oa (ld1 h_6 t20_8) fun t21_9 =>
 ob (evalFn T k j1_ [t17_7, from2, to3, t21_9] h_6) fun t22_10 h_11 =>
 oa (extr 0 t22_10) fun t23_12 =>
 oa (extr 1 t22_10) fun t24_13 =>
 oa (extr 2 t22_10) fun t25_14 =>
 ob (gd t25_14 true (some (t23_12, h_11)) h_11) fun t28_15 h_16 =>
 ob (gd t25_14 true (pure1 h_16 (fldA 0 r10_5)) h_16) fun t29_17 h_18 =>
 ob (gd t25_14 true (pure1 h_18 (ld1 h_18 t29_17)) h_18) fun t30_19 h_20 =>
 ob (gd t25_14 true (pure1 h_20 (binV .eql .scalar t28_15 t30_19)) h_20) fun t31_21 h_22 =>
 oa (pickV t25_14 t31_21 (.bool false)) fun t32_23 =>
 ob (gd t32_23 true (some (t23_12, h_22)) h_22) fun t34_24 h_25 =>
 ob (gd t32_23 true (some (cost5, h_25)) h_25) fun t35_26 h_27 =>
 ob (gd t32_23 true (pure1 h_27 (binV .eql .scalar t34_24 t35_26)) h_27) fun t36_28 h_29 =>
 oa (pickV t32_23 t36_28 (.bool false)) fun t37_30 =>
 ob (gd t37_30 true (pure1 h_29 (ldN 2 h_29 d7_3)) h_29) fun t39_31 h_32 =>
 ob (gd t37_30 true (some (t24_13, h_32)) h_32) fun t40_33 h_34 =>
 ob (gd t37_30 true (evalFn T k k3_ [t39_31, t40_33] h_34) h_34) fun t41_35 h_36 =>
 oa (pickV t37_30 t41_35 (.bool false)) fun t42_37 =>
 some (t42_37, h_36) := runEq (by kernel_rfl)
def a4E : Res := [(4, none)]
noncomputable def p5_ : MFn := ⟨15, a4E, .seq [4] (.region [tS 4 (.mv (tK 0))]) (.seq [0, 6, 7, 8] (.region [tS 6 (.mv (tT 0)), tS 7 (.mv (tT 1)), tS 8 (.bin .rem .scalar (tT 6) (tT 7)), tS 5 (.mv (tT 8))]) (.seq [1, 10, 11, 12, 13] (.seq [9] (.region [tS 9 (.mv (tT 5)), tS 10 (.bin .lss .scalar (tT 9) (tK 0))]) (.cond (tT 10) (.region [tS 11 (.mv (tT 5)), tS 12 (.mv (tT 1)), tS 13 (.bin .add .scalar (tT 11) (tT 12)), tS 5 (.mv (tT 13))]) .skip)) (.seq [5, 14] (.region [tS 14 (.mv (tT 5)), tS 4 (.mv (tT 14))]) .ret)))⟩
theorem a4F (T : Tab) (k : Nat) (at0 n1 : AV) (h : Heap) : runF T k p5_ [at0, n1] h =
 oa (binV .rem .scalar at0 n1) fun t8_1 =>
 oa (binV .lss .scalar t8_1 (.int .i64 0)) fun t10_2 =>
 cond2 t10_2
 (
 oa (binV .add .scalar t8_1 n1) fun t13_3 =>
 some (t13_3, h)
 )
 (
 some (t8_1, h)
 ) := runEq (by kernel_rfl)
def a4G : Res := [(4, none)]
noncomputable def p6_ : MFn := ⟨15, a4G, .seq [4] (.region [tS 4 (.mv (tK 0))]) (.seq [0, 6, 7, 8] (.region [tS 6 (.mv (tT 0)), tS 7 (.mv (tT 1)), tS 8 (.bin .rem .scalar (tT 6) (tT 7)), tS 5 (.mv (tT 8))]) (.seq [1, 10, 11, 12, 13] (.seq [9] (.region [tS 9 (.mv (tT 5)), tS 10 (.bin .lss .scalar (tT 9) (tK 0))]) (.cond (tT 10) (.region [tS 11 (.mv (tT 5)), tS 12 (.mv (tT 1)), tS 13 (.bin .add .scalar (tT 11) (tT 12)), tS 5 (.mv (tT 13))]) .skip)) (.seq [5, 14] (.region [tS 14 (.mv (tT 5)), tS 4 (.mv (tT 14))]) .ret)))⟩
theorem a4H (T : Tab) (k : Nat) (at0 n1 : AV) (h : Heap) : runF T k p6_ [at0, n1] h =
 oa (binV .rem .scalar at0 n1) fun t8_1 =>
 oa (binV .lss .scalar t8_1 (.int .i64 0)) fun t10_2 =>
 cond2 t10_2
 (
 oa (binV .add .scalar t8_1 n1) fun t13_3 =>
 some (t13_3, h)
 )
 (
 some (t8_1, h)
 ) := runEq (by kernel_rfl)
noncomputable def a5t : MCode := .seq [] (.region [tS 30 (.bin .lss .scalar (tT 29) (tK 5))]) (.seq [30] (.cond (tT 30) .skip (.exit 2)) (.seq [8, 9, 33, 34, 35, 36, 37, 38, 39, 40, 41, 42, 43, 44, 45, 46, 47, 48, 49, 50, 51, 52] (.block 3 (.seq [31, 32] (.region [tS 31 (.mv (tT 29)), tS 32 (.ixArr 5 1 none (tT 28) (tT 29)), tS 8 (.mv (tT 31)), tS 9 (.mv (tT 32))]) (.regionD 56 [tD 0 56 (.mv (tT 5)), tD 1 57 (.nilCheck (tT 56)), tD 2 58 (.fieldAddr 5 (tT 57)), tD 3 59 (.load none (tT 58)), tD 4 60 (.mv (tT 9)), tD 5 61 (.mv (tT 8)), tD 6 62 (.mv (tT 5)), tD 7 63 (.nilCheck (tT 62)), tD 8 64 (.fieldAddr 5 (tT 63)), tD 9 65 (.load none (tT 64)), tD 10 66 (.mv (tT 9)), tD 11 67 (.mv (tT 8)), tD 12 68 (.idxSl 5 (tT 65) (tT 66)), tD 13 69 (.idxArr 5 1 (tT 68) (tT 67)), tD 14 70 (.load none (tT 69)), tD 15 71 (.mv (tT 6)), tD 16 72 (.buildSlice 1 1 [.int .i64 0] [(0, 1, (tT 71))]), tD 18 74 (.idxSl 5 (tT 59) (tT 60)), ⟨17, tS 73 (.append 1 8 (tT 70) (tT 72)), [(59, tS 59 (.load none (tT 58)))]⟩, tD 19 75 (.idxArr 5 1 (tT 74) (tT 61)), tD 20 76 (.store 1 (tT 75) (tT 73))] [(33, 56), (34, 57), (35, 58), (36, 59), (37, 60), (38, 61), (39, 62), (40, 63), (41, 64), (42, 65), (43, 66), (44, 67), (45, 68), (46, 69), (47, 70), (48, 71), (49, 72), (50, 73), (51, 74), (52, 75)]))) (.region [tS 53 (.bin .add .scalar (tT 29) (tK 1)), tS 29 (.mv (tT 53))])))
noncomputable def a1V : MCode := .seq [] (.region [tS 24 (.bin .lss .scalar (tT 23) (tT 22))]) (.seq [24] (.cond (tT 24) .skip (.exit 0)) (.seq [6, 28, 29, 30] (.block 1 (.seq [25, 26, 27] (.region [tS 25 (.mv (tT 23)), tS 26 (.idxSl 5 (tT 21) (tT 23)), tS 27 (.load (some 5) (tT 26)), tS 7 (.alloc [.int .i64 0, .int .i64 0, .int .i64 0, .int .i64 0, .int .i64 0]), tS 6 (.mv (tT 25)), ⟨none, .op (.store 5 (tT 7) (tT 27)), none⟩]) (.seq [7] (.region [tS 28 (.load (some 5) (tT 7)), tS 29 (.mv (tK 0))]) (.block 2 (.loop [53] a5t))))) (.region [tS 54 (.bin .add .scalar (tT 23) (tK 1)), tS 23 (.mv (tT 54))])))
def a1W : Res := [(4, none)]
noncomputable def a1X : MFn := ⟨56, a1W, .seq [0, 1, 4] (.region [tS 2 (.box (tT 0)), tS 3 (.box (tT 1)), tS 4 (.mv (.const .nilp))]) (.seq [2, 10, 11, 12, 13, 14, 15, 16, 17, 18, 19] (.regionD 56 [tD 0 56 (.load (some 2) (tT 2)), tD 1 57 (.load (some 2) (tT 2)), tD 3 59 (.load (some 2) (tT 3)), tD 4 60 (.fieldAddr 0 (tT 3)), tD 5 61 (.load none (tT 60)), tD 6 62 (.lenSl (tT 61)), tD 7 63 (.mkSlice [.nils, .nils, .nils, .nils, .nils] 5 120 (tT 62) (tT 62)), ⟨2, ⟨some 58, .call a2P [(tT 57)], none⟩, [(56, tS 56 (.load (some 2) (tT 2))), (59, tS 59 (.load (some 2) (tT 3))), (61, tS 61 (.load none (tT 60)))]⟩, tD 8 64 (.build [.int .i64 0, .nils, .nilp, .nils, .nils, .nils] [(0, 2, (tT 56)), (2, 1, (tT 58)), (3, 2, (tT 59)), (5, 1, (tT 63))]), tD 9 65 (.box (tT 64)), tD 10 66 (.mv (tT 65))] [(10, 56), (11, 57), (12, 58), (13, 59), (14, 60), (15, 61), (16, 62), (17, 63), (18, 64), (19, 65), (5, 66)]) (.seq [21, 22, 23, 24] (.seq [3, 20] (.region [tS 20 (.fieldAddr 0 (tT 3)), tS 21 (.load none (tT 20)), tS 22 (.lenSl (tT 21)), tS 23 (.mv (tK 0))]) (.block 0 (.loop [54] a1V))) (.seq [5, 55] (.region [tS 55 (.mv (tT 5)), tS 4 (.mv (tT 55))]) .ret)))⟩
noncomputable def r2_ (T : Tab) (k j0 : Nat) (g5 t21 t22 t23 : AV) (h : Heap) : Option (AV × Heap) :=
  loopB T k a1W j0 [54] a1V [.blk 0, .seq [21, 22, 23, 24] (.seq [5, 55] (.region [⟨some 55, .op (.mv (.tmp 5)), none⟩,
  ⟨some 4, .op (.mv (.tmp 55)), none⟩]) .ret)] [.undef, .undef, .undef, .undef, .undef, g5, .undef, .undef, .undef, .undef, .undef, .undef, .undef, .undef, .undef, .undef, .undef, .undef, .undef, .undef, .undef, t21, t22, t23, .undef, .undef, .undef, .undef, .undef, .undef, .undef, .undef, .undef, .undef, .undef, .undef, .undef, .undef, .undef, .undef, .undef, .undef, .undef, .undef, .undef, .undef, .undef, .undef, .undef, .undef, .undef, .undef, .undef, .undef, .undef, .undef] h
noncomputable def z1_ (T : Tab) (k j0 j1 : Nat) (g5 s6 t21 t22 t23 t28 t29 : AV) (h : Heap) : Option (AV × Heap) :=
  loopB T k a1W j1 [53] a5t [.blk 2, .blk 1, .seq [6, 28, 29, 30] (.region [⟨some 54, .op (.bin .add .scalar (.tmp 23) (.const (.int .i64 1))), none⟩,
  ⟨some 23, .op (.mv (.tmp 54)), none⟩]), .lp j0 [54] a1V, .blk 0, .seq [21, 22, 23, 24] (.seq [5, 55] (.region [⟨some 55, .op (.mv (.tmp 5)), none⟩,
  ⟨some 4, .op (.mv (.tmp 55)), none⟩]) .ret)] [.undef, .undef, .undef, .undef, .undef, g5, s6, .undef, .undef, .undef, .undef, .undef, .undef, .undef, .undef, .undef, .undef, .undef, .undef, .undef, .undef, t21, t22, t23, .undef, .undef, .undef, .undef, t28, t29, .undef, .undef, .undef, .undef, .undef, .undef, .undef, .undef, .undef, .undef, .undef, .undef, .undef, .undef, .undef, .undef, .undef, .undef, .undef, .undef, .undef, .undef, .undef, .undef, .undef, .undef] h
theorem a2W (T : Tab) (k j0 j1 : Nat) (g5 s6 t21 t22 t23 t28 t29 : AV) (h : Heap) : z1_ T k j0 (j1 + 1) g5 s6 t21 t22 t23 t28 t29 h =
 oa (binV .lss .scalar t29 (.int .i64 5)) fun t30_1 =>
 cond2 t30_1
 (
 oa (ixA 5 1 none t28 t29) fun t32_2 =>
 oa (nilCk g5) fun t57_3 =>
 oa (fldA 5 t57_3) fun t58_4 =>
 oa (ld1 h t58_4) fun t59_5 =>
 oa (nilCk g5) fun t63_6 =>
 oa (fldA 5 t63_6) fun t64_7 =>
 oa (ld1 h t64_7) fun t65_8 =>
 oa (idxS 5 t65_8 t32_2) fun t68_9 =>
 oa (idxA 5 1 t68_9 t29) fun t69_10 =>
 oa (ld1 h t69_10) fun t70_11 =>
 ob (buildSl 1 1 [.int .i64 0] [(0, 1, s6)] h) fun t72_12 h_13 =>
 oa (idxS 5 t59_5 t32_2) fun t74_14 =>
 ob (apnd 1 8 t70_11 t72_12 h_13) fun t73_15 h_16 =>
 chk ((sameB (pure1 h_16 (ld1 h_16 t58_4)) t59_5 && true)) <|
 oa (idxA 5 1 t74_14 t29) fun t75_17 =>
 oh (stN 1 h_16 t75_17 t73_15) fun h_18 =>
 oa (binV .add .scalar t29 (.int .i64 1)) fun t53_19 =>
 z1_ T k j0 j1 g5 s6 t21 t22 t23 t28 t53_19 h_18
 )
 (
 oa (binV .add .scalar t23 (.int .i64 1)) fun t54_20 =>
 r2_ T k j0 g5 t21 t22 t54_20 h
 ) := loopEq (by kernel_rfl)
theorem a2X (T : Tab) (k j0 : Nat) (g5 t21 t22 t23 : AV) (h : Heap) : r2_ T k (j0 + 1) g5 t21 t22 t23 h =
 oa (binV .lss .scalar t23 t22) fun t24_1 =>
 cond2 t24_1
 (
 oa (idxS 5 t21 t23) fun t26_2 =>
 oa (ldN 5 h t26_2) fun t27_3 =>
 ob (newVar h [.int .i64 0, .int .i64 0, .int .i64 0, .int .i64 0, .int .i64 0]) fun row7_4 h_5 =>
 oh (stN 5 h_5 row7_4 t27_3) fun h_6 =>
 oa (ldN 5 h_6 row7_4) fun t28_7 =>
 z1_ T k j0 k g5 t23 t21 t22 t23 t28_7 (.int .i64 0) h_6
 )
 (
 some (g5, h)
 ) := loopEq (by kernel_rfl)
theorem a9Q (T : Tab) (k : Nat) (n0 d1 : AV) (h : Heap) : runF T k a1X [n0, d1] h =
 ob (newVar h (AV.cells n0)) fun n2_1 h_2 =>
 ob (newVar h_2 (AV.cells d1)) fun d3_3 h_4 =>
 oa (ldN 2 h_4 n2_1) fun t56_5 =>
 oa (ldN 2 h_4 n2_1) fun t57_6 =>
 oa (ldN 2 h_4 d3_3) fun t59_7 =>
 oa (fldA 0 d3_3) fun t60_8 =>
 oa (ld1 h_4 t60_8) fun t61_9 =>
 oa (lenS t61_9) fun t62_10 =>
 ob (mkSl [.nils, .nils, .nils, .nils, .nils] 5 120 t62_10 t62_10 h_4) fun t63_11 h_12 =>
 ob (evalFn T k a2P [t57_6] h_12) fun t58_13 h_14 =>
 chk ((sameB (pure1 h_14 (ldN 2 h_14 n2_1)) t56_5 && (sameB (pure1 h_14 (ldN 2 h_14 d3_3)) t59_7 && (sameB (pure1 h_14 (ld1 h_14 t60_8)) t61_9 && true)))) <|
 oa (buildV [.int .i64 0, .nils, .nilp, .nils, .nils, .nils] [(0, 2, t56_5), (2, 1, t58_13), (3, 2, t59_7), (5, 1, t63_11)]) fun t64_15 =>
 ob (newVar h_14 (AV.cells t64_15)) fun t65_16 h_17 =>
 oa (fldA 0 d3_3) fun t20_18 =>
 oa (ld1 h_17 t20_18) fun t21_19 =>
 oa (lenS t21_19) fun t22_20 =>
 r2_ T k k t65_16 t21_19 t22_20 (.int .i64 0) h_17 := runEq (by kernel_rfl)
noncomputable def a0N : MCode := .seq [] (.region [tS 43 (.bin .lss .scalar (tT 42) (tT 41))]) (.seq [43] (.cond (tT 43) .skip (.exit 0)) (.seq [9, 45, 46, 47, 48, 49, 50, 51, 52, 53, 54, 55, 56, 57, 58, 59, 60, 61, 62] (.block 1 (.seq [44] (.region [tS 44 (.mv (tT 42)), tS 9 (.mv (tT 44))]) (.regionD 80 [tD 0 80 (.mv (tT 8)), tD 1 81 (.nilCheck (tT 80)), tD 2 82 (.fieldAddr 3 (tT 81)), tD 3 83 (.load none (tT 82)), tD 4 84 (.mv (tT 9)), tD 5 85 (.mv (tT 8)), tD 6 86 (.nilCheck (tT 85)), tD 7 87 (.fieldAddr 4 (tT 86)), tD 8 88 (.load none (tT 87)), tD 9 89 (.mv (tT 9)), tD 10 90 (.mv (tT 8)), tD 11 91 (.nilCheck (tT 90)), tD 12 92 (.fieldAddr 5 (tT 91)), tD 13 93 (.load none (tT 92)), tD 14 94 (.mv (tT 9)), tD 15 95 (.idxSl 1 (tT 83) (tT 84)), tD 16 96 (.store 1 (tT 95) (tK (-1))), tD 17 97 (.idxSl 1 (tT 88) (tT 89)), tD 18 98 (.store 1 (tT 97) (tK (-1))), tD 19 99 (.idxSl 1 (tT 93) (tT 94)), tD 20 100 (.store 1 (tT 99) (tK (-1)))] [(45, 80), (46, 81), (47, 82), (48, 83), (49, 84), (50, 85), (51, 86), (52, 87), (53, 88), (54, 89), (55, 90), (56, 91), (57, 92), (58, 93), (59, 94), (60, 95), (61, 97), (62, 99)]))) (.region [tS 63 (.bin .add .scalar (tT 42) (tK 1)), tS 42 (.mv (tT 63))])))
noncomputable def a0O : MCode := .seq [] (.region [tS 67 (.bin .lss .scalar (tT 66) (tT 65))]) (.seq [67] (.cond (tT 67) .skip (.exit 2)) (.seq [11, 70, 71, 72, 73, 74, 75, 76, 77] (.block 3 (.seq [68, 69] (.region [tS 68 (.idxSl 2 (tT 64) (tT 66)), tS 69 (.load (some 2) (tT 68)), tS 11 (.alloc [.int .i64 0, .int .i64 0]), ⟨none, .op (.store 2 (tT 11) (tT 69)), none⟩]) (.regionD 80 [tD 0 80 (.mv (tT 8)), tD 1 81 (.nilCheck (tT 80)), tD 2 82 (.fieldAddr 2 (tT 81)), tD 3 83 (.load none (tT 82)), tD 4 84 (.mv (tT 0)), tD 5 85 (.load (some 2) (tT 11)), ⟨6, ⟨some 86, .call b3_ [(tT 84), (tT 85)], none⟩, [(83, tS 83 (.load none (tT 82)))]⟩, ⟨7, ⟨some 87, .call d1_ [(tT 83), (tT 86), (tK 0)], none⟩, []⟩] [(70, 80), (71, 81), (72, 82), (73, 83), (74, 84), (75, 85), (76, 86), (77, 87)]))) (.region [tS 78 (.bin .add .scalar (tT 66) (tK 1)), tS 66 (.mv (tT 78))])))
noncomputable def r9_ : MCode := .seq [0, 64, 65, 66, 67] (.seq [2] (.region [tS 64 (.mv (tT 2)), tS 65 (.lenSl (tT 64)), tS 66 (.mv (tK 0))]) (.block 2 (.loop [78] a0O))) (.seq [8, 79] (.region [tS 79 (.mv (tT 8)), tS 6 (.mv (tT 79))]) .ret)
def l4_ : Res := [(6, none)]
noncomputable def s0_ : MFn := ⟨80, l4_, .seq [6] (.region [tS 6 (.mv (.const .nilp))]) (.seq [12, 13, 14, 15, 16, 17, 18, 19, 20, 21, 22, 23, 24] (.regionD 80 [tD 0 80 (.mv (tT 0)), tD 1 81 (.nilCheck (tT 80)), tD 2 82 (.fieldAddr 0 (tT 81)), tD 3 83 (.fieldAddr 0 (tT 82)), tD 4 84 (.load none (tT 83)), tD 5 85 (.mm true (tT 84) (tK 0)), tD 6 86 (.mv (tT 0)), tD 7 87 (.nilCheck (tT 86)), tD 8 88 (.fieldAddr 3 (tT 87)), tD 9 89 (.fieldAddr 0 (tT 88)), tD 10 90 (.load none (tT 89)), tD 11 91 (.lenSl (tT 90)), tD 12 92 (.bin .mul .scalar (tT 85) (tT 91)), tD 13 93 (.mv (tT 92))] [(12, 80), (13, 81), (14, 82), (15, 83), (16, 84), (17, 85), (18, 86), (19, 87), (20, 88), (21, 89), (22, 90), (23, 91), (24, 92), (7, 93)]) (.seq [1, 7, 25, 26, 27, 28, 29, 30, 31, 32, 33, 34, 35, 36] (.regionD 80 [tD 0 80 (.mv (tT 0)), tD 1 81 (.mv (tT 1)), tD 2 82 (.mv (tT 7)), tD 4 84 (.mv (tT 7)), tD 5 85 (.mkSlice [.int .i64 0] 1 8 (tT 84) (tT 84)), tD 6 86 (.mv (tT 7)), tD 7 87 (.mkSlice [.int .i64 0] 1 8 (tT 86) (tT 86)), tD 8 88 (.mv (tT 7)), tD 9 89 (.mkSlice [.int .i64 0] 1 8 (tT 88) (tT 88)), ⟨3, ⟨some 83, .call a0K [(tT 82)], none⟩, []⟩, tD 10 90 (.build [.nilp, .nilfn, .nilp, .nils, .nils, .nils, .int .i64 0] [(0, 1, (tT 80)), (1, 1, (tT 81)), (2, 1, (tT 83)), (3, 1, (tT 85)), (4, 1, (tT 87)), (5, 1, (tT 89))]), tD 11 91 (.box (tT 90)), tD 12 92 (.mv (tT 91))] [(25, 80), (26, 81), (27, 82), (28, 83), (29, 84), (30, 85), (31, 86), (32, 87), (33, 88), (34, 89), (35, 90), (36, 91), (8, 92)]) (.seq [41, 42, 43] (.seq [37, 38, 39, 40] (.region [tS 37 (.mv (tT 8)), tS 38 (.nilCheck (tT 37)), tS 39 (.fieldAddr 3 (tT 38)), tS 40 (.load none (tT 39)), tS 41 (.lenSl (tT 40)), tS 42 (.mv (tK 0))]) (.block 0 (.loop [63] a0N))) (.lab r9_))))⟩
noncomputable def l5_ (T : Tab) (k j0 : Nat) (g0 at2 s8 t41 t42 : AV) (h : Heap) : Option (AV × Heap) :=
  loopB T k l4_ j0 [63] a0N [.blk 0, .seq [41, 42, 43] (.lab r9_)] [g0, .u, at2, .u, .u, .u, .u, .u, s8, .u, .u, .u, .u, .u, .u, .u, .u, .u, .u, .u, .u, .u, .u, .u, .u, .u, .u, .u, .u, .u, .u, .u, .u, .u, .u, .u, .u, .u, .u, .u, .u, t41, t42, .u, .u, .u, .u, .u, .u, .u, .u, .u, .u, .u, .u, .u, .u, .u, .u, .u, .u, .u, .u, .u, .u, .u, .u, .u, .u, .u, .u, .u, .u, .u, .u, .u, .u, .u, .u, .u] h
noncomputable def s1_ (T : Tab) (k : Nat) (g0 at2 s8 : AV) (h : Heap) : Option (AV × Heap) :=
  evB T k l4_ r9_ [] [g0, .u, at2, .u, .u, .u, .u, .u, s8, .u, .u, .u, .u, .u, .u, .u, .u, .u, .u, .u, .u, .u, .u, .u, .u, .u, .u, .u, .u, .u, .u, .u, .u, .u, .u, .u, .u, .u, .u, .u, .u, .u, .u, .u, .u, .u, .u, .u, .u, .u, .u, .u, .u, .u, .u, .u, .u, .u, .u, .u, .u, .u, .u, .u, .u, .u, .u, .u, .u, .u, .u, .u, .u, .u, .u, .u, .u, .u, .u, .u] h
noncomputable def l6_ (T : Tab) (k j0 : Nat) (g0 s8 t64 t65 t66 : AV) (h : Heap) : Option (AV × Heap) :=
  loopB T k l4_ j0 [78] a0O [.blk 2, .seq [0, 64, 65, 66, 67] (.seq [8, 79] (.region [⟨some 79, .op (.mv (.tmp 8)), none⟩,
  ⟨some 6, .op (.mv (.tmp 79)), none⟩]) .ret)] [g0, .undef, .undef, .undef, .undef, .undef, .undef, .undef, s8, .undef, .undef, .undef, .undef, .undef, .undef, .undef, .undef, .undef, .undef, .undef, .undef, .undef, .undef, .undef, .undef, .undef, .undef, .undef, .undef, .undef, .undef, .undef, .undef, .undef, .undef, .undef, .undef, .undef, .undef, .undef, .undef, .undef, .undef, .undef, .undef, .undef, .undef, .undef, .undef, .undef, .undef, .undef, .undef, .undef, .undef, .undef, .undef, .undef, .undef, .undef, .undef, .undef, .undef, .undef, t64, t65, t66, .undef, .undef, .undef, .undef, .undef, .undef, .undef, .undef, .undef, .undef, .undef, .undef, .undef] h
theorem z2_ (T : Tab) (k j0 : Nat) (g0 s8 t64 t65 t66 : AV) (h : Heap) : l6_ T k (j0 + 1) g0 s8 t64 t65 t66 h =
 oa (binV .lss .scalar t66 t65) fun t67_1 =>
 cond2 t67_1
 (
 oa (idxS 2 t64 t66) fun t68_2 =>
 oa (ldN 2 h t68_2) fun t69_3 =>
 ob (newVar h [.int .i64 0, .int .i64 0]) fun x11_4 h_5 =>
 oh (stN 2 h_5 x11_4 t69_3) fun h_6 =>
 oa (nilCk s8) fun t81_7 =>
 oa (fldA 2 t81_7) fun t82_8 =>
 oa (ld1 h_6 t82_8) fun t83_9 =>
 oa (ldN 2 h_6 x11_4) fun t85_10 =>
 ob (evalFn T k b3_ [g0, t85_10] h_6) fun t86_11 h_12 =>
 chk ((sameB (pure1 h_12 (ld1 h_12 t82_8)) t83_9 && true)) <|
 ob (evalFn T k d1_ [t83_9, t86_11, (.int .i64 0)] h_12) fun t87_13 h_14 =>
 oa (binV .add .scalar t66 (.int .i64 1)) fun t78_15 =>
 l6_ T k j0 g0 s8 t64 t65 t78_15 h_14
 )
 (
 some (s8, h)
 ) := loopEq (by kernel_rfl)
theorem a3E (T : Tab) (k : Nat) (g0 at2 s8 : AV) (h : Heap) : s1_ T k g0 at2 s8 h =
 oa (lenS at2) fun t65_1 =>
 l6_ T k k g0 s8 at2 t65_1 (.int .i64 0) h := blockEq (by kernel_rfl)
theorem z3_ (T : Tab) (k j0 : Nat) (g0 at2 s8 t41 t42 : AV) (h : Heap) : l5_ T k (j0 + 1) g0 at2 s8 t41 t42 h =
 oa (binV .lss .scalar t42 t41) fun t43_1 =>
 cond2 t43_1
 (
 oa (nilCk s8) fun t81_2 =>
 oa (fldA 3 t81_2) fun t82_3 =>
 oa (ld1 h t82_3) fun t83_4 =>
 oa (nilCk s8) fun t86_5 =>
 oa (fldA 4 t86_5) fun t87_6 =>
 oa (ld1 h t87_6) fun t88_7 =>
 oa (nilCk s8) fun t91_8 =>
 oa (fldA 5 t91_8) fun t92_9 =>
 oa (ld1 h t92_9) fun t93_10 =>
 oa (idxS 1 t83_4 t42) fun t95_11 =>
 oh (stN 1 h t95_11 (.int .i64 (-1))) fun h_12 =>
 oa (idxS 1 t88_7 t42) fun t97_13 =>
 oh (stN 1 h_12 t97_13 (.int .i64 (-1))) fun h_14 =>
 oa (idxS 1 t93_10 t42) fun t99_15 =>
 oh (stN 1 h_14 t99_15 (.int .i64 (-1))) fun h_16 =>
 oa (binV .add .scalar t42 (.int .i64 1)) fun t63_17 =>
 l5_ T k j0 g0 at2 s8 t41 t63_17 h_16
 )
 (
 s1_ T k g0 at2 s8 h
 ) := loopEq (by kernel_rfl)
theorem a5K (T : Tab) (k : Nat) (g0 hops1 at2 : AV) (h : Heap) : runF T k s0_ [g0, hops1, at2] h =
 oa (nilCk g0) fun t81_1 =>
 oa (fldA 0 t81_1) fun t82_2 =>
 oa (fldA 0 t82_2) fun t83_3 =>
 oa (ld1 h t83_3) fun t84_4 =>
 oa (mmV true t84_4 (.int .i64 0)) fun t85_5 =>
 oa (nilCk g0) fun t87_6 =>
 oa (fldA 3 t87_6) fun t88_7 =>
 oa (fldA 0 t88_7) fun t89_8 =>
 oa (ld1 h t89_8) fun t90_9 =>
 oa (lenS t90_9) fun t91_10 =>
 oa (binV .mul .scalar t85_5 t91_10) fun t92_11 =>
 ob (mkSl [.int .i64 0] 1 8 t92_11 t92_11 h) fun t85_12 h_13 =>
 ob (mkSl [.int .i64 0] 1 8 t92_11 t92_11 h_13) fun t87_14 h_15 =>
 ob (mkSl [.int .i64 0] 1 8 t92_11 t92_11 h_15) fun t89_16 h_17 =>
 ob (evalFn T k a0K [t92_11] h_17) fun t83_18 h_19 =>
 oa (buildV [.nilp, .nilfn, .nilp, .nils, .nils, .nils, .int .i64 0] [(0, 1, g0), (1, 1, hops1), (2, 1, t83_18), (3, 1, t85_12), (4, 1, t87_14), (5, 1, t89_16)]) fun t90_20 =>
 ob (newVar h_19 (AV.cells t90_20)) fun t91_21 h_22 =>
 oa (nilCk t91_21) fun t38_23 =>
 oa (fldA 3 t38_23) fun t39_24 =>
 oa (ld1 h_22 t39_24) fun t40_25 =>
 oa (lenS t40_25) fun t41_26 =>
 l5_ T k k g0 at2 t91_21 t41_26 (.int .i64 0) h_22 := runEq (by kernel_rfl)
noncomputable def a2t : MCode := .seq [] (.region [tS 18 (.bin .lss .scalar (tT 17) (tT 16))]) (.seq [18] (.cond (tT 18) .skip (.exit 0)) (.seq [7, 8, 29, 30, 31, 32, 33, 34, 35, 36, 37, 38, 39, 40, 41, 42, 43, 44, 45, 46, 47, 48] (.block 1 (.seq [19, 20] (.region [tS 19 (.idxSl 1 (tT 15) (tT 17)), tS 20 (.load none (tT 19)), tS 7 (.mv (tT 20))]) (.seq [21, 22, 23, 24, 25, 26, 27, 28] (.region [tS 21 (.mv (tT 0)), tS 22 (.nilCheck (tT 21)), tS 23 (.fieldAddr 0 (tT 22)), tS 24 (.fieldAddr 1 (tT 23)), tS 25 (.load none (tT 24)), tS 26 (.mv (tT 7)), tS 27 (.idxSl 4 (tT 25) (tT 26)), tS 28 (.load (some 4) (tT 27)), tS 8 (.alloc [.int .i64 0, .int .i64 0, .int .i64 0, .int .i64 0]), ⟨none, .op (.store 4 (tT 8) (tT 28)), none⟩]) (.regionD 51 [tD 0 51 (.mv (tT 5)), tD 1 52 (.fieldAddr 1 (tT 8)), tD 2 53 (.load none (tT 52)), tD 3 54 (.mv (tT 0)), tD 4 55 (.nilCheck (tT 54)), tD 5 56 (.fieldAddr 3 (tT 55)), tD 6 57 (.fieldAddr 0 (tT 56)), tD 7 58 (.load none (tT 57)), tD 8 59 (.fieldAddr 1 (tT 3)), tD 9 60 (.load none (tT 59)), tD 10 61 (.fieldAddr 2 (tT 8)), tD 11 62 (.load none (tT 61)), tD 12 63 (.idxSl 5 (tT 58) (tT 60)), tD 13 64 (.idxArr 5 1 (tT 63) (tT 62)), tD 14 65 (.load none (tT 64)), tD 15 66 (.build [.int .i64 0, .int .i64 0] [(0, 1, (tT 53)), (1, 1, (tT 65))]), tD 16 67 (.mv (tT 7)), tD 17 68 (.build [.int .i64 0, .int .i64 0, .int .i64 0] [(0, 2, (tT 66)), (2, 1, (tT 67))]), tD 18 69 (.buildSlice 3 1 [.int .i64 0, .int .i64 0, .int .i64 0] [(0, 3, (tT 68))]), tD 19 70 (.append 3 24 (tT 51) (tT 69)), tD 20 71 (.mv (tT 70))] [(29, 51), (30, 52), (31, 53), (32, 54), (33, 55), (34, 56), (35, 57), (36, 58), (37, 59), (38, 60), (39, 61), (40, 62), (41, 63), (42, 64), (43, 65), (44, 66), (45, 67), (46, 68), (47, 69), (48, 70), (5, 71)])))) (.region [tS 49 (.bin .add .scalar (tT 17) (tK 1)), tS 17 (.mv (tT 49))])))
def a2u : Res := [(4, none)]
noncomputable def x3_ : MFn := ⟨51, a2u, .seq [1, 4] (.region [tS 3 (.box (tT 1)), tS 4 (.mv (.const .nils))]) (.seq [] (.region [tS 5 (.mv (.const .nils))]) (.seq [0, 3, 15, 16, 17, 18] (.seq [9, 10, 11, 12, 13, 14] (.regionD 51 [tD 0 51 (.mv (tT 0)), tD 1 52 (.nilCheck (tT 51)), tD 2 53 (.fieldAddr 2 (tT 52)), tD 3 54 (.load none (tT 53)), tD 4 55 (.fieldAddr 0 (tT 3)), tD 5 56 (.load none (tT 55)), tD 8 59 (.mv (tK 0)), ⟨6, ⟨some 57, .call w9_ [(tT 54), (tT 56)], none⟩, []⟩, tD 7 58 (.lenSl (tT 57))] [(9, 51), (10, 52), (11, 53), (12, 54), (13, 55), (14, 56), (15, 57), (16, 58), (17, 59)]) (.block 0 (.loop [49] a2t))) (.seq [5, 50] (.region [tS 50 (.mv (tT 5)), tS 4 (.mv (tT 50))]) .ret)))⟩
noncomputable def p3_ (T : Tab) (k j0 : Nat) (g0 x3 out5 t15 t16 t17 : AV) (h : Heap) : Option (AV × Heap) :=
  loopB T k a2u j0 [49] a2t [.blk 0, .seq [0, 3, 15, 16, 17, 18] (.seq [5, 50] (.region [⟨some 50, .op (.mv (.tmp 5)), none⟩,
  ⟨some 4, .op (.mv (.tmp 50)), none⟩]) .ret)] [g0, .undef, .undef, x3, .undef, out5, .undef, .undef, .undef, .undef, .undef, .undef, .undef, .undef, .undef, t15, t16, t17, .undef, .undef, .undef, .undef, .undef, .undef, .undef, .undef, .undef, .undef, .undef, .undef, .undef, .undef, .undef, .undef, .undef, .undef, .undef, .undef, .undef, .undef, .undef, .undef, .undef, .undef, .undef, .undef, .undef, .undef, .undef, .undef, .undef] h
theorem a0P (T : Tab) (k j0 : Nat) (g0 x3 out5 t15 t16 t17 : AV) (h : Heap) : p3_ T k (j0 + 1) g0 x3 out5 t15 t16 t17 h =
 oa (binV .lss .scalar t17 t16) fun t18_1 =>
 cond2 t18_1
 (
 oa (idxS 1 t15 t17) fun t19_2 =>
 oa (ld1 h t19_2) fun t20_3 =>
 oa (nilCk g0) fun t22_4 =>
 oa (fldA 0 t22_4) fun t23_5 =>
 oa (fldA 1 t23_5) fun t24_6 =>
 oa (ld1 h t24_6) fun t25_7 =>
 oa (idxS 4 t25_7 t20_3) fun t27_8 =>
 oa (ldN 4 h t27_8) fun t28_9 =>
 ob (newVar h [.int .i64 0, .int .i64 0, .int .i64 0, .int .i64 0]) fun e8_10 h_11 =>
 oh (stN 4 h_11 e8_10 t28_9) fun h_12 =>
 oa (fldA 1 e8_10) fun t52_13 =>
 oa (ld1 h_12 t52_13) fun t53_14 =>
 oa (nilCk g0) fun t55_15 =>
 oa (fldA 3 t55_15) fun t56_16 =>
 oa (fldA 0 t56_16) fun t57_17 =>
 oa (ld1 h_12 t57_17) fun t58_18 =>
 oa (fldA 1 x3) fun t59_19 =>
 oa (ld1 h_12 t59_19) fun t60_20 =>
 oa (fldA 2 e8_10) fun t61_21 =>
 oa (ld1 h_12 t61_21) fun t62_22 =>
 oa (idxS 5 t58_18 t60_20) fun t63_23 =>
 oa (idxA 5 1 t63_23 t62_22) fun t64_24 =>
 oa (ld1 h_12 t64_24) fun t65_25 =>
 oa (buildV [.int .i64 0, .int .i64 0] [(0, 1, t53_14), (1, 1, t65_25)]) fun t66_26 =>
 oa (buildV [.int .i64 0, .int .i64 0, .int .i64 0] [(0, 2, t66_26), (2, 1, t20_3)]) fun t68_27 =>
 ob (buildSl 3 1 [.int .i64 0, .int .i64 0, .int .i64 0] [(0, 3, t68_27)] h_12) fun t69_28 h_29 =>
 ob (apnd 3 24 out5 t69_28 h_29) fun t70_30 h_31 =>
 oa (binV .add .scalar t17 (.int .i64 1)) fun t49_32 =>
 p3_ T k j0 g0 x3 t70_30 t15 t16 t49_32 h_31
 )
 (
 some (out5, h)
 ) := loopEq (by kernel_rfl)
theorem a7I (T : Tab) (k : Nat) (g0 x1 : AV) (h : Heap) : runF T k x3_ [g0, x1] h =
 ob (newVar h (AV.cells x1)) fun x3_1 h_2 =>
 oa (nilCk g0) fun t52_3 =>
 oa (fldA 2 t52_3) fun t53_4 =>
 oa (ld1 h_2 t53_4) fun t54_5 =>
 oa (fldA 0 x3_1) fun t55_6 =>
 oa (ld1 h_2 t55_6) fun t56_7 =>
 ob (evalFn T k w9_ [t54_5, t56_7] h_2) fun t57_8 h_9 =>
 oa (lenS t57_8) fun t58_10 =>
 p3_ T k k g0 x3_1 .nils t57_8 t58_10 (.int .i64 0) h_9 := runEq (by kernel_rfl)
noncomputable def a1u : MCode := .block 1 (.seq [2, 4, 5, 6, 7, 8] (.region [tS 5 (.mv (tT 0)), ⟨some 6, .call b6_ [(tT 5)], none⟩, tS 4 (.mv (tT 6)), tS 7 (.extract 0 (tT 4)), tS 8 (.extract 1 (tT 4)), tS 2 (.mv (tT 7)), tS 3 (.mv (tT 8))]) (.seq [3, 9] (.region [tS 9 (.mv (tT 3)), tS 10 (.un .not (tT 9))]) (.cond (tT 10) .ret .skip)))
def a1v : Res := []
noncomputable def u9_ : MFn := ⟨11, a1v, .block 0 (.loop [10] a1u)⟩
noncomputable def n4_ (T : Tab) (k j0 : Nat) (s0 : AV) (h : Heap) : Option (AV × Heap) :=
  loopB T k a1v j0 [10] a1u [.blk 0] [s0, .u, .u, .u, .u, .u, .u, .u, .u, .u, .u] h
theorem a0r (T : Tab) (k j0 : Nat) (s0 : AV) (h : Heap) : n4_ T k (j0 + 1) s0 h =
 ob (evalFn T k b6_ [s0] h) fun t6_1 h_2 =>
 oa (extr 0 t6_1) fun t7_3 =>
 oa (extr 1 t6_1) fun t8_4 =>
 oa (unV .not t8_4) fun t10_5 =>
 cond2 t10_5
 (
 some (.tup [], h_2)
 )
 (
 n4_ T k j0 s0 h_2
 ) := loopEq (by kernel_rfl)
theorem a6v (T : Tab) (k : Nat) (s0 : AV) (h : Heap) : runF T k u9_ [s0] h =
 n4_ T k k s0 h := runEq (by kernel_rfl)
noncomputable def a0Q : MCode := .seq [] (.region [tS 19 (.bin .lss .scalar (tT 18) (tT 17))]) (.seq [19] (.cond (tT 19) .skip (.exit 0)) (.seq [8, 62, 63] (.block 1 (.seq [20, 21, 22] (.region [tS 20 (.mv (tT 18)), tS 21 (.idxSl 1 (tT 16) (tT 18)), tS 22 (.load none (tT 21)), tS 6 (.mv (tT 20)), tS 7 (.mv (tT 22))]) (.seq [6, 23, 24, 25, 26, 27, 28, 29, 30] (.region [tS 23 (.mv (tT 0)), tS 24 (.nilCheck (tT 23)), tS 25 (.fieldAddr 0 (tT 24)), tS 26 (.load none (tT 25)), tS 27 (.mv (tT 1)), tS 28 (.mv (tT 6)), tS 29 (.build [.int .i64 0, .int .i64 0] [(0, 1, (tT 27)), (1, 1, (tT 28))]), ⟨some 30, .call b3_ [(tT 26), (tT 29)], none⟩, tS 8 (.mv (tT 30))]) (.seq [7, 31, 32, 33, 34, 35, 36, 37, 38, 39, 40, 41, 42, 43, 44, 45, 46, 47, 48, 49, 50, 51, 52, 53, 54, 55, 56, 57, 58, 59, 60, 61] (.regionD 66 [tD 0 66 (.mv (tT 7)), tD 1 67 (.mv (tT 66)), ⟨2, ⟨some 68, .op (.mv (tT 0)), some (67, true)⟩, []⟩, ⟨3, ⟨some 69, .op (.nilCheck (tT 68)), some (67, true)⟩, []⟩, ⟨4, ⟨some 70, .op (.fieldAddr 3 (tT 69)), some (67, true)⟩, []⟩, ⟨5, ⟨some 71, .op (.load none (tT 70)), some (67, true)⟩, []⟩, ⟨6, ⟨some 72, .op (.mv (tT 8)), some (67, true)⟩, []⟩, ⟨7, ⟨some 73, .op (.idxSl 1 (tT 71) (tT 72)), some (67, true)⟩, []⟩, ⟨8, ⟨some 74, .op (.load none (tT 73)), some (67, true)⟩, []⟩, ⟨9, ⟨some 75, .op (.bin .geq .scalar (tT 74) (tK 0)), some (67, true)⟩, []⟩, tD 10 76 (.pick (tT 67) (tT 75) (.const (.bool false))), tD 11 77 (.mv (tT 76)), ⟨12, ⟨some 78, .op (.mv (tT 5)), some (77, true)⟩, []⟩, ⟨13, ⟨some 79, .op (.bin .lss .scalar (tT 78) (tK 0)), some (77, true)⟩, []⟩, ⟨14, ⟨some 80, .op (.mv (tT 79)), some (77, true)⟩, []⟩, ⟨15, ⟨some 81, .op (.mv (tT 0)), some (80, false)⟩, []⟩, ⟨16, ⟨some 82, .op (.nilCheck (tT 81)), some (80, false)⟩, []⟩, ⟨17, ⟨some 83, .op (.fieldAddr 3 (tT 82)), some (80, false)⟩, []⟩, ⟨18, ⟨some 84, .op (.load none (tT 83)), some (80, false)⟩, []⟩, ⟨19, ⟨some 85, .op (.mv (tT 8)), some (80, false)⟩, []⟩, ⟨20, ⟨some 86, .op (.idxSl 1 (tT 84) (tT 85)), some (80, false)⟩, []⟩, ⟨21, ⟨some 87, .op (.load none (tT 86)), some (80, false)⟩, []⟩, ⟨22, ⟨some 88, .op (.mv (tT 0)), some (80, false)⟩, []⟩, ⟨23, ⟨some 89, .op (.nilCheck (tT 88)), some (80, false)⟩, []⟩, ⟨24, ⟨some 90, .op (.fieldAddr 3 (tT 89)), some (80, false)⟩, []⟩, ⟨25, ⟨some 91, .op (.load none (tT 90)), some (80, false)⟩, []⟩, ⟨26, ⟨some 92, .op (.mv (tT 5)), some (80, false)⟩, []⟩, ⟨27, ⟨some 93, .op (.idxSl 1 (tT 91) (tT 92)), some (80, false)⟩, []⟩, ⟨28, ⟨some 94, .op (.load none (tT 93)), some (80, false)⟩, []⟩, ⟨29, ⟨some 95, .op (.bin .lss .scalar (tT 87) (tT 94)), some (80, false)⟩, []⟩, ⟨30, ⟨some 96, .op (.pick (tT 80) (.const (.bool true)) (tT 95)), some (77, true)⟩, []⟩, tD 31 97 (.pick (tT 77) (tT 96) (.const (.bool false)))] [(31, 66), (32, 67), (33, 68), (34, 69), (35, 70), (36, 71), (37, 72), (38, 73), (39, 74), (40, 75), (41, 76), (42, 77), (43, 78), (44, 79), (45, 80), (46, 81), (47, 82), (48, 83), (49, 84), (50, 85), (51, 86), (52, 87), (53, 88), (54, 89), (55, 90), (56, 91), (57, 92), (58, 93), (59, 94), (60, 95), (61, 96), (62, 97)]) (.cond (tT 62) (.region [tS 63 (.mv (tT 8)), tS 5 (.mv (tT 63))]) .skip))))) (.region [tS 64 (.bin .add .scalar (tT 18) (tK 1)), tS 18 (.mv (tT 64))])))
def a0R : Res := [(4, none)]
noncomputable def s2_ : MFn := ⟨66, a0R, .seq [4] (.region [tS 4 (.mv (tK 0))]) (.seq [] (.region [tS 5 (.mv (tK (-1)))]) (.seq [0, 1, 16, 17, 18, 19] (.seq [9, 10, 11, 12, 13, 14, 15] (.region [tS 9 (.mv (tT 0)), tS 10 (.nilCheck (tT 9)), tS 11 (.fieldAddr 0 (tT 10)), tS 12 (.load none (tT 11)), tS 13 (.nilCheck (tT 12)), tS 14 (.fieldAddr 3 (tT 13)), tS 15 (.fieldAddr 1 (tT 14)), tS 16 (.load none (tT 15)), tS 17 (.lenSl (tT 16)), tS 18 (.mv (tK 0))]) (.block 0 (.loop [64] a0Q))) (.seq [5, 65] (.region [tS 65 (.mv (tT 5)), tS 4 (.mv (tT 65))]) .ret)))⟩
noncomputable def f5_ (T : Tab) (k j0 : Nat) (s0 v1 out5 t16 t17 t18 : AV) (h : Heap) : Option (AV × Heap) :=
  loopB T k a0R j0 [64] a0Q [.blk 0, .seq [0, 1, 16, 17, 18, 19] (.seq [5, 65] (.region [⟨some 65, .op (.mv (.tmp 5)), none⟩,
  ⟨some 4, .op (.mv (.tmp 65)), none⟩]) .ret)] [s0, v1, .undef, .undef, .undef, out5, .undef, .undef, .undef, .undef, .undef, .undef, .undef, .undef, .undef, .undef, t16, t17, t18, .undef, .undef, .undef, .undef, .undef, .undef, .undef, .undef, .undef, .undef, .undef, .undef, .undef, .undef, .undef, .undef, .undef, .undef, .undef, .undef, .undef, .undef, .undef, .undef, .undef, .undef, .undef, .undef, .undef, .undef, .undef, .undef, .undef, .undef, .undef, .undef, .undef, .undef, .undef, .undef, .undef, .undef, .undef, .undef, .undef, .undef, .undef] h
theorem z4_ (T : Tab) (k j0 : Nat) (s0 v1 out5 t16 t17 t18 : AV) (h : Heap) : f5_ T k (j0 + 1) s0 v1 out5 t16 t17 t18 h =
 oa (binV .lss .scalar t18 t17) fun t19_1 =>
 cond2 t19_1
 (
 oa (idxS 1 t16 t18) fun t21_2 =>
 oa (ld1 h t21_2) fun t22_3 =>
 oa (nilCk s0) fun t24_4 =>
 oa (fldA 0 t24_4) fun t25_5 =>
 oa (ld1 h t25_5) fun t26_6 =>
 oa (buildV [.int .i64 0, .int .i64 0] [(0, 1, v1), (1, 1, t18)]) fun t29_7 =>
 ob (evalFn T k b3_ [t26_6, t29_7] h) fun t30_8 h_9 =>
 ob (gd t22_3 true (some (s0, h_9)) h_9) fun t68_10 h_11 =>
 ob (gd t22_3 true (pure1 h_11 (nilCk t68_10)) h_11) fun t69_12 h_13 =>
 ob (gd t22_3 true (pure1 h_13 (fldA 3 t69_12)) h_13) fun t70_14 h_15 =>
 ob (gd t22_3 true (pure1 h_15 (ld1 h_15 t70_14)) h_15) fun t71_16 h_17 =>
 ob (gd t22_3 true (some (t30_8, h_17)) h_17) fun t72_18 h_19 =>
 ob (gd t22_3 true (pure1 h_19 (idxS 1 t71_16 t72_18)) h_19) fun t73_20 h_21 =>
 ob (gd t22_3 true (pure1 h_21 (ld1 h_21 t73_20)) h_21) fun t74_22 h_23 =>
 ob (gd t22_3 true (pure1 h_23 (binV .geq .scalar t74_22 (.int .i64 0))) h_23) fun t75_24 h_25 =>
 oa (pickV t22_3 t75_24 (.bool false)) fun t76_26 =>
 ob (gd t76_26 true (some (out5, h_25)) h_25) fun t78_27 h_28 =>
 ob (gd t76_26 true (pure1 h_28 (binV .lss .scalar t78_27 (.int .i64 0))) h_28) fun t79_29 h_30 =>
 ob (gd t76_26 true (some (t79_29, h_30)) h_30) fun t80_31 h_32 =>
 ob (gd t80_31 false (some (s0, h_32)) h_32) fun t81_33 h_34 =>
 ob (gd t80_31 false (pure1 h_34 (nilCk t81_33)) h_34) fun t82_35 h_36 =>
 ob (gd t80_31 false (pure1 h_36 (fldA 3 t82_35)) h_36) fun t83_37 h_38 =>
 ob (gd t80_31 false (pure1 h_38 (ld1 h_38 t83_37)) h_38) fun t84_39 h_40 =>
 ob (gd t80_31 false (some (t30_8, h_40)) h_40) fun t85_41 h_42 =>
 ob (gd t80_31 false (pure1 h_42 (idxS 1 t84_39 t85_41)) h_42) fun t86_43 h_44 =>
 ob (gd t80_31 false (pure1 h_44 (ld1 h_44 t86_43)) h_44) fun t87_45 h_46 =>
 ob (gd t80_31 false (some (s0, h_46)) h_46) fun t88_47 h_48 =>
 ob (gd t80_31 false (pure1 h_48 (nilCk t88_47)) h_48) fun t89_49 h_50 =>
 ob (gd t80_31 false (pure1 h_50 (fldA 3 t89_49)) h_50) fun t90_51 h_52 =>
 ob (gd t80_31 false (pure1 h_52 (ld1 h_52 t90_51)) h_52) fun t91_53 h_54 =>
 ob (gd t80_31 false (some (out5, h_54)) h_54) fun t92_55 h_56 =>
 ob (gd t80_31 false (pure1 h_56 (idxS 1 t91_53 t92_55)) h_56) fun t93_57 h_58 =>
 ob (gd t80_31 false (pure1 h_58 (ld1 h_58 t93_57)) h_58) fun t94_59 h_60 =>
 ob (gd t80_31 false (pure1 h_60 (binV .lss .scalar t87_45 t94_59)) h_60) fun t95_61 h_62 =>
 ob (gd t76_26 true (pure1 h_62 (pickV t80_31 (.bool true) t95_61)) h_62) fun t96_63 h_64 =>
 oa (pickV t76_26 t96_63 (.bool false)) fun t97_65 =>
 cond2 t97_65
 (
 oa (binV .add .scalar t18 (.int .i64 1)) fun t64_66 =>
 f5_ T k j0 s0 v1 t30_8 t16 t17 t64_66 h_64
 )
 (
 oa (binV .add .scalar t18 (.int .i64 1)) fun t64_67 =>
 f5_ T k j0 s0 v1 out5 t16 t17 t64_67 h_64
 )
 )
 (
 some (out5, h)
 ) := loopEq (by kernel_rfl)
theorem a5L (T : Tab) (k : Nat) (s0 v1 : AV) (h : Heap) : runF T k s2_ [s0, v1] h =
 oa (nilCk s0) fun t10_1 =>
 oa (fldA 0 t10_1) fun t11_2 =>
 oa (ld1 h t11_2) fun t12_3 =>
 oa (nilCk t12_3) fun t13_4 =>
 oa (fldA 3 t13_4) fun t14_5 =>
 oa (fldA 1 t14_5) fun t15_6 =>
 oa (ld1 h t15_6) fun t16_7 =>
 oa (lenS t16_7) fun t17_8 =>
 f5_ T k k s0 v1 (.int .i64 (-1)) t16_7 t17_8 (.int .i64 0) h := runEq (by kernel_rfl)
noncomputable def a0S : MCode := .seq [28] (.seq [24, 25, 26, 27] (.region [tS 24 (.mv (tT 9)), tS 25 (.fieldAddr 0 (tT 4)), tS 26 (.load none (tT 25)), tS 27 (.lenSl (tT 26)), tS 28 (.bin .lss .scalar (tT 24) (tT 27))]) (.cond (tT 28) .skip (.exit 2))) (.seq [31, 32, 33, 34, 35, 36, 37, 38, 39] (.block 3 (.region [tS 31 (.mv (tT 7)), tS 32 (.mv (tT 8)), tS 33 (.mv (tT 7)), tS 34 (.mv (tT 8)), tS 35 (.idxSl 1 (tT 33) (tT 34)), tS 36 (.load none (tT 35)), tS 37 (.buildSlice 1 1 [.int .i64 0] [(0, 1, (tK (-1)))]), tS 38 (.append 1 8 (tT 36) (tT 37)), tS 39 (.idxSl 1 (tT 31) (tT 32)), ⟨none, .op (.store 1 (tT 39) (tT 38)), none⟩])) (.region [tS 29 (.mv (tT 9)), tS 30 (.bin .add .scalar (tT 29) (tK 1)), tS 9 (.mv (tT 30))]))
noncomputable def s3_ : MCode := .region [tS 22 (.mv (tT 8)), tS 23 (.bin .add .scalar (tT 22) (tK 1)), tS 8 (.mv (tT 23))]
noncomputable def l7_ : MCode := .seq [21] (.seq [18, 19, 20] (.region [tS 18 (.mv (tT 8)), tS 19 (.fieldAddr 0 (tT 3)), tS 20 (.load none (tT 19)), tS 21 (.bin .lss .scalar (tT 18) (tT 20))]) (.cond (tT 21) .skip (.exit 0))) (.seq [9, 28] (.block 1 (.seq [] (.region [tS 9 (.mv (tK 0))]) (.block 2 (.loop [29, 30] a0S)))) (.lab s3_))
noncomputable def a0T : MCode := .seq [62] (.seq [58, 59, 60, 61] (.region [tS 58 (.mv (tT 13)), tS 59 (.fieldAddr 0 (tT 4)), tS 60 (.load none (tT 59)), tS 61 (.lenSl (tT 60)), tS 62 (.bin .lss .scalar (tT 58) (tT 61))]) (.cond (tT 62) .skip (.exit 8))) (.seq [14, 114, 115, 116, 117, 118, 119, 120, 121, 122, 123, 124, 125, 126, 127, 128, 129, 130, 131, 132] (.block 9 (.seq [65, 66, 67, 68, 69, 70, 71, 72] (.regionD 134 [tD 0 134 (.fieldAddr 0 (tT 4)), tD 1 135 (.load none (tT 134)), tD 2 136 (.mv (tT 13)), tD 3 137 (.fieldAddr 2 (tT 12)), tD 4 138 (.load none (tT 137)), tD 5 139 (.idxSl 5 (tT 135) (tT 136)), tD 6 140 (.idxArr 5 1 (tT 139) (tT 138)), tD 7 141 (.load none (tT 140)), tD 8 142 (.mv (tT 141))] [(65, 134), (66, 135), (67, 136), (68, 137), (69, 138), (70, 139), (71, 140), (72, 141), (14, 142)]) (.seq [73, 74, 75, 76, 77, 78, 79, 80, 81, 82, 83, 84, 85, 86, 87, 88, 89, 90, 91, 92, 93, 94, 95, 96, 97, 98, 99, 100, 101, 102, 103, 104, 105, 106, 107, 108, 109, 110, 111, 112, 113] (.regionD 134 [tD 0 134 (.mv (tT 7)), tD 1 135 (.fieldAddr 0 (tT 12)), tD 2 136 (.load none (tT 135)), tD 3 137 (.idxSl 1 (tT 134) (tT 136)), tD 4 138 (.load none (tT 137)), tD 5 139 (.mv (tT 13)), tD 6 140 (.idxSl 1 (tT 138) (tT 139)), tD 7 141 (.load none (tT 140)), tD 8 142 (.bin .geq .scalar (tT 141) (tK 0)), tD 9 143 (.mv (tT 142)), ⟨10, ⟨some 144, .op (.mv (tT 7)), some (143, true)⟩, []⟩, ⟨11, ⟨some 145, .op (.fieldAddr 1 (tT 12)), some (143, true)⟩, []⟩, ⟨12, ⟨some 146, .op (.load none (tT 145)), some (143, true)⟩, []⟩, ⟨13, ⟨some 147, .op (.idxSl 1 (tT 144) (tT 146)), some (143, true)⟩, []⟩, ⟨14, ⟨some 148, .op (.load none (tT 147)), some (143, true)⟩, []⟩, ⟨15, ⟨some 149, .op (.mv (tT 14)), some (143, true)⟩, []⟩, ⟨16, ⟨some 150, .op (.idxSl 1 (tT 148) (tT 149)), some (143, true)⟩, []⟩, ⟨17, ⟨some 151, .op (.load none (tT 150)), some (143, true)⟩, []⟩, ⟨18, ⟨some 152, .op (.bin .lss .scalar (tT 151) (tK 0)), some (143, true)⟩, []⟩, ⟨19, ⟨some 153, .op (.mv (tT 152)), some (143, true)⟩, []⟩, ⟨20, ⟨some 154, .op (.mv (tT 7)), some (153, false)⟩, []⟩, ⟨21, ⟨some 155, .op (.fieldAddr 1 (tT 12)), some (153, false)⟩, []⟩, ⟨22, ⟨some 156, .op (.load none (tT 155)), some (153, false)⟩, []⟩, ⟨23, ⟨some 157, .op (.idxSl 1 (tT 154) (tT 156)), some (153, false)⟩, []⟩, ⟨24, ⟨some 158, .op (.load none (tT 157)), some (153, false)⟩, []⟩, ⟨25, ⟨some 159, .op (.mv (tT 14)), some (153, false)⟩, []⟩, ⟨26, ⟨some 160, .op (.idxSl 1 (tT 158) (tT 159)), some (153, false)⟩, []⟩, ⟨27, ⟨some 161, .op (.load none (tT 160)), some (153, false)⟩, []⟩, ⟨28, ⟨some 162, .op (.mv (tT 7)), some (153, false)⟩, []⟩, ⟨29, ⟨some 163, .op (.fieldAddr 0 (tT 12)), some (153, false)⟩, []⟩, ⟨30, ⟨some 164, .op (.load none (tT 163)), some (153, false)⟩, []⟩, ⟨31, ⟨some 165, .op (.idxSl 1 (tT 162) (tT 164)), some (153, false)⟩, []⟩, ⟨32, ⟨some 166, .op (.load none (tT 165)), some (153, false)⟩, []⟩, ⟨33, ⟨some 167, .op (.mv (tT 13)), some (153, false)⟩, []⟩, ⟨34, ⟨some 168, .op (.idxSl 1 (tT 166) (tT 167)), some (153, false)⟩, []⟩, ⟨35, ⟨some 169, .op (.load none (tT 168)), some (153, false)⟩, []⟩, ⟨36, ⟨some 170, .op (.fieldAddr 3 (tT 12)), some (153, false)⟩, []⟩, ⟨37, ⟨some 171, .op (.load none (tT 170)), some (153, false)⟩, []⟩, ⟨38, ⟨some 172, .op (.bin .add .scalar (tT 169) (tT 171)), some (153, false)⟩, []⟩, ⟨39, ⟨some 173, .op (.bin .gtr .scalar (tT 161) (tT 172)), some (153, false)⟩, []⟩, ⟨40, ⟨some 174, .op (.pick (tT 153) (.const (.bool true)) (tT 173)), some (143, true)⟩, []⟩, tD 41 175 (.pick (tT 143) (tT 174) (.const (.bool false)))] [(73, 134), (74, 135), (75, 136), (76, 137), (77, 138), (78, 139), (79, 140), (80, 141), (81, 142), (82, 143), (83, 144), (84, 145), (85, 146), (86, 147), (87, 148), (88, 149), (89, 150), (90, 151), (91, 152), (92, 153), (93, 154), (94, 155), (95, 156), (96, 157), (97, 158), (98, 159), (99, 160), (100, 161), (101, 162), (102, 163), (103, 164), (104, 165), (105, 166), (106, 167), (107, 168), (108, 169), (109, 170), (110, 171), (111, 172), (112, 173), (113, 174), (114, 175)]) (.cond (tT 114) (.regionD 134 [tD 0 134 (.mv (tT 7)), tD 1 135 (.fieldAddr 1 (tT 12)), tD 2 136 (.load none (tT 135)), tD 3 137 (.idxSl 1 (tT 134) (tT 136)), tD 4 138 (.load none (tT 137)), tD 5 139 (.mv (tT 14)), tD 6 140 (.mv (tT 7)), tD 7 141 (.fieldAddr 0 (tT 12)), tD 8 142 (.load none (tT 141)), tD 9 143 (.idxSl 1 (tT 140) (tT 142)), tD 10 144 (.load none (tT 143)), tD 11 145 (.mv (tT 13)), tD 12 146 (.idxSl 1 (tT 144) (tT 145)), tD 13 147 (.load none (tT 146)), tD 14 148 (.fieldAddr 3 (tT 12)), tD 15 149 (.load none (tT 148)), tD 16 150 (.bin .add .scalar (tT 147) (tT 149)), tD 17 151 (.idxSl 1 (tT 138) (tT 139)), tD 18 152 (.store 1 (tT 151) (tT 150)), tD 19 153 (.mv (.const (.bool true)))] [(115, 134), (116, 135), (117, 136), (118, 137), (119, 138), (120, 139), (121, 140), (122, 141), (123, 142), (124, 143), (125, 144), (126, 145), (127, 146), (128, 147), (129, 148), (130, 149), (131, 150), (132, 151), (10, 153)]) .skip)))) (.region [tS 63 (.mv (tT 13)), tS 64 (.bin .add .scalar (tT 63) (tK 1)), tS 13 (.mv (tT 64))]))
noncomputable def s4_ : MCode := .region [tS 51 (.mv (tT 11)), tS 52 (.bin .add .scalar (tT 51) (tK 1)), tS 11 (.mv (tT 52))]
noncomputable def l8_ : MCode := .seq [50] (.seq [46, 47, 48, 49] (.region [tS 46 (.mv (tT 11)), tS 47 (.fieldAddr 1 (tT 3)), tS 48 (.load none (tT 47)), tS 49 (.lenSl (tT 48)), tS 50 (.bin .lss .scalar (tT 46) (tT 49))]) (.cond (tT 50) .skip (.exit 6))) (.seq [12, 13, 62] (.block 7 (.seq [53, 54, 55, 56, 57] (.region [tS 53 (.fieldAddr 1 (tT 3)), tS 54 (.load none (tT 53)), tS 55 (.mv (tT 11)), tS 56 (.idxSl 4 (tT 54) (tT 55)), tS 57 (.load (some 4) (tT 56)), tS 12 (.alloc [.int .i64 0, .int .i64 0, .int .i64 0, .int .i64 0]), ⟨none, .op (.store 4 (tT 12) (tT 57)), none⟩]) (.seq [] (.region [tS 13 (.mv (tK 0))]) (.block 8 (.loop [63, 64] a0T))))) (.lab s4_))
noncomputable def f6_ : MCode := .seq [45] (.seq [10] (.region [tS 45 (.mv (tT 10))]) (.cond (tT 45) .skip (.exit 4))) (.block 5 (.seq [] (.region [tS 10 (.mv (.const (.bool false)))]) (.seq [] (.region [tS 11 (.mv (tK 0))]) (.block 6 (.loop [51, 52] l8_)))))
noncomputable def f7_ : MCode := .seq [2, 40, 41, 42, 43, 44] (.region [tS 40 (.mv (tT 7)), tS 41 (.mv (tT 2)), tS 42 (.idxSl 1 (tT 40) (tT 41)), tS 43 (.load none (tT 42)), tS 44 (.idxSl 1 (tT 43) (tK 0)), ⟨none, .op (.store 1 (tT 44) (tK 0)), none⟩]) (.seq [3, 4, 45] (.seq [] (.region [tS 10 (.mv (.const (.bool true)))]) (.block 4 (.loop [11, 50] f6_))) (.seq [7, 133] (.region [tS 133 (.mv (tT 7)), tS 6 (.mv (tT 133))]) .ret))
def b2_ : Res := [(6, none)]
noncomputable def s5_ : MFn := ⟨134, b2_, .seq [0, 1, 6] (.region [tS 3 (.box (tT 0)), tS 4 (.box (tT 1)), tS 6 (.mv (.const .nils))]) (.seq [15, 16, 17] (.region [tS 15 (.fieldAddr 0 (tT 3)), tS 16 (.load none (tT 15)), tS 17 (.mkSlice [.nils] 1 24 (tT 16) (tT 16)), tS 7 (.mv (tT 17))]) (.seq [8, 21] (.seq [] (.region [tS 8 (.mv (tK 0))]) (.block 0 (.loop [22, 23] l7_))) (.lab f7_)))⟩
noncomputable def f8_ (T : Tab) (k j0 : Nat) (from2 n3 d4 c7 v8 : AV) (h : Heap) : Option (AV × Heap) :=
  loopB T k b2_ j0 [22, 23] l7_ [.blk 0, .seq [8, 21] (.lab f7_)] [.u, .u, from2, n3, d4, .u, .u, c7, v8, .u, .u, .u, .u, .u, .u, .u, .u, .u, .u, .u, .u, .u, .u, .u, .u, .u, .u, .u, .u, .u, .u, .u, .u, .u, .u, .u, .u, .u, .u, .u, .u, .u, .u, .u, .u, .u, .u, .u, .u, .u, .u, .u, .u, .u, .u, .u, .u, .u, .u, .u, .u, .u, .u, .u, .u, .u, .u, .u, .u, .u, .u, .u, .u, .u, .u, .u, .u, .u, .u, .u, .u, .u, .u, .u, .u, .u, .u, .u, .u, .u, .u, .u, .u, .u, .u, .u, .u, .u, .u, .u, .u, .u, .u, .u, .u, .u, .u, .u, .u, .u, .u, .u, .u, .u, .u, .u, .u, .u, .u, .u, .u, .u, .u, .u, .u, .u, .u, .u, .u, .u, .u, .u, .u, .u] h
noncomputable def l9_ (T : Tab) (k j0 j1 : Nat) (from2 n3 d4 c7 v8 s9 : AV) (h : Heap) : Option (AV × Heap) :=
  loopB T k b2_ j1 [29, 30] a0S [.blk 2, .blk 1, .seq [9, 28] (.lab s3_), .lp j0 [22, 23] l7_, .blk 0, .seq [8, 21] (.lab f7_)] [.u, .u, from2, n3, d4, .u, .u, c7, v8, s9, .u, .u, .u, .u, .u, .u, .u, .u, .u, .u, .u, .u, .u, .u, .u, .u, .u, .u, .u, .u, .u, .u, .u, .u, .u, .u, .u, .u, .u, .u, .u, .u, .u, .u, .u, .u, .u, .u, .u, .u, .u, .u, .u, .u, .u, .u, .u, .u, .u, .u, .u, .u, .u, .u, .u, .u, .u, .u, .u, .u, .u, .u, .u, .u, .u, .u, .u, .u, .u, .u, .u, .u, .u, .u, .u, .u, .u, .u, .u, .u, .u, .u, .u, .u, .u, .u, .u, .u, .u, .u, .u, .u, .u, .u, .u, .u, .u, .u, .u, .u, .u, .u, .u, .u, .u, .u, .u, .u, .u, .u, .u, .u, .u, .u, .u, .u, .u, .u, .u, .u, .u, .u, .u, .u] h
noncomputable def s6_ (T : Tab) (k j0 : Nat) (from2 n3 d4 c7 v8 : AV) (h : Heap) : Option (AV × Heap) :=
  evB T k b2_ s3_ [.lp j0 [22, 23] l7_, .blk 0, .seq [8, 21] (.lab f7_)] [.u, .u, from2, n3, d4, .u, .u, c7, v8, .u, .u, .u, .u, .u, .u, .u, .u, .u, .u, .u, .u, .u, .u, .u, .u, .u, .u, .u, .u, .u, .u, .u, .u, .u, .u, .u, .u, .u, .u, .u, .u, .u, .u, .u, .u, .u, .u, .u, .u, .u, .u, .u, .u, .u, .u, .u, .u, .u, .u, .u, .u, .u, .u, .u, .u, .u, .u, .u, .u, .u, .u, .u, .u, .u, .u, .u, .u, .u, .u, .u, .u, .u, .u, .u, .u, .u, .u, .u, .u, .u, .u, .u, .u, .u, .u, .u, .u, .u, .u, .u, .u, .u, .u, .u, .u, .u, .u, .u, .u, .u, .u, .u, .u, .u, .u, .u, .u, .u, .u, .u, .u, .u, .u, .u, .u, .u, .u, .u, .u, .u, .u, .u, .u, .u] h
noncomputable def s7_ (T : Tab) (k : Nat) (from2 n3 d4 c7 : AV) (h : Heap) : Option (AV × Heap) :=
  evB T k b2_ f7_ [] [.u, .u, from2, n3, d4, .u, .u, c7, .u, .u, .u, .u, .u, .u, .u, .u, .u, .u, .u, .u, .u, .u, .u, .u, .u, .u, .u, .u, .u, .u, .u, .u, .u, .u, .u, .u, .u, .u, .u, .u, .u, .u, .u, .u, .u, .u, .u, .u, .u, .u, .u, .u, .u, .u, .u, .u, .u, .u, .u, .u, .u, .u, .u, .u, .u, .u, .u, .u, .u, .u, .u, .u, .u, .u, .u, .u, .u, .u, .u, .u, .u, .u, .u, .u, .u, .u, .u, .u, .u, .u, .u, .u, .u, .u, .u, .u, .u, .u, .u, .u, .u, .u, .u, .u, .u, .u, .u, .u, .u, .u, .u, .u, .u, .u, .u, .u, .u, .u, .u, .u, .u, .u, .u, .u, .u, .u, .u, .u, .u, .u, .u, .u, .u, .u] h
noncomputable def f9_ (T : Tab) (k j0 : Nat) (n3 d4 c7 again10 : AV) (h : Heap) : Option (AV × Heap) :=
  loopB T k b2_ j0 [11, 50] f6_ [.blk 4, .seq [3, 4, 45] (.seq [7, 133] (.region [⟨some 133, .op (.mv (.tmp 7)), none⟩,
  ⟨some 6, .op (.mv (.tmp 133)), none⟩]) .ret)] [.undef, .undef, .undef, n3, d4, .undef, .undef, c7, .undef, .undef, again10, .undef, .undef, .undef, .undef, .undef, .undef, .undef, .undef, .undef, .undef, .undef, .undef, .undef, .undef, .undef, .undef, .undef, .undef, .undef, .undef, .undef, .undef, .undef, .undef, .undef, .undef, .undef, .undef, .undef, .undef, .undef, .undef, .undef, .undef, .undef, .undef, .undef, .undef, .undef, .undef, .undef, .undef, .undef, .undef, .undef, .undef, .undef, .undef, .undef, .undef, .undef, .undef, .undef, .undef, .undef, .undef, .undef, .undef, .undef, .undef, .undef, .undef, .undef, .undef, .undef, .undef, .undef, .undef, .undef, .undef, .undef, .undef, .undef, .undef, .undef, .undef, .undef, .undef, .undef, .undef, .undef, .undef, .undef, .undef, .undef, .undef, .undef, .undef, .undef, .undef, .undef, .undef, .undef, .undef, .undef, .undef, .undef, .undef, .undef, .undef, .undef, .undef, .undef, .undef, .undef, .undef, .undef, .undef, .undef, .undef, .undef, .undef, .undef, .undef, .undef, .undef, .undef, .undef, .undef, .undef, .undef, .undef, .undef] h
noncomputable def m0_ (T : Tab) (k j0 j1 : Nat) (n3 d4 c7 again10 i11 : AV) (h : Heap) : Option (AV × Heap) :=
  loopB T k b2_ j1 [51, 52] l8_ [.blk 6, .blk 5, .lp j0 [11, 50] f6_, .blk 4, .seq [3, 4, 45] (.seq [7, 133] (.region [⟨some 133, .op (.mv (.tmp 7)), none⟩,
  ⟨some 6, .op (.mv (.tmp 133)), none⟩]) .ret)] [.undef, .undef, .undef, n3, d4, .undef, .undef, c7, .undef, .undef, again10, i11, .undef, .undef, .undef, .undef, .undef, .undef, .undef, .undef, .undef, .undef, .undef, .undef, .undef, .undef, .undef, .undef, .undef, .undef, .undef, .undef, .undef, .undef, .undef, .undef, .undef, .undef, .undef, .undef, .undef, .undef, .undef, .undef, .undef, .undef, .undef, .undef, .undef, .undef, .undef, .undef, .undef, .undef, .undef, .undef, .undef, .undef, .undef, .undef, .undef, .undef, .undef, .undef, .undef, .undef, .undef, .undef, .undef, .undef, .undef, .undef, .undef, .undef, .undef, .undef, .undef, .undef, .undef, .undef, .undef, .undef, .undef, .undef, .undef, .undef, .undef, .undef, .undef, .undef, .undef, .undef, .undef, .undef, .undef, .undef, .undef, .undef, .undef, .undef, .undef, .undef, .undef, .undef, .undef, .undef, .undef, .undef, .undef, .undef, .undef, .undef, .undef, .undef, .undef, .undef, .undef, .undef, .undef, .undef, .undef, .undef, .undef, .undef, .undef, .undef, .undef, .undef, .undef, .undef, .undef, .undef, .undef, .undef] h
noncomputable def g0_ (T : Tab) (k j0 j1 j2 : Nat) (n3 d4 c7 again10 i11 e12 s13 : AV) (h : Heap) : Option (AV × Heap) :=
  loopB T k b2_ j2 [63, 64] a0T [.blk 8, .blk 7, .seq [12, 13, 62] (.lab s4_), .lp j1 [51, 52] l8_, .blk 6, .blk 5, .lp j0 [11, 50] f6_, .blk 4, .seq [3, 4, 45] (.seq [7, 133] (.region [⟨some 133, .op (.mv (.tmp 7)), none⟩,
  ⟨some 6, .op (.mv (.tmp 133)), none⟩]) .ret)] [.undef, .undef, .undef, n3, d4, .undef, .undef, c7, .undef, .undef, again10, i11, e12, s13, .undef, .undef, .undef, .undef, .undef, .undef, .undef, .undef, .undef, .undef, .undef, .undef, .undef, .undef, .undef, .undef, .undef, .undef, .undef, .undef, .undef, .undef, .undef, .undef, .undef, .undef, .undef, .undef, .undef, .undef, .undef, .undef, .undef, .undef, .undef, .undef, .undef, .undef, .undef, .undef, .undef, .undef, .undef, .undef, .undef, .undef, .undef, .undef, .undef, .undef, .undef, .undef, .undef, .undef, .undef, .undef, .undef, .undef, .undef, .undef, .undef, .undef, .undef, .undef, .undef, .undef, .undef, .undef, .undef, .undef, .undef, .undef, .undef, .undef, .undef, .undef, .undef, .undef, .undef, .undef, .undef, .undef, .undef, .undef, .undef, .undef, .undef, .undef, .undef, .undef, .undef, .undef, .undef, .undef, .undef, .undef, .undef, .undef, .undef, .undef, .undef, .undef, .undef, .undef, .undef, .undef, .undef, .undef, .undef, .undef, .undef, .undef, .undef, .undef, .undef, .undef, .undef, .undef, .undef, .undef] h
noncomputable def s8_ (T : Tab) (k j0 j1 : Nat) (n3 d4 c7 again10 i11 : AV) (h : Heap) : Option (AV × Heap) :=
  evB T k b2_ s4_ [.lp j1 [51, 52] l8_, .blk 6, .blk 5, .lp j0 [11, 50] f6_, .blk 4, .seq [3, 4, 45] (.seq [7, 133] (.region [⟨some 133, .op (.mv (.tmp 7)), none⟩,
  ⟨some 6, .op (.mv (.tmp 133)), none⟩]) .ret)] [.undef, .undef, .undef, n3, d4, .undef, .undef, c7, .undef, .undef, again10, i11, .undef, .undef, .undef, .undef, .undef, .undef, .undef, .undef, .undef, .undef, .undef, .undef, .undef, .undef, .undef, .undef, .undef, .undef, .undef, .undef, .undef, .undef, .undef, .undef, .undef, .undef, .undef, .undef, .undef, .undef, .undef, .undef, .undef, .undef, .undef, .undef, .undef, .undef, .undef, .undef, .undef, .undef, .undef, .undef, .undef, .undef, .undef, .undef, .undef, .undef, .undef, .undef, .undef, .undef, .undef, .undef, .undef, .undef, .undef, .undef, .undef, .undef, .undef, .undef, .undef, .undef, .undef, .undef, .undef, .undef, .undef, .undef, .undef, .undef, .undef, .undef, .undef, .undef, .undef, .undef, .undef, .undef, .undef, .undef, .undef, .undef, .undef, .undef, .undef, .undef, .undef, .undef, .undef, .undef, .undef, .undef, .undef, .undef, .undef, .undef, .undef, .undef, .undef, .undef, .undef, .undef, .undef, .undef, .undef, .undef, .undef, .undef, .undef, .undef, .undef, .undef, .undef, .undef, .undef, .undef, .undef, .undef] h
theorem a3F (T : Tab) (k j0 : Nat) (from2 n3 d4 c7 v8 : AV) (h : Heap) : s6_ T k j0 from2 n3 d4 c7 v8 h =
 oa (binV .add .scalar v8 (.int .i64 1)) fun t23_1 =>
 f8_ T k j0 from2 n3 d4 c7 t23_1 h := blockEq (by kernel_rfl)
theorem z5_ (T : Tab) (k j0 j1 : Nat) (from2 n3 d4 c7 v8 s9 : AV) (h : Heap) : l9_ T k j0 (j1 + 1) from2 n3 d4 c7 v8 s9 h =
 oa (fldA 0 d4) fun t25_1 =>
 oa (ld1 h t25_1) fun t26_2 =>
 oa (lenS t26_2) fun t27_3 =>
 oa (binV .lss .scalar s9 t27_3) fun t28_4 =>
 cond2 t28_4
 (
 oa (idxS 1 c7 v8) fun t35_5 =>
 oa (ld1 h t35_5) fun t36_6 =>
 ob (buildSl 1 1 [.int .i64 0] [(0, 1, (.int .i64 (-1)))] h) fun t37_7 h_8 =>
 ob (apnd 1 8 t36_6 t37_7 h_8) fun t38_9 h_10 =>
 oa (idxS 1 c7 v8) fun t39_11 =>
 oh (stN 1 h_10 t39_11 t38_9) fun h_12 =>
 oa (binV .add .scalar s9 (.int .i64 1)) fun t30_13 =>
 l9_ T k j0 j1 from2 n3 d4 c7 v8 t30_13 h_12
 )
 (
 s6_ T k j0 from2 n3 d4 c7 v8 h
 ) := loopEq (by kernel_rfl)
theorem a3G (T : Tab) (k j0 j1 : Nat) (n3 d4 c7 again10 i11 : AV) (h : Heap) : s8_ T k j0 j1 n3 d4 c7 again10 i11 h =
 oa (binV .add .scalar i11 (.int .i64 1)) fun t52_1 =>
 m0_ T k j0 j1 n3 d4 c7 again10 t52_1 h := blockEq (by kernel_rfl)
theorem z6_ (T : Tab) (k j0 j1 j2 : Nat) (n3 d4 c7 again10 i11 e12 s13 : AV) (h : Heap) : g0_ T k j0 j1 (j2 + 1) n3 d4 c7 again10 i11 e12 s13 h =
 oa (fldA 0 d4) fun t59_1 =>
 oa (ld1 h t59_1) fun t60_2 =>
 oa (lenS t60_2) fun t61_3 =>
 oa (binV .lss .scalar s13 t61_3) fun t62_4 =>
 cond2 t62_4
 (
 oa (fldA 0 d4) fun t134_5 =>
 oa (ld1 h t134_5) fun t135_6 =>
 oa (fldA 2 e12) fun t137_7 =>
 oa (ld1 h t137_7) fun t138_8 =>
 oa (idxS 5 t135_6 s13) fun t139_9 =>
 oa (idxA 5 1 t139_9 t138_8) fun t140_10 =>
 oa (ld1 h t140_10) fun t141_11 =>
 oa (fldA 0 e12) fun t135_12 =>
 oa (ld1 h t135_12) fun t136_13 =>
 oa (idxS 1 c7 t136_13) fun t137_14 =>
 oa (ld1 h t137_14) fun t138_15 =>
 oa (idxS 1 t138_15 s13) fun t140_16 =>
 oa (ld1 h t140_16) fun t141_17 =>
 oa (binV .geq .scalar t141_17 (.int .i64 0)) fun t142_18 =>
 ob (gd t142_18 true (some (c7, h)) h) fun t144_19 h_20 =>
 ob (gd t142_18 true (pure1 h_20 (fldA 1 e12)) h_20) fun t145_21 h_22 =>
 ob (gd t142_18 true (pure1 h_22 (ld1 h_22 t145_21)) h_22) fun t146_23 h_24 =>
 ob (gd t142_18 true (pure1 h_24 (idxS 1 t144_19 t146_23)) h_24) fun t147_25 h_26 =>
 ob (gd t142_18 true (pure1 h_26 (ld1 h_26 t147_25)) h_26) fun t148_27 h_28 =>
 ob (gd t142_18 true (some (t141_11, h_28)) h_28) fun t149_29 h_30 =>
 ob (gd t142_18 true (pure1 h_30 (idxS 1 t148_27 t149_29)) h_30) fun t150_31 h_32 =>
 ob (gd t142_18 true (pure1 h_32 (ld1 h_32 t150_31)) h_32) fun t151_33 h_34 =>
 ob (gd t142_18 true (pure1 h_34 (binV .lss .scalar t151_33 (.int .i64 0))) h_34) fun t152_35 h_36 =>
 ob (gd t142_18 true (some (t152_35, h_36)) h_36) fun t153_37 h_38 =>
 ob (gd t153_37 false (some (c7, h_38)) h_38) fun t154_39 h_40 =>
 ob (gd t153_37 false (pure1 h_40 (fldA 1 e12)) h_40) fun t155_41 h_42 =>
 ob (gd t153_37 false (pure1 h_42 (ld1 h_42 t155_41)) h_42) fun t156_43 h_44 =>
 ob (gd t153_37 false (pure1 h_44 (idxS 1 t154_39 t156_43)) h_44) fun t157_45 h_46 =>
 ob (gd t153_37 false (pure1 h_46 (ld1 h_46 t157_45)) h_46) fun t158_47 h_48 =>
 ob (gd t153_37 false (some (t141_11, h_48)) h_48) fun t159_49 h_50 =>
 ob (gd t153_37 false (pure1 h_50 (idxS 1 t158_47 t159_49)) h_50) fun t160_51 h_52 =>
 ob (gd t153_37 false (pure1 h_52 (ld1 h_52 t160_51)) h_52) fun t161_53 h_54 =>
 ob (gd t153_37 false (some (c7, h_54)) h_54) fun t162_55 h_56 =>
 ob (gd t153_37 false (pure1 h_56 (fldA 0 e12)) h_56) fun t163_57 h_58 =>
 ob (gd t153_37 false (pure1 h_58 (ld1 h_58 t163_57)) h_58) fun t164_59 h_60 =>
 ob (gd t153_37 false (pure1 h_60 (idxS 1 t162_55 t164_59)) h_60) fun t165_61 h_62 =>
 ob (gd t153_37 false (pure1 h_62 (ld1 h_62 t165_61)) h_62) fun t166_63 h_64 =>
 ob (gd t153_37 false (some (s13, h_64)) h_64) fun t167_65 h_66 =>
 ob (gd t153_37 false (pure1 h_66 (idxS 1 t166_63 t167_65)) h_66) fun t168_67 h_68 =>
 ob (gd t153_37 false (pure1 h_68 (ld1 h_68 t168_67)) h_68) fun t169_69 h_70 =>
 ob (gd t153_37 false (pure1 h_70 (fldA 3 e12)) h_70) fun t170_71 h_72 =>
 ob (gd t153_37 false (pure1 h_72 (ld1 h_72 t170_71)) h_72) fun t171_73 h_74 =>
 ob (gd t153_37 false (pure1 h_74 (binV .add .scalar t169_69 t171_73)) h_74) fun t172_75 h_76 =>
 ob (gd t153_37 false (pure1 h_76 (binV .gtr .scalar t161_53 t172_75)) h_76) fun t173_77 h_78 =>
 ob (gd t142_18 true (pure1 h_78 (pickV t153_37 (.bool true) t173_77)) h_78) fun t174_79 h_80 =>
 oa (pickV t142_18 t174_79 (.bool false)) fun t175_81 =>
 cond2 t175_81
 (
 oa (fldA 1 e12) fun t135_82 =>
 oa (ld1 h_80 t135_82) fun t136_83 =>
 oa (idxS 1 c7 t136_83) fun t137_84 =>
 oa (ld1 h_80 t137_84) fun t138_85 =>
 oa (fldA 0 e12) fun t141_86 =>
 oa (ld1 h_80 t141_86) fun t142_87 =>
 oa (idxS 1 c7 t142_87) fun t143_88 =>
 oa (ld1 h_80 t143_88) fun t144_89 =>
 oa (idxS 1 t144_89 s13) fun t146_90 =>
 oa (ld1 h_80 t146_90) fun t147_91 =>
 oa (fldA 3 e12) fun t148_92 =>
 oa (ld1 h_80 t148_92) fun t149_93 =>
 oa (binV .add .scalar t147_91 t149_93) fun t150_94 =>
 oa (idxS 1 t138_85 t141_11) fun t151_95 =>
 oh (stN 1 h_80 t151_95 t150_94) fun h_96 =>
 oa (binV .add .scalar s13 (.int .i64 1)) fun t64_97 =>
 g0_ T k j0 j1 j2 n3 d4 c7 (.bool true) i11 e12 t64_97 h_96
 )
 (
 oa (binV .add .scalar s13 (.int .i64 1)) fun t64_98 =>
 g0_ T k j0 j1 j2 n3 d4 c7 again10 i11 e12 t64_98 h_80
 )
 )
 (
 s8_ T k j0 j1 n3 d4 c7 again10 i11 h
 ) := loopEq (by kernel_rfl)
theorem z7_ (T : Tab) (k j0 j1 : Nat) (n3 d4 c7 again10 i11 : AV) (h : Heap) : m0_ T k j0 (j1 + 1) n3 d4 c7 again10 i11 h =
 oa (fldA 1 n3) fun t47_1 =>
 oa (ld1 h t47_1) fun t48_2 =>
 oa (lenS t48_2) fun t49_3 =>
 oa (binV .lss .scalar i11 t49_3) fun t50_4 =>
 cond2 t50_4
 (
 oa (fldA 1 n3) fun t53_5 =>
 oa (ld1 h t53_5) fun t54_6 =>
 oa (idxS 4 t54_6 i11) fun t56_7 =>
 oa (ldN 4 h t56_7) fun t57_8 =>
 ob (newVar h [.int .i64 0, .int .i64 0, .int .i64 0, .int .i64 0]) fun e12_9 h_10 =>
 oh (stN 4 h_10 e12_9 t57_8) fun h_11 =>
 g0_ T k j0 j1 k n3 d4 c7 again10 i11 e12_9 (.int .i64 0) h_11
 )
 (
 f9_ T k j0 n3 d4 c7 again10 h
 ) := loopEq (by kernel_rfl)
theorem i5_ (T : Tab) (k j0 : Nat) (n3 d4 c7 again10 : AV) (h : Heap) : f9_ T k (j0 + 1) n3 d4 c7 again10 h =
 cond2 again10
 (
 m0_ T k j0 k n3 d4 c7 (.bool false) (.int .i64 0) h
 )
 (
 some (c7, h)
 ) := loopEq (by kernel_rfl)
theorem a3H (T : Tab) (k : Nat) (from2 n3 d4 c7 : AV) (h : Heap) : s7_ T k from2 n3 d4 c7 h =
 oa (idxS 1 c7 from2) fun t42_1 =>
 oa (ld1 h t42_1) fun t43_2 =>
 oa (idxS 1 t43_2 (.int .i64 0)) fun t44_3 =>
 oh (stN 1 h t44_3 (.int .i64 0)) fun h_4 =>
 f9_ T k k n3 d4 c7 (.bool true) h_4 := blockEq (by kernel_rfl)
theorem z8_ (T : Tab) (k j0 : Nat) (from2 n3 d4 c7 v8 : AV) (h : Heap) : f8_ T k (j0 + 1) from2 n3 d4 c7 v8 h =
 oa (fldA 0 n3) fun t19_1 =>
 oa (ld1 h t19_1) fun t20_2 =>
 oa (binV .lss .scalar v8 t20_2) fun t21_3 =>
 cond2 t21_3
 (
 l9_ T k j0 k from2 n3 d4 c7 v8 (.int .i64 0) h
 )
 (
 s7_ T k from2 n3 d4 c7 h
 ) := loopEq (by kernel_rfl)
theorem a5M (T : Tab) (k : Nat) (n0 d1 from2 : AV) (h : Heap) : runF T k s5_ [n0, d1, from2] h =
 ob (newVar h (AV.cells n0)) fun n3_1 h_2 =>
 ob (newVar h_2 (AV.cells d1)) fun d4_3 h_4 =>
 oa (fldA 0 n3_1) fun t15_5 =>
 oa (ld1 h_4 t15_5) fun t16_6 =>
 ob (mkSl [.nils] 1 24 t16_6 t16_6 h_4) fun t17_7 h_8 =>
 f8_ T k k from2 n3_1 d4_3 t17_7 (.int .i64 0) h_8 := runEq (by kernel_rfl)
noncomputable def a0D : MCode := .seq [13] (.seq [6, 7, 8, 9, 10, 11, 12] (.region [tS 6 (.mv (tT 0)), tS 7 (.nilCheck (tT 6)), tS 8 (.fieldAddr 5 (tT 7)), tS 9 (.load none (tT 8)), tS 10 (.mv (tT 1)), tS 11 (.idxSl 1 (tT 9) (tT 10)), tS 12 (.load none (tT 11)), tS 13 (.bin .geq .scalar (tT 12) (tK 0))]) (.cond (tT 13) .skip (.exit 0))) (.seq [21, 22, 23, 24, 25, 26, 27, 28, 29, 30] (.block 1 (.region [tS 21 (.mv (tT 5)), tS 22 (.mv (tT 0)), tS 23 (.nilCheck (tT 22)), tS 24 (.fieldAddr 4 (tT 23)), tS 25 (.load none (tT 24)), tS 26 (.mv (tT 1)), tS 27 (.idxSl 1 (tT 25) (tT 26)), tS 28 (.load none (tT 27)), tS 29 (.buildSlice 1 1 [.int .i64 0] [(0, 1, (tT 28))]), tS 30 (.append 1 8 (tT 21) (tT 29)), tS 5 (.mv (tT 30))])) (.region [tS 14 (.mv (tT 0)), tS 15 (.nilCheck (tT 14)), tS 16 (.fieldAddr 5 (tT 15)), tS 17 (.load none (tT 16)), tS 18 (.mv (tT 1)), tS 19 (.idxSl 1 (tT 17) (tT 18)), tS 20 (.load none (tT 19)), tS 1 (.mv (tT 20))]))
noncomputable def p7_ : MCode := .seq [31, 32] (.region [tS 31 (.mv (tT 5)), ⟨some 32, .call j2_ [(tT 31)], none⟩]) (.seq [5, 33, 34] (.region [tS 33 (.mv (tT 5)), ⟨some 34, .call e2_ [(tT 33)], none⟩, tS 4 (.mv (tT 34))]) .ret)
def p8_ : Res := [(4, none)]
noncomputable def p9_ : MFn := ⟨35, p8_, .seq [4] (.region [tS 4 (.mv (.const .nils))]) (.seq [] (.region [tS 5 (.mv (.const .nils))]) (.seq [0, 1, 13] (.block 0 (.loop [14, 15, 16, 17, 18, 19, 20] a0D)) (.lab p7_)))⟩
noncomputable def j9_ (T : Tab) (k j0 : Nat) (s0 id1 out5 : AV) (h : Heap) : Option (AV × Heap) :=
  loopB T k p8_ j0 [14, 15, 16, 17, 18, 19, 20] a0D [.blk 0, .seq [0, 1, 13] (.lab p7_)] [s0, id1, .u, .u, .u, out5, .u, .u, .u, .u, .u, .u, .u, .u, .u, .u, .u, .u, .u, .u, .u, .u, .u, .u, .u, .u, .u, .u, .u, .u, .u, .u, .u, .u, .u] h
noncomputable def q0_ (T : Tab) (k : Nat) (out5 : AV) (h : Heap) : Option (AV × Heap) :=
  evB T k p8_ p7_ [] [.u, .u, .u, .u, .u, out5, .u, .u, .u, .u, .u, .u, .u, .u, .u, .u, .u, .u, .u, .u, .u, .u, .u, .u, .u, .u, .u, .u, .u, .u, .u, .u, .u, .u, .u] h
theorem a3m (T : Tab) (k : Nat) (out5 : AV) (h : Heap) : q0_ T k out5 h =
 ob (evalFn T k j2_ [out5] h) fun t32_1 h_2 =>
 ob (evalFn T k e2_ [out5] h_2) fun t34_3 h_4 =>
 some (t34_3, h_4) := blockEq (by kernel_rfl)
theorem a3n (T : Tab) (k j0 : Nat) (s0 id1 out5 : AV) (h : Heap) : j9_ T k (j0 + 1) s0 id1 out5 h =
 oa (nilCk s0) fun t7_1 =>
 oa (fldA 5 t7_1) fun t8_2 =>
 oa (ld1 h t8_2) fun t9_3 =>
 oa (idxS 1 t9_3 id1) fun t11_4 =>
 oa (ld1 h t11_4) fun t12_5 =>
 oa (binV .geq .scalar t12_5 (.int .i64 0)) fun t13_6 =>
 cond2 t13_6
 (
 oa (nilCk s0) fun t23_7 =>
 oa (fldA 4 t23_7) fun t24_8 =>
 oa (ld1 h t24_8) fun t25_9 =>
 oa (idxS 1 t25_9 id1) fun t27_10 =>
 oa (ld1 h t27_10) fun t28_11 =>
 ob (buildSl 1 1 [.int .i64 0] [(0, 1, t28_11)] h) fun t29_12 h_13 =>
 ob (apnd 1 8 out5 t29_12 h_13) fun t30_14 h_15 =>
 oa (nilCk s0) fun t15_16 =>
 oa (fldA 5 t15_16) fun t16_17 =>
 oa (ld1 h_15 t16_17) fun t17_18 =>
 oa (idxS 1 t17_18 id1) fun t19_19 =>
 oa (ld1 h_15 t19_19) fun t20_20 =>
 j9_ T k j0 s0 t20_20 t30_14 h_15
 )
 (
 q0_ T k out5 h
 ) := loopEq (by kernel_rfl)
theorem a4I (T : Tab) (k : Nat) (s0 id1 : AV) (h : Heap) : runF T k p9_ [s0, id1] h =
 j9_ T k k s0 id1 .nils h := runEq (by kernel_rfl)
noncomputable def a1w : MCode := .seq [] (.region [tS 44 (.bin .lss .scalar (tT 43) (tT 42))]) (.seq [44] (.cond (tT 44) .skip (.exit 2)) (.seq [10, 47, 48, 49, 50, 51, 52, 53, 54, 55] (.block 3 (.seq [45, 46] (.region [tS 45 (.idxSl 1 (tT 41) (tT 43)), tS 46 (.load none (tT 45)), tS 10 (.mv (tT 46))]) (.region [tS 47 (.mv (tT 5)), tS 48 (.fieldAddr 0 (tT 8)), tS 49 (.load none (tT 48)), tS 50 (.mv (tT 10)), tS 51 (.build [.int .i64 0, .int .i64 0] [(0, 1, (tT 49)), (1, 1, (tT 50))]), tS 52 (.mv (tT 7)), tS 53 (.build [.int .i64 0, .int .i64 0, .int .i64 0] [(0, 2, (tT 51)), (2, 1, (tT 52))]), tS 54 (.buildSlice 3 1 [.int .i64 0, .int .i64 0, .int .i64 0] [(0, 3, (tT 53))]), tS 55 (.append 3 24 (tT 47) (tT 54)), tS 5 (.mv (tT 55))]))) (.region [tS 56 (.bin .add .scalar (tT 43) (tK 1)), tS 43 (.mv (tT 56))])))
noncomputable def v0_ : MCode := .seq [] (.region [tS 20 (.bin .lss .scalar (tT 19) (tT 18))]) (.seq [20] (.cond (tT 20) .skip (.exit 0)) (.seq [7, 8, 41, 42, 43, 44] (.block 1 (.seq [21, 22] (.region [tS 21 (.idxSl 1 (tT 17) (tT 19)), tS 22 (.load none (tT 21)), tS 7 (.mv (tT 22))]) (.seq [23, 24, 25, 26, 27, 28, 29, 30] (.region [tS 23 (.mv (tT 0)), tS 24 (.nilCheck (tT 23)), tS 25 (.fieldAddr 0 (tT 24)), tS 26 (.fieldAddr 1 (tT 25)), tS 27 (.load none (tT 26)), tS 28 (.mv (tT 7)), tS 29 (.idxSl 4 (tT 27) (tT 28)), tS 30 (.load (some 4) (tT 29)), tS 8 (.alloc [.int .i64 0, .int .i64 0, .int .i64 0, .int .i64 0]), ⟨none, .op (.store 4 (tT 8) (tT 30)), none⟩]) (.seq [31, 32, 33, 34, 35, 36, 37, 38, 39, 40] (.regionD 59 [tD 0 59 (.mv (tT 0)), tD 1 60 (.nilCheck (tT 59)), tD 2 61 (.fieldAddr 5 (tT 60)), tD 3 62 (.load none (tT 61)), tD 4 63 (.fieldAddr 1 (tT 3)), tD 5 64 (.load none (tT 63)), tD 6 65 (.fieldAddr 2 (tT 8)), tD 7 66 (.load none (tT 65)), tD 8 67 (.idxSl 5 (tT 62) (tT 64)), tD 9 68 (.idxArr 5 1 (tT 67) (tT 66)), tD 10 69 (.load none (tT 68)), tD 11 70 (.lenSl (tT 69)), tD 12 71 (.mv (tK 0))] [(31, 59), (32, 60), (33, 61), (34, 62), (35, 63), (36, 64), (37, 65), (38, 66), (39, 67), (40, 68), (41, 69), (42, 70), (43, 71)]) (.block 2 (.loop [56] a1w)))))) (.region [tS 57 (.bin .add .scalar (tT 19) (tK 1)), tS 19 (.mv (tT 57))])))
def v1_ : Res := [(4, none)]
noncomputable def v2_ : MFn := ⟨59, v1_, .seq [1, 4] (.region [tS 3 (.box (tT 1)), tS 4 (.mv (.const .nils))]) (.seq [] (.region [tS 5 (.mv (.const .nils))]) (.seq [0, 3, 17, 18, 19, 20] (.seq [11, 12, 13, 14, 15, 16] (.regionD 59 [tD 0 59 (.mv (tT 0)), tD 1 60 (.nilCheck (tT 59)), tD 2 61 (.fieldAddr 2 (tT 60)), tD 3 62 (.load none (tT 61)), tD 4 63 (.fieldAddr 0 (tT 3)), tD 5 64 (.load none (tT 63)), tD 8 67 (.mv (tK 0)), ⟨6, ⟨some 65, .call a0m [(tT 62), (tT 64)], none⟩, []⟩, tD 7 66 (.lenSl (tT 65))] [(11, 59), (12, 60), (13, 61), (14, 62), (15, 63), (16, 64), (17, 65), (18, 66), (19, 67)]) (.block 0 (.loop [57] v0_))) (.seq [5, 58] (.region [tS 58 (.mv (tT 5)), tS 4 (.mv (tT 58))]) .ret)))⟩
noncomputable def h8_ (T : Tab) (k j0 : Nat) (g0 x3 out5 t17 t18 t19 : AV) (h : Heap) : Option (AV × Heap) :=
  loopB T k v1_ j0 [57] v0_ [.blk 0, .seq [0, 3, 17, 18, 19, 20] (.seq [5, 58] (.region [⟨some 58, .op (.mv (.tmp 5)), none⟩,
  ⟨some 4, .op (.mv (.tmp 58)), none⟩]) .ret)] [g0, .undef, .undef, x3, .undef, out5, .undef, .undef, .undef, .undef, .undef, .undef, .undef, .undef, .undef, .undef, .undef, t17, t18, t19, .undef, .undef, .undef, .undef, .undef, .undef, .undef, .undef, .undef, .undef, .undef, .undef, .undef, .undef, .undef, .undef, .undef, .undef, .undef, .undef, .undef, .undef, .undef, .undef, .undef, .undef, .undef, .undef, .undef, .undef, .undef, .undef, .undef, .undef, .undef, .undef, .undef, .undef, .undef] h
noncomputable def n5_ (T : Tab) (k j0 j1 : Nat) (g0 x3 out5 k7 e8 t17 t18 t19 t41 t42 t43 : AV) (h : Heap) : Option (AV × Heap) :=
  loopB T k v1_ j1 [56] a1w [.blk 2, .blk 1, .seq [7, 8, 41, 42, 43, 44] (.region [⟨some 57, .op (.bin .add .scalar (.tmp 19) (.const (.int .i64 1))), none⟩,
  ⟨some 19, .op (.mv (.tmp 57)), none⟩]), .lp j0 [57] v0_, .blk 0, .seq [0, 3, 17, 18, 19, 20] (.seq [5, 58] (.region [⟨some 58, .op (.mv (.tmp 5)), none⟩,
  ⟨some 4, .op (.mv (.tmp 58)), none⟩]) .ret)] [g0, .undef, .undef, x3, .undef, out5, .undef, k7, e8, .undef, .undef, .undef, .undef, .undef, .undef, .undef, .undef, t17, t18, t19, .undef, .undef, .undef, .undef, .undef, .undef, .undef, .undef, .undef, .undef, .undef, .undef, .undef, .undef, .undef, .undef, .undef, .undef, .undef, .undef, .undef, t41, t42, t43, .undef, .undef, .undef, .undef, .undef, .undef, .undef, .undef, .undef, .undef, .undef, .undef, .undef, .undef, .undef] h
theorem a0s (T : Tab) (k j0 j1 : Nat) (g0 x3 out5 k7 e8 t17 t18 t19 t41 t42 t43 : AV) (h : Heap) : n5_ T k j0 (j1 + 1) g0 x3 out5 k7 e8 t17 t18 t19 t41 t42 t43 h =
 oa (binV .lss .scalar t43 t42) fun t44_1 =>
 cond2 t44_1
 (
 oa (idxS 1 t41 t43) fun t45_2 =>
 oa (ld1 h t45_2) fun t46_3 =>
 oa (fldA 0 e8) fun t48_4 =>
 oa (ld1 h t48_4) fun t49_5 =>
 oa (buildV [.int .i64 0, .int .i64 0] [(0, 1, t49_5), (1, 1, t46_3)]) fun t51_6 =>
 oa (buildV [.int .i64 0, .int .i64 0, .int .i64 0] [(0, 2, t51_6), (2, 1, k7)]) fun t53_7 =>
 ob (buildSl 3 1 [.int .i64 0, .int .i64 0, .int .i64 0] [(0, 3, t53_7)] h) fun t54_8 h_9 =>
 ob (apnd 3 24 out5 t54_8 h_9) fun t55_10 h_11 =>
 oa (binV .add .scalar t43 (.int .i64 1)) fun t56_12 =>
 n5_ T k j0 j1 g0 x3 t55_10 k7 e8 t17 t18 t19 t41 t42 t56_12 h_11
 )
 (
 oa (binV .add .scalar t19 (.int .i64 1)) fun t57_13 =>
 h8_ T k j0 g0 x3 out5 t17 t18 t57_13 h
 ) := loopEq (by kernel_rfl)
theorem a0t (T : Tab) (k j0 : Nat) (g0 x3 out5 t17 t18 t19 : AV) (h : Heap) : h8_ T k (j0 + 1) g0 x3 out5 t17 t18 t19 h =
 oa (binV .lss .scalar t19 t18) fun t20_1 =>
 cond2 t20_1
 (
 oa (idxS 1 t17 t19) fun t21_2 =>
 oa (ld1 h t21_2) fun t22_3 =>
 oa (nilCk g0) fun t24_4 =>
 oa (fldA 0 t24_4) fun t25_5 =>
 oa (fldA 1 t25_5) fun t26_6 =>
 oa (ld1 h t26_6) fun t27_7 =>
 oa (idxS 4 t27_7 t22_3) fun t29_8 =>
 oa (ldN 4 h t29_8) fun t30_9 =>
 ob (newVar h [.int .i64 0, .int .i64 0, .int .i64 0, .int .i64 0]) fun e8_10 h_11 =>
 oh (stN 4 h_11 e8_10 t30_9) fun h_12 =>
 oa (nilCk g0) fun t60_13 =>
 oa (fldA 5 t60_13) fun t61_14 =>
 oa (ld1 h_12 t61_14) fun t62_15 =>
 oa (fldA 1 x3) fun t63_16 =>
 oa (ld1 h_12 t63_16) fun t64_17 =>
 oa (fldA 2 e8_10) fun t65_18 =>
 oa (ld1 h_12 t65_18) fun t66_19 =>
 oa (idxS 5 t62_15 t64_17) fun t67_20 =>
 oa (idxA 5 1 t67_20 t66_19) fun t68_21 =>
 oa (ld1 h_12 t68_21) fun t69_22 =>
 oa (lenS t69_22) fun t70_23 =>
 n5_ T k j0 k g0 x3 out5 t22_3 e8_10 t17 t18 t19 t69_22 t70_23 (.int .i64 0) h_12
 )
 (
 some (out5, h)
 ) := loopEq (by kernel_rfl)
theorem a6w (T : Tab) (k : Nat) (g0 x1 : AV) (h : Heap) : runF T k v2_ [g0, x1] h =
 ob (newVar h (AV.cells x1)) fun x3_1 h_2 =>
 oa (nilCk g0) fun t60_3 =>
 oa (fldA 2 t60_3) fun t61_4 =>
 oa (ld1 h_2 t61_4) fun t62_5 =>
 oa (fldA 0 x3_1) fun t63_6 =>
 oa (ld1 h_2 t63_6) fun t64_7 =>
 ob (evalFn T k a0m [t62_5, t64_7] h_2) fun t65_8 h_9 =>
 oa (lenS t65_8) fun t66_10 =>
 h8_ T k k g0 x3_1 .nils t65_8 t66_10 (.int .i64 0) h_9 := runEq (by kernel_rfl)
def a8T : Res := []
noncomputable def a3u : MFn := ⟨33, a8T, .seq [0, 1, 2, 7, 8, 9, 10, 11, 12] (.regionD 33 [tD 0 33 (.load none (tT 1)), tD 1 34 (.mv (tT 0)), tD 3 36 (.load none (tT 2)), tD 4 37 (.mv (tT 0)), ⟨2, ⟨some 35, .call c0_ [(tT 33), (tT 34)], none⟩, [(36, tS 36 (.load none (tT 2)))]⟩, ⟨5, ⟨some 38, .call c0_ [(tT 36), (tT 37)], none⟩, []⟩, tD 6 39 (.mv (tT 35)), tD 7 40 (.mv (tT 38))] [(7, 33), (8, 34), (9, 35), (10, 36), (11, 37), (12, 38), (5, 39), (6, 40)]) (.seq [13, 14, 15, 16, 17, 18, 19, 20, 21, 22, 23, 24, 25, 26, 27, 28] (.region [tS 13 (.mv (tT 5)), tS 14 (.bin .geq .scalar (tT 13) (tK 0)), tS 15 (.mv (tT 14)), ⟨some 16, .op (.mv (tT 6)), some (15, true)⟩, ⟨some 17, .op (.bin .geq .scalar (tT 16) (tK 0)), some (15, true)⟩, tS 18 (.pick (tT 15) (tT 17) (.const (.bool false))), tS 19 (.mv (tT 18)), ⟨some 20, .op (.load none (tT 3)), some (19, true)⟩, ⟨some 21, .op (.bin .lss .scalar (tT 20) (tK 0)), some (19, true)⟩, ⟨some 22, .op (.mv (tT 21)), some (19, true)⟩, ⟨some 23, .op (.mv (tT 5)), some (22, false)⟩, ⟨some 24, .op (.mv (tT 6)), some (22, false)⟩, ⟨some 25, .op (.bin .add .scalar (tT 23) (tT 24)), some (22, false)⟩, ⟨some 26, .op (.load none (tT 3)), some (22, false)⟩, ⟨some 27, .op (.bin .lss .scalar (tT 25) (tT 26)), some (22, false)⟩, ⟨some 28, .op (.pick (tT 22) (.const (.bool true)) (tT 27)), some (19, true)⟩, tS 29 (.pick (tT 19) (tT 28) (.const (.bool false)))]) (.cond (tT 29) (.region [tS 30 (.mv (tT 5)), tS 31 (.mv (tT 6)), tS 32 (.bin .add .scalar (tT 30) (tT 31)), ⟨none, .op (.store 1 (tT 3) (tT 32)), none⟩]) .skip))⟩
theorem a8U (T : Tab) (k : Nat) (id0 t1 t2 t3 : AV) (h : Heap) : runF T k a3u [id0, t1, t2, t3] h =
 oa (ld1 h t1) fun t33_1 =>
 oa (ld1 h t2) fun t36_2 =>
 ob (evalFn T k c0_ [t33_1, id0] h) fun t35_3 h_4 =>
 chk ((sameB (pure1 h_4 (ld1 h_4 t2)) t36_2 && true)) <|
 ob (evalFn T k c0_ [t36_2, id0] h_4) fun t38_5 h_6 =>
 oa (binV .geq .scalar t35_3 (.int .i64 0)) fun t14_7 =>
 ob (gd t14_7 true (some (t38_5, h_6)) h_6) fun t16_8 h_9 =>
 ob (gd t14_7 true (pure1 h_9 (binV .geq .scalar t16_8 (.int .i64 0))) h_9) fun t17_10 h_11 =>
 oa (pickV t14_7 t17_10 (.bool false)) fun t18_12 =>
 ob (gd t18_12 true (pure1 h_11 (ld1 h_11 t3)) h_11) fun t20_13 h_14 =>
 ob (gd t18_12 true (pure1 h_14 (binV .lss .scalar t20_13 (.int .i64 0))) h_14) fun t21_15 h_16 =>
 ob (gd t18_12 true (some (t21_15, h_16)) h_16) fun t22_17 h_18 =>
 ob (gd t22_17 false (some (t35_3, h_18)) h_18) fun t23_19 h_20 =>
 ob (gd t22_17 false (some (t38_5, h_20)) h_20) fun t24_21 h_22 =>
 ob (gd t22_17 false (pure1 h_22 (binV .add .scalar t23_19 t24_21)) h_22) fun t25_23 h_24 =>
 ob (gd t22_17 false (pure1 h_24 (ld1 h_24 t3)) h_24) fun t26_25 h_26 =>
 ob (gd t22_17 false (pure1 h_26 (binV .lss .scalar t25_23 t26_25)) h_26) fun t27_27 h_28 =>
 ob (gd t18_12 true (pure1 h_28 (pickV t22_17 (.bool true) t27_27)) h_28) fun t28_29 h_30 =>
 oa (pickV t18_12 t28_29 (.bool false)) fun t29_31 =>
 cond2 t29_31
 (
 oa (binV .add .scalar t35_3 t38_5) fun t32_32 =>
 oh (stN 1 h_30 t3 t32_32) fun h_33 =>
 some (.tup [], h_33)
 )
 (
 some (.tup [], h_30)
 ) := runEq (by kernel_rfl)
def a4J : Res := [(4, none)]
noncomputable def q1_ : MFn := ⟨33, a4J, .seq [4] (.region [tS 4 (.mv (tK 0))]) (.seq [14] (.seq [7, 8, 9, 10, 11, 12, 13] (.region [tS 7 (.mv (tT 0)), tS 8 (.nilCheck (tT 7)), tS 9 (.fieldAddr 3 (tT 8)), tS 10 (.load none (tT 9)), tS 11 (.mv (tT 1)), tS 12 (.idxSl 1 (tT 10) (tT 11)), tS 13 (.load none (tT 12)), tS 14 (.bin .geq .scalar (tT 13) (tK 0))]) (.cond (tT 14) (.seq [0, 1, 14, 15, 16, 17, 18, 19, 20, 21] (.region [tS 15 (.mv (tT 0)), tS 16 (.nilCheck (tT 15)), tS 17 (.fieldAddr 3 (tT 16)), tS 18 (.load none (tT 17)), tS 19 (.mv (tT 1)), tS 20 (.idxSl 1 (tT 18) (tT 19)), tS 21 (.load none (tT 20)), tS 4 (.mv (tT 21))]) .ret) .skip)) (.seq [5, 31] (.seq [0, 1, 22, 23, 24, 25, 26, 27, 28, 29, 30] (.region [tS 23 (.mv (tT 0)), tS 24 (.nilCheck (tT 23)), tS 25 (.fieldAddr 2 (tT 24)), tS 26 (.load none (tT 25)), tS 27 (.mv (tT 1)), ⟨some 28, .call j7_ [(tT 26), (tT 27)], none⟩, tS 22 (.mv (tT 28)), tS 29 (.extract 0 (tT 22)), tS 30 (.extract 1 (tT 22)), tS 5 (.mv (tT 29)), tS 6 (.mv (tT 30))]) (.seq [6] (.region [tS 31 (.mv (tT 6))]) (.cond (tT 31) (.seq [5, 31, 32] (.region [tS 32 (.mv (tT 5)), tS 4 (.mv (tT 32))]) .ret) .skip))) (.seq [] (.region [tS 4 (.mv (tK (-1)))]) .ret)))⟩
theorem a4K (T : Tab) (k : Nat) (s0 id1 : AV) (h : Heap) : runF T k q1_ [s0, id1] h =
 oa (nilCk s0) fun t8_1 =>
 oa (fldA 3 t8_1) fun t9_2 =>
 oa (ld1 h t9_2) fun t10_3 =>
 oa (idxS 1 t10_3 id1) fun t12_4 =>
 oa (ld1 h t12_4) fun t13_5 =>
 oa (binV .geq .scalar t13_5 (.int .i64 0)) fun t14_6 =>
 cond2 t14_6
 (
 oa (nilCk s0) fun t16_7 =>
 oa (fldA 3 t16_7) fun t17_8 =>
 oa (ld1 h t17_8) fun t18_9 =>
 oa (idxS 1 t18_9 id1) fun t20_10 =>
 oa (ld1 h t20_10) fun t21_11 =>
 some (t21_11, h)
 )
 (
 oa (nilCk s0) fun t24_12 =>
 oa (fldA 2 t24_12) fun t25_13 =>
 oa (ld1 h t25_13) fun t26_14 =>
 ob (evalFn T k j7_ [t26_14, id1] h) fun t28_15 h_16 =>
 oa (extr 0 t28_15) fun t29_17 =>
 oa (extr 1 t28_15) fun t30_18 =>
 cond2 t30_18
 (
 some (t29_17, h_16)
 )
 (
 some ((.int .i64 (-1)), h_16)
 )
 ) := runEq (by kernel_rfl)
noncomputable def a0U : MCode := .seq [] (.region [tS 49 (.bin .lss .scalar (tT 48) (tT 47))]) (.seq [49] (.cond (tT 49) .skip (.exit 0)) (.seq [8, 9, 89, 90, 91, 92, 93, 94, 95, 96, 97, 98, 99, 100, 101, 102, 103, 104] (.block 1 (.seq [50, 51] (.region [tS 50 (.idxSl 3 (tT 46) (tT 48)), tS 51 (.load (some 3) (tT 50)), tS 8 (.alloc [.int .i64 0, .int .i64 0, .int .i64 0]), ⟨none, .op (.store 3 (tT 8) (tT 51)), none⟩]) (.seq [52, 53, 54, 55, 56, 57, 58] (.regionD 107 [tD 0 107 (.mv (tT 0)), tD 1 108 (.nilCheck (tT 107)), tD 2 109 (.fieldAddr 0 (tT 108)), tD 3 110 (.load none (tT 109)), tD 4 111 (.fieldAddr 0 (tT 8)), tD 5 112 (.load (some 2) (tT 111)), ⟨6, ⟨some 113, .call b3_ [(tT 110), (tT 112)], none⟩, []⟩, tD 7 114 (.mv (tT 113))] [(52, 107), (53, 108), (54, 109), (55, 110), (56, 111), (57, 112), (58, 113), (9, 114)]) (.seq [59, 60, 61, 62, 63, 64, 65, 66, 67, 68, 69, 70, 71, 72, 73, 74, 75, 76, 77, 78, 79, 80, 81, 82, 83, 84, 85, 86, 87, 88] (.regionD 107 [tD 0 107 (.mv (tT 0)), tD 1 108 (.nilCheck (tT 107)), tD 2 109 (.fieldAddr 3 (tT 108)), tD 3 110 (.load none (tT 109)), tD 4 111 (.mv (tT 9)), tD 5 112 (.idxSl 1 (tT 110) (tT 111)), tD 6 113 (.load none (tT 112)), tD 7 114 (.bin .lss .scalar (tT 113) (tK 0)), tD 8 115 (.mv (tT 114)), ⟨9, ⟨some 116, .op (.mv (tT 0)), some (115, true)⟩, []⟩, ⟨10, ⟨some 117, .op (.nilCheck (tT 116)), some (115, true)⟩, []⟩, ⟨11, ⟨some 118, .op (.fieldAddr 2 (tT 117)), some (115, true)⟩, []⟩, ⟨12, ⟨some 119, .op (.load none (tT 118)), some (115, true)⟩, []⟩, ⟨13, ⟨some 120, .op (.mv (tT 9)), some (115, true)⟩, []⟩, ⟨14, ⟨some 121, .op (.mv (tT 5)), some (115, true)⟩, []⟩, ⟨15, ⟨some 122, .op (.mv (tT 0)), some (115, true)⟩, []⟩, ⟨16, ⟨some 123, .op (.nilCheck (tT 122)), some (115, true)⟩, []⟩, ⟨17, ⟨some 124, .op (.fieldAddr 0 (tT 123)), some (115, true)⟩, []⟩, ⟨18, ⟨some 125, .op (.load none (tT 124)), some (115, true)⟩, []⟩, ⟨19, ⟨some 126, .op (.nilCheck (tT 125)), some (115, true)⟩, []⟩, ⟨20, ⟨some 127, .op (.fieldAddr 0 (tT 126)), some (115, true)⟩, []⟩, ⟨21, ⟨some 128, .op (.fieldAddr 1 (tT 127)), some (115, true)⟩, []⟩, ⟨22, ⟨some 129, .op (.load none (tT 128)), some (115, true)⟩, []⟩, ⟨23, ⟨some 130, .op (.fieldAddr 2 (tT 8)), some (115, true)⟩, []⟩, ⟨24, ⟨some 131, .op (.load none (tT 130)), some (115, true)⟩, []⟩, ⟨25, ⟨some 132, .op (.idxSl 4 (tT 129) (tT 131)), some (115, true)⟩, []⟩, ⟨26, ⟨some 133, .op (.fieldAddr 3 (tT 132)), some (115, true)⟩, []⟩, ⟨27, ⟨some 134, .op (.load none (tT 133)), some (115, true)⟩, []⟩, ⟨28, ⟨some 135, .op (.bin .add .scalar (tT 121) (tT 134)), some (115, true)⟩, []⟩, ⟨29, ⟨some 136, .call d1_ [(tT 119), (tT 120), (tT 135)], some (115, true)⟩, []⟩, tD 30 137 (.pick (tT 115) (tT 136) (.const (.bool false)))] [(59, 107), (60, 108), (61, 109), (62, 110), (63, 111), (64, 112), (65, 113), (66, 114), (67, 115), (68, 116), (69, 117), (70, 118), (71, 119), (72, 120), (73, 121), (74, 122), (75, 123), (76, 124), (77, 125), (78, 126), (79, 127), (80, 128), (81, 129), (82, 130), (83, 131), (84, 132), (85, 133), (86, 134), (87, 135), (88, 136), (89, 137)]) (.cond (tT 89) (.regionD 107 [tD 0 107 (.mv (tT 0)), tD 1 108 (.nilCheck (tT 107)), tD 2 109 (.fieldAddr 4 (tT 108)), tD 3 110 (.load none (tT 109)), tD 4 111 (.mv (tT 9)), tD 5 112 (.mv (tT 0)), tD 6 113 (.nilCheck (tT 112)), tD 7 114 (.fieldAddr 5 (tT 113)), tD 8 115 (.load none (tT 114)), tD 9 116 (.mv (tT 9)), tD 10 117 (.fieldAddr 2 (tT 8)), tD 11 118 (.load none (tT 117)), tD 12 119 (.mv (tT 4)), tD 13 120 (.idxSl 1 (tT 110) (tT 111)), tD 14 121 (.store 1 (tT 120) (tT 118)), tD 15 122 (.idxSl 1 (tT 115) (tT 116)), tD 16 123 (.store 1 (tT 122) (tT 119))] [(90, 107), (91, 108), (92, 109), (93, 110), (94, 111), (95, 112), (96, 113), (97, 114), (98, 115), (99, 116), (100, 117), (101, 118), (102, 119), (103, 120), (104, 122)]) .skip))))) (.region [tS 105 (.bin .add .scalar (tT 48) (tK 1)), tS 48 (.mv (tT 105))])))
noncomputable def s9_ : MCode := .seq [4, 106] (.region [tS 106 (.mv (tT 4)), tS 2 (.mv (tT 106)), tS 3 (.mv (.const (.bool true)))]) .ret
def t0_ : Res := [(2, none), (3, none)]
noncomputable def t1_ : MFn := ⟨107, t0_, .seq [2, 3] (.region [tS 2 (.mv (tK 0)), tS 3 (.mv (.const (.bool false)))]) (.seq [10, 11, 12, 13, 14, 15, 16, 17, 18] (.region [tS 11 (.mv (tT 0)), tS 12 (.nilCheck (tT 11)), tS 13 (.fieldAddr 2 (tT 12)), tS 14 (.load none (tT 13)), ⟨some 15, .call j8_ [(tT 14)], none⟩, tS 10 (.mv (tT 15)), tS 16 (.extract 0 (tT 10)), tS 17 (.extract 1 (tT 10)), tS 18 (.extract 2 (tT 10)), tS 4 (.mv (tT 16)), tS 5 (.mv (tT 17)), tS 6 (.mv (tT 18))]) (.seq [20] (.seq [6, 19] (.region [tS 19 (.mv (tT 6)), tS 20 (.un .not (tT 19))]) (.cond (tT 20) (.seq [0, 4, 5, 20] (.region [tS 2 (.mv (tK 0)), tS 3 (.mv (.const (.bool false)))]) .ret) .skip)) (.seq [21, 22, 23, 24, 25, 26, 27, 28, 29, 30, 31] (.region [tS 21 (.mv (tT 0)), tS 22 (.nilCheck (tT 21)), tS 23 (.fieldAddr 3 (tT 22)), tS 24 (.load none (tT 23)), tS 25 (.mv (tT 4)), tS 26 (.mv (tT 0)), tS 27 (.mv (tT 5)), tS 28 (.mv (tT 5)), tS 29 (.idxSl 1 (tT 24) (tT 25)), ⟨none, .op (.store 1 (tT 29) (tT 27)), none⟩, tS 30 (.nilCheck (tT 26)), tS 31 (.fieldAddr 6 (tT 30)), ⟨none, .op (.store 1 (tT 31) (tT 28)), none⟩]) (.seq [0, 5, 46, 47, 48, 49] (.seq [32, 33, 34, 35, 36, 37, 38, 39, 40, 41, 42, 43, 44, 45] (.regionD 107 [tD 0 107 (.mv (tT 0)), tD 1 108 (.nilCheck (tT 107)), tD 2 109 (.fieldAddr 1 (tT 108)), tD 3 110 (.load none (tT 109)), tD 4 111 (.mv (tT 0)), tD 5 112 (.nilCheck (tT 111)), tD 6 113 (.fieldAddr 0 (tT 112)), tD 7 114 (.load none (tT 113)), tD 8 115 (.mv (tT 0)), tD 9 116 (.nilCheck (tT 115)), tD 10 117 (.fieldAddr 0 (tT 116)), tD 11 118 (.load none (tT 117)), tD 12 119 (.mv (tT 4)), tD 16 123 (.mv (tK 0)), ⟨13, ⟨some 120, .call c8_ [(tT 118), (tT 119)], none⟩, [(110, tS 110 (.load none (tT 109))), (114, tS 114 (.load none (tT 113)))]⟩, ⟨14, ⟨some 121, .callV (tT 110) [(tT 114), (tT 120)], none⟩, []⟩, tD 15 122 (.lenSl (tT 121))] [(32, 107), (33, 108), (34, 109), (35, 110), (36, 111), (37, 112), (38, 113), (39, 114), (40, 115), (41, 116), (42, 117), (43, 118), (44, 119), (45, 120), (46, 121), (47, 122), (48, 123)]) (.block 0 (.loop [105] a0U))) (.lab s9_)))))⟩
noncomputable def g1_ (T : Tab) (k j0 : Nat) (s0 id4 key5 t46 t47 t48 : AV) (h : Heap) : Option (AV × Heap) :=
  loopB T k t0_ j0 [105] a0U [.blk 0, .seq [0, 5, 46, 47, 48, 49] (.lab s9_)] [s0, .u, .u, .u, id4, key5, .u, .u, .u, .u, .u, .u, .u, .u, .u, .u, .u, .u, .u, .u, .u, .u, .u, .u, .u, .u, .u, .u, .u, .u, .u, .u, .u, .u, .u, .u, .u, .u, .u, .u, .u, .u, .u, .u, .u, .u, t46, t47, t48, .u, .u, .u, .u, .u, .u, .u, .u, .u, .u, .u, .u, .u, .u, .u, .u, .u, .u, .u, .u, .u, .u, .u, .u, .u, .u, .u, .u, .u, .u, .u, .u, .u, .u, .u, .u, .u, .u, .u, .u, .u, .u, .u, .u, .u, .u, .u, .u, .u, .u, .u, .u, .u, .u, .u, .u, .u, .u] h
end Go.Gm.A9

