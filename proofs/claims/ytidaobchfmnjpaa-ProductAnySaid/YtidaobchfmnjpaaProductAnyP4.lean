/- A part of the proof: an abstract machine, what it does, and what the functions of the program come to on it (GmA9). -/
import Derived.KernelRfl
import Derived.Test.YtidaobchfmnjpaaProductAnyP3
set_option linter.unusedVariables false
namespace Go.Gm.A9
open Go Go.Gm
noncomputable def a0V (T : Tab) (k : Nat) (id4 : AV) (h : Heap) : Option (AV × Heap) :=
  evB T k t0_ s9_ [] [.u, .u, .u, .u, id4, .u, .u, .u, .u, .u, .u, .u, .u, .u, .u, .u, .u, .u, .u, .u, .u, .u, .u, .u, .u, .u, .u, .u, .u, .u, .u, .u, .u, .u, .u, .u, .u, .u, .u, .u, .u, .u, .u, .u, .u, .u, .u, .u, .u, .u, .u, .u, .u, .u, .u, .u, .u, .u, .u, .u, .u, .u, .u, .u, .u, .u, .u, .u, .u, .u, .u, .u, .u, .u, .u, .u, .u, .u, .u, .u, .u, .u, .u, .u, .u, .u, .u, .u, .u, .u, .u, .u, .u, .u, .u, .u, .u, .u, .u, .u, .u, .u, .u, .u, .u, .u, .u] h
theorem a3I (T : Tab) (k : Nat) (id4 : AV) (h : Heap) : a0V T k id4 h =
 some (.tup [id4, (.bool true)], h) := blockEq (by kernel_rfl)
theorem z9_ (T : Tab) (k j0 : Nat) (s0 id4 key5 t46 t47 t48 : AV) (h : Heap) : g1_ T k (j0 + 1) s0 id4 key5 t46 t47 t48 h =
 oa (binV .lss .scalar t48 t47) fun t49_1 =>
 cond2 t49_1
 (
 oa (idxS 3 t46 t48) fun t50_2 =>
 oa (ldN 3 h t50_2) fun t51_3 =>
 ob (newVar h [.int .i64 0, .int .i64 0, .int .i64 0]) fun h8_4 h_5 =>
 oh (stN 3 h_5 h8_4 t51_3) fun h_6 =>
 oa (nilCk s0) fun t108_7 =>
 oa (fldA 0 t108_7) fun t109_8 =>
 oa (ld1 h_6 t109_8) fun t110_9 =>
 oa (fldA 0 h8_4) fun t111_10 =>
 oa (ldN 2 h_6 t111_10) fun t112_11 =>
 ob (evalFn T k b3_ [t110_9, t112_11] h_6) fun t113_12 h_13 =>
 oa (nilCk s0) fun t108_14 =>
 oa (fldA 3 t108_14) fun t109_15 =>
 oa (ld1 h_13 t109_15) fun t110_16 =>
 oa (idxS 1 t110_16 t113_12) fun t112_17 =>
 oa (ld1 h_13 t112_17) fun t113_18 =>
 oa (binV .lss .scalar t113_18 (.int .i64 0)) fun t114_19 =>
 ob (gd t114_19 true (some (s0, h_13)) h_13) fun t116_20 h_21 =>
 ob (gd t114_19 true (pure1 h_21 (nilCk t116_20)) h_21) fun t117_22 h_23 =>
 ob (gd t114_19 true (pure1 h_23 (fldA 2 t117_22)) h_23) fun t118_24 h_25 =>
 ob (gd t114_19 true (pure1 h_25 (ld1 h_25 t118_24)) h_25) fun t119_26 h_27 =>
 ob (gd t114_19 true (some (t113_12, h_27)) h_27) fun t120_28 h_29 =>
 ob (gd t114_19 true (some (key5, h_29)) h_29) fun t121_30 h_31 =>
 ob (gd t114_19 true (some (s0, h_31)) h_31) fun t122_32 h_33 =>
 ob (gd t114_19 true (pure1 h_33 (nilCk t122_32)) h_33) fun t123_34 h_35 =>
 ob (gd t114_19 true (pure1 h_35 (fldA 0 t123_34)) h_35) fun t124_36 h_37 =>
 ob (gd t114_19 true (pure1 h_37 (ld1 h_37 t124_36)) h_37) fun t125_38 h_39 =>
 ob (gd t114_19 true (pure1 h_39 (nilCk t125_38)) h_39) fun t126_40 h_41 =>
 ob (gd t114_19 true (pure1 h_41 (fldA 0 t126_40)) h_41) fun t127_42 h_43 =>
 ob (gd t114_19 true (pure1 h_43 (fldA 1 t127_42)) h_43) fun t128_44 h_45 =>
 ob (gd t114_19 true (pure1 h_45 (ld1 h_45 t128_44)) h_45) fun t129_46 h_47 =>
 ob (gd t114_19 true (pure1 h_47 (fldA 2 h8_4)) h_47) fun t130_48 h_49 =>
 ob (gd t114_19 true (pure1 h_49 (ld1 h_49 t130_48)) h_49) fun t131_50 h_51 =>
 ob (gd t114_19 true (pure1 h_51 (idxS 4 t129_46 t131_50)) h_51) fun t132_52 h_53 =>
 ob (gd t114_19 true (pure1 h_53 (fldA 3 t132_52)) h_53) fun t133_54 h_55 =>
 ob (gd t114_19 true (pure1 h_55 (ld1 h_55 t133_54)) h_55) fun t134_56 h_57 =>
 ob (gd t114_19 true (pure1 h_57 (binV .add .scalar t121_30 t134_56)) h_57) fun t135_58 h_59 =>
 ob (gd t114_19 true (evalFn T k d1_ [t119_26, t120_28, t135_58] h_59) h_59) fun t136_60 h_61 =>
 oa (pickV t114_19 t136_60 (.bool false)) fun t137_62 =>
 cond2 t137_62
 (
 oa (nilCk s0) fun t108_63 =>
 oa (fldA 4 t108_63) fun t109_64 =>
 oa (ld1 h_61 t109_64) fun t110_65 =>
 oa (nilCk s0) fun t113_66 =>
 oa (fldA 5 t113_66) fun t114_67 =>
 oa (ld1 h_61 t114_67) fun t115_68 =>
 oa (fldA 2 h8_4) fun t117_69 =>
 oa (ld1 h_61 t117_69) fun t118_70 =>
 oa (idxS 1 t110_65 t113_12) fun t120_71 =>
 oh (stN 1 h_61 t120_71 t118_70) fun h_72 =>
 oa (idxS 1 t115_68 t113_12) fun t122_73 =>
 oh (stN 1 h_72 t122_73 id4) fun h_74 =>
 oa (binV .add .scalar t48 (.int .i64 1)) fun t105_75 =>
 g1_ T k j0 s0 id4 key5 t46 t47 t105_75 h_74
 )
 (
 oa (binV .add .scalar t48 (.int .i64 1)) fun t105_76 =>
 g1_ T k j0 s0 id4 key5 t46 t47 t105_76 h_61
 )
 )
 (
 a0V T k id4 h
 ) := loopEq (by kernel_rfl)
theorem a5N (T : Tab) (k : Nat) (s0 : AV) (h : Heap) : runF T k t1_ [s0] h =
 oa (nilCk s0) fun t12_1 =>
 oa (fldA 2 t12_1) fun t13_2 =>
 oa (ld1 h t13_2) fun t14_3 =>
 ob (evalFn T k j8_ [t14_3] h) fun t15_4 h_5 =>
 oa (extr 0 t15_4) fun t16_6 =>
 oa (extr 1 t15_4) fun t17_7 =>
 oa (extr 2 t15_4) fun t18_8 =>
 oa (unV .not t18_8) fun t20_9 =>
 cond2 t20_9
 (
 some (.tup [(.int .i64 0), (.bool false)], h_5)
 )
 (
 oa (nilCk s0) fun t22_10 =>
 oa (fldA 3 t22_10) fun t23_11 =>
 oa (ld1 h_5 t23_11) fun t24_12 =>
 oa (idxS 1 t24_12 t16_6) fun t29_13 =>
 oh (stN 1 h_5 t29_13 t17_7) fun h_14 =>
 oa (nilCk s0) fun t30_15 =>
 oa (fldA 6 t30_15) fun t31_16 =>
 oh (stN 1 h_14 t31_16 t17_7) fun h_17 =>
 oa (nilCk s0) fun t108_18 =>
 oa (fldA 1 t108_18) fun t109_19 =>
 oa (ld1 h_17 t109_19) fun t110_20 =>
 oa (nilCk s0) fun t112_21 =>
 oa (fldA 0 t112_21) fun t113_22 =>
 oa (ld1 h_17 t113_22) fun t114_23 =>
 oa (nilCk s0) fun t116_24 =>
 oa (fldA 0 t116_24) fun t117_25 =>
 oa (ld1 h_17 t117_25) fun t118_26 =>
 ob (evalFn T k c8_ [t118_26, t16_6] h_17) fun t120_27 h_28 =>
 chk ((sameB (pure1 h_28 (ld1 h_28 t109_19)) t110_20 && (sameB (pure1 h_28 (ld1 h_28 t113_22)) t114_23 && true))) <|
 ob (callVal (evalFn T k) t110_20 [t114_23, t120_27] h_28) fun t121_29 h_30 =>
 oa (lenS t121_29) fun t122_31 =>
 g1_ T k k s0 t16_6 t17_7 t121_29 t122_31 (.int .i64 0) h_30
 ) := runEq (by kernel_rfl)
def a6x : Res := [(4, some (some 2))]
noncomputable def v3_ : MFn := ⟨22, a6x, .seq [] (.region [tS 4 (.alloc [.int .i64 0, .int .i64 0])]) (.seq [0, 1, 5, 6, 7, 8, 9, 10, 11, 12, 13, 14, 15, 16, 17, 18, 19, 20, 21] (.regionD 22 [tD 0 22 (.mv (tT 1)), tD 1 23 (.mv (tT 0)), tD 2 24 (.nilCheck (tT 23)), tD 3 25 (.fieldAddr 3 (tT 24)), tD 4 26 (.fieldAddr 0 (tT 25)), tD 5 27 (.load none (tT 26)), tD 6 28 (.lenSl (tT 27)), tD 7 29 (.bin .quo .scalar (tT 22) (tT 28)), tD 8 30 (.mv (tT 1)), tD 9 31 (.mv (tT 0)), tD 10 32 (.nilCheck (tT 31)), tD 11 33 (.fieldAddr 3 (tT 32)), tD 12 34 (.fieldAddr 0 (tT 33)), tD 13 35 (.load none (tT 34)), tD 14 36 (.lenSl (tT 35)), tD 15 37 (.bin .rem .scalar (tT 30) (tT 36)), tD 16 38 (.build [.int .i64 0, .int .i64 0] [(0, 1, (tT 29)), (1, 1, (tT 37))]), tD 17 39 (.store 2 (tT 4) (tT 38))] [(5, 22), (6, 23), (7, 24), (8, 25), (9, 26), (10, 27), (11, 28), (12, 29), (13, 30), (14, 31), (15, 32), (16, 33), (17, 34), (18, 35), (19, 36), (20, 37), (21, 38)]) .ret)⟩
theorem a6y (T : Tab) (k : Nat) (g0 id1 : AV) (h : Heap) : runF T k v3_ [g0, id1] h =
 ob (newVar h [.int .i64 0, .int .i64 0]) fun t4_1 h_2 =>
 oa (nilCk g0) fun t24_3 =>
 oa (fldA 3 t24_3) fun t25_4 =>
 oa (fldA 0 t25_4) fun t26_5 =>
 oa (ld1 h_2 t26_5) fun t27_6 =>
 oa (lenS t27_6) fun t28_7 =>
 oa (binV .quo .scalar id1 t28_7) fun t29_8 =>
 oa (nilCk g0) fun t32_9 =>
 oa (fldA 3 t32_9) fun t33_10 =>
 oa (fldA 0 t33_10) fun t34_11 =>
 oa (ld1 h_2 t34_11) fun t35_12 =>
 oa (lenS t35_12) fun t36_13 =>
 oa (binV .rem .scalar id1 t36_13) fun t37_14 =>
 oa (buildV [.int .i64 0, .int .i64 0] [(0, 1, t29_8), (1, 1, t37_14)]) fun t38_15 =>
 oh (stN 2 h_2 t4_1 t38_15) fun h_16 =>
 oa (ldN 2 h_16 t4_1) fun t4_17 =>
 some (t4_17, h_16) := runEq (by kernel_rfl)
def a7J : Res := [(4, none)]
noncomputable def x4_ : MFn := ⟨17, a7J, .seq [1, 4] (.region [tS 3 (.box (tT 1)), tS 4 (.mv (tK 0))]) (.seq [0, 3, 5, 6, 7, 8, 9, 10, 11, 12, 13, 14, 15, 16] (.regionD 17 [tD 0 17 (.fieldAddr 0 (tT 3)), tD 1 18 (.load none (tT 17)), tD 2 19 (.mv (tT 0)), tD 3 20 (.nilCheck (tT 19)), tD 4 21 (.fieldAddr 3 (tT 20)), tD 5 22 (.fieldAddr 0 (tT 21)), tD 6 23 (.load none (tT 22)), tD 7 24 (.lenSl (tT 23)), tD 8 25 (.bin .mul .scalar (tT 18) (tT 24)), tD 9 26 (.fieldAddr 1 (tT 3)), tD 10 27 (.load none (tT 26)), tD 11 28 (.bin .add .scalar (tT 25) (tT 27)), tD 12 29 (.mv (tT 28))] [(5, 17), (6, 18), (7, 19), (8, 20), (9, 21), (10, 22), (11, 23), (12, 24), (13, 25), (14, 26), (15, 27), (16, 28), (4, 29)]) .ret)⟩
theorem a7K (T : Tab) (k : Nat) (g0 x1 : AV) (h : Heap) : runF T k x4_ [g0, x1] h =
 ob (newVar h (AV.cells x1)) fun x3_1 h_2 =>
 oa (fldA 0 x3_1) fun t17_3 =>
 oa (ld1 h_2 t17_3) fun t18_4 =>
 oa (nilCk g0) fun t20_5 =>
 oa (fldA 3 t20_5) fun t21_6 =>
 oa (fldA 0 t21_6) fun t22_7 =>
 oa (ld1 h_2 t22_7) fun t23_8 =>
 oa (lenS t23_8) fun t24_9 =>
 oa (binV .mul .scalar t18_4 t24_9) fun t25_10 =>
 oa (fldA 1 x3_1) fun t26_11 =>
 oa (ld1 h_2 t26_11) fun t27_12 =>
 oa (binV .add .scalar t25_10 t27_12) fun t28_13 =>
 some (t28_13, h_2) := runEq (by kernel_rfl)
noncomputable def a0E : MCode := .seq [15] (.seq [12, 13, 14] (.region [tS 12 (.mv (tT 4)), tS 13 (.mv (tT 3)), tS 14 (.lenSl (tT 13)), tS 15 (.bin .lss .scalar (tT 12) (tT 14))]) (.cond (tT 15) .skip (.exit 0))) (.seq [22, 23, 24, 25] (.block 1 (.seq [18, 19, 20, 21] (.region [tS 18 (.fieldAddr 1 (tT 1)), tS 19 (.load none (tT 18)), tS 20 (.mv (tT 4)), tS 21 (.idxSl 1 (tT 19) (tT 20)), tS 22 (.load none (tT 21))]) (.cond (tT 22) (.region [tS 23 (.mv (tT 3)), tS 24 (.mv (tT 4)), tS 25 (.idxSl 1 (tT 23) (tT 24)), ⟨none, .op (.store 1 (tT 25) (tK 1)), none⟩]) .skip))) (.region [tS 16 (.mv (tT 4)), tS 17 (.bin .add .scalar (tT 16) (tK 1)), tS 4 (.mv (tT 17))]))
noncomputable def a0F : MCode := .block 3 (.seq [3, 26, 27, 28, 29, 30, 31] (.region [tS 27 (.load (some 2) (tT 1)), tS 28 (.mv (tT 3)), ⟨some 29, .call h3_ [(tT 27), (tT 28)], none⟩, tS 26 (.mv (tT 29)), tS 30 (.extract 0 (tT 26)), tS 31 (.extract 1 (tT 26)), tS 6 (.mv (tT 30)), tS 7 (.mv (tT 31))]) (.seq [34] (.seq [5, 32, 33] (.region [tS 32 (.mv (tT 7)), tS 33 (.mv (tT 5)), tS 34 (.bin .eql .scalar (tT 32) (tT 33))]) (.cond (tT 34) (.seq [1, 6, 7, 34, 35] (.region [tS 35 (.mv (tT 6)), tS 2 (.mv (tT 35))]) .ret) .skip)) (.region [tS 36 (.mv (tT 6)), tS 37 (.mv (tT 7)), tS 3 (.mv (tT 36)), tS 5 (.mv (tT 37))])))
noncomputable def q2_ : MCode := .seq [] (.region [tS 5 (.mv (tK 0))]) (.block 2 (.loop [6, 7, 36, 37] a0F))
def k0_ : Res := [(2, none)]
noncomputable def q3_ : MFn := ⟨38, k0_, .seq [0, 2] (.region [tS 1 (.box (tT 0)), tS 2 (.mv (.const .nils))]) (.seq [8, 9, 10, 11] (.region [tS 8 (.fieldAddr 0 (tT 1)), tS 9 (.load none (tT 8)), tS 10 (.lenSl (tT 9)), tS 11 (.mkSlice [.int .i64 0] 1 8 (tT 10) (tT 10)), tS 3 (.mv (tT 11))]) (.seq [4, 15] (.seq [] (.region [tS 4 (.mv (tK 0))]) (.block 0 (.loop [16, 17] a0E))) (.lab q2_)))⟩
noncomputable def e7_ (T : Tab) (k j0 : Nat) (d1 c3 i4 : AV) (h : Heap) : Option (AV × Heap) :=
  loopB T k k0_ j0 [16, 17] a0E [.blk 0, .seq [4, 15] (.lab q2_)] [.u, d1, .u, c3, i4, .u, .u, .u, .u, .u, .u, .u, .u, .u, .u, .u, .u, .u, .u, .u, .u, .u, .u, .u, .u, .u, .u, .u, .u, .u, .u, .u, .u, .u, .u, .u, .u, .u] h
noncomputable def a0G (T : Tab) (k : Nat) (d1 c3 : AV) (h : Heap) : Option (AV × Heap) :=
  evB T k k0_ q2_ [] [.u, d1, .u, c3, .u, .u, .u, .u, .u, .u, .u, .u, .u, .u, .u, .u, .u, .u, .u, .u, .u, .u, .u, .u, .u, .u, .u, .u, .u, .u, .u, .u, .u, .u, .u, .u, .u, .u] h
noncomputable def k1_ (T : Tab) (k j0 : Nat) (d1 c3 n5 : AV) (h : Heap) : Option (AV × Heap) :=
  loopB T k k0_ j0 [6, 7, 36, 37] a0F [.blk 2] [.u, d1, .u, c3, .u, n5, .u, .u, .u, .u, .u, .u, .u, .u, .u, .u, .u, .u, .u, .u, .u, .u, .u, .u, .u, .u, .u, .u, .u, .u, .u, .u, .u, .u, .u, .u, .u, .u] h
theorem a3o (T : Tab) (k j0 : Nat) (d1 c3 n5 : AV) (h : Heap) : k1_ T k (j0 + 1) d1 c3 n5 h =
 oa (ldN 2 h d1) fun t27_1 =>
 ob (evalFn T k h3_ [t27_1, c3] h) fun t29_2 h_3 =>
 oa (extr 0 t29_2) fun t30_4 =>
 oa (extr 1 t29_2) fun t31_5 =>
 oa (binV .eql .scalar t31_5 n5) fun t34_6 =>
 cond2 t34_6
 (
 some (t30_4, h_3)
 )
 (
 k1_ T k j0 d1 t30_4 t31_5 h_3
 ) := loopEq (by kernel_rfl)
theorem a3p (T : Tab) (k : Nat) (d1 c3 : AV) (h : Heap) : a0G T k d1 c3 h =
 k1_ T k k d1 c3 (.int .i64 0) h := blockEq (by kernel_rfl)
theorem x0_ (T : Tab) (k j0 : Nat) (d1 c3 i4 : AV) (h : Heap) : e7_ T k (j0 + 1) d1 c3 i4 h =
 oa (lenS c3) fun t14_1 =>
 oa (binV .lss .scalar i4 t14_1) fun t15_2 =>
 cond2 t15_2
 (
 oa (fldA 1 d1) fun t18_3 =>
 oa (ld1 h t18_3) fun t19_4 =>
 oa (idxS 1 t19_4 i4) fun t21_5 =>
 oa (ld1 h t21_5) fun t22_6 =>
 cond2 t22_6
 (
 oa (idxS 1 c3 i4) fun t25_7 =>
 oh (stN 1 h t25_7 (.int .i64 1)) fun h_8 =>
 oa (binV .add .scalar i4 (.int .i64 1)) fun t17_9 =>
 e7_ T k j0 d1 c3 t17_9 h_8
 )
 (
 oa (binV .add .scalar i4 (.int .i64 1)) fun t17_10 =>
 e7_ T k j0 d1 c3 t17_10 h
 )
 )
 (
 a0G T k d1 c3 h
 ) := loopEq (by kernel_rfl)
theorem a4L (T : Tab) (k : Nat) (d0 : AV) (h : Heap) : runF T k q3_ [d0] h =
 ob (newVar h (AV.cells d0)) fun d1_1 h_2 =>
 oa (fldA 0 d1_1) fun t8_3 =>
 oa (ld1 h_2 t8_3) fun t9_4 =>
 oa (lenS t9_4) fun t10_5 =>
 ob (mkSl [.int .i64 0] 1 8 t10_5 t10_5 h_2) fun t11_6 h_7 =>
 e7_ T k k d1_1 t11_6 (.int .i64 0) h_7 := runEq (by kernel_rfl)
noncomputable def a1x : MCode := .seq [36] (.seq [33, 34, 35] (.region [tS 33 (.mv (tT 13)), tS 34 (.mv (tT 3)), tS 35 (.lenSl (tT 34)), tS 36 (.bin .lss .scalar (tT 33) (tT 35))]) (.cond (tT 36) .skip (.exit 0))) (.seq [14, 81, 82, 83, 84, 85] (.block 1 (.seq [66] (.seq [1, 39, 40, 41, 42, 43, 44, 45, 46, 47, 48, 49, 50, 51, 52, 53, 54, 55, 56, 57, 58, 59, 60, 61, 62, 63, 64, 65] (.regionD 91 [tD 0 91 (.mv (tT 3)), tD 1 92 (.mv (tT 13)), tD 2 93 (.idxSl 1 (tT 91) (tT 92)), tD 3 94 (.load none (tT 93)), tD 4 95 (.bin .lss .scalar (tT 94) (tK 0)), tD 5 96 (.mv (tT 95)), ⟨6, ⟨some 97, .op (.mv (tT 3)), some (96, false)⟩, []⟩, ⟨7, ⟨some 98, .op (.mv (tT 13)), some (96, false)⟩, []⟩, ⟨8, ⟨some 99, .op (.idxSl 1 (tT 97) (tT 98)), some (96, false)⟩, []⟩, ⟨9, ⟨some 100, .op (.load none (tT 99)), some (96, false)⟩, []⟩, ⟨10, ⟨some 101, .op (.fieldAddr 1 (tT 4)), some (96, false)⟩, []⟩, ⟨11, ⟨some 102, .op (.load none (tT 101)), some (96, false)⟩, []⟩, ⟨12, ⟨some 103, .op (.lenSl (tT 102)), some (96, false)⟩, []⟩, ⟨13, ⟨some 104, .op (.bin .geq .scalar (tT 100) (tT 103)), some (96, false)⟩, []⟩, tD 14 105 (.pick (tT 96) (.const (.bool true)) (tT 104)), tD 15 106 (.mv (tT 105)), ⟨16, ⟨some 107, .op (.fieldAddr 1 (tT 4)), some (106, false)⟩, []⟩, ⟨17, ⟨some 108, .op (.load none (tT 107)), some (106, false)⟩, []⟩, ⟨18, ⟨some 109, .op (.mv (tT 3)), some (106, false)⟩, []⟩, ⟨19, ⟨some 110, .op (.mv (tT 13)), some (106, false)⟩, []⟩, ⟨20, ⟨some 111, .op (.idxSl 1 (tT 109) (tT 110)), some (106, false)⟩, []⟩, ⟨21, ⟨some 112, .op (.load none (tT 111)), some (106, false)⟩, []⟩, ⟨22, ⟨some 113, .op (.idxSl 4 (tT 108) (tT 112)), some (106, false)⟩, []⟩, ⟨23, ⟨some 114, .op (.fieldAddr 0 (tT 113)), some (106, false)⟩, []⟩, ⟨24, ⟨some 115, .op (.load none (tT 114)), some (106, false)⟩, []⟩, ⟨25, ⟨some 116, .op (.mv (tT 1)), some (106, false)⟩, []⟩, ⟨26, ⟨some 117, .op (.bin .neq .scalar (tT 115) (tT 116)), some (106, false)⟩, []⟩, tD 27 118 (.pick (tT 106) (.const (.bool true)) (tT 117))] [(39, 91), (40, 92), (41, 93), (42, 94), (43, 95), (44, 96), (45, 97), (46, 98), (47, 99), (48, 100), (49, 101), (50, 102), (51, 103), (52, 104), (53, 105), (54, 106), (55, 107), (56, 108), (57, 109), (58, 110), (59, 111), (60, 112), (61, 113), (62, 114), (63, 115), (64, 116), (65, 117), (66, 118)]) (.cond (tT 66) (.seq [2, 3, 4, 11, 12, 13, 66] (.region [tS 8 (.mv (tK 0)), tS 9 (.mv (.const .nils)), tS 10 (.mv (.const (.bool false)))]) .ret) .skip)) (.seq [67, 68, 69, 70, 71, 72, 73, 74] (.regionD 91 [tD 0 91 (.fieldAddr 1 (tT 4)), tD 1 92 (.load none (tT 91)), tD 2 93 (.mv (tT 3)), tD 3 94 (.mv (tT 13)), tD 4 95 (.idxSl 1 (tT 93) (tT 94)), tD 5 96 (.load none (tT 95)), tD 6 97 (.idxSl 4 (tT 92) (tT 96)), tD 7 98 (.load (some 4) (tT 97)), tD 8 99 (.alloc [.int .i64 0, .int .i64 0, .int .i64 0, .int .i64 0]), tD 9 100 (.store 4 (tT 99) (tT 98))] [(67, 91), (68, 92), (69, 93), (70, 94), (71, 95), (72, 96), (73, 97), (74, 98), (14, 99)]) (.seq [75, 76, 77, 78, 79, 80] (.regionD 91 [tD 0 91 (.fieldAddr 1 (tT 14)), tD 1 92 (.load none (tT 91)), tD 2 93 (.mv (tT 11)), tD 3 94 (.fieldAddr 3 (tT 14)), tD 4 95 (.load none (tT 94)), tD 5 96 (.bin .add .scalar (tT 93) (tT 95)), tD 6 97 (.mv (tT 92)), tD 7 98 (.mv (tT 96))] [(75, 91), (76, 92), (77, 93), (78, 94), (79, 95), (80, 96), (1, 97), (11, 98)]) (.region [tS 81 (.mv (tT 12)), tS 82 (.fieldAddr 2 (tT 14)), tS 83 (.load none (tT 82)), tS 84 (.buildSlice 1 1 [.int .i64 0] [(0, 1, (tT 83))]), tS 85 (.append 1 8 (tT 81) (tT 84)), tS 12 (.mv (tT 85))]))))) (.region [tS 37 (.mv (tT 13)), tS 38 (.bin .add .scalar (tT 37) (tK 1)), tS 13 (.mv (tT 38))]))
noncomputable def v4_ : MCode := .seq [88] (.seq [1, 2, 86, 87] (.region [tS 86 (.mv (tT 1)), tS 87 (.mv (tT 2)), tS 88 (.bin .neq .scalar (tT 86) (tT 87))]) (.cond (tT 88) (.seq [11, 12, 88] (.region [tS 8 (.mv (tK 0)), tS 9 (.mv (.const .nils)), tS 10 (.mv (.const (.bool false)))]) .ret) .skip)) (.seq [11, 12, 89, 90] (.region [tS 89 (.mv (tT 11)), tS 90 (.mv (tT 12)), tS 8 (.mv (tT 89)), tS 9 (.mv (tT 90)), tS 10 (.mv (.const (.bool true)))]) .ret)
def v5_ : Res := [(8, none), (9, none), (10, none)]
noncomputable def v6_ : MFn := ⟨91, v5_, .seq [0, 8, 9, 10] (.region [tS 4 (.box (tT 0)), tS 8 (.mv (tK 0)), tS 9 (.mv (.const .nils)), tS 10 (.mv (.const (.bool false)))]) (.seq [32] (.seq [15, 16, 17, 18, 19, 20, 21, 22, 23, 24, 25, 26, 27, 28, 29, 30, 31] (.region [tS 15 (.mv (tT 1)), tS 16 (.bin .lss .scalar (tT 15) (tK 0)), tS 17 (.mv (tT 16)), ⟨some 18, .op (.mv (tT 1)), some (17, false)⟩, ⟨some 19, .op (.fieldAddr 0 (tT 4)), some (17, false)⟩, ⟨some 20, .op (.load none (tT 19)), some (17, false)⟩, ⟨some 21, .op (.bin .geq .scalar (tT 18) (tT 20)), some (17, false)⟩, tS 22 (.pick (tT 17) (.const (.bool true)) (tT 21)), tS 23 (.mv (tT 22)), ⟨some 24, .op (.mv (tT 2)), some (23, false)⟩, ⟨some 25, .op (.bin .lss .scalar (tT 24) (tK 0)), some (23, false)⟩, tS 26 (.pick (tT 23) (.const (.bool true)) (tT 25)), tS 27 (.mv (tT 26)), ⟨some 28, .op (.mv (tT 2)), some (27, false)⟩, ⟨some 29, .op (.fieldAddr 0 (tT 4)), some (27, false)⟩, ⟨some 30, .op (.load none (tT 29)), some (27, false)⟩, ⟨some 31, .op (.bin .geq .scalar (tT 28) (tT 30)), some (27, false)⟩, tS 32 (.pick (tT 27) (.const (.bool true)) (tT 31))]) (.cond (tT 32) (.seq [1, 2, 3, 4, 32] (.region [tS 8 (.mv (tK 0)), tS 9 (.mv (.const .nils)), tS 10 (.mv (.const (.bool false)))]) .ret) .skip)) (.seq [] (.region [tS 11 (.mv (tK 0))]) (.seq [] (.region [tS 12 (.mv (.const .nils))]) (.seq [3, 4, 13, 36] (.seq [] (.region [tS 13 (.mv (tK 0))]) (.block 0 (.loop [37, 38] a1x))) (.lab v4_)))))⟩
noncomputable def h9_ (T : Tab) (k j0 : Nat) (from1 to2 edges3 n4 cost11 word12 i13 : AV) (h : Heap) : Option (AV × Heap) :=
  loopB T k v5_ j0 [37, 38] a1x [.blk 0, .seq [3, 4, 13, 36] (.lab v4_)] [.u, from1, to2, edges3, n4, .u, .u, .u, .u, .u, .u, cost11, word12, i13, .u, .u, .u, .u, .u, .u, .u, .u, .u, .u, .u, .u, .u, .u, .u, .u, .u, .u, .u, .u, .u, .u, .u, .u, .u, .u, .u, .u, .u, .u, .u, .u, .u, .u, .u, .u, .u, .u, .u, .u, .u, .u, .u, .u, .u, .u, .u, .u, .u, .u, .u, .u, .u, .u, .u, .u, .u, .u, .u, .u, .u, .u, .u, .u, .u, .u, .u, .u, .u, .u, .u, .u, .u, .u, .u, .u, .u] h
noncomputable def a1y (T : Tab) (k : Nat) (from1 to2 cost11 word12 : AV) (h : Heap) : Option (AV × Heap) :=
  evB T k v5_ v4_ [] [.u, from1, to2, .u, .u, .u, .u, .u, .u, .u, .u, cost11, word12, .u, .u, .u, .u, .u, .u, .u, .u, .u, .u, .u, .u, .u, .u, .u, .u, .u, .u, .u, .u, .u, .u, .u, .u, .u, .u, .u, .u, .u, .u, .u, .u, .u, .u, .u, .u, .u, .u, .u, .u, .u, .u, .u, .u, .u, .u, .u, .u, .u, .u, .u, .u, .u, .u, .u, .u, .u, .u, .u, .u, .u, .u, .u, .u, .u, .u, .u, .u, .u, .u, .u, .u, .u, .u, .u, .u, .u, .u] h
theorem a4f (T : Tab) (k : Nat) (from1 to2 cost11 word12 : AV) (h : Heap) : a1y T k from1 to2 cost11 word12 h =
 oa (binV .neq .scalar from1 to2) fun t88_1 =>
 cond2 t88_1
 (
 some (.tup [(.int .i64 0), .nils, (.bool false)], h)
 )
 (
 some (.tup [cost11, word12, (.bool true)], h)
 ) := blockEq (by kernel_rfl)
theorem a0u (T : Tab) (k j0 : Nat) (from1 to2 edges3 n4 cost11 word12 i13 : AV) (h : Heap) : h9_ T k (j0 + 1) from1 to2 edges3 n4 cost11 word12 i13 h =
 oa (lenS edges3) fun t35_1 =>
 oa (binV .lss .scalar i13 t35_1) fun t36_2 =>
 cond2 t36_2
 (
 oa (idxS 1 edges3 i13) fun t93_3 =>
 oa (ld1 h t93_3) fun t94_4 =>
 oa (binV .lss .scalar t94_4 (.int .i64 0)) fun t95_5 =>
 ob (gd t95_5 false (some (edges3, h)) h) fun t97_6 h_7 =>
 ob (gd t95_5 false (some (i13, h_7)) h_7) fun t98_8 h_9 =>
 ob (gd t95_5 false (pure1 h_9 (idxS 1 t97_6 t98_8)) h_9) fun t99_10 h_11 =>
 ob (gd t95_5 false (pure1 h_11 (ld1 h_11 t99_10)) h_11) fun t100_12 h_13 =>
 ob (gd t95_5 false (pure1 h_13 (fldA 1 n4)) h_13) fun t101_14 h_15 =>
 ob (gd t95_5 false (pure1 h_15 (ld1 h_15 t101_14)) h_15) fun t102_16 h_17 =>
 ob (gd t95_5 false (pure1 h_17 (lenS t102_16)) h_17) fun t103_18 h_19 =>
 ob (gd t95_5 false (pure1 h_19 (binV .geq .scalar t100_12 t103_18)) h_19) fun t104_20 h_21 =>
 oa (pickV t95_5 (.bool true) t104_20) fun t105_22 =>
 ob (gd t105_22 false (pure1 h_21 (fldA 1 n4)) h_21) fun t107_23 h_24 =>
 ob (gd t105_22 false (pure1 h_24 (ld1 h_24 t107_23)) h_24) fun t108_25 h_26 =>
 ob (gd t105_22 false (some (edges3, h_26)) h_26) fun t109_27 h_28 =>
 ob (gd t105_22 false (some (i13, h_28)) h_28) fun t110_29 h_30 =>
 ob (gd t105_22 false (pure1 h_30 (idxS 1 t109_27 t110_29)) h_30) fun t111_31 h_32 =>
 ob (gd t105_22 false (pure1 h_32 (ld1 h_32 t111_31)) h_32) fun t112_33 h_34 =>
 ob (gd t105_22 false (pure1 h_34 (idxS 4 t108_25 t112_33)) h_34) fun t113_35 h_36 =>
 ob (gd t105_22 false (pure1 h_36 (fldA 0 t113_35)) h_36) fun t114_37 h_38 =>
 ob (gd t105_22 false (pure1 h_38 (ld1 h_38 t114_37)) h_38) fun t115_39 h_40 =>
 ob (gd t105_22 false (some (from1, h_40)) h_40) fun t116_41 h_42 =>
 ob (gd t105_22 false (pure1 h_42 (binV .neq .scalar t115_39 t116_41)) h_42) fun t117_43 h_44 =>
 oa (pickV t105_22 (.bool true) t117_43) fun t118_45 =>
 cond2 t118_45
 (
 some (.tup [(.int .i64 0), .nils, (.bool false)], h_44)
 )
 (
 oa (fldA 1 n4) fun t91_46 =>
 oa (ld1 h_44 t91_46) fun t92_47 =>
 oa (idxS 1 edges3 i13) fun t95_48 =>
 oa (ld1 h_44 t95_48) fun t96_49 =>
 oa (idxS 4 t92_47 t96_49) fun t97_50 =>
 oa (ldN 4 h_44 t97_50) fun t98_51 =>
 ob (newVar h_44 [.int .i64 0, .int .i64 0, .int .i64 0, .int .i64 0]) fun t99_52 h_53 =>
 oh (stN 4 h_53 t99_52 t98_51) fun h_54 =>
 oa (fldA 1 t99_52) fun t91_55 =>
 oa (ld1 h_54 t91_55) fun t92_56 =>
 oa (fldA 3 t99_52) fun t94_57 =>
 oa (ld1 h_54 t94_57) fun t95_58 =>
 oa (binV .add .scalar cost11 t95_58) fun t96_59 =>
 oa (fldA 2 t99_52) fun t82_60 =>
 oa (ld1 h_54 t82_60) fun t83_61 =>
 ob (buildSl 1 1 [.int .i64 0] [(0, 1, t83_61)] h_54) fun t84_62 h_63 =>
 ob (apnd 1 8 word12 t84_62 h_63) fun t85_64 h_65 =>
 oa (binV .add .scalar i13 (.int .i64 1)) fun t38_66 =>
 h9_ T k j0 t92_56 to2 edges3 n4 t96_59 t85_64 t38_66 h_65
 )
 )
 (
 a1y T k from1 to2 cost11 word12 h
 ) := loopEq (by kernel_rfl)
theorem a6z (T : Tab) (k : Nat) (n0 from1 to2 edges3 : AV) (h : Heap) : runF T k v6_ [n0, from1, to2, edges3] h =
 ob (newVar h (AV.cells n0)) fun n4_1 h_2 =>
 oa (binV .lss .scalar from1 (.int .i64 0)) fun t16_3 =>
 ob (gd t16_3 false (some (from1, h_2)) h_2) fun t18_4 h_5 =>
 ob (gd t16_3 false (pure1 h_5 (fldA 0 n4_1)) h_5) fun t19_6 h_7 =>
 ob (gd t16_3 false (pure1 h_7 (ld1 h_7 t19_6)) h_7) fun t20_8 h_9 =>
 ob (gd t16_3 false (pure1 h_9 (binV .geq .scalar t18_4 t20_8)) h_9) fun t21_10 h_11 =>
 oa (pickV t16_3 (.bool true) t21_10) fun t22_12 =>
 ob (gd t22_12 false (some (to2, h_11)) h_11) fun t24_13 h_14 =>
 ob (gd t22_12 false (pure1 h_14 (binV .lss .scalar t24_13 (.int .i64 0))) h_14) fun t25_15 h_16 =>
 oa (pickV t22_12 (.bool true) t25_15) fun t26_17 =>
 ob (gd t26_17 false (some (to2, h_16)) h_16) fun t28_18 h_19 =>
 ob (gd t26_17 false (pure1 h_19 (fldA 0 n4_1)) h_19) fun t29_20 h_21 =>
 ob (gd t26_17 false (pure1 h_21 (ld1 h_21 t29_20)) h_21) fun t30_22 h_23 =>
 ob (gd t26_17 false (pure1 h_23 (binV .geq .scalar t28_18 t30_22)) h_23) fun t31_24 h_25 =>
 oa (pickV t26_17 (.bool true) t31_24) fun t32_26 =>
 cond2 t32_26
 (
 some (.tup [(.int .i64 0), .nils, (.bool false)], h_25)
 )
 (
 h9_ T k k from1 to2 edges3 n4_1 (.int .i64 0) .nils (.int .i64 0) h_25
 ) := runEq (by kernel_rfl)
def a7g : Res := [(4, none)]
noncomputable def w2_ : MFn := ⟨18, a7g, .seq [0, 4] (.region [tS 2 (.box (tT 0)), tS 4 (.mv (.const (.bool false)))]) (.seq [1, 6, 7, 8] (.region [tS 6 (.load (some 2) (tT 2)), tS 7 (.mv (tT 1)), ⟨some 8, .call m6_ [(tT 6), (tK 0), (tT 7)], none⟩, tS 5 (.mv (tT 8))]) (.seq [2, 5, 9, 10, 11, 12, 13, 14, 15, 16, 17] (.region [tS 9 (.mv (tT 5)), tS 10 (.bin .geq .scalar (tT 9) (tK 0)), tS 11 (.mv (tT 10)), ⟨some 12, .op (.fieldAddr 1 (tT 2)), some (11, true)⟩, ⟨some 13, .op (.load none (tT 12)), some (11, true)⟩, ⟨some 14, .op (.mv (tT 5)), some (11, true)⟩, ⟨some 15, .op (.idxSl 1 (tT 13) (tT 14)), some (11, true)⟩, ⟨some 16, .op (.load none (tT 15)), some (11, true)⟩, tS 17 (.pick (tT 11) (tT 16) (.const (.bool false))), tS 4 (.mv (tT 17))]) .ret))⟩
theorem a7h (T : Tab) (k : Nat) (d0 word1 : AV) (h : Heap) : runF T k w2_ [d0, word1] h =
 ob (newVar h (AV.cells d0)) fun d2_1 h_2 =>
 oa (ldN 2 h_2 d2_1) fun t6_3 =>
 ob (evalFn T k m6_ [t6_3, (.int .i64 0), word1] h_2) fun t8_4 h_5 =>
 oa (binV .geq .scalar t8_4 (.int .i64 0)) fun t10_6 =>
 ob (gd t10_6 true (pure1 h_5 (fldA 1 d2_1)) h_5) fun t12_7 h_8 =>
 ob (gd t10_6 true (pure1 h_8 (ld1 h_8 t12_7)) h_8) fun t13_9 h_10 =>
 ob (gd t10_6 true (some (t8_4, h_10)) h_10) fun t14_11 h_12 =>
 ob (gd t10_6 true (pure1 h_12 (idxS 1 t13_9 t14_11)) h_12) fun t15_13 h_14 =>
 ob (gd t10_6 true (pure1 h_14 (ld1 h_14 t15_13)) h_14) fun t16_15 h_16 =>
 oa (pickV t10_6 t16_15 (.bool false)) fun t17_17 =>
 some (t17_17, h_16) := runEq (by kernel_rfl)
noncomputable def a9R : MCode := .seq [] (.region [tS 29 (.bin .lss .scalar (tT 28) (tT 27))]) (.seq [29] (.cond (tT 29) .skip (.exit 0)) (.seq [4, 5, 42, 54, 55, 56, 57, 58, 59, 60, 61, 62, 63, 64] (.block 1 (.seq [30, 31, 32] (.region [tS 30 (.mv (tT 28)), tS 31 (.idxSl 4 (tT 26) (tT 28)), tS 32 (.load (some 4) (tT 31)), tS 5 (.alloc [.int .i64 0, .int .i64 0, .int .i64 0, .int .i64 0]), tS 4 (.mv (tT 30)), ⟨none, .op (.store 4 (tT 5) (tT 32)), none⟩]) (.seq [33, 34, 35, 36, 37, 38, 39, 40, 41] (.region [tS 33 (.mv (tT 3)), tS 34 (.fieldAddr 0 (tT 5)), tS 35 (.load none (tT 34)), ⟨some 36, .call j3_ [(tT 33), (tT 35)], none⟩, tS 37 (.mv (tT 36)), ⟨some 38, .op (.mv (tT 3)), some (37, true)⟩, ⟨some 39, .op (.fieldAddr 1 (tT 5)), some (37, true)⟩, ⟨some 40, .op (.load none (tT 39)), some (37, true)⟩, ⟨some 41, .call j3_ [(tT 38), (tT 40)], some (37, true)⟩, tS 42 (.pick (tT 37) (tT 41) (.const (.bool false)))]) (.cond (tT 42) (.seq [42, 43, 44, 45, 46, 47, 48, 49, 50, 51, 52, 53] (.regionD 67 [tD 0 67 (.mv (tT 3)), tD 1 68 (.nilCheck (tT 67)), tD 2 69 (.fieldAddr 2 (tT 68)), tD 3 70 (.load none (tT 69)), tD 4 71 (.fieldAddr 0 (tT 5)), tD 5 72 (.load none (tT 71)), tD 6 73 (.idxSl 2 (tT 70) (tT 72)), tD 7 74 (.mv (tT 4)), tD 8 75 (.fieldAddr 1 (tT 5)), tD 9 76 (.load none (tT 75)), ⟨10, ⟨some 77, .call l0_ [(tT 73), (tT 74), (tT 76)], none⟩, []⟩] [(43, 67), (44, 68), (45, 69), (46, 70), (47, 71), (48, 72), (49, 73), (50, 74), (51, 75), (52, 76), (53, 77)]) (.regionD 67 [tD 0 67 (.mv (tT 3)), tD 1 68 (.nilCheck (tT 67)), tD 2 69 (.fieldAddr 3 (tT 68)), tD 3 70 (.load none (tT 69)), tD 4 71 (.fieldAddr 1 (tT 5)), tD 5 72 (.load none (tT 71)), tD 6 73 (.idxSl 2 (tT 70) (tT 72)), tD 7 74 (.mv (tT 4)), tD 8 75 (.fieldAddr 0 (tT 5)), tD 9 76 (.load none (tT 75)), ⟨10, ⟨some 77, .call l0_ [(tT 73), (tT 74), (tT 76)], none⟩, []⟩] [(54, 67), (55, 68), (56, 69), (57, 70), (58, 71), (59, 72), (60, 73), (61, 74), (62, 75), (63, 76), (64, 77)])) .skip)))) (.region [tS 65 (.bin .add .scalar (tT 28) (tK 1)), tS 28 (.mv (tT 65))])))
def a9S : Res := [(2, none)]
noncomputable def a7i : MFn := ⟨67, a9S, .seq [0, 2] (.region [tS 1 (.box (tT 0)), tS 2 (.mv (.const .nilp))]) (.seq [6, 7, 8, 9, 10, 11, 12, 13, 14, 15] (.regionD 67 [tD 0 67 (.fieldAddr 0 (tT 1)), tD 1 68 (.load none (tT 67)), tD 2 69 (.mm true (tT 68) (tK 0)), tD 3 70 (.mkSlice [.nils, .nils] 2 48 (tT 69) (tT 69)), tD 4 71 (.fieldAddr 0 (tT 1)), tD 5 72 (.load none (tT 71)), tD 6 73 (.mm true (tT 72) (tK 0)), tD 7 74 (.mkSlice [.nils, .nils] 2 48 (tT 73) (tT 73)), tD 8 75 (.build [.int .i64 0, .nils, .nils, .nils] [(2, 1, (tT 70)), (3, 1, (tT 74))]), tD 9 76 (.box (tT 75)), tD 10 77 (.mv (tT 76))] [(6, 67), (7, 68), (8, 69), (9, 70), (10, 71), (11, 72), (12, 73), (13, 74), (14, 75), (15, 76), (3, 77)]) (.seq [16, 17, 18, 19, 20, 21, 22, 23, 24] (.regionD 67 [tD 0 67 (.mv (tT 3)), tD 1 68 (.fieldAddr 0 (tT 1)), tD 2 69 (.load none (tT 68)), tD 3 70 (.fieldAddr 1 (tT 1)), tD 4 71 (.load none (tT 70)), ⟨5, ⟨some 72, .call e6_ [(tT 71)], none⟩, [(69, tS 69 (.load none (tT 68)))]⟩, tD 6 73 (.build [.int .i64 0, .nils] [(0, 1, (tT 69)), (1, 1, (tT 72))]), tD 7 74 (.nilCheck (tT 67)), tD 8 75 (.fieldAddr 0 (tT 74)), tD 9 76 (.store 2 (tT 75) (tT 73))] [(16, 67), (17, 68), (18, 69), (19, 70), (20, 71), (21, 72), (22, 73), (23, 74), (24, 75)]) (.seq [26, 27, 28, 29] (.seq [1, 25] (.region [tS 25 (.fieldAddr 1 (tT 1)), tS 26 (.load none (tT 25)), tS 27 (.lenSl (tT 26)), tS 28 (.mv (tK 0))]) (.block 0 (.loop [65] a9R))) (.seq [3, 66] (.region [tS 66 (.mv (tT 3)), tS 2 (.mv (tT 66))]) .ret))))⟩
noncomputable def a1Y (T : Tab) (k j0 : Nat) (a3 t26 t27 t28 : AV) (h : Heap) : Option (AV × Heap) :=
  loopB T k a9S j0 [65] a9R [.blk 0, .seq [26, 27, 28, 29] (.seq [3, 66] (.region [⟨some 66, .op (.mv (.tmp 3)), none⟩,
  ⟨some 2, .op (.mv (.tmp 66)), none⟩]) .ret)] [.undef, .undef, .undef, a3, .undef, .undef, .undef, .undef, .undef, .undef, .undef, .undef, .undef, .undef, .undef, .undef, .undef, .undef, .undef, .undef, .undef, .undef, .undef, .undef, .undef, .undef, t26, t27, t28, .undef, .undef, .undef, .undef, .undef, .undef, .undef, .undef, .undef, .undef, .undef, .undef, .undef, .undef, .undef, .undef, .undef, .undef, .undef, .undef, .undef, .undef, .undef, .undef, .undef, .undef, .undef, .undef, .undef, .undef, .undef, .undef, .undef, .undef, .undef, .undef, .undef, .undef] h
theorem a7G (T : Tab) (k j0 : Nat) (a3 t26 t27 t28 : AV) (h : Heap) : a1Y T k (j0 + 1) a3 t26 t27 t28 h =
 oa (binV .lss .scalar t28 t27) fun t29_1 =>
 cond2 t29_1
 (
 oa (idxS 4 t26 t28) fun t31_2 =>
 oa (ldN 4 h t31_2) fun t32_3 =>
 ob (newVar h [.int .i64 0, .int .i64 0, .int .i64 0, .int .i64 0]) fun e5_4 h_5 =>
 oh (stN 4 h_5 e5_4 t32_3) fun h_6 =>
 oa (fldA 0 e5_4) fun t34_7 =>
 oa (ld1 h_6 t34_7) fun t35_8 =>
 ob (evalFn T k j3_ [a3, t35_8] h_6) fun t36_9 h_10 =>
 ob (gd t36_9 true (some (a3, h_10)) h_10) fun t38_11 h_12 =>
 ob (gd t36_9 true (pure1 h_12 (fldA 1 e5_4)) h_12) fun t39_13 h_14 =>
 ob (gd t36_9 true (pure1 h_14 (ld1 h_14 t39_13)) h_14) fun t40_15 h_16 =>
 ob (gd t36_9 true (evalFn T k j3_ [t38_11, t40_15] h_16) h_16) fun t41_17 h_18 =>
 oa (pickV t36_9 t41_17 (.bool false)) fun t42_19 =>
 cond2 t42_19
 (
 oa (nilCk a3) fun t68_20 =>
 oa (fldA 2 t68_20) fun t69_21 =>
 oa (ld1 h_18 t69_21) fun t70_22 =>
 oa (fldA 0 e5_4) fun t71_23 =>
 oa (ld1 h_18 t71_23) fun t72_24 =>
 oa (idxS 2 t70_22 t72_24) fun t73_25 =>
 oa (fldA 1 e5_4) fun t75_26 =>
 oa (ld1 h_18 t75_26) fun t76_27 =>
 ob (evalFn T k l0_ [t73_25, t28, t76_27] h_18) fun t77_28 h_29 =>
 oa (nilCk a3) fun t68_30 =>
 oa (fldA 3 t68_30) fun t69_31 =>
 oa (ld1 h_29 t69_31) fun t70_32 =>
 oa (fldA 1 e5_4) fun t71_33 =>
 oa (ld1 h_29 t71_33) fun t72_34 =>
 oa (idxS 2 t70_32 t72_34) fun t73_35 =>
 oa (fldA 0 e5_4) fun t75_36 =>
 oa (ld1 h_29 t75_36) fun t76_37 =>
 ob (evalFn T k l0_ [t73_35, t28, t76_37] h_29) fun t77_38 h_39 =>
 oa (binV .add .scalar t28 (.int .i64 1)) fun t65_40 =>
 a1Y T k j0 a3 t26 t27 t65_40 h_39
 )
 (
 oa (binV .add .scalar t28 (.int .i64 1)) fun t65_41 =>
 a1Y T k j0 a3 t26 t27 t65_41 h_18
 )
 )
 (
 some (a3, h)
 ) := loopEq (by kernel_rfl)
theorem b2t (T : Tab) (k : Nat) (n0 : AV) (h : Heap) : runF T k a7i [n0] h =
 ob (newVar h (AV.cells n0)) fun n1_1 h_2 =>
 oa (fldA 0 n1_1) fun t67_3 =>
 oa (ld1 h_2 t67_3) fun t68_4 =>
 oa (mmV true t68_4 (.int .i64 0)) fun t69_5 =>
 ob (mkSl [.nils, .nils] 2 48 t69_5 t69_5 h_2) fun t70_6 h_7 =>
 oa (fldA 0 n1_1) fun t71_8 =>
 oa (ld1 h_7 t71_8) fun t72_9 =>
 oa (mmV true t72_9 (.int .i64 0)) fun t73_10 =>
 ob (mkSl [.nils, .nils] 2 48 t73_10 t73_10 h_7) fun t74_11 h_12 =>
 oa (buildV [.int .i64 0, .nils, .nils, .nils] [(2, 1, t70_6), (3, 1, t74_11)]) fun t75_13 =>
 ob (newVar h_12 (AV.cells t75_13)) fun t76_14 h_15 =>
 oa (fldA 0 n1_1) fun t68_16 =>
 oa (ld1 h_15 t68_16) fun t69_17 =>
 oa (fldA 1 n1_1) fun t70_18 =>
 oa (ld1 h_15 t70_18) fun t71_19 =>
 ob (evalFn T k e6_ [t71_19] h_15) fun t72_20 h_21 =>
 chk ((sameB (pure1 h_21 (ld1 h_21 t68_16)) t69_17 && true)) <|
 oa (buildV [.int .i64 0, .nils] [(0, 1, t69_17), (1, 1, t72_20)]) fun t73_22 =>
 oa (nilCk t76_14) fun t74_23 =>
 oa (fldA 0 t74_23) fun t75_24 =>
 oh (stN 2 h_21 t75_24 t73_22) fun h_25 =>
 oa (fldA 1 n1_1) fun t25_26 =>
 oa (ld1 h_25 t25_26) fun t26_27 =>
 oa (lenS t26_27) fun t27_28 =>
 a1Y T k k t76_14 t26_27 t27_28 (.int .i64 0) h_25 := runEq (by kernel_rfl)
noncomputable def a8k : MCode := .seq [] (.region [tS 18 (.bin .lss .scalar (tT 17) (tT 16))]) (.seq [18] (.cond (tT 18) .skip (.exit 0)) (.seq [4, 20, 21, 22, 23, 24, 25, 26] (.block 1 (.seq [19] (.region [tS 19 (.mv (tT 17)), tS 4 (.mv (tT 19))]) (.region [tS 20 (.mv (tT 3)), tS 21 (.nilCheck (tT 20)), tS 22 (.fieldAddr 0 (tT 21)), tS 23 (.fieldAddr 1 (tT 22)), tS 24 (.load none (tT 23)), tS 25 (.mv (tT 4)), tS 26 (.idxSl 1 (tT 24) (tT 25)), ⟨none, .op (.store 1 (tT 26) (tK (-1))), none⟩]))) (.region [tS 27 (.bin .add .scalar (tT 17) (tK 1)), tS 17 (.mv (tT 27))])))
def a8l : Res := [(2, none)]
noncomputable def a4g : MFn := ⟨29, a8l, .seq [2] (.region [tS 2 (.mv (.const .nilp))]) (.seq [0, 5, 6, 7, 8, 9, 10] (.region [tS 5 (.mv (tT 0)), tS 6 (.mm true (tT 5) (tK 0)), tS 7 (.mkSlice [.int .i64 0] 1 8 (tT 6) (tT 6)), tS 8 (.build [.nils, .nils] [(1, 1, (tT 7))]), tS 9 (.build [.nils, .nils] [(0, 2, (tT 8))]), tS 10 (.box (tT 9)), tS 3 (.mv (tT 10))]) (.seq [16, 17, 18] (.seq [11, 12, 13, 14, 15] (.region [tS 11 (.mv (tT 3)), tS 12 (.nilCheck (tT 11)), tS 13 (.fieldAddr 0 (tT 12)), tS 14 (.fieldAddr 1 (tT 13)), tS 15 (.load none (tT 14)), tS 16 (.lenSl (tT 15)), tS 17 (.mv (tK 0))]) (.block 0 (.loop [27] a8k))) (.seq [3, 28] (.region [tS 28 (.mv (tT 3)), tS 2 (.mv (tT 28))]) .ret)))⟩
noncomputable def a1Z (T : Tab) (k j0 : Nat) (q3 t16 t17 : AV) (h : Heap) : Option (AV × Heap) :=
  loopB T k a8l j0 [27] a8k [.blk 0, .seq [16, 17, 18] (.seq [3, 28] (.region [⟨some 28, .op (.mv (.tmp 3)), none⟩,
  ⟨some 2, .op (.mv (.tmp 28)), none⟩]) .ret)] [.undef, .undef, .undef, q3, .undef, .undef, .undef, .undef, .undef, .undef, .undef, .undef, .undef, .undef, .undef, .undef, t16, t17, .undef, .undef, .undef, .undef, .undef, .undef, .undef, .undef, .undef, .undef, .undef] h
theorem a5u (T : Tab) (k j0 : Nat) (q3 t16 t17 : AV) (h : Heap) : a1Z T k (j0 + 1) q3 t16 t17 h =
 oa (binV .lss .scalar t17 t16) fun t18_1 =>
 cond2 t18_1
 (
 oa (nilCk q3) fun t21_2 =>
 oa (fldA 0 t21_2) fun t22_3 =>
 oa (fldA 1 t22_3) fun t23_4 =>
 oa (ld1 h t23_4) fun t24_5 =>
 oa (idxS 1 t24_5 t17) fun t26_6 =>
 oh (stN 1 h t26_6 (.int .i64 (-1))) fun h_7 =>
 oa (binV .add .scalar t17 (.int .i64 1)) fun t27_8 =>
 a1Z T k j0 q3 t16 t27_8 h_7
 )
 (
 some (q3, h)
 ) := loopEq (by kernel_rfl)
theorem b1t (T : Tab) (k : Nat) (n0 : AV) (h : Heap) : runF T k a4g [n0] h =
 oa (mmV true n0 (.int .i64 0)) fun t6_1 =>
 ob (mkSl [.int .i64 0] 1 8 t6_1 t6_1 h) fun t7_2 h_3 =>
 oa (buildV [.nils, .nils] [(1, 1, t7_2)]) fun t8_4 =>
 oa (buildV [.nils, .nils] [(0, 2, t8_4)]) fun t9_5 =>
 ob (newVar h_3 (AV.cells t9_5)) fun t10_6 h_7 =>
 oa (nilCk t10_6) fun t12_8 =>
 oa (fldA 0 t12_8) fun t13_9 =>
 oa (fldA 1 t13_9) fun t14_10 =>
 oa (ld1 h_7 t14_10) fun t15_11 =>
 oa (lenS t15_11) fun t16_12 =>
 a1Z T k k t10_6 t16_12 (.int .i64 0) h_7 := runEq (by kernel_rfl)
def a8m : Res := [(6, none)]
noncomputable def a0v : MFn := ⟨57, a8m, .seq [6] (.region [tS 6 (.mv (.const (.bool false)))]) (.seq [20] (.seq [9, 10, 11, 12, 13, 14, 15, 16, 17, 18, 19] (.region [tS 9 (.mv (tT 1)), tS 10 (.bin .lss .scalar (tT 9) (tK 0)), tS 11 (.mv (tT 10)), ⟨some 12, .op (.mv (tT 1)), some (11, false)⟩, ⟨some 13, .op (.mv (tT 0)), some (11, false)⟩, ⟨some 14, .op (.nilCheck (tT 13)), some (11, false)⟩, ⟨some 15, .op (.fieldAddr 0 (tT 14)), some (11, false)⟩, ⟨some 16, .op (.fieldAddr 1 (tT 15)), some (11, false)⟩, ⟨some 17, .op (.load none (tT 16)), some (11, false)⟩, ⟨some 18, .op (.lenSl (tT 17)), some (11, false)⟩, ⟨some 19, .op (.bin .geq .scalar (tT 12) (tT 18)), some (11, false)⟩, tS 20 (.pick (tT 11) (.const (.bool true)) (tT 19))]) (.cond (tT 20) (.seq [0, 1, 2, 20] (.region [tS 6 (.mv (.const (.bool false)))]) .ret) .skip)) (.seq [21, 22] (.region [tS 21 (.mv (tT 0)), ⟨some 22, .call b5_ [(tT 21)], none⟩, tS 7 (.mv (tT 22))]) (.seq [23, 24, 25] (.region [tS 23 (.mv (tT 7)), tS 24 (.mv (tT 1)), ⟨some 25, .invoke "milestone/queue.place" (tT 23) [(tT 24)], none⟩, tS 8 (.mv (tT 25))]) (.seq [1, 27] (.seq [26] (.region [tS 26 (.mv (tT 8)), tS 27 (.bin .lss .scalar (tT 26) (tK 0))]) (.cond (tT 27) (.seq [0, 1, 2, 7, 8, 27, 28, 29, 30, 31, 32, 33] (.region [tS 28 (.mv (tT 7)), tS 29 (.mv (tT 1)), tS 30 (.mv (tT 2)), tS 31 (.build [.int .i64 0, .int .i64 0] [(0, 1, (tT 29)), (1, 1, (tT 30))]), tS 32 (.mkIfc 113 (tT 31)), ⟨some 33, .call d6_ [(tT 28), (tT 32)], none⟩]) (.seq [] (.region [tS 6 (.mv (.const (.bool true)))]) .ret)) .skip)) (.seq [44] (.seq [34, 35, 36, 37, 38, 39, 40, 41, 42, 43] (.region [tS 34 (.mv (tT 0)), tS 35 (.nilCheck (tT 34)), tS 36 (.fieldAddr 0 (tT 35)), tS 37 (.fieldAddr 0 (tT 36)), tS 38 (.load none (tT 37)), tS 39 (.mv (tT 8)), tS 40 (.idxSl 2 (tT 38) (tT 39)), tS 41 (.fieldAddr 1 (tT 40)), tS 42 (.load none (tT 41)), tS 43 (.mv (tT 2)), tS 44 (.bin .leq .scalar (tT 42) (tT 43))]) (.cond (tT 44) (.seq [0, 2, 7, 8, 44] (.region [tS 6 (.mv (.const (.bool false)))]) .ret) .skip)) (.seq [0, 2, 45, 46, 47, 48, 49, 50, 51, 52, 53] (.region [tS 45 (.mv (tT 0)), tS 46 (.nilCheck (tT 45)), tS 47 (.fieldAddr 0 (tT 46)), tS 48 (.fieldAddr 0 (tT 47)), tS 49 (.load none (tT 48)), tS 50 (.mv (tT 8)), tS 51 (.mv (tT 2)), tS 52 (.idxSl 2 (tT 49) (tT 50)), tS 53 (.fieldAddr 1 (tT 52)), ⟨none, .op (.store 1 (tT 53) (tT 51)), none⟩]) (.seq [7, 8, 54, 55, 56] (.region [tS 54 (.mv (tT 7)), tS 55 (.mv (tT 8)), ⟨some 56, .call e5_ [(tT 54), (tT 55)], none⟩]) (.seq [] (.region [tS 6 (.mv (.const (.bool true)))]) .ret))))))))⟩
theorem a8n (T : Tab) (k : Nat) (q0 id1 key2 : AV) (h : Heap) : runF T k a0v [q0, id1, key2] h =
 oa (binV .lss .scalar id1 (.int .i64 0)) fun t10_1 =>
 ob (gd t10_1 false (some (id1, h)) h) fun t12_2 h_3 =>
 ob (gd t10_1 false (some (q0, h_3)) h_3) fun t13_4 h_5 =>
 ob (gd t10_1 false (pure1 h_5 (nilCk t13_4)) h_5) fun t14_6 h_7 =>
 ob (gd t10_1 false (pure1 h_7 (fldA 0 t14_6)) h_7) fun t15_8 h_9 =>
 ob (gd t10_1 false (pure1 h_9 (fldA 1 t15_8)) h_9) fun t16_10 h_11 =>
 ob (gd t10_1 false (pure1 h_11 (ld1 h_11 t16_10)) h_11) fun t17_12 h_13 =>
 ob (gd t10_1 false (pure1 h_13 (lenS t17_12)) h_13) fun t18_14 h_15 =>
 ob (gd t10_1 false (pure1 h_15 (binV .geq .scalar t12_2 t18_14)) h_15) fun t19_16 h_17 =>
 oa (pickV t10_1 (.bool true) t19_16) fun t20_18 =>
 cond2 t20_18
 (
 some ((.bool false), h_17)
 )
 (
 ob (evalFn T k b5_ [q0] h_17) fun t22_19 h_20 =>
 ob (callMeth T (evalFn T k) "milestone/queue.place" t22_19 [id1] h_20) fun t25_21 h_22 =>
 oa (binV .lss .scalar t25_21 (.int .i64 0)) fun t27_23 =>
 cond2 t27_23
 (
 oa (buildV [.int .i64 0, .int .i64 0] [(0, 1, id1), (1, 1, key2)]) fun t31_24 =>
 ob (evalFn T k d6_ [t22_19, (.ifc 113 t31_24)] h_22) fun t33_25 h_26 =>
 some ((.bool true), h_26)
 )
 (
 oa (nilCk q0) fun t35_27 =>
 oa (fldA 0 t35_27) fun t36_28 =>
 oa (fldA 0 t36_28) fun t37_29 =>
 oa (ld1 h_22 t37_29) fun t38_30 =>
 oa (idxS 2 t38_30 t25_21) fun t40_31 =>
 oa (fldA 1 t40_31) fun t41_32 =>
 oa (ld1 h_22 t41_32) fun t42_33 =>
 oa (binV .leq .scalar t42_33 key2) fun t44_34 =>
 cond2 t44_34
 (
 some ((.bool false), h_22)
 )
 (
 oa (nilCk q0) fun t46_35 =>
 oa (fldA 0 t46_35) fun t47_36 =>
 oa (fldA 0 t47_36) fun t48_37 =>
 oa (ld1 h_22 t48_37) fun t49_38 =>
 oa (idxS 2 t49_38 t25_21) fun t52_39 =>
 oa (fldA 1 t52_39) fun t53_40 =>
 oh (stN 1 h_22 t53_40 key2) fun h_41 =>
 ob (evalFn T k e5_ [t22_19, t25_21] h_41) fun t56_42 h_43 =>
 some ((.bool true), h_43)
 )
 )
 ) := runEq (by kernel_rfl)
def b0m : Res := [(4, none)]
noncomputable def a2H : MFn := ⟨15, b0m, .seq [4] (.region [tS 4 (.mv (.const .nils))]) (.seq [] (.region [tS 5 (.mv (.const (.fn j4_ [] [])))]) (.seq [0, 1, 5, 6, 7, 8, 9, 10, 11, 12, 13, 14] (.region [tS 6 (.mv (tT 5)), tS 7 (.mv (tT 0)), tS 8 (.mv (tT 0)), tS 9 (.nilCheck (tT 8)), tS 10 (.fieldAddr 2 (tT 9)), tS 11 (.load none (tT 10)), tS 12 (.mv (tT 1)), ⟨some 13, .call l1_ [(tT 7), (tT 11), (tT 12)], none⟩, ⟨some 14, .callV (tT 6) [(tT 13)], none⟩, tS 4 (.mv (tT 14))]) .ret))⟩
theorem b0n (T : Tab) (k : Nat) (a0 v1 : AV) (h : Heap) : runF T k a2H [a0, v1] h =
 oa (nilCk a0) fun t9_1 =>
 oa (fldA 2 t9_1) fun t10_2 =>
 oa (ld1 h t10_2) fun t11_3 =>
 ob (evalFn T k l1_ [a0, t11_3, v1] h) fun t13_4 h_5 =>
 ob (callVal (evalFn T k) (.fn j4_ [] []) [t13_4] h_5) fun t14_6 h_7 =>
 some (t14_6, h_7) := runEq (by kernel_rfl)
noncomputable def a1z : MCode := .seq [9] (.seq [7, 8] (.region [tS 7 (.mv (tT 2)), tS 8 (.mv (tT 3)), tS 9 (.bin .lss .scalar (tT 7) (tT 8))]) (.cond (tT 9) .skip (.exit 0))) (.seq [14, 15, 16, 17, 18, 19, 20, 21, 22, 23, 24, 25, 26, 27] (.block 1 (.regionD 28 [tD 0 28 (.mv (tT 0)), tD 1 29 (.mv (tT 2)), tD 2 30 (.mv (tT 0)), tD 3 31 (.mv (tT 3)), tD 4 32 (.mv (tT 0)), tD 5 33 (.mv (tT 3)), tD 6 34 (.idxSl 1 (tT 32) (tT 33)), tD 7 35 (.load none (tT 34)), tD 8 36 (.mv (tT 0)), tD 9 37 (.mv (tT 2)), tD 10 38 (.idxSl 1 (tT 36) (tT 37)), tD 11 39 (.load none (tT 38)), tD 12 40 (.idxSl 1 (tT 28) (tT 29)), tD 13 41 (.store 1 (tT 40) (tT 35)), tD 14 42 (.idxSl 1 (tT 30) (tT 31)), tD 15 43 (.store 1 (tT 42) (tT 39))] [(14, 28), (15, 29), (16, 30), (17, 31), (18, 32), (19, 33), (20, 34), (21, 35), (22, 36), (23, 37), (24, 38), (25, 39), (26, 40), (27, 42)])) (.region [tS 10 (.mv (tT 2)), tS 11 (.bin .add .scalar (tT 10) (tK 1)), tS 12 (.mv (tT 3)), tS 13 (.bin .sub .scalar (tT 12) (tK 1)), tS 2 (.mv (tT 11)), tS 3 (.mv (tT 13))]))
def a1A : Res := []
noncomputable def v7_ : MFn := ⟨28, a1A, .seq [4, 5, 6] (.region [tS 4 (.mv (tT 0)), tS 5 (.lenSl (tT 4)), tS 6 (.bin .sub .scalar (tT 5) (tK 1)), tS 2 (.mv (tK 0)), tS 3 (.mv (tT 6))]) (.block 0 (.loop [10, 11, 12, 13] a1z))⟩
noncomputable def n6_ (T : Tab) (k j0 : Nat) (s0 i2 j3 : AV) (h : Heap) : Option (AV × Heap) :=
  loopB T k a1A j0 [10, 11, 12, 13] a1z [.blk 0] [s0, .u, i2, j3, .u, .u, .u, .u, .u, .u, .u, .u, .u, .u, .u, .u, .u, .u, .u, .u, .u, .u, .u, .u, .u, .u, .u, .u] h
theorem a0w (T : Tab) (k j0 : Nat) (s0 i2 j3 : AV) (h : Heap) : n6_ T k (j0 + 1) s0 i2 j3 h =
 oa (binV .lss .scalar i2 j3) fun t9_1 =>
 cond2 t9_1
 (
 oa (idxS 1 s0 j3) fun t34_2 =>
 oa (ld1 h t34_2) fun t35_3 =>
 oa (idxS 1 s0 i2) fun t38_4 =>
 oa (ld1 h t38_4) fun t39_5 =>
 oa (idxS 1 s0 i2) fun t40_6 =>
 oh (stN 1 h t40_6 t35_3) fun h_7 =>
 oa (idxS 1 s0 j3) fun t42_8 =>
 oh (stN 1 h_7 t42_8 t39_5) fun h_9 =>
 oa (binV .add .scalar i2 (.int .i64 1)) fun t11_10 =>
 oa (binV .sub .scalar j3 (.int .i64 1)) fun t13_11 =>
 n6_ T k j0 s0 t11_10 t13_11 h_9
 )
 (
 some (.tup [], h)
 ) := loopEq (by kernel_rfl)
theorem a6A (T : Tab) (k : Nat) (s0 : AV) (h : Heap) : runF T k v7_ [s0] h =
 oa (lenS s0) fun t5_1 =>
 oa (binV .sub .scalar t5_1 (.int .i64 1)) fun t6_2 =>
 n6_ T k k s0 (.int .i64 0) t6_2 h := runEq (by kernel_rfl)
def a7L : Res := [(2, none)]
noncomputable def x5_ : MFn := ⟨8, a7L, .seq [2] (.region [tS 2 (.mv (.const .nils))]) (.seq [4] (.seq [3] (.region [tS 3 (.mv (tT 0)), tS 4 (.bin .eql .slice (tT 3) (.const .nils))]) (.cond (tT 4) (.seq [0, 4] (.region [tS 2 (.mv (.const .nils))]) .ret) .skip)) (.seq [0, 5, 6, 7] (.region [tS 5 (.buildSlice 1 0 [] []), tS 6 (.mv (tT 0)), tS 7 (.append 1 8 (tT 5) (tT 6)), tS 2 (.mv (tT 7))]) .ret))⟩
theorem a7M (T : Tab) (k : Nat) (s0 : AV) (h : Heap) : runF T k x5_ [s0] h =
 oa (binV .eql .slice s0 .nils) fun t4_1 =>
 cond2 t4_1
 (
 some (.nils, h)
 )
 (
 ob (buildSl 1 0 [] [] h) fun t5_2 h_3 =>
 ob (apnd 1 8 t5_2 s0 h_3) fun t7_4 h_5 =>
 some (t7_4, h_5)
 ) := runEq (by kernel_rfl)
def b0T : Res := [(4, none)]
noncomputable def a3q : MFn := ⟨15, b0T, .seq [4] (.region [tS 4 (.mv (.const .nils))]) (.seq [] (.region [tS 5 (.mv (.const (.fn j4_ [] [])))]) (.seq [0, 1, 5, 6, 7, 8, 9, 10, 11, 12, 13, 14] (.region [tS 6 (.mv (tT 5)), tS 7 (.mv (tT 0)), tS 8 (.mv (tT 0)), tS 9 (.nilCheck (tT 8)), tS 10 (.fieldAddr 3 (tT 9)), tS 11 (.load none (tT 10)), tS 12 (.mv (tT 1)), ⟨some 13, .call l1_ [(tT 7), (tT 11), (tT 12)], none⟩, ⟨some 14, .callV (tT 6) [(tT 13)], none⟩, tS 4 (.mv (tT 14))]) .ret))⟩
theorem b0U (T : Tab) (k : Nat) (a0 v1 : AV) (h : Heap) : runF T k a3q [a0, v1] h =
 oa (nilCk a0) fun t9_1 =>
 oa (fldA 3 t9_1) fun t10_2 =>
 oa (ld1 h t10_2) fun t11_3 =>
 ob (evalFn T k l1_ [a0, t11_3, v1] h) fun t13_4 h_5 =>
 ob (callVal (evalFn T k) (.fn j4_ [] []) [t13_4] h_5) fun t14_6 h_7 =>
 some (t14_6, h_7) := runEq (by kernel_rfl)
def a8o : Res := [(4, none), (5, none)]
noncomputable def a0x : MFn := ⟨22, a8o, .seq [4, 5] (.region [tS 4 (.mv (tK 0)), tS 5 (.mv (.const (.bool false)))]) (.seq [1, 7, 8, 9, 10] (.region [tS 7 (.mv (tT 0)), ⟨some 8, .call b5_ [(tT 7)], none⟩, tS 9 (.mv (tT 1)), ⟨some 10, .invoke "milestone/queue.place" (tT 8) [(tT 9)], none⟩, tS 6 (.mv (tT 10))]) (.seq [12] (.seq [11] (.region [tS 11 (.mv (tT 6)), tS 12 (.bin .lss .scalar (tT 11) (tK 0))]) (.cond (tT 12) (.seq [0, 6, 12] (.region [tS 4 (.mv (tK 0)), tS 5 (.mv (.const (.bool false)))]) .ret) .skip)) (.seq [0, 6, 13, 14, 15, 16, 17, 18, 19, 20, 21] (.region [tS 13 (.mv (tT 0)), tS 14 (.nilCheck (tT 13)), tS 15 (.fieldAddr 0 (tT 14)), tS 16 (.fieldAddr 0 (tT 15)), tS 17 (.load none (tT 16)), tS 18 (.mv (tT 6)), tS 19 (.idxSl 2 (tT 17) (tT 18)), tS 20 (.fieldAddr 1 (tT 19)), tS 21 (.load none (tT 20)), tS 4 (.mv (tT 21)), tS 5 (.mv (.const (.bool true)))]) .ret)))⟩
theorem a8p (T : Tab) (k : Nat) (q0 id1 : AV) (h : Heap) : runF T k a0x [q0, id1] h =
 ob (evalFn T k b5_ [q0] h) fun t8_1 h_2 =>
 ob (callMeth T (evalFn T k) "milestone/queue.place" t8_1 [id1] h_2) fun t10_3 h_4 =>
 oa (binV .lss .scalar t10_3 (.int .i64 0)) fun t12_5 =>
 cond2 t12_5
 (
 some (.tup [(.int .i64 0), (.bool false)], h_4)
 )
 (
 oa (nilCk q0) fun t14_6 =>
 oa (fldA 0 t14_6) fun t15_7 =>
 oa (fldA 0 t15_7) fun t16_8 =>
 oa (ld1 h_4 t16_8) fun t17_9 =>
 oa (idxS 2 t17_9 t10_3) fun t19_10 =>
 oa (fldA 1 t19_10) fun t20_11 =>
 oa (ld1 h_4 t20_11) fun t21_12 =>
 some (.tup [t21_12, (.bool true)], h_4)
 ) := runEq (by kernel_rfl)
def a8q : Res := [(2, none), (3, none), (4, none)]
noncomputable def a0y : MFn := ⟨23, a8q, .seq [2, 3, 4] (.region [tS 2 (.mv (tK 0)), tS 3 (.mv (tK 0)), tS 4 (.mv (.const (.bool false)))]) (.seq [10] (.seq [6, 7, 8, 9] (.region [tS 6 (.mv (tT 0)), tS 7 (.nilCheck (tT 6)), tS 8 (.fieldAddr 0 (tT 7)), ⟨some 9, .call h4_ [(tT 8)], none⟩, tS 10 (.bin .eql .scalar (tT 9) (tK 0))]) (.cond (tT 10) (.seq [0, 10] (.region [tS 2 (.mv (tK 0)), tS 3 (.mv (tK 0)), tS 4 (.mv (.const (.bool false)))]) .ret) .skip)) (.seq [0, 11, 12, 13, 14, 15, 16, 17] (.region [tS 12 (.mv (tT 0)), ⟨some 13, .call b5_ [(tT 12)], none⟩, ⟨some 14, .call j5_ [(tT 13)], none⟩, tS 15 (.typeAssert 113 (.agg [.int .i64 0, .int .i64 0]) true (tT 14)), tS 11 (.mv (tT 15)), tS 16 (.extract 0 (tT 11)), tS 17 (.extract 1 (tT 11)), tS 5 (.alloc [.int .i64 0, .int .i64 0]), ⟨none, .op (.store 2 (tT 5) (tT 16)), none⟩, tS 4 (.mv (tT 17))]) (.seq [5, 18, 19, 20, 21, 22] (.regionD 23 [tD 0 23 (.fieldAddr 0 (tT 5)), tD 1 24 (.load none (tT 23)), tD 2 25 (.fieldAddr 1 (tT 5)), tD 3 26 (.load none (tT 25)), tD 4 27 (.mv (tT 4)), tD 5 28 (.mv (tT 24)), tD 6 29 (.mv (tT 26)), tD 7 30 (.mv (tT 27))] [(18, 23), (19, 24), (20, 25), (21, 26), (22, 27), (2, 28), (3, 29), (4, 30)]) .ret)))⟩
theorem a8r (T : Tab) (k : Nat) (q0 : AV) (h : Heap) : runF T k a0y [q0] h =
 oa (nilCk q0) fun t7_1 =>
 oa (fldA 0 t7_1) fun t8_2 =>
 ob (evalFn T k h4_ [t8_2] h) fun t9_3 h_4 =>
 oa (binV .eql .scalar t9_3 (.int .i64 0)) fun t10_5 =>
 cond2 t10_5
 (
 some (.tup [(.int .i64 0), (.int .i64 0), (.bool false)], h_4)
 )
 (
 ob (evalFn T k b5_ [q0] h_4) fun t13_6 h_7 =>
 ob (evalFn T k j5_ [t13_6] h_7) fun t14_8 h_9 =>
 oa (tAssert 113 (.agg [.int .i64 0, .int .i64 0]) true t14_8) fun t15_10 =>
 oa (extr 0 t15_10) fun t16_11 =>
 oa (extr 1 t15_10) fun t17_12 =>
 ob (newVar h_9 [.int .i64 0, .int .i64 0]) fun x5_13 h_14 =>
 oh (stN 2 h_14 x5_13 t16_11) fun h_15 =>
 oa (fldA 0 x5_13) fun t23_16 =>
 oa (ld1 h_15 t23_16) fun t24_17 =>
 oa (fldA 1 x5_13) fun t25_18 =>
 oa (ld1 h_15 t25_18) fun t26_19 =>
 some (.tup [t24_17, t26_19, t17_12], h_15)
 ) := runEq (by kernel_rfl)
noncomputable def a0W : MCode := .seq [33] (.seq [19, 20, 21, 22, 23, 24, 25, 26, 27, 28, 29, 30, 31, 32] (.regionD 51 [tD 0 51 (.mv (tT 9)), tD 1 52 (.mv (tT 7)), tD 2 53 (.lenSl (tT 52)), tD 3 54 (.bin .lss .scalar (tT 51) (tT 53)), tD 4 55 (.mv (tT 54)), ⟨5, ⟨some 56, .op (.load (some 2) (tT 2)), some (55, true)⟩, []⟩, ⟨6, ⟨some 57, .op (.mv (tT 1)), some (55, true)⟩, []⟩, ⟨7, ⟨some 58, .op (.mv (tT 7)), some (55, true)⟩, []⟩, ⟨8, ⟨some 59, .op (.mv (tT 9)), some (55, true)⟩, []⟩, ⟨9, ⟨some 60, .op (.idxSl 1 (tT 58) (tT 59)), some (55, true)⟩, []⟩, ⟨10, ⟨some 61, .op (.load none (tT 60)), some (55, true)⟩, []⟩, ⟨11, ⟨some 62, .op (.mv (tT 8)), some (55, true)⟩, []⟩, ⟨12, ⟨some 63, .call h5_ [(tT 56), (tT 57), (tT 61), (tT 62)], some (55, true)⟩, []⟩, ⟨13, ⟨some 64, .op (.un .not (tT 63)), some (55, true)⟩, []⟩, tD 14 65 (.pick (tT 55) (tT 64) (.const (.bool false)))] [(19, 51), (20, 52), (21, 53), (22, 54), (23, 55), (24, 56), (25, 57), (26, 58), (27, 59), (28, 60), (29, 61), (30, 62), (31, 63), (32, 64), (33, 65)]) (.cond (tT 33) .skip (.exit 2))) (.block 3 (.region [tS 34 (.mv (tT 9)), tS 35 (.bin .add .scalar (tT 34) (tK 1)), tS 9 (.mv (tT 35))]))
noncomputable def a0X : MCode := .region [tS 44 (.mv (tT 6)), tS 45 (.mv (tT 8)), tS 46 (.mv (tT 9)), tS 47 (.idxSl 1 (tT 44) (tT 45)), ⟨none, .op (.store 1 (tT 47) (tT 46)), none⟩]
noncomputable def t2_ : MCode := .seq [39, 40, 41, 42, 43] (.seq [36, 37, 38] (.region [tS 36 (.mv (tT 9)), tS 37 (.mv (tT 7)), tS 38 (.lenSl (tT 37)), tS 39 (.bin .eql .scalar (tT 36) (tT 38))]) (.cond (tT 39) (.region [tS 40 (.mv (tT 7)), tS 41 (.mv (tT 8)), tS 42 (.buildSlice 1 1 [.int .i64 0] [(0, 1, (tT 41))]), tS 43 (.append 1 8 (tT 40) (tT 42)), tS 7 (.mv (tT 43))]) .skip)) (.lab a0X)
noncomputable def g2_ : MCode := .region [tS 17 (.mv (tT 8)), tS 18 (.bin .add .scalar (tT 17) (tK 1)), tS 8 (.mv (tT 18))]
noncomputable def d0_ : MCode := .seq [16] (.seq [13, 14, 15] (.region [tS 13 (.mv (tT 8)), tS 14 (.mv (tT 1)), tS 15 (.lenSl (tT 14)), tS 16 (.bin .lss .scalar (tT 13) (tT 15))]) (.cond (tT 16) .skip (.exit 0))) (.seq [9, 44, 45, 46, 47] (.block 1 (.seq [] (.region [tS 9 (.mv (tK 0))]) (.seq [33] (.block 2 (.loop [34, 35] a0W)) (.lab t2_)))) (.lab g2_))
noncomputable def c1_ : MCode := .seq [6, 7, 48, 49, 50] (.region [tS 48 (.mv (tT 6)), tS 49 (.mv (tT 7)), tS 50 (.lenSl (tT 49)), tS 4 (.mv (tT 48)), tS 5 (.mv (tT 50))]) .ret
def c2_ : Res := [(4, none), (5, none)]
noncomputable def t3_ : MFn := ⟨51, c2_, .seq [0, 4, 5] (.region [tS 2 (.box (tT 0)), tS 4 (.mv (.const .nils)), tS 5 (.mv (tK 0))]) (.seq [10, 11, 12] (.region [tS 10 (.mv (tT 1)), tS 11 (.lenSl (tT 10)), tS 12 (.mkSlice [.int .i64 0] 1 8 (tT 11) (tT 11)), tS 6 (.mv (tT 12))]) (.seq [] (.region [tS 7 (.mv (.const .nils))]) (.seq [1, 2, 8, 16] (.seq [] (.region [tS 8 (.mv (tK 0))]) (.block 0 (.loop [17, 18] d0_))) (.lab c1_))))⟩
noncomputable def m1_ (T : Tab) (k j0 : Nat) (c1 d2 out6 first7 i8 : AV) (h : Heap) : Option (AV × Heap) :=
  loopB T k c2_ j0 [17, 18] d0_ [.blk 0, .seq [1, 2, 8, 16] (.lab c1_)] [.u, c1, d2, .u, .u, .u, out6, first7, i8, .u, .u, .u, .u, .u, .u, .u, .u, .u, .u, .u, .u, .u, .u, .u, .u, .u, .u, .u, .u, .u, .u, .u, .u, .u, .u, .u, .u, .u, .u, .u, .u, .u, .u, .u, .u, .u, .u, .u, .u, .u, .u] h
noncomputable def m2_ (T : Tab) (k j0 j1 : Nat) (c1 d2 out6 first7 i8 k9 : AV) (h : Heap) : Option (AV × Heap) :=
  loopB T k c2_ j1 [34, 35] a0W [.blk 2, .seq [33] (.lab t2_), .blk 1, .seq [9, 44, 45, 46, 47] (.lab g2_), .lp j0 [17, 18] d0_, .blk 0, .seq [1, 2, 8, 16] (.lab c1_)] [.u, c1, d2, .u, .u, .u, out6, first7, i8, k9, .u, .u, .u, .u, .u, .u, .u, .u, .u, .u, .u, .u, .u, .u, .u, .u, .u, .u, .u, .u, .u, .u, .u, .u, .u, .u, .u, .u, .u, .u, .u, .u, .u, .u, .u, .u, .u, .u, .u, .u, .u] h
noncomputable def t4_ (T : Tab) (k j0 : Nat) (c1 d2 out6 first7 i8 k9 : AV) (h : Heap) : Option (AV × Heap) :=
  evB T k c2_ t2_ [.blk 1, .seq [9, 44, 45, 46, 47] (.lab g2_), .lp j0 [17, 18] d0_, .blk 0, .seq [1, 2, 8, 16] (.lab c1_)] [.u, c1, d2, .u, .u, .u, out6, first7, i8, k9, .u, .u, .u, .u, .u, .u, .u, .u, .u, .u, .u, .u, .u, .u, .u, .u, .u, .u, .u, .u, .u, .u, .u, .u, .u, .u, .u, .u, .u, .u, .u, .u, .u, .u, .u, .u, .u, .u, .u, .u, .u] h
noncomputable def t5_ (T : Tab) (k j0 : Nat) (c1 d2 out6 first7 i8 k9 : AV) (h : Heap) : Option (AV × Heap) :=
  evB T k c2_ a0X [.blk 1, .seq [9, 44, 45, 46, 47] (.lab g2_), .lp j0 [17, 18] d0_, .blk 0, .seq [1, 2, 8, 16] (.lab c1_)] [.u, c1, d2, .u, .u, .u, out6, first7, i8, k9, .u, .u, .u, .u, .u, .u, .u, .u, .u, .u, .u, .u, .u, .u, .u, .u, .u, .u, .u, .u, .u, .u, .u, .u, .u, .u, .u, .u, .u, .u, .u, .u, .u, .u, .u, .u, .u, .u, .u, .u, .u] h
noncomputable def a0Y (T : Tab) (k j0 : Nat) (c1 d2 out6 first7 i8 : AV) (h : Heap) : Option (AV × Heap) :=
  evB T k c2_ g2_ [.lp j0 [17, 18] d0_, .blk 0, .seq [1, 2, 8, 16] (.lab c1_)] [.u, c1, d2, .u, .u, .u, out6, first7, i8, .u, .u, .u, .u, .u, .u, .u, .u, .u, .u, .u, .u, .u, .u, .u, .u, .u, .u, .u, .u, .u, .u, .u, .u, .u, .u, .u, .u, .u, .u, .u, .u, .u, .u, .u, .u, .u, .u, .u, .u, .u, .u] h
noncomputable def a0Z (T : Tab) (k : Nat) (out6 first7 : AV) (h : Heap) : Option (AV × Heap) :=
  evB T k c2_ c1_ [] [.u, .u, .u, .u, .u, .u, out6, first7, .u, .u, .u, .u, .u, .u, .u, .u, .u, .u, .u, .u, .u, .u, .u, .u, .u, .u, .u, .u, .u, .u, .u, .u, .u, .u, .u, .u, .u, .u, .u, .u, .u, .u, .u, .u, .u, .u, .u, .u, .u, .u, .u] h
theorem a0a (T : Tab) (k j0 : Nat) (c1 d2 out6 first7 i8 : AV) (h : Heap) : a0Y T k j0 c1 d2 out6 first7 i8 h =
 oa (binV .add .scalar i8 (.int .i64 1)) fun t18_1 =>
 m1_ T k j0 c1 d2 out6 first7 t18_1 h := blockEq (by kernel_rfl)
theorem a0b (T : Tab) (k j0 : Nat) (c1 d2 out6 first7 i8 k9 : AV) (h : Heap) : t5_ T k j0 c1 d2 out6 first7 i8 k9 h =
 oa (idxS 1 out6 i8) fun t47_1 =>
 oh (stN 1 h t47_1 k9) fun h_2 =>
 a0Y T k j0 c1 d2 out6 first7 i8 h_2 := blockEq (by kernel_rfl)
theorem a3J (T : Tab) (k j0 : Nat) (c1 d2 out6 first7 i8 k9 : AV) (h : Heap) : t4_ T k j0 c1 d2 out6 first7 i8 k9 h =
 oa (lenS first7) fun t38_1 =>
 oa (binV .eql .scalar k9 t38_1) fun t39_2 =>
 cond2 t39_2
 (
 ob (buildSl 1 1 [.int .i64 0] [(0, 1, i8)] h) fun t42_3 h_4 =>
 ob (apnd 1 8 first7 t42_3 h_4) fun t43_5 h_6 =>
 t5_ T k j0 c1 d2 out6 t43_5 i8 k9 h_6
 )
 (
 t5_ T k j0 c1 d2 out6 first7 i8 k9 h
 ) := blockEq (by kernel_rfl)
theorem a0c (T : Tab) (k j0 j1 : Nat) (c1 d2 out6 first7 i8 k9 : AV) (h : Heap) : m2_ T k j0 (j1 + 1) c1 d2 out6 first7 i8 k9 h =
 oa (lenS first7) fun t53_1 =>
 oa (binV .lss .scalar k9 t53_1) fun t54_2 =>
 ob (gd t54_2 true (pure1 h (ldN 2 h d2)) h) fun t56_3 h_4 =>
 ob (gd t54_2 true (some (c1, h_4)) h_4) fun t57_5 h_6 =>
 ob (gd t54_2 true (some (first7, h_6)) h_6) fun t58_7 h_8 =>
 ob (gd t54_2 true (some (k9, h_8)) h_8) fun t59_9 h_10 =>
 ob (gd t54_2 true (pure1 h_10 (idxS 1 t58_7 t59_9)) h_10) fun t60_11 h_12 =>
 ob (gd t54_2 true (pure1 h_12 (ld1 h_12 t60_11)) h_12) fun t61_13 h_14 =>
 ob (gd t54_2 true (some (i8, h_14)) h_14) fun t62_15 h_16 =>
 ob (gd t54_2 true (evalFn T k h5_ [t56_3, t57_5, t61_13, t62_15] h_16) h_16) fun t63_17 h_18 =>
 ob (gd t54_2 true (pure1 h_18 (unV .not t63_17)) h_18) fun t64_19 h_20 =>
 oa (pickV t54_2 t64_19 (.bool false)) fun t65_21 =>
 cond2 t65_21
 (
 oa (binV .add .scalar k9 (.int .i64 1)) fun t35_22 =>
 m2_ T k j0 j1 c1 d2 out6 first7 i8 t35_22 h_20
 )
 (
 t4_ T k j0 c1 d2 out6 first7 i8 k9 h_20
 ) := loopEq (by kernel_rfl)
theorem a3K (T : Tab) (k : Nat) (out6 first7 : AV) (h : Heap) : a0Z T k out6 first7 h =
 oa (lenS first7) fun t50_1 =>
 some (.tup [out6, t50_1], h) := blockEq (by kernel_rfl)
theorem a0d (T : Tab) (k j0 : Nat) (c1 d2 out6 first7 i8 : AV) (h : Heap) : m1_ T k (j0 + 1) c1 d2 out6 first7 i8 h =
 oa (lenS c1) fun t15_1 =>
 oa (binV .lss .scalar i8 t15_1) fun t16_2 =>
 cond2 t16_2
 (
 m2_ T k j0 k c1 d2 out6 first7 i8 (.int .i64 0) h
 )
 (
 a0Z T k out6 first7 h
 ) := loopEq (by kernel_rfl)
theorem a5O (T : Tab) (k : Nat) (d0 c1 : AV) (h : Heap) : runF T k t3_ [d0, c1] h =
 ob (newVar h (AV.cells d0)) fun d2_1 h_2 =>
 oa (lenS c1) fun t11_3 =>
 ob (mkSl [.int .i64 0] 1 8 t11_3 t11_3 h_2) fun t12_4 h_5 =>
 m1_ T k k c1 d2_1 t12_4 .nils (.int .i64 0) h_5 := runEq (by kernel_rfl)
noncomputable def a2v : MCode := .seq [20] (.seq [17, 18, 19] (.region [tS 17 (.mv (tT 7)), tS 18 (.mv (tT 2)), tS 19 (.lenSl (tT 18)), tS 20 (.bin .lss .scalar (tT 17) (tT 19))]) (.cond (tT 20) .skip (.exit 0))) (.seq [35, 36, 37, 38, 39, 40, 41, 42, 43, 44] (.block 1 (.seq [34] (.seq [23, 24, 25, 26, 27, 28, 29, 30, 31, 32, 33] (.region [tS 23 (.mv (tT 2)), tS 24 (.mv (tT 7)), tS 25 (.idxSl 1 (tT 23) (tT 24)), tS 26 (.load none (tT 25)), tS 27 (.bin .lss .scalar (tT 26) (tK 0)), tS 28 (.mv (tT 27)), ⟨some 29, .op (.mv (tT 2)), some (28, false)⟩, ⟨some 30, .op (.mv (tT 7)), some (28, false)⟩, ⟨some 31, .op (.idxSl 1 (tT 29) (tT 30)), some (28, false)⟩, ⟨some 32, .op (.load none (tT 31)), some (28, false)⟩, ⟨some 33, .op (.bin .geq .scalar (tT 32) (tK 5)), some (28, false)⟩, tS 34 (.pick (tT 28) (.const (.bool true)) (tT 33))]) (.cond (tT 34) (.seq [1, 2, 3, 7, 34] (.region [tS 6 (.mv (tK (-1)))]) .ret) .skip)) (.regionD 46 [tD 0 46 (.fieldAddr 0 (tT 3)), tD 1 47 (.load none (tT 46)), tD 2 48 (.mv (tT 1)), tD 3 49 (.mv (tT 2)), tD 4 50 (.mv (tT 7)), tD 5 51 (.idxSl 1 (tT 49) (tT 50)), tD 6 52 (.load none (tT 51)), tD 7 53 (.idxSl 5 (tT 47) (tT 48)), tD 8 54 (.idxArr 5 1 (tT 53) (tT 52)), tD 9 55 (.load none (tT 54)), tD 10 56 (.mv (tT 55))] [(35, 46), (36, 47), (37, 48), (38, 49), (39, 50), (40, 51), (41, 52), (42, 53), (43, 54), (44, 55), (1, 56)]))) (.region [tS 21 (.mv (tT 7)), tS 22 (.bin .add .scalar (tT 21) (tK 1)), tS 7 (.mv (tT 22))]))
def a2w : Res := [(6, none)]
noncomputable def x6_ : MFn := ⟨46, a2w, .seq [0, 6] (.region [tS 3 (.box (tT 0)), tS 6 (.mv (tK 0))]) (.seq [16] (.seq [8, 9, 10, 11, 12, 13, 14, 15] (.region [tS 8 (.mv (tT 1)), tS 9 (.bin .lss .scalar (tT 8) (tK 0)), tS 10 (.mv (tT 9)), ⟨some 11, .op (.mv (tT 1)), some (10, false)⟩, ⟨some 12, .op (.fieldAddr 0 (tT 3)), some (10, false)⟩, ⟨some 13, .op (.load none (tT 12)), some (10, false)⟩, ⟨some 14, .op (.lenSl (tT 13)), some (10, false)⟩, ⟨some 15, .op (.bin .geq .scalar (tT 11) (tT 14)), some (10, false)⟩, tS 16 (.pick (tT 10) (.const (.bool true)) (tT 15))]) (.cond (tT 16) (.seq [1, 2, 3, 16] (.region [tS 6 (.mv (tK (-1)))]) .ret) .skip)) (.seq [2, 3, 7, 20] (.seq [] (.region [tS 7 (.mv (tK 0))]) (.block 0 (.loop [21, 22] a2v))) (.seq [1, 45] (.region [tS 45 (.mv (tT 1)), tS 6 (.mv (tT 45))]) .ret)))⟩
noncomputable def k6_ (T : Tab) (k j0 : Nat) (state1 word2 d3 i7 : AV) (h : Heap) : Option (AV × Heap) :=
  loopB T k a2w j0 [21, 22] a2v [.blk 0, .seq [2, 3, 7, 20] (.seq [1, 45] (.region [⟨some 45, .op (.mv (.tmp 1)), none⟩,
  ⟨some 6, .op (.mv (.tmp 45)), none⟩]) .ret)] [.undef, state1, word2, d3, .undef, .undef, .undef, i7, .undef, .undef, .undef, .undef, .undef, .undef, .undef, .undef, .undef, .undef, .undef, .undef, .undef, .undef, .undef, .undef, .undef, .undef, .undef, .undef, .undef, .undef, .undef, .undef, .undef, .undef, .undef, .undef, .undef, .undef, .undef, .undef, .undef, .undef, .undef, .undef, .undef, .undef] h
theorem a1a (T : Tab) (k j0 : Nat) (state1 word2 d3 i7 : AV) (h : Heap) : k6_ T k (j0 + 1) state1 word2 d3 i7 h =
 oa (lenS word2) fun t19_1 =>
 oa (binV .lss .scalar i7 t19_1) fun t20_2 =>
 cond2 t20_2
 (
 oa (idxS 1 word2 i7) fun t25_3 =>
 oa (ld1 h t25_3) fun t26_4 =>
 oa (binV .lss .scalar t26_4 (.int .i64 0)) fun t27_5 =>
 ob (gd t27_5 false (some (word2, h)) h) fun t29_6 h_7 =>
 ob (gd t27_5 false (some (i7, h_7)) h_7) fun t30_8 h_9 =>
 ob (gd t27_5 false (pure1 h_9 (idxS 1 t29_6 t30_8)) h_9) fun t31_10 h_11 =>
 ob (gd t27_5 false (pure1 h_11 (ld1 h_11 t31_10)) h_11) fun t32_12 h_13 =>
 ob (gd t27_5 false (pure1 h_13 (binV .geq .scalar t32_12 (.int .i64 5))) h_13) fun t33_14 h_15 =>
 oa (pickV t27_5 (.bool true) t33_14) fun t34_16 =>
 cond2 t34_16
 (
 some ((.int .i64 (-1)), h_15)
 )
 (
 oa (fldA 0 d3) fun t46_17 =>
 oa (ld1 h_15 t46_17) fun t47_18 =>
 oa (idxS 1 word2 i7) fun t51_19 =>
 oa (ld1 h_15 t51_19) fun t52_20 =>
 oa (idxS 5 t47_18 state1) fun t53_21 =>
 oa (idxA 5 1 t53_21 t52_20) fun t54_22 =>
 oa (ld1 h_15 t54_22) fun t55_23 =>
 oa (binV .add .scalar i7 (.int .i64 1)) fun t22_24 =>
 k6_ T k j0 t55_23 word2 d3 t22_24 h_15
 )
 )
 (
 some (state1, h)
 ) := loopEq (by kernel_rfl)
theorem a7N (T : Tab) (k : Nat) (d0 state1 word2 : AV) (h : Heap) : runF T k x6_ [d0, state1, word2] h =
 ob (newVar h (AV.cells d0)) fun d3_1 h_2 =>
 oa (binV .lss .scalar state1 (.int .i64 0)) fun t9_3 =>
 ob (gd t9_3 false (some (state1, h_2)) h_2) fun t11_4 h_5 =>
 ob (gd t9_3 false (pure1 h_5 (fldA 0 d3_1)) h_5) fun t12_6 h_7 =>
 ob (gd t9_3 false (pure1 h_7 (ld1 h_7 t12_6)) h_7) fun t13_8 h_9 =>
 ob (gd t9_3 false (pure1 h_9 (lenS t13_8)) h_9) fun t14_10 h_11 =>
 ob (gd t9_3 false (pure1 h_11 (binV .geq .scalar t11_4 t14_10)) h_11) fun t15_12 h_13 =>
 oa (pickV t9_3 (.bool true) t15_12) fun t16_14 =>
 cond2 t16_14
 (
 some ((.int .i64 (-1)), h_13)
 )
 (
 k6_ T k k state1 word2 d3_1 (.int .i64 0) h_13
 ) := runEq (by kernel_rfl)
def a4h : Res := [(2, none)]
noncomputable def p0_ : MFn := ⟨8, a4h, .seq [2] (.region [tS 2 (.mv (.const .nils))]) (.seq [4] (.seq [3] (.region [tS 3 (.mv (tT 0)), tS 4 (.bin .eql .slice (tT 3) (.const .nils))]) (.cond (tT 4) (.seq [0, 4] (.region [tS 2 (.mv (.const .nils))]) .ret) .skip)) (.seq [0, 5, 6, 7] (.region [tS 5 (.buildSlice 4 0 [] []), tS 6 (.mv (tT 0)), tS 7 (.append 4 32 (tT 5) (tT 6)), tS 2 (.mv (tT 7))]) .ret))⟩
theorem a4i (T : Tab) (k : Nat) (s0 : AV) (h : Heap) : runF T k p0_ [s0] h =
 oa (binV .eql .slice s0 .nils) fun t4_1 =>
 cond2 t4_1
 (
 some (.nils, h)
 )
 (
 ob (buildSl 4 0 [] [] h) fun t5_2 h_3 =>
 ob (apnd 4 32 t5_2 s0 h_3) fun t7_4 h_5 =>
 some (t7_4, h_5)
 ) := runEq (by kernel_rfl)
def b0V : Res := [(4, none)]
noncomputable def a3r : MFn := ⟨16, b0V, .seq [4] (.region [tS 4 (.mv (.const (.bool false)))]) (.seq [0, 1, 5, 6, 7, 8, 9, 10, 11, 12, 13, 14, 15] (.region [tS 5 (.mv (tT 1)), tS 6 (.bin .geq .scalar (tT 5) (tK 0)), tS 7 (.mv (tT 6)), ⟨some 8, .op (.mv (tT 1)), some (7, true)⟩, ⟨some 9, .op (.mv (tT 0)), some (7, true)⟩, ⟨some 10, .op (.nilCheck (tT 9)), some (7, true)⟩, ⟨some 11, .op (.fieldAddr 2 (tT 10)), some (7, true)⟩, ⟨some 12, .op (.load none (tT 11)), some (7, true)⟩, ⟨some 13, .op (.lenSl (tT 12)), some (7, true)⟩, ⟨some 14, .op (.bin .lss .scalar (tT 8) (tT 13)), some (7, true)⟩, tS 15 (.pick (tT 7) (tT 14) (.const (.bool false))), tS 4 (.mv (tT 15))]) .ret)⟩
theorem b0W (T : Tab) (k : Nat) (a0 v1 : AV) (h : Heap) : runF T k a3r [a0, v1] h =
 oa (binV .geq .scalar v1 (.int .i64 0)) fun t6_1 =>
 ob (gd t6_1 true (some (v1, h)) h) fun t8_2 h_3 =>
 ob (gd t6_1 true (some (a0, h_3)) h_3) fun t9_4 h_5 =>
 ob (gd t6_1 true (pure1 h_5 (nilCk t9_4)) h_5) fun t10_6 h_7 =>
 ob (gd t6_1 true (pure1 h_7 (fldA 2 t10_6)) h_7) fun t11_8 h_9 =>
 ob (gd t6_1 true (pure1 h_9 (ld1 h_9 t11_8)) h_9) fun t12_10 h_11 =>
 ob (gd t6_1 true (pure1 h_11 (lenS t12_10)) h_11) fun t13_12 h_13 =>
 ob (gd t6_1 true (pure1 h_13 (binV .lss .scalar t8_2 t13_12)) h_13) fun t14_14 h_15 =>
 oa (pickV t6_1 t14_14 (.bool false)) fun t15_16 =>
 some (t15_16, h_15) := runEq (by kernel_rfl)
def a9T : Res := []
noncomputable def a2a : MFn := ⟨26, a9T, .regionD 26 [tD 0 26 (.mv (tT 0)), tD 1 27 (.mv (tT 0)), tD 2 28 (.mv (tT 0)), tD 3 29 (.nilCheck (tT 28)), tD 4 30 (.fieldAddr 0 (tT 29)), tD 5 31 (.load none (tT 30)), tD 6 32 (.mv (tT 1)), tD 7 33 (.buildSlice 1 1 [.int .i64 0] [(0, 1, (tT 32))]), tD 9 35 (.mv (tT 0)), tD 10 36 (.nilCheck (tT 35)), tD 11 37 (.fieldAddr 1 (tT 36)), tD 12 38 (.load none (tT 37)), tD 13 39 (.mv (tT 2)), tD 14 40 (.buildSlice 1 1 [.int .i64 0] [(0, 1, (tT 39))]), ⟨8, tS 34 (.append 1 8 (tT 31) (tT 33)), [(38, tS 38 (.load none (tT 37)))]⟩, tD 15 41 (.append 1 8 (tT 38) (tT 40)), tD 16 42 (.nilCheck (tT 26)), tD 17 43 (.fieldAddr 0 (tT 42)), tD 18 44 (.store 1 (tT 43) (tT 34)), tD 19 45 (.nilCheck (tT 27)), tD 20 46 (.fieldAddr 1 (tT 45)), tD 21 47 (.store 1 (tT 46) (tT 41))] [(6, 26), (7, 27), (8, 28), (9, 29), (10, 30), (11, 31), (12, 32), (13, 33), (14, 34), (15, 35), (16, 36), (17, 37), (18, 38), (19, 39), (20, 40), (21, 41), (22, 42), (23, 43), (24, 45), (25, 46)]⟩
theorem a9U (T : Tab) (k : Nat) (e0 edge1 other2 : AV) (h : Heap) : runF T k a2a [e0, edge1, other2] h =
 oa (nilCk e0) fun t29_1 =>
 oa (fldA 0 t29_1) fun t30_2 =>
 oa (ld1 h t30_2) fun t31_3 =>
 ob (buildSl 1 1 [.int .i64 0] [(0, 1, edge1)] h) fun t33_4 h_5 =>
 oa (nilCk e0) fun t36_6 =>
 oa (fldA 1 t36_6) fun t37_7 =>
 oa (ld1 h_5 t37_7) fun t38_8 =>
 ob (buildSl 1 1 [.int .i64 0] [(0, 1, other2)] h_5) fun t40_9 h_10 =>
 ob (apnd 1 8 t31_3 t33_4 h_10) fun t34_11 h_12 =>
 chk ((sameB (pure1 h_12 (ld1 h_12 t37_7)) t38_8 && true)) <|
 ob (apnd 1 8 t38_8 t40_9 h_12) fun t41_13 h_14 =>
 oa (nilCk e0) fun t42_15 =>
 oa (fldA 0 t42_15) fun t43_16 =>
 oh (stN 1 h_14 t43_16 t34_11) fun h_17 =>
 oa (nilCk e0) fun t45_18 =>
 oa (fldA 1 t45_18) fun t46_19 =>
 oh (stN 1 h_17 t46_19 t41_13) fun h_20 =>
 some (.tup [], h_20) := runEq (by kernel_rfl)
def a7O : Res := [(2, none)]
noncomputable def x7_ : MFn := ⟨7, a7O, .seq [2] (.region [tS 2 (.mv (.const .nilifc))]) (.seq [0, 3, 4, 5, 6] (.region [tS 3 (.mv (tT 0)), tS 4 (.nilCheck (tT 3)), tS 5 (.fieldAddr 0 (tT 4)), tS 6 (.mkIfc 123 (tT 5)), tS 2 (.mv (tT 6))]) .ret)⟩
theorem a7P (T : Tab) (k : Nat) (q0 : AV) (h : Heap) : runF T k x7_ [q0] h =
 oa (nilCk q0) fun t4_1 =>
 oa (fldA 0 t4_1) fun t5_2 =>
 some ((.ifc 123 t5_2), h) := runEq (by kernel_rfl)
def a5P : Res := []
noncomputable def t6_ : MFn := ⟨12, a5P, .seq [1, 4, 5, 6] (.region [tS 4 (.mv (tT 0)), tS 5 (.mv (tT 1)), ⟨some 6, .invoke "Push" (tT 4) [(tT 5)], none⟩]) (.region [tS 7 (.mv (tT 0)), tS 8 (.mv (tT 0)), ⟨some 9, .invoke "Len" (tT 8) [], none⟩, tS 10 (.bin .sub .scalar (tT 9) (tK 1)), ⟨some 11, .call d2_ [(tT 7), (tT 10)], none⟩])⟩
theorem a5Q (T : Tab) (k : Nat) (h0 x1 : AV) (h : Heap) : runF T k t6_ [h0, x1] h =
 ob (callMeth T (evalFn T k) "Push" h0 [x1] h) fun t6_1 h_2 =>
 ob (callMeth T (evalFn T k) "Len" h0 [] h_2) fun t9_3 h_4 =>
 oa (binV .sub .scalar t9_3 (.int .i64 1)) fun t10_5 =>
 ob (evalFn T k d2_ [h0, t10_5] h_4) fun t11_6 h_7 =>
 some (.tup [], h_7) := runEq (by kernel_rfl)
def a6B : Res := []
noncomputable def v8_ : MFn := ⟨13, a6B, .seq [4, 5, 6, 7, 8] (.region [tS 4 (.mv (tT 0)), tS 5 (.mv (tT 1)), tS 6 (.mv (tT 0)), ⟨some 7, .invoke "Len" (tT 6) [], none⟩, ⟨some 8, .call b7_ [(tT 4), (tT 5), (tT 7)], none⟩, tS 9 (.un .not (tT 8))]) (.cond (tT 9) (.region [tS 10 (.mv (tT 0)), tS 11 (.mv (tT 1)), ⟨some 12, .call d2_ [(tT 10), (tT 11)], none⟩]) .skip)⟩
theorem a6C (T : Tab) (k : Nat) (h0 i1 : AV) (h : Heap) : runF T k v8_ [h0, i1] h =
 ob (callMeth T (evalFn T k) "Len" h0 [] h) fun t7_1 h_2 =>
 ob (evalFn T k b7_ [h0, i1, t7_1] h_2) fun t8_3 h_4 =>
 oa (unV .not t8_3) fun t9_5 =>
 cond2 t9_5
 (
 ob (evalFn T k d2_ [h0, i1] h_4) fun t12_6 h_7 =>
 some (.tup [], h_7)
 )
 (
 some (.tup [], h_4)
 ) := runEq (by kernel_rfl)
def a9u : Res := [(2, none)]
noncomputable def a1n : MFn := ⟨13, a9u, .seq [0, 2] (.region [tS 1 (.box (tT 0)), tS 2 (.mv (.const .nils))]) (.seq [4, 5, 6] (.region [tS 4 (.fieldAddr 0 (tT 1)), tS 5 (.load none (tT 4)), tS 6 (.lenSl (tT 5)), tS 3 (.mv (tT 6))]) (.seq [1, 3, 7, 8, 9, 10, 11, 12] (.region [tS 7 (.fieldAddr 0 (tT 1)), tS 8 (.load none (tT 7)), tS 9 (.mv (tT 3)), tS 10 (.mv (tT 3)), tS 11 (.sliceSl 1 (tT 8) none (some (tT 9)) (some (tT 10))), ⟨some 12, .call e2_ [(tT 11)], none⟩, tS 2 (.mv (tT 12))]) .ret))⟩
theorem a9v (T : Tab) (k : Nat) (e0 : AV) (h : Heap) : runF T k a1n [e0] h =
 ob (newVar h (AV.cells e0)) fun e1_1 h_2 =>
 oa (fldA 0 e1_1) fun t4_3 =>
 oa (ld1 h_2 t4_3) fun t5_4 =>
 oa (lenS t5_4) fun t6_5 =>
 oa (fldA 0 e1_1) fun t7_6 =>
 oa (ld1 h_2 t7_6) fun t8_7 =>
 oa (slSl 1 t8_7 none (some t6_5) (some t6_5)) fun t11_8 =>
 ob (evalFn T k e2_ [t11_8] h_2) fun t12_9 h_10 =>
 some (t12_9, h_10) := runEq (by kernel_rfl)
def a9V : Res := [(6, some (some 2))]
noncomputable def a2b : MFn := ⟨16, a9V, .seq [] (.region [tS 6 (.alloc [.nils, .nils])]) (.seq [10] (.seq [0, 7, 8, 9] (.region [tS 7 (.mv (tT 0)), tS 8 (.mv (tT 2)), ⟨some 9, .call j3_ [(tT 7), (tT 8)], none⟩, tS 10 (.un .not (tT 9))]) (.cond (tT 10) (.seq [1, 2, 10, 11] (.region [tS 11 (.build [.nils, .nils] []), ⟨none, .op (.store 2 (tT 6) (tT 11)), none⟩]) .ret) .skip)) (.seq [1, 2, 12, 13, 14, 15] (.region [tS 12 (.mv (tT 1)), tS 13 (.mv (tT 2)), tS 14 (.idxSl 2 (tT 12) (tT 13)), tS 15 (.load (some 2) (tT 14)), ⟨none, .op (.store 2 (tT 6) (tT 15)), none⟩]) .ret))⟩
theorem a9W (T : Tab) (k : Nat) (a0 l1 v2 : AV) (h : Heap) : runF T k a2b [a0, l1, v2] h =
 ob (newVar h [.nils, .nils]) fun t6_1 h_2 =>
 ob (evalFn T k j3_ [a0, v2] h_2) fun t9_3 h_4 =>
 oa (unV .not t9_3) fun t10_5 =>
 cond2 t10_5
 (
 oa (buildV [.nils, .nils] []) fun t11_6 =>
 oh (stN 2 h_4 t6_1 t11_6) fun h_7 =>
 oa (ldN 2 h_7 t6_1) fun t6_8 =>
 some (t6_8, h_7)
 )
 (
 oa (idxS 2 l1 v2) fun t14_9 =>
 oa (ldN 2 h_4 t14_9) fun t15_10 =>
 oh (stN 2 h_4 t6_1 t15_10) fun h_11 =>
 oa (ldN 2 h_11 t6_1) fun t6_12 =>
 some (t6_12, h_11)
 ) := runEq (by kernel_rfl)
def a7Q : Res := [(2, none)]
noncomputable def x8_ : MFn := ⟨8, a7Q, .seq [2] (.region [tS 2 (.mv (tK 0))]) (.seq [0, 3, 4, 5, 6, 7] (.region [tS 3 (.mv (tT 0)), tS 4 (.nilCheck (tT 3)), tS 5 (.fieldAddr 0 (tT 4)), tS 6 (.load none (tT 5)), tS 7 (.lenSl (tT 6)), tS 2 (.mv (tT 7))]) .ret)⟩
theorem a7R (T : Tab) (k : Nat) (h0 : AV) (h : Heap) : runF T k x8_ [h0] h =
 oa (nilCk h0) fun t4_1 =>
 oa (fldA 0 t4_1) fun t5_2 =>
 oa (ld1 h t5_2) fun t6_3 =>
 oa (lenS t6_3) fun t7_4 =>
 some (t7_4, h) := runEq (by kernel_rfl)
def a6D : Res := [(2, none)]
noncomputable def v9_ : MFn := ⟨15, a6D, .seq [2] (.region [tS 2 (.mv (.const .nilifc))]) (.seq [4, 5, 6] (.region [tS 4 (.mv (tT 0)), ⟨some 5, .invoke "Len" (tT 4) [], none⟩, tS 6 (.bin .sub .scalar (tT 5) (tK 1)), tS 3 (.mv (tT 6))]) (.seq [7, 8, 9] (.region [tS 7 (.mv (tT 0)), tS 8 (.mv (tT 3)), ⟨some 9, .invoke "Swap" (tT 7) [(tK 0), (tT 8)], none⟩]) (.seq [3, 10, 11, 12] (.region [tS 10 (.mv (tT 0)), tS 11 (.mv (tT 3)), ⟨some 12, .call b7_ [(tT 10), (tK 0), (tT 11)], none⟩]) (.seq [0, 13, 14] (.region [tS 13 (.mv (tT 0)), ⟨some 14, .invoke "Pop" (tT 13) [], none⟩, tS 2 (.mv (tT 14))]) .ret))))⟩
theorem a6E (T : Tab) (k : Nat) (h0 : AV) (h : Heap) : runF T k v9_ [h0] h =
 ob (callMeth T (evalFn T k) "Len" h0 [] h) fun t5_1 h_2 =>
 oa (binV .sub .scalar t5_1 (.int .i64 1)) fun t6_3 =>
 ob (callMeth T (evalFn T k) "Swap" h0 [(.int .i64 0), t6_3] h_2) fun t9_4 h_5 =>
 ob (evalFn T k b7_ [h0, (.int .i64 0), t6_3] h_5) fun t12_6 h_7 =>
 ob (callMeth T (evalFn T k) "Pop" h0 [] h_7) fun t14_8 h_9 =>
 some (t14_8, h_9) := runEq (by kernel_rfl)
noncomputable def a1b : MCode := .seq [20] (.seq [19] (.region [tS 19 (.mv (tT 9)), tS 20 (.bin .lss .scalar (tT 19) (tK 5))]) (.cond (tT 20) .skip (.exit 0))) (.seq [43] (.block 1 (.seq [23, 24, 25, 26, 27, 28, 29, 30, 31, 32, 33, 34, 35, 36, 37, 38, 39, 40, 41, 42] (.regionD 44 [tD 0 44 (.mv (tT 1)), tD 1 45 (.fieldAddr 0 (tT 4)), tD 2 46 (.load none (tT 45)), tD 3 47 (.mv (tT 2)), tD 4 48 (.mv (tT 9)), tD 5 49 (.idxSl 5 (tT 46) (tT 47)), tD 6 50 (.idxArr 5 1 (tT 49) (tT 48)), tD 7 51 (.load none (tT 50)), tD 8 52 (.idxSl 1 (tT 44) (tT 51)), tD 9 53 (.load none (tT 52)), tD 10 54 (.mv (tT 1)), tD 11 55 (.fieldAddr 0 (tT 4)), tD 12 56 (.load none (tT 55)), tD 13 57 (.mv (tT 3)), tD 14 58 (.mv (tT 9)), tD 15 59 (.idxSl 5 (tT 56) (tT 57)), tD 16 60 (.idxArr 5 1 (tT 59) (tT 58)), tD 17 61 (.load none (tT 60)), tD 18 62 (.idxSl 1 (tT 54) (tT 61)), tD 19 63 (.load none (tT 62)), tD 20 64 (.bin .neq .scalar (tT 53) (tT 63))] [(23, 44), (24, 45), (25, 46), (26, 47), (27, 48), (28, 49), (29, 50), (30, 51), (31, 52), (32, 53), (33, 54), (34, 55), (35, 56), (36, 57), (37, 58), (38, 59), (39, 60), (40, 61), (41, 62), (42, 63), (43, 64)]) (.cond (tT 43) (.seq [1, 2, 3, 4, 9, 43] (.region [tS 8 (.mv (.const (.bool false)))]) .ret) .skip))) (.region [tS 21 (.mv (tT 9)), tS 22 (.bin .add .scalar (tT 21) (tK 1)), tS 9 (.mv (tT 22))]))
def a1c : Res := [(8, none)]
noncomputable def t7_ : MFn := ⟨44, a1c, .seq [0, 8] (.region [tS 4 (.box (tT 0)), tS 8 (.mv (.const (.bool false)))]) (.seq [18] (.seq [10, 11, 12, 13, 14, 15, 16, 17] (.regionD 44 [tD 0 44 (.mv (tT 1)), tD 1 45 (.mv (tT 2)), tD 2 46 (.idxSl 1 (tT 44) (tT 45)), tD 3 47 (.load none (tT 46)), tD 4 48 (.mv (tT 1)), tD 5 49 (.mv (tT 3)), tD 6 50 (.idxSl 1 (tT 48) (tT 49)), tD 7 51 (.load none (tT 50)), tD 8 52 (.bin .neq .scalar (tT 47) (tT 51))] [(10, 44), (11, 45), (12, 46), (13, 47), (14, 48), (15, 49), (16, 50), (17, 51), (18, 52)]) (.cond (tT 18) (.seq [1, 2, 3, 4, 18] (.region [tS 8 (.mv (.const (.bool false)))]) .ret) .skip)) (.seq [1, 2, 3, 4, 9, 20] (.seq [] (.region [tS 9 (.mv (tK 0))]) (.block 0 (.loop [21, 22] a1b))) (.seq [] (.region [tS 8 (.mv (.const (.bool true)))]) .ret)))⟩
noncomputable def m3_ (T : Tab) (k j0 : Nat) (c1 a2 b3 d4 m9 : AV) (h : Heap) : Option (AV × Heap) :=
  loopB T k a1c j0 [21, 22] a1b [.blk 0, .seq [1, 2, 3, 4, 9, 20] (.seq [] (.region [⟨some 8, .op (.mv (.const (.bool true))), none⟩]) .ret)] [.u, c1, a2, b3, d4, .u, .u, .u, .u, m9, .u, .u, .u, .u, .u, .u, .u, .u, .u, .u, .u, .u, .u, .u, .u, .u, .u, .u, .u, .u, .u, .u, .u, .u, .u, .u, .u, .u, .u, .u, .u, .u, .u, .u] h
theorem a0e (T : Tab) (k j0 : Nat) (c1 a2 b3 d4 m9 : AV) (h : Heap) : m3_ T k (j0 + 1) c1 a2 b3 d4 m9 h =
 oa (binV .lss .scalar m9 (.int .i64 5)) fun t20_1 =>
 cond2 t20_1
 (
 oa (fldA 0 d4) fun t45_2 =>
 oa (ld1 h t45_2) fun t46_3 =>
 oa (idxS 5 t46_3 a2) fun t49_4 =>
 oa (idxA 5 1 t49_4 m9) fun t50_5 =>
 oa (ld1 h t50_5) fun t51_6 =>
 oa (idxS 1 c1 t51_6) fun t52_7 =>
 oa (ld1 h t52_7) fun t53_8 =>
 oa (fldA 0 d4) fun t55_9 =>
 oa (ld1 h t55_9) fun t56_10 =>
 oa (idxS 5 t56_10 b3) fun t59_11 =>
 oa (idxA 5 1 t59_11 m9) fun t60_12 =>
 oa (ld1 h t60_12) fun t61_13 =>
 oa (idxS 1 c1 t61_13) fun t62_14 =>
 oa (ld1 h t62_14) fun t63_15 =>
 oa (binV .neq .scalar t53_8 t63_15) fun t64_16 =>
 cond2 t64_16
 (
 some ((.bool false), h)
 )
 (
 oa (binV .add .scalar m9 (.int .i64 1)) fun t22_17 =>
 m3_ T k j0 c1 a2 b3 d4 t22_17 h
 )
 )
 (
 some ((.bool true), h)
 ) := loopEq (by kernel_rfl)
theorem a5R (T : Tab) (k : Nat) (d0 c1 a2 b3 : AV) (h : Heap) : runF T k t7_ [d0, c1, a2, b3] h =
 ob (newVar h (AV.cells d0)) fun d4_1 h_2 =>
 oa (idxS 1 c1 a2) fun t46_3 =>
 oa (ld1 h_2 t46_3) fun t47_4 =>
 oa (idxS 1 c1 b3) fun t50_5 =>
 oa (ld1 h_2 t50_5) fun t51_6 =>
 oa (binV .neq .scalar t47_4 t51_6) fun t52_7 =>
 cond2 t52_7
 (
 some ((.bool false), h_2)
 )
 (
 m3_ T k k c1 a2 b3 d4_1 (.int .i64 0) h_2
 ) := runEq (by kernel_rfl)
noncomputable def a2c : MCode := .block 1 (.seq [5, 6, 7] (.region [tS 5 (.mv (tT 1)), tS 6 (.bin .sub .scalar (tT 5) (tK 1)), tS 7 (.bin .quo .scalar (tT 6) (tK 2)), tS 4 (.mv (tT 7))]) (.seq [17] (.seq [8, 9, 10, 11, 12, 13, 14, 15, 16] (.region [tS 8 (.mv (tT 4)), tS 9 (.mv (tT 1)), tS 10 (.bin .eql .scalar (tT 8) (tT 9)), tS 11 (.mv (tT 10)), ⟨some 12, .op (.mv (tT 0)), some (11, false)⟩, ⟨some 13, .op (.mv (tT 1)), some (11, false)⟩, ⟨some 14, .op (.mv (tT 4)), some (11, false)⟩, ⟨some 15, .invoke "Less" (tT 12) [(tT 13), (tT 14)], some (11, false)⟩, ⟨some 16, .op (.un .not (tT 15)), some (11, false)⟩, tS 17 (.pick (tT 11) (.const (.bool true)) (tT 16))]) (.cond (tT 17) (.exit 0) .skip)) (.seq [1, 18, 19, 20, 21] (.region [tS 18 (.mv (tT 0)), tS 19 (.mv (tT 4)), tS 20 (.mv (tT 1)), ⟨some 21, .invoke "Swap" (tT 18) [(tT 19), (tT 20)], none⟩]) (.region [tS 22 (.mv (tT 4)), tS 1 (.mv (tT 22))]))))
def a2d : Res := []
noncomputable def w3_ : MFn := ⟨23, a2d, .block 0 (.loop [4, 22] a2c)⟩
noncomputable def o2_ (T : Tab) (k j0 : Nat) (h0 j1 : AV) (h : Heap) : Option (AV × Heap) :=
  loopB T k a2d j0 [4, 22] a2c [.blk 0] [h0, j1, .u, .u, .u, .u, .u, .u, .u, .u, .u, .u, .u, .u, .u, .u, .u, .u, .u, .u, .u, .u, .u] h
theorem a0H (T : Tab) (k j0 : Nat) (h0 j1 : AV) (h : Heap) : o2_ T k (j0 + 1) h0 j1 h =
 oa (binV .sub .scalar j1 (.int .i64 1)) fun t6_1 =>
 oa (binV .quo .scalar t6_1 (.int .i64 2)) fun t7_2 =>
 oa (binV .eql .scalar t7_2 j1) fun t10_3 =>
 ob (gd t10_3 false (some (h0, h)) h) fun t12_4 h_5 =>
 ob (gd t10_3 false (some (j1, h_5)) h_5) fun t13_6 h_7 =>
 ob (gd t10_3 false (some (t7_2, h_7)) h_7) fun t14_8 h_9 =>
 ob (gd t10_3 false (callMeth T (evalFn T k) "Less" t12_4 [t13_6, t14_8] h_9) h_9) fun t15_10 h_11 =>
 ob (gd t10_3 false (pure1 h_11 (unV .not t15_10)) h_11) fun t16_12 h_13 =>
 oa (pickV t10_3 (.bool true) t16_12) fun t17_14 =>
 cond2 t17_14
 (
 some (.tup [], h_13)
 )
 (
 ob (callMeth T (evalFn T k) "Swap" h0 [t7_2, j1] h_13) fun t21_15 h_16 =>
 o2_ T k j0 h0 t7_2 h_16
 ) := loopEq (by kernel_rfl)
theorem a7j (T : Tab) (k : Nat) (h0 j1 : AV) (h : Heap) : runF T k w3_ [h0, j1] h =
 o2_ T k k h0 j1 h := runEq (by kernel_rfl)
noncomputable def a1d : MCode := .seq [39] (.seq [35, 36, 37, 38] (.region [tS 35 (.mv (tT 0)), tS 36 (.mv (tT 9)), tS 37 (.mv (tT 7)), ⟨some 38, .invoke "Less" (tT 35) [(tT 36), (tT 37)], none⟩, tS 39 (.un .not (tT 38))]) (.cond (tT 39) (.exit 0) .skip)) (.seq [7, 40, 41, 42, 43] (.region [tS 40 (.mv (tT 0)), tS 41 (.mv (tT 7)), tS 42 (.mv (tT 9)), ⟨some 43, .invoke "Swap" (tT 40) [(tT 41), (tT 42)], none⟩]) (.region [tS 44 (.mv (tT 9)), tS 7 (.mv (tT 44))]))
noncomputable def t8_ : MCode := .block 1 (.seq [12, 13, 14] (.region [tS 12 (.mv (tT 7)), tS 13 (.bin .mul .scalar (tK 2) (tT 12)), tS 14 (.bin .add .scalar (tT 13) (tK 1)), tS 8 (.mv (tT 14))]) (.seq [21] (.seq [15, 16, 17, 18, 19, 20] (.region [tS 15 (.mv (tT 8)), tS 16 (.mv (tT 2)), tS 17 (.bin .geq .scalar (tT 15) (tT 16)), tS 18 (.mv (tT 17)), ⟨some 19, .op (.mv (tT 8)), some (18, false)⟩, ⟨some 20, .op (.bin .lss .scalar (tT 19) (tK 0)), some (18, false)⟩, tS 21 (.pick (tT 18) (.const (.bool true)) (tT 20))]) (.cond (tT 21) (.exit 0) .skip)) (.seq [22] (.region [tS 22 (.mv (tT 8)), tS 9 (.mv (tT 22))]) (.seq [10, 33, 34] (.seq [23, 24] (.region [tS 23 (.mv (tT 8)), tS 24 (.bin .add .scalar (tT 23) (tK 1)), tS 10 (.mv (tT 24))]) (.seq [8, 25, 26, 27, 28, 29, 30, 31, 32] (.region [tS 25 (.mv (tT 10)), tS 26 (.mv (tT 2)), tS 27 (.bin .lss .scalar (tT 25) (tT 26)), tS 28 (.mv (tT 27)), ⟨some 29, .op (.mv (tT 0)), some (28, true)⟩, ⟨some 30, .op (.mv (tT 10)), some (28, true)⟩, ⟨some 31, .op (.mv (tT 8)), some (28, true)⟩, ⟨some 32, .invoke "Less" (tT 29) [(tT 30), (tT 31)], some (28, true)⟩, tS 33 (.pick (tT 28) (tT 32) (.const (.bool false)))]) (.cond (tT 33) (.region [tS 34 (.mv (tT 10)), tS 9 (.mv (tT 34))]) .skip))) (.lab a1d)))))
noncomputable def m4_ : MCode := .seq [1, 7, 45, 46, 47] (.region [tS 45 (.mv (tT 7)), tS 46 (.mv (tT 1)), tS 47 (.bin .gtr .scalar (tT 45) (tT 46)), tS 6 (.mv (tT 47))]) .ret
def m5_ : Res := [(6, none)]
noncomputable def t9_ : MFn := ⟨48, m5_, .seq [6] (.region [tS 6 (.mv (.const (.bool false)))]) (.seq [11] (.region [tS 11 (.mv (tT 1)), tS 7 (.mv (tT 11))]) (.seq [0, 2, 8, 9, 21, 39] (.block 0 (.loop [9, 44] t8_)) (.lab m4_)))⟩
noncomputable def g3_ (T : Tab) (k j0 : Nat) (h0 i01 n2 i7 : AV) (h : Heap) : Option (AV × Heap) :=
  loopB T k m5_ j0 [9, 44] t8_ [.blk 0, .seq [0, 2, 8, 9, 21, 39] (.lab m4_)] [h0, i01, n2, .u, .u, .u, .u, i7, .u, .u, .u, .u, .u, .u, .u, .u, .u, .u, .u, .u, .u, .u, .u, .u, .u, .u, .u, .u, .u, .u, .u, .u, .u, .u, .u, .u, .u, .u, .u, .u, .u, .u, .u, .u, .u, .u, .u, .u] h
noncomputable def g4_ (T : Tab) (k : Nat) (i01 i7 : AV) (h : Heap) : Option (AV × Heap) :=
  evB T k m5_ m4_ [] [.u, i01, .u, .u, .u, .u, .u, i7, .u, .u, .u, .u, .u, .u, .u, .u, .u, .u, .u, .u, .u, .u, .u, .u, .u, .u, .u, .u, .u, .u, .u, .u, .u, .u, .u, .u, .u, .u, .u, .u, .u, .u, .u, .u, .u, .u, .u, .u] h
noncomputable def g5_ (T : Tab) (k j0 : Nat) (h0 i01 n2 i7 j9 : AV) (h : Heap) : Option (AV × Heap) :=
  evB T k m5_ a1d [.blk 1, .lp j0 [9, 44] t8_, .blk 0, .seq [0, 2, 8, 9, 21, 39] (.lab m4_)] [h0, i01, n2, .u, .u, .u, .u, i7, .u, j9, .u, .u, .u, .u, .u, .u, .u, .u, .u, .u, .u, .u, .u, .u, .u, .u, .u, .u, .u, .u, .u, .u, .u, .u, .u, .u, .u, .u, .u, .u, .u, .u, .u, .u, .u, .u, .u, .u] h
theorem a0f (T : Tab) (k : Nat) (i01 i7 : AV) (h : Heap) : g4_ T k i01 i7 h =
 oa (binV .gtr .scalar i7 i01) fun t47_1 =>
 some (t47_1, h) := blockEq (by kernel_rfl)
theorem a0g (T : Tab) (k j0 : Nat) (h0 i01 n2 i7 j9 : AV) (h : Heap) : g5_ T k j0 h0 i01 n2 i7 j9 h =
 ob (callMeth T (evalFn T k) "Less" h0 [j9, i7] h) fun t38_1 h_2 =>
 oa (unV .not t38_1) fun t39_3 =>
 cond2 t39_3
 (
 g4_ T k i01 i7 h_2
 )
 (
 ob (callMeth T (evalFn T k) "Swap" h0 [i7, j9] h_2) fun t43_4 h_5 =>
 g3_ T k j0 h0 i01 n2 j9 h_5
 ) := blockEq (by kernel_rfl)
theorem o3_ (T : Tab) (k j0 : Nat) (h0 i01 n2 i7 : AV) (h : Heap) : g3_ T k (j0 + 1) h0 i01 n2 i7 h =
 oa (binV .mul .scalar (.int .i64 2) i7) fun t13_1 =>
 oa (binV .add .scalar t13_1 (.int .i64 1)) fun t14_2 =>
 oa (binV .geq .scalar t14_2 n2) fun t17_3 =>
 ob (gd t17_3 false (some (t14_2, h)) h) fun t19_4 h_5 =>
 ob (gd t17_3 false (pure1 h_5 (binV .lss .scalar t19_4 (.int .i64 0))) h_5) fun t20_6 h_7 =>
 oa (pickV t17_3 (.bool true) t20_6) fun t21_8 =>
 cond2 t21_8
 (
 g4_ T k i01 i7 h_7
 )
 (
 oa (binV .add .scalar t14_2 (.int .i64 1)) fun t24_9 =>
 oa (binV .lss .scalar t24_9 n2) fun t27_10 =>
 ob (gd t27_10 true (some (h0, h_7)) h_7) fun t29_11 h_12 =>
 ob (gd t27_10 true (some (t24_9, h_12)) h_12) fun t30_13 h_14 =>
 ob (gd t27_10 true (some (t14_2, h_14)) h_14) fun t31_15 h_16 =>
 ob (gd t27_10 true (callMeth T (evalFn T k) "Less" t29_11 [t30_13, t31_15] h_16) h_16) fun t32_17 h_18 =>
 oa (pickV t27_10 t32_17 (.bool false)) fun t33_19 =>
 cond2 t33_19
 (
 g5_ T k j0 h0 i01 n2 i7 t24_9 h_18
 )
 (
 g5_ T k j0 h0 i01 n2 i7 t14_2 h_18
 )
 ) := loopEq (by kernel_rfl)
theorem a1e (T : Tab) (k : Nat) (h0 i01 n2 : AV) (h : Heap) : runF T k t9_ [h0, i01, n2] h =
 g3_ T k k h0 i01 n2 i01 h := runEq (by kernel_rfl)
def a7k : Res := [(4, none)]
noncomputable def w4_ : MFn := ⟨20, a7k, .seq [0, 1, 4] (.region [tS 2 (.box (tT 0)), tS 3 (.box (tT 1)), tS 4 (.mv (.const (.bool false)))]) (.seq [9] (.seq [5, 6, 7, 8] (.region [tS 5 (.fieldAddr 1 (tT 2)), tS 6 (.load none (tT 5)), tS 7 (.fieldAddr 1 (tT 3)), tS 8 (.load none (tT 7)), tS 9 (.bin .neq .scalar (tT 6) (tT 8))]) (.cond (tT 9) (.seq [2, 3, 9, 10, 11, 12, 13, 14] (.region [tS 10 (.fieldAddr 1 (tT 2)), tS 11 (.load none (tT 10)), tS 12 (.fieldAddr 1 (tT 3)), tS 13 (.load none (tT 12)), tS 14 (.bin .lss .scalar (tT 11) (tT 13)), tS 4 (.mv (tT 14))]) .ret) .skip)) (.seq [2, 3, 15, 16, 17, 18, 19] (.region [tS 15 (.fieldAddr 0 (tT 2)), tS 16 (.load none (tT 15)), tS 17 (.fieldAddr 0 (tT 3)), tS 18 (.load none (tT 17)), tS 19 (.bin .lss .scalar (tT 16) (tT 18)), tS 4 (.mv (tT 19))]) .ret))⟩
theorem a7l (T : Tab) (k : Nat) (x0 y1 : AV) (h : Heap) : runF T k w4_ [x0, y1] h =
 ob (newVar h (AV.cells x0)) fun x2_1 h_2 =>
 ob (newVar h_2 (AV.cells y1)) fun y3_3 h_4 =>
 oa (fldA 1 x2_1) fun t5_5 =>
 oa (ld1 h_4 t5_5) fun t6_6 =>
 oa (fldA 1 y3_3) fun t7_7 =>
 oa (ld1 h_4 t7_7) fun t8_8 =>
 oa (binV .neq .scalar t6_6 t8_8) fun t9_9 =>
 cond2 t9_9
 (
 oa (fldA 1 x2_1) fun t10_10 =>
 oa (ld1 h_4 t10_10) fun t11_11 =>
 oa (fldA 1 y3_3) fun t12_12 =>
 oa (ld1 h_4 t12_12) fun t13_13 =>
 oa (binV .lss .scalar t11_11 t13_13) fun t14_14 =>
 some (t14_14, h_4)
 )
 (
 oa (fldA 0 x2_1) fun t15_15 =>
 oa (ld1 h_4 t15_15) fun t16_16 =>
 oa (fldA 0 y3_3) fun t17_17 =>
 oa (ld1 h_4 t17_17) fun t18_18 =>
 oa (binV .lss .scalar t16_16 t18_18) fun t19_19 =>
 some (t19_19, h_4)
 ) := runEq (by kernel_rfl)
def a7m : Res := [(6, none)]
noncomputable def w5_ : MFn := ⟨24, a7m, .seq [6] (.region [tS 6 (.mv (.const (.bool false)))]) (.seq [] (.region [tS 7 (.mv (.const (.fn k4_ [] [])))]) (.seq [0, 1, 2, 7, 8, 9, 10, 11, 12, 13, 14, 15, 16, 17, 18, 19, 20, 21, 22, 23] (.regionD 24 [tD 0 24 (.mv (tT 7)), tD 1 25 (.mv (tT 0)), tD 2 26 (.nilCheck (tT 25)), tD 3 27 (.fieldAddr 0 (tT 26)), tD 4 28 (.load none (tT 27)), tD 5 29 (.mv (tT 1)), tD 6 30 (.idxSl 2 (tT 28) (tT 29)), tD 7 31 (.load (some 2) (tT 30)), tD 8 32 (.mv (tT 0)), tD 9 33 (.nilCheck (tT 32)), tD 10 34 (.fieldAddr 0 (tT 33)), tD 11 35 (.load none (tT 34)), tD 12 36 (.mv (tT 2)), tD 13 37 (.idxSl 2 (tT 35) (tT 36)), tD 14 38 (.load (some 2) (tT 37)), ⟨15, ⟨some 39, .callV (tT 24) [(tT 31), (tT 38)], none⟩, []⟩, tD 16 40 (.mv (tT 39))] [(8, 24), (9, 25), (10, 26), (11, 27), (12, 28), (13, 29), (14, 30), (15, 31), (16, 32), (17, 33), (18, 34), (19, 35), (20, 36), (21, 37), (22, 38), (23, 39), (6, 40)]) .ret))⟩
theorem a7n (T : Tab) (k : Nat) (h0 i1 j2 : AV) (h : Heap) : runF T k w5_ [h0, i1, j2] h =
 oa (nilCk h0) fun t26_1 =>
 oa (fldA 0 t26_1) fun t27_2 =>
 oa (ld1 h t27_2) fun t28_3 =>
 oa (idxS 2 t28_3 i1) fun t30_4 =>
 oa (ldN 2 h t30_4) fun t31_5 =>
 oa (nilCk h0) fun t33_6 =>
 oa (fldA 0 t33_6) fun t34_7 =>
 oa (ld1 h t34_7) fun t35_8 =>
 oa (idxS 2 t35_8 j2) fun t37_9 =>
 oa (ldN 2 h t37_9) fun t38_10 =>
 ob (callVal (evalFn T k) (.fn k4_ [] []) [t31_5, t38_10] h) fun t39_11 h_12 =>
 some (t39_11, h_12) := runEq (by kernel_rfl)
def a7S : Res := [(2, none)]
noncomputable def x9_ : MFn := ⟨36, a7S, .seq [2] (.region [tS 2 (.mv (.const .nilifc))]) (.seq [5, 6, 7, 8, 9, 10] (.region [tS 5 (.mv (tT 0)), tS 6 (.nilCheck (tT 5)), tS 7 (.fieldAddr 0 (tT 6)), tS 8 (.load none (tT 7)), tS 9 (.lenSl (tT 8)), tS 10 (.bin .sub .scalar (tT 9) (tK 1)), tS 3 (.mv (tT 10))]) (.seq [11, 12, 13, 14, 15, 16, 17] (.region [tS 11 (.mv (tT 0)), tS 12 (.nilCheck (tT 11)), tS 13 (.fieldAddr 0 (tT 12)), tS 14 (.load none (tT 13)), tS 15 (.mv (tT 3)), tS 16 (.idxSl 2 (tT 14) (tT 15)), tS 17 (.load (some 2) (tT 16)), tS 4 (.alloc [.int .i64 0, .int .i64 0]), ⟨none, .op (.store 2 (tT 4) (tT 17)), none⟩]) (.seq [3, 18, 19, 20, 21, 22, 23, 24, 25, 26] (.region [tS 18 (.mv (tT 0)), tS 19 (.mv (tT 0)), tS 20 (.nilCheck (tT 19)), tS 21 (.fieldAddr 0 (tT 20)), tS 22 (.load none (tT 21)), tS 23 (.mv (tT 3)), tS 24 (.sliceSl 2 (tT 22) none (some (tT 23)) none), tS 25 (.nilCheck (tT 18)), tS 26 (.fieldAddr 0 (tT 25)), ⟨none, .op (.store 1 (tT 26) (tT 24)), none⟩]) (.seq [0, 27, 28, 29, 30, 31, 32, 33] (.regionD 36 [tD 0 36 (.mv (tT 0)), tD 1 37 (.nilCheck (tT 36)), tD 2 38 (.fieldAddr 1 (tT 37)), tD 3 39 (.load none (tT 38)), tD 4 40 (.fieldAddr 0 (tT 4)), tD 5 41 (.load none (tT 40)), tD 6 42 (.idxSl 1 (tT 39) (tT 41)), tD 7 43 (.store 1 (tT 42) (tK (-1)))] [(27, 36), (28, 37), (29, 38), (30, 39), (31, 40), (32, 41), (33, 42)]) (.seq [4, 34, 35] (.region [tS 34 (.load (some 2) (tT 4)), tS 35 (.mkIfc 113 (tT 34)), tS 2 (.mv (tT 35))]) .ret)))))⟩
theorem a7T (T : Tab) (k : Nat) (h0 : AV) (h : Heap) : runF T k x9_ [h0] h =
 oa (nilCk h0) fun t6_1 =>
 oa (fldA 0 t6_1) fun t7_2 =>
 oa (ld1 h t7_2) fun t8_3 =>
 oa (lenS t8_3) fun t9_4 =>
 oa (binV .sub .scalar t9_4 (.int .i64 1)) fun t10_5 =>
 oa (nilCk h0) fun t12_6 =>
 oa (fldA 0 t12_6) fun t13_7 =>
 oa (ld1 h t13_7) fun t14_8 =>
 oa (idxS 2 t14_8 t10_5) fun t16_9 =>
 oa (ldN 2 h t16_9) fun t17_10 =>
 ob (newVar h [.int .i64 0, .int .i64 0]) fun x4_11 h_12 =>
 oh (stN 2 h_12 x4_11 t17_10) fun h_13 =>
 oa (nilCk h0) fun t20_14 =>
 oa (fldA 0 t20_14) fun t21_15 =>
 oa (ld1 h_13 t21_15) fun t22_16 =>
 oa (slSl 2 t22_16 none (some t10_5) none) fun t24_17 =>
 oa (nilCk h0) fun t25_18 =>
 oa (fldA 0 t25_18) fun t26_19 =>
 oh (stN 1 h_13 t26_19 t24_17) fun h_20 =>
 oa (nilCk h0) fun t37_21 =>
 oa (fldA 1 t37_21) fun t38_22 =>
 oa (ld1 h_20 t38_22) fun t39_23 =>
 oa (fldA 0 x4_11) fun t40_24 =>
 oa (ld1 h_20 t40_24) fun t41_25 =>
 oa (idxS 1 t39_23 t41_25) fun t42_26 =>
 oh (stN 1 h_20 t42_26 (.int .i64 (-1))) fun h_27 =>
 oa (ldN 2 h_27 x4_11) fun t34_28 =>
 some ((.ifc 113 t34_28), h_27) := runEq (by kernel_rfl)
def a7o : Res := []
noncomputable def w6_ : MFn := ⟨34, a7o, .seq [1, 6, 7, 8, 9, 10] (.region [tS 7 (.mv (tT 1)), tS 8 (.typeAssert 113 (.agg [.int .i64 0, .int .i64 0]) true (tT 7)), tS 6 (.mv (tT 8)), tS 9 (.extract 0 (tT 6)), tS 10 (.extract 1 (tT 6)), tS 4 (.alloc [.int .i64 0, .int .i64 0]), ⟨none, .op (.store 2 (tT 4) (tT 9)), none⟩, tS 5 (.mv (tT 10))]) (.seq [5] (.region [tS 11 (.mv (tT 5))]) (.cond (tT 11) (.seq [11, 12, 13, 14, 15, 16, 17, 18, 19, 20, 21, 22, 23] (.regionD 34 [tD 0 34 (.mv (tT 0)), tD 1 35 (.nilCheck (tT 34)), tD 2 36 (.fieldAddr 1 (tT 35)), tD 3 37 (.load none (tT 36)), tD 4 38 (.fieldAddr 0 (tT 4)), tD 5 39 (.load none (tT 38)), tD 6 40 (.mv (tT 0)), tD 7 41 (.nilCheck (tT 40)), tD 8 42 (.fieldAddr 0 (tT 41)), tD 9 43 (.load none (tT 42)), tD 10 44 (.lenSl (tT 43)), tD 11 45 (.idxSl 1 (tT 37) (tT 39)), tD 12 46 (.store 1 (tT 45) (tT 44))] [(12, 34), (13, 35), (14, 36), (15, 37), (16, 38), (17, 39), (18, 40), (19, 41), (20, 42), (21, 43), (22, 44), (23, 45)]) (.regionD 34 [tD 0 34 (.mv (tT 0)), tD 1 35 (.mv (tT 0)), tD 2 36 (.nilCheck (tT 35)), tD 3 37 (.fieldAddr 0 (tT 36)), tD 4 38 (.load none (tT 37)), tD 5 39 (.load (some 2) (tT 4)), tD 6 40 (.buildSlice 2 1 [.int .i64 0, .int .i64 0] [(0, 2, (tT 39))]), tD 7 41 (.append 2 16 (tT 38) (tT 40)), tD 8 42 (.nilCheck (tT 34)), tD 9 43 (.fieldAddr 0 (tT 42)), tD 10 44 (.store 1 (tT 43) (tT 41))] [(24, 34), (25, 35), (26, 36), (27, 37), (28, 38), (29, 39), (30, 40), (31, 41), (32, 42), (33, 43)])) .skip))⟩
theorem a7p (T : Tab) (k : Nat) (h0 x1 : AV) (h : Heap) : runF T k w6_ [h0, x1] h =
 oa (tAssert 113 (.agg [.int .i64 0, .int .i64 0]) true x1) fun t8_1 =>
 oa (extr 0 t8_1) fun t9_2 =>
 oa (extr 1 t8_1) fun t10_3 =>
 ob (newVar h [.int .i64 0, .int .i64 0]) fun y4_4 h_5 =>
 oh (stN 2 h_5 y4_4 t9_2) fun h_6 =>
 cond2 t10_3
 (
 oa (nilCk h0) fun t35_7 =>
 oa (fldA 1 t35_7) fun t36_8 =>
 oa (ld1 h_6 t36_8) fun t37_9 =>
 oa (fldA 0 y4_4) fun t38_10 =>
 oa (ld1 h_6 t38_10) fun t39_11 =>
 oa (nilCk h0) fun t41_12 =>
 oa (fldA 0 t41_12) fun t42_13 =>
 oa (ld1 h_6 t42_13) fun t43_14 =>
 oa (lenS t43_14) fun t44_15 =>
 oa (idxS 1 t37_9 t39_11) fun t45_16 =>
 oh (stN 1 h_6 t45_16 t44_15) fun h_17 =>
 oa (nilCk h0) fun t36_18 =>
 oa (fldA 0 t36_18) fun t37_19 =>
 oa (ld1 h_17 t37_19) fun t38_20 =>
 oa (ldN 2 h_17 y4_4) fun t39_21 =>
 ob (buildSl 2 1 [.int .i64 0, .int .i64 0] [(0, 2, t39_21)] h_17) fun t40_22 h_23 =>
 ob (apnd 2 16 t38_20 t40_22 h_23) fun t41_24 h_25 =>
 oa (nilCk h0) fun t42_26 =>
 oa (fldA 0 t42_26) fun t43_27 =>
 oh (stN 1 h_25 t43_27 t41_24) fun h_28 =>
 some (.tup [], h_28)
 )
 (
 some (.tup [], h_6)
 ) := runEq (by kernel_rfl)
def a7q : Res := []
noncomputable def w7_ : MFn := ⟨60, a7q, .seq [6, 7, 8, 9, 10, 11, 12, 13, 14, 15, 16, 17, 18, 19, 20, 21, 22, 23, 24, 25, 26, 27, 28, 29, 30, 31] (.regionD 60 [tD 0 60 (.mv (tT 0)), tD 1 61 (.nilCheck (tT 60)), tD 2 62 (.fieldAddr 0 (tT 61)), tD 3 63 (.load none (tT 62)), tD 4 64 (.mv (tT 1)), tD 5 65 (.mv (tT 0)), tD 6 66 (.nilCheck (tT 65)), tD 7 67 (.fieldAddr 0 (tT 66)), tD 8 68 (.load none (tT 67)), tD 9 69 (.mv (tT 2)), tD 10 70 (.mv (tT 0)), tD 11 71 (.nilCheck (tT 70)), tD 12 72 (.fieldAddr 0 (tT 71)), tD 13 73 (.load none (tT 72)), tD 14 74 (.mv (tT 2)), tD 15 75 (.idxSl 2 (tT 73) (tT 74)), tD 16 76 (.load (some 2) (tT 75)), tD 17 77 (.mv (tT 0)), tD 18 78 (.nilCheck (tT 77)), tD 19 79 (.fieldAddr 0 (tT 78)), tD 20 80 (.load none (tT 79)), tD 21 81 (.mv (tT 1)), tD 22 82 (.idxSl 2 (tT 80) (tT 81)), tD 23 83 (.load (some 2) (tT 82)), tD 24 84 (.idxSl 2 (tT 63) (tT 64)), tD 25 85 (.store 2 (tT 84) (tT 76)), tD 26 86 (.idxSl 2 (tT 68) (tT 69)), tD 27 87 (.store 2 (tT 86) (tT 83))] [(6, 60), (7, 61), (8, 62), (9, 63), (10, 64), (11, 65), (12, 66), (13, 67), (14, 68), (15, 69), (16, 70), (17, 71), (18, 72), (19, 73), (20, 74), (21, 75), (22, 76), (23, 77), (24, 78), (25, 79), (26, 80), (27, 81), (28, 82), (29, 83), (30, 84), (31, 86)]) (.regionD 60 [tD 0 60 (.mv (tT 0)), tD 1 61 (.nilCheck (tT 60)), tD 2 62 (.fieldAddr 1 (tT 61)), tD 3 63 (.load none (tT 62)), tD 4 64 (.mv (tT 0)), tD 5 65 (.nilCheck (tT 64)), tD 6 66 (.fieldAddr 0 (tT 65)), tD 7 67 (.load none (tT 66)), tD 8 68 (.mv (tT 1)), tD 9 69 (.idxSl 2 (tT 67) (tT 68)), tD 10 70 (.fieldAddr 0 (tT 69)), tD 11 71 (.load none (tT 70)), tD 12 72 (.mv (tT 0)), tD 13 73 (.nilCheck (tT 72)), tD 14 74 (.fieldAddr 1 (tT 73)), tD 15 75 (.load none (tT 74)), tD 16 76 (.mv (tT 0)), tD 17 77 (.nilCheck (tT 76)), tD 18 78 (.fieldAddr 0 (tT 77)), tD 19 79 (.load none (tT 78)), tD 20 80 (.mv (tT 2)), tD 21 81 (.idxSl 2 (tT 79) (tT 80)), tD 22 82 (.fieldAddr 0 (tT 81)), tD 23 83 (.load none (tT 82)), tD 24 84 (.mv (tT 1)), tD 25 85 (.mv (tT 2)), tD 26 86 (.idxSl 1 (tT 63) (tT 71)), tD 27 87 (.store 1 (tT 86) (tT 84)), tD 28 88 (.idxSl 1 (tT 75) (tT 83)), tD 29 89 (.store 1 (tT 88) (tT 85))] [(32, 60), (33, 61), (34, 62), (35, 63), (36, 64), (37, 65), (38, 66), (39, 67), (40, 68), (41, 69), (42, 70), (43, 71), (44, 72), (45, 73), (46, 74), (47, 75), (48, 76), (49, 77), (50, 78), (51, 79), (52, 80), (53, 81), (54, 82), (55, 83), (56, 84), (57, 85), (58, 86), (59, 88)])⟩
theorem a7r (T : Tab) (k : Nat) (h0 i1 j2 : AV) (h : Heap) : runF T k w7_ [h0, i1, j2] h =
 oa (nilCk h0) fun t61_1 =>
 oa (fldA 0 t61_1) fun t62_2 =>
 oa (ld1 h t62_2) fun t63_3 =>
 oa (nilCk h0) fun t66_4 =>
 oa (fldA 0 t66_4) fun t67_5 =>
 oa (ld1 h t67_5) fun t68_6 =>
 oa (nilCk h0) fun t71_7 =>
 oa (fldA 0 t71_7) fun t72_8 =>
 oa (ld1 h t72_8) fun t73_9 =>
 oa (idxS 2 t73_9 j2) fun t75_10 =>
 oa (ldN 2 h t75_10) fun t76_11 =>
 oa (nilCk h0) fun t78_12 =>
 oa (fldA 0 t78_12) fun t79_13 =>
 oa (ld1 h t79_13) fun t80_14 =>
 oa (idxS 2 t80_14 i1) fun t82_15 =>
 oa (ldN 2 h t82_15) fun t83_16 =>
 oa (idxS 2 t63_3 i1) fun t84_17 =>
 oh (stN 2 h t84_17 t76_11) fun h_18 =>
 oa (idxS 2 t68_6 j2) fun t86_19 =>
 oh (stN 2 h_18 t86_19 t83_16) fun h_20 =>
 oa (nilCk h0) fun t61_21 =>
 oa (fldA 1 t61_21) fun t62_22 =>
 oa (ld1 h_20 t62_22) fun t63_23 =>
 oa (nilCk h0) fun t65_24 =>
 oa (fldA 0 t65_24) fun t66_25 =>
 oa (ld1 h_20 t66_25) fun t67_26 =>
 oa (idxS 2 t67_26 i1) fun t69_27 =>
 oa (fldA 0 t69_27) fun t70_28 =>
 oa (ld1 h_20 t70_28) fun t71_29 =>
 oa (nilCk h0) fun t73_30 =>
 oa (fldA 1 t73_30) fun t74_31 =>
 oa (ld1 h_20 t74_31) fun t75_32 =>
 oa (nilCk h0) fun t77_33 =>
 oa (fldA 0 t77_33) fun t78_34 =>
 oa (ld1 h_20 t78_34) fun t79_35 =>
 oa (idxS 2 t79_35 j2) fun t81_36 =>
 oa (fldA 0 t81_36) fun t82_37 =>
 oa (ld1 h_20 t82_37) fun t83_38 =>
 oa (idxS 1 t63_23 t71_29) fun t86_39 =>
 oh (stN 1 h_20 t86_39 i1) fun h_40 =>
 oa (idxS 1 t75_32 t83_38) fun t88_41 =>
 oh (stN 1 h_40 t88_41 j2) fun h_42 =>
 some (.tup [], h_42) := runEq (by kernel_rfl)
def a6F : Res := [(4, none)]
noncomputable def w0_ : MFn := ⟨23, a6F, .seq [4] (.region [tS 4 (.mv (tK 0))]) (.seq [15] (.seq [5, 6, 7, 8, 9, 10, 11, 12, 13, 14] (.region [tS 5 (.mv (tT 1)), tS 6 (.bin .lss .scalar (tT 5) (tK 0)), tS 7 (.mv (tT 6)), ⟨some 8, .op (.mv (tT 1)), some (7, false)⟩, ⟨some 9, .op (.mv (tT 0)), some (7, false)⟩, ⟨some 10, .op (.nilCheck (tT 9)), some (7, false)⟩, ⟨some 11, .op (.fieldAddr 1 (tT 10)), some (7, false)⟩, ⟨some 12, .op (.load none (tT 11)), some (7, false)⟩, ⟨some 13, .op (.lenSl (tT 12)), some (7, false)⟩, ⟨some 14, .op (.bin .geq .scalar (tT 8) (tT 13)), some (7, false)⟩, tS 15 (.pick (tT 7) (.const (.bool true)) (tT 14))]) (.cond (tT 15) (.seq [0, 1, 15] (.region [tS 4 (.mv (tK (-1)))]) .ret) .skip)) (.seq [0, 1, 16, 17, 18, 19, 20, 21, 22] (.region [tS 16 (.mv (tT 0)), tS 17 (.nilCheck (tT 16)), tS 18 (.fieldAddr 1 (tT 17)), tS 19 (.load none (tT 18)), tS 20 (.mv (tT 1)), tS 21 (.idxSl 1 (tT 19) (tT 20)), tS 22 (.load none (tT 21)), tS 4 (.mv (tT 22))]) .ret))⟩
theorem a6G (T : Tab) (k : Nat) (h0 id1 : AV) (h : Heap) : runF T k w0_ [h0, id1] h =
 oa (binV .lss .scalar id1 (.int .i64 0)) fun t6_1 =>
 ob (gd t6_1 false (some (id1, h)) h) fun t8_2 h_3 =>
 ob (gd t6_1 false (some (h0, h_3)) h_3) fun t9_4 h_5 =>
 ob (gd t6_1 false (pure1 h_5 (nilCk t9_4)) h_5) fun t10_6 h_7 =>
 ob (gd t6_1 false (pure1 h_7 (fldA 1 t10_6)) h_7) fun t11_8 h_9 =>
 ob (gd t6_1 false (pure1 h_9 (ld1 h_9 t11_8)) h_9) fun t12_10 h_11 =>
 ob (gd t6_1 false (pure1 h_11 (lenS t12_10)) h_11) fun t13_12 h_13 =>
 ob (gd t6_1 false (pure1 h_13 (binV .geq .scalar t8_2 t13_12)) h_13) fun t14_14 h_15 =>
 oa (pickV t6_1 (.bool true) t14_14) fun t15_16 =>
 cond2 t15_16
 (
 some ((.int .i64 (-1)), h_15)
 )
 (
 oa (nilCk h0) fun t17_17 =>
 oa (fldA 1 t17_17) fun t18_18 =>
 oa (ld1 h_15 t18_18) fun t19_19 =>
 oa (idxS 1 t19_19 id1) fun t21_20 =>
 oa (ld1 h_15 t21_20) fun t22_21 =>
 some (t22_21, h_15)
 ) := runEq (by kernel_rfl)
end Go.Gm.A9

