/- A part of the proof: an abstract machine, what it does, and what the functions of the program come to on it (GmA9, GmA9T, GmA9P). -/
import Derived.KernelRfl
import Derived.Test.YtidaobchfmnjpaaProg
import Derived.Test.YtidaobchfmnjpaaProductGreatP3
set_option linter.unusedVariables false
namespace Go.Gm.A9
open Go Go.Gm
noncomputable def product_search_step_b2 (T : Tab) (k : Nat) (id4 : AV) (h : Heap) : Option (AV × Heap) :=
  evB T k product_search_step_rs product_search_step_c2 [] [.undef, .undef, .undef, .undef, id4, .undef, .undef, .undef, .undef, .undef, .undef, .undef, .undef, .undef, .undef, .undef, .undef, .undef, .undef, .undef, .undef, .undef, .undef, .undef, .undef, .undef, .undef, .undef, .undef, .undef, .undef, .undef, .undef, .undef, .undef, .undef, .undef, .undef, .undef, .undef, .undef, .undef, .undef, .undef, .undef, .undef, .undef, .undef, .undef, .undef, .undef, .undef, .undef, .undef, .undef, .undef, .undef, .undef, .undef, .undef, .undef, .undef, .undef, .undef, .undef, .undef, .undef, .undef, .undef, .undef, .undef, .undef, .undef, .undef, .undef, .undef, .undef, .undef, .undef, .undef, .undef, .undef, .undef, .undef, .undef, .undef, .undef, .undef, .undef, .undef, .undef, .undef, .undef, .undef, .undef, .undef, .undef, .undef, .undef, .undef, .undef, .undef, .undef, .undef, .undef, .undef, .undef] h
theorem product_search_step_b2_eq (T : Tab) (k : Nat) (id4 : AV) (h : Heap) : product_search_step_b2 T k id4 h =
    some (.tup [id4, (.bool true)], h) := blockEq (by kernel_rfl)
theorem product_search_step_l1_eq (T : Tab) (k j0 : Nat) (s0 id4 key5 t46 t47 t48 : AV) (h : Heap) : product_search_step_l1 T k (j0 + 1) s0 id4 key5 t46 t47 t48 h =
    oa (binV .lss .scalar t48 t47) fun t49_1 =>
    cond2 t49_1
      (
      oa (idxS 3 t46 t48) fun t50_2 =>
      oa (ldN 3 h t50_2) fun t51_3 =>
      ob (newVar h [.int .i64 0, .int .i64 0, .int .i64 0]) fun h8_4 h_5 =>
      oh (stN 3 h_5 h8_4 t51_3) fun h_6 =>
      oa (nilCk s0) fun t108_7 =>
      oa (fldA 0 t108_7) fun t109_8 =>
      oa (ld1 h_6 t109_8) fun t110_9 =>
      oa (fldA 0 h8_4) fun t111_10 =>
      oa (ldN 2 h_6 t111_10) fun t112_11 =>
      ob (evalFn T k f_product_graph_id [t110_9, t112_11] h_6) fun t113_12 h_13 =>
      oa (nilCk s0) fun t108_14 =>
      oa (fldA 3 t108_14) fun t109_15 =>
      oa (ld1 h_13 t109_15) fun t110_16 =>
      oa (idxS 1 t110_16 t113_12) fun t112_17 =>
      oa (ld1 h_13 t112_17) fun t113_18 =>
      oa (binV .lss .scalar t113_18 (.int .i64 0)) fun t114_19 =>
      ob (gd t114_19 true (some (s0, h_13)) h_13) fun t116_20 h_21 =>
      ob (gd t114_19 true (pure1 h_21 (nilCk t116_20)) h_21) fun t117_22 h_23 =>
      ob (gd t114_19 true (pure1 h_23 (fldA 2 t117_22)) h_23) fun t118_24 h_25 =>
      ob (gd t114_19 true (pure1 h_25 (ld1 h_25 t118_24)) h_25) fun t119_26 h_27 =>
      ob (gd t114_19 true (some (t113_12, h_27)) h_27) fun t120_28 h_29 =>
      ob (gd t114_19 true (some (key5, h_29)) h_29) fun t121_30 h_31 =>
      ob (gd t114_19 true (some (s0, h_31)) h_31) fun t122_32 h_33 =>
      ob (gd t114_19 true (pure1 h_33 (nilCk t122_32)) h_33) fun t123_34 h_35 =>
      ob (gd t114_19 true (pure1 h_35 (fldA 0 t123_34)) h_35) fun t124_36 h_37 =>
      ob (gd t114_19 true (pure1 h_37 (ld1 h_37 t124_36)) h_37) fun t125_38 h_39 =>
      ob (gd t114_19 true (pure1 h_39 (nilCk t125_38)) h_39) fun t126_40 h_41 =>
      ob (gd t114_19 true (pure1 h_41 (fldA 0 t126_40)) h_41) fun t127_42 h_43 =>
      ob (gd t114_19 true (pure1 h_43 (fldA 1 t127_42)) h_43) fun t128_44 h_45 =>
      ob (gd t114_19 true (pure1 h_45 (ld1 h_45 t128_44)) h_45) fun t129_46 h_47 =>
      ob (gd t114_19 true (pure1 h_47 (fldA 2 h8_4)) h_47) fun t130_48 h_49 =>
      ob (gd t114_19 true (pure1 h_49 (ld1 h_49 t130_48)) h_49) fun t131_50 h_51 =>
      ob (gd t114_19 true (pure1 h_51 (idxS 4 t129_46 t131_50)) h_51) fun t132_52 h_53 =>
      ob (gd t114_19 true (pure1 h_53 (fldA 3 t132_52)) h_53) fun t133_54 h_55 =>
      ob (gd t114_19 true (pure1 h_55 (ld1 h_55 t133_54)) h_55) fun t134_56 h_57 =>
      ob (gd t114_19 true (pure1 h_57 (binV .add .scalar t121_30 t134_56)) h_57) fun t135_58 h_59 =>
      ob (gd t114_19 true (evalFn T k f_queue_Queue_Put [t119_26, t120_28, t135_58] h_59) h_59) fun t136_60 h_61 =>
      oa (pickV t114_19 t136_60 (.bool false)) fun t137_62 =>
      cond2 t137_62
        (
        oa (nilCk s0) fun t108_63 =>
        oa (fldA 4 t108_63) fun t109_64 =>
        oa (ld1 h_61 t109_64) fun t110_65 =>
        oa (nilCk s0) fun t113_66 =>
        oa (fldA 5 t113_66) fun t114_67 =>
        oa (ld1 h_61 t114_67) fun t115_68 =>
        oa (fldA 2 h8_4) fun t117_69 =>
        oa (ld1 h_61 t117_69) fun t118_70 =>
        oa (idxS 1 t110_65 t113_12) fun t120_71 =>
        oh (stN 1 h_61 t120_71 t118_70) fun h_72 =>
        oa (idxS 1 t115_68 t113_12) fun t122_73 =>
        oh (stN 1 h_72 t122_73 id4) fun h_74 =>
        oa (binV .add .scalar t48 (.int .i64 1)) fun t105_75 =>
        product_search_step_l1 T k j0 s0 id4 key5 t46 t47 t105_75 h_74
        )
        (
        oa (binV .add .scalar t48 (.int .i64 1)) fun t105_76 =>
        product_search_step_l1 T k j0 s0 id4 key5 t46 t47 t105_76 h_61
        )
      )
      (
      product_search_step_b2 T k id4 h
      ) := loopEq (by kernel_rfl)
theorem product_search_step_eq (T : Tab) (k : Nat) (s0 : AV) (h : Heap) : runF T k product_search_step_mf [s0] h =
    oa (nilCk s0) fun t12_1 =>
    oa (fldA 2 t12_1) fun t13_2 =>
    oa (ld1 h t13_2) fun t14_3 =>
    ob (evalFn T k f_queue_Queue_Pop [t14_3] h) fun t15_4 h_5 =>
    oa (extr 0 t15_4) fun t16_6 =>
    oa (extr 1 t15_4) fun t17_7 =>
    oa (extr 2 t15_4) fun t18_8 =>
    oa (unV .not t18_8) fun t20_9 =>
    cond2 t20_9
      (
      some (.tup [(.int .i64 0), (.bool false)], h_5)
      )
      (
      oa (nilCk s0) fun t22_10 =>
      oa (fldA 3 t22_10) fun t23_11 =>
      oa (ld1 h_5 t23_11) fun t24_12 =>
      oa (idxS 1 t24_12 t16_6) fun t29_13 =>
      oh (stN 1 h_5 t29_13 t17_7) fun h_14 =>
      oa (nilCk s0) fun t30_15 =>
      oa (fldA 6 t30_15) fun t31_16 =>
      oh (stN 1 h_14 t31_16 t17_7) fun h_17 =>
      oa (nilCk s0) fun t108_18 =>
      oa (fldA 1 t108_18) fun t109_19 =>
      oa (ld1 h_17 t109_19) fun t110_20 =>
      oa (nilCk s0) fun t112_21 =>
      oa (fldA 0 t112_21) fun t113_22 =>
      oa (ld1 h_17 t113_22) fun t114_23 =>
      oa (nilCk s0) fun t116_24 =>
      oa (fldA 0 t116_24) fun t117_25 =>
      oa (ld1 h_17 t117_25) fun t118_26 =>
      ob (evalFn T k f_product_graph_spot [t118_26, t16_6] h_17) fun t120_27 h_28 =>
      chk ((sameB (pure1 h_28 (ld1 h_28 t109_19)) t110_20 && (sameB (pure1 h_28 (ld1 h_28 t113_22)) t114_23 && true))) <|
      ob (callVal (evalFn T k) t110_20 [t114_23, t120_27] h_28) fun t121_29 h_30 =>
      oa (lenS t121_29) fun t122_31 =>
      product_search_step_l1 T k k s0 t16_6 t17_7 t121_29 t122_31 (.int .i64 0) h_30
      ) := runEq (by kernel_rfl)
def product_graph_spot_rs : Res := [(4, some (some 2))]
noncomputable def product_graph_spot_mf : MFn := ⟨22, product_graph_spot_rs, .seq [] (.region [⟨some 4, .op (.alloc [.int .i64 0, .int .i64 0]), none⟩]) (.seq [0, 1, 5, 6, 7, 8, 9, 10, 11, 12, 13, 14, 15, 16, 17, 18, 19, 20, 21] (.regionD 22 [⟨0, ⟨some 22, .op (.mv (.tmp 1)), none⟩, []⟩,
  ⟨1, ⟨some 23, .op (.mv (.tmp 0)), none⟩, []⟩,
  ⟨2, ⟨some 24, .op (.nilCheck (.tmp 23)), none⟩, []⟩,
  ⟨3, ⟨some 25, .op (.fieldAddr 3 (.tmp 24)), none⟩, []⟩,
  ⟨4, ⟨some 26, .op (.fieldAddr 0 (.tmp 25)), none⟩, []⟩,
  ⟨5, ⟨some 27, .op (.load none (.tmp 26)), none⟩, []⟩,
  ⟨6, ⟨some 28, .op (.lenSl (.tmp 27)), none⟩, []⟩,
  ⟨7, ⟨some 29, .op (.bin .quo .scalar (.tmp 22) (.tmp 28)), none⟩, []⟩,
  ⟨8, ⟨some 30, .op (.mv (.tmp 1)), none⟩, []⟩,
  ⟨9, ⟨some 31, .op (.mv (.tmp 0)), none⟩, []⟩,
  ⟨10, ⟨some 32, .op (.nilCheck (.tmp 31)), none⟩, []⟩,
  ⟨11, ⟨some 33, .op (.fieldAddr 3 (.tmp 32)), none⟩, []⟩,
  ⟨12, ⟨some 34, .op (.fieldAddr 0 (.tmp 33)), none⟩, []⟩,
  ⟨13, ⟨some 35, .op (.load none (.tmp 34)), none⟩, []⟩,
  ⟨14, ⟨some 36, .op (.lenSl (.tmp 35)), none⟩, []⟩,
  ⟨15, ⟨some 37, .op (.bin .rem .scalar (.tmp 30) (.tmp 36)), none⟩, []⟩,
  ⟨16, ⟨some 38, .op (.build [.int .i64 0, .int .i64 0] [(0, 1, (.tmp 29)), (1, 1, (.tmp 37))]), none⟩, []⟩,
  ⟨17, ⟨some 39, .op (.store 2 (.tmp 4) (.tmp 38)), none⟩, []⟩] [(5, 22), (6, 23), (7, 24), (8, 25), (9, 26), (10, 27), (11, 28), (12, 29), (13, 30), (14, 31), (15, 32), (16, 33), (17, 34), (18, 35), (19, 36), (20, 37), (21, 38)]) .ret)⟩
theorem product_graph_spot_eq (T : Tab) (k : Nat) (g0 id1 : AV) (h : Heap) : runF T k product_graph_spot_mf [g0, id1] h =
    ob (newVar h [.int .i64 0, .int .i64 0]) fun t4_1 h_2 =>
    oa (nilCk g0) fun t24_3 =>
    oa (fldA 3 t24_3) fun t25_4 =>
    oa (fldA 0 t25_4) fun t26_5 =>
    oa (ld1 h_2 t26_5) fun t27_6 =>
    oa (lenS t27_6) fun t28_7 =>
    oa (binV .quo .scalar id1 t28_7) fun t29_8 =>
    oa (nilCk g0) fun t32_9 =>
    oa (fldA 3 t32_9) fun t33_10 =>
    oa (fldA 0 t33_10) fun t34_11 =>
    oa (ld1 h_2 t34_11) fun t35_12 =>
    oa (lenS t35_12) fun t36_13 =>
    oa (binV .rem .scalar id1 t36_13) fun t37_14 =>
    oa (buildV [.int .i64 0, .int .i64 0] [(0, 1, t29_8), (1, 1, t37_14)]) fun t38_15 =>
    oh (stN 2 h_2 t4_1 t38_15) fun h_16 =>
    oa (ldN 2 h_16 t4_1) fun t4_17 =>
    some (t4_17, h_16) := runEq (by kernel_rfl)
def product_graph_id_rs : Res := [(4, none)]
noncomputable def product_graph_id_mf : MFn := ⟨17, product_graph_id_rs, .seq [1, 4] (.region [⟨some 3, .op (.box (.tmp 1)), none⟩,
  ⟨some 4, .op (.mv (.const (.int .i64 0))), none⟩]) (.seq [0, 3, 5, 6, 7, 8, 9, 10, 11, 12, 13, 14, 15, 16] (.regionD 17 [⟨0, ⟨some 17, .op (.fieldAddr 0 (.tmp 3)), none⟩, []⟩,
  ⟨1, ⟨some 18, .op (.load none (.tmp 17)), none⟩, []⟩,
  ⟨2, ⟨some 19, .op (.mv (.tmp 0)), none⟩, []⟩,
  ⟨3, ⟨some 20, .op (.nilCheck (.tmp 19)), none⟩, []⟩,
  ⟨4, ⟨some 21, .op (.fieldAddr 3 (.tmp 20)), none⟩, []⟩,
  ⟨5, ⟨some 22, .op (.fieldAddr 0 (.tmp 21)), none⟩, []⟩,
  ⟨6, ⟨some 23, .op (.load none (.tmp 22)), none⟩, []⟩,
  ⟨7, ⟨some 24, .op (.lenSl (.tmp 23)), none⟩, []⟩,
  ⟨8, ⟨some 25, .op (.bin .mul .scalar (.tmp 18) (.tmp 24)), none⟩, []⟩,
  ⟨9, ⟨some 26, .op (.fieldAddr 1 (.tmp 3)), none⟩, []⟩,
  ⟨10, ⟨some 27, .op (.load none (.tmp 26)), none⟩, []⟩,
  ⟨11, ⟨some 28, .op (.bin .add .scalar (.tmp 25) (.tmp 27)), none⟩, []⟩,
  ⟨12, ⟨some 29, .op (.mv (.tmp 28)), none⟩, []⟩] [(5, 17), (6, 18), (7, 19), (8, 20), (9, 21), (10, 22), (11, 23), (12, 24), (13, 25), (14, 26), (15, 27), (16, 28), (4, 29)]) .ret)⟩
theorem product_graph_id_eq (T : Tab) (k : Nat) (g0 x1 : AV) (h : Heap) : runF T k product_graph_id_mf [g0, x1] h =
    ob (newVar h (AV.cells x1)) fun x3_1 h_2 =>
    oa (fldA 0 x3_1) fun t17_3 =>
    oa (ld1 h_2 t17_3) fun t18_4 =>
    oa (nilCk g0) fun t20_5 =>
    oa (fldA 3 t20_5) fun t21_6 =>
    oa (fldA 0 t21_6) fun t22_7 =>
    oa (ld1 h_2 t22_7) fun t23_8 =>
    oa (lenS t23_8) fun t24_9 =>
    oa (binV .mul .scalar t18_4 t24_9) fun t25_10 =>
    oa (fldA 1 x3_1) fun t26_11 =>
    oa (ld1 h_2 t26_11) fun t27_12 =>
    oa (binV .add .scalar t25_10 t27_12) fun t28_13 =>
    some (t28_13, h_2) := runEq (by kernel_rfl)
noncomputable def milestoneref1_Walk_c1 : MCode := .seq [36] (.seq [33, 34, 35] (.region [⟨some 33, .op (.mv (.tmp 13)), none⟩,
  ⟨some 34, .op (.mv (.tmp 3)), none⟩,
  ⟨some 35, .op (.lenSl (.tmp 34)), none⟩,
  ⟨some 36, .op (.bin .lss .scalar (.tmp 33) (.tmp 35)), none⟩]) (.cond (.tmp 36) .skip (.exit 0))) (.seq [14, 81, 82, 83, 84, 85] (.block 1 (.seq [66] (.seq [1, 39, 40, 41, 42, 43, 44, 45, 46, 47, 48, 49, 50, 51, 52, 53, 54, 55, 56, 57, 58, 59, 60, 61, 62, 63, 64, 65] (.regionD 91 [⟨0, ⟨some 91, .op (.mv (.tmp 3)), none⟩, []⟩,
  ⟨1, ⟨some 92, .op (.mv (.tmp 13)), none⟩, []⟩,
  ⟨2, ⟨some 93, .op (.idxSl 1 (.tmp 91) (.tmp 92)), none⟩, []⟩,
  ⟨3, ⟨some 94, .op (.load none (.tmp 93)), none⟩, []⟩,
  ⟨4, ⟨some 95, .op (.bin .lss .scalar (.tmp 94) (.const (.int .i64 0))), none⟩, []⟩,
  ⟨5, ⟨some 96, .op (.mv (.tmp 95)), none⟩, []⟩,
  ⟨6, ⟨some 97, .op (.mv (.tmp 3)), some (96, false)⟩, []⟩,
  ⟨7, ⟨some 98, .op (.mv (.tmp 13)), some (96, false)⟩, []⟩,
  ⟨8, ⟨some 99, .op (.idxSl 1 (.tmp 97) (.tmp 98)), some (96, false)⟩, []⟩,
  ⟨9, ⟨some 100, .op (.load none (.tmp 99)), some (96, false)⟩, []⟩,
  ⟨10, ⟨some 101, .op (.fieldAddr 1 (.tmp 4)), some (96, false)⟩, []⟩,
  ⟨11, ⟨some 102, .op (.load none (.tmp 101)), some (96, false)⟩, []⟩,
  ⟨12, ⟨some 103, .op (.lenSl (.tmp 102)), some (96, false)⟩, []⟩,
  ⟨13, ⟨some 104, .op (.bin .geq .scalar (.tmp 100) (.tmp 103)), some (96, false)⟩, []⟩,
  ⟨14, ⟨some 105, .op (.pick (.tmp 96) (.const (.bool true)) (.tmp 104)), none⟩, []⟩,
  ⟨15, ⟨some 106, .op (.mv (.tmp 105)), none⟩, []⟩,
  ⟨16, ⟨some 107, .op (.fieldAddr 1 (.tmp 4)), some (106, false)⟩, []⟩,
  ⟨17, ⟨some 108, .op (.load none (.tmp 107)), some (106, false)⟩, []⟩,
  ⟨18, ⟨some 109, .op (.mv (.tmp 3)), some (106, false)⟩, []⟩,
  ⟨19, ⟨some 110, .op (.mv (.tmp 13)), some (106, false)⟩, []⟩,
  ⟨20, ⟨some 111, .op (.idxSl 1 (.tmp 109) (.tmp 110)), some (106, false)⟩, []⟩,
  ⟨21, ⟨some 112, .op (.load none (.tmp 111)), some (106, false)⟩, []⟩,
  ⟨22, ⟨some 113, .op (.idxSl 4 (.tmp 108) (.tmp 112)), some (106, false)⟩, []⟩,
  ⟨23, ⟨some 114, .op (.fieldAddr 0 (.tmp 113)), some (106, false)⟩, []⟩,
  ⟨24, ⟨some 115, .op (.load none (.tmp 114)), some (106, false)⟩, []⟩,
  ⟨25, ⟨some 116, .op (.mv (.tmp 1)), some (106, false)⟩, []⟩,
  ⟨26, ⟨some 117, .op (.bin .neq .scalar (.tmp 115) (.tmp 116)), some (106, false)⟩, []⟩,
  ⟨27, ⟨some 118, .op (.pick (.tmp 106) (.const (.bool true)) (.tmp 117)), none⟩, []⟩] [(39, 91), (40, 92), (41, 93), (42, 94), (43, 95), (44, 96), (45, 97), (46, 98), (47, 99), (48, 100), (49, 101), (50, 102), (51, 103), (52, 104), (53, 105), (54, 106), (55, 107), (56, 108), (57, 109), (58, 110), (59, 111), (60, 112), (61, 113), (62, 114), (63, 115), (64, 116), (65, 117), (66, 118)]) (.cond (.tmp 66) (.seq [2, 3, 4, 11, 12, 13, 66] (.region [⟨some 8, .op (.mv (.const (.int .i64 0))), none⟩,
  ⟨some 9, .op (.mv (.const .nils)), none⟩,
  ⟨some 10, .op (.mv (.const (.bool false))), none⟩]) .ret) .skip)) (.seq [67, 68, 69, 70, 71, 72, 73, 74] (.regionD 91 [⟨0, ⟨some 91, .op (.fieldAddr 1 (.tmp 4)), none⟩, []⟩,
  ⟨1, ⟨some 92, .op (.load none (.tmp 91)), none⟩, []⟩,
  ⟨2, ⟨some 93, .op (.mv (.tmp 3)), none⟩, []⟩,
  ⟨3, ⟨some 94, .op (.mv (.tmp 13)), none⟩, []⟩,
  ⟨4, ⟨some 95, .op (.idxSl 1 (.tmp 93) (.tmp 94)), none⟩, []⟩,
  ⟨5, ⟨some 96, .op (.load none (.tmp 95)), none⟩, []⟩,
  ⟨6, ⟨some 97, .op (.idxSl 4 (.tmp 92) (.tmp 96)), none⟩, []⟩,
  ⟨7, ⟨some 98, .op (.load (some 4) (.tmp 97)), none⟩, []⟩,
  ⟨8, ⟨some 99, .op (.alloc [.int .i64 0, .int .i64 0, .int .i64 0, .int .i64 0]), none⟩, []⟩,
  ⟨9, ⟨some 100, .op (.store 4 (.tmp 99) (.tmp 98)), none⟩, []⟩] [(67, 91), (68, 92), (69, 93), (70, 94), (71, 95), (72, 96), (73, 97), (74, 98), (14, 99)]) (.seq [75, 76, 77, 78, 79, 80] (.regionD 91 [⟨0, ⟨some 91, .op (.fieldAddr 1 (.tmp 14)), none⟩, []⟩,
  ⟨1, ⟨some 92, .op (.load none (.tmp 91)), none⟩, []⟩,
  ⟨2, ⟨some 93, .op (.mv (.tmp 11)), none⟩, []⟩,
  ⟨3, ⟨some 94, .op (.fieldAddr 3 (.tmp 14)), none⟩, []⟩,
  ⟨4, ⟨some 95, .op (.load none (.tmp 94)), none⟩, []⟩,
  ⟨5, ⟨some 96, .op (.bin .add .scalar (.tmp 93) (.tmp 95)), none⟩, []⟩,
  ⟨6, ⟨some 97, .op (.mv (.tmp 92)), none⟩, []⟩,
  ⟨7, ⟨some 98, .op (.mv (.tmp 96)), none⟩, []⟩] [(75, 91), (76, 92), (77, 93), (78, 94), (79, 95), (80, 96), (1, 97), (11, 98)]) (.region [⟨some 81, .op (.mv (.tmp 12)), none⟩,
  ⟨some 82, .op (.fieldAddr 2 (.tmp 14)), none⟩,
  ⟨some 83, .op (.load none (.tmp 82)), none⟩,
  ⟨some 84, .op (.buildSlice 1 1 [.int .i64 0] [(0, 1, (.tmp 83))]), none⟩,
  ⟨some 85, .op (.append 1 8 (.tmp 81) (.tmp 84)), none⟩,
  ⟨some 12, .op (.mv (.tmp 85)), none⟩]))))) (.region [⟨some 37, .op (.mv (.tmp 13)), none⟩,
  ⟨some 38, .op (.bin .add .scalar (.tmp 37) (.const (.int .i64 1))), none⟩,
  ⟨some 13, .op (.mv (.tmp 38)), none⟩]))
noncomputable def milestoneref1_Walk_c2 : MCode := .seq [88] (.seq [1, 2, 86, 87] (.region [⟨some 86, .op (.mv (.tmp 1)), none⟩,
  ⟨some 87, .op (.mv (.tmp 2)), none⟩,
  ⟨some 88, .op (.bin .neq .scalar (.tmp 86) (.tmp 87)), none⟩]) (.cond (.tmp 88) (.seq [11, 12, 88] (.region [⟨some 8, .op (.mv (.const (.int .i64 0))), none⟩,
  ⟨some 9, .op (.mv (.const .nils)), none⟩,
  ⟨some 10, .op (.mv (.const (.bool false))), none⟩]) .ret) .skip)) (.seq [11, 12, 89, 90] (.region [⟨some 89, .op (.mv (.tmp 11)), none⟩,
  ⟨some 90, .op (.mv (.tmp 12)), none⟩,
  ⟨some 8, .op (.mv (.tmp 89)), none⟩,
  ⟨some 9, .op (.mv (.tmp 90)), none⟩,
  ⟨some 10, .op (.mv (.const (.bool true))), none⟩]) .ret)
def milestoneref1_Walk_rs : Res := [(8, none), (9, none), (10, none)]
noncomputable def milestoneref1_Walk_mf : MFn := ⟨91, milestoneref1_Walk_rs, .seq [0, 8, 9, 10] (.region [⟨some 4, .op (.box (.tmp 0)), none⟩,
  ⟨some 8, .op (.mv (.const (.int .i64 0))), none⟩,
  ⟨some 9, .op (.mv (.const .nils)), none⟩,
  ⟨some 10, .op (.mv (.const (.bool false))), none⟩]) (.seq [32] (.seq [15, 16, 17, 18, 19, 20, 21, 22, 23, 24, 25, 26, 27, 28, 29, 30, 31] (.region [⟨some 15, .op (.mv (.tmp 1)), none⟩,
  ⟨some 16, .op (.bin .lss .scalar (.tmp 15) (.const (.int .i64 0))), none⟩,
  ⟨some 17, .op (.mv (.tmp 16)), none⟩,
  ⟨some 18, .op (.mv (.tmp 1)), some (17, false)⟩,
  ⟨some 19, .op (.fieldAddr 0 (.tmp 4)), some (17, false)⟩,
  ⟨some 20, .op (.load none (.tmp 19)), some (17, false)⟩,
  ⟨some 21, .op (.bin .geq .scalar (.tmp 18) (.tmp 20)), some (17, false)⟩,
  ⟨some 22, .op (.pick (.tmp 17) (.const (.bool true)) (.tmp 21)), none⟩,
  ⟨some 23, .op (.mv (.tmp 22)), none⟩,
  ⟨some 24, .op (.mv (.tmp 2)), some (23, false)⟩,
  ⟨some 25, .op (.bin .lss .scalar (.tmp 24) (.const (.int .i64 0))), some (23, false)⟩,
  ⟨some 26, .op (.pick (.tmp 23) (.const (.bool true)) (.tmp 25)), none⟩,
  ⟨some 27, .op (.mv (.tmp 26)), none⟩,
  ⟨some 28, .op (.mv (.tmp 2)), some (27, false)⟩,
  ⟨some 29, .op (.fieldAddr 0 (.tmp 4)), some (27, false)⟩,
  ⟨some 30, .op (.load none (.tmp 29)), some (27, false)⟩,
  ⟨some 31, .op (.bin .geq .scalar (.tmp 28) (.tmp 30)), some (27, false)⟩,
  ⟨some 32, .op (.pick (.tmp 27) (.const (.bool true)) (.tmp 31)), none⟩]) (.cond (.tmp 32) (.seq [1, 2, 3, 4, 32] (.region [⟨some 8, .op (.mv (.const (.int .i64 0))), none⟩,
  ⟨some 9, .op (.mv (.const .nils)), none⟩,
  ⟨some 10, .op (.mv (.const (.bool false))), none⟩]) .ret) .skip)) (.seq [] (.region [⟨some 11, .op (.mv (.const (.int .i64 0))), none⟩]) (.seq [] (.region [⟨some 12, .op (.mv (.const .nils)), none⟩]) (.seq [3, 4, 13, 36] (.seq [] (.region [⟨some 13, .op (.mv (.const (.int .i64 0))), none⟩]) (.block 0 (.loop [37, 38] milestoneref1_Walk_c1))) (.lab milestoneref1_Walk_c2)))))⟩
noncomputable def milestoneref1_Walk_l1 (T : Tab) (k j0 : Nat) (from1 to2 edges3 n4 cost11 word12 i13 : AV) (h : Heap) : Option (AV × Heap) :=
  loopB T k milestoneref1_Walk_rs j0 [37, 38] milestoneref1_Walk_c1 [.blk 0, .seq [3, 4, 13, 36] (.lab milestoneref1_Walk_c2)] [.undef, from1, to2, edges3, n4, .undef, .undef, .undef, .undef, .undef, .undef, cost11, word12, i13, .undef, .undef, .undef, .undef, .undef, .undef, .undef, .undef, .undef, .undef, .undef, .undef, .undef, .undef, .undef, .undef, .undef, .undef, .undef, .undef, .undef, .undef, .undef, .undef, .undef, .undef, .undef, .undef, .undef, .undef, .undef, .undef, .undef, .undef, .undef, .undef, .undef, .undef, .undef, .undef, .undef, .undef, .undef, .undef, .undef, .undef, .undef, .undef, .undef, .undef, .undef, .undef, .undef, .undef, .undef, .undef, .undef, .undef, .undef, .undef, .undef, .undef, .undef, .undef, .undef, .undef, .undef, .undef, .undef, .undef, .undef, .undef, .undef, .undef, .undef, .undef, .undef] h
noncomputable def milestoneref1_Walk_b2 (T : Tab) (k : Nat) (from1 to2 cost11 word12 : AV) (h : Heap) : Option (AV × Heap) :=
  evB T k milestoneref1_Walk_rs milestoneref1_Walk_c2 [] [.undef, from1, to2, .undef, .undef, .undef, .undef, .undef, .undef, .undef, .undef, cost11, word12, .undef, .undef, .undef, .undef, .undef, .undef, .undef, .undef, .undef, .undef, .undef, .undef, .undef, .undef, .undef, .undef, .undef, .undef, .undef, .undef, .undef, .undef, .undef, .undef, .undef, .undef, .undef, .undef, .undef, .undef, .undef, .undef, .undef, .undef, .undef, .undef, .undef, .undef, .undef, .undef, .undef, .undef, .undef, .undef, .undef, .undef, .undef, .undef, .undef, .undef, .undef, .undef, .undef, .undef, .undef, .undef, .undef, .undef, .undef, .undef, .undef, .undef, .undef, .undef, .undef, .undef, .undef, .undef, .undef, .undef, .undef, .undef, .undef, .undef, .undef, .undef, .undef, .undef] h
theorem milestoneref1_Walk_b2_eq (T : Tab) (k : Nat) (from1 to2 cost11 word12 : AV) (h : Heap) : milestoneref1_Walk_b2 T k from1 to2 cost11 word12 h =
    oa (binV .neq .scalar from1 to2) fun t88_1 =>
    cond2 t88_1
      (
      some (.tup [(.int .i64 0), .nils, (.bool false)], h)
      )
      (
      some (.tup [cost11, word12, (.bool true)], h)
      ) := blockEq (by kernel_rfl)
theorem milestoneref1_Walk_l1_eq (T : Tab) (k j0 : Nat) (from1 to2 edges3 n4 cost11 word12 i13 : AV) (h : Heap) : milestoneref1_Walk_l1 T k (j0 + 1) from1 to2 edges3 n4 cost11 word12 i13 h =
    oa (lenS edges3) fun t35_1 =>
    oa (binV .lss .scalar i13 t35_1) fun t36_2 =>
    cond2 t36_2
      (
      oa (idxS 1 edges3 i13) fun t93_3 =>
      oa (ld1 h t93_3) fun t94_4 =>
      oa (binV .lss .scalar t94_4 (.int .i64 0)) fun t95_5 =>
      ob (gd t95_5 false (some (edges3, h)) h) fun t97_6 h_7 =>
      ob (gd t95_5 false (some (i13, h_7)) h_7) fun t98_8 h_9 =>
      ob (gd t95_5 false (pure1 h_9 (idxS 1 t97_6 t98_8)) h_9) fun t99_10 h_11 =>
      ob (gd t95_5 false (pure1 h_11 (ld1 h_11 t99_10)) h_11) fun t100_12 h_13 =>
      ob (gd t95_5 false (pure1 h_13 (fldA 1 n4)) h_13) fun t101_14 h_15 =>
      ob (gd t95_5 false (pure1 h_15 (ld1 h_15 t101_14)) h_15) fun t102_16 h_17 =>
      ob (gd t95_5 false (pure1 h_17 (lenS t102_16)) h_17) fun t103_18 h_19 =>
      ob (gd t95_5 false (pure1 h_19 (binV .geq .scalar t100_12 t103_18)) h_19) fun t104_20 h_21 =>
      oa (pickV t95_5 (.bool true) t104_20) fun t105_22 =>
      ob (gd t105_22 false (pure1 h_21 (fldA 1 n4)) h_21) fun t107_23 h_24 =>
      ob (gd t105_22 false (pure1 h_24 (ld1 h_24 t107_23)) h_24) fun t108_25 h_26 =>
      ob (gd t105_22 false (some (edges3, h_26)) h_26) fun t109_27 h_28 =>
      ob (gd t105_22 false (some (i13, h_28)) h_28) fun t110_29 h_30 =>
      ob (gd t105_22 false (pure1 h_30 (idxS 1 t109_27 t110_29)) h_30) fun t111_31 h_32 =>
      ob (gd t105_22 false (pure1 h_32 (ld1 h_32 t111_31)) h_32) fun t112_33 h_34 =>
      ob (gd t105_22 false (pure1 h_34 (idxS 4 t108_25 t112_33)) h_34) fun t113_35 h_36 =>
      ob (gd t105_22 false (pure1 h_36 (fldA 0 t113_35)) h_36) fun t114_37 h_38 =>
      ob (gd t105_22 false (pure1 h_38 (ld1 h_38 t114_37)) h_38) fun t115_39 h_40 =>
      ob (gd t105_22 false (some (from1, h_40)) h_40) fun t116_41 h_42 =>
      ob (gd t105_22 false (pure1 h_42 (binV .neq .scalar t115_39 t116_41)) h_42) fun t117_43 h_44 =>
      oa (pickV t105_22 (.bool true) t117_43) fun t118_45 =>
      cond2 t118_45
        (
        some (.tup [(.int .i64 0), .nils, (.bool false)], h_44)
        )
        (
        oa (fldA 1 n4) fun t91_46 =>
        oa (ld1 h_44 t91_46) fun t92_47 =>
        oa (idxS 1 edges3 i13) fun t95_48 =>
        oa (ld1 h_44 t95_48) fun t96_49 =>
        oa (idxS 4 t92_47 t96_49) fun t97_50 =>
        oa (ldN 4 h_44 t97_50) fun t98_51 =>
        ob (newVar h_44 [.int .i64 0, .int .i64 0, .int .i64 0, .int .i64 0]) fun t99_52 h_53 =>
        oh (stN 4 h_53 t99_52 t98_51) fun h_54 =>
        oa (fldA 1 t99_52) fun t91_55 =>
        oa (ld1 h_54 t91_55) fun t92_56 =>
        oa (fldA 3 t99_52) fun t94_57 =>
        oa (ld1 h_54 t94_57) fun t95_58 =>
        oa (binV .add .scalar cost11 t95_58) fun t96_59 =>
        oa (fldA 2 t99_52) fun t82_60 =>
        oa (ld1 h_54 t82_60) fun t83_61 =>
        ob (buildSl 1 1 [.int .i64 0] [(0, 1, t83_61)] h_54) fun t84_62 h_63 =>
        ob (apnd 1 8 word12 t84_62 h_63) fun t85_64 h_65 =>
        oa (binV .add .scalar i13 (.int .i64 1)) fun t38_66 =>
        milestoneref1_Walk_l1 T k j0 t92_56 to2 edges3 n4 t96_59 t85_64 t38_66 h_65
        )
      )
      (
      milestoneref1_Walk_b2 T k from1 to2 cost11 word12 h
      ) := loopEq (by kernel_rfl)
theorem milestoneref1_Walk_eq (T : Tab) (k : Nat) (n0 from1 to2 edges3 : AV) (h : Heap) : runF T k milestoneref1_Walk_mf [n0, from1, to2, edges3] h =
    ob (newVar h (AV.cells n0)) fun n4_1 h_2 =>
    oa (binV .lss .scalar from1 (.int .i64 0)) fun t16_3 =>
    ob (gd t16_3 false (some (from1, h_2)) h_2) fun t18_4 h_5 =>
    ob (gd t16_3 false (pure1 h_5 (fldA 0 n4_1)) h_5) fun t19_6 h_7 =>
    ob (gd t16_3 false (pure1 h_7 (ld1 h_7 t19_6)) h_7) fun t20_8 h_9 =>
    ob (gd t16_3 false (pure1 h_9 (binV .geq .scalar t18_4 t20_8)) h_9) fun t21_10 h_11 =>
    oa (pickV t16_3 (.bool true) t21_10) fun t22_12 =>
    ob (gd t22_12 false (some (to2, h_11)) h_11) fun t24_13 h_14 =>
    ob (gd t22_12 false (pure1 h_14 (binV .lss .scalar t24_13 (.int .i64 0))) h_14) fun t25_15 h_16 =>
    oa (pickV t22_12 (.bool true) t25_15) fun t26_17 =>
    ob (gd t26_17 false (some (to2, h_16)) h_16) fun t28_18 h_19 =>
    ob (gd t26_17 false (pure1 h_19 (fldA 0 n4_1)) h_19) fun t29_20 h_21 =>
    ob (gd t26_17 false (pure1 h_21 (ld1 h_21 t29_20)) h_21) fun t30_22 h_23 =>
    ob (gd t26_17 false (pure1 h_23 (binV .geq .scalar t28_18 t30_22)) h_23) fun t31_24 h_25 =>
    oa (pickV t26_17 (.bool true) t31_24) fun t32_26 =>
    cond2 t32_26
      (
      some (.tup [(.int .i64 0), .nils, (.bool false)], h_25)
      )
      (
      milestoneref1_Walk_l1 T k k from1 to2 edges3 n4_1 (.int .i64 0) .nils (.int .i64 0) h_25
      ) := runEq (by kernel_rfl)
def milestoneref7_Run_rs : Res := [(4, none)]
noncomputable def milestoneref7_Run_mf : MFn := ⟨18, milestoneref7_Run_rs, .seq [0, 4] (.region [⟨some 2, .op (.box (.tmp 0)), none⟩,
  ⟨some 4, .op (.mv (.const (.bool false))), none⟩]) (.seq [1, 6, 7, 8] (.region [⟨some 6, .op (.load (some 2) (.tmp 2)), none⟩,
  ⟨some 7, .op (.mv (.tmp 1)), none⟩,
  ⟨some 8, .call f_milestoneref7_Go [(.tmp 6), (.const (.int .i64 0)), (.tmp 7)], none⟩,
  ⟨some 5, .op (.mv (.tmp 8)), none⟩]) (.seq [2, 5, 9, 10, 11, 12, 13, 14, 15, 16, 17] (.region [⟨some 9, .op (.mv (.tmp 5)), none⟩,
  ⟨some 10, .op (.bin .geq .scalar (.tmp 9) (.const (.int .i64 0))), none⟩,
  ⟨some 11, .op (.mv (.tmp 10)), none⟩,
  ⟨some 12, .op (.fieldAddr 1 (.tmp 2)), some (11, true)⟩,
  ⟨some 13, .op (.load none (.tmp 12)), some (11, true)⟩,
  ⟨some 14, .op (.mv (.tmp 5)), some (11, true)⟩,
  ⟨some 15, .op (.idxSl 1 (.tmp 13) (.tmp 14)), some (11, true)⟩,
  ⟨some 16, .op (.load none (.tmp 15)), some (11, true)⟩,
  ⟨some 17, .op (.pick (.tmp 11) (.tmp 16) (.const (.bool false))), none⟩,
  ⟨some 4, .op (.mv (.tmp 17)), none⟩]) .ret))⟩
theorem milestoneref7_Run_eq (T : Tab) (k : Nat) (d0 word1 : AV) (h : Heap) : runF T k milestoneref7_Run_mf [d0, word1] h =
    ob (newVar h (AV.cells d0)) fun d2_1 h_2 =>
    oa (ldN 2 h_2 d2_1) fun t6_3 =>
    ob (evalFn T k f_milestoneref7_Go [t6_3, (.int .i64 0), word1] h_2) fun t8_4 h_5 =>
    oa (binV .geq .scalar t8_4 (.int .i64 0)) fun t10_6 =>
    ob (gd t10_6 true (pure1 h_5 (fldA 1 d2_1)) h_5) fun t12_7 h_8 =>
    ob (gd t10_6 true (pure1 h_8 (ld1 h_8 t12_7)) h_8) fun t13_9 h_10 =>
    ob (gd t10_6 true (some (t8_4, h_10)) h_10) fun t14_11 h_12 =>
    ob (gd t10_6 true (pure1 h_12 (idxS 1 t13_9 t14_11)) h_12) fun t15_13 h_14 =>
    ob (gd t10_6 true (pure1 h_14 (ld1 h_14 t15_13)) h_14) fun t16_15 h_16 =>
    oa (pickV t10_6 t16_15 (.bool false)) fun t17_17 =>
    some (t17_17, h_16) := runEq (by kernel_rfl)
noncomputable def adj_New_c1 : MCode := .seq [] (.region [⟨some 29, .op (.bin .lss .scalar (.tmp 28) (.tmp 27)), none⟩]) (.seq [29] (.cond (.tmp 29) .skip (.exit 0)) (.seq [4, 5, 42, 54, 55, 56, 57, 58, 59, 60, 61, 62, 63, 64] (.block 1 (.seq [30, 31, 32] (.region [⟨some 30, .op (.mv (.tmp 28)), none⟩,
  ⟨some 31, .op (.idxSl 4 (.tmp 26) (.tmp 28)), none⟩,
  ⟨some 32, .op (.load (some 4) (.tmp 31)), none⟩,
  ⟨some 5, .op (.alloc [.int .i64 0, .int .i64 0, .int .i64 0, .int .i64 0]), none⟩,
  ⟨some 4, .op (.mv (.tmp 30)), none⟩,
  ⟨none, .op (.store 4 (.tmp 5) (.tmp 32)), none⟩]) (.seq [33, 34, 35, 36, 37, 38, 39, 40, 41] (.region [⟨some 33, .op (.mv (.tmp 3)), none⟩,
  ⟨some 34, .op (.fieldAddr 0 (.tmp 5)), none⟩,
  ⟨some 35, .op (.load none (.tmp 34)), none⟩,
  ⟨some 36, .call f_adj_Adj_is [(.tmp 33), (.tmp 35)], none⟩,
  ⟨some 37, .op (.mv (.tmp 36)), none⟩,
  ⟨some 38, .op (.mv (.tmp 3)), some (37, true)⟩,
  ⟨some 39, .op (.fieldAddr 1 (.tmp 5)), some (37, true)⟩,
  ⟨some 40, .op (.load none (.tmp 39)), some (37, true)⟩,
  ⟨some 41, .call f_adj_Adj_is [(.tmp 38), (.tmp 40)], some (37, true)⟩,
  ⟨some 42, .op (.pick (.tmp 37) (.tmp 41) (.const (.bool false))), none⟩]) (.cond (.tmp 42) (.seq [42, 43, 44, 45, 46, 47, 48, 49, 50, 51, 52, 53] (.regionD 67 [⟨0, ⟨some 67, .op (.mv (.tmp 3)), none⟩, []⟩,
  ⟨1, ⟨some 68, .op (.nilCheck (.tmp 67)), none⟩, []⟩,
  ⟨2, ⟨some 69, .op (.fieldAddr 2 (.tmp 68)), none⟩, []⟩,
  ⟨3, ⟨some 70, .op (.load none (.tmp 69)), none⟩, []⟩,
  ⟨4, ⟨some 71, .op (.fieldAddr 0 (.tmp 5)), none⟩, []⟩,
  ⟨5, ⟨some 72, .op (.load none (.tmp 71)), none⟩, []⟩,
  ⟨6, ⟨some 73, .op (.idxSl 2 (.tmp 70) (.tmp 72)), none⟩, []⟩,
  ⟨7, ⟨some 74, .op (.mv (.tmp 4)), none⟩, []⟩,
  ⟨8, ⟨some 75, .op (.fieldAddr 1 (.tmp 5)), none⟩, []⟩,
  ⟨9, ⟨some 76, .op (.load none (.tmp 75)), none⟩, []⟩,
  ⟨10, ⟨some 77, .call f_adj_ends_add [(.tmp 73), (.tmp 74), (.tmp 76)], none⟩, []⟩] [(43, 67), (44, 68), (45, 69), (46, 70), (47, 71), (48, 72), (49, 73), (50, 74), (51, 75), (52, 76), (53, 77)]) (.regionD 67 [⟨0, ⟨some 67, .op (.mv (.tmp 3)), none⟩, []⟩,
  ⟨1, ⟨some 68, .op (.nilCheck (.tmp 67)), none⟩, []⟩,
  ⟨2, ⟨some 69, .op (.fieldAddr 3 (.tmp 68)), none⟩, []⟩,
  ⟨3, ⟨some 70, .op (.load none (.tmp 69)), none⟩, []⟩,
  ⟨4, ⟨some 71, .op (.fieldAddr 1 (.tmp 5)), none⟩, []⟩,
  ⟨5, ⟨some 72, .op (.load none (.tmp 71)), none⟩, []⟩,
  ⟨6, ⟨some 73, .op (.idxSl 2 (.tmp 70) (.tmp 72)), none⟩, []⟩,
  ⟨7, ⟨some 74, .op (.mv (.tmp 4)), none⟩, []⟩,
  ⟨8, ⟨some 75, .op (.fieldAddr 0 (.tmp 5)), none⟩, []⟩,
  ⟨9, ⟨some 76, .op (.load none (.tmp 75)), none⟩, []⟩,
  ⟨10, ⟨some 77, .call f_adj_ends_add [(.tmp 73), (.tmp 74), (.tmp 76)], none⟩, []⟩] [(54, 67), (55, 68), (56, 69), (57, 70), (58, 71), (59, 72), (60, 73), (61, 74), (62, 75), (63, 76), (64, 77)])) .skip)))) (.region [⟨some 65, .op (.bin .add .scalar (.tmp 28) (.const (.int .i64 1))), none⟩,
  ⟨some 28, .op (.mv (.tmp 65)), none⟩])))
def adj_New_rs : Res := [(2, none)]
noncomputable def adj_New_mf : MFn := ⟨67, adj_New_rs, .seq [0, 2] (.region [⟨some 1, .op (.box (.tmp 0)), none⟩,
  ⟨some 2, .op (.mv (.const .nilp)), none⟩]) (.seq [6, 7, 8, 9, 10, 11, 12, 13, 14, 15] (.regionD 67 [⟨0, ⟨some 67, .op (.fieldAddr 0 (.tmp 1)), none⟩, []⟩,
  ⟨1, ⟨some 68, .op (.load none (.tmp 67)), none⟩, []⟩,
  ⟨2, ⟨some 69, .op (.mm true (.tmp 68) (.const (.int .i64 0))), none⟩, []⟩,
  ⟨3, ⟨some 70, .op (.mkSlice [.nils, .nils] 2 48 (.tmp 69) (.tmp 69)), none⟩, []⟩,
  ⟨4, ⟨some 71, .op (.fieldAddr 0 (.tmp 1)), none⟩, []⟩,
  ⟨5, ⟨some 72, .op (.load none (.tmp 71)), none⟩, []⟩,
  ⟨6, ⟨some 73, .op (.mm true (.tmp 72) (.const (.int .i64 0))), none⟩, []⟩,
  ⟨7, ⟨some 74, .op (.mkSlice [.nils, .nils] 2 48 (.tmp 73) (.tmp 73)), none⟩, []⟩,
  ⟨8, ⟨some 75, .op (.build [.int .i64 0, .nils, .nils, .nils] [(2, 1, (.tmp 70)), (3, 1, (.tmp 74))]), none⟩, []⟩,
  ⟨9, ⟨some 76, .op (.box (.tmp 75)), none⟩, []⟩,
  ⟨10, ⟨some 77, .op (.mv (.tmp 76)), none⟩, []⟩] [(6, 67), (7, 68), (8, 69), (9, 70), (10, 71), (11, 72), (12, 73), (13, 74), (14, 75), (15, 76), (3, 77)]) (.seq [16, 17, 18, 19, 20, 21, 22, 23, 24] (.regionD 67 [⟨0, ⟨some 67, .op (.mv (.tmp 3)), none⟩, []⟩,
  ⟨1, ⟨some 68, .op (.fieldAddr 0 (.tmp 1)), none⟩, []⟩,
  ⟨2, ⟨some 69, .op (.load none (.tmp 68)), none⟩, []⟩,
  ⟨3, ⟨some 70, .op (.fieldAddr 1 (.tmp 1)), none⟩, []⟩,
  ⟨4, ⟨some 71, .op (.load none (.tmp 70)), none⟩, []⟩,
  ⟨5, ⟨some 72, .call f_slices_Clone_api_Edge [(.tmp 71)], none⟩, [(69, ⟨some 69, .op (.load none (.tmp 68)), none⟩)]⟩,
  ⟨6, ⟨some 73, .op (.build [.int .i64 0, .nils] [(0, 1, (.tmp 69)), (1, 1, (.tmp 72))]), none⟩, []⟩,
  ⟨7, ⟨some 74, .op (.nilCheck (.tmp 67)), none⟩, []⟩,
  ⟨8, ⟨some 75, .op (.fieldAddr 0 (.tmp 74)), none⟩, []⟩,
  ⟨9, ⟨some 76, .op (.store 2 (.tmp 75) (.tmp 73)), none⟩, []⟩] [(16, 67), (17, 68), (18, 69), (19, 70), (20, 71), (21, 72), (22, 73), (23, 74), (24, 75)]) (.seq [26, 27, 28, 29] (.seq [1, 25] (.region [⟨some 25, .op (.fieldAddr 1 (.tmp 1)), none⟩,
  ⟨some 26, .op (.load none (.tmp 25)), none⟩,
  ⟨some 27, .op (.lenSl (.tmp 26)), none⟩,
  ⟨some 28, .op (.mv (.const (.int .i64 0))), none⟩]) (.block 0 (.loop [65] adj_New_c1))) (.seq [3, 66] (.region [⟨some 66, .op (.mv (.tmp 3)), none⟩,
  ⟨some 2, .op (.mv (.tmp 66)), none⟩]) .ret))))⟩
noncomputable def adj_New_l1 (T : Tab) (k j0 : Nat) (a3 t26 t27 t28 : AV) (h : Heap) : Option (AV × Heap) :=
  loopB T k adj_New_rs j0 [65] adj_New_c1 [.blk 0, .seq [26, 27, 28, 29] (.seq [3, 66] (.region [⟨some 66, .op (.mv (.tmp 3)), none⟩,
  ⟨some 2, .op (.mv (.tmp 66)), none⟩]) .ret)] [.undef, .undef, .undef, a3, .undef, .undef, .undef, .undef, .undef, .undef, .undef, .undef, .undef, .undef, .undef, .undef, .undef, .undef, .undef, .undef, .undef, .undef, .undef, .undef, .undef, .undef, t26, t27, t28, .undef, .undef, .undef, .undef, .undef, .undef, .undef, .undef, .undef, .undef, .undef, .undef, .undef, .undef, .undef, .undef, .undef, .undef, .undef, .undef, .undef, .undef, .undef, .undef, .undef, .undef, .undef, .undef, .undef, .undef, .undef, .undef, .undef, .undef, .undef, .undef, .undef, .undef] h
theorem adj_New_l1_eq (T : Tab) (k j0 : Nat) (a3 t26 t27 t28 : AV) (h : Heap) : adj_New_l1 T k (j0 + 1) a3 t26 t27 t28 h =
    oa (binV .lss .scalar t28 t27) fun t29_1 =>
    cond2 t29_1
      (
      oa (idxS 4 t26 t28) fun t31_2 =>
      oa (ldN 4 h t31_2) fun t32_3 =>
      ob (newVar h [.int .i64 0, .int .i64 0, .int .i64 0, .int .i64 0]) fun e5_4 h_5 =>
      oh (stN 4 h_5 e5_4 t32_3) fun h_6 =>
      oa (fldA 0 e5_4) fun t34_7 =>
      oa (ld1 h_6 t34_7) fun t35_8 =>
      ob (evalFn T k f_adj_Adj_is [a3, t35_8] h_6) fun t36_9 h_10 =>
      ob (gd t36_9 true (some (a3, h_10)) h_10) fun t38_11 h_12 =>
      ob (gd t36_9 true (pure1 h_12 (fldA 1 e5_4)) h_12) fun t39_13 h_14 =>
      ob (gd t36_9 true (pure1 h_14 (ld1 h_14 t39_13)) h_14) fun t40_15 h_16 =>
      ob (gd t36_9 true (evalFn T k f_adj_Adj_is [t38_11, t40_15] h_16) h_16) fun t41_17 h_18 =>
      oa (pickV t36_9 t41_17 (.bool false)) fun t42_19 =>
      cond2 t42_19
        (
        oa (nilCk a3) fun t68_20 =>
        oa (fldA 2 t68_20) fun t69_21 =>
        oa (ld1 h_18 t69_21) fun t70_22 =>
        oa (fldA 0 e5_4) fun t71_23 =>
        oa (ld1 h_18 t71_23) fun t72_24 =>
        oa (idxS 2 t70_22 t72_24) fun t73_25 =>
        oa (fldA 1 e5_4) fun t75_26 =>
        oa (ld1 h_18 t75_26) fun t76_27 =>
        ob (evalFn T k f_adj_ends_add [t73_25, t28, t76_27] h_18) fun t77_28 h_29 =>
        oa (nilCk a3) fun t68_30 =>
        oa (fldA 3 t68_30) fun t69_31 =>
        oa (ld1 h_29 t69_31) fun t70_32 =>
        oa (fldA 1 e5_4) fun t71_33 =>
        oa (ld1 h_29 t71_33) fun t72_34 =>
        oa (idxS 2 t70_32 t72_34) fun t73_35 =>
        oa (fldA 0 e5_4) fun t75_36 =>
        oa (ld1 h_29 t75_36) fun t76_37 =>
        ob (evalFn T k f_adj_ends_add [t73_35, t28, t76_37] h_29) fun t77_38 h_39 =>
        oa (binV .add .scalar t28 (.int .i64 1)) fun t65_40 =>
        adj_New_l1 T k j0 a3 t26 t27 t65_40 h_39
        )
        (
        oa (binV .add .scalar t28 (.int .i64 1)) fun t65_41 =>
        adj_New_l1 T k j0 a3 t26 t27 t65_41 h_18
        )
      )
      (
      some (a3, h)
      ) := loopEq (by kernel_rfl)
theorem adj_New_eq (T : Tab) (k : Nat) (n0 : AV) (h : Heap) : runF T k adj_New_mf [n0] h =
    ob (newVar h (AV.cells n0)) fun n1_1 h_2 =>
    oa (fldA 0 n1_1) fun t67_3 =>
    oa (ld1 h_2 t67_3) fun t68_4 =>
    oa (mmV true t68_4 (.int .i64 0)) fun t69_5 =>
    ob (mkSl [.nils, .nils] 2 48 t69_5 t69_5 h_2) fun t70_6 h_7 =>
    oa (fldA 0 n1_1) fun t71_8 =>
    oa (ld1 h_7 t71_8) fun t72_9 =>
    oa (mmV true t72_9 (.int .i64 0)) fun t73_10 =>
    ob (mkSl [.nils, .nils] 2 48 t73_10 t73_10 h_7) fun t74_11 h_12 =>
    oa (buildV [.int .i64 0, .nils, .nils, .nils] [(2, 1, t70_6), (3, 1, t74_11)]) fun t75_13 =>
    ob (newVar h_12 (AV.cells t75_13)) fun t76_14 h_15 =>
    oa (fldA 0 n1_1) fun t68_16 =>
    oa (ld1 h_15 t68_16) fun t69_17 =>
    oa (fldA 1 n1_1) fun t70_18 =>
    oa (ld1 h_15 t70_18) fun t71_19 =>
    ob (evalFn T k f_slices_Clone_api_Edge [t71_19] h_15) fun t72_20 h_21 =>
    chk ((sameB (pure1 h_21 (ld1 h_21 t68_16)) t69_17 && true)) <|
    oa (buildV [.int .i64 0, .nils] [(0, 1, t69_17), (1, 1, t72_20)]) fun t73_22 =>
    oa (nilCk t76_14) fun t74_23 =>
    oa (fldA 0 t74_23) fun t75_24 =>
    oh (stN 2 h_21 t75_24 t73_22) fun h_25 =>
    oa (fldA 1 n1_1) fun t25_26 =>
    oa (ld1 h_25 t25_26) fun t26_27 =>
    oa (lenS t26_27) fun t27_28 =>
    adj_New_l1 T k k t76_14 t26_27 t27_28 (.int .i64 0) h_25 := runEq (by kernel_rfl)
noncomputable def queue_New_c1 : MCode := .seq [] (.region [⟨some 18, .op (.bin .lss .scalar (.tmp 17) (.tmp 16)), none⟩]) (.seq [18] (.cond (.tmp 18) .skip (.exit 0)) (.seq [4, 20, 21, 22, 23, 24, 25, 26] (.block 1 (.seq [19] (.region [⟨some 19, .op (.mv (.tmp 17)), none⟩,
  ⟨some 4, .op (.mv (.tmp 19)), none⟩]) (.region [⟨some 20, .op (.mv (.tmp 3)), none⟩,
  ⟨some 21, .op (.nilCheck (.tmp 20)), none⟩,
  ⟨some 22, .op (.fieldAddr 0 (.tmp 21)), none⟩,
  ⟨some 23, .op (.fieldAddr 1 (.tmp 22)), none⟩,
  ⟨some 24, .op (.load none (.tmp 23)), none⟩,
  ⟨some 25, .op (.mv (.tmp 4)), none⟩,
  ⟨some 26, .op (.idxSl 1 (.tmp 24) (.tmp 25)), none⟩,
  ⟨none, .op (.store 1 (.tmp 26) (.const (.int .i64 (-1)))), none⟩]))) (.region [⟨some 27, .op (.bin .add .scalar (.tmp 17) (.const (.int .i64 1))), none⟩,
  ⟨some 17, .op (.mv (.tmp 27)), none⟩])))
def queue_New_rs : Res := [(2, none)]
noncomputable def queue_New_mf : MFn := ⟨29, queue_New_rs, .seq [2] (.region [⟨some 2, .op (.mv (.const .nilp)), none⟩]) (.seq [0, 5, 6, 7, 8, 9, 10] (.region [⟨some 5, .op (.mv (.tmp 0)), none⟩,
  ⟨some 6, .op (.mm true (.tmp 5) (.const (.int .i64 0))), none⟩,
  ⟨some 7, .op (.mkSlice [.int .i64 0] 1 8 (.tmp 6) (.tmp 6)), none⟩,
  ⟨some 8, .op (.build [.nils, .nils] [(1, 1, (.tmp 7))]), none⟩,
  ⟨some 9, .op (.build [.nils, .nils] [(0, 2, (.tmp 8))]), none⟩,
  ⟨some 10, .op (.box (.tmp 9)), none⟩,
  ⟨some 3, .op (.mv (.tmp 10)), none⟩]) (.seq [16, 17, 18] (.seq [11, 12, 13, 14, 15] (.region [⟨some 11, .op (.mv (.tmp 3)), none⟩,
  ⟨some 12, .op (.nilCheck (.tmp 11)), none⟩,
  ⟨some 13, .op (.fieldAddr 0 (.tmp 12)), none⟩,
  ⟨some 14, .op (.fieldAddr 1 (.tmp 13)), none⟩,
  ⟨some 15, .op (.load none (.tmp 14)), none⟩,
  ⟨some 16, .op (.lenSl (.tmp 15)), none⟩,
  ⟨some 17, .op (.mv (.const (.int .i64 0))), none⟩]) (.block 0 (.loop [27] queue_New_c1))) (.seq [3, 28] (.region [⟨some 28, .op (.mv (.tmp 3)), none⟩,
  ⟨some 2, .op (.mv (.tmp 28)), none⟩]) .ret)))⟩
noncomputable def queue_New_l1 (T : Tab) (k j0 : Nat) (q3 t16 t17 : AV) (h : Heap) : Option (AV × Heap) :=
  loopB T k queue_New_rs j0 [27] queue_New_c1 [.blk 0, .seq [16, 17, 18] (.seq [3, 28] (.region [⟨some 28, .op (.mv (.tmp 3)), none⟩,
  ⟨some 2, .op (.mv (.tmp 28)), none⟩]) .ret)] [.undef, .undef, .undef, q3, .undef, .undef, .undef, .undef, .undef, .undef, .undef, .undef, .undef, .undef, .undef, .undef, t16, t17, .undef, .undef, .undef, .undef, .undef, .undef, .undef, .undef, .undef, .undef, .undef] h
theorem queue_New_l1_eq (T : Tab) (k j0 : Nat) (q3 t16 t17 : AV) (h : Heap) : queue_New_l1 T k (j0 + 1) q3 t16 t17 h =
    oa (binV .lss .scalar t17 t16) fun t18_1 =>
    cond2 t18_1
      (
      oa (nilCk q3) fun t21_2 =>
      oa (fldA 0 t21_2) fun t22_3 =>
      oa (fldA 1 t22_3) fun t23_4 =>
      oa (ld1 h t23_4) fun t24_5 =>
      oa (idxS 1 t24_5 t17) fun t26_6 =>
      oh (stN 1 h t26_6 (.int .i64 (-1))) fun h_7 =>
      oa (binV .add .scalar t17 (.int .i64 1)) fun t27_8 =>
      queue_New_l1 T k j0 q3 t16 t27_8 h_7
      )
      (
      some (q3, h)
      ) := loopEq (by kernel_rfl)
theorem queue_New_eq (T : Tab) (k : Nat) (n0 : AV) (h : Heap) : runF T k queue_New_mf [n0] h =
    oa (mmV true n0 (.int .i64 0)) fun t6_1 =>
    ob (mkSl [.int .i64 0] 1 8 t6_1 t6_1 h) fun t7_2 h_3 =>
    oa (buildV [.nils, .nils] [(1, 1, t7_2)]) fun t8_4 =>
    oa (buildV [.nils, .nils] [(0, 2, t8_4)]) fun t9_5 =>
    ob (newVar h_3 (AV.cells t9_5)) fun t10_6 h_7 =>
    oa (nilCk t10_6) fun t12_8 =>
    oa (fldA 0 t12_8) fun t13_9 =>
    oa (fldA 1 t13_9) fun t14_10 =>
    oa (ld1 h_7 t14_10) fun t15_11 =>
    oa (lenS t15_11) fun t16_12 =>
    queue_New_l1 T k k t10_6 t16_12 (.int .i64 0) h_7 := runEq (by kernel_rfl)
def queue_Queue_Put_rs : Res := [(6, none)]
noncomputable def queue_Queue_Put_mf : MFn := ⟨57, queue_Queue_Put_rs, .seq [6] (.region [⟨some 6, .op (.mv (.const (.bool false))), none⟩]) (.seq [20] (.seq [9, 10, 11, 12, 13, 14, 15, 16, 17, 18, 19] (.region [⟨some 9, .op (.mv (.tmp 1)), none⟩,
  ⟨some 10, .op (.bin .lss .scalar (.tmp 9) (.const (.int .i64 0))), none⟩,
  ⟨some 11, .op (.mv (.tmp 10)), none⟩,
  ⟨some 12, .op (.mv (.tmp 1)), some (11, false)⟩,
  ⟨some 13, .op (.mv (.tmp 0)), some (11, false)⟩,
  ⟨some 14, .op (.nilCheck (.tmp 13)), some (11, false)⟩,
  ⟨some 15, .op (.fieldAddr 0 (.tmp 14)), some (11, false)⟩,
  ⟨some 16, .op (.fieldAddr 1 (.tmp 15)), some (11, false)⟩,
  ⟨some 17, .op (.load none (.tmp 16)), some (11, false)⟩,
  ⟨some 18, .op (.lenSl (.tmp 17)), some (11, false)⟩,
  ⟨some 19, .op (.bin .geq .scalar (.tmp 12) (.tmp 18)), some (11, false)⟩,
  ⟨some 20, .op (.pick (.tmp 11) (.const (.bool true)) (.tmp 19)), none⟩]) (.cond (.tmp 20) (.seq [0, 1, 2, 20] (.region [⟨some 6, .op (.mv (.const (.bool false))), none⟩]) .ret) .skip)) (.seq [21, 22] (.region [⟨some 21, .op (.mv (.tmp 0)), none⟩,
  ⟨some 22, .call f_queue_Queue_line [(.tmp 21)], none⟩,
  ⟨some 7, .op (.mv (.tmp 22)), none⟩]) (.seq [23, 24, 25] (.region [⟨some 23, .op (.mv (.tmp 7)), none⟩,
  ⟨some 24, .op (.mv (.tmp 1)), none⟩,
  ⟨some 25, .invoke "milestone/queue.place" (.tmp 23) [(.tmp 24)], none⟩,
  ⟨some 8, .op (.mv (.tmp 25)), none⟩]) (.seq [1, 27] (.seq [26] (.region [⟨some 26, .op (.mv (.tmp 8)), none⟩,
  ⟨some 27, .op (.bin .lss .scalar (.tmp 26) (.const (.int .i64 0))), none⟩]) (.cond (.tmp 27) (.seq [0, 1, 2, 7, 8, 27, 28, 29, 30, 31, 32, 33] (.region [⟨some 28, .op (.mv (.tmp 7)), none⟩,
  ⟨some 29, .op (.mv (.tmp 1)), none⟩,
  ⟨some 30, .op (.mv (.tmp 2)), none⟩,
  ⟨some 31, .op (.build [.int .i64 0, .int .i64 0] [(0, 1, (.tmp 29)), (1, 1, (.tmp 30))]), none⟩,
  ⟨some 32, .op (.mkIfc 113 (.tmp 31)), none⟩,
  ⟨some 33, .call f_container_heap_Push [(.tmp 28), (.tmp 32)], none⟩]) (.seq [] (.region [⟨some 6, .op (.mv (.const (.bool true))), none⟩]) .ret)) .skip)) (.seq [44] (.seq [34, 35, 36, 37, 38, 39, 40, 41, 42, 43] (.region [⟨some 34, .op (.mv (.tmp 0)), none⟩,
  ⟨some 35, .op (.nilCheck (.tmp 34)), none⟩,
  ⟨some 36, .op (.fieldAddr 0 (.tmp 35)), none⟩,
  ⟨some 37, .op (.fieldAddr 0 (.tmp 36)), none⟩,
  ⟨some 38, .op (.load none (.tmp 37)), none⟩,
  ⟨some 39, .op (.mv (.tmp 8)), none⟩,
  ⟨some 40, .op (.idxSl 2 (.tmp 38) (.tmp 39)), none⟩,
  ⟨some 41, .op (.fieldAddr 1 (.tmp 40)), none⟩,
  ⟨some 42, .op (.load none (.tmp 41)), none⟩,
  ⟨some 43, .op (.mv (.tmp 2)), none⟩,
  ⟨some 44, .op (.bin .leq .scalar (.tmp 42) (.tmp 43)), none⟩]) (.cond (.tmp 44) (.seq [0, 2, 7, 8, 44] (.region [⟨some 6, .op (.mv (.const (.bool false))), none⟩]) .ret) .skip)) (.seq [0, 2, 45, 46, 47, 48, 49, 50, 51, 52, 53] (.region [⟨some 45, .op (.mv (.tmp 0)), none⟩,
  ⟨some 46, .op (.nilCheck (.tmp 45)), none⟩,
  ⟨some 47, .op (.fieldAddr 0 (.tmp 46)), none⟩,
  ⟨some 48, .op (.fieldAddr 0 (.tmp 47)), none⟩,
  ⟨some 49, .op (.load none (.tmp 48)), none⟩,
  ⟨some 50, .op (.mv (.tmp 8)), none⟩,
  ⟨some 51, .op (.mv (.tmp 2)), none⟩,
  ⟨some 52, .op (.idxSl 2 (.tmp 49) (.tmp 50)), none⟩,
  ⟨some 53, .op (.fieldAddr 1 (.tmp 52)), none⟩,
  ⟨none, .op (.store 1 (.tmp 53) (.tmp 51)), none⟩]) (.seq [7, 8, 54, 55, 56] (.region [⟨some 54, .op (.mv (.tmp 7)), none⟩,
  ⟨some 55, .op (.mv (.tmp 8)), none⟩,
  ⟨some 56, .call f_container_heap_Fix [(.tmp 54), (.tmp 55)], none⟩]) (.seq [] (.region [⟨some 6, .op (.mv (.const (.bool true))), none⟩]) .ret))))))))⟩
theorem queue_Queue_Put_eq (T : Tab) (k : Nat) (q0 id1 key2 : AV) (h : Heap) : runF T k queue_Queue_Put_mf [q0, id1, key2] h =
    oa (binV .lss .scalar id1 (.int .i64 0)) fun t10_1 =>
    ob (gd t10_1 false (some (id1, h)) h) fun t12_2 h_3 =>
    ob (gd t10_1 false (some (q0, h_3)) h_3) fun t13_4 h_5 =>
    ob (gd t10_1 false (pure1 h_5 (nilCk t13_4)) h_5) fun t14_6 h_7 =>
    ob (gd t10_1 false (pure1 h_7 (fldA 0 t14_6)) h_7) fun t15_8 h_9 =>
    ob (gd t10_1 false (pure1 h_9 (fldA 1 t15_8)) h_9) fun t16_10 h_11 =>
    ob (gd t10_1 false (pure1 h_11 (ld1 h_11 t16_10)) h_11) fun t17_12 h_13 =>
    ob (gd t10_1 false (pure1 h_13 (lenS t17_12)) h_13) fun t18_14 h_15 =>
    ob (gd t10_1 false (pure1 h_15 (binV .geq .scalar t12_2 t18_14)) h_15) fun t19_16 h_17 =>
    oa (pickV t10_1 (.bool true) t19_16) fun t20_18 =>
    cond2 t20_18
      (
      some ((.bool false), h_17)
      )
      (
      ob (evalFn T k f_queue_Queue_line [q0] h_17) fun t22_19 h_20 =>
      ob (callMeth T (evalFn T k) "milestone/queue.place" t22_19 [id1] h_20) fun t25_21 h_22 =>
      oa (binV .lss .scalar t25_21 (.int .i64 0)) fun t27_23 =>
      cond2 t27_23
        (
        oa (buildV [.int .i64 0, .int .i64 0] [(0, 1, id1), (1, 1, key2)]) fun t31_24 =>
        ob (evalFn T k f_container_heap_Push [t22_19, (.ifc 113 t31_24)] h_22) fun t33_25 h_26 =>
        some ((.bool true), h_26)
        )
        (
        oa (nilCk q0) fun t35_27 =>
        oa (fldA 0 t35_27) fun t36_28 =>
        oa (fldA 0 t36_28) fun t37_29 =>
        oa (ld1 h_22 t37_29) fun t38_30 =>
        oa (idxS 2 t38_30 t25_21) fun t40_31 =>
        oa (fldA 1 t40_31) fun t41_32 =>
        oa (ld1 h_22 t41_32) fun t42_33 =>
        oa (binV .leq .scalar t42_33 key2) fun t44_34 =>
        cond2 t44_34
          (
          some ((.bool false), h_22)
          )
          (
          oa (nilCk q0) fun t46_35 =>
          oa (fldA 0 t46_35) fun t47_36 =>
          oa (fldA 0 t47_36) fun t48_37 =>
          oa (ld1 h_22 t48_37) fun t49_38 =>
          oa (idxS 2 t49_38 t25_21) fun t52_39 =>
          oa (fldA 1 t52_39) fun t53_40 =>
          oh (stN 1 h_22 t53_40 key2) fun h_41 =>
          ob (evalFn T k f_container_heap_Fix [t22_19, t25_21] h_41) fun t56_42 h_43 =>
          some ((.bool true), h_43)
          )
        )
      ) := runEq (by kernel_rfl)
def adj_Adj_Out_rs : Res := [(4, none)]
noncomputable def adj_Adj_Out_mf : MFn := ⟨15, adj_Adj_Out_rs, .seq [4] (.region [⟨some 4, .op (.mv (.const .nils)), none⟩]) (.seq [] (.region [⟨some 5, .op (.mv (.const (.fn f_adj_ends_list [] []))), none⟩]) (.seq [0, 1, 5, 6, 7, 8, 9, 10, 11, 12, 13, 14] (.region [⟨some 6, .op (.mv (.tmp 5)), none⟩,
  ⟨some 7, .op (.mv (.tmp 0)), none⟩,
  ⟨some 8, .op (.mv (.tmp 0)), none⟩,
  ⟨some 9, .op (.nilCheck (.tmp 8)), none⟩,
  ⟨some 10, .op (.fieldAddr 2 (.tmp 9)), none⟩,
  ⟨some 11, .op (.load none (.tmp 10)), none⟩,
  ⟨some 12, .op (.mv (.tmp 1)), none⟩,
  ⟨some 13, .call f_adj_Adj_side [(.tmp 7), (.tmp 11), (.tmp 12)], none⟩,
  ⟨some 14, .callV (.tmp 6) [(.tmp 13)], none⟩,
  ⟨some 4, .op (.mv (.tmp 14)), none⟩]) .ret))⟩
theorem adj_Adj_Out_eq (T : Tab) (k : Nat) (a0 v1 : AV) (h : Heap) : runF T k adj_Adj_Out_mf [a0, v1] h =
    oa (nilCk a0) fun t9_1 =>
    oa (fldA 2 t9_1) fun t10_2 =>
    oa (ld1 h t10_2) fun t11_3 =>
    ob (evalFn T k f_adj_Adj_side [a0, t11_3, v1] h) fun t13_4 h_5 =>
    ob (callVal (evalFn T k) (.fn f_adj_ends_list [] []) [t13_4] h_5) fun t14_6 h_7 =>
    some (t14_6, h_7) := runEq (by kernel_rfl)
noncomputable def slices_Reverse_int_c1 : MCode := .seq [9] (.seq [7, 8] (.region [⟨some 7, .op (.mv (.tmp 2)), none⟩,
  ⟨some 8, .op (.mv (.tmp 3)), none⟩,
  ⟨some 9, .op (.bin .lss .scalar (.tmp 7) (.tmp 8)), none⟩]) (.cond (.tmp 9) .skip (.exit 0))) (.seq [14, 15, 16, 17, 18, 19, 20, 21, 22, 23, 24, 25, 26, 27] (.block 1 (.regionD 28 [⟨0, ⟨some 28, .op (.mv (.tmp 0)), none⟩, []⟩,
  ⟨1, ⟨some 29, .op (.mv (.tmp 2)), none⟩, []⟩,
  ⟨2, ⟨some 30, .op (.mv (.tmp 0)), none⟩, []⟩,
  ⟨3, ⟨some 31, .op (.mv (.tmp 3)), none⟩, []⟩,
  ⟨4, ⟨some 32, .op (.mv (.tmp 0)), none⟩, []⟩,
  ⟨5, ⟨some 33, .op (.mv (.tmp 3)), none⟩, []⟩,
  ⟨6, ⟨some 34, .op (.idxSl 1 (.tmp 32) (.tmp 33)), none⟩, []⟩,
  ⟨7, ⟨some 35, .op (.load none (.tmp 34)), none⟩, []⟩,
  ⟨8, ⟨some 36, .op (.mv (.tmp 0)), none⟩, []⟩,
  ⟨9, ⟨some 37, .op (.mv (.tmp 2)), none⟩, []⟩,
  ⟨10, ⟨some 38, .op (.idxSl 1 (.tmp 36) (.tmp 37)), none⟩, []⟩,
  ⟨11, ⟨some 39, .op (.load none (.tmp 38)), none⟩, []⟩,
  ⟨12, ⟨some 40, .op (.idxSl 1 (.tmp 28) (.tmp 29)), none⟩, []⟩,
  ⟨13, ⟨some 41, .op (.store 1 (.tmp 40) (.tmp 35)), none⟩, []⟩,
  ⟨14, ⟨some 42, .op (.idxSl 1 (.tmp 30) (.tmp 31)), none⟩, []⟩,
  ⟨15, ⟨some 43, .op (.store 1 (.tmp 42) (.tmp 39)), none⟩, []⟩] [(14, 28), (15, 29), (16, 30), (17, 31), (18, 32), (19, 33), (20, 34), (21, 35), (22, 36), (23, 37), (24, 38), (25, 39), (26, 40), (27, 42)])) (.region [⟨some 10, .op (.mv (.tmp 2)), none⟩,
  ⟨some 11, .op (.bin .add .scalar (.tmp 10) (.const (.int .i64 1))), none⟩,
  ⟨some 12, .op (.mv (.tmp 3)), none⟩,
  ⟨some 13, .op (.bin .sub .scalar (.tmp 12) (.const (.int .i64 1))), none⟩,
  ⟨some 2, .op (.mv (.tmp 11)), none⟩,
  ⟨some 3, .op (.mv (.tmp 13)), none⟩]))
def slices_Reverse_int_rs : Res := []
noncomputable def slices_Reverse_int_mf : MFn := ⟨28, slices_Reverse_int_rs, .seq [4, 5, 6] (.region [⟨some 4, .op (.mv (.tmp 0)), none⟩,
  ⟨some 5, .op (.lenSl (.tmp 4)), none⟩,
  ⟨some 6, .op (.bin .sub .scalar (.tmp 5) (.const (.int .i64 1))), none⟩,
  ⟨some 2, .op (.mv (.const (.int .i64 0))), none⟩,
  ⟨some 3, .op (.mv (.tmp 6)), none⟩]) (.block 0 (.loop [10, 11, 12, 13] slices_Reverse_int_c1))⟩
noncomputable def slices_Reverse_int_l1 (T : Tab) (k j0 : Nat) (s0 i2 j3 : AV) (h : Heap) : Option (AV × Heap) :=
  loopB T k slices_Reverse_int_rs j0 [10, 11, 12, 13] slices_Reverse_int_c1 [.blk 0] [s0, .undef, i2, j3, .undef, .undef, .undef, .undef, .undef, .undef, .undef, .undef, .undef, .undef, .undef, .undef, .undef, .undef, .undef, .undef, .undef, .undef, .undef, .undef, .undef, .undef, .undef, .undef] h
theorem slices_Reverse_int_l1_eq (T : Tab) (k j0 : Nat) (s0 i2 j3 : AV) (h : Heap) : slices_Reverse_int_l1 T k (j0 + 1) s0 i2 j3 h =
    oa (binV .lss .scalar i2 j3) fun t9_1 =>
    cond2 t9_1
      (
      oa (idxS 1 s0 j3) fun t34_2 =>
      oa (ld1 h t34_2) fun t35_3 =>
      oa (idxS 1 s0 i2) fun t38_4 =>
      oa (ld1 h t38_4) fun t39_5 =>
      oa (idxS 1 s0 i2) fun t40_6 =>
      oh (stN 1 h t40_6 t35_3) fun h_7 =>
      oa (idxS 1 s0 j3) fun t42_8 =>
      oh (stN 1 h_7 t42_8 t39_5) fun h_9 =>
      oa (binV .add .scalar i2 (.int .i64 1)) fun t11_10 =>
      oa (binV .sub .scalar j3 (.int .i64 1)) fun t13_11 =>
      slices_Reverse_int_l1 T k j0 s0 t11_10 t13_11 h_9
      )
      (
      some (.tup [], h)
      ) := loopEq (by kernel_rfl)
theorem slices_Reverse_int_eq (T : Tab) (k : Nat) (s0 : AV) (h : Heap) : runF T k slices_Reverse_int_mf [s0] h =
    oa (lenS s0) fun t5_1 =>
    oa (binV .sub .scalar t5_1 (.int .i64 1)) fun t6_2 =>
    slices_Reverse_int_l1 T k k s0 (.int .i64 0) t6_2 h := runEq (by kernel_rfl)
def slices_Clone_int_rs : Res := [(2, none)]
noncomputable def slices_Clone_int_mf : MFn := ⟨8, slices_Clone_int_rs, .seq [2] (.region [⟨some 2, .op (.mv (.const .nils)), none⟩]) (.seq [4] (.seq [3] (.region [⟨some 3, .op (.mv (.tmp 0)), none⟩,
  ⟨some 4, .op (.bin .eql .slice (.tmp 3) (.const .nils)), none⟩]) (.cond (.tmp 4) (.seq [0, 4] (.region [⟨some 2, .op (.mv (.const .nils)), none⟩]) .ret) .skip)) (.seq [0, 5, 6, 7] (.region [⟨some 5, .op (.buildSlice 1 0 [] []), none⟩,
  ⟨some 6, .op (.mv (.tmp 0)), none⟩,
  ⟨some 7, .op (.append 1 8 (.tmp 5) (.tmp 6)), none⟩,
  ⟨some 2, .op (.mv (.tmp 7)), none⟩]) .ret))⟩
theorem slices_Clone_int_eq (T : Tab) (k : Nat) (s0 : AV) (h : Heap) : runF T k slices_Clone_int_mf [s0] h =
    oa (binV .eql .slice s0 .nils) fun t4_1 =>
    cond2 t4_1
      (
      some (.nils, h)
      )
      (
      ob (buildSl 1 0 [] [] h) fun t5_2 h_3 =>
      ob (apnd 1 8 t5_2 s0 h_3) fun t7_4 h_5 =>
      some (t7_4, h_5)
      ) := runEq (by kernel_rfl)
def adj_Adj_In_rs : Res := [(4, none)]
noncomputable def adj_Adj_In_mf : MFn := ⟨15, adj_Adj_In_rs, .seq [4] (.region [⟨some 4, .op (.mv (.const .nils)), none⟩]) (.seq [] (.region [⟨some 5, .op (.mv (.const (.fn f_adj_ends_list [] []))), none⟩]) (.seq [0, 1, 5, 6, 7, 8, 9, 10, 11, 12, 13, 14] (.region [⟨some 6, .op (.mv (.tmp 5)), none⟩,
  ⟨some 7, .op (.mv (.tmp 0)), none⟩,
  ⟨some 8, .op (.mv (.tmp 0)), none⟩,
  ⟨some 9, .op (.nilCheck (.tmp 8)), none⟩,
  ⟨some 10, .op (.fieldAddr 3 (.tmp 9)), none⟩,
  ⟨some 11, .op (.load none (.tmp 10)), none⟩,
  ⟨some 12, .op (.mv (.tmp 1)), none⟩,
  ⟨some 13, .call f_adj_Adj_side [(.tmp 7), (.tmp 11), (.tmp 12)], none⟩,
  ⟨some 14, .callV (.tmp 6) [(.tmp 13)], none⟩,
  ⟨some 4, .op (.mv (.tmp 14)), none⟩]) .ret))⟩
theorem adj_Adj_In_eq (T : Tab) (k : Nat) (a0 v1 : AV) (h : Heap) : runF T k adj_Adj_In_mf [a0, v1] h =
    oa (nilCk a0) fun t9_1 =>
    oa (fldA 3 t9_1) fun t10_2 =>
    oa (ld1 h t10_2) fun t11_3 =>
    ob (evalFn T k f_adj_Adj_side [a0, t11_3, v1] h) fun t13_4 h_5 =>
    ob (callVal (evalFn T k) (.fn f_adj_ends_list [] []) [t13_4] h_5) fun t14_6 h_7 =>
    some (t14_6, h_7) := runEq (by kernel_rfl)
def queue_Queue_Key_rs : Res := [(4, none), (5, none)]
noncomputable def queue_Queue_Key_mf : MFn := ⟨22, queue_Queue_Key_rs, .seq [4, 5] (.region [⟨some 4, .op (.mv (.const (.int .i64 0))), none⟩,
  ⟨some 5, .op (.mv (.const (.bool false))), none⟩]) (.seq [1, 7, 8, 9, 10] (.region [⟨some 7, .op (.mv (.tmp 0)), none⟩,
  ⟨some 8, .call f_queue_Queue_line [(.tmp 7)], none⟩,
  ⟨some 9, .op (.mv (.tmp 1)), none⟩,
  ⟨some 10, .invoke "milestone/queue.place" (.tmp 8) [(.tmp 9)], none⟩,
  ⟨some 6, .op (.mv (.tmp 10)), none⟩]) (.seq [12] (.seq [11] (.region [⟨some 11, .op (.mv (.tmp 6)), none⟩,
  ⟨some 12, .op (.bin .lss .scalar (.tmp 11) (.const (.int .i64 0))), none⟩]) (.cond (.tmp 12) (.seq [0, 6, 12] (.region [⟨some 4, .op (.mv (.const (.int .i64 0))), none⟩,
  ⟨some 5, .op (.mv (.const (.bool false))), none⟩]) .ret) .skip)) (.seq [0, 6, 13, 14, 15, 16, 17, 18, 19, 20, 21] (.region [⟨some 13, .op (.mv (.tmp 0)), none⟩,
  ⟨some 14, .op (.nilCheck (.tmp 13)), none⟩,
  ⟨some 15, .op (.fieldAddr 0 (.tmp 14)), none⟩,
  ⟨some 16, .op (.fieldAddr 0 (.tmp 15)), none⟩,
  ⟨some 17, .op (.load none (.tmp 16)), none⟩,
  ⟨some 18, .op (.mv (.tmp 6)), none⟩,
  ⟨some 19, .op (.idxSl 2 (.tmp 17) (.tmp 18)), none⟩,
  ⟨some 20, .op (.fieldAddr 1 (.tmp 19)), none⟩,
  ⟨some 21, .op (.load none (.tmp 20)), none⟩,
  ⟨some 4, .op (.mv (.tmp 21)), none⟩,
  ⟨some 5, .op (.mv (.const (.bool true))), none⟩]) .ret)))⟩
theorem queue_Queue_Key_eq (T : Tab) (k : Nat) (q0 id1 : AV) (h : Heap) : runF T k queue_Queue_Key_mf [q0, id1] h =
    ob (evalFn T k f_queue_Queue_line [q0] h) fun t8_1 h_2 =>
    ob (callMeth T (evalFn T k) "milestone/queue.place" t8_1 [id1] h_2) fun t10_3 h_4 =>
    oa (binV .lss .scalar t10_3 (.int .i64 0)) fun t12_5 =>
    cond2 t12_5
      (
      some (.tup [(.int .i64 0), (.bool false)], h_4)
      )
      (
      oa (nilCk q0) fun t14_6 =>
      oa (fldA 0 t14_6) fun t15_7 =>
      oa (fldA 0 t15_7) fun t16_8 =>
      oa (ld1 h_4 t16_8) fun t17_9 =>
      oa (idxS 2 t17_9 t10_3) fun t19_10 =>
      oa (fldA 1 t19_10) fun t20_11 =>
      oa (ld1 h_4 t20_11) fun t21_12 =>
      some (.tup [t21_12, (.bool true)], h_4)
      ) := runEq (by kernel_rfl)
def queue_Queue_Pop_rs : Res := [(2, none), (3, none), (4, none)]
noncomputable def queue_Queue_Pop_mf : MFn := ⟨23, queue_Queue_Pop_rs, .seq [2, 3, 4] (.region [⟨some 2, .op (.mv (.const (.int .i64 0))), none⟩,
  ⟨some 3, .op (.mv (.const (.int .i64 0))), none⟩,
  ⟨some 4, .op (.mv (.const (.bool false))), none⟩]) (.seq [10] (.seq [6, 7, 8, 9] (.region [⟨some 6, .op (.mv (.tmp 0)), none⟩,
  ⟨some 7, .op (.nilCheck (.tmp 6)), none⟩,
  ⟨some 8, .op (.fieldAddr 0 (.tmp 7)), none⟩,
  ⟨some 9, .call f_queue_heaped_Len [(.tmp 8)], none⟩,
  ⟨some 10, .op (.bin .eql .scalar (.tmp 9) (.const (.int .i64 0))), none⟩]) (.cond (.tmp 10) (.seq [0, 10] (.region [⟨some 2, .op (.mv (.const (.int .i64 0))), none⟩,
  ⟨some 3, .op (.mv (.const (.int .i64 0))), none⟩,
  ⟨some 4, .op (.mv (.const (.bool false))), none⟩]) .ret) .skip)) (.seq [0, 11, 12, 13, 14, 15, 16, 17] (.region [⟨some 12, .op (.mv (.tmp 0)), none⟩,
  ⟨some 13, .call f_queue_Queue_line [(.tmp 12)], none⟩,
  ⟨some 14, .call f_container_heap_Pop [(.tmp 13)], none⟩,
  ⟨some 15, .op (.typeAssert 113 (.agg [.int .i64 0, .int .i64 0]) true (.tmp 14)), none⟩,
  ⟨some 11, .op (.mv (.tmp 15)), none⟩,
  ⟨some 16, .op (.extract 0 (.tmp 11)), none⟩,
  ⟨some 17, .op (.extract 1 (.tmp 11)), none⟩,
  ⟨some 5, .op (.alloc [.int .i64 0, .int .i64 0]), none⟩,
  ⟨none, .op (.store 2 (.tmp 5) (.tmp 16)), none⟩,
  ⟨some 4, .op (.mv (.tmp 17)), none⟩]) (.seq [5, 18, 19, 20, 21, 22] (.regionD 23 [⟨0, ⟨some 23, .op (.fieldAddr 0 (.tmp 5)), none⟩, []⟩,
  ⟨1, ⟨some 24, .op (.load none (.tmp 23)), none⟩, []⟩,
  ⟨2, ⟨some 25, .op (.fieldAddr 1 (.tmp 5)), none⟩, []⟩,
  ⟨3, ⟨some 26, .op (.load none (.tmp 25)), none⟩, []⟩,
  ⟨4, ⟨some 27, .op (.mv (.tmp 4)), none⟩, []⟩,
  ⟨5, ⟨some 28, .op (.mv (.tmp 24)), none⟩, []⟩,
  ⟨6, ⟨some 29, .op (.mv (.tmp 26)), none⟩, []⟩,
  ⟨7, ⟨some 30, .op (.mv (.tmp 27)), none⟩, []⟩] [(18, 23), (19, 24), (20, 25), (21, 26), (22, 27), (2, 28), (3, 29), (4, 30)]) .ret)))⟩
theorem queue_Queue_Pop_eq (T : Tab) (k : Nat) (q0 : AV) (h : Heap) : runF T k queue_Queue_Pop_mf [q0] h =
    oa (nilCk q0) fun t7_1 =>
    oa (fldA 0 t7_1) fun t8_2 =>
    ob (evalFn T k f_queue_heaped_Len [t8_2] h) fun t9_3 h_4 =>
    oa (binV .eql .scalar t9_3 (.int .i64 0)) fun t10_5 =>
    cond2 t10_5
      (
      some (.tup [(.int .i64 0), (.int .i64 0), (.bool false)], h_4)
      )
      (
      ob (evalFn T k f_queue_Queue_line [q0] h_4) fun t13_6 h_7 =>
      ob (evalFn T k f_container_heap_Pop [t13_6] h_7) fun t14_8 h_9 =>
      oa (tAssert 113 (.agg [.int .i64 0, .int .i64 0]) true t14_8) fun t15_10 =>
      oa (extr 0 t15_10) fun t16_11 =>
      oa (extr 1 t15_10) fun t17_12 =>
      ob (newVar h_9 [.int .i64 0, .int .i64 0]) fun x5_13 h_14 =>
      oh (stN 2 h_14 x5_13 t16_11) fun h_15 =>
      oa (fldA 0 x5_13) fun t23_16 =>
      oa (ld1 h_15 t23_16) fun t24_17 =>
      oa (fldA 1 x5_13) fun t25_18 =>
      oa (ld1 h_15 t25_18) fun t26_19 =>
      some (.tup [t24_17, t26_19, t17_12], h_15)
      ) := runEq (by kernel_rfl)
noncomputable def milestoneref7_Go_c1 : MCode := .seq [20] (.seq [17, 18, 19] (.region [⟨some 17, .op (.mv (.tmp 7)), none⟩,
  ⟨some 18, .op (.mv (.tmp 2)), none⟩,
  ⟨some 19, .op (.lenSl (.tmp 18)), none⟩,
  ⟨some 20, .op (.bin .lss .scalar (.tmp 17) (.tmp 19)), none⟩]) (.cond (.tmp 20) .skip (.exit 0))) (.seq [35, 36, 37, 38, 39, 40, 41, 42, 43, 44] (.block 1 (.seq [34] (.seq [23, 24, 25, 26, 27, 28, 29, 30, 31, 32, 33] (.region [⟨some 23, .op (.mv (.tmp 2)), none⟩,
  ⟨some 24, .op (.mv (.tmp 7)), none⟩,
  ⟨some 25, .op (.idxSl 1 (.tmp 23) (.tmp 24)), none⟩,
  ⟨some 26, .op (.load none (.tmp 25)), none⟩,
  ⟨some 27, .op (.bin .lss .scalar (.tmp 26) (.const (.int .i64 0))), none⟩,
  ⟨some 28, .op (.mv (.tmp 27)), none⟩,
  ⟨some 29, .op (.mv (.tmp 2)), some (28, false)⟩,
  ⟨some 30, .op (.mv (.tmp 7)), some (28, false)⟩,
  ⟨some 31, .op (.idxSl 1 (.tmp 29) (.tmp 30)), some (28, false)⟩,
  ⟨some 32, .op (.load none (.tmp 31)), some (28, false)⟩,
  ⟨some 33, .op (.bin .geq .scalar (.tmp 32) (.const (.int .i64 5))), some (28, false)⟩,
  ⟨some 34, .op (.pick (.tmp 28) (.const (.bool true)) (.tmp 33)), none⟩]) (.cond (.tmp 34) (.seq [1, 2, 3, 7, 34] (.region [⟨some 6, .op (.mv (.const (.int .i64 (-1)))), none⟩]) .ret) .skip)) (.regionD 46 [⟨0, ⟨some 46, .op (.fieldAddr 0 (.tmp 3)), none⟩, []⟩,
  ⟨1, ⟨some 47, .op (.load none (.tmp 46)), none⟩, []⟩,
  ⟨2, ⟨some 48, .op (.mv (.tmp 1)), none⟩, []⟩,
  ⟨3, ⟨some 49, .op (.mv (.tmp 2)), none⟩, []⟩,
  ⟨4, ⟨some 50, .op (.mv (.tmp 7)), none⟩, []⟩,
  ⟨5, ⟨some 51, .op (.idxSl 1 (.tmp 49) (.tmp 50)), none⟩, []⟩,
  ⟨6, ⟨some 52, .op (.load none (.tmp 51)), none⟩, []⟩,
  ⟨7, ⟨some 53, .op (.idxSl 5 (.tmp 47) (.tmp 48)), none⟩, []⟩,
  ⟨8, ⟨some 54, .op (.idxArr 5 1 (.tmp 53) (.tmp 52)), none⟩, []⟩,
  ⟨9, ⟨some 55, .op (.load none (.tmp 54)), none⟩, []⟩,
  ⟨10, ⟨some 56, .op (.mv (.tmp 55)), none⟩, []⟩] [(35, 46), (36, 47), (37, 48), (38, 49), (39, 50), (40, 51), (41, 52), (42, 53), (43, 54), (44, 55), (1, 56)]))) (.region [⟨some 21, .op (.mv (.tmp 7)), none⟩,
  ⟨some 22, .op (.bin .add .scalar (.tmp 21) (.const (.int .i64 1))), none⟩,
  ⟨some 7, .op (.mv (.tmp 22)), none⟩]))
def milestoneref7_Go_rs : Res := [(6, none)]
noncomputable def milestoneref7_Go_mf : MFn := ⟨46, milestoneref7_Go_rs, .seq [0, 6] (.region [⟨some 3, .op (.box (.tmp 0)), none⟩,
  ⟨some 6, .op (.mv (.const (.int .i64 0))), none⟩]) (.seq [16] (.seq [8, 9, 10, 11, 12, 13, 14, 15] (.region [⟨some 8, .op (.mv (.tmp 1)), none⟩,
  ⟨some 9, .op (.bin .lss .scalar (.tmp 8) (.const (.int .i64 0))), none⟩,
  ⟨some 10, .op (.mv (.tmp 9)), none⟩,
  ⟨some 11, .op (.mv (.tmp 1)), some (10, false)⟩,
  ⟨some 12, .op (.fieldAddr 0 (.tmp 3)), some (10, false)⟩,
  ⟨some 13, .op (.load none (.tmp 12)), some (10, false)⟩,
  ⟨some 14, .op (.lenSl (.tmp 13)), some (10, false)⟩,
  ⟨some 15, .op (.bin .geq .scalar (.tmp 11) (.tmp 14)), some (10, false)⟩,
  ⟨some 16, .op (.pick (.tmp 10) (.const (.bool true)) (.tmp 15)), none⟩]) (.cond (.tmp 16) (.seq [1, 2, 3, 16] (.region [⟨some 6, .op (.mv (.const (.int .i64 (-1)))), none⟩]) .ret) .skip)) (.seq [2, 3, 7, 20] (.seq [] (.region [⟨some 7, .op (.mv (.const (.int .i64 0))), none⟩]) (.block 0 (.loop [21, 22] milestoneref7_Go_c1))) (.seq [1, 45] (.region [⟨some 45, .op (.mv (.tmp 1)), none⟩,
  ⟨some 6, .op (.mv (.tmp 45)), none⟩]) .ret)))⟩
noncomputable def milestoneref7_Go_l1 (T : Tab) (k j0 : Nat) (state1 word2 d3 i7 : AV) (h : Heap) : Option (AV × Heap) :=
  loopB T k milestoneref7_Go_rs j0 [21, 22] milestoneref7_Go_c1 [.blk 0, .seq [2, 3, 7, 20] (.seq [1, 45] (.region [⟨some 45, .op (.mv (.tmp 1)), none⟩,
  ⟨some 6, .op (.mv (.tmp 45)), none⟩]) .ret)] [.undef, state1, word2, d3, .undef, .undef, .undef, i7, .undef, .undef, .undef, .undef, .undef, .undef, .undef, .undef, .undef, .undef, .undef, .undef, .undef, .undef, .undef, .undef, .undef, .undef, .undef, .undef, .undef, .undef, .undef, .undef, .undef, .undef, .undef, .undef, .undef, .undef, .undef, .undef, .undef, .undef, .undef, .undef, .undef, .undef] h
theorem milestoneref7_Go_l1_eq (T : Tab) (k j0 : Nat) (state1 word2 d3 i7 : AV) (h : Heap) : milestoneref7_Go_l1 T k (j0 + 1) state1 word2 d3 i7 h =
    oa (lenS word2) fun t19_1 =>
    oa (binV .lss .scalar i7 t19_1) fun t20_2 =>
    cond2 t20_2
      (
      oa (idxS 1 word2 i7) fun t25_3 =>
      oa (ld1 h t25_3) fun t26_4 =>
      oa (binV .lss .scalar t26_4 (.int .i64 0)) fun t27_5 =>
      ob (gd t27_5 false (some (word2, h)) h) fun t29_6 h_7 =>
      ob (gd t27_5 false (some (i7, h_7)) h_7) fun t30_8 h_9 =>
      ob (gd t27_5 false (pure1 h_9 (idxS 1 t29_6 t30_8)) h_9) fun t31_10 h_11 =>
      ob (gd t27_5 false (pure1 h_11 (ld1 h_11 t31_10)) h_11) fun t32_12 h_13 =>
      ob (gd t27_5 false (pure1 h_13 (binV .geq .scalar t32_12 (.int .i64 5))) h_13) fun t33_14 h_15 =>
      oa (pickV t27_5 (.bool true) t33_14) fun t34_16 =>
      cond2 t34_16
        (
        some ((.int .i64 (-1)), h_15)
        )
        (
        oa (fldA 0 d3) fun t46_17 =>
        oa (ld1 h_15 t46_17) fun t47_18 =>
        oa (idxS 1 word2 i7) fun t51_19 =>
        oa (ld1 h_15 t51_19) fun t52_20 =>
        oa (idxS 5 t47_18 state1) fun t53_21 =>
        oa (idxA 5 1 t53_21 t52_20) fun t54_22 =>
        oa (ld1 h_15 t54_22) fun t55_23 =>
        oa (binV .add .scalar i7 (.int .i64 1)) fun t22_24 =>
        milestoneref7_Go_l1 T k j0 t55_23 word2 d3 t22_24 h_15
        )
      )
      (
      some (state1, h)
      ) := loopEq (by kernel_rfl)
theorem milestoneref7_Go_eq (T : Tab) (k : Nat) (d0 state1 word2 : AV) (h : Heap) : runF T k milestoneref7_Go_mf [d0, state1, word2] h =
    ob (newVar h (AV.cells d0)) fun d3_1 h_2 =>
    oa (binV .lss .scalar state1 (.int .i64 0)) fun t9_3 =>
    ob (gd t9_3 false (some (state1, h_2)) h_2) fun t11_4 h_5 =>
    ob (gd t9_3 false (pure1 h_5 (fldA 0 d3_1)) h_5) fun t12_6 h_7 =>
    ob (gd t9_3 false (pure1 h_7 (ld1 h_7 t12_6)) h_7) fun t13_8 h_9 =>
    ob (gd t9_3 false (pure1 h_9 (lenS t13_8)) h_9) fun t14_10 h_11 =>
    ob (gd t9_3 false (pure1 h_11 (binV .geq .scalar t11_4 t14_10)) h_11) fun t15_12 h_13 =>
    oa (pickV t9_3 (.bool true) t15_12) fun t16_14 =>
    cond2 t16_14
      (
      some ((.int .i64 (-1)), h_13)
      )
      (
      milestoneref7_Go_l1 T k k state1 word2 d3_1 (.int .i64 0) h_13
      ) := runEq (by kernel_rfl)
def slices_Clone_api_Edge_rs : Res := [(2, none)]
noncomputable def slices_Clone_api_Edge_mf : MFn := ⟨8, slices_Clone_api_Edge_rs, .seq [2] (.region [⟨some 2, .op (.mv (.const .nils)), none⟩]) (.seq [4] (.seq [3] (.region [⟨some 3, .op (.mv (.tmp 0)), none⟩,
  ⟨some 4, .op (.bin .eql .slice (.tmp 3) (.const .nils)), none⟩]) (.cond (.tmp 4) (.seq [0, 4] (.region [⟨some 2, .op (.mv (.const .nils)), none⟩]) .ret) .skip)) (.seq [0, 5, 6, 7] (.region [⟨some 5, .op (.buildSlice 4 0 [] []), none⟩,
  ⟨some 6, .op (.mv (.tmp 0)), none⟩,
  ⟨some 7, .op (.append 4 32 (.tmp 5) (.tmp 6)), none⟩,
  ⟨some 2, .op (.mv (.tmp 7)), none⟩]) .ret))⟩
theorem slices_Clone_api_Edge_eq (T : Tab) (k : Nat) (s0 : AV) (h : Heap) : runF T k slices_Clone_api_Edge_mf [s0] h =
    oa (binV .eql .slice s0 .nils) fun t4_1 =>
    cond2 t4_1
      (
      some (.nils, h)
      )
      (
      ob (buildSl 4 0 [] [] h) fun t5_2 h_3 =>
      ob (apnd 4 32 t5_2 s0 h_3) fun t7_4 h_5 =>
      some (t7_4, h_5)
      ) := runEq (by kernel_rfl)
def adj_Adj_is_rs : Res := [(4, none)]
noncomputable def adj_Adj_is_mf : MFn := ⟨16, adj_Adj_is_rs, .seq [4] (.region [⟨some 4, .op (.mv (.const (.bool false))), none⟩]) (.seq [0, 1, 5, 6, 7, 8, 9, 10, 11, 12, 13, 14, 15] (.region [⟨some 5, .op (.mv (.tmp 1)), none⟩,
  ⟨some 6, .op (.bin .geq .scalar (.tmp 5) (.const (.int .i64 0))), none⟩,
  ⟨some 7, .op (.mv (.tmp 6)), none⟩,
  ⟨some 8, .op (.mv (.tmp 1)), some (7, true)⟩,
  ⟨some 9, .op (.mv (.tmp 0)), some (7, true)⟩,
  ⟨some 10, .op (.nilCheck (.tmp 9)), some (7, true)⟩,
  ⟨some 11, .op (.fieldAddr 2 (.tmp 10)), some (7, true)⟩,
  ⟨some 12, .op (.load none (.tmp 11)), some (7, true)⟩,
  ⟨some 13, .op (.lenSl (.tmp 12)), some (7, true)⟩,
  ⟨some 14, .op (.bin .lss .scalar (.tmp 8) (.tmp 13)), some (7, true)⟩,
  ⟨some 15, .op (.pick (.tmp 7) (.tmp 14) (.const (.bool false))), none⟩,
  ⟨some 4, .op (.mv (.tmp 15)), none⟩]) .ret)⟩
theorem adj_Adj_is_eq (T : Tab) (k : Nat) (a0 v1 : AV) (h : Heap) : runF T k adj_Adj_is_mf [a0, v1] h =
    oa (binV .geq .scalar v1 (.int .i64 0)) fun t6_1 =>
    ob (gd t6_1 true (some (v1, h)) h) fun t8_2 h_3 =>
    ob (gd t6_1 true (some (a0, h_3)) h_3) fun t9_4 h_5 =>
    ob (gd t6_1 true (pure1 h_5 (nilCk t9_4)) h_5) fun t10_6 h_7 =>
    ob (gd t6_1 true (pure1 h_7 (fldA 2 t10_6)) h_7) fun t11_8 h_9 =>
    ob (gd t6_1 true (pure1 h_9 (ld1 h_9 t11_8)) h_9) fun t12_10 h_11 =>
    ob (gd t6_1 true (pure1 h_11 (lenS t12_10)) h_11) fun t13_12 h_13 =>
    ob (gd t6_1 true (pure1 h_13 (binV .lss .scalar t8_2 t13_12)) h_13) fun t14_14 h_15 =>
    oa (pickV t6_1 t14_14 (.bool false)) fun t15_16 =>
    some (t15_16, h_15) := runEq (by kernel_rfl)
def adj_ends_add_rs : Res := []
noncomputable def adj_ends_add_mf : MFn := ⟨26, adj_ends_add_rs, .regionD 26 [⟨0, ⟨some 26, .op (.mv (.tmp 0)), none⟩, []⟩,
  ⟨1, ⟨some 27, .op (.mv (.tmp 0)), none⟩, []⟩,
  ⟨2, ⟨some 28, .op (.mv (.tmp 0)), none⟩, []⟩,
  ⟨3, ⟨some 29, .op (.nilCheck (.tmp 28)), none⟩, []⟩,
  ⟨4, ⟨some 30, .op (.fieldAddr 0 (.tmp 29)), none⟩, []⟩,
  ⟨5, ⟨some 31, .op (.load none (.tmp 30)), none⟩, []⟩,
  ⟨6, ⟨some 32, .op (.mv (.tmp 1)), none⟩, []⟩,
  ⟨7, ⟨some 33, .op (.buildSlice 1 1 [.int .i64 0] [(0, 1, (.tmp 32))]), none⟩, []⟩,
  ⟨9, ⟨some 35, .op (.mv (.tmp 0)), none⟩, []⟩,
  ⟨10, ⟨some 36, .op (.nilCheck (.tmp 35)), none⟩, []⟩,
  ⟨11, ⟨some 37, .op (.fieldAddr 1 (.tmp 36)), none⟩, []⟩,
  ⟨12, ⟨some 38, .op (.load none (.tmp 37)), none⟩, []⟩,
  ⟨13, ⟨some 39, .op (.mv (.tmp 2)), none⟩, []⟩,
  ⟨14, ⟨some 40, .op (.buildSlice 1 1 [.int .i64 0] [(0, 1, (.tmp 39))]), none⟩, []⟩,
  ⟨8, ⟨some 34, .op (.append 1 8 (.tmp 31) (.tmp 33)), none⟩, [(38, ⟨some 38, .op (.load none (.tmp 37)), none⟩)]⟩,
  ⟨15, ⟨some 41, .op (.append 1 8 (.tmp 38) (.tmp 40)), none⟩, []⟩,
  ⟨16, ⟨some 42, .op (.nilCheck (.tmp 26)), none⟩, []⟩,
  ⟨17, ⟨some 43, .op (.fieldAddr 0 (.tmp 42)), none⟩, []⟩,
  ⟨18, ⟨some 44, .op (.store 1 (.tmp 43) (.tmp 34)), none⟩, []⟩,
  ⟨19, ⟨some 45, .op (.nilCheck (.tmp 27)), none⟩, []⟩,
  ⟨20, ⟨some 46, .op (.fieldAddr 1 (.tmp 45)), none⟩, []⟩,
  ⟨21, ⟨some 47, .op (.store 1 (.tmp 46) (.tmp 41)), none⟩, []⟩] [(6, 26), (7, 27), (8, 28), (9, 29), (10, 30), (11, 31), (12, 32), (13, 33), (14, 34), (15, 35), (16, 36), (17, 37), (18, 38), (19, 39), (20, 40), (21, 41), (22, 42), (23, 43), (24, 45), (25, 46)]⟩
theorem adj_ends_add_eq (T : Tab) (k : Nat) (e0 edge1 other2 : AV) (h : Heap) : runF T k adj_ends_add_mf [e0, edge1, other2] h =
    oa (nilCk e0) fun t29_1 =>
    oa (fldA 0 t29_1) fun t30_2 =>
    oa (ld1 h t30_2) fun t31_3 =>
    ob (buildSl 1 1 [.int .i64 0] [(0, 1, edge1)] h) fun t33_4 h_5 =>
    oa (nilCk e0) fun t36_6 =>
    oa (fldA 1 t36_6) fun t37_7 =>
    oa (ld1 h_5 t37_7) fun t38_8 =>
    ob (buildSl 1 1 [.int .i64 0] [(0, 1, other2)] h_5) fun t40_9 h_10 =>
    ob (apnd 1 8 t31_3 t33_4 h_10) fun t34_11 h_12 =>
    chk ((sameB (pure1 h_12 (ld1 h_12 t37_7)) t38_8 && true)) <|
    ob (apnd 1 8 t38_8 t40_9 h_12) fun t41_13 h_14 =>
    oa (nilCk e0) fun t42_15 =>
    oa (fldA 0 t42_15) fun t43_16 =>
    oh (stN 1 h_14 t43_16 t34_11) fun h_17 =>
    oa (nilCk e0) fun t45_18 =>
    oa (fldA 1 t45_18) fun t46_19 =>
    oh (stN 1 h_17 t46_19 t41_13) fun h_20 =>
    some (.tup [], h_20) := runEq (by kernel_rfl)
def queue_Queue_line_rs : Res := [(2, none)]
noncomputable def queue_Queue_line_mf : MFn := ⟨7, queue_Queue_line_rs, .seq [2] (.region [⟨some 2, .op (.mv (.const .nilifc)), none⟩]) (.seq [0, 3, 4, 5, 6] (.region [⟨some 3, .op (.mv (.tmp 0)), none⟩,
  ⟨some 4, .op (.nilCheck (.tmp 3)), none⟩,
  ⟨some 5, .op (.fieldAddr 0 (.tmp 4)), none⟩,
  ⟨some 6, .op (.mkIfc 123 (.tmp 5)), none⟩,
  ⟨some 2, .op (.mv (.tmp 6)), none⟩]) .ret)⟩
theorem queue_Queue_line_eq (T : Tab) (k : Nat) (q0 : AV) (h : Heap) : runF T k queue_Queue_line_mf [q0] h =
    oa (nilCk q0) fun t4_1 =>
    oa (fldA 0 t4_1) fun t5_2 =>
    some ((.ifc 123 t5_2), h) := runEq (by kernel_rfl)
def container_heap_Push_rs : Res := []
noncomputable def container_heap_Push_mf : MFn := ⟨12, container_heap_Push_rs, .seq [1, 4, 5, 6] (.region [⟨some 4, .op (.mv (.tmp 0)), none⟩,
  ⟨some 5, .op (.mv (.tmp 1)), none⟩,
  ⟨some 6, .invoke "Push" (.tmp 4) [(.tmp 5)], none⟩]) (.region [⟨some 7, .op (.mv (.tmp 0)), none⟩,
  ⟨some 8, .op (.mv (.tmp 0)), none⟩,
  ⟨some 9, .invoke "Len" (.tmp 8) [], none⟩,
  ⟨some 10, .op (.bin .sub .scalar (.tmp 9) (.const (.int .i64 1))), none⟩,
  ⟨some 11, .call f_container_heap_up [(.tmp 7), (.tmp 10)], none⟩])⟩
theorem container_heap_Push_eq (T : Tab) (k : Nat) (h0 x1 : AV) (h : Heap) : runF T k container_heap_Push_mf [h0, x1] h =
    ob (callMeth T (evalFn T k) "Push" h0 [x1] h) fun t6_1 h_2 =>
    ob (callMeth T (evalFn T k) "Len" h0 [] h_2) fun t9_3 h_4 =>
    oa (binV .sub .scalar t9_3 (.int .i64 1)) fun t10_5 =>
    ob (evalFn T k f_container_heap_up [h0, t10_5] h_4) fun t11_6 h_7 =>
    some (.tup [], h_7) := runEq (by kernel_rfl)
def container_heap_Fix_rs : Res := []
noncomputable def container_heap_Fix_mf : MFn := ⟨13, container_heap_Fix_rs, .seq [4, 5, 6, 7, 8] (.region [⟨some 4, .op (.mv (.tmp 0)), none⟩,
  ⟨some 5, .op (.mv (.tmp 1)), none⟩,
  ⟨some 6, .op (.mv (.tmp 0)), none⟩,
  ⟨some 7, .invoke "Len" (.tmp 6) [], none⟩,
  ⟨some 8, .call f_container_heap_down [(.tmp 4), (.tmp 5), (.tmp 7)], none⟩,
  ⟨some 9, .op (.un .not (.tmp 8)), none⟩]) (.cond (.tmp 9) (.region [⟨some 10, .op (.mv (.tmp 0)), none⟩,
  ⟨some 11, .op (.mv (.tmp 1)), none⟩,
  ⟨some 12, .call f_container_heap_up [(.tmp 10), (.tmp 11)], none⟩]) .skip)⟩
theorem container_heap_Fix_eq (T : Tab) (k : Nat) (h0 i1 : AV) (h : Heap) : runF T k container_heap_Fix_mf [h0, i1] h =
    ob (callMeth T (evalFn T k) "Len" h0 [] h) fun t7_1 h_2 =>
    ob (evalFn T k f_container_heap_down [h0, i1, t7_1] h_2) fun t8_3 h_4 =>
    oa (unV .not t8_3) fun t9_5 =>
    cond2 t9_5
      (
      ob (evalFn T k f_container_heap_up [h0, i1] h_4) fun t12_6 h_7 =>
      some (.tup [], h_7)
      )
      (
      some (.tup [], h_4)
      ) := runEq (by kernel_rfl)
def adj_ends_list_rs : Res := [(2, none)]
noncomputable def adj_ends_list_mf : MFn := ⟨13, adj_ends_list_rs, .seq [0, 2] (.region [⟨some 1, .op (.box (.tmp 0)), none⟩,
  ⟨some 2, .op (.mv (.const .nils)), none⟩]) (.seq [4, 5, 6] (.region [⟨some 4, .op (.fieldAddr 0 (.tmp 1)), none⟩,
  ⟨some 5, .op (.load none (.tmp 4)), none⟩,
  ⟨some 6, .op (.lenSl (.tmp 5)), none⟩,
  ⟨some 3, .op (.mv (.tmp 6)), none⟩]) (.seq [1, 3, 7, 8, 9, 10, 11, 12] (.region [⟨some 7, .op (.fieldAddr 0 (.tmp 1)), none⟩,
  ⟨some 8, .op (.load none (.tmp 7)), none⟩,
  ⟨some 9, .op (.mv (.tmp 3)), none⟩,
  ⟨some 10, .op (.mv (.tmp 3)), none⟩,
  ⟨some 11, .op (.sliceSl 1 (.tmp 8) none (some (.tmp 9)) (some (.tmp 10))), none⟩,
  ⟨some 12, .call f_slices_Clone_int [(.tmp 11)], none⟩,
  ⟨some 2, .op (.mv (.tmp 12)), none⟩]) .ret))⟩
theorem adj_ends_list_eq (T : Tab) (k : Nat) (e0 : AV) (h : Heap) : runF T k adj_ends_list_mf [e0] h =
    ob (newVar h (AV.cells e0)) fun e1_1 h_2 =>
    oa (fldA 0 e1_1) fun t4_3 =>
    oa (ld1 h_2 t4_3) fun t5_4 =>
    oa (lenS t5_4) fun t6_5 =>
    oa (fldA 0 e1_1) fun t7_6 =>
    oa (ld1 h_2 t7_6) fun t8_7 =>
    oa (slSl 1 t8_7 none (some t6_5) (some t6_5)) fun t11_8 =>
    ob (evalFn T k f_slices_Clone_int [t11_8] h_2) fun t12_9 h_10 =>
    some (t12_9, h_10) := runEq (by kernel_rfl)
def adj_Adj_side_rs : Res := [(6, some (some 2))]
noncomputable def adj_Adj_side_mf : MFn := ⟨16, adj_Adj_side_rs, .seq [] (.region [⟨some 6, .op (.alloc [.nils, .nils]), none⟩]) (.seq [10] (.seq [0, 7, 8, 9] (.region [⟨some 7, .op (.mv (.tmp 0)), none⟩,
  ⟨some 8, .op (.mv (.tmp 2)), none⟩,
  ⟨some 9, .call f_adj_Adj_is [(.tmp 7), (.tmp 8)], none⟩,
  ⟨some 10, .op (.un .not (.tmp 9)), none⟩]) (.cond (.tmp 10) (.seq [1, 2, 10, 11] (.region [⟨some 11, .op (.build [.nils, .nils] []), none⟩,
  ⟨none, .op (.store 2 (.tmp 6) (.tmp 11)), none⟩]) .ret) .skip)) (.seq [1, 2, 12, 13, 14, 15] (.region [⟨some 12, .op (.mv (.tmp 1)), none⟩,
  ⟨some 13, .op (.mv (.tmp 2)), none⟩,
  ⟨some 14, .op (.idxSl 2 (.tmp 12) (.tmp 13)), none⟩,
  ⟨some 15, .op (.load (some 2) (.tmp 14)), none⟩,
  ⟨none, .op (.store 2 (.tmp 6) (.tmp 15)), none⟩]) .ret))⟩
theorem adj_Adj_side_eq (T : Tab) (k : Nat) (a0 l1 v2 : AV) (h : Heap) : runF T k adj_Adj_side_mf [a0, l1, v2] h =
    ob (newVar h [.nils, .nils]) fun t6_1 h_2 =>
    ob (evalFn T k f_adj_Adj_is [a0, v2] h_2) fun t9_3 h_4 =>
    oa (unV .not t9_3) fun t10_5 =>
    cond2 t10_5
      (
      oa (buildV [.nils, .nils] []) fun t11_6 =>
      oh (stN 2 h_4 t6_1 t11_6) fun h_7 =>
      oa (ldN 2 h_7 t6_1) fun t6_8 =>
      some (t6_8, h_7)
      )
      (
      oa (idxS 2 l1 v2) fun t14_9 =>
      oa (ldN 2 h_4 t14_9) fun t15_10 =>
      oh (stN 2 h_4 t6_1 t15_10) fun h_11 =>
      oa (ldN 2 h_11 t6_1) fun t6_12 =>
      some (t6_12, h_11)
      ) := runEq (by kernel_rfl)
def queue_heaped_Len_rs : Res := [(2, none)]
noncomputable def queue_heaped_Len_mf : MFn := ⟨8, queue_heaped_Len_rs, .seq [2] (.region [⟨some 2, .op (.mv (.const (.int .i64 0))), none⟩]) (.seq [0, 3, 4, 5, 6, 7] (.region [⟨some 3, .op (.mv (.tmp 0)), none⟩,
  ⟨some 4, .op (.nilCheck (.tmp 3)), none⟩,
  ⟨some 5, .op (.fieldAddr 0 (.tmp 4)), none⟩,
  ⟨some 6, .op (.load none (.tmp 5)), none⟩,
  ⟨some 7, .op (.lenSl (.tmp 6)), none⟩,
  ⟨some 2, .op (.mv (.tmp 7)), none⟩]) .ret)⟩
theorem queue_heaped_Len_eq (T : Tab) (k : Nat) (h0 : AV) (h : Heap) : runF T k queue_heaped_Len_mf [h0] h =
    oa (nilCk h0) fun t4_1 =>
    oa (fldA 0 t4_1) fun t5_2 =>
    oa (ld1 h t5_2) fun t6_3 =>
    oa (lenS t6_3) fun t7_4 =>
    some (t7_4, h) := runEq (by kernel_rfl)
def container_heap_Pop_rs : Res := [(2, none)]
noncomputable def container_heap_Pop_mf : MFn := ⟨15, container_heap_Pop_rs, .seq [2] (.region [⟨some 2, .op (.mv (.const .nilifc)), none⟩]) (.seq [4, 5, 6] (.region [⟨some 4, .op (.mv (.tmp 0)), none⟩,
  ⟨some 5, .invoke "Len" (.tmp 4) [], none⟩,
  ⟨some 6, .op (.bin .sub .scalar (.tmp 5) (.const (.int .i64 1))), none⟩,
  ⟨some 3, .op (.mv (.tmp 6)), none⟩]) (.seq [7, 8, 9] (.region [⟨some 7, .op (.mv (.tmp 0)), none⟩,
  ⟨some 8, .op (.mv (.tmp 3)), none⟩,
  ⟨some 9, .invoke "Swap" (.tmp 7) [(.const (.int .i64 0)), (.tmp 8)], none⟩]) (.seq [3, 10, 11, 12] (.region [⟨some 10, .op (.mv (.tmp 0)), none⟩,
  ⟨some 11, .op (.mv (.tmp 3)), none⟩,
  ⟨some 12, .call f_container_heap_down [(.tmp 10), (.const (.int .i64 0)), (.tmp 11)], none⟩]) (.seq [0, 13, 14] (.region [⟨some 13, .op (.mv (.tmp 0)), none⟩,
  ⟨some 14, .invoke "Pop" (.tmp 13) [], none⟩,
  ⟨some 2, .op (.mv (.tmp 14)), none⟩]) .ret))))⟩
theorem container_heap_Pop_eq (T : Tab) (k : Nat) (h0 : AV) (h : Heap) : runF T k container_heap_Pop_mf [h0] h =
    ob (callMeth T (evalFn T k) "Len" h0 [] h) fun t5_1 h_2 =>
    oa (binV .sub .scalar t5_1 (.int .i64 1)) fun t6_3 =>
    ob (callMeth T (evalFn T k) "Swap" h0 [(.int .i64 0), t6_3] h_2) fun t9_4 h_5 =>
    ob (evalFn T k f_container_heap_down [h0, (.int .i64 0), t6_3] h_5) fun t12_6 h_7 =>
    ob (callMeth T (evalFn T k) "Pop" h0 [] h_7) fun t14_8 h_9 =>
    some (t14_8, h_9) := runEq (by kernel_rfl)
noncomputable def container_heap_up_c1 : MCode := .block 1 (.seq [5, 6, 7] (.region [⟨some 5, .op (.mv (.tmp 1)), none⟩,
  ⟨some 6, .op (.bin .sub .scalar (.tmp 5) (.const (.int .i64 1))), none⟩,
  ⟨some 7, .op (.bin .quo .scalar (.tmp 6) (.const (.int .i64 2))), none⟩,
  ⟨some 4, .op (.mv (.tmp 7)), none⟩]) (.seq [17] (.seq [8, 9, 10, 11, 12, 13, 14, 15, 16] (.region [⟨some 8, .op (.mv (.tmp 4)), none⟩,
  ⟨some 9, .op (.mv (.tmp 1)), none⟩,
  ⟨some 10, .op (.bin .eql .scalar (.tmp 8) (.tmp 9)), none⟩,
  ⟨some 11, .op (.mv (.tmp 10)), none⟩,
  ⟨some 12, .op (.mv (.tmp 0)), some (11, false)⟩,
  ⟨some 13, .op (.mv (.tmp 1)), some (11, false)⟩,
  ⟨some 14, .op (.mv (.tmp 4)), some (11, false)⟩,
  ⟨some 15, .invoke "Less" (.tmp 12) [(.tmp 13), (.tmp 14)], some (11, false)⟩,
  ⟨some 16, .op (.un .not (.tmp 15)), some (11, false)⟩,
  ⟨some 17, .op (.pick (.tmp 11) (.const (.bool true)) (.tmp 16)), none⟩]) (.cond (.tmp 17) (.exit 0) .skip)) (.seq [1, 18, 19, 20, 21] (.region [⟨some 18, .op (.mv (.tmp 0)), none⟩,
  ⟨some 19, .op (.mv (.tmp 4)), none⟩,
  ⟨some 20, .op (.mv (.tmp 1)), none⟩,
  ⟨some 21, .invoke "Swap" (.tmp 18) [(.tmp 19), (.tmp 20)], none⟩]) (.region [⟨some 22, .op (.mv (.tmp 4)), none⟩,
  ⟨some 1, .op (.mv (.tmp 22)), none⟩]))))
def container_heap_up_rs : Res := []
noncomputable def container_heap_up_mf : MFn := ⟨23, container_heap_up_rs, .block 0 (.loop [4, 22] container_heap_up_c1)⟩
noncomputable def container_heap_up_l1 (T : Tab) (k j0 : Nat) (h0 j1 : AV) (h : Heap) : Option (AV × Heap) :=
  loopB T k container_heap_up_rs j0 [4, 22] container_heap_up_c1 [.blk 0] [h0, j1, .undef, .undef, .undef, .undef, .undef, .undef, .undef, .undef, .undef, .undef, .undef, .undef, .undef, .undef, .undef, .undef, .undef, .undef, .undef, .undef, .undef] h
theorem container_heap_up_l1_eq (T : Tab) (k j0 : Nat) (h0 j1 : AV) (h : Heap) : container_heap_up_l1 T k (j0 + 1) h0 j1 h =
    oa (binV .sub .scalar j1 (.int .i64 1)) fun t6_1 =>
    oa (binV .quo .scalar t6_1 (.int .i64 2)) fun t7_2 =>
    oa (binV .eql .scalar t7_2 j1) fun t10_3 =>
    ob (gd t10_3 false (some (h0, h)) h) fun t12_4 h_5 =>
    ob (gd t10_3 false (some (j1, h_5)) h_5) fun t13_6 h_7 =>
    ob (gd t10_3 false (some (t7_2, h_7)) h_7) fun t14_8 h_9 =>
    ob (gd t10_3 false (callMeth T (evalFn T k) "Less" t12_4 [t13_6, t14_8] h_9) h_9) fun t15_10 h_11 =>
    ob (gd t10_3 false (pure1 h_11 (unV .not t15_10)) h_11) fun t16_12 h_13 =>
    oa (pickV t10_3 (.bool true) t16_12) fun t17_14 =>
    cond2 t17_14
      (
      some (.tup [], h_13)
      )
      (
      ob (callMeth T (evalFn T k) "Swap" h0 [t7_2, j1] h_13) fun t21_15 h_16 =>
      container_heap_up_l1 T k j0 h0 t7_2 h_16
      ) := loopEq (by kernel_rfl)
theorem container_heap_up_eq (T : Tab) (k : Nat) (h0 j1 : AV) (h : Heap) : runF T k container_heap_up_mf [h0, j1] h =
    container_heap_up_l1 T k k h0 j1 h := runEq (by kernel_rfl)
noncomputable def container_heap_down_c1 : MCode := .seq [39] (.seq [35, 36, 37, 38] (.region [⟨some 35, .op (.mv (.tmp 0)), none⟩,
  ⟨some 36, .op (.mv (.tmp 9)), none⟩,
  ⟨some 37, .op (.mv (.tmp 7)), none⟩,
  ⟨some 38, .invoke "Less" (.tmp 35) [(.tmp 36), (.tmp 37)], none⟩,
  ⟨some 39, .op (.un .not (.tmp 38)), none⟩]) (.cond (.tmp 39) (.exit 0) .skip)) (.seq [7, 40, 41, 42, 43] (.region [⟨some 40, .op (.mv (.tmp 0)), none⟩,
  ⟨some 41, .op (.mv (.tmp 7)), none⟩,
  ⟨some 42, .op (.mv (.tmp 9)), none⟩,
  ⟨some 43, .invoke "Swap" (.tmp 40) [(.tmp 41), (.tmp 42)], none⟩]) (.region [⟨some 44, .op (.mv (.tmp 9)), none⟩,
  ⟨some 7, .op (.mv (.tmp 44)), none⟩]))
noncomputable def container_heap_down_c2 : MCode := .block 1 (.seq [12, 13, 14] (.region [⟨some 12, .op (.mv (.tmp 7)), none⟩,
  ⟨some 13, .op (.bin .mul .scalar (.const (.int .i64 2)) (.tmp 12)), none⟩,
  ⟨some 14, .op (.bin .add .scalar (.tmp 13) (.const (.int .i64 1))), none⟩,
  ⟨some 8, .op (.mv (.tmp 14)), none⟩]) (.seq [21] (.seq [15, 16, 17, 18, 19, 20] (.region [⟨some 15, .op (.mv (.tmp 8)), none⟩,
  ⟨some 16, .op (.mv (.tmp 2)), none⟩,
  ⟨some 17, .op (.bin .geq .scalar (.tmp 15) (.tmp 16)), none⟩,
  ⟨some 18, .op (.mv (.tmp 17)), none⟩,
  ⟨some 19, .op (.mv (.tmp 8)), some (18, false)⟩,
  ⟨some 20, .op (.bin .lss .scalar (.tmp 19) (.const (.int .i64 0))), some (18, false)⟩,
  ⟨some 21, .op (.pick (.tmp 18) (.const (.bool true)) (.tmp 20)), none⟩]) (.cond (.tmp 21) (.exit 0) .skip)) (.seq [22] (.region [⟨some 22, .op (.mv (.tmp 8)), none⟩,
  ⟨some 9, .op (.mv (.tmp 22)), none⟩]) (.seq [10, 33, 34] (.seq [23, 24] (.region [⟨some 23, .op (.mv (.tmp 8)), none⟩,
  ⟨some 24, .op (.bin .add .scalar (.tmp 23) (.const (.int .i64 1))), none⟩,
  ⟨some 10, .op (.mv (.tmp 24)), none⟩]) (.seq [8, 25, 26, 27, 28, 29, 30, 31, 32] (.region [⟨some 25, .op (.mv (.tmp 10)), none⟩,
  ⟨some 26, .op (.mv (.tmp 2)), none⟩,
  ⟨some 27, .op (.bin .lss .scalar (.tmp 25) (.tmp 26)), none⟩,
  ⟨some 28, .op (.mv (.tmp 27)), none⟩,
  ⟨some 29, .op (.mv (.tmp 0)), some (28, true)⟩,
  ⟨some 30, .op (.mv (.tmp 10)), some (28, true)⟩,
  ⟨some 31, .op (.mv (.tmp 8)), some (28, true)⟩,
  ⟨some 32, .invoke "Less" (.tmp 29) [(.tmp 30), (.tmp 31)], some (28, true)⟩,
  ⟨some 33, .op (.pick (.tmp 28) (.tmp 32) (.const (.bool false))), none⟩]) (.cond (.tmp 33) (.region [⟨some 34, .op (.mv (.tmp 10)), none⟩,
  ⟨some 9, .op (.mv (.tmp 34)), none⟩]) .skip))) (.lab container_heap_down_c1)))))
noncomputable def container_heap_down_c3 : MCode := .seq [1, 7, 45, 46, 47] (.region [⟨some 45, .op (.mv (.tmp 7)), none⟩,
  ⟨some 46, .op (.mv (.tmp 1)), none⟩,
  ⟨some 47, .op (.bin .gtr .scalar (.tmp 45) (.tmp 46)), none⟩,
  ⟨some 6, .op (.mv (.tmp 47)), none⟩]) .ret
def container_heap_down_rs : Res := [(6, none)]
noncomputable def container_heap_down_mf : MFn := ⟨48, container_heap_down_rs, .seq [6] (.region [⟨some 6, .op (.mv (.const (.bool false))), none⟩]) (.seq [11] (.region [⟨some 11, .op (.mv (.tmp 1)), none⟩,
  ⟨some 7, .op (.mv (.tmp 11)), none⟩]) (.seq [0, 2, 8, 9, 21, 39] (.block 0 (.loop [9, 44] container_heap_down_c2)) (.lab container_heap_down_c3)))⟩
noncomputable def container_heap_down_l1 (T : Tab) (k j0 : Nat) (h0 i01 n2 i7 : AV) (h : Heap) : Option (AV × Heap) :=
  loopB T k container_heap_down_rs j0 [9, 44] container_heap_down_c2 [.blk 0, .seq [0, 2, 8, 9, 21, 39] (.lab container_heap_down_c3)] [h0, i01, n2, .undef, .undef, .undef, .undef, i7, .undef, .undef, .undef, .undef, .undef, .undef, .undef, .undef, .undef, .undef, .undef, .undef, .undef, .undef, .undef, .undef, .undef, .undef, .undef, .undef, .undef, .undef, .undef, .undef, .undef, .undef, .undef, .undef, .undef, .undef, .undef, .undef, .undef, .undef, .undef, .undef, .undef, .undef, .undef, .undef] h
noncomputable def container_heap_down_b2 (T : Tab) (k : Nat) (i01 i7 : AV) (h : Heap) : Option (AV × Heap) :=
  evB T k container_heap_down_rs container_heap_down_c3 [] [.undef, i01, .undef, .undef, .undef, .undef, .undef, i7, .undef, .undef, .undef, .undef, .undef, .undef, .undef, .undef, .undef, .undef, .undef, .undef, .undef, .undef, .undef, .undef, .undef, .undef, .undef, .undef, .undef, .undef, .undef, .undef, .undef, .undef, .undef, .undef, .undef, .undef, .undef, .undef, .undef, .undef, .undef, .undef, .undef, .undef, .undef, .undef] h
noncomputable def container_heap_down_b3 (T : Tab) (k j0 : Nat) (h0 i01 n2 i7 j9 : AV) (h : Heap) : Option (AV × Heap) :=
  evB T k container_heap_down_rs container_heap_down_c1 [.blk 1, .lp j0 [9, 44] container_heap_down_c2, .blk 0, .seq [0, 2, 8, 9, 21, 39] (.lab container_heap_down_c3)] [h0, i01, n2, .undef, .undef, .undef, .undef, i7, .undef, j9, .undef, .undef, .undef, .undef, .undef, .undef, .undef, .undef, .undef, .undef, .undef, .undef, .undef, .undef, .undef, .undef, .undef, .undef, .undef, .undef, .undef, .undef, .undef, .undef, .undef, .undef, .undef, .undef, .undef, .undef, .undef, .undef, .undef, .undef, .undef, .undef, .undef, .undef] h
theorem container_heap_down_b2_eq (T : Tab) (k : Nat) (i01 i7 : AV) (h : Heap) : container_heap_down_b2 T k i01 i7 h =
    oa (binV .gtr .scalar i7 i01) fun t47_1 =>
    some (t47_1, h) := blockEq (by kernel_rfl)
theorem container_heap_down_b3_eq (T : Tab) (k j0 : Nat) (h0 i01 n2 i7 j9 : AV) (h : Heap) : container_heap_down_b3 T k j0 h0 i01 n2 i7 j9 h =
    ob (callMeth T (evalFn T k) "Less" h0 [j9, i7] h) fun t38_1 h_2 =>
    oa (unV .not t38_1) fun t39_3 =>
    cond2 t39_3
      (
      container_heap_down_b2 T k i01 i7 h_2
      )
      (
      ob (callMeth T (evalFn T k) "Swap" h0 [i7, j9] h_2) fun t43_4 h_5 =>
      container_heap_down_l1 T k j0 h0 i01 n2 j9 h_5
      ) := blockEq (by kernel_rfl)
theorem container_heap_down_l1_eq (T : Tab) (k j0 : Nat) (h0 i01 n2 i7 : AV) (h : Heap) : container_heap_down_l1 T k (j0 + 1) h0 i01 n2 i7 h =
    oa (binV .mul .scalar (.int .i64 2) i7) fun t13_1 =>
    oa (binV .add .scalar t13_1 (.int .i64 1)) fun t14_2 =>
    oa (binV .geq .scalar t14_2 n2) fun t17_3 =>
    ob (gd t17_3 false (some (t14_2, h)) h) fun t19_4 h_5 =>
    ob (gd t17_3 false (pure1 h_5 (binV .lss .scalar t19_4 (.int .i64 0))) h_5) fun t20_6 h_7 =>
    oa (pickV t17_3 (.bool true) t20_6) fun t21_8 =>
    cond2 t21_8
      (
      container_heap_down_b2 T k i01 i7 h_7
      )
      (
      oa (binV .add .scalar t14_2 (.int .i64 1)) fun t24_9 =>
      oa (binV .lss .scalar t24_9 n2) fun t27_10 =>
      ob (gd t27_10 true (some (h0, h_7)) h_7) fun t29_11 h_12 =>
      ob (gd t27_10 true (some (t24_9, h_12)) h_12) fun t30_13 h_14 =>
      ob (gd t27_10 true (some (t14_2, h_14)) h_14) fun t31_15 h_16 =>
      ob (gd t27_10 true (callMeth T (evalFn T k) "Less" t29_11 [t30_13, t31_15] h_16) h_16) fun t32_17 h_18 =>
      oa (pickV t27_10 t32_17 (.bool false)) fun t33_19 =>
      cond2 t33_19
        (
        container_heap_down_b3 T k j0 h0 i01 n2 i7 t24_9 h_18
        )
        (
        container_heap_down_b3 T k j0 h0 i01 n2 i7 t14_2 h_18
        )
      ) := loopEq (by kernel_rfl)
theorem container_heap_down_eq (T : Tab) (k : Nat) (h0 i01 n2 : AV) (h : Heap) : runF T k container_heap_down_mf [h0, i01, n2] h =
    container_heap_down_l1 T k k h0 i01 n2 i01 h := runEq (by kernel_rfl)
def queue_item_before_rs : Res := [(4, none)]
noncomputable def queue_item_before_mf : MFn := ⟨20, queue_item_before_rs, .seq [0, 1, 4] (.region [⟨some 2, .op (.box (.tmp 0)), none⟩,
  ⟨some 3, .op (.box (.tmp 1)), none⟩,
  ⟨some 4, .op (.mv (.const (.bool false))), none⟩]) (.seq [9] (.seq [5, 6, 7, 8] (.region [⟨some 5, .op (.fieldAddr 1 (.tmp 2)), none⟩,
  ⟨some 6, .op (.load none (.tmp 5)), none⟩,
  ⟨some 7, .op (.fieldAddr 1 (.tmp 3)), none⟩,
  ⟨some 8, .op (.load none (.tmp 7)), none⟩,
  ⟨some 9, .op (.bin .neq .scalar (.tmp 6) (.tmp 8)), none⟩]) (.cond (.tmp 9) (.seq [2, 3, 9, 10, 11, 12, 13, 14] (.region [⟨some 10, .op (.fieldAddr 1 (.tmp 2)), none⟩,
  ⟨some 11, .op (.load none (.tmp 10)), none⟩,
  ⟨some 12, .op (.fieldAddr 1 (.tmp 3)), none⟩,
  ⟨some 13, .op (.load none (.tmp 12)), none⟩,
  ⟨some 14, .op (.bin .lss .scalar (.tmp 11) (.tmp 13)), none⟩,
  ⟨some 4, .op (.mv (.tmp 14)), none⟩]) .ret) .skip)) (.seq [2, 3, 15, 16, 17, 18, 19] (.region [⟨some 15, .op (.fieldAddr 0 (.tmp 2)), none⟩,
  ⟨some 16, .op (.load none (.tmp 15)), none⟩,
  ⟨some 17, .op (.fieldAddr 0 (.tmp 3)), none⟩,
  ⟨some 18, .op (.load none (.tmp 17)), none⟩,
  ⟨some 19, .op (.bin .lss .scalar (.tmp 16) (.tmp 18)), none⟩,
  ⟨some 4, .op (.mv (.tmp 19)), none⟩]) .ret))⟩
theorem queue_item_before_eq (T : Tab) (k : Nat) (x0 y1 : AV) (h : Heap) : runF T k queue_item_before_mf [x0, y1] h =
    ob (newVar h (AV.cells x0)) fun x2_1 h_2 =>
    ob (newVar h_2 (AV.cells y1)) fun y3_3 h_4 =>
    oa (fldA 1 x2_1) fun t5_5 =>
    oa (ld1 h_4 t5_5) fun t6_6 =>
    oa (fldA 1 y3_3) fun t7_7 =>
    oa (ld1 h_4 t7_7) fun t8_8 =>
    oa (binV .neq .scalar t6_6 t8_8) fun t9_9 =>
    cond2 t9_9
      (
      oa (fldA 1 x2_1) fun t10_10 =>
      oa (ld1 h_4 t10_10) fun t11_11 =>
      oa (fldA 1 y3_3) fun t12_12 =>
      oa (ld1 h_4 t12_12) fun t13_13 =>
      oa (binV .lss .scalar t11_11 t13_13) fun t14_14 =>
      some (t14_14, h_4)
      )
      (
      oa (fldA 0 x2_1) fun t15_15 =>
      oa (ld1 h_4 t15_15) fun t16_16 =>
      oa (fldA 0 y3_3) fun t17_17 =>
      oa (ld1 h_4 t17_17) fun t18_18 =>
      oa (binV .lss .scalar t16_16 t18_18) fun t19_19 =>
      some (t19_19, h_4)
      ) := runEq (by kernel_rfl)
def queue_heaped_Less_rs : Res := [(6, none)]
noncomputable def queue_heaped_Less_mf : MFn := ⟨24, queue_heaped_Less_rs, .seq [6] (.region [⟨some 6, .op (.mv (.const (.bool false))), none⟩]) (.seq [] (.region [⟨some 7, .op (.mv (.const (.fn f_queue_item_before [] []))), none⟩]) (.seq [0, 1, 2, 7, 8, 9, 10, 11, 12, 13, 14, 15, 16, 17, 18, 19, 20, 21, 22, 23] (.regionD 24 [⟨0, ⟨some 24, .op (.mv (.tmp 7)), none⟩, []⟩,
  ⟨1, ⟨some 25, .op (.mv (.tmp 0)), none⟩, []⟩,
  ⟨2, ⟨some 26, .op (.nilCheck (.tmp 25)), none⟩, []⟩,
  ⟨3, ⟨some 27, .op (.fieldAddr 0 (.tmp 26)), none⟩, []⟩,
  ⟨4, ⟨some 28, .op (.load none (.tmp 27)), none⟩, []⟩,
  ⟨5, ⟨some 29, .op (.mv (.tmp 1)), none⟩, []⟩,
  ⟨6, ⟨some 30, .op (.idxSl 2 (.tmp 28) (.tmp 29)), none⟩, []⟩,
  ⟨7, ⟨some 31, .op (.load (some 2) (.tmp 30)), none⟩, []⟩,
  ⟨8, ⟨some 32, .op (.mv (.tmp 0)), none⟩, []⟩,
  ⟨9, ⟨some 33, .op (.nilCheck (.tmp 32)), none⟩, []⟩,
  ⟨10, ⟨some 34, .op (.fieldAddr 0 (.tmp 33)), none⟩, []⟩,
  ⟨11, ⟨some 35, .op (.load none (.tmp 34)), none⟩, []⟩,
  ⟨12, ⟨some 36, .op (.mv (.tmp 2)), none⟩, []⟩,
  ⟨13, ⟨some 37, .op (.idxSl 2 (.tmp 35) (.tmp 36)), none⟩, []⟩,
  ⟨14, ⟨some 38, .op (.load (some 2) (.tmp 37)), none⟩, []⟩,
  ⟨15, ⟨some 39, .callV (.tmp 24) [(.tmp 31), (.tmp 38)], none⟩, []⟩,
  ⟨16, ⟨some 40, .op (.mv (.tmp 39)), none⟩, []⟩] [(8, 24), (9, 25), (10, 26), (11, 27), (12, 28), (13, 29), (14, 30), (15, 31), (16, 32), (17, 33), (18, 34), (19, 35), (20, 36), (21, 37), (22, 38), (23, 39), (6, 40)]) .ret))⟩
theorem queue_heaped_Less_eq (T : Tab) (k : Nat) (h0 i1 j2 : AV) (h : Heap) : runF T k queue_heaped_Less_mf [h0, i1, j2] h =
    oa (nilCk h0) fun t26_1 =>
    oa (fldA 0 t26_1) fun t27_2 =>
    oa (ld1 h t27_2) fun t28_3 =>
    oa (idxS 2 t28_3 i1) fun t30_4 =>
    oa (ldN 2 h t30_4) fun t31_5 =>
    oa (nilCk h0) fun t33_6 =>
    oa (fldA 0 t33_6) fun t34_7 =>
    oa (ld1 h t34_7) fun t35_8 =>
    oa (idxS 2 t35_8 j2) fun t37_9 =>
    oa (ldN 2 h t37_9) fun t38_10 =>
    ob (callVal (evalFn T k) (.fn f_queue_item_before [] []) [t31_5, t38_10] h) fun t39_11 h_12 =>
    some (t39_11, h_12) := runEq (by kernel_rfl)
def queue_heaped_Pop_rs : Res := [(2, none)]
noncomputable def queue_heaped_Pop_mf : MFn := ⟨36, queue_heaped_Pop_rs, .seq [2] (.region [⟨some 2, .op (.mv (.const .nilifc)), none⟩]) (.seq [5, 6, 7, 8, 9, 10] (.region [⟨some 5, .op (.mv (.tmp 0)), none⟩,
  ⟨some 6, .op (.nilCheck (.tmp 5)), none⟩,
  ⟨some 7, .op (.fieldAddr 0 (.tmp 6)), none⟩,
  ⟨some 8, .op (.load none (.tmp 7)), none⟩,
  ⟨some 9, .op (.lenSl (.tmp 8)), none⟩,
  ⟨some 10, .op (.bin .sub .scalar (.tmp 9) (.const (.int .i64 1))), none⟩,
  ⟨some 3, .op (.mv (.tmp 10)), none⟩]) (.seq [11, 12, 13, 14, 15, 16, 17] (.region [⟨some 11, .op (.mv (.tmp 0)), none⟩,
  ⟨some 12, .op (.nilCheck (.tmp 11)), none⟩,
  ⟨some 13, .op (.fieldAddr 0 (.tmp 12)), none⟩,
  ⟨some 14, .op (.load none (.tmp 13)), none⟩,
  ⟨some 15, .op (.mv (.tmp 3)), none⟩,
  ⟨some 16, .op (.idxSl 2 (.tmp 14) (.tmp 15)), none⟩,
  ⟨some 17, .op (.load (some 2) (.tmp 16)), none⟩,
  ⟨some 4, .op (.alloc [.int .i64 0, .int .i64 0]), none⟩,
  ⟨none, .op (.store 2 (.tmp 4) (.tmp 17)), none⟩]) (.seq [3, 18, 19, 20, 21, 22, 23, 24, 25, 26] (.region [⟨some 18, .op (.mv (.tmp 0)), none⟩,
  ⟨some 19, .op (.mv (.tmp 0)), none⟩,
  ⟨some 20, .op (.nilCheck (.tmp 19)), none⟩,
  ⟨some 21, .op (.fieldAddr 0 (.tmp 20)), none⟩,
  ⟨some 22, .op (.load none (.tmp 21)), none⟩,
  ⟨some 23, .op (.mv (.tmp 3)), none⟩,
  ⟨some 24, .op (.sliceSl 2 (.tmp 22) none (some (.tmp 23)) none), none⟩,
  ⟨some 25, .op (.nilCheck (.tmp 18)), none⟩,
  ⟨some 26, .op (.fieldAddr 0 (.tmp 25)), none⟩,
  ⟨none, .op (.store 1 (.tmp 26) (.tmp 24)), none⟩]) (.seq [0, 27, 28, 29, 30, 31, 32, 33] (.regionD 36 [⟨0, ⟨some 36, .op (.mv (.tmp 0)), none⟩, []⟩,
  ⟨1, ⟨some 37, .op (.nilCheck (.tmp 36)), none⟩, []⟩,
  ⟨2, ⟨some 38, .op (.fieldAddr 1 (.tmp 37)), none⟩, []⟩,
  ⟨3, ⟨some 39, .op (.load none (.tmp 38)), none⟩, []⟩,
  ⟨4, ⟨some 40, .op (.fieldAddr 0 (.tmp 4)), none⟩, []⟩,
  ⟨5, ⟨some 41, .op (.load none (.tmp 40)), none⟩, []⟩,
  ⟨6, ⟨some 42, .op (.idxSl 1 (.tmp 39) (.tmp 41)), none⟩, []⟩,
  ⟨7, ⟨some 43, .op (.store 1 (.tmp 42) (.const (.int .i64 (-1)))), none⟩, []⟩] [(27, 36), (28, 37), (29, 38), (30, 39), (31, 40), (32, 41), (33, 42)]) (.seq [4, 34, 35] (.region [⟨some 34, .op (.load (some 2) (.tmp 4)), none⟩,
  ⟨some 35, .op (.mkIfc 113 (.tmp 34)), none⟩,
  ⟨some 2, .op (.mv (.tmp 35)), none⟩]) .ret)))))⟩
theorem queue_heaped_Pop_eq (T : Tab) (k : Nat) (h0 : AV) (h : Heap) : runF T k queue_heaped_Pop_mf [h0] h =
    oa (nilCk h0) fun t6_1 =>
    oa (fldA 0 t6_1) fun t7_2 =>
    oa (ld1 h t7_2) fun t8_3 =>
    oa (lenS t8_3) fun t9_4 =>
    oa (binV .sub .scalar t9_4 (.int .i64 1)) fun t10_5 =>
    oa (nilCk h0) fun t12_6 =>
    oa (fldA 0 t12_6) fun t13_7 =>
    oa (ld1 h t13_7) fun t14_8 =>
    oa (idxS 2 t14_8 t10_5) fun t16_9 =>
    oa (ldN 2 h t16_9) fun t17_10 =>
    ob (newVar h [.int .i64 0, .int .i64 0]) fun x4_11 h_12 =>
    oh (stN 2 h_12 x4_11 t17_10) fun h_13 =>
    oa (nilCk h0) fun t20_14 =>
    oa (fldA 0 t20_14) fun t21_15 =>
    oa (ld1 h_13 t21_15) fun t22_16 =>
    oa (slSl 2 t22_16 none (some t10_5) none) fun t24_17 =>
    oa (nilCk h0) fun t25_18 =>
    oa (fldA 0 t25_18) fun t26_19 =>
    oh (stN 1 h_13 t26_19 t24_17) fun h_20 =>
    oa (nilCk h0) fun t37_21 =>
    oa (fldA 1 t37_21) fun t38_22 =>
    oa (ld1 h_20 t38_22) fun t39_23 =>
    oa (fldA 0 x4_11) fun t40_24 =>
    oa (ld1 h_20 t40_24) fun t41_25 =>
    oa (idxS 1 t39_23 t41_25) fun t42_26 =>
    oh (stN 1 h_20 t42_26 (.int .i64 (-1))) fun h_27 =>
    oa (ldN 2 h_27 x4_11) fun t34_28 =>
    some ((.ifc 113 t34_28), h_27) := runEq (by kernel_rfl)
def queue_heaped_Push_rs : Res := []
noncomputable def queue_heaped_Push_mf : MFn := ⟨34, queue_heaped_Push_rs, .seq [1, 6, 7, 8, 9, 10] (.region [⟨some 7, .op (.mv (.tmp 1)), none⟩,
  ⟨some 8, .op (.typeAssert 113 (.agg [.int .i64 0, .int .i64 0]) true (.tmp 7)), none⟩,
  ⟨some 6, .op (.mv (.tmp 8)), none⟩,
  ⟨some 9, .op (.extract 0 (.tmp 6)), none⟩,
  ⟨some 10, .op (.extract 1 (.tmp 6)), none⟩,
  ⟨some 4, .op (.alloc [.int .i64 0, .int .i64 0]), none⟩,
  ⟨none, .op (.store 2 (.tmp 4) (.tmp 9)), none⟩,
  ⟨some 5, .op (.mv (.tmp 10)), none⟩]) (.seq [5] (.region [⟨some 11, .op (.mv (.tmp 5)), none⟩]) (.cond (.tmp 11) (.seq [11, 12, 13, 14, 15, 16, 17, 18, 19, 20, 21, 22, 23] (.regionD 34 [⟨0, ⟨some 34, .op (.mv (.tmp 0)), none⟩, []⟩,
  ⟨1, ⟨some 35, .op (.nilCheck (.tmp 34)), none⟩, []⟩,
  ⟨2, ⟨some 36, .op (.fieldAddr 1 (.tmp 35)), none⟩, []⟩,
  ⟨3, ⟨some 37, .op (.load none (.tmp 36)), none⟩, []⟩,
  ⟨4, ⟨some 38, .op (.fieldAddr 0 (.tmp 4)), none⟩, []⟩,
  ⟨5, ⟨some 39, .op (.load none (.tmp 38)), none⟩, []⟩,
  ⟨6, ⟨some 40, .op (.mv (.tmp 0)), none⟩, []⟩,
  ⟨7, ⟨some 41, .op (.nilCheck (.tmp 40)), none⟩, []⟩,
  ⟨8, ⟨some 42, .op (.fieldAddr 0 (.tmp 41)), none⟩, []⟩,
  ⟨9, ⟨some 43, .op (.load none (.tmp 42)), none⟩, []⟩,
  ⟨10, ⟨some 44, .op (.lenSl (.tmp 43)), none⟩, []⟩,
  ⟨11, ⟨some 45, .op (.idxSl 1 (.tmp 37) (.tmp 39)), none⟩, []⟩,
  ⟨12, ⟨some 46, .op (.store 1 (.tmp 45) (.tmp 44)), none⟩, []⟩] [(12, 34), (13, 35), (14, 36), (15, 37), (16, 38), (17, 39), (18, 40), (19, 41), (20, 42), (21, 43), (22, 44), (23, 45)]) (.regionD 34 [⟨0, ⟨some 34, .op (.mv (.tmp 0)), none⟩, []⟩,
  ⟨1, ⟨some 35, .op (.mv (.tmp 0)), none⟩, []⟩,
  ⟨2, ⟨some 36, .op (.nilCheck (.tmp 35)), none⟩, []⟩,
  ⟨3, ⟨some 37, .op (.fieldAddr 0 (.tmp 36)), none⟩, []⟩,
  ⟨4, ⟨some 38, .op (.load none (.tmp 37)), none⟩, []⟩,
  ⟨5, ⟨some 39, .op (.load (some 2) (.tmp 4)), none⟩, []⟩,
  ⟨6, ⟨some 40, .op (.buildSlice 2 1 [.int .i64 0, .int .i64 0] [(0, 2, (.tmp 39))]), none⟩, []⟩,
  ⟨7, ⟨some 41, .op (.append 2 16 (.tmp 38) (.tmp 40)), none⟩, []⟩,
  ⟨8, ⟨some 42, .op (.nilCheck (.tmp 34)), none⟩, []⟩,
  ⟨9, ⟨some 43, .op (.fieldAddr 0 (.tmp 42)), none⟩, []⟩,
  ⟨10, ⟨some 44, .op (.store 1 (.tmp 43) (.tmp 41)), none⟩, []⟩] [(24, 34), (25, 35), (26, 36), (27, 37), (28, 38), (29, 39), (30, 40), (31, 41), (32, 42), (33, 43)])) .skip))⟩
theorem queue_heaped_Push_eq (T : Tab) (k : Nat) (h0 x1 : AV) (h : Heap) : runF T k queue_heaped_Push_mf [h0, x1] h =
    oa (tAssert 113 (.agg [.int .i64 0, .int .i64 0]) true x1) fun t8_1 =>
    oa (extr 0 t8_1) fun t9_2 =>
    oa (extr 1 t8_1) fun t10_3 =>
    ob (newVar h [.int .i64 0, .int .i64 0]) fun y4_4 h_5 =>
    oh (stN 2 h_5 y4_4 t9_2) fun h_6 =>
    cond2 t10_3
      (
      oa (nilCk h0) fun t35_7 =>
      oa (fldA 1 t35_7) fun t36_8 =>
      oa (ld1 h_6 t36_8) fun t37_9 =>
      oa (fldA 0 y4_4) fun t38_10 =>
      oa (ld1 h_6 t38_10) fun t39_11 =>
      oa (nilCk h0) fun t41_12 =>
      oa (fldA 0 t41_12) fun t42_13 =>
      oa (ld1 h_6 t42_13) fun t43_14 =>
      oa (lenS t43_14) fun t44_15 =>
      oa (idxS 1 t37_9 t39_11) fun t45_16 =>
      oh (stN 1 h_6 t45_16 t44_15) fun h_17 =>
      oa (nilCk h0) fun t36_18 =>
      oa (fldA 0 t36_18) fun t37_19 =>
      oa (ld1 h_17 t37_19) fun t38_20 =>
      oa (ldN 2 h_17 y4_4) fun t39_21 =>
      ob (buildSl 2 1 [.int .i64 0, .int .i64 0] [(0, 2, t39_21)] h_17) fun t40_22 h_23 =>
      ob (apnd 2 16 t38_20 t40_22 h_23) fun t41_24 h_25 =>
      oa (nilCk h0) fun t42_26 =>
      oa (fldA 0 t42_26) fun t43_27 =>
      oh (stN 1 h_25 t43_27 t41_24) fun h_28 =>
      some (.tup [], h_28)
      )
      (
      some (.tup [], h_6)
      ) := runEq (by kernel_rfl)
def queue_heaped_Swap_rs : Res := []
noncomputable def queue_heaped_Swap_mf : MFn := ⟨60, queue_heaped_Swap_rs, .seq [6, 7, 8, 9, 10, 11, 12, 13, 14, 15, 16, 17, 18, 19, 20, 21, 22, 23, 24, 25, 26, 27, 28, 29, 30, 31] (.regionD 60 [⟨0, ⟨some 60, .op (.mv (.tmp 0)), none⟩, []⟩,
  ⟨1, ⟨some 61, .op (.nilCheck (.tmp 60)), none⟩, []⟩,
  ⟨2, ⟨some 62, .op (.fieldAddr 0 (.tmp 61)), none⟩, []⟩,
  ⟨3, ⟨some 63, .op (.load none (.tmp 62)), none⟩, []⟩,
  ⟨4, ⟨some 64, .op (.mv (.tmp 1)), none⟩, []⟩,
  ⟨5, ⟨some 65, .op (.mv (.tmp 0)), none⟩, []⟩,
  ⟨6, ⟨some 66, .op (.nilCheck (.tmp 65)), none⟩, []⟩,
  ⟨7, ⟨some 67, .op (.fieldAddr 0 (.tmp 66)), none⟩, []⟩,
  ⟨8, ⟨some 68, .op (.load none (.tmp 67)), none⟩, []⟩,
  ⟨9, ⟨some 69, .op (.mv (.tmp 2)), none⟩, []⟩,
  ⟨10, ⟨some 70, .op (.mv (.tmp 0)), none⟩, []⟩,
  ⟨11, ⟨some 71, .op (.nilCheck (.tmp 70)), none⟩, []⟩,
  ⟨12, ⟨some 72, .op (.fieldAddr 0 (.tmp 71)), none⟩, []⟩,
  ⟨13, ⟨some 73, .op (.load none (.tmp 72)), none⟩, []⟩,
  ⟨14, ⟨some 74, .op (.mv (.tmp 2)), none⟩, []⟩,
  ⟨15, ⟨some 75, .op (.idxSl 2 (.tmp 73) (.tmp 74)), none⟩, []⟩,
  ⟨16, ⟨some 76, .op (.load (some 2) (.tmp 75)), none⟩, []⟩,
  ⟨17, ⟨some 77, .op (.mv (.tmp 0)), none⟩, []⟩,
  ⟨18, ⟨some 78, .op (.nilCheck (.tmp 77)), none⟩, []⟩,
  ⟨19, ⟨some 79, .op (.fieldAddr 0 (.tmp 78)), none⟩, []⟩,
  ⟨20, ⟨some 80, .op (.load none (.tmp 79)), none⟩, []⟩,
  ⟨21, ⟨some 81, .op (.mv (.tmp 1)), none⟩, []⟩,
  ⟨22, ⟨some 82, .op (.idxSl 2 (.tmp 80) (.tmp 81)), none⟩, []⟩,
  ⟨23, ⟨some 83, .op (.load (some 2) (.tmp 82)), none⟩, []⟩,
  ⟨24, ⟨some 84, .op (.idxSl 2 (.tmp 63) (.tmp 64)), none⟩, []⟩,
  ⟨25, ⟨some 85, .op (.store 2 (.tmp 84) (.tmp 76)), none⟩, []⟩,
  ⟨26, ⟨some 86, .op (.idxSl 2 (.tmp 68) (.tmp 69)), none⟩, []⟩,
  ⟨27, ⟨some 87, .op (.store 2 (.tmp 86) (.tmp 83)), none⟩, []⟩] [(6, 60), (7, 61), (8, 62), (9, 63), (10, 64), (11, 65), (12, 66), (13, 67), (14, 68), (15, 69), (16, 70), (17, 71), (18, 72), (19, 73), (20, 74), (21, 75), (22, 76), (23, 77), (24, 78), (25, 79), (26, 80), (27, 81), (28, 82), (29, 83), (30, 84), (31, 86)]) (.regionD 60 [⟨0, ⟨some 60, .op (.mv (.tmp 0)), none⟩, []⟩,
  ⟨1, ⟨some 61, .op (.nilCheck (.tmp 60)), none⟩, []⟩,
  ⟨2, ⟨some 62, .op (.fieldAddr 1 (.tmp 61)), none⟩, []⟩,
  ⟨3, ⟨some 63, .op (.load none (.tmp 62)), none⟩, []⟩,
  ⟨4, ⟨some 64, .op (.mv (.tmp 0)), none⟩, []⟩,
  ⟨5, ⟨some 65, .op (.nilCheck (.tmp 64)), none⟩, []⟩,
  ⟨6, ⟨some 66, .op (.fieldAddr 0 (.tmp 65)), none⟩, []⟩,
  ⟨7, ⟨some 67, .op (.load none (.tmp 66)), none⟩, []⟩,
  ⟨8, ⟨some 68, .op (.mv (.tmp 1)), none⟩, []⟩,
  ⟨9, ⟨some 69, .op (.idxSl 2 (.tmp 67) (.tmp 68)), none⟩, []⟩,
  ⟨10, ⟨some 70, .op (.fieldAddr 0 (.tmp 69)), none⟩, []⟩,
  ⟨11, ⟨some 71, .op (.load none (.tmp 70)), none⟩, []⟩,
  ⟨12, ⟨some 72, .op (.mv (.tmp 0)), none⟩, []⟩,
  ⟨13, ⟨some 73, .op (.nilCheck (.tmp 72)), none⟩, []⟩,
  ⟨14, ⟨some 74, .op (.fieldAddr 1 (.tmp 73)), none⟩, []⟩,
  ⟨15, ⟨some 75, .op (.load none (.tmp 74)), none⟩, []⟩,
  ⟨16, ⟨some 76, .op (.mv (.tmp 0)), none⟩, []⟩,
  ⟨17, ⟨some 77, .op (.nilCheck (.tmp 76)), none⟩, []⟩,
  ⟨18, ⟨some 78, .op (.fieldAddr 0 (.tmp 77)), none⟩, []⟩,
  ⟨19, ⟨some 79, .op (.load none (.tmp 78)), none⟩, []⟩,
  ⟨20, ⟨some 80, .op (.mv (.tmp 2)), none⟩, []⟩,
  ⟨21, ⟨some 81, .op (.idxSl 2 (.tmp 79) (.tmp 80)), none⟩, []⟩,
  ⟨22, ⟨some 82, .op (.fieldAddr 0 (.tmp 81)), none⟩, []⟩,
  ⟨23, ⟨some 83, .op (.load none (.tmp 82)), none⟩, []⟩,
  ⟨24, ⟨some 84, .op (.mv (.tmp 1)), none⟩, []⟩,
  ⟨25, ⟨some 85, .op (.mv (.tmp 2)), none⟩, []⟩,
  ⟨26, ⟨some 86, .op (.idxSl 1 (.tmp 63) (.tmp 71)), none⟩, []⟩,
  ⟨27, ⟨some 87, .op (.store 1 (.tmp 86) (.tmp 84)), none⟩, []⟩,
  ⟨28, ⟨some 88, .op (.idxSl 1 (.tmp 75) (.tmp 83)), none⟩, []⟩,
  ⟨29, ⟨some 89, .op (.store 1 (.tmp 88) (.tmp 85)), none⟩, []⟩] [(32, 60), (33, 61), (34, 62), (35, 63), (36, 64), (37, 65), (38, 66), (39, 67), (40, 68), (41, 69), (42, 70), (43, 71), (44, 72), (45, 73), (46, 74), (47, 75), (48, 76), (49, 77), (50, 78), (51, 79), (52, 80), (53, 81), (54, 82), (55, 83), (56, 84), (57, 85), (58, 86), (59, 88)])⟩
theorem queue_heaped_Swap_eq (T : Tab) (k : Nat) (h0 i1 j2 : AV) (h : Heap) : runF T k queue_heaped_Swap_mf [h0, i1, j2] h =
    oa (nilCk h0) fun t61_1 =>
    oa (fldA 0 t61_1) fun t62_2 =>
    oa (ld1 h t62_2) fun t63_3 =>
    oa (nilCk h0) fun t66_4 =>
    oa (fldA 0 t66_4) fun t67_5 =>
    oa (ld1 h t67_5) fun t68_6 =>
    oa (nilCk h0) fun t71_7 =>
    oa (fldA 0 t71_7) fun t72_8 =>
    oa (ld1 h t72_8) fun t73_9 =>
    oa (idxS 2 t73_9 j2) fun t75_10 =>
    oa (ldN 2 h t75_10) fun t76_11 =>
    oa (nilCk h0) fun t78_12 =>
    oa (fldA 0 t78_12) fun t79_13 =>
    oa (ld1 h t79_13) fun t80_14 =>
    oa (idxS 2 t80_14 i1) fun t82_15 =>
    oa (ldN 2 h t82_15) fun t83_16 =>
    oa (idxS 2 t63_3 i1) fun t84_17 =>
    oh (stN 2 h t84_17 t76_11) fun h_18 =>
    oa (idxS 2 t68_6 j2) fun t86_19 =>
    oh (stN 2 h_18 t86_19 t83_16) fun h_20 =>
    oa (nilCk h0) fun t61_21 =>
    oa (fldA 1 t61_21) fun t62_22 =>
    oa (ld1 h_20 t62_22) fun t63_23 =>
    oa (nilCk h0) fun t65_24 =>
    oa (fldA 0 t65_24) fun t66_25 =>
    oa (ld1 h_20 t66_25) fun t67_26 =>
    oa (idxS 2 t67_26 i1) fun t69_27 =>
    oa (fldA 0 t69_27) fun t70_28 =>
    oa (ld1 h_20 t70_28) fun t71_29 =>
    oa (nilCk h0) fun t73_30 =>
    oa (fldA 1 t73_30) fun t74_31 =>
    oa (ld1 h_20 t74_31) fun t75_32 =>
    oa (nilCk h0) fun t77_33 =>
    oa (fldA 0 t77_33) fun t78_34 =>
    oa (ld1 h_20 t78_34) fun t79_35 =>
    oa (idxS 2 t79_35 j2) fun t81_36 =>
    oa (fldA 0 t81_36) fun t82_37 =>
    oa (ld1 h_20 t82_37) fun t83_38 =>
    oa (idxS 1 t63_23 t71_29) fun t86_39 =>
    oh (stN 1 h_20 t86_39 i1) fun h_40 =>
    oa (idxS 1 t75_32 t83_38) fun t88_41 =>
    oh (stN 1 h_40 t88_41 j2) fun h_42 =>
    some (.tup [], h_42) := runEq (by kernel_rfl)
def queue_heaped_place_rs : Res := [(4, none)]
noncomputable def queue_heaped_place_mf : MFn := ⟨23, queue_heaped_place_rs, .seq [4] (.region [⟨some 4, .op (.mv (.const (.int .i64 0))), none⟩]) (.seq [15] (.seq [5, 6, 7, 8, 9, 10, 11, 12, 13, 14] (.region [⟨some 5, .op (.mv (.tmp 1)), none⟩,
  ⟨some 6, .op (.bin .lss .scalar (.tmp 5) (.const (.int .i64 0))), none⟩,
  ⟨some 7, .op (.mv (.tmp 6)), none⟩,
  ⟨some 8, .op (.mv (.tmp 1)), some (7, false)⟩,
  ⟨some 9, .op (.mv (.tmp 0)), some (7, false)⟩,
  ⟨some 10, .op (.nilCheck (.tmp 9)), some (7, false)⟩,
  ⟨some 11, .op (.fieldAddr 1 (.tmp 10)), some (7, false)⟩,
  ⟨some 12, .op (.load none (.tmp 11)), some (7, false)⟩,
  ⟨some 13, .op (.lenSl (.tmp 12)), some (7, false)⟩,
  ⟨some 14, .op (.bin .geq .scalar (.tmp 8) (.tmp 13)), some (7, false)⟩,
  ⟨some 15, .op (.pick (.tmp 7) (.const (.bool true)) (.tmp 14)), none⟩]) (.cond (.tmp 15) (.seq [0, 1, 15] (.region [⟨some 4, .op (.mv (.const (.int .i64 (-1)))), none⟩]) .ret) .skip)) (.seq [0, 1, 16, 17, 18, 19, 20, 21, 22] (.region [⟨some 16, .op (.mv (.tmp 0)), none⟩,
  ⟨some 17, .op (.nilCheck (.tmp 16)), none⟩,
  ⟨some 18, .op (.fieldAddr 1 (.tmp 17)), none⟩,
  ⟨some 19, .op (.load none (.tmp 18)), none⟩,
  ⟨some 20, .op (.mv (.tmp 1)), none⟩,
  ⟨some 21, .op (.idxSl 1 (.tmp 19) (.tmp 20)), none⟩,
  ⟨some 22, .op (.load none (.tmp 21)), none⟩,
  ⟨some 4, .op (.mv (.tmp 22)), none⟩]) .ret))⟩
theorem queue_heaped_place_eq (T : Tab) (k : Nat) (h0 id1 : AV) (h : Heap) : runF T k queue_heaped_place_mf [h0, id1] h =
    oa (binV .lss .scalar id1 (.int .i64 0)) fun t6_1 =>
    ob (gd t6_1 false (some (id1, h)) h) fun t8_2 h_3 =>
    ob (gd t6_1 false (some (h0, h_3)) h_3) fun t9_4 h_5 =>
    ob (gd t6_1 false (pure1 h_5 (nilCk t9_4)) h_5) fun t10_6 h_7 =>
    ob (gd t6_1 false (pure1 h_7 (fldA 1 t10_6)) h_7) fun t11_8 h_9 =>
    ob (gd t6_1 false (pure1 h_9 (ld1 h_9 t11_8)) h_9) fun t12_10 h_11 =>
    ob (gd t6_1 false (pure1 h_11 (lenS t12_10)) h_11) fun t13_12 h_13 =>
    ob (gd t6_1 false (pure1 h_13 (binV .geq .scalar t8_2 t13_12)) h_13) fun t14_14 h_15 =>
    oa (pickV t6_1 (.bool true) t14_14) fun t15_16 =>
    cond2 t15_16
      (
      some ((.int .i64 (-1)), h_15)
      )
      (
      oa (nilCk h0) fun t17_17 =>
      oa (fldA 1 t17_17) fun t18_18 =>
      oa (ld1 h_15 t18_18) fun t19_19 =>
      oa (idxS 1 t19_19 id1) fun t21_20 =>
      oa (ld1 h_15 t21_20) fun t22_21 =>
      some (t22_21, h_15)
      ) := runEq (by kernel_rfl)
end Go.Gm.A9

set_option linter.unusedVariables false
namespace Go.Gm.A9
open Go Go.Gm
def methL : List (TypeId × String × FuncId) := [(123, "Len", 55), (123, "Less", 79), (123, "Pop", 80), (123, "Push", 81), (123, "Swap", 82), (123, "milestone/queue.place", 83)]
def meths : TypeId → String → Option FuncId := fun t nm => (methL.find? fun p => p.1 == t && p.2.1 == nm).map (·.2.2)
noncomputable def h_milestonelaw9_ProductGreat : Hint := mkHint 118 [[6], [16], [15], [0, 1, 2, 16], [0, 17, 18, 19, 20], [], [21], [1], [2, 9, 26], [], [27, 28], [26], [22, 23, 24, 25], [41, 42, 43, 44, 45, 46, 47, 48, 49, 50, 51, 52], [29, 30, 31, 32, 33, 34, 35, 36, 37, 38, 39, 40], [], [53, 54, 55, 56], [57, 58, 59, 60, 61, 62, 63, 64, 65], [66, 67, 68, 69, 70, 71, 72, 73, 74], [7, 8, 10, 11, 12, 13, 14, 75, 76, 77, 78, 79, 80, 81, 82, 83, 84, 85, 86, 87, 88, 89, 90, 91, 92, 93, 94, 95, 96, 97, 98, 99, 100, 101, 102, 103, 104, 105, 106, 107, 108, 109, 110, 111, 112, 113, 114, 115, 116, 117]] [] [6, 8]
noncomputable def h_milestonelaw9_known : Hint := mkHint 67 [[0], [8, 9, 10], [11, 12, 13, 14], [15, 16, 17, 18, 19, 20], [21, 22, 23, 24, 25, 26], [1, 2, 27, 28, 29], [3, 4, 5, 6, 7, 30, 31, 32, 33, 34, 35, 36, 37, 38, 39, 40, 41, 42, 43, 44, 45, 46, 47, 48, 49, 50, 51, 52, 53, 54, 55, 56, 57, 58, 59, 60, 61, 62, 63, 64, 65, 66]] [] []
noncomputable def h_milestonelaw9_within : Hint := mkHint 15 [[4], [0, 6, 7, 8], [1, 10, 11, 12, 13], [9], [5, 14]] [] []
noncomputable def h_product_Costs : Hint := mkHint 48 [[0, 1, 6], [2, 4, 11, 12, 13, 14, 15, 16, 17], [18, 19], [3, 20, 21, 22], [7, 24, 25, 26], [23], [46], [], [26], [9, 10, 35, 36, 37, 38, 39, 40, 41, 42, 43, 44, 45], [27], [28, 29, 30], [31, 32, 33], [34], [8, 47]] [] []
noncomputable def h_product_Route : Hint := mkHint 38 [[0, 1, 9], [2, 4, 5, 12, 13, 14, 15, 16, 17, 18], [19, 20], [3, 21, 22, 23], [25], [24], [10, 11, 25, 26], [10, 11, 27, 28, 29, 30, 31, 32, 33, 34, 35, 36, 37]] [(6, [[], [0], [0, 1], [0, 1, 2], [], [0, 1, 2, 3, 4], [0, 1, 2, 3, 4, 5], [], [], [7, 8], [0, 1, 2, 3, 4, 5, 6, 7, 8, 9], [0, 1, 2, 3, 4, 5, 6, 7, 8, 9, 10], [0, 1, 2, 3, 4, 5, 6, 7, 8, 9, 10, 11]], [0, 1, 2, 3, 4, 5, 6, 7, 8, 9, 10, 11, 12])] []
noncomputable def h_product_Both : Hint := mkHint 129 [[0, 1, 8, 9], [4, 25, 26, 27], [2, 28, 29, 30, 31, 32], [], [3, 34, 35, 36, 37], [5, 33], [48], [], [37], [13, 41, 42, 43, 44, 45, 46, 47], [38, 39, 40], [14], [12, 49, 50, 51], [], [52], [53, 54, 55], [10, 11, 15, 17, 18, 19, 70], [], [71, 72], [70], [56, 57, 58, 59, 60, 61, 62, 63, 64, 65, 66, 67, 68, 69], [112, 113, 114, 115], [73, 74, 75, 76, 77, 78, 79], [81], [21, 80], [10, 15, 18, 19, 20, 81, 82, 83, 84, 85, 86], [17, 91, 92, 93], [11, 87, 88, 89, 90], [98], [], [93], [22, 95, 96, 97], [94], [99, 100, 101], [20, 102, 103, 104, 105, 106, 107, 108, 109, 110, 111], [124], [], [115], [24, 118, 119, 120, 121, 122, 123], [116, 117], [16, 125, 126, 127, 128]] [(15, [[], [0], [0, 1], [0, 1, 2], [0, 1, 2, 3], [0, 1, 2, 3, 4], [0, 1, 2, 3, 4, 5], [0, 1, 2], [0, 1, 2, 7], [0, 1, 2, 7, 8], [0, 1, 2, 7, 8, 9], [0, 1, 2, 3, 4, 5, 6, 7, 8, 9, 10], [0, 1, 2], [0, 1, 2, 3, 4, 5, 6, 7, 8, 9, 10, 11, 12], [0, 1, 2, 3, 4, 5, 6, 7, 8, 9, 10, 11, 12, 13]], [0, 1, 2, 3, 4, 5, 6, 7, 8, 9, 10, 11, 12, 13, 14]), (26, [[], [0], [0, 1], [0, 1, 2], [0, 1, 2, 3], [0, 1, 2, 3, 4], [], [], [], [7, 8], [0, 1, 2, 3, 4, 5, 6, 7, 8, 9], [0, 1, 2, 3, 4, 5, 6, 7, 8, 9, 10], []], [0, 1, 2, 3, 4, 5, 6, 7, 8, 12, 9, 10, 11]), (31, [[], [0], [], [2], [0, 1], [0, 1, 2, 3, 4]], [0, 1, 2, 3, 4, 5])] [4, 16, 21, 23]
noncomputable def h_milestonelaw9_Right : Hint := mkHint 43 [[0, 1, 4, 12], [2, 3, 6, 16, 17, 18, 19, 20, 21, 22, 23, 24, 25], [5, 7, 10, 13, 14, 15, 26, 27, 28, 29, 30, 31, 32, 33, 34, 35, 36, 37, 38, 39, 40, 41, 42]] [] []
noncomputable def h_product_join : Hint := mkHint 56 [[0, 1, 4], [2, 10, 11, 12, 13, 14, 15, 16, 17, 18, 19], [21, 22, 23, 24], [3, 20], [54], [], [24], [6, 28, 29, 30], [25, 26, 27], [7], [53], [], [30], [8, 9, 33, 34, 35, 36, 37, 38, 39, 40, 41, 42, 43, 44, 45, 46, 47, 48, 49, 50, 51, 52], [31, 32], [5, 55]] [(1, [[], [], [1], [], [], [4], [4, 5], [4, 5, 6], [0, 1, 2, 3, 4, 5, 6, 7], [0, 1, 2, 3, 4, 5, 6, 7, 8], [0, 1, 2, 3, 4, 5, 6, 7, 8, 9]], [0, 1, 3, 4, 5, 6, 7, 2, 8, 9, 10]), (8, [[], [0], [0, 1], [0, 1, 2], [], [], [], [6], [6, 7], [6, 7, 8], [], [], [6, 7, 8, 9, 10], [6, 7, 8, 9, 10, 11, 12], [6, 7, 8, 9, 10, 11, 12, 13], [], [15], [6, 7, 8, 9, 10, 11, 12, 13, 14, 15, 16], [0, 1, 2, 3, 4], [0, 1, 2, 3, 4, 5, 6, 7, 8, 9, 10, 11, 12, 13, 14, 15, 16, 17, 18], [0, 1, 2, 3, 4, 5, 6, 7, 8, 9, 10, 11, 12, 13, 14, 15, 16, 17, 18, 19]], [0, 1, 2, 3, 4, 5, 6, 7, 8, 9, 10, 11, 12, 13, 14, 15, 16, 18, 17, 19, 20])] []
noncomputable def h_product_graph_begin : Hint := mkHint 80 [[6], [12, 13, 14, 15, 16, 17, 18, 19, 20, 21, 22, 23, 24], [1, 7, 25, 26, 27, 28, 29, 30, 31, 32, 33, 34, 35, 36], [41, 42, 43], [37, 38, 39, 40], [63], [], [43], [9, 45, 46, 47, 48, 49, 50, 51, 52, 53, 54, 55, 56, 57, 58, 59, 60, 61, 62], [44], [0, 64, 65, 66, 67], [2], [78], [], [67], [11, 70, 71, 72, 73, 74, 75, 76, 77], [68, 69], [8, 79]] [(1, [[], [0], [0, 1], [0, 1, 2], [0, 1, 2, 3], [0, 1, 2, 3, 4], [], [6], [6, 7], [6, 7, 8], [6, 7, 8, 9], [6, 7, 8, 9, 10], [0, 1, 2, 3, 4, 5, 6, 7, 8, 9, 10, 11], [0, 1, 2, 3, 4, 5, 6, 7, 8, 9, 10, 11, 12]], [0, 1, 2, 3, 4, 5, 6, 7, 8, 9, 10, 11, 12, 13]), (2, [[], [], [], [2], [], [4], [], [6], [], [8], [0, 1, 2, 3, 4, 5, 6, 7, 8, 9], [0, 1, 2, 3, 4, 5, 6, 7, 8, 9, 10], [0, 1, 2, 3, 4, 5, 6, 7, 8, 9, 10, 11]], [0, 1, 2, 4, 5, 6, 7, 8, 9, 3, 10, 11, 12]), (6, [[], [0], [0, 1], [0, 1, 2], [], [], [5], [5, 6], [5, 6, 7], [], [], [10], [10, 11], [10, 11, 12], [], [0, 1, 2, 3, 4, 5, 6, 7, 8, 10, 11, 12, 13], [0, 1, 2, 3, 4, 5, 6, 7, 8, 10, 11, 12, 13, 15], [0, 1, 2, 3, 4, 5, 6, 7, 8, 9, 10, 11, 12, 13, 15, 16], [0, 1, 2, 3, 4, 5, 6, 7, 8, 9, 10, 11, 12, 13, 15, 16, 17], [0, 1, 2, 3, 4, 5, 6, 7, 8, 9, 10, 11, 12, 13, 14, 15, 16, 17, 18], [0, 1, 2, 3, 4, 5, 6, 7, 8, 9, 10, 11, 12, 13, 14, 15, 16, 17, 18, 19]], [0, 1, 2, 3, 4, 5, 6, 7, 8, 9, 10, 11, 12, 13, 14, 15, 16, 17, 18, 19, 20]), (11, [[], [0], [0, 1], [0, 1, 2], [], [], [4, 5], [0, 1, 2, 3, 4, 5, 6]], [0, 1, 2, 3, 4, 5, 6, 7])] [3]
noncomputable def h_product_graph_on : Hint := mkHint 51 [[1, 4], [], [0, 3, 15, 16, 17, 18], [9, 10, 11, 12, 13, 14], [49], [], [18], [7, 8, 29, 30, 31, 32, 33, 34, 35, 36, 37, 38, 39, 40, 41, 42, 43, 44, 45, 46, 47, 48], [19, 20], [21, 22, 23, 24, 25, 26, 27, 28], [5, 50]] [(2, [[], [0], [0, 1], [0, 1, 2], [], [4], [0, 1, 2, 3, 4, 5], [0, 1, 2, 3, 4, 5, 6], []], [0, 1, 2, 3, 4, 5, 8, 6, 7]), (6, [[], [], [1], [], [3], [3, 4], [3, 4, 5], [3, 4, 5, 6], [], [8], [], [10], [3, 4, 5, 6, 7, 8, 9], [3, 4, 5, 6, 7, 8, 9, 10, 11, 12], [3, 4, 5, 6, 7, 8, 9, 10, 11, 12, 13], [1, 2, 3, 4, 5, 6, 7, 8, 9, 10, 11, 12, 13, 14], [], [1, 2, 3, 4, 5, 6, 7, 8, 9, 10, 11, 12, 13, 14, 15, 16], [1, 2, 3, 4, 5, 6, 7, 8, 9, 10, 11, 12, 13, 14, 15, 16, 17], [0, 1, 2, 3, 4, 5, 6, 7, 8, 9, 10, 11, 12, 13, 14, 15, 16, 17, 18], [0, 1, 2, 3, 4, 5, 6, 7, 8, 9, 10, 11, 12, 13, 14, 15, 16, 17, 18, 19]], [0, 1, 2, 3, 4, 5, 6, 7, 8, 9, 10, 11, 12, 13, 14, 15, 16, 17, 18, 19, 20])] []
noncomputable def h_product_search_all : Hint := mkHint 11 [[10], [2, 4, 5, 6, 7, 8], [3, 9]] [] []
noncomputable def h_product_search_best : Hint := mkHint 66 [[4], [], [0, 1, 16, 17, 18, 19], [9, 10, 11, 12, 13, 14, 15], [64], [], [19], [8, 62, 63], [20, 21, 22], [6, 23, 24, 25, 26, 27, 28, 29, 30], [7, 31, 32, 33, 34, 35, 36, 37, 38, 39, 40, 41, 42, 43, 44, 45, 46, 47, 48, 49, 50, 51, 52, 53, 54, 55, 56, 57, 58, 59, 60, 61], [5, 65]] [(6, [[], [0], [0, 1], [0, 1, 2], [0, 1, 2, 3], [0, 1, 2, 3, 4], [0, 1], [0, 1, 2, 3, 4, 5, 6], [0, 1, 2, 3, 4, 5, 6, 7], [0, 1, 2, 3, 4, 5, 6, 7, 8], [0, 1, 2, 3, 4, 5, 6, 7, 8, 9], [0, 1, 2, 3, 4, 5, 6, 7, 8, 9, 10], [0, 1, 2, 3, 4, 5, 6, 7, 8, 9, 10, 11], [0, 1, 2, 3, 4, 5, 6, 7, 8, 9, 10, 11, 12], [0, 1, 2, 3, 4, 5, 6, 7, 8, 9, 10, 11, 12, 13], [0, 1, 2, 3, 4, 5, 6, 7, 8, 9, 10, 11, 12, 13, 14], [0, 1, 2, 3, 4, 5, 6, 7, 8, 9, 10, 11, 12, 13, 14, 15], [0, 1, 2, 3, 4, 5, 6, 7, 8, 9, 10, 11, 12, 13, 14, 15, 16], [0, 1, 2, 3, 4, 5, 6, 7, 8, 9, 10, 11, 12, 13, 14, 15, 16, 17], [0, 1, 2, 3, 4, 5, 6, 7, 8, 9, 10, 11, 12, 13, 14], [0, 1, 2, 3, 4, 5, 6, 7, 8, 9, 10, 11, 12, 13, 14, 15, 16, 17, 18, 19], [0, 1, 2, 3, 4, 5, 6, 7, 8, 9, 10, 11, 12, 13, 14, 15, 16, 17, 18, 19, 20], [0, 1, 2, 3, 4, 5, 6, 7, 8, 9, 10, 11, 12, 13, 14], [0, 1, 2, 3, 4, 5, 6, 7, 8, 9, 10, 11, 12, 13, 14, 22], [0, 1, 2, 3, 4, 5, 6, 7, 8, 9, 10, 11, 12, 13, 14, 22, 23], [0, 1, 2, 3, 4, 5, 6, 7, 8, 9, 10, 11, 12, 13, 14, 22, 23, 24], [0, 1, 2, 3, 4, 5, 6, 7, 8, 9, 10, 11, 12, 13, 14], [0, 1, 2, 3, 4, 5, 6, 7, 8, 9, 10, 11, 12, 13, 14, 22, 23, 24, 25, 26], [0, 1, 2, 3, 4, 5, 6, 7, 8, 9, 10, 11, 12, 13, 14, 22, 23, 24, 25, 26, 27], [0, 1, 2, 3, 4, 5, 6, 7, 8, 9, 10, 11, 12, 13, 14, 15, 16, 17, 18, 19, 20, 21, 22, 23, 24, 25, 26, 27, 28], [0, 1, 2, 3, 4, 5, 6, 7, 8, 9, 10, 11, 12, 13, 14, 15, 16, 17, 18, 19, 20, 21, 22, 23, 24, 25, 26, 27, 28, 29], [0, 1, 2, 3, 4, 5, 6, 7, 8, 9, 10, 11, 12, 13, 14, 15, 16, 17, 18, 19, 20, 21, 22, 23, 24, 25, 26, 27, 28, 29, 30]], [0, 1, 2, 3, 4, 5, 6, 7, 8, 9, 10, 11, 12, 13, 14, 15, 16, 17, 18, 19, 20, 21, 22, 23, 24, 25, 26, 27, 28, 29, 30, 31])] []
noncomputable def h_product_search_edges : Hint := mkHint 35 [[4], [], [0, 1, 13], [14, 15, 16, 17, 18, 19, 20], [13], [6, 7, 8, 9, 10, 11, 12], [21, 22, 23, 24, 25, 26, 27, 28, 29, 30], [31, 32], [5, 33, 34]] [] [2]
noncomputable def h_product_graph_back : Hint := mkHint 59 [[1, 4], [], [0, 3, 17, 18, 19, 20], [11, 12, 13, 14, 15, 16], [57], [], [20], [7, 8, 41, 42, 43, 44], [21, 22], [23, 24, 25, 26, 27, 28, 29, 30], [31, 32, 33, 34, 35, 36, 37, 38, 39, 40], [56], [], [44], [10, 47, 48, 49, 50, 51, 52, 53, 54, 55], [45, 46], [5, 58]] [(2, [[], [0], [0, 1], [0, 1, 2], [], [4], [0, 1, 2, 3, 4, 5], [0, 1, 2, 3, 4, 5, 6], []], [0, 1, 2, 3, 4, 5, 8, 6, 7]), (6, [[], [0], [0, 1], [0, 1, 2], [], [4], [], [6], [0, 1, 2, 3, 4, 5], [0, 1, 2, 3, 4, 5, 6, 7, 8], [0, 1, 2, 3, 4, 5, 6, 7, 8, 9], [0, 1, 2, 3, 4, 5, 6, 7, 8, 9, 10], []], [0, 1, 2, 3, 4, 5, 6, 7, 8, 9, 10, 11, 12])] []
noncomputable def h_product_Both_1 : Hint := mkHint 33 [[0, 1, 2, 7, 8, 9, 10, 11, 12], [13, 14, 15, 16, 17, 18, 19, 20, 21, 22, 23, 24, 25, 26, 27, 28]] [(0, [[], [], [0, 1], [], [], [0, 1, 2, 3, 4], [0, 1, 2, 3, 4, 5], [0, 1, 2, 3, 4, 5, 6]], [0, 1, 3, 4, 2, 5, 6, 7])] []
noncomputable def h_product_search_found : Hint := mkHint 33 [[4], [14], [7, 8, 9, 10, 11, 12, 13], [0, 1, 14, 15, 16, 17, 18, 19, 20, 21], [5, 31], [0, 1, 22, 23, 24, 25, 26, 27, 28, 29, 30], [6], [5, 31, 32], []] [] []
noncomputable def h_product_search_step : Hint := mkHint 107 [[2, 3], [10, 11, 12, 13, 14, 15, 16, 17, 18], [20], [6, 19], [0, 4, 5, 20], [21, 22, 23, 24, 25, 26, 27, 28, 29, 30, 31], [0, 5, 46, 47, 48, 49], [32, 33, 34, 35, 36, 37, 38, 39, 40, 41, 42, 43, 44, 45], [105], [], [49], [8, 9, 89, 90, 91, 92, 93, 94, 95, 96, 97, 98, 99, 100, 101, 102, 103, 104], [50, 51], [52, 53, 54, 55, 56, 57, 58], [59, 60, 61, 62, 63, 64, 65, 66, 67, 68, 69, 70, 71, 72, 73, 74, 75, 76, 77, 78, 79, 80, 81, 82, 83, 84, 85, 86, 87, 88], [4, 106]] [(5, [[], [0], [0, 1], [0, 1, 2], [], [4], [4, 5], [4, 5, 6], [], [8], [8, 9], [8, 9, 10], [], [8, 9, 10, 11, 12], [0, 1, 2, 3, 4, 5, 6, 7, 8, 9, 10, 11, 12, 13], [0, 1, 2, 3, 4, 5, 6, 7, 8, 9, 10, 11, 12, 13, 14], []], [0, 1, 2, 3, 4, 5, 6, 7, 8, 9, 10, 11, 12, 16, 13, 14, 15]), (8, [[], [0], [0, 1], [0, 1, 2], [], [4], [0, 1, 2, 3, 4, 5], [0, 1, 2, 3, 4, 5, 6]], [0, 1, 2, 3, 4, 5, 6, 7]), (9, [[], [0], [0, 1], [0, 1, 2], [], [0, 1, 2, 3, 4], [0, 1, 2, 3, 4, 5], [0, 1, 2, 3, 4, 5, 6], [0, 1, 2, 3, 4, 5, 6, 7], [0, 1, 2, 3, 4, 5, 6, 7, 8], [0, 1, 2, 3, 4, 5, 6, 7, 8, 9], [0, 1, 2, 3, 4, 5, 6, 7, 8, 9, 10], [0, 1, 2, 3, 4, 5, 6, 7, 8, 9, 10, 11], [0, 1, 2, 3, 4, 5, 6, 7, 8], [0, 1, 2, 3, 4, 5, 6, 7, 8], [0, 1, 2, 3, 4, 5, 6, 7, 8], [0, 1, 2, 3, 4, 5, 6, 7, 8, 15], [0, 1, 2, 3, 4, 5, 6, 7, 8, 15, 16], [0, 1, 2, 3, 4, 5, 6, 7, 8, 15, 16, 17], [0, 1, 2, 3, 4, 5, 6, 7, 8, 15, 16, 17, 18], [0, 1, 2, 3, 4, 5, 6, 7, 8, 15, 16, 17, 18, 19], [0, 1, 2, 3, 4, 5, 6, 7, 8, 15, 16, 17, 18, 19, 20], [0, 1, 2, 3, 4, 5, 6, 7, 8, 15, 16, 17, 18, 19, 20, 21], [0, 1, 2, 3, 4, 5, 6, 7, 8], [0, 1, 2, 3, 4, 5, 6, 7, 8, 23], [0, 1, 2, 3, 4, 5, 6, 7, 8, 15, 16, 17, 18, 19, 20, 21, 22, 23, 24], [0, 1, 2, 3, 4, 5, 6, 7, 8, 15, 16, 17, 18, 19, 20, 21, 22, 23, 24, 25], [0, 1, 2, 3, 4, 5, 6, 7, 8, 15, 16, 17, 18, 19, 20, 21, 22, 23, 24, 25, 26], [0, 1, 2, 3, 4, 5, 6, 7, 8, 14, 15, 16, 17, 18, 19, 20, 21, 22, 23, 24, 25, 26, 27], [0, 1, 2, 3, 4, 5, 6, 7, 8, 9, 10, 11, 12, 13, 14, 15, 16, 17, 18, 19, 20, 21, 22, 23, 24, 25, 26, 27, 28], [0, 1, 2, 3, 4, 5, 6, 7, 8, 9, 10, 11, 12, 13, 14, 15, 16, 17, 18, 19, 20, 21, 22, 23, 24, 25, 26, 27, 28, 29]], [0, 1, 2, 3, 4, 5, 6, 7, 8, 9, 10, 11, 12, 13, 14, 15, 16, 17, 18, 19, 20, 21, 22, 23, 24, 25, 26, 27, 28, 29, 30]), (10, [[], [0], [0, 1], [0, 1, 2], [], [], [5], [5, 6], [5, 6, 7], [], [], [10], [], [0, 1, 2, 3, 4, 5, 6, 7, 8, 10, 11], [0, 1, 2, 3, 4, 5, 6, 7, 8, 10, 11, 13], [0, 1, 2, 3, 4, 5, 6, 7, 8, 9, 10, 11, 12, 13, 14], [0, 1, 2, 3, 4, 5, 6, 7, 8, 9, 10, 11, 12, 13, 14, 15]], [0, 1, 2, 3, 4, 5, 6, 7, 8, 9, 10, 11, 12, 13, 14, 15, 16])] [6]
noncomputable def h_product_graph_spot : Hint := mkHint 22 [[], [0, 1, 5, 6, 7, 8, 9, 10, 11, 12, 13, 14, 15, 16, 17, 18, 19, 20, 21]] [(1, [[], [], [1], [1, 2], [1, 2, 3], [1, 2, 3, 4], [1, 2, 3, 4, 5], [0, 1, 2, 3, 4, 5, 6], [], [], [9], [9, 10], [9, 10, 11], [9, 10, 11, 12], [9, 10, 11, 12, 13], [8, 9, 10, 11, 12, 13, 14], [0, 1, 2, 3, 4, 5, 6, 7, 8, 9, 10, 11, 12, 13, 14, 15], [0, 1, 2, 3, 4, 5, 6, 7, 8, 9, 10, 11, 12, 13, 14, 15, 16]], [0, 1, 2, 3, 4, 5, 6, 7, 8, 9, 10, 11, 12, 13, 14, 15, 16, 17])] []
noncomputable def h_product_graph_id : Hint := mkHint 17 [[1, 4], [0, 3, 5, 6, 7, 8, 9, 10, 11, 12, 13, 14, 15, 16]] [(1, [[], [0], [], [2], [2, 3], [2, 3, 4], [2, 3, 4, 5], [2, 3, 4, 5, 6], [0, 1, 2, 3, 4, 5, 6, 7], [], [9], [0, 1, 2, 3, 4, 5, 6, 7, 8, 9, 10], [0, 1, 2, 3, 4, 5, 6, 7, 8, 9, 10, 11]], [0, 1, 2, 3, 4, 5, 6, 7, 8, 9, 10, 11, 12])] []
noncomputable def h_milestoneref1_Walk : Hint := mkHint 91 [[0, 8, 9, 10], [32], [15, 16, 17, 18, 19, 20, 21, 22, 23, 24, 25, 26, 27, 28, 29, 30, 31], [1, 2, 3, 4, 32], [], [], [3, 4, 13, 36], [], [37, 38], [36], [33, 34, 35], [14, 81, 82, 83, 84, 85], [66], [1, 39, 40, 41, 42, 43, 44, 45, 46, 47, 48, 49, 50, 51, 52, 53, 54, 55, 56, 57, 58, 59, 60, 61, 62, 63, 64, 65], [2, 3, 4, 11, 12, 13, 66], [67, 68, 69, 70, 71, 72, 73, 74], [75, 76, 77, 78, 79, 80], [88], [1, 2, 86, 87], [11, 12, 88], [11, 12, 89, 90]] [(8, [[], [], [0, 1], [0, 1, 2], [0, 1, 2, 3], [0, 1, 2, 3, 4], [0, 1, 2, 3, 4, 5], [0, 1, 2, 3, 4, 5], [0, 1, 2, 3, 4, 5, 6, 7], [0, 1, 2, 3, 4, 5, 6, 7, 8], [0, 1, 2, 3, 4, 5], [0, 1, 2, 3, 4, 5, 10], [0, 1, 2, 3, 4, 5, 10, 11], [0, 1, 2, 3, 4, 5, 6, 7, 8, 9, 10, 11, 12], [0, 1, 2, 3, 4, 5, 6, 7, 8, 9, 10, 11, 12, 13], [0, 1, 2, 3, 4, 5, 6, 7, 8, 9, 10, 11, 12, 13, 14], [0, 1, 2, 3, 4, 5, 6, 7, 8, 9, 10, 11, 12, 13, 14, 15], [0, 1, 2, 3, 4, 5, 6, 7, 8, 9, 10, 11, 12, 13, 14, 15, 16], [0, 1, 2, 3, 4, 5, 6, 7, 8, 9, 10, 11, 12, 13, 14, 15], [0, 1, 2, 3, 4, 5, 6, 7, 8, 9, 10, 11, 12, 13, 14, 15], [0, 1, 2, 3, 4, 5, 6, 7, 8, 9, 10, 11, 12, 13, 14, 15, 18, 19], [0, 1, 2, 3, 4, 5, 6, 7, 8, 9, 10, 11, 12, 13, 14, 15, 18, 19, 20], [0, 1, 2, 3, 4, 5, 6, 7, 8, 9, 10, 11, 12, 13, 14, 15, 16, 17, 18, 19, 20, 21], [0, 1, 2, 3, 4, 5, 6, 7, 8, 9, 10, 11, 12, 13, 14, 15, 16, 17, 18, 19, 20, 21, 22], [0, 1, 2, 3, 4, 5, 6, 7, 8, 9, 10, 11, 12, 13, 14, 15, 16, 17, 18, 19, 20, 21, 22, 23], [0, 1, 2, 3, 4, 5, 6, 7, 8, 9, 10, 11, 12, 13, 14, 15], [0, 1, 2, 3, 4, 5, 6, 7, 8, 9, 10, 11, 12, 13, 14, 15, 16, 17, 18, 19, 20, 21, 22, 23, 24, 25], [0, 1, 2, 3, 4, 5, 6, 7, 8, 9, 10, 11, 12, 13, 14, 15, 16, 17, 18, 19, 20, 21, 22, 23, 24, 25, 26]], [0, 1, 2, 3, 4, 5, 6, 7, 8, 9, 10, 11, 12, 13, 14, 15, 16, 17, 18, 19, 20, 21, 22, 23, 24, 25, 26, 27]), (10, [[], [0], [], [], [2, 3], [2, 3, 4], [0, 1, 2, 3, 4, 5], [0, 1, 2, 3, 4, 5, 6], [], [0, 1, 2, 3, 4, 5, 6, 7, 8]], [0, 1, 2, 3, 4, 5, 6, 7, 8, 9]), (11, [[], [0], [], [], [3], [2, 3, 4], [0, 1], [0, 1, 2, 3, 4, 5, 6]], [0, 1, 2, 3, 4, 5, 6, 7])] [6]
noncomputable def h_milestoneref7_Run : Hint := mkHint 18 [[0, 4], [1, 6, 7, 8], [2, 5, 9, 10, 11, 12, 13, 14, 15, 16, 17]] [] []
noncomputable def h_adj_New : Hint := mkHint 67 [[0, 2], [6, 7, 8, 9, 10, 11, 12, 13, 14, 15], [16, 17, 18, 19, 20, 21, 22, 23, 24], [26, 27, 28, 29], [1, 25], [65], [], [29], [4, 5, 42, 54, 55, 56, 57, 58, 59, 60, 61, 62, 63, 64], [30, 31, 32], [33, 34, 35, 36, 37, 38, 39, 40, 41], [42, 43, 44, 45, 46, 47, 48, 49, 50, 51, 52, 53], [3, 66]] [(1, [[], [0], [0, 1], [0, 1, 2], [], [4], [4, 5], [4, 5, 6], [0, 1, 2, 3, 4, 5, 6, 7], [0, 1, 2, 3, 4, 5, 6, 7, 8], [0, 1, 2, 3, 4, 5, 6, 7, 8, 9]], [0, 1, 2, 3, 4, 5, 6, 7, 8, 9, 10]), (2, [[], [], [1], [], [3], [3, 4], [1, 2, 3, 4, 5], [0, 1, 2, 3, 4, 5, 6], [0, 1, 2, 3, 4, 5, 6, 7], [0, 1, 2, 3, 4, 5, 6, 7, 8]], [0, 1, 2, 3, 4, 5, 6, 7, 8, 9]), (7, [[], [0], [0, 1], [0, 1, 2], [], [4], [0, 1, 2, 3, 4, 5], [], [], [8], [0, 1, 2, 3, 4, 5, 6, 7, 8, 9]], [0, 1, 2, 3, 4, 5, 6, 7, 8, 9, 10]), (8, [[], [0], [0, 1], [0, 1, 2], [], [4], [0, 1, 2, 3, 4, 5], [], [], [8], [0, 1, 2, 3, 4, 5, 6, 7, 8, 9]], [0, 1, 2, 3, 4, 5, 6, 7, 8, 9, 10])] []
noncomputable def h_queue_New : Hint := mkHint 29 [[2], [0, 5, 6, 7, 8, 9, 10], [16, 17, 18], [11, 12, 13, 14, 15], [27], [], [18], [4, 20, 21, 22, 23, 24, 25, 26], [19], [3, 28]] [] []
noncomputable def h_queue_Queue_Put : Hint := mkHint 57 [[6], [20], [9, 10, 11, 12, 13, 14, 15, 16, 17, 18, 19], [0, 1, 2, 20], [21, 22], [23, 24, 25], [1, 27], [26], [0, 1, 2, 7, 8, 27, 28, 29, 30, 31, 32, 33], [], [44], [34, 35, 36, 37, 38, 39, 40, 41, 42, 43], [0, 2, 7, 8, 44], [0, 2, 45, 46, 47, 48, 49, 50, 51, 52, 53], [7, 8, 54, 55, 56], []] [] []
noncomputable def h_adj_Adj_Out : Hint := mkHint 15 [[4], [], [0, 1, 5, 6, 7, 8, 9, 10, 11, 12, 13, 14]] [] []
noncomputable def h_slices_Reverse_int : Hint := mkHint 28 [[4, 5, 6], [10, 11, 12, 13], [9], [7, 8], [14, 15, 16, 17, 18, 19, 20, 21, 22, 23, 24, 25, 26, 27]] [(3, [[], [], [], [], [], [], [4, 5], [4, 5, 6], [], [], [8, 9], [8, 9, 10], [0, 1, 4, 5, 6, 7, 8, 9, 10, 11], [0, 1, 4, 5, 6, 7, 8, 9, 10, 11, 12], [0, 1, 2, 3, 4, 5, 6, 7, 8, 9, 10, 11, 12, 13], [0, 1, 2, 3, 4, 5, 6, 7, 8, 9, 10, 11, 12, 13, 14]], [0, 1, 2, 3, 4, 5, 6, 7, 8, 9, 10, 11, 12, 13, 14, 15])] []
noncomputable def h_slices_Clone_int : Hint := mkHint 8 [[2], [4], [3], [0, 4], [0, 5, 6, 7]] [] []
noncomputable def h_adj_Adj_In : Hint := mkHint 15 [[4], [], [0, 1, 5, 6, 7, 8, 9, 10, 11, 12, 13, 14]] [] []
noncomputable def h_queue_Queue_Key : Hint := mkHint 22 [[4, 5], [1, 7, 8, 9, 10], [12], [11], [0, 6, 12], [0, 6, 13, 14, 15, 16, 17, 18, 19, 20, 21]] [] []
noncomputable def h_queue_Queue_Pop : Hint := mkHint 23 [[2, 3, 4], [10], [6, 7, 8, 9], [0, 10], [0, 11, 12, 13, 14, 15, 16, 17], [5, 18, 19, 20, 21, 22]] [(4, [[], [0], [], [2], [], [0, 1], [0, 1, 2, 3, 5], [0, 1, 2, 3, 4, 5, 6]], [0, 1, 2, 3, 4, 5, 6, 7])] []
noncomputable def h_milestoneref7_Go : Hint := mkHint 46 [[0, 6], [16], [8, 9, 10, 11, 12, 13, 14, 15], [1, 2, 3, 16], [2, 3, 7, 20], [], [21, 22], [20], [17, 18, 19], [35, 36, 37, 38, 39, 40, 41, 42, 43, 44], [34], [23, 24, 25, 26, 27, 28, 29, 30, 31, 32, 33], [1, 2, 3, 7, 34], [1, 45]] [(8, [[], [0], [], [], [], [3, 4], [3, 4, 5], [0, 1, 2], [0, 1, 2, 3, 4, 5, 6, 7], [0, 1, 2, 3, 4, 5, 6, 7, 8], [0, 1, 2, 3, 4, 5, 6, 7, 8, 9]], [0, 1, 2, 3, 4, 5, 6, 7, 8, 9, 10])] []
noncomputable def h_slices_Clone_api_Edge : Hint := mkHint 8 [[2], [4], [3], [0, 4], [0, 5, 6, 7]] [] []
noncomputable def h_adj_Adj_is : Hint := mkHint 16 [[4], [0, 1, 5, 6, 7, 8, 9, 10, 11, 12, 13, 14, 15]] [] []
noncomputable def h_adj_ends_add : Hint := mkHint 26 [] [(0, [[], [], [], [2], [2, 3], [2, 3, 4], [], [6], [2, 3, 4, 5, 6, 7], [], [9], [9, 10], [9, 10, 11], [], [13], [2, 3, 4, 5, 6, 7, 8, 9, 10, 11, 12, 13, 14], [0, 2, 3, 4, 5, 6, 7, 8, 9, 10, 11, 12, 13, 14, 15], [0, 2, 3, 4, 5, 6, 7, 8, 9, 10, 11, 12, 13, 14, 15, 16], [0, 2, 3, 4, 5, 6, 7, 8, 9, 10, 11, 12, 13, 14, 15, 16, 17], [0, 1, 2, 3, 4, 5, 6, 7, 8, 9, 10, 11, 12, 13, 14, 15, 16, 17, 18], [0, 1, 2, 3, 4, 5, 6, 7, 8, 9, 10, 11, 12, 13, 14, 15, 16, 17, 18, 19], [0, 1, 2, 3, 4, 5, 6, 7, 8, 9, 10, 11, 12, 13, 14, 15, 16, 17, 18, 19, 20]], [0, 1, 2, 3, 4, 5, 6, 7, 9, 10, 11, 12, 13, 14, 8, 15, 16, 17, 18, 19, 20, 21])] []
noncomputable def h_queue_Queue_line : Hint := mkHint 7 [[2], [0, 3, 4, 5, 6]] [] []
noncomputable def h_container_heap_Push : Hint := mkHint 12 [[1, 4, 5, 6]] [] []
noncomputable def h_container_heap_Fix : Hint := mkHint 13 [[4, 5, 6, 7, 8]] [] []
noncomputable def h_adj_ends_list : Hint := mkHint 13 [[0, 2], [4, 5, 6], [1, 3, 7, 8, 9, 10, 11, 12]] [] []
noncomputable def h_adj_Adj_side : Hint := mkHint 16 [[], [10], [0, 7, 8, 9], [1, 2, 10, 11], [1, 2, 12, 13, 14, 15]] [] []
noncomputable def h_queue_heaped_Len : Hint := mkHint 8 [[2], [0, 3, 4, 5, 6, 7]] [] []
noncomputable def h_container_heap_Pop : Hint := mkHint 15 [[2], [4, 5, 6], [7, 8, 9], [3, 10, 11, 12], [0, 13, 14]] [] []
noncomputable def h_container_heap_up : Hint := mkHint 23 [[4, 22], [5, 6, 7], [17], [8, 9, 10, 11, 12, 13, 14, 15, 16], [1, 18, 19, 20, 21]] [] []
noncomputable def h_container_heap_down : Hint := mkHint 48 [[6], [11], [0, 2, 8, 9, 21, 39], [9, 44], [12, 13, 14], [21], [15, 16, 17, 18, 19, 20], [22], [10, 33, 34], [23, 24], [8, 25, 26, 27, 28, 29, 30, 31, 32], [39], [35, 36, 37, 38], [7, 40, 41, 42, 43], [1, 7, 45, 46, 47]] [] [2, 8]
noncomputable def h_queue_item_before : Hint := mkHint 20 [[0, 1, 4], [9], [5, 6, 7, 8], [2, 3, 9, 10, 11, 12, 13, 14], [2, 3, 15, 16, 17, 18, 19]] [] []
noncomputable def h_queue_heaped_Less : Hint := mkHint 24 [[6], [], [0, 1, 2, 7, 8, 9, 10, 11, 12, 13, 14, 15, 16, 17, 18, 19, 20, 21, 22, 23]] [(2, [[], [], [1], [1, 2], [1, 2, 3], [], [1, 2, 3, 4, 5], [1, 2, 3, 4, 5, 6], [], [8], [8, 9], [8, 9, 10], [], [8, 9, 10, 11, 12], [8, 9, 10, 11, 12, 13], [0, 1, 2, 3, 4, 5, 6, 7, 8, 9, 10, 11, 12, 13, 14], [0, 1, 2, 3, 4, 5, 6, 7, 8, 9, 10, 11, 12, 13, 14, 15]], [0, 1, 2, 3, 4, 5, 6, 7, 8, 9, 10, 11, 12, 13, 14, 15, 16])] []
noncomputable def h_queue_heaped_Pop : Hint := mkHint 36 [[2], [5, 6, 7, 8, 9, 10], [11, 12, 13, 14, 15, 16, 17], [3, 18, 19, 20, 21, 22, 23, 24, 25, 26], [0, 27, 28, 29, 30, 31, 32, 33], [4, 34, 35]] [(4, [[], [0], [0, 1], [0, 1, 2], [], [4], [0, 1, 2, 3, 4, 5], [0, 1, 2, 3, 4, 5, 6]], [0, 1, 2, 3, 4, 5, 6, 7])] []
noncomputable def h_queue_heaped_Push : Hint := mkHint 34 [[1, 6, 7, 8, 9, 10], [5], [11, 12, 13, 14, 15, 16, 17, 18, 19, 20, 21, 22, 23]] [(2, [[], [0], [0, 1], [0, 1, 2], [], [4], [], [6], [6, 7], [6, 7, 8], [6, 7, 8, 9], [0, 1, 2, 3, 4, 5, 6, 7, 8, 9, 10], [0, 1, 2, 3, 4, 5, 6, 7, 8, 9, 10, 11]], [0, 1, 2, 3, 4, 5, 6, 7, 8, 9, 10, 11, 12]), (3, [[], [], [1], [1, 2], [1, 2, 3], [], [5], [1, 2, 3, 4, 5, 6], [0, 1, 2, 3, 4, 5, 6, 7], [0, 1, 2, 3, 4, 5, 6, 7, 8], [0, 1, 2, 3, 4, 5, 6, 7, 8, 9]], [0, 1, 2, 3, 4, 5, 6, 7, 8, 9, 10])] []
noncomputable def h_queue_heaped_Swap : Hint := mkHint 60 [[6, 7, 8, 9, 10, 11, 12, 13, 14, 15, 16, 17, 18, 19, 20, 21, 22, 23, 24, 25, 26, 27, 28, 29, 30, 31]] [(0, [[], [0], [0, 1], [0, 1, 2], [], [], [5], [5, 6], [5, 6, 7], [], [], [10], [10, 11], [10, 11, 12], [], [10, 11, 12, 13, 14], [10, 11, 12, 13, 14, 15], [], [17], [17, 18], [17, 18, 19], [], [17, 18, 19, 20, 21], [17, 18, 19, 20, 21, 22], [0, 1, 2, 3, 4, 5, 6, 7, 8, 10, 11, 12, 13, 14, 15, 16, 17, 18, 19, 20, 21, 22, 23], [0, 1, 2, 3, 4, 5, 6, 7, 8, 10, 11, 12, 13, 14, 15, 16, 17, 18, 19, 20, 21, 22, 23, 24], [0, 1, 2, 3, 4, 5, 6, 7, 8, 9, 10, 11, 12, 13, 14, 15, 16, 17, 18, 19, 20, 21, 22, 23, 24, 25], [0, 1, 2, 3, 4, 5, 6, 7, 8, 9, 10, 11, 12, 13, 14, 15, 16, 17, 18, 19, 20, 21, 22, 23, 24, 25, 26]], [0, 1, 2, 3, 4, 5, 6, 7, 8, 9, 10, 11, 12, 13, 14, 15, 16, 17, 18, 19, 20, 21, 22, 23, 24, 25, 26, 27]), (1, [[], [0], [0, 1], [0, 1, 2], [], [4], [4, 5], [4, 5, 6], [], [4, 5, 6, 7, 8], [4, 5, 6, 7, 8, 9], [4, 5, 6, 7, 8, 9, 10], [], [12], [12, 13], [12, 13, 14], [], [16], [16, 17], [16, 17, 18], [], [16, 17, 18, 19, 20], [16, 17, 18, 19, 20, 21], [16, 17, 18, 19, 20, 21, 22], [], [], [0, 1, 2, 3, 4, 5, 6, 7, 8, 9, 10, 11, 12, 13, 14, 15, 16, 17, 18, 19, 20, 21, 22, 23, 24], [0, 1, 2, 3, 4, 5, 6, 7, 8, 9, 10, 11, 12, 13, 14, 15, 16, 17, 18, 19, 20, 21, 22, 23, 24, 26], [0, 1, 2, 3, 4, 5, 6, 7, 8, 9, 10, 11, 12, 13, 14, 15, 16, 17, 18, 19, 20, 21, 22, 23, 24, 25, 26, 27], [0, 1, 2, 3, 4, 5, 6, 7, 8, 9, 10, 11, 12, 13, 14, 15, 16, 17, 18, 19, 20, 21, 22, 23, 24, 25, 26, 27, 28]], [0, 1, 2, 3, 4, 5, 6, 7, 8, 9, 10, 11, 12, 13, 14, 15, 16, 17, 18, 19, 20, 21, 22, 23, 24, 25, 26, 27, 28, 29])] []
noncomputable def h_queue_heaped_place : Hint := mkHint 23 [[4], [15], [5, 6, 7, 8, 9, 10, 11, 12, 13, 14], [0, 1, 15], [0, 1, 16, 17, 18, 19, 20, 21, 22]] [] []
noncomputable def hints : FuncId → Option Hint := fun f => List.lookup f [(5, h_milestonelaw9_ProductGreat), (6, h_milestonelaw9_known), (9, h_milestonelaw9_within), (10, h_product_Costs), (12, h_product_Route), (13, h_product_Both), (17, h_milestonelaw9_Right), (20, h_product_join), (21, h_product_graph_begin), (22, h_product_graph_on), (23, h_product_search_all), (24, h_product_search_best), (26, h_product_search_edges), (27, h_product_graph_back), (28, h_product_Both_1), (29, h_product_search_found), (30, h_product_search_step), (31, h_product_graph_spot), (32, h_product_graph_id), (34, h_milestoneref1_Walk), (35, h_milestoneref7_Run), (36, h_adj_New), (37, h_queue_New), (38, h_queue_Queue_Put), (39, h_adj_Adj_Out), (40, h_slices_Reverse_int), (41, h_slices_Clone_int), (42, h_adj_Adj_In), (43, h_queue_Queue_Key), (44, h_queue_Queue_Pop), (46, h_milestoneref7_Go), (47, h_slices_Clone_api_Edge), (48, h_adj_Adj_is), (49, h_adj_ends_add), (50, h_queue_Queue_line), (51, h_container_heap_Push), (52, h_container_heap_Fix), (53, h_adj_ends_list), (54, h_adj_Adj_side), (55, h_queue_heaped_Len), (56, h_container_heap_Pop), (58, h_container_heap_up), (59, h_container_heap_down), (78, h_queue_item_before), (79, h_queue_heaped_Less), (80, h_queue_heaped_Pop), (81, h_queue_heaped_Push), (82, h_queue_heaped_Swap), (83, h_queue_heaped_place)]
noncomputable def tab : Tab := tabOf Go.Proofs.Try.prog hints meths
theorem tfn_milestonelaw9_ProductGreat : tab.fn f_milestonelaw9_ProductGreat = some milestonelaw9_ProductGreat_mf := tabOf_fn (H := h_milestonelaw9_ProductGreat) (by kernel_rfl) Go.Proofs.Try.func5 (by kernel_rfl)
theorem tfn_milestonelaw9_known : tab.fn f_milestonelaw9_known = some milestonelaw9_known_mf := tabOf_fn (H := h_milestonelaw9_known) (by kernel_rfl) Go.Proofs.Try.func6 (by kernel_rfl)
theorem tfn_milestonelaw9_within : tab.fn f_milestonelaw9_within = some milestonelaw9_within_mf := tabOf_fn (H := h_milestonelaw9_within) (by kernel_rfl) Go.Proofs.Try.func9 (by kernel_rfl)
theorem tfn_product_Costs : tab.fn f_product_Costs = some product_Costs_mf := tabOf_fn (H := h_product_Costs) (by kernel_rfl) Go.Proofs.Try.func10 (by kernel_rfl)
theorem tfn_product_Route : tab.fn f_product_Route = some product_Route_mf := tabOf_fn (H := h_product_Route) (by kernel_rfl) Go.Proofs.Try.func12 (by kernel_rfl)
theorem tfn_product_Both : tab.fn f_product_Both = some product_Both_mf := tabOf_fn (H := h_product_Both) (by kernel_rfl) Go.Proofs.Try.func13 (by kernel_rfl)
theorem tfn_milestonelaw9_Right : tab.fn f_milestonelaw9_Right = some milestonelaw9_Right_mf := tabOf_fn (H := h_milestonelaw9_Right) (by kernel_rfl) Go.Proofs.Try.func17 (by kernel_rfl)
theorem tfn_product_join : tab.fn f_product_join = some product_join_mf := tabOf_fn (H := h_product_join) (by kernel_rfl) Go.Proofs.Try.func20 (by kernel_rfl)
theorem tfn_product_graph_begin : tab.fn f_product_graph_begin = some product_graph_begin_mf := tabOf_fn (H := h_product_graph_begin) (by kernel_rfl) Go.Proofs.Try.func21 (by kernel_rfl)
theorem tfn_product_graph_on : tab.fn f_product_graph_on = some product_graph_on_mf := tabOf_fn (H := h_product_graph_on) (by kernel_rfl) Go.Proofs.Try.func22 (by kernel_rfl)
theorem tfn_product_search_all : tab.fn f_product_search_all = some product_search_all_mf := tabOf_fn (H := h_product_search_all) (by kernel_rfl) Go.Proofs.Try.func23 (by kernel_rfl)
theorem tfn_product_search_best : tab.fn f_product_search_best = some product_search_best_mf := tabOf_fn (H := h_product_search_best) (by kernel_rfl) Go.Proofs.Try.func24 (by kernel_rfl)
theorem tfn_product_search_edges : tab.fn f_product_search_edges = some product_search_edges_mf := tabOf_fn (H := h_product_search_edges) (by kernel_rfl) Go.Proofs.Try.func26 (by kernel_rfl)
theorem tfn_product_graph_back : tab.fn f_product_graph_back = some product_graph_back_mf := tabOf_fn (H := h_product_graph_back) (by kernel_rfl) Go.Proofs.Try.func27 (by kernel_rfl)
theorem tfn_product_Both_1 : tab.fn f_product_Both_1 = some product_Both_1_mf := tabOf_fn (H := h_product_Both_1) (by kernel_rfl) Go.Proofs.Try.func28 (by kernel_rfl)
theorem tfn_product_search_found : tab.fn f_product_search_found = some product_search_found_mf := tabOf_fn (H := h_product_search_found) (by kernel_rfl) Go.Proofs.Try.func29 (by kernel_rfl)
theorem tfn_product_search_step : tab.fn f_product_search_step = some product_search_step_mf := tabOf_fn (H := h_product_search_step) (by kernel_rfl) Go.Proofs.Try.func30 (by kernel_rfl)
theorem tfn_product_graph_spot : tab.fn f_product_graph_spot = some product_graph_spot_mf := tabOf_fn (H := h_product_graph_spot) (by kernel_rfl) Go.Proofs.Try.func31 (by kernel_rfl)
theorem tfn_product_graph_id : tab.fn f_product_graph_id = some product_graph_id_mf := tabOf_fn (H := h_product_graph_id) (by kernel_rfl) Go.Proofs.Try.func32 (by kernel_rfl)
theorem tfn_milestoneref1_Walk : tab.fn f_milestoneref1_Walk = some milestoneref1_Walk_mf := tabOf_fn (H := h_milestoneref1_Walk) (by kernel_rfl) Go.Proofs.Try.func34 (by kernel_rfl)
theorem tfn_milestoneref7_Run : tab.fn f_milestoneref7_Run = some milestoneref7_Run_mf := tabOf_fn (H := h_milestoneref7_Run) (by kernel_rfl) Go.Proofs.Try.func35 (by kernel_rfl)
theorem tfn_adj_New : tab.fn f_adj_New = some adj_New_mf := tabOf_fn (H := h_adj_New) (by kernel_rfl) Go.Proofs.Try.func36 (by kernel_rfl)
theorem tfn_queue_New : tab.fn f_queue_New = some queue_New_mf := tabOf_fn (H := h_queue_New) (by kernel_rfl) Go.Proofs.Try.func37 (by kernel_rfl)
theorem tfn_queue_Queue_Put : tab.fn f_queue_Queue_Put = some queue_Queue_Put_mf := tabOf_fn (H := h_queue_Queue_Put) (by kernel_rfl) Go.Proofs.Try.func38 (by kernel_rfl)
theorem tfn_adj_Adj_Out : tab.fn f_adj_Adj_Out = some adj_Adj_Out_mf := tabOf_fn (H := h_adj_Adj_Out) (by kernel_rfl) Go.Proofs.Try.func39 (by kernel_rfl)
theorem tfn_slices_Reverse_int : tab.fn f_slices_Reverse_int = some slices_Reverse_int_mf := tabOf_fn (H := h_slices_Reverse_int) (by kernel_rfl) Go.Proofs.Try.func40 (by kernel_rfl)
theorem tfn_slices_Clone_int : tab.fn f_slices_Clone_int = some slices_Clone_int_mf := tabOf_fn (H := h_slices_Clone_int) (by kernel_rfl) Go.Proofs.Try.func41 (by kernel_rfl)
theorem tfn_adj_Adj_In : tab.fn f_adj_Adj_In = some adj_Adj_In_mf := tabOf_fn (H := h_adj_Adj_In) (by kernel_rfl) Go.Proofs.Try.func42 (by kernel_rfl)
theorem tfn_queue_Queue_Key : tab.fn f_queue_Queue_Key = some queue_Queue_Key_mf := tabOf_fn (H := h_queue_Queue_Key) (by kernel_rfl) Go.Proofs.Try.func43 (by kernel_rfl)
theorem tfn_queue_Queue_Pop : tab.fn f_queue_Queue_Pop = some queue_Queue_Pop_mf := tabOf_fn (H := h_queue_Queue_Pop) (by kernel_rfl) Go.Proofs.Try.func44 (by kernel_rfl)
theorem tfn_milestoneref7_Go : tab.fn f_milestoneref7_Go = some milestoneref7_Go_mf := tabOf_fn (H := h_milestoneref7_Go) (by kernel_rfl) Go.Proofs.Try.func46 (by kernel_rfl)
theorem tfn_slices_Clone_api_Edge : tab.fn f_slices_Clone_api_Edge = some slices_Clone_api_Edge_mf := tabOf_fn (H := h_slices_Clone_api_Edge) (by kernel_rfl) Go.Proofs.Try.func47 (by kernel_rfl)
theorem tfn_adj_Adj_is : tab.fn f_adj_Adj_is = some adj_Adj_is_mf := tabOf_fn (H := h_adj_Adj_is) (by kernel_rfl) Go.Proofs.Try.func48 (by kernel_rfl)
theorem tfn_adj_ends_add : tab.fn f_adj_ends_add = some adj_ends_add_mf := tabOf_fn (H := h_adj_ends_add) (by kernel_rfl) Go.Proofs.Try.func49 (by kernel_rfl)
theorem tfn_queue_Queue_line : tab.fn f_queue_Queue_line = some queue_Queue_line_mf := tabOf_fn (H := h_queue_Queue_line) (by kernel_rfl) Go.Proofs.Try.func50 (by kernel_rfl)
theorem tfn_container_heap_Push : tab.fn f_container_heap_Push = some container_heap_Push_mf := tabOf_fn (H := h_container_heap_Push) (by kernel_rfl) Go.Proofs.Try.func51 (by kernel_rfl)
theorem tfn_container_heap_Fix : tab.fn f_container_heap_Fix = some container_heap_Fix_mf := tabOf_fn (H := h_container_heap_Fix) (by kernel_rfl) Go.Proofs.Try.func52 (by kernel_rfl)
theorem tfn_adj_ends_list : tab.fn f_adj_ends_list = some adj_ends_list_mf := tabOf_fn (H := h_adj_ends_list) (by kernel_rfl) Go.Proofs.Try.func53 (by kernel_rfl)
theorem tfn_adj_Adj_side : tab.fn f_adj_Adj_side = some adj_Adj_side_mf := tabOf_fn (H := h_adj_Adj_side) (by kernel_rfl) Go.Proofs.Try.func54 (by kernel_rfl)
theorem tfn_queue_heaped_Len : tab.fn f_queue_heaped_Len = some queue_heaped_Len_mf := tabOf_fn (H := h_queue_heaped_Len) (by kernel_rfl) Go.Proofs.Try.func55 (by kernel_rfl)
theorem tfn_container_heap_Pop : tab.fn f_container_heap_Pop = some container_heap_Pop_mf := tabOf_fn (H := h_container_heap_Pop) (by kernel_rfl) Go.Proofs.Try.func56 (by kernel_rfl)
theorem tfn_container_heap_up : tab.fn f_container_heap_up = some container_heap_up_mf := tabOf_fn (H := h_container_heap_up) (by kernel_rfl) Go.Proofs.Try.func58 (by kernel_rfl)
theorem tfn_container_heap_down : tab.fn f_container_heap_down = some container_heap_down_mf := tabOf_fn (H := h_container_heap_down) (by kernel_rfl) Go.Proofs.Try.func59 (by kernel_rfl)
theorem tfn_queue_item_before : tab.fn f_queue_item_before = some queue_item_before_mf := tabOf_fn (H := h_queue_item_before) (by kernel_rfl) Go.Proofs.Try.func78 (by kernel_rfl)
theorem tfn_queue_heaped_Less : tab.fn f_queue_heaped_Less = some queue_heaped_Less_mf := tabOf_fn (H := h_queue_heaped_Less) (by kernel_rfl) Go.Proofs.Try.func79 (by kernel_rfl)
theorem tfn_queue_heaped_Pop : tab.fn f_queue_heaped_Pop = some queue_heaped_Pop_mf := tabOf_fn (H := h_queue_heaped_Pop) (by kernel_rfl) Go.Proofs.Try.func80 (by kernel_rfl)
theorem tfn_queue_heaped_Push : tab.fn f_queue_heaped_Push = some queue_heaped_Push_mf := tabOf_fn (H := h_queue_heaped_Push) (by kernel_rfl) Go.Proofs.Try.func81 (by kernel_rfl)
theorem tfn_queue_heaped_Swap : tab.fn f_queue_heaped_Swap = some queue_heaped_Swap_mf := tabOf_fn (H := h_queue_heaped_Swap) (by kernel_rfl) Go.Proofs.Try.func82 (by kernel_rfl)
theorem tfn_queue_heaped_place : tab.fn f_queue_heaped_place = some queue_heaped_place_mf := tabOf_fn (H := h_queue_heaped_place) (by kernel_rfl) Go.Proofs.Try.func83 (by kernel_rfl)
theorem call_milestonelaw9_ProductGreat (k : Nat) (x0 x1 x2 : AV) (h : Heap) : evalFn tab (k + 1) f_milestonelaw9_ProductGreat [x0, x1, x2] h = runF tab k milestonelaw9_ProductGreat_mf [x0, x1, x2] h := evalFn_run tfn_milestonelaw9_ProductGreat k _ h
theorem call_milestonelaw9_known (k : Nat) (h : Heap) : evalFn tab (k + 1) f_milestonelaw9_known [] h = runF tab k milestonelaw9_known_mf [] h := evalFn_run tfn_milestonelaw9_known k _ h
theorem call_milestonelaw9_within (k : Nat) (x0 x1 : AV) (h : Heap) : evalFn tab (k + 1) f_milestonelaw9_within [x0, x1] h = runF tab k milestonelaw9_within_mf [x0, x1] h := evalFn_run tfn_milestonelaw9_within k _ h
theorem call_product_Costs (k : Nat) (x0 x1 x2 : AV) (h : Heap) : evalFn tab (k + 1) f_product_Costs [x0, x1, x2] h = runF tab k product_Costs_mf [x0, x1, x2] h := evalFn_run tfn_product_Costs k _ h
theorem call_product_Route (k : Nat) (x0 x1 x2 x3 : AV) (h : Heap) : evalFn tab (k + 1) f_product_Route [x0, x1, x2, x3] h = runF tab k product_Route_mf [x0, x1, x2, x3] h := evalFn_run tfn_product_Route k _ h
theorem call_product_Both (k : Nat) (x0 x1 x2 x3 : AV) (h : Heap) : evalFn tab (k + 1) f_product_Both [x0, x1, x2, x3] h = runF tab k product_Both_mf [x0, x1, x2, x3] h := evalFn_run tfn_product_Both k _ h
theorem call_milestonelaw9_Right (k : Nat) (x0 x1 x2 x3 x4 x5 : AV) (h : Heap) : evalFn tab (k + 1) f_milestonelaw9_Right [x0, x1, x2, x3, x4, x5] h = runF tab k milestonelaw9_Right_mf [x0, x1, x2, x3, x4, x5] h := evalFn_run tfn_milestonelaw9_Right k _ h
theorem call_product_join (k : Nat) (x0 x1 : AV) (h : Heap) : evalFn tab (k + 1) f_product_join [x0, x1] h = runF tab k product_join_mf [x0, x1] h := evalFn_run tfn_product_join k _ h
theorem call_product_graph_begin (k : Nat) (x0 x1 x2 : AV) (h : Heap) : evalFn tab (k + 1) f_product_graph_begin [x0, x1, x2] h = runF tab k product_graph_begin_mf [x0, x1, x2] h := evalFn_run tfn_product_graph_begin k _ h
theorem call_product_graph_on (k : Nat) (x0 x1 : AV) (h : Heap) : evalFn tab (k + 1) f_product_graph_on [x0, x1] h = runF tab k product_graph_on_mf [x0, x1] h := evalFn_run tfn_product_graph_on k _ h
theorem call_product_search_all (k : Nat) (x0 : AV) (h : Heap) : evalFn tab (k + 1) f_product_search_all [x0] h = runF tab k product_search_all_mf [x0] h := evalFn_run tfn_product_search_all k _ h
theorem call_product_search_best (k : Nat) (x0 x1 : AV) (h : Heap) : evalFn tab (k + 1) f_product_search_best [x0, x1] h = runF tab k product_search_best_mf [x0, x1] h := evalFn_run tfn_product_search_best k _ h
theorem call_product_search_edges (k : Nat) (x0 x1 : AV) (h : Heap) : evalFn tab (k + 1) f_product_search_edges [x0, x1] h = runF tab k product_search_edges_mf [x0, x1] h := evalFn_run tfn_product_search_edges k _ h
theorem call_product_graph_back (k : Nat) (x0 x1 : AV) (h : Heap) : evalFn tab (k + 1) f_product_graph_back [x0, x1] h = runF tab k product_graph_back_mf [x0, x1] h := evalFn_run tfn_product_graph_back k _ h
theorem call_product_search_found (k : Nat) (x0 x1 : AV) (h : Heap) : evalFn tab (k + 1) f_product_search_found [x0, x1] h = runF tab k product_search_found_mf [x0, x1] h := evalFn_run tfn_product_search_found k _ h
theorem call_product_search_step (k : Nat) (x0 : AV) (h : Heap) : evalFn tab (k + 1) f_product_search_step [x0] h = runF tab k product_search_step_mf [x0] h := evalFn_run tfn_product_search_step k _ h
theorem call_product_graph_spot (k : Nat) (x0 x1 : AV) (h : Heap) : evalFn tab (k + 1) f_product_graph_spot [x0, x1] h = runF tab k product_graph_spot_mf [x0, x1] h := evalFn_run tfn_product_graph_spot k _ h
theorem call_product_graph_id (k : Nat) (x0 x1 : AV) (h : Heap) : evalFn tab (k + 1) f_product_graph_id [x0, x1] h = runF tab k product_graph_id_mf [x0, x1] h := evalFn_run tfn_product_graph_id k _ h
theorem call_milestoneref1_Walk (k : Nat) (x0 x1 x2 x3 : AV) (h : Heap) : evalFn tab (k + 1) f_milestoneref1_Walk [x0, x1, x2, x3] h = runF tab k milestoneref1_Walk_mf [x0, x1, x2, x3] h := evalFn_run tfn_milestoneref1_Walk k _ h
theorem call_milestoneref7_Run (k : Nat) (x0 x1 : AV) (h : Heap) : evalFn tab (k + 1) f_milestoneref7_Run [x0, x1] h = runF tab k milestoneref7_Run_mf [x0, x1] h := evalFn_run tfn_milestoneref7_Run k _ h
theorem call_adj_New (k : Nat) (x0 : AV) (h : Heap) : evalFn tab (k + 1) f_adj_New [x0] h = runF tab k adj_New_mf [x0] h := evalFn_run tfn_adj_New k _ h
theorem call_queue_New (k : Nat) (x0 : AV) (h : Heap) : evalFn tab (k + 1) f_queue_New [x0] h = runF tab k queue_New_mf [x0] h := evalFn_run tfn_queue_New k _ h
theorem call_queue_Queue_Put (k : Nat) (x0 x1 x2 : AV) (h : Heap) : evalFn tab (k + 1) f_queue_Queue_Put [x0, x1, x2] h = runF tab k queue_Queue_Put_mf [x0, x1, x2] h := evalFn_run tfn_queue_Queue_Put k _ h
theorem call_adj_Adj_Out (k : Nat) (x0 x1 : AV) (h : Heap) : evalFn tab (k + 1) f_adj_Adj_Out [x0, x1] h = runF tab k adj_Adj_Out_mf [x0, x1] h := evalFn_run tfn_adj_Adj_Out k _ h
theorem call_slices_Reverse_int (k : Nat) (x0 : AV) (h : Heap) : evalFn tab (k + 1) f_slices_Reverse_int [x0] h = runF tab k slices_Reverse_int_mf [x0] h := evalFn_run tfn_slices_Reverse_int k _ h
theorem call_slices_Clone_int (k : Nat) (x0 : AV) (h : Heap) : evalFn tab (k + 1) f_slices_Clone_int [x0] h = runF tab k slices_Clone_int_mf [x0] h := evalFn_run tfn_slices_Clone_int k _ h
theorem call_adj_Adj_In (k : Nat) (x0 x1 : AV) (h : Heap) : evalFn tab (k + 1) f_adj_Adj_In [x0, x1] h = runF tab k adj_Adj_In_mf [x0, x1] h := evalFn_run tfn_adj_Adj_In k _ h
theorem call_queue_Queue_Key (k : Nat) (x0 x1 : AV) (h : Heap) : evalFn tab (k + 1) f_queue_Queue_Key [x0, x1] h = runF tab k queue_Queue_Key_mf [x0, x1] h := evalFn_run tfn_queue_Queue_Key k _ h
theorem call_queue_Queue_Pop (k : Nat) (x0 : AV) (h : Heap) : evalFn tab (k + 1) f_queue_Queue_Pop [x0] h = runF tab k queue_Queue_Pop_mf [x0] h := evalFn_run tfn_queue_Queue_Pop k _ h
theorem call_milestoneref7_Go (k : Nat) (x0 x1 x2 : AV) (h : Heap) : evalFn tab (k + 1) f_milestoneref7_Go [x0, x1, x2] h = runF tab k milestoneref7_Go_mf [x0, x1, x2] h := evalFn_run tfn_milestoneref7_Go k _ h
theorem call_slices_Clone_api_Edge (k : Nat) (x0 : AV) (h : Heap) : evalFn tab (k + 1) f_slices_Clone_api_Edge [x0] h = runF tab k slices_Clone_api_Edge_mf [x0] h := evalFn_run tfn_slices_Clone_api_Edge k _ h
theorem call_adj_Adj_is (k : Nat) (x0 x1 : AV) (h : Heap) : evalFn tab (k + 1) f_adj_Adj_is [x0, x1] h = runF tab k adj_Adj_is_mf [x0, x1] h := evalFn_run tfn_adj_Adj_is k _ h
theorem call_adj_ends_add (k : Nat) (x0 x1 x2 : AV) (h : Heap) : evalFn tab (k + 1) f_adj_ends_add [x0, x1, x2] h = runF tab k adj_ends_add_mf [x0, x1, x2] h := evalFn_run tfn_adj_ends_add k _ h
theorem call_queue_Queue_line (k : Nat) (x0 : AV) (h : Heap) : evalFn tab (k + 1) f_queue_Queue_line [x0] h = runF tab k queue_Queue_line_mf [x0] h := evalFn_run tfn_queue_Queue_line k _ h
theorem call_container_heap_Push (k : Nat) (x0 x1 : AV) (h : Heap) : evalFn tab (k + 1) f_container_heap_Push [x0, x1] h = runF tab k container_heap_Push_mf [x0, x1] h := evalFn_run tfn_container_heap_Push k _ h
theorem call_container_heap_Fix (k : Nat) (x0 x1 : AV) (h : Heap) : evalFn tab (k + 1) f_container_heap_Fix [x0, x1] h = runF tab k container_heap_Fix_mf [x0, x1] h := evalFn_run tfn_container_heap_Fix k _ h
theorem call_adj_ends_list (k : Nat) (x0 : AV) (h : Heap) : evalFn tab (k + 1) f_adj_ends_list [x0] h = runF tab k adj_ends_list_mf [x0] h := evalFn_run tfn_adj_ends_list k _ h
theorem call_adj_Adj_side (k : Nat) (x0 x1 x2 : AV) (h : Heap) : evalFn tab (k + 1) f_adj_Adj_side [x0, x1, x2] h = runF tab k adj_Adj_side_mf [x0, x1, x2] h := evalFn_run tfn_adj_Adj_side k _ h
theorem call_queue_heaped_Len (k : Nat) (x0 : AV) (h : Heap) : evalFn tab (k + 1) f_queue_heaped_Len [x0] h = runF tab k queue_heaped_Len_mf [x0] h := evalFn_run tfn_queue_heaped_Len k _ h
theorem call_container_heap_Pop (k : Nat) (x0 : AV) (h : Heap) : evalFn tab (k + 1) f_container_heap_Pop [x0] h = runF tab k container_heap_Pop_mf [x0] h := evalFn_run tfn_container_heap_Pop k _ h
theorem call_container_heap_up (k : Nat) (x0 x1 : AV) (h : Heap) : evalFn tab (k + 1) f_container_heap_up [x0, x1] h = runF tab k container_heap_up_mf [x0, x1] h := evalFn_run tfn_container_heap_up k _ h
theorem call_container_heap_down (k : Nat) (x0 x1 x2 : AV) (h : Heap) : evalFn tab (k + 1) f_container_heap_down [x0, x1, x2] h = runF tab k container_heap_down_mf [x0, x1, x2] h := evalFn_run tfn_container_heap_down k _ h
theorem call_queue_item_before (k : Nat) (x0 x1 : AV) (h : Heap) : evalFn tab (k + 1) f_queue_item_before [x0, x1] h = runF tab k queue_item_before_mf [x0, x1] h := evalFn_run tfn_queue_item_before k _ h
theorem call_queue_heaped_Less (k : Nat) (x0 x1 x2 : AV) (h : Heap) : evalFn tab (k + 1) f_queue_heaped_Less [x0, x1, x2] h = runF tab k queue_heaped_Less_mf [x0, x1, x2] h := evalFn_run tfn_queue_heaped_Less k _ h
theorem call_queue_heaped_Pop (k : Nat) (x0 : AV) (h : Heap) : evalFn tab (k + 1) f_queue_heaped_Pop [x0] h = runF tab k queue_heaped_Pop_mf [x0] h := evalFn_run tfn_queue_heaped_Pop k _ h
theorem call_queue_heaped_Push (k : Nat) (x0 x1 : AV) (h : Heap) : evalFn tab (k + 1) f_queue_heaped_Push [x0, x1] h = runF tab k queue_heaped_Push_mf [x0, x1] h := evalFn_run tfn_queue_heaped_Push k _ h
theorem call_queue_heaped_Swap (k : Nat) (x0 x1 x2 : AV) (h : Heap) : evalFn tab (k + 1) f_queue_heaped_Swap [x0, x1, x2] h = runF tab k queue_heaped_Swap_mf [x0, x1, x2] h := evalFn_run tfn_queue_heaped_Swap k _ h
theorem call_queue_heaped_place (k : Nat) (x0 x1 : AV) (h : Heap) : evalFn tab (k + 1) f_queue_heaped_place [x0, x1] h = runF tab k queue_heaped_place_mf [x0, x1] h := evalFn_run tfn_queue_heaped_place k _ h
set_option maxRecDepth 100000 in
theorem methOk : MethOk Go.Proofs.Try.prog tab := by
  have all : ∀ p ∈ methL, ∀ a w, (method (Go.Proofs.Try.prog.types.size + Made.depth) p.1 (.pointer (some a)) p.2.1).run Go.Proofs.Try.prog w = .ok (p.2.2, .pointer (some a)) w := by
    intro p hp
    simp only [methL, List.mem_cons, List.not_mem_nil, or_false] at hp
    rcases hp with rfl | rfl | rfl | rfl | rfl | rfl <;> exact fun a w => by kernel_rfl
  intro t nm f h a w
  have h2 : (methL.find? fun p => p.1 == t && p.2.1 == nm).map (·.2.2) = some f := h
  rw [Option.map_eq_some_iff] at h2
  obtain ⟨p, h3, h4⟩ := h2
  have h5 := List.find?_some h3
  rw [Bool.and_eq_true, beq_iff_eq, beq_iff_eq] at h5
  have h6 := all p (List.mem_of_find?_eq_some h3) a w
  rw [h5.1, h5.2, h4] at h6
  exact h6
theorem valid : Valid Go.Proofs.Try.prog tab := tabOf_valid methOk
end Go.Gm.A9

set_option linter.unusedVariables false
set_option linter.unusedSimpArgs false
set_option linter.unusedSectionVars false
namespace Go.Gm.A9
open Go Go.Gm

theorem within9_spec {a n : Int} (hn : 0 < n) (hf : Fit n) (h : Heap) : Tot tab f_milestonelaw9_within [I a, I n] h fun v h' => v = I (a % n) ∧ h = h' := by
  refine WP.tot (fun k => (call_milestonelaw9_within k _ _ h).trans (milestonelaw9_within_eq tab k _ _ h)) ?_
  refine WP.oa (bin_rem a n (by omega)) ?_
  refine WP.oa (bin_lss _ _) ?_
  have hlt := Int.tmod_lt_of_pos a hn
  have hgt := Int.lt_tmod_of_pos a hn
  have h1 := Int.tmod_eq_emod (a := a) (b := n)
  have h2 := Int.emod_nonneg a (by omega : n ≠ 0)
  have h3 := Int.emod_lt_of_pos a hn
  by_cases h0 : a.tmod n < 0
  · simp only [decide_eq_true h0, cond2_true]
    refine WP.oa (bin_add _ _ (by unfold Fit at *; omega)) (WP.ret ⟨?_, rfl⟩)
    congr 1
    split at h1 <;> omega
  · simp only [decide_eq_false h0, cond2_false]
    refine WP.ret ⟨?_, rfl⟩
    congr 1
    split at h1 <;> omega
end Go.Gm.A9

